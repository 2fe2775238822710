/- What the printed functions of package column compute, in plain words. -/
import Derived.Test.YtpponaflfpafnaaXAllx2
import Derived.Test.YtpponaflfpafnaaXAllx3
import Derived.Test.YtpponaflfpafnaaXAllx4
import Derived.Test.YtpponaflfpafnaaXAllx5
import Derived.Test.YtpponaflfpafnaaXAllx6
namespace Go.Proofs.Ytpponaflfpafnaa.Pure
open Go.RowKit Go.Proofs.Ytpponaflfpafnaa.XAll Go.Proofs.YtpponaflfpafnaaW.PrintWords Go.Proofs.YtpponaflfpafnaaW.PrintLast
set_option linter.unusedVariables false

def I64 (x : Int) : Prop := -9223372036854775808 ≤ x ∧ x ≤ 9223372036854775807
instance (x : Int) : Decidable (I64 x) := by unfold I64; infer_instance
theorem wrap_in {x : Int} (h : I64 x) : wrap64 x = x := by unfold I64 at h; unfold wrap64; omega
theorem wrap_range (x : Int) : I64 (wrap64 x) := by unfold I64 wrap64; omega
theorem i64_of_wf {a : Int} (h : (Lit.int .i64 a).wf = true) : I64 a := by
  simp only [Lit.wf, IntKind.min, IntKind.max, IntKind.signed, IntKind.bits, Bool.and_eq_true, decide_eq_true_eq, if_true] at h
  unfold I64
  omega
theorem rd_at (l : List Int) (i : Nat) (h : i < l.length) : rd l (i : Int) = l[i] := by
  unfold rd
  rw [Int.toNat_natCast, List.getD_eq_getElem?_getD, List.getElem?_eq_getElem h]
  rfl
theorem rd_mid (p q : List Int) (x : Int) : rd (p ++ x :: q) (p.length : Int) = x := by
  rw [rd_at _ _ (by simp)]
  simp

/-- Does the comparison numbered o hold? -/
def holdsB (o a b : Int) : Bool := if o = 2 then decide (a < b) else if o = 4 then decide (a > b) else if o = 3 then decide (a ≤ b) else if o = 0 then a == b else if o = 5 then decide (a ≥ b) else if o = 1 then a != b else false
theorem holds_f (o a b : Int) : column_Holds.f o a b = some (holdsB o a b) := by
  unfold column_Holds.f holdsB
  repeat' split
  all_goals first | rfl | (congr 1; rw [Bool.eq_iff_iff]; simp; omega)
theorem law_holds_f (o a b : Int) (h0 : 0 ≤ o) (h1 : o ≤ 5) : ergolaw03_Holds.f o a b = some (holdsB o a b) := by
  have h : o = 0 ∨ o = 1 ∨ o = 2 ∨ o = 3 ∨ o = 4 ∨ o = 5 := by omega
  unfold ergolaw03_Holds.f holdsB
  by_cases c : a < b
  · rw [if_pos c]
    rcases h with rfl | rfl | rfl | rfl | rfl | rfl
    all_goals (simp [rdOf]; (try rw [Bool.eq_iff_iff]); (try simp); (try omega))
  · rw [if_neg c]
    rcases h with rfl | rfl | rfl | rfl | rfl | rfl
    all_goals (simp [rdOf]; (try rw [Bool.eq_iff_iff]); (try simp); (try omega))

/-- The places from i on, d of them, at which p holds. -/
def selF (p : Nat → Bool) (i : Nat) : Nat → List Int
  | 0 => []
  | d + 1 => if p i = true then (i : Int) :: selF p (i + 1) d else selF p (i + 1) d
theorem selF_le (p : Nat → Bool) (d : Nat) : ∀ i, (selF p i d).length ≤ d := by
  induction d with
  | zero => intro i; simp [selF]
  | succ d ih =>
    intro i
    have := ih (i + 1)
    simp only [selF]
    split <;> simp <;> omega
theorem selF_congr {p q : Nat → Bool} (d : Nat) : ∀ i, (∀ j, i ≤ j → j < i + d → p j = q j) → selF p i d = selF q i d := by
  induction d with
  | zero => intro i _; rfl
  | succ d ih =>
    intro i h
    simp only [selF]
    rw [h i (by omega) (by omega), ih (i + 1) (fun j h0 h1 => h j (by omega) (by omega))]

theorem where_l0 (o x : Int) (l : List Int) (hn : l.length ≤ 200) (d : Nat) : ∀ (k i : Nat) (acc : List Int), i + d = l.length → d < k → acc.length ≤ i →
    column_Where.l0 k o x acc l (l.length : Int) (i : Int) = some (acc ++ selF (fun j => holdsB o (rd l j) x) i d) := by
  induction d with
  | zero =>
    intro k i acc hd hk ha
    obtain ⟨k, rfl⟩ : ∃ m, k = m + 1 := ⟨k - 1, by omega⟩
    simp only [column_Where.l0]
    rw [if_neg (by omega)]
    simp [selF]
  | succ d ih =>
    intro k i acc hd hk ha
    obtain ⟨k, rfl⟩ : ∃ m, k = m + 1 := ⟨k - 1, by omega⟩
    have hw : wrap64 ((i : Int) + 1) = ((i + 1 : Nat) : Int) := by unfold wrap64; omega
    simp only [column_Where.l0, selF]
    rw [if_pos (by omega), if_pos (by omega), if_pos (by omega), holds_f, hw]
    simp only [Option.bind_some]
    by_cases c : holdsB o (rd l i) x = true
    · rw [if_pos c, if_pos (by omega), if_pos c, ih k (i + 1) _ (by omega) (by omega) (by simp; omega)]
      simp
    · rw [if_neg c, if_neg c, ih k (i + 1) _ (by omega) (by omega) (by omega)]
theorem where_f (o x : Int) (l : List Int) (hn : l.length ≤ 200) (k : Nat) (hk : l.length < k) : column_Where.f k o l x = some (selF (fun j => holdsB o (rd l j) x) 0 l.length) := by
  unfold column_Where.f
  exact where_l0 o x l hn l.length k 0 [] (by omega) hk (by simp)

theorem fill_l0 (x : Int) (n : Nat) (hn : n ≤ 1000) (d : Nat) : ∀ (k i : Nat), i + d = n → d < k →
    column_Fill.l0 k x (List.replicate i x ++ List.replicate d 0) (n : Int) (i : Int) = some (List.replicate n x) := by
  induction d with
  | zero =>
    intro k i hd hk
    obtain ⟨k, rfl⟩ : ∃ m, k = m + 1 := ⟨k - 1, by omega⟩
    simp only [column_Fill.l0]
    rw [if_neg (by omega), show i = n from by omega]
    simp
  | succ d ih =>
    intro k i hd hk
    obtain ⟨k, rfl⟩ : ∃ m, k = m + 1 := ⟨k - 1, by omega⟩
    have hw : wrap64 ((i : Int) + 1) = ((i + 1 : Nat) : Int) := by unfold wrap64; omega
    simp only [column_Fill.l0]
    rw [if_pos (by omega), if_pos (by omega), if_pos (by simp; omega), hw]
    have e : (List.replicate i x ++ List.replicate (d + 1) 0).set ((i : Nat) : Int).toNat x = List.replicate (i + 1) x ++ List.replicate d 0 := by
      rw [Int.toNat_natCast, List.set_append_right _ _ (by simp)]
      rw [List.replicate_succ (n := d), List.replicate_succ' (n := i)]
      simp
    rw [e]
    exact ih k (i + 1) (by omega) (by omega)
theorem fill_f (n x : Int) (h : n ≤ 1000) (k : Nat) (hk : n.toNat < k) : column_Fill.f k n x = some (List.replicate n.toNat x) := by
  have hm : (mx n 0).toNat = n.toNat := by unfold mx; split <;> omega
  have hm0 : 0 ≤ mx n 0 := by unfold mx; split <;> omega
  unfold column_Fill.f
  rw [if_pos hm0, hm, if_pos (by omega)]
  simp only [Option.bind_some]
  have := fill_l0 x n.toNat (by omega) n.toNat k 0 (by omega) hk
  simpa using this
theorem head_f (k : Nat) (hk : 8 ≤ k) : ergolaw03_head.f k = some true := by
  unfold ergolaw03_head.f
  rw [where_f 5 5 [5, 2, 9] (by decide) k (by simp; omega), fill_f 3 7 (by decide) k (by simp; omega)]
  decide +kernel

end Go.Proofs.Ytpponaflfpafnaa.Pure
