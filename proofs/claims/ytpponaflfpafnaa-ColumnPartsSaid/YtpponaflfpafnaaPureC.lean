/- More of what the printed functions of package column compute: Both, Gather, And, and the sameness of rows. -/
import Derived.Test.YtpponaflfpafnaaPureB
import Derived.Test.YtpponaflfpafnaaXAllx8
import Derived.Test.YtpponaflfpafnaaXAllx10
import Derived.Test.YtpponaflfpafnaaXAllx11
import Derived.Test.YtpponaflfpafnaaXAllx14
namespace Go.Proofs.Ytpponaflfpafnaa.Pure
open Go.RowKit Go.Proofs.Ytpponaflfpafnaa.XAll Go.Proofs.YtpponaflfpafnaaW.PrintWords Go.Proofs.YtpponaflfpafnaaW.PrintLast
set_option linter.unusedVariables false

theorem mn_nat (a b : Nat) : mn (a : Int) (b : Int) = ((min a b : Nat) : Int) := by unfold mn; split <;> omega

theorem both_l0 (o : Int) (l m : List Int) (hn : l.length ≤ 200) (n : Nat) (hm : n = min l.length m.length) (d : Nat) : ∀ (k i : Nat) (acc : List Int), i + d = n → d < k → acc.length ≤ i →
    column_Both.l0 k o l m acc (n : Int) (i : Int) = some (acc ++ selF (fun j => holdsB o (rd l j) (rd m j)) i d) := by
  induction d with
  | zero =>
    intro k i acc hd hk ha
    obtain ⟨k, rfl⟩ : ∃ m, k = m + 1 := ⟨k - 1, by omega⟩
    simp only [column_Both.l0]
    rw [if_neg (by omega)]
    simp [selF]
  | succ d ih =>
    intro k i acc hd hk ha
    obtain ⟨k, rfl⟩ : ∃ m, k = m + 1 := ⟨k - 1, by omega⟩
    have hw : wrap64 ((i : Int) + 1) = ((i + 1 : Nat) : Int) := by unfold wrap64; omega
    simp only [column_Both.l0, selF]
    rw [if_pos (by omega), if_pos (by omega), if_pos (by omega), if_pos (by omega), holds_f, hw]
    simp only [Option.bind_some]
    by_cases c : holdsB o (rd l i) (rd m i) = true
    · rw [if_pos c, if_pos (by omega), if_pos c, ih k (i + 1) _ (by omega) (by omega) (by simp; omega)]
      simp
    · rw [if_neg c, if_neg c, ih k (i + 1) _ (by omega) (by omega) (by omega)]
theorem both_f (o : Int) (l m : List Int) (hn : l.length ≤ 200) (k : Nat) (hk : l.length < k) : column_Both.f k o l m = some (selF (fun j => holdsB o (rd l j) (rd m j)) 0 (min l.length m.length)) := by
  unfold column_Both.f
  rw [mn_nat]
  exact both_l0 o l m hn _ rfl _ k 0 [] (by omega) (by omega) (by simp)

/-- The numbers of l at the places s; places that there are not are left out. -/
def gath (l : List Int) : List Int → List Int
  | [] => []
  | x :: s => if 0 ≤ x ∧ x < (l.length : Int) then rd l x :: gath l s else gath l s
theorem gath_le (l : List Int) : ∀ s, (gath l s).length ≤ s.length
  | [] => by simp [gath]
  | x :: s => by
    have := gath_le l s
    simp only [gath]
    split <;> simp <;> omega
theorem gath_snoc (l : List Int) (x : Int) : ∀ s, gath l (s ++ [x]) = gath l s ++ gath l [x]
  | [] => by simp [gath]
  | y :: s => by
    have := gath_snoc l x s
    simp only [List.cons_append, gath] at this ⊢
    split <;> simp [this]
theorem gath_take (l s : List Int) (i : Nat) (h : i < s.length) : gath l (s.take (i + 1)) = gath l (s.take i) ++ gath l [s[i]] := by
  rw [List.take_succ_eq_append_getElem h, gath_snoc]

theorem gather_l0 (l s : List Int) (hs : s.length ≤ 200) (d : Nat) : ∀ (k i : Nat), i + d = s.length → d < k →
    column_Gather.l0 k l (gath l (s.take i)) s (s.length : Int) (i : Int) = some (gath l s) := by
  induction d with
  | zero =>
    intro k i hd hk
    obtain ⟨k, rfl⟩ : ∃ m, k = m + 1 := ⟨k - 1, by omega⟩
    simp only [column_Gather.l0]
    rw [if_neg (by omega), List.take_of_length_le (by omega)]
  | succ d ih =>
    intro k i hd hk
    obtain ⟨k, rfl⟩ : ∃ m, k = m + 1 := ⟨k - 1, by omega⟩
    have hw : wrap64 ((i : Int) + 1) = ((i + 1 : Nat) : Int) := by unfold wrap64; omega
    have hlt : i < s.length := by omega
    have hg := gath_take l s i hlt
    have hle := gath_le l (s.take i)
    have hlt2 : (s.take i).length ≤ i := List.length_take_le _ _
    simp only [column_Gather.l0]
    rw [if_pos (by omega), if_pos (by omega), if_pos (by omega), rd_at s i hlt, hw]
    have ih' := ih k (i + 1) (by omega) (by omega)
    rw [hg] at ih'
    generalize s[i] = x at *
    by_cases c0 : x ≥ 0
    · rw [if_pos c0]
      by_cases c1 : x < (l.length : Int)
      · rw [if_pos c1, if_pos c0, if_pos (by omega)]
        rwa [show gath l [x] = [rd l x] from by simp only [gath]; rw [if_pos ⟨c0, c1⟩]] at ih'
      · rw [if_neg c1]
        rwa [show gath l [x] = [] from by simp only [gath]; rw [if_neg (by omega)], List.append_nil] at ih'
    · rw [if_neg c0]
      rwa [show gath l [x] = [] from by simp only [gath]; rw [if_neg (by omega)], List.append_nil] at ih'
theorem gather_f (l s : List Int) (hs : s.length ≤ 200) (k : Nat) (hk : s.length < k) : column_Gather.f k l s = some (gath l s) := by
  unfold column_Gather.f
  exact gather_l0 l s hs s.length k 0 (by omega) hk

theorem same_l0 (l : List Int) (hl : l.length ≤ 1000) (d : Nat) : ∀ (k i : Nat), i + d = l.length → d < k → ergolaw03_same.l0 k l l (l.length : Int) (i : Int) = some true := by
  induction d with
  | zero =>
    intro k i hd hk
    obtain ⟨k, rfl⟩ : ∃ m, k = m + 1 := ⟨k - 1, by omega⟩
    simp only [ergolaw03_same.l0]
    rw [if_neg (by omega)]
  | succ d ih =>
    intro k i hd hk
    obtain ⟨k, rfl⟩ : ∃ m, k = m + 1 := ⟨k - 1, by omega⟩
    have hw : wrap64 ((i : Int) + 1) = ((i + 1 : Nat) : Int) := by unfold wrap64; omega
    have h1 : (i : Int) < (l.length : Int) := by omega
    have h2 : 0 ≤ (i : Int) := by omega
    simp only [ergolaw03_same.l0, h1, h2, if_true, hw]
    exact ih k (i + 1) (by omega) (by omega)
theorem same_f (l : List Int) (hl : l.length ≤ 1000) (k : Nat) (hk : l.length < k) : ergolaw03_same.f k l l = some true := by
  unfold ergolaw03_same.f
  rw [if_pos rfl]
  exact same_l0 l hl l.length k 0 (by omega) hk

/-- What two rising rows have both. -/
def andL : List Int → List Int → List Int
  | [], _ => []
  | _ :: _, [] => []
  | x :: a, y :: b => if x < y then andL a (y :: b) else if x > y then andL (x :: a) b else x :: andL a b
termination_by a b => a.length + b.length
theorem andL_nil (a : List Int) : andL a [] = [] := by cases a <;> simp [andL]
theorem nil_andL (a : List Int) : andL [] a = [] := by simp [andL]
theorem andL_lt {x y : Int} (a b : List Int) (h : x < y) : andL (x :: a) (y :: b) = andL a (y :: b) := by rw [andL, if_pos h]
theorem andL_gt {x y : Int} (a b : List Int) (h : x > y) : andL (x :: a) (y :: b) = andL (x :: a) b := by rw [andL, if_neg (by omega), if_pos h]
theorem andL_eq {x y : Int} (a b : List Int) (h0 : ¬ x < y) (h1 : ¬ x > y) : andL (x :: a) (y :: b) = x :: andL a b := by rw [andL, if_neg h0, if_neg h1]
theorem and_end (k : Nat) (a b acc : List Int) (i j : Int) : column_And.j1 (k + 1) a b acc i j false = some acc := by
  simp only [column_And.j1]
  rw [if_neg (by decide)]
theorem and_step (k : Nat) (a b acc : List Int) (i j : Nat) (hi : i < a.length) (hj : j < b.length) (ha : a.length ≤ 200) (hb : b.length ≤ 200) (hc : acc.length ≤ 200) : column_And.l0 (k + 1 + 1) a b acc (i : Int) (j : Int) =
    if a[i] < b[j] then column_And.l0 k a b acc ((i + 1 : Nat) : Int) (j : Int) else if a[i] > b[j] then column_And.l0 k a b acc (i : Int) ((j + 1 : Nat) : Int) else column_And.l0 k a b (acc ++ [a[i]]) ((i + 1 : Nat) : Int) ((j + 1 : Nat) : Int) := by
  have hwi : wrap64 ((i : Int) + 1) = ((i + 1 : Nat) : Int) := by unfold wrap64; omega
  have hwj : wrap64 ((j : Int) + 1) = ((j + 1 : Nat) : Int) := by unfold wrap64; omega
  have h1 : (i : Int) < (a.length : Int) := by omega
  have h2 : (j : Int) < (b.length : Int) := by omega
  have h3 : 0 ≤ (i : Int) := by omega
  have h4 : 0 ≤ (j : Int) := by omega
  have h5 : acc.length < 17592186044416 := by omega
  simp only [column_And.l0, column_And.j1, h1, h2, h3, h4, h5, if_true, decide_true, hwi, hwj, rd_at a i hi, rd_at b j hj]
theorem and_l0 (a b : List Int) (ha : a.length ≤ 200) (hb : b.length ≤ 200) (d : Nat) : ∀ (k i j : Nat) (acc : List Int), i ≤ a.length → j ≤ b.length → (a.length - i) + (b.length - j) ≤ d → 2 * d + 2 < k → acc.length ≤ i →
    column_And.l0 k a b acc (i : Int) (j : Int) = some (acc ++ andL (a.drop i) (b.drop j)) := by
  induction d with
  | zero =>
    intro k i j acc h0 h1 h2 hk h3
    obtain ⟨k, rfl⟩ : ∃ m, k = m + 1 + 1 := ⟨k - 2, by omega⟩
    simp only [column_And.l0]
    rw [if_neg (by omega), and_end, List.drop_of_length_le (by omega), nil_andL, List.append_nil]
  | succ d ih =>
    intro k i j acc h0 h1 h2 hk h3
    obtain ⟨k, rfl⟩ : ∃ m, k = m + 1 + 1 := ⟨k - 2, by omega⟩
    by_cases c0 : i < a.length
    · by_cases c1 : j < b.length
      · rw [and_step k a b acc i j c0 c1 ha hb (by omega)]
        have e0 : a.drop i = a[i] :: a.drop (i + 1) := List.drop_eq_getElem_cons c0
        have e1 : b.drop j = b[j] :: b.drop (j + 1) := List.drop_eq_getElem_cons c1
        have i1 := ih k (i + 1) j acc (by omega) h1 (by omega) (by omega) (by omega)
        have i2 := ih k i (j + 1) acc h0 (by omega) (by omega) (by omega) h3
        have i3 := ih k (i + 1) (j + 1) (acc ++ [a[i]]) (by omega) (by omega) (by omega) (by omega) (by simp; omega)
        rw [e1] at i1
        rw [e0] at i2
        rw [e0, e1]
        generalize a[i] = x at *
        generalize b[j] = y at *
        by_cases c2 : x < y
        · rw [if_pos c2, i1, andL_lt _ _ c2]
        · rw [if_neg c2]
          by_cases c3 : x > y
          · rw [if_pos c3, i2, andL_gt _ _ c3]
          · rw [if_neg c3, i3, andL_eq _ _ c2 c3, List.append_assoc]
            rfl
      · simp only [column_And.l0]
        rw [if_pos (by omega), show decide ((j : Int) < (b.length : Int)) = false from decide_eq_false (by omega), and_end, List.drop_of_length_le (i := j) (by omega), andL_nil, List.append_nil]
    · simp only [column_And.l0]
      rw [if_neg (by omega), and_end, List.drop_of_length_le (i := i) (by omega), nil_andL, List.append_nil]
theorem and_f (a b : List Int) (ha : a.length ≤ 200) (hb : b.length ≤ 200) (k : Nat) (hk : 2 * (a.length + b.length) + 2 < k) : column_And.f k a b = some (andL a b) := by
  unfold column_And.f
  have := and_l0 a b ha hb (a.length + b.length) k 0 0 [] (by omega) (by omega) (by omega) hk (by simp)
  simpa using this

theorem selF_head (p : Nat → Bool) (d : Nat) : ∀ i h t, selF p i d = h :: t → (i : Int) ≤ h := by
  induction d with
  | zero => intro i h t e; simp [selF] at e
  | succ d ih =>
    intro i h t e
    simp only [selF] at e
    split at e
    · injection e with e _
      omega
    · have := ih (i + 1) h t e
      omega
/-- The places at which both hold. -/
theorem andL_selF (p q : Nat → Bool) (d : Nat) : ∀ i, andL (selF p i d) (selF q i d) = selF (fun j => p j && q j) i d := by
  induction d with
  | zero => intro i; simp [selF, andL]
  | succ d ih =>
    intro i
    have h := ih (i + 1)
    simp only [selF]
    by_cases cp : p i = true
    · by_cases cq : q i = true
      · rw [if_pos cp, if_pos cq, if_pos (by simp [cp, cq]), andL_eq _ _ (by omega) (by omega), h]
      · rw [if_pos cp, if_neg cq, if_neg (by simp [cq])]
        rw [← h]
        rcases hq : selF q (i + 1) d with _ | ⟨y, t⟩
        · rw [andL_nil, andL_nil]
        · have := selF_head q d (i + 1) y t hq
          rw [andL_lt _ _ (by omega)]
    · by_cases cq : q i = true
      · rw [if_neg cp, if_pos cq, if_neg (by simp [cp])]
        rw [← h]
        rcases hp : selF p (i + 1) d with _ | ⟨y, t⟩
        · rw [nil_andL, nil_andL]
        · have := selF_head p d (i + 1) y t hp
          rw [andL_gt _ _ (by omega)]
      · rw [if_neg cp, if_neg cq, if_neg (by simp [cp])]
        exact h

end Go.Proofs.Ytpponaflfpafnaa.Pure
