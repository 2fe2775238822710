/- For any column and any number: of each number exactly one of less, equal, greater holds, and the other comparisons are made of these. No condition (the law itself asks nothing of more than 200). -/
import Derived.Test.YtpponaflfpafnaaPureC
import Derived.Test.YtpponaflfpafnaaXAllx16
namespace Go.Proofs.Ytpponaflfpafnaa.Pure
open Go.RowKit Go.Proofs.Ytpponaflfpafnaa.XAll Go.Proofs.YtpponaflfpafnaaW.PrintWords Go.Proofs.YtpponaflfpafnaaW.PrintLast
set_option linter.unusedVariables false

theorem cnt_or (p q r : Nat → Bool) (h : ∀ j, r j = (p j || q j)) (h2 : ∀ j, (p j && q j) = false) (d : Nat) : ∀ i, (selF r i d).length = (selF p i d).length + (selF q i d).length := by
  induction d with
  | zero => intro i; simp [selF]
  | succ d ih =>
    intro i
    have := ih (i + 1)
    have a := h i
    have b := h2 i
    simp only [selF]
    cases hp : p i <;> cases hq : q i <;> simp [hp, hq] at a b <;> simp [a] <;> omega
theorem cnt_all (d : Nat) : ∀ i, (selF (fun _ => true) i d).length = d := by
  induction d with
  | zero => intro i; simp [selF]
  | succ d ih => intro i; simp [selF, ih]
theorem cnt_none (d : Nat) : ∀ i, selF (fun _ => false) i d = [] := by
  induction d with
  | zero => intro i; simp [selF]
  | succ d ih => intro i; simp [selF, ih]
theorem parts_end (l : List Int) (x : Int) (hl : l.length ≤ 200) (c : Int → Nat) (hc : ∀ o, c o = (selF (fun j => holdsB o (rd l j) x) 0 l.length).length) (k : Nat) (hk : 1000 < k) :
    ergolaw03_ColumnParts.l0 k l x [(c 0 : Int), (c 1 : Int), (c 2 : Int), (c 3 : Int), (c 4 : Int), (c 5 : Int)] 6 = some true := by
  obtain ⟨k, rfl⟩ : ∃ m, k = m + 1 := ⟨k - 1, by omega⟩
  have h34 : l.length = c 3 + c 4 := by
    rw [hc, hc]
    exact (cnt_all l.length 0).symm.trans (cnt_or (fun j => holdsB 3 (rd l j) x) (fun j => holdsB 4 (rd l j) x) (fun _ => true) (fun j => by simp only [holdsB]; rw [Bool.eq_iff_iff]; simp; omega) (fun j => by simp only [holdsB]; rw [Bool.eq_iff_iff]; simp) l.length 0)
  have h1 : c 1 = c 2 + c 4 := by
    rw [hc, hc, hc]
    exact cnt_or _ _ _ (fun j => by simp only [holdsB]; rw [Bool.eq_iff_iff]; simp; omega) (fun j => by simp only [holdsB]; rw [Bool.eq_iff_iff]; simp; omega) l.length 0
  have h3 : c 3 = c 0 + c 2 := by
    rw [hc, hc, hc]
    exact cnt_or _ _ _ (fun j => by simp only [holdsB]; rw [Bool.eq_iff_iff]; simp; omega) (fun j => by simp only [holdsB]; rw [Bool.eq_iff_iff]; simp; omega) l.length 0
  have h5 : c 5 = c 0 + c 4 := by
    rw [hc, hc, hc]
    exact cnt_or _ _ _ (fun j => by simp only [holdsB]; rw [Bool.eq_iff_iff]; simp; omega) (fun j => by simp only [holdsB]; rw [Bool.eq_iff_iff]; simp; omega) l.length 0
  have h024 : c 0 + c 2 + c 4 = l.length := by omega
  have ha : andL (selF (fun j => holdsB 3 (rd l j) x) 0 l.length) (selF (fun j => holdsB 5 (rd l j) x) 0 l.length) = selF (fun j => holdsB 0 (rd l j) x) 0 l.length := by
    rw [andL_selF]
    exact selF_congr _ _ (fun j _ _ => by simp only [holdsB]; rw [Bool.eq_iff_iff]; simp; omega)
  have hb : andL (selF (fun j => holdsB 2 (rd l j) x) 0 l.length) (selF (fun j => holdsB 5 (rd l j) x) 0 l.length) = [] := by
    rw [andL_selF, ← cnt_none l.length 0]
    exact selF_congr _ _ (fun j _ _ => by simp only [holdsB]; rw [Bool.eq_iff_iff]; simp)
  have w2 := where_f 2 x l hl k (by omega)
  have w3 := where_f 3 x l hl k (by omega)
  have w5 := where_f 5 x l hl k (by omega)
  have l2 := selF_le (fun j => holdsB 2 (rd l j) x) l.length 0
  have l3 := selF_le (fun j => holdsB 3 (rd l j) x) l.length 0
  have l5 := selF_le (fun j => holdsB 5 (rd l j) x) l.length 0
  have e0 : (selF (fun j => holdsB 0 (rd l j) x) 0 l.length).length = c 0 := (hc 0).symm
  clear hc
  generalize selF (fun j => holdsB 2 (rd l j) x) 0 l.length = S2 at *
  generalize selF (fun j => holdsB 3 (rd l j) x) 0 l.length = S3 at *
  generalize selF (fun j => holdsB 5 (rd l j) x) 0 l.length = S5 at *
  generalize selF (fun j => holdsB 0 (rd l j) x) 0 l.length = S0 at *
  have a1 := and_f S3 S5 (by omega) (by omega) k (by omega)
  have a2 := and_f S2 S5 (by omega) (by omega) k (by omega)
  rw [ha] at a1
  rw [hb] at a2
  simp only [ergolaw03_ColumnParts.l0]
  rw [if_neg (by decide), w2, Option.bind_some, w3, Option.bind_some, w5, Option.bind_some, a1, Option.bind_some, a2, Option.bind_some, e0]
  have r0 : rd [(c 0 : Int), (c 1 : Int), (c 2 : Int), (c 3 : Int), (c 4 : Int), (c 5 : Int)] 0 = (c 0 : Int) := rfl
  have r1 : rd [(c 0 : Int), (c 1 : Int), (c 2 : Int), (c 3 : Int), (c 4 : Int), (c 5 : Int)] 1 = (c 1 : Int) := rfl
  have r2 : rd [(c 0 : Int), (c 1 : Int), (c 2 : Int), (c 3 : Int), (c 4 : Int), (c 5 : Int)] 2 = (c 2 : Int) := rfl
  have r3 : rd [(c 0 : Int), (c 1 : Int), (c 2 : Int), (c 3 : Int), (c 4 : Int), (c 5 : Int)] 3 = (c 3 : Int) := rfl
  have r4 : rd [(c 0 : Int), (c 1 : Int), (c 2 : Int), (c 3 : Int), (c 4 : Int), (c 5 : Int)] 4 = (c 4 : Int) := rfl
  have r5 : rd [(c 0 : Int), (c 1 : Int), (c 2 : Int), (c 3 : Int), (c 4 : Int), (c 5 : Int)] 5 = (c 5 : Int) := rfl
  rw [r0, r1, r2, r3, r4, r5]
  clear ha hb l2 l3 l5 e0 r0 r1 r2 r3 r4 r5 a1 a2 w2 w3 w5
  generalize c 0 = c0 at *
  generalize c 1 = c1 at *
  generalize c 2 = c2 at *
  generalize c 3 = c3 at *
  generalize c 4 = c4 at *
  generalize c 5 = c5 at *
  simp only [List.length_cons, List.length_nil]
  rw [wrap_in (x := (c0 : Int) + (c2 : Int)) (by unfold I64; omega), wrap_in (x := (c0 : Int) + (c2 : Int) + (c4 : Int)) (by unfold I64; omega), wrap_in (x := (c2 : Int) + (c4 : Int)) (by unfold I64; omega), wrap_in (x := (c0 : Int) + (c4 : Int)) (by unfold I64; omega)]
  rw [if_pos (by omega), if_pos (by omega), if_pos (by omega), if_pos (by omega), if_pos (by omega), if_pos (by omega), if_pos (by omega), if_pos (by omega), if_pos (by omega), if_pos (by omega), if_pos trivial]
  rfl
theorem ColumnParts : ergolaw03_ColumnParts.Pure := by
  intro l x _ _ _ _
  refine ⟨2000, ?_⟩
  unfold ergolaw03_ColumnParts.f
  rw [head_f _ (by omega)]
  simp only [Option.bind_some, if_true]
  by_cases c : (l.length : Int) > 200
  · rw [if_pos c]
  · rw [if_neg c]
    have hl : l.length ≤ 200 := by omega
    have h6 := parts_end l x hl (fun o => (selF (fun j => holdsB o (rd l j) x) 0 l.length).length) (fun o => rfl) 1994 (by omega)
    have step : ∀ (k : Nat) (o : Int) (acc : List Int), 200 < k → o ≤ 5 → 0 ≤ o → acc.length ≤ 6 → ergolaw03_ColumnParts.l0 (k + 1) l x acc o = ergolaw03_ColumnParts.l0 k l x (acc ++ [((selF (fun j => holdsB o (rd l j) x) 0 l.length).length : Int)]) (o + 1) := by
      intro k o acc hk h5 h0 ha
      simp only [ergolaw03_ColumnParts.l0]
      rw [if_pos h5, where_f o x l hl k (by omega)]
      simp only [Option.bind_some]
      rw [if_pos (by omega), wrap_in (by unfold I64; omega)]
    rw [step 1999 0 [] (by omega) (by omega) (by omega) (by simp), step 1998 (0 + 1) _ (by omega) (by omega) (by omega) (by simp), step 1997 (0 + 1 + 1) _ (by omega) (by omega) (by omega) (by simp), step 1996 (0 + 1 + 1 + 1) _ (by omega) (by omega) (by omega) (by simp), step 1995 (0 + 1 + 1 + 1 + 1) _ (by omega) (by omega) (by omega) (by simp), step 1994 (0 + 1 + 1 + 1 + 1 + 1) _ (by omega) (by omega) (by omega) (by simp)]
    exact h6

end Go.Proofs.Ytpponaflfpafnaa.Pure
