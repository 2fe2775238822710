/- The join's pairs, plain: rising, and which they are. -/
import Derived.Test.YtmgoefhihljggaaSgYb
namespace Go.Proofs.Ytmgoefhihljggaa.Sg
open Go.RowKit Go.Shelf
set_option linter.unusedVariables false
set_option linter.unusedSimpArgs false

def pLt (p q : Int × Int) : Prop := p.1 < q.1 ∨ (p.1 = q.1 ∧ p.2 < q.2)
theorem pLt_irrefl (p : Int × Int) : ¬ pLt p p := fun h => by unfold pLt at h; omega
theorem pLt_trans {p q r : Int × Int} (h : pLt p q) (k : pLt q r) : pLt p r := by unfold pLt at *; omega
theorem which_rising (KB : List Row) (K : Row) : (which KB K).Pairwise (· < ·) := by
  have key : ∀ m, m ≤ KB.length → (which (KB.take m) K).Pairwise (· < ·) := by
    intro m
    induction m with
    | zero => intro _; exact List.Pairwise.nil
    | succ m ih =>
      intro hm
      rw [List.take_succ_eq_append_getElem (by omega), which_snoc]
      show List.Pairwise _ (if K = KB[m] then which (KB.take m) KB[m] ++ [((KB.take m).length : Int)] else which (KB.take m) K)
      by_cases e : K = KB[m]
      · subst e
        rw [if_pos rfl, List.pairwise_append]
        refine ⟨ih (by omega), by simp, fun x hx y hy => ?_⟩
        obtain ⟨j, rfl, hj⟩ := (which_mem _ _ _).1 hx
        have h1 := (List.getElem?_eq_some_iff.1 hj).1
        rw [List.mem_singleton.1 hy]
        omega
      · rw [if_neg e]
        exact ih (by omega)
  have := key KB.length (Nat.le_refl _)
  rwa [List.take_length] at this
theorem pairsIn_rising (KB : List Row) (K : Row) (i : Nat) : (pairsIn KB K i).Pairwise pLt := by
  unfold pairsIn
  rw [List.pairwise_map]
  exact (which_rising KB K).imp (fun h => .inr ⟨rfl, h⟩)
theorem prs_rising (KA KB : List Row) : ∀ i, (prs KA KB i).Pairwise pLt
  | 0 => List.Pairwise.nil
  | i + 1 => by
    rw [prs_succ, List.pairwise_append]
    refine ⟨prs_rising KA KB i, pairsIn_rising _ _ _, fun p hp q hq => ?_⟩
    obtain ⟨t, j, rfl, ht, _⟩ := prs_mem hp
    have h1 := (pairsIn_mem hq).1
    left
    rw [h1]
    simp only
    omega
theorem mem_prs {KA KB : List Row} {i : Nat} {p : Int × Int} : p ∈ prs KA KB i ↔ ∃ t j : Nat, p = ((t : Int), (j : Int)) ∧ t < i ∧ KB[j]? = some (KA.getD t []) := by
  refine ⟨prs_mem, ?_⟩
  rintro ⟨t, j, rfl, ht, hj⟩
  unfold prs
  rw [List.mem_flatMap]
  refine ⟨t, List.mem_range.2 ht, ?_⟩
  unfold pairsIn
  exact List.mem_map.2 ⟨(j : Int), (which_mem _ _ _).2 ⟨j, rfl, hj⟩, rfl⟩
/-- Two rising lists of the same pairs are the same. -/
theorem rising_ext : ∀ {a b : List (Int × Int)}, a.Pairwise pLt → b.Pairwise pLt → (∀ x, x ∈ a ↔ x ∈ b) → a = b
  | [], [], _, _, _ => rfl
  | [], y :: b, _, _, h => by have := (h y).2 (List.mem_cons_self ..); simp at this
  | x :: a, [], _, _, h => by have := (h x).1 (List.mem_cons_self ..); simp at this
  | x :: a, y :: b, ha, hb, h => by
    rw [List.pairwise_cons] at ha hb
    have e : x = y := by
      rcases List.mem_cons.1 ((h x).1 (List.mem_cons_self ..)) with e | h1
      · exact e
      · rcases List.mem_cons.1 ((h y).2 (List.mem_cons_self ..)) with e | h2
        · exact e.symm
        · exact absurd (pLt_trans (ha.1 y h2) (hb.1 x h1)) (pLt_irrefl x)
    subst e
    rw [rising_ext ha.2 hb.2 (fun z => ?_)]
    constructor
    · intro hz
      rcases List.mem_cons.1 ((h z).1 (List.mem_cons_of_mem _ hz)) with e | h1
      · subst e; exact absurd (ha.1 z hz) (pLt_irrefl z)
      · exact h1
    · intro hz
      rcases List.mem_cons.1 ((h z).2 (List.mem_cons_of_mem _ hz)) with e | h1
      · subst e; exact absurd (hb.1 z hz) (pLt_irrefl z)
      · exact h1
/-- What a merge yields, once it is sorted. -/
theorem merged_prs {KA KB : List Row} {l m : List (Int × Int)} (hp : m.Perm l) (hs : m.Pairwise pLt) (hm : ∀ p, p ∈ l ↔ ∃ t j : Nat, p = ((t : Int), (j : Int)) ∧ t < KA.length ∧ KB[j]? = some (KA.getD t [])) : m = prs KA KB KA.length :=
  rising_ext hs (prs_rising _ _ _) (fun x => by rw [hp.mem_iff, hm, mem_prs])

/-! ### sides: rows with their keys -/
def sLt (x y : Row × Int) : Prop := rlt x.1 y.1 ∨ (x.1 = y.1 ∧ x.2 < y.2)
theorem sLt_irrefl (x : Row × Int) : ¬ sLt x x := fun h => h.elim (rlt_irrefl _) (fun h => by omega)
theorem sLt_trans {x y z : Row × Int} (h : sLt x y) (k : sLt y z) : sLt x z := by
  rcases h with h | ⟨h1, h2⟩
  · rcases k with k | ⟨k1, k2⟩
    · exact .inl (rlt_trans h k)
    · exact .inl (k1 ▸ h)
  · rcases k with k | ⟨k1, k2⟩
    · exact .inl (by rw [h1]; exact k)
    · exact .inr ⟨h1.trans k1, by omega⟩
theorem sLt_tri (x y : Row × Int) : sLt x y ∨ x = y ∨ sLt y x := by
  rcases rlt_tri x.1 y.1 with h | h | h
  · exact .inl (.inl h)
  · rcases Int.lt_trichotomy x.2 y.2 with k | k | k
    · exact .inl (.inr ⟨h, k⟩)
    · exact .inr (.inl (Prod.ext h k))
    · exact .inr (.inr (.inr ⟨h.symm, k⟩))
  · exact .inr (.inr (.inl h))
end Go.Proofs.Ytmgoefhihljggaa.Sg
