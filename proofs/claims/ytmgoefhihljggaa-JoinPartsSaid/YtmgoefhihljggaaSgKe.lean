/- JoinTurned, plain: the pairs of sets that are changed about; a set with itself. -/
import Derived.Test.YtmgoefhihljggaaSgKa
namespace Go.Proofs.Ytmgoefhihljggaa.Sg
open Go.RowKit Go.Shelf
set_option linter.unusedVariables false
set_option linter.unusedSimpArgs false

theorem pLt_nodup {l : List (Int × Int)} (h : l.Pairwise pLt) : l.Nodup := h.imp fun {a b} h e => by subst e; exact pLt_irrefl _ h
theorem getD_getElem? {KS : List Row} {t : Nat} {r : Row} : KS[t]? = some r → KS.getD t [] = r := fun h => by simp [List.getD_eq_getElem?_getD, h]
theorem mem_turn {KA KB : List Row} {p : Int × Int} (hp : p ∈ prs KA KB KA.length) : (p.2, p.1) ∈ prs KB KA KB.length := by
  obtain ⟨t, j, rfl, ht, hj⟩ := mem_prs.1 hp
  refine mem_prs.2 ⟨j, t, rfl, (List.getElem?_eq_some_iff.1 hj).1, ?_⟩
  rw [getD_getElem? hj]
  simp [List.getD_eq_getElem?_getD, ht]
theorem turn_length (KA KB : List Row) : (prs KA KB KA.length).length = (prs KB KA KB.length).length := by
  have h : ((prs KA KB KA.length).map fun p => (p.2, p.1)).Perm (prs KB KA KB.length) := by
    refine (List.perm_ext_iff_of_nodup ?_ (pLt_nodup (prs_rising _ _ _))).2 fun x => ?_
    · unfold List.Nodup
      rw [List.pairwise_map]
      refine (pLt_nodup (prs_rising KA KB KA.length)).imp ?_
      intro a b h e
      injection e with e1 e2
      exact h (Prod.ext e2 e1)
    · rw [List.mem_map]
      constructor
      · rintro ⟨p, hp, rfl⟩; exact mem_turn hp
      · intro hx
        exact ⟨(x.2, x.1), mem_turn hx, rfl⟩
  have := h.length_eq
  rwa [List.length_map] at this
/-- Is a pair, turned about, among the first t? -/
def fnd (Q : List (Int × Int)) (x1 x2 : Int) (t : Nat) : Bool := (Q.take t).any fun q => decide (q.1 = x2) && decide (q.2 = x1)
theorem fnd_zero (Q : List (Int × Int)) (x1 x2 : Int) : fnd Q x1 x2 0 = false := rfl
theorem fnd_succ {Q : List (Int × Int)} {x1 x2 : Int} {t : Nat} (h : t < Q.length) : fnd Q x1 x2 (t + 1) = (fnd Q x1 x2 t || (decide (Q[t].1 = x2) && decide (Q[t].2 = x1))) := by
  unfold fnd
  rw [List.take_succ_eq_append_getElem h, List.any_append]
  simp
theorem fnd_all {Q : List (Int × Int)} {x1 x2 : Int} (h : (x2, x1) ∈ Q) : fnd Q x1 x2 Q.length = true := by
  unfold fnd
  rw [List.take_length, List.any_eq_true]
  exact ⟨_, h, by simp⟩
def diag (n : Nat) : List (Int × Int) := (List.range n).map fun i : Nat => ((i : Int), (i : Int))
theorem diag_length (n : Nat) : (diag n).length = n := by simp [diag]
theorem diag_get {n i : Nat} (h : i < (diag n).length) : (diag n)[i] = ((i : Int), (i : Int)) := by simp [diag]
theorem prs_diag {L : List Row} (h : L.Nodup) : prs L L L.length = diag L.length := by
  refine rising_ext (prs_rising _ _ _) ?_ fun p => ?_
  · unfold diag
    rw [List.pairwise_map]
    refine List.Pairwise.imp ?_ List.pairwise_lt_range
    intro a b hab
    left
    simp only
    omega
  · rw [mem_prs]
    unfold diag
    rw [List.mem_map]
    constructor
    · rintro ⟨t, j, rfl, ht, hj⟩
      obtain ⟨hl, he⟩ := List.getElem?_eq_some_iff.1 hj
      have e : L.getD t [] = L[t] := by simp [List.getD_eq_getElem?_getD, ht]
      rw [e] at he
      have : j = t := (List.getElem_inj h).1 he
      subst this
      exact ⟨j, List.mem_range.2 ht, rfl⟩
    · rintro ⟨t, ht, rfl⟩
      have ht := List.mem_range.1 ht
      exact ⟨t, t, rfl, ht, by simp [List.getD_eq_getElem?_getD, ht]⟩
def allK (n : Nat) : List Int := (List.range n).map fun i : Nat => (i : Int)
theorem allK_length (n : Nat) : (allK n).length = n := by simp [allK]
theorem allK_succ (n : Nat) : allK (n + 1) = allK n ++ [(n : Int)] := by unfold allK; rw [List.range_succ, List.map_append]; rfl
theorem keyOf_all (r : Row) : ∀ n, n ≤ r.length → keyOf r (allK n) = r.take n
  | 0, _ => rfl
  | n + 1, h => by
    rw [allK_succ, keyOf_append, keyOf_all r n (by omega), List.take_succ_eq_append_getElem (by omega)]
    congr 1
    have hn : n < r.length := by omega
    show (if 0 ≤ (n : Int) ∧ (n : Int) < (r.length : Int) then r.getD (n : Int).toNat 0 :: keyOf r [] else keyOf r []) = [r[n]]
    rw [if_pos (by omega), Int.toNat_natCast]
    simp [keyOf, List.getD_eq_getElem?_getD, hn]
theorem keys_all {n : Nat} {L : List Row} (h : ∀ r ∈ L, r.length = n) : (L.map fun r => keyOf r (allK n)) = L := by
  conv => rhs; rw [← List.map_id L]
  refine List.map_congr_left fun r hr => ?_
  rw [keyOf_all r n (by rw [h r hr]; exact Nat.le_refl _), List.take_of_length_le (by rw [h r hr]; exact Nat.le_refl _)]
  rfl
end Go.Proofs.Ytmgoefhihljggaa.Sg
