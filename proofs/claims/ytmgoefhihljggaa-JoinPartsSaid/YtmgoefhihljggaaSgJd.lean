/- symMerge, plain: the parts of two sorted runs, and what two merges of them make. -/
import Derived.Test.YtmgoefhihljggaaSgJc
namespace Go.Proofs.Ytmgoefhihljggaa.Sg
open Go.RowKit Go.Shelf
set_option linter.unusedVariables false
set_option linter.unusedSimpArgs false

theorem rlt_le {y x u : Row} (h : rlt y x) (k : ¬ rlt u x) : rlt y u := by
  rcases rlt_tri y u with h1 | h1 | h1
  · exact h1
  · subst h1; exact absurd h k
  · exact absurd (rlt_trans h1 h) k
theorem sLt_key {x y : Side} (h : sLt x y) : ¬ rlt y.1 x.1 := fun k => by
  rcases h with h | ⟨h, _⟩
  · exact rlt_asymm h k
  · rw [h] at k; exact rlt_irrefl _ k
theorem pw_le {U : List Side} (hU : U.Pairwise sLt) {i j : Nat} (hi : i < U.length) (hj : j < U.length) (h : i ≤ j) : ¬ rlt U[j].1 U[i].1 := by
  by_cases e : i = j
  · subst e; exact rlt_irrefl _
  · exact sLt_key (List.pairwise_iff_getElem.1 hU i j hi hj (by omega))
/-- A list sorted by key and row rises. -/
theorem rises_of {X : List Side} (h : X.Pairwise sLt) : Rises X := fun i j hi hj q => pw_le h hi hj q
theorem sm_halves {U V : List Side} (hU : U.Pairwise sLt) (hV : V.Pairwise sLt) (hr : ∀ x ∈ U, ∀ y ∈ V, x.2 < y.2) {u v : Nat} (hu : u ≤ U.length) (hv : v ≤ V.length)
    (h1 : ∀ (p : 0 < u) (q : v < V.length), ¬ rlt (V[v]).1 (U[u - 1]'(by omega)).1) (h2 : ∀ (p : u < U.length) (q : 0 < v), rlt (V[v - 1]'(by omega)).1 (U[u]).1) :
    ∀ x ∈ U.take u ++ V.take v, ∀ y ∈ U.drop u ++ V.drop v, sLt x y := by
  have tU := hU
  have tV := hV
  rw [← List.take_append_drop u U, List.pairwise_append] at tU
  rw [← List.take_append_drop v V, List.pairwise_append] at tV
  intro x hx y hy
  rcases List.mem_append.1 hx with hx | hx <;> rcases List.mem_append.1 hy with hy | hy
  · exact tU.2.2 x hx y hy
  · obtain ⟨i, hi, rfl⟩ := List.getElem_of_mem hx
    obtain ⟨j, hj, rfl⟩ := List.getElem_of_mem hy
    rw [List.length_take] at hi
    rw [List.length_drop] at hj
    rw [List.getElem_take, List.getElem_drop]
    have hiu : i < U.length := by omega
    have hjv : v + j < V.length := by omega
    have hrow := hr _ (List.getElem_mem hiu) _ (List.getElem_mem hjv)
    have hk : ¬ rlt (V[v + j]).1 (U[i]).1 := fun k => by
      have a1 := pw_le hU hiu (show u - 1 < U.length by omega) (by omega)
      have a2 := rlt_le k a1
      have a3 := pw_le hV (show v < V.length by omega) hjv (by omega)
      exact h1 (by omega) (by omega) (rlt_of_le a3 a2)
    rcases rlt_tri (U[i]).1 (V[v + j]).1 with h | h | h
    · exact .inl h
    · exact .inr ⟨h, hrow⟩
    · exact absurd h hk
  · obtain ⟨j, hj, rfl⟩ := List.getElem_of_mem hx
    obtain ⟨i, hi, rfl⟩ := List.getElem_of_mem hy
    rw [List.length_take] at hj
    rw [List.length_drop] at hi
    rw [List.getElem_take, List.getElem_drop]
    have hiu : u + i < U.length := by omega
    have hjv : j < V.length := by omega
    have b1 := pw_le hV hjv (show v - 1 < V.length by omega) (by omega)
    have b2 := pw_le hU (show u < U.length by omega) hiu (by omega)
    exact .inl (rlt_le (rlt_of_le b1 (h2 (by omega) (by omega))) b2)
  · exact tV.2.2 x hx y hy
/-- Two merged halves make the whole. -/
theorem sm_join {U V M1 M2 : List Side} {u v : Nat} (p1 : M1.Perm (U.take u ++ V.take v)) (p2 : M2.Perm (U.drop u ++ V.drop v)) (s1 : M1.Pairwise sLt) (s2 : M2.Pairwise sLt) (h : ∀ x ∈ U.take u ++ V.take v, ∀ y ∈ U.drop u ++ V.drop v, sLt x y) :
    (M1 ++ M2).Perm (U ++ V) ∧ (M1 ++ M2).Pairwise sLt := by
  constructor
  · have e : (U.take u ++ V.take v ++ (U.drop u ++ V.drop v)).Perm (U ++ V) := by
      have q : (U.take u ++ V.take v ++ (U.drop u ++ V.drop v)).Perm ((U.take u ++ U.drop u) ++ (V.take v ++ V.drop v)) := by
        rw [List.append_assoc, List.append_assoc]
        refine List.Perm.append_left _ ?_
        rw [← List.append_assoc, ← List.append_assoc]
        exact List.Perm.append_right _ List.perm_append_comm
      rwa [List.take_append_drop, List.take_append_drop] at q
    exact (p1.append p2).trans e
  · rw [List.pairwise_append]
    exact ⟨s1, s2, fun x hx y hy => h x (p1.mem_iff.1 hx) y (p2.mem_iff.1 hy)⟩
end Go.Proofs.Ytmgoefhihljggaa.Sg
