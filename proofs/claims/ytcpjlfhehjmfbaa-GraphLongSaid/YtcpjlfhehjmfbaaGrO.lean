/- graph.Components, plain: which component waits for which, edge by edge. -/
import Derived.Test.YtcpjlfhehjmfbaaGrL
namespace Go.Proofs.Ytcpjlfhehjmfbaa.Gr
open Go.Proofs.Ytcpjlfhehjmfbaa.Sg
set_option linter.unusedVariables false
set_option linter.unusedSimpArgs false

def dep1 (n : Nat) (comp : Nat → Nat) (i : Nat) (l : Row) : List (Nat × Nat) := l.filterMap fun t => if 0 ≤ t ∧ t < (n : Int) ∧ comp t.toNat ≠ comp i then some (comp i, comp t.toNat) else none
def depsTo (n : Nat) (comp : Nat → Nat) (es : List Row) (i : Nat) : List (Nat × Nat) := (List.range i).flatMap fun u => dep1 n comp u (es.getD u [])
/-- Up to node i, and its first k edges. -/
def depsIn (n : Nat) (comp : Nat → Nat) (es : List Row) (i k : Nat) : List (Nat × Nat) := depsTo n comp es i ++ dep1 n comp i ((es.getD i []).take k)
theorem depsIn_zero (n : Nat) (comp : Nat → Nat) (es : List Row) (i : Nat) : depsIn n comp es i 0 = depsTo n comp es i := by simp [depsIn, dep1]
theorem depsTo_zero (n : Nat) (comp : Nat → Nat) (es : List Row) : depsTo n comp es 0 = [] := rfl
theorem depsIn_all (n : Nat) (comp : Nat → Nat) (es : List Row) (i : Nat) (k : Nat) (hk : k = (es.getD i []).length) : depsIn n comp es i k = depsTo n comp es (i + 1) := by
  subst hk
  unfold depsIn depsTo
  rw [List.take_length, List.range_succ, List.flatMap_append]
  simp
theorem dep1_snoc {n : Nat} {comp : Nat → Nat} {i : Nat} {l : Row} {k : Nat} (hk : k < l.length) : dep1 n comp i (l.take (k + 1)) = dep1 n comp i (l.take k) ++ (if 0 ≤ l[k] ∧ l[k] < (n : Int) ∧ comp (l[k]).toNat ≠ comp i then [(comp i, comp (l[k]).toNat)] else []) := by
  unfold dep1
  rw [List.take_succ_eq_append_getElem hk, List.filterMap_append]
  congr 1
  by_cases h : 0 ≤ l[k] ∧ l[k] < (n : Int) ∧ comp (l[k]).toNat ≠ comp i
  · simp only [List.filterMap_cons, List.filterMap_nil, if_pos h]
  · simp only [List.filterMap_cons, List.filterMap_nil, if_neg h]
theorem depsIn_no {n : Nat} {comp : Nat → Nat} {es : List Row} {i k : Nat} {t : Int} (hi : i < es.length) (hk : k < (es[i]).length) (ht : (es[i])[k] = t) (h : ¬ (0 ≤ t ∧ t < (n : Int) ∧ comp t.toNat ≠ comp i)) : depsIn n comp es i (k + 1) = depsIn n comp es i k := by
  have e : es.getD i [] = es[i] := by rw [List.getD_eq_getElem?_getD, List.getElem?_eq_getElem hi]; rfl
  unfold depsIn
  rw [e, dep1_snoc hk, ht, if_neg h, List.append_nil]
theorem depsIn_yes {n : Nat} {comp : Nat → Nat} {es : List Row} {i k : Nat} {t : Int} (hi : i < es.length) (hk : k < (es[i]).length) (ht : (es[i])[k] = t) (h : 0 ≤ t ∧ t < (n : Int) ∧ comp t.toNat ≠ comp i) : depsIn n comp es i (k + 1) = depsIn n comp es i k ++ [(comp i, comp t.toNat)] := by
  have e : es.getD i [] = es[i] := by rw [List.getD_eq_getElem?_getD, List.getElem?_eq_getElem hi]; rfl
  unfold depsIn
  rw [e, dep1_snoc hk, ht, if_pos h, List.append_assoc]
theorem dep1_len (n : Nat) (comp : Nat → Nat) (i : Nat) (l : Row) : (dep1 n comp i l).length ≤ l.length := List.length_filterMap_le _ _
def totTo (es : List Row) (i : Nat) : Nat := ((es.take i).map List.length).sum
def tot (es : List Row) : Nat := (es.map List.length).sum
theorem totTo_succ {es : List Row} {i : Nat} (h : i < es.length) : totTo es (i + 1) = totTo es i + (es.getD i []).length := by
  have e2 : es.getD i [] = es[i] := by rw [List.getD_eq_getElem?_getD, List.getElem?_eq_getElem h]; rfl
  rw [e2]
  unfold totTo
  rw [List.take_succ_eq_append_getElem h, List.map_append, List.sum_append]
  simp
theorem totTo_le (es : List Row) (i : Nat) : totTo es i ≤ tot es := by
  unfold totTo tot
  have : (es.map List.length).sum = ((es.take i).map List.length).sum + ((es.drop i).map List.length).sum := by
    rw [← List.sum_append, ← List.map_append, List.take_append_drop]
  omega
theorem depsTo_len (n : Nat) (comp : Nat → Nat) (es : List Row) : ∀ i, i ≤ es.length → (depsTo n comp es i).length ≤ totTo es i
  | 0, _ => by simp [depsTo]
  | i + 1, h => by
    have ih := depsTo_len n comp es i (by omega)
    have e : depsTo n comp es (i + 1) = depsTo n comp es i ++ dep1 n comp i (es.getD i []) := by
      unfold depsTo
      rw [List.range_succ, List.flatMap_append]; simp
    have hl := dep1_len n comp i (es.getD i [])
    rw [e, List.length_append, totTo_succ (by omega)]
    omega
theorem depsIn_len (n : Nat) (comp : Nat → Nat) (es : List Row) (i k : Nat) (hi : i < es.length) : (depsIn n comp es i k).length ≤ tot es := by
  have h1 := depsTo_len n comp es i (by omega)
  have h2 := dep1_len n comp i ((es.getD i []).take k)
  have h3 := totTo_le es (i + 1)
  rw [totTo_succ hi] at h3
  have h4 : ((es.getD i []).take k).length ≤ (es.getD i []).length := by rw [List.length_take]; omega
  unfold depsIn
  rw [List.length_append]
  omega
theorem depsTo_spec (n : Nat) (comp : Nat → Nat) (es : List Row) : DepsOf (adj n es) n comp (depsTo n comp es n) := by
  intro d c
  unfold depsTo
  rw [List.mem_flatMap]
  constructor
  · rintro ⟨v, hv, hm⟩
    rw [List.mem_range] at hv
    unfold dep1 at hm
    rw [List.mem_filterMap] at hm
    obtain ⟨t, ht, hte⟩ := hm
    by_cases q : 0 ≤ t ∧ t < (n : Int) ∧ comp t.toNat ≠ comp v
    · rw [if_pos q] at hte
      injection hte with hte
      injection hte with e1 e2
      subst e1; subst e2
      refine ⟨v, t.toNat, hv, ?_, rfl, rfl, Ne.symm q.2.2⟩
      unfold Edge adj
      rw [List.mem_map]
      exact ⟨t, ht, if_pos ⟨q.1, q.2.1⟩⟩
    · rw [if_neg q] at hte; cases hte
  · rintro ⟨v, t, hv, he, rfl, rfl, hne⟩
    refine ⟨v, List.mem_range.2 hv, ?_⟩
    unfold Edge adj at he
    rw [List.mem_map] at he
    obtain ⟨x, hx, hxe⟩ := he
    by_cases q : 0 ≤ x ∧ x < (n : Int)
    · rw [if_pos q] at hxe
      injection hxe with hxe
      unfold dep1
      rw [List.mem_filterMap]
      refine ⟨x, hx, ?_⟩
      rw [hxe, if_pos ⟨q.1, q.2, fun k => hne k.symm⟩]
    · rw [if_neg q] at hxe; cases hxe
theorem deps_ne {n : Nat} {comp : Nat → Nat} {es : List Row} : ∀ a b, (a, b) ∈ depsTo n comp es n → a ≠ b := fun a b h => by
  obtain ⟨_, _, _, _, _, _, h⟩ := (depsTo_spec n comp es a b).1 h
  exact h
theorem waits_snoc (deps : List (Nat × Nat)) (d c : Nat) : waitsOf (deps ++ [(d, c)]) [] = upd (waitsOf deps []) d (waitsOf deps [] d + 1) := by
  funext x
  unfold waitsOf
  rw [List.filter_append]
  by_cases h : x = d
  · subst h; rw [upd_same]; simp
  · rw [upd_ne _ _ _ h]; simp [Ne.symm h]
theorem back_snoc (deps : List (Nat × Nat)) (d c : Nat) : backOf (deps ++ [(d, c)]) = upd (backOf deps) c (backOf deps c ++ [d]) := by
  funext x
  unfold backOf
  rw [List.filter_append]
  by_cases h : x = c
  · subst h; rw [upd_same]; simp
  · rw [upd_ne _ _ _ h]; simp [Ne.symm h]
theorem waits_le (deps : List (Nat × Nat)) (O : List Nat) (d : Nat) : waitsOf deps O d ≤ deps.length := List.length_filter_le _ _
theorem back_le (deps : List (Nat × Nat)) (c : Nat) : (backOf deps c).length ≤ deps.length := by
  unfold backOf; rw [List.length_map]; exact List.length_filter_le _ _
theorem adj_edge {n : Nat} {es : List Row} : ∀ u t, Edge (adj n es) u t → t < n := fun u t h => by
  unfold Edge adj at h
  rw [List.mem_map] at h
  obtain ⟨x, _, hx⟩ := h
  by_cases q : 0 ≤ x ∧ x < (n : Int)
  · rw [if_pos q] at hx; injection hx with hx; omega
  · rw [if_neg q] at hx; cases hx
end Go.Proofs.Ytcpjlfhehjmfbaa.Gr
