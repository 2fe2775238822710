/- GraphLong, plain: a ring is one component, a chain has each node by itself, the last one first. -/
import Derived.Test.YtcpjlfhehjmfbaaGrV
namespace Go.Proofs.Ytcpjlfhehjmfbaa.Gr
set_option linter.unusedVariables false
set_option linter.unusedSimpArgs false

theorem page_ring {A : Adj} {n : Nat} {L : List (List Nat)} (hn : 0 < n) (h : Page A n L) (hf : ∀ i, i < n → i ∈ L.flatten) (hr : ∀ i j, i < n → j < n → R A i j) : L = [List.range n] := by
  have hall : ∀ c ∈ L, c = List.range n := fun c hc => by
    obtain ⟨i, hi, h2⟩ := h.cls hc
    refine lt_ext h2.1 List.pairwise_lt_range fun x => ?_
    rw [h2.2, List.mem_range]
    exact ⟨fun q => q.1, fun q => ⟨q, hr i x hi q, hr x i q hi⟩⟩
  cases L with
  | nil => have := hf 0 hn; simp at this
  | cons c M =>
    have hc := hall c (List.mem_cons_self ..)
    cases M with
    | nil => rw [hc]
    | cons d N =>
      have hd := hall d (by simp)
      have := h.nodup
      rw [List.nodup_cons] at this
      exact absurd (by rw [hc, hd]; exact List.mem_cons_self ..) this.1
theorem page_chain {A : Adj} {n : Nat} {L : List (List Nat)} (h : Page A n L) (hr : ∀ i j, i < n → j < n → (R A i j ↔ i ≤ j)) : ∀ k, k ≤ L.length → k ≤ n ∧ L.take k = (List.range k).map fun t => [n - 1 - t]
  | 0, _ => ⟨Nat.zero_le _, rfl⟩
  | k + 1, hk => by
    obtain ⟨h1, h2⟩ := page_chain h hr k (by omega)
    obtain ⟨i, i1, i2⟩ := h.step k (by omega)
    have hD : ∀ x, x ∈ (L.take k).flatten ↔ n - k ≤ x ∧ x < n := fun x => by
      rw [h2, List.mem_flatten]
      constructor
      · rintro ⟨c, hc, hx⟩
        obtain ⟨t, ht, rfl⟩ := List.mem_map.1 hc
        rw [List.mem_range] at ht
        rw [List.mem_singleton] at hx
        omega
      · rintro ⟨a, b⟩
        exact ⟨[x], List.mem_map.2 ⟨n - 1 - x, List.mem_range.2 (by omega), by congr 1; omega⟩, List.mem_singleton.2 rfl⟩
    have hin := i1.1.1
    have hiD : ¬ (n - k ≤ i ∧ i < n) := fun q => i1.1.2.1 ((hD i).2 q)
    have hkn : k < n := by omega
    have hi : i = n - 1 - k := by
      refine Classical.byContradiction fun hne => ?_
      have hlast : n - 1 - k < n := by omega
      rcases i1.1.2.2 (n - 1 - k) hlast ((hr i _ hin hlast).2 (by omega)) with q | q
      · have := (hr _ i hlast hin).1 q; omega
      · have := (hD _).1 q; omega
    have hc : L[k] = [i] := by
      refine lt_ext i2.1 (by simp) fun x => ?_
      rw [i2.2, List.mem_singleton]
      constructor
      · rintro ⟨a, b, c⟩
        have := (hr i x hin a).1 b
        have := (hr x i a hin).1 c
        omega
      · rintro rfl
        exact ⟨hin, .refl _, .refl _⟩
    refine ⟨by omega, ?_⟩
    rw [List.take_succ_eq_append_getElem (by omega), h2, hc, hi, List.range_succ, List.map_append]
    rfl
theorem page_chain_all {A : Adj} {n : Nat} {L : List (List Nat)} (h : Page A n L) (hf : ∀ i, i < n → i ∈ L.flatten) (hr : ∀ i j, i < n → j < n → (R A i j ↔ i ≤ j)) : L = (List.range n).map fun t => [n - 1 - t] := by
  obtain ⟨h1, h2⟩ := page_chain h hr L.length (Nat.le_refl _)
  rw [List.take_length] at h2
  have ht := h.total hf
  have hm : ∀ m : Nat, ((List.range m).map fun t => [n - 1 - t]).flatten.length = m := by
    intro m
    induction m with
    | zero => rfl
    | succ m ih => rw [List.range_succ, List.map_append, List.flatten_append, List.length_append, ih]; rfl
  have hl : L.flatten.length = L.length := (congrArg (fun l : List (List Nat) => l.flatten.length) h2).trans (hm _)
  rw [h2, show L.length = n by omega]
end Go.Proofs.Ytcpjlfhehjmfbaa.Gr
