/- GraphBack, plain: with all edges turned about the components are the same sets of nodes. -/
import Derived.Test.YtcpjlfhehjmfbaaGrP
namespace Go.Proofs.Ytcpjlfhehjmfbaa.Gr
set_option linter.unusedVariables false
set_option linter.unusedSimpArgs false

theorem IsCls.other {A : Adj} {n i j : Nat} {c : List Nat} (h : IsCls A n i c) (hj : j ∈ c) : IsCls A n j c := by
  obtain ⟨_, h1, h2⟩ := (h.2 j).1 hj
  refine ⟨h.1, fun x => ?_⟩
  rw [h.2]
  exact ⟨fun ⟨a, b, d⟩ => ⟨a, h2.trans b, d.trans h1⟩, fun ⟨a, b, d⟩ => ⟨a, h1.trans b, d.trans h2⟩⟩
theorem IsCls.self {A : Adj} {n i : Nat} {c : List Nat} (h : IsCls A n i c) (hi : i < n) : i ∈ c := (h.2 i).2 ⟨hi, .refl i, .refl i⟩
theorem Page.cls {A : Adj} {n : Nat} {L : List (List Nat)} (h : Page A n L) {c : List Nat} (hc : c ∈ L) : ∃ i, i < n ∧ IsCls A n i c := by
  obtain ⟨k, hk, rfl⟩ := List.getElem_of_mem hc
  obtain ⟨i, h1, h2⟩ := h.step k hk
  exact ⟨i, h1.1.1, h2⟩
theorem Page.has {A : Adj} {n : Nat} {L : List (List Nat)} (h : Page A n L) (hf : ∀ i, i < n → i ∈ L.flatten) {i : Nat} (hi : i < n) {c : List Nat} (hc : IsCls A n i c) : c ∈ L := by
  obtain ⟨d, hd, hid⟩ := List.mem_flatten.1 (hf i hi)
  obtain ⟨j, _, hj⟩ := h.cls hd
  rwa [hc.unique (hj.other hid)]
theorem Page.apart {A : Adj} {n : Nat} {L : List (List Nat)} (h : Page A n L) {k m : Nat} (hk : k < m) (hm : m < L.length) : ∀ x, x ∈ L[k] → x ∉ L[m] := by
  intro x hx hy
  obtain ⟨i, h1, h2⟩ := h.step m hm
  have e := h2.other hy
  obtain ⟨j, _, h4⟩ := h.step k (by omega)
  have e2 := h4.other hx
  have e3 := e.unique e2
  have : i ∈ L[m] := h2.self h1.1.1
  rw [e3] at this
  refine h1.1.2.1 (List.mem_flatten.2 ⟨L[k], ?_, this⟩)
  rw [List.mem_take_iff_getElem]
  exact ⟨k, by omega, rfl⟩
theorem Page.nodup {A : Adj} {n : Nat} {L : List (List Nat)} (h : Page A n L) : L.Nodup := by
  unfold List.Nodup
  rw [List.pairwise_iff_getElem]
  intro k m hk hm hkm e
  obtain ⟨i, h1, h2⟩ := h.step m hm
  have hi := h2.self h1.1.1
  exact h.apart hkm hm i (by rw [e]; exact hi) hi
theorem Page.total {A : Adj} {n : Nat} {L : List (List Nat)} (h : Page A n L) (hf : ∀ i, i < n → i ∈ L.flatten) : L.flatten.length = n := by
  have nd : L.flatten.Nodup := by
    unfold List.Nodup
    rw [List.pairwise_flatten]
    refine ⟨fun c hc => ?_, ?_⟩
    · obtain ⟨i, _, h2⟩ := h.cls hc
      exact h2.1.imp (fun h e => by omega)
    · rw [List.pairwise_iff_getElem]
      intro k m hk hm hkm x hx y hy e
      subst e
      exact h.apart hkm hm x hx hy
  have p : L.flatten.Perm (List.range n) := (List.perm_ext_iff_of_nodup nd List.nodup_range).2 fun x => by
    rw [List.mem_range]
    refine ⟨fun hx => ?_, hf x⟩
    obtain ⟨c, hc, hx⟩ := List.mem_flatten.1 hx
    obtain ⟨i, _, h2⟩ := h.cls hc
    exact ((h2.2 x).1 hx).1
  rw [p.length_eq, List.length_range]
/-- Edges turned about. -/
theorem turned_R {A B : Adj} (h : ∀ a b, Edge A a b → Edge B b a) {a b : Nat} (r : R A a b) : R B b a := by
  induction r with
  | refl => exact .refl _
  | tail _ e ih => exact (R.edge (h _ _ e)).trans ih
theorem turned_perm {A B : Adj} {n : Nat} {L M : List (List Nat)} (h1 : ∀ a b, Edge A a b → Edge B b a) (h2 : ∀ a b, Edge B a b → Edge A b a) (hL : Page A n L) (hM : Page B n M) (fL : ∀ i, i < n → i ∈ L.flatten) (fM : ∀ i, i < n → i ∈ M.flatten) : L.Perm M := by
  have e : ∀ i c, IsCls A n i c ↔ IsCls B n i c := fun i c => by
    unfold IsCls
    refine and_congr Iff.rfl (forall_congr' fun j => ?_)
    have q : (R A i j ∧ R A j i) ↔ (R B i j ∧ R B j i) := ⟨fun ⟨a, b⟩ => ⟨turned_R h1 b, turned_R h1 a⟩, fun ⟨a, b⟩ => ⟨turned_R h2 b, turned_R h2 a⟩⟩
    rw [q]
  refine (List.perm_ext_iff_of_nodup hL.nodup hM.nodup).2 fun c => ?_
  constructor
  · intro hc
    obtain ⟨i, hi, h⟩ := hL.cls hc
    exact hM.has fM hi ((e i c).1 h)
  · intro hc
    obtain ⟨i, hi, h⟩ := hM.cls hc
    exact hL.has fL hi ((e i c).2 h)
end Go.Proofs.Ytcpjlfhehjmfbaa.Gr
