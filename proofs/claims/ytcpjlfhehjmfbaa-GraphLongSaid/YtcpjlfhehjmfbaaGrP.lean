/- Components in order, plain: what is said of a list of components: there is just one, and there is always a next one. -/
import Derived.Test.YtcpjlfhehjmfbaaGrA
namespace Go.Proofs.Ytcpjlfhehjmfbaa.Gr
set_option linter.unusedVariables false
set_option linter.unusedSimpArgs false

/-- i may come next: all that it leads to is of its own component or stands already. -/
def May (A : Adj) (n : Nat) (D : List Nat) (i : Nat) : Prop := i < n ∧ i ∉ D ∧ ∀ j, j < n → R A i j → R A j i ∨ j ∈ D
def Next (A : Adj) (n : Nat) (D : List Nat) (i : Nat) : Prop := May A n D i ∧ ∀ i', i' < i → ¬ May A n D i'
def IsCls (A : Adj) (n i : Nat) (c : List Nat) : Prop := c.Pairwise (· < ·) ∧ ∀ j, j ∈ c ↔ j < n ∧ R A i j ∧ R A j i
structure Page (A : Adj) (n : Nat) (L : List (List Nat)) : Prop where
  step : ∀ k (h : k < L.length), ∃ i, Next A n (L.take k).flatten i ∧ IsCls A n i L[k]
theorem Page.nil (A : Adj) (n : Nat) : Page A n [] := ⟨fun k h => by simp at h⟩
theorem Page.snoc {A : Adj} {n i : Nat} {L : List (List Nat)} {c : List Nat} (h : Page A n L) (hi : Next A n L.flatten i) (hc : IsCls A n i c) : Page A n (L ++ [c]) := by
  refine ⟨fun k hk => ?_⟩
  rw [List.length_append] at hk
  simp only [List.length_cons, List.length_nil] at hk
  by_cases q : k < L.length
  · rw [List.getElem_append_left q, List.take_append_of_le_length (by omega)]
    exact h.step k q
  · have : k = L.length := by omega
    subst this
    refine ⟨i, ?_, ?_⟩
    · rw [List.take_append_of_le_length (Nat.le_refl _), List.take_length]; exact hi
    · simpa using hc
theorem Next.unique {A : Adj} {n i j : Nat} {D : List Nat} (h : Next A n D i) (k : Next A n D j) : i = j := by
  rcases Nat.lt_trichotomy i j with q | q | q
  · exact absurd h.1 (k.2 i q)
  · exact q
  · exact absurd k.1 (h.2 j q)
theorem lt_ext : ∀ {a b : List Nat}, a.Pairwise (· < ·) → b.Pairwise (· < ·) → (∀ x, x ∈ a ↔ x ∈ b) → a = b
  | [], [], _, _, _ => rfl
  | [], y :: b, _, _, h => by have := (h y).2 (List.mem_cons_self ..); simp at this
  | x :: a, [], _, _, h => by have := (h x).1 (List.mem_cons_self ..); simp at this
  | x :: a, y :: b, ha, hb, h => by
    rw [List.pairwise_cons] at ha hb
    have e : x = y := by
      rcases List.mem_cons.1 ((h x).1 (List.mem_cons_self ..)) with e | h1
      · exact e
      · rcases List.mem_cons.1 ((h y).2 (List.mem_cons_self ..)) with e | h2
        · exact e.symm
        · have := ha.1 y h2; have := hb.1 x h1; omega
    subst e
    rw [lt_ext ha.2 hb.2 (fun z => ?_)]
    constructor
    · intro hz
      rcases List.mem_cons.1 ((h z).1 (List.mem_cons_of_mem _ hz)) with e | h1
      · have := ha.1 z hz; omega
      · exact h1
    · intro hz
      rcases List.mem_cons.1 ((h z).2 (List.mem_cons_of_mem _ hz)) with e | h1
      · have := hb.1 z hz; omega
      · exact h1
theorem IsCls.unique {A : Adj} {n i : Nat} {c d : List Nat} (h : IsCls A n i c) (k : IsCls A n i d) : c = d := lt_ext h.1 k.1 fun x => by rw [h.2, k.2]
theorem Page.same {A : Adj} {n : Nat} {L M : List (List Nat)} (h : Page A n L) (k : Page A n M) : ∀ m, m ≤ L.length → m ≤ M.length → L.take m = M.take m
  | 0, _, _ => rfl
  | m + 1, h1, h2 => by
    have ih := Page.same h k m (by omega) (by omega)
    rw [List.take_succ_eq_append_getElem (show m < L.length by omega), List.take_succ_eq_append_getElem (show m < M.length by omega), ih]
    obtain ⟨i, i1, i2⟩ := h.step m (by omega)
    obtain ⟨j, j1, j2⟩ := k.step m (by omega)
    rw [ih] at i1
    obtain rfl := i1.unique j1
    rw [i2.unique j2]
/-- There is just one full list of components. -/
theorem Page.unique {A : Adj} {n : Nat} {L M : List (List Nat)} (h : Page A n L) (k : Page A n M) (fh : ∀ i, i < n → i ∈ L.flatten) (fk : ∀ i, i < n → i ∈ M.flatten) : L = M := by
  have key : ∀ {P Q : List (List Nat)}, Page A n P → Page A n Q → (∀ i, i < n → i ∈ P.flatten) → ¬ P.length < Q.length := fun {P Q} hp hq fp hl => by
    have e := Page.same hp hq P.length (Nat.le_refl _) (by omega)
    rw [List.take_length] at e
    obtain ⟨i, i1, i2⟩ := hq.step P.length hl
    rw [← e] at i1
    exact i1.1.2.1 (fp i i1.1.1)
  have hl : L.length = M.length := by
    have := key h k fh; have := key k h fk; omega
  have e := Page.same h k L.length (Nat.le_refl _) (by omega)
  rwa [List.take_length, hl, List.take_length] at e
theorem exists_min (P : Nat → Prop) (f : Nat → Nat) : ∀ m v, P v → f v ≤ m → ∃ v, P v ∧ ∀ u, P u → f v ≤ f u
  | 0, v, hv, hm => ⟨v, hv, fun u _ => by omega⟩
  | m + 1, v, hv, hm => by
    by_cases h : ∃ u, P u ∧ f u ≤ m
    · obtain ⟨u, hu, hl⟩ := h
      exact exists_min P f m u hu hl
    · refine ⟨v, hv, fun u hu => ?_⟩
      rcases Nat.lt_or_ge m (f u) with q | q
      · omega
      · exact absurd ⟨u, hu, q⟩ h
theorem filter_len_le {α : Type} (p q : α → Bool) (l : List α) (h : ∀ x ∈ l, p x = true → q x = true) : (l.filter p).length ≤ (l.filter q).length := by
  induction l with
  | nil => exact Nat.le_refl _
  | cons a l ih =>
    have ih := ih (fun x hx => h x (List.mem_cons_of_mem _ hx))
    have ha := h a (List.mem_cons_self ..)
    rw [List.filter_cons, List.filter_cons]
    cases hp : p a
    · cases hq : q a <;> simp <;> omega
    · rw [ha hp]; simp; omega
theorem filter_len_lt {α : Type} (p q : α → Bool) (l : List α) (h : ∀ x ∈ l, p x = true → q x = true) (a : α) (ha : a ∈ l) (h1 : p a = false) (h2 : q a = true) : (l.filter p).length < (l.filter q).length := by
  induction l with
  | nil => simp at ha
  | cons b l ih =>
    have hl := filter_len_le p q l (fun x hx => h x (List.mem_cons_of_mem _ hx))
    rw [List.filter_cons, List.filter_cons]
    rcases List.mem_cons.1 ha with e | e
    · subst e
      rw [h1, h2]; simp; omega
    · have ih := ih (fun x hx => h x (List.mem_cons_of_mem _ hx)) e
      have hb := h b (List.mem_cons_self ..)
      cases hp : p b
      · cases hq : q b <;> simp <;> omega
      · rw [hb hp]; simp; omega
/-- While a node is left, there is a next one. -/
theorem next_ex {A : Adj} {n : Nat} (hA : ∀ u t, Edge A u t → t < n) (D : List Nat) (h : ∃ i, i < n ∧ i ∉ D) : ∃ i, Next A n D i := by
  classical
  obtain ⟨v0, hv0⟩ := h
  obtain ⟨v, ⟨hv, hvD⟩, hmin⟩ := exists_min (fun v => v < n ∧ v ∉ D) (fun v => ((List.range n).filter fun w => decide (R A v w)).length) _ v0 hv0 (Nat.le_refl _)
  have hm : May A n D v := by
    refine ⟨hv, hvD, fun j hj hr => ?_⟩
    by_cases hjD : j ∈ D
    · exact .inr hjD
    · left
      refine Classical.byContradiction fun hn => ?_
      have := hmin j ⟨hj, hjD⟩
      have hlt := filter_len_lt (fun w => decide (R A j w)) (fun w => decide (R A v w)) (List.range n) (fun x _ hx => by
        rw [decide_eq_true_iff] at hx ⊢
        exact hr.trans hx) v (List.mem_range.2 hv) (decide_eq_false hn) (decide_eq_true (.refl v))
      omega
  obtain ⟨i, hi, hl⟩ := exists_min (fun i => May A n D i) id _ v hm (Nat.le_refl _)
  exact ⟨i, hi, fun i' h' hm' => by have := hl i' hm'; simp only [id] at this; omega⟩
end Go.Proofs.Ytcpjlfhehjmfbaa.Gr
