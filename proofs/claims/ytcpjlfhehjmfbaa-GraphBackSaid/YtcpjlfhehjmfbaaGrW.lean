/- Reach, plain: ways through nodes below k make all ways. -/
import Derived.Test.YtcpjlfhehjmfbaaGrP
namespace Go.Proofs.Ytcpjlfhehjmfbaa.Gr
set_option linter.unusedVariables false
set_option linter.unusedSimpArgs false

/-- One edge or several. -/
inductive TC (A : Adj) : Nat → Nat → Prop
  | one {a b : Nat} : Edge A a b → TC A a b
  | more {a b c : Nat} : TC A a b → Edge A b c → TC A a c
theorem TC.trans {A : Adj} {a b c : Nat} (h : TC A a b) (k : TC A b c) : TC A a c := by
  induction k with
  | one e => exact .more h e
  | more _ e ih => exact .more ih e
theorem TC.r {A : Adj} {a b : Nat} (h : TC A a b) : R A a b := by
  induction h with
  | one e => exact R.edge e
  | more _ e ih => exact .tail ih e
theorem R.tc {A : Adj} {a b : Nat} (h : R A a b) : a = b ∨ TC A a b := by
  induction h with
  | refl => exact .inl rfl
  | tail _ e ih =>
    rcases ih with q | q
    · subst q; exact .inr (.one e)
    · exact .inr (.more q e)
def Thru (A : Adj) : Nat → Nat → Nat → Prop
  | 0, i, j => Edge A i j
  | k + 1, i, j => Thru A k i j ∨ (Thru A k i k ∧ Thru A k k j)
theorem Thru.tc {A : Adj} : ∀ (k : Nat) {i j : Nat}, Thru A k i j → TC A i j
  | 0, _, _, h => .one h
  | k + 1, _, _, h => h.elim (fun h => Thru.tc k h) (fun h => (Thru.tc k h.1).trans (Thru.tc k h.2))
/-- A way by the nodes of a list. -/
def Way (A : Adj) (i : Nat) : List Nat → Nat → Prop
  | [], j => Edge A i j
  | x :: l, j => Edge A i x ∧ Way A x l j
theorem way_split {A : Adj} {i j x : Nat} {l m : List Nat} : Way A i (l ++ x :: m) j ↔ Way A i l x ∧ Way A x m j := by
  induction l generalizing i with
  | nil => exact Iff.rfl
  | cons y l ih =>
    show Edge A i y ∧ Way A y (l ++ x :: m) j ↔ (Edge A i y ∧ Way A y l x) ∧ Way A x m j
    rw [ih, and_assoc]
theorem TC.way {A : Adj} {n : Nat} (hA : ∀ u t, Edge A u t → t < n) {i j : Nat} (h : TC A i j) : ∃ l, (∀ x ∈ l, x < n) ∧ Way A i l j := by
  induction h with
  | one e => exact ⟨[], by simp, e⟩
  | @more b c h e ih =>
    obtain ⟨l, h1, h2⟩ := ih
    refine ⟨l ++ [b], fun x hx => ?_, way_split.2 ⟨h2, e⟩⟩
    rcases List.mem_append.1 hx with q | q
    · exact h1 x q
    · rw [List.mem_singleton] at q
      subst q
      cases h with
      | one e => exact hA _ _ e
      | more _ e => exact hA _ _ e
theorem first_occ (x : Nat) : ∀ l : List Nat, x ∈ l → ∃ a b, l = a ++ x :: b ∧ x ∉ a
  | [], h => by simp at h
  | y :: l, h => by
    by_cases e : x = y
    · subst e; exact ⟨[], l, rfl, by simp⟩
    · obtain ⟨a, b, h1, h2⟩ := first_occ x l ((List.mem_cons.1 h).elim (fun q => absurd q e) id)
      exact ⟨y :: a, b, by rw [h1]; rfl, by simp [e, h2]⟩
theorem last_occ (x : Nat) : ∀ l : List Nat, x ∈ l → ∃ a b, l = a ++ x :: b ∧ x ∉ b
  | [], h => by simp at h
  | y :: l, h => by
    by_cases m : x ∈ l
    · obtain ⟨a, b, h1, h2⟩ := last_occ x l m
      exact ⟨y :: a, b, by rw [h1]; rfl, h2⟩
    · have e : x = y := (List.mem_cons.1 h).elim id (fun q => absurd q m)
      subst e
      exact ⟨[], l, rfl, m⟩
theorem thru_way {A : Adj} : ∀ (k : Nat) {i j : Nat} (l : List Nat), (∀ x ∈ l, x < k) → Way A i l j → Thru A k i j
  | 0, i, j, [], _, h => h
  | 0, i, j, x :: l, hl, _ => absurd (hl x (List.mem_cons_self ..)) (Nat.not_lt_zero _)
  | k + 1, i, j, l, hl, h => by
    by_cases m : k ∈ l
    · obtain ⟨a, b, e1, n1⟩ := first_occ k l m
      obtain ⟨c, d, e2, n2⟩ := last_occ k l m
      right
      constructor
      · rw [e1] at h
        refine thru_way k a (fun x hx => ?_) (way_split.1 h).1
        have h1 := hl x (by rw [e1]; exact List.mem_append_left _ hx)
        have h2 : x ≠ k := fun q => n1 (q ▸ hx)
        omega
      · rw [e2] at h
        refine thru_way k d (fun x hx => ?_) (way_split.1 h).2
        have h1 := hl x (by rw [e2]; exact List.mem_append_right _ (List.mem_cons_of_mem _ hx))
        have h2 : x ≠ k := fun q => n2 (q ▸ hx)
        omega
    · left
      refine thru_way k l (fun x hx => ?_) h
      have h1 := hl x hx
      have h2 : x ≠ k := fun q => m (q ▸ hx)
      omega
/-- Behind n rounds: just the ways. -/
theorem thru_all {A : Adj} {n : Nat} (hA : ∀ u t, Edge A u t → t < n) (i j : Nat) : Thru A n i j ↔ TC A i j :=
  ⟨Thru.tc n, fun h => by obtain ⟨l, h1, h2⟩ := h.way hA; exact thru_way n l h1 h2⟩
end Go.Proofs.Ytcpjlfhehjmfbaa.Gr
