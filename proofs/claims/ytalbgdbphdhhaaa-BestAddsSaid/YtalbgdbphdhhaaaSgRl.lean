/- Sets by one name: their contracts in short, and the plain laws of union, intersection and difference. -/
import Derived.Test.YtalbgdbphdhhaaaSgRk
namespace Go.Proofs.Ytalbgdbphdhhaaa.Sg
open Go.RowKit Go.Shelf
set_option linter.unusedVariables false
set_option linter.unusedSimpArgs false

/-- A set of rows behind block g, in order, at most k of them. -/
structure SetK (w : World) (g n : Nat) (A : List Row) (k : Nat) : Prop where
  seg : SegAt w (fun _ => True) (.pointer (some ⟨g, 0, none⟩)) n A
  ss : SS A
  le : A.length ≤ k
theorem SetK.below {w w' : World} {g n k : Nat} {A : List Row} (h : SetK w g n A k) (hb : Below w.heap.size w w') : SetK w' g n A k := ⟨h.seg.below hb, h.ss, h.le⟩
theorem SetK.wid {w : World} {g n k : Nat} {A : List Row} (h : SetK w g n A k) : ∀ r ∈ A, r.length = n := fun r hr => (h.seg.row r hr).1
theorem SegAt.setK {w : World} {ok : Nat → Prop} {v : Value} {n : Nat} {A : List Row} (h : SegAt w ok v n A) (hs : SS A) {k : Nat} (hk : A.length ≤ k) : ∃ g, v = .pointer (some ⟨g, 0, none⟩) ∧ SetK w g n A k := by
  obtain ⟨g, cv, hv, _⟩ := h.ex
  exact ⟨g, hv, ⟨by rw [← hv]; exact h.mono (fun _ _ _ => trivial), hs, hk⟩⟩
theorem picked_SS {A B : List Row} {is : Bool} (h : SS A) : SS (picked B is A) := List.Pairwise.filter _ h
theorem makeK (w : World) (ok : Nat → Prop) (rv : Value) (n k : Nat) (rs : List Row) (h : RowsAt w ok rv rs) (hn : n < 1000000) (hl : rs.length ≤ k) (hk : k < 1000000) :
    Calls Try.prog 22 #[.int .i64 n, rv] w fun e w' => ∃ g, e = .returned (.pointer (some ⟨g, 0, none⟩)) ∧ SetK w' g n (norm n rs) k ∧ Below w.heap.size w w' :=
  (make_any w ok rv n rs h hn (by omega)).mono fun e w' ⟨v, h1, h2, h3⟩ => by
    obtain ⟨g, rfl, hg⟩ := h2.setK (SS_norm n rs) (k := k) (by have := norm_length n rs; omega)
    exact ⟨g, h1, hg, h3⟩
theorem orK (w : World) (g1 g2 n k1 k2 : Nat) (A B : List Row) (hA : SetK w g1 n A k1) (hB : SetK w g2 n B k2) (hk : k1 + k2 < 1000000) :
    Calls Try.prog 30 #[.pointer (some ⟨g1, 0, none⟩), .pointer (some ⟨g2, 0, none⟩)] w fun e w' => ∃ g, e = .returned (.pointer (some ⟨g, 0, none⟩)) ∧ SetK w' g n (norm n (A ++ B)) (k1 + k2) ∧ Below w.heap.size w w' := by
  have h1 := hA.le
  have h2 := hB.le
  have hw : orW n n A = n := by unfold orW; split <;> rfl
  have := or_any w _ _ _ _ n n A B hA.seg.n hB.seg.n (by omega)
  rw [hw] at this
  exact this.mono fun e w' ⟨v, h1, h2, h3⟩ => by
    obtain ⟨g, rfl, hg⟩ := h2.setK (SS_norm n _) (k := k1 + k2) (by have := norm_length n (A ++ B); simp at this; omega)
    exact ⟨g, h1, hg, h3⟩
theorem andK (w : World) (g1 g2 n k1 k2 : Nat) (A B : List Row) (hA : SetK w g1 n A k1) (hB : SetK w g2 n B k2) :
    Calls Try.prog 31 #[.pointer (some ⟨g1, 0, none⟩), .pointer (some ⟨g2, 0, none⟩)] w fun e w' => ∃ g, e = .returned (.pointer (some ⟨g, 0, none⟩)) ∧ SetK w' g n (picked B true A) k1 ∧ Below w.heap.size w w' :=
  (and_any w _ _ _ _ n n A B hA.seg.n hB.seg.n hB.ss).mono fun e w' ⟨v, h1, h2, h3⟩ => by
    obtain ⟨g, rfl, hg⟩ := h2.setK (picked_SS hA.ss) (k := k1) (by have := picked_length B true A; have := hA.le; omega)
    exact ⟨g, h1, hg, h3⟩
theorem minusK (w : World) (g1 g2 n k1 k2 : Nat) (A B : List Row) (hA : SetK w g1 n A k1) (hB : SetK w g2 n B k2) :
    Calls Try.prog 32 #[.pointer (some ⟨g1, 0, none⟩), .pointer (some ⟨g2, 0, none⟩)] w fun e w' => ∃ g, e = .returned (.pointer (some ⟨g, 0, none⟩)) ∧ SetK w' g n (picked B false A) k1 ∧ Below w.heap.size w w' :=
  (minus_any w _ _ _ _ n n A B hA.seg.n hB.seg.n hB.ss).mono fun e w' ⟨v, h1, h2, h3⟩ => by
    obtain ⟨g, rfl, hg⟩ := h2.setK (picked_SS hA.ss) (k := k1) (by have := picked_length B false A; have := hA.le; omega)
    exact ⟨g, h1, hg, h3⟩
theorem sameK (w : World) (g1 g2 n m k1 k2 : Nat) (A B : List Row) (hA : SetK w g1 n A k1) (hB : SetK w g2 m B k2) (he : A = B) :
    Calls Try.prog 23 #[.pointer (some ⟨g1, 0, none⟩), .pointer (some ⟨g2, 0, none⟩)] w fun e w' => e = .returned (.bool true) ∧ Below w.heap.size w w' := by
  have := same_any w _ _ _ _ n m A B hA.seg.n hB.seg.n
  rw [show decide (A = B) = true by simpa using he] at this
  exact this
theorem lenK (w : World) (g n k : Nat) (A : List Row) (hA : SetK w g n A k) : Calls Try.prog 24 #[.pointer (some ⟨g, 0, none⟩)] w fun e w' => e = .returned (.int .i64 A.length) ∧ w = w' := len_any w _ _ _ _ hA.seg

theorem mem_picked (B A : List Row) (is : Bool) (x : Row) : x ∈ picked B is A ↔ x ∈ A ∧ (decide (x ∈ B) = is) := by unfold picked; simp
theorem mem_or {n : Nat} {A B : List Row} (hA : ∀ r ∈ A, r.length = n) (hB : ∀ r ∈ B, r.length = n) (x : Row) : x ∈ norm n (A ++ B) ↔ x ∈ A ∨ x ∈ B := by
  rw [mem_norm, List.mem_append]
  constructor
  · exact fun h => h.1
  · intro h; exact ⟨h, by rcases h with h | h; exact hA x h; exact hB x h⟩
theorem or_wid {n : Nat} {A : List Row} : ∀ r ∈ norm n A, r.length = n := fun r hr => ((mem_norm n A r).1 hr).2
theorem picked_wid {n : Nat} {A B : List Row} {is : Bool} (hA : ∀ r ∈ A, r.length = n) : ∀ r ∈ picked B is A, r.length = n := fun r hr => hA r ((mem_picked B A is r).1 hr).1
section
variable {n : Nat} {X Y Z : List Row} (sX : SS X) (sY : SS Y) (sZ : SS Z) (hX : ∀ r ∈ X, r.length = n) (hY : ∀ r ∈ Y, r.length = n) (hZ : ∀ r ∈ Z, r.length = n)
include hX hY in
theorem law_or_comm : norm n (X ++ Y) = norm n (Y ++ X) := SS.ext (SS_norm _ _) (SS_norm _ _) fun x => by rw [mem_or hX hY, mem_or hY hX]; exact or_comm
include sX sY in
theorem law_and_comm : picked Y true X = picked X true Y := SS.ext (picked_SS sX) (picked_SS sY) fun x => by rw [mem_picked, mem_picked]; simp [and_comm]
include sX hX in
theorem law_or_self : norm n (X ++ X) = X := SS.ext (SS_norm _ _) sX fun x => by rw [mem_or hX hX]; simp
include sX hX in
theorem law_split : norm n (picked Y false X ++ picked Y true X) = X := SS.ext (SS_norm _ _) sX fun x => by
  rw [mem_or (picked_wid hX) (picked_wid hX), mem_picked, mem_picked]
  by_cases h1 : x ∈ X <;> by_cases h2 : x ∈ Y <;> simp [h1, h2]
include hX hY hZ in
theorem law_or_assoc : norm n (norm n (X ++ Y) ++ Z) = norm n (X ++ norm n (Y ++ Z)) := SS.ext (SS_norm _ _) (SS_norm _ _) fun x => by
  rw [mem_or or_wid hZ, mem_or hX or_wid, mem_or hX hY, mem_or hY hZ, or_assoc]
include sX hY hZ in
theorem law_minus_or : picked (norm n (Y ++ Z)) false X = picked Z false (picked Y false X) := SS.ext (picked_SS sX) (picked_SS (picked_SS sX)) fun x => by
  rw [mem_picked, mem_picked, mem_picked, decide_eq_false_iff_not, decide_eq_false_iff_not, decide_eq_false_iff_not, mem_or hY hZ, not_or, and_assoc]
include sX hX hY hZ in
theorem law_and_or : picked (norm n (Y ++ Z)) true X = norm n (picked Y true X ++ picked Z true X) := SS.ext (picked_SS sX) (SS_norm _ _) fun x => by
  rw [mem_or (picked_wid hX) (picked_wid hX), mem_picked, mem_picked, mem_picked, decide_eq_true_eq, decide_eq_true_eq, decide_eq_true_eq, mem_or hY hZ]
  exact and_or_left
theorem law_minus_self : picked X false X = [] := by
  rw [List.eq_nil_iff_forall_not_mem]
  intro x hx
  rw [mem_picked, decide_eq_false_iff_not] at hx
  exact hx.2 hx.1
end
end Go.Proofs.Ytalbgdbphdhhaaa.Sg
