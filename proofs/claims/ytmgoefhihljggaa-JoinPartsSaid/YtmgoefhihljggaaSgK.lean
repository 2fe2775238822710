/- The head of the laws of layer 5 answers true. -/
import Derived.Test.YtmgoefhihljggaaSgJ
namespace Go.Proofs.Ytmgoefhihljggaa.Sg
open Go.RowKit Go.Shelf
set_option linter.unusedVariables false
set_option linter.unusedSimpArgs false

theorem SlAt.lit {α : Type} {E : World → (Nat → Prop) → Value → α → Prop} {w : World} {ok : Nat → Prop} {b e : Nat} {fr : Nat × Nat} {cs : List Value} {xs : List α} {n : Nat}
    (hh : w.heap[b]? = some (.cells cs.toArray e fr)) (hn : n = xs.length) (hl : cs.length = xs.length) (hok : ok b) (hx : xs.length < 1000) (he : ∀ j (h : j < xs.length) u, cs[j]? = some u → E w ok u xs[j]) : SlAt E w ok (.slice (some ⟨b, 0, none⟩) n n) xs := by
  subst hn
  refine ⟨by omega, _, _, rfl, Nat.le_refl _, by omega, fun _ => ⟨b, 0, rfl, hok, fun j hj => ?_⟩⟩
  have h2 : cs[j]? = some (cs[j]'(by omega)) := List.getElem?_eq_getElem _
  rw [cell_of_row w b _ _ _ _ hh, Nat.zero_add]
  exact ⟨_, by rw [List.getElem?_toArray]; exact h2, he j hj _ h2⟩
theorem RowAt.lit {w : World} {ok : Nat → Prop} {b e : Nat} {fr : Nat × Nat} {xs : List Int} {n : Nat} (hh : w.heap[b]? = some (.cells (xs.map (Value.int .i64)).toArray e fr)) (hn : n = xs.length) (hok : ok b) (hx : xs.length < 1000) (hi : ∀ x ∈ xs, In64 x) : RowAt w ok (.slice (some ⟨b, 0, none⟩) n n) xs :=
  SlAt.lit hh hn (by simp) hok hx fun j h u hu => by
    rw [List.getElem?_map, List.getElem?_eq_getElem h] at hu
    exact ⟨(Option.some.inj hu).symm, hi _ (List.getElem_mem h)⟩
theorem heap_new1 (w : World) (o : Obj) : (w.alloc o).heap[w.heap.size]? = some o := heap_alloc_new w o
theorem heap_old1 {w : World} {o : Obj} {b : Nat} {x : Obj} (h : w.heap[b]? = some x) : (w.alloc o).heap[b]? = some x :=
  (Stays.alloc (fun _ => True) w o).blk trivial h
theorem in64_small {x : Int} (h : -1000000 ≤ x ∧ x ≤ 1000000) : In64 x := by unfold In64; omega

/-- A list of rows that is written out: each row a block, then the headers. -/
def litW : World → List Row → World
  | w, [] => w
  | w, r :: rs => litW (w.alloc (.cells (r.map (Value.int .i64)).toArray 2)) rs
def hdrs : Nat → List Row → List Value
  | _, [] => []
  | b, r :: rs => .slice (some ⟨b, 0, none⟩) r.length r.length :: hdrs (b + 1) rs
theorem hdrs_length : ∀ b rs, (hdrs b rs).length = rs.length
  | _, [] => rfl
  | b, r :: rs => by simp [hdrs, hdrs_length (b + 1) rs]
theorem litW_size : ∀ (rs : List Row) (w : World), (litW w rs).heap.size = w.heap.size + rs.length
  | [], w => rfl
  | r :: rs, w => by rw [litW, litW_size rs]; simp; omega
theorem litW_below : ∀ (rs : List Row) (w w0 : World) (B : Nat), Below B w0 w → B ≤ w.heap.size → Below B w0 (litW w rs)
  | [], w, w0, B, h, _ => h
  | r :: rs, w, w0, B, h, hb => by
    rw [litW]
    exact litW_below rs _ _ _ (below_alloc h hb _) (by simp; omega)
theorem litW_rows : ∀ (rs : List Row) (w : World), (∀ r ∈ rs, r.length < 1000 ∧ ∀ x ∈ r, In64 x) → ∀ j (h : j < rs.length) u, (hdrs w.heap.size rs)[j]? = some u → RowAt (litW w rs) (w.heap.size ≤ ·) u rs[j]
  | [], w, _, j, h, _, _ => by simp at h
  | r :: rs, w, hr, 0, h, u, hu => by
    simp [hdrs] at hu
    subst hu
    have h1 : RowAt (w.alloc (.cells (r.map (Value.int .i64)).toArray 2)) (w.heap.size ≤ ·) (.slice (some ⟨w.heap.size, 0, none⟩) r.length r.length) r :=
      RowAt.lit (heap_new1 w _) rfl (Nat.le_refl _) (hr r (by simp)).1 (hr r (by simp)).2
    rw [litW]
    exact h1.below reads_int (litW_below rs _ _ _ (Below.refl _ _) (Nat.le_refl _))
  | r :: rs, w, hr, j + 1, h, u, hu => by
    have ih := litW_rows rs (w.alloc (.cells (r.map (Value.int .i64)).toArray 2)) (fun r hm => hr r (List.mem_cons_of_mem _ hm)) j (by simpa using h) u (by simpa [hdrs] using hu)
    rw [litW]
    exact reads_row.mono ih (fun b hb _ => by simp at hb; omega)
theorem lit_rows (w : World) (rs : List Row) (hl : rs.length < 1000) (hr : ∀ r ∈ rs, r.length < 1000 ∧ ∀ x ∈ r, In64 x) :
    RowsAt ((litW w rs).alloc (.cells (hdrs w.heap.size rs).toArray 24)) (w.heap.size ≤ ·) (.slice (some ⟨w.heap.size + rs.length, 0, none⟩) rs.length rs.length) rs := by
  have h0 := heap_new1 (litW w rs) (.cells (hdrs w.heap.size rs).toArray 24)
  rw [litW_size] at h0
  refine SlAt.lit h0 rfl (hdrs_length _ _) (by omega) hl fun j h u hu => ?_
  exact (litW_rows rs w hr j h u hu).below reads_int (below_alloc0 (Below.refl _ _) _)
theorem lit_below (w : World) (rs : List Row) (o : Obj) : Below w.heap.size w ((litW w rs).alloc o) := below_alloc (litW_below rs w w _ (Below.refl _ _) (Nat.le_refl _)) (by rw [litW_size]; omega) _
theorem RowAt.new (w : World) (r : Row) (hl : r.length < 1000) (hi : ∀ x ∈ r, In64 x) : RowAt (w.alloc (.cells (r.map (Value.int .i64)).toArray 2)) (w.heap.size ≤ ·) (.slice (some ⟨w.heap.size, 0, none⟩) r.length r.length) r :=
  RowAt.lit (heap_new1 w _) rfl (Nat.le_refl _) hl hi
theorem in64_lits {rs : List Row} (h : (rs.all fun r => decide (r.length < 1000) && r.all fun x => decide (-1000000 ≤ x ∧ x ≤ 1000000)) = true) : ∀ r ∈ rs, r.length < 1000 ∧ ∀ x ∈ r, In64 x := by
  intro r hr
  rw [List.all_eq_true] at h
  have := h r hr
  simp only [Bool.and_eq_true, decide_eq_true_eq, List.all_eq_true] at this
  exact ⟨this.1, fun x hx => in64_small (this.2 x hx)⟩
/-- A new value's world: what was made since, behind a name. -/
def Fresh (w W : World) : Prop := Below w.heap.size w W

end Go.Proofs.Ytmgoefhihljggaa.Sg
