/- The head of the laws of layer 5 answers true. -/
import Derived.Test.YtalbgdbphdhhaaaSgJ
namespace Go.Proofs.Ytalbgdbphdhhaaa.Sg
open Go.RowKit Go.Shelf
set_option linter.unusedVariables false
set_option linter.unusedSimpArgs false

theorem SlAt.lit {α : Type} {E : World → (Nat → Prop) → Value → α → Prop} {w : World} {ok : Nat → Prop} {b e : Nat} {fr : Nat × Nat} {cs : List Value} {xs : List α} {n : Nat}
    (hh : w.heap[b]? = some (.cells cs.toArray e fr)) (hn : n = xs.length) (hl : cs.length = xs.length) (hok : ok b) (hx : xs.length < 1000) (he : ∀ j (h : j < xs.length) u, cs[j]? = some u → E w ok u xs[j]) : SlAt E w ok (.slice (some ⟨b, 0, none⟩) n n) xs := by
  subst hn
  refine ⟨by omega, _, _, rfl, Nat.le_refl _, by omega, fun _ => ⟨b, 0, rfl, hok, fun j hj => ?_⟩⟩
  have h2 : cs[j]? = some (cs[j]'(by omega)) := List.getElem?_eq_getElem _
  rw [cell_of_row w b _ _ _ _ hh, Nat.zero_add]
  exact ⟨_, by rw [List.getElem?_toArray]; exact h2, he j hj _ h2⟩
theorem RowAt.lit {w : World} {ok : Nat → Prop} {b e : Nat} {fr : Nat × Nat} {xs : List Int} {n : Nat} (hh : w.heap[b]? = some (.cells (xs.map (Value.int .i64)).toArray e fr)) (hn : n = xs.length) (hok : ok b) (hx : xs.length < 1000) (hi : ∀ x ∈ xs, In64 x) : RowAt w ok (.slice (some ⟨b, 0, none⟩) n n) xs :=
  SlAt.lit hh hn (by simp) hok hx fun j h u hu => by
    rw [List.getElem?_map, List.getElem?_eq_getElem h] at hu
    exact ⟨(Option.some.inj hu).symm, hi _ (List.getElem_mem h)⟩
theorem heap_new1 (w : World) (o : Obj) : (w.alloc o).heap[w.heap.size]? = some o := heap_alloc_new w o
theorem heap_old1 {w : World} {o : Obj} {b : Nat} {x : Obj} (h : w.heap[b]? = some x) : (w.alloc o).heap[b]? = some x :=
  (Stays.alloc (fun _ => True) w o).blk trivial h
theorem in64_small {x : Int} (h : -1000000 ≤ x ∧ x ≤ 1000000) : In64 x := by unfold In64; omega

/-- A list of rows that is written out: each row a block, then the headers. -/
def litW : World → List Row → World
  | w, [] => w
  | w, r :: rs => litW (w.alloc (.cells (r.map (Value.int .i64)).toArray 2)) rs
def hdrs : Nat → List Row → List Value
  | _, [] => []
  | b, r :: rs => .slice (some ⟨b, 0, none⟩) r.length r.length :: hdrs (b + 1) rs
theorem hdrs_length : ∀ b rs, (hdrs b rs).length = rs.length
  | _, [] => rfl
  | b, r :: rs => by simp [hdrs, hdrs_length (b + 1) rs]
theorem litW_size : ∀ (rs : List Row) (w : World), (litW w rs).heap.size = w.heap.size + rs.length
  | [], w => rfl
  | r :: rs, w => by rw [litW, litW_size rs]; simp; omega
theorem litW_below : ∀ (rs : List Row) (w w0 : World) (B : Nat), Below B w0 w → B ≤ w.heap.size → Below B w0 (litW w rs)
  | [], w, w0, B, h, _ => h
  | r :: rs, w, w0, B, h, hb => by
    rw [litW]
    exact litW_below rs _ _ _ (below_alloc h hb _) (by simp; omega)
theorem litW_rows : ∀ (rs : List Row) (w : World), (∀ r ∈ rs, r.length < 1000 ∧ ∀ x ∈ r, In64 x) → ∀ j (h : j < rs.length) u, (hdrs w.heap.size rs)[j]? = some u → RowAt (litW w rs) (w.heap.size ≤ ·) u rs[j]
  | [], w, _, j, h, _, _ => by simp at h
  | r :: rs, w, hr, 0, h, u, hu => by
    simp [hdrs] at hu
    subst hu
    have h1 : RowAt (w.alloc (.cells (r.map (Value.int .i64)).toArray 2)) (w.heap.size ≤ ·) (.slice (some ⟨w.heap.size, 0, none⟩) r.length r.length) r :=
      RowAt.lit (heap_new1 w _) rfl (Nat.le_refl _) (hr r (by simp)).1 (hr r (by simp)).2
    rw [litW]
    exact h1.below reads_int (litW_below rs _ _ _ (Below.refl _ _) (Nat.le_refl _))
  | r :: rs, w, hr, j + 1, h, u, hu => by
    have ih := litW_rows rs (w.alloc (.cells (r.map (Value.int .i64)).toArray 2)) (fun r hm => hr r (List.mem_cons_of_mem _ hm)) j (by simpa using h) u (by simpa [hdrs] using hu)
    rw [litW]
    exact reads_row.mono ih (fun b hb _ => by simp at hb; omega)
theorem lit_rows (w : World) (rs : List Row) (hl : rs.length < 1000) (hr : ∀ r ∈ rs, r.length < 1000 ∧ ∀ x ∈ r, In64 x) :
    RowsAt ((litW w rs).alloc (.cells (hdrs w.heap.size rs).toArray 23)) (w.heap.size ≤ ·) (.slice (some ⟨w.heap.size + rs.length, 0, none⟩) rs.length rs.length) rs := by
  have h0 := heap_new1 (litW w rs) (.cells (hdrs w.heap.size rs).toArray 23)
  rw [litW_size] at h0
  refine SlAt.lit h0 rfl (hdrs_length _ _) (by omega) hl fun j h u hu => ?_
  exact (litW_rows rs w hr j h u hu).below reads_int (below_alloc0 (Below.refl _ _) _)
theorem lit_below (w : World) (rs : List Row) (o : Obj) : Below w.heap.size w ((litW w rs).alloc o) := below_alloc (litW_below rs w w _ (Below.refl _ _) (Nat.le_refl _)) (by rw [litW_size]; omega) _
theorem RowAt.new (w : World) (r : Row) (hl : r.length < 1000) (hi : ∀ x ∈ r, In64 x) : RowAt (w.alloc (.cells (r.map (Value.int .i64)).toArray 2)) (w.heap.size ≤ ·) (.slice (some ⟨w.heap.size, 0, none⟩) r.length r.length) r :=
  RowAt.lit (heap_new1 w _) rfl (Nat.le_refl _) hl hi
theorem in64_lits {rs : List Row} (h : (rs.all fun r => decide (r.length < 1000) && r.all fun x => decide (-1000000 ≤ x ∧ x ≤ 1000000)) = true) : ∀ r ∈ rs, r.length < 1000 ∧ ∀ x ∈ r, In64 x := by
  intro r hr
  rw [List.all_eq_true] at h
  have := h r hr
  simp only [Bool.and_eq_true, decide_eq_true_eq, List.all_eq_true] at this
  exact ⟨this.1, fun x hx => in64_small (this.2 x hx)⟩
/-- A new value's world: what was made since, behind a name. -/
def Fresh (w W : World) : Prop := Below w.heap.size w W

set_option maxHeartbeats 2000000 in
set_option maxRecDepth 100000 in
theorem head_any (w : World) : Calls Try.prog 20 #[] w fun e w' => e = .returned (.bool true) ∧ Below w.heap.size w w' := by
  have L0 := lit_rows w [[2, 1], [1, 5], [2, 1]] (by decide) (in64_lits (by decide))
  have B0 := lit_below w [[2, 1], [1, 5], [2, 1]] (.cells (hdrs w.heap.size [[2, 1], [1, 5], [2, 1]]).toArray 23)
  have hN : norm 2 [[2, 1], [1, 5], [2, 1]] = [[1, 5], [2, 1]] := by decide
  have hlo : lo [[1, 5], [2, 1]] [2] = 1 := by decide
  have hhi : hi [[1, 5], [2, 1]] [2] = 2 := by decide
  obtain ⟨W0, hW0⟩ : ∃ W0, (litW w [[2, 1], [1, 5], [2, 1]]).alloc (.cells (hdrs w.heap.size [[2, 1], [1, 5], [2, 1]]).toArray 23) = W0 := ⟨_, rfl⟩
  rw [hW0] at L0 B0
  have M := make_any W0 _ _ 2 _ L0 (by omega) (by decide)
  rw [hN] at M
  have hs : SS [[1, 5], [2, 1]] := by rw [← hN]; exact SS_norm _ _
  have M := Aside0.mk M
  have B0 := Aside0.mk B0
  have HW0 := Aside0.mk hW0
  have HS := Aside0.mk hs
  have HLO := Aside0.mk hlo
  have HHI := Aside0.mk hhi
  clear L0 hN hW0 hs hlo hhi
  go_enter Try.func20, Try.ntmps20
  go_wp2_with fail
  have e0 := HW0.out
  simp only [litW, hdrs, List.map, List.length] at e0
  have M1 := M.out
  rw [← e0] at M1
  refine M1.mono ?_
  rw [e0]
  rintro e w1 ⟨v, rfl, S1, B1⟩
  have B1 := Aside0.mk (below_trans0 B0.out B1)
  obtain ⟨g, cv, hv, _⟩ := S1.ex
  subst hv
  have S1 := Aside0.mk S1
  clear M M1 e0 HW0 B0
  have R2 := RowAt.new w1 [2] (by decide) (fun x hx => in64_small (by simp at hx; omega))
  have B2 := below_alloc0 (Below.refl w1.heap.size w1) (.cells #[.int .i64 2] 2)
  have S2 := S1.out.below B2
  have P2 := prefix_any _ _ _ _ _ _ _ _ S2 HS.out R2 (by decide)
  rw [HLO.out, HHI.out] at P2
  have P2 := Aside0.mk P2
  have S2 := Aside0.mk S2
  have B2 := Aside0.mk (below_trans0 B1.out B2)
  clear R2 B1 S1
  go_wp2_with fail
  refine (P2.out).mono ?_
  rintro e w2 ⟨rfl, B3⟩
  have S3 := Aside0.mk (S2.out.below B3)
  have B3 := Aside0.mk (below_trans0 B2.out B3)
  clear P2 S2 B2
  have LN := Aside0.mk (len_any w2 _ _ _ _ S3.out)
  have WD := Aside0.mk (width_any w2 _ _ _ _ S3.out)
  have R1 := Aside0.mk (row_any w2 _ _ _ _ [1, 5] 0 S3.out rfl)
  go_wp2_with (first | (go_at_call 24; (with_reducible refine (LN.out).mono ?_); rintro e w' ⟨rfl, rfl⟩) | (go_at_call 33; (with_reducible refine (WD.out).mono ?_); rintro e w' ⟨rfl, rfl⟩))
  refine (R1.out).mono ?_
  rintro e w3 ⟨rv, rfl, RR, B4⟩
  obtain ⟨A3, c3, hrv, hc3, _⟩ := RR.form
  subst hrv
  have S4 := S3.out.below B4
  have R2 := Aside0.mk (row_any w3 _ _ _ _ [1, 5] 0 S4 rfl)
  have B4 := Aside0.mk (below_trans0 B3.out B4)
  clear RR S3 S4 B3 LN WD R1
  go_wp2_with fail
  refine (R2.out).mono ?_
  rintro e w4 ⟨rv, rfl, RR, B5⟩
  obtain ⟨A4, c4, hrv, hc4, _⟩ := RR.form
  subst hrv
  obtain ⟨b4, o4, u4, rfl, _, _, hc, rfl, _⟩ := RR.at_ 1 (by decide)
  have B5 := Aside0.mk (below_trans0 B4.out B5)
  clear RR B4 R2
  simp only [List.getElem_cons_succ, List.getElem_cons_zero] at hc
  go_wp2
  go_ret
  exact ⟨rfl, B5.out⟩
end Go.Proofs.Ytalbgdbphdhhaaa.Sg
