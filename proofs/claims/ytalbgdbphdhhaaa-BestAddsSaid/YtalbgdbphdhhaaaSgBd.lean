/- Contracts: best.New, Better, Len, Get, Seg. -/
import Derived.Test.YtalbgdbphdhhaaaSgBc
import Derived.Deep.RegionWith
namespace Go.Proofs.Ytalbgdbphdhhaaa.Sg
open Go.RowKit Go.Shelf Go.Maps
set_option linter.unusedVariables false
set_option linter.unusedSimpArgs false

theorem row_in64 {w : World} {ok : Nat → Prop} {v : Value} {r : Row} (h : RowAt w ok v r) : ∀ x ∈ r, In64 x := by
  obtain ⟨A, c, rfl, _⟩ := h.form
  intro x hx
  obtain ⟨i, hi, rfl⟩ := List.mem_iff_getElem.1 hx
  obtain ⟨_, _, _, _, _, _, _, _, h2⟩ := h.at_ i hi
  exact h2
theorem BestAt.cells {w : World} {B g mb W n : Nat} {great : Bool} {rv : Value} {bs : List Nat} {D : DataW Unit} {rows : List Row} (h : BestAt w B g mb W great rv bs n D rows) :
    w.cell? ⟨g, 0, none⟩ = some (.int .i64 W) ∧ w.cell? ⟨g, 1, none⟩ = some (.bool great) ∧ w.cell? ⟨g, 2, none⟩ = some (.map (some mb)) ∧ w.cell? ⟨g, 3, none⟩ = some rv := by
  simp [World.cell?, h.blk]
theorem BestAt.rowCells {w : World} {B g mb W n : Nat} {great : Bool} {rv : Value} {bs : List Nat} {D : DataW Unit} {rows : List Row} (h : BestAt w B g mb W great rv bs n D rows) {i : Nat} (hi : i < rows.length) :
    ∃ rb cap b, rv = .slice (some ⟨rb, 0, none⟩) rows.length cap ∧ bs[i]? = some b ∧ w.cell? ⟨rb, i, none⟩ = some (.slice (some ⟨b, 0, none⟩) (W + 1) (W + 1)) ∧ w.cell? ⟨b, W, none⟩ = some (.int .i64 (costB W rows i)) := by
  have hi2 : i < bs.length := by rw [h.bsl]; exact hi
  rcases h.own.2 with ⟨h1, h2⟩ | ⟨b, cap, cur, h1, hb, hh, hc, hm, hs, ht⟩
  · have h3 := h.own.1
    simp at h2
    rw [h2] at hi; exact absurd hi (by simp)
  · subst h1
    have hr := h.row i hi _ (List.getElem?_eq_getElem hi2)
    have hl := (h.good.row _ (List.getElem_mem hi)).1
    refine ⟨b, cap, bs[i], rfl, List.getElem?_eq_getElem hi2, ?_, ?_⟩
    · rw [h.own.cellAt i (by omega), List.getElem?_map, List.getElem?_eq_getElem hi2]; rfl
    · have e : costB W rows i = rows[i][W] := by
        unfold costB
        simp [List.getD_eq_getElem?_getD, hi, hl]
      rw [e]
      simp [World.cell?, hr, hl]
theorem best_new (w : World) (W : Nat) (great : Bool) (hW : W < 1000) :
    Calls Try.prog 11 #[.int .i64 W, .bool great] w fun e w' => e = .returned (.pointer (some ⟨w.heap.size + 1, 0, none⟩)) ∧ BestI w' w.heap.size (w.heap.size + 1) (w.heap.size ≤ ·) W great [] ∧ Below w.heap.size w w' := by
  go_enter Try.func11, Try.ntmps11
  have hmm := @run_makeMap Try.prog
  go_wp2
  go_ret
  refine ⟨rfl, ⟨w.heap.size, .slice none 0 0, [], 0, .map [], ⟨?_, ?_, Nat.le_refl _, ⟨rfl, .inl ⟨rfl, rfl⟩⟩, List.nodup_nil, fun i hi => by simp at hi, LinkD.nil W, ⟨fun r hr => by simp at hr, List.nodup_nil⟩, by simp, hW⟩, by simp, by simp, fun b hb => (by cases hb), fun b hb => (by simp at hb), fun b hb => hb⟩, ?_⟩
  · rw [show w.heap.size + 1 = (w.alloc (.map #[] 0)).heap.size by simp]; exact World.alloc_heap_new _ _
  · exact (World.ownsMap_made w Try.prog _ _).alloc _
  · exact below_alloc0 (below_alloc0 (Below.refl _ _) _) _
theorem better_any (w : World) (B g mb W n : Nat) (great : Bool) (rv : Value) (bs : List Nat) (D : DataW Unit) (rows : List Row) (h : BestAt w B g mb W great rv bs n D rows) (x y : Int) :
    Calls Try.prog 27 #[.pointer (some ⟨g, 0, none⟩), .int .i64 x, .int .i64 y] w fun e w' => e = .returned (.bool (betterB great x y)) ∧ w = w' := by
  obtain ⟨c0, c1, c2, c3⟩ := h.cells
  clear h
  go_enter Try.func27, Try.ntmps27
  cases great <;>
  · go_wp2
    go_ret
    simp [betterB]
theorem blen_any (w : World) (B g W : Nat) (F : Nat → Prop) (great : Bool) (rows : List Row) (h : BestI w B g F W great rows) :
    Calls Try.prog 16 #[.pointer (some ⟨g, 0, none⟩)] w fun e w' => e = .returned (.int .i64 rows.length) ∧ w = w' := by
  obtain ⟨mb, rv, bs, n, D, h, _⟩ := h
  obtain ⟨c0, c1, c2, c3⟩ := h.cells
  obtain ⟨A, c, rfl⟩ := own_form h.own
  clear h
  go_enter Try.func16, Try.ntmps16
  go_wp2
  go_ret
  exact ⟨rfl, rfl⟩
def getB (W : Nat) (rows : List Row) (key : Row) : Option Int := (idxB W rows key).map (costB W rows)
set_option maxHeartbeats 1000000 in
theorem get_any (w : World) (B g W : Nat) (F : Nat → Prop) (great : Bool) (rows : List Row) (h : BestI w B g F W great rows) (ok : Nat → Prop) (v : Value) (key : Row) (hk : RowAt w ok v key) (hl : key.length < 1000000) :
    Calls Try.prog 14 #[.pointer (some ⟨g, 0, none⟩), v] w fun e w' => e = .returned (.tuple #[.int .i64 ((getB W rows key).getD 0), .bool (getB W rows key).isSome]) ∧ Below w.heap.size w w' := by
  obtain ⟨mb, rv, bs, n, D, h, _⟩ := h
  have NM := Aside0.mk (fun w' (hb : Below w.heap.size w w') => name_any w' ok v key (SlAt.below reads_int hk hb) hl)
  obtain ⟨c, hc, hlk⟩ := h.look (row_in64 hk) hl
  have LK := Aside0.mk hlk
  obtain ⟨c0, c1, c2, c3⟩ := h.cells
  obtain ⟨A, cv, rfl, _⟩ := hk.form
  have HH := Aside0.mk h
  cases hx : idxB W rows key with
  | none =>
    rw [hx] at LK
    have HG := Aside0.mk (show getB W rows key = none by unfold getB; rw [hx]; rfl)
    clear h hk hlk hc hx
    go_enter Try.func14, Try.ntmps14
    go_wp2
    go_region_with (go_at_call 34; refine (NM.out _ (by first | exact Below.refl _ _ | exact below_drew (Below.refl _ _))).mono ?_; rintro e w4 ⟨rfl, hb4⟩; have hb5 : Below w.heap.size w w4 := (by first | exact hb4 | exact (below_drew (Below.refl _ _)).trans hb4); have q0 : w4.cell? ⟨g, 2, none⟩ = some (.map (some mb)) := below_cell0 hb5 c2; have q1 := LK.out w4 hb5)
    all_goals
      go_wp2
      go_ret2
      refine ⟨?_, hb5⟩
      rw [HG.out]; rfl
  | some i =>
    rw [hx] at LK
    obtain ⟨hi, hi2⟩ := idxB_some hx
    obtain ⟨rfl, _⟩ := idxB_len h.good hx
    have HG := Aside0.mk (show getB key.length rows key = some (costB key.length rows i) by unfold getB; rw [hx]; rfl)
    obtain rfl := hc i hx
    obtain ⟨rb, cap, b, rfl, _, cr, cc⟩ := h.rowCells hi
    clear h hk hlk hc hx hi2
    go_enter Try.func14, Try.ntmps14
    go_wp2
    go_region_with (go_at_call 34; refine (NM.out _ (by first | exact Below.refl _ _ | exact below_drew (Below.refl _ _))).mono ?_; rintro e w4 ⟨rfl, hb4⟩; have hb5 : Below w.heap.size w w4 := (by first | exact hb4 | exact (below_drew (Below.refl _ _)).trans hb4); have q0 : w4.cell? ⟨g, 2, none⟩ = some (.map (some mb)) := below_cell0 hb5 c2; have q1 := LK.out w4 hb5; have q2 := below_cell0 hb5 c0; have q3 := below_cell0 hb5 c3; have q4 := below_cell0 hb5 cr; have q5 := below_cell0 hb5 cc)
    all_goals
      go_wp2
      go_region
      go_wp2
      go_ret2
      refine ⟨?_, ?_⟩
      · rw [HG.out]; rfl
      · first | exact hb5 | exact below_drew hb5
set_option maxHeartbeats 1000000 in
theorem bseg_any (w : World) (B g W : Nat) (F : Nat → Prop) (great : Bool) (rows : List Row) (h : BestI w B g F W great rows) :
    Calls Try.prog 18 #[.pointer (some ⟨g, 0, none⟩)] w fun e w' => ∃ v, e = .returned v ∧ SegAt w' (w.heap.size ≤ ·) v (W + 1) (norm (W + 1) rows) ∧ Below w.heap.size w w' := by
  obtain ⟨mb, rv, bs, n, D, h, h1, h2, h3, h4, h5⟩ := h
  have hR := h.rowsAt h3 h4
  have MK := Aside0.mk (fun w' (hb : Below w.heap.size w w') => make_any w' F rv (W + 1) rows (hR.below reads_row hb) (by have := h.wid; omega) (by have := h.lim; omega))
  obtain ⟨c0, c1, c2, c3⟩ := h.cells
  have hw := h.wid
  have MK := Aside0.mk (fun w' hb => by have h9 := MK.out w' hb; rw [show ((W + 1 : Nat) : Int) = (W : Int) + 1 by omega] at h9; exact h9)
  have hwr : IntKind.i64.wrap ((W : Int) + 1) = (W : Int) + 1 := by first | go_num | (rw [IntKind.wrap_i64]; omega)
  clear h hR
  go_enter Try.func18, Try.ntmps18
  go_wp2
  go_region_with (go_at_call 22; refine (MK.out _ (by first | exact Below.refl _ _ | exact below_drew (Below.refl _ _))).mono ?_; rintro e w4 ⟨vs, rfl, hs4, hb4⟩; have hb5 : Below w.heap.size w w4 := (by first | exact hb4 | exact (below_drew (Below.refl _ _)).trans hb4))
  all_goals
    go_wp2
    go_ret
    exact ⟨_, rfl, hs4, hb5⟩
end Go.Proofs.Ytalbgdbphdhhaaa.Sg
