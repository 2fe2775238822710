/- The finder in memory: stores into it. -/
import Derived.Test.YtcpjlfhehjmfbaaGrB
import Derived.Test.YtcpjlfhehjmfbaaGrC
namespace Go.Proofs.Ytcpjlfhehjmfbaa.Gr
open Go.RowKit Go.Shelf Go.Proofs.Ytcpjlfhehjmfbaa.Sg
set_option linter.unusedVariables false
set_option linter.unusedSimpArgs false

theorem own_set {w : World} {B e n b cap m : Nat} {xs : List Value} {g j : Nat} (u : Value) (h : w.ownsRow B e 1 (.slice (some ⟨b, 0, none⟩) m cap) n xs) (hne : b ≠ g) : (w.setCell ⟨g, j, none⟩ u).ownsRow B e 1 (.slice (some ⟨b, 0, none⟩) m cap) n xs :=
  (Stays.setCell w ⟨g, j, none⟩ u).owns h (fun k hk => by have e : b = k := Option.some.inj hk; subst e; exact hne)
theorem own_setv {w : World} {B e n : Nat} {v : Value} {xs : List Value} {g j : Nat} (u : Value) (h : w.ownsRow B e 1 v n xs) (hne : v.ownBlock ≠ some g) : (w.setCell ⟨g, j, none⟩ u).ownsRow B e 1 v n xs :=
  (Stays.setCell w ⟨g, j, none⟩ u).owns h (fun k hk e => hne (by rw [hk]; exact congrArg some e))
theorem FI.drew {w : World} {B f n : Nat} {ev : Value} {es : List Row} {bo bl bh bc : Nat} {sv : Value} {s : St} (h : FI w B f n ev es bo bl bh bc sv s) : FI w.drew B f n ev es bo bl bh bc sv s := h.below (below_drew (Below.refl _ _))
theorem blk8 {w : World} {f j : Nat} {cs : Array Value} {T : TypeId} (u : Value) (h : w.heap[f]? = some (.cells cs T (0, 0))) : (w.setCell ⟨f, j, none⟩ u).heap[f]? = some (.cells (cs.setIfInBounds j u) T (0, 0)) := heap_setCell_same w f j cs T u h
theorem blk_other {w : World} {f g j : Nat} {ob : Obj} (u : Value) (h : w.heap[f]? = some ob) (hne : f ≠ g) : (w.setCell ⟨g, j, none⟩ u).heap[f]? = some ob := by
  rw [heap_setCell_other w ⟨g, j, none⟩ f u hne]; exact h
theorem rows_set {w : World} {B g j : Nat} {v : Value} {es : List Row} (u : Value) (h : RowsAt w (· < B) v es) (hg : B ≤ g) : RowsAt (w.setCell ⟨g, j, none⟩ u) (· < B) v es :=
  reads_rows.stays h ((Stays.setCell w ⟨g, j, none⟩ u).mono (fun b hb _ => by show b ≠ g; have : b < B := hb; omega))
theorem FI.setNext {w : World} {B f n : Nat} {ev : Value} {es : List Row} {bo bl bh bc : Nat} {sv : Value} {s : St} (h : FI w B f n ev es bo bl bh bc sv s) (k : Nat) : FI (w.setCell ⟨f, 6, none⟩ (.int .i64 (k : Int))) B f n ev es bo bl bh bc sv { s with next := k } := by
  obtain ⟨n1, n2, n3, n4, n5⟩ := h.nef
  exact ⟨blk8 (j := 6) _ h.blk, rows_set _ h.edges h.ge, h.elen, own_set _ h.ord n1, own_set _ h.low n2, own_set _ h.held n3, own_set _ h.comp n4, own_setv _ h.stk n5, h.ne, h.nes, h.ge⟩
theorem FI.setCount {w : World} {B f n : Nat} {ev : Value} {es : List Row} {bo bl bh bc : Nat} {sv : Value} {s : St} (h : FI w B f n ev es bo bl bh bc sv s) (k : Nat) : FI (w.setCell ⟨f, 7, none⟩ (.int .i64 (k : Int))) B f n ev es bo bl bh bc sv { s with count := k } := by
  obtain ⟨n1, n2, n3, n4, n5⟩ := h.nef
  exact ⟨blk8 (j := 7) _ h.blk, rows_set _ h.edges h.ge, h.elen, own_set _ h.ord n1, own_set _ h.low n2, own_set _ h.held n3, own_set _ h.comp n4, own_setv _ h.stk n5, h.ne, h.nes, h.ge⟩
/-- Another stack. -/
theorem FI.setStk {w : World} {B f n : Nat} {ev : Value} {es : List Row} {bo bl bh bc : Nat} {sv sv2 : Value} {s : St} (h : FI w B f n ev es bo bl bh bc sv s) (l : List Nat) (hs : w.ownsRow B 3 1 sv2 l.length (stkL l)) (hn : sv2.ownBlock ≠ some bo ∧ sv2.ownBlock ≠ some bl ∧ sv2.ownBlock ≠ some bh ∧ sv2.ownBlock ≠ some bc) (hf : sv2.ownBlock ≠ some f) :
    FI (w.setCell ⟨f, 4, none⟩ sv2) B f n ev es bo bl bh bc sv2 { s with stack := l } := by
  obtain ⟨n1, n2, n3, n4, n5⟩ := h.nef
  exact ⟨blk8 (j := 4) _ h.blk, rows_set _ h.edges h.ge, h.elen, own_set _ h.ord n1, own_set _ h.low n2, own_set _ h.held n3, own_set _ h.comp n4, own_setv _ hs hf, h.ne, hn, h.ge⟩
theorem own_store {w : World} {B e n b : Nat} {f : Nat → Nat} {i : Nat} (x : Nat) (h : w.ownsRow B e 1 (.slice (some ⟨b, 0, none⟩) n n) n (lst n f)) : (w.setCell ⟨b, i, none⟩ (.int .i64 (x : Int))).ownsRow B e 1 (.slice (some ⟨b, 0, none⟩) n n) n (lst n (upd f i x)) := by
  have := (h.stored i (.int .i64 (x : Int))).1
  rw [lst_set] at this
  exact this
theorem FI.setOrd {w : World} {B f n : Nat} {ev : Value} {es : List Row} {bo bl bh bc : Nat} {sv : Value} {s : St} (h : FI w B f n ev es bo bl bh bc sv s) (i x : Nat) : FI (w.setCell ⟨bo, i, none⟩ (.int .i64 (x : Int))) B f n ev es bo bl bh bc sv { s with ord := upd s.ord i x } := by
  obtain ⟨n1, n2, n3, n4, n5⟩ := h.nef
  obtain ⟨m1, m2, m3, m4, m5, m6⟩ := h.ne
  obtain ⟨p1, p2, p3, p4⟩ := h.nes
  exact ⟨blk_other _ h.blk (Ne.symm n1), rows_set _ h.edges (own_tag h.ord).1, h.elen, own_store x h.ord, own_set _ h.low (Ne.symm m1), own_set _ h.held (Ne.symm m2), own_set _ h.comp (Ne.symm m3), own_setv _ h.stk p1, h.ne, h.nes, h.ge⟩
theorem FI.setLow {w : World} {B f n : Nat} {ev : Value} {es : List Row} {bo bl bh bc : Nat} {sv : Value} {s : St} (h : FI w B f n ev es bo bl bh bc sv s) (i x : Nat) : FI (w.setCell ⟨bl, i, none⟩ (.int .i64 (x : Int))) B f n ev es bo bl bh bc sv { s with low := upd s.low i x } := by
  obtain ⟨n1, n2, n3, n4, n5⟩ := h.nef
  obtain ⟨m1, m2, m3, m4, m5, m6⟩ := h.ne
  obtain ⟨p1, p2, p3, p4⟩ := h.nes
  exact ⟨blk_other _ h.blk (Ne.symm n2), rows_set _ h.edges (own_tag h.low).1, h.elen, own_set _ h.ord m1, own_store x h.low, own_set _ h.held (Ne.symm m4), own_set _ h.comp (Ne.symm m5), own_setv _ h.stk p2, h.ne, h.nes, h.ge⟩
theorem FI.setHeld {w : World} {B f n : Nat} {ev : Value} {es : List Row} {bo bl bh bc : Nat} {sv : Value} {s : St} (h : FI w B f n ev es bo bl bh bc sv s) (i : Nat) (b : Bool) : FI (w.setCell ⟨bh, i, none⟩ (.int .i64 ((if b then 1 else 0 : Nat) : Int))) B f n ev es bo bl bh bc sv { s with held := upd s.held i b } := by
  obtain ⟨n1, n2, n3, n4, n5⟩ := h.nef
  obtain ⟨m1, m2, m3, m4, m5, m6⟩ := h.ne
  obtain ⟨p1, p2, p3, p4⟩ := h.nes
  have := own_store (i := i) (if b then 1 else 0) h.held
  rw [hb_upd] at this
  exact ⟨blk_other _ h.blk (Ne.symm n3), rows_set _ h.edges (own_tag h.held).1, h.elen, own_set _ h.ord m2, own_set _ h.low m4, this, own_set _ h.comp (Ne.symm m6), own_setv _ h.stk p3, h.ne, h.nes, h.ge⟩
theorem FI.setComp {w : World} {B f n : Nat} {ev : Value} {es : List Row} {bo bl bh bc : Nat} {sv : Value} {s : St} (h : FI w B f n ev es bo bl bh bc sv s) (i x : Nat) : FI (w.setCell ⟨bc, i, none⟩ (.int .i64 (x : Int))) B f n ev es bo bl bh bc sv { s with comp := upd s.comp i x } := by
  obtain ⟨n1, n2, n3, n4, n5⟩ := h.nef
  obtain ⟨m1, m2, m3, m4, m5, m6⟩ := h.ne
  obtain ⟨p1, p2, p3, p4⟩ := h.nes
  exact ⟨blk_other _ h.blk (Ne.symm n4), rows_set _ h.edges (own_tag h.comp).1, h.elen, own_set _ h.ord m3, own_set _ h.low m5, own_set _ h.held m6, own_store x h.comp, own_setv _ h.stk p4, h.ne, h.nes, h.ge⟩
/-- The cells of the finder's rows at a node. -/
structure FCell (w : World) (bo bl bh bc u : Nat) (s : St) : Prop where
  c1 : w.cell? ⟨bo, u, none⟩ = some (.int .i64 (s.ord u : Int))
  c2 : w.cell? ⟨bl, u, none⟩ = some (.int .i64 (s.low u : Int))
  c3 : w.cell? ⟨bh, u, none⟩ = some (.int .i64 (hb s.held u : Int))
  c4 : w.cell? ⟨bc, u, none⟩ = some (.int .i64 (s.comp u : Int))
  z1 : w.frozen? ⟨bo, u, none⟩ = false
  z2 : w.frozen? ⟨bl, u, none⟩ = false
  z3 : w.frozen? ⟨bh, u, none⟩ = false
  z4 : w.frozen? ⟨bc, u, none⟩ = false
theorem FI.fcell {w : World} {B f n : Nat} {ev : Value} {es : List Row} {bo bl bh bc : Nat} {sv : Value} {s : St} (h : FI w B f n ev es bo bl bh bc sv s) {u : Nat} (hu : u < n) : FCell w bo bl bh bc u s :=
  ⟨by rw [h.ord.cellAt u (by omega)]; exact lst_get _ hu, by rw [h.low.cellAt u (by omega)]; exact lst_get _ hu, by rw [h.held.cellAt u (by omega)]; exact lst_get _ hu, by rw [h.comp.cellAt u (by omega)]; exact lst_get _ hu,
    h.ord.frozenAt u, h.low.frozenAt u, h.held.frozenAt u, h.comp.frozenAt u⟩
end Go.Proofs.Ytcpjlfhehjmfbaa.Gr
