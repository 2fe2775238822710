/- graph.Components: the order of the components that are ready; what the memory is while they are put out. -/
import Derived.Test.YtcpjlfhehjmfbaaGrQ
import Derived.Test.YtcpjlfhehjmfbaaHiF
namespace Go.Proofs.Ytcpjlfhehjmfbaa.Gr
open Go.RowKit Go.Shelf Go.Proofs.Ytcpjlfhehjmfbaa.Sg Go.Proofs.Ytcpjlfhehjmfbaa.Hi Go.Proofs.Ytcpjlfhehjmfbaa.Hm
set_option linter.unusedVariables false
set_option linter.unusedSimpArgs false

/-- The members as the order reads them. -/
structure Mem (W : World) (bx bm nc : Nat) (vs : Nat → Value) (ld : Nat → Nat) (B : Nat) : Prop where
  box : W.cell? ⟨bx, 0, none⟩ = some (.slice (some ⟨bm, 0, none⟩) nc nc)
  cell : ∀ c, c < nc → W.cell? ⟨bm, c, none⟩ = some (vs c)
  row : ∀ c, c < nc → ∃ b len cap, vs c = .slice (some ⟨b, 0, none⟩) (len + 1) cap ∧ b < B ∧ len < 1000000 ∧ W.cell? ⟨b, 0, none⟩ = some (.int .i64 (ld c : Int))
  lt : bx < B ∧ bm < B
theorem Mem.below {W W2 : World} {bx bm nc : Nat} {vs : Nat → Value} {ld : Nat → Nat} {B : Nat} (h : Mem W bx bm nc vs ld B) (hb : Below B W W2) : Mem W2 bx bm nc vs ld B :=
  ⟨below_cell hb h.lt.1 h.box, fun c hc => below_cell hb h.lt.2 (h.cell c hc), fun c hc => by
    obtain ⟨b, len, cap, h1, h2, h3, h4⟩ := h.row c hc
    exact ⟨b, len, cap, h1, h2, h3, below_cell hb h2 h4⟩, h.lt⟩
theorem M1.mem {w1 wr : World} {nc bm bx n : Nat} {vs : Nat → Value} {comp : Nat → Nat} {A : Adj} (h : M1 w1 wr nc bm bx vs comp n) (hC : Comps A n comp nc) (hn : n < 1000000) : Mem wr bx bm nc vs (lead n comp) wr.heap.size := by
  refine ⟨by rw [cell_of_row wr bx 0 _ _ _ h.box]; rfl, fun c hc => (h.ll.cell hc).1, fun c hc => ?_, (Array.getElem?_eq_some_iff.1 h.box).1, (h.ll.ge bm (.inl rfl)).2⟩
  have hp := memb_pos hC hc
  have hl := memb_le n comp c
  have hr := h.ll.rows c hc
  obtain ⟨l, hl2⟩ : ∃ l, (memb n comp c).length = l + 1 := ⟨(memb n comp c).length - 1, by omega⟩
  rw [hl2] at hr
  obtain ⟨b, cap, h1, h2, h3, cur, h4⟩ := own_formN hr
  refine ⟨b, l, cap, h1, h3, by omega, ?_⟩
  rw [h1] at hr
  rw [hr.cellAt 0 (by omega)]
  unfold lead intsN
  cases hm : memb n comp c with
  | nil => rw [hm] at hp; simp at hp
  | cons a t => rfl
set_option maxHeartbeats 1000000 in
set_option maxRecDepth 100000 in
theorem less_any (w : World) (bx bm nc : Nat) (vs : Nat → Value) (ld : Nat → Nat) (B : Nat) (h : Mem w bx bm nc vs ld B) (a b : Nat) (ha : a < nc) (hb : b < nc) :
    Calls Try.prog 15 #[.int .i64 (a : Int), .int .i64 (b : Int), .pointer (some ⟨bx, 0, none⟩)] w fun e w' => e = .returned (.bool (decide (ld a < ld b))) ∧ Below w.heap.size w w' := by
  have mixed : Try.prog.follows .mixedOrders = true := by kernel_rfl
  have hbox := h.box
  obtain ⟨b1, l1, c1, hv1, -, hl1, hd1⟩ := h.row a ha
  obtain ⟨b2, l2, c2, hv2, -, hl2, hd2⟩ := h.row b hb
  have hc1 := h.cell a ha
  have hc2 := h.cell b hb
  rw [hv1] at hc1
  rw [hv2] at hc2
  have hai : (a : Int) < (nc : Int) := by omega
  have hbi : (b : Int) < (nc : Int) := by omega
  have ta : ((a : Nat) : Int).toNat = a := by omega
  have tb : ((b : Nat) : Int).toNat = b := by omega
  generalize ld a = x at hd1 ⊢
  generalize ld b = y at hd2 ⊢
  clear h hv1 hv2
  go_enter Try.func15, Try.ntmps15
  go_wp2_with fail
  go_quiet (fail)
  go_wp2
  go_ret
  exact ⟨rfl, below_drewN (Below.refl _ _) _⟩
/-- The order. -/
def ordC (bx bm nc : Nat) (vs : Nat → Value) (ld : Nat → Nat) (B : Nat) : Hi.Ord := ⟨15, #[.pointer (some ⟨bx, 0, none⟩)], fun x y => decide (ld x.toNat < ld y.toNat), fun W => Mem W bx bm nc vs ld B, fun x => ∃ c : Nat, c < nc ∧ x = (c : Int)⟩
theorem ordC_ok (bx bm nc : Nat) (vs : Nat → Value) (ld : Nat → Nat) (B : Nat) : (ordC bx bm nc vs ld B).OK B := by
  refine ⟨fun x1 x2 w hw h1 h2 => ?_, fun w w' h hb => Mem.below h hb, enters_of Try.func15 (by kernel_rfl) rfl⟩
  obtain ⟨a, ha, rfl⟩ := h1
  obtain ⟨b, hb, rfl⟩ := h2
  exact less_any w bx bm nc vs ld B hw a b ha hb
theorem ordC_good (bx bm nc : Nat) (vs : Nat → Value) (ld : Nat → Nat) (B : Nat) : Hm.Good (ordC bx bm nc vs ld B).lt :=
  good_of (fun (x y : Int) h => by simp [ordC] at h ⊢; omega) (fun (x y z : Int) h k => by simp [ordC] at h k ⊢; omega)
/-- What the memory is while components are put out: the heap, who waits, what is out. -/
structure M3 (w3 w4 wr : World) (nc bw g : Nat) (O : Hi.Ord) (F : Nat → Prop) (L : List Hi.E) (came : Int) (W : Nat → Nat) (ov : Value) (vals : List Value) : Prop where
  heap : HeapS wr w3.heap.size g F O L came
  fge : ∀ k, F k → w4.heap.size ≤ k
  wts : wr.ownsRow w3.heap.size 3 1 (.slice (some ⟨bw, 0, none⟩) nc nc) nc (lst nc W)
  keep : Kept w4 wr (· = bw)
  out : wr.ownsRow w4.heap.size 22 1 ov vals.length vals
  nout : ∀ k, ov.ownBlock = some k → ¬ F k
  bwlt : w3.heap.size ≤ bw ∧ bw < w4.heap.size
theorem M3.drewN {w3 w4 wr : World} {nc bw g : Nat} {O : Hi.Ord} (OK : O.OK w3.heap.size) {F : Nat → Prop} {L : List Hi.E} {came : Int} {W : Nat → Nat} {ov : Value} {vals : List Value} (h : M3 w3 w4 wr nc bw g O F L came W ov vals) (m : Nat) : M3 w3 w4 (wr.drewN m) nc bw g O F L came W ov vals :=
  ⟨h.heap.below OK (below_drewN (Below.refl _ _) m), h.fge, (Stays.drewN (fun _ => True) _ _).owns h.wts (fun _ _ => trivial), h.keep.drewN m, (Stays.drewN (fun _ => True) _ _).owns h.out (fun _ _ => trivial), h.nout, h.bwlt⟩
theorem M3.below {w3 w4 wr wq : World} {nc bw g : Nat} {O : Hi.Ord} (OK : O.OK w3.heap.size) {F : Nat → Prop} {L : List Hi.E} {came : Int} {W : Nat → Nat} {ov : Value} {vals : List Value} (h : M3 w3 w4 wr nc bw g O F L came W ov vals) (hb : Below wr.heap.size wr wq) : M3 w3 w4 wq nc bw g O F L came W ov vals :=
  ⟨h.heap.below OK hb, h.fge, (Stays.of_below hb (fun _ => True)).owns h.wts (fun _ _ => trivial), h.keep.then_ (Kept.of_below hb (fun _ => False)) (fun _ h => h.elim), (Stays.of_below hb (fun _ => True)).owns h.out (fun _ _ => trivial), h.nout, h.bwlt⟩
theorem M3.wcell {w3 w4 wr : World} {nc bw g c : Nat} {O : Hi.Ord} {F : Nat → Prop} {L : List Hi.E} {came : Int} {W : Nat → Nat} {ov : Value} {vals : List Value} (h : M3 w3 w4 wr nc bw g O F L came W ov vals) (hc : c < nc) : wr.cell? ⟨bw, c, none⟩ = some (.int .i64 (W c : Int)) ∧ wr.frozen? ⟨bw, c, none⟩ = false :=
  ⟨by rw [h.wts.cellAt c (by omega)]; exact lst_get _ hc, h.wts.frozenAt c⟩
/-- A call that turns the heap alone. -/
theorem M3.heaped {w3 w4 wr wq : World} {nc bw g : Nat} {O : Hi.Ord} {F F2 : Nat → Prop} {L L2 : List Hi.E} {came came2 : Int} {W : Nat → Nat} {ov : Value} {vals : List Value} (h : M3 w3 w4 wr nc bw g O F L came W ov vals) (hh : HeapS wq w3.heap.size g F2 O L2 came2) (hf : ∀ b, F2 b → F b ∨ wr.heap.size ≤ b) (hk : Kept wr wq F) : M3 w3 w4 wq nc bw g O F2 L2 came2 W ov vals := by
  have hs := h.keep.size
  have hb := h.bwlt
  refine ⟨hh, fun k hk2 => ?_, own_kept hk h.wts (fun k e hF => ?_), h.keep.then_ hk (fun k hF => .inr (h.fge k hF)), own_kept hk h.out h.nout, fun k e hF => ?_, hb⟩
  · rcases hf k hk2 with q | q
    · exact h.fge k q
    · omega
  · have e : bw = k := Option.some.inj e
    subst e
    have := h.fge _ hF
    omega
  · rcases hf k hF with q | q
    · exact h.nout k e q
    · have := (h.out.lt k e).2
      omega
theorem M3.dec {w3 w4 wr : World} {nc bw g : Nat} {O : Hi.Ord} (OK : O.OK w3.heap.size) {F : Nat → Prop} {L : List Hi.E} {came : Int} {W : Nat → Nat} {ov : Value} {vals : List Value} (h : M3 w3 w4 wr nc bw g O F L came W ov vals) (c x : Nat) : M3 w3 w4 (wr.setCell ⟨bw, c, none⟩ (.int .i64 (x : Int))) nc bw g O F L came (upd W c x) ov vals := by
  have hb := h.bwlt
  have hk : Kept wr (wr.setCell ⟨bw, c, none⟩ (.int .i64 (x : Int))) (· = bw) := (Kept.refl wr (· = bw)).setCell (p := ⟨bw, c, none⟩) (.inl rfl) _
  refine ⟨h.heap.kept OK hk (fun k e => by omega) (fun k hF e => ?_), h.fge, own_store x h.wts, h.keep.setCell (p := ⟨bw, c, none⟩) (.inl rfl) _, own_kept hk h.out (fun k e q => ?_), h.nout, hb⟩
  · have := h.fge k hF
    omega
  · have := (h.out.lt k e).1
    omega
theorem M3.put {w3 w4 wr wq : World} {nc bw g : Nat} {O : Hi.Ord} (OK : O.OK w3.heap.size) {F : Nat → Prop} {L : List Hi.E} {came : Int} {W : Nat → Nat} {ov ov2 x : Value} {vals : List Value} {o : Obj} (h : M3 w3 w4 wr nc bw g O F L came W ov vals) (hg : (wr.alloc o).grownBy wq ov.ownBlock) (ho : wq.ownsRow w4.heap.size 22 1 ov2 (vals.length + 1) (vals ++ [x])) (hb : ov2.ownBlock = ov.ownBlock ∨ ov2.ownBlock = some (wr.alloc o).heap.size) : M3 w3 w4 wq nc bw g O F L came W ov2 (vals ++ [x]) := by
  have hbw := h.bwlt
  have hs := h.keep.size
  have hk : Kept wr wq (fun k => ov.ownBlock = some k) := Kept.of_grown hg ((Kept.refl wr _).alloc o) (fun k e => .inl e)
  refine ⟨h.heap.kept OK hk (fun k e => ?_) (fun k hF e => h.nout k e hF), h.fge, own_kept hk h.wts (fun k e q => ?_), h.keep.then_ hk (fun k e => .inr (h.out.lt k e).1), by rw [List.length_append]; exact ho, fun k e hF => ?_, hbw⟩
  · have := (h.out.lt k e).1; omega
  · have e : bw = k := Option.some.inj e
    subst e
    have := (h.out.lt _ q).1
    omega
  · rcases hb with q | q
    · exact h.nout k (q ▸ e) hF
    · rw [q] at e
      have e := Option.some.inj e
      have := (h.heap.bs k hF).2
      simp at e
      omega
end Go.Proofs.Ytcpjlfhehjmfbaa.Gr
