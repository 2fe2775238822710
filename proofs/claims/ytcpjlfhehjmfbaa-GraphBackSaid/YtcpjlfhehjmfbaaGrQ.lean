/- graph.Components: its memory: the members, what waits for what. -/
import Derived.Test.YtcpjlfhehjmfbaaGrO
import Derived.Test.YtcpjlfhehjmfbaaGrN
namespace Go.Proofs.Ytcpjlfhehjmfbaa.Gr
open Go.RowKit Go.Shelf Go.Proofs.Ytcpjlfhehjmfbaa.Sg
set_option linter.unusedVariables false
set_option linter.unusedSimpArgs false

theorem memb_succ {n : Nat} {comp : Nat → Nat} {c : Nat} : memb (n + 1) comp c = if comp n = c then memb n comp c ++ [n] else memb n comp c := by
  unfold memb
  rw [List.range_succ, List.filter_append]
  by_cases h : comp n = c <;> simp [h]
theorem memb_upd (n : Nat) (comp : Nat → Nat) : (fun c => memb (n + 1) comp c) = upd (fun c => memb n comp c) (comp n) (memb n comp (comp n) ++ [n]) := by
  funext c
  rw [memb_succ]
  by_cases h : comp n = c
  · subst h; rw [upd_same, if_pos rfl]
  · rw [upd_ne _ _ _ (Ne.symm h), if_neg h]
theorem memb_zero (comp : Nat → Nat) : (fun c => memb 0 comp c) = fun _ => [] := by funext c; simp [memb]
theorem memb_le (n : Nat) (comp : Nat → Nat) (c : Nat) : (memb n comp c).length ≤ n := by
  unfold memb
  refine Nat.le_trans (List.length_filter_le _ _) ?_
  simp
/-- The members so far, and the box that they hang in. -/
structure M1 (w1 wr : World) (nc bm bx : Nat) (vs : Nat → Value) (comp : Nat → Nat) (i : Nat) : Prop where
  ll : LLat wr w1.heap.size nc bm vs (fun c => memb i comp c)
  box : wr.heap[bx]? = some (.cells #[.slice (some ⟨bm, 0, none⟩) nc nc] 24 (0, 0))
  nbx : ¬ LF nc bm vs bx
  ge : w1.heap.size ≤ bx
  below : Below w1.heap.size w1 wr
theorem M1.start (w1 : World) (nc : Nat) (comp : Nat → Nat) (hn : nc < 1000000) : M1 w1 ((w1.alloc (Ns nc)).alloc (.cells #[.slice (some ⟨w1.heap.size, 0, none⟩) nc nc] 24)) nc w1.heap.size (w1.heap.size + 1) (fun _ => .slice none 0 0) comp 0 := by
  have h0 := LLat.new w1 w1.heap.size nc (Nat.le_refl _) hn
  have hb := heap_alloc_new (w1.alloc (Ns nc)) (.cells #[.slice (some ⟨w1.heap.size, 0, none⟩) nc nc] 24)
  rw [World.size_alloc] at hb
  refine ⟨?_, hb, ?_, Nat.le_succ _, below_alloc0 (below_alloc0 (Below.refl _ _) _) _⟩
  · rw [memb_zero]
    exact h0.below (below_alloc0 (Below.refl _ _) _)
  · rintro (h | ⟨j, _, h⟩)
    · omega
    · simp [Value.ownBlock] at h
theorem M1.drew {w1 wr : World} {nc bm bx : Nat} {vs : Nat → Value} {comp : Nat → Nat} {i : Nat} (h : M1 w1 wr nc bm bx vs comp i) : M1 w1 wr.drew nc bm bx vs comp i :=
  ⟨h.ll.below (below_drew (Below.refl _ _)), h.box, h.nbx, h.ge, below_drew h.below⟩
theorem M1.cells {w1 wr : World} {nc bm bx : Nat} {vs : Nat → Value} {comp : Nat → Nat} {i c : Nat} (h : M1 w1 wr nc bm bx vs comp i) (hc : c < nc) : wr.cell? ⟨bx, 0, none⟩ = some (.slice (some ⟨bm, 0, none⟩) nc nc) ∧ wr.cell? ⟨bm, c, none⟩ = some (vs c) :=
  ⟨by rw [cell_of_row wr bx 0 _ _ _ h.box]; rfl, (h.ll.cell hc).1⟩
/-- Node i is put to its component. -/
theorem M1.step {w1 wr w2 : World} {nc bm bx : Nat} {vs : Nat → Value} {comp : Nat → Nat} {i : Nat} {v1 : Value} {o : Obj} (h : M1 w1 wr nc bm bx vs comp i) (hc : comp i < nc) (hg : (wr.alloc o).grownBy w2 (vs (comp i)).ownBlock)
    (ho : w2.ownsRow w1.heap.size 3 1 v1 ((memb i comp (comp i)).length + 1) (intsN (memb i comp (comp i)) ++ [.int .i64 (i : Int)])) (hb : v1.ownBlock = (vs (comp i)).ownBlock ∨ v1.ownBlock = some (wr.alloc o).heap.size) :
    M1 w1 (w2.setCell ⟨bm, comp i, none⟩ v1) nc bm bx (upd vs (comp i) v1) comp (i + 1) ∧ w2.cell? ⟨bx, 0, none⟩ = some (.slice (some ⟨bm, 0, none⟩) nc nc) ∧ (w2.setCell ⟨bm, comp i, none⟩ v1).cell? ⟨bx, 0, none⟩ = some (.slice (some ⟨bm, 0, none⟩) nc nc) ∧ w2.frozen? ⟨bm, comp i, none⟩ = false ∧ w2.cell? ⟨bm, comp i, none⟩ = some (vs (comp i)) := by
  obtain ⟨q1, q2, q3, q4, q5⟩ := h.ll.app hc hg ho hb
  have hsz := h.below.size
  have hbl : bx < wr.heap.size := (Array.getElem?_eq_some_iff.1 h.box).1
  have hbox := (q2.blk bx hbl h.nbx).trans h.box
  have k0 : Kept wr w2 (LF nc bm vs) := Kept.of_grown hg ((Kept.refl wr _).alloc o) (fun k e => .inl (.inr ⟨_, hc, e⟩))
  have hbox2 := (k0.blk bx hbl h.nbx).trans h.box
  refine ⟨⟨?_, hbox, fun k => ?_, h.ge, h.below.trans (q2.below hsz (fun k hk => (h.ll.ge k hk).1))⟩, ?_, ?_, q5, q4⟩
  · rw [memb_upd]; exact q1
  · rcases q3 bx k with q | q
    · exact h.nbx q
    · omega
  · rw [cell_of_row w2 bx 0 _ _ _ hbox2]; rfl
  · rw [cell_of_row _ bx 0 _ _ _ hbox]; rfl

/-! ### what waits for what -/
structure M2 (w2 wr : World) (nc bw bb : Nat) (vb : Nat → Value) (W : Nat → Nat) (K : Nat → List Nat) : Prop where
  wts : wr.ownsRow w2.heap.size 3 1 (.slice (some ⟨bw, 0, none⟩) nc nc) nc (lst nc W)
  ll : LLat wr w2.heap.size nc bb vb K
  nbw : ¬ LF nc bb vb bw
  below : Below w2.heap.size w2 wr
theorem M2.drewN {w2 wr : World} {nc bw bb : Nat} {vb : Nat → Value} {W : Nat → Nat} {K : Nat → List Nat} (h : M2 w2 wr nc bw bb vb W K) (m : Nat) : M2 w2 (wr.drewN m) nc bw bb vb W K :=
  ⟨(Stays.drewN (fun _ => True) _ _).owns h.wts (fun _ _ => trivial), h.ll.below (below_drewN (Below.refl _ _) m), h.nbw, below_drewN h.below m⟩
theorem M2.drew {w2 wr : World} {nc bw bb : Nat} {vb : Nat → Value} {W : Nat → Nat} {K : Nat → List Nat} (h : M2 w2 wr nc bw bb vb W K) : M2 w2 wr.drew nc bw bb vb W K :=
  ⟨(Stays.drew (fun _ => True) _).owns h.wts (fun _ _ => trivial), h.ll.below (below_drew (Below.refl _ _)), h.nbw, below_drew h.below⟩
theorem waits_nil : waitsOf [] [] = fun _ => 0 := by funext d; rfl
theorem back_nil : backOf [] = fun _ => [] := by funext d; rfl
theorem M2.startA (w2 : World) (nc : Nat) (hn : nc < 1000000) : M2 w2 ((w2.alloc (Zs nc)).alloc (Ns nc)) nc w2.heap.size (w2.heap.size + 1) (fun _ => .slice none 0 0) (waitsOf [] []) (backOf []) := by
  rw [waits_nil, back_nil]
  have h0 := LLat.new (w2.alloc (Zs nc)) w2.heap.size nc (by simp) hn
  rw [World.size_alloc] at h0
  refine ⟨?_, h0, ?_, below_alloc0 (below_alloc0 (Below.refl _ _) _) _⟩
  · rw [lst_zero nc _ (fun _ => rfl)]
    exact (Stays.alloc (fun _ => True) _ _).owns (owns_new w2 w2.heap.size 3 nc _ (Nat.le_refl _) (by omega)) (fun _ _ => trivial)
  · rintro (h | ⟨j, _, h⟩)
    · omega
    · simp [Value.ownBlock] at h
theorem M2.startB (w2 : World) (nc : Nat) (hn : nc < 1000000) : M2 w2 ((w2.alloc (Ns nc)).alloc (Zs nc)) nc (w2.heap.size + 1) w2.heap.size (fun _ => .slice none 0 0) (waitsOf [] []) (backOf []) := by
  rw [waits_nil, back_nil]
  have h0 := LLat.new w2 w2.heap.size nc (Nat.le_refl _) hn
  refine ⟨?_, h0.below (below_alloc0 (Below.refl _ _) _), ?_, below_alloc0 (below_alloc0 (Below.refl _ _) _) _⟩
  · rw [lst_zero nc _ (fun _ => rfl)]
    have := owns_new (w2.alloc (Ns nc)) w2.heap.size 3 nc (.int .i64 0) (by simp) (by omega)
    rw [World.size_alloc] at this
    exact this
  · rintro (h | ⟨j, _, h⟩)
    · omega
    · simp [Value.ownBlock] at h
theorem M2.bw {w2 wr : World} {nc bw bb : Nat} {vb : Nat → Value} {W : Nat → Nat} {K : Nat → List Nat} (h : M2 w2 wr nc bw bb vb W K) : w2.heap.size ≤ bw ∧ bw < wr.heap.size := World.ownsRow.lt h.wts _ rfl
theorem M2.wcell {w2 wr : World} {nc bw bb c : Nat} {vb : Nat → Value} {W : Nat → Nat} {K : Nat → List Nat} (h : M2 w2 wr nc bw bb vb W K) (hc : c < nc) : wr.cell? ⟨bw, c, none⟩ = some (.int .i64 (W c : Int)) ∧ wr.frozen? ⟨bw, c, none⟩ = false :=
  ⟨by rw [h.wts.cellAt c (by omega)]; exact lst_get _ hc, h.wts.frozenAt c⟩
theorem M2.inc {w2 wr : World} {nc bw bb : Nat} {vb : Nat → Value} {W : Nat → Nat} {K : Nat → List Nat} (h : M2 w2 wr nc bw bb vb W K) (c x : Nat) : M2 w2 (wr.setCell ⟨bw, c, none⟩ (.int .i64 (x : Int))) nc bw bb vb (upd W c x) K :=
  ⟨own_store x h.wts, h.ll.kept ((Kept.refl wr (· = bw)).setCell (.inl rfl) _) (fun k hk e => h.nbw (e ▸ hk)), h.nbw, below_setCell h.below h.bw.1 _⟩
theorem M2.app {w2 wr w3 : World} {nc bw bb c x : Nat} {vb : Nat → Value} {v1 : Value} {W : Nat → Nat} {K : Nat → List Nat} {o : Obj} (h : M2 w2 wr nc bw bb vb W K) (hc : c < nc) (hg : (wr.alloc o).grownBy w3 (vb c).ownBlock)
    (ho : w3.ownsRow w2.heap.size 3 1 v1 ((K c).length + 1) (intsN (K c) ++ [.int .i64 (x : Int)])) (hb : v1.ownBlock = (vb c).ownBlock ∨ v1.ownBlock = some (wr.alloc o).heap.size) :
    M2 w2 (w3.setCell ⟨bb, c, none⟩ v1) nc bw bb (upd vb c v1) W (upd K c (K c ++ [x])) ∧ Below w2.heap.size w2 w3 ∧ w3.cell? ⟨bb, c, none⟩ = some (vb c) ∧ w3.frozen? ⟨bb, c, none⟩ = false := by
  obtain ⟨q1, q2, q3, q4, q5⟩ := h.ll.app hc hg ho hb
  have hsz := h.below.size
  have k0 : Kept wr w3 (LF nc bb vb) := Kept.of_grown hg ((Kept.refl wr _).alloc o) (fun k e => .inl (.inr ⟨_, hc, e⟩))
  have hbw := h.bw
  refine ⟨⟨own_kept q2 h.wts (fun k e => by have e : bw = k := Option.some.inj e; subst e; exact h.nbw), q1, fun k => ?_, h.below.trans (q2.below hsz (fun k hk => (h.ll.ge k hk).1))⟩, h.below.trans (k0.below hsz (fun k hk => (h.ll.ge k hk).1)), q4, q5⟩
  rcases q3 bw k with q | q
  · exact h.nbw q
  · omega
end Go.Proofs.Ytcpjlfhehjmfbaa.Gr
