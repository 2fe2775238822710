/- Contract: the finder's meet. -/
import Derived.Test.YtcpjlfhehjmfbaaGrE
namespace Go.Proofs.Ytcpjlfhehjmfbaa.Gr
open Go.RowKit Go.Shelf Go.Proofs.Ytcpjlfhehjmfbaa.Sg
set_option linter.unusedVariables false
set_option linter.unusedSimpArgs false

theorem info_intG : (Try.prog.info? 3).map (fun i => (i.zero, i.size, i.bytes)) = some (some (.int .i64 0), 1, 8) := by kernel_rfl
theorem own_slice {w : World} {B e n size : Nat} {v : Value} {xs : List Value} (h : w.ownsRow B e size v n xs) : ∃ A m c, v = .slice A m c := by
  rcases h.2 with ⟨h1, _⟩ | ⟨b, cap, cur, h1, _⟩ <;> exact ⟨_, _, _, h1⟩
theorem cell_one_newG (w : World) (a : Value) (T : TypeId) : ∀ j u, [a][j]? = some u → (w.alloc (.cells #[a] T)).cell? ((⟨w.heap.size, 0, none⟩ : Addr).add j) = some u := by
  intro j u hj
  match j, hj with
  | 0, hj => simp at hj; subst hj; simp [Addr.add]
theorem ff_new {f bo bl bh bc : Nat} {sv : Value} : ∀ k, k = bo ∨ k = bl ∨ k = bh ∨ k = bc ∨ k = f → FF f bo bl bh bc sv k := fun k h => by
  unfold FF
  rcases h with h | h | h | h | h
  · exact .inr (.inl h)
  · exact .inr (.inr (.inl h))
  · exact .inr (.inr (.inr (.inl h)))
  · exact .inr (.inr (.inr (.inr (.inl h))))
  · exact .inl h
/-- A node is put on the stack. -/
theorem FI.push {w w1 : World} {B f n : Nat} {ev : Value} {es : List Row} {bo bl bh bc : Nat} {sv v1 : Value} {s : St} (h : FI w B f n ev es bo bl bh bc sv s) (u : Nat) {o : Obj} (hg : (w.alloc o).grownBy w1 sv.ownBlock)
    (ho : w1.ownsRow B 3 1 v1 (s.stack.length + 1) (stkL s.stack ++ [.int .i64 (u : Int)])) (hb : v1.ownBlock = sv.ownBlock ∨ v1.ownBlock = some (w.alloc o).heap.size) :
    w1.heap[f]? = w.heap[f]? ∧ FI (w1.setCell ⟨f, 4, none⟩ v1) B f n ev es bo bl bh bc v1 { s with stack := u :: s.stack } ∧ Kept w (w1.setCell ⟨f, 4, none⟩ v1) (FF f bo bl bh bc sv) ∧ (∀ k, v1.ownBlock = some k → sv.ownBlock = some k ∨ w.heap.size ≤ k) := by
  obtain ⟨n1, n2, n3, n4, n5⟩ := h.nef
  obtain ⟨p1, p2, p3, p4⟩ := h.nes
  have hff := h.ffge
  have hst : Stays (fun k => sv.ownBlock ≠ some k) w w1 := (Stays.alloc _ w o).trans (Stays.of_grown hg) (by simp)
  have hfl := (hff f (.inl rfl)).2
  have hfb : w1.heap[f]? = w.heap[f]? := hst f n5 hfl
  have hnew : ∀ k, v1.ownBlock = some k → sv.ownBlock = some k ∨ w.heap.size ≤ k := fun k hk => by
    rcases hb with q | q
    · exact .inl (q ▸ hk)
    · right; rw [q] at hk; have := Option.some.inj hk; simp at this; omega
  have hne : ∀ b, b < w.heap.size → sv.ownBlock ≠ some b → v1.ownBlock ≠ some b := fun b hl hs e => by
    rcases hnew b e with q | q
    · exact hs q
    · omega
  have own1 : ∀ {b : Nat} {xs : List Value}, w.ownsRow B 3 1 (.slice (some ⟨b, 0, none⟩) n n) n xs → sv.ownBlock ≠ some b → w1.ownsRow B 3 1 (.slice (some ⟨b, 0, none⟩) n n) n xs := fun {b xs} hx hs => hst.owns hx (fun k hk => by have e : b = k := Option.some.inj hk; subst e; exact hs)
  refine ⟨hfb, ⟨blk8 (j := 4) _ (hfb.trans h.blk), rows_set _ (reads_rows.stays h.edges (hst.mono (fun b hb _ e => ?_))) h.ge, h.elen, own_set _ (own1 h.ord p1) n1, own_set _ (own1 h.low p2) n2, own_set _ (own1 h.held p3) n3, own_set _ (own1 h.comp p4) n4, own_setv _ ?_ (hne f hfl n5), h.ne, ⟨hne _ (hff _ (ff_new _ (.inl rfl))).2 p1, hne _ (hff _ (ff_new _ (.inr (.inl rfl)))).2 p2, hne _ (hff _ (ff_new _ (.inr (.inr (.inl rfl))))).2 p3, hne _ (hff _ (ff_new _ (.inr (.inr (.inr (.inl rfl)))))).2 p4⟩, h.ge⟩, ?_, hnew⟩
  · have := (h.stk.lt b e).1
    have hb : b < B := hb
    omega
  · rw [stkL_cons]
    exact ho
  · have k1 : Kept w w1 (FF f bo bl bh bc sv) := Kept.of_grown hg ((Kept.refl w _).alloc o) (fun k hk => .inl (.inr (.inr (.inr (.inr (.inr hk))))))
    exact k1.setCell (p := ⟨f, 4, none⟩) (.inl (.inl rfl)) _
set_option maxHeartbeats 1000000 in
set_option maxRecDepth 100000 in
theorem meet_any (w : World) (B f n : Nat) (ev : Value) (es : List Row) (bo bl bh bc : Nat) (sv : Value) (s : St) (h : FI w B f n ev es bo bl bh bc sv s) (u : Nat) (hu : u < n) (hn : n < 1000000) (hnx : s.next < 1000000000) (hst : s.stack.length < 1000000) :
    Calls Try.prog 25 #[.pointer (some ⟨f, 0, none⟩), .int .i64 (u : Int)] w fun e w' => e = .returned (.tuple #[]) ∧ ∃ sv', FI w' B f n ev es bo bl bh bc sv' (meet s u) ∧ Kept w w' (FF f bo bl bh bc sv) ∧ (∀ k, sv'.ownBlock = some k → sv.ownBlock = some k ∨ w.heap.size ≤ k) := by
  obtain ⟨ii, hii, hi0, hi1, hi2⟩ := info_parts info_intG
  obtain ⟨nx, hnxe⟩ : ∃ nx, s.next + 1 = nx := ⟨_, rfl⟩
  have e0 : (s.next : Int) + 1 = (nx : Int) := by omega
  obtain ⟨k0, k1, k2, k3, k4, k5, k6, k7, f4, f6, f7⟩ := h.fblk
  have H1 := h.setNext nx
  have HK1 := Aside0.mk (show Kept w (w.setCell ⟨f, 6, none⟩ (.int .i64 (nx : Int))) (FF f bo bl bh bc sv) from (Kept.refl w _).setCell (.inl (.inl rfl)) _)
  have wn : IntKind.i64.wrap (nx : Int) = (nx : Int) := by rw [IntKind.wrap_i64]; omega
  have HH := Aside0.mk h
  have NX := Aside0.mk hnxe
  clear h hnxe
  obtain ⟨W1, hW1⟩ : ∃ W1, w.setCell ⟨f, 6, none⟩ (.int .i64 (nx : Int)) = W1 := ⟨_, rfl⟩
  rw [hW1] at H1 HK1
  have HW1 := Aside0.mk hW1
  have H1 := Aside0.mk H1
  clear hW1
  go_enter Try.func25, Try.ntmps25
  go_wp2_with fail
  rw [HW1.out]
  clear k0 k1 k2 k3 k4 k5 k6 k7 f4 f6 f7
  obtain ⟨k0, k1, k2, k3, k4, k5, k6, k7, f4, f6, f7⟩ := H1.out.fblk
  obtain ⟨c1, c2, c3, c4, z1, z2, z3, z4⟩ := H1.out.fcell hu
  obtain ⟨m1, m2, m3, m4, m5, m6⟩ := H1.out.ne
  have m7 := Ne.symm m1
  have m8 := Ne.symm m2
  have m9 := Ne.symm m4
  have hui : (u : Int) < (n : Int) := by omega
  have tu : ((u : Nat) : Int).toNat = u := by omega
  have H2 := Aside0.mk ((((H1.out.setOrd u nx).setLow u nx).setHeld u true).drew)
  have HK2 := Aside0.mk (show Kept w (((W1.setCell ⟨bo, u, none⟩ (.int .i64 (nx : Int))).setCell ⟨bl, u, none⟩ (.int .i64 (nx : Int))).setCell ⟨bh, u, none⟩ (.int .i64 ((1 : Nat) : Int))).drew (FF f bo bl bh bc sv) from
    (((HK1.out.setCell (p := ⟨bo, u, none⟩) (.inl (ff_new _ (.inl rfl))) _).setCell (p := ⟨bl, u, none⟩) (.inl (ff_new _ (.inr (.inl rfl)))) _).setCell (p := ⟨bh, u, none⟩) (.inl (ff_new _ (.inr (.inr (.inl rfl))))) _).drew)
  go_region
  have H2' : Aside0 (FI (((W1.setCell ⟨bo, u, none⟩ (.int .i64 (nx : Int))).setCell ⟨bl, u, none⟩ (.int .i64 (nx : Int))).setCell ⟨bh, u, none⟩ (.int .i64 1)).drew B f n ev es bo bl bh bc sv _) := H2
  have HK2' : Aside0 (Kept w (((W1.setCell ⟨bo, u, none⟩ (.int .i64 (nx : Int))).setCell ⟨bl, u, none⟩ (.int .i64 (nx : Int))).setCell ⟨bh, u, none⟩ (.int .i64 1)).drew (FF f bo bl bh bc sv)) := HK2
  clear H2 HK2 k0 k1 k2 k3 k4 k5 k6 k7 f4 f6 f7 c1 c2 c3 c4 z1 z2 z3 z4 H1
  generalize (((W1.setCell ⟨bo, u, none⟩ (.int .i64 (nx : Int))).setCell ⟨bl, u, none⟩ (.int .i64 (nx : Int))).setCell ⟨bh, u, none⟩ (.int .i64 1)).drew = W2 at H2' HK2' ⊢
  obtain ⟨k0, k1, k2, k3, k4, k5, k6, k7, f4, f6, f7⟩ := H2'.out.fblk
  obtain ⟨A0, c0, hsv⟩ := H2'.out.sform
  simp only at hsv
  have hBs := (H2'.out.ffge f (.inl rfl))
  have h63 := Aside0.mk (show s.stack.length + 1 ≤ maxLen by unfold maxLen; omega)
  have hby := Aside0.mk (show (s.stack.length + 1) * 8 ≤ 140737488355328 by omega)
  have hsz := Aside0.mk (fun o => (show B ≤ (W2.alloc o).heap.size by simp; omega))
  have hfb := Aside0.mk H2'.out.blk
  subst hsv
  clear hBs
  go_wp2_with (at_builtin; refine wpList_append_own_at _ rfl (.tmp 41) (.tmp 43) 22 rfl B 3 ii (.int .i64 0) 1 8 Try.underlying22 hii hi0 hi1 hi2 rfl (by decide) _ _ _ rfl (H2'.out.stk.alloc _) ⟨W2.heap.size, 0, none⟩ 1 1 [Value.int .i64 (u : Int)] rfl rfl (cell_one_newG _ _ _) (by simp [Value.oneCell']) h63.out hby.out (hsz.out _) ?_; intro v1 w10 ho hg _ hb; have PU := Aside0.mk (H2'.out.push u hg ho hb); obtain ⟨m0, m4, z4⟩ : w10.heap[f]? = W2.heap[f]? ∧ w10.cell? ⟨f, 4, none⟩ = some (.slice A0 s.stack.length c0) ∧ w10.frozen? ⟨f, 4, none⟩ = false := ⟨PU.out.1, by rw [World.cell?_of_block (a := ⟨f, 4, none⟩) PU.out.1]; exact k4, by rw [World.frozen?_of_block (a := ⟨f, 4, none⟩) PU.out.1]; exact f4⟩; obtain ⟨Av, nv, cv, hv1⟩ := own_slice ho; subst hv1; clear ho hg hb m0 k4 f4)
  go_end0
  refine ⟨rfl, .slice Av nv cv, ?_, HK2'.out.then_ PU.out.2.2.1 (fun k hk => .inl hk), fun k hk => ?_⟩
  · have := PU.out.2.1
    rw [← NX.out] at this
    exact this
  · rcases PU.out.2.2.2 k hk with q | q
    · exact .inl q
    · exact .inr (Nat.le_trans HK2'.out.size q)
end Go.Proofs.Ytcpjlfhehjmfbaa.Gr
