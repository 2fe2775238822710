/- Contract: the finder's close. -/
import Derived.Test.YtcpjlfhehjmfbaaGrF
import Derived.Deep.LoopGhost
namespace Go.Proofs.Ytcpjlfhehjmfbaa.Gr
open Go.RowKit Go.Shelf Go.Proofs.Ytcpjlfhehjmfbaa.Sg
set_option linter.unusedVariables false
set_option linter.unusedSimpArgs false

theorem own_cut {w : World} {B e size n b cap : Nat} {xs : List Value} (h : w.ownsRow B e size (.slice (some ⟨b, 0, none⟩) n cap) n xs) (m : Nat) (hm : m ≤ n) : w.ownsRow B e size (.slice (some ⟨b, 0, none⟩) m cap) m (xs.take (m * size)) := by
  have hms := Nat.mul_le_mul_right size hm
  refine ⟨by rw [List.length_take, h.1]; omega, ?_⟩
  rcases h.2 with ⟨h0, _⟩ | ⟨b', cap', cur, h0, hb, hh, h1, h2, h3, h4⟩
  · simp at h0
  · simp only [Value.slice.injEq, Option.some.injEq, Addr.mk.injEq, and_true, true_and] at h0
    obtain ⟨rfl, rfl⟩ := h0
    refine .inr ⟨b, cap, cur, rfl, hb, hh, by omega, h2, h3, ?_⟩
    rw [← h4, List.take_take, Nat.min_eq_left hms]
theorem popS_eq {s : St} {r : List Nat} {x c : Nat} (hs : s.stack = x :: r) (hc : s.count = c) : popS s x = ⟨s.ord, s.low, upd s.held x false, upd s.comp x c, r, s.next, s.count⟩ := by
  subst hc
  unfold popS
  rw [hs]
  rfl
/-- The stack's uppermost node. -/
theorem FI.top {w : World} {B f n : Nat} {ev : Value} {es : List Row} {bo bl bh bc : Nat} {sv : Value} {s : St} (h : FI w B f n ev es bo bl bh bc sv s) {x : Nat} {r : List Nat} (hs : s.stack = x :: r) :
    ∃ b cap, sv = .slice (some ⟨b, 0, none⟩) (r.length + 1) cap ∧ r.length + 1 ≤ cap ∧ cap ≤ maxLen ∧ w.cell? ⟨b, r.length, none⟩ = some (.int .i64 (x : Int)) ∧ w.ownsRow B 3 1 (.slice (some ⟨b, 0, none⟩) r.length cap) r.length (stkL r) := by
  have hk := h.stk
  rw [hs, stkL_cons, List.length_cons] at hk
  rcases hk.2 with ⟨_, h0⟩ | ⟨b, cap, cur, rfl, hb, hh, h1, h2, h3, h4⟩
  · omega
  · refine ⟨b, cap, rfl, h1, h2, ?_, ?_⟩
    · rw [hk.cellAt r.length (by omega), List.getElem?_append_right (by rw [stkL_length]; exact Nat.le_refl _), stkL_length, Nat.sub_self]
      rfl
    · have := own_cut hk r.length (by omega)
      rwa [Nat.mul_one, List.take_left' (stkL_length r)] at this
set_option maxHeartbeats 1000000 in
set_option maxRecDepth 100000 in
theorem close_any (w : World) (B f n : Nat) (ev : Value) (es : List Row) (bo bl bh bc : Nat) (sv : Value) (s : St) (h : FI w B f n ev es bo bl bh bc sv s) {A : Adj} {p : List (Nat × Nat)} (hI : Inv A n s p) (u : Nat) (hu : s.held u = true) (hn : n < 1000000) (hnx : s.next < 1000000000) (hct : s.count < 1000000000) (hst : s.stack.length < 1000000) :
    Calls Try.prog 27 #[.pointer (some ⟨f, 0, none⟩), .int .i64 (u : Int)] w fun e w' => e = .returned (.tuple #[]) ∧ ∃ sv', FI w' B f n ev es bo bl bh bc sv' (closeS s u) ∧ Kept w w' (FF f bo bl bh bc sv) ∧ sv'.ownBlock = sv.ownBlock := by
  have hun : u < n := (hI.lt u (hI.heldMet u hu)).1
  have hus : u ∈ s.stack := (hI.stk u).2 hu
  have mixed : Try.prog.follows .mixedOrders = true := by kernel_rfl
  obtain ⟨k0, k1, k2, k3, k4, k5, k6, k7, f4, f6, f7⟩ := h.fblk
  obtain ⟨c1, c2, c3, c4, z1, z2, z3, z4⟩ := h.fcell hun
  have HH := Aside0.mk h
  have HI := Aside0.mk hI
  have hui : (u : Int) < (n : Int) := by omega
  have tu : ((u : Nat) : Int).toNat = u := by omega
  clear h hI
  by_cases hlo : s.low u = s.ord u
  · have hlz : (s.low u : Int) = (s.ord u : Int) := by omega
    have HLO := Aside0.mk (show closeS s u = shut s u by unfold closeS; rw [if_neg (fun k => k hlo)])
    rw [hlo] at c2
    clear hlo hlz
    generalize s.ord u = ou at *
    go_enter Try.func27, Try.ntmps27
    go_wp2_with fail
    go_quiet (fail)
    go_wp2_with fail
    have HQ := Aside0.mk (HH.out.below (below_drewN (Below.refl _ _) nq))
    have KQ := Aside0.mk ((Kept.refl w (FF f bo bl bh bc sv)).drewN nq)
    clear k0 k1 k2 k3 k4 k5 k6 k7 f4 f6 f7 c1 c2 c3 c4 z1 z2 z3 z4
    go_loopg [4] s.stack.length (fun g s4 wr => ∃ (l rest : List Nat) (sv' : Value), rest.length ≤ g ∧ Aside0 (s.stack = l ++ rest ∧ u ∈ rest ∧ u ∉ l) ∧ Aside0 (FI wr B f n ev es bo bl bh bc sv' (popL s l)) ∧ Aside0 (Kept w wr (FF f bo bl bh bc sv) ∧ sv'.ownBlock = sv.ownBlock))
    case atStart => exact ⟨[], s.stack, sv, Nat.le_refl _, ⟨rfl, hus, by simp⟩, HQ, ⟨KQ.out, rfl⟩⟩
    case round =>
      clear HQ KQ
      obtain ⟨l, rest, sv', hg, HS, HF, HK⟩ := hrel
      cases rest with
      | nil => exact absurd HS.out.2.1 (by simp)
      | cons x r =>
        have hst' : (popL s l).stack = x :: r := by rw [popL_stack, HS.out.1, List.drop_left' rfl]
        obtain ⟨b, cap, hsv, hc1, hc2, cx, ho⟩ := HF.out.top hst'
        have hxs : x ∈ s.stack := by rw [HS.out.1]; simp
        have hxn : x < n := (HI.out.lt x (HI.out.heldMet x ((HI.out.stk x).1 hxs))).1
        obtain ⟨j0, j1, j2, j3, j4, j5, j6, j7, g4, g6, g7⟩ := HF.out.fblk
        have hcn : (popL s l).count = s.count := (popL_count s l).1
        rw [hcn] at j7
        have hrl : r.length + 1 ≤ s.stack.length := by rw [HS.out.1]; simp
        obtain ⟨mr, hmr⟩ : ∃ mr, r.length = mr := ⟨_, rfl⟩
        rw [hmr] at hsv hc1 cx ho
        subst hsv
        have HS2 := Aside0.mk hst'
        have HMR := Aside0.mk (And.intro hmr (And.intro (show r.length < (x :: r).length by simp) hg))
        have HO := Aside0.mk ho
        have hmb : mr < 1000000 := by omega
        have wm : IntKind.i64.wrap (mr : Int) = (mr : Int) := by rw [IntKind.wrap_i64]; omega
        have tm : ((mr : Nat) : Int).toNat = mr := by omega
        have zm : (0 : Int) ≤ (mr : Int) := by omega
        have lm : (mr : Int) < (mr : Int) + 1 := by omega
        have lc : (mr : Int) ≤ (cap : Int) := by omega
        clear hst' hg hmr hrl ho
        go_wp2_with fail
        go_quiet (fail)
        go_wp2_with fail
        have H1 := HF.out.below (below_drewN (Below.refl _ _) nq)
        have O1 := Aside0.mk (show (wr.drewN nq).ownsRow B 3 1 (.slice (some ⟨b, 0, none⟩) mr cap) r.length (stkL r) by rw [HMR.out.1]; exact (Stays.drewN (fun _ => True) _ _).owns HO.out (fun _ _ => trivial))
        have K1 := Aside0.mk (HK.out.1.drewN nq)
        have HKB := Aside0.mk HK.out.2
        clear HF HO HK cx j0 j1 j2 j3 j4 j5 j6 j7 g4 g6 g7
        generalize wr.drewN nq = w5 at H1 O1 K1 ⊢
        obtain ⟨j0, j1, j2, j3, j4, j5, j6, j7, g4, g6, g7⟩ := H1.fblk
        rw [hcn] at j7
        have H2 := Aside0.mk ((H1.setStk (sv2 := .slice (some ⟨b, 0, none⟩) mr cap) r O1.out H1.nes (H1.nef.2.2.2.2)).drew)
        have K2 := Aside0.mk ((K1.out.setCell (p := ⟨f, 4, none⟩) (.inl (ff_new _ (.inr (.inr (.inr (.inr rfl)))))) (.slice (some ⟨b, 0, none⟩) mr cap)).drew)
        clear H1 O1 K1
        go_region
        clear j0 j1 j2 j3 j4 j5 j6 j7 g4 g6 g7
        generalize (w5.setCell ⟨f, 4, none⟩ (.slice (some ⟨b, 0, none⟩) mr cap)).drew = w6 at H2 K2 ⊢
        obtain ⟨j0, j1, j2, j3, j4, j5, j6, j7, g4, g6, g7⟩ := H2.out.fblk
        obtain ⟨d1, d2, d3, d4, y1, y2, y3, y4⟩ := H2.out.fcell hxn
        rw [hcn] at j7
        obtain ⟨m1, m2, m3, m4, m5, m6⟩ := H2.out.ne
        have m7 := Ne.symm m6
        have hxi : (x : Int) < (n : Int) := by omega
        have tx : ((x : Nat) : Int).toNat = x := by omega
        have H3 := Aside0.mk (((H2.out.setHeld x false).setComp x s.count).drew)
        have H3' : Aside0 (FI ((w6.setCell ⟨bh, x, none⟩ (.int .i64 0)).setCell ⟨bc, x, none⟩ (.int .i64 (s.count : Int))).drew B f n ev es bo bl bh bc (.slice (some ⟨b, 0, none⟩) mr cap) (popL s (l ++ [x]))) := ⟨by
          have := H3.out
          rw [popL_snoc, popS_eq HS2.out hcn]
          exact this⟩
        have K3 := Aside0.mk (((K2.out.setCell (p := ⟨bh, x, none⟩) (.inl (ff_new _ (.inr (.inr (.inl rfl))))) (.int .i64 0)).setCell (p := ⟨bc, x, none⟩) (.inl (ff_new _ (.inr (.inr (.inr (.inl rfl)))))) (.int .i64 (s.count : Int))).drew)
        clear H3 H2 K2
        go_wp2_with fail
        go_region
        clear j0 j1 j2 j3 j4 j5 j6 j7 g4 g6 g7 d1 d2 d3 d4 y1 y2 y3 y4
        generalize ((w6.setCell ⟨bh, x, none⟩ (.int .i64 0)).setCell ⟨bc, x, none⟩ (.int .i64 (s.count : Int))).drew = w7 at H3' K3 ⊢
        by_cases hxu : x = u
        · have HXU := Aside0.mk hxu
          have hxz : (x : Int) = (u : Int) := by omega
          obtain ⟨j0, j1, j2, j3, j4, j5, j6, j7, g4, g6, g7⟩ := H3'.out.fblk
          have hcn2 : (popL s (l ++ [x])).count = s.count := (popL_count s _).1
          rw [hcn2] at j7
          have H4 := Aside0.mk (H3'.out.setCount (s.count + 1))
          have K4 := Aside0.mk (K3.out.setCell (p := ⟨f, 7, none⟩) (.inl (ff_new _ (.inr (.inr (.inr (.inr rfl)))))) (.int .i64 ((s.count : Int) + 1)))
          go_wp2
          go_end0
          refine ⟨rfl, .slice (some ⟨b, 0, none⟩) mr cap, ?_, K4.out, HKB.out⟩
          have hx := HXU.out
          subst hx
          have e := pop_shut HI.out HS.out.1
          rw [HLO.out, ← e]
          exact H4.out
        · have HXU := Aside0.mk hxu
          have hxz : (x : Int) ≠ (u : Int) := by omega
          have hxz2 : ((x : Int) == (u : Int)) = false := by rw [beq_eq_false_iff_ne]; exact hxz
          clear hxu
          go_wp2
          go_roundg r.length
          case rel =>
            obtain ⟨q1, q2, q3⟩ := HS.out
            refine ⟨l ++ [x], r, .slice (some ⟨b, 0, none⟩) mr cap, Nat.le_refl _, ⟨by rw [q1]; simp, ?_, ?_⟩, H3', ⟨K3.out, HKB.out⟩⟩
            · rcases List.mem_cons.1 q2 with e | e
              · exact absurd e.symm HXU.out
              · exact e
            · rw [List.mem_append, List.mem_singleton]
              rintro (k | k)
              · exact q3 k
              · exact HXU.out k.symm
          case measure => have := HMR.out.2; omega
  · have hlz : (s.low u : Int) ≠ (s.ord u : Int) := by omega
    have hcl : closeS s u = s := by unfold closeS; rw [if_pos hlo]
    have hC := Aside0.mk hcl
    clear hlo hcl
    generalize s.ord u = ou at *
    generalize s.low u = lu at *
    go_enter Try.func27, Try.ntmps27
    go_wp2_with fail
    go_quiet (fail)
    go_wp2
    (try simp only [Exit.inBlock, Exit.then])
    refine bodyPost_ret (results_none rfl _ _ _) rfl ?_
    refine ⟨rfl, sv, ?_, (Kept.refl _ _).drewN nq, rfl⟩
    rw [hC.out]
    exact HH.out.below (below_drewN (Below.refl _ _) nq)
end Go.Proofs.Ytcpjlfhehjmfbaa.Gr
