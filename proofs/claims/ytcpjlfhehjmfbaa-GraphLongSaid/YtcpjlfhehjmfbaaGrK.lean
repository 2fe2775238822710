/- Contract: components: a number for each node. -/
import Derived.Test.YtcpjlfhehjmfbaaGrJ
namespace Go.Proofs.Ytcpjlfhehjmfbaa.Gr
open Go.RowKit Go.Shelf Go.Proofs.Ytcpjlfhehjmfbaa.Sg
set_option linter.unusedVariables false
set_option linter.unusedSimpArgs false

/-- What the memory is at each node. -/
structure CMem (w wr : World) (f n : Nat) (ev : Value) (es : List Row) (bo bl bh bc : Nat) (sv : Value) (s : St) (i : Nat) : Prop where
  fi : FI wr w.heap.size f n ev es bo bl bh bc sv s
  gd : Gd (adj n es) n s []
  met : ∀ v, v < i → 0 < s.ord v
  below : Below w.heap.size w wr
theorem CMem.skip {w wr : World} {f n : Nat} {ev : Value} {es : List Row} {bo bl bh bc : Nat} {sv : Value} {s : St} {i : Nat} (h : CMem w wr f n ev es bo bl bh bc sv s i) (hi : 0 < s.ord i) : CMem w wr f n ev es bo bl bh bc sv s (i + 1) :=
  ⟨h.fi, h.gd, fun v hv => by
    by_cases q : v = i
    · subst q; exact hi
    · exact h.met v (by omega), h.below⟩
theorem CMem.walked {w wr W : World} {f n : Nat} {ev : Value} {es : List Row} {bo bl bh bc : Nat} {sv sv2 : Value} {s s2 : St} {i : Nat} (h : CMem w wr f n ev es bo bl bh bc sv s i) (hf : FI W w.heap.size f n ev es bo bl bh bc sv2 s2) (hg : Gd (adj n es) n s2 []) (hi : 0 < s2.ord i) (hm : ∀ v, 0 < s.ord v → 0 < s2.ord v) (hk : Kept wr W (FF f bo bl bh bc sv)) : CMem w W f n ev es bo bl bh bc sv2 s2 (i + 1) :=
  ⟨hf, hg, fun v hv => by
    by_cases q : v = i
    · subst q; exact hi
    · exact hm v (h.met v (by omega)), h.below.trans (hk.below h.below.size (fun k hk => (h.fi.ffge k hk).1))⟩
set_option maxHeartbeats 2000000 in
set_option maxRecDepth 100000 in
theorem components_any (w : World) (ev : Value) (es : List Row) (n : Nat) (hE : RowsAt w (· < w.heap.size) ev es) (hl : es.length = n) (hn : n < 1000000) :
    Calls Try.prog 13 #[ev] w fun e w' => ∃ (bc count : Nat) (comp : Nat → Nat), e = .returned (.tuple #[.slice (some ⟨bc, 0, none⟩) n n, .int .i64 (count : Int)]) ∧ w'.ownsRow w.heap.size 3 1 (.slice (some ⟨bc, 0, none⟩) n n) n (lst n comp) ∧ Comps (adj n es) n comp count ∧ count ≤ n ∧ Below w.heap.size w w' := by
  have mixed : Try.prog.follows .mixedOrders = true := by kernel_rfl
  obtain ⟨Ae, ce, hev, he1, he2, he3⟩ := hE.form
  rw [hl] at hev he1 he2
  subst hev
  have HN := Aside0.mk (fun bo bl bh bc h1 h2 h3 h4 h5 => (fi_new w _ es n bo bl bh bc hE hl hn h1 h2 h3 h4 h5).drew)
  have hmk := make_ints n (by omega)
  clear hE hl
  go_enter Try.func13, Try.ntmps13
  go_wp2_with fail
  rename_i Q0 K0 hK0
  suffices CONT : ∀ (bo bl bh bc : Nat) (v18 : Value) (W9 : World), CMem w W9 (w.heap.size + 1 + 1 + 1 + 1) n (.slice Ae n ce) es bo bl bh bc (.slice none 0 0) s0 0 → K0 ⟨#[.slice Ae n ce, undef, .slice none 0 0, .int .i64 0, .int .i64 (n : Int), .pointer (some ⟨w.heap.size + 1 + 1 + 1 + 1, 0, none⟩), undef, .slice Ae n ce, .int .i64 (n : Int), .slice Ae n ce, .int .i64 (n : Int), .slice (some ⟨bo, 0, none⟩) n n, .int .i64 (n : Int), .slice (some ⟨bl, 0, none⟩) n n, .int .i64 (n : Int), .slice (some ⟨bh, 0, none⟩) n n, .int .i64 (n : Int), .slice (some ⟨bc, 0, none⟩) n n, v18, .pointer (some ⟨w.heap.size + 1 + 1 + 1 + 1, 0, none⟩), undef, undef, undef, undef, undef, undef, undef, undef, undef, undef, undef, undef, undef, undef, undef, undef, undef, undef, undef, undef, undef, undef, undef, undef], []⟩ W9 by
    · clear hK0
      replace CONT := Aside0.mk CONT
      go_region
      all_goals show K0 _ _
      all_goals refine CONT.out _ _ _ _ _ _ ⟨?_, gd_zero _ _, fun v hv => by omega, ?_⟩
      all_goals first | exact below_drew (below_alloc0 (four_below w n) _) | skip
      all_goals exact HN.out _ _ _ _ ⟨by omega, by omega⟩ ⟨by omega, by omega⟩ ⟨by omega, by omega⟩ ⟨by omega, by omega⟩ (by omega)
  clear hmk
  intro bo bl bh bc v18 W9 HC
  obtain ⟨f, hf⟩ : ∃ f, w.heap.size + 1 + 1 + 1 + 1 = f := ⟨_, rfl⟩
  rw [hf] at HC ⊢
  replace HC := Aside0.mk HC
  clear hf HN
  go_wp2_with fail
  go_loopw [21] (fun s21 wr => ∃ (i : Nat) (sv : Value) (s : St), s21 = .int .i64 i ∧ i ≤ n ∧ Aside0 (CMem w wr f n (.slice Ae n ce) es bo bl bh bc sv s i)) (fun s21 _ => n - (intOf s21).toNat)
  case atStart => exact ⟨0, _, _, rfl, Nat.zero_le _, HC⟩
  case round =>
    clear HC
    obtain ⟨i, sv, s, rfl, hi, HI⟩ := hrel
    obtain ⟨j0, j1, j2, j3, j4, j5, j6, j7, g4, g6, g7⟩ := HI.out.fi.fblk
    by_cases hlt : i < n
    · obtain ⟨d1, d2, d3, d4, y1, y2, y3, y4⟩ := HI.out.fi.fcell hlt
      have hlti : (i : Int) < (n : Int) := by omega
      by_cases h0 : s.ord i = 0
      · as_aux_lemma =>
          have hoz : (s.ord i : Int) = 0 := by omega
          have WK := Aside0.mk (walk_any wr w.heap.size f n _ es bo bl bh bc sv s HI.out.fi HI.out.gd i hlt h0 hn)
          clear h0
          go_wp2_with fail
          refine WK.out.mono ?_
          rintro e w8 ⟨rfl, s2, sv2, F8, G8, M8, P8, K8, -⟩
          have HI2 := Aside0.mk (HI.out.walked F8 G8 M8 P8 K8)
          clear F8 G8 M8 P8 K8 HI WK d1 d2 d3 d4 y1 y2 y3 y4 j0 j1 j2 j3 j4 j5 j6 j7 g4 g6 g7
          go_wp2
          go_roundw
          case rel => exact ⟨i + 1, sv2, s2, by go_num, by omega, HI2⟩
          case measure => simp [intOf]; omega
      · as_aux_lemma =>
          have hoz : (s.ord i : Int) ≠ 0 := by omega
          have hoz2 : ((s.ord i : Int) == 0) = false := by rw [beq_eq_false_iff_ne]; exact hoz
          have HI2 := Aside0.mk (HI.out.skip (by omega))
          clear h0 HI
          go_wp2
          go_roundw
          case rel => exact ⟨i + 1, sv, s, by go_num, by omega, HI2⟩
          case measure => simp [intOf]; omega
    · obtain rfl : i = n := by omega
      have hlti : ¬ (i : Int) < (i : Int) := by omega
      go_wp2
      go_region
      go_wp2
      (try simp only [Exit.inBlock, Exit.then])
      refine bodyPost_ret (results_tmp2 rfl _ _ _) rfl ?_
      refine ⟨bc, s.count, s.comp, rfl, (Stays.drew (fun _ => True) _).owns HI.out.fi.comp (fun _ _ => trivial), HI.out.gd.inv.done HI.out.met, HI.out.gd.bounds.2.1, below_drew HI.out.below⟩
end Go.Proofs.Ytcpjlfhehjmfbaa.Gr
