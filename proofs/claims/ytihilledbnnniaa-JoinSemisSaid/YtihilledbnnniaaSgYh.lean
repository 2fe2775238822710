/- JoinSemis: the rows that have a partner, and those that have none. The walk. -/
import Derived.Test.YtihilledbnnniaaSgYg
import Derived.Test.YtihilledbnnniaaSgYd
import Derived.Test.YtihilledbnnniaaSgYe
import Derived.Test.YtihilledbnnniaaSgYf
namespace Go.Proofs.Ytihilledbnnniaa.Sg
open Go.RowKit Go.Shelf
set_option linter.unusedVariables false
set_option linter.unusedSimpArgs false

theorem pairs_push {wq w10 : World} {o : Obj} {lo hi : Nat} {s v1 pv : Value} {P : List (Int × Int)} (h : PairsAt wq (fun b => lo < b ∧ b < hi) pv P) (hs : hi ≤ wq.heap.size) (ho : ∀ k, s.ownBlock = some k → ¬ (lo < k ∧ k < hi)) (hg : (wq.alloc o).grownBy w10 s.ownBlock) (hb : v1.ownBlock = s.ownBlock ∨ v1.ownBlock = some (wq.alloc o).heap.size) :
    PairsAt w10 (fun b => lo < b ∧ b < hi) pv P ∧ (∀ k, v1.ownBlock = some k → ¬ (lo < k ∧ k < hi)) ∧ hi ≤ w10.heap.size := by
  refine ⟨reads_pairs.stays (reads_pairs.stays h (Stays.alloc _ _ _)) ((Stays.of_grown hg).mono (fun b hb _ e => ho b e hb)), fun k hk h9 => ?_, ?_⟩
  · rcases hb with h8 | h8
    · rw [h8] at hk; exact ho k hk h9
    · rw [h8] at hk
      have := Option.some.inj hk
      simp at this
      omega
  · have := hg.size
    simp at this
    omega
set_option maxHeartbeats 8000000 in
set_option maxRecDepth 100000 in
theorem JoinSemis_walk (sv : Value) (s : SidesD) (w : World) (hs : SidesAt w (fun _ => True) sv s) :
    Calls Try.prog 7 #[sv] w fun e w' => e = .returned (.bool true) ∧ Below w.heap.size w w' := by
  have HS := Aside0.mk hs
  obtain ⟨vA, vB, vKA, vKB, hv, h1, h2, hA, hB, hKA, hKB⟩ := hs
  obtain ⟨AA, cA, rfl, _⟩ := hKA.form
  obtain ⟨AB, cB, rfl, _⟩ := hKB.form
  obtain ⟨A1, c1, rfl, _⟩ := hA.form
  obtain ⟨A2, c2, rfl, _⟩ := hB.form
  subst hv
  have HKA := Aside0.mk hKA
  have HKB := Aside0.mk hKB
  obtain ⟨ii, hii, hi0, hi1, hi2⟩ := info_parts info_int
  obtain ⟨wid, hwid⟩ : ∃ x, s.wid = x := ⟨_, rfl⟩
  obtain ⟨wide, hwide⟩ : ∃ x, s.wide = x := ⟨_, rfl⟩
  rw [hwid, hwide] at HS ⊢
  obtain ⟨W0, hW0⟩ : ∃ W0, w.alloc (.cells #[.int .i64 wid, .int .i64 wide, .slice A1 s.A.length c1, .slice A2 s.B.length c2, .slice AA s.KA.length cA, .slice AB s.KB.length cB] 43) = W0 := ⟨_, rfl⟩
  have B0 := Aside0.mk (show Below w.heap.size w W0 by rw [← hW0]; exact below_alloc0 (Below.refl _ _) _)
  have BX := Aside0.mk (show Box6 W0 w.heap.size _ _ _ _ _ _ by rw [← hW0]; exact Box6.new _ _ _ _ _ _ _ _)
  have HZ0 := Aside0.mk (show W0.heap.size = w.heap.size + 1 by rw [← hW0]; simp)
  have HW0 := Aside0.mk hW0
  have HH := Aside0.mk (head8_any W0)
  clear hA hB hKA hKB hW0 h1 h2 hwid hwide
  go_enter Try.func7, Try.ntmps7
  go_wp2_with fail
  rw [HW0.out]
  refine (HH.out).mono ?_
  rintro e w1 ⟨rfl, B1⟩
  obtain ⟨k0, k1, k2, k3, k4, k5⟩ := BX.out.below B1
  have B01 := Aside0.mk (below_trans0 B0.out B1)
  have BX1 := Aside0.mk (BX.out.below B1)
  have SF := Aside0.mk (fewS_any w1 _ _ s (HS.out.below B01.out))
  have hz1 := B1.size
  clear HH BX B0 B1
  cases hf : fewS s with
  | false =>
    rw [hf] at SF
    go_wp2_with fail
    refine (SF.out).mono ?_
    rintro e w2 ⟨rfl, B2⟩
    have BZ := Aside0.mk (below_trans0 B01.out B2)
    go_wp2
    go_ret
    exact ⟨rfl, BZ.out⟩
  | true =>
  rw [hf] at SF
  have hks : s.KA.length ≤ 5 ∧ s.KB.length ≤ 5 := by unfold fewS at hf; simp at hf; exact ⟨hf.2.2.1, hf.2.2.2⟩
  have hfa : few s.A = true ∧ few s.B = true := by unfold fewS at hf; simp at hf; exact ⟨hf.1, hf.2.1⟩
  have hla := (few_yes hfa.1).1
  have hlb := (few_yes hfa.2).1
  go_wp2_with fail
  refine (SF.out).mono ?_
  rintro e w2 ⟨rfl, B2⟩
  have hz2 := B2.size
  have B02 := Aside0.mk (below_trans0 B01.out B2)
  have MK := Aside0.mk (makeS_any w2 _ _ s (HS.out.below B02.out) hf)
  have BX2 := Aside0.mk (BX1.out.below B2)
  clear SF k0 k1 k2 k3 k4 k5 B2 B01 BX1 hfa hf
  obtain ⟨k0, k1, k2, k3, k4, k5⟩ := BX2.out
  go_wp2_with fail
  refine (MK.out).mono ?_
  rintro e w3 ⟨ga, gb, na, nb, rfl, SA, SB, B3⟩
  have hnl := norm_length na s.A
  have hnl2 := norm_length nb s.B
  have hz3 := B3.size
  have B03 := Aside0.mk (below_trans0 B02.out B3)
  clear k0 k1 k2 k3 k4 k5
  obtain ⟨k0, k1, k2, k3, k4, k5⟩ := BX2.out.below B3
  have BX3 := Aside0.mk (BX2.out.below B3)
  clear B3 BX2 MK
  obtain ⟨LA, hLA⟩ : ∃ LA, norm na s.A = LA := ⟨_, rfl⟩
  obtain ⟨LB, hLB⟩ : ∃ LB, norm nb s.B = LB := ⟨_, rfl⟩
  rw [hLA] at SA hnl
  rw [hLB] at SB hnl2
  have hgl : w.heap.size < w3.heap.size := by have := HZ0.out; omega
  have HA3 := Aside0.mk (HKA.out.below reads_int B03.out)
  have HB3 := Aside0.mk (HKB.out.below reads_int B03.out)
  have SA := Aside0.mk SA
  have SB := Aside0.mk SB
  have hLAl : LA.length ≤ 60 := by omega
  have hLBl : LB.length ≤ 60 := by omega
  have PR := Aside0.mk (fun W (hb : Below w3.heap.size w3 W) => pairs8_any W _ _ _ _ ga gb na nb LA LB s.KA s.KB _ _ (SA.out.below hb) (SB.out.below hb) (HA3.out.below reads_int hb) (HB3.out.below reads_int hb) (by omega) (by omega) (by omega) (by omega))
  have SY := Aside0.mk (fun W (hb : Below w3.heap.size w3 W) has => semi_any W _ _ _ _ ga gb na nb LA LB s.KA s.KB _ _ has (SA.out.below hb) (SB.out.below hb) (HA3.out.below reads_int hb) (HB3.out.below reads_int hb) (by omega) (by omega))
  have LNA := Aside0.mk (fun W (hb : Below w3.heap.size w3 W) => len_any W _ _ _ _ (SA.out.below hb))
  obtain ⟨KA, hKA⟩ : ∃ KA, (LA.map fun r => keyOf r s.KA) = KA := ⟨_, rfl⟩
  obtain ⟨KB, hKB⟩ : ∃ KB, (LB.map fun r => keyOf r s.KB) = KB := ⟨_, rfl⟩
  rw [hKA, hKB] at PR SY
  have hkb : KB.length = LB.length := by rw [← hKB]; simp
  obtain ⟨N, hN⟩ : ∃ N, LA.length = N := ⟨_, rfl⟩
  have HDD := Aside0.mk (dd_prs KA KB N)
  have HPM := Aside0.mk (prs_few (KA := KA) (KB := KB) (i := N) (by omega) (by omega))
  have HP6 := Aside0.mk (prs_in64 (KA := KA) (KB := KB) (i := N) (by omega) (by omega))
  rw [hN] at PR SY LNA hLAl
  obtain ⟨P, hP⟩ : ∃ P, prs KA KB N = P := ⟨_, rfl⟩
  rw [hP] at PR HDD HPM HP6
  have HN := Aside0.mk hN
  clear hKA hKB hkb hN hP hLA hLB hnl hnl2 hla hlb hks HKA HKB HS
  go_wp2_with fail
  refine (PR.out _ (below_alloc0 (Below.refl _ _) _)).mono ?_
  rintro e w5 ⟨v5, rfl, RP, B5⟩
  obtain ⟨Ap, cp, hpf, _⟩ := RP.form
  subst hpf
  have ho5 : w5.ownsRow w3.heap.size 3 1 (.slice (some ⟨w3.heap.size, 0, none⟩) 0 0) 0 [] := (Stays.of_below B5 (fun _ => True)).owns (owns_empty w3 w3.heap.size 3 (Nat.le_refl _)) (fun _ _ => trivial)
  have hz5 := B5.size
  have RP5 := Aside0.mk (reads_pairs.mono (ok2 := fun b => w3.heap.size < b ∧ b < w5.heap.size) RP (fun b hb hl => ⟨by have h9 : (w3.alloc (.cells #[] 3)).heap.size ≤ b := hb; simp at h9; omega, hl⟩))
  have B35 := Aside0.mk (below_trans0 (below_alloc0 (Below.refl w3.heap.size w3) (.cells #[] 3)) B5)
  have HO5 := Aside0.mk ho5
  have hpl := HPM.out
  have hz35 : w3.heap.size < w5.heap.size := by simp at hz5; omega
  clear B5 RP PR ho5 hz5
  go_wp2_with fail
  go_loopw [5, 32] (fun s5 s32 wr => ∃ m : Nat, s32 = .int .i64 m ∧ m ≤ P.length ∧ Aside0 (wr.ownsRow w3.heap.size 3 1 s5 (dd (P.take m)).length ((dd (P.take m)).map (Value.int .i64))) ∧ Aside0 (PairsAt wr (fun b => w3.heap.size < b ∧ b < w5.heap.size) (.slice Ap P.length cp) P ∧ (∀ k, s5.ownBlock = some k → ¬ (w3.heap.size < k ∧ k < w5.heap.size)) ∧ w5.heap.size ≤ wr.heap.size) ∧ Aside0 (Below w3.heap.size w3 wr)) (fun _ s32 _ => P.length - (intOf s32).toNat)
  case atStart => exact ⟨0, rfl, Nat.zero_le _, HO5, ⟨RP5.out, fun k hk h9 => by have := Option.some.inj hk; simp at this; omega, Nat.le_refl _⟩, B35⟩
  case round =>
    obtain ⟨m, rfl, hm, HO, HG, HB⟩ := hrel
    have hsb := HB.out.size
    by_cases hlt : m < P.length
    · obtain ⟨bp, op, x1, x2, rfl, _, _, q1, q2, hx1, hx2⟩ := HG.out.1.at_ m hlt
      obtain ⟨hx1, hy1⟩ := hx1
      obtain ⟨hx2, hy2⟩ := hx2
      subst hx1
      subst hx2
      have DS := Aside0.mk (show dd (P.take (m + 1)) = ddS (dd (P.take m)) P[m] by rw [List.take_succ_eq_append_getElem hlt, dd_snoc])
      have hdl := dd_le (P.take m)
      have htl : (P.take m).length ≤ m := by rw [List.length_take]; omega
      generalize P[m] = pm at *
      obtain ⟨p1, p2⟩ := pm
      simp only at q1 q2 hy1 hy2
      obtain ⟨D, hD⟩ : ∃ D, dd (P.take m) = D := ⟨_, rfl⟩
      rw [hD] at HO DS hdl
      have h63 := Aside0.mk (show D.length + 1 ≤ maxLen by unfold maxLen; omega)
      have hby := Aside0.mk (show (D.length + 1) * 8 ≤ 140737488355328 by omega)
      have hD3 : (D.length : Int) < 9223372036854775807 := by omega
      obtain ⟨A5, c5, hs5⟩ : ∃ A5 c5, u5 = .slice A5 D.length c5 := by
        rcases HO.out.2 with ⟨h9, h8⟩ | ⟨b, cap, cur, h9, _⟩
        · exact ⟨none, 0, by rw [h9, h8]⟩
        · exact ⟨_, _, h9⟩
      subst hs5
      have DS : dd (P.take (m + 1)) = if D.getLast? = some p1 then D else D ++ [p1] := DS.out
      obtain ⟨wq, hwq⟩ : ∃ wq, wr.alloc (.cells #[.int .i64 p1, .int .i64 p2] 49) = wq := ⟨_, rfl⟩
      have bq : Below wr.heap.size wr wq := by rw [← hwq]; exact below_alloc0 (Below.refl _ _) _
      have g1 : wq.cell? ⟨wr.heap.size, 0, none⟩ = some (.int .i64 p1) := by rw [← hwq]; simp
      have OQ := Aside0.mk ((Stays.of_below bq (fun _ => True)).owns HO.out (fun _ _ => trivial))
      have HQ := Aside0.mk hwq
      have GQ := Aside0.mk (show PairsAt wq (fun b => w3.heap.size < b ∧ b < w5.heap.size) (.slice (some ⟨bp, op, none⟩) P.length cp) P ∧ w5.heap.size ≤ wq.heap.size from ⟨reads_pairs.stays HG.out.1 (Stays.of_below bq _), Nat.le_trans HG.out.2.2 bq.size⟩)
      have GO := Aside0.mk HG.out.2.1
      have BQ := Aside0.mk ((HB.out).trans (bq.mono hsb))
      have hsq := BQ.out.size
      have hsz := Aside0.mk (fun o => (show w3.heap.size ≤ (wq.alloc o).heap.size by simp; omega))
      clear hwq bq HO HG HB hdl htl hy1 hy2 hD
      by_cases hne : D = []
      · subst hne
        have DX := Aside0.mk (DS.trans (if_neg (by simp)))
        clear DS
        simp only [List.length_nil] at *
        go_wp2
        rw [HQ.out]
        go_quiet (fail)
        all_goals
          go_wp2_with (at_builtin; refine wpList_append_own_at _ rfl (.tmp 50) (.tmp 53) 23 rfl w3.heap.size 3 ii (.int .i64 0) 1 8 Try.underlying23 hii hi0 hi1 hi2 rfl (by decide) _ _ _ rfl ((ownsDrewN OQ.out _).alloc _) ⟨wq.heap.size, 0, none⟩ 1 1 [Value.int .i64 p1] rfl rfl (cell_one_new _ _ _) (by simp [Value.oneCell']) h63.out hby.out (by simpa using hsz.out (.cells #[] 0)) ?_; intro v1 w10 ho hg _ hb; have O1 := Aside0.mk ho; have G1 := Aside0.mk hg; have N1 := Aside0.mk hb; clear ho hg hb)
          go_roundw
          case rel => exact ⟨m + 1, by go_num, by omega, ⟨by rw [DX.out]; simpa using O1.out⟩, ⟨pairs_push (reads_pairs.stays GQ.out.1 (Stays.drewN _ _ _)) GQ.out.2 GO.out G1.out N1.out⟩, ⟨(below_alloc (below_drewN BQ.out _) hsq _).grown G1.out (by simp; omega) (own_below OQ.out)⟩⟩
          case measure => simp [intOf]; omega
      · obtain ⟨dn, hdn⟩ : ∃ dn, D.length = dn + 1 := ⟨D.length - 1, by have := List.length_pos_iff.2 hne; omega⟩
        have hdl : dn < D.length := by omega
        obtain ⟨y, hy⟩ : ∃ y, D[dn] = y := ⟨_, rfl⟩
        have hgl : D.getLast? = some y := by
          rw [List.getLast?_eq_getElem?, hdn, Nat.add_sub_cancel, List.getElem?_eq_getElem hdl, hy]
        have OQ' := OQ.out
        rw [hdn] at OQ'
        obtain ⟨b5, cap5, h5⟩ := own_some OQ'
        injection h5 with h5 h6 h7
        subst h5
        have cy := (owns_at OQ' (j := dn) (u := .int .i64 y) (by rw [List.getElem?_map, List.getElem?_eq_getElem hdl, hy]; rfl)).1
        rw [hgl] at DS
        have OQ := Aside0.mk OQ'
        rw [hdn] at h63 hby hD3 ⊢
        have hz0 : ((dn : Int) + 1 == 0) = false := by rw [beq_eq_false_iff_ne]; omega
        have hz1 : (dn : Int) < (dn : Int) + 1 := by omega
        clear hgl hy OQ' h7
        by_cases hp : y = p1
        · subst hp
          have DX := Aside0.mk (DS.trans (if_pos rfl))
          clear DS
          go_wp2
          rw [HQ.out]
          go_quiet (fail)
          all_goals
            go_wp2
            go_roundw
            case rel => exact ⟨m + 1, by go_num, by omega, ⟨by rw [DX.out, hdn]; exact ownsDrewN OQ.out _⟩, ⟨reads_pairs.stays GQ.out.1 (Stays.drewN _ _ _), GO.out, GQ.out.2⟩, ⟨below_drewN BQ.out _⟩⟩
            case measure => simp [intOf]; omega
        · have DX := Aside0.mk (DS.trans (if_neg (fun e => hp (Option.some.inj e))))
          clear DS
          have dy : (y == p1) = false := by rw [beq_eq_false_iff_ne]; exact hp
          go_wp2
          rw [HQ.out]
          go_quiet (fail)
          all_goals
            clear hz0 hz1 cy hdl
            generalize hqn : dn + 1 = q at OQ h63 hby hdn ⊢
            have HDN := Aside0.mk hdn
            clear hdn hqn h6 hD3
            go_wp2_with (at_builtin; refine wpList_append_own_at _ rfl (.tmp 50) (.tmp 53) 23 rfl w3.heap.size 3 ii (.int .i64 0) 1 8 Try.underlying23 hii hi0 hi1 hi2 rfl (by decide) _ _ _ rfl ((ownsDrewN OQ.out _).alloc _) ⟨wq.heap.size, 0, none⟩ 1 1 [Value.int .i64 p1] rfl rfl (cell_one_new _ _ _) (by simp [Value.oneCell']) h63.out hby.out (by simpa using hsz.out (.cells #[] 0)) ?_; intro v1 w10 ho hg _ hb; have O1 := Aside0.mk ho; have G1 := Aside0.mk hg; have N1 := Aside0.mk hb; clear ho hg hb)
            go_roundw
            case rel => exact ⟨m + 1, by go_num, by omega, ⟨by rw [DX.out, List.length_append, HDN.out]; simpa using O1.out⟩, ⟨pairs_push (reads_pairs.stays GQ.out.1 (Stays.drewN _ _ _)) GQ.out.2 GO.out G1.out N1.out⟩, ⟨(below_alloc (below_drewN BQ.out _) hsq _).grown G1.out (by simp; omega) (own_below OQ.out)⟩⟩
            case measure => simp [intOf]; omega
    · obtain rfl : m = P.length := by omega
      have hdd := HDD.out
      rw [← List.take_length (l := P)] at hdd
      rw [hdd] at HO
      obtain ⟨Y, hY⟩ : ∃ Y, semi KA KB true N = Y := ⟨_, rfl⟩
      obtain ⟨Z, hZ⟩ : ∃ Z, semi KA KB false N = Z := ⟨_, rfl⟩
      have hyz := semi_both KA KB N
      have hym : ∀ x ∈ Y, In64 x := fun x hx => by rw [← hY] at hx; have := semi_mem hx; unfold In64; omega
      have SY1 := Aside0.mk (SY.out wr HB.out true)
      have SY2 := Aside0.mk (fun W hb => SY.out W hb false)
      rw [hY] at HO SY1 hyz
      rw [hZ] at SY2 hyz
      have RW := Aside0.mk (RowAt.of_own HO.out (by omega) hym)
      obtain ⟨A5, c5, hs5⟩ : ∃ A5 c5, u5 = .slice A5 Y.length c5 := by
        rcases HO.out.2 with ⟨h9, h8⟩ | ⟨b, cap, cur, h9, _⟩
        · exact ⟨none, 0, by rw [h9, h8]⟩
        · exact ⟨_, _, h9⟩
      subst hs5
      have HY := Aside0.mk hY
      have HZ := Aside0.mk hZ
      have HYM := Aside0.mk hym
      have BX5 := Aside0.mk ((BX3.out.below (Below.mono HB.out (Nat.le_refl _))))
      clear k0 k1 k2 k3 k4 k5 HG HO hdd hY hZ hym HDD HPM HP6 HO5 RP5 B35 SY
      obtain ⟨k0, k1, k2, k3, k4, k5⟩ := BX5.out
      go_wp2_with fail
      refine (SY1.out).mono ?_
      rintro e w6 ⟨yv, rfl, RY, B6⟩
      obtain ⟨Ay, cy, hyf, _⟩ := RY.form
      subst hyf
      have B36 := Aside0.mk (below_trans0 HB.out B6)
      have SY2 := Aside0.mk (SY2.out w6 B36.out)
      have RY := Aside0.mk RY
      have RW6 := Aside0.mk (RW.out.below reads_int B6)
      have BX6 := Aside0.mk (BX5.out.below B6)
      clear k0 k1 k2 k3 k4 k5 SY1 B6 RW BX5
      obtain ⟨k0, k1, k2, k3, k4, k5⟩ := BX6.out
      go_wp2_with fail
      refine (SY2.out).mono ?_
      rintro e w7 ⟨zv, rfl, RZ, B7⟩
      obtain ⟨Az, cz, hzf, _⟩ := RZ.form
      subst hzf
      have B37 := Aside0.mk (below_trans0 B36.out B7)
      have RY7 := Aside0.mk (RY.out.below reads_int B7)
      have RW7 := Aside0.mk (RW6.out.below reads_int B7)
      have RZ7 := Aside0.mk RZ
      have LN7 := Aside0.mk (LNA.out w7 B37.out)
      have hsum : IntKind.i64.wrap ((Y.length : Int) + (Z.length : Int)) = (N : Int) := by rw [IntKind.wrap_i64]; omega
      have BZ := Aside0.mk (below_trans0 B03.out B37.out)
      clear k0 k1 k2 k3 k4 k5 SY2 B7 RW6 RY RZ BX6 B36 B37 LNA BX3 HB SA SB HA3 HB3
      go_wp2_with (first | (go_at_call 15; (with_reducible refine (LN7.out).mono ?_); rintro e w' ⟨rfl, rfl⟩))
      go_loop [10, 11, 12] (fun s10 s11 s12 => ∃ k : Nat, s12 = .int .i64 k ∧ k ≤ N ∧ s10 = .int .i64 (semi KA KB true k).length ∧ s11 = .int .i64 (semi KA KB false k).length) (fun _ _ s12 => N - (intOf s12).toNat)
      case atStart => exact ⟨0, rfl, Nat.zero_le _, rfl, rfl⟩
      case round =>
        obtain ⟨k, rfl, hk, rfl, rfl⟩ := hrel
        have hsa := semi_length KA KB true k
        have hsb := semi_length KA KB false k
        by_cases hlk : k < N
        · by_cases ht : decide (KA.getD k [] ∈ KB) = true
          · have ha := semi_at hlk ht
            rw [HY.out] at ha
            have e1 := Aside0.mk (show (semi KA KB true (k + 1)).length = (semi KA KB true k).length + 1 by rw [semi_yes ht, List.length_append]; rfl)
            have e2 := Aside0.mk (congrArg List.length (semi_no (has := false) (by rw [ht]; simp)))
            obtain ⟨h1, h2⟩ := List.getElem?_eq_some_iff.1 ha
            generalize (semi KA KB true k).length = a at *
            generalize (semi KA KB false k).length = b at *
            obtain ⟨b1, o1, u1, rfl, _, _, c1', hu1, _⟩ := RW7.out.at_ a h1
            obtain ⟨b2, o2, u2, rfl, _, _, c2', hu2, _⟩ := RY7.out.at_ a h1
            rw [h2] at hu1 hu2
            subst hu1
            subst hu2
            have i1 : (a : Int) < (Y.length : Int) := by omega
            clear ha h2 ht
            go_wp2_with (first | (go_at_call 15; (with_reducible refine (LN7.out).mono ?_); rintro e w' ⟨rfl, rfl⟩))
            go_round
            case rel => exact ⟨k + 1, by go_num, by omega, by rw [e1.out]; simp, by rw [e2.out]⟩
            case measure => simp [intOf]; omega
          · have ht2 : decide (KA.getD k [] ∈ KB) = false := by simpa using ht
            have ha := semi_at hlk ht2
            rw [HZ.out] at ha
            have hn := fun j => semi_not (n := N) (j := j) (show decide (KA.getD k [] ∈ KB) ≠ true by rw [ht2]; simp)
            rw [HY.out] at hn
            have e1 := Aside0.mk (congrArg List.length (semi_no (has := true) (by rw [ht2]; simp)))
            have e2 := Aside0.mk (show (semi KA KB false (k + 1)).length = (semi KA KB false k).length + 1 by rw [semi_yes ht2, List.length_append]; rfl)
            obtain ⟨h1, h2⟩ := List.getElem?_eq_some_iff.1 ha
            generalize (semi KA KB true k).length = a at *
            generalize (semi KA KB false k).length = b at *
            obtain ⟨b2, o2, u2, rfl, _, _, c2', hu2, _⟩ := RZ7.out.at_ b h1
            rw [h2] at hu2
            subst hu2
            have i1 : (b : Int) < (Z.length : Int) := by omega
            by_cases hal : a < Y.length
            · obtain ⟨b1, o1, u1, rfl, _, _, c1', hu1, _⟩ := RW7.out.at_ a hal
              have hne : Y[a] ≠ (k : Int) := fun e => hn a (by rw [List.getElem?_eq_getElem hal, e])
              obtain ⟨y, hy⟩ : ∃ y, Y[a] = y := ⟨_, rfl⟩
              rw [hy] at hu1 hne
              subst hu1
              have dy : (y == (k : Int)) = false := by rw [beq_eq_false_iff_ne]; exact hne
              have i2 : (a : Int) < (Y.length : Int) := by omega
              clear ha h2 ht ht2 hn hy hne
              go_wp2_with (first | (go_at_call 15; (with_reducible refine (LN7.out).mono ?_); rintro e w' ⟨rfl, rfl⟩))
              go_round
              case rel => exact ⟨k + 1, by go_num, by omega, by rw [e1.out], by rw [e2.out]; simp⟩
              case measure => simp [intOf]; omega
            · have i2 : ¬ (a : Int) < (Y.length : Int) := by omega
              clear ha h2 ht ht2 hn
              go_wp2_with (first | (go_at_call 15; (with_reducible refine (LN7.out).mono ?_); rintro e w' ⟨rfl, rfl⟩))
              go_round
              case rel => exact ⟨k + 1, by go_num, by omega, by rw [e1.out], by rw [e2.out]; simp⟩
              case measure => simp [intOf]; omega
        · obtain rfl : k = N := by omega
          go_wp2_with (first | (go_at_call 15; (with_reducible refine (LN7.out).mono ?_); rintro e w' ⟨rfl, rfl⟩))
          go_ret
          exact ⟨rfl, BZ.out⟩
end Go.Proofs.Ytihilledbnnniaa.Sg
