/- JoinTurned: with both sets changed about the pairs are changed about. The walk. -/
import Derived.Test.YtmgoefhihljggaaSgKe
import Derived.Test.YtmgoefhihljggaaSgYd
import Derived.Test.YtmgoefhihljggaaSgKg
import Derived.Test.YtmgoefhihljggaaSgYf
import Derived.Test.YtmgoefhihljggaaSgYi
namespace Go.Proofs.Ytmgoefhihljggaa.Sg
open Go.RowKit Go.Shelf
set_option linter.unusedVariables false
set_option linter.unusedSimpArgs false

theorem info_int8 : (Try.prog.info? 3).map (fun i => (i.zero, i.size, i.bytes)) = some (some (.int .i64 0), 1, 8) := by kernel_rfl
set_option maxHeartbeats 4000000 in
set_option maxRecDepth 100000 in
theorem JoinTurned_walk (sv : Value) (s : SidesD) (w : World) (hs : SidesAt w (fun _ => True) sv s) :
    Calls Try.prog 5 #[sv] w fun e w' => e = .returned (.bool true) ∧ Below w.heap.size w w' := by
  have HS := Aside0.mk hs
  obtain ⟨vA, vB, vKA, vKB, hv, h1, h2, hA, hB, hKA, hKB⟩ := hs
  obtain ⟨AA, cA, rfl, _⟩ := hKA.form
  obtain ⟨AB, cB, rfl, _⟩ := hKB.form
  obtain ⟨A1, c1, rfl, _⟩ := hA.form
  obtain ⟨A2, c2, rfl, _⟩ := hB.form
  subst hv
  have HKA := Aside0.mk hKA
  have HKB := Aside0.mk hKB
  obtain ⟨wid, hwid⟩ : ∃ x, s.wid = x := ⟨_, rfl⟩
  obtain ⟨wide, hwide⟩ : ∃ x, s.wide = x := ⟨_, rfl⟩
  rw [hwid, hwide] at HS ⊢
  obtain ⟨W0, hW0⟩ : ∃ W0, w.alloc (.cells #[.int .i64 wid, .int .i64 wide, .slice A1 s.A.length c1, .slice A2 s.B.length c2, .slice AA s.KA.length cA, .slice AB s.KB.length cB] 32) = W0 := ⟨_, rfl⟩
  have B0 := Aside0.mk (show Below w.heap.size w W0 by rw [← hW0]; exact below_alloc0 (Below.refl _ _) _)
  have BX := Aside0.mk (show Box6 W0 w.heap.size _ _ _ _ _ _ by rw [← hW0]; exact Box6.new _ _ _ _ _ _ _ _)
  have HZ0 := Aside0.mk (show W0.heap.size = w.heap.size + 1 by rw [← hW0]; simp)
  have HW0 := Aside0.mk hW0
  have HH := Aside0.mk (head8_any W0)
  clear hA hB hKA hKB hW0 h1 h2 hwid hwide
  go_enter Try.func5, Try.ntmps5
  go_wp2_with fail
  rw [HW0.out]
  refine (HH.out).mono ?_
  rintro e w1 ⟨rfl, B1⟩
  obtain ⟨k0, k1, k2, k3, k4, k5⟩ := BX.out.below B1
  have B01 := Aside0.mk (below_trans0 B0.out B1)
  have BX1 := Aside0.mk (BX.out.below B1)
  have SF := Aside0.mk (fewS_any w1 _ _ s (HS.out.below B01.out))
  have hz1 := B1.size
  clear HH BX B0 B1
  cases hf : fewS s with
  | false =>
    rw [hf] at SF
    go_wp2_with fail
    refine (SF.out).mono ?_
    rintro e w2 ⟨rfl, B2⟩
    have BZ := Aside0.mk (below_trans0 B01.out B2)
    go_wp2
    go_ret
    exact ⟨rfl, BZ.out⟩
  | true =>
  rw [hf] at SF
  have hks : s.KA.length ≤ 5 ∧ s.KB.length ≤ 5 := by unfold fewS at hf; simp at hf; exact ⟨hf.2.2.1, hf.2.2.2⟩
  have hfa : few s.A = true ∧ few s.B = true := by unfold fewS at hf; simp at hf; exact ⟨hf.1, hf.2.1⟩
  have hla := (few_yes hfa.1).1
  have hlb := (few_yes hfa.2).1
  go_wp2_with fail
  refine (SF.out).mono ?_
  rintro e w2 ⟨rfl, B2⟩
  have hz2 := B2.size
  have B02 := Aside0.mk (below_trans0 B01.out B2)
  have MK := Aside0.mk (makeW_any w2 _ _ s (HS.out.below B02.out) hf)
  have BX2 := Aside0.mk (BX1.out.below B2)
  clear SF k0 k1 k2 k3 k4 k5 B2 B01 BX1 hfa hf
  obtain ⟨k0, k1, k2, k3, k4, k5⟩ := BX2.out
  go_wp2_with fail
  refine (MK.out).mono ?_
  rintro e w3 ⟨ga, gb, na, nb, rfl, SA, SB, B3, hna, hnb⟩
  have hnl := norm_length na s.A
  have hnl2 := norm_length nb s.B
  have hz3 := B3.size
  have B03 := Aside0.mk (below_trans0 B02.out B3)
  clear k0 k1 k2 k3 k4 k5
  obtain ⟨k0, k1, k2, k3, k4, k5⟩ := BX2.out.below B3
  have BX3 := Aside0.mk (BX2.out.below B3)
  clear B3 BX2 MK
  obtain ⟨LA, hLA⟩ : ∃ LA, norm na s.A = LA := ⟨_, rfl⟩
  obtain ⟨LB, hLB⟩ : ∃ LB, norm nb s.B = LB := ⟨_, rfl⟩
  rw [hLA] at SA hnl
  rw [hLB] at SB hnl2
  have hgl : w.heap.size < w3.heap.size := by have := HZ0.out; omega
  have HA3 := Aside0.mk (HKA.out.below reads_int B03.out)
  have HB3 := Aside0.mk (HKB.out.below reads_int B03.out)
  have SA := Aside0.mk SA
  have SB := Aside0.mk SB
  have hLAl : LA.length ≤ 60 := by omega
  have hLBl : LB.length ≤ 60 := by omega
  have HP := Aside0.mk (fun W (hb : Below w3.heap.size w3 W) => hashP_any W _ _ _ _ ga gb na nb LA LB s.KA s.KB _ _ (SA.out.below hb) (SB.out.below hb) (HA3.out.below reads_int hb) (HB3.out.below reads_int hb) (by omega) (by omega) (by omega) (by omega))
  have MP := Aside0.mk (fun W (hb : Below w3.heap.size w3 W) => mergeP_any W _ _ _ _ gb ga nb na LB LA s.KB s.KA _ _ (SB.out.below hb) (SA.out.below hb) (HB3.out.below reads_int hb) (HA3.out.below reads_int hb) (by omega) (by omega) (by omega) (by omega))
  have hwn : ∀ r ∈ LA, r.length = na := fun r hr => by rw [← hLA, mem_norm] at hr; exact hr.2
  have hnd : LA.Nodup := by rw [← hLA]; exact (SS_norm _ _).nodup
  have HA2 := Aside0.mk (fun W ok v (hb : Below w3.heap.size w3 W) (hv : RowAt W ok v (allK na)) => by
    have := hashP_any W _ _ _ _ ga ga na na LA LA (allK na) (allK na) v v (SA.out.below hb) (SA.out.below hb) hv hv (by rw [allK_length]; omega) (by rw [allK_length]; omega) (by omega) (by omega)
    rwa [keys_all hwn, prs_diag hnd] at this)
  have MA2 := Aside0.mk (fun W ok v (hb : Below w3.heap.size w3 W) (hv : RowAt W ok v (allK na)) => by
    have := mergeP_any W _ _ _ _ ga ga na na LA LA (allK na) (allK na) v v (SA.out.below hb) (SA.out.below hb) hv hv (by rw [allK_length]; omega) (by rw [allK_length]; omega) (by omega) (by omega)
    rwa [keys_all hwn, prs_diag hnd] at this)
  have WA := Aside0.mk (fun W (hb : Below w3.heap.size w3 W) => width_any W _ _ _ _ (SA.out.below hb))
  have LNA := Aside0.mk (fun W (hb : Below w3.heap.size w3 W) => len_any W _ _ _ _ (SA.out.below hb))
  obtain ⟨KA, hKA⟩ : ∃ KA, (LA.map fun r => keyOf r s.KA) = KA := ⟨_, rfl⟩
  obtain ⟨KB, hKB⟩ : ∃ KB, (LB.map fun r => keyOf r s.KB) = KB := ⟨_, rfl⟩
  have hka : KA.length = LA.length := by rw [← hKA]; simp
  have hkb : KB.length = LB.length := by rw [← hKB]; simp
  rw [hKA, hKB, ← hka] at HP
  rw [hKA, hKB, ← hkb] at MP
  have TL := turn_length KA KB
  have PM := Aside0.mk (prs_few (KA := KA) (KB := KB) (i := KA.length) (by omega) (by omega))
  have TM := fun p (hp : p ∈ prs KA KB KA.length) => fnd_all (mem_turn hp)
  obtain ⟨P, hP⟩ : ∃ P, prs KA KB KA.length = P := ⟨_, rfl⟩
  obtain ⟨Q, hQ⟩ : ∃ Q, prs KB KA KB.length = Q := ⟨_, rfl⟩
  rw [hP] at HP TL TM PM
  rw [hQ] at MP TL TM
  replace TM := Aside0.mk TM
  replace TL := Aside0.mk TL
  obtain ⟨N, hN⟩ : ∃ N, LA.length = N := ⟨_, rfl⟩
  rw [hN] at HA2 MA2 LNA
  have HN60 := Aside0.mk (show N ≤ 60 by omega)
  clear hP hQ hKA hKB hka hkb hLA hLB hnl hnl2 hla hlb hks HKA HKB HS hLAl hLBl hwn hnd hN
  go_wp2_with fail
  refine (HP.out _ (Below.refl _ _)).mono ?_
  rintro e w5 ⟨v5, rfl, RP, B5⟩
  obtain ⟨A5, c5, hf5, -⟩ := RP.form
  subst hf5
  have B5 := Aside0.mk B5
  have RP := Aside0.mk RP
  clear HP k0 k1 k2 k3 k4 k5
  obtain ⟨k0, k1, k2, k3, k4, k5⟩ := BX3.out.below B5.out
  go_wp2_with fail
  refine (MP.out _ B5.out).mono ?_
  rintro e w6 ⟨v6, rfl, RQ, B6⟩
  obtain ⟨A6, c6, hf6, -⟩ := RQ.form
  subst hf6
  have RP := Aside0.mk (reads_pairs.stays RP.out (Stays.of_below B6 _))
  have RQ := Aside0.mk RQ
  have B6 := Aside0.mk (below_trans0 B5.out B6)
  clear MP B5 k0 k1 k2 k3 k4 k5 BX3
  obtain ⟨np, hnp⟩ : ∃ np, P.length = np := ⟨_, rfl⟩
  obtain ⟨nq, hnq⟩ : ∃ nq, Q.length = nq := ⟨_, rfl⟩
  have hnpl : np ≤ 1000000 := by rw [← hnp]; exact PM.out
  have hpq : np = nq := by rw [← hnp, ← hnq]; exact TL.out
  rw [hnp] at RP ⊢
  rw [hnq] at RQ TM ⊢
  subst hpq
  have NP := Aside0.mk hnp
  have NQ := Aside0.mk hnq
  clear hnp hnq
  go_wp2_with fail
  go_loopw [47] (fun s47 wr => ∃ i : Nat, s47 = .int .i64 i ∧ i ≤ np ∧ Aside0 (Below w6.heap.size w6 wr)) (fun s47 _ => np - (intOf s47).toNat)
  case atStart => exact ⟨0, rfl, Nat.zero_le _, ⟨Below.refl _ _⟩⟩
  case round =>
    obtain ⟨i, rfl, hi, HB⟩ := hrel
    by_cases hlt : i < np
    · have hip : i < P.length := by rw [NP.out]; exact hlt
      obtain ⟨b1, o1, u1, u2, rfl, -, -, c1, c2, ⟨rfl, -⟩, ⟨rfl, -⟩⟩ := (reads_pairs.stays RP.out (Stays.of_below HB.out _)).at_ i hip
      have ti : ((i : Nat) : Int).toNat = i := by omega
      have iz : (i : Int) < (np : Int) := by omega
      have TT := Aside0.mk (TM.out _ (List.getElem_mem hip))
      generalize P[i].1 = x1 at *
      generalize P[i].2 = x2 at *
      have hxb := below_alloc0 HB.out (.cells #[.int .i64 x1, .int .i64 x2] 39)
      have HXB := Aside0.mk hxb
      have HC0 := Aside0.mk (show (wr.alloc (.cells #[.int .i64 x1, .int .i64 x2] 39)).cell? ⟨wr.heap.size, 0, none⟩ = some (.int .i64 x1) ∧ (wr.alloc (.cells #[.int .i64 x1, .int .i64 x2] 39)).cell? ⟨wr.heap.size, 1, none⟩ = some (.int .i64 x2) from ⟨by rw [cell_of_row _ _ 0 _ _ _ (heap_alloc_new wr _)]; rfl, by rw [cell_of_row _ _ 1 _ _ _ (heap_alloc_new wr _)]; rfl⟩)
      obtain ⟨g, hg⟩ : ∃ g, wr.heap.size = g := ⟨_, rfl⟩
      rw [hg] at HC0
      clear hxb
      generalize hwo : wr.alloc (.cells #[.int .i64 x1, .int .i64 x2] 39) = wo at HXB HC0
      have HWO := Aside0.mk hwo
      clear hwo
      go_wp2_with fail
      rw [HWO.out]
      go_loopw [9, 53] (fun s9 s53 wr => ∃ t : Nat, s53 = .int .i64 t ∧ t ≤ np ∧ s9 = .bool (fnd Q x1 x2 t) ∧ Aside0 (Below wo.heap.size wo wr)) (fun _ s53 _ => np - (intOf s53).toNat)
      case atStart => exact ⟨0, rfl, Nat.zero_le _, rfl, ⟨Below.refl _ _⟩⟩
      case round =>
        obtain ⟨t, rfl, ht, rfl, HB2⟩ := hrel
        by_cases hlt2 : t < np
        · have htq : t < Q.length := by rw [NQ.out]; exact hlt2
          have hbq := below_trans0 HXB.out HB2.out
          obtain ⟨b2, o2, u3, u4, rfl, -, -, c3, c4, ⟨rfl, -⟩, ⟨rfl, -⟩⟩ := (reads_pairs.stays RQ.out (Stays.of_below hbq _)).at_ t htq
          have tt : ((t : Nat) : Int).toNat = t := by omega
          have tz : (t : Int) < (np : Int) := by omega
          have FS := Aside0.mk (fnd_succ (x1 := x1) (x2 := x2) htq)
          generalize Q[t].1 = y1 at *
          generalize Q[t].2 = y2 at *
          have d0 := below_cell0 HB2.out HC0.out.1
          have d1 := below_cell0 HB2.out HC0.out.2
          have hgw : g < wr.heap.size := World.block_lt_of_cell? wr _ d0
          generalize fnd Q x1 x2 t = ff at *
          cases ff with
          | true =>
            have FS := Aside0.mk (show fnd Q x1 x2 (t + 1) = true by rw [FS.out]; rfl)
            go_wp2
            go_roundw
            case rel => exact ⟨t + 1, by go_num, by omega, by rw [FS.out], ⟨below_alloc0 HB2.out _⟩⟩
            case measure => simp [intOf]; omega
          | false =>
            by_cases q1 : y1 = x2
            · by_cases q2 : y2 = x1
              · have FS := Aside0.mk (show fnd Q x1 x2 (t + 1) = true by rw [FS.out]; simp [q1, q2])
                subst q1; subst q2
                go_wp2
                go_roundw
                case rel => exact ⟨t + 1, by go_num, by omega, by rw [FS.out], ⟨below_alloc0 HB2.out _⟩⟩
                case measure => simp [intOf]; omega
              · have FS := Aside0.mk (show fnd Q x1 x2 (t + 1) = false by rw [FS.out]; simp [q2])
                have q3 : (y2 == x1) = false := by rw [beq_eq_false_iff_ne]; exact q2
                subst q1
                go_wp2
                go_roundw
                case rel => exact ⟨t + 1, by go_num, by omega, by rw [FS.out], ⟨below_alloc0 HB2.out _⟩⟩
                case measure => simp [intOf]; omega
            · have FS := Aside0.mk (show fnd Q x1 x2 (t + 1) = false by rw [FS.out]; simp [q1])
              go_wp2
              go_roundw
              case rel => exact ⟨t + 1, by go_num, by omega, by rw [FS.out], ⟨below_alloc0 HB2.out _⟩⟩
              case measure => simp [intOf]; omega
        · obtain rfl : t = np := by omega
          have hT := TT.out
          rw [hT]
          have tz : ¬ (t : Int) < (t : Int) := by omega
          have HBN := Aside0.mk (below_trans0 HXB.out HB2.out)
          clear hT
          go_wp2
          go_roundw
          case rel => exact ⟨i + 1, by go_num, by omega, HBN⟩
          case measure => simp [intOf]; omega
    · obtain rfl : i = np := by omega
      have B6 := Aside0.mk (below_trans0 B6.out HB.out)
      clear HB RP RQ TM
      go_wp2_with fail
      generalize wr = wx at *
      have AL0 := Aside0.mk (owns_empty wx wx.heap.size 3 (Nat.le_refl _))
      have ALB := Aside0.mk (below_alloc0 (Below.refl wx.heap.size wx) (.cells #[] 3))
      have HW := Aside0.mk (fun W (hb : Below wx.heap.size wx W) => WA.out W (below_trans0 B6.out hb))
      obtain ⟨ii, hii, hi0, hi1, hi2⟩ := info_parts info_int8
      clear WA
      go_loopw [12, 13] (fun s12 s13 wr => ∃ k : Nat, s13 = .int .i64 k ∧ k ≤ na ∧ Aside0 (wr.ownsRow wx.heap.size 3 1 s12 k ((allK k).map (Value.int .i64))) ∧ Aside0 (Below wx.heap.size wx wr)) (fun _ s13 _ => na - (intOf s13).toNat)
      case atStart => exact ⟨0, rfl, Nat.zero_le _, AL0, ALB⟩
      case round =>
        clear AL0 ALB
        obtain ⟨k, rfl, hk, HO, HBk⟩ := hrel
        have hsb := HBk.out.size
        have HWk := Aside0.mk (HW.out wr HBk.out)
        by_cases hlt4 : k < na
        · have h63 := Aside0.mk (show k + 1 ≤ maxLen by unfold maxLen; omega)
          have hby := Aside0.mk (show (k + 1) * 8 ≤ 140737488355328 by omega)
          have hsz := Aside0.mk (fun o => (show wx.heap.size ≤ (wr.alloc o).heap.size by simp; omega))
          have kz : (k : Int) < (na : Int) := by omega
          go_wp2_with fail
          refine HWk.out.mono ?_
          rintro e w' ⟨rfl, rfl⟩
          clear HWk
          go_wp2_with (at_builtin; refine wpList_append_own_at _ rfl (.tmp 83) (.tmp 85) 29 rfl wx.heap.size 3 ii (.int .i64 0) 1 8 Try.underlying29 hii hi0 hi1 hi2 rfl (by decide) _ _ _ rfl (HO.out.alloc _) ⟨wr.heap.size, 0, none⟩ 1 1 [Value.int .i64 (k : Int)] rfl rfl (cell_one_new _ _ _) (by simp [Value.oneCell']) h63.out hby.out (hsz.out _) ?_; intro v1 w10 ho hg _ hb; have O1 := Aside0.mk ho; have G1 := Aside0.mk hg; clear ho hg hb)
          go_roundw
          case rel => exact ⟨k + 1, by go_num, by omega, ⟨by rw [allK_succ, List.map_append]; exact O1.out⟩, ⟨(below_alloc HBk.out hsb _).grown G1.out (by simp; omega) (own_below HO.out)⟩⟩
          case measure => simp [intOf]; omega
        · obtain rfl : k = na := by omega
          have kz : ¬ (k : Int) < (k : Int) := by omega
          have RK := Aside0.mk (RowAt.of_own' HO.out (allK_length k).symm rfl (by rw [allK_length]; omega) (fun x hx => by
            unfold allK at hx
            obtain ⟨y, hy, rfl⟩ := List.mem_map.1 hx
            have := List.mem_range.1 hy
            unfold In64
            omega))
          have B8 := Aside0.mk (below_trans0 B6.out HBk.out)
          have C1 := Aside0.mk (HA2.out wr _ _ B8.out RK.out)
          clear HO hsb HA2 HW
          go_wp2_with fail
          refine HWk.out.mono ?_
          rintro e w' ⟨rfl, rfl⟩
          clear HWk
          go_wp2_with fail
          refine C1.out.mono ?_
          rintro e w9 ⟨v9, rfl, R9, q9⟩
          obtain ⟨A9, c9, hf9, -⟩ := R9.form
          subst hf9
          rw [diag_length] at R9 ⊢
          have R9 := Aside0.mk R9
          have B9 := Aside0.mk (below_trans0 B8.out q9)
          have RK := Aside0.mk (RK.out.below reads_int q9)
          have hN60 : N ≤ 60 := HN60.out
          clear C1 q9 HBk
          go_wp2_with fail
          go_loopw [93] (fun s93 wr => ∃ i : Nat, s93 = .int .i64 i ∧ i ≤ N ∧ Aside0 (Below w9.heap.size w9 wr)) (fun s93 _ => N - (intOf s93).toNat)
          case atStart => exact ⟨0, rfl, Nat.zero_le _, ⟨Below.refl _ _⟩⟩
          case round =>
            obtain ⟨i2, rfl, hi2', HB⟩ := hrel
            by_cases hlt5 : i2 < N
            · obtain ⟨b1, o1, u1, u2, rfl, -, -, c1', c2', ⟨rfl, -⟩, ⟨rfl, -⟩⟩ := (reads_pairs.stays R9.out (Stays.of_below HB.out _)).at_ i2 (by rw [diag_length]; exact hlt5)
              rw [diag_get] at c1' c2'
              have ti : ((i2 : Nat) : Int).toNat = i2 := by omega
              have iz : (i2 : Int) < (N : Int) := by omega
              go_wp2
              go_roundw
              case rel => exact ⟨i2 + 1, by go_num, by omega, ⟨below_alloc0 HB.out _⟩⟩
              case measure => simp [intOf]; omega
            · obtain rfl : i2 = N := by omega
              have iz : ¬ (i2 : Int) < (i2 : Int) := by omega
              have BX := below_trans0 B9.out HB.out
              have C2 := Aside0.mk (MA2.out wr _ _ BX (RK.out.below reads_int HB.out))
              have BX := Aside0.mk BX
              clear MA2 HB R9 RK
              go_wp2_with fail
              refine C2.out.mono ?_
              rintro e w11 ⟨v11, rfl, R11, q11⟩
              obtain ⟨A11, c11, hf11, -⟩ := R11.form
              subst hf11
              rw [diag_length]
              have BY := Aside0.mk (below_trans0 BX.out q11)
              have L1 := Aside0.mk (LNA.out w11 BY.out)
              clear C2 R11 q11
              go_wp2_with fail
              refine L1.out.mono ?_
              rintro e w' ⟨rfl, rfl⟩
              have BZ := Aside0.mk (below_trans0 B03.out BY.out)
              clear L1
              go_wp2
              go_ret
              exact ⟨ret_bool (by simp), BZ.out⟩
end Go.Proofs.Ytmgoefhihljggaa.Sg
