/- Contract: the law's own By, the place inside. -/
import Derived.Test.YtihilledbnnniaaSgZk
namespace Go.Proofs.Ytihilledbnnniaa.Sg
open Go.RowKit Go.Shelf
set_option linter.unusedVariables false
set_option linter.unusedSimpArgs false

set_option maxHeartbeats 4000000 in
set_option maxRecDepth 100000 in
theorem by9_in (w : World) (ok ok2 : Nat → Prop) (g W : Nat) (rs : List Row) (kv : Value) (ks : List Int) (a : Int) (cN : Nat) (h : SegAt w ok (.pointer (some ⟨g, 0, none⟩)) W rs) (hk : RowAt w ok2 kv ks) (hl : ks.length < 100000) (hcol : cN < W) :
    Calls Try.prog 34 #[.pointer (some ⟨g, 0, none⟩), kv, .int .i64 a, .int .i64 (cN : Int)] w (By9Post w (rs.map fun r => keyOf r ks) (valsIn (cN : Int) W rs) a) := by
  obtain ⟨A2, c2, rfl, hc2, hm2, _⟩ := hk.form
  have HS := Aside0.mk h
  have HK := Aside0.mk hk
  obtain ⟨KS, hKS⟩ : ∃ KS, (rs.map fun r => keyOf r ks) = KS := ⟨_, rfl⟩
  obtain ⟨vs, hvs⟩ : ∃ vs, valsIn (cN : Int) W rs = vs := ⟨_, rfl⟩
  have hrl := h.len
  have hkl : KS.length = rs.length := by rw [← hKS]; simp
  have HV64 := Aside0.mk (show ∀ x ∈ vs, In64 x by rw [← hvs]; exact valsIn_in64 (fun r hr => (h.row r hr).2))
  have HVA := Aside0.mk (show ∀ t (ht : t < rs.length), vs.getD t 0 = rs[t].getD (cN : Int).toNat 0 by intro t ht; rw [← hvs, valsIn_at _ _ _ _ ht]; rw [if_pos (by omega)])
  have HRL := Aside0.mk (show ∀ t (ht : t < rs.length), rs[t].length = W from fun t ht => (h.row _ (List.getElem_mem ht)).1)
  rw [hKS, hvs]
  have HKA := Aside0.mk (show ∀ t (ht : t < rs.length), KS.getD t [] = keyOf rs[t] ks by intro t ht; rw [← hKS]; simp [ht])
  obtain ⟨N, hN⟩ : ∃ N, KS.length = N := ⟨_, rfl⟩
  have HWD := Aside0.mk (show ∀ i, wdAt KS i < 1000000 by intro i; unfold wdAt; split; omega; rw [← hKS]; by_cases h9 : i - 1 < rs.length; have := keyOf_length rs[i - 1] ks; simp [h9]; omega; simp [h9])
  have hNr : rs.length = N := by omega
  have HN := Aside0.mk hN
  obtain ⟨ir, hir, hr0, hr1, hr2⟩ := info_parts info_row9
  obtain ⟨iw, hiw, hw0, hw1, hw2⟩ := info_parts info_i64
  rw [hNr] at hrl
  have HNR := Aside0.mk hNr
  have LNA := Aside0.mk (fun w1 (hb : Below w.heap.size w w1) => by have h9 := len_any w1 _ _ _ _ (HS.out.below hb); rw [HNR.out] at h9; exact h9)
  have WDA := Aside0.mk (fun w1 (hb : Below w.heap.size w w1) => width_any w1 _ _ _ _ (HS.out.below hb))
  clear h hk hKS hvs hkl hN hNr
  go_enter Try.func34, Try.ntmps34
  go_wp2_with fail
  go_loopw [10, 11, 12] (fun s10 s11 s12 wr => ∃ (i : Nat) (cs : List Value), s12 = .int .i64 i ∧ i ≤ N ∧ s11 = .int .i64 (wdAt KS i) ∧ Aside0 (okUp KS vs a i) ∧ Aside0 (BuiltBy RowAt wr w.heap.size 24 (Off s10) s10 (outs KS vs a i) cs) ∧ Aside0 (Below w.heap.size w wr)) (fun _ _ s12 _ => N - (intOf s12).toNat)
  case atStart => exact ⟨0, [], rfl, Nat.zero_le _, rfl, ⟨okUp_zero _ _ _⟩, ⟨BuiltBy.empty RowAt w w.heap.size 24 _ (Nat.le_refl _)⟩, ⟨below_alloc0 (Below.refl _ _) _⟩⟩
  case round =>
    obtain ⟨i, cs, rfl, hi, rfl, HOK, HO, HB⟩ := hrel
    have LN := Aside0.mk (LNA.out wr HB.out)
    by_cases hlt : i < N
    · have hltr : i < rs.length := by rw [HNR.out]; exact hlt
      have hltk : i < KS.length := by rw [HN.out]; exact hlt
      have hki := HKA.out i hltr
      have RW := Aside0.mk (row_any wr _ _ W rs rs[i] i (HS.out.below HB.out) (List.getElem?_eq_getElem hltr))
      have KX := Aside0.mk (fun w2 rv okk (hb : Below wr.heap.size wr w2) (hr : RowAt w2 okk rv rs[i]) => key7_own w2 _ _ rv _ rs[i] ks hr (HK.out.below reads_int (below_trans0 HB.out hb)) (by omega))
      rw [← hki] at KX
      have WS := Aside0.mk (wdAt_succ KS i)
      have OY := Aside0.mk (fun h => outs_yes (vs := vs) (a := a) (KS := KS) (i := i) h)
      have ON := Aside0.mk (fun h => outs_no (vs := vs) (a := a) (KS := KS) (i := i) h)
      have KN := Aside0.mk (fun h => okUp_no HOK.out h)
      have KY := Aside0.mk (fun h => okUp_yes HOK.out h)
      have KB := Aside0.mk (fun (hf : isFst KS i = true) (hb : madeB a (grp KS vs (KS.getD i [])) = false) => okUp_bad hltk hf hb)
      have OR := Aside0.mk (show outRow KS vs a i = KS.getD i [] ++ [madeV a (grp KS vs (KS.getD i []))] from rfl)
      have FA := Aside0.mk (fstUp_all KS i)
      have HGI := Aside0.mk (grp_in64 (K := KS.getD i []) (KS := KS) HV64.out)
      have hol := outs_length KS vs a i
      obtain ⟨GR, hGR⟩ : ∃ GR, grp KS vs (KS.getD i []) = GR := ⟨_, rfl⟩
      have GA := Aside0.mk (show grpUp KS vs (KS.getD i []) N = GR by rw [← hGR, ← grpUp_all, HN.out])
      rw [hGR] at KY KB OR HGI
      obtain ⟨KI, hKI⟩ : ∃ KI, KS.getD i [] = KI := ⟨_, rfl⟩
      have HKI := Aside0.mk hKI
      rw [hKI] at KX WS OR GA FA
      generalize rs[i] = ri at *
      clear hki hGR hKI hltr hltk
      go_wp2_with fail
      refine (LN.out).mono ?_
      rintro e w' ⟨rfl, rfl⟩
      go_wp2_with fail
      refine (RW.out).mono ?_
      rintro e w2 ⟨rv, rfl, HR2, B2⟩
      go_wp2_with fail
      refine (KX.out w2 rv _ B2 HR2).mono ?_
      rintro e w3 ⟨kv3, rfl, HO3, HL3, HI3, B3⟩
      have R3 := RowAt.of_own HO3 (by omega) HI3
      have b23 := below_trans0 B2 B3
      obtain ⟨A3, c3, hk3, _⟩ := R3.form
      subst hk3
      have hHB := below_trans0 HB.out b23
      have hwr2 := B2.size
      have h12 : w.heap.size ≤ w2.heap.size := Nat.le_trans HB.out.size hwr2
      have hlt11 : ∀ k, u10.ownBlock = some k → k < w2.heap.size := fun k hk => Nat.lt_of_lt_of_le (HO.out.own.lt k hk).2 hwr2
      have hO2 : BuiltBy RowAt w2 w.heap.size 24 (fun k => Off u10 k ∧ k < w2.heap.size) u10 (outs KS vs a i) cs := by
        have h9 : BuiltBy RowAt wr w.heap.size 24 (fun k => Off u10 k ∧ k < w2.heap.size) u10 (outs KS vs a i) cs := ⟨HO.out.own, fun j hj z hz => reads_row.mono (HO.out.el j hj z hz) (fun k hk hl => ⟨hk, by omega⟩)⟩
        exact h9.stays reads_row (Stays.of_below B2 (fun _ => True)) (fun _ _ _ => trivial) (fun _ _ => trivial)
      have HK3 := Aside0.mk HO3
      have HL3 := Aside0.mk HL3
      have HI3 := Aside0.mk HI3
      have HO2 := Aside0.mk hO2
      have HLT := Aside0.mk hlt11
      have HB3 := Aside0.mk hHB
      have B3 := Aside0.mk B3
      have h23 := B3.out.size
      have h13 := HB3.out.size
      have R3 := Aside0.mk R3
      clear hHB hwr2 hlt11 hO2 b23 HR2 B2 KX RW HO HB LN HO3
      go_wp2_with fail
      go_loopw [14, 15, 16] (fun s14 s15 s16 wr => ∃ j : Nat, s16 = .int .i64 j ∧ j ≤ N ∧ s15 = .bool (fstUp KS KI i j) ∧ Aside0 (wr.ownsRow w3.heap.size 2 1 s14 (grpUp KS vs KI j).length ((grpUp KS vs KI j).map (Value.int .i64))) ∧ Aside0 (Below w3.heap.size w3 wr)) (fun _ _ s16 _ => N - (intOf s16).toNat)
      case atStart => exact ⟨0, rfl, Nat.zero_le _, by rw [fstUp_zero], ⟨owns_empty w3 w3.heap.size 2 (Nat.le_refl _)⟩, ⟨below_alloc0 (Below.refl _ _) _⟩⟩
      case round =>
        obtain ⟨j, rfl, hj, rfl, HL, HBi⟩ := hrel
        have hbi := HBi.out.size
        have HBB := Aside0.mk (below_trans0 HB3.out HBi.out)
        have LN := Aside0.mk (LNA.out wr HBB.out)
        have hgl := grpUp_length KS vs KI j
        by_cases hjl : j < N
        · have hjr : j < rs.length := by rw [HNR.out]; exact hjl
          have hjk : j < KS.length := by rw [HN.out]; exact hjl
          have hkj := HKA.out j hjr
          have hkk : KS.getD j [] = KS[j] := by simp [hjk]
          rw [hkk] at hkj
          have hva := HVA.out j hjr
          have RW := Aside0.mk (row_any wr _ _ W rs rs[j] j (HS.out.below HBB.out) (List.getElem?_eq_getElem hjr))
          have KX := Aside0.mk (fun w4 rv okk (hb : Below wr.heap.size wr w4) (hr : RowAt w4 okk rv rs[j]) => key7_any w4 _ _ rv _ rs[j] ks hr (HK.out.below reads_int (below_trans0 HBB.out hb)) (by omega))
          rw [← hkj] at KX
          have CM := Aside0.mk (fun w5 kv okk (hb : Below wr.heap.size wr w5) (hr : RowAt w5 okk kv KS[j]) => compare5_any w5 _ _ kv _ KS[j] KI hr (R3.out.below reads_int (below_trans0 HBi.out hb)))
          have hz := cmp5_zero KS[j] KI
          have GY := Aside0.mk (fun e : KS[j] = KI => grpUp_yes (vs := vs) hjk e)
          have GN := Aside0.mk (fun e : KS[j] ≠ KI => grpUp_no (vs := vs) hjk e)
          have FL := Aside0.mk (fun (e : KS[j] = KI) (h : j < i) => fstUp_lt hjk e h)
          have FN := Aside0.mk (fun e : KS[j] ≠ KI => fstUp_no (i := i) hjk e)
          have FG := Aside0.mk (fun h : i ≤ j => fstUp_ge (KS := KS) (K := KI) h)
          rw [hva] at GY
          obtain ⟨cc, hcc⟩ : ∃ cc, cmp5 KS[j] KI = cc := ⟨_, rfl⟩
          rw [hcc] at CM hz
          have HZ := Aside0.mk hz
          have HRJ := Aside0.mk (HRL.out j hjr)
          have HRI := Aside0.mk (List.getElem?_eq_getElem hjr)
          obtain ⟨KJ, hKJ⟩ : ∃ KJ, KS[j] = KJ := ⟨_, rfl⟩
          rw [hKJ] at KX CM HZ GY GN FL FN
          generalize rs[j] = rj at *
          have h63 := Aside0.mk (show (grpUp KS vs KI j).length + 1 ≤ maxLen by unfold maxLen; omega)
          have hby := Aside0.mk (show ((grpUp KS vs KI j).length + 1) * 8 ≤ 140737488355328 by omega)
          clear hz hcc hkj hkk hva hKJ hjr hjk
          go_wp2_with fail
          refine (LN.out).mono ?_
          rintro e w' ⟨rfl, rfl⟩
          clear LN
          go_wp2_with fail
          refine (RW.out).mono ?_
          rintro e w4 ⟨rv, rfl, HR4, B4⟩
          go_wp2_with fail
          refine (KX.out w4 rv _ B4 HR4).mono ?_
          rintro e w5 ⟨kv5, rfl, HK5, B5⟩
          have B5' := below_trans0 B4 B5
          go_wp2_with fail
          refine (CM.out w5 kv5 _ B5' HK5).mono ?_
          rintro e w6 ⟨rfl, hdw⟩
          have hb6 := below_trans0 B5' hdw.below
          have HB6 := Aside0.mk (below_trans0 HBi.out hb6)
          have HL6 := Aside0.mk ((Stays.of_below hb6 (fun _ => True)).owns HL.out (fun _ _ => trivial))
          have HBB6 := Aside0.mk (below_trans0 HBB.out hb6)
          have hs6 := HB6.out.size
          clear hb6 hdw B5' HK5 B5 HR4 B4 CM KX RW HBB HL
          by_cases h0 : cc = 0
          · have e1 : KJ = KI := HZ.out.1 h0
            have GY := Aside0.mk (GY.out e1)
            have FL := Aside0.mk (FL.out e1)
            subst h0
            have d0 : ((0 : Int) != 0) = false := rfl
            clear e1 HZ GN FN
            obtain ⟨fb, hfb⟩ : ∃ fb, fstUp KS KI i j = fb := ⟨_, rfl⟩
            have HFB := Aside0.mk hfb
            simp only [hfb]
            clear hfb
            have FX := Aside0.mk (show fstUp KS KI i (j + 1) = (fb && decide (i ≤ j)) by
              by_cases q : i ≤ j
              · rw [FG.out q, HFB.out]; simp [q]
              · rw [FL.out (by omega)]; simp [q])
            clear FL FG
            have RT := Aside0.mk (row_any w6 _ _ W rs rj j (HS.out.below HBB6.out) HRI.out)
            have WDX := Aside0.mk (WDA.out w6 HBB6.out)
            have hrj := HRJ.out
            have hcN : cN < rj.length := by omega
            have hge : rj.getD (cN : Int).toNat 0 = rj[cN] := by simp [hcN]
            rw [hge] at GY
            obtain ⟨z, hz⟩ : ∃ z, rj[cN] = z := ⟨_, rfl⟩
            rw [hz] at GY
            have HZA := Aside0.mk (fun w2 rv (hr : RowAt w2 (w6.heap.size ≤ ·) rv rj) => hr.form)
            have HZ2 := Aside0.mk (fun w2 A n c (hr : RowAt w2 (w6.heap.size ≤ ·) (.slice A n c) rj) => by have h9 := hr.at_ cN hcN; rw [hz] at h9; exact h9)
            clear hge hz
            cases fb
            all_goals
              go_wp2_with fail
              refine (WDX.out).mono ?_
              rintro e w' ⟨rfl, rfl⟩
              go_wp2_with fail
              refine (RT.out).mono ?_
              rintro e w9 ⟨rv, rfl, HR9, B9⟩
              obtain ⟨A9, c9, h9, _⟩ := HZA.out w9 rv HR9
              subst h9
              obtain ⟨b9, o9, u9, rfl, _, _, hc9, rfl, _⟩ := HZ2.out w9 _ _ _ HR9
              have HL9 := Aside0.mk ((Stays.of_below B9 (fun _ => True)).owns HL6.out (fun _ _ => trivial))
              have HB9 := Aside0.mk (below_trans0 HB6.out B9)
              have hb9 := HB9.out.size
              have hsz := Aside0.mk (fun o => (show w3.heap.size ≤ (w9.alloc o).heap.size by simp; omega))
              clear RT HZA HZ2 HR9 B9 HL6 HB6 HBB6 WDX
              go_wp2_with (at_builtin; refine wpList_append_own_at _ rfl (.tmp 70) (.tmp 72) 24 rfl w3.heap.size 2 iw (.int .i64 0) 1 8 Try.underlying24 hiw hw0 hw1 hw2 rfl (by decide) _ _ _ rfl (HL9.out.alloc _) ⟨w9.heap.size, 0, none⟩ 1 1 [Value.int .i64 z] rfl rfl (cell_one_new _ _ _) (by simp [Value.oneCell']) h63.out hby.out (hsz.out _) ?_; intro v1 w10 ho hg _ hb; have O1 := Aside0.mk ho; have G1 := Aside0.mk hg; clear ho hg hb)
              go_roundw
              case rel => exact ⟨j + 1, by go_num, by omega, by rw [FX.out]; simp, ⟨by rw [GY.out]; simpa using O1.out⟩, ⟨(below_alloc HB9.out hb9 _).grown G1.out (by simp; omega) (own_below HL9.out)⟩⟩
              case measure => simp [intOf]; omega
          · have e1 : KJ ≠ KI := fun e => h0 (HZ.out.2 e)
            have GN := Aside0.mk (GN.out e1)
            have FN := Aside0.mk (FN.out e1)
            have d0 : (cc != 0) = true := by simpa using h0
            clear e1 HZ h0 GY FL FG
            go_wp2
            go_roundw
            case rel => exact ⟨j + 1, by go_num, by omega, by rw [FN.out], ⟨by rw [GN.out]; exact HL6.out⟩, HB6⟩
            case measure => simp [intOf]; omega
        · obtain rfl : j = N := by omega
          have hga := GA.out
          rw [hga] at HL hgl
          have hfa := FA.out
          rw [HN.out] at hfa
          have RG := RowAt.of_own HL.out (by omega) HGI.out
          obtain ⟨AG, cG, hag, _⟩ := RG.form
          subst hag
          have AM := Aside0.mk (made9_any wr _ a _ GR RG (by omega))
          have BW := Aside0.mk (B3.out.trans (HBi.out.mono h23))
          have hMI := madeV_in64 a GR HGI.out (by omega)
          obtain ⟨mv, hmv⟩ : ∃ mv, madeV a GR = mv := ⟨_, rfl⟩
          obtain ⟨mb, hmb⟩ : ∃ mb, madeB a GR = mb := ⟨_, rfl⟩
          rw [hmv] at OR hMI AM
          rw [hmb] at AM KY KB
          have HMI := Aside0.mk hMI
          simp only [hfa]
          have HBB2 := HBB
          have BH := HBB
          have hww := BW.out.size
          have HKi := Aside0.mk ((Stays.of_below HBi.out (fun _ => True)).owns HK3.out (fun _ _ => trivial))
          clear hmv hmb RG hMI hga hfa
          go_wp2_with fail
          refine (LN.out).mono ?_
          rintro e w' ⟨rfl, rfl⟩
          clear LN
          cases hfst : isFst KS i with
          | false =>
            have KN := Aside0.mk (KN.out hfst)
            have ON := Aside0.mk (ON.out hfst)
            have HOr := Aside0.mk (HO2.out.stays reads_row (Stays.of_belowB BW.out) (fun k hk _ => hk.2) (fun k hk => HLT.out k hk))
            clear hfst KB KY OY AM
            go_wp2
            go_roundw
            case rel => exact ⟨i + 1, cs, by go_num, by omega, by rw [WS.out]; simp, KN, ⟨by rw [ON.out]; exact ⟨HOr.out.own, fun j hj z hz => reads_row.mono (HOr.out.el j hj z hz) (fun k hk _ => hk.1)⟩⟩, HBB⟩
            case measure => simp [intOf]; omega
          | true =>
            have OY := Aside0.mk (OY.out hfst)
            have KB1 := Aside0.mk (KB.out hfst)
            clear hfst KN ON KB
            cases mb with
            | false =>
              have BF := Aside0.mk (show ∀ v, GRes9 w wr v false KS vs a from fun v => ⟨HBB.out, .inr ⟨rfl, KB1.out rfl⟩⟩)
              clear KB1 KY OY
              go_wp2_with fail
              refine (AM.out).mono ?_
              rintro e w' ⟨rfl, rfl⟩
              go_wp2
              go_ret2
              exact ⟨_, _, rfl, BF.out _⟩
            | true =>
              have KY1 := Aside0.mk (KY.out rfl)
              have hl3 := HL3.out
              have h63 := Aside0.mk (show KI.length + 1 ≤ maxLen by unfold maxLen; omega)
              have hby := Aside0.mk (show (KI.length + 1) * 8 ≤ 140737488355328 by omega)
              have h63b := Aside0.mk (show (outs KS vs a i).length + 1 ≤ maxLen by unfold maxLen; omega)
              have hbyb := Aside0.mk (show ((outs KS vs a i).length + 1) * 24 ≤ 140737488355328 by omega)
              have hsz := Aside0.mk (fun o => (show w2.heap.size ≤ (wr.alloc o).heap.size by simp; omega))
              clear KB1 KY
              go_wp2_with fail
              refine (AM.out).mono ?_
              rintro e w' ⟨rfl, rfl⟩
              clear AM
              go_wp2_with (first | (at_builtin; refine wpList_append_own_at _ rfl (.tmp 85) (.tmp 87) 24 rfl w2.heap.size 2 iw (.int .i64 0) 1 8 Try.underlying24 hiw hw0 hw1 hw2 rfl (by decide) _ _ _ rfl (HKi.out.alloc _) ⟨wr.heap.size, 0, none⟩ 1 1 [Value.int .i64 mv] rfl rfl (cell_one_new _ _ _) (by simp [Value.oneCell']) h63.out hby.out (hsz.out _) ?_; intro v5 w5 ho hg _ hb; obtain ⟨b5, c5, rfl⟩ := own_some ho; have O1 := Aside0.mk ho; have G1 := Aside0.mk hg; clear ho hg hb; have BW5 := Aside0.mk ((below_alloc BW.out hww (.cells #[.int .i64 mv] 2)).grown G1.out (by simp; omega) (own_below HKi.out)); have h5s := BW5.out.size; have HO5 := Aside0.mk (HO2.out.stays reads_row (Stays.of_belowB BW5.out) (fun k hk _ => hk.2) (fun k hk => HLT.out k hk)); have hsz5 := Aside0.mk (fun o => (show w.heap.size ≤ (w5.alloc o).heap.size by simp; omega)); clear hww) | (at_builtin; refine wpList_append_own_at _ rfl (.tmp 84) (.tmp 89) 22 rfl w.heap.size 24 ir (.slice none 0 0) 1 24 Try.underlying22 hir hr0 hr1 hr2 rfl (by decide) _ _ _ rfl (HO5.out.own.alloc _) ⟨w5.heap.size, 0, none⟩ 1 1 [Value.slice (some ⟨b5, 0, none⟩) (KI.length + 1) c5] rfl rfl (cell_one_new _ _ _) (by simp [Value.oneCell']) h63b.out hbyb.out (hsz5.out _) ?_; intro v6 w6 ho hg _ hb; have O6 := Aside0.mk ho; have G6 := Aside0.mk hg; have HB6 := Aside0.mk hb; clear ho hg hb))
              go_roundw
              case rel =>
                have R5 : RowAt w5 (w2.heap.size ≤ ·) (.slice (some ⟨b5, 0, none⟩) (KI.length + 1) c5) (KI ++ [mv]) := RowAt.of_own' O1.out (by simp) (by simp) (by simp; omega) (fun z hz => by rcases List.mem_append.1 hz with hz | hz; exact HI3.out z hz; rw [List.mem_singleton.1 hz]; exact HMI.out)
                have hP := BuiltBy.pushV reads_row (x := KI ++ [mv]) (⟨HO5.out.own, fun j hj z hz => reads_row.mono (HO5.out.el j hj z hz) (fun k hk _ => hk.1)⟩ : BuiltBy RowAt w5 w.heap.size 24 (Off u10) u10 (outs KS vs a i) cs) (reads_row.mono R5 (fun k hk _ e => by have := HLT.out k e; omega)) O6.out G6.out HB6.out
                refine ⟨i + 1, _, by go_num, by omega, by rw [WS.out]; simp, KY1, ⟨by rw [OY.out, OR.out]; exact hP⟩, ⟨?_⟩⟩
                have hbs := BH.out.size
                have b5 : Below w.heap.size w w5 := (below_alloc BH.out hbs _).grown G1.out (by simp; omega) (fun k hk => Nat.le_trans h12 (own_below HKi.out k hk))
                exact (b5.alloc (by omega) _).grown G6.out (by simp; omega) (own_below HO5.out.own)
              case measure => simp [intOf]; omega
    · obtain rfl : i = N := by omega
      have hol := outs_length KS vs a i
      have hwd := HWD.out i
      obtain ⟨wd, hwde⟩ : ∃ wd, wdAt KS i = wd := ⟨_, rfl⟩
      have RO : RowsAt wr (fun _ => True) u10 (outs KS vs a i) := SlAt.of_own0 HO.out.own rfl (fun _ _ _ => trivial) (by omega) (fun j hj z hz => reads_row.mono (HO.out.el j hj z hz) (fun _ _ _ => trivial))
      have MK := Aside0.mk (sorted_any wr _ _ (wdAt KS i) _ RO (by omega) (by omega))
      have BF := Aside0.mk (fun w' v (hb : Below wr.heap.size wr w') (hs : RowsAt w' (fun _ => True) v (norm (wdAt KS i) (outs KS vs a i))) => show GRes9 w w' v true KS vs a from ⟨below_trans0 HB.out hb, .inl ⟨rfl, by rw [HN.out]; exact HOK.out, by rw [HN.out]; exact hs⟩⟩)
      rw [hwde] at MK BF
      simp only [hwde]
      clear RO hol hwd hwde HO HB
      go_wp2_with fail
      refine (LN.out).mono ?_
      rintro e w' ⟨rfl, rfl⟩
      go_wp2_with fail
      refine (MK.out).mono ?_
      rintro e w' ⟨v, rfl, SS', BB⟩
      have GF := Aside0.mk (BF.out w' v BB SS')
      clear BF SS' BB MK
      go_wp2
      go_ret2
      exact ⟨_, _, rfl, GF.out⟩
end Go.Proofs.Ytihilledbnnniaa.Sg
