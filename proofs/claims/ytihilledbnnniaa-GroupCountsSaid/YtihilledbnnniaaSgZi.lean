/- Contract: group.By, where there is such a place. -/
import Derived.Test.YtihilledbnnniaaSgZh
namespace Go.Proofs.Ytihilledbnnniaa.Sg
open Go.RowKit Go.Shelf
set_option linter.unusedVariables false
set_option linter.unusedSimpArgs false


set_option maxHeartbeats 2000000 in
set_option maxRecDepth 100000 in
theorem gby_more (w : World) (ok ok2 : Nat → Prop) (g W : Nat) (rs : List Row) (kv : Value) (ks : List Int) (a : Int) (cN : Nat) (h : SegAt w ok (.pointer (some ⟨g, 0, none⟩)) W rs) (hk : RowAt w ok2 kv ks) (hl : ks.length < 100000) (h2 : 2 ≤ a) (h4 : a ≤ 4) (hc1 : cN < W) :
    Calls Try.prog 33 #[.pointer (some ⟨g, 0, none⟩), kv, .int .i64 a, .int .i64 (cN : Int)] w (GByPost w (rs.map fun r => keyOf r ks) (valsOf a (cN : Int) rs) a) := by
  obtain ⟨A2, c2, rfl, hc2, hm2, _⟩ := hk.form
  have HS := Aside0.mk h
  have HK := Aside0.mk hk
  have WD := Aside0.mk (width_any w ok _ W rs h)
  have WO := Aside0.mk (fun w1 => word_any w1 a (by unfold In64; omega))
  obtain ⟨u, hu⟩ : ∃ u, wordOf a = u := ⟨_, rfl⟩
  have hue : u.toList.isEmpty = false := by have h9 := str_ne (a := u) (b := ⟨#[]⟩) (by rw [← hu]; have hc : a = 2 ∨ a = 3 ∨ a = 4 := (by omega); rcases hc with rfl | rfl | rfl <;> decide); rw [List.isEmpty_eq_false_iff]; intro e; rw [e, show (⟨#[]⟩ : ByteArray).toList = [] by rw [ByteArray.toList_eq]] at h9; exact absurd h9 (by decide)
  rw [hu] at WO
  have BD := Aside0.mk (fun w1 (hb : Below w.heap.size w w1) => build_any w1 ok ok2 _ _ W rs ks (h.below hb) (hk.below reads_int hb) (by omega))
  obtain ⟨KS, hKS⟩ : ∃ KS, (rs.map fun r => keyOf r ks) = KS := ⟨_, rfl⟩
  obtain ⟨vs, hvs⟩ : ∃ vs, valsOf a (cN : Int) rs = vs := ⟨_, rfl⟩
  have hrl := h.len
  have hkl : KS.length = rs.length := by rw [← hKS]; simp
  have HV64 := Aside0.mk (show ∀ x ∈ vs, In64 x by rw [← hvs]; exact valsOf_in64 (fun r hr => (h.row r hr).2))
  have HVA := Aside0.mk (show ∀ t (ht : t < rs.length), vs.getD t 0 = rs[t].getD (cN : Int).toNat 0 by intro t ht; rw [← hvs, valsOf_at _ _ _ _ ht]; rw [if_neg (by omega)])
  have HRL := Aside0.mk (show ∀ t (ht : t < rs.length), rs[t].length = W from fun t ht => (h.row _ (List.getElem_mem ht)).1)
  rw [hKS] at BD
  rw [hKS, hvs]
  have HKA := Aside0.mk (show ∀ t (ht : t < rs.length), KS.getD t [] = keyOf rs[t] ks by intro t ht; rw [← hKS]; simp [ht])
  obtain ⟨N, hN⟩ : ∃ N, KS.length = N := ⟨_, rfl⟩
  have HWD := Aside0.mk (show ∀ i, wdAt KS i < 1000000 by intro i; unfold wdAt; split; omega; rw [← hKS]; by_cases h9 : i - 1 < rs.length; have := keyOf_length rs[i - 1] ks; simp [h9]; omega; simp [h9])
  have HUL := Aside0.mk (show (uniq KS).length < 1000000 by have := uniq_length KS; omega)
  have hNr : rs.length = N := by omega
  have HN := Aside0.mk hN
  have HWL := Aside0.mk (show ∀ K, (which KS K).length < 1000000 from fun K => by have := which_le KS K; omega)
  obtain ⟨ir, hir, hr0, hr1, hr2⟩ := info_parts info_row9
  obtain ⟨iw, hiw, hw0, hw1, hw2⟩ := info_parts info_i64
  rw [hNr] at hrl
  have HNR := Aside0.mk hNr
  clear h hk hKS hvs hkl hN hu hNr
  have g1 : (a == 1) = false := by simp; omega
  have g2 : (a != 1) = true := by simp; omega
  go_enter Try.func33, Try.ntmps33
  go_wp2_with fail
  refine (WD.out).mono ?_
  rintro e w' ⟨rfl, rfl⟩
  go_wp2_with fail
  refine (WO.out _).mono ?_
  rintro e w0 ⟨rfl, B0⟩
  have B0 := Aside0.mk B0
  go_wp2_with fail
  refine (BD.out _ B0.out).mono ?_
  rintro e w1 ⟨gx, m, rfl, IX, B1⟩
  have IX := Aside0.mk IX
  have B1 := Aside0.mk (below_trans0 B0.out B1)
  have S1 := Aside0.mk (HS.out.below B1.out)
  have HP1 := Aside0.mk (HK.out.below reads_int B1.out)
  have LN := len_any w1 _ _ _ _ S1.out
  rw [HNR.out] at LN
  have LN := Aside0.mk LN
  clear BD HS HK WD WO hue
  go_wp2_with fail
  refine (LN.out).mono ?_
  rintro e w' ⟨rfl, rfl⟩
  clear LN
  go_wp2_with fail
  go_loopw [11, 12, 44] (fun s11 s12 s44 wr => ∃ (i : Nat) (cs : List Value), s44 = .int .i64 i ∧ i ≤ N ∧ s12 = .int .i64 (wdAt KS i) ∧ Aside0 (okUp KS vs a i) ∧ Aside0 (BuiltBy RowAt wr w1.heap.size 24 (Off s11) s11 (outs KS vs a i) cs) ∧ Aside0 (Below w1.heap.size w1 wr)) (fun _ _ s44 _ => N - (intOf s44).toNat)
  case atStart => exact ⟨0, [], rfl, Nat.zero_le _, rfl, ⟨okUp_zero _ _ _⟩, ⟨BuiltBy.nil _ _ _ _ _⟩, ⟨Below.refl _ _⟩⟩
  case round =>
    obtain ⟨i, cs, rfl, hi, rfl, HOK, HO, HB⟩ := hrel
    by_cases hlt : i < N
    · have hltr : i < rs.length := by rw [HNR.out]; exact hlt
      have hltk : i < KS.length := by rw [HN.out]; exact hlt
      have hki := HKA.out i hltr
      have RW := Aside0.mk (row_any wr _ _ W rs rs[i] i (S1.out.below HB.out) (List.getElem?_eq_getElem hltr))
      have KX := Aside0.mk (fun w2 rv okk (hb : Below wr.heap.size wr w2) (hr : RowAt w2 okk rv rs[i]) => keyx_own w2 _ _ rv _ rs[i] ks hr (HP1.out.below reads_int (below_trans0 HB.out hb)) (by omega))
      rw [← hki] at KX
      have PB := Aside0.mk (fun w2 kv okk (hb : Below wr.heap.size wr w2) (hr : RowAt w2 okk kv (KS.getD i [])) => probe_any w2 _ _ _ _ _ okk kv _ ((IX.out.below HB.out).below hb) hr HUL.out)
      obtain ⟨x, G', hG, hx1, hx2, hx0⟩ := fst_x hltk
      have WS := Aside0.mk (wdAt_succ KS i)
      have HX1 := Aside0.mk hx1
      have HX2 := Aside0.mk hx2
      have HG := Aside0.mk hG
      have OY := Aside0.mk (fun h => outs_yes (vs := vs) (a := a) (KS := KS) (i := i) h)
      have ON := Aside0.mk (fun h => outs_no (vs := vs) (a := a) (KS := KS) (i := i) h)
      have KN := Aside0.mk (fun h => okUp_no HOK.out h)
      have KY := Aside0.mk (fun h => okUp_yes HOK.out h)
      have KB := Aside0.mk (fun (hf : isFst KS i = true) (hb : madeB a (grp KS vs (KS.getD i [])) = false) => okUp_bad hltk hf hb)
      have OR := Aside0.mk (show outRow KS vs a i = KS.getD i [] ++ [madeV a (grp KS vs (KS.getD i []))] from rfl)
      have HGL := Aside0.mk (grp_length KS vs (KS.getD i []))
      have HGI := Aside0.mk (grp_in64 (K := KS.getD i []) (KS := KS) HV64.out)
      have HWI := Aside0.mk (fun j (h : j < (which KS (KS.getD i [])).length) => which_idx h)
      have HWL1 := Aside0.mk (HWL.out (KS.getD i []))
      have hol := outs_length KS vs a i
      obtain ⟨GR, hGR⟩ : ∃ GR, grp KS vs (KS.getD i []) = GR := ⟨_, rfl⟩
      rw [hGR] at KY KB OR HGL HGI
      obtain ⟨WH, hWH⟩ : ∃ WH, which KS (KS.getD i []) = WH := ⟨_, rfl⟩
      have HWH := Aside0.mk hWH
      rw [hWH] at HG HGL HWI HWL1
      have GS := Aside0.mk (show ∀ (j t : Nat) (h : j < WH.length), WH[j] = (t : Int) → GR.take (j + 1) = GR.take j ++ [vs.getD t 0] from by subst hWH; subst hGR; exact fun j t h ht => grp_step h ht)
      obtain ⟨KI, hKI⟩ : ∃ KI, KS.getD i [] = KI := ⟨_, rfl⟩
      have HKI := Aside0.mk hKI
      rw [hKI] at KX PB WS OR
      have HFK := Aside0.mk (show which KS KI = WH by rw [← hKI]; exact hWH)
      have PB := Aside0.mk (fun w2 kv okk (hb : Below wr.heap.size wr w2) (hr : RowAt w2 okk kv KI) => (PB.out w2 kv okk hb hr))
      generalize rs[i] = ri at *
      clear hki hG hx1 hx2 hGR hWH hKI hltr hltk
      go_wp2_with fail
      refine (RW.out).mono ?_
      rintro e w2 ⟨rv, rfl, HR2, B2⟩
      go_wp2_with fail
      refine (KX.out w2 rv _ B2 HR2).mono ?_
      rintro e w3 ⟨kv3, rfl, HO3, HL3, HI3, B3⟩
      have R3 := RowAt.of_own HO3 (by omega) HI3
      have B23 := below_trans0 B2 B3
      have HO3 := Aside0.mk HO3
      have HL3 := Aside0.mk HL3
      have HI3 := Aside0.mk HI3
      go_wp2_with fail
      refine (PB.out w3 kv3 _ B23 R3).mono ?_
      rintro e w4 ⟨gv, rfl, HG4, B4⟩
      rw [HFK.out] at HG4
      obtain ⟨Ag, cg, hgf, _⟩ := HG4.form
      subst hgf
      obtain ⟨A3, c3, hk3, _⟩ := R3.form
      subst hk3
      have b34 := below_trans0 B3 B4
      have b4 := below_trans0 B23 B4
      have hBu := HO.out.base
      have hHB := below_trans0 HB.out b4
      have hwr2 := B2.size
      have h12 : w1.heap.size ≤ w2.heap.size := Nat.le_trans HB.out.size hwr2
      have hlt11 : ∀ k, u11.ownBlock = some k → k < w2.heap.size := fun k hk => Nat.lt_of_lt_of_le (HO.out.own.lt k hk).2 hwr2
      have hO2 : BuiltBy RowAt w2 w1.heap.size 24 (fun k => Off u11 k ∧ k < w2.heap.size) u11 (outs KS vs a i) cs := by
        have h9 : BuiltBy RowAt wr w1.heap.size 24 (fun k => Off u11 k ∧ k < w2.heap.size) u11 (outs KS vs a i) cs := ⟨HO.out.own, fun j hj z hz => reads_row.mono (HO.out.el j hj z hz) (fun k hk hl => ⟨hk, by omega⟩)⟩
        exact h9.stays reads_row (Stays.of_below B2 (fun _ => True)) (fun _ _ _ => trivial) (fun _ _ => trivial)
      have hO4 : BuiltBy RowAt w4 w1.heap.size 24 (Off u11) u11 (outs KS vs a i) cs := HO.out.stays reads_row (Stays.of_below b4 (fun _ => True)) (fun _ _ _ => trivial) (fun _ _ => trivial)
      have hK4 := (Stays.of_below B4 (fun _ => True)).owns HO3.out (fun _ _ => trivial)
      have HK4 := Aside0.mk hK4
      have HO4 := Aside0.mk hO4
      have HO2 := Aside0.mk hO2
      have HBU := Aside0.mk hBu
      have HLT := Aside0.mk hlt11
      have HB4 := Aside0.mk hHB
      have B34 := Aside0.mk b34
      have h24 := B34.out.size
      have h14 := HB4.out.size
      have HG4 := Aside0.mk HG4
      have S4 := Aside0.mk (S1.out.below HB4.out)
      have hwl : 0 < WH.length := by rw [HG.out]; simp
      obtain ⟨bx, ox, ux, rfl, _, _, hcx, rfl, _⟩ := HG4.out.at_ 0 hwl
      have hx0e : WH[0] = x := by have h9 := HG.out; subst h9; rfl
      simp only [Nat.add_zero, hx0e] at hcx
      clear hx0e hBu hHB hwr2 hlt11 hO2 hO4 hK4 b34 b4 R3 HR2 B2 B3 B4 B23 PB KX RW HO HB S1 HP1 IX
      cases hfst : isFst KS i with
      | false =>
        have KN := Aside0.mk (KN.out hfst)
        have ON := Aside0.mk (ON.out hfst)
        have hxi := HX2.out hfst
        have d0 : (x != (i : Int)) = true := by simpa using hxi
        clear hxi hfst KB KY OY
        go_wp2
        go_roundw
        case rel => exact ⟨i + 1, cs, by go_num, by omega, by rw [WS.out]; simp, KN, ⟨by rw [ON.out]; exact HO4.out⟩, HB4⟩
        case measure => simp [intOf]; omega
      | true =>
        obtain rfl : x = (i : Int) := HX1.out hfst
        have KY := Aside0.mk (fun h => KY.out h)
        have OY := Aside0.mk (OY.out hfst)
        have KB := Aside0.mk (KB.out hfst)
        clear hfst KN ON
        go_wp2_with fail
        go_loopw [16, 65] (fun s16 s65 wr => ∃ j : Nat, s65 = .int .i64 j ∧ j ≤ WH.length ∧ Aside0 (wr.ownsRow w4.heap.size 2 1 s16 (GR.take j).length ((GR.take j).map (Value.int .i64))) ∧ Aside0 (Below w4.heap.size w4 wr)) (fun _ s65 _ => WH.length - (intOf s65).toNat)
        case atStart => exact ⟨0, rfl, Nat.zero_le _, ⟨World.ownsRow_nil _ _ _ _⟩, ⟨Below.refl _ _⟩⟩
        case round =>
          obtain ⟨j, rfl, hj, HL, HBi⟩ := hrel
          clear hcx
          have hgl := HGL.out
          have htl : (GR.take j).length = j := by rw [List.length_take]; omega
          have hwl1 := HWL1.out
          have hbi := HBi.out.size
          by_cases hjl : j < WH.length
          · obtain ⟨b0, o0, u0, hbo, _, _, hcj, rfl, _⟩ := (HG4.out.below reads_int HBi.out).at_ j hjl
            cases hbo
            obtain ⟨t, ht, htk⟩ := HWI.out j hjl
            have htr : t < rs.length := by rw [HNR.out]; rw [HN.out] at htk; exact htk
            have GJ := Aside0.mk (GS.out j t hjl ht)
            rw [HVA.out t htr] at GJ
            rw [ht] at hcj
            have h63 := Aside0.mk (show (GR.take j).length + 1 ≤ maxLen by unfold maxLen; omega)
            have hby := Aside0.mk (show ((GR.take j).length + 1) * 8 ≤ 140737488355328 by omega)
            have hrow := HRL.out t htr
            have RT := Aside0.mk (row_any wr _ _ W rs rs[t] t (S4.out.below HBi.out) (List.getElem?_eq_getElem htr))
            have hcN : cN < rs[t].length := by omega
            have hge : rs[t].getD (cN : Int).toNat 0 = rs[t][cN] := by simp [hcN]
            rw [hge] at GJ
            obtain ⟨z, hz⟩ : ∃ z, rs[t][cN] = z := ⟨_, rfl⟩
            rw [hz] at GJ
            have HZ := Aside0.mk (fun w2 rv (hr : RowAt w2 (wr.heap.size ≤ ·) rv rs[t]) => hr.form)
            have HZ2 := Aside0.mk (fun w2 A n c (hr : RowAt w2 (wr.heap.size ≤ ·) (.slice A n c) rs[t]) => by have h9 := hr.at_ cN hcN; rw [hz] at h9; exact h9)
            generalize rs[t] = rt at *
            clear hge hz htr htk ht
            go_wp2_with fail
            refine (RT.out).mono ?_
            rintro e w9 ⟨rv, rfl, HR9, B9⟩
            obtain ⟨A9, c9, h9, _⟩ := HZ.out w9 rv HR9
            subst h9
            obtain ⟨b9, o9, u9, rfl, _, _, hc9, rfl, _⟩ := HZ2.out w9 _ _ _ HR9
            have HL9 := Aside0.mk ((Stays.of_below B9 (fun _ => True)).owns HL.out (fun _ _ => trivial))
            have HB9 := Aside0.mk (below_trans0 HBi.out B9)
            have hb9 := HB9.out.size
            have hsz := Aside0.mk (fun o => (show w4.heap.size ≤ (w9.alloc o).heap.size by simp; omega))
            clear RT HZ HZ2 HR9 B9 HL
            go_wp2_with (at_builtin; refine wpList_append_own_at _ rfl (.tmp 77) (.tmp 79) 24 rfl w4.heap.size 2 iw (.int .i64 0) 1 8 Try.underlying24 hiw hw0 hw1 hw2 rfl (by decide) _ _ _ rfl (HL9.out.alloc _) ⟨w9.heap.size, 0, none⟩ 1 1 [Value.int .i64 z] rfl rfl (cell_one_new _ _ _) (by simp [Value.oneCell']) h63.out hby.out (hsz.out _) ?_; intro v1 w10 ho hg _ hb; have O1 := Aside0.mk ho; have G1 := Aside0.mk hg; clear ho hg hb)
            go_roundw
            case rel => exact ⟨j + 1, by go_num, by omega, ⟨by rw [GJ.out]; simpa using O1.out⟩, ⟨(below_alloc HB9.out hb9 _).grown G1.out (by simp; omega) (own_below HL9.out)⟩⟩
            case measure => simp [intOf]; omega
          · obtain rfl : j = WH.length := by omega
            have hgt : GR.take WH.length = GR := by rw [← hgl, List.take_length]
            rw [hgt] at HL
            have RG := RowAt.of_own HL.out (by omega) HGI.out
            obtain ⟨AG, cG, hag, _⟩ := RG.form
            subst hag
            have am := aggmake_any wr _ a _ GR RG (by omega)
            rw [hgl] at am
            have AM := Aside0.mk am
            clear am
            have BW := B34.out.trans (HBi.out.mono h24)
            have hMI := madeV_in64 a GR HGI.out (by omega)
            obtain ⟨mv, hmv⟩ : ∃ mv, madeV a GR = mv := ⟨_, rfl⟩
            obtain ⟨mb, hmb⟩ : ∃ mb, madeB a GR = mb := ⟨_, rfl⟩
            rw [hmv] at OR hMI AM
            rw [hmb] at AM KY KB
            clear hmv hmb hgt RG
            cases mb with
            | false =>
              have KB := KB.out rfl
              have BF := Aside0.mk (show GRes w wr (.pointer none) false KS vs a from ⟨B1.out.trans ((HB4.out.trans (HBi.out.mono h14)).mono B1.out.size), .inr ⟨rfl, KB, rfl⟩⟩)
              clear KB KY OY
              go_wp2_with fail
              refine (AM.out).mono ?_
              rintro e w' ⟨rfl, rfl⟩
              go_wp2
              go_ret2
              exact ⟨_, _, rfl, BF.out⟩
            | true =>
              have KY1 := Aside0.mk (KY.out rfl)
              clear KY
              have hKi := (Stays.of_below HBi.out (fun _ => True)).owns HK4.out (fun _ _ => trivial)
              have HKi := Aside0.mk hKi
              have hl3 := HL3.out
              have h63 := Aside0.mk (show KI.length + 1 ≤ maxLen by unfold maxLen; omega)
              have hby := Aside0.mk (show (KI.length + 1) * 8 ≤ 140737488355328 by omega)
              have h63b := Aside0.mk (show (outs KS vs a i).length + 1 ≤ maxLen by unfold maxLen; omega)
              have hbyb := Aside0.mk (show ((outs KS vs a i).length + 1) * 24 ≤ 140737488355328 by omega)
              have hww := BW.size
              have hsz := Aside0.mk (fun o => (show w2.heap.size ≤ (wr.alloc o).heap.size by simp; omega))
              have HMI := Aside0.mk hMI
              have BWA := Aside0.mk BW
              have BH := Aside0.mk (HB4.out.trans (HBi.out.mono h14))
              clear BW hMI hKi KB
              go_wp2_with fail
              refine (AM.out).mono ?_
              rintro e w' ⟨rfl, rfl⟩
              clear AM
              go_wp2_with (first | (at_builtin; refine wpList_append_own_at _ rfl (.tmp 91) (.tmp 93) 24 rfl w2.heap.size 2 iw (.int .i64 0) 1 8 Try.underlying24 hiw hw0 hw1 hw2 rfl (by decide) _ _ _ rfl (HKi.out.alloc _) ⟨wr.heap.size, 0, none⟩ 1 1 [Value.int .i64 mv] rfl rfl (cell_one_new _ _ _) (by simp [Value.oneCell']) h63.out hby.out (hsz.out _) ?_; intro v5 w5 ho hg _ hb; obtain ⟨b5, c5, rfl⟩ := own_some ho; have O1 := Aside0.mk ho; have G1 := Aside0.mk hg; clear ho hg hb; have BW5 := Aside0.mk ((below_alloc BWA.out hww (.cells #[.int .i64 mv] 2)).grown G1.out (by simp; omega) (own_below HKi.out)); have h5s := BW5.out.size; have HO5 := Aside0.mk (HO2.out.stays reads_row (Stays.of_belowB BW5.out) (fun k hk _ => hk.2) (fun k hk => HLT.out k hk)); have hsz5 := Aside0.mk (fun o => (show w1.heap.size ≤ (w5.alloc o).heap.size by simp; omega)); clear hww) | (at_builtin; refine wpList_append_own_at _ rfl (.tmp 90) (.tmp 95) 22 rfl w1.heap.size 24 ir (.slice none 0 0) 1 24 Try.underlying22 hir hr0 hr1 hr2 rfl (by decide) _ _ _ rfl (HO5.out.own.alloc _) ⟨w5.heap.size, 0, none⟩ 1 1 [Value.slice (some ⟨b5, 0, none⟩) (KI.length + 1) c5] rfl rfl (cell_one_new _ _ _) (by simp [Value.oneCell']) h63b.out hbyb.out (hsz5.out _) ?_; intro v6 w6 ho hg _ hb; have O6 := Aside0.mk ho; have G6 := Aside0.mk hg; have HB6 := Aside0.mk hb; clear ho hg hb))
              go_roundw
              case rel =>
                have R5 : RowAt w5 (w2.heap.size ≤ ·) (.slice (some ⟨b5, 0, none⟩) (KI.length + 1) c5) (KI ++ [mv]) := RowAt.of_own' O1.out (by simp) (by simp) (by simp; omega) (fun z hz => by rcases List.mem_append.1 hz with hz | hz; exact HI3.out z hz; rw [List.mem_singleton.1 hz]; exact HMI.out)
                have hP := BuiltBy.pushV reads_row (x := KI ++ [mv]) (⟨HO5.out.own, fun j hj z hz => reads_row.mono (HO5.out.el j hj z hz) (fun k hk _ => hk.1)⟩ : BuiltBy RowAt w5 w1.heap.size 24 (Off u11) u11 (outs KS vs a i) cs) (reads_row.mono R5 (fun k hk _ e => by have := HLT.out k e; omega)) O6.out G6.out HB6.out
                refine ⟨i + 1, _, by go_num, by omega, by rw [WS.out]; simp, KY1, ⟨by rw [OY.out, OR.out]; exact hP⟩, ⟨?_⟩⟩
                have hbs := BH.out.size
                have b5 : Below w1.heap.size w1 w5 := (below_alloc BH.out hbs _).grown G1.out (by simp; omega) (fun k hk => Nat.le_trans h12 (own_below HKi.out k hk))
                exact (b5.alloc (by omega) _).grown G6.out (by simp; omega) (own_below HO5.out.own)
              case measure => simp [intOf]; omega
    · obtain rfl : i = N := by omega
      have hol := outs_length KS vs a i
      have hwd := HWD.out i
      obtain ⟨wd, hwde⟩ : ∃ wd, wdAt KS i = wd := ⟨_, rfl⟩
      have RO : RowsAt wr (fun _ => True) u11 (outs KS vs a i) := SlAt.of_own0 HO.out.own rfl (fun _ _ _ => trivial) (by omega) (fun j hj z hz => reads_row.mono (HO.out.el j hj z hz) (fun _ _ _ => trivial))
      have MK := Aside0.mk (make_any wr _ _ (wdAt KS i) _ RO (by omega) (by omega))
      have BF := Aside0.mk (fun w' v (hb : Below wr.heap.size wr w') (hs : SegAt w' (wr.heap.size ≤ ·) v (wdAt KS i) (norm (wdAt KS i) (outs KS vs a i))) => show GRes w w' v true KS vs a from ⟨below_trans0 (below_trans0 B1.out HB.out) hb, .inl ⟨rfl, by rw [HN.out]; exact HOK.out, by rw [HN.out]; exact hs.mono (fun k hk _ => Nat.le_trans (below_trans0 B1.out HB.out).size hk)⟩⟩)
      rw [hwde] at MK BF
      simp only [hwde]
      clear RO hol hwd hwde HO HB
      go_wp2_with fail
      refine (MK.out).mono ?_
      rintro e w' ⟨v, rfl, SS', BB⟩
      have GF := Aside0.mk (BF.out w' v BB SS')
      clear BF SS' BB MK
      go_wp2
      go_ret2
      exact ⟨_, _, rfl, GF.out⟩
end Go.Proofs.Ytihilledbnnniaa.Sg
