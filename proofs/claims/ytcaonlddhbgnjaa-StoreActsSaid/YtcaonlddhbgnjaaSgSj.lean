/- The store's acts: play beside plain sets; StoreActs. -/
import Derived.Test.YtcaonlddhbgnjaaSgSi
namespace Go.Proofs.Ytcaonlddhbgnjaa.Mg
open Go.RowKit Go.Shelf Go.Proofs.Ytcaonlddhbgnjaa.Sg Go.Proofs.Ytcaonlddhbgnjaa.Hm Go.Proofs.Ytcaonlddhbgnjaa.Hc
set_option linter.unusedVariables false
set_option linter.unusedSimpArgs false

theorem kind_mask (x : Int) : bits .and .i64 x 3 = 0 ∨ bits .and .i64 x 3 = 1 ∨ bits .and .i64 x 3 = 2 ∨ bits .and .i64 x 3 = 3 := by
  obtain ⟨k, hk, h⟩ := and_maskS x 3 (by omega)
  rw [show ((3 : Nat) : Int) = 3 from rfl] at h
  omega
theorem full_comp {w : World} {B g W : Nat} {O : Nat → Prop} {most : Int} {v : Value} {P P' : Made} {dp : Option Addr} {D : List Row} (S : StoreS w B O g W most v P' dp D) (C : Compacted W P P') : fullS W P' = fullS W P := by
  by_cases hp : P.length ≤ 1
  · rw [C.1 hp]
  · obtain ⟨p, hp⟩ := C.2 (by omega)
    refine SS.ext (SS_norm _ _) (SS_norm _ _) (fun r => ?_)
    rw [S.mem_full, hp]
    simp [allR]
theorem comp_len {W : Nat} {P P' : Made} (C : Compacted W P P') : (P'.length : Int) = min (P.length : Int) 1 ∧ P'.length ≤ P.length := by
  by_cases hp : P.length ≤ 1
  · rw [C.1 hp]; omega
  · obtain ⟨p, h⟩ := C.2 (by omega)
    rw [h]; simp; omega
theorem comp_tot {w w' : World} {B g W : Nat} {O O' : Nat → Prop} {most : Int} {v v' : Value} {P P' : Made} {dp dp' : Option Addr} {D D' : List Row} (S : StoreS w B O g W most v P dp D) (S' : StoreS w' B O' g W most v' P' dp' D') (h : fullS W P' = fullS W P) : (allR P').length = (allR P).length := by
  rw [← S'.full_len, ← S.full_len, h]
set_option maxHeartbeats 16000000 in
set_option maxRecDepth 100000 in
theorem play_any (w : World) (B g n : Nat) (most : Int) (dp0 : Option Addr) (av rv : Value) (acts : List (Int × List Row)) (row : Row) (hS : StoreS w B (B ≤ ·) g n most (.slice none 0 0) [] dp0 []) (hB : B ≤ w.heap.size) (hA : ActsAt w (· < B) av acts) (hf : fewA acts = true) (hR : RowAt w (· < B) rv row) :
    Calls Try.prog 35 #[.pointer (some ⟨g, 0, none⟩), .int .i64 n, .int .i64 most, av, rv] w fun e w' => e = .returned (.bool true) ∧ Below B w w' := by
  obtain ⟨Aa, ca, hav, _⟩ := hA.form
  subst hav
  obtain ⟨Ar, cr, hrv, _⟩ := hR.form
  subst hrv
  have hw := hS.wid
  have HA := Aside0.mk hA
  have HR := Aside0.mk hR
  have HS := Aside0.mk hS
  have hf2 : (acts.all fun a => few a.2) = true ∧ acts.length ≤ 12 := by
    unfold fewA at hf
    simpa using hf
  have hal := hf2.2
  have HFA := Aside0.mk hf2.1
  have MK := retP (make_any w (fun _ => True) (.slice none 0 0) n [] (SlAt.nil _ _ _ _ _ (by omega)) (by omega) (by simp))
  rw [show norm n [] = [] from rfl] at MK
  have MK := Aside0.mk MK
  clear hA hR hS hf hf2
  go_enter Try.func35, Try.ntmps35
  go_wp2_with fail
  refine (MK.out).mono ?_
  rintro e w2 ⟨gf, rfl, X2, B2⟩
  have S2 := Aside0.mk (HS.out.below B2)
  have X2 := Aside0.mk (X2.mono (ok2 := OffS g (.slice none 0 0)) (fun b hb hl => HS.out.offNew hb))
  have MK := retP (make_any w2 (fun _ => True) (.slice none 0 0) n [] (SlAt.nil _ _ _ _ _ (by omega)) (by omega) (by simp))
  rw [show norm n [] = [] from rfl] at MK
  have MK := Aside0.mk MK
  have HB2 := Aside0.mk (B2.mono hB)
  have h2s := B2.size
  clear HS B2
  go_wp2_with fail
  refine (MK.out).mono ?_
  rintro e w3 ⟨gd, rfl, Y3, B3⟩
  have S3 := Aside0.mk (S2.out.below B3)
  have X3 := Aside0.mk (X2.out.below B3)
  have Y3 := Aside0.mk (Y3.mono (ok2 := OffS g (.slice none 0 0)) (fun b hb hl => S2.out.offNew hb))
  have HB3 := Aside0.mk (HB2.out.trans (B3.mono (by omega)))
  clear MK S2 X2 HB2 B3
  go_wp2_with fail
  go_loopw [11, 12, 13, 23] (fun s11 s12 s13 s23 wr => ∃ (i gf gd : Nat) (v : Value) (P : Made) (dp : Option Addr) (D : List Row), s11 = .pointer (some ⟨gf, 0, none⟩) ∧ s12 = .pointer (some ⟨gd, 0, none⟩) ∧ s13 = .int .i64 P.length ∧ s23 = .int .i64 i ∧ i ≤ acts.length ∧ P.length ≤ i ∧ (allR P).length ≤ 60 * i ∧ Aside0 (StoreS wr B (B ≤ ·) g n most v P dp D ∧ SegAt wr (OffS g v) (.pointer (some ⟨gf, 0, none⟩)) n (fullS n P) ∧ SegAt wr (OffS g v) (.pointer (some ⟨gd, 0, none⟩)) n D) ∧ Aside0 (Below B w wr)) (fun _ _ _ s23 _ => acts.length - (intOf s23).toNat)
  case atStart => exact ⟨0, gf, gd, _, [], dp0, [], rfl, rfl, rfl, rfl, Nat.zero_le _, by simp, by simp [allR], ⟨S3.out, X3.out, Y3.out⟩, HB3⟩
  case round =>
    obtain ⟨i, gf, gd, v, P, dp, D, rfl, rfl, rfl, rfl, hi, hPi, hPl, HT, HB⟩ := hrel
    clear S3 X3 Y3 HB3
    by_cases hlt : i < acts.length
    · obtain ⟨ba, oa, u1, u2, rfl, _, _, ha1, ha2, hu1, hu2⟩ := (reads_acts.stays HA.out (Stays.of_belowB HB.out)).at_ i hlt
      obtain ⟨hu1, _⟩ := hu1
      subst hu1
      obtain ⟨Ax, cx, hu2f, _⟩ := hu2.form
      subst hu2f
      have l1 := (few_yes (List.all_eq_true.1 HFA.out acts[i] (List.getElem_mem hlt))).1
      generalize acts[i] = act at *
      obtain ⟨kd, rs⟩ := act
      simp only at ha1 ha2 hu2 l1
      have hkm := kind_mask kd
      have MK := Aside0.mk (fun W (hW : Below wr.heap.size wr W) => retP (make_any W _ _ n rs (hu2.below reads_row hW) (by omega) (by omega)))
      have HLL := norm_length n rs
      have HLS := Aside0.mk (SS_norm n rs)
      have HLW := Aside0.mk (norm_wid n rs)
      obtain ⟨L, hL⟩ : ∃ L, norm n rs = L := ⟨_, rfl⟩
      rw [hL] at MK HLL HLS HLW
      have h1s := HB.out.size
      clear hL hu2
      go_wp2_with fail
      refine (MK.out _ (below_alloc0 (Below.refl _ _) _)).mono ?_
      rintro e w4 ⟨gx, rfl, X4, B4⟩
      have ck : w4.cell? ⟨wr.heap.size, 0, none⟩ = some (.int .i64 kd) := below_cell0 B4 (by simp)
      have B4 := below_trans0 (below_alloc0 (Below.refl wr.heap.size wr) (.cells #[.int .i64 kd, .slice Ax rs.length cx] 97)) B4
      have S4 := HT.out.1.below B4
      have F4 := Aside0.mk (HT.out.2.1.below B4)
      have E4 := Aside0.mk (HT.out.2.2.below B4)
      have XB4 := Aside0.mk (show SegAt w4 (fun y => B ≤ y ∧ y ≠ g) (.pointer (some ⟨gx, 0, none⟩)) n L from X4.mono (fun y hy _ => by
        have h9 : (wr.alloc (.cells #[.int .i64 kd, .slice Ax rs.length cx] 97)).heap.size ≤ y := hy
        have h8 := HT.out.1.glt.1
        have h7 := HT.out.1.glt.2
        simp at h9
        exact ⟨by omega, by omega⟩))
      have X4 := Aside0.mk (X4.mono (ok2 := OffS g v) (fun y hy _ => HT.out.1.offNew (by
        have h9 : (wr.alloc (.cells #[.int .i64 kd, .slice Ax rs.length cx] 97)).heap.size ≤ y := hy
        simp at h9
        omega)))
      have HB4 := Aside0.mk (HB.out.trans (B4.mono (by omega)))
      have h4s := B4.size
      have hfl4 := S4.full_len
      have S4 := Aside0.mk S4
      clear MK B4 HT HB
      rcases hkm with hk | hk | hk | hk
      case inr.inr.inl =>
        have CP := Aside0.mk (scompact_any w4 S4.out (fun y hy => by omega))
        go_wp2_with fail
        refine (CP.out).mono ?_
        rintro e w5 ⟨rfl, v5, P5, S5, C5, K5, V5⟩
        have K5' : Kept w4 w5 (fun k => k = g ∨ v.ownBlock = some k) := K5.mono (fun k hk => .inl hk)
        have V5' : ∀ k, v5.ownBlock = some k → v.ownBlock = some k ∨ w4.heap.size ≤ k := fun k hk => V5.elim (fun e => .inl (by rw [← e]; exact hk)) (fun ⟨j, e1, e2⟩ => by rw [e1] at hk; exact .inr (by have := Option.some.inj hk; omega))
        have hfc := full_comp S5 C5
        have hct := comp_tot S4.out S5 hfc
        obtain ⟨hcl, hcl2⟩ := comp_len C5
        have hmin : min (P.length : Int) 1 = (P5.length : Int) := hcl.symm
        have HBT := Aside0.mk (show Below B w w5 from HB4.out.trans (S4.out.frame K5'))
        have ST := Aside0.mk (show StoreS w5 B (B ≤ ·) g n most v5 P5 _ D from S5)
        have FT := Aside0.mk (show SegAt w5 (OffS g v5) (.pointer (some ⟨gf, 0, none⟩)) n (fullS n P5) from by rw [hfc]; exact seg_beside F4.out K5' V5')
        have ET := Aside0.mk (show SegAt w5 (OffS g v5) (.pointer (some ⟨gd, 0, none⟩)) n D from seg_beside E4.out K5' V5')
        clear S5 C5 K5 V5 K5' V5' hfc S4 F4 E4 X4 XB4 HB4 CP hcl
        have hfl := ST.out.full_len
        have FU := Aside0.mk (retP (sfull_any w5 ST.out))
        have hTs := Nat.le_trans hB HBT.out.size
        go_wp2_with fail
        refine (FU.out).mono ?_
        rintro e wU ⟨gu, rfl, RU, BU⟩
        have SU := Aside0.mk (ST.out.below BU)
        have AU := Aside0.mk (FT.out.below BU)
        have EU := Aside0.mk (ET.out.below BU)
        have HBU := Aside0.mk (HBT.out.trans (BU.mono hTs))
        have hUs := Nat.le_trans hB HBU.out.size
        have SM := same_any wU _ _ _ _ _ _ _ _ RU.n AU.out.n
        rw [decide_eq_true rfl] at SM
        have SM := Aside0.mk SM
        clear FU ST FT ET RU BU HBT hTs
        go_wp2_with fail
        refine (SM.out).mono ?_
        rintro e wV ⟨rfl, BV⟩
        have SV := SU.out.below BV
        have AV := Aside0.mk (AU.out.below BV)
        have EV := Aside0.mk (EU.out.below BV)
        have HBV := Aside0.mk (HBU.out.trans (BV.mono hUs))
        have hVs := Nat.le_trans hB HBV.out.size
        have DE := Aside0.mk (sdelta_any wV SV)
        have SM := same_any wV _ _ _ _ _ _ _ _ SV.del.n EV.out.n
        rw [decide_eq_true rfl] at SM
        have SM := Aside0.mk SM
        have SV := Aside0.mk SV
        clear SU AU EU BV HBU hUs
        go_wp2_with (first | (go_at_call 29; (with_reducible refine (DE.out).mono ?_); rintro e w' ⟨rfl, rfl⟩))
        refine (SM.out).mono ?_
        rintro e wX ⟨rfl, BX⟩
        have SX := SV.out.below BX
        have AX := AV.out.below BX
        have EX := Aside0.mk (EV.out.below BX)
        have HBX := Aside0.mk (HBV.out.trans (BX.mono hVs))
        have hXs := Nat.le_trans hB HBX.out.size
        have LE := Aside0.mk (slen_any wX SX)
        have LF := len_any wX _ _ _ _ AX
        rw [hfl] at LF
        have LF := Aside0.mk LF
        have RN := sruns_any wX SX
        have RN := Aside0.mk RN
        have HRX := reads_row.mono (reads_row.stays HR.out (Stays.of_belowB HBX.out)) (ok2 := fun _ => True) (fun _ _ _ => trivial)
        have HA := Aside0.mk (shas_any wX _ _ row SX HRX)
        obtain ⟨bq, hbq⟩ : ∃ bq, inP row P5 = bq := ⟨_, rfl⟩
        have hdq : decide (row ∈ fullS n P5) = bq := by
          rw [← hbq, Bool.eq_iff_iff, decide_eq_true_iff, inP_iff]
          exact SX.mem_full row
        rw [hbq] at HA
        have SX := Aside0.mk SX
        have AX := Aside0.mk AX
        have HDQ := Aside0.mk hdq
        clear DE SM SV AV EV BX HBV hVs hbq hdq HRX
        go_wp2_with (first | (go_at_call 30; (with_reducible refine (LE.out).mono ?_); rintro e w' ⟨rfl, rfl⟩) | (go_at_call 18; (with_reducible refine (LF.out).mono ?_); rintro e w' ⟨rfl, rfl⟩) | (go_at_call 31; (with_reducible refine (RN.out).mono ?_); rintro e w' ⟨rfl, rfl⟩))
        refine (HA.out).mono ?_
        rintro e wY ⟨rfl, BY⟩
        have SY := Aside0.mk (SX.out.below BY)
        have AY := Aside0.mk (AX.out.below BY)
        have EY := Aside0.mk (EX.out.below BY)
        have HBY := Aside0.mk (HBX.out.trans (BY.mono hXs))
        have hYs := Nat.le_trans hB HBY.out.size
        have HRY := reads_row.mono (reads_row.stays HR.out (Stays.of_belowB HBY.out)) (ok2 := fun _ => True) (fun _ _ _ => trivial)
        have HA := hasN_any wY _ _ _ _ n (fullS n P5) row AY.out.n (SS_norm _ _) HRY
        rw [HDQ.out] at HA
        have HA := Aside0.mk HA
        clear LE LF RN SX AX EX BY HBX hXs HRY HDQ
        go_wp2_with fail
        refine (HA.out).mono ?_
        rintro e wZ ⟨rfl, BZ⟩
        have SZ := Aside0.mk (SY.out.below BZ)
        have AZ := Aside0.mk (AY.out.below BZ)
        have EZ := Aside0.mk (EY.out.below BZ)
        have HBZ := Aside0.mk (HBY.out.trans (BZ.mono hYs))
        clear HA SY AY EY BZ HBY hYs
        cases bq
        all_goals
          go_wp2
          go_roundw
          case rel => exact ⟨i + 1, _, _, _, P5, _, _, rfl, rfl, rfl, by go_num, by omega, by omega, by omega, ⟨SZ.out, AZ.out, EZ.out⟩, HBZ⟩
          case measure => simp [intOf]; omega
      case inr.inr.inr =>
        have AN := Aside0.mk (retP (and_any w4 _ _ _ _ _ _ _ _ X4.out.n F4.out.n (SS_norm _ _)))
        have hPK := Aside0.mk (show SS (picked (fullS n P) true L) from List.Pairwise.filter _ HLS.out)
        go_wp2_with fail
        refine (AN.out).mono ?_
        rintro e w5 ⟨gm, rfl, M5, B5⟩
        have S5 := Aside0.mk (S4.out.below B5)
        have F5 := Aside0.mk (F4.out.below B5)
        have X5 := Aside0.mk (X4.out.below B5)
        have h5s := B5.size
        have HB5 := Aside0.mk (HB4.out.trans (B5.mono (by omega)))
        have SE := Aside0.mk (sset_kept w5 S5.out (some ⟨gx, 0, none⟩) (some ⟨gm, 0, none⟩) L (picked (fullS n P) true L) (XB4.out.below B5) (M5.mono (fun y hy _ => ⟨by have h9 : w4.heap.size ≤ y := hy; omega, by have h9 : w4.heap.size ≤ y := hy; have := S4.out.glt.1; omega⟩)) HLS.out hPK.out (by omega))
        clear AN S4 F4 E4 X4 XB4 HB4 M5 B5
        go_wp2_with fail
        refine (SE.out).mono ?_
        rintro e w6 ⟨rfl, v6, S6, K6, V6⟩
        have K6' : Kept w5 w6 (fun k => k = g ∨ v.ownBlock = some k) := K6.mono (fun k hk => .inl hk)
        have V6' : ∀ k, v6.ownBlock = some k → v.ownBlock = some k ∨ w5.heap.size ≤ k := fun k hk => .inr (V6 k hk)
        obtain ⟨P6, hP6⟩ : ∃ P6 : Made, (if L = [] then [] else [(some ⟨gx, 0, none⟩, L)]) = P6 := ⟨_, rfl⟩
        rw [hP6] at S6
        have hal6 : allR P6 = L := by
          rw [← hP6]
          by_cases hL : L = []
          · rw [if_pos hL, hL]; rfl
          · rw [if_neg hL]; simp [allR]
        have hf6 : fullS n P6 = L := by unfold fullS; rw [hal6]; exact norm_self HLS.out HLW.out
        have hl6 : min (L.length : Int) 1 = (P6.length : Int) := by
          rw [← hP6]
          by_cases hL : L = []
          · rw [if_pos hL, hL]; rfl
          · rw [if_neg hL]
            have := List.length_pos_iff.2 hL
            simp
            omega
        have hl6b : P6.length ≤ 1 := by rw [← hP6]; split <;> simp
        have hl6c : (allR P6).length ≤ 60 := by rw [hal6]; omega
        have X6 := Aside0.mk (seg_beside X5.out K6' V6')
        have F6 := seg_beside F5.out K6' V6'
        have HB6 := Aside0.mk (HB5.out.trans (S5.out.frame K6'))
        have AN := Aside0.mk (retP (and_any w6 _ _ _ _ _ _ _ _ X6.out.n F6.n (SS_norm _ _)))
        have S6 := Aside0.mk S6
        have h6s := HB6.out.size
        have HF6 := Aside0.mk hf6
        clear SE S5 F5 X5 HB5 K6 V6 K6' V6' hP6 hal6 hf6 F6 hPK
        go_wp2_with fail
        refine (AN.out).mono ?_
        rintro e w7 ⟨gm2, rfl, M7, B7⟩
        have X7 := X6.out.below B7
        have LX := Aside0.mk (len_any w7 _ _ _ _ X7)
        have HBT := Aside0.mk (show Below B w w7 from HB6.out.trans (B7.mono (by omega)))
        have ST := Aside0.mk (show StoreS w7 B (B ≤ ·) g n most v6 P6 _ (picked (fullS n P) true L) from S6.out.below B7)
        have FT := Aside0.mk (show SegAt w7 (OffS g v6) (.pointer (some ⟨gx, 0, none⟩)) n (fullS n P6) from by rw [HF6.out]; exact X7)
        have ET := Aside0.mk (show SegAt w7 (OffS g v6) (.pointer (some ⟨gm2, 0, none⟩)) n (picked (fullS n P) true L) from M7.mono (fun y hy _ => S6.out.offNew hy))
        obtain ⟨E7, hE7⟩ : ∃ E7, picked (fullS n P) true L = E7 := ⟨_, rfl⟩
        rw [hE7] at ST ET
        clear AN X6 S6 HF6 HB6 M7 B7 X7 hE7
        go_wp2_with (first | (go_at_call 18; (with_reducible refine (LX.out).mono ?_); rintro e w' ⟨rfl, rfl⟩))
        have hfl := ST.out.full_len
        have FU := Aside0.mk (retP (sfull_any w7 ST.out))
        have hTs := Nat.le_trans hB HBT.out.size
        refine (FU.out).mono ?_
        rintro e wU ⟨gu, rfl, RU, BU⟩
        have SU := Aside0.mk (ST.out.below BU)
        have AU := Aside0.mk (FT.out.below BU)
        have EU := Aside0.mk (ET.out.below BU)
        have HBU := Aside0.mk (HBT.out.trans (BU.mono hTs))
        have hUs := Nat.le_trans hB HBU.out.size
        have SM := same_any wU _ _ _ _ _ _ _ _ RU.n AU.out.n
        rw [decide_eq_true rfl] at SM
        have SM := Aside0.mk SM
        clear FU ST FT ET RU BU HBT hTs
        go_wp2_with fail
        refine (SM.out).mono ?_
        rintro e wV ⟨rfl, BV⟩
        have SV := SU.out.below BV
        have AV := Aside0.mk (AU.out.below BV)
        have EV := Aside0.mk (EU.out.below BV)
        have HBV := Aside0.mk (HBU.out.trans (BV.mono hUs))
        have hVs := Nat.le_trans hB HBV.out.size
        have DE := Aside0.mk (sdelta_any wV SV)
        have SM := same_any wV _ _ _ _ _ _ _ _ SV.del.n EV.out.n
        rw [decide_eq_true rfl] at SM
        have SM := Aside0.mk SM
        have SV := Aside0.mk SV
        clear SU AU EU BV HBU hUs
        go_wp2_with (first | (go_at_call 29; (with_reducible refine (DE.out).mono ?_); rintro e w' ⟨rfl, rfl⟩))
        refine (SM.out).mono ?_
        rintro e wX ⟨rfl, BX⟩
        have SX := SV.out.below BX
        have AX := AV.out.below BX
        have EX := Aside0.mk (EV.out.below BX)
        have HBX := Aside0.mk (HBV.out.trans (BX.mono hVs))
        have hXs := Nat.le_trans hB HBX.out.size
        have LE := Aside0.mk (slen_any wX SX)
        have LF := len_any wX _ _ _ _ AX
        rw [hfl] at LF
        have LF := Aside0.mk LF
        have RN := sruns_any wX SX
        have RN := Aside0.mk RN
        have HRX := reads_row.mono (reads_row.stays HR.out (Stays.of_belowB HBX.out)) (ok2 := fun _ => True) (fun _ _ _ => trivial)
        have HA := Aside0.mk (shas_any wX _ _ row SX HRX)
        obtain ⟨bq, hbq⟩ : ∃ bq, inP row P6 = bq := ⟨_, rfl⟩
        have hdq : decide (row ∈ fullS n P6) = bq := by
          rw [← hbq, Bool.eq_iff_iff, decide_eq_true_iff, inP_iff]
          exact SX.mem_full row
        rw [hbq] at HA
        have SX := Aside0.mk SX
        have AX := Aside0.mk AX
        have HDQ := Aside0.mk hdq
        clear DE SM SV AV EV BX HBV hVs hbq hdq HRX
        go_wp2_with (first | (go_at_call 30; (with_reducible refine (LE.out).mono ?_); rintro e w' ⟨rfl, rfl⟩) | (go_at_call 18; (with_reducible refine (LF.out).mono ?_); rintro e w' ⟨rfl, rfl⟩) | (go_at_call 31; (with_reducible refine (RN.out).mono ?_); rintro e w' ⟨rfl, rfl⟩))
        refine (HA.out).mono ?_
        rintro e wY ⟨rfl, BY⟩
        have SY := Aside0.mk (SX.out.below BY)
        have AY := Aside0.mk (AX.out.below BY)
        have EY := Aside0.mk (EX.out.below BY)
        have HBY := Aside0.mk (HBX.out.trans (BY.mono hXs))
        have hYs := Nat.le_trans hB HBY.out.size
        have HRY := reads_row.mono (reads_row.stays HR.out (Stays.of_belowB HBY.out)) (ok2 := fun _ => True) (fun _ _ _ => trivial)
        have HA := hasN_any wY _ _ _ _ n (fullS n P6) row AY.out.n (SS_norm _ _) HRY
        rw [HDQ.out] at HA
        have HA := Aside0.mk HA
        clear LE LF RN SX AX EX BY HBX hXs HRY HDQ
        go_wp2_with fail
        refine (HA.out).mono ?_
        rintro e wZ ⟨rfl, BZ⟩
        have SZ := Aside0.mk (SY.out.below BZ)
        have AZ := Aside0.mk (AY.out.below BZ)
        have EZ := Aside0.mk (EY.out.below BZ)
        have HBZ := Aside0.mk (HBY.out.trans (BZ.mono hYs))
        clear HA SY AY EY BZ HBY hYs
        cases bq
        all_goals
          go_wp2
          go_roundw
          case rel => exact ⟨i + 1, _, _, _, P6, _, _, rfl, rfl, rfl, by go_num, by omega, by omega, by omega, ⟨SZ.out, AZ.out, EZ.out⟩, HBZ⟩
          case measure => simp [intOf]; omega
      all_goals
        have MI := Aside0.mk (retP (minus_any w4 _ _ _ _ _ _ _ _ X4.out.n F4.out.n (SS_norm _ _)))
        have OR := Aside0.mk (fun W (hW : Below w4.heap.size w4 W) => retP (or_any W _ _ _ _ _ _ _ _ (F4.out.below hW).n (X4.out.below hW).n (by rw [hfl4]; omega)))
        have hCE := Aside0.mk (come_eq n P L (fullS n P) HLS.out HLW.out (fun r => S4.out.mem_full r))
        have hpl : (picked (fullS n P) false L).length ≤ L.length := picked_length _ _ _
        go_wp2_with fail
        refine (MI.out).mono ?_
        rintro e w5 ⟨gm, rfl, M5, B5⟩
        have OR := OR.out w5 B5
        rw [orW_same] at OR
        have OR := Aside0.mk OR
        have S5 := S4.out.below B5
        have M5 := Aside0.mk (M5.mono (ok2 := OffS g v) (fun y hy _ => S4.out.offNew hy))
        have X5 := Aside0.mk (X4.out.below B5)
        have h5s := B5.size
        have HB5 := Aside0.mk (HB4.out.trans (B5.mono (by omega)))
        have S5 := Aside0.mk S5
        have HS4 := Aside0.mk S4.out
        clear MI S4 F4 E4 X4 XB4 HB4 B5
        go_wp2_with fail
        refine (OR.out).mono ?_
        rintro e w6 ⟨gq, rfl, R6, B6⟩
        have S6 := S5.out.below B6
        have M6 := Aside0.mk (M5.out.below B6)
        have X6 := Aside0.mk (X5.out.below B6)
        have R6 := Aside0.mk (R6.mono (ok2 := OffS g v) (fun y hy _ => S5.out.offNew hy))
        have h6s := B6.size
        have HB6 := Aside0.mk (HB5.out.trans (B6.mono (by omega)))
        have LM := len_any w6 _ _ _ _ M6.out
        have ST := sstep_any w6 _ _ _ _ S6 X6.out.n (by omega) (fun y hy => by omega) (by omega) (by omega)
        have HFS := Aside0.mk (fun (w' : World) (v' : Value) (P' : Made) (dp' : Option Addr) (D' : List Row) (h' : StoreS w' B (B ≤ ·) g n most v' P' dp' D') (hq : Stepped most P P' (norm n (comeL n P L))) => full_step HS4.out h' hq)
        rw [hCE.out] at ST HFS
        obtain ⟨E, hE⟩ : ∃ E, picked (fullS n P) false L = E := ⟨_, rfl⟩
        have HOR := Aside0.mk (show norm n (fullS n P ++ L) = norm n (fullS n P ++ E) from SS.ext (SS_norm _ _) (SS_norm _ _) fun r => by
          rw [mem_norm, mem_norm, List.mem_append, List.mem_append, ← hE]
          unfold picked
          rw [List.mem_filter]
          constructor
          · rintro ⟨h1 | h1, h2⟩
            · exact ⟨.inl h1, h2⟩
            · by_cases h3 : r ∈ fullS n P
              · exact ⟨.inl h3, h2⟩
              · exact ⟨.inr ⟨h1, by simp [h3]⟩, h2⟩
          · rintro ⟨h1 | h1, h2⟩
            · exact ⟨.inl h1, h2⟩
            · exact ⟨.inr h1.1, h2⟩)
        rw [hE] at ST HFS LM M6 hpl
        have M6 := Aside0.mk M6.out
        have ST := Aside0.mk ST
        have LM := Aside0.mk LM
        have S6 := Aside0.mk S6
        clear OR S5 M5 X5 HB5 B6 hCE HS4 hE
        by_cases hE0 : E = []
        · have hEl : ¬ (0 : Int) < (E.length : Int) := by rw [hE0]; simp
          by_cases hm0 : 0 < most
          · by_cases hm1 : most < (P.length : Int)
            · have LM := LM
              go_wp2_with (first | (go_at_call 18; (with_reducible refine (LM.out).mono ?_); rintro e w' ⟨rfl, rfl⟩))
              refine (ST.out).mono ?_
              rintro e w7 ⟨v7, P7, dp7, rfl, S7, Q7, K7, V7⟩
              have hfs := HFS.out w7 v7 P7 dp7 E S7 Q7
              have hl7 : (allR P7).length = (allR P).length + E.length := Q7.len
              have hc7 : P7.length = 1 := Q7.cnt.trans (by unfold runsN; rw [if_pos hE0, Nat.add_zero, if_pos ⟨hm0, hm1⟩])
              have HRN := Aside0.mk (show (P7.length : Int) = 1 by omega)
              have hc7b : P7.length ≤ i + 1 := by rw [hc7]; omega
              clear hc7
              have LM7 := Aside0.mk (len_any w7 _ _ _ _ (seg_beside M6.out K7 V7))
              have HBT := Aside0.mk (show Below B w w7 from HB6.out.trans (S6.out.frame K7))
              have ST := Aside0.mk (show StoreS w7 B (B ≤ ·) g n most v7 P7 _ E from S7)
              have FT := Aside0.mk (show SegAt w7 (OffS g v7) (.pointer (some ⟨gq, 0, none⟩)) n (fullS n P7) from by rw [← hfs, ← HOR.out]; exact seg_beside R6.out K7 V7)
              have ET := Aside0.mk (show SegAt w7 (OffS g v7) (.pointer (some ⟨gm, 0, none⟩)) n E from seg_beside M6.out K7 V7)
              clear S6 M6 R6 X6 HB6 LM HFS HOR S7 Q7 K7 V7 hfs
              go_wp2_with (first | (go_at_call 18; (with_reducible refine (LM7.out).mono ?_); rintro e w' ⟨rfl, rfl⟩))
              have hfl := ST.out.full_len
              have FU := Aside0.mk (retP (sfull_any w7 ST.out))
              have hTs := Nat.le_trans hB HBT.out.size
              refine (FU.out).mono ?_
              rintro e wU ⟨gu, rfl, RU, BU⟩
              have SU := Aside0.mk (ST.out.below BU)
              have AU := Aside0.mk (FT.out.below BU)
              have EU := Aside0.mk (ET.out.below BU)
              have HBU := Aside0.mk (HBT.out.trans (BU.mono hTs))
              have hUs := Nat.le_trans hB HBU.out.size
              have SM := same_any wU _ _ _ _ _ _ _ _ RU.n AU.out.n
              rw [decide_eq_true rfl] at SM
              have SM := Aside0.mk SM
              clear FU ST FT ET RU BU HBT hTs
              go_wp2_with fail
              refine (SM.out).mono ?_
              rintro e wV ⟨rfl, BV⟩
              have SV := SU.out.below BV
              have AV := Aside0.mk (AU.out.below BV)
              have EV := Aside0.mk (EU.out.below BV)
              have HBV := Aside0.mk (HBU.out.trans (BV.mono hUs))
              have hVs := Nat.le_trans hB HBV.out.size
              have DE := Aside0.mk (sdelta_any wV SV)
              have SM := same_any wV _ _ _ _ _ _ _ _ SV.del.n EV.out.n
              rw [decide_eq_true rfl] at SM
              have SM := Aside0.mk SM
              have SV := Aside0.mk SV
              clear SU AU EU BV HBU hUs
              go_wp2_with (first | (go_at_call 29; (with_reducible refine (DE.out).mono ?_); rintro e w' ⟨rfl, rfl⟩))
              refine (SM.out).mono ?_
              rintro e wX ⟨rfl, BX⟩
              have SX := SV.out.below BX
              have AX := AV.out.below BX
              have EX := Aside0.mk (EV.out.below BX)
              have HBX := Aside0.mk (HBV.out.trans (BX.mono hVs))
              have hXs := Nat.le_trans hB HBX.out.size
              have LE := Aside0.mk (slen_any wX SX)
              have LF := len_any wX _ _ _ _ AX
              rw [hfl] at LF
              have LF := Aside0.mk LF
              have RN := sruns_any wX SX
              rw [HRN.out] at RN
              have RN := Aside0.mk RN
              have HRX := reads_row.mono (reads_row.stays HR.out (Stays.of_belowB HBX.out)) (ok2 := fun _ => True) (fun _ _ _ => trivial)
              have HA := Aside0.mk (shas_any wX _ _ row SX HRX)
              obtain ⟨bq, hbq⟩ : ∃ bq, inP row P7 = bq := ⟨_, rfl⟩
              have hdq : decide (row ∈ fullS n P7) = bq := by
                rw [← hbq, Bool.eq_iff_iff, decide_eq_true_iff, inP_iff]
                exact SX.mem_full row
              rw [hbq] at HA
              have SX := Aside0.mk SX
              have AX := Aside0.mk AX
              have HDQ := Aside0.mk hdq
              clear DE SM SV AV EV BX HBV hVs hbq hdq HRX
              go_wp2_with (first | (go_at_call 30; (with_reducible refine (LE.out).mono ?_); rintro e w' ⟨rfl, rfl⟩) | (go_at_call 18; (with_reducible refine (LF.out).mono ?_); rintro e w' ⟨rfl, rfl⟩) | (go_at_call 31; (with_reducible refine (RN.out).mono ?_); rintro e w' ⟨rfl, rfl⟩))
              refine (HA.out).mono ?_
              rintro e wY ⟨rfl, BY⟩
              have SY := Aside0.mk (SX.out.below BY)
              have AY := Aside0.mk (AX.out.below BY)
              have EY := Aside0.mk (EX.out.below BY)
              have HBY := Aside0.mk (HBX.out.trans (BY.mono hXs))
              have hYs := Nat.le_trans hB HBY.out.size
              have HRY := reads_row.mono (reads_row.stays HR.out (Stays.of_belowB HBY.out)) (ok2 := fun _ => True) (fun _ _ _ => trivial)
              have HA := hasN_any wY _ _ _ _ n (fullS n P7) row AY.out.n (SS_norm _ _) HRY
              rw [HDQ.out] at HA
              have HA := Aside0.mk HA
              clear LE LF RN SX AX EX BY HBX hXs HRY HDQ
              go_wp2_with fail
              refine (HA.out).mono ?_
              rintro e wZ ⟨rfl, BZ⟩
              have SZ := Aside0.mk (SY.out.below BZ)
              have AZ := Aside0.mk (AY.out.below BZ)
              have EZ := Aside0.mk (EY.out.below BZ)
              have HBZ := Aside0.mk (HBY.out.trans (BZ.mono hYs))
              clear HA SY AY EY BZ HBY hYs
              cases bq
              all_goals
                go_wp2
                go_roundw
                case rel => exact ⟨i + 1, _, _, _, P7, _, _, rfl, rfl, by rw [HRN.out], by go_num, by omega, by omega, by omega, ⟨SZ.out, AZ.out, EZ.out⟩, HBZ⟩
                case measure => simp [intOf]; omega
            · have LM := LM
              go_wp2_with (first | (go_at_call 18; (with_reducible refine (LM.out).mono ?_); rintro e w' ⟨rfl, rfl⟩))
              refine (ST.out).mono ?_
              rintro e w7 ⟨v7, P7, dp7, rfl, S7, Q7, K7, V7⟩
              have hfs := HFS.out w7 v7 P7 dp7 E S7 Q7
              have hl7 : (allR P7).length = (allR P).length + E.length := Q7.len
              have hc7 : P7.length = P.length := Q7.cnt.trans (by unfold runsN; rw [if_pos hE0, Nat.add_zero, if_neg (fun h => by have h1 := h.1; have h2 := h.2; omega)])
              have HRN := Aside0.mk (show (P7.length : Int) = (P.length : Int) by omega)
              have hc7b : P7.length ≤ i + 1 := by rw [hc7]; omega
              clear hc7
              have LM7 := Aside0.mk (len_any w7 _ _ _ _ (seg_beside M6.out K7 V7))
              have HBT := Aside0.mk (show Below B w w7 from HB6.out.trans (S6.out.frame K7))
              have ST := Aside0.mk (show StoreS w7 B (B ≤ ·) g n most v7 P7 _ E from S7)
              have FT := Aside0.mk (show SegAt w7 (OffS g v7) (.pointer (some ⟨gq, 0, none⟩)) n (fullS n P7) from by rw [← hfs, ← HOR.out]; exact seg_beside R6.out K7 V7)
              have ET := Aside0.mk (show SegAt w7 (OffS g v7) (.pointer (some ⟨gm, 0, none⟩)) n E from seg_beside M6.out K7 V7)
              clear S6 M6 R6 X6 HB6 LM HFS HOR S7 Q7 K7 V7 hfs
              go_wp2_with (first | (go_at_call 18; (with_reducible refine (LM7.out).mono ?_); rintro e w' ⟨rfl, rfl⟩))
              have hfl := ST.out.full_len
              have FU := Aside0.mk (retP (sfull_any w7 ST.out))
              have hTs := Nat.le_trans hB HBT.out.size
              refine (FU.out).mono ?_
              rintro e wU ⟨gu, rfl, RU, BU⟩
              have SU := Aside0.mk (ST.out.below BU)
              have AU := Aside0.mk (FT.out.below BU)
              have EU := Aside0.mk (ET.out.below BU)
              have HBU := Aside0.mk (HBT.out.trans (BU.mono hTs))
              have hUs := Nat.le_trans hB HBU.out.size
              have SM := same_any wU _ _ _ _ _ _ _ _ RU.n AU.out.n
              rw [decide_eq_true rfl] at SM
              have SM := Aside0.mk SM
              clear FU ST FT ET RU BU HBT hTs
              go_wp2_with fail
              refine (SM.out).mono ?_
              rintro e wV ⟨rfl, BV⟩
              have SV := SU.out.below BV
              have AV := Aside0.mk (AU.out.below BV)
              have EV := Aside0.mk (EU.out.below BV)
              have HBV := Aside0.mk (HBU.out.trans (BV.mono hUs))
              have hVs := Nat.le_trans hB HBV.out.size
              have DE := Aside0.mk (sdelta_any wV SV)
              have SM := same_any wV _ _ _ _ _ _ _ _ SV.del.n EV.out.n
              rw [decide_eq_true rfl] at SM
              have SM := Aside0.mk SM
              have SV := Aside0.mk SV
              clear SU AU EU BV HBU hUs
              go_wp2_with (first | (go_at_call 29; (with_reducible refine (DE.out).mono ?_); rintro e w' ⟨rfl, rfl⟩))
              refine (SM.out).mono ?_
              rintro e wX ⟨rfl, BX⟩
              have SX := SV.out.below BX
              have AX := AV.out.below BX
              have EX := Aside0.mk (EV.out.below BX)
              have HBX := Aside0.mk (HBV.out.trans (BX.mono hVs))
              have hXs := Nat.le_trans hB HBX.out.size
              have LE := Aside0.mk (slen_any wX SX)
              have LF := len_any wX _ _ _ _ AX
              rw [hfl] at LF
              have LF := Aside0.mk LF
              have RN := sruns_any wX SX
              rw [HRN.out] at RN
              have RN := Aside0.mk RN
              have HRX := reads_row.mono (reads_row.stays HR.out (Stays.of_belowB HBX.out)) (ok2 := fun _ => True) (fun _ _ _ => trivial)
              have HA := Aside0.mk (shas_any wX _ _ row SX HRX)
              obtain ⟨bq, hbq⟩ : ∃ bq, inP row P7 = bq := ⟨_, rfl⟩
              have hdq : decide (row ∈ fullS n P7) = bq := by
                rw [← hbq, Bool.eq_iff_iff, decide_eq_true_iff, inP_iff]
                exact SX.mem_full row
              rw [hbq] at HA
              have SX := Aside0.mk SX
              have AX := Aside0.mk AX
              have HDQ := Aside0.mk hdq
              clear DE SM SV AV EV BX HBV hVs hbq hdq HRX
              go_wp2_with (first | (go_at_call 30; (with_reducible refine (LE.out).mono ?_); rintro e w' ⟨rfl, rfl⟩) | (go_at_call 18; (with_reducible refine (LF.out).mono ?_); rintro e w' ⟨rfl, rfl⟩) | (go_at_call 31; (with_reducible refine (RN.out).mono ?_); rintro e w' ⟨rfl, rfl⟩))
              refine (HA.out).mono ?_
              rintro e wY ⟨rfl, BY⟩
              have SY := Aside0.mk (SX.out.below BY)
              have AY := Aside0.mk (AX.out.below BY)
              have EY := Aside0.mk (EX.out.below BY)
              have HBY := Aside0.mk (HBX.out.trans (BY.mono hXs))
              have hYs := Nat.le_trans hB HBY.out.size
              have HRY := reads_row.mono (reads_row.stays HR.out (Stays.of_belowB HBY.out)) (ok2 := fun _ => True) (fun _ _ _ => trivial)
              have HA := hasN_any wY _ _ _ _ n (fullS n P7) row AY.out.n (SS_norm _ _) HRY
              rw [HDQ.out] at HA
              have HA := Aside0.mk HA
              clear LE LF RN SX AX EX BY HBX hXs HRY HDQ
              go_wp2_with fail
              refine (HA.out).mono ?_
              rintro e wZ ⟨rfl, BZ⟩
              have SZ := Aside0.mk (SY.out.below BZ)
              have AZ := Aside0.mk (AY.out.below BZ)
              have EZ := Aside0.mk (EY.out.below BZ)
              have HBZ := Aside0.mk (HBY.out.trans (BZ.mono hYs))
              clear HA SY AY EY BZ HBY hYs
              cases bq
              all_goals
                go_wp2
                go_roundw
                case rel => exact ⟨i + 1, _, _, _, P7, _, _, rfl, rfl, by rw [HRN.out], by go_num, by omega, by omega, by omega, ⟨SZ.out, AZ.out, EZ.out⟩, HBZ⟩
                case measure => simp [intOf]; omega
          · have LM := LM
            go_wp2_with (first | (go_at_call 18; (with_reducible refine (LM.out).mono ?_); rintro e w' ⟨rfl, rfl⟩))
            refine (ST.out).mono ?_
            rintro e w7 ⟨v7, P7, dp7, rfl, S7, Q7, K7, V7⟩
            have hfs := HFS.out w7 v7 P7 dp7 E S7 Q7
            have hl7 : (allR P7).length = (allR P).length + E.length := Q7.len
            have hc7 : P7.length = P.length := Q7.cnt.trans (by unfold runsN; rw [if_pos hE0, Nat.add_zero, if_neg (fun h => by have h1 := h.1; have h2 := h.2; omega)])
            have HRN := Aside0.mk (show (P7.length : Int) = (P.length : Int) by omega)
            have hc7b : P7.length ≤ i + 1 := by rw [hc7]; omega
            clear hc7
            have LM7 := Aside0.mk (len_any w7 _ _ _ _ (seg_beside M6.out K7 V7))
            have HBT := Aside0.mk (show Below B w w7 from HB6.out.trans (S6.out.frame K7))
            have ST := Aside0.mk (show StoreS w7 B (B ≤ ·) g n most v7 P7 _ E from S7)
            have FT := Aside0.mk (show SegAt w7 (OffS g v7) (.pointer (some ⟨gq, 0, none⟩)) n (fullS n P7) from by rw [← hfs, ← HOR.out]; exact seg_beside R6.out K7 V7)
            have ET := Aside0.mk (show SegAt w7 (OffS g v7) (.pointer (some ⟨gm, 0, none⟩)) n E from seg_beside M6.out K7 V7)
            clear S6 M6 R6 X6 HB6 LM HFS HOR S7 Q7 K7 V7 hfs
            go_wp2_with (first | (go_at_call 18; (with_reducible refine (LM7.out).mono ?_); rintro e w' ⟨rfl, rfl⟩))
            have hfl := ST.out.full_len
            have FU := Aside0.mk (retP (sfull_any w7 ST.out))
            have hTs := Nat.le_trans hB HBT.out.size
            refine (FU.out).mono ?_
            rintro e wU ⟨gu, rfl, RU, BU⟩
            have SU := Aside0.mk (ST.out.below BU)
            have AU := Aside0.mk (FT.out.below BU)
            have EU := Aside0.mk (ET.out.below BU)
            have HBU := Aside0.mk (HBT.out.trans (BU.mono hTs))
            have hUs := Nat.le_trans hB HBU.out.size
            have SM := same_any wU _ _ _ _ _ _ _ _ RU.n AU.out.n
            rw [decide_eq_true rfl] at SM
            have SM := Aside0.mk SM
            clear FU ST FT ET RU BU HBT hTs
            go_wp2_with fail
            refine (SM.out).mono ?_
            rintro e wV ⟨rfl, BV⟩
            have SV := SU.out.below BV
            have AV := Aside0.mk (AU.out.below BV)
            have EV := Aside0.mk (EU.out.below BV)
            have HBV := Aside0.mk (HBU.out.trans (BV.mono hUs))
            have hVs := Nat.le_trans hB HBV.out.size
            have DE := Aside0.mk (sdelta_any wV SV)
            have SM := same_any wV _ _ _ _ _ _ _ _ SV.del.n EV.out.n
            rw [decide_eq_true rfl] at SM
            have SM := Aside0.mk SM
            have SV := Aside0.mk SV
            clear SU AU EU BV HBU hUs
            go_wp2_with (first | (go_at_call 29; (with_reducible refine (DE.out).mono ?_); rintro e w' ⟨rfl, rfl⟩))
            refine (SM.out).mono ?_
            rintro e wX ⟨rfl, BX⟩
            have SX := SV.out.below BX
            have AX := AV.out.below BX
            have EX := Aside0.mk (EV.out.below BX)
            have HBX := Aside0.mk (HBV.out.trans (BX.mono hVs))
            have hXs := Nat.le_trans hB HBX.out.size
            have LE := Aside0.mk (slen_any wX SX)
            have LF := len_any wX _ _ _ _ AX
            rw [hfl] at LF
            have LF := Aside0.mk LF
            have RN := sruns_any wX SX
            rw [HRN.out] at RN
            have RN := Aside0.mk RN
            have HRX := reads_row.mono (reads_row.stays HR.out (Stays.of_belowB HBX.out)) (ok2 := fun _ => True) (fun _ _ _ => trivial)
            have HA := Aside0.mk (shas_any wX _ _ row SX HRX)
            obtain ⟨bq, hbq⟩ : ∃ bq, inP row P7 = bq := ⟨_, rfl⟩
            have hdq : decide (row ∈ fullS n P7) = bq := by
              rw [← hbq, Bool.eq_iff_iff, decide_eq_true_iff, inP_iff]
              exact SX.mem_full row
            rw [hbq] at HA
            have SX := Aside0.mk SX
            have AX := Aside0.mk AX
            have HDQ := Aside0.mk hdq
            clear DE SM SV AV EV BX HBV hVs hbq hdq HRX
            go_wp2_with (first | (go_at_call 30; (with_reducible refine (LE.out).mono ?_); rintro e w' ⟨rfl, rfl⟩) | (go_at_call 18; (with_reducible refine (LF.out).mono ?_); rintro e w' ⟨rfl, rfl⟩) | (go_at_call 31; (with_reducible refine (RN.out).mono ?_); rintro e w' ⟨rfl, rfl⟩))
            refine (HA.out).mono ?_
            rintro e wY ⟨rfl, BY⟩
            have SY := Aside0.mk (SX.out.below BY)
            have AY := Aside0.mk (AX.out.below BY)
            have EY := Aside0.mk (EX.out.below BY)
            have HBY := Aside0.mk (HBX.out.trans (BY.mono hXs))
            have hYs := Nat.le_trans hB HBY.out.size
            have HRY := reads_row.mono (reads_row.stays HR.out (Stays.of_belowB HBY.out)) (ok2 := fun _ => True) (fun _ _ _ => trivial)
            have HA := hasN_any wY _ _ _ _ n (fullS n P7) row AY.out.n (SS_norm _ _) HRY
            rw [HDQ.out] at HA
            have HA := Aside0.mk HA
            clear LE LF RN SX AX EX BY HBX hXs HRY HDQ
            go_wp2_with fail
            refine (HA.out).mono ?_
            rintro e wZ ⟨rfl, BZ⟩
            have SZ := Aside0.mk (SY.out.below BZ)
            have AZ := Aside0.mk (AY.out.below BZ)
            have EZ := Aside0.mk (EY.out.below BZ)
            have HBZ := Aside0.mk (HBY.out.trans (BZ.mono hYs))
            clear HA SY AY EY BZ HBY hYs
            cases bq
            all_goals
              go_wp2
              go_roundw
              case rel => exact ⟨i + 1, _, _, _, P7, _, _, rfl, rfl, by rw [HRN.out], by go_num, by omega, by omega, by omega, ⟨SZ.out, AZ.out, EZ.out⟩, HBZ⟩
              case measure => simp [intOf]; omega
        · have hEl : (0 : Int) < (E.length : Int) := by have := List.length_pos_iff.2 hE0; omega
          have hp1 : IntKind.i64.wrap ((P.length : Int) + 1) = (P.length : Int) + 1 := by rw [IntKind.wrap_i64]; omega
          by_cases hm0 : 0 < most
          · by_cases hm1 : most < (P.length : Int) + 1
            · have LM := LM
              go_wp2_with (first | (go_at_call 18; (with_reducible refine (LM.out).mono ?_); rintro e w' ⟨rfl, rfl⟩))
              refine (ST.out).mono ?_
              rintro e w7 ⟨v7, P7, dp7, rfl, S7, Q7, K7, V7⟩
              have hfs := HFS.out w7 v7 P7 dp7 E S7 Q7
              have hl7 : (allR P7).length = (allR P).length + E.length := Q7.len
              have hc7 : P7.length = 1 := Q7.cnt.trans (by unfold runsN; rw [if_neg hE0, if_pos ⟨hm0, by omega⟩])
              have HRN := Aside0.mk (show (P7.length : Int) = 1 by omega)
              have hc7b : P7.length ≤ i + 1 := by rw [hc7]; omega
              clear hc7
              have LM7 := Aside0.mk (len_any w7 _ _ _ _ (seg_beside M6.out K7 V7))
              have HBT := Aside0.mk (show Below B w w7 from HB6.out.trans (S6.out.frame K7))
              have ST := Aside0.mk (show StoreS w7 B (B ≤ ·) g n most v7 P7 _ E from S7)
              have FT := Aside0.mk (show SegAt w7 (OffS g v7) (.pointer (some ⟨gq, 0, none⟩)) n (fullS n P7) from by rw [← hfs, ← HOR.out]; exact seg_beside R6.out K7 V7)
              have ET := Aside0.mk (show SegAt w7 (OffS g v7) (.pointer (some ⟨gm, 0, none⟩)) n E from seg_beside M6.out K7 V7)
              clear S6 M6 R6 X6 HB6 LM HFS HOR S7 Q7 K7 V7 hfs
              go_wp2_with (first | (go_at_call 18; (with_reducible refine (LM7.out).mono ?_); rintro e w' ⟨rfl, rfl⟩))
              have hfl := ST.out.full_len
              have FU := Aside0.mk (retP (sfull_any w7 ST.out))
              have hTs := Nat.le_trans hB HBT.out.size
              refine (FU.out).mono ?_
              rintro e wU ⟨gu, rfl, RU, BU⟩
              have SU := Aside0.mk (ST.out.below BU)
              have AU := Aside0.mk (FT.out.below BU)
              have EU := Aside0.mk (ET.out.below BU)
              have HBU := Aside0.mk (HBT.out.trans (BU.mono hTs))
              have hUs := Nat.le_trans hB HBU.out.size
              have SM := same_any wU _ _ _ _ _ _ _ _ RU.n AU.out.n
              rw [decide_eq_true rfl] at SM
              have SM := Aside0.mk SM
              clear FU ST FT ET RU BU HBT hTs
              go_wp2_with fail
              refine (SM.out).mono ?_
              rintro e wV ⟨rfl, BV⟩
              have SV := SU.out.below BV
              have AV := Aside0.mk (AU.out.below BV)
              have EV := Aside0.mk (EU.out.below BV)
              have HBV := Aside0.mk (HBU.out.trans (BV.mono hUs))
              have hVs := Nat.le_trans hB HBV.out.size
              have DE := Aside0.mk (sdelta_any wV SV)
              have SM := same_any wV _ _ _ _ _ _ _ _ SV.del.n EV.out.n
              rw [decide_eq_true rfl] at SM
              have SM := Aside0.mk SM
              have SV := Aside0.mk SV
              clear SU AU EU BV HBU hUs
              go_wp2_with (first | (go_at_call 29; (with_reducible refine (DE.out).mono ?_); rintro e w' ⟨rfl, rfl⟩))
              refine (SM.out).mono ?_
              rintro e wX ⟨rfl, BX⟩
              have SX := SV.out.below BX
              have AX := AV.out.below BX
              have EX := Aside0.mk (EV.out.below BX)
              have HBX := Aside0.mk (HBV.out.trans (BX.mono hVs))
              have hXs := Nat.le_trans hB HBX.out.size
              have LE := Aside0.mk (slen_any wX SX)
              have LF := len_any wX _ _ _ _ AX
              rw [hfl] at LF
              have LF := Aside0.mk LF
              have RN := sruns_any wX SX
              rw [HRN.out] at RN
              have RN := Aside0.mk RN
              have HRX := reads_row.mono (reads_row.stays HR.out (Stays.of_belowB HBX.out)) (ok2 := fun _ => True) (fun _ _ _ => trivial)
              have HA := Aside0.mk (shas_any wX _ _ row SX HRX)
              obtain ⟨bq, hbq⟩ : ∃ bq, inP row P7 = bq := ⟨_, rfl⟩
              have hdq : decide (row ∈ fullS n P7) = bq := by
                rw [← hbq, Bool.eq_iff_iff, decide_eq_true_iff, inP_iff]
                exact SX.mem_full row
              rw [hbq] at HA
              have SX := Aside0.mk SX
              have AX := Aside0.mk AX
              have HDQ := Aside0.mk hdq
              clear DE SM SV AV EV BX HBV hVs hbq hdq HRX
              go_wp2_with (first | (go_at_call 30; (with_reducible refine (LE.out).mono ?_); rintro e w' ⟨rfl, rfl⟩) | (go_at_call 18; (with_reducible refine (LF.out).mono ?_); rintro e w' ⟨rfl, rfl⟩) | (go_at_call 31; (with_reducible refine (RN.out).mono ?_); rintro e w' ⟨rfl, rfl⟩))
              refine (HA.out).mono ?_
              rintro e wY ⟨rfl, BY⟩
              have SY := Aside0.mk (SX.out.below BY)
              have AY := Aside0.mk (AX.out.below BY)
              have EY := Aside0.mk (EX.out.below BY)
              have HBY := Aside0.mk (HBX.out.trans (BY.mono hXs))
              have hYs := Nat.le_trans hB HBY.out.size
              have HRY := reads_row.mono (reads_row.stays HR.out (Stays.of_belowB HBY.out)) (ok2 := fun _ => True) (fun _ _ _ => trivial)
              have HA := hasN_any wY _ _ _ _ n (fullS n P7) row AY.out.n (SS_norm _ _) HRY
              rw [HDQ.out] at HA
              have HA := Aside0.mk HA
              clear LE LF RN SX AX EX BY HBX hXs HRY HDQ
              go_wp2_with fail
              refine (HA.out).mono ?_
              rintro e wZ ⟨rfl, BZ⟩
              have SZ := Aside0.mk (SY.out.below BZ)
              have AZ := Aside0.mk (AY.out.below BZ)
              have EZ := Aside0.mk (EY.out.below BZ)
              have HBZ := Aside0.mk (HBY.out.trans (BZ.mono hYs))
              clear HA SY AY EY BZ HBY hYs
              cases bq
              all_goals
                go_wp2
                go_roundw
                case rel => exact ⟨i + 1, _, _, _, P7, _, _, rfl, rfl, by rw [HRN.out], by go_num, by omega, by omega, by omega, ⟨SZ.out, AZ.out, EZ.out⟩, HBZ⟩
                case measure => simp [intOf]; omega
            · have LM := LM
              go_wp2_with (first | (go_at_call 18; (with_reducible refine (LM.out).mono ?_); rintro e w' ⟨rfl, rfl⟩))
              refine (ST.out).mono ?_
              rintro e w7 ⟨v7, P7, dp7, rfl, S7, Q7, K7, V7⟩
              have hfs := HFS.out w7 v7 P7 dp7 E S7 Q7
              have hl7 : (allR P7).length = (allR P).length + E.length := Q7.len
              have hc7 : P7.length = (P.length + 1) := Q7.cnt.trans (by unfold runsN; rw [if_neg hE0, if_neg (fun h => by have h1 := h.1; have h2 := h.2; omega)])
              have HRN := Aside0.mk (show (P7.length : Int) = (P.length : Int) + 1 by omega)
              have hc7b : P7.length ≤ i + 1 := by rw [hc7]; omega
              clear hc7
              have LM7 := Aside0.mk (len_any w7 _ _ _ _ (seg_beside M6.out K7 V7))
              have HBT := Aside0.mk (show Below B w w7 from HB6.out.trans (S6.out.frame K7))
              have ST := Aside0.mk (show StoreS w7 B (B ≤ ·) g n most v7 P7 _ E from S7)
              have FT := Aside0.mk (show SegAt w7 (OffS g v7) (.pointer (some ⟨gq, 0, none⟩)) n (fullS n P7) from by rw [← hfs, ← HOR.out]; exact seg_beside R6.out K7 V7)
              have ET := Aside0.mk (show SegAt w7 (OffS g v7) (.pointer (some ⟨gm, 0, none⟩)) n E from seg_beside M6.out K7 V7)
              clear S6 M6 R6 X6 HB6 LM HFS HOR S7 Q7 K7 V7 hfs
              go_wp2_with (first | (go_at_call 18; (with_reducible refine (LM7.out).mono ?_); rintro e w' ⟨rfl, rfl⟩))
              have hfl := ST.out.full_len
              have FU := Aside0.mk (retP (sfull_any w7 ST.out))
              have hTs := Nat.le_trans hB HBT.out.size
              refine (FU.out).mono ?_
              rintro e wU ⟨gu, rfl, RU, BU⟩
              have SU := Aside0.mk (ST.out.below BU)
              have AU := Aside0.mk (FT.out.below BU)
              have EU := Aside0.mk (ET.out.below BU)
              have HBU := Aside0.mk (HBT.out.trans (BU.mono hTs))
              have hUs := Nat.le_trans hB HBU.out.size
              have SM := same_any wU _ _ _ _ _ _ _ _ RU.n AU.out.n
              rw [decide_eq_true rfl] at SM
              have SM := Aside0.mk SM
              clear FU ST FT ET RU BU HBT hTs
              go_wp2_with fail
              refine (SM.out).mono ?_
              rintro e wV ⟨rfl, BV⟩
              have SV := SU.out.below BV
              have AV := Aside0.mk (AU.out.below BV)
              have EV := Aside0.mk (EU.out.below BV)
              have HBV := Aside0.mk (HBU.out.trans (BV.mono hUs))
              have hVs := Nat.le_trans hB HBV.out.size
              have DE := Aside0.mk (sdelta_any wV SV)
              have SM := same_any wV _ _ _ _ _ _ _ _ SV.del.n EV.out.n
              rw [decide_eq_true rfl] at SM
              have SM := Aside0.mk SM
              have SV := Aside0.mk SV
              clear SU AU EU BV HBU hUs
              go_wp2_with (first | (go_at_call 29; (with_reducible refine (DE.out).mono ?_); rintro e w' ⟨rfl, rfl⟩))
              refine (SM.out).mono ?_
              rintro e wX ⟨rfl, BX⟩
              have SX := SV.out.below BX
              have AX := AV.out.below BX
              have EX := Aside0.mk (EV.out.below BX)
              have HBX := Aside0.mk (HBV.out.trans (BX.mono hVs))
              have hXs := Nat.le_trans hB HBX.out.size
              have LE := Aside0.mk (slen_any wX SX)
              have LF := len_any wX _ _ _ _ AX
              rw [hfl] at LF
              have LF := Aside0.mk LF
              have RN := sruns_any wX SX
              rw [HRN.out] at RN
              have RN := Aside0.mk RN
              have HRX := reads_row.mono (reads_row.stays HR.out (Stays.of_belowB HBX.out)) (ok2 := fun _ => True) (fun _ _ _ => trivial)
              have HA := Aside0.mk (shas_any wX _ _ row SX HRX)
              obtain ⟨bq, hbq⟩ : ∃ bq, inP row P7 = bq := ⟨_, rfl⟩
              have hdq : decide (row ∈ fullS n P7) = bq := by
                rw [← hbq, Bool.eq_iff_iff, decide_eq_true_iff, inP_iff]
                exact SX.mem_full row
              rw [hbq] at HA
              have SX := Aside0.mk SX
              have AX := Aside0.mk AX
              have HDQ := Aside0.mk hdq
              clear DE SM SV AV EV BX HBV hVs hbq hdq HRX
              go_wp2_with (first | (go_at_call 30; (with_reducible refine (LE.out).mono ?_); rintro e w' ⟨rfl, rfl⟩) | (go_at_call 18; (with_reducible refine (LF.out).mono ?_); rintro e w' ⟨rfl, rfl⟩) | (go_at_call 31; (with_reducible refine (RN.out).mono ?_); rintro e w' ⟨rfl, rfl⟩))
              refine (HA.out).mono ?_
              rintro e wY ⟨rfl, BY⟩
              have SY := Aside0.mk (SX.out.below BY)
              have AY := Aside0.mk (AX.out.below BY)
              have EY := Aside0.mk (EX.out.below BY)
              have HBY := Aside0.mk (HBX.out.trans (BY.mono hXs))
              have hYs := Nat.le_trans hB HBY.out.size
              have HRY := reads_row.mono (reads_row.stays HR.out (Stays.of_belowB HBY.out)) (ok2 := fun _ => True) (fun _ _ _ => trivial)
              have HA := hasN_any wY _ _ _ _ n (fullS n P7) row AY.out.n (SS_norm _ _) HRY
              rw [HDQ.out] at HA
              have HA := Aside0.mk HA
              clear LE LF RN SX AX EX BY HBX hXs HRY HDQ
              go_wp2_with fail
              refine (HA.out).mono ?_
              rintro e wZ ⟨rfl, BZ⟩
              have SZ := Aside0.mk (SY.out.below BZ)
              have AZ := Aside0.mk (AY.out.below BZ)
              have EZ := Aside0.mk (EY.out.below BZ)
              have HBZ := Aside0.mk (HBY.out.trans (BZ.mono hYs))
              clear HA SY AY EY BZ HBY hYs
              cases bq
              all_goals
                go_wp2
                go_roundw
                case rel => exact ⟨i + 1, _, _, _, P7, _, _, rfl, rfl, by rw [HRN.out], by go_num, by omega, by omega, by omega, ⟨SZ.out, AZ.out, EZ.out⟩, HBZ⟩
                case measure => simp [intOf]; omega
          · have LM := LM
            go_wp2_with (first | (go_at_call 18; (with_reducible refine (LM.out).mono ?_); rintro e w' ⟨rfl, rfl⟩))
            refine (ST.out).mono ?_
            rintro e w7 ⟨v7, P7, dp7, rfl, S7, Q7, K7, V7⟩
            have hfs := HFS.out w7 v7 P7 dp7 E S7 Q7
            have hl7 : (allR P7).length = (allR P).length + E.length := Q7.len
            have hc7 : P7.length = (P.length + 1) := Q7.cnt.trans (by unfold runsN; rw [if_neg hE0, if_neg (fun h => by have h1 := h.1; have h2 := h.2; omega)])
            have HRN := Aside0.mk (show (P7.length : Int) = (P.length : Int) + 1 by omega)
            have hc7b : P7.length ≤ i + 1 := by rw [hc7]; omega
            clear hc7
            have LM7 := Aside0.mk (len_any w7 _ _ _ _ (seg_beside M6.out K7 V7))
            have HBT := Aside0.mk (show Below B w w7 from HB6.out.trans (S6.out.frame K7))
            have ST := Aside0.mk (show StoreS w7 B (B ≤ ·) g n most v7 P7 _ E from S7)
            have FT := Aside0.mk (show SegAt w7 (OffS g v7) (.pointer (some ⟨gq, 0, none⟩)) n (fullS n P7) from by rw [← hfs, ← HOR.out]; exact seg_beside R6.out K7 V7)
            have ET := Aside0.mk (show SegAt w7 (OffS g v7) (.pointer (some ⟨gm, 0, none⟩)) n E from seg_beside M6.out K7 V7)
            clear S6 M6 R6 X6 HB6 LM HFS HOR S7 Q7 K7 V7 hfs
            go_wp2_with (first | (go_at_call 18; (with_reducible refine (LM7.out).mono ?_); rintro e w' ⟨rfl, rfl⟩))
            have hfl := ST.out.full_len
            have FU := Aside0.mk (retP (sfull_any w7 ST.out))
            have hTs := Nat.le_trans hB HBT.out.size
            refine (FU.out).mono ?_
            rintro e wU ⟨gu, rfl, RU, BU⟩
            have SU := Aside0.mk (ST.out.below BU)
            have AU := Aside0.mk (FT.out.below BU)
            have EU := Aside0.mk (ET.out.below BU)
            have HBU := Aside0.mk (HBT.out.trans (BU.mono hTs))
            have hUs := Nat.le_trans hB HBU.out.size
            have SM := same_any wU _ _ _ _ _ _ _ _ RU.n AU.out.n
            rw [decide_eq_true rfl] at SM
            have SM := Aside0.mk SM
            clear FU ST FT ET RU BU HBT hTs
            go_wp2_with fail
            refine (SM.out).mono ?_
            rintro e wV ⟨rfl, BV⟩
            have SV := SU.out.below BV
            have AV := Aside0.mk (AU.out.below BV)
            have EV := Aside0.mk (EU.out.below BV)
            have HBV := Aside0.mk (HBU.out.trans (BV.mono hUs))
            have hVs := Nat.le_trans hB HBV.out.size
            have DE := Aside0.mk (sdelta_any wV SV)
            have SM := same_any wV _ _ _ _ _ _ _ _ SV.del.n EV.out.n
            rw [decide_eq_true rfl] at SM
            have SM := Aside0.mk SM
            have SV := Aside0.mk SV
            clear SU AU EU BV HBU hUs
            go_wp2_with (first | (go_at_call 29; (with_reducible refine (DE.out).mono ?_); rintro e w' ⟨rfl, rfl⟩))
            refine (SM.out).mono ?_
            rintro e wX ⟨rfl, BX⟩
            have SX := SV.out.below BX
            have AX := AV.out.below BX
            have EX := Aside0.mk (EV.out.below BX)
            have HBX := Aside0.mk (HBV.out.trans (BX.mono hVs))
            have hXs := Nat.le_trans hB HBX.out.size
            have LE := Aside0.mk (slen_any wX SX)
            have LF := len_any wX _ _ _ _ AX
            rw [hfl] at LF
            have LF := Aside0.mk LF
            have RN := sruns_any wX SX
            rw [HRN.out] at RN
            have RN := Aside0.mk RN
            have HRX := reads_row.mono (reads_row.stays HR.out (Stays.of_belowB HBX.out)) (ok2 := fun _ => True) (fun _ _ _ => trivial)
            have HA := Aside0.mk (shas_any wX _ _ row SX HRX)
            obtain ⟨bq, hbq⟩ : ∃ bq, inP row P7 = bq := ⟨_, rfl⟩
            have hdq : decide (row ∈ fullS n P7) = bq := by
              rw [← hbq, Bool.eq_iff_iff, decide_eq_true_iff, inP_iff]
              exact SX.mem_full row
            rw [hbq] at HA
            have SX := Aside0.mk SX
            have AX := Aside0.mk AX
            have HDQ := Aside0.mk hdq
            clear DE SM SV AV EV BX HBV hVs hbq hdq HRX
            go_wp2_with (first | (go_at_call 30; (with_reducible refine (LE.out).mono ?_); rintro e w' ⟨rfl, rfl⟩) | (go_at_call 18; (with_reducible refine (LF.out).mono ?_); rintro e w' ⟨rfl, rfl⟩) | (go_at_call 31; (with_reducible refine (RN.out).mono ?_); rintro e w' ⟨rfl, rfl⟩))
            refine (HA.out).mono ?_
            rintro e wY ⟨rfl, BY⟩
            have SY := Aside0.mk (SX.out.below BY)
            have AY := Aside0.mk (AX.out.below BY)
            have EY := Aside0.mk (EX.out.below BY)
            have HBY := Aside0.mk (HBX.out.trans (BY.mono hXs))
            have hYs := Nat.le_trans hB HBY.out.size
            have HRY := reads_row.mono (reads_row.stays HR.out (Stays.of_belowB HBY.out)) (ok2 := fun _ => True) (fun _ _ _ => trivial)
            have HA := hasN_any wY _ _ _ _ n (fullS n P7) row AY.out.n (SS_norm _ _) HRY
            rw [HDQ.out] at HA
            have HA := Aside0.mk HA
            clear LE LF RN SX AX EX BY HBX hXs HRY HDQ
            go_wp2_with fail
            refine (HA.out).mono ?_
            rintro e wZ ⟨rfl, BZ⟩
            have SZ := Aside0.mk (SY.out.below BZ)
            have AZ := Aside0.mk (AY.out.below BZ)
            have EZ := Aside0.mk (EY.out.below BZ)
            have HBZ := Aside0.mk (HBY.out.trans (BZ.mono hYs))
            clear HA SY AY EY BZ HBY hYs
            cases bq
            all_goals
              go_wp2
              go_roundw
              case rel => exact ⟨i + 1, _, _, _, P7, _, _, rfl, rfl, by rw [HRN.out], by go_num, by omega, by omega, by omega, ⟨SZ.out, AZ.out, EZ.out⟩, HBZ⟩
              case measure => simp [intOf]; omega
    · obtain rfl : i = acts.length := by omega
      go_wp2
      go_ret
      exact ⟨rfl, HB.out⟩
end Go.Proofs.Ytcaonlddhbgnjaa.Mg
