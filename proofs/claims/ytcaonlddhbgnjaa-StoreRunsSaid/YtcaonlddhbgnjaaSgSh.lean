/- StoreRuns: the limit of runs does not affect the results. The walk. -/
import Derived.Test.YtcaonlddhbgnjaaSgSg
namespace Go.Proofs.Ytcaonlddhbgnjaa.Mg
open Go.RowKit Go.Shelf Go.Proofs.Ytcaonlddhbgnjaa.Sg Go.Proofs.Ytcaonlddhbgnjaa.Hm Go.Proofs.Ytcaonlddhbgnjaa.Hc
set_option linter.unusedVariables false
set_option linter.unusedSimpArgs false

set_option maxHeartbeats 8000000 in
set_option maxRecDepth 100000 in
theorem StoreRuns_walk0 (x y z : Int) (lv : Value) (ls : List (List Row)) (w : World) (hx : In64 x) (hy : In64 y) (hz : In64 z) (hl : SetsAt w (fun _ => True) lv ls) :
    Calls Try.prog 5 #[.int .i64 x, .int .i64 y, .int .i64 z, lv] w fun e w' => e = .returned (.bool true) ∧ Below w.heap.size w w' := by
  obtain ⟨Al, cl, hlv, _⟩ := hl.form
  subst hlv
  have HL := Aside0.mk hl
  have HH := Aside0.mk (head11_any w)
  obtain ⟨n, hn, hmn⟩ := mod_u x 4 (by omega) (by omega)
  obtain ⟨k, hk, hmk⟩ := and_maskS y 7 (by omega)
  obtain ⟨q, hq, hmq⟩ := and_maskS z 7 (by omega)
  rw [show ((4 : Nat) : Int) = 4 from rfl] at hmn
  rw [show ((7 : Nat) : Int) = 7 from rfl] at hmk hmq
  clear hl hx hy hz
  go_enter Try.func5, Try.ntmps5
  go_wp2_with fail
  refine (HH.out).mono ?_
  rintro e w1 ⟨rfl, B1⟩
  have HL1 := Aside0.mk ((reads_sl reads_rows).mono (ok2 := (· < w1.heap.size)) (HL.out.below reads_rows B1) (fun _ _ hb => hb))
  have B1 := Aside0.mk B1
  have h01 := B1.out.size
  clear HL HH
  by_cases hlen : 12 < ls.length
  · have hli : (12 : Int) < (ls.length : Int) := by omega
    go_wp2
    go_ret
    exact ⟨rfl, B1.out⟩
  have hli : ¬ (12 : Int) < (ls.length : Int) := by omega
  have NA := Aside0.mk (snew_any n (k : Int) w1 (by omega))
  go_wp2_with fail
  refine (NA.out).mono ?_
  rintro e wa ⟨ga, da, rfl, SA, BA⟩
  have SA := Aside0.mk SA
  have BA := Aside0.mk BA
  have NB := Aside0.mk (snew_any n (q : Int) wa (by omega))
  clear NA
  go_wp2_with fail
  refine (NB.out).mono ?_
  rintro e wb ⟨gb, db, rfl, SB, BB⟩
  have SB := Aside0.mk SB
  have BB := Aside0.mk BB
  have NC := Aside0.mk (snew_any n 0 wb (by omega))
  clear NB
  go_wp2_with fail
  refine (NC.out).mono ?_
  rintro e wc ⟨gc, dc, rfl, SC, BC⟩
  have T0 := Aside0.mk (Tri.new w1.heap.size SA.out BA.out SB.out BB.out SC BC (Nat.le_refl _))
  have HBC := Aside0.mk (below_trans0 (below_trans0 BA.out BB.out) BC)
  clear NC SA SB SC BA BB BC
  go_wp2_with fail
  go_loopw [37] (fun s37 wr => ∃ (i : Nat) (a b c : St) (F : List Row), s37 = .int .i64 i ∧ i ≤ ls.length ∧ a.P.length ≤ i ∧ b.P.length ≤ i ∧ c.P.length ≤ 1 ∧ F.length ≤ 60 * i ∧ Aside0 (Tri wr w1.heap.size n k q 0 ga gb gc a b c ∧ fullS n a.P = F ∧ fullS n b.P = F ∧ fullS n c.P = F) ∧ Aside0 (Below w1.heap.size w1 wr)) (fun s37 _ => ls.length - (intOf s37).toNat)
  case atStart => exact ⟨0, _, _, _, [], rfl, Nat.zero_le _, by simp, by simp, by simp, by simp, ⟨T0.out, rfl, rfl, rfl⟩, HBC⟩
  case round =>
    obtain ⟨i, a, b, c, F, rfl, hi, hPa, hPb, hPc, hFl, HT, HB⟩ := hrel
    clear T0 HBC
    by_cases hlt : i < ls.length
    · obtain ⟨bl, ol, ul, rfl, _, _, hc1, hul⟩ := ((reads_sl reads_rows).stays HL1.out (Stays.of_belowB HB.out)).at_ i hlt
      generalize ls[i] = rs at *
      obtain ⟨Ar, cr, hrv, _⟩ := hul.form
      subst hrv
      obtain ⟨fb, hb⟩ : ∃ fb, few rs = fb := ⟨_, rfl⟩
      have HF := Aside0.mk hb
      have FW := Aside0.mk (few_b wr _ _ rs fb hul hb)
      have HR := Aside0.mk hul
      clear hb hul
      have BF := Aside0.mk (below_trans B1.out HB.out h01)
      go_wp2_with fail
      refine (FW.out).mono ?_
      rintro e w' ⟨rfl, rfl⟩
      clear FW
      cases fb with
      | false =>
        go_wp2
        go_ret
        exact ⟨rfl, BF.out⟩
      | true =>
      have l1 := (few_yes HF.out).1
      have MK := Aside0.mk (retP (make_any wr _ _ n rs HR.out (by omega) (by omega)))
      have HLL := norm_length n rs
      have HLS := SS_norm n rs
      have HLW := norm_wid n rs
      obtain ⟨L, hL⟩ : ∃ L, norm n rs = L := ⟨_, rfl⟩
      rw [hL] at MK HLL HLS HLW
      have HLS := Aside0.mk HLS
      have HLW := Aside0.mk HLW
      have hF2 := norm_length n (F ++ picked F false L)
      have hpl : (picked F false L).length ≤ L.length := picked_length _ _ _
      rw [List.length_append] at hF2
      clear hL HF HR
      go_wp2_with fail
      refine (MK.out).mono ?_
      rintro e w4 ⟨gx, rfl, X4, B4⟩
      have hb1 := HB.out.size
      have HB4 := Aside0.mk (HB.out.trans (B4.mono hb1))
      have T4 := HT.out.1.below B4
      have ST := Aside0.mk (T4.stepA (gx := gx) (X4.mono (fun y hy _ => HT.out.1.fresh hy)) HT.out.2.1 HLS.out HLW.out (by omega) (by omega) (by omega))
      obtain ⟨E, hE⟩ : ∃ E, picked F false L = E := ⟨_, rfl⟩
      obtain ⟨F', hF'⟩ : ∃ F', norm n (F ++ picked F false L) = F' := ⟨_, rfl⟩
      rw [hF'] at hF2
      rw [hE] at hpl hF2 hF'
      rw [hE, hF'] at ST
      have HE := Aside0.mk hE
      have HF' := Aside0.mk hF'
      have HFB := Aside0.mk HT.out.2.2
      clear MK X4 B4 HT HB T4 hE hF'
      go_wp2_with fail
      refine (ST.out).mono ?_
      rintro e w5 ⟨a5, rfl, T5, X5, f5, d5, p5, B5⟩
      have HB5 := Aside0.mk (HB4.out.trans B5)
      have SB := T5.stepB X5 HFB.out.1 HLS.out HLW.out (by omega) (by omega) (by omega)
      rw [HE.out, HF'.out] at SB
      have SB := Aside0.mk SB
      have A5 := Aside0.mk (And.intro f5 d5)
      clear ST T5 X5 f5 d5 B5 HB4
      go_wp2_with fail
      refine (SB.out).mono ?_
      rintro e w6 ⟨b6, rfl, T6, X6, f6, d6, p6, B6⟩
      have HB6 := Aside0.mk (HB5.out.trans B6)
      have SC := T6.stepC X6 HFB.out.2 HLS.out HLW.out (by omega) (by omega) (by omega)
      rw [HE.out, HF'.out] at SC
      have SC := Aside0.mk SC
      have A6 := Aside0.mk (And.intro f6 d6)
      clear SB T6 X6 f6 d6 B6 HB5 HFB HE HF'
      go_wp2_with fail
      refine (SC.out).mono ?_
      rintro e w7 ⟨c7, rfl, T7, X7, f7, d7, p7, B7⟩
      have HB7 := Aside0.mk (HB6.out.trans B7)
      have CC := Aside0.mk (T7.compC X7)
      have A7 := Aside0.mk (And.intro f7 d7)
      clear SC T7 X7 f7 d7 B7 HB6
      go_wp2_with fail
      refine (CC.out).mono ?_
      rintro e w8 ⟨rfl, c8, T8, f8, d8, p8, B8⟩
      have HB8 := Aside0.mk (HB7.out.trans B8)
      have FC : fullS n c8.P = F' := f8.trans A7.out.1
      have DC : c8.D = E := d8.trans A7.out.2
      have FA := A5.out.1
      have FB := A6.out.1
      have la := T8.sa.full_len
      have lb := T8.sb.full_len
      rw [FA] at la
      rw [FB] at lb
      have FU := retP (sfull_any w8 T8.sa)
      rw [FA] at FU
      have FU := Aside0.mk FU
      have T8 := Aside0.mk T8
      have AC := Aside0.mk (And.intro FC DC)
      have h8s := HB8.out.size
      clear CC A7 f8 d8 B8 HB7 FC DC FA FB
      go_wp2_with fail
      refine (FU.out).mono ?_
      rintro e w9 ⟨g9, rfl, R9, B9⟩
      have T9 := T8.out.below B9
      have HB9 := Aside0.mk (HB8.out.trans (B9.mono h8s))
      have h9s := HB9.out.size
      have FU := retP (sfull_any w9 T9.sb)
      rw [A6.out.1] at FU
      have FU := Aside0.mk FU
      have T9 := Aside0.mk T9
      have R9 := Aside0.mk R9
      clear T8 B9 HB8
      go_wp2_with fail
      refine (FU.out).mono ?_
      rintro e w10 ⟨g10, rfl, R10, B10⟩
      have T10 := Aside0.mk (T9.out.below B10)
      have HB10 := Aside0.mk (HB9.out.trans (B10.mono h9s))
      have h10s := HB10.out.size
      have SM := same_any w10 _ _ _ _ _ _ _ _ (R9.out.below B10).n R10.n
      rw [decide_eq_true rfl] at SM
      have SM := Aside0.mk SM
      clear FU T9 R9 R10 B10 HB9
      go_wp2_with fail
      refine (SM.out).mono ?_
      rintro e w11 ⟨rfl, B11⟩
      have T11 := T10.out.below B11
      have HB11 := Aside0.mk (HB10.out.trans (B11.mono h10s))
      have h11s := HB11.out.size
      have FU := retP (sfull_any w11 T11.sa)
      rw [A5.out.1] at FU
      have FU := Aside0.mk FU
      have T11 := Aside0.mk T11
      clear SM T10 B11 HB10
      go_wp2_with fail
      refine (FU.out).mono ?_
      rintro e w12 ⟨g12, rfl, R12, B12⟩
      have T12 := T11.out.below B12
      have HB12 := Aside0.mk (HB11.out.trans (B12.mono h11s))
      have h12s := HB12.out.size
      have FU := retP (sfull_any w12 T12.sc)
      rw [AC.out.1] at FU
      have FU := Aside0.mk FU
      have T12 := Aside0.mk T12
      have R12 := Aside0.mk R12
      clear T11 B12 HB11
      go_wp2_with fail
      refine (FU.out).mono ?_
      rintro e w13 ⟨g13, rfl, R13, B13⟩
      have T13 := Aside0.mk (T12.out.below B13)
      have HB13 := Aside0.mk (HB12.out.trans (B13.mono h12s))
      have h13s := HB13.out.size
      have SM := same_any w13 _ _ _ _ _ _ _ _ (R12.out.below B13).n R13.n
      rw [decide_eq_true rfl] at SM
      have SM := Aside0.mk SM
      clear FU T12 R12 R13 B13 HB12
      go_wp2_with fail
      refine (SM.out).mono ?_
      rintro e w14 ⟨rfl, B14⟩
      have T14 := T13.out.below B14
      have HB14 := Aside0.mk (HB13.out.trans (B14.mono h13s))
      have h14s := HB14.out.size
      have DA := Aside0.mk (sdelta_any w14 T14.sa)
      have DB := Aside0.mk (sdelta_any w14 T14.sb)
      have SM := same_any w14 _ _ _ _ _ _ _ _ T14.sa.del.n T14.sb.del.n
      rw [decide_eq_true (A5.out.2.trans A6.out.2.symm)] at SM
      have SM := Aside0.mk SM
      have T14 := Aside0.mk T14
      clear T13 B14 HB13
      go_wp2_with (first | (go_at_call 29; (with_reducible refine (DA.out).mono ?_); rintro e w' ⟨rfl, rfl⟩) | (go_at_call 29; (with_reducible refine (DB.out).mono ?_); rintro e w' ⟨rfl, rfl⟩))
      refine (SM.out).mono ?_
      rintro e w15 ⟨rfl, B15⟩
      have T15 := T14.out.below B15
      have HB15 := Aside0.mk (HB14.out.trans (B15.mono h14s))
      have h15s := HB15.out.size
      have DA := Aside0.mk (sdelta_any w15 T15.sa)
      have DC := Aside0.mk (sdelta_any w15 T15.sc)
      have SM := same_any w15 _ _ _ _ _ _ _ _ T15.sa.del.n T15.sc.del.n
      rw [decide_eq_true (A5.out.2.trans AC.out.2.symm)] at SM
      have SM := Aside0.mk SM
      have T15 := Aside0.mk T15
      clear T14 B15 HB14 DB
      go_wp2_with (first | (go_at_call 29; (with_reducible refine (DA.out).mono ?_); rintro e w' ⟨rfl, rfl⟩) | (go_at_call 29; (with_reducible refine (DC.out).mono ?_); rintro e w' ⟨rfl, rfl⟩))
      refine (SM.out).mono ?_
      rintro e w16 ⟨rfl, B16⟩
      have T16 := T15.out.below B16
      have HB16 := Aside0.mk (HB15.out.trans (B16.mono h15s))
      have LA := slen_any w16 T16.sa
      have LB := slen_any w16 T16.sb
      rw [← la] at LA
      rw [← lb] at LB
      have LA := Aside0.mk LA
      have LB := Aside0.mk LB
      have RC := Aside0.mk (sruns_any w16 T16.sc)
      have hrc : ¬ (1 : Int) < (c8.P.length : Int) := by omega
      have TE := Aside0.mk (And.intro T16 (And.intro A5.out.1 (And.intro A6.out.1 AC.out.1)))
      clear SM T15 B16 HB15 DA DC T16 A5 A6 AC la lb
      go_wp2_with (first | (go_at_call 30; (with_reducible refine (LA.out).mono ?_); rintro e w' ⟨rfl, rfl⟩) | (go_at_call 30; (with_reducible refine (LB.out).mono ?_); rintro e w' ⟨rfl, rfl⟩) | (go_at_call 31; (with_reducible refine (RC.out).mono ?_); rintro e w' ⟨rfl, rfl⟩))
      go_roundw
      case rel => exact ⟨i + 1, a5, b6, c8, F', by go_num, by omega, by omega, by omega, p8, by omega, TE, HB16⟩
      case measure => simp [intOf]; omega
    · obtain rfl : i = ls.length := by omega
      have BZ := Aside0.mk (below_trans B1.out HB.out h01)
      go_wp2
      go_ret
      exact ⟨rfl, BZ.out⟩
end Go.Proofs.Ytcaonlddhbgnjaa.Mg
namespace Go.Proofs.Ytcaonlddhbgnjaa.Sg
open Go.RowKit Go.Shelf
theorem StoreRuns_walk (x y z : Int) (lv : Value) (ls : List (List Row)) (w : World) (hx : In64 x) (hy : In64 y) (hz : In64 z) (hl : SetsAt w (fun _ => True) lv ls) :
    Calls Try.prog 5 #[.int .i64 x, .int .i64 y, .int .i64 z, lv] w fun e w' => e = .returned (.bool true) ∧ Below w.heap.size w w' := Go.Proofs.Ytcaonlddhbgnjaa.Mg.StoreRuns_walk0 x y z lv ls w hx hy hz hl
end Go.Proofs.Ytcaonlddhbgnjaa.Sg
