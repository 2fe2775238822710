/- StoreDeltas: the last rows that came, step by step. The walk. -/
import Derived.Test.YtcaonlddhbgnjaaSgSd
namespace Go.Proofs.Ytcaonlddhbgnjaa.Mg
open Go.RowKit Go.Shelf Go.Proofs.Ytcaonlddhbgnjaa.Sg Go.Proofs.Ytcaonlddhbgnjaa.Hm Go.Proofs.Ytcaonlddhbgnjaa.Hc
set_option linter.unusedVariables false
set_option linter.unusedSimpArgs false

theorem picked_none {F D : List Row} (h : ∀ r ∈ D, r ∉ F) : picked F true D = [] := by
  unfold picked
  rw [List.filter_eq_nil_iff]
  intro r hr
  simp [h r hr]
theorem orW_same (n : Nat) (a : List Row) : orW n n a = n := by unfold orW; split <;> rfl
theorem full_step {w w' : World} {B B' g g' n : Nat} {O O' : Nat → Prop} {most most' : Int} {v v' : Value} {P P' : Made} {dp dp' : Option Addr} {D D' L : List Row} (h : StoreS w B O g n most v P dp D) (h' : StoreS w' B' O' g' n most' v' P' dp' D') (hq : Stepped most' P P' (norm n L)) : norm n (fullS n P ++ norm n L) = fullS n P' :=
  SS.ext (SS_norm _ _) (SS_norm _ _) fun r => by
    rw [mem_norm, List.mem_append, h.mem_full, h'.mem_full, hq.mem]
    exact ⟨fun h9 => h9.1, fun h9 => ⟨h9, h9.elim (fun q => h.width r q) (fun q => norm_wid n L r q)⟩⟩
set_option maxHeartbeats 8000000 in
set_option maxRecDepth 100000 in
theorem StoreDeltas_walk0 (x y : Int) (lv : Value) (ls : List (List Row)) (w : World) (hx : In64 x) (hy : In64 y) (hl : SetsAt w (fun _ => True) lv ls) :
    Calls Try.prog 7 #[.int .i64 x, .int .i64 y, lv] w fun e w' => e = .returned (.bool true) ∧ Below w.heap.size w w' := by
  obtain ⟨Al, cl, hlv, _⟩ := hl.form
  subst hlv
  have HL := Aside0.mk hl
  have HH := Aside0.mk (head11_any w)
  obtain ⟨n, hn, hmn⟩ := mod_u x 4 (by omega) (by omega)
  obtain ⟨k, hk, hmk⟩ := and_maskS y 7 (by omega)
  rw [show ((4 : Nat) : Int) = 4 from rfl] at hmn
  rw [show ((7 : Nat) : Int) = 7 from rfl] at hmk
  clear hl hx hy
  go_enter Try.func7, Try.ntmps7
  go_wp2_with fail
  refine (HH.out).mono ?_
  rintro e w1 ⟨rfl, B1⟩
  have HL1 := Aside0.mk ((reads_sl reads_rows).mono (ok2 := (· < w1.heap.size)) (HL.out.below reads_rows B1) (fun _ _ hb => hb))
  have B1 := Aside0.mk B1
  have h01 := B1.out.size
  clear HL HH
  by_cases hlen : 12 < ls.length
  · have hli : (12 : Int) < (ls.length : Int) := by omega
    go_wp2
    go_ret
    exact ⟨rfl, B1.out⟩
  have hli : ¬ (12 : Int) < (ls.length : Int) := by omega
  have NW := Aside0.mk (snew_any n (k : Int) w1 (by omega))
  go_wp2_with fail
  refine (NW.out).mono ?_
  rintro e w2 ⟨g, dp, rfl, S2, B2⟩
  have MK := retP (make_any w2 (fun _ => True) (.slice none 0 0) n [] (SlAt.nil _ _ _ _ _ (by omega)) (by omega) (by simp))
  rw [show norm n [] = [] from rfl] at MK
  have MK := Aside0.mk MK
  have B2 := Aside0.mk B2
  have h12 := B2.out.size
  have S2 := Aside0.mk S2
  clear NW
  go_wp2_with fail
  refine (MK.out).mono ?_
  rintro e w3 ⟨ga, rfl, X3, B3⟩
  have HB3 := Aside0.mk (below_trans0 B2.out B3)
  have S3 := Aside0.mk (S2.out.below B3)
  have X3 := Aside0.mk (show SegAt w3 (OffS g (.slice none 0 0)) (.pointer (some ⟨ga, 0, none⟩)) n (fullS n []) from X3.mono (fun b hb hl => S2.out.offNew hb))
  clear MK S2 B2 B3
  go_wp2_with fail
  go_loopw [8, 9, 30] (fun s8 s9 s30 wr => ∃ (i ga : Nat) (v : Value) (P : Made) (dp : Option Addr) (D : List Row), s8 = .pointer (some ⟨ga, 0, none⟩) ∧ s9 = .int .i64 (allR P).length ∧ s30 = .int .i64 i ∧ i ≤ ls.length ∧ P.length ≤ i ∧ (allR P).length ≤ 60 * i ∧ Aside0 (StoreS wr w1.heap.size (w1.heap.size ≤ ·) g n k v P dp D ∧ SegAt wr (OffS g v) (.pointer (some ⟨ga, 0, none⟩)) n (fullS n P)) ∧ Aside0 (Below w1.heap.size w1 wr)) (fun _ _ s30 _ => ls.length - (intOf s30).toNat)
  case atStart => exact ⟨0, ga, _, [], dp, [], rfl, rfl, rfl, Nat.zero_le _, by simp, by simp [allR], ⟨S3.out, X3.out⟩, HB3⟩
  case round =>
    obtain ⟨i, ga, v, P, dp, D, rfl, rfl, rfl, hi, hPi, hPl, HS, HB⟩ := hrel
    clear S3 X3
    by_cases hlt : i < ls.length
    · obtain ⟨bl, ol, ul, rfl, _, _, hc1, hul⟩ := ((reads_sl reads_rows).stays HL1.out (Stays.of_belowB HB.out)).at_ i hlt
      generalize ls[i] = rs at *
      obtain ⟨Ar, cr, hrv, _⟩ := hul.form
      subst hrv
      obtain ⟨b, hb⟩ : ∃ b, few rs = b := ⟨_, rfl⟩
      have HF := Aside0.mk hb
      have FW := Aside0.mk (few_b wr _ _ rs b hul hb)
      have HR := Aside0.mk hul
      clear hb hul
      have BF := Aside0.mk (below_trans B1.out HB.out h01)
      go_wp2_with fail
      refine (FW.out).mono ?_
      rintro e w' ⟨rfl, rfl⟩
      clear FW
      cases b with
      | false =>
        go_wp2
        go_ret
        exact ⟨rfl, BF.out⟩
      | true =>
      have l1 := (few_yes HF.out).1
      have MK := Aside0.mk (retP (make_any wr _ _ n rs HR.out (by omega) (by omega)))
      have HLL := norm_length n rs
      have HLS := SS_norm n rs
      have HLW := norm_wid n rs
      obtain ⟨L, hL⟩ : ∃ L, norm n rs = L := ⟨_, rfl⟩
      rw [hL] at MK HLL HLS HLW
      have HLS := Aside0.mk HLS
      have HLW := Aside0.mk HLW
      clear hL HF HR
      go_wp2_with fail
      refine (MK.out).mono ?_
      rintro e w4 ⟨gx, rfl, X4, B4⟩
      have S4 := HS.out.1.below B4
      have A4 := HS.out.2.below B4
      have hb1 := HB.out.size
      have hb4 := B4.size
      have HB4 := Aside0.mk (HB.out.trans (B4.mono hb1))
      have ST := sstep_any w4 _ _ _ _ S4 X4.n (by omega) (fun b hb => by omega) (by omega) (by omega)
      have hDlen := come_le n P L
      have hfl0 := S4.full_len
      have hdis : ∀ r ∈ norm n (comeL n P L), r ∉ fullS n P := fun r hr hf => ((mem_come n P L r).1 hr).2.2 ((S4.mem_full r).1 hf)
      have HPN := Aside0.mk (picked_none hdis)
      have HFS := Aside0.mk (fun (w' : World) (v' : Value) (P' : Made) (dp' : Option Addr) (D' : List Row) (h' : StoreS w' w1.heap.size (w1.heap.size ≤ ·) g n k v' P' dp' D') (hq : Stepped k P P' (norm n (comeL n P L))) => full_step S4 h' hq)
      have HSD := Aside0.mk (SS_norm n (comeL n P L))
      obtain ⟨D1, hD1⟩ : ∃ D1, norm n (comeL n P L) = D1 := ⟨_, rfl⟩
      rw [hD1] at ST hDlen HPN HFS HSD
      have hsum : IntKind.i64.wrap (((allR P).length : Int) + (D1.length : Int)) = ((allR P).length : Int) + (D1.length : Int) := by rw [IntKind.wrap_i64]; omega
      have ST := Aside0.mk ST
      have S4 := Aside0.mk S4
      have A4 := Aside0.mk A4
      clear MK X4 B4 HS HB hdis hD1
      go_wp2_with fail
      refine (ST.out).mono ?_
      rintro e w5 ⟨v5, P5, dp5, rfl, S5, Q5, K5, V5⟩
      have HB5 := Aside0.mk (HB4.out.trans (S4.out.frame K5))
      have A5 := seg_beside A4.out K5 V5
      have hl5 : (allR P5).length = (allR P).length + D1.length := Q5.len
      have hc5 : P5.length ≤ P.length + 1 := by rw [Q5.cnt]; unfold runsN; split <;> split <;> omega
      have hfs := HFS.out w5 v5 P5 dp5 D1 S5 Q5
      obtain ⟨gd, rfl⟩ := S5.dptr
      have DE := Aside0.mk (sdelta_any w5 S5)
      have AN := retP (and_any w5 _ _ _ _ _ _ _ _ S5.del.n A5.n (SS_norm n (allR P)))
      rw [HPN.out] at AN
      have AN := Aside0.mk AN
      have S5 := Aside0.mk S5
      have A5 := Aside0.mk A5
      have HFS2 := Aside0.mk hfs
      have h5s := HB5.out.size
      clear ST S4 A4 K5 V5 Q5 HFS HPN HB4 hfs
      go_wp2_with (first | (go_at_call 29; (with_reducible refine (DE.out).mono ?_); rintro e w' ⟨rfl, rfl⟩))
      refine (AN.out).mono ?_
      rintro e w6 ⟨gm, rfl, M6, B6⟩
      have LM := Aside0.mk (len_any w6 _ _ _ _ M6)
      have HB6 := Aside0.mk (HB5.out.trans (B6.mono h5s))
      have S6 := Aside0.mk (S5.out.below B6)
      have A6 := Aside0.mk (A5.out.below B6)
      have OR := retP (or_any w6 _ _ _ _ _ _ _ _ A6.out.n S6.out.del.n (by omega))
      rw [orW_same, HFS2.out] at OR
      have OR := Aside0.mk OR
      have h6s := HB6.out.size
      clear AN M6 B6 S5 A5 DE HB5 HFS2
      go_wp2_with (first | (go_at_call 18; (with_reducible refine (LM.out).mono ?_); rintro e w' ⟨rfl, rfl⟩))
      refine (OR.out).mono ?_
      rintro e w7 ⟨gq, rfl, R7, B7⟩
      have HB7 := Aside0.mk (HB6.out.trans (B7.mono h6s))
      have S7 := Aside0.mk (S6.out.below B7)
      have R7 := Aside0.mk (R7.mono (ok2 := OffS g v5) (fun b hb _ => S6.out.offNew hb))
      clear OR LM S6 A6 B7 HB6
      go_wp2
      go_roundw
      case rel => exact ⟨i + 1, gq, v5, P5, _, D1, rfl, by rw [hl5]; simp, by go_num, by omega, by omega, by omega, ⟨S7.out, R7.out⟩, HB7⟩
      case measure => simp [intOf]; omega
    · obtain rfl : i = ls.length := by omega
      have FU := Aside0.mk (retP (sfull_any wr HS.out.1))
      have hfl := HS.out.1.full_len
      have h1s := HB.out.size
      go_wp2_with fail
      refine (FU.out).mono ?_
      rintro e w4 ⟨gf, rfl, F4, B4⟩
      have A4 := HS.out.2.below B4
      have S4 := HS.out.1.below B4
      have SA := same_any w4 _ _ _ _ _ _ _ _ A4.n F4.n
      rw [decide_eq_true rfl] at SA
      have SA := Aside0.mk SA
      have A4 := Aside0.mk A4
      have S4 := Aside0.mk S4
      have HB4 := Aside0.mk (HB.out.trans (B4.mono h1s))
      have h4s := HB4.out.size
      clear FU F4 B4 HS HB
      go_wp2_with fail
      refine (SA.out).mono ?_
      rintro e w5 ⟨rfl, B5⟩
      have LA := len_any w5 _ _ _ _ (A4.out.below B5)
      rw [hfl] at LA
      have LA := Aside0.mk LA
      have LE := Aside0.mk (slen_any w5 (S4.out.below B5))
      have HB5 := Aside0.mk (below_trans B1.out (HB4.out.trans (B5.mono h4s)) h01)
      clear SA A4 S4 B5 HB4
      go_wp2_with (first | (go_at_call 18; (with_reducible refine (LA.out).mono ?_); rintro e w' ⟨rfl, rfl⟩) | (go_at_call 30; (with_reducible refine (LE.out).mono ?_); rintro e w' ⟨rfl, rfl⟩))
      go_ret
      exact ⟨rfl, HB5.out⟩
end Go.Proofs.Ytcaonlddhbgnjaa.Mg
namespace Go.Proofs.Ytcaonlddhbgnjaa.Sg
open Go.RowKit Go.Shelf
theorem StoreDeltas_walk (x y : Int) (lv : Value) (ls : List (List Row)) (w : World) (hx : In64 x) (hy : In64 y) (hl : SetsAt w (fun _ => True) lv ls) :
    Calls Try.prog 7 #[.int .i64 x, .int .i64 y, lv] w fun e w' => e = .returned (.bool true) ∧ Below w.heap.size w w' := Go.Proofs.Ytcaonlddhbgnjaa.Mg.StoreDeltas_walk0 x y lv ls w hx hy hl
end Go.Proofs.Ytcaonlddhbgnjaa.Sg
