/- StoreWidths: rows of another width do not come. The walk. -/
import Derived.Test.YtcaonlddhbgnjaaSgSd
namespace Go.Proofs.Ytcaonlddhbgnjaa.Mg
open Go.RowKit Go.Shelf Go.Proofs.Ytcaonlddhbgnjaa.Sg Go.Proofs.Ytcaonlddhbgnjaa.Hm Go.Proofs.Ytcaonlddhbgnjaa.Hc
set_option linter.unusedVariables false
set_option linter.unusedSimpArgs false

set_option maxHeartbeats 8000000 in
set_option maxRecDepth 100000 in
theorem StoreWidths_walk0 (x : Int) (rv : Value) (rs : List Row) (y : Int) (w : World) (hx : In64 x) (hr : RowsAt w (fun _ => True) rv rs) (hy : In64 y) :
    Calls Try.prog 6 #[.int .i64 x, rv, .int .i64 y] w fun e w' => e = .returned (.bool true) ∧ Below w.heap.size w w' := by
  obtain ⟨Ar, cr, hrv, _⟩ := hr.form
  subst hrv
  have HR := Aside0.mk hr
  clear hr
  obtain ⟨b, hb⟩ : ∃ b, few rs = b := ⟨_, rfl⟩
  have HF := Aside0.mk hb
  have FW := Aside0.mk (fun W (h : RowsAt W (fun _ => True) (.slice Ar rs.length cr) rs) => few_b W _ _ rs b h hb)
  have HH := Aside0.mk (head11_any w)
  obtain ⟨n, hn, hmn⟩ := mod_u x 4 (by omega) (by omega)
  obtain ⟨m, hm, hmm⟩ := mod_u y 4 (by omega) (by omega)
  rw [show ((4 : Nat) : Int) = 4 from rfl] at hmn hmm
  clear hb
  go_enter Try.func6, Try.ntmps6
  go_wp2_with fail
  refine (HH.out).mono ?_
  rintro e w1 ⟨rfl, B1⟩
  have HR1 := Aside0.mk (HR.out.below reads_row B1)
  have B1 := Aside0.mk B1
  have FW1 := Aside0.mk (FW.out w1 HR1.out)
  clear HR FW HH
  go_wp2_with fail
  refine (FW1.out).mono ?_
  rintro e w' ⟨rfl, rfl⟩
  clear FW1
  cases b with
  | false =>
    go_wp2
    go_ret
    exact ⟨rfl, B1.out⟩
  | true =>
  have l1 := (few_yes HF.out).1
  have NW := Aside0.mk (snew_any n 1 w1 (by omega))
  clear HF hx hy
  go_wp2_with fail
  refine (NW.out).mono ?_
  rintro e w2 ⟨g, dp, rfl, S2, B2⟩
  have HR2 := HR1.out.below reads_row B2
  have MK := Aside0.mk (retP (make_any w2 _ _ m rs HR2 (by omega) (by omega)))
  have HLL := norm_length m rs
  have HLW := norm_wid m rs
  have HLS := SS_norm m rs
  obtain ⟨L, hL⟩ : ∃ L, norm m rs = L := ⟨_, rfl⟩
  rw [hL] at MK HLL HLW HLS
  have HB2 := Aside0.mk (below_trans0 B1.out B2)
  have h12 := B2.size
  have h01 := B1.out.size
  have S2 := Aside0.mk S2
  have HLW := Aside0.mk HLW
  have HLS := Aside0.mk HLS
  clear NW HR1 HR2 hL B2 B1
  go_wp2_with fail
  refine (MK.out).mono ?_
  rintro e w3 ⟨gx, rfl, X3, B3⟩
  have h23 := B3.size
  have S3 := Aside0.mk (S2.out.below B3)
  have X3o := Aside0.mk (X3.mono (ok2 := OffS g (.slice none 0 0)) (fun b hb hl => S2.out.offNew hb))
  have HB3 := Aside0.mk (below_trans0 HB2.out B3)
  have ST := sstep_any w3 _ _ _ _ S3.out X3.n (by omega) (fun b hb => by omega) (by simp) (by simp [allR]; omega)
  clear S2 HB2 MK B3 X3
  obtain ⟨D1, hD1⟩ : ∃ D1, norm n (comeL n [] L) = D1 := ⟨_, rfl⟩
  rw [hD1] at ST
  have ST := Aside0.mk ST
  go_wp2_with fail
  refine (ST.out).mono ?_
  rintro e w4 ⟨v4, P4, dp4, rfl, S4, Q4, K4, V4⟩
  have HB4 := Aside0.mk (HB3.out.trans ((S3.out.frame K4).mono h01))
  have X4 := seg_beside X3o.out K4 V4
  obtain ⟨gd, rfl⟩ := S4.dptr
  have hm4 : ∀ r, r ∈ allR P4 ↔ r ∈ D1 := fun r => by rw [Q4.mem]; simp [allR]
  have hl4 : (allR P4).length = D1.length := by rw [Q4.len]; simp [allR]
  have hc4 : P4.length ≤ 1 := by rw [Q4.cnt]; unfold runsN; split <;> split <;> simp
  clear ST S3 HB3 K4 V4 X3o Q4
  by_cases hmn' : m = n
  · subst hmn'
    have hDL : D1 = L := by
      rw [← hD1, come_eq m [] L [] HLS.out HLW.out (fun r => by simp [allR])]
      unfold picked
      rw [List.filter_eq_self]
      intro r _
      simp
    subst hDL
    have ST := sstep_any w4 _ _ _ _ S4 X4.n (by omega) (fun b hb => by have := S4.glt.2; omega) (by omega) (by rw [hl4]; omega)
    rw [come_nil m P4 D1 (fun r hr _ => (hm4 r).2 hr)] at ST
    have ST := Aside0.mk ST
    have LX := Aside0.mk (len_any w4 _ _ _ _ X4)
    have S4 := Aside0.mk S4
    have X4 := Aside0.mk X4
    have HM4 := Aside0.mk hm4
    clear hm4 hD1
    go_wp2_with fail
    refine (LX.out).mono ?_
    rintro e w' ⟨rfl, rfl⟩
    go_wp2_with fail
    refine (ST.out).mono ?_
    rintro e w5 ⟨v5, P5, dp5, rfl, S5, Q5, K5, V5⟩
    have HB5 := Aside0.mk (HB4.out.trans ((S4.out.frame K5).mono h01))
    have X5 := seg_beside X4.out K5 V5
    obtain ⟨gd5, rfl⟩ := S5.dptr
    have hm5 : ∀ r, r ∈ allR P5 ↔ r ∈ D1 := fun r => by rw [Q5.mem, HM4.out]; simp
    have hc5 : P5.length ≤ 2 := by rw [Q5.cnt, if_pos rfl]; unfold runsN; split <;> omega
    have hl5 : (allR P5).length = D1.length := by rw [Q5.len, hl4]; rfl
    have hfull : fullS m P5 = D1 := SS.ext (SS_norm _ _) HLS.out (fun r => by rw [S5.mem_full, hm5])
    have DE := Aside0.mk (sdelta_any w5 S5)
    have LD := Aside0.mk (len_any w5 _ _ _ _ S5.del)
    have FU := retP (sfull_any w5 S5)
    rw [hfull] at FU
    have FU := Aside0.mk FU
    have S5 := Aside0.mk S5
    have X5 := Aside0.mk X5
    clear ST LX S4 X4 K5 V5 Q5 HM4 hm5 hfull HB4
    go_wp2_with (first | (go_at_call 29; (with_reducible refine (DE.out).mono ?_); rintro e w' ⟨rfl, rfl⟩) | (go_at_call 18; (with_reducible refine (LD.out).mono ?_); rintro e w' ⟨rfl, rfl⟩))
    refine (FU.out).mono ?_
    rintro e w6 ⟨gf, rfl, F6, B6⟩
    have S6 := Aside0.mk (S5.out.below B6)
    have SA := same_any w6 _ _ _ _ _ _ _ _ F6.n (X5.out.below B6).n
    rw [decide_eq_true rfl] at SA
    have SA := Aside0.mk SA
    have HB6 := Aside0.mk (HB5.out.trans (B6.mono HB5.out.size))
    clear DE LD FU S5 X5 F6 B6 HB5
    go_wp2_with fail
    refine (SA.out).mono ?_
    rintro e w7 ⟨rfl, B7⟩
    have S7 := S6.out.below B7
    have HB7 := Aside0.mk (HB6.out.trans (B7.mono HB6.out.size))
    have ST := sstep_any w7 (fun _ => True) none 0 [] S7 (SegN.nil _ _) (by simp) (fun b hb => by have := S7.glt.2; omega) (by omega) (by rw [hl5]; simp; omega)
    rw [come_nil m P5 [] (fun r hr => by simp at hr)] at ST
    have ST := Aside0.mk ST
    have S7 := Aside0.mk S7
    clear SA S6 HB6 B7
    go_wp2_with fail
    refine (ST.out).mono ?_
    rintro e w8 ⟨v8, P8, dp8, rfl, S8, Q8, K8, V8⟩
    have HB8 := Aside0.mk (HB7.out.trans ((S7.out.frame K8).mono h01))
    clear ST S7 S8 Q8 K8 V8 HB7
    go_wp2
    go_ret
    exact ⟨rfl, HB8.out⟩
  · have hDL : D1 = [] := by
      rw [← hD1]
      exact come_nil n [] L (fun r hr h => absurd ((HLW.out r hr).symm.trans h) hmn')
    subst hDL
    have hmni : ¬ (m : Int) = (n : Int) := by omega
    have hmnb : ((m : Int) != (n : Int)) = true := by simp; omega
    have LE := slen_any w4 S4
    rw [hl4] at LE
    have LE := Aside0.mk LE
    have FU := retP (sfull_any w4 S4)
    have hfl : (fullS n P4).length = 0 := by rw [S4.full_len, hl4]; rfl
    have S4 := Aside0.mk S4
    have FU := Aside0.mk FU
    clear hD1 hm4 hl4 X4
    go_wp2_with (first | (go_at_call 30; (with_reducible refine (LE.out).mono ?_); rintro e w' ⟨rfl, rfl⟩))
    refine (FU.out).mono ?_
    rintro e w5 ⟨gf, rfl, F5, B5⟩
    have S5 := S4.out.below B5
    have LF := len_any w5 _ _ _ _ F5
    rw [hfl] at LF
    have LF := Aside0.mk LF
    have DE := Aside0.mk (sdelta_any w5 S5)
    have LD := Aside0.mk (len_any w5 _ _ _ _ S5.del)
    have HB5 := Aside0.mk (HB4.out.trans (B5.mono HB4.out.size))
    clear LE FU S4 F5 B5 S5 HB4
    go_wp2_with (first | (go_at_call 29; (with_reducible refine (DE.out).mono ?_); rintro e w' ⟨rfl, rfl⟩) | (go_at_call 18; (with_reducible refine (LF.out).mono ?_); rintro e w' ⟨rfl, rfl⟩) | (go_at_call 18; (with_reducible refine (LD.out).mono ?_); rintro e w' ⟨rfl, rfl⟩))
    go_ret
    exact ⟨rfl, HB5.out⟩
end Go.Proofs.Ytcaonlddhbgnjaa.Mg
namespace Go.Proofs.Ytcaonlddhbgnjaa.Sg
open Go.RowKit Go.Shelf
theorem StoreWidths_walk (x : Int) (rv : Value) (rs : List Row) (y : Int) (w : World) (hx : In64 x) (hr : RowsAt w (fun _ => True) rv rs) (hy : In64 y) :
    Calls Try.prog 6 #[.int .i64 x, rv, .int .i64 y] w fun e w' => e = .returned (.bool true) ∧ Below w.heap.size w w' := Go.Proofs.Ytcaonlddhbgnjaa.Mg.StoreWidths_walk0 x rv rs y w hx hr hy
end Go.Proofs.Ytcaonlddhbgnjaa.Sg
