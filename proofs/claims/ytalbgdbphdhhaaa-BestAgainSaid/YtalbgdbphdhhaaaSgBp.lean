/- BestAgain: what is there already comes in no more. The walk. -/
import Derived.Test.YtalbgdbphdhhaaaSgBo
import Derived.Test.YtalbgdbphdhhaaaSgBi
import Derived.Test.YtalbgdbphdhhaaaSgRe
import Derived.Test.YtalbgdbphdhhaaaSgL
namespace Go.Proofs.Ytalbgdbphdhhaaa.Sg
open Go.RowKit Go.Shelf
set_option linter.unusedVariables false
set_option linter.unusedSimpArgs false

theorem norm_in64 {n : Nat} {rs : List Row} (h : ∀ r ∈ rs, ∀ x ∈ r, In64 x) : ∀ r ∈ norm n rs, r.length = n ∧ ∀ x ∈ r, In64 x := fun r hr => by
  rw [mem_norm] at hr
  exact ⟨hr.2, h r hr.1⟩
theorem norm_len_le (n : Nat) (rs : List Row) : (norm n rs).length ≤ rs.length := norm_length n rs
/-- Away from a best's blocks. -/
def Aw (F : Nat → Prop) (w : World) (b : Nat) : Prop := ¬ F b ∧ b < w.heap.size
theorem SegAt.aw {w : World} {ok F : Nat → Prop} {v : Value} {W : Nat} {rs : List Row} (h : SegAt w ok v W rs) (ho : ∀ b, ok b → b < w.heap.size → ¬ F b) : SegAt w (Aw F w) v W rs := h.mono (fun b hb hl => ⟨ho b hb hl, hl⟩)
theorem SegAt.awKeeps {w w' : World} {F F2 : Nat → Prop} {v : Value} {W : Nat} {rs : List Row} (h : SegAt w (Aw F w) v W rs) (hk : Keeps (fun b => ¬ F b) w w') (hg : ∀ b, F2 b → F b ∨ w.heap.size ≤ b) : SegAt w' (Aw F2 w') v W rs :=
  (h.stays (hk.stays.mono (fun b hb _ => hb.1))).mono (fun b hb hl => ⟨fun hf => by
    rcases hg b hf with q | q
    · exact hb.1 q
    · have := hb.2; omega, hl⟩)
theorem SegAt.awBelow {w w' : World} {F : Nat → Prop} {v : Value} {W : Nat} {rs : List Row} (h : SegAt w (Aw F w) v W rs) (hb : Below w.heap.size w w') : SegAt w' (Aw F w') v W rs :=
  h.awKeeps (Keeps.all hb _) (fun b hf => .inl hf)
set_option maxHeartbeats 8000000 in
set_option maxRecDepth 100000 in
theorem BestAgain_walk (great : Bool) (rv : Value) (rs : List Row) (worse : Int) (w : World) (hr : RowsAt w (fun _ => True) rv rs) (hx : In64 worse) :
    Calls Try.prog 7 #[.bool great, rv, .int .i64 worse] w fun e w' => e = .returned (.bool true) ∧ Below w.heap.size w w' := by
  obtain ⟨Ar, cr, hrv, _⟩ := hr.form
  subst hrv
  have HR := Aside0.mk hr
  have HI := Aside0.mk (rows_in64 hr)
  have HX := Aside0.mk hx
  clear hr hx
  obtain ⟨b, hb⟩ : ∃ b, few rs = b := ⟨_, rfl⟩
  have HF := Aside0.mk hb
  have FW := Aside0.mk (fun W (h : RowsAt W (fun _ => True) (.slice Ar rs.length cr) rs) => few_b W _ _ rs b h hb)
  clear hb
  go_enter Try.func7, Try.ntmps7
  go_wp2_with fail
  refine (head10_any w).mono ?_
  rintro e w1 ⟨rfl, B1⟩
  have HR1 := Aside0.mk (HR.out.below reads_row B1)
  have HRO := Aside0.mk (reads_rows.mono (ok2 := (· < w1.heap.size)) HR1.out (fun b _ hl => hl))
  have B1 := Aside0.mk B1
  have FW1 := Aside0.mk (FW.out w1 HR1.out)
  clear HR FW
  go_wp2_with fail
  refine (FW1.out).mono ?_
  rintro e w' ⟨rfl, rfl⟩
  clear FW1
  cases b with
  | false =>
    go_wp2
    go_ret
    exact ⟨rfl, B1.out⟩
  | true =>
  have l1 := (few_yes HF.out).1
  obtain ⟨S, hS⟩ : ∃ S, norm 3 rs = S := ⟨_, rfl⟩
  have hSl : S.length ≤ 60 := by rw [← hS]; have := norm_len_le 3 rs; omega
  have HS64 := Aside0.mk (show ∀ r ∈ S, r.length = 3 ∧ ∀ x ∈ r, In64 x by rw [← hS]; exact norm_in64 HI.out)
  have MK := Aside0.mk (fun W (h : RowsAt W (· < w1.heap.size) (.slice Ar rs.length cr) rs) => by have h9 := make_any W _ _ 3 rs h (by omega) (by omega); rw [hS] at h9; exact h9)
  have HSS := Aside0.mk hS
  obtain ⟨R, hR⟩ : ∃ R, allB 2 great S = R := ⟨_, rfl⟩
  have KP := Aside0.mk (show Kept 2 great S R by rw [← hR]; exact kept_all 2 great S (fun r hr => (HS64.out r hr).2))
  have hRl : R.length ≤ 60 := by rw [← hR]; have := allB_len 2 great S; omega
  obtain ⟨T, hT⟩ : ∃ T, norm 3 R = T := ⟨_, rfl⟩
  have hTl : T.length ≤ 60 := by rw [← hT]; have := norm_len_le 3 R; omega
  have N1 := Aside0.mk (show norm (2 + 1) (newsA 2 great [] S) = T by rw [news_first (fun r hr => (HS64.out r hr).2), hR]; exact hT)
  have N2 := Aside0.mk (show allA 2 great R S = (R, []) from allA_same KP.out S (fun y hy _ => hy) [])
  have N3 := Aside0.mk (show allA 2 great R T = (R, []) from allA_same KP.out T (fun y hy _ => by rw [← hT, mem_norm] at hy; exact ((KP.out.mem y).1 hy.1).1) [])
  have A1 := Aside0.mk (show (allA 2 great [] S).1 = R by rw [allA_allB]; exact hR)
  have TM := Aside0.mk (show ∀ y ∈ T, y ∈ R by intro y hy; rw [← hT, mem_norm] at hy; exact hy.1)
  have E2 := Aside0.mk (show norm (2 + 1) (newsA 2 great R S) = [] by unfold newsA; rw [N2.out]; exact norm_nil _)
  have E3 := Aside0.mk (show norm (2 + 1) (newsA 2 great R T) = [] by unfold newsA; rw [N3.out]; exact norm_nil _)
  have HTT := Aside0.mk (show norm (2 + 1) R = T from hT)
  clear hS hR hT HF
  have NW1 : Calls Try.prog 11 #[.int .i64 2, .bool great] w1 _ := new_s w1 2 great (by omega)
  go_wp2_with fail
  refine NW1.mono ?_
  rintro e w2 ⟨rfl, S2, B2⟩
  have S2 := Aside0.mk S2
  have B2 := Aside0.mk B2
  clear NW1
  -- the first Add
  go_wp2_with fail
  refine (MK.out w2 (reads_rows.stays HRO.out (Stays.of_below B2.out _))).mono ?_
  rintro e w3 ⟨v3, rfl, G3, B3⟩
  have S3 := Aside0.mk (S2.out.below B3)
  have B13 := Aside0.mk (below_trans0 B2.out B3)
  have AD := Aside0.mk (add_any w3 _ _ 2 _ great [] S3.out _ v3 3 S G3.n (fun b hb hf => by have := S2.out.2 b hf; omega) (by simp; omega))
  clear S2 B3 G3
  go_wp2_with fail
  refine (AD.out).mono ?_
  rintro e w4 ⟨v4, F4, rfl, G4, S4, gr4, K4⟩
  rw [N1.out] at G4
  rw [A1.out] at S4
  have G4 := Aside0.mk (SegAt.aw G4 (F := F4) (fun b hb _ => hb.2))
  have B14 := Aside0.mk (B13.out.trans (K4.below (n := w1.heap.size) B13.out.size (fun b hb hf => by have := S3.out.ge b hf; omega)))
  have S4 := Aside0.mk S4
  have SG := Aside0.mk (bseg_any w4 _ _ 2 _ great R S4.out.1)
  rw [HTT.out] at SG
  clear AD S3 gr4 K4 N1 A1
  go_wp2_with fail
  refine (SG.out).mono ?_
  rintro e w5 ⟨v5, rfl, G5, B5⟩
  have G5 := Aside0.mk (SegAt.aw G5 (F := F4) (fun b hb _ hf => by have := S4.out.2 b hf; omega))
  have B15 := Aside0.mk (below_trans0 B14.out B5)
  have S5 := Aside0.mk (S4.out.below B5)
  have G45 := Aside0.mk (G4.out.awBelow B5)
  clear SG S4 B5 G4 B14 B13
  -- the second Add
  go_wp2_with fail
  refine (MK.out w5 (reads_rows.stays HRO.out (Stays.of_belowB B15.out))).mono ?_
  rintro e w6 ⟨v6, rfl, G6, B6⟩
  have B16 := Aside0.mk (below_trans0 B15.out B6)
  have S6 := Aside0.mk (S5.out.below B6)
  have AD := Aside0.mk (add_any w6 _ _ 2 _ great R S6.out _ v6 3 S G6.n (fun b hb hf => by have := S5.out.2 b hf; omega) (by omega))
  have G46 := Aside0.mk (G45.out.awBelow B6)
  have G56 := Aside0.mk (G5.out.awBelow B6)
  clear S5 G6 G45 G5 B6 B15
  rw [E2.out, N2.out] at AD
  go_wp2_with fail
  refine (AD.out).mono ?_
  rintro e w7 ⟨v7, F7, rfl, G7, S7, gr7, K7⟩
  have B17 := Aside0.mk (B16.out.trans (K7.below (n := w1.heap.size) B16.out.size (fun b hb hf => by have := S6.out.ge b hf; omega)))
  have G47 := Aside0.mk (G46.out.awKeeps K7 gr7)
  have G57 := Aside0.mk (G56.out.awKeeps K7 gr7)
  have G7 := Aside0.mk (SegAt.aw G7 (F := F7) (fun b hb _ => hb.2))
  have S7 := Aside0.mk S7
  have AD := Aside0.mk (add_any w7 _ _ 2 _ great R S7.out _ v5 3 T G57.out.n (fun b hb => hb.1) (by omega))
  rw [E3.out, N3.out] at AD
  clear S6 G46 G56 gr7 K7 B16 MK
  go_wp2_with fail
  refine (AD.out).mono ?_
  rintro e w8 ⟨v8, F8, rfl, G8, S8, gr8, K8⟩
  have B18 := Aside0.mk (B17.out.trans (K8.below (n := w1.heap.size) B17.out.size (fun b hb hf => by have := S7.out.ge b hf; omega)))
  have G48 := Aside0.mk (G47.out.awKeeps K8 gr8)
  have G58 := Aside0.mk (G57.out.awKeeps K8 gr8)
  have G78 := Aside0.mk (G7.out.awKeeps K8 gr8)
  have S8 := Aside0.mk S8
  have L7 := Aside0.mk (len_any w8 _ _ _ _ G78.out)
  have L8 := Aside0.mk (len_any w8 _ _ _ _ G8)
  have SG := Aside0.mk (bseg_any w8 _ _ 2 _ great R S8.out.1)
  rw [HTT.out] at SG
  clear AD S7 G47 G57 G7 gr8 K8 B17 G8 G78
  simp only [List.length_nil] at L7 L8
  go_wp2_with (first | ((with_reducible refine (L7.out).mono ?_); rintro e w' ⟨rfl, rfl⟩))
  refine (L8.out).mono ?_
  rintro e w' ⟨rfl, rfl⟩
  clear L7 L8
  go_wp2_with fail
  refine (SG.out).mono ?_
  rintro e w9 ⟨v9, rfl, G9, B9⟩
  have G59 := Aside0.mk (G58.out.awBelow B9)
  have G49 := Aside0.mk (G48.out.awBelow B9)
  have S9 := Aside0.mk (S8.out.below B9)
  have B19 := Aside0.mk (below_trans0 B18.out B9)
  have SM := Aside0.mk (same_any w9 _ _ v9 v5 3 3 T T G9.n G59.out.n)
  have SM2 := Aside0.mk (fun w' (hb : Below w9.heap.size w9 w') => same_any w' _ _ v4 v5 3 3 T T (G49.out.awBelow hb).n (G59.out.awBelow hb).n)
  simp only [decide_true] at SM SM2
  clear SG S8 G48 G58 G9 B9 B18
  go_wp2_with fail
  refine (SM.out).mono ?_
  rintro e w10 ⟨rfl, B10⟩
  go_wp2_with fail
  refine (SM2.out w10 B10).mono ?_
  rintro e w11 ⟨rfl, B11⟩
  have B911 := below_trans0 B10 B11
  have G511 := Aside0.mk (G59.out.awBelow B911)
  have S11 := Aside0.mk (S9.out.below B911)
  have B111 := Aside0.mk (below_trans0 B19.out B911)
  clear SM SM2 B10 B11 B911 G59 G49 S9 B19
  go_wp2_with fail
  go_loopw [12] (fun s12 wr => ∃ (i : Nat) (F : Nat → Prop), s12 = .int .i64 i ∧ i ≤ T.length ∧ Aside0 (BestS wr w1.heap.size (w1.heap.size + 1) F 2 great R ∧ SegAt wr (Aw F wr) v5 3 T ∧ Below w1.heap.size w1 wr)) (fun s12 _ => T.length - (intOf s12).toNat)
  case atStart => exact ⟨0, F8, rfl, Nat.zero_le _, ⟨S11.out, G511.out, B111.out⟩⟩
  case round =>
    obtain ⟨i, F, rfl, hi, HT⟩ := hrel
    have LN := Aside0.mk (len_any wr _ _ _ _ HT.out.2.1)
    clear S11 G511 B111
    by_cases hlt : i < T.length
    · have RW := Aside0.mk (row_any wr _ _ 3 T T[i] i HT.out.2.1 (List.getElem?_eq_getElem hlt))
      have hTm := List.getElem_mem hlt
      have hr3 := (HT.out.2.1.row _ hTm).1
      have hRm := TM.out _ hTm
      have PW := Aside0.mk (fun h => putX_worse KP.out hRm (c := worse) h)
      generalize T[i] = r at *
      obtain ⟨x, hx⟩ : ∃ x, r.getD 2 0 = x := ⟨_, rfl⟩
      rw [hx] at PW
      have HXE := Aside0.mk hx
      have HR3 := Aside0.mk hr3
      clear hx hr3 hTm hRm
      go_wp2_with fail
      refine (LN.out).mono ?_
      rintro e w' ⟨rfl, rfl⟩
      clear LN
      go_wp2_with fail
      refine (RW.out).mono ?_
      rintro e w2 ⟨rv2, rfl, HR2, B2⟩
      obtain ⟨A2, c2, hrf, _⟩ := HR2.form
      subst hrf
      obtain ⟨b2, o2, rfl, hn2, hc2, hcap⟩ := cell3 HR2 HR3.out
      rw [HXE.out] at hc2
      have HT2 := Aside0.mk (show BestS w2 w1.heap.size (w1.heap.size + 1) F 2 great R ∧ SegAt w2 (Aw F w2) v5 3 T ∧ Below w1.heap.size w1 w2 from ⟨HT.out.1.below B2, HT.out.2.1.awBelow B2, below_trans HT.out.2.2 B2 HT.out.2.2.size⟩)
      have HR2 := Aside0.mk (HR2.take 2 (by rw [HR3.out]; omega))
      have BT := Aside0.mk (better10_any w2 great x worse)
      have HFw := Aside0.mk (HT.out.1.2)
      rw [hn2]
      cases hbt : betterB great x worse with
      | false =>
        rw [hbt] at BT
        clear hbt PW RW HT B2
        go_wp2_with fail
        refine (BT.out).mono ?_
        rintro e w' ⟨rfl, rfl⟩
        go_wp2
        go_roundw
        case rel => exact ⟨i + 1, F, by go_num, by omega, HT2⟩
        case measure => simp [intOf]; omega
      | true =>
        rw [hbt] at BT
        have PT := Aside0.mk (put_s w2 _ _ 2 F great R HT2.out.1 (by omega) _ _ (r.take 2) HR2.out (fun b hb hf => by have := HFw.out b hf; omega) (by rw [List.length_take]; omega) worse HX.out)
        rw [PW.out hbt] at PT
        have hgeF := Aside0.mk (HT2.out.1.ge)
        clear hbt PW RW HT B2
        go_wp2_with fail
        refine (BT.out).mono ?_
        rintro e w' ⟨rfl, rfl⟩
        go_wp2_with fail
        refine (PT.out).mono ?_
        rintro e w3 ⟨rfl, hP⟩
        obtain ⟨F2, P1, P2, P3⟩ := hP
        have HT3 := Aside0.mk (show BestS w3 w1.heap.size (w1.heap.size + 1) F2 2 great R ∧ SegAt w3 (Aw F2 w3) v5 3 T ∧ Below w1.heap.size w1 w3 from ⟨P1, HT2.out.2.1.awKeeps P3 P2, HT2.out.2.2.trans (P3.below (n := w1.heap.size) HT2.out.2.2.size (fun b hb hf => by have := hgeF.out b hf; omega))⟩)
        clear P1 P2 P3 PT HT2
        go_wp2
        go_roundw
        case rel => exact ⟨i + 1, F2, by go_num, by omega, HT3⟩
        case measure => simp [intOf]; omega
    · obtain rfl : i = T.length := by omega
      have SG := Aside0.mk (bseg_any wr _ _ 2 _ great R HT.out.1.1)
      rw [HTT.out] at SG
      go_wp2_with fail
      refine (LN.out).mono ?_
      rintro e w' ⟨rfl, rfl⟩
      clear LN
      go_wp2_with fail
      refine (SG.out).mono ?_
      rintro e w9 ⟨v9, rfl, G9, B9⟩
      have SM := Aside0.mk (same_any w9 _ _ v9 v5 3 3 T T G9.n (HT.out.2.1.awBelow B9).n)
      simp only [decide_true] at SM
      have BZ := Aside0.mk (below_trans HT.out.2.2 B9 HT.out.2.2.size)
      clear SG G9 B9
      go_wp2_with fail
      refine (SM.out).mono ?_
      rintro e w10 ⟨rfl, B10⟩
      have BX := Aside0.mk (below_trans0 B1.out (below_trans BZ.out B10 BZ.out.size))
      clear SM B10
      go_wp2
      go_ret
      exact ⟨rfl, BX.out⟩
end Go.Proofs.Ytalbgdbphdhhaaa.Sg
