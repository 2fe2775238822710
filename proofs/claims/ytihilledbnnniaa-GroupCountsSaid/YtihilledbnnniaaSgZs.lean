/- GroupCounts: all counts together are the number of rows. The walk. -/
import Derived.Test.YtihilledbnnniaaSgZr
import Derived.Test.YtihilledbnnniaaSgL
namespace Go.Proofs.Ytihilledbnnniaa.Sg
open Go.RowKit Go.Shelf
set_option linter.unusedVariables false
set_option linter.unusedSimpArgs false

def sumK (F : List Row) (i : Nat) : Int := ((F.take i).map fun r => r.getD 1 0).sum
theorem sumK_succ (F : List Row) (i : Nat) (h : i < F.length) : sumK F (i + 1) = sumK F i + F[i].getD 1 0 := by
  unfold sumK; rw [List.take_succ_eq_append_getElem h, List.map_append, List.sum_append]; simp
theorem sumK_all (F : List Row) : sumK F F.length = (F.map fun r => r.getD 1 0).sum := by unfold sumK; rw [List.take_length]
theorem sum_nonneg' : ∀ l : List Row, (∀ r ∈ l, 1 ≤ r.getD 1 0) → 0 ≤ (l.map fun r => r.getD 1 0).sum
  | [], _ => by simp
  | r :: l, h => by
    have := sum_nonneg' l (fun q hq => h q (List.mem_cons_of_mem _ hq))
    have := h r (List.mem_cons_self ..)
    simp only [List.map_cons, List.sum_cons]; omega
theorem sumK_bd (F : List Row) (h : ∀ r ∈ F, 1 ≤ r.getD 1 0) (i : Nat) : 0 ≤ sumK F i ∧ sumK F i ≤ (F.map fun r => r.getD 1 0).sum := by
  unfold sumK
  refine ⟨sum_nonneg' _ (fun r hr => h r (List.mem_of_mem_take hr)), ?_⟩
  have e : (F.map fun r => r.getD 1 0).sum = ((F.take i).map fun r => r.getD 1 0).sum + ((F.drop i).map fun r => r.getD 1 0).sum := by
    rw [← List.sum_append, ← List.map_append, List.take_append_drop]
  have := sum_nonneg' (F.drop i) (fun r hr => h r (List.mem_of_mem_drop hr))
  omega
theorem wd_len {KS : List Row} {d : Nat} (hk : ∀ K ∈ KS, K.length = d) (hp : 0 < KS.length) : wdAt KS KS.length = d + 1 := by
  unfold wdAt
  rw [if_neg (by omega)]
  have : KS.getD (KS.length - 1) [] ∈ KS := by
    rw [List.getD_eq_getElem?_getD, List.getElem?_eq_getElem (by omega)]
    exact List.getElem_mem _
  rw [hk _ this]

set_option maxHeartbeats 8000000 in
set_option maxRecDepth 100000 in
theorem GroupCounts_walk (x : Int) (rv : Value) (rs : List Row) (key : Int) (w : World) (hx : In64 x) (hr : RowsAt w (fun _ => True) rv rs) (hkey : In64 key) :
    Calls Try.prog 10 #[.int .i64 x, rv, .int .i64 key] w fun e w' => e = .returned (.bool true) ∧ Below w.heap.size w w' := by
  obtain ⟨Ar, cr, hrv, _⟩ := hr.form
  subst hrv
  have HR := Aside0.mk hr
  clear hr
  obtain ⟨b, hb⟩ : ∃ b, few rs = b := ⟨_, rfl⟩
  have HF := Aside0.mk hb
  have FW := Aside0.mk (fun W (h : RowsAt W (fun _ => True) (.slice Ar rs.length cr) rs) => few_b W _ _ rs b h hb)
  have HH := Aside0.mk (head9_any w)
  clear hb
  go_enter Try.func10, Try.ntmps10
  go_wp2_with fail
  refine (HH.out).mono ?_
  rintro e w1 ⟨rfl, B1⟩
  have HR1 := Aside0.mk (HR.out.below reads_row B1)
  have B1 := Aside0.mk B1
  have FW1 := Aside0.mk (FW.out w1 HR1.out)
  clear HR FW HH
  go_wp2_with fail
  refine (FW1.out).mono ?_
  rintro e w' ⟨rfl, rfl⟩
  clear FW1
  cases b with
  | false =>
    go_wp2
    go_ret
    exact ⟨rfl, B1.out⟩
  | true =>
  obtain ⟨m, hm, hmod⟩ := mod_u x 4 (by omega) (by omega)
  rw [show ((4 : Nat) : Int) = 4 from rfl] at hmod
  obtain ⟨n, hn⟩ : ∃ n, n = m + 1 := ⟨_, rfl⟩
  have hn1 : 1 + (m : Int) = (n : Int) := by omega
  obtain ⟨kk, hkk, hkmod⟩ := mod_u key n (by omega) (by omega)
  have hn4 : n ≤ 4 := by omega
  have l1 := (few_yes HF.out).1
  have MK := Aside0.mk (make_any w1 _ _ n rs HR1.out (by omega) (by omega))
  have HL60 := Aside0.mk (show (norm n rs).length ≤ 60 by have := norm_length n rs; omega)
  have HLW := Aside0.mk (show ∀ r ∈ norm n rs, r.length = n from fun r hr => ((mem_norm n rs r).1 hr).2)
  obtain ⟨L, hL⟩ : ∃ L, norm n rs = L := ⟨_, rfl⟩
  rw [hL] at MK HL60 HLW
  have hl60 := HL60.out
  clear HF HR1 l1 hL hx hkey hn
  go_wp2_with fail
  refine (MK.out).mono ?_
  rintro e w2 ⟨v, rfl, S2, B2⟩
  obtain ⟨g, cv, hv, _⟩ := S2.ex
  subst hv
  have BA := below_alloc0 (Below.refl w2.heap.size w2) (.cells #[.int .i64 (kk : Int)] 3)
  have RA := RowAt.newT w2 [(kk : Int)] 3 (by simp) (fun z hz => in64_small (by simp at hz; omega))
  have GB := Aside0.mk (gby_all _ _ _ g n L _ [(kk : Int)] 1 (-1) (S2.below BA) RA (by simp) (by decide))
  have S2 := Aside0.mk (S2.below BA)
  have BA := Aside0.mk (below_trans0 (below_trans0 B1.out B2) BA)
  clear MK B1 B2 RA
  obtain ⟨KS, hKS⟩ : ∃ KS, (L.map fun r => keyOf r [(kk : Int)]) = KS := ⟨_, rfl⟩
  obtain ⟨vs, hvs⟩ : ∃ vs, valsOf 1 (-1) L = vs := ⟨_, rfl⟩
  rw [hKS, hvs] at GB
  have hkl : KS.length = L.length := by rw [← hKS]; simp
  have HK1 := Aside0.mk (show ∀ K ∈ KS, K.length = 1 from fun K hK => by
    rw [← hKS] at hK
    obtain ⟨r, hr, rfl⟩ := List.mem_map.1 hK
    have hrl := HLW.out r hr
    show (keyOf r [(kk : Int)]).length = 1
    unfold keyOf
    rw [if_pos (by omega)]
    rfl)
  have HKL := Aside0.mk hkl
  clear hKS hvs hkl
  go_wp2_with fail
  refine (GB.out).mono ?_
  rintro e w3 ⟨v, b, rfl, B3, hres⟩
  have S3 := Aside0.mk (S2.out.below B3)
  have G2 := Aside0.mk (gby_all w3 _ (fun _ => True) g n L (.slice none 0 0) [] 1 0 S3.out (SlAt.nil _ _ _ _ _ (by omega)) (by simp) (by decide))
  obtain ⟨KA, hKA⟩ : ∃ KA, (L.map fun r => keyOf r []) = KA := ⟨_, rfl⟩
  obtain ⟨va, hva⟩ : ∃ va, valsOf 1 0 L = va := ⟨_, rfl⟩
  rw [hKA, hva] at G2
  have HA0 := Aside0.mk (show ∀ K ∈ KA, K = [] from fun K hK => by
    rw [← hKA] at hK
    obtain ⟨r, hr, rfl⟩ := List.mem_map.1 hK
    rfl)
  have HAL := Aside0.mk (show KA.length = L.length by rw [← hKA]; simp)
  have B3 := Aside0.mk (below_trans0 BA.out B3)
  have OK1 := okUp_one KS vs
  have OKA := Aside0.mk (okUp_one KA va)
  clear hKA hva GB S2 BA
  obtain ⟨rfl, hseg⟩ : b = true ∧ SegAt w3 (fun _ => True) v (wdAt KS KS.length) (norm (wdAt KS KS.length) (outs KS vs 1 KS.length)) := by
    rcases hres with ⟨h1, _, _, h4⟩ | ⟨_, _, h3⟩
    · exact ⟨h1, h4⟩
    · exact absurd OK1 (h3 (.inl rfl))
  obtain ⟨g1, cv1, hv1, _⟩ := hseg.ex
  subst hv1
  have HSEG := Aside0.mk hseg
  clear hres OK1 hseg
  go_wp2_with fail
  refine (G2.out).mono ?_
  rintro e w4 ⟨v2, b2, rfl, B4, hres⟩
  obtain ⟨rfl, hseg⟩ : b2 = true ∧ SegAt w4 (fun _ => True) v2 (wdAt KA KA.length) (norm (wdAt KA KA.length) (outs KA va 1 KA.length)) := by
    rcases hres with ⟨h1, _, _, h4⟩ | ⟨_, _, h3⟩
    · exact ⟨h1, h4⟩
    · exact absurd OKA.out (h3 (.inl rfl))
  obtain ⟨g2, cv2, hv2, _⟩ := hseg.ex
  subst hv2
  have HSA := Aside0.mk hseg
  have HSEG := Aside0.mk (HSEG.out.below B4)
  have S4 := Aside0.mk (S3.out.below B4)
  have B4 := Aside0.mk (below_trans0 B3.out B4)
  clear hres hseg OKA G2 S3 B3
  by_cases hL0 : L.length = 0
  · have e1 : KS = [] := List.length_eq_zero_iff.1 (by rw [HKL.out, hL0])
    have e2 : KA = [] := List.length_eq_zero_iff.1 (by rw [HAL.out, hL0])
    subst e1
    subst e2
    have q1 : ∀ (zs : List Int), norm (wdAt [] ([] : List Row).length) (outs [] zs 1 ([] : List Row).length) = [] := fun zs => by
      have e : outs [] zs 1 ([] : List Row).length = [] := rfl
      rw [e]; decide
    rw [q1] at HSEG HSA
    have L1 := Aside0.mk (len_any w4 _ _ _ _ HSEG.out)
    have L2 := Aside0.mk (len_any w4 _ _ _ _ HSA.out)
    have L3 := len_any w4 _ _ _ _ S4.out
    rw [hL0] at L3
    have L3 := Aside0.mk L3
    clear HSEG HSA S4 HK1 HKL HA0 HAL hL0 HLW HL60 q1
    go_wp2_with fail
    go_loop [12, 13] (fun s12 s13 => s12 = .int .i64 0 ∧ s13 = .int .i64 0) (fun _ _ => 0)
    case atStart => exact ⟨rfl, rfl⟩
    case round =>
      obtain ⟨rfl, rfl⟩ := hrel
      go_wp2_with fail
      refine (L1.out).mono ?_
      rintro e w' ⟨rfl, rfl⟩
      go_wp2_with fail
      refine (L3.out).mono ?_
      rintro e w' ⟨rfl, rfl⟩
      go_wp2_with fail
      refine (L1.out).mono ?_
      rintro e w' ⟨rfl, rfl⟩
      go_wp2_with fail
      refine (L2.out).mono ?_
      rintro e w' ⟨rfl, rfl⟩
      go_wp2
      go_ret
      exact ⟨rfl, B4.out⟩
  · have hLp : 0 < L.length := by omega
    have hL1 : ((L.length : Int) == 0) = false := by simp; intro e; exact hL0 (by simp [e])
    have w1e : wdAt KS KS.length = 2 := wd_len HK1.out (by rw [HKL.out]; omega)
    have w2e : wdAt KA KA.length = 1 := wd_len (d := 0) (fun K hK => by rw [HA0.out K hK]; rfl) (by rw [HAL.out]; omega)
    rw [w1e] at HSEG
    rw [w2e, counts_all KA va HA0.out (by rw [HAL.out]; omega), HAL.out] at HSA
    have CS := counts_sum KS vs HK1.out
    have CR := Aside0.mk (counts_row KS vs HK1.out)
    obtain ⟨F, hF⟩ : ∃ F, norm 2 (outs KS vs 1 KS.length) = F := ⟨_, rfl⟩
    rw [hF] at CS CR HSEG
    rw [HKL.out] at CS
    have SB := Aside0.mk (fun i => sumK_bd F (fun r hr => (CR.out r hr).2) i)
    rw [CS] at SB
    have SA := Aside0.mk (show sumK F F.length = (L.length : Int) by rw [sumK_all, CS])
    have hFl := HSEG.out.len
    clear hL0 w1e w2e hF CS HK1 HKL HA0 HAL HLW
    go_wp2_with fail
    go_loopw [12, 13] (fun s12 s13 wr => ∃ i : Nat, s13 = .int .i64 i ∧ i ≤ F.length ∧ s12 = .int .i64 (sumK F i) ∧ Aside0 (Below w4.heap.size w4 wr)) (fun _ s13 _ => F.length - (intOf s13).toNat)
    case atStart => exact ⟨0, rfl, Nat.zero_le _, rfl, ⟨Below.refl _ _⟩⟩
    case round =>
      obtain ⟨i, rfl, hi, rfl, HB⟩ := hrel
      have LN := Aside0.mk (len_any wr _ _ _ _ (HSEG.out.below HB.out))
      obtain ⟨sb1, sb2⟩ := SB.out i
      by_cases hlt : i < F.length
      · have RW := Aside0.mk (row_any wr _ _ 2 F F[i] i (HSEG.out.below HB.out) (List.getElem?_eq_getElem hlt))
        obtain ⟨r1, r2⟩ := CR.out F[i] (List.getElem_mem hlt)
        have SS1 := sumK_succ F i hlt
        obtain ⟨sc1, sc2⟩ := SB.out (i + 1)
        generalize F[i] = r at *
        match r, r1 with
        | [p, q], _ =>
        have hq : ([p, q] : Row).getD 1 0 = q := rfl
        rw [hq] at SS1 r2
        rw [SS1] at sc1 sc2
        have SS1 := Aside0.mk SS1
        clear hq
        generalize sumK F i = s at *
        go_wp2_with fail
        refine (LN.out).mono ?_
        rintro e w' ⟨rfl, rfl⟩
        clear LN
        go_wp2_with fail
        refine (RW.out).mono ?_
        rintro e w5 ⟨rv, rfl, HR5, B5⟩
        obtain ⟨A5, c5, h5, _⟩ := HR5.form
        subst h5
        obtain ⟨b1, o1, u1, rfl, _, _, hc1, rfl, _⟩ := HR5.at_ 1 (by simp)
        simp only [List.getElem_cons_succ, List.getElem_cons_zero, List.length_cons, List.length_nil] at hc1
        have BN := Aside0.mk (below_trans0 HB.out B5)
        clear RW HR5 B5
        go_wp2
        go_roundw
        case rel => exact ⟨i + 1, by go_num, by omega, by rw [SS1.out], BN⟩
        case measure => simp [intOf]; omega
      · obtain rfl : i = F.length := by omega
        have L3 := Aside0.mk (len_any wr _ _ _ _ (S4.out.below HB.out))
        have sa := SA.out
        rw [sa]
        have BZ := Aside0.mk (below_trans0 B4.out HB.out)
        have HSB := HSA.out.below HB.out
        have L0 := lit_rows wr [[(L.length : Int)]] (by simp) (fun r hr => by simp at hr; subst hr; exact ⟨by simp, fun z hz => by simp at hz; subst hz; exact in64_small (by omega)⟩)
        have B0 := lit_below wr [[(L.length : Int)]] (.cells (hdrs wr.heap.size [[(L.length : Int)]]).toArray 24)
        have IS := Aside0.mk (is_same _ _ _ g2 1 _ _ (HSB.below B0) L0)
        have B0 := Aside0.mk (below_trans0 BZ.out B0)
        clear HSB L0 SB SA sa sb1 sb2
        go_wp2_with fail
        refine (LN.out).mono ?_
        rintro e w' ⟨rfl, rfl⟩
        go_wp2_with fail
        refine (L3.out).mono ?_
        rintro e w' ⟨rfl, rfl⟩
        go_wp2_with fail
        refine (L3.out).mono ?_
        rintro e w' ⟨rfl, rfl⟩
        clear LN L3
        have I1 := IS.out
        have B1 := B0.out
        simp only [litW, hdrs, List.map, List.length] at I1 B1
        have I1 := Aside0.mk I1
        have B1 := Aside0.mk B1
        clear IS B0
        go_wp2_with fail
        refine (I1.out).mono ?_
        rintro e w5 ⟨rfl, B5⟩
        have B5 := Aside0.mk (below_trans0 B1.out B5)
        go_wp2
        go_ret
        exact ⟨rfl, B5.out⟩
end Go.Proofs.Ytihilledbnnniaa.Sg
