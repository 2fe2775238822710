/- IndexProbes: each row is found by its numbers, and by no others. -/
import Derived.Test.YtihilledbnnniaaSgXn
namespace Go.Proofs.Ytihilledbnnniaa.Sg
open Go.RowKit Go.Shelf
set_option linter.unusedVariables false
set_option linter.unusedSimpArgs false

theorem BuiltBy.monoOk {w : World} {B e : Nat} {ok ok2 : Nat → Prop} {v : Value} {xs : List Row} {cs : List Value} (h : BuiltBy RowAt w B e ok v xs cs) (hs : ∀ b, ok b → b < w.heap.size → ok2 b) : BuiltBy RowAt w B e ok2 v xs cs :=
  ⟨h.own, fun j hj u hu => reads_row.mono (h.el j hj u hu) hs⟩
/-- Behind an append of one, the blocks of the elements told apart from the list's own. -/
theorem BuiltBy.push {w w1 : World} {o : Obj} {B e b b1 cap cap1 n : Nat} {u : Value} {xs : List Row} {x : Row} {cs : List Value}
    (h : BuiltBy RowAt w B e (· ≠ b) (.slice (some ⟨b, 0, none⟩) n cap) xs cs) (hu : RowAt w (· ≠ b) u x) (ho : w1.ownsRow B e 1 (.slice (some ⟨b1, 0, none⟩) (xs.length + 1) cap1) (xs.length + 1) (cs ++ [u])) (hg : (w.alloc o).grownBy w1 (some b))
    (hb : (Value.slice (some ⟨b1, 0, none⟩) (xs.length + 1) cap1).ownBlock = some b ∨ (Value.slice (some ⟨b1, 0, none⟩) (xs.length + 1) cap1).ownBlock = some (w.alloc o).heap.size) : BuiltBy RowAt w1 B e (· ≠ b1) (.slice (some ⟨b1, 0, none⟩) (xs.length + 1) cap1) (xs ++ [x]) (cs ++ [u]) := by
  have hb1 : b1 = b ∨ b1 = w.heap.size + 1 := by
    rcases hb with hb | hb
    · exact .inl (Option.some.inj hb)
    · exact .inr (by have := Option.some.inj hb; simpa using this)
  have h2 := h.monoOk (ok2 := fun k => k ≠ b ∧ k < w.heap.size) (fun k hk hl => ⟨hk, hl⟩)
  have hu2 := reads_row.mono (ok2 := fun k => k ≠ b ∧ k < w.heap.size) hu (fun k hk hl => ⟨hk, hl⟩)
  have := BuiltBy.append reads_row h2 hu2 ho hg (fun k hk e => by cases hk; exact e.1 rfl)
  exact this.monoOk (fun k hk _ => by omega)
theorem take_mem_step {U : List Row} {j : Nat} (h : j < U.length) (K : Row) : K ∈ U.take (j + 1) ↔ K ∈ U.take j ∨ U[j] = K := by
  rw [List.take_succ_eq_append_getElem h, List.mem_append, List.mem_singleton]
  exact or_congr Iff.rfl eq_comm

set_option maxHeartbeats 4000000 in
set_option maxRecDepth 100000 in
theorem IndexProbes_walk (x : Int) (rv : Value) (rs : List Row) (pv : Value) (p : Row) (qv : Value) (q : Row) (w : World) (hx : In64 x) (hr : RowsAt w (fun _ => True) rv rs) (hp : RowAt w (fun _ => True) pv p) (hq : RowAt w (fun _ => True) qv q) :
    Calls Try.prog 3 #[.int .i64 x, rv, pv, qv] w fun e w' => e = .returned (.bool true) ∧ Below w.heap.size w w' := by
  obtain ⟨Ar, cr, hrv, _⟩ := hr.form
  obtain ⟨Ap, cp, hpv, hcp, hpm, hcm⟩ := hp.form
  obtain ⟨Aq, cq, hqv, hcq, hqm, hcqm⟩ := hq.form
  subst hrv
  subst hpv
  subst hqv
  have HR := Aside0.mk hr
  have HP := Aside0.mk hp
  have HQ := Aside0.mk hq
  obtain ⟨ir, hir, hr0, hr1, hr2⟩ := info_parts info_row
  clear hr hp hq
  obtain ⟨b, hb⟩ : ∃ b, few rs = b := ⟨_, rfl⟩
  have HF := Aside0.mk hb
  have FW := Aside0.mk (fun W (h : RowsAt W (fun _ => True) (.slice Ar rs.length cr) rs) => few_b W _ _ rs b h hb)
  clear hb
  go_enter Try.func3, Try.ntmps3
  go_wp2_with fail
  refine (head7_any w).mono ?_
  rintro e w1 ⟨rfl, B1⟩
  have HR1 := Aside0.mk (HR.out.below reads_row B1)
  have HP1 := Aside0.mk (HP.out.below reads_int B1)
  have HQ1 := Aside0.mk (HQ.out.below reads_int B1)
  have B1 := Aside0.mk B1
  have FW1 := Aside0.mk (FW.out w1 HR1.out)
  clear HR HP HQ FW
  cases b with
  | false =>
    go_wp2_with (first | (go_at_call 12; (with_reducible refine (FW1.out).mono ?_); rintro e w' ⟨rfl, rfl⟩))
    go_ret
    exact ⟨rfl, B1.out⟩
  | true =>
    by_cases hpl : 8 < p.length
    · go_wp2_with (first | (go_at_call 12; (with_reducible refine (FW1.out).mono ?_); rintro e w' ⟨rfl, rfl⟩))
      go_ret
      exact ⟨rfl, B1.out⟩
    · have dp : decide (8 < (p.length : Int)) = false := by simp; omega
      by_cases hql : 8 < q.length
      · go_wp2_with (first | (go_at_call 12; (with_reducible refine (FW1.out).mono ?_); rintro e w' ⟨rfl, rfl⟩))
        go_ret
        exact ⟨rfl, B1.out⟩
      · have dq : decide (8 < (q.length : Int)) = false := by simp; omega
        obtain ⟨n, hn, hmod⟩ := mod_u x 5 (by omega) (by omega)
        rw [show ((5 : Nat) : Int) = 5 from rfl] at hmod
        have hfw := few_yes HF.out
        have MK := Aside0.mk (make_any w1 _ _ n rs HR1.out (by omega) (by omega))
        clear hfw hx
        go_wp2_with (first | (go_at_call 12; (with_reducible refine (FW1.out).mono ?_); rintro e w' ⟨rfl, rfl⟩))
        refine (MK.out).mono ?_
        rintro e w2 ⟨v, rfl, S2, B2⟩
        have HP2 := HP1.out.below reads_int B2
        have HQ2 := Aside0.mk (HQ1.out.below reads_int B2)
        have B2 := Aside0.mk (below_trans0 B1.out B2)
        generalize norm n rs = L at *
        obtain ⟨g, cv, hv, _⟩ := S2.ex
        subst hv
        have BD := Aside0.mk (build_any w2 _ _ _ _ n L p S2 HP2 (by omega))
        have HP2 := Aside0.mk HP2
        have hL := S2.len
        obtain ⟨KS, hKS⟩ : ∃ KS, (L.map fun r => keyOf r p) = KS := ⟨_, rfl⟩
        have hKL : KS.length = L.length := by rw [← hKS]; simp
        have hul : (uniq KS).length ≤ KS.length := uniq_length KS
        have HKL := Aside0.mk hKL
        have HKS := Aside0.mk hKS
        have HUL := Aside0.mk (show (uniq KS).length < 1000000 by omega)
        have S2 := Aside0.mk S2
        clear B1 HR1 HP1 HQ1 FW1 MK hn hmod hKS hKL hul
        go_wp2_with fail
        refine (BD.out).mono ?_
        rintro e w3 ⟨gx, m, rfl, IX, B3⟩
        rw [HKS.out] at IX
        have IX := Aside0.mk IX
        have HP3 := Aside0.mk (HP2.out.below reads_int B3)
        have HQ3 := Aside0.mk (HQ2.out.below reads_int B3)
        have S3 := Aside0.mk (S2.out.below B3)
        have B3 := Aside0.mk (below_trans0 B2.out B3)
        clear BD HP2 HQ2 S2 B2
        have ST := Aside0.mk (BuiltBy.empty RowAt w3 w3.heap.size 24 (· ≠ w3.heap.size) (Nat.le_refl _))
        have STB := Aside0.mk (below_alloc0 (Below.refl w3.heap.size w3) (.cells #[] 24))
        have P7 := Aside0.mk (fun wr (hb : Below w3.heap.size w3 wr) okk kv key (hk : RowAt wr okk kv key) => probe7_any wr _ _ _ _ _ gx _ g n L p key _ kv (S3.out.below hb) (HP3.out.below reads_int hb) hk (by omega) (by rw [HKS.out]; exact IX.out.below hb) HUL.out)
        go_wp2_with fail
        go_loopw [11, 12] (fun s11 s12 wr => ∃ (i b cap : Nat) (cs : List Value), s12 = .int .i64 i ∧ s11 = .slice (some ⟨b, 0, none⟩) (uniq (KS.take i)).length cap ∧ i ≤ L.length ∧ Aside0 (BuiltBy RowAt wr w3.heap.size 24 (· ≠ b) (.slice (some ⟨b, 0, none⟩) (uniq (KS.take i)).length cap) (uniq (KS.take i)) cs) ∧ Aside0 (Below w3.heap.size w3 wr)) (fun _ s12 _ => L.length - (intOf s12).toNat)
        case atStart => exact ⟨0, w3.heap.size, 0, [], rfl, rfl, Nat.zero_le _, ST, STB⟩
        case round =>
          obtain ⟨i, b, cap, cs, rfl, rfl, hi, HU, HB⟩ := hrel
          have S4 := S3.out.below HB.out
          have LN := Aside0.mk (len_any wr _ _ _ _ S4)
          clear ST STB
          by_cases hlt : i < L.length
          · have hki : i < KS.length := by rw [HKL.out]; exact hlt
            have hkk : KS[i] = keyOf L[i] p := by have := HKS.out; subst this; simp
            have hum := uniq_length (KS.take i)
            have hum2 : (KS.take i).length ≤ i := List.length_take_le _ _
            obtain ⟨hcap1, hcap2, hblt, hbge⟩ := HU.out.caps
            have RW := Aside0.mk (fun w' (hb : Below wr.heap.size wr w') => row_any w' _ _ n L L[i] i (S4.below hb) (List.getElem?_eq_getElem hlt))
            have K7 := Aside0.mk (fun w2 okk rv (hb : Below wr.heap.size wr w2) (hr : RowAt w2 okk rv L[i]) => key7_any w2 _ _ rv _ L[i] p hr (HP3.out.below reads_int (below_trans0 HB.out hb)) (by omega))
            have KX := Aside0.mk (fun w2 okk rv (hb : Below wr.heap.size wr w2) (hr : RowAt w2 okk rv L[i]) => keyx_any w2 _ _ rv _ L[i] p hr (HP3.out.below reads_int (below_trans0 HB.out hb)) (by omega))
            rw [← hkk] at K7 KX
            have UY := Aside0.mk (fun h : KS[i] ∈ uniq (KS.take i) => show uniq (KS.take (i + 1)) = uniq (KS.take i) by rw [List.take_succ_eq_append_getElem hki, uniq_snoc, if_pos h])
            have UN := Aside0.mk (fun h : ¬ KS[i] ∈ uniq (KS.take i) => show uniq (KS.take (i + 1)) = uniq (KS.take i) ++ [KS[i]] by rw [List.take_succ_eq_append_getElem hki, uniq_snoc, if_neg h])
            obtain ⟨K, hK⟩ : ∃ K, KS[i] = K := ⟨_, rfl⟩
            rw [hK] at K7 KX UY UN
            have hcz : cmp5 K K = 0 := (cmp5_zero K K).2 rfl
            have HCZ := Aside0.mk hcz
            generalize uniq (KS.take i) = U at *
            clear S4 hkk hK hki hcz
            go_wp2_with fail
            refine (LN.out).mono ?_
            rintro e w' ⟨rfl, rfl⟩
            go_wp2_with fail
            refine (RW.out wr (Below.refl _ _)).mono ?_
            rintro e w4 ⟨rv, rfl, HR4, B4⟩
            go_wp2_with fail
            refine (K7.out w4 _ rv B4 HR4).mono ?_
            rintro e w5 ⟨kv, rfl, HK5, B5⟩
            have B5 := Aside0.mk (below_trans0 B4 B5)
            have HK5 := Aside0.mk (reads_row.mono (ok2 := fun k => w4.heap.size ≤ k) HK5 (fun _ h _ => h))
            have hk4 := B4.size
            have HNB := Aside0.mk (show ∀ k, w4.heap.size ≤ k → k ≠ b by intro k hk; omega)
            obtain ⟨Ak, ck, hkf, _⟩ := HK5.out.form
            subst hkf
            clear HR4 B4 K7 LN hk4
            go_wp2_with fail
            refine (RW.out w5 B5.out).mono ?_
            rintro e w6 ⟨rv6, rfl, HR6, B6⟩
            have B6' := below_trans0 B5.out B6
            have HK6 := HK5.out.below reads_int B6
            go_wp2_with fail
            refine (KX.out w6 _ rv6 B6' HR6).mono ?_
            rintro e w7 ⟨kx, rfl, HX7, B7⟩
            have B7' := below_trans0 B6' B7
            have HK7 := HK6.below reads_int B7
            have CM := Aside0.mk (compare5_any w7 _ _ kx _ K K HX7 HK7)
            rw [HCZ.out] at CM
            clear RW KX HR6 HX7 B6 B6' HK6 HK5 B5
            go_wp2_with fail
            refine (CM.out).mono ?_
            rintro e w8 ⟨rfl, D8⟩
            have B8 := Aside0.mk (below_trans0 B7' D8.below)
            have HK8 := HK7.below reads_int D8.below
            have PP := Aside0.mk (P7.out w8 (below_trans0 HB.out B8.out) _ _ K HK8)
            clear CM D8 B7 B7' HK7
            go_wp2_with fail
            refine (PP.out).mono ?_
            rintro e w9 ⟨rfl, B9⟩
            have HK9 := Aside0.mk (HK8.below reads_int B9)
            have B9 := Aside0.mk (below_trans0 B8.out B9)
            clear PP B8 HK8
            go_wp2_with fail
            go_loopw [14, 72] (fun s14 s72 wi => ∃ (j : Nat) (fr : Bool), s14 = .bool fr ∧ s72 = .int .i64 j ∧ j ≤ U.length ∧ Aside0 (fr = true ↔ K ∉ U.take j) ∧ Aside0 (Below w9.heap.size w9 wi)) (fun _ s72 _ => U.length - (intOf s72).toNat)
            case atStart => exact ⟨0, true, rfl, rfl, Nat.zero_le _, ⟨by simp⟩, ⟨Below.refl _ _⟩⟩
            case round =>
              obtain ⟨j, fr, rfl, rfl, hj, HFR, HBI⟩ := hrel
              by_cases hjl : j < U.length
              · obtain ⟨u, hu1, hu2, hu3⟩ := HU.out.cellOf j hjl
                have hbi := below_trans0 B9.out HBI.out
                have hcu := below_cell0 hbi hu2
                obtain ⟨Au, cu, huf, _⟩ := hu3.form
                have CM := Aside0.mk (compare5_any wr _ _ u _ U[j] K (hu3.below reads_int hbi) (HK9.out.below reads_int HBI.out))
                subst huf
                have hz := cmp5_zero U[j] K
                have TM := Aside0.mk (take_mem_step hjl K)
                obtain ⟨cc, hcc⟩ : ∃ cc, cmp5 U[j] K = cc := ⟨_, rfl⟩
                rw [hcc] at CM hz
                have HZ := Aside0.mk hz
                clear hu1 hu2 hu3 hbi hcc hz
                cases fr with
                | false =>
                  clear CM
                  go_wp2
                  go_roundw
                  case rel =>
                    refine ⟨j + 1, false, rfl, by go_num, by omega, ⟨?_⟩, HBI⟩
                    have := HFR.out
                    rw [TM.out]
                    constructor
                    · intro h; cases h
                    · intro h; exact this.2 (fun h2 => h (.inl h2))
                  case measure => simp [intOf]; omega
                | true =>
                  have hnm := Aside0.mk (HFR.out.1 rfl)
                  by_cases h0 : cc = 0
                  · have e1 := Aside0.mk (HZ.out.1 h0)
                    subst h0
                    have d0 : ((0 : Int) != 0) = false := rfl
                    go_wp2_with fail
                    refine (CM.out).mono ?_
                    rintro e wj ⟨rfl, DJ⟩
                    have BJ := Aside0.mk (below_trans0 HBI.out DJ.below)
                    clear CM DJ
                    go_wp2
                    go_roundw
                    case rel =>
                      refine ⟨j + 1, false, rfl, by go_num, by omega, ⟨?_⟩, BJ⟩
                      rw [TM.out]
                      constructor
                      · intro h; cases h
                      · intro h; exact absurd (.inr e1.out) h
                    case measure => simp [intOf]; omega
                  · have e1 := Aside0.mk (fun e => h0 (HZ.out.2 e))
                    have d0 : (cc != 0) = true := by simpa using h0
                    clear h0
                    go_wp2_with fail
                    refine (CM.out).mono ?_
                    rintro e wj ⟨rfl, DJ⟩
                    have BJ := Aside0.mk (below_trans0 HBI.out DJ.below)
                    clear CM DJ
                    go_wp2
                    go_roundw
                    case rel =>
                      refine ⟨j + 1, true, rfl, by go_num, by omega, ⟨?_⟩, BJ⟩
                      rw [TM.out]
                      constructor
                      · rintro _ (h | h)
                        · exact hnm.out h
                        · exact e1.out h
                      · intro _; rfl
                    case measure => simp [intOf]; omega
              · obtain rfl : j = U.length := by omega
                rw [List.take_length] at HFR
                have hbi := below_trans0 B9.out HBI.out
                have BI := Aside0.mk (below_trans0 HB.out hbi)
                have HUI := Aside0.mk (HU.out.stays reads_row (Stays.of_below hbi (fun _ => True)) (fun _ _ _ => trivial) (fun _ _ => trivial))
                have HKI := Aside0.mk (HK9.out.below reads_int HBI.out)
                have hbs := BI.out.size
                clear hbi
                cases fr with
                | false =>
                  have hm : K ∈ U := Classical.byContradiction fun h => by have := HFR.out.2 h; cases this
                  have HUY := Aside0.mk (UY.out hm)
                  clear hm
                  go_wp2
                  go_roundw
                  case rel => exact ⟨i + 1, b, cap, cs, by go_num, by rw [HUY.out], by omega, ⟨by rw [HUY.out]; exact HUI.out⟩, BI⟩
                  case measure => simp [intOf]; omega
                | true =>
                  have HUN := Aside0.mk (UN.out (HFR.out.1 rfl))
                  have h63 := Aside0.mk (show U.length + 1 ≤ maxLen by unfold maxLen; omega)
                  have hby := Aside0.mk (show (U.length + 1) * 24 ≤ 140737488355328 by omega)
                  have hsz := Aside0.mk (fun o => (show w3.heap.size ≤ (wr.alloc o).heap.size by simp; omega))
                  go_wp2_with (at_builtin; refine wpList_append_own_at _ rfl (.tmp 85) (.tmp 87) 22 rfl w3.heap.size 24 ir (.slice none 0 0) 1 24 Try.underlying22 hir hr0 hr1 hr2 rfl (by decide) _ _ _ rfl (HUI.out.own.alloc _) ⟨wr.heap.size, 0, none⟩ 1 1 [Value.slice Ak K.length ck] rfl rfl (cell_one_new _ _ _) (by simp [Value.oneCell']) h63.out hby.out (hsz.out _) ?_; intro v1 w10 ho hg _ hb; obtain ⟨b1, cap1, rfl⟩ := own_some ho; have O1 := Aside0.mk ho; have G1 := Aside0.mk hg; have HBB := Aside0.mk hb; clear ho hg hb)
                  go_roundw
                  case rel =>
                    refine ⟨i + 1, b1, cap1, cs ++ [Value.slice Ak K.length ck], by go_num, by rw [HUN.out, List.length_append]; rfl, by omega, ⟨?_⟩, ⟨(below_alloc BI.out hbs _).grown G1.out (by simp; omega) (own_below HUI.out.own)⟩⟩
                    have := BuiltBy.push HUI.out (reads_row.mono HKI.out (fun k hk _ => HNB.out k hk)) O1.out G1.out HBB.out
                    rw [HUN.out, List.length_append]
                    exact this
                  case measure => simp [intOf]; omega
          · obtain rfl : i = L.length := by omega
            have hfull : KS.take L.length = KS := by rw [← HKL.out, List.take_length]
            rw [hfull]
            have LX := Aside0.mk (lenx_any wr _ _ _ _ _ (IX.out.below HB.out))
            have PQ := Aside0.mk (P7.out wr HB.out _ _ q (HQ3.out.below reads_int HB.out))
            have BZ := Aside0.mk (below_trans0 B3.out HB.out)
            clear S4 hfull HU
            go_wp2_with fail
            refine (LN.out).mono ?_
            rintro e w' ⟨rfl, rfl⟩
            go_wp2_with fail
            refine (LX.out).mono ?_
            rintro e w' ⟨rfl, rfl⟩
            go_wp2_with fail
            refine (PQ.out).mono ?_
            rintro e w4 ⟨rfl, B4⟩
            have BE := Aside0.mk (below_trans0 BZ.out B4)
            clear B4
            go_wp2
            go_ret
            exact ⟨rfl, BE.out⟩
end Go.Proofs.Ytihilledbnnniaa.Sg
