/- GroupBy: for each key the aggregate of its rows, or no result. The walk. -/
import Derived.Test.YtihilledbnnniaaSgZp
import Derived.Test.YtihilledbnnniaaSgL
namespace Go.Proofs.Ytihilledbnnniaa.Sg
open Go.RowKit Go.Shelf
set_option linter.unusedVariables false
set_option linter.unusedSimpArgs false

theorem len_outs_nil (vs : List Int) (a : Int) : norm (wdAt [] 0) (outs [] vs a 0) = [] := by
  have e : outs [] vs a 0 = [] := rfl
  rw [e]; decide

set_option maxHeartbeats 8000000 in
set_option maxRecDepth 100000 in
theorem GroupBy_walk (x : Int) (rv : Value) (rs : List Row) (kv : Value) (ks : List Int) (a col : Int) (w : World) (hx : In64 x) (hr : RowsAt w (fun _ => True) rv rs) (hk : RowAt w (fun _ => True) kv ks) (ha : In64 a) (hc : In64 col) :
    Calls Try.prog 9 #[.int .i64 x, rv, kv, .int .i64 a, .int .i64 col] w fun e w' => e = .returned (.bool true) ∧ Below w.heap.size w w' := by
  obtain ⟨Ar, cr, hrv, _⟩ := hr.form
  obtain ⟨Ak, ck, hkv, _⟩ := hk.form
  subst hrv
  subst hkv
  have HR := Aside0.mk hr
  have HK := Aside0.mk hk
  clear hr hk
  obtain ⟨b, hb⟩ : ∃ b, few rs = b := ⟨_, rfl⟩
  have HF := Aside0.mk hb
  have FW := Aside0.mk (fun W (h : RowsAt W (fun _ => True) (.slice Ar rs.length cr) rs) => few_b W _ _ rs b h hb)
  have HH := Aside0.mk (head9_any w)
  clear hb
  go_enter Try.func9, Try.ntmps9
  go_wp2_with fail
  refine (HH.out).mono ?_
  rintro e w1 ⟨rfl, B1⟩
  have HR1 := Aside0.mk (HR.out.below reads_row B1)
  have HK1 := Aside0.mk (HK.out.below reads_int B1)
  have B1 := Aside0.mk B1
  have FW1 := Aside0.mk (FW.out w1 HR1.out)
  clear HR HK FW HH
  go_wp2_with fail
  refine (FW1.out).mono ?_
  rintro e w' ⟨rfl, rfl⟩
  clear FW1
  cases b with
  | false =>
    go_wp2
    go_ret
    exact ⟨rfl, B1.out⟩
  | true =>
  by_cases hkl : 5 < ks.length
  · go_wp2
    go_ret
    exact ⟨rfl, B1.out⟩
  have hkl2 : ks.length ≤ 5 := by omega
  obtain ⟨n, hn, hmod⟩ := mod_u x 5 (by omega) (by omega)
  rw [show ((5 : Nat) : Int) = 5 from rfl] at hmod
  have l1 := (few_yes HF.out).1
  have MK := Aside0.mk (make_any w1 _ _ n rs HR1.out (by omega) (by omega))
  have HL60 := Aside0.mk (show (norm n rs).length ≤ 60 by have := norm_length n rs; omega)
  obtain ⟨L, hL⟩ : ∃ L, norm n rs = L := ⟨_, rfl⟩
  rw [hL] at MK HL60
  clear HF HR1 l1 hL hx hkl
  go_wp2_with fail
  refine (MK.out).mono ?_
  rintro e w2 ⟨v, rfl, S2, B2⟩
  obtain ⟨g, cv, hv, _⟩ := S2.ex
  subst hv
  have S2 := Aside0.mk S2
  have HK2 := Aside0.mk (HK1.out.below reads_int B2)
  have GB := Aside0.mk (gby_all w2 _ _ g n L _ ks a col S2.out HK2.out (by omega) ha)
  have B2 := Aside0.mk (below_trans0 B1.out B2)
  obtain ⟨KS, hKS⟩ : ∃ KS, (L.map fun r => keyOf r ks) = KS := ⟨_, rfl⟩
  obtain ⟨vs, hvs⟩ : ∃ vs, valsOf a col L = vs := ⟨_, rfl⟩
  have HKS := Aside0.mk hKS
  have HVS := Aside0.mk hvs
  rw [hKS, hvs] at GB
  clear MK B1 HK1 hKS hvs
  go_wp2_with fail
  refine (GB.out).mono ?_
  rintro e w3 ⟨v, b, rfl, B3, hres⟩
  have S3 := Aside0.mk (S2.out.below B3)
  have HK3 := Aside0.mk (HK2.out.below reads_int B3)
  have LN := Aside0.mk (len_any w3 _ _ _ _ S3.out)
  have B3 := Aside0.mk (below_trans0 B2.out B3)
  have HRES := Aside0.mk hres
  clear hres GB B2 S2 HK2
  by_cases hL0 : L.length = 0
  · have hl : L = [] := List.length_eq_zero_iff.1 hL0
    have e9 : KS = [] := by rw [← HKS.out, hl]; rfl
    subst hl
    subst e9
    have LG : Aside0 (Calls Try.prog 15 #[v] w3 fun e w' => e = .returned (.int .i64 0) ∧ w3 = w') := by
      rcases HRES.out with ⟨_, _, _, h4⟩ | ⟨_, rfl, _⟩
      · have h5 := len_any w3 _ _ _ _ h4
        rw [show ([] : List Row).length = 0 from rfl, len_outs_nil] at h5
        exact ⟨h5⟩
      · exact ⟨len_nil w3⟩
    have hvp : ∃ q, v = .pointer q := by
      rcases HRES.out with ⟨_, _, _, h4⟩ | ⟨_, h4, _⟩
      · obtain ⟨g4, cv4, hv4, _⟩ := h4.ex; exact ⟨_, hv4⟩
      · exact ⟨_, h4⟩
    obtain ⟨q, rfl⟩ := hvp
    clear HRES
    go_wp2_with fail
    refine (LN.out).mono ?_
    rintro e w' ⟨rfl, rfl⟩
    go_wp2_with fail
    refine (LG.out).mono ?_
    rintro e w' ⟨rfl, rfl⟩
    go_wp2
    go_ret
    exact ⟨rfl, B3.out⟩
  · have hLp : 0 < L.length := by omega
    have hL1 : ((L.length : Int) == 0) = false := by simp; intro e; exact hL0 (by simp [e])
    clear hL0
    by_cases hg : GoodA a col n
    · have BY := Aside0.mk (by9_all w3 _ _ g n L _ ks a col S3.out HK3.out (by omega) hg)
      rw [HKS.out, HVS.out] at BY
      have hcase : (a < 1) = False ∧ (4 < a) = False := by
        rcases hg with rfl | ⟨h2, h4, _⟩
        · simp
        · exact ⟨by simp; omega, by simp; omega⟩
      have g1 : ¬ a < 1 := by simp [hcase.1]
      have g4 : ¬ 4 < a := by simp [hcase.2]
      have hg2 : a = 1 ∨ (a ≠ 1 ∧ 0 ≤ col ∧ col < n) := by
        rcases hg with h | ⟨h2, _, h3, h4⟩
        · exact .inl h
        · exact .inr ⟨by omega, h3, h4⟩
      clear hcase
      rcases HRES.out with ⟨rfl, _, hok, hseg⟩ | ⟨rfl, rfl, hno⟩
      · obtain ⟨gg, cv4, hv4, _⟩ := hseg.ex
        subst hv4
        have HOK := Aside0.mk hok
        have HSEG := Aside0.mk hseg
        clear hok hseg HRES hg
        have hz2 : a = 1 ∨ (a != 1) = true := by
          by_cases q : a = 1
          · exact .inl q
          · exact .inr (by simpa using q)
        rcases hg2 with rfl | ⟨q1, q2, q3⟩
        all_goals
          first | (replace hz2 := hz2.resolve_left q1) | clear hz2
          go_wp2_with fail
          refine (LN.out).mono ?_
          rintro e w' ⟨rfl, rfl⟩
          go_wp2_with fail
          refine (BY.out).mono ?_
          rintro e w4 ⟨v4, b4, rfl, B4, hres4⟩
          rcases hres4 with ⟨rfl, _, hrows⟩ | ⟨_, hno⟩
          · obtain ⟨A4, c4, hv4, _⟩ := hrows.form
            subst hv4
            have IS := is_same w4 _ _ gg _ _ _ (HSEG.out.below B4) hrows
            have hlen := HSEG.out.len
            have IS := Aside0.mk IS
            have B4 := Aside0.mk (below_trans0 B3.out B4)
            clear hrows hlen BY LN
            go_wp2_with fail
            refine (IS.out).mono ?_
            rintro e w5 ⟨rfl, B5⟩
            have B5 := Aside0.mk (below_trans0 B4.out B5)
            go_wp2
            go_ret
            exact ⟨rfl, B5.out⟩
          · exact absurd HOK.out hno
      · have HNO := Aside0.mk (hno hg)
        clear hno HRES hg
        have hz2 : a = 1 ∨ (a != 1) = true := by
          by_cases q : a = 1
          · exact .inl q
          · exact .inr (by simpa using q)
        rcases hg2 with rfl | ⟨q1, q2, q3⟩
        all_goals
          first | (replace hz2 := hz2.resolve_left q1) | clear hz2
          go_wp2_with fail
          refine (LN.out).mono ?_
          rintro e w' ⟨rfl, rfl⟩
          go_wp2_with fail
          refine (BY.out).mono ?_
          rintro e w4 ⟨v4, b4, rfl, B4, hres4⟩
          rcases hres4 with ⟨_, hyes, _⟩ | ⟨rfl, _⟩
          · exact absurd hyes HNO.out
          · have B4 := Aside0.mk (below_trans0 B3.out B4)
            clear BY LN
            go_wp2_with fail
            refine (len_nil w4).mono ?_
            rintro e w' ⟨rfl, rfl⟩
            go_wp2
            go_ret
            exact ⟨rfl, B4.out⟩
    · obtain ⟨rfl, rfl⟩ : b = false ∧ v = .pointer none := by
        rcases HRES.out with ⟨_, h, _⟩ | ⟨h, h2, _⟩
        · exact absurd h hg
        · exact ⟨h, h2⟩
      have hbad : a < 1 ∨ (¬ a < 1 ∧ 4 < a) ∨ (¬ a < 1 ∧ ¬ 4 < a ∧ a ≠ 1 ∧ (col < 0 ∨ (¬ col < 0 ∧ (n : Int) ≤ col))) := by
        unfold GoodA at hg
        by_cases q1 : a < 1
        · exact .inl q1
        · by_cases q2 : 4 < a
          · exact .inr (.inl ⟨q1, q2⟩)
          · have q3 : a ≠ 1 := fun e => hg (.inl e)
            refine .inr (.inr ⟨q1, q2, q3, ?_⟩)
            by_cases q4 : col < 0
            · exact .inl q4
            · refine .inr ⟨q4, ?_⟩
              by_cases q5 : (n : Int) ≤ col
              · exact q5
              · exact absurd (.inr ⟨by omega, by omega, by omega, by omega⟩) hg
      clear HRES hg
      have hz : (a == 1) = false ∨ a < 1 := by
        rcases hbad with q1 | ⟨q1, q2⟩ | ⟨q1, q2, q3, _⟩
        · exact .inr q1
        · exact .inl (by simp; omega)
        · exact .inl (by simpa using q3)
      have hz2 : (a != 1) = true := by
        rcases hbad with q1 | ⟨q1, q2⟩ | ⟨q1, q2, q3, _⟩
        · simp; omega
        · simp; omega
        · simpa using q3
      clear hz
      rcases hbad with q1 | ⟨q1, q2⟩ | ⟨q1, q2, q3, q4 | ⟨q4, q5⟩⟩
      all_goals
        go_wp2_with fail
        refine (LN.out).mono ?_
        rintro e w' ⟨rfl, rfl⟩
        go_wp2_with fail
        refine (len_nil w3).mono ?_
        rintro e w' ⟨rfl, rfl⟩
        go_wp2
        go_ret
        exact ⟨rfl, B3.out⟩
end Go.Proofs.Ytihilledbnnniaa.Sg
