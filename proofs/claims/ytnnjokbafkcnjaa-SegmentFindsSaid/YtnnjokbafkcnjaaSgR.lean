/- SegmentFinds: rows with a beginning, and whether a row is there. The walk. -/
import Derived.Test.YtnnjokbafkcnjaaSgL
import Derived.Test.YtnnjokbafkcnjaaSgN
namespace Go.Proofs.Ytnnjokbafkcnjaa.Sg
open Go.RowKit Go.Shelf
set_option linter.unusedVariables false
set_option linter.unusedSimpArgs false

theorem cmp5_take : ∀ r p : Row, p.length ≤ r.length → (cmp5 (r.take p.length) p < 0 ↔ cmpP r p < 0) ∧ (cmp5 (r.take p.length) p = 0 ↔ cmpP r p = 0)
  | r, [], _ => by simp [cmp5, cmpP]
  | [], _ :: _, h => by simp at h
  | x :: r, y :: p, h => by
    have ih := cmp5_take r p (by simpa using h)
    rw [List.length_cons, List.take_succ_cons, cmp5, cmpP]
    by_cases h1 : x < y
    · rw [if_pos h1, if_pos h1]; simp
    · by_cases h2 : y < x
      · rw [if_neg h1, if_pos h2, if_neg h1, if_pos h2]; simp
      · rw [if_neg h1, if_neg h2, if_neg h1, if_neg h2]; exact ih
theorem lo_take {L : List Row} {p : Row} {k : Nat} (h : k < L.length) : lo (L.take (k + 1)) p = lo (L.take k) p + if cmpP L[k] p < 0 then 1 else 0 := by
  unfold lo
  rw [List.take_succ_eq_append_getElem h, List.filter_append, List.length_append]
  by_cases c : cmpP L[k] p < 0 <;> simp [c]
theorem eqs_take {L : List Row} {p : Row} {k : Nat} (h : k < L.length) : eqs (L.take (k + 1)) p = eqs (L.take k) p + if cmpP L[k] p = 0 then 1 else 0 := by
  unfold eqs
  rw [List.take_succ_eq_append_getElem h, List.filter_append, List.length_append]
  by_cases c : cmpP L[k] p = 0 <;> simp [c]
theorem mem_take {L : List Row} {p : Row} {k : Nat} (h : k < L.length) : decide (p ∈ L.take (k + 1)) = (decide (p ∈ L.take k) || decide (L[k] = p)) := by
  rw [List.take_succ_eq_append_getElem h, Bool.eq_iff_iff, Bool.or_eq_true, decide_eq_true_eq, decide_eq_true_eq, decide_eq_true_eq, List.mem_append, List.mem_singleton]
  exact or_congr Iff.rfl ⟨Eq.symm, Eq.symm⟩

set_option maxHeartbeats 8000000 in
set_option maxRecDepth 100000 in
theorem SegmentFinds_walk (x : Int) (rv : Value) (rs : List Row) (pv : Value) (p : Row) (w : World) (hx : In64 x) (hr : RowsAt w (fun _ => True) rv rs) (hp : RowAt w (fun _ => True) pv p) :
    Calls Try.prog 4 #[.int .i64 x, rv, pv] w fun e w' => e = .returned (.bool true) ∧ Below w.heap.size w w' := by
  obtain ⟨Ar, cr, hrv, _⟩ := hr.form
  obtain ⟨Ap, cp, hpv, hcp, hpm, hcm⟩ := hp.form
  subst hrv
  subst hpv
  have HR := Aside0.mk hr
  have HP := Aside0.mk hp
  clear hr hp
  obtain ⟨b, hb⟩ : ∃ b, few rs = b := ⟨_, rfl⟩
  have HF := Aside0.mk hb
  have FW := Aside0.mk (fun W (h : RowsAt W (fun _ => True) (.slice Ar rs.length cr) rs) => few_b W _ _ rs b h hb)
  clear hb
  go_enter Try.func4, Try.ntmps4
  go_wp2_with fail
  refine (head_any w).mono ?_
  rintro e w1 ⟨rfl, B1⟩
  have HR1 := Aside0.mk (HR.out.below reads_row B1)
  have HP1 := Aside0.mk (HP.out.below reads_int B1)
  have B1 := Aside0.mk B1
  have FW1 := Aside0.mk (FW.out w1 HR1.out)
  clear HR HP FW
  cases b with
  | false =>
    go_wp2_with (first | (go_at_call 9; (with_reducible refine (FW1.out).mono ?_); rintro e w' ⟨rfl, rfl⟩))
    go_ret
    exact ⟨rfl, B1.out⟩
  | true =>
    by_cases hpl : 8 < p.length
    · go_wp2_with (first | (go_at_call 9; (with_reducible refine (FW1.out).mono ?_); rintro e w' ⟨rfl, rfl⟩))
      go_ret
      exact ⟨rfl, B1.out⟩
    · obtain ⟨n, hn, hmod⟩ := mod_u x 5 (by omega) (by omega)
      rw [show ((5 : Nat) : Int) = 5 from rfl] at hmod
      have hfw := few_yes HF.out
      have SO := Aside0.mk (sorted_any w1 _ _ n rs HR1.out (by omega) (by omega))
      have HFW := Aside0.mk hfw
      clear hfw hx
      go_wp2_with (first | (go_at_call 9; (with_reducible refine (FW1.out).mono ?_); rintro e w' ⟨rfl, rfl⟩))
      refine (SO.out).mono ?_
      rintro e w2 ⟨lv, rfl, RL2, B2⟩
      have HP2 := Aside0.mk (HP1.out.below reads_int B2)
      have MK := Aside0.mk (make_any w2 _ _ n rs (HR1.out.below reads_row B2) (by omega) (by have := HFW.out.1; omega))
      obtain ⟨Al, cl, hlv, hcl, _⟩ := RL2.form
      subst hlv
      have B2 := Aside0.mk (below_trans0 B1.out B2)
      have RL2 := Aside0.mk RL2
      clear B1 HR1 HP1 FW1 SO
      go_wp2_with fail
      refine (MK.out).mono ?_
      rintro e w3 ⟨v, rfl, S3, B3⟩
      have HP3 := Aside0.mk (HP2.out.below reads_int B3)
      have RL3 := Aside0.mk (RL2.out.below reads_row B3)
      have B3 := Aside0.mk (below_trans0 B2.out B3)
      have hss := SS_norm n rs
      generalize norm n rs = L at *
      obtain ⟨g, cv, hv, _⟩ := S3.ex
      subst hv
      have SS3 := Aside0.mk hss
      have RLN := Aside0.mk (fun r hr => (S3.row r hr).1)
      have HLL := S3.len
      have S3 := Aside0.mk S3
      clear hss B2 HP2 MK RL2
      by_cases hpn : n < p.length
      · have PR := Aside0.mk (prefix_long w3 _ _ _ _ n L p S3.out HP3.out hpn)
        have hno : decide (p ∈ L) = false := by
          rw [decide_eq_false_iff_not]
          intro h
          have := RLN.out p h
          omega
        have HA := Aside0.mk (fun W (h : SegAt W (w2.heap.size ≤ ·) (.pointer (some ⟨g, 0, none⟩)) n L) (hp : RowAt W (fun _ => True) (.slice Ap p.length cp) p) => by
          have := has_any W _ _ _ _ n L p h SS3.out hp
          rw [hno] at this; exact this)
        have dp : decide (n < p.length) = true := by simpa using hpn
        clear hno
        go_wp2_with fail
        refine (PR.out).mono ?_
        rintro e w4 ⟨rfl, B4⟩
        have H4 := Aside0.mk (HA.out w4 (S3.out.below B4) (HP3.out.below reads_int B4))
        have B4 := Aside0.mk (below_trans0 B3.out B4)
        clear PR HA S3 B3 HP3
        go_wp2_with fail
        refine (H4.out).mono ?_
        rintro e w5 ⟨rfl, B5⟩
        have B5 := Aside0.mk (below_trans0 B4.out B5)
        clear H4 B4
        go_wp2
        go_ret
        exact ⟨rfl, B5.out⟩
      · have PR := Aside0.mk (prefix_any w3 _ _ _ _ n L p S3.out SS3.out HP3.out (by omega))
        have HA := Aside0.mk (fun W (h : SegAt W (w2.heap.size ≤ ·) (.pointer (some ⟨g, 0, none⟩)) n L) (hp : RowAt W (fun _ => True) (.slice Ap p.length cp) p) => has_any W _ _ _ _ n L p h SS3.out hp)
        have dp : decide (n < p.length) = false := by simpa using hpn
        have hhi := hi_eq L p
        have hlo := lo_le L p
        have hh2 := hi_le L p
        go_wp2_with fail
        refine (PR.out).mono ?_
        rintro e w4 ⟨rfl, B4⟩
        have S4 := Aside0.mk (S3.out.below B4)
        have HP4 := Aside0.mk (HP3.out.below reads_int B4)
        have RL4 := Aside0.mk (RL3.out.below reads_row B4)
        have B4 := Aside0.mk (below_trans0 B3.out B4)
        have HHI := Aside0.mk hhi
        clear PR S3 B3 HP3 RL3 hhi
        go_wp2
        go_loopw [11, 12, 13, 61] (fun s11 s12 s13 s61 wr => ∃ (k m a c : Nat) (is : Bool), s61 = .int .i64 k ∧ k ≤ L.length ∧ s12 = .int .i64 a ∧ s13 = .int .i64 c ∧ s11 = .bool is ∧ wr = w4.drewN m ∧ a ≤ k ∧ c ≤ k ∧ Aside0 (a = lo (L.take k) p ∧ c = eqs (L.take k) p ∧ is = decide (p ∈ L.take k))) (fun _ _ _ s61 _ => L.length - (intOf s61).toNat)
        case atStart => exact ⟨0, 0, 0, 0, false, rfl, Nat.zero_le _, rfl, rfl, rfl, rfl, Nat.le_refl _, Nat.le_refl _, ⟨rfl, rfl, by simp⟩⟩
        case round =>
          obtain ⟨k, m, a, c, is, rfl, hk, rfl, rfl, rfl, rfl, hak, hck, HI⟩ := hrel
          by_cases hlt : k < L.length
          · obtain ⟨bl, ol, ul, rfl, _, _, hcl1, hrl⟩ := RL4.out.at_ k hlt
            obtain ⟨Ax, cx, hul, hcx, hxm, _⟩ := hrl.form
            have hrn := RLN.out _ (List.getElem_mem hlt)
            rw [hul, hrn] at hcl1
            rw [hul, hrn] at hrl
            have HX := Aside0.mk hrl
            have HT := Aside0.mk (hrl.take p.length (by omega))
            have hct := cmp5_take L[k] p (by omega)
            have hcz := cmp5_zero L[k] p
            have hl2 := lo_take (p := p) hlt
            have he2 := eqs_take (p := p) hlt
            have hm2 := mem_take (p := p) hlt
            have C1 := Aside0.mk (fun q => compare5_any (w4.drewN q) _ _ _ _ _ _ (reads_row.stays HT.out (Stays.drewN _ _ _)) (reads_row.stays HP4.out (Stays.drewN _ _ _)))
            have C2 := Aside0.mk (fun q => compare5_any (w4.drewN q) _ _ _ _ _ _ (reads_row.stays HX.out (Stays.drewN _ _ _)) (reads_row.stays HP4.out (Stays.drewN _ _ _)))
            obtain ⟨c1, hc1⟩ : ∃ c1, cmp5 ((L[k]).take p.length) p = c1 := ⟨_, rfl⟩
            obtain ⟨c2, hc2⟩ : ∃ c2, cmp5 L[k] p = c2 := ⟨_, rfl⟩
            rw [hc1] at C1 hct
            rw [hc2] at C2 hcz
            rw [hrn] at hcx
            have hpcx : p.length ≤ cx := by omega
            have hq : (if cmpP L[k] p < 0 then 1 else 0) = (if c1 < 0 then 1 else 0 : Nat) := by simp [hct.1]
            have hq2 : (if cmpP L[k] p = 0 then 1 else 0) = (if c1 = 0 then 1 else 0 : Nat) := by simp [hct.2]
            have hq3 : decide (L[k] = p) = (c2 == 0) := by
              rw [Bool.eq_iff_iff]; simp [hcz]
            rw [hq] at hl2
            rw [hq2] at he2
            rw [hq3] at hm2
            have H2 := Aside0.mk (And.intro hl2 (And.intro he2 hm2))
            clear hl2 he2 hm2 hq hq2 hq3 hc1 hc2 hct hcz hrl hul hrn HT HX
            have key : ∀ a' c' is', a' = a + (if c1 < 0 then 1 else 0) → c' = c + (if c1 = 0 then 1 else 0) → is' = (is || (c2 == 0)) → Aside0 (a' = lo (L.take (k + 1)) p ∧ c' = eqs (L.take (k + 1)) p ∧ is' = decide (p ∈ L.take (k + 1))) := by
              rintro a' c' is' rfl rfl rfl
              obtain ⟨i1, i2, i3⟩ := HI.out
              obtain ⟨j1, j2, j3⟩ := H2.out
              exact ⟨by rw [j1, i1], by rw [j2, i2], by rw [j3, i3]⟩
            have KEY := Aside0.mk key
            clear key H2 HI
            cases is with
            | true =>
              by_cases h1 : c1 < 0
              · have e1 : decide (c1 < 0) = true := by simpa using h1
                have e2 : (c1 == 0) = false := by rw [beq_eq_false_iff_ne]; omega
                go_wp2_with fail
                refine (C1.out m).mono ?_
                rintro e w' ⟨rfl, q1, rfl⟩
                go_wp2
                go_roundw
                case rel => exact ⟨k + 1, _, a + 1, c, true, by go_num, by omega, by go_num, rfl, rfl, rfl, by omega, by omega, KEY.out _ _ _ (by rw [if_pos (by omega)]) (by rw [if_neg (by omega)]; rfl) rfl⟩
                case measure => simp [intOf]; omega
              · have e1 : decide (c1 < 0) = false := by simpa using h1
                by_cases h2 : c1 = 0
                · have e2 : (c1 == 0) = true := by simpa using h2
                  have H2 := Aside0.mk h2
                  clear h2
                  go_wp2_with fail
                  refine (C1.out m).mono ?_
                  rintro e w' ⟨rfl, q1, rfl⟩
                  go_wp2
                  go_roundw
                  case rel => exact ⟨k + 1, _, a, c + 1, true, by go_num, by omega, rfl, by go_num, rfl, rfl, by omega, by omega, KEY.out _ _ _ (by rw [if_neg (by omega)]; rfl) (by rw [if_pos H2.out]) rfl⟩
                  case measure => simp [intOf]; omega
                · have e2 : (c1 == 0) = false := by simpa using h2
                  go_wp2_with fail
                  refine (C1.out m).mono ?_
                  rintro e w' ⟨rfl, q1, rfl⟩
                  go_wp2
                  go_roundw
                  case rel => exact ⟨k + 1, _, a, c, true, by go_num, by omega, rfl, rfl, rfl, rfl, by omega, by omega, KEY.out _ _ _ (by rw [if_neg (by omega)]; rfl) (by rw [if_neg h2]; rfl) rfl⟩
                  case measure => simp [intOf]; omega
            | false =>
              obtain ⟨z, hz⟩ : ∃ z, (c2 == 0) = z := ⟨_, rfl⟩
              have KZ := Aside0.mk hz
              by_cases h1 : c1 < 0
              · have e1 : decide (c1 < 0) = true := by simpa using h1
                have e2 : (c1 == 0) = false := by rw [beq_eq_false_iff_ne]; omega
                go_wp2_with fail
                refine (C1.out m).mono ?_
                rintro e w' ⟨rfl, q1, rfl⟩
                rw [World.drewN_drewN]
                go_wp2_with fail
                refine (C2.out (m + q1)).mono ?_
                rintro e w' ⟨rfl, q2, rfl⟩
                go_wp2
                go_roundw
                case rel => exact ⟨k + 1, _, a + 1, c, z, by go_num, by omega, by go_num, rfl, rfl, rfl, by omega, by omega, KEY.out _ _ _ (by rw [if_pos (by omega)]) (by rw [if_neg (by omega)]; rfl) (by rw [KZ.out]; rfl)⟩
                case measure => simp [intOf]; omega
              · have e1 : decide (c1 < 0) = false := by simpa using h1
                by_cases h2 : c1 = 0
                · have e2 : (c1 == 0) = true := by simpa using h2
                  have H2 := Aside0.mk h2
                  clear h2
                  go_wp2_with fail
                  refine (C1.out m).mono ?_
                  rintro e w' ⟨rfl, q1, rfl⟩
                  rw [World.drewN_drewN]
                  go_wp2_with fail
                  refine (C2.out (m + q1)).mono ?_
                  rintro e w' ⟨rfl, q2, rfl⟩
                  go_wp2
                  go_roundw
                  case rel => exact ⟨k + 1, _, a, c + 1, z, by go_num, by omega, rfl, by go_num, rfl, rfl, by omega, by omega, KEY.out _ _ _ (by rw [if_neg (by omega)]; rfl) (by rw [if_pos H2.out]) (by rw [KZ.out]; rfl)⟩
                  case measure => simp [intOf]; omega
                · have e2 : (c1 == 0) = false := by simpa using h2
                  go_wp2_with fail
                  refine (C1.out m).mono ?_
                  rintro e w' ⟨rfl, q1, rfl⟩
                  rw [World.drewN_drewN]
                  go_wp2_with fail
                  refine (C2.out (m + q1)).mono ?_
                  rintro e w' ⟨rfl, q2, rfl⟩
                  go_wp2
                  go_roundw
                  case rel => exact ⟨k + 1, _, a, c, z, by go_num, by omega, rfl, rfl, rfl, rfl, by omega, by omega, KEY.out _ _ _ (by rw [if_neg (by omega)]; rfl) (by rw [if_neg h2]; rfl) (by rw [KZ.out]; rfl)⟩
                  case measure => simp [intOf]; omega
          · obtain rfl : k = L.length := by omega
            rw [List.take_length] at HI
            obtain ⟨i1, i2, i3⟩ := HI.out
            have HA1 := Aside0.mk (HA.out (w4.drewN m) (S4.out.stays (Stays.drewN _ _ _)) (reads_row.stays HP4.out (Stays.drewN _ _ _)))
            have f1 : ((lo L p : Int) == (a : Int)) = true := by rw [i1]; simp
            have f2 : ((hi L p : Int) == (a : Int) + (c : Int)) = true := by rw [i1, i2, HHI.out]; simp
            have f3 : (decide (p ∈ L) == is) = true := by rw [i3]; simp
            have B5 := Aside0.mk (below_drewN B4.out m)
            clear i1 i2 i3 HI
            generalize decide (p ∈ L) = z at *
            generalize lo L p = f at *
            generalize hi L p = t at *
            go_wp2_with fail
            refine (HA1.out).mono ?_
            rintro e w5 ⟨rfl, B6⟩
            have B6 := Aside0.mk (below_trans0 B5.out B6)
            go_wp2
            go_ret
            exact ⟨rfl, B6.out⟩
end Go.Proofs.Ytnnjokbafkcnjaa.Sg
