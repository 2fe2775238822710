/- GraphRaw: the walk. -/
import Derived.Test.YtcpjlfhehjmfbaaGsH
namespace Go.Proofs.Ytcpjlfhehjmfbaa.Sg
open Go.RowKit Go.Shelf Go.Proofs.Ytcpjlfhehjmfbaa.Gr
set_option linter.unusedVariables false
set_option linter.unusedSimpArgs false
theorem mem_take_succ {l : Row} {k : Nat} (x : Int) (hk : k < l.length) : decide (x ∈ l.take (k + 1)) = (decide (x ∈ l.take k) || decide (l[k] = x)) := by
  rw [List.take_succ_eq_append_getElem hk]
  by_cases h1 : x ∈ l.take k
  · rw [decide_eq_true h1, decide_eq_true (List.mem_append_left _ h1)]; rfl
  · by_cases h2 : l[k] = x
    · rw [decide_eq_true h2, decide_eq_true (List.mem_append_right _ (by rw [h2]; exact List.mem_singleton.2 rfl))]; simp
    · rw [decide_eq_false h1, decide_eq_false h2, decide_eq_false (fun m => by
        rcases List.mem_append.1 m with q | q
        · exact h1 q
        · exact h2 (List.mem_singleton.1 q).symm)]
      rfl
set_option maxHeartbeats 2000000 in
set_option maxRecDepth 100000 in
theorem GraphRaw_walk (ev : Value) (es : List Row) (x : Int) (w : World) (he : RowsAt w (fun _ => True) ev es) (hx : In64 x) :
    Calls Try.prog 4 #[ev, .int .i64 x] w fun e w' => e = .returned (.bool true) ∧ Below w.heap.size w w' := by
  obtain ⟨A1, c1, rfl, ha1, ha2, ha3⟩ := he.form
  have HE := Aside0.mk he
  obtain ⟨n, hn⟩ : ∃ n, es.length = n := ⟨_, rfl⟩
  have HN := Aside0.mk hn
  rw [hn] at ha1 ha2
  rw [hn]
  have HD := Aside0.mk (head17_any w)
  obtain ⟨r, hr⟩ : ∃ r, decide (0 ≤ x ∧ x < (es.length : Int) ∧ x ∈ es.getD x.toNat []) = r := ⟨_, rfl⟩
  have HR := Aside0.mk hr
  clear hx he hn hr
  go_enter Try.func4, Try.ntmps4
  go_wp2_with fail
  refine HD.out.mono ?_
  rintro e w1 ⟨rfl, B1⟩
  have HB1 := Aside0.mk B1
  clear HD B1
  by_cases hl : 12 < n
  · have hli : (12 : Int) < (n : Int) := by omega
    go_wp2
    go_ret
    exact ⟨rfl, HB1.out⟩
  · have hli : ¬ (12 : Int) < (n : Int) := by omega
    have HE1 := Aside0.mk (SlAt.below reads_row HE.out HB1.out)
    rw [HN.out] at HE1
    go_wp2_with fail
    go_loopw [18] (fun s18 wq => ∃ i : Nat, s18 = .int .i64 i ∧ i ≤ n ∧ Aside0 (∀ j (h1 : j < i) (h2 : j < es.length), (es[j]).length ≤ 20) ∧ Aside0 (w1 = wq)) (fun s18 _ => n - (intOf s18).toNat)
    case atStart => exact ⟨0, rfl, Nat.zero_le _, ⟨fun j h => by omega⟩, ⟨by first | rfl | trivial⟩⟩
    case round =>
      obtain ⟨i, rfl, hi, HS, HW⟩ := hrel
      obtain rfl := HW.out
      by_cases hin : i < n
      · have hini : (i : Int) < (n : Int) := by omega
        have ti : ((i : Nat) : Int).toNat = i := by omega
        have HI := Aside0.mk (show i < es.length by rw [HN.out]; exact hin)
        obtain ⟨b1, o1, u1, rfl, -, -, hc1, hr1⟩ := HE1.out.at_ i HI.out
        obtain ⟨A2, c2, rfl, hm1, hm2, hm3⟩ := hr1.form
        obtain ⟨ml, hml⟩ : ∃ ml, (es[i]'HI.out).length = ml := ⟨_, rfl⟩
        rw [hml] at hc1 hm1 hm2
        have HML := Aside0.mk hml
        clear hml hr1
        by_cases hm : 20 < ml
        · have hmi : (20 : Int) < (ml : Int) := by omega
          go_wp2
          (try simp only [Exit.inBlock, Exit.then])
          refine bodyPost_ret (results_tmp rfl _ _ _) rfl ?_
          exact ⟨rfl, HB1.out⟩
        · have hmi : ¬ (20 : Int) < (ml : Int) := by omega
          have HS2 := Aside0.mk (show ∀ j (h1 : j < i + 1) (h2 : j < es.length), (es[j]).length ≤ 20 from fun j h1 h2 => by
            by_cases e : j = i
            · subst e; rw [HML.out]; omega
            · exact HS.out j (by omega) h2)
          clear HS
          go_wp2
          go_roundw
          case rel => exact ⟨i + 1, by go_num, by omega, HS2, ⟨by first | rfl | trivial⟩⟩
          case measure => simp [intOf]; omega
      · obtain rfl : n = i := by omega
        have hini : ¬ (n : Int) < (n : Int) := by omega
        have HTOT := Aside0.mk (show tot es < 1000000 by
          have := tot_le es 20 (fun r hr => by
            obtain ⟨j, hj, rfl⟩ := List.mem_iff_getElem.1 hr
            exact HS.out j (by rw [← HN.out]; exact hj) hj)
          rw [HN.out] at this
          have h2 : n * 20 ≤ 12 * 20 := Nat.mul_le_mul_right _ (by omega)
          omega)
        have CO := Aside0.mk (Components_any w1 _ es n (reads_rows.mono HE1.out (fun k _ hl => hl)) HN.out (by omega) HTOT.out)
        clear HS HW
        go_wp2_with fail
        refine CO.out.mono ?_
        rintro e w3 ⟨v, L, rfl, hL, hpg, hf, hb⟩
        have HL := Aside0.mk hL
        have HPG := Aside0.mk (And.intro hpg hf)
        have HB3 := Aside0.mk (below_trans0 HB1.out hb)
        have HE3 := Aside0.mk (SlAt.below reads_row HE1.out hb)
        have LC := Aside0.mk (law_components_any w3 _ _ es n HE3.out HN.out (by omega))
        clear CO hL hpg hf hb
        by_cases h0 : 0 ≤ x
        · obtain ⟨xn, rfl⟩ : ∃ xn : Nat, x = (xn : Int) := ⟨x.toNat, by omega⟩
          have tx : ((xn : Nat) : Int).toNat = xn := by omega
          by_cases h1 : xn < n
          · have h1i : (xn : Int) < (n : Int) := by omega
            have HI := Aside0.mk (show xn < es.length by rw [HN.out]; exact h1)
            obtain ⟨b1, o1, u1, rfl, -, -, hc1, hr1⟩ := HE3.out.at_ xn HI.out
            obtain ⟨A2, c2, rfl, hm1, hm2, hm3⟩ := hr1.form
            obtain ⟨ml, hml⟩ : ∃ ml, (es[xn]'HI.out).length = ml := ⟨_, rfl⟩
            rw [hml] at hc1 hm1 hm2
            have HML := Aside0.mk hml
            have HR1 := Aside0.mk hr1
            have HRR := Aside0.mk (show decide ((xn : Int) ∈ es[xn]'HI.out) = r by
              rw [← HR.out]
              have e1 : es.getD xn [] = es[xn]'HI.out := by rw [List.getD_eq_getElem?_getD, List.getElem?_eq_getElem HI.out]; rfl
              rw [tx, e1]
              by_cases q : (xn : Int) ∈ es[xn]'HI.out
              · rw [decide_eq_true q, decide_eq_true ⟨h0, by rw [HN.out]; exact h1i, q⟩]
              · rw [decide_eq_false q, decide_eq_false (fun k => q k.2.2)])
            clear hml hr1
            go_wp2_with fail
            clear hc1
            go_loopw [8, 41] (fun s8 s41 wq => ∃ (k : Nat) (lp : Bool), s8 = .bool lp ∧ s41 = .int .i64 k ∧ k ≤ ml ∧ Aside0 (lp = decide ((xn : Int) ∈ (es[xn]'HI.out).take k)) ∧ Aside0 (w3 = wq)) (fun _ s41 _ => ml - (intOf s41).toNat)
            case atStart => exact ⟨0, false, rfl, rfl, Nat.zero_le _, ⟨by simp⟩, ⟨by first | rfl | trivial⟩⟩
            case round =>
              obtain ⟨k, lp, rfl, rfl, hk, HLP, HW⟩ := hrel
              obtain rfl := HW.out
              by_cases hkl : k < ml
              · have hkli : (k : Int) < (ml : Int) := by omega
                have tk : ((k : Nat) : Int).toNat = k := by omega
                have HK := Aside0.mk (show k < (es[xn]'HI.out).length by rw [HML.out]; exact hkl)
                obtain ⟨b2, o2, u2, rfl, -, -, hc2, hv2, -⟩ := HR1.out.at_ k HK.out
                subst hv2
                obtain ⟨t, ht⟩ : ∃ t, ((es[xn]'HI.out)[k]'HK.out) = t := ⟨_, rfl⟩
                rw [ht] at hc2
                have HT := Aside0.mk (mem_take_succ (xn : Int) HK.out)
                rw [ht, ← HLP.out] at HT
                clear ht HLP
                cases lp with
                | true =>
                  have HT2 : Aside0 (true = decide ((xn : Int) ∈ (es[xn]'HI.out).take (k + 1))) := ⟨by rw [HT.out]; rfl⟩
                  clear HT
                  go_wp2
                  go_roundw
                  case rel => exact ⟨k + 1, true, rfl, by go_num, by omega, HT2, ⟨by first | rfl | trivial⟩⟩
                  case measure => simp [intOf]; omega
                | false =>
                  by_cases htx : t = (xn : Int)
                  · have htb : (t == (xn : Int)) = true := by rw [beq_iff_eq]; exact htx
                    have HT2 : Aside0 (true = decide ((xn : Int) ∈ (es[xn]'HI.out).take (k + 1))) := ⟨by rw [HT.out, decide_eq_true htx]; rfl⟩
                    have htd : decide (t = (xn : Int)) = true := decide_eq_true htx
                    clear HT htx
                    go_wp2
                    go_roundw
                    case rel => exact ⟨k + 1, true, rfl, by go_num, by omega, HT2, ⟨by first | rfl | trivial⟩⟩
                    case measure => simp [intOf]; omega
                  · have htb : (t == (xn : Int)) = false := by rw [beq_eq_false_iff_ne]; exact htx
                    have HT2 : Aside0 (false = decide ((xn : Int) ∈ (es[xn]'HI.out).take (k + 1))) := ⟨by rw [HT.out, decide_eq_false htx]; rfl⟩
                    go_wp2
                    go_roundw
                    case rel => exact ⟨k + 1, false, rfl, by go_num, by omega, HT2, ⟨by first | rfl | trivial⟩⟩
                    case measure => simp [intOf]; omega
              · obtain rfl : ml = k := by omega
                have hkli : ¬ (ml : Int) < (ml : Int) := by omega
                obtain rfl : lp = r := by
                  rw [HLP.out, ← HRR.out, ← HML.out, List.take_length]
                clear HLP HRR HW
                go_wp2_with fail
                refine LC.out.mono ?_
                rintro e w4 ⟨v2, rfl, L2, hL2, hpg2, hf2, hb2⟩
                obtain rfl : L = L2 := HPG.out.1.unique hpg2 HPG.out.2 hf2
                have IS := Aside0.mk (is17_any w4 _ _ v v2 _ _ (HL.out.below reads_row hb2) hL2)
                have HB4 := Aside0.mk (below_trans0 HB3.out hb2)
                have HE4 := Aside0.mk (SlAt.below reads_row HE3.out hb2)
                clear LC hL2 hpg2 hf2 hb2
                go_wp2_with fail
                refine IS.out.mono ?_
                rintro e w5 ⟨he, hb5⟩
                replace he : e = .returned (.bool true) := by simpa using he
                subst he
                have HB5 := Aside0.mk (below_trans0 HB4.out hb5)
                have LP := Aside0.mk (loops_any w5 _ _ es (xn : Int) (SlAt.below reads_row HE4.out hb5))
                rw [HR.out] at LP
                clear hb5 IS
                go_wp2_with fail
                refine LP.out.mono ?_
                rintro e w6 ⟨rfl, rfl⟩
                go_wp2
                go_ret
                exact ⟨rfl, HB5.out⟩
          · have h1i : ¬ (xn : Int) < (n : Int) := by omega
            have h1d : decide ((xn : Int) < (n : Int)) = false := decide_eq_false h1i
            obtain rfl : r = false := by
              rw [← HR.out]
              exact decide_eq_false (fun k => h1i (by have := k.2.1; rw [HN.out] at this; exact this))
            clear h1
            go_wp2_with fail
            refine LC.out.mono ?_
            rintro e w4 ⟨v2, rfl, L2, hL2, hpg2, hf2, hb2⟩
            obtain rfl : L = L2 := HPG.out.1.unique hpg2 HPG.out.2 hf2
            have IS := Aside0.mk (is17_any w4 _ _ v v2 _ _ (HL.out.below reads_row hb2) hL2)
            have HB4 := Aside0.mk (below_trans0 HB3.out hb2)
            have HE4 := Aside0.mk (SlAt.below reads_row HE3.out hb2)
            clear LC hL2 hpg2 hf2 hb2
            go_wp2_with fail
            refine IS.out.mono ?_
            rintro e w5 ⟨he, hb5⟩
            replace he : e = .returned (.bool true) := by simpa using he
            subst he
            have HB5 := Aside0.mk (below_trans0 HB4.out hb5)
            have LP := Aside0.mk (loops_any w5 _ _ es (xn : Int) (SlAt.below reads_row HE4.out hb5))
            rw [HR.out] at LP
            clear hb5 IS
            go_wp2_with fail
            refine LP.out.mono ?_
            rintro e w6 ⟨rfl, rfl⟩
            go_wp2
            go_ret
            exact ⟨rfl, HB5.out⟩
        · have h2 : x < 0 := by omega
          have h3 : decide (0 ≤ x) = false := decide_eq_false h0
          have h4 : decide (x ≥ 0) = false := decide_eq_false h0
          obtain rfl : r = false := by
            rw [← HR.out]
            exact decide_eq_false (fun k => h0 k.1)
          go_wp2_with fail
          refine LC.out.mono ?_
          rintro e w4 ⟨v2, rfl, L2, hL2, hpg2, hf2, hb2⟩
          obtain rfl : L = L2 := HPG.out.1.unique hpg2 HPG.out.2 hf2
          have IS := Aside0.mk (is17_any w4 _ _ v v2 _ _ (HL.out.below reads_row hb2) hL2)
          have HB4 := Aside0.mk (below_trans0 HB3.out hb2)
          have HE4 := Aside0.mk (SlAt.below reads_row HE3.out hb2)
          clear LC hL2 hpg2 hf2 hb2
          go_wp2_with fail
          refine IS.out.mono ?_
          rintro e w5 ⟨he, hb5⟩
          replace he : e = .returned (.bool true) := by simpa using he
          subst he
          have HB5 := Aside0.mk (below_trans0 HB4.out hb5)
          have LP := Aside0.mk (loops_any w5 _ _ es x (SlAt.below reads_row HE4.out hb5))
          rw [HR.out] at LP
          clear hb5 IS
          go_wp2_with fail
          refine LP.out.mono ?_
          rintro e w6 ⟨rfl, rfl⟩
          go_wp2
          go_ret
          exact ⟨rfl, HB5.out⟩
end Go.Proofs.Ytcpjlfhehjmfbaa.Sg
