/- IndexBare: by no place all rows are alike; of no rows nothing is found. -/
import Derived.Test.YtihilledbnnniaaSgXk
import Derived.Test.YtihilledbnnniaaSgL
namespace Go.Proofs.Ytihilledbnnniaa.Sg
open Go.RowKit Go.Shelf
set_option linter.unusedVariables false
set_option linter.unusedSimpArgs false

theorem whichFrom_same (k : Row) (n a : Nat) : (whichFrom a (List.replicate n k) k).length = n ∧ ∀ j (h : j < (whichFrom a (List.replicate n k) k).length), (whichFrom a (List.replicate n k) k)[j] = ((a + j : Nat) : Int) := by
  induction n generalizing a with
  | zero => exact ⟨rfl, fun j h => by simp [whichFrom] at h⟩
  | succ n ih =>
    obtain ⟨h1, h2⟩ := ih (a + 1)
    simp only [List.replicate_succ, whichFrom, if_pos]
    refine ⟨by simp [h1], fun j h => ?_⟩
    cases j with
    | zero => simp
    | succ j =>
      rw [List.getElem_cons_succ, h2 j (by simpa using h)]
      congr 1; omega
theorem bare_keys (L : List Row) : (L.map fun r => keyOf r []) = List.replicate L.length [] := by
  induction L with
  | nil => rfl
  | cons a L ih => rw [List.map_cons, ih]; rfl

set_option maxHeartbeats 4000000 in
set_option maxRecDepth 100000 in
theorem IndexBare_walk (x : Int) (rv : Value) (rs : List Row) (pv : Value) (p : Row) (w : World) (hx : In64 x) (hr : RowsAt w (fun _ => True) rv rs) (hp : RowAt w (fun _ => True) pv p) :
    Calls Try.prog 5 #[.int .i64 x, rv, pv] w fun e w' => e = .returned (.bool true) ∧ Below w.heap.size w w' := by
  obtain ⟨Ar, cr, hrv, _⟩ := hr.form
  obtain ⟨Ap, cp, hpv, hcp, hpm, hcm⟩ := hp.form
  subst hrv
  subst hpv
  have HR := Aside0.mk hr
  have HP := Aside0.mk hp
  clear hr hp
  obtain ⟨b, hb⟩ : ∃ b, few rs = b := ⟨_, rfl⟩
  have HF := Aside0.mk hb
  have FW := Aside0.mk (fun W (h : RowsAt W (fun _ => True) (.slice Ar rs.length cr) rs) => few_b W _ _ rs b h hb)
  clear hb
  go_enter Try.func5, Try.ntmps5
  go_wp2_with fail
  refine (head7_any w).mono ?_
  rintro e w1 ⟨rfl, B1⟩
  have HR1 := Aside0.mk (HR.out.below reads_row B1)
  have HP1 := Aside0.mk (HP.out.below reads_int B1)
  have B1 := Aside0.mk B1
  have FW1 := Aside0.mk (FW.out w1 HR1.out)
  clear HR HP FW
  cases b with
  | false =>
    go_wp2_with (first | (go_at_call 12; (with_reducible refine (FW1.out).mono ?_); rintro e w' ⟨rfl, rfl⟩))
    go_ret
    exact ⟨rfl, B1.out⟩
  | true =>
    by_cases hpl : 8 < p.length
    · go_wp2_with (first | (go_at_call 12; (with_reducible refine (FW1.out).mono ?_); rintro e w' ⟨rfl, rfl⟩))
      go_ret
      exact ⟨rfl, B1.out⟩
    · obtain ⟨n, hn, hmod⟩ := mod_u x 5 (by omega) (by omega)
      rw [show ((5 : Nat) : Int) = 5 from rfl] at hmod
      have hfw := few_yes HF.out
      have MK := Aside0.mk (make_any w1 _ _ n rs HR1.out (by omega) (by omega))
      clear hfw hx
      go_wp2_with (first | (go_at_call 12; (with_reducible refine (FW1.out).mono ?_); rintro e w' ⟨rfl, rfl⟩))
      refine (MK.out).mono ?_
      rintro e w2 ⟨v, rfl, S2, B2⟩
      have HP2 := Aside0.mk (HP1.out.below reads_int B2)
      have B2 := Aside0.mk (below_trans0 B1.out B2)
      generalize norm n rs = L at *
      obtain ⟨g, cv, hv, _⟩ := S2.ex
      subst hv
      have BD := Aside0.mk (build_any w2 _ _ _ nilS n L [] S2 (SlAt.nil _ w2 (fun _ => True) none 0 (by omega)) (by simp))
      have hL := S2.len
      have hul := uniq_length (L.map fun r => keyOf r [])
      rw [List.length_map] at hul
      have hul := Aside0.mk hul
      obtain ⟨AL, hAL⟩ : ∃ AL, which (L.map fun r => keyOf r []) [] = AL := ⟨_, rfl⟩
      have hA1 : AL.length = L.length := by rw [← hAL, bare_keys]; exact (whichFrom_same [] _ 0).1
      have hA2 : ∀ j (h : j < AL.length), AL[j] = (j : Int) := by
        subst hAL
        rw [bare_keys]
        intro j h
        have := (whichFrom_same [] L.length 0).2 j h
        rw [Nat.zero_add] at this
        exact this
      have HA2 := Aside0.mk hA2
      have HAL := Aside0.mk hAL
      have S2 := Aside0.mk S2
      clear B1 HR1 HP1 FW1 MK hA2 hAL hn hmod
      go_wp2_with fail
      refine (BD.out).mono ?_
      rintro e w3 ⟨gx, m, rfl, IX, B3⟩
      have PB := Aside0.mk (probe_any w3 _ _ _ _ _ (fun _ => True) nilS [] IX (SlAt.nil _ w3 (fun _ => True) none 0 (by omega)) (by have := hul.out; omega))
      have HP3 := Aside0.mk (HP2.out.below reads_int B3)
      have S3 := Aside0.mk (S2.out.below B3)
      have B3 := Aside0.mk (below_trans0 B2.out B3)
      clear BD IX HP2 S2 B2
      go_wp2_with fail
      refine (PB.out).mono ?_
      rintro e w4 ⟨av, rfl, RP, B4⟩
      rw [HAL.out] at RP
      obtain ⟨Aa, ca, haf, hca, ham, _⟩ := RP.form
      subst haf
      have HP4 := Aside0.mk (HP3.out.below reads_int B4)
      have S4 := Aside0.mk (S3.out.below B4)
      have B4 := Aside0.mk (below_trans0 B3.out B4)
      have RP := Aside0.mk RP
      clear PB HP3 S3 B3
      go_wp2
      go_loop [33] (fun s => ∃ k : Nat, s = .int .i64 k ∧ k ≤ AL.length) (fun s => AL.length - (intOf s).toNat)
      case atStart => exact ⟨0, rfl, Nat.zero_le _⟩
      case round =>
        obtain ⟨k, rfl, hk⟩ := hrel
        by_cases hlt : k < AL.length
        · obtain ⟨b, o, u, rfl, _, _, hc, rfl, _⟩ := RP.out.at_ k hlt
          rw [HA2.out k hlt] at hc
          have dk : ((k : Int) != (k : Int)) = false := by simp
          go_wp2
          go_round
          case rel => exact ⟨k + 1, by go_num, by omega⟩
          case measure => simp [intOf]; omega
        · have BA := below_alloc0 (Below.refl w4.heap.size w4) (.cells #[.int .i64 0] 3)
          have RA := RowAt.newT w4 [0] 3 (by decide) (fun x hx => in64_small (by simp at hx; omega))
          have BN := Aside0.mk (build_nil _ _ _ [0] RA (by decide))
          have HP5 := Aside0.mk (HP4.out.below reads_int BA)
          have S5 := Aside0.mk (S4.out.below BA)
          have BA := Aside0.mk (below_trans0 B4.out BA)
          obtain rfl : k = AL.length := by omega
          clear RA HP4 S4 B4 hlt hk
          rw [hA1]
          go_wp2_with fail
          refine (BN.out).mono ?_
          rintro e w6 ⟨gn, mn, rfl, IN, B6⟩
          have HP6 := HP5.out.below reads_int B6
          have LN := Aside0.mk (len_any w6 _ _ _ _ (S5.out.below B6))
          have PN := Aside0.mk (probe_any w6 _ _ _ _ _ _ _ p IN HP6 (by simp [uniq]))
          have IN := Aside0.mk IN
          have B6 := Aside0.mk (below_trans0 BA.out B6)
          clear BN HP5 S5 BA HP6
          go_wp2_with fail
          refine (LN.out).mono ?_
          rintro e w7 ⟨rfl, rfl⟩
          go_wp2_with fail
          refine (PN.out).mono ?_
          rintro e w8 ⟨nv, rfl, RN, B8⟩
          have hwn : which ([] : List Row) p = [] := rfl
          rw [hwn] at RN
          obtain ⟨An, cn, hnf, _⟩ := RN.form
          subst hnf
          have LX := Aside0.mk (lenx_any w8 _ _ _ _ _ (IN.out.below B8))
          have hu0 : (uniq ([] : List Row)).length = 0 := rfl
          rw [hu0] at LX
          have B8 := Aside0.mk (below_trans0 B6.out B8)
          clear PN LN IN RN
          go_wp2_with fail
          refine (LX.out).mono ?_
          rintro e w9 ⟨rfl, rfl⟩
          go_wp2
          go_ret
          exact ⟨rfl, B8.out⟩
end Go.Proofs.Ytihilledbnnniaa.Sg
