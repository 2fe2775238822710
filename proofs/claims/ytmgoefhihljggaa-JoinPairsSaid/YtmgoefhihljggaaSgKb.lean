/- JoinPairs: just the pairs whose numbers are the same, in order, by an index and by going through both. The walk. -/
import Derived.Test.YtmgoefhihljggaaSgKa
import Derived.Test.YtmgoefhihljggaaSgYi
import Derived.Test.YtmgoefhihljggaaSgYd
import Derived.Test.YtmgoefhihljggaaSgYe
import Derived.Test.YtmgoefhihljggaaSgYf
namespace Go.Proofs.Ytmgoefhihljggaa.Sg
open Go.RowKit Go.Shelf
set_option linter.unusedVariables false
set_option linter.unusedSimpArgs false

set_option maxHeartbeats 4000000 in
set_option maxRecDepth 100000 in
theorem JoinPairs_walk (sv : Value) (s : SidesD) (x : Int) (w : World) (hs : SidesAt w (fun _ => True) sv s) (hx : In64 x) :
    Calls Try.prog 4 #[sv, .int .i64 x] w fun e w' => e = .returned (.bool true) ∧ Below w.heap.size w w' := by
  have HS := Aside0.mk hs
  obtain ⟨vA, vB, vKA, vKB, hv, h1, h2, hA, hB, hKA, hKB⟩ := hs
  obtain ⟨AA, cA, rfl, _⟩ := hKA.form
  obtain ⟨AB, cB, rfl, _⟩ := hKB.form
  obtain ⟨A1, c1, rfl, _⟩ := hA.form
  obtain ⟨A2, c2, rfl, _⟩ := hB.form
  subst hv
  have HKA := Aside0.mk hKA
  have HKB := Aside0.mk hKB
  obtain ⟨wid, hwid⟩ : ∃ x, s.wid = x := ⟨_, rfl⟩
  obtain ⟨wide, hwide⟩ : ∃ x, s.wide = x := ⟨_, rfl⟩
  rw [hwid, hwide] at HS ⊢
  obtain ⟨W0, hW0⟩ : ∃ W0, w.alloc (.cells #[.int .i64 wid, .int .i64 wide, .slice A1 s.A.length c1, .slice A2 s.B.length c2, .slice AA s.KA.length cA, .slice AB s.KB.length cB] 32) = W0 := ⟨_, rfl⟩
  have B0 := Aside0.mk (show Below w.heap.size w W0 by rw [← hW0]; exact below_alloc0 (Below.refl _ _) _)
  have BX := Aside0.mk (show Box6 W0 w.heap.size _ _ _ _ _ _ by rw [← hW0]; exact Box6.new _ _ _ _ _ _ _ _)
  have HZ0 := Aside0.mk (show W0.heap.size = w.heap.size + 1 by rw [← hW0]; simp)
  have HW0 := Aside0.mk hW0
  have HH := Aside0.mk (head8_any W0)
  clear hA hB hKA hKB hW0 h1 h2 hwid hwide
  go_enter Try.func4, Try.ntmps4
  go_wp2_with fail
  rw [HW0.out]
  refine (HH.out).mono ?_
  rintro e w1 ⟨rfl, B1⟩
  obtain ⟨k0, k1, k2, k3, k4, k5⟩ := BX.out.below B1
  have B01 := Aside0.mk (below_trans0 B0.out B1)
  have BX1 := Aside0.mk (BX.out.below B1)
  have SF := Aside0.mk (fewS_any w1 _ _ s (HS.out.below B01.out))
  have hz1 := B1.size
  clear HH BX B0 B1
  cases hf : fewS s with
  | false =>
    rw [hf] at SF
    go_wp2_with fail
    refine (SF.out).mono ?_
    rintro e w2 ⟨rfl, B2⟩
    have BZ := Aside0.mk (below_trans0 B01.out B2)
    go_wp2
    go_ret
    exact ⟨rfl, BZ.out⟩
  | true =>
  rw [hf] at SF
  have hks : s.KA.length ≤ 5 ∧ s.KB.length ≤ 5 := by unfold fewS at hf; simp at hf; exact ⟨hf.2.2.1, hf.2.2.2⟩
  have hfa : few s.A = true ∧ few s.B = true := by unfold fewS at hf; simp at hf; exact ⟨hf.1, hf.2.1⟩
  have hla := (few_yes hfa.1).1
  have hlb := (few_yes hfa.2).1
  go_wp2_with fail
  refine (SF.out).mono ?_
  rintro e w2 ⟨rfl, B2⟩
  have hz2 := B2.size
  have B02 := Aside0.mk (below_trans0 B01.out B2)
  have MK := Aside0.mk (makeS_any w2 _ _ s (HS.out.below B02.out) hf)
  have BX2 := Aside0.mk (BX1.out.below B2)
  clear SF k0 k1 k2 k3 k4 k5 B2 B01 BX1 hfa hf
  obtain ⟨k0, k1, k2, k3, k4, k5⟩ := BX2.out
  go_wp2_with fail
  refine (MK.out).mono ?_
  rintro e w3 ⟨ga, gb, na, nb, rfl, SA, SB, B3⟩
  have hnl := norm_length na s.A
  have hnl2 := norm_length nb s.B
  have hz3 := B3.size
  have B03 := Aside0.mk (below_trans0 B02.out B3)
  clear k0 k1 k2 k3 k4 k5
  obtain ⟨k0, k1, k2, k3, k4, k5⟩ := BX2.out.below B3
  have BX3 := Aside0.mk (BX2.out.below B3)
  clear B3 BX2 MK
  obtain ⟨LA, hLA⟩ : ∃ LA, norm na s.A = LA := ⟨_, rfl⟩
  obtain ⟨LB, hLB⟩ : ∃ LB, norm nb s.B = LB := ⟨_, rfl⟩
  rw [hLA] at SA hnl
  rw [hLB] at SB hnl2
  have hgl : w.heap.size < w3.heap.size := by have := HZ0.out; omega
  have HA3 := Aside0.mk (HKA.out.below reads_int B03.out)
  have HB3 := Aside0.mk (HKB.out.below reads_int B03.out)
  have SA := Aside0.mk SA
  have SB := Aside0.mk SB
  have hLAl : LA.length ≤ 60 := by omega
  have hLBl : LB.length ≤ 60 := by omega
  have PR := Aside0.mk (fun W (hb : Below w3.heap.size w3 W) => pairs8_any W _ _ _ _ ga gb na nb LA LB s.KA s.KB _ _ (SA.out.below hb) (SB.out.below hb) (HA3.out.below reads_int hb) (HB3.out.below reads_int hb) (by omega) (by omega) (by omega) (by omega))
  have HP := Aside0.mk (fun W (hb : Below w3.heap.size w3 W) => hashP_any W _ _ _ _ ga gb na nb LA LB s.KA s.KB _ _ (SA.out.below hb) (SB.out.below hb) (HA3.out.below reads_int hb) (HB3.out.below reads_int hb) (by omega) (by omega) (by omega) (by omega))
  have MP := Aside0.mk (fun W (hb : Below w3.heap.size w3 W) => mergeP_any W _ _ _ _ ga gb na nb LA LB s.KA s.KB _ _ (SA.out.below hb) (SB.out.below hb) (HA3.out.below reads_int hb) (HB3.out.below reads_int hb) (by omega) (by omega) (by omega) (by omega))
  have DP := Aside0.mk (fun W (hb : Below w3.heap.size w3 W) => do_any W _ _ _ _ x ga gb na nb LA LB s.KA s.KB _ _ (SA.out.below hb) (SB.out.below hb) (HA3.out.below reads_int hb) (HB3.out.below reads_int hb) (by omega) (by omega) (by omega) (by omega))
  obtain ⟨P, hP⟩ : ∃ P, prs (LA.map fun r => keyOf r s.KA) (LB.map fun r => keyOf r s.KB) LA.length = P := ⟨_, rfl⟩
  rw [hP] at PR HP MP DP
  have SM := Aside0.mk (fun W ok1 ok2 v1 v2 (h1 : PairsAt W ok1 v1 P) (h2 : PairsAt W ok2 v2 P) => show Calls Try.prog 14 #[v1, v2] W fun e w' => e = .returned (.bool true) ∧ Drew W w' by have := same8_any W ok1 ok2 v1 v2 P P h1 h2; rwa [decide_eq_true rfl] at this)
  clear hP hLA hLB hnl hnl2 hla hlb hks HKA HKB HS hLAl hLBl
  go_wp2_with fail
  refine (PR.out _ (Below.refl _ _)).mono ?_
  rintro e w5 ⟨v5, rfl, RP, B5⟩
  obtain ⟨Ap, cp, hpf, -⟩ := RP.form
  subst hpf
  have B5 := Aside0.mk B5
  have RP := Aside0.mk RP
  clear k0 k1 k2 k3 k4 k5
  obtain ⟨k0, k1, k2, k3, k4, k5⟩ := BX3.out.below B5.out
  clear PR
  go_wp2_with fail
  refine (HP.out _ B5.out).mono ?_
  rintro e w6 ⟨v6, rfl, R6, q6⟩
  obtain ⟨A6, c6, hf6, -⟩ := R6.form
  subst hf6
  have B6 := Aside0.mk (below_trans0 B5.out q6)
  have C6 := Aside0.mk (SM.out w6 _ _ _ _ R6 (reads_pairs.stays RP.out (Stays.of_below q6 _)))
  clear HP R6 k0 k1 k2 k3 k4 k5
  go_wp2_with fail
  refine (C6.out).mono ?_
  rintro e w7 ⟨rfl, hd⟩
  have B7 := Aside0.mk (below_trans0 B6.out hd.below)
  have BP := Aside0.mk (show Below w5.heap.size w5 w7 from below_trans0 q6 hd.below)
  obtain ⟨k0, k1, k2, k3, k4, k5⟩ := BX3.out.below B7.out
  clear C6 hd q6
  go_wp2_with fail
  refine (MP.out _ B7.out).mono ?_
  rintro e w8 ⟨v8, rfl, R8, q8⟩
  obtain ⟨A8, c8, hf8, -⟩ := R8.form
  subst hf8
  have B8 := Aside0.mk (below_trans0 B7.out q8)
  have C8 := Aside0.mk (SM.out w8 _ _ _ _ R8 (reads_pairs.stays RP.out (Stays.of_below (below_trans0 BP.out q8) _)))
  clear MP R8 k0 k1 k2 k3 k4 k5
  go_wp2_with fail
  refine (C8.out).mono ?_
  rintro e w9 ⟨rfl, hd⟩
  have B9 := Aside0.mk (below_trans0 B8.out hd.below)
  have BP := Aside0.mk (show Below w5.heap.size w5 w9 from below_trans0 (below_trans0 BP.out q8) hd.below)
  obtain ⟨k0, k1, k2, k3, k4, k5⟩ := BX3.out.below B9.out
  clear C8 hd q8
  go_wp2_with fail
  refine (DP.out _ B9.out).mono ?_
  rintro e w10 ⟨v10, rfl, R10, q10⟩
  obtain ⟨A10, c10, hf10, -⟩ := R10.form
  subst hf10
  have B10 := Aside0.mk (below_trans0 B9.out q10)
  have C10 := Aside0.mk (SM.out w10 _ _ _ _ R10 (reads_pairs.stays RP.out (Stays.of_below (below_trans0 BP.out q10) _)))
  clear DP R10 k0 k1 k2 k3 k4 k5
  go_wp2_with fail
  refine (C10.out).mono ?_
  rintro e w11 ⟨rfl, hd⟩
  have B11 := Aside0.mk (below_trans0 B10.out hd.below)
  have BP := Aside0.mk (show Below w5.heap.size w5 w11 from below_trans0 (below_trans0 BP.out q10) hd.below)
  obtain ⟨k0, k1, k2, k3, k4, k5⟩ := BX3.out.below B11.out
  clear C10 hd q10
  have BZ := Aside0.mk (below_trans0 B03.out B11.out)
  go_wp2
  go_ret
  exact ⟨rfl, BZ.out⟩
end Go.Proofs.Ytmgoefhihljggaa.Sg
