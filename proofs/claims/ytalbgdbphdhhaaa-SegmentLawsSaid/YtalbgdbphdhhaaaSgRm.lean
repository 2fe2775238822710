/- SegmentLaws: the laws of sets. The walk. -/
import Derived.Test.YtalbgdbphdhhaaaSgRl
import Derived.Test.YtalbgdbphdhhaaaSgL
namespace Go.Proofs.Ytalbgdbphdhhaaa.Sg
open Go.RowKit Go.Shelf
set_option linter.unusedVariables false
set_option linter.unusedSimpArgs false

set_option maxHeartbeats 16000000 in
set_option maxRecDepth 100000 in
theorem SegmentLaws_walk (x : Int) (av : Value) (a : List Row) (bv : Value) (b : List Row) (cv : Value) (c : List Row) (w : World) (hx : In64 x) (ha : RowsAt w (fun _ => True) av a) (hb : RowsAt w (fun _ => True) bv b) (hc : RowsAt w (fun _ => True) cv c) :
    Calls Try.prog 9 #[.int .i64 x, av, bv, cv] w fun e w' => e = .returned (.bool true) ∧ Below w.heap.size w w' := by
  obtain ⟨Aa, ca, rfl, _⟩ := ha.form
  obtain ⟨Ab, cb, rfl, _⟩ := hb.form
  obtain ⟨Ac, cc, rfl, _⟩ := hc.form
  have HA := Aside0.mk ha
  have HB := Aside0.mk hb
  have HC := Aside0.mk hc
  clear ha hb hc
  obtain ⟨fa, hfa⟩ : ∃ fa, few a = fa := ⟨_, rfl⟩
  obtain ⟨fb, hfb⟩ : ∃ fb, few b = fb := ⟨_, rfl⟩
  obtain ⟨fc, hfc⟩ : ∃ fc, few c = fc := ⟨_, rfl⟩
  have FA := Aside0.mk hfa
  have FB := Aside0.mk hfb
  have FC := Aside0.mk hfc
  have GA := Aside0.mk (fun W (h : Below w.heap.size w W) => few_b W _ _ a fa (HA.out.below reads_row h) hfa)
  have GB := Aside0.mk (fun W (h : Below w.heap.size w W) => few_b W _ _ b fb (HB.out.below reads_row h) hfb)
  have GC := Aside0.mk (fun W (h : Below w.heap.size w W) => few_b W _ _ c fc (HC.out.below reads_row h) hfc)
  clear hfa hfb hfc
  go_enter Try.func9, Try.ntmps9
  go_wp2_with fail
  refine (head_any w).mono ?_
  rintro e w1 ⟨rfl, B1⟩
  have GA := Aside0.mk (GA.out w1 B1)
  have GB := Aside0.mk (GB.out w1 B1)
  have GC := Aside0.mk (GC.out w1 B1)
  have B1 := Aside0.mk B1
  go_wp2_with fail
  refine (GA.out).mono ?_
  rintro e w' ⟨rfl, rfl⟩
  cases fa with
  | false =>
    go_wp2
    go_ret
    exact ⟨rfl, B1.out⟩
  | true =>
  go_wp2_with fail
  refine (GB.out).mono ?_
  rintro e w' ⟨rfl, rfl⟩
  cases fb with
  | false =>
    go_wp2
    go_ret
    exact ⟨rfl, B1.out⟩
  | true =>
  go_wp2_with fail
  refine (GC.out).mono ?_
  rintro e w' ⟨rfl, rfl⟩
  cases fc with
  | false =>
    go_wp2
    go_ret
    exact ⟨rfl, B1.out⟩
  | true =>
  have l1 := (few_yes FA.out).1
  have l2 := (few_yes FB.out).1
  have l3 := (few_yes FC.out).1
  obtain ⟨n, hn, hmod⟩ := mod_u x 5 (by omega) (by omega)
  rw [show ((5 : Nat) : Int) = 5 from rfl] at hmod
  have MA := Aside0.mk (makeK w1 _ _ n 60 a (HA.out.below reads_row B1.out) (by omega) l1 (by omega))
  have MB := Aside0.mk (fun W (h : Below w1.heap.size w1 W) => makeK W _ _ n 60 b ((HB.out.below reads_row B1.out).below reads_row h) (by omega) l2 (by omega))
  have MC := Aside0.mk (fun W (h : Below w1.heap.size w1 W) => makeK W _ _ n 60 c ((HC.out.below reads_row B1.out).below reads_row h) (by omega) l3 (by omega))
  clear GA GB GC FA FB FC l1 l2 l3 HA HB HC hx
  go_wp2_with fail
  refine (MA.out).mono ?_
  rintro e w2 ⟨gx, rfl, SX, B2⟩
  have SX := Aside0.mk SX
  have MB := Aside0.mk (MB.out w2 B2)
  have MC := Aside0.mk (fun W (h : Below w2.heap.size w2 W) => MC.out W (below_trans0 B2 h))
  have BB := Aside0.mk (below_trans0 B1.out B2)
  clear B2 MA B1
  go_wp2_with fail
  refine (MB.out).mono ?_
  rintro e w3 ⟨gy, rfl, SY, B2⟩
  have SY := Aside0.mk SY
  have SX := Aside0.mk (SX.out.below B2)
  have MC := Aside0.mk (MC.out w3 B2)
  have BB := Aside0.mk (below_trans0 BB.out B2)
  clear B2 MB
  go_wp2_with fail
  refine (MC.out).mono ?_
  rintro e w4 ⟨gz, rfl, SZ, B2⟩
  have SZ := Aside0.mk SZ
  have SX := Aside0.mk (SX.out.below B2)
  have SY := Aside0.mk (SY.out.below B2)
  have BB := Aside0.mk (below_trans0 BB.out B2)
  clear B2 MC
  obtain ⟨X, hX⟩ : ∃ X, norm n a = X := ⟨_, rfl⟩
  obtain ⟨Y, hY⟩ : ∃ Y, norm n b = Y := ⟨_, rfl⟩
  obtain ⟨Z, hZ⟩ : ∃ Z, norm n c = Z := ⟨_, rfl⟩
  rw [hX] at SX
  rw [hY] at SY
  rw [hZ] at SZ
  have sX := Aside0.mk SX.out.ss
  have sY := Aside0.mk SY.out.ss
  have sZ := Aside0.mk SZ.out.ss
  have wX := Aside0.mk SX.out.wid
  have wY := Aside0.mk SY.out.wid
  have wZ := Aside0.mk SZ.out.wid
  clear hX hY hZ
  go_wp2_with fail
  refine (orK _ _ _ _ _ _ _ _ SX.out SY.out (by omega)).mono ?_
  rintro e w5 ⟨g1, rfl, S1, B2⟩
  have S1 := Aside0.mk S1
  have SX := Aside0.mk (SX.out.below B2)
  have SY := Aside0.mk (SY.out.below B2)
  have SZ := Aside0.mk (SZ.out.below B2)
  have BB := Aside0.mk (below_trans0 BB.out B2)
  clear B2
  go_wp2_with fail
  refine (orK _ _ _ _ _ _ _ _ SY.out SX.out (by omega)).mono ?_
  rintro e w6 ⟨g2, rfl, S2, B2⟩
  have S2 := Aside0.mk S2
  have SX := Aside0.mk (SX.out.below B2)
  have SY := Aside0.mk (SY.out.below B2)
  have SZ := Aside0.mk (SZ.out.below B2)
  have S1 := Aside0.mk (S1.out.below B2)
  have BB := Aside0.mk (below_trans0 BB.out B2)
  clear B2
  go_wp2_with fail
  refine (sameK _ _ _ _ _ _ _ _ _ S1.out S2.out (law_or_comm wX.out wY.out)).mono ?_
  rintro e w7 ⟨rfl, B2⟩
  have SX := Aside0.mk (SX.out.below B2)
  have SY := Aside0.mk (SY.out.below B2)
  have SZ := Aside0.mk (SZ.out.below B2)
  have BB := Aside0.mk (below_trans0 BB.out B2)
  clear B2 S1 S2
  go_wp2_with fail
  refine (andK _ _ _ _ _ _ _ _ SX.out SY.out).mono ?_
  rintro e w8 ⟨g1, rfl, S1, B2⟩
  have S1 := Aside0.mk S1
  have SX := Aside0.mk (SX.out.below B2)
  have SY := Aside0.mk (SY.out.below B2)
  have SZ := Aside0.mk (SZ.out.below B2)
  have BB := Aside0.mk (below_trans0 BB.out B2)
  clear B2
  go_wp2_with fail
  refine (andK _ _ _ _ _ _ _ _ SY.out SX.out).mono ?_
  rintro e w9 ⟨g2, rfl, S2, B2⟩
  have S2 := Aside0.mk S2
  have SX := Aside0.mk (SX.out.below B2)
  have SY := Aside0.mk (SY.out.below B2)
  have SZ := Aside0.mk (SZ.out.below B2)
  have S1 := Aside0.mk (S1.out.below B2)
  have BB := Aside0.mk (below_trans0 BB.out B2)
  clear B2
  go_wp2_with fail
  refine (sameK _ _ _ _ _ _ _ _ _ S1.out S2.out (law_and_comm sX.out sY.out)).mono ?_
  rintro e w10 ⟨rfl, B2⟩
  have SX := Aside0.mk (SX.out.below B2)
  have SY := Aside0.mk (SY.out.below B2)
  have SZ := Aside0.mk (SZ.out.below B2)
  have BB := Aside0.mk (below_trans0 BB.out B2)
  clear B2 S1 S2
  go_wp2_with fail
  refine (orK _ _ _ _ _ _ _ _ SX.out SX.out (by omega)).mono ?_
  rintro e w11 ⟨g1, rfl, S1, B2⟩
  have S1 := Aside0.mk S1
  have SX := Aside0.mk (SX.out.below B2)
  have SY := Aside0.mk (SY.out.below B2)
  have SZ := Aside0.mk (SZ.out.below B2)
  have BB := Aside0.mk (below_trans0 BB.out B2)
  clear B2
  go_wp2_with fail
  refine (sameK _ _ _ _ _ _ _ _ _ S1.out SX.out (law_or_self sX.out wX.out)).mono ?_
  rintro e w12 ⟨rfl, B2⟩
  have SX := Aside0.mk (SX.out.below B2)
  have SY := Aside0.mk (SY.out.below B2)
  have SZ := Aside0.mk (SZ.out.below B2)
  have BB := Aside0.mk (below_trans0 BB.out B2)
  clear B2 S1
  go_wp2_with fail
  refine (minusK _ _ _ _ _ _ _ _ SX.out SY.out).mono ?_
  rintro e w13 ⟨g1, rfl, S1, B2⟩
  have S1 := Aside0.mk S1
  have SX := Aside0.mk (SX.out.below B2)
  have SY := Aside0.mk (SY.out.below B2)
  have SZ := Aside0.mk (SZ.out.below B2)
  have BB := Aside0.mk (below_trans0 BB.out B2)
  clear B2
  go_wp2_with fail
  refine (andK _ _ _ _ _ _ _ _ SX.out SY.out).mono ?_
  rintro e w14 ⟨g2, rfl, S2, B2⟩
  have S2 := Aside0.mk S2
  have SX := Aside0.mk (SX.out.below B2)
  have SY := Aside0.mk (SY.out.below B2)
  have SZ := Aside0.mk (SZ.out.below B2)
  have S1 := Aside0.mk (S1.out.below B2)
  have BB := Aside0.mk (below_trans0 BB.out B2)
  clear B2
  go_wp2_with fail
  refine (orK _ _ _ _ _ _ _ _ S1.out S2.out (by omega)).mono ?_
  rintro e w15 ⟨g3, rfl, S3, B2⟩
  have S3 := Aside0.mk S3
  have SX := Aside0.mk (SX.out.below B2)
  have SY := Aside0.mk (SY.out.below B2)
  have SZ := Aside0.mk (SZ.out.below B2)
  have S1 := Aside0.mk (S1.out.below B2)
  have S2 := Aside0.mk (S2.out.below B2)
  have BB := Aside0.mk (below_trans0 BB.out B2)
  clear B2
  go_wp2_with fail
  refine (sameK _ _ _ _ _ _ _ _ _ S3.out SX.out (law_split sX.out wX.out)).mono ?_
  rintro e w16 ⟨rfl, B2⟩
  have SX := Aside0.mk (SX.out.below B2)
  have SY := Aside0.mk (SY.out.below B2)
  have SZ := Aside0.mk (SZ.out.below B2)
  have BB := Aside0.mk (below_trans0 BB.out B2)
  clear B2 S1 S2 S3
  go_wp2_with fail
  refine (orK _ _ _ _ _ _ _ _ SX.out SY.out (by omega)).mono ?_
  rintro e w17 ⟨g1, rfl, S1, B2⟩
  have S1 := Aside0.mk S1
  have SX := Aside0.mk (SX.out.below B2)
  have SY := Aside0.mk (SY.out.below B2)
  have SZ := Aside0.mk (SZ.out.below B2)
  have BB := Aside0.mk (below_trans0 BB.out B2)
  clear B2
  go_wp2_with fail
  refine (orK _ _ _ _ _ _ _ _ S1.out SZ.out (by omega)).mono ?_
  rintro e w18 ⟨g2, rfl, S2, B2⟩
  have S2 := Aside0.mk S2
  have SX := Aside0.mk (SX.out.below B2)
  have SY := Aside0.mk (SY.out.below B2)
  have SZ := Aside0.mk (SZ.out.below B2)
  have S1 := Aside0.mk (S1.out.below B2)
  have BB := Aside0.mk (below_trans0 BB.out B2)
  clear B2
  go_wp2_with fail
  refine (orK _ _ _ _ _ _ _ _ SY.out SZ.out (by omega)).mono ?_
  rintro e w19 ⟨g3, rfl, S3, B2⟩
  have S3 := Aside0.mk S3
  have SX := Aside0.mk (SX.out.below B2)
  have SY := Aside0.mk (SY.out.below B2)
  have SZ := Aside0.mk (SZ.out.below B2)
  have S1 := Aside0.mk (S1.out.below B2)
  have S2 := Aside0.mk (S2.out.below B2)
  have BB := Aside0.mk (below_trans0 BB.out B2)
  clear B2
  go_wp2_with fail
  refine (orK _ _ _ _ _ _ _ _ SX.out S3.out (by omega)).mono ?_
  rintro e w20 ⟨g4, rfl, S4, B2⟩
  have S4 := Aside0.mk S4
  have SX := Aside0.mk (SX.out.below B2)
  have SY := Aside0.mk (SY.out.below B2)
  have SZ := Aside0.mk (SZ.out.below B2)
  have S1 := Aside0.mk (S1.out.below B2)
  have S2 := Aside0.mk (S2.out.below B2)
  have S3 := Aside0.mk (S3.out.below B2)
  have BB := Aside0.mk (below_trans0 BB.out B2)
  clear B2
  go_wp2_with fail
  refine (sameK _ _ _ _ _ _ _ _ _ S2.out S4.out (law_or_assoc wX.out wY.out wZ.out)).mono ?_
  rintro e w21 ⟨rfl, B2⟩
  have SX := Aside0.mk (SX.out.below B2)
  have SY := Aside0.mk (SY.out.below B2)
  have SZ := Aside0.mk (SZ.out.below B2)
  have BB := Aside0.mk (below_trans0 BB.out B2)
  clear B2 S1 S2 S3 S4
  go_wp2_with fail
  refine (orK _ _ _ _ _ _ _ _ SY.out SZ.out (by omega)).mono ?_
  rintro e w22 ⟨g1, rfl, S1, B2⟩
  have S1 := Aside0.mk S1
  have SX := Aside0.mk (SX.out.below B2)
  have SY := Aside0.mk (SY.out.below B2)
  have SZ := Aside0.mk (SZ.out.below B2)
  have BB := Aside0.mk (below_trans0 BB.out B2)
  clear B2
  go_wp2_with fail
  refine (minusK _ _ _ _ _ _ _ _ SX.out S1.out).mono ?_
  rintro e w23 ⟨g2, rfl, S2, B2⟩
  have S2 := Aside0.mk S2
  have SX := Aside0.mk (SX.out.below B2)
  have SY := Aside0.mk (SY.out.below B2)
  have SZ := Aside0.mk (SZ.out.below B2)
  have S1 := Aside0.mk (S1.out.below B2)
  have BB := Aside0.mk (below_trans0 BB.out B2)
  clear B2
  go_wp2_with fail
  refine (minusK _ _ _ _ _ _ _ _ SX.out SY.out).mono ?_
  rintro e w24 ⟨g3, rfl, S3, B2⟩
  have S3 := Aside0.mk S3
  have SX := Aside0.mk (SX.out.below B2)
  have SY := Aside0.mk (SY.out.below B2)
  have SZ := Aside0.mk (SZ.out.below B2)
  have S1 := Aside0.mk (S1.out.below B2)
  have S2 := Aside0.mk (S2.out.below B2)
  have BB := Aside0.mk (below_trans0 BB.out B2)
  clear B2
  go_wp2_with fail
  refine (minusK _ _ _ _ _ _ _ _ S3.out SZ.out).mono ?_
  rintro e w25 ⟨g4, rfl, S4, B2⟩
  have S4 := Aside0.mk S4
  have SX := Aside0.mk (SX.out.below B2)
  have SY := Aside0.mk (SY.out.below B2)
  have SZ := Aside0.mk (SZ.out.below B2)
  have S1 := Aside0.mk (S1.out.below B2)
  have S2 := Aside0.mk (S2.out.below B2)
  have S3 := Aside0.mk (S3.out.below B2)
  have BB := Aside0.mk (below_trans0 BB.out B2)
  clear B2
  go_wp2_with fail
  refine (sameK _ _ _ _ _ _ _ _ _ S2.out S4.out (law_minus_or sX.out wY.out wZ.out)).mono ?_
  rintro e w26 ⟨rfl, B2⟩
  have SX := Aside0.mk (SX.out.below B2)
  have SY := Aside0.mk (SY.out.below B2)
  have SZ := Aside0.mk (SZ.out.below B2)
  have BB := Aside0.mk (below_trans0 BB.out B2)
  clear B2 S1 S2 S3 S4
  go_wp2_with fail
  refine (orK _ _ _ _ _ _ _ _ SY.out SZ.out (by omega)).mono ?_
  rintro e w27 ⟨g1, rfl, S1, B2⟩
  have S1 := Aside0.mk S1
  have SX := Aside0.mk (SX.out.below B2)
  have SY := Aside0.mk (SY.out.below B2)
  have SZ := Aside0.mk (SZ.out.below B2)
  have BB := Aside0.mk (below_trans0 BB.out B2)
  clear B2
  go_wp2_with fail
  refine (andK _ _ _ _ _ _ _ _ SX.out S1.out).mono ?_
  rintro e w28 ⟨g2, rfl, S2, B2⟩
  have S2 := Aside0.mk S2
  have SX := Aside0.mk (SX.out.below B2)
  have SY := Aside0.mk (SY.out.below B2)
  have SZ := Aside0.mk (SZ.out.below B2)
  have S1 := Aside0.mk (S1.out.below B2)
  have BB := Aside0.mk (below_trans0 BB.out B2)
  clear B2
  go_wp2_with fail
  refine (andK _ _ _ _ _ _ _ _ SX.out SY.out).mono ?_
  rintro e w29 ⟨g3, rfl, S3, B2⟩
  have S3 := Aside0.mk S3
  have SX := Aside0.mk (SX.out.below B2)
  have SY := Aside0.mk (SY.out.below B2)
  have SZ := Aside0.mk (SZ.out.below B2)
  have S1 := Aside0.mk (S1.out.below B2)
  have S2 := Aside0.mk (S2.out.below B2)
  have BB := Aside0.mk (below_trans0 BB.out B2)
  clear B2
  go_wp2_with fail
  refine (andK _ _ _ _ _ _ _ _ SX.out SZ.out).mono ?_
  rintro e w30 ⟨g4, rfl, S4, B2⟩
  have S4 := Aside0.mk S4
  have SX := Aside0.mk (SX.out.below B2)
  have SY := Aside0.mk (SY.out.below B2)
  have SZ := Aside0.mk (SZ.out.below B2)
  have S1 := Aside0.mk (S1.out.below B2)
  have S2 := Aside0.mk (S2.out.below B2)
  have S3 := Aside0.mk (S3.out.below B2)
  have BB := Aside0.mk (below_trans0 BB.out B2)
  clear B2
  go_wp2_with fail
  refine (orK _ _ _ _ _ _ _ _ S3.out S4.out (by omega)).mono ?_
  rintro e w31 ⟨g5, rfl, S5, B2⟩
  have S5 := Aside0.mk S5
  have SX := Aside0.mk (SX.out.below B2)
  have SY := Aside0.mk (SY.out.below B2)
  have SZ := Aside0.mk (SZ.out.below B2)
  have S1 := Aside0.mk (S1.out.below B2)
  have S2 := Aside0.mk (S2.out.below B2)
  have S3 := Aside0.mk (S3.out.below B2)
  have S4 := Aside0.mk (S4.out.below B2)
  have BB := Aside0.mk (below_trans0 BB.out B2)
  clear B2
  go_wp2_with fail
  refine (sameK _ _ _ _ _ _ _ _ _ S2.out S5.out (law_and_or sX.out wX.out wY.out wZ.out)).mono ?_
  rintro e w32 ⟨rfl, B2⟩
  have SX := Aside0.mk (SX.out.below B2)
  have SY := Aside0.mk (SY.out.below B2)
  have SZ := Aside0.mk (SZ.out.below B2)
  have BB := Aside0.mk (below_trans0 BB.out B2)
  clear B2 S1 S2 S3 S4 S5
  go_wp2_with fail
  refine (minusK _ _ _ _ _ _ _ _ SX.out SX.out).mono ?_
  rintro e w33 ⟨g1, rfl, S1, B2⟩
  have S1 := Aside0.mk S1
  have SX := Aside0.mk (SX.out.below B2)
  have SY := Aside0.mk (SY.out.below B2)
  have SZ := Aside0.mk (SZ.out.below B2)
  have BB := Aside0.mk (below_trans0 BB.out B2)
  clear B2
  have LN := lenK _ _ _ _ _ S1.out
  rw [law_minus_self] at LN
  have LN := Aside0.mk LN
  go_wp2_with fail
  refine (LN.out).mono ?_
  rintro e w' ⟨rfl, rfl⟩
  go_wp2
  go_ret
  exact ⟨rfl, BB.out⟩
end Go.Proofs.Ytalbgdbphdhhaaa.Sg
