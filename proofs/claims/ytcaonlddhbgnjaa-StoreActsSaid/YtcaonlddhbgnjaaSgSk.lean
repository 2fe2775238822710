/- StoreActs: any steps and compactions: all rows, the delta, and the number of runs. The walk. -/
import Derived.Test.YtcaonlddhbgnjaaSgSj
namespace Go.Proofs.Ytcaonlddhbgnjaa.Mg
open Go.RowKit Go.Shelf Go.Proofs.Ytcaonlddhbgnjaa.Sg Go.Proofs.Ytcaonlddhbgnjaa.Hm Go.Proofs.Ytcaonlddhbgnjaa.Hc
set_option linter.unusedVariables false
set_option linter.unusedSimpArgs false

set_option maxHeartbeats 8000000 in
set_option maxRecDepth 100000 in
theorem StoreActs_walk0 (x y : Int) (av : Value) (acts : List (Int × List Row)) (rv : Value) (row : Row) (w : World) (hx : In64 x) (hy : In64 y) (ha : ActsAt w (fun _ => True) av acts) (hr : RowAt w (fun _ => True) rv row) :
    Calls Try.prog 8 #[.int .i64 x, .int .i64 y, av, rv] w fun e w' => e = .returned (.bool true) ∧ Below w.heap.size w w' := by
  obtain ⟨Aa, ca, hav, _⟩ := ha.form
  subst hav
  obtain ⟨Ar, cr, hrv, _⟩ := hr.form
  subst hrv
  have HA := Aside0.mk ha
  have HR := Aside0.mk hr
  have HH := Aside0.mk (head11_any w)
  obtain ⟨n, hn, hmn⟩ := mod_u x 4 (by omega) (by omega)
  obtain ⟨k, hk, hmk⟩ := and_maskS y 7 (by omega)
  rw [show ((4 : Nat) : Int) = 4 from rfl] at hmn
  rw [show ((7 : Nat) : Int) = 7 from rfl] at hmk
  have hmw : IntKind.i64.wrap ((k : Int) - 1) = (k : Int) - 1 := by rw [IntKind.wrap_i64]; omega
  clear ha hr hx hy
  go_enter Try.func8, Try.ntmps8
  go_wp2_with fail
  refine (HH.out).mono ?_
  rintro e w1 ⟨rfl, B1⟩
  have HA1 := Aside0.mk (reads_acts.stays HA.out (Stays.of_below B1 _))
  have FW := few11_any w1 _ _ acts HA1.out
  obtain ⟨fb, hfb⟩ : ∃ fb, fewA acts = fb := ⟨_, rfl⟩
  rw [hfb] at FW
  have HFB := Aside0.mk hfb
  have FW := Aside0.mk FW
  have HR1 := Aside0.mk (HR.out.below reads_int B1)
  have B1 := Aside0.mk B1
  clear HA HR HH hfb
  go_wp2_with fail
  refine (FW.out).mono ?_
  rintro e w2 ⟨rfl, B2⟩
  have HA2 := Aside0.mk (reads_acts.mono (ok2 := (· < w2.heap.size)) (reads_acts.stays HA1.out (Stays.of_below B2 _)) (fun _ _ hl => hl))
  have HR2 := Aside0.mk (reads_row.mono (ok2 := (· < w2.heap.size)) (HR1.out.below reads_int B2) (fun _ _ hl => hl))
  have HB2 := Aside0.mk (below_trans0 B1.out B2)
  clear FW HA1 HR1 B1 B2
  cases fb with
  | false =>
    go_wp2
    go_ret
    exact ⟨rfl, HB2.out⟩
  | true =>
  by_cases h8 : 8 < row.length
  · have h8i : (8 : Int) < (row.length : Int) := by omega
    go_wp2
    go_ret
    exact ⟨rfl, HB2.out⟩
  have h8i : ¬ (8 : Int) < (row.length : Int) := by omega
  have NW := Aside0.mk (snew_any n ((k : Int) - 1) w2 (by omega))
  go_wp2_with fail
  refine (NW.out).mono ?_
  rintro e w3 ⟨g, dp, rfl, S3, B3⟩
  have PL := Aside0.mk (play_any w3 w2.heap.size g n ((k : Int) - 1) dp _ _ acts row S3 B3.size (reads_acts.stays HA2.out (Stays.of_below B3 _)) HFB.out (HR2.out.below reads_int B3))
  have HB3 := Aside0.mk (below_trans0 HB2.out B3)
  have h23 := HB2.out.size
  clear NW HA2 HR2 HB2 S3 B3
  go_wp2_with fail
  refine (PL.out).mono ?_
  rintro e w4 ⟨rfl, B4⟩
  have HB4 := Aside0.mk (HB3.out.trans (B4.mono h23))
  clear PL B4
  go_wp2
  go_ret
  exact ⟨rfl, HB4.out⟩
end Go.Proofs.Ytcaonlddhbgnjaa.Mg
namespace Go.Proofs.Ytcaonlddhbgnjaa.Sg
open Go.RowKit Go.Shelf
theorem StoreActs_walk (x y : Int) (av : Value) (acts : List (Int × List Row)) (rv : Value) (row : Row) (w : World) (hx : In64 x) (hy : In64 y) (ha : SlP IntAt RowsAt w (fun _ => True) av acts) (hr : RowAt w (fun _ => True) rv row) :
    Calls Try.prog 8 #[.int .i64 x, .int .i64 y, av, rv] w fun e w' => e = .returned (.bool true) ∧ Below w.heap.size w w' := Go.Proofs.Ytcaonlddhbgnjaa.Mg.StoreActs_walk0 x y av acts rv row w hx hy ha hr
end Go.Proofs.Ytcaonlddhbgnjaa.Sg
