/- The example of the heap's document. -/
import Derived.Test.YtcaonlddhbgnjaaHiF
namespace Go.Proofs.Ytcaonlddhbgnjaa.Hi
open Go.RowKit Go.Shelf Go.Proofs.Ytcaonlddhbgnjaa.Sg Go.Proofs.Ytcaonlddhbgnjaa.Hm
set_option linter.unusedVariables false
set_option linter.unusedSimpArgs false
def ltI (a b : Int) : Bool := decide (a < b)
theorem good_ltI : Hm.Good ltI := good_of (fun (x y : Int) h => by unfold ltI at *; simp at *; omega) (fun (x y z : Int) h k => by unfold ltI at *; simp at *; omega)
def ordI : Ord := ⟨37, #[], ltI, fun _ => True, fun _ => True⟩
theorem ordI_ok (B : Nat) : ordI.OK B := by
  refine ⟨fun x1 x2 w _ _ _ => ?_, fun _ _ _ _ => trivial, enters_of Try.func37 (by kernel_rfl) rfl⟩
  show Calls Try.prog 37 #[.int .i64 x1, .int .i64 x2] w fun e w' => e = .returned (.bool (decide (x1 < x2))) ∧ Below w.heap.size w w'
  go_enter Try.func37, Try.ntmps37
  go_wp2
  go_ret
  exact ⟨rfl, Below.refl _ _⟩
theorem popped_31 {x : Int} {L' : List (Int × Int)} (h : Popped ltI [((3 : Int), (0 : Int)), (1, 1), (2, 2)] x L') : x = 1 ∧ L'.length = 2 := by
  obtain ⟨c, h1, h2⟩ := h
  have hl := h1.length_eq
  have hm : ((x, c) : Int × Int) ∈ [((3, 0) : Int × Int), (1, 1), (2, 2)] := h1.mem_iff.2 (by simp)
  have := h2 ((1 : Int), (1 : Int)) (by simp)
  unfold Le bef ltI at this
  simp at hm this hl
  refine ⟨by omega, by omega⟩
theorem HeapS.belowB {w w' : World} {B g : Nat} {F : Nat → Prop} {O : Ord} {L : List E} {came : Int} (h : HeapS w B g F O L came) (hk : Kept w w' F) {w0 : World} (hb : Below B w0 w) : Below B w0 w' :=
  hb.trans (hk.below h.gF.2 (fun k hk => (h.bs k hk).1))
set_option maxHeartbeats 1000000 in
set_option maxRecDepth 100000 in
theorem head6_any (w : World) : Calls Try.prog 9 #[] w fun e w' => e = .returned (.bool true) ∧ Below w.heap.size w w' := by
  have NW : Calls Try.prog 36 #[.func (.func 37) #[] #[]] w _ := new_S ordI w w.heap.size (ordI_ok _) (Nat.le_refl _) trivial
  have PU := Aside0.mk (fun (w' : World) F L c x (h : HeapS w' w.heap.size w.heap.size F ordI L c) (hl : L.length < 1000) (h0 : 0 ≤ c) (h1 : c < 1000) => push_S (ordI_ok _) good_ltI w.heap.size F L c x w' h trivial (by omega) h0 (by omega))
  go_enter Try.func9, Try.ntmps9
  go_wp2_with fail
  refine NW.mono ?_
  rintro e w1 ⟨rfl, H1, B1, _⟩
  have A1 := Aside0.mk B1
  have P1 := Aside0.mk (PU.out w1 _ _ _ 3 H1 (by simp) (by omega) (by omega))
  have H1' := Aside0.mk H1
  clear H1 B1 NW
  go_wp2_with fail
  refine (P1.out).mono ?_
  rintro e w2 ⟨rfl, F2, H2, _, K2⟩
  have A2 := Aside0.mk (H1'.out.belowB K2 A1.out)
  have P2 := Aside0.mk (PU.out w2 _ _ _ 1 H2 (by simp) (by omega) (by omega))
  have H2' := Aside0.mk H2
  clear H2 K2 P1 A1 H1'
  go_wp2_with fail
  refine (P2.out).mono ?_
  rintro e w3 ⟨rfl, F3, H3, _, K3⟩
  have A3 := Aside0.mk (H2'.out.belowB K3 A2.out)
  have P3 := Aside0.mk (PU.out w3 _ _ _ 2 H3 (by simp) (by omega) (by omega))
  have H3' := Aside0.mk H3
  clear H3 K3 P2 A2 H2'
  go_wp2_with fail
  refine (P3.out).mono ?_
  rintro e w4 ⟨rfl, F4, H4, _, K4⟩
  have A4 := Aside0.mk (H3'.out.belowB K4 A3.out)
  obtain ⟨x, L', hp, hc⟩ := pop_S (ordI_ok _) good_ltI _ _ _ _ w4 H4 (by simp) (by simp)
  obtain ⟨rfl, hl⟩ := popped_31 hp
  have P4 := Aside0.mk hc
  have HL := Aside0.mk hl
  have H4' := Aside0.mk H4
  clear H4 K4 P3 A3 H3' hp hc hl
  go_wp2_with fail
  refine (P4.out).mono ?_
  rintro e w5 ⟨rfl, H5, K5⟩
  have A5 := Aside0.mk (H4'.out.belowB K5 A4.out)
  have P5 := Aside0.mk (len_S _ _ _ _ _ H5)
  clear P4 H5 K5 A4 H4'
  rw [HL.out] at P5
  go_wp2_with (first | (go_at_call 40; (with_reducible refine (P5.out).mono ?_); rintro e w5 ⟨rfl, rfl⟩))
  go_ret
  exact ⟨rfl, A5.out⟩
end Go.Proofs.Ytcaonlddhbgnjaa.Hi
