/- The head of the laws of layer 9. -/
import Derived.Test.YtihilledbnnniaaSgZl
import Derived.Test.YtihilledbnnniaaSgZm
import Derived.Test.YtihilledbnnniaaSgXk
namespace Go.Proofs.Ytihilledbnnniaa.Sg
open Go.RowKit Go.Shelf
set_option linter.unusedVariables false
set_option linter.unusedSimpArgs false

theorem GRes.yes {w w' : World} {v : Value} {b : Bool} {KS : List Row} {vs : List Int} {a : Int} (h : GRes w w' v b KS vs a) (hk : okUp KS vs a KS.length) : b = true ∧ SegAt w' (w.heap.size ≤ ·) v (wdAt KS KS.length) (norm (wdAt KS KS.length) (outs KS vs a KS.length)) ∧ Below w.heap.size w w' := by
  rcases h.2 with ⟨h1, _, h2⟩ | ⟨_, h1, _⟩
  · exact ⟨h1, h2, h.1⟩
  · exact absurd hk h1
theorem head9_plain : okUp ([[1, 5], [1, 7], [2, 3]].map fun r => keyOf r [0]) (valsOf 2 1 [[1, 5], [1, 7], [2, 3]]) 2 3 ∧ norm 2 (outs ([[1, 5], [1, 7], [2, 3]].map fun r => keyOf r [0]) (valsOf 2 1 [[1, 5], [1, 7], [2, 3]]) 2 3) = [[1, 12], [2, 3]] := by
  refine ⟨fun t ht hf => ?_, by decide⟩
  have : t = 0 ∨ t = 1 ∨ t = 2 := by omega
  rcases this with rfl | rfl | rfl <;> decide

set_option maxHeartbeats 4000000 in
set_option maxRecDepth 100000 in
theorem head9_any (w : World) : Calls Try.prog 28 #[] w fun e w' => e = .returned (.bool true) ∧ Below w.heap.size w w' := by
  have L0 := lit_rows w [[1, 5], [1, 7], [2, 3]] (by decide) (in64_lits (by decide))
  have B0 := lit_below w [[1, 5], [1, 7], [2, 3]] (.cells (hdrs w.heap.size [[1, 5], [1, 7], [2, 3]]).toArray 24)
  have hN : norm 2 [[1, 5], [1, 7], [2, 3]] = [[1, 5], [1, 7], [2, 3]] := by decide
  obtain ⟨W0, hW0⟩ : ∃ W0, (litW w [[1, 5], [1, 7], [2, 3]]).alloc (.cells (hdrs w.heap.size [[1, 5], [1, 7], [2, 3]]).toArray 24) = W0 := ⟨_, rfl⟩
  rw [hW0] at L0 B0
  have M := make_any W0 _ _ 2 _ L0 (by omega) (by decide)
  rw [hN] at M
  have M := Aside0.mk M
  have B0 := Aside0.mk B0
  have HW0 := Aside0.mk hW0
  have OF := Aside0.mk (fun w1 => of_any w1 ⟨#[109, 97, 120]⟩)
  rw [show ofWord ⟨#[109, 97, 120]⟩ = 4 by decide] at OF
  clear L0 hN hW0
  go_enter Try.func28, Try.ntmps28
  go_wp2_with fail
  have e0 := HW0.out
  simp only [litW, hdrs, List.map, List.length] at e0
  have M1 := M.out
  rw [← e0] at M1
  refine M1.mono ?_
  rw [e0]
  rintro e w1 ⟨v, rfl, S1, B1⟩
  have B1 := Aside0.mk (below_trans0 B0.out B1)
  obtain ⟨g, cv, hv, _⟩ := S1.ex
  subst hv
  have BA := below_alloc0 (Below.refl w1.heap.size w1) (.cells #[.int .i64 0] 3)
  have RA := RowAt.newT w1 [0] 3 (by decide) (fun x hx => in64_small (by simp at hx; omega))
  have GB := Aside0.mk (gby_more _ _ _ _ 2 _ _ [0] 2 1 (S1.below BA) RA (by decide) (by omega) (by omega) (by omega))
  have BA := Aside0.mk (below_trans0 B1.out BA)
  clear M M1 e0 HW0 B0 B1 RA S1
  go_wp2_with fail
  refine (GB.out).mono ?_
  rintro e w2 ⟨v, b, rfl, GR⟩
  obtain ⟨rfl, S2, B2⟩ := GR.yes head9_plain.1
  have hw2 : wdAt ([[1, 5], [1, 7], [2, 3]].map fun r => keyOf r [0]) ([[1, 5], [1, 7], [2, 3]].map fun r => keyOf r [0]).length = 2 := by decide
  rw [hw2] at S2
  have e9 : norm 2 (outs ([[1, 5], [1, 7], [2, 3]].map fun r => keyOf r [0]) (valsOf 2 ((1 : Nat) : Int) [[1, 5], [1, 7], [2, 3]]) 2 ([[1, 5], [1, 7], [2, 3]].map fun r : Row => keyOf r [0]).length) = [[1, 12], [2, 3]] := head9_plain.2
  rw [e9] at S2
  clear e9
  obtain ⟨g2, cv2, hv2, _⟩ := S2.ex
  subst hv2
  have B2 := Aside0.mk (below_trans0 BA.out B2)
  have L2 := lit_rows w2 [[1, 12], [2, 3]] (by decide) (in64_lits (by decide))
  have B3 := lit_below w2 [[1, 12], [2, 3]] (.cells (hdrs w2.heap.size [[1, 12], [2, 3]]).toArray 24)
  obtain ⟨W3, hW3⟩ : ∃ W3, (litW w2 [[1, 12], [2, 3]]).alloc (.cells (hdrs w2.heap.size [[1, 12], [2, 3]]).toArray 24) = W3 := ⟨_, rfl⟩
  rw [hW3] at L2 B3
  have IS := Aside0.mk (is_same W3 _ _ g2 2 _ _ (S2.below B3) L2)
  have HW3 := Aside0.mk hW3
  have B3 := Aside0.mk (below_trans0 B2.out B3)
  clear GR S2 L2 hW3 hw2 GB BA B2
  go_wp2_with fail
  have e0 := HW3.out
  simp only [litW, hdrs, List.map, List.length] at e0
  have M1 := IS.out
  rw [← e0] at M1
  refine M1.mono ?_
  rw [e0]
  rintro e w4 ⟨rfl, B4⟩
  have B4 := Aside0.mk (below_trans0 B3.out B4)
  clear M1 e0 HW3 IS B3
  go_wp2_with fail
  refine (OF.out w4).mono ?_
  rintro e w5 ⟨rfl, B5⟩
  have B5 := Aside0.mk (below_trans0 B4.out B5)
  clear OF
  go_wp2
  go_ret
  exact ⟨rfl, B5.out⟩
end Go.Proofs.Ytihilledbnnniaa.Sg
