/- The head of the laws of layer 8. -/
import Derived.Test.YtmgoefhihljggaaSgYc
import Derived.Test.YtmgoefhihljggaaSgXk
namespace Go.Proofs.Ytmgoefhihljggaa.Sg
open Go.RowKit Go.Shelf
set_option linter.unusedVariables false
set_option linter.unusedSimpArgs false

set_option maxHeartbeats 4000000 in
set_option maxRecDepth 100000 in
theorem head8_any (w : World) : Calls Try.prog 7 #[] w fun e w' => e = .returned (.bool true) ∧ Below w.heap.size w w' := by
  have L0 := lit_rows w [[1, 7], [2, 8]] (by decide) (in64_lits (by decide))
  have B0 := lit_below w [[1, 7], [2, 8]] (.cells (hdrs w.heap.size [[1, 7], [2, 8]]).toArray 24)
  have hN : norm 2 [[1, 7], [2, 8]] = [[1, 7], [2, 8]] := by decide
  obtain ⟨W0, hW0⟩ : ∃ W0, (litW w [[1, 7], [2, 8]]).alloc (.cells (hdrs w.heap.size [[1, 7], [2, 8]]).toArray 24) = W0 := ⟨_, rfl⟩
  rw [hW0] at L0 B0
  have M := make_any W0 _ _ 2 _ L0 (by omega) (by decide)
  rw [hN] at M
  have hpr : prs ([[1, 7], [2, 8]].map fun r => keyOf r [1]) ([[7, 1], [7, 2]].map fun r => keyOf r [0]) ([[1, 7], [2, 8]] : List Row).length = [(0, 0), (0, 1)] := by decide
  have HPR := Aside0.mk hpr
  have M := Aside0.mk M
  have B0 := Aside0.mk B0
  have HW0 := Aside0.mk hW0
  clear L0 hN hW0 hpr
  go_enter Try.func7, Try.ntmps7
  go_wp2_with fail
  have e0 := HW0.out
  simp only [litW, hdrs, List.map, List.length] at e0
  have M1 := M.out
  rw [← e0] at M1
  refine M1.mono ?_
  rw [e0]
  rintro e w1 ⟨v, rfl, S1, B1⟩
  have B1 := Aside0.mk (below_trans0 B0.out B1)
  obtain ⟨g, cv, hv, _⟩ := S1.ex
  subst hv
  have L2 := lit_rows w1 [[7, 1], [7, 2]] (by decide) (in64_lits (by decide))
  have B2 := lit_below w1 [[7, 1], [7, 2]] (.cells (hdrs w1.heap.size [[7, 1], [7, 2]]).toArray 24)
  have hN2 : norm 2 [[7, 1], [7, 2]] = [[7, 1], [7, 2]] := by decide
  obtain ⟨W2, hW2⟩ : ∃ W2, (litW w1 [[7, 1], [7, 2]]).alloc (.cells (hdrs w1.heap.size [[7, 1], [7, 2]]).toArray 24) = W2 := ⟨_, rfl⟩
  rw [hW2] at L2 B2
  have N := make_any W2 _ _ 2 _ L2 (by omega) (by decide)
  rw [hN2] at N
  have S2 := S1.below B2
  have N := Aside0.mk N
  have S2 := Aside0.mk S2
  have B2 := Aside0.mk (below_trans0 B1.out B2)
  have HW2 := Aside0.mk hW2
  clear L2 hN2 hW2 M M1 e0 HW0 B0 S1
  go_wp2_with fail
  have e2 := HW2.out
  simp only [litW, hdrs, List.map, List.length] at e2
  have N1 := N.out
  rw [← e2] at N1
  refine N1.mono ?_
  rw [e2]
  rintro e w3 ⟨v3, rfl, S3, B3⟩
  obtain ⟨g3, cv3, hv3, _⟩ := S3.ex
  subst hv3
  have T3 := S2.out.below B3
  have B3 := Aside0.mk (below_trans0 B2.out B3)
  have ba := below_alloc0 (Below.refl w3.heap.size w3) (.cells #[.int .i64 1] 3)
  have ra := RowAt.newT w3 [1] 3 (by decide) (fun x hx => in64_small (by simp at hx; omega))
  obtain ⟨W4, hW4⟩ : ∃ W4, w3.alloc (.cells #[.int .i64 1] 3) = W4 := ⟨_, rfl⟩
  have ra : RowAt W4 (w3.heap.size ≤ ·) (.slice (some ⟨w3.heap.size, 0, none⟩) 1 1) [1] := by rw [← hW4]; exact ra
  rw [hW4] at ba
  have bb := below_alloc0 (Below.refl W4.heap.size W4) (.cells #[.int .i64 0] 3)
  have rb := RowAt.newT W4 [0] 3 (by decide) (fun x hx => in64_small (by simp at hx; omega))
  have hz4 : W4.heap.size = w3.heap.size + 1 := by rw [← hW4]; simp
  have HP := hashP_any _ _ _ _ _ g g3 2 2 _ _ [1] [0] _ _ ((T3.below ba).below bb) ((S3.below ba).below bb) (ra.below reads_int bb) rb (by decide) (by decide) (by decide) (by decide)
  rw [HPR.out, hz4, ← hW4] at HP
  have HP := Aside0.mk HP
  have B5 := Aside0.mk (show Below w.heap.size w ((w3.alloc (.cells #[.int .i64 1] 3)).alloc (.cells #[.int .i64 0] 3)) by
    have := below_trans0 (below_trans0 B3.out ba) bb
    rwa [← hW4] at this)
  clear ba ra bb rb hz4 hW4 T3 S3 S2 N N1 e2 HW2 B2 B3 B1
  go_wp2_with fail
  refine (HP.out).mono ?_
  rintro e w6 ⟨v6, rfl, RP, B6⟩
  obtain ⟨Ap, cp, hpf, hcp, _⟩ := RP.form
  subst hpf
  obtain ⟨b, o, u0, u1, rfl, _, _, c0, c1, ⟨rfl, _⟩, ⟨rfl, _⟩⟩ := RP.at_ 1 (by decide)
  have B6 := Aside0.mk (below_trans0 B5.out B6)
  simp only [List.getElem_cons_zero, List.getElem_cons_succ, List.length_cons, List.length_nil, Nat.zero_add, Nat.add_zero, Nat.reduceAdd, Nat.reduceMul, Nat.one_mul] at c0 c1 hcp
  clear HP B5 RP HPR
  go_wp2
  go_ret
  exact ⟨rfl, B6.out⟩
end Go.Proofs.Ytmgoefhihljggaa.Sg
