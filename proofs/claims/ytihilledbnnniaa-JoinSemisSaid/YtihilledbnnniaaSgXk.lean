/- The head of the laws of layer 7. -/
import Derived.Test.YtihilledbnnniaaSgXj
import Derived.Test.YtihilledbnnniaaSgK
namespace Go.Proofs.Ytihilledbnnniaa.Sg
open Go.RowKit Go.Shelf
set_option linter.unusedVariables false
set_option linter.unusedSimpArgs false

theorem RowAt.newT (w : World) (r : Row) (e : Nat) (hl : r.length < 1000) (hi : ∀ x ∈ r, In64 x) : RowAt (w.alloc (.cells (r.map (Value.int .i64)).toArray e)) (w.heap.size ≤ ·) (.slice (some ⟨w.heap.size, 0, none⟩) r.length r.length) r :=
  RowAt.lit (heap_alloc_new w _) rfl (Nat.le_refl _) hl hi

set_option maxHeartbeats 4000000 in
set_option maxRecDepth 100000 in
theorem head7_any (w : World) : Calls Try.prog 11 #[] w fun e w' => e = .returned (.bool true) ∧ Below w.heap.size w w' := by
  have L0 := lit_rows w [[1, 5], [2, 5], [3, 6]] (by decide) (in64_lits (by decide))
  have B0 := lit_below w [[1, 5], [2, 5], [3, 6]] (.cells (hdrs w.heap.size [[1, 5], [2, 5], [3, 6]]).toArray 24)
  have hN : norm 2 [[1, 5], [2, 5], [3, 6]] = [[1, 5], [2, 5], [3, 6]] := by decide
  obtain ⟨W0, hW0⟩ : ∃ W0, (litW w [[1, 5], [2, 5], [3, 6]]).alloc (.cells (hdrs w.heap.size [[1, 5], [2, 5], [3, 6]]).toArray 24) = W0 := ⟨_, rfl⟩
  rw [hW0] at L0 B0
  have M := make_any W0 _ _ 2 _ L0 (by omega) (by decide)
  rw [hN] at M
  have hw5 : which ([[1, 5], [2, 5], [3, 6]].map fun r => keyOf r [1]) [5] = [0, 1] := by decide
  have hw7 : which ([[1, 5], [2, 5], [3, 6]].map fun r => keyOf r [1]) [7] = [] := by decide
  have hun : (uniq ([[1, 5], [2, 5], [3, 6]].map fun r => keyOf r [1])).length = 2 := by decide
  have HW5 := Aside0.mk hw5
  have HW7 := Aside0.mk hw7
  have HUN := Aside0.mk hun
  have M := Aside0.mk M
  have B0 := Aside0.mk B0
  have HW0 := Aside0.mk hW0
  clear L0 hN hW0 hw5 hw7 hun
  go_enter Try.func11, Try.ntmps11
  go_wp2_with fail
  have e0 := HW0.out
  simp only [litW, hdrs, List.map, List.length] at e0
  have M1 := M.out
  rw [← e0] at M1
  refine M1.mono ?_
  rw [e0]
  rintro e w1 ⟨v, rfl, S1, B1⟩
  have B1 := Aside0.mk (below_trans0 B0.out B1)
  obtain ⟨g, cv, hv, _⟩ := S1.ex
  subst hv
  have BA := below_alloc0 (Below.refl w1.heap.size w1) (.cells #[.int .i64 1] 3)
  have RA := RowAt.newT w1 [1] 3 (by decide) (fun x hx => in64_small (by simp at hx; omega))
  have BD := Aside0.mk (build_any _ _ _ _ _ 2 _ [1] (S1.below BA) RA (by decide))
  have BA := Aside0.mk (below_trans0 B1.out BA)
  clear M M1 e0 HW0 B0 B1 RA S1
  go_wp2_with fail
  refine (BD.out).mono ?_
  rintro e w2 ⟨gx, m, rfl, IX, B2⟩
  rw [HUN.out] at IX
  have BB := below_trans0 BA.out B2
  have BC := below_alloc0 (Below.refl w2.heap.size w2) (.cells #[.int .i64 5] 2)
  have RC := RowAt.newT w2 [5] 2 (by decide) (fun x hx => in64_small (by simp at hx; omega))
  have PB := Aside0.mk (probe_any _ _ _ _ _ _ _ _ [5] (IX.below BC) RC (by omega))
  have IX := Aside0.mk (IX.below BC)
  have BC := Aside0.mk (below_trans0 BB BC)
  clear BB B2 BD BA RC
  go_wp2_with fail
  refine (PB.out).mono ?_
  rintro e w3 ⟨pv, rfl, RP, B3⟩
  rw [HW5.out] at RP
  obtain ⟨Ap, cp, hpf, hcp, _⟩ := RP.form
  subst hpf
  obtain ⟨b, o, u0, rfl, _, _, c0, rfl, _⟩ := RP.at_ 0 (by decide)
  obtain ⟨b', o', u1, hbo, _, _, c1, rfl, _⟩ := RP.at_ 1 (by decide)
  cases hbo
  have IX3 := IX.out.below B3
  have LN := Aside0.mk (lenx_any w3 _ _ _ _ _ IX3)
  have B3 := Aside0.mk (below_trans0 BC.out B3)
  have BE := below_alloc0 (Below.refl w3.heap.size w3) (.cells #[.int .i64 7] 2)
  have RE := RowAt.newT w3 [7] 2 (by decide) (fun x hx => in64_small (by simp at hx; omega))
  have P7 := Aside0.mk (probe_any _ _ _ _ _ _ _ _ [7] (IX3.below BE) RE (by omega))
  have BE := Aside0.mk (below_trans0 B3.out BE)
  simp only [List.getElem_cons_zero, List.getElem_cons_succ, List.length_cons, List.length_nil, Nat.zero_add, Nat.add_zero] at c0 c1 hcp
  clear PB IX BC IX3 RE B3 RP
  go_wp2_with fail
  refine (LN.out).mono ?_
  rintro e w4 ⟨rfl, rfl⟩
  go_wp2_with fail
  refine (P7.out).mono ?_
  rintro e w5 ⟨pv, rfl, RP, B5⟩
  rw [HW7.out] at RP
  obtain ⟨Ap, cp, hpf, _⟩ := RP.form
  subst hpf
  have B5 := Aside0.mk (below_trans0 BE.out B5)
  clear P7 LN BE RP
  go_wp2
  go_ret
  exact ⟨rfl, B5.out⟩
end Go.Proofs.Ytihilledbnnniaa.Sg
