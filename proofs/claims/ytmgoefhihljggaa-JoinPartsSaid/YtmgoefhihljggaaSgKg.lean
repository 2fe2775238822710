/- The two sets of an argument, with their widths. -/
import Derived.Test.YtmgoefhihljggaaSgYe
namespace Go.Proofs.Ytmgoefhihljggaa.Sg
open Go.RowKit Go.Shelf
set_option linter.unusedVariables false
set_option linter.unusedSimpArgs false

set_option maxHeartbeats 2000000 in
set_option maxRecDepth 100000 in
theorem makeW_any (w : World) (ok : Nat → Prop) (v : Value) (s : SidesD) (h : SidesAt w ok v s) (hf : fewS s = true) : Calls Try.prog 12 #[v] w fun e w' => ∃ ga gb na nb, e = .returned (.tuple #[.pointer (some ⟨ga, 0, none⟩), .pointer (some ⟨gb, 0, none⟩)]) ∧ SegAt w' (w.heap.size ≤ ·) (.pointer (some ⟨ga, 0, none⟩)) na (norm na s.A) ∧ SegAt w' (w.heap.size ≤ ·) (.pointer (some ⟨gb, 0, none⟩)) nb (norm nb s.B) ∧ Below w.heap.size w w' ∧ na < 5 ∧ nb < 5 := by
  obtain ⟨vA, vB, vKA, vKB, rfl, h1, h2, hA, hB, hKA, hKB⟩ := h
  obtain ⟨AA, cA, rfl, _⟩ := hKA.form
  obtain ⟨AB, cB, rfl, _⟩ := hKB.form
  obtain ⟨A1, c1, rfl, _⟩ := hA.form
  obtain ⟨A2, c2, rfl, _⟩ := hB.form
  obtain ⟨wid, wide, A, B, KA, KB⟩ := s
  simp only at hA hB hKA hKB h1 h2
  have hfa : few A = true ∧ few B = true := by unfold fewS at hf; simp at hf; exact ⟨hf.1, hf.2.1⟩
  obtain ⟨la, _⟩ := few_yes hfa.1
  obtain ⟨lb, _⟩ := few_yes hfa.2
  obtain ⟨na, hna, hma⟩ := mod_u wid 5 (by omega) (by omega)
  obtain ⟨nb, hnb, hmb⟩ := mod_u wide 5 (by omega) (by omega)
  rw [show ((5 : Nat) : Int) = 5 from rfl] at hma hmb
  have hwa : IntKind.i64.wrap (na : Int) = (na : Int) := by rw [IntKind.wrap_i64]; omega
  have hwb : IntKind.i64.wrap (nb : Int) = (nb : Int) := by rw [IntKind.wrap_i64]; omega
  have MA := Aside0.mk (fun W (hb : Below w.heap.size w W) => make_any W _ _ na A (hA.below reads_row hb) (by omega) (by omega))
  have MB := Aside0.mk (fun W (hb : Below w.heap.size w W) => make_any W _ _ nb B (hB.below reads_row hb) (by omega) (by omega))
  obtain ⟨W0, hW0⟩ : ∃ W0, w.alloc (.cells #[.int .i64 wid, .int .i64 wide, .slice A1 A.length c1, .slice A2 B.length c2, .slice AA KA.length cA, .slice AB KB.length cB] 32) = W0 := ⟨_, rfl⟩
  have B0 := Aside0.mk (show Below w.heap.size w W0 by rw [← hW0]; exact below_alloc0 (Below.refl _ _) _)
  obtain ⟨k0, k1, k2, k3, k4, k5⟩ := (show Box6 W0 w.heap.size _ _ _ _ _ _ by rw [← hW0]; exact Box6.new _ _ _ _ _ _ _ _)
  have HW0 := Aside0.mk hW0
  have MA := Aside0.mk (MA.out W0.drew (below_drew B0.out))
  have HW5 := Aside0.mk (And.intro hna hnb)
  clear hA hB hKA hKB hf hfa hW0 la lb h1 h2 hna hnb k4 k5
  go_enter Try.func12, Try.ntmps12
  go_wp2_with fail
  rw [HW0.out]
  go_region_held3 (fun w' => w'.cell? ⟨w.heap.size, 0, none⟩ = some (.int .i64 wid) ∧ w'.cell? ⟨w.heap.size, 1, none⟩ = some (.int .i64 wide) ∧ w'.cell? ⟨w.heap.size, 2, none⟩ = some (.slice A1 A.length c1) ∧ w'.cell? ⟨w.heap.size, 3, none⟩ = some (.slice A2 B.length c2)) (first | exact ⟨k0, k1, k2, k3⟩ | go_keep)
    (first
      | ((with_reducible refine (MA.out).mono ?_); rintro e w4 ⟨v4, rfl, S4, B4⟩; have HB4 := Aside0.mk ((below_drew B0.out).trans (B4.mono (below_drew B0.out).size)); have S4 := Aside0.mk S4; have q0 := below_cell0 B4 (b := w.heap.size) (o := 0) (v := .int .i64 wid) (by simpa using k0); have q1 := below_cell0 B4 (b := w.heap.size) (o := 1) (v := .int .i64 wide) (by simpa using k1); have q2 := below_cell0 B4 (b := w.heap.size) (o := 2) (v := .slice A1 A.length c1) (by simpa using k2); have q3 := below_cell0 B4 (b := w.heap.size) (o := 3) (v := .slice A2 B.length c2) (by simpa using k3); clear B4)
      | ((with_reducible refine (MB.out _ HB4.out).mono ?_); rintro e w5 ⟨v5, rfl, S5, B5⟩; have HB5 := Aside0.mk (below_trans0 HB4.out B5); have T4 := Aside0.mk (S4.out.below B5); have S5 := Aside0.mk S5; have r0 := below_cell0 B5 q0; have r1 := below_cell0 B5 q1; have r2 := below_cell0 B5 q2; have r3 := below_cell0 B5 q3; clear B5) | fail)
  all_goals
    obtain ⟨ga, cva, hva, _⟩ := T4.out.ex
    obtain ⟨gb, cvb, hvb, _⟩ := S5.out.ex
    subst hva
    subst hvb
    go_wp2
    go_ret2
    have hs0 := B0.out.size
    have hs4 := HB4.out.size
    exact ⟨ga, gb, na, nb, rfl, T4.out.mono (fun b hb _ => Nat.le_trans hs0 (by simpa using hb)), S5.out.mono (fun b hb _ => Nat.le_trans hs4 hb), HB5.out, HW5.out.1, HW5.out.2⟩
end Go.Proofs.Ytmgoefhihljggaa.Sg
