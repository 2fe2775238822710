/- Two sets of rows and places in them, as an argument; whether they are few; the sets. -/
import Derived.Test.YtmgoefhihljggaaSgYa
import Derived.Test.YtmgoefhihljggaaSgL
import Derived.Test.YtmgoefhihljggaaSgM
import Derived.Deep.RegionHeld3
import Derived.Test.YtmgoefhihljggaaSgO
namespace Go.Proofs.Ytmgoefhihljggaa.Sg
open Go.RowKit Go.Shelf
set_option linter.unusedVariables false
set_option linter.unusedSimpArgs false

structure SidesD where
  wid : Int
  wide : Int
  A : List Row
  B : List Row
  KA : List Int
  KB : List Int
def SidesAt (w : World) (ok : Nat → Prop) (v : Value) (s : SidesD) : Prop := ∃ vA vB vKA vKB, v = .agg #[.int .i64 s.wid, .int .i64 s.wide, vA, vB, vKA, vKB] ∧ In64 s.wid ∧ In64 s.wide ∧ RowsAt w ok vA s.A ∧ RowsAt w ok vB s.B ∧ RowAt w ok vKA s.KA ∧ RowAt w ok vKB s.KB
theorem SidesAt.below {w w' : World} {ok : Nat → Prop} {v : Value} {s : SidesD} (h : SidesAt w ok v s) (hb : Below w.heap.size w w') : SidesAt w' ok v s := by
  obtain ⟨vA, vB, vKA, vKB, h0, h1, h2, h3, h4, h5, h6⟩ := h
  exact ⟨vA, vB, vKA, vKB, h0, h1, h2, h3.below reads_row hb, h4.below reads_row hb, h5.below reads_int hb, h6.below reads_int hb⟩
def fewS (s : SidesD) : Bool := few s.A && (few s.B && (decide (s.KA.length ≤ 5) && decide (s.KB.length ≤ 5)))
/-- The six cells of such an argument in a block of its own. -/
structure Box6 (w : World) (g : Nat) (c0 c1 c2 c3 c4 c5 : Value) : Prop where
  k0 : w.cell? ⟨g, 0, none⟩ = some c0
  k1 : w.cell? ⟨g, 1, none⟩ = some c1
  k2 : w.cell? ⟨g, 2, none⟩ = some c2
  k3 : w.cell? ⟨g, 3, none⟩ = some c3
  k4 : w.cell? ⟨g, 4, none⟩ = some c4
  k5 : w.cell? ⟨g, 5, none⟩ = some c5
theorem Box6.new (w : World) (c0 c1 c2 c3 c4 c5 : Value) (T : TypeId) : Box6 (w.alloc (.cells #[c0, c1, c2, c3, c4, c5] T)) w.heap.size c0 c1 c2 c3 c4 c5 := by
  have h := heap_alloc_new w (.cells #[c0, c1, c2, c3, c4, c5] T)
  exact ⟨by rw [cell_of_row _ _ 0 _ _ _ h]; rfl, by rw [cell_of_row _ _ 1 _ _ _ h]; rfl, by rw [cell_of_row _ _ 2 _ _ _ h]; rfl, by rw [cell_of_row _ _ 3 _ _ _ h]; rfl, by rw [cell_of_row _ _ 4 _ _ _ h]; rfl, by rw [cell_of_row _ _ 5 _ _ _ h]; rfl⟩
theorem Box6.below {w w' : World} {g : Nat} {c0 c1 c2 c3 c4 c5 : Value} (h : Box6 w g c0 c1 c2 c3 c4 c5) (hb : Below w.heap.size w w') : Box6 w' g c0 c1 c2 c3 c4 c5 :=
  ⟨below_cell0 hb h.k0, below_cell0 hb h.k1, below_cell0 hb h.k2, below_cell0 hb h.k3, below_cell0 hb h.k4, below_cell0 hb h.k5⟩

set_option maxHeartbeats 2000000 in
set_option maxRecDepth 100000 in
theorem fewS_any (w : World) (ok : Nat → Prop) (v : Value) (s : SidesD) (h : SidesAt w ok v s) : Calls Try.prog 11 #[v] w fun e w' => e = .returned (.bool (fewS s)) ∧ Below w.heap.size w w' := by
  obtain ⟨vA, vB, vKA, vKB, rfl, _, _, hA, hB, hKA, hKB⟩ := h
  obtain ⟨AA, cA, rfl, _⟩ := hKA.form
  obtain ⟨AB, cB, rfl, _⟩ := hKB.form
  obtain ⟨wid, wide, A, B, KA, KB⟩ := s
  simp only at hA hB hKA hKB
  obtain ⟨ba, hba⟩ : ∃ ba, few A = ba := ⟨_, rfl⟩
  obtain ⟨bb, hbb⟩ : ∃ bb, few B = bb := ⟨_, rfl⟩
  have FA := Aside0.mk (fun W (hb : Below w.heap.size w W) => few_b W _ _ A ba (hA.below reads_row hb) hba)
  have FB := Aside0.mk (fun W (hb : Below w.heap.size w W) => few_b W _ _ B bb (hB.below reads_row hb) hbb)
  have hr : fewS ⟨wid, wide, A, B, KA, KB⟩ = (ba && (bb && (decide (KA.length ≤ 5) && decide (KB.length ≤ 5)))) := by unfold fewS; rw [hba, hbb]
  rw [hr]
  obtain ⟨W0, hW0⟩ : ∃ W0, w.alloc (.cells #[.int .i64 wid, .int .i64 wide, vA, vB, .slice AA KA.length cA, .slice AB KB.length cB] 32) = W0 := ⟨_, rfl⟩
  have B0 := Aside0.mk (show Below w.heap.size w W0 by rw [← hW0]; exact below_alloc0 (Below.refl _ _) _)
  obtain ⟨k0, k1, k2, k3, k4, k5⟩ := (show Box6 W0 w.heap.size _ _ _ _ _ _ by rw [← hW0]; exact Box6.new _ _ _ _ _ _ _ _)
  have HW0 := Aside0.mk hW0
  have FA := Aside0.mk (FA.out W0 B0.out)
  have FB := Aside0.mk (FB.out W0 B0.out)
  clear hA hB hKA hKB hba hbb hr hW0
  go_enter Try.func11, Try.ntmps11
  go_wp2_with fail
  rw [HW0.out]
  cases ba with
  | false =>
    go_wp2_with (first | (go_at_call 33; (with_reducible refine (FA.out).mono ?_); rintro e w' ⟨rfl, rfl⟩))
    go_ret
    exact ⟨by simp, B0.out⟩
  | true =>
    cases bb with
    | false =>
      go_wp2_with (first | (go_at_call 33; (with_reducible refine (FA.out).mono ?_); rintro e w' ⟨rfl, rfl⟩) | (go_at_call 33; (with_reducible refine (FB.out).mono ?_); rintro e w' ⟨rfl, rfl⟩))
      go_ret
      exact ⟨by simp, B0.out⟩
    | true =>
      by_cases h5 : KA.length ≤ 5
      · by_cases h6 : KB.length ≤ 5
        · go_wp2_with (first | (go_at_call 33; (with_reducible refine (FA.out).mono ?_); rintro e w' ⟨rfl, rfl⟩) | (go_at_call 33; (with_reducible refine (FB.out).mono ?_); rintro e w' ⟨rfl, rfl⟩))
          go_ret
          exact ⟨by simp [h5, h6]; try omega, B0.out⟩
        · go_wp2_with (first | (go_at_call 33; (with_reducible refine (FA.out).mono ?_); rintro e w' ⟨rfl, rfl⟩) | (go_at_call 33; (with_reducible refine (FB.out).mono ?_); rintro e w' ⟨rfl, rfl⟩))
          go_ret
          exact ⟨by simp [h5, h6]; try omega, B0.out⟩
      · go_wp2_with (first | (go_at_call 33; (with_reducible refine (FA.out).mono ?_); rintro e w' ⟨rfl, rfl⟩) | (go_at_call 33; (with_reducible refine (FB.out).mono ?_); rintro e w' ⟨rfl, rfl⟩))
        go_ret
        exact ⟨by simp [h5]; try omega, B0.out⟩

set_option maxHeartbeats 2000000 in
set_option maxRecDepth 100000 in
theorem makeS_any (w : World) (ok : Nat → Prop) (v : Value) (s : SidesD) (h : SidesAt w ok v s) (hf : fewS s = true) : Calls Try.prog 12 #[v] w fun e w' => ∃ ga gb na nb, e = .returned (.tuple #[.pointer (some ⟨ga, 0, none⟩), .pointer (some ⟨gb, 0, none⟩)]) ∧ SegAt w' (w.heap.size ≤ ·) (.pointer (some ⟨ga, 0, none⟩)) na (norm na s.A) ∧ SegAt w' (w.heap.size ≤ ·) (.pointer (some ⟨gb, 0, none⟩)) nb (norm nb s.B) ∧ Below w.heap.size w w' := by
  obtain ⟨vA, vB, vKA, vKB, rfl, h1, h2, hA, hB, hKA, hKB⟩ := h
  obtain ⟨AA, cA, rfl, _⟩ := hKA.form
  obtain ⟨AB, cB, rfl, _⟩ := hKB.form
  obtain ⟨A1, c1, rfl, _⟩ := hA.form
  obtain ⟨A2, c2, rfl, _⟩ := hB.form
  obtain ⟨wid, wide, A, B, KA, KB⟩ := s
  simp only at hA hB hKA hKB h1 h2
  have hfa : few A = true ∧ few B = true := by unfold fewS at hf; simp at hf; exact ⟨hf.1, hf.2.1⟩
  obtain ⟨la, _⟩ := few_yes hfa.1
  obtain ⟨lb, _⟩ := few_yes hfa.2
  obtain ⟨na, hna, hma⟩ := mod_u wid 5 (by omega) (by omega)
  obtain ⟨nb, hnb, hmb⟩ := mod_u wide 5 (by omega) (by omega)
  rw [show ((5 : Nat) : Int) = 5 from rfl] at hma hmb
  have hwa : IntKind.i64.wrap (na : Int) = (na : Int) := by rw [IntKind.wrap_i64]; omega
  have hwb : IntKind.i64.wrap (nb : Int) = (nb : Int) := by rw [IntKind.wrap_i64]; omega
  have MA := Aside0.mk (fun W (hb : Below w.heap.size w W) => make_any W _ _ na A (hA.below reads_row hb) (by omega) (by omega))
  have MB := Aside0.mk (fun W (hb : Below w.heap.size w W) => make_any W _ _ nb B (hB.below reads_row hb) (by omega) (by omega))
  obtain ⟨W0, hW0⟩ : ∃ W0, w.alloc (.cells #[.int .i64 wid, .int .i64 wide, .slice A1 A.length c1, .slice A2 B.length c2, .slice AA KA.length cA, .slice AB KB.length cB] 32) = W0 := ⟨_, rfl⟩
  have B0 := Aside0.mk (show Below w.heap.size w W0 by rw [← hW0]; exact below_alloc0 (Below.refl _ _) _)
  obtain ⟨k0, k1, k2, k3, k4, k5⟩ := (show Box6 W0 w.heap.size _ _ _ _ _ _ by rw [← hW0]; exact Box6.new _ _ _ _ _ _ _ _)
  have HW0 := Aside0.mk hW0
  have MA := Aside0.mk (MA.out W0.drew (below_drew B0.out))
  clear hA hB hKA hKB hf hfa hW0 la lb h1 h2 hna hnb k4 k5
  go_enter Try.func12, Try.ntmps12
  go_wp2_with fail
  rw [HW0.out]
  go_region_held3 (fun w' => w'.cell? ⟨w.heap.size, 0, none⟩ = some (.int .i64 wid) ∧ w'.cell? ⟨w.heap.size, 1, none⟩ = some (.int .i64 wide) ∧ w'.cell? ⟨w.heap.size, 2, none⟩ = some (.slice A1 A.length c1) ∧ w'.cell? ⟨w.heap.size, 3, none⟩ = some (.slice A2 B.length c2)) (first | exact ⟨k0, k1, k2, k3⟩ | go_keep)
    (first
      | ((with_reducible refine (MA.out).mono ?_); rintro e w4 ⟨v4, rfl, S4, B4⟩; have HB4 := Aside0.mk ((below_drew B0.out).trans (B4.mono (below_drew B0.out).size)); have S4 := Aside0.mk S4; have q0 := below_cell0 B4 (b := w.heap.size) (o := 0) (v := .int .i64 wid) (by simpa using k0); have q1 := below_cell0 B4 (b := w.heap.size) (o := 1) (v := .int .i64 wide) (by simpa using k1); have q2 := below_cell0 B4 (b := w.heap.size) (o := 2) (v := .slice A1 A.length c1) (by simpa using k2); have q3 := below_cell0 B4 (b := w.heap.size) (o := 3) (v := .slice A2 B.length c2) (by simpa using k3); clear B4)
      | ((with_reducible refine (MB.out _ HB4.out).mono ?_); rintro e w5 ⟨v5, rfl, S5, B5⟩; have HB5 := Aside0.mk (below_trans0 HB4.out B5); have T4 := Aside0.mk (S4.out.below B5); have S5 := Aside0.mk S5; have r0 := below_cell0 B5 q0; have r1 := below_cell0 B5 q1; have r2 := below_cell0 B5 q2; have r3 := below_cell0 B5 q3; clear B5) | fail)
  all_goals
    obtain ⟨ga, cva, hva, _⟩ := T4.out.ex
    obtain ⟨gb, cvb, hvb, _⟩ := S5.out.ex
    subst hva
    subst hvb
    go_wp2
    go_ret2
    have hs0 := B0.out.size
    have hs4 := HB4.out.size
    exact ⟨ga, gb, na, nb, rfl, T4.out.mono (fun b hb _ => Nat.le_trans hs0 (by simpa using hb)), S5.out.mono (fun b hb _ => Nat.le_trans hs4 hb), HB5.out⟩
end Go.Proofs.Ytmgoefhihljggaa.Sg
