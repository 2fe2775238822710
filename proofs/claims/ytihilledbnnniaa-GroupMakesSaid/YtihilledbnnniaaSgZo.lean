/- GroupMakes: the aggregates of any numbers, and their words. The walk. -/
import Derived.Test.YtihilledbnnniaaSgZn
namespace Go.Proofs.Ytihilledbnnniaa.Sg
open Go.RowKit Go.Shelf
set_option linter.unusedVariables false
set_option linter.unusedSimpArgs false

def ofLt (s : ByteArray) (k : Nat) : Nat := if ofWord s < k then ofWord s else 0
theorem ofLt_one (s : ByteArray) : ofLt s 1 = 0 := by unfold ofLt; split <;> omega
theorem ofWord_le (s : ByteArray) : ofWord s ≤ 4 := by unfold ofWord; split <;> (try omega); split <;> (try omega); split <;> (try omega); split <;> omega
theorem ofLt_five (s : ByteArray) : ofLt s 5 = ofWord s := by have := ofWord_le s; unfold ofLt; rw [if_pos (by omega)]
theorem ofWord_word (k : Nat) (h1 : 1 ≤ k) (h4 : k ≤ 4) : ofWord (wordOf k) = k := by
  have hc : k = 1 ∨ k = 2 ∨ k = 3 ∨ k = 4 := by omega
  rcases hc with rfl | rfl | rfl | rfl <;> decide
theorem wordOf_of (s : ByteArray) (h : ofWord s ≠ 0) : wordOf (ofWord s : Nat) = s := by
  unfold ofWord at *
  split
  · assumption
  · split
    · assumption
    · split
      · assumption
      · split
        · assumption
        · simp_all
theorem ofLt_yes {s : ByteArray} {k : Nat} (h1 : 1 ≤ k) (h4 : k ≤ 4) (h : wordOf k = s) : ofLt s (k + 1) = k := by
  have := ofWord_word k h1 h4
  rw [h] at this
  unfold ofLt; rw [if_pos (by omega), this]
theorem ofLt_no {s : ByteArray} {k : Nat} (h1 : 1 ≤ k) (h : wordOf k ≠ s) : ofLt s (k + 1) = ofLt s k := by
  have : ofWord s ≠ k := fun e => by
    have h9 := wordOf_of s (by omega)
    rw [e] at h9; exact h h9
  unfold ofLt
  by_cases q : ofWord s < k
  · rw [if_pos q, if_pos (by omega)]
  · rw [if_neg q, if_neg (by omega)]
abbrev wordCells : Array Value := #[.string ⟨#[]⟩, .string ⟨#[99, 111, 117, 110, 116]⟩, .string ⟨#[115, 117, 109]⟩, .string ⟨#[109, 105, 110]⟩, .string ⟨#[109, 97, 120]⟩]
theorem word_cell {w : World} {b : Nat} (h : w.heap[b]? = some (.cells wordCells 52 (0, 0)) ∨ ∃ t, w.heap[b]? = some (.cells wordCells t (0, 0))) (k : Nat) (h4 : k ≤ 4) : w.cell? ⟨b, k, none⟩ = some (.string (wordOf k)) := by
  have hc : k = 0 ∨ k = 1 ∨ k = 2 ∨ k = 3 ∨ k = 4 := by omega
  rcases h with h | ⟨t, h⟩ <;>
  · rcases hc with rfl | rfl | rfl | rfl | rfl <;> · simp only [World.cell?, h]; rfl

set_option maxHeartbeats 4000000 in
set_option maxRecDepth 100000 in
theorem GroupMakes_walk (a : Int) (lv : Value) (xs : List Int) (s : ByteArray) (w : World) (ha : In64 a) (hl : RowAt w (fun _ => True) lv xs) (hs : s.size ≤ maxLen) :
    Calls Try.prog 8 #[.int .i64 a, lv, .string s] w fun e w' => e = .returned (.bool true) ∧ Below w.heap.size w w' := by
  obtain ⟨A, c, rfl, _⟩ := hl.form
  have HH := Aside0.mk (head9_any w)
  have HL := Aside0.mk hl
  have HA := Aside0.mk ha
  clear hl ha
  go_enter Try.func8, Try.ntmps8
  go_wp2_with fail
  refine (HH.out).mono ?_
  rintro e w1 ⟨rfl, B1⟩
  have B1 := Aside0.mk B1
  have HL1 := Aside0.mk (HL.out.below reads_int B1.out)
  clear HH HL
  by_cases q1 : 200 < xs.length
  · go_wp2
    go_ret
    exact ⟨rfl, B1.out⟩
  by_cases q2 : 60 < s.size
  · go_wp2
    go_ret
    exact ⟨rfl, B1.out⟩
  have hs1 : xs.length ≤ 200 := by omega
  have hs2 : s.size ≤ 60 := by omega
  obtain ⟨W1, hW1⟩ : ∃ W1, w1.alloc (.cells wordCells 9) = W1 := ⟨_, rfl⟩
  have CW := Aside0.mk (show ∀ k : Nat, k ≤ 4 → W1.cell? ⟨w1.heap.size, k, none⟩ = some (.string (wordOf k)) from fun k hk => by rw [← hW1]; exact word_cell (.inr ⟨_, heap_alloc_new w1 _⟩) k hk)
  have BA : Below w1.heap.size w1 W1 := by rw [← hW1]; exact below_alloc0 (Below.refl _ _) _
  have AM := Aside0.mk (aggmake_any W1 _ a _ xs (HL1.out.below reads_int BA) (by omega))
  have MM := Aside0.mk (made9_any W1 _ a _ xs (HL1.out.below reads_int BA) (by omega))
  have BA := Aside0.mk (below_trans0 B1.out BA)
  obtain ⟨mv, hmv⟩ : ∃ mv, madeV a xs = mv := ⟨_, rfl⟩
  obtain ⟨mb, hmb⟩ : ∃ mb, madeB a xs = mb := ⟨_, rfl⟩
  rw [hmv, hmb] at AM MM
  have OF := Aside0.mk (fun w2 => of_any w2 s)
  obtain ⟨r, hr⟩ : ∃ r, ofWord s = r := ⟨_, rfl⟩
  rw [hr] at OF
  have HR := Aside0.mk hr
  have hr4 := ofWord_le s
  rw [hr] at hr4
  simp only [wordCells] at hW1
  have HW1 := Aside0.mk hW1
  have WD := Aside0.mk (fun w2 => word_any w2 a HA.out)
  clear hmv hmb hr B1 HL1 q1 q2 hW1
  have hcase : (∃ n : Nat, a = n ∧ n ≤ 4) ∨ (a < 0 ∧ wordOf a = ⟨#[]⟩) ∨ (4 < a ∧ wordOf a = ⟨#[]⟩) := by
    by_cases q : a < 0
    · refine .inr (.inl ⟨q, ?_⟩); unfold wordOf; rw [if_neg (by omega), if_neg (by omega), if_neg (by omega), if_neg (by omega)]
    · by_cases q2 : 4 < a
      · refine .inr (.inr ⟨q2, ?_⟩); unfold wordOf; rw [if_neg (by omega), if_neg (by omega), if_neg (by omega), if_neg (by omega)]
      · exact .inl ⟨a.toNat, by omega, by omega⟩
  rcases hcase with ⟨n, rfl, hn⟩ | ⟨ha0, hwa⟩ | ⟨ha0, hwa⟩
  · have hcn := CW.out n hn
    obtain ⟨uw, huw⟩ : ∃ uw, wordOf (n : Int) = uw := ⟨_, rfl⟩
    rw [huw] at hcn WD
    rw [← HW1.out] at hcn
    clear huw
    go_wp2_with fail
    rw [HW1.out]
    refine (AM.out).mono ?_
    rintro e w' ⟨rfl, rfl⟩
    clear AM hcn
    go_wp2_with fail
    refine (MM.out).mono ?_
    rintro e w' ⟨rfl, rfl⟩
    clear MM
    go_wp2_with fail
    go_loopw [13, 14] (fun s13 s14 wr => ∃ k : Nat, s14 = .int .i64 k ∧ 1 ≤ k ∧ k ≤ 5 ∧ s13 = .int .i64 (ofLt s k) ∧ Aside0 (Below W1.heap.size W1 wr)) (fun _ s14 _ => 5 - (intOf s14).toNat)
    case atStart => exact ⟨1, rfl, by omega, by omega, by rw [ofLt_one]; rfl, ⟨Below.refl _ _⟩⟩
    case round =>
      obtain ⟨k, rfl, h1, h5, rfl, HB⟩ := hrel
      by_cases hk : k ≤ 4
      · have hck := below_cell0 HB.out (CW.out k hk)
        have hy := ofLt_yes (s := s) h1 hk
        have hno := ofLt_no (s := s) h1
        have OK := Aside0.mk (of_any wr (wordOf k))
        rw [ofWord_word k h1 hk] at OK
        obtain ⟨u, hu⟩ : ∃ u, wordOf (k : Int) = u := ⟨_, rfl⟩
        rw [hu] at hck hy hno OK
        clear hu
        by_cases he : u = s
        · have HY := Aside0.mk (hy he)
          subst he
          clear hy hno
          go_wp2_with fail
          refine (OK.out).mono ?_
          rintro e w2 ⟨rfl, B2⟩
          have B2 := Aside0.mk (below_trans0 HB.out B2)
          clear OK
          go_wp2
          go_roundw
          case rel => exact ⟨k + 1, by go_num, by omega, by omega, by rw [HY.out], B2⟩
          case measure => simp [intOf]; omega
        · have HY := Aside0.mk (hno he)
          have hsn := str_ne he
          clear hy hno
          go_wp2_with fail
          refine (OK.out).mono ?_
          rintro e w2 ⟨rfl, B2⟩
          have B2 := Aside0.mk (below_trans0 HB.out B2)
          clear OK
          go_wp2
          go_roundw
          case rel => exact ⟨k + 1, by go_num, by omega, by omega, by rw [HY.out], B2⟩
          case measure => simp [intOf]; omega
      · obtain rfl : k = 5 := by omega
        have HO5 := ofLt_five s
        rw [HR.out] at HO5
        simp only [HO5]
        clear HO5
        go_wp2_with fail
        refine (WD.out wr).mono ?_
        rintro e w2 ⟨rfl, B2⟩
        have B2 := Aside0.mk (below_trans0 HB.out B2)
        clear WD
        go_wp2_with fail
        refine (OF.out w2).mono ?_
        rintro e w3 ⟨rfl, B3⟩
        have B3 := Aside0.mk (below_trans0 BA.out (below_trans0 B2.out B3))
        clear OF
        go_wp2
        go_ret
        exact ⟨rfl, B3.out⟩
  · rw [hwa] at WD
    clear hwa
    go_wp2_with fail
    rw [HW1.out]
    refine (AM.out).mono ?_
    rintro e w' ⟨rfl, rfl⟩
    clear AM 
    go_wp2_with fail
    refine (MM.out).mono ?_
    rintro e w' ⟨rfl, rfl⟩
    clear MM
    go_wp2_with fail
    go_loopw [13, 14] (fun s13 s14 wr => ∃ k : Nat, s14 = .int .i64 k ∧ 1 ≤ k ∧ k ≤ 5 ∧ s13 = .int .i64 (ofLt s k) ∧ Aside0 (Below W1.heap.size W1 wr)) (fun _ s14 _ => 5 - (intOf s14).toNat)
    case atStart => exact ⟨1, rfl, by omega, by omega, by rw [ofLt_one]; rfl, ⟨Below.refl _ _⟩⟩
    case round =>
      obtain ⟨k, rfl, h1, h5, rfl, HB⟩ := hrel
      by_cases hk : k ≤ 4
      · have hck := below_cell0 HB.out (CW.out k hk)
        have hy := ofLt_yes (s := s) h1 hk
        have hno := ofLt_no (s := s) h1
        have OK := Aside0.mk (of_any wr (wordOf k))
        rw [ofWord_word k h1 hk] at OK
        obtain ⟨u, hu⟩ : ∃ u, wordOf (k : Int) = u := ⟨_, rfl⟩
        rw [hu] at hck hy hno OK
        clear hu
        by_cases he : u = s
        · have HY := Aside0.mk (hy he)
          subst he
          clear hy hno
          go_wp2_with fail
          refine (OK.out).mono ?_
          rintro e w2 ⟨rfl, B2⟩
          have B2 := Aside0.mk (below_trans0 HB.out B2)
          clear OK
          go_wp2
          go_roundw
          case rel => exact ⟨k + 1, by go_num, by omega, by omega, by rw [HY.out], B2⟩
          case measure => simp [intOf]; omega
        · have HY := Aside0.mk (hno he)
          have hsn := str_ne he
          clear hy hno
          go_wp2_with fail
          refine (OK.out).mono ?_
          rintro e w2 ⟨rfl, B2⟩
          have B2 := Aside0.mk (below_trans0 HB.out B2)
          clear OK
          go_wp2
          go_roundw
          case rel => exact ⟨k + 1, by go_num, by omega, by omega, by rw [HY.out], B2⟩
          case measure => simp [intOf]; omega
      · obtain rfl : k = 5 := by omega
        have HO5 := ofLt_five s
        rw [HR.out] at HO5
        simp only [HO5]
        clear HO5
        go_wp2_with fail
        refine (WD.out wr).mono ?_
        rintro e w2 ⟨rfl, B2⟩
        have B2 := Aside0.mk (below_trans0 HB.out B2)
        clear WD
        go_wp2_with fail
        refine (OF.out w2).mono ?_
        rintro e w3 ⟨rfl, B3⟩
        have B3 := Aside0.mk (below_trans0 BA.out (below_trans0 B2.out B3))
        clear OF
        go_wp2
        go_ret
        exact ⟨rfl, B3.out⟩
  · rw [hwa] at WD
    clear hwa
    go_wp2_with fail
    rw [HW1.out]
    refine (AM.out).mono ?_
    rintro e w' ⟨rfl, rfl⟩
    clear AM 
    go_wp2_with fail
    refine (MM.out).mono ?_
    rintro e w' ⟨rfl, rfl⟩
    clear MM
    go_wp2_with fail
    go_loopw [13, 14] (fun s13 s14 wr => ∃ k : Nat, s14 = .int .i64 k ∧ 1 ≤ k ∧ k ≤ 5 ∧ s13 = .int .i64 (ofLt s k) ∧ Aside0 (Below W1.heap.size W1 wr)) (fun _ s14 _ => 5 - (intOf s14).toNat)
    case atStart => exact ⟨1, rfl, by omega, by omega, by rw [ofLt_one]; rfl, ⟨Below.refl _ _⟩⟩
    case round =>
      obtain ⟨k, rfl, h1, h5, rfl, HB⟩ := hrel
      by_cases hk : k ≤ 4
      · have hck := below_cell0 HB.out (CW.out k hk)
        have hy := ofLt_yes (s := s) h1 hk
        have hno := ofLt_no (s := s) h1
        have OK := Aside0.mk (of_any wr (wordOf k))
        rw [ofWord_word k h1 hk] at OK
        obtain ⟨u, hu⟩ : ∃ u, wordOf (k : Int) = u := ⟨_, rfl⟩
        rw [hu] at hck hy hno OK
        clear hu
        by_cases he : u = s
        · have HY := Aside0.mk (hy he)
          subst he
          clear hy hno
          go_wp2_with fail
          refine (OK.out).mono ?_
          rintro e w2 ⟨rfl, B2⟩
          have B2 := Aside0.mk (below_trans0 HB.out B2)
          clear OK
          go_wp2
          go_roundw
          case rel => exact ⟨k + 1, by go_num, by omega, by omega, by rw [HY.out], B2⟩
          case measure => simp [intOf]; omega
        · have HY := Aside0.mk (hno he)
          have hsn := str_ne he
          clear hy hno
          go_wp2_with fail
          refine (OK.out).mono ?_
          rintro e w2 ⟨rfl, B2⟩
          have B2 := Aside0.mk (below_trans0 HB.out B2)
          clear OK
          go_wp2
          go_roundw
          case rel => exact ⟨k + 1, by go_num, by omega, by omega, by rw [HY.out], B2⟩
          case measure => simp [intOf]; omega
      · obtain rfl : k = 5 := by omega
        have HO5 := ofLt_five s
        rw [HR.out] at HO5
        simp only [HO5]
        clear HO5
        go_wp2_with fail
        refine (WD.out wr).mono ?_
        rintro e w2 ⟨rfl, B2⟩
        have B2 := Aside0.mk (below_trans0 HB.out B2)
        clear WD
        go_wp2_with fail
        refine (OF.out w2).mono ?_
        rintro e w3 ⟨rfl, B3⟩
        have B3 := Aside0.mk (below_trans0 BA.out (below_trans0 B2.out B3))
        clear OF
        go_wp2
        go_ret
        exact ⟨rfl, B3.out⟩
end Go.Proofs.Ytihilledbnnniaa.Sg
