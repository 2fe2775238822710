/- Contracts: cmp.Compare, slices.Compare and slices.Equal of rows of numbers. -/
import Derived.Test.YtmgoefhihljggaaSgA
import Derived.Test.YtmgoefhihljggaaSgP
namespace Go.Proofs.Ytmgoefhihljggaa.Sg
open Go.RowKit Go.Shelf
set_option linter.unusedVariables false
set_option linter.unusedSimpArgs false

def cmpI (x y : Int) : Int := if x < y then -1 else if y < x then 1 else 0
theorem cmpI_lt {x y : Int} (h : x < y) : cmpI x y = -1 := by unfold cmpI; rw [if_pos h]
theorem cmpI_gt {x y : Int} (h : y < x) : cmpI x y = 1 := by unfold cmpI; rw [if_neg (by omega), if_pos h]
theorem cmpI_eq {x y : Int} (h : x = y) : cmpI x y = 0 := by unfold cmpI; rw [if_neg (by omega), if_neg (by omega)]
theorem isNaN_any (x : Int) (w : World) : Calls Try.prog 56 #[.int .i64 x] w fun e w' => e = .returned (.bool false) ∧ w = w' := by
  go_enter Try.func56, Try.ntmps56
  go_wp2
  go_ret
  exact ⟨by simp, rfl⟩
theorem cmp_any (x y c : Int) (w : World) (hc : cmpI x y = c) : Calls Try.prog 38 #[.int .i64 x, .int .i64 y] w fun e w' => e = .returned (.int .i64 c) ∧ w = w' := by
  subst hc
  have n1 := isNaN_any x
  have n2 := isNaN_any y
  have N1 := Aside0.mk n1
  have N2 := Aside0.mk n2
  clear n1 n2
  by_cases h1 : x < y
  · have e := Aside0.mk (cmpI_lt h1)
    go_enter Try.func38, Try.ntmps38
    go_wp2_with (first | (go_at_call 56; (with_reducible refine (isNaN_any _ _).mono ?_); rintro e w' ⟨rfl, rfl⟩))
    go_ret
    exact ⟨ret_int e.out.symm, rfl⟩
  · by_cases h2 : y < x
    · have e := Aside0.mk (cmpI_gt h2)
      go_enter Try.func38, Try.ntmps38
      go_wp2_with (first | (go_at_call 56; (with_reducible refine (isNaN_any _ _).mono ?_); rintro e w' ⟨rfl, rfl⟩))
      go_ret
      exact ⟨ret_int e.out.symm, rfl⟩
    · have e := Aside0.mk (cmpI_eq (x := x) (y := y) (by omega))
      go_enter Try.func38, Try.ntmps38
      go_wp2_with (first | (go_at_call 56; (with_reducible refine (isNaN_any _ _).mono ?_); rintro e w' ⟨rfl, rfl⟩))
      go_ret
      exact ⟨ret_int e.out.symm, rfl⟩

set_option maxHeartbeats 1000000 in
set_option maxRecDepth 100000 in
theorem scompare_any (w : World) (ok ok2 : Nat → Prop) (v v2 : Value) (a b : Row) (h : RowAt w ok v a) (h2 : RowAt w ok2 v2 b) :
    Calls Try.prog 20 #[v, v2] w fun e w' => e = .returned (.int .i64 (rowCmp a b)) ∧ w = w' := by
  obtain ⟨Aa, ca, rfl, hca, ham, _⟩ := h.form
  obtain ⟨Ab, cb, rfl, hcb, hbm, _⟩ := h2.form
  have HA := Aside0.mk h
  have HB := Aside0.mk h2
  clear h h2
  go_enter Try.func20, Try.ntmps20
  go_wp2
  go_loop [11] (fun s => ∃ k : Nat, s = .int .i64 k ∧ k ≤ a.length ∧ Aside0 (k ≤ b.length) ∧ Aside0 (rowCmp a b = rowCmp (a.drop k) (b.drop k))) (fun s => a.length - (intOf s).toNat)
  case atStart => exact ⟨0, rfl, Nat.zero_le _, ⟨Nat.zero_le _⟩, ⟨rfl⟩⟩
  case round =>
    obtain ⟨k, rfl, hk, HKB, HR⟩ := hrel
    have hkb := HKB.out
    by_cases hlt : k < a.length
    · obtain ⟨ba, oa, u, rfl, _, _, hc, rfl, _⟩ := HA.out.at_ k hlt
      rw [getD_of_lt hlt] at hc
      by_cases hlb : k < b.length
      · obtain ⟨bb, ob, u, rfl, _, _, hc2, rfl, _⟩ := HB.out.at_ k hlb
        rw [getD_of_lt hlb] at hc2
        have hd := rowCmp_drop a b k hlt hlb
        generalize a.getD k 0 = x at *
        generalize b.getD k 0 = y at *
        have HD := Aside0.mk hd
        have dd : decide (b.length ≤ k) = false := by simpa using hlb
        clear hd
        by_cases c1 : x < y
        · go_wp2_with (first | (go_at_call 38; (with_reducible refine (cmp_any _ _ (-1) _ (cmpI_lt c1)).mono ?_); rintro e w' ⟨rfl, rfl⟩))
          go_ret
          exact ⟨ret_int (by rw [HR.out, HD.out, if_pos (by omega)]), rfl⟩
        · by_cases c2 : y < x
          · go_wp2_with (first | (go_at_call 38; (with_reducible refine (cmp_any _ _ 1 _ (cmpI_gt c2)).mono ?_); rintro e w' ⟨rfl, rfl⟩))
            go_ret
            exact ⟨ret_int (by rw [HR.out, HD.out, if_neg (by omega), if_pos (by omega)]), rfl⟩
          · have ce := Aside0.mk (cmpI_eq (x := x) (y := y) (by omega))
            go_wp2_with (first | (go_at_call 38; (with_reducible refine (cmp_any _ _ 0 _ ce.out).mono ?_); rintro e w' ⟨rfl, rfl⟩))
            go_round
            case rel => exact ⟨k + 1, by go_num, by omega, ⟨by omega⟩, ⟨by rw [HR.out, HD.out, if_neg (by omega), if_neg (by omega)]⟩⟩
            case measure => simp [intOf]; omega
      · go_wp2
        go_ret
        exact ⟨ret_int (by rw [HR.out, rowCmp_end1 a b k hlt (by omega)]), rfl⟩
    · by_cases hlb : a.length < b.length
      · go_wp2
        go_ret
        exact ⟨ret_int (by rw [HR.out, rowCmp_end2 a b k (by omega) (by omega)]), rfl⟩
      · go_wp2
        go_ret
        exact ⟨ret_int (by rw [HR.out, rowCmp_end3 a b k (by omega) (by omega)]), rfl⟩

def Drew (w w' : World) : Prop := ∃ n, w' = w.drewN n
theorem Drew.refl (w : World) : Drew w w := ⟨0, rfl⟩
theorem Drew.stepN {w w1 : World} (h : Drew w w1) (n : Nat) : Drew w (w1.drewN n) := by
  obtain ⟨m, rfl⟩ := h
  exact ⟨m + n, World.drewN_drewN _ _ _⟩
theorem Drew.trans {w w1 w2 : World} (h : Drew w w1) (k : Drew w1 w2) : Drew w w2 := by
  obtain ⟨m, rfl⟩ := k
  exact h.stepN m
theorem Drew.below {w w' : World} (h : Drew w w') : Below w.heap.size w w' := by
  obtain ⟨n, rfl⟩ := h
  exact below_drewN (Below.refl _ _) n
theorem drop_eq_iff (a b : Row) (k : Nat) (ha : k < a.length) (hb : k < b.length) (h : a.getD k 0 = b.getD k 0) : (a.drop k = b.drop k) = (a.drop (k + 1) = b.drop (k + 1)) := by
  rw [List.drop_eq_getElem_cons ha, List.drop_eq_getElem_cons hb, getD_of_lt ha, getD_of_lt hb, h]
  simp
theorem ret_bool {a b : Bool} (h : a = b) : Ending.returned (.bool a) = .returned (.bool b) := by rw [h]
set_option maxHeartbeats 1000000 in
set_option maxRecDepth 100000 in
theorem equal_any (w : World) (ok ok2 : Nat → Prop) (v v2 : Value) (a b : Row) (h : RowAt w ok v a) (h2 : RowAt w ok2 v2 b) :
    Calls Try.prog 23 #[v, v2] w fun e w' => e = .returned (.bool (decide (a = b))) ∧ Drew w w' := by
  obtain ⟨Aa, ca, rfl, hca, ham, _⟩ := h.form
  obtain ⟨Ab, cb, rfl, hcb, hbm, _⟩ := h2.form
  have HA := Aside0.mk h
  have HB := Aside0.mk h2
  clear h h2
  by_cases hl : a.length = b.length
  · have HL := Aside0.mk hl
    rw [← hl] at HB hcb hbm ⊢
    clear hl
    go_enter Try.func23, Try.ntmps23
    go_wp2
    go_loopw [13] (fun s wr => ∃ k n : Nat, s = .int .i64 k ∧ k ≤ a.length ∧ Aside0 ((a = b) = (a.drop k = b.drop k)) ∧ wr = w.drewN n) (fun s _ => a.length - (intOf s).toNat)
    case atStart => exact ⟨0, 0, rfl, Nat.zero_le _, ⟨rfl⟩, rfl⟩
    case round =>
      obtain ⟨k, n, rfl, hk, HR, rfl⟩ := hrel
      by_cases hlt : k < a.length
      · have hlb : k < b.length := by rw [← HL.out]; exact hlt
        obtain ⟨ba, oa, u, rfl, _, _, hc, rfl, _⟩ := HA.out.at_ k hlt
        rw [HL.out] at HB
        obtain ⟨bb, ob, u, rfl, _, _, hc2, rfl, _⟩ := HB.out.at_ k hlb
        rw [getD_of_lt hlt] at hc
        rw [getD_of_lt hlb] at hc2
        have hd := drop_eq_iff a b k hlt hlb
        have hd2 : a.getD k 0 ≠ b.getD k 0 → a ≠ b := fun h e => h (by rw [e])
        generalize a.getD k 0 = x at *
        generalize b.getD k 0 = y at *
        have HD := Aside0.mk hd
        have HD2 := Aside0.mk hd2
        clear hd hd2
        by_cases ce : x = y
        · have hne : (x != y) = false := by simpa using ce
          have CE := Aside0.mk ce
          clear ce
          go_wp2
          go_quiet (fail)
          go_wp2
          go_roundw
          case rel => exact ⟨k + 1, _, by go_num, by omega, ⟨by rw [HR.out, HD.out CE.out]⟩, rfl⟩
          case measure => simp [intOf]; omega
        · have hne : (x != y) = true := by simpa using ce
          go_wp2
          go_quiet (fail)
          go_wp2
          go_ret
          exact ⟨ret_bool (by simp [HD2.out ce]), _, World.drewN_drewN _ _ _⟩
      · go_wp2
        go_ret
        refine ⟨ret_bool ?_, n, rfl⟩
        have : a = b := by rw [HR.out, List.drop_of_length_le (by omega), List.drop_of_length_le (by rw [← HL.out]; omega)]
        simp [this]
  · have hne : a ≠ b := fun e => hl (by rw [e])
    have HNE := Aside0.mk hne
    have hl2 : ((a.length : Int) != (b.length : Int)) = true := by simp; omega
    clear hne
    go_enter Try.func23, Try.ntmps23
    go_wp2
    go_ret
    exact ⟨ret_bool (by simp [HNE.out]), 0, rfl⟩
end Go.Proofs.Ytmgoefhihljggaa.Sg
