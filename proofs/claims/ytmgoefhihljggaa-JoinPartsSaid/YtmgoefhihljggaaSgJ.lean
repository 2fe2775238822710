/- Contracts of the laws' own functions: Few, Compare, and the head. -/
import Derived.Test.YtmgoefhihljggaaSgQ
import Derived.Test.YtmgoefhihljggaaSgG
namespace Go.Proofs.Ytmgoefhihljggaa.Sg
open Go.RowKit Go.Shelf
set_option linter.unusedVariables false
set_option linter.unusedSimpArgs false

def few (rs : List Row) : Bool := decide (rs.length ≤ 60) && rs.all fun r => decide (r.length ≤ 8)
theorem few_take (rs : List Row) (k : Nat) (h : k < rs.length) : ((rs.take (k + 1)).all fun r => decide (r.length ≤ 8)) = (((rs.take k).all fun r => decide (r.length ≤ 8)) && decide ((rs[k]).length ≤ 8)) := by
  rw [List.take_succ_eq_append_getElem h, List.all_append]
  simp
theorem few_no {rs : List Row} {k : Nat} (h : k < rs.length) (hr : 8 < (rs[k]).length) : few rs = false := by
  unfold few
  rw [Bool.and_eq_false_iff]
  right
  rw [List.all_eq_false]
  exact ⟨rs[k], List.getElem_mem h, by simp; omega⟩
theorem few_yes {rs : List Row} (h : few rs = true) : rs.length ≤ 60 ∧ ∀ r ∈ rs, r.length ≤ 8 := by
  unfold few at h
  simpa using h
set_option maxHeartbeats 1000000 in
set_option maxRecDepth 100000 in
theorem few_any (w : World) (ok : Nat → Prop) (rv : Value) (rs : List Row) (h : RowsAt w ok rv rs) :
    Calls Try.prog 33 #[rv] w fun e w' => e = .returned (.bool (few rs)) ∧ w = w' := by
  obtain ⟨Al, cl, rfl, hcl, hlm, _⟩ := h.form
  have HH := Aside0.mk h
  clear h
  obtain ⟨b, hb⟩ : ∃ b, few rs = b := ⟨_, rfl⟩
  have HB := Aside0.mk hb
  rw [hb]
  clear hb
  by_cases h60 : 60 < rs.length
  · have hbf : b = false := by
      rw [← HB.out]; unfold few
      rw [Bool.and_eq_false_iff]; left; simp; omega
    subst hbf
    go_enter Try.func33, Try.ntmps33
    go_wp2
    go_ret
    exact ⟨rfl, rfl⟩
  · go_enter Try.func33, Try.ntmps33
    go_wp2
    go_loop [10] (fun s => ∃ k : Nat, s = .int .i64 k ∧ k ≤ rs.length ∧ Aside0 (((rs.take k).all fun r => decide (r.length ≤ 8)) = true)) (fun s => rs.length - (intOf s).toNat)
    case atStart => exact ⟨0, rfl, Nat.zero_le _, ⟨by simp⟩⟩
    case round =>
      obtain ⟨k, rfl, hk, HR⟩ := hrel
      by_cases hlt : k < rs.length
      · obtain ⟨bl, ol, u, rfl, _, _, hc, hu⟩ := HH.out.at_ k hlt
        obtain ⟨Au, cu, rfl, hcu, hum, _⟩ := hu.form
        have FT := Aside0.mk (few_take rs k hlt)
        have FN := Aside0.mk (fun h => few_no (rs := rs) (k := k) hlt h)
        clear hu
        generalize (rs[k]).length = m at *
        by_cases h8 : 8 < m
        · have hbf : b = false := by rw [← HB.out]; exact FN.out h8
          subst hbf
          go_wp2
          go_ret
          exact ⟨rfl, rfl⟩
        · go_wp2
          go_round
          case rel => exact ⟨k + 1, by go_num, by omega, ⟨by rw [FT.out, HR.out]; simp; omega⟩⟩
          case measure => simp [intOf]; omega
      · obtain rfl : k = rs.length := by omega
        have hbt : b = true := by
          rw [← HB.out]; unfold few
          have := HR.out
          rw [List.take_length] at this
          rw [this]; simp; omega
        subst hbt
        go_wp2
        go_ret
        exact ⟨rfl, rfl⟩

/-- The laws' own comparison of rows. -/
def cmp5 : Row → Row → Int
  | [], b => - (b.length : Int)
  | a, [] => a.length
  | x :: xs, y :: ys => if x < y then -1 else if y < x then 1 else cmp5 xs ys
theorem cmp5_neg : ∀ a b : Row, (cmp5 a b < 0 ↔ rowCmp a b < 0) ∧ (cmp5 a b = 0 ↔ rowCmp a b = 0)
  | [], [] => by simp [cmp5, rowCmp]
  | [], _ :: _ => by simp [cmp5, rowCmp]; omega
  | _ :: _, [] => by simp [cmp5, rowCmp]; omega
  | x :: xs, y :: ys => by
    have ih := cmp5_neg xs ys
    rw [cmp5, rowCmp]
    split
    · simp
    · split
      · simp
      · exact ih
theorem cmp5_zero (a b : Row) : cmp5 a b = 0 ↔ a = b := (cmp5_neg a b).2.trans (rowCmp_zero a b)
theorem cmp5_lt (a b : Row) : cmp5 a b < 0 ↔ rlt a b := (cmp5_neg a b).1
theorem cmp5_drop (a b : Row) (k : Nat) (ha : k < a.length) (hb : k < b.length) :
    cmp5 (a.drop k) (b.drop k) = if a.getD k 0 < b.getD k 0 then -1 else if b.getD k 0 < a.getD k 0 then 1 else cmp5 (a.drop (k + 1)) (b.drop (k + 1)) := by
  rw [List.drop_eq_getElem_cons ha, List.drop_eq_getElem_cons hb]
  simp only [cmp5, List.getD_eq_getElem?_getD, List.getElem?_eq_getElem ha, List.getElem?_eq_getElem hb, Option.getD_some]
theorem cmp5_end (a b : Row) (k : Nat) (h : a.length ≤ k ∨ b.length ≤ k) (h2 : k ≤ a.length) (h3 : k ≤ b.length) : cmp5 (a.drop k) (b.drop k) = (a.length : Int) - b.length := by
  rcases h with h | h
  · rw [List.drop_of_length_le h, cmp5]; simp; omega
  · rw [List.drop_of_length_le h]
    cases e : a.drop k with
    | nil => have := congrArg List.length e; simp at this; simp [cmp5]; omega
    | cons x l =>
      have := congrArg List.length e
      simp at this
      have h0 : cmp5 (x :: l) [] = ((x :: l).length : Int) := rfl
      rw [h0, List.length_cons]; omega
set_option maxHeartbeats 2000000 in
set_option maxRecDepth 100000 in
theorem compare5_any (w : World) (ok ok2 : Nat → Prop) (v v2 : Value) (a b : Row) (h : RowAt w ok v a) (h2 : RowAt w ok2 v2 b) :
    Calls Try.prog 34 #[v, v2] w fun e w' => e = .returned (.int .i64 (cmp5 a b)) ∧ Drew w w' := by
  obtain ⟨Aa, ca, rfl, hca, ham, _⟩ := h.form
  obtain ⟨Ab, cb, rfl, hcb, hbm, _⟩ := h2.form
  have HA := Aside0.mk h
  have HB := Aside0.mk h2
  clear h h2
  go_enter Try.func34, Try.ntmps34
  go_wp2
  go_loopw [5] (fun s wr => ∃ k n : Nat, s = .int .i64 k ∧ Aside0 (k ≤ a.length ∧ k ≤ b.length) ∧ Aside0 (cmp5 a b = cmp5 (a.drop k) (b.drop k)) ∧ wr = w.drewN n) (fun s _ => a.length - (intOf s).toNat)
  case atStart => exact ⟨0, 0, rfl, ⟨Nat.zero_le _, Nat.zero_le _⟩, ⟨rfl⟩, rfl⟩
  case round =>
    obtain ⟨k, n, rfl, HK, HR, rfl⟩ := hrel
    obtain ⟨hk1, hk2⟩ := HK.out
    by_cases hlt : k < a.length
    · have d1 : decide (k < a.length) = true := by simpa using hlt
      by_cases hlb : k < b.length
      · have d2 : decide (k < b.length) = true := by simpa using hlb
        obtain ⟨ba, oa, u, rfl, _, _, hc, rfl, _⟩ := HA.out.at_ k hlt
        rw [getD_of_lt hlt] at hc
        obtain ⟨bb, ob, u, rfl, _, _, hc2, rfl, _⟩ := HB.out.at_ k hlb
        rw [getD_of_lt hlb] at hc2
        have hd := cmp5_drop a b k hlt hlb
        generalize a.getD k 0 = x at *
        generalize b.getD k 0 = y at *
        have HD := Aside0.mk hd
        clear hd
        by_cases c1 : x < y
        · go_wp2
          go_quiet (fail)
          go_wp2
          go_ret
          exact ⟨ret_int (by rw [HR.out, HD.out, if_pos (by omega)]), _, World.drewN_drewN _ _ _⟩
        · by_cases c2 : y < x
          · go_wp2
            go_quiet (fail)
            go_wp2
            go_quiet (fail)
            go_wp2
            go_ret
            exact ⟨ret_int (by rw [HR.out, HD.out, if_neg (by omega), if_pos (by omega)]), by repeat (first | exact Drew.refl _ | apply Drew.stepN)⟩
          · go_wp2
            go_quiet (fail)
            go_wp2
            go_quiet (fail)
            go_wp2
            go_roundw
            case rel => exact ⟨k + 1, _, by go_num, ⟨by omega, by omega⟩, ⟨by rw [HR.out, HD.out, if_neg (by omega), if_neg (by omega)]⟩, rfl⟩
            case measure => simp [intOf]; omega
      · have d2 : decide (k < b.length) = false := by simpa using hlb
        go_wp2
        go_ret
        exact ⟨ret_int (by rw [HR.out, cmp5_end a b k (by omega) (by omega) (by omega)]), n, rfl⟩
    · have d1 : decide (k < a.length) = false := by simpa using hlt
      go_wp2
      go_ret
      exact ⟨ret_int (by rw [HR.out, cmp5_end a b k (by omega) (by omega) (by omega)]), n, rfl⟩
end Go.Proofs.Ytmgoefhihljggaa.Sg
