/- Contract: the sum of many numbers. -/
import Derived.Test.YtihilledbnnniaaSgZc
namespace Go.Proofs.Ytihilledbnnniaa.Sg
open Go.RowKit Go.Shelf
set_option linter.unusedVariables false
set_option linter.unusedSimpArgs false

instance (x : Int) : Decidable (In64 x) := by unfold In64; infer_instance
def sumB (xs : List Int) : Bool := decide (In64 xs.sum)
def sumV (xs : List Int) : Int := if In64 xs.sum then xs.sum else 0
theorem sum_step (xs : List Int) (m : Nat) (h : m < xs.length) : (xs.take (m + 1)).sum = (xs.take m).sum + xs[m] := by
  rw [List.take_succ_eq_append_getElem h, List.sum_append]; simp
/-- The two halves of a sum. -/
structure Halves (xs : List Int) (m : Nat) (hi lo : Int) : Prop where
  eq : hi * 18446744073709551616 + lo = (xs.take m).sum
  l0 : 0 ≤ lo
  l1 : lo < 18446744073709551616
  h0 : -(m : Int) ≤ hi
  h1 : hi ≤ (m : Int)
theorem halves_step {xs : List Int} {m : Nat} {hi lo c : Int} (H : Halves xs m hi lo) (hm : m < xs.length) (hx : In64 xs[m]) (hc : IntKind.u64.wrap (lo + IntKind.u64.wrap xs[m]) = c) :
    (0 ≤ c ∧ c < 18446744073709551616) ∧ Halves xs (m + 1) (hi + (if c < lo then 1 else 0) - (if xs[m] < 0 then 1 else 0)) c := by
  obtain ⟨e, a, b, c0, c1⟩ := H
  have hs := sum_step xs m hm
  unfold In64 at hx
  rw [IntKind.wrap_u64, IntKind.wrap_u64] at hc
  generalize xs[m] = n at *
  generalize (xs.take m).sum = S at *
  have k : 0 ≤ c ∧ c < 18446744073709551616 := by omega
  refine ⟨k, ?_, k.1, k.2, ?_, ?_⟩
  · rw [hs]; split <;> split <;> omega
  · split <;> split <;> omega
  · split <;> split <;> omega
theorem sum_end {xs : List Int} {hi lo : Int} (H : Halves xs xs.length hi lo) : (sumB xs = true ↔ (hi = 0 ∧ lo ≤ 9223372036854775807 ∨ hi = -1 ∧ 9223372036854775807 < lo)) ∧ (sumB xs = true → IntKind.i64.wrap lo = sumV xs) ∧ (sumB xs = false → sumV xs = 0) := by
  obtain ⟨e, a, b, c0, c1⟩ := H
  rw [List.take_length] at e
  unfold sumB sumV
  rw [decide_eq_true_eq, decide_eq_false_iff_not]
  generalize xs.sum = S at *
  refine ⟨by unfold In64; omega, fun h => ?_, fun h => by rw [if_neg h]⟩
  rw [if_pos h, IntKind.wrap_i64]
  unfold In64 at h
  omega

set_option maxHeartbeats 4000000 in
set_option maxRecDepth 100000 in
theorem sum_any (w : World) (ok : Nat → Prop) (v : Value) (xs : List Int) (h : RowAt w ok v xs) (hl : xs.length < 1000000) :
    Calls Try.prog 45 #[v] w fun e w' => e = .returned (.tuple #[.int .i64 (sumV xs), .bool (sumB xs)]) ∧ w = w' := by
  obtain ⟨A, c, rfl, hc, hm, _⟩ := h.form
  have H := Aside0.mk h
  obtain ⟨rv, hrv⟩ : ∃ rv, sumV xs = rv := ⟨_, rfl⟩
  obtain ⟨rb, hrb⟩ : ∃ rb, sumB xs = rb := ⟨_, rfl⟩
  have SE := Aside0.mk (fun hi lo (HH : Halves xs xs.length hi lo) => sum_end HH)
  rw [hrv, hrb] at SE
  rw [hrv, hrb]
  clear h hrv hrb
  go_enter Try.func45, Try.ntmps45
  go_wp2
  go_loop [4, 5, 11] (fun s4 s5 s11 => ∃ (m : Nat) (hi lo : Int), s4 = .int .i64 hi ∧ s5 = .int .u64 lo ∧ s11 = .int .i64 m ∧ m ≤ xs.length ∧ Aside0 (Halves xs m hi lo)) (fun _ _ s11 => xs.length - (intOf s11).toNat)
  case atStart => exact ⟨0, 0, 0, rfl, rfl, rfl, Nat.zero_le _, ⟨⟨by simp, by omega, by omega, by omega, by omega⟩⟩⟩
  case round =>
    obtain ⟨m, hi, lo, rfl, rfl, rfl, hm0, HH⟩ := hrel
    have hh0 := HH.out.h0
    have hh1 := HH.out.h1
    have hl0 := HH.out.l0
    have hl1 := HH.out.l1
    by_cases hlt : m < xs.length
    · obtain ⟨b, o, u, rfl, _, _, hc0, rfl, hin⟩ := H.out.at_ m hlt
      obtain ⟨c', hc'⟩ : ∃ c', IntKind.u64.wrap (lo + IntKind.u64.wrap xs[m]) = c' := ⟨_, rfl⟩
      obtain ⟨⟨g0, g1⟩, HS⟩ := halves_step HH.out hlt hin hc'
      have HS := Aside0.mk HS
      generalize xs[m] = n at *
      unfold In64 at hin
      by_cases t2 : n < 0
      · by_cases t1 : c' < lo
        all_goals
          first | rw [if_pos t1] at HS | rw [if_neg t1] at HS
          rw [if_pos t2] at HS
          go_wp2
          go_round
          case rel => exact ⟨m + 1, _, c', by simp, rfl, by go_num, by omega, HS⟩
          case measure => simp [intOf]; omega
      · have hcn : IntKind.u64.wrap (lo + n) = c' := by rw [← hc', IntKind.wrap_u64, IntKind.wrap_u64, IntKind.wrap_u64]; omega
        clear hc'
        by_cases t1 : c' < lo
        all_goals
          first | rw [if_pos t1] at HS | rw [if_neg t1] at HS
          rw [if_neg t2] at HS
          go_wp2
          go_round
          case rel => exact ⟨m + 1, _, c', by simp, rfl, by go_num, by omega, HS⟩
          case measure => simp [intOf]; omega
    · obtain rfl : m = xs.length := by omega
      obtain ⟨e1, e2, e3⟩ := SE.out _ _ HH.out
      cases rb with
      | true =>
        have e1 := e1.1 rfl
        have e2 := e2 rfl
        clear e3 SE
        rcases e1 with ⟨rfl, e1⟩ | ⟨rfl, e1⟩
        · have E2 := Aside0.mk (show lo = rv by rw [← e2, IntKind.wrap_i64]; omega)
          clear e2
          go_wp2
          go_ret2
          rw [← E2.out]
          exact ⟨rfl, rfl⟩
        · have E2 := Aside0.mk (show wrap64 lo = rv by rw [← e2, IntKind.wrap_i64]; unfold wrap64; omega)
          clear e2
          go_wp2
          go_ret2
          rw [← E2.out]
          exact ⟨rfl, rfl⟩
      | false =>
        have e1 : ¬ (hi = 0 ∧ lo ≤ 9223372036854775807 ∨ hi = -1 ∧ 9223372036854775807 < lo) := fun h => by cases e1.2 h
        have E3 := Aside0.mk (e3 rfl)
        clear e2 e3 SE
        by_cases q0 : hi = 0
        · subst q0
          have e1 : ¬ lo ≤ 9223372036854775807 := by omega
          go_wp2
          go_ret2
          rw [E3.out]
          exact ⟨rfl, rfl⟩
        · by_cases q1 : hi = -1
          · subst q1
            have e1 : ¬ 9223372036854775807 < lo := by omega
            go_wp2
            go_ret2
            rw [E3.out]
            exact ⟨rfl, rfl⟩
          · clear e1
            go_wp2
            go_ret2
            rw [E3.out]
            exact ⟨rfl, rfl⟩
end Go.Proofs.Ytihilledbnnniaa.Sg
