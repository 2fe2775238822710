/- Contracts: what is made of many numbers (the law's own). -/
import Derived.Test.YtihilledbnnniaaSgZe
namespace Go.Proofs.Ytihilledbnnniaa.Sg
open Go.RowKit Go.Shelf
set_option linter.unusedVariables false
set_option linter.unusedSimpArgs false

set_option maxHeartbeats 4000000 in
set_option maxRecDepth 100000 in
theorem made9_any (w : World) (ok : Nat → Prop) (a : Int) (v : Value) (xs : List Int) (h : RowAt w ok v xs) (hl : xs.length < 1000000) :
    Calls Try.prog 30 #[.int .i64 a, v] w fun e w' => e = .returned (.tuple #[.int .i64 (madeV a xs), .bool (madeB a xs)]) ∧ w = w' := by
  obtain ⟨A, c, rfl, hc, hm, _⟩ := h.form
  by_cases hne : xs = []
  · subst hne
    rw [(made_nil a).1, (made_nil a).2]
    clear h
    go_enter Try.func30, Try.ntmps30
    go_wp2
    go_ret2
    exact ⟨rfl, rfl⟩
  have hpos : 0 < xs.length := by cases xs with | nil => exact absurd rfl hne | cons a l => simp
  have hl0 : ((xs.length : Int) == 0) = false := by simp; omega
  have H := Aside0.mk h
  by_cases h1 : a = 1
  · subst h1
    rw [(made_one hne).1, (made_one hne).2]
    clear h
    go_enter Try.func30, Try.ntmps30
    go_wp2
    go_ret2
    exact ⟨rfl, rfl⟩
  by_cases h2 : a = 2
  · subst h2
    rw [(made_two hne).1, (made_two hne).2]
    have SM := Aside0.mk (sum_any w ok _ xs h hl)
    clear h
    obtain ⟨rv, hrv⟩ : ∃ rv, sumV xs = rv := ⟨_, rfl⟩
    obtain ⟨rb, hrb⟩ : ∃ rb, sumB xs = rb := ⟨_, rfl⟩
    rw [hrv, hrb] at SM
    rw [hrv, hrb]
    clear hrv hrb
    go_enter Try.func30, Try.ntmps30
    go_wp2_with fail
    refine (SM.out).mono ?_
    rintro e w' ⟨rfl, rfl⟩
    go_wp2
    go_ret2
    exact ⟨rfl, rfl⟩
  by_cases h3 : a = 3
  · subst h3
    rw [(made_three hne).1, (made_three hne).2]
    obtain ⟨rv, hrv⟩ : ∃ rv, minL xs = rv := ⟨_, rfl⟩
    have HR := Aside0.mk hrv
    rw [hrv]
    obtain ⟨b, o, u, rfl, _, _, hc0, rfl, hin⟩ := h.at_ 0 hpos
    have H0 := Aside0.mk (headD_at xs hpos)
    obtain ⟨z, hz⟩ : ∃ z, xs[0] = z := ⟨_, rfl⟩
    rw [hz] at hc0 H0
    simp only [Nat.add_zero] at hc0
    clear h hrv hin hz h1 h2 hne
    go_enter Try.func30, Try.ntmps30
    go_wp2
    go_loop [6, 35] (fun s6 s35 => ∃ (m : Nat) (y : Int), s6 = .int .i64 y ∧ s35 = .int .i64 m ∧ m ≤ xs.length ∧ Aside0 ((xs.take m).foldl lessF (xs.headD 0) = y)) (fun _ s35 => xs.length - (intOf s35).toNat)
    case atStart => exact ⟨0, _, rfl, rfl, Nat.zero_le _, ⟨by simpa using H0.out⟩⟩
    case round =>
      obtain ⟨m, y, rfl, rfl, hm0, HY⟩ := hrel
      clear hc0
      by_cases hlt : m < xs.length
      · obtain ⟨b2, o2, u, hbo, _, _, hc1, rfl, _⟩ := H.out.at_ m hlt
        cases hbo
        have HS := Aside0.mk (foldl_step (f := lessF) xs m hlt (xs.headD 0))
        rw [HY.out] at HS
        generalize xs[m] = n at *
        by_cases t : n < y
        · have e : lessF y n = n := by unfold lessF; rw [if_pos t]
          rw [e] at HS
          clear e
          go_wp2
          go_round
          case rel => exact ⟨m + 1, n, rfl, by go_num, by omega, HS⟩
          case measure => simp [intOf]; omega
        · have e : lessF y n = y := by unfold lessF; rw [if_neg t]
          rw [e] at HS
          clear e
          go_wp2
          go_round
          case rel => exact ⟨m + 1, y, rfl, by go_num, by omega, HS⟩
          case measure => simp [intOf]; omega
      · obtain rfl : m = xs.length := by omega
        have HE := Aside0.mk (show y = rv by rw [← HY.out, List.take_length, ← HR.out]; rfl)
        go_wp2
        go_ret2
        rw [← HE.out]
        exact ⟨rfl, rfl⟩
  by_cases h4 : a = 4
  · subst h4
    rw [(made_four hne).1, (made_four hne).2]
    obtain ⟨rv, hrv⟩ : ∃ rv, maxL xs = rv := ⟨_, rfl⟩
    have HR := Aside0.mk hrv
    rw [hrv]
    obtain ⟨b, o, u, rfl, _, _, hc0, rfl, hin⟩ := h.at_ 0 hpos
    have H0 := Aside0.mk (headD_at xs hpos)
    obtain ⟨z, hz⟩ : ∃ z, xs[0] = z := ⟨_, rfl⟩
    rw [hz] at hc0 H0
    simp only [Nat.add_zero] at hc0
    clear h hrv hin hz h1 h2 h3 hne
    go_enter Try.func30, Try.ntmps30
    go_wp2
    go_loop [6, 35] (fun s6 s35 => ∃ (m : Nat) (y : Int), s6 = .int .i64 y ∧ s35 = .int .i64 m ∧ m ≤ xs.length ∧ Aside0 ((xs.take m).foldl moreF (xs.headD 0) = y)) (fun _ s35 => xs.length - (intOf s35).toNat)
    case atStart => exact ⟨0, _, rfl, rfl, Nat.zero_le _, ⟨by simpa using H0.out⟩⟩
    case round =>
      obtain ⟨m, y, rfl, rfl, hm0, HY⟩ := hrel
      clear hc0
      by_cases hlt : m < xs.length
      · obtain ⟨b2, o2, u, hbo, _, _, hc1, rfl, _⟩ := H.out.at_ m hlt
        cases hbo
        have HS := Aside0.mk (foldl_step (f := moreF) xs m hlt (xs.headD 0))
        rw [HY.out] at HS
        generalize xs[m] = n at *
        by_cases t : ¬ y < n
        · have e : moreF y n = y := by unfold moreF; rw [if_neg (by omega)]
          rw [e] at HS
          clear e
          go_wp2
          go_round
          case rel => exact ⟨m + 1, y, rfl, by go_num, by omega, HS⟩
          case measure => simp [intOf]; omega
        · have e : moreF y n = n := by unfold moreF; split <;> omega
          rw [e] at HS
          clear e
          go_wp2
          go_round
          case rel => exact ⟨m + 1, n, rfl, by go_num, by omega, HS⟩
          case measure => simp [intOf]; omega
      · obtain rfl : m = xs.length := by omega
        have HE := Aside0.mk (show y = rv by rw [← HY.out, List.take_length, ← HR.out]; rfl)
        go_wp2
        go_ret2
        rw [← HE.out]
        exact ⟨rfl, rfl⟩
  · rw [(made_not a xs (by omega)).1, (made_not a xs (by omega)).2]
    clear h
    by_cases q : a < 1
    · go_enter Try.func30, Try.ntmps30
      go_wp2
      go_ret2
      exact ⟨rfl, rfl⟩
    · have q2 : 4 < a := by omega
      go_enter Try.func30, Try.ntmps30
      go_wp2
      go_ret2
      exact ⟨rfl, rfl⟩
end Go.Proofs.Ytihilledbnnniaa.Sg
