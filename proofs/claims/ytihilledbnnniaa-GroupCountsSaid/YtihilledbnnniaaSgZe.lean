/- Contracts: what is made of many numbers (the program's and the law's own). -/
import Derived.Test.YtihilledbnnniaaSgZd
namespace Go.Proofs.Ytihilledbnnniaa.Sg
open Go.RowKit Go.Shelf
set_option linter.unusedVariables false
set_option linter.unusedSimpArgs false

def lessF (b n : Int) : Int := if n < b then n else b
def moreF (b n : Int) : Int := if b < n then n else b
def minL (xs : List Int) : Int := xs.foldl lessF (xs.headD 0)
def maxL (xs : List Int) : Int := xs.foldl moreF (xs.headD 0)
theorem foldl_step {f : Int → Int → Int} (xs : List Int) (m : Nat) (h : m < xs.length) (z : Int) : (xs.take (m + 1)).foldl f z = f ((xs.take m).foldl f z) xs[m] := by
  rw [List.take_succ_eq_append_getElem h, List.foldl_append]; rfl
theorem headD_at (xs : List Int) (h : 0 < xs.length) : xs.headD 0 = xs[0] := by cases xs with | nil => cases h | cons a l => rfl
def madeV (a : Int) (xs : List Int) : Int := if xs = [] then 0 else if a = 1 then xs.length else if a = 2 then sumV xs else if a = 3 then minL xs else if a = 4 then maxL xs else 0
def madeB (a : Int) (xs : List Int) : Bool := if xs = [] then false else if a = 1 then true else if a = 2 then sumB xs else if a = 3 then true else if a = 4 then true else false
theorem made_nil (a : Int) : madeV a [] = 0 ∧ madeB a [] = false := ⟨rfl, rfl⟩
theorem made_not (a : Int) (xs : List Int) (h : a < 1 ∨ 4 < a) : madeV a xs = 0 ∧ madeB a xs = false := by
  unfold madeV madeB
  split
  · exact ⟨rfl, rfl⟩
  · rw [if_neg (by omega), if_neg (by omega), if_neg (by omega), if_neg (by omega), if_neg (by omega), if_neg (by omega), if_neg (by omega), if_neg (by omega)]; exact ⟨rfl, rfl⟩
theorem made_one {xs : List Int} (h : xs ≠ []) : madeV 1 xs = xs.length ∧ madeB 1 xs = true := by unfold madeV madeB; rw [if_neg h, if_neg h]; exact ⟨rfl, rfl⟩
theorem made_two {xs : List Int} (h : xs ≠ []) : madeV 2 xs = sumV xs ∧ madeB 2 xs = sumB xs := by unfold madeV madeB; rw [if_neg h, if_neg h]; exact ⟨rfl, rfl⟩
theorem made_three {xs : List Int} (h : xs ≠ []) : madeV 3 xs = minL xs ∧ madeB 3 xs = true := by unfold madeV madeB; rw [if_neg h, if_neg h]; exact ⟨rfl, rfl⟩
theorem made_four {xs : List Int} (h : xs ≠ []) : madeV 4 xs = maxL xs ∧ madeB 4 xs = true := by unfold madeV madeB; rw [if_neg h, if_neg h]; exact ⟨rfl, rfl⟩

set_option maxHeartbeats 4000000 in
set_option maxRecDepth 100000 in
theorem aggmake_any (w : World) (ok : Nat → Prop) (a : Int) (v : Value) (xs : List Int) (h : RowAt w ok v xs) (hl : xs.length < 1000000) :
    Calls Try.prog 29 #[.int .i64 a, v] w fun e w' => e = .returned (.tuple #[.int .i64 (madeV a xs), .bool (madeB a xs)]) ∧ w = w' := by
  obtain ⟨A, c, rfl, hc, hm, _⟩ := h.form
  by_cases hne : xs = []
  · subst hne
    rw [(made_nil a).1, (made_nil a).2]
    clear h
    go_enter Try.func29, Try.ntmps29
    go_wp2
    go_ret2
    exact ⟨rfl, rfl⟩
  have hpos : 0 < xs.length := by cases xs with | nil => exact absurd rfl hne | cons a l => simp
  have H := Aside0.mk h
  by_cases h1 : a = 1
  · subst h1
    rw [(made_one hne).1, (made_one hne).2]
    clear h
    go_enter Try.func29, Try.ntmps29
    go_wp2
    go_ret2
    exact ⟨rfl, rfl⟩
  by_cases h2 : a = 2
  · subst h2
    rw [(made_two hne).1, (made_two hne).2]
    have SM := Aside0.mk (sum_any w ok _ xs h hl)
    clear h
    obtain ⟨rv, hrv⟩ : ∃ rv, sumV xs = rv := ⟨_, rfl⟩
    obtain ⟨rb, hrb⟩ : ∃ rb, sumB xs = rb := ⟨_, rfl⟩
    rw [hrv, hrb] at SM
    rw [hrv, hrb]
    clear hrv hrb
    go_enter Try.func29, Try.ntmps29
    go_wp2_with fail
    refine (SM.out).mono ?_
    rintro e w' ⟨rfl, rfl⟩
    go_wp2
    go_ret2
    exact ⟨rfl, rfl⟩
  by_cases h3 : a = 3
  · subst h3
    rw [(made_three hne).1, (made_three hne).2]
    obtain ⟨rv, hrv⟩ : ∃ rv, minL xs = rv := ⟨_, rfl⟩
    have HR := Aside0.mk hrv
    rw [hrv]
    obtain ⟨b, o, u, rfl, _, _, hc0, rfl, hin⟩ := h.at_ 0 hpos
    have H0 := Aside0.mk (headD_at xs hpos)
    obtain ⟨z, hz⟩ : ∃ z, xs[0] = z := ⟨_, rfl⟩
    rw [hz] at hc0 H0
    simp only [Nat.add_zero] at hc0
    clear h hrv hin hz h1 h2 hne
    go_enter Try.func29, Try.ntmps29
    go_wp2
    go_loop [6, 31] (fun s6 s31 => ∃ (m : Nat) (y : Int), s6 = .int .i64 y ∧ s31 = .int .i64 m ∧ m ≤ xs.length ∧ Aside0 ((xs.take m).foldl lessF (xs.headD 0) = y)) (fun _ s31 => xs.length - (intOf s31).toNat)
    case atStart => exact ⟨0, _, rfl, rfl, Nat.zero_le _, ⟨by simpa using H0.out⟩⟩
    case round =>
      obtain ⟨m, y, rfl, rfl, hm0, HY⟩ := hrel
      clear hc0
      by_cases hlt : m < xs.length
      · obtain ⟨b2, o2, u, hbo, _, _, hc1, rfl, _⟩ := H.out.at_ m hlt
        cases hbo
        have HS := Aside0.mk (foldl_step (f := lessF) xs m hlt (xs.headD 0))
        rw [HY.out] at HS
        generalize xs[m] = n at *
        by_cases t : n < y
        · have e : lessF y n = n := by unfold lessF; rw [if_pos t]
          rw [e] at HS
          clear e
          go_wp2
          go_round
          case rel => exact ⟨m + 1, n, rfl, by go_num, by omega, HS⟩
          case measure => simp [intOf]; omega
        · have e : lessF y n = y := by unfold lessF; rw [if_neg t]
          rw [e] at HS
          clear e
          go_wp2
          go_round
          case rel => exact ⟨m + 1, y, rfl, by go_num, by omega, HS⟩
          case measure => simp [intOf]; omega
      · obtain rfl : m = xs.length := by omega
        have HE := Aside0.mk (show y = rv by rw [← HY.out, List.take_length, ← HR.out]; rfl)
        go_wp2
        go_ret2
        rw [← HE.out]
        exact ⟨rfl, rfl⟩
  by_cases h4 : a = 4
  · subst h4
    rw [(made_four hne).1, (made_four hne).2]
    obtain ⟨rv, hrv⟩ : ∃ rv, maxL xs = rv := ⟨_, rfl⟩
    have HR := Aside0.mk hrv
    rw [hrv]
    obtain ⟨b, o, u, rfl, _, _, hc0, rfl, hin⟩ := h.at_ 0 hpos
    have H0 := Aside0.mk (headD_at xs hpos)
    obtain ⟨z, hz⟩ : ∃ z, xs[0] = z := ⟨_, rfl⟩
    rw [hz] at hc0 H0
    simp only [Nat.add_zero] at hc0
    clear h hrv hin hz h1 h2 h3 hne
    go_enter Try.func29, Try.ntmps29
    go_wp2
    go_loop [6, 31] (fun s6 s31 => ∃ (m : Nat) (y : Int), s6 = .int .i64 y ∧ s31 = .int .i64 m ∧ m ≤ xs.length ∧ Aside0 ((xs.take m).foldl moreF (xs.headD 0) = y)) (fun _ s31 => xs.length - (intOf s31).toNat)
    case atStart => exact ⟨0, _, rfl, rfl, Nat.zero_le _, ⟨by simpa using H0.out⟩⟩
    case round =>
      obtain ⟨m, y, rfl, rfl, hm0, HY⟩ := hrel
      clear hc0
      by_cases hlt : m < xs.length
      · obtain ⟨b2, o2, u, hbo, _, _, hc1, rfl, _⟩ := H.out.at_ m hlt
        cases hbo
        have HS := Aside0.mk (foldl_step (f := moreF) xs m hlt (xs.headD 0))
        rw [HY.out] at HS
        generalize xs[m] = n at *
        by_cases t : n < y
        · have e : moreF y n = y := by unfold moreF; rw [if_neg (by omega)]
          rw [e] at HS
          clear e
          go_wp2
          go_round
          case rel => exact ⟨m + 1, y, rfl, by go_num, by omega, HS⟩
          case measure => simp [intOf]; omega
        · have e : moreF y n = n := by unfold moreF; split <;> omega
          rw [e] at HS
          clear e
          go_wp2
          go_round
          case rel => exact ⟨m + 1, n, rfl, by go_num, by omega, HS⟩
          case measure => simp [intOf]; omega
      · obtain rfl : m = xs.length := by omega
        have HE := Aside0.mk (show y = rv by rw [← HY.out, List.take_length, ← HR.out]; rfl)
        go_wp2
        go_ret2
        rw [← HE.out]
        exact ⟨rfl, rfl⟩
  · rw [(made_not a xs (by omega)).1, (made_not a xs (by omega)).2]
    have g1 : (a == 1) = false := by simpa using h1
    have g2 : (a == 2) = false := by simpa using h2
    have g3 : (a == 3) = false := by simpa using h3
    have g4 : (a == 4) = false := by simpa using h4
    clear h
    go_enter Try.func29, Try.ntmps29
    go_wp2
    go_ret2
    exact ⟨rfl, rfl⟩
end Go.Proofs.Ytihilledbnnniaa.Sg
