/- JoinMany, plain: how many pairs there are. -/
import Derived.Test.YtmgoefhihljggaaSgJa
namespace Go.Proofs.Ytmgoefhihljggaa.Sg
open Go.RowKit Go.Shelf
set_option linter.unusedVariables false
set_option linter.unusedSimpArgs false

/-- How many numbers below n leave the rest k. -/
def cntM (d k : Nat) : Nat → Nat
  | 0 => 0
  | n + 1 => cntM d k n + if n % d = k then 1 else 0
theorem cntM_eq {d k : Nat} (hk : k < d) : ∀ n, cntM d k n = (n + (d - 1 - k)) / d
  | 0 => by rw [Nat.div_eq_of_lt (by omega)]; rfl
  | n + 1 => by
    rw [cntM, cntM_eq hk n]
    have h1 := Nat.div_add_mod n d
    have h2 := Nat.mod_lt n (show 0 < d by omega)
    obtain ⟨q, hq⟩ : ∃ q, n / d = q := ⟨_, rfl⟩
    obtain ⟨r, hr⟩ : ∃ r, n % d = r := ⟨_, rfl⟩
    rw [hq, hr] at h1
    rw [hr] at h2 ⊢
    have e1 : n + (d - 1 - k) = (r + (d - 1 - k)) + d * q := by omega
    have e2 : n + 1 + (d - 1 - k) = (r + 1 + (d - 1 - k)) + d * q := by omega
    rw [e1, e2, Nat.add_mul_div_left _ _ (by omega), Nat.add_mul_div_left _ _ (by omega)]
    rcases Nat.lt_trichotomy r k with h | h | h
    · rw [if_neg (by omega), Nat.div_eq_of_lt (show r + (d - 1 - k) < d by omega), Nat.div_eq_of_lt (show r + 1 + (d - 1 - k) < d by omega)]
      omega
    · rw [if_pos h, Nat.div_eq_of_lt (show r + (d - 1 - k) < d by omega), show r + 1 + (d - 1 - k) = d by omega, Nat.div_self (by omega)]
      omega
    · have h3 : (r + (d - 1 - k)) / d = 1 := by
        rw [show r + (d - 1 - k) = (r - 1 - k) + d by omega, Nat.add_div_right _ (by omega), Nat.div_eq_of_lt (by omega)]
      have h4 : (r + 1 + (d - 1 - k)) / d = 1 := by
        rw [show r + 1 + (d - 1 - k) = (r - k) + d by omega, Nat.add_div_right _ (by omega), Nat.div_eq_of_lt (by omega)]
      rw [if_neg (by omega), h3, h4]
      omega
def sumM (f : Nat → Nat) : Nat → Nat
  | 0 => 0
  | d + 1 => sumM f d + f d
theorem sumM_congr {f g : Nat → Nat} : ∀ d, (∀ k, k < d → f k = g k) → sumM f d = sumM g d
  | 0, _ => rfl
  | d + 1, h => by rw [sumM, sumM, sumM_congr d (fun k hk => h k (by omega)), h d (by omega)]
theorem sumM_add (f g : Nat → Nat) : ∀ d, sumM (fun k => f k + g k) d = sumM f d + sumM g d
  | 0 => rfl
  | d + 1 => by rw [sumM, sumM, sumM, sumM_add f g d]; omega
theorem sumM_zero : ∀ d, sumM (fun _ => 0) d = 0
  | 0 => rfl
  | d + 1 => by rw [sumM, sumM_zero d]
theorem sumM_one (f : Nat → Nat) (j : Nat) : ∀ d, j < d → sumM (fun k => if j = k then f k else 0) d = f j
  | 0, h => by omega
  | d + 1, h => by
    rw [sumM]
    by_cases e : j = d
    · subst e
      rw [if_pos rfl, sumM_congr j (g := fun _ => 0) (fun k hk => if_neg (by omega)), sumM_zero]
      omega
    · rw [if_neg e, sumM_one f j d (by omega)]
      omega
/-- A sum over all numbers, by their rests. -/
theorem sum_rests {d : Nat} (hd : 0 < d) (f : Nat → Nat) : ∀ n, sumM (fun i => f (i % d)) n = sumM (fun k => cntM d k n * f k) d
  | 0 => by
    rw [sumM_congr d (g := fun _ => 0) (fun k _ => by rw [cntM, Nat.zero_mul]), sumM_zero]
    rfl
  | n + 1 => by
    rw [sumM, sum_rests hd f n, ← sumM_one f (n % d) d (Nat.mod_lt n hd), ← sumM_add]
    refine sumM_congr d (fun k _ => ?_)
    rw [cntM, Nat.add_mul]
    by_cases e : n % d = k
    · rw [if_pos e, if_pos e]; omega
    · rw [if_neg e, if_neg e]; omega
def restK (d n : Nat) : List Row := (List.range n).map fun i : Nat => ([((i % d : Nat) : Int)] : Row)
theorem restK_length (d n : Nat) : (restK d n).length = n := by simp [restK]
theorem restK_succ (d n : Nat) : restK d (n + 1) = restK d n ++ [[((n % d : Nat) : Int)]] := by unfold restK; rw [List.range_succ, List.map_append]; rfl
theorem restK_which (d k : Nat) : ∀ m, (which (restK d m) [(k : Int)]).length = cntM d k m
  | 0 => rfl
  | m + 1 => by
    rw [restK_succ, which_snoc, cntM, ← restK_which d k m]
    show List.length (if ([(k : Int)] : Row) = [((m % d : Nat) : Int)] then _ else _) = _
    by_cases e : m % d = k
    · rw [if_pos (by rw [e]), if_pos e, List.length_append, e]; rfl
    · rw [if_neg (by simp; omega), if_neg e]; rfl
theorem prs_count (KA KB : List Row) : ∀ i, (prs KA KB i).length = sumM (fun t => (which KB (KA.getD t [])).length) i
  | 0 => rfl
  | i + 1 => by rw [prs_succ, List.length_append, sumM, prs_count KA KB i]; unfold pairsIn; rw [List.length_map]
/-- How many pairs. -/
theorem many_pairs {d : Nat} (hd : 0 < d) (n m : Nat) : (prs (restK d n) (restK d m) n).length = sumM (fun k => (n + (d - 1 - k)) / d * ((m + (d - 1 - k)) / d)) d := by
  rw [prs_count, sumM_congr n (g := fun i => cntM d (i % d) m) (fun t ht => ?_), sum_rests hd (fun k => cntM d k m) n]
  · exact sumM_congr d (fun k hk => by rw [cntM_eq hk, cntM_eq hk])
  · have e : (restK d n).getD t [] = [((t % d : Nat) : Int)] := by unfold restK; simp [ht]
    rw [e, restK_which]
end Go.Proofs.Ytmgoefhihljggaa.Sg
