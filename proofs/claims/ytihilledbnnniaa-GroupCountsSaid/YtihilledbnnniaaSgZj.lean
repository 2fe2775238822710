/- Plain part of the law's own By: what comes of the rows up to a place. -/
import Derived.Test.YtihilledbnnniaaSgZi
namespace Go.Proofs.Ytihilledbnnniaa.Sg
open Go.RowKit Go.Shelf
set_option linter.unusedVariables false
set_option linter.unusedSimpArgs false

def grpUp (KS : List Row) (vs : List Int) (K : Row) (j : Nat) : List Int := grp (KS.take j) vs K
def fstUp (KS : List Row) (K : Row) (i j : Nat) : Bool := decide (K ∉ (KS.take j).take i)
theorem grpUp_yes {KS : List Row} {vs : List Int} {K : Row} {j : Nat} (h : j < KS.length) (e : KS[j] = K) : grpUp KS vs K (j + 1) = grpUp KS vs K j ++ [vs.getD j 0] := by
  unfold grpUp grp
  rw [List.take_succ_eq_append_getElem h, which_snoc, e]
  simp only [if_true]
  rw [List.map_append, List.length_take, Nat.min_eq_left (by omega)]
  simp
theorem grpUp_no {KS : List Row} {vs : List Int} {K : Row} {j : Nat} (h : j < KS.length) (e : KS[j] ≠ K) : grpUp KS vs K (j + 1) = grpUp KS vs K j := by
  unfold grpUp grp
  rw [List.take_succ_eq_append_getElem h, which_snoc]
  simp only [if_neg (Ne.symm e)]
theorem grpUp_all (KS : List Row) (vs : List Int) (K : Row) : grpUp KS vs K KS.length = grp KS vs K := by unfold grpUp; rw [List.take_length]
theorem grpUp_length (KS : List Row) (vs : List Int) (K : Row) (j : Nat) : (grpUp KS vs K j).length ≤ j := by
  unfold grpUp
  rw [grp_length]
  have := which_le (KS.take j) K
  simp at this
  omega
theorem fstUp_lt {KS : List Row} {K : Row} {i j : Nat} (h : j < KS.length) (e : KS[j] = K) (hj : j < i) : fstUp KS K i (j + 1) = false := by
  unfold fstUp
  rw [decide_eq_false_iff_not, List.take_take]
  intro hn
  apply hn
  exact List.mem_iff_getElem.2 ⟨j, by simp; omega, by rw [List.getElem_take, e]⟩
theorem fstUp_ge {KS : List Row} {K : Row} {i j : Nat} (hj : i ≤ j) : fstUp KS K i (j + 1) = fstUp KS K i j := by
  unfold fstUp
  rw [List.take_take, List.take_take, Nat.min_eq_left (by omega), Nat.min_eq_left hj]
theorem fstUp_no {KS : List Row} {K : Row} {i j : Nat} (h : j < KS.length) (e : KS[j] ≠ K) : fstUp KS K i (j + 1) = fstUp KS K i j := by
  by_cases hj : i ≤ j
  · exact fstUp_ge hj
  · unfold fstUp
    rw [List.take_take, List.take_take, Nat.min_eq_right (by omega), Nat.min_eq_right (by omega), List.take_succ_eq_append_getElem h]
    simp only [List.mem_append, List.mem_singleton, Ne.symm e, or_false]
theorem fstUp_all (KS : List Row) (i : Nat) : fstUp KS (KS.getD i []) i KS.length = isFst KS i := by unfold fstUp isFst; rw [List.take_length]
theorem fstUp_zero (KS : List Row) (K : Row) (i : Nat) : fstUp KS K i 0 = true := by unfold fstUp; simp
def valsIn (col : Int) (W : Nat) (rs : List Row) : List Int := rs.map fun r => if 0 ≤ col ∧ col < W then r.getD col.toNat 0 else 0
theorem valsIn_in64 {col : Int} {W : Nat} {rs : List Row} (h : ∀ r ∈ rs, ∀ x ∈ r, In64 x) : ∀ x ∈ valsIn col W rs, In64 x := by
  intro x hx
  obtain ⟨r, hr, rfl⟩ := List.mem_map.1 hx
  split
  · exact In64.getD (h r hr) _
  · simp [In64]
theorem valsIn_at (col : Int) (W : Nat) (rs : List Row) (t : Nat) (h : t < rs.length) : (valsIn col W rs).getD t 0 = if 0 ≤ col ∧ col < W then rs[t].getD col.toNat 0 else 0 := by
  unfold valsIn; simp [h]
theorem grp_len_only (KS : List Row) (vs vs2 : List Int) (K : Row) : madeV 1 (grp KS vs K) = madeV 1 (grp KS vs2 K) ∧ madeB 1 (grp KS vs K) = madeB 1 (grp KS vs2 K) := by
  have hl : (grp KS vs K).length = (grp KS vs2 K).length := by rw [grp_length, grp_length]
  have he : (grp KS vs K = []) ↔ (grp KS vs2 K = []) := by rw [← List.length_eq_zero_iff, ← List.length_eq_zero_iff, hl]
  unfold madeV madeB
  by_cases h : grp KS vs K = []
  · rw [if_pos h, if_pos h, if_pos (he.1 h), if_pos (he.1 h)]; exact ⟨rfl, rfl⟩
  · rw [if_neg h, if_neg h, if_neg (fun e => h (he.2 e)), if_neg (fun e => h (he.2 e)), hl]; exact ⟨rfl, rfl⟩
/-- Where By and the law's own By speak of the same numbers. -/
theorem vals_same {a col : Int} {W : Nat} {rs : List Row} (h : a = 1 ∨ (2 ≤ a ∧ 0 ≤ col ∧ col < W)) (KS : List Row) (i : Nat) :
    outs KS (valsIn col W rs) a i = outs KS (valsOf a col rs) a i ∧ (okUp KS (valsIn col W rs) a i ↔ okUp KS (valsOf a col rs) a i) := by
  rcases h with rfl | ⟨h1, h2, h3⟩
  · refine ⟨?_, ?_⟩
    · unfold outs
      refine congrArg (fun f => List.map f _) ?_
      funext t
      unfold outRow
      rw [(grp_len_only KS (valsIn col W rs) (valsOf 1 col rs) _).1]
    · unfold okUp
      constructor <;> intro h t ht hf
      · rw [← (grp_len_only KS (valsIn col W rs) (valsOf 1 col rs) _).2]; exact h t ht hf
      · rw [(grp_len_only KS (valsIn col W rs) (valsOf 1 col rs) _).2]; exact h t ht hf
  · have e : valsIn col W rs = valsOf a col rs := by
      unfold valsIn valsOf
      refine congrArg (fun f => List.map f _) ?_
      funext r
      rw [if_pos ⟨h2, h3⟩, if_neg (by omega)]
    rw [e]; exact ⟨rfl, Iff.rfl⟩
def GRes9 (w w' : World) (v : Value) (b : Bool) (KS : List Row) (vs : List Int) (a : Int) : Prop :=
  Below w.heap.size w w' ∧ ((b = true ∧ okUp KS vs a KS.length ∧ RowsAt w' (fun _ => True) v (norm (wdAt KS KS.length) (outs KS vs a KS.length))) ∨ (b = false ∧ ¬ okUp KS vs a KS.length))
def By9Post (w : World) (KS : List Row) (vs : List Int) (a : Int) (e : Ending) (w' : World) : Prop := ∃ v b, e = .returned (.tuple #[v, .bool b]) ∧ GRes9 w w' v b KS vs a
end Go.Proofs.Ytihilledbnnniaa.Sg
