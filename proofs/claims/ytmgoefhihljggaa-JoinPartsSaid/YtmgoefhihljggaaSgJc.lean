/- Going through two sorted lists of sides, plain. -/
import Derived.Test.YtmgoefhihljggaaSgJa
namespace Go.Proofs.Ytmgoefhihljggaa.Sg
open Go.RowKit Go.Shelf
set_option linter.unusedVariables false
set_option linter.unusedSimpArgs false

abbrev Side := Row × Int
def Rises (X : List Side) : Prop := ∀ i j (hi : i < X.length) (hj : j < X.length), i ≤ j → ¬ rlt X[j].1 X[i].1
theorem not_rlt_trans {a b c : Row} (h1 : ¬ rlt b a) (h2 : rlt b c) : rlt a c := rlt_of_le h1 h2
/-- X up to a and Y up to b are gone through, out has their pairs. -/
structure MInv (X Y : List Side) (a b : Nat) (out : List (Int × Int)) : Prop where
  la : a ≤ X.length
  lb : b ≤ Y.length
  mem : ∀ p, p ∈ out ↔ ∃ (i j : Nat) (hi : i < X.length) (hj : j < Y.length), i < a ∧ p = (X[i].2, Y[j].2) ∧ X[i].1 = Y[j].1
  apart : ∀ (i j : Nat) (hi : i < X.length) (hj : j < Y.length), a ≤ i → j < b → X[i].1 ≠ Y[j].1
theorem MInv.start (X Y : List Side) : MInv X Y 0 0 [] := ⟨Nat.zero_le _, Nat.zero_le _, fun p => ⟨fun h => by simp at h, fun ⟨i, j, _, _, h, _⟩ => by omega⟩, fun i j _ _ _ h => by omega⟩
theorem MInv.stepX {X Y : List Side} {a b a' : Nat} {out : List (Int × Int)} (h : MInv X Y a b out) (hY : Rises Y) (ha : a < X.length) (hb : b < Y.length) (hlt : rlt X[a].1 Y[b].1) (h1 : a ≤ a') (h2 : a' ≤ X.length) (hrun : ∀ i (hi : i < X.length), a ≤ i → i < a' → X[i].1 = X[a].1) : MInv X Y a' b out := by
  refine ⟨h2, h.lb, fun p => ?_, fun i j hi hj q1 q2 => h.apart i j hi hj (by omega) q2⟩
  rw [h.mem]
  constructor
  · rintro ⟨i, j, hi, hj, q1, q2⟩; exact ⟨i, j, hi, hj, by omega, q2⟩
  · rintro ⟨i, j, hi, hj, q1, q2, q3⟩
    refine ⟨i, j, hi, hj, ?_, q2, q3⟩
    refine Classical.byContradiction fun hn => ?_
    have e := hrun i hi (by omega) q1
    by_cases hjb : j < b
    · exact h.apart i j hi hj (by omega) hjb q3
    · have h5 := hY b j hb hj (by omega)
      rw [← q3, e] at h5
      exact h5 hlt
theorem MInv.stepY {X Y : List Side} {a b b' : Nat} {out : List (Int × Int)} (h : MInv X Y a b out) (hX : Rises X) (ha : a < X.length) (hb : b < Y.length) (hlt : rlt Y[b].1 X[a].1) (h2 : b' ≤ Y.length) (hrun : ∀ j (hj : j < Y.length), b ≤ j → j < b' → Y[j].1 = Y[b].1) : MInv X Y a b' out := by
  refine ⟨h.la, h2, h.mem, fun i j hi hj q1 q2 e => ?_⟩
  by_cases hjb : j < b
  · exact h.apart i j hi hj q1 hjb e
  · have e2 := hrun j hj (by omega) q2
    have h5 := hX a i ha hi q1
    rw [e, e2] at h5
    exact h5 hlt
theorem MInv.stepE {X Y : List Side} {a b a' b' : Nat} {out out' : List (Int × Int)} (h : MInv X Y a b out) (hX : Rises X) (hY : Rises Y) (ha : a < X.length) (hb : b < Y.length) (he : X[a].1 = Y[b].1) (h1 : a ≤ a') (h1b : b ≤ b') (h2 : a' ≤ X.length) (h3 : b' ≤ Y.length)
    (hrX : ∀ i (hi : i < X.length), a ≤ i → i < a' → X[i].1 = X[a].1) (hrY : ∀ j (hj : j < Y.length), b ≤ j → j < b' → Y[j].1 = Y[b].1)
    (hmX : ∀ hi : a' < X.length, X[a'].1 ≠ X[a].1) (hmY : ∀ hj : b' < Y.length, Y[b'].1 ≠ Y[b].1)
    (ho : ∀ p, p ∈ out' ↔ p ∈ out ∨ ∃ (i j : Nat) (hi : i < X.length) (hj : j < Y.length), a ≤ i ∧ i < a' ∧ b ≤ j ∧ j < b' ∧ p = (X[i].2, Y[j].2)) : MInv X Y a' b' out' := by
  have upX : ∀ i (hi : i < X.length), a' ≤ i → X[i].1 ≠ X[a].1 := fun i hi q e => by
    have hl : a' < X.length := by omega
    rcases rlt_tri X[a].1 X[a'].1 with h5 | h5 | h5
    · have h6 := hX a' i hl hi q
      rw [e] at h6
      exact h6 h5
    · exact hmX hl h5.symm
    · exact hX a a' ha hl h1 h5
  have upY : ∀ j (hj : j < Y.length), b' ≤ j → Y[j].1 ≠ Y[b].1 := fun j hj q e => by
    have hl : b' < Y.length := by omega
    rcases rlt_tri Y[b].1 Y[b'].1 with h5 | h5 | h5
    · have h6 := hY b' j hl hj q
      rw [e] at h6
      exact h6 h5
    · exact hmY hl h5.symm
    · exact hY b b' hb hl h1b h5
  refine ⟨h2, h3, fun p => ?_, fun i j hi hj q1 q2 e => ?_⟩
  · rw [ho, h.mem]
    constructor
    · rintro (⟨i, j, hi, hj, q1, q2⟩ | ⟨i, j, hi, hj, q1, q2, q3, q4, q5⟩)
      · exact ⟨i, j, hi, hj, by omega, q2⟩
      · exact ⟨i, j, hi, hj, q2, q5, by rw [hrX i hi q1 q2, hrY j hj q3 q4, he]⟩
    · rintro ⟨i, j, hi, hj, q1, q2, q3⟩
      by_cases hia : i < a
      · exact .inl ⟨i, j, hi, hj, hia, q2, q3⟩
      · have e := hrX i hi (by omega) q1
        right
        refine ⟨i, j, hi, hj, by omega, q1, ?_, ?_, q2⟩
        · exact Classical.byContradiction fun hn => h.apart i j hi hj (by omega) (by omega) q3
        · exact Classical.byContradiction fun hn => upY j hj (by omega) (by rw [← q3, e, he])
  · by_cases hjb : j < b
    · exact h.apart i j hi hj (by omega) hjb e
    · exact upX i hi q1 (by rw [e, hrY j hj (by omega) q2, he])
/-- At the end: all pairs. -/
theorem MInv.done {X Y : List Side} {a b : Nat} {out : List (Int × Int)} (h : MInv X Y a b out) (he : a = X.length ∨ b = Y.length) (p : Int × Int) : p ∈ out ↔ ∃ (i j : Nat) (hi : i < X.length) (hj : j < Y.length), p = (X[i].2, Y[j].2) ∧ X[i].1 = Y[j].1 := by
  rw [h.mem]
  constructor
  · rintro ⟨i, j, hi, hj, _, q⟩; exact ⟨i, j, hi, hj, q⟩
  · rintro ⟨i, j, hi, hj, q2, q3⟩
    refine ⟨i, j, hi, hj, Classical.byContradiction fun hn => ?_, q2, q3⟩
    rcases he with he | he
    · omega
    · exact h.apart i j hi hj (by omega) (by omega) q3
end Go.Proofs.Ytmgoefhihljggaa.Sg
