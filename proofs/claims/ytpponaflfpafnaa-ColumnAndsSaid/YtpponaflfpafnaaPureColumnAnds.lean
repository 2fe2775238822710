/- For any two comparisons over one column: exactly the places at which both hold. No condition (the law itself asks nothing of more than 200). -/
import Derived.Test.YtpponaflfpafnaaPureC
import Derived.Test.YtpponaflfpafnaaXAllx15
import Derived.Laws.Bits64
namespace Go.Proofs.Ytpponaflfpafnaa.Pure
open Go.RowKit Go.Proofs.Ytpponaflfpafnaa.XAll Go.Proofs.YtpponaflfpafnaaW.PrintWords Go.Proofs.YtpponaflfpafnaaW.PrintLast
set_option linter.unusedVariables false

theorem mod_fact (a : Int) (n : Nat) (h0 : 0 < n) (h1 : n ≤ 6) : wrap64 (Int.tmod (IntKind.u64.wrap a) (n : Int)) = ((((IntKind.u64.wrap a) % (n : Int)).toNat : Nat) : Int) ∧ ((IntKind.u64.wrap a) % (n : Int)).toNat < n := by
  have hu : 0 ≤ IntKind.u64.wrap a := by rw [IntKind.wrap_u64]; omega
  have h2 := Int.emod_nonneg (IntKind.u64.wrap a) (b := (n : Int)) (by omega)
  have h3 := Int.emod_lt_of_pos (IntKind.u64.wrap a) (b := (n : Int)) (by omega)
  rw [Int.tmod_eq_emod_of_nonneg hu]
  refine ⟨?_, by omega⟩
  rw [wrap_in (by unfold I64; omega)]
  omega
theorem ands_l0 (o o2 x y : Int) (h0 : 0 ≤ o) (h5 : o ≤ 5) (g0 : 0 ≤ o2) (g5 : o2 ≤ 5) (l : List Int) (hl : l.length ≤ 200) (p q : Nat → Bool) (hp : ∀ j : Nat, p j = holdsB o (rd l j) x) (hq : ∀ j : Nat, q j = holdsB o2 (rd l j) y) (sel : List Int) (hsl : sel.length ≤ 200) (d : Nat) :
    ∀ (k i : Nat) (pre : List Int), i + d = l.length → 2 * d + 410 < k → pre.length ≤ i → sel = pre ++ selF (fun j => p j && q j) i d →
    ergolaw03_ColumnAnds.l0 k o o2 l x y sel (pre.length : Int) (l.length : Int) (i : Int) = some true := by
  induction d with
  | zero =>
    intro k i pre hd hk hp0 hs
    obtain ⟨k, rfl⟩ : ∃ m, k = m + 1 := ⟨k - 1, by omega⟩
    simp only [ergolaw03_ColumnAnds.l0]
    rw [if_neg (by omega), if_pos (by rw [hs]; simp [selF]), and_f [] sel (by simp) hsl k (by simp; omega), nil_andL]
    rfl
  | succ d ih =>
    intro k i pre hd hk hp0 hs
    obtain ⟨k, rfl⟩ : ∃ m, k = m + 1 + 1 := ⟨k - 2, by omega⟩
    have hw : wrap64 ((i : Int) + 1) = ((i + 1 : Nat) : Int) := by unfold wrap64; omega
    have hw2 : wrap64 ((pre.length : Int) + 1) = ((pre.length + 1 : Nat) : Int) := by unfold wrap64; omega
    simp only [ergolaw03_ColumnAnds.l0]
    rw [if_pos (by omega), if_pos (by omega), if_pos (by omega), law_holds_f o _ _ h0 h5, ← hp, law_holds_f o2 _ _ g0 g5, ← hq]
    simp only [Option.bind_some]
    simp only [selF] at hs
    have skip : ¬ (p i && q i) = true → ergolaw03_ColumnAnds.j1 (k + 1) o o2 l x y sel (pre.length : Int) (i : Int) (l.length : Int) (i : Int) true = some true := by
      intro c
      rw [if_neg c] at hs
      simp only [ergolaw03_ColumnAnds.j1]
      rw [if_pos trivial, hw]
      exact ih k (i + 1) pre (by omega) (by omega) (by omega) hs
    by_cases cp : p i = true
    · rw [if_pos cp]
      by_cases cq : q i = true
      · rw [if_pos (by simp [cp, cq])] at hs
        have hlen : sel.length = pre.length + (1 + (selF (fun j => p j && q j) (i + 1) d).length) := by rw [hs]; simp; omega
        rw [cq]
        simp only [ergolaw03_ColumnAnds.j1, Bool.not_true]
        rw [if_neg (by decide), if_neg (by omega), if_pos (by omega), if_pos (by omega), if_pos (by rw [hs, rd_mid]), hw, hw2]
        have := ih k (i + 1) (pre ++ [(i : Int)]) (by omega) (by omega) (by simp; omega) (by rw [hs]; simp)
        simpa using this
      · rw [Bool.not_eq_true] at cq
        have := skip (by simp [cq])
        rw [cq]
        exact this
    · rw [if_neg cp]
      exact skip (by simp [cp])
theorem ColumnAnds : ergolaw03_ColumnAnds.Pure := by
  intro n m l x y _ _ _ _ _ _ _
  refine ⟨4 * l.length + 420, ?_⟩
  unfold ergolaw03_ColumnAnds.f
  rw [head_f _ (by omega)]
  simp only [Option.bind_some, if_true]
  by_cases c : (l.length : Int) > 200
  · rw [if_pos c]
  · rw [if_neg c]
    obtain ⟨e, h5⟩ := mod_fact n 6 (by decide) (by decide)
    obtain ⟨e', h5'⟩ := mod_fact m 6 (by decide) (by decide)
    rw [show ((6 : Nat) : Int) = 6 from rfl] at e h5 e' h5'
    rw [e, e']
    generalize ((IntKind.u64.wrap n) % 6).toNat = o at *
    generalize ((IntKind.u64.wrap m) % 6).toNat = o2 at *
    have h1 := selF_le (fun j => holdsB o (rd l j) x) l.length 0
    have h2 := selF_le (fun j => holdsB o2 (rd l j) y) l.length 0
    have h3 := selF_le (fun j => holdsB o (rd l j) x && holdsB o2 (rd l j) y) l.length 0
    rw [where_f o x l (by omega) _ (by omega), where_f o2 y l (by omega) _ (by omega)]
    simp only [Option.bind_some]
    rw [and_f _ _ (by omega) (by omega) _ (by omega), andL_selF]
    simp only [Option.bind_some]
    exact ands_l0 o o2 x y (by omega) (by omega) (by omega) (by omega) l (by omega) _ _ (fun j => rfl) (fun j => rfl) _ (by omega) l.length _ 0 [] (by omega) (by omega) (by simp) rfl

end Go.Proofs.Ytpponaflfpafnaa.Pure
