/- For any comparison and any columns: exactly the places at which it holds, ascending, against a number and against another column. No condition (the law itself asks nothing of more than 200). -/
import Derived.Test.YtpponaflfpafnaaPureC
import Derived.Test.YtpponaflfpafnaaXAllx9
import Derived.Laws.Bits64
namespace Go.Proofs.Ytpponaflfpafnaa.Pure
open Go.RowKit Go.Proofs.Ytpponaflfpafnaa.XAll Go.Proofs.YtpponaflfpafnaaW.PrintWords Go.Proofs.YtpponaflfpafnaaW.PrintLast
set_option linter.unusedVariables false

theorem mod_fact (a : Int) (n : Nat) (h0 : 0 < n) (h1 : n ≤ 6) : wrap64 (Int.tmod (IntKind.u64.wrap a) (n : Int)) = ((((IntKind.u64.wrap a) % (n : Int)).toNat : Nat) : Int) ∧ ((IntKind.u64.wrap a) % (n : Int)).toNat < n := by
  have hu : 0 ≤ IntKind.u64.wrap a := by rw [IntKind.wrap_u64]; omega
  have h2 := Int.emod_nonneg (IntKind.u64.wrap a) (b := (n : Int)) (by omega)
  have h3 := Int.emod_lt_of_pos (IntKind.u64.wrap a) (b := (n : Int)) (by omega)
  rw [Int.tmod_eq_emod_of_nonneg hu]
  refine ⟨?_, by omega⟩
  rw [wrap_in (by unfold I64; omega)]
  omega
theorem scan1 (o x : Int) (h0 : 0 ≤ o) (h5 : o ≤ 5) (l l2 : List Int) (hl : l.length ≤ 200) (p : Nat → Bool) (hp : ∀ j : Nat, p j = holdsB o (rd l j) x) (sel : List Int) (d : Nat) : ∀ (k i : Nat) (pre : List Int), i + d = l.length → d < k → pre.length ≤ i → sel = pre ++ selF p i d →
    (∀ k', k ≤ k' + d + 1 → ((column_Both.f k' o l l2).bind fun t => (ergolaw03_ColumnWhere.l1 k' o l l2 0 t 0)) = some true) →
    ergolaw03_ColumnWhere.l0 k o l l2 x (pre.length : Int) sel (l.length : Int) (i : Int) = some true := by
  induction d with
  | zero =>
    intro k i pre hd hk hp0 hs hend
    obtain ⟨k, rfl⟩ : ∃ m, k = m + 1 := ⟨k - 1, by omega⟩
    simp only [ergolaw03_ColumnWhere.l0]
    rw [if_neg (by omega), if_pos (by rw [hs]; simp [selF])]
    exact hend k (by omega)
  | succ d ih =>
    intro k i pre hd hk hp0 hs hend
    obtain ⟨k, rfl⟩ : ∃ m, k = m + 1 := ⟨k - 1, by omega⟩
    have hw : wrap64 ((i : Int) + 1) = ((i + 1 : Nat) : Int) := by unfold wrap64; omega
    have hw2 : wrap64 ((pre.length : Int) + 1) = ((pre.length + 1 : Nat) : Int) := by unfold wrap64; omega
    simp only [ergolaw03_ColumnWhere.l0]
    rw [if_pos (by omega), if_pos (by omega), if_pos (by omega), law_holds_f o _ _ h0 h5, ← hp, hw]
    simp only [Option.bind_some]
    simp only [selF] at hs
    by_cases c : p i = true
    · rw [if_pos c] at hs
      have hlen : sel.length = pre.length + (1 + (selF p (i + 1) d).length) := by rw [hs]; simp; omega
      rw [if_pos c, if_neg (by omega), if_pos (by omega), if_pos (by omega), if_pos (by rw [hs, rd_mid]), hw2]
      have := ih k (i + 1) (pre ++ [(i : Int)]) (by omega) (by omega) (by simp; omega) (by rw [hs]; simp) (fun k' hk' => hend k' (by omega))
      simpa using this
    · rw [if_neg c] at hs
      rw [if_neg c]
      exact ih k (i + 1) pre (by omega) (by omega) (by omega) hs (fun k' hk' => hend k' (by omega))
theorem scan2 (o : Int) (h0 : 0 ≤ o) (h5 : o ≤ 5) (l m : List Int) (hl : l.length ≤ 200) (p : Nat → Bool) (hp : ∀ j : Nat, p j = holdsB o (rd l j) (rd m j)) (sel : List Int) (n : Nat) (hn : n = min l.length m.length) (d : Nat) : ∀ (k i : Nat) (pre : List Int), i + d = n → d < k → pre.length ≤ i → sel = pre ++ selF p i d →
    ergolaw03_ColumnWhere.l1 k o l m (pre.length : Int) sel (i : Int) = some true := by
  induction d with
  | zero =>
    intro k i pre hd hk hp0 hs
    obtain ⟨k, rfl⟩ : ∃ m, k = m + 1 := ⟨k - 1, by omega⟩
    simp only [ergolaw03_ColumnWhere.l1]
    rw [mn_nat, if_neg (by omega), hs]
    simp [selF]
  | succ d ih =>
    intro k i pre hd hk hp0 hs
    obtain ⟨k, rfl⟩ : ∃ m, k = m + 1 := ⟨k - 1, by omega⟩
    have hw : wrap64 ((i : Int) + 1) = ((i + 1 : Nat) : Int) := by unfold wrap64; omega
    have hw2 : wrap64 ((pre.length : Int) + 1) = ((pre.length + 1 : Nat) : Int) := by unfold wrap64; omega
    simp only [ergolaw03_ColumnWhere.l1]
    rw [mn_nat, if_pos (by omega), if_pos (by omega), if_pos (by omega), if_pos (by omega), law_holds_f o _ _ h0 h5, ← hp, hw]
    simp only [Option.bind_some]
    simp only [selF] at hs
    by_cases c : p i = true
    · rw [if_pos c] at hs
      have hlen : sel.length = pre.length + (1 + (selF p (i + 1) d).length) := by rw [hs]; simp; omega
      rw [if_pos c, if_neg (by omega), if_pos (by omega), if_pos (by omega), if_pos (by rw [hs, rd_mid]), hw2]
      have := ih k (i + 1) (pre ++ [(i : Int)]) (by omega) (by omega) (by simp; omega) (by rw [hs]; simp)
      simpa using this
    · rw [if_neg c] at hs
      rw [if_neg c]
      exact ih k (i + 1) pre (by omega) (by omega) (by omega) hs
theorem ColumnWhere : ergolaw03_ColumnWhere.Pure := by
  intro n l m x _ _ _ _ _ _ _ _
  refine ⟨2 * l.length + 12, ?_⟩
  unfold ergolaw03_ColumnWhere.f
  rw [head_f _ (by omega)]
  simp only [Option.bind_some, if_true]
  by_cases c : (l.length : Int) > 200
  · rw [if_pos c]
    simp only [ergolaw03_ColumnWhere.j0]
    rw [if_pos trivial]
  · rw [if_neg c]
    simp only [ergolaw03_ColumnWhere.j0]
    by_cases c1 : (m.length : Int) > 200
    · rw [decide_eq_true c1, if_pos rfl]
    · rw [decide_eq_false c1, if_neg (by decide)]
      obtain ⟨e, h5⟩ := mod_fact n 6 (by decide) (by decide)
      rw [show ((6 : Nat) : Int) = 6 from rfl] at e h5
      rw [e]
      generalize ((IntKind.u64.wrap n) % 6).toNat = o at *
      rw [where_f o x l (by omega) _ (by omega)]
      simp only [Option.bind_some]
      refine scan1 o x (by omega) (by omega) l m (by omega) _ (fun j => rfl) _ l.length _ 0 [] (by omega) (by omega) (by simp) rfl ?_
      intro k' hk'
      rw [both_f o l m (by omega) k' (by omega)]
      simp only [Option.bind_some]
      exact scan2 o (by omega) (by omega) l m (by omega) _ (fun j => rfl) _ _ rfl _ k' 0 [] (by omega) (by omega) (by simp) rfl

end Go.Proofs.Ytpponaflfpafnaa.Pure
