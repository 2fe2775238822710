/- For any operation and any two columns: they are reckoned place by place, or the first place without a result is told; a filled column holds what it should. No condition (the law itself asks nothing of more than 200). -/
import Derived.Test.YtpponaflfpafnaaPureC
import Derived.Test.YtpponaflfpafnaaXAllx22
import Derived.Laws.Bits64
import Derived.Laws.BitsLemmas
import Derived.Test.YtpponaflfpafnaaPureA
namespace Go.Proofs.Ytpponaflfpafnaa.Pure
open Go.RowKit Go.Proofs.Ytpponaflfpafnaa.XAll Go.Proofs.YtpponaflfpafnaaW.PrintWords Go.Proofs.YtpponaflfpafnaaW.PrintLast
set_option linter.unusedVariables false

theorem mod_fact (a : Int) (n : Nat) (h0 : 0 < n) (h1 : n ≤ 6) : wrap64 (Int.tmod (IntKind.u64.wrap a) (n : Int)) = ((((IntKind.u64.wrap a) % (n : Int)).toNat : Nat) : Int) ∧ ((IntKind.u64.wrap a) % (n : Int)).toNat < n := by
  have hu : 0 ≤ IntKind.u64.wrap a := by rw [IntKind.wrap_u64]; omega
  have h2 := Int.emod_nonneg (IntKind.u64.wrap a) (b := (n : Int)) (by omega)
  have h3 := Int.emod_lt_of_pos (IntKind.u64.wrap a) (b := (n : Int)) (by omega)
  rw [Int.tmod_eq_emod_of_nonneg hu]
  refine ⟨?_, by omega⟩
  rw [wrap_in (by unfold I64; omega)]
  omega
theorem and63 (n : Int) : 0 ≤ Go.bits .and .i64 n 63 ∧ Go.bits .and .i64 n 63 ≤ 63 := by
  have h63 : (BitVec.ofInt 64 63).toNat = 2 ^ 6 - 1 := by decide
  have key : (BitVec.ofInt 64 n &&& BitVec.ofInt 64 63).toNat = (n % ((2 ^ 64 : Nat) : Int)).toNat % 2 ^ 6 := by
    rw [BitVec.toNat_and, BitVec.toNat_ofInt, h63, Nat.and_two_pow_sub_one_eq_mod]
  have e : Go.bits .and .i64 n 63 = IntKind.i64.wrap ((BitVec.ofInt 64 n &&& BitVec.ofInt 64 63).toNat : Nat) := rfl
  rw [e, key, IntKind.wrap_i64]
  omega
theorem reck_l1 (x3 at_ : Int) (h3 : 0 ≤ x3) (h3' : x3 ≤ 63) (got f : List Int) (hg : got.length ≤ 200) (hf : f = List.replicate x3.toNat 5) (d : Nat) : ∀ (k i : Nat), i + d = f.length → d + 210 < k →
    ergolaw03_ColumnReckons.l1 k x3 got at_ got at_ f f (f.length : Int) (i : Int) = some true := by
  induction d with
  | zero =>
    intro k i hd hk
    obtain ⟨k, rfl⟩ : ∃ m, k = m + 1 := ⟨k - 1, by omega⟩
    simp only [ergolaw03_ColumnReckons.l1]
    rw [if_neg (by omega), if_pos trivial, same_f got (by omega) k (by omega)]
    simp only [Option.bind_some, if_true]
    rw [if_pos (by rw [hf]; simp; omega), wrap_in (by unfold I64; omega), fill_f _ 5 (by omega) k (by omega), show (-1 - x3).toNat = 0 from by omega]
    rfl
  | succ d ih =>
    intro k i hd hk
    obtain ⟨k, rfl⟩ : ∃ m, k = m + 1 := ⟨k - 1, by omega⟩
    have hlen : f.length ≤ 63 := by rw [hf]; simp; omega
    have hw : wrap64 ((i : Int) + 1) = ((i + 1 : Nat) : Int) := by unfold wrap64; omega
    have h1 : (i : Int) < (f.length : Int) := by omega
    have h2 : 0 ≤ (i : Int) := by omega
    have h5 : rd f (i : Int) = 5 := by
      rw [rd_at f i (by omega)]
      have := List.getElem_mem (l := f) (n := i) (by omega)
      generalize f[i] = y at *
      rw [hf] at this
      exact List.eq_of_mem_replicate this
    simp only [ergolaw03_ColumnReckons.l1, h1, h2, h5, if_true, hw]
    exact ih k (i + 1) (by omega) (by omega)
theorem reck_j3 (x3 : Int) (o : Int) (l m : List Int) (hl : ∀ x ∈ l, I64 x) (hm : ∀ x ∈ m, I64 x) (hn : l.length ≤ 200) (k : Nat) (hk : 500 < k) : ergolaw03_ColumnReckons.j3 k l m x3 o (reck o l m 0 [] (min l.length m.length)).1 (reck o l m 0 [] (min l.length m.length)).2 = some true := by
  obtain ⟨k, rfl⟩ : ∃ m, k = m + 1 := ⟨k - 1, by omega⟩
  obtain ⟨h0, h1⟩ := and63 x3
  have hle := reck_le o l m (min l.length m.length) 0 []
  simp only [ergolaw03_ColumnReckons.j3]
  rw [cdo_f o l m hl hm hn k (by omega), fill_f _ 5 (by omega) k (by omega)]
  simp only [Option.bind_some]
  simp only [List.length_nil] at hle
  exact reck_l1 _ _ h0 h1 _ _ (by omega) rfl (Go.bits .and .i64 x3 63).toNat k 0 (by simp) (by omega)
theorem reck_end (x3 : Int) (o : Int) (l m : List Int) (hl : ∀ x ∈ l, I64 x) (hm : ∀ x ∈ m, I64 x) (hn : l.length ≤ 200) (want : List Int) (bad i : Int) (k : Nat) (hk : 502 < k) (hb : (0 ≤ bad ∧ reck o l m 0 [] (min l.length m.length) = ([], bad)) ∨ (bad = -1 ∧ reck o l m 0 [] (min l.length m.length) = (want, -1))) :
    ergolaw03_ColumnReckons.j2 k l m x3 o want bad i false = some true := by
  obtain ⟨k, rfl⟩ : ∃ m, k = m + 1 := ⟨k - 1, by omega⟩
  have := reck_j3 x3 o l m hl hm hn k (by omega)
  simp only [ergolaw03_ColumnReckons.j2]
  rw [if_neg (by decide)]
  rcases hb with ⟨hb, e⟩ | ⟨rfl, e⟩
  · rw [if_pos hb]
    rw [e] at this
    exact this
  · rw [if_neg (by decide)]
    rw [e] at this
    exact this
theorem reck_l0 (x3 : Int) (o : Int) (l m : List Int) (hl : ∀ x ∈ l, I64 x) (hm : ∀ x ∈ m, I64 x) (hn : l.length ≤ 200) (n : Nat) (hmn : n = min l.length m.length) (d : Nat) : ∀ (k i : Nat) (want : List Int), i + d = n → 2 * d + 510 < k → want.length ≤ i →
    reck o l m 0 [] n = reck o l m i want d → ergolaw03_ColumnReckons.l0 k l m x3 o want (-1) (i : Int) = some true := by
  induction d with
  | zero =>
    intro k i want hd hk hw hr
    obtain ⟨k, rfl⟩ : ∃ m, k = m + 1 := ⟨k - 1, by omega⟩
    simp only [ergolaw03_ColumnReckons.l0]
    rw [mn_nat, if_neg (by omega)]
    refine reck_end x3 o l m hl hm hn want (-1) _ k (by omega) (.inr ⟨rfl, ?_⟩)
    rw [← hmn, hr]
    rfl
  | succ d ih =>
    intro k i want hd hk hlen hr
    obtain ⟨k, rfl⟩ : ∃ m, k = m + 1 + 1 + 1 := ⟨k - 3, by omega⟩
    have hw : wrap64 ((i : Int) + 1) = ((i + 1 : Nat) : Int) := by unfold wrap64; omega
    simp only [ergolaw03_ColumnReckons.l0]
    rw [mn_nat, if_pos (by omega), show decide ((-1 : Int) < 0) = true from rfl]
    simp only [ergolaw03_ColumnReckons.j2]
    rw [if_pos trivial, if_pos (by omega), if_pos (by omega), if_pos (by omega), do_f k o (rd_range l hl i (by omega)) (rd_range m hm i (by omega))]
    simp only [Option.bind_some]
    rw [if_pos (by omega), hw]
    simp only [reck] at hr
    by_cases c : (doF o (rd l i) (rd m i)).2 = true
    · rw [if_pos c] at hr
      rw [if_pos c]
      exact ih (k + 1) (i + 1) _ (by omega) (by omega) (by simp; omega) hr
    · rw [if_neg c] at hr
      rw [if_neg c]
      simp only [ergolaw03_ColumnReckons.l0]
      have hfin : ergolaw03_ColumnReckons.j2 k l m x3 o (want ++ [(doF o (rd l i) (rd m i)).1]) (i : Int) ((i + 1 : Nat) : Int) false = some true := by
        refine reck_end x3 o l m hl hm hn _ _ _ k (by omega) (.inl ⟨by omega, ?_⟩)
        rw [← hmn, hr]
      rw [show decide ((i : Int) < 0) = false from decide_eq_false (by omega)]
      split <;> exact hfin
theorem ColumnReckons : ergolaw03_ColumnReckons.Pure := by
  intro n l m x3 _ _ _ hl _ _ hm _
  have hl' : ∀ x ∈ l, I64 x := fun x hx => i64_of_wf (hl x hx)
  have hm' : ∀ x ∈ m, I64 x := fun x hx => i64_of_wf (hm x hx)
  refine ⟨2 * l.length + 1000, ?_⟩
  unfold ergolaw03_ColumnReckons.f
  rw [head_f _ (by omega)]
  simp only [Option.bind_some, if_true]
  by_cases c : (l.length : Int) > 200
  · rw [if_pos c]
    simp only [ergolaw03_ColumnReckons.j0]
    rw [if_pos trivial]
  · rw [if_neg c]
    simp only [ergolaw03_ColumnReckons.j0]
    by_cases c1 : (m.length : Int) > 200
    · rw [decide_eq_true c1, if_pos rfl]
    · rw [decide_eq_false c1, if_neg (by decide)]
      exact reck_l0 x3 _ l m hl' hm' (by omega) _ rfl _ _ 0 [] (by omega) (by omega) (by simp) rfl

end Go.Proofs.Ytpponaflfpafnaa.Pure
