/- For any numbers, places, and places among these: gathering twice is gathering once at the combined places. No condition (the law itself asks nothing of more than 200). -/
import Derived.Test.YtpponaflfpafnaaPureC
import Derived.Test.YtpponaflfpafnaaXAllx13
namespace Go.Proofs.Ytpponaflfpafnaa.Pure
open Go.RowKit Go.Proofs.Ytpponaflfpafnaa.XAll Go.Proofs.YtpponaflfpafnaaW.PrintWords Go.Proofs.YtpponaflfpafnaaW.PrintLast
set_option linter.unusedVariables false

def inn (l : List Int) (s : List Int) : List Int := s.filter fun x => decide (0 ≤ x ∧ x < (l.length : Int))
theorem inn_le (l s : List Int) : (inn l s).length ≤ s.length := List.length_filter_le _ _
theorem inn_take (l s : List Int) (i : Nat) (h : i < s.length) : inn l (s.take (i + 1)) = inn l (s.take i) ++ inn l [s[i]] := by
  unfold inn
  rw [List.take_succ_eq_append_getElem h, List.filter_append]
theorem gath_inn (l : List Int) : ∀ s, gath l s = (inn l s).map (rd l)
  | [] => rfl
  | x :: s => by
    have ih := gath_inn l s
    unfold inn at ih ⊢
    simp only [gath, List.filter_cons]
    by_cases c : 0 ≤ x ∧ x < (l.length : Int)
    · rw [if_pos c, if_pos (by simpa using c), ih]
      rfl
    · rw [if_neg c, if_neg (by simpa using c), ih]
theorem rd_map (l m : List Int) (k : Int) (h0 : 0 ≤ k) (h1 : k < (m.length : Int)) : rd (m.map (rd l)) k = rd l (rd m k) := by
  obtain ⟨n, rfl⟩ := Int.eq_ofNat_of_zero_le h0
  rw [rd_at m n (by omega), rd_at _ n (by simp; omega)]
  simp
theorem chain (l m : List Int) (hm : ∀ x ∈ m, 0 ≤ x ∧ x < (l.length : Int)) : ∀ s, gath (m.map (rd l)) s = gath l (gath m s)
  | [] => rfl
  | k :: s => by
    have ih := chain l m hm s
    simp only [gath, List.length_map]
    by_cases c : 0 ≤ k ∧ k < (m.length : Int)
    · have hr := hm (rd m k) (by
        obtain ⟨n, rfl⟩ := Int.eq_ofNat_of_zero_le c.1
        rw [rd_at m n (by omega)]
        exact List.getElem_mem _)
      rw [if_pos c, if_pos c, ih, rd_map l m k c.1 c.2]
      simp only [gath]
      rw [if_pos hr]
    · rw [if_neg c, if_neg c, ih]
theorem chains_l1 (l s more : List Int) (hs : s.length ≤ 200) (hm : more.length ≤ 200) (d : Nat) : ∀ (k i : Nat), i + d = more.length → d + more.length + s.length + 2 < k →
    ergolaw03_ColumnChains.l1 k l more (gath l s) (inn l s) (gath (inn l s) (more.take i)) more (more.length : Int) (i : Int) = some true := by
  induction d with
  | zero =>
    intro k i hd hk
    obtain ⟨k, rfl⟩ : ∃ m, k = m + 1 := ⟨k - 1, by omega⟩
    have h1 := gath_le (inn l s) more
    have h2 := gath_le l (gath (inn l s) more)
    simp only [ergolaw03_ColumnChains.l1]
    rw [if_neg (by omega), List.take_of_length_le (by omega), gather_f _ more hm k (by omega), gather_f l _ (by omega) k (by omega)]
    simp only [Option.bind_some]
    rw [gath_inn l s, chain l (inn l s) (fun x hx => by unfold inn at hx; simpa using (List.mem_filter.1 hx).2), same_f _ (by omega) k (by omega)]
    simp
  | succ d ih =>
    intro k i hd hk
    obtain ⟨k, rfl⟩ : ∃ m, k = m + 1 := ⟨k - 1, by omega⟩
    have hw : wrap64 ((i : Int) + 1) = ((i + 1 : Nat) : Int) := by unfold wrap64; omega
    have hlt : i < more.length := by omega
    have hg := gath_take (inn l s) more i hlt
    have hle := gath_le (inn l s) (more.take i)
    have hlt2 : (more.take i).length ≤ i := List.length_take_le _ _
    simp only [ergolaw03_ColumnChains.l1]
    rw [if_pos (by omega), if_pos (by omega), if_pos (by omega), rd_at more i hlt, hw]
    have ih' := ih k (i + 1) (by omega) (by omega)
    rw [hg] at ih'
    generalize more[i] = x at *
    by_cases c0 : x ≥ 0
    · rw [if_pos c0]
      by_cases c1 : x < ((inn l s).length : Int)
      · rw [if_pos c1, if_pos c0, if_pos (by omega)]
        rwa [show gath (inn l s) [x] = [rd (inn l s) x] from by simp only [gath]; rw [if_pos ⟨c0, c1⟩]] at ih'
      · rw [if_neg c1]
        rwa [show gath (inn l s) [x] = [] from by simp only [gath]; rw [if_neg (by omega)], List.append_nil] at ih'
    · rw [if_neg c0]
      rwa [show gath (inn l s) [x] = [] from by simp only [gath]; rw [if_neg (by omega)], List.append_nil] at ih'
theorem chains_l0 (l s more : List Int) (hs : s.length ≤ 200) (hm : more.length ≤ 200) (d : Nat) : ∀ (k i : Nat), i + d = s.length → d + 2 * more.length + s.length + 4 < k →
    ergolaw03_ColumnChains.l0 k l more (gath l s) (inn l (s.take i)) s (s.length : Int) (i : Int) = some true := by
  induction d with
  | zero =>
    intro k i hd hk
    obtain ⟨k, rfl⟩ : ∃ m, k = m + 1 := ⟨k - 1, by omega⟩
    simp only [ergolaw03_ColumnChains.l0]
    rw [if_neg (by omega), List.take_of_length_le (by omega)]
    exact chains_l1 l s more hs hm more.length k 0 (by omega) (by omega)
  | succ d ih =>
    intro k i hd hk
    obtain ⟨k, rfl⟩ : ∃ m, k = m + 1 := ⟨k - 1, by omega⟩
    have hw : wrap64 ((i : Int) + 1) = ((i + 1 : Nat) : Int) := by unfold wrap64; omega
    have hlt : i < s.length := by omega
    have hg := inn_take l s i hlt
    have hle := inn_le l (s.take i)
    have hlt2 : (s.take i).length ≤ i := List.length_take_le _ _
    simp only [ergolaw03_ColumnChains.l0]
    rw [if_pos (by omega), if_pos (by omega), if_pos (by omega), rd_at s i hlt, hw]
    have ih' := ih k (i + 1) (by omega) (by omega)
    rw [hg] at ih'
    generalize s[i] = x at *
    by_cases c0 : x ≥ 0
    · rw [if_pos c0]
      by_cases c1 : x < (l.length : Int)
      · rw [if_pos c1, if_pos (by omega)]
        rwa [show inn l [x] = [x] from by unfold inn; rw [List.filter_cons, if_pos (by simpa using ⟨c0, c1⟩)]; rfl] at ih'
      · rw [if_neg c1]
        rwa [show inn l [x] = [] from by unfold inn; rw [List.filter_cons, if_neg (by simp; omega)]; rfl, List.append_nil] at ih'
    · rw [if_neg c0]
      rwa [show inn l [x] = [] from by unfold inn; rw [List.filter_cons, if_neg (by simp; omega)]; rfl, List.append_nil] at ih'
theorem ColumnChains : ergolaw03_ColumnChains.Pure := by
  intro l s more _ _ _ _ _ _ _ _ _
  refine ⟨2 * s.length + 2 * more.length + 12, ?_⟩
  unfold ergolaw03_ColumnChains.f
  rw [head_f _ (by omega)]
  simp only [Option.bind_some, if_true]
  by_cases c : (l.length : Int) > 200
  · rw [if_pos c]
    simp only [ergolaw03_ColumnChains.j0]
    rw [if_pos trivial]
  · rw [if_neg c]
    by_cases c1 : (s.length : Int) > 200
    · rw [if_pos c1]
      simp only [ergolaw03_ColumnChains.j0]
      rw [if_pos trivial]
    · rw [if_neg c1]
      simp only [ergolaw03_ColumnChains.j0]
      by_cases c2 : (more.length : Int) > 200
      · rw [decide_eq_true c2, if_pos rfl]
      · rw [decide_eq_false c2, if_neg (by decide), gather_f l s (by omega) _ (by omega)]
        simp only [Option.bind_some]
        exact chains_l0 l s more (by omega) (by omega) s.length _ 0 (by omega) (by omega)

end Go.Proofs.Ytpponaflfpafnaa.Pure
