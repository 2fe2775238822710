/- Plain part of GroupCounts: all counts together are the number of rows. -/
import Derived.Test.YtihilledbnnniaaSgZp
import Derived.Test.YtihilledbnnniaaSgXm
namespace Go.Proofs.Ytihilledbnnniaa.Sg
open Go.RowKit Go.Shelf
set_option linter.unusedVariables false
set_option linter.unusedSimpArgs false

theorem madeV_one (xs : List Int) : madeV 1 xs = xs.length := by
  unfold madeV
  by_cases h : xs = []
  · subst h; rfl
  · rw [if_neg h]; rfl
theorem okUp_one (KS : List Row) (vs : List Int) : okUp KS vs 1 KS.length := fun t ht _ => by
  have h1 : grp KS vs (KS.getD t []) ≠ [] := by
    intro e
    have h2 : which KS (KS.getD t []) = [] := by unfold grp at e; simpa using e
    rw [which_nil] at h2
    apply h2
    simp [ht]
  exact (made_one h1).2
theorem fst_uniq (KS : List Row) : ∀ i, i ≤ KS.length → ((List.range i).filter (isFst KS)).map (fun t => KS.getD t []) = uniq (KS.take i) := by
  intro i
  induction i with
  | zero => intro _; rfl
  | succ i ih =>
    intro hi
    have hlt : i < KS.length := by omega
    have hg : KS.getD i [] = KS[i] := by simp [hlt]
    rw [List.range_succ, List.filter_append, List.map_append, ih (by omega), List.take_succ_eq_append_getElem hlt, uniq_snoc]
    by_cases h : KS[i] ∈ KS.take i
    · rw [if_pos ((mem_uniq _ _).2 h)]
      have : isFst KS i = false := by unfold isFst; rw [hg]; simpa using h
      rw [List.filter_cons, if_neg (by rw [this]; simp)]
      simp
    · rw [if_neg (fun e => h ((mem_uniq _ _).1 e))]
      have : isFst KS i = true := by unfold isFst; rw [hg]; simpa using h
      rw [List.filter_cons, if_pos this]
      simp [hlt]
theorem outs_one (KS : List Row) (vs : List Int) : outs KS vs 1 KS.length = (uniq KS).map fun K => K ++ [(cntOf KS K : Int)] := by
  have h := fst_uniq KS KS.length (Nat.le_refl _)
  rw [List.take_length] at h
  rw [← h, List.map_map]
  unfold outs
  refine congrArg (fun f => List.map f _) ?_
  funext t
  unfold outRow
  simp only [Function.comp_apply]
  rw [madeV_one, grp_length, which_length]
  rfl
theorem ins_sum (f : Row → Int) (r : Row) : ∀ l : List Row, r ∉ l → ((ins r l).map f).sum = f r + (l.map f).sum
  | [], _ => by simp [ins]
  | y :: l, h => by
    rw [List.mem_cons, not_or] at h
    have := ins_sum f r l h.2
    rw [ins]
    split
    · simp
    · split
      · rename_i e; exact absurd (by first | exact e | exact e.symm | (have := (rowCmp_zero _ _).1 e; exact this)) h.1
      · simp only [List.map_cons, List.sum_cons, this]; omega
theorem foldl_ins_sum (f : Row → Int) : ∀ (l acc : List Row), l.Nodup → (∀ x ∈ l, x ∉ acc) → ((l.foldl (fun acc r => ins r acc) acc).map f).sum = (acc.map f).sum + (l.map f).sum
  | [], acc, _, _ => by simp
  | r :: l, acc, hn, hd => by
    rw [List.nodup_cons] at hn
    rw [List.foldl_cons, foldl_ins_sum f l (ins r acc) hn.2 (fun x hx => by
      rw [mem_ins, not_or]
      exact ⟨fun e => hn.1 (e ▸ hx), hd x (List.mem_cons_of_mem _ hx)⟩), ins_sum f r acc (hd r (List.mem_cons_self ..))]
    simp only [List.map_cons, List.sum_cons]; omega
theorem norm_sum (f : Row → Int) (n : Nat) (l : List Row) (hn : l.Nodup) (hw : ∀ r ∈ l, r.length = n) : ((norm n l).map f).sum = (l.map f).sum := by
  have e : l.filter (fun r => decide (r.length = n)) = l := by rw [List.filter_eq_self]; intro a ha; simpa using hw a ha
  unfold norm
  rw [e, foldl_ins_sum f l [] hn (fun x _ => by simp)]
  simp
theorem outs_nodup (KS : List Row) (vs : List Int) : (outs KS vs 1 KS.length).Nodup := by
  rw [outs_one]
  refine List.Pairwise.map _ (fun a b hab e => hab ?_) (uniq_nodup KS)
  exact (List.append_inj_left' e rfl)
/-- What By leaves of a count by keys of one number. -/
theorem counts_sum (KS : List Row) (vs : List Int) (hk : ∀ K ∈ KS, K.length = 1) : ((norm 2 (outs KS vs 1 KS.length)).map fun r => r.getD 1 0).sum = (KS.length : Int) := by
  rw [norm_sum _ 2 _ (outs_nodup KS vs) (fun r hr => by
    rw [outs_one] at hr
    obtain ⟨K, hK, rfl⟩ := List.mem_map.1 hr
    rw [List.length_append, hk K ((mem_uniq K KS).1 hK)]; rfl), outs_one, List.map_map]
  have h := sum_all KS
  unfold sumOf at h
  have key : ∀ us : List Row, (∀ K ∈ us, K.length = 1) → (us.map ((fun r : Row => r.getD 1 0) ∘ fun K => K ++ [(cntOf KS K : Int)])).sum = (((us.map (cntOf KS)).sum : Nat) : Int) := by
    intro us
    induction us with
    | nil => intro _; rfl
    | cons K us ih =>
      intro hu
      have hK := hu K (List.mem_cons_self ..)
      rw [List.map_cons, List.sum_cons, ih (fun q hq => hu q (List.mem_cons_of_mem _ hq)), List.map_cons, List.sum_cons]
      have : ((fun r : Row => r.getD 1 0) ∘ fun K => K ++ [(cntOf KS K : Int)]) K = (cntOf KS K : Int) := by
        match K, hK with
        | [a], _ => rfl
      rw [this]; omega
  rw [key (uniq KS) (fun K hK => hk K ((mem_uniq K KS).1 hK)), h]
theorem counts_row (KS : List Row) (vs : List Int) (hk : ∀ K ∈ KS, K.length = 1) : ∀ r ∈ norm 2 (outs KS vs 1 KS.length), r.length = 2 ∧ 1 ≤ r.getD 1 0 := by
  intro r hr
  obtain ⟨h1, h2⟩ := (mem_norm _ _ _).1 hr
  refine ⟨h2, ?_⟩
  rw [outs_one] at h1
  obtain ⟨K, hK, rfl⟩ := List.mem_map.1 h1
  have hm := (mem_uniq K KS).1 hK
  have hc : 1 ≤ cntOf KS K := by
    unfold cntOf
    exact List.countP_pos_iff.2 ⟨K, hm, by simp⟩
  match K, hk K hm with
  | [a], _ => show 1 ≤ (cntOf KS [a] : Int); omega
theorem counts_all (KS : List Row) (vs : List Int) (hk : ∀ K ∈ KS, K = []) (hp : 0 < KS.length) : norm 1 (outs KS vs 1 KS.length) = [[(KS.length : Int)]] := by
  have hu : uniq KS = [[]] := by
    have h1 : ∀ K ∈ uniq KS, K = [] := fun K hK => hk K ((mem_uniq K KS).1 hK)
    have h2 : ([] : Row) ∈ uniq KS := by
      rw [mem_uniq]
      have := hk KS[0] (List.getElem_mem hp)
      rw [← this]; exact List.getElem_mem hp
    have h3 := uniq_nodup KS
    cases hq : uniq KS with
    | nil => rw [hq] at h2; cases h2
    | cons a l =>
      rw [hq] at h1 h3
      have ha := h1 a (List.mem_cons_self ..)
      subst ha
      cases l with
      | nil => rfl
      | cons b l =>
        have hb := h1 b (by simp)
        subst hb
        rw [List.nodup_cons] at h3
        exact absurd (List.mem_cons_self ..) h3.1
  have hc : cntOf KS [] = KS.length := by
    unfold cntOf
    rw [List.countP_eq_length]
    intro a ha; simpa using hk a ha
  rw [outs_one, hu]
  simp only [List.map_cons, List.map_nil, List.nil_append, hc]
  rfl
end Go.Proofs.Ytihilledbnnniaa.Sg
