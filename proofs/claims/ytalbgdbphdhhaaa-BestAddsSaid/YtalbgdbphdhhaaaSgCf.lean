/- BestAdds, plain: the rows that are the best ones now and were not before. -/
import Derived.Test.YtalbgdbphdhhaaaSgCd
namespace Go.Proofs.Ytalbgdbphdhhaaa.Sg
open Go.RowKit Go.Shelf
set_option linter.unusedVariables false
set_option linter.unusedSimpArgs false

def pageS (W : Nat) (great : Bool) (Q : List Row) (r : Row) : List Row := (putL W great Q (r.take W) (r.getD W 0)).1
def pageAll (W : Nat) (great : Bool) (Q L : List Row) : List Row := L.foldl (pageS W great) Q
theorem pageAll_snoc (W : Nat) (great : Bool) (Q L : List Row) (r : Row) : pageAll W great Q (L ++ [r]) = pageS W great (pageAll W great Q L) r := by simp [pageAll]
theorem pageAll_take {W : Nat} {great : Bool} {Q L : List Row} {i : Nat} (h : i < L.length) : pageAll W great Q (L.take (i + 1)) = pageS W great (pageAll W great Q (L.take i)) L[i] := by
  rw [List.take_succ_eq_append_getElem h, pageAll_snoc]
theorem pageAll_le (W : Nat) (great : Bool) (Q : List Row) : ∀ L : List Row, (pageAll W great Q L).length ≤ Q.length + L.length := by
  have key : ∀ (L Q : List Row), (L.foldl (pageS W great) Q).length ≤ Q.length + L.length := by
    intro L
    induction L with
    | nil => intro Q; simp
    | cons r L ih =>
      intro Q
      rw [List.foldl_cons]
      have h1 := ih (pageS W great Q r)
      have h2 := putL_len W great Q (r.take W) (r.getD W 0)
      have h3 : (pageS W great Q r).length ≤ Q.length + 1 := h2
      simp only [List.length_cons]; omega
  exact fun L => key L Q
theorem betterB_trans {great : Bool} {x y z : Int} (h : betterB great x y = true) (h2 : betterB great y z = true) : betterB great x z = true := by
  cases great <;> simp [betterB] at * <;> omega
/-- Best while a set of rows is added to it: R was there, R1 is, K are the keys that became better. -/
structure InvA (W : Nat) (great : Bool) (R R1 K : List Row) : Prop where
  good : GoodB W R1
  i1 : ∀ k ∈ K, ∃ x ∈ R1, x.take W = k ∧ ∀ c, getB W R k = some c → betterB great (x.getD W 0) c = true
  i2 : ∀ x ∈ R1, x.take W ∉ K → x ∈ R
  i3 : ∀ k ∈ keysB W R, k ∈ keysB W R1
theorem InvA.start {W : Nat} {great : Bool} {R : List Row} (h : GoodB W R) : InvA W great R R [] := ⟨h, fun k hk => by simp at hk, fun x hx _ => hx, fun k hk => hk⟩
theorem getB_key {W : Nat} {R : List Row} {k : Row} {c : Int} (h : getB W R k = some c) : k ∈ keysB W R := by
  unfold getB at h
  cases hi : idxB W R k with
  | none => rw [hi] at h; cases h
  | some i =>
    obtain ⟨hl, e⟩ := idxB_some hi
    exact e ▸ mem_keysB (List.getElem_mem hl)
theorem take_key {W : Nat} {k : Row} {c : Int} (h : k.length = W) : (k ++ [c]).take W = k ∧ (k ++ [c]).getD W 0 = c := by
  subst h
  simp
theorem InvA.step {W : Nat} {great : Bool} {R R1 K : List Row} {r : Row} (h : InvA W great R R1 K) (hR : GoodB W R) (hr : r.length = W + 1) (hi : ∀ x ∈ r, In64 x) : InvA W great R (stepA W great (R1, K) r).1 (stepA W great (R1, K) r).2 := by
  unfold stepA
  rw [if_pos hr]
  simp only
  have hkl : (r.take W).length = W := by rw [List.length_take, hr]; omega
  have hki : ∀ x ∈ r.take W, In64 x := fun x hx => hi x (List.mem_of_mem_take hx)
  have hc : In64 (r.getD W 0) := In64.getD hi W
  obtain ⟨k0, hk0⟩ : ∃ k0, r.take W = k0 := ⟨_, rfl⟩
  obtain ⟨c0, hc0⟩ : ∃ c0, r.getD W 0 = c0 := ⟨_, rfl⟩
  rw [hk0] at hkl hki ⊢
  rw [hc0] at hc ⊢
  obtain ⟨tk, tc⟩ := take_key (c := c0) hkl
  unfold putB
  cases hx : idxB W R1 k0 with
  | none =>
    simp only [if_true]
    have hno := idxB_none hx
    refine ⟨h.good.snoc hkl hki hc hx, fun k hk => ?_, fun x hx1 hxk => ?_, fun k hk => ?_⟩
    · rcases List.mem_append.1 hk with hk | hk
      · obtain ⟨x, h1, h2⟩ := h.i1 k hk
        exact ⟨x, List.mem_append_left _ h1, h2⟩
      · rw [List.mem_singleton.1 hk]
        exact ⟨k0 ++ [c0], by simp, tk, fun c hcc => absurd (h.i3 _ (getB_key hcc)) hno⟩
    · rw [List.mem_append, not_or] at hxk
      rcases List.mem_append.1 hx1 with hx1 | hx1
      · exact h.i2 x hx1 hxk.1
      · rw [List.mem_singleton.1 hx1, tk] at hxk
        exact absurd (List.mem_singleton.2 rfl) hxk.2
    · rw [keysB_snoc hkl]
      exact List.mem_append_left _ (h.i3 k hk)
  | some i =>
    obtain ⟨hil, hik⟩ := idxB_some hx
    have hcb := costB_at (W := W) hil
    simp only
    by_cases hb : betterB great c0 (costB W R1 i) = true
    · simp only [if_pos hb, if_true]
      have hmem : ∀ x ∈ R1, x.take W ≠ k0 → x ∈ R1.set i (k0 ++ [c0]) := fun x hx1 hne => by
        obtain ⟨j, hj, rfl⟩ := List.getElem_of_mem hx1
        have hji : i ≠ j := fun e => hne (by subst e; exact hik)
        exact List.mem_iff_getElem.2 ⟨j, by rw [List.length_set]; exact hj, by rw [List.getElem_set_ne hji]⟩
      have hnew : k0 ++ [c0] ∈ R1.set i (k0 ++ [c0]) := List.mem_iff_getElem.2 ⟨i, by rw [List.length_set]; exact hil, by rw [List.getElem_set_self]⟩
      have hback : ∀ x ∈ R1.set i (k0 ++ [c0]), x = k0 ++ [c0] ∨ x ∈ R1 := fun x hx1 => by
        rcases List.mem_or_eq_of_mem_set hx1 with h1 | h1
        · exact .inr h1
        · exact .inl h1
      refine ⟨h.good.set hkl hki hc hx, fun k hk => ?_, fun x hx1 hxk => ?_, fun k hk => ?_⟩
      · by_cases hkk : k = k0
        · subst hkk
          refine ⟨_, hnew, tk, fun c hcc => ?_⟩
          rw [tc]
          by_cases hK : k ∈ K
          · obtain ⟨x, h1, h2, h3⟩ := h.i1 k hK
            obtain ⟨j, hj, rfl⟩ := List.getElem_of_mem h1
            have : j = i := h.good.uniq hj hil (by rw [h2, hik])
            subst this
            rw [hcb] at hb
            exact betterB_trans hb (h3 c hcc)
          · have h1 := h.i2 _ (List.getElem_mem hil) (by rw [hik]; exact hK)
            have h2 := getB_mem hR h1
            rw [hik, hcc] at h2
            have h3 := Option.some.inj h2
            rw [h3, ← hcb]; exact hb
        · have hK : k ∈ K := by
            rcases List.mem_append.1 hk with h1 | h1
            · exact h1
            · exact absurd (List.mem_singleton.1 h1) hkk
          obtain ⟨x, h1, h2, h3⟩ := h.i1 k hK
          exact ⟨x, hmem x h1 (by rw [h2]; exact hkk), h2, h3⟩
      · rw [List.mem_append, not_or] at hxk
        rcases hback x hx1 with h1 | h1
        · rw [h1, tk] at hxk
          exact absurd (List.mem_singleton.2 rfl) hxk.2
        · exact h.i2 x h1 hxk.1
      · rw [keysB_set hkl hx]; exact h.i3 k hk
    · simp only [if_neg hb, Bool.false_eq_true, if_false]
      exact h
theorem invA_all {W : Nat} {great : Bool} {R : List Row} (hR : GoodB W R) : ∀ L : List Row, (∀ r ∈ L, r.length = W + 1 ∧ ∀ x ∈ r, In64 x) → ∀ R1 K, InvA W great R R1 K → InvA W great R (L.foldl (stepA W great) (R1, K)).1 (L.foldl (stepA W great) (R1, K)).2
  | [], _, R1, K, h => h
  | r :: L, hL, R1, K, h => by
    rw [List.foldl_cons]
    have h1 := h.step hR (hL r (List.mem_cons_self ..)).1 (hL r (List.mem_cons_self ..)).2
    exact invA_all hR L (fun q hq => hL q (List.mem_cons_of_mem _ hq)) _ _ h1
theorem page_perm {W : Nat} {great : Bool} : ∀ (L : List Row), (∀ r ∈ L, r.length = W + 1 ∧ ∀ x ∈ r, In64 x) → ∀ (Q R1 K : List Row), GoodB W R1 → Q.Perm R1 → (L.foldl (pageS W great) Q).Perm (L.foldl (stepA W great) (R1, K)).1
  | [], _, Q, R1, K, _, h => h
  | r :: L, hL, Q, R1, K, hg, h => by
    rw [List.foldl_cons, List.foldl_cons]
    obtain ⟨hr, hi⟩ := hL r (List.mem_cons_self ..)
    have hs : stepA W great (R1, K) r = ((putB W great R1 (r.take W) (r.getD W 0)).1, if (putB W great R1 (r.take W) (r.getD W 0)).2 then K ++ [r.take W] else K) := by unfold stepA; rw [if_pos hr]
    have hkl : (r.take W).length = W := by rw [List.length_take, hr]; omega
    have hki : ∀ x ∈ r.take W, In64 x := fun x hx => hi x (List.mem_of_mem_take hx)
    rw [hs]
    have hp := (perm_put (great := great) (key := r.take W) (cost := r.getD W 0) hg h).1
    have hg2 : GoodB W (putB W great R1 (r.take W) (r.getD W 0)).1 :=
      (putL_good (great := great) hg hkl hki (In64.getD hi W)).perm ((perm_put hg (List.Perm.refl R1)).1.symm)
    exact page_perm L (fun q hq => hL q (List.mem_cons_of_mem _ hq)) _ _ _ hg2 hp
theorem allA_good {W : Nat} {great : Bool} {R L : List Row} (hR : GoodB W R) (hL : ∀ r ∈ L, r.length = W + 1 ∧ ∀ x ∈ r, In64 x) : GoodB W (allA W great R L).1 := (invA_all hR L hL R [] (InvA.start hR)).good
theorem pageAll_perm {W : Nat} {great : Bool} {Q R L : List Row} (hR : GoodB W R) (p : Q.Perm R) (hL : ∀ r ∈ L, r.length = W + 1 ∧ ∀ x ∈ r, In64 x) : (pageAll W great Q L).Perm (allA W great R L).1 := page_perm L hL Q R [] hR p
/-- Is a row another one than the one that was there? -/
def isNew (W : Nat) (was : List Row) (r : Row) : Bool := decide (getB W was (r.take W) ≠ some (r.getD W 0))
theorem news_page {W : Nat} {great : Bool} {Q R L : List Row} (hR : GoodB W R) (p : Q.Perm R) (hL : ∀ r ∈ L, r.length = W + 1 ∧ ∀ x ∈ r, In64 x) : norm (W + 1) ((pageAll W great Q L).filter (isNew W Q)) = norm (W + 1) (newsA W great R L) := by
  have I : InvA W great R (allA W great R L).1 (allA W great R L).2 := invA_all (great := great) hR L hL R [] (InvA.start hR)
  have P := pageAll_perm (great := great) hR p hL
  refine SS.ext (SS_norm _ _) (SS_norm _ _) fun r => ?_
  rw [mem_norm, mem_norm]
  refine and_congr_left fun hrl => ?_
  rw [List.mem_filter]
  unfold newsA isNew
  rw [List.mem_map, P.mem_iff]
  change r ∈ (allA W great R L).1 ∧ _ ↔ _
  constructor
  · rintro ⟨h1, h2⟩
    have h2 : getB W Q (r.take W) ≠ some (r.getD W 0) := by simpa using h2
    rw [perm_get hR p] at h2
    have hK : r.take W ∈ (allA W great R L).2 := Classical.byContradiction fun hn => h2 (getB_mem hR (I.i2 r h1 hn))
    refine ⟨r.take W, hK, ?_⟩
    rw [getB_mem I.good h1]
    exact row_split hrl
  · rintro ⟨k, hk, rfl⟩
    obtain ⟨x, h1, h2, h3⟩ := I.i1 k hk
    have hg : getB W (allA W great R L).1 k = some (x.getD W 0) := by rw [← h2]; exact getB_mem I.good h1
    rw [hg]
    have hxl := (I.good.row x h1).1
    have hx : k ++ [(some (x.getD W 0)).getD 0] = x := by rw [← h2]; exact row_split hxl
    rw [hx]
    refine ⟨h1, ?_⟩
    have : getB W Q (x.take W) ≠ some (x.getD W 0) := by
      rw [perm_get hR p, h2]
      intro e
      have := h3 _ e
      rw [betterB_irrefl] at this
      cases this
    simpa using this
end Go.Proofs.Ytalbgdbphdhhaaa.Sg
