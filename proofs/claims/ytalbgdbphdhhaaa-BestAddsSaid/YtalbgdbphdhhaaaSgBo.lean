/- Best.Add: what is there already brings nothing new (plain). -/
import Derived.Test.YtalbgdbphdhhaaaSgBn
namespace Go.Proofs.Ytalbgdbphdhhaaa.Sg
open Go.RowKit Go.Shelf
set_option linter.unusedVariables false
set_option linter.unusedSimpArgs false

theorem allA_allB (W : Nat) (great : Bool) (L : List Row) : (allA W great [] L).1 = allB W great L := allA_fst W great L ([], [])
theorem key_idx {W : Nat} {rows : List Row} {key : Row} (h : key ∈ keysB W rows) : ∃ i, idxB W rows key = some i := by
  cases hx : idxB W rows key with
  | none => exact absurd h (idxB_none hx)
  | some i => exact ⟨i, rfl⟩
theorem costB_at {W : Nat} {rows : List Row} {i : Nat} (hi : i < rows.length) : costB W rows i = rows[i].getD W 0 := by
  unfold costB
  rw [List.getD_eq_getElem?_getD (l := rows), List.getElem?_eq_getElem hi]; rfl
theorem putB_same {W : Nat} {great : Bool} {S R : List Row} (h : Kept W great S R) {y : Row} (hy : y ∈ S) (hl : y.length = W + 1) : putB W great R (y.take W) (y.getD W 0) = (R, false) := by
  obtain ⟨i, hx⟩ := key_idx (h.keys y hy hl)
  obtain ⟨hi, hk⟩ := idxB_some hx
  have hb := ((h.mem _).1 (List.getElem_mem hi)).2.2 y hy hl hk.symm
  unfold putB
  rw [hx]
  simp only
  rw [costB_at hi, if_neg (by rw [hb]; simp)]
theorem allA_same {W : Nat} {great : Bool} {S R : List Row} (h : Kept W great S R) : ∀ L : List Row, (∀ y ∈ L, y.length = W + 1 → y ∈ S) → ∀ K, L.foldl (stepA W great) (R, K) = (R, K) := by
  intro L
  induction L with
  | nil => intro _ K; rfl
  | cons y L ih =>
    intro hL K
    rw [List.foldl_cons]
    have e : stepA W great (R, K) y = (R, K) := by
      unfold stepA
      by_cases hl : y.length = W + 1
      · rw [if_pos hl]
        simp only
        rw [putB_same h (hL y (by simp) hl) hl]
        simp
      · rw [if_neg hl]
    rw [e]
    exact ih (fun z hz => hL z (by simp [hz])) K
theorem putX_worse {W : Nat} {great : Bool} {S R : List Row} (h : Kept W great S R) {r : Row} (hr : r ∈ R) {c : Int} (hc : betterB great (r.getD W 0) c = true) : putX W great R (r.take W) c = (R, false) := by
  obtain ⟨hl, _⟩ := h.good.row r hr
  have hkl : (r.take W).length = W := by rw [List.length_take]; omega
  obtain ⟨i, hx⟩ := key_idx (mem_keysB (W := W) hr)
  obtain ⟨hi, hk⟩ := idxB_some hx
  obtain ⟨j, hj, rfl⟩ := List.mem_iff_getElem.1 hr
  have hij : i = j := h.good.uniq hi hj hk
  subst hij
  unfold putX putB
  rw [if_pos hkl, hx]
  simp only
  rw [costB_at hi, if_neg]
  cases great <;> simp [betterB] at * <;> omega
/-- The keys that are told as new are just those that are there. -/
theorem keysA {W : Nat} {great : Bool} : ∀ (L : List Row) (st : List Row × List Row), (∀ k, k ∈ st.2 ↔ k ∈ keysB W st.1) → ∀ k, k ∈ (L.foldl (stepA W great) st).2 ↔ k ∈ keysB W (L.foldl (stepA W great) st).1 := by
  intro L
  induction L with
  | nil => intro st h; exact h
  | cons y L ih =>
    intro st h
    rw [List.foldl_cons]
    refine ih _ fun k => ?_
    unfold stepA
    by_cases hl : y.length = W + 1
    · rw [if_pos hl]
      have hkl : (y.take W).length = W := by rw [List.length_take]; omega
      simp only
      unfold putB
      cases hx : idxB W st.1 (y.take W) with
      | none =>
        simp only [if_true]
        rw [keysB_snoc hkl, List.mem_append, List.mem_append, h]
      | some i =>
        simp only
        obtain ⟨hi, hk⟩ := idxB_some hx
        by_cases hb : betterB great (y.getD W 0) (costB W st.1 i) = true
        · simp only [if_pos hb, if_true]
          rw [keysB_set hkl hx, List.mem_append, h]
          constructor
          · rintro (q | q)
            · exact q
            · rw [List.mem_singleton.1 q, ← hk]; exact mem_keysB (List.getElem_mem hi)
          · exact fun q => .inl q
        · simp only [if_neg hb, Bool.false_eq_true, if_false]
          exact h k
    · rw [if_neg hl]; exact h k
theorem getB_mem {W : Nat} {R : List Row} (h : GoodB W R) {r : Row} (hr : r ∈ R) : getB W R (r.take W) = some (r.getD W 0) := by
  obtain ⟨i, hx⟩ := key_idx (mem_keysB (W := W) hr)
  obtain ⟨hi, hk⟩ := idxB_some hx
  obtain ⟨j, hj, rfl⟩ := List.mem_iff_getElem.1 hr
  have hij : i = j := h.uniq hi hj hk
  subst hij
  unfold getB
  rw [hx]
  show some (costB W R i) = _
  rw [costB_at hi]
/-- All rows are news to an empty best. -/
theorem news_first {W : Nat} {great : Bool} {S : List Row} (hS : ∀ r ∈ S, ∀ x ∈ r, In64 x) : norm (W + 1) (newsA W great [] S) = norm (W + 1) (allB W great S) := by
  have hk := kept_all W great S hS
  have hkeys := keysA (W := W) (great := great) S ([], []) (fun k => by simp [keysB])
  change ∀ k, k ∈ (allA W great [] S).2 ↔ k ∈ keysB W (allA W great [] S).1 at hkeys
  refine norm_eq (SS_norm _ _) fun x => ?_
  rw [mem_norm]
  have e : x ∈ allB W great S ↔ x ∈ newsA W great [] S := by
    unfold newsA
    rw [List.mem_map, allA_allB] at *
    constructor
    · intro hx
      obtain ⟨hl, _⟩ := hk.good.row x hx
      refine ⟨x.take W, (hkeys _).2 (mem_keysB hx), ?_⟩
      rw [getB_mem hk.good hx]
      exact row_split hl
    · rintro ⟨k, hk2, rfl⟩
      obtain ⟨r, hr, rfl⟩ := List.mem_map.1 ((hkeys k).1 hk2)
      obtain ⟨hl, _⟩ := hk.good.row r hr
      rw [getB_mem hk.good hr]
      show r.take W ++ [r.getD W 0] ∈ _
      rw [row_split hl]
      exact hr
  rw [e]
theorem norm_nil (n : Nat) : norm n [] = [] := by
  have : ∀ x, x ∉ norm n [] := fun x hx => by rw [mem_norm] at hx; simp at hx
  exact List.eq_nil_iff_forall_not_mem.2 this
end Go.Proofs.Ytalbgdbphdhhaaa.Sg
