/- Plain lists: where rows with a beginning stand among rows in order. -/
import Derived.Test.YtmgoefhihljggaaSgP
import Derived.Test.YtmgoefhihljggaaSgA
namespace Go.Proofs.Ytmgoefhihljggaa.Sg
set_option linter.unusedVariables false
set_option linter.unusedSimpArgs false

theorem cmpP_rng : ∀ a p : Row, -1 ≤ cmpP a p ∧ cmpP a p ≤ 1
  | a, [] => by simp [cmpP]
  | [], _ :: _ => by simp [cmpP]
  | x :: xs, y :: ys => by
    have := cmpP_rng xs ys
    rw [cmpP]
    split
    · omega
    · split <;> omega
theorem cmpP_mono : ∀ p a b : Row, rowCmp a b < 0 → p.length ≤ a.length → p.length ≤ b.length → cmpP a p ≤ cmpP b p
  | [], a, b, _, _, _ => by simp [cmpP]
  | z :: p, [], b, _, h, _ => by simp at h
  | z :: p, _, [], _, _, h => by simp at h
  | z :: p, x :: a, y :: b, h, ha, hb => by
    have h1 := cmpP_rng a p
    have h2 := cmpP_rng b p
    rw [rowCmp] at h
    rw [cmpP, cmpP]
    by_cases c1 : x < y
    · by_cases d1 : x < z
      · rw [if_pos d1]
        by_cases d2 : y < z
        · rw [if_pos d2]; omega
        · by_cases d3 : z < y
          · rw [if_neg d2, if_pos d3]; omega
          · rw [if_neg d2, if_neg d3]; omega
      · by_cases d2 : z < x
        · rw [if_neg d1, if_pos d2, if_neg (by omega), if_pos (by omega)]; omega
        · rw [if_neg d1, if_neg d2, if_neg (by omega), if_pos (by omega)]; omega
    · rw [if_neg c1] at h
      by_cases c2 : y < x
      · rw [if_pos c2] at h; omega
      · rw [if_neg c2] at h
        have ih := cmpP_mono p a b h (by simpa using ha) (by simpa using hb)
        have e : x = y := by omega
        subst e
        by_cases d1 : x < z
        · rw [if_pos d1, if_pos d1]; omega
        · by_cases d2 : z < x
          · rw [if_neg d1, if_pos d2, if_neg d1, if_pos d2]; omega
          · rw [if_neg d1, if_neg d2, if_neg d1, if_neg d2]; exact ih
/-- How many rows stand ahead of all that begin so, and how many behind none of these. -/
def lo (rs : List Row) (p : Row) : Nat := (rs.filter fun r => decide (cmpP r p < 0)).length
def hi (rs : List Row) (p : Row) : Nat := (rs.filter fun r => decide (cmpP r p ≤ 0)).length
theorem lo_le (rs : List Row) (p : Row) : lo rs p ≤ rs.length := List.length_filter_le _ _
theorem hi_le (rs : List Row) (p : Row) : hi rs p ≤ rs.length := List.length_filter_le _ _
/-- A count of what holds at the beginning and no more: what holds is just ahead of it. -/
theorem count_mono {α : Type} (f : α → Bool) : ∀ (l : List α), (∀ i j (hi : i < j) (hj : j < l.length), f l[j] = true → f (l[i]'(by omega)) = true) → ∀ i (h : i < l.length), (f l[i] = true ↔ i < (l.filter f).length)
  | [], _, i, h => by simp at h
  | x :: l, hm, i, h => by
    have ih := count_mono f l (fun i j hi hj hf => by simpa using hm (i + 1) (j + 1) (by omega) (by simpa using hj) (by simpa using hf))
    by_cases hx : f x = true
    · rw [List.filter_cons_of_pos hx]
      cases i with
      | zero => simp [hx]
      | succ i => have := ih i (by simpa using h); simpa using this
    · rw [List.filter_cons_of_neg hx]
      have hno : ∀ j (hj : j < l.length), f l[j] = false := fun j hj => by
        cases e : f l[j] with
        | false => rfl
        | true => exact absurd (by simpa using hm 0 (j + 1) (by omega) (by simpa using hj) (by simpa using e)) hx
      have hnil : l.filter f = [] := List.filter_eq_nil_iff.2 (fun a ha => by
        obtain ⟨j, hj, rfl⟩ := List.mem_iff_getElem.1 ha
        simp [hno j hj])
      rw [hnil]
      cases i with
      | zero => simp [hx]
      | succ i => simp [hno i (by simpa using h)]
theorem cmpP_at_mono {n : Nat} {rs : List Row} {p : Row} (hs : SS rs) (hn : ∀ r ∈ rs, r.length = n) (hp : p.length ≤ n) {i j : Nat} (h : i < j) (hj : j < rs.length) : cmpP (rs[i]'(by omega)) p ≤ cmpP rs[j] p := by
  have h1 := List.pairwise_iff_getElem.1 hs i j (by omega) hj h
  exact cmpP_mono p _ _ h1 (by rw [hn _ (List.getElem_mem _)]; exact hp) (by rw [hn _ (List.getElem_mem _)]; exact hp)
theorem lt_lo {n : Nat} {rs : List Row} {p : Row} (hs : SS rs) (hn : ∀ r ∈ rs, r.length = n) (hp : p.length ≤ n) (i : Nat) (h : i < rs.length) : cmpP rs[i] p < 0 ↔ i < lo rs p := by
  have := count_mono (fun r => decide (cmpP r p < 0)) rs (fun i j hij hj hf => by
    have := cmpP_at_mono hs hn hp hij hj
    simp at hf ⊢; omega) i h
  simpa [lo] using this
theorem lt_hi {n : Nat} {rs : List Row} {p : Row} (hs : SS rs) (hn : ∀ r ∈ rs, r.length = n) (hp : p.length ≤ n) (i : Nat) (h : i < rs.length) : cmpP rs[i] p ≤ 0 ↔ i < hi rs p := by
  have := count_mono (fun r => decide (cmpP r p ≤ 0)) rs (fun i j hij hj hf => by
    have := cmpP_at_mono hs hn hp hij hj
    simp at hf ⊢; omega) i h
  simpa [hi] using this
theorem lo_le_hi (rs : List Row) (p : Row) : lo rs p ≤ hi rs p := by
  unfold lo hi
  induction rs with
  | nil => simp
  | cons r rs ih =>
    by_cases h : cmpP r p < 0
    · rw [List.filter_cons_of_pos (by simpa using h), List.filter_cons_of_pos (by simp; omega)]
      simpa using ih
    · rw [List.filter_cons_of_neg (by simpa using h)]
      by_cases h2 : cmpP r p ≤ 0
      · rw [List.filter_cons_of_pos (by simpa using h2)]; simp; omega
      · rw [List.filter_cons_of_neg (by simpa using h2)]; exact ih
def eqs (rs : List Row) (p : Row) : Nat := (rs.filter fun r => decide (cmpP r p = 0)).length
theorem hi_eq (rs : List Row) (p : Row) : hi rs p = lo rs p + eqs rs p := by
  unfold lo hi eqs
  induction rs with
  | nil => rfl
  | cons r rs ih =>
    by_cases h : cmpP r p < 0
    · rw [List.filter_cons_of_pos (by simp; omega), List.filter_cons_of_pos (by simpa using h), List.filter_cons_of_neg (by simp; omega)]
      simp; omega
    · by_cases h2 : cmpP r p = 0
      · rw [List.filter_cons_of_pos (by simp; omega), List.filter_cons_of_neg (by simpa using h), List.filter_cons_of_pos (by simpa using h2)]
        simp; omega
      · rw [List.filter_cons_of_neg (by simp; omega), List.filter_cons_of_neg (by simpa using h), List.filter_cons_of_neg (by simpa using h2)]
        exact ih
theorem cmpP_zero : ∀ a p : Row, a.length = p.length → (cmpP a p = 0 ↔ a = p)
  | [], [], _ => by simp [cmpP]
  | [], _ :: _, h => by simp at h
  | _ :: _, [], h => by simp at h
  | x :: a, y :: p, h => by
    have ih := cmpP_zero a p (by simpa using h)
    rw [cmpP, List.cons.injEq]
    by_cases h1 : x < y
    · rw [if_pos h1]; constructor <;> intro h <;> omega
    · by_cases h2 : y < x
      · rw [if_neg h1, if_pos h2]; constructor <;> intro h <;> omega
      · rw [if_neg h1, if_neg h2, ih]; exact ⟨fun h => ⟨by omega, h⟩, fun h => h.2⟩
theorem lo_lt_hi {rs : List Row} {p : Row} (hn : ∀ r ∈ rs, r.length = p.length) : lo rs p < hi rs p ↔ p ∈ rs := by
  rw [hi_eq]
  have : 0 < eqs rs p ↔ p ∈ rs := by
    unfold eqs
    rw [List.length_pos_iff_exists_mem]
    constructor
    · rintro ⟨r, hr⟩
      rw [List.mem_filter, decide_eq_true_eq] at hr
      have := (cmpP_zero r p (hn r hr.1)).1 hr.2
      rw [← this]; exact hr.1
    · intro h
      exact ⟨p, List.mem_filter.2 ⟨h, by rw [decide_eq_true_eq]; exact (cmpP_zero p p rfl).2 rfl⟩⟩
  rw [← this]
  omega
/-- Where a search ends. -/
def Found (p : Nat → Bool) (n r : Nat) : Prop := r ≤ n ∧ (0 < r → p (r - 1) = false) ∧ (r < n → p r = true)
theorem found_lo {n : Nat} {rs : List Row} {p : Row} (hs : SS rs) (hn : ∀ r ∈ rs, r.length = n) (hp : p.length ≤ n) {r : Nat} (h : Found (fun i => decide (0 ≤ cmpP (rs.getD i []) p)) rs.length r) : r = lo rs p := by
  obtain ⟨h1, h2, h3⟩ := h
  have hl := lo_le rs p
  have g : ∀ i (h : i < rs.length), rs.getD i [] = rs[i] := fun i h => by simp [List.getD_eq_getElem?_getD, h]
  by_cases a : r < lo rs p
  · have := h3 (by omega)
    dsimp only at this
    rw [g r (by omega), decide_eq_true_eq] at this
    have := (lt_lo hs hn hp r (by omega)).2 a
    omega
  · by_cases b : lo rs p < r
    · have := h2 (by omega)
      dsimp only at this
      rw [g _ (by omega), decide_eq_false_iff_not] at this
      have := (lt_lo hs hn hp (r - 1) (by omega)).1 (by omega)
      omega
    · omega
theorem found_hi {n : Nat} {rs : List Row} {p : Row} (hs : SS rs) (hn : ∀ r ∈ rs, r.length = n) (hp : p.length ≤ n) {r : Nat} (h : Found (fun i => decide (0 < cmpP (rs.getD (lo rs p + i) []) p)) (rs.length - lo rs p) r) : r = hi rs p - lo rs p := by
  obtain ⟨h1, h2, h3⟩ := h
  have hl := lo_le rs p
  have hh := hi_le rs p
  have hlh := lo_le_hi rs p
  have g : ∀ i (h : i < rs.length), rs.getD i [] = rs[i] := fun i h => by simp [List.getD_eq_getElem?_getD, h]
  by_cases a : lo rs p + r < hi rs p
  · have := h3 (by omega)
    dsimp only at this
    rw [g _ (by omega), decide_eq_true_eq] at this
    have := (lt_hi hs hn hp (lo rs p + r) (by omega)).2 a
    omega
  · by_cases b : hi rs p < lo rs p + r
    · have := h2 (by omega)
      dsimp only at this
      rw [g _ (by omega), decide_eq_false_iff_not] at this
      have := (lt_hi hs hn hp (lo rs p + (r - 1)) (by omega)).1 (by omega)
      omega
    · omega
end Go.Proofs.Ytmgoefhihljggaa.Sg
