/- Best: what is kept of rows put in one after the other (plain). -/
import Derived.Test.YtalbgdbphdhhaaaSgBe
import Derived.Test.YtalbgdbphdhhaaaSgRn
namespace Go.Proofs.Ytalbgdbphdhhaaa.Sg
open Go.RowKit Go.Shelf
set_option linter.unusedVariables false
set_option linter.unusedSimpArgs false

def stepB (W : Nat) (great : Bool) (rows : List Row) (r : Row) : List Row := if r.length = W + 1 then (putB W great rows (r.take W) (r.getD W 0)).1 else rows
def allB (W : Nat) (great : Bool) (L : List Row) : List Row := L.foldl (stepB W great) []
theorem allB_snoc (W : Nat) (great : Bool) (L : List Row) (r : Row) : allB W great (L ++ [r]) = stepB W great (allB W great L) r := by simp [allB]
def bestOf (W : Nat) (great : Bool) (L : List Row) (x : Row) : Prop := x ∈ L ∧ x.length = W + 1 ∧ ∀ y ∈ L, y.length = W + 1 → y.take W = x.take W → betterB great (y.getD W 0) (x.getD W 0) = false
structure Kept (W : Nat) (great : Bool) (L rows : List Row) : Prop where
  good : GoodB W rows
  mem : ∀ x, x ∈ rows ↔ bestOf W great L x
  keys : ∀ y ∈ L, y.length = W + 1 → y.take W ∈ keysB W rows
theorem row_split {W : Nat} {r : Row} (h : r.length = W + 1) : r.take W ++ [r.getD W 0] = r := by
  have e : r.drop W = [r.getD W 0] := by
    rw [List.drop_eq_getElem_cons (by omega), List.drop_eq_nil_of_le (by omega), List.getD_eq_getElem?_getD, List.getElem?_eq_getElem (by omega)]; rfl
  rw [← e, List.take_append_drop]
theorem betterB_irrefl (great : Bool) (x : Int) : betterB great x x = false := by cases great <;> simp [betterB]
theorem betterB_tr {great : Bool} {x y z : Int} (h : betterB great x y = true) (h2 : betterB great z y = false) : betterB great z x = false := by
  cases great <;> simp [betterB] at * <;> omega
theorem betterB_eq {great : Bool} {x y : Int} (h : betterB great x y = false) (h2 : betterB great y x = false) : x = y := by
  cases great <;> simp [betterB] at * <;> omega
theorem GoodB.uniq {W : Nat} {rows : List Row} (h : GoodB W rows) {i j : Nat} (hi : i < rows.length) (hj : j < rows.length) (e : rows[i].take W = rows[j].take W) : i = j := by
  have hn := h.nod
  unfold keysB at hn
  rw [List.Nodup, List.pairwise_iff_getElem] at hn
  rcases Nat.lt_trichotomy i j with q | q | q
  · exact absurd (by rw [List.getElem_map, List.getElem_map]; exact e) (hn i j (by simpa using hi) (by simpa using hj) q)
  · exact q
  · exact absurd (by rw [List.getElem_map, List.getElem_map]; exact e.symm) (hn j i (by simpa using hj) (by simpa using hi) q)
theorem mem_keysB {W : Nat} {rows : List Row} {x : Row} (h : x ∈ rows) : x.take W ∈ keysB W rows := List.mem_map.2 ⟨x, h, rfl⟩
theorem kept_step {W : Nat} {great : Bool} {L rows : List Row} (h : Kept W great L rows) (r : Row) (hr : ∀ x ∈ r, In64 x) : Kept W great (L ++ [r]) (stepB W great rows r) := by
  by_cases hl : r.length ≠ W + 1
  · have e : stepB W great rows r = rows := by unfold stepB; rw [if_neg hl]
    rw [e]
    refine ⟨h.good, fun x => (h.mem x).trans ⟨fun q => ⟨List.mem_append_left _ q.1, q.2.1, fun y hy => ?_⟩, fun q => ⟨?_, q.2.1, fun y hy => q.2.2 y (List.mem_append_left _ hy)⟩⟩, fun y hy hy2 => ?_⟩
    · rcases List.mem_append.1 hy with hy | hy
      · exact q.2.2 y hy
      · rw [List.mem_singleton.1 hy]; exact fun q2 => absurd q2 hl
    · rcases List.mem_append.1 q.1 with q2 | q2
      · exact q2
      · rw [List.mem_singleton.1 q2] at q; exact absurd q.2.1 hl
    · rcases List.mem_append.1 hy with hy | hy
      · exact h.keys y hy hy2
      · rw [List.mem_singleton.1 hy] at hy2; exact absurd hy2 hl
  replace hl : r.length = W + 1 := by omega
  have hkl : (r.take W).length = W := by rw [List.length_take, hl]; omega
  have hki : ∀ x ∈ r.take W, In64 x := fun x hx => hr x (List.mem_of_mem_take hx)
  have hci : In64 (r.getD W 0) := by
    rw [List.getD_eq_getElem?_getD, List.getElem?_eq_getElem (by omega)]
    exact hr _ (List.getElem_mem _)
  have hsp := row_split hl
  have hL : ∀ {y : Row}, y ∈ L ++ [r] → y ∈ L ∨ y = r := fun {y} hy => by
    rcases List.mem_append.1 hy with hy | hy
    · exact .inl hy
    · exact .inr (List.mem_singleton.1 hy)
  have hLr : r ∈ L ++ [r] := List.mem_append_right _ (List.mem_singleton.2 rfl)
  unfold stepB
  rw [if_pos hl]
  unfold putB
  cases hx : idxB W rows (r.take W) with
  | none =>
    have hn := idxB_none hx
    have hg := h.good.snoc hkl hki hci hx
    simp only [hsp] at hg ⊢
    refine ⟨hg, fun x => ?_, fun y hy hy2 => ?_⟩
    · rw [List.mem_append, List.mem_singleton]
      constructor
      · rintro (q | rfl)
        · have b := (h.mem x).1 q
          refine ⟨List.mem_append_left _ b.1, b.2.1, fun y hy hy2 e => ?_⟩
          rcases hL hy with hy | rfl
          · exact b.2.2 y hy hy2 e
          · rw [e] at hn; exact absurd (mem_keysB q) hn
        · refine ⟨hLr, hl, fun y hy hy2 e => ?_⟩
          rcases hL hy with hy | rfl
          · have := h.keys y hy hy2
            rw [e] at this; exact absurd this hn
          · exact betterB_irrefl _ _
      · rintro ⟨q1, q2, q3⟩
        rcases hL q1 with q1 | rfl
        · exact .inl ((h.mem x).2 ⟨q1, q2, fun y hy => q3 y (List.mem_append_left _ hy)⟩)
        · exact .inr rfl
    · unfold keysB
      rw [List.map_append, List.mem_append]
      rcases hL hy with hy | rfl
      · exact .inl (h.keys y hy hy2)
      · exact .inr (by simp)
  | some i =>
    obtain ⟨hi, hk⟩ := idxB_some hx
    have hc : costB W rows i = rows[i].getD W 0 := by unfold costB; simp [List.getD_eq_getElem?_getD, hi]
    have hold := (h.mem rows[i]).1 (List.getElem_mem hi)
    have huq : ∀ x ∈ rows, x.take W = r.take W → x = rows[i] := fun x hxm e => by
      obtain ⟨j, hj, rfl⟩ := List.mem_iff_getElem.1 hxm
      have := h.good.uniq hj hi (by rw [e, hk])
      subst this; rfl
    simp only [hc]
    cases hb : betterB great (r.getD W 0) (rows[i].getD W 0) with
    | true =>
      have hg := h.good.set hkl hki hci hx
      have hks := keysB_set (cost := r.getD W 0) hkl hx
      simp only [hsp, if_true] at hg hks ⊢
      have hms : ∀ x, x ∈ rows.set i r ↔ x = r ∨ (x ∈ rows ∧ x.take W ≠ r.take W) := fun x => by
        constructor
        · intro q
          obtain ⟨j, hj, rfl⟩ := List.mem_iff_getElem.1 q
          have hj2 : j < rows.length := by simpa using hj
          by_cases q2 : i = j
          · subst q2; left; simp
          · right
            rw [List.getElem_set_ne q2]
            exact ⟨List.getElem_mem hj2, fun e => q2 (h.good.uniq hi hj2 (by rw [hk, e]))⟩
        · rintro (rfl | ⟨q, q2⟩)
          · exact List.mem_set (by simpa using hi) _
          · obtain ⟨j, hj, rfl⟩ := List.mem_iff_getElem.1 q
            have q3 : i ≠ j := fun e => by subst e; exact q2 hk
            have := List.getElem_mem (l := rows.set i r) (n := j) (by simpa using hj)
            rwa [List.getElem_set_ne q3] at this
      refine ⟨hg, fun x => (hms x).trans ⟨?_, ?_⟩, fun y hy hy2 => ?_⟩
      · rintro (rfl | ⟨q, q2⟩)
        · refine ⟨hLr, hl, fun y hy hy2 e => ?_⟩
          rcases hL hy with hy | rfl
          · exact betterB_tr hb (hold.2.2 y hy hy2 (by rw [e, hk]))
          · exact betterB_irrefl _ _
        · have b := (h.mem x).1 q
          refine ⟨List.mem_append_left _ b.1, b.2.1, fun y hy hy2 e => ?_⟩
          rcases hL hy with hy | rfl
          · exact b.2.2 y hy hy2 e
          · exact absurd e.symm q2
      · rintro ⟨q1, q2, q3⟩
        rcases hL q1 with q1 | rfl
        · have b : x ∈ rows := (h.mem x).2 ⟨q1, q2, fun y hy => q3 y (List.mem_append_left _ hy)⟩
          refine .inr ⟨b, fun e => ?_⟩
          have e2 := huq x b e
          have := q3 r hLr hl e.symm
          rw [e2, hb] at this; cases this
        · exact .inl rfl
      · rw [hks]
        rcases hL hy with hy | rfl
        · exact h.keys y hy hy2
        · rw [← hk]; exact mem_keysB (List.getElem_mem hi)
    | false =>
      simp only [Bool.false_eq_true, if_false]
      refine ⟨h.good, fun x => (h.mem x).trans ⟨fun b => ?_, ?_⟩, fun y hy hy2 => ?_⟩
      · refine ⟨List.mem_append_left _ b.1, b.2.1, fun y hy hy2 e => ?_⟩
        rcases hL hy with hy | rfl
        · exact b.2.2 y hy hy2 e
        · rw [huq x ((h.mem x).2 b) e.symm]; exact hb
      · rintro ⟨q1, q2, q3⟩
        rcases hL q1 with q1 | rfl
        · exact ⟨q1, q2, fun y hy => q3 y (List.mem_append_left _ hy)⟩
        · have e1 := q3 rows[i] (List.mem_append_left _ hold.1) hold.2.1 hk
          have e2 := betterB_eq hb e1
          have e3 : rows[i] = x := by rw [← row_split hold.2.1, hk, ← e2, hsp]
          rw [← e3]; exact hold
      · rcases hL hy with hy | rfl
        · exact h.keys y hy hy2
        · rw [← hk]; exact mem_keysB (List.getElem_mem hi)
theorem kept_nil (W : Nat) (great : Bool) : Kept W great [] [] := ⟨⟨fun r hr => by simp at hr, List.nodup_nil⟩, fun x => by simp [bestOf], fun y hy => by simp at hy⟩
theorem kept_all (W : Nat) (great : Bool) (L : List Row) (hL : ∀ r ∈ L, ∀ x ∈ r, In64 x) : Kept W great L (allB W great L) := by
  have key : ∀ k, Kept W great (L.take k) (allB W great (L.take k)) := fun k => by
    induction k with
    | zero => rw [List.take_zero]; exact kept_nil W great
    | succ k ih =>
      by_cases hk : k < L.length
      · rw [List.take_succ_eq_append_getElem hk, allB_snoc]
        exact kept_step ih _ (hL _ (List.getElem_mem hk))
      · rw [List.take_of_length_le (by omega)]
        rwa [List.take_of_length_le (by omega)] at ih
  have := key L.length
  rwa [List.take_length] at this
theorem GoodB.nodup {W : Nat} {rows : List Row} (h : GoodB W rows) : rows.Nodup := by
  have := h.nod
  unfold keysB at this
  exact List.Pairwise.of_map _ (fun a b hab e => hab (by rw [e])) this
theorem keptB_norm {W : Nat} {great : Bool} {L L2 rows rows2 : List Row} (h : Kept W great L rows) (h2 : Kept W great L2 rows2) (hm : ∀ x, x ∈ L ↔ x ∈ L2) : norm (W + 1) rows = norm (W + 1) rows2 ∧ rows.length = rows2.length := by
  have e : ∀ x, x ∈ rows ↔ x ∈ rows2 := fun x => by
    rw [h.mem, h2.mem]
    unfold bestOf
    simp only [hm]
  refine ⟨norm_eq (SS_norm _ _) fun x => by rw [mem_norm, e], ?_⟩
  exact ((List.perm_ext_iff_of_nodup h.good.nodup h2.good.nodup).2 e).length_eq
theorem mem_turnK (rs : List Row) (m : Nat) (x : Row) : x ∈ rs ↔ x ∈ turnK rs m rs.length := by
  unfold turnK
  rw [List.mem_map]
  constructor
  · intro hx
    obtain ⟨j, hj, rfl⟩ := List.mem_iff_getElem.1 hx
    have hn : max rs.length 1 = rs.length := by omega
    refine ⟨(j + (rs.length - m % rs.length)) % rs.length, List.mem_range.2 (Nat.mod_lt _ (by omega)), ?_⟩
    have e : ((j + (rs.length - m % rs.length)) % rs.length + m) % rs.length = j := by
      have h1 := Nat.mod_lt m (show 0 < rs.length by omega)
      rw [Nat.mod_add_mod]
      have h2 : j + (rs.length - m % rs.length) + m = j + rs.length * (m / rs.length + 1) := by
        have := Nat.div_add_mod m rs.length
        rw [Nat.mul_add, Nat.mul_one]; omega
      rw [h2, Nat.add_mul_mod_self_left, Nat.mod_eq_of_lt hj]
    rw [hn, e, List.getD_eq_getElem?_getD, List.getElem?_eq_getElem hj]; rfl
  · rintro ⟨i, hi, rfl⟩
    have h3 := List.mem_range.1 hi
    have h4 : (i + m) % max rs.length 1 < rs.length := by
      have := Nat.mod_lt (i + m) (show 0 < max rs.length 1 by omega)
      omega
    rw [List.getD_eq_getElem?_getD, List.getElem?_eq_getElem h4]
    exact List.getElem_mem h4
theorem allB_len (W : Nat) (great : Bool) (L : List Row) : (allB W great L).length ≤ L.length := by
  have key : ∀ (M : List Row) (rows : List Row), (M.foldl (stepB W great) rows).length ≤ rows.length + M.length := fun M => by
    induction M with
    | nil => intro rows; simp
    | cons r M ih =>
      intro rows
      rw [List.foldl_cons]
      refine Nat.le_trans (ih _) ?_
      have : (stepB W great rows r).length ≤ rows.length + 1 := by
        unfold stepB putB
        split
        · split
          · simp
          · split <;> simp
        · simp
      rw [List.length_cons]; omega
  have := key L []
  simpa [allB] using this
end Go.Proofs.Ytalbgdbphdhhaaa.Sg
