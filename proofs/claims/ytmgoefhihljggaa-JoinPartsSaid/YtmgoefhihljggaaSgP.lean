/- Plain lists: the order of rows, rows in order none twice, and how they are put in one by one. -/
import Derived.Test.YtmgoefhihljggaaSgV
namespace Go.Proofs.Ytmgoefhihljggaa.Sg
set_option linter.unusedVariables false
set_option linter.unusedSimpArgs false

/-- Two rows held against each other, as slices.Compare does. -/
def rowCmp : Row → Row → Int
  | [], [] => 0
  | [], _ :: _ => -1
  | _ :: _, [] => 1
  | x :: xs, y :: ys => if x < y then -1 else if y < x then 1 else rowCmp xs ys
theorem rowCmp_drop (a b : Row) (k : Nat) (ha : k < a.length) (hb : k < b.length) :
    rowCmp (a.drop k) (b.drop k) = if a.getD k 0 < b.getD k 0 then -1 else if b.getD k 0 < a.getD k 0 then 1 else rowCmp (a.drop (k + 1)) (b.drop (k + 1)) := by
  rw [List.drop_eq_getElem_cons ha, List.drop_eq_getElem_cons hb]
  simp only [rowCmp, List.getD_eq_getElem?_getD, List.getElem?_eq_getElem ha, List.getElem?_eq_getElem hb, Option.getD_some]
theorem rowCmp_end1 (a b : Row) (k : Nat) (ha : k < a.length) (hb : b.length ≤ k) : rowCmp (a.drop k) (b.drop k) = 1 := by
  rw [List.drop_eq_getElem_cons ha, List.drop_of_length_le hb, rowCmp]
theorem rowCmp_end2 (a b : Row) (k : Nat) (ha : a.length ≤ k) (hb : k < b.length) : rowCmp (a.drop k) (b.drop k) = -1 := by
  rw [List.drop_eq_getElem_cons hb, List.drop_of_length_le ha, rowCmp]
theorem rowCmp_end3 (a b : Row) (k : Nat) (ha : a.length ≤ k) (hb : b.length ≤ k) : rowCmp (a.drop k) (b.drop k) = 0 := by
  rw [List.drop_of_length_le hb, List.drop_of_length_le ha, rowCmp]
theorem getD_of_lt {a : Row} {k : Nat} (h : k < a.length) : a[k] = a.getD k 0 := by simp only [List.getD_eq_getElem?_getD, List.getElem?_eq_getElem h, Option.getD_some]


theorem rowCmp_rng : ∀ a b : Row, -1 ≤ rowCmp a b ∧ rowCmp a b ≤ 1
  | [], [] => by simp [rowCmp]
  | [], _ :: _ => by simp [rowCmp]
  | _ :: _, [] => by simp [rowCmp]
  | x :: xs, y :: ys => by
    have := rowCmp_rng xs ys
    rw [rowCmp]
    split
    · omega
    · split <;> omega
theorem rowCmp_swap : ∀ a b : Row, rowCmp b a = - rowCmp a b
  | [], [] => rfl
  | [], _ :: _ => rfl
  | _ :: _, [] => rfl
  | x :: xs, y :: ys => by
    have := rowCmp_swap xs ys
    rw [rowCmp, rowCmp]
    by_cases h1 : x < y
    · rw [if_pos h1, if_neg (by omega), if_pos h1]; rfl
    · by_cases h2 : y < x
      · rw [if_pos h2, if_neg h1, if_pos h2]
      · rw [if_neg h2, if_neg h1, if_neg h1, if_neg h2, this]
theorem rowCmp_zero : ∀ a b : Row, rowCmp a b = 0 ↔ a = b
  | [], [] => by simp [rowCmp]
  | [], _ :: _ => by simp [rowCmp]
  | _ :: _, [] => by simp [rowCmp]
  | x :: xs, y :: ys => by
    have := rowCmp_zero xs ys
    rw [rowCmp, List.cons.injEq]
    by_cases h1 : x < y
    · rw [if_pos h1]; constructor <;> intro h <;> omega
    · by_cases h2 : y < x
      · rw [if_neg h1, if_pos h2]; constructor <;> intro h <;> omega
      · rw [if_neg h1, if_neg h2, this]
        exact ⟨fun h => ⟨by omega, h⟩, fun h => h.2⟩
theorem rowCmp_self (a : Row) : rowCmp a a = 0 := (rowCmp_zero a a).2 rfl
theorem rowCmp_trans : ∀ a b c : Row, rowCmp a b ≤ 0 → rowCmp b c ≤ 0 → rowCmp a c ≤ 0 ∧ (rowCmp a c = 0 → rowCmp a b = 0 ∧ rowCmp b c = 0)
  | [], [], [], _, _ => by simp [rowCmp]
  | [], [], _ :: _, _, _ => by simp [rowCmp]
  | [], _ :: _, [], _, h => by simp [rowCmp] at h
  | [], _ :: _, _ :: _, _, _ => by simp [rowCmp]
  | _ :: _, [], _, h, _ => by simp [rowCmp] at h
  | _ :: _, _ :: _, [], _, h => by simp [rowCmp] at h
  | x :: xs, y :: ys, z :: zs, h1, h2 => by
    have ih := rowCmp_trans xs ys zs
    rw [rowCmp] at h1 h2 ⊢
    by_cases a1 : x < y
    · by_cases a2 : y < z
      · rw [if_pos (show x < z by omega)]; omega
      · by_cases a3 : z < y
        · rw [if_neg a2, if_pos a3] at h2; omega
        · rw [if_pos (show x < z by omega)]; omega
    · by_cases a4 : y < x
      · rw [if_neg a1, if_pos a4] at h1; omega
      · rw [if_neg a1, if_neg a4] at h1
        by_cases a2 : y < z
        · rw [if_pos (show x < z by omega)]; omega
        · by_cases a3 : z < y
          · rw [if_neg a2, if_pos a3] at h2; omega
          · rw [if_neg a2, if_neg a3] at h2
            obtain ⟨i1, i2⟩ := ih h1 h2
            rw [if_neg (show ¬ x < z by omega), if_neg (show ¬ z < x by omega), rowCmp, rowCmp, if_neg a1, if_neg a4, if_neg a2, if_neg a3]
            exact ⟨i1, i2⟩

/-- Ahead of: in the order of rows. -/
def rlt (a b : Row) : Prop := rowCmp a b < 0
instance (a b : Row) : Decidable (rlt a b) := by unfold rlt; infer_instance
theorem rlt_irrefl (a : Row) : ¬ rlt a a := by unfold rlt; rw [rowCmp_self]; omega
theorem rlt_trans {a b c : Row} (h1 : rlt a b) (h2 : rlt b c) : rlt a c := by
  unfold rlt at *
  obtain ⟨h, k⟩ := rowCmp_trans a b c (by omega) (by omega)
  have : rowCmp a c ≠ 0 := fun e => by have := k e; omega
  omega
theorem rlt_asymm {a b : Row} (h1 : rlt a b) : ¬ rlt b a := fun h2 => rlt_irrefl a (rlt_trans h1 h2)
theorem rlt_tri (a b : Row) : rlt a b ∨ a = b ∨ rlt b a := by
  unfold rlt
  have h := rowCmp_zero a b
  have s := rowCmp_swap a b
  by_cases e : rowCmp a b = 0
  · exact .inr (.inl (h.1 e))
  · omega
theorem rlt_of_le {a b c : Row} (h1 : ¬ rlt b a) (h2 : rlt b c) : rlt a c := by
  rcases rlt_tri a b with h | rfl | h
  · exact rlt_trans h h2
  · exact h2
  · exact absurd h h1

/-- Rows in order, none twice. -/
abbrev SS (l : List Row) : Prop := l.Pairwise rlt
theorem SS.ext : ∀ {a b : List Row}, SS a → SS b → (∀ x, x ∈ a ↔ x ∈ b) → a = b
  | [], [], _, _, _ => rfl
  | [], y :: b, _, _, h => absurd ((h y).2 (by simp)) (by simp)
  | x :: a, [], _, _, h => absurd ((h x).1 (by simp)) (by simp)
  | x :: a, y :: b, ha, hb, h => by
    replace ha := List.pairwise_cons.1 ha
    replace hb := List.pairwise_cons.1 hb
    have e : x = y := by
      rcases List.mem_cons.1 ((h x).1 (by simp)) with e | e
      · exact e
      · rcases List.mem_cons.1 ((h y).2 (by simp)) with e2 | e2
        · exact e2.symm
        · exact absurd (rlt_trans (ha.1 y e2) (hb.1 x e)) (rlt_irrefl x)
    subst e
    congr 1
    refine SS.ext ha.2 hb.2 (fun z => ⟨fun hz => ?_, fun hz => ?_⟩)
    · rcases List.mem_cons.1 ((h z).1 (List.mem_cons_of_mem _ hz)) with e | e
      · subst e; exact absurd (ha.1 z hz) (rlt_irrefl z)
      · exact e
    · rcases List.mem_cons.1 ((h z).2 (List.mem_cons_of_mem _ hz)) with e | e
      · subst e; exact absurd (hb.1 z hz) (rlt_irrefl z)
      · exact e

/-- A row put in at its place, if it isn't there. -/
def ins (r : Row) : List Row → List Row
  | [] => [r]
  | x :: l => if rlt r x then r :: x :: l else if r = x then x :: l else x :: ins r l
theorem mem_ins (r : Row) : ∀ (l : List Row) (x : Row), x ∈ ins r l ↔ x = r ∨ x ∈ l
  | [], x => by simp [ins]
  | y :: l, x => by
    have := mem_ins r l x
    rw [ins]
    split
    · simp
    · split
      · rename_i h; subst h; simp
      · simp only [List.mem_cons, this]
        constructor
        · rintro (h | h | h)
          · exact .inr (.inl h)
          · exact .inl h
          · exact .inr (.inr h)
        · rintro (h | h | h)
          · exact .inr (.inl h)
          · exact .inl h
          · exact .inr (.inr h)
theorem SS_ins (r : Row) : ∀ (l : List Row), SS l → SS (ins r l)
  | [], _ => by simp [ins]
  | y :: l, h => by
    replace h := List.pairwise_cons.1 h
    rw [ins]
    split
    · rename_i h1
      refine List.pairwise_cons.2 ⟨fun z hz => ?_, List.pairwise_cons.2 h⟩
      rcases List.mem_cons.1 hz with rfl | hz
      · exact h1
      · exact rlt_trans h1 (h.1 z hz)
    · split
      · exact List.pairwise_cons.2 h
      · rename_i h1 h2
        refine List.pairwise_cons.2 ⟨fun z hz => ?_, SS_ins r l h.2⟩
        rcases (mem_ins r l z).1 hz with rfl | hz
        · rcases rlt_tri y z with k | k | k
          · exact k
          · exact absurd k.symm h2
          · exact absurd k h1
        · exact h.1 z hz
/-- The rows of a width, in order, none twice. -/
def norm (n : Nat) (rs : List Row) : List Row := (rs.filter fun r => decide (r.length = n)).foldl (fun acc r => ins r acc) []
theorem foldl_ins (l : List Row) : ∀ acc, SS acc → SS (l.foldl (fun acc r => ins r acc) acc) ∧ ∀ x, x ∈ l.foldl (fun acc r => ins r acc) acc ↔ x ∈ acc ∨ x ∈ l := by
  induction l with
  | nil => exact fun acc h => ⟨h, fun x => by simp⟩
  | cons r l ih =>
    intro acc h
    obtain ⟨h1, h2⟩ := ih (ins r acc) (SS_ins r acc h)
    refine ⟨h1, fun x => ?_⟩
    rw [List.foldl_cons, h2, mem_ins, List.mem_cons]
    constructor
    · rintro ((h | h) | h)
      · exact .inr (.inl h)
      · exact .inl h
      · exact .inr (.inr h)
    · rintro (h | h | h)
      · exact .inl (.inr h)
      · exact .inl (.inl h)
      · exact .inr h
theorem SS_norm (n : Nat) (rs : List Row) : SS (norm n rs) := (foldl_ins _ [] List.Pairwise.nil).1
theorem mem_norm (n : Nat) (rs : List Row) (x : Row) : x ∈ norm n rs ↔ x ∈ rs ∧ x.length = n := by
  unfold norm
  rw [(foldl_ins _ [] List.Pairwise.nil).2 x]
  simp
theorem norm_eq {n : Nat} {rs l : List Row} (h : SS l) (hm : ∀ x, x ∈ l ↔ x ∈ rs ∧ x.length = n) : l = norm n rs :=
  SS.ext h (SS_norm n rs) (fun x => (hm x).trans (mem_norm n rs x).symm)
theorem SS.nodup {l : List Row} (h : SS l) : l.Nodup := h.imp (fun {a b} h e => by subst e; exact rlt_irrefl a h)
theorem ins_length (r : Row) : ∀ l : List Row, (ins r l).length ≤ l.length + 1
  | [] => by simp [ins]
  | y :: l => by
    have := ins_length r l
    rw [ins]
    split
    · simp
    · split
      · simp
      · simp; omega
theorem foldl_ins_length (l : List Row) : ∀ acc, (l.foldl (fun acc r => ins r acc) acc).length ≤ acc.length + l.length := by
  induction l with
  | nil => exact fun acc => by simp
  | cons r l ih =>
    intro acc
    have := ih (ins r acc)
    have := ins_length r acc
    simp; omega
theorem norm_length (n : Nat) (rs : List Row) : (norm n rs).length ≤ rs.length := by
  have := foldl_ins_length (rs.filter fun r => decide (r.length = n)) []
  have h2 := List.length_filter_le (fun r : Row => decide (r.length = n)) rs
  unfold norm
  simp at this
  omega
end Go.Proofs.Ytmgoefhihljggaa.Sg
