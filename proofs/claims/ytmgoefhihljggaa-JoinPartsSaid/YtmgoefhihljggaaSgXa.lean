/- Tables with open addressing, in plain lists: where a key is found, and what putting one in does. -/
import Derived.Test.YtmgoefhihljggaaSgP
namespace Go.Proofs.Ytmgoefhihljggaa.Sg
set_option linter.unusedVariables false
set_option linter.unusedSimpArgs false

abbrev Tab := List (Option (Row × List Int))
/-- Does the search for a key end at this place? -/
def stopAt (T : Tab) (key : Row) (i : Nat) : Prop := ∀ k rs, T[i]? = some (some (k, rs)) → k = key
/-- The search for a key, from a place on, ends here. -/
def Fnd (T : Tab) (h : Nat) (key : Row) (i : Nat) : Prop := ∃ d, i = (h + d) % T.length ∧ stopAt T key i ∧ ∀ e < d, ¬ stopAt T key ((h + e) % T.length)
theorem Fnd.unique {T : Tab} {h : Nat} {key : Row} {i j : Nat} (hi : Fnd T h key i) (hj : Fnd T h key j) : i = j := by
  obtain ⟨d, h1, h2, h3⟩ := hi
  obtain ⟨e, k1, k2, k3⟩ := hj
  rcases Nat.lt_trichotomy d e with h | h | h
  · exact absurd (h1 ▸ h2) (k3 d h)
  · rw [h1, k1, h]
  · exact absurd (k1 ▸ k2) (h3 e h)
theorem least_of {p : Nat → Prop} : ∀ n, p n → ∃ d, p d ∧ ∀ e < d, ¬ p e := by
  intro n
  induction n using Nat.strongRecOn with
  | ind n ih =>
    intro hn
    by_cases h : ∃ e, e < n ∧ p e
    · obtain ⟨e, he, hp⟩ := h
      exact ih e he hp
    · exact ⟨n, hn, fun e he hp => h ⟨e, he, hp⟩⟩
theorem fnd_ex {T : Tab} {j : Nat} (hj : T[j]? = some none) (h : Nat) (key : Row) : ∃ d, stopAt T key ((h + d) % T.length) ∧ ∀ e < d, ¬ stopAt T key ((h + e) % T.length) := by
  have hl : j < T.length := (List.getElem?_eq_some_iff.1 hj).1
  refine least_of (p := fun d => stopAt T key ((h + d) % T.length)) (j + T.length - h % T.length) ?_
  intro k rs hk
  have : (h + (j + T.length - h % T.length)) % T.length = j := by
    have h1 := Nat.mod_lt h (by omega : T.length > 0)
    have h2 := Nat.div_add_mod h T.length
    have : h + (j + T.length - h % T.length) = j + T.length * (h / T.length + 1) := by
      rw [Nat.mul_add]; omega
    rw [this, Nat.add_mul_mod_self_left, Nat.mod_eq_of_lt hl]
  rw [this, hj] at hk
  cases hk

/-- A table in which each key is found where it stands. -/
structure GoodT (H : Row → Nat) (T : Tab) : Prop where
  pos : 0 < T.length
  fnd : ∀ j k rs, T[j]? = some (some (k, rs)) → rs ≠ [] ∧ Fnd T (H k) k j
def cnt (T : Tab) : Nat := T.countP Option.isSome
theorem cnt_le (T : Tab) : cnt T ≤ T.length := List.countP_le_length
theorem free_of_cnt {T : Tab} (h : cnt T < T.length) : ∃ j : Nat, T[j]? = some none := by
  apply Classical.byContradiction
  intro hn
  have : cnt T = T.length := by
    unfold cnt
    rw [List.countP_eq_length]
    intro e he
    obtain ⟨i, hi, rfl⟩ := List.mem_iff_getElem.1 he
    cases hh : T[i] with
    | some x => rfl
    | none => exact absurd ⟨i, by rw [List.getElem?_eq_getElem hi, hh]⟩ hn
  omega
theorem Fnd.lt {T : Tab} {h : Nat} {key : Row} {i : Nat} (hp : 0 < T.length) (hi : Fnd T h key i) : i < T.length := by
  obtain ⟨d, h1, _⟩ := hi
  rw [h1]; exact Nat.mod_lt _ hp

theorem get_set (T : Tab) (i j : Nat) (e : Option (Row × List Int)) : (T.set i e)[j]? = if i = j then (if i < T.length then some e else none) else T[j]? := by
  rw [List.getElem?_set]
theorem stop_set_old {T : Tab} {i : Nat} {key : Row} {rs0 rs : List Int} (hi : T[i]? = some (some (key, rs0))) (q : Row) (j : Nat) : stopAt (T.set i (some (key, rs))) q j ↔ stopAt T q j := by
  have hl : i < T.length := (List.getElem?_eq_some_iff.1 hi).1
  unfold stopAt
  by_cases e : i = j
  · subst e
    rw [get_set, if_pos rfl, if_pos hl, hi]
    constructor
    · intro h k r hk
      cases hk
      exact h key rs rfl
    · intro h k r hk
      cases hk
      exact h key rs0 rfl
  · rw [get_set, if_neg e]
theorem fnd_set_old {T : Tab} {i : Nat} {key : Row} {rs0 rs : List Int} (hi : T[i]? = some (some (key, rs0))) (h : Nat) (q : Row) (j : Nat) : Fnd (T.set i (some (key, rs))) h q j ↔ Fnd T h q j := by
  unfold Fnd
  simp only [List.length_set, stop_set_old hi]
theorem GoodT.old {H : Row → Nat} {T : Tab} (g : GoodT H T) {i : Nat} {key : Row} {rs0 rs : List Int} (hi : T[i]? = some (some (key, rs0))) (hr : rs ≠ []) : GoodT H (T.set i (some (key, rs))) := by
  refine ⟨by rw [List.length_set]; exact g.pos, fun j k r hj => ?_⟩
  rw [fnd_set_old hi]
  rw [get_set] at hj
  by_cases e : i = j
  · subst e
    rw [if_pos rfl, if_pos (List.getElem?_eq_some_iff.1 hi).1] at hj
    cases hj
    exact ⟨hr, (g.fnd i key rs0 hi).2⟩
  · rw [if_neg e] at hj
    exact g.fnd j k r hj
theorem stop_set_new {T : Tab} {i : Nat} {key : Row} {rs : List Int} {q : Row} {j : Nat} (h : ¬ stopAt T q j) (hi : T[i]? = some none) : ¬ stopAt (T.set i (some (key, rs))) q j := by
  intro hs
  apply h
  intro k r hk
  have e : i ≠ j := by rintro rfl; rw [hi] at hk; cases hk
  exact hs k r (by rw [get_set, if_neg e]; exact hk)
theorem GoodT.new {H : Row → Nat} {T : Tab} (g : GoodT H T) {i : Nat} {key : Row} {rs : List Int} (hf : Fnd T (H key) key i) (hi : T[i]? = some none) (hr : rs ≠ []) : GoodT H (T.set i (some (key, rs))) := by
  have hl : i < T.length := (List.getElem?_eq_some_iff.1 hi).1
  refine ⟨by rw [List.length_set]; exact g.pos, fun j k r hj => ?_⟩
  rw [get_set] at hj
  by_cases e : i = j
  · subst e
    rw [if_pos rfl, if_pos hl] at hj
    cases hj
    obtain ⟨d, h1, h2, h3⟩ := hf
    refine ⟨hr, d, by rw [List.length_set]; exact h1, ?_, fun e he => ?_⟩
    · intro k' r' hk
      rw [get_set, if_pos rfl, if_pos hl] at hk
      cases hk; rfl
    · rw [List.length_set]; exact stop_set_new (h3 e he) hi
  · rw [if_neg e] at hj
    obtain ⟨h0, d, h1, h2, h3⟩ := g.fnd j k r hj
    refine ⟨h0, d, by rw [List.length_set]; exact h1, ?_, fun e he => ?_⟩
    · intro k' r' hk
      rw [get_set, if_neg e] at hk
      exact h2 k' r' hk
    · rw [List.length_set]; exact stop_set_new (h3 e he) hi

/-- The entries that a table has. -/
def Holds (T : Tab) (k : Row) (rs : List Int) : Prop := ∃ j : Nat, T[j]? = some (some (k, rs))
theorem GoodT.one {H : Row → Nat} {T : Tab} (g : GoodT H T) {i j : Nat} {k : Row} {r1 r2 : List Int} (h1 : T[i]? = some (some (k, r1))) (h2 : T[j]? = some (some (k, r2))) : i = j :=
  (g.fnd i k r1 h1).2.unique (g.fnd j k r2 h2).2
theorem GoodT.at_ {H : Row → Nat} {T : Tab} (g : GoodT H T) {key : Row} {i : Nat} (hf : Fnd T (H key) key i) : (T[i]? = some none ∧ ∀ rs, ¬ Holds T key rs) ∨ (∃ rs, T[i]? = some (some (key, rs))) := by
  have hl := hf.lt g.pos
  cases h : T[i] with
  | none =>
    have hi : T[i]? = some none := by rw [List.getElem?_eq_getElem hl, h]
    refine .inl ⟨hi, fun rs ⟨j, hj⟩ => ?_⟩
    have := hf.unique (g.fnd j key rs hj).2
    subst this
    rw [hi] at hj; cases hj
  | some e =>
    have hi : T[i]? = some (some (e.1, e.2)) := by rw [List.getElem?_eq_getElem hl, h]
    obtain ⟨d, _, h2, _⟩ := hf
    have := h2 e.1 e.2 hi
    exact .inr ⟨e.2, by rw [← this]; exact hi⟩
/-- What a table holds, as a function of the key. -/
def Maps (T : Tab) (f : Row → List Int) : Prop := ∀ k rs, Holds T k rs ↔ (f k = rs ∧ rs ≠ [])
theorem GoodT.probe {H : Row → Nat} {T : Tab} (g : GoodT H T) {f : Row → List Int} (m : Maps T f) {key : Row} {i : Nat} (hf : Fnd T (H key) key i) : (T[i]? = some none ∧ f key = []) ∨ (T[i]? = some (some (key, f key)) ∧ f key ≠ []) := by
  rcases g.at_ hf with ⟨h1, h2⟩ | ⟨rs, h1⟩
  · refine .inl ⟨h1, ?_⟩
    apply Classical.byContradiction
    intro hn
    exact h2 _ ((m key (f key)).2 ⟨rfl, hn⟩)
  · have := (m key rs).1 ⟨i, h1⟩
    refine .inr ?_
    rw [this.1]
    exact ⟨h1, this.2⟩
theorem Maps.put {H : Row → Nat} {T : Tab} (g : GoodT H T) {f : Row → List Int} (m : Maps T f) {key : Row} {i : Nat} (hf : Fnd T (H key) key i) {rs : List Int} (hr : rs ≠ []) : Maps (T.set i (some (key, rs))) (fun k => if k = key then rs else f k) := by
  have hl := hf.lt g.pos
  have ho : ∀ j, j ≠ i → ∀ r, T[j]? ≠ some (some (key, r)) := by
    intro j hj r h
    exact hj ((g.fnd j key r h).2.unique hf)
  intro k r
  constructor
  · rintro ⟨j, hj⟩
    rw [get_set] at hj
    by_cases e : i = j
    · rw [if_pos e, if_pos hl] at hj
      cases hj
      exact ⟨by simp, hr⟩
    · rw [if_neg e] at hj
      have hk : k ≠ key := by rintro rfl; exact ho j (Ne.symm e) r hj
      have := (m k r).1 ⟨j, hj⟩
      simp only [if_neg hk]
      exact this
  · rintro ⟨h1, h2⟩
    by_cases hk : k = key
    · subst hk
      simp at h1
      subst h1
      exact ⟨i, by rw [get_set, if_pos rfl, if_pos hl]⟩
    · simp only [if_neg hk] at h1
      obtain ⟨j, hj⟩ := (m k r).2 ⟨h1, h2⟩
      refine ⟨j, ?_⟩
      have e : i ≠ j := by
        rintro rfl
        rcases g.at_ hf with ⟨h3, _⟩ | ⟨r', h3⟩
        · rw [h3] at hj; cases hj
        · rw [h3] at hj; cases hj; exact hk rfl
      rw [get_set, if_neg e]; exact hj
theorem cnt_set_some {T : Tab} {i : Nat} {x y : Row × List Int} (h : T[i]? = some (some x)) : cnt (T.set i (some y)) = cnt T := by
  obtain ⟨hl, h1⟩ := List.getElem?_eq_some_iff.1 h
  unfold cnt
  rw [List.countP_set hl, h1]
  have : 0 < List.countP Option.isSome T := List.countP_pos_iff.2 ⟨T[i], List.getElem_mem hl, by rw [h1]; rfl⟩
  simp
  omega
theorem cnt_set_none {T : Tab} {i : Nat} {y : Row × List Int} (h : T[i]? = some none) : cnt (T.set i (some y)) = cnt T + 1 := by
  obtain ⟨hl, h1⟩ := List.getElem?_eq_some_iff.1 h
  unfold cnt
  rw [List.countP_set hl, h1]
  simp
theorem maps_nil (n : Nat) : Maps (List.replicate n none) (fun _ => []) := by
  intro k rs
  constructor
  · rintro ⟨j, hj⟩
    rw [List.getElem?_replicate] at hj
    split at hj <;> cases hj
  · rintro ⟨h1, h2⟩
    exact absurd h1.symm h2
theorem good_nil (H : Row → Nat) (n : Nat) (h : 0 < n) : GoodT H (List.replicate n none) := by
  refine ⟨by simpa using h, fun j k rs hj => ?_⟩
  rw [List.getElem?_replicate] at hj
  split at hj <;> cases hj
theorem cnt_nil (n : Nat) : cnt (List.replicate n none) = 0 := by
  unfold cnt
  rw [List.countP_replicate]; rfl

/-- The entries of a table's beginning. -/
def Moved (T N : Tab) (m : Nat) : Prop := ∀ k rs, Holds N k rs ↔ ∃ j, j < m ∧ T[j]? = some (some (k, rs))
theorem moved_zero (T : Tab) (n : Nat) : Moved T (List.replicate n none) 0 := by
  intro k rs
  constructor
  · rintro ⟨j, hj⟩
    rw [List.getElem?_replicate] at hj
    split at hj <;> cases hj
  · rintro ⟨j, hj, _⟩; omega
theorem Moved.skip {T N : Tab} {m : Nat} (h : Moved T N m) (hm : T[m]? = some none) : Moved T N (m + 1) := by
  intro k rs
  rw [h k rs]
  constructor
  · rintro ⟨j, hj, h1⟩; exact ⟨j, by omega, h1⟩
  · rintro ⟨j, hj, h1⟩
    refine ⟨j, ?_, h1⟩
    have : j ≠ m := by rintro rfl; rw [hm] at h1; cases h1
    omega
theorem Moved.free {H : Row → Nat} {T N : Tab} {m : Nat} (g : GoodT H T) (h : Moved T N m) {k : Row} {rs : List Int} (hm : T[m]? = some (some (k, rs))) (r : List Int) : ¬ Holds N k r := by
  intro hh
  obtain ⟨j, hj, h1⟩ := (h k r).1 hh
  have := g.one h1 hm
  omega
theorem Moved.put {H : Row → Nat} {T N : Tab} {m : Nat} (g : GoodT H T) (gn : GoodT H N) (h : Moved T N m) {k : Row} {rs : List Int} (hm : T[m]? = some (some (k, rs))) {i : Nat} (hf : Fnd N (H k) k i) : N[i]? = some none ∧ GoodT H (N.set i (some (k, rs))) ∧ Moved T (N.set i (some (k, rs))) (m + 1) := by
  have hr := (g.fnd m k rs hm).1
  have hfree : N[i]? = some none := by
    rcases gn.at_ hf with ⟨h1, _⟩ | ⟨r, h1⟩
    · exact h1
    · exact absurd ⟨i, h1⟩ (Moved.free g h hm r)
  have hl := hf.lt gn.pos
  refine ⟨hfree, gn.new hf hfree hr, fun q r => ?_⟩
  constructor
  · rintro ⟨j, hj⟩
    rw [get_set] at hj
    by_cases e : i = j
    · rw [if_pos e, if_pos hl] at hj
      cases hj
      exact ⟨m, by omega, hm⟩
    · rw [if_neg e] at hj
      obtain ⟨j', h1, h2⟩ := (h q r).1 ⟨j, hj⟩
      exact ⟨j', by omega, h2⟩
  · rintro ⟨j, hj, h1⟩
    by_cases e : j = m
    · subst e
      rw [hm] at h1
      cases h1
      exact ⟨i, by rw [get_set, if_pos rfl, if_pos hl]⟩
    · obtain ⟨j', h2⟩ := (h q r).2 ⟨j, by omega, h1⟩
      refine ⟨j', ?_⟩
      have : i ≠ j' := by rintro rfl; rw [hfree] at h2; cases h2
      rw [get_set, if_neg this]; exact h2
theorem Moved.maps {T N : Tab} {f : Row → List Int} (h : Moved T N T.length) (m : Maps T f) : Maps N f := by
  intro k rs
  rw [h k rs, ← m k rs]
  constructor
  · rintro ⟨j, _, h1⟩; exact ⟨j, h1⟩
  · rintro ⟨j, h1⟩; exact ⟨j, (List.getElem?_eq_some_iff.1 h1).1, h1⟩
theorem cnt_take_none {T : Tab} {m : Nat} (h : T[m]? = some none) : cnt (T.take (m + 1)) = cnt (T.take m) := by
  obtain ⟨hl, h1⟩ := List.getElem?_eq_some_iff.1 h
  unfold cnt
  rw [List.take_succ_eq_append_getElem hl, List.countP_append, h1]
  simp
theorem cnt_take_some {T : Tab} {m : Nat} {x : Row × List Int} (h : T[m]? = some (some x)) : cnt (T.take (m + 1)) = cnt (T.take m) + 1 := by
  obtain ⟨hl, h1⟩ := List.getElem?_eq_some_iff.1 h
  unfold cnt
  rw [List.take_succ_eq_append_getElem hl, List.countP_append, h1]
  simp

/-- The unlike ones of a list, in the order in which they come first. -/
def uniq : List Row → List Row
  | ks => ks.foldl (fun acc k => if k ∈ acc then acc else acc ++ [k]) []
theorem uniq_snoc (ks : List Row) (k : Row) : uniq (ks ++ [k]) = if k ∈ uniq ks then uniq ks else uniq ks ++ [k] := by
  unfold uniq
  rw [List.foldl_append]; rfl
theorem mem_uniq (k : Row) (ks : List Row) : k ∈ uniq ks ↔ k ∈ ks := by
  have key : ∀ (ks acc : List Row), k ∈ ks.foldl (fun acc k => if k ∈ acc then acc else acc ++ [k]) acc ↔ k ∈ acc ∨ k ∈ ks := by
    intro ks
    induction ks with
    | nil => intro acc; simp
    | cons q ks ih =>
      intro acc
      rw [List.foldl_cons, ih]
      split
      · rename_i h
        constructor
        · rintro (h1 | h1)
          · exact .inl h1
          · exact .inr (List.mem_cons_of_mem _ h1)
        · rintro (h1 | h1)
          · exact .inl h1
          · rcases List.mem_cons.1 h1 with rfl | h2
            · exact .inl h
            · exact .inr h2
      · simp [or_assoc]
  unfold uniq
  rw [key]; simp
/-- Which of some keys are one. -/
def whichFrom (n : Nat) : List Row → Row → List Int
  | [], _ => []
  | q :: ks, k => if q = k then (n : Int) :: whichFrom (n + 1) ks k else whichFrom (n + 1) ks k
def which (ks : List Row) (k : Row) : List Int := whichFrom 0 ks k
theorem whichFrom_snoc (n : Nat) (ks : List Row) (q k : Row) : whichFrom n (ks ++ [q]) k = if q = k then whichFrom n ks k ++ [((n + ks.length : Nat) : Int)] else whichFrom n ks k := by
  induction ks generalizing n with
  | nil => simp [whichFrom]
  | cons a ks ih =>
    simp only [List.cons_append, whichFrom, ih, List.length_cons]
    rw [show n + 1 + ks.length = n + (ks.length + 1) from by omega]
    split <;> split <;> simp
theorem which_snoc (ks : List Row) (q : Row) : which (ks ++ [q]) = fun k => if k = q then which ks q ++ [(ks.length : Int)] else which ks k := by
  funext k
  unfold which
  rw [whichFrom_snoc]
  by_cases e : q = k
  · subst e; simp
  · rw [if_neg e, if_neg (Ne.symm e)]
theorem whichFrom_mem (n : Nat) (ks : List Row) (k : Row) (x : Int) : x ∈ whichFrom n ks k ↔ ∃ j : Nat, x = ((n + j : Nat) : Int) ∧ ks[j]? = some k := by
  induction ks generalizing n with
  | nil => simp [whichFrom]
  | cons a ks ih =>
    have step : (∃ j : Nat, x = ((n + j : Nat) : Int) ∧ (a :: ks)[j]? = some k) ↔ (x = (n : Int) ∧ a = k) ∨ x ∈ whichFrom (n + 1) ks k := by
      rw [ih]
      constructor
      · rintro ⟨j, h1, h2⟩
        cases j with
        | zero => left; exact ⟨by simpa using h1, by simpa using h2⟩
        | succ j => right; exact ⟨j, by rw [h1]; congr 1; omega, by simpa using h2⟩
      · rintro (⟨h1, h2⟩ | ⟨j, h1, h2⟩)
        · exact ⟨0, by simpa using h1, by simpa using h2⟩
        · exact ⟨j + 1, by rw [h1]; congr 1; omega, by simpa using h2⟩
    rw [step]
    rw [whichFrom]
    split
    · rename_i h
      rw [List.mem_cons]
      simp [h]
    · rename_i h
      simp [h]
theorem which_mem (ks : List Row) (k : Row) (x : Int) : x ∈ which ks k ↔ ∃ j : Nat, x = (j : Int) ∧ ks[j]? = some k := by
  unfold which
  rw [whichFrom_mem]
  simp
theorem which_nil (ks : List Row) (k : Row) : which ks k = [] ↔ k ∉ ks := by
  constructor
  · intro h hk
    obtain ⟨j, hj, rfl⟩ := List.mem_iff_getElem.1 hk
    have := (which_mem ks (ks[j]) (j : Int)).2 ⟨j, rfl, List.getElem?_eq_getElem hj⟩
    rw [h] at this; cases this
  · intro h
    cases hw : which ks k with
    | nil => rfl
    | cons x xs =>
      obtain ⟨j, _, hj⟩ := (which_mem ks k x).1 (by rw [hw]; exact List.mem_cons_self ..)
      exact absurd (List.mem_of_getElem? hj) h
/-- How many of the keys ahead of a place are one: where that place stands among those that are found. -/
theorem whichFrom_length (n : Nat) (ks : List Row) (k : Row) : (whichFrom n ks k).length = ks.countP (fun q => decide (q = k)) := by
  induction ks generalizing n with
  | nil => rfl
  | cons a ks ih =>
    rw [whichFrom, List.countP_cons]
    split <;> rename_i h <;> simp [ih, h]
theorem which_length (ks : List Row) (k : Row) : (which ks k).length = ks.countP (fun q => decide (q = k)) := whichFrom_length 0 ks k
theorem which_get (ks : List Row) (k : Row) (i : Nat) (h : ks[i]? = some k) : (which ks k)[(ks.take i).countP (fun q => decide (q = k))]? = some (i : Int) := by
  obtain ⟨hi, hk⟩ := List.getElem?_eq_some_iff.1 h
  have e : ks = ks.take i ++ k :: ks.drop (i + 1) := by
    rw [← hk, ← List.drop_eq_getElem_cons hi, List.take_append_drop]
  have key : ∀ (n : Nat) (us bs : List Row), (whichFrom n (us ++ k :: bs) k)[us.countP (fun q => decide (q = k))]? = some ((n + us.length : Nat) : Int) := by
    intro n us bs
    induction us generalizing n with
    | nil => simp [whichFrom]
    | cons a us ih =>
      simp only [List.cons_append, whichFrom, List.countP_cons, List.length_cons]
      have := ih (n + 1)
      rw [show n + 1 + us.length = n + (us.length + 1) from by omega] at this
      split
      · rename_i h; simpa [h] using this
      · rename_i h; simpa [h] using this
  have := key 0 (ks.take i) (ks.drop (i + 1))
  rw [← e] at this
  unfold which
  rw [this, List.length_take, Nat.zero_add, Nat.min_eq_left (by omega)]
end Go.Proofs.Ytmgoefhihljggaa.Sg
