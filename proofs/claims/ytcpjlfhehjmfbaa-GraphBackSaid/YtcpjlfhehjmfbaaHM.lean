/- What Push and Pop do to a heap's entries, in plain words: the least one stands first, and nothing is lost or made. -/
namespace Go.Proofs.Ytcpjlfhehjmfbaa.Hm
set_option linter.unusedVariables false
set_option linter.unusedSectionVars false
section
variable {α : Type} [Inhabited α]
def swp (es : List (α × Int)) (i j : Nat) : List (α × Int) := (es.set i (es.getD j default)).set j (es.getD i default)
theorem swp_length (es : List (α × Int)) (i j : Nat) : (swp es i j).length = es.length := by simp [swp]
theorem getD_at (es : List (α × Int)) (i : Nat) (h : i < es.length) : es.getD i default = es[i] := by simp [List.getD_eq_getElem?_getD, h]
/-- Does one stand ahead of another one? -/
def bef (lt : α → α → Bool) (x y : α × Int) : Bool := lt x.1 y.1 || (!lt y.1 x.1 && decide (x.2 < y.2))
/-- The entry at i goes up to its place. -/
def up (lt : α → α → Bool) : Nat → List (α × Int) → Nat → List (α × Int)
  | 0, es, _ => es
  | f + 1, es, i => if 0 < i ∧ bef lt (es.getD i default) (es.getD ((i - 1) / 2) default) = true then up lt f (swp es i ((i - 1) / 2)) ((i - 1) / 2) else es
theorem up_succ (lt : α → α → Bool) (f : Nat) (es : List (α × Int)) (i : Nat) : up lt (f + 1) es i = if 0 < i ∧ bef lt (es.getD i default) (es.getD ((i - 1) / 2) default) = true then up lt f (swp es i ((i - 1) / 2)) ((i - 1) / 2) else es := rfl
theorem up_fuel (lt : α → α → Bool) : ∀ (f : Nat) (es : List (α × Int)) (i : Nat), i < f → up lt (f + 1) es i = up lt f es i
  | 0, _, _, h => by omega
  | f + 1, es, i, h => by
    rw [up_succ lt (f + 1) es i, up_succ lt f es i]
    by_cases c : 0 < i ∧ bef lt (es.getD i default) (es.getD ((i - 1) / 2) default) = true
    · rw [if_pos c, if_pos c]
      exact up_fuel lt f _ _ (by omega)
    · rw [if_neg c, if_neg c]
def upF (lt : α → α → Bool) (es : List (α × Int)) (i : Nat) : List (α × Int) := up lt (i + 1) es i
theorem up_upF (lt : α → α → Bool) (es : List (α × Int)) (i : Nat) : ∀ f, i < f → up lt f es i = upF lt es i := by
  intro f hf
  obtain ⟨d, rfl⟩ : ∃ d, f = i + 1 + d := ⟨f - (i + 1), by omega⟩
  clear hf
  induction d with
  | zero => rfl
  | succ d ih => rw [← ih]; exact up_fuel lt (i + 1 + d) es i (by omega)
theorem upF_stop (lt : α → α → Bool) (es : List (α × Int)) (i : Nat) (h : ¬ (0 < i ∧ bef lt (es.getD i default) (es.getD ((i - 1) / 2) default) = true)) : upF lt es i = es := by
  unfold upF; rw [up, if_neg h]
theorem upF_step (lt : α → α → Bool) (es : List (α × Int)) (i : Nat) (h0 : 0 < i) (h : bef lt (es.getD i default) (es.getD ((i - 1) / 2) default) = true) : upF lt es i = upF lt (swp es i ((i - 1) / 2)) ((i - 1) / 2) := by
  unfold upF; rw [up, if_pos ⟨h0, h⟩]; exact up_upF lt _ _ _ (by omega)
/-- The least of the entry at i and those below it, the first t of these having been asked. -/
def pickT (lt : α → α → Bool) (es : List (α × Int)) (i : Nat) : Nat → Nat
  | 0 => i
  | t + 1 => if 2 * i + 1 + t < es.length ∧ bef lt (es.getD (2 * i + 1 + t) default) (es.getD (pickT lt es i t) default) = true then 2 * i + 1 + t else pickT lt es i t
theorem pickT_lt (lt : α → α → Bool) (es : List (α × Int)) (i : Nat) (h : i < es.length) : ∀ t, pickT lt es i t < es.length
  | 0 => h
  | t + 1 => by
    have := pickT_lt lt es i h t
    simp only [pickT]
    split
    · rename_i c; exact c.1
    · exact this
theorem pickT_ge (lt : α → α → Bool) (es : List (α × Int)) (i : Nat) : ∀ t, pickT lt es i t = i ∨ i < pickT lt es i t
  | 0 => .inl rfl
  | t + 1 => by
    have := pickT_ge lt es i t
    simp only [pickT]
    split
    · right; omega
    · exact this
/-- The entry at i goes down to its place. -/
def dn (lt : α → α → Bool) : Nat → List (α × Int) → Nat → List (α × Int)
  | 0, es, _ => es
  | f + 1, es, i => if pickT lt es i 2 = i then es else dn lt f (swp es i (pickT lt es i 2)) (pickT lt es i 2)
theorem dn_succ (lt : α → α → Bool) (f : Nat) (es : List (α × Int)) (i : Nat) : dn lt (f + 1) es i = if pickT lt es i 2 = i then es else dn lt f (swp es i (pickT lt es i 2)) (pickT lt es i 2) := rfl
theorem dn_fuel (lt : α → α → Bool) : ∀ (f : Nat) (es : List (α × Int)) (i : Nat), i < es.length → es.length - i ≤ f → dn lt (f + 1) es i = dn lt f es i
  | 0, es, i, h0, h => by omega
  | f + 1, es, i, h0, h => by
    rw [dn_succ lt (f + 1) es i, dn_succ lt f es i]
    by_cases c : pickT lt es i 2 = i
    · rw [if_pos c, if_pos c]
    · rw [if_neg c, if_neg c]
      have h1 := pickT_lt lt es i h0 2
      have h2 := pickT_ge lt es i 2
      exact dn_fuel lt f _ _ (by rw [swp_length]; exact h1) (by rw [swp_length]; omega)
def dnF (lt : α → α → Bool) (es : List (α × Int)) (i : Nat) : List (α × Int) := dn lt (es.length - i) es i
theorem dn_dnF (lt : α → α → Bool) (es : List (α × Int)) (i : Nat) (h0 : i < es.length) (f : Nat) (hf : es.length - i ≤ f) : dn lt f es i = dnF lt es i := by
  obtain ⟨d, rfl⟩ : ∃ d, f = es.length - i + d := ⟨f - (es.length - i), by omega⟩
  clear hf
  induction d with
  | zero => rfl
  | succ d ih => rw [← ih]; exact dn_fuel lt (es.length - i + d) es i h0 (by omega)
theorem dnF_stop (lt : α → α → Bool) (es : List (α × Int)) (i : Nat) (h : pickT lt es i 2 = i) : dnF lt es i = es := by
  unfold dnF
  rcases Nat.eq_zero_or_pos (es.length - i) with h0 | h0
  · rw [h0]; rfl
  · obtain ⟨k, hk⟩ : ∃ k, es.length - i = k + 1 := ⟨es.length - i - 1, by omega⟩
    rw [hk, dn_succ, if_pos h]
theorem dnF_step (lt : α → α → Bool) (es : List (α × Int)) (i : Nat) (h0 : i < es.length) (h : ¬ pickT lt es i 2 = i) : dnF lt es i = dnF lt (swp es i (pickT lt es i 2)) (pickT lt es i 2) := by
  have h1 := pickT_lt lt es i h0 2
  have h2 := pickT_ge lt es i 2
  obtain ⟨k, hk⟩ : ∃ k, es.length - i = k + 1 := ⟨es.length - i - 1, by omega⟩
  unfold dnF
  rw [hk, dn_succ, if_neg h, swp_length]
  have := dn_dnF lt (swp es i (pickT lt es i 2)) (pickT lt es i 2) (by rw [swp_length]; exact h1) k (by rw [swp_length]; omega)
  rw [this]
  unfold dnF
  rw [swp_length]

def popF (lt : α → α → Bool) (es : List (α × Int)) : List (α × Int) := dnF lt ((swp es 0 (es.length - 1)).take (es.length - 1)) 0
/-- x may stand ahead of y. -/
def Le (lt : α → α → Bool) (x y : α × Int) : Prop := bef lt y x = false
structure Good (lt : α → α → Bool) : Prop where
  asym : ∀ x y, bef lt x y = true → Le lt x y
  trans : ∀ x y z, Le lt x y → Le lt y z → Le lt x z
  refl : ∀ x, Le lt x x
def at_ (es : List (α × Int)) (i : Nat) : α × Int := es.getD i default
theorem at_swp (es : List (α × Int)) (i j k : Nat) (hi : i < es.length) (hj : j < es.length) : at_ (swp es i j) k = if k = j then at_ es i else if k = i then at_ es j else at_ es k := by
  unfold at_ swp
  rw [List.getD_eq_getElem?_getD, List.getElem?_set]
  by_cases h : j = k
  · subst h
    rw [if_pos rfl, if_pos rfl, if_pos (by simpa using hj)]
    rfl
  · rw [if_neg h, if_neg (Ne.symm h), List.getElem?_set]
    by_cases h2 : i = k
    · subst h2
      rw [if_pos rfl, if_pos rfl, if_pos hi]
      rfl
    · rw [if_neg h2, if_neg (Ne.symm h2), List.getD_eq_getElem?_getD]
theorem at_get (es : List (α × Int)) (i : Nat) (h : i < es.length) : at_ es i = es[i] := getD_at es i h
theorem at_mem (es : List (α × Int)) (i : Nat) (h : i < es.length) : at_ es i ∈ es := by rw [at_get es i h]; exact List.getElem_mem h
theorem at_take (es : List (α × Int)) (n i : Nat) (h : i < n) : at_ (es.take n) i = at_ es i := by
  unfold at_
  rw [List.getD_eq_getElem?_getD, List.getD_eq_getElem?_getD, List.getElem?_take, if_pos h]
theorem at_append (es fs : List (α × Int)) (i : Nat) (h : i < es.length) : at_ (es ++ fs) i = at_ es i := by
  unfold at_
  rw [List.getD_eq_getElem?_getD, List.getD_eq_getElem?_getD, List.getElem?_append_left h]
theorem swp_perm (es : List (α × Int)) (i j : Nat) (hi : i < es.length) (hj : j < es.length) : (swp es i j).Perm es := by
  classical
  rw [List.perm_iff_count]
  intro a
  unfold swp
  rw [getD_at es i hi, getD_at es j hj, List.count_set (by simpa using hj), List.count_set hi, List.getElem_set]
  have h1 : (if (es[i] == a) = true then 1 else 0) ≤ es.count a := by
    split
    · rename_i h; rw [beq_iff_eq] at h; rw [← h]; exact List.one_le_count_iff.2 (List.getElem_mem hi)
    · omega
  have h2 : (if (es[j] == a) = true then 1 else 0) ≤ es.count a := by
    split
    · rename_i h; rw [beq_iff_eq] at h; rw [← h]; exact List.one_le_count_iff.2 (List.getElem_mem hj)
    · omega
  by_cases hij : i = j
  · subst hij
    rw [if_pos rfl]
    omega
  · rw [if_neg hij]
    omega

/-- Each entry but the first has one ahead of it that may stand ahead. -/
def Heap (lt : α → α → Bool) (es : List (α × Int)) : Prop := ∀ j, 0 < j → j < es.length → Le lt (at_ es ((j - 1) / 2)) (at_ es j)
theorem Heap.least {lt : α → α → Bool} (G : Good lt) {es : List (α × Int)} (h : Heap lt es) : ∀ i, i < es.length → Le lt (at_ es 0) (at_ es i) := by
  intro i
  induction i using Nat.strongRecOn with
  | _ i ih =>
    intro hi
    rcases Nat.eq_zero_or_pos i with rfl | h0
    · exact G.refl _
    · exact G.trans _ _ _ (ih ((i - 1) / 2) (by omega) (by omega)) (h i h0 hi)

theorem up_spec {lt : α → α → Bool} (G : Good lt) : ∀ (f : Nat) (es : List (α × Int)) (i : Nat), i < f → i < es.length →
    (∀ j, 0 < j → j < es.length → j ≠ i → Le lt (at_ es ((j - 1) / 2)) (at_ es j)) → (∀ j, 0 < j → j < es.length → (j - 1) / 2 = i → 0 < i → Le lt (at_ es ((i - 1) / 2)) (at_ es j)) →
    Heap lt (up lt f es i) ∧ (up lt f es i).Perm es := by
  intro f
  induction f with
  | zero => intro es i h; omega
  | succ f ih =>
    intro es i hf hi h1 h2
    rw [up_succ]
    by_cases c : 0 < i ∧ bef lt (es.getD i default) (es.getD ((i - 1) / 2) default) = true
    · rw [if_pos c]
      obtain ⟨c0, c1⟩ := c
      have hp : (i - 1) / 2 < es.length := by omega
      have hle : Le lt (at_ es i) (at_ es ((i - 1) / 2)) := G.asym _ _ c1
      have key := ih (swp es i ((i - 1) / 2)) ((i - 1) / 2) (by omega) (by rw [swp_length]; omega) ?_ ?_
      · exact ⟨key.1, key.2.trans (swp_perm es i _ hi hp)⟩
      · intro j j0 jl jn
        rw [swp_length] at jl
        rw [at_swp es i _ _ hi hp, at_swp es i _ j hi hp, if_neg jn]
        by_cases e1 : j = i
        · subst e1
          rw [if_pos rfl, if_pos rfl]
          exact hle
        · rw [if_neg e1]
          by_cases e2 : (j - 1) / 2 = (i - 1) / 2
          · rw [if_pos e2]
            exact G.trans _ _ _ hle (by rw [← e2]; exact h1 j j0 jl e1)
          · rw [if_neg e2]
            by_cases e3 : (j - 1) / 2 = i
            · rw [if_pos e3]
              exact h2 j j0 jl e3 c0
            · rw [if_neg e3]
              exact h1 j j0 jl e1
      · intro j j0 jl jp p0
        rw [swp_length] at jl
        have hpp := h1 ((i - 1) / 2) p0 hp (by omega)
        rw [at_swp es i _ _ hi hp, if_neg (by omega), if_neg (by omega), at_swp es i _ j hi hp, if_neg (by omega)]
        by_cases e1 : j = i
        · rw [if_pos e1]
          exact hpp
        · rw [if_neg e1]
          exact G.trans _ _ _ hpp (by rw [← jp]; exact h1 j j0 jl e1)
    · rw [if_neg c]
      refine ⟨fun j j0 jl => ?_, List.Perm.refl _⟩
      by_cases e : j = i
      · subst e
        have : ¬ bef lt (es.getD j default) (es.getD ((j - 1) / 2) default) = true := fun h => c ⟨j0, h⟩
        exact Bool.eq_false_iff.2 this
      · exact h1 j j0 jl e
theorem push_spec {lt : α → α → Bool} (G : Good lt) (es : List (α × Int)) (e : α × Int) (h : Heap lt es) : Heap lt (upF lt (es ++ [e]) es.length) ∧ (upF lt (es ++ [e]) es.length).Perm (es ++ [e]) := by
  refine up_spec G _ _ _ (by omega) (by simp) ?_ ?_
  · intro j j0 jl jn
    have : j < es.length := by simp at jl; omega
    rw [at_append es _ _ (by omega), at_append es _ j this]
    exact h j j0 this
  · intro j j0 jl jp _
    simp at jl
    omega

theorem pick_spec {lt : α → α → Bool} (G : Good lt) (es : List (α × Int)) (i : Nat) (hi : i < es.length) : ∀ t, t ≤ 2 → (pickT lt es i t = i ∨ (pickT lt es i t - 1) / 2 = i ∧ 0 < pickT lt es i t) ∧ Le lt (at_ es (pickT lt es i t)) (at_ es i) ∧
    ∀ s, s < t → 2 * i + 1 + s < es.length → Le lt (at_ es (pickT lt es i t)) (at_ es (2 * i + 1 + s))
  | 0, _ => ⟨.inl rfl, G.refl _, fun s hs => by omega⟩
  | t + 1, ht => by
    obtain ⟨h1, h2, h3⟩ := pick_spec G es i hi t (by omega)
    simp only [pickT]
    by_cases c : 2 * i + 1 + t < es.length ∧ bef lt (es.getD (2 * i + 1 + t) default) (es.getD (pickT lt es i t) default) = true
    · rw [if_pos c]
      have hle : Le lt (at_ es (2 * i + 1 + t)) (at_ es (pickT lt es i t)) := G.asym _ _ c.2
      refine ⟨.inr ⟨by omega, by omega⟩, G.trans _ _ _ hle h2, fun s hs hl => ?_⟩
      by_cases e : s = t
      · subst e; exact G.refl _
      · exact G.trans _ _ _ hle (h3 s (by omega) hl)
    · rw [if_neg c]
      refine ⟨h1, h2, fun s hs hl => ?_⟩
      by_cases e : s = t
      · subst e
        have : ¬ bef lt (es.getD (2 * i + 1 + s) default) (es.getD (pickT lt es i s) default) = true := fun h => c ⟨hl, h⟩
        exact Bool.eq_false_iff.2 this
      · exact h3 s (by omega) hl
theorem dn_spec {lt : α → α → Bool} (G : Good lt) : ∀ (f : Nat) (es : List (α × Int)) (i : Nat), es.length - i ≤ f → i < es.length →
    (∀ j, 0 < j → j < es.length → (j - 1) / 2 ≠ i → Le lt (at_ es ((j - 1) / 2)) (at_ es j)) → (∀ j, 0 < j → j < es.length → (j - 1) / 2 = i → 0 < i → Le lt (at_ es ((i - 1) / 2)) (at_ es j)) →
    Heap lt (dn lt f es i) ∧ (dn lt f es i).Perm es := by
  intro f
  induction f with
  | zero => intro es i h; omega
  | succ f ih =>
    intro es i hf hi h1 h2
    obtain ⟨p1, p2, p3⟩ := pick_spec G es i hi 2 (by omega)
    have hl := pickT_lt lt es i hi 2
    have hch : ∀ j, 0 < j → j < es.length → (j - 1) / 2 = i → Le lt (at_ es (pickT lt es i 2)) (at_ es j) := by
      intro j j0 jl jp
      have : j = 2 * i + 1 + 0 ∨ j = 2 * i + 1 + 1 := by omega
      rcases this with rfl | rfl
      · exact p3 0 (by omega) jl
      · exact p3 1 (by omega) jl
    rw [dn_succ]
    by_cases c : pickT lt es i 2 = i
    · rw [if_pos c]
      rw [c] at hch
      refine ⟨fun j j0 jl => ?_, List.Perm.refl _⟩
      by_cases e : (j - 1) / 2 = i
      · rw [e]; exact hch j j0 jl e
      · exact h1 j j0 jl e
    · rw [if_neg c]
      obtain ⟨lp, l0⟩ := p1.resolve_left c
      generalize pickT lt es i 2 = l at *
      have key := ih (swp es i l) l (by rw [swp_length]; omega) (by rw [swp_length]; omega) ?_ ?_
      · exact ⟨key.1, key.2.trans (swp_perm es i l hi hl)⟩
      · intro j j0 jl jn
        rw [swp_length] at jl
        rw [at_swp es i l _ hi hl, at_swp es i l j hi hl, if_neg jn]
        by_cases e1 : j = l
        · subst e1
          rw [if_pos rfl, if_pos lp]
          exact p2
        · rw [if_neg e1]
          by_cases e2 : (j - 1) / 2 = i
          · rw [if_pos e2, if_neg (by omega)]
            exact hch j j0 jl e2
          · rw [if_neg e2]
            by_cases e3 : j = i
            · rw [if_pos e3]
              subst e3
              exact h2 l l0 hl lp j0
            · rw [if_neg e3]
              exact h1 j j0 jl e2
      · intro j j0 jl jp _
        rw [swp_length] at jl
        rw [at_swp es i l _ hi hl, if_neg (by omega), if_pos lp, at_swp es i l j hi hl, if_neg (by omega), if_neg (by omega)]
        have := h1 j j0 jl (by omega)
        rw [jp] at this
        exact this
theorem pop_spec {lt : α → α → Bool} (G : Good lt) (es : List (α × Int)) (hp : 0 < es.length) (h : Heap lt es) : Heap lt (popF lt es) ∧ es.Perm (at_ es 0 :: popF lt es) ∧ ∀ x ∈ es, Le lt (at_ es 0) x := by
  have hs := swp_perm es 0 (es.length - 1) hp (by omega)
  have hl : ((swp es 0 (es.length - 1)).take (es.length - 1)).length = es.length - 1 := by rw [List.length_take, swp_length]; omega
  have hlast : (swp es 0 (es.length - 1)).drop (es.length - 1) = [at_ es 0] := by
    rw [List.drop_eq_getElem_cons (by rw [swp_length]; omega), List.drop_of_length_le (by rw [swp_length]; omega)]
    congr 1
    rw [← at_get _ _ (by rw [swp_length]; omega), at_swp es 0 _ _ hp (by omega), if_pos rfl]
  have hperm : es.Perm (at_ es 0 :: (swp es 0 (es.length - 1)).take (es.length - 1)) := by
    refine hs.symm.trans ?_
    have := List.take_append_drop (es.length - 1) (swp es 0 (es.length - 1))
    rw [hlast] at this
    exact (List.Perm.of_eq this.symm).trans (List.perm_append_comm)
  have hmem : ∀ x ∈ es, Le lt (at_ es 0) x := by
    intro x hx
    obtain ⟨i, hi, rfl⟩ := List.mem_iff_getElem.1 hx
    rw [← at_get es i hi]
    exact h.least G i hi
  rcases Nat.eq_zero_or_pos (es.length - 1) with h0 | h0
  · have e : popF lt es = (swp es 0 (es.length - 1)).take (es.length - 1) := by
      unfold popF dnF
      rw [hl, h0]
      rfl
    rw [e]
    exact ⟨fun j j0 jl => by omega, hperm, hmem⟩
  · have key := dn_spec G (es.length - 1) ((swp es 0 (es.length - 1)).take (es.length - 1)) 0 (by omega) (by omega) ?_ ?_
    · have e : popF lt es = dn lt (es.length - 1) ((swp es 0 (es.length - 1)).take (es.length - 1)) 0 := by
        unfold popF dnF
        rw [hl]
        rfl
      rw [e]
      exact ⟨key.1, hperm.trans (List.Perm.cons _ key.2.symm), hmem⟩
    · intro j j0 jl jn
      rw [hl] at jl
      rw [at_take _ _ _ (by omega), at_take _ _ j (by omega), at_swp es 0 _ _ hp (by omega), at_swp es 0 _ j hp (by omega), if_neg (by omega), if_neg (by omega), if_neg (by omega), if_neg (by omega)]
      exact h j j0 (by omega)
    · intro j _ _ _ h
      omega


theorem good_of {lt : α → α → Bool} (h1 : ∀ x y, lt x y = true → lt y x = false) (h2 : ∀ x y z, lt y x = false → lt z y = false → lt z x = false) : Good lt := by
  refine ⟨?_, ?_, ?_⟩
  · intro x y h
    unfold Le bef at *
    cases hxy : lt x.1 y.1 with
    | true => rw [h1 _ _ hxy]; simp
    | false =>
      rw [hxy] at h
      cases hyx : lt y.1 x.1 with
      | true => rw [hyx] at h; simp at h
      | false => rw [hyx] at h; simp at h ⊢; omega
  · intro x y z ha hb
    unfold Le bef at *
    have e : ∀ p q : Bool, ∀ c : Bool, (p || (!q && c)) = false ↔ p = false ∧ (q = true ∨ c = false) := by decide
    rw [e] at ha hb ⊢
    obtain ⟨a1, a2⟩ := ha
    obtain ⟨b1, b2⟩ := hb
    refine ⟨h2 _ _ _ a1 b1, ?_⟩
    cases hxz : lt x.1 z.1 with
    | true => exact .inl rfl
    | false =>
      right
      have q1 : lt x.1 y.1 = false := h2 _ _ _ b1 hxz
      have q2 : lt y.1 z.1 = false := h2 _ _ _ hxz a1
      rw [q1] at a2; rw [q2] at b2
      simp at a2 b2 ⊢
      omega
  · intro x
    unfold Le bef
    cases h : lt x.1 x.1 with
    | true => have := h1 _ _ h; rw [h] at this; cases this
    | false => simp
/-- What a Pop finds. -/
def Popped (lt : α → α → Bool) (L : List (α × Int)) (x : α) (L' : List (α × Int)) : Prop := ∃ c, L.Perm ((x, c) :: L') ∧ ∀ y ∈ L, Le lt (x, c) y
end
end Go.Proofs.Ytcpjlfhehjmfbaa.Hm
