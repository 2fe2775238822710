/- What Push and Pop do to a heap's entries, in plain words: the least one stands first, and nothing is lost or made. -/
import Derived.Test.YtchkeanjekoghaaHpE
namespace Go.Proofs.Ytchkeanjekoghaa.Hp
open Go.RowKit

abbrev E := Int × Int
/-- x may stand ahead of y. -/
def Le (lt : Int → Int → Bool) (x y : E) : Prop := bef lt y x = false
structure Good (lt : Int → Int → Bool) : Prop where
  asym : ∀ x y, bef lt x y = true → Le lt x y
  trans : ∀ x y z, Le lt x y → Le lt y z → Le lt x z
  refl : ∀ x, Le lt x x
def at_ (es : List E) (i : Nat) : E := es.getD i (0, 0)
theorem at_swp (es : List E) (i j k : Nat) (hi : i < es.length) (hj : j < es.length) : at_ (swp es i j) k = if k = j then at_ es i else if k = i then at_ es j else at_ es k := by
  unfold at_ swp
  rw [List.getD_eq_getElem?_getD, List.getElem?_set]
  by_cases h : j = k
  · subst h
    rw [if_pos rfl, if_pos rfl, if_pos (by simpa using hj)]
    rfl
  · rw [if_neg h, if_neg (Ne.symm h), List.getElem?_set]
    by_cases h2 : i = k
    · subst h2
      rw [if_pos rfl, if_pos rfl, if_pos hi]
      rfl
    · rw [if_neg h2, if_neg (Ne.symm h2), List.getD_eq_getElem?_getD]
theorem at_get (es : List E) (i : Nat) (h : i < es.length) : at_ es i = es[i] := getD_at es i h
theorem at_mem (es : List E) (i : Nat) (h : i < es.length) : at_ es i ∈ es := by rw [at_get es i h]; exact List.getElem_mem h
theorem at_take (es : List E) (n i : Nat) (h : i < n) : at_ (es.take n) i = at_ es i := by
  unfold at_
  rw [List.getD_eq_getElem?_getD, List.getD_eq_getElem?_getD, List.getElem?_take, if_pos h]
theorem at_append (es fs : List E) (i : Nat) (h : i < es.length) : at_ (es ++ fs) i = at_ es i := by
  unfold at_
  rw [List.getD_eq_getElem?_getD, List.getD_eq_getElem?_getD, List.getElem?_append_left h]
theorem swp_perm (es : List E) (i j : Nat) (hi : i < es.length) (hj : j < es.length) : (swp es i j).Perm es := by
  rw [List.perm_iff_count]
  intro a
  unfold swp
  rw [getD_at es i hi, getD_at es j hj, List.count_set (by simpa using hj), List.count_set hi, List.getElem_set]
  have h1 : (if (es[i] == a) = true then 1 else 0) ≤ es.count a := by
    split
    · rename_i h; rw [beq_iff_eq] at h; rw [← h]; exact List.one_le_count_iff.2 (List.getElem_mem hi)
    · omega
  have h2 : (if (es[j] == a) = true then 1 else 0) ≤ es.count a := by
    split
    · rename_i h; rw [beq_iff_eq] at h; rw [← h]; exact List.one_le_count_iff.2 (List.getElem_mem hj)
    · omega
  by_cases hij : i = j
  · subst hij
    rw [if_pos rfl]
    omega
  · rw [if_neg hij]
    omega

/-- Each entry but the first has one ahead of it that may stand ahead. -/
def Heap (lt : Int → Int → Bool) (es : List E) : Prop := ∀ j, 0 < j → j < es.length → Le lt (at_ es ((j - 1) / 2)) (at_ es j)
theorem Heap.least {lt : Int → Int → Bool} (G : Good lt) {es : List E} (h : Heap lt es) : ∀ i, i < es.length → Le lt (at_ es 0) (at_ es i) := by
  intro i
  induction i using Nat.strongRecOn with
  | _ i ih =>
    intro hi
    rcases Nat.eq_zero_or_pos i with rfl | h0
    · exact G.refl _
    · exact G.trans _ _ _ (ih ((i - 1) / 2) (by omega) (by omega)) (h i h0 hi)

theorem up_spec {lt : Int → Int → Bool} (G : Good lt) : ∀ (f : Nat) (es : List E) (i : Nat), i < f → i < es.length →
    (∀ j, 0 < j → j < es.length → j ≠ i → Le lt (at_ es ((j - 1) / 2)) (at_ es j)) → (∀ j, 0 < j → j < es.length → (j - 1) / 2 = i → 0 < i → Le lt (at_ es ((i - 1) / 2)) (at_ es j)) →
    Heap lt (up lt f es i) ∧ (up lt f es i).Perm es := by
  intro f
  induction f with
  | zero => intro es i h; omega
  | succ f ih =>
    intro es i hf hi h1 h2
    rw [up_succ]
    by_cases c : 0 < i ∧ bef lt (es.getD i (0, 0)) (es.getD ((i - 1) / 2) (0, 0)) = true
    · rw [if_pos c]
      obtain ⟨c0, c1⟩ := c
      have hp : (i - 1) / 2 < es.length := by omega
      have hle : Le lt (at_ es i) (at_ es ((i - 1) / 2)) := G.asym _ _ c1
      have key := ih (swp es i ((i - 1) / 2)) ((i - 1) / 2) (by omega) (by rw [swp_length]; omega) ?_ ?_
      · exact ⟨key.1, key.2.trans (swp_perm es i _ hi hp)⟩
      · intro j j0 jl jn
        rw [swp_length] at jl
        rw [at_swp es i _ _ hi hp, at_swp es i _ j hi hp, if_neg jn]
        by_cases e1 : j = i
        · subst e1
          rw [if_pos rfl, if_pos rfl]
          exact hle
        · rw [if_neg e1]
          by_cases e2 : (j - 1) / 2 = (i - 1) / 2
          · rw [if_pos e2]
            exact G.trans _ _ _ hle (by rw [← e2]; exact h1 j j0 jl e1)
          · rw [if_neg e2]
            by_cases e3 : (j - 1) / 2 = i
            · rw [if_pos e3]
              exact h2 j j0 jl e3 c0
            · rw [if_neg e3]
              exact h1 j j0 jl e1
      · intro j j0 jl jp p0
        rw [swp_length] at jl
        have hpp := h1 ((i - 1) / 2) p0 hp (by omega)
        rw [at_swp es i _ _ hi hp, if_neg (by omega), if_neg (by omega), at_swp es i _ j hi hp, if_neg (by omega)]
        by_cases e1 : j = i
        · rw [if_pos e1]
          exact hpp
        · rw [if_neg e1]
          exact G.trans _ _ _ hpp (by rw [← jp]; exact h1 j j0 jl e1)
    · rw [if_neg c]
      refine ⟨fun j j0 jl => ?_, List.Perm.refl _⟩
      by_cases e : j = i
      · subst e
        have : ¬ bef lt (es.getD j (0, 0)) (es.getD ((j - 1) / 2) (0, 0)) = true := fun h => c ⟨j0, h⟩
        exact Bool.eq_false_iff.2 this
      · exact h1 j j0 jl e
theorem push_spec {lt : Int → Int → Bool} (G : Good lt) (es : List E) (e : E) (h : Heap lt es) : Heap lt (upF lt (es ++ [e]) es.length) ∧ (upF lt (es ++ [e]) es.length).Perm (es ++ [e]) := by
  refine up_spec G _ _ _ (by omega) (by simp) ?_ ?_
  · intro j j0 jl jn
    have : j < es.length := by simp at jl; omega
    rw [at_append es _ _ (by omega), at_append es _ j this]
    exact h j j0 this
  · intro j j0 jl jp _
    simp at jl
    omega

theorem pick_spec {lt : Int → Int → Bool} (G : Good lt) (es : List E) (i : Nat) (hi : i < es.length) : ∀ t, t ≤ 2 → (pickT lt es i t = i ∨ (pickT lt es i t - 1) / 2 = i ∧ 0 < pickT lt es i t) ∧ Le lt (at_ es (pickT lt es i t)) (at_ es i) ∧
    ∀ s, s < t → 2 * i + 1 + s < es.length → Le lt (at_ es (pickT lt es i t)) (at_ es (2 * i + 1 + s))
  | 0, _ => ⟨.inl rfl, G.refl _, fun s hs => by omega⟩
  | t + 1, ht => by
    obtain ⟨h1, h2, h3⟩ := pick_spec G es i hi t (by omega)
    simp only [pickT]
    by_cases c : 2 * i + 1 + t < es.length ∧ bef lt (es.getD (2 * i + 1 + t) (0, 0)) (es.getD (pickT lt es i t) (0, 0)) = true
    · rw [if_pos c]
      have hle : Le lt (at_ es (2 * i + 1 + t)) (at_ es (pickT lt es i t)) := G.asym _ _ c.2
      refine ⟨.inr ⟨by omega, by omega⟩, G.trans _ _ _ hle h2, fun s hs hl => ?_⟩
      by_cases e : s = t
      · subst e; exact G.refl _
      · exact G.trans _ _ _ hle (h3 s (by omega) hl)
    · rw [if_neg c]
      refine ⟨h1, h2, fun s hs hl => ?_⟩
      by_cases e : s = t
      · subst e
        have : ¬ bef lt (es.getD (2 * i + 1 + s) (0, 0)) (es.getD (pickT lt es i s) (0, 0)) = true := fun h => c ⟨hl, h⟩
        exact Bool.eq_false_iff.2 this
      · exact h3 s (by omega) hl
theorem dn_spec {lt : Int → Int → Bool} (G : Good lt) : ∀ (f : Nat) (es : List E) (i : Nat), es.length - i ≤ f → i < es.length →
    (∀ j, 0 < j → j < es.length → (j - 1) / 2 ≠ i → Le lt (at_ es ((j - 1) / 2)) (at_ es j)) → (∀ j, 0 < j → j < es.length → (j - 1) / 2 = i → 0 < i → Le lt (at_ es ((i - 1) / 2)) (at_ es j)) →
    Heap lt (dn lt f es i) ∧ (dn lt f es i).Perm es := by
  intro f
  induction f with
  | zero => intro es i h; omega
  | succ f ih =>
    intro es i hf hi h1 h2
    obtain ⟨p1, p2, p3⟩ := pick_spec G es i hi 2 (by omega)
    have hl := pickT_lt lt es i hi 2
    have hch : ∀ j, 0 < j → j < es.length → (j - 1) / 2 = i → Le lt (at_ es (pickT lt es i 2)) (at_ es j) := by
      intro j j0 jl jp
      have : j = 2 * i + 1 + 0 ∨ j = 2 * i + 1 + 1 := by omega
      rcases this with rfl | rfl
      · exact p3 0 (by omega) jl
      · exact p3 1 (by omega) jl
    rw [dn_succ]
    by_cases c : pickT lt es i 2 = i
    · rw [if_pos c]
      rw [c] at hch
      refine ⟨fun j j0 jl => ?_, List.Perm.refl _⟩
      by_cases e : (j - 1) / 2 = i
      · rw [e]; exact hch j j0 jl e
      · exact h1 j j0 jl e
    · rw [if_neg c]
      obtain ⟨lp, l0⟩ := p1.resolve_left c
      generalize pickT lt es i 2 = l at *
      have key := ih (swp es i l) l (by rw [swp_length]; omega) (by rw [swp_length]; omega) ?_ ?_
      · exact ⟨key.1, key.2.trans (swp_perm es i l hi hl)⟩
      · intro j j0 jl jn
        rw [swp_length] at jl
        rw [at_swp es i l _ hi hl, at_swp es i l j hi hl, if_neg jn]
        by_cases e1 : j = l
        · subst e1
          rw [if_pos rfl, if_pos lp]
          exact p2
        · rw [if_neg e1]
          by_cases e2 : (j - 1) / 2 = i
          · rw [if_pos e2, if_neg (by omega)]
            exact hch j j0 jl e2
          · rw [if_neg e2]
            by_cases e3 : j = i
            · rw [if_pos e3]
              subst e3
              exact h2 l l0 hl lp j0
            · rw [if_neg e3]
              exact h1 j j0 jl e2
      · intro j j0 jl jp _
        rw [swp_length] at jl
        rw [at_swp es i l _ hi hl, if_neg (by omega), if_pos lp, at_swp es i l j hi hl, if_neg (by omega), if_neg (by omega)]
        have := h1 j j0 jl (by omega)
        rw [jp] at this
        exact this
theorem pop_spec {lt : Int → Int → Bool} (G : Good lt) (es : List E) (hp : 0 < es.length) (h : Heap lt es) : Heap lt (popF lt es) ∧ es.Perm (at_ es 0 :: popF lt es) ∧ ∀ x ∈ es, Le lt (at_ es 0) x := by
  have hs := swp_perm es 0 (es.length - 1) hp (by omega)
  have hl : ((swp es 0 (es.length - 1)).take (es.length - 1)).length = es.length - 1 := by rw [List.length_take, swp_length]; omega
  have hlast : (swp es 0 (es.length - 1)).drop (es.length - 1) = [at_ es 0] := by
    rw [List.drop_eq_getElem_cons (by rw [swp_length]; omega), List.drop_of_length_le (by rw [swp_length]; omega)]
    congr 1
    rw [← at_get _ _ (by rw [swp_length]; omega), at_swp es 0 _ _ hp (by omega), if_pos rfl]
  have hperm : es.Perm (at_ es 0 :: (swp es 0 (es.length - 1)).take (es.length - 1)) := by
    refine hs.symm.trans ?_
    have := List.take_append_drop (es.length - 1) (swp es 0 (es.length - 1))
    rw [hlast] at this
    exact (List.Perm.of_eq this.symm).trans (List.perm_append_comm)
  have hmem : ∀ x ∈ es, Le lt (at_ es 0) x := by
    intro x hx
    obtain ⟨i, hi, rfl⟩ := List.mem_iff_getElem.1 hx
    rw [← at_get es i hi]
    exact h.least G i hi
  rcases Nat.eq_zero_or_pos (es.length - 1) with h0 | h0
  · have e : popF lt es = (swp es 0 (es.length - 1)).take (es.length - 1) := by
      unfold popF dnF
      rw [hl, h0]
      rfl
    rw [e]
    exact ⟨fun j j0 jl => by omega, hperm, hmem⟩
  · have key := dn_spec G (es.length - 1) ((swp es 0 (es.length - 1)).take (es.length - 1)) 0 (by omega) (by omega) ?_ ?_
    · have e : popF lt es = dn lt (es.length - 1) ((swp es 0 (es.length - 1)).take (es.length - 1)) 0 := by
        unfold popF dnF
        rw [hl]
        rfl
      rw [e]
      exact ⟨key.1, hperm.trans (List.Perm.cons _ key.2.symm), hmem⟩
    · intro j j0 jl jn
      rw [hl] at jl
      rw [at_take _ _ _ (by omega), at_take _ _ j (by omega), at_swp es 0 _ _ hp (by omega), at_swp es 0 _ j hp (by omega), if_neg (by omega), if_neg (by omega), if_neg (by omega), if_neg (by omega)]
      exact h j j0 (by omega)
    · intro j _ _ _ h
      omega

theorem good_lt : Good ltI := by
  refine ⟨?_, ?_, ?_⟩
  · intro x y h
    unfold Le
    unfold bef at *
    simp at *
    omega
  · intro x y z h1 h2
    unfold Le at *
    unfold bef at *
    simp at *
    omega
  · intro x
    unfold Le bef
    simp
end Go.Proofs.Ytchkeanjekoghaa.Hp
