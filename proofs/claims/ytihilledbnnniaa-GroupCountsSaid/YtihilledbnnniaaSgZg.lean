/- Grouping, in plain lists: which rows begin a group, what is made of each; and lists of rows that are built anew. -/
import Derived.Test.YtihilledbnnniaaSgZf
import Derived.Test.YtihilledbnnniaaSgXi
import Derived.Test.YtihilledbnnniaaSgN
namespace Go.Proofs.Ytihilledbnnniaa.Sg
open Go.RowKit Go.Shelf
set_option linter.unusedVariables false
set_option linter.unusedSimpArgs false

/-- The blocks that are not a slice's own. -/
def Off (v : Value) (k : Nat) : Prop := v.ownBlock ≠ some k
theorem BuiltBy.pushV {α : Type} {E : World → (Nat → Prop) → Value → α → Prop} (H : Reads E) {w w1 : World} {o : Obj} {B e : Nat} {v v' u : Value} {xs : List α} {x : α} {cs : List Value}
    (h : BuiltBy E w B e (Off v) v xs cs) (hu : E w (Off v) u x) (ho : w1.ownsRow B e 1 v' (xs.length + 1) (cs ++ [u])) (hg : (w.alloc o).grownBy w1 v.ownBlock) (hb : v'.ownBlock = v.ownBlock ∨ v'.ownBlock = some (w.alloc o).heap.size) :
    BuiltBy E w1 B e (Off v') v' (xs ++ [x]) (cs ++ [u]) := by
  have h2 : BuiltBy E w B e (fun k => Off v k ∧ k < w.heap.size) v xs cs := ⟨h.own, fun j hj z hz => H.mono (h.el j hj z hz) (fun k hk hl => ⟨hk, hl⟩)⟩
  have hu2 := H.mono (ok2 := fun k => Off v k ∧ k < w.heap.size) hu (fun k hk hl => ⟨hk, hl⟩)
  have := BuiltBy.append H h2 hu2 ho hg (fun k hk e => e.1 hk)
  refine ⟨this.own, fun j hj z hz => H.mono (this.el j hj z hz) (fun k hk _ => ?_)⟩
  rcases hb with hb | hb
  · unfold Off; rw [hb]; exact hk.1
  · unfold Off; rw [hb]
    intro e
    have := Option.some.inj e
    simp at this
    omega

theorem which_first9 {KS : List Row} {i : Nat} (hi : i < KS.length) : ∃ x G, which KS KS[i] = x :: G ∧ (KS[i] ∉ KS.take i → x = (i : Int)) ∧ (KS[i] ∈ KS.take i → x ≠ (i : Int)) := by
  obtain ⟨j, hj, hjl⟩ := least_of (p := fun j => KS[j]? = some KS[i]) i (List.getElem?_eq_getElem hi)
  have hz : (KS.take j).countP (fun q => decide (q = KS[i])) = 0 := by
    rw [List.countP_eq_zero]
    intro q hq
    obtain ⟨t, ht, rfl⟩ := List.mem_iff_getElem.1 hq
    have ht1 : t < j := by simp at ht; omega
    have ht2 : t < KS.length := by simp at ht; omega
    simp only [decide_eq_true_eq]
    intro e
    rw [List.getElem_take] at e
    exact hjl t ht1 (by rw [List.getElem?_eq_getElem ht2, e])
  have hg := which_get KS KS[i] j hj
  rw [hz] at hg
  cases hw : which KS KS[i] with
  | nil => rw [hw] at hg; cases hg
  | cons x G =>
    rw [hw] at hg
    simp at hg
    refine ⟨x, G, rfl, fun hn => ?_, fun hy => ?_⟩
    · rw [hg]
      have : ¬ j < i := by
        intro hlt
        apply hn
        obtain ⟨h1, h2⟩ := List.getElem?_eq_some_iff.1 hj
        rw [← h2]
        exact List.mem_iff_getElem.2 ⟨j, by simp; omega, by rw [List.getElem_take]⟩
      have h3 : ¬ i < j := fun h => hjl i h (List.getElem?_eq_getElem hi)
      have : j = i := by omega
      rw [this]
    · rw [hg]
      obtain ⟨t, ht, he⟩ := List.mem_iff_getElem.1 hy
      have ht1 : t < i := by simp at ht; omega
      rw [List.getElem_take] at he
      intro e
      have hji : j = i := by omega
      refine hjl t (by omega) ?_
      show KS[t]? = some KS[i]
      rw [List.getElem?_eq_getElem (by omega), he]

def grp (KS : List Row) (vs : List Int) (K : Row) : List Int := (which KS K).map fun j : Int => vs.getD j.toNat 0
def isFst (KS : List Row) (t : Nat) : Bool := decide (KS.getD t [] ∉ KS.take t)
def outRow (KS : List Row) (vs : List Int) (a : Int) (t : Nat) : Row := KS.getD t [] ++ [madeV a (grp KS vs (KS.getD t []))]
def outs (KS : List Row) (vs : List Int) (a : Int) (i : Nat) : List Row := ((List.range i).filter (isFst KS)).map (outRow KS vs a)
def okUp (KS : List Row) (vs : List Int) (a : Int) (i : Nat) : Prop := ∀ t, t < i → isFst KS t = true → madeB a (grp KS vs (KS.getD t [])) = true
def wdAt (KS : List Row) (i : Nat) : Nat := if i = 0 then 1 else (KS.getD (i - 1) []).length + 1
theorem outs_yes {KS : List Row} {vs : List Int} {a : Int} {i : Nat} (h : isFst KS i = true) : outs KS vs a (i + 1) = outs KS vs a i ++ [outRow KS vs a i] := by
  unfold outs
  rw [List.range_succ, List.filter_append, List.map_append, List.filter_cons, if_pos h]; rfl
theorem outs_no {KS : List Row} {vs : List Int} {a : Int} {i : Nat} (h : isFst KS i = false) : outs KS vs a (i + 1) = outs KS vs a i := by
  unfold outs
  rw [List.range_succ, List.filter_append, List.map_append, List.filter_cons, if_neg (by rw [h]; simp)]; simp
theorem outs_length (KS : List Row) (vs : List Int) (a : Int) (i : Nat) : (outs KS vs a i).length ≤ i := by
  unfold outs
  rw [List.length_map]
  have := List.length_filter_le (isFst KS) (List.range i)
  simpa using this
theorem okUp_zero (KS : List Row) (vs : List Int) (a : Int) : okUp KS vs a 0 := fun t h => by omega
theorem okUp_yes {KS : List Row} {vs : List Int} {a : Int} {i : Nat} (h : okUp KS vs a i) (hb : madeB a (grp KS vs (KS.getD i [])) = true) : okUp KS vs a (i + 1) := fun t ht hf => by
  by_cases e : t = i
  · subst e; exact hb
  · exact h t (by omega) hf
theorem okUp_no {KS : List Row} {vs : List Int} {a : Int} {i : Nat} (h : okUp KS vs a i) (hf : isFst KS i = false) : okUp KS vs a (i + 1) := fun t ht hf2 => by
  by_cases e : t = i
  · subst e; rw [hf] at hf2; cases hf2
  · exact h t (by omega) hf2
theorem okUp_bad {KS : List Row} {vs : List Int} {a : Int} {i n : Nat} (hi : i < n) (hf : isFst KS i = true) (hb : madeB a (grp KS vs (KS.getD i [])) = false) : ¬ okUp KS vs a n := fun h => by
  have := h i hi hf
  rw [hb] at this; cases this
theorem wdAt_succ (KS : List Row) (i : Nat) : wdAt KS (i + 1) = (KS.getD i []).length + 1 := by unfold wdAt; rw [if_neg (by omega)]; rfl
theorem fst_x {KS : List Row} {i : Nat} (hi : i < KS.length) : ∃ x G, which KS (KS.getD i []) = x :: G ∧ (isFst KS i = true → x = (i : Int)) ∧ (isFst KS i = false → x ≠ (i : Int)) ∧ 0 ≤ x := by
  obtain ⟨x, G, h1, h2, h3⟩ := which_first9 hi
  have e : KS.getD i [] = KS[i] := by simp [hi]
  rw [e]
  refine ⟨x, G, h1, fun h => ?_, fun h => ?_, ?_⟩
  · unfold isFst at h; rw [e] at h; exact h2 (by simpa using h)
  · unfold isFst at h; rw [e] at h; exact h3 (by simpa using h)
  · obtain ⟨j, hj, _⟩ := (which_mem KS KS[i] x).1 (by rw [h1]; exact List.mem_cons_self ..)
    omega
theorem which_idx {KS : List Row} {K : Row} {j : Nat} (h : j < (which KS K).length) : ∃ t : Nat, (which KS K)[j] = (t : Int) ∧ t < KS.length := by
  obtain ⟨t, h1, h2⟩ := (which_mem KS K _).1 (List.getElem_mem h)
  exact ⟨t, h1, (List.getElem?_eq_some_iff.1 h2).1⟩
theorem grp_step {KS : List Row} {vs : List Int} {K : Row} {j t : Nat} (h : j < (which KS K).length) (ht : (which KS K)[j] = (t : Int)) : (grp KS vs K).take (j + 1) = (grp KS vs K).take j ++ [vs.getD t 0] := by
  have hl : j < (grp KS vs K).length := by unfold grp; simpa using h
  rw [List.take_succ_eq_append_getElem hl]
  have e : (grp KS vs K)[j] = vs.getD t 0 := by simp only [grp, List.getElem_map, ht]; rfl
  rw [e]
theorem grp_length (KS : List Row) (vs : List Int) (K : Row) : (grp KS vs K).length = (which KS K).length := by unfold grp; simp
theorem grp_in64 {KS : List Row} {vs : List Int} {K : Row} (h : ∀ x ∈ vs, In64 x) : ∀ x ∈ grp KS vs K, In64 x := by
  intro x hx
  unfold grp at hx
  obtain ⟨j, _, rfl⟩ := List.mem_map.1 hx
  exact In64.getD h _
/-- The numbers at a place of the rows; zeros for a count. -/
def valsOf (a col : Int) (rs : List Row) : List Int := rs.map fun r => if a = 1 then 0 else r.getD col.toNat 0
theorem valsOf_in64 {a col : Int} {rs : List Row} (h : ∀ r ∈ rs, ∀ x ∈ r, In64 x) : ∀ x ∈ valsOf a col rs, In64 x := by
  intro x hx
  obtain ⟨r, hr, rfl⟩ := List.mem_map.1 hx
  split
  · simp [In64]
  · exact In64.getD (h r hr) _
theorem valsOf_at (a col : Int) (rs : List Row) (t : Nat) (h : t < rs.length) : (valsOf a col rs).getD t 0 = if a = 1 then 0 else rs[t].getD col.toNat 0 := by
  unfold valsOf; simp [h]
theorem madeV_in64 (a : Int) (xs : List Int) (h : ∀ x ∈ xs, In64 x) (hl : xs.length < 1000000) : In64 (madeV a xs) := by
  have z : In64 0 := by simp [In64]
  have hd : In64 (xs.headD 0) := by cases xs with | nil => exact z | cons b l => exact h b (by simp)
  have fl : ∀ (f : Int → Int → Int), (∀ b n, f b n = b ∨ f b n = n) → ∀ (l : List Int) (b : Int), In64 b → (∀ x ∈ l, In64 x) → In64 (l.foldl f b) := by
    intro f hf l
    induction l with
    | nil => exact fun b hb _ => hb
    | cons x l ih =>
      intro b hb hx
      refine ih _ ?_ (fun y hy => hx y (List.mem_cons_of_mem _ hy))
      rcases hf b x with e | e <;> rw [e]
      · exact hb
      · exact hx x (List.mem_cons_self ..)
  unfold madeV
  split
  · exact z
  · split
    · unfold In64; omega
    · split
      · unfold sumV; split
        · assumption
        · exact z
      · split
        · exact fl lessF (fun b n => by unfold lessF; split <;> simp) xs _ hd h
        · split
          · exact fl moreF (fun b n => by unfold moreF; split <;> simp) xs _ hd h
          · exact z
end Go.Proofs.Ytihilledbnnniaa.Sg
