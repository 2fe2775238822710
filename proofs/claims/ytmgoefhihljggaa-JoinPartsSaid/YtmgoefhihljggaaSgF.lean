/- The rows that Make leaves: sorted by slices.SortFunc, neighbours that are one struck: in order, none twice. -/
import Derived.Test.YtmgoefhihljggaaSgE
import Derived.Test.YtmgoefhihljggaaSgD
import Derived.Test.YtmgoefhihljggaaSort
import Derived.Sort.OwnSorted
namespace Go.Proofs.Ytmgoefhihljggaa.Sg
open Go.RowKit Go.Shelf Go.Lib Go.Sort
set_option linter.unusedVariables false
set_option linter.unusedSimpArgs false

def cf {w : World} {blk : Nat} (x y : El w blk) : Int := rowCmp x.row y.row
theorem lt_cf {w : World} {blk : Nat} (x y : El w blk) : ltOf cf x y = decide (rlt x.row y.row) := rfl
theorem swo_cf {w : World} {blk : Nat} : SWO (ltOf (cf (w := w) (blk := blk))) where
  irrefl x := by rw [lt_cf, decide_eq_false_iff_not]; exact rlt_irrefl _
  trans x y z h1 h2 := by rw [lt_cf, decide_eq_true_eq] at *; exact rlt_trans h1 h2
  ntrans x y z h1 h2 := by
    rw [lt_cf, decide_eq_false_iff_not] at *
    intro h
    rcases rlt_tri y.row x.row with k | k | k
    · exact h2 (rlt_trans k h)
    · rw [k] at h2; exact h2 h
    · exact h1 k
theorem stays_sortWorld {w0 w : World} {blk m : Nat} (dk : Array (El w0 blk)) (os : Array Obj) : Stays (· ≠ blk) w (sortWorld enc w blk 0 m dk os) := fun b hb hl => by
  unfold sortWorld
  rw [heap_grow_old _ _ (by simpa using hl)]
  simp [putRow, mapBlock, Sort.ahead, Array.getElem?_modify, Ne.symm hb]
theorem cmp_lays (w : World) (blk size : Nat) : CmpLays1 Try.prog 20 #[] (enc (w := w) (blk := blk)) cf blk 0 size w := by
  intro m os dk hs x y
  have hst := stays_sortWorld (w := w) (m := m) dk os
  refine (scompare_any _ _ _ _ _ _ _ (x.at_ hst) (y.at_ hst)).mono fun e w' ⟨he, hw⟩ => ⟨he, 0, #[], ?_⟩
  rw [grow_empty, World.drewN_zero]
  exact hw.symm

theorem sorted_le {w : World} {blk : Nat} {d : Array (El w blk)} (hs : SortedIn (ltOf cf) 0 d.size d) {i j : Nat} (h : i < j) (hj : j < d.size) : ¬ rlt (d[j]!).row (d[i]!).row := by
  have := hs i j (Nat.zero_le _) h hj
  rw [lt_cf, decide_eq_false_iff_not] at this
  exact this
theorem kept_SS {w : World} {blk : Nat} (d : Array (El w blk)) (hs : SortedIn (ltOf cf) 0 d.size d) : SS ((kept d).map El.row) := by
  unfold kept keptUpTo
  rw [SS, List.map_map, List.pairwise_map]
  refine List.Pairwise.imp_of_mem ?_ (List.Pairwise.filter (kp d) List.pairwise_lt_range)
  intro i j hi hj hij
  rw [List.mem_filter, List.mem_range] at hi hj
  simp only [Function.comp_apply]
  have hk := hj.2
  unfold kp at hk
  rw [decide_eq_true_eq] at hk
  have hne : (d[j]!).row ≠ (d[j - 1]!).row := hk.resolve_left (by omega)
  have h1 : rlt (d[j - 1]!).row (d[j]!).row := by
    rcases rlt_tri (d[j - 1]!).row (d[j]!).row with h | h | h
    · exact h
    · exact absurd h.symm hne
    · exact absurd h (sorted_le hs (by omega) hj.1)
  by_cases e : i = j - 1
  · rw [e]; exact h1
  · exact rlt_of_le (sorted_le hs (show i < j - 1 by omega) (by omega)) h1
theorem kept_mem {w : World} {blk : Nat} (d : Array (El w blk)) (x : Row) : x ∈ (kept d).map El.row ↔ x ∈ d.toList.map El.row := by
  constructor
  · intro h
    obtain ⟨y, hy, rfl⟩ := List.mem_map.1 h
    unfold kept keptUpTo at hy
    obtain ⟨i, hi, rfl⟩ := List.mem_map.1 hy
    rw [List.mem_filter, List.mem_range] at hi
    refine List.mem_map.2 ⟨d[i]!, ?_, rfl⟩
    rw [getElem!_pos d i hi.1]
    exact Array.getElem_mem_toList hi.1
  · intro h
    obtain ⟨y, hy, rfl⟩ := List.mem_map.1 h
    obtain ⟨i, hi, rfl⟩ := List.mem_iff_getElem.1 hy
    have hi' : i < d.size := by simpa using hi
    have key : ∀ i, i < d.size → (d[i]!).row ∈ (kept d).map El.row := by
      intro i
      induction i with
      | zero =>
        intro h0
        refine List.mem_map.2 ⟨d[0]!, List.mem_map.2 ⟨0, ?_, rfl⟩, rfl⟩
        rw [List.mem_filter, List.mem_range]
        exact ⟨h0, by simp [kp]⟩
      | succ i ih =>
        intro h0
        by_cases e : (d[i + 1]!).row = (d[i]!).row
        · rw [e]; exact ih (by omega)
        · refine List.mem_map.2 ⟨d[i + 1]!, List.mem_map.2 ⟨i + 1, ?_, rfl⟩, rfl⟩
          rw [List.mem_filter, List.mem_range]
          exact ⟨h0, kp_pos (by rw [Nat.add_sub_cancel]; exact e)⟩
    have := key i hi'
    rw [getElem!_pos d i hi'] at this
    simpa using this
theorem perm_mem {w : World} {blk : Nat} {d d' : Array (El w blk)} (h : PermIn 0 d.size d d') (x : Row) : x ∈ d'.toList.map El.row ↔ x ∈ d.toList.map El.row := by
  obtain ⟨h1, _, h2⟩ := h
  have e1 : (d'.extract 0 d.size).toList = d'.toList := by rw [← h1]; simp
  have e2 : (d.extract 0 d.size).toList = d.toList := by simp
  rw [e1, e2] at h2
  exact (h2.map El.row).mem_iff
/-- What is kept of the sorted rows. -/
theorem kept_norm {w : World} {blk n : Nat} {d d' : Array (El w blk)} {rs fs : List Row} (hp : PermIn 0 d.size d d') (hs : SortedIn (ltOf cf) 0 d.size d') (hd : d.toList.map El.row = fs) (hf : fs = rs.filter fun r => decide (r.length = n)) : (kept d').map El.row = norm n rs := by
  have h1 := hp.1
  rw [← h1] at hs
  refine norm_eq (kept_SS d' hs) (fun x => ?_)
  rw [kept_mem, perm_mem hp, hd, hf]
  simp

/-- Elements out of values and what they read as. -/
theorem els_of {w : World} {ok : Nat → Prop} {blk : Nat} (hok : ∀ b, ok b → b ≠ blk) : ∀ (cs : List Value) (xs : List Row), cs.length = xs.length → (∀ j (h : j < xs.length) u, cs[j]? = some u → RowAt w ok u xs[j]) →
    ∃ l : List (El w blk), l.map enc = cs ∧ l.map El.row = xs
  | [], [], _, _ => ⟨[], rfl, rfl⟩
  | [], _ :: _, h, _ => by simp at h
  | _ :: _, [], h, _ => by simp at h
  | c :: cs, x :: xs, h, he => by
    obtain ⟨l, h1, h2⟩ := els_of hok cs xs (by simpa using h) (fun j hj u hu => he (j + 1) (by simpa using hj) u (by simpa using hu))
    refine ⟨⟨(c, x), reads_row.mono (he 0 (by simp) c (by simp)) (fun b hb _ => hok b hb)⟩ :: l, ?_, ?_⟩
    · simp [h1, enc]
    · simp [h2, El.row]
/-- A slice of the call's own whose elements read so. -/
structure BuiltBy {α : Type} (E : World → (Nat → Prop) → Value → α → Prop) (w : World) (B e : Nat) (ok : Nat → Prop) (v : Value) (xs : List α) (cs : List Value) : Prop where
  own : w.ownsRow B e 1 v xs.length cs
  el : ∀ j (h : j < xs.length) u, cs[j]? = some u → E w ok u xs[j]
theorem BuiltBy.nil {α : Type} (E : World → (Nat → Prop) → Value → α → Prop) (w : World) (B e : Nat) (ok : Nat → Prop) : BuiltBy E w B e ok (.slice none 0 0) ([] : List α) [] :=
  ⟨World.ownsRow_nil _ _ _ _, fun j h => by simp at h⟩
theorem BuiltBy.len {α : Type} {E : World → (Nat → Prop) → Value → α → Prop} {w : World} {B e : Nat} {ok : Nat → Prop} {v : Value} {xs : List α} {cs : List Value} (h : BuiltBy E w B e ok v xs cs) : cs.length = xs.length := by rw [h.own.1]; omega
theorem BuiltBy.base {α : Type} {E : World → (Nat → Prop) → Value → α → Prop} {w : World} {B e : Nat} {ok : Nat → Prop} {v : Value} {xs : List α} {cs : List Value} (h : BuiltBy E w B e ok v xs cs) : ∀ k, v.ownBlock = some k → B ≤ k := by
  intro k hk
  rcases h.own.2 with ⟨rfl, _⟩ | ⟨b, cap, cur, rfl, hb, _⟩
  · cases hk
  · cases hk; exact hb
/-- Behind an append of one. -/
theorem BuiltBy.append {α : Type} {E : World → (Nat → Prop) → Value → α → Prop} (H : Reads E) {w w1 : World} {o : Obj} {B e : Nat} {ok : Nat → Prop} {v v' u : Value} {xs : List α} {x : α} {cs : List Value}
    (h : BuiltBy E w B e ok v xs cs) (hu : E w ok u x) (ho : w1.ownsRow B e 1 v' (xs.length + 1) (cs ++ [u])) (hg : (w.alloc o).grownBy w1 v.ownBlock) (hok : ∀ k, v.ownBlock = some k → ¬ ok k) : BuiltBy E w1 B e ok v' (xs ++ [x]) (cs ++ [u]) := by
  have hst : Stays ok w w1 := (Stays.alloc ok w o).trans ((Stays.of_grown hg).mono (fun b hb _ e => hok b e hb)) (by simp)
  refine ⟨by simpa using ho, fun j hj z hz => ?_⟩
  have hl := h.len
  by_cases e : j < xs.length
  · rw [List.getElem_append_left e]
    rw [List.getElem?_append_left (by omega)] at hz
    exact H.stays (h.el j e z hz) hst
  · have : j = xs.length := by simp at hj; omega
    subst this
    rw [List.getElem?_append_right (by omega), hl, Nat.sub_self] at hz
    rw [List.getElem_append_right (by omega)]
    simp at hz ⊢
    subst hz
    exact H.stays hu hst
theorem BuiltBy.stays {α : Type} {E : World → (Nat → Prop) → Value → α → Prop} (H : Reads E) {w w1 : World} {B e : Nat} {ok ok2 : Nat → Prop} {v : Value} {xs : List α} {cs : List Value} (h : BuiltBy E w B e ok v xs cs) (hs : Stays ok2 w w1) (h1 : ∀ b, ok b → b < w.heap.size → ok2 b) (h2 : ∀ k, v.ownBlock = some k → ok2 k) : BuiltBy E w1 B e ok v xs cs :=
  ⟨hs.owns h.own h2, fun j hj z hz => H.stays (h.el j hj z hz) (hs.mono h1)⟩
end Go.Proofs.Ytmgoefhihljggaa.Sg
