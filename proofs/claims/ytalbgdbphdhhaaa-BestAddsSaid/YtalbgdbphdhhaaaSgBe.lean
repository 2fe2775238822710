/- Best.Put: what its steps make of the blocks (no walk). -/
import Derived.Test.YtalbgdbphdhhaaaSgBd
namespace Go.Proofs.Ytalbgdbphdhhaaa.Sg
open Go.RowKit Go.Shelf Go.Maps
set_option linter.unusedVariables false
set_option linter.unusedSimpArgs false

def putX (W : Nat) (great : Bool) (rows : List Row) (key : Row) (cost : Int) : List Row × Bool := if key.length = W then putB W great rows key cost else (rows, false)
/-- What a Put leaves. -/
def BestPost (w w' : World) (B g W : Nat) (F : Nat → Prop) (great : Bool) (rows : List Row) : Prop :=
  ∃ F2 : Nat → Prop, BestI w' B g F2 W great rows ∧ (∀ b, F2 b → F b ∨ w.heap.size ≤ b) ∧ Keeps (fun b => ¬ F b) w w'
theorem copy_src {w : World} {ok : Nat → Prop} {A : Option Addr} {n c : Nat} {key : Row} (h : RowAt w ok (.slice A n c) key) (hp : 0 < (key.map (Value.int .i64)).length) : ∃ ad, A = some ad ∧ ∀ j v, (key.map (Value.int .i64))[j]? = some v → w.cell? (ad.add j) = some v := by
  rw [List.length_map] at hp
  obtain ⟨b, o, u, rfl, _, _, _⟩ := h.at_ 0 hp
  refine ⟨_, rfl, fun j v hv => ?_⟩
  have hj : j < key.length := by have := (List.getElem?_eq_some_iff.1 hv).1; simpa using this
  obtain ⟨b2, o2, u2, e, _, _, hc, rfl, _⟩ := h.at_ j hj
  cases e
  rw [List.getElem?_map, List.getElem?_eq_getElem hj] at hv
  obtain rfl := Option.some.inj hv
  rw [add_at]; exact hc
theorem copy_done (key : Row) (cost : Int) : ((Go.splice (madeCells #[.int .i64 0] (key.length + 1)).toList 0 (key.map (Value.int .i64))).toArray.setIfInBounds key.length (.int .i64 cost)) = ((key ++ [cost]).map (Value.int .i64)).toArray := by
  unfold Go.splice
  have hl : (madeCells #[Value.int .i64 0] (key.length + 1)).toList.length = key.length + 1 := by simp [madeCells]
  generalize (madeCells #[Value.int .i64 0] (key.length + 1)).toList = L at hl
  have h1 : (L.drop (0 + (key.map (Value.int .i64)).length)).length = 1 := by simp; omega
  obtain ⟨z, hz⟩ := List.length_eq_one_iff.1 h1
  rw [hz]
  simp [List.set_append_right]
theorem copy_cell (key : Row) : ∃ z, (Go.splice (madeCells #[.int .i64 0] (key.length + 1)).toList 0 (key.map (Value.int .i64)))[key.length]? = some z := by
  have hl : (Go.splice (madeCells #[.int .i64 0] (key.length + 1)).toList 0 (key.map (Value.int .i64))).length = key.length + 1 := by
    rw [Go.length_splice _ _ _ (by simp [madeCells])]; simp [madeCells]
  exact ⟨_, List.getElem?_eq_getElem (by rw [hl]; omega)⟩
theorem made_new (w : World) (n : Nat) : (w.alloc (.cells (madeCells #[.int .i64 0] n) 2)).heap[w.heap.size]? = some (.cells ((madeCells #[.int .i64 0] n).toList).toArray 2 (0, 0)) := by
  rw [Array.toArray_toList]; exact World.alloc_heap_new _ _

/-- Behind the map's update. -/
structure Upd (w w6 : World) (B g mb W : Nat) (great : Bool) (rv : Value) (bs : List Nat) (n : Nat) (D2 : DataW Unit) (rows : List Row) (F : Nat → Prop) : Prop where
  map : w6.ownsMap Try.prog 9 (plainElem Try.prog 3) mb (n + 1) D2
  keeps : Keeps (fun b => b ≠ mb) w w6
theorem Upd.cells {w w6 : World} {B g mb W n : Nat} {great : Bool} {rv : Value} {bs : List Nat} {D D2 : DataW Unit} {rows : List Row} {F : Nat → Prop} (u : Upd w w6 B g mb W great rv bs n D2 rows F) (h : BestAt w B g mb W great rv bs n D rows) : w6.heap[g]? = some (.cells #[.int .i64 W, .bool great, .map (some mb), rv] 60 (0, 0)) := by
  refine (u.keeps.block g h.lts.1 (fun e => ?_)).trans h.blk
  obtain ⟨es, clock, hm, _⟩ := h.map
  have hb := h.blk
  rw [e, hm] at hb
  cases hb
theorem BestAt.ne {w : World} {B g mb W n : Nat} {great : Bool} {rv : Value} {bs : List Nat} {D : DataW Unit} {rows : List Row} (h : BestAt w B g mb W great rv bs n D rows) :
    g ≠ mb ∧ (∀ b, rv.ownBlock = some b → b ≠ g ∧ b ≠ mb ∧ b ∉ bs) ∧ (∀ b ∈ bs, b ≠ g ∧ b ≠ mb) := by
  obtain ⟨es, clock, hm, _⟩ := h.map
  have hb := h.blk
  have hr : ∀ b ∈ bs, ∃ cs, w.heap[b]? = some (.cells cs 2 (0, 0)) := fun b hbs => by
    obtain ⟨i, hi, rfl⟩ := List.mem_iff_getElem.1 hbs
    exact ⟨_, h.row i (by rw [← h.bsl]; exact hi) _ (List.getElem?_eq_getElem hi)⟩
  have hv : ∀ b, rv.ownBlock = some b → ∃ cs, w.heap[b]? = some (.cells cs 23 (0, 0)) := fun b hb2 => by
    rcases h.own.2 with ⟨h1, h2⟩ | ⟨b3, cap, cur, h1, hb3, hh, _⟩
    · subst h1; cases hb2
    · subst h1; cases hb2; exact ⟨_, hh⟩
  refine ⟨fun e => ?_, fun b hb2 => ⟨fun e => ?_, fun e => ?_, fun hm2 => ?_⟩, fun b hb2 => ⟨fun e => ?_, fun e => ?_⟩⟩
  · rw [e, hm] at hb; cases hb
  · obtain ⟨cs, hc⟩ := hv b hb2
    rw [e, hb] at hc
    have := (Obj.cells.inj (Option.some.inj hc)).2.1
    exact absurd this (by decide)
  · obtain ⟨cs, hc⟩ := hv b hb2
    rw [e, hm] at hc; cases hc
  · obtain ⟨cs, hc⟩ := hv b hb2
    obtain ⟨cs2, hc2⟩ := hr b hm2
    rw [hc] at hc2
    have := (Obj.cells.inj (Option.some.inj hc2)).2.1
    exact absurd this (by decide)
  · obtain ⟨cs, hc⟩ := hr b hb2
    rw [e, hb] at hc
    have := (Obj.cells.inj (Option.some.inj hc)).2.1
    exact absurd this (by decide)
  · obtain ⟨cs, hc⟩ := hr b hb2
    rw [e, hm] at hc; cases hc
theorem BestAt.added {w w6 w7 w10 : World} {B g mb n : Nat} {great : Bool} {rv rv2 : Value} {bs : List Nat} {D : DataW Unit} {rows : List Row} {F : Nat → Prop} {key : Row} {cost : Int} {o : Obj}
    (h : BestAt w B g mb key.length great rv bs n D rows) (hF : F g ∧ F mb ∧ (∀ b, rv.ownBlock = some b → F b) ∧ (∀ b ∈ bs, F b) ∧ (∀ b, F b → B ≤ b))
    (hlim : rows.length + 1 < 1000000) (hi : ∀ x ∈ key, In64 x) (hc : In64 cost) (hx : idxB key.length rows key = none)
    (u : Upd w w6 B g mb key.length great rv bs n (D.put (nameL key) (.lit (.int .i64 rows.length))) rows F)
    (h7 : w7.heap[w6.heap.size]? = some (.cells (Go.splice (madeCells #[.int .i64 0] (key.length + 1)).toList 0 (key.map (Value.int .i64))).toArray 2 (0, 0))) (b7 : Below w6.heap.size w6 w7)
    (o10 : w10.ownsRow B 23 1 rv2 (rows.length + 1) (bs.map (hdr key.length) ++ [.slice (some ⟨w6.heap.size, 0, none⟩) (key.length + 1) (key.length + 1)])) (g10 : ((w7.setCell ⟨w6.heap.size, key.length, none⟩ (.int .i64 cost)).alloc o).grownBy w10 rv.ownBlock)
    (b10 : rv2.ownBlock = rv.ownBlock ∨ rv2.ownBlock = some ((w7.setCell ⟨w6.heap.size, key.length, none⟩ (.int .i64 cost)).alloc o).heap.size) :
    BestPost w (w10.setCell ⟨g, 3, none⟩ rv2) B g key.length F great (rows ++ [key ++ [cost]]) := by
  obtain ⟨l1, l2, l3, l4⟩ := h.lts
  obtain ⟨n1, n2, n3⟩ := h.ne
  have s6 := u.keeps.size
  have s7 : w6.heap.size < w7.heap.size := (Array.getElem?_eq_some_iff.1 h7).1
  obtain ⟨w8, hw8⟩ : ∃ w8, w7.setCell ⟨w6.heap.size, key.length, none⟩ (.int .i64 cost) = w8 := ⟨_, rfl⟩
  have k8 : Keeps (fun b => b ≠ w6.heap.size) w7 w8 := by rw [← hw8]; exact Keeps.setCell w7 ⟨w6.heap.size, key.length, none⟩ _
  have h8 : w8.heap[w6.heap.size]? = some (.cells ((key ++ [cost]).map (Value.int .i64)).toArray 2 (0, 0)) := by
    rw [← hw8, Go.heap_setCell_same _ _ _ _ _ _ h7, copy_done]
  rw [hw8] at g10 b10
  -- everything of w6 stays to w8
  have k68 : Keeps (fun _ => True) w6 w8 := (Keeps.all b7 _).trans (ok2 := fun b => b ≠ w6.heap.size) k8 (fun b hb _ => by omega)
  have k89 : Keeps (fun _ => True) w8 (w8.alloc o) := Keeps.alloc _ _ _
  have s8 := k68.size
  have s8' := k8.size
  have k10 := Keeps.grown g10
  have k11 : Keeps (fun b => b ≠ g) w10 (w10.setCell ⟨g, 3, none⟩ rv2) := Keeps.setCell w10 ⟨g, 3, none⟩ _
  obtain ⟨w9, hw9⟩ : ∃ w9, w8.alloc o = w9 := ⟨_, rfl⟩
  rw [hw9] at k89 k10 b10 g10
  have s9 := k89.size
  have s10 := k10.size
  obtain ⟨w11, hw11⟩ : ∃ w11, w10.setCell ⟨g, 3, none⟩ rv2 = w11 := ⟨_, rfl⟩
  rw [hw11] at k11 ⊢
  have s11 := k11.size
  have nbv : rv.ownBlock ≠ some w6.heap.size := fun e => by have := l3 _ e; omega
  have nb2 : rv2.ownBlock ≠ some w6.heap.size := fun e => by
    rcases b10 with q | q
    · rw [q] at e; exact nbv e
    · rw [q] at e; have := Option.some.inj e; omega
  -- from w on
  have k69 : Keeps (fun b => rv.ownBlock ≠ some b) w6 w10 := (k68.mono (fun _ _ _ => trivial)).trans ((k89.mono (ok2 := fun b => rv.ownBlock ≠ some b) (fun _ _ _ => trivial)).trans k10 (fun _ _ h => h)) (fun _ _ h => h)
  have kk : Keeps (fun b => b ≠ mb ∧ rv.ownBlock ≠ some b) w w10 := (u.keeps.mono (fun b _ hb => hb.1)).trans k69 (fun _ _ h => h.2)
  have kall : Keeps (fun b => b ≠ mb ∧ rv.ownBlock ≠ some b ∧ b ≠ g) w w11 := (kk.mono (fun b _ hb => ⟨hb.1, hb.2.1⟩)).trans k11 (fun _ _ h => h.2.2)
  have blkg : w10.heap[g]? = some (.cells #[.int .i64 key.length, .bool great, .map (some mb), rv] 60 (0, 0)) := (kk.block g l1 ⟨n1, fun e => (n2 g e).1 rfl⟩).trans h.blk
  have bge : ∀ b, rv2.ownBlock = some b → b < w10.heap.size := fun b hb => (o10.lt b hb).2
  have ng2 : rv2.ownBlock ≠ some g := fun e => by
    rcases b10 with q | q
    · rw [q] at e; exact (n2 g e).1 rfl
    · rw [q] at e; have := Option.some.inj e; omega
  refine ⟨fun b => F b ∨ w.heap.size ≤ b, ⟨mb, rv2, bs ++ [w6.heap.size], n + 1, _, ⟨?_, ?_, ?_, ?_, ?_, ?_, h.link.snoc rfl hi hx, h.good.snoc rfl hi hc hx, by rw [List.length_append]; exact hlim, h.wid⟩, .inl hF.1, .inl hF.2.1, fun b hb => ?_, fun b hb => ?_, fun b hb => ?_⟩, fun b hb => hb, kall.mono (fun b _ hb => ⟨fun e => hb (e ▸ hF.2.1), fun e => hb (hF.2.2.1 b e), fun e => hb (e ▸ hF.1)⟩)⟩
  · rw [← hw11, Go.heap_setCell_same _ _ _ _ _ _ blkg]; rfl
  · obtain ⟨es, clock, hm, r⟩ := u.map
    refine ⟨es, clock, ?_, r⟩
    have l6 : mb < w6.heap.size := Nat.lt_of_lt_of_le l2 s6
    exact (k11.block mb (by omega) (fun e => n1 e.symm)).trans ((k69.block mb l6 (fun e => (n2 mb e).2.1 rfl)).trans hm)
  · rw [List.length_append, List.length_singleton]; have := h.nle; omega
  · rw [List.length_append, List.map_append]
    exact k11.stays.owns o10 (fun b hb e => ng2 (e ▸ hb))
  · rw [List.nodup_append]
    refine ⟨h.nod, List.nodup_cons.2 ⟨List.not_mem_nil, List.nodup_nil⟩, fun a ha b hb e => ?_⟩
    rw [List.mem_singleton.1 hb] at e
    have := l4 a ha
    omega
  · intro i hi2 b hb
    by_cases q : i < rows.length
    · rw [List.getElem?_append_left (by rw [h.bsl]; exact q)] at hb
      rw [List.getElem_append_left q]
      have hm := List.mem_of_getElem? hb
      exact (kall.block b (l4 b hm) ⟨(n3 b hm).2, fun e => (n2 b e).2.2 hm, (n3 b hm).1⟩).trans (h.row i q b hb)
    · have e : i = rows.length := by simp at hi2; omega
      subst e
      rw [List.getElem?_append_right (by rw [h.bsl]; exact Nat.le_refl _), h.bsl, Nat.sub_self] at hb
      obtain rfl : w6.heap.size = b := by simpa using hb
      have e2 : (rows ++ [key ++ [cost]])[rows.length] = key ++ [cost] := by simp
      rw [e2]
      have s68 : w6.heap.size < w8.heap.size := by omega
      exact (k11.block _ (by omega) (by omega)).trans ((k10.block _ (by omega) nbv).trans ((k89.block _ s68 trivial).trans h8))
  · rcases b10 with q | q
    · rw [q] at hb; exact .inl (hF.2.2.1 b hb)
    · rw [q] at hb; have := Option.some.inj hb; exact .inr (by omega)
  · rcases List.mem_append.1 hb with hb | hb
    · exact .inl (hF.2.2.2.1 b hb)
    · rw [List.mem_singleton.1 hb]; exact .inr s6
  · rcases hb with hb | hb
    · exact hF.2.2.2.2 b hb
    · have := hF.2.2.2.2 g hF.1; omega
theorem BestAt.changed {w w4 : World} {B g mb n i : Nat} {great : Bool} {rv : Value} {bs : List Nat} {D : DataW Unit} {rows : List Row} {F : Nat → Prop} {key : Row} {cost : Int} {b : Nat}
    (h : BestAt w B g mb key.length great rv bs n D rows) (hF : F g ∧ F mb ∧ (∀ b, rv.ownBlock = some b → F b) ∧ (∀ b ∈ bs, F b) ∧ (∀ b, F b → B ≤ b))
    (hi : ∀ x ∈ key, In64 x) (hc : In64 cost) (hx : idxB key.length rows key = some i) (hb : bs[i]? = some b) (h4 : Below w.heap.size w w4) :
    BestPost w (w4.setCell ⟨b, key.length, none⟩ (.int .i64 cost)) B g key.length F great (rows.set i (key ++ [cost])) := by
  obtain ⟨l1, l2, l3, l4⟩ := h.lts
  obtain ⟨n1, n2, n3⟩ := h.ne
  have hbm := List.mem_of_getElem? hb
  obtain ⟨hir, hk⟩ := idxB_some hx
  have hll := (h.good.row _ (List.getElem_mem hir)).1
  have h4' := h.stays (F := fun _ => True) (Stays.of_below h4 _) trivial trivial (fun _ _ => trivial) (fun _ _ => trivial)
  have k5 : Keeps (fun k => k ≠ b) w4 (w4.setCell ⟨b, key.length, none⟩ (.int .i64 cost)) := Keeps.setCell w4 ⟨b, key.length, none⟩ _
  have kall : Keeps (fun k => k ≠ b) w (w4.setCell ⟨b, key.length, none⟩ (.int .i64 cost)) := (Keeps.all h4 _).trans k5 (fun _ _ hk => hk)
  have hrb := Go.heap_setCell_same _ _ key.length _ _ (.int .i64 cost) (h4'.row i hir b hb)
  generalize w4.setCell ⟨b, key.length, none⟩ (.int .i64 cost) = w5 at *
  refine ⟨F, ⟨mb, rv, bs, n, D, ⟨(kall.block g l1 (fun e => (n3 b hbm).1 e.symm)).trans h.blk, ?_, by rw [List.length_set]; exact h.nle, ?_, h.nod, ?_, h.link.set rfl hx, h.good.set rfl hi hc hx, by rw [List.length_set]; exact h.lim, h.wid⟩, hF⟩, fun b hb => .inl hb, kall.mono (fun k _ hk e => hk (e ▸ hF.2.2.2.1 b hbm))⟩
  · obtain ⟨es, clock, hm, r⟩ := h.map
    exact ⟨es, clock, (kall.block mb l2 (fun e => (n3 b hbm).2 e.symm)).trans hm, r⟩
  · rw [List.length_set]
    exact kall.stays.owns h.own (fun k hk e => (n2 k hk).2.2 (e ▸ hbm))
  · intro j hj c hcj
    have hj2 : j < rows.length := by simpa using hj
    by_cases q : i = j
    · subst q
      rw [hb] at hcj
      obtain rfl := Option.some.inj hcj
      rw [hrb]
      congr 2
      rw [List.getElem_set_self]
      have e1 : rows[i] = key ++ [rows[i][key.length]] := by
        conv => lhs; rw [← List.take_append_drop key.length rows[i]]
        rw [hk]
        congr 1
        rw [List.drop_eq_getElem_cons (by omega), List.drop_eq_nil_of_le (by omega)]
      rw [e1]
      simp [List.set_append_right]
    · rw [List.getElem_set_ne q]
      have hne : c ≠ b := fun e => by
        subst e
        obtain ⟨x1, x2⟩ := List.getElem?_eq_some_iff.1 hb
        obtain ⟨y1, y2⟩ := List.getElem?_eq_some_iff.1 hcj
        rcases Nat.lt_or_gt_of_ne q with q2 | q2
        · exact List.pairwise_iff_getElem.1 h.nod i j x1 y1 q2 (by rw [x2, y2])
        · exact List.pairwise_iff_getElem.1 h.nod j i y1 x1 q2 (by rw [x2, y2])
      exact (kall.block c (l4 c (List.mem_of_getElem? hcj)) hne).trans (h.row j hj2 c hcj)
end Go.Proofs.Ytalbgdbphdhhaaa.Sg
