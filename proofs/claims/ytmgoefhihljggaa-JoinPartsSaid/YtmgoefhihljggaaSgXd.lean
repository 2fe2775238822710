/- The index behind its pointer, its blocks told apart by tags; contract of grow. -/
import Derived.Test.YtmgoefhihljggaaSgXc
import Derived.Deep.LoopGhost
import Derived.Deep.RegionWith
namespace Go.Proofs.Ytmgoefhihljggaa.Sg
open Go.RowKit Go.Shelf
set_option linter.unusedVariables false
set_option linter.unusedSimpArgs false

inductive Tag where
  | free | head | tab | gone
  | rows (k : Row)
abbrev nilS : Value := .slice none 0 0
theorem info_slot : (Try.prog.info? 73).map (fun i => (i.zero, i.size, i.bytes)) = some (some (.agg #[.slice none 0 0, .slice none 0 0]), 2, 48) := by kernel_rfl
theorem make_slots (n : Nat) (hn : n ≤ 1000000000) (w : World) :
    (Instr.makeSlice 68 (.int .i64 (n : Int)) (.int .i64 (n : Int))).run Try.prog w = .ok (.slice (some ⟨w.heap.size, 0, none⟩) n n) (w.alloc (.cells (madeCells #[.slice none 0 0, .slice none 0 0] (n * 2)) 73)) := by
  obtain ⟨i, hi, hz, hs, hb⟩ := info_parts info_slot
  have hb' : (i.bytes : Int) * (n : Int) ≤ 281474976710656 := by
    have h : ((i.bytes * n : Nat) : Int) ≤ 281474976710656 := by rw [hb]; omega
    rwa [Int.natCast_mul] at h
  have hr := run_make (P := Try.prog) w 68 73 i _ Try.underlying68 hi hz .i64 .i64 n n (by omega) (Int.le_refl _) hb' (by omega)
  simp only [Int.toNat_natCast, hs] at hr
  exact hr

theorem make_slots2 (N : Nat) (hn : 2 * N ≤ 1000000000) (w : World) :
    (Instr.makeSlice 68 (.int .i64 (2 * (N : Int))) (.int .i64 (2 * (N : Int)))).run Try.prog w = .ok (.slice (some ⟨w.heap.size, 0, none⟩) (2 * N) (2 * N)) (w.alloc (.cells (madeCells #[.slice none 0 0, .slice none 0 0] (2 * N * 2)) 73)) := by
  have := make_slots (2 * N) hn w
  rw [Int.natCast_mul] at this
  exact this
/-- One place of the own table. -/
def EntM (w : World) (B : Nat) (col : Nat → Tag) (u v : Value) (k : Row) (rs : List Int) : Prop :=
  RowAt w (fun b => col b = .free) u k ∧ w.ownsRow B 3 1 v rs.length (rs.map (Value.int .i64)) ∧ (∀ b, v.ownBlock = some b → col b = .rows k) ∧ (∀ x ∈ rs, In64 x) ∧ rs.length < 1000000 ∧ k.length < 1000000
def EntW (w : World) (B : Nat) (col : Nat → Tag) (u v : Value) : Option (Row × List Int) → Prop
  | none => u = nilS ∧ v = nilS
  | some (k, rs) => EntM w B col u v k rs ∧ rs ≠ []
/-- The index: its head's block, its table's block, its places. -/
structure IdxG (w : World) (B g sb N : Nat) (used : Nat) (col : Nat → Tag) (E : Nat → Value → Value → Prop) : Prop where
  cg : col g = .head
  cs : col sb = .tab
  ge : ∀ b, col b ≠ .free → B ≤ b
  pos : 0 < N
  lim : N < 100000000
  blk : ∃ kv, w.heap[g]? = some (.cells #[kv, .slice (some ⟨sb, 0, none⟩) N N, .int .i64 used] 70 (0, 0))
  own : ∃ cs, w.ownsRow B 73 2 (.slice (some ⟨sb, 0, none⟩) N N) N cs ∧ ∀ j, j < N → ∃ u v, cs[j * 2]? = some u ∧ cs[j * 2 + 1]? = some v ∧ E j u v
def ofTab (w : World) (B : Nat) (col : Nat → Tag) (T : Tab) (j : Nat) (u v : Value) : Prop := ∃ e, T[j]? = some e ∧ EntW w B col u v e
def IdxW (w : World) (B g sb N : Nat) (used : Nat) (col : Nat → Tag) (T : Tab) : Prop := T.length = N ∧ IdxG w B g sb N used col (ofTab w B col T)

theorem EntM.stays {w w' : World} {B : Nat} {col : Nat → Tag} {u v : Value} {k : Row} {rs : List Int} (h : EntM w B col u v k rs) (hs : Stays (fun b => col b = .free ∨ col b = .rows k) w w') : EntM w' B col u v k rs :=
  ⟨reads_row.stays h.1 (hs.mono fun b hb _ => .inl hb), hs.owns h.2.1 (fun b hb => .inr (h.2.2.1 b hb)), h.2.2⟩
theorem EntM.recol {w : World} {B : Nat} {col col2 : Nat → Tag} {u v : Value} {k : Row} {rs : List Int} (h : EntM w B col u v k rs) (hf : ∀ b, b < w.heap.size → col b = .free → col2 b = .free) (hr : ∀ b, b < w.heap.size → col b = .rows k → col2 b = .rows k) : EntM w B col2 u v k rs :=
  ⟨reads_row.mono h.1 (fun b hb hl => hf b hl hb), h.2.1, fun b hb => hr b (h.2.1.lt b hb).2 (h.2.2.1 b hb), h.2.2.2⟩
theorem EntW.stays {w w' : World} {B : Nat} {col : Nat → Tag} {u v : Value} {e : Option (Row × List Int)} (h : EntW w B col u v e) (hs : Stays (fun b => col b = .free ∨ ∃ k, (∃ rs, e = some (k, rs)) ∧ col b = .rows k) w w') : EntW w' B col u v e := by
  cases e with
  | none => exact h
  | some e => exact ⟨h.1.stays (hs.mono fun b hb _ => hb.imp id (fun h => ⟨_, ⟨_, rfl⟩, h⟩)), h.2⟩
theorem EntW.recol {w : World} {B : Nat} {col col2 : Nat → Tag} {u v : Value} {e : Option (Row × List Int)} (h : EntW w B col u v e) (hf : ∀ b, b < w.heap.size → col b = .free → col2 b = .free) (hr : ∀ b k, b < w.heap.size → col b = .rows k → col2 b = .rows k) : EntW w B col2 u v e := by
  cases e with
  | none => exact h
  | some e => exact ⟨h.1.recol hf (fun b hb => hr b _ hb), h.2⟩
theorem IdxG.glt {w : World} {B g sb N used : Nat} {col : Nat → Tag} {E : Nat → Value → Value → Prop} (h : IdxG w B g sb N used col E) : g < w.heap.size ∧ sb < w.heap.size ∧ B ≤ g ∧ B ≤ sb ∧ g ≠ sb := by
  obtain ⟨kv, hb⟩ := h.blk
  obtain ⟨cs, ho, _⟩ := h.own
  have h1 := (Array.getElem?_eq_some_iff.1 hb).1
  have h2 := ho.lt sb rfl
  refine ⟨h1, h2.2, h.ge g (by rw [h.cg]; simp), h2.1, fun e => ?_⟩
  have := h.cg; rw [e, h.cs] at this; cases this
theorem IdxW.stays {w w' : World} {B g sb N used : Nat} {col : Nat → Tag} {T : Tab} (h : IdxW w B g sb N used col T) (hs : Stays (fun b => b < w.heap.size) w w') : IdxW w' B g sb N used col T := by
  obtain ⟨hl, h⟩ := h
  obtain ⟨h1, h2, _⟩ := h.glt
  obtain ⟨kv, hb⟩ := h.blk
  obtain ⟨cs, ho, he⟩ := h.own
  refine ⟨hl, h.cg, h.cs, h.ge, h.pos, h.lim, ⟨kv, hs.blk h1 hb⟩, cs, hs.owns ho (fun b hb => by cases hb; exact h2), fun j hj => ?_⟩
  obtain ⟨u, v, e1, e2, e, e3, e4⟩ := he j hj
  exact ⟨u, v, e1, e2, e, e3, e4.stays (fun b _ hl => hs b hl hl)⟩
def cut (w : World) (col : Nat → Tag) (b : Nat) : Tag := if b < w.heap.size then col b else .free
theorem IdxW.cut {w : World} {B g sb N used : Nat} {col : Nat → Tag} {T : Tab} (h : IdxW w B g sb N used col T) : IdxW w B g sb N used (cut w col) T := by
  obtain ⟨hl, h⟩ := h
  obtain ⟨h1, h2, _⟩ := h.glt
  obtain ⟨cs, ho, he⟩ := h.own
  refine ⟨hl, by unfold Sg.cut; rw [if_pos h1]; exact h.cg, by unfold Sg.cut; rw [if_pos h2]; exact h.cs, fun b hb => ?_, h.pos, h.lim, h.blk, cs, ho, fun j hj => ?_⟩
  · unfold Sg.cut at hb
    split at hb
    · exact h.ge b hb
    · exact absurd rfl hb
  · obtain ⟨u, v, e1, e2, e, e3, e4⟩ := he j hj
    exact ⟨u, v, e1, e2, e, e3, e4.recol (fun b hb hc => by unfold Sg.cut; rw [if_pos hb]; exact hc) (fun b k hb hc => by unfold Sg.cut; rw [if_pos hb]; exact hc)⟩
theorem IdxW.below {w w' : World} {B g sb N used : Nat} {col : Nat → Tag} {T : Tab} (h : IdxW w B g sb N used col T) (hb : Below w.heap.size w w') : IdxW w' B g sb N used (Sg.cut w col) T := h.cut.stays (fun b hk _ => hb.block b hk)
/-- What find wants. -/
theorem EntW.at_ {w : World} {B : Nat} {col : Nat → Tag} {u v : Value} {e : Option (Row × List Int)} (h : EntW w B col u v e) : EntAt w (fun _ => True) u v e := by
  cases e with
  | none => exact h
  | some e =>
    obtain ⟨⟨h1, h2, _, h3, h4, h5⟩, h6⟩ := h
    exact ⟨reads_row.mono h1 (fun _ _ _ => trivial), reads_row.mono (RowAt.of_own h2 (by omega) h3) (fun _ _ _ => trivial), h6, h5⟩
theorem own_cell {w : World} {B e size n b cap : Nat} {cs : List Value} (ho : w.ownsRow B e size (.slice (some ⟨b, 0, none⟩) n cap) n cs) {j : Nat} {u : Value} (h : cs[j]? = some u) : w.cell? ⟨b, j, none⟩ = some u := by
  have hj : j < cs.length := (List.getElem?_eq_some_iff.1 h).1
  exact (ho.cellAt j (by rw [← ho.1]; exact hj)).trans h
theorem IdxW.tabAt {w : World} {B g sb N used : Nat} {col : Nat → Tag} {T : Tab} (h : IdxW w B g sb N used col T) : TabAt w (fun _ => True) sb T := by
  obtain ⟨hl, h⟩ := h
  obtain ⟨cs, ho, he⟩ := h.own
  refine ⟨trivial, fun j hj => ?_⟩
  obtain ⟨u, v, e1, e2, e, e3, e4⟩ := he j (by omega)
  rw [List.getElem?_eq_getElem hj] at e3
  cases e3
  exact ⟨u, v, own_cell ho e1, own_cell ho e2, e4.at_⟩

/-- A table that is being filled out of another one. -/
structure Growing (w0 w : World) (B nsb M : Nat) (col : Nat → Tag) (T : Tab) : Prop where
  len : T.length = M
  below : Below w0.heap.size w0 w
  own : ∃ cs, w.ownsRow w0.heap.size 73 2 (.slice (some ⟨nsb, 0, none⟩) M M) M cs ∧ ∀ j, j < M → ∃ u v, cs[j * 2]? = some u ∧ cs[j * 2 + 1]? = some v ∧ ∃ e, T[j]? = some e ∧ EntW w0 B col u v e
theorem Growing.tabAt {w0 w : World} {B nsb M : Nat} {col : Nat → Tag} {T : Tab} (h : Growing w0 w B nsb M col T) : TabAt w (fun _ => True) nsb T := by
  obtain ⟨cs, ho, he⟩ := h.own
  refine ⟨trivial, fun j hj => ?_⟩
  obtain ⟨u, v, e1, e2, e, e3, e4⟩ := he j (by rw [← h.len]; exact hj)
  rw [List.getElem?_eq_getElem hj] at e3
  cases e3
  exact ⟨u, v, own_cell ho e1, own_cell ho e2, e4.at_.stays (Stays.of_below h.below _)⟩
theorem Growing.start {w0 : World} {B : Nat} (M : Nat) (hM : M ≤ 1000000000) (col : Nat → Tag) : Growing w0 (w0.alloc (.cells (madeCells #[.slice none 0 0, .slice none 0 0] (M * 2)) 73)) B w0.heap.size M col (List.replicate M none) := by
  refine ⟨by simp, below_alloc0 (Below.refl _ _) _, ?_⟩
  refine ⟨(madeCells #[.slice none 0 0, .slice none 0 0] (M * 2)).toList, ?_, fun j hj => ?_⟩
  · refine ⟨by simp [madeCells], .inr ⟨w0.heap.size, M, _, rfl, Nat.le_refl _, heap_alloc_new w0 _, Nat.le_refl _, by unfold maxLen; omega, by simp [madeCells], by rw [List.take_of_length_le (by simp [madeCells])]⟩⟩
  · refine ⟨nilS, nilS, ?_, ?_, none, by rw [List.getElem?_replicate, if_pos hj], rfl, rfl⟩
    · simp [madeCells, show j * 2 < M * 2 from by omega]
    · simp [madeCells, show j * 2 + 1 < M * 2 from by omega, Nat.add_mod]
theorem Growing.then_ {w0 w w' : World} {B nsb M : Nat} {col : Nat → Tag} {T : Tab} (h : Growing w0 w B nsb M col T) (hb : Below w.heap.size w w') : Growing w0 w' B nsb M col T := by
  obtain ⟨cs, ho, he⟩ := h.own
  have hs := Stays.of_below hb (fun _ => True)
  exact ⟨h.len, h.below.trans (hb.mono h.below.size), cs, hs.owns ho (fun _ _ => trivial), he⟩
theorem set2 {cs : List Value} {i j : Nat} {a b : Value} {n : Nat} (hl : cs.length = n * 2) (hi : i < n) (hj : j < n) :
    (((cs.set (i * 2) a).set (i * 2 + 1) b)[j * 2]? = if i = j then some a else cs[j * 2]?) ∧ (((cs.set (i * 2) a).set (i * 2 + 1) b)[j * 2 + 1]? = if i = j then some b else cs[j * 2 + 1]?) := by
  constructor
  · rw [List.getElem?_set, if_neg (by omega), List.getElem?_set]
    by_cases e : i = j
    · subst e; rw [if_pos rfl, if_pos rfl, if_pos (by omega)]
    · rw [if_neg (by omega), if_neg e]
  · rw [List.getElem?_set]
    by_cases e : i = j
    · subst e; rw [if_pos rfl, if_pos rfl, if_pos (by simp; omega)]
    · rw [if_neg (by omega), if_neg e, List.getElem?_set, if_neg (by omega)]
theorem Growing.put {w0 w : World} {B nsb M : Nat} {col : Nat → Tag} {T : Tab} (h : Growing w0 w B nsb M col T) {i : Nat} (hi : i < M) {u v : Value} {e : Option (Row × List Int)} (he : EntW w0 B col u v e) :
    Growing w0 ((w.setCell ⟨nsb, i * 2, none⟩ u).setCell ⟨nsb, i * 2 + 1, none⟩ v) B nsb M col (T.set i e) := by
  obtain ⟨cs, ho, hes⟩ := h.own
  have hb : w0.heap.size ≤ nsb := (ho.lt nsb rfl).1
  have hcl := ho.1
  obtain ⟨o1, _⟩ := ho.stored (i * 2) u
  obtain ⟨o2, _⟩ := o1.stored (i * 2 + 1) v
  refine ⟨by rw [List.length_set]; exact h.len, below_setCell (below_setCell h.below (p := ⟨nsb, i * 2, none⟩) hb _) (p := ⟨nsb, i * 2 + 1, none⟩) hb _, _, o2, fun j hj => ?_⟩
  obtain ⟨s1, s2⟩ := set2 (a := u) (b := v) hcl hi hj
  rw [s1, s2, get_set]
  by_cases e' : i = j
  · subst e'
    rw [if_pos rfl, if_pos rfl, if_pos rfl, if_pos (by rw [h.len]; exact hi)]
    exact ⟨u, v, rfl, rfl, e, rfl, he⟩
  · rw [if_neg e', if_neg e', if_neg e']
    exact hes j hj
theorem grown_old {w : World} {nsb sb b : Nat} {col : Nat → Tag} (h1 : b < w.heap.size) (h2 : w.heap.size ≤ nsb) (h3 : b ≠ sb) : (if b = nsb then Tag.tab else if b = sb then .gone else Sg.cut w col b) = col b := by
  rw [if_neg (by omega), if_neg h3]
  unfold Sg.cut
  rw [if_pos h1]
theorem owns_mono {w : World} {B B2 e size n : Nat} {v : Value} {xs : List Value} (h : w.ownsRow B e size v n xs) (hb : B2 ≤ B) : w.ownsRow B2 e size v n xs := by
  refine ⟨h.1, ?_⟩
  rcases h.2 with h0 | ⟨b, cap, cur, h1, h2, h3⟩
  · exact .inl h0
  · exact .inr ⟨b, cap, cur, h1, by omega, h3⟩
theorem blk3 {w : World} {g : Nat} {c0 c1 c2 : Value} {T : TypeId} (h : w.heap[g]? = some (.cells #[c0, c1, c2] T (0, 0))) :
    w.cell? ⟨g, 0, none⟩ = some c0 ∧ w.cell? ⟨g, 1, none⟩ = some c1 ∧ w.cell? ⟨g, 2, none⟩ = some c2 ∧ ∀ j, w.frozen? ⟨g, j, none⟩ = false :=
  ⟨by rw [cell_of_row w g 0 _ _ _ h]; rfl, by rw [cell_of_row w g 1 _ _ _ h]; rfl, by rw [cell_of_row w g 2 _ _ _ h]; rfl, fun j => frozen_of_row w g j _ _ h⟩
def grown (w : World) (nsb sb : Nat) (col : Nat → Tag) (b : Nat) : Tag := if b = nsb then .tab else if b = sb then .gone else Sg.cut w col b

set_option maxHeartbeats 2000000 in
set_option maxRecDepth 100000 in
theorem grow_any (w : World) (B g sb N used : Nat) (col : Nat → Tag) (T : Tab) (h : IdxW w B g sb N used col T) (hg : GoodT Hn T) (hN : 2 * N < 100000000) :
    Calls Try.prog 57 #[.pointer (some ⟨g, 0, none⟩)] w fun e w' => e = .returned (.tuple #[]) ∧ Below B w w' ∧ ∃ sb' T', IdxW w' B g sb' (2 * N) used (grown w sb' sb col) T' ∧ w.heap.size ≤ sb' ∧ GoodT Hn T' ∧ Moved T T' T.length ∧ cnt T' = cnt T ∧ Stays (fun b => col b = .free) w w' := by
  obtain ⟨kv, hblk⟩ := h.2.blk
  obtain ⟨k0, k1, k2, kf⟩ := blk3 hblk
  have hpos := h.2.pos
  have hm := make_slots2 N (by omega)
  have HW := Aside0.mk h
  have HG := Aside0.mk hg
  have HBK := Aside0.mk hblk
  have ST := Aside0.mk (Growing.start (w0 := w) (B := B) (2 * N) (by omega) col)
  have k1' := below_cell0 (ST.out.below) k1
  clear h hg hblk
  go_enter Try.func57, Try.ntmps57
  go_wp2
  go_loopw [17] (fun s17 wr => ∃ (m : Nat) (T' : Tab), s17 = .int .i64 m ∧ m ≤ N ∧ Aside0 (Growing w wr B w.heap.size (2 * N) col T' ∧ GoodT Hn T' ∧ Moved T T' m ∧ cnt T' = cnt (T.take m))) (fun s17 _ => N - (intOf s17).toNat)
  case atStart => exact ⟨0, _, rfl, Nat.zero_le _, ⟨ST.out, good_nil _ _ (by omega), moved_zero _ _, by rw [cnt_nil, List.take_zero]; rfl⟩⟩
  case round =>
    obtain ⟨m, T', rfl, hm0, HI⟩ := hrel
    have hbw := HI.out.1.below
    by_cases hlt : m < N
    · obtain ⟨cs, ho, hes⟩ := HW.out.2.own
      obtain ⟨u, v, e1, e2, e, e3, e4⟩ := hes m hlt
      have hc1 := below_cell0 hbw (own_cell ho e1)
      have hc2 := below_cell0 hbw (own_cell ho e2)
      have hE4 := Aside0.mk e4
      have hE3 := Aside0.mk e3
      cases e with
      | none =>
        obtain ⟨rfl, rfl⟩ := e4
        clear ho hes e1 e2 e3 hbw
        go_wp2
        go_roundw
        case rel =>
          refine ⟨m + 1, T', by go_num, by omega, ⟨HI.out.1.then_ (below_alloc0 (Below.refl _ _) _), HI.out.2.1, HI.out.2.2.1.skip hE3.out, ?_⟩⟩
          rw [cnt_take_none hE3.out]; exact HI.out.2.2.2
        case measure => simp [intOf]; omega
      | some kr =>
        obtain ⟨k, rs⟩ := kr
        obtain ⟨⟨r1, r2, r3, r4, r5, r6⟩, r7⟩ := e4
        obtain ⟨Ak, ck, rfl, _⟩ := r1.form
        obtain ⟨b2, cap2, hv⟩ : ∃ b2 cap2, v = .slice (some ⟨b2, 0, none⟩) rs.length cap2 := by
          obtain ⟨p, hp⟩ : ∃ p, rs.length = p + 1 := ⟨rs.length - 1, by cases rs with | nil => exact absurd rfl r7 | cons a l => simp⟩
          rw [hp] at r2
          obtain ⟨b2, cap2, hh⟩ := own_some r2
          exact ⟨b2, cap2, by rw [hp]; exact hh⟩
        subst hv
        obtain ⟨jf, hjf⟩ := free_of_cnt (T := T') (by have := HI.out.2.2.2; have := cnt_le (T.take m); have := HI.out.1.len; have h3 : (T.take m).length ≤ m := List.length_take_le _ _; omega)
        obtain ⟨D, hD1, hD2⟩ := fnd_ex hjf (Hn k) k
        obtain ⟨i, hi⟩ : ∃ i, (Hn k + D) % T'.length = i := ⟨_, rfl⟩
        have FI := Aside0.mk (show Fnd T' (Hn k) k i from ⟨D, hi.symm, by rw [← hi]; exact hD1, hD2⟩)
        have hi2 : i < 2 * N := by rw [← hi, HI.out.1.len]; exact Nat.mod_lt _ (by omega)
        obtain ⟨WA, hWA⟩ : ∃ WA, wr.alloc (.cells #[.slice Ak k.length ck, .slice (some ⟨b2, 0, none⟩) rs.length cap2] 73) = WA := ⟨_, rfl⟩
        have GA := Aside0.mk (show Growing w WA B w.heap.size (2 * N) col T' by rw [← hWA]; exact HI.out.1.then_ (below_alloc0 (Below.refl _ _) _))
        have FD := Aside0.mk (fun w' (hd : Drew WA w') => find_any w' (fun _ => True) (fun _ => True) w.heap.size (2 * N) i T' (.slice Ak k.length ck) k (GA.out.tabAt.below hd.below) GA.out.len (by omega) (by omega) (reads_row.stays (reads_row.mono r1 (fun _ _ _ => trivial)) (Stays.of_below (GA.out.below.trans (hd.below.mono GA.out.below.size)) _)) FI.out)
        obtain ⟨csn, hon, hen⟩ := GA.out.own
        obtain ⟨x1, x2, y1, y2, _⟩ := hen i hi2
        have c1 := own_cell hon y1
        have c2 := own_cell hon y2
        have f1 := hon.frozenAt (i * 2)
        have f2 := hon.frozenAt (i * 2 + 1)
        have t1 : WA.cell? ⟨wr.heap.size, 0, none⟩ = some (.slice Ak k.length ck) := by rw [← hWA]; simp
        have t2 : WA.cell? ⟨wr.heap.size, 1, none⟩ = some (.slice (some ⟨b2, 0, none⟩) rs.length cap2) := by rw [← hWA]; simp
        have HWA := Aside0.mk hWA
        clear ho hes e1 e2 e3 hbw hi hD1 hD2 hjf r1 r2 r3 r4 r5 r6 r7 hon hen y1 y2 hWA
        go_wp2_with fail
        rw [HWA.out]
        go_region_with (refine (FD.out _ (by first | exact Drew.refl _ | exact ⟨1, rfl⟩)).mono ?_; rintro e w' ⟨rfl, q, rfl⟩)
        all_goals
          go_wp2
          go_roundw
          case rel =>
            obtain ⟨p1, p2, p3⟩ := Moved.put HG.out HI.out.2.1 HI.out.2.2.1 hE3.out FI.out
            refine ⟨m + 1, T'.set i (some (k, rs)), by go_num, by omega, ⟨?_, p2, p3, ?_⟩⟩
            · exact (GA.out.then_ (below_drewN (Below.refl _ _) _)).put hi2 hE4.out
            · rw [cnt_take_some hE3.out, cnt_set_none p1, HI.out.2.2.2]
          case measure => simp [intOf]; omega
    · obtain rfl : m = N := by omega
      have hgl := HW.out.2.glt.1
      have c1 := below_cell0 hbw k1
      have f1 : wr.frozen? ⟨g, 1, none⟩ = false := by
        obtain ⟨_, _, _, ff⟩ := blk3 ((hbw.block g hgl).trans HBK.out)
        exact ff 1
      clear hbw hm k0 k1 k2 kf k1'
      go_wp2
      go_end0
      refine ⟨rfl, ?_⟩
      have hG := HI.out.1
      have hB := hG.below
      obtain ⟨g1, g2, g3, g4, g5⟩ := HW.out.2.glt
      have hs1 := Stays.setCell wr ⟨g, 1, none⟩ (.slice (some ⟨w.heap.size, 0, none⟩) (2 * m) (2 * m))
      have hs0 : Stays (fun b => b ≠ g) w (wr.setCell ⟨g, 1, none⟩ (.slice (some ⟨w.heap.size, 0, none⟩) (2 * m) (2 * m))) := ((Stays.of_below hB _).trans hs1 hB.size)
      have hTl : T.length = m := HW.out.1
      refine ⟨below_setCell (hB.mono (by omega)) (p := ⟨g, 1, none⟩) g3 _, w.heap.size, T', ⟨hG.len, ?_⟩, Nat.le_refl _, HI.out.2.1, by rw [hTl]; exact HI.out.2.2.1, by rw [HI.out.2.2.2, List.take_of_length_le (by omega)], hs0.mono (fun b hb _ e => by subst e; have := HW.out.2.cg; rw [hb] at this; cases this)⟩
      have col1 : ∀ b, b < w.heap.size → col b ≠ .tab → grown w w.heap.size sb col b = col b := fun b hb hc => grown_old hb (Nat.le_refl _) (fun e => hc (by rw [e]; exact HW.out.2.cs))
      refine ⟨by rw [col1 g g1 (by rw [HW.out.2.cg]; simp)]; exact HW.out.2.cg, by unfold grown; rw [if_pos rfl], fun b hb => ?_, by omega, by omega, ⟨kv, ?_⟩, ?_⟩
      · unfold grown at hb
        split at hb
        · omega
        · split at hb
          · omega
          · unfold Sg.cut at hb
            split at hb
            · exact HW.out.2.ge b hb
            · exact absurd rfl hb
      · have := heap_setCell_same wr g 1 _ _ (.slice (some ⟨w.heap.size, 0, none⟩) (2 * m) (2 * m)) ((hB.block g g1).trans HBK.out)
        simpa using this
      · obtain ⟨cs, ho, hes⟩ := hG.own
        refine ⟨cs, owns_mono (hs1.owns ho (fun b hb => by cases hb; exact fun e => by simp at e; omega)) (by omega), fun j hj => ?_⟩
        obtain ⟨u, v, e1, e2, e, e3, e4⟩ := hes j hj
        refine ⟨u, v, e1, e2, e, e3, ?_⟩
        refine (e4.recol (col2 := grown w w.heap.size sb col) (fun b hb hc => ?_) (fun b k hb hc => ?_)).stays (hs0.mono fun b hb hl e => ?_)
        · rw [col1 b hb (by rw [hc]; simp)]; exact hc
        · rw [col1 b hb (by rw [hc]; simp)]; exact hc
        · subst e
          have hgg := col1 b hl (by rw [HW.out.2.cg]; simp)
          rw [hgg, HW.out.2.cg] at hb
          rcases hb with hb | ⟨k, _, hb⟩ <;> cases hb
end Go.Proofs.Ytmgoefhihljggaa.Sg
