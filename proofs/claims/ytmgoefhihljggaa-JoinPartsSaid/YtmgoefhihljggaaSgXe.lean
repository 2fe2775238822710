/- Contract: add to an index: plain part. -/
import Derived.Test.YtmgoefhihljggaaSgXd
namespace Go.Proofs.Ytmgoefhihljggaa.Sg
open Go.RowKit Go.Shelf
set_option linter.unusedVariables false
set_option linter.unusedSimpArgs false

/-- An index, one place of whose table is being written. -/
def Mid (w : World) (B g sb N used : Nat) (col : Nat → Tag) (T : Tab) (i : Nat) (key : Row) (v : Value) (rs : List Int) : Prop :=
  T.length = N ∧ i < N ∧ (∀ j k r, j ≠ i → T[j]? = some (some (k, r)) → k ≠ key) ∧ IdxG w B g sb N used col (fun j u v' => if j = i then v' = v ∧ EntM w B col u v' key rs else ofTab w B col T j u v')
theorem IdxW.old {w : World} {B g sb N used : Nat} {col : Nat → Tag} {T : Tab} (h : IdxW w B g sb N used col T) (hg : GoodT Hn T) {i : Nat} {key : Row} {rs : List Int} (hi : T[i]? = some (some (key, rs))) :
    ∃ v, Mid w B g sb N used col T i key v rs ∧ w.cell? ⟨sb, i * 2 + 1, none⟩ = some v ∧ ∃ b c, v = .slice (some ⟨b, 0, none⟩) rs.length c := by
  obtain ⟨hl, h⟩ := h
  have hil := (List.getElem?_eq_some_iff.1 hi).1
  obtain ⟨cs, ho, hes⟩ := h.own
  obtain ⟨u, v, e1, e2, e, e3, e4⟩ := hes i (by omega)
  rw [hi] at e3
  cases e3
  refine ⟨v, ⟨hl, by omega, fun j k r hj hk e => ?_, h.cg, h.cs, h.ge, h.pos, h.lim, h.blk, cs, ho, fun j hj => ?_⟩, own_cell ho e2, ?_⟩
  · subst e; exact hj (hg.one hk hi)
  · obtain ⟨u', v', f1, f2, f3⟩ := hes j hj
    refine ⟨u', v', f1, f2, ?_⟩
    by_cases e : j = i
    · subst e
      rw [e1] at f1; rw [e2] at f2
      cases f1; cases f2
      rw [if_pos rfl]
      exact ⟨rfl, e4.1⟩
    · rw [if_neg e]; exact f3
  · have r2 := e4.1.2.1
    have r7 := e4.2
    obtain ⟨p, hp⟩ : ∃ p, rs.length = p + 1 := ⟨rs.length - 1, by cases rs with | nil => exact absurd rfl r7 | cons a l => simp⟩
    rw [hp] at r2
    obtain ⟨b2, cap2, hh⟩ := own_some r2
    exact ⟨b2, cap2, by rw [hp]; exact hh⟩
theorem IdxW.free_ {w : World} {B g sb N used : Nat} {col : Nat → Tag} {T : Tab} (h : IdxW w B g sb N used col T) {i : Nat} (hi : T[i]? = some none) :
    w.cell? ⟨sb, i * 2 + 1, none⟩ = some nilS ∧ w.cell? ⟨sb, i * 2, none⟩ = some nilS ∧ (∀ j, w.frozen? ⟨sb, j, none⟩ = false) := by
  obtain ⟨hl, h⟩ := h
  have hil := (List.getElem?_eq_some_iff.1 hi).1
  obtain ⟨cs, ho, hes⟩ := h.own
  obtain ⟨u, v, e1, e2, e, e3, e4⟩ := hes i (by omega)
  rw [hi] at e3
  cases e3
  obtain ⟨rfl, rfl⟩ := e4
  exact ⟨own_cell ho e2, own_cell ho e1, fun j => ho.frozenAt j⟩
theorem IdxG.ublk {w : World} {B g sb N used : Nat} {col : Nat → Tag} {E : Nat → Value → Value → Prop} (h : IdxG w B g sb N used col E) :
    w.cell? ⟨g, 1, none⟩ = some (.slice (some ⟨sb, 0, none⟩) N N) ∧ w.cell? ⟨g, 2, none⟩ = some (.int .i64 used) ∧ (∀ j, w.frozen? ⟨g, j, none⟩ = false) ∧ (∀ j, w.frozen? ⟨sb, j, none⟩ = false) := by
  obtain ⟨kv, hb⟩ := h.blk
  obtain ⟨_, h1, h2, h3⟩ := blk3 hb
  obtain ⟨cs, ho, _⟩ := h.own
  exact ⟨h1, h2, h3, fun j => ho.frozenAt j⟩
theorem Mid.cellv {w : World} {B g sb N used : Nat} {col : Nat → Tag} {T : Tab} {i : Nat} {key : Row} {v : Value} {rs : List Int} (h : Mid w B g sb N used col T i key v rs) :
    w.cell? ⟨sb, i * 2 + 1, none⟩ = some v ∧ w.ownsRow B 3 1 v rs.length (rs.map (Value.int .i64)) ∧ v.ownBlock ≠ some g ∧ v.ownBlock ≠ some sb := by
  obtain ⟨hl, hi, _, h⟩ := h
  obtain ⟨cs, ho, hes⟩ := h.own
  obtain ⟨u, v', e1, e2, e3⟩ := hes i hi
  rw [if_pos rfl] at e3
  obtain ⟨rfl, e4⟩ := e3
  refine ⟨own_cell ho e2, e4.2.1, fun e => ?_, fun e => ?_⟩
  · have := e4.2.2.1 g e; rw [h.cg] at this; cases this
  · have := e4.2.2.1 sb e; rw [h.cs] at this; cases this
/-- A new key is written, and counted. -/
theorem IdxW.new_ {w : World} {B g sb N used : Nat} {col : Nat → Tag} {T : Tab} (h : IdxW w B g sb N used col T) (hg : GoodT Hn T) {i : Nat} {key : Row} {kv : Value} (hi : T[i]? = some none) (hk : RowAt w (fun b => col b = .free) kv key) (hkl : key.length < 1000000) (hn : ∀ rs, ¬ Sg.Holds T key rs) :
    Mid ((w.setCell ⟨sb, i * 2, none⟩ kv).setCell ⟨g, 2, none⟩ (.int .i64 ((used + 1 : Nat) : Int))) B g sb N (used + 1) col T i key nilS [] := by
  obtain ⟨hl, h⟩ := h
  have hil := (List.getElem?_eq_some_iff.1 hi).1
  obtain ⟨g1, g2, g3, g4, g5⟩ := h.glt
  obtain ⟨cs, ho, hes⟩ := h.own
  obtain ⟨bk, hbk⟩ := h.blk
  have hcl := ho.1
  obtain ⟨o1, _⟩ := ho.stored (i * 2) kv
  have s1 := Stays.setCell w ⟨sb, i * 2, none⟩ kv
  have s2 := Stays.setCell (w.setCell ⟨sb, i * 2, none⟩ kv) ⟨g, 2, none⟩ (.int .i64 ((used + 1 : Nat) : Int))
  have ss : Stays (fun b => b ≠ sb ∧ b ≠ g) w ((w.setCell ⟨sb, i * 2, none⟩ kv).setCell ⟨g, 2, none⟩ (.int .i64 ((used + 1 : Nat) : Int))) :=
    (s1.mono (fun b hb _ => hb.1)).trans (s2.mono (fun b hb _ => hb.2)) (by simp)
  refine ⟨hl, by omega, fun j k r hj hk' e => ?_, h.cg, h.cs, h.ge, h.pos, h.lim, ⟨bk, ?_⟩, cs.set (i * 2) kv, s2.owns o1 (fun b hb => by cases hb; exact fun e => g5 e.symm), fun j hj => ?_⟩
  · subst e; exact hn r ⟨j, hk'⟩
  · have h1 := s1.blk (by exact g5) hbk
    have h2 := heap_setCell_same (w.setCell ⟨sb, i * 2, none⟩ kv) g 2 _ _ (.int .i64 ((used + 1 : Nat) : Int)) h1
    simpa using h2
  · obtain ⟨u, v, e1, e2, e, e3, e4⟩ := hes j hj
    by_cases hji : j = i
    · subst hji
      rw [hi] at e3
      cases e3
      obtain ⟨rfl, rfl⟩ := e4
      refine ⟨kv, nilS, by rw [List.getElem?_set, if_pos rfl, if_pos (by omega)], by rw [List.getElem?_set, if_neg (by omega)]; exact e2, ?_⟩
      rw [if_pos rfl]
      refine ⟨rfl, reads_row.stays hk (ss.mono fun b hb _ => ⟨fun e => ?_, fun e => ?_⟩), World.ownsRow_nil _ _ _ _, (fun b hb => by cases hb), (fun x hx => by cases hx), by simp, hkl⟩
      · subst e; rw [h.cs] at hb; cases hb
      · subst e; rw [h.cg] at hb; cases hb
    · refine ⟨u, v, by rw [List.getElem?_set, if_neg (by omega)]; exact e1, by rw [List.getElem?_set, if_neg (by omega)]; exact e2, ?_⟩
      rw [if_neg hji]
      refine ⟨e, e3, e4.stays (ss.mono fun b hb _ => ⟨fun e => ?_, fun e => ?_⟩)⟩
      · subst e
        rcases hb with hb | ⟨k, _, hb⟩ <;> rw [h.cs] at hb <;> cases hb
      · subst e
        rcases hb with hb | ⟨k, _, hb⟩ <;> rw [h.cg] at hb <;> cases hb
/-- The row is appended and the slice written back. -/
def rowsCol (v1 : Value) (key : Row) (col : Nat → Tag) (b : Nat) : Tag := open Classical in if v1.ownBlock = some b then .rows key else col b
theorem Mid.done {w w1 : World} {o : Obj} {B g sb N used : Nat} {col : Nat → Tag} {T : Tab} {i : Nat} {key : Row} {v v1 : Value} {rs : List Int} {r : Int} (h : Mid w B g sb N used col T i key v rs) (hr : In64 r) (hrl : rs.length + 1 < 1000000)
    (ho : w1.ownsRow B 3 1 v1 (rs.length + 1) (rs.map (Value.int .i64) ++ [.int .i64 r])) (hg : ((w.alloc o).drew).grownBy w1 v.ownBlock) (hv : v1.ownBlock = v.ownBlock ∨ v1.ownBlock = some ((w.alloc o).drew).heap.size) :
    IdxW (w1.setCell ⟨sb, i * 2 + 1, none⟩ v1) B g sb N used (rowsCol v1 key col) (T.set i (some (key, rs ++ [r]))) ∧ Below B w (w1.setCell ⟨sb, i * 2 + 1, none⟩ v1) := by
  obtain ⟨hl, hi, hne, h⟩ := h
  obtain ⟨g1, g2, g3, g4, g5⟩ := h.glt
  obtain ⟨cs, hos, hes⟩ := h.own
  obtain ⟨bk, hbk⟩ := h.blk
  have hcl := hos.1
  obtain ⟨ui, vi, i1, i2, i3⟩ := hes i hi
  rw [if_pos rfl] at i3
  obtain ⟨rfl, i4⟩ := i3
  have hsz : ((w.alloc o).drew).heap.size = w.heap.size + 1 := by simp
  have hgs := hg.size
  have sA : Stays (fun b => vi.ownBlock ≠ some b) w w1 := by
    refine Stays.trans (w1 := (w.alloc o).drew) ((Stays.alloc (fun _ => True) w o).mono fun _ _ _ => trivial) (Stays.of_grown hg) (by omega)
  have sB := Stays.setCell w1 ⟨sb, i * 2 + 1, none⟩ v1
  have ss : Stays (fun b => vi.ownBlock ≠ some b ∧ b ≠ sb) w (w1.setCell ⟨sb, i * 2 + 1, none⟩ v1) := (sA.mono fun b hb _ => hb.1).trans (sB.mono fun b hb _ => hb.2) (by omega)
  have tagv : ∀ b, vi.ownBlock = some b → col b = .rows key := i4.2.2.1
  have colk : ∀ b, b < w.heap.size → col b ≠ .rows key → rowsCol v1 key col b = col b := by
    intro b hb hc
    unfold rowsCol
    rw [if_neg]
    intro e
    rcases hv with hv | hv
    · exact hc (tagv b (hv ▸ e))
    · rw [hv] at e
      injection e with e
      omega
  have colr : ∀ b, rowsCol v1 key col b = .rows key ∨ rowsCol v1 key col b = col b := by
    intro b; unfold rowsCol; split
    · exact .inl rfl
    · exact .inr rfl
  have nvs : vi.ownBlock ≠ some sb := fun e => by have := tagv sb e; rw [h.cs] at this; cases this
  have nvg : vi.ownBlock ≠ some g := fun e => by have := tagv g e; rw [h.cg] at this; cases this
  have hB : B ≤ w.heap.size := by omega
  have bel : Below B w w1 := (below_drew (below_alloc (Below.refl B w) hB o)).grown hg (by omega) (fun k hk => h.ge k (by rw [tagv k hk]; simp))
  refine ⟨⟨by rw [List.length_set]; exact hl, ?_⟩, below_setCell bel (p := ⟨sb, i * 2 + 1, none⟩) g4 _⟩
  obtain ⟨o1, _⟩ := (sA.owns hos (fun b hb => by cases hb; exact nvs)).stored (i * 2 + 1) v1
  have cg2 : rowsCol v1 key col g = .head := by rw [colk g g1 (by rw [h.cg]; simp)]; exact h.cg
  have cs2 : rowsCol v1 key col sb = .tab := by rw [colk sb g2 (by rw [h.cs]; simp)]; exact h.cs
  refine ⟨cg2, cs2, fun b hb => ?_, h.pos, h.lim, ⟨bk, ?_⟩, _, o1, fun j hj => ?_⟩
  · unfold rowsCol at hb
    split at hb
    · rename_i e
      exact (ho.lt b e).1
    · exact h.ge b hb
  · exact ss.blk ⟨nvg, g5⟩ hbk
  · obtain ⟨u, v', e1, e2, e3⟩ := hes j hj
    by_cases hji : j = i
    · subst hji
      refine ⟨ui, v1, by rw [List.getElem?_set, if_neg (by omega)]; exact i1, by rw [List.getElem?_set, if_pos rfl, if_pos (by omega)], ?_⟩
      refine ⟨some (key, rs ++ [r]), by rw [get_set, if_pos rfl, if_pos (by omega)], ?_⟩
      show EntM _ _ _ _ _ _ _ ∧ _
      refine ⟨⟨?_, ?_, ?_, ?_, ?_, i4.2.2.2.2.2⟩, by simp⟩
      · refine reads_row.mono (ok := fun b => b < w.heap.size ∧ col b = .free) (reads_row.stays (reads_row.mono i4.1 (fun b hb hl => ⟨hl, hb⟩)) (ss.mono fun b hb _ => ⟨fun e => ?_, fun e => ?_⟩)) (fun b hb _ => ?_)
        · rw [tagv b e] at hb; cases hb.2
        · rw [e, h.cs] at hb; cases hb.2
        · rw [colk b hb.1 (by rw [hb.2]; simp)]; exact hb.2
      · have : (rs ++ [r]).length = rs.length + 1 := by simp
        rw [this]
        have e : (rs ++ [r]).map (Value.int .i64) = rs.map (Value.int .i64) ++ [.int .i64 r] := by simp
        rw [e]
        refine sB.owns ho (fun b hb => ?_)
        rcases hv with hv | hv
        · intro e; subst e; exact nvs (hv ▸ hb)
        · rw [hv] at hb; injection hb with hb; exact fun e => by simp at e; omega
      · intro b hb
        unfold rowsCol; rw [if_pos hb]
      · intro x hx
        rcases List.mem_append.1 hx with hx | hx
        · exact i4.2.2.2.1 x hx
        · rw [List.mem_singleton] at hx; subst hx; exact hr
      · simpa using hrl
    · rw [if_neg hji] at e3
      obtain ⟨e, e4, e5⟩ := e3
      refine ⟨u, v', by rw [List.getElem?_set, if_neg (by omega)]; exact e1, by rw [List.getElem?_set, if_neg (by omega)]; exact e2, e, by rw [get_set, if_neg (Ne.symm hji)]; exact e4, ?_⟩
      cases e with
      | none => exact e5
      | some kr =>
        obtain ⟨k, rs'⟩ := kr
        have hkk : k ≠ key := hne j k rs' hji e4
        refine ⟨?_, e5.2⟩
        have E1 : EntM w B (rowsCol v1 key col) u v' k rs' := e5.1.recol (fun b hb hc => by rw [colk b hb (by rw [hc]; simp)]; exact hc) (fun b hb hc => by rw [colk b hb (by rw [hc]; simp [hkk])]; exact hc)
        refine ⟨?_, ?_, E1.2.2⟩
        · refine reads_row.mono (ok := fun b => b < w.heap.size ∧ col b = .free) (reads_row.stays (reads_row.mono e5.1.1 (fun b hb hl => ⟨hl, hb⟩)) (ss.mono fun b hb _ => ⟨fun e => ?_, fun e => ?_⟩)) (fun b hb _ => ?_)
          · rw [tagv b e] at hb; cases hb.2
          · rw [e, h.cs] at hb; cases hb.2
          · rw [colk b hb.1 (by rw [hb.2]; simp)]; exact hb.2
        · refine ss.owns e5.1.2.1 (fun b hb => ⟨fun e => ?_, fun e => ?_⟩)
          · have t1 := tagv b e
            have t2 := e5.1.2.2.1 b hb
            rw [t1] at t2; injection t2 with t2; exact hkk t2.symm
          · have t2 := e5.1.2.2.1 b hb
            rw [e, h.cs] at t2; cases t2
end Go.Proofs.Ytmgoefhihljggaa.Sg
