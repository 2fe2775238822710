/- How rows of numbers, lists of rows and sets of rows lie in memory: readings that stay while their blocks stay. No statement of the seat is proved here. -/
import Derived.Test.YtcpjlfhehjmfbaaProg
import Derived.WalkKit
import Derived.WalkSpells
import Derived.WalkLawsBesides
import Derived.Deep.QuietTactic
import Derived.BigQuiet
import Derived.Deep.RegionLaw
import Derived.BigRegion
import Derived.Laws.OwnMore
import Derived.Shelf.Abstract
import Derived.Lib.Hide
import Derived.Maps.AppendAt
import Derived.Deep.OwnRows
namespace Go.Proofs.Ytcpjlfhehjmfbaa
open Go.RowKit Go.Shelf
set_option linter.unusedVariables false
set_option linter.unusedSimpArgs false

/-- A fact that the walk's simp does not look into. -/
structure Aside0 (p : Prop) : Prop where mk :: (out : p)
theorem below_alloc {B : Nat} {w W : World} (h : Below B w W) (hB : B ≤ W.heap.size) (o : Obj) : Below B w (W.alloc o) := h.alloc hB o
theorem below_alloc0 {w W : World} (h : Below w.heap.size w W) (o : Obj) : Below w.heap.size w (W.alloc o) := h.alloc h.size o
theorem below_drewN {B : Nat} {w W : World} (h : Below B w W) (n : Nat) : Below B w (W.drewN n) := ⟨h.os, h.tape, h.output, h.size, h.block⟩
theorem below_drew {B : Nat} {w W : World} (h : Below B w W) : Below B w W.drew := ⟨h.os, h.tape, h.output, h.size, h.block⟩
theorem below_trans0 {w w1 w2 : World} (h : Below w.heap.size w w1) (k : Below w1.heap.size w1 w2) : Below w.heap.size w w2 := h.trans (k.mono h.size)
theorem quiet_left {P : Program} {f : FuncId} {args : Array Value} {w : World} {n : Nat} {v : Value}
    (h : Calls P f args (w.drewN n) fun e w' => e = .returned v ∧ w.drewN n = w') : Calls P f args (w.drewN n) fun e w' => e = .returned v ∧ ∃ m, w' = w.drewN m :=
  h.mono fun _ _ ⟨he, hm⟩ => ⟨he, n, hm.symm⟩

namespace Sg

def In64 (x : Int) : Prop := -9223372036854775808 ≤ x ∧ x ≤ 9223372036854775807
/-- What lies in these blocks stays. -/
def Stays (ok : Nat → Prop) (w w' : World) : Prop := ∀ b, ok b → b < w.heap.size → w'.heap[b]? = w.heap[b]?
theorem Stays.of_below {w w' : World} (h : Below w.heap.size w w') (ok : Nat → Prop) : Stays ok w w' := fun b _ hb => h.block b hb
theorem Stays.of_belowB {B : Nat} {w w' : World} (h : Below B w w') : Stays (· < B) w w' := fun b hk _ => h.block b hk
theorem Stays.of_grown {w w' : World} {row : Option Nat} (h : w.grownBy w' row) : Stays (fun k => row ≠ some k) w w' := fun b hk hb => h.block b hb (fun e => hk e.symm)
theorem Stays.mono {ok ok2 : Nat → Prop} {w w' : World} (h : Stays ok w w') (hs : ∀ b, ok2 b → b < w.heap.size → ok b) : Stays ok2 w w' := fun b hk hb => h b (hs b hk hb) hb
theorem Stays.cell {ok : Nat → Prop} {w w' : World} (h : Stays ok w w') {b o : Nat} {v : Value} (hb : ok b) (hc : w.cell? ⟨b, o, none⟩ = some v) : w'.cell? ⟨b, o, none⟩ = some v := by
  have := h b hb (World.block_lt_of_cell? w ⟨b, o, none⟩ hc)
  simpa [World.cell?, this] using hc

theorem grown_cell {w w' : World} (h : w.grownBy w' none) {b o : Nat} {v : Value} (hc : w.cell? ⟨b, o, none⟩ = some v) : w'.cell? ⟨b, o, none⟩ = some v :=
  (Stays.of_grown h).cell (fun e => by cases e) hc
theorem below_cell {B : Nat} {w w' : World} (h : Below B w w') {b o : Nat} {v : Value} (hb : b < B) (hc : w.cell? ⟨b, o, none⟩ = some v) : w'.cell? ⟨b, o, none⟩ = some v :=
  (Stays.of_belowB h).cell hb hc
theorem below_cell0 {w w' : World} (h : Below w.heap.size w w') {b o : Nat} {v : Value} (hc : w.cell? ⟨b, o, none⟩ = some v) : w'.cell? ⟨b, o, none⟩ = some v :=
  below_cell h (World.block_lt_of_cell? w ⟨b, o, none⟩ hc) hc
theorem below_of_grown {w w' : World} (h : w.grownBy w' none) : Below w.heap.size w w' := (Below.refl _ w).grown h (Nat.le_refl _) (fun k hk => by cases hk)

/-- A reading of a value as a datum that looks at blocks of a kind alone. -/
structure Reads {α : Type} (E : World → (Nat → Prop) → Value → α → Prop) : Prop where
  stays : ∀ {w w' ok v x}, E w ok v x → Stays ok w w' → E w' ok v x
  mono : ∀ {w ok ok2 v x}, E w ok v x → (∀ b, ok b → b < w.heap.size → ok2 b) → E w ok2 v x
  one : ∀ {w ok v x}, E w ok v x → v.oneCell' = true

def IntAt (_w : World) (_ok : Nat → Prop) (v : Value) (n : Int) : Prop := v = .int .i64 n ∧ In64 n
theorem reads_int : Reads IntAt := ⟨fun h _ => h, fun h _ => h, fun h => by rw [h.1]; rfl⟩

def SlAt {α : Type} (E : World → (Nat → Prop) → Value → α → Prop) (w : World) (ok : Nat → Prop) (v : Value) (xs : List α) : Prop :=
  xs.length < 17592186044416 ∧ ∃ A c, v = .slice A xs.length c ∧ xs.length ≤ c ∧ c ≤ 9223372036854775807 ∧
    (0 < xs.length → ∃ b off, A = some ⟨b, off, none⟩ ∧ ok b ∧ ∀ j (h : j < xs.length), ∃ u, w.cell? ⟨b, off + j, none⟩ = some u ∧ E w ok u xs[j])
theorem reads_sl {α : Type} {E : World → (Nat → Prop) → Value → α → Prop} (H : Reads E) : Reads (SlAt E) := by
  refine ⟨?_, ?_, ?_⟩
  · rintro w w' ok v xs ⟨h0, A, c, h1, h2, h3, h4⟩ hs
    refine ⟨h0, A, c, h1, h2, h3, fun hp => ?_⟩
    obtain ⟨b, off, ha, hb, hc⟩ := h4 hp
    refine ⟨b, off, ha, hb, fun j hj => ?_⟩
    obtain ⟨u, hu, he⟩ := hc j hj
    exact ⟨u, hs.cell hb hu, H.stays he hs⟩
  · rintro w ok ok2 v xs ⟨h0, A, c, h1, h2, h3, h4⟩ hs
    refine ⟨h0, A, c, h1, h2, h3, fun hp => ?_⟩
    obtain ⟨b, off, ha, hb, hc⟩ := h4 hp
    refine ⟨b, off, ha, hs b hb (World.block_lt_of_cell? w ⟨b, off + 0, none⟩ (hc 0 hp).choose_spec.1), fun j hj => ?_⟩
    obtain ⟨u, hu, he⟩ := hc j hj
    exact ⟨u, hu, H.mono he hs⟩
  · rintro w ok v xs ⟨h0, A, c, h1, h2⟩
    rw [h1]; rfl

abbrev Row := List Int
abbrev RowAt := SlAt IntAt
abbrev RowsAt := SlAt RowAt
abbrev SetsAt := SlAt RowsAt
theorem reads_row : Reads RowAt := reads_sl reads_int
theorem reads_rows : Reads RowsAt := reads_sl reads_row

theorem SlAt.below {α : Type} {E : World → (Nat → Prop) → Value → α → Prop} (H : Reads E) {w w' : World} {ok : Nat → Prop} {v : Value} {xs : List α} (h : SlAt E w ok v xs) (hb : Below w.heap.size w w') : SlAt E w' ok v xs := (reads_sl H).stays h (Stays.of_below hb ok)
/-- What the walk wants to know of a slice: its value, and a cell. -/
theorem SlAt.form {α : Type} {E : World → (Nat → Prop) → Value → α → Prop} {w : World} {ok : Nat → Prop} {v : Value} {xs : List α} (h : SlAt E w ok v xs) :
    ∃ A c, v = .slice A xs.length c ∧ xs.length ≤ c ∧ xs.length < 17592186044416 ∧ c ≤ 9223372036854775807 := by
  obtain ⟨h0, A, c, h1, h2, h3, h4⟩ := h
  exact ⟨A, c, h1, h2, h0, h3⟩
theorem SlAt.at_ {α : Type} {E : World → (Nat → Prop) → Value → α → Prop} {w : World} {ok : Nat → Prop} {A : Option Addr} {n c : Nat} {xs : List α} (h : SlAt E w ok (.slice A n c) xs) (j : Nat) (hj : j < xs.length) :
    ∃ b off u, A = some ⟨b, off, none⟩ ∧ ok b ∧ b < w.heap.size ∧ w.cell? ⟨b, off + j, none⟩ = some u ∧ E w ok u xs[j] := by
  obtain ⟨h0, A', c', h1, h2, h3, h4⟩ := h
  injection h1 with h1 h5 h6
  subst h1
  obtain ⟨b, off, ha, hb, hc⟩ := h4 (by omega)
  obtain ⟨u, hu, he⟩ := hc j hj
  exact ⟨b, off, u, ha, hb, World.block_lt_of_cell? w _ hu, hu, he⟩
theorem SlAt.nil {α : Type} (E : World → (Nat → Prop) → Value → α → Prop) (w : World) (ok : Nat → Prop) (A : Option Addr) (c : Nat) (hc : c ≤ 9223372036854775807) : SlAt E w ok (.slice A 0 c) ([] : List α) :=
  ⟨by simp, A, c, rfl, by simp, hc, fun h => by simp at h⟩

/-- The columns of rows. -/
def colsOf (W : Nat) (rs : List Row) : List Row := (List.range W).map fun k => rs.map fun r => r.getD k 0
theorem colsOf_length (W : Nat) (rs : List Row) : (colsOf W rs).length = W := by simp [colsOf]
theorem colsOf_get (W : Nat) (rs : List Row) (k : Nat) (h : k < (colsOf W rs).length) : (colsOf W rs)[k] = rs.map fun r => r.getD k 0 := by simp [colsOf]
/-- A set of rows behind a pointer: its width, how many rows there are, its columns. -/
structure SegAt (w : World) (ok : Nat → Prop) (v : Value) (W : Nat) (rs : List Row) : Prop where
  ex : ∃ g cv, v = .pointer (some ⟨g, 0, none⟩) ∧ ok g ∧ w.cell? ⟨g, 0, none⟩ = some (.int .i64 W) ∧ w.cell? ⟨g, 1, none⟩ = some (.int .i64 rs.length) ∧ w.cell? ⟨g, 2, none⟩ = some cv ∧ RowsAt w ok cv (colsOf W rs)
  len : rs.length < 1000000
  wid : W < 1000000
  row : ∀ r ∈ rs, r.length = W ∧ ∀ x ∈ r, In64 x
theorem SegAt.stays {w w' : World} {ok : Nat → Prop} {v : Value} {W : Nat} {rs : List Row} (h : SegAt w ok v W rs) (hs : Stays ok w w') : SegAt w' ok v W rs := by
  obtain ⟨g, cv, h1, h2, h3, h4, h5, h6⟩ := h.ex
  exact ⟨⟨g, cv, h1, h2, hs.cell h2 h3, hs.cell h2 h4, hs.cell h2 h5, reads_rows.stays h6 hs⟩, h.len, h.wid, h.row⟩
theorem SegAt.below {w w' : World} {ok : Nat → Prop} {v : Value} {W : Nat} {rs : List Row} (h : SegAt w ok v W rs) (hb : Below w.heap.size w w') : SegAt w' ok v W rs := h.stays (Stays.of_below hb ok)
theorem SegAt.mono {w : World} {ok ok2 : Nat → Prop} {v : Value} {W : Nat} {rs : List Row} (h : SegAt w ok v W rs) (hs : ∀ b, ok b → b < w.heap.size → ok2 b) : SegAt w ok2 v W rs := by
  obtain ⟨g, cv, h1, h2, h3, h4, h5, h6⟩ := h.ex
  exact ⟨⟨g, cv, h1, hs g h2 (World.block_lt_of_cell? w _ h3), h3, h4, h5, reads_rows.mono h6 hs⟩, h.len, h.wid, h.row⟩

theorem SegAt.lenAt {w : World} {ok : Nat → Prop} {v : Value} {W : Nat} {rs : List Row} (h : SegAt w ok v W rs) {r : Row} {i : Nat} (hr : rs[i]? = some r) : i < rs.length ∧ r.length = W ∧ ∀ x ∈ r, In64 x := by
  obtain ⟨hi, hri⟩ := List.getElem?_eq_some_iff.1 hr
  have := h.row (rs[i]) (List.getElem_mem hi)
  rw [hri] at this
  exact ⟨hi, this⟩
/-- A slice of the call's own, as a reading. -/
theorem SlAt.of_own0 {α : Type} {E : World → (Nat → Prop) → Value → α → Prop} {w : World} {ok : Nat → Prop} {base e n : Nat} {v : Value} {xs : List α} {cs : List Value}
    (ho : w.ownsRow base e 1 v n cs) (hn : n = xs.length) (hok : ∀ b, v.ownBlock = some b → base ≤ b → ok b) (hl : xs.length < 17592186044416) (he : ∀ j (h : j < xs.length) u, cs[j]? = some u → E w ok u xs[j]) : SlAt E w ok v xs := by
  subst hn
  rcases ho.2 with ⟨rfl, h0⟩ | ⟨b, cap, cur, rfl, hb, hh, hc, hm, hs, ht⟩
  · exact ⟨hl, none, 0, by rw [h0], by omega, by omega, fun h => by omega⟩
  · refine ⟨hl, _, cap, rfl, hc, by unfold maxLen at hm; omega, fun _ => ⟨b, 0, rfl, hok b rfl hb, fun j hj => ?_⟩⟩
    have h1 := ho.cellAt j (by omega)
    have hcl : cs.length = xs.length := by rw [ho.1]; omega
    have h2 : cs[j]? = some (cs[j]'(by omega)) := List.getElem?_eq_getElem _
    rw [Nat.zero_add]
    exact ⟨_, h1.trans h2, he j hj _ h2⟩
theorem SlAt.of_own {α : Type} {E : World → (Nat → Prop) → Value → α → Prop} {w : World} {ok : Nat → Prop} {base e : Nat} {v : Value} {xs : List α} {cs : List Value}
    (ho : w.ownsRow base e 1 v xs.length cs) (hok : ∀ b, base ≤ b → ok b) (hl : xs.length < 17592186044416) (he : ∀ j (h : j < xs.length) u, cs[j]? = some u → E w ok u xs[j]) : SlAt E w ok v xs :=
  SlAt.of_own0 ho rfl (fun b _ hb => hok b hb) hl he
theorem RowAt.of_own {w : World} {base e : Nat} {v : Value} {xs : List Int} (ho : w.ownsRow base e 1 v xs.length (xs.map (Value.int .i64))) (hl : xs.length < 17592186044416) (hi : ∀ x ∈ xs, In64 x) : RowAt w (base ≤ ·) v xs :=
  SlAt.of_own ho (fun _ h => h) hl fun j h u hu => by
    rw [List.getElem?_map, List.getElem?_eq_getElem h] at hu
    exact ⟨(Option.some.inj hu).symm, hi _ (List.getElem_mem h)⟩
/-- The same, the cells' numbers under a list's name. -/
theorem RowAt.of_own' {w : World} {base e n : Nat} {v : Value} {xs : List Int} {cs : List Value} (ho : w.ownsRow base e 1 v n cs) (hn : n = xs.length) (hc : cs = xs.map (Value.int .i64)) (hl : xs.length < 17592186044416) (hi : ∀ x ∈ xs, In64 x) : RowAt w (base ≤ ·) v xs := by
  subst hn; subst hc; exact RowAt.of_own ho hl hi

/-- A row that is filled from its beginning. -/
def part (r : List Int) (k : Nat) : List Value := (r.take k).map (Value.int .i64) ++ List.replicate (r.length - k) (.int .i64 0)
theorem part_zero (r : List Int) : part r 0 = List.replicate r.length (.int .i64 0) := by simp [part]
theorem part_all (r : List Int) : part r r.length = r.map (Value.int .i64) := by simp [part]
theorem part_length (r : List Int) (k : Nat) (h : k ≤ r.length) : (part r k).length = r.length := by simp [part]; omega
theorem part_set (r : List Int) (k : Nat) (h : k < r.length) : (part r k).set k (.int .i64 (r.getD k 0)) = part r (k + 1) := by
  unfold part
  obtain ⟨m, hm⟩ : ∃ m, r.length - k = m + 1 := ⟨r.length - k - 1, by omega⟩
  rw [hm, List.replicate_succ, List.set_append, if_neg (by simp; omega), show r.length - (k + 1) = m from by omega, List.take_succ_eq_append_getElem h, List.map_append]
  simp [List.getD_eq_getElem?_getD, h, show min k r.length = k from by omega]
theorem made_zeros (n : Nat) : (madeCells (Value.int .i64 0).cells (n * 1)).toList = List.replicate n (.int .i64 0) := by
  apply List.ext_getElem?
  intro i
  by_cases h : i < n <;> simp [madeCells, Value.cells, List.getElem?_replicate, h, Nat.mod_one]
theorem In64.getD {r : List Int} (h : ∀ x ∈ r, In64 x) (k : Nat) : In64 (r.getD k 0) := by
  rw [List.getD_eq_getElem?_getD]
  cases hk : r[k]? with
  | none => simp [In64]
  | some x => exact h x (List.mem_of_getElem? hk)

/-! ### moves of a world -/
theorem Stays.refl (ok : Nat → Prop) (w : World) : Stays ok w w := fun _ _ _ => rfl
theorem Stays.trans {ok : Nat → Prop} {w w1 w2 : World} (h : Stays ok w w1) (k : Stays ok w1 w2) (hs : w.heap.size ≤ w1.heap.size) : Stays ok w w2 := fun b hk hb => (k b hk (by omega)).trans (h b hk hb)
theorem Stays.drew (ok : Nat → Prop) (w : World) : Stays ok w w.drew := fun _ _ _ => rfl
theorem Stays.drewN (ok : Nat → Prop) (w : World) (n : Nat) : Stays ok w (w.drewN n) := fun _ _ _ => rfl
theorem Stays.alloc (ok : Nat → Prop) (w : World) (o : Obj) : Stays ok w (w.alloc o) := Stays.of_below (below_alloc0 (Below.refl _ _) o) ok
theorem Stays.setCell (w : World) (p : Addr) (u : Value) : Stays (fun b => b ≠ p.block) w (w.setCell p u) := fun b hb _ => heap_setCell_other w p b u hb
theorem Stays.blk {ok : Nat → Prop} {w w' : World} (h : Stays ok w w') {b : Nat} {o : Obj} (hb : ok b) (hh : w.heap[b]? = some o) : w'.heap[b]? = some o :=
  (h b hb (Array.getElem?_eq_some_iff.1 hh).1).trans hh
theorem Stays.owns {ok : Nat → Prop} {w w' : World} (h : Stays ok w w') {base e size n : Nat} {v : Value} {xs : List Value} (ho : w.ownsRow base e size v n xs) (hv : ∀ k, v.ownBlock = some k → ok k) : w'.ownsRow base e size v n xs := by
  refine ⟨ho.1, ?_⟩
  rcases ho.2 with h0 | ⟨b, cap, cur, rfl, hb, hh, h1⟩
  · exact .inl h0
  · exact .inr ⟨b, cap, cur, rfl, hb, h.blk (hv b rfl) hh, h1⟩
theorem owns_new (w : World) (base e n : Nat) (z : Value) (hb : base ≤ w.heap.size) (hn : n ≤ 9223372036854775807) : (w.alloc (.cells (madeCells #[z] n) e)).ownsRow base e 1 (.slice (some ⟨w.heap.size, 0, none⟩) n n) n (List.replicate n z) := by
  refine ⟨by simp, .inr ⟨w.heap.size, n, madeCells #[z] n, rfl, hb, heap_alloc_new w _, Nat.le_refl _, by unfold maxLen; omega, by simp [madeCells], ?_⟩⟩
  apply List.ext_getElem?
  intro i
  by_cases h : i < n <;> simp [madeCells, h, Nat.mod_one]
theorem owns_at {w : World} {base e n g cap : Nat} {xs : List Value} (ho : w.ownsRow base e 1 (.slice (some ⟨g, 0, none⟩) n cap) n xs) {j : Nat} {u : Value} (h : xs[j]? = some u) : w.cell? ⟨g, j, none⟩ = some u ∧ w.frozen? ⟨g, j, none⟩ = false ∧ g < w.heap.size := by
  have hl : xs.length = n := by rw [ho.1]; omega
  have hj : j < xs.length := (List.getElem?_eq_some_iff.1 h).1
  have hc := (ho.cellAt j (by omega)).trans h
  exact ⟨hc, ho.frozenAt j, World.block_lt_of_cell? w _ hc⟩
theorem below_setCell {B : Nat} {w W : World} (h : Below B w W) {p : Addr} (hp : B ≤ p.block) (u : Value) : Below B w (W.setCell p u) := h.setCell hp u

end Sg
end Go.Proofs.Ytcpjlfhehjmfbaa
