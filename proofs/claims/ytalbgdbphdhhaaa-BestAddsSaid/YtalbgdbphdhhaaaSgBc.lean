/- Best: the plain Put and Get; how a best lies in memory. -/
import Derived.Test.YtalbgdbphdhhaaaSgBb
import Derived.Maps.OwnSet
import Derived.StringKeys
import Derived.Laws.CopyOwn
namespace Go.Proofs.Ytalbgdbphdhhaaa.Sg
open Go.RowKit Go.Shelf Go.Maps
set_option linter.unusedVariables false
set_option linter.unusedSimpArgs false

def keysB (W : Nat) (rows : List Row) : List Row := rows.map fun r => r.take W
def idxB (W : Nat) (rows : List Row) (key : Row) : Option Nat := (keysB W rows).findIdx? (· == key)
def betterB (great : Bool) (x y : Int) : Bool := if great then decide (y < x) else decide (x < y)
def costB (W : Nat) (rows : List Row) (i : Nat) : Int := (rows.getD i []).getD W 0
def putB (W : Nat) (great : Bool) (rows : List Row) (key : Row) (cost : Int) : List Row × Bool :=
  match idxB W rows key with
  | none => (rows ++ [key ++ [cost]], true)
  | some i => if betterB great cost (costB W rows i) then (rows.set i (key ++ [cost]), true) else (rows, false)
def nameL (key : Row) : Lit := .string (nameB key).data.toList
theorem nameL_inj {a b : Row} (ha : ∀ x ∈ a, In64 x) (hb : ∀ x ∈ b, In64 x) (h : nameL a = nameL b) : a = b := by
  unfold nameL at h
  injection h with h
  have e : nameB a = nameB b := by
    apply ByteArray.ext
    exact Array.toList_inj.1 h
  refine nameB_inj ha hb ?_ e
  have h1 := congrArg ByteArray.size e
  rw [nameB_size, nameB_size] at h1
  omega
theorem zero_int (w : World) : (zeroValue 3).run Try.prog w = .ok (.int .i64 0) w := by kernel_rfl
structure LinkD (W : Nat) (rows : List Row) (D : DataW Unit) : Prop where
  isMap : IsMap D
  has : ∀ key : Row, (∀ x ∈ key, In64 x) → Maps.has D (nameL key) = (idxB W rows key).isSome
  at_ : ∀ (key : Row) i, (∀ x ∈ key, In64 x) → idxB W rows key = some i → D.atKey (nameL key) (.lit (.int .i64 0)) = .lit (.int .i64 i)
structure GoodB (W : Nat) (rows : List Row) : Prop where
  row : ∀ r ∈ rows, r.length = W + 1 ∧ ∀ x ∈ r, In64 x
  nod : (keysB W rows).Nodup
theorem idxB_some {W : Nat} {rows : List Row} {key : Row} {i : Nat} (h : idxB W rows key = some i) : ∃ hi : i < rows.length, rows[i].take W = key := by
  unfold idxB at h
  obtain ⟨hi, h1, _⟩ := List.findIdx?_eq_some_iff_getElem.1 h
  have hi' : i < rows.length := by simpa [keysB] using hi
  exact ⟨hi', by simpa [keysB] using h1⟩
theorem idxB_none {W : Nat} {rows : List Row} {key : Row} (h : idxB W rows key = none) : key ∉ keysB W rows := by
  unfold idxB at h
  rw [List.findIdx?_eq_none_iff] at h
  intro hm
  have := h _ hm
  simp at this
theorem idxB_len {W : Nat} {rows : List Row} {key : Row} {i : Nat} (hg : GoodB W rows) (h : idxB W rows key = some i) : key.length = W ∧ ∀ x ∈ key, In64 x := by
  obtain ⟨hi, rfl⟩ := idxB_some h
  obtain ⟨h1, h2⟩ := hg.row _ (List.getElem_mem hi)
  exact ⟨by rw [List.length_take, h1]; omega, fun x hx => h2 x (List.mem_of_mem_take hx)⟩
theorem keysB_set {W : Nat} {rows : List Row} {key : Row} {cost : Int} {i : Nat} (hk : key.length = W) (h : idxB W rows key = some i) : keysB W (rows.set i (key ++ [cost])) = keysB W rows := by
  obtain ⟨hi, h1⟩ := idxB_some h
  unfold keysB
  rw [List.map_set]
  have e : (key ++ [cost]).take W = rows[i].take W := by rw [h1, ← hk]; simp
  rw [e]
  have h3 : i < (rows.map fun r => r.take W).length := by simpa using hi
  have h2 := List.set_getElem_self h3
  rw [List.getElem_map] at h2
  exact h2
theorem keysB_snoc {W : Nat} {rows : List Row} {key : Row} {cost : Int} (hk : key.length = W) : keysB W (rows ++ [key ++ [cost]]) = keysB W rows ++ [key] := by
  unfold keysB
  rw [List.map_append, ← hk]; simp
theorem idxB_snoc {W : Nat} {rows : List Row} {key : Row} {cost : Int} (hk : key.length = W) (k : Row) : idxB W (rows ++ [key ++ [cost]]) k = (idxB W rows k).or (if key == k then some rows.length else none) := by
  unfold idxB
  rw [keysB_snoc hk, List.findIdx?_append]
  congr 1
  by_cases h : key == k
  · simp [List.findIdx?_cons, h, keysB]
  · simp [List.findIdx?_cons, h]
theorem GoodB.snoc {W : Nat} {rows : List Row} {key : Row} {cost : Int} (h : GoodB W rows) (hk : key.length = W) (hi : ∀ x ∈ key, In64 x) (hc : In64 cost) (hn : idxB W rows key = none) : GoodB W (rows ++ [key ++ [cost]]) := by
  refine ⟨fun r hr => ?_, ?_⟩
  · rcases List.mem_append.1 hr with hr | hr
    · exact h.row r hr
    · rw [List.mem_singleton.1 hr]
      refine ⟨by simp [hk], fun x hx => ?_⟩
      rcases List.mem_append.1 hx with hx | hx
      · exact hi x hx
      · rw [List.mem_singleton.1 hx]; exact hc
  · rw [keysB_snoc hk, List.nodup_append]
    refine ⟨h.nod, List.nodup_cons.2 ⟨List.not_mem_nil, List.nodup_nil⟩, fun a ha b hb e => ?_⟩
    rw [List.mem_singleton.1 hb] at e
    exact idxB_none hn (e ▸ ha)
theorem GoodB.set {W : Nat} {rows : List Row} {key : Row} {cost : Int} {i : Nat} (h : GoodB W rows) (hk : key.length = W) (hi : ∀ x ∈ key, In64 x) (hc : In64 cost) (hn : idxB W rows key = some i) : GoodB W (rows.set i (key ++ [cost])) := by
  refine ⟨fun r hr => ?_, by rw [keysB_set hk hn]; exact h.nod⟩
  rcases List.mem_or_eq_of_mem_set hr with hr | rfl
  · exact h.row r hr
  · refine ⟨by simp [hk], fun x hx => ?_⟩
    rcases List.mem_append.1 hx with hx | hx
    · exact hi x hx
    · rw [List.mem_singleton.1 hx]; exact hc
theorem LinkD.nil (W : Nat) : LinkD W [] (.map []) := ⟨⟨_, rfl⟩, fun _ _ => rfl, fun _ _ _ h => by simp [idxB, keysB] at h⟩
theorem LinkD.snoc {W : Nat} {rows : List Row} {D : DataW Unit} {key : Row} {cost : Int} (h : LinkD W rows D) (hk : key.length = W) (hi : ∀ x ∈ key, In64 x) (hn : idxB W rows key = none) :
    LinkD W (rows ++ [key ++ [cost]]) (D.put (nameL key) (.lit (.int .i64 rows.length))) := by
  have hkl : WideAt.IsKeyLit (nameL key) := trivial
  refine ⟨?_, fun k hk2 => ?_, fun k i hk2 hi2 => ?_⟩
  · obtain ⟨es, rfl⟩ := h.isMap; exact ⟨_, rfl⟩
  · rw [idxB_snoc hk]
    by_cases e : k = key
    · subst e
      rw [has_put_same h.isMap hkl]
      simp
    · rw [has_put_other (fun q => e (nameL_inj hk2 hi q)), h.has k hk2]
      have : (key == k) = false := by simpa using fun q => e q.symm
      simp [this]
  · rw [idxB_snoc hk] at hi2
    by_cases e : k = key
    · subst e
      rw [atKey_put_same h.isMap hkl]
      rw [hn] at hi2
      simp at hi2
      rw [hi2]
    · rw [atKey_put_other (fun q => e (nameL_inj hk2 hi q))]
      have : (key == k) = false := by simpa using fun q => e q.symm
      rw [this] at hi2
      simp at hi2
      exact h.at_ k i hk2 hi2
theorem LinkD.set {W : Nat} {rows : List Row} {D : DataW Unit} {key : Row} {cost : Int} {i : Nat} (h : LinkD W rows D) (hk : key.length = W) (hn : idxB W rows key = some i) : LinkD W (rows.set i (key ++ [cost])) D := by
  have e : ∀ k, idxB W (rows.set i (key ++ [cost])) k = idxB W rows k := fun k => by unfold idxB; rw [keysB_set hk hn]
  exact ⟨h.isMap, fun k hk2 => by rw [e]; exact h.has k hk2, fun k j hk2 hj => h.at_ k j hk2 (by rw [← e]; exact hj)⟩

/-- The value of a row of its own. -/
def hdr (W b : Nat) : Value := .slice (some ⟨b, 0, none⟩) (W + 1) (W + 1)
structure BestAt (w : World) (B g mb W : Nat) (great : Bool) (rv : Value) (bs : List Nat) (n : Nat) (D : DataW Unit) (rows : List Row) : Prop where
  blk : w.heap[g]? = some (.cells #[.int .i64 W, .bool great, .map (some mb), rv] 60 (0, 0))
  map : w.ownsMap Try.prog 9 (plainElem Try.prog 3) mb n D
  nle : n ≤ rows.length
  own : w.ownsRow B 23 1 rv rows.length (bs.map (hdr W))
  nod : bs.Nodup
  row : ∀ i (h : i < rows.length) b, bs[i]? = some b → w.heap[b]? = some (.cells (rows[i].map (Value.int .i64)).toArray 2 (0, 0))
  link : LinkD W rows D
  good : GoodB W rows
  lim : rows.length < 1000000
  wid : W < 1000
theorem BestAt.bsl {w : World} {B g mb W n : Nat} {great : Bool} {rv : Value} {bs : List Nat} {D : DataW Unit} {rows : List Row} (h : BestAt w B g mb W great rv bs n D rows) : bs.length = rows.length := by
  have := h.own.1; rw [List.length_map] at this; omega
/-- A best behind its pointer; F: its blocks. -/
def BestI (w : World) (B g : Nat) (F : Nat → Prop) (W : Nat) (great : Bool) (rows : List Row) : Prop :=
  ∃ mb rv bs n D, BestAt w B g mb W great rv bs n D rows ∧ F g ∧ F mb ∧ (∀ b, rv.ownBlock = some b → F b) ∧ (∀ b ∈ bs, F b) ∧ (∀ b, F b → B ≤ b)
theorem BestAt.stays {w w' : World} {B g mb W n : Nat} {great : Bool} {rv : Value} {bs : List Nat} {D : DataW Unit} {rows : List Row} (h : BestAt w B g mb W great rv bs n D rows) {F : Nat → Prop}
    (hs : Stays F w w') (hg : F g) (hm : F mb) (hv : ∀ b, rv.ownBlock = some b → F b) (hb : ∀ b ∈ bs, F b) : BestAt w' B g mb W great rv bs n D rows := by
  refine ⟨hs.blk hg h.blk, ?_, h.nle, hs.owns h.own hv, h.nod, fun i hi b hbi => hs.blk (hb b (List.mem_of_getElem? hbi)) (h.row i hi b hbi), h.link, h.good, h.lim, h.wid⟩
  obtain ⟨es, clock, hbk, hF, hsz, hD⟩ := h.map
  exact ⟨es, clock, hs.blk hm hbk, hF, hsz, hD⟩
theorem BestI.stays {w w' : World} {B g W : Nat} {F : Nat → Prop} {great : Bool} {rows : List Row} (h : BestI w B g F W great rows) (hs : Stays F w w') : BestI w' B g F W great rows := by
  obtain ⟨mb, rv, bs, n, D, h1, h2, h3, h4, h5, h6⟩ := h
  exact ⟨mb, rv, bs, n, D, h1.stays hs h2 h3 h4 h5, h2, h3, h4, h5, h6⟩
theorem BestAt.lts {w : World} {B g mb W n : Nat} {great : Bool} {rv : Value} {bs : List Nat} {D : DataW Unit} {rows : List Row} (h : BestAt w B g mb W great rv bs n D rows) : g < w.heap.size ∧ mb < w.heap.size ∧ (∀ b, rv.ownBlock = some b → b < w.heap.size) ∧ (∀ b ∈ bs, b < w.heap.size) := by
  refine ⟨(Array.getElem?_eq_some_iff.1 h.blk).1, h.map.lt, fun b hb => (h.own.lt b hb).2, fun b hb => ?_⟩
  obtain ⟨i, hi, rfl⟩ := List.mem_iff_getElem.1 hb
  exact (Array.getElem?_eq_some_iff.1 (h.row i (by rw [← h.bsl]; exact hi) _ (List.getElem?_eq_getElem hi))).1
theorem BestI.mono {w : World} {B g W : Nat} {F F2 : Nat → Prop} {great : Bool} {rows : List Row} (h : BestI w B g F W great rows) (hs : ∀ b, b < w.heap.size → F b → F2 b) (hB : ∀ b, F2 b → B ≤ b) : BestI w B g F2 W great rows := by
  obtain ⟨mb, rv, bs, n, D, h1, h2, h3, h4, h5, h6⟩ := h
  obtain ⟨a1, a2, a3, a4⟩ := h1.lts
  exact ⟨mb, rv, bs, n, D, h1, hs g a1 h2, hs mb a2 h3, fun b hb => hs b (a3 b hb) (h4 b hb), fun b hb => hs b (a4 b hb) (h5 b hb), hB⟩
theorem BestI.below {w w' : World} {B g W : Nat} {F : Nat → Prop} {great : Bool} {rows : List Row} (h : BestI w B g F W great rows) (hb : Below w.heap.size w w') : BestI w' B g F W great rows := h.stays (Stays.of_below hb _)
/-- Its rows, as a list of rows. -/
theorem BestAt.rowsAt {w : World} {B g mb W n : Nat} {great : Bool} {rv : Value} {bs : List Nat} {D : DataW Unit} {rows : List Row} (h : BestAt w B g mb W great rv bs n D rows) {F : Nat → Prop} (hv : ∀ b, rv.ownBlock = some b → F b) (hb : ∀ b ∈ bs, F b) : RowsAt w F rv rows := by
  refine SlAt.of_own0 h.own rfl (fun b hb _ => hv b hb) (by have := h.lim; omega) (fun j hj u hu => ?_)
  have hj2 : j < bs.length := by rw [h.bsl]; exact hj
  rw [List.getElem?_map, List.getElem?_eq_getElem hj2] at hu
  obtain rfl := Option.some.inj hu
  have hr := h.row j hj _ (List.getElem?_eq_getElem hj2)
  obtain ⟨hl, hi⟩ := h.good.row _ (List.getElem_mem hj)
  have hw := h.wid
  refine ⟨by omega, some ⟨bs[j], 0, none⟩, W + 1, by unfold hdr; rw [hl], by omega, by omega, fun _ => ⟨bs[j], 0, rfl, hb _ (List.getElem_mem hj2), fun k hk => ⟨.int .i64 rows[j][k], ?_, rfl, hi _ (List.getElem_mem hk)⟩⟩⟩
  simp [World.cell?, hr, hk]
/-- What the lookup of a key yields. -/
theorem BestAt.look {w : World} {B g mb W n : Nat} {great : Bool} {rv : Value} {bs : List Nat} {D : DataW Unit} {rows : List Row} (h : BestAt w B g mb W great rv bs n D rows) {key : Row} (hi : ∀ x ∈ key, In64 x) (hl : key.length < 1000000) :
    ∃ c : Int, (∀ i, idxB W rows key = some i → c = i) ∧ ∀ w2, Below w.heap.size w w2 → (Instr.lookup 58 (.map (some mb)) (.string (nameB key)) true).run Try.prog w2 = .ok (.tuple #[.int .i64 c, .bool (idxB W rows key).isSome]) w2 := by
  have K : Keyed Try.prog 9 := string_keyed Try.underlying9
  have hkey : keyOf Try.prog 9 (.string (nameB key)) = some (nameL key) := WideMaps.keyOf_string_mk Try.underlying9 (by rw [nameB_size]; unfold maxLen; omega)
  have hz0 : ∀ w2 : World, (zeroValue 3).run Try.prog w2 = .ok (.int .i64 0) w2 := zero_int
  have one : ∀ w2, Below w.heap.size w w2 → ∃ c : Int, D.atKey (nameL key) (.lit (.int .i64 0)) = .lit (.int .i64 c) ∧ (Instr.lookup 58 (.map (some mb)) (.string (nameB key)) true).run Try.prog w2 = .ok (.tuple #[.int .i64 c, .bool (idxB W rows key).isSome]) w2 := fun w2 hb => by
    obtain ⟨es, clock, hbk, hF, hsz, hD⟩ := h.map
    have hm : w2.ownsMap Try.prog 9 (plainElem Try.prog 3) mb n D := ⟨es, clock, (hb.block mb h.lts.2.1).trans hbk, hF, hsz, hD⟩
    obtain ⟨v, ps, hrun, hv⟩ := hm.look_ok K Try.underlying58 (hz0 w2) (plainElem_int Try.underlying3 (by decide)) hkey
    obtain ⟨c, rfl, hc, _⟩ := plainElem_int_inv Try.underlying3 hv
    simp only [Prod.mk.injEq] at hc
    rw [h.link.has key hi] at hrun
    exact ⟨c, hc.1, hrun⟩
  obtain ⟨c, hc, _⟩ := one w (Below.refl _ _)
  refine ⟨c, fun i hi2 => ?_, fun w2 hb => ?_⟩
  · rw [h.link.at_ key i hi hi2] at hc
    exact (Lit.int.inj (DataW.lit.inj hc)).2.symm
  · obtain ⟨c2, hc2, hr⟩ := one w2 hb
    rw [hc] at hc2
    have hc3 := (Lit.int.inj (DataW.lit.inj hc2)).2
    rw [hc3]; exact hr
/-- What the update of a key's entry yields. -/
theorem BestAt.upd {w : World} {B g mb W n : Nat} {great : Bool} {rv : Value} {bs : List Nat} {D : DataW Unit} {rows : List Row} (h : BestAt w B g mb W great rv bs n D rows) {key : Row} (hl : key.length < 1000000) (w2 : World) (hb : Below w.heap.size w w2) :
    ∃ w3, (Instr.mapUpdate 58 (.map (some mb)) (.string (nameB key)) (.int .i64 rows.length)).run Try.prog w2 = .ok () w3 ∧ w3.ownsMap Try.prog 9 (plainElem Try.prog 3) mb (n + 1) (D.put (nameL key) (.lit (.int .i64 rows.length))) ∧ w2.grownBy w3 (some mb) := by
  have K : Keyed Try.prog 9 := string_keyed Try.underlying9
  have hkey : keyOf Try.prog 9 (.string (nameB key)) = some (nameL key) := WideMaps.keyOf_string_mk Try.underlying9 (by rw [nameB_size]; unfold maxLen; omega)
  obtain ⟨es, clock, hbk, hF, hsz, hD⟩ := h.map
  have hm : w2.ownsMap Try.prog 9 (plainElem Try.prog 3) mb n D := ⟨es, clock, (hb.block mb h.lts.2.1).trans hbk, hF, hsz, hD⟩
  have h1 := h.lim
  have h2 := h.nle
  exact hm.update K Try.underlying58 (by unfold maxLen; omega) hkey (plainElem_int Try.underlying3 (WalkArith.wf_i64 (by omega)))
end Go.Proofs.Ytalbgdbphdhhaaa.Sg
