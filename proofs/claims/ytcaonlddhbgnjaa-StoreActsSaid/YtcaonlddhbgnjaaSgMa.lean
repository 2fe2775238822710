/- merge.Rows: the order of cursors; what the merging keeps (plain). -/
import Derived.Test.YtcaonlddhbgnjaaHcF
import Derived.Test.YtcaonlddhbgnjaaSgRd
import Derived.Deep.RegionHeld3
namespace Go.Proofs.Ytcaonlddhbgnjaa.Mg
open Go.RowKit Go.Shelf Go.Proofs.Ytcaonlddhbgnjaa.Sg Go.Proofs.Ytcaonlddhbgnjaa.Hm Go.Proofs.Ytcaonlddhbgnjaa.Hc
set_option linter.unusedVariables false
set_option linter.unusedSimpArgs false

/-- The rows of each pointer's set. -/
abbrev Look := Option Addr → List Row
def curRow (look : Look) (x : A) : Row := (look x.1).getD x.2.toNat []
def ltC (look : Look) (x y : A) : Bool := decide (rowCmp (curRow look x) (curRow look y) < 0)
theorem good_ltC (look : Look) : Hm.Good (ltC look) := good_of (fun x y h => by
    unfold ltC at *
    simp at h ⊢
    have := rowCmp_swap (curRow look x) (curRow look y); omega) (fun x y z h k => by
    unfold ltC at *
    simp at h k ⊢
    have h1 := rowCmp_swap (curRow look y) (curRow look x)
    have h2 := rowCmp_swap (curRow look z) (curRow look y)
    have h3 := rowCmp_swap (curRow look z) (curRow look x)
    have := (rowCmp_trans (curRow look x) (curRow look y) (curRow look z) (by omega) (by omega)).1
    omega)
def restC (look : Look) (x : A) : List Row := (look x.1).drop x.2.toNat
def okC (look : Look) (ps : List (Option Addr)) (x : A) : Prop := x.1 ∈ ps ∧ 0 ≤ x.2 ∧ x.2.toNat < (look x.1).length
theorem restC_cons {look : Look} {ps : List (Option Addr)} {x : A} (h : okC look ps x) : restC look x = curRow look x :: restC look (x.1, x.2 + 1) := by
  unfold restC curRow
  rw [List.drop_eq_getElem_cons h.2.2, List.getD_eq_getElem?_getD, List.getElem?_eq_getElem h.2.2]
  congr 2
  have := h.2.1
  show x.2.toNat + 1 = (x.2 + 1).toNat
  omega
def Le (a b : Row) : Prop := rowCmp a b ≤ 0
theorem SS.le {l : List Row} (h : SS l) : l.Pairwise Le := h.imp (fun {a b} h => by unfold rlt at h; unfold Le; omega)
/-- All rows of some sets, in order, each as often as it is there. -/
def Merged (flat L : List Row) : Prop := L.Perm flat ∧ L.Pairwise Le
/-- What holds while rows are handed on: pre: those that were; HL: the heap's cursors. -/
structure MI (look : Look) (flat : List Row) (pre : List Row) (HL : List E) : Prop where
  perm : (pre ++ HL.flatMap fun e => restC look e.1).Perm flat
  ord : pre.Pairwise Le
  le : ∀ r ∈ pre, ∀ e ∈ HL, ∀ q ∈ restC look e.1, Le r q
theorem MI.done {look : Look} {flat pre : List Row} (h : MI look flat pre []) : Merged flat pre := ⟨by have := h.perm; simpa using this, h.ord⟩
theorem MI.len {look : Look} {flat pre : List Row} {HL : List E} (h : MI look flat pre HL) : pre.length + (HL.flatMap fun e => restC look e.1).length = flat.length := by
  have := h.perm.length_eq
  simpa using this
theorem cur_le {look : Look} {ps : List (Option Addr)} (hSS : ∀ p ∈ ps, SS (look p)) {x : A} (hx : okC look ps x) : ∀ q ∈ restC look x, Le (curRow look x) q := by
  have h := (SS.le (hSS x.1 hx.1)).sublist (List.drop_sublist x.2.toNat (look x.1))
  change (restC look x).Pairwise Le at h
  rw [restC_cons hx] at h ⊢
  intro q hq
  rcases List.mem_cons.1 hq with rfl | hq
  · unfold Le; rw [rowCmp_self]; exact Int.le_refl _
  · exact (List.pairwise_cons.1 h).1 q hq
theorem Le.trans {a b c : Row} (h : Le a b) (k : Le b c) : Le a c := (rowCmp_trans a b c h k).1
/-- A cursor is taken out, its row handed on; the cursor behind it comes back, if it has a row. -/
theorem MI.step {look : Look} {ps : List (Option Addr)} {flat pre : List Row} {HL HL' : List E} {x : A} {c c2 : Int} (hSS : ∀ p ∈ ps, SS (look p)) (h : MI look flat pre HL) (hok : ∀ e ∈ HL, okC look ps e.1) (hp : HL.Perm ((x, c) :: HL')) (hmin : ∀ y ∈ HL, Hm.Le (ltC look) (x, c) y) :
    MI look flat (pre ++ [curRow look x]) (if x.2.toNat + 1 < (look x.1).length then HL' ++ [((x.1, x.2 + 1), c2)] else HL') := by
  have hx : okC look ps x := hok (x, c) (hp.mem_iff.2 (by simp))
  have hsub : ∀ e ∈ HL', e ∈ HL := fun e he => hp.mem_iff.2 (by simp [he])
  have hrc := restC_cons hx
  have h2n : (x.2 + 1).toNat = x.2.toNat + 1 := by have := hx.2.1; omega
  have hfp : (HL.flatMap fun e => restC look e.1).Perm (curRow look x :: (restC look (x.1, x.2 + 1) ++ HL'.flatMap fun e => restC look e.1)) := by
    have := hp.flatMap_right (fun e => restC look e.1)
    rw [List.flatMap_cons] at this
    show List.Perm _ _
    rw [hrc] at this
    exact this
  have hle : ∀ e ∈ HL, Le (curRow look x) (curRow look e.1) := fun e he => by
    have h1 := hmin e he
    unfold Hm.Le bef ltC at h1
    simp at h1
    have := rowCmp_swap (curRow look e.1) (curRow look x)
    unfold Le
    omega
  have hall : ∀ e ∈ HL, ∀ q ∈ restC look e.1, Le (curRow look x) q := fun e he q hq => (hle e he).trans (cur_le hSS (hok e he) q hq)
  have hnew : ∀ e ∈ (if x.2.toNat + 1 < (look x.1).length then HL' ++ [((x.1, x.2 + 1), c2)] else HL'), ∀ q ∈ restC look e.1, ∃ e' ∈ HL, q ∈ restC look e'.1 := fun e he q hq => by
    split at he
    · rcases List.mem_append.1 he with he | he
      · exact ⟨e, hsub e he, hq⟩
      · rw [List.mem_singleton.1 he] at hq
        exact ⟨(x, c), hp.mem_iff.2 (by simp), by show q ∈ restC look x; rw [hrc]; exact List.mem_cons_of_mem _ hq⟩
    · exact ⟨e, hsub e he, hq⟩
  refine ⟨?_, ?_, fun r hr e he q hq => ?_⟩
  · refine List.Perm.trans ?_ h.perm
    rw [List.append_assoc]
    refine List.Perm.append_left pre ?_
    refine List.Perm.trans ?_ hfp.symm
    refine List.Perm.cons _ ?_
    split
    · rw [List.flatMap_append]
      rw [List.flatMap_cons, List.flatMap_nil, List.append_nil]
      have hq : (HL'.flatMap (fun e => restC look e.1) ++ restC look (x.1, x.2 + 1)).Perm (restC look (x.1, x.2 + 1) ++ HL'.flatMap fun e => restC look e.1) := List.perm_append_comm
      exact hq
    · rename_i hn
      have e : restC look (x.1, x.2 + 1) = [] := by unfold restC; rw [List.drop_eq_nil_iff]; show (look x.1).length ≤ (x.2 + 1).toNat; omega
      rw [e]; simp
  · rw [List.pairwise_append]
    refine ⟨h.ord, List.pairwise_singleton _ _, fun a ha b hb => ?_⟩
    rw [List.mem_singleton.1 hb]
    refine h.le a ha (x, c) (hp.mem_iff.2 (by simp)) _ ?_
    show curRow look x ∈ restC look x
    rw [hrc]; exact List.mem_cons_self
  · obtain ⟨e', he', hq'⟩ := hnew e he q hq
    rcases List.mem_append.1 hr with hr | hr
    · exact h.le r hr e' he' q hq'
    · rw [List.mem_singleton.1 hr]; exact hall e' he' q hq'

/-! ### sets behind pointers -/
def PtrAt (_w : World) (_ok : Nat → Prop) (v : Value) (p : Option Addr) : Prop := v = .pointer p
theorem reads_ptr : Reads PtrAt := ⟨fun h _ => h, fun h _ => h, fun h => by rw [h]; rfl⟩
abbrev PsAt := SlAt PtrAt
theorem reads_ps : Reads PsAt := reads_sl reads_ptr
/-- All pointers lead to their sets, in blocks below n0. -/
def invC (look : Look) (ps : List (Option Addr)) (n0 : Nat) (w : World) : Prop := ∀ p ∈ ps, ∃ W, SegN w (· < n0) (.pointer p) W (look p)
theorem invC.below {look : Look} {ps : List (Option Addr)} {n0 : Nat} {w w' : World} (h : invC look ps n0 w) (hb : Below n0 w w') : invC look ps n0 w' := fun p hp => by
  obtain ⟨W, h1⟩ := h p hp
  exact ⟨W, h1.stays (Stays.of_belowB hb)⟩
theorem invC.keeps {look : Look} {ps : List (Option Addr)} {n0 : Nat} {w w' : World} {ok : Nat → Prop} (h : invC look ps n0 w) (hk : Keeps ok w w') (ho : ∀ b, b < n0 → ok b) : invC look ps n0 w' := fun p hp => by
  obtain ⟨W, h1⟩ := h p hp
  exact ⟨W, h1.stays (hk.stays.mono (fun b hb _ => ho b hb))⟩
def ordC (look : Look) (ps : List (Option Addr)) (n0 : Nat) : Ord := ⟨68, #[], ltC look, invC look ps n0, okC look ps⟩
set_option maxHeartbeats 2000000 in
set_option maxRecDepth 100000 in
theorem ordC_ok (look : Look) (ps : List (Option Addr)) (n0 : Nat) : (ordC look ps n0).OK n0 := by
  refine ⟨fun x1 y1 x2 y2 w hI h1 h2 => ?_, fun _ _ h hb => h.below hb, enters_of Try.func68 (by kernel_rfl) rfl⟩
  obtain ⟨W1, s1⟩ := hI x1 h1.1
  obtain ⟨W2, s2⟩ := hI x2 h2.1
  have e1 : (look x1)[y1.toNat]? = some (curRow look (x1, y1)) := by unfold curRow; rw [List.getD_eq_getElem?_getD, List.getElem?_eq_getElem h1.2.2]; rfl
  have e2 : (look x2)[y2.toNat]? = some (curRow look (x2, y2)) := by unfold curRow; rw [List.getD_eq_getElem?_getD, List.getElem?_eq_getElem h2.2.2]; rfl
  have n1 : ((y1.toNat : Nat) : Int) = y1 := by have := h1.2.1; show ((y1.toNat : Nat) : Int) = y1; omega
  have n2 : ((y2.toNat : Nat) : Int) = y2 := by have := h2.2.1; show ((y2.toNat : Nat) : Int) = y2; omega
  have R1 := Aside0.mk (fun w' (hb : Below w.heap.size w w') => by have h9 := row_any w' _ _ W1 (look x1) _ y1.toNat ((s1.below hb).at_ h1.2.2) e1; rw [n1] at h9; exact h9)
  have R2 := Aside0.mk (fun w' (hb : Below w.heap.size w w') => by have h9 := row_any w' _ _ W2 (look x2) _ y2.toNat ((s2.below hb).at_ h2.2.2) e2; rw [n2] at h9; exact h9)
  have hbase : Below w.heap.size w (((w.alloc (.cells #[.pointer x1, .int .i64 y1] 108)).alloc (.cells #[.pointer x2, .int .i64 y2] 108)).drew) := below_drew (below_alloc0 (below_alloc0 (Below.refl _ _) _) _)
  have HBA := Aside0.mk hbase
  show Calls Try.prog 68 #[.agg #[.pointer x1, .int .i64 y1], .agg #[.pointer x2, .int .i64 y2]] w fun e w' => e = .returned (.bool (decide (rowCmp (curRow look (x1, y1)) (curRow look (x2, y2)) < 0))) ∧ Below w.heap.size w w'
  obtain ⟨ra, hra⟩ : ∃ ra, curRow look (x1, y1) = ra := ⟨_, rfl⟩
  obtain ⟨rb, hrb⟩ : ∃ rb, curRow look (x2, y2) = rb := ⟨_, rfl⟩
  rw [hra] at R1 ⊢
  rw [hrb] at R2 ⊢
  clear hI h1 h2 s1 s2 e1 e2 n1 n2 hra hrb hbase
  go_enter Try.func68, Try.ntmps68
  go_wp2
  go_region_held3 (fun w' => w'.cell? ⟨w.heap.size, 0, none⟩ = some (.pointer x1) ∧ w'.cell? ⟨w.heap.size, 1, none⟩ = some (.int .i64 y1) ∧ w'.cell? ⟨w.heap.size + 1, 0, none⟩ = some (.pointer x2) ∧ w'.cell? ⟨w.heap.size + 1, 1, none⟩ = some (.int .i64 y2)) (first | exact ⟨q0, q1, q2, q3⟩ | exact ⟨p0, p1, p2, p3⟩ | go_keep) ((first
    | ((with_reducible refine (R1.out _ HBA.out).mono ?_); rintro e w4 ⟨rv, rfl, hr4, hb4⟩; have HR4 := Aside0.mk hr4; have p0 := below_cell0 hb4 (b := w.heap.size) (o := 0) (v := .pointer x1) (by simp); have p1 := below_cell0 hb4 (b := w.heap.size) (o := 1) (v := .int .i64 y1) (by simp); have p2 := below_cell0 hb4 (b := w.heap.size + 1) (o := 0) (v := .pointer x2) (by simp); have p3 := below_cell0 hb4 (b := w.heap.size + 1) (o := 1) (v := .int .i64 y2) (by simp); have HB4 := Aside0.mk (below_trans0 HBA.out hb4); clear hb4 hr4)
    | ((with_reducible refine (R2.out _ HB4.out).mono ?_); rintro e w5 ⟨rv5, rfl, hr5, hb5⟩; have HR5 := Aside0.mk hr5; have HR45 := Aside0.mk (SlAt.below reads_int HR4.out hb5); have q0 := below_cell0 hb5 p0; have q1 := below_cell0 hb5 p1; have q2 := below_cell0 hb5 p2; have q3 := below_cell0 hb5 p3; have HB5 := Aside0.mk (below_trans0 HB4.out hb5); clear hb5 hr5)
    | ((with_reducible refine (scompare_any _ _ _ _ _ _ _ HR45.out HR5.out).mono ?_); rintro e w6 ⟨rfl, rfl⟩)))
  all_goals
    go_wp2
    go_ret
    exact ⟨rfl, HB5.out⟩
end Go.Proofs.Ytcaonlddhbgnjaa.Mg
