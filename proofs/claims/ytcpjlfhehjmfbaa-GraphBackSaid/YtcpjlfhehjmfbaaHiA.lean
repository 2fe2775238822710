/- A heap of things in memory; which one stands ahead: 'before'. -/
import Derived.Test.YtcpjlfhehjmfbaaHK
import Derived.Test.YtcpjlfhehjmfbaaHM
import Derived.Deep.DeepCutAuto
import Derived.Deep.RegionHeld3
namespace Go.Proofs.Ytcpjlfhehjmfbaa.Hi
open Go.RowKit Go.Shelf Go.Proofs.Ytcpjlfhehjmfbaa.Sg Go.Proofs.Ytcpjlfhehjmfbaa.Hm
set_option linter.unusedVariables false
set_option linter.unusedSimpArgs false
abbrev A := Int
abbrev E := A × Int
/-- The cells of a heap's entries: a thing, and when it came. -/
def cellsE : List E → List Value
  | [] => []
  | e :: es => (.int .i64 e.1) :: (.int .i64 e.2) :: cellsE es
theorem cellsE_length : ∀ es, (cellsE es).length = es.length * 2
  | [] => rfl
  | e :: es => by simp only [cellsE, List.length_cons, cellsE_length es]; omega
theorem cellsE_append : ∀ es fs, cellsE (es ++ fs) = cellsE es ++ cellsE fs
  | [], fs => rfl
  | e :: es, fs => by simp only [cellsE, List.cons_append, cellsE_append es fs]
theorem cellsE_get0 : ∀ (es : List E) (i : Nat) (h : i < es.length), (cellsE es)[i * 2]? = some (.int .i64 es[i].1)
  | e :: es, 0, h => rfl
  | e :: es, i + 1, h => by
    have := cellsE_get0 es i (by simpa using h)
    rw [show (i + 1) * 2 = i * 2 + 1 + 1 from by omega]
    simpa [cellsE] using this
theorem cellsE_get1 : ∀ (es : List E) (i : Nat) (h : i < es.length), (cellsE es)[i * 2 + 1]? = some (.int .i64 es[i].2)
  | e :: es, 0, h => rfl
  | e :: es, i + 1, h => by
    have := cellsE_get1 es i (by simpa using h)
    rw [show (i + 1) * 2 = i * 2 + 1 + 1 from by omega]
    simpa [cellsE] using this
theorem cellsE_set : ∀ (es : List E) (i : Nat) (e : E), (((cellsE es).set (i * 2) (.int .i64 e.1)).set (i * 2 + 1) (.int .i64 e.2)) = cellsE (es.set i e)
  | [], i, e => by simp [cellsE]
  | x :: es, 0, e => by simp [cellsE]
  | x :: es, i + 1, e => by
    have := cellsE_set es i e
    rw [show (i + 1) * 2 = i * 2 + 1 + 1 from by omega]
    simp [cellsE, this]
theorem cellsE_take : ∀ (es : List E) (i : Nat), (cellsE es).take (i * 2) = cellsE (es.take i)
  | [], i => by simp [cellsE]
  | x :: es, 0 => by simp [cellsE]
  | x :: es, i + 1 => by
    have := cellsE_take es i
    rw [show (i + 1) * 2 = i * 2 + 1 + 1 from by omega]
    simp [cellsE, this]

/-- An order: a function value, what it computes, what of the memory it wants, and of which things. -/
structure Ord where
  lf : Nat
  caps : Array Value
  lt : A → A → Bool
  inv : World → Prop
  ok : A → Prop
/-- The order's promise. -/
structure Ord.OK (O : Ord) (B : Nat) : Prop where
  call : ∀ (x1 : Int) (x2 : Int) (w : World), O.inv w → O.ok x1 → O.ok x2 → Calls Try.prog O.lf (#[.int .i64 x1, .int .i64 x2] ++ O.caps) w fun e w' => e = .returned (.bool (O.lt x1 x2)) ∧ Below w.heap.size w w'
  keep : ∀ w w', O.inv w → Below B w w' → O.inv w'
  enters : ∀ args w, (callFunc O.lf args).run Try.prog w = .ok (.enter O.lf args) w
/-- A heap behind a pointer: its order, its row of entries, the count of what has come. -/
structure HI (w : World) (B g : Nat) (O : Ord) (es : List E) (came : Int) (v : Value) : Prop where
  blk : w.heap[g]? = some (.cells #[.func (.func O.lf) #[] O.caps, v, .int .i64 came] 49 (0, 0))
  own : w.ownsRow B 51 2 v es.length (cellsE es)
  ne : v.ownBlock ≠ some g
  ge : B ≤ g
  inv : O.inv w
  oks : ∀ e ∈ es, O.ok e.1
theorem HI.lt {w : World} {B g : Nat} {O : Ord} {es : List E} {came : Int} {v : Value} (h : HI w B g O es came v) : g < w.heap.size := (Array.getElem?_eq_some_iff.1 h.blk).1
theorem HI.form {w : World} {B g : Nat} {O : Ord} {es : List E} {came : Int} {v : Value} (h : HI w B g O es came v) (hp : 0 < es.length) : ∃ b cap, v = .slice (some ⟨b, 0, none⟩) es.length cap ∧ b < w.heap.size ∧ b ≠ g := by
  rcases h.own.2 with ⟨_, h0⟩ | ⟨b, cap, cur, rfl, hb, hh, _⟩
  · omega
  · exact ⟨b, cap, rfl, (Array.getElem?_eq_some_iff.1 hh).1, fun e => h.ne (by rw [e]; rfl)⟩
theorem HI.len {w : World} {B g : Nat} {O : Ord} {es : List E} {came : Int} {v : Value} (h : HI w B g O es came v) : es.length ≤ 9223372036854775807 := by
  rcases h.own.2 with ⟨_, h0⟩ | ⟨b, cap, cur, rfl, hb, hh, h1, h2, _⟩
  · omega
  · unfold maxLen at h2; omega
theorem HI.base {w : World} {B g : Nat} {O : Ord} {es : List E} {came : Int} {v : Value} (h : HI w B g O es came v) : ∀ k, v.ownBlock = some k → B ≤ k ∧ k < w.heap.size := by
  intro k hk
  rcases h.own.2 with ⟨rfl, _⟩ | ⟨b, cap, cur, rfl, hb, hh, _⟩
  · simp [Value.ownBlock] at hk
  · rw [← Option.some.inj (show some b = some k from hk)]; exact ⟨hb, (Array.getElem?_eq_some_iff.1 hh).1⟩
theorem HI.kept {w W : World} {B g : Nat} {O : Ord} {es : List E} {came : Int} {v : Value} {S : Nat → Prop} (OK : O.OK B) (h : HI w B g O es came v) (hk : Kept w W S) (hg : ¬ S g) (hv : ∀ k, v.ownBlock = some k → ¬ S k) (hS : ∀ k, S k → B ≤ k) : HI W B g O es came v := by
  have hl := h.lt
  have hge := h.ge
  refine ⟨(hk.blk g h.lt hg).trans h.blk, ⟨h.own.1, ?_⟩, h.ne, h.ge, OK.keep _ _ h.inv (hk.below (by omega) hS), h.oks⟩
  rcases h.own.2 with h0 | ⟨b, cap, cur, rfl, hb, hh, h1⟩
  · exact .inl h0
  · exact .inr ⟨b, cap, cur, rfl, hb, (hk.blk b (Array.getElem?_eq_some_iff.1 hh).1 (hv b rfl)).trans hh, h1⟩
theorem HI.below {w W : World} {B g : Nat} {O : Ord} {es : List E} {came : Int} {v : Value} (OK : O.OK B) (h : HI w B g O es came v) (hb : Below w.heap.size w W) : HI W B g O es came v :=
  h.kept OK (Kept.of_below hb (fun _ => False)) id (fun _ _ h => h) (fun _ h => h.elim)
set_option maxHeartbeats 1000000 in
set_option maxRecDepth 100000 in
theorem before0 {B : Nat} {O : Ord} (OK : O.OK B) (g b n cap : Nat) (i j : Int) (x1 : Int) (x2 : Int) (ci cj came : Int) (w : World) (hi0 : 0 ≤ i) (hin : i < n) (hj0 : 0 ≤ j) (hjn : j < n) (hn : n ≤ 9223372036854775807) (hgl : g < w.heap.size) (hbl : b < w.heap.size)
    (h0 : w.cell? ⟨g, 0, none⟩ = some (.func (.func O.lf) #[] O.caps)) (h1 : w.cell? ⟨g, 1, none⟩ = some (.slice (some ⟨b, 0, none⟩) n cap)) (h2 : w.cell? ⟨g, 2, none⟩ = some (.int .i64 came))
    (a0 : w.cell? ⟨b, i.toNat * 2, none⟩ = some (.int .i64 x1))
    (a1 : w.cell? ⟨b, i.toNat * 2 + 1, none⟩ = some (.int .i64 ci))
    (b0 : w.cell? ⟨b, j.toNat * 2, none⟩ = some (.int .i64 x2))
    (b1 : w.cell? ⟨b, j.toNat * 2 + 1, none⟩ = some (.int .i64 cj))
    (hI : ∀ w', Below w.heap.size w w' → O.inv w') (o1 : O.ok x1) (o2 : O.ok x2) (t1 : O.lt x1 x2 = true)  :
    Calls Try.prog 21 #[.pointer (some ⟨g, 0, none⟩), .int .i64 i, .int .i64 j] w fun e w' => e = .returned (.bool (true)) ∧ Below w.heap.size w w' := by
  have eg := OK.enters
  have C1 := Aside0.mk (fun w' (hb : Below w.heap.size w w') => by have h9 := OK.call x1 x2 w' (hI w' hb) o1 o2; rw [t1] at h9; exact h9)
  
  clear t1 hI o1 o2 OK 
  generalize O.lf = lf at *
  generalize O.caps = caps at *
  go_enter Try.func21, Try.ntmps21
  go_upto_region 1 with fail
  go_cut [7, 8] (fun s7 s8 wx => ∃ p q : Nat, s7 = .pointer (some ⟨p, 0, none⟩) ∧ s8 = .pointer (some ⟨q, 0, none⟩) ∧ Aside0 (wx.cell? ⟨p, 0, none⟩ = some (.int .i64 x1) ∧ wx.cell? ⟨p, 1, none⟩ = some (.int .i64 ci)) ∧ Aside0 (wx.cell? ⟨q, 0, none⟩ = some (.int .i64 x2) ∧ wx.cell? ⟨q, 1, none⟩ = some (.int .i64 cj)) ∧ Aside0 (Below w.heap.size w wx))
  case first =>
    go_region
    all_goals (go_wp2_with fail; go_meet; exact ⟨_, _, rfl, rfl, ⟨by simp⟩, ⟨by simp⟩, ⟨by repeat (first | exact Below.refl _ _ | apply below_drewN | apply below_drew | apply below_alloc0)⟩⟩)
  case rest =>
    obtain ⟨p, q, rfl, rfl, HP, HQ, HB⟩ := hcut
    obtain ⟨p0, p1⟩ := HP.out
    obtain ⟨q0, q1⟩ := HQ.out
    have g0 := below_cell0 HB.out h0
    have CC := Aside0.mk (C1.out _ (below_drew HB.out))
    clear C1
    go_wp2
    go_region_held3 (fun w' => w'.cell? ⟨g, 0, none⟩ = some (.func (.func lf) #[] caps) ∧ w'.cell? ⟨p, 0, none⟩ = some (.int .i64 x1) ∧ w'.cell? ⟨p, 1, none⟩ = some (.int .i64 ci) ∧ w'.cell? ⟨q, 0, none⟩ = some (.int .i64 x2) ∧ w'.cell? ⟨q, 1, none⟩ = some (.int .i64 cj)) (go_keep) ((refine (CC.out).mono ?_; rintro e w4 ⟨rfl, hb4⟩; have HB4 := Aside0.mk (below_trans0 (below_drew HB.out) hb4); have p0z := below_cell0 hb4 p0; have p1z := below_cell0 hb4 p1; have q0z := below_cell0 hb4 q0; have q1z := below_cell0 hb4 q1; have g1 := below_cell0 hb4 g0))
    all_goals
      clear CC hb4 p0 p1 q0 q1 g0
      go_wp2
      go_ret
      exact ⟨rfl, HB4.out⟩
set_option maxHeartbeats 1000000 in
set_option maxRecDepth 100000 in
theorem before1 {B : Nat} {O : Ord} (OK : O.OK B) (g b n cap : Nat) (i j : Int) (x1 : Int) (x2 : Int) (ci cj came : Int) (w : World) (hi0 : 0 ≤ i) (hin : i < n) (hj0 : 0 ≤ j) (hjn : j < n) (hn : n ≤ 9223372036854775807) (hgl : g < w.heap.size) (hbl : b < w.heap.size)
    (h0 : w.cell? ⟨g, 0, none⟩ = some (.func (.func O.lf) #[] O.caps)) (h1 : w.cell? ⟨g, 1, none⟩ = some (.slice (some ⟨b, 0, none⟩) n cap)) (h2 : w.cell? ⟨g, 2, none⟩ = some (.int .i64 came))
    (a0 : w.cell? ⟨b, i.toNat * 2, none⟩ = some (.int .i64 x1))
    (a1 : w.cell? ⟨b, i.toNat * 2 + 1, none⟩ = some (.int .i64 ci))
    (b0 : w.cell? ⟨b, j.toNat * 2, none⟩ = some (.int .i64 x2))
    (b1 : w.cell? ⟨b, j.toNat * 2 + 1, none⟩ = some (.int .i64 cj))
    (hI : ∀ w', Below w.heap.size w w' → O.inv w') (o1 : O.ok x1) (o2 : O.ok x2) (t1 : O.lt x1 x2 = false) (t2 : O.lt x2 x1 = true) :
    Calls Try.prog 21 #[.pointer (some ⟨g, 0, none⟩), .int .i64 i, .int .i64 j] w fun e w' => e = .returned (.bool (false)) ∧ Below w.heap.size w w' := by
  have eg := OK.enters
  have C1 := Aside0.mk (fun w' (hb : Below w.heap.size w w') => by have h9 := OK.call x1 x2 w' (hI w' hb) o1 o2; rw [t1] at h9; exact h9)
  have C2 := Aside0.mk (fun w' (hb : Below w.heap.size w w') => by have h9 := OK.call x2 x1 w' (hI w' hb) o2 o1; rw [t2] at h9; exact h9)
  clear t1 hI o1 o2 OK t2
  generalize O.lf = lf at *
  generalize O.caps = caps at *
  go_enter Try.func21, Try.ntmps21
  go_upto_region 1 with fail
  go_cut [7, 8] (fun s7 s8 wx => ∃ p q : Nat, s7 = .pointer (some ⟨p, 0, none⟩) ∧ s8 = .pointer (some ⟨q, 0, none⟩) ∧ Aside0 (wx.cell? ⟨p, 0, none⟩ = some (.int .i64 x1) ∧ wx.cell? ⟨p, 1, none⟩ = some (.int .i64 ci)) ∧ Aside0 (wx.cell? ⟨q, 0, none⟩ = some (.int .i64 x2) ∧ wx.cell? ⟨q, 1, none⟩ = some (.int .i64 cj)) ∧ Aside0 (Below w.heap.size w wx))
  case first =>
    go_region
    all_goals (go_wp2_with fail; go_meet; exact ⟨_, _, rfl, rfl, ⟨by simp⟩, ⟨by simp⟩, ⟨by repeat (first | exact Below.refl _ _ | apply below_drewN | apply below_drew | apply below_alloc0)⟩⟩)
  case rest =>
    obtain ⟨p, q, rfl, rfl, HP, HQ, HB⟩ := hcut
    obtain ⟨p0, p1⟩ := HP.out
    obtain ⟨q0, q1⟩ := HQ.out
    have g0 := below_cell0 HB.out h0
    have CC := Aside0.mk (C1.out _ (below_drew HB.out))
    clear C1
    go_wp2
    go_region_held3 (fun w' => w'.cell? ⟨g, 0, none⟩ = some (.func (.func lf) #[] caps) ∧ w'.cell? ⟨p, 0, none⟩ = some (.int .i64 x1) ∧ w'.cell? ⟨p, 1, none⟩ = some (.int .i64 ci) ∧ w'.cell? ⟨q, 0, none⟩ = some (.int .i64 x2) ∧ w'.cell? ⟨q, 1, none⟩ = some (.int .i64 cj)) (go_keep) ((refine (CC.out).mono ?_; rintro e w4 ⟨rfl, hb4⟩; have HB4 := Aside0.mk (below_trans0 (below_drew HB.out) hb4); have p0z := below_cell0 hb4 p0; have p1z := below_cell0 hb4 p1; have q0z := below_cell0 hb4 q0; have q1z := below_cell0 hb4 q1; have g1 := below_cell0 hb4 g0))
    all_goals
      clear CC hb4 p0 p1 q0 q1 g0
      go_wp2
      have CD := Aside0.mk (C2.out _ (below_drew HB4.out))
      clear C2
      go_region_held3 (fun w' => w'.cell? ⟨g, 0, none⟩ = some (.func (.func lf) #[] caps) ∧ w'.cell? ⟨p, 0, none⟩ = some (.int .i64 x1) ∧ w'.cell? ⟨p, 1, none⟩ = some (.int .i64 ci) ∧ w'.cell? ⟨q, 0, none⟩ = some (.int .i64 x2) ∧ w'.cell? ⟨q, 1, none⟩ = some (.int .i64 cj)) (go_keep) ((refine (CD.out).mono ?_; rintro e w5 ⟨rfl, hb5⟩; have HB5 := Aside0.mk (below_trans0 (below_drew HB4.out) hb5); have p0y := below_cell0 hb5 p0z; have p1y := below_cell0 hb5 p1z; have q0y := below_cell0 hb5 q0z; have q1y := below_cell0 hb5 q1z; have g2 := below_cell0 hb5 g1))
      all_goals
        clear CD hb5
        go_wp2
        go_ret
        exact ⟨rfl, HB5.out⟩
set_option maxHeartbeats 1000000 in
set_option maxRecDepth 100000 in
theorem before2 {B : Nat} {O : Ord} (OK : O.OK B) (g b n cap : Nat) (i j : Int) (x1 : Int) (x2 : Int) (ci cj came : Int) (w : World) (hi0 : 0 ≤ i) (hin : i < n) (hj0 : 0 ≤ j) (hjn : j < n) (hn : n ≤ 9223372036854775807) (hgl : g < w.heap.size) (hbl : b < w.heap.size)
    (h0 : w.cell? ⟨g, 0, none⟩ = some (.func (.func O.lf) #[] O.caps)) (h1 : w.cell? ⟨g, 1, none⟩ = some (.slice (some ⟨b, 0, none⟩) n cap)) (h2 : w.cell? ⟨g, 2, none⟩ = some (.int .i64 came))
    (a0 : w.cell? ⟨b, i.toNat * 2, none⟩ = some (.int .i64 x1))
    (a1 : w.cell? ⟨b, i.toNat * 2 + 1, none⟩ = some (.int .i64 ci))
    (b0 : w.cell? ⟨b, j.toNat * 2, none⟩ = some (.int .i64 x2))
    (b1 : w.cell? ⟨b, j.toNat * 2 + 1, none⟩ = some (.int .i64 cj))
    (hI : ∀ w', Below w.heap.size w w' → O.inv w') (o1 : O.ok x1) (o2 : O.ok x2) (t1 : O.lt x1 x2 = false) (t2 : O.lt x2 x1 = false) :
    Calls Try.prog 21 #[.pointer (some ⟨g, 0, none⟩), .int .i64 i, .int .i64 j] w fun e w' => e = .returned (.bool (decide (ci < cj))) ∧ Below w.heap.size w w' := by
  have eg := OK.enters
  have C1 := Aside0.mk (fun w' (hb : Below w.heap.size w w') => by have h9 := OK.call x1 x2 w' (hI w' hb) o1 o2; rw [t1] at h9; exact h9)
  have C2 := Aside0.mk (fun w' (hb : Below w.heap.size w w') => by have h9 := OK.call x2 x1 w' (hI w' hb) o2 o1; rw [t2] at h9; exact h9)
  clear t1 hI o1 o2 OK t2
  generalize O.lf = lf at *
  generalize O.caps = caps at *
  go_enter Try.func21, Try.ntmps21
  go_upto_region 1 with fail
  go_cut [7, 8] (fun s7 s8 wx => ∃ p q : Nat, s7 = .pointer (some ⟨p, 0, none⟩) ∧ s8 = .pointer (some ⟨q, 0, none⟩) ∧ Aside0 (wx.cell? ⟨p, 0, none⟩ = some (.int .i64 x1) ∧ wx.cell? ⟨p, 1, none⟩ = some (.int .i64 ci)) ∧ Aside0 (wx.cell? ⟨q, 0, none⟩ = some (.int .i64 x2) ∧ wx.cell? ⟨q, 1, none⟩ = some (.int .i64 cj)) ∧ Aside0 (Below w.heap.size w wx))
  case first =>
    go_region
    all_goals (go_wp2_with fail; go_meet; exact ⟨_, _, rfl, rfl, ⟨by simp⟩, ⟨by simp⟩, ⟨by repeat (first | exact Below.refl _ _ | apply below_drewN | apply below_drew | apply below_alloc0)⟩⟩)
  case rest =>
    obtain ⟨p, q, rfl, rfl, HP, HQ, HB⟩ := hcut
    obtain ⟨p0, p1⟩ := HP.out
    obtain ⟨q0, q1⟩ := HQ.out
    have g0 := below_cell0 HB.out h0
    have CC := Aside0.mk (C1.out _ (below_drew HB.out))
    clear C1
    go_wp2
    go_region_held3 (fun w' => w'.cell? ⟨g, 0, none⟩ = some (.func (.func lf) #[] caps) ∧ w'.cell? ⟨p, 0, none⟩ = some (.int .i64 x1) ∧ w'.cell? ⟨p, 1, none⟩ = some (.int .i64 ci) ∧ w'.cell? ⟨q, 0, none⟩ = some (.int .i64 x2) ∧ w'.cell? ⟨q, 1, none⟩ = some (.int .i64 cj)) (go_keep) ((refine (CC.out).mono ?_; rintro e w4 ⟨rfl, hb4⟩; have HB4 := Aside0.mk (below_trans0 (below_drew HB.out) hb4); have p0z := below_cell0 hb4 p0; have p1z := below_cell0 hb4 p1; have q0z := below_cell0 hb4 q0; have q1z := below_cell0 hb4 q1; have g1 := below_cell0 hb4 g0))
    all_goals
      clear CC hb4 p0 p1 q0 q1 g0
      go_wp2
      have CD := Aside0.mk (C2.out _ (below_drew HB4.out))
      clear C2
      go_region_held3 (fun w' => w'.cell? ⟨g, 0, none⟩ = some (.func (.func lf) #[] caps) ∧ w'.cell? ⟨p, 0, none⟩ = some (.int .i64 x1) ∧ w'.cell? ⟨p, 1, none⟩ = some (.int .i64 ci) ∧ w'.cell? ⟨q, 0, none⟩ = some (.int .i64 x2) ∧ w'.cell? ⟨q, 1, none⟩ = some (.int .i64 cj)) (go_keep) ((refine (CD.out).mono ?_; rintro e w5 ⟨rfl, hb5⟩; have HB5 := Aside0.mk (below_trans0 (below_drew HB4.out) hb5); have p0y := below_cell0 hb5 p0z; have p1y := below_cell0 hb5 p1z; have q0y := below_cell0 hb5 q0z; have q1y := below_cell0 hb5 q1z; have g2 := below_cell0 hb5 g1))
      all_goals
        clear CD hb5
        go_wp2
        go_ret
        exact ⟨rfl, HB5.out⟩
theorem before_any {B : Nat} {O : Ord} (OK : O.OK B) (g : Nat) (es : List E) (came : Int) (v : Value) (i j : Int) (r : Bool) (w : World) (h : HI w B g O es came v) (hi0 : 0 ≤ i) (hin : i < es.length) (hj0 : 0 ≤ j) (hjn : j < es.length) (hr : bef O.lt (es.getD i.toNat default) (es.getD j.toNat default) = r) :
    Calls Try.prog 21 #[.pointer (some ⟨g, 0, none⟩), .int .i64 i, .int .i64 j] w fun e w' => e = .returned (.bool r) ∧ Below w.heap.size w w' := by
  obtain ⟨b, cap, rfl, hbl, hbg⟩ := h.form (by omega)
  have hi : i.toNat < es.length := by omega
  have hj : j.toNat < es.length := by omega
  have a0 : w.cell? ⟨b, i.toNat * 2, none⟩ = some (.int .i64 es[i.toNat].1) := by rw [h.own.cellAt _ (by omega)]; exact cellsE_get0 es _ hi
  have a1 : w.cell? ⟨b, i.toNat * 2 + 1, none⟩ = some (.int .i64 es[i.toNat].2) := by rw [h.own.cellAt _ (by omega)]; exact cellsE_get1 es _ hi
  have b0 : w.cell? ⟨b, j.toNat * 2, none⟩ = some (.int .i64 es[j.toNat].1) := by rw [h.own.cellAt _ (by omega)]; exact cellsE_get0 es _ hj
  have b1 : w.cell? ⟨b, j.toNat * 2 + 1, none⟩ = some (.int .i64 es[j.toNat].2) := by rw [h.own.cellAt _ (by omega)]; exact cellsE_get1 es _ hj
  have hgl := h.lt
  have hge := h.ge
  obtain ⟨k0, k1, k2, f0, f1, f2⟩ := blk_facts h.blk
  have hI : ∀ w', Below w.heap.size w w' → O.inv w' := fun w' hb => OK.keep _ _ h.inv (hb.mono (by omega))
  have o1 := h.oks _ (List.getElem_mem hi)
  have o2 := h.oks _ (List.getElem_mem hj)
  rw [getD_at es _ hi, getD_at es _ hj] at hr
  subst hr
  unfold bef
  cases c0 : O.lt es[i.toNat].1 es[j.toNat].1 with
  | true => exact (before0 OK g b es.length cap i j _ _ _ _ came w hi0 hin hj0 hjn h.len hgl hbl k0 k1 k2 a0 a1 b0 b1 hI o1 o2 c0).mono fun e w' ⟨he, hw⟩ => ⟨by rw [he]; simp, hw⟩
  | false =>
    cases c1 : O.lt es[j.toNat].1 es[i.toNat].1 with
    | true => exact (before1 OK g b es.length cap i j _ _ _ _ came w hi0 hin hj0 hjn h.len hgl hbl k0 k1 k2 a0 a1 b0 b1 hI o1 o2 c0 c1).mono fun e w' ⟨he, hw⟩ => ⟨by rw [he]; simp, hw⟩
    | false => exact (before2 OK g b es.length cap i j _ _ _ _ came w hi0 hin hj0 hjn h.len hgl hbl k0 k1 k2 a0 a1 b0 b1 hI o1 o2 c0 c1).mono fun e w' ⟨he, hw⟩ => ⟨by rw [he]; simp, hw⟩
end Go.Proofs.Ytcpjlfhehjmfbaa.Hi
