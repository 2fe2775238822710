import Derived.Test.YtchkeanjekoghaaHpA
namespace Go.Proofs.Ytchkeanjekoghaa.Hp
open Go.RowKit Go.Shelf
set_option linter.unusedVariables false
set_option linter.unusedSimpArgs false

set_option maxHeartbeats 1000000 in
set_option maxRecDepth 100000 in
theorem swap_ne (g b n cap : Nat) (i j : Int) (xi ci xj cj : Int) (w : World) (hi0 : 0 ≤ i) (hin : i < n) (hj0 : 0 ≤ j) (hjn : j < n) (hn : n ≤ 9223372036854775807) (hij : i.toNat ≠ j.toNat)
    (h1 : w.cell? ⟨g, 1, none⟩ = some (.slice (some ⟨b, 0, none⟩) n cap))
    (a0 : w.cell? ⟨b, i.toNat * 2, none⟩ = some (.int .i64 xi)) (a1 : w.cell? ⟨b, i.toNat * 2 + 1, none⟩ = some (.int .i64 ci)) (b0 : w.cell? ⟨b, j.toNat * 2, none⟩ = some (.int .i64 xj)) (b1 : w.cell? ⟨b, j.toNat * 2 + 1, none⟩ = some (.int .i64 cj))
    (f0 : w.frozen? ⟨b, i.toNat * 2, none⟩ = false) (f1 : w.frozen? ⟨b, i.toNat * 2 + 1, none⟩ = false) (f2 : w.frozen? ⟨b, j.toNat * 2, none⟩ = false) (f3 : w.frozen? ⟨b, j.toNat * 2 + 1, none⟩ = false)  :
    Calls Try.prog 22 #[.pointer (some ⟨g, 0, none⟩), .int .i64 i, .int .i64 j] w fun e w' => e = .returned (.tuple #[]) ∧ w' = ((((w.setCell ⟨b, i.toNat * 2, none⟩ (.int .i64 xj)).setCell ⟨b, i.toNat * 2 + 1, none⟩ (.int .i64 cj)).setCell ⟨b, j.toNat * 2, none⟩ (.int .i64 xi)).setCell ⟨b, j.toNat * 2 + 1, none⟩ (.int .i64 ci)).drew := by
  go_enter Try.func22, Try.ntmps22
  go_wp2
  go_region
  all_goals go_wp2
  all_goals go_end0
  all_goals exact ⟨rfl, rfl⟩
set_option maxHeartbeats 1000000 in
set_option maxRecDepth 100000 in
theorem swap_eq (g b n cap : Nat) (i : Int) (xi ci : Int) (w : World) (hi0 : 0 ≤ i) (hin : i < n) (hn : n ≤ 9223372036854775807)
    (h1 : w.cell? ⟨g, 1, none⟩ = some (.slice (some ⟨b, 0, none⟩) n cap))
    (a0 : w.cell? ⟨b, i.toNat * 2, none⟩ = some (.int .i64 xi)) (a1 : w.cell? ⟨b, i.toNat * 2 + 1, none⟩ = some (.int .i64 ci))
    (f0 : w.frozen? ⟨b, i.toNat * 2, none⟩ = false) (f1 : w.frozen? ⟨b, i.toNat * 2 + 1, none⟩ = false)  :
    Calls Try.prog 22 #[.pointer (some ⟨g, 0, none⟩), .int .i64 i, .int .i64 i] w fun e w' => e = .returned (.tuple #[]) ∧ w' = ((((w.setCell ⟨b, i.toNat * 2, none⟩ (.int .i64 xi)).setCell ⟨b, i.toNat * 2 + 1, none⟩ (.int .i64 ci)).setCell ⟨b, i.toNat * 2, none⟩ (.int .i64 xi)).setCell ⟨b, i.toNat * 2 + 1, none⟩ (.int .i64 ci)).drew := by
  go_enter Try.func22, Try.ntmps22
  go_wp2
  go_region
  all_goals go_wp2
  all_goals go_end0
  all_goals exact ⟨rfl, rfl⟩

/-- The cells of a heap's entries: a number, and when it came. -/
def cells2 : List (Int × Int) → List Value
  | [] => []
  | e :: es => .int .i64 e.1 :: .int .i64 e.2 :: cells2 es
theorem cells2_length : ∀ es, (cells2 es).length = es.length * 2
  | [] => rfl
  | e :: es => by simp only [cells2, List.length_cons, cells2_length es]; omega
theorem cells2_append : ∀ es fs, cells2 (es ++ fs) = cells2 es ++ cells2 fs
  | [], fs => rfl
  | e :: es, fs => by simp only [cells2, List.cons_append, cells2_append es fs]
theorem cells2_get0 : ∀ (es : List (Int × Int)) (i : Nat) (h : i < es.length), (cells2 es)[i * 2]? = some (.int .i64 es[i].1)
  | e :: es, 0, h => rfl
  | e :: es, i + 1, h => by
    have := cells2_get0 es i (by simpa using h)
    rw [show (i + 1) * 2 = i * 2 + 1 + 1 from by omega]
    simpa [cells2] using this
theorem cells2_get1 : ∀ (es : List (Int × Int)) (i : Nat) (h : i < es.length), (cells2 es)[i * 2 + 1]? = some (.int .i64 es[i].2)
  | e :: es, 0, h => rfl
  | e :: es, i + 1, h => by
    have := cells2_get1 es i (by simpa using h)
    rw [show (i + 1) * 2 = i * 2 + 1 + 1 from by omega]
    simpa [cells2] using this
theorem cells2_set : ∀ (es : List (Int × Int)) (i : Nat) (e : Int × Int), ((cells2 es).set (i * 2) (.int .i64 e.1)).set (i * 2 + 1) (.int .i64 e.2) = cells2 (es.set i e)
  | [], i, e => by simp [cells2]
  | x :: es, 0, e => by simp [cells2]
  | x :: es, i + 1, e => by
    have := cells2_set es i e
    rw [show (i + 1) * 2 = i * 2 + 1 + 1 from by omega]
    simp [cells2, this]
theorem cells2_take : ∀ (es : List (Int × Int)) (i : Nat), (cells2 es).take (i * 2) = cells2 (es.take i)
  | [], i => by simp [cells2]
  | x :: es, 0 => by simp [cells2]
  | x :: es, i + 1 => by
    have := cells2_take es i
    rw [show (i + 1) * 2 = i * 2 + 1 + 1 from by omega]
    simp [cells2, this]

/-- A heap behind a pointer: its order, its row of entries, the count of what has come. -/
structure HI (w : World) (B g lf : Nat) (es : List (Int × Int)) (came : Int) (v : Value) : Prop where
  blk : w.heap[g]? = some (.cells #[.func (.func lf) #[] #[], v, .int .i64 came] 53 (0, 0))
  own : w.ownsRow B 55 2 v es.length (cells2 es)
  ne : v.ownBlock ≠ some g
theorem HI.lt {w : World} {B g lf : Nat} {es : List (Int × Int)} {came : Int} {v : Value} (h : HI w B g lf es came v) : g < w.heap.size := (Array.getElem?_eq_some_iff.1 h.blk).1
theorem HI.cell0 {w : World} {B g lf : Nat} {es : List (Int × Int)} {came : Int} {v : Value} (h : HI w B g lf es came v) : w.cell? ⟨g, 0, none⟩ = some (.func (.func lf) #[] #[]) := by
  rw [cell_of_row w g 0 _ _ _ h.blk]; rfl
theorem HI.cell1 {w : World} {B g lf : Nat} {es : List (Int × Int)} {came : Int} {v : Value} (h : HI w B g lf es came v) : w.cell? ⟨g, 1, none⟩ = some v := by
  rw [cell_of_row w g 1 _ _ _ h.blk]; rfl
theorem HI.cell2 {w : World} {B g lf : Nat} {es : List (Int × Int)} {came : Int} {v : Value} (h : HI w B g lf es came v) : w.cell? ⟨g, 2, none⟩ = some (.int .i64 came) := by
  rw [cell_of_row w g 2 _ _ _ h.blk]; rfl
theorem HI.frz {w : World} {B g lf : Nat} {es : List (Int × Int)} {came : Int} {v : Value} (h : HI w B g lf es came v) (j : Nat) : w.frozen? ⟨g, j, none⟩ = false := frozen_of_row w g j _ _ h.blk
theorem HI.form {w : World} {B g lf : Nat} {es : List (Int × Int)} {came : Int} {v : Value} (h : HI w B g lf es came v) (hp : 0 < es.length) : ∃ b cap, v = .slice (some ⟨b, 0, none⟩) es.length cap ∧ b < w.heap.size ∧ b ≠ g := by
  rcases h.own.2 with ⟨_, h0⟩ | ⟨b, cap, cur, rfl, hb, hh, _⟩
  · omega
  · exact ⟨b, cap, rfl, (Array.getElem?_eq_some_iff.1 hh).1, fun e => h.ne (by rw [e]; rfl)⟩
theorem HI.len {w : World} {B g lf : Nat} {es : List (Int × Int)} {came : Int} {v : Value} (h : HI w B g lf es came v) : es.length ≤ 9223372036854775807 := by
  rcases h.own.2 with ⟨_, h0⟩ | ⟨b, cap, cur, rfl, hb, hh, h1, h2, _⟩
  · omega
  · unfold maxLen at h2; omega
theorem HI.kept {w W : World} {B g lf : Nat} {es : List (Int × Int)} {came : Int} {v : Value} {S : Nat → Prop} (h : HI w B g lf es came v) (hk : Kept w W S) (hg : ¬ S g) (hv : ∀ k, v.ownBlock = some k → ¬ S k) : HI W B g lf es came v := by
  refine ⟨(hk.blk g h.lt hg).trans h.blk, ⟨h.own.1, ?_⟩, h.ne⟩
  rcases h.own.2 with h0 | ⟨b, cap, cur, rfl, hb, hh, h1⟩
  · exact .inl h0
  · exact .inr ⟨b, cap, cur, rfl, hb, (hk.blk b (Array.getElem?_eq_some_iff.1 hh).1 (hv b rfl)).trans hh, h1⟩
theorem HI.below {w W : World} {B g lf : Nat} {es : List (Int × Int)} {came : Int} {v : Value} (h : HI w B g lf es came v) (hb : Below w.heap.size w W) : HI W B g lf es came v :=
  h.kept (Kept.of_below hb (fun _ => False)) id (fun _ _ h => h)

def swp (es : List (Int × Int)) (i j : Nat) : List (Int × Int) := (es.set i (es.getD j (0, 0))).set j (es.getD i (0, 0))
theorem swp_length (es : List (Int × Int)) (i j : Nat) : (swp es i j).length = es.length := by simp [swp]
theorem getD_at (es : List (Int × Int)) (i : Nat) (h : i < es.length) : es.getD i (0, 0) = es[i] := by simp [List.getD_eq_getElem?_getD, h]

theorem swap_kept (w : World) (b o1 o2 o3 o4 : Nat) (v1 v2 v3 v4 : Value) (n cap : Nat) : Kept w ((((w.setCell ⟨b, o1, none⟩ v1).setCell ⟨b, o2, none⟩ v2).setCell ⟨b, o3, none⟩ v3).setCell ⟨b, o4, none⟩ v4).drew (fun k => (Value.slice (some ⟨b, 0, none⟩) n cap).ownBlock = some k) := by
  have hS : (Value.slice (some ⟨b, 0, none⟩) n cap).ownBlock = some b := rfl
  refine Kept.drew ?_
  refine Kept.setCell (p := ⟨b, o4, none⟩) ?_ (.inl hS) _
  refine Kept.setCell (p := ⟨b, o3, none⟩) ?_ (.inl hS) _
  refine Kept.setCell (p := ⟨b, o2, none⟩) ?_ (.inl hS) _
  refine Kept.setCell (p := ⟨b, o1, none⟩) ?_ (.inl hS) _
  exact Kept.refl w _
theorem swap_any (g lf B : Nat) (es : List (Int × Int)) (came : Int) (v : Value) (i j : Int) (w : World) (h : HI w B g lf es came v) (hi0 : 0 ≤ i) (hin : i < es.length) (hj0 : 0 ≤ j) (hjn : j < es.length) :
    Calls Try.prog 22 #[.pointer (some ⟨g, 0, none⟩), .int .i64 i, .int .i64 j] w fun e w' => e = .returned (.tuple #[]) ∧ HI w' B g lf (swp es i.toNat j.toNat) came v ∧ Kept w w' (fun k => v.ownBlock = some k) := by
  obtain ⟨b, cap, rfl, hbl, hbg⟩ := h.form (by omega)
  have hi : i.toNat < es.length := by omega
  have hj : j.toNat < es.length := by omega
  have a0 : w.cell? ⟨b, i.toNat * 2, none⟩ = some (.int .i64 es[i.toNat].1) := by rw [h.own.cellAt _ (by omega)]; exact cells2_get0 es _ hi
  have a1 : w.cell? ⟨b, i.toNat * 2 + 1, none⟩ = some (.int .i64 es[i.toNat].2) := by rw [h.own.cellAt _ (by omega)]; exact cells2_get1 es _ hi
  have b0 : w.cell? ⟨b, j.toNat * 2, none⟩ = some (.int .i64 es[j.toNat].1) := by rw [h.own.cellAt _ (by omega)]; exact cells2_get0 es _ hj
  have b1 : w.cell? ⟨b, j.toNat * 2 + 1, none⟩ = some (.int .i64 es[j.toNat].2) := by rw [h.own.cellAt _ (by omega)]; exact cells2_get1 es _ hj
  have hf := fun k => h.own.frozenAt k
  have fin : ∀ w', w' = ((((w.setCell ⟨b, i.toNat * 2, none⟩ (.int .i64 es[j.toNat].1)).setCell ⟨b, i.toNat * 2 + 1, none⟩ (.int .i64 es[j.toNat].2)).setCell ⟨b, j.toNat * 2, none⟩ (.int .i64 es[i.toNat].1)).setCell ⟨b, j.toNat * 2 + 1, none⟩ (.int .i64 es[i.toNat].2)).drew →
      HI w' B g lf (swp es i.toNat j.toNat) came (.slice (some ⟨b, 0, none⟩) es.length cap) ∧ Kept w w' (fun k => (Value.slice (some ⟨b, 0, none⟩) es.length cap).ownBlock = some k) := by
    rintro w' rfl
    have o1 := (h.own.stored (i.toNat * 2) (.int .i64 es[j.toNat].1)).1
    have o2 := (o1.stored (i.toNat * 2 + 1) (.int .i64 es[j.toNat].2)).1
    rw [cells2_set es i.toNat es[j.toNat]] at o2
    have o3 := (o2.stored (j.toNat * 2) (.int .i64 es[i.toNat].1)).1
    have o4 := (o3.stored (j.toNat * 2 + 1) (.int .i64 es[i.toNat].2)).1
    rw [cells2_set (es.set i.toNat es[j.toNat]) j.toNat es[i.toNat]] at o4
    have hk := swap_kept w b (i.toNat * 2) (i.toNat * 2 + 1) (j.toNat * 2) (j.toNat * 2 + 1) (.int .i64 es[j.toNat].1) (.int .i64 es[j.toNat].2) (.int .i64 es[i.toNat].1) (.int .i64 es[i.toNat].2) es.length cap
    refine ⟨⟨(hk.blk g h.lt (fun e => hbg (Option.some.inj e))).trans h.blk, ?_, h.ne⟩, hk⟩
    unfold swp
    rw [getD_at es _ hi, getD_at es _ hj]
    have : ((es.set i.toNat es[j.toNat]).set j.toNat es[i.toNat]).length = es.length := by simp
    rw [this]
    exact o4
  by_cases hij : i.toNat = j.toNat
  · obtain rfl : i = j := by omega
    exact (swap_eq g b es.length cap i _ _ w hi0 hin h.len h.cell1 a0 a1 (hf _) (hf _)).mono fun e w' ⟨he, hw⟩ => ⟨he, fin w' hw⟩
  · exact (swap_ne g b es.length cap i j _ _ _ _ w hi0 hin hj0 hjn h.len hij h.cell1 a0 a1 b0 b1 (hf _) (hf _) (hf _) (hf _)).mono fun e w' ⟨he, hw⟩ => ⟨he, fin w' hw⟩

def bef (lt : Int → Int → Bool) (x y : Int × Int) : Bool := lt x.1 y.1 || (!lt y.1 x.1 && decide (x.2 < y.2))
theorem before_any (g B : Nat) (es : List (Int × Int)) (came : Int) (v : Value) (i j : Int) (w : World) (h : HI w B g 13 es came v) (hi0 : 0 ≤ i) (hin : i < es.length) (hj0 : 0 ≤ j) (hjn : j < es.length) :
    Calls Try.prog 21 #[.pointer (some ⟨g, 0, none⟩), .int .i64 i, .int .i64 j] w fun e w' => e = .returned (.bool (bef (fun a b => decide (a < b)) (es.getD i.toNat (0, 0)) (es.getD j.toNat (0, 0)))) ∧ Below w.heap.size w w' := by
  obtain ⟨b, cap, rfl, hbl, hbg⟩ := h.form (by omega)
  have hi : i.toNat < es.length := by omega
  have hj : j.toNat < es.length := by omega
  have a0 : w.cell? ⟨b, i.toNat * 2, none⟩ = some (.int .i64 es[i.toNat].1) := by rw [h.own.cellAt _ (by omega)]; exact cells2_get0 es _ hi
  have a1 : w.cell? ⟨b, i.toNat * 2 + 1, none⟩ = some (.int .i64 es[i.toNat].2) := by rw [h.own.cellAt _ (by omega)]; exact cells2_get1 es _ hi
  have b0 : w.cell? ⟨b, j.toNat * 2, none⟩ = some (.int .i64 es[j.toNat].1) := by rw [h.own.cellAt _ (by omega)]; exact cells2_get0 es _ hj
  have b1 : w.cell? ⟨b, j.toNat * 2 + 1, none⟩ = some (.int .i64 es[j.toNat].2) := by rw [h.own.cellAt _ (by omega)]; exact cells2_get1 es _ hj
  rw [getD_at es _ hi, getD_at es _ hj]
  unfold bef
  by_cases c0 : es[i.toNat].1 < es[j.toNat].1
  · exact (before_less0 g b es.length cap i j _ _ _ _ came w hi0 hin hj0 hjn h.len h.lt hbl h.cell0 h.cell1 h.cell2 a0 a1 b0 b1 (by simpa using c0)).mono fun e w' ⟨he, hw⟩ => ⟨by rw [he]; simp [c0], hw⟩
  · by_cases c1 : es[j.toNat].1 < es[i.toNat].1
    · exact (before_less1 g b es.length cap i j _ _ _ _ came w hi0 hin hj0 hjn h.len h.lt hbl h.cell0 h.cell1 h.cell2 a0 a1 b0 b1 (by simpa using c0) (by simpa using c1)).mono fun e w' ⟨he, hw⟩ => ⟨by rw [he]; simp [c0, c1], hw⟩
    · exact (before_less2 g b es.length cap i j _ _ _ _ came w hi0 hin hj0 hjn h.len h.lt hbl h.cell0 h.cell1 h.cell2 a0 a1 b0 b1 (by simpa using c0) (by simpa using c1)).mono fun e w' ⟨he, hw⟩ => ⟨by rw [he]; simp [c0, c1], hw⟩

end Go.Proofs.Ytchkeanjekoghaa.Hp
