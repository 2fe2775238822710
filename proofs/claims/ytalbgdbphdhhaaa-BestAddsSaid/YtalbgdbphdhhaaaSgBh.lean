/- The laws' head and better (layer 10); a best whose blocks are known. -/
import Derived.Test.YtalbgdbphdhhaaaSgBq
import Derived.Test.YtalbgdbphdhhaaaSgBg
import Derived.Test.YtalbgdbphdhhaaaSgK
namespace Go.Proofs.Ytalbgdbphdhhaaa.Sg
open Go.RowKit Go.Shelf
set_option linter.unusedVariables false
set_option linter.unusedSimpArgs false

def BestS (w : World) (B g : Nat) (F : Nat → Prop) (W : Nat) (great : Bool) (rows : List Row) : Prop := BestI w B g F W great rows ∧ ∀ b, F b → b < w.heap.size
theorem BestS.below {w w' : World} {B g W : Nat} {F : Nat → Prop} {great : Bool} {rows : List Row} (h : BestS w B g F W great rows) (hb : Below w.heap.size w w') : BestS w' B g F W great rows := ⟨h.1.below hb, fun b hf => Nat.lt_of_lt_of_le (h.2 b hf) hb.size⟩
theorem BestS.keeps {w w' : World} {B g W : Nat} {F ok : Nat → Prop} {great : Bool} {rows : List Row} (h : BestS w B g F W great rows) (hk : Keeps ok w w') (hs : ∀ b, F b → ok b) : BestS w' B g F W great rows := ⟨h.1.stays (hk.stays.mono (fun b hb _ => hs b hb)), fun b hf => Nat.lt_of_lt_of_le (h.2 b hf) hk.size⟩
theorem BestS.ge {w : World} {B g W : Nat} {F : Nat → Prop} {great : Bool} {rows : List Row} (h : BestS w B g F W great rows) : ∀ b, F b → B ≤ b := by
  obtain ⟨⟨mb, rv, bs, n, D, h1, h2, h3, h4, h5, h6⟩, _⟩ := h
  exact h6
theorem BestS.good {w : World} {B g W : Nat} {F : Nat → Prop} {great : Bool} {rows : List Row} (h : BestS w B g F W great rows) : GoodB W rows ∧ rows.length < 1000000 := by
  obtain ⟨⟨mb, rv, bs, n, D, h1, h2⟩, _⟩ := h
  exact ⟨h1.good, h1.lim⟩
theorem new_s (w : World) (W : Nat) (great : Bool) (hW : W < 1000) :
    Calls Try.prog 11 #[.int .i64 W, .bool great] w fun e w' => e = .returned (.pointer (some ⟨w.heap.size + 1, 0, none⟩)) ∧ BestS w' w.heap.size (w.heap.size + 1) (fun b => w.heap.size ≤ b ∧ b < w'.heap.size) W great [] ∧ Below w.heap.size w w' :=
  (best_new w W great hW).mono fun e w' h => ⟨h.1, ⟨h.2.1.mono (fun b hb hf => ⟨hf, hb⟩) (fun b hb => hb.1), fun b hb => hb.2⟩, h.2.2⟩
/-- Behind a Put. -/
def PutS (w w' : World) (B g W : Nat) (F : Nat → Prop) (great : Bool) (rows : List Row) : Prop :=
  ∃ F2 : Nat → Prop, BestS w' B g F2 W great rows ∧ (∀ b, F2 b → F b ∨ w.heap.size ≤ b) ∧ Keeps (fun b => ¬ F b) w w'
theorem put_s (w : World) (B g W : Nat) (F : Nat → Prop) (great : Bool) (rows : List Row) (h : BestS w B g F W great rows) (hlim : rows.length + 1 < 1000000) (ok : Nat → Prop) (v : Value) (key : Row) (hk : RowAt w ok v key) (hkF : ∀ b, ok b → ¬ F b) (hl : key.length < 1000000) (cost : Int) (hc : In64 cost) :
    Calls Try.prog 13 #[.pointer (some ⟨g, 0, none⟩), v, .int .i64 cost] w fun e w' => e = .returned (.bool (putX W great rows key cost).2) ∧ PutS w w' B g W F great (putX W great rows key cost).1 :=
  (put_any w B g W F great rows h.1 hlim ok v key hk hkF hl cost hc).mono fun e w' hp => by
    obtain ⟨h1, F2, h2, h3, h4⟩ := hp
    refine ⟨h1, fun b => F2 b ∧ b < w'.heap.size, ⟨h2.mono (fun b hb hf => ⟨hf, hb⟩) (fun b hb => ?_), fun b hb => hb.2⟩, fun b hb => h3 b hb.1, h4⟩
    obtain ⟨mb, rv, bs, n, D, q1, q2, q3, q4, q5, q6⟩ := h2
    exact q6 b hb.1
theorem better10_any (w : World) (great : Bool) (x y : Int) :
    Calls Try.prog 28 #[.bool great, .int .i64 x, .int .i64 y] w fun e w' => e = .returned (.bool (betterB great x y)) ∧ w = w' := by
  go_enter Try.func28, Try.ntmps28
  cases great <;>
  · go_wp2
    all_goals
      go_ret
      simp_all [betterB]
theorem PutS.below {w w' : World} {B g W : Nat} {F : Nat → Prop} {great : Bool} {rows : List Row} (h : PutS w w' B g W F great rows) {n : Nat} {w0 : World} (hb : Below n w0 w) (hn : n ≤ w.heap.size) (hF : ∀ b, F b → n ≤ b) : Below n w0 w' := by
  obtain ⟨F2, h1, h2, h3⟩ := h
  exact hb.trans (h3.below hn (fun b hb hf => by have := hF b hf; omega))
set_option maxHeartbeats 4000000 in
theorem head10_any (w : World) : Calls Try.prog 10 #[] w fun e w' => e = .returned (.bool true) ∧ Below w.heap.size w w' := by
  have p1 : putX 1 false [] [3] 7 = ([[3, 7]], true) := by decide
  have p2 : putX 1 false [[3, 7]] [3] 5 = ([[3, 5]], true) := by decide
  have p3 : putX 1 false [[3, 5]] [3] 6 = ([[3, 5]], false) := by decide
  have p4 : getB 1 [[3, 5]] [3] = some 5 := by decide
  have NW : Calls Try.prog 11 #[.int .i64 1, .bool false] w _ := new_s w 1 false (by omega)
  have i3 : ∀ x ∈ ([3] : Row), In64 x := by simp [In64]
  have LT : ∀ w1 : World, RowAt (w1.alloc (.cells #[.int .i64 3] 2)) (w1.heap.size ≤ ·) (.slice (some ⟨w1.heap.size, 0, none⟩) 1 1) [3] := fun w1 => RowAt.new w1 [3] (by simp) i3
  have PUT := Aside0.mk (fun (w1 : World) B g F rows (h : BestS w1 B g F 1 false rows) (hl : rows.length + 1 < 1000000) cost (hc : In64 cost) => put_s (w1.alloc (.cells #[.int .i64 3] 2)) B g 1 F false rows (h.below (below_alloc0 (Below.refl _ _) _)) hl (w1.heap.size ≤ ·) _ [3] (LT w1) (fun b hb hf => by have := h.2 b hf; omega) (by simp) cost hc)
  have GET := Aside0.mk (fun (w1 : World) B g F rows (h : BestS w1 B g F 1 false rows) => get_any (w1.alloc (.cells #[.int .i64 3] 2)) B g 1 F false rows (h.1.below (below_alloc0 (Below.refl _ _) _)) (w1.heap.size ≤ ·) _ [3] (LT w1) (by simp))
  have LT := Aside0.mk LT
  go_enter Try.func10, Try.ntmps10
  go_wp2_with fail
  refine NW.mono ?_
  rintro e w1 ⟨rfl, H1, B1⟩
  have H1 := Aside0.mk H1
  have B1 := Aside0.mk B1
  go_wp2_with fail
  refine (PUT.out w1 _ _ _ _ H1.out (by simp) 7 (by simp [In64])).mono ?_
  rintro e w2 ⟨rfl, H2⟩
  rw [p1] at H2 ⊢
  have B2 := Aside0.mk (H2.below (below_alloc B1.out B1.out.size _) (by have := B1.out.size; simp; omega) (fun b hb => hb.1))
  obtain ⟨F2, H2, _⟩ := H2
  have H2 := Aside0.mk H2
  go_wp2_with fail
  refine (PUT.out w2 _ _ _ _ H2.out (by simp) 5 (by simp [In64])).mono ?_
  rintro e w3 ⟨rfl, H3⟩
  rw [p2] at H3 ⊢
  have B3 := Aside0.mk (H3.below (below_alloc B2.out B2.out.size _) (by have := B2.out.size; simp; omega) (H2.out.ge))
  obtain ⟨F3, H3, _⟩ := H3
  have H3 := Aside0.mk H3
  go_wp2_with fail
  refine (PUT.out w3 _ _ _ _ H3.out (by simp) 6 (by simp [In64])).mono ?_
  rintro e w4 ⟨rfl, H4⟩
  rw [p3] at H4 ⊢
  have B4 := Aside0.mk (H4.below (below_alloc B3.out B3.out.size _) (by have := B3.out.size; simp; omega) (H3.out.ge))
  obtain ⟨F4, H4, _⟩ := H4
  have H4 := Aside0.mk H4
  go_wp2_with fail
  refine (GET.out w4 _ _ _ _ H4.out).mono ?_
  rintro e w5 ⟨rfl, B5⟩
  rw [p4]
  have H5 := Aside0.mk (H4.out.below (below_trans0 (below_alloc0 (Below.refl _ _) _) B5))
  have B5 := Aside0.mk (B4.out.trans ((below_trans0 (below_alloc0 (Below.refl _ _) _) B5).mono B4.out.size))
  have LN := blen_any w5 _ _ 1 _ false _ H5.out.1
  go_wp2_with fail
  refine LN.mono ?_
  rintro e w6 ⟨rfl, rfl⟩
  go_wp2
  go_ret
  exact ⟨rfl, B5.out⟩
end Go.Proofs.Ytalbgdbphdhhaaa.Sg
