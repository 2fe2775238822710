/- The heap as its callers see it: in order, its entries those of a list. -/
import Derived.Test.YtchkeanjekoghaaHpM
namespace Go.Proofs.Ytchkeanjekoghaa.Hp
open Go.RowKit Go.Shelf
set_option linter.unusedVariables false
set_option linter.unusedSimpArgs false

set_option maxHeartbeats 400000 in
set_option maxRecDepth 100000 in
theorem new_any (lf : Nat) (w : World) : Calls Try.prog 12 #[.func (.func lf) #[] #[]] w fun e w' => e = .returned (.pointer (some ⟨w.heap.size, 0, none⟩)) ∧ w' = w.alloc (.cells #[.func (.func lf) #[] #[], .slice none 0 0, .int .i64 0] 53) := by
  go_enter Try.func12, Try.ntmps12
  go_wp2
  go_ret
  exact ⟨rfl, rfl⟩
theorem new_HI (lf B : Nat) (w : World) : HI (w.alloc (.cells #[.func (.func lf) #[] #[], .slice none 0 0, .int .i64 0] 53)) B w.heap.size lf [] 0 (.slice none 0 0) :=
  ⟨heap_alloc_new w _, World.ownsRow_nil _ _ _ _, by simp [Value.ownBlock]⟩
set_option maxHeartbeats 400000 in
set_option maxRecDepth 100000 in
theorem len_any (g B lf : Nat) (es : List E) (came : Int) (v : Value) (w : World) (h : HI w B g lf es came v) : Calls Try.prog 16 #[.pointer (some ⟨g, 0, none⟩)] w fun e w' => e = .returned (.int .i64 es.length) ∧ w = w' := by
  obtain ⟨A0, c0, hv⟩ : ∃ A0 c0, v = .slice A0 es.length c0 := by
    rcases h.own.2 with ⟨h1, h2⟩ | ⟨b, cap, cur, h1, _⟩
    · exact ⟨none, 0, by rw [h1, h2]⟩
    · exact ⟨_, _, h1⟩
  subst hv
  obtain ⟨k0, k1, k2, f0, f1, f2⟩ := blk_facts h.blk
  clear h
  go_enter Try.func16, Try.ntmps16
  go_wp2
  go_ret
  exact ⟨rfl, rfl⟩

/-- A heap in memory that is in order, its entries those of L, everything new since base. -/
structure HS (w : World) (B g lf : Nat) (lt : Int → Int → Bool) (L : List E) (came : Int) : Prop where
  ex : ∃ es v, HI w B g lf es came v ∧ Heap lt es ∧ es.Perm L ∧ (∀ k, v.ownBlock = some k → B ≤ k)
theorem HI.base {w : World} {B g lf : Nat} {es : List E} {came : Int} {v : Value} (h : HI w B g lf es came v) : ∀ k, v.ownBlock = some k → B ≤ k := by
  intro k hk
  rcases h.own.2 with ⟨rfl, _⟩ | ⟨b, cap, cur, rfl, hb, _⟩
  · simp [Value.ownBlock] at hk
  · rw [← Option.some.inj (show some b = some k from hk)]; exact hb
theorem HS.below {w W : World} {B g lf : Nat} {lt : Int → Int → Bool} {L : List E} {came : Int} (h : HS w B g lf lt L came) (hb : Below w.heap.size w W) : HS W B g lf lt L came := by
  obtain ⟨es, v, h1, h2, h3, h4⟩ := h.ex
  exact ⟨es, v, h1.below hb, h2, h3, h4⟩
theorem HS.lt {w : World} {B g lf : Nat} {lt : Int → Int → Bool} {L : List E} {came : Int} (h : HS w B g lf lt L came) : g < w.heap.size := by
  obtain ⟨es, v, h1, _⟩ := h.ex
  exact h1.lt
theorem new_HS (lf B : Nat) (lt : Int → Int → Bool) (w : World) : HS (w.alloc (.cells #[.func (.func lf) #[] #[], .slice none 0 0, .int .i64 0] 53)) B w.heap.size lf lt [] 0 :=
  ⟨[], .slice none 0 0, new_HI lf B w, fun j _ h => by simp at h, List.Perm.refl _, fun k h => by simp [Value.ownBlock] at h⟩
theorem push_HS {lf : Nat} {lt : Int → Int → Bool} (OK : BefOK lf lt) (G : Good lt) (g B : Nat) (L : List E) (came x : Int) (w : World) (h : HS w B g lf lt L came) (hL : L.length < 1000000) (hB : B ≤ w.heap.size) (hg : B ≤ g) (hc0 : 0 ≤ came) (hc1 : came < 1000000000000) :
    Calls Try.prog 14 #[.pointer (some ⟨g, 0, none⟩), .int .i64 x] w fun e w' => e = .returned (.tuple #[]) ∧ HS w' B g lf lt (L ++ [(x, came)]) (came + 1) ∧ Below B w w' := by
  obtain ⟨es, v, h1, h2, h3, h4⟩ := h.ex
  have hl := h3.length_eq
  refine (push_any OK g B es came x v w h1 (by omega) hB hc0 hc1).mono fun e w' ⟨he, v', i1, i2, i3⟩ => ⟨he, ?_, ?_⟩
  · obtain ⟨p1, p2⟩ := push_spec G es (x, came) h2
    exact ⟨_, v', i1, p1, p2.trans (h3.append_right _), i1.base⟩
  · exact i2.below hB (fun k hk => hk.elim (fun e => by omega) (h4 k))
/-- What a Pop finds. -/
def Popped (lt : Int → Int → Bool) (L : List E) (x : Int) (L' : List E) : Prop := ∃ c, L.Perm ((x, c) :: L') ∧ ∀ y ∈ L, Le lt (x, c) y
theorem pop_HS {lf : Nat} {lt : Int → Int → Bool} (OK : BefOK lf lt) (G : Good lt) (g B : Nat) (L : List E) (came : Int) (w : World) (h : HS w B g lf lt L came) (hL : L.length < 1000000) (hp : 0 < L.length) (hB : B ≤ w.heap.size) (hg : B ≤ g) :
    ∃ x L', Popped lt L x L' ∧ Calls Try.prog 15 #[.pointer (some ⟨g, 0, none⟩)] w fun e w' => e = .returned (.tuple #[.int .i64 x, .bool true]) ∧ HS w' B g lf lt L' came ∧ Below B w w' := by
  obtain ⟨es, v, h1, h2, h3, h4⟩ := h.ex
  have hl := h3.length_eq
  obtain ⟨p1, p2, p3⟩ := pop_spec G es (by omega) h2
  refine ⟨(at_ es 0).1, popF lt es, ⟨(at_ es 0).2, h3.symm.trans p2, fun y hy => p3 y (h3.mem_iff.2 hy)⟩, ?_⟩
  refine (pop_any OK g B es came v w h1 (by omega) (by omega) hB _ rfl).mono fun e w' ⟨he, v', i1, i2, i3⟩ => ⟨he, ⟨_, v', i1, p1, List.Perm.refl _, i1.base⟩, ?_⟩
  exact i3.below hB (fun k hk => hk.elim (fun e => by omega) (h4 k))
theorem pop_HS0 {lf : Nat} {lt : Int → Int → Bool} (g B : Nat) (came : Int) (w : World) (h : HS w B g lf lt [] came) :
    Calls Try.prog 15 #[.pointer (some ⟨g, 0, none⟩)] w fun e w' => e = .returned (.tuple #[.int .i64 0, .bool false]) ∧ w = w' := by
  obtain ⟨es, v, h1, h2, h3, h4⟩ := h.ex
  obtain rfl := List.perm_nil.1 h3
  exact pop_none g B lf came v w h1
theorem len_HS {lf : Nat} {lt : Int → Int → Bool} (g B : Nat) (L : List E) (came : Int) (w : World) (h : HS w B g lf lt L came) :
    Calls Try.prog 16 #[.pointer (some ⟨g, 0, none⟩)] w fun e w' => e = .returned (.int .i64 L.length) ∧ w = w' := by
  obtain ⟨es, v, h1, h2, h3, h4⟩ := h.ex
  rw [← h3.length_eq]
  exact len_any g B lf es came v w h1
end Go.Proofs.Ytchkeanjekoghaa.Hp
