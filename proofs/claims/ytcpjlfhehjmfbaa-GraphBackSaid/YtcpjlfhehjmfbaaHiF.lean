/- The heap as its callers see it: in order, its entries those of a list, in blocks F. -/
import Derived.Test.YtcpjlfhehjmfbaaHiE
namespace Go.Proofs.Ytcpjlfhehjmfbaa.Hi
open Go.RowKit Go.Shelf Go.Proofs.Ytcpjlfhehjmfbaa.Sg Go.Proofs.Ytcpjlfhehjmfbaa.Hm
set_option linter.unusedVariables false
set_option linter.unusedSimpArgs false
set_option maxHeartbeats 400000 in
set_option maxRecDepth 100000 in
theorem new_any (lf : Nat) (caps : Array Value) (w : World) : Calls Try.prog 14 #[.func (.func lf) #[] caps] w fun e w' => e = .returned (.pointer (some ⟨w.heap.size, 0, none⟩)) ∧ w' = w.alloc (.cells #[.func (.func lf) #[] caps, .slice none 0 0, .int .i64 0] 49) := by
  go_enter Try.func14, Try.ntmps14
  go_wp2
  go_ret
  exact ⟨rfl, rfl⟩
/-- A heap in memory that is in order, its entries those of L, in blocks F. -/
def HeapS (w : World) (B g : Nat) (F : Nat → Prop) (O : Ord) (L : List E) (came : Int) : Prop :=
  ∃ es v, HI w B g O es came v ∧ Heap O.lt es ∧ es.Perm L ∧ F g ∧ (∀ k, v.ownBlock = some k → F k) ∧ (∀ k, F k → B ≤ k ∧ k < w.heap.size)
theorem HeapS.kept {w W : World} {B g : Nat} {F S : Nat → Prop} {O : Ord} {L : List E} {came : Int} (OK : O.OK B) (h : HeapS w B g F O L came) (hk : Kept w W S) (hS : ∀ k, S k → B ≤ k) (hF : ∀ k, F k → ¬ S k) : HeapS W B g F O L came := by
  obtain ⟨es, v, h1, h2, h3, h4, h5, h6⟩ := h
  exact ⟨es, v, h1.kept OK hk (hF g h4) (fun k hk => hF k (h5 k hk)) hS, h2, h3, h4, h5, fun k hk2 => ⟨(h6 k hk2).1, Nat.lt_of_lt_of_le (h6 k hk2).2 hk.size⟩⟩
theorem HeapS.below {w W : World} {B g : Nat} {F : Nat → Prop} {O : Ord} {L : List E} {came : Int} (OK : O.OK B) (h : HeapS w B g F O L came) (hb : Below w.heap.size w W) : HeapS W B g F O L came :=
  h.kept OK (Kept.of_below hb (fun _ => False)) (fun _ h => h.elim) (fun _ _ h => h)
theorem HeapS.bs {w : World} {B g : Nat} {F : Nat → Prop} {O : Ord} {L : List E} {came : Int} (h : HeapS w B g F O L came) : ∀ k, F k → B ≤ k ∧ k < w.heap.size := by
  obtain ⟨es, v, h1, h2, h3, h4, h5, h6⟩ := h
  exact h6
theorem HeapS.gF {w : World} {B g : Nat} {F : Nat → Prop} {O : Ord} {L : List E} {came : Int} (h : HeapS w B g F O L came) : F g ∧ B ≤ w.heap.size := by
  obtain ⟨es, v, h1, h2, h3, h4, h5, h6⟩ := h
  exact ⟨h4, by have := h6 g h4; omega⟩
theorem HeapS.oks {w : World} {B g : Nat} {F : Nat → Prop} {O : Ord} {L : List E} {came : Int} (h : HeapS w B g F O L came) : ∀ e ∈ L, O.ok e.1 := by
  obtain ⟨es, v, h1, h2, h3, h4, h5, h6⟩ := h
  exact fun e he => h1.oks e (h3.mem_iff.2 he)
theorem HeapS.inv {w : World} {B g : Nat} {F : Nat → Prop} {O : Ord} {L : List E} {came : Int} (h : HeapS w B g F O L came) : O.inv w := by
  obtain ⟨es, v, h1, h2, h3, h4, h5, h6⟩ := h
  exact h1.inv
theorem new_S (O : Ord) (w : World) (B : Nat) (OK : O.OK B) (hB : B ≤ w.heap.size) (hI : O.inv w) :
    Calls Try.prog 14 #[.func (.func O.lf) #[] O.caps] w fun e w' => e = .returned (.pointer (some ⟨w.heap.size, 0, none⟩)) ∧ HeapS w' B w.heap.size (· = w.heap.size) O [] 0 ∧ Below w.heap.size w w' ∧ w.heap.size < w'.heap.size :=
  (new_any O.lf O.caps w).mono fun e w' ⟨he, hw⟩ => by
    subst hw
    have hb := below_alloc0 (Below.refl w.heap.size w) (.cells #[.func (.func O.lf) #[] O.caps, .slice none 0 0, .int .i64 0] 49)
    refine ⟨he, ⟨[], .slice none 0 0, ⟨heap_alloc_new w _, World.ownsRow_nil _ _ _ _, by simp [Value.ownBlock], hB, OK.keep _ _ hI (hb.mono hB), fun e he => by simp at he⟩, fun j _ h => by simp at h, List.Perm.refl _, rfl, fun k h => by simp [Value.ownBlock] at h, fun k hk => ⟨by omega, by subst hk; simp⟩⟩, hb, by simp⟩
theorem push_S {B : Nat} {O : Ord} (OK : O.OK B) (G : Hm.Good O.lt) (g : Nat) (F : Nat → Prop) (L : List E) (came : Int) (x1 : Int) (w : World) (h : HeapS w B g F O L came) (hok : O.ok x1) (hL : L.length < 1000000) (hc0 : 0 ≤ came) (hc1 : came < 1000000000000) :
    Calls Try.prog 16 #[.pointer (some ⟨g, 0, none⟩), .int .i64 x1] w fun e w' => e = .returned (.tuple #[]) ∧ ∃ F2 : Nat → Prop, HeapS w' B g F2 O (L ++ [(x1, came)]) (came + 1) ∧ (∀ b, F2 b → F b ∨ w.heap.size ≤ b) ∧ Kept w w' F := by
  obtain ⟨es, v, h1, h2, h3, h4, h5, h6⟩ := h
  have hl := h3.length_eq
  refine (push_any OK g es came x1 v w h1 hok (by omega) hc0 hc1).mono fun e w' ⟨he, v', i1, i2, i3⟩ => ⟨he, fun k => F k ∨ v'.ownBlock = some k, ⟨_, v', i1, ?_⟩, ?_, ?_⟩
  · obtain ⟨p1, p2⟩ := push_spec G es (x1, came) h2
    refine ⟨p1, p2.trans (h3.append_right _), .inl h4, fun k hk => .inr hk, fun k hk => ?_⟩
    rcases hk with hk | hk
    · exact ⟨(h6 k hk).1, Nat.lt_of_lt_of_le (h6 k hk).2 i2.size⟩
    · exact i1.base k hk
  · intro b hb
    rcases hb with hb | hb
    · exact .inl hb
    · exact (i3 b hb).imp (h5 b) id
  · exact i2.mono (fun k hk => hk.elim (fun e => e ▸ h4) (h5 k))
theorem pop_S {B : Nat} {O : Ord} (OK : O.OK B) (G : Hm.Good O.lt) (g : Nat) (F : Nat → Prop) (L : List E) (came : Int) (w : World) (h : HeapS w B g F O L came) (hL : L.length < 1000000) (hp : 0 < L.length) :
    ∃ (x : A) (L' : List E), Popped O.lt L x L' ∧ Calls Try.prog 17 #[.pointer (some ⟨g, 0, none⟩)] w fun e w' => e = .returned (.tuple #[.int .i64 x, .bool true]) ∧ HeapS w' B g F O L' came ∧ Kept w w' F := by
  obtain ⟨es, v, h1, h2, h3, h4, h5, h6⟩ := h
  have hl := h3.length_eq
  obtain ⟨p1, p2, p3⟩ := pop_spec G es (by omega) h2
  refine ⟨(at_ es 0).1, popF O.lt es, ⟨(at_ es 0).2, h3.symm.trans p2, fun y hy => p3 y (h3.mem_iff.2 hy)⟩, ?_⟩
  refine (pop_any OK g es came v w h1 (by omega) (by omega) _ rfl).mono fun e w' ⟨he, v', i1, i2, i3⟩ => ⟨he, ⟨_, v', i1, p1, List.Perm.refl _, h4, fun k hk => h5 k (i2 ▸ hk), fun k hk => ⟨(h6 k hk).1, Nat.lt_of_lt_of_le (h6 k hk).2 i3.size⟩⟩, ?_⟩
  exact i3.mono (fun k hk => hk.elim (fun e => e ▸ h4) (h5 k))
theorem pop_S0 {B : Nat} {O : Ord} (g : Nat) (F : Nat → Prop) (came : Int) (w : World) (h : HeapS w B g F O [] came) :
    Calls Try.prog 17 #[.pointer (some ⟨g, 0, none⟩)] w fun e w' => e = .returned (.tuple #[.int .i64 0, .bool false]) ∧ Below w.heap.size w w' := by
  obtain ⟨es, v, h1, h2, h3, h4, h5, h6⟩ := h
  obtain rfl := List.perm_nil.1 h3
  exact (pop_none g came v w h1).mono fun e w' h => ⟨h.1, h.2 ▸ Below.refl _ _⟩
end Go.Proofs.Ytcpjlfhehjmfbaa.Hi
