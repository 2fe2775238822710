/- Two heaps and two rows beside one another: each block has the colour of what owns it. -/
import Derived.Test.YtchkeanjekoghaaHpI
namespace Go.Proofs.Ytchkeanjekoghaa.Hp
open Go.RowKit Go.Shelf
set_option linter.unusedVariables false
set_option linter.unusedSimpArgs false

/-- A heap whose blocks are all of S. -/
structure HC (w : World) (B g lf : Nat) (lt : Int → Int → Bool) (L : List E) (came : Int) (S : Nat → Prop) : Prop where
  ex : ∃ es v, HI w B g lf es came v ∧ Heap lt es ∧ es.Perm L ∧ (∀ k, v.ownBlock = some k → S k)
  has : S g
  base : B ≤ g
/-- A row of numbers of the call's own whose block is of S. -/
structure NC (w : World) (B : Nat) (v : Value) (xs : List Int) (S : Nat → Prop) : Prop where
  own : w.ownsRow B 3 1 v xs.length (xs.map (.int .i64))
  blk : ∀ k, v.ownBlock = some k → S k
section
variable {w W : World} {B g lf : Nat} {ord : Int → Int → Bool} {L : List E} {came : Int} {S T : Nat → Prop} {v : Value} {xs : List Int}
theorem own_lt {e size n : Nat} {ys : List Value} (h : w.ownsRow B e size v n ys) : ∀ k, v.ownBlock = some k → k < w.heap.size ∧ B ≤ k := by
  intro k hk
  rcases h.2 with ⟨rfl, _⟩ | ⟨b, cap, cur, rfl, hb, hh, _⟩
  · simp [Value.ownBlock] at hk
  · rw [← Option.some.inj (show some b = some k from hk)]; exact ⟨(Array.getElem?_eq_some_iff.1 hh).1, hb⟩
theorem own_kept {e size n : Nat} {ys : List Value} (h : w.ownsRow B e size v n ys) (hk : Kept w W T) (hv : ∀ k, v.ownBlock = some k → ¬ T k) : W.ownsRow B e size v n ys := by
  refine ⟨h.1, ?_⟩
  rcases h.2 with h0 | ⟨b, cap, cur, rfl, hb, hh, h1⟩
  · exact .inl h0
  · exact .inr ⟨b, cap, cur, rfl, hb, (hk.blk b (Array.getElem?_eq_some_iff.1 hh).1 (hv b rfl)).trans hh, h1⟩
theorem HC.lt (h : HC w B g lf ord L came S) : g < w.heap.size := by
  obtain ⟨es, v, h1, _⟩ := h.ex
  exact h1.lt
theorem HC.kept (h : HC w B g lf ord L came S) (hk : Kept w W T) (hd : ∀ k, S k → ¬ T k) : HC W B g lf ord L came S := by
  obtain ⟨es, v, h1, h2, h3, h4⟩ := h.ex
  exact ⟨⟨es, v, h1.kept hk (hd g h.has) (fun k hk => hd k (h4 k hk)), h2, h3, h4⟩, h.has, h.base⟩
theorem HC.recol (h : HC w B g lf ord L came S) (hs : ∀ k, k < w.heap.size → S k → T k) : HC w B g lf ord L came T := by
  obtain ⟨es, v, h1, h2, h3, h4⟩ := h.ex
  exact ⟨⟨es, v, h1, h2, h3, fun k hk => hs k (own_lt h1.own k hk).1 (h4 k hk)⟩, hs g h.lt h.has, h.base⟩
theorem NC.kept (h : NC w B v xs S) (hk : Kept w W T) (hd : ∀ k, S k → ¬ T k) : NC W B v xs S := ⟨own_kept h.own hk (fun k hk => hd k (h.blk k hk)), h.blk⟩
theorem NC.recol (h : NC w B v xs S) (hs : ∀ k, k < w.heap.size → S k → T k) : NC w B v xs T := ⟨h.own, fun k hk => hs k (own_lt h.own k hk).1 (h.blk k hk)⟩
end
/-- The colours behind a step of colour j, before which there were n blocks. -/
def recol0 (c : Nat → Nat) (n j : Nat) (k : Nat) : Nat := if k < n then c k else j
theorem recol_old {c : Nat → Nat} {n j i : Nat} (k : Nat) (hk : k < n) (h : c k = i) : recol0 c n j k = i := by unfold recol0; rw [if_pos hk]; exact h
theorem new_HC (lf B : Nat) (lt : Int → Int → Bool) (w : World) (S : Nat → Prop) (hS : S w.heap.size) (hB : B ≤ w.heap.size) : HC (w.alloc (.cells #[.func (.func lf) #[] #[], .slice none 0 0, .int .i64 0] 53)) B w.heap.size lf lt [] 0 S :=
  ⟨⟨[], .slice none 0 0, new_HI lf B w, fun j _ h => by simp at h, List.Perm.refl _, fun k h => by simp [Value.ownBlock] at h⟩, hS, hB⟩
theorem push_HC {lf : Nat} {lt : Int → Int → Bool} (OK : BefOK lf lt) (G : Good lt) (g B : Nat) (L : List E) (came x : Int) (w : World) (c : Nat → Nat) (j : Nat) (h : HC w B g lf lt L came (fun k => c k = j)) (hL : L.length < 1000000) (hB : B ≤ w.heap.size) (hc0 : 0 ≤ came) (hc1 : came < 1000000000000) :
    Calls Try.prog 14 #[.pointer (some ⟨g, 0, none⟩), .int .i64 x] w fun e w' => e = .returned (.tuple #[]) ∧ HC w' B g lf lt (L ++ [(x, came)]) (came + 1) (fun k => recol0 c w.heap.size j k = j) ∧ Kept w w' (fun k => c k = j) ∧ Below B w w' := by
  obtain ⟨es, v, h1, h2, h3, h4⟩ := h.ex
  have hl := h3.length_eq
  refine (push_any OK g B es came x v w h1 (by omega) hB hc0 hc1).mono fun e w' ⟨he, v', i1, i2, i3⟩ => ⟨he, ⟨?_, ?_, h.base⟩, i2.mono ?_, i2.below hB (fun k hk => hk.elim (fun e => e ▸ h.base) (fun hk => (own_lt h1.own k hk).2))⟩
  · obtain ⟨p1, p2⟩ := push_spec G es (x, came) h2
    refine ⟨_, v', i1, p1, p2.trans (h3.append_right _), fun k hk => ?_⟩
    unfold recol0
    rcases i3 k hk with hk | hk
    · rw [if_pos (own_lt h1.own k hk).1]; exact h4 k hk
    · rw [if_neg (by omega)]
  · exact recol_old g h1.lt h.has
  · intro k hk
    rcases hk with rfl | hk
    · exact h.has
    · exact h4 k hk
theorem pop_HC {lf : Nat} {lt : Int → Int → Bool} (OK : BefOK lf lt) (G : Good lt) (g B : Nat) (L : List E) (came : Int) (w : World) (c : Nat → Nat) (j : Nat) (h : HC w B g lf lt L came (fun k => c k = j)) (hL : L.length < 1000000) (hp : 0 < L.length) (hB : B ≤ w.heap.size) :
    ∃ x L', Popped lt L x L' ∧ Calls Try.prog 15 #[.pointer (some ⟨g, 0, none⟩)] w fun e w' => e = .returned (.tuple #[.int .i64 x, .bool true]) ∧ HC w' B g lf lt L' came (fun k => recol0 c w.heap.size j k = j) ∧ Kept w w' (fun k => c k = j) ∧ Below B w w' := by
  obtain ⟨es, v, h1, h2, h3, h4⟩ := h.ex
  have hl := h3.length_eq
  obtain ⟨p1, p2, p3⟩ := pop_spec G es (by omega) h2
  refine ⟨(at_ es 0).1, popF lt es, ⟨(at_ es 0).2, h3.symm.trans p2, fun y hy => p3 y (h3.mem_iff.2 hy)⟩, ?_⟩
  refine (pop_any OK g B es came v w h1 (by omega) (by omega) hB _ rfl).mono fun e w' ⟨he, v', i1, i2, i3⟩ => ⟨he, ⟨⟨_, v', i1, p1, List.Perm.refl _, fun k hk => ?_⟩, recol_old g h1.lt h.has, h.base⟩, i3.mono ?_, i3.below hB (fun k hk => hk.elim (fun e => e ▸ h.base) (fun hk => (own_lt h1.own k hk).2))⟩
  · rw [i2] at hk
    exact recol_old k (own_lt h1.own k hk).1 (h4 k hk)
  · intro k hk
    rcases hk with rfl | hk
    · exact h.has
    · exact h4 k hk
theorem len_HC {lf : Nat} {lt : Int → Int → Bool} {S : Nat → Prop} (g B : Nat) (L : List E) (came : Int) (w : World) (h : HC w B g lf lt L came S) :
    Calls Try.prog 16 #[.pointer (some ⟨g, 0, none⟩)] w fun e w' => e = .returned (.int .i64 L.length) ∧ w = w' := by
  obtain ⟨es, v, h1, h2, h3, h4⟩ := h.ex
  rw [← h3.length_eq]
  exact len_any g B lf es came v w h1

/-- The two heaps and the two rows. -/
structure All (w : World) (B gu gd : Nat) (L1 : List E) (n1 : Int) (L2 : List E) (n2 : Int) (va : Value) (xs : List Int) (vb : Value) (ys : List Int) (c : Nat → Nat) : Prop where
  up : HC w B gu 13 ltI L1 n1 (fun k => c k = 1)
  dn : HC w B gd 17 gtI L2 n2 (fun k => c k = 2)
  a : NC w B va xs (fun k => c k = 3)
  b : NC w B vb ys (fun k => c k = 4)
  hB : B ≤ w.heap.size
section
variable {w : World} {B gu gd : Nat} {L1 L2 : List E} {n1 n2 : Int} {va vb : Value} {xs ys : List Int} {c : Nat → Nat}
theorem recol_ne {n i j k : Nat} (hij : i ≠ j) (h : recol0 c n j k = i) : ¬ c k = j := by
  unfold recol0 at h
  split at h <;> omega
theorem All.push_up (h : All w B gu gd L1 n1 L2 n2 va xs vb ys c) (x : Int) (hL : L1.length < 1000000) (hc0 : 0 ≤ n1) (hc1 : n1 < 1000000000000) :
    Calls Try.prog 14 #[.pointer (some ⟨gu, 0, none⟩), .int .i64 x] w fun e w' => e = .returned (.tuple #[]) ∧ (∃ c', All w' B gu gd (L1 ++ [(x, n1)]) (n1 + 1) L2 n2 va xs vb ys c') ∧ Below B w w' :=
  (push_HC before_59 good_lt gu B L1 n1 x w c 1 h.up hL h.hB hc0 hc1).mono fun e w' ⟨he, h1, hk, hb⟩ => ⟨he, ⟨recol0 c w.heap.size 1, h1,
    (h.dn.recol (T := fun k => recol0 c w.heap.size 1 k = 2) (fun k => recol_old k)).kept hk (fun k => recol_ne (by omega)),
    (h.a.recol (T := fun k => recol0 c w.heap.size 1 k = 3) (fun k => recol_old k)).kept hk (fun k => recol_ne (by omega)),
    (h.b.recol (T := fun k => recol0 c w.heap.size 1 k = 4) (fun k => recol_old k)).kept hk (fun k => recol_ne (by omega)), Nat.le_trans h.hB hk.size⟩, hb⟩
theorem All.push_dn (h : All w B gu gd L1 n1 L2 n2 va xs vb ys c) (x : Int) (hL : L2.length < 1000000) (hc0 : 0 ≤ n2) (hc1 : n2 < 1000000000000) :
    Calls Try.prog 14 #[.pointer (some ⟨gd, 0, none⟩), .int .i64 x] w fun e w' => e = .returned (.tuple #[]) ∧ (∃ c', All w' B gu gd L1 n1 (L2 ++ [(x, n2)]) (n2 + 1) va xs vb ys c') ∧ Below B w w' :=
  (push_HC before_63 good_gt gd B L2 n2 x w c 2 h.dn hL h.hB hc0 hc1).mono fun e w' ⟨he, h1, hk, hb⟩ => ⟨he, ⟨recol0 c w.heap.size 2,
    (h.up.recol (T := fun k => recol0 c w.heap.size 2 k = 1) (fun k => recol_old k)).kept hk (fun k => recol_ne (by omega)), h1,
    (h.a.recol (T := fun k => recol0 c w.heap.size 2 k = 3) (fun k => recol_old k)).kept hk (fun k => recol_ne (by omega)),
    (h.b.recol (T := fun k => recol0 c w.heap.size 2 k = 4) (fun k => recol_old k)).kept hk (fun k => recol_ne (by omega)), Nat.le_trans h.hB hk.size⟩, hb⟩
theorem All.pop_up (h : All w B gu gd L1 n1 L2 n2 va xs vb ys c) (hL : L1.length < 1000000) (hp : 0 < L1.length) :
    ∃ x L', Popped ltI L1 x L' ∧ Calls Try.prog 15 #[.pointer (some ⟨gu, 0, none⟩)] w fun e w' => e = .returned (.tuple #[.int .i64 x, .bool true]) ∧ (∃ c', All w' B gu gd L' n1 L2 n2 va xs vb ys c') ∧ Below B w w' := by
  obtain ⟨x, L', hpo, hc⟩ := pop_HC before_59 good_lt gu B L1 n1 w c 1 h.up hL hp h.hB
  refine ⟨x, L', hpo, hc.mono fun e w' ⟨he, h1, hk, hb⟩ => ⟨he, ⟨recol0 c w.heap.size 1, h1,
    (h.dn.recol (T := fun k => recol0 c w.heap.size 1 k = 2) (fun k => recol_old k)).kept hk (fun k => recol_ne (by omega)),
    (h.a.recol (T := fun k => recol0 c w.heap.size 1 k = 3) (fun k => recol_old k)).kept hk (fun k => recol_ne (by omega)),
    (h.b.recol (T := fun k => recol0 c w.heap.size 1 k = 4) (fun k => recol_old k)).kept hk (fun k => recol_ne (by omega)), Nat.le_trans h.hB hk.size⟩, hb⟩⟩
theorem All.pop_dn (h : All w B gu gd L1 n1 L2 n2 va xs vb ys c) (hL : L2.length < 1000000) (hp : 0 < L2.length) :
    ∃ x L', Popped gtI L2 x L' ∧ Calls Try.prog 15 #[.pointer (some ⟨gd, 0, none⟩)] w fun e w' => e = .returned (.tuple #[.int .i64 x, .bool true]) ∧ (∃ c', All w' B gu gd L1 n1 L' n2 va xs vb ys c') ∧ Below B w w' := by
  obtain ⟨x, L', hpo, hc⟩ := pop_HC before_63 good_gt gd B L2 n2 w c 2 h.dn hL hp h.hB
  refine ⟨x, L', hpo, hc.mono fun e w' ⟨he, h1, hk, hb⟩ => ⟨he, ⟨recol0 c w.heap.size 2,
    (h.up.recol (T := fun k => recol0 c w.heap.size 2 k = 1) (fun k => recol_old k)).kept hk (fun k => recol_ne (by omega)), h1,
    (h.a.recol (T := fun k => recol0 c w.heap.size 2 k = 3) (fun k => recol_old k)).kept hk (fun k => recol_ne (by omega)),
    (h.b.recol (T := fun k => recol0 c w.heap.size 2 k = 4) (fun k => recol_old k)).kept hk (fun k => recol_ne (by omega)), Nat.le_trans h.hB hk.size⟩, hb⟩⟩
theorem NC.grow {v v1 : Value} {W w1 : World} {x : Int} {j : Nat} (h : NC w B v xs (fun k => c k = j)) (hw : w.heap.size ≤ W.heap.size) (ho : w1.ownsRow B 3 1 v1 (xs.length + 1) (xs.map (.int .i64) ++ [.int .i64 x])) (hat : v1.ownBlock = v.ownBlock ∨ v1.ownBlock = some W.heap.size) :
    NC w1 B v1 (xs ++ [x]) (fun k => recol0 c w.heap.size j k = j) := by
  refine ⟨by simpa using ho, fun k hk => ?_⟩
  rcases hat with e | e
  · rw [e] at hk
    exact recol_old k (own_lt h.own k hk).1 (h.blk k hk)
  · rw [e] at hk
    have := Option.some.inj hk
    unfold recol0
    rw [if_neg (by omega)]
theorem All.grow_a {w1 : World} {o : Obj} {v1 : Value} {x : Int} (h : All w B gu gd L1 n1 L2 n2 va xs vb ys c) (ho : w1.ownsRow B 3 1 v1 (xs.length + 1) (xs.map (.int .i64) ++ [.int .i64 x])) (hg : (w.alloc o).grownBy w1 va.ownBlock) (hat : v1.ownBlock = va.ownBlock ∨ v1.ownBlock = some (w.alloc o).heap.size) :
    (∃ c', All w1 B gu gd L1 n1 L2 n2 v1 (xs ++ [x]) vb ys c') ∧ Below B w w1 := by
  have hk : Kept w w1 (fun k => c k = 3) := Kept.of_grown hg ((Kept.refl w _).alloc o) (fun k hk => .inl (h.a.blk k hk))
  have hk2 : Kept w w1 (fun k => va.ownBlock = some k) := Kept.of_grown hg ((Kept.refl w _).alloc o) (fun k hk => .inl hk)
  exact ⟨⟨recol0 c w.heap.size 3,
    (h.up.recol (T := fun k => recol0 c w.heap.size 3 k = 1) (fun k => recol_old k)).kept hk (fun k => recol_ne (by omega)),
    (h.dn.recol (T := fun k => recol0 c w.heap.size 3 k = 2) (fun k => recol_old k)).kept hk (fun k => recol_ne (by omega)),
    h.a.grow (by simp) ho hat,
    (h.b.recol (T := fun k => recol0 c w.heap.size 3 k = 4) (fun k => recol_old k)).kept hk (fun k => recol_ne (by omega)), Nat.le_trans h.hB hk.size⟩,
    hk2.below h.hB (fun k hk => (own_lt h.a.own k hk).2)⟩
theorem All.grow_b {w1 : World} {o : Obj} {v1 : Value} {x : Int} (h : All w B gu gd L1 n1 L2 n2 va xs vb ys c) (ho : w1.ownsRow B 3 1 v1 (ys.length + 1) (ys.map (.int .i64) ++ [.int .i64 x])) (hg : (w.alloc o).grownBy w1 vb.ownBlock) (hat : v1.ownBlock = vb.ownBlock ∨ v1.ownBlock = some (w.alloc o).heap.size) :
    (∃ c', All w1 B gu gd L1 n1 L2 n2 va xs v1 (ys ++ [x]) c') ∧ Below B w w1 := by
  have hk : Kept w w1 (fun k => c k = 4) := Kept.of_grown hg ((Kept.refl w _).alloc o) (fun k hk => .inl (h.b.blk k hk))
  have hk2 : Kept w w1 (fun k => vb.ownBlock = some k) := Kept.of_grown hg ((Kept.refl w _).alloc o) (fun k hk => .inl hk)
  exact ⟨⟨recol0 c w.heap.size 4,
    (h.up.recol (T := fun k => recol0 c w.heap.size 4 k = 1) (fun k => recol_old k)).kept hk (fun k => recol_ne (by omega)),
    (h.dn.recol (T := fun k => recol0 c w.heap.size 4 k = 2) (fun k => recol_old k)).kept hk (fun k => recol_ne (by omega)),
    (h.a.recol (T := fun k => recol0 c w.heap.size 4 k = 3) (fun k => recol_old k)).kept hk (fun k => recol_ne (by omega)),
    h.b.grow (by simp) ho hat, Nat.le_trans h.hB hk.size⟩,
    hk2.below h.hB (fun k hk => (own_lt h.b.own k hk).2)⟩
end
end Go.Proofs.Ytchkeanjekoghaa.Hp
