/- Small lemmas that the proofs of this seat share: draws, what lies below, what is kept. No statement of the seat is proved here. -/
import Derived.Test.YtchkeanjekoghaaProg
import Derived.WalkKit
import Derived.WalkSpells
import Derived.WalkLawsBesides
import Derived.Deep.QuietTactic
import Derived.BigQuiet
import Derived.Deep.RegionLaw
import Derived.BigRegion
import Derived.Laws.OwnMore
import Derived.Shelf.Abstract
namespace Go.Proofs.Ytchkeanjekoghaa
open Go.RowKit Go.Shelf

theorem quiet_add {P : Program} {f : FuncId} {args : Array Value} {w : World} {a n : Nat} {v : Value}
    (h : Calls P f args (w.drewN (a + n)) fun e w' => e = .returned v ∧ ∃ m, w' = (w.drewN (a + n)).drewN m) :
    Calls P f args (w.drewN (a + n)) fun e w'' => e = .returned v ∧ ∃ m, w'' = w.drewN (a + m) :=
  h.mono fun _ _ ⟨he, m, hm⟩ => ⟨he, n + m, by rw [hm, World.drewN_drewN, Nat.add_assoc]⟩
theorem quiet_add_same {P : Program} {f : FuncId} {args : Array Value} {w : World} {a n : Nat} {v : Value}
    (h : Calls P f args (w.drewN (a + n)) fun e w' => e = .returned v ∧ w' = w.drewN (a + n)) :
    Calls P f args (w.drewN (a + n)) fun e w'' => e = .returned v ∧ ∃ m, w'' = w.drewN (a + m) :=
  h.mono fun _ _ ⟨he, hm⟩ => ⟨he, n, hm⟩
theorem quiet_add_left {P : Program} {f : FuncId} {args : Array Value} {w : World} {a n : Nat} {v : Value}
    (h : Calls P f args (w.drewN (a + n)) fun e w' => e = .returned v ∧ w.drewN (a + n) = w') :
    Calls P f args (w.drewN (a + n)) fun e w'' => e = .returned v ∧ ∃ m, w'' = w.drewN (a + m) :=
  h.mono fun _ _ ⟨he, hm⟩ => ⟨he, n, hm.symm⟩
theorem quiet_left {P : Program} {f : FuncId} {args : Array Value} {w : World} {n : Nat} {v : Value}
    (h : Calls P f args (w.drewN n) fun e w' => e = .returned v ∧ w.drewN n = w') : Calls P f args (w.drewN n) fun e w'' => e = .returned v ∧ ∃ m, w'' = w.drewN m :=
  h.mono fun _ _ ⟨he, hm⟩ => ⟨he, n, hm.symm⟩

/-- A fact that the walk's simp does not look into. -/
structure Aside0 (p : Prop) : Prop where mk :: (out : p)
theorem below_alloc {B : Nat} {w W : World} (h : Below B w W) (hB : B ≤ W.heap.size) (o : Obj) : Below B w (W.alloc o) := h.alloc hB o
theorem below_alloc0 {w W : World} (h : Below w.heap.size w W) (o : Obj) : Below w.heap.size w (W.alloc o) := h.alloc h.size o
theorem below_drewN {B : Nat} {w W : World} (h : Below B w W) (n : Nat) : Below B w (W.drewN n) := ⟨h.os, h.tape, h.output, h.size, h.block⟩
theorem below_drew {B : Nat} {w W : World} (h : Below B w W) : Below B w W.drew := ⟨h.os, h.tape, h.output, h.size, h.block⟩

/-- What a call keeps: all blocks but those of S, and what is new since. -/
structure Kept (w W : World) (S : Nat → Prop) : Prop where
  size : w.heap.size ≤ W.heap.size
  blk : ∀ i, i < w.heap.size → ¬ S i → W.heap[i]? = w.heap[i]?
  os : W.os = w.os
  tape : W.tape = w.tape
  output : W.output = w.output
section
variable {w W W2 : World} {S S2 : Nat → Prop}
theorem Kept.refl (w : World) (S : Nat → Prop) : Kept w w S := ⟨Nat.le_refl _, fun _ _ _ => rfl, rfl, rfl, rfl⟩
theorem Kept.of_below (h : Below w.heap.size w W) (S : Nat → Prop) : Kept w W S := ⟨h.size, fun i hi _ => h.block i hi, h.os, h.tape, h.output⟩
theorem Kept.then_ (h : Kept w W S) (k : Kept W W2 S2) (hs : ∀ k, S2 k → S k ∨ w.heap.size ≤ k) : Kept w W2 S :=
  ⟨Nat.le_trans h.size k.size, fun i hi hn => (k.blk i (Nat.lt_of_lt_of_le hi h.size) (fun h2 => (hs i h2).elim hn (fun h3 => by omega))).trans (h.blk i hi hn), k.os.trans h.os, k.tape.trans h.tape, k.output.trans h.output⟩
theorem Kept.mono (h : Kept w W S) (hs : ∀ k, S k → S2 k) : Kept w W S2 := ⟨h.size, fun i hi hn => h.blk i hi (fun hk => hn (hs i hk)), h.os, h.tape, h.output⟩
theorem Kept.of_grown {row : Option Nat} (hg : W.grownBy W2 row) (h : Kept w W S) (hr : ∀ k, row = some k → S k ∨ w.heap.size ≤ k) : Kept w W2 S :=
  h.then_ (S2 := fun k => row = some k) ⟨hg.size, fun i hi hn => hg.block i hi (fun he => hn he.symm), hg.os, hg.tape, hg.output⟩ hr
theorem Kept.alloc (h : Kept w W S) (o : Obj) : Kept w (W.alloc o) S := h.then_ (Kept.of_below (below_alloc0 (Below.refl _ _) o) (fun _ => False)) (fun _ hk => hk.elim)
theorem Kept.drew (h : Kept w W S) : Kept w W.drew S := ⟨h.size, h.blk, h.os, h.tape, h.output⟩
theorem Kept.drewN (h : Kept w W S) (m : Nat) : Kept w (W.drewN m) S := ⟨h.size, h.blk, h.os, h.tape, h.output⟩
theorem Kept.setCell (h : Kept w W S) {p : Addr} (hp : S p.block ∨ w.heap.size ≤ p.block) (u : Value) : Kept w (W.setCell p u) S :=
  h.then_ (S2 := fun k => k = p.block) ⟨by simp [World.setCell], fun i _ hn => Below.heap_setCell W p u i hn, rfl, rfl, rfl⟩ (fun k hk => by rw [hk]; exact hp)
/-- Where all that may be written is new since base, the old memory lies as it lay. -/
theorem Kept.below (h : Kept w W S) {B : Nat} (hB : B ≤ w.heap.size) (hs : ∀ k, S k → B ≤ k) : Below B w W :=
  ⟨h.os, h.tape, h.output, h.size, fun i hi => h.blk i (Nat.lt_of_lt_of_le hi hB) (fun hk => by have := hs i hk; omega)⟩
theorem Kept.cell (h : Kept w W S) {a : Addr} {v : Value} (hc : w.cell? a = some v) (hn : ¬ S a.block) : W.cell? a = some v := by
  have := h.blk a.block (World.block_lt_of_cell? w a hc) hn
  simpa [World.cell?, this] using hc
end

end Go.Proofs.Ytchkeanjekoghaa
