/- Best.Add: what its loop over the set keeps (no walk). -/
import Derived.Test.YtalbgdbphdhhaaaSgBj
namespace Go.Proofs.Ytalbgdbphdhhaaa.Sg
open Go.RowKit Go.Shelf
set_option linter.unusedVariables false
set_option linter.unusedSimpArgs false

/-- One row of a set put in: the rows, and the keys that have a new best cost. -/
def stepA (W : Nat) (great : Bool) (st : List Row × List Row) (r : Row) : List Row × List Row :=
  if r.length = W + 1 then ((putB W great st.1 (r.take W) (r.getD W 0)).1, if (putB W great st.1 (r.take W) (r.getD W 0)).2 then st.2 ++ [r.take W] else st.2) else st
def allA (W : Nat) (great : Bool) (rows : List Row) (L : List Row) : List Row × List Row := L.foldl (stepA W great) (rows, [])
theorem allA_snoc (W : Nat) (great : Bool) (rows L : List Row) (r : Row) : allA W great rows (L ++ [r]) = stepA W great (allA W great rows L) r := by simp [allA]
theorem stepA_fst (W : Nat) (great : Bool) (st : List Row × List Row) (r : Row) : (stepA W great st r).1 = stepB W great st.1 r := by unfold stepA stepB; split <;> rfl
theorem allA_fst (W : Nat) (great : Bool) (L : List Row) : ∀ st : List Row × List Row, (L.foldl (stepA W great) st).1 = L.foldl (stepB W great) st.1 := by
  induction L with
  | nil => intro st; rfl
  | cons r L ih => intro st; rw [List.foldl_cons, List.foldl_cons, ih, stepA_fst]
/-- What holds while Add goes over the set. n0: the heap's size when Add began: the box of the best's pointer; n0 + 1: the box of the keys' list. F: the best's blocks at the start, F2: now; U: the iterator's. -/
structure AddIn (w0 : World) (B g : Nat) (F F2 : Nat → Prop) (W : Nat) (great : Bool) (R : List Row) (K : List Row) (U : Nat → Prop) (wd : World) (v : Value) (cs : List Value) : Prop where
  best : BestS wd B g F2 W great R
  ptr : Boxed wd w0.heap.size 26 (.pointer (some ⟨g, 0, none⟩))
  box : Boxed wd (w0.heap.size + 1) 28 v
  own : wd.ownsRow (w0.heap.size + 2) 23 1 v K.length cs
  el : ∀ j (h : j < K.length) u, cs[j]? = some u → RowAt wd (fun b => w0.heap.size + 2 ≤ b ∧ Off v b ∧ ¬ U b ∧ ¬ F2 b) u K[j]
  offU : ∀ b, v.ownBlock = some b → ¬ U b ∧ ¬ F2 b
  bxU : ¬ U w0.heap.size ∧ ¬ U (w0.heap.size + 1)
  bxF : ¬ F2 w0.heap.size ∧ ¬ F2 (w0.heap.size + 1)
  geU : ∀ b, U b → w0.heap.size ≤ b
  fU : ∀ b, F2 b → ¬ U b
  grow : ∀ b, F2 b → F b ∨ w0.heap.size ≤ b
  keeps : Keeps (fun b => b < w0.heap.size ∧ ¬ F b) w0 wd
  big : w0.heap.size + 2 ≤ wd.heap.size
theorem AddIn.abid {w0 : World} {B g : Nat} {F F2 U V : Nat → Prop} {W : Nat} {great : Bool} {R K : List Row} {A C : World} {v : Value} {cs : List Value} (h : AddIn w0 B g F F2 W great R K U A v cs) (hk : Keeps (fun b => ¬ U b) A C) (hv : ∀ b, V b → U b ∨ A.heap.size ≤ b) : AddIn w0 B g F F2 W great R K V C v cs := by
  have nV : ∀ b, b < A.heap.size → ¬ U b → ¬ V b := fun b hb hu h => by
    rcases hv b h with h | h
    · exact hu h
    · omega
  have hbig := h.big
  refine ⟨h.best.keeps hk h.fU, (hk.block _ h.ptr.lt h.bxU.1).trans h.ptr, (hk.block _ h.box.lt h.bxU.2).trans h.box, hk.stays.owns h.own (fun b hb => (h.offU b hb).1), fun j hj u hu => ?_, fun b hb => ⟨nV b (h.own.lt b hb).2 (h.offU b hb).1, (h.offU b hb).2⟩, ⟨nV _ h.ptr.lt h.bxU.1, nV _ h.box.lt h.bxU.2⟩, h.bxF, fun b hb => ?_, fun b hb => nV b (h.best.2 b hb) (h.fU b hb), h.grow, h.keeps.trans (hk.mono (ok2 := fun b => b < w0.heap.size ∧ ¬ F b) (fun b _ hb hu => by have := h.geU b hu; omega)) (fun _ _ h => h), Nat.le_trans hbig hk.size⟩
  · have e1 := reads_row.mono (ok2 := fun b => (w0.heap.size + 2 ≤ b ∧ Off v b ∧ ¬ U b ∧ ¬ F2 b) ∧ b < A.heap.size) (h.el j hj u hu) (fun b hb hl => ⟨hb, hl⟩)
    exact reads_row.mono (reads_row.stays e1 (hk.stays.mono (fun b hb _ => hb.1.2.2.1))) (fun b hb _ => ⟨hb.1.1, hb.1.2.1, nV b hb.2 hb.1.2.2.1, hb.1.2.2.2⟩)
  · rcases hv b hb with h1 | h1
    · exact h.geU b h1
    · omega
def AddI (w0 : World) (B g : Nat) (F : Nat → Prop) (W : Nat) (great : Bool) (rows : List Row) (pre : List RowV) (U : Nat → Prop) (wd : World) : Prop :=
  ∃ F2 v cs, AddIn w0 B g F F2 W great (allA W great rows (rowsOf pre)).1 (allA W great rows (rowsOf pre)).2 U wd v cs
theorem AddI.abid (w0 : World) (B g : Nat) (F : Nat → Prop) (W : Nat) (great : Bool) (rows : List Row) : Abid (AddI w0 B g F W great rows) := fun pre U V A C h hk hv => by
  obtain ⟨F2, v, cs, h1⟩ := h
  exact ⟨F2, v, cs, h1.abid hk hv⟩
/-- Behind the body's Put. -/
theorem AddIn.put {w0 : World} {B g : Nat} {F F2 U : Nat → Prop} {W : Nat} {great : Bool} {R R2 K : List Row} {A C : World} {v : Value} {cs : List Value} (h : AddIn w0 B g F F2 W great R K U A v cs) (hp : PutS A C B g W F2 great R2) (hU : ∀ b, U b → b < A.heap.size) : ∃ F3, AddIn w0 B g F F3 W great R2 K U C v cs ∧ Keeps (fun b => ¬ F2 b) A C ∧ (∀ b, b < A.heap.size → ¬ F2 b → ¬ F3 b) := by
  obtain ⟨F3, h1, h2, h3⟩ := hp
  have nF : ∀ b, b < A.heap.size → ¬ F2 b → ¬ F3 b := fun b hb hf hf3 => by
    rcases h2 b hf3 with q | q
    · exact hf q
    · omega
  have hbig := h.big
  refine ⟨F3, ⟨h1, (h3.block _ h.ptr.lt h.bxF.1).trans h.ptr, (h3.block _ h.box.lt h.bxF.2).trans h.box, h3.stays.owns h.own (fun b hb => (h.offU b hb).2), fun j hj u hu => ?_, fun b hb => ⟨(h.offU b hb).1, nF b (h.own.lt b hb).2 (h.offU b hb).2⟩, h.bxU, ⟨nF _ h.ptr.lt h.bxF.1, nF _ h.box.lt h.bxF.2⟩, h.geU, fun b hb hu => ?_, fun b hb => ?_, h.keeps.trans (h3.mono (ok2 := fun b => b < w0.heap.size ∧ ¬ F b) (fun b _ hb hf => ?_)) (fun _ _ h => h), Nat.le_trans hbig h3.size⟩, h3, nF⟩
  · have e1 := reads_row.mono (ok2 := fun b => (w0.heap.size + 2 ≤ b ∧ Off v b ∧ ¬ U b ∧ ¬ F2 b) ∧ b < A.heap.size) (h.el j hj u hu) (fun b hb hl => ⟨hb, hl⟩)
    exact reads_row.mono (reads_row.stays e1 (h3.stays.mono (fun b hb _ => hb.1.2.2.2))) (fun b hb _ => ⟨hb.1.1, hb.1.2.1, hb.1.2.2.1, nF b hb.2 hb.1.2.2.2⟩)
  · rcases h2 b hb with q | q
    · exact h.fU b q hu
    · have := hU b hu; omega
  · rcases h2 b hb with q | q
    · exact h.grow b q
    · exact .inr (by omega)
  · rcases h.grow b hf with q | q
    · exact hb.2 q
    · omega
end Go.Proofs.Ytalbgdbphdhhaaa.Sg
