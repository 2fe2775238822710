/- Best.Add: a key appended to the list. -/
import Derived.Test.YtalbgdbphdhhaaaSgBk
namespace Go.Proofs.Ytalbgdbphdhhaaa.Sg
open Go.RowKit Go.Shelf
set_option linter.unusedVariables false
set_option linter.unusedSimpArgs false

theorem AddIn.push {w0 : World} {B g : Nat} {F F2 U : Nat → Prop} {W : Nat} {great : Bool} {R K : List Row} {A w1 : World} {v v' u : Value} {key : Row} {o : Obj} {cs : List Value} (h : AddIn w0 B g F F2 W great R K U A v cs)
    (hx : RowAt A (fun b => w0.heap.size + 2 ≤ b ∧ Off v b ∧ ¬ U b ∧ ¬ F2 b) u key) (ho : w1.ownsRow (w0.heap.size + 2) 23 1 v' (K.length + 1) (cs ++ [u])) (hg : (A.alloc o).grownBy w1 v.ownBlock)
    (hb : v'.ownBlock = v.ownBlock ∨ v'.ownBlock = some (A.alloc o).heap.size) (hU : ∀ b, U b → b < A.heap.size) :
    AddIn w0 B g F F2 W great R (K ++ [key]) U (w1.setCell ⟨w0.heap.size + 1, 0, none⟩ v') v' (cs ++ [u]) ∧ Keeps (fun b => Off v b ∧ b ≠ w0.heap.size + 1) A (w1.setCell ⟨w0.heap.size + 1, 0, none⟩ v') := by
  have hsz : (A.alloc o).heap.size = A.heap.size + 1 := by simp
  have hbig := h.big
  have k1 : Keeps (fun b => Off v b) A w1 := (Keeps.alloc (fun b => Off v b) A o).trans ((Keeps.grown hg).mono (ok2 := fun b => Off v b) (fun b _ hbb => hbb)) (fun _ _ hh => hh)
  have k2 : Keeps (fun b => b ≠ w0.heap.size + 1) w1 (w1.setCell ⟨w0.heap.size + 1, 0, none⟩ v') := Keeps.setCell w1 ⟨w0.heap.size + 1, 0, none⟩ v'
  have k3 : Keeps (fun b => Off v b ∧ b ≠ w0.heap.size + 1) A (w1.setCell ⟨w0.heap.size + 1, 0, none⟩ v') := (k1.mono (fun b _ hh => hh.1)).trans k2 (fun b _ hh => hh.2)
  have obx : Off v (w0.heap.size + 1) := fun e => by have := own_below h.own _ e; omega
  have optr : Off v w0.heap.size := fun e => by have := own_below h.own _ e; omega
  have hb1 : w1.heap[w0.heap.size + 1]? = A.heap[w0.heap.size + 1]? := k1.block _ h.box.lt obx
  have hb' : ∀ b, b < A.heap.size → Off v b → Off v' b := fun b hbs hof => by
    unfold Off at *
    rcases hb with e | e
    · rw [e]; exact hof
    · rw [e]; intro e2; have := Option.some.inj e2; omega
  have nbx : ∀ b, v'.ownBlock = some b → b ≠ w0.heap.size + 1 := fun b e => by have := own_below ho b e; omega
  have keepF : ∀ b, F2 b → Off v b ∧ b ≠ w0.heap.size + 1 := fun b hf => ⟨fun e => (h.offU b e).2 hf, fun e => h.bxF.2 (e ▸ hf)⟩
  generalize hw2 : w1.setCell ⟨w0.heap.size + 1, 0, none⟩ v' = w2 at *
  refine ⟨⟨h.best.keeps k3 keepF, (k3.block _ h.ptr.lt ⟨optr, by omega⟩).trans h.ptr, ?_, ?_, fun j hj z hz => ?_, fun b e => ?_, h.bxU, h.bxF, h.geU, h.fU, h.grow, h.keeps.trans (k3.mono (ok2 := fun b => b < w0.heap.size ∧ ¬ F b) (fun b _ hbb => ⟨fun e => by have := own_below h.own _ e; omega, by omega⟩)) (fun _ _ h => h), Nat.le_trans hbig k3.size⟩, k3⟩
  · rw [← hw2]
    have hbx : w1.heap[w0.heap.size + 1]? = _ := hb1.trans h.box
    exact Go.heap_setCell_same w1 (w0.heap.size + 1) 0 _ _ v' hbx
  · rw [List.length_append]
    exact k2.stays.owns ho (fun b e => nbx b e)
  · have hl1 : cs.length = K.length := by have := h.own.1; omega
    by_cases q : j < K.length
    · rw [List.getElem_append_left q]
      rw [List.getElem?_append_left (by omega)] at hz
      have e1 := reads_row.mono (ok2 := fun b => (w0.heap.size + 2 ≤ b ∧ Off v b ∧ ¬ U b ∧ ¬ F2 b) ∧ b < A.heap.size) (h.el j q z hz) (fun b hb hl => ⟨hb, hl⟩)
      exact reads_row.mono (reads_row.stays e1 (k3.stays.mono (fun b hb _ => ⟨hb.1.2.1, by omega⟩))) (fun b hb _ => ⟨hb.1.1, hb' b hb.2 hb.1.2.1, hb.1.2.2⟩)
    · have e : j = K.length := by simp at hj; omega
      subst e
      rw [List.getElem?_append_right (by omega), hl1, Nat.sub_self] at hz
      obtain rfl : u = z := by simpa using hz
      have e2 : (K ++ [key])[K.length] = key := by simp
      rw [e2]
      have e1 := reads_row.mono (ok2 := fun b => (w0.heap.size + 2 ≤ b ∧ Off v b ∧ ¬ U b ∧ ¬ F2 b) ∧ b < A.heap.size) hx (fun b hb hl => ⟨hb, hl⟩)
      exact reads_row.mono (reads_row.stays e1 (k3.stays.mono (fun b hb _ => ⟨hb.1.2.1, by omega⟩))) (fun b hb _ => ⟨hb.1.1, hb' b hb.2 hb.1.2.1, hb.1.2.2⟩)
  · rcases hb with q | q
    · rw [q] at e; exact h.offU b e
    · rw [q] at e
      have e3 := Option.some.inj e
      exact ⟨fun hu => by have := hU b hu; omega, fun hf => by have := h.best.2 b hf; omega⟩
end Go.Proofs.Ytalbgdbphdhhaaa.Sg
