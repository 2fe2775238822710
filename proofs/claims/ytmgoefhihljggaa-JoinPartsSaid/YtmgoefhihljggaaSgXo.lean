/- IndexProbes: each row is found by its numbers, and by no others. -/
import Derived.Test.YtmgoefhihljggaaSgXn
namespace Go.Proofs.Ytmgoefhihljggaa.Sg
open Go.RowKit Go.Shelf
set_option linter.unusedVariables false
set_option linter.unusedSimpArgs false

theorem BuiltBy.monoOk {w : World} {B e : Nat} {ok ok2 : Nat → Prop} {v : Value} {xs : List Row} {cs : List Value} (h : BuiltBy RowAt w B e ok v xs cs) (hs : ∀ b, ok b → b < w.heap.size → ok2 b) : BuiltBy RowAt w B e ok2 v xs cs :=
  ⟨h.own, fun j hj u hu => reads_row.mono (h.el j hj u hu) hs⟩
/-- Behind an append of one, the blocks of the elements told apart from the list's own. -/
theorem BuiltBy.push {w w1 : World} {o : Obj} {B e b b1 cap cap1 n : Nat} {u : Value} {xs : List Row} {x : Row} {cs : List Value}
    (h : BuiltBy RowAt w B e (· ≠ b) (.slice (some ⟨b, 0, none⟩) n cap) xs cs) (hu : RowAt w (· ≠ b) u x) (ho : w1.ownsRow B e 1 (.slice (some ⟨b1, 0, none⟩) (xs.length + 1) cap1) (xs.length + 1) (cs ++ [u])) (hg : (w.alloc o).grownBy w1 (some b))
    (hb : (Value.slice (some ⟨b1, 0, none⟩) (xs.length + 1) cap1).ownBlock = some b ∨ (Value.slice (some ⟨b1, 0, none⟩) (xs.length + 1) cap1).ownBlock = some (w.alloc o).heap.size) : BuiltBy RowAt w1 B e (· ≠ b1) (.slice (some ⟨b1, 0, none⟩) (xs.length + 1) cap1) (xs ++ [x]) (cs ++ [u]) := by
  have hb1 : b1 = b ∨ b1 = w.heap.size + 1 := by
    rcases hb with hb | hb
    · exact .inl (Option.some.inj hb)
    · exact .inr (by have := Option.some.inj hb; simpa using this)
  have h2 := h.monoOk (ok2 := fun k => k ≠ b ∧ k < w.heap.size) (fun k hk hl => ⟨hk, hl⟩)
  have hu2 := reads_row.mono (ok2 := fun k => k ≠ b ∧ k < w.heap.size) hu (fun k hk hl => ⟨hk, hl⟩)
  have := BuiltBy.append reads_row h2 hu2 ho hg (fun k hk e => by cases hk; exact e.1 rfl)
  exact this.monoOk (fun k hk _ => by omega)
theorem take_mem_step {U : List Row} {j : Nat} (h : j < U.length) (K : Row) : K ∈ U.take (j + 1) ↔ K ∈ U.take j ∨ U[j] = K := by
  rw [List.take_succ_eq_append_getElem h, List.mem_append, List.mem_singleton]
  exact or_congr Iff.rfl eq_comm

end Go.Proofs.Ytmgoefhihljggaa.Sg
