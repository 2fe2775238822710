/- A finder as it is made. -/
import Derived.Test.YtcpjlfhehjmfbaaGrI
import Derived.Laws.MakeOwn
namespace Go.Proofs.Ytcpjlfhehjmfbaa.Gr
open Go.RowKit Go.Shelf Go.Proofs.Ytcpjlfhehjmfbaa.Sg
set_option linter.unusedVariables false
set_option linter.unusedSimpArgs false

/-- A row of zeros, as it is made. -/
abbrev Zs (n : Nat) : Obj := .cells (madeCells #[.int .i64 0] n) 3
theorem make_ints (n : Nat) (hn : n ≤ 1000000) (w : World) :
    (Instr.makeSlice 22 (.int .i64 (n : Int)) (.int .i64 (n : Int))).run Try.prog w = .ok (.slice (some ⟨w.heap.size, 0, none⟩) n n) (w.alloc (Zs n)) := by
  obtain ⟨i, hi, hz, hs, hb⟩ := info_parts info_intG
  have hb' : (i.bytes : Int) * (n : Int) ≤ 281474976710656 := by
    have h : ((i.bytes * n : Nat) : Int) ≤ 281474976710656 := by rw [hb]; omega
    rwa [Int.natCast_mul] at h
  have hr := run_make (P := Try.prog) w 22 3 i _ Try.underlying22 hi hz .i64 .i64 n n (by omega) (Int.le_refl _) hb' (by omega)
  simp only [Int.toNat_natCast, hs] at hr
  simpa [Value.cells] using hr
theorem lst_zero (n : Nat) (f : Nat → Nat) (hf : ∀ v, f v = 0) : lst n f = List.replicate n (.int .i64 0) := by
  apply List.ext_getElem?
  intro i
  unfold lst
  by_cases h : i < n <;> simp [h, hf]
abbrev four (W : World) (n : Nat) : World := (((W.alloc (Zs n)).alloc (Zs n)).alloc (Zs n)).alloc (Zs n)
theorem four_size (W : World) (n : Nat) : (four W n).heap.size = W.heap.size + 4 := by simp [four]
theorem four_below (W : World) (n : Nat) : Below W.heap.size W (four W n) := below_alloc0 (below_alloc0 (below_alloc0 (below_alloc0 (Below.refl _ _) _) _) _) _
theorem four_own (W : World) (n b B : Nat) (hB : B ≤ W.heap.size) (hn : n < 1000000) (h1 : W.heap.size ≤ b) (h2 : b < W.heap.size + 4) (f : Nat → Nat) (hf : ∀ v, f v = 0) : (four W n).ownsRow B 3 1 (.slice (some ⟨b, 0, none⟩) n n) n (lst n f) := by
  rw [lst_zero n f hf]
  have key : ∀ (V : World), B ≤ V.heap.size → V.heap.size = b → (V.alloc (Zs n)).ownsRow B 3 1 (.slice (some ⟨b, 0, none⟩) n n) n (List.replicate n (.int .i64 0)) := fun V h e => by
    subst e
    exact owns_new V B 3 n _ h (by omega)
  have st : ∀ (V : World), V.ownsRow B 3 1 (.slice (some ⟨b, 0, none⟩) n n) n (List.replicate n (.int .i64 0)) → (V.alloc (Zs n)).ownsRow B 3 1 (.slice (some ⟨b, 0, none⟩) n n) n (List.replicate n (.int .i64 0)) := fun V h => (Stays.alloc (fun _ => True) V (Zs n)).owns h (fun _ _ => trivial)
  unfold four
  have e : b = W.heap.size ∨ b = W.heap.size + 1 ∨ b = W.heap.size + 2 ∨ b = W.heap.size + 3 := by omega
  rcases e with e | e | e | e
  · exact st _ (st _ (st _ (key W hB e.symm)))
  · exact st _ (st _ (key _ (by simp; omega) (by simp; omega)))
  · exact st _ (key _ (by simp; omega) (by simp; omega))
  · exact key _ (by simp; omega) (by simp; omega)
def s0 : St := ⟨fun _ => 0, fun _ => 0, fun _ => false, fun _ => 0, [], 0, 0⟩
theorem gd_zero (A : Adj) (n : Nat) : Gd A n s0 [] := by
  refine ⟨inv_zero A n _ _ _, ?_, Nat.le_refl _⟩
  show 0 + wait A0 s0 (List.range n) ≤ n
  have : ∀ l, wait A0 s0 l = l.length := by
    intro l
    induction l with
    | nil => rfl
    | cons a l ih => rw [wait, ih]; show 1 + l.length = _; simp; omega
  rw [this]; simp
theorem fi_new (W : World) (ev : Value) (es : List Row) (n bo bl bh bc : Nat) (hE : RowsAt W (· < W.heap.size) ev es) (hl : es.length = n) (hn : n < 1000000)
    (h1 : W.heap.size ≤ bo ∧ bo < W.heap.size + 4) (h2 : W.heap.size ≤ bl ∧ bl < W.heap.size + 4) (h3 : W.heap.size ≤ bh ∧ bh < W.heap.size + 4) (h4 : W.heap.size ≤ bc ∧ bc < W.heap.size + 4)
    (hne : bo ≠ bl ∧ bo ≠ bh ∧ bo ≠ bc ∧ bl ≠ bh ∧ bl ≠ bc ∧ bh ≠ bc) :
    FI ((four W n).alloc (.cells #[ev, .slice (some ⟨bo, 0, none⟩) n n, .slice (some ⟨bl, 0, none⟩) n n, .slice (some ⟨bh, 0, none⟩) n n, .slice none 0 0, .slice (some ⟨bc, 0, none⟩) n n, .int .i64 0, .int .i64 0] 46)) W.heap.size (W.heap.size + 4) n ev es bo bl bh bc (.slice none 0 0) s0 := by
  have own : ∀ b (o : Obj) (f : Nat → Nat), W.heap.size ≤ b ∧ b < W.heap.size + 4 → (∀ v, f v = 0) → ((four W n).alloc o).ownsRow W.heap.size 3 1 (.slice (some ⟨b, 0, none⟩) n n) n (lst n f) := fun b o f hb hf =>
    (Stays.alloc (fun _ => True) (four W n) o).owns (four_own W n b W.heap.size (Nat.le_refl _) hn hb.1 hb.2 f hf) (fun _ _ => trivial)
  refine ⟨?_, ?_, hl, own bo _ _ h1 (fun _ => rfl), own bl _ _ h2 (fun _ => rfl), own bh _ _ h3 (fun _ => rfl), own bc _ _ h4 (fun _ => rfl), ?_, hne, by simp [Value.ownBlock], Nat.le_add_right _ _⟩
  · have := heap_alloc_new (four W n) (.cells #[ev, .slice (some ⟨bo, 0, none⟩) n n, .slice (some ⟨bl, 0, none⟩) n n, .slice (some ⟨bh, 0, none⟩) n n, .slice none 0 0, .slice (some ⟨bc, 0, none⟩) n n, .int .i64 0, .int .i64 0] 46)
    rw [four_size] at this
    exact this
  · have hb : Below W.heap.size W ((four W n).alloc (.cells #[ev, .slice (some ⟨bo, 0, none⟩) n n, .slice (some ⟨bl, 0, none⟩) n n, .slice (some ⟨bh, 0, none⟩) n n, .slice none 0 0, .slice (some ⟨bc, 0, none⟩) n n, .int .i64 0, .int .i64 0] 46)) := below_alloc0 (four_below W n) _
    exact reads_rows.stays hE (Stays.of_below hb _)
  · exact World.ownsRow_nil _ _ _ _
end Go.Proofs.Ytcpjlfhehjmfbaa.Gr
