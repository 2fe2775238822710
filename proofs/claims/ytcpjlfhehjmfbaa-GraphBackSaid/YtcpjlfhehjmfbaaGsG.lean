/- Contract: ergolaw17.head: the document's example. -/
import Derived.Test.YtcpjlfhehjmfbaaGsF
import Derived.Test.YtcpjlfhehjmfbaaGsA
import Derived.Test.YtcpjlfhehjmfbaaGrM
namespace Go.Proofs.Ytcpjlfhehjmfbaa.Gr
open Go.RowKit Go.Shelf Go.Proofs.Ytcpjlfhehjmfbaa.Sg
set_option linter.unusedVariables false
set_option linter.unusedSimpArgs false

theorem row_lit (W : World) (g T : Nat) (xs : List Int) (h : W.heap[g]? = some (.cells (xs.map (Value.int .i64)).toArray T (0, 0))) (hl : xs.length < 1000) (hx : ∀ x ∈ xs, In64 x) : RowAt W (· < W.heap.size) (.slice (some ⟨g, 0, none⟩) xs.length xs.length) xs := by
  refine ⟨by omega, _, _, rfl, Nat.le_refl _, by omega, fun _ => ⟨g, 0, rfl, (Array.getElem?_eq_some_iff.1 h).1, fun j hj => ⟨.int .i64 xs[j], ?_, rfl, hx _ (List.getElem_mem _)⟩⟩⟩
  rw [Nat.zero_add, cell_of_row W g j _ _ _ h]
  simp [hj]
theorem rows_lit (W : World) (g T : Nat) (vs : List Value) (rs : List Row) (h : W.heap[g]? = some (.cells vs.toArray T (0, 0))) (hl : vs.length = rs.length) (hl2 : rs.length < 1000) (hx : ∀ j (h1 : j < vs.length) (h2 : j < rs.length), RowAt W (· < W.heap.size) vs[j] rs[j]) : RowsAt W (· < W.heap.size) (.slice (some ⟨g, 0, none⟩) rs.length rs.length) rs := by
  refine ⟨by omega, _, _, rfl, Nat.le_refl _, by omega, fun _ => ⟨g, 0, rfl, (Array.getElem?_eq_some_iff.1 h).1, fun j hj => ⟨vs[j]'(by omega), ?_, hx j (by omega) hj⟩⟩⟩
  rw [Nat.zero_add, cell_of_row W g j _ _ _ h]
  simp [show j < vs.length by omega]
theorem blk_in {W W2 : World} (h : Below W.heap.size W W2) {g : Nat} {o : Obj} (hg : W.heap[g]? = some o) : W2.heap[g]? = some o :=
  (h.block g (Array.getElem?_eq_some_iff.1 hg).1).trans hg
/-- The example's edges. -/
def exE : List Row := [[1], [0], [0], []]
theorem ex_edge {x y : Nat} (h : Edge (adj 4 exE) x y) : (x = 0 ∧ y = 1) ∨ (x = 1 ∧ y = 0) ∨ (x = 2 ∧ y = 0) := by
  unfold Edge adj exE at h
  match x, h with
  | 0, h => simp at h; exact .inl ⟨rfl, h⟩
  | 1, h => simp at h; exact .inr (.inl ⟨rfl, h⟩)
  | 2, h => simp at h; exact .inr (.inr ⟨rfl, h⟩)
  | 3, h => simp at h
  | n + 4, h => simp at h
theorem ex_01 : R (adj 4 exE) 0 1 := R.edge (by unfold Edge adj exE; simp)
theorem ex_10 : R (adj 4 exE) 1 0 := R.edge (by unfold Edge adj exE; simp)
theorem ex_20 : R (adj 4 exE) 2 0 := R.edge (by unfold Edge adj exE; simp)
theorem ex_low {a b : Nat} (h : R (adj 4 exE) a b) (ha : a = 0 ∨ a = 1) : b = 0 ∨ b = 1 :=
  h.keeps (Q := fun b => b = 0 ∨ b = 1) ha (fun x y hx he => by rcases ex_edge he with q | q | q <;> omega)
theorem ex_two {b : Nat} (h : R (adj 4 exE) 2 b) : b = 0 ∨ b = 1 ∨ b = 2 :=
  h.keeps (Q := fun b => b = 0 ∨ b = 1 ∨ b = 2) (.inr (.inr rfl)) (fun x y hx he => by rcases ex_edge he with q | q | q <;> omega)
theorem ex_three {b : Nat} (h : R (adj 4 exE) 3 b) : b = 3 :=
  h.keeps (Q := fun b => b = 3) rfl (fun x y hx he => by rcases ex_edge he with q | q | q <;> omega)
theorem ex_page : Page (adj 4 exE) 4 [[0, 1], [2], [3]] := by
  have p1 : Page (adj 4 exE) 4 [[0, 1]] := (Page.nil _ _).snoc (L := []) (i := 0) ⟨⟨by omega, by simp, fun j hj hr => by
    rcases ex_low hr (.inl rfl) with q | q
    · subst q; exact .inl (.refl _)
    · subst q; exact .inl ex_10⟩, fun i' hi' => by omega⟩ ⟨by simp, fun j => by
    constructor
    · intro h
      simp at h
      rcases h with rfl | rfl
      · exact ⟨by omega, .refl _, .refl _⟩
      · exact ⟨by omega, ex_01, ex_10⟩
    · rintro ⟨h1, h2, _⟩
      rcases ex_low h2 (.inl rfl) with q | q <;> simp [q]⟩
  have p2 : Page (adj 4 exE) 4 ([[0, 1]] ++ [[2]]) := p1.snoc (i := 2) ⟨⟨by omega, by simp, fun j hj hr => by
    rcases ex_two hr with q | q | q
    · subst q; exact .inr (by simp)
    · subst q; exact .inr (by simp)
    · subst q; exact .inl (.refl _)⟩, fun i' hi' hm => by
      have := hm.2.1
      simp at this
      omega⟩ ⟨by simp, fun j => by
    constructor
    · intro h
      simp at h
      subst h
      exact ⟨by omega, .refl _, .refl _⟩
    · rintro ⟨h1, h2, h3⟩
      rcases ex_two h2 with q | q | q
      · subst q; rcases ex_low h3 (.inl rfl) with e | e <;> omega
      · subst q; rcases ex_low h3 (.inr rfl) with e | e <;> omega
      · simp [q]⟩
  have p3 : Page (adj 4 exE) 4 (([[0, 1]] ++ [[2]]) ++ [[3]]) := p2.snoc (i := 3) ⟨⟨by omega, by simp, fun j hj hr => by
    have := ex_three hr
    subst this; exact .inl (.refl _)⟩, fun i' hi' hm => by
      have := hm.2.1
      simp at this
      omega⟩ ⟨by simp, fun j => by
    constructor
    · intro h
      simp at h
      subst h
      exact ⟨by omega, .refl _, .refl _⟩
    · rintro ⟨h1, h2, h3⟩
      simp [ex_three h2]⟩
  exact p3
theorem ex_full : ∀ i, i < 4 → i ∈ ([[0, 1], [2], [3]] : List (List Nat)).flatten := fun i hi => by
  simp; omega
theorem small64 {xs : List Int} (h : ∀ x ∈ xs, 0 ≤ x ∧ x < 100) : ∀ x ∈ xs, In64 x := fun x hx => by have := h x hx; unfold In64; omega
abbrev O1 (x : Int) : Obj := .cells #[.int .i64 x] 3
abbrev O2 (x y : Int) : Obj := .cells #[.int .i64 x, .int .i64 y] 3
theorem lit_row {w W : World} (xs : List Int) (o : Obj) (ho : o = .cells (xs.map (Value.int .i64)).toArray 3 (0, 0)) (hb : Below (w.alloc o).heap.size (w.alloc o) W) (hl : xs.length < 1000) (hx : ∀ x ∈ xs, 0 ≤ x ∧ x < 100) : RowAt W (· < W.heap.size) (.slice (some ⟨w.heap.size, 0, none⟩) xs.length xs.length) xs := by
  subst ho
  exact row_lit W w.heap.size 3 xs (blk_in hb (heap_alloc_new w _)) hl (small64 hx)
theorem lit_A (w : World) : RowsAt ((((w.alloc (O1 1)).alloc (O1 0)).alloc (O1 0)).alloc (.cells #[.slice (some ⟨w.heap.size, 0, none⟩) 1 1, .slice (some ⟨w.heap.size + 1, 0, none⟩) 1 1, .slice (some ⟨w.heap.size + 1 + 1, 0, none⟩) 1 1, .slice none 0 0] 22)) (· < w.heap.size + 1 + 1 + 1 + 1) (.slice (some ⟨w.heap.size + 1 + 1 + 1, 0, none⟩) 4 4) exE := by
  have r0 := lit_row (w := w) (W := ((((w.alloc (O1 1)).alloc (O1 0)).alloc (O1 0)).alloc (.cells #[.slice (some ⟨w.heap.size, 0, none⟩) 1 1, .slice (some ⟨w.heap.size + 1, 0, none⟩) 1 1, .slice (some ⟨w.heap.size + 1 + 1, 0, none⟩) 1 1, .slice none 0 0] 22))) [1] _ rfl (below_alloc0 (below_alloc0 (below_alloc0 (Below.refl _ _) _) _) _) (by simp) (by simp)
  have r1 := lit_row (w := w.alloc (O1 1)) (W := ((((w.alloc (O1 1)).alloc (O1 0)).alloc (O1 0)).alloc (.cells #[.slice (some ⟨w.heap.size, 0, none⟩) 1 1, .slice (some ⟨w.heap.size + 1, 0, none⟩) 1 1, .slice (some ⟨w.heap.size + 1 + 1, 0, none⟩) 1 1, .slice none 0 0] 22))) [0] _ rfl (below_alloc0 (below_alloc0 (Below.refl _ _) _) _) (by simp) (by simp)
  have r2 := lit_row (w := (w.alloc (O1 1)).alloc (O1 0)) (W := ((((w.alloc (O1 1)).alloc (O1 0)).alloc (O1 0)).alloc (.cells #[.slice (some ⟨w.heap.size, 0, none⟩) 1 1, .slice (some ⟨w.heap.size + 1, 0, none⟩) 1 1, .slice (some ⟨w.heap.size + 1 + 1, 0, none⟩) 1 1, .slice none 0 0] 22))) [0] _ rfl (below_alloc0 (Below.refl _ _) _) (by simp) (by simp)
  have hh := heap_alloc_new (((w.alloc (O1 1)).alloc (O1 0)).alloc (O1 0)) (.cells #[.slice (some ⟨w.heap.size, 0, none⟩) 1 1, .slice (some ⟨w.heap.size + 1, 0, none⟩) 1 1, .slice (some ⟨w.heap.size + 1 + 1, 0, none⟩) 1 1, .slice none 0 0] 22)
  simp only [World.size_alloc] at r0 r1 r2 hh
  have := rows_lit _ (w.heap.size + 1 + 1 + 1) 22 [.slice (some ⟨w.heap.size, 0, none⟩) 1 1, .slice (some ⟨w.heap.size + 1, 0, none⟩) 1 1, .slice (some ⟨w.heap.size + 1 + 1, 0, none⟩) 1 1, .slice none 0 0] exE hh rfl (by decide) (fun j h1 h2 => by
    simp only [World.size_alloc]
    match j, h1, h2 with
    | 0, _, _ => exact r0
    | 1, _, _ => exact r1
    | 2, _, _ => exact r2
    | 3, _, _ => exact SlAt.nil _ _ _ _ _ (by omega)
    | n + 4, h, _ => simp at h; omega)
  simp only [World.size_alloc] at this
  exact this
theorem lit_B (w : World) : RowsAt ((((w.alloc (O2 0 1)).alloc (O1 2)).alloc (O1 3)).alloc (.cells #[.slice (some ⟨w.heap.size, 0, none⟩) 2 2, .slice (some ⟨w.heap.size + 1, 0, none⟩) 1 1, .slice (some ⟨w.heap.size + 1 + 1, 0, none⟩) 1 1] 22)) (· < w.heap.size + 1 + 1 + 1 + 1) (.slice (some ⟨w.heap.size + 1 + 1 + 1, 0, none⟩) 3 3) [[0, 1], [2], [3]] := by
  have r0 := lit_row (w := w) (W := ((((w.alloc (O2 0 1)).alloc (O1 2)).alloc (O1 3)).alloc (.cells #[.slice (some ⟨w.heap.size, 0, none⟩) 2 2, .slice (some ⟨w.heap.size + 1, 0, none⟩) 1 1, .slice (some ⟨w.heap.size + 1 + 1, 0, none⟩) 1 1] 22))) [0, 1] _ rfl (below_alloc0 (below_alloc0 (below_alloc0 (Below.refl _ _) _) _) _) (by simp) (by simp)
  have r1 := lit_row (w := w.alloc (O2 0 1)) (W := ((((w.alloc (O2 0 1)).alloc (O1 2)).alloc (O1 3)).alloc (.cells #[.slice (some ⟨w.heap.size, 0, none⟩) 2 2, .slice (some ⟨w.heap.size + 1, 0, none⟩) 1 1, .slice (some ⟨w.heap.size + 1 + 1, 0, none⟩) 1 1] 22))) [2] _ rfl (below_alloc0 (below_alloc0 (Below.refl _ _) _) _) (by simp) (by simp)
  have r2 := lit_row (w := (w.alloc (O2 0 1)).alloc (O1 2)) (W := ((((w.alloc (O2 0 1)).alloc (O1 2)).alloc (O1 3)).alloc (.cells #[.slice (some ⟨w.heap.size, 0, none⟩) 2 2, .slice (some ⟨w.heap.size + 1, 0, none⟩) 1 1, .slice (some ⟨w.heap.size + 1 + 1, 0, none⟩) 1 1] 22))) [3] _ rfl (below_alloc0 (Below.refl _ _) _) (by simp) (by simp)
  have hh := heap_alloc_new (((w.alloc (O2 0 1)).alloc (O1 2)).alloc (O1 3)) (.cells #[.slice (some ⟨w.heap.size, 0, none⟩) 2 2, .slice (some ⟨w.heap.size + 1, 0, none⟩) 1 1, .slice (some ⟨w.heap.size + 1 + 1, 0, none⟩) 1 1] 22)
  simp only [World.size_alloc] at r0 r1 r2 hh
  have := rows_lit _ (w.heap.size + 1 + 1 + 1) 22 [.slice (some ⟨w.heap.size, 0, none⟩) 2 2, .slice (some ⟨w.heap.size + 1, 0, none⟩) 1 1, .slice (some ⟨w.heap.size + 1 + 1, 0, none⟩) 1 1] [[0, 1], [2], [3]] hh rfl (by decide) (fun j h1 h2 => by
    simp only [World.size_alloc]
    match j, h1, h2 with
    | 0, _, _ => exact r0
    | 1, _, _ => exact r1
    | 2, _, _ => exact r2
    | n + 3, h, _ => simp at h; omega)
  simp only [World.size_alloc] at this
  exact this
theorem lit_C (w : World) : RowsAt ((w.alloc (O1 0)).alloc (.cells #[.slice (some ⟨w.heap.size, 0, none⟩) 1 1] 22)) (· < w.heap.size + 1 + 1) (.slice (some ⟨w.heap.size + 1, 0, none⟩) 1 1) [[0]] := by
  have r0 := lit_row (w := w) (W := ((w.alloc (O1 0)).alloc (.cells #[.slice (some ⟨w.heap.size, 0, none⟩) 1 1] 22))) [0] _ rfl (below_alloc0 (Below.refl _ _) _) (by simp) (by simp)
  have hh := heap_alloc_new (w.alloc (O1 0)) (.cells #[.slice (some ⟨w.heap.size, 0, none⟩) 1 1] 22)
  simp only [World.size_alloc] at r0 hh
  have := rows_lit _ (w.heap.size + 1) 22 [.slice (some ⟨w.heap.size, 0, none⟩) 1 1] [[0]] hh rfl (by decide) (fun j h1 h2 => by
    simp only [World.size_alloc]
    match j, h1, h2 with
    | 0, _, _ => exact r0
    | n + 1, h, _ => simp at h)
  simp only [World.size_alloc] at this
  exact this
theorem lit_D (w : World) : RowsAt (((w.alloc (O1 1)).alloc (O1 0)).alloc (.cells #[.slice (some ⟨w.heap.size, 0, none⟩) 1 1, .slice (some ⟨w.heap.size + 1, 0, none⟩) 1 1] 22)) (· < w.heap.size + 1 + 1 + 1) (.slice (some ⟨w.heap.size + 1 + 1, 0, none⟩) 2 2) [[1], [0]] := by
  have r0 := lit_row (w := w) (W := (((w.alloc (O1 1)).alloc (O1 0)).alloc (.cells #[.slice (some ⟨w.heap.size, 0, none⟩) 1 1, .slice (some ⟨w.heap.size + 1, 0, none⟩) 1 1] 22))) [1] _ rfl (below_alloc0 (below_alloc0 (Below.refl _ _) _) _) (by simp) (by simp)
  have r1 := lit_row (w := w.alloc (O1 1)) (W := (((w.alloc (O1 1)).alloc (O1 0)).alloc (.cells #[.slice (some ⟨w.heap.size, 0, none⟩) 1 1, .slice (some ⟨w.heap.size + 1, 0, none⟩) 1 1] 22))) [0] _ rfl (below_alloc0 (Below.refl _ _) _) (by simp) (by simp)
  have hh := heap_alloc_new ((w.alloc (O1 1)).alloc (O1 0)) (.cells #[.slice (some ⟨w.heap.size, 0, none⟩) 1 1, .slice (some ⟨w.heap.size + 1, 0, none⟩) 1 1] 22)
  simp only [World.size_alloc] at r0 r1 hh
  have := rows_lit _ (w.heap.size + 1 + 1) 22 [.slice (some ⟨w.heap.size, 0, none⟩) 1 1, .slice (some ⟨w.heap.size + 1, 0, none⟩) 1 1] [[1], [0]] hh rfl (by decide) (fun j h1 h2 => by
    simp only [World.size_alloc]
    match j, h1, h2 with
    | 0, _, _ => exact r0
    | 1, _, _ => exact r1
    | n + 2, h, _ => simp at h; omega)
  simp only [World.size_alloc] at this
  exact this
set_option maxHeartbeats 2000000 in
set_option maxRecDepth 100000 in
theorem head17_any (w : World) : Calls Try.prog 7 #[] w fun e w' => e = .returned (.bool true) ∧ Below w.heap.size w w' := by
  have CO := Aside0.mk (Components_any _ _ exE 4 (reads_rows.mono (lit_A w) (fun b _ hl => hl)) rfl (by omega) (by decide))
  go_enter Try.func7, Try.ntmps7
  go_wp2_with fail
  with_reducible refine CO.out.mono ?_
  rintro e w5 ⟨v, L, rfl, hr, hp, hf, hb⟩
  obtain rfl : L = [[0, 1], [2], [3]] := hp.unique ex_page hf ex_full
  have HB5 := Aside0.mk (below_trans0 (below_alloc0 (below_alloc0 (below_alloc0 (below_alloc0 (Below.refl w.heap.size w) _) _) _) _) hb)
  have IS := Aside0.mk (is17_any _ _ _ v _ _ _ (hr.below reads_row (below_alloc0 (below_alloc0 (below_alloc0 (below_alloc0 (Below.refl _ _) _) _) _) _)) (lit_B w5))
  clear CO hr hp hf hb
  go_wp2_with fail
  with_reducible refine IS.out.mono ?_
  rintro e w6 ⟨he, hb⟩
  rw [decide_eq_true (show (List.map toRow [[0, 1], [2], [3]] : List Row) = [[0, 1], [2], [3]] from rfl)] at he
  subst he
  have HB6 := Aside0.mk (below_trans0 HB5.out (below_trans0 (below_alloc0 (below_alloc0 (below_alloc0 (below_alloc0 (Below.refl w5.heap.size w5) _) _) _) _) hb))
  have LC := Aside0.mk (loops_any _ _ _ _ 0 (lit_C w6))
  clear IS hb HB5
  go_wp2_with fail
  with_reducible refine LC.out.mono ?_
  rintro e w7 ⟨he, rfl⟩
  rw [decide_eq_true (by simp)] at he
  subst he
  have ld := loops_any _ _ _ _ 0 (lit_D ((w6.alloc (O1 0)).alloc (.cells #[.slice (some ⟨w6.heap.size, 0, none⟩) 1 1] 22)))
  simp only [World.size_alloc] at ld
  have LD := Aside0.mk ld
  clear ld
  have HB7 := Aside0.mk (below_trans0 HB6.out (below_alloc0 (below_alloc0 (below_alloc0 (below_alloc0 (below_alloc0 (Below.refl w6.heap.size w6) (O1 0)) (.cells #[.slice (some ⟨w6.heap.size, 0, none⟩) 1 1] 22)) (O1 1)) (O1 0)) (.cells #[.slice (some ⟨w6.heap.size + 1 + 1, 0, none⟩) 1 1, .slice (some ⟨w6.heap.size + 1 + 1 + 1, 0, none⟩) 1 1] 22)))
  clear LC HB6
  go_wp2_with fail
  with_reducible refine LD.out.mono ?_
  rintro e w8 ⟨he, rfl⟩
  rw [decide_eq_false (by simp)] at he
  subst he
  go_wp2
  go_ret
  exact ⟨rfl, HB7.out⟩
end Go.Proofs.Ytcpjlfhehjmfbaa.Gr
