/- The finder's walk: what holds all the way; the way in memory. -/
import Derived.Test.YtcpjlfhehjmfbaaGrG
namespace Go.Proofs.Ytcpjlfhehjmfbaa.Gr
open Go.RowKit Go.Shelf Go.Proofs.Ytcpjlfhehjmfbaa.Sg
set_option linter.unusedVariables false
set_option linter.unusedSimpArgs false

def A0 : Adj := fun _ => []
structure Gd (A : Adj) (n : Nat) (s : St) (p : List (Nat × Nat)) : Prop where
  inv : Inv A n s p
  nx : s.next + wait A0 s (List.range n) ≤ n
  ct : s.count + p.length ≤ s.next
theorem dec_len (f : Nat → Nat) : ∀ (m : Nat) (l : List Nat), l.Pairwise (fun a b => f b < f a) → (∀ a ∈ l, 0 < f a) → (∀ a ∈ l, f a ≤ m) → l.length ≤ m
  | m, [], _, _, _ => Nat.zero_le _
  | m, x :: l, h, h1, h2 => by
    rw [List.pairwise_cons] at h
    have hx := h2 x (List.mem_cons_self ..)
    have hp := h1 x (List.mem_cons_self ..)
    have := dec_len f (m - 1) l h.2 (fun a ha => h1 a (List.mem_cons_of_mem _ ha)) (fun a ha => by have := h.1 a ha; omega)
    rw [List.length_cons]
    omega
theorem Gd.bounds {A : Adj} {n : Nat} {s : St} {p : List (Nat × Nat)} (h : Gd A n s p) : s.next ≤ n ∧ s.count ≤ n ∧ s.stack.length ≤ n ∧ p.length ≤ n := by
  have h1 := h.nx
  have h2 := h.ct
  have h3 := dec_len s.ord s.next s.stack h.inv.srt (fun a ha => h.inv.heldMet a ((h.inv.stk a).1 ha)) (fun a ha => (h.inv.lt a (h.inv.heldMet a ((h.inv.stk a).1 ha))).2)
  omega
theorem Gd.start {A : Adj} {n : Nat} {s : St} {t : Nat} (h : Gd A n s []) (h0 : s.ord t = 0) (hn : t < n) : Gd A n (meet s t) [(t, 0)] := by
  have hw := wait_meet (A := A0) h0 (List.range n) List.nodup_range (List.mem_range.2 hn)
  have h1 := h.nx
  have h2 := h.ct
  refine ⟨h.inv.start h0 hn, ?_, ?_⟩
  · show s.next + 1 + _ ≤ n
    have e : (A0 t).length = 0 := rfl
    omega
  · show s.count + 1 ≤ s.next + 1
    simp at h2
    omega
theorem Gd.go {A : Adj} {n : Nat} {s : St} {u e t : Nat} {p : List (Nat × Nat)} (h : Gd A n s ((u, e) :: p)) (he : (A u)[e]? = some (some t)) (h0 : s.ord t = 0) (hn : t < n) : Gd A n (meet s t) ((t, 0) :: (u, e + 1) :: p) := by
  have hw := wait_meet (A := A0) h0 (List.range n) List.nodup_range (List.mem_range.2 hn)
  have h1 := h.nx
  have h2 := h.ct
  refine ⟨h.inv.go he h0 hn, ?_, ?_⟩
  · show s.next + 1 + _ ≤ n
    have e : (A0 t).length = 0 := rfl
    omega
  · show s.count + _ ≤ s.next + 1
    simp at h2 ⊢
    omega
theorem Gd.skip {A : Adj} {n : Nat} {s : St} {u e : Nat} {p : List (Nat × Nat)} (h : Gd A n s ((u, e) :: p)) (he : e < (A u).length) (ht : ∀ t, (A u)[e]? = some (some t) → 0 < s.ord t ∧ s.held t = false) : Gd A n s ((u, e + 1) :: p) :=
  ⟨h.inv.skip he ht, h.nx, h.ct⟩
theorem Gd.back {A : Adj} {n : Nat} {s : St} {u e t : Nat} {p : List (Nat × Nat)} (h : Gd A n s ((u, e) :: p)) (he : (A u)[e]? = some (some t)) (ht : s.held t = true) : Gd A n { s with low := upd s.low u (min (s.low u) (s.ord t)) } ((u, e + 1) :: p) :=
  ⟨h.inv.back he ht, by rw [wait_ord (s := s) (by rfl)]; exact h.nx, h.ct⟩
theorem pass_same (s : St) (u : Nat) (p : List (Nat × Nat)) : (pass s u p).ord = s.ord ∧ (pass s u p).next = s.next ∧ (pass s u p).count = s.count := by
  cases p with
  | nil => exact ⟨rfl, rfl, rfl⟩
  | cons f q => exact ⟨rfl, rfl, rfl⟩
theorem closeS_count (s : St) (u : Nat) : (closeS s u).next = s.next ∧ (closeS s u).count ≤ s.count + 1 := by
  unfold closeS
  split
  · exact ⟨rfl, Nat.le_succ _⟩
  · exact ⟨rfl, Nat.le_refl _⟩
theorem Gd.fin {A : Adj} {n : Nat} {s : St} {u e : Nat} {p : List (Nat × Nat)} (h : Gd A n s ((u, e) :: p)) (he : e = (A u).length) : Gd A n (pass (closeS s u) u p) p := by
  obtain ⟨q1, q2, q3⟩ := pass_same (closeS s u) u p
  obtain ⟨r1, r2⟩ := closeS_count s u
  have h1 := h.nx
  have h2 := h.ct
  refine ⟨h.inv.fin he, ?_, ?_⟩
  · rw [wait_ord (s := s) (by rw [q1, ord_closeS]), q2, r1]; exact h1
  · rw [q2, q3, r1]
    simp at h2
    omega

/-! ### the way in memory -/
def cellsF : List (Nat × Nat) → List Value
  | [] => []
  | p :: l => .int .i64 (p.1 : Int) :: .int .i64 (p.2 : Int) :: cellsF l
theorem cellsF_append (a b : List (Nat × Nat)) : cellsF (a ++ b) = cellsF a ++ cellsF b := by
  induction a with
  | nil => rfl
  | cons p l ih => simp [cellsF, ih]
theorem cellsF_length (a : List (Nat × Nat)) : (cellsF a).length = a.length * 2 := by
  induction a with
  | nil => rfl
  | cons p l ih => simp [cellsF, ih]; omega
def PathAt (w : World) (B b cap : Nat) (p : List (Nat × Nat)) : Prop := w.ownsRow B 55 2 (.slice (some ⟨b, 0, none⟩) p.length cap) p.length (cellsF p.reverse)
theorem path_cells (q : List (Nat × Nat)) (a e : Nat) : cellsF ((a, e) :: q).reverse = cellsF q.reverse ++ [.int .i64 (a : Int), .int .i64 (e : Int)] := by
  rw [List.reverse_cons, cellsF_append]; rfl
theorem PathAt.top {w : World} {B b cap a e : Nat} {q : List (Nat × Nat)} (h : PathAt w B b cap ((a, e) :: q)) :
    w.cell? ⟨b, q.length * 2, none⟩ = some (.int .i64 (a : Int)) ∧ w.cell? ⟨b, q.length * 2 + 1, none⟩ = some (.int .i64 (e : Int)) ∧ w.frozen? ⟨b, q.length * 2 + 1, none⟩ = false ∧ q.length + 1 ≤ cap ∧ cap ≤ maxLen := by
  unfold PathAt at h
  rw [path_cells, List.length_cons] at h
  have l := cellsF_length q.reverse
  rw [List.length_reverse] at l
  refine ⟨?_, ?_, h.frozenAt _, ?_⟩
  · rw [h.cellAt _ (by omega), List.getElem?_append_right (by omega), l, Nat.sub_self]; rfl
  · rw [h.cellAt _ (by omega), List.getElem?_append_right (by omega), l, show q.length * 2 + 1 - q.length * 2 = 1 by omega]; rfl
  · rcases h.2 with ⟨_, h0⟩ | ⟨b', cap', cur, h0, hb, hh, h1, h2, h3, h4⟩
    · omega
    · injection h0 with _ _ h0
      subst h0
      exact ⟨h1, h2⟩
theorem PathAt.inc {w : World} {B b cap a e : Nat} {q : List (Nat × Nat)} (h : PathAt w B b cap ((a, e) :: q)) : PathAt (w.setCell ⟨b, q.length * 2 + 1, none⟩ (.int .i64 ((e + 1 : Nat) : Int))) B b cap ((a, e + 1) :: q) := by
  unfold PathAt at h ⊢
  have l := cellsF_length q.reverse
  rw [List.length_reverse] at l
  have := (h.stored (q.length * 2 + 1) (.int .i64 ((e + 1 : Nat) : Int))).1
  rw [path_cells, List.set_append_right _ _ (by omega), l, show q.length * 2 + 1 - q.length * 2 = 1 by omega] at this
  rw [path_cells]
  exact this
theorem PathAt.pop {w : World} {B b cap a e : Nat} {q : List (Nat × Nat)} (h : PathAt w B b cap ((a, e) :: q)) : PathAt w B b cap q := by
  unfold PathAt at h ⊢
  have l := cellsF_length q.reverse
  rw [List.length_reverse] at l
  have := own_cut h q.length (by simp)
  rw [path_cells, List.take_left' l] at this
  exact this
theorem PathAt.stays {w w' : World} {B b cap : Nat} {p : List (Nat × Nat)} {S : Nat → Prop} (h : PathAt w B b cap p) (hk : Kept w w' S) (hb : ¬ S b) : PathAt w' B b cap p :=
  hk.stays.owns h (fun k e => by have e : b = k := Option.some.inj e; subst e; exact hb)
theorem PathAt.lt {w : World} {B b cap : Nat} {p : List (Nat × Nat)} (h : PathAt w B b cap p) : B ≤ b ∧ b < w.heap.size := World.ownsRow.lt h b rfl
theorem info_frame : (Try.prog.info? 55).map (fun i => (i.zero, i.size, i.bytes)) = some (some (.agg #[.int .i64 0, .int .i64 0]), 2, 16) := by kernel_rfl
theorem news2G (w : World) (a b : Value) (T : TypeId) : ∀ j u, [a, b][j]? = some u → (w.alloc (.cells #[a, b] T)).cell? ((⟨w.heap.size, 0, none⟩ : Addr).add j) = some u := by
  intro j u hj
  match j, hj with
  | 0, hj => simp at hj; subst hj; simp [Addr.add]
  | 1, hj => simp at hj; subst hj; simp [Addr.add]
theorem quiet_eqG {P : Program} {f : FuncId} {args : Array Value} {w : World} {n : Nat} {v : Value} (h : Calls P f args (w.drewN n) fun e w' => e = .returned v ∧ w.drewN n = w') : Calls P f args (w.drewN n) fun e w' => e = .returned v ∧ ∃ m, w' = w.drewN m :=
  h.mono fun _ _ ⟨he, hm⟩ => ⟨he, n, hm.symm⟩
end Go.Proofs.Ytcpjlfhehjmfbaa.Gr
