/- The finder's machine, plain: popping the stack; how much is left to do. -/
import Derived.Test.YtcpjlfhehjmfbaaGrP
namespace Go.Proofs.Ytcpjlfhehjmfbaa.Gr
set_option linter.unusedVariables false
set_option linter.unusedSimpArgs false

def popS (s : St) (x : Nat) : St := { s with held := upd s.held x false, comp := upd s.comp x s.count, stack := s.stack.tail }
def popL (s : St) : List Nat → St
  | [] => s
  | x :: l => popL (popS s x) l
theorem popL_snoc (s : St) (l : List Nat) (x : Nat) : popL s (l ++ [x]) = popS (popL s l) x := by
  induction l generalizing s with
  | nil => rfl
  | cons y l ih => exact ih (popS s y)
theorem popL_count (s : St) (l : List Nat) : (popL s l).count = s.count ∧ (popL s l).ord = s.ord ∧ (popL s l).low = s.low ∧ (popL s l).next = s.next := by
  induction l generalizing s with
  | nil => exact ⟨rfl, rfl, rfl, rfl⟩
  | cons y l ih => exact ih (popS s y)
theorem popL_stack (s : St) (l : List Nat) : (popL s l).stack = s.stack.drop l.length := by
  induction l generalizing s with
  | nil => rfl
  | cons y l ih =>
    have := ih (popS s y)
    rw [popL, this]
    show s.stack.tail.drop l.length = _
    rw [List.length_cons, ← List.drop_one, List.drop_drop, Nat.add_comm]
theorem popL_held (s : St) (l : List Nat) (v : Nat) : (popL s l).held v = (s.held v && decide (v ∉ l)) := by
  induction l generalizing s with
  | nil => simp [popL]
  | cons y l ih =>
    rw [popL, ih (popS s y)]
    show (upd s.held y false v && decide (v ∉ l)) = _
    by_cases h : v = y
    · subst h; rw [upd_same]; simp
    · rw [upd_ne _ _ _ h]; simp [h]
theorem popL_comp (s : St) (l : List Nat) (v : Nat) : (popL s l).comp v = if v ∈ l then s.count else s.comp v := by
  induction l generalizing s with
  | nil => simp [popL]
  | cons y l ih =>
    rw [popL, ih (popS s y)]
    show (if v ∈ l then s.count else upd s.comp y s.count v) = _
    by_cases h : v = y
    · subst h; rw [upd_same]; simp
    · rw [upd_ne _ _ _ h]; simp [h]
/-- All that lies above a node on the stack, and the node: popped, it is the node's component. -/
theorem pop_shut {A : Adj} {n : Nat} {s : St} {p : List (Nat × Nat)} (h : Inv A n s p) {u : Nat} {pre rest : List Nat} (hs : s.stack = pre ++ u :: rest) : { popL s (pre ++ [u]) with count := s.count + 1 } = shut s u := by
  have hsrt := h.srt
  rw [hs, List.pairwise_append, List.pairwise_cons] at hsrt
  have hin : ∀ v, v ∈ pre ++ u :: rest ↔ s.held v = true := fun v => by rw [← hs]; exact h.stk v
  have hpre : ∀ v ∈ pre, s.ord u < s.ord v := fun v hv => hsrt.2.2 v hv u (List.mem_cons_self ..)
  have hrest : ∀ v ∈ rest, s.ord v < s.ord u := fun v hv => hsrt.2.1.1 v hv
  have hc := popL_count s (pre ++ [u])
  have hh : (popL s (pre ++ [u])).held = (shut s u).held := by
    funext v
    rw [popL_held]
    show _ = (s.held v && decide (s.ord v < s.ord u))
    cases hv : s.held v with
    | false => rfl
    | true =>
      have hm := (hin v).2 hv
      rcases List.mem_append.1 hm with q | q
      · have := hpre v q
        rw [decide_eq_false (show ¬ (v ∉ pre ++ [u]) by simp [q]), decide_eq_false (by omega)]
      · rcases List.mem_cons.1 q with q | q
        · subst q
          rw [decide_eq_false (show ¬ (v ∉ pre ++ [v]) by simp), decide_eq_false (by omega)]
        · have h1 := hrest v q
          have h2 : v ∉ pre ++ [u] := fun k => by
            rcases List.mem_append.1 k with k | k
            · have := hpre v k; omega
            · rw [List.mem_singleton] at k; subst k; omega
          rw [decide_eq_true h2, decide_eq_true h1]
  have hk : (popL s (pre ++ [u])).comp = (shut s u).comp := by
    funext v
    rw [popL_comp]
    show _ = if s.held v = true ∧ s.ord u ≤ s.ord v then s.count else s.comp v
    by_cases q : v ∈ pre ++ [u]
    · rw [if_pos q, if_pos]
      have hv : v ∈ pre ++ u :: rest := by
        rcases List.mem_append.1 q with q | q
        · exact List.mem_append_left _ q
        · rw [List.mem_singleton] at q; subst q; exact List.mem_append_right _ (List.mem_cons_self ..)
      refine ⟨(hin v).1 hv, ?_⟩
      rcases List.mem_append.1 q with q | q
      · have := hpre v q; omega
      · rw [List.mem_singleton] at q; subst q; exact Nat.le_refl _
    · rw [if_neg q, if_neg]
      rintro ⟨k1, k2⟩
      rcases List.mem_append.1 ((hin v).2 k1) with k | k
      · exact q (List.mem_append_left _ k)
      · rcases List.mem_cons.1 k with k | k
        · subst k; exact q (by simp)
        · have := hrest v k; omega
  have ht : (popL s (pre ++ [u])).stack = (shut s u).stack := by
    rw [popL_stack, hs]
    show _ = List.filter (fun v => decide (s.ord v < s.ord u)) s.stack
    rw [hs, List.filter_append, List.filter_cons, if_neg (by simp)]
    have e1 : List.filter (fun v => decide (s.ord v < s.ord u)) pre = [] := by
      rw [List.filter_eq_nil_iff]
      intro v hv
      have := hpre v hv
      simp; omega
    have e2 : List.filter (fun v => decide (s.ord v < s.ord u)) rest = rest := by
      rw [List.filter_eq_self]
      intro v hv
      have := hrest v hv
      simpa using this
    rw [e1, e2, List.nil_append, show (pre ++ [u]).length = pre.length + 1 by simp, show pre ++ u :: rest = (pre ++ [u]) ++ rest by simp]
    rw [List.drop_left' (by simp)]
  have e : ∀ a b : St, a.ord = b.ord → a.low = b.low → a.held = b.held → a.comp = b.comp → a.stack = b.stack → a.next = b.next → a.count = b.count → a = b := by
    rintro ⟨⟩ ⟨⟩ h1 h2 h3 h4 h5 h6 h7
    simp only at h1 h2 h3 h4 h5 h6 h7
    subst h1; subst h2; subst h3; subst h4; subst h5; subst h6; subst h7
    rfl
  exact e _ _ hc.2.1 hc.2.2.1 hh hk ht hc.2.2.2 rfl

/-! ### how much is left to do -/
def wait (A : Adj) (s : St) : List Nat → Nat
  | [] => 0
  | v :: l => (if s.ord v = 0 then (A v).length + 1 else 0) + wait A s l
def left (A : Adj) : List (Nat × Nat) → Nat
  | [] => 0
  | f :: p => ((A f.1).length - f.2 + 1) + left A p
theorem wait_ord {A : Adj} {s s' : St} (h : s'.ord = s.ord) : ∀ l, wait A s' l = wait A s l
  | [] => rfl
  | v :: l => by rw [wait, wait, h, wait_ord h l]
theorem wait_other {A : Adj} {s : St} {t : Nat} : ∀ l, t ∉ l → wait A (meet s t) l = wait A s l
  | [], _ => rfl
  | v :: l, h => by
    rw [wait, wait, wait_other l (fun k => h (List.mem_cons_of_mem _ k))]
    have : v ≠ t := fun e => h (e ▸ List.mem_cons_self ..)
    show (if upd s.ord t (s.next + 1) v = 0 then _ else _) + _ = _
    rw [upd_ne _ _ _ this]
theorem wait_meet {A : Adj} {s : St} {t : Nat} (h0 : s.ord t = 0) : ∀ l : List Nat, l.Nodup → t ∈ l → wait A (meet s t) l + ((A t).length + 1) = wait A s l
  | [], _, h => by simp at h
  | v :: l, hn, h => by
    rw [List.nodup_cons] at hn
    rcases List.mem_cons.1 h with e | e
    · subst e
      rw [wait, wait, wait_other l hn.1, h0, if_pos rfl]
      show (if upd s.ord t (s.next + 1) t = 0 then _ else _) + _ + _ = _
      rw [upd_same, if_neg (by omega)]
      omega
    · rw [wait, wait, ← wait_meet h0 l hn.2 e]
      have : v ≠ t := fun q => hn.1 (q ▸ e)
      show (if upd s.ord t (s.next + 1) v = 0 then _ else _) + _ + _ = _
      rw [upd_ne _ _ _ this]
      omega
def todo (A : Adj) (n : Nat) (s : St) (p : List (Nat × Nat)) : Nat := wait A s (List.range n) + left A p
theorem todo_go {A : Adj} {n : Nat} {s : St} {u e t : Nat} {p : List (Nat × Nat)} (h0 : s.ord t = 0) (hn : t < n) (he : e < (A u).length) : todo A n (meet s t) ((t, 0) :: (u, e + 1) :: p) < todo A n s ((u, e) :: p) := by
  unfold todo
  have := wait_meet (A := A) h0 (List.range n) List.nodup_range (List.mem_range.2 hn)
  simp only [left]
  omega
theorem todo_skip {A : Adj} {n : Nat} {s s' : St} {u e : Nat} {p : List (Nat × Nat)} (hs : s'.ord = s.ord) (he : e < (A u).length) : todo A n s' ((u, e + 1) :: p) < todo A n s ((u, e) :: p) := by
  unfold todo
  rw [wait_ord hs]
  simp only [left]
  omega
theorem todo_fin {A : Adj} {n : Nat} {s s' : St} {u e : Nat} {p : List (Nat × Nat)} (hs : s'.ord = s.ord) : todo A n s' p < todo A n s ((u, e) :: p) := by
  unfold todo
  rw [wait_ord hs]
  simp only [left]
  omega
theorem ord_closeS (s : St) (u : Nat) : (closeS s u).ord = s.ord := by
  unfold closeS
  split <;> rfl
end Go.Proofs.Ytcpjlfhehjmfbaa.Gr
