/- Tarjan's way of finding components, as a machine over functions: what holds at each step. Plain: no program in sight. -/
namespace Go.Proofs.Ytcpjlfhehjmfbaa.Gr
set_option linter.unusedVariables false

def upd {α : Type} (f : Nat → α) (i : Nat) (x : α) : Nat → α := fun j => if j = i then x else f j
theorem upd_same {α : Type} (f : Nat → α) (i : Nat) (x : α) : upd f i x i = x := by simp [upd]
theorem upd_ne {α : Type} (f : Nat → α) (i : Nat) (x : α) {j : Nat} (h : j ≠ i) : upd f i x j = f j := by simp [upd, h]

/-- Where each edge of a node leads; none: to no node. -/
abbrev Adj := Nat → List (Option Nat)
def Edge (A : Adj) (a b : Nat) : Prop := some b ∈ A a
inductive R (A : Adj) : Nat → Nat → Prop
  | refl (a : Nat) : R A a a
  | tail {a b c : Nat} : R A a b → Edge A b c → R A a c
theorem R.edge {A : Adj} {a b : Nat} (h : Edge A a b) : R A a b := .tail (.refl a) h
theorem R.trans {A : Adj} {a b c : Nat} (h : R A a b) (k : R A b c) : R A a c := by
  induction k with
  | refl => exact h
  | tail _ he ih => exact .tail ih he
/-- What holds of a node and along edges holds of all that it leads to. -/
theorem R.keeps {A : Adj} {a b : Nat} {Q : Nat → Prop} (h : R A a b) (ha : Q a) (hs : ∀ x y, Q x → Edge A x y → Q y) : Q b := by
  induction h with
  | refl => exact ha
  | tail _ he ih => exact hs _ _ ih he

structure St where
  ord : Nat → Nat
  low : Nat → Nat
  held : Nat → Bool
  comp : Nat → Nat
  stack : List Nat
  next : Nat
  count : Nat

structure Inv (A : Adj) (n : Nat) (s : St) (p : List (Nat × Nat)) : Prop where
  lt : ∀ v, 0 < s.ord v → v < n ∧ s.ord v ≤ s.next
  inj : ∀ u v, 0 < s.ord u → s.ord u = s.ord v → u = v
  heldMet : ∀ v, s.held v = true → 0 < s.ord v
  stk : ∀ v, v ∈ s.stack ↔ s.held v = true
  srt : s.stack.Pairwise (fun a b => s.ord b < s.ord a)
  psrt : p.Pairwise (fun a b => s.ord b.1 < s.ord a.1)
  plen : ∀ f ∈ p, f.2 ≤ (A f.1).length
  pheld : ∀ f ∈ p, s.held f.1 = true
  reach : ∀ f ∈ p, ∀ v, s.held v = true → s.ord f.1 ≤ s.ord v → R A f.1 v
  black : ∀ v, 0 < s.ord v → (∀ f ∈ p, f.1 ≠ v) → ∀ t, Edge A v t → 0 < s.ord t
  grey : ∀ f ∈ p, ∀ i t, i < f.2 → (A f.1)[i]? = some (some t) → 0 < s.ord t
  clos : ∀ v t, 0 < s.ord v → s.held v = false → Edge A v t → 0 < s.ord t ∧ s.held t = false
  cmpLt : ∀ v, 0 < s.ord v → s.held v = false → s.comp v < s.count
  cmpEx : ∀ c, c < s.count → ∃ v, 0 < s.ord v ∧ s.held v = false ∧ s.comp v = c
  cmpEq : ∀ v w, 0 < s.ord v → s.held v = false → 0 < s.ord w → s.held w = false → (s.comp v = s.comp w ↔ R A v w ∧ R A w v)
  lowLe : ∀ v, s.held v = true → s.low v ≤ s.ord v
  lowEx : ∀ v, s.held v = true → ∃ w, s.held w = true ∧ s.low v = s.ord w ∧ R A v w
  blow : ∀ v, s.held v = true → (∀ f ∈ p, f.1 ≠ v) → s.low v < s.ord v
  base : ∀ v, s.held v = true → ∃ f ∈ p, s.ord f.1 ≤ s.ord v
  bound : ∀ f ∈ p, ∀ a b, s.held a = true → s.held b = true → s.ord f.1 ≤ s.ord a → (∀ g ∈ p, s.ord g.1 ≤ s.ord a → s.ord g.1 ≤ s.ord f.1) →
    (a = f.1 → ∃ i, i < f.2 ∧ (A f.1)[i]? = some (some b)) → (a ≠ f.1 → Edge A a b) → s.low f.1 ≤ s.ord b

def meet (s : St) (t : Nat) : St := { s with next := s.next + 1, ord := upd s.ord t (s.next + 1), low := upd s.low t (s.next + 1), held := upd s.held t true, stack := t :: s.stack }

theorem edge_at {A : Adj} {u i t : Nat} (h : (A u)[i]? = some (some t)) : Edge A u t := List.mem_of_getElem? h
theorem at_edge {A : Adj} {u t : Nat} (h : Edge A u t) : ∃ i, i < (A u).length ∧ (A u)[i]? = some (some t) := by
  obtain ⟨i, hi, h⟩ := List.mem_iff_getElem.1 h
  exact ⟨i, hi, by rw [List.getElem?_eq_getElem hi, h]⟩

/-- An edge that leads nowhere, or into what is closed. -/
theorem Inv.skip {A : Adj} {n : Nat} {s : St} {u e : Nat} {p : List (Nat × Nat)} (h : Inv A n s ((u, e) :: p)) (he : e < (A u).length)
    (ht : ∀ t, (A u)[e]? = some (some t) → 0 < s.ord t ∧ s.held t = false) : Inv A n s ((u, e + 1) :: p) where
  lt := h.lt
  inj := h.inj
  heldMet := h.heldMet
  stk := h.stk
  srt := h.srt
  psrt := by have := h.psrt; rw [List.pairwise_cons] at this ⊢; exact this
  plen := fun f hf => by
    rcases List.mem_cons.1 hf with rfl | hf
    · exact he
    · exact h.plen f (List.mem_cons_of_mem _ hf)
  pheld := fun f hf => by
    rcases List.mem_cons.1 hf with rfl | hf
    · exact h.pheld (u, e) (by simp)
    · exact h.pheld f (List.mem_cons_of_mem _ hf)
  reach := fun f hf => by
    rcases List.mem_cons.1 hf with rfl | hf
    · exact h.reach (u, e) (by simp)
    · exact h.reach f (List.mem_cons_of_mem _ hf)
  black := fun v hv hn => h.black v hv fun f hf => by
    rcases List.mem_cons.1 hf with rfl | hf
    · exact hn (u, e + 1) (by simp)
    · exact hn f (List.mem_cons_of_mem _ hf)
  grey := fun f hf i t hi hit => by
    rcases List.mem_cons.1 hf with rfl | hf
    · by_cases q : i = e
      · subst q; exact (ht t hit).1
      · exact h.grey (u, e) (by simp) i t (by simp at hi; omega) hit
    · exact h.grey f (List.mem_cons_of_mem _ hf) i t hi hit
  clos := h.clos
  cmpLt := h.cmpLt
  cmpEx := h.cmpEx
  cmpEq := h.cmpEq
  lowLe := h.lowLe
  lowEx := h.lowEx
  blow := fun v hv hn => h.blow v hv fun f hf => by
    rcases List.mem_cons.1 hf with rfl | hf
    · exact hn (u, e + 1) (by simp)
    · exact hn f (List.mem_cons_of_mem _ hf)
  base := fun v hv => by
    obtain ⟨f, hf, h1⟩ := h.base v hv
    rcases List.mem_cons.1 hf with rfl | hf
    · exact ⟨(u, e + 1), by simp, h1⟩
    · exact ⟨f, List.mem_cons_of_mem _ hf, h1⟩
  bound := fun f hf a b ha hb h1 h2 h3 h4 => by
    have h2' : ∀ g ∈ (u, e) :: p, s.ord g.1 ≤ s.ord a → s.ord g.1 ≤ s.ord f.1 := fun g hg => by
      rcases List.mem_cons.1 hg with rfl | hg
      · exact h2 (u, e + 1) (by simp)
      · exact h2 g (List.mem_cons_of_mem _ hg)
    rcases List.mem_cons.1 hf with rfl | hf
    · refine h.bound (u, e) (by simp) a b ha hb h1 h2' (fun q => ?_) h4
      obtain ⟨i, hi, hit⟩ := h3 q
      by_cases q2 : i = e
      · subst q2; have := (ht b hit).2; rw [hb] at this; cases this
      · exact ⟨i, by simp at hi ⊢; omega, hit⟩
    · exact h.bound f (List.mem_cons_of_mem _ hf) a b ha hb h1 h2' h3 h4
theorem mem_cons2 {p : List (Nat × Nat)} {f x : Nat × Nat} (hf : f ∈ x :: p) : f = x ∨ f ∈ p := List.mem_cons.1 hf
/-- An edge to what is held. -/
theorem Inv.back {A : Adj} {n : Nat} {s : St} {u e t : Nat} {p : List (Nat × Nat)} (h : Inv A n s ((u, e) :: p)) (he : (A u)[e]? = some (some t)) (ht : s.held t = true) :
    Inv A n { s with low := upd s.low u (min (s.low u) (s.ord t)) } ((u, e + 1) :: p) := by
  have hl : e < (A u).length := (List.getElem?_eq_some_iff.1 he).1
  have hmt := h.heldMet t ht
  have hu := h.pheld (u, e) (by simp)
  simp only at hu
  have hll : ∀ v, upd s.low u (min (s.low u) (s.ord t)) v ≤ s.low v := fun v => by unfold upd; split <;> grind
  refine ⟨h.lt, h.inj, h.heldMet, h.stk, h.srt, ?_, ?_, ?_, ?_, ?_, ?_, h.clos, h.cmpLt, h.cmpEx, h.cmpEq, ?_, ?_, ?_, ?_, ?_⟩
  · have := h.psrt; rw [List.pairwise_cons] at this ⊢; exact this
  · intro f hf
    rcases mem_cons2 hf with rfl | hf
    · exact hl
    · exact h.plen f (List.mem_cons_of_mem _ hf)
  · intro f hf
    rcases mem_cons2 hf with rfl | hf
    · exact h.pheld (u, e) (by simp)
    · exact h.pheld f (List.mem_cons_of_mem _ hf)
  · intro f hf
    rcases mem_cons2 hf with rfl | hf
    · exact h.reach (u, e) (by simp)
    · exact h.reach f (List.mem_cons_of_mem _ hf)
  · intro v hv hn
    exact h.black v hv fun f hf => by
      rcases mem_cons2 hf with rfl | hf
      · exact hn (u, e + 1) (by simp)
      · exact hn f (List.mem_cons_of_mem _ hf)
  · intro f hf i t2 hi hit
    rcases mem_cons2 hf with rfl | hf
    · by_cases q : i = e
      · subst q; simp only at hit; rw [he] at hit; cases hit; exact hmt
      · exact h.grey (u, e) (by simp) i t2 (by simp at hi; omega) hit
    · exact h.grey f (List.mem_cons_of_mem _ hf) i t2 hi hit
  · intro v hv
    exact Nat.le_trans (hll v) (h.lowLe v hv)
  · intro v hv
    simp only
    by_cases q : v = u
    · subst q
      rw [upd_same]
      by_cases q2 : s.low v ≤ s.ord t
      · rw [Nat.min_eq_left q2]; exact h.lowEx v hv
      · rw [Nat.min_eq_right (by omega)]; exact ⟨t, ht, rfl, .edge (edge_at he)⟩
    · rw [upd_ne _ _ _ q]; exact h.lowEx v hv
  · intro v hv hn
    refine Nat.lt_of_le_of_lt (hll v) (h.blow v hv fun f hf => ?_)
    rcases mem_cons2 hf with rfl | hf
    · exact hn (u, e + 1) (by simp)
    · exact hn f (List.mem_cons_of_mem _ hf)
  · intro v hv
    obtain ⟨f, hf, h1⟩ := h.base v hv
    rcases mem_cons2 hf with rfl | hf
    · exact ⟨(u, e + 1), by simp, h1⟩
    · exact ⟨f, List.mem_cons_of_mem _ hf, h1⟩
  · intro f hf a b ha hb h1 h2 h3 h4
    have h2' : ∀ g ∈ (u, e) :: p, s.ord g.1 ≤ s.ord a → s.ord g.1 ≤ s.ord f.1 := fun g hg => by
      rcases mem_cons2 hg with rfl | hg
      · exact h2 (u, e + 1) (by simp)
      · exact h2 g (List.mem_cons_of_mem _ hg)
    rcases mem_cons2 hf with rfl | hf
    · by_cases q : b = t
      · subst q; simp only; rw [upd_same]; exact Nat.min_le_right _ _
      · refine Nat.le_trans (hll u) (h.bound (u, e) (by simp) a b ha hb h1 h2' (fun qq => ?_) h4)
        obtain ⟨i, hi, hit⟩ := h3 qq
        by_cases q2 : i = e
        · subst q2; simp only at hit; rw [he] at hit; cases hit; exact absurd rfl q
        · exact ⟨i, by simp at hi ⊢; omega, hit⟩
    · exact Nat.le_trans (hll f.1) (h.bound f (List.mem_cons_of_mem _ hf) a b ha hb h1 h2' h3 h4)

/-- A node is met. -/
theorem Inv.meet {A : Adj} {n : Nat} {s : St} {t : Nat} {p q : List (Nat × Nat)} (h : Inv A n s p) (h0 : s.ord t = 0) (hn : t < n)
    (hq : ∀ f ∈ q, ∃ e, (f.1, e) ∈ p) (hq2 : ∀ f ∈ p, ∃ e, (f.1, e) ∈ q) (hqs : q.Pairwise (fun a b => s.ord b.1 < s.ord a.1)) (hql : ∀ f ∈ q, f.2 ≤ (A f.1).length)
    (hstep : ∀ f ∈ q, ∀ i b, i < f.2 → (A f.1)[i]? = some (some b) → b = t ∨ ∃ e, (f.1, e) ∈ p ∧ i < e) (hreach : ∀ f ∈ p, R A f.1 t) : Inv A n (meet s t) ((t, 0) :: q) := by
  have nh : s.held t = false := by
    cases hh : s.held t with
    | false => rfl
    | true => have := h.heldMet t hh; omega
  have np : ∀ f ∈ p, f.1 ≠ t := fun f hf e => by have := h.pheld f hf; rw [e, nh] at this; cases this
  have nq : ∀ f ∈ q, f.1 ≠ t := fun f hf => by obtain ⟨e, he⟩ := hq f hf; exact np (f.1, e) he
  have qheld : ∀ f ∈ q, s.held f.1 = true := fun f hf => by obtain ⟨e, he⟩ := hq f hf; exact h.pheld (f.1, e) he
  have ordle : ∀ v, s.ord v ≤ s.next := fun v => by
    by_cases c : 0 < s.ord v
    · exact (h.lt v c).2
    · omega
  have o1 : ∀ v, v ≠ t → upd s.ord t (s.next + 1) v = s.ord v := fun v c => upd_ne _ _ _ c
  have o2 : upd s.ord t (s.next + 1) t = s.next + 1 := upd_same _ _ _
  have l1 : ∀ v, v ≠ t → upd s.low t (s.next + 1) v = s.low v := fun v c => upd_ne _ _ _ c
  have l2 : upd s.low t (s.next + 1) t = s.next + 1 := upd_same _ _ _
  have e1 : ∀ v, v ≠ t → upd s.held t true v = s.held v := fun v c => upd_ne _ _ _ c
  have e2 : upd s.held t true t = true := upd_same _ _ _
  have mono : ∀ v, 0 < s.ord v → 0 < upd s.ord t (s.next + 1) v := fun v hv => by rw [o1 v (fun c => by subst c; omega)]; exact hv
  unfold Gr.meet
  refine ⟨?_, ?_, ?_, ?_, ?_, ?_, ?_, ?_, ?_, ?_, ?_, ?_, ?_, ?_, ?_, ?_, ?_, ?_, ?_, ?_⟩ <;> (try simp only)
  · intro v hv
    by_cases c : v = t
    · subst c; rw [o2]; exact ⟨hn, Nat.le_refl _⟩
    · rw [o1 v c] at hv ⊢; exact ⟨(h.lt v hv).1, by have := (h.lt v hv).2; omega⟩
  · intro u v hu he
    by_cases c : u = t
    · by_cases d : v = t
      · rw [c, d]
      · rw [c, o2, o1 v d] at he; have := ordle v; omega
    · by_cases d : v = t
      · rw [d, o2, o1 u c] at he; have := ordle u; omega
      · rw [o1 u c] at hu he; rw [o1 v d] at he; exact h.inj u v hu he
  · intro v hv
    by_cases c : v = t
    · subst c; rw [o2]; omega
    · rw [e1 v c] at hv; exact mono v (h.heldMet v hv)
  · intro v
    by_cases c : v = t
    · subst c; simp [e2]
    · rw [e1 v c, List.mem_cons]; simp [c, h.stk v]
  · rw [List.pairwise_cons]
    refine ⟨fun v hv => ?_, h.srt.imp_of_mem ?_⟩
    · have c : v ≠ t := fun c => by have := (h.stk v).1 hv; rw [c, nh] at this; cases this
      rw [o1 v c, o2]; have := ordle v; omega
    · intro a b ha hb hab
      have ca : a ≠ t := fun c => by have := (h.stk a).1 ha; rw [c, nh] at this; cases this
      have cb : b ≠ t := fun c => by have := (h.stk b).1 hb; rw [c, nh] at this; cases this
      rw [o1 a ca, o1 b cb]; exact hab
  · rw [List.pairwise_cons]
    refine ⟨fun f hf => ?_, hqs.imp_of_mem ?_⟩
    · simp only; rw [o1 _ (nq f hf), o2]; have := ordle f.1; omega
    · intro a b ha hb hab
      rw [o1 _ (nq a ha), o1 _ (nq b hb)]; exact hab
  · intro f hf
    rcases mem_cons2 hf with rfl | hf
    · exact Nat.zero_le _
    · exact hql f hf
  · intro f hf
    rcases mem_cons2 hf with rfl | hf
    · exact e2
    · rw [e1 _ (nq f hf)]; exact qheld f hf
  · intro f hf0 v hv hle
    rcases mem_cons2 hf0 with rfl | hf
    · simp only at hle ⊢
      by_cases c : v = t
      · subst c; exact .refl _
      · rw [o1 v c, o2] at hle; have := ordle v; omega
    · by_cases c : v = t
      · rw [c]; obtain ⟨e, he⟩ := hq f hf; exact hreach (f.1, e) he
      · rw [e1 v c] at hv; rw [o1 v c, o1 _ (nq f hf)] at hle
        obtain ⟨e, he⟩ := hq f hf
        exact h.reach _ he v hv hle
  · intro v hv hnp b hb
    have c : v ≠ t := fun c => hnp (t, 0) (by simp) c.symm
    rw [o1 v c] at hv
    refine mono b (h.black v hv (fun f hf c2 => ?_) b hb)
    obtain ⟨e, he⟩ := hq2 f hf
    exact hnp (f.1, e) (by simp [he]) c2
  · intro f hf i b hi hib
    rcases mem_cons2 hf with rfl | hf
    · simp at hi
    · rcases hstep f hf i b hi hib with c | ⟨e, he, hie⟩
      · subst c; rw [o2]; omega
      · exact mono b (h.grey _ he i b hie hib)
  · intro v b hv hh hb
    have c : v ≠ t := fun c => by rw [c, e2] at hh; cases hh
    rw [o1 v c] at hv; rw [e1 v c] at hh
    obtain ⟨q1, q2⟩ := h.clos v b hv hh hb
    have d : b ≠ t := fun d => by rw [d] at q1; omega
    rw [o1 b d, e1 b d]; exact ⟨q1, q2⟩
  · intro v hv hh
    have c : v ≠ t := fun c => by rw [c, e2] at hh; cases hh
    rw [o1 v c] at hv; rw [e1 v c] at hh
    exact h.cmpLt v hv hh
  · intro c hc
    obtain ⟨v, q1, q2, q3⟩ := h.cmpEx c hc
    have d : v ≠ t := fun d => by rw [d] at q1; omega
    exact ⟨v, by rw [o1 v d]; exact q1, by rw [e1 v d]; exact q2, q3⟩
  · intro v x hv hh hx hk
    have c : v ≠ t := fun c => by rw [c, e2] at hh; cases hh
    have d : x ≠ t := fun c => by rw [c, e2] at hk; cases hk
    rw [o1 v c] at hv; rw [e1 v c] at hh; rw [o1 x d] at hx; rw [e1 x d] at hk
    exact h.cmpEq v x hv hh hx hk
  · intro v hv
    by_cases c : v = t
    · subst c; rw [o2, l2]; omega
    · rw [e1 v c] at hv; rw [o1 v c, l1 v c]; exact h.lowLe v hv
  · intro v hv
    by_cases c : v = t
    · subst c; exact ⟨v, e2, by rw [o2, l2], .refl _⟩
    · rw [e1 v c] at hv
      obtain ⟨x, q1, q2, q3⟩ := h.lowEx v hv
      have d : x ≠ t := fun d => by rw [d, nh] at q1; cases q1
      exact ⟨x, by rw [e1 x d]; exact q1, by rw [l1 v c, o1 x d]; exact q2, q3⟩
  · intro v hv hnp
    have c : v ≠ t := fun c => hnp (t, 0) (by simp) c.symm
    rw [e1 v c] at hv; rw [o1 v c, l1 v c]
    refine h.blow v hv fun f hf c2 => ?_
    obtain ⟨e, he⟩ := hq2 f hf
    exact hnp (f.1, e) (by simp [he]) c2
  · intro v hv
    by_cases c : v = t
    · subst c; exact ⟨(v, 0), by simp, Nat.le_refl _⟩
    · rw [e1 v c] at hv
      obtain ⟨f, hf, q1⟩ := h.base v hv
      obtain ⟨e, he⟩ := hq2 f hf
      exact ⟨(f.1, e), by simp [he], by simp only; rw [o1 v c, o1 _ (np f hf)]; exact q1⟩
  · intro f hf a b ha hb h1 h2 h3 h4
    rcases mem_cons2 hf with rfl | hf
    · simp only at h1 h3 h4 ⊢
      have c : a = t := by
        by_cases c : a = t
        · exact c
        · rw [o1 a c, o2] at h1; have := ordle a; omega
      obtain ⟨i, hi, _⟩ := h3 c
      omega
    · have ca : a ≠ t := fun c => by
        have := h2 (t, 0) (by simp) (by simp only; rw [c]; exact Nat.le_refl _)
        simp only at this
        rw [o2, o1 _ (nq f hf)] at this
        have := ordle f.1; omega
      rw [l1 _ (nq f hf)]
      by_cases cb : b = t
      · rw [cb, o2]
        have := h.lowLe f.1 (qheld f hf)
        have := ordle f.1
        omega
      · rw [o1 b cb]
        rw [e1 a ca] at ha; rw [e1 b cb] at hb
        rw [o1 a ca, o1 _ (nq f hf)] at h1
        obtain ⟨ef, hef⟩ := hq f hf
        refine h.bound (f.1, ef) hef a b ha hb h1 (fun g hg hga => ?_) (fun c => ?_) h4
        · obtain ⟨e, he⟩ := hq2 g hg
          have := h2 (g.1, e) (by simp [he]) (by simp only; rw [o1 _ (np g hg), o1 a ca]; exact hga)
          simp only at this
          rw [o1 _ (np g hg), o1 _ (nq f hf)] at this
          exact this
        · obtain ⟨i, hi, hib⟩ := h3 c
          rcases hstep f hf i b hi hib with c2 | ⟨e, he, hie⟩
          · exact absurd c2 cb
          · have : e = ef := by
              have hp := h.psrt
              by_cases q : e = ef
              · exact q
              · exfalso
                have : ∀ {l : List (Nat × Nat)}, l.Pairwise (fun a b => s.ord b.1 < s.ord a.1) → (f.1, e) ∈ l → (f.1, ef) ∈ l → False := by
                  intro l hl m1 m2
                  induction l with
                  | nil => cases m1
                  | cons x l ih =>
                    rw [List.pairwise_cons] at hl
                    rcases mem_cons2 m1 with m1 | m1 <;> rcases mem_cons2 m2 with m2 | m2
                    · rw [← m1] at m2; injection m2 with _ m2; exact q m2.symm
                    · have := hl.1 _ m2; rw [← m1] at this; simp at this
                    · have := hl.1 _ m1; rw [← m2] at this; simp at this
                    · exact ih hl.2 m1 m2
                exact this hp he hef
            subst this
            exact ⟨i, hie, hib⟩
/-- A component is whole: all that is held from u on is closed. -/
def shut (s : St) (u : Nat) : St := { s with
  held := fun v => s.held v && decide (s.ord v < s.ord u)
  comp := fun v => if s.held v = true ∧ s.ord u ≤ s.ord v then s.count else s.comp v
  stack := s.stack.filter (fun v => decide (s.ord v < s.ord u))
  count := s.count + 1 }
def closeS (s : St) (u : Nat) : St := if s.low u ≠ s.ord u then s else shut s u
/-- The low number goes on to the node ahead. -/
def pass (s : St) (u : Nat) : List (Nat × Nat) → St
  | [] => s
  | (q, _) :: _ => { s with low := upd s.low q (min (s.low q) (s.low u)) }

/-- What the first node of the way still holds: its edges go into what is held from it on, or into what is closed. -/
theorem Inv.inside {A : Adj} {n : Nat} {s : St} {u e : Nat} {p : List (Nat × Nat)} (h : Inv A n s ((u, e) :: p)) (he : e = (A u).length) (hl : s.low u = s.ord u) {v t : Nat} (hv : 0 < s.ord v) (hc : s.held v = false ∨ s.ord u ≤ s.ord v) (ht : Edge A v t) :
    0 < s.ord t ∧ (s.held t = false ∨ s.ord u ≤ s.ord t) := by
  have hp := h.psrt
  rw [List.pairwise_cons] at hp
  cases hh : s.held v with
  | false => have := h.clos v t hv hh ht; exact ⟨this.1, .inl this.2⟩
  | true =>
    have hc : s.ord u ≤ s.ord v := hc.resolve_left (by rw [hh]; simp)
    have hmt : 0 < s.ord t := by
      by_cases q : v = u
      · subst q
        obtain ⟨i, hi, hit⟩ := at_edge ht
        exact h.grey (v, e) (by simp) i t (by simp; omega) hit
      · refine h.black v hv (fun f hf c => ?_) t ht
        rcases mem_cons2 hf with rfl | hf
        · exact q c.symm
        · have := hp.1 f hf; simp only at this; rw [c] at this; omega
    refine ⟨hmt, ?_⟩
    cases hk : s.held t with
    | false => exact .inl rfl
    | true =>
      right
      rw [← hl]
      refine h.bound (u, e) (by simp) v t hh hk hc (fun g hg _ => ?_) (fun q => ?_) (fun _ => ht)
      · rcases mem_cons2 hg with rfl | hg
        · exact Nat.le_refl _
        · have := hp.1 g hg; simp only at this ⊢; omega
      · simp only at q; rw [q] at ht
        obtain ⟨i, hi, hit⟩ := at_edge ht
        exact ⟨i, by simp; omega, hit⟩
theorem Inv.insideR {A : Adj} {n : Nat} {s : St} {u e : Nat} {p : List (Nat × Nat)} (h : Inv A n s ((u, e) :: p)) (he : e = (A u).length) (hl : s.low u = s.ord u) {v t : Nat} (hv : 0 < s.ord v) (hc : s.held v = false ∨ s.ord u ≤ s.ord v) (ht : R A v t) :
    0 < s.ord t ∧ (s.held t = false ∨ s.ord u ≤ s.ord t) :=
  ht.keeps (Q := fun t => 0 < s.ord t ∧ (s.held t = false ∨ s.ord u ≤ s.ord t)) ⟨hv, hc⟩ (fun x y hx hxy => h.inside he hl hx.1 hx.2 hxy)
theorem Inv.closR {A : Adj} {n : Nat} {s : St} {p : List (Nat × Nat)} (h : Inv A n s p) {v t : Nat} (hv : 0 < s.ord v) (hh : s.held v = false) (ht : R A v t) : 0 < s.ord t ∧ s.held t = false :=
  ht.keeps (Q := fun t => 0 < s.ord t ∧ s.held t = false) ⟨hv, hh⟩ (fun x y hx hxy => h.clos x y hx.1 hx.2 hxy)
theorem Inv.toTop {A : Adj} {n : Nat} {s : St} {u e : Nat} {p : List (Nat × Nat)} (h : Inv A n s ((u, e) :: p)) (he : e = (A u).length) (hl : s.low u = s.ord u) : ∀ (k v : Nat), s.ord v ≤ k → s.held v = true → s.ord u ≤ s.ord v → R A v u := by
  have hp := h.psrt
  rw [List.pairwise_cons] at hp
  intro k
  induction k with
  | zero => intro v hk hv; have := h.heldMet v hv; omega
  | succ k ih =>
    intro v hk hv hle
    by_cases q : v = u
    · subst q; exact .refl _
    · have hb := h.blow v hv (fun f hf c => by
        rcases mem_cons2 hf with rfl | hf
        · exact q c.symm
        · have := hp.1 f hf; simp only at this; rw [c] at this; omega)
      obtain ⟨w, q1, q2, q3⟩ := h.lowEx v hv
      have := (h.insideR he hl (h.heldMet v hv) (.inr hle) q3).2.resolve_left (by rw [q1]; simp)
      exact q3.trans (ih w (by omega) q1 this)

theorem Inv.shut {A : Adj} {n : Nat} {s : St} {u e : Nat} {p : List (Nat × Nat)} (h : Inv A n s ((u, e) :: p)) (he : e = (A u).length) (hl : s.low u = s.ord u) : Inv A n (shut s u) p := by
  have hp := h.psrt
  rw [List.pairwise_cons] at hp
  have hu := h.pheld (u, e) (by simp)
  have hum := h.heldMet u hu
  have hd : ∀ v, (s.held v && decide (s.ord v < s.ord u)) = true ↔ s.held v = true ∧ s.ord v < s.ord u := fun v => by simp
  have hd2 : ∀ v, 0 < s.ord v → ((s.held v && decide (s.ord v < s.ord u)) = false ↔ s.held v = false ∨ s.ord u ≤ s.ord v) := fun v _ => by
    cases s.held v <;> simp
  have hord : ∀ f ∈ p, s.ord f.1 < s.ord u := fun f hf => hp.1 f hf
  unfold Gr.shut
  refine ⟨h.lt, h.inj, ?_, ?_, ?_, hp.2, ?_, ?_, ?_, ?_, ?_, ?_, ?_, ?_, ?_, ?_, ?_, ?_, ?_, ?_⟩ <;> (try simp only)
  · intro v hv; exact h.heldMet v ((hd v).1 hv).1
  · intro v; rw [List.mem_filter, h.stk v]; simp
  · exact h.srt.filter _
  · exact fun f hf => h.plen f (List.mem_cons_of_mem _ hf)
  · intro f hf; exact (hd _).2 ⟨h.pheld f (List.mem_cons_of_mem _ hf), hord f hf⟩
  · intro f hf v hv hle; exact h.reach f (List.mem_cons_of_mem _ hf) v ((hd v).1 hv).1 hle
  · intro v hv hnp t ht
    by_cases q : v = u
    · subst q; exact (h.inside he hl hum (.inr (Nat.le_refl _)) ht).1
    · refine h.black v hv (fun f hf => ?_) t ht
      rcases mem_cons2 hf with rfl | hf
      · exact fun c => q c.symm
      · exact hnp f hf
  · exact fun f hf => h.grey f (List.mem_cons_of_mem _ hf)
  · intro v t hv hh ht
    have := h.inside he hl hv ((hd2 v hv).1 hh) ht
    exact ⟨this.1, (hd2 t this.1).2 this.2⟩
  · intro v hv hh
    split
    · omega
    · rename_i c
      have : s.held v = false := by
        rcases (hd2 v hv).1 hh with q | q
        · exact q
        · cases hk : s.held v with
          | false => rfl
          | true => exact absurd ⟨hk, q⟩ c
      have := h.cmpLt v hv this
      omega
  · intro c hc
    by_cases q : c = s.count
    · subst q
      exact ⟨u, hum, (hd2 u hum).2 (.inr (Nat.le_refl _)), by rw [if_pos ⟨hu, Nat.le_refl _⟩]⟩
    · obtain ⟨v, q1, q2, q3⟩ := h.cmpEx c (by omega)
      exact ⟨v, q1, (hd2 v q1).2 (.inl q2), by rw [if_neg (by rw [q2]; simp)]; exact q3⟩
  · intro v w hv hh hw hk
    have cv := (hd2 v hv).1 hh
    have cw := (hd2 w hw).1 hk
    have key : ∀ a b, 0 < s.ord a → s.held a = true → s.ord u ≤ s.ord a → s.held b = false → 0 < s.ord b → ¬ R A b a := fun a b h1 h2 h3 h4 h5 hr => by
      have := (h.closR h5 h4 hr).2; rw [h2] at this; cases this
    by_cases a : s.held v = true ∧ s.ord u ≤ s.ord v
    · rw [if_pos a]
      by_cases b : s.held w = true ∧ s.ord u ≤ s.ord w
      · rw [if_pos b]
        have r1 := h.toTop he hl _ v (Nat.le_refl _) a.1 a.2
        have r2 := h.toTop he hl _ w (Nat.le_refl _) b.1 b.2
        have r3 := h.reach (u, e) (by simp) v a.1 a.2
        have r4 := h.reach (u, e) (by simp) w b.1 b.2
        exact ⟨fun _ => ⟨r1.trans r4, r2.trans r3⟩, fun _ => rfl⟩
      · rw [if_neg b]
        have hw0 : s.held w = false := by
          cases hx : s.held w with
          | false => rfl
          | true => exact absurd ⟨hx, by rcases cw with q | q; rw [hx] at q; cases q; exact q⟩ b
        constructor
        · intro hc; have := h.cmpLt w hw hw0; omega
        · intro hr; exact absurd hr.2 (key v w hv a.1 a.2 hw0 hw)
    · rw [if_neg a]
      have hv0 : s.held v = false := by
        cases hx : s.held v with
        | false => rfl
        | true => exact absurd ⟨hx, by rcases cv with q | q; rw [hx] at q; cases q; exact q⟩ a
      by_cases b : s.held w = true ∧ s.ord u ≤ s.ord w
      · rw [if_pos b]
        constructor
        · intro hc; have := h.cmpLt v hv hv0; omega
        · intro hr; exact absurd hr.1 (key w v hw b.1 b.2 hv0 hv)
      · rw [if_neg b]
        have hw0 : s.held w = false := by
          cases hx : s.held w with
          | false => rfl
          | true => exact absurd ⟨hx, by rcases cw with q | q; rw [hx] at q; cases q; exact q⟩ b
        exact h.cmpEq v w hv hv0 hw hw0
  · intro v hv; exact h.lowLe v ((hd v).1 hv).1
  · intro v hv
    obtain ⟨h1, h2⟩ := (hd v).1 hv
    obtain ⟨w, q1, q2, q3⟩ := h.lowEx v h1
    exact ⟨w, (hd w).2 ⟨q1, by have := h.lowLe v h1; omega⟩, q2, q3⟩
  · intro v hv hnp
    obtain ⟨h1, h2⟩ := (hd v).1 hv
    refine h.blow v h1 fun f hf => ?_
    rcases mem_cons2 hf with rfl | hf
    · intro c; simp only at c; rw [c] at h2; omega
    · exact hnp f hf
  · intro v hv
    obtain ⟨h1, h2⟩ := (hd v).1 hv
    obtain ⟨f, hf, q1⟩ := h.base v h1
    rcases mem_cons2 hf with rfl | hf
    · simp only at q1; omega
    · exact ⟨f, hf, q1⟩
  · intro f hf a b ha hb h1 h2 h3 h4
    obtain ⟨a1, a2⟩ := (hd a).1 ha
    obtain ⟨b1, b2⟩ := (hd b).1 hb
    refine h.bound f (List.mem_cons_of_mem _ hf) a b a1 b1 h1 (fun g hg hga => ?_) h3 h4
    rcases mem_cons2 hg with rfl | hg
    · simp only at hga; omega
    · exact h2 g hg hga

/-- A node ends: what comes of it. -/
theorem Inv.fin {A : Adj} {n : Nat} {s : St} {u e : Nat} {p : List (Nat × Nat)} (h : Inv A n s ((u, e) :: p)) (he : e = (A u).length) : Inv A n (pass (closeS s u) u p) p := by
  have hp := h.psrt
  rw [List.pairwise_cons] at hp
  have hu := h.pheld (u, e) (by simp)
  have hord : ∀ f ∈ p, s.ord f.1 < s.ord u := fun f hf => hp.1 f hf
  unfold closeS
  by_cases hl : s.low u = s.ord u
  · rw [if_neg (by simpa using hl)]
    have H := h.shut he hl
    cases p with
    | nil => exact H
    | cons f p =>
      obtain ⟨q, eq⟩ := f
      have h1 : s.low q ≤ s.ord q := h.lowLe q (h.pheld (q, eq) (by simp))
      have h2 := hord (q, eq) (by simp)
      have e1 : pass (Gr.shut s u) u ((q, eq) :: p) = Gr.shut s u := by
        show ({ Gr.shut s u with low := upd (Gr.shut s u).low q (min ((Gr.shut s u).low q) ((Gr.shut s u).low u)) } : St) = Gr.shut s u
        have : upd (Gr.shut s u).low q (min ((Gr.shut s u).low q) ((Gr.shut s u).low u)) = (Gr.shut s u).low := by
          funext v
          unfold upd
          split
          · rename_i c; subst c; show min (s.low v) (s.low u) = s.low v; simp only at h2; omega
          · rfl
        rw [this]
      rw [e1]; exact H
  · rw [if_pos hl]
    have hlt : s.low u < s.ord u := by have := h.lowLe u hu; omega
    obtain ⟨w0, w1, w2, w3⟩ := h.lowEx u hu
    obtain ⟨f0, hf0, hb0⟩ := h.base w0 w1
    cases p with
    | nil =>
      exfalso
      rcases mem_cons2 hf0 with rfl | hf0
      · simp only at hb0; omega
      · cases hf0
    | cons f p =>
      obtain ⟨q, eq⟩ := f
      have hqh := h.pheld (q, eq) (by simp)
      simp only at hqh
      have hqo := hord (q, eq) (by simp)
      simp only at hqo
      have hpp := hp.2
      rw [List.pairwise_cons] at hpp
      have hll : ∀ v, upd s.low q (min (s.low q) (s.low u)) v ≤ s.low v := fun v => by
        unfold upd; split
        · rename_i c; subst c; omega
        · exact Nat.le_refl _
      unfold pass
      refine ⟨h.lt, h.inj, h.heldMet, h.stk, h.srt, hp.2, fun f hf => h.plen f (List.mem_cons_of_mem _ hf), fun f hf => h.pheld f (List.mem_cons_of_mem _ hf), fun f hf => h.reach f (List.mem_cons_of_mem _ hf), ?_, fun f hf => h.grey f (List.mem_cons_of_mem _ hf), h.clos, h.cmpLt, h.cmpEx, h.cmpEq, ?_, ?_, ?_, ?_, ?_⟩ <;> (try simp only)
      · intro v hv hnp t ht
        by_cases c : v = u
        · subst c
          obtain ⟨i, hi, hit⟩ := at_edge ht
          exact h.grey (v, e) (by simp) i t (by simp; omega) hit
        · refine h.black v hv (fun f hf => ?_) t ht
          rcases mem_cons2 hf with rfl | hf
          · exact fun c2 => c c2.symm
          · exact hnp f hf
      · intro v hv; exact Nat.le_trans (hll v) (h.lowLe v hv)
      · intro v hv
        by_cases c : v = q
        · subst c
          rw [upd_same]
          by_cases q2 : s.low v ≤ s.low u
          · rw [Nat.min_eq_left q2]; exact h.lowEx v hv
          · rw [Nat.min_eq_right (by omega)]
            exact ⟨w0, w1, w2, (h.reach (v, eq) (by simp) u hu (by simp only; omega)).trans w3⟩
        · rw [upd_ne _ _ _ c]; exact h.lowEx v hv
      · intro v hv hnp
        by_cases c : v = u
        · subst c; exact Nat.lt_of_le_of_lt (hll v) hlt
        · refine Nat.lt_of_le_of_lt (hll v) (h.blow v hv fun f hf => ?_)
          rcases mem_cons2 hf with rfl | hf
          · exact fun c2 => c c2.symm
          · exact hnp f hf
      · intro v hv
        obtain ⟨f, hf, q1⟩ := h.base v hv
        rcases mem_cons2 hf with rfl | hf
        · exact ⟨(q, eq), by simp, by simp only at q1 ⊢; omega⟩
        · exact ⟨f, hf, q1⟩
      · intro f hf a b ha hb h1 h2 h3 h4
        by_cases c : s.ord u ≤ s.ord a
        · -- a lies at u or behind it: f is the way's first
          have hfq : f = (q, eq) := by
            rcases mem_cons2 hf with c2 | c2
            · exact c2
            · have h5 := h2 (q, eq) (by simp) (by simp only; omega)
              have h6 := hpp.1 f c2
              simp only at h5 h6; omega
          subst hfq
          simp only
          rw [upd_same]
          have hne : a ≠ q := fun c2 => by subst c2; omega
          have : s.low u ≤ s.ord b := h.bound (u, e) (by simp) a b ha hb c (fun g hg _ => by
            rcases mem_cons2 hg with rfl | hg
            · exact Nat.le_refl _
            · have := hord g hg; simp only; omega) (fun c2 => by
              simp only at c2
              have hab := h4 hne
              rw [c2] at hab
              obtain ⟨i, hi, hit⟩ := at_edge hab
              exact ⟨i, by simp; omega, hit⟩) (fun _ => h4 hne)
          omega
        · refine Nat.le_trans (hll f.1) (h.bound f (List.mem_cons_of_mem _ hf) a b ha hb h1 (fun g hg hga => ?_) h3 h4)
          rcases mem_cons2 hg with rfl | hg
          · exact absurd hga c
          · exact h2 g hg hga

/-- Where nothing is under way, nothing is held. -/
theorem Inv.rest {A : Adj} {n : Nat} {s : St} (h : Inv A n s []) : ∀ v, s.held v = false := fun v => by
  cases hv : s.held v with
  | false => rfl
  | true => obtain ⟨f, hf, _⟩ := h.base v hv; cases hf
theorem Inv.start {A : Adj} {n : Nat} {s : St} {t : Nat} (h : Inv A n s []) (h0 : s.ord t = 0) (hn : t < n) : Inv A n (Gr.meet s t) [(t, 0)] :=
  h.meet h0 hn (fun _ hf => by cases hf) (fun _ hf => by cases hf) .nil (fun _ hf => by cases hf) (fun _ hf => by cases hf) (fun _ hf => by cases hf)
theorem Inv.go {A : Adj} {n : Nat} {s : St} {u e t : Nat} {p : List (Nat × Nat)} (h : Inv A n s ((u, e) :: p)) (he : (A u)[e]? = some (some t)) (h0 : s.ord t = 0) (hn : t < n) : Inv A n (Gr.meet s t) ((t, 0) :: (u, e + 1) :: p) := by
  have hl : e < (A u).length := (List.getElem?_eq_some_iff.1 he).1
  have hp := h.psrt
  rw [List.pairwise_cons] at hp
  refine h.meet h0 hn ?_ ?_ ?_ ?_ ?_ ?_
  · intro f hf
    rcases mem_cons2 hf with rfl | hf
    · exact ⟨e, by simp⟩
    · exact ⟨f.2, List.mem_cons_of_mem _ hf⟩
  · intro f hf
    rcases mem_cons2 hf with rfl | hf
    · exact ⟨e + 1, by simp⟩
    · exact ⟨f.2, List.mem_cons_of_mem _ hf⟩
  · rw [List.pairwise_cons]; exact hp
  · intro f hf
    rcases mem_cons2 hf with rfl | hf
    · exact hl
    · exact h.plen f (List.mem_cons_of_mem _ hf)
  · intro f hf i b hi hib
    rcases mem_cons2 hf with rfl | hf
    · by_cases q : i = e
      · subst q; simp only at hib; rw [he] at hib; cases hib; exact .inl rfl
      · exact .inr ⟨e, by simp, by simp only at hi; omega⟩
    · exact .inr ⟨f.2, List.mem_cons_of_mem _ hf, hi⟩
  · intro f hf
    have hle : s.ord f.1 ≤ s.ord u := by
      rcases mem_cons2 hf with rfl | hf
      · exact Nat.le_refl _
      · exact Nat.le_of_lt (hp.1 f hf)
    exact (h.reach f hf u (h.pheld (u, e) (by simp)) hle).trans (.edge (edge_at he))
theorem inv_zero (A : Adj) (n : Nat) (low comp : Nat → Nat) (k : Nat) : Inv A n ⟨fun _ => 0, low, fun _ => false, comp, [], k, 0⟩ [] := by
  refine ⟨?_, ?_, ?_, ?_, ?_, ?_, ?_, ?_, ?_, ?_, ?_, ?_, ?_, ?_, ?_, ?_, ?_, ?_, ?_, ?_⟩ <;> simp
/-- At the end: numbers of components. -/
structure Comps (A : Adj) (n : Nat) (comp : Nat → Nat) (count : Nat) : Prop where
  lt : ∀ v, v < n → comp v < count
  ex : ∀ c, c < count → ∃ v, v < n ∧ comp v = c
  eq : ∀ v w, v < n → w < n → (comp v = comp w ↔ R A v w ∧ R A w v)
theorem Inv.done {A : Adj} {n : Nat} {s : St} (h : Inv A n s []) (hm : ∀ v, v < n → 0 < s.ord v) : Comps A n s.comp s.count :=
  ⟨fun v hv => h.cmpLt v (hm v hv) (h.rest v), fun c hc => by
    obtain ⟨v, q1, q2, q3⟩ := h.cmpEx c hc
    exact ⟨v, (h.lt v q1).1, q3⟩, fun v w hv hw => h.cmpEq v w (hm v hv) (h.rest v) (hm w hw) (h.rest w)⟩
end Go.Proofs.Ytcpjlfhehjmfbaa.Gr
