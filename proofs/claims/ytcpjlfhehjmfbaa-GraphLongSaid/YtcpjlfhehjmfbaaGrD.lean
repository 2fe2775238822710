/- graph.Components, plain: components taken one by one, the least of those that wait for none: that is the order. -/
import Derived.Test.YtcpjlfhehjmfbaaGrC
namespace Go.Proofs.Ytcpjlfhehjmfbaa.Gr
set_option linter.unusedVariables false
set_option linter.unusedSimpArgs false

/-- A component's nodes, rising. -/
def memb (n : Nat) (comp : Nat → Nat) (c : Nat) : List Nat := (List.range n).filter fun v => decide (comp v = c)
theorem mem_memb {n : Nat} {comp : Nat → Nat} {c v : Nat} : v ∈ memb n comp c ↔ v < n ∧ comp v = c := by
  unfold memb; rw [List.mem_filter, List.mem_range, decide_eq_true_iff]
theorem memb_sorted (n : Nat) (comp : Nat → Nat) (c : Nat) : (memb n comp c).Pairwise (· < ·) := List.pairwise_lt_range.filter _
theorem memb_cls {A : Adj} {n count i : Nat} {comp : Nat → Nat} (h : Comps A n comp count) (hi : i < n) : IsCls A n i (memb n comp (comp i)) := by
  refine ⟨memb_sorted _ _ _, fun j => ?_⟩
  rw [mem_memb]
  constructor
  · rintro ⟨h1, h2⟩
    exact ⟨h1, (h.eq i j hi h1).1 h2.symm⟩
  · rintro ⟨h1, h2⟩
    exact ⟨h1, ((h.eq i j hi h1).2 h2).symm⟩
theorem memb_pos {A : Adj} {n count c : Nat} {comp : Nat → Nat} (h : Comps A n comp count) (hc : c < count) : 0 < (memb n comp c).length := by
  obtain ⟨v, h1, h2⟩ := h.ex c hc
  exact List.length_pos_of_mem (mem_memb.2 ⟨h1, h2⟩)
/-- The least node of a component. -/
def lead (n : Nat) (comp : Nat → Nat) (c : Nat) : Nat := (memb n comp c).headD 0
theorem lead_spec {A : Adj} {n count c : Nat} {comp : Nat → Nat} (h : Comps A n comp count) (hc : c < count) : lead n comp c < n ∧ comp (lead n comp c) = c ∧ ∀ v, v < n → comp v = c → lead n comp c ≤ v := by
  have hp := memb_pos h hc
  have hs := memb_sorted n comp c
  have hm := fun v => @mem_memb n comp c v
  unfold lead
  cases hl : memb n comp c with
  | nil => rw [hl] at hp; simp at hp
  | cons a l =>
    rw [hl] at hs hm
    rw [List.pairwise_cons] at hs
    have ha := (hm a).1 (List.mem_cons_self ..)
    refine ⟨ha.1, ha.2, fun v h1 h2 => ?_⟩
    rcases List.mem_cons.1 ((hm v).2 ⟨h1, h2⟩) with e | e
    · subst e; exact Nat.le_refl _
    · exact Nat.le_of_lt (hs.1 v e)
/-- Which component waits for which, an entry for each edge. -/
def DepsOf (A : Adj) (n : Nat) (comp : Nat → Nat) (deps : List (Nat × Nat)) : Prop := ∀ d c, (d, c) ∈ deps ↔ ∃ v t, v < n ∧ Edge A v t ∧ comp v = d ∧ comp t = c ∧ d ≠ c
def waitsOf (deps : List (Nat × Nat)) (O : List Nat) (d : Nat) : Nat := (deps.filter fun e => decide (e.1 = d) && decide (e.2 ∉ O)).length
def backOf (deps : List (Nat × Nat)) (c : Nat) : List Nat := (deps.filter fun e => decide (e.2 = c)).map (·.1)
structure KInv (count : Nat) (deps : List (Nat × Nat)) (O : List Nat) (W : Nat → Nat) (H : List Nat) : Prop where
  olt : ∀ c ∈ O, c < count
  ond : O.Nodup
  wcnt : ∀ d, d < count → W d = waitsOf deps O d
  heap : ∀ c, c ∈ H ↔ c < count ∧ c ∉ O ∧ W c = 0
  hnd : H.Nodup
  clos : ∀ c ∈ O, ∀ e, (c, e) ∈ deps → e ∈ O
theorem waits_zero {deps : List (Nat × Nat)} {O : List Nat} {d : Nat} : waitsOf deps O d = 0 ↔ ∀ e, (d, e) ∈ deps → e ∈ O := by
  unfold waitsOf
  rw [List.length_eq_zero_iff, List.filter_eq_nil_iff]
  constructor
  · intro h e he
    have := h (d, e) he
    simp at this
    exact this
  · rintro h ⟨a, e⟩ he
    by_cases q : a = d
    · subst q; simp [h e he]
    · simp [q]
theorem KInv.may {A : Adj} {n count : Nat} {comp : Nat → Nat} {deps : List (Nat × Nat)} {O H : List Nat} {W : Nat → Nat} (hC : Comps A n comp count) (hA : ∀ u t, Edge A u t → t < n) (hD : DepsOf A n comp deps) (h : KInv count deps O W H) {D : List Nat} (hDn : ∀ v, v < n → (v ∈ D ↔ comp v ∈ O)) {i : Nat} (hi : i < n) :
    May A n D i ↔ comp i ∈ H := by
  have hci := hC.lt i hi
  constructor
  · intro hm
    refine (h.heap _).2 ⟨hci, fun k => hm.2.1 ((hDn i hi).2 k), ?_⟩
    rw [h.wcnt _ hci, waits_zero]
    intro e he
    obtain ⟨v, t, hv, hvt, e1, e2, hne⟩ := (hD _ _).1 he
    have ht := hA v t hvt
    have r1 := ((hC.eq v i hv hi).1 e1).2
    have r2 : R A i t := r1.trans (R.edge hvt)
    rcases hm.2.2 t ht r2 with k | k
    · exact absurd (((hC.eq i t hi ht).2 ⟨r2, k⟩).trans e2) hne
    · rw [← e2]; exact (hDn t ht).1 k
  · intro hh
    obtain ⟨_, h2, h3⟩ := (h.heap _).1 hh
    rw [h.wcnt _ hci, waits_zero] at h3
    refine ⟨hi, fun k => h2 ((hDn i hi).1 k), fun j hj hr => ?_⟩
    have key : j < n ∧ (comp j = comp i ∨ comp j ∈ O) := by
      refine hr.keeps (Q := fun v => v < n ∧ (comp v = comp i ∨ comp v ∈ O)) ⟨hi, .inl rfl⟩ ?_
      rintro x y ⟨hx, hq⟩ hxy
      have hy := hA x y hxy
      refine ⟨hy, ?_⟩
      by_cases e : comp x = comp y
      · rw [← e]; exact hq
      · have hdep := (hD (comp x) (comp y)).2 ⟨x, y, hx, hxy, rfl, rfl, e⟩
        rcases hq with q | q
        · rw [q] at hdep; exact .inr (h3 _ hdep)
        · exact .inr (h.clos _ q _ hdep)
    rcases key.2 with q | q
    · exact .inl ((hC.eq j i hj hi).1 q).1
    · exact .inr ((hDn j hj).2 q)
/-- The least component of those that wait for none is the next one. -/
theorem KInv.next {A : Adj} {n count : Nat} {comp : Nat → Nat} {deps : List (Nat × Nat)} {O H : List Nat} {W : Nat → Nat} (hC : Comps A n comp count) (hA : ∀ u t, Edge A u t → t < n) (hD : DepsOf A n comp deps) (h : KInv count deps O W H) {D : List Nat} (hDn : ∀ v, v < n → (v ∈ D ↔ comp v ∈ O)) {x : Nat} (hx : x ∈ H) (hmin : ∀ y ∈ H, ¬ lead n comp y < lead n comp x) :
    Next A n D (lead n comp x) ∧ IsCls A n (lead n comp x) (memb n comp x) := by
  have hxc := ((h.heap x).1 hx).1
  obtain ⟨l1, l2, l3⟩ := lead_spec hC hxc
  refine ⟨⟨(h.may hC hA hD hDn l1).2 (by rw [l2]; exact hx), fun i' hi' hm => ?_⟩, by have := memb_cls hC l1; rwa [l2] at this⟩
  have hc := (h.may hC hA hD hDn hm.1).1 hm
  have := hmin _ hc
  have := (lead_spec hC (hC.lt i' hm.1)).2.2 i' hm.1 rfl
  omega
/-- With an empty heap all nodes stand. -/
theorem KInv.full {A : Adj} {n count : Nat} {comp : Nat → Nat} {deps : List (Nat × Nat)} {O : List Nat} {W : Nat → Nat} (hC : Comps A n comp count) (hA : ∀ u t, Edge A u t → t < n) (hD : DepsOf A n comp deps) (h : KInv count deps O W []) {D : List Nat} (hDn : ∀ v, v < n → (v ∈ D ↔ comp v ∈ O)) : ∀ i, i < n → i ∈ D := by
  intro i hi
  refine Classical.byContradiction fun hn => ?_
  obtain ⟨j, hj⟩ := next_ex hA D ⟨i, hi, hn⟩
  have := (h.may hC hA hD hDn hj.1.1).1 hj.1
  simp at this
theorem KInv.start {count : Nat} {deps : List (Nat × Nat)} {W : Nat → Nat} {H : List Nat} (hw : ∀ d, d < count → W d = waitsOf deps [] d) (hh : ∀ c, c ∈ H ↔ c < count ∧ W c = 0) (hn : H.Nodup) : KInv count deps [] W H :=
  ⟨fun c h => by simp at h, List.nodup_nil, hw, fun c => by rw [hh]; simp, hn, fun c h => by simp at h⟩
/-- Going through those that wait for x. -/
structure KIn (count : Nat) (deps : List (Nat × Nat)) (O' : List Nat) (rem : List Nat) (W : Nat → Nat) (H : List Nat) : Prop where
  wcnt : ∀ d, d < count → W d = waitsOf deps O' d + rem.count d
  heap : ∀ c, c ∈ H ↔ c < count ∧ c ∉ O' ∧ W c = 0
  hnd : H.Nodup
theorem count_back (deps : List (Nat × Nat)) (O : List Nat) (x d : Nat) (hx : x ∉ O) : waitsOf deps O d = waitsOf deps (O ++ [x]) d + (backOf deps x).count d := by
  unfold waitsOf backOf
  induction deps with
  | nil => rfl
  | cons e l ih =>
    obtain ⟨a, b⟩ := e
    simp only [List.filter_cons]
    by_cases h1 : a = d
    · subst h1
      by_cases h2 : b = x
      · subst h2
        simp [hx]
        simp at ih
        omega
      · by_cases h3 : b ∈ O
        · simp [h2, h3]
          simp at ih
          omega
        · simp [h2, h3]
          simp at ih
          omega
    · by_cases h2 : b = x
      · subst h2
        simp [h1]
        simp at ih
        omega
      · simp [h1, h2]
        simp at ih
        omega
theorem KInv.popped {count : Nat} {deps : List (Nat × Nat)} {O H H' : List Nat} {W : Nat → Nat} (h : KInv count deps O W H) {x : Nat} (hp : H.Perm (x :: H')) : KIn count deps (O ++ [x]) (backOf deps x) W H' := by
  have hx : x ∈ H := hp.mem_iff.2 (List.mem_cons_self ..)
  obtain ⟨x1, x2, x3⟩ := (h.heap x).1 hx
  have hn := hp.nodup_iff.1 h.hnd
  rw [List.nodup_cons] at hn
  refine ⟨fun d hd => by rw [h.wcnt d hd]; exact count_back deps O x d x2, fun c => ?_, hn.2⟩
  have hm : c ∈ H ↔ c = x ∨ c ∈ H' := by rw [hp.mem_iff, List.mem_cons]
  rw [List.mem_append, List.mem_singleton]
  constructor
  · intro hc
    obtain ⟨c1, c2, c3⟩ := (h.heap c).1 (hm.2 (.inr hc))
    exact ⟨c1, fun k => k.elim c2 (fun e => by subst e; exact hn.1 hc), c3⟩
  · rintro ⟨c1, c2, c3⟩
    rcases hm.1 ((h.heap c).2 ⟨c1, fun k => c2 (.inl k), c3⟩) with e | e
    · exact absurd (.inr e) c2
    · exact e
theorem KIn.step {count : Nat} {deps : List (Nat × Nat)} {O' rem H : List Nat} {W : Nat → Nat} {d : Nat} (h : KIn count deps O' (d :: rem) W H) (hd : d < count) (ho : d ∉ O') : 1 ≤ W d ∧ KIn count deps O' rem (upd W d (W d - 1)) (if W d - 1 = 0 then H ++ [d] else H) := by
  have hw := h.wcnt d hd
  rw [List.count_cons_self] at hw
  have hdH : d ∉ H := fun k => by have := ((h.heap d).1 k).2.2; omega
  refine ⟨by omega, ⟨fun e he => ?_, fun c => ?_, ?_⟩⟩
  · by_cases q : e = d
    · subst q; rw [upd_same]; omega
    · rw [upd_ne _ _ _ q, h.wcnt e he, List.count_cons_of_ne (Ne.symm q)]
  · by_cases q : c = d
    · subst q
      rw [upd_same]
      split
      · rename_i k; simp [hd, ho, k]
      · rename_i k
        constructor
        · intro m; exact absurd m hdH
        · rintro ⟨_, _, m⟩; exact absurd m k
    · rw [upd_ne _ _ _ q]
      split
      · rw [List.mem_append, List.mem_singleton, h.heap]
        exact ⟨fun m => m.elim id (fun e => absurd e q), .inl⟩
      · rw [h.heap]
  · split
    · rw [List.nodup_append]
      exact ⟨h.hnd, by simp, fun a ha b hb e => by rw [List.mem_singleton] at hb; subst hb; subst e; exact hdH ha⟩
    · exact h.hnd
theorem KIn.done {count : Nat} {deps : List (Nat × Nat)} {O H H2 : List Nat} {W W2 : Nat → Nat} {x : Nat} (h0 : KInv count deps O W H) (hx : x ∈ H) (h : KIn count deps (O ++ [x]) [] W2 H2) : KInv count deps (O ++ [x]) W2 H2 := by
  obtain ⟨x1, x2, x3⟩ := (h0.heap x).1 hx
  rw [h0.wcnt x x1, waits_zero] at x3
  refine ⟨fun c hc => ?_, ?_, fun d hd => by rw [h.wcnt d hd]; rfl, h.heap, h.hnd, fun c hc e he => ?_⟩
  · rcases List.mem_append.1 hc with q | q
    · exact h0.olt c q
    · rw [List.mem_singleton] at q; subst q; exact x1
  · rw [List.nodup_append]
    exact ⟨h0.ond, by simp, fun a ha b hb e => by rw [List.mem_singleton] at hb; subst hb; subst e; exact x2 ha⟩
  · rcases List.mem_append.1 hc with q | q
    · exact List.mem_append_left _ (h0.clos c q e he)
    · rw [List.mem_singleton] at q; subst q; exact List.mem_append_left _ (x3 e he)
/-- What waits for x stands not yet. -/
theorem KInv.later {count : Nat} {deps : List (Nat × Nat)} {O H : List Nat} {W : Nat → Nat} (h : KInv count deps O W H) {x d : Nat} (hx : x ∈ H) (hne : ∀ a b, (a, b) ∈ deps → a ≠ b) (hd : d ∈ backOf deps x) : d ∉ O ++ [x] := by
  unfold backOf at hd
  obtain ⟨⟨a, b⟩, he, rfl⟩ := List.mem_map.1 hd
  rw [List.mem_filter, decide_eq_true_iff] at he
  obtain ⟨he, rfl⟩ := he
  obtain ⟨x1, x2, x3⟩ := (h.heap _).1 hx
  rw [List.mem_append, List.mem_singleton]
  rintro (k | k)
  · exact x2 (h.clos _ k _ he)
  · exact hne _ _ he k
end Go.Proofs.Ytcpjlfhehjmfbaa.Gr
