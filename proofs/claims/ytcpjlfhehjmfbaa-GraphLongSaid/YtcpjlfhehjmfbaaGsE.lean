/- ergolaw17.Components: plain part and memory: by the page. -/
import Derived.Test.YtcpjlfhehjmfbaaGsD
import Derived.Test.YtcpjlfhehjmfbaaGrX
import Derived.Test.YtcpjlfhehjmfbaaGrV
namespace Go.Proofs.Ytcpjlfhehjmfbaa.Gr
open Go.RowKit Go.Shelf Go.Proofs.Ytcpjlfhehjmfbaa.Sg
set_option linter.unusedVariables false
set_option linter.unusedSimpArgs false

def sameB (M : Nat → Nat → Bool) (i j : Nat) : Bool := decide (j = i) || (M i j && M j i)
def okB (M : Nat → Nat → Bool) (D : Nat → Bool) (i : Nat) : Nat → Bool
  | 0 => !D i
  | j + 1 => okB M D i j && (sameB M i j || !M i j || D j)
def compB (M : Nat → Nat → Bool) (i : Nat) : Nat → List Nat
  | 0 => []
  | j + 1 => compB M i j ++ (if sameB M i j = true then [j] else [])
theorem compB_len (M : Nat → Nat → Bool) (i : Nat) : ∀ j, (compB M i j).length ≤ j
  | 0 => Nat.le_refl _
  | j + 1 => by
    have := compB_len M i j
    unfold compB
    rw [List.length_append]
    split <;> simp <;> omega
theorem mem_compB {M : Nat → Nat → Bool} {i c : Nat} : ∀ {j}, c ∈ compB M i j ↔ c < j ∧ sameB M i c = true
  | 0 => by simp [compB]
  | j + 1 => by
    unfold compB
    rw [List.mem_append, mem_compB]
    by_cases h : sameB M i j = true
    · rw [if_pos h, List.mem_singleton]
      constructor
      · rintro (q | q)
        · exact ⟨by omega, q.2⟩
        · subst q; exact ⟨by omega, h⟩
      · rintro ⟨q1, q2⟩
        by_cases e : c = j
        · exact .inr e
        · exact .inl ⟨by omega, q2⟩
    · rw [if_neg h]
      constructor
      · rintro (q | q)
        · exact ⟨by omega, q.2⟩
        · simp at q
      · rintro ⟨q1, q2⟩
        by_cases e : c = j
        · subst e; exact absurd q2 h
        · exact .inl ⟨by omega, q2⟩
theorem compB_sorted (M : Nat → Nat → Bool) (i : Nat) : ∀ j, (compB M i j).Pairwise (· < ·)
  | 0 => by simp [compB]
  | j + 1 => by
    unfold compB
    rw [List.pairwise_append]
    refine ⟨compB_sorted M i j, ?_, fun a ha b hb => ?_⟩
    · split <;> simp
    · have := (mem_compB.1 ha).1
      split at hb
      · rw [List.mem_singleton] at hb; omega
      · simp at hb
theorem okB_iff {M : Nat → Nat → Bool} {D : Nat → Bool} {i : Nat} : ∀ {j}, okB M D i j = true ↔ D i = false ∧ ∀ c, c < j → sameB M i c = true ∨ M i c = false ∨ D c = true
  | 0 => by simp [okB]
  | j + 1 => by
    unfold okB
    rw [Bool.and_eq_true, okB_iff]
    constructor
    · rintro ⟨⟨h1, h2⟩, h3⟩
      refine ⟨h1, fun c hc => ?_⟩
      by_cases e : c = j
      · subst e
        cases h4 : sameB M i c <;> cases h5 : M i c <;> cases h6 : D c <;> simp [h4, h5, h6] at h3 ⊢
      · exact h2 c (by omega)
    · rintro ⟨h1, h2⟩
      refine ⟨⟨h1, fun c hc => h2 c (by omega)⟩, ?_⟩
      rcases h2 j (by omega) with q | q | q <;> rw [q] <;> simp
theorem R_iff {A : Adj} {n : Nat} {M : Nat → Nat → Bool} (hM : ∀ a c, a < n → c < n → (M a c = true ↔ TC A a c)) {a c : Nat} (ha : a < n) (hc : c < n) : R A a c ↔ a = c ∨ M a c = true := by
  rw [hM a c ha hc]
  exact ⟨R.tc, fun h => h.elim (fun e => e ▸ .refl a) TC.r⟩
theorem same_iff {A : Adj} {n : Nat} {M : Nat → Nat → Bool} (hM : ∀ a c, a < n → c < n → (M a c = true ↔ TC A a c)) {i c : Nat} (hi : i < n) (hc : c < n) : sameB M i c = true ↔ R A i c ∧ R A c i := by
  rw [R_iff hM hi hc, R_iff hM hc hi]
  unfold sameB
  rw [Bool.or_eq_true, Bool.and_eq_true, decide_eq_true_iff]
  constructor
  · rintro (q | q)
    · exact ⟨.inl q.symm, .inl q⟩
    · exact ⟨.inr q.1, .inr q.2⟩
  · rintro ⟨q1, q2⟩
    rcases q1 with q | q
    · exact .inl q.symm
    · rcases q2 with q3 | q3
      · exact .inl q3
      · exact .inr ⟨q, q3⟩
theorem compB_cls {A : Adj} {n : Nat} {M : Nat → Nat → Bool} (hM : ∀ a c, a < n → c < n → (M a c = true ↔ TC A a c)) {i : Nat} (hi : i < n) : IsCls A n i (compB M i n) := by
  refine ⟨compB_sorted M i n, fun j => ?_⟩
  rw [mem_compB]
  exact ⟨fun q => ⟨q.1, (same_iff hM hi q.1).1 q.2⟩, fun q => ⟨q.1, (same_iff hM hi q.1).2 q.2⟩⟩
theorem okB_may {A : Adj} {n : Nat} {M : Nat → Nat → Bool} {D : Nat → Bool} {L : List Nat} (hM : ∀ a c, a < n → c < n → (M a c = true ↔ TC A a c)) (hD : ∀ j, j < n → (D j = true ↔ j ∈ L)) {i : Nat} (hi : i < n) : okB M D i n = true ↔ May A n L i := by
  rw [okB_iff]
  constructor
  · rintro ⟨h1, h2⟩
    refine ⟨hi, fun k => (by rw [(hD i hi).2 k] at h1; simp at h1), fun j hj hr => ?_⟩
    rcases h2 j hj with q | q | q
    · exact .inl ((same_iff hM hi hj).1 q).2
    · rcases (R_iff hM hi hj).1 hr with e | e
      · subst e; exact .inl (.refl _)
      · rw [q] at e; cases e
    · exact .inr ((hD j hj).1 q)
  · rintro ⟨h1, h2, h3⟩
    refine ⟨?_, fun c hc => ?_⟩
    · cases h : D i
      · rfl
      · exact absurd ((hD i hi).1 h) h2
    · cases hm : M i c with
      | false => exact .inr (.inl rfl)
      | true =>
        rcases h3 c hc ((R_iff hM hi hc).2 (.inr hm)) with q | q
        · exact .inl ((same_iff hM hi hc).2 ⟨(R_iff hM hi hc).2 (.inr hm), q⟩)
        · exact .inr (.inr ((hD c hc).2 q))
/-- While fewer than n nodes stand, one is left. -/
theorem left_one {n : Nat} {D : List Nat} (h : D.length < n) : ∃ i, i < n ∧ i ∉ D := by
  refine Classical.byContradiction fun hn => ?_
  have hall : ∀ i, i < n → i ∈ D := fun i hi => Classical.byContradiction fun q => hn ⟨i, hi, q⟩
  have : ∀ m, m ≤ n → ∀ D : List Nat, (∀ i, i < m → i ∈ D) → m ≤ D.length := by
    intro m
    induction m with
    | zero => intro _ D _; exact Nat.zero_le _
    | succ m ih =>
      intro hm D hD
      have h1 := ih (by omega) (D.erase m) (fun i hi => (List.mem_erase_of_ne (by omega)).2 (hD i (by omega)))
      rw [List.length_erase_of_mem (hD m (by omega))] at h1
      have := List.length_pos_of_mem (hD m (by omega))
      omega
  have := this n (Nat.le_refl _) D hall
  omega
/-- What is done, and what is out, in memory. -/
structure PG (w1 wr : World) (n bd : Nat) (dn : Nat → Bool) (ov : Value) (vals : List Value) (L : List (List Nat)) : Prop where
  dn : wr.ownsRow w1.heap.size 4 1 (.slice (some ⟨bd, 0, none⟩) n n) n (bools n dn)
  out : wr.ownsRow w1.heap.size 22 1 ov vals.length vals
  len : vals.length = L.length
  rows : ∀ j (h : j < L.length), ∃ v, vals[j]? = some v ∧ RowAt wr (fun k => w1.heap.size ≤ k ∧ k ≠ bd ∧ ov.ownBlock ≠ some k) v (toRow L[j])
  nd : ov.ownBlock ≠ some bd
  below : Below w1.heap.size w1 wr
theorem PG.kept {w1 wr wq : World} {n bd : Nat} {dn : Nat → Bool} {ov : Value} {vals : List Value} {L : List (List Nat)} (h : PG w1 wr n bd dn ov vals L) (hb : Below wr.heap.size wr wq) : PG w1 wq n bd dn ov vals L :=
  ⟨(Stays.of_below hb (fun _ => True)).owns h.dn (fun _ _ => trivial), (Stays.of_below hb (fun _ => True)).owns h.out (fun _ _ => trivial), h.len, fun j hj => by
    obtain ⟨v, h1, h2⟩ := h.rows j hj
    exact ⟨v, h1, reads_row.stays h2 (Stays.of_below hb _)⟩, h.nd, h.below.trans (hb.mono h.below.size)⟩
theorem PG.bd {w1 wr : World} {n bd : Nat} {dn : Nat → Bool} {ov : Value} {vals : List Value} {L : List (List Nat)} (h : PG w1 wr n bd dn ov vals L) : w1.heap.size ≤ bd ∧ bd < wr.heap.size := World.ownsRow.lt h.dn _ rfl
theorem PG.cell {w1 wr : World} {n bd j : Nat} {dn : Nat → Bool} {ov : Value} {vals : List Value} {L : List (List Nat)} (h : PG w1 wr n bd dn ov vals L) (hj : j < n) : wr.cell? ⟨bd, j, none⟩ = some (.bool (dn j)) ∧ wr.frozen? ⟨bd, j, none⟩ = false :=
  ⟨by rw [h.dn.cellAt j (by omega)]; exact bools_get _ hj, h.dn.frozenAt j⟩
theorem PG.mark {w1 wr : World} {n bd : Nat} {dn : Nat → Bool} {ov : Value} {vals : List Value} {L : List (List Nat)} (h : PG w1 wr n bd dn ov vals L) (j : Nat) (x : Bool) : PG w1 (wr.setCell ⟨bd, j, none⟩ (.bool x)) n bd (upd dn j x) ov vals L := by
  refine ⟨?_, own_setv _ h.out h.nd, h.len, fun k hk => ?_, h.nd, below_setCell h.below h.bd.1 _⟩
  · have := (h.dn.stored j (.bool x)).1
    rw [bools_set] at this
    exact this
  · obtain ⟨v, h1, h2⟩ := h.rows k hk
    exact ⟨v, h1, reads_row.stays h2 ((Stays.setCell wr ⟨bd, j, none⟩ _).mono (fun b hb _ => hb.2.1))⟩
/-- Another component is put out. -/
theorem PG.put {w1 wr wq : World} {n bd : Nat} {dn : Nat → Bool} {ov ov2 cv : Value} {vals : List Value} {L : List (List Nat)} {c : List Nat} {o : Obj} (h : PG w1 wr n bd dn ov vals L) (hg : (wr.alloc o).grownBy wq ov.ownBlock) (ho : wq.ownsRow w1.heap.size 22 1 ov2 (vals.length + 1) (vals ++ [cv])) (hb : ov2.ownBlock = ov.ownBlock ∨ ov2.ownBlock = some (wr.alloc o).heap.size)
    (hc : RowAt wr (fun k => w1.heap.size ≤ k ∧ k ≠ bd ∧ ov.ownBlock ≠ some k) cv (toRow c)) : PG w1 wq n bd dn ov2 (vals ++ [cv]) (L ++ [c]) := by
  have hs := h.below.size
  have hk : Kept wr wq (fun k => ov.ownBlock = some k) := Kept.of_grown hg ((Kept.refl wr _).alloc o) (fun k e => .inl e)
  have hbd := h.bd
  have hnew : ∀ k, ov2.ownBlock = some k → ov.ownBlock = some k ∨ wr.heap.size < k := fun k hk => by
    rcases hb with q | q
    · exact .inl (q ▸ hk)
    · right; rw [q] at hk; have := Option.some.inj hk; simp at this; omega
  have up : ∀ v (c : List Nat), RowAt wr (fun k => w1.heap.size ≤ k ∧ k ≠ bd ∧ ov.ownBlock ≠ some k) v (toRow c) → RowAt wq (fun k => w1.heap.size ≤ k ∧ k ≠ bd ∧ ov2.ownBlock ≠ some k) v (toRow c) := fun v c hr => by
    have h1 : RowAt wr (fun k => (w1.heap.size ≤ k ∧ k ≠ bd ∧ ov.ownBlock ≠ some k) ∧ k < wr.heap.size) v (toRow c) := reads_row.mono hr (fun b hb hl => ⟨hb, hl⟩)
    have h2 := reads_row.stays h1 (hk.stays.mono (fun b hb _ => hb.1.2.2))
    refine reads_row.mono h2 (fun b hb _ => ⟨hb.1.1, hb.1.2.1, fun e => ?_⟩)
    rcases hnew b e with q | q
    · exact hb.1.2.2 q
    · omega
  refine ⟨own_kept hk h.dn (fun k e q => by have e : bd = k := Option.some.inj e; subst e; exact h.nd q), by rw [List.length_append]; exact ho, by rw [List.length_append, List.length_append, h.len]; rfl, fun j hj => ?_, fun e => ?_, h.below.trans (hk.below hs (fun k e => (h.out.lt k e).1))⟩
  · rw [List.length_append] at hj
    simp only [List.length_cons, List.length_nil] at hj
    have hl := h.len
    by_cases q : j < L.length
    · obtain ⟨v, h1, h2⟩ := h.rows j q
      refine ⟨v, by rw [List.getElem?_append_left (by omega)]; exact h1, ?_⟩
      rw [List.getElem_append_left q]
      exact up v _ h2
    · have e : j = L.length := by omega
      subst e
      refine ⟨cv, by rw [← hl, List.getElem?_append_right (Nat.le_refl _), Nat.sub_self]; rfl, ?_⟩
      rw [List.getElem_append_right (Nat.le_refl _)]
      simp only [Nat.sub_self, List.getElem_cons_zero]
      exact up cv c hc
  · rcases hnew bd e with q | q
    · exact h.nd q
    · omega
theorem PG.result {w1 wr : World} {n bd : Nat} {dn : Nat → Bool} {ov : Value} {vals : List Value} {L : List (List Nat)} (h : PG w1 wr n bd dn ov vals L) (hl : L.length < 1000000) : RowsAt wr (w1.heap.size ≤ ·) ov (L.map toRow) := by
  refine SlAt.of_own0 h.out (by rw [h.len, List.length_map]) (fun b _ hb => hb) (by rw [List.length_map]; omega) (fun j hj u hu => ?_)
  rw [List.length_map] at hj
  obtain ⟨v, h1, h2⟩ := h.rows j hj
  rw [h1] at hu
  have e := Option.some.inj hu
  subst e
  rw [List.getElem_map]
  exact reads_row.mono h2 (fun b hb _ => hb.1)
/-- Where things stand. -/
structure PS (A : Adj) (n : Nat) (dn : Nat → Bool) (L : List (List Nat)) (count : Nat) : Prop where
  page : Page A n L
  dn : ∀ j, j < n → (dn j = true ↔ j ∈ L.flatten)
  count : count = L.flatten.length
theorem PS.total {A : Adj} {n : Nat} {dn : Nat → Bool} {L : List (List Nat)} {count : Nat} (h : PS A n dn L count) (hc : ¬ count < n) : ∀ i, i < n → i ∈ L.flatten := by
  intro i hi
  have nd : L.flatten.Nodup := by
    unfold List.Nodup
    rw [List.pairwise_flatten]
    refine ⟨fun c hc => ?_, ?_⟩
    · obtain ⟨i, _, h2⟩ := h.page.cls hc
      exact h2.1.imp (fun h e => by omega)
    · rw [List.pairwise_iff_getElem]
      intro k m hk hm hkm x hx y hy e
      subst e
      exact h.page.apart hkm hm x hx hy
  refine Classical.byContradiction fun hn => ?_
  have := nodup_le (l := i :: L.flatten) (n := n) (List.nodup_cons.2 ⟨hn, nd⟩) (fun x hx => by
    rcases List.mem_cons.1 hx with e | e
    · omega
    · obtain ⟨c, hc, hx⟩ := List.mem_flatten.1 e
      obtain ⟨i, _, h2⟩ := h.page.cls hc
      exact ((h2.2 x).1 hx).1)
  rw [List.length_cons] at this
  have := h.count
  omega
theorem PS.len {A : Adj} {n : Nat} {dn : Nat → Bool} {L : List (List Nat)} {count : Nat} (h : PS A n dn L count) : L.length ≤ n ∧ count ≤ n := by
  have nd : L.flatten.Nodup := by
    unfold List.Nodup
    rw [List.pairwise_flatten]
    refine ⟨fun c hc => ?_, ?_⟩
    · obtain ⟨i, _, h2⟩ := h.page.cls hc
      exact h2.1.imp (fun h e => by omega)
    · rw [List.pairwise_iff_getElem]
      intro k m hk hm hkm x hx y hy e
      subst e
      exact h.page.apart hkm hm x hx hy
  have h1 := nodup_le (l := L.flatten) (n := n) nd (fun x hx => by
    obtain ⟨c, hc, hx⟩ := List.mem_flatten.1 hx
    obtain ⟨i, _, h2⟩ := h.page.cls hc
    exact ((h2.2 x).1 hx).1)
  have h2 : ∀ L : List (List Nat), (∀ c ∈ L, 0 < c.length) → L.length ≤ L.flatten.length := by
    intro L
    induction L with
    | nil => intro _; exact Nat.le_refl _
    | cons c L ih =>
      intro hc
      have := ih (fun d hd => hc d (List.mem_cons_of_mem _ hd))
      have := hc c (List.mem_cons_self ..)
      simp at *
      omega
  have h3 := h2 L (fun c hc => by
    obtain ⟨i, hi, h2⟩ := h.page.cls hc
    exact List.length_pos_of_mem (h2.self hi))
  have := h.count
  omega
def markL (dn : Nat → Bool) : List Nat → Nat → Bool
  | [] => dn
  | c :: l => markL (upd dn c true) l
theorem markL_snoc (dn : Nat → Bool) (l : List Nat) (c : Nat) : markL dn (l ++ [c]) = upd (markL dn l) c true := by
  induction l generalizing dn with
  | nil => rfl
  | cons a l ih => exact ih _
theorem markL_at (dn : Nat → Bool) (l : List Nat) (j : Nat) : markL dn l j = (dn j || decide (j ∈ l)) := by
  induction l generalizing dn with
  | nil => simp [markL]
  | cons a l ih =>
    rw [markL, ih]
    by_cases h : j = a
    · subst h; rw [upd_same]; simp
    · rw [upd_ne _ _ _ h]; simp [h]
theorem PS.next {A : Adj} {n : Nat} {M : Nat → Nat → Bool} {dn : Nat → Bool} {L : List (List Nat)} {count i : Nat} (h : PS A n dn L count) (hM : ∀ a c, a < n → c < n → (M a c = true ↔ TC A a c)) (hi : i < n) (hok : okB M dn i n = true) (hmin : ∀ i', i' < i → ¬ May A n L.flatten i') : PS A n (markL dn (compB M i n)) (L ++ [compB M i n]) (count + (compB M i n).length) ∧ 0 < (compB M i n).length := by
  have hcls := compB_cls hM hi
  refine ⟨⟨h.page.snoc ⟨(okB_may hM h.dn hi).1 hok, hmin⟩ hcls, fun j hj => ?_, ?_⟩, List.length_pos_of_mem (hcls.self hi)⟩
  · rw [markL_at, Bool.or_eq_true, decide_eq_true_iff, h.dn j hj]
    simp
  · rw [h.count]; simp
end Go.Proofs.Ytcpjlfhehjmfbaa.Gr
