/- A square of truths in memory: made row by row, read, written. -/
import Derived.Test.YtcpjlfhehjmfbaaGrQ
import Derived.Test.YtcpjlfhehjmfbaaGrW
namespace Go.Proofs.Ytcpjlfhehjmfbaa.Gr
open Go.RowKit Go.Shelf Go.Proofs.Ytcpjlfhehjmfbaa.Sg
set_option linter.unusedVariables false
set_option linter.unusedSimpArgs false

def bools (n : Nat) (f : Nat → Bool) : List Value := (List.range n).map fun v => Value.bool (f v)
theorem bools_length (n : Nat) (f : Nat → Bool) : (bools n f).length = n := by simp [bools]
theorem bools_get {n i : Nat} (f : Nat → Bool) (h : i < n) : (bools n f)[i]? = some (.bool (f i)) := by simp [bools, h]
theorem bools_set {n i : Nat} (f : Nat → Bool) (x : Bool) : (bools n f).set i (.bool x) = bools n (upd f i x) := by
  apply List.ext_getElem?
  intro j
  rw [List.getElem?_set]
  by_cases hj : j < n
  · by_cases e : i = j
    · subst e; rw [if_pos rfl, if_pos (by rw [bools_length]; exact hj), bools_get _ hj, upd_same]
    · rw [if_neg e, bools_get _ hj, bools_get _ hj, upd_ne _ _ _ (Ne.symm e)]
  · have h1 : ∀ g, (bools n g)[j]? = none := fun g => by rw [List.getElem?_eq_none]; rw [bools_length]; omega
    rw [h1, h1]
    by_cases e : i = j
    · subst e; rw [if_pos rfl, if_neg (by rw [bools_length]; exact hj)]
    · rw [if_neg e]
theorem bools_false (n : Nat) : bools n (fun _ => false) = List.replicate n (.bool false) := by
  apply List.ext_getElem?
  intro i
  unfold bools
  by_cases h : i < n <;> simp [h]
def upd2 (M : Nat → Nat → Bool) (i j : Nat) (x : Bool) : Nat → Nat → Bool := upd M i (upd (M i) j x)
theorem upd2_at (M : Nat → Nat → Bool) (i j : Nat) (x : Bool) (a c : Nat) : upd2 M i j x a c = if a = i ∧ c = j then x else M a c := by
  unfold upd2
  by_cases h : a = i
  · subst h
    rw [upd_same]
    by_cases h2 : c = j
    · subst h2; rw [upd_same, if_pos ⟨rfl, rfl⟩]
    · rw [upd_ne _ _ _ h2, if_neg (fun k => h2 k.2)]
  · rw [upd_ne _ _ _ h, if_neg (fun k => h k.1)]
def rowsV (n m : Nat) (bs : Nat → Nat) : Nat → Value := fun j => if j < m then .slice (some ⟨bs j, 0, none⟩) n n else .slice none 0 0
structure BB (w : World) (B n b m : Nat) (bs : Nat → Nat) (M : Nat → Nat → Bool) : Prop where
  outer : w.ownsRow B 42 1 (.slice (some ⟨b, 0, none⟩) n n) n (valsOf n (rowsV n m bs))
  rows : ∀ j, j < m → w.ownsRow B 4 1 (.slice (some ⟨bs j, 0, none⟩) n n) n (bools n (M j))
  ne : ∀ j, j < m → bs j ≠ b
  apart : ∀ i j, i < m → j < m → i ≠ j → bs i ≠ bs j
def BF (b m : Nat) (bs : Nat → Nat) (k : Nat) : Prop := k = b ∨ ∃ j, j < m ∧ k = bs j
theorem BB.ge {w : World} {B n b m : Nat} {bs : Nat → Nat} {M : Nat → Nat → Bool} (h : BB w B n b m bs M) : ∀ k, BF b m bs k → B ≤ k ∧ k < w.heap.size := by
  rintro k (rfl | ⟨j, hj, rfl⟩)
  · exact World.ownsRow.lt h.outer _ rfl
  · exact World.ownsRow.lt (h.rows j hj) _ rfl
theorem BB.kept {w W : World} {B n b m : Nat} {bs : Nat → Nat} {M : Nat → Nat → Bool} {S : Nat → Prop} (h : BB w B n b m bs M) (hk : Kept w W S) (hS : ∀ k, BF b m bs k → ¬ S k) : BB W B n b m bs M :=
  ⟨own_kept hk h.outer (fun k e => by have e : b = k := Option.some.inj e; subst e; exact hS _ (.inl rfl)), fun j hj => own_kept hk (h.rows j hj) (fun k e => by have e : bs j = k := Option.some.inj e; subst e; exact hS _ (.inr ⟨j, hj, rfl⟩)), h.ne, h.apart⟩
theorem BB.below {w W : World} {B n b m : Nat} {bs : Nat → Nat} {M : Nat → Nat → Bool} (h : BB w B n b m bs M) (hb : Below w.heap.size w W) : BB W B n b m bs M :=
  h.kept (Kept.of_below hb (fun _ => False)) (fun _ _ h => h)
theorem BB.row {w : World} {B n b m : Nat} {bs : Nat → Nat} {M : Nat → Nat → Bool} (h : BB w B n b m bs M) {i : Nat} (hi : i < m) (hm : m ≤ n) : w.cell? ⟨b, i, none⟩ = some (.slice (some ⟨bs i, 0, none⟩) n n) ∧ w.frozen? ⟨b, i, none⟩ = false := by
  refine ⟨?_, h.outer.frozenAt i⟩
  rw [h.outer.cellAt i (by omega), valsOf_get _ (by omega)]
  unfold rowsV
  rw [if_pos hi]
theorem BB.cell {w : World} {B n b m : Nat} {bs : Nat → Nat} {M : Nat → Nat → Bool} (h : BB w B n b m bs M) {i j : Nat} (hi : i < m) (hj : j < n) : w.cell? ⟨bs i, j, none⟩ = some (.bool (M i j)) ∧ w.frozen? ⟨bs i, j, none⟩ = false :=
  ⟨by rw [(h.rows i hi).cellAt j (by omega)]; exact bools_get _ hj, (h.rows i hi).frozenAt j⟩
abbrev Bs (n : Nat) : Obj := .cells (madeCells #[.bool false] n) 4
abbrev Rs (n : Nat) : Obj := .cells (madeCells #[.slice none 0 0] n) 42
theorem BB.new (w : World) (B n : Nat) (M : Nat → Nat → Bool) (hB : B ≤ w.heap.size) (hn : n < 1000000) : BB (w.alloc (Rs n)) B n w.heap.size 0 (fun _ => 0) M := by
  refine ⟨?_, fun j hj => by omega, fun j hj => by omega, fun i j hi => by omega⟩
  have := owns_new w B 42 n (.slice none 0 0) hB (by omega)
  have e : valsOf n (rowsV n 0 (fun _ => 0)) = List.replicate n (.slice none 0 0) := by
    apply List.ext_getElem?
    intro i
    unfold valsOf rowsV
    by_cases h : i < n <;> simp [h]
  rw [e]
  exact this
/-- Another row is made. -/
theorem BB.add {w : World} {B n b m : Nat} {bs : Nat → Nat} {M : Nat → Nat → Bool} (h : BB w B n b m bs M) (hm : m < n) (hB : B ≤ w.heap.size) (hn : n < 1000000) : BB ((w.alloc (Bs n)).setCell ⟨b, m, none⟩ (.slice (some ⟨w.heap.size, 0, none⟩) n n)) B n b (m + 1) (upd bs m w.heap.size) (upd M m (fun _ => false)) := by
  have hge := h.ge
  have hbl : b < w.heap.size := (hge b (.inl rfl)).2
  have ha := h.below (below_alloc0 (Below.refl _ _) (Bs n))
  have hne : ∀ j, j < m + 1 → upd bs m w.heap.size j ≠ b := fun j hj => by
    by_cases e : j = m
    · subst e; rw [upd_same]; omega
    · rw [upd_ne _ _ _ e]; exact h.ne j (by omega)
  refine ⟨?_, fun j hj => ?_, hne, fun i j hi hj hij => ?_⟩
  · have := (ha.outer.stored m (.slice (some ⟨w.heap.size, 0, none⟩) n n)).1
    rw [valsOf_set] at this
    have e : upd (rowsV n m bs) m (.slice (some ⟨w.heap.size, 0, none⟩) n n) = rowsV n (m + 1) (upd bs m w.heap.size) := by
      funext j
      unfold rowsV
      by_cases e : j = m
      · subst e; rw [upd_same, upd_same, if_pos (by omega)]
      · rw [upd_ne _ _ _ e, upd_ne _ _ _ e]
        by_cases q : j < m
        · rw [if_pos q, if_pos (by omega)]
        · rw [if_neg q, if_neg (by omega)]
    rw [← e]
    exact this
  · by_cases e : j = m
    · subst e
      rw [upd_same, upd_same, bools_false]
      exact own_set _ (owns_new w B 4 n (.bool false) hB (by omega)) (by omega)
    · rw [upd_ne _ _ _ e, upd_ne _ _ _ e]
      exact own_set _ (ha.rows j (by omega)) (h.ne j (by omega))
  · by_cases e : i = m
    · subst e
      rw [upd_same, upd_ne _ _ _ (Ne.symm hij)]
      have := (hge (bs j) (.inr ⟨j, by omega, rfl⟩)).2
      omega
    · rw [upd_ne _ _ _ e]
      by_cases e2 : j = m
      · subst e2
        rw [upd_same]
        have := (hge (bs i) (.inr ⟨i, by omega, rfl⟩)).2
        omega
      · rw [upd_ne _ _ _ e2]; exact h.apart i j (by omega) (by omega) hij
theorem BB.set {w : World} {B n b m : Nat} {bs : Nat → Nat} {M : Nat → Nat → Bool} (h : BB w B n b m bs M) {i : Nat} (hi : i < m) (j : Nat) (x : Bool) : BB (w.setCell ⟨bs i, j, none⟩ (.bool x)) B n b m bs (upd2 M i j x) := by
  refine ⟨own_set _ h.outer (Ne.symm (h.ne i hi)), fun k hk => ?_, h.ne, h.apart⟩
  unfold upd2
  by_cases e : k = i
  · subst e
    rw [upd_same]
    have := ((h.rows k hk).stored j (.bool x)).1
    rw [bools_set] at this
    exact this
  · rw [upd_ne _ _ _ e]
    exact own_set _ (h.rows k hk) (h.apart k i hk hi e)
theorem info_boolG : (Try.prog.info? 4).map (fun i => (i.zero, i.size, i.bytes)) = some (some (.bool false), 1, 1) := by kernel_rfl
theorem info_boolsG : (Try.prog.info? 42).map (fun i => (i.zero, i.size, i.bytes)) = some (some (.slice none 0 0), 1, 24) := by kernel_rfl
theorem make_bools (n : Nat) (hn : n ≤ 1000000) (w : World) :
    (Instr.makeSlice 42 (.int .i64 (n : Int)) (.int .i64 (n : Int))).run Try.prog w = .ok (.slice (some ⟨w.heap.size, 0, none⟩) n n) (w.alloc (Bs n)) := by
  obtain ⟨i, hi, hz, hs, hb⟩ := info_parts info_boolG
  have hb' : (i.bytes : Int) * (n : Int) ≤ 281474976710656 := by
    have h : ((i.bytes * n : Nat) : Int) ≤ 281474976710656 := by rw [hb]; omega
    rwa [Int.natCast_mul] at h
  have hr := run_make (P := Try.prog) w 42 4 i _ Try.underlying42 hi hz .i64 .i64 n n (by omega) (Int.le_refl _) hb' (by omega)
  simp only [Int.toNat_natCast, hs] at hr
  simpa [Value.cells] using hr
theorem make_rows (n : Nat) (hn : n ≤ 1000000) (w : World) :
    (Instr.makeSlice 40 (.int .i64 (n : Int)) (.int .i64 (n : Int))).run Try.prog w = .ok (.slice (some ⟨w.heap.size, 0, none⟩) n n) (w.alloc (Rs n)) := by
  obtain ⟨i, hi, hz, hs, hb⟩ := info_parts info_boolsG
  have hb' : (i.bytes : Int) * (n : Int) ≤ 281474976710656 := by
    have h : ((i.bytes * n : Nat) : Int) ≤ 281474976710656 := by rw [hb]; omega
    rwa [Int.natCast_mul] at h
  have hr := run_make (P := Try.prog) w 40 42 i _ Try.underlying40 hi hz .i64 .i64 n n (by omega) (Int.le_refl _) hb' (by omega)
  simp only [Int.toNat_natCast, hs] at hr
  simpa [Value.cells] using hr
/-! ### the ways, in place -/
structure WI (A : Adj) (n k i j : Nat) (M : Nat → Nat → Bool) : Prop where
  sound : ∀ a c, a < n → c < n → M a c = true → TC A a c
  all : ∀ a c, a < n → c < n → Thru A k a c → M a c = true
  done : ∀ a c, a < n → c < n → (a < i ∨ (a = i ∧ c < j)) → Thru A (k + 1) a c → M a c = true
def warsh (M : Nat → Nat → Bool) (k i j : Nat) : Bool := M i j || (M i k && M k j)
theorem warsh_ik (M : Nat → Nat → Bool) (k i j : Nat) : upd2 M i j (warsh M k i j) i k = M i k := by
  rw [upd2_at]
  split
  · rename_i h
    rw [← h.2]
    unfold warsh
    cases M i k <;> simp
  · rfl
theorem warsh_kj (M : Nat → Nat → Bool) (k i j : Nat) : upd2 M i j (warsh M k i j) k j = M k j := by
  rw [upd2_at]
  split
  · rename_i h
    rw [h.1]
    unfold warsh
    cases M i j <;> simp
  · rfl
theorem WI.step {A : Adj} {n k i j : Nat} {M : Nat → Nat → Bool} (h : WI A n k i j M) (hk : k < n) (hi : i < n) (hj : j < n) : WI A n k i (j + 1) (upd2 M i j (warsh M k i j)) := by
  have hle : ∀ a c, M a c = true → upd2 M i j (warsh M k i j) a c = true := fun a c ha => by
    rw [upd2_at]
    split
    · rename_i q
      rw [q.1, q.2] at ha
      unfold warsh
      rw [ha]; rfl
    · exact ha
  refine ⟨fun a c ha hc hm => ?_, fun a c ha hc ht => hle a c (h.all a c ha hc ht), fun a c ha hc hac ht => ?_⟩
  · rw [upd2_at] at hm
    split at hm
    · rename_i q
      rw [q.1, q.2]
      unfold warsh at hm
      rw [Bool.or_eq_true, Bool.and_eq_true] at hm
      rcases hm with hm | ⟨h1, h2⟩
      · exact h.sound i j hi hj hm
      · exact (h.sound i k hi hk h1).trans (h.sound k j hk hj h2)
    · exact h.sound a c ha hc hm
  · by_cases q : a = i ∧ c = j
    · rw [upd2_at, if_pos q]
      rw [q.1, q.2] at ht
      unfold warsh
      rcases ht with ht | ⟨h1, h2⟩
      · rw [h.all i j hi hj ht]; rfl
      · rw [h.all i k hi hk h1, h.all k j hk hj h2]; simp
    · refine hle a c (h.done a c ha hc ?_ ht)
      rcases hac with q1 | ⟨q1, q2⟩
      · exact .inl q1
      · exact .inr ⟨q1, by
          have : c ≠ j := fun e => q ⟨q1, e⟩
          omega⟩
theorem WI.row {A : Adj} {n k i : Nat} {M : Nat → Nat → Bool} (h : WI A n k i n M) : WI A n k (i + 1) 0 M :=
  ⟨h.sound, h.all, fun a c ha hc hac ht => h.done a c ha hc (by
    rcases hac with q | ⟨q, q2⟩
    · by_cases e : a = i
      · exact .inr ⟨e, hc⟩
      · exact .inl (by omega)
    · omega) ht⟩
theorem WI.round {A : Adj} {n k : Nat} {M : Nat → Nat → Bool} (h : WI A n k n 0 M) : WI A n (k + 1) 0 0 M :=
  ⟨h.sound, fun a c ha hc ht => h.done a c ha hc (.inl ha) ht, fun a c ha hc hac _ => by omega⟩
theorem WI.start {A : Adj} {n : Nat} {M : Nat → Nat → Bool} (h : ∀ a c, a < n → c < n → (M a c = true ↔ Edge A a c)) : WI A n 0 0 0 M :=
  ⟨fun a c ha hc hm => .one ((h a c ha hc).1 hm), fun a c ha hc ht => (h a c ha hc).2 ht, fun a c ha hc hac _ => by omega⟩
theorem WI.fin {A : Adj} {n : Nat} {M : Nat → Nat → Bool} (hA : ∀ u t, Edge A u t → t < n) (h : WI A n n 0 0 M) : ∀ a c, a < n → c < n → (M a c = true ↔ TC A a c) :=
  fun a c ha hc => ⟨h.sound a c ha hc, fun ht => h.all a c ha hc ((thru_all hA a c).2 ht)⟩
end Go.Proofs.Ytcpjlfhehjmfbaa.Gr
