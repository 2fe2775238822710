/- A list of lists of nodes in memory, each list a row of its own: made, read, one of its lists made longer. -/
import Derived.Test.YtcpjlfhehjmfbaaGrK
import Derived.Test.YtcpjlfhehjmfbaaGrD
namespace Go.Proofs.Ytcpjlfhehjmfbaa.Gr
open Go.RowKit Go.Shelf Go.Proofs.Ytcpjlfhehjmfbaa.Sg
set_option linter.unusedVariables false
set_option linter.unusedSimpArgs false

def intsN (l : List Nat) : List Value := l.map fun x : Nat => Value.int .i64 (x : Int)
theorem intsN_length (l : List Nat) : (intsN l).length = l.length := by simp [intsN]
theorem intsN_snoc (l : List Nat) (x : Nat) : intsN (l ++ [x]) = intsN l ++ [.int .i64 (x : Int)] := by simp [intsN]
def valsOf (n : Nat) (vs : Nat → Value) : List Value := (List.range n).map vs
theorem valsOf_length (n : Nat) (vs : Nat → Value) : (valsOf n vs).length = n := by simp [valsOf]
theorem valsOf_get {n i : Nat} (vs : Nat → Value) (h : i < n) : (valsOf n vs)[i]? = some (vs i) := by simp [valsOf, h]
theorem valsOf_set {n i : Nat} (vs : Nat → Value) (x : Value) : (valsOf n vs).set i x = valsOf n (upd vs i x) := by
  apply List.ext_getElem?
  intro j
  rw [List.getElem?_set]
  by_cases hj : j < n
  · by_cases e : i = j
    · subst e; rw [if_pos rfl, if_pos (by rw [valsOf_length]; exact hj), valsOf_get _ hj, upd_same]
    · rw [if_neg e, valsOf_get _ hj, valsOf_get _ hj, upd_ne _ _ _ (Ne.symm e)]
  · have h1 : ∀ g, (valsOf n g)[j]? = none := fun g => by rw [List.getElem?_eq_none]; rw [valsOf_length]; omega
    rw [h1, h1]
    by_cases e : i = j
    · subst e; rw [if_pos rfl, if_neg (by rw [valsOf_length]; exact hj)]
    · rw [if_neg e]
structure LLat (w : World) (B n b : Nat) (vs : Nat → Value) (L : Nat → List Nat) : Prop where
  outer : w.ownsRow B 22 1 (.slice (some ⟨b, 0, none⟩) n n) n (valsOf n vs)
  rows : ∀ j, j < n → w.ownsRow B 3 1 (vs j) (L j).length (intsN (L j))
  ne : ∀ j, j < n → (vs j).ownBlock ≠ some b
  apart : ∀ i j, i < n → j < n → i ≠ j → ∀ k, (vs i).ownBlock = some k → (vs j).ownBlock ≠ some k
/-- Its blocks. -/
def LF (n b : Nat) (vs : Nat → Value) (k : Nat) : Prop := k = b ∨ ∃ j, j < n ∧ (vs j).ownBlock = some k
theorem LLat.ge {w : World} {B n b : Nat} {vs : Nat → Value} {L : Nat → List Nat} (h : LLat w B n b vs L) : ∀ k, LF n b vs k → B ≤ k ∧ k < w.heap.size := by
  rintro k (rfl | ⟨j, hj, e⟩)
  · exact World.ownsRow.lt h.outer _ rfl
  · exact (h.rows j hj).lt k e
theorem LLat.kept {w W : World} {B n b : Nat} {vs : Nat → Value} {L : Nat → List Nat} {S : Nat → Prop} (h : LLat w B n b vs L) (hk : Kept w W S) (hS : ∀ k, LF n b vs k → ¬ S k) : LLat W B n b vs L :=
  ⟨own_kept hk h.outer (fun k e => by have e : b = k := Option.some.inj e; subst e; exact hS _ (.inl rfl)), fun j hj => own_kept hk (h.rows j hj) (fun k e => hS k (.inr ⟨j, hj, e⟩)), h.ne, h.apart⟩
theorem LLat.below {w W : World} {B n b : Nat} {vs : Nat → Value} {L : Nat → List Nat} (h : LLat w B n b vs L) (hb : Below w.heap.size w W) : LLat W B n b vs L :=
  h.kept (Kept.of_below hb (fun _ => False)) (fun _ _ h => h)
theorem LLat.cell {w : World} {B n b : Nat} {vs : Nat → Value} {L : Nat → List Nat} (h : LLat w B n b vs L) {c : Nat} (hc : c < n) : w.cell? ⟨b, c, none⟩ = some (vs c) ∧ w.frozen? ⟨b, c, none⟩ = false :=
  ⟨by rw [h.outer.cellAt c (by omega)]; exact valsOf_get _ hc, h.outer.frozenAt c⟩
theorem LLat.form {w : World} {B n b : Nat} {vs : Nat → Value} {L : Nat → List Nat} (h : LLat w B n b vs L) {c : Nat} (hc : c < n) : ∃ A cp, vs c = .slice A (L c).length cp := by
  rcases (h.rows c hc).2 with ⟨h1, h2⟩ | ⟨b', cap, cur, h1, _⟩
  · exact ⟨none, 0, by rw [h1, h2]⟩
  · exact ⟨_, _, h1⟩
abbrev Ns (n : Nat) : Obj := .cells (madeCells #[.slice none 0 0] n) 22
theorem LLat.new (w : World) (B n : Nat) (hB : B ≤ w.heap.size) (hn : n < 1000000) : LLat (w.alloc (Ns n)) B n w.heap.size (fun _ => .slice none 0 0) (fun _ => []) := by
  refine ⟨?_, fun j hj => World.ownsRow_nil _ _ _ _, fun j hj => by simp [Value.ownBlock], fun i j _ _ _ k h => by simp [Value.ownBlock] at h⟩
  have := owns_new w B 22 n (.slice none 0 0) hB (by omega)
  have e : valsOf n (fun _ => Value.slice none 0 0) = List.replicate n (.slice none 0 0) := by
    apply List.ext_getElem?
    intro i
    unfold valsOf
    by_cases h : i < n <;> simp [h]
  rw [e]
  exact this
/-- One of the lists is made longer. -/
theorem LLat.app {w w1 : World} {B n b c x : Nat} {vs : Nat → Value} {v1 : Value} {L : Nat → List Nat} {o : Obj} (h : LLat w B n b vs L) (hc : c < n) (hg : (w.alloc o).grownBy w1 (vs c).ownBlock)
    (ho : w1.ownsRow B 3 1 v1 ((L c).length + 1) (intsN (L c) ++ [.int .i64 (x : Int)])) (hb : v1.ownBlock = (vs c).ownBlock ∨ v1.ownBlock = some (w.alloc o).heap.size) :
    LLat (w1.setCell ⟨b, c, none⟩ v1) B n b (upd vs c v1) (upd L c (L c ++ [x])) ∧ Kept w (w1.setCell ⟨b, c, none⟩ v1) (LF n b vs) ∧ (∀ k, LF n b (upd vs c v1) k → LF n b vs k ∨ w.heap.size ≤ k) ∧ w1.cell? ⟨b, c, none⟩ = some (vs c) ∧ w1.frozen? ⟨b, c, none⟩ = false := by
  have hge := h.ge
  have k0 : Kept w w1 (fun k => (vs c).ownBlock = some k) := Kept.of_grown hg ((Kept.refl w _).alloc o) (fun k e => .inl e)
  have k1 : Kept w (w1.setCell ⟨b, c, none⟩ v1) (LF n b vs) := (k0.mono (fun k e => .inr ⟨c, hc, e⟩)).setCell (.inl (.inl rfl)) _
  have hnew : ∀ k, v1.ownBlock = some k → (vs c).ownBlock = some k ∨ w.heap.size ≤ k := fun k hk => by
    rcases hb with q | q
    · exact .inl (q ▸ hk)
    · right; rw [q] at hk; have := Option.some.inj hk; simp at this; omega
  have hout := own_kept k0 h.outer (fun k e => by have e : b = k := Option.some.inj e; subst e; exact h.ne c hc)
  have hv1 : v1.ownBlock ≠ some b := fun e => by
    rcases hnew b e with q | q
    · exact h.ne c hc q
    · have := (hge b (.inl rfl)).2; omega
  refine ⟨⟨?_, fun j hj => ?_, fun j hj => ?_, fun i j hi hj hij k hk => ?_⟩, k1, ?_, ?_, ?_⟩
  · have := (hout.stored c v1).1
    rw [valsOf_set] at this
    exact this
  · by_cases e : j = c
    · subst e
      rw [upd_same, upd_same, List.length_append, intsN_snoc]
      exact own_setv _ ho hv1
    · rw [upd_ne _ _ _ e, upd_ne _ _ _ e]
      exact own_setv _ (own_kept k0 (h.rows j hj) (fun k e2 e3 => h.apart j c hj hc e k e2 e3)) (h.ne j hj)
  · by_cases e : j = c
    · subst e; rw [upd_same]; exact hv1
    · rw [upd_ne _ _ _ e]; exact h.ne j hj
  · by_cases e : i = c
    · subst e
      rw [upd_same] at hk
      rw [upd_ne _ _ _ (Ne.symm hij)]
      rcases hnew k hk with q | q
      · exact h.apart i j hi hj hij k q
      · intro e2
        have := (hge k (.inr ⟨j, hj, e2⟩)).2
        omega
    · rw [upd_ne _ _ _ e] at hk
      by_cases e2 : j = c
      · subst e2
        rw [upd_same]
        intro e3
        rcases hnew k e3 with q | q
        · exact h.apart i j hi hj hij k hk q
        · have := (hge k (.inr ⟨i, hi, hk⟩)).2
          omega
      · rw [upd_ne _ _ _ e2]
        exact h.apart i j hi hj hij k hk
  · rintro k (rfl | ⟨j, hj, e⟩)
    · exact .inl (.inl rfl)
    · by_cases q : j = c
      · subst q
        rw [upd_same] at e
        exact (hnew k e).imp (fun q => .inr ⟨j, hj, q⟩) id
      · rw [upd_ne _ _ _ q] at e
        exact .inl (.inr ⟨j, hj, e⟩)
  · rw [hout.cellAt c (by omega)]; exact valsOf_get _ hc
  · exact hout.frozenAt c
theorem info_rowG : (Try.prog.info? 22).map (fun i => (i.zero, i.size, i.bytes)) = some (some (.slice none 0 0), 1, 24) := by kernel_rfl
theorem make_lists (n : Nat) (hn : n ≤ 1000000) (w : World) :
    (Instr.makeSlice 24 (.int .i64 (n : Int)) (.int .i64 (n : Int))).run Try.prog w = .ok (.slice (some ⟨w.heap.size, 0, none⟩) n n) (w.alloc (Ns n)) := by
  obtain ⟨i, hi, hz, hs, hb⟩ := info_parts info_rowG
  have hb' : (i.bytes : Int) * (n : Int) ≤ 281474976710656 := by
    have h : ((i.bytes * n : Nat) : Int) ≤ 281474976710656 := by rw [hb]; omega
    rwa [Int.natCast_mul] at h
  have hr := run_make (P := Try.prog) w 24 22 i _ Try.underlying24 hi hz .i64 .i64 n n (by omega) (Int.le_refl _) hb' (by omega)
  simp only [Int.toNat_natCast, hs] at hr
  simpa [Value.cells] using hr
end Go.Proofs.Ytcpjlfhehjmfbaa.Gr
