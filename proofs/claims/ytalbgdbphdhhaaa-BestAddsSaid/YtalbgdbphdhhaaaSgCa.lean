/- A cost of a key put into rows by the page, plain: the same rows as Best's, in another order. -/
import Derived.Test.YtalbgdbphdhhaaaSgBh
import Derived.Test.YtalbgdbphdhhaaaSgBo
namespace Go.Proofs.Ytalbgdbphdhhaaa.Sg
open Go.RowKit Go.Shelf
set_option linter.unusedVariables false
set_option linter.unusedSimpArgs false

def putL (W : Nat) (great : Bool) (rows : List Row) (key : Row) (cost : Int) : List Row × Bool :=
  match idxB W rows key with
  | none => (rows ++ [key ++ [cost]], true)
  | some i => if betterB great cost (costB W rows i) = true then (rows.eraseIdx i ++ [key ++ [cost]], true) else (rows, false)
theorem GoodB.perm {W : Nat} {Q R : List Row} (h : GoodB W R) (p : Q.Perm R) : GoodB W Q := ⟨fun r hr => h.row r (p.mem_iff.1 hr), (p.map _).nodup_iff.2 h.nod⟩
theorem idx_perm_none {W : Nat} {Q R : List Row} {key : Row} (p : Q.Perm R) (h : idxB W R key = none) : idxB W Q key = none := by
  cases hq : idxB W Q key with
  | none => rfl
  | some j =>
    obtain ⟨hj, hjk⟩ := idxB_some hq
    exact absurd (hjk ▸ mem_keysB (p.mem_iff.1 (List.getElem_mem hj))) (idxB_none h)
theorem idx_perm_some {W : Nat} {Q R : List Row} {key : Row} {i : Nat} (hg : GoodB W R) (p : Q.Perm R) (h : idxB W R key = some i) : ∃ j, idxB W Q key = some j ∧ ∃ (hj : j < Q.length) (hi : i < R.length), Q[j] = R[i] := by
  obtain ⟨hi, hik⟩ := idxB_some h
  have hm : key ∈ keysB W Q := hik ▸ mem_keysB (p.mem_iff.2 (List.getElem_mem hi))
  obtain ⟨j, hj⟩ := key_idx hm
  obtain ⟨hjl, hjk⟩ := idxB_some hj
  obtain ⟨i', hi', e⟩ := List.getElem_of_mem (p.mem_iff.1 (List.getElem_mem hjl))
  have : i' = i := hg.uniq hi' hi (by rw [e, hjk, hik])
  subst this
  exact ⟨j, hj, hjl, hi', e.symm⟩
theorem erase_perm : ∀ (l : List Row) (n : Nat) (h : n < l.length), (l[n] :: l.eraseIdx n).Perm l
  | a :: l, 0, _ => List.Perm.refl _
  | a :: l, n + 1, h => (List.Perm.swap a (l[n]'(by simpa using h)) (l.eraseIdx n)).trans ((erase_perm l n (by simpa using h)).cons a)
theorem perm_put {W : Nat} {great : Bool} {Q R : List Row} {key : Row} {cost : Int} (hg : GoodB W R) (p : Q.Perm R) : (putL W great Q key cost).1.Perm (putB W great R key cost).1 ∧ (putL W great Q key cost).2 = (putB W great R key cost).2 := by
  unfold putL putB
  cases h : idxB W R key with
  | none => rw [idx_perm_none p h]; exact ⟨p.append_right _, rfl⟩
  | some i =>
    obtain ⟨j, hj, hjl, hi, e⟩ := idx_perm_some hg p h
    rw [hj]
    have hc : costB W Q j = costB W R i := by rw [costB_at hjl, costB_at hi, e]
    simp only [hc]
    by_cases hb : betterB great cost (costB W R i) = true
    · rw [if_pos hb, if_pos hb]
      refine ⟨?_, rfl⟩
      have p1 := erase_perm Q j hjl
      have p2 := erase_perm R i hi
      have p3 : (Q.eraseIdx j).Perm (R.eraseIdx i) := by
        have := (p1.trans p).trans p2.symm
        rw [e] at this
        exact this.cons_inv
      have hi2 : i < (R.set i (key ++ [cost])).length := by rw [List.length_set]; exact hi
      have p4 := erase_perm _ i hi2
      rw [List.eraseIdx_set_eq, List.getElem_set_self] at p4
      exact ((List.perm_append_comm).trans (p3.cons _)).trans p4
    · rw [if_neg hb, if_neg hb]
      exact ⟨p, rfl⟩
theorem perm_get {W : Nat} {Q R : List Row} {key : Row} (hg : GoodB W R) (p : Q.Perm R) : getB W Q key = getB W R key := by
  unfold getB
  cases h : idxB W R key with
  | none => rw [idx_perm_none p h]; rfl
  | some i =>
    obtain ⟨j, hj, hjl, hi, e⟩ := idx_perm_some hg p h
    rw [hj]
    simp only [Option.map_some]
    rw [costB_at hjl, costB_at hi, e]
theorem putL_good {W : Nat} {great : Bool} {Q : List Row} {key : Row} {cost : Int} (h : GoodB W Q) (hk : key.length = W) (hi : ∀ x ∈ key, In64 x) (hc : In64 cost) : GoodB W (putL W great Q key cost).1 := by
  have p := perm_put (great := great) (key := key) (cost := cost) h (List.Perm.refl Q)
  refine GoodB.perm ?_ p.1
  unfold putB
  cases h1 : idxB W Q key with
  | none => exact h.snoc hk hi hc h1
  | some i =>
    simp only
    split
    · exact h.set hk hi hc h1
    · exact h
theorem putL_len (W : Nat) (great : Bool) (Q : List Row) (key : Row) (cost : Int) : (putL W great Q key cost).1.length ≤ Q.length + 1 := by
  unfold putL
  cases idxB W Q key with
  | none => simp
  | some i =>
    simp only
    split
    · have := List.length_eraseIdx_le Q i
      simp; omega
    · simp
/-- Where a key stands, by the page. -/
def isAt (key r : Row) : Bool := decide (r.length = key.length + 1) && decide (r.take key.length = key)
def idxP (rows : List Row) (key : Row) : Option Nat := rows.findIdx? (isAt key)
def placeI (rows : List Row) (key : Row) : Int := match idxP rows key with | some i => i | none => -1
theorem idxP_idxB {W : Nat} {rows : List Row} {key : Row} (h : ∀ r ∈ rows, r.length = W + 1) (hk : key.length = W) : idxP rows key = idxB W rows key := by
  unfold idxP idxB keysB
  rw [List.findIdx?_map]
  induction rows with
  | nil => rfl
  | cons r rows ih =>
    rw [List.findIdx?_cons, List.findIdx?_cons, ih (fun q hq => h q (List.mem_cons_of_mem _ hq))]
    have hr := h r (List.mem_cons_self ..)
    have e : isAt key r = ((fun x => x == key) ∘ fun r => List.take W r) r := by
      unfold isAt
      rw [hk, decide_eq_true hr, Bool.true_and]
      rw [Bool.eq_iff_iff]
      simp
    rw [e]
theorem idxP_none {rows : List Row} {key : Row} (h : ∀ j (hj : j < rows.length), isAt key rows[j] = false) : idxP rows key = none := by
  unfold idxP
  rw [List.findIdx?_eq_none_iff]
  intro r hr
  obtain ⟨j, hj, rfl⟩ := List.getElem_of_mem hr
  exact h j hj
theorem idxP_some {rows : List Row} {key : Row} {i : Nat} (hi : i < rows.length) (h : isAt key rows[i] = true) (hb : ∀ j (hj : j < rows.length), j < i → isAt key rows[j] = false) : idxP rows key = some i := by
  unfold idxP
  rw [List.findIdx?_eq_some_iff_getElem]
  exact ⟨hi, h, fun j hji => by simp [hb j (by omega) hji]⟩
/-- The rows up to one, without the key's old one. -/
def upTo (o : Option Nat) (rows : List Row) (j : Nat) : List Row := match o with | none => rows.take j | some i => (rows.take j).eraseIdx i
theorem upTo_yes {o : Option Nat} {rows : List Row} {j : Nat} (h : j < rows.length) (ho : o ≠ some j) : upTo o rows (j + 1) = upTo o rows j ++ [rows[j]] := by
  cases o with
  | none => exact List.take_succ_eq_append_getElem h
  | some i =>
    unfold upTo
    simp only
    have hl : (rows.take j).length = j := by rw [List.length_take]; omega
    rw [List.take_succ_eq_append_getElem h]
    rcases Nat.lt_trichotomy i j with q | q | q
    · rw [List.eraseIdx_append_of_lt_length (by omega)]
    · subst q; exact absurd rfl ho
    · rw [List.eraseIdx_of_length_le (by rw [List.length_append, hl]; simp; omega), List.eraseIdx_of_length_le (by omega)]
theorem upTo_no {rows : List Row} {j : Nat} (h : j < rows.length) : upTo (some j) rows (j + 1) = upTo (some j) rows j := by
  unfold upTo
  simp only
  have hl : (rows.take j).length = j := by rw [List.length_take]; omega
  rw [List.take_succ_eq_append_getElem h, List.eraseIdx_append_of_length_le (by omega), hl, Nat.sub_self, List.eraseIdx_of_length_le (l := rows.take j) (by omega)]
  simp
theorem upTo_le (o : Option Nat) (rows : List Row) (j : Nat) : (upTo o rows j).length ≤ j := by
  cases o with
  | none => unfold upTo; simp; omega
  | some i => unfold upTo; simp only; have := List.length_eraseIdx_le (rows.take j) i; rw [List.length_take] at this; omega
def eraseO (o : Option Nat) (rows : List Row) : List Row := match o with | none => rows | some i => rows.eraseIdx i
theorem upTo_all (o : Option Nat) (rows : List Row) : upTo o rows rows.length = eraseO o rows := by
  cases o <;> simp [upTo, eraseO]
theorem upTo_zero (o : Option Nat) (rows : List Row) : upTo o rows 0 = [] := by cases o <;> simp [upTo]
end Go.Proofs.Ytalbgdbphdhhaaa.Sg
