/- JoinParts, plain: the pairs of two parts of a set are those of the whole; two lists of rows built beside each other. -/
import Derived.Test.YtmgoefhihljggaaSgKe
import Derived.Test.YtmgoefhihljggaaSgKd
namespace Go.Proofs.Ytmgoefhihljggaa.Sg
open Go.RowKit Go.Shelf
set_option linter.unusedVariables false
set_option linter.unusedSimpArgs false

def lowP (c : Nat) (p : Int × Int) : Bool := decide (p.2 < (c : Int))
theorem prs_low (KA KB : List Row) (c n : Nat) : prs KA (KB.take c) n = (prs KA KB n).filter (lowP c) := by
  refine rising_ext (prs_rising _ _ _) ((prs_rising _ _ _).filter _) fun p => ?_
  rw [mem_prs, List.mem_filter, mem_prs]
  unfold lowP
  constructor
  · rintro ⟨t, j, rfl, ht, hj⟩
    rw [List.getElem?_take] at hj
    by_cases q : j < c
    · rw [if_pos q] at hj
      exact ⟨⟨t, j, rfl, ht, hj⟩, by simp only; rw [decide_eq_true_iff]; omega⟩
    · rw [if_neg q] at hj; cases hj
  · rintro ⟨⟨t, j, rfl, ht, hj⟩, hl⟩
    rw [decide_eq_true_iff] at hl
    simp only at hl
    exact ⟨t, j, rfl, ht, by rw [List.getElem?_take, if_pos (by omega)]; exact hj⟩
def upP (c : Nat) (p : Int × Int) : Int × Int := (p.1, p.2 + (c : Int))
theorem prs_high (KA KB : List Row) (c n : Nat) : (prs KA (KB.drop c) n).map (upP c) = (prs KA KB n).filter (fun p => !lowP c p) := by
  refine rising_ext ?_ ((prs_rising _ _ _).filter _) fun p => ?_
  · rw [List.pairwise_map]
    refine (prs_rising _ _ _).imp ?_
    intro a b h
    unfold pLt upP at *
    simp only
    omega
  · rw [List.mem_map, List.mem_filter, mem_prs]
    unfold lowP upP
    constructor
    · rintro ⟨q, hq, rfl⟩
      obtain ⟨t, j, rfl, ht, hj⟩ := mem_prs.1 hq
      rw [List.getElem?_drop] at hj
      refine ⟨⟨t, c + j, ?_, ht, hj⟩, by simp; omega⟩
      simp only
      congr 1
      omega
    · rintro ⟨⟨t, j, rfl, ht, hj⟩, hl⟩
      simp at hl
      refine ⟨((t : Int), ((j - c : Nat) : Int)), mem_prs.2 ⟨t, j - c, rfl, ht, ?_⟩, ?_⟩
      · rw [List.getElem?_drop, show c + (j - c) = j by omega]
        exact hj
      · simp only
        congr 1
        omega
/-- Where a filter's next element stands. -/
theorem filter_next {α : Type} {f : α → Bool} {l : List α} {t : Nat} (h : t < l.length) (hf : f l[t] = true) : (l.filter f)[((l.take t).filter f).length]? = some l[t] := by
  have e : l = l.take t ++ l[t] :: l.drop (t + 1) := by rw [← List.drop_eq_getElem_cons h, List.take_append_drop]
  conv => lhs; rw [e]
  rw [List.filter_append, List.filter_cons, if_pos hf, List.getElem?_append_right (by rw [← e]; exact Nat.le_refl _)]
  rw [← e, Nat.sub_self]
  rfl
theorem filter_step {α : Type} {f : α → Bool} {l : List α} {t : Nat} (h : t < l.length) : ((l.take (t + 1)).filter f).length = ((l.take t).filter f).length + (if f l[t] then 1 else 0) := by
  rw [List.take_succ_eq_append_getElem h, List.filter_append, List.length_append]
  cases hf : f l[t] <;> simp [hf]
/-- How many of the first t pairs lie in the first part, in the second. -/
def cntL (c : Nat) (P : List (Int × Int)) (t : Nat) : Nat := ((P.take t).filter (lowP c)).length
def cntH (c : Nat) (P : List (Int × Int)) (t : Nat) : Nat := ((P.take t).filter fun p => !lowP c p).length
theorem cnt_low {c : Nat} {P : List (Int × Int)} {t : Nat} (h : t < P.length) (hl : P[t].2 < (c : Int)) : cntL c P (t + 1) = cntL c P t + 1 ∧ cntH c P (t + 1) = cntH c P t := by
  have e : lowP c P[t] = true := by unfold lowP; rw [decide_eq_true_iff]; exact hl
  unfold cntL cntH
  rw [filter_step h, filter_step h, e]
  exact ⟨rfl, rfl⟩
theorem cnt_high {c : Nat} {P : List (Int × Int)} {t : Nat} (h : t < P.length) (hl : ¬ P[t].2 < (c : Int)) : cntL c P (t + 1) = cntL c P t ∧ cntH c P (t + 1) = cntH c P t + 1 := by
  have e : lowP c P[t] = false := by unfold lowP; rw [decide_eq_false_iff_not]; exact hl
  unfold cntL cntH
  rw [filter_step h, filter_step h, e]
  exact ⟨rfl, rfl⟩
theorem low_at {KA KB : List Row} {c n t : Nat} (h : t < (prs KA KB n).length) (hl : (prs KA KB n)[t].2 < (c : Int)) : (prs KA (KB.take c) n)[cntL c (prs KA KB n) t]? = some (prs KA KB n)[t] := by
  rw [prs_low]
  exact filter_next h (by unfold lowP; rw [decide_eq_true_iff]; exact hl)
theorem high_at {KA KB : List Row} {c n t : Nat} (h : t < (prs KA KB n).length) (hl : ¬ (prs KA KB n)[t].2 < (c : Int)) : ∃ q, (prs KA (KB.drop c) n)[cntH c (prs KA KB n) t]? = some q ∧ q.1 = (prs KA KB n)[t].1 ∧ q.2 + (c : Int) = (prs KA KB n)[t].2 := by
  have e : lowP c (prs KA KB n)[t] = false := by unfold lowP; rw [decide_eq_false_iff_not]; exact hl
  have := filter_next (f := fun p => !lowP c p) h (by show (!lowP c (prs KA KB n)[t]) = true; rw [e]; rfl)
  rw [← prs_high, List.getElem?_map] at this
  obtain ⟨q, hq, he⟩ := Option.map_eq_some_iff.1 this
  refine ⟨q, hq, ?_, ?_⟩
  · rw [← he]; rfl
  · rw [← he]; rfl
theorem cnt_all (KA KB : List Row) (c n : Nat) : cntL c (prs KA KB n) (prs KA KB n).length = (prs KA (KB.take c) n).length ∧ cntH c (prs KA KB n) (prs KA KB n).length = (prs KA (KB.drop c) n).length := by
  unfold cntL cntH
  rw [List.take_length, prs_low, ← prs_high, List.length_map]
  exact ⟨rfl, rfl⟩
theorem norm_sub {n : Nat} {L M : List Row} (hs : SS L) (hw : ∀ r ∈ L, r.length = n) (h : M.Sublist L) : norm n M = M :=
  (norm_eq (hs.sublist h) (fun x => ⟨fun q => ⟨q, hw x (h.subset q)⟩, fun q => q.1⟩)).symm
/-- The other of two lists, behind an append to the one. -/
theorem BuiltBy.otherZ {w w1 : World} {o : Obj} {B e b c b1 cap n : Nat} {xs : List Row} {cs : List Value}
    (h : BuiltBy RowAt w B e (fun k => k ≠ c ∧ k ≠ b) (.slice (some ⟨c, 0, none⟩) n cap) xs cs) (hg : (w.alloc o).grownBy w1 (some b)) (hb : b1 = b ∨ b1 = w.heap.size + 1) (hne : c ≠ b) (hz : c < w.heap.size) : BuiltBy RowAt w1 B e (fun k => k ≠ c ∧ k ≠ b1) (.slice (some ⟨c, 0, none⟩) n cap) xs cs := by
  have h2 := h.monoOk (ok2 := fun k => k ≠ c ∧ k ≠ b ∧ k < w.heap.size) (fun k hk hl => ⟨hk.1, hk.2, hl⟩)
  have h3 := h2.stays reads_row (Stays.alloc (fun _ => True) w o) (fun _ _ _ => trivial) (fun _ _ => trivial)
  have h4 := h3.stays reads_row (Stays.of_grown hg) (fun k hk _ e => hk.2.1 (Option.some.inj e).symm) (fun k hk e => by
    have e1 : c = k := Option.some.inj hk
    have e2 : b = k := Option.some.inj e
    exact hne (by omega))
  exact h4.monoOk (fun k hk _ => ⟨hk.1, by omega⟩)
end Go.Proofs.Ytmgoefhihljggaa.Sg
