/- Pairs of rows whose keys are the same, as plain lists; how lists of pairs lie in memory. -/
import Derived.Test.YtmgoefhihljggaaSgXn
import Derived.Test.YtmgoefhihljggaaSgOp
namespace Go.Proofs.Ytmgoefhihljggaa.Sg
open Go.RowKit Go.Shelf
set_option linter.unusedVariables false
set_option linter.unusedSimpArgs false

abbrev PairsAt := SlP IntAt IntAt
theorem reads_pairs : Reads PairsAt := reads_slP reads_int reads_int
def cellsP : List (Int × Int) → List Value
  | [] => []
  | p :: l => .int .i64 p.1 :: .int .i64 p.2 :: cellsP l
theorem cellsP_append (a b : List (Int × Int)) : cellsP (a ++ b) = cellsP a ++ cellsP b := by
  induction a with
  | nil => rfl
  | cons p l ih => simp [cellsP, ih]
theorem cellsP_length (a : List (Int × Int)) : (cellsP a).length = a.length * 2 := by
  induction a with
  | nil => rfl
  | cons p l ih => simp [cellsP, ih]; omega
theorem cellsP_at : ∀ (xs : List (Int × Int)) (j : Nat) (h : j < xs.length), (cellsP xs)[j * 2]? = some (.int .i64 xs[j].1) ∧ (cellsP xs)[j * 2 + 1]? = some (.int .i64 xs[j].2)
  | p :: l, 0, _ => ⟨rfl, rfl⟩
  | p :: l, j + 1, h => by
    have := cellsP_at l j (by simpa using h)
    rw [show (j + 1) * 2 = j * 2 + 1 + 1 from by omega]
    simpa [cellsP] using this
theorem PairsAt.of_own {w : World} {B e n : Nat} {v : Value} {xs : List (Int × Int)} {cs : List Value} (ho : w.ownsRow B e 2 v n cs) (hn : n = xs.length) (hc : cs = cellsP xs) (hl : xs.length < 17592186044416) (hi : ∀ p ∈ xs, In64 p.1 ∧ In64 p.2) : PairsAt w (B ≤ ·) v xs := by
  subst hn; subst hc
  have hcl := cellsP_length xs
  rcases ho.2 with ⟨rfl, h0⟩ | ⟨b, cap, cur, rfl, hb, hh, hc, hm, hs, ht⟩
  · exact ⟨hl, none, 0, by rw [h0], by omega, by omega, fun h => by omega⟩
  · refine ⟨hl, _, cap, rfl, hc, by unfold maxLen at hm; omega, fun _ => ⟨b, 0, rfl, hb, fun j hj => ?_⟩⟩
    obtain ⟨q1, q2⟩ := cellsP_at xs j hj
    have h1 := ho.cellAt (j * 2) (by omega)
    have h2 := ho.cellAt (j * 2 + 1) (by omega)
    rw [Nat.zero_add]
    exact ⟨_, _, h1.trans q1, h2.trans q2, ⟨rfl, (hi _ (List.getElem_mem hj)).1⟩, ⟨rfl, (hi _ (List.getElem_mem hj)).2⟩⟩

/-- The pairs of one row: with each that has its key. -/
def pairsIn (KB : List Row) (K : Row) (i : Nat) : List (Int × Int) := (which KB K).map fun j : Int => ((i : Int), j)
def prs (KA KB : List Row) (i : Nat) : List (Int × Int) := (List.range i).flatMap fun t => pairsIn KB (KA.getD t []) t
theorem prs_succ (KA KB : List Row) (i : Nat) : prs KA KB (i + 1) = prs KA KB i ++ pairsIn KB (KA.getD i []) i := by
  unfold prs; rw [List.range_succ, List.flatMap_append]; simp
theorem pairsIn_le (KB : List Row) (K : Row) (i : Nat) : (pairsIn KB K i).length ≤ KB.length := by unfold pairsIn; rw [List.length_map]; exact which_le KB K
theorem prs_le (KA KB : List Row) (i : Nat) : (prs KA KB i).length ≤ i * KB.length := by
  induction i with
  | zero => simp [prs]
  | succ i ih =>
    rw [prs_succ, List.length_append, Nat.add_mul]
    have := pairsIn_le KB (KA.getD i []) i
    omega
theorem prs_few {KA KB : List Row} {i : Nat} (h1 : i ≤ 1000) (h2 : KB.length ≤ 1000) : (prs KA KB i).length ≤ 1000000 :=
  Nat.le_trans (prs_le KA KB i) (Nat.le_trans (Nat.mul_le_mul h1 h2) (by decide))
theorem pairsIn_mem {KB : List Row} {K : Row} {i : Nat} {p : Int × Int} (h : p ∈ pairsIn KB K i) : p.1 = i ∧ ∃ j : Nat, p.2 = j ∧ KB[j]? = some K := by
  obtain ⟨x, hx, rfl⟩ := List.mem_map.1 h
  exact ⟨rfl, (which_mem KB K x).1 hx⟩
theorem prs_mem {KA KB : List Row} {i : Nat} {p : Int × Int} (h : p ∈ prs KA KB i) : ∃ t j : Nat, p = ((t : Int), (j : Int)) ∧ t < i ∧ KB[j]? = some (KA.getD t []) := by
  unfold prs at h
  rw [List.mem_flatMap] at h
  obtain ⟨t, ht, hp⟩ := h
  obtain ⟨h1, j, h2, h3⟩ := pairsIn_mem hp
  exact ⟨t, j, Prod.ext h1 h2, List.mem_range.1 ht, h3⟩
theorem prs_in64 {KA KB : List Row} {i : Nat} (h1 : i ≤ 1000) (h2 : KB.length ≤ 1000) : ∀ p ∈ prs KA KB i, In64 p.1 ∧ In64 p.2 := fun p hp => by
  obtain ⟨t, j, rfl, ht, hj⟩ := prs_mem hp
  have := (List.getElem?_eq_some_iff.1 hj).1
  unfold In64
  simp only
  omega
/-- One row's pairs, up to one of the other side. -/
def pairsG (G : List Int) (i j : Nat) : List (Int × Int) := (G.take j).map fun x : Int => ((i : Int), x)
theorem pairsG_succ {G : List Int} {i j : Nat} (h : j < G.length) : pairsG G i (j + 1) = pairsG G i j ++ [((i : Int), G[j])] := by
  unfold pairsG; rw [List.take_succ_eq_append_getElem h, List.map_append]; rfl
theorem pairsG_all (G : List Int) (i : Nat) : pairsG G i G.length = G.map fun x : Int => ((i : Int), x) := by unfold pairsG; rw [List.take_length]
theorem pairsG_le (G : List Int) (i j : Nat) : (pairsG G i j).length ≤ G.length := by unfold pairsG; rw [List.length_map, List.length_take]; omega
def pairsU (KB : List Row) (K : Row) (i j : Nat) : List (Int × Int) := pairsIn (KB.take j) K i
theorem pairsU_yes {KB : List Row} {K : Row} {i j : Nat} (h : j < KB.length) (e : K = KB[j]) : pairsU KB K i (j + 1) = pairsU KB K i j ++ [((i : Int), (j : Int))] := by
  unfold pairsU pairsIn
  rw [List.take_succ_eq_append_getElem h, which_snoc]
  simp [e, Nat.min_eq_left (Nat.le_of_lt h)]
theorem pairsU_no {KB : List Row} {K : Row} {i j : Nat} (h : j < KB.length) (e : K ≠ KB[j]) : pairsU KB K i (j + 1) = pairsU KB K i j := by
  unfold pairsU pairsIn
  rw [List.take_succ_eq_append_getElem h, which_snoc]
  simp [e]
theorem pairsU_all (KB : List Row) (K : Row) (i : Nat) : pairsU KB K i KB.length = pairsIn KB K i := by unfold pairsU; rw [List.take_length]
theorem pairsU_le (KB : List Row) (K : Row) (i j : Nat) : (pairsU KB K i j).length ≤ KB.length := by
  unfold pairsU
  have := pairsIn_le (KB.take j) K i
  rw [List.length_take] at this
  omega
theorem info_pair : (Try.prog.info? 39).map (fun i => (i.zero, i.size, i.bytes)) = some (some (.agg #[.int .i64 0, .int .i64 0]), 2, 16) := by kernel_rfl
theorem news2q (w : World) (a b : Value) (T : TypeId) : ∀ j u, [a, b][j]? = some u → (w.alloc (.cells #[a, b] T)).cell? ((⟨w.heap.size, 0, none⟩ : Addr).add j) = some u := by
  intro j u hj
  match j, hj with
  | 0, hj => simp at hj; subst hj; simp [Addr.add]
  | 1, hj => simp at hj; subst hj; simp [Addr.add]
end Go.Proofs.Ytmgoefhihljggaa.Sg
