/- GraphComponents: the walk. -/
import Derived.Test.YtcpjlfhehjmfbaaGsG
import Derived.Test.YtcpjlfhehjmfbaaGsB
namespace Go.Proofs.Ytcpjlfhehjmfbaa.Gr
open Go.RowKit Go.Shelf Go.Proofs.Ytcpjlfhehjmfbaa.Sg
set_option linter.unusedVariables false
set_option linter.unusedSimpArgs false

theorem and_maskG (x : Int) (c : Nat) (hc : c < 9223372036854775808) : ∃ m : Nat, m ≤ c ∧ bits .and .i64 x (c : Int) = (m : Int) := by
  refine ⟨(BitVec.ofInt 64 x &&& BitVec.ofInt 64 (c : Int)).toNat, ?_, ?_⟩
  · rw [BitVec.toNat_and]
    refine Nat.le_trans Nat.and_le_right ?_
    rw [BitVec.ofInt_natCast, BitVec.toNat_ofNat]
    exact Nat.mod_le _ _
  · have h : (BitVec.ofInt 64 x &&& BitVec.ofInt 64 (c : Int)).toNat ≤ c := by
      rw [BitVec.toNat_and]
      refine Nat.le_trans Nat.and_le_right ?_
      rw [BitVec.ofInt_natCast, BitVec.toNat_ofNat]
      exact Nat.mod_le _ _
    show IntKind.i64.wrap _ = _
    rw [IntKind.wrap_i64]
    have e : ∀ k : Nat, k ≤ c → ((k : Int) + 9223372036854775808) % 18446744073709551616 - 9223372036854775808 = (k : Int) := by intro k hk; omega
    exact e _ h
theorem tot_le (es : List Row) (m : Nat) (h : ∀ r ∈ es, r.length ≤ m) : tot es ≤ es.length * m := by
  unfold tot
  induction es with
  | nil => simp
  | cons a l ih =>
    have h1 := ih (fun r hr => h r (List.mem_cons_of_mem _ hr))
    have h2 := h a (List.mem_cons_self ..)
    simp only [List.map_cons, List.sum_cons, List.length_cons]
    have : (l.length + 1) * m = l.length * m + m := Nat.succ_mul _ _
    omega
/-- The graph that lists say. -/
def graphOf (n : Nat) (K : Nat → List Nat) : List Row := (List.range n).map fun c => toRow (K c)
theorem graphOf_length (n : Nat) (K : Nat → List Nat) : (graphOf n K).length = n := by simp [graphOf]
theorem LLat.rows_at {w : World} {B n b : Nat} {vs : Nat → Value} {K : Nat → List Nat} (h : LLat w B n b vs K) (hn : n < 1000000) (hl : ∀ c, c < n → (K c).length < 1000000) (hx : ∀ c, c < n → ∀ x ∈ K c, x < 1000000) : RowsAt w (fun k => B ≤ k ∧ k < w.heap.size) (.slice (some ⟨b, 0, none⟩) n n) (graphOf n K) := by
  refine SlAt.of_own0 h.outer (by rw [graphOf_length]) (fun k hk hB => ⟨hB, ?_⟩) (by rw [graphOf_length]; omega) (fun j hj u hu => ?_)
  · have := (h.outer.lt k hk).2; exact this
  · rw [graphOf_length] at hj
    rw [valsOf_get _ hj] at hu
    have e := Option.some.inj hu
    subst e
    have e2 : (graphOf n K)[j]'(by rw [graphOf_length]; exact hj) = toRow (K j) := by simp [graphOf]
    rw [e2]
    have hr := RowAt.of_own' (h.rows j hj) (xs := toRow (K j)) (by simp [toRow]) (by simp [toRow, intsN]) (by have := hl j hj; simp [toRow]; omega) (fun x hx2 => by
      obtain ⟨y, hy, rfl⟩ := List.mem_map.1 hx2
      have := hx j hj y hy
      unfold In64
      omega)
    exact reads_row.mono hr (fun k hk hl => ⟨hk, hl⟩)
theorem EG.rows {w w' : World} {n b : Nat} {vs : Nat → Value} {K : Nat → List Nat} (h : EG w w' n b vs K 1001) (hn : n < 1000) : RowsAt w' (fun k => w.heap.size ≤ k ∧ k < w'.heap.size) (.slice (some ⟨b, 0, none⟩) n n) (graphOf n K) ∧ tot (graphOf n K) < 1100000 := by
  have hlen := h.len
  refine ⟨h.ll.rows_at (by omega) (fun c _ => by have := hlen c; omega) (fun c hc x hx => by have := h.lt c hc x hx; omega), ?_⟩
  have := tot_le (graphOf n K) 1001 (fun r hr => by
    unfold graphOf at hr
    obtain ⟨c, _, rfl⟩ := List.mem_map.1 hr
    have := hlen c
    simp [toRow]; omega)
  rw [graphOf_length] at this
  have h2 : n * 1001 ≤ 999 * 1001 := Nat.mul_le_mul_right _ (by omega)
  omega
theorem EG.rows16 {w w' : World} {n b : Nat} {vs : Nat → Value} {K : Nat → List Nat} (h : EG w w' n b vs K 1001) (hn : n < 16) : RowsAt w' (fun k => w.heap.size ≤ k ∧ k < w'.heap.size) (.slice (some ⟨b, 0, none⟩) n n) (graphOf n K) ∧ tot (graphOf n K) < 1000000 := by
  obtain ⟨h1, -⟩ := h.rows (by omega)
  refine ⟨h1, ?_⟩
  have hlen := h.len
  have := tot_le (graphOf n K) 1001 (fun r hr => by
    unfold graphOf at hr
    obtain ⟨c, _, rfl⟩ := List.mem_map.1 hr
    have := hlen c
    simp [toRow]; omega)
  rw [graphOf_length] at this
  have h2 : n * 1001 ≤ 15 * 1001 := Nat.mul_le_mul_right _ (by omega)
  omega
end Go.Proofs.Ytcpjlfhehjmfbaa.Gr
namespace Go.Proofs.Ytcpjlfhehjmfbaa.Sg
open Go.RowKit Go.Shelf Go.Proofs.Ytcpjlfhehjmfbaa.Gr
set_option linter.unusedVariables false
set_option linter.unusedSimpArgs false
set_option maxHeartbeats 2000000 in
set_option maxRecDepth 100000 in
theorem GraphComponents_walk (x : Int) (pv : Value) (ps : List Int) (w : World) (hx : In64 x) (hp : RowAt w (fun _ => True) pv ps) :
    Calls Try.prog 3 #[.int .i64 x, pv] w fun e w' => e = .returned (.bool true) ∧ Below w.heap.size w w' := by
  obtain ⟨n, hn, en⟩ := and_maskG x 15 (by omega)
  simp only [Int.cast_ofNat_Int] at en
  obtain ⟨A1, c1, rfl, ha1, ha2, ha3⟩ := hp.form
  have HP := Aside0.mk hp
  obtain ⟨la, hla⟩ : ∃ la, ps.length = la := ⟨_, rfl⟩
  have HLA := Aside0.mk hla
  rw [hla] at ha1 ha2
  rw [hla]
  have HD := Aside0.mk (head17_any w)
  clear hx hp hla
  go_enter Try.func3, Try.ntmps3
  go_wp2_with fail
  refine HD.out.mono ?_
  rintro e w1 ⟨rfl, B1⟩
  have HB1 := Aside0.mk B1
  clear HD B1
  by_cases hl : 100 < la
  · have hli : (100 : Int) < (la : Int) := by omega
    go_wp2
    go_ret
    exact ⟨rfl, HB1.out⟩
  · have hli : ¬ (100 : Int) < (la : Int) := by omega
    have hp1 := SlAt.below reads_int HP.out HB1.out
    have ED := Aside0.mk (edges_any w1 n (by omega) _ _ ps hp1 (by rw [HLA.out]; omega))
    rw [HLA.out] at ED
    clear hp1
    go_wp2_with fail
    refine ED.out.mono ?_
    rintro e w2 ⟨b, rfl, vs, K, hE⟩
    obtain ⟨hr, ht⟩ := hE.rows16 (by omega)
    have HB2 := Aside0.mk (below_trans0 HB1.out hE.below)
    have HR := Aside0.mk hr
    have CO := Aside0.mk (Components_any w2 _ (graphOf n K) n (reads_rows.mono hr (fun k _ hl => hl)) (graphOf_length n K) (by omega) ht)
    clear ED hE hr ht
    go_wp2_with fail
    refine CO.out.mono ?_
    rintro e w3 ⟨v, L, rfl, hL, hpg, hf, hb⟩
    have LC := Aside0.mk (law_components_any w3 _ _ (graphOf n K) n (HR.out.below reads_row hb) (graphOf_length n K) (by omega))
    have HL := Aside0.mk hL
    have HPG := Aside0.mk (And.intro hpg hf)
    have HB3 := Aside0.mk (below_trans0 HB2.out hb)
    clear CO hL hpg hf hb
    go_wp2_with fail
    refine LC.out.mono ?_
    rintro e w4 ⟨v2, rfl, L2, hL2, hpg2, hf2, hb2⟩
    obtain rfl : L = L2 := HPG.out.1.unique hpg2 HPG.out.2 hf2
    have IS := Aside0.mk (is17_any w4 _ _ v v2 _ _ (HL.out.below reads_row hb2) hL2)
    have HB4 := Aside0.mk (below_trans0 HB3.out hb2)
    clear LC hL2 hpg2 hf2 hb2
    go_wp2_with fail
    refine IS.out.mono ?_
    rintro e w5 ⟨he, hb5⟩
    replace he : e = .returned (.bool true) := by simpa using he
    subst he
    have HB5 := Aside0.mk (below_trans0 HB4.out hb5)
    clear hb5
    go_wp2
    go_ret
    exact ⟨rfl, HB5.out⟩
end Go.Proofs.Ytcpjlfhehjmfbaa.Sg
