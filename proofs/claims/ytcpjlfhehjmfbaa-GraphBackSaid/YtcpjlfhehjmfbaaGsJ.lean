/- GraphLong: the walk. -/
import Derived.Test.YtcpjlfhehjmfbaaGsH
import Derived.Test.YtcpjlfhehjmfbaaGrU
namespace Go.Proofs.Ytcpjlfhehjmfbaa.Gr
open Go.RowKit Go.Shelf Go.Proofs.Ytcpjlfhehjmfbaa.Sg
set_option linter.unusedVariables false
set_option linter.unusedSimpArgs false

/-- A list of one node is put in. -/
theorem LLat.fresh {w : World} {B n b c : Nat} {vs : Nat → Value} {K : Nat → List Nat} (h : LLat w B n b vs K) (hc : c < n) (hB : B ≤ w.heap.size) (x : Nat) :
    LLat ((w.alloc (O1 (x : Int))).setCell ⟨b, c, none⟩ (.slice (some ⟨w.heap.size, 0, none⟩) 1 1)) B n b (upd vs c (.slice (some ⟨w.heap.size, 0, none⟩) 1 1)) (upd K c [x]) := by
  have hge := h.ge
  have hbl : b < w.heap.size := (hge b (.inl rfl)).2
  have ha := h.below (below_alloc0 (Below.refl _ _) (O1 (x : Int)))
  have hnew : (w.alloc (O1 (x : Int))).ownsRow B 3 1 (.slice (some ⟨w.heap.size, 0, none⟩) 1 1) 1 [.int .i64 (x : Int)] := World.ownsRow_lit (base := B) (e := 3) (size := 1) w #[.int .i64 (x : Int)] 1 hB (by unfold maxLen; omega) rfl
  refine ⟨?_, fun j hj => ?_, fun j hj => ?_, fun i j hi hj hij k hk => ?_⟩
  · have := (ha.outer.stored c (.slice (some ⟨w.heap.size, 0, none⟩) 1 1)).1
    rw [valsOf_set] at this
    exact this
  · by_cases e : j = c
    · subst e
      rw [upd_same, upd_same]
      exact own_set _ hnew (by omega)
    · rw [upd_ne _ _ _ e, upd_ne _ _ _ e]
      exact own_setv _ (ha.rows j hj) (h.ne j hj)
  · by_cases e : j = c
    · subst e
      rw [upd_same]
      intro q
      have q : w.heap.size = b := Option.some.inj q
      omega
    · rw [upd_ne _ _ _ e]; exact h.ne j hj
  · by_cases e : i = c
    · subst e
      rw [upd_same] at hk
      have hk : w.heap.size = k := Option.some.inj hk
      rw [upd_ne _ _ _ (Ne.symm hij)]
      intro e2
      have := (hge k (.inr ⟨j, hj, e2⟩)).2
      omega
    · rw [upd_ne _ _ _ e] at hk
      by_cases e2 : j = c
      · subst e2
        rw [upd_same]
        intro e3
        have e3 : w.heap.size = k := Option.some.inj e3
        have := (hge k (.inr ⟨i, hi, hk⟩)).2
        omega
      · rw [upd_ne _ _ _ e2]; exact h.apart i j hi hj hij k hk
/-- A long graph so far. -/
structure LG (w wr : World) (n b : Nat) (vs : Nat → Value) (K : Nat → List Nat) : Prop where
  ll : LLat wr w.heap.size n b vs K
  below : Below w.heap.size w wr
theorem LG.put {w wr : World} {n b c : Nat} {vs : Nat → Value} {K : Nat → List Nat} (h : LG w wr n b vs K) (hc : c < n) (x : Nat) : LG w ((wr.alloc (O1 (x : Int))).setCell ⟨b, c, none⟩ (.slice (some ⟨wr.heap.size, 0, none⟩) 1 1)) n b (upd vs c (.slice (some ⟨wr.heap.size, 0, none⟩) 1 1)) (upd K c [x]) :=
  ⟨h.ll.fresh hc h.below.size x, below_setCell (below_alloc h.below h.below.size _) (h.ll.ge b (.inl rfl)).1 _⟩
def upTo (i : Nat) : Nat → List Nat := fun c => if c < i then [c + 1] else []
theorem upTo_step (i : Nat) : upd (upTo i) i [i + 1] = upTo (i + 1) := by
  funext c
  unfold upTo
  by_cases e : c = i
  · subst e; rw [upd_same, if_pos (by omega)]
  · rw [upd_ne _ _ _ e]
    by_cases q : c < i
    · rw [if_pos q, if_pos (by omega)]
    · rw [if_neg q, if_neg (by omega)]
theorem edge_graphOf {n : Nat} {K : Nat → List Nat} {a c : Nat} : Edge (adj n (graphOf n K)) a c ↔ a < n ∧ c < n ∧ c ∈ K a := by
  by_cases ha : a < n
  · have hl : a < (graphOf n K).length := by rw [graphOf_length]; exact ha
    have e2 : (graphOf n K)[a] = toRow (K a) := by simp [graphOf]
    constructor
    · intro h
      have hc := adj_edge a c h
      rw [edge_mem hl hc, e2] at h
      obtain ⟨y, hy, e⟩ := List.mem_map.1 h
      have : y = c := by omega
      subst this
      exact ⟨ha, hc, hy⟩
    · rintro ⟨_, hc, hm⟩
      rw [edge_mem hl hc, e2]
      exact List.mem_map.2 ⟨c, hm, rfl⟩
  · refine ⟨fun h => ?_, fun h => absurd h.1 ha⟩
    unfold Edge adj at h
    rw [List.getD_eq_getElem?_getD, List.getElem?_eq_none (by rw [graphOf_length]; omega)] at h
    simp at h
theorem chain_R {n : Nat} : ∀ i j, i < n → j < n → (R (adj n (graphOf n (upTo (n - 1)))) i j ↔ i ≤ j) := by
  have up : ∀ d i, i + d < n → R (adj n (graphOf n (upTo (n - 1)))) i (i + d) := by
    intro d
    induction d with
    | zero => intro i _; exact .refl i
    | succ d ih =>
      intro i hi
      refine .tail (ih i (by omega)) (edge_graphOf.2 ⟨by omega, by omega, ?_⟩)
      unfold upTo
      rw [if_pos (by omega)]
      exact List.mem_singleton.2 (by omega)
  intro i j hi hj
  constructor
  · intro h
    refine h.keeps (Q := fun y => i ≤ y) (Nat.le_refl _) (fun x y hx he => ?_)
    have := (edge_graphOf.1 he).2.2
    unfold upTo at this
    split at this
    · rw [List.mem_singleton] at this; omega
    · simp at this
  · intro h
    have := up (j - i) i (by omega)
    rw [show i + (j - i) = j by omega] at this
    exact this
theorem ring_R {n : Nat} (hn : 0 < n) : ∀ i j, i < n → j < n → R (adj n (graphOf n (upd (upTo (n - 1)) (n - 1) [0]))) i j := by
  have up : ∀ d i, i + d < n → R (adj n (graphOf n (upd (upTo (n - 1)) (n - 1) [0]))) i (i + d) := by
    intro d
    induction d with
    | zero => intro i _; exact .refl i
    | succ d ih =>
      intro i hi
      refine .tail (ih i (by omega)) (edge_graphOf.2 ⟨by omega, by omega, ?_⟩)
      rw [upd_ne _ _ _ (by omega)]
      unfold upTo
      rw [if_pos (by omega)]
      exact List.mem_singleton.2 (by omega)
  intro i j hi hj
  have h1 := up (n - 1 - i) i (by omega)
  rw [show i + (n - 1 - i) = n - 1 by omega] at h1
  have h2 : R (adj n (graphOf n (upd (upTo (n - 1)) (n - 1) [0]))) (n - 1) 0 := R.edge (edge_graphOf.2 ⟨by omega, hn, by rw [upd_same]; exact List.mem_singleton.2 rfl⟩)
  have h3 := up j 0 (by omega)
  rw [Nat.zero_add] at h3
  exact (h1.trans h2).trans h3
theorem upTo_len (i c : Nat) : (upTo i c).length ≤ 1 ∧ ∀ x ∈ upTo i c, x = c + 1 ∧ c < i := by
  unfold upTo
  split
  · exact ⟨Nat.le_refl _, fun x hx => ⟨List.mem_singleton.1 hx, by assumption⟩⟩
  · exact ⟨Nat.zero_le _, fun x hx => by simp at hx⟩
theorem graphOf_tot {n : Nat} {K : Nat → List Nat} (h : ∀ c, (K c).length ≤ 1) : tot (graphOf n K) ≤ n := by
  have := tot_le (graphOf n K) 1 (fun r hr => by
    unfold graphOf at hr
    obtain ⟨c, _, rfl⟩ := List.mem_map.1 hr
    have := h c
    simp [toRow]; omega)
  rw [graphOf_length] at this
  omega
end Go.Proofs.Ytcpjlfhehjmfbaa.Gr
namespace Go.Proofs.Ytcpjlfhehjmfbaa.Sg
open Go.RowKit Go.Shelf Go.Proofs.Ytcpjlfhehjmfbaa.Gr
set_option linter.unusedVariables false
set_option linter.unusedSimpArgs false
set_option maxHeartbeats 2000000 in
set_option maxRecDepth 100000 in
theorem GraphLong_walk (x : Int) (ring : Bool) (w : World) (hx : In64 x) :
    Calls Try.prog 5 #[.int .i64 x, .bool ring] w fun e w' => e = .returned (.bool true) ∧ Below w.heap.size w w' := by
  obtain ⟨m, hm, em⟩ := and_maskG x 4095 (by omega)
  obtain ⟨n, hn⟩ : ∃ n, n = m + 1 := ⟨_, rfl⟩
  have en : 1 + (m : Int) = (n : Int) := by omega
  have hnp : 0 < n := by omega
  have hnl : n ≤ 4096 := by omega
  simp only [Int.cast_ofNat_Int] at em
  have HD := Aside0.mk (head17_any w)
  have hmkL := make_lists n (by omega)
  clear hx hn hm
  go_enter Try.func5, Try.ntmps5
  go_wp2_with fail
  refine HD.out.mono ?_
  rintro e w1 ⟨rfl, B1⟩
  have HB1 := Aside0.mk B1
  clear HD B1
  go_wp2_with fail
  have L0 : Aside0 (LG w1 (w1.alloc (Ns n)) n w1.heap.size (fun _ => .slice none 0 0) (upTo 0)) := ⟨⟨by
    have := LLat.new w1 w1.heap.size n (Nat.le_refl _) (by omega)
    have e : upTo 0 = fun _ => [] := by funext c; unfold upTo; rw [if_neg (by omega)]
    rw [e]; exact this, below_alloc0 (Below.refl _ _) _⟩⟩
  clear hmkL em
  obtain ⟨b, hb⟩ : ∃ b, w1.heap.size = b := ⟨_, rfl⟩
  rw [hb] at L0 ⊢
  generalize w1.alloc (Ns n) = w2 at L0 ⊢
  clear hb
  go_loopw [6] (fun s6 wq => ∃ (i : Nat) (vs : Nat → Value), s6 = .int .i64 i ∧ i + 1 ≤ n ∧ Aside0 (LG w1 wq n b vs (upTo i))) (fun s6 _ => n - (intOf s6).toNat)
  case atStart => exact ⟨0, _, rfl, by omega, L0⟩
  case round =>
    clear L0
    obtain ⟨i, vs, rfl, hi, HL⟩ := hrel
    by_cases hin : i + 1 < n
    · have hini : (i : Int) + 1 < (n : Int) := by omega
      have hini0 : (i : Int) < (n : Int) := by omega
      have ti : ((i : Nat) : Int).toNat = i := by omega
      have hz := (HL.out.ll.below (below_alloc0 (Below.refl _ _) (O1 ((i : Int) + 1)))).cell (c := i) (by omega)
      obtain ⟨hz1, hz2⟩ := hz
      have HL2 : Aside0 (LG w1 ((wr.alloc (O1 ((i : Int) + 1))).setCell ⟨b, i, none⟩ (.slice (some ⟨wr.heap.size, 0, none⟩) 1 1)) n b (upd vs i (.slice (some ⟨wr.heap.size, 0, none⟩) 1 1)) (upTo (i + 1))) := ⟨by
        have := HL.out.put (c := i) (by omega) (i + 1)
        rw [upTo_step] at this
        exact this⟩
      clear HL
      go_wp2
      go_roundw
      case rel => exact ⟨i + 1, _, by go_num, by omega, HL2⟩
      case measure => simp [intOf]; omega
    · have hini : ¬ (i : Int) + 1 < (n : Int) := by omega
      have hie : n - 1 = i := by omega
      have n1 : ((n : Int) - 1).toNat = i := by omega
      have n2 : (0 : Int) ≤ (n : Int) - 1 := by omega
      have n3 : (n : Int) - 1 < (n : Int) := by omega
      have n4 : IntKind.i64.wrap ((n : Int) - 1) = (n : Int) - 1 := by rw [IntKind.wrap_i64]; omega
      have HIE := Aside0.mk hie
      have hin' : i < n := by omega
      clear hie
      cases ring with
      | true =>
        have hz := (HL.out.ll.below (below_alloc0 (Below.refl _ _) (O1 0))).cell (c := i) hin'
        obtain ⟨hz1, hz2⟩ := hz
        have HL2 : Aside0 (LG w1 ((wr.alloc (O1 0)).setCell ⟨b, i, none⟩ (.slice (some ⟨wr.heap.size, 0, none⟩) 1 1)) n b (upd vs i (.slice (some ⟨wr.heap.size, 0, none⟩) 1 1)) (upd (upTo i) i [0])) := ⟨HL.out.put hin' 0⟩
        clear HL
        obtain ⟨w5, hw5⟩ : ∃ w5, (wr.alloc (O1 0)).setCell ⟨b, i, none⟩ (.slice (some ⟨wr.heap.size, 0, none⟩) 1 1) = w5 := ⟨_, rfl⟩
        rw [hw5] at HL2
        have HLE : ∀ c, (upd (upTo i) i [0] c).length ≤ 1 ∧ ∀ x ∈ upd (upTo i) i [0] c, x < 1000000 := fun c => by
          by_cases e : c = i
          · subst e; rw [upd_same]; exact ⟨Nat.le_refl _, fun x hx => by rw [List.mem_singleton] at hx; omega⟩
          · rw [upd_ne _ _ _ e]
            exact ⟨(upTo_len i c).1, fun x hx => by have := (upTo_len i c).2 x hx; omega⟩
        have CO := Aside0.mk (Components_any w5 _ (graphOf n (upd (upTo i) i [0])) n (reads_rows.mono (HL2.out.ll.rows_at (by omega) (fun c _ => by have := (HLE c).1; omega) (fun c _ => (HLE c).2)) (fun k hk _ => hk.2)) (graphOf_length n _) (by omega) (by have := graphOf_tot (n := n) (fun c => (HLE c).1); omega))
        clear HLE
        have HW5 := Aside0.mk hw5
        clear hw5
        go_upto_region 11 with fail
        rw [HW5.out]
        clear hz1 hz2 HW5
        go_wp2_with fail
        refine CO.out.mono ?_
        rintro e w6 ⟨v, L, rfl, hr, hp, hf, hb⟩
        rw [← HIE.out] at hp
        obtain rfl : L = [List.range n] := page_ring hnp hp hf (ring_R hnp)
        have HB6 := Aside0.mk (below_trans0 HB1.out (below_trans0 HL2.out.below hb))
        obtain ⟨A2, c2, rfl, hs1, hs2, hs3⟩ := hr.form
        obtain ⟨b3, o3, u3, rfl, -, -, hc3, hr3⟩ := hr.at_ 0 (by simp)
        simp only [List.map_cons, List.map_nil, List.length_cons, List.length_nil, Nat.zero_add, List.getElem_cons_zero, Nat.add_zero] at hc3 hr3 hs1 hs2 ⊢
        have hrl : (toRow (List.range n)).length = n := by simp [toRow]
        obtain ⟨A4, c4, hu4, hm1, hm2, hm3⟩ := hr3.form
        rw [hrl] at hu4 hm1 hm2
        subst hu4
        obtain ⟨b5, o5, u5, rfl, -, -, hc5, hv5, -⟩ := hr3.at_ 0 (by rw [hrl]; exact hnp)
        obtain ⟨b6, o6, u6, hAA, -, -, hc6, hv6, -⟩ := hr3.at_ i (by rw [hrl]; exact hin')
        injection hAA with hAA
        injection hAA with e1 e2
        subst e1
        subst e2
        subst hv5
        subst hv6
        have q1 : (toRow (List.range n))[0]'(by rw [hrl]; exact hnp) = 0 := by simp [toRow]
        have q2 : (toRow (List.range n))[i]'(by rw [hrl]; exact hin') = (n : Int) - 1 := by simp [toRow]; omega
        rw [q1] at hc5
        rw [q2] at hc6
        have hnpi : (0 : Int) < (n : Int) := by omega
        rw [Nat.add_zero] at hc5
        clear hr hr3 hp hf hb CO q1 q2 hrl
        go_wp2
        go_ret
        exact ⟨rfl, HB6.out⟩
      | false =>
        have HLE : ∀ c, (upTo i c).length ≤ 1 ∧ ∀ x ∈ upTo i c, x < 1000000 := fun c => ⟨(upTo_len i c).1, fun x hx => by have := (upTo_len i c).2 x hx; omega⟩
        have CO := Aside0.mk (Components_any wr _ (graphOf n (upTo i)) n (reads_rows.mono (HL.out.ll.rows_at (by omega) (fun c _ => by have := (HLE c).1; omega) (fun c _ => (HLE c).2)) (fun k hk _ => hk.2)) (graphOf_length n _) (by omega) (by have := graphOf_tot (n := n) (fun c => (HLE c).1); omega))
        clear HLE
        go_wp2_with fail
        refine CO.out.mono ?_
        rintro e w6 ⟨v, L, rfl, hr, hp, hf, hb⟩
        rw [← HIE.out] at hp
        obtain rfl := page_chain_all hp hf chain_R
        have HB6 := Aside0.mk (below_trans0 HB1.out (below_trans0 HL.out.below hb))
        obtain ⟨A2, c2, rfl, hs1, hs2, hs3⟩ := hr.form
        have hrl : (List.map toRow ((List.range n).map fun t => [n - 1 - t])).length = n := by simp
        have HRL := Aside0.mk hrl
        rw [hrl] at hs1 hs2
        rw [hrl]
        have HRR := Aside0.mk hr
        clear hr hp hf hb CO hrl
        go_wp2_with fail
        go_loopw [71] (fun s71 wq => ∃ k : Nat, s71 = .int .i64 k ∧ k ≤ n ∧ Aside0 (w6 = wq)) (fun s71 _ => n - (intOf s71).toNat)
        case atStart => exact ⟨0, rfl, Nat.zero_le _, ⟨rfl⟩⟩
        case round =>
          obtain ⟨k, rfl, hk, HW⟩ := hrel
          obtain rfl := HW.out
          by_cases hkn : k < n
          · have hkni : (k : Int) < (n : Int) := by omega
            have tk : ((k : Nat) : Int).toNat = k := by omega
            obtain ⟨b3, o3, u3, rfl, -, -, hc3, hr3⟩ := HRR.out.at_ k (by rw [HRL.out]; exact hkn)
            have e0 : (List.map toRow ((List.range n).map fun t => [n - 1 - t]))[k]'(by rw [HRL.out]; exact hkn) = [((n : Int) - 1 - (k : Int))] := by simp [toRow]; omega
            rw [e0] at hr3
            obtain ⟨A4, c4, hu4, hm1, hm2, hm3⟩ := hr3.form
            subst hu4
            obtain ⟨b5, o5, u5, rfl, -, -, hc5, hv5, -⟩ := hr3.at_ 0 (by simp)
            subst hv5
            simp only [List.length_cons, List.length_nil, Nat.zero_add, Nat.add_zero, List.getElem_cons_zero] at hc3 hm1 hm2 hc5
            have w9 : IntKind.i64.wrap ((n : Int) - 1 - (k : Int)) = (n : Int) - 1 - (k : Int) := by rw [IntKind.wrap_i64]; omega
            clear hr3 e0
            go_wp2
            go_roundw
            case rel => exact ⟨k + 1, by go_num, by omega, ⟨by first | rfl | trivial⟩⟩
            case measure => simp [intOf]; omega
          · obtain rfl : n = k := by omega
            have hkni : ¬ (n : Int) < (n : Int) := by omega
            go_wp2
            go_ret
            exact ⟨rfl, HB6.out⟩
end Go.Proofs.Ytcpjlfhehjmfbaa.Sg
