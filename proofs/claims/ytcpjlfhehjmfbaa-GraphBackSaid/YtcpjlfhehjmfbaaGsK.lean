/- GraphBack: the walk. -/
import Derived.Test.YtcpjlfhehjmfbaaGsJ
namespace Go.Proofs.Ytcpjlfhehjmfbaa.Gr
open Go.RowKit Go.Shelf Go.Proofs.Ytcpjlfhehjmfbaa.Sg
set_option linter.unusedVariables false
set_option linter.unusedSimpArgs false

/-- The first nodes' edges turned about, and the first k of node i. -/
def TR (K K2 : Nat → List Nat) (i k : Nat) : Prop := ∀ c x, x ∈ K2 c ↔ (x < i ∧ c ∈ K x) ∨ (x = i ∧ c ∈ (K i).take k)
theorem TR.start (K : Nat → List Nat) : TR K (fun _ => []) 0 0 := fun c x => by simp
theorem TR.step {K K2 : Nat → List Nat} {i k t : Nat} (h : TR K K2 i k) (hk : k < (K i).length) (ht : (K i)[k] = t) : TR K (upd K2 t (K2 t ++ [i])) i (k + 1) := by
  intro c x
  rw [List.take_succ_eq_append_getElem hk, ht, List.mem_append, List.mem_singleton]
  by_cases e : c = t
  · subst e
    rw [upd_same, List.mem_append, List.mem_singleton, h c x]
    constructor
    · rintro ((q | q) | q)
      · exact .inl q
      · exact .inr ⟨q.1, .inl q.2⟩
      · exact .inr ⟨q, .inr rfl⟩
    · rintro (q | ⟨q1, q2 | q2⟩)
      · exact .inl (.inl q)
      · exact .inl (.inr ⟨q1, q2⟩)
      · exact .inr q1
  · rw [upd_ne _ _ _ e, h c x]
    constructor
    · rintro (q | q)
      · exact .inl q
      · exact .inr ⟨q.1, .inl q.2⟩
    · rintro (q | ⟨q1, q2 | q2⟩)
      · exact .inl q
      · exact .inr ⟨q1, q2⟩
      · exact absurd q2 e
theorem TR.done {K K2 : Nat → List Nat} {i k : Nat} (h : TR K K2 i k) (hk : k = (K i).length) : TR K K2 (i + 1) 0 := by
  subst hk
  intro c x
  rw [h c x, List.take_length]
  constructor
  · rintro (q | q)
    · exact .inl ⟨by omega, q.2⟩
    · refine .inl ⟨by omega, ?_⟩
      rw [q.1]; exact q.2
  · rintro (q | q)
    · by_cases e : x = i
      · subst e; exact .inr ⟨rfl, q.2⟩
      · exact .inl ⟨by omega, q.2⟩
    · simp at q
theorem TR.edges {K K2 : Nat → List Nat} {n : Nat} (h : TR K K2 n 0) (hK : ∀ c, c < n → ∀ x ∈ K c, x < n) : (∀ a c, Edge (adj n (graphOf n K)) a c → Edge (adj n (graphOf n K2)) c a) ∧ (∀ a c, Edge (adj n (graphOf n K2)) a c → Edge (adj n (graphOf n K)) c a) := by
  refine ⟨fun a c he => ?_, fun a c he => ?_⟩
  · obtain ⟨h1, h2, h3⟩ := edge_graphOf.1 he
    exact edge_graphOf.2 ⟨h2, h1, (h c a).2 (.inl ⟨h1, h3⟩)⟩
  · obtain ⟨h1, h2, h3⟩ := edge_graphOf.1 he
    rcases (h a c).1 h3 with q | q
    · exact edge_graphOf.2 ⟨h2, h1, q.2⟩
    · simp at q
theorem EG.mono {w wr : World} {n b : Nat} {vs : Nat → Value} {K : Nat → List Nat} {i j : Nat} (h : EG w wr n b vs K i) (hij : i ≤ j) : EG w wr n b vs K j := ⟨h.ll, h.lt, fun c => Nat.le_trans (h.len c) hij, h.below⟩
/-- One row in a list of one. -/
theorem one_row (W : World) (u : Value) (ok : Nat → Prop) (r : Row) (h : RowAt W ok u r) (g : Nat) (hg : W.heap[g]? = some (.cells #[u] 22 (0, 0))) : RowsAt W (fun _ => True) (.slice (some ⟨g, 0, none⟩) 1 1) [r] := by
  refine ⟨by simp, _, _, rfl, Nat.le_refl _, by omega, fun _ => ⟨g, 0, rfl, trivial, fun j hj => ⟨u, ?_, ?_⟩⟩⟩
  · have : j = 0 := by simp at hj; omega
    subst this
    rw [Nat.zero_add, cell_of_row W g 0 _ _ _ hg]
    rfl
  · have : j = 0 := by simp at hj; omega
    subst this
    exact reads_row.mono h (fun _ _ _ => trivial)
theorem cnt_succ {R : List Row} {k : Nat} (hk : k < R.length) : ((R.take (k + 1)).map List.length).sum = ((R.take k).map List.length).sum + (R[k]).length := by
  rw [List.take_succ_eq_append_getElem hk, List.map_append, List.sum_append]
  simp
theorem cnt_le (R : List Row) (k : Nat) : ((R.take k).map List.length).sum ≤ (R.map List.length).sum := by
  have : (R.map List.length).sum = ((R.take k).map List.length).sum + ((R.drop k).map List.length).sum := by
    rw [← List.sum_append, ← List.map_append, List.take_append_drop]
  omega
theorem mem_take_succR {l : List Row} {k : Nat} (x : Row) (hk : k < l.length) : decide (x ∈ l.take (k + 1)) = (decide (x ∈ l.take k) || decide (x = l[k])) := by
  rw [List.take_succ_eq_append_getElem hk]
  by_cases h1 : x ∈ l.take k
  · rw [decide_eq_true h1, decide_eq_true (List.mem_append_left _ h1)]; rfl
  · by_cases h2 : x = l[k]
    · rw [decide_eq_true h2, decide_eq_true (List.mem_append_right _ (List.mem_singleton.2 h2))]; simp
    · rw [decide_eq_false h1, decide_eq_false h2, decide_eq_false (fun m => by
        rcases List.mem_append.1 m with q | q
        · exact h1 q
        · exact h2 (List.mem_singleton.1 q))]
      rfl
theorem two_rows (W : World) (ua ub : Value) (ok ok2 : Nat → Prop) (ra rb : Row) (ha : RowAt W ok ua ra) (hb : RowAt W ok2 ub rb) :
    RowsAt ((W.alloc (.cells #[ua] 22)).alloc (.cells #[ub] 22)) (fun _ => True) (.slice (some ⟨W.heap.size, 0, none⟩) 1 1) [ra] ∧ RowsAt ((W.alloc (.cells #[ua] 22)).alloc (.cells #[ub] 22)) (fun _ => True) (.slice (some ⟨W.heap.size + 1, 0, none⟩) 1 1) [rb] ∧ Below W.heap.size W ((W.alloc (.cells #[ua] 22)).alloc (.cells #[ub] 22)) := by
  have b1 := below_alloc0 (Below.refl W.heap.size W) (.cells #[ua] 22)
  have b2 := below_alloc0 b1 (.cells #[ub] 22)
  have h1 := heap_alloc_new W (.cells #[ua] 22)
  have h2 := heap_alloc_new (W.alloc (.cells #[ua] 22)) (.cells #[ub] 22)
  rw [World.size_alloc] at h2
  exact ⟨one_row _ ua ok ra (SlAt.below reads_int ha b2) W.heap.size (blk_in (below_alloc0 (Below.refl _ _) _) h1), one_row _ ub ok2 rb (SlAt.below reads_int hb b2) _ h2, b2⟩
end Go.Proofs.Ytcpjlfhehjmfbaa.Gr
namespace Go.Proofs.Ytcpjlfhehjmfbaa.Sg
open Go.RowKit Go.Shelf Go.Proofs.Ytcpjlfhehjmfbaa.Gr
set_option linter.unusedVariables false
set_option linter.unusedSimpArgs false
set_option maxHeartbeats 2000000 in
set_option maxRecDepth 100000 in
theorem GraphBack_walk (x : Int) (pv : Value) (ps : List Int) (w : World) (hx : In64 x) (hp : RowAt w (fun _ => True) pv ps) :
    Calls Try.prog 6 #[.int .i64 x, pv] w fun e w' => e = .returned (.bool true) ∧ Below w.heap.size w w' := by
  obtain ⟨ii, hii, hi0, hi1, hi2⟩ := info_parts info_intG
  obtain ⟨n, hn, en⟩ := and_maskG x 15 (by omega)
  simp only [Int.cast_ofNat_Int] at en
  obtain ⟨A1, c1, rfl, ha1, ha2, ha3⟩ := hp.form
  have HP := Aside0.mk hp
  obtain ⟨la, hla⟩ : ∃ la, ps.length = la := ⟨_, rfl⟩
  have HLA := Aside0.mk hla
  rw [hla] at ha1 ha2
  rw [hla]
  have HD := Aside0.mk (head17_any w)
  clear hx hp hla
  go_enter Try.func6, Try.ntmps6
  go_wp2_with fail
  refine HD.out.mono ?_
  rintro e w1 ⟨rfl, B1⟩
  have HB1 := Aside0.mk B1
  clear HD B1
  by_cases hl : 100 < la
  · have hli : (100 : Int) < (la : Int) := by omega
    go_wp2
    go_ret
    exact ⟨rfl, HB1.out⟩
  · have hli : ¬ (100 : Int) < (la : Int) := by omega
    have hp1 := SlAt.below reads_int HP.out HB1.out
    have ED := Aside0.mk (edges_any w1 n (by omega) _ _ ps hp1 (by rw [HLA.out]; omega))
    rw [HLA.out] at ED
    clear hp1
    go_wp2_with fail
    refine ED.out.mono ?_
    rintro e w2 ⟨b, rfl, vs, K, hE⟩
    obtain ⟨hr, ht⟩ := hE.rows16 (by omega)
    have HB2 := Aside0.mk (below_trans0 HB1.out hE.below)
    have HR := Aside0.mk hr
    have HT := Aside0.mk ht
    have HKL := Aside0.mk (And.intro hE.lt hE.len)
    have hmkL := make_lists n (by omega)
    clear ED hE hr ht
    go_wp2_with fail
    have E0 : Aside0 (EG w2 (w2.alloc (Ns n)) n w2.heap.size (fun _ => .slice none 0 0) (fun _ => []) (2002 * 0)) := ⟨EG.start w2 n (by omega)⟩
    have T0 := Aside0.mk (TR.start K)
    clear hmkL
    obtain ⟨bb, hbb⟩ : ∃ bb, w2.heap.size = bb := ⟨_, rfl⟩
    rw [hbb] at E0 ⊢
    generalize w2.alloc (Ns n) = w3 at E0 ⊢
    clear hbb
    go_loopw [33] (fun s33 wq => ∃ (i : Nat) (vs2 : Nat → Value) (K2 : Nat → List Nat), s33 = .int .i64 i ∧ i ≤ n ∧ Aside0 (EG w2 wq n bb vs2 K2 (2002 * i)) ∧ Aside0 (TR K K2 i 0)) (fun s33 _ => n - (intOf s33).toNat)
    case atStart => exact ⟨0, _, _, rfl, Nat.zero_le _, E0, T0⟩
    case round =>
      clear E0 T0
      obtain ⟨i, vs2, K2, rfl, hi, HE, HTR⟩ := hrel
      by_cases hin : i < n
      · have hini : (i : Int) < (n : Int) := by omega
        have ti : ((i : Nat) : Int).toNat = i := by omega
        have HI := Aside0.mk (show i < (graphOf n K).length by rw [graphOf_length]; exact hin)
        obtain ⟨b1, o1, u1, hA, -, -, hc1, hr1⟩ := HR.out.at_ i HI.out
        injection hA with hA
        injection hA with e1 e2
        subst e1
        subst e2
        have eK : (graphOf n K)[i]'HI.out = toRow (K i) := by simp [graphOf]
        rw [eK] at hr1
        obtain ⟨A2, c2, rfl, hm1, hm2, hm3⟩ := hr1.form
        have hml0 : (toRow (K i)).length = (K i).length := by simp [toRow]
        obtain ⟨ml, hml⟩ : ∃ ml, (K i).length = ml := ⟨_, rfl⟩
        rw [hml0, hml] at hc1 hm1 hm2
        have HML := Aside0.mk hml
        have hmlb : ml ≤ 1001 := by have := HKL.out.2 i; omega
        have HR1 := Aside0.mk hr1
        have hc1' := below_cell0 HE.out.below hc1
        rw [Nat.zero_add] at hc1'
        rw [hml0, hml] at HR1
        have HE2 : Aside0 (EG w2 wr n bb vs2 K2 (2002 * i + 2 * 0)) := ⟨HE.out⟩
        clear hml hml0 hr1 hc1 eK HE
        go_wp2_with fail
        clear hc1'
        go_loopw [40] (fun s40 wq => ∃ (k : Nat) (vs2 : Nat → Value) (K2 : Nat → List Nat), s40 = .int .i64 k ∧ k ≤ ml ∧ Aside0 (EG w2 wq n bb vs2 K2 (2002 * i + 2 * k)) ∧ Aside0 (TR K K2 i k)) (fun s40 _ => ml - (intOf s40).toNat)
        case atStart => exact ⟨0, _, _, rfl, Nat.zero_le _, HE2, HTR⟩
        case round =>
          clear HE2 HTR
          obtain ⟨k, vs2, K2, rfl, hk, HE, HTR⟩ := hrel
          by_cases hkl : k < ml
          · have hkli : (k : Int) < (ml : Int) := by omega
            have tk : ((k : Nat) : Int).toNat = k := by omega
            have HK := Aside0.mk (show k < (K i).length by rw [HML.out]; exact hkl)
            obtain ⟨t, ht⟩ : ∃ t, ((K i)[k]'HK.out) = t := ⟨_, rfl⟩
            have HTN := Aside0.mk (show t < n from HKL.out.1 i hin t (by rw [← ht]; exact List.getElem_mem _))
            have htni : (t : Int) < (n : Int) := by have := HTN.out; omega
            have tt : ((t : Nat) : Int).toNat = t := by omega
            obtain ⟨b2, o2, u2, rfl, -, -, hc2, hv2, -⟩ := HR1.out.at_ k (by simp [toRow]; exact HK.out)
            have e1 : (toRow (K i))[k]'(by simp [toRow]; exact HK.out) = (t : Int) := by simp [toRow, ht]
            rw [e1] at hv2
            subst hv2
            have hc2' := below_cell0 HE.out.below hc2
            obtain ⟨hcc, hzz⟩ := HE.out.ll.cell HTN.out
            obtain ⟨A5, cp5, hv5⟩ := HE.out.ll.form HTN.out
            obtain ⟨ka, hka⟩ : ∃ ka, (K2 t).length = ka := ⟨_, rfl⟩
            have hkal := HE.out.len t
            have how := HE.out.ll.rows t HTN.out
            rw [hv5] at how hcc
            rw [hka] at how hcc hkal
            have HV5 := Aside0.mk hv5
            have HKA := Aside0.mk hka
            rw [hka] at HV5
            have HOW := Aside0.mk how
            have H63 := Aside0.mk (show ka + 1 ≤ maxLen by unfold maxLen; omega)
            have HBY := Aside0.mk (show (ka + 1) * 8 ≤ 140737488355328 by omega)
            have HSZ := Aside0.mk HE.out.below.size
            have TR2 := Aside0.mk (HTR.out.step HK.out ht)
            clear hc2 how hv5 hka e1 ht HTR hkal
            go_wp2_with (at_builtin; refine wpList_append_own_at _ rfl (.tmp 49) (.tmp 51) 22 rfl w2.heap.size 3 ii (.int .i64 0) 1 8 Try.underlying22 hii hi0 hi1 hi2 rfl (by decide) _ _ _ rfl (HOW.out.alloc _) ⟨wr.heap.size, 0, none⟩ 1 1 [Value.int .i64 (i : Int)] rfl rfl (cell_one_newG _ _ _) (by simp [Value.oneCell']) H63.out HBY.out (Nat.le_trans HSZ.out (by simp)) ?_; intro v1 w7 ho hg _ hb; have PW := Aside0.mk (HE.out.app (x := i) HTN.out hin (by rw [HV5.out]; exact hg) (by rw [HKA.out]; exact ho) (by rw [HV5.out]; exact hb)); have hcc7 := PW.out.2.1; have hz7 := PW.out.2.2.1; obtain ⟨Av, nv, cw, hv1⟩ := own_slice ho; subst hv1; clear ho hg hb)
            have HE7 : Aside0 (EG w2 (w7.setCell ⟨bb, t, none⟩ (.slice Av nv cw)) n bb (upd vs2 t (.slice Av nv cw)) (upd K2 t (K2 t ++ [i])) (2002 * i + 2 * (k + 1))) := ⟨PW.out.1⟩
            clear PW hcc7 hz7
            go_roundw
            case rel => exact ⟨k + 1, _, _, by go_num, by omega, HE7, TR2⟩
            case measure => simp [intOf]; omega
          · obtain rfl : ml = k := by omega
            have hkli : ¬ (ml : Int) < (ml : Int) := by omega
            have HE3 := Aside0.mk (HE.out.mono (j := 2002 * (i + 1)) (by omega))
            have TR3 := Aside0.mk (HTR.out.done HML.out.symm)
            clear HE HTR
            go_wp2
            go_roundw
            case rel => exact ⟨i + 1, vs2, K2, by go_num, by omega, HE3, TR3⟩
            case measure => simp [intOf]; omega
      · obtain rfl : n = i := by omega
        have hini : ¬ (n : Int) < (n : Int) := by omega
        obtain ⟨w4, hw4⟩ : ∃ w4, w4 = wr := ⟨_, rfl⟩
        subst hw4
        have HB4 := Aside0.mk (below_trans0 HB2.out HE.out.below)
        have hrb := HE.out.ll.rows_at (by omega) (fun c _ => by have := HE.out.len c; omega) (fun c hc y hy => by have := HE.out.lt c hc y hy; omega)
        have htb : tot (graphOf n K2) < 1000000 := by
          have hlen := HE.out.len
          have h1 := tot_le (graphOf n K2) (2002 * 15) (fun r hr => by
            unfold graphOf at hr
            obtain ⟨c, _, rfl⟩ := List.mem_map.1 hr
            have := hlen c
            simp [toRow]; omega)
          rw [graphOf_length] at h1
          have h2 : n * (2002 * 15) ≤ 15 * (2002 * 15) := Nat.mul_le_mul_right _ (by omega)
          omega
        have HRB := Aside0.mk hrb
        have HTB := Aside0.mk htb
        have ha4 := HR.out.below reads_row HE.out.below
        have CO := Aside0.mk (Components_any w4 _ (graphOf n K) n (reads_rows.mono ha4 (fun k _ hl => hl)) (graphOf_length n K) (by omega) HT.out)
        clear hrb htb ha4
        go_wp2_with fail
        refine CO.out.mono ?_
        rintro e w5 ⟨va, LA, rfl, hra, hpa, hfa, hb5⟩
        have HB5 := Aside0.mk (below_trans0 HB4.out hb5)
        have HRA := Aside0.mk hra
        have HPA := Aside0.mk (And.intro hpa hfa)
        have CO2 := Aside0.mk (Components_any w5 _ (graphOf n K2) n (reads_rows.mono (HRB.out.below reads_row hb5) (fun k _ hl => hl)) (graphOf_length n K2) (by omega) HTB.out)
        clear CO hra hpa hfa hb5
        go_wp2_with fail
        refine CO2.out.mono ?_
        rintro e w6 ⟨vb, LB, rfl, hrb, hpb, hfb, hb6⟩
        have HB6 := Aside0.mk (below_trans0 HB5.out hb6)
        have HPERM := Aside0.mk (turned_perm (HTR.out.edges HKL.out.1).1 (HTR.out.edges HKL.out.1).2 HPA.out.1 hpb HPA.out.2 hfb)
        have HTOT := Aside0.mk (HPA.out.1.total HPA.out.2)
        have hra6 := HRA.out.below reads_row hb6
        obtain ⟨RA, hRA⟩ : ∃ RA, LA.map toRow = RA := ⟨_, rfl⟩
        obtain ⟨RB, hRB⟩ : ∃ RB, LB.map toRow = RB := ⟨_, rfl⟩
        rw [hRA] at hra6
        rw [hRB] at hrb
        have HPR := Aside0.mk (show RA.Perm RB from hRA ▸ hRB ▸ HPERM.out.map toRow)
        have HCN := Aside0.mk (show (RA.map List.length).sum = n by
          rw [← hRA, ← HTOT.out, List.length_flatten, List.map_map]
          congr 1
          apply List.map_congr_left
          intro c _
          simp [toRow])
        obtain ⟨Aa, ca, rfl, hA1, hA2, hA3⟩ := hra6.form
        obtain ⟨Ab, cb, rfl, hB1, hB2, hB3⟩ := hrb.form
        obtain ⟨na, hna⟩ : ∃ na, RA.length = na := ⟨_, rfl⟩
        have hnb : RB.length = na := by rw [← hna]; exact HPR.out.length_eq.symm
        rw [hna] at hA1 hA2
        rw [hnb] at hB1 hB2
        rw [hna, hnb]
        have HA := Aside0.mk hra6
        have HBb := Aside0.mk hrb
        have HNA := Aside0.mk hna
        have HNB := Aside0.mk hnb
        rw [hna] at HA
        rw [hnb] at HBb
        clear CO2 hrb hpb hfb hb6 hra6 hRA hRB hna hnb HPA HRA HRB HE HTR
        go_wp2_with fail
        go_loopw [13, 62] (fun s13 s62 wq => ∃ k : Nat, s13 = .int .i64 (((RA.take k).map List.length).sum : Nat) ∧ s62 = .int .i64 k ∧ k ≤ na ∧ Aside0 (Below w6.heap.size w6 wq)) (fun _ s62 _ => na - (intOf s62).toNat)
        case atStart => exact ⟨0, by simp, rfl, Nat.zero_le _, ⟨Below.refl _ _⟩⟩
        case round =>
          obtain ⟨k, rfl, rfl, hk, HBQ⟩ := hrel
          have HCL := Aside0.mk (cnt_le RA k)
          by_cases hkn : k < na
          · have hkni : (k : Int) < (na : Int) := by omega
            have tk : ((k : Nat) : Int).toNat = k := by omega
            have HKA := Aside0.mk (show k < RA.length by rw [HNA.out]; exact hkn)
            have HCS := Aside0.mk (cnt_succ HKA.out)
            have HCL2 := Aside0.mk (cnt_le RA (k + 1))
            obtain ⟨b3, o3, u3, rfl, -, -, hc3, hr3⟩ := HA.out.at_ k HKA.out
            obtain ⟨A3, c3, rfl, hm1, hm2, hm3⟩ := hr3.form
            obtain ⟨ml, hml⟩ : ∃ ml, (RA[k]'HKA.out).length = ml := ⟨_, rfl⟩
            rw [hml] at hc3 hm1 hm2
            have HR3 := Aside0.mk hr3
            rw [hml] at HR3 HCS
            obtain ⟨ct, hct⟩ : ∃ ct, ((RA.take k).map List.length).sum = ct := ⟨_, rfl⟩
            rw [hct] at HCS HCL ⊢
            obtain ⟨ra, hra⟩ : ∃ ra, (RA[k]'HKA.out) = ra := ⟨_, rfl⟩
            rw [hra] at HR3
            have HMEM := Aside0.mk (show ra ∈ RB from HPR.out.mem_iff.1 (hra ▸ List.getElem_mem _))
            have hctn : ct + ml ≤ n := by have := HCL2.out; rw [HCS.out, HCN.out] at this; exact this
            have hc3' := below_cell0 HBQ.out hc3
            clear hr3 hml hct hra hc3 HCL
            go_wp2_with fail
            clear hc3'
            go_loopw [16, 68] (fun s16 s68 wq => ∃ (j : Nat) (fd : Bool), s16 = .bool fd ∧ s68 = .int .i64 j ∧ j ≤ na ∧ Aside0 (fd = decide (ra ∈ RB.take j)) ∧ Aside0 (Below w6.heap.size w6 wq)) (fun _ s68 _ => na - (intOf s68).toNat)
            case atStart => exact ⟨0, false, rfl, rfl, Nat.zero_le _, ⟨by simp⟩, HBQ⟩
            case round =>
              clear HBQ
              obtain ⟨j, fd, rfl, rfl, hj, HFD, HBQ⟩ := hrel
              by_cases hjn : j < na
              · have hjni : (j : Int) < (na : Int) := by omega
                have tj : ((j : Nat) : Int).toNat = j := by omega
                have HJB := Aside0.mk (show j < RB.length by rw [HNB.out]; exact hjn)
                obtain ⟨b4, o4, u4, rfl, -, -, hc4, hr4⟩ := HBb.out.at_ j HJB.out
                obtain ⟨A4, c4, rfl, hq1, hq2, hq3⟩ := hr4.form
                have HSU := Aside0.mk (mem_take_succR ra HJB.out)
                rw [← HFD.out] at HSU
                have hc4' := below_cell0 HBQ.out hc4
                cases fd with
                | true =>
                  have HF2 : Aside0 (true = decide (ra ∈ RB.take (j + 1))) := ⟨by rw [HSU.out]; rfl⟩
                  clear HFD HSU hr4 hc4
                  go_wp2
                  go_roundw
                  case rel => exact ⟨j + 1, true, rfl, by go_num, by omega, HF2, HBQ⟩
                  case measure => simp [intOf]; omega
                | false =>
                  obtain ⟨t1, t2, t3⟩ := two_rows wr _ _ _ _ _ _ (SlAt.below reads_int HR3.out HBQ.out) (SlAt.below reads_int hr4 HBQ.out)
                  have IS := Aside0.mk (is17_any _ _ _ _ _ _ _ t1 t2)
                  have HBI := Aside0.mk (below_trans0 HBQ.out t3)
                  obtain ⟨eq, heq⟩ : ∃ eq, decide (ra = RB[j]'HJB.out) = eq := ⟨_, rfl⟩
                  have HEQ := Aside0.mk heq
                  have HF2 : Aside0 (eq = decide (ra ∈ RB.take (j + 1))) := ⟨by rw [HSU.out, heq]; rfl⟩
                  obtain ⟨lb, hlb⟩ : ∃ lb, (RB[j]'HJB.out).length = lb := ⟨_, rfl⟩
                  rw [hlb] at IS HBI hc4' hq1 hq2
                  clear HFD HSU hr4 hc4 t1 t2 t3 heq hlb HBQ
                  go_wp2_with fail
                  refine IS.out.mono ?_
                  rintro e w9 ⟨he, hb9⟩
                  have HB9 := Aside0.mk (below_trans0 HBI.out hb9)
                  replace he : e = .returned (.bool eq) := by
                    rw [he, ← HEQ.out]
                    by_cases q : ra = RB[j]'HJB.out
                    · rw [decide_eq_true q, decide_eq_true (by rw [q])]
                    · rw [decide_eq_false q, decide_eq_false (fun k => q (by injection k))]
                  subst he
                  clear IS HBI hb9 hc4' HEQ
                  go_wp2
                  go_roundw
                  case rel => exact ⟨j + 1, eq, rfl, by go_num, by omega, HF2, HB9⟩
                  case measure => simp [intOf]; omega
              · obtain rfl : na = j := by omega
                have hjni : ¬ (na : Int) < (na : Int) := by omega
                obtain rfl : fd = true := by
                  rw [HFD.out]
                  refine decide_eq_true ?_
                  rw [← HNB.out, List.take_length]
                  exact HMEM.out
                clear HFD
                go_wp2
                go_roundw
                case rel => exact ⟨k + 1, by rw [HCS.out]; go_num, by go_num, by omega, HBQ⟩
                case measure => simp [intOf]; omega
          · obtain rfl : na = k := by omega
            have hkni : ¬ (na : Int) < (na : Int) := by omega
            have e0 : ((RA.take na).map List.length).sum = n := by rw [← HNA.out, List.take_length]; exact HCN.out
            rw [e0]
            have HBZ := Aside0.mk (below_trans0 HB6.out HBQ.out)
            clear e0 HCL HBQ
            go_wp2
            go_ret
            exact ⟨rfl, HBZ.out⟩
end Go.Proofs.Ytcpjlfhehjmfbaa.Sg
