/- Contracts: ergolaw17.Is; slices.Index and Contains of numbers; graph.Loops. -/
import Derived.Test.YtcpjlfhehjmfbaaHK
import Derived.Deep.DeepCutAuto
import Derived.Deep.RegionHeld3
namespace Go.Proofs.Ytcpjlfhehjmfbaa.Gr
open Go.RowKit Go.Shelf Go.Proofs.Ytcpjlfhehjmfbaa.Sg
set_option linter.unusedVariables false
set_option linter.unusedSimpArgs false

theorem row_ext {a b : Row} (hl : a.length = b.length) (h : ∀ j (h1 : j < a.length) (h2 : j < b.length), a[j] = b[j]) : a = b := List.ext_getElem hl h
set_option maxHeartbeats 2000000 in
set_option maxRecDepth 100000 in
theorem is17_any (w : World) (ok ok2 : Nat → Prop) (gv wv : Value) (ra rb : List Row) (h : RowsAt w ok gv ra) (k : RowsAt w ok2 wv rb) :
    Calls Try.prog 9 #[gv, wv] w fun e w' => e = .returned (.bool (decide (ra = rb))) ∧ Below w.heap.size w w' := by
  have mixed : Try.prog.follows .mixedOrders = true := by kernel_rfl
  obtain ⟨A1, c1, rfl, ha1, ha2, ha3⟩ := h.form
  obtain ⟨A2, c2, rfl, hb1, hb2, hb3⟩ := k.form
  have H := Aside0.mk h
  have K := Aside0.mk k
  obtain ⟨la, hla⟩ : ∃ la, ra.length = la := ⟨_, rfl⟩
  obtain ⟨lb, hlb⟩ : ∃ lb, rb.length = lb := ⟨_, rfl⟩
  have HLA := Aside0.mk hla
  have HLB := Aside0.mk hlb
  rw [hla] at ha1 ha2
  rw [hlb] at hb1 hb2
  rw [hla, hlb]
  clear h k
  obtain ⟨r, hr⟩ : ∃ r, decide (ra = rb) = r := ⟨_, rfl⟩
  rw [hr]
  have HR := Aside0.mk hr
  clear hr hla hlb
  by_cases hl : la = lb
  · subst hl
    go_enter Try.func9, Try.ntmps9
    go_wp2_with fail
    go_loopw [14] (fun s14 wq => ∃ i : Nat, s14 = .int .i64 i ∧ i ≤ la ∧ Aside0 (∀ j (h1 : j < i) (h2 : j < ra.length) (h3 : j < rb.length), ra[j] = rb[j]) ∧ Aside0 (Below w.heap.size w wq)) (fun s14 _ => la - (intOf s14).toNat)
    case atStart => exact ⟨0, rfl, Nat.zero_le _, ⟨fun j h => by omega⟩, ⟨Below.refl _ _⟩⟩
    case round =>
      obtain ⟨i, rfl, hi, HE, HB⟩ := hrel
      by_cases hlt : i < la
      · have hlti : (i : Int) < (la : Int) := by omega
        have ti : ((i : Nat) : Int).toNat = i := by omega
        have HIA := Aside0.mk (show i < ra.length by rw [HLA.out]; exact hlt)
        have HIB := Aside0.mk (show i < rb.length by rw [HLB.out]; exact hlt)
        obtain ⟨b1, o1, u1, rfl, -, -, hc1, hr1⟩ := H.out.at_ i HIA.out
        obtain ⟨b2, o2, u2, rfl, -, -, hc2, hr2⟩ := K.out.at_ i HIB.out
        obtain ⟨P1, q1, rfl, hp1, hp2, hp3⟩ := hr1.form
        obtain ⟨P2, q2, rfl, hq1, hq2, hq3⟩ := hr2.form
        have hc1' := below_cell0 HB.out hc1
        have hc2' := below_cell0 HB.out hc2
        have HR1 := Aside0.mk hr1
        have HR2 := Aside0.mk hr2
        obtain ⟨ma, hma⟩ : ∃ ma, (ra[i]'HIA.out).length = ma := ⟨_, rfl⟩
        obtain ⟨mb, hmb⟩ : ∃ mb, (rb[i]'HIB.out).length = mb := ⟨_, rfl⟩
        rw [hma] at hp1 hp2 hc1'
        rw [hmb] at hq1 hq2 hc2'
        rw [hma] at hc1
        rw [hmb] at hc2
        have HMA := Aside0.mk hma
        have HMB := Aside0.mk hmb
        have HC1 := Aside0.mk hc1
        have HC2 := Aside0.mk hc2
        clear hma hmb hr1 hr2 hc1 hc2
        by_cases hm : ma = mb
        · subst hm
          go_wp2_with fail
          go_quiet (fail)
          have HB2 := Aside0.mk (below_drewN HB.out nq)
          have hc1n := below_cell0 (below_drewN (Below.refl _ wr) nq) hc1'
          have hc2n := below_cell0 (below_drewN (Below.refl _ wr) nq) hc2'
          clear hc1' hc2' HB
          generalize wr.drewN nq = w5 at HB2 hc1n hc2n ⊢
          go_wp2_with fail
          clear hc1n hc2n
          go_loopw [33] (fun s33 wq => ∃ k : Nat, s33 = .int .i64 k ∧ k ≤ ma ∧ Aside0 (∀ j (h1 : j < k) (h2 : j < (ra[i]'HIA.out).length) (h3 : j < (rb[i]'HIB.out).length), (ra[i]'HIA.out)[j] = (rb[i]'HIB.out)[j]) ∧ Aside0 (Below w.heap.size w wq)) (fun s33 _ => ma - (intOf s33).toNat)
          case atStart => exact ⟨0, rfl, Nat.zero_le _, ⟨fun j h => by omega⟩, HB2⟩
          case round =>
            clear HB2
            obtain ⟨k, rfl, hk, HE2, HB⟩ := hrel
            by_cases hkl : k < ma
            · have hkli : (k : Int) < (ma : Int) := by omega
              have tk : ((k : Nat) : Int).toNat = k := by omega
              have HKA := Aside0.mk (show k < (ra[i]'HIA.out).length by rw [HMA.out]; exact hkl)
              have HKB := Aside0.mk (show k < (rb[i]'HIB.out).length by rw [HMB.out]; exact hkl)
              obtain ⟨b3, o3, u3, rfl, -, -, hc3, hv3, -⟩ := HR1.out.at_ k HKA.out
              obtain ⟨b4, o4, u4, rfl, -, -, hc4, hv4, -⟩ := HR2.out.at_ k HKB.out
              subst hv3
              subst hv4
              obtain ⟨x, hx⟩ : ∃ x, ((ra[i]'HIA.out)[k]'HKA.out) = x := ⟨_, rfl⟩
              obtain ⟨y, hy⟩ : ∃ y, ((rb[i]'HIB.out)[k]'HKB.out) = y := ⟨_, rfl⟩
              rw [hx] at hc3
              rw [hy] at hc4
              have HX := Aside0.mk hx
              have HY := Aside0.mk hy
              have hc1' := below_cell0 HB.out HC1.out
              have hc2' := below_cell0 HB.out HC2.out
              have hc3' := below_cell0 HB.out hc3
              have hc4' := below_cell0 HB.out hc4
              clear hc3 hc4 hx hy
              by_cases hxy : x = y
              · subst hxy
                go_wp2_with fail
                go_quiet (fail)
                have HB2 := Aside0.mk (below_drewN HB.out nq)
                have HE3 := Aside0.mk (show ∀ j (h1 : j < k + 1) (h2 : j < (ra[i]'HIA.out).length) (h3 : j < (rb[i]'HIB.out).length), (ra[i]'HIA.out)[j] = (rb[i]'HIB.out)[j] from fun j h1 h2 h3 => by
                  by_cases q : j = k
                  · subst q; exact HX.out.trans HY.out.symm
                  · exact HE2.out j (by omega) h2 h3)
                clear HB HE2 hc1' hc2' hc3' hc4'
                go_wp2
                go_roundw
                case rel => exact ⟨k + 1, by go_num, by omega, HE3, HB2⟩
                case measure => simp [intOf]; omega
              · have hxy2 : (x == y) = false := by rw [beq_eq_false_iff_ne]; exact hxy
                have hrf : r = false := by
                  rw [← HR.out]
                  refine decide_eq_false (fun e => hxy ?_)
                  subst e
                  exact HX.out.symm.trans HY.out
                subst hrf
                go_wp2_with fail
                go_quiet (fail)
                have HB2 := Aside0.mk (below_drewN HB.out nq)
                clear HB
                go_wp2
                (try simp only [Exit.inBlock, Exit.then])
                refine bodyPost_ret (results_tmp rfl _ _ _) rfl ?_
                exact ⟨rfl, HB2.out⟩
            · obtain rfl : ma = k := by omega
              have hkli : ¬ (ma : Int) < (ma : Int) := by omega
              have HE3 := Aside0.mk (show ∀ j (h1 : j < i + 1) (h2 : j < ra.length) (h3 : j < rb.length), ra[j] = rb[j] from fun j h1 h2 h3 => by
                by_cases q : j = i
                · subst q
                  exact row_ext (by rw [HMA.out, HMB.out]) (fun t h4 h5 => HE2.out t (by rw [← HMA.out]; exact h4) h4 h5)
                · exact HE.out j (by omega) h2 h3)
              clear HE HE2
              go_wp2
              go_roundw
              case rel => exact ⟨i + 1, by go_num, by omega, HE3, HB⟩
              case measure => simp [intOf]; omega
        · have hmi : ¬ (ma : Int) = (mb : Int) := by omega
          have hmi2 : ((ma : Int) == (mb : Int)) = false := by rw [beq_eq_false_iff_ne]; exact hmi
          have hrf : r = false := by
            rw [← HR.out]
            refine decide_eq_false (fun e => hm ?_)
            subst e
            exact HMA.out.symm.trans HMB.out
          subst hrf
          clear hm
          go_wp2_with fail
          go_quiet (fail)
          have HB2 := Aside0.mk (below_drewN HB.out nq)
          clear HB
          go_wp2
          (try simp only [Exit.inBlock, Exit.then])
          refine bodyPost_ret (results_tmp rfl _ _ _) rfl ?_
          exact ⟨rfl, HB2.out⟩
      · obtain rfl : la = i := by omega
        have hlti : ¬ (la : Int) < (la : Int) := by omega
        have hrt : r = true := by
          rw [← HR.out]
          exact decide_eq_true (List.ext_getElem (by rw [HLA.out, HLB.out]) (fun j h1 h2 => HE.out j (by rw [← HLA.out]; exact h1) h1 h2))
        subst hrt
        go_wp2
        go_ret
        exact ⟨rfl, HB.out⟩
  · have hli : ¬ (la : Int) = (lb : Int) := by omega
    have hli2 : ((la : Int) == (lb : Int)) = false := by rw [beq_eq_false_iff_ne]; exact hli
    have hrf : r = false := by
      rw [← HR.out]
      refine decide_eq_false (fun e => hl ?_)
      subst e
      exact HLA.out.symm.trans HLB.out
    subst hrf
    clear hl
    go_enter Try.func9, Try.ntmps9
    go_wp2
    go_ret
    exact ⟨rfl, Below.refl _ _⟩

set_option maxHeartbeats 1000000 in
set_option maxRecDepth 100000 in
theorem indexI_any (w : World) (ok : Nat → Prop) (sv : Value) (xs : Row) (v : Int) (h : RowAt w ok sv xs) :
    Calls Try.prog 24 #[sv, .int .i64 v] w fun e w' => ∃ k : Int, e = .returned (.int .i64 k) ∧ decide (0 ≤ k) = decide (v ∈ xs) ∧ w = w' := by
  obtain ⟨A1, c1, rfl, ha1, ha2, ha3⟩ := h.form
  have H := Aside0.mk h
  obtain ⟨la, hla⟩ : ∃ la, xs.length = la := ⟨_, rfl⟩
  have HLA := Aside0.mk hla
  rw [hla] at ha1 ha2
  rw [hla]
  clear h hla
  go_enter Try.func24, Try.ntmps24
  go_wp2_with fail
  go_loopw [8] (fun s8 wq => ∃ i : Nat, s8 = .int .i64 i ∧ i ≤ la ∧ Aside0 (∀ j (h1 : j < i) (h2 : j < xs.length), v ≠ xs[j]) ∧ w = wq) (fun s8 _ => la - (intOf s8).toNat)
  case atStart => exact ⟨0, rfl, Nat.zero_le _, ⟨fun j h => by omega⟩, rfl⟩
  case round =>
    obtain ⟨i, rfl, hi, HE, rfl⟩ := hrel
    by_cases hlt : i < la
    · have hlti : (i : Int) < (la : Int) := by omega
      have ti : ((i : Nat) : Int).toNat = i := by omega
      have HIA := Aside0.mk (show i < xs.length by rw [HLA.out]; exact hlt)
      obtain ⟨b1, o1, u1, rfl, -, -, hc1, hv1, -⟩ := H.out.at_ i HIA.out
      subst hv1
      obtain ⟨x, hx⟩ : ∃ x, (xs[i]'HIA.out) = x := ⟨_, rfl⟩
      rw [hx] at hc1
      have HX := Aside0.mk hx
      clear hx
      by_cases hxv : v = x
      · have HV := Aside0.mk hxv
        have hvv : (v == x) = true := by rw [beq_iff_eq]; exact hxv
        go_wp2
        (try simp only [Exit.inBlock, Exit.then])
        refine bodyPost_ret (results_tmp rfl _ _ _) rfl ?_
        exact ⟨(i : Int), rfl, by rw [decide_eq_true (by omega : (0 : Int) ≤ (i : Int)), decide_eq_true (by rw [HV.out, ← HX.out]; exact List.getElem_mem _)], rfl⟩
      · have hvv : (v == x) = false := by rw [beq_eq_false_iff_ne]; exact hxv
        have HE2 := Aside0.mk (show ∀ j (h1 : j < i + 1) (h2 : j < xs.length), v ≠ xs[j] from fun j h1 h2 => by
          by_cases q : j = i
          · subst q; rw [HX.out]; exact hxv
          · exact HE.out j (by omega) h2)
        clear HE
        go_wp2
        go_roundw
        case rel => exact ⟨i + 1, by go_num, by omega, HE2, by first | rfl | trivial⟩
        case measure => simp [intOf]; omega
    · obtain rfl : la = i := by omega
      have hlti : ¬ (la : Int) < (la : Int) := by omega
      go_wp2
      go_ret
      refine ⟨-1, rfl, ?_, rfl⟩
      refine ⟨fun k => by omega, fun k => ?_⟩
      obtain ⟨j, hj, e⟩ := List.mem_iff_getElem.1 k
      exact absurd e.symm (HE.out j (by rw [← HLA.out]; exact hj) hj)
set_option maxHeartbeats 1000000 in
theorem containsI_any (w : World) (ok : Nat → Prop) (sv : Value) (xs : Row) (v : Int) (h : RowAt w ok sv xs) :
    Calls Try.prog 19 #[sv, .int .i64 v] w fun e w' => e = .returned (.bool (decide (v ∈ xs))) ∧ w = w' := by
  obtain ⟨A1, c1, rfl, ha1, ha2, ha3⟩ := h.form
  have IX := Aside0.mk (indexI_any w ok _ xs v h)
  clear h
  go_enter Try.func19, Try.ntmps19
  go_wp2_with fail
  refine IX.out.mono ?_
  rintro e w' ⟨k, rfl, hk, rfl⟩
  replace hk := Aside0.mk hk
  go_wp2
  go_ret
  exact ⟨congrArg (fun b => Ending.returned (Value.bool b)) hk.out, rfl⟩
set_option maxHeartbeats 1000000 in
set_option maxRecDepth 100000 in
theorem loops_any (w : World) (ok : Nat → Prop) (sv : Value) (es : List Row) (v : Int) (h : RowsAt w ok sv es) :
    Calls Try.prog 12 #[sv, .int .i64 v] w fun e w' => e = .returned (.bool (decide (0 ≤ v ∧ v < (es.length : Int) ∧ v ∈ es.getD v.toNat []))) ∧ w = w' := by
  obtain ⟨A1, c1, rfl, ha1, ha2, ha3⟩ := h.form
  have H := Aside0.mk h
  obtain ⟨la, hla⟩ : ∃ la, es.length = la := ⟨_, rfl⟩
  have HLA := Aside0.mk hla
  rw [hla] at ha1 ha2
  rw [hla]
  clear h hla
  by_cases h0 : 0 ≤ v
  · obtain ⟨n, rfl⟩ : ∃ n : Nat, v = (n : Int) := ⟨v.toNat, by omega⟩
    have tn : ((n : Nat) : Int).toNat = n := by omega
    rw [tn]
    by_cases h1 : n < la
    · have h1i : (n : Int) < (la : Int) := by omega
      have HN := Aside0.mk (show n < es.length by rw [HLA.out]; exact h1)
      obtain ⟨b1, o1, u1, rfl, -, -, hc1, hr1⟩ := H.out.at_ n HN.out
      obtain ⟨A2, c2, rfl, hb1, hb2, hb3⟩ := hr1.form
      have CO := Aside0.mk (containsI_any w ok _ _ (n : Int) hr1)
      have e : decide (0 ≤ (n : Int) ∧ (n : Int) < (la : Int) ∧ (n : Int) ∈ es.getD n []) = decide ((n : Int) ∈ es[n]'HN.out) := by
        have e1 : es.getD n [] = es[n]'HN.out := by rw [List.getD_eq_getElem?_getD, List.getElem?_eq_getElem HN.out]; rfl
        rw [e1]
        by_cases q : (n : Int) ∈ es[n]'HN.out
        · rw [decide_eq_true q, decide_eq_true ⟨h0, h1i, q⟩]
        · rw [decide_eq_false q, decide_eq_false (fun k => q k.2.2)]
      rw [e]
      generalize (es[n]'HN.out).length = ml at hc1 CO hb1 hb2
      generalize decide ((n : Int) ∈ es[n]'HN.out) = r at CO ⊢
      clear hr1 e
      go_enter Try.func12, Try.ntmps12
      go_wp2_with fail
      refine CO.out.mono ?_
      rintro e w' ⟨rfl, rfl⟩
      go_wp2
      go_ret
      exact ⟨rfl, rfl⟩
    · have h1i : ¬ (n : Int) < (la : Int) := by omega
      rw [decide_eq_false (fun k => h1i k.2.1)]
      go_enter Try.func12, Try.ntmps12
      go_wp2
      go_ret
      exact ⟨rfl, rfl⟩
  · rw [decide_eq_false (fun k => h0 k.1)]
    have h2 : v < 0 := by omega
    have h3 : decide (0 ≤ v) = false := decide_eq_false h0
    have h4 : decide (v ≥ 0) = false := decide_eq_false h0
    go_enter Try.func12, Try.ntmps12
    go_wp2
    go_ret
    exact ⟨rfl, rfl⟩
end Go.Proofs.Ytcpjlfhehjmfbaa.Gr
