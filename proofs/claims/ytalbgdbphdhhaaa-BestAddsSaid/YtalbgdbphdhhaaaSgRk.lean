/- Contracts: pick; And, Minus. -/
import Derived.Test.YtalbgdbphdhhaaaSgRi
import Derived.Test.YtalbgdbphdhhaaaSgRj
import Derived.Test.YtalbgdbphdhhaaaSgRd
import Derived.Test.YtalbgdbphdhhaaaSgD
namespace Go.Proofs.Ytalbgdbphdhhaaa.Sg
open Go.RowKit Go.Shelf
attribute [local go_sem] Oper.semAt_some
set_option linter.unusedVariables false
set_option linter.unusedSimpArgs false

/-- The rows that are, or aren't, another one's, too. -/
def picked (bs : List Row) (is : Bool) (rs : List Row) : List Row := rs.filter fun r => decide (r ∈ bs) == is
theorem picked_yes {bs : List Row} {is : Bool} {xs : List RowV} {x : RowV} (h : (decide (x.2 ∈ bs) == is) = true) : picked bs is (rowsOf (xs ++ [x])) = picked bs is (rowsOf xs) ++ [x.2] := by
  unfold picked; rw [rowsOf_snoc, List.filter_append, List.filter_cons, if_pos h]; rfl
theorem picked_no {bs : List Row} {is : Bool} {xs : List RowV} {x : RowV} (h : (decide (x.2 ∈ bs) == is) = false) : picked bs is (rowsOf (xs ++ [x])) = picked bs is (rowsOf xs) := by
  unfold picked; rw [rowsOf_snoc, List.filter_append, List.filter_cons, if_neg (by rw [h]; simp)]; simp
/-- A piece of code that is left at its end alone. -/
def RegPost (f : Act → World → Prop) : Exit → Act → World → Prop
  | .normal, a, w => f a w
  | _, _, _ => False
theorem below_trans {n : Nat} {w W W2 : World} (h : Below n w W) (k : Below W.heap.size W W2) (hn : n ≤ W.heap.size) : Below n w W2 := h.trans (k.mono hn)
theorem picked_length (bs : List Row) (is : Bool) (rs : List Row) : (picked bs is rs).length ≤ rs.length := List.length_filter_le _ _

set_option maxRecDepth 100000 in
set_option maxHeartbeats 4000000 in
theorem pick_any (w : World) (ok ok2 : Nat → Prop) (v v2 : Value) (W W2 : Nat) (a b : List Row) (is : Bool) (h : SegN w ok v W a) (h2 : SegN w ok2 v2 W2 b) (hs : SS b) :
    Calls Try.prog 48 #[v, v2, .bool is] w fun e w' => ∃ v', e = .returned v' ∧ SegAt w' (w.heap.size ≤ ·) v' W (picked b is a) ∧ Below w.heap.size w w' := by
  obtain ⟨p, rfl⟩ := h.ptr
  obtain ⟨p2, rfl⟩ := h2.ptr
  refine (callsIn_wide (n := 6)).1 ?_
  obtain ⟨ir, hir, hr0, hr1, hr2⟩ := info_parts info_rowR
  have mo : Try.prog.follows .mixedOrders = true := by kernel_rfl
  have H := Aside0.mk h
  have H2 := Aside0.mk h2
  have HSS := Aside0.mk hs
  have hla := h.len
  clear h h2 hs
  obtain ⟨W1, hW1⟩ : ∃ W1, ((w.alloc (.cells #[.pointer p2] 39)).alloc (.cells #[.bool is] 4)).alloc (.cells #[.slice none 0 0] 28) = W1 := ⟨_, rfl⟩
  have AL := Aside0.mk (all_any p W1)
  have HW1 := Aside0.mk hW1
  refine callsIn_of_wp_marks Try.func48 rfl trivial ?_ rfl
  simp only [Try.ntmps48, List.size_toArray, List.length_cons, List.length_nil, Nat.reduceAdd, Nat.reduceSub, Array.replicate_succ, Array.replicate_zero, List.push_toArray, List.append_toArray, List.nil_append, List.cons_append]
  clear hW1
  gi_wp2_with (refine ⟨trivial, ?_⟩; rw [HW1.out]; gi_at_call 44; refine (callsIn_wide.2 AL.out).mono ?_; rintro e w' ⟨rfl, rfl⟩)
  have hW1 := HW1.out
  have HZ := Aside0.mk (show W1.heap.size = w.heap.size + 3 by rw [← hW1]; simp)
  have hb1 : Below w.heap.size w W1 := by rw [← hW1]; exact below_alloc0 (below_alloc0 (below_alloc0 (Below.refl _ _) _) _) _
  have x0 : Boxed W1 w.heap.size 39 (.pointer p2) := by rw [← hW1]; exact ((Boxed.new w _ _).alloc _).alloc _
  have x1 : Boxed W1 (w.heap.size + 1) 4 (.bool is) := by rw [← hW1]; have := (Boxed.new (w.alloc (.cells #[.pointer p2] 39)) 4 (.bool is)).alloc (.cells #[.slice none 0 0] 28); rwa [World.size_alloc] at this
  have x2 : Boxed W1 (w.heap.size + 2) 28 (.slice none 0 0) := by rw [← hW1]; have := Boxed.new ((w.alloc (.cells #[.pointer p2] 39)).alloc (.cells #[.bool is] 4)) 28 (.slice none 0 0); rwa [World.size_alloc, World.size_alloc] at this
  clear hW1 AL HW1
  have hbb := below_alloc0 (Below.refl W1.heap.size W1) (.cells #[.pointer p] 39)
  have hbw := below_trans0 hb1 hbb
  have HA := Aside0.mk (fun w' (hb : Below w.heap.size w w') rv okr r (hr : RowAt w' okr rv r) => hasN_any w' ok2 okr _ rv W2 b r (H2.out.below hb) HSS.out hr)
  have LA := Aside0.mk (fun w' (hb : Below w.heap.size w w') lv (hl : RowsAt w' (fun _ => True) lv (picked b is a)) => laid_any w' (fun _ => True) lv W (picked b is a) hl H.out.wid (by have := picked_length b is a; omega) (fun r hr => H.out.row r (List.mem_filter.1 hr).1))
  have WA := Aside0.mk (fun w' (hb : Below w.heap.size w w') => widthN_any w' _ _ _ _ (H.out.below hb))
  refine wpIn_rangeU (gf := 57) (lb := #[.pointer (some ⟨W1.heap.size, 0, none⟩)]) (n0 := w.heap.size) (U0 := (· = W1.heap.size)) (X := RowX a) (S := AllS a) (Sp := AllSp a) rfl (enters_of Try.func57 (by kernel_rfl) rfl)
    (all1_in _ w.heap.size W1.heap.size (· < w.heap.size) _ W a _ (Boxed.new W1 39 _) ((H.out.mono (fun b _ hl => hl)).below hbw) (fun b hb => hb)) (by have := HZ.out; simp; omega) (fun x => rfl) (fun b hb => by subst hb; simp) RowX.kept
    (fun pre U W => (ListI w.heap.size w.heap.size (w.heap.size + 2) w (fun xs => picked b is (rowsOf xs)) pre U W) ∧ BoxI w.heap.size 39 (.pointer p2) pre U W ∧ BoxI (w.heap.size + 1) 4 (.bool is) pre U W)
    (fun _ _ _ _ => False)
    (Abid.and (ListI.abid _ _ _ _ _) (Abid.and (BoxI.abid _ _ _) (BoxI.abid _ _ _)))
    (fun _ _ _ _ _ _ h _ _ => h)
    ⟨⟨.slice none 0 0, [], ⟨x2.alloc _, World.ownsRow_nil _ _ _ _, fun j hj => by simp [picked, rowsOf] at hj, fun b hb => by simp [Value.ownBlock] at hb, fun e => by have := HZ.out; omega, by omega, fun b e => by have := HZ.out; omega, Nat.le_refl _, hbw⟩, by have := HZ.out; simp; omega⟩, ⟨x0.alloc _, fun e => by have := HZ.out; omega⟩, ⟨x1.alloc _, fun e => by have := HZ.out; omega⟩⟩
    (fun x => { tmps := #[.pointer p, .pointer p2, .bool is, undef, .pointer (some ⟨w.heap.size, 0, none⟩), .pointer (some ⟨w.heap.size + 1, 0, none⟩), .pointer none, .pointer (some ⟨w.heap.size + 1 + 1, 0, none⟩), x.1, .pointer p, .func (.func 57) #[] #[.pointer (some ⟨W1.heap.size, 0, none⟩)], x.1, undef, undef, undef, undef, undef, undef, undef, undef, undef, undef, undef, undef, undef], defers := [] }) ?assign ?body ?done ?stop
  case assign =>
    intro l x W K hK
    simp only [encR]
    gi_wp2
    exact hK
  case body =>
    rintro l pre x UA U A W9 ⟨⟨v, cs, hL, hnA⟩, hX0, hX1⟩ hk hv hU hx
    obtain ⟨hxi, hxm, hxr⟩ := hx
    have hpl : pre.length < a.length := (List.getElem?_eq_some_iff.1 hxi).1
    have PY := Aside0.mk (fun h => picked_yes (bs := b) (is := is) (xs := pre) (x := x) h)
    have PN := Aside0.mk (fun h => picked_no (bs := b) (is := is) (xs := pre) (x := x) h)
    obtain ⟨xv, r⟩ := x
    obtain ⟨Ax, cx, hxv, _⟩ := hxr.form
    simp only at hxv
    subst hxv
    obtain ⟨Av, cv, hvf⟩ := own_form hL.own
    subst hvf
    have hLW := hL.abid hk hv hnA
    have hX0 := BoxI.abid _ _ _ _ _ _ _ _ hX0 hk hv
    have hX1 := BoxI.abid _ _ _ _ _ _ _ _ hX1 hk hv
    have hxr2 := reads_row.mono (ok2 := fun b' => w.heap.size ≤ b' ∧ Off (.slice Av (picked b is (rowsOf pre)).length cv) b' ∧ b' ≠ w.heap.size + 2 ∧ ¬ U b') hxr (fun b' hb _ => ⟨Nat.le_trans hnA hb.1, fun e => by have := (hL.own.lt b' e).2; have := hb.1; omega, fun e => by have := hL.box.lt; have := hb.1; omega, hb.2⟩)
    have HLW := Aside0.mk hLW
    have HXR := Aside0.mk hxr2
    have HU := Aside0.mk hU
    have HX0 := Aside0.mk hX0
    have HX1 := Aside0.mk hX1
    have hc := hLW.box.cell
    have hf := hLW.box.frozen
    have hc0 := hX0.1.cell
    have hc1 := hX1.1.cell
    have hlp : (picked b is (rowsOf pre)).length ≤ pre.length := by have := picked_length b is (rowsOf pre); have h9 : (rowsOf pre).length = pre.length := (by simp [rowsOf]); omega
    have hws := hk.size
    have HN := Aside0.mk (Nat.le_trans hnA hws)
    have HAS := Aside0.mk (fun w' (hb : Below W9.heap.size W9 w') => HA.out w' (below_trans (hLW.below) hb HN.out) _ _ r (SlAt.below reads_int hxr hb))
    clear hL hk hv hU hLW hX0 hX1 hxr hxr2 hxi hxm
    obtain ⟨db, hdb⟩ : ∃ db, decide (r ∈ b) = db := ⟨_, rfl⟩
    simp only [hdb] at HAS PY PN
    clear hdb
    gi_wp2
    gi_region_with_o (refine ⟨trivial, ?_⟩; gi_at_call 59; refine (CallsIn.inRound l (callsIn_wide.2 (HAS.out _ (by first | exact Below.refl _ _ | exact below_drew (Below.refl _ _))))).mono ?_; rintro e w4 ⟨rfl, hb4⟩; have q0 : w4.cell? ⟨w.heap.size, 0, none⟩ = some (.pointer p2) := below_cell0 hb4 hc0; have q1 : w4.cell? ⟨w.heap.size + 1, 0, none⟩ = some (.bool is) := below_cell0 hb4 hc1)
    all_goals
      have B4 := Aside0.mk (show Below W9.heap.size W9 w4 from by first | exact hb4 | exact (below_drew (Below.refl _ _)).trans hb4)
      have HL4 := Aside0.mk (HLW.out.abid (V := U) (Keeps.all B4.out _) (fun b' hb => .inl hb) HN.out)
      have HXR4 := Aside0.mk (SlAt.below reads_int HXR.out B4.out)
      have HX04 := Aside0.mk (HX0.out.kept (pre2 := pre ++ [(.slice Ax r.length cx, r)]) (Keeps.all B4.out (fun _ => True)) trivial)
      have HX14 := Aside0.mk (HX1.out.kept (pre2 := pre ++ [(.slice Ax r.length cx, r)]) (Keeps.all B4.out (fun _ => True)) trivial)
      clear hb4
      by_cases hd : (db == is) = true
      · have PY := Aside0.mk (PY.out hd)
        have c4 := HL4.out.box.cell
        have f4 := HL4.out.box.frozen
        have hs4 := B4.out.size
        have h63 := Aside0.mk (show (picked b is (rowsOf pre)).length + 1 ≤ maxLen by unfold maxLen; omega)
        have hby := Aside0.mk (show ((picked b is (rowsOf pre)).length + 1) * 24 ≤ 140737488355328 by omega)
        have hw4 := HN.out
        have hsz := Aside0.mk (fun o => (show w.heap.size ≤ (w4.alloc o).heap.size by simp; omega))
        have hU4 := Aside0.mk (show ∀ b', U b' → b' < w4.heap.size from fun b' hb => Nat.lt_of_lt_of_le (HU.out b' hb) hs4)
        simp only [hd]
        clear hc hf hc0 hc1 q0 q1 PN HAS hd HLW HXR
        gi_wp2_with (gi_at_builtin; refine wpListIn_append_at _ rfl _ _ 28 rfl w.heap.size 23 ir (.slice none 0 0) 1 24 Try.underlying28 hir hr0 hr1 hr2 rfl (by decide) _ _ _ rfl (HL4.out.own.alloc _) ⟨w4.heap.size, 0, none⟩ 1 1 [Value.slice Ax r.length cx] rfl rfl (cell_one_new _ _ _) (by simp [Value.oneCell']) h63.out hby.out (hsz.out _) ?_; intro v' w1 ho hg hb; obtain ⟨b', c', rfl⟩ := own_some ho; have HP := Aside0.mk (HL4.out.push HXR4.out ho hg hb hU4.out); have hbk := (((HL4.out.box.alloc _).kept hg HL4.out.notOwn)); have e1 := hbk.cell; have f1 := hbk.frozen; clear ho hg hb hbk)
        have HP1 := HP.out.1
        rw [← PY.out] at HP1
        exact ⟨(Keeps.all B4.out (fun b => b < w.heap.size ∨ U b)).trans HP.out.2.1 (fun _ _ h => h), ⟨⟨_, _, HP1, Nat.le_trans (Nat.le_trans hw4 hs4) HP.out.2.1.size⟩, HX04.out.kept HP.out.2.2 (HL4.out.offBox HX04.out.1 (by decide) (by omega)), HX14.out.kept HP.out.2.2 (HL4.out.offBox HX14.out.1 (by decide) (by omega))⟩⟩
      · have hd2 : (db == is) = false := by simpa using hd
        have PN := Aside0.mk (PN.out hd2)
        have hs4 := B4.out.size
        have hw4 := HN.out
        simp only [hd2]
        clear hc hf hc0 hc1 q0 q1 PY HAS hd hd2 HLW HXR
        gi_wp2
        have HP1 := HL4.out
        rw [← PN.out] at HP1
        exact ⟨Keeps.all B4.out _, ⟨⟨_, _, HP1, Nat.le_trans hw4 hs4⟩, HX04.out, HX14.out⟩⟩
  case done =>
    rintro D ys U W9 hS ⟨⟨v, cs, hL, hnA⟩, hX0, hX1⟩ hK hUD hD
    have hc := hL.box.cell
    have e9 : rowsOf ys = a := hS
    have hpl := picked_length b is a
    simp only [e9] at hL
    have HL2 := Aside0.mk hL
    have HBW := Aside0.mk hL.below
    have RO := Aside0.mk (show RowsAt W9 (fun _ => True) v (picked b is a) from SlAt.of_own0 (E := RowAt) (xs := picked b is a) hL.own rfl (fun _ _ _ => trivial) (by omega) (fun j hj u hu => reads_row.mono (hL.el j hj u hu) (fun b hb _ => trivial)))
    have HK := Aside0.mk hK
    have LB := Aside0.mk (fun w' (hb : Below W9.heap.size W9 w') => LA.out w' (below_trans HBW.out hb hnA) v (SlAt.below reads_row RO.out hb))
    have WB := Aside0.mk (fun w' (hb : Below W9.heap.size W9 w') => WA.out w' (below_trans HBW.out hb hnA))
    clear hL hS hK e9
    gi_wp2
    refine wpIn_mono (Q := RegPost fun a' w' => ∃ rv, a' = { tmps := #[.pointer p, .pointer p2, .bool is, undef, .pointer (some ⟨w.heap.size, 0, none⟩), .pointer (some ⟨w.heap.size + 1, 0, none⟩), rv, .pointer (some ⟨w.heap.size + 1 + 1, 0, none⟩), undef, .pointer p, .func (.func 57) #[] #[.pointer (some ⟨W1.heap.size, 0, none⟩)], undef, undef, undef, undef, undef, undef, undef, undef, undef, undef, .pointer p, .int .i64 W, v, rv], defers := [{ target := Target.collected D, args := #[] }] } ∧ SegAt w' (W9.heap.size ≤ ·) rv W (picked b is a) ∧ Below W9.heap.size W9 w') ?_ ?_
    · gi_region_with_o (first | (refine ⟨trivial, ?_⟩; gi_at_call 33; refine (callsIn_wide.2 (WB.out _ (by first | exact Below.refl _ _ | exact below_drew (Below.refl _ _)))).mono ?_; rintro e w' ⟨rfl, rfl⟩) | (refine ⟨trivial, ?_⟩; gi_at_call 39; refine (callsIn_wide.2 (LB.out _ (by first | exact Below.refl _ _ | exact below_drew (Below.refl _ _)))).mono ?_; rintro e w' ⟨rv, rfl, hrv, hbv⟩))
      all_goals exact ⟨rv, rfl, hrv, by first | exact hbv | exact (below_drew (Below.refl _ _)).trans hbv⟩
    · rintro e a3 w3 hp
      cases e with
      | normal =>
        obtain ⟨rv, rfl, hrv, hbv⟩ := hp
        have hDl := (Array.getElem?_eq_some_iff.1 HK.out).1
        have HK3 := Aside0.mk ((hbv.block D hDl).trans HK.out)
        have hne : ∀ b, W9.heap.size ≤ b → b ≠ D := fun b hb e => by omega
        have HR3 := Aside0.mk ((hrv.stays ((Keeps.putObj w3 D (.deferred none)).stays.mono (fun b hb _ => hne b hb))).mono (ok2 := (w.heap.size ≤ ·)) (fun b hb _ => Nat.le_trans hnA hb))
        have hDw : w.heap.size ≤ D := by have := hbw.size; omega
        have HB3 := Aside0.mk ((below_trans HBW.out hbv hnA).trans ((Keeps.putObj w3 D (.deferred none)).below (Nat.le_trans hnA hbv.size) (fun b hb e => by omega)))
        obtain ⟨g3, cv3, hv3, _⟩ := hrv.ex
        subst hv3
        clear hrv hbv hne HK RO LB WB HL2
        gi_wp2
        refine ⟨by simp, .inl ⟨_, _, rfl, run_takeDeferred HK3.out, ?_⟩⟩
        exact ⟨_, results_tmp rfl _ _ _, .pointer (some ⟨g3, 0, none⟩), rfl, HR3.out, HB3.out⟩
      | ret => exact hp.elim
      | exit id => exact hp.elim
      | goto t => exact hp.elim
      | panic c => exact hp.elim
      | outgrown => exact hp.elim
  case stop =>
    rintro D c pre U W _ h
    exact h.elim

set_option maxHeartbeats 1000000 in
theorem and_any (w : World) (ok ok2 : Nat → Prop) (v v2 : Value) (W W2 : Nat) (a b : List Row) (h : SegN w ok v W a) (h2 : SegN w ok2 v2 W2 b) (hs : SS b) :
    Calls Try.prog 31 #[v, v2] w fun e w' => ∃ v', e = .returned v' ∧ SegAt w' (w.heap.size ≤ ·) v' W (picked b true a) ∧ Below w.heap.size w w' := by
  have PK := Aside0.mk (pick_any w ok ok2 v v2 W W2 a b true h h2 hs)
  obtain ⟨p, rfl⟩ := h.ptr
  obtain ⟨p2, rfl⟩ := h2.ptr
  clear h h2 hs
  go_enter Try.func31, Try.ntmps31
  go_wp2_with fail
  refine (PK.out).mono ?_
  rintro e w1 ⟨v', rfl, S1, B1⟩
  have S1 := Aside0.mk S1
  have B1 := Aside0.mk B1
  obtain ⟨g, cv, hv, _⟩ := S1.out.ex
  subst hv
  clear PK
  go_wp2
  go_ret
  exact ⟨_, rfl, S1.out, B1.out⟩

set_option maxHeartbeats 1000000 in
theorem minus_any (w : World) (ok ok2 : Nat → Prop) (v v2 : Value) (W W2 : Nat) (a b : List Row) (h : SegN w ok v W a) (h2 : SegN w ok2 v2 W2 b) (hs : SS b) :
    Calls Try.prog 32 #[v, v2] w fun e w' => ∃ v', e = .returned v' ∧ SegAt w' (w.heap.size ≤ ·) v' W (picked b false a) ∧ Below w.heap.size w w' := by
  have PK := Aside0.mk (pick_any w ok ok2 v v2 W W2 a b false h h2 hs)
  obtain ⟨p, rfl⟩ := h.ptr
  obtain ⟨p2, rfl⟩ := h2.ptr
  clear h h2 hs
  go_enter Try.func32, Try.ntmps32
  go_wp2_with fail
  refine (PK.out).mono ?_
  rintro e w1 ⟨v', rfl, S1, B1⟩
  have S1 := Aside0.mk S1
  have B1 := Aside0.mk B1
  obtain ⟨g, cv, hv, _⟩ := S1.out.ex
  subst hv
  clear PK
  go_wp2
  go_ret
  exact ⟨_, rfl, S1.out, B1.out⟩
end Go.Proofs.Ytalbgdbphdhhaaa.Sg
