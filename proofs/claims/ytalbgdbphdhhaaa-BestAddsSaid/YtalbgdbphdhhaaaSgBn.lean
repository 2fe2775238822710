/- Contract: Best.Add. -/
import Derived.Test.YtalbgdbphdhhaaaSgBm
import Derived.Test.YtalbgdbphdhhaaaSgRq
namespace Go.Proofs.Ytalbgdbphdhhaaa.Sg
open Go.RowKit Go.Shelf
attribute [local go_sem] Oper.semAt_some
set_option linter.unusedVariables false
set_option linter.unusedSimpArgs false

def newsA (W : Nat) (great : Bool) (rows ss : List Row) : List Row := (allA W great rows ss).2.map fun k => k ++ [(getB W (allA W great rows ss).1 k).getD 0]
theorem BestS.wid {w : World} {B g W : Nat} {F : Nat → Prop} {great : Bool} {rows : List Row} (h : BestS w B g F W great rows) : W < 1000 := by
  obtain ⟨⟨mb, rv, bs, n, D, h1, h2⟩, _⟩ := h
  exact h1.wid
theorem BestS.cells {w : World} {B g W : Nat} {F : Nat → Prop} {great : Bool} {rows : List Row} (h : BestS w B g F W great rows) : w.cell? ⟨g, 0, none⟩ = some (.int .i64 W) := by
  obtain ⟨⟨mb, rv, bs, n, D, h1, h2⟩, _⟩ := h
  exact h1.cells.1
theorem BestS.gF {w : World} {B g W : Nat} {F : Nat → Prop} {great : Bool} {rows : List Row} (h : BestS w B g F W great rows) : F g := by
  obtain ⟨⟨mb, rv, bs, n, D, h1, h2, _⟩, _⟩ := h
  exact h2
theorem allA_lens (W : Nat) (great : Bool) (rows : List Row) (L : List Row) : ∀ st : List Row × List Row, (L.foldl (stepA W great) st).1.length ≤ st.1.length + L.length ∧ (L.foldl (stepA W great) st).2.length ≤ st.2.length + L.length := by
  induction L with
  | nil => intro st; exact ⟨Nat.le_refl _, Nat.le_refl _⟩
  | cons r L ih =>
    intro st
    rw [List.foldl_cons]
    have h := ih (stepA W great st r)
    have h1 : (stepA W great st r).1.length ≤ st.1.length + 1 ∧ (stepA W great st r).2.length ≤ st.2.length + 1 := by
      unfold stepA
      split
      · refine ⟨?_, ?_⟩
        · show (putB W great st.1 (r.take W) (r.getD W 0)).1.length ≤ _
          unfold putB; split <;> (try split) <;> simp
        · show (if (putB W great st.1 (r.take W) (r.getD W 0)).2 then st.2 ++ [r.take W] else st.2).length ≤ _
          split <;> simp
      · exact ⟨by omega, by omega⟩
    rw [List.length_cons]
    omega
theorem rowsOf_length (xs : List RowV) : (rowsOf xs).length = xs.length := by simp [rowsOf]
theorem mem_keysA {W : Nat} {great : Bool} {L : List Row} : ∀ {st : List Row × List Row}, (∀ k ∈ st.2, k.length = W) → ∀ k ∈ (L.foldl (stepA W great) st).2, k.length = W := by
  induction L with
  | nil => intro st h; exact h
  | cons r L ih =>
    intro st h
    rw [List.foldl_cons]
    refine ih (fun k hk => ?_)
    unfold stepA at hk
    split at hk
    · rename_i h2
      simp only at hk
      split at hk
      · rcases List.mem_append.1 hk with h3 | h3
        · exact h k h3
        · rw [List.mem_singleton.1 h3, List.length_take]; omega
      · exact h k hk
    · exact h k hk

theorem getB_in64 {W : Nat} {rows : List Row} (h : GoodB W rows) (k : Row) : In64 ((getB W rows k).getD 0) := by
  unfold getB
  cases hx : idxB W rows k with
  | none => simp [In64]
  | some i =>
    obtain ⟨hi, _⟩ := idxB_some hx
    show In64 (costB W rows i)
    unfold costB
    rw [List.getD_eq_getElem?_getD (l := rows), List.getElem?_eq_getElem hi]
    exact In64.getD (h.row _ (List.getElem_mem hi)).2 W
theorem add_below {w w2 w3 w4 : World} {o : Obj} {n m : Nat} {A3 : Option Addr} {c3 : Nat} {v4 : Value} {xs ys : List Value} {e : TypeId} (h2 : Below w.heap.size w w2) (h3 : Below w2.heap.size w2 w3) (ho4 : w4.ownsRow w2.heap.size e 1 v4 m ys) (hg4 : (w3.alloc o).grownBy w4 (Value.slice A3 n c3).ownBlock) (ho3 : w3.ownsRow w2.heap.size e 1 (.slice A3 n c3) n xs) : Below w.heap.size w w4 :=
  ((below_alloc0 (below_trans0 h2 h3) o).grown hg4 (by have := h2.size; have := h3.size; simp; omega) (fun k hk => by have := own_below ho3 k hk; have := h2.size; omega))

set_option maxHeartbeats 8000000 in
set_option maxRecDepth 100000 in
theorem add_any (w : World) (B g W : Nat) (F : Nat → Prop) (great : Bool) (rows : List Row) (h : BestS w B g F W great rows) (ok : Nat → Prop) (sv : Value) (Ws : Nat) (ss : List Row) (hs : SegN w ok sv Ws ss) (hok : ∀ b, ok b → ¬ F b) (hlim : rows.length + ss.length < 900000) :
    Calls Try.prog 26 #[.pointer (some ⟨g, 0, none⟩), sv] w fun e w' => ∃ v F2, e = .returned v ∧ SegAt w' (fun b => w.heap.size ≤ b ∧ ¬ F2 b) v (W + 1) (norm (W + 1) (newsA W great rows ss)) ∧ BestS w' B g F2 W great (allA W great rows ss).1 ∧ (∀ b, F2 b → F b ∨ w.heap.size ≤ b) ∧ Keeps (fun b => ¬ F b) w w' := by
  obtain ⟨p, rfl⟩ := hs.ptr
  refine (callsIn_wide (n := 6)).1 ?_
  obtain ⟨ir, hir, hr0, hr1, hr2⟩ := info_parts info_rowR
  obtain ⟨ii, hii, hi0, hi1, hi2⟩ := info_parts info_i64
  have mo : Try.prog.follows .mixedOrders = true := by kernel_rfl
  have H := Aside0.mk h
  have HS := Aside0.mk hs
  have HOK := Aside0.mk hok
  have hWw := h.wid
  clear h hs hok
  obtain ⟨W1, hW1⟩ : ∃ W1, (w.alloc (.cells #[.pointer (some ⟨g, 0, none⟩)] 26)).alloc (.cells #[.slice none 0 0] 28) = W1 := ⟨_, rfl⟩
  have AL := Aside0.mk (all_any p W1)
  have HW1 := Aside0.mk hW1
  refine callsIn_of_wp_marks Try.func26 rfl trivial ?_ rfl
  simp only [Try.ntmps26, List.size_toArray, List.length_cons, List.length_nil, Nat.reduceAdd, Nat.reduceSub, Array.replicate_succ, Array.replicate_zero, List.push_toArray, List.append_toArray, List.nil_append, List.cons_append]
  clear hW1
  gi_wp2_with (refine ⟨trivial, ?_⟩; rw [HW1.out]; gi_at_call 44; refine (callsIn_wide.2 AL.out).mono ?_; rintro e w' ⟨rfl, rfl⟩)
  have hW1 := HW1.out
  have HZ := Aside0.mk (show W1.heap.size = w.heap.size + 2 by rw [← hW1]; simp)
  have hb1 : Below w.heap.size w W1 := by rw [← hW1]; exact below_alloc0 (below_alloc0 (Below.refl _ _) _) _
  have x0 : Boxed W1 w.heap.size 26 (.pointer (some ⟨g, 0, none⟩)) := by rw [← hW1]; exact (Boxed.new w _ _).alloc _
  have x1 : Boxed W1 (w.heap.size + 1) 28 (.slice none 0 0) := by rw [← hW1]; have := Boxed.new (w.alloc (.cells #[.pointer (some ⟨g, 0, none⟩)] 26)) 28 (.slice none 0 0); rwa [World.size_alloc] at this
  clear hW1 AL HW1
  have hbb := below_alloc0 (Below.refl W1.heap.size W1) (.cells #[.pointer p] 39)
  have hbw := below_trans0 hb1 hbb
  have HFg := H.out.gF
  have hFl := H.out.2
  refine wpIn_rangeV (gf := 57) (lb := #[.pointer (some ⟨W1.heap.size, 0, none⟩)]) (N := fun b => b < w.heap.size ∧ ¬ F b) (U0 := (· = W1.heap.size)) (X := RowX ss) (S := AllS ss) (Sp := AllSp ss) rfl (enters_of Try.func57 (by kernel_rfl) rfl)
    (all1_inV _ (fun b => b < w.heap.size ∧ ¬ F b) W1.heap.size (fun b => b < w.heap.size ∧ ¬ F b) _ Ws ss _ (Boxed.new W1 39 _) ((HS.out.mono (fun b hb hl => ⟨hl, HOK.out b hb⟩)).below hbw) (fun b hb => hb)) (fun b hb => by have := HZ.out; have := hb.1; simp; omega) (fun x => rfl) (fun b hb => by subst hb; simp) RowX.kept
    (AddI w B g F W great rows)
    (fun _ _ _ _ => False)
    (AddI.abid w B g F W great rows)
    (fun _ _ _ _ _ _ h _ _ => h)
    ⟨F, .slice none 0 0, [], ⟨H.out.below hbw, x0.alloc _, x1.alloc _, World.ownsRow_nil _ _ _ _, fun j hj => by simp [allA, rowsOf] at hj, fun b hb => by simp [Value.ownBlock] at hb, ⟨fun e => by have := HZ.out; omega, fun e => by have := HZ.out; omega⟩, ⟨fun e => by have := hFl _ e; omega, fun e => by have := hFl _ e; omega⟩, fun b e => by have := HZ.out; omega, fun b hb e => by have := hFl b hb; have := HZ.out; omega, fun b hb => .inl hb, Keeps.all hbw _, by have := HZ.out; simp; omega⟩⟩
    (fun x => { tmps := #[.pointer (some ⟨g, 0, none⟩), .pointer p, .pointer (some ⟨w.heap.size, 0, none⟩), undef, .pointer none, .pointer (some ⟨w.heap.size + 1, 0, none⟩), x.1, undef, undef, undef, undef, undef, undef, .pointer p, .func (.func 57) #[] #[.pointer (some ⟨W1.heap.size, 0, none⟩)], x.1, undef, undef, undef, undef, undef, undef, undef, undef, undef, undef, undef, undef, undef, undef, undef, undef, undef, undef, undef, undef, undef, undef, undef, undef, undef, undef, undef, undef, undef, undef, undef, undef, undef, undef, undef, undef, undef, undef, undef, undef, undef, undef, undef, undef, undef, undef, undef, undef, undef, undef, undef, undef, undef, undef, undef], defers := [] }) ?assign ?body ?done ?stop
  case assign =>
    intro l x W K hK
    simp only [encR]
    gi_wp2
    exact hK
  case body =>
    rintro l pre x UA U A W9 ⟨F2, v, cs, hA⟩ hk hv hU hx
    obtain ⟨hxi, hxm, hxr⟩ := hx
    have hpl : pre.length < ss.length := (List.getElem?_eq_some_iff.1 hxi).1
    have SN := Aside0.mk (show allA W great rows (rowsOf pre ++ [x.2]) = stepA W great (allA W great rows (rowsOf pre)) x.2 by rw [allA_snoc])
    have LN := allA_lens W great rows (rowsOf pre) (rows, [])
    rw [rowsOf_length] at LN
    change (allA W great rows (rowsOf pre)).1.length ≤ rows.length + pre.length ∧ (allA W great rows (rowsOf pre)).2.length ≤ 0 + pre.length at LN
    obtain ⟨xv, r⟩ := x
    obtain ⟨Ax, cx, hxv, hxc, hxl, hxm2⟩ := hxr.form
    simp only at hxv hxc hxl hxr SN
    subst hxv
    have hbA := hA.best.2
    have hAW := hA.abid hk hv
    have hws := hk.size
    obtain ⟨st, hst⟩ : ∃ st, allA W great rows (rowsOf pre) = st := ⟨_, rfl⟩
    rw [hst] at hA hAW SN LN
    obtain ⟨R, K⟩ := st
    simp only at hA hAW LN
    have hvl := hA.own.lt
    have HXR := Aside0.mk (reads_row.mono (ok2 := fun b => w.heap.size + 2 ≤ b ∧ Off v b ∧ ¬ U b ∧ ¬ F2 b) hxr (fun b hb _ => ⟨by have := hA.big; have := hb.1; omega, fun e => by have := (hvl b e).2; have := hb.1; omega, hb.2, fun e => by have := hbA b e; have := hb.1; omega⟩))
    have HAW := Aside0.mk hAW
    have HU := Aside0.mk hU
    obtain ⟨Av, cv, hvf⟩ := own_form hAW.own
    subst hvf
    have hc0 := hAW.ptr.cell
    have hc1 := hAW.box.cell
    have hf1 := hAW.box.frozen
    have hgw := hAW.best.cells
    have hnl : Aside0 (K.length + 1 < 1000000 ∧ R.length + 1 < 1000000) := ⟨by omega⟩
    clear hA hk hv hU hxr hbA hvl hAW hst
    by_cases hW : r.length = W + 1
    · obtain ⟨nr, hnr⟩ : ∃ nr, r.length = nr := ⟨_, rfl⟩
      have HL := Aside0.mk hnr
      obtain ⟨bx, ox, ux, hbx, hbo, hbl, hcx, hux, hu64⟩ := HXR.out.at_ W (by omega)
      have HXN := Aside0.mk hbo.2.2.2
      clear hbo
      subst hbx
      have HC64 := Aside0.mk hu64
      subst hux
      have KEY := Aside0.mk (HXR.out.take W (by omega))
      have hkl : (r.take W).length = W := by rw [List.length_take]; omega
      obtain ⟨c, hc⟩ : ∃ c, r[W] = c := ⟨_, rfl⟩
      obtain ⟨key, hkey⟩ : ∃ key, r.take W = key := ⟨_, rfl⟩
      have hgD : r.getD W 0 = c := by rw [List.getD_eq_getElem?_getD, List.getElem?_eq_getElem (by omega)]; exact hc
      have SA := Aside0.mk (show stepA W great (R, K) r = ((putX W great R key c).1, if (putX W great R key c).2 then K ++ [key] else K) by
        unfold stepA putX
        rw [if_pos hW, hgD, hkey, if_pos (show key.length = W by rw [← hkey]; exact hkl)])
      rw [hkey] at KEY hkl
      rw [hc] at hcx HC64
      rw [hnr] at hW HXR hxc hxl ⊢
      subst hW
      have HKL := Aside0.mk hkl
      have PUT := Aside0.mk (fun w' (hb : Below W9.heap.size W9 w') => put_s w' B g W F2 great R (HAW.out.best.below hb) (by have := hnl.out; omega) _ _ key (SlAt.below reads_int KEY.out hb) (fun b hb => hb.2.2.2) (by omega) c HC64.out)
      clear hgD hkey hc hkl HL hxi hxm
      gi_wp2
      have i1 : (0 : Int) ≤ (W : Int) := by omega
      have i2 : (W : Int) ≤ (cx : Int) := by omega
      have i3 : (W : Int) < (W : Int) + 1 := by omega
      clear LN hxl hxm2 hws hWw hlim hpl HFg hFl HZ x0 x1 hb1 hbb hbw
      obtain ⟨pr, hpr⟩ : ∃ pr, putX W great R key c = pr := ⟨_, rfl⟩
      rw [hpr] at SA
      simp only [hpr] at PUT
      obtain ⟨R2, ub⟩ := pr
      have KP := Aside0.mk (show ∀ b, (b < w.heap.size ∧ ¬ F b) ∨ U b → ¬ F2 b from fun b hb hf => by
        rcases hb with q | q
        · rcases HAW.out.grow b hf with q2 | q2
          · exact q.2 q2
          · have := q.1; omega
        · exact HAW.out.fU b hf q)
      clear hpr
      cases ub with
      | false =>
        have SA := Aside0.mk (SN.out.trans SA.out)
        clear SN
        refine region_round (S := fun w' => w'.cell? ⟨w.heap.size, 0, none⟩ = some (.pointer (some ⟨g, 0, none⟩)) ∧ w'.cell? ⟨g, 0, none⟩ = some (.int .i64 W) ∧ w'.cell? ⟨bx, ox + W, none⟩ = some (.int .i64 c)) mo (by kernel_rfl) (fun h => by obtain ⟨_, _, h⟩ := h; exact h) (by exact ⟨hc0, hgw, hcx⟩) (fun hHeld => ?_)
        refine takeH (i := 0) (v := ?_) rfl rfl (by kernel_rfl) (by kernel_rfl) (by kernel_rfl) (fun _ _ _ h => h) (by rfl) ?_ hHeld ?_
        rotate_left
        · (intro w hSw); (try dsimp only at hSw); go_simp; try with_reducible rfl
        try simp only [List.setIfInBounds_toArray, List.set_cons_zero, List.set_cons_succ]
        refine takeH (i := 1) (v := ?_) rfl rfl (by kernel_rfl) (by kernel_rfl) (by kernel_rfl) (fun _ _ _ h => h) (by rfl) ?_ hHeld ?_
        rotate_left
        · (intro w hSw); (try dsimp only at hSw); go_simp; try with_reducible rfl
        try simp only [List.setIfInBounds_toArray, List.set_cons_zero, List.set_cons_succ]
        refine takeH (i := 2) (v := ?_) rfl rfl (by kernel_rfl) (by kernel_rfl) (by kernel_rfl) (fun _ _ _ h => h) (by rfl) ?_ hHeld ?_
        rotate_left
        · (intro w hSw); (try dsimp only at hSw); go_simp; try with_reducible rfl
        try simp only [List.setIfInBounds_toArray, List.set_cons_zero, List.set_cons_succ]
        refine takeH (i := 3) (v := ?_) rfl rfl (by kernel_rfl) (by kernel_rfl) (by kernel_rfl) (fun _ _ _ h => h) (by rfl) ?_ hHeld ?_
        rotate_left
        · (intro w hSw); (try dsimp only at hSw); go_simp; try with_reducible rfl
        try simp only [List.setIfInBounds_toArray, List.set_cons_zero, List.set_cons_succ]
        refine takeH (i := 4) (v := ?_) rfl rfl (by kernel_rfl) (by kernel_rfl) (by kernel_rfl) (fun _ _ _ h => h) (by rfl) ?_ hHeld ?_
        rotate_left
        · (intro w hSw); (try dsimp only at hSw); go_simp; try with_reducible rfl
        try simp only [List.setIfInBounds_toArray, List.set_cons_zero, List.set_cons_succ]
        refine takeH (i := 5) (v := ?_) rfl rfl (by kernel_rfl) (by kernel_rfl) (by kernel_rfl) (fun _ _ _ h => h) (by rfl) ?_ hHeld ?_
        rotate_left
        · (intro w hSw); (try dsimp only at hSw); go_simp; try with_reducible rfl
        try simp only [List.setIfInBounds_toArray, List.set_cons_zero, List.set_cons_succ]
        refine takeH (i := 6) (v := ?_) rfl rfl (by kernel_rfl) (by kernel_rfl) (by kernel_rfl) (fun _ _ _ h => h) (by rfl) ?_ hHeld ?_
        rotate_left
        · (intro w hSw); (try dsimp only at hSw); go_simp; try with_reducible rfl
        try simp only [List.setIfInBounds_toArray, List.set_cons_zero, List.set_cons_succ]
        refine takeH (i := 7) (v := ?_) rfl rfl (by kernel_rfl) (by kernel_rfl) (by kernel_rfl) (fun _ _ _ h => h) (by rfl) ?_ hHeld ?_
        rotate_left
        · (intro w hSw); (try dsimp only at hSw); go_simp; try with_reducible rfl
        try simp only [List.setIfInBounds_toArray, List.set_cons_zero, List.set_cons_succ]
        refine takeH (i := 8) (v := ?_) rfl rfl (by kernel_rfl) (by kernel_rfl) (by kernel_rfl) (fun _ _ _ h => h) (by rfl) ?_ hHeld ?_
        rotate_left
        · (intro w hSw); (try dsimp only at hSw); go_simp; try with_reducible rfl
        try simp only [List.setIfInBounds_toArray, List.set_cons_zero, List.set_cons_succ]
        refine takeH (i := 9) (v := ?_) rfl rfl (by kernel_rfl) (by kernel_rfl) (by kernel_rfl) (fun _ _ _ h => h) (by rfl) ?_ hHeld ?_
        rotate_left
        · (intro w hSw); (try dsimp only at hSw); go_simp; try with_reducible rfl
        try simp only [List.setIfInBounds_toArray, List.set_cons_zero, List.set_cons_succ]
        refine takeH (i := 10) (v := ?_) rfl rfl (by kernel_rfl) (by kernel_rfl) (by kernel_rfl) (fun _ _ _ h => h) (by rfl) ?_ hHeld ?_
        rotate_left
        · (intro w hSw); (try dsimp only at hSw); go_simp; try with_reducible rfl
        try simp only [List.setIfInBounds_toArray, List.set_cons_zero, List.set_cons_succ]
        refine takeH (i := 11) (v := ?_) rfl rfl (by kernel_rfl) (by kernel_rfl) (by kernel_rfl) (fun _ _ _ h => h) (by rfl) ?_ hHeld ?_
        rotate_left
        · (intro w hSw); (try dsimp only at hSw); go_simp; try with_reducible rfl
        try simp only [List.setIfInBounds_toArray, List.set_cons_zero, List.set_cons_succ]
        refine takeH (i := 12) (v := ?_) rfl rfl (by kernel_rfl) (by kernel_rfl) (by kernel_rfl) (fun _ _ _ h => h) (by rfl) ?_ hHeld ?_
        rotate_left
        · (intro w hSw); (try dsimp only at hSw); go_simp; try with_reducible rfl
        try simp only [List.setIfInBounds_toArray, List.set_cons_zero, List.set_cons_succ]
        refine takeH (i := 13) (v := ?_) rfl rfl (by kernel_rfl) (by kernel_rfl) (by kernel_rfl) (fun _ _ _ h => h) (by rfl) ?_ hHeld ?_
        rotate_left
        · (intro w hSw); (try dsimp only at hSw); go_simp; try with_reducible rfl
        try simp only [List.setIfInBounds_toArray, List.set_cons_zero, List.set_cons_succ]
        refine takeH (i := 14) (v := ?_) rfl rfl (by kernel_rfl) (by kernel_rfl) (by kernel_rfl) (fun _ _ _ h => h) (by rfl) ?_ hHeld ?_
        rotate_left
        · (intro w hSw); (try dsimp only at hSw); go_simp; try with_reducible rfl
        try simp only [List.setIfInBounds_toArray, List.set_cons_zero, List.set_cons_succ]
        refine comeH (i := 15) rfl (by kernel_rfl) (by rfl) (fun KK hKK => ?_)
        go_simp
        refine (PUT.out _ (below_drew (Below.refl _ _))).mono ?_
        rintro e w4 ⟨rfl, hP⟩
        obtain ⟨F3, hA4, hk4, hn4⟩ := (HAW.out.abid (V := U) (Keeps.drew _ W9) (fun b' hb => .inl hb)).put hP HU.out
        have hA4 := Aside0.mk hA4
        have hK4 := Aside0.mk hk4
        have hN4 := Aside0.mk hn4
        clear hP hk4 hn4
        refine hKK.out _ _ (by exact ⟨hA4.out.ptr.cell, hA4.out.best.cells, hK4.out.stays.cell (by have := HXN.out; exact this) hcx⟩) (fun hHeld => ?_)
        clear hKK KK
        try simp only [Act.put, List.setIfInBounds_toArray, List.set_cons_zero, List.set_cons_succ]
        refine takeH (i := 16) (v := ?_) rfl rfl (by kernel_rfl) (by kernel_rfl) (by kernel_rfl) (fun _ _ _ h => h) (by rfl) ?_ hHeld ?_
        rotate_left
        · (intro w hSw); (try dsimp only at hSw); go_simp; try with_reducible rfl
        try simp only [List.setIfInBounds_toArray, List.set_cons_zero, List.set_cons_succ]
        refine wpAnyH_done (by kernel_rfl) ?_ _
        gi_wp2
        refine ⟨((Keeps.drew _ W9).trans hK4.out (fun _ _ h => h)).mono (fun b _ hb => KP.out b hb), F3, .slice Av K.length cv, cs, ?_⟩
        rw [rowsOf_snoc, SA.out]
        exact hA4.out
      | true =>
        have SA := Aside0.mk (SN.out.trans SA.out)
        clear SN
        refine region_round (S := fun w' => w'.cell? ⟨w.heap.size, 0, none⟩ = some (.pointer (some ⟨g, 0, none⟩)) ∧ w'.cell? ⟨g, 0, none⟩ = some (.int .i64 W) ∧ w'.cell? ⟨bx, ox + W, none⟩ = some (.int .i64 c)) mo (by kernel_rfl) (fun h => by obtain ⟨_, _, h⟩ := h; exact h) (by exact ⟨hc0, hgw, hcx⟩) (fun hHeld => ?_)
        refine takeH (i := 0) (v := ?_) rfl rfl (by kernel_rfl) (by kernel_rfl) (by kernel_rfl) (fun _ _ _ h => h) (by rfl) ?_ hHeld ?_
        rotate_left
        · (intro w hSw); (try dsimp only at hSw); go_simp; try with_reducible rfl
        try simp only [List.setIfInBounds_toArray, List.set_cons_zero, List.set_cons_succ]
        refine takeH (i := 1) (v := ?_) rfl rfl (by kernel_rfl) (by kernel_rfl) (by kernel_rfl) (fun _ _ _ h => h) (by rfl) ?_ hHeld ?_
        rotate_left
        · (intro w hSw); (try dsimp only at hSw); go_simp; try with_reducible rfl
        try simp only [List.setIfInBounds_toArray, List.set_cons_zero, List.set_cons_succ]
        refine takeH (i := 2) (v := ?_) rfl rfl (by kernel_rfl) (by kernel_rfl) (by kernel_rfl) (fun _ _ _ h => h) (by rfl) ?_ hHeld ?_
        rotate_left
        · (intro w hSw); (try dsimp only at hSw); go_simp; try with_reducible rfl
        try simp only [List.setIfInBounds_toArray, List.set_cons_zero, List.set_cons_succ]
        refine takeH (i := 3) (v := ?_) rfl rfl (by kernel_rfl) (by kernel_rfl) (by kernel_rfl) (fun _ _ _ h => h) (by rfl) ?_ hHeld ?_
        rotate_left
        · (intro w hSw); (try dsimp only at hSw); go_simp; try with_reducible rfl
        try simp only [List.setIfInBounds_toArray, List.set_cons_zero, List.set_cons_succ]
        refine takeH (i := 4) (v := ?_) rfl rfl (by kernel_rfl) (by kernel_rfl) (by kernel_rfl) (fun _ _ _ h => h) (by rfl) ?_ hHeld ?_
        rotate_left
        · (intro w hSw); (try dsimp only at hSw); go_simp; try with_reducible rfl
        try simp only [List.setIfInBounds_toArray, List.set_cons_zero, List.set_cons_succ]
        refine takeH (i := 5) (v := ?_) rfl rfl (by kernel_rfl) (by kernel_rfl) (by kernel_rfl) (fun _ _ _ h => h) (by rfl) ?_ hHeld ?_
        rotate_left
        · (intro w hSw); (try dsimp only at hSw); go_simp; try with_reducible rfl
        try simp only [List.setIfInBounds_toArray, List.set_cons_zero, List.set_cons_succ]
        refine takeH (i := 6) (v := ?_) rfl rfl (by kernel_rfl) (by kernel_rfl) (by kernel_rfl) (fun _ _ _ h => h) (by rfl) ?_ hHeld ?_
        rotate_left
        · (intro w hSw); (try dsimp only at hSw); go_simp; try with_reducible rfl
        try simp only [List.setIfInBounds_toArray, List.set_cons_zero, List.set_cons_succ]
        refine takeH (i := 7) (v := ?_) rfl rfl (by kernel_rfl) (by kernel_rfl) (by kernel_rfl) (fun _ _ _ h => h) (by rfl) ?_ hHeld ?_
        rotate_left
        · (intro w hSw); (try dsimp only at hSw); go_simp; try with_reducible rfl
        try simp only [List.setIfInBounds_toArray, List.set_cons_zero, List.set_cons_succ]
        refine takeH (i := 8) (v := ?_) rfl rfl (by kernel_rfl) (by kernel_rfl) (by kernel_rfl) (fun _ _ _ h => h) (by rfl) ?_ hHeld ?_
        rotate_left
        · (intro w hSw); (try dsimp only at hSw); go_simp; try with_reducible rfl
        try simp only [List.setIfInBounds_toArray, List.set_cons_zero, List.set_cons_succ]
        refine takeH (i := 9) (v := ?_) rfl rfl (by kernel_rfl) (by kernel_rfl) (by kernel_rfl) (fun _ _ _ h => h) (by rfl) ?_ hHeld ?_
        rotate_left
        · (intro w hSw); (try dsimp only at hSw); go_simp; try with_reducible rfl
        try simp only [List.setIfInBounds_toArray, List.set_cons_zero, List.set_cons_succ]
        refine takeH (i := 10) (v := ?_) rfl rfl (by kernel_rfl) (by kernel_rfl) (by kernel_rfl) (fun _ _ _ h => h) (by rfl) ?_ hHeld ?_
        rotate_left
        · (intro w hSw); (try dsimp only at hSw); go_simp; try with_reducible rfl
        try simp only [List.setIfInBounds_toArray, List.set_cons_zero, List.set_cons_succ]
        refine takeH (i := 11) (v := ?_) rfl rfl (by kernel_rfl) (by kernel_rfl) (by kernel_rfl) (fun _ _ _ h => h) (by rfl) ?_ hHeld ?_
        rotate_left
        · (intro w hSw); (try dsimp only at hSw); go_simp; try with_reducible rfl
        try simp only [List.setIfInBounds_toArray, List.set_cons_zero, List.set_cons_succ]
        refine takeH (i := 12) (v := ?_) rfl rfl (by kernel_rfl) (by kernel_rfl) (by kernel_rfl) (fun _ _ _ h => h) (by rfl) ?_ hHeld ?_
        rotate_left
        · (intro w hSw); (try dsimp only at hSw); go_simp; try with_reducible rfl
        try simp only [List.setIfInBounds_toArray, List.set_cons_zero, List.set_cons_succ]
        refine takeH (i := 13) (v := ?_) rfl rfl (by kernel_rfl) (by kernel_rfl) (by kernel_rfl) (fun _ _ _ h => h) (by rfl) ?_ hHeld ?_
        rotate_left
        · (intro w hSw); (try dsimp only at hSw); go_simp; try with_reducible rfl
        try simp only [List.setIfInBounds_toArray, List.set_cons_zero, List.set_cons_succ]
        refine takeH (i := 14) (v := ?_) rfl rfl (by kernel_rfl) (by kernel_rfl) (by kernel_rfl) (fun _ _ _ h => h) (by rfl) ?_ hHeld ?_
        rotate_left
        · (intro w hSw); (try dsimp only at hSw); go_simp; try with_reducible rfl
        try simp only [List.setIfInBounds_toArray, List.set_cons_zero, List.set_cons_succ]
        refine comeH (i := 15) rfl (by kernel_rfl) (by rfl) (fun KK hKK => ?_)
        go_simp
        refine (PUT.out _ (below_drew (Below.refl _ _))).mono ?_
        rintro e w4 ⟨rfl, hP⟩
        obtain ⟨F3, hA4, hk4, hn4⟩ := (HAW.out.abid (V := U) (Keeps.drew _ W9) (fun b' hb => .inl hb)).put hP HU.out
        have hA4 := Aside0.mk hA4
        have hK4 := Aside0.mk hk4
        have hN4 := Aside0.mk hn4
        clear hP hk4 hn4
        refine hKK.out _ _ (by exact ⟨hA4.out.ptr.cell, hA4.out.best.cells, hK4.out.stays.cell (by have := HXN.out; exact this) hcx⟩) (fun hHeld => ?_)
        clear hKK KK
        try simp only [Act.put, List.setIfInBounds_toArray, List.set_cons_zero, List.set_cons_succ]
        refine takeH (i := 16) (v := ?_) rfl rfl (by kernel_rfl) (by kernel_rfl) (by kernel_rfl) (fun _ _ _ h => h) (by rfl) ?_ hHeld ?_
        rotate_left
        · (intro w hSw); (try dsimp only at hSw); go_simp; try with_reducible rfl
        try simp only [List.setIfInBounds_toArray, List.set_cons_zero, List.set_cons_succ]
        refine wpAnyH_done (by kernel_rfl) ?_ _
        gi_wp2
        have hA5 := Aside0.mk (hA4.out.abid (V := U) (Keeps.drew _ w4) (fun b' hb => .inl hb))
        have KEY5 := Aside0.mk (reads_row.mono (ok2 := fun b => w.heap.size + 2 ≤ b ∧ Off (.slice Av K.length cv) b ∧ ¬ U b ∧ ¬ F3 b) (reads_row.stays (reads_row.mono (ok2 := fun b => (w.heap.size + 2 ≤ b ∧ Off (.slice Av K.length cv) b ∧ ¬ U b ∧ ¬ F2 b) ∧ b < W9.heap.size) KEY.out (fun b hb hl => ⟨hb, hl⟩)) (((Keeps.drew _ W9).trans hK4.out (fun _ _ h => h)).stays.mono (fun b hb _ => hb.1.2.2.2))) (fun b hb _ => ⟨hb.1.1, hb.1.2.1, hb.1.2.2.1, hN4.out b hb.2 hb.1.2.2.2⟩))
        have c5 := hA4.out.box.cell
        have f5 := hA4.out.box.frozen
        have h63 := Aside0.mk (show K.length + 1 ≤ maxLen by have := hnl.out; unfold maxLen; omega)
        have hby := Aside0.mk (show (K.length + 1) * 24 ≤ 140737488355328 by have := hnl.out; omega)
        have hsz4 := Aside0.mk (fun o : Obj => show w.heap.size + 2 ≤ (w4.alloc o).heap.size by have := hA4.out.big; simp; omega)
        have h9w := hK4.out.size
        have HU4 := Aside0.mk (show ∀ b', U b' → b' < w4.heap.size from fun b' hb => Nat.lt_of_lt_of_le (HU.out b' hb) h9w)
        have END6 := Aside0.mk (show ∀ (ac : Act) (v' : Value) (w6 : World) (cs' : List Value), AddIn w B g F F3 W great R2 (K ++ [key]) U w6 v' cs' ∧ Keeps (fun b => Off (.slice Av K.length cv) b ∧ b ≠ w.heap.size + 1) w4 w6 →
            postV (fun b => b < w.heap.size ∧ ¬F b) U (AddI w B g F W great rows) (fun _ _ _ _ => False) (pre ++ [(Value.slice (some ⟨bx, ox, none⟩) (W + 1) cx, r)]) W9 .normal ac w6 from fun ac v' w6 cs' hh => by
          refine ⟨(((Keeps.drew _ W9).trans hK4.out (fun _ _ h => h)).mono (fun b _ hb => KP.out b hb)).trans hh.2 (fun b _ hb => ⟨fun e => ?_, fun e => ?_⟩), F3, v', cs', ?_⟩
          · rcases hb with q | q
            · have := own_below hA4.out.own b e; have := q.1; omega
            · exact (hA4.out.offU b e).1 q
          · rcases hb with q | q
            · have := q.1; omega
            · exact hA4.out.bxU.2 (e ▸ q)
          · rw [rowsOf_snoc, SA.out]
            exact hh.1)
        refine region_round (S := fun w' => True) mo (by kernel_rfl) (fun h => by obtain ⟨_, _, h⟩ := h; exact h) (by trivial) (fun hHeld => ?_)
        refine takeH (i := 1) (v := ?_) rfl rfl (by kernel_rfl) (by kernel_rfl) (by kernel_rfl) (fun _ _ _ h => h) (by rfl) ?_ hHeld ?_
        rotate_left
        · (intro w hSw); (try dsimp only at hSw); go_simp; try with_reducible rfl
        try simp only [List.setIfInBounds_toArray, List.set_cons_zero, List.set_cons_succ]
        refine takeH (i := 2) (v := ?_) rfl rfl (by kernel_rfl) (by kernel_rfl) (by kernel_rfl) (fun _ _ _ h => h) (by rfl) ?_ hHeld ?_
        rotate_left
        · (intro w hSw); (try dsimp only at hSw); go_simp; try with_reducible rfl
        try simp only [List.setIfInBounds_toArray, List.set_cons_zero, List.set_cons_succ]
        refine takeH (i := 3) (v := ?_) rfl rfl (by kernel_rfl) (by kernel_rfl) (by kernel_rfl) (fun _ _ _ h => h) (by rfl) ?_ hHeld ?_
        rotate_left
        · (intro w hSw); (try dsimp only at hSw); go_simp; try with_reducible rfl
        try simp only [List.setIfInBounds_toArray, List.set_cons_zero, List.set_cons_succ]
        refine wpAnyH_ready (rs := [0, 4]) (by kernel_rfl) (by simp) (comeC rfl (by rfl) (fun KK hKK => ?_) (comeC rfl (by rfl) (fun KK hKK => ?_) AllReadyH.nil))
        · go_simp
          refine hKK.out _ _ (by trivial) (fun hHeld => ?_)
          clear hKK KK
          try simp only [Act.put, List.setIfInBounds_toArray, List.set_cons_zero, List.set_cons_succ]
          refine comeH (i := 4) rfl (by kernel_rfl) (by rfl) (fun KK hKK => ?_)
          go_simp
          refine hKK.out _ _ (by trivial) (fun hHeld => ?_)
          clear hKK KK
          try simp only [Act.put, List.setIfInBounds_toArray, List.set_cons_zero, List.set_cons_succ]
          refine comeH (i := 5) rfl (by kernel_rfl) (by rfl) (fun KK hKK => ?_)
          refine oper_append_own (.tmp 36) (.tmp 40) 28 rfl (w.heap.size + 2) 23 ir (.slice none 0 0) 1 24 Try.underlying28 hir hr0 hr1 hr2 rfl (by decide) (.slice Av K.length cv) K.length cs rfl (hA4.out.own.alloc _) ⟨w4.heap.size, 0, none⟩ 1 1 [Value.slice (some ⟨bx, ox, none⟩) W cx] rfl rfl (cell_one_new _ _ _) (by simp [Value.oneCell']) h63.out hby.out (hsz4.out _) ?_
          intro v' w5 ho hg hb
          obtain ⟨b', c', rfl⟩ := own_some ho
          have HP := Aside0.mk (hA4.out.push KEY5.out ho ⟨hg.os, hg.tape, hg.output, hg.size, hg.block⟩ hb HU4.out)
          have hbk := Aside0.mk ((hA4.out.box.alloc _).kept (show World.grownBy (w4.alloc _) w5 _ from ⟨hg.os, hg.tape, hg.output, hg.size, hg.block⟩) (fun e => by have := own_below hA4.out.own _ e.symm; omega))
          clear ho hg hb
          refine hKK.out _ _ (by trivial) (fun hHeld => ?_)
          clear hKK KK
          try simp only [Act.put, List.setIfInBounds_toArray, List.set_cons_zero, List.set_cons_succ]
          have f6 := hbk.out.frozen
          have c6 := hbk.out.cell
          refine comeH (i := 6) rfl (by kernel_rfl) (by rfl) (fun KK hKK => ?_)
          go_simp
          refine hKK.out _ _ (by trivial) (fun hHeld => ?_)
          clear hKK KK
          try simp only [Act.put, List.setIfInBounds_toArray, List.set_cons_zero, List.set_cons_succ]
          refine wpAnyH_done (by kernel_rfl) ?_ _
          exact END6.out ⟨#[], []⟩ _ _ _ HP.out
        · go_simp
          refine hKK.out _ _ (by trivial) (fun hHeld => ?_)
          clear hKK KK
          try simp only [Act.put, List.setIfInBounds_toArray, List.set_cons_zero, List.set_cons_succ]
          refine comeH (i := 0) rfl (by kernel_rfl) (by rfl) (fun KK hKK => ?_)
          have c55 := (hA4.out.box.alloc (.cells #[.slice (some ⟨bx, ox, none⟩) W cx] 23)).cell
          go_simp
          refine hKK.out _ _ (by trivial) (fun hHeld => ?_)
          clear hKK KK
          try simp only [Act.put, List.setIfInBounds_toArray, List.set_cons_zero, List.set_cons_succ]
          refine comeH (i := 5) rfl (by kernel_rfl) (by rfl) (fun KK hKK => ?_)
          refine oper_append_own (.tmp 36) (.tmp 40) 28 rfl (w.heap.size + 2) 23 ir (.slice none 0 0) 1 24 Try.underlying28 hir hr0 hr1 hr2 rfl (by decide) (.slice Av K.length cv) K.length cs rfl (hA4.out.own.alloc _) ⟨w4.heap.size, 0, none⟩ 1 1 [Value.slice (some ⟨bx, ox, none⟩) W cx] rfl rfl (cell_one_new _ _ _) (by simp [Value.oneCell']) h63.out hby.out (hsz4.out _) ?_
          intro v' w5 ho hg hb
          obtain ⟨b', c', rfl⟩ := own_some ho
          have HP := Aside0.mk (hA4.out.push KEY5.out ho ⟨hg.os, hg.tape, hg.output, hg.size, hg.block⟩ hb HU4.out)
          have hbk := Aside0.mk ((hA4.out.box.alloc _).kept (show World.grownBy (w4.alloc _) w5 _ from ⟨hg.os, hg.tape, hg.output, hg.size, hg.block⟩) (fun e => by have := own_below hA4.out.own _ e.symm; omega))
          clear ho hg hb
          refine hKK.out _ _ (by trivial) (fun hHeld => ?_)
          clear hKK KK
          try simp only [Act.put, List.setIfInBounds_toArray, List.set_cons_zero, List.set_cons_succ]
          have f6 := hbk.out.frozen
          have c6 := hbk.out.cell
          refine comeH (i := 6) rfl (by kernel_rfl) (by rfl) (fun KK hKK => ?_)
          go_simp
          refine hKK.out _ _ (by trivial) (fun hHeld => ?_)
          clear hKK KK
          try simp only [Act.put, List.setIfInBounds_toArray, List.set_cons_zero, List.set_cons_succ]
          refine wpAnyH_done (by kernel_rfl) ?_ _
          exact END6.out ⟨#[], []⟩ _ _ _ HP.out
    · obtain ⟨nr, hnr⟩ : ∃ nr, r.length = nr := ⟨_, rfl⟩
      have SA := Aside0.mk (show stepA W great (R, K) r = (R, K) by unfold stepA; rw [if_neg hW])
      rw [hnr] at hW hxc hxl ⊢
      have hne : ((nr : Int) - 1 == (W : Int)) = false := by rw [beq_eq_false_iff_ne]; omega
      have SA := Aside0.mk (SN.out.trans SA.out)
      clear SN hxi hxm hnr HXR
      gi_wp2
      refine region_round (S := fun w' => w'.cell? ⟨w.heap.size, 0, none⟩ = some (.pointer (some ⟨g, 0, none⟩)) ∧ w'.cell? ⟨g, 0, none⟩ = some (.int .i64 W)) mo (by kernel_rfl) (fun h => by obtain ⟨_, _, h⟩ := h; exact h) (by exact ⟨hc0, hgw⟩) (fun hHeld => ?_)
      refine takeH (i := 0) (v := ?_) rfl rfl (by kernel_rfl) (by kernel_rfl) (by kernel_rfl) (fun _ _ _ h => h) (by rfl) ?_ hHeld ?_
      rotate_left
      · (intro w hSw); (try dsimp only at hSw); go_simp; try with_reducible rfl
      try simp only [List.setIfInBounds_toArray, List.set_cons_zero, List.set_cons_succ]
      refine takeH (i := 1) (v := ?_) rfl rfl (by kernel_rfl) (by kernel_rfl) (by kernel_rfl) (fun _ _ _ h => h) (by rfl) ?_ hHeld ?_
      rotate_left
      · (intro w hSw); (try dsimp only at hSw); go_simp; try with_reducible rfl
      try simp only [List.setIfInBounds_toArray, List.set_cons_zero, List.set_cons_succ]
      refine takeH (i := 2) (v := ?_) rfl rfl (by kernel_rfl) (by kernel_rfl) (by kernel_rfl) (fun _ _ _ h => h) (by rfl) ?_ hHeld ?_
      rotate_left
      · (intro w hSw); (try dsimp only at hSw); go_simp; try with_reducible rfl
      try simp only [List.setIfInBounds_toArray, List.set_cons_zero, List.set_cons_succ]
      refine takeH (i := 3) (v := ?_) rfl rfl (by kernel_rfl) (by kernel_rfl) (by kernel_rfl) (fun _ _ _ h => h) (by rfl) ?_ hHeld ?_
      rotate_left
      · (intro w hSw); (try dsimp only at hSw); go_simp; try with_reducible rfl
      try simp only [List.setIfInBounds_toArray, List.set_cons_zero, List.set_cons_succ]
      refine takeH (i := 4) (v := ?_) rfl rfl (by kernel_rfl) (by kernel_rfl) (by kernel_rfl) (fun _ _ _ h => h) (by rfl) ?_ hHeld ?_
      rotate_left
      · (intro w hSw); (try dsimp only at hSw); go_simp; try with_reducible rfl
      try simp only [List.setIfInBounds_toArray, List.set_cons_zero, List.set_cons_succ]
      refine takeH (i := 5) (v := ?_) rfl rfl (by kernel_rfl) (by kernel_rfl) (by kernel_rfl) (fun _ _ _ h => h) (by rfl) ?_ hHeld ?_
      rotate_left
      · (intro w hSw); (try dsimp only at hSw); go_simp; try with_reducible rfl
      try simp only [List.setIfInBounds_toArray, List.set_cons_zero, List.set_cons_succ]
      refine takeH (i := 6) (v := ?_) rfl rfl (by kernel_rfl) (by kernel_rfl) (by kernel_rfl) (fun _ _ _ h => h) (by rfl) ?_ hHeld ?_
      rotate_left
      · (intro w hSw); (try dsimp only at hSw); go_simp; try with_reducible rfl
      try simp only [List.setIfInBounds_toArray, List.set_cons_zero, List.set_cons_succ]
      refine skipH (i := 7) rfl rfl (by kernel_rfl) (by kernel_rfl) (by kernel_rfl) (fun _ _ _ h => h) (by rfl) hHeld ?_
      try simp only [List.setIfInBounds_toArray, List.set_cons_zero, List.set_cons_succ]
      refine skipH (i := 8) rfl rfl (by kernel_rfl) (by kernel_rfl) (by kernel_rfl) (fun _ _ _ h => h) (by rfl) hHeld ?_
      try simp only [List.setIfInBounds_toArray, List.set_cons_zero, List.set_cons_succ]
      refine skipH (i := 9) rfl rfl (by kernel_rfl) (by kernel_rfl) (by kernel_rfl) (fun _ _ _ h => h) (by rfl) hHeld ?_
      try simp only [List.setIfInBounds_toArray, List.set_cons_zero, List.set_cons_succ]
      refine skipH (i := 10) rfl rfl (by kernel_rfl) (by kernel_rfl) (by kernel_rfl) (fun _ _ _ h => h) (by rfl) hHeld ?_
      try simp only [List.setIfInBounds_toArray, List.set_cons_zero, List.set_cons_succ]
      refine skipH (i := 11) rfl rfl (by kernel_rfl) (by kernel_rfl) (by kernel_rfl) (fun _ _ _ h => h) (by rfl) hHeld ?_
      try simp only [List.setIfInBounds_toArray, List.set_cons_zero, List.set_cons_succ]
      refine skipH (i := 12) rfl rfl (by kernel_rfl) (by kernel_rfl) (by kernel_rfl) (fun _ _ _ h => h) (by rfl) hHeld ?_
      try simp only [List.setIfInBounds_toArray, List.set_cons_zero, List.set_cons_succ]
      refine skipH (i := 13) rfl rfl (by kernel_rfl) (by kernel_rfl) (by kernel_rfl) (fun _ _ _ h => h) (by rfl) hHeld ?_
      try simp only [List.setIfInBounds_toArray, List.set_cons_zero, List.set_cons_succ]
      refine skipH (i := 14) rfl rfl (by kernel_rfl) (by kernel_rfl) (by kernel_rfl) (fun _ _ _ h => h) (by rfl) hHeld ?_
      try simp only [List.setIfInBounds_toArray, List.set_cons_zero, List.set_cons_succ]
      refine skipH (i := 15) rfl rfl (by kernel_rfl) (by kernel_rfl) (by kernel_rfl) (fun _ _ _ h => h) (by rfl) hHeld ?_
      try simp only [List.setIfInBounds_toArray, List.set_cons_zero, List.set_cons_succ]
      refine takeH (i := 16) (v := ?_) rfl rfl (by kernel_rfl) (by kernel_rfl) (by kernel_rfl) (fun _ _ _ h => h) (by rfl) ?_ hHeld ?_
      rotate_left
      · (intro w hSw); (try dsimp only at hSw); go_simp; try with_reducible rfl
      try simp only [List.setIfInBounds_toArray, List.set_cons_zero, List.set_cons_succ]
      refine wpAnyH_done (by kernel_rfl) ?_ _
      gi_wp2
      have hAd := HAW.out.abid (V := U) (Keeps.drew _ W9) (fun b' hb => .inl hb)
      refine ⟨Keeps.drew _ W9, F2, .slice Av K.length cv, cs, ?_⟩
      rw [rowsOf_snoc, SA.out]
      exact hAd
  case done =>
    rintro D ys U W9 hS ⟨F2, v, cs, hA⟩ hK hUD hD
    have e9 : rowsOf ys = ss := hS
    rw [e9] at hA
    have LN := allA_lens W great rows ss (rows, [])
    have KL := mem_keysA (W := W) (great := great) (L := ss) (st := (rows, [])) (fun k hk => by simp at hk)
    change (allA W great rows ss).1.length ≤ rows.length + ss.length ∧ (allA W great rows ss).2.length ≤ 0 + ss.length at LN
    change ∀ k ∈ (allA W great rows ss).2, k.length = W at KL
    have hNA : newsA W great rows ss = (allA W great rows ss).2.map fun k => k ++ [(getB W (allA W great rows ss).1 k).getD 0] := rfl
    obtain ⟨st, hst⟩ : ∃ st, allA W great rows ss = st := ⟨_, rfl⟩
    rw [hst] at hA LN KL hNA
    have HST := Aside0.mk hst
    obtain ⟨R, K⟩ := st
    simp only at hA LN KL hNA
    obtain ⟨OUT, hOUT⟩ : ∃ OUT, (K.map fun k => k ++ [(getB W R k).getD 0]) = OUT := ⟨_, rfl⟩
    rw [hOUT] at hNA
    have hOL : OUT.length = K.length := by rw [← hOUT]; simp
    have HOG := Aside0.mk (show ∀ i (h : i < K.length), OUT.take (i + 1) = OUT.take i ++ [K[i] ++ [(getB W R K[i]).getD 0]] from fun i h => by
      rw [List.take_succ_eq_append_getElem (by omega)]; congr 1; simp [← hOUT])
    have HNA := Aside0.mk hNA
    have HOL := Aside0.mk hOL
    have HK := Aside0.mk hK
    have HKL := Aside0.mk KL
    have hgood := Aside0.mk hA.best.good
    obtain ⟨Av, cv, hvf⟩ := own_form hA.own
    subst hvf
    have RO := Aside0.mk (show RowsAt W9 (fun _ => True) (.slice Av K.length cv) K from SlAt.of_own0 (E := RowAt) (xs := K) hA.own rfl (fun _ _ _ => trivial) (by omega) (fun j hj u hu => reads_row.mono (hA.el j hj u hu) (fun b hb _ => trivial)))
    have HA := Aside0.mk hA
    have hKn : K.length < 900000 := by omega
    have hc0 := hA.ptr.cell
    have hc1 := hA.box.cell
    have hgw := hA.best.cells
    clear hA hS hK e9 hst hNA hOUT hOL KL LN x0 x1 hb1 hbb hbw HFg hFl
    gi_wp2
    gi_loopw [8, 44] (fun s8 s44 wr => ∃ (i : Nat) (cs2 : List Value), s44 = .int .i64 i ∧ i ≤ K.length ∧ Aside0 (BuiltBy RowAt wr W9.heap.size 23 (Off s8) s8 (OUT.take i) cs2) ∧ Aside0 (Below W9.heap.size W9 wr)) (fun _ s44 _ => K.length - (intOf s44).toNat)
    case atStart => exact ⟨0, [], rfl, Nat.zero_le _, ⟨BuiltBy.nil _ _ _ _ _⟩, ⟨Below.refl _ _⟩⟩
    case round =>
      obtain ⟨i, cs2, rfl, hi, HO, HB⟩ := hrel
      have q0 := below_cell0 HB.out hc0
      have q2 := below_cell0 HB.out hgw
      have HTL := Aside0.mk (show (OUT.take i).length = i by have := HOL.out; rw [List.length_take]; omega)
      by_cases hlt : i < K.length
      · obtain ⟨bk, ok_, uk, hbk, _, _, hck, hkr⟩ := (RO.out.below reads_row HB.out).at_ i hlt
        subst hbk
        obtain ⟨Ak, ck, hkf, _⟩ := hkr.form
        subst hkf
        have hkl : (K[i]).length = W := HKL.out _ (List.getElem_mem hlt)
        have OG := Aside0.mk (HOG.out i hlt)
        have GT := Aside0.mk (get_any wr B g W F2 great R (HA.out.best.below HB.out).1 _ _ K[i] hkr (by omega))
        have CL := Aside0.mk (fun w2 (hb : Below wr.heap.size wr w2) => clone64_own w2 _ _ K[i] (SlAt.below reads_int hkr hb) (by omega))
        have KI := Aside0.mk (row_in64 hkr)
        have GI := Aside0.mk (getB_in64 hgood.out.1 K[i])
        generalize K[i] = key at *
        obtain ⟨cost, hcost⟩ : ∃ cost, (getB W R key).getD 0 = cost := ⟨_, rfl⟩
        rw [hcost] at OG GT GI
        obtain ⟨is, his⟩ : ∃ is, (getB W R key).isSome = is := ⟨_, rfl⟩
        rw [his] at GT
        rw [hkl] at hck GT CL
        have HKL1 := Aside0.mk hkl
        have h63a := Aside0.mk (show W + 1 ≤ maxLen by unfold maxLen; omega)
        have hbya := Aside0.mk (show (W + 1) * 8 ≤ 140737488355328 by omega)
        have hsb := HB.out.size
        obtain ⟨A8, c8, h8⟩ := own_form HO.out.own
        subst h8
        clear hcost his hkr hkl
        have h63b := Aside0.mk (show (OUT.take i).length + 1 ≤ maxLen by have := HTL.out; unfold maxLen; omega)
        have hbyb := Aside0.mk (show ((OUT.take i).length + 1) * 24 ≤ 140737488355328 by have := HTL.out; omega)
        generalize OUT.take i = T at *
        gi_wp2_with (first
          | (refine ⟨trivial, ?_⟩; gi_at_call 14; refine (callsIn_wide.2 (GT.out)).mono ?_; rintro e w2 ⟨rfl, B2⟩; have HB2 := Aside0.mk B2; clear B2)
          | (refine ⟨trivial, ?_⟩; gi_at_call 45; refine (callsIn_wide.2 (CL.out _ HB2.out)).mono ?_; rintro e w3 ⟨cv3, rfl, HO3, B3⟩; have HO3 := Aside0.mk HO3; have HB3 := Aside0.mk B3; have hz3 := Aside0.mk (fun o : Obj => show _ ≤ (w3.alloc o).heap.size by have := B3.size; simp; exact Nat.le_succ_of_le this); obtain ⟨A3, c3, h3f⟩ := own_form HO3.out; subst h3f; clear B3)
          | (gi_at_builtin; refine wpListIn_append_at _ rfl (.tmp 56) (.tmp 58) 23 rfl w2.heap.size 2 ii (.int .i64 0) 1 8 Try.underlying23 hii hi0 hi1 hi2 rfl (by decide) _ _ _ rfl (HO3.out.alloc _) ⟨w3.heap.size, 0, none⟩ 1 1 [Value.int .i64 cost] rfl rfl (cell_one_new _ _ _) (by simp [Value.oneCell']) h63a.out hbya.out (hz3.out _) ?_; intro v4 w4 ho4 hg4 hb4; obtain ⟨b4, c4, rfl⟩ := own_some ho4; have HO4 := Aside0.mk ho4; have HG4 := Aside0.mk hg4; have BW4 := Aside0.mk (add_below HB2.out HB3.out ho4 hg4 HO3.out); have hz4 := Aside0.mk (fun o : Obj => show W9.heap.size ≤ (w4.alloc o).heap.size by have := BW4.out.size; simp; omega); have HO8 := Aside0.mk (HO.out.stays reads_row (Stays.of_below BW4.out (fun _ => True)) (fun _ _ _ => trivial) (fun _ _ => trivial)); clear ho4 hg4 hb4)
          | (gi_at_builtin; refine wpListIn_append_at _ rfl (.tmp 54) (.tmp 60) 28 rfl W9.heap.size 23 ir (.slice none 0 0) 1 24 Try.underlying28 hir hr0 hr1 hr2 rfl (by decide) _ _ _ rfl (HO8.out.own.alloc _) ⟨w4.heap.size, 0, none⟩ 1 1 [Value.slice (some ⟨b4, 0, none⟩) (W + 1) c4] rfl rfl (cell_one_new _ _ _) (by simp [Value.oneCell']) h63b.out hbyb.out (hz4.out _) ?_; intro v5 w5 ho5 hg5 hb5; have HO5 := Aside0.mk ho5; have HG5 := Aside0.mk hg5; have HB5 := Aside0.mk hb5; clear ho5 hg5 hb5))
        go_roundw
        case rel =>
          have hx : RowAt w4 (Off (.slice A8 T.length c8)) (.slice (some ⟨b4, 0, none⟩) (W + 1) c4) (key ++ [cost]) := reads_row.mono (RowAt.of_own' HO4.out (by simp [HKL1.out]) (by simp) (by simp [HKL1.out]; omega) (fun x hx => by
            rcases List.mem_append.1 hx with h | h
            · exact KI.out x h
            · rw [List.mem_singleton.1 h]; exact GI.out)) (fun b hb _ e => by have := (HO.out.own.lt b e).2; have := HB2.out.size; omega)
          have hp := HO8.out.pushV reads_row hx HO5.out HG5.out HB5.out
          rw [← OG.out] at hp
          exact ⟨i + 1, _, by go_num, by omega, ⟨hp⟩, ⟨(below_alloc (below_trans HB.out BW4.out hsb) (by have := BW4.out.size; omega) _).grown HG5.out (by have := BW4.out.size; simp; omega) (own_below HO8.out.own)⟩⟩
        case measure => simp [intOf]; omega
      · obtain rfl : i = K.length := by omega
        have MK := Aside0.mk (make_any wr (fun _ => True) u8 (W + 1) OUT (by
          have h9 : OUT.take K.length = OUT := by rw [← HOL.out, List.take_length]
          have h8 := HO.out
          rw [h9] at h8
          exact SlAt.of_own0 (E := RowAt) h8.own rfl (fun _ _ _ => trivial) (by have := HOL.out; omega) (fun j hj u hu => reads_row.mono (h8.el j hj u hu) (fun b hb _ => trivial))) (by omega) (by have := HOL.out; omega))
        rw [show ((W + 1 : Nat) : Int) = (W : Int) + 1 by omega] at MK
        have hsb := HB.out.size
        clear HO HTL
        have hmx : max (W : Int) 0 = (W : Int) := by omega
        gi_wp2_with (refine ⟨trivial, ?_⟩; gi_at_call 22; (with_reducible refine (callsIn_wide.2 (MK.out)).mono ?_); rintro e w3 ⟨rv, rfl, hrv, hbv⟩; have HRV := Aside0.mk hrv; have HBV := Aside0.mk hbv; obtain ⟨g3, cv3, hv3, _⟩ := hrv.ex; subst hv3; clear hrv hbv)
        have hDl := (Array.getElem?_eq_some_iff.1 HK.out).1
        have hb3 : Below W9.heap.size W9 w3 := below_trans HB.out HBV.out hsb
        have HK3 := Aside0.mk ((hb3.block D hDl).trans HK.out)
        have hDw : w.heap.size ≤ D := HA.out.geU D hUD
        have SEG := Aside0.mk ((HRV.out.stays ((Keeps.putObj w3 D (.deferred none)).stays.mono (fun b hb _ => by show b ≠ D; omega))).mono (ok2 := fun b => w.heap.size ≤ b ∧ ¬ F2 b) (fun b hb _ => ⟨by have := HA.out.big; omega, fun hf => by have := HA.out.best.2 b hf; omega⟩))
        have BST := Aside0.mk ((HA.out.best.below hb3).keeps (Keeps.putObj w3 D (.deferred none)) (fun b hf e => HA.out.fU b hf (e ▸ hUD)))
        have KEE := Aside0.mk (((HA.out.keeps.trans (Keeps.all hb3 (fun b => b < w.heap.size ∧ ¬ F b)) (fun _ _ h => h)).trans (ok2 := fun b => b ≠ D) (Keeps.putObj w3 D (.deferred none)) (fun b hb hh => by have := hh.1; omega)).mono (ok2 := fun b => ¬ F b) (fun b hb hf => ⟨hb, hf⟩))
        have HGR := Aside0.mk HA.out.grow
        clear hb3 hDl hDw MK HBV HRV
        gi_wp2
        refine ⟨by simp, .inl ⟨_, _, rfl, run_takeDeferred HK3.out, ?_⟩⟩
        refine ⟨_, results_tmp rfl _ _ _, .pointer (some ⟨g3, 0, none⟩), F2, rfl, ?_, ?_, HGR.out, KEE.out⟩
        · rw [HNA.out]; exact SEG.out
        · rw [HST.out]; exact BST.out
  case stop =>
    rintro D c pre U W _ h
    exact h.elim
end Go.Proofs.Ytalbgdbphdhhaaa.Sg
