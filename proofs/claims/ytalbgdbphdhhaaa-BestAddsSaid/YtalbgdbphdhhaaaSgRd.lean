/- Contracts: slices.AppendSeq, slices.Collect of an iterator over rows; a set's rows. -/
import Derived.Test.YtalbgdbphdhhaaaSgRc
namespace Go.Proofs.Ytalbgdbphdhhaaa.Sg
open Go.RowKit Go.Shelf
attribute [local go_sem] Oper.semAt_some
set_option linter.unusedVariables false
set_option linter.unusedSimpArgs false

set_option maxRecDepth 100000 in
set_option maxHeartbeats 4000000 in
theorem appendSeq_any (w : World) (n0 g : Nat) (lb : Array Value) (eg : ∀ args w, (callFunc g args).run Try.prog w = .ok (.enter g args) w) (U0 : Nat → Prop) (X : List RowV → RowV → (Nat → Prop) → World → Prop) (S Sp : List RowV → Prop)
    (hn0 : n0 ≤ w.heap.size) (hU0 : ∀ b, U0 b → n0 ≤ b ∧ b < w.heap.size) (hX : ∀ pre x R A B, X pre x R A → Keeps R A B → X pre x R B) (hX2 : ∀ pre x R A, X pre x R A → pre.length < 1000000 ∧ RowAt A R x.1 x.2) (hS : ∀ xs, S xs → xs.length < 1000000)
    (hseq : ∀ w', Keeps (fun _ => True) w w' → SeqU Try.prog (6 - 1) g lb encR n0 U0 X S Sp w') :
    Calls Try.prog 71 #[.slice none 0 0, .func (.func g) #[] lb] w fun e w' => ∃ v xs, e = .returned v ∧ S xs ∧ RowsAt w' (n0 ≤ ·) v (rowsOf xs) ∧ Below n0 w w' := by
  refine (callsIn_wide (n := 6)).1 ?_
  obtain ⟨ir, hir, hr0, hr1, hr2⟩ := info_parts info_rowR
  have HSQ := Aside0.mk (hseq (w.alloc (.cells #[.slice none 0 0] 28)) (Keeps.alloc _ _ _))
  have HX := Aside0.mk hX
  have HX2 := Aside0.mk hX2
  have HU0 := Aside0.mk hU0
  have HSS := Aside0.mk hS
  clear hseq hX hX2 hU0 hS
  refine callsIn_of_wp_marks Try.func71 rfl trivial ?_ rfl
  simp only [Try.ntmps71, List.size_toArray, List.length_cons, List.length_nil, Nat.reduceAdd, Nat.reduceSub, Array.replicate_succ, Array.replicate_zero, List.push_toArray, List.append_toArray, List.nil_append, List.cons_append]
  gi_wp2
  have bx0 := Boxed.new w 28 (.slice none 0 0)
  refine wpIn_rangeU (gf := g) (lb := lb) rfl eg HSQ.out (by simp; omega) (fun x => rfl) (fun b hb => by have := HU0.out b hb; simp; omega) HX.out
    (ListI n0 w.heap.size w.heap.size w rowsOf)
    (fun _ _ _ _ => False)
    (ListI.abid _ _ _ _ _)
    (fun _ _ _ _ _ _ h _ _ => h)
    ⟨.slice none 0 0, [], ⟨bx0, World.ownsRow_nil _ _ _ _, fun j hj => by simp [rowsOf] at hj, fun b hb => by simp [Value.ownBlock] at hb, fun hb => by have := HU0.out _ hb; omega, Nat.le_refl _, fun b hb => (HU0.out b hb).1, hn0, below_alloc ((Below.refl _ _).mono hn0) hn0 _⟩, by simp; omega⟩
    (fun x => { tmps := #[.slice none 0 0, .func (.func g) #[] lb, .pointer (some ⟨w.heap.size, 0, none⟩), undef, .slice none 0 0, x.1, .func (.func g) #[] lb, x.1, undef, undef, undef, undef, undef], defers := [] }) ?assign ?body ?done ?stop
  case assign =>
    intro l x W K hK
    simp only [encR]
    gi_wp2
    exact hK
  case body =>
    rintro l pre x UA U A W ⟨v, cs, hL, hnA⟩ hk hv hU hx
    obtain ⟨hpl, hxr⟩ := HX2.out _ _ _ _ hx
    have RS := Aside0.mk (rowsOf_snoc pre x)
    obtain ⟨xv, r⟩ := x
    obtain ⟨Ax, cx, hxv, _⟩ := hxr.form
    simp only at hxv
    subst hxv
    obtain ⟨Av, cv, hvf⟩ := own_form hL.own
    subst hvf
    have hLW := hL.abid hk hv hnA
    have hxr2 := reads_row.mono (ok2 := fun b => n0 ≤ b ∧ Off (.slice Av (rowsOf pre).length cv) b ∧ b ≠ w.heap.size ∧ ¬ U b) hxr (fun b hb _ => ⟨Nat.le_trans hnA hb.1, fun e => by have := (hL.own.lt b e).2; have := hb.1; omega, fun e => by have := hL.box.lt; have := hb.1; omega, hb.2⟩)
    have HLW := Aside0.mk hLW
    have HXR := Aside0.mk hxr2
    have HU := Aside0.mk hU
    have hc := hLW.box.cell
    have hf := hLW.box.frozen
    have hlp : (rowsOf pre).length = pre.length := by simp [rowsOf]
    have h63 := Aside0.mk (show (rowsOf pre).length + 1 ≤ maxLen by unfold maxLen; omega)
    have hby := Aside0.mk (show ((rowsOf pre).length + 1) * 24 ≤ 140737488355328 by omega)
    have hws := hk.size
    have hwl := hLW.box.lt
    have hsz := Aside0.mk (fun o => (show w.heap.size ≤ (W.alloc o).heap.size by simp; omega))
    have HN := Aside0.mk (Nat.le_trans hnA hws)
    clear hL hk hv hU hx hLW hxr hxr2 hlp
    gi_wp2_with (gi_at_builtin; refine wpListIn_append_at _ rfl _ _ 28 rfl w.heap.size 23 ir (.slice none 0 0) 1 24 Try.underlying28 hir hr0 hr1 hr2 rfl (by decide) _ _ _ rfl (HLW.out.own.alloc _) ⟨W.heap.size, 0, none⟩ 1 1 [Value.slice Ax r.length cx] rfl rfl (cell_one_new _ _ _) (by simp [Value.oneCell']) h63.out hby.out (hsz.out _) ?_; intro v' w1 ho hg hb; obtain ⟨b', c', rfl⟩ := own_some ho; have HP := Aside0.mk (HLW.out.push HXR.out ho hg hb HU.out); have hbk := (((HLW.out.box.alloc _).kept hg HLW.out.notOwn)); have hc1 := hbk.cell; have hf1 := hbk.frozen; clear ho hg hb hbk)
    have HP1 := HP.out.1
    rw [← RS.out] at HP1
    exact ⟨HP.out.2.1, ⟨_, _, HP1, Nat.le_trans HN.out HP.out.2.1.size⟩⟩
  case done =>
    rintro D ys U W hS ⟨v, cs, hL, hnA⟩ hK hUD hD
    have hc := hL.box.cell
    have hl := HSS.out ys hS
    have hlp : (rowsOf ys).length = ys.length := by simp [rowsOf]
    have HL2 := Aside0.mk (hL.abid (V := U) ((Keeps.putObj W D (.deferred none)).mono (fun b _ hb e => hb (by rw [e]; exact hUD))) (fun b hb => .inl hb) hnA)
    have HSY := Aside0.mk hS
    have HK := Aside0.mk hK
    have RO := Aside0.mk (SlAt.of_own0 (E := RowAt) (ok := (n0 ≤ ·)) (xs := rowsOf ys) HL2.out.own rfl (fun b _ hb => Nat.le_trans hn0 hb) (by omega) (fun j hj u hu => reads_row.mono (HL2.out.el j hj u hu) (fun b hb _ => hb.1)))
    clear hL hS hK
    gi_wp2
    refine ⟨by simp, .inl ⟨_, _, rfl, run_takeDeferred HK.out, ?_⟩⟩
    exact ⟨_, results_tmp rfl _ _ _, v, ys, rfl, HSY.out, RO.out, HL2.out.below⟩
  case stop =>
    rintro D c pre U W _ h
    exact h.elim

set_option maxRecDepth 100000 in
set_option maxHeartbeats 4000000 in
theorem collect_any (w : World) (n0 g : Nat) (lb : Array Value) (eg : ∀ args w, (callFunc g args).run Try.prog w = .ok (.enter g args) w) (U0 : Nat → Prop) (X : List RowV → RowV → (Nat → Prop) → World → Prop) (S Sp : List RowV → Prop)
    (hn0 : n0 ≤ w.heap.size) (hU0 : ∀ b, U0 b → n0 ≤ b ∧ b < w.heap.size) (hX : ∀ pre x R A B, X pre x R A → Keeps R A B → X pre x R B) (hX2 : ∀ pre x R A, X pre x R A → pre.length < 1000000 ∧ RowAt A R x.1 x.2) (hS : ∀ xs, S xs → xs.length < 1000000)
    (hseq : ∀ w', Keeps (fun _ => True) w w' → SeqU Try.prog (6 - 1) g lb encR n0 U0 X S Sp w') :
    Calls Try.prog 56 #[.func (.func g) #[] lb] w fun e w' => ∃ v xs, e = .returned v ∧ S xs ∧ RowsAt w' (n0 ≤ ·) v (rowsOf xs) ∧ Below n0 w w' := by
  have AP := Aside0.mk (appendSeq_any w n0 g lb eg U0 X S Sp hn0 hU0 hX hX2 hS hseq)
  clear hX hX2 hS hseq hU0
  go_enter Try.func56, Try.ntmps56
  go_wp2_with fail
  refine (AP.out).mono ?_
  rintro e w1 ⟨v, xs, rfl, hS, hR, hB⟩
  have HS := Aside0.mk hS
  have HR := Aside0.mk hR
  have HB := Aside0.mk hB
  obtain ⟨A, c, hv, _⟩ := hR.form
  subst hv
  clear hS hR hB AP
  go_wp2
  go_ret
  exact ⟨_, xs, rfl, HS.out, HR.out, HB.out⟩

set_option maxRecDepth 100000 in
set_option maxHeartbeats 4000000 in
theorem rows_any (w : World) (ok : Nat → Prop) (v : Value) (W0 : Nat) (rs : List Row) (h : SegN w ok v W0 rs) :
    Calls Try.prog 43 #[v] w fun e w' => ∃ v', e = .returned v' ∧ RowsAt w' (w.heap.size ≤ ·) v' rs ∧ Below w.heap.size w w' := by
  obtain ⟨p, rfl⟩ := h.ptr
  have AL := Aside0.mk (all_any p w)
  have hk0 := Keeps.alloc (fun _ => True) w (.cells #[.pointer p] 39)
  have hl := h.len
  have CO := Aside0.mk (collect_any (w.alloc (.cells #[.pointer p] 39)) w.heap.size 57 #[.pointer (some ⟨w.heap.size, 0, none⟩)] (enters_of Try.func57 (by kernel_rfl) rfl) (· = w.heap.size) (RowX rs) (AllS rs) (AllSp rs) (by simp) (fun b hb => by subst hb; simp) RowX.kept (fun pre x R A hx => ⟨by have := (List.getElem?_eq_some_iff.1 hx.1).1; omega, hx.2.2⟩) (fun xs hx => by unfold AllS at hx; have := congrArg List.length hx; simp at this; omega)
    (fun w' hk => all1_in _ w.heap.size w.heap.size (· < w.heap.size) _ W0 rs w' ((hk.block _ (by simp) trivial).trans (Boxed.new w 39 _)) ((h.mono (ok2 := (· < w.heap.size)) (fun b _ hl => hl)).stays ((hk0.trans hk (fun _ _ h => h)).stays.mono (fun _ _ _ => trivial))) (fun b hb => hb)))
  clear h hk0 hl
  go_enter Try.func43, Try.ntmps43
  go_wp2_with fail
  refine (AL.out).mono ?_
  rintro e w' ⟨rfl, rfl⟩
  clear AL
  go_wp2_with fail
  refine (CO.out).mono ?_
  rintro e w1 ⟨v, xs, rfl, hS, hR, hB⟩
  have e : rowsOf xs = rs := hS
  rw [e] at hR
  have HR := Aside0.mk hR
  have HB := Aside0.mk ((below_alloc0 (Below.refl _ _) (.cells #[.pointer p] 39)).trans hB)
  obtain ⟨A, c, hv, _⟩ := hR.form
  subst hv
  clear hS hR hB e CO
  go_wp2
  go_ret
  exact ⟨_, rfl, HR.out, HB.out⟩
end Go.Proofs.Ytalbgdbphdhhaaa.Sg
