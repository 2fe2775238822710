/- The law's own: walk. -/
import Derived.Test.YtcaonlddhbgnjaaSgMc
import Derived.Test.YtcaonlddhbgnjaaSgRk
namespace Go.Proofs.Ytcaonlddhbgnjaa.Mg
open Go.RowKit Go.Shelf Go.Proofs.Ytcaonlddhbgnjaa.Sg Go.Proofs.Ytcaonlddhbgnjaa.Hm Go.Proofs.Ytcaonlddhbgnjaa.Hc
attribute [local go_sem] Oper.semAt_some
set_option linter.unusedVariables false
set_option linter.unusedSimpArgs false

set_option maxHeartbeats 1000000 in
theorem mrows_any (A : Option Addr) (n c : Nat) (w : World) : Calls Try.prog 44 #[.slice A n c] w fun e w' => e = .returned (.func (.func 66) #[] #[.pointer (some ⟨w.heap.size, 0, none⟩)]) ∧ w' = w.alloc (.cells #[.slice A n c] 40) := by
  go_enter Try.func44, Try.ntmps44
  go_wp2
  go_ret
  exact ⟨rfl, rfl⟩
def PureI (f : List RowV → Prop) (pre : List RowV) (_ : Nat → Prop) (_ : World) : Prop := f pre
theorem PureI.abid (f : List RowV → Prop) : Abid (PureI f) := fun _ _ _ _ _ h _ _ => h

set_option maxRecDepth 100000 in
set_option maxHeartbeats 4000000 in
theorem walk6_any (w : World) (ok : Nat → Prop) (lv : Value) (ps : List (Option Addr)) (look : Look) (most : Int) (hl : PsAt w ok lv ps) (hI : invC look ps w.heap.size w) (hSS : ∀ p ∈ ps, SS (look p)) (hflat : (ps.flatMap look).length < 900000) (hps : ps.length < 900000) :
    Calls Try.prog 17 #[lv, .int .i64 most] w fun e w' => ∃ v got, e = .returned v ∧ RowsAt w' (w.heap.size ≤ ·) v got ∧ Below w.heap.size w w' ∧
      ((Merged (ps.flatMap look) got ∧ ∀ k : Nat, 1 ≤ k → k ≤ got.length → (k : Int) ≠ most) ∨ ((got.length : Int) = most ∧ got.length ≤ (ps.flatMap look).length)) := by
  obtain ⟨Al, cl, rfl, hcl, hlm, _⟩ := hl.form
  refine (callsIn_wide (n := 6)).1 ?_
  obtain ⟨ir, hir, hr0, hr1, hr2⟩ := info_parts info_rowR
  have HLI := Aside0.mk hl
  have HII := Aside0.mk hI
  have HSS := Aside0.mk hSS
  clear hl hI hSS
  refine callsIn_of_wp_marks Try.func17 rfl trivial ?_ rfl
  simp only [Try.ntmps17, List.size_toArray, List.length_cons, List.length_nil, Nat.reduceAdd, Nat.reduceSub, Array.replicate_succ, Array.replicate_zero, List.push_toArray, List.append_toArray, List.nil_append, List.cons_append]
  obtain ⟨W1, hW1⟩ : ∃ W1, (((w.alloc (.cells #[.int .i64 most] 3)).alloc (.cells #[] 46)).alloc (.cells #[.slice (some ⟨w.heap.size + 1, 0, none⟩) 0 0] 42)) = W1 := ⟨_, rfl⟩
  have HW1 := Aside0.mk hW1
  have MR := Aside0.mk (mrows_any Al ps.length cl W1)
  clear hW1
  gi_wp2_with (refine ⟨trivial, ?_⟩; rw [HW1.out]; gi_at_call 44; refine (callsIn_wide.2 MR.out).mono ?_; rintro e w' ⟨rfl, rfl⟩)
  have hW1 := HW1.out
  have HZ := Aside0.mk (show W1.heap.size = w.heap.size + 3 by rw [← hW1]; simp)
  have hb1 : Below w.heap.size w W1 := by rw [← hW1]; exact below_alloc0 (below_alloc0 (below_alloc0 (Below.refl _ _) _) _) _
  have x0 : Boxed W1 w.heap.size 3 (.int .i64 most) := by rw [← hW1]; exact ((Boxed.new w _ _).alloc _).alloc _
  have x2 : Boxed W1 (w.heap.size + 2) 42 (.slice (some ⟨w.heap.size + 1, 0, none⟩) 0 0) := by rw [← hW1]; have := Boxed.new ((w.alloc (.cells #[.int .i64 most] 3)).alloc (.cells #[] 46)) 42 (.slice (some ⟨w.heap.size + 1, 0, none⟩) 0 0); rwa [World.size_alloc, World.size_alloc] at this
  have hown : W1.ownsRow w.heap.size 46 1 (.slice (some ⟨w.heap.size + 1, 0, none⟩) 0 0) 0 [] := by
    rw [← hW1]
    have := owns_empty (w.alloc (.cells #[.int .i64 most] 3)) w.heap.size 46 (by simp)
    rw [World.size_alloc] at this
    exact this.alloc _
  clear hW1 MR HW1
  have hbb := below_alloc0 (Below.refl W1.heap.size W1) (.cells #[.slice Al ps.length cl] 40)
  have hbw := below_trans0 hb1 hbb
  have hpsW := (reads_ps.mono (ok2 := (· < w.heap.size)) HLI.out (fun b _ hl => hl))
  obtain ⟨flat, hfl⟩ : ∃ flat, ps.flatMap look = flat := ⟨_, rfl⟩
  have SQ := Aside0.mk (rows1_in (6 - 1) w.heap.size W1.heap.size (.slice Al ps.length cl) ps look (W1.alloc (.cells #[.slice Al ps.length cl] 40)) (Boxed.new W1 40 _) (reads_ps.stays hpsW (Stays.of_belowB hbw)) (HII.out.below hbw) HSS.out hflat hps hbw.size)
  rw [hfl] at SQ hflat
  have HFL := Aside0.mk hfl
  clear hpsW hfl
  refine wpIn_rangeU (gf := 66) (lb := #[.pointer (some ⟨W1.heap.size, 0, none⟩)]) (n0 := w.heap.size) (U0 := (· = W1.heap.size)) (X := RowsX flat) (S := RowsS flat) (Sp := RowsSp flat) rfl (enters_of Try.func66 (by kernel_rfl) rfl)
    SQ.out (by have := HZ.out; simp; omega) (fun x => rfl) (fun b hb => by subst hb; simp) RowsX.kept
    (fun pre U W => (ListI w.heap.size w.heap.size (w.heap.size + 2) w rowsOf pre U W) ∧ BoxI w.heap.size 3 (.int .i64 most) pre U W ∧ PureI (fun pre => ∀ k : Nat, 1 ≤ k → k ≤ pre.length → (k : Int) ≠ most) pre U W)
    (fun c pre U W => (ListI w.heap.size w.heap.size (w.heap.size + 2) w rowsOf pre U W) ∧ PureI (fun pre => c = .exit 0 ∧ (pre.length : Int) = most) pre U W)
    (Abid.and (ListI.abid _ _ _ _ _) (Abid.and (BoxI.abid _ _ _) (PureI.abid _)))
    (fun c => Abid.and (ListI.abid _ _ _ _ _) (PureI.abid _))
    ⟨⟨_, [], ⟨x2.alloc _, hown.alloc _, fun j hj => by simp [rowsOf] at hj, fun b hb => by simp [Value.ownBlock] at hb; have := HZ.out; omega, fun e => by have := HZ.out; omega, by omega, fun b e => by have := HZ.out; omega, Nat.le_refl _, hbw⟩, by have := HZ.out; simp; omega⟩, ⟨x0.alloc _, fun e => by have := HZ.out; omega⟩, fun k h1 h2 => by simp at h2; omega⟩
    (fun x => { tmps := #[.slice Al ps.length cl, .int .i64 most, undef, .pointer (some ⟨w.heap.size, 0, none⟩), .slice none 0 0, .pointer (some ⟨w.heap.size + 1 + 1, 0, none⟩), x.1, .slice (some ⟨w.heap.size + 1, 0, none⟩) 0 0, .slice Al ps.length cl, .func (.func 66) #[] #[.pointer (some ⟨W1.heap.size, 0, none⟩)], x.1, undef, undef, undef, undef, undef, undef, undef, undef, undef], defers := [] }) ?assign ?body ?done ?stop
  case assign =>
    intro l x W K hK
    simp only [encR]
    gi_wp2
    exact hK
  case body =>
    rintro l pre x UA U A W9 ⟨⟨v, cs, hL, hnA⟩, hX0, hPU⟩ hk hv hU hx
    have hPU : ∀ k : Nat, 1 ≤ k → k ≤ pre.length → (k : Int) ≠ most := hPU
    obtain ⟨hpl, hxr⟩ := hx
    have RS := Aside0.mk (rowsOf_snoc pre x)
    obtain ⟨xv, r⟩ := x
    obtain ⟨Ax, cx, hxv, _⟩ := hxr.form
    simp only at hxv
    subst hxv
    obtain ⟨Av, cv, hvf⟩ := own_form hL.own
    subst hvf
    have hLW := hL.abid hk hv hnA
    have hX0 := BoxI.abid _ _ _ _ _ _ _ _ hX0 hk hv
    have hxr2 := reads_row.mono (ok2 := fun b' => w.heap.size ≤ b' ∧ Off (.slice Av (rowsOf pre).length cv) b' ∧ b' ≠ w.heap.size + 2 ∧ ¬ U b') hxr (fun b' hb _ => ⟨Nat.le_trans hnA hb.1, fun e => by have := (hL.own.lt b' e).2; have := hb.1; omega, fun e => by have := hL.box.lt; have := hb.1; omega, hb.2⟩)
    have HLW := Aside0.mk hLW
    have HXR := Aside0.mk hxr2
    have HU := Aside0.mk hU
    have HX0 := Aside0.mk hX0
    have HPU := Aside0.mk hPU
    have hc := hLW.box.cell
    have hf := hLW.box.frozen
    have hc0 := hX0.1.cell
    have hlp : (rowsOf pre).length = pre.length := by simp [rowsOf]
    have h63 := Aside0.mk (show (rowsOf pre).length + 1 ≤ maxLen by unfold maxLen; omega)
    have hby := Aside0.mk (show ((rowsOf pre).length + 1) * 24 ≤ 140737488355328 by omega)
    have hws := hk.size
    have hsz := Aside0.mk (fun o => (show w.heap.size ≤ (W9.alloc o).heap.size by simp; omega))
    have HN := Aside0.mk (Nat.le_trans hnA hws)
    have HOB := Aside0.mk (hLW.offBox hX0.1 (by decide) (by omega))
    have HLP := Aside0.mk hlp
    clear hL hk hv hU hLW hxr hxr2 hX0 hPU hlp
    have PUN := Aside0.mk (show ((rowsOf pre).length : Int) + 1 ≠ most → ∀ k : Nat, 1 ≤ k → k ≤ (pre ++ [((.slice Ax r.length cx : Value), r)]).length → (k : Int) ≠ most from fun hm k h1 h2 => by
      rw [List.length_append, List.length_singleton] at h2
      by_cases h3 : k ≤ pre.length
      · exact HPU.out k h1 h3
      · have : k = (rowsOf pre).length + 1 := by have := HLP.out; omega
        rw [this]; push_cast; exact hm)
    by_cases hm : ((rowsOf pre).length : Int) + 1 = most
    all_goals gi_wp2_with (gi_at_builtin; refine wpListIn_append_at _ rfl _ _ 42 rfl w.heap.size 46 ir (.slice none 0 0) 1 24 Try.underlying42 hir hr0 hr1 hr2 rfl (by decide) _ _ _ rfl (HLW.out.own.alloc _) ⟨W9.heap.size, 0, none⟩ 1 1 [Value.slice Ax r.length cx] rfl rfl (cell_one_new _ _ _) (by simp [Value.oneCell']) h63.out hby.out (hsz.out _) ?_; intro v' w1 ho hg hb; obtain ⟨b', c', rfl⟩ := own_some ho; have HP := Aside0.mk (HLW.out.push HXR.out ho hg hb HU.out); have hbk := (((HLW.out.box.alloc _).kept hg HLW.out.notOwn)); have hc1 := hbk.cell; have hf1 := hbk.frozen; have hc01 := ((HX0.out.1.alloc _).kept hg (fun e => HOB.out.1 e.symm)).cell; clear ho hg hb hbk)
    all_goals
      have HP1 := HP.out.1
      rw [← RS.out] at HP1
      have hmL : ((pre ++ [((.slice Ax r.length cx : Value), r)]).length : Int) = ((rowsOf pre).length : Int) + 1 := by rw [HLP.out]; simp
      first
        | exact ⟨HP.out.2.1, ⟨_, _, HP1, Nat.le_trans HN.out HP.out.2.1.size⟩, HX0.out.kept HP.out.2.2 HOB.out, PUN.out hm⟩
        | exact ⟨HP.out.2.1.mono (fun b _ h => .inr h), ⟨_, _, HP1, Nat.le_trans HN.out HP.out.2.1.size⟩, rfl, hmL.trans hm⟩
  case done =>
    rintro D ys U W hS ⟨⟨v, cs, hL, hnA⟩, _, hPU⟩ hK hUD hD
    have hc := hL.box.cell
    have hS : Merged flat (rowsOf ys) := hS
    have hPU : ∀ k : Nat, 1 ≤ k → k ≤ ys.length → (k : Int) ≠ most := hPU
    have hl : (rowsOf ys).length = flat.length := hS.1.length_eq
    have hlp : (rowsOf ys).length = ys.length := by simp [rowsOf]
    have HL2 := Aside0.mk (hL.abid (V := U) ((Keeps.putObj W D (.deferred none)).mono (fun b _ hb e => hb (by rw [e]; exact hUD))) (fun b hb => .inl hb) hnA)
    have HSY := Aside0.mk (show Merged (ps.flatMap look) (rowsOf ys) ∧ ∀ k : Nat, 1 ≤ k → k ≤ (rowsOf ys).length → (k : Int) ≠ most from ⟨by rw [HFL.out]; exact hS, by rw [hlp]; exact hPU⟩)
    have HK := Aside0.mk hK
    have RO := Aside0.mk (SlAt.of_own0 (E := RowAt) (ok := (w.heap.size ≤ ·)) (xs := rowsOf ys) HL2.out.own rfl (fun b _ hb => hb) (by omega) (fun j hj u hu => reads_row.mono (HL2.out.el j hj u hu) (fun b hb _ => hb.1)))
    clear hL hS hK hPU hlp hl
    gi_wp2
    refine ⟨by simp, .inl ⟨_, _, rfl, run_takeDeferred HK.out, ?_⟩⟩
    exact ⟨_, results_tmp rfl _ _ _, v, rowsOf ys, rfl, RO.out, HL2.out.below, .inl HSY.out⟩
  case stop =>
    rintro D c ys U W hSp ⟨⟨v, cs, hL, hnA⟩, hPU⟩ hK hUD hD
    have hPU2 : c = .exit 0 ∧ (ys.length : Int) = most := hPU
    obtain ⟨rfl, hPU3⟩ := hPU2
    have hSp : ys.length ≤ flat.length := hSp
    have hc := hL.box.cell
    have hlp : (rowsOf ys).length = ys.length := by simp [rowsOf]
    have HL2 := Aside0.mk (hL.abid (V := U) ((Keeps.putObj W D (.deferred none)).mono (fun b _ hb e => hb (by rw [e]; exact hUD))) (fun b hb => .inl hb) hnA)
    have HSY := Aside0.mk (show ((rowsOf ys).length : Int) = most ∧ (rowsOf ys).length ≤ (ps.flatMap look).length from ⟨by rw [hlp]; exact hPU3, by rw [HFL.out, hlp]; exact hSp⟩)
    have HK := Aside0.mk hK
    have RO := Aside0.mk (SlAt.of_own0 (E := RowAt) (ok := (w.heap.size ≤ ·)) (xs := rowsOf ys) HL2.out.own rfl (fun b _ hb => hb) (by omega) (fun j hj u hu => reads_row.mono (HL2.out.el j hj u hu) (fun b hb _ => hb.1)))
    clear hL hK hPU hPU3 hlp hSp
    gi_wp2
    refine ⟨by simp, .inl ⟨_, _, rfl, run_takeDeferred HK.out, ?_⟩⟩
    exact ⟨_, results_tmp rfl _ _ _, v, rowsOf ys, rfl, RO.out, HL2.out.below, .inr HSY.out⟩
end Go.Proofs.Ytcaonlddhbgnjaa.Mg
