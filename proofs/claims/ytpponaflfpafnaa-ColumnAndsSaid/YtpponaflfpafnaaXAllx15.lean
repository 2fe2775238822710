-- Written for this claim by a program of this session (around the kit's print).
import Derived.Test.YtpponaflfpafnaaXAllx0
import Derived.Test.YtpponaflfpafnaaXAllx3
import Derived.Test.YtpponaflfpafnaaXAllx5
import Derived.Test.YtpponaflfpafnaaXAllx6
import Derived.Test.YtpponaflfpafnaaXAllx14
namespace Go.Proofs.Ytpponaflfpafnaa.XAll
open Go.RowKit Go.Proofs.YtpponaflfpafnaaW.PrintWords Go.Proofs.YtpponaflfpafnaaW.PrintLast Go.Proofs.YtpponaflfpafnaaW.PrintMore
attribute [local go_sem] max2_int min2_int max_two min_two max_three min_three max_four min_four   -- for this text's walks alone
set_option linter.unusedVariables false
set_option linter.unusedSimpArgs false

/-! ### ergolaw03_ColumnAnds: function 7 -/
mutual
def ergolaw03_ColumnAnds.l0 : Nat → Int → Int → List Int → Int → Int → List Int → Int → Int → Int → Option (Bool)
  | 0, _, _, _, _, _, _, _, _, _ => none
  | k + 1, x0, x1, x2, x3, x4, x11, x12, x37, x38 => if x38 < x37 then (if 0 ≤ x38 then (if x38 < (x2.length : Int) then ((ergolaw03_Holds.f x0 (rd x2 x38) x3).bind fun t234 => (if t234 = true then ((ergolaw03_Holds.f x1 (rd x2 x38) x4).bind fun t236 => (ergolaw03_ColumnAnds.j1 k x0 x1 x2 x3 x4 x11 x12 x38 x37 x38 (!t236))) else (ergolaw03_ColumnAnds.j1 k x0 x1 x2 x3 x4 x11 x12 x38 x37 x38 true))) else (none)) else (none)) else (if x12 = (x11.length : Int) then ((column_And.f k ([] : List Int) x11).bind fun t230 => (some ((t230.length : Int) == 0))) else (some false))
def ergolaw03_ColumnAnds.j1 : Nat → Int → Int → List Int → Int → Int → List Int → Int → Int → Int → Int → Bool → Option (Bool)
  | 0, _, _, _, _, _, _, _, _, _, _, _ => none
  | k + 1, x0, x1, x2, x3, x4, x11, x12, x13, x37, x38, x58 => if x58 = true then (ergolaw03_ColumnAnds.l0 k x0 x1 x2 x3 x4 x11 x12 x37 (wrap64 (x38 + 1))) else (if x12 ≥ (x11.length : Int) then (some false) else (if 0 ≤ x12 then (if x12 < (x11.length : Int) then (if (rd x11 x12) = x13 then (ergolaw03_ColumnAnds.l0 k x0 x1 x2 x3 x4 x11 (wrap64 (x12 + 1)) x37 (wrap64 (x38 + 1))) else (some false)) else (none)) else (none)))
end
def ergolaw03_ColumnAnds.f (k : Nat) (a0 : Int) (a1 : Int) (l2 : List Int) (a3 : Int) (a4 : Int) : Option (Bool) := (ergolaw03_head.f k).bind fun t220 => (if t220 = true then (if (l2.length : Int) > 200 then (some true) else ((column_Where.f k (wrap64 (Int.tmod (IntKind.u64.wrap (a0)) 6)) l2 a3).bind fun t221 => ((column_Where.f k (wrap64 (Int.tmod (IntKind.u64.wrap (a1)) 6)) l2 a4).bind fun t224 => ((column_And.f k t221 t224).bind fun t227 => (ergolaw03_ColumnAnds.l0 k (wrap64 (Int.tmod (IntKind.u64.wrap (a0)) 6)) (wrap64 (Int.tmod (IntKind.u64.wrap (a1)) 6)) l2 a3 a4 t227 0 (l2.length : Int) 0))))) else (some false))
theorem ergolaw03_ColumnAnds.mono_l : ∀ k, (∀ y0 y1 y2 y3 y4 y5 y6 y7 y8, LeO (ergolaw03_ColumnAnds.l0 k y0 y1 y2 y3 y4 y5 y6 y7 y8) (ergolaw03_ColumnAnds.l0 (k + 1) y0 y1 y2 y3 y4 y5 y6 y7 y8)) ∧ (∀ y0 y1 y2 y3 y4 y5 y6 y7 y8 y9 y10, LeO (ergolaw03_ColumnAnds.j1 k y0 y1 y2 y3 y4 y5 y6 y7 y8 y9 y10) (ergolaw03_ColumnAnds.j1 (k + 1) y0 y1 y2 y3 y4 y5 y6 y7 y8 y9 y10))
  | 0 => ⟨fun _ _ _ _ _ _ _ _ _ r h => by simp [ergolaw03_ColumnAnds.l0] at h, fun _ _ _ _ _ _ _ _ _ _ _ r h => by simp [ergolaw03_ColumnAnds.j1] at h⟩
  | k + 1 => by
    obtain ⟨ih0, ih1⟩ := ergolaw03_ColumnAnds.mono_l k
    refine ⟨?_, ?_⟩
    · intro y0 y1 y2 y3 y4 y5 y6 y7 y8
      unfold ergolaw03_ColumnAnds.l0
      repeat' first
      | (with_reducible exact ih0 _ _ _ _ _ _ _ _ _)
      | (with_reducible exact ih1 _ _ _ _ _ _ _ _ _ _ _)
      | (with_reducible exact column_And.mono _ _ _)
      | (with_reducible exact column_Where.mono _ _ _ _)
      | (with_reducible exact ergolaw03_head.mono _)
      | (with_reducible exact LeO.refl _)
      | (with_reducible exact LeO.none _)
      | (with_reducible refine LeO.ite ?_ ?_)
      | (with_reducible refine LeO.bind ?_ (fun _ => ?_))
      | exact ih0 _ _ _ _ _ _ _ _ _
      | exact ih1 _ _ _ _ _ _ _ _ _ _ _
      | exact column_And.mono _ _ _
      | exact column_Where.mono _ _ _ _
      | exact ergolaw03_head.mono _
      | exact LeO.none _
      | refine LeO.ite ?_ ?_
      | refine LeO.bind ?_ (fun _ => ?_)
    · intro y0 y1 y2 y3 y4 y5 y6 y7 y8 y9 y10
      unfold ergolaw03_ColumnAnds.j1
      repeat' first
      | (with_reducible exact ih0 _ _ _ _ _ _ _ _ _)
      | (with_reducible exact ih1 _ _ _ _ _ _ _ _ _ _ _)
      | (with_reducible exact column_And.mono _ _ _)
      | (with_reducible exact column_Where.mono _ _ _ _)
      | (with_reducible exact ergolaw03_head.mono _)
      | (with_reducible exact LeO.refl _)
      | (with_reducible exact LeO.none _)
      | (with_reducible refine LeO.ite ?_ ?_)
      | (with_reducible refine LeO.bind ?_ (fun _ => ?_))
      | exact ih0 _ _ _ _ _ _ _ _ _
      | exact ih1 _ _ _ _ _ _ _ _ _ _ _
      | exact column_And.mono _ _ _
      | exact column_Where.mono _ _ _ _
      | exact ergolaw03_head.mono _
      | exact LeO.none _
      | refine LeO.ite ?_ ?_
      | refine LeO.bind ?_ (fun _ => ?_)
theorem ergolaw03_ColumnAnds.mono : ∀ a0 a1 a2 a3 a4 k, LeO (ergolaw03_ColumnAnds.f k a0 a1 a2 a3 a4) (ergolaw03_ColumnAnds.f (k + 1) a0 a1 a2 a3 a4) := by
  intro a0 a1 a2 a3 a4 k
  obtain ⟨ih0, ih1⟩ := ergolaw03_ColumnAnds.mono_l k
  unfold ergolaw03_ColumnAnds.f
  repeat' first
      | (with_reducible exact ih0 _ _ _ _ _ _ _ _ _)
      | (with_reducible exact ih1 _ _ _ _ _ _ _ _ _ _ _)
      | (with_reducible exact column_And.mono _ _ _)
      | (with_reducible exact column_Where.mono _ _ _ _)
      | (with_reducible exact ergolaw03_head.mono _)
      | (with_reducible exact LeO.refl _)
      | (with_reducible exact LeO.none _)
      | (with_reducible refine LeO.ite ?_ ?_)
      | (with_reducible refine LeO.bind ?_ (fun _ => ?_))
      | exact ih0 _ _ _ _ _ _ _ _ _
      | exact ih1 _ _ _ _ _ _ _ _ _ _ _
      | exact column_And.mono _ _ _
      | exact column_Where.mono _ _ _ _
      | exact ergolaw03_head.mono _
      | exact LeO.none _
      | refine LeO.ite ?_ ?_
      | refine LeO.bind ?_ (fun _ => ?_)
set_option maxHeartbeats 8000000 in
set_option maxRecDepth 100000 in
theorem ergolaw03_ColumnAnds.calls (k : Nat) (a0 : Int) (a1 : Int) (A2 : Option Addr) (c2 : Nat) (l2 : List Int) (a3 : Int) (a4 : Int) (r : Bool) (w : World) (hr2 : Kd.C (Kd.int .i64) w A2 l2.length l2) (hc2 : l2.length ≤ c2) (h : ergolaw03_ColumnAnds.f k a0 a1 l2 a3 a4 = some r) :
    Calls Try.prog 7 #[.int .i64 a0, .int .i64 a1, .slice A2 l2.length c2, .int .i64 a3, .int .i64 a4] w fun e w' => e = .returned (.bool r) ∧ Below w.heap.size w w' := by
  have HR2 := Aside0.mk hr2
  have HC2 := Aside0.mk hc2
  clear hr2 hc2
  have HB := Aside0.mk (Below.refl w.heap.size w)
  have H : ((ergolaw03_head.f k).bind fun t220 => (if t220 = true then (if (l2.length : Int) > 200 then (some true) else ((column_Where.f k (wrap64 (Int.tmod (IntKind.u64.wrap (a0)) 6)) l2 a3).bind fun t221 => ((column_Where.f k (wrap64 (Int.tmod (IntKind.u64.wrap (a1)) 6)) l2 a4).bind fun t224 => ((column_And.f k t221 t224).bind fun t227 => (ergolaw03_ColumnAnds.l0 k (wrap64 (Int.tmod (IntKind.u64.wrap (a0)) 6)) (wrap64 (Int.tmod (IntKind.u64.wrap (a1)) 6)) l2 a3 a4 t227 0 (l2.length : Int) 0))))) else (some false))) = some r := h
  clear h
  replace H := Option.bind_eq_some_iff.mp H
  obtain ⟨t220, A60, H⟩ := H
  replace H : (if t220 = true then (if (l2.length : Int) > 200 then (some true) else ((column_Where.f k (wrap64 (Int.tmod (IntKind.u64.wrap (a0)) 6)) l2 a3).bind fun t221 => ((column_Where.f k (wrap64 (Int.tmod (IntKind.u64.wrap (a1)) 6)) l2 a4).bind fun t224 => ((column_And.f k t221 t224).bind fun t227 => (ergolaw03_ColumnAnds.l0 k (wrap64 (Int.tmod (IntKind.u64.wrap (a0)) 6)) (wrap64 (Int.tmod (IntKind.u64.wrap (a1)) 6)) l2 a3 a4 t227 0 (l2.length : Int) 0))))) else (some false)) = some r := H
  have A6 := Aside0.mk A60
  clear A60
  by_cases c7 : t220 = true
  · subst c7
    have H1 : (if (l2.length : Int) > 200 then (some true) else ((column_Where.f k (wrap64 (Int.tmod (IntKind.u64.wrap (a0)) 6)) l2 a3).bind fun t221 => ((column_Where.f k (wrap64 (Int.tmod (IntKind.u64.wrap (a1)) 6)) l2 a4).bind fun t224 => ((column_And.f k t221 t224).bind fun t227 => (ergolaw03_ColumnAnds.l0 k (wrap64 (Int.tmod (IntKind.u64.wrap (a0)) 6)) (wrap64 (Int.tmod (IntKind.u64.wrap (a1)) 6)) l2 a3 a4 t227 0 (l2.length : Int) 0))))) = some r := by rw [if_pos rfl] at H; exact H
    clear H
    have H := H1
    clear H1
    by_cases c8 : (l2.length : Int) > 200
    · rw [if_pos c8] at H
      have c8b0 : decide (200 < (l2.length : Int)) = true := decide_eq_true c8
      have c8b1 : decide (200 < l2.length) = true := decide_eq_true (by omega)
      clear c8
      obtain rfl := Option.some.inj H
      go_enter Try.func7, Try.ntmps7
      go_wp2_with (first | ((with_reducible refine gate_callee (f := 10) rfl ?_); refine goesL_ (some 14) rfl rfl Try.func10 (by kernel_rfl) rfl #[] rfl (by (try simp only [List.map_toArray, List.map_cons, List.map_nil]); first | done | rfl | (simp only [List.length_drop, List.length_take]; rfl)) ?_; (with_reducible refine (ergolaw03_head.calls k  true _ A6.out).mono ?_); rintro e w9 ⟨rfl, hb⟩; refine ⟨_, rfl, ?_⟩; have n0_ := Aside0.mk (below_step (by repeat (first | (with_reducible first | exact HB.out | apply below_alloc | apply pw_below_drewN | apply below_drew1) | exact HB.out)) hb); clear HB; have HB := n0_; clear n0_; (try clear hb); (try clear hb2); (try clear hk); (try clear hi)))
      go_ret
      exact ⟨by first | rfl | (simp [errW_none, errW_some] <;> rfl) | (simp [*, errW_none, errW_some] <;> rfl), by repeat (first | (with_reducible first | exact HB.out | apply below_alloc | apply pw_below_drewN | apply below_drew1) | exact HB.out)⟩
    · rw [if_neg c8] at H
      have c8b0 : decide (200 < (l2.length : Int)) = false := decide_eq_false c8
      have c8b1 : decide (200 < l2.length) = false := decide_eq_false (by omega)
      clear c8
      replace H := Option.bind_eq_some_iff.mp H
      obtain ⟨t221, A100, H⟩ := H
      replace H : ((column_Where.f k (wrap64 (Int.tmod (IntKind.u64.wrap (a1)) 6)) l2 a4).bind fun t224 => ((column_And.f k t221 t224).bind fun t227 => (ergolaw03_ColumnAnds.l0 k (wrap64 (Int.tmod (IntKind.u64.wrap (a0)) 6)) (wrap64 (Int.tmod (IntKind.u64.wrap (a1)) 6)) l2 a3 a4 t227 0 (l2.length : Int) 0))) = some r := H
      have A10 := Aside0.mk A100
      clear A100
      replace H := Option.bind_eq_some_iff.mp H
      obtain ⟨t224, A110, H⟩ := H
      replace H : ((column_And.f k t221 t224).bind fun t227 => (ergolaw03_ColumnAnds.l0 k (wrap64 (Int.tmod (IntKind.u64.wrap (a0)) 6)) (wrap64 (Int.tmod (IntKind.u64.wrap (a1)) 6)) l2 a3 a4 t227 0 (l2.length : Int) 0)) = some r := H
      have A11 := Aside0.mk A110
      clear A110
      replace H := Option.bind_eq_some_iff.mp H
      obtain ⟨t227, A120, H⟩ := H
      replace H : (ergolaw03_ColumnAnds.l0 k (wrap64 (Int.tmod (IntKind.u64.wrap (a0)) 6)) (wrap64 (Int.tmod (IntKind.u64.wrap (a1)) 6)) l2 a3 a4 t227 0 (l2.length : Int) 0) = some r := H
      have A12 := Aside0.mk A120
      clear A120
      have H' := Aside0.mk H
      clear H
      go_enter Try.func7, Try.ntmps7
      go_wp2_with (first | ((with_reducible refine gate_callee (f := 10) rfl ?_); refine goesL_ (some 14) rfl rfl Try.func10 (by kernel_rfl) rfl #[] rfl (by (try simp only [List.map_toArray, List.map_cons, List.map_nil]); first | done | rfl | (simp only [List.length_drop, List.length_take]; rfl)) ?_; (with_reducible refine (ergolaw03_head.calls k  true _ A6.out).mono ?_); rintro e w13 ⟨rfl, hb⟩; refine ⟨_, rfl, ?_⟩; have n0_ := Aside0.mk (below_step (by repeat (first | (with_reducible first | exact HB.out | apply below_alloc | apply pw_below_drewN | apply below_drew1) | exact HB.out)) hb); clear HB; have HB := n0_; clear n0_; (try clear hb); (try clear hb2); (try clear hk); (try clear hi)) | ((with_reducible refine gate_callee (f := 13) rfl ?_); refine goesL_ (some 30) rfl rfl Try.func13 (by kernel_rfl) rfl #[.int .i64 (wrap64 (Int.tmod (IntKind.u64.wrap (a0)) 6)), .slice A2 l2.length c2, .int .i64 a3] rfl (by (try simp only [List.map_toArray, List.map_cons, List.map_nil]); first | done | rfl | (simp only [List.length_drop, List.length_take]; rfl)) ?_; (with_reducible refine (column_Where.calls k (wrap64 (Int.tmod (IntKind.u64.wrap (a0)) 6)) _ _ l2 a3 t221 _ ?side1 ?side2 A10.out).mono ?_); (case side1 => repeat (first | exact (Kd.C_below HR2.out HB.out) | (with_reducible refine Kd.C_alloc ?_ _) | (with_reducible refine Kd.C_drewN ?_ _) | (with_reducible refine Kd.C_drew ?_))); (case side2 => exact HC2.out); rintro e w14 ⟨v222, rfl, ho0, hb⟩; refine ⟨_, rfl, ?_⟩; have n0_ := Aside0.mk (Kd.R_lower ho0 (below_size (by repeat (first | (with_reducible first | exact HB.out | apply below_alloc | apply pw_below_drewN | apply below_drew1) | exact HB.out)))); have n1_ := Aside0.mk (below_step (by repeat (first | (with_reducible first | exact HB.out | apply below_alloc | apply pw_below_drewN | apply below_drew1) | exact HB.out)) hb); clear HB; have HO223 := n0_; have HB := n1_; clear n0_ n1_; (try clear hb); (try clear hb2); (try clear hk); (try clear hi); (try clear ho0)) | ((with_reducible refine gate_callee (f := 13) rfl ?_); refine goesL_ (some 34) rfl rfl Try.func13 (by kernel_rfl) rfl #[.int .i64 (wrap64 (Int.tmod (IntKind.u64.wrap (a1)) 6)), .slice A2 l2.length c2, .int .i64 a4] rfl (by (try simp only [List.map_toArray, List.map_cons, List.map_nil]); first | done | rfl | (simp only [List.length_drop, List.length_take]; rfl)) ?_; (with_reducible refine (column_Where.calls k (wrap64 (Int.tmod (IntKind.u64.wrap (a1)) 6)) _ _ l2 a4 t224 _ ?side1 ?side2 A11.out).mono ?_); (case side1 => repeat (first | exact (Kd.C_below HR2.out HB.out) | (with_reducible refine Kd.C_alloc ?_ _) | (with_reducible refine Kd.C_drewN ?_ _) | (with_reducible refine Kd.C_drew ?_))); (case side2 => exact HC2.out); rintro e w15 ⟨v225, rfl, ho0, hb⟩; refine ⟨_, rfl, ?_⟩; have n0_ := Aside0.mk (Kd.R_elder' (by (with_reducible repeat (first | apply Kd.R_alloc | apply Kd.R_drewN | apply Kd.R_drew)); exact HO223.out) (Kd.R_base ho0) hb); have n1_ := Aside0.mk (Kd.R_lower (Kd.R_new' ho0 (Kd.R_lt (by (with_reducible repeat (first | apply Kd.R_alloc | apply Kd.R_drewN | apply Kd.R_drew)); exact HO223.out))) (below_size (by repeat (first | (with_reducible first | exact HB.out | apply below_alloc | apply pw_below_drewN | apply below_drew1) | exact HB.out)))); have n2_ := Aside0.mk (below_step (by repeat (first | (with_reducible first | exact HB.out | apply below_alloc | apply pw_below_drewN | apply below_drew1) | exact HB.out)) hb); clear HO223; clear HB; have HO223 := n0_; have HO226 := n1_; have HB := n2_; clear n0_ n1_ n2_; (try clear hb); (try clear hb2); (try clear hk); (try clear hi); (try clear ho0); obtain ⟨Ao16, co16, eo16⟩ := Kd.R_slice HO223.out; subst eo16; obtain ⟨Ao17, co17, eo17⟩ := Kd.R_slice HO226.out; subst eo17) | ((with_reducible refine gate_callee (f := 18) rfl ?_); refine goesL_ (some 35) rfl rfl Try.func18 (by kernel_rfl) rfl #[.slice Ao16 t221.length co16, .slice Ao17 t224.length co17] rfl (by (try simp only [List.map_toArray, List.map_cons, List.map_nil]); first | done | rfl | (simp only [List.length_drop, List.length_take]; rfl)) ?_; (with_reducible refine (column_And.calls k _ _ t221 _ _ t224 t227 _ ?side1 ?side2 ?side3 ?side4 A12.out).mono ?_); (case side1 => repeat (first | exact (Kd.R_reads' HO223.out).2.2 | (with_reducible refine Kd.C_alloc ?_ _) | (with_reducible refine Kd.C_drewN ?_ _) | (with_reducible refine Kd.C_drew ?_))); (case side2 => exact (Kd.R_reads' HO223.out).2.1); (case side3 => repeat (first | exact (Kd.R_reads' HO226.out).2.2 | (with_reducible refine Kd.C_alloc ?_ _) | (with_reducible refine Kd.C_drewN ?_ _) | (with_reducible refine Kd.C_drew ?_))); (case side4 => exact (Kd.R_reads' HO226.out).2.1); rintro e w18 ⟨v228, rfl, ho0, hb⟩; refine ⟨_, rfl, ?_⟩; have n0_ := Aside0.mk (Kd.R_elder' (by (with_reducible repeat (first | apply Kd.R_alloc | apply Kd.R_drewN | apply Kd.R_drew)); exact HO223.out) (Kd.R_base ho0) hb); have n1_ := Aside0.mk (Kd.R_elder' (by (with_reducible repeat (first | apply Kd.R_alloc | apply Kd.R_drewN | apply Kd.R_drew)); exact HO226.out) (Kd.R_base ho0) hb); have n2_ := Aside0.mk (Kd.R_lower (Kd.R_new' (Kd.R_new' ho0 (Kd.R_lt (by (with_reducible repeat (first | apply Kd.R_alloc | apply Kd.R_drewN | apply Kd.R_drew)); exact HO223.out))) (Kd.R_lt (by (with_reducible repeat (first | apply Kd.R_alloc | apply Kd.R_drewN | apply Kd.R_drew)); exact HO226.out))) (below_size (by repeat (first | (with_reducible first | exact HB.out | apply below_alloc | apply pw_below_drewN | apply below_drew1) | exact HB.out)))); have n3_ := Aside0.mk (below_step (by repeat (first | (with_reducible first | exact HB.out | apply below_alloc | apply pw_below_drewN | apply below_drew1) | exact HB.out)) hb); clear HO223; clear HO226; clear HB; have HO223 := n0_; have HO226 := n1_; have HO229 := n2_; have HB := n3_; clear n0_ n1_ n2_ n3_; (try clear hb); (try clear hb2); (try clear hk); (try clear hi); (try clear ho0)))
      go_loopg [12, 38] k (fun kq v12 v38 w' => ∃ (x12_1 : Int) (x38_1 : Int), v12 = .int .i64 x12_1 ∧ v38 = .int .i64 x38_1 ∧ Aside0 (ergolaw03_ColumnAnds.l0 kq (wrap64 (Int.tmod (IntKind.u64.wrap (a0)) 6)) (wrap64 (Int.tmod (IntKind.u64.wrap (a1)) 6)) l2 a3 a4 t227 x12_1 (l2.length : Int) x38_1 = some r) ∧ Aside0 (kq ≤ k) ∧ Aside0 (Kd.R (Kd.int .i64) 3 w' w.heap.size (fun _ => True) v228 t227) ∧ Aside0 (Below w.heap.size w w'))
      case atStart => exact ⟨(0), (0), (by first | rfl | (simp; done) | (simp [*]; done)), (by first | rfl | (simp; done) | (simp [*]; done)), H', ⟨Nat.le_refl _⟩, ⟨by (with_reducible repeat (first | apply Kd.R_alloc | apply Kd.R_drewN | apply Kd.R_drew)); exact Kd.R_mono HO229.out (fun _ hk => trivial)⟩, ⟨by repeat (first | (with_reducible first | exact HB.out | apply below_alloc | apply pw_below_drewN | apply below_drew1) | exact HB.out)⟩⟩
      case round =>
        clear H'
        try clear c1
        try clear c2
        try clear p2
        try clear p6
        try clear c7
        try clear c8
        try clear c8b0
        try clear c8b1
        try clear c10
        try clear c13
        try clear c18
        obtain ⟨x12_1, x38_1, rfl, rfl, HA, HK1, HO_11, HB⟩ := hrel
        cases gk with
        | zero => exact absurd HA.out (by simp [ergolaw03_ColumnAnds.l0])
        | succ k1 =>
          have H := HA.out
          clear HA
          simp only [ergolaw03_ColumnAnds.l0] at H
          by_cases c19 : x38_1 < (l2.length : Int)
          · rw [if_pos c19] at H
            have c19b0 : decide (x38_1 < (l2.length : Int)) = true := decide_eq_true c19
            clear c19
            have HC20 := Aside0.mk H
            clear H
            go_upto_region 12 with (fail)
            go_cut [58] (fun v58 wc => ∃ (kq : Nat) (x58_19 : Bool), v58 = .bool x58_19 ∧ Aside0 (ergolaw03_ColumnAnds.j1 kq (wrap64 (Int.tmod (IntKind.u64.wrap (a0)) 6)) (wrap64 (Int.tmod (IntKind.u64.wrap (a1)) 6)) l2 a3 a4 t227 x12_1 x38_1 (l2.length : Int) x38_1 x58_19 = some r) ∧ Aside0 (kq ≤ k1) ∧ Aside0 (Kd.R (Kd.int .i64) 3 wc w.heap.size (fun _ => True) v228 t227) ∧ Aside0 (Below w.heap.size w wc))
            case first =>
              have H := HC20.out
              clear HC20
              by_cases c21 : 0 ≤ x38_1
              · rw [if_pos c21] at H
                have c21b0 : decide (0 ≤ x38_1) = true := decide_eq_true c21
                clear c21
                (first | rw [c21b0] | (simp only [i64_w, i32_w]; rw [c21b0]) | skip)
                by_cases c22 : x38_1 < (l2.length : Int)
                · rw [if_pos c22] at H
                  have c22b0 : decide (x38_1 < (l2.length : Int)) = true := decide_eq_true c22
                  clear c22
                  replace H := Option.bind_eq_some_iff.mp H
                  obtain ⟨t234, A230, H⟩ := H
                  replace H : (if t234 = true then ((ergolaw03_Holds.f (wrap64 (Int.tmod (IntKind.u64.wrap (a1)) 6)) (rd l2 x38_1) a4).bind fun t236 => (ergolaw03_ColumnAnds.j1 k1 (wrap64 (Int.tmod (IntKind.u64.wrap (a0)) 6)) (wrap64 (Int.tmod (IntKind.u64.wrap (a1)) 6)) l2 a3 a4 t227 x12_1 x38_1 (l2.length : Int) x38_1 (!t236))) else (ergolaw03_ColumnAnds.j1 k1 (wrap64 (Int.tmod (IntKind.u64.wrap (a0)) 6)) (wrap64 (Int.tmod (IntKind.u64.wrap (a1)) 6)) l2 a3 a4 t227 x12_1 x38_1 (l2.length : Int) x38_1 true)) = some r := H
                  have A23 := Aside0.mk A230
                  clear A230
                  by_cases c24 : t234 = true
                  · subst c24
                    have H1 : ((ergolaw03_Holds.f (wrap64 (Int.tmod (IntKind.u64.wrap (a1)) 6)) (rd l2 x38_1) a4).bind fun t236 => (ergolaw03_ColumnAnds.j1 k1 (wrap64 (Int.tmod (IntKind.u64.wrap (a0)) 6)) (wrap64 (Int.tmod (IntKind.u64.wrap (a1)) 6)) l2 a3 a4 t227 x12_1 x38_1 (l2.length : Int) x38_1 (!t236))) = some r := by rw [if_pos rfl] at H; exact H
                    clear H
                    have H := H1
                    clear H1
                    replace H := Option.bind_eq_some_iff.mp H
                    obtain ⟨t236, A250, H⟩ := H
                    replace H : (ergolaw03_ColumnAnds.j1 k1 (wrap64 (Int.tmod (IntKind.u64.wrap (a0)) 6)) (wrap64 (Int.tmod (IntKind.u64.wrap (a1)) 6)) l2 a3 a4 t227 x12_1 x38_1 (l2.length : Int) x38_1 (!t236)) = some r := H
                    have A25 := Aside0.mk A250
                    clear A250
                    have H' := Aside0.mk H
                    clear H
                    have p233 : 0 ≤ (x38_1 : Int) := of_decide_eq_true (by first | (with_reducible assumption) | assumption)
                    have q233 : x38_1 < (l2.length : Int) := of_decide_eq_true (by first | (with_reducible assumption) | assumption)
                    obtain ⟨ad233, e233, hx233_0⟩ := Kd.at_int HR2.out x38_1 p233 q233
                    cases e233
                    replace hx233_0 := (HB.out.cell (World.block_lt_of_cell? w _ hx233_0)).trans hx233_0
                    replace p233 := eq_true p233
                    replace q233 := eq_true q233
                    go_wp2_with (first | ((with_reducible refine gate_callee (f := 14) rfl ?_); refine goesL_ (some 47) rfl rfl Try.func14 (by kernel_rfl) rfl #[.int .i64 (wrap64 (Int.tmod (IntKind.u64.wrap (a0)) 6)), .int .i64 (rd l2 x38_1), .int .i64 a3] rfl (by (try simp only [List.map_toArray, List.map_cons, List.map_nil]); first | done | rfl | (simp only [List.length_drop, List.length_take]; rfl)) ?_; (with_reducible refine (ergolaw03_Holds.calls (wrap64 (Int.tmod (IntKind.u64.wrap (a0)) 6)) (rd l2 x38_1) a3 true _ A23.out).mono ?_); rintro e w26 ⟨rfl, hb⟩; refine ⟨_, rfl, ?_⟩; have n0_ := Aside0.mk (Kd.R_below (by (with_reducible repeat (first | apply Kd.R_alloc | apply Kd.R_drewN | apply Kd.R_drew)); exact HO_11.out) hb); have n1_ := Aside0.mk (below_step (by repeat (first | (with_reducible first | exact HB.out | apply below_alloc | apply pw_below_drewN | apply below_drew1) | exact HB.out)) hb); clear HO_11; clear HB; have HO_11 := n0_; have HB := n1_; clear n0_ n1_; (try clear hb); (try clear hb2); (try clear hk); (try clear hi); have p235 : 0 ≤ (x38_1 : Int) := of_decide_eq_true (by first | (with_reducible assumption) | assumption); have q235 : x38_1 < (l2.length : Int) := of_decide_eq_true (by first | (with_reducible assumption) | assumption); obtain ⟨ad235, e235, hx235_0⟩ := Kd.at_int HR2.out x38_1 p235 q235; obtain rfl : ad233 = ad235 := (by injection e235); replace hx235_0 := (HB.out.cell (World.block_lt_of_cell? w _ hx235_0)).trans hx235_0; replace p235 := eq_true p235; replace q235 := eq_true q235) | (go_at_call 14; (with_reducible refine (ergolaw03_Holds.calls (wrap64 (Int.tmod (IntKind.u64.wrap (a1)) 6)) (rd l2 x38_1) a4 t236 _ A25.out).mono ?_); rintro e w27 ⟨rfl, hb⟩; have n0_ := Aside0.mk (Kd.R_below (by (with_reducible repeat (first | apply Kd.R_alloc | apply Kd.R_drewN | apply Kd.R_drew)); exact HO_11.out) hb); have n1_ := Aside0.mk (below_step (by repeat (first | (with_reducible first | exact HB.out | apply below_alloc | apply pw_below_drewN | apply below_drew1) | exact HB.out)) hb); clear HO_11; clear HB; have HO_11 := n0_; have HB := n1_; clear n0_ n1_; (try clear hb); (try clear hb2); (try clear hk); (try clear hi)))
                    go_meet
                    case rel => exact ⟨_, (!t236), (by first | rfl | (simp; done) | (simp [*]; done)), H', ⟨by have := HK1.out; first | omega | exact Nat.le_refl _⟩, ⟨by (with_reducible repeat (first | apply Kd.R_alloc | apply Kd.R_drewN | apply Kd.R_drew)); exact HO_11.out⟩, ⟨by repeat (first | (with_reducible first | exact HB.out | apply below_alloc | apply pw_below_drewN | apply below_drew1) | exact HB.out)⟩⟩
                  · replace c24 := Bool.eq_false_iff.mpr c24
                    subst c24
                    have H1 : (ergolaw03_ColumnAnds.j1 k1 (wrap64 (Int.tmod (IntKind.u64.wrap (a0)) 6)) (wrap64 (Int.tmod (IntKind.u64.wrap (a1)) 6)) l2 a3 a4 t227 x12_1 x38_1 (l2.length : Int) x38_1 true) = some r := by rw [if_neg (show ¬ (false = true) by decide)] at H; exact H
                    clear H
                    have H := H1
                    clear H1
                    have H' := Aside0.mk H
                    clear H
                    have p233 : 0 ≤ (x38_1 : Int) := of_decide_eq_true (by first | (with_reducible assumption) | assumption)
                    have q233 : x38_1 < (l2.length : Int) := of_decide_eq_true (by first | (with_reducible assumption) | assumption)
                    obtain ⟨ad233, e233, hx233_0⟩ := Kd.at_int HR2.out x38_1 p233 q233
                    cases e233
                    replace hx233_0 := (HB.out.cell (World.block_lt_of_cell? w _ hx233_0)).trans hx233_0
                    replace p233 := eq_true p233
                    replace q233 := eq_true q233
                    go_wp2_with (first | ((with_reducible refine gate_callee (f := 14) rfl ?_); refine goesL_ (some 47) rfl rfl Try.func14 (by kernel_rfl) rfl #[.int .i64 (wrap64 (Int.tmod (IntKind.u64.wrap (a0)) 6)), .int .i64 (rd l2 x38_1), .int .i64 a3] rfl (by (try simp only [List.map_toArray, List.map_cons, List.map_nil]); first | done | rfl | (simp only [List.length_drop, List.length_take]; rfl)) ?_; (with_reducible refine (ergolaw03_Holds.calls (wrap64 (Int.tmod (IntKind.u64.wrap (a0)) 6)) (rd l2 x38_1) a3 false _ A23.out).mono ?_); rintro e w28 ⟨rfl, hb⟩; refine ⟨_, rfl, ?_⟩; have n0_ := Aside0.mk (Kd.R_below (by (with_reducible repeat (first | apply Kd.R_alloc | apply Kd.R_drewN | apply Kd.R_drew)); exact HO_11.out) hb); have n1_ := Aside0.mk (below_step (by repeat (first | (with_reducible first | exact HB.out | apply below_alloc | apply pw_below_drewN | apply below_drew1) | exact HB.out)) hb); clear HO_11; clear HB; have HO_11 := n0_; have HB := n1_; clear n0_ n1_; (try clear hb); (try clear hb2); (try clear hk); (try clear hi)))
                    go_meet
                    case rel => exact ⟨_, (true), (by first | rfl | (simp; done) | (simp [*]; done)), H', ⟨by have := HK1.out; first | omega | exact Nat.le_refl _⟩, ⟨by (with_reducible repeat (first | apply Kd.R_alloc | apply Kd.R_drewN | apply Kd.R_drew)); exact HO_11.out⟩, ⟨by repeat (first | (with_reducible first | exact HB.out | apply below_alloc | apply pw_below_drewN | apply below_drew1) | exact HB.out)⟩⟩
                · rw [if_neg c22] at H
                  exact absurd H (by simp)
              · rw [if_neg c21] at H
                exact absurd H (by simp)
            case rest =>
              clear HC20
              try clear c1
              try clear c2
              try clear p2
              try clear q2
              try clear hx2
              try clear p6
              try clear c7
              try clear c8
              try clear c8b0
              try clear c8b1
              try clear c10
              try clear c13
              try clear c14
              try clear c18
              try clear c19
              try clear c19b0
              try clear c21
              try clear c21b0
              try clear c22
              try clear c22b0
              try clear p23
              try clear q23
              try clear hx23
              try clear c24
              try clear hx233_0
              try clear hx235_0
              try clear p2
              try clear p233
              try clear p235
              try clear p6
              try clear q233
              try clear q235
              obtain ⟨kq, x58_19, rfl, HA, HJ19, HO_11, HB⟩ := hcut
              cases kq with
              | zero => exact absurd HA.out (by simp [ergolaw03_ColumnAnds.j1])
              | succ kj19 =>
                have H := HA.out
                clear HA
                simp only [ergolaw03_ColumnAnds.j1] at H
                by_cases c29 : x58_19 = true
                · subst c29
                  have H1 : (ergolaw03_ColumnAnds.l0 kj19 (wrap64 (Int.tmod (IntKind.u64.wrap (a0)) 6)) (wrap64 (Int.tmod (IntKind.u64.wrap (a1)) 6)) l2 a3 a4 t227 x12_1 (l2.length : Int) (wrap64 (x38_1 + 1))) = some r := by rw [if_pos rfl] at H; exact H
                  clear H
                  have H := H1
                  clear H1
                  have H' := Aside0.mk H
                  clear H
                  go_wp2
                  go_roundg kj19
                  case measure => have := HK1.out; have := HJ19.out; omega
                  case rel => exact ⟨(x12_1), (wrap64 (x38_1 + 1)), (by first | rfl | (simp; done) | (simp [*]; done)), (by first | rfl | (simp; done) | (simp [*]; done)), H', ⟨by have := HK1.out; have := HJ19.out; omega⟩, ⟨by (with_reducible repeat (first | apply Kd.R_alloc | apply Kd.R_drewN | apply Kd.R_drew)); exact HO_11.out⟩, ⟨by repeat (first | (with_reducible first | exact HB.out | apply below_alloc | apply pw_below_drewN | apply below_drew1) | exact HB.out)⟩⟩
                · replace c29 := Bool.eq_false_iff.mpr c29
                  subst c29
                  have H1 : (if x12_1 ≥ (t227.length : Int) then (some false) else (if 0 ≤ x12_1 then (if x12_1 < (t227.length : Int) then (if (rd t227 x12_1) = x38_1 then (ergolaw03_ColumnAnds.l0 kj19 (wrap64 (Int.tmod (IntKind.u64.wrap (a0)) 6)) (wrap64 (Int.tmod (IntKind.u64.wrap (a1)) 6)) l2 a3 a4 t227 (wrap64 (x12_1 + 1)) (l2.length : Int) (wrap64 (x38_1 + 1))) else (some false)) else (none)) else (none))) = some r := by rw [if_neg (show ¬ (false = true) by decide)] at H; exact H
                  clear H
                  have H := H1
                  clear H1
                  by_cases c30 : x12_1 ≥ (t227.length : Int)
                  · rw [if_pos c30] at H
                    have c30b0 : decide ((t227.length : Int) ≤ x12_1) = true := decide_eq_true c30
                    clear c30
                    obtain rfl := Option.some.inj H
                    obtain ⟨Ao31, co31, eo31⟩ := Kd.R_slice HO_11.out
                    subst eo31
                    go_wp2
                    go_ret
                    exact ⟨by first | rfl | (simp [errW_none, errW_some] <;> rfl) | (simp [*, errW_none, errW_some] <;> rfl), by repeat (first | (with_reducible first | exact HB.out | apply below_alloc | apply pw_below_drewN | apply below_drew1) | exact HB.out)⟩
                  · rw [if_neg c30] at H
                    have c30b0 : decide ((t227.length : Int) ≤ x12_1) = false := decide_eq_false c30
                    clear c30
                    by_cases c32 : 0 ≤ x12_1
                    · rw [if_pos c32] at H
                      have c32b0 : decide (0 ≤ x12_1) = true := decide_eq_true c32
                      clear c32
                      by_cases c33 : x12_1 < (t227.length : Int)
                      · rw [if_pos c33] at H
                        have c33b0 : decide (x12_1 < (t227.length : Int)) = true := decide_eq_true c33
                        clear c33
                        by_cases c34 : (rd t227 x12_1) = x38_1
                        · rw [if_pos c34] at H
                          have c34b0 : ((rd t227 x12_1) == x38_1) = true := beq_iff_eq.mpr c34
                          have c34b1 : ((rd t227 x12_1) != x38_1) = false := bne_eq_false_iff_eq.mpr c34
                          clear c34
                          have H' := Aside0.mk H
                          clear H
                          obtain ⟨Ao35, co35, eo35⟩ := Kd.R_slice HO_11.out
                          subst eo35
                          have p237 : 0 ≤ (x12_1 : Int) := of_decide_eq_true (by first | (with_reducible assumption) | assumption)
                          have q237 : x12_1 < (t227.length : Int) := of_decide_eq_true (by first | (with_reducible assumption) | assumption)
                          obtain ⟨ad237, e237, hx237_0⟩ := Kd.at_int (Kd.R_reads' HO_11.out).2.2 x12_1 p237 q237
                          cases e237
                          replace p237 := eq_true p237
                          replace q237 := eq_true q237
                          go_wp2
                          go_roundg kj19
                          case measure => have := HK1.out; have := HJ19.out; omega
                          case rel => exact ⟨(wrap64 (x12_1 + 1)), (wrap64 (x38_1 + 1)), (by first | rfl | (simp; done) | (simp [*]; done)), (by first | rfl | (simp; done) | (simp [*]; done)), H', ⟨by have := HK1.out; have := HJ19.out; omega⟩, ⟨by (with_reducible repeat (first | apply Kd.R_alloc | apply Kd.R_drewN | apply Kd.R_drew)); exact HO_11.out⟩, ⟨by repeat (first | (with_reducible first | exact HB.out | apply below_alloc | apply pw_below_drewN | apply below_drew1) | exact HB.out)⟩⟩
                        · rw [if_neg c34] at H
                          have c34b0 : ((rd t227 x12_1) == x38_1) = false := beq_eq_false_iff_ne.mpr c34
                          have c34b1 : ((rd t227 x12_1) != x38_1) = true := bne_iff_ne.mpr c34
                          obtain rfl := Option.some.inj H
                          obtain ⟨Ao36, co36, eo36⟩ := Kd.R_slice HO_11.out
                          subst eo36
                          have p237 : 0 ≤ (x12_1 : Int) := of_decide_eq_true (by first | (with_reducible assumption) | assumption)
                          have q237 : x12_1 < (t227.length : Int) := of_decide_eq_true (by first | (with_reducible assumption) | assumption)
                          obtain ⟨ad237, e237, hx237_0⟩ := Kd.at_int (Kd.R_reads' HO_11.out).2.2 x12_1 p237 q237
                          cases e237
                          replace p237 := eq_true p237
                          replace q237 := eq_true q237
                          go_wp2
                          go_ret
                          exact ⟨by first | rfl | (simp [errW_none, errW_some] <;> rfl) | (simp [*, errW_none, errW_some] <;> rfl), by repeat (first | (with_reducible first | exact HB.out | apply below_alloc | apply pw_below_drewN | apply below_drew1) | exact HB.out)⟩
                      · rw [if_neg c33] at H
                        exact absurd H (by simp)
                    · rw [if_neg c32] at H
                      exact absurd H (by simp)
          · rw [if_neg c19] at H
            have c19b0 : decide (x38_1 < (l2.length : Int)) = false := decide_eq_false c19
            clear c19
            by_cases c37 : x12_1 = (t227.length : Int)
            · rw [if_pos c37] at H
              have c37b0 : (x12_1 == (t227.length : Int)) = true := beq_iff_eq.mpr c37
              have c37b1 : (x12_1 != (t227.length : Int)) = false := bne_eq_false_iff_eq.mpr c37
              clear c37
              replace H := Option.bind_eq_some_iff.mp H
              obtain ⟨t230, A380, H⟩ := H
              replace H : (some ((t230.length : Int) == 0)) = some r := H
              have A38 := Aside0.mk A380
              clear A380
              obtain rfl := Option.some.inj H
              obtain ⟨Ao39, co39, eo39⟩ := Kd.R_slice HO_11.out
              subst eo39
              go_wp2_with (first | (go_at_call 18; (refine (column_And.calls k1 _ _ ([] : List Int) _ _ t227 t230 _ ?side1 ?side2 ?side3 ?side4 A38.out).mono ?_); (case side1 => exact Kd.C_nil _ _); (case side2 => exact Nat.le_refl _); (case side3 => repeat (first | exact (Kd.R_reads' HO_11.out).2.2 | (with_reducible refine Kd.C_alloc ?_ _) | (with_reducible refine Kd.C_drewN ?_ _) | (with_reducible refine Kd.C_drew ?_))); (case side4 => exact (Kd.R_reads' HO_11.out).2.1); rintro e w40 ⟨v231, rfl, ho0, hb⟩; have n0_ := Aside0.mk (Kd.R_elder' (by (with_reducible repeat (first | apply Kd.R_alloc | apply Kd.R_drewN | apply Kd.R_drew)); exact HO_11.out) (Kd.R_base ho0) hb); have n1_ := Aside0.mk (Kd.R_lower (Kd.R_new' ho0 (Kd.R_lt (by (with_reducible repeat (first | apply Kd.R_alloc | apply Kd.R_drewN | apply Kd.R_drew)); exact HO_11.out))) (below_size (by repeat (first | (with_reducible first | exact HB.out | apply below_alloc | apply pw_below_drewN | apply below_drew1) | exact HB.out)))); have n2_ := Aside0.mk (below_step (by repeat (first | (with_reducible first | exact HB.out | apply below_alloc | apply pw_below_drewN | apply below_drew1) | exact HB.out)) hb); clear HO_11; clear HB; have HO_11 := n0_; have HO232 := n1_; have HB := n2_; clear n0_ n1_ n2_; (try clear hb); (try clear hb2); (try clear hk); (try clear hi); (try clear ho0); obtain ⟨Ao41, co41, eo41⟩ := Kd.R_slice HO232.out; subst eo41))
              go_ret
              exact ⟨by first | rfl | (simp [errW_none, errW_some] <;> rfl) | (simp [*, errW_none, errW_some] <;> rfl), by repeat (first | (with_reducible first | exact HB.out | apply below_alloc | apply pw_below_drewN | apply below_drew1) | exact HB.out)⟩
            · rw [if_neg c37] at H
              have c37b0 : (x12_1 == (t227.length : Int)) = false := beq_eq_false_iff_ne.mpr c37
              have c37b1 : (x12_1 != (t227.length : Int)) = true := bne_iff_ne.mpr c37
              obtain rfl := Option.some.inj H
              obtain ⟨Ao42, co42, eo42⟩ := Kd.R_slice HO_11.out
              subst eo42
              go_wp2
              go_ret
              exact ⟨by first | rfl | (simp [errW_none, errW_some] <;> rfl) | (simp [*, errW_none, errW_some] <;> rfl), by repeat (first | (with_reducible first | exact HB.out | apply below_alloc | apply pw_below_drewN | apply below_drew1) | exact HB.out)⟩
  · replace c7 := Bool.eq_false_iff.mpr c7
    subst c7
    have H1 : (some false) = some r := by rw [if_neg (show ¬ (false = true) by decide)] at H; exact H
    clear H
    have H := H1
    clear H1
    obtain rfl := Option.some.inj H
    go_enter Try.func7, Try.ntmps7
    go_wp2_with (first | ((with_reducible refine gate_callee (f := 10) rfl ?_); refine goesL_ (some 14) rfl rfl Try.func10 (by kernel_rfl) rfl #[] rfl (by (try simp only [List.map_toArray, List.map_cons, List.map_nil]); first | done | rfl | (simp only [List.length_drop, List.length_take]; rfl)) ?_; (with_reducible refine (ergolaw03_head.calls k  false _ A6.out).mono ?_); rintro e w43 ⟨rfl, hb⟩; refine ⟨_, rfl, ?_⟩; have n0_ := Aside0.mk (below_step (by repeat (first | (with_reducible first | exact HB.out | apply below_alloc | apply pw_below_drewN | apply below_drew1) | exact HB.out)) hb); clear HB; have HB := n0_; clear n0_; (try clear hb); (try clear hb2); (try clear hk); (try clear hi)))
    go_ret
    exact ⟨by first | rfl | (simp [errW_none, errW_some] <;> rfl) | (simp [*, errW_none, errW_some] <;> rfl), by repeat (first | (with_reducible first | exact HB.out | apply below_alloc | apply pw_below_drewN | apply below_drew1) | exact HB.out)⟩

/-- THE ONE PURE STATEMENT of ergolaw03_ColumnAnds: yours. -/
def ergolaw03_ColumnAnds.Pure : Prop := ∀ (a0 : Int) (a1 : Int) (l2 : List Int) (a3 : Int) (a4 : Int), (Lit.int .i64 a0).wf = true → (Lit.int .i64 a1).wf = true → l2.length ≤ maxLen → l2.length * 8 ≤ 140737488351232 → (∀ x ∈ l2, (Lit.int .i64 x).wf = true) → (Lit.int .i64 a3).wf = true → (Lit.int .i64 a4).wf = true → ∃ k, ergolaw03_ColumnAnds.f k a0 a1 l2 a3 a4 = some true
theorem ergolaw03_ColumnAnds.walk (P : ergolaw03_ColumnAnds.Pure) (a0 : Int) (a1 : Int) (a2 : Option Addr) (len2 cap2 : Nat) (z2 : List Int) (a3 : Int) (a4 : Int) (w : World) (w0 : (Lit.int .i64 a0).wf = true) (w1 : (Lit.int .i64 a1).wf = true) (w2 : (a2 = none ∧ len2 = 0 ∧ cap2 = 0 ∧ z2 = []) ∨ ∃ x, a2 = some x ∧ len2 ≤ cap2 ∧ cap2 ≤ maxLen ∧ z2.length = cap2 ∧ (∀ i, i < z2.length → w.cell? (x.add i) = some (.int .i64 (z2.getD i 0))) ∧ ∀ n ∈ z2, (Lit.int .i64 n).wf = true) (y2 : len2 * 8 ≤ 140737488351232) (w3 : (Lit.int .i64 a3).wf = true) (w4 : (Lit.int .i64 a4).wf = true) :
    Calls Try.prog 7 #[.int .i64 a0, .int .i64 a1, .slice a2 len2 cap2, .int .i64 a3, .int .i64 a4] w fun e w' => e = .returned (.bool true) ∧ Below w.heap.size w w' := by
  obtain ⟨l2, rfl, hr2, hm2, hw2, hc2⟩ := ReadsInt.ofRowC w2
  obtain ⟨k, h⟩ := P a0 a1 l2 a3 a4 w0 w1 hm2 y2 hw2 w3 w4
  refine (ergolaw03_ColumnAnds.calls k a0 a1 _ _ l2 a3 a4 true w (Kd.C_of_reads (d := (0 : Int)) (h1 := fun _ => rfl) hr2) hc2 h).mono ?_
  rintro e w' ⟨rfl, hd⟩
  exact ⟨rfl, hd⟩

end Go.Proofs.Ytpponaflfpafnaa.XAll
