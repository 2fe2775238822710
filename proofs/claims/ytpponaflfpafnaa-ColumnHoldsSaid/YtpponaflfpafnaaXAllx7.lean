-- Written for this claim by a program of this session (around the kit's print).
import Derived.Test.YtpponaflfpafnaaXAllx0
import Derived.Test.YtpponaflfpafnaaXAllx1
import Derived.Test.YtpponaflfpafnaaXAllx2
import Derived.Test.YtpponaflfpafnaaXAllx3
import Derived.Test.YtpponaflfpafnaaXAllx5
import Derived.Test.YtpponaflfpafnaaXAllx6
namespace Go.Proofs.Ytpponaflfpafnaa.XAll
open Go.RowKit Go.Proofs.YtpponaflfpafnaaW.PrintWords Go.Proofs.YtpponaflfpafnaaW.PrintLast Go.Proofs.YtpponaflfpafnaaW.PrintMore
attribute [local go_sem] max2_int min2_int max_two min_two max_three min_three max_four min_four   -- for this text's walks alone
set_option linter.unusedVariables false
set_option linter.unusedSimpArgs false

/-! ### ergolaw03_ColumnHolds: function 3 -/
def ergolaw03_ColumnHolds.j0 : Nat → Int → Int → Int → Int → Bool → Option (Bool)
  | 0, _, _, _, _, _ => none
  | k + 1, x0, x1, x2, x7, x16 => if x16 = true then ((column_Op_Sign.f x7).bind fun t131 => (if t131.toList = ([] : List UInt8) then ((column_Holds.f x7 x1 x2).bind fun t132 => (if t132 = true then (some false) else ((column_Where.f k x7 (([x1] : List Int)) x2).bind fun t136 => (some ((t136.length : Int) == 0))))) else (some false))) else ((column_Op_Sign.f x7).bind fun t139 => ((some (([(⟨#[61]⟩ : ByteArray), (⟨#[33, 61]⟩ : ByteArray), (⟨#[60]⟩ : ByteArray), (⟨#[60, 61]⟩ : ByteArray), (⟨#[62]⟩ : ByteArray), (⟨#[62, 61]⟩ : ByteArray)] : List ByteArray) : List ByteArray)).bind fun y140 => (if 0 ≤ x0 then (if x0 < (y140.length : Int) then (if t139.toList = (rdOf ByteArray.empty y140 x0).toList then ((column_Holds.f x7 x1 x2).bind fun t144 => ((ergolaw03_Holds.f x0 x1 x2).bind fun t145 => (some (t144 == t145)))) else (some false)) else (none)) else (none))))
def ergolaw03_ColumnHolds.f (k : Nat) (a0 : Int) (a1 : Int) (a2 : Int) : Option (Bool) := (ergolaw03_head.f k).bind fun t130 => (if t130 = true then (if a0 < 0 then (ergolaw03_ColumnHolds.j0 k a0 a1 a2 a0 true) else (ergolaw03_ColumnHolds.j0 k a0 a1 a2 a0 (decide (a0 > 5)))) else (some false))
theorem ergolaw03_ColumnHolds.mono_l : ∀ k, (∀ y0 y1 y2 y3 y4, LeO (ergolaw03_ColumnHolds.j0 k y0 y1 y2 y3 y4) (ergolaw03_ColumnHolds.j0 (k + 1) y0 y1 y2 y3 y4))
  | 0 => fun _ _ _ _ _ r h => by simp [ergolaw03_ColumnHolds.j0] at h
  | k + 1 => by
    have ih0 := ergolaw03_ColumnHolds.mono_l k
    · intro y0 y1 y2 y3 y4
      unfold ergolaw03_ColumnHolds.j0
      repeat' first
      | (with_reducible exact ih0 _ _ _ _ _)
      | (with_reducible exact column_Where.mono _ _ _ _)
      | (with_reducible exact ergolaw03_head.mono _)
      | (with_reducible exact LeO.refl _)
      | (with_reducible exact LeO.none _)
      | (with_reducible refine LeO.ite ?_ ?_)
      | (with_reducible refine LeO.bind ?_ (fun _ => ?_))
      | exact ih0 _ _ _ _ _
      | exact column_Where.mono _ _ _ _
      | exact ergolaw03_head.mono _
      | exact LeO.none _
      | refine LeO.ite ?_ ?_
      | refine LeO.bind ?_ (fun _ => ?_)
theorem ergolaw03_ColumnHolds.mono : ∀ a0 a1 a2 k, LeO (ergolaw03_ColumnHolds.f k a0 a1 a2) (ergolaw03_ColumnHolds.f (k + 1) a0 a1 a2) := by
  intro a0 a1 a2 k
  have ih0 := ergolaw03_ColumnHolds.mono_l k
  unfold ergolaw03_ColumnHolds.f
  repeat' first
      | (with_reducible exact ih0 _ _ _ _ _)
      | (with_reducible exact column_Where.mono _ _ _ _)
      | (with_reducible exact ergolaw03_head.mono _)
      | (with_reducible exact LeO.refl _)
      | (with_reducible exact LeO.none _)
      | (with_reducible refine LeO.ite ?_ ?_)
      | (with_reducible refine LeO.bind ?_ (fun _ => ?_))
      | exact ih0 _ _ _ _ _
      | exact column_Where.mono _ _ _ _
      | exact ergolaw03_head.mono _
      | exact LeO.none _
      | refine LeO.ite ?_ ?_
      | refine LeO.bind ?_ (fun _ => ?_)
def ergolaw03_ColumnHolds.T6 : Bool × List (List Nat × List Nat) := (true, [([], []), ([0], [0]), ([], []), ([], []), ([2, 3], [2, 3]), ([4], [4]), ([1, 5], [1, 5]), ([6, 1], [6]), ([7], [7]), ([7], [7]), ([7], [7]), ([8, 9, 10, 7, 7], [7, 8, 9, 10]), ([7], [7]), ([7], [7]), ([7], [7]), ([12, 13, 14, 11, 7], [7, 12, 13, 14]), ([11, 15, 7], [7, 11, 15]), ([7, 16], [7, 16]), ([17, 15, 0, 1, 2, 3, 4, 5, 6, 7, 8, 9, 10, 11, 12, 13, 14, 15, 16, 17], [17])])
def ergolaw03_ColumnHolds.B6 : List Nat := [0, 1, 0, 0, 12, 28, 63, 127, 255, 255, 255, 2047, 255, 255, 255, 32767, 65535, 131071, 262143]
theorem ergolaw03_ColumnHolds.tab6 : rtab .any (opsOf Try.f3 6) = ergolaw03_ColumnHolds.T6 := by kernel_rfl
theorem ergolaw03_ColumnHolds.bits6 : waitsOk ergolaw03_ColumnHolds.T6.2 ergolaw03_ColumnHolds.B6 = true := by kernel_rfl
set_option maxHeartbeats 8000000 in
set_option maxRecDepth 100000 in
theorem ergolaw03_ColumnHolds.calls (k : Nat) (a0 : Int) (a1 : Int) (a2 : Int) (r : Bool) (w : World) (h : ergolaw03_ColumnHolds.f k a0 a1 a2 = some r) :
    Calls Try.prog 3 #[.int .i64 a0, .int .i64 a1, .int .i64 a2] w fun e w' => e = .returned (.bool r) ∧ Below w.heap.size w w' := by
  have HB := Aside0.mk (Below.refl w.heap.size w)
  have H : ((ergolaw03_head.f k).bind fun t130 => (if t130 = true then (if a0 < 0 then (ergolaw03_ColumnHolds.j0 k a0 a1 a2 a0 true) else (ergolaw03_ColumnHolds.j0 k a0 a1 a2 a0 (decide (a0 > 5)))) else (some false))) = some r := h
  clear h
  replace H := Option.bind_eq_some_iff.mp H
  obtain ⟨t130, A40, H⟩ := H
  replace H : (if t130 = true then (if a0 < 0 then (ergolaw03_ColumnHolds.j0 k a0 a1 a2 a0 true) else (ergolaw03_ColumnHolds.j0 k a0 a1 a2 a0 (decide (a0 > 5)))) else (some false)) = some r := H
  have A4 := Aside0.mk A40
  clear A40
  by_cases c5 : t130 = true
  · subst c5
    have H1 : (if a0 < 0 then (ergolaw03_ColumnHolds.j0 k a0 a1 a2 a0 true) else (ergolaw03_ColumnHolds.j0 k a0 a1 a2 a0 (decide (a0 > 5)))) = some r := by rw [if_pos rfl] at H; exact H
    clear H
    have H := H1
    clear H1
    have HC6 := Aside0.mk H
    clear H
    go_enter Try.func3, Try.ntmps3
    go_upto_region 4 with (first | ((with_reducible refine gate_callee (f := 10) rfl ?_); refine goesL_ (some 8) rfl rfl Try.func10 (by kernel_rfl) rfl #[] rfl (by (try simp only [List.map_toArray, List.map_cons, List.map_nil]); first | done | rfl | (simp only [List.length_drop, List.length_take]; rfl)) ?_; (with_reducible refine (ergolaw03_head.calls k  true _ A4.out).mono ?_); rintro e w7 ⟨rfl, hb⟩; refine ⟨_, rfl, ?_⟩; have n0_ := Aside0.mk (below_step (by repeat (first | (with_reducible first | exact HB.out | apply below_alloc | apply pw_below_drewN | apply below_drew1) | exact HB.out)) hb); clear HB; have HB := n0_; clear n0_; (try clear hb); (try clear hb2); (try clear hk); (try clear hi)))
    (try simp only [Act.put, List.setIfInBounds_toArray, List.set_cons_zero, List.set_cons_succ])
    go_cut [16] (fun v16 wc => ∃ (kq : Nat) (x16_5 : Bool), v16 = .bool x16_5 ∧ Aside0 (ergolaw03_ColumnHolds.j0 kq a0 a1 a2 a0 x16_5 = some r) ∧ Aside0 (kq ≤ k) ∧ Aside0 (Below w.heap.size w wc))
    case first =>
      have H := HC6.out
      clear HC6
      by_cases c8 : a0 < 0
      · rw [if_pos c8] at H
        have c8b0 : decide (a0 < 0) = true := decide_eq_true c8
        clear c8
        (first | rw [c8b0] | (simp only [i64_w, i32_w]; rw [c8b0]) | skip)
        have H' := Aside0.mk H
        clear H
        go_wp2
        go_meet
        case rel => exact ⟨_, (true), (by first | rfl | (simp; done) | (simp [*]; done)), H', ⟨by first | omega | exact Nat.le_refl _⟩, ⟨by repeat (first | (with_reducible first | exact HB.out | apply below_alloc | apply pw_below_drewN | apply below_drew1) | exact HB.out)⟩⟩
      · rw [if_neg c8] at H
        have c8b0 : decide (a0 < 0) = false := decide_eq_false c8
        clear c8
        (first | rw [c8b0] | (simp only [i64_w, i32_w]; rw [c8b0]) | skip)
        have H' := Aside0.mk H
        clear H
        go_wp2
        go_meet
        case rel => exact ⟨_, (decide (a0 > 5)), (by first | rfl | (simp; done) | (simp [*]; done)), H', ⟨by first | omega | exact Nat.le_refl _⟩, ⟨by repeat (first | (with_reducible first | exact HB.out | apply below_alloc | apply pw_below_drewN | apply below_drew1) | exact HB.out)⟩⟩
    case rest =>
      clear HC6
      try clear c1
      try clear p2
      try clear c3
      try clear c5
      try clear c8
      try clear c8b0
      obtain ⟨kq, x16_5, rfl, HA, HJ5, HB⟩ := hcut
      cases kq with
      | zero => exact absurd HA.out (by simp [ergolaw03_ColumnHolds.j0])
      | succ kj5 =>
        have H := HA.out
        clear HA
        simp only [ergolaw03_ColumnHolds.j0] at H
        by_cases c9 : x16_5 = true
        · subst c9
          have H1 : ((column_Op_Sign.f a0).bind fun t131 => (if t131.toList = ([] : List UInt8) then ((column_Holds.f a0 a1 a2).bind fun t132 => (if t132 = true then (some false) else ((column_Where.f kj5 a0 (([a1] : List Int)) a2).bind fun t136 => (some ((t136.length : Int) == 0))))) else (some false))) = some r := by rw [if_pos rfl] at H; exact H
          clear H
          have H := H1
          clear H1
          replace H := Option.bind_eq_some_iff.mp H
          obtain ⟨t131, A100, H⟩ := H
          replace H : (if t131.toList = ([] : List UInt8) then ((column_Holds.f a0 a1 a2).bind fun t132 => (if t132 = true then (some false) else ((column_Where.f kj5 a0 (([a1] : List Int)) a2).bind fun t136 => (some ((t136.length : Int) == 0))))) else (some false)) = some r := H
          have A10 := Aside0.mk A100
          clear A100
          by_cases c11 : t131.toList = ([] : List UInt8)
          · rw [if_pos c11] at H
            have c11b0 : (t131.toList == ([] : List UInt8)) = true := beq_iff_eq.mpr c11
            have c11b1 : (t131.toList != ([] : List UInt8)) = false := bne_eq_false_iff_eq.mpr c11
            clear c11
            replace H := Option.bind_eq_some_iff.mp H
            obtain ⟨t132, A120, H⟩ := H
            replace H : (if t132 = true then (some false) else ((column_Where.f kj5 a0 (([a1] : List Int)) a2).bind fun t136 => (some ((t136.length : Int) == 0)))) = some r := H
            have A12 := Aside0.mk A120
            clear A120
            by_cases c13 : t132 = true
            · subst c13
              have H1 : (some false) = some r := by rw [if_pos rfl] at H; exact H
              clear H
              have H := H1
              clear H1
              obtain rfl := Option.some.inj H
              go_wp2_with (first | ((with_reducible refine gate_callee (f := 11) rfl ?_); refine goesL_ (some 18) rfl rfl Try.func11 (by kernel_rfl) rfl #[.int .i64 a0] rfl (by (try simp only [List.map_toArray, List.map_cons, List.map_nil]); first | done | rfl | (simp only [List.length_drop, List.length_take]; rfl)) ?_; (with_reducible refine (column_Op_Sign.calls a0 t131 _ A10.out).mono ?_); rintro e w14 ⟨rfl, hb⟩; refine ⟨_, rfl, ?_⟩; have n0_ := Aside0.mk (below_step (by repeat (first | (with_reducible first | exact HB.out | apply below_alloc | apply pw_below_drewN | apply below_drew1) | exact HB.out)) hb); clear HB; have HB := n0_; clear n0_; (try clear hb); (try clear hb2); (try clear hk); (try clear hi)) | (go_at_call 12; (with_reducible refine (column_Holds.calls a0 a1 a2 true _ A12.out).mono ?_); rintro e w' ⟨rfl, ⟨nd, rfl⟩⟩))
              go_ret
              exact ⟨by first | rfl | (simp [errW_none, errW_some] <;> rfl) | (simp [*, errW_none, errW_some] <;> rfl), by repeat (first | (with_reducible first | exact HB.out | apply below_alloc | apply pw_below_drewN | apply below_drew1) | exact HB.out)⟩
            · replace c13 := Bool.eq_false_iff.mpr c13
              subst c13
              have H1 : ((column_Where.f kj5 a0 (([a1] : List Int)) a2).bind fun t136 => (some ((t136.length : Int) == 0))) = some r := by rw [if_neg (show ¬ (false = true) by decide)] at H; exact H
              clear H
              have H := H1
              clear H1
              obtain ⟨y133, hy133⟩ : ∃ y_ : List Int, y_ = (([a1] : List Int)) := ⟨_, rfl⟩
              replace H : ((column_Where.f kj5 a0 y133 a2).bind fun t136 => (some ((t136.length : Int) == 0))) = some r := by first | (rw [hy133]; with_reducible exact H) | (have H2_ := (Option.bind_some _ _).symm.trans H; rw [hy133]; with_reducible exact H2_) | (have H2_ := (Option.bind_some _ _).symm.trans H; with_reducible exact H2_) | with_reducible exact H | (rw [hy133]; exact H) | exact H
              have Ny133 := Aside0.mk hy133
              clear hy133
              replace H := Option.bind_eq_some_iff.mp H
              obtain ⟨t136, A150, H⟩ := H
              replace H : (some ((t136.length : Int) == 0)) = some r := H
              have A15 := Aside0.mk A150
              clear A150
              obtain rfl := Option.some.inj H
              go_wp2_with (first | ((with_reducible refine gate_callee (f := 11) rfl ?_); refine goesL_ (some 18) rfl rfl Try.func11 (by kernel_rfl) rfl #[.int .i64 a0] rfl (by (try simp only [List.map_toArray, List.map_cons, List.map_nil]); first | done | rfl | (simp only [List.length_drop, List.length_take]; rfl)) ?_; (with_reducible refine (column_Op_Sign.calls a0 t131 _ A10.out).mono ?_); rintro e w16 ⟨rfl, hb⟩; refine ⟨_, rfl, ?_⟩; have n0_ := Aside0.mk (below_step (by repeat (first | (with_reducible first | exact HB.out | apply below_alloc | apply pw_below_drewN | apply below_drew1) | exact HB.out)) hb); clear HB; have HB := n0_; clear n0_; (try clear hb); (try clear hb2); (try clear hk); (try clear hi)) | (go_at_call 12; (with_reducible refine (column_Holds.calls a0 a1 a2 false _ A12.out).mono ?_); rintro e w' ⟨rfl, ⟨nd, rfl⟩⟩) | ((with_reducible refine gate_dst (N := 30) rfl ?_); (try (refine gate_guard (by rfl) ?_; dsimp only)); refine Kd.R_lit (Kd.int .i64) _ 2 ?hg (N := 30) ?hd (xs := ([a1] : List Int)) (inner := [.int .i64 a1]) (ok := fun _ => True) (okp := fun _ => True) ?hr ?hp (fun _ hk => hk) trivial (Below.refl _ _) (Nat.le_refl _) (by simp) ?_; (case hd => rfl); (case hg => rfl); (case hr => first | (go_simp; done) | (go_simp; rfl)); (case hp => exact (Reps.one (show Kd.M (Kd.int .i64) _ _ _ a1 [.int .i64 a1] from rfl) (Reps.none _ _))); intro v134 w17 ho18 hb hg_ hnew_; clear hg_ hnew_; (first | rw [← Ny133.out] at ho18 | (simp only [Int.reduceToNat] at ho18; rw [← Ny133.out] at ho18)); have n0_ := Aside0.mk (Kd.R_lower ho18 (below_size (by repeat (first | (with_reducible first | exact HB.out | apply below_alloc | apply pw_below_drewN | apply below_drew1) | exact HB.out)))); have n1_ := Aside0.mk (below_step (by repeat (first | (with_reducible first | exact HB.out | apply below_alloc | apply pw_below_drewN | apply below_drew1) | exact HB.out)) hb); clear HB; have HO135 := n0_; have HB := n1_; clear n0_ n1_; clear hb ho18; obtain ⟨Ao19, co19, eo19⟩ := Kd.R_slice HO135.out; subst eo19) | (go_at_call 13; (with_reducible refine (column_Where.calls kj5 a0 _ _ y133 a2 t136 _ ?side1 ?side2 A15.out).mono ?_); (case side1 => repeat (first | exact (Kd.R_reads' HO135.out).2.2 | (with_reducible refine Kd.C_alloc ?_ _) | (with_reducible refine Kd.C_drewN ?_ _) | (with_reducible refine Kd.C_drew ?_))); (case side2 => exact (Kd.R_reads' HO135.out).2.1); rintro e w20 ⟨v137, rfl, ho0, hb⟩; have n0_ := Aside0.mk (Kd.R_below (by (with_reducible repeat (first | apply Kd.R_alloc | apply Kd.R_drewN | apply Kd.R_drew)); exact HO135.out) hb); have n1_ := Aside0.mk (Kd.R_lower ho0 (below_size (by repeat (first | (with_reducible first | exact HB.out | apply below_alloc | apply pw_below_drewN | apply below_drew1) | exact HB.out)))); have n2_ := Aside0.mk (below_step (by repeat (first | (with_reducible first | exact HB.out | apply below_alloc | apply pw_below_drewN | apply below_drew1) | exact HB.out)) hb); clear HO135; clear HB; have HO135 := n0_; have HO138 := n1_; have HB := n2_; clear n0_ n1_ n2_; (try clear hb); (try clear hb2); (try clear hk); (try clear hi); (try clear ho0); obtain ⟨Ao21, co21, eo21⟩ := Kd.R_slice HO138.out; subst eo21))
              go_ret
              exact ⟨by first | rfl | (simp [errW_none, errW_some] <;> rfl) | (simp [*, errW_none, errW_some] <;> rfl), by repeat (first | (with_reducible first | exact HB.out | apply below_alloc | apply pw_below_drewN | apply below_drew1) | exact HB.out)⟩
          · rw [if_neg c11] at H
            have c11b0 : (t131.toList == ([] : List UInt8)) = false := beq_eq_false_iff_ne.mpr c11
            have c11b1 : (t131.toList != ([] : List UInt8)) = true := bne_iff_ne.mpr c11
            obtain rfl := Option.some.inj H
            go_wp2_with (first | ((with_reducible refine gate_callee (f := 11) rfl ?_); refine goesL_ (some 18) rfl rfl Try.func11 (by kernel_rfl) rfl #[.int .i64 a0] rfl (by (try simp only [List.map_toArray, List.map_cons, List.map_nil]); first | done | rfl | (simp only [List.length_drop, List.length_take]; rfl)) ?_; (with_reducible refine (column_Op_Sign.calls a0 t131 _ A10.out).mono ?_); rintro e w22 ⟨rfl, hb⟩; refine ⟨_, rfl, ?_⟩; have n0_ := Aside0.mk (below_step (by repeat (first | (with_reducible first | exact HB.out | apply below_alloc | apply pw_below_drewN | apply below_drew1) | exact HB.out)) hb); clear HB; have HB := n0_; clear n0_; (try clear hb); (try clear hb2); (try clear hk); (try clear hi)))
            go_ret
            exact ⟨by first | rfl | (simp [errW_none, errW_some] <;> rfl) | (simp [*, errW_none, errW_some] <;> rfl), by repeat (first | (with_reducible first | exact HB.out | apply below_alloc | apply pw_below_drewN | apply below_drew1) | exact HB.out)⟩
        · replace c9 := Bool.eq_false_iff.mpr c9
          subst c9
          have H1 : ((column_Op_Sign.f a0).bind fun t139 => ((some (([(⟨#[61]⟩ : ByteArray), (⟨#[33, 61]⟩ : ByteArray), (⟨#[60]⟩ : ByteArray), (⟨#[60, 61]⟩ : ByteArray), (⟨#[62]⟩ : ByteArray), (⟨#[62, 61]⟩ : ByteArray)] : List ByteArray) : List ByteArray)).bind fun y140 => (if 0 ≤ a0 then (if a0 < (y140.length : Int) then (if t139.toList = (rdOf ByteArray.empty y140 a0).toList then ((column_Holds.f a0 a1 a2).bind fun t144 => ((ergolaw03_Holds.f a0 a1 a2).bind fun t145 => (some (t144 == t145)))) else (some false)) else (none)) else (none)))) = some r := by rw [if_neg (show ¬ (false = true) by decide)] at H; exact H
          clear H
          have H := H1
          clear H1
          replace H := Option.bind_eq_some_iff.mp H
          obtain ⟨t139, A230, H⟩ := H
          replace H : ((some (([(⟨#[61]⟩ : ByteArray), (⟨#[33, 61]⟩ : ByteArray), (⟨#[60]⟩ : ByteArray), (⟨#[60, 61]⟩ : ByteArray), (⟨#[62]⟩ : ByteArray), (⟨#[62, 61]⟩ : ByteArray)] : List ByteArray) : List ByteArray)).bind fun y140 => (if 0 ≤ a0 then (if a0 < (y140.length : Int) then (if t139.toList = (rdOf ByteArray.empty y140 a0).toList then ((column_Holds.f a0 a1 a2).bind fun t144 => ((ergolaw03_Holds.f a0 a1 a2).bind fun t145 => (some (t144 == t145)))) else (some false)) else (none)) else (none))) = some r := H
          have A23 := Aside0.mk A230
          clear A230
          obtain ⟨y140, hy140⟩ : ∃ y_ : List ByteArray, y_ = (([(⟨#[61]⟩ : ByteArray), (⟨#[33, 61]⟩ : ByteArray), (⟨#[60]⟩ : ByteArray), (⟨#[60, 61]⟩ : ByteArray), (⟨#[62]⟩ : ByteArray), (⟨#[62, 61]⟩ : ByteArray)] : List ByteArray)) := ⟨_, rfl⟩
          replace H : (if 0 ≤ a0 then (if a0 < (y140.length : Int) then (if t139.toList = (rdOf ByteArray.empty y140 a0).toList then ((column_Holds.f a0 a1 a2).bind fun t144 => ((ergolaw03_Holds.f a0 a1 a2).bind fun t145 => (some (t144 == t145)))) else (some false)) else (none)) else (none)) = some r := by first | (rw [hy140]; with_reducible exact H) | (have H2_ := (Option.bind_some _ _).symm.trans H; rw [hy140]; with_reducible exact H2_) | (have H2_ := (Option.bind_some _ _).symm.trans H; with_reducible exact H2_) | with_reducible exact H | (rw [hy140]; exact H) | exact H
          have Ny140 := Aside0.mk hy140
          clear hy140
          by_cases c24 : 0 ≤ a0
          · rw [if_pos c24] at H
            have c24b0 : decide (0 ≤ a0) = true := decide_eq_true c24
            clear c24
            by_cases c25 : a0 < (y140.length : Int)
            · rw [if_pos c25] at H
              have c25b0 : decide (a0 < (y140.length : Int)) = true := decide_eq_true c25
              clear c25
              by_cases c26 : t139.toList = (rdOf ByteArray.empty y140 a0).toList
              · rw [if_pos c26] at H
                have c26b0 : (t139.toList == (rdOf ByteArray.empty y140 a0).toList) = true := beq_iff_eq.mpr c26
                have c26b1 : (t139.toList != (rdOf ByteArray.empty y140 a0).toList) = false := bne_eq_false_iff_eq.mpr c26
                clear c26
                replace H := Option.bind_eq_some_iff.mp H
                obtain ⟨t144, A270, H⟩ := H
                replace H : ((ergolaw03_Holds.f a0 a1 a2).bind fun t145 => (some (t144 == t145))) = some r := H
                have A27 := Aside0.mk A270
                clear A270
                replace H := Option.bind_eq_some_iff.mp H
                obtain ⟨t145, A280, H⟩ := H
                replace H : (some (t144 == t145)) = some r := H
                have A28 := Aside0.mk A280
                clear A280
                obtain rfl := Option.some.inj H
                try go_wp2
                have pi143 : (0 ≤ (a0 : Int)) = True := eq_true (of_decide_eq_true (by first | (with_reducible assumption) | assumption))
                have qi143 : (a0 < (y140.length : Int)) = True := eq_true (of_decide_eq_true (by first | (with_reducible assumption) | assumption))
                have n0_ := Aside0.mk (below_drew1 HB.out)
                clear HB
                have HB := n0_
                clear n0_
                refine start_ (n := 19) (S := fun w' => True) (ds := []) #[false, false, false, false, false, false, false, false, false, false, false, false, false, false, false, false, false, false, false] (by kernel_rfl) rfl rfl trivial (fun hHeld => ?_); refine with_tabW ergolaw03_ColumnHolds.tab6 ergolaw03_ColumnHolds.bits6 (fun HT_ HW_ => ?_)
                generalize wc.drew = w29 at HB hHeld ⊢
                refine pure_ (i := 0) (N := some 36) (v := ?_) (a' := ?_) #[true, false, false, false, false, false, false, false, false, false, false, false, false, false, false, false, false, false, false] rfl rfl (any_of HT_.out (by kernel_rfl)) (fun _ _ _ h => h) (Or.inl ⟨by rfl, ?_⟩) ?_ ?_
                rotate_left
                · intro w'
                  go_simp
                  with_reducible rfl
                rotate_left
                · simp only [Act.put, List.setIfInBounds_toArray, List.set_cons_zero, List.set_cons_succ, i64_w, i32_w]
                  rfl
                refine pure_ (i := 3) (N := some 39) (v := ?_) (a' := ?_) #[true, false, false, true, false, false, false, false, false, false, false, false, false, false, false, false, false, false, false] rfl rfl (any_of HT_.out (by kernel_rfl)) (fun _ _ _ h => h) (Or.inl ⟨by rfl, ?_⟩) ?_ ?_
                rotate_left
                · intro w'
                  go_simp
                  with_reducible rfl
                rotate_left
                · simp only [Act.put, List.setIfInBounds_toArray, List.set_cons_zero, List.set_cons_succ, i64_w, i32_w]
                  rfl
                refine join_ (σ := Value × Addr) 13 #[true, true, true, true, true, true, false, false, false, false, false, false, false, false, false, false, false, false, false] (fun s_ => [(37, .string t139), (38, s_.1), (41, .string (rdOf ByteArray.empty y140 a0)), (40, .pointer (some (s_.2.add (a0).toNat)))]) (fun s_ w' => (Kd.R Kd.string 9 w' w.heap.size (fun _ => True) s_.1 y140) ∧ (∃ c_, (s_.1 : Value) = .slice (some s_.2) y140.length c_) ∧ (Below w.heap.size w w')) ?_ ?_
                rotate_left
                · intro hCont
                  refine two_ (i := 1) (j := 2) (Ni := some 37) (Nj := some 38) #[true, true, false, true, false, false, false, false, false, false, false, false, false, false, false, false, false, false, false] #[true, false, true, true, false, false, false, false, false, false, false, false, false, false, false, false, false, false, false] rfl rfl rfl rfl (two_of HT_.out (by kernel_rfl)) (by decide) (by decide) (fun K hK => ?_) (fun K hK => ?_)
                  · skip
                    refine goes_ Try.func11 (by kernel_rfl) rfl #[.int .i64 a0] (by rfl) rfl rfl (by (try simp only [List.map_toArray, List.map_cons, List.map_nil]); first | done | rfl | (simp only [List.length_drop, List.length_take]; rfl)) ?_
                    with_reducible refine (column_Op_Sign.calls a0 t139 _ A23.out).mono ?_
                    rintro e w30 ⟨rfl, hb⟩
                    refine ⟨_, rfl, ?_⟩
                    have n0_ := Aside0.mk (below_step (by repeat (first | (with_reducible first | exact HB.out | apply below_alloc | apply pw_below_drewN | apply below_drew1) | exact HB.out)) hb)
                    clear HB
                    have HB := n0_
                    clear n0_
                    (try clear hb)
                    (try clear hb2)
                    (try clear hk)
                    (try clear hi)
                    refine hK.out _ _ trivial (fun hHeld => ?_)
                    clear hK K
                    refine norm_ (a' := ?_) ?_ ?_
                    rotate_left
                    · show Act.put _ (some 37) _ = _
                      simp only [Act.put, List.setIfInBounds_toArray, List.set_cons_zero, List.set_cons_succ, i64_w, i32_w]
                      rfl
                    refine one_ (i := 2) (N := some 38) #[true, true, true, true, false, false, false, false, false, false, false, false, false, false, false, false, false, false, false] rfl rfl (one_of HT_.out (by kernel_rfl)) (by decide) (fun K hK => ?_)
                    refine Kd.R_lit_step Kd.string _ 9 ?hg (N := 38) ?hd (xs := ([(⟨#[61]⟩ : ByteArray), (⟨#[33, 61]⟩ : ByteArray), (⟨#[60]⟩ : ByteArray), (⟨#[60, 61]⟩ : ByteArray), (⟨#[62]⟩ : ByteArray), (⟨#[62, 61]⟩ : ByteArray)] : List ByteArray)) (inner := [.string (⟨#[61]⟩ : ByteArray), .string (⟨#[33, 61]⟩ : ByteArray), .string (⟨#[60]⟩ : ByteArray), .string (⟨#[60, 61]⟩ : ByteArray), .string (⟨#[62]⟩ : ByteArray), .string (⟨#[62, 61]⟩ : ByteArray)]) (ok := fun _ => True) (okp := fun _ => True) ?hr ?hp (fun _ hk => hk) trivial (Below.refl _ _) (Nat.le_refl _) (by simp) ?_; (case hd => rfl); (case hg => rfl); (case hr => first | (go_simp; done) | (go_simp; rfl)); (case hp => exact (Reps.one (show Kd.M Kd.string _ _ _ (⟨#[61]⟩ : ByteArray) [.string (⟨#[61]⟩ : ByteArray)] from rfl) (Reps.one (show Kd.M Kd.string _ _ _ (⟨#[33, 61]⟩ : ByteArray) [.string (⟨#[33, 61]⟩ : ByteArray)] from rfl) (Reps.one (show Kd.M Kd.string _ _ _ (⟨#[60]⟩ : ByteArray) [.string (⟨#[60]⟩ : ByteArray)] from rfl) (Reps.one (show Kd.M Kd.string _ _ _ (⟨#[60, 61]⟩ : ByteArray) [.string (⟨#[60, 61]⟩ : ByteArray)] from rfl) (Reps.one (show Kd.M Kd.string _ _ _ (⟨#[62]⟩ : ByteArray) [.string (⟨#[62]⟩ : ByteArray)] from rfl) (Reps.one (show Kd.M Kd.string _ _ _ (⟨#[62, 61]⟩ : ByteArray) [.string (⟨#[62, 61]⟩ : ByteArray)] from rfl) (Reps.none _ _))))))))
                    intro v141 w31 ho32 hb hg_ hnew_
                    clear hg_ hnew_
                    (first | rw [← Ny140.out] at ho32 | (simp only [Int.reduceToNat] at ho32; rw [← Ny140.out] at ho32))
                    have n0_ := Aside0.mk (Kd.R_lower ho32 (below_size (by repeat (first | (with_reducible first | exact HB.out | apply below_alloc | apply pw_below_drewN | apply below_drew1) | exact HB.out))))
                    have n1_ := Aside0.mk (below_step (by repeat (first | (with_reducible first | exact HB.out | apply below_alloc | apply pw_below_drewN | apply below_drew1) | exact HB.out)) hb)
                    clear HB
                    have HO142 := n0_
                    have HB := n1_
                    clear n0_ n1_
                    clear hb ho32
                    obtain ⟨Ao33, co33, eo33⟩ := Kd.R_slice HO142.out
                    subst eo33
                    obtain ⟨ado33, fo33, _⟩ := Kd.at_string (Kd.R_reads' HO142.out).2.2 0 (by decide) (by rw [Ny140.out]; simp)
                    cases fo33
                    refine hK.out _ _ trivial (fun hHeld => ?_)
                    clear hK K
                    refine norm_ (a' := ?_) ?_ ?_
                    rotate_left
                    · show Act.put _ (some 38) _ = _
                      simp only [Act.put, List.setIfInBounds_toArray, List.set_cons_zero, List.set_cons_succ, i64_w, i32_w]
                      rfl
                    refine pure_ (i := 4) (N := some 40) (v := ?_) (a' := ?_) #[true, true, true, true, true, false, false, false, false, false, false, false, false, false, false, false, false, false, false] rfl rfl (any_of HT_.out (by kernel_rfl)) (fun _ _ _ h => h) (Or.inl ⟨by rfl, ?_⟩) ?_ ?_
                    rotate_left
                    · intro w'
                      go_simp
                      with_reducible rfl
                    rotate_left
                    · simp only [Act.put, List.setIfInBounds_toArray, List.set_cons_zero, List.set_cons_succ, i64_w, i32_w]
                      rfl
                    refine one_ (i := 5) (N := some 41) #[true, true, true, true, true, true, false, false, false, false, false, false, false, false, false, false, false, false, false] rfl rfl (one_of HT_.out (by kernel_rfl)) (by decide) (fun K hK => ?_)
                    (have p143 : 0 ≤ (a0 : Int) := of_decide_eq_true (by first | (with_reducible assumption) | assumption); have q143 : a0 < (y140.length : Int) := of_decide_eq_true (by first | (with_reducible assumption) | assumption); obtain ⟨ad143, e143, hx143_0⟩ := Kd.at_string (Kd.R_reads' HO142.out).2.2 a0 p143 q143; obtain rfl : ado33 = ad143 := (by injection e143))
                    refine value_ (w1 := ?_) (v := ?_) (by rfl) rfl ?_ ?_
                    rotate_left 2
                    · go_simp
                      constructor
                      · rfl
                      · rfl
                    clear hx143_0
                    refine hK.out _ _ trivial (fun hHeld => ?_)
                    clear hK K
                    refine norm_ (a' := ?_) ?_ ?_
                    rotate_left
                    · show Act.put _ (some 41) _ = _
                      simp only [Act.put, List.setIfInBounds_toArray, List.set_cons_zero, List.set_cons_succ, i64_w, i32_w]
                      rfl
                    exact norm_ (by simp only [putAll, Act.put, List.setIfInBounds_toArray, List.set_cons_zero, List.set_cons_succ]) (hCont (.slice (some ado33) y140.length co33, ado33) _ ⟨(by (with_reducible repeat (first | apply Kd.R_alloc | apply Kd.R_drewN | apply Kd.R_drew)); exact HO142.out), ⟨_, rfl⟩, (by repeat (first | (with_reducible first | exact HB.out | apply below_alloc | apply pw_below_drewN | apply below_drew1) | exact HB.out))⟩)
                  · skip
                    refine Kd.R_lit_step Kd.string _ 9 ?hg (N := 38) ?hd (xs := ([(⟨#[61]⟩ : ByteArray), (⟨#[33, 61]⟩ : ByteArray), (⟨#[60]⟩ : ByteArray), (⟨#[60, 61]⟩ : ByteArray), (⟨#[62]⟩ : ByteArray), (⟨#[62, 61]⟩ : ByteArray)] : List ByteArray)) (inner := [.string (⟨#[61]⟩ : ByteArray), .string (⟨#[33, 61]⟩ : ByteArray), .string (⟨#[60]⟩ : ByteArray), .string (⟨#[60, 61]⟩ : ByteArray), .string (⟨#[62]⟩ : ByteArray), .string (⟨#[62, 61]⟩ : ByteArray)]) (ok := fun _ => True) (okp := fun _ => True) ?hr ?hp (fun _ hk => hk) trivial (Below.refl _ _) (Nat.le_refl _) (by simp) ?_; (case hd => rfl); (case hg => rfl); (case hr => first | (go_simp; done) | (go_simp; rfl)); (case hp => exact (Reps.one (show Kd.M Kd.string _ _ _ (⟨#[61]⟩ : ByteArray) [.string (⟨#[61]⟩ : ByteArray)] from rfl) (Reps.one (show Kd.M Kd.string _ _ _ (⟨#[33, 61]⟩ : ByteArray) [.string (⟨#[33, 61]⟩ : ByteArray)] from rfl) (Reps.one (show Kd.M Kd.string _ _ _ (⟨#[60]⟩ : ByteArray) [.string (⟨#[60]⟩ : ByteArray)] from rfl) (Reps.one (show Kd.M Kd.string _ _ _ (⟨#[60, 61]⟩ : ByteArray) [.string (⟨#[60, 61]⟩ : ByteArray)] from rfl) (Reps.one (show Kd.M Kd.string _ _ _ (⟨#[62]⟩ : ByteArray) [.string (⟨#[62]⟩ : ByteArray)] from rfl) (Reps.one (show Kd.M Kd.string _ _ _ (⟨#[62, 61]⟩ : ByteArray) [.string (⟨#[62, 61]⟩ : ByteArray)] from rfl) (Reps.none _ _))))))))
                    intro v141 w30 ho31 hb hg_ hnew_
                    clear hg_ hnew_
                    (first | rw [← Ny140.out] at ho31 | (simp only [Int.reduceToNat] at ho31; rw [← Ny140.out] at ho31))
                    have n0_ := Aside0.mk (Kd.R_lower ho31 (below_size (by repeat (first | (with_reducible first | exact HB.out | apply below_alloc | apply pw_below_drewN | apply below_drew1) | exact HB.out))))
                    have n1_ := Aside0.mk (below_step (by repeat (first | (with_reducible first | exact HB.out | apply below_alloc | apply pw_below_drewN | apply below_drew1) | exact HB.out)) hb)
                    clear HB
                    have HO142 := n0_
                    have HB := n1_
                    clear n0_ n1_
                    clear hb ho31
                    obtain ⟨Ao32, co32, eo32⟩ := Kd.R_slice HO142.out
                    subst eo32
                    obtain ⟨ado32, fo32, _⟩ := Kd.at_string (Kd.R_reads' HO142.out).2.2 0 (by decide) (by rw [Ny140.out]; simp)
                    cases fo32
                    refine hK.out _ _ trivial (fun hHeld => ?_)
                    clear hK K
                    refine norm_ (a' := ?_) ?_ ?_
                    rotate_left
                    · show Act.put _ (some 38) _ = _
                      simp only [Act.put, List.setIfInBounds_toArray, List.set_cons_zero, List.set_cons_succ, i64_w, i32_w]
                      rfl
                    refine pure_ (i := 4) (N := some 40) (v := ?_) (a' := ?_) #[true, false, true, true, true, false, false, false, false, false, false, false, false, false, false, false, false, false, false] rfl rfl (any_of HT_.out (by kernel_rfl)) (fun _ _ _ h => h) (Or.inl ⟨by rfl, ?_⟩) ?_ ?_
                    rotate_left
                    · intro w'
                      go_simp
                      with_reducible rfl
                    rotate_left
                    · simp only [Act.put, List.setIfInBounds_toArray, List.set_cons_zero, List.set_cons_succ, i64_w, i32_w]
                      rfl
                    refine two_ (i := 1) (j := 5) (Ni := some 37) (Nj := some 41) #[true, true, true, true, true, false, false, false, false, false, false, false, false, false, false, false, false, false, false] #[true, false, true, true, true, true, false, false, false, false, false, false, false, false, false, false, false, false, false] rfl rfl rfl rfl (two_of HT_.out (by kernel_rfl)) (by decide) (by decide) (fun K hK => ?_) (fun K hK => ?_)
                    · skip
                      refine goes_ Try.func11 (by kernel_rfl) rfl #[.int .i64 a0] (by rfl) rfl rfl (by (try simp only [List.map_toArray, List.map_cons, List.map_nil]); first | done | rfl | (simp only [List.length_drop, List.length_take]; rfl)) ?_
                      with_reducible refine (column_Op_Sign.calls a0 t139 _ A23.out).mono ?_
                      rintro e w33 ⟨rfl, hb⟩
                      refine ⟨_, rfl, ?_⟩
                      have n0_ := Aside0.mk (Kd.R_below (by (with_reducible repeat (first | apply Kd.R_alloc | apply Kd.R_drewN | apply Kd.R_drew)); exact HO142.out) hb)
                      have n1_ := Aside0.mk (below_step (by repeat (first | (with_reducible first | exact HB.out | apply below_alloc | apply pw_below_drewN | apply below_drew1) | exact HB.out)) hb)
                      clear HO142
                      clear HB
                      have HO142 := n0_
                      have HB := n1_
                      clear n0_ n1_
                      (try clear hb)
                      (try clear hb2)
                      (try clear hk)
                      (try clear hi)
                      refine hK.out _ _ trivial (fun hHeld => ?_)
                      clear hK K
                      refine norm_ (a' := ?_) ?_ ?_
                      rotate_left
                      · show Act.put _ (some 37) _ = _
                        simp only [Act.put, List.setIfInBounds_toArray, List.set_cons_zero, List.set_cons_succ, i64_w, i32_w]
                        rfl
                      refine one_ (i := 5) (N := some 41) #[true, true, true, true, true, true, false, false, false, false, false, false, false, false, false, false, false, false, false] rfl rfl (one_of HT_.out (by kernel_rfl)) (by decide) (fun K hK => ?_)
                      (have p143 : 0 ≤ (a0 : Int) := of_decide_eq_true (by first | (with_reducible assumption) | assumption); have q143 : a0 < (y140.length : Int) := of_decide_eq_true (by first | (with_reducible assumption) | assumption); obtain ⟨ad143, e143, hx143_0⟩ := Kd.at_string (Kd.R_reads' HO142.out).2.2 a0 p143 q143; obtain rfl : ado32 = ad143 := (by injection e143))
                      refine value_ (w1 := ?_) (v := ?_) (by rfl) rfl ?_ ?_
                      rotate_left 2
                      · go_simp
                        constructor
                        · rfl
                        · rfl
                      clear hx143_0
                      refine hK.out _ _ trivial (fun hHeld => ?_)
                      clear hK K
                      refine norm_ (a' := ?_) ?_ ?_
                      rotate_left
                      · show Act.put _ (some 41) _ = _
                        simp only [Act.put, List.setIfInBounds_toArray, List.set_cons_zero, List.set_cons_succ, i64_w, i32_w]
                        rfl
                      exact norm_ (by simp only [putAll, Act.put, List.setIfInBounds_toArray, List.set_cons_zero, List.set_cons_succ]) (hCont (.slice (some ado32) y140.length co32, ado32) _ ⟨(by (with_reducible repeat (first | apply Kd.R_alloc | apply Kd.R_drewN | apply Kd.R_drew)); exact HO142.out), ⟨_, rfl⟩, (by repeat (first | (with_reducible first | exact HB.out | apply below_alloc | apply pw_below_drewN | apply below_drew1) | exact HB.out))⟩)
                    · skip
                      (have p143 : 0 ≤ (a0 : Int) := of_decide_eq_true (by first | (with_reducible assumption) | assumption); have q143 : a0 < (y140.length : Int) := of_decide_eq_true (by first | (with_reducible assumption) | assumption); obtain ⟨ad143, e143, hx143_0⟩ := Kd.at_string (Kd.R_reads' HO142.out).2.2 a0 p143 q143; obtain rfl : ado32 = ad143 := (by injection e143))
                      refine value_ (w1 := ?_) (v := ?_) (by rfl) rfl ?_ ?_
                      rotate_left 2
                      · go_simp
                        constructor
                        · rfl
                        · rfl
                      clear hx143_0
                      refine hK.out _ _ trivial (fun hHeld => ?_)
                      clear hK K
                      refine norm_ (a' := ?_) ?_ ?_
                      rotate_left
                      · show Act.put _ (some 41) _ = _
                        simp only [Act.put, List.setIfInBounds_toArray, List.set_cons_zero, List.set_cons_succ, i64_w, i32_w]
                        rfl
                      refine one_ (i := 1) (N := some 37) #[true, true, true, true, true, true, false, false, false, false, false, false, false, false, false, false, false, false, false] rfl rfl (one_of HT_.out (by kernel_rfl)) (by decide) (fun K hK => ?_)
                      refine goes_ Try.func11 (by kernel_rfl) rfl #[.int .i64 a0] (by rfl) rfl rfl (by (try simp only [List.map_toArray, List.map_cons, List.map_nil]); first | done | rfl | (simp only [List.length_drop, List.length_take]; rfl)) ?_
                      with_reducible refine (column_Op_Sign.calls a0 t139 _ A23.out).mono ?_
                      rintro e w33 ⟨rfl, hb⟩
                      refine ⟨_, rfl, ?_⟩
                      have n0_ := Aside0.mk (Kd.R_below (by (with_reducible repeat (first | apply Kd.R_alloc | apply Kd.R_drewN | apply Kd.R_drew)); exact HO142.out) hb)
                      have n1_ := Aside0.mk (below_step (by repeat (first | (with_reducible first | exact HB.out | apply below_alloc | apply pw_below_drewN | apply below_drew1) | exact HB.out)) hb)
                      clear HO142
                      clear HB
                      have HO142 := n0_
                      have HB := n1_
                      clear n0_ n1_
                      (try clear hb)
                      (try clear hb2)
                      (try clear hk)
                      (try clear hi)
                      refine hK.out _ _ trivial (fun hHeld => ?_)
                      clear hK K
                      refine norm_ (a' := ?_) ?_ ?_
                      rotate_left
                      · show Act.put _ (some 37) _ = _
                        simp only [Act.put, List.setIfInBounds_toArray, List.set_cons_zero, List.set_cons_succ, i64_w, i32_w]
                        rfl
                      exact norm_ (by simp only [putAll, Act.put, List.setIfInBounds_toArray, List.set_cons_zero, List.set_cons_succ]) (hCont (.slice (some ado32) y140.length co32, ado32) _ ⟨(by (with_reducible repeat (first | apply Kd.R_alloc | apply Kd.R_drewN | apply Kd.R_drew)); exact HO142.out), ⟨_, rfl⟩, (by repeat (first | (with_reducible first | exact HB.out | apply below_alloc | apply pw_below_drewN | apply below_drew1) | exact HB.out))⟩)
                rintro ⟨v141, adz_v141⟩ w34 ⟨h0_, h1_, h2_⟩
                have n0_ : Aside0 (Kd.R Kd.string 9 w34 w.heap.size (fun _ => True) v141 y140) := ⟨h0_⟩
                have n1_ : Aside0 (∃ c_, (v141 : Value) = .slice (some adz_v141) y140.length c_) := ⟨h1_⟩
                have n2_ : Aside0 (Below w.heap.size w w34) := ⟨h2_⟩
                clear HB
                clear h0_ h1_ h2_
                have HO142 := n0_
                have HA_HO142 := n1_
                have HB := n2_
                clear n0_ n1_ n2_
                have hHeld := trivial
                obtain ⟨co35, eo35⟩ := HA_HO142.out
                clear HA_HO142
                subst eo35
                refine norm_ (a' := ?_) ?_ ?_
                rotate_left
                · simp only [putAll, Act.put, List.setIfInBounds_toArray, List.set_cons_zero, List.set_cons_succ]
                  rfl
                refine pure_ (i := 6) (N := some 42) (v := ?_) (a' := ?_) #[true, true, true, true, true, true, true, false, false, false, false, false, false, false, false, false, false, false, false] rfl rfl (any_of HT_.out (by kernel_rfl)) (fun _ _ _ h => h) (Or.inl ⟨by rfl, ?_⟩) ?_ ?_
                rotate_left
                · intro w'
                  go_simp
                  with_reducible rfl
                rotate_left
                · simp only [Act.put, List.setIfInBounds_toArray, List.set_cons_zero, List.set_cons_succ, i64_w, i32_w]
                  rfl
                refine pure_ (i := 7) (N := some 43) (v := ?_) (a' := ?_) #[true, true, true, true, true, true, true, true, false, false, false, false, false, false, false, false, false, false, false] rfl rfl (any_of HT_.out (by kernel_rfl)) (fun _ _ _ h => h) (Or.inl ⟨by rfl, ?_⟩) ?_ ?_
                rotate_left
                · intro w'
                  go_simp
                  with_reducible rfl
                rotate_left
                · simp only [Act.put, List.setIfInBounds_toArray, List.set_cons_zero, List.set_cons_succ, i64_w, i32_w]
                  rfl
                refine pure_ (i := 8) (N := some 44) (v := ?_) (a' := ?_) #[true, true, true, true, true, true, true, true, true, false, false, false, false, false, false, false, false, false, false] rfl rfl (any_of HT_.out (by kernel_rfl)) (fun _ _ _ h => h) (Or.inl ⟨by rfl, ?_⟩) ?_ ?_
                rotate_left
                · intro w'
                  go_simp
                  with_reducible rfl
                rotate_left
                · simp only [Act.put, List.setIfInBounds_toArray, List.set_cons_zero, List.set_cons_succ, i64_w, i32_w]
                  rfl
                refine pure_ (i := 9) (N := some 45) (v := ?_) (a' := ?_) #[true, true, true, true, true, true, true, true, true, true, false, false, false, false, false, false, false, false, false] rfl rfl (any_of HT_.out (by kernel_rfl)) (fun _ _ _ h => h) (Or.inl ⟨by rfl, ?_⟩) ?_ ?_
                rotate_left
                · intro w'
                  go_simp
                  with_reducible rfl
                rotate_left
                · simp only [Act.put, List.setIfInBounds_toArray, List.set_cons_zero, List.set_cons_succ, i64_w, i32_w]
                  rfl
                refine pure_ (i := 10) (N := some 46) (v := ?_) (a' := ?_) #[true, true, true, true, true, true, true, true, true, true, true, false, false, false, false, false, false, false, false] rfl rfl (any_of HT_.out (by kernel_rfl)) (fun _ _ _ h => h) (Or.inl ⟨by rfl, ?_⟩) ?_ ?_
                rotate_left
                · intro w'
                  go_simp
                  with_reducible rfl
                rotate_left
                · simp only [Act.put, List.setIfInBounds_toArray, List.set_cons_zero, List.set_cons_succ, i64_w, i32_w]
                  rfl
                refine pure_ (i := 12) (N := some 48) (v := ?_) (a' := ?_) #[true, true, true, true, true, true, true, true, true, true, true, false, true, false, false, false, false, false, false] rfl rfl (any_of HT_.out (by kernel_rfl)) (fun _ _ _ h => h) (Or.inl ⟨by rfl, ?_⟩) ?_ ?_
                rotate_left
                · intro w'
                  go_simp
                  with_reducible rfl
                rotate_left
                · simp only [Act.put, List.setIfInBounds_toArray, List.set_cons_zero, List.set_cons_succ, i64_w, i32_w]
                  rfl
                refine pure_ (i := 13) (N := some 49) (v := ?_) (a' := ?_) #[true, true, true, true, true, true, true, true, true, true, true, false, true, true, false, false, false, false, false] rfl rfl (any_of HT_.out (by kernel_rfl)) (fun _ _ _ h => h) (Or.inl ⟨by rfl, ?_⟩) ?_ ?_
                rotate_left
                · intro w'
                  go_simp
                  with_reducible rfl
                rotate_left
                · simp only [Act.put, List.setIfInBounds_toArray, List.set_cons_zero, List.set_cons_succ, i64_w, i32_w]
                  rfl
                refine pure_ (i := 14) (N := some 50) (v := ?_) (a' := ?_) #[true, true, true, true, true, true, true, true, true, true, true, false, true, true, true, false, false, false, false] rfl rfl (any_of HT_.out (by kernel_rfl)) (fun _ _ _ h => h) (Or.inl ⟨by rfl, ?_⟩) ?_ ?_
                rotate_left
                · intro w'
                  go_simp
                  with_reducible rfl
                rotate_left
                · simp only [Act.put, List.setIfInBounds_toArray, List.set_cons_zero, List.set_cons_succ, i64_w, i32_w]
                  rfl
                refine one_ (i := 11) (N := some 47) #[true, true, true, true, true, true, true, true, true, true, true, true, true, true, true, false, false, false, false] rfl rfl (one_of HT_.out (by kernel_rfl)) (by decide) (fun K hK => ?_)
                refine goes_ Try.func12 (by kernel_rfl) rfl #[.int .i64 a0, .int .i64 a1, .int .i64 a2] (by rfl) rfl rfl (by (try simp only [List.map_toArray, List.map_cons, List.map_nil]); first | done | rfl | (simp only [List.length_drop, List.length_take]; rfl)) ?_
                with_reducible refine (column_Holds.calls a0 a1 a2 t144 _ A27.out).mono ?_
                rintro e w' ⟨rfl, ⟨nd, rfl⟩⟩
                refine ⟨_, rfl, ?_⟩
                refine hK.out _ _ trivial (fun hHeld => ?_)
                clear hK K
                refine norm_ (a' := ?_) ?_ ?_
                rotate_left
                · show Act.put _ (some 47) _ = _
                  simp only [Act.put, List.setIfInBounds_toArray, List.set_cons_zero, List.set_cons_succ, i64_w, i32_w]
                  rfl
                refine one_ (i := 15) (N := some 51) #[true, true, true, true, true, true, true, true, true, true, true, true, true, true, true, true, false, false, false] rfl rfl (one_of HT_.out (by kernel_rfl)) (by decide) (fun K hK => ?_)
                refine goes_ Try.func14 (by kernel_rfl) rfl #[.int .i64 a0, .int .i64 a1, .int .i64 a2] (by rfl) rfl rfl (by (try simp only [List.map_toArray, List.map_cons, List.map_nil]); first | done | rfl | (simp only [List.length_drop, List.length_take]; rfl)) ?_
                with_reducible refine (ergolaw03_Holds.calls a0 a1 a2 t145 _ A28.out).mono ?_
                rintro e w36 ⟨rfl, hb⟩
                refine ⟨_, rfl, ?_⟩
                have n0_ := Aside0.mk (Kd.R_below (by (with_reducible repeat (first | apply Kd.R_alloc | apply Kd.R_drewN | apply Kd.R_drew)); exact HO142.out) hb)
                have n1_ := Aside0.mk (below_step (by repeat (first | (with_reducible first | exact HB.out | apply below_alloc | apply pw_below_drewN | apply below_drew1) | exact HB.out)) hb)
                clear HO142
                clear HB
                have HO142 := n0_
                have HB := n1_
                clear n0_ n1_
                (try clear hb)
                (try clear hb2)
                (try clear hk)
                (try clear hi)
                refine hK.out _ _ trivial (fun hHeld => ?_)
                clear hK K
                refine norm_ (a' := ?_) ?_ ?_
                rotate_left
                · show Act.put _ (some 51) _ = _
                  simp only [Act.put, List.setIfInBounds_toArray, List.set_cons_zero, List.set_cons_succ, i64_w, i32_w]
                  rfl
                refine pure_ (i := 16) (N := some 52) (v := ?_) (a' := ?_) #[true, true, true, true, true, true, true, true, true, true, true, true, true, true, true, true, true, false, false] rfl rfl (any_of HT_.out (by kernel_rfl)) (fun _ _ _ h => h) (Or.inl ⟨by rfl, ?_⟩) ?_ ?_
                rotate_left
                · intro w'
                  go_simp
                  with_reducible rfl
                rotate_left
                · simp only [Act.put, List.setIfInBounds_toArray, List.set_cons_zero, List.set_cons_succ, i64_w, i32_w]
                  rfl
                refine pure_ (i := 17) (N := some 53) (v := ?_) (a' := ?_) #[true, true, true, true, true, true, true, true, true, true, true, true, true, true, true, true, true, true, false] rfl rfl (any_of HT_.out (by kernel_rfl)) (fun _ _ _ h => h) (Or.inl ⟨by rfl, ?_⟩) ?_ ?_
                rotate_left
                · intro w'
                  go_simp
                  with_reducible rfl
                rotate_left
                · simp only [Act.put, List.setIfInBounds_toArray, List.set_cons_zero, List.set_cons_succ, i64_w, i32_w]
                  rfl
                refine pure_ (i := 18) (N := some 6) (v := ?_) (a' := ?_) #[true, true, true, true, true, true, true, true, true, true, true, true, true, true, true, true, true, true, true] rfl rfl (any_of HT_.out (by kernel_rfl)) (fun _ _ _ h => h) (Or.inl ⟨by rfl, ?_⟩) ?_ ?_
                rotate_left
                · intro w'
                  go_simp
                  with_reducible rfl
                rotate_left
                · simp only [Act.put, List.setIfInBounds_toArray, List.set_cons_zero, List.set_cons_succ, i64_w, i32_w]
                  rfl
                refine done_ (done_of HT_.out (by kernel_rfl)) ?_
                try go_wp2
                go_ret
                exact ⟨by first | rfl | (simp [errW_none, errW_some] <;> rfl) | (simp [*, errW_none, errW_some] <;> rfl), by repeat (first | (with_reducible first | exact HB.out | apply below_alloc | apply pw_below_drewN | apply below_drew1) | exact HB.out)⟩
              · rw [if_neg c26] at H
                have c26b0 : (t139.toList == (rdOf ByteArray.empty y140 a0).toList) = false := beq_eq_false_iff_ne.mpr c26
                have c26b1 : (t139.toList != (rdOf ByteArray.empty y140 a0).toList) = true := bne_iff_ne.mpr c26
                obtain rfl := Option.some.inj H
                try go_wp2
                have pi143 : (0 ≤ (a0 : Int)) = True := eq_true (of_decide_eq_true (by first | (with_reducible assumption) | assumption))
                have qi143 : (a0 < (y140.length : Int)) = True := eq_true (of_decide_eq_true (by first | (with_reducible assumption) | assumption))
                have n0_ := Aside0.mk (below_drew1 HB.out)
                clear HB
                have HB := n0_
                clear n0_
                refine start_ (n := 19) (S := fun w' => True) (ds := []) #[false, false, false, false, false, false, false, false, false, false, false, false, false, false, false, false, false, false, false] (by kernel_rfl) rfl rfl trivial (fun hHeld => ?_); refine with_tabW ergolaw03_ColumnHolds.tab6 ergolaw03_ColumnHolds.bits6 (fun HT_ HW_ => ?_)
                generalize wc.drew = w37 at HB hHeld ⊢
                refine pure_ (i := 0) (N := some 36) (v := ?_) (a' := ?_) #[true, false, false, false, false, false, false, false, false, false, false, false, false, false, false, false, false, false, false] rfl rfl (any_of HT_.out (by kernel_rfl)) (fun _ _ _ h => h) (Or.inl ⟨by rfl, ?_⟩) ?_ ?_
                rotate_left
                · intro w'
                  go_simp
                  with_reducible rfl
                rotate_left
                · simp only [Act.put, List.setIfInBounds_toArray, List.set_cons_zero, List.set_cons_succ, i64_w, i32_w]
                  rfl
                refine pure_ (i := 3) (N := some 39) (v := ?_) (a' := ?_) #[true, false, false, true, false, false, false, false, false, false, false, false, false, false, false, false, false, false, false] rfl rfl (any_of HT_.out (by kernel_rfl)) (fun _ _ _ h => h) (Or.inl ⟨by rfl, ?_⟩) ?_ ?_
                rotate_left
                · intro w'
                  go_simp
                  with_reducible rfl
                rotate_left
                · simp only [Act.put, List.setIfInBounds_toArray, List.set_cons_zero, List.set_cons_succ, i64_w, i32_w]
                  rfl
                refine inv_at [1, 2, 4, 5, 6, 7, 8, 9, 10, 11, 12, 13, 14, 15, 16, 17, 18] (fun a0_ b a w' => ∃ (v141 : Value) (adz_v141 : Addr) (m4_ : Value), a = putSel a0_ b [(1, 37, .string t139), (2, 38, v141), (4, 40, m4_), (5, 41, .string (rdOf ByteArray.empty y140 a0)), (6, 42, .bool (t139.toList == (rdOf ByteArray.empty y140 a0).toList)), (7, 43, .bool (t139.toList == (rdOf ByteArray.empty y140 a0).toList)), (8, 44, undef), (9, 45, undef), (10, 46, undef), (11, 47, undef), (12, 48, undef), (13, 49, undef), (14, 50, undef), (15, 51, undef), (16, 52, undef), (17, 53, .bool false), (18, 6, .bool false)] ∧ (Below w.heap.size w w') ∧ (b 2 = true → Kd.R Kd.string 9 w' w.heap.size (fun _ => True) v141 y140) ∧ (b 2 = true → ∃ c_, (v141 : Value) = .slice (some adz_v141) y140.length c_) ∧ (b 4 = true → (m4_ : Value) = .pointer (some (adz_v141.add (a0).toNat)))) HT_.out HW_.out (by kernel_rfl) (by kernel_rfl) ?_ ?_ ?_
                · exact ⟨.bool false, ⟨0, 0, none⟩, .bool false, by simp only [putSel, Bool.false_eq_true, if_false], HB.out, fun h_ => absurd h_ (by decide), fun h_ => absurd h_ (by decide), fun h_ => absurd h_ (by decide)⟩
                · skip
                  clear HB
                  refine steps_cons ?_ ?_
                  · rintro b a w' ⟨v141, adz_v141, m4_, ha, Q_HB, Q_HO142, Q_HA_HO142, Q_X4_⟩ hb_ hon hoff
                    refine ⟨_, rfl, fun K hK => ?_⟩
                    have e36 : a.tmps[36]? = some (.int .i64 a0) := by rw [ha]; exact (putSel_off rfl).trans rfl
                    replace ha := Aside0.mk ha
                    have HB := Aside0.mk Q_HB
                    refine goes_ Try.func11 (by kernel_rfl) rfl #[.int .i64 a0] (by rfl) rfl rfl (by first | (simp only [List.map_toArray, List.map_cons, List.map_nil, Act.eval, Array.getD_eq_getD_getElem?, Option.getD_some, e36]; done) | (simp only [List.map_toArray, List.map_cons, List.map_nil, Act.eval, Array.getD_eq_getD_getElem?, Option.getD_some, e36]; rfl)) ?_
                    with_reducible refine (column_Op_Sign.calls a0 t139 _ A23.out).mono ?_
                    rintro e w38 ⟨rfl, hb⟩
                    refine ⟨_, rfl, ?_⟩
                    have n0_ := Aside0.mk (below_step (by repeat (first | (with_reducible first | exact HB.out | apply below_alloc | apply pw_below_drewN | apply below_drew1) | exact HB.out)) hb)
                    have z_HO142 := fun (h0_ : b 2 = true) => (show Kd.R Kd.string 9 w38 w.heap.size (fun _ => True) v141 y140 from by first | exact (Kd.R_below (by (with_reducible repeat (first | apply Kd.R_alloc | apply Kd.R_drewN | apply Kd.R_drew)); exact (Q_HO142 h0_)) hb) | exact Kd.R_mono (Kd.R_below (by (with_reducible repeat (first | apply Kd.R_alloc | apply Kd.R_drewN | apply Kd.R_drew)); exact (Q_HO142 h0_)) hb) (fun _ h_ => by first | trivial | exact h_ | exact h_.1))
                    clear HB
                    have HB := n0_
                    clear n0_
                    (try clear hb)
                    (try clear hb2)
                    (try clear hk)
                    (try clear hi)
                    refine hK.out _ _ ⟨v141, adz_v141, m4_, (by rw [ha.out]; exact putSel_upk 0 hb_ rfl rfl rfl), (by repeat (first | (with_reducible first | exact HB.out | apply below_alloc | apply pw_below_drewN | apply below_drew1) | exact HB.out)), z_HO142, Q_HA_HO142, Q_X4_⟩
                  refine steps_cons ?_ ?_
                  · rintro b a w' ⟨v141, adz_v141, m4_, ha, Q_HB, Q_HO142, Q_HA_HO142, Q_X4_⟩ hb_ hon hoff
                    refine ⟨_, rfl, fun K hK => ?_⟩
                    replace ha := Aside0.mk ha
                    have HB := Aside0.mk Q_HB
                    refine Kd.R_lit_step Kd.string _ 9 ?hg (N := 38) ?hd (xs := ([(⟨#[61]⟩ : ByteArray), (⟨#[33, 61]⟩ : ByteArray), (⟨#[60]⟩ : ByteArray), (⟨#[60, 61]⟩ : ByteArray), (⟨#[62]⟩ : ByteArray), (⟨#[62, 61]⟩ : ByteArray)] : List ByteArray)) (inner := [.string (⟨#[61]⟩ : ByteArray), .string (⟨#[33, 61]⟩ : ByteArray), .string (⟨#[60]⟩ : ByteArray), .string (⟨#[60, 61]⟩ : ByteArray), .string (⟨#[62]⟩ : ByteArray), .string (⟨#[62, 61]⟩ : ByteArray)]) (ok := fun _ => True) (okp := fun _ => True) ?hr ?hp (fun _ hk => hk) trivial (Below.refl _ _) (Nat.le_refl _) (by simp) ?_; (case hd => rfl); (case hg => rfl); (case hr => first | (go_simp; done) | (go_simp; rfl)); (case hp => exact (Reps.one (show Kd.M Kd.string _ _ _ (⟨#[61]⟩ : ByteArray) [.string (⟨#[61]⟩ : ByteArray)] from rfl) (Reps.one (show Kd.M Kd.string _ _ _ (⟨#[33, 61]⟩ : ByteArray) [.string (⟨#[33, 61]⟩ : ByteArray)] from rfl) (Reps.one (show Kd.M Kd.string _ _ _ (⟨#[60]⟩ : ByteArray) [.string (⟨#[60]⟩ : ByteArray)] from rfl) (Reps.one (show Kd.M Kd.string _ _ _ (⟨#[60, 61]⟩ : ByteArray) [.string (⟨#[60, 61]⟩ : ByteArray)] from rfl) (Reps.one (show Kd.M Kd.string _ _ _ (⟨#[62]⟩ : ByteArray) [.string (⟨#[62]⟩ : ByteArray)] from rfl) (Reps.one (show Kd.M Kd.string _ _ _ (⟨#[62, 61]⟩ : ByteArray) [.string (⟨#[62, 61]⟩ : ByteArray)] from rfl) (Reps.none _ _))))))))
                    intro v141 w38 ho39 hb hg_ hnew_
                    clear hg_ hnew_
                    (first | rw [← Ny140.out] at ho39 | (simp only [Int.reduceToNat] at ho39; rw [← Ny140.out] at ho39))
                    have n0_ := Aside0.mk (Kd.R_lower ho39 (below_size (by repeat (first | (with_reducible first | exact HB.out | apply below_alloc | apply pw_below_drewN | apply below_drew1) | exact HB.out))))
                    have n1_ := Aside0.mk (below_step (by repeat (first | (with_reducible first | exact HB.out | apply below_alloc | apply pw_below_drewN | apply below_drew1) | exact HB.out)) hb)
                    clear HB
                    have HO142 := n0_
                    have HB := n1_
                    clear n0_ n1_
                    clear hb ho39
                    obtain ⟨Ao40, co40, eo40⟩ := Kd.R_slice HO142.out
                    subst eo40
                    obtain ⟨ado40, fo40, _⟩ := Kd.at_string (Kd.R_reads' HO142.out).2.2 0 (by decide) (by rw [Ny140.out]; simp)
                    cases fo40
                    refine hK.out _ _ ⟨.slice (some ado40) y140.length co40, ado40, m4_, (by rw [ha.out]; exact putSel_upk 1 hb_ rfl rfl rfl), (by repeat (first | (with_reducible first | exact HB.out | apply below_alloc | apply pw_below_drewN | apply below_drew1) | exact HB.out)), fun _ => (by (with_reducible repeat (first | apply Kd.R_alloc | apply Kd.R_drewN | apply Kd.R_drew)); exact HO142.out), fun _ => ⟨_, rfl⟩, fun h0_ => absurd ((hoff 4 (by kernel_rfl)).symm.trans h0_) (by decide)⟩
                  refine steps_cons ?_ ?_
                  · rintro b a w' ⟨v141, adz_v141, m4_, ha, Q_HB, Q_HO142, Q_HA_HO142, Q_X4_⟩ hb_ hon hoff
                    refine ⟨_, rfl, fun K hK => ?_⟩
                    have e38 : a.tmps[38]? = some (v141) := by rw [ha]; exact putSel_on (e := (2, 38, v141)) 1 rfl rfl (hon 2 (by kernel_rfl)) rfl
                    have e39 : a.tmps[39]? = some (.int .i64 a0) := by rw [ha]; exact (putSel_off rfl).trans rfl
                    replace ha := Aside0.mk ha
                    have HB := Aside0.mk Q_HB
                    have HO142 := Aside0.mk (Q_HO142 (hon 2 (by kernel_rfl)))
                    have HA_HO142 := Aside0.mk (Q_HA_HO142 (hon 2 (by kernel_rfl)))
                    obtain ⟨c_, hv_⟩ := HA_HO142.out
                    rw [hv_] at e38
                    refine value_ (w1 := w') (v := .pointer (some (adz_v141.add (a0).toNat))) (by rfl) rfl ?_ ?_
                    · go_simp
                      (try simp only [i64_w])
                      try rfl
                    refine hK.out _ _ ⟨v141, adz_v141, (.pointer (some (adz_v141.add (a0).toNat))), (by rw [ha.out]; exact putSel_upk 2 hb_ rfl rfl rfl), Q_HB, Q_HO142, Q_HA_HO142, fun _ => rfl⟩
                  refine steps_cons ?_ ?_
                  · rintro b a w' ⟨v141, adz_v141, m4_, ha, Q_HB, Q_HO142, Q_HA_HO142, Q_X4_⟩ hb_ hon hoff
                    refine ⟨_, rfl, fun K hK => ?_⟩
                    have e40 : a.tmps[40]? = some (m4_) := by rw [ha]; exact putSel_on (e := (4, 40, m4_)) 2 rfl rfl (hon 4 (by kernel_rfl)) rfl
                    rw [Q_X4_ (hon 4 (by kernel_rfl))] at e40
                    replace ha := Aside0.mk ha
                    have HB := Aside0.mk Q_HB
                    have HO142 := Aside0.mk (Q_HO142 (hon 2 (by kernel_rfl)))
                    have HA_HO142 := Aside0.mk (Q_HA_HO142 (hon 2 (by kernel_rfl)))
                    obtain ⟨c_, hv_⟩ := HA_HO142.out
                    have hF_ := HO142.out
                    rw [hv_] at hF_
                    obtain ⟨ad_, ea_, hx_⟩ := Kd.at_string (Kd.R_reads' hF_).2.2 a0 (of_eq_true pi143) (of_eq_true qi143)
                    cases ea_
                    refine value_ (w1 := w') (v := .string (rdOf ByteArray.empty y140 a0)) (by rfl) rfl ?_ ?_
                    · go_simp
                      (try simp only [i64_w])
                      try rfl
                    refine hK.out _ _ ⟨v141, adz_v141, m4_, (by rw [ha.out]; exact putSel_upk 3 hb_ rfl rfl rfl), Q_HB, Q_HO142, Q_HA_HO142, Q_X4_⟩
                  refine steps_cons ?_ ?_
                  · rintro b a w' ⟨v141, adz_v141, m4_, ha, Q_HB, Q_HO142, Q_HA_HO142, Q_X4_⟩ hb_ hon hoff
                    refine ⟨_, rfl, fun K hK => ?_⟩
                    have e37 : a.tmps[37]? = some (.string t139) := by rw [ha]; exact putSel_on (e := (1, 37, .string t139)) 0 rfl rfl (hon 1 (by kernel_rfl)) rfl
                    have e41 : a.tmps[41]? = some (.string (rdOf ByteArray.empty y140 a0)) := by rw [ha]; exact putSel_on (e := (5, 41, .string (rdOf ByteArray.empty y140 a0))) 3 rfl rfl (hon 5 (by kernel_rfl)) rfl
                    replace ha := Aside0.mk ha
                    have HB := Aside0.mk Q_HB
                    have HO142 := Aside0.mk (Q_HO142 (hon 2 (by kernel_rfl)))
                    have HA_HO142 := Aside0.mk (Q_HA_HO142 (hon 2 (by kernel_rfl)))
                    refine value_ (w1 := w') (v := .bool (t139.toList == (rdOf ByteArray.empty y140 a0).toList)) (by rfl) rfl ?_ ?_
                    · go_simp
                      (try simp only [i64_w])
                      try rfl
                    refine hK.out _ _ ⟨v141, adz_v141, m4_, (by rw [ha.out]; exact putSel_upk 4 hb_ rfl rfl rfl), Q_HB, Q_HO142, Q_HA_HO142, Q_X4_⟩
                  refine steps_cons ?_ ?_
                  · rintro b a w' ⟨v141, adz_v141, m4_, ha, Q_HB, Q_HO142, Q_HA_HO142, Q_X4_⟩ hb_ hon hoff
                    refine ⟨_, rfl, fun K hK => ?_⟩
                    have e42 : a.tmps[42]? = some (.bool (t139.toList == (rdOf ByteArray.empty y140 a0).toList)) := by rw [ha]; exact putSel_on (e := (6, 42, .bool (t139.toList == (rdOf ByteArray.empty y140 a0).toList))) 4 rfl rfl (hon 6 (by kernel_rfl)) rfl
                    replace ha := Aside0.mk ha
                    have HB := Aside0.mk Q_HB
                    have HO142 := Aside0.mk (Q_HO142 (hon 2 (by kernel_rfl)))
                    have HA_HO142 := Aside0.mk (Q_HA_HO142 (hon 2 (by kernel_rfl)))
                    refine value_ (w1 := w') (v := .bool (t139.toList == (rdOf ByteArray.empty y140 a0).toList)) (by rfl) rfl ?_ ?_
                    · go_simp
                      (try simp only [i64_w])
                      try rfl
                    refine hK.out _ _ ⟨v141, adz_v141, m4_, (by rw [ha.out]; exact putSel_upk 5 hb_ rfl rfl rfl), Q_HB, Q_HO142, Q_HA_HO142, Q_X4_⟩
                  refine steps_cons ?_ ?_
                  · rintro b a w' ⟨v141, adz_v141, m4_, ha, Q_HB, Q_HO142, Q_HA_HO142, Q_X4_⟩ hb_ hon hoff
                    refine ⟨_, rfl, fun K hK => ?_⟩
                    have e43 : a.tmps[43]? = some (.bool (t139.toList == (rdOf ByteArray.empty y140 a0).toList)) := by rw [ha]; exact putSel_on (e := (7, 43, .bool (t139.toList == (rdOf ByteArray.empty y140 a0).toList))) 5 rfl rfl (hon 7 (by kernel_rfl)) rfl
                    replace ha := Aside0.mk ha
                    have HB := Aside0.mk Q_HB
                    have HO142 := Aside0.mk (Q_HO142 (hon 2 (by kernel_rfl)))
                    have HA_HO142 := Aside0.mk (Q_HA_HO142 (hon 2 (by kernel_rfl)))
                    refine off_ (wanted_off rfl rfl rfl (e43.trans (by first | rfl | (simp [*]; done)))) ?_
                    refine hK.out _ _ ⟨v141, adz_v141, m4_, (by rw [ha.out]; exact putSel_upk 6 hb_ rfl rfl rfl), Q_HB, Q_HO142, Q_HA_HO142, Q_X4_⟩
                  refine steps_cons ?_ ?_
                  · rintro b a w' ⟨v141, adz_v141, m4_, ha, Q_HB, Q_HO142, Q_HA_HO142, Q_X4_⟩ hb_ hon hoff
                    refine ⟨_, rfl, fun K hK => ?_⟩
                    have e43 : a.tmps[43]? = some (.bool (t139.toList == (rdOf ByteArray.empty y140 a0).toList)) := by rw [ha]; exact putSel_on (e := (7, 43, .bool (t139.toList == (rdOf ByteArray.empty y140 a0).toList))) 5 rfl rfl (hon 7 (by kernel_rfl)) rfl
                    replace ha := Aside0.mk ha
                    have HB := Aside0.mk Q_HB
                    have HO142 := Aside0.mk (Q_HO142 (hon 2 (by kernel_rfl)))
                    have HA_HO142 := Aside0.mk (Q_HA_HO142 (hon 2 (by kernel_rfl)))
                    refine off_ (wanted_off rfl rfl rfl (e43.trans (by first | rfl | (simp [*]; done)))) ?_
                    refine hK.out _ _ ⟨v141, adz_v141, m4_, (by rw [ha.out]; exact putSel_upk 7 hb_ rfl rfl rfl), Q_HB, Q_HO142, Q_HA_HO142, Q_X4_⟩
                  refine steps_cons ?_ ?_
                  · rintro b a w' ⟨v141, adz_v141, m4_, ha, Q_HB, Q_HO142, Q_HA_HO142, Q_X4_⟩ hb_ hon hoff
                    refine ⟨_, rfl, fun K hK => ?_⟩
                    have e43 : a.tmps[43]? = some (.bool (t139.toList == (rdOf ByteArray.empty y140 a0).toList)) := by rw [ha]; exact putSel_on (e := (7, 43, .bool (t139.toList == (rdOf ByteArray.empty y140 a0).toList))) 5 rfl rfl (hon 7 (by kernel_rfl)) rfl
                    replace ha := Aside0.mk ha
                    have HB := Aside0.mk Q_HB
                    have HO142 := Aside0.mk (Q_HO142 (hon 2 (by kernel_rfl)))
                    have HA_HO142 := Aside0.mk (Q_HA_HO142 (hon 2 (by kernel_rfl)))
                    refine off_ (wanted_off rfl rfl rfl (e43.trans (by first | rfl | (simp [*]; done)))) ?_
                    refine hK.out _ _ ⟨v141, adz_v141, m4_, (by rw [ha.out]; exact putSel_upk 8 hb_ rfl rfl rfl), Q_HB, Q_HO142, Q_HA_HO142, Q_X4_⟩
                  refine steps_cons ?_ ?_
                  · rintro b a w' ⟨v141, adz_v141, m4_, ha, Q_HB, Q_HO142, Q_HA_HO142, Q_X4_⟩ hb_ hon hoff
                    refine ⟨_, rfl, fun K hK => ?_⟩
                    have e43 : a.tmps[43]? = some (.bool (t139.toList == (rdOf ByteArray.empty y140 a0).toList)) := by rw [ha]; exact putSel_on (e := (7, 43, .bool (t139.toList == (rdOf ByteArray.empty y140 a0).toList))) 5 rfl rfl (hon 7 (by kernel_rfl)) rfl
                    replace ha := Aside0.mk ha
                    have HB := Aside0.mk Q_HB
                    have HO142 := Aside0.mk (Q_HO142 (hon 2 (by kernel_rfl)))
                    have HA_HO142 := Aside0.mk (Q_HA_HO142 (hon 2 (by kernel_rfl)))
                    refine off_ (wanted_off rfl rfl rfl (e43.trans (by first | rfl | (simp [*]; done)))) ?_
                    refine hK.out _ _ ⟨v141, adz_v141, m4_, (by rw [ha.out]; exact putSel_upk 9 hb_ rfl rfl rfl), Q_HB, Q_HO142, Q_HA_HO142, Q_X4_⟩
                  refine steps_cons ?_ ?_
                  · rintro b a w' ⟨v141, adz_v141, m4_, ha, Q_HB, Q_HO142, Q_HA_HO142, Q_X4_⟩ hb_ hon hoff
                    refine ⟨_, rfl, fun K hK => ?_⟩
                    have e43 : a.tmps[43]? = some (.bool (t139.toList == (rdOf ByteArray.empty y140 a0).toList)) := by rw [ha]; exact putSel_on (e := (7, 43, .bool (t139.toList == (rdOf ByteArray.empty y140 a0).toList))) 5 rfl rfl (hon 7 (by kernel_rfl)) rfl
                    replace ha := Aside0.mk ha
                    have HB := Aside0.mk Q_HB
                    have HO142 := Aside0.mk (Q_HO142 (hon 2 (by kernel_rfl)))
                    have HA_HO142 := Aside0.mk (Q_HA_HO142 (hon 2 (by kernel_rfl)))
                    refine off_ (wanted_off rfl rfl rfl (e43.trans (by first | rfl | (simp [*]; done)))) ?_
                    refine hK.out _ _ ⟨v141, adz_v141, m4_, (by rw [ha.out]; exact putSel_upk 10 hb_ rfl rfl rfl), Q_HB, Q_HO142, Q_HA_HO142, Q_X4_⟩
                  refine steps_cons ?_ ?_
                  · rintro b a w' ⟨v141, adz_v141, m4_, ha, Q_HB, Q_HO142, Q_HA_HO142, Q_X4_⟩ hb_ hon hoff
                    refine ⟨_, rfl, fun K hK => ?_⟩
                    have e43 : a.tmps[43]? = some (.bool (t139.toList == (rdOf ByteArray.empty y140 a0).toList)) := by rw [ha]; exact putSel_on (e := (7, 43, .bool (t139.toList == (rdOf ByteArray.empty y140 a0).toList))) 5 rfl rfl (hon 7 (by kernel_rfl)) rfl
                    replace ha := Aside0.mk ha
                    have HB := Aside0.mk Q_HB
                    have HO142 := Aside0.mk (Q_HO142 (hon 2 (by kernel_rfl)))
                    have HA_HO142 := Aside0.mk (Q_HA_HO142 (hon 2 (by kernel_rfl)))
                    refine off_ (wanted_off rfl rfl rfl (e43.trans (by first | rfl | (simp [*]; done)))) ?_
                    refine hK.out _ _ ⟨v141, adz_v141, m4_, (by rw [ha.out]; exact putSel_upk 11 hb_ rfl rfl rfl), Q_HB, Q_HO142, Q_HA_HO142, Q_X4_⟩
                  refine steps_cons ?_ ?_
                  · rintro b a w' ⟨v141, adz_v141, m4_, ha, Q_HB, Q_HO142, Q_HA_HO142, Q_X4_⟩ hb_ hon hoff
                    refine ⟨_, rfl, fun K hK => ?_⟩
                    have e43 : a.tmps[43]? = some (.bool (t139.toList == (rdOf ByteArray.empty y140 a0).toList)) := by rw [ha]; exact putSel_on (e := (7, 43, .bool (t139.toList == (rdOf ByteArray.empty y140 a0).toList))) 5 rfl rfl (hon 7 (by kernel_rfl)) rfl
                    replace ha := Aside0.mk ha
                    have HB := Aside0.mk Q_HB
                    have HO142 := Aside0.mk (Q_HO142 (hon 2 (by kernel_rfl)))
                    have HA_HO142 := Aside0.mk (Q_HA_HO142 (hon 2 (by kernel_rfl)))
                    refine off_ (wanted_off rfl rfl rfl (e43.trans (by first | rfl | (simp [*]; done)))) ?_
                    refine hK.out _ _ ⟨v141, adz_v141, m4_, (by rw [ha.out]; exact putSel_upk 12 hb_ rfl rfl rfl), Q_HB, Q_HO142, Q_HA_HO142, Q_X4_⟩
                  refine steps_cons ?_ ?_
                  · rintro b a w' ⟨v141, adz_v141, m4_, ha, Q_HB, Q_HO142, Q_HA_HO142, Q_X4_⟩ hb_ hon hoff
                    refine ⟨_, rfl, fun K hK => ?_⟩
                    have e43 : a.tmps[43]? = some (.bool (t139.toList == (rdOf ByteArray.empty y140 a0).toList)) := by rw [ha]; exact putSel_on (e := (7, 43, .bool (t139.toList == (rdOf ByteArray.empty y140 a0).toList))) 5 rfl rfl (hon 7 (by kernel_rfl)) rfl
                    replace ha := Aside0.mk ha
                    have HB := Aside0.mk Q_HB
                    have HO142 := Aside0.mk (Q_HO142 (hon 2 (by kernel_rfl)))
                    have HA_HO142 := Aside0.mk (Q_HA_HO142 (hon 2 (by kernel_rfl)))
                    refine off_ (wanted_off rfl rfl rfl (e43.trans (by first | rfl | (simp [*]; done)))) ?_
                    refine hK.out _ _ ⟨v141, adz_v141, m4_, (by rw [ha.out]; exact putSel_upk 13 hb_ rfl rfl rfl), Q_HB, Q_HO142, Q_HA_HO142, Q_X4_⟩
                  refine steps_cons ?_ ?_
                  · rintro b a w' ⟨v141, adz_v141, m4_, ha, Q_HB, Q_HO142, Q_HA_HO142, Q_X4_⟩ hb_ hon hoff
                    refine ⟨_, rfl, fun K hK => ?_⟩
                    have e43 : a.tmps[43]? = some (.bool (t139.toList == (rdOf ByteArray.empty y140 a0).toList)) := by rw [ha]; exact putSel_on (e := (7, 43, .bool (t139.toList == (rdOf ByteArray.empty y140 a0).toList))) 5 rfl rfl (hon 7 (by kernel_rfl)) rfl
                    replace ha := Aside0.mk ha
                    have HB := Aside0.mk Q_HB
                    have HO142 := Aside0.mk (Q_HO142 (hon 2 (by kernel_rfl)))
                    have HA_HO142 := Aside0.mk (Q_HA_HO142 (hon 2 (by kernel_rfl)))
                    refine off_ (wanted_off rfl rfl rfl (e43.trans (by first | rfl | (simp [*]; done)))) ?_
                    refine hK.out _ _ ⟨v141, adz_v141, m4_, (by rw [ha.out]; exact putSel_upk 14 hb_ rfl rfl rfl), Q_HB, Q_HO142, Q_HA_HO142, Q_X4_⟩
                  refine steps_cons ?_ ?_
                  · rintro b a w' ⟨v141, adz_v141, m4_, ha, Q_HB, Q_HO142, Q_HA_HO142, Q_X4_⟩ hb_ hon hoff
                    refine ⟨_, rfl, fun K hK => ?_⟩
                    have e43 : a.tmps[43]? = some (.bool (t139.toList == (rdOf ByteArray.empty y140 a0).toList)) := by rw [ha]; exact putSel_on (e := (7, 43, .bool (t139.toList == (rdOf ByteArray.empty y140 a0).toList))) 5 rfl rfl (hon 7 (by kernel_rfl)) rfl
                    have e52 : a.tmps[52]? = some (undef) := by rw [ha]; exact putSel_on (e := (16, 52, undef)) 14 rfl rfl (hon 16 (by kernel_rfl)) rfl
                    replace ha := Aside0.mk ha
                    have HB := Aside0.mk Q_HB
                    have HO142 := Aside0.mk (Q_HO142 (hon 2 (by kernel_rfl)))
                    have HA_HO142 := Aside0.mk (Q_HA_HO142 (hon 2 (by kernel_rfl)))
                    refine value_ (w1 := w') (v := .bool false) (by rfl) rfl ?_ ?_
                    · go_simp
                      (try simp only [i64_w])
                      try rfl
                    refine hK.out _ _ ⟨v141, adz_v141, m4_, (by rw [ha.out]; exact putSel_upk 15 hb_ rfl rfl rfl), Q_HB, Q_HO142, Q_HA_HO142, Q_X4_⟩
                  refine steps_cons ?_ ?_
                  · rintro b a w' ⟨v141, adz_v141, m4_, ha, Q_HB, Q_HO142, Q_HA_HO142, Q_X4_⟩ hb_ hon hoff
                    refine ⟨_, rfl, fun K hK => ?_⟩
                    have e53 : a.tmps[53]? = some (.bool false) := by rw [ha]; exact putSel_on (e := (17, 53, .bool false)) 15 rfl rfl (hon 17 (by kernel_rfl)) rfl
                    replace ha := Aside0.mk ha
                    have HB := Aside0.mk Q_HB
                    have HO142 := Aside0.mk (Q_HO142 (hon 2 (by kernel_rfl)))
                    have HA_HO142 := Aside0.mk (Q_HA_HO142 (hon 2 (by kernel_rfl)))
                    refine value_ (w1 := w') (v := .bool false) (by rfl) rfl ?_ ?_
                    · go_simp
                      (try simp only [i64_w])
                      try rfl
                    refine hK.out _ _ ⟨v141, adz_v141, m4_, (by rw [ha.out]; exact putSel_upk 16 hb_ rfl rfl rfl), Q_HB, Q_HO142, Q_HA_HO142, Q_X4_⟩
                  exact steps_nil
                rintro b a w42 hall ⟨v141, adz_v141, m4_, ha, Q_HB, Q_HO142, Q_HA_HO142, Q_X4_⟩
                clear HB
                have hb1_ := hall 1 (by kernel_rfl)
                have hb2_ := hall 2 (by kernel_rfl)
                have hb4_ := hall 4 (by kernel_rfl)
                have hb5_ := hall 5 (by kernel_rfl)
                have hb6_ := hall 6 (by kernel_rfl)
                have hb7_ := hall 7 (by kernel_rfl)
                have hb8_ := hall 8 (by kernel_rfl)
                have hb9_ := hall 9 (by kernel_rfl)
                have hb10_ := hall 10 (by kernel_rfl)
                have hb11_ := hall 11 (by kernel_rfl)
                have hb12_ := hall 12 (by kernel_rfl)
                have hb13_ := hall 13 (by kernel_rfl)
                have hb14_ := hall 14 (by kernel_rfl)
                have hb15_ := hall 15 (by kernel_rfl)
                have hb16_ := hall 16 (by kernel_rfl)
                have hb17_ := hall 17 (by kernel_rfl)
                have hb18_ := hall 18 (by kernel_rfl)
                subst ha
                obtain rfl := Q_X4_ hb4_
                simp only [putSel, hb1_, hb2_, hb4_, hb5_, hb6_, hb7_, hb8_, hb9_, hb10_, hb11_, hb12_, hb13_, hb14_, hb15_, hb16_, hb17_, hb18_, if_true, Act.put, List.setIfInBounds_toArray, List.set_cons_zero, List.set_cons_succ]
                have HB := Aside0.mk Q_HB
                clear Q_HB
                have HO142 := Aside0.mk (Q_HO142 hb2_)
                clear Q_HO142
                have HA_HO142 := Aside0.mk (Q_HA_HO142 hb2_)
                clear Q_HA_HO142
                clear hall hb1_ hb2_ hb4_ hb5_ hb6_ hb7_ hb8_ hb9_ hb10_ hb11_ hb12_ hb13_ hb14_ hb15_ hb16_ hb17_ hb18_
                obtain ⟨co43, eo43⟩ := HA_HO142.out
                clear HA_HO142
                subst eo43
                try go_wp2
                go_ret
                exact ⟨by first | rfl | (simp [errW_none, errW_some] <;> rfl) | (simp [*, errW_none, errW_some] <;> rfl), by repeat (first | (with_reducible first | exact HB.out | apply below_alloc | apply pw_below_drewN | apply below_drew1) | exact HB.out)⟩
            · rw [if_neg c25] at H
              exact absurd H (by simp)
          · rw [if_neg c24] at H
            exact absurd H (by simp)
  · replace c5 := Bool.eq_false_iff.mpr c5
    subst c5
    have H1 : (some false) = some r := by rw [if_neg (show ¬ (false = true) by decide)] at H; exact H
    clear H
    have H := H1
    clear H1
    obtain rfl := Option.some.inj H
    go_enter Try.func3, Try.ntmps3
    go_wp2_with (first | ((with_reducible refine gate_callee (f := 10) rfl ?_); refine goesL_ (some 8) rfl rfl Try.func10 (by kernel_rfl) rfl #[] rfl (by (try simp only [List.map_toArray, List.map_cons, List.map_nil]); first | done | rfl | (simp only [List.length_drop, List.length_take]; rfl)) ?_; (with_reducible refine (ergolaw03_head.calls k  false _ A4.out).mono ?_); rintro e w44 ⟨rfl, hb⟩; refine ⟨_, rfl, ?_⟩; have n0_ := Aside0.mk (below_step (by repeat (first | (with_reducible first | exact HB.out | apply below_alloc | apply pw_below_drewN | apply below_drew1) | exact HB.out)) hb); clear HB; have HB := n0_; clear n0_; (try clear hb); (try clear hb2); (try clear hk); (try clear hi)))
    go_ret
    exact ⟨by first | rfl | (simp [errW_none, errW_some] <;> rfl) | (simp [*, errW_none, errW_some] <;> rfl), by repeat (first | (with_reducible first | exact HB.out | apply below_alloc | apply pw_below_drewN | apply below_drew1) | exact HB.out)⟩

/-- THE ONE PURE STATEMENT of ergolaw03_ColumnHolds: yours. -/
def ergolaw03_ColumnHolds.Pure : Prop := ∀ (a0 : Int) (a1 : Int) (a2 : Int), (Lit.int .i64 a0).wf = true → (Lit.int .i64 a1).wf = true → (Lit.int .i64 a2).wf = true → ∃ k, ergolaw03_ColumnHolds.f k a0 a1 a2 = some true
theorem ergolaw03_ColumnHolds.walk (P : ergolaw03_ColumnHolds.Pure) (a0 : Int) (a1 : Int) (a2 : Int) (w : World) (w0 : (Lit.int .i64 a0).wf = true) (w1 : (Lit.int .i64 a1).wf = true) (w2 : (Lit.int .i64 a2).wf = true) :
    Calls Try.prog 3 #[.int .i64 a0, .int .i64 a1, .int .i64 a2] w fun e w' => e = .returned (.bool true) ∧ Below w.heap.size w w' := by
  obtain ⟨k, h⟩ := P a0 a1 a2 w0 w1 w2
  refine (ergolaw03_ColumnHolds.calls k a0 a1 a2 true w h).mono ?_
  rintro e w' ⟨rfl, hd⟩
  exact ⟨rfl, hd⟩

end Go.Proofs.Ytpponaflfpafnaa.XAll
