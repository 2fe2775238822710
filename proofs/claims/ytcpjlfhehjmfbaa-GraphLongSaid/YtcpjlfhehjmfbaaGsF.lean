/- Contract: ergolaw17.Components: by the page. -/
import Derived.Test.YtcpjlfhehjmfbaaGsE
namespace Go.Proofs.Ytcpjlfhehjmfbaa.Gr
open Go.RowKit Go.Shelf Go.Proofs.Ytcpjlfhehjmfbaa.Sg
set_option linter.unusedVariables false
set_option linter.unusedSimpArgs false

theorem owns_emptyG (w : World) (B e : Nat) (h : B ≤ w.heap.size) : (w.alloc (.cells #[] e)).ownsRow B e 1 (.slice (some ⟨w.heap.size, 0, none⟩) 0 0) 0 [] :=
  ⟨rfl, .inr ⟨w.heap.size, 0, #[], rfl, h, heap_alloc_new w _, Nat.le_refl _, by unfold maxLen; omega, rfl, rfl⟩⟩
theorem PG.start (w1 : World) (n : Nat) (hn : n < 1000000) : PG w1 ((w1.alloc (Bs n)).alloc (.cells #[] 22)) n w1.heap.size (fun _ => false) (.slice (some ⟨w1.heap.size + 1, 0, none⟩) 0 0) [] [] := by
  have h1 := owns_new w1 w1.heap.size 4 n (.bool false) (Nat.le_refl _) (by omega)
  have h2 := owns_emptyG (w1.alloc (Bs n)) w1.heap.size 22 (by simp)
  rw [World.size_alloc] at h2
  refine ⟨?_, h2, rfl, fun j h => by simp at h, by simp [Value.ownBlock], below_alloc0 (below_alloc0 (Below.refl _ _) _) _⟩
  rw [bools_false]
  exact (Stays.alloc (fun _ => True) _ _).owns h1 (fun _ _ => trivial)
theorem PS.start (A : Adj) (n : Nat) : PS A n (fun _ => false) [] 0 := ⟨Page.nil A n, fun j _ => by simp, rfl⟩
/-- The component under way. -/
structure CP (wi wr : World) (cv : Value) (c : List Nat) : Prop where
  own : wr.ownsRow wi.heap.size 3 1 cv c.length (intsN c)
  below : Below wi.heap.size wi wr
theorem CP.app {wi wr wq : World} {cv v1 : Value} {c : List Nat} {j : Nat} {o : Obj} (h : CP wi wr cv c) (hg : (wr.alloc o).grownBy wq cv.ownBlock) (ho : wq.ownsRow wi.heap.size 3 1 v1 (c.length + 1) (intsN c ++ [.int .i64 (j : Int)])) : CP wi wq v1 (c ++ [j]) :=
  ⟨by rw [List.length_append, intsN_snoc]; exact ho, (below_alloc0 h.below o).grown hg (by have := h.below.size; simp; omega) (fun k e => (h.own.lt k e).1)⟩
theorem CP.form {wi wr : World} {cv : Value} {c : List Nat} (h : CP wi wr cv c) : ∃ A cp, cv = .slice A c.length cp := by
  rcases h.own.2 with ⟨h1, h2⟩ | ⟨b', cap, cur, h1, _⟩
  · exact ⟨none, 0, by rw [h1, h2]⟩
  · exact ⟨_, _, h1⟩
theorem CP.row {w1 wi wr : World} {n bd : Nat} {dn : Nat → Bool} {ov cv : Value} {vals : List Value} {L : List (List Nat)} {c : List Nat} (h : CP wi wr cv c) (hp : PG w1 wi n bd dn ov vals L) (hl : c.length < 1000000) (hc : ∀ x ∈ c, x < 1000000) : RowAt wr (fun k => w1.heap.size ≤ k ∧ k ≠ bd ∧ ov.ownBlock ≠ some k) cv (toRow c) := by
  have h1 := hp.below.size
  have h2 := hp.bd
  refine reads_row.mono (RowAt.of_own' h.own (by simp [toRow]) (by simp [toRow, intsN]) (by simp [toRow]; omega) (fun x hx => ?_)) (fun b hb _ => ⟨by omega, by omega, fun e => ?_⟩)
  · obtain ⟨y, hy, rfl⟩ := List.mem_map.1 hx
    have := hc y hy
    unfold In64
    omega
  · have := (hp.out.lt b e).2
    omega
theorem comp_yes {M : Nat → Nat → Bool} {i j : Nat} (h : sameB M i j = true) : compB M i (j + 1) = compB M i j ++ [j] := by rw [compB, if_pos h]
theorem comp_no {M : Nat → Nat → Bool} {i j : Nat} (h : sameB M i j = false) : compB M i (j + 1) = compB M i j := by rw [compB, h]; simp
def LX (w w' : World) (n : Nat) (v : Value) (A : Adj) : Prop := ∃ L : List (List Nat), RowsAt w' (w.heap.size ≤ ·) v (L.map toRow) ∧ Page A n L ∧ (∀ i, i < n → i ∈ L.flatten) ∧ Below w.heap.size w w'
set_option maxHeartbeats 2000000 in
set_option maxRecDepth 100000 in
theorem law_components_any (w : World) (ok : Nat → Prop) (ev : Value) (es : List Row) (n : Nat) (hE : RowsAt w ok ev es) (hl : es.length = n) (hn : n < 100000) :
    Calls Try.prog 11 #[ev] w fun e w' => ∃ v, e = .returned v ∧ LX w w' n v (adj n es) := by
  obtain ⟨ii, hii, hi0, hi1, hi2⟩ := info_parts info_intG
  obtain ⟨ir, hir, hr0, hr1, hr2⟩ := info_parts info_rowG
  obtain ⟨Ae, ce, hev, he1, he2, he3⟩ := hE.form
  rw [hl] at hev he1 he2
  subst hev
  have RC := Aside0.mk (reach_any w ok _ es n hE hl hn)
  have hmkB := make_bools n (by omega)
  clear hE hl
  go_enter Try.func11, Try.ntmps11
  go_wp2_with fail
  refine RC.out.mono ?_
  rintro e w1 ⟨b, rfl, bs, M, hbb, hM, hbw⟩
  have HBB := Aside0.mk hbb
  have HM := Aside0.mk hM
  have HBW := Aside0.mk hbw
  have P0 := Aside0.mk (PG.start w1 n (by omega))
  have S0 := Aside0.mk (PS.start (adj n es) n)
  clear RC hbb hM hbw
  go_wp2_with fail
  clear hmkB
  obtain ⟨bd, hbd⟩ : ∃ bd, w1.heap.size = bd := ⟨_, rfl⟩
  obtain ⟨ov, hov⟩ : ∃ ov, Value.slice (some ⟨w1.heap.size + 1, 0, none⟩) 0 0 = ov := ⟨_, rfl⟩
  rw [hov] at P0 ⊢
  rw [hbd] at P0 ⊢
  generalize (w1.alloc (Bs n)).alloc (.cells #[] 22) = w2 at P0 ⊢
  clear hbd hov
  go_loopw [6, 7] (fun s6 s7 wq => ∃ (ov : Value) (count : Nat) (dn : Nat → Bool) (vals : List Value) (L : List (List Nat)), s6 = ov ∧ s7 = .int .i64 count ∧ Aside0 (PG w1 wq n bd dn ov vals L) ∧ Aside0 (PS (adj n es) n dn L count)) (fun _ s7 _ => n - (intOf s7).toNat)
  case atStart => exact ⟨ov, 0, _, [], [], rfl, rfl, P0, S0⟩
  case round =>
    clear P0 S0
    obtain ⟨ov, count, dn, vals, L, h6, rfl, HP, HS⟩ := hrel
    replace h6 := h6.symm
    subst h6
    have hcl := HS.out.len
    by_cases hlt : count < n
    · have hlti : (count : Int) < (n : Int) := by omega
      go_wp2_with fail
      go_loopw [6, 7, 8] (fun s6 s7 s8 wq => ∃ i : Nat, s6 = ov ∧ s7 = .int .i64 count ∧ s8 = .int .i64 i ∧ i ≤ n ∧ Aside0 (PG w1 wq n bd dn ov vals L) ∧ Aside0 (∀ i', i' < i → ¬ May (adj n es) n L.flatten i')) (fun _ _ s8 _ => n - (intOf s8).toNat)
      case atStart => exact ⟨0, rfl, rfl, rfl, Nat.zero_le _, HP, ⟨fun i' h => by omega⟩⟩
      case round =>
        clear HP
        obtain ⟨i, h6, rfl, rfl, hi, HP, HN⟩ := hrel
        replace h6 := h6.symm
        subst h6
        by_cases hin : i < n
        · have hini : (i : Int) < (n : Int) := by omega
          have ti : ((i : Nat) : Int).toNat = i := by omega
          obtain ⟨wi, hwi⟩ : ∃ wi, wi = wr := ⟨_, rfl⟩
          subst hwi
          obtain ⟨hdi, -⟩ := HP.out.cell hin
          have C0 : Aside0 (CP wi (wi.alloc (.cells #[] 3)) (.slice (some ⟨wi.heap.size, 0, none⟩) 0 0) (compB M i 0)) := ⟨⟨owns_emptyG wi wi.heap.size 3 (Nat.le_refl _), below_alloc0 (Below.refl _ _) _⟩⟩
          have HO0 : Aside0 ((!dn i) = okB M dn i 0) := ⟨rfl⟩
          go_wp2_with fail
          clear hdi
          obtain ⟨cv, hcv⟩ : ∃ cv, Value.slice (some ⟨wi.heap.size, 0, none⟩) 0 0 = cv := ⟨_, rfl⟩
          rw [hcv] at C0 ⊢
          generalize wi.alloc (.cells #[] 3) = w3 at C0 ⊢
          generalize (!dn i) = ok0 at HO0 ⊢
          clear hcv
          go_loopw [9, 10, 11] (fun s9 s10 s11 wq => ∃ (j : Nat) (okv : Bool) (cv : Value), s9 = .bool okv ∧ s10 = cv ∧ s11 = .int .i64 j ∧ j ≤ n ∧ Aside0 (okv = okB M dn i j) ∧ Aside0 (CP wi wq cv (compB M i j))) (fun _ _ s11 _ => n - (intOf s11).toNat)
          case atStart => exact ⟨0, ok0, cv, rfl, rfl, rfl, Nat.zero_le _, HO0, C0⟩
          case round =>
            clear C0 HO0
            obtain ⟨j, okv, cv, rfl, h10, rfl, hj, HO, HC⟩ := hrel
            replace h10 := h10.symm
            subst h10
            by_cases hjn : j < n
            · have hjni : (j : Int) < (n : Int) := by omega
              have tj : ((j : Nat) : Int).toNat = j := by omega
              have hbb5 := HBB.out.below (below_trans0 HP.out.below HC.out.below)
              obtain ⟨hri, -⟩ := hbb5.row hin (Nat.le_refl _)
              obtain ⟨hrj, -⟩ := hbb5.row hjn (Nat.le_refl _)
              obtain ⟨hij, -⟩ := hbb5.cell hin hjn
              obtain ⟨hji, -⟩ := hbb5.cell hjn hin
              obtain ⟨hdj, -⟩ := (HP.out.kept HC.out.below).cell hjn
              have HSB := Aside0.mk (show sameB M i j = (decide (j = i) || (M i j && M j i)) from rfl)
              have HOB := Aside0.mk (show okB M dn i (j + 1) = (okB M dn i j && (sameB M i j || !M i j || dn j)) from rfl)
              rw [← HO.out] at HOB
              obtain ⟨x, hx⟩ : ∃ x, M i j = x := ⟨_, rfl⟩
              obtain ⟨y, hy⟩ : ∃ y, M j i = y := ⟨_, rfl⟩
              obtain ⟨z, hz⟩ : ∃ z, dn j = z := ⟨_, rfl⟩
              rw [hx] at hij HSB HOB
              rw [hy] at hji HSB
              rw [hz] at hdj HOB
              clear hx hy hz hbb5 HO
              by_cases hji2 : j = i
              · have hjI : (j : Int) = (i : Int) := by omega
                cases okv with
                | false =>
                  have hsb : sameB M i j = true := by rw [HSB.out]; rw [decide_eq_true hji2]; rfl
                  rw [hsb] at HOB
                  have HO2 := Aside0.mk (show false = okB M dn i (j + 1) by rw [HOB.out]; rfl)
                  obtain ⟨cA, cp, hcf⟩ := HC.out.form
                  subst hcf
                  have hcm := compB_len M i j
                  obtain ⟨cl, hcl2⟩ : ∃ cl, (compB M i j).length = cl := ⟨_, rfl⟩
                  have HOW := HC.out.own
                  rw [hcl2] at HOW hcm ⊢
                  replace HOW := Aside0.mk HOW
                  have HCL := Aside0.mk hcl2
                  have HAPP := Aside0.mk (fun (o : Obj) (wq : World) (v1 : Value) hg ho => HC.out.app (j := j) (v1 := v1) (wq := wq) (o := o) hg ho)
                  rw [hcl2] at HAPP
                  rw [← comp_yes hsb] at HAPP
                  rw [hjI] at HAPP
                  have H63 := Aside0.mk (show cl + 1 ≤ maxLen by unfold maxLen; omega)
                  have HBY := Aside0.mk (show (cl + 1) * 8 ≤ 140737488355328 by omega)
                  have HSZ := Aside0.mk HC.out.below.size
                  clear HC HSB HOB hsb hcl2
                  go_wp2_with (at_builtin; refine wpList_append_own_at _ rfl (.tmp 63) (.tmp 65) 22 rfl wi.heap.size 3 ii (.int .i64 0) 1 8 Try.underlying22 hii hi0 hi1 hi2 rfl (by decide) _ _ _ rfl (HOW.out.alloc _) ⟨wr.heap.size, 0, none⟩ 1 1 [Value.int .i64 (i : Int)] rfl rfl (cell_one_newG _ _ _) (by simp [Value.oneCell']) H63.out HBY.out (Nat.le_trans HSZ.out (by simp)) ?_; intro v1 w7 ho hg _ hb; have HC2 := Aside0.mk (HAPP.out _ w7 v1 hg ho); obtain ⟨Av, nv, cw, hv1⟩ := own_slice ho; subst hv1; clear ho hg hb)
                  go_roundw
                  case rel => exact ⟨j + 1, false, _, rfl, rfl, by go_num, by omega, HO2, HC2⟩
                  case measure => simp [intOf]; omega
                | true =>
                  have hsb : sameB M i j = true := by rw [HSB.out]; rw [decide_eq_true hji2]; rfl
                  rw [hsb] at HOB
                  have HO2 := Aside0.mk (show true = okB M dn i (j + 1) by rw [HOB.out]; rfl)
                  obtain ⟨cA, cp, hcf⟩ := HC.out.form
                  subst hcf
                  have hcm := compB_len M i j
                  obtain ⟨cl, hcl2⟩ : ∃ cl, (compB M i j).length = cl := ⟨_, rfl⟩
                  have HOW := HC.out.own
                  rw [hcl2] at HOW hcm ⊢
                  replace HOW := Aside0.mk HOW
                  have HCL := Aside0.mk hcl2
                  have HAPP := Aside0.mk (fun (o : Obj) (wq : World) (v1 : Value) hg ho => HC.out.app (j := j) (v1 := v1) (wq := wq) (o := o) hg ho)
                  rw [hcl2] at HAPP
                  rw [← comp_yes hsb] at HAPP
                  rw [hjI] at HAPP
                  have H63 := Aside0.mk (show cl + 1 ≤ maxLen by unfold maxLen; omega)
                  have HBY := Aside0.mk (show (cl + 1) * 8 ≤ 140737488355328 by omega)
                  have HSZ := Aside0.mk HC.out.below.size
                  clear HC HSB HOB hsb hcl2
                  go_wp2_with (at_builtin; refine wpList_append_own_at _ rfl (.tmp 63) (.tmp 65) 22 rfl wi.heap.size 3 ii (.int .i64 0) 1 8 Try.underlying22 hii hi0 hi1 hi2 rfl (by decide) _ _ _ rfl (HOW.out.alloc _) ⟨wr.heap.size, 0, none⟩ 1 1 [Value.int .i64 (i : Int)] rfl rfl (cell_one_newG _ _ _) (by simp [Value.oneCell']) H63.out HBY.out (Nat.le_trans HSZ.out (by simp)) ?_; intro v1 w7 ho hg _ hb; have HC2 := Aside0.mk (HAPP.out _ w7 v1 hg ho); obtain ⟨Av, nv, cw, hv1⟩ := own_slice ho; subst hv1; clear ho hg hb)
                  go_roundw
                  case rel => exact ⟨j + 1, true, _, rfl, rfl, by go_num, by omega, HO2, HC2⟩
                  case measure => simp [intOf]; omega
              · have hjI : ¬ (j : Int) = (i : Int) := by omega
                have hjI2 : ((j : Int) == (i : Int)) = false := by rw [beq_eq_false_iff_ne]; exact hjI
                cases x with
                | false =>
                  cases okv with
                  | false =>
                    have hsb : sameB M i j = false := by rw [HSB.out]; rw [decide_eq_false hji2]; rfl
                    rw [hsb] at HOB
                    have HO2 := Aside0.mk (show false = okB M dn i (j + 1) by rw [HOB.out]; rfl)
                    have HC2 : Aside0 (CP wi wr cv (compB M i (j + 1))) := ⟨by rw [comp_no hsb]; exact HC.out⟩
                    clear HC HSB HOB hsb
                    go_wp2
                    go_roundw
                    case rel => exact ⟨j + 1, false, _, rfl, rfl, by go_num, by omega, HO2, HC2⟩
                    case measure => simp [intOf]; omega
                  | true =>
                    have hsb : sameB M i j = false := by rw [HSB.out]; rw [decide_eq_false hji2]; rfl
                    rw [hsb] at HOB
                    have HO2 := Aside0.mk (show true = okB M dn i (j + 1) by rw [HOB.out]; rfl)
                    have HC2 : Aside0 (CP wi wr cv (compB M i (j + 1))) := ⟨by rw [comp_no hsb]; exact HC.out⟩
                    clear HC HSB HOB hsb
                    go_wp2
                    go_roundw
                    case rel => exact ⟨j + 1, true, _, rfl, rfl, by go_num, by omega, HO2, HC2⟩
                    case measure => simp [intOf]; omega
                | true =>
                  cases y with
                  | false =>
                    cases okv with
                    | false =>
                      have hsb : sameB M i j = false := by rw [HSB.out]; rw [decide_eq_false hji2]; rfl
                      rw [hsb] at HOB
                      have HO2 := Aside0.mk (show false = okB M dn i (j + 1) by rw [HOB.out]; rfl)
                      have HC2 : Aside0 (CP wi wr cv (compB M i (j + 1))) := ⟨by rw [comp_no hsb]; exact HC.out⟩
                      clear HC HSB HOB hsb
                      go_wp2
                      go_roundw
                      case rel => exact ⟨j + 1, false, _, rfl, rfl, by go_num, by omega, HO2, HC2⟩
                      case measure => simp [intOf]; omega
                    | true =>
                      have hsb : sameB M i j = false := by rw [HSB.out]; rw [decide_eq_false hji2]; rfl
                      rw [hsb] at HOB
                      have HO2 := Aside0.mk (show z = okB M dn i (j + 1) by rw [HOB.out]; rfl)
                      have HC2 : Aside0 (CP wi wr cv (compB M i (j + 1))) := ⟨by rw [comp_no hsb]; exact HC.out⟩
                      clear HC HSB HOB hsb
                      go_wp2
                      go_roundw
                      case rel => exact ⟨j + 1, z, _, rfl, rfl, by go_num, by omega, HO2, HC2⟩
                      case measure => simp [intOf]; omega
                  | true =>
                    cases okv with
                    | false =>
                      have hsb : sameB M i j = true := by rw [HSB.out]; rw [decide_eq_false hji2]; rfl
                      rw [hsb] at HOB
                      have HO2 := Aside0.mk (show false = okB M dn i (j + 1) by rw [HOB.out]; rfl)
                      obtain ⟨cA, cp, hcf⟩ := HC.out.form
                      subst hcf
                      have hcm := compB_len M i j
                      obtain ⟨cl, hcl2⟩ : ∃ cl, (compB M i j).length = cl := ⟨_, rfl⟩
                      have HOW := HC.out.own
                      rw [hcl2] at HOW hcm ⊢
                      replace HOW := Aside0.mk HOW
                      have HCL := Aside0.mk hcl2
                      have HAPP := Aside0.mk (fun (o : Obj) (wq : World) (v1 : Value) hg ho => HC.out.app (j := j) (v1 := v1) (wq := wq) (o := o) hg ho)
                      rw [hcl2] at HAPP
                      rw [← comp_yes hsb] at HAPP
                      have H63 := Aside0.mk (show cl + 1 ≤ maxLen by unfold maxLen; omega)
                      have HBY := Aside0.mk (show (cl + 1) * 8 ≤ 140737488355328 by omega)
                      have HSZ := Aside0.mk HC.out.below.size
                      clear HC HSB HOB hsb hcl2
                      go_wp2_with (at_builtin; refine wpList_append_own_at _ rfl (.tmp 63) (.tmp 65) 22 rfl wi.heap.size 3 ii (.int .i64 0) 1 8 Try.underlying22 hii hi0 hi1 hi2 rfl (by decide) _ _ _ rfl (HOW.out.alloc _) ⟨wr.heap.size, 0, none⟩ 1 1 [Value.int .i64 (j : Int)] rfl rfl (cell_one_newG _ _ _) (by simp [Value.oneCell']) H63.out HBY.out (Nat.le_trans HSZ.out (by simp)) ?_; intro v1 w7 ho hg _ hb; have HC2 := Aside0.mk (HAPP.out _ w7 v1 hg ho); obtain ⟨Av, nv, cw, hv1⟩ := own_slice ho; subst hv1; clear ho hg hb)
                      go_roundw
                      case rel => exact ⟨j + 1, false, _, rfl, rfl, by go_num, by omega, HO2, HC2⟩
                      case measure => simp [intOf]; omega
                    | true =>
                      have hsb : sameB M i j = true := by rw [HSB.out]; rw [decide_eq_false hji2]; rfl
                      rw [hsb] at HOB
                      have HO2 := Aside0.mk (show true = okB M dn i (j + 1) by rw [HOB.out]; rfl)
                      obtain ⟨cA, cp, hcf⟩ := HC.out.form
                      subst hcf
                      have hcm := compB_len M i j
                      obtain ⟨cl, hcl2⟩ : ∃ cl, (compB M i j).length = cl := ⟨_, rfl⟩
                      have HOW := HC.out.own
                      rw [hcl2] at HOW hcm ⊢
                      replace HOW := Aside0.mk HOW
                      have HCL := Aside0.mk hcl2
                      have HAPP := Aside0.mk (fun (o : Obj) (wq : World) (v1 : Value) hg ho => HC.out.app (j := j) (v1 := v1) (wq := wq) (o := o) hg ho)
                      rw [hcl2] at HAPP
                      rw [← comp_yes hsb] at HAPP
                      have H63 := Aside0.mk (show cl + 1 ≤ maxLen by unfold maxLen; omega)
                      have HBY := Aside0.mk (show (cl + 1) * 8 ≤ 140737488355328 by omega)
                      have HSZ := Aside0.mk HC.out.below.size
                      clear HC HSB HOB hsb hcl2
                      go_wp2_with (at_builtin; refine wpList_append_own_at _ rfl (.tmp 63) (.tmp 65) 22 rfl wi.heap.size 3 ii (.int .i64 0) 1 8 Try.underlying22 hii hi0 hi1 hi2 rfl (by decide) _ _ _ rfl (HOW.out.alloc _) ⟨wr.heap.size, 0, none⟩ 1 1 [Value.int .i64 (j : Int)] rfl rfl (cell_one_newG _ _ _) (by simp [Value.oneCell']) H63.out HBY.out (Nat.le_trans HSZ.out (by simp)) ?_; intro v1 w7 ho hg _ hb; have HC2 := Aside0.mk (HAPP.out _ w7 v1 hg ho); obtain ⟨Av, nv, cw, hv1⟩ := own_slice ho; subst hv1; clear ho hg hb)
                      go_roundw
                      case rel => exact ⟨j + 1, true, _, rfl, rfl, by go_num, by omega, HO2, HC2⟩
                      case measure => simp [intOf]; omega
            · obtain rfl : n = j := by omega
              have hjni : ¬ (n : Int) < (n : Int) := by omega
              cases okv with
              | false =>
                have HN2 := Aside0.mk (show ∀ i', i' < i + 1 → ¬ May (adj n es) n L.flatten i' from fun i' hi' hm => by
                  by_cases e : i' = i
                  · subst e
                    have := (okB_may HM.out HS.out.dn hin).2 hm
                    rw [← HO.out] at this
                    cases this
                  · exact HN.out i' (by omega) hm)
                have HP2 := Aside0.mk (HP.out.kept HC.out.below)
                clear HN HP HC HO
                go_wp2
                go_roundw
                case rel => exact ⟨i + 1, rfl, rfl, by go_num, by omega, HP2, HN2⟩
                case measure => simp [intOf]; omega
              | true =>
                obtain ⟨hs1, hs2⟩ := HS.out.next HM.out hin HO.out.symm HN.out
                have hs3 := hs1.len
                have HS2 := Aside0.mk hs1
                have hcm := compB_len M i n
                have HCM := Aside0.mk (show ∀ x ∈ compB M i n, x < n from fun x hx => (mem_compB.1 hx).1)
                obtain ⟨c, hc⟩ : ∃ c, compB M i n = c := ⟨_, rfl⟩
                rw [hc] at HC HS2 hs2 hs3 hcm HCM
                have HP2 : Aside0 (PG w1 wr n bd (markL dn (c.take 0)) ov vals L) := ⟨HP.out.kept HC.out.below⟩
                obtain ⟨cA, cp, hcv⟩ := HC.out.form
                subst hcv
                obtain ⟨cl, hcl2⟩ : ∃ cl, c.length = cl := ⟨_, rfl⟩
                rw [hcl2] at hs2 hs3 hcm HS2 ⊢
                have HCL := Aside0.mk hcl2
                have HC2 : Aside0 (wr.ownsRow wi.heap.size 3 1 (.slice cA cl cp) c.length (intsN c)) := ⟨by rw [← hcl2]; exact HC.out.own⟩
                have HSZ := Aside0.mk HC.out.below.size
                clear hs1 hc HC HO HN hcl2
                obtain ⟨hs31, hs32⟩ := hs3
                clear hs31
                go_wp2_with fail
                go_loopw [91] (fun s91 wq => ∃ k : Nat, s91 = .int .i64 k ∧ k ≤ cl ∧ Aside0 (PG w1 wq n bd (markL dn (c.take k)) ov vals L) ∧ Aside0 (wq.ownsRow wi.heap.size 3 1 (.slice cA cl cp) c.length (intsN c)) ∧ Aside0 (wi.heap.size ≤ wq.heap.size)) (fun s91 _ => cl - (intOf s91).toNat)
                case atStart => exact ⟨0, rfl, Nat.zero_le _, HP2, HC2, HSZ⟩
                case round =>
                  clear HP2 HC2 HSZ
                  obtain ⟨k, rfl, hk, HP2, HC2, HSZ⟩ := hrel
                  by_cases hkl : k < cl
                  · have hkli : (k : Int) < (cl : Int) := by omega
                    have tk : ((k : Nat) : Int).toNat = k := by omega
                    have HKC := Aside0.mk (show k < c.length by rw [HCL.out]; exact hkl)
                    obtain ⟨d, hd⟩ : ∃ d, (c[k]'HKC.out) = d := ⟨_, rfl⟩
                    have hdn : d < n := HCM.out d (by rw [← hd]; exact List.getElem_mem _)
                    have hdni : (d : Int) < (n : Int) := by omega
                    have td : ((d : Nat) : Int).toNat = d := by omega
                    obtain ⟨g, hgA, hdc⟩ : ∃ g, cA = some ⟨g, 0, none⟩ ∧ wr.cell? ⟨g, k, none⟩ = some (.int .i64 (d : Int)) := by
                      have ho := HC2.out
                      rcases ho.2 with ⟨q1, q2⟩ | ⟨q1, q2, q3, q4, _⟩
                      · have := HKC.out; omega
                      · injection q4 with q5 _ _
                        subst q5
                        refine ⟨q1, rfl, ?_⟩
                        rw [HCL.out] at ho
                        rw [ho.cellAt k (by omega)]
                        unfold intsN
                        rw [List.getElem?_map, List.getElem?_eq_getElem HKC.out, hd]
                        rfl
                    subst hgA
                    obtain ⟨hdd, hdf⟩ := HP2.out.cell hdn
                    have HP3 := HP2.out.mark d true
                    rw [← markL_snoc, ← hd, ← List.take_succ_eq_append_getElem HKC.out] at HP3
                    rw [hd] at HP3
                    have HC3 := Aside0.mk (own_setv (g := bd) (j := d) (.bool true) HC2.out (fun e => by
                      have e : g = bd := Option.some.inj e
                      have h1 := World.ownsRow.lt HC2.out g rfl
                      have h2 := HP.out.bd
                      omega))
                    have HSZ3 : Aside0 (wi.heap.size ≤ (wr.setCell ⟨bd, d, none⟩ (.bool true)).heap.size) := ⟨by simp; exact HSZ.out⟩
                    replace HP3 := Aside0.mk HP3
                    clear HP2 HC2 HSZ hd
                    go_wp2
                    go_roundw
                    case rel => exact ⟨k + 1, by go_num, by omega, HP3, HC3, HSZ3⟩
                    case measure => simp [intOf]; omega
                  · obtain rfl : cl = k := by omega
                    have hkli : ¬ (cl : Int) < (cl : Int) := by omega
                    have hp2 := HP2.out
                    rw [← HCL.out, List.take_length] at hp2
                    have hcp : RowAt wr (fun k => w1.heap.size ≤ k ∧ k ≠ bd ∧ ov.ownBlock ≠ some k) (.slice cA cl cp) (toRow c) := by
                      have h1 := HP.out.below.size
                      have h2 := HP.out.bd
                      refine reads_row.mono (RowAt.of_own' HC2.out (by simp [toRow]) (by simp [toRow, intsN]) (by have := HCL.out; simp [toRow]; omega) (fun x hx => ?_)) (fun b hb _ => ⟨by omega, by omega, fun e => ?_⟩)
                      · obtain ⟨y, hy, rfl⟩ := List.mem_map.1 hx
                        have := HCM.out y hy
                        unfold In64
                        omega
                      · have := (HP.out.out.lt b e).2
                        omega
                    have HPUT := Aside0.mk (fun (o : Obj) (wq : World) (ov2 : Value) hg ho hb => hp2.put (ov2 := ov2) (cv := .slice cA cl cp) (c := c) (wq := wq) (o := o) hg ho hb hcp)
                    obtain ⟨oA, on, oc, hov⟩ := own_slice hp2.out
                    have hon : on = vals.length := by
                      rcases hp2.out.2 with ⟨q1, q2⟩ | ⟨q1, q2, q3, q4, _⟩
                      · rw [q1] at hov; injection hov with _ q5 _; omega
                      · rw [q4] at hov; injection hov with _ q5 _; exact q5.symm
                    have hvl : vals.length < 1000000 := by have := hp2.len; omega
                    subst hon
                    subst hov
                    have HOW := Aside0.mk hp2.out
                    obtain ⟨vl, hvl2⟩ : ∃ vl, vals.length = vl := ⟨_, rfl⟩
                    rw [hvl2] at HOW HPUT hvl ⊢
                    have H63 := Aside0.mk (show vl + 1 ≤ maxLen by unfold maxLen; omega)
                    have HBY := Aside0.mk (show (vl + 1) * 24 ≤ 140737488355328 by omega)
                    have HSZ1 := Aside0.mk (show w1.heap.size ≤ wr.heap.size from Nat.le_trans HP.out.below.size HSZ.out)
                    clear hp2 hcp HP2 HC2 HSZ HP hvl2
                    go_wp2_with (at_builtin; refine wpList_append_own_at _ rfl (.tmp 103) (.tmp 105) 24 rfl w1.heap.size 22 ir (.slice none 0 0) 1 24 Try.underlying24 hir hr0 hr1 hr2 rfl (by decide) _ _ _ rfl (HOW.out.alloc _) ⟨wr.heap.size, 0, none⟩ 1 1 [Value.slice cA cl cp] rfl rfl (cell_one_newG _ _ _) (by simp [Value.oneCell']) H63.out HBY.out (Nat.le_trans HSZ1.out (by simp)) ?_; intro v1 w7 ho hg _ hb; have PW := Aside0.mk (HPUT.out _ w7 v1 hg ho hb); obtain ⟨Av, nv, cw, hv1⟩ := own_slice ho; subst hv1; clear ho hg hb)
                    go_roundw
                    case rel => exact ⟨_, count + cl, _, _, _, rfl, by go_num, PW, HS2⟩
                    case measure => simp [intOf]; omega
        · exfalso
          obtain rfl : n = i := by omega
          obtain ⟨i0, hi0⟩ := next_ex adj_edge L.flatten (left_one (by rw [← HS.out.count]; exact hlt))
          exact HN.out i0 hi0.1.1 hi0.1
    · have hlti : ¬ (count : Int) < (n : Int) := by omega
      have HF := Aside0.mk (HS.out.total hlt)
      have HR := Aside0.mk (HP.out.result (by omega))
      have HBX := Aside0.mk (below_trans0 HBW.out HP.out.below)
      go_wp2
      go_ret
      exact ⟨_, rfl, L, reads_rows.mono HR.out (fun b hb _ => Nat.le_trans HBW.out.size hb), HS.out.page, HF.out, HBX.out⟩
end Go.Proofs.Ytcpjlfhehjmfbaa.Gr
