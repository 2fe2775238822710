/- Contract: ergolaw17.Edges: a graph, by pairs of numbers. -/
import Derived.Test.YtcpjlfhehjmfbaaGrQ
namespace Go.Proofs.Ytcpjlfhehjmfbaa.Gr
open Go.RowKit Go.Shelf Go.Proofs.Ytcpjlfhehjmfbaa.Sg
set_option linter.unusedVariables false
set_option linter.unusedSimpArgs false

/-- The graph so far. -/
structure EG (w wr : World) (n b : Nat) (vs : Nat → Value) (K : Nat → List Nat) (i : Nat) : Prop where
  ll : LLat wr w.heap.size n b vs K
  lt : ∀ c, c < n → ∀ x ∈ K c, x < n
  len : ∀ c, (K c).length ≤ i
  below : Below w.heap.size w wr
theorem EG.drew {w wr : World} {n b : Nat} {vs : Nat → Value} {K : Nat → List Nat} {i : Nat} (h : EG w wr n b vs K i) : EG w wr.drew n b vs K i :=
  ⟨h.ll.below (below_drew (Below.refl _ _)), h.lt, h.len, below_drew h.below⟩
theorem EG.app {w wr w3 : World} {n b c x i : Nat} {vs : Nat → Value} {v1 : Value} {K : Nat → List Nat} {o : Obj} (h : EG w wr n b vs K i) (hc : c < n) (hx : x < n) (hg : (wr.alloc o).grownBy w3 (vs c).ownBlock)
    (ho : w3.ownsRow w.heap.size 3 1 v1 ((K c).length + 1) (intsN (K c) ++ [.int .i64 (x : Int)])) (hb : v1.ownBlock = (vs c).ownBlock ∨ v1.ownBlock = some (wr.alloc o).heap.size) :
    EG w (w3.setCell ⟨b, c, none⟩ v1) n b (upd vs c v1) (upd K c (K c ++ [x])) (i + 2) ∧ w3.cell? ⟨b, c, none⟩ = some (vs c) ∧ w3.frozen? ⟨b, c, none⟩ = false ∧ Below w.heap.size w w3 := by
  obtain ⟨q1, q2, q3, q4, q5⟩ := h.ll.app hc hg ho hb
  have k0 : Kept wr w3 (LF n b vs) := Kept.of_grown hg ((Kept.refl wr _).alloc o) (fun k e => .inl (.inr ⟨_, hc, e⟩))
  have hs := h.below.size
  refine ⟨⟨q1, fun d hd y hy => ?_, fun d => ?_, h.below.trans (q2.below hs (fun k hk => (h.ll.ge k hk).1))⟩, q4, q5, h.below.trans (k0.below hs (fun k hk => (h.ll.ge k hk).1))⟩
  · by_cases e : d = c
    · subst e
      rw [upd_same] at hy
      rcases List.mem_append.1 hy with q | q
      · exact h.lt d hd y q
      · rw [List.mem_singleton] at q; subst q; exact hx
    · rw [upd_ne _ _ _ e] at hy; exact h.lt d hd y hy
  · have hl := h.len
    by_cases e : d = c
    · subst e; rw [upd_same, List.length_append]; have := hl d; simp; omega
    · rw [upd_ne _ _ _ e]; have := hl d; omega
theorem EG.start (w : World) (n : Nat) (hn : n < 1000000) : EG w (w.alloc (Ns n)) n w.heap.size (fun _ => .slice none 0 0) (fun _ => []) 0 :=
  ⟨LLat.new w w.heap.size n (Nat.le_refl _) hn, fun _ _ x h => by simp at h, fun _ => by simp, below_alloc0 (Below.refl _ _) _⟩
theorem small_succ {i : Nat} (h : i < 2000) : IntKind.i64.wrap ((i : Int) + 1) = (i : Int) + 1 ∧ wrap64 ((i : Int) + 1) = (i : Int) + 1 ∧ (0 : Int) ≤ (i : Int) + 1 :=
  ⟨by rw [IntKind.wrap_i64]; omega, by unfold wrap64; omega, by omega⟩
theorem small_mod {n : Nat} (h : 0 < n) (h2 : n < 1000) : IntKind.u64.wrap (n : Int) = (n : Int) ∧ ¬ (n : Int) = 0 ∧ ((n : Int) == 0) = false ∧ n ≠ 0 :=
  ⟨by rw [IntKind.wrap_u64]; omega, by omega, by rw [beq_eq_false_iff_ne]; omega, by omega⟩
/-- The remainder of a number that is read as one without a sign. -/
def um (x : Int) (n : Nat) : Nat := ((IntKind.u64.wrap x).tmod (n : Int)).toNat
theorem um_eq (x : Int) {n : Nat} (hn : 0 < n) (hn2 : n < 1000) : wrap64 ((IntKind.u64.wrap x).tmod (n : Int)) = (um x n : Int) ∧ IntKind.i64.wrap ((IntKind.u64.wrap x).tmod (n : Int)) = (um x n : Int) ∧ um x n < n := by
  have hw : 0 ≤ IntKind.u64.wrap x := by rw [IntKind.wrap_u64]; omega
  have h1 : (IntKind.u64.wrap x).tmod (n : Int) = (IntKind.u64.wrap x) % (n : Int) := Int.tmod_eq_emod_of_nonneg hw
  have h2 := Int.emod_nonneg (IntKind.u64.wrap x) (b := (n : Int)) (by omega)
  have h3 := Int.emod_lt_of_pos (IntKind.u64.wrap x) (b := (n : Int)) (by omega)
  unfold um
  rw [h1]
  generalize (IntKind.u64.wrap x) % (n : Int) = r at h2 h3
  refine ⟨?_, ?_, by omega⟩
  · unfold wrap64; omega
  · rw [IntKind.wrap_i64]; omega
def EGx (w w' : World) (n b : Nat) : Prop := ∃ (vs : Nat → Value) (K : Nat → List Nat), EG w w' n b vs K 1001
set_option maxHeartbeats 2000000 in
set_option maxRecDepth 100000 in
theorem edges_any (w : World) (n : Nat) (hn : n < 1000) (ok : Nat → Prop) (pv : Value) (ps : Row) (h : RowAt w ok pv ps) (hl : ps.length ≤ 1000) :
    Calls Try.prog 8 #[.int .i64 (n : Int), pv] w fun e w' => ∃ b : Nat, e = .returned (.slice (some ⟨b, 0, none⟩) n n) ∧ EGx w w' n b := by
  have mixed : Try.prog.follows .mixedOrders = true := by kernel_rfl
  obtain ⟨ii, hii, hi0, hi1, hi2⟩ := info_parts info_intG
  obtain ⟨A1, c1, rfl, ha1, ha2, ha3⟩ := h.form
  have H := Aside0.mk h
  obtain ⟨la, hla⟩ : ∃ la, ps.length = la := ⟨_, rfl⟩
  have HLA := Aside0.mk hla
  rw [hla] at ha1 ha2 hl
  rw [hla]
  clear h hla
  have hmkL := make_lists n (by omega)
  go_enter Try.func8, Try.ntmps8
  go_wp2_with fail
  have E0 := Aside0.mk (EG.start w n (by omega))
  clear hmkL
  obtain ⟨b, hb⟩ : ∃ b, w.heap.size = b := ⟨_, rfl⟩
  rw [hb] at E0 ⊢
  generalize w.alloc (Ns n) = w1 at E0 ⊢
  go_loopw [6] (fun s6 wq => ∃ (i : Nat) (vs : Nat → Value) (K : Nat → List Nat), s6 = .int .i64 i ∧ i ≤ la + 1 ∧ Aside0 (EG w wq n b vs K i)) (fun s6 _ => la + 2 - (intOf s6).toNat)
  case atStart => exact ⟨0, _, _, rfl, Nat.zero_le _, E0⟩
  case round =>
    clear E0
    obtain ⟨i, vs, K, rfl, hi, HE⟩ := hrel
    by_cases hlt : i + 1 < la
    · have hlti : (i : Int) + 1 < (la : Int) := by omega
      by_cases hn0 : 0 < n
      · have hn0i : (0 : Int) < (n : Int) := by omega
        have ti : ((i : Nat) : Int).toNat = i := by omega
        have ti1 : ((i : Int) + 1).toNat = i + 1 := by omega
        have HIA := Aside0.mk (show i < ps.length by rw [HLA.out]; omega)
        have HIB := Aside0.mk (show i + 1 < ps.length by rw [HLA.out]; omega)
        obtain ⟨b1, o1, u1, rfl, -, -, hc1, hv1, hx1⟩ := H.out.at_ i HIA.out
        obtain ⟨b2, o2, u2, hAA, -, -, hc2, hv2, hx2⟩ := H.out.at_ (i + 1) HIB.out
        injection hAA with hAA
        injection hAA with e1 e2
        subst e1
        subst e2
        subst hv1
        subst hv2
        generalize ps[i]'HIA.out = x at hc1 hx1
        generalize ps[i + 1]'HIB.out = y at hc2 hx2
        have hc1' := below_cell0 HE.out.below hc1
        obtain ⟨x1, x2⟩ := hx1
        obtain ⟨y1, y2⟩ := hx2
        have CY := Aside0.mk (fun (W : World) (hW : Below w.heap.size w W) => below_cell0 hW hc2)
        clear hc1 hc2
        go_upto_region 6 with fail
        obtain ⟨hxe, -, hxl⟩ := um_eq x hn0 hn
        obtain ⟨-, hye, hyl⟩ := um_eq y hn0 hn
        rw [hxe]
        generalize um x n = a at hxe hxl ⊢
        generalize um y n = d at hye hyl
        have HXL := Aside0.mk hxl
        have HYL := Aside0.mk hyl
        have HYE := Aside0.mk hye
        have hai : (a : Int) < (n : Int) := by omega
        have ta : ((a : Nat) : Int).toNat = a := by omega
        have HI1 := Aside0.mk (show i < 2000 by omega)
        have hac := HE.out.len a
        obtain ⟨ka, hka⟩ : ∃ ka, (K a).length = ka := ⟨_, rfl⟩
        rw [hka] at hac
        have HKA := Aside0.mk hka
        have H63 := Aside0.mk (show ka + 1 ≤ maxLen by unfold maxLen; omega)
        have HBY := Aside0.mk (show (ka + 1) * 8 ≤ 140737488355328 by omega)
        clear hxe hka hye
        obtain ⟨w1, -, w3⟩ := small_succ HI1.out
        obtain ⟨w4, w5, w6, w7z⟩ := small_mod hn0 hn
        have hcy6 := CY.out _ HE.out.drew.below
        refine wp_region_held_drew mixed (S := fun w' => w'.cell? ⟨b1, o1 + (i + 1), none⟩ = some (.int .i64 y)) (by exact hcy6) (fun hHeld => ?_)
        have HM7 := Aside0.mk HE.out.drew
        obtain ⟨hcc5, -⟩ := HM7.out.ll.cell HXL.out
        clear HE hcy6 hc1'
        generalize wr.drew = w7 at HM7 hHeld hcc5 ⊢
        obtain ⟨A5, cp5, hv5⟩ := HM7.out.ll.form HXL.out
        have hw5 := HM7.out.ll.rows a HXL.out
        rw [hv5] at hcc5 hw5
        rw [HKA.out] at hcc5 hw5
        have OW5 := Aside0.mk hw5
        have hv5' := hv5
        rw [HKA.out] at hv5'
        have HV5 := Aside0.mk hv5'
        have HSZ := Aside0.mk HM7.out.below.size
        clear hw5 hv5 hv5'
        refine takeH (i := 0) (v := ?_) rfl rfl (by kernel_rfl) (by kernel_rfl) (by kernel_rfl) (fun _ _ _ h => h) (by rfl) ?_ hHeld ?_
        rotate_left
        · (intro w hSw); (try dsimp only at hSw); go_simp; try with_reducible rfl
        try simp only [List.setIfInBounds_toArray, List.set_cons_zero, List.set_cons_succ]
        refine takeH (i := 1) (v := ?_) rfl rfl (by kernel_rfl) (by kernel_rfl) (by kernel_rfl) (fun _ _ _ h => h) (by rfl) ?_ hHeld ?_
        rotate_left
        · (intro w hSw); (try dsimp only at hSw); go_simp; try with_reducible rfl
        try simp only [List.setIfInBounds_toArray, List.set_cons_zero, List.set_cons_succ]
        refine takeH (i := 2) (v := ?_) rfl rfl (by kernel_rfl) (by kernel_rfl) (by kernel_rfl) (fun _ _ _ h => h) (by rfl) ?_ hHeld ?_
        rotate_left
        · (intro w hSw); (try dsimp only at hSw); go_simp; try with_reducible rfl
        try simp only [List.setIfInBounds_toArray, List.set_cons_zero, List.set_cons_succ]
        refine takeH (i := 3) (v := ?_) rfl rfl (by kernel_rfl) (by kernel_rfl) (by kernel_rfl) (fun _ _ _ h => h) (by rfl) ?_ hHeld ?_
        rotate_left
        · (intro w hSw); (try dsimp only at hSw); go_simp; try with_reducible rfl
        try simp only [List.setIfInBounds_toArray, List.set_cons_zero, List.set_cons_succ]
        refine takeH (i := 4) (v := ?_) rfl rfl (by kernel_rfl) (by kernel_rfl) (by kernel_rfl) (fun _ _ _ h => h) (by rfl) ?_ hHeld ?_
        rotate_left
        · (intro w hSw); (try dsimp only at hSw); go_simp; try with_reducible rfl
        try simp only [List.setIfInBounds_toArray, List.set_cons_zero, List.set_cons_succ]
        refine takeH (i := 6) (v := ?_) rfl rfl (by kernel_rfl) (by kernel_rfl) (by kernel_rfl) (fun _ _ _ h => h) (by rfl) ?_ hHeld ?_
        rotate_left
        · (intro w hSw); (try dsimp only at hSw); go_simp; try with_reducible rfl
        try simp only [List.setIfInBounds_toArray, List.set_cons_zero, List.set_cons_succ]
        refine takeH (i := 7) (v := ?_) rfl rfl (by kernel_rfl) (by kernel_rfl) (by kernel_rfl) (fun _ _ _ h => h) (by rfl) ?_ hHeld ?_
        rotate_left
        · (intro w hSw); (try dsimp only at hSw); go_simp; try with_reducible rfl
        try simp only [List.setIfInBounds_toArray, List.set_cons_zero, List.set_cons_succ]
        refine takeH (i := 8) (v := ?_) rfl rfl (by kernel_rfl) (by kernel_rfl) (by kernel_rfl) (fun _ _ _ h => h) (by rfl) ?_ hHeld ?_
        rotate_left
        · (intro w hSw); (try dsimp only at hSw); go_simp; try with_reducible rfl
        try simp only [List.setIfInBounds_toArray, List.set_cons_zero, List.set_cons_succ]
        refine takeH (i := 9) (v := ?_) rfl rfl (by kernel_rfl) (by kernel_rfl) (by kernel_rfl) (fun _ _ _ h => h) (by rfl) ?_ hHeld ?_
        rotate_left
        · (intro w hSw); (try dsimp only at hSw); go_simp; try with_reducible rfl
        try simp only [List.setIfInBounds_toArray, List.set_cons_zero, List.set_cons_succ]
        refine takeH (i := 10) (v := ?_) rfl rfl (by kernel_rfl) (by kernel_rfl) (by kernel_rfl) (fun _ _ _ h => h) (by rfl) ?_ hHeld ?_
        rotate_left
        · (intro w hSw); (try dsimp only at hSw); go_simp; try with_reducible rfl
        try simp only [List.setIfInBounds_toArray, List.set_cons_zero, List.set_cons_succ]
        refine takeH (i := 11) (v := ?_) rfl rfl (by kernel_rfl) (by kernel_rfl) (by kernel_rfl) (fun _ _ _ h => h) (by rfl) ?_ hHeld ?_
        rotate_left
        · (intro w hSw); (try dsimp only at hSw); go_simp; try with_reducible rfl
        try simp only [List.setIfInBounds_toArray, List.set_cons_zero, List.set_cons_succ]
        refine takeH (i := 12) (v := ?_) rfl rfl (by kernel_rfl) (by kernel_rfl) (by kernel_rfl) (fun _ _ _ h => h) (by rfl) ?_ hHeld ?_
        rotate_left
        · (intro w hSw); (try dsimp only at hSw); go_simp; try with_reducible rfl
        try simp only [List.setIfInBounds_toArray, List.set_cons_zero, List.set_cons_succ]
        refine takeH (i := 13) (v := ?_) rfl rfl (by kernel_rfl) (by kernel_rfl) (by kernel_rfl) (fun _ _ _ h => h) (by rfl) ?_ hHeld ?_
        rotate_left
        · (intro w hSw); (try dsimp only at hSw); go_simp; try with_reducible rfl
        try simp only [List.setIfInBounds_toArray, List.set_cons_zero, List.set_cons_succ]
        refine takeH (i := 14) (v := ?_) rfl rfl (by kernel_rfl) (by kernel_rfl) (by kernel_rfl) (fun _ _ _ h => h) (by rfl) ?_ hHeld ?_
        rotate_left
        · (intro w hSw); (try dsimp only at hSw); go_simp; try with_reducible rfl
        try simp only [List.setIfInBounds_toArray, List.set_cons_zero, List.set_cons_succ]
        refine takeH (i := 15) (v := ?_) rfl rfl (by kernel_rfl) (by kernel_rfl) (by kernel_rfl) (fun _ _ _ h => h) (by rfl) ?_ hHeld ?_
        rotate_left
        · (intro w hSw); (try dsimp only at hSw); go_simp; try with_reducible rfl
        try simp only [List.setIfInBounds_toArray, List.set_cons_zero, List.set_cons_succ]
        simp only [HYE.out]
        refine wpAnyH_ready (rs := [5, 16]) (by kernel_rfl) (by simp) (comeC rfl (by rfl) (fun KK hKK => ?_) (comeC rfl (by rfl) (fun KK hKK => ?_) AllReadyH.nil))
        · have hq5 := hcc5
          go_simp
          refine hKK.out _ _ (by exact hHeld) (fun hHeld => ?_)
          clear hKK KK
          try simp only [Act.put, List.setIfInBounds_toArray, List.set_cons_zero, List.set_cons_succ]
          refine comeH (i := 16) rfl (by kernel_rfl) (by rfl) (fun KK hKK => ?_)
          go_simp
          refine hKK.out _ _ (by exact below_cell0 (below_alloc0 (Below.refl _ _) _) hHeld) (fun hHeld => ?_)
          clear hKK KK
          try simp only [Act.put, List.setIfInBounds_toArray, List.set_cons_zero, List.set_cons_succ]
          refine comeH (i := 17) rfl (by kernel_rfl) (by rfl) (fun KK hKK => ?_)
          refine oper_append_own (.tmp 35) (.tmp 46) 22 rfl w.heap.size 3 ii (.int .i64 0) 1 8 Try.underlying22 hii hi0 hi1 hi2 rfl (by decide) (.slice A5 ka cp5) ka (intsN (K a)) rfl (OW5.out.alloc _) ⟨w7.heap.size, 0, none⟩ 1 1 [.int .i64 (d : Int)] rfl rfl (cell_one_newG _ _ _) (by simp [Value.oneCell']) H63.out HBY.out (Nat.le_trans HSZ.out (by simp)) ?_
          intro v1 w8 ho hg hbo
          have PW := Aside0.mk (HM7.out.app (x := d) HXL.out HYL.out (by rw [HV5.out]; exact hg) (by rw [HKA.out]; exact ho) (by rw [HV5.out]; exact hbo))
          have hcy8 := CY.out _ PW.out.2.2.2
          have hcy9 := CY.out _ PW.out.1.below
          have hcc7 := PW.out.2.1
          have hz7 := PW.out.2.2.1
          obtain ⟨A7, n7, cp7, hv7⟩ := own_slice ho
          subst hv7
          clear ho hg hbo
          refine hKK.out _ _ (by exact hcy8) (fun hHeld => ?_)
          clear hKK KK
          try simp only [Act.put, List.setIfInBounds_toArray, List.set_cons_zero, List.set_cons_succ]
          refine takeH (i := 18) (v := ?_) rfl rfl (by kernel_rfl) (by kernel_rfl) (by kernel_rfl) (fun _ _ _ h => h) (by rfl) ?_ hHeld ?_
          rotate_left
          · (intro w hSw); (try dsimp only at hSw); go_simp; try with_reducible rfl
          try simp only [List.setIfInBounds_toArray, List.set_cons_zero, List.set_cons_succ]
          refine comeH (i := 19) rfl (by kernel_rfl) (by rfl) (fun KK hKK => ?_)
          go_simp
          refine hKK.out _ _ (by exact hcy9) (fun hHeld => ?_)
          clear hKK KK
          try simp only [Act.put, List.setIfInBounds_toArray, List.set_cons_zero, List.set_cons_succ]
          refine wpAnyH_done (by kernel_rfl) ?_ _
          have HM9 := Aside0.mk PW.out.1
          clear PW hcy8 hcy9 hcc7 hz7 hHeld HM7
          generalize w8.setCell ⟨b, a, none⟩ (.slice A7 n7 cp7) = w9 at HM9 ⊢
          go_wp2
          go_roundw
          case rel => exact ⟨i + 2, _, _, by go_num, by omega, HM9⟩
          case measure => simp [intOf]; omega
        · go_simp
          refine hKK.out _ _ (by exact below_cell0 (below_alloc0 (Below.refl _ _) _) hHeld) (fun hHeld => ?_)
          clear hKK KK
          try simp only [Act.put, List.setIfInBounds_toArray, List.set_cons_zero, List.set_cons_succ]
          refine comeH (i := 5) rfl (by kernel_rfl) (by rfl) (fun KK hKK => ?_)
          have hq5 := below_cell0 (below_alloc0 (Below.refl _ _) (.cells #[.int .i64 (d : Int)] 3)) hcc5
          go_simp
          refine hKK.out _ _ (by exact hHeld) (fun hHeld => ?_)
          clear hKK KK
          try simp only [Act.put, List.setIfInBounds_toArray, List.set_cons_zero, List.set_cons_succ]
          refine comeH (i := 17) rfl (by kernel_rfl) (by rfl) (fun KK hKK => ?_)
          refine oper_append_own (.tmp 35) (.tmp 46) 22 rfl w.heap.size 3 ii (.int .i64 0) 1 8 Try.underlying22 hii hi0 hi1 hi2 rfl (by decide) (.slice A5 ka cp5) ka (intsN (K a)) rfl (OW5.out.alloc _) ⟨w7.heap.size, 0, none⟩ 1 1 [.int .i64 (d : Int)] rfl rfl (cell_one_newG _ _ _) (by simp [Value.oneCell']) H63.out HBY.out (Nat.le_trans HSZ.out (by simp)) ?_
          intro v1 w8 ho hg hbo
          have PW := Aside0.mk (HM7.out.app (x := d) HXL.out HYL.out (by rw [HV5.out]; exact hg) (by rw [HKA.out]; exact ho) (by rw [HV5.out]; exact hbo))
          have hcy8 := CY.out _ PW.out.2.2.2
          have hcy9 := CY.out _ PW.out.1.below
          have hcc7 := PW.out.2.1
          have hz7 := PW.out.2.2.1
          obtain ⟨A7, n7, cp7, hv7⟩ := own_slice ho
          subst hv7
          clear ho hg hbo
          refine hKK.out _ _ (by exact hcy8) (fun hHeld => ?_)
          clear hKK KK
          try simp only [Act.put, List.setIfInBounds_toArray, List.set_cons_zero, List.set_cons_succ]
          refine takeH (i := 18) (v := ?_) rfl rfl (by kernel_rfl) (by kernel_rfl) (by kernel_rfl) (fun _ _ _ h => h) (by rfl) ?_ hHeld ?_
          rotate_left
          · (intro w hSw); (try dsimp only at hSw); go_simp; try with_reducible rfl
          try simp only [List.setIfInBounds_toArray, List.set_cons_zero, List.set_cons_succ]
          refine comeH (i := 19) rfl (by kernel_rfl) (by rfl) (fun KK hKK => ?_)
          go_simp
          refine hKK.out _ _ (by exact hcy9) (fun hHeld => ?_)
          clear hKK KK
          try simp only [Act.put, List.setIfInBounds_toArray, List.set_cons_zero, List.set_cons_succ]
          refine wpAnyH_done (by kernel_rfl) ?_ _
          have HM9 := Aside0.mk PW.out.1
          clear PW hcy8 hcy9 hcc7 hz7 hHeld HM7
          generalize w8.setCell ⟨b, a, none⟩ (.slice A7 n7 cp7) = w9 at HM9 ⊢
          go_wp2
          go_roundw
          case rel => exact ⟨i + 2, _, _, by go_num, by omega, HM9⟩
          case measure => simp [intOf]; omega
      · have hn0i : ¬ (0 : Int) < (n : Int) := by omega
        clear hn0
        obtain ⟨q1, q2, q3, q4⟩ := HE.out
        have HE2 : Aside0 (EG w wr n b vs K 1001) := ⟨⟨q1, q2, fun c => Nat.le_trans (q3 c) (by omega), q4⟩⟩
        clear q1 q2 q3 q4
        go_wp2
        go_ret
        exact ⟨b, rfl, vs, K, HE2.out⟩
    · have hlti : ¬ (i : Int) + 1 < (la : Int) := by omega
      obtain ⟨q1, q2, q3, q4⟩ := HE.out
      have HE2 : Aside0 (EG w wr n b vs K 1001) := ⟨⟨q1, q2, fun c => Nat.le_trans (q3 c) (by omega), q4⟩⟩
      clear q1 q2 q3 q4
      go_wp2
      go_ret
      exact ⟨b, rfl, vs, K, HE2.out⟩
end Go.Proofs.Ytcpjlfhehjmfbaa.Gr
