/- graph.Components, first part: the members of each component, in memory. -/
import Derived.Test.YtcpjlfhehjmfbaaGrX
namespace Go.Proofs.Ytcpjlfhehjmfbaa.Gr
open Go.RowKit Go.Shelf Go.Proofs.Ytcpjlfhehjmfbaa.Sg Go.Proofs.Ytcpjlfhehjmfbaa.Hi Go.Proofs.Ytcpjlfhehjmfbaa.Hm
set_option linter.unusedVariables false
set_option linter.unusedSimpArgs false


set_option maxHeartbeats 2000000 in
set_option maxRecDepth 100000 in
theorem Components_any (w : World) (ev : Value) (es : List Row) (n : Nat) (hE : RowsAt w (· < w.heap.size) ev es) (hl : es.length = n) (hn : n < 1000000) (htot : tot es < 1000000) :
    Calls Try.prog 10 #[ev] w fun e w' => ∃ v, ∃ L : List (List Nat), e = .returned v ∧ RowsAt w' (w.heap.size ≤ ·) v (L.map toRow) ∧ Page (adj n es) n L ∧ (∀ i, i < n → i ∈ L.flatten) ∧ Below w.heap.size w w' := by
  have mixed : Try.prog.follows .mixedOrders = true := by kernel_rfl
  obtain ⟨ii, hii, hi0, hi1, hi2⟩ := info_parts info_intG
  obtain ⟨ir, hir, hr0, hr1, hr2⟩ := info_parts info_rowG
  obtain ⟨Ae, ce, hev, he1, he2, he3⟩ := hE.form
  rw [hl] at hev he1 he2
  subst hev
  have CA := Aside0.mk (components_any w _ es n hE hl hn)
  have HE := Aside0.mk hE
  have HL := Aside0.mk hl
  clear hE hl
  go_enter Try.func10, Try.ntmps10
  go_wp2_with fail
  refine (CA.out).mono ?_
  rintro e w1 ⟨bc, nc, comp, rfl, hco, hcs, hcn, hb1⟩
  have HB1 := Aside0.mk hb1
  have HCO := Aside0.mk hco
  have HCS := Aside0.mk hcs
  clear CA hb1 hco hcs
  have hmk := make_lists nc (by omega)
  go_wp2_with fail
  have M1S := Aside0.mk (M1.start w1 nc comp (by omega))
  clear hmk
  obtain ⟨bm, hbm⟩ : ∃ bm, w1.heap.size = bm := ⟨_, rfl⟩
  obtain ⟨bx, hbx⟩ : ∃ bx, w1.heap.size + 1 = bx := ⟨_, rfl⟩
  rw [hbx, hbm] at M1S
  rw [hbx, hbm]
  generalize (w1.alloc (Ns nc)).alloc (.cells #[.slice (some ⟨bm, 0, none⟩) nc nc] 24) = w2 at M1S ⊢
  clear hbm hbx
  go_loopw [30] (fun s30 wr => ∃ (i : Nat) (vs : Nat → Value), s30 = .int .i64 i ∧ i ≤ n ∧ Aside0 (M1 w1 wr nc bm bx vs comp i)) (fun s30 _ => n - (intOf s30).toNat)
  case atStart => exact ⟨0, _, rfl, Nat.zero_le _, M1S⟩
  case round =>
    clear M1S
    obtain ⟨i, vs, rfl, hi, HM⟩ := hrel
    by_cases hlt : i < n
    · have hlti : (i : Int) < (n : Int) := by omega
      have ti : ((i : Nat) : Int).toNat = i := by omega
      have hcc := own_kept (Kept.of_below (HM.out.below) (fun _ => False)) HCO.out (fun _ _ h => h)
      have hci : comp i < nc := HCS.out.lt i hlt
      have hcz : (comp i : Int) < (nc : Int) := by omega
      have tc : ((comp i : Nat) : Int).toNat = comp i := by omega
      have hld : wr.cell? ⟨bc, i, none⟩ = some (.int .i64 (comp i : Int)) := by rw [hcc.cellAt i (by omega)]; exact lst_get _ hlt
      have HCI := Aside0.mk hci
      have HCL := Aside0.mk (HM.out.cells hci)
      have hml := memb_le i comp (comp i)
      have H63 := Aside0.mk (show (memb i comp (comp i)).length + 1 ≤ maxLen by unfold maxLen; omega)
      have HBY := Aside0.mk (show ((memb i comp (comp i)).length + 1) * 8 ≤ 140737488355328 by omega)
      have HOW := Aside0.mk (fun (W : World) (h : M1 w1 W nc bm bx vs comp i) => h.ll.rows (comp i) hci)
      have HSZ := Aside0.mk (fun (W : World) (h : M1 w1 W nc bm bx vs comp i) (o : Obj) => Nat.le_trans h.below.size (show W.heap.size ≤ (W.alloc o).heap.size by simp))
      clear hcc hci hml
      go_wp2_with fail
      have HM5 := Aside0.mk HM.out.drew
      clear HM hld
      refine wp_region_held_drew mixed (S := fun w' => w'.cell? ⟨bx, 0, none⟩ = some (.slice (some ⟨bm, 0, none⟩) nc nc)) (by exact HCL.out.1) (fun hHeld => ?_)
      obtain ⟨hcb5, hcc5⟩ := HM5.out.cells HCI.out
      generalize wr.drew = w5 at HM5 hHeld hcb5 hcc5 ⊢
      obtain ⟨A5, cp5, hv5⟩ := HM5.out.ll.form HCI.out
      have hcc5' := hcc5
      rw [hv5] at hcc5
      have hw5 := HOW.out w5 HM5.out
      rw [hv5] at hw5
      have OW5 := Aside0.mk hw5
      clear hw5
      refine takeH (i := 0) (v := ?_) rfl rfl (by kernel_rfl) (by kernel_rfl) (by kernel_rfl) (fun _ _ _ h => h) (by rfl) ?_ hHeld ?_
      rotate_left
      · (intro w hSw); (try dsimp only at hSw); go_simp; try with_reducible rfl
      try simp only [List.setIfInBounds_toArray, List.set_cons_zero, List.set_cons_succ]
      refine takeH (i := 1) (v := ?_) rfl rfl (by kernel_rfl) (by kernel_rfl) (by kernel_rfl) (fun _ _ _ h => h) (by rfl) ?_ hHeld ?_
      rotate_left
      · (intro w hSw); (try dsimp only at hSw); go_simp; try with_reducible rfl
      try simp only [List.setIfInBounds_toArray, List.set_cons_zero, List.set_cons_succ]
      refine takeH (i := 2) (v := ?_) rfl rfl (by kernel_rfl) (by kernel_rfl) (by kernel_rfl) (fun _ _ _ h => h) (by rfl) ?_ hHeld ?_
      rotate_left
      · (intro w hSw); (try dsimp only at hSw); go_simp; try with_reducible rfl
      try simp only [List.setIfInBounds_toArray, List.set_cons_zero, List.set_cons_succ]
      refine takeH (i := 3) (v := ?_) rfl rfl (by kernel_rfl) (by kernel_rfl) (by kernel_rfl) (fun _ _ _ h => h) (by rfl) ?_ hHeld ?_
      rotate_left
      · (intro w hSw); (try dsimp only at hSw); go_simp; try with_reducible rfl
      try simp only [List.setIfInBounds_toArray, List.set_cons_zero, List.set_cons_succ]
      refine takeH (i := 4) (v := ?_) rfl rfl (by kernel_rfl) (by kernel_rfl) (by kernel_rfl) (fun _ _ _ h => h) (by rfl) ?_ hHeld ?_
      rotate_left
      · (intro w hSw); (try dsimp only at hSw); go_simp; try with_reducible rfl
      try simp only [List.setIfInBounds_toArray, List.set_cons_zero, List.set_cons_succ]
      refine takeH (i := 6) (v := ?_) rfl rfl (by kernel_rfl) (by kernel_rfl) (by kernel_rfl) (fun _ _ _ h => h) (by rfl) ?_ hHeld ?_
      rotate_left
      · (intro w hSw); (try dsimp only at hSw); go_simp; try with_reducible rfl
      try simp only [List.setIfInBounds_toArray, List.set_cons_zero, List.set_cons_succ]
      refine wpAnyH_ready (rs := [5, 7]) (by kernel_rfl) (by simp) (comeC rfl (by rfl) (fun KK hKK => ?_) (comeC rfl (by rfl) (fun KK hKK => ?_) AllReadyH.nil))
      · have hq5 := hcc5
        go_simp
        refine hKK.out _ _ (by exact hHeld) (fun hHeld => ?_)
        clear hKK KK
        try simp only [Act.put, List.setIfInBounds_toArray, List.set_cons_zero, List.set_cons_succ]
        refine comeH (i := 7) rfl (by kernel_rfl) (by rfl) (fun KK hKK => ?_)
        go_simp
        refine hKK.out _ _ (by exact below_cell0 (below_alloc0 (Below.refl _ _) _) hHeld) (fun hHeld => ?_)
        clear hKK KK
        try simp only [Act.put, List.setIfInBounds_toArray, List.set_cons_zero, List.set_cons_succ]
        refine comeH (i := 8) rfl (by kernel_rfl) (by rfl) (fun KK hKK => ?_)
        refine oper_append_own (.tmp 40) (.tmp 42) 22 rfl w1.heap.size 3 ii (.int .i64 0) 1 8 Try.underlying22 hii hi0 hi1 hi2 rfl (by decide) (.slice A5 (memb i comp (comp i)).length cp5) (memb i comp (comp i)).length (intsN (memb i comp (comp i))) rfl (OW5.out.alloc _) ⟨w5.heap.size, 0, none⟩ 1 1 [.int .i64 (i : Int)] rfl rfl (cell_one_newG _ _ _) (by simp [Value.oneCell']) H63.out HBY.out (HSZ.out w5 HM5.out _) ?_
        intro v1 w7 ho hg hbo
        have PW := Aside0.mk (HM5.out.step HCI.out (by rw [hv5]; exact hg) ho (by rw [hv5]; exact hbo))
        have hcb7 := PW.out.2.1
        have hcb8 := PW.out.2.2.1
        have hcc7 := PW.out.2.2.2.2
        have hz7 := PW.out.2.2.2.1
        obtain ⟨A7, n7, cp7, hv7⟩ := own_slice ho
        subst hv7
        clear ho hg hbo
        refine hKK.out _ _ (by exact hcb7) (fun hHeld => ?_)
        clear hKK KK
        try simp only [Act.put, List.setIfInBounds_toArray, List.set_cons_zero, List.set_cons_succ]
        refine takeH (i := 9) (v := ?_) rfl rfl (by kernel_rfl) (by kernel_rfl) (by kernel_rfl) (fun _ _ _ h => h) (by rfl) ?_ hHeld ?_
        rotate_left
        · (intro w hSw); (try dsimp only at hSw); go_simp; try with_reducible rfl
        try simp only [List.setIfInBounds_toArray, List.set_cons_zero, List.set_cons_succ]
        refine comeH (i := 10) rfl (by kernel_rfl) (by rfl) (fun KK hKK => ?_)
        go_simp
        refine hKK.out _ _ (by exact hcb8) (fun hHeld => ?_)
        clear hKK KK
        try simp only [Act.put, List.setIfInBounds_toArray, List.set_cons_zero, List.set_cons_succ]
        refine wpAnyH_done (by kernel_rfl) ?_ _
        have HM8 := Aside0.mk PW.out.1
        clear PW hcb7 hcb8 hcc7 hz7 hHeld HM5
        generalize w7.setCell ⟨bm, comp i, none⟩ (.slice A7 n7 cp7) = w8 at HM8 ⊢
        go_wp2
        go_roundw
        case rel => exact ⟨i + 1, _, by go_num, by omega, HM8⟩
        case measure => simp [intOf]; omega
      · go_simp
        refine hKK.out _ _ (by exact below_cell0 (below_alloc0 (Below.refl _ _) _) hHeld) (fun hHeld => ?_)
        clear hKK KK
        try simp only [Act.put, List.setIfInBounds_toArray, List.set_cons_zero, List.set_cons_succ]
        refine comeH (i := 5) rfl (by kernel_rfl) (by rfl) (fun KK hKK => ?_)
        have hq5 := below_cell0 (below_alloc0 (Below.refl _ _) (.cells #[.int .i64 (i : Int)] 3)) hcc5
        go_simp
        refine hKK.out _ _ (by exact hHeld) (fun hHeld => ?_)
        clear hKK KK
        try simp only [Act.put, List.setIfInBounds_toArray, List.set_cons_zero, List.set_cons_succ]
        refine comeH (i := 8) rfl (by kernel_rfl) (by rfl) (fun KK hKK => ?_)
        refine oper_append_own (.tmp 40) (.tmp 42) 22 rfl w1.heap.size 3 ii (.int .i64 0) 1 8 Try.underlying22 hii hi0 hi1 hi2 rfl (by decide) (.slice A5 (memb i comp (comp i)).length cp5) (memb i comp (comp i)).length (intsN (memb i comp (comp i))) rfl (OW5.out.alloc _) ⟨w5.heap.size, 0, none⟩ 1 1 [.int .i64 (i : Int)] rfl rfl (cell_one_newG _ _ _) (by simp [Value.oneCell']) H63.out HBY.out (HSZ.out w5 HM5.out _) ?_
        intro v1 w7 ho hg hbo
        have PW := Aside0.mk (HM5.out.step HCI.out (by rw [hv5]; exact hg) ho (by rw [hv5]; exact hbo))
        have hcb7 := PW.out.2.1
        have hcb8 := PW.out.2.2.1
        have hcc7 := PW.out.2.2.2.2
        have hz7 := PW.out.2.2.2.1
        obtain ⟨A7, n7, cp7, hv7⟩ := own_slice ho
        subst hv7
        clear ho hg hbo
        refine hKK.out _ _ (by exact hcb7) (fun hHeld => ?_)
        clear hKK KK
        try simp only [Act.put, List.setIfInBounds_toArray, List.set_cons_zero, List.set_cons_succ]
        refine takeH (i := 9) (v := ?_) rfl rfl (by kernel_rfl) (by kernel_rfl) (by kernel_rfl) (fun _ _ _ h => h) (by rfl) ?_ hHeld ?_
        rotate_left
        · (intro w hSw); (try dsimp only at hSw); go_simp; try with_reducible rfl
        try simp only [List.setIfInBounds_toArray, List.set_cons_zero, List.set_cons_succ]
        refine comeH (i := 10) rfl (by kernel_rfl) (by rfl) (fun KK hKK => ?_)
        go_simp
        refine hKK.out _ _ (by exact hcb8) (fun hHeld => ?_)
        clear hKK KK
        try simp only [Act.put, List.setIfInBounds_toArray, List.set_cons_zero, List.set_cons_succ]
        refine wpAnyH_done (by kernel_rfl) ?_ _
        have HM8 := Aside0.mk PW.out.1
        clear PW hcb7 hcb8 hcc7 hz7 hHeld HM5
        generalize w7.setCell ⟨bm, comp i, none⟩ (.slice A7 n7 cp7) = w8 at HM8 ⊢
        go_wp2
        go_roundw
        case rel => exact ⟨i + 1, _, by go_num, by omega, HM8⟩
        case measure => simp [intOf]; omega
    · obtain rfl : n = i := by omega
      have hlti : ¬ (n : Int) < (n : Int) := by omega
      obtain ⟨w3, hw3⟩ : ∃ w3, w3 = wr := ⟨_, rfl⟩
      subst hw3
      have hmkI := make_ints nc (by omega)
      have hmkL := make_lists nc (by omega)
      go_wp2_with fail
      rename_i Q1 K1 hK1
      suffices CONT : ∀ (bw bb : Nat) (W3 : World), Aside0 (M2 w3 W3 nc bw bb (fun _ => .slice none 0 0) (waitsOf [] []) (backOf [])) → K1 ⟨#[.slice Ae n ce, undef, .slice none 0 0, .slice (some ⟨bc, 0, none⟩) n n, .int .i64 (nc : Int), .pointer (some ⟨bx, 0, none⟩), u6, u7, .slice (some ⟨bw, 0, none⟩) nc nc, .slice (some ⟨bb, 0, none⟩) nc nc, undef, undef, undef, undef, undef, undef, undef, undef, undef, undef, undef, .tuple #[.slice (some ⟨bc, 0, none⟩) n n, .int .i64 (nc : Int)], .slice Ae n ce, .tuple #[.slice (some ⟨bc, 0, none⟩) n n, .int .i64 (nc : Int)], .slice (some ⟨bc, 0, none⟩) n n, .int .i64 (nc : Int), .int .i64 (nc : Int), .slice (some ⟨bm, 0, none⟩) nc nc, .slice (some ⟨bc, 0, none⟩) n n, .int .i64 (n : Int), .int .i64 (n : Int), .bool false, u32, u33, u34, u35, u36, u37, u38, u39, u40, u41, u42, u43, u44, u45, .int .i64 (nc : Int), .slice (some ⟨bw, 0, none⟩) nc nc, .int .i64 (nc : Int), .slice (some ⟨bb, 0, none⟩) nc nc, undef, undef, undef, undef, undef, undef, undef, undef, undef, undef, undef, undef, undef, undef, undef, undef, undef, undef, undef, undef, undef, undef, undef, undef, undef, undef, undef, undef, undef, undef, undef, undef, undef, undef, undef, undef, undef, undef, undef, undef, undef, undef, undef, undef, undef, undef, undef, undef, undef, undef, undef, undef, undef, undef, undef, undef, undef, undef, undef, undef, undef, undef, undef, undef, undef, undef, undef, undef, undef, undef, undef, undef, undef, undef, undef, undef, undef, undef, undef, undef, undef, undef, undef, undef, undef, undef, undef, undef, undef, undef, undef, undef, undef, undef, undef, undef, undef, undef, undef, undef, undef, undef, undef, undef, undef, undef, undef, undef, undef, undef, undef, undef, undef, undef, undef, undef, undef, undef, undef, undef], []⟩ W3 by
        · clear hK1
          replace CONT := Aside0.mk CONT
          go_region
          · exact CONT.out _ _ _ ⟨(M2.startA w3 nc (by omega)).drew⟩
          · exact CONT.out _ _ _ ⟨(M2.startB w3 nc (by omega)).drew⟩
      clear hmkI hmkL
      intro bw bb W3 HM2
      have HM1 := Aside0.mk (And.intro HM.out HM.out.below.size)
      go_wp2_with fail
      go_loopw [52] (fun s52 wq => ∃ (i : Nat) (vb : Nat → Value), s52 = .int .i64 i ∧ i ≤ n ∧ Aside0 (M2 w3 wq nc bw bb vb (waitsOf (depsTo n comp es i) []) (backOf (depsTo n comp es i)))) (fun s52 _ => n - (intOf s52).toNat)
      case atStart => exact ⟨0, _, rfl, Nat.zero_le _, HM2⟩
      case round =>
        clear HM2
        obtain ⟨i, vb, rfl, hi, HM2⟩ := hrel
        by_cases hlt : i < n
        · have hlti : (i : Int) < (n : Int) := by omega
          obtain ⟨wq, hwq⟩ : ∃ wq, wq = wr := ⟨_, rfl⟩
          subst hwq
          have HIL := Aside0.mk (show i < es.length by rw [HL.out]; exact hlt)
          have HBQ := Aside0.mk (below_trans0 (below_trans0 HB1.out HM1.out.1.below) HM2.out.below)
          obtain ⟨b1, o1, u1, rfl, -, -, hc1, hr1⟩ := HE.out.at_ i HIL.out
          obtain ⟨A2, c2, hu1, hm1, hm2, hm3⟩ := hr1.form
          obtain ⟨ml, hml⟩ : ∃ ml, (es[i]'HIL.out).length = ml := ⟨_, rfl⟩
          rw [hml] at hu1 hm1 hm2
          subst hu1
          have hc1' := below_cell0 HBQ.out hc1
          have HR := Aside0.mk hr1
          have HML := Aside0.mk hml
          have HCI := Aside0.mk (HCS.out.lt i hlt)
          have ti : ((i : Nat) : Int).toNat = i := by omega
          have HM2' : Aside0 (M2 w3 wq nc bw bb vb (waitsOf (depsIn n comp es i 0) []) (backOf (depsIn n comp es i 0))) := ⟨by rw [depsIn_zero]; exact HM2.out⟩
          clear hc1 hr1 hml HM2 HBQ
          go_wp2_with fail
          clear hc1'
          go_loopw [59] (fun s59 wk => ∃ (k : Nat) (vb : Nat → Value), s59 = .int .i64 k ∧ k ≤ ml ∧ Aside0 (M2 w3 wk nc bw bb vb (waitsOf (depsIn n comp es i k) []) (backOf (depsIn n comp es i k)))) (fun s59 _ => ml - (intOf s59).toNat)
          case atStart => exact ⟨0, _, rfl, Nat.zero_le _, HM2'⟩
          case round =>
            clear HM2'
            obtain ⟨k, vb, rfl, hk, HM2⟩ := hrel
            by_cases hkl : k < ml
            · have hkli : (k : Int) < (ml : Int) := by omega
              have HKR := Aside0.mk (show k < (es[i]'HIL.out).length by rw [HML.out]; exact hkl)
              have HBK1 := Aside0.mk (below_trans0 HM1.out.1.below HM2.out.below)
              have HBK := Aside0.mk (below_trans0 HB1.out HBK1.out)
              obtain ⟨b2, o2, u2, rfl, -, -, hc2, hv2, hi2⟩ := HR.out.at_ k HKR.out
              obtain ⟨t, ht⟩ : ∃ t, ((es[i]'HIL.out)[k]'HKR.out) = t := ⟨_, rfl⟩
              rw [ht] at hv2 hi2
              subst hv2
              have hc2' := below_cell0 HBK.out hc2
              have HT := Aside0.mk ht
              obtain ⟨it1, it2⟩ := hi2
              have tk : ((k : Nat) : Int).toNat = k := by omega
              have CC := Aside0.mk (fun (W : World) (hW : Below w3.heap.size w3 W) (v : Nat) (hv : v < n) => (show W.cell? ⟨bc, v, none⟩ = some (.int .i64 (comp v : Int)) by rw [(own_kept (Kept.of_below (below_trans0 HM1.out.1.below hW) (fun _ => False)) HCO.out (fun _ _ h => h)).cellAt v (by omega)]; exact lst_get _ hv))
              have hci := CC.out wr HM2.out.below i hlt
              clear hc2 ht
              by_cases ha : 0 ≤ t ∧ t < (n : Int)
              · obtain ⟨tn, rfl⟩ : ∃ tn : Nat, t = (tn : Int) := ⟨t.toNat, by omega⟩
                have htn : tn < n := by omega
                have htni : (tn : Int) < (n : Int) := by omega
                have htn0 : (0 : Int) ≤ (tn : Int) := by omega
                have htn1 : ¬ (tn : Int) < 0 := by omega
                have ttn : ((tn : Nat) : Int).toNat = tn := by omega
                have hct := CC.out wr HM2.out.below tn htn
                by_cases hb : comp tn = comp i
                · skip
                  have hbi : (comp tn : Int) = (comp i : Int) := by omega
                  have HM3 := Aside0.mk (show ∀ m, M2 w3 (wr.drewN m) nc bw bb vb (waitsOf (depsIn n comp es i (k + 1)) []) (backOf (depsIn n comp es i (k + 1))) from fun m => by
                    rw [depsIn_no HIL.out HKR.out HT.out (fun q => q.2.2 (by rw [ttn]; exact hb))]
                    exact HM2.out.drewN m)
                  clear HM2 hb CC HBK HBK1 HT
                  go_wp2_with fail
                  go_quiet (fail)
                  go_wp2
                  go_roundw
                  case rel => exact ⟨k + 1, vb, by go_num, by omega, ⟨HM3.out _⟩⟩
                  case measure => simp [intOf]; omega
                · have hbi : (comp tn : Int) ≠ (comp i : Int) := by omega
                  have hbi2 : ((comp tn : Int) == (comp i : Int)) = false := by rw [beq_eq_false_iff_ne]; exact hbi
                  have HCT := Aside0.mk (HCS.out.lt tn htn)
                  have HDY := Aside0.mk (depsIn_yes HIL.out HKR.out HT.out ⟨by omega, by omega, by rw [ttn]; exact hb⟩)
                  have HDL := depsIn_len n comp es i k HIL.out
                  have hwl := waits_le (depsIn n comp es i k) [] (comp i)
                  have hbl := back_le (depsIn n comp es i k) (comp tn)
                  rw [ttn] at HDY
                  obtain ⟨D, hD⟩ : ∃ D, depsIn n comp es i k = D := ⟨_, rfl⟩
                  rw [hD] at HM2 HDY HDL hwl hbl
                  obtain ⟨m, hm⟩ : ∃ m, waitsOf D [] (comp i) = m := ⟨_, rfl⟩
                  rw [hm] at hwl
                  have HMW := Aside0.mk hm
                  have hmb : m < 1000000 := by omega
                  obtain ⟨bl, hbL⟩ : ∃ bl, (backOf D (comp tn)).length = bl := ⟨_, rfl⟩
                  rw [hbL] at hbl
                  have H63 := Aside0.mk (show bl + 1 ≤ maxLen by unfold maxLen; omega)
                  have HBY := Aside0.mk (show (bl + 1) * 8 ≤ 140737488355328 by omega)
                  have HBL := Aside0.mk hbL
                  clear hD hm hb HBK HBK1 HT HDL hbL hbl hwl
                  go_wp2_with fail
                  go_quiet (fail)
                  have HM5 := HM2.out.drewN nq
                  have hci5 := CC.out _ HM5.below i hlt
                  have hci0 : (comp i : Int) < (nc : Int) := by have := HCI.out; omega
                  have hct0 : (comp tn : Int) < (nc : Int) := by have := HCT.out; omega
                  have tci : ((comp i : Nat) : Int).toNat = comp i := by omega
                  have tct : ((comp tn : Nat) : Int).toNat = comp tn := by omega
                  obtain ⟨hwc, hwz⟩ := HM5.wcell HCI.out
                  rw [HMW.out] at hwc
                  clear hci hct HM2
                  generalize wr.drewN nq = w5 at HM5 hci5 hwc hwz ⊢
                  have HM6 : Aside0 (M2 w3 (w5.setCell ⟨bw, comp i, none⟩ (.int .i64 ((m : Int) + 1))) nc bw bb vb (upd (waitsOf D []) (comp i) (m + 1)) (backOf D)) := ⟨HM5.inc (comp i) (m + 1)⟩
                  clear HM5
                  go_wp2_with fail
                  clear hci5 hwc hwz
                  generalize w5.setCell ⟨bw, comp i, none⟩ (.int .i64 ((m : Int) + 1)) = w6 at HM6 ⊢
                  have hci6 := CC.out _ HM6.out.drew.below i hlt
                  have hct6 := CC.out _ HM6.out.drew.below tn htn
                  refine wp_region_held_drew mixed (S := fun w' => w'.cell? ⟨bc, i, none⟩ = some (.int .i64 (comp i : Int)) ∧ w'.cell? ⟨bc, tn, none⟩ = some (.int .i64 (comp tn : Int))) (by exact ⟨hci6, hct6⟩) (fun hHeld => ?_)
                  have HM7 := Aside0.mk HM6.out.drew
                  obtain ⟨hcc5, -⟩ := HM7.out.ll.cell HCT.out
                  clear HM6 hci6 hct6
                  generalize w6.drew = w7 at HM7 hHeld hcc5 ⊢
                  obtain ⟨A5, cp5, hv5⟩ := HM7.out.ll.form HCT.out
                  have hw5 := HM7.out.ll.rows (comp tn) HCT.out
                  rw [hv5] at hcc5 hw5
                  rw [HBL.out] at hcc5 hw5
                  have OW5 := Aside0.mk hw5
                  have hv5' := hv5
                  rw [HBL.out] at hv5'
                  have HV5 := Aside0.mk hv5'
                  have HSZ := Aside0.mk HM7.out.below.size
                  clear hw5 hv5 hv5'
                  refine takeH (i := 0) (v := ?_) rfl rfl (by kernel_rfl) (by kernel_rfl) (by kernel_rfl) (fun _ _ _ h => h) (by rfl) ?_ hHeld ?_
                  rotate_left
                  · (intro w hSw); (try dsimp only at hSw); go_simp; try with_reducible rfl
                  try simp only [List.setIfInBounds_toArray, List.set_cons_zero, List.set_cons_succ]
                  refine takeH (i := 1) (v := ?_) rfl rfl (by kernel_rfl) (by kernel_rfl) (by kernel_rfl) (fun _ _ _ h => h) (by rfl) ?_ hHeld ?_
                  rotate_left
                  · (intro w hSw); (try dsimp only at hSw); go_simp; try with_reducible rfl
                  try simp only [List.setIfInBounds_toArray, List.set_cons_zero, List.set_cons_succ]
                  refine takeH (i := 2) (v := ?_) rfl rfl (by kernel_rfl) (by kernel_rfl) (by kernel_rfl) (fun _ _ _ h => h) (by rfl) ?_ hHeld ?_
                  rotate_left
                  · (intro w hSw); (try dsimp only at hSw); go_simp; try with_reducible rfl
                  try simp only [List.setIfInBounds_toArray, List.set_cons_zero, List.set_cons_succ]
                  refine takeH (i := 3) (v := ?_) rfl rfl (by kernel_rfl) (by kernel_rfl) (by kernel_rfl) (fun _ _ _ h => h) (by rfl) ?_ hHeld ?_
                  rotate_left
                  · (intro w hSw); (try dsimp only at hSw); go_simp; try with_reducible rfl
                  try simp only [List.setIfInBounds_toArray, List.set_cons_zero, List.set_cons_succ]
                  refine takeH (i := 4) (v := ?_) rfl rfl (by kernel_rfl) (by kernel_rfl) (by kernel_rfl) (fun _ _ _ h => h) (by rfl) ?_ hHeld ?_
                  rotate_left
                  · (intro w hSw); (try dsimp only at hSw); go_simp; try with_reducible rfl
                  try simp only [List.setIfInBounds_toArray, List.set_cons_zero, List.set_cons_succ]
                  refine takeH (i := 5) (v := ?_) rfl rfl (by kernel_rfl) (by kernel_rfl) (by kernel_rfl) (fun _ _ _ h => h) (by rfl) ?_ hHeld ?_
                  rotate_left
                  · (intro w hSw); (try dsimp only at hSw); go_simp; try with_reducible rfl
                  try simp only [List.setIfInBounds_toArray, List.set_cons_zero, List.set_cons_succ]
                  refine takeH (i := 6) (v := ?_) rfl rfl (by kernel_rfl) (by kernel_rfl) (by kernel_rfl) (fun _ _ _ h => h) (by rfl) ?_ hHeld ?_
                  rotate_left
                  · (intro w hSw); (try dsimp only at hSw); go_simp; try with_reducible rfl
                  try simp only [List.setIfInBounds_toArray, List.set_cons_zero, List.set_cons_succ]
                  refine takeH (i := 7) (v := ?_) rfl rfl (by kernel_rfl) (by kernel_rfl) (by kernel_rfl) (fun _ _ _ h => h) (by rfl) ?_ hHeld ?_
                  rotate_left
                  · (intro w hSw); (try dsimp only at hSw); go_simp; try with_reducible rfl
                  try simp only [List.setIfInBounds_toArray, List.set_cons_zero, List.set_cons_succ]
                  refine takeH (i := 8) (v := ?_) rfl rfl (by kernel_rfl) (by kernel_rfl) (by kernel_rfl) (fun _ _ _ h => h) (by rfl) ?_ hHeld ?_
                  rotate_left
                  · (intro w hSw); (try dsimp only at hSw); go_simp; try with_reducible rfl
                  try simp only [List.setIfInBounds_toArray, List.set_cons_zero, List.set_cons_succ]
                  refine takeH (i := 9) (v := ?_) rfl rfl (by kernel_rfl) (by kernel_rfl) (by kernel_rfl) (fun _ _ _ h => h) (by rfl) ?_ hHeld ?_
                  rotate_left
                  · (intro w hSw); (try dsimp only at hSw); go_simp; try with_reducible rfl
                  try simp only [List.setIfInBounds_toArray, List.set_cons_zero, List.set_cons_succ]
                  refine takeH (i := 10) (v := ?_) rfl rfl (by kernel_rfl) (by kernel_rfl) (by kernel_rfl) (fun _ _ _ h => h) (by rfl) ?_ hHeld ?_
                  rotate_left
                  · (intro w hSw); (try dsimp only at hSw); go_simp; try with_reducible rfl
                  try simp only [List.setIfInBounds_toArray, List.set_cons_zero, List.set_cons_succ]
                  refine takeH (i := 12) (v := ?_) rfl rfl (by kernel_rfl) (by kernel_rfl) (by kernel_rfl) (fun _ _ _ h => h) (by rfl) ?_ hHeld ?_
                  rotate_left
                  · (intro w hSw); (try dsimp only at hSw); go_simp; try with_reducible rfl
                  try simp only [List.setIfInBounds_toArray, List.set_cons_zero, List.set_cons_succ]
                  refine takeH (i := 13) (v := ?_) rfl rfl (by kernel_rfl) (by kernel_rfl) (by kernel_rfl) (fun _ _ _ h => h) (by rfl) ?_ hHeld ?_
                  rotate_left
                  · (intro w hSw); (try dsimp only at hSw); go_simp; try with_reducible rfl
                  try simp only [List.setIfInBounds_toArray, List.set_cons_zero, List.set_cons_succ]
                  refine takeH (i := 14) (v := ?_) rfl rfl (by kernel_rfl) (by kernel_rfl) (by kernel_rfl) (fun _ _ _ h => h) (by rfl) ?_ hHeld ?_
                  rotate_left
                  · (intro w hSw); (try dsimp only at hSw); go_simp; try with_reducible rfl
                  try simp only [List.setIfInBounds_toArray, List.set_cons_zero, List.set_cons_succ]
                  refine takeH (i := 15) (v := ?_) rfl rfl (by kernel_rfl) (by kernel_rfl) (by kernel_rfl) (fun _ _ _ h => h) (by rfl) ?_ hHeld ?_
                  rotate_left
                  · (intro w hSw); (try dsimp only at hSw); go_simp; try with_reducible rfl
                  try simp only [List.setIfInBounds_toArray, List.set_cons_zero, List.set_cons_succ]
                  refine wpAnyH_ready (rs := [11, 16]) (by kernel_rfl) (by simp) (comeC rfl (by rfl) (fun KK hKK => ?_) (comeC rfl (by rfl) (fun KK hKK => ?_) AllReadyH.nil))
                  · have hq5 := hcc5
                    go_simp
                    refine hKK.out _ _ (by exact hHeld) (fun hHeld => ?_)
                    clear hKK KK
                    try simp only [Act.put, List.setIfInBounds_toArray, List.set_cons_zero, List.set_cons_succ]
                    refine comeH (i := 16) rfl (by kernel_rfl) (by rfl) (fun KK hKK => ?_)
                    go_simp
                    refine hKK.out _ _ (by exact ⟨below_cell0 (below_alloc0 (Below.refl _ _) _) hHeld.1, below_cell0 (below_alloc0 (Below.refl _ _) _) hHeld.2⟩) (fun hHeld => ?_)
                    clear hKK KK
                    try simp only [Act.put, List.setIfInBounds_toArray, List.set_cons_zero, List.set_cons_succ]
                    refine comeH (i := 17) rfl (by kernel_rfl) (by rfl) (fun KK hKK => ?_)
                    refine oper_append_own (.tmp 102) (.tmp 107) 22 rfl w3.heap.size 3 ii (.int .i64 0) 1 8 Try.underlying22 hii hi0 hi1 hi2 rfl (by decide) (.slice A5 bl cp5) bl (intsN (backOf D (comp tn))) rfl (OW5.out.alloc _) ⟨w7.heap.size, 0, none⟩ 1 1 [.int .i64 (comp i : Int)] rfl rfl (cell_one_newG _ _ _) (by simp [Value.oneCell']) H63.out HBY.out (Nat.le_trans HSZ.out (by simp)) ?_
                    intro v1 w8 ho hg hbo
                    have PW := Aside0.mk (HM7.out.app (x := comp i) HCT.out (by rw [HV5.out]; exact hg) (by rw [HBL.out]; exact ho) (by rw [HV5.out]; exact hbo))
                    have hci8 := CC.out _ PW.out.2.1 i hlt
                    have hct8 := CC.out _ PW.out.2.1 tn htn
                    have hci9 := CC.out _ PW.out.1.below i hlt
                    have hct9 := CC.out _ PW.out.1.below tn htn
                    have hcc7 := PW.out.2.2.1
                    have hz7 := PW.out.2.2.2
                    obtain ⟨A7, n7, cp7, hv7⟩ := own_slice ho
                    subst hv7
                    clear ho hg hbo
                    refine hKK.out _ _ (by exact ⟨hci8, hct8⟩) (fun hHeld => ?_)
                    clear hKK KK
                    try simp only [Act.put, List.setIfInBounds_toArray, List.set_cons_zero, List.set_cons_succ]
                    refine takeH (i := 18) (v := ?_) rfl rfl (by kernel_rfl) (by kernel_rfl) (by kernel_rfl) (fun _ _ _ h => h) (by rfl) ?_ hHeld ?_
                    rotate_left
                    · (intro w hSw); (try dsimp only at hSw); go_simp; try with_reducible rfl
                    try simp only [List.setIfInBounds_toArray, List.set_cons_zero, List.set_cons_succ]
                    refine comeH (i := 19) rfl (by kernel_rfl) (by rfl) (fun KK hKK => ?_)
                    go_simp
                    refine hKK.out _ _ (by exact ⟨hci9, hct9⟩) (fun hHeld => ?_)
                    clear hKK KK
                    try simp only [Act.put, List.setIfInBounds_toArray, List.set_cons_zero, List.set_cons_succ]
                    refine wpAnyH_done (by kernel_rfl) ?_ _
                    have HM9 := PW.out.1
                    clear PW hci8 hct8 hci9 hct9 hcc7 hz7 hHeld HM7
                    generalize w8.setCell ⟨bb, comp tn, none⟩ (.slice A7 n7 cp7) = w9 at HM9 ⊢
                    rw [← HMW.out, ← waits_snoc D (comp i) (comp tn), ← back_snoc, ← HDY.out] at HM9
                    replace HM9 := Aside0.mk HM9
                    go_wp2
                    go_roundw
                    case rel => exact ⟨k + 1, _, by go_num, by omega, HM9⟩
                    case measure => simp [intOf]; omega
                  · go_simp
                    refine hKK.out _ _ (by exact ⟨below_cell0 (below_alloc0 (Below.refl _ _) _) hHeld.1, below_cell0 (below_alloc0 (Below.refl _ _) _) hHeld.2⟩) (fun hHeld => ?_)
                    clear hKK KK
                    try simp only [Act.put, List.setIfInBounds_toArray, List.set_cons_zero, List.set_cons_succ]
                    refine comeH (i := 11) rfl (by kernel_rfl) (by rfl) (fun KK hKK => ?_)
                    have hq5 := below_cell0 (below_alloc0 (Below.refl _ _) (.cells #[.int .i64 (comp i : Int)] 3)) hcc5
                    go_simp
                    refine hKK.out _ _ (by exact hHeld) (fun hHeld => ?_)
                    clear hKK KK
                    try simp only [Act.put, List.setIfInBounds_toArray, List.set_cons_zero, List.set_cons_succ]
                    refine comeH (i := 17) rfl (by kernel_rfl) (by rfl) (fun KK hKK => ?_)
                    refine oper_append_own (.tmp 102) (.tmp 107) 22 rfl w3.heap.size 3 ii (.int .i64 0) 1 8 Try.underlying22 hii hi0 hi1 hi2 rfl (by decide) (.slice A5 bl cp5) bl (intsN (backOf D (comp tn))) rfl (OW5.out.alloc _) ⟨w7.heap.size, 0, none⟩ 1 1 [.int .i64 (comp i : Int)] rfl rfl (cell_one_newG _ _ _) (by simp [Value.oneCell']) H63.out HBY.out (Nat.le_trans HSZ.out (by simp)) ?_
                    intro v1 w8 ho hg hbo
                    have PW := Aside0.mk (HM7.out.app (x := comp i) HCT.out (by rw [HV5.out]; exact hg) (by rw [HBL.out]; exact ho) (by rw [HV5.out]; exact hbo))
                    have hci8 := CC.out _ PW.out.2.1 i hlt
                    have hct8 := CC.out _ PW.out.2.1 tn htn
                    have hci9 := CC.out _ PW.out.1.below i hlt
                    have hct9 := CC.out _ PW.out.1.below tn htn
                    have hcc7 := PW.out.2.2.1
                    have hz7 := PW.out.2.2.2
                    obtain ⟨A7, n7, cp7, hv7⟩ := own_slice ho
                    subst hv7
                    clear ho hg hbo
                    refine hKK.out _ _ (by exact ⟨hci8, hct8⟩) (fun hHeld => ?_)
                    clear hKK KK
                    try simp only [Act.put, List.setIfInBounds_toArray, List.set_cons_zero, List.set_cons_succ]
                    refine takeH (i := 18) (v := ?_) rfl rfl (by kernel_rfl) (by kernel_rfl) (by kernel_rfl) (fun _ _ _ h => h) (by rfl) ?_ hHeld ?_
                    rotate_left
                    · (intro w hSw); (try dsimp only at hSw); go_simp; try with_reducible rfl
                    try simp only [List.setIfInBounds_toArray, List.set_cons_zero, List.set_cons_succ]
                    refine comeH (i := 19) rfl (by kernel_rfl) (by rfl) (fun KK hKK => ?_)
                    go_simp
                    refine hKK.out _ _ (by exact ⟨hci9, hct9⟩) (fun hHeld => ?_)
                    clear hKK KK
                    try simp only [Act.put, List.setIfInBounds_toArray, List.set_cons_zero, List.set_cons_succ]
                    refine wpAnyH_done (by kernel_rfl) ?_ _
                    have HM9 := PW.out.1
                    clear PW hci8 hct8 hci9 hct9 hcc7 hz7 hHeld HM7
                    generalize w8.setCell ⟨bb, comp tn, none⟩ (.slice A7 n7 cp7) = w9 at HM9 ⊢
                    rw [← HMW.out, ← waits_snoc D (comp i) (comp tn), ← back_snoc, ← HDY.out] at HM9
                    replace HM9 := Aside0.mk HM9
                    go_wp2
                    go_roundw
                    case rel => exact ⟨k + 1, _, by go_num, by omega, HM9⟩
                    case measure => simp [intOf]; omega
              · skip
                have HM3 := Aside0.mk (show ∀ m, M2 w3 (wr.drewN m) nc bw bb vb (waitsOf (depsIn n comp es i (k + 1)) []) (backOf (depsIn n comp es i (k + 1))) from fun m => by
                  rw [depsIn_no HIL.out HKR.out HT.out (fun q => ha ⟨q.1, q.2.1⟩)]
                  exact HM2.out.drewN m)
                clear HM2 CC HBK HBK1 HT
                by_cases h0 : 0 ≤ t
                · have h1 : ¬ t < (n : Int) := by omega
                  have h2 : ¬ t < 0 := by omega
                  have h3 : decide (0 ≤ t) = true := decide_eq_true h0
                  have h4 : decide (t < (n : Int)) = false := decide_eq_false h1
                  clear ha
                  go_wp2_with fail
                  go_quiet (fail)
                  go_wp2
                  go_roundw
                  case rel => exact ⟨k + 1, vb, by go_num, by omega, ⟨HM3.out _⟩⟩
                  case measure => simp [intOf]; omega
                · have h2 : t < 0 := by omega
                  have h3 : decide (0 ≤ t) = false := decide_eq_false h0
                  have h4 : decide (t ≥ 0) = false := decide_eq_false h0
                  clear ha
                  go_wp2_with fail
                  go_quiet (fail)
                  go_wp2
                  go_roundw
                  case rel => exact ⟨k + 1, vb, by go_num, by omega, ⟨HM3.out _⟩⟩
                  case measure => simp [intOf]; omega
            · obtain rfl : ml = k := by omega
              have hkli : ¬ (ml : Int) < (ml : Int) := by omega
              have HM3 : Aside0 (M2 w3 wr nc bw bb vb (waitsOf (depsTo n comp es (i + 1)) []) (backOf (depsTo n comp es (i + 1)))) := ⟨by
                rw [← depsIn_all n comp es i ml (by rw [List.getD_eq_getElem?_getD, List.getElem?_eq_getElem HIL.out]; exact HML.out.symm)]
                exact HM2.out⟩
              clear HM2
              go_wp2
              go_roundw
              case rel => exact ⟨i + 1, vb, by go_num, by omega, HM3⟩
              case measure => simp [intOf]; omega
        · obtain rfl : n = i := by omega
          have hlti : ¬ (n : Int) < (n : Int) := by omega
          obtain ⟨w4, hw4⟩ : ∃ w4, w4 = wr := ⟨_, rfl⟩
          subst hw4
          have MEM := HM1.out.1.mem HCS.out hn
          have NW : Calls Try.prog 14 #[.func (.func 15) #[] #[.pointer (some ⟨bx, 0, none⟩)]] w4 _ := new_S (ordC bx bm nc vs (lead n comp) w3.heap.size) w4 w3.heap.size (ordC_ok _ _ _ _ _ _) HM2.out.below.size (Mem.below MEM HM2.out.below)
          replace NW := Aside0.mk NW
          replace MEM := Aside0.mk MEM
          go_wp2_with fail
          refine NW.out.mono ?_
          rintro e w5 ⟨rfl, H5, B5, -⟩
          have M3S := Aside0.mk (M3.start B5 HM2.out.wts H5 (fun k e => by have e : k = w4.heap.size := e; omega))
          clear H5 B5 NW
          obtain ⟨g, hg⟩ : ∃ g, w4.heap.size = g := ⟨_, rfl⟩
          rw [hg] at M3S ⊢
          clear hg
          go_wp2_with fail
          go_loopw [115] (fun s115 wq => ∃ (c : Nat) (F : Nat → Prop) (L : List Hi.E) (came : Int), s115 = .int .i64 c ∧ c ≤ nc ∧ Aside0 (M3 w3 w4 wq nc bw g (ordC bx bm nc vs (lead n comp) w3.heap.size) F L came (waitsOf (depsTo n comp es n) []) (.slice none 0 0) []) ∧ Aside0 (HS L = ((List.range c).filter fun d => decide (waitsOf (depsTo n comp es n) [] d = 0)) ∧ came = (L.length : Int))) (fun s115 _ => nc - (intOf s115).toNat)
          case atStart => exact ⟨0, _, [], 0, rfl, Nat.zero_le _, M3S, ⟨rfl, rfl⟩⟩
          case round =>
            clear M3S
            obtain ⟨c, F, L, came, rfl, hc, HM3, HHS⟩ := hrel
            by_cases hlc : c < nc
            · have hlci : (c : Int) < (nc : Int) := by omega
              have tcc : ((c : Nat) : Int).toNat = c := by omega
              obtain ⟨hwc, hwz⟩ := HM3.out.wcell hlc
              have HLL := Aside0.mk (show L.length ≤ c by
                have h1 := HHS.out.1
                have h2 := HS_length L
                rw [h1] at h2
                have h3 := List.length_filter_le (fun d => decide (waitsOf (depsTo n comp es n) [] d = 0)) (List.range c)
                rw [List.length_range] at h3
                omega)
              by_cases h0 : waitsOf (depsTo n comp es n) [] c = 0
              · skip
                rw [h0] at hwc
                have PU := Aside0.mk (push_S (ordC_ok bx bm nc vs (lead n comp) w3.heap.size) (ordC_good bx bm nc vs (lead n comp) w3.heap.size) g F L came (c : Int) wr HM3.out.heap ⟨c, hlc, rfl⟩ (by have := HLL.out; omega) (by have := HHS.out.2; omega) (by have := HHS.out.2; have := HLL.out; omega))
                have HS2 := Aside0.mk (show HS (L ++ [((c : Int), came)]) = ((List.range (c + 1)).filter fun d => decide (waitsOf (depsTo n comp es n) [] d = 0)) ∧ came + 1 = ((L ++ [((c : Int), came)]).length : Int) from ⟨by rw [HS_snoc, HHS.out.1, List.range_succ, List.filter_append]; simp [h0], by have := HHS.out.2; rw [List.length_append]; simp; omega⟩)
                clear h0 HHS HLL
                go_wp2_with fail
                refine PU.out.mono ?_
                rintro e w8 ⟨rfl, F2, H8, N8, K8⟩
                have HM8 := Aside0.mk (HM3.out.heaped H8 N8 K8)
                clear H8 N8 K8 PU HM3 hwc hwz
                go_wp2
                go_roundw
                case rel => exact ⟨c + 1, F2, _, _, by go_num, by omega, HM8, HS2⟩
                case measure => simp [intOf]; omega
              · skip
                have HS2 := Aside0.mk (show HS L = ((List.range (c + 1)).filter fun d => decide (waitsOf (depsTo n comp es n) [] d = 0)) ∧ came = (L.length : Int) from ⟨by rw [HHS.out.1, List.range_succ, List.filter_append]; simp [h0], HHS.out.2⟩)
                generalize waitsOf (depsTo n comp es n) [] c = wc at hwc h0
                have h0z : ¬ (wc : Int) = 0 := by omega
                have h0z2 : ((wc : Int) == 0) = false := by rw [beq_eq_false_iff_ne]; exact h0z
                clear h0 HHS HLL
                go_wp2
                go_roundw
                case rel => exact ⟨c + 1, F, L, came, by go_num, by omega, HM3, HS2⟩
                case measure => simp [intOf]; omega
            · obtain rfl : nc = c := by omega
              have hlci : ¬ (nc : Int) < (nc : Int) := by omega
              have HKA := Aside0.mk (KAll.start (A := adj n es) (n := n) (comp := comp) HHS.out.1 HHS.out.2)
              have POP := Aside0.mk (pop_head (out := []) HCS.out (by omega) HM3.out HKA.out)
              clear HM3 HHS HKA
              go_wp2_with fail
              refine POP.out.mono ?_
              rintro e w6 ⟨x, ok, rfl, HHD⟩
              replace HHD := Aside0.mk HHD
              clear POP
              go_wp2_with fail
              go_loopg [16, 17, 18] (nc + 1) (fun gk s16 s17 s18 wq => ∃ (x : Int) (ok : Bool) (ov : Value) (out : List Nat), s16 = ov ∧ s17 = .int .i64 x ∧ s18 = .bool ok ∧ nc + 1 - out.length ≤ gk ∧ Aside0 (Head w3 w4 wq nc bw g bx bm n vs comp es ov out x ok))
              case atStart => exact ⟨x, ok, .slice none 0 0, [], rfl, rfl, rfl, by simp, HHD⟩
              case round =>
                clear HHD
                obtain ⟨x, ok, ov, out, rfl, rfl, rfl, hgk, HHD⟩ := hrel
                obtain ⟨F, L, came, W, hM3, hor⟩ := HHD.out
                have HM3 := Aside0.mk hM3
                rcases hor with ⟨rfl, xn, hxn, rfl, hkp⟩ | ⟨rfl, rfl, hka⟩
                · have HKP := Aside0.mk hkp
                  have HXN := Aside0.mk hxn
                  have HGK := Aside0.mk hgk
                  have hmem : Mem wr bx bm nc vs (lead n comp) w3.heap.size := hM3.heap.inv
                  have hbox := hmem.box
                  have hmc := hmem.cell xn hxn
                  have hxni : (xn : Int) < (nc : Int) := by omega
                  have txn : ((xn : Nat) : Int).toNat = xn := by omega
                  have hkb := hkp.bounds
                  obtain ⟨ob, hol, oc, hov⟩ := own_slice hM3.out
                  have hol2 : hol = out.length := by
                    rcases hM3.out.2 with ⟨q1, q2⟩ | ⟨q1, q2, q3, q4, _⟩
                    · rw [q1] at hov; injection hov with _ q5 _; rw [List.length_map] at q2; omega
                    · rw [q4] at hov; injection hov with _ q5 _; rw [List.length_map] at q5; exact q5.symm
                  subst hov
                  subst hol2
                  have hMO := hM3.out
                  rw [List.length_map] at hMO
                  have HOW := Aside0.mk hMO
                  have H63 := Aside0.mk (show out.length + 1 ≤ maxLen by unfold maxLen; omega)
                  have HBY := Aside0.mk (show (out.length + 1) * 24 ≤ 140737488355328 by omega)
                  have HSZ := Aside0.mk hM3.keep.size
                  have HPUT := Aside0.mk (fun (o : Obj) (wq : World) (ov2 : Value) hg ho hb => hM3.put (ordC_ok bx bm nc vs (lead n comp) w3.heap.size) (ov2 := ov2) (x := vs xn) (wq := wq) (o := o) hg (by rw [List.length_map]; exact ho) hb)
                  have HOL := Aside0.mk hkb
                  clear hM3 hkp hmem hMO hgk hkb HHD HM3 hxn
                  obtain ⟨ol, hOL⟩ : ∃ ol, out.length = ol := ⟨_, rfl⟩
                  have HOLE := Aside0.mk hOL
                  obtain ⟨vx, hvx⟩ : ∃ vx, vs xn = vx := ⟨_, rfl⟩
                  rw [hvx] at hmc HPUT
                  obtain ⟨vA, vn, vc, hvxs⟩ : ∃ vA vn vc, vx = .slice vA vn vc := by
                    obtain ⟨q1, q2, q3, q4, _⟩ := MEM.out.row xn HXN.out
                    exact ⟨_, _, _, hvx ▸ q4⟩
                  have HVX := Aside0.mk hvx
                  subst hvxs
                  rw [hOL] at HOW H63 HBY HOL HPUT
                  rw [hOL]
                  clear hOL hvx
                  have BK := Aside0.mk (fun (wq : World) (hk : Kept w4 wq (· = bw)) => HM2.out.ll.kept hk (fun k hk e => HM2.out.nbw (e ▸ hk)))
                  obtain ⟨bA, bcp, hvb⟩ := HM2.out.ll.form HXN.out
                  obtain ⟨bl, hbl⟩ : ∃ bl, (backOf (depsTo n comp es n) xn).length = bl := ⟨_, rfl⟩
                  rw [hbl] at hvb
                  have HBL := Aside0.mk hbl
                  have HVB := Aside0.mk hvb
                  have hblt : bl < 1000000 := by
                    have h1 := back_le (depsTo n comp es n) xn
                    have h2 := depsTo_len n comp es n (by rw [HL.out]; exact Nat.le_refl _)
                    have h3 := totTo_le es n
                    omega
                  clear hbl hvb
                  go_wp2_with (at_builtin; refine wpList_append_own_at _ rfl (.tmp 138) (.tmp 143) 24 rfl w4.heap.size 22 ir (.slice none 0 0) 1 24 Try.underlying24 hir hr0 hr1 hr2 rfl (by decide) _ _ _ rfl (HOW.out.alloc _) ⟨wr.heap.size, 0, none⟩ 1 1 [Value.slice vA vn vc] rfl rfl (cell_one_newG _ _ _) (by simp [Value.oneCell']) H63.out HBY.out (Nat.le_trans HSZ.out (by simp)) ?_; intro v1 w7 ho hg _ hb; have PW := Aside0.mk (HPUT.out _ w7 v1 hg ho hb); obtain ⟨Av, nv, cv, hv1⟩ := own_slice ho; subst hv1; have hbk7 := ((BK.out w7 PW.out.keep).cell HXN.out).1; rw [HVB.out] at hbk7; clear ho hg hb)
                  have HM7 := Aside0.mk PW.out
                  clear PW HPUT HOW H63 HBY HSZ hbk7 hbox hmc
                  go_loopw [150] (fun s150 wq => ∃ (k : Nat) (F : Nat → Prop) (L : List Hi.E) (came : Int) (W : Nat → Nat), s150 = .int .i64 k ∧ k ≤ bl ∧ Aside0 (M3 w3 w4 wq nc bw g (ordC bx bm nc vs (lead n comp) w3.heap.size) F L came W (.slice Av nv cv) (out.map vs ++ [.slice vA vn vc])) ∧ Aside0 (KPop (adj n es) n nc comp (depsTo n comp es n) out xn ((backOf (depsTo n comp es n) xn).drop k) W L came)) (fun s150 _ => bl - (intOf s150).toNat)
                  case atStart => exact ⟨0, F, L, came, W, rfl, Nat.zero_le _, HM7, HKP⟩
                  case round =>
                    clear HM7 HKP
                    obtain ⟨k, F, L, came, W, rfl, hk, HM3, HKP⟩ := hrel
                    by_cases hkl : k < bl
                    · have hkli : (k : Int) < (bl : Int) := by omega
                      have tkk : ((k : Nat) : Int).toNat = k := by omega
                      have HKL := Aside0.mk (show k < (backOf (depsTo n comp es n) xn).length by rw [HBL.out]; exact hkl)
                      obtain ⟨d, hd⟩ : ∃ d, ((backOf (depsTo n comp es n) xn)[k]'HKL.out) = d := ⟨_, rfl⟩
                      have HDM := Aside0.mk (show d ∈ backOf (depsTo n comp es n) xn by rw [← hd]; exact List.getElem_mem _)
                      have hdn := back_lt HCS.out HDM.out
                      have HDN := Aside0.mk hdn
                      have hrow := (BK.out wr HM3.out.keep).rows xn HXN.out
                      rw [HVB.out, HBL.out] at hrow
                      obtain ⟨b9, hbA, hdc⟩ : ∃ b9, bA = some ⟨b9, 0, none⟩ ∧ wr.cell? ⟨b9, k, none⟩ = some (.int .i64 (d : Int)) := by
                        rcases hrow.2 with ⟨q1, q2⟩ | ⟨q1, q2, q3, q4, _⟩
                        · omega
                        · injection q4 with q5 _ _
                          subst q5
                          refine ⟨q1, rfl, ?_⟩
                          rw [hrow.cellAt k (by omega)]
                          unfold intsN
                          rw [List.getElem?_map, List.getElem?_eq_getElem HKL.out, hd]
                          rfl
                      subst hbA
                      have HRM : Aside0 ((backOf (depsTo n comp es n) xn).drop k = d :: (backOf (depsTo n comp es n) xn).drop (k + 1)) := ⟨by rw [List.drop_eq_getElem_cons HKL.out, hd]⟩
                      have hst := KPop.step (HRM.out ▸ HKP.out) HDM.out hdn
                      obtain ⟨hw1, hs1, hs2⟩ := hst
                      obtain ⟨hwc, hwz⟩ := HM3.out.wcell hdn
                      have hdni : (d : Int) < (nc : Int) := by omega
                      have tdd : ((d : Nat) : Int).toNat = d := by omega
                      obtain ⟨u, hu⟩ : ∃ u, W d - 1 = u := ⟨_, rfl⟩
                      rw [hu] at hs1 hs2
                      have hwd : (W d : Int) = (u : Int) + 1 := by omega
                      rw [hwd] at hwc
                      have HS1 := Aside0.mk hs1
                      have HS2 := Aside0.mk hs2
                      have HM4 := Aside0.mk (HM3.out.dec (ordC_ok bx bm nc vs (lead n comp) w3.heap.size) d u)
                      have hwb := Aside0.mk HKP.out.bounds
                      have HCM := Aside0.mk HKP.out.came
                      have hub : u < 10000000 := by
                        have h1 := HKP.out.inn.wcnt d hdn
                        have h2 := waits_le (depsTo n comp es n) (out ++ [xn]) d
                        have h3 := depsTo_len n comp es n (by rw [HL.out]; exact Nat.le_refl _)
                        have h4 := totTo_le es n
                        have h5 := List.count_le_length (a := d) (l := (backOf (depsTo n comp es n) xn).drop k)
                        rw [List.length_drop, HBL.out] at h5
                        omega
                      have w64 : IntKind.i64.wrap (u : Int) = (u : Int) := by rw [IntKind.wrap_i64]; omega
                      clear hrow hd hs1 hs2 hw1 hu hwd HM3 HKP hdn
                      by_cases hu0 : u = 0
                      · skip
                        have HKP2 := Aside0.mk (HS2.out hu0)
                        subst hu0
                        have PU := Aside0.mk (push_S (ordC_ok bx bm nc vs (lead n comp) w3.heap.size) (ordC_good bx bm nc vs (lead n comp) w3.heap.size) g F L came (d : Int) _ HM4.out.heap ⟨d, HDN.out, rfl⟩ (by have := hwb.out; omega) (by have := HCM.out; omega) (by have := HCM.out; have := hwb.out; omega))
                        have hwc2 := (HM4.out.wcell HDN.out).1
                        rw [upd_same] at hwc2
                        obtain ⟨w7, hw7⟩ : ∃ w7, wr.setCell ⟨bw, d, none⟩ (.int .i64 ((0 : Nat) : Int)) = w7 := ⟨_, rfl⟩
                        have HW7 : Aside0 (wr.setCell ⟨bw, d, none⟩ (.int .i64 0) = w7) := ⟨hw7⟩
                        rw [hw7] at HM4 PU hwc2
                        clear hw7 HS1 HS2
                        go_upto_region 36 with fail
                        rw [HW7.out]
                        clear hwc hwz hdc HW7
                        go_wp2_with fail
                        refine PU.out.mono ?_
                        rintro e w8 ⟨rfl, F2, H8, N8, K8⟩
                        have HM8 := Aside0.mk (HM4.out.heaped H8 N8 K8)
                        clear H8 N8 K8 PU HM4 hwc2
                        go_wp2
                        go_roundw
                        case rel => exact ⟨k + 1, F2, _, _, _, by go_num, by omega, HM8, HKP2⟩
                        case measure => simp [intOf]; omega
                      · skip
                        have HKP2 := Aside0.mk (HS1.out hu0)
                        have huz : ¬ (u : Int) = 0 := by omega
                        have huz2 : ((u : Int) == 0) = false := by rw [beq_eq_false_iff_ne]; exact huz
                        have hwc2 := (HM4.out.wcell HDN.out).1
                        rw [upd_same] at hwc2
                        obtain ⟨w7, hw7⟩ : ∃ w7, wr.setCell ⟨bw, d, none⟩ (.int .i64 (u : Int)) = w7 := ⟨_, rfl⟩
                        have HW7 : Aside0 (wr.setCell ⟨bw, d, none⟩ (.int .i64 (u : Int)) = w7) := ⟨hw7⟩
                        rw [hw7] at HM4 hwc2
                        clear hw7 HS1 HS2 hu0
                        go_upto_region 36 with fail
                        rw [HW7.out]
                        clear hwc hwz hdc HW7
                        go_wp2
                        go_roundw
                        case rel => exact ⟨k + 1, F, L, came, _, by go_num, by omega, HM4, HKP2⟩
                        case measure => simp [intOf]; omega
                    · obtain rfl : bl = k := by omega
                      have hkli : ¬ (bl : Int) < (bl : Int) := by omega
                      have hrm : (backOf (depsTo n comp es n) xn).drop bl = [] := by rw [← HBL.out]; exact List.drop_length
                      have HKD := KPop.done (hrm ▸ HKP.out)
                      have hvv : (out ++ [xn]).map vs = out.map vs ++ [.slice vA vn vc] := by rw [List.map_append, List.map_cons, List.map_nil, HVX.out]
                      have HM3' := HM3.out
                      rw [← hvv] at HM3'
                      have POP := Aside0.mk (pop_head HCS.out (by omega) HM3' HKD)
                      clear HM3 HKP HKD hrm hvv HM3'
                      go_wp2_with fail
                      refine POP.out.mono ?_
                      rintro e w9 ⟨x2, ok2, rfl, HH2⟩
                      replace HH2 := Aside0.mk HH2
                      clear POP
                      go_wp2
                      go_roundg (nc + 1 - (out ++ [xn]).length)
                      case rel => exact ⟨x2, ok2, .slice Av nv cv, out ++ [xn], rfl, rfl, rfl, Nat.le_refl _, HH2⟩
                      case measure =>
                        have h1 := HGK.out
                        have h2 := HOL.out
                        have h3 := HOLE.out
                        rw [List.length_append]
                        simp
                        omega
                · have HR := Aside0.mk (out_rows HM1.out.1 HM2.out.below hM3 hka.k.olt hka.bounds.2 (by omega) hn)
                  have HPG := Aside0.mk hka.page
                  have HFL := Aside0.mk (hka.k.full HCS.out adj_edge (depsTo_spec n comp es) flat_memb)
                  have HBB := Aside0.mk (show Below w.heap.size w wr from by
                    have h1 := below_trans0 (below_trans0 HB1.out HM1.out.1.below) HM2.out.below
                    have h2 := HB1.out.size
                    have h3 := HM1.out.1.below.size
                    have h4 := hM3.bwlt
                    exact h1.trans (hM3.keep.below h1.size (fun k e => by omega)))
                  clear hM3 hka HM3 HHD
                  go_wp2
                  go_ret
                  refine ⟨_, out.map (memb n comp), rfl, ?_, HPG.out, HFL.out, HBB.out⟩
                  rw [List.map_map]
                  exact reads_rows.mono HR.out (fun b hb _ => Nat.le_trans HB1.out.size hb)
end Go.Proofs.Ytcpjlfhehjmfbaa.Gr
