/- Contract: add to an index. -/
import Derived.Test.YtmgoefhihljggaaSgXf
namespace Go.Proofs.Ytmgoefhihljggaa.Sg
open Go.RowKit Go.Shelf
set_option linter.unusedVariables false
set_option linter.unusedSimpArgs false

set_option maxHeartbeats 4000000 in
set_option maxRecDepth 100000 in
theorem add_any (w : World) (B m g used : Nat) (f : Row → List Int) (kv : Value) (key : Row) (row : Int) (h : IdxOk w B m g f used) (hk : RowAt w (m ≤ ·) kv key) (hkl : key.length < 1000000) (hu : used < 1000000) (hfl : (f key).length + 1 < 1000000) (hrow : In64 row) :
    Calls Try.prog 40 #[.pointer (some ⟨g, 0, none⟩), kv, .int .i64 row] w fun e w' => e = .returned (.tuple #[]) ∧ Below B w w' ∧ IdxOk w' B w'.heap.size g (fun k => if k = key then f key ++ [row] else f k) (if f key = [] then used + 1 else used) := by
  obtain ⟨Ak, ck, rfl, _⟩ := hk.form
  obtain ⟨f2, hf2⟩ : ∃ f2 : Row → List Int, (fun k => if k = key then f key ++ [row] else f k) = f2 := ⟨_, rfl⟩
  obtain ⟨ud2, hud2⟩ : ∃ ud2 : Nat, (if f key = [] then used + 1 else used) = ud2 := ⟨_, rfl⟩
  rw [hf2, hud2]
  have HF2 := Aside0.mk hf2
  have HU2 := Aside0.mk hud2
  clear hf2 hud2
  obtain ⟨sb, N, col, T, hW, hG, hM, hC, h2, h4, hN, hm⟩ := h.ex
  obtain ⟨k1, k2, kf, _⟩ := hW.2.ublk
  obtain ⟨ii, hii, hi0, hi1, hi2⟩ := info_parts info_int
  have hq := fun (w : World) a n c => Go.Lib.run_eql_slice_nil (P := Try.prog) w 29 3 a n c 0 0 Try.underlying29
  by_cases hgr : N ≤ 2 * used
  · have GR := Aside0.mk (fun w1 (hd : Drew w w1) => addMid_grow hW hG hM hC h2 hgr h4 hu hm hk hd)
    have d0 : decide ((N : Int) ≤ 2 * (used : Int)) = true := by simp; omega
    clear h hW hG hM hC hm hk
    go_enter Try.func40, Try.ntmps40
    go_wp2_with fail
    go_region
    go_wp2_with fail
    refine (GR.out _ ⟨1, rfl⟩).mono ?_
    rintro e W1 ⟨rfl, HM⟩
    clear k1 k2 kf d0 GR
    obtain ⟨HB, sb1, N1, col1, T1, a1, a2, a3, a4, a5, a6, a7, a8⟩ := HM
    obtain ⟨jf, hjf⟩ := free_of_cnt (T := T1) (by rw [a1.1]; omega)
    obtain ⟨D, hD1, hD2⟩ := fnd_ex hjf (Hn key) key
    obtain ⟨i, hi⟩ : ∃ i, (Hn key + D) % T1.length = i := ⟨_, rfl⟩
    have FI := Aside0.mk (show Fnd T1 (Hn key) key i from ⟨D, hi.symm, by rw [← hi]; exact hD1, hD2⟩)
    have hi2' : i < N1 := by rw [← hi, a1.1]; exact Nat.mod_lt _ (by omega)
    have FD := Aside0.mk (find_any W1 (fun _ => True) (fun _ => True) sb1 N1 i T1 (.slice Ak key.length ck) key a1.tabAt a1.1 (by omega) (by omega) (reads_row.mono a8 (fun _ _ _ => trivial)) FI.out)
    obtain ⟨u1, u2, u3, u4⟩ := a1.2.ublk
    have HA1 := Aside0.mk a1
    have HA2 := Aside0.mk a2
    have HA3 := Aside0.mk a3
    have HA4 := Aside0.mk a4
    have HA8 := Aside0.mk a8
    have HHB := Aside0.mk HB
    clear a1 a2 a3 a4 a8 hjf hD1 hD2 hi HB
    go_wp2_with fail
    refine (FD.out).mono ?_
    rintro e W2 ⟨rfl, q, rfl⟩
    obtain ⟨W, hWW⟩ : ∃ W, W1.drewN q = W := ⟨_, rfl⟩
    have HW := Aside0.mk (show IdxW W B g sb1 N1 used col1 T1 by rw [← hWW]; exact HA1.out.stays (Stays.drewN _ _ _))
    have HK := Aside0.mk (show RowAt W (fun b => col1 b = .free) (.slice Ak key.length ck) key by rw [← hWW]; exact reads_row.stays HA8.out (Stays.drewN _ _ _))
    have HBW := Aside0.mk (show Below B w W by rw [← hWW]; exact below_drewN HHB.out _)
    clear u1 u2 u3 u4 FD
    rw [hWW]
    clear hWW
    obtain ⟨u1, u2, u3, u4⟩ := HW.out.2.ublk
    obtain ⟨g1, g2, g3, g4, g5⟩ := HW.out.2.glt
    rcases HA2.out.probe HA3.out FI.out with ⟨hTi, hfe⟩ | ⟨hTi, hfe⟩
    · obtain ⟨c1, c2, _⟩ := HW.out.free_ hTi
      have hno : ∀ rs, ¬ Sg.Holds T1 key rs := fun rs hh => ((HA3.out key rs).1 hh).2 (hfe ▸ ((HA3.out key rs).1 hh).1.symm)
      have hx1 := (Stays.setCell W ⟨sb1, i * 2, none⟩ (.slice Ak key.length ck)).cell (b := g) (o := 2) g5 u2
      have hx2 := (Stays.setCell W ⟨sb1, i * 2, none⟩ (.slice Ak key.length ck)).cell (b := g) (o := 1) g5 u1
      have hx3 : (W.setCell ⟨sb1, i * 2, none⟩ (.slice Ak key.length ck)).frozen? ⟨g, 2, none⟩ = false := by
        have := (Stays.setCell W ⟨sb1, i * 2, none⟩ (.slice Ak key.length ck)) g g5 g1
        have hf := u3 2
        simpa [World.frozen?, this] using hf
      have e1 : ((used + 1 : Nat) : Int) = (used : Int) + 1 := by omega
      have MM := HW.out.new_ HA2.out hTi HK.out hkl hno
      rw [e1] at MM
      obtain ⟨W3, hW3⟩ : ∃ W3, (W.setCell ⟨sb1, i * 2, none⟩ (.slice Ak key.length ck)).setCell ⟨g, 2, none⟩ (.int .i64 ((used : Int) + 1)) = W3 := ⟨_, rfl⟩
      rw [hW3] at MM
      have B3 := Aside0.mk (show Below B w W3 by rw [← hW3]; exact below_setCell (below_setCell HBW.out (p := ⟨sb1, i * 2, none⟩) g4 _) (p := ⟨g, 2, none⟩) g3 _)
      have HW3 := Aside0.mk hW3
      have HTI := Aside0.mk hTi
      have HFE := Aside0.mk hfe
      clear hW3 hno hTi hfe e1
      go_wp2_with fail
      rw [HW3.out]
      clear u1 u2 u3 u4 c1 c2 hx1 hx2 hx3 HW3
      obtain ⟨c1, OWN0, _, _⟩ := MM.cellv
      obtain ⟨u1, _, _, _⟩ := MM.2.2.2.ublk
      have x1 := (Stays.alloc (fun _ => True) W3 (.cells #[.int .i64 row] 3)).cell trivial c1
      have x2 := (Stays.alloc (fun _ => True) W3 (.cells #[.int .i64 row] 3)).cell trivial u1
      have OWN := Aside0.mk OWN0
      have HMM := Aside0.mk MM
      have hB3 := Aside0.mk (show B ≤ W3.heap.size by have := MM.2.2.2.glt; omega)
      have H63 := Aside0.mk (show 0 + 1 ≤ maxLen by unfold maxLen; omega)
      have HBY := Aside0.mk (show (0 + 1) * 8 ≤ 140737488355328 by omega)
      clear OWN0 MM
      go_region_law (refine step_append_own rfl (.tmp 62) (.tmp 64) 29 rfl B 3 ii (.int .i64 0) 1 8 Try.underlying29 hii hi0 hi1 hi2 rfl (by decide) (.slice none 0 0) 0 (List.map (Value.int .i64) []) (by simp [Act.eval, Act.put]) (OWN.out.alloc _) ⟨W3.heap.size, 0, none⟩ 1 1 [.int .i64 row] (by simp [Act.eval, Act.put]) rfl (news1 W3 _ _) (by simp [Value.oneCell']) H63.out HBY.out (size_alloc_le hB3.out _) ?_; intro v1 w1 ho hg _ hbo; obtain ⟨m1, m2, m3⟩ := after_app HMM.out hg; have HO := Aside0.mk ho; have HG := Aside0.mk hg; have HBO := Aside0.mk hbo; obtain ⟨b1, cap1, rfl⟩ := own_some ho; clear ho hg hbo)
      all_goals
        go_wp2
        go_end0
        obtain ⟨D1, D2⟩ := HMM.out.done (r := row) hrow (by simp) HO.out HG.out HBO.out
        have hr : f key ++ [row] ≠ [] := by simp
        refine ⟨rfl, B3.out.trans D2, ?_⟩
        rw [← HF2.out, ← HU2.out, if_pos HFE.out]
        have D1' := D1
        rw [show ([] : List Int) ++ [row] = f key ++ [row] from by rw [HFE.out]] at D1'
        exact add_end D1' (HA2.out.new FI.out HTI.out hr) (HA3.out.put HA2.out FI.out hr) (by rw [cnt_set_none HTI.out, HA4.out]) (by omega) (by omega) (by omega)
    · obtain ⟨v, MM, c1, bv, cv, hv⟩ := HW.out.old HA2.out hTi
      subst hv
      have HTI := Aside0.mk hTi
      have HFE := Aside0.mk hfe
      have B3 := Aside0.mk HBW.out
      clear hTi hfe
      go_wp2_with fail
      clear u1 u2 u3 u4 c1
      obtain ⟨W3, hW3⟩ : ∃ W3, W = W3 := ⟨_, rfl⟩
      rw [hW3] at MM B3
      rw [hW3]
      clear hW3
      obtain ⟨c1, OWN0, _, _⟩ := MM.cellv
      obtain ⟨u1, _, _, _⟩ := MM.2.2.2.ublk
      have x1 := (Stays.alloc (fun _ => True) W3 (.cells #[.int .i64 row] 3)).cell trivial c1
      have x2 := (Stays.alloc (fun _ => True) W3 (.cells #[.int .i64 row] 3)).cell trivial u1
      have OWN := Aside0.mk OWN0
      have HMM := Aside0.mk MM
      have hB3 := Aside0.mk (show B ≤ W3.heap.size by have := MM.2.2.2.glt; omega)
      have H63 := Aside0.mk (show (f key).length + 1 ≤ maxLen by unfold maxLen; omega)
      have HBY := Aside0.mk (show ((f key).length + 1) * 8 ≤ 140737488355328 by omega)
      clear OWN0 MM
      go_region_law (refine step_append_own rfl (.tmp 62) (.tmp 64) 29 rfl B 3 ii (.int .i64 0) 1 8 Try.underlying29 hii hi0 hi1 hi2 rfl (by decide) (.slice (some ⟨bv, 0, none⟩) (f key).length cv) (f key).length (List.map (Value.int .i64) (f key)) (by simp [Act.eval, Act.put]) (OWN.out.alloc _) ⟨W3.heap.size, 0, none⟩ 1 1 [.int .i64 row] (by simp [Act.eval, Act.put]) rfl (news1 W3 _ _) (by simp [Value.oneCell']) H63.out HBY.out (size_alloc_le hB3.out _) ?_; intro v1 w1 ho hg _ hbo; obtain ⟨m1, m2, m3⟩ := after_app HMM.out hg; have HO := Aside0.mk ho; have HG := Aside0.mk hg; have HBO := Aside0.mk hbo; obtain ⟨b1, cap1, rfl⟩ := own_some ho; clear ho hg hbo)
      all_goals
        go_wp2
        go_end0
        obtain ⟨D1, D2⟩ := HMM.out.done (r := row) hrow (by exact hfl) HO.out HG.out HBO.out
        have hr : f key ++ [row] ≠ [] := by simp
        refine ⟨rfl, B3.out.trans D2, ?_⟩
        rw [← HF2.out, ← HU2.out, if_neg HFE.out]
        exact add_end D1 (HA2.out.old HTI.out hr) (HA3.out.put HA2.out FI.out hr) (by rw [cnt_set_some HTI.out, HA4.out]) (by omega) (by omega) (by omega)
  · have AM := Aside0.mk (fun w1 (hd : Drew w w1) => addMid_no hW hG hM hC (by omega) h4 hN hm hk hd)
    have d0 : decide ((N : Int) ≤ 2 * (used : Int)) = false := by simp; omega
    clear h hW hG hM hC hm hk
    go_enter Try.func40, Try.ntmps40
    go_wp2_with fail
    go_region
    obtain ⟨W1, hW1⟩ : ∃ W1, w.drew = W1 := ⟨_, rfl⟩
    have HM := AM.out W1 ⟨1, hW1.symm⟩
    rw [hW1]
    clear k1 k2 kf AM hW1
    obtain ⟨HB, sb1, N1, col1, T1, a1, a2, a3, a4, a5, a6, a7, a8⟩ := HM
    obtain ⟨jf, hjf⟩ := free_of_cnt (T := T1) (by rw [a1.1]; omega)
    obtain ⟨D, hD1, hD2⟩ := fnd_ex hjf (Hn key) key
    obtain ⟨i, hi⟩ : ∃ i, (Hn key + D) % T1.length = i := ⟨_, rfl⟩
    have FI := Aside0.mk (show Fnd T1 (Hn key) key i from ⟨D, hi.symm, by rw [← hi]; exact hD1, hD2⟩)
    have hi2' : i < N1 := by rw [← hi, a1.1]; exact Nat.mod_lt _ (by omega)
    have FD := Aside0.mk (find_any W1 (fun _ => True) (fun _ => True) sb1 N1 i T1 (.slice Ak key.length ck) key a1.tabAt a1.1 (by omega) (by omega) (reads_row.mono a8 (fun _ _ _ => trivial)) FI.out)
    obtain ⟨u1, u2, u3, u4⟩ := a1.2.ublk
    have HA1 := Aside0.mk a1
    have HA2 := Aside0.mk a2
    have HA3 := Aside0.mk a3
    have HA4 := Aside0.mk a4
    have HA8 := Aside0.mk a8
    have HHB := Aside0.mk HB
    clear a1 a2 a3 a4 a8 hjf hD1 hD2 hi HB
    go_wp2_with fail
    refine (FD.out).mono ?_
    rintro e W2 ⟨rfl, q, rfl⟩
    obtain ⟨W, hWW⟩ : ∃ W, W1.drewN q = W := ⟨_, rfl⟩
    have HW := Aside0.mk (show IdxW W B g sb1 N1 used col1 T1 by rw [← hWW]; exact HA1.out.stays (Stays.drewN _ _ _))
    have HK := Aside0.mk (show RowAt W (fun b => col1 b = .free) (.slice Ak key.length ck) key by rw [← hWW]; exact reads_row.stays HA8.out (Stays.drewN _ _ _))
    have HBW := Aside0.mk (show Below B w W by rw [← hWW]; exact below_drewN HHB.out _)
    clear u1 u2 u3 u4 FD
    rw [hWW]
    clear hWW
    obtain ⟨u1, u2, u3, u4⟩ := HW.out.2.ublk
    obtain ⟨g1, g2, g3, g4, g5⟩ := HW.out.2.glt
    rcases HA2.out.probe HA3.out FI.out with ⟨hTi, hfe⟩ | ⟨hTi, hfe⟩
    · obtain ⟨c1, c2, _⟩ := HW.out.free_ hTi
      have hno : ∀ rs, ¬ Sg.Holds T1 key rs := fun rs hh => ((HA3.out key rs).1 hh).2 (hfe ▸ ((HA3.out key rs).1 hh).1.symm)
      have hx1 := (Stays.setCell W ⟨sb1, i * 2, none⟩ (.slice Ak key.length ck)).cell (b := g) (o := 2) g5 u2
      have hx2 := (Stays.setCell W ⟨sb1, i * 2, none⟩ (.slice Ak key.length ck)).cell (b := g) (o := 1) g5 u1
      have hx3 : (W.setCell ⟨sb1, i * 2, none⟩ (.slice Ak key.length ck)).frozen? ⟨g, 2, none⟩ = false := by
        have := (Stays.setCell W ⟨sb1, i * 2, none⟩ (.slice Ak key.length ck)) g g5 g1
        have hf := u3 2
        simpa [World.frozen?, this] using hf
      have e1 : ((used + 1 : Nat) : Int) = (used : Int) + 1 := by omega
      have MM := HW.out.new_ HA2.out hTi HK.out hkl hno
      rw [e1] at MM
      obtain ⟨W3, hW3⟩ : ∃ W3, (W.setCell ⟨sb1, i * 2, none⟩ (.slice Ak key.length ck)).setCell ⟨g, 2, none⟩ (.int .i64 ((used : Int) + 1)) = W3 := ⟨_, rfl⟩
      rw [hW3] at MM
      have B3 := Aside0.mk (show Below B w W3 by rw [← hW3]; exact below_setCell (below_setCell HBW.out (p := ⟨sb1, i * 2, none⟩) g4 _) (p := ⟨g, 2, none⟩) g3 _)
      have HW3 := Aside0.mk hW3
      have HTI := Aside0.mk hTi
      have HFE := Aside0.mk hfe
      clear hW3 hno hTi hfe e1
      go_wp2_with fail
      rw [HW3.out]
      clear u1 u2 u3 u4 c1 c2 hx1 hx2 hx3 HW3
      obtain ⟨c1, OWN0, _, _⟩ := MM.cellv
      obtain ⟨u1, _, _, _⟩ := MM.2.2.2.ublk
      have x1 := (Stays.alloc (fun _ => True) W3 (.cells #[.int .i64 row] 3)).cell trivial c1
      have x2 := (Stays.alloc (fun _ => True) W3 (.cells #[.int .i64 row] 3)).cell trivial u1
      have OWN := Aside0.mk OWN0
      have HMM := Aside0.mk MM
      have hB3 := Aside0.mk (show B ≤ W3.heap.size by have := MM.2.2.2.glt; omega)
      have H63 := Aside0.mk (show 0 + 1 ≤ maxLen by unfold maxLen; omega)
      have HBY := Aside0.mk (show (0 + 1) * 8 ≤ 140737488355328 by omega)
      clear OWN0 MM
      go_region_law (refine step_append_own rfl (.tmp 62) (.tmp 64) 29 rfl B 3 ii (.int .i64 0) 1 8 Try.underlying29 hii hi0 hi1 hi2 rfl (by decide) (.slice none 0 0) 0 (List.map (Value.int .i64) []) (by simp [Act.eval, Act.put]) (OWN.out.alloc _) ⟨W3.heap.size, 0, none⟩ 1 1 [.int .i64 row] (by simp [Act.eval, Act.put]) rfl (news1 W3 _ _) (by simp [Value.oneCell']) H63.out HBY.out (size_alloc_le hB3.out _) ?_; intro v1 w1 ho hg _ hbo; obtain ⟨m1, m2, m3⟩ := after_app HMM.out hg; have HO := Aside0.mk ho; have HG := Aside0.mk hg; have HBO := Aside0.mk hbo; obtain ⟨b1, cap1, rfl⟩ := own_some ho; clear ho hg hbo)
      all_goals
        go_wp2
        go_end0
        obtain ⟨D1, D2⟩ := HMM.out.done (r := row) hrow (by simp) HO.out HG.out HBO.out
        have hr : f key ++ [row] ≠ [] := by simp
        refine ⟨rfl, B3.out.trans D2, ?_⟩
        rw [← HF2.out, ← HU2.out, if_pos HFE.out]
        have D1' := D1
        rw [show ([] : List Int) ++ [row] = f key ++ [row] from by rw [HFE.out]] at D1'
        exact add_end D1' (HA2.out.new FI.out HTI.out hr) (HA3.out.put HA2.out FI.out hr) (by rw [cnt_set_none HTI.out, HA4.out]) (by omega) (by omega) (by omega)
    · obtain ⟨v, MM, c1, bv, cv, hv⟩ := HW.out.old HA2.out hTi
      subst hv
      have HTI := Aside0.mk hTi
      have HFE := Aside0.mk hfe
      have B3 := Aside0.mk HBW.out
      clear hTi hfe
      go_wp2_with fail
      clear u1 u2 u3 u4 c1
      obtain ⟨W3, hW3⟩ : ∃ W3, W = W3 := ⟨_, rfl⟩
      rw [hW3] at MM B3
      rw [hW3]
      clear hW3
      obtain ⟨c1, OWN0, _, _⟩ := MM.cellv
      obtain ⟨u1, _, _, _⟩ := MM.2.2.2.ublk
      have x1 := (Stays.alloc (fun _ => True) W3 (.cells #[.int .i64 row] 3)).cell trivial c1
      have x2 := (Stays.alloc (fun _ => True) W3 (.cells #[.int .i64 row] 3)).cell trivial u1
      have OWN := Aside0.mk OWN0
      have HMM := Aside0.mk MM
      have hB3 := Aside0.mk (show B ≤ W3.heap.size by have := MM.2.2.2.glt; omega)
      have H63 := Aside0.mk (show (f key).length + 1 ≤ maxLen by unfold maxLen; omega)
      have HBY := Aside0.mk (show ((f key).length + 1) * 8 ≤ 140737488355328 by omega)
      clear OWN0 MM
      go_region_law (refine step_append_own rfl (.tmp 62) (.tmp 64) 29 rfl B 3 ii (.int .i64 0) 1 8 Try.underlying29 hii hi0 hi1 hi2 rfl (by decide) (.slice (some ⟨bv, 0, none⟩) (f key).length cv) (f key).length (List.map (Value.int .i64) (f key)) (by simp [Act.eval, Act.put]) (OWN.out.alloc _) ⟨W3.heap.size, 0, none⟩ 1 1 [.int .i64 row] (by simp [Act.eval, Act.put]) rfl (news1 W3 _ _) (by simp [Value.oneCell']) H63.out HBY.out (size_alloc_le hB3.out _) ?_; intro v1 w1 ho hg _ hbo; obtain ⟨m1, m2, m3⟩ := after_app HMM.out hg; have HO := Aside0.mk ho; have HG := Aside0.mk hg; have HBO := Aside0.mk hbo; obtain ⟨b1, cap1, rfl⟩ := own_some ho; clear ho hg hbo)
      all_goals
        go_wp2
        go_end0
        obtain ⟨D1, D2⟩ := HMM.out.done (r := row) hrow (by exact hfl) HO.out HG.out HBO.out
        have hr : f key ++ [row] ≠ [] := by simp
        refine ⟨rfl, B3.out.trans D2, ?_⟩
        rw [← HF2.out, ← HU2.out, if_neg HFE.out]
        exact add_end D1 (HA2.out.old HTI.out hr) (HA3.out.put HA2.out FI.out hr) (by rw [cnt_set_some HTI.out, HA4.out]) (by omega) (by omega) (by omega)
end Go.Proofs.Ytmgoefhihljggaa.Sg
