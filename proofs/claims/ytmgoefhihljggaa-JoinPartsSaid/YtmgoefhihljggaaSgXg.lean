/- Contracts: a row's numbers at some places; Probe and Len of an index. -/
import Derived.Test.YtmgoefhihljggaaSgXf
namespace Go.Proofs.Ytmgoefhihljggaa.Sg
open Go.RowKit Go.Shelf
set_option linter.unusedVariables false
set_option linter.unusedSimpArgs false

/-- A row's numbers at some places. -/
def keyOf (row : Row) : List Int → Row
  | [] => []
  | k :: ks => if 0 ≤ k ∧ k < row.length then row.getD k.toNat 0 :: keyOf row ks else keyOf row ks
theorem keyOf_append (row : Row) (a b : List Int) : keyOf row (a ++ b) = keyOf row a ++ keyOf row b := by
  induction a with
  | nil => rfl
  | cons k a ih =>
    simp only [List.cons_append, keyOf, ih]
    split <;> simp
theorem keyOf_yes {row : Row} {ks : List Int} {m j : Nat} (hm : m < ks.length) (hk : ks[m] = (j : Int)) (hj : j < row.length) : keyOf row (ks.take (m + 1)) = keyOf row (ks.take m) ++ [row[j]] := by
  rw [List.take_succ_eq_append_getElem hm, keyOf_append, hk]
  simp [keyOf, hj]
theorem keyOf_no {row : Row} {ks : List Int} {m : Nat} (hm : m < ks.length) (hk : ¬ (0 ≤ ks[m] ∧ ks[m] < row.length)) : keyOf row (ks.take (m + 1)) = keyOf row (ks.take m) := by
  rw [List.take_succ_eq_append_getElem hm, keyOf_append]
  simp only [keyOf, if_neg hk, List.append_nil]
theorem keyOf_length (row : Row) (ks : List Int) : (keyOf row ks).length ≤ ks.length := by
  induction ks with
  | nil => exact Nat.le_refl _
  | cons k ks ih => unfold keyOf; split <;> simp <;> omega
theorem keyOf_mem {row : Row} {ks : List Int} {x : Int} (h : x ∈ keyOf row ks) : x ∈ row := by
  induction ks with
  | nil => cases h
  | cons k ks ih =>
    unfold keyOf at h
    split at h
    · rename_i hk
      rcases List.mem_cons.1 h with rfl | h
      · rw [List.getD_eq_getElem?_getD, List.getElem?_eq_getElem (show k.toNat < row.length by omega)]
        exact List.getElem_mem _
      · exact ih h
    · exact ih h
theorem make_cap (n : Nat) (hn : n ≤ 1000000) (w : World) :
    (Instr.makeSlice 24 (.int .i64 0) (.int .i64 (n : Int))).run Try.prog w = .ok (.slice (some ⟨w.heap.size, 0, none⟩) 0 n) (w.alloc (.cells (madeCells #[.int .i64 0] n) 2)) := by
  obtain ⟨i, hi, hz, hs, hb⟩ := info_parts info_i64
  have hb' : (i.bytes : Int) * (n : Int) ≤ 281474976710656 := by
    have h : ((i.bytes * n : Nat) : Int) ≤ 281474976710656 := by rw [hb]; omega
    rwa [Int.natCast_mul] at h
  have hr := run_make (P := Try.prog) w 24 2 i _ Try.underlying24 hi hz .i64 .i64 (0 : Nat) n (by omega) (by omega) hb' (by omega)
  simp only [Int.toNat_natCast, hs] at hr
  simpa [Value.cells] using hr
theorem owns_cap (w : World) (B e n : Nat) (z : Value) (hb : B ≤ w.heap.size) (hn : n ≤ 1000000) : (w.alloc (.cells (madeCells #[z] n) e)).ownsRow B e 1 (.slice (some ⟨w.heap.size, 0, none⟩) 0 n) 0 [] :=
  ⟨rfl, .inr ⟨w.heap.size, n, _, rfl, hb, heap_alloc_new w _, Nat.zero_le _, by unfold maxLen; omega, by simp [madeCells], by simp⟩⟩

set_option maxHeartbeats 2000000 in
set_option maxRecDepth 100000 in
theorem keyx_own (w : World) (ok ok2 : Nat → Prop) (rv kv : Value) (row ks : List Int) (h : RowAt w ok rv row) (hk : RowAt w ok2 kv ks) (hl : ks.length < 1000000) :
    Calls Try.prog 26 #[rv, kv] w fun e w' => ∃ v, e = .returned v ∧ w'.ownsRow w.heap.size 2 1 v (keyOf row ks).length ((keyOf row ks).map (Value.int .i64)) ∧ (keyOf row ks).length < 1000000 ∧ (∀ x ∈ keyOf row ks, In64 x) ∧ Below w.heap.size w w' := by
  obtain ⟨A, c, rfl, hc, hm, _⟩ := h.form
  obtain ⟨A2, c2, rfl, hc2, hm2, _⟩ := hk.form
  obtain ⟨ir, hir, hr0, hr1, hr2⟩ := info_parts info_i64
  have H := Aside0.mk h
  have HK := Aside0.mk hk
  have hmk := make_cap ks.length (by omega)
  clear h hk
  go_enter Try.func26, Try.ntmps26
  go_wp2
  go_loopw [5, 13] (fun s5 s13 wr => ∃ m : Nat, s13 = .int .i64 m ∧ m ≤ ks.length ∧ Aside0 (wr.ownsRow w.heap.size 2 1 s5 (keyOf row (ks.take m)).length ((keyOf row (ks.take m)).map (Value.int .i64))) ∧ Aside0 (Below w.heap.size w wr)) (fun _ s13 _ => ks.length - (intOf s13).toNat)
  case atStart => exact ⟨0, rfl, Nat.zero_le _, ⟨owns_cap w w.heap.size 2 ks.length (.int .i64 0) (Nat.le_refl _) (by omega)⟩, ⟨below_alloc0 (Below.refl _ _) _⟩⟩
  case round =>
    obtain ⟨m, rfl, hm0, HO, HB⟩ := hrel
    by_cases hlt : m < ks.length
    · obtain ⟨b, o, u, rfl, _, _, hc0, rfl, _⟩ := (HK.out.below reads_int HB.out).at_ m hlt
      have hkl := keyOf_length row (ks.take m)
      have htl : (ks.take m).length ≤ m := List.length_take_le _ _
      have hbs := HB.out.size
      by_cases hyes : 0 ≤ ks[m] ∧ ks[m] < row.length
      · obtain ⟨j, hj⟩ : ∃ j : Nat, ks[m] = (j : Int) := ⟨(ks[m]).toNat, by omega⟩
        have hjl : j < row.length := by omega
        obtain ⟨b2, o2, u2, rfl, _, _, hc3, rfl, _⟩ := (H.out.below reads_int HB.out).at_ j hjl
        have HY := Aside0.mk (keyOf_yes hlt hj hjl)
        rw [hj] at hc0
        generalize row[j] = x at *
        have h63 := Aside0.mk (show (keyOf row (ks.take m)).length + 1 ≤ maxLen by unfold maxLen; omega)
        have hby := Aside0.mk (show ((keyOf row (ks.take m)).length + 1) * 8 ≤ 140737488355328 by omega)
        have hsz := Aside0.mk (fun o => (show w.heap.size ≤ (wr.alloc o).heap.size by simp; omega))
        clear hj hyes hkl htl
        go_wp2_with (at_builtin; refine wpList_append_own_at _ rfl (.tmp 25) (.tmp 30) 24 rfl w.heap.size 2 ir (.int .i64 0) 1 8 Try.underlying24 hir hr0 hr1 hr2 rfl (by decide) _ _ _ rfl (HO.out.alloc _) ⟨wr.heap.size, 0, none⟩ 1 1 [Value.int .i64 x] rfl rfl (cell_one_new _ _ _) (by simp [Value.oneCell']) h63.out hby.out (hsz.out _) ?_; intro v1 w1 ho hg _ hb; have O1 := Aside0.mk ho; have G1 := Aside0.mk hg; clear ho hg hb)
        go_roundw
        case rel =>
          refine ⟨m + 1, by go_num, by omega, ⟨?_⟩, ⟨?_⟩⟩
          · rw [HY.out]; simpa using O1.out
          · exact (below_alloc HB.out hbs _).grown G1.out (by simp; omega) (own_below HO.out)
        case measure => simp [intOf]; omega
      · have HY := Aside0.mk (keyOf_no hlt hyes)
        by_cases hneg : 0 ≤ ks[m]
        · have d1 : decide (ks[m] < (row.length : Int)) = false := by simp; omega
          have d0 : decide (0 ≤ ks[m]) = true := by simpa using hneg
          clear hyes hneg
          generalize ks[m] = k at *
          go_wp2
          go_roundw
          case rel => exact ⟨m + 1, by go_num, by omega, ⟨by rw [HY.out]; exact HO.out⟩, HB⟩
          case measure => simp [intOf]; omega
        · have d0 : decide (0 ≤ ks[m]) = false := by simpa using hneg
          clear hyes hneg
          generalize ks[m] = k at *
          go_wp2
          go_roundw
          case rel => exact ⟨m + 1, by go_num, by omega, ⟨by rw [HY.out]; exact HO.out⟩, HB⟩
          case measure => simp [intOf]; omega
    · obtain rfl : m = ks.length := by omega
      rw [List.take_length] at HO
      go_wp2
      go_ret
      have := keyOf_length row ks
      exact ⟨_, rfl, HO.out, by omega, (fun x hx => H.out.in64 x (keyOf_mem hx)), HB.out⟩
theorem keyx_any (w : World) (ok ok2 : Nat → Prop) (rv kv : Value) (row ks : List Int) (h : RowAt w ok rv row) (hk : RowAt w ok2 kv ks) (hl : ks.length < 1000000) :
    Calls Try.prog 26 #[rv, kv] w fun e w' => ∃ v, e = .returned v ∧ RowAt w' (w.heap.size ≤ ·) v (keyOf row ks) ∧ Below w.heap.size w w' :=
  (keyx_own w ok ok2 rv kv row ks h hk hl).mono fun e w' ⟨v, h1, h2, h3, h4, h5⟩ => ⟨v, h1, RowAt.of_own h2 (by omega) h4, h5⟩

set_option maxHeartbeats 2000000 in
set_option maxRecDepth 100000 in
theorem key7_own (w : World) (ok ok2 : Nat → Prop) (rv kv : Value) (row ks : List Int) (h : RowAt w ok rv row) (hk : RowAt w ok2 kv ks) (hl : ks.length < 1000000) :
    Calls Try.prog 35 #[rv, kv] w fun e w' => ∃ v, e = .returned v ∧ w'.ownsRow w.heap.size 2 1 v (keyOf row ks).length ((keyOf row ks).map (Value.int .i64)) ∧ (keyOf row ks).length < 1000000 ∧ (∀ x ∈ keyOf row ks, In64 x) ∧ Below w.heap.size w w' := by
  obtain ⟨A, c, rfl, hc, hm, _⟩ := h.form
  obtain ⟨A2, c2, rfl, hc2, hm2, _⟩ := hk.form
  obtain ⟨ir, hir, hr0, hr1, hr2⟩ := info_parts info_i64
  have H := Aside0.mk h
  have HK := Aside0.mk hk

  clear h hk
  go_enter Try.func35, Try.ntmps35
  go_wp2
  go_loopw [5, 11] (fun s5 s13 wr => ∃ m : Nat, s13 = .int .i64 m ∧ m ≤ ks.length ∧ Aside0 (wr.ownsRow w.heap.size 2 1 s5 (keyOf row (ks.take m)).length ((keyOf row (ks.take m)).map (Value.int .i64))) ∧ Aside0 (Below w.heap.size w wr)) (fun _ s13 _ => ks.length - (intOf s13).toNat)
  case atStart => exact ⟨0, rfl, Nat.zero_le _, ⟨owns_empty w w.heap.size 2 (Nat.le_refl _)⟩, ⟨below_alloc0 (Below.refl _ _) _⟩⟩
  case round =>
    obtain ⟨m, rfl, hm0, HO, HB⟩ := hrel
    by_cases hlt : m < ks.length
    · obtain ⟨b, o, u, rfl, _, _, hc0, rfl, _⟩ := (HK.out.below reads_int HB.out).at_ m hlt
      have hkl := keyOf_length row (ks.take m)
      have htl : (ks.take m).length ≤ m := List.length_take_le _ _
      have hbs := HB.out.size
      by_cases hyes : 0 ≤ ks[m] ∧ ks[m] < row.length
      · obtain ⟨j, hj⟩ : ∃ j : Nat, ks[m] = (j : Int) := ⟨(ks[m]).toNat, by omega⟩
        have hjl : j < row.length := by omega
        obtain ⟨b2, o2, u2, rfl, _, _, hc3, rfl, _⟩ := (H.out.below reads_int HB.out).at_ j hjl
        have HY := Aside0.mk (keyOf_yes hlt hj hjl)
        rw [hj] at hc0
        generalize row[j] = x at *
        have h63 := Aside0.mk (show (keyOf row (ks.take m)).length + 1 ≤ maxLen by unfold maxLen; omega)
        have hby := Aside0.mk (show ((keyOf row (ks.take m)).length + 1) * 8 ≤ 140737488355328 by omega)
        have hsz := Aside0.mk (fun o => (show w.heap.size ≤ (wr.alloc o).heap.size by simp; omega))
        clear hj hyes hkl htl
        go_wp2_with (at_builtin; refine wpList_append_own_at _ rfl (.tmp 23) (.tmp 28) 24 rfl w.heap.size 2 ir (.int .i64 0) 1 8 Try.underlying24 hir hr0 hr1 hr2 rfl (by decide) _ _ _ rfl (HO.out.alloc _) ⟨wr.heap.size, 0, none⟩ 1 1 [Value.int .i64 x] rfl rfl (cell_one_new _ _ _) (by simp [Value.oneCell']) h63.out hby.out (hsz.out _) ?_; intro v1 w1 ho hg _ hb; have O1 := Aside0.mk ho; have G1 := Aside0.mk hg; clear ho hg hb)
        go_roundw
        case rel =>
          refine ⟨m + 1, by go_num, by omega, ⟨?_⟩, ⟨?_⟩⟩
          · rw [HY.out]; simpa using O1.out
          · exact (below_alloc HB.out hbs _).grown G1.out (by simp; omega) (own_below HO.out)
        case measure => simp [intOf]; omega
      · have HY := Aside0.mk (keyOf_no hlt hyes)
        by_cases hneg : 0 ≤ ks[m]
        · have d1 : decide (ks[m] < (row.length : Int)) = false := by simp; omega
          have d0 : decide (0 ≤ ks[m]) = true := by simpa using hneg
          clear hyes hneg
          generalize ks[m] = k at *
          go_wp2
          go_roundw
          case rel => exact ⟨m + 1, by go_num, by omega, ⟨by rw [HY.out]; exact HO.out⟩, HB⟩
          case measure => simp [intOf]; omega
        · have d0 : decide (0 ≤ ks[m]) = false := by simpa using hneg
          clear hyes hneg
          generalize ks[m] = k at *
          go_wp2
          go_roundw
          case rel => exact ⟨m + 1, by go_num, by omega, ⟨by rw [HY.out]; exact HO.out⟩, HB⟩
          case measure => simp [intOf]; omega
    · obtain rfl : m = ks.length := by omega
      rw [List.take_length] at HO
      go_wp2
      go_ret
      have := keyOf_length row ks
      exact ⟨_, rfl, HO.out, by omega, (fun x hx => H.out.in64 x (keyOf_mem hx)), HB.out⟩
theorem key7_any (w : World) (ok ok2 : Nat → Prop) (rv kv : Value) (row ks : List Int) (h : RowAt w ok rv row) (hk : RowAt w ok2 kv ks) (hl : ks.length < 1000000) :
    Calls Try.prog 35 #[rv, kv] w fun e w' => ∃ v, e = .returned v ∧ RowAt w' (w.heap.size ≤ ·) v (keyOf row ks) ∧ Below w.heap.size w w' :=
  (key7_own w ok ok2 rv kv row ks h hk hl).mono fun e w' ⟨v, h1, h2, h3, h4, h5⟩ => ⟨v, h1, RowAt.of_own h2 (by omega) h4, h5⟩

set_option maxHeartbeats 2000000 in
set_option maxRecDepth 100000 in
theorem probe_any (w : World) (B m g used : Nat) (f : Row → List Int) (okk : Nat → Prop) (kv : Value) (key : Row) (h : IdxOk w B m g f used) (hk : RowAt w okk kv key) (hu : used < 1000000) :
    Calls Try.prog 25 #[.pointer (some ⟨g, 0, none⟩), kv] w fun e w' => ∃ v, e = .returned v ∧ RowAt w' (w.heap.size ≤ ·) v (f key) ∧ Below w.heap.size w w' := by
  obtain ⟨sb, N, col, T, hW, hG, hM, hC, h2, h4, hN, hm⟩ := h.ex
  obtain ⟨k1, k2, kf, _⟩ := hW.2.ublk
  obtain ⟨Ak, ck, rfl, _⟩ := hk.form
  obtain ⟨jf, hjf⟩ := free_of_cnt (T := T) (by rw [hW.1]; omega)
  obtain ⟨D, hD1, hD2⟩ := fnd_ex hjf (Hn key) key
  obtain ⟨i, hi⟩ : ∃ i, (Hn key + D) % T.length = i := ⟨_, rfl⟩
  have FI := Aside0.mk (show Fnd T (Hn key) key i from ⟨D, hi.symm, by rw [← hi]; exact hD1, hD2⟩)
  have hi2' : i < N := by rw [← hi, hW.1]; exact Nat.mod_lt _ (by omega)
  have FD := Aside0.mk (fun w1 (hd : Drew w w1) => find_any w1 (fun _ => True) (fun _ => True) sb N i T (.slice Ak key.length ck) key (hW.tabAt.below hd.below) hW.1 (by omega) (by omega) (reads_row.stays (reads_row.mono hk (fun _ _ _ => trivial)) (Stays.of_below hd.below _)) FI.out)
  obtain ⟨v, hcv, hrv, hvl⟩ : ∃ v, w.cell? ⟨sb, i * 2 + 1, none⟩ = some v ∧ RowAt w (fun _ => True) v (f key) ∧ (f key).length < 1000000 := by
    rcases hG.probe hM FI.out with ⟨hTi, hfe⟩ | ⟨hTi, hfe⟩
    · rw [hfe]
      exact ⟨nilS, (hW.free_ hTi).1, SlAt.nil _ _ _ _ _ (by omega), by simp⟩
    · obtain ⟨v, MM, c1, _⟩ := hW.old hG hTi
      obtain ⟨_, hi3, _, hg3⟩ := MM
      obtain ⟨cs, ho, hes⟩ := hg3.own
      obtain ⟨u, v', e1, e2, e3⟩ := hes i hi3
      rw [if_pos rfl] at e3
      obtain ⟨rfl, e4⟩ := e3
      exact ⟨v', c1, reads_row.mono (RowAt.of_own e4.2.1 (by have := e4.2.2.2.2.1; omega) e4.2.2.2.1) (fun _ _ _ => trivial), e4.2.2.2.2.1⟩
  have CL := Aside0.mk (fun w1 (hd : Drew w w1) => clone_any w1 (fun _ => True) v (f key) (reads_row.stays hrv (Stays.of_below hd.below _)) hvl)
  clear h hW hG hM hC hm hk hjf hD1 hD2 hi hrv
  go_enter Try.func25, Try.ntmps25
  go_wp2_with fail
  go_region_with (first | (refine (FD.out _ (by first | exact Drew.refl _ | exact ⟨1, rfl⟩)).mono ?_; rintro e w' ⟨rfl, q, rfl⟩) | (refine (CL.out _ (by first | exact ⟨_, rfl⟩ | exact Drew.refl _)).mono ?_; rintro e w' ⟨cv, rfl, RV, BV⟩))
  all_goals
    go_wp2
    go_ret
    refine ⟨cv, rfl, RV, (below_drewN (Below.refl _ _) _).trans BV⟩
end Go.Proofs.Ytmgoefhihljggaa.Sg
