/- Contracts: Row of a set of rows; comparisons of rows. -/
import Derived.Test.YtmgoefhihljggaaSgA
namespace Go.Proofs.Ytmgoefhihljggaa.Sg
open Go.RowKit Go.Shelf
set_option linter.unusedVariables false
set_option linter.unusedSimpArgs false

theorem info_i64 : (Try.prog.info? 2).map (fun i => (i.zero, i.size, i.bytes)) = some (some (.int .i64 0), 1, 8) := by kernel_rfl
theorem info_row : (Try.prog.info? 24).map (fun i => (i.zero, i.size, i.bytes)) = some (some (.slice none 0 0), 1, 24) := by kernel_rfl

set_option maxHeartbeats 1000000 in
set_option maxRecDepth 100000 in
theorem row_any (w : World) (ok : Nat → Prop) (v : Value) (n : Nat) (rs : List Row) (r : Row) (i : Nat) (h : SegAt w ok v n rs) (hr : rs[i]? = some r) :
    Calls Try.prog 18 #[v, .int .i64 i] w fun e w' => ∃ rv, e = .returned rv ∧ RowAt w' (w.heap.size ≤ ·) rv r ∧ Below w.heap.size w w' := by
  have ln := len_any w ok v n rs h
  obtain ⟨g, cv, rfl, h1, h2, h3, h4, h5⟩ := h.ex
  obtain ⟨Ac, cc, rfl, hcc, hcm, _⟩ := h5.form
  obtain ⟨hi, hri⟩ := List.getElem?_eq_some_iff.1 hr
  obtain ⟨_, hn, hin⟩ := h.lenAt hr
  obtain ⟨i0, hif, hz0, hz1, hz2⟩ := info_parts info_i64
  have hn63 := h.len
  have hn1 := h.wid
  have hcl := colsOf_length n rs
  have HRI := Aside0.mk hri
  have HCL := Aside0.mk hcl
  have LN := Aside0.mk ln
  have HIN := Aside0.mk hin
  have HN := Aside0.mk hn
  have H5 := Aside0.mk h5
  rw [hcl] at h4 hcm H5 hcc
  clear h h5 hcl hr hri ln hin hn
  have hb1 := Aside0.mk (show i0.bytes * n ≤ 281474976710656 by rw [hz2]; omega)
  have hb2 := Aside0.mk (show n ≤ maxLen by unfold maxLen; omega)
  have d0 : decide ((i : Int) < 0) = false := by simp
  have d1 : decide (rs.length ≤ i) = false := by simp; omega
  go_enter Try.func18, Try.ntmps18
  go_wp2_with (first | (go_at_call 17; (with_reducible refine (LN.out).mono ?_); rintro e w' ⟨rfl, rfl⟩) | (at_make; refine wpList_make_full _ rfl _ _ 24 rfl w.heap.size 2 i0 (.int .i64 0) 1 Try.underlying24 hif hz0 hz1 .i64 .i64 _ _ n rfl rfl rfl rfl hb1.out hb2.out (Nat.le_refl _) ?_; intro w1 ho1 hg1; have h4' := grown_cell hg1 h4; have HO1 := Aside0.mk ho1; have HG1 := Aside0.mk hg1; clear ho1 hg1))
  go_loopw [26] (fun s wr => ∃ k : Nat, s = .int .i64 k ∧ k ≤ n ∧ Aside0 (wr.ownsRow w.heap.size 2 1 (.slice (some ⟨w.heap.size, 0, none⟩) n n) n (part r k)) ∧ Aside0 (Below w.heap.size w wr)) (fun s _ => n - (intOf s).toNat)
  case atStart =>
    refine ⟨0, rfl, Nat.zero_le _, ⟨?_⟩, ⟨below_of_grown HG1.out⟩⟩
    rw [part_zero, HN.out, ← made_zeros]; exact HO1.out
  case round =>
    obtain ⟨k, rfl, hk, HO, HB⟩ := hrel
    clear h4'
    by_cases hlt : k < n
    · obtain ⟨bc, oc, uc, rfl, _, _, hcc0, hce⟩ := (H5.out.below reads_row HB.out).at_ k (by rw [HCL.out]; omega)
      rw [colsOf_get] at hce
      obtain ⟨Ar, cr, rfl, hcr, hrm, _⟩ := hce.form
      obtain ⟨br, or_, ur, rfl, _, _, hcr0, rfl, _⟩ := hce.at_ i (by simpa using hi)
      rw [List.getElem_map, HRI.out] at hcr0
      have hil : (rs.map fun r => r.getD k 0).length = rs.length := by simp
      rw [hil] at *
      have hs := part_set r k (by rw [HN.out]; exact hlt)
      obtain ⟨ho2, hg2⟩ := HO.out.stored k (.int .i64 (r.getD k 0))
      rw [hs] at ho2
      have hc3 := HO.out.cellAt k (by omega)
      rw [List.getElem?_eq_getElem (by rw [part_length r k (by rw [HN.out]; omega), HN.out]; exact hlt)] at hc3
      have hf3 := HO.out.frozenAt k
      generalize (part r k)[k]'_ = old at hc3
      generalize r.getD k 0 = x at *
      have HO2 := Aside0.mk ho2
      have HB2 := Aside0.mk (HB.out.grown hg2 HB.out.size (fun j hj => by cases hj; exact Nat.le_refl _))
      clear ho2 hg2 hs hce hil
      go_wp2
      go_roundw
      case rel => exact ⟨k + 1, by go_num, by omega, HO2, HB2⟩
      case measure => simp [intOf]; omega
    · go_wp2
      go_ret
      obtain rfl : k = n := by omega
      refine ⟨_, rfl, RowAt.of_own' HO.out HN.out.symm ?_ (by rw [HN.out]; omega) HIN.out, HB.out⟩
      have := part_all r
      rw [HN.out] at this
      exact this
end Go.Proofs.Ytmgoefhihljggaa.Sg
