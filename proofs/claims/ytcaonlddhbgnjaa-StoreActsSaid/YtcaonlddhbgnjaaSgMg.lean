/- merge.All: the rows of many sets, as a set. -/
import Derived.Test.YtcaonlddhbgnjaaSgMd
namespace Go.Proofs.Ytcaonlddhbgnjaa.Mg
open Go.RowKit Go.Shelf Go.Proofs.Ytcaonlddhbgnjaa.Sg Go.Proofs.Ytcaonlddhbgnjaa.Hm Go.Proofs.Ytcaonlddhbgnjaa.Hc
attribute [local go_sem] Oper.semAt_some
set_option linter.unusedVariables false
set_option linter.unusedSimpArgs false

theorem norm_merged {n : Nat} {flat L : List Row} (h : Merged flat L) : norm n L = norm n flat :=
  norm_eq (SS_norm n L) (fun x => (mem_norm n L x).trans (and_congr_left' h.1.mem_iff))
set_option maxRecDepth 100000 in
set_option maxHeartbeats 4000000 in
theorem mall_any (w : World) (ok : Nat → Prop) (lv : Value) (ps : List (Option Addr)) (look : Look) (n : Nat) (hn : n < 1000000) (hl : PsAt w ok lv ps) (hI : invC look ps w.heap.size w) (hSS : ∀ p ∈ ps, SS (look p)) (hflat : (ps.flatMap look).length < 900000) (hps : ps.length < 900000) :
    Calls Try.prog 55 #[.int .i64 n, lv] w fun e w' => ∃ v, e = .returned v ∧ SegAt w' (w.heap.size ≤ ·) v n (norm n (ps.flatMap look)) ∧ Below w.heap.size w w' := by
  obtain ⟨Al, cl, rfl, hcl, hlm, _⟩ := hl.form
  have MR := Aside0.mk (mrows_any Al ps.length cl w)
  have hpsW := (reads_ps.mono (ok2 := (· < w.heap.size)) hl (fun b _ hl => hl))
  have hk0 := Keeps.alloc (fun _ => True) w (.cells #[.slice Al ps.length cl] 40)
  have CO := Aside0.mk (collect_any (w.alloc (.cells #[.slice Al ps.length cl] 40)) w.heap.size 66 #[.pointer (some ⟨w.heap.size, 0, none⟩)] (enters_of Try.func66 (by kernel_rfl) rfl) (· = w.heap.size) (RowsX (ps.flatMap look)) (RowsS (ps.flatMap look)) (RowsSp (ps.flatMap look)) (by simp) (fun b hb => by subst hb; simp) RowsX.kept (fun pre x R A hx => ⟨by have := hx.1; omega, hx.2⟩) (fun xs hx => by have h9 : (rowsOf xs).length = _ := hx.1.length_eq; have h8 : (rowsOf xs).length = xs.length := List.length_map _; omega)
    (fun w' hk => rows1_in _ w.heap.size w.heap.size (.slice Al ps.length cl) ps look w' ((hk.block _ (by simp) trivial).trans (Boxed.new w 40 _)) (reads_ps.stays hpsW ((hk0.trans hk (fun _ _ h => h)).stays.mono (fun _ _ _ => trivial))) (hI.keeps (hk0.trans hk (fun _ _ h => h)) (fun _ _ => trivial)) hSS hflat hps (Nat.le_trans hk0.size hk.size)))
  have MK := Aside0.mk (fun w' v' L (h : RowsAt w' (w.heap.size ≤ ·) v' L) (hM : Merged (ps.flatMap look) L) => by
    have h9 := make_any w' _ v' n L h hn (by have := hM.1.length_eq; omega)
    rw [norm_merged hM] at h9
    exact h9)
  clear hl hI hSS hpsW hk0
  go_enter Try.func55, Try.ntmps55
  go_wp2_with fail
  refine (MR.out).mono ?_
  rintro e w' ⟨rfl, rfl⟩
  clear MR
  go_wp2_with fail
  refine (CO.out).mono ?_
  rintro e w1 ⟨v, xs, rfl, hS, hR, hB⟩
  have hb0 := (below_alloc0 (Below.refl w.heap.size w) (.cells #[.slice Al ps.length cl] 40)).trans hB
  have M1 := Aside0.mk (MK.out w1 v (rowsOf xs) hR hS)
  have HB := Aside0.mk hb0
  obtain ⟨A, c, hv, _⟩ := hR.form
  subst hv
  clear hS hR hB hb0 CO MK
  go_wp2_with fail
  refine (M1.out).mono ?_
  rintro e w2 ⟨v2, rfl, S2, B2⟩
  obtain ⟨g, cv, hv2, _⟩ := S2.ex
  subst hv2
  have S2 := Aside0.mk (S2.mono (ok2 := (w.heap.size ≤ ·)) (fun b hb _ => Nat.le_trans HB.out.size hb))
  have B2 := Aside0.mk (below_trans0 HB.out B2)
  clear M1
  go_wp2
  go_ret
  exact ⟨_, rfl, S2.out, B2.out⟩
end Go.Proofs.Ytcaonlddhbgnjaa.Mg
