/- Contract: Build of an index of no rows. -/
import Derived.Test.YtmgoefhihljggaaSgXi
namespace Go.Proofs.Ytmgoefhihljggaa.Sg
open Go.RowKit Go.Shelf
set_option linter.unusedVariables false
set_option linter.unusedSimpArgs false

set_option maxHeartbeats 4000000 in
set_option maxRecDepth 100000 in
theorem build_nil (w : World) (ok2 : Nat → Prop) (kv : Value) (ks : List Int) (hk : RowAt w ok2 kv ks) (hl : ks.length < 1000000) :
    Calls Try.prog 24 #[.pointer none, kv] w fun e w' => ∃ g m, e = .returned (.pointer (some ⟨g, 0, none⟩)) ∧ IdxOk w' w.heap.size m g (which ([] : List Row)) (uniq ([] : List Row)).length ∧ Below w.heap.size w w' := by
  obtain ⟨A2, c2, rfl, hc2, hm2, _⟩ := hk.form
  have HK := Aside0.mk hk
  have CL := Aside0.mk (fun w1 (hb : Below w.heap.size w w1) => (clone_any w1 ok2 _ ks (reads_row.stays hk (Stays.of_below hb _)) hl).mono (R' := fun e w' => ∃ A c, e = .returned (.slice A ks.length c) ∧ Below w1.heap.size w1 w') (fun e w' hh => by obtain ⟨cv, h1, h2, h3⟩ := hh; obtain ⟨A, c, h4, _⟩ := h2.form; subst h4; exact ⟨A, c, h1, h3⟩))
  have hmk := make_slots 4 (by omega)
  simp only [Int.cast_ofNat_Int] at hmk
  obtain ⟨KS, hKS⟩ : ∃ KS, ([] : List Row) = KS := ⟨_, rfl⟩
  rw [hKS]
  have HKS := Aside0.mk hKS
  clear hk hKS
  go_enter Try.func24, Try.ntmps24
  go_wp2_with fail
  go_region_with (refine (CL.out _ (by first | exact Below.refl _ _ | exact below_drew (Below.refl _ _) | exact below_drew (below_alloc0 (Below.refl _ _) _) | exact below_alloc0 (below_drew (Below.refl _ _)) _)).mono ?_; rintro e wc ⟨Ac, cc, rfl, BV⟩)
  · have hbc : Below w.heap.size w wc := (below_drew (Below.refl _ _)).trans BV
    have hcs := hbc.size
    have ST := Aside0.mk (by have h1 := idx_start (W := wc.alloc (.cells (madeCells #[.slice none 0 0, .slice none 0 0] 8) 73)) (B := w.heap.size) (sb := wc.heap.size) (.slice Ac ks.length cc) hcs (heap_alloc_new wc _); rw [World.size_alloc] at h1; exact BuiltIdx.start (KS := KS) (W1 := w) (below_alloc0 (below_alloc0 hbc _) _) h1)
    go_wp2_with fail
    refine (len_nil _).mono ?_
    rintro e w' ⟨rfl, rfl⟩
    go_wp2_with fail
    go_loopw [14] (fun s14 wr => s14 = .int .i64 0 ∧ Aside0 (BuiltIdx w wr (wc.heap.size + 1) KS 0)) (fun _ _ => 0)
    case atStart => exact ⟨rfl, ST⟩
    case round =>
      obtain ⟨rfl, HI⟩ := hrel
      clear BV hbc hcs ST
      obtain ⟨h1, m, h2⟩ := HI.out
      have hz : KS = [] := HKS.out.symm
      rw [hz] at h2
      have H1 := Aside0.mk h1
      have H2 := Aside0.mk h2
      have HZ := Aside0.mk hz
      clear h1 h2 HI hz
      go_wp2
      go_ret
      rw [HZ.out]
      exact ⟨_, m, rfl, H2.out, H1.out⟩
  · have hbc : Below w.heap.size w wc := (below_drew (below_alloc0 (Below.refl _ _) _)).trans (BV.mono (by simp))
    have hcs := hbc.size
    have ST := Aside0.mk (BuiltIdx.start (KS := KS) (W1 := w) (below_alloc0 hbc _) (idx_start (W := wc) (B := w.heap.size) (sb := w.heap.size) (.slice Ac ks.length cc) (Nat.le_refl _) ((BV.block w.heap.size (by simp)).trans (heap_alloc_new w _))))
    go_wp2_with fail
    refine (len_nil _).mono ?_
    rintro e w' ⟨rfl, rfl⟩
    go_wp2_with fail
    go_loopw [14] (fun s14 wr => s14 = .int .i64 0 ∧ Aside0 (BuiltIdx w wr (wc.heap.size) KS 0)) (fun _ _ => 0)
    case atStart => exact ⟨rfl, ST⟩
    case round =>
      obtain ⟨rfl, HI⟩ := hrel
      clear BV hbc hcs ST
      obtain ⟨h1, m, h2⟩ := HI.out
      have hz : KS = [] := HKS.out.symm
      rw [hz] at h2
      have H1 := Aside0.mk h1
      have H2 := Aside0.mk h2
      have HZ := Aside0.mk hz
      clear h1 h2 HI hz
      go_wp2
      go_ret
      rw [HZ.out]
      exact ⟨_, m, rfl, H2.out, H1.out⟩
end Go.Proofs.Ytmgoefhihljggaa.Sg
