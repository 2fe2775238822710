/- Contract: Build of an index. -/
import Derived.Test.YtmgoefhihljggaaSgXg
import Derived.Test.YtmgoefhihljggaaSgXh
namespace Go.Proofs.Ytmgoefhihljggaa.Sg
open Go.RowKit Go.Shelf
set_option linter.unusedVariables false
set_option linter.unusedSimpArgs false

theorem idx_start {W : World} {B sb : Nat} (cv : Value) (hB : B ≤ sb) (hh : W.heap[sb]? = some (.cells (madeCells #[.slice none 0 0, .slice none 0 0] 8) 73 (0, 0))) :
    IdxOk (W.alloc (.cells #[cv, .slice (some ⟨sb, 0, none⟩) 4 4, .int .i64 0] 70)) B (W.heap.size + 1) W.heap.size (fun _ => []) 0 := by
  have hs : sb < W.heap.size := (Array.getElem?_eq_some_iff.1 hh).1
  have hst := Stays.alloc (fun _ => True) W (.cells #[cv, .slice (some ⟨sb, 0, none⟩) 4 4, .int .i64 0] 70)
  refine ⟨sb, 4, fun b => if b = W.heap.size then .head else if b = sb then .tab else .free, List.replicate 4 none, ⟨by simp, by rw [if_pos rfl], by rw [if_neg (by omega), if_pos rfl], fun b hb => ?_, by omega, by omega, ⟨cv, heap_alloc_new W _⟩, (madeCells #[.slice none 0 0, .slice none 0 0] 8).toList, ?_, fun j hj => ?_⟩, good_nil _ _ (by omega), maps_nil _, cnt_nil _, by omega, by omega, by omega, fun b hb => by have h1 : b ≠ W.heap.size := (by omega); have h2 : b ≠ sb := (by omega); simp [h1, h2]⟩
  · split at hb
    · omega
    · split at hb
      · omega
      · exact absurd rfl hb
  · refine ⟨by simp [madeCells], .inr ⟨sb, 4, _, rfl, hB, hst.blk trivial hh, Nat.le_refl _, by unfold maxLen; omega, by simp [madeCells], by rw [List.take_of_length_le (by simp [madeCells])]⟩⟩
  · refine ⟨nilS, nilS, ?_, ?_, none, by rw [List.getElem?_replicate, if_pos hj], rfl, rfl⟩
    · simp [madeCells, show j * 2 < 8 from by omega]
    · simp [madeCells, show j * 2 + 1 < 8 from by omega, Nat.add_mod]
theorem uniq_length (ks : List Row) : (uniq ks).length ≤ ks.length := by
  have key : ∀ (ks acc : List Row), (ks.foldl (fun acc k => if k ∈ acc then acc else acc ++ [k]) acc).length ≤ acc.length + ks.length := by
    intro ks
    induction ks with
    | nil => intro acc; simp
    | cons q ks ih =>
      intro acc
      rw [List.foldl_cons]
      refine Nat.le_trans (ih _) ?_
      split <;> simp <;> omega
  have := key ks []
  simpa [uniq] using this
theorem which_le (ks : List Row) (k : Row) : (which ks k).length ≤ ks.length := by
  rw [which_length]; exact List.countP_le_length
theorem uniq_step (ks : List Row) (k : Row) : (if which ks k = [] then (uniq ks).length + 1 else (uniq ks).length) = (uniq (ks ++ [k])).length := by
  rw [uniq_snoc]
  by_cases h : k ∈ ks
  · rw [if_neg (fun e => (which_nil ks k).1 e h), if_pos ((mem_uniq k ks).2 h)]
  · rw [if_pos ((which_nil ks k).2 h), if_neg (fun e => h ((mem_uniq k ks).1 e))]
    simp
/-- Between two rows. -/
def BuiltIdx (w wr : World) (g : Nat) (KS : List Row) (i : Nat) : Prop := Below w.heap.size w wr ∧ ∃ m, IdxOk wr w.heap.size m g (which (KS.take i)) (uniq (KS.take i)).length
theorem BuiltIdx.start {w W1 W : World} {g m : Nat} {KS : List Row} (hb : Below w.heap.size w W) (h : IdxOk W w.heap.size m g (fun _ => []) 0) : BuiltIdx w W g KS 0 := ⟨hb, m, h⟩
/-- Behind one row more. -/
theorem BuiltIdx.step {w w1 w2 : World} {g : Nat} {KS : List Row} {i : Nat} (hi : i < KS.length) (hb1 : Below w.heap.size w w1) (hb2 : Below w.heap.size w1 w2)
    (h : IdxOk w2 w.heap.size w2.heap.size g (fun k => if k = KS[i] then which (KS.take i) KS[i] ++ [(i : Int)] else which (KS.take i) k) (if which (KS.take i) KS[i] = [] then (uniq (KS.take i)).length + 1 else (uniq (KS.take i)).length)) : BuiltIdx w w2 g KS (i + 1) := by
  refine ⟨hb1.trans hb2, w2.heap.size, ?_⟩
  rw [uniq_step] at h
  have hl : (KS.take i).length = i := by simp; omega
  have := which_snoc (KS.take i) KS[i]
  rw [hl] at this
  rw [← this, ← List.take_succ_eq_append_getElem hi] at h
  exact h
theorem small_i64 (i : Nat) (h : i < 1000000) : In64 (i : Int) := by unfold In64; omega

set_option maxHeartbeats 4000000 in
set_option maxRecDepth 100000 in
theorem build_any (w : World) (ok ok2 : Nat → Prop) (sv kv : Value) (n : Nat) (rs : List Row) (ks : List Int) (h : SegAt w ok sv n rs) (hk : RowAt w ok2 kv ks) (hl : ks.length < 1000000) :
    Calls Try.prog 24 #[sv, kv] w fun e w' => ∃ g m, e = .returned (.pointer (some ⟨g, 0, none⟩)) ∧ IdxOk w' w.heap.size m g (which (rs.map fun r => keyOf r ks)) (uniq (rs.map fun r => keyOf r ks)).length ∧ Below w.heap.size w w' := by
  obtain ⟨A2, c2, rfl, hc2, hm2, _⟩ := hk.form
  have HK := Aside0.mk hk
  have CL := Aside0.mk (fun w1 (hb : Below w.heap.size w w1) => (clone_any w1 ok2 _ ks (reads_row.stays hk (Stays.of_below hb _)) hl).mono (R' := fun e w' => ∃ A c, e = .returned (.slice A ks.length c) ∧ Below w1.heap.size w1 w') (fun e w' hh => by obtain ⟨cv, h1, h2, h3⟩ := hh; obtain ⟨A, c, h4, _⟩ := h2.form; subst h4; exact ⟨A, c, h1, h3⟩))
  have hmk := make_slots 4 (by omega)
  simp only [Int.cast_ofNat_Int] at hmk
  obtain ⟨KS, hKS⟩ : ∃ KS, (rs.map fun r => keyOf r ks) = KS := ⟨_, rfl⟩
  rw [hKS]
  have HKS := Aside0.mk hKS
  have HS := Aside0.mk h
  obtain ⟨sg, rfl⟩ : ∃ sg, sv = .pointer (some ⟨sg, 0, none⟩) := by obtain ⟨g, cv, h1, _⟩ := h.ex; exact ⟨g, h1⟩
  have hrl := h.len
  clear h hk hKS
  go_enter Try.func24, Try.ntmps24
  go_wp2_with fail
  go_region_with (refine (CL.out _ (by first | exact Below.refl _ _ | exact below_drew (Below.refl _ _) | exact below_drew (below_alloc0 (Below.refl _ _) _) | exact below_alloc0 (below_drew (Below.refl _ _)) _)).mono ?_; rintro e wc ⟨Ac, cc, rfl, BV⟩)
  · have hbc : Below w.heap.size w wc := (below_drew (Below.refl _ _)).trans BV
    have hcs := hbc.size
    have LN := Aside0.mk (fun wr (hb : Below w.heap.size w wr) => len_any wr ok _ n rs (HS.out.below hb))
    have ST := Aside0.mk (by have h1 := idx_start (W := wc.alloc (.cells (madeCells #[.slice none 0 0, .slice none 0 0] 8) 73)) (B := w.heap.size) (sb := wc.heap.size) (.slice Ac ks.length cc) hcs (heap_alloc_new wc _); rw [World.size_alloc] at h1; exact BuiltIdx.start (KS := KS) (W1 := w) (below_alloc0 (below_alloc0 hbc _) _) h1)
    go_wp2_with fail
    refine (LN.out _ ST.out.1).mono ?_
    rintro e w' ⟨rfl, rfl⟩
    go_wp2_with fail
    go_loopw [14] (fun s14 wr => ∃ i : Nat, s14 = .int .i64 i ∧ i ≤ rs.length ∧ Aside0 (BuiltIdx w wr (wc.heap.size + 1) KS i)) (fun s14 _ => rs.length - (intOf s14).toNat)
    case atStart => exact ⟨0, rfl, Nat.zero_le _, ST⟩
    case round =>
      obtain ⟨i, rfl, hi, HI⟩ := hrel
      clear BV hbc hcs LN ST
      by_cases hlt : i < rs.length
      · have hri := List.getElem?_eq_getElem hlt
        have hkl : i < KS.length := by rw [← HKS.out]; simpa using hlt
        have hki : KS[i] = keyOf rs[i] ks := by have := HKS.out; subst this; simp
        obtain ⟨hbw, m, hix⟩ := HI.out
        have hbwA := Aside0.mk hbw
        have hln := keyOf_length rs[i] ks
        have hw1 := which_le (KS.take i) (keyOf rs[i] ks)
        have hu1 := uniq_length (KS.take i)
        have htl : (KS.take i).length ≤ i := List.length_take_le _ _
        have RW := Aside0.mk (row_any wr ok _ n rs rs[i] i (HS.out.below hbw) hri)
        have KX := Aside0.mk (fun w1 rv (hb : Below wr.heap.size wr w1) (hr : RowAt w1 (wr.heap.size ≤ ·) rv rs[i]) => keyx_any w1 _ ok2 rv _ rs[i] ks hr (HK.out.below reads_int (below_trans0 hbw hb)) hl)
        have AD := Aside0.mk (fun w1 w2 kv (hb1 : Below wr.heap.size wr w1) (hb2 : Below w1.heap.size w1 w2) (hr : RowAt w2 (w1.heap.size ≤ ·) kv (keyOf rs[i] ks)) => add_any w2 w.heap.size wr.heap.size (wc.heap.size + 1) _ _ kv _ i (hix.below (below_trans0 hb1 hb2)) (reads_row.mono hr (fun b hb _ => Nat.le_trans hb1.size hb)) (by omega) (by omega) (by omega) (small_i64 i (by omega)))
        have SP := Aside0.mk (fun w1 w2 (hb1 : Below w.heap.size w w1) (hb2 : Below w.heap.size w1 w2) h => BuiltIdx.step (w := w) (g := (wc.heap.size + 1)) hkl hb1 hb2 h)
        rw [hki] at SP
        clear hbw hix hri hkl hki hln hw1 hu1 htl
        generalize rs[i] = r at *
        go_wp2_with fail
        refine (RW.out).mono ?_
        rintro e w1 ⟨rv, rfl, HR, HB1⟩
        go_wp2_with fail
        refine (KX.out w1 rv HB1 HR).mono ?_
        rintro e w2 ⟨kv, rfl, HR2, HB2⟩
        go_wp2_with fail
        refine (AD.out w1 w2 kv HB1 HB2 HR2).mono ?_
        rintro e w3 ⟨rfl, HB3, HI3⟩
        have NX := Aside0.mk (SP.out w2 w3 (below_trans0 (below_trans0 hbwA.out HB1) HB2) HB3 HI3)
        clear HB3 HI3 HR HR2 HB1 HB2
        go_wp2
        go_roundw
        case rel => exact ⟨i + 1, by go_num, by omega, NX⟩
        case measure => simp [intOf]; omega
      · obtain rfl : i = rs.length := by omega
        obtain ⟨h1, m, h2⟩ := HI.out
        have hkl : KS.length = rs.length := by rw [← HKS.out]; simp
        rw [← hkl, List.take_length] at h2
        have H1 := Aside0.mk h1
        have H2 := Aside0.mk h2
        clear h1 h2 HI hkl
        go_wp2
        go_ret
        exact ⟨_, m, rfl, H2.out, H1.out⟩
  · have hbc : Below w.heap.size w wc := (below_drew (below_alloc0 (Below.refl _ _) _)).trans (BV.mono (by simp))
    have hcs := hbc.size
    have LN := Aside0.mk (fun wr (hb : Below w.heap.size w wr) => len_any wr ok _ n rs (HS.out.below hb))
    have ST := Aside0.mk (BuiltIdx.start (KS := KS) (W1 := w) (below_alloc0 hbc _) (idx_start (W := wc) (B := w.heap.size) (sb := w.heap.size) (.slice Ac ks.length cc) (Nat.le_refl _) ((BV.block w.heap.size (by simp)).trans (heap_alloc_new w _))))
    go_wp2_with fail
    refine (LN.out _ ST.out.1).mono ?_
    rintro e w' ⟨rfl, rfl⟩
    go_wp2_with fail
    go_loopw [14] (fun s14 wr => ∃ i : Nat, s14 = .int .i64 i ∧ i ≤ rs.length ∧ Aside0 (BuiltIdx w wr (wc.heap.size) KS i)) (fun s14 _ => rs.length - (intOf s14).toNat)
    case atStart => exact ⟨0, rfl, Nat.zero_le _, ST⟩
    case round =>
      obtain ⟨i, rfl, hi, HI⟩ := hrel
      clear BV hbc hcs LN ST
      by_cases hlt : i < rs.length
      · have hri := List.getElem?_eq_getElem hlt
        have hkl : i < KS.length := by rw [← HKS.out]; simpa using hlt
        have hki : KS[i] = keyOf rs[i] ks := by have := HKS.out; subst this; simp
        obtain ⟨hbw, m, hix⟩ := HI.out
        have hbwA := Aside0.mk hbw
        have hln := keyOf_length rs[i] ks
        have hw1 := which_le (KS.take i) (keyOf rs[i] ks)
        have hu1 := uniq_length (KS.take i)
        have htl : (KS.take i).length ≤ i := List.length_take_le _ _
        have RW := Aside0.mk (row_any wr ok _ n rs rs[i] i (HS.out.below hbw) hri)
        have KX := Aside0.mk (fun w1 rv (hb : Below wr.heap.size wr w1) (hr : RowAt w1 (wr.heap.size ≤ ·) rv rs[i]) => keyx_any w1 _ ok2 rv _ rs[i] ks hr (HK.out.below reads_int (below_trans0 hbw hb)) hl)
        have AD := Aside0.mk (fun w1 w2 kv (hb1 : Below wr.heap.size wr w1) (hb2 : Below w1.heap.size w1 w2) (hr : RowAt w2 (w1.heap.size ≤ ·) kv (keyOf rs[i] ks)) => add_any w2 w.heap.size wr.heap.size (wc.heap.size) _ _ kv _ i (hix.below (below_trans0 hb1 hb2)) (reads_row.mono hr (fun b hb _ => Nat.le_trans hb1.size hb)) (by omega) (by omega) (by omega) (small_i64 i (by omega)))
        have SP := Aside0.mk (fun w1 w2 (hb1 : Below w.heap.size w w1) (hb2 : Below w.heap.size w1 w2) h => BuiltIdx.step (w := w) (g := (wc.heap.size)) hkl hb1 hb2 h)
        rw [hki] at SP
        clear hbw hix hri hkl hki hln hw1 hu1 htl
        generalize rs[i] = r at *
        go_wp2_with fail
        refine (RW.out).mono ?_
        rintro e w1 ⟨rv, rfl, HR, HB1⟩
        go_wp2_with fail
        refine (KX.out w1 rv HB1 HR).mono ?_
        rintro e w2 ⟨kv, rfl, HR2, HB2⟩
        go_wp2_with fail
        refine (AD.out w1 w2 kv HB1 HB2 HR2).mono ?_
        rintro e w3 ⟨rfl, HB3, HI3⟩
        have NX := Aside0.mk (SP.out w2 w3 (below_trans0 (below_trans0 hbwA.out HB1) HB2) HB3 HI3)
        clear HB3 HI3 HR HR2 HB1 HB2
        go_wp2
        go_roundw
        case rel => exact ⟨i + 1, by go_num, by omega, NX⟩
        case measure => simp [intOf]; omega
      · obtain rfl : i = rs.length := by omega
        obtain ⟨h1, m, h2⟩ := HI.out
        have hkl : KS.length = rs.length := by rw [← HKS.out]; simp
        rw [← hkl, List.take_length] at h2
        have H1 := Aside0.mk h1
        have H2 := Aside0.mk h2
        clear h1 h2 HI hkl
        go_wp2
        go_ret
        exact ⟨_, m, rfl, H2.out, H1.out⟩
end Go.Proofs.Ytmgoefhihljggaa.Sg
