/- Contract: Best.Put. -/
import Derived.Test.YtalbgdbphdhhaaaSgBe
namespace Go.Proofs.Ytalbgdbphdhhaaa.Sg
open Go.RowKit Go.Shelf Go.Maps
set_option linter.unusedVariables false
set_option linter.unusedSimpArgs false

theorem BestPost.same {w w' : World} {B g W : Nat} {F : Nat → Prop} {great : Bool} {rows : List Row} (h : BestI w B g F W great rows) (hb : Below w.heap.size w w') : BestPost w w' B g W F great rows :=
  ⟨F, h.below hb, fun b hb => .inl hb, Keeps.all hb _⟩
theorem BestPost.below {w w' w2 : World} {B g W : Nat} {F : Nat → Prop} {great : Bool} {rows : List Row} (h : BestPost w w' B g W F great rows) (hb : Below w'.heap.size w' w2) : BestPost w w2 B g W F great rows := by
  obtain ⟨F2, h1, h2, h3⟩ := h
  exact ⟨F2, h1.below hb, h2, h3.trans (Keeps.all hb (fun b => ¬ F b)) (fun _ _ h => h)⟩
theorem info_row9 : (Try.prog.info? 23).map (fun i => (i.zero, i.size, i.bytes)) = some (some (.slice none 0 0), 1, 24) := by kernel_rfl
theorem size_i64 : (Try.prog.info? 2).map (·.size) = some 1 := by kernel_rfl
set_option maxHeartbeats 40000000 in
set_option maxRecDepth 100000 in
theorem put_old (w : World) (B g W : Nat) (F : Nat → Prop) (great : Bool) (rows : List Row) (h : BestI w B g F W great rows) (hlim : rows.length + 1 < 1000000) (ok : Nat → Prop) (v : Value) (key : Row) (hk : RowAt w ok v key) (hkF : ∀ b, ok b → ¬ F b) (hl : key.length < 1000000) (cost : Int) (hc : In64 cost) (hnn : key.length = W → idxB W rows key ≠ none) :
    Calls Try.prog 13 #[.pointer (some ⟨g, 0, none⟩), v, .int .i64 cost] w fun e w' => e = .returned (.bool (putX W great rows key cost).2) ∧ BestPost w w' B g W F great (putX W great rows key cost).1 := by
  obtain ⟨A, cv, rfl, hcv, hcm, _⟩ := hk.form
  have HB := Aside0.mk h
  obtain ⟨mb, rv, bs, n, D, h, hF⟩ := h
  obtain ⟨c0, c1, c2, c3⟩ := h.cells
  have hws := h.wid
  by_cases hW : key.length ≠ W
  · have hWi : ¬ ((key.length : Int) = (W : Int)) := by omega
    have hX := Aside0.mk (show putX W great rows key cost = (rows, false) by unfold putX; rw [if_neg hW])
    clear hnn h hF hk hkF hW
    go_enter Try.func13, Try.ntmps13
    go_wp2
    go_ret
    rw [hX.out]
    exact ⟨rfl, BestPost.same HB.out (Below.refl _ _)⟩
  replace hW : key.length = W := by omega
  subst hW
  have hki := row_in64 hk
  have NM := Aside0.mk (fun w' (hb : Below w.heap.size w w') => name_any w' ok _ key (SlAt.below reads_int hk hb) hl)
  obtain ⟨c, hcx, hlk⟩ := h.look hki hl
  have LK := Aside0.mk hlk
  have HH := Aside0.mk h
  have HF := Aside0.mk hF
  have HKI := Aside0.mk hki
  have HC := Aside0.mk hc
  cases hx : idxB key.length rows key with
  | none => exact absurd hx (hnn rfl)
  | some i =>
    rw [hx] at LK
    have HX := Aside0.mk hx
    obtain ⟨hi, _⟩ := idxB_some hx
    obtain rfl := hcx i hx
    obtain ⟨rb, cap, b, rfl, hbi, cr, cc⟩ := h.rowCells hi
    have BT := Aside0.mk (fun w' (hb : Below w.heap.size w w') => better_any w' B g mb key.length n great _ bs D rows (h.stays (F := fun _ => True) (Stays.of_below hb _) trivial trivial (fun _ _ => trivial) (fun _ _ => trivial)) cost (costB key.length rows i))
    have ROWB := Aside0.mk (h.row i hi b hbi)
    have BL := Aside0.mk (h.lts.2.2.2 b (List.mem_of_getElem? hbi))
    have HBI := Aside0.mk hbi
    have hP : (putX key.length great rows key cost) = if betterB great cost (costB key.length rows i) then (rows.set i (key ++ [cost]), true) else (rows, false) := by unfold putX putB; rw [if_pos rfl, hx]
    cases hbt : betterB great cost (costB key.length rows i) with
    | false =>
      rw [hbt] at BT hP
      have hX := Aside0.mk (show putX key.length great rows key cost = (rows, false) from hP)
      clear hnn h hF hk hkF hlk hcx hx hki hc hbi hP hbt
      go_enter Try.func13, Try.ntmps13
      go_wp2
      go_region_with (go_at_call 34; refine (NM.out _ (by first | exact Below.refl _ _ | exact below_drew (Below.refl _ _))).mono ?_; rintro e w4 ⟨rfl, hb4⟩; have hb5 : Below w.heap.size w w4 := (by first | exact hb4 | exact (below_drew (Below.refl _ _)).trans hb4); have q0 : w4.cell? ⟨g, 2, none⟩ = some (.map (some mb)) := below_cell0 hb5 c2; have q1 := LK.out w4 hb5; have q2 := below_cell0 hb5 c0; have q3 := below_cell0 hb5 c3; have q4 := below_cell0 hb5 cr; have q5 := below_cell0 hb5 cc; have q6 := frozen_of_row w4 b key.length _ _ ((hb5.block b BL.out).trans ROWB.out))
      all_goals
        clear q1
        go_wp2
        go_region_with (go_at_call 27; refine (BT.out _ (below_drew hb5)).mono ?_; rintro e w5 ⟨rfl, rfl⟩)
        all_goals
          go_wp2
          go_ret
          rw [hX.out]
          exact ⟨rfl, BestPost.same HB.out (below_drew hb5)⟩
    | true =>
      rw [hbt] at BT hP
      have hX := Aside0.mk (show putX key.length great rows key cost = (rows.set i (key ++ [cost]), true) from hP)
      clear hnn h hF hk hkF hlk hcx hx hki hc hbi hP hbt
      go_enter Try.func13, Try.ntmps13
      go_wp2
      go_region_with (go_at_call 34; refine (NM.out _ (by first | exact Below.refl _ _ | exact below_drew (Below.refl _ _))).mono ?_; rintro e w4 ⟨rfl, hb4⟩; have hb5 : Below w.heap.size w w4 := (by first | exact hb4 | exact (below_drew (Below.refl _ _)).trans hb4); have q0 : w4.cell? ⟨g, 2, none⟩ = some (.map (some mb)) := below_cell0 hb5 c2; have q1 := LK.out w4 hb5; have q2 := below_cell0 hb5 c0; have q3 := below_cell0 hb5 c3; have q4 := below_cell0 hb5 cr; have q5 := below_cell0 hb5 cc; have q6 := frozen_of_row w4 b key.length _ _ ((hb5.block b BL.out).trans ROWB.out))
      all_goals
        clear q1
        go_wp2
        go_region_with (go_at_call 27; refine (BT.out _ (below_drew hb5)).mono ?_; rintro e w5 ⟨rfl, rfl⟩)
        all_goals
          go_wp2
          go_region
          all_goals
            go_wp2
            go_ret
            rw [hX.out]
            exact ⟨rfl, (BestAt.changed HH.out HF.out HKI.out HC.out HX.out HBI.out hb5).below (below_drew (below_drew (Below.refl _ _)))⟩
end Go.Proofs.Ytalbgdbphdhhaaa.Sg
