/- Contracts: Or of two sets; pick: And, Minus. -/
import Derived.Test.YtalbgdbphdhhaaaSgRh
import Derived.Test.YtalbgdbphdhhaaaSgK
namespace Go.Proofs.Ytalbgdbphdhhaaa.Sg
open Go.RowKit Go.Shelf
set_option linter.unusedVariables false
set_option linter.unusedSimpArgs false

/-- The width that two sets have. -/
def orW (W W2 : Nat) (a : List Row) : Nat := if a.length = 0 then W2 else W
set_option maxRecDepth 100000 in
set_option maxHeartbeats 2000000 in
theorem or_any (w : World) (ok ok2 : Nat → Prop) (v v2 : Value) (W W2 : Nat) (a b : List Row) (h : SegN w ok v W a) (h2 : SegN w ok2 v2 W2 b) (hl : a.length + b.length < 1000000) :
    Calls Try.prog 30 #[v, v2] w fun e w' => ∃ v', e = .returned v' ∧ SegAt w' (w.heap.size ≤ ·) v' (orW W W2 a) (norm (orW W W2 a) (a ++ b)) ∧ Below w.heap.size w w' := by
  obtain ⟨p, rfl⟩ := h.ptr
  obtain ⟨p2, rfl⟩ := h2.ptr
  have WO := Aside0.mk (widthOf_any w _ _ _ _ _ _ _ _ h h2)
  have RA := Aside0.mk (rows_any w _ _ _ _ h)
  have RB := Aside0.mk (fun w1 (hb : Below w.heap.size w w1) => rows_any w1 _ _ _ _ (h2.below hb))
  have hwd : orW W W2 a < 1000000 := by unfold orW; split; exact h2.wid; exact h.wid
  have CO := Aside0.mk (fun w2 v1 v2 (h1 : RowsAt w2 (fun _ => True) v1 a) (h2 : RowsAt w2 (fun _ => True) v2 b) => concat_any (w2.alloc (.cells #[v1, v2] 28)) (fun _ => True) (.slice (some ⟨w2.heap.size, 0, none⟩) 2 2) [a, b] (SlAt.lit (cs := [v1, v2]) (heap_new1 w2 _) rfl rfl trivial (by simp) (fun j hj u hu => by
    have hs := Stays.alloc (fun _ => True) w2 (.cells #[v1, v2] 28)
    have hc : j = 0 ∨ j = 1 := by simp at hj; omega
    rcases hc with rfl | rfl
    · simp at hu; subst hu; exact reads_rows.stays h1 hs
    · simp at hu; subst hu; exact reads_rows.stays h2 hs)) (by simp; omega))
  have MK := Aside0.mk (fun w3 v3 (h3 : RowsAt w3 (fun _ => True) v3 [a, b].flatten) => make_any w3 _ v3 (orW W W2 a) _ h3 hwd (by simp; omega))
  have e9 : (if a.length = 0 then W2 else W) = orW W W2 a := rfl
  rw [e9] at WO
  rw [show [a, b].flatten = a ++ b by simp] at MK
  have FLT := Aside0.mk (show [a, b].flatten = a ++ b by simp)
  generalize orW W W2 a = wd at *
  clear h h2 e9
  go_enter Try.func30, Try.ntmps30
  go_wp2_with fail
  refine (WO.out).mono ?_
  rintro e w' ⟨rfl, rfl⟩
  go_wp2_with fail
  refine (RA.out).mono ?_
  rintro e w1 ⟨v1, rfl, R1, B1⟩
  have R1 := Aside0.mk R1
  have B1 := Aside0.mk B1
  clear RA WO
  go_wp2_with fail
  refine (RB.out w1 B1.out).mono ?_
  rintro e w2 ⟨v2, rfl, R2, B2⟩
  have R1' := reads_rows.mono (ok2 := fun _ => True) (R1.out.below reads_row B2) (fun _ _ _ => trivial)
  have R2' := reads_rows.mono (ok2 := fun _ => True) R2 (fun _ _ _ => trivial)
  obtain ⟨A1, c1, hv1, _⟩ := R1'.form
  subst hv1
  obtain ⟨A2, c2, hv2, _⟩ := R2'.form
  subst hv2
  have CO := Aside0.mk (CO.out w2 _ _ R1' R2')
  have B12 := Aside0.mk (below_trans0 B1.out B2)
  clear R1 R2 R1' R2' B2 RB
  go_wp2_with fail
  refine (CO.out).mono ?_
  rintro e w3 ⟨v3, rfl, R3, B3⟩
  have B3 := Aside0.mk (below_trans0 B12.out ((below_alloc0 (Below.refl _ _) _).trans (B3.mono (by simp))))
  rw [FLT.out] at R3
  have MK := Aside0.mk (MK.out w3 v3 R3)
  clear CO R3
  go_wp2_with fail
  refine (MK.out).mono ?_
  rintro e w4 ⟨v4, rfl, S4, B4⟩
  have S4 := Aside0.mk (S4.mono (ok2 := (w.heap.size ≤ ·)) (fun b hb _ => Nat.le_trans B3.out.size hb))
  have B4 := Aside0.mk (below_trans0 B3.out B4)
  obtain ⟨g4, cv4, hv4, _⟩ := S4.out.ex
  subst hv4
  clear MK
  go_wp2
  go_ret
  exact ⟨_, rfl, S4.out, B4.out⟩
end Go.Proofs.Ytalbgdbphdhhaaa.Sg
