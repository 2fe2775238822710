/- Contract: the laws' own Is, where the rows are just these. -/
import Derived.Test.YtalbgdbphdhhaaaSgJ
import Derived.Test.YtalbgdbphdhhaaaSgB
namespace Go.Proofs.Ytalbgdbphdhhaaa.Sg
open Go.RowKit Go.Shelf
set_option linter.unusedVariables false
set_option linter.unusedSimpArgs false

set_option maxHeartbeats 2000000 in
set_option maxRecDepth 100000 in
theorem is_same (w : World) (ok ok2 : Nat → Prop) (g W : Nat) (rv : Value) (rs : List Row) (h : SegAt w ok (.pointer (some ⟨g, 0, none⟩)) W rs) (hr : RowsAt w ok2 rv rs) :
    Calls Try.prog 17 #[.pointer (some ⟨g, 0, none⟩), rv] w fun e w' => e = .returned (.bool true) ∧ Below w.heap.size w w' := by
  obtain ⟨A, c, rfl, _⟩ := hr.form
  have HS := Aside0.mk h
  have HR := Aside0.mk hr
  have LN := Aside0.mk (len_any w ok _ W rs h)
  have hl := h.len
  clear h hr
  go_enter Try.func17, Try.ntmps17
  go_wp2_with fail
  refine (LN.out).mono ?_
  rintro e w' ⟨rfl, rfl⟩
  clear LN
  go_wp2_with fail
  go_loopw [14] (fun s14 wr => ∃ i : Nat, s14 = .int .i64 i ∧ i ≤ rs.length ∧ Aside0 (Below w.heap.size w wr)) (fun s14 _ => rs.length - (intOf s14).toNat)
  case atStart => exact ⟨0, rfl, Nat.zero_le _, ⟨Below.refl _ _⟩⟩
  case round =>
    obtain ⟨i, rfl, hi, HB⟩ := hrel
    by_cases hlt : i < rs.length
    · obtain ⟨b, o, u, rfl, _, _, hc, hu⟩ := (HR.out.below reads_row HB.out).at_ i hlt
      have RW := Aside0.mk (row_any wr _ _ W rs rs[i] i (HS.out.below HB.out) (List.getElem?_eq_getElem hlt))
      have CM := Aside0.mk (fun w2 rv (hb : Below wr.heap.size wr w2) (hr : RowAt w2 (wr.heap.size ≤ ·) rv rs[i]) => compare5_any w2 _ _ rv u rs[i] rs[i] hr (SlAt.below reads_int hu hb))
      rw [(cmp5_zero rs[i] rs[i]).2 rfl] at CM
      generalize rs[i] = r at *
      clear hu
      go_wp2_with fail
      refine (RW.out).mono ?_
      rintro e w2 ⟨rv, rfl, HR2, B2⟩
      go_wp2_with fail
      refine (CM.out w2 rv B2 HR2).mono ?_
      rintro e w3 ⟨rfl, hdw⟩
      have BN := Aside0.mk (below_trans0 HB.out (below_trans0 B2 hdw.below))
      clear hdw B2 HR2 CM RW
      go_wp2
      go_roundw
      case rel => exact ⟨i + 1, by go_num, by omega, BN⟩
      case measure => simp [intOf]; omega
    · obtain rfl : i = rs.length := by omega
      go_wp2
      go_ret
      exact ⟨rfl, HB.out⟩
end Go.Proofs.Ytalbgdbphdhhaaa.Sg
