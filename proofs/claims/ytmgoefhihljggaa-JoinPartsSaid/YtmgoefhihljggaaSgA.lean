/- Contracts: Len, Width, compare, Row of a set of rows. -/
import Derived.Test.YtmgoefhihljggaaSgV
namespace Go.Proofs.Ytmgoefhihljggaa.Sg
open Go.RowKit Go.Shelf
set_option linter.unusedVariables false
set_option linter.unusedSimpArgs false

theorem len_any (w : World) (ok : Nat → Prop) (v : Value) (W : Nat) (rs : List Row) (h : SegAt w ok v W rs) :
    Calls Try.prog 17 #[v] w fun e w' => e = .returned (.int .i64 rs.length) ∧ w = w' := by
  obtain ⟨g, cv, rfl, h1, h2, h3, h4, h5⟩ := h.ex
  clear h h5
  go_enter Try.func17, Try.ntmps17
  go_wp2
  go_ret
  exact ⟨rfl, rfl⟩
theorem len_nil (w : World) :
    Calls Try.prog 17 #[.pointer none] w fun e w' => e = .returned (.int .i64 0) ∧ w = w' := by
  go_enter Try.func17, Try.ntmps17
  go_wp2
  go_ret
  exact ⟨rfl, rfl⟩
theorem width_any (w : World) (ok : Nat → Prop) (v : Value) (W : Nat) (rs : List Row) (h : SegAt w ok v W rs) :
    Calls Try.prog 16 #[v] w fun e w' => e = .returned (.int .i64 W) ∧ w = w' := by
  obtain ⟨g, cv, rfl, h1, h2, h3, h4, h5⟩ := h.ex
  clear h h5
  go_enter Try.func16, Try.ntmps16
  go_wp2
  go_ret
  exact ⟨rfl, rfl⟩
theorem width_nil (w : World) :
    Calls Try.prog 16 #[.pointer none] w fun e w' => e = .returned (.int .i64 0) ∧ w = w' := by
  go_enter Try.func16, Try.ntmps16
  go_wp2
  go_ret
  exact ⟨rfl, rfl⟩

/-- The beginning of a row held against numbers. -/
def cmpP : Row → Row → Int
  | _, [] => 0
  | [], _ :: _ => 0
  | x :: xs, p :: ps => if x < p then -1 else if p < x then 1 else cmpP xs ps
theorem cmpP_drop (r p : Row) (k : Nat) (h1 : k < p.length) (h2 : p.length ≤ r.length) :
    cmpP (r.drop k) (p.drop k) = if r.getD k 0 < p.getD k 0 then -1 else if p.getD k 0 < r.getD k 0 then 1 else cmpP (r.drop (k + 1)) (p.drop (k + 1)) := by
  rw [List.drop_eq_getElem_cons h1, List.drop_eq_getElem_cons (show k < r.length by omega)]
  simp only [cmpP, List.getD_eq_getElem?_getD, List.getElem?_eq_getElem h1, List.getElem?_eq_getElem (show k < r.length by omega), Option.getD_some]
theorem ret_int {k : IntKind} {a b : Int} (h : a = b) : Ending.returned (.int k a) = .returned (.int k b) := by rw [h]

end Go.Proofs.Ytmgoefhihljggaa.Sg
