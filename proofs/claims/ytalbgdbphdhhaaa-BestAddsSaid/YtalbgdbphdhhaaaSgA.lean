/- Contracts: Len, Width, compare, Row of a set of rows. -/
import Derived.Test.YtalbgdbphdhhaaaSgV
namespace Go.Proofs.Ytalbgdbphdhhaaa.Sg
open Go.RowKit Go.Shelf
set_option linter.unusedVariables false
set_option linter.unusedSimpArgs false

theorem len_any (w : World) (ok : Nat → Prop) (v : Value) (W : Nat) (rs : List Row) (h : SegAt w ok v W rs) :
    Calls Try.prog 24 #[v] w fun e w' => e = .returned (.int .i64 rs.length) ∧ w = w' := by
  obtain ⟨g, cv, rfl, h1, h2, h3, h4, h5⟩ := h.ex
  clear h h5
  go_enter Try.func24, Try.ntmps24
  go_wp2
  go_ret
  exact ⟨rfl, rfl⟩
theorem len_nil (w : World) :
    Calls Try.prog 24 #[.pointer none] w fun e w' => e = .returned (.int .i64 0) ∧ w = w' := by
  go_enter Try.func24, Try.ntmps24
  go_wp2
  go_ret
  exact ⟨rfl, rfl⟩
theorem width_any (w : World) (ok : Nat → Prop) (v : Value) (W : Nat) (rs : List Row) (h : SegAt w ok v W rs) :
    Calls Try.prog 33 #[v] w fun e w' => e = .returned (.int .i64 W) ∧ w = w' := by
  obtain ⟨g, cv, rfl, h1, h2, h3, h4, h5⟩ := h.ex
  clear h h5
  go_enter Try.func33, Try.ntmps33
  go_wp2
  go_ret
  exact ⟨rfl, rfl⟩
theorem width_nil (w : World) :
    Calls Try.prog 33 #[.pointer none] w fun e w' => e = .returned (.int .i64 0) ∧ w = w' := by
  go_enter Try.func33, Try.ntmps33
  go_wp2
  go_ret
  exact ⟨rfl, rfl⟩

/-- The beginning of a row held against numbers. -/
def cmpP : Row → Row → Int
  | _, [] => 0
  | [], _ :: _ => 0
  | x :: xs, p :: ps => if x < p then -1 else if p < x then 1 else cmpP xs ps
theorem cmpP_drop (r p : Row) (k : Nat) (h1 : k < p.length) (h2 : p.length ≤ r.length) :
    cmpP (r.drop k) (p.drop k) = if r.getD k 0 < p.getD k 0 then -1 else if p.getD k 0 < r.getD k 0 then 1 else cmpP (r.drop (k + 1)) (p.drop (k + 1)) := by
  rw [List.drop_eq_getElem_cons h1, List.drop_eq_getElem_cons (show k < r.length by omega)]
  simp only [cmpP, List.getD_eq_getElem?_getD, List.getElem?_eq_getElem h1, List.getElem?_eq_getElem (show k < r.length by omega), Option.getD_some]
theorem ret_int {k : IntKind} {a b : Int} (h : a = b) : Ending.returned (.int k a) = .returned (.int k b) := by rw [h]

set_option maxHeartbeats 1000000 in
set_option maxRecDepth 100000 in
theorem compare_any (w : World) (ok okp : Nat → Prop) (v pv : Value) (W : Nat) (rs : List Row) (r p : Row) (i : Nat) (h : SegAt w ok v W rs) (hp : RowAt w okp pv p) (hr : rs[i]? = some r) (hpl : p.length ≤ W) :
    Calls Try.prog 51 #[v, .int .i64 i, pv] w fun e w' => e = .returned (.int .i64 (cmpP r p)) ∧ w = w' := by
  obtain ⟨g, cv, rfl, h1, h2, h3, h4, h5⟩ := h.ex
  obtain ⟨Ap, cp, rfl, hcp, hpm, _⟩ := hp.form
  obtain ⟨Ac, cc, rfl, hcc, hcm, _⟩ := h5.form
  obtain ⟨hi, hri⟩ := List.getElem?_eq_some_iff.1 hr
  have hW := h.wid
  have hcl := colsOf_length W rs
  have hrl : r.length = W := (h.lenAt hr).2.1
  have HRI := Aside0.mk hri
  have HP := Aside0.mk hp
  have H5 := Aside0.mk h5
  have HL := Aside0.mk h.len
  have HCL := Aside0.mk hcl
  have HRL := Aside0.mk hrl
  clear h hp h5 hcl hrl hr hri
  go_enter Try.func51, Try.ntmps51
  go_wp2
  go_loop [12] (fun s => ∃ k : Nat, s = .int .i64 k ∧ k ≤ p.length ∧ Aside0 (cmpP r p = cmpP (r.drop k) (p.drop k))) (fun s => p.length - (intOf s).toNat)
  case atStart => exact ⟨0, rfl, Nat.zero_le _, ⟨rfl⟩⟩
  case round =>
    obtain ⟨k, rfl, hk, HR⟩ := hrel
    by_cases hlt : k < p.length
    · obtain ⟨bp, op, u, rfl, _, _, hc, rfl, _⟩ := HP.out.at_ k hlt
      obtain ⟨bc, oc, uc, rfl, _, _, hcc0, hce⟩ := H5.out.at_ k (by rw [HCL.out]; omega)
      rw [colsOf_get] at hce
      obtain ⟨Ar, cr, rfl, hcr, hrm, _⟩ := hce.form
      obtain ⟨br, or_, ur, rfl, _, _, hcr0, rfl, _⟩ := hce.at_ i (by simpa using hi)
      rw [List.getElem_map, HRI.out] at hcr0
      have hy : p[k] = p.getD k 0 := by simp only [List.getD_eq_getElem?_getD, List.getElem?_eq_getElem hlt, Option.getD_some]
      rw [hy] at hc
      have hd := cmpP_drop r p k hlt (by rw [HRL.out]; omega)
      generalize r.getD k 0 = x at *
      generalize p.getD k 0 = y at *
      have HD := Aside0.mk hd
      have hil : (rs.map fun r => r.getD k 0).length = rs.length := by simp
      rw [hil] at *
      have hkc : k < (colsOf W rs).length := by rw [HCL.out]; omega
      clear hd hy hil hce
      by_cases c1 : x < y
      · go_wp2
        go_ret
        exact ⟨ret_int (by rw [HR.out, HD.out, if_pos (by omega)]), rfl⟩
      · by_cases c2 : y < x
        · go_wp2
          go_ret
          exact ⟨ret_int (by rw [HR.out, HD.out, if_neg (by omega), if_pos (by omega)]), rfl⟩
        · go_wp2
          go_round
          case rel => exact ⟨k + 1, by go_num, by omega, ⟨by rw [HR.out, HD.out, if_neg (by omega), if_neg (by omega)]⟩⟩
          case measure => simp [intOf]; omega
    · go_wp2
      go_ret
      refine ⟨ret_int ?_, rfl⟩
      rw [HR.out, List.drop_of_length_le (show p.length ≤ k by omega)]
      cases r.drop k <;> rfl
end Go.Proofs.Ytalbgdbphdhhaaa.Sg
