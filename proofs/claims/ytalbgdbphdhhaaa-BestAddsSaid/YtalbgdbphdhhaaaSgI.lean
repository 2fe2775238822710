/- Contracts: Prefix of numbers that are too many; Has of a set of rows. -/
import Derived.Test.YtalbgdbphdhhaaaSgH
namespace Go.Proofs.Ytalbgdbphdhhaaa.Sg
open Go.RowKit Go.Shelf
set_option linter.unusedVariables false
set_option linter.unusedSimpArgs false

set_option maxHeartbeats 1000000 in
set_option maxRecDepth 100000 in
theorem prefix_long (w : World) (ok okp : Nat → Prop) (v pv : Value) (n : Nat) (rs : List Row) (p : Row) (h : SegAt w ok v n rs) (hp : RowAt w okp pv p) (hpl : n < p.length) :
    Calls Try.prog 36 #[v, pv] w fun e w' => e = .returned (.tuple #[.int .i64 0, .int .i64 0]) ∧ Below w.heap.size w w' := by
  have hd : decide (n < p.length) = true := by simpa using hpl
  have HS := Aside0.mk h
  obtain ⟨g, cv, hv, _⟩ := h.ex
  obtain ⟨Ap, cp, hpv, _⟩ := hp.form
  subst hv
  subst hpv
  clear h hp
  go_enter Try.func36, Try.ntmps36
  go_wp2
  obtain ⟨W1, hW1⟩ : ∃ W1, (w.alloc (.cells #[.pointer (some ⟨g, 0, none⟩)] 39)).alloc (.cells #[.slice Ap p.length cp] 23) = W1 := ⟨_, rfl⟩
  have c2 : W1.cell? ⟨w.heap.size, 0, none⟩ = some (.pointer (some ⟨g, 0, none⟩)) := by rw [← hW1]; simp
  have c3 : W1.cell? ⟨w.heap.size + 1, 0, none⟩ = some (.slice Ap p.length cp) := by rw [← hW1]; simp
  have hB : Below w.heap.size w W1 := by rw [← hW1]; exact below_alloc0 (below_alloc0 (Below.refl _ _) _) _
  have HB := Aside0.mk hB
  have HS1 := Aside0.mk (HS.out.below hB)
  rw [hW1]
  clear hW1 hB HS
  have WD := Aside0.mk (fun k => width_any (W1.drewN k) ok _ n rs (HS1.out.stays (Stays.drewN _ _ _)))
  go_quiet ((go_at_call 33; exact quiet_left (WD.out _)))
  go_wp2
  go_ret2
  exact ⟨rfl, below_drewN HB.out _⟩
set_option maxHeartbeats 1000000 in
set_option maxRecDepth 100000 in
theorem has_any (w : World) (ok okp : Nat → Prop) (v pv : Value) (n : Nat) (rs : List Row) (p : Row) (h : SegAt w ok v n rs) (hs : SS rs) (hp : RowAt w okp pv p) :
    Calls Try.prog 59 #[v, pv] w fun e w' => e = .returned (.bool (decide (p ∈ rs))) ∧ Below w.heap.size w w' := by
  have WD := Aside0.mk (fun W hb => width_any W ok v n rs (h.below hb))
  by_cases hl : p.length = n
  · have PR := Aside0.mk (prefix_any w ok okp v pv n rs p h hs hp (by omega))
    have hlt := lo_lt_hi (rs := rs) (p := p) (fun r hr => by rw [(h.row r hr).1, hl])
    have hb1 : lo rs p < 1000000 := by have := lo_le rs p; have := h.len; omega
    have hb2 : hi rs p < 1000000 := by have := hi_le rs p; have := h.len; omega
    obtain ⟨g, cv, hv, _⟩ := h.ex
    obtain ⟨Ap, cp, hpv, _⟩ := hp.form
    rw [hl] at hpv
    clear h hp hs
    generalize lo rs p = f at *
    generalize hi rs p = t at *
    subst hv
    subst hpv
    have key : decide (p ∈ rs) = decide (f < t) := by rw [decide_eq_decide]; exact hlt.symm
    rw [key]
    have he : ((n : Int) == (n : Int)) = true := by simp
    clear hlt key
    by_cases hft : f < t
    · have hd : decide (f < t) = true := by simpa using hft
      rw [hd]
      go_enter Try.func59, Try.ntmps59
      go_wp2_with (first | (go_at_call 36; (with_reducible refine (PR.out).mono ?_); rintro e w1 ⟨rfl, HB⟩; have HB1 := Aside0.mk HB; clear HB) | (go_at_call 33; (with_reducible refine (WD.out _ HB1.out).mono ?_); rintro e w2 ⟨rfl, rfl⟩))
      go_ret
      exact ⟨rfl, HB1.out⟩
    · have hd : decide (f < t) = false := by simpa using hft
      rw [hd]
      go_enter Try.func59, Try.ntmps59
      go_wp2_with (first | (go_at_call 36; (with_reducible refine (PR.out).mono ?_); rintro e w1 ⟨rfl, HB⟩; have HB1 := Aside0.mk HB; clear HB) | (go_at_call 33; (with_reducible refine (WD.out _ HB1.out).mono ?_); rintro e w2 ⟨rfl, rfl⟩))
      go_ret
      exact ⟨rfl, HB1.out⟩
  · have hno : decide (p ∈ rs) = false := by
      rw [decide_eq_false_iff_not]
      intro hm
      exact hl (h.row p hm).1
    rw [hno]
    have he : ((p.length : Int) == (n : Int)) = false := by rw [beq_eq_false_iff_ne]; omega
    obtain ⟨f, t, PR⟩ : ∃ f t : Nat, Aside0 (Calls Try.prog 36 #[v, pv] w fun e w' => e = .returned (.tuple #[.int .i64 f, .int .i64 t]) ∧ Below w.heap.size w w') := by
      by_cases hl2 : p.length < n
      · exact ⟨_, _, ⟨prefix_any w ok okp v pv n rs p h hs hp (by omega)⟩⟩
      · exact ⟨0, 0, ⟨prefix_long w ok okp v pv n rs p h hp (by omega)⟩⟩
    obtain ⟨g, cv, hv, _⟩ := h.ex
    obtain ⟨Ap, cp, hpv, _⟩ := hp.form
    clear h hp hs hno
    subst hv
    subst hpv
    go_enter Try.func59, Try.ntmps59
    go_wp2_with (first | (go_at_call 36; (with_reducible refine (PR.out).mono ?_); rintro e w1 ⟨rfl, HB⟩; have HB1 := Aside0.mk HB; clear HB) | (go_at_call 33; (with_reducible refine (WD.out _ HB1.out).mono ?_); rintro e w2 ⟨rfl, rfl⟩))
    go_ret
    exact ⟨rfl, HB1.out⟩
end Go.Proofs.Ytalbgdbphdhhaaa.Sg
