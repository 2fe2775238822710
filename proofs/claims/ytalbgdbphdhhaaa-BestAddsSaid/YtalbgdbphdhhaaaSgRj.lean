/- Contracts: Prefix and Has of a set, or of nil. -/
import Derived.Test.YtalbgdbphdhhaaaSgI
import Derived.Test.YtalbgdbphdhhaaaSgRb
namespace Go.Proofs.Ytalbgdbphdhhaaa.Sg
open Go.RowKit Go.Shelf
set_option linter.unusedVariables false
set_option linter.unusedSimpArgs false

set_option maxHeartbeats 2000000 in
set_option maxRecDepth 100000 in
theorem prefixN_any (w : World) (ok okp : Nat → Prop) (v pv : Value) (n : Nat) (rs : List Row) (p : Row) (h : SegN w ok v n rs) (hs : SS rs) (hp : RowAt w okp pv p) (hpl : p.length ≤ n) :
    Calls Try.prog 36 #[v, pv] w fun e w' => e = .returned (.tuple #[.int .i64 (lo rs p), .int .i64 (hi rs p)]) ∧ Below w.heap.size w w' := by
  have eg1 : ∀ args w, (callFunc 50 args).run Try.prog w = .ok (.enter 50 args) w := enters_of Try.func50 (by kernel_rfl) rfl
  have eg2 : ∀ args w, (callFunc 52 args).run Try.prog w = .ok (.enter 52 args) w := enters_of Try.func52 (by kernel_rfl) rfl
  have EG1 := Aside0.mk eg1
  have EG2 := Aside0.mk eg2
  have hd : decide (n < p.length) = false := by simp; omega
  have HS := Aside0.mk h
  have HP := Aside0.mk hp
  have SSR := Aside0.mk hs
  have hlen := h.len
  have hll := lo_le rs p
  have hhl := hi_le rs p
  have hlh := lo_le_hi rs p
  have RL := Aside0.mk (fun r hr => (h.row r hr).1)
  obtain ⟨f, hf⟩ : ∃ f, lo rs p = f := ⟨_, rfl⟩
  obtain ⟨t, ht⟩ : ∃ t, hi rs p = t := ⟨_, rfl⟩
  obtain ⟨m, hm⟩ : ∃ m, rs.length - f = m := ⟨_, rfl⟩
  obtain ⟨d, hd2⟩ : ∃ d, t - f = d := ⟨_, rfl⟩
  rw [hf] at hll hlh ⊢
  rw [ht] at hhl hlh ⊢
  have hm1 : (rs.length : Int) - (f : Int) = (m : Int) := by omega
  have hd1 : (f : Int) + (d : Int) = (t : Int) := by omega
  have hdt : d ≤ m := by omega
  have FL := Aside0.mk (fun r hr => found_lo SSR.out RL.out hpl (r := r) hr)
  have FH := Aside0.mk (fun r hr => found_hi SSR.out RL.out hpl (r := r) hr)
  rw [hf, ht, hm, hd2] at FH
  rw [hf] at FL
  have HM := Aside0.mk hm
  clear hf ht hm hd2
  obtain ⟨pg, hv⟩ := h.ptr
  obtain ⟨Ap, cp, hpv, _⟩ := hp.form
  subst hv
  subst hpv
  clear h hp hs eg1 eg2
  go_enter Try.func36, Try.ntmps36
  go_wp2
  obtain ⟨W1, hW1⟩ : ∃ W1, (w.alloc (.cells #[.pointer pg] 39)).alloc (.cells #[.slice Ap p.length cp] 23) = W1 := ⟨_, rfl⟩
  have c2 : W1.cell? ⟨w.heap.size, 0, none⟩ = some (.pointer pg) := by rw [← hW1]; simp
  have c3 : W1.cell? ⟨w.heap.size + 1, 0, none⟩ = some (.slice Ap p.length cp) := by rw [← hW1]; simp
  have hB : Below w.heap.size w W1 := by rw [← hW1]; exact below_alloc0 (below_alloc0 (Below.refl _ _) _) _
  have HB := Aside0.mk hB
  have HS1 := Aside0.mk (HS.out.below hB)
  have HP1 := Aside0.mk (HP.out.below reads_int hB)
  rw [hW1]
  clear hW1 hB HS HP
  have WD := Aside0.mk (fun k => widthN_any (W1.drewN k) ok _ n rs (HS1.out.stays (Stays.drewN _ _ _)))
  go_quiet ((go_at_call 33; exact quiet_left (WD.out _)))
  obtain ⟨W2, hW2⟩ : ∃ W2, W1.drewN nq = W2 := ⟨_, rfl⟩
  have d2 : W2.cell? ⟨w.heap.size, 0, none⟩ = some (.pointer pg) := by rw [← hW2]; exact c2
  have d3 : W2.cell? ⟨w.heap.size + 1, 0, none⟩ = some (.slice Ap p.length cp) := by rw [← hW2]; exact c3
  have HB2 := Aside0.mk (show Below w.heap.size w W2 by rw [← hW2]; exact below_drewN HB.out _)
  have HS2 := Aside0.mk (show SegN W2 ok _ n rs by rw [← hW2]; exact HS1.out.stays (Stays.drewN _ _ _))
  have HP2 := Aside0.mk (show RowAt W2 okp _ p by rw [← hW2]; exact reads_row.stays HP1.out (Stays.drewN _ _ _))
  rw [hW2]
  clear hW2 c2 c3 HB HS1 HP1 WD
  have LN := Aside0.mk (lenN_any W2 ok _ n rs HS2.out)
  have SE := Aside0.mk (search_det W2 50 rs.length #[.pointer (some ⟨w.heap.size, 0, none⟩), .pointer (some ⟨w.heap.size + 1, 0, none⟩)] (fun i => decide (0 ≤ cmpP (rs.getD i []) p)) f hlen EG1.out
    (fun i hi r hr => prefix1_any W2 ok okp _ _ n rs (rs.getD i []) p i _ _ (HS2.out.at_ hi) HP2.out (by simp [List.getD_eq_getElem?_getD, hi]) hpl d2 d3 r hr) FL.out)
  go_wp2_with (first | (go_at_call 24; (with_reducible refine (LN.out).mono ?_); rintro e w' ⟨rfl, rfl⟩))
  refine (SE.out).mono ?_
  rintro e w' ⟨rfl, rfl⟩
  clear LN SE
  go_wp2
  obtain ⟨W3, hW3⟩ : ∃ W3, W2.alloc (.cells #[.int .i64 f] 3) = W3 := ⟨_, rfl⟩
  have e1 : W3.cell? ⟨W2.heap.size, 0, none⟩ = some (.int .i64 f) := by rw [← hW3]; simp
  have hB3 : Below W2.heap.size W2 W3 := by rw [← hW3]; exact below_alloc0 (Below.refl _ _) _
  have e2 := below_cell0 hB3 d2
  have e3 := below_cell0 hB3 d3
  have HS3 := Aside0.mk (HS2.out.below hB3)
  have HP3 := Aside0.mk (HP2.out.below reads_int hB3)
  have HB3 := Aside0.mk (below_trans0 HB2.out hB3)
  rw [hW3]
  clear d2 d3 HB2 HS2 HP2 hW3 hB3
  have LN := Aside0.mk (fun k => lenN_any (W3.drewN k) ok _ n rs (HS3.out.stays (Stays.drewN _ _ _)))
  have SE := Aside0.mk (fun k => search_det (W3.drewN k) 52 m #[.pointer (some ⟨w.heap.size, 0, none⟩), .pointer (some ⟨W2.heap.size, 0, none⟩), .pointer (some ⟨w.heap.size + 1, 0, none⟩)] (fun i => decide (0 < cmpP (rs.getD (f + i) []) p)) d (by omega) EG2.out
    (fun i hi r hr => prefix2_any (W3.drewN k) ok okp _ _ n rs (rs.getD (f + i) []) p f i _ _ _ ((HS3.out.stays (Stays.drewN _ _ _)).at_ (k := f + i) (by omega)) (reads_row.stays HP3.out (Stays.drewN _ _ _)) (by simp [List.getD_eq_getElem?_getD, show f + i < rs.length by omega]) hpl e2 e1 e3 r hr (by omega)) FH.out)
  go_quiet (first | (go_at_call 24; exact quiet_left (LN.out _)) | (go_at_call 49; exact quiet_left (SE.out _)))
  go_wp2
  go_ret2
  exact ⟨rfl, below_drewN HB3.out _⟩
set_option maxHeartbeats 1000000 in
set_option maxRecDepth 100000 in
theorem prefixN_long (w : World) (ok okp : Nat → Prop) (v pv : Value) (n : Nat) (rs : List Row) (p : Row) (h : SegN w ok v n rs) (hp : RowAt w okp pv p) (hpl : n < p.length) :
    Calls Try.prog 36 #[v, pv] w fun e w' => e = .returned (.tuple #[.int .i64 0, .int .i64 0]) ∧ Below w.heap.size w w' := by
  have hd : decide (n < p.length) = true := by simpa using hpl
  have HS := Aside0.mk h
  obtain ⟨pg, hv⟩ := h.ptr
  obtain ⟨Ap, cp, hpv, _⟩ := hp.form
  subst hv
  subst hpv
  clear h hp
  go_enter Try.func36, Try.ntmps36
  go_wp2
  obtain ⟨W1, hW1⟩ : ∃ W1, (w.alloc (.cells #[.pointer pg] 39)).alloc (.cells #[.slice Ap p.length cp] 23) = W1 := ⟨_, rfl⟩
  have c2 : W1.cell? ⟨w.heap.size, 0, none⟩ = some (.pointer pg) := by rw [← hW1]; simp
  have c3 : W1.cell? ⟨w.heap.size + 1, 0, none⟩ = some (.slice Ap p.length cp) := by rw [← hW1]; simp
  have hB : Below w.heap.size w W1 := by rw [← hW1]; exact below_alloc0 (below_alloc0 (Below.refl _ _) _) _
  have HB := Aside0.mk hB
  have HS1 := Aside0.mk (HS.out.below hB)
  rw [hW1]
  clear hW1 hB HS
  have WD := Aside0.mk (fun k => widthN_any (W1.drewN k) ok _ n rs (HS1.out.stays (Stays.drewN _ _ _)))
  go_quiet ((go_at_call 33; exact quiet_left (WD.out _)))
  go_wp2
  go_ret2
  exact ⟨rfl, below_drewN HB.out _⟩
set_option maxHeartbeats 1000000 in
set_option maxRecDepth 100000 in
theorem hasN_any (w : World) (ok okp : Nat → Prop) (v pv : Value) (n : Nat) (rs : List Row) (p : Row) (h : SegN w ok v n rs) (hs : SS rs) (hp : RowAt w okp pv p) :
    Calls Try.prog 59 #[v, pv] w fun e w' => e = .returned (.bool (decide (p ∈ rs))) ∧ Below w.heap.size w w' := by
  have WD := Aside0.mk (fun W hb => widthN_any W ok v n rs (h.below hb))
  by_cases hl : p.length = n
  · have PR := Aside0.mk (prefixN_any w ok okp v pv n rs p h hs hp (by omega))
    have hlt := lo_lt_hi (rs := rs) (p := p) (fun r hr => by rw [(h.row r hr).1, hl])
    have hb1 : lo rs p < 1000000 := by have := lo_le rs p; have := h.len; omega
    have hb2 : hi rs p < 1000000 := by have := hi_le rs p; have := h.len; omega
    obtain ⟨pg, hv⟩ := h.ptr
    obtain ⟨Ap, cp, hpv, _⟩ := hp.form
    rw [hl] at hpv
    clear h hp hs
    generalize lo rs p = f at *
    generalize hi rs p = t at *
    subst hv
    subst hpv
    have key : decide (p ∈ rs) = decide (f < t) := by rw [decide_eq_decide]; exact hlt.symm
    rw [key]
    have he : ((n : Int) == (n : Int)) = true := by simp
    clear hlt key
    by_cases hft : f < t
    · have hd : decide (f < t) = true := by simpa using hft
      rw [hd]
      go_enter Try.func59, Try.ntmps59
      go_wp2_with (first | (go_at_call 36; (with_reducible refine (PR.out).mono ?_); rintro e w1 ⟨rfl, HB⟩; have HB1 := Aside0.mk HB; clear HB) | (go_at_call 33; (with_reducible refine (WD.out _ HB1.out).mono ?_); rintro e w2 ⟨rfl, rfl⟩))
      go_ret
      exact ⟨rfl, HB1.out⟩
    · have hd : decide (f < t) = false := by simpa using hft
      rw [hd]
      go_enter Try.func59, Try.ntmps59
      go_wp2_with (first | (go_at_call 36; (with_reducible refine (PR.out).mono ?_); rintro e w1 ⟨rfl, HB⟩; have HB1 := Aside0.mk HB; clear HB) | (go_at_call 33; (with_reducible refine (WD.out _ HB1.out).mono ?_); rintro e w2 ⟨rfl, rfl⟩))
      go_ret
      exact ⟨rfl, HB1.out⟩
  · have hno : decide (p ∈ rs) = false := by
      rw [decide_eq_false_iff_not]
      intro hm
      exact hl (h.row p hm).1
    rw [hno]
    have he : ((p.length : Int) == (n : Int)) = false := by rw [beq_eq_false_iff_ne]; omega
    obtain ⟨f, t, PR⟩ : ∃ f t : Nat, Aside0 (Calls Try.prog 36 #[v, pv] w fun e w' => e = .returned (.tuple #[.int .i64 f, .int .i64 t]) ∧ Below w.heap.size w w') := by
      by_cases hl2 : p.length < n
      · exact ⟨_, _, ⟨prefixN_any w ok okp v pv n rs p h hs hp (by omega)⟩⟩
      · exact ⟨0, 0, ⟨prefixN_long w ok okp v pv n rs p h hp (by omega)⟩⟩
    obtain ⟨pg, hv⟩ := h.ptr
    obtain ⟨Ap, cp, hpv, _⟩ := hp.form
    clear h hp hs hno
    subst hv
    subst hpv
    go_enter Try.func59, Try.ntmps59
    go_wp2_with (first | (go_at_call 36; (with_reducible refine (PR.out).mono ?_); rintro e w1 ⟨rfl, HB⟩; have HB1 := Aside0.mk HB; clear HB) | (go_at_call 33; (with_reducible refine (WD.out _ HB1.out).mono ?_); rintro e w2 ⟨rfl, rfl⟩))
    go_ret
    exact ⟨rfl, HB1.out⟩
end Go.Proofs.Ytalbgdbphdhhaaa.Sg
