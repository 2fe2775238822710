/- Contracts: slices.EqualFunc of rows; Same. -/
import Derived.Test.YtalbgdbphdhhaaaSgRd
namespace Go.Proofs.Ytalbgdbphdhhaaa.Sg
open Go.RowKit Go.Shelf
set_option linter.unusedVariables false
set_option linter.unusedSimpArgs false

set_option maxRecDepth 100000 in
set_option maxHeartbeats 2000000 in
theorem equalFunc_any (w : World) (ok ok2 : Nat → Prop) (v v2 : Value) (a b : List Row) (h : RowsAt w ok v a) (h2 : RowsAt w ok2 v2 b) :
    Calls Try.prog 42 #[v, v2, .func (.func 41) #[] #[]] w fun e w' => e = .returned (.bool (decide (a = b))) ∧ Below w.heap.size w w' := by
  obtain ⟨A, c, rfl, _⟩ := h.form
  obtain ⟨A2, c2, rfl, _⟩ := h2.form
  have H := Aside0.mk h
  have H2 := Aside0.mk h2
  have eg : ∀ args w, (callFunc 41 args).run Try.prog w = .ok (.enter 41 args) w := enters_of Try.func41 (by kernel_rfl) rfl
  obtain ⟨rb, hrb⟩ : ∃ rb, decide (a = b) = rb := ⟨_, rfl⟩
  rw [hrb]
  have HRB := Aside0.mk hrb
  clear h h2 hrb
  by_cases hl : a.length = b.length
  · have HL := Aside0.mk hl
    have hl1 : ((a.length : Int) != (b.length : Int)) = false := by simp; omega
    have hle : a.length ≤ b.length := by omega
    clear hl
    go_enter Try.func42, Try.ntmps42
    go_wp2_with fail
    go_loopw [17] (fun s17 wr => ∃ k : Nat, s17 = .int .i64 k ∧ k ≤ a.length ∧ Aside0 (a.take k = b.take k) ∧ Aside0 (Below w.heap.size w wr)) (fun s17 _ => a.length - (intOf s17).toNat)
    case atStart => exact ⟨0, rfl, Nat.zero_le _, ⟨by simp⟩, ⟨Below.refl _ _⟩⟩
    case round =>
      obtain ⟨k, rfl, hk, HT, HB⟩ := hrel
      by_cases hlt : k < a.length
      · have hlt2 : k < b.length := by omega
        obtain ⟨b1, o1, u1, rfl, _, _, hc1, hu1⟩ := (H.out.below reads_row HB.out).at_ k hlt
        obtain ⟨b2, o2, u2, rfl, _, _, hc2, hu2⟩ := (H2.out.below reads_row HB.out).at_ k hlt2
        have EQ := Aside0.mk (equal_any wr _ _ u1 u2 a[k] b[k] hu1 hu2)
        have TA := List.take_succ_eq_append_getElem hlt
        have TB := List.take_succ_eq_append_getElem hlt2
        have NE := Aside0.mk (show a[k] ≠ b[k] → rb = false from fun hne => by rw [← HRB.out]; simp; intro e; subst e; exact hne rfl)
        have YE := Aside0.mk (show a[k] = b[k] → a.take (k + 1) = b.take (k + 1) from fun e => by rw [TA, TB, HT.out, e])
        clear hu1 hu2 TA TB
        generalize a[k] = x at *
        generalize b[k] = y at *
        by_cases e : x = y
        · have YE := Aside0.mk (YE.out e)
          rw [show decide (x = y) = true by simpa using e] at EQ
          clear e NE
          go_wp2_with fail
          refine (EQ.out).mono ?_
          rintro e w2 ⟨rfl, hd⟩
          have BN := Aside0.mk (below_trans0 HB.out hd.below)
          clear hd EQ
          go_wp2
          go_roundw
          case rel => exact ⟨k + 1, by go_num, by omega, YE, BN⟩
          case measure => simp [intOf]; omega
        · have hrf := NE.out e
          subst hrf
          rw [show decide (x = y) = false by simpa using e] at EQ
          clear e NE YE
          go_wp2_with fail
          refine (EQ.out).mono ?_
          rintro e w2 ⟨rfl, hd⟩
          have BN := Aside0.mk (below_trans0 HB.out hd.below)
          clear hd EQ
          go_wp2
          go_ret
          exact ⟨rfl, BN.out⟩
      · obtain rfl : k = a.length := by omega
        have hrt : rb = true := by
          rw [← HRB.out]
          have h9 := HT.out
          rw [List.take_length, HL.out, List.take_length] at h9
          simpa using h9
        subst hrt
        go_wp2
        go_ret
        exact ⟨rfl, HB.out⟩
  · have hrf : rb = false := by rw [← HRB.out]; simp; intro e; exact hl (by rw [e])
    subst hrf
    have hl1 : ((a.length : Int) != (b.length : Int)) = true := by simp; omega
    clear HRB hl
    go_enter Try.func42, Try.ntmps42
    go_wp2
    go_ret
    exact ⟨rfl, Below.refl _ _⟩

set_option maxRecDepth 100000 in
set_option maxHeartbeats 2000000 in
theorem same_any (w : World) (ok ok2 : Nat → Prop) (v v2 : Value) (W W2 : Nat) (a b : List Row) (h : SegN w ok v W a) (h2 : SegN w ok2 v2 W2 b) :
    Calls Try.prog 23 #[v, v2] w fun e w' => e = .returned (.bool (decide (a = b))) ∧ Below w.heap.size w w' := by
  obtain ⟨p, rfl⟩ := h.ptr
  obtain ⟨p2, rfl⟩ := h2.ptr
  have RA := Aside0.mk (rows_any w _ _ _ _ h)
  have RB := Aside0.mk (fun w1 (hb : Below w.heap.size w w1) => rows_any w1 _ _ _ _ (h2.below hb))
  have EF := Aside0.mk (fun w2 v v2 ok ok2 (hv : RowsAt w2 ok v a) (hv2 : RowsAt w2 ok2 v2 b) => equalFunc_any w2 ok ok2 v v2 a b hv hv2)
  obtain ⟨rb, hrb⟩ : ∃ rb, decide (a = b) = rb := ⟨_, rfl⟩
  rw [hrb] at EF ⊢
  clear h h2 hrb
  go_enter Try.func23, Try.ntmps23
  go_wp2_with fail
  refine (RA.out).mono ?_
  rintro e w1 ⟨v1, rfl, R1, B1⟩
  have R1 := Aside0.mk R1
  have B1 := Aside0.mk B1
  clear RA
  go_wp2_with fail
  refine (RB.out w1 B1.out).mono ?_
  rintro e w2 ⟨v2, rfl, R2, B2⟩
  have R2 := Aside0.mk R2
  have B12 := Aside0.mk (below_trans0 B1.out B2)
  have EF := Aside0.mk (EF.out w2 v1 v2 _ _ (R1.out.below reads_row B2) R2.out)
  clear RB R1 R2 B2
  go_wp2_with fail
  refine (EF.out).mono ?_
  rintro e w3 ⟨rfl, B3⟩
  have B3 := Aside0.mk (below_trans0 B12.out B3)
  clear EF
  go_wp2
  go_ret
  exact ⟨rfl, B3.out⟩
end Go.Proofs.Ytalbgdbphdhhaaa.Sg
