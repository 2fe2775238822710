/- Contracts: sort.Search; Prefix and Has of a set of rows. -/
import Derived.Test.YtalbgdbphdhhaaaSgQ
import Derived.Test.YtalbgdbphdhhaaaSgC
import Derived.Deep.LoopGhost
namespace Go.Proofs.Ytalbgdbphdhhaaa.Sg
open Go.RowKit Go.Shelf
set_option linter.unusedVariables false
set_option linter.unusedSimpArgs false

set_option maxHeartbeats 1000000 in
set_option maxRecDepth 100000 in
theorem search_any (w : World) (g n : Nat) (cb : Array Value) (p : Nat → Bool) (hn : n < 1000000) (eg : ∀ args w, (callFunc g args).run Try.prog w = .ok (.enter g args) w)
    (hf : ∀ i, i < n → ∀ r, p i = r → Calls Try.prog g (#[.int .i64 i] ++ cb) w fun e w' => e = .returned (.bool r) ∧ w = w') :
    Calls Try.prog 49 #[.int .i64 n, .func (.func g) #[] cb] w fun e w' => ∃ r : Nat, e = .returned (.int .i64 r) ∧ Found p n r ∧ w = w' := by
  have HF := Aside0.mk hf
  clear hf
  go_enter Try.func49, Try.ntmps49
  go_wp2
  go_loopg [5, 6] n (fun gh s5 s6 wr => ∃ i j : Nat, s5 = .int .i64 i ∧ s6 = .int .i64 j ∧ wr = w ∧ i ≤ j ∧ j ≤ n ∧ j - i ≤ gh ∧ Aside0 ((0 < i → p (i - 1) = false) ∧ (j < n → p j = true)))
  case atStart => exact ⟨0, n, rfl, rfl, rfl, Nat.zero_le _, Nat.le_refl _, by omega, ⟨fun h => by omega, fun h => by omega⟩⟩
  case round =>
    obtain ⟨i, j, rfl, rfl, rfl, hij, hjn, hgh, HR⟩ := hrel
    by_cases hlt : i < j
    · obtain ⟨h, hh⟩ : ∃ h, h = (i + j) / 2 := ⟨_, rfl⟩
      have hh1 : ((i : Int) + j) / 2 = (h : Int) := by omega
      have hb1 : i ≤ h ∧ h < j := by omega
      obtain ⟨hb1, hb2⟩ := hb1
      have HC := Aside0.mk (fun r hr => HF.out h (by omega) r hr)
      clear hh
      by_cases hp : p h = true
      · have hc := Aside0.mk (HC.out true hp)
        have HP := Aside0.mk hp
        clear hp HC
        go_wp2_with fail
        refine (hc.out).mono ?_
        rintro e w' ⟨rfl, rfl⟩
        go_wp2
        go_roundg (h - i)
        case measure => omega
        case rel => exact ⟨i, h, rfl, rfl, rfl, hb1, by omega, Nat.le_refl _, ⟨HR.out.1, fun _ => HP.out⟩⟩
      · have hp' : p h = false := by simpa using hp
        have hc := Aside0.mk (HC.out false hp')
        have HP := Aside0.mk hp'
        clear hp hp' HC
        go_wp2_with fail
        refine (hc.out).mono ?_
        rintro e w' ⟨rfl, rfl⟩
        go_wp2
        go_roundg (j - (h + 1))
        case measure => omega
        case rel => exact ⟨h + 1, j, by go_num, rfl, rfl, by omega, hjn, Nat.le_refl _, ⟨fun _ => HP.out, HR.out.2⟩⟩
    · obtain rfl : i = j := by omega
      go_wp2
      go_ret
      exact ⟨i, rfl, ⟨hjn, HR.out.1, HR.out.2⟩, rfl⟩

theorem search_det (w : World) (g n : Nat) (cb : Array Value) (p : Nat → Bool) (r0 : Nat) (hn : n < 1000000) (eg : ∀ args w, (callFunc g args).run Try.prog w = .ok (.enter g args) w)
    (hf : ∀ i, i < n → ∀ r, p i = r → Calls Try.prog g (#[.int .i64 i] ++ cb) w fun e w' => e = .returned (.bool r) ∧ w = w') (hu : ∀ r, Found p n r → r = r0) :
    Calls Try.prog 49 #[.int .i64 n, .func (.func g) #[] cb] w fun e w' => e = .returned (.int .i64 r0) ∧ w = w' :=
  (search_any w g n cb p hn eg hf).mono fun e w' ⟨r, he, hr, hw⟩ => ⟨by rw [he, hu r hr], hw⟩
/-! ### Prefix -/
theorem cmpP_ge {x : Int} : (0 ≤ x) ↔ ¬ x < 0 := by omega
set_option maxHeartbeats 400000 in
theorem prefix1_any (w : World) (ok okp : Nat → Prop) (v pv : Value) (n : Nat) (rs : List Row) (r p : Row) (i b1 b2 : Nat) (h : SegAt w ok v n rs) (hp : RowAt w okp pv p) (hr : rs[i]? = some r) (hpl : p.length ≤ n)
    (h1 : w.cell? ⟨b1, 0, none⟩ = some v) (h2 : w.cell? ⟨b2, 0, none⟩ = some pv) (q : Bool) (hq : decide (0 ≤ cmpP r p) = q) :
    Calls Try.prog 50 #[.int .i64 i, .pointer (some ⟨b1, 0, none⟩), .pointer (some ⟨b2, 0, none⟩)] w fun e w' => e = .returned (.bool q) ∧ w = w' := by
  have C := Aside0.mk (compare_any w ok okp v pv n rs r p i h hp hr hpl)
  obtain ⟨g, cv, rfl, _⟩ := h.ex
  obtain ⟨Ap, cp, rfl, _⟩ := hp.form
  clear h hp hr hpl
  generalize cmpP r p = c at *
  go_enter Try.func50, Try.ntmps50
  go_wp2_with (first | (go_at_call 51; (with_reducible refine (C.out).mono ?_); rintro e w' ⟨rfl, rfl⟩))
  go_ret
  exact ⟨by first | rfl | rw [← hq], rfl⟩
set_option maxHeartbeats 400000 in
theorem prefix2_any (w : World) (ok okp : Nat → Prop) (v pv : Value) (n : Nat) (rs : List Row) (r p : Row) (f i b1 b2 b3 : Nat) (h : SegAt w ok v n rs) (hp : RowAt w okp pv p) (hr : rs[f + i]? = some r) (hpl : p.length ≤ n)
    (h1 : w.cell? ⟨b1, 0, none⟩ = some v) (h2 : w.cell? ⟨b2, 0, none⟩ = some (.int .i64 f)) (h3 : w.cell? ⟨b3, 0, none⟩ = some pv) (q : Bool) (hq : decide (0 < cmpP r p) = q) (hfi : f + i < 1000000) :
    Calls Try.prog 52 #[.int .i64 i, .pointer (some ⟨b1, 0, none⟩), .pointer (some ⟨b2, 0, none⟩), .pointer (some ⟨b3, 0, none⟩)] w fun e w' => e = .returned (.bool q) ∧ w = w' := by
  have C := compare_any w ok okp v pv n rs r p (f + i) h hp hr hpl
  obtain ⟨g, cv, rfl, _⟩ := h.ex
  obtain ⟨Ap, cp, rfl, _⟩ := hp.form
  clear h hp hr hpl
  generalize cmpP r p = c at *
  rw [show ((f + i : Nat) : Int) = (f : Int) + i from by omega] at C
  have C := Aside0.mk C
  go_enter Try.func52, Try.ntmps52
  go_wp2_with (first | (go_at_call 51; (with_reducible refine (C.out).mono ?_); rintro e w' ⟨rfl, rfl⟩))
  go_ret
  exact ⟨by first | rfl | rw [← hq], rfl⟩

set_option maxHeartbeats 2000000 in
set_option maxRecDepth 100000 in
theorem prefix_any (w : World) (ok okp : Nat → Prop) (v pv : Value) (n : Nat) (rs : List Row) (p : Row) (h : SegAt w ok v n rs) (hs : SS rs) (hp : RowAt w okp pv p) (hpl : p.length ≤ n) :
    Calls Try.prog 36 #[v, pv] w fun e w' => e = .returned (.tuple #[.int .i64 (lo rs p), .int .i64 (hi rs p)]) ∧ Below w.heap.size w w' := by
  have eg1 : ∀ args w, (callFunc 50 args).run Try.prog w = .ok (.enter 50 args) w := enters_of Try.func50 (by kernel_rfl) rfl
  have eg2 : ∀ args w, (callFunc 52 args).run Try.prog w = .ok (.enter 52 args) w := enters_of Try.func52 (by kernel_rfl) rfl
  have EG1 := Aside0.mk eg1
  have EG2 := Aside0.mk eg2
  have hd : decide (n < p.length) = false := by simp; omega
  have HS := Aside0.mk h
  have HP := Aside0.mk hp
  have SSR := Aside0.mk hs
  have hlen := h.len
  have hll := lo_le rs p
  have hhl := hi_le rs p
  have hlh := lo_le_hi rs p
  have RL := Aside0.mk (fun r hr => (h.row r hr).1)
  obtain ⟨f, hf⟩ : ∃ f, lo rs p = f := ⟨_, rfl⟩
  obtain ⟨t, ht⟩ : ∃ t, hi rs p = t := ⟨_, rfl⟩
  obtain ⟨m, hm⟩ : ∃ m, rs.length - f = m := ⟨_, rfl⟩
  obtain ⟨d, hd2⟩ : ∃ d, t - f = d := ⟨_, rfl⟩
  rw [hf] at hll hlh ⊢
  rw [ht] at hhl hlh ⊢
  have hm1 : (rs.length : Int) - (f : Int) = (m : Int) := by omega
  have hd1 : (f : Int) + (d : Int) = (t : Int) := by omega
  have hdt : d ≤ m := by omega
  have FL := Aside0.mk (fun r hr => found_lo SSR.out RL.out hpl (r := r) hr)
  have FH := Aside0.mk (fun r hr => found_hi SSR.out RL.out hpl (r := r) hr)
  rw [hf, ht, hm, hd2] at FH
  rw [hf] at FL
  have HM := Aside0.mk hm
  clear hf ht hm hd2
  obtain ⟨g, cv, hv, _⟩ := h.ex
  obtain ⟨Ap, cp, hpv, _⟩ := hp.form
  subst hv
  subst hpv
  clear h hp hs eg1 eg2
  go_enter Try.func36, Try.ntmps36
  go_wp2
  obtain ⟨W1, hW1⟩ : ∃ W1, (w.alloc (.cells #[.pointer (some ⟨g, 0, none⟩)] 39)).alloc (.cells #[.slice Ap p.length cp] 23) = W1 := ⟨_, rfl⟩
  have c2 : W1.cell? ⟨w.heap.size, 0, none⟩ = some (.pointer (some ⟨g, 0, none⟩)) := by rw [← hW1]; simp
  have c3 : W1.cell? ⟨w.heap.size + 1, 0, none⟩ = some (.slice Ap p.length cp) := by rw [← hW1]; simp
  have hB : Below w.heap.size w W1 := by rw [← hW1]; exact below_alloc0 (below_alloc0 (Below.refl _ _) _) _
  have HB := Aside0.mk hB
  have HS1 := Aside0.mk (HS.out.below hB)
  have HP1 := Aside0.mk (HP.out.below reads_int hB)
  rw [hW1]
  clear hW1 hB HS HP
  have WD := Aside0.mk (fun k => width_any (W1.drewN k) ok _ n rs (HS1.out.stays (Stays.drewN _ _ _)))
  go_quiet ((go_at_call 33; exact quiet_left (WD.out _)))
  obtain ⟨W2, hW2⟩ : ∃ W2, W1.drewN nq = W2 := ⟨_, rfl⟩
  have d2 : W2.cell? ⟨w.heap.size, 0, none⟩ = some (.pointer (some ⟨g, 0, none⟩)) := by rw [← hW2]; exact c2
  have d3 : W2.cell? ⟨w.heap.size + 1, 0, none⟩ = some (.slice Ap p.length cp) := by rw [← hW2]; exact c3
  have HB2 := Aside0.mk (show Below w.heap.size w W2 by rw [← hW2]; exact below_drewN HB.out _)
  have HS2 := Aside0.mk (show SegAt W2 ok _ n rs by rw [← hW2]; exact HS1.out.stays (Stays.drewN _ _ _))
  have HP2 := Aside0.mk (show RowAt W2 okp _ p by rw [← hW2]; exact reads_row.stays HP1.out (Stays.drewN _ _ _))
  rw [hW2]
  clear hW2 c2 c3 HB HS1 HP1 WD
  have LN := Aside0.mk (len_any W2 ok _ n rs HS2.out)
  have SE := Aside0.mk (search_det W2 50 rs.length #[.pointer (some ⟨w.heap.size, 0, none⟩), .pointer (some ⟨w.heap.size + 1, 0, none⟩)] (fun i => decide (0 ≤ cmpP (rs.getD i []) p)) f hlen EG1.out
    (fun i hi r hr => prefix1_any W2 ok okp _ _ n rs (rs.getD i []) p i _ _ HS2.out HP2.out (by simp [List.getD_eq_getElem?_getD, hi]) hpl d2 d3 r hr) FL.out)
  go_wp2_with (first | (go_at_call 24; (with_reducible refine (LN.out).mono ?_); rintro e w' ⟨rfl, rfl⟩))
  refine (SE.out).mono ?_
  rintro e w' ⟨rfl, rfl⟩
  clear LN SE
  go_wp2
  obtain ⟨W3, hW3⟩ : ∃ W3, W2.alloc (.cells #[.int .i64 f] 3) = W3 := ⟨_, rfl⟩
  have e1 : W3.cell? ⟨W2.heap.size, 0, none⟩ = some (.int .i64 f) := by rw [← hW3]; simp
  have hB3 : Below W2.heap.size W2 W3 := by rw [← hW3]; exact below_alloc0 (Below.refl _ _) _
  have e2 := below_cell0 hB3 d2
  have e3 := below_cell0 hB3 d3
  have HS3 := Aside0.mk (HS2.out.below hB3)
  have HP3 := Aside0.mk (HP2.out.below reads_int hB3)
  have HB3 := Aside0.mk (below_trans0 HB2.out hB3)
  rw [hW3]
  clear d2 d3 HB2 HS2 HP2 hW3 hB3
  have LN := Aside0.mk (fun k => len_any (W3.drewN k) ok _ n rs (HS3.out.stays (Stays.drewN _ _ _)))
  have SE := Aside0.mk (fun k => search_det (W3.drewN k) 52 m #[.pointer (some ⟨w.heap.size, 0, none⟩), .pointer (some ⟨W2.heap.size, 0, none⟩), .pointer (some ⟨w.heap.size + 1, 0, none⟩)] (fun i => decide (0 < cmpP (rs.getD (f + i) []) p)) d (by omega) EG2.out
    (fun i hi r hr => prefix2_any (W3.drewN k) ok okp _ _ n rs (rs.getD (f + i) []) p f i _ _ _ (HS3.out.stays (Stays.drewN _ _ _)) (reads_row.stays HP3.out (Stays.drewN _ _ _)) (by simp [List.getD_eq_getElem?_getD, show f + i < rs.length by omega]) hpl e2 e1 e3 r hr (by omega)) FH.out)
  go_quiet (first | (go_at_call 24; exact quiet_left (LN.out _)) | (go_at_call 49; exact quiet_left (SE.out _)))
  go_wp2
  go_ret2
  exact ⟨rfl, below_drewN HB3.out _⟩
end Go.Proofs.Ytalbgdbphdhhaaa.Sg
