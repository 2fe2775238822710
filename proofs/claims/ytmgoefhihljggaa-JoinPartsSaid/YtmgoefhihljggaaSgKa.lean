/- Contracts: ergolaw08.same (two lists of pairs held against each other), join.Method.Do. -/
import Derived.Test.YtmgoefhihljggaaSgU3
import Derived.Test.YtmgoefhihljggaaSgYc
namespace Go.Proofs.Ytmgoefhihljggaa.Sg
open Go.RowKit Go.Shelf
set_option linter.unusedVariables false
set_option linter.unusedSimpArgs false

theorem pairs_eq_drop {a b : List (Int × Int)} {k : Nat} (ha : k < a.length) (hb : k < b.length) (h : a[k] = b[k]) : (a.drop k = b.drop k) = (a.drop (k + 1) = b.drop (k + 1)) := by
  rw [List.drop_eq_getElem_cons ha, List.drop_eq_getElem_cons hb, h, List.cons.injEq]
  simp only [true_and]
set_option maxHeartbeats 1000000 in
set_option maxRecDepth 100000 in
theorem same8_any (w : World) (ok ok2 : Nat → Prop) (va vb : Value) (a b : List (Int × Int)) (ha : PairsAt w ok va a) (hb : PairsAt w ok2 vb b) :
    Calls Try.prog 14 #[va, vb] w fun e w' => e = .returned (.bool (decide (a = b))) ∧ Drew w w' := by
  obtain ⟨Aa, ca, rfl, hca, ham, -⟩ := ha.form
  obtain ⟨Ab, cb, rfl, hcb, hbm, -⟩ := hb.form
  have HA := Aside0.mk ha
  have HB := Aside0.mk hb
  clear ha hb
  by_cases hl : a.length = b.length
  · have HL := Aside0.mk hl
    obtain ⟨na, hna⟩ : ∃ na, a.length = na := ⟨_, rfl⟩
    have hnb : b.length = na := by omega
    have NA := Aside0.mk (And.intro hna hnb)
    rw [hna] at HA hca ham ⊢
    rw [hnb] at HB hcb ⊢
    clear hl hna hnb hbm
    go_enter Try.func14, Try.ntmps14
    go_wp2_with fail
    go_loopw [13] (fun s13 wr => ∃ k : Nat, s13 = .int .i64 k ∧ k ≤ na ∧ Aside0 ((a = b) = (a.drop k = b.drop k) ∧ Drew w wr)) (fun s13 _ => na - (intOf s13).toNat)
    case atStart => exact ⟨0, rfl, Nat.zero_le _, ⟨rfl, Drew.refl _⟩⟩
    case round =>
      obtain ⟨k, rfl, hk, H⟩ := hrel
      by_cases hlt : k < na
      · have hka : k < a.length := by rw [NA.out.1]; exact hlt
        have hkb : k < b.length := by rw [NA.out.2]; exact hlt
        obtain ⟨b1, o1, u1, u2, rfl, -, -, c1, c2, ⟨rfl, -⟩, ⟨rfl, -⟩⟩ := (reads_pairs.stays HA.out (Stays.of_below H.out.2.below _)).at_ k hka
        obtain ⟨b2, o2, u3, u4, rfl, -, -, c3, c4, ⟨rfl, -⟩, ⟨rfl, -⟩⟩ := (reads_pairs.stays HB.out (Stays.of_below H.out.2.below _)).at_ k hkb
        have tk : ((k : Nat) : Int).toNat = k := by omega
        have kz : (k : Int) < (na : Int) := by omega
        have hEQ := pairs_eq_drop hka hkb
        have hNE : a[k] ≠ b[k] → ¬ (a = b) := fun h e => h (by subst e; rfl)
        have hx : a[k] = b[k] ↔ a[k].1 = b[k].1 ∧ a[k].2 = b[k].2 := ⟨fun h => by rw [h]; exact ⟨rfl, rfl⟩, fun h => Prod.ext h.1 h.2⟩
        rw [hx] at hEQ
        rw [Ne, hx] at hNE
        have EQ := Aside0.mk hEQ
        have NE := Aside0.mk hNE
        clear hEQ hNE hx
        generalize a[k].1 = x1 at *
        generalize a[k].2 = x2 at *
        generalize b[k].1 = y1 at *
        generalize b[k].2 = y2 at *
        by_cases h1 : x1 = y1
        · by_cases h2 : x2 = y2
          · have HN := Aside0.mk (EQ.out ⟨h1, h2⟩)
            subst h1; subst h2
            go_wp2_with fail
            go_quiet (fail)
            go_wp2
            go_roundw
            case rel => exact ⟨k + 1, by go_num, by omega, ⟨by rw [H.out.1, HN.out], H.out.2.stepN _⟩⟩
            case measure => simp [intOf]; omega
          · have HN := Aside0.mk (NE.out (fun h => h2 h.2))
            subst h1
            go_wp2_with fail
            go_quiet (fail)
            go_wp2
            go_ret
            exact ⟨ret_bool (by rw [decide_eq_false HN.out]), H.out.2.stepN _⟩
        · have HN := Aside0.mk (NE.out (fun h => h1 h.1))
          go_wp2_with fail
          go_quiet (fail)
          go_wp2
          go_ret
          exact ⟨ret_bool (by rw [decide_eq_false HN.out]), H.out.2.stepN _⟩
      · obtain rfl : k = na := by omega
        go_wp2
        go_ret
        refine ⟨ret_bool ?_, H.out.2⟩
        have : a = b := by rw [H.out.1, List.drop_eq_nil_iff.2 (by have := NA.out; omega), List.drop_eq_nil_iff.2 (by have := NA.out; omega)]
        rw [decide_eq_true this]
  · have HL := Aside0.mk (show ¬ a = b from fun e => hl (by rw [e]))
    have hlz : (a.length : Int) ≠ (b.length : Int) := by omega
    generalize a.length = na at *
    generalize b.length = nb at *
    go_enter Try.func14, Try.ntmps14
    go_wp2
    go_ret
    exact ⟨ret_bool (by rw [decide_eq_false HL.out]), Drew.refl _⟩
set_option maxHeartbeats 1000000 in
theorem do_any (w : World) (oka okb ok1 ok2 : Nat → Prop) (m : Int) (ga gb na nb : Nat) (LA LB : List Row) (pa pb : Row) (va vb : Value) (hA : SegAt w oka (.pointer (some ⟨ga, 0, none⟩)) na LA) (hB : SegAt w okb (.pointer (some ⟨gb, 0, none⟩)) nb LB)
    (ha : RowAt w ok1 va pa) (hb : RowAt w ok2 vb pb) (hla : pa.length < 1000000) (hlb : pb.length < 1000000) (h1 : LA.length < 80) (h2 : LB.length < 80) :
    Calls Try.prog 15 #[.int .i64 m, .pointer (some ⟨ga, 0, none⟩), .pointer (some ⟨gb, 0, none⟩), va, vb] w fun e w' => ∃ v, e = .returned v ∧ PairsAt w' (w.heap.size ≤ ·) v (prs (LA.map fun r => keyOf r pa) (LB.map fun r => keyOf r pb) LA.length) ∧ Below w.heap.size w w' := by
  have C1 := Aside0.mk (mergeP_any w _ _ _ _ ga gb na nb LA LB pa pb va vb hA hB ha hb hla hlb h1 h2)
  have C2 := Aside0.mk (hashP_any w _ _ _ _ ga gb na nb LA LB pa pb va vb hA hB ha hb hla hlb (by omega) (by omega))
  obtain ⟨PP, hPP⟩ : ∃ PP, prs (LA.map fun r => keyOf r pa) (LB.map fun r => keyOf r pb) LA.length = PP := ⟨_, rfl⟩
  rw [hPP] at C1 C2
  rw [hPP]
  clear hA hB ha hb hla hlb h1 h2 hPP
  by_cases hm : m = 1
  · subst hm
    go_enter Try.func15, Try.ntmps15
    go_wp2_with fail
    refine C1.out.mono ?_
    rintro e w1 ⟨v, rfl, h1, h2⟩
    have h1 := Aside0.mk h1
    have h2 := Aside0.mk h2
    clear C1 C2
    go_wp2
    go_ret
    exact ⟨_, rfl, h1.out, h2.out⟩
  · go_enter Try.func15, Try.ntmps15
    go_wp2_with fail
    refine C2.out.mono ?_
    rintro e w1 ⟨v, rfl, h1, h2⟩
    have h1 := Aside0.mk h1
    have h2 := Aside0.mk h2
    clear C1 C2
    go_wp2
    go_ret
    exact ⟨_, rfl, h1.out, h2.out⟩
end Go.Proofs.Ytmgoefhihljggaa.Sg
