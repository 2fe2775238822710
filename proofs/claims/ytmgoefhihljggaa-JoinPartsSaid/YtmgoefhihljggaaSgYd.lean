/- Contract: ergolaw08.pairs: the pairs by the page. -/
import Derived.Test.YtmgoefhihljggaaSgYb
import Derived.Test.YtmgoefhihljggaaSgJ
namespace Go.Proofs.Ytmgoefhihljggaa.Sg
open Go.RowKit Go.Shelf
set_option linter.unusedVariables false
set_option linter.unusedSimpArgs false

theorem owns_empty2 (w : World) (B e : Nat) (h : B ≤ w.heap.size) : (w.alloc (.cells #[] e)).ownsRow B e 2 (.slice (some ⟨w.heap.size, 0, none⟩) 0 0) 0 [] :=
  ⟨rfl, .inr ⟨w.heap.size, 0, #[], rfl, h, heap_alloc_new w _, Nat.le_refl _, by unfold maxLen; omega, rfl, rfl⟩⟩
set_option maxHeartbeats 4000000 in
set_option maxRecDepth 100000 in
theorem pairs8_any (w : World) (oka okb ok1 ok2 : Nat → Prop) (ga gb na nb : Nat) (LA LB : List Row) (pa pb : Row) (va vb : Value) (hA : SegAt w oka (.pointer (some ⟨ga, 0, none⟩)) na LA) (hB : SegAt w okb (.pointer (some ⟨gb, 0, none⟩)) nb LB)
    (ha : RowAt w ok1 va pa) (hb : RowAt w ok2 vb pb) (hla : pa.length < 1000000) (hlb : pb.length < 1000000) (h1 : LA.length ≤ 1000) (h2 : LB.length ≤ 1000) :
    Calls Try.prog 13 #[.pointer (some ⟨ga, 0, none⟩), .pointer (some ⟨gb, 0, none⟩), va, vb] w fun e w' => ∃ v, e = .returned v ∧ PairsAt w' (w.heap.size ≤ ·) v (prs (LA.map fun r => keyOf r pa) (LB.map fun r => keyOf r pb) LA.length) ∧ Below w.heap.size w w' := by
  obtain ⟨Aa, ca, hva, _⟩ := ha.form
  subst hva
  obtain ⟨Ab, cb, hvb, _⟩ := hb.form
  subst hvb
  obtain ⟨ip, hip, hp0, hp1, hp2⟩ := info_parts info_pair
  have HA := Aside0.mk hA
  have HB0 := Aside0.mk hB
  have HP := Aside0.mk ha
  have HQ := Aside0.mk hb
  obtain ⟨KA, hKA⟩ : ∃ KA, (LA.map fun r => keyOf r pa) = KA := ⟨_, rfl⟩
  obtain ⟨KB, hKB⟩ : ∃ KB, (LB.map fun r => keyOf r pb) = KB := ⟨_, rfl⟩
  rw [hKA, hKB]
  have hkl : KB.length = LB.length := by rw [← hKB]; simp
  have HKL := Aside0.mk (show KB.length ≤ 1000 by omega)
  have HKE := Aside0.mk hkl
  have HKA := Aside0.mk hKA
  have HKB := Aside0.mk hKB
  clear hA hB ha hb hKA hKB hkl
  go_enter Try.func13, Try.ntmps13
  go_wp2_with fail
  go_loopw [9, 10] (fun s9 s10 wr => ∃ i : Nat, s10 = .int .i64 i ∧ i ≤ LA.length ∧ Aside0 (wr.ownsRow w.heap.size 39 2 s9 (prs KA KB i).length (cellsP (prs KA KB i))) ∧ Aside0 (Below w.heap.size w wr)) (fun _ s10 _ => LA.length - (intOf s10).toNat)
  case atStart => exact ⟨0, rfl, Nat.zero_le _, ⟨owns_empty2 w _ _ (Nat.le_refl _)⟩, ⟨below_alloc0 (Below.refl _ _) _⟩⟩
  case round =>
    obtain ⟨i, rfl, hi, HO, HB⟩ := hrel
    have LN := Aside0.mk (len_any wr _ _ _ _ (HA.out.below HB.out))
    by_cases hlt : i < LA.length
    · have hki : keyOf LA[i] pa = KA.getD i [] := by have := HKA.out; subst this; simp [hlt]
      have RWA := Aside0.mk (fun w2 (hb : Below w.heap.size w w2) => row_any w2 _ _ na LA LA[i] i (HA.out.below hb) (List.getElem?_eq_getElem hlt))
      have KXA := Aside0.mk (fun w2 rv okk (hb : Below w.heap.size w w2) (hr : RowAt w2 okk rv LA[i]) => key7_any w2 _ _ rv _ LA[i] pa hr (HP.out.below reads_int hb) hla)
      rw [hki] at KXA
      have PS := Aside0.mk (prs_succ KA KB i)
      have PL := Aside0.mk (prs_few (KA := KA) (KB := KB) (i := i) (by omega) HKL.out)
      obtain ⟨PR, hPR⟩ : ∃ PR, prs KA KB i = PR := ⟨_, rfl⟩
      rw [hPR] at PS PL HO
      generalize KA.getD i [] = K at *
      generalize LA[i] = ra at *
      clear hki hPR
      go_wp2_with fail
      refine (LN.out).mono ?_
      rintro e w' ⟨rfl, rfl⟩
      clear LN
      go_wp2_with fail
      go_loopw [9, 11] (fun s9 s11 wr => ∃ j : Nat, s11 = .int .i64 j ∧ j ≤ LB.length ∧ Aside0 (wr.ownsRow w.heap.size 39 2 s9 (PR ++ pairsU KB K i j).length (cellsP (PR ++ pairsU KB K i j))) ∧ Aside0 (Below w.heap.size w wr)) (fun _ s11 _ => LB.length - (intOf s11).toNat)
      case atStart => exact ⟨0, rfl, Nat.zero_le _, ⟨by rw [show pairsU KB K i 0 = [] from rfl, List.append_nil]; exact HO.out⟩, HB⟩
      case round =>
        obtain ⟨j, rfl, hj, HOj, HBj⟩ := hrel
        have LN := Aside0.mk (len_any wr _ _ _ _ (HB0.out.below HBj.out))
        by_cases hjl : j < LB.length
        · have hjk : j < KB.length := by rw [HKE.out]; exact hjl
          have hkj : keyOf LB[j] pb = KB[j] := by have := HKB.out; subst this; simp
          have RWB := Aside0.mk (fun w2 (hb : Below w.heap.size w w2) => row_any w2 _ _ nb LB LB[j] j (HB0.out.below hb) (List.getElem?_eq_getElem hjl))
          have KXB := Aside0.mk (fun w2 rv okk (hb : Below w.heap.size w w2) (hr : RowAt w2 okk rv LB[j]) => key7_any w2 _ _ rv _ LB[j] pb hr (HQ.out.below reads_int hb) hlb)
          rw [hkj] at KXB
          have PY := Aside0.mk (fun e : K = KB[j] => pairsU_yes (i := i) hjk e)
          have PN := Aside0.mk (fun e : K ≠ KB[j] => pairsU_no (i := i) hjk e)
          have hz := cmp5_zero K KB[j]
          have CM := Aside0.mk (fun w2 kv kv2 okk okk2 (hr : RowAt w2 okk kv K) (hr2 : RowAt w2 okk2 kv2 KB[j]) => compare5_any w2 _ _ kv kv2 K KB[j] hr hr2)
          obtain ⟨cc, hcc⟩ : ∃ cc, cmp5 K KB[j] = cc := ⟨_, rfl⟩
          rw [hcc] at hz CM
          have HZ := Aside0.mk hz
          have hpu := pairsU_le KB K i j
          have HPU := Aside0.mk hpu
          generalize KB[j] = KJ at *
          generalize LB[j] = rb at *
          clear hz hcc hkj hjk hpu
          go_wp2_with fail
          refine (LN.out).mono ?_
          rintro e w' ⟨rfl, rfl⟩
          clear LN
          go_wp2_with fail
          refine (RWA.out wr HBj.out).mono ?_
          rintro e w4 ⟨rv4, rfl, HR4, B4⟩
          have HB4 := Aside0.mk (below_trans0 HBj.out B4)
          go_wp2_with fail
          refine (KXA.out w4 rv4 _ HB4.out HR4).mono ?_
          rintro e w5 ⟨kv5, rfl, HK5, B5⟩
          have HB5 := Aside0.mk (below_trans0 HB4.out B5)
          have B5 := below_trans0 B4 B5
          clear HR4
          go_wp2_with fail
          refine (RWB.out w5 HB5.out).mono ?_
          rintro e w6 ⟨rv6, rfl, HR6, B6⟩
          have HB6 := Aside0.mk (below_trans0 HB5.out B6)
          have HK6 := HK5.below reads_int B6
          have B6 := below_trans0 B5 B6
          clear HK5
          go_wp2_with fail
          refine (KXB.out w6 rv6 _ HB6.out HR6).mono ?_
          rintro e w7 ⟨kv7, rfl, HK7, B7⟩
          have HB7 := Aside0.mk (below_trans0 HB6.out B7)
          have HK8 := HK6.below reads_int B7
          have B7 := below_trans0 B6 B7
          clear HK6 HR6
          go_wp2_with fail
          refine (CM.out w7 kv5 kv7 _ _ HK8 HK7).mono ?_
          rintro e w8 ⟨rfl, hdw⟩
          have hb8 := below_trans0 B7 hdw.below
          have HB8 := Aside0.mk (below_trans0 HBj.out hb8)
          have HO8 := Aside0.mk ((Stays.of_below hb8 (fun _ => True)).owns HOj.out (fun _ _ => trivial))
          have hs8 := HB8.out.size
          clear hb8 hdw B7 B6 B5 B4 HB4 HB5 HB6 HB7 HK7 HK8 CM KXA KXB RWA RWB HOj HBj
          by_cases h0 : cc = 0
          · have e1 : K = KJ := HZ.out.1 h0
            subst h0
            have PY := Aside0.mk (PY.out e1)
            clear PN HZ e1
            obtain ⟨Q, hQ⟩ : ∃ Q, PR ++ pairsU KB K i j = Q := ⟨_, rfl⟩
            have hQl : Q.length ≤ 1001000 := by rw [← hQ, List.length_append]; have := PL.out; have := HPU.out; have := HKL.out; omega
            have PJ := Aside0.mk (show PR ++ pairsU KB K i (j + 1) = Q ++ [((i : Int), (j : Int))] by rw [PY.out, ← List.append_assoc, hQ])
            rw [hQ] at HO8
            have h63 := Aside0.mk (show Q.length + 1 ≤ maxLen by unfold maxLen; omega)
            have hby := Aside0.mk (show (Q.length + 1) * 16 ≤ 140737488355328 by omega)
            have hsz := Aside0.mk (fun o => (show w.heap.size ≤ (w8.alloc o).heap.size by simp; omega))
            clear hQ hQl
            go_wp2_with (at_builtin; refine wpList_append_own_at _ rfl (.tmp 37) (.tmp 41) 27 rfl w.heap.size 39 ip (.agg #[.int .i64 0, .int .i64 0]) 2 16 Try.underlying27 hip hp0 hp1 hp2 rfl (by decide) _ _ _ rfl ((Stays.alloc (fun _ => True) _ _).owns HO8.out (fun _ _ => trivial)) ⟨w8.heap.size, 0, none⟩ 1 1 [Value.int .i64 (i : Int), Value.int .i64 (j : Int)] rfl rfl (news2q _ _ _ _) (by simp [Value.oneCell']) h63.out hby.out (hsz.out _) ?_; intro v1 w10 ho hg _ hb; have O1 := Aside0.mk ho; have G1 := Aside0.mk hg; clear ho hg hb)
            go_roundw
            case rel =>
              refine ⟨j + 1, by go_num, by omega, ⟨?_⟩, ⟨(below_alloc HB8.out hs8 _).grown G1.out (by simp; omega) (fun k hk => (HO8.out.lt k hk).1)⟩⟩
              rw [PJ.out, cellsP_append, List.length_append]; exact O1.out
            case measure => simp [intOf]; omega
          · have e1 : K ≠ KJ := fun e => h0 (HZ.out.2 e)
            have PN := Aside0.mk (PN.out e1)
            have d0 : (cc == 0) = false := by rw [beq_eq_false_iff_ne]; exact h0
            clear PY HZ e1
            go_wp2
            go_roundw
            case rel => exact ⟨j + 1, by go_num, by omega, ⟨by rw [PN.out]; exact HO8.out⟩, HB8⟩
            case measure => simp [intOf]; omega
        · have hjk : j = KB.length := by rw [HKE.out]; omega
          obtain rfl : j = LB.length := by omega
          have PX := Aside0.mk (show prs KA KB (i + 1) = PR ++ pairsU KB K i LB.length by rw [PS.out, hjk, pairsU_all])
          clear PS hjk
          go_wp2_with fail
          refine (LN.out).mono ?_
          rintro e w' ⟨rfl, rfl⟩
          go_wp2
          go_roundw
          case rel => exact ⟨i + 1, by go_num, by omega, ⟨by rw [PX.out]; exact HOj.out⟩, HBj⟩
          case measure => simp [intOf]; omega
    · obtain rfl : i = LA.length := by omega
      have hpf := prs_few (KA := KA) (KB := KB) (i := LA.length) h1 HKL.out
      have R := Aside0.mk (PairsAt.of_own HO.out rfl rfl (by omega) (prs_in64 h1 HKL.out))
      clear hpf
      go_wp2_with fail
      refine (LN.out).mono ?_
      rintro e w' ⟨rfl, rfl⟩
      go_wp2
      go_ret
      exact ⟨_, rfl, R.out, HB.out⟩
end Go.Proofs.Ytmgoefhihljggaa.Sg
