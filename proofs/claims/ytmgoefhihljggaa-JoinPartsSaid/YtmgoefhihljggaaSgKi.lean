/- JoinParts: with rows parted into two sets the pairs of both are those of all. The walk. -/
import Derived.Test.YtmgoefhihljggaaSgKh
import Derived.Test.YtmgoefhihljggaaSgYd
import Derived.Test.YtmgoefhihljggaaSgKg
import Derived.Test.YtmgoefhihljggaaSgYf
import Derived.Test.YtmgoefhihljggaaSgYi
namespace Go.Proofs.Ytmgoefhihljggaa.Sg
open Go.RowKit Go.Shelf
set_option linter.unusedVariables false
set_option linter.unusedSimpArgs false

theorem part_low {LB : List Row} {c0 i : Nat} (h : i < LB.length) (hc : i < c0) : LB.take (min (i + 1) c0) = LB.take (min i c0) ++ [LB[i]] ∧ (LB.take (i + 1)).drop c0 = (LB.take i).drop c0 := by
  rw [Nat.min_eq_left (show i + 1 ≤ c0 by omega), Nat.min_eq_left (show i ≤ c0 by omega), List.take_succ_eq_append_getElem h]
  refine ⟨rfl, ?_⟩
  rw [← List.take_succ_eq_append_getElem h, List.drop_eq_nil_iff.2 (by rw [List.length_take]; omega), List.drop_eq_nil_iff.2 (by rw [List.length_take]; omega)]
theorem part_high {LB : List Row} {c0 i : Nat} (h : i < LB.length) (hc : c0 ≤ i) : LB.take (min (i + 1) c0) = LB.take (min i c0) ∧ (LB.take (i + 1)).drop c0 = (LB.take i).drop c0 ++ [LB[i]] := by
  rw [Nat.min_eq_right (show c0 ≤ i + 1 by omega), Nat.min_eq_right hc, List.take_succ_eq_append_getElem h]
  refine ⟨rfl, ?_⟩
  rw [List.drop_append_of_le_length (by rw [List.length_take]; omega)]
set_option maxHeartbeats 4000000 in
set_option maxRecDepth 100000 in
theorem JoinParts_walk (sv : Value) (s : SidesD) (x : Int) (w : World) (hs : SidesAt w (fun _ => True) sv s) (hx : In64 x) :
    Calls Try.prog 6 #[sv, .int .i64 x] w fun e w' => e = .returned (.bool true) ∧ Below w.heap.size w w' := by
  obtain ⟨c0, hc0, ec⟩ := and_mask x 15 (by omega)
  simp only [Int.cast_ofNat_Int] at ec
  obtain ⟨ir, hir, hr0, hr1, hr2⟩ := info_parts info_row
  have HS := Aside0.mk hs
  obtain ⟨vA, vB, vKA, vKB, hv, h1, h2, hA, hB, hKA, hKB⟩ := hs
  obtain ⟨AA, cA, rfl, _⟩ := hKA.form
  obtain ⟨AB, cB, rfl, _⟩ := hKB.form
  obtain ⟨A1, c1, rfl, _⟩ := hA.form
  obtain ⟨A2, c2, rfl, _⟩ := hB.form
  subst hv
  have HKA := Aside0.mk hKA
  have HKB := Aside0.mk hKB
  obtain ⟨wid, hwid⟩ : ∃ x, s.wid = x := ⟨_, rfl⟩
  obtain ⟨wide, hwide⟩ : ∃ x, s.wide = x := ⟨_, rfl⟩
  rw [hwid, hwide] at HS ⊢
  obtain ⟨W0, hW0⟩ : ∃ W0, w.alloc (.cells #[.int .i64 wid, .int .i64 wide, .slice A1 s.A.length c1, .slice A2 s.B.length c2, .slice AA s.KA.length cA, .slice AB s.KB.length cB] 32) = W0 := ⟨_, rfl⟩
  have B0 := Aside0.mk (show Below w.heap.size w W0 by rw [← hW0]; exact below_alloc0 (Below.refl _ _) _)
  have BX := Aside0.mk (show Box6 W0 w.heap.size _ _ _ _ _ _ by rw [← hW0]; exact Box6.new _ _ _ _ _ _ _ _)
  have HZ0 := Aside0.mk (show W0.heap.size = w.heap.size + 1 by rw [← hW0]; simp)
  have HW0 := Aside0.mk hW0
  have HH := Aside0.mk (head8_any W0)
  clear hA hB hKA hKB hW0 h1 h2 hwid hwide
  go_enter Try.func6, Try.ntmps6
  go_wp2_with fail
  rw [HW0.out]
  refine (HH.out).mono ?_
  rintro e w1 ⟨rfl, B1⟩
  obtain ⟨k0, k1, k2, k3, k4, k5⟩ := BX.out.below B1
  have B01 := Aside0.mk (below_trans0 B0.out B1)
  have BX1 := Aside0.mk (BX.out.below B1)
  have SF := Aside0.mk (fewS_any w1 _ _ s (HS.out.below B01.out))
  have hz1 := B1.size
  clear HH BX B0 B1
  cases hf : fewS s with
  | false =>
    rw [hf] at SF
    go_wp2_with fail
    refine (SF.out).mono ?_
    rintro e w2 ⟨rfl, B2⟩
    have BZ := Aside0.mk (below_trans0 B01.out B2)
    go_wp2
    go_ret
    exact ⟨rfl, BZ.out⟩
  | true =>
  rw [hf] at SF
  have hks : s.KA.length ≤ 5 ∧ s.KB.length ≤ 5 := by unfold fewS at hf; simp at hf; exact ⟨hf.2.2.1, hf.2.2.2⟩
  have hfa : few s.A = true ∧ few s.B = true := by unfold fewS at hf; simp at hf; exact ⟨hf.1, hf.2.1⟩
  have hla := (few_yes hfa.1).1
  have hlb := (few_yes hfa.2).1
  go_wp2_with fail
  refine (SF.out).mono ?_
  rintro e w2 ⟨rfl, B2⟩
  have hz2 := B2.size
  have B02 := Aside0.mk (below_trans0 B01.out B2)
  have MK := Aside0.mk (makeW_any w2 _ _ s (HS.out.below B02.out) hf)
  have BX2 := Aside0.mk (BX1.out.below B2)
  clear SF k0 k1 k2 k3 k4 k5 B2 B01 BX1 hfa hf
  obtain ⟨k0, k1, k2, k3, k4, k5⟩ := BX2.out
  go_wp2_with fail
  refine (MK.out).mono ?_
  rintro e w3 ⟨ga, gb, na, nb, rfl, SA, SB, B3, hna, hnb⟩
  have hnl := norm_length na s.A
  have hnl2 := norm_length nb s.B
  have hz3 := B3.size
  have B03 := Aside0.mk (below_trans0 B02.out B3)
  clear k0 k1 k2 k3 k4 k5
  obtain ⟨k0, k1, k2, k3, k4, k5⟩ := BX2.out.below B3
  have BX3 := Aside0.mk (BX2.out.below B3)
  clear B3 BX2 MK
  obtain ⟨LA, hLA⟩ : ∃ LA, norm na s.A = LA := ⟨_, rfl⟩
  obtain ⟨LB, hLB⟩ : ∃ LB, norm nb s.B = LB := ⟨_, rfl⟩
  rw [hLA] at SA hnl
  rw [hLB] at SB hnl2
  have hgl : w.heap.size < w3.heap.size := by have := HZ0.out; omega
  have HA3 := Aside0.mk (HKA.out.below reads_int B03.out)
  have HB3 := Aside0.mk (HKB.out.below reads_int B03.out)
  have SA := Aside0.mk SA
  have SB := Aside0.mk SB
  have hLAl : LA.length ≤ 60 := by omega
  have hLBl : LB.length ≤ 60 := by omega
  have hwn : ∀ r ∈ LB, r.length = nb := fun r hr => by rw [← hLB, mem_norm] at hr; exact hr.2
  have hss : SS LB := by rw [← hLB]; exact SS_norm _ _
  have NT := Aside0.mk (fun c => (norm_sub hss hwn (List.take_sublist c LB)))
  have ND := Aside0.mk (fun c => (norm_sub hss hwn (List.drop_sublist c LB)))
  have WB := Aside0.mk (fun W (hb : Below w3.heap.size w3 W) => width_any W _ _ _ _ (SB.out.below hb))
  have LNB := Aside0.mk (fun W (hb : Below w3.heap.size w3 W) => len_any W _ _ _ _ (SB.out.below hb))
  have MP := Aside0.mk (fun W (hb : Below w3.heap.size w3 W) => mergeP_any W _ _ _ _ ga gb na nb LA LB s.KA s.KB _ _ (SA.out.below hb) (SB.out.below hb) (HA3.out.below reads_int hb) (HB3.out.below reads_int hb) (by omega) (by omega) (by omega) (by omega))
  have HX := Aside0.mk (fun W okx gx (c : Nat) (hb : Below w3.heap.size w3 W) (hx : SegAt W okx (.pointer (some ⟨gx, 0, none⟩)) nb (LB.take c)) => hashP_any W _ _ _ _ ga gx na nb LA (LB.take c) s.KA s.KB _ _ (SA.out.below hb) hx (HA3.out.below reads_int hb) (HB3.out.below reads_int hb) (by omega) (by omega) (by omega) (by rw [List.length_take]; omega))
  have MY := Aside0.mk (fun W okx gx (c : Nat) (hb : Below w3.heap.size w3 W) (hx : SegAt W okx (.pointer (some ⟨gx, 0, none⟩)) nb (LB.drop c)) => mergeP_any W _ _ _ _ ga gx na nb LA (LB.drop c) s.KA s.KB _ _ (SA.out.below hb) hx (HA3.out.below reads_int hb) (HB3.out.below reads_int hb) (by omega) (by omega) (by omega) (by rw [List.length_drop]; omega))
  clear hLA hLB hwn hss HKA HKB HS hks
  go_wp2_with fail
  have E1 := Aside0.mk (show BuiltBy RowAt ((w3.alloc (.cells #[] 24)).alloc (.cells #[] 24)) w3.heap.size 24 (fun k => k ≠ w3.heap.size ∧ k ≠ w3.heap.size + 1) (.slice (some ⟨w3.heap.size, 0, none⟩) 0 0) (LB.take (min 0 c0)) [] from (by
    rw [Nat.zero_min, List.take_zero]
    exact (BuiltBy.empty RowAt w3 w3.heap.size 24 (fun k => k ≠ w3.heap.size ∧ k ≠ w3.heap.size + 1) (Nat.le_refl _)).stays reads_row (Stays.alloc (fun _ => True) _ (.cells #[] 24)) (fun _ _ _ => trivial) (fun _ _ => trivial)))
  have E2 := Aside0.mk (show BuiltBy RowAt ((w3.alloc (.cells #[] 24)).alloc (.cells #[] 24)) w3.heap.size 24 (fun k => k ≠ w3.heap.size + 1 ∧ k ≠ w3.heap.size) (.slice (some ⟨w3.heap.size + 1, 0, none⟩) 0 0) ((LB.take 0).drop c0) [] from (by
    rw [List.take_zero, List.drop_nil]
    have := BuiltBy.empty RowAt (w3.alloc (.cells #[] 24)) w3.heap.size 24 (fun k => k ≠ w3.heap.size + 1 ∧ k ≠ w3.heap.size) (by simp)
    rw [World.size_alloc] at this
    exact this))
  have EB := Aside0.mk (below_alloc0 (below_alloc0 (Below.refl w3.heap.size w3) (.cells #[] 24)) (.cells #[] 24))
  have EN := Aside0.mk (show w3.heap.size < ((w3.alloc (.cells #[] 24)).alloc (.cells #[] 24)).heap.size ∧ w3.heap.size + 1 < ((w3.alloc (.cells #[] 24)).alloc (.cells #[] 24)).heap.size by simp; omega)
  go_loopw [7, 8, 9] (fun s7 s8 s9 wr => ∃ (i b1 cap1 : Nat) (cs1 : List Value) (n1 b2 cap2 : Nat) (cs2 : List Value) (n2 : Nat), s9 = .int .i64 i ∧ s7 = .slice (some ⟨b1, 0, none⟩) n1 cap1 ∧ s8 = .slice (some ⟨b2, 0, none⟩) n2 cap2 ∧ i ≤ LB.length ∧ Aside0 (BuiltBy RowAt wr w3.heap.size 24 (fun k => k ≠ b1 ∧ k ≠ b2) (.slice (some ⟨b1, 0, none⟩) n1 cap1) (LB.take (min i c0)) cs1) ∧ Aside0 (BuiltBy RowAt wr w3.heap.size 24 (fun k => k ≠ b2 ∧ k ≠ b1) (.slice (some ⟨b2, 0, none⟩) n2 cap2) ((LB.take i).drop c0) cs2) ∧ Aside0 ((n1 = min i c0 ∧ n2 = i - c0) ∧ b1 ≠ b2 ∧ b1 < wr.heap.size ∧ b2 < wr.heap.size) ∧ Aside0 (Below w3.heap.size w3 wr)) (fun _ _ s9 _ => LB.length - (intOf s9).toNat)
  case atStart => exact ⟨0, w3.heap.size, 0, [], 0, w3.heap.size + 1, 0, [], 0, rfl, rfl, rfl, Nat.zero_le _, E1, E2, ⟨by omega, by omega, EN.out⟩, EB⟩
  case round =>
    clear E1 E2 EB EN
    obtain ⟨i, b1, cap1, cs1, n1, b2, cap2, cs2, n2, rfl, rfl, rfl, hi, HU, HV, HN, HB⟩ := hrel
    have hLN := Aside0.mk (LNB.out wr HB.out)
    by_cases hlt : i < LB.length
    · have hcu := HU.out.caps
      have hcv := HV.out.caps
      have hiz : (i : Int) < (LB.length : Int) := by omega
      by_cases hic : i < c0
      · have hicz : (i : Int) < (c0 : Int) := by omega
        go_wp2_with fail
        refine hLN.out.mono ?_
        rintro e w' ⟨rfl, rfl⟩
        clear hLN
        have hzlt := HN.out.2.2
        have RW := Aside0.mk (row_any wr _ _ nb LB LB[i] i (SB.out.below HB.out) (List.getElem?_eq_getElem hlt))
        have PT := Aside0.mk (part_low (c0 := c0) hlt hic)
        generalize LB[i] = ri at *
        go_wp2_with fail
        refine RW.out.mono ?_
        rintro e w4 ⟨rv, rfl, HR4, B4⟩
        obtain ⟨Ar, cr, hrf, -⟩ := HR4.form
        have hB4 := Aside0.mk (below_trans0 HB.out B4)
        have h04 := B4.size
        have hb4 := hB4.out.size
        have HU4 := Aside0.mk (HU.out.stays reads_row (Stays.of_below B4 (fun _ => True)) (fun _ _ _ => trivial) (fun _ _ => trivial))
        have HV4 := Aside0.mk (HV.out.stays reads_row (Stays.of_below B4 (fun _ => True)) (fun _ _ _ => trivial) (fun _ _ => trivial))
        have R1 := Aside0.mk (reads_row.mono (ok2 := fun k => k ≠ b1 ∧ k ≠ b2) HR4 (fun k hk _ => ⟨by omega, by omega⟩))
        have hz4 := Aside0.mk (show b1 < w4.heap.size ∧ b2 < w4.heap.size by omega)
        subst hrf
        have h63 := Aside0.mk (show n1 + 1 ≤ maxLen by unfold maxLen; have := HN.out.1; omega)
        have hby := Aside0.mk (show (n1 + 1) * 24 ≤ 140737488355328 by have := HN.out.1; omega)
        have hsz := Aside0.mk (fun o => (show w3.heap.size ≤ (w4.alloc o).heap.size by simp; omega))
        have ML := Aside0.mk (show (LB.take (min i c0)).length = n1 by have := HN.out.1; rw [List.length_take]; omega)
        clear RW HR4 B4
        generalize ri.length = rl at *
        go_wp2_with (at_builtin; refine wpList_append_own_at _ rfl (.tmp 41) (.tmp 45) 23 rfl w3.heap.size 24 ir (.slice none 0 0) 1 24 Try.underlying23 hir hr0 hr1 hr2 rfl (by decide) _ n1 cs1 rfl (by have := HU4.out.own.alloc (.cells #[.slice Ar rl cr] 24); rw [ML.out] at this; exact this) ⟨w4.heap.size, 0, none⟩ 1 1 [Value.slice Ar rl cr] rfl rfl (cell_one_new _ _ _) (by simp [Value.oneCell']) h63.out hby.out (hsz.out _) ?_; intro v1 w10 ho hg _ hb; obtain ⟨b3, cap3, rfl⟩ := own_some ho; have O1 := Aside0.mk ho; have G1 := Aside0.mk hg; have HBB := Aside0.mk hb; clear ho hg hb)
        go_roundw
        case rel =>
          have hb1 : b3 = b1 ∨ b3 = w4.heap.size + 1 := by
            rcases HBB.out with hb | hb
            · exact .inl (Option.some.inj hb)
            · exact .inr (by have := Option.some.inj hb; simpa using this)
          have O2 := O1.out
          rw [← ML.out] at O2
          have P1 := BuiltBy.pushZ HU4.out R1.out O2 G1.out HBB.out (by have := hz4.out; omega)
          rw [ML.out] at P1
          have P2 := BuiltBy.otherZ HV4.out G1.out hb1 (by have := HN.out.2.1; omega) (by have := hz4.out; omega)
          have hg := G1.out.size
          have hl3 := (O1.out.lt b3 rfl).2
          have h9 := hz4.out
          have h8 := HN.out
          simp only [World.size_alloc] at hg
          refine ⟨i + 1, b3, cap3, cs1 ++ [.slice Ar rl cr], n1 + 1, b2, cap2, cs2, n2, by go_num, rfl, rfl, by omega, ⟨?_⟩, ⟨?_⟩, ⟨by omega, by omega, by omega, by omega⟩, ⟨?_⟩⟩
          · rw [PT.out.1]; exact P1
          · rw [PT.out.2]; exact P2
          · exact (below_alloc hB4.out hb4 _).grown G1.out (by simp; omega) (own_below HU4.out.own)
        case measure => simp [intOf]; omega

      · have hicz : ¬ (i : Int) < (c0 : Int) := by omega
        go_wp2_with fail
        refine hLN.out.mono ?_
        rintro e w' ⟨rfl, rfl⟩
        clear hLN
        have hzlt := HN.out.2.2
        have RW := Aside0.mk (row_any wr _ _ nb LB LB[i] i (SB.out.below HB.out) (List.getElem?_eq_getElem hlt))
        have PT := Aside0.mk (part_high (c0 := c0) hlt (by omega))
        generalize LB[i] = ri at *
        go_wp2_with fail
        refine RW.out.mono ?_
        rintro e w4 ⟨rv, rfl, HR4, B4⟩
        obtain ⟨Ar, cr, hrf, -⟩ := HR4.form
        have hB4 := Aside0.mk (below_trans0 HB.out B4)
        have h04 := B4.size
        have hb4 := hB4.out.size
        have HV4 := Aside0.mk (HV.out.stays reads_row (Stays.of_below B4 (fun _ => True)) (fun _ _ _ => trivial) (fun _ _ => trivial))
        have HU4 := Aside0.mk (HU.out.stays reads_row (Stays.of_below B4 (fun _ => True)) (fun _ _ _ => trivial) (fun _ _ => trivial))
        have R1 := Aside0.mk (reads_row.mono (ok2 := fun k => k ≠ b2 ∧ k ≠ b1) HR4 (fun k hk _ => ⟨by omega, by omega⟩))
        have hz4 := Aside0.mk (show b1 < w4.heap.size ∧ b2 < w4.heap.size by omega)
        subst hrf
        have h63 := Aside0.mk (show n2 + 1 ≤ maxLen by unfold maxLen; have := HN.out.1; omega)
        have hby := Aside0.mk (show (n2 + 1) * 24 ≤ 140737488355328 by have := HN.out.1; omega)
        have hsz := Aside0.mk (fun o => (show w3.heap.size ≤ (w4.alloc o).heap.size by simp; omega))
        have ML := Aside0.mk (show ((LB.take i).drop c0).length = n2 by have := HN.out.1; rw [List.length_drop, List.length_take]; omega)
        clear RW HR4 B4
        generalize ri.length = rl at *
        go_wp2_with (at_builtin; refine wpList_append_own_at _ rfl (.tmp 47) (.tmp 51) 23 rfl w3.heap.size 24 ir (.slice none 0 0) 1 24 Try.underlying23 hir hr0 hr1 hr2 rfl (by decide) _ n2 cs2 rfl (by have := HV4.out.own.alloc (.cells #[.slice Ar rl cr] 24); rw [ML.out] at this; exact this) ⟨w4.heap.size, 0, none⟩ 1 1 [Value.slice Ar rl cr] rfl rfl (cell_one_new _ _ _) (by simp [Value.oneCell']) h63.out hby.out (hsz.out _) ?_; intro v1 w10 ho hg _ hb; obtain ⟨b3, cap3, rfl⟩ := own_some ho; have O1 := Aside0.mk ho; have G1 := Aside0.mk hg; have HBB := Aside0.mk hb; clear ho hg hb)
        go_roundw
        case rel =>
          have hb1 : b3 = b2 ∨ b3 = w4.heap.size + 1 := by
            rcases HBB.out with hb | hb
            · exact .inl (Option.some.inj hb)
            · exact .inr (by have := Option.some.inj hb; simpa using this)
          have O2 := O1.out
          rw [← ML.out] at O2
          have P1 := BuiltBy.pushZ HV4.out R1.out O2 G1.out HBB.out (by have := hz4.out; omega)
          rw [ML.out] at P1
          have P2 := BuiltBy.otherZ HU4.out G1.out hb1 (by have := HN.out.2.1; omega) (by have := hz4.out; omega)
          have hg := G1.out.size
          have hl3 := (O1.out.lt b3 rfl).2
          have h9 := hz4.out
          have h8 := HN.out
          simp only [World.size_alloc] at hg
          refine ⟨i + 1, b1, cap1, cs1, n1, b3, cap3, cs2 ++ [.slice Ar rl cr], n2 + 1, by go_num, rfl, rfl, by omega, ⟨?_⟩, ⟨?_⟩, ⟨by omega, by omega, by omega, by omega⟩, ⟨?_⟩⟩
          · rw [PT.out.1]; exact P2
          · rw [PT.out.2]; exact P1
          · exact (below_alloc hB4.out hb4 _).grown G1.out (by simp; omega) (own_below HV4.out.own)
        case measure => simp [intOf]; omega

    · obtain rfl : i = LB.length := by omega
      have iz : ¬ ((LB.length : Nat) : Int) < ((LB.length : Nat) : Int) := by omega
      have hn1 := HN.out.1.1
      have hn2 := HN.out.1.2
      have hT : LB.take (min LB.length c0) = LB.take n1 := by rw [hn1]
      have hD : (LB.take LB.length).drop c0 = LB.drop n1 := by
        rw [List.take_length, hn1]
        rcases Nat.le_total LB.length c0 with h | h
        · rw [Nat.min_eq_left h, List.drop_eq_nil_iff.2 h, List.drop_eq_nil_iff.2 (Nat.le_refl _)]
        · rw [Nat.min_eq_right h]
      rw [hT] at HU
      rw [hD] at HV
      have l1 : (LB.take n1).length = n1 := by rw [List.length_take]; omega
      have l2 : (LB.drop n1).length = n2 := by rw [List.length_drop]; omega
      have RX := Aside0.mk (show RowsAt wr (fun _ => True) (.slice (some ⟨b1, 0, none⟩) n1 cap1) (LB.take n1) from by
        have := SlAt.of_own0 HU.out.own rfl (ok := fun _ => True) (fun _ _ _ => trivial) (by rw [l1]; omega) (fun t ht u hu => reads_row.mono (HU.out.el t ht u hu) (fun _ _ _ => trivial))
        exact this)
      have RY := Aside0.mk (show RowsAt wr (fun _ => True) (.slice (some ⟨b2, 0, none⟩) n2 cap2) (LB.drop n1) from by
        have := SlAt.of_own0 HV.out.own rfl (ok := fun _ => True) (fun _ _ _ => trivial) (by rw [l2]; omega) (fun t ht u hu => reads_row.mono (HV.out.el t ht u hu) (fun _ _ _ => trivial))
        exact this)
      have MX := Aside0.mk (fun W (hb : Below wr.heap.size wr W) => by
        have := make_any W _ _ nb _ (RX.out.below reads_row hb) (by omega) (by rw [l1]; omega)
        rwa [NT.out] at this)
      have MZ := Aside0.mk (fun W (hb : Below wr.heap.size wr W) => by
        have := make_any W _ _ nb _ (RY.out.below reads_row hb) (by omega) (by rw [l2]; omega)
        rwa [ND.out] at this)
      have W1 := Aside0.mk (WB.out wr HB.out)
      have BR := HB
      have hn60 : n1 ≤ 60 := by omega
      have hM1 := Aside0.mk hn1
      clear HU HV RX RY HN hT hD l1 l2 HB hn1 hn2 hlt
      go_wp2_with fail
      refine hLN.out.mono ?_
      rintro e w' ⟨rfl, rfl⟩
      clear hLN
      go_wp2_with fail
      refine W1.out.mono ?_
      rintro e w' ⟨rfl, rfl⟩
      clear W1
      go_wp2_with fail
      refine (MX.out _ (Below.refl _ _)).mono ?_
      rintro e w5 ⟨vx, rfl, SX, B5⟩
      obtain ⟨gx, -, hvx, -⟩ := SX.ex
      subst hvx
      have SX := Aside0.mk SX
      have C5 := Aside0.mk B5
      have B5 := Aside0.mk (below_trans0 BR.out B5)
      have W2 := Aside0.mk (WB.out w5 B5.out)
      clear MX
      go_wp2_with fail
      refine W2.out.mono ?_
      rintro e w' ⟨rfl, rfl⟩
      clear W2
      go_wp2_with fail
      refine (MZ.out _ C5.out).mono ?_
      rintro e w6 ⟨vy, rfl, SY, B6⟩
      obtain ⟨gy, -, hvy, -⟩ := SY.ex
      subst hvy
      have SY := Aside0.mk SY
      have SX := Aside0.mk (SX.out.below B6)
      have B6 := Aside0.mk (below_trans0 B5.out B6)
      clear MZ B5 C5 WB k0 k1 k2 k3 k4 k5
      obtain ⟨k0, k1, k2, k3, k4, k5⟩ := BX3.out.below B6.out
      obtain ⟨KA, hKA⟩ : ∃ KA, (LA.map fun r => keyOf r s.KA) = KA := ⟨_, rfl⟩
      obtain ⟨KB, hKB⟩ : ∃ KB, (LB.map fun r => keyOf r s.KB) = KB := ⟨_, rfl⟩
      have hkb : KB.length = LB.length := by rw [← hKB]; simp
      have hkt : ((LB.take n1).map fun r => keyOf r s.KB) = KB.take n1 := by rw [← hKB, List.map_take]
      have hkd : ((LB.drop n1).map fun r => keyOf r s.KB) = KB.drop n1 := by rw [← hKB, List.map_drop]
      replace MP := Aside0.mk (fun W hb => MP.out W hb)
      have HX1 := Aside0.mk (fun W okx hb hx => HX.out W okx gx n1 hb hx)
      have MY1 := Aside0.mk (fun W okx hb hx => MY.out W okx gy n1 hb hx)
      rw [hKA, hKB] at MP
      rw [hKA, hkt] at HX1
      rw [hKA, hkd] at MY1
      have PM := Aside0.mk (prs_few (KA := KA) (KB := KB) (i := LA.length) (by omega) (by omega))
      have P6 := Aside0.mk (prs_in64 (KA := KA) (KB := KB) (i := LA.length) (by omega) (by omega))
      have LO := Aside0.mk (fun t h q => low_at (KA := KA) (KB := KB) (c := n1) (n := LA.length) (t := t) h q)
      have HI := Aside0.mk (fun t h q => high_at (KA := KA) (KB := KB) (c := n1) (n := LA.length) (t := t) h q)
      have CA := Aside0.mk (cnt_all KA KB n1 LA.length)
      generalize prs KA (KB.take n1) LA.length = P1 at *
      generalize prs KA (KB.drop n1) LA.length = P2 at *
      generalize prs KA KB LA.length = P at *
      clear HX MY hKA hKB hkb hkt hkd
      go_wp2_with fail
      refine (MP.out _ B6.out).mono ?_
      rintro e w7 ⟨v7, rfl, R7, q7⟩
      obtain ⟨A7, c7, hf7, -⟩ := R7.form
      subst hf7
      have B7 := Aside0.mk (below_trans0 B6.out q7)
      have SX := Aside0.mk (SX.out.below q7)
      have SY := Aside0.mk (SY.out.below q7)
      have R7 := Aside0.mk R7
      clear MP q7 k0 k1 k2 k3 k4 k5
      obtain ⟨k0, k1, k2, k3, k4, k5⟩ := BX3.out.below B7.out
      go_wp2_with fail
      refine (HX1.out _ _ B7.out SX.out).mono ?_
      rintro e w8 ⟨v8, rfl, R8, q8⟩
      obtain ⟨A8, c8, hf8, -⟩ := R8.form
      subst hf8
      have B8 := Aside0.mk (below_trans0 B7.out q8)
      have SY := Aside0.mk (SY.out.below q8)
      have R7 := Aside0.mk (reads_pairs.stays R7.out (Stays.of_below q8 _))
      have R8 := Aside0.mk R8
      clear HX1 q8 k0 k1 k2 k3 k4 k5
      obtain ⟨k0, k1, k2, k3, k4, k5⟩ := BX3.out.below B8.out
      go_wp2_with fail
      refine (MY1.out _ _ B8.out SY.out).mono ?_
      rintro e w9 ⟨v9, rfl, R9, q9⟩
      obtain ⟨A9, c9, hf9, -⟩ := R9.form
      subst hf9
      have B9 := Aside0.mk (below_trans0 B8.out q9)
      have R7 := Aside0.mk (reads_pairs.stays R7.out (Stays.of_below q9 _))
      have R8 := Aside0.mk (reads_pairs.stays R8.out (Stays.of_below q9 _))
      have R9 := Aside0.mk R9
      clear MY1 q9 k0 k1 k2 k3 k4 k5 BX3
      have hpm := PM.out
      go_wp2_with fail
      go_loopw [15, 16, 84] (fun s15 s16 s84 wr => ∃ t : Nat, s84 = .int .i64 t ∧ s15 = .int .i64 (cntL n1 P t : Nat) ∧ s16 = .int .i64 (cntH n1 P t : Nat) ∧ t ≤ P.length ∧ Aside0 (Below w9.heap.size w9 wr)) (fun _ _ s84 _ => P.length - (intOf s84).toNat)
      case atStart => exact ⟨0, rfl, rfl, rfl, Nat.zero_le _, ⟨Below.refl _ _⟩⟩
      case round =>
        obtain ⟨t, rfl, rfl, rfl, ht, HB⟩ := hrel
        by_cases htl : t < P.length
        · obtain ⟨b4, o4, u1, u2, rfl, -, -, c1', c2', ⟨rfl, -⟩, ⟨rfl, -⟩⟩ := (reads_pairs.stays R7.out (Stays.of_below HB.out _)).at_ t htl
          have tt : ((t : Nat) : Int).toNat = t := by omega
          have tz : (t : Int) < (P.length : Int) := by omega
          have hpm2 : P.length ≤ 1000000 := hpm
          have hgo := HB.out.size
          by_cases hlow : P[t].2 < (n1 : Int)
          · have hlo := LO.out t htl hlow
            obtain ⟨hl1, he1⟩ := List.getElem?_eq_some_iff.1 hlo
            have CN := Aside0.mk (cnt_low htl hlow)
            obtain ⟨b5, o5, u3, u4, rfl, -, -, c3, c4, ⟨rfl, -⟩, ⟨rfl, -⟩⟩ := (reads_pairs.stays R8.out (Stays.of_below HB.out _)).at_ _ hl1
            rw [he1] at c3 c4
            obtain ⟨ct, hct⟩ : ∃ ct, cntL n1 P t = ct := ⟨_, rfl⟩
            obtain ⟨ch, hch⟩ : ∃ ch, cntH n1 P t = ch := ⟨_, rfl⟩
            rw [hct] at c3 c4 hl1 CN ⊢
            rw [hch] at CN ⊢
            obtain ⟨x1, hx1⟩ : ∃ x1, P[t].1 = x1 := ⟨_, rfl⟩
            obtain ⟨x2, hx2⟩ : ∃ x2, P[t].2 = x2 := ⟨_, rfl⟩
            rw [hx1] at c1' c3
            rw [hx2] at c2' c4 hlow
            have hc1 : (ct : Int) < (P1.length : Int) := by omega
            have hc2 : decide ((ct : Int) ≥ (P1.length : Int)) = false := decide_eq_false (by omega)
            have hc3 : ((ct : Nat) : Int).toNat = ct := by omega
            have hcb : ct ≤ 1000000 := by
              rw [← hct]; unfold cntL
              exact Nat.le_trans (List.length_filter_le _ _) (by rw [List.length_take]; omega)
            clear hlo he1 hct hch hx1 hx2
            have bo := below_alloc0 (Below.refl wr.heap.size wr) (.cells #[.int .i64 x1, .int .i64 x2] 39)
            have m3 := below_cell0 bo c3
            have m4 := below_cell0 bo c4
            have HBo := Aside0.mk (below_trans0 HB.out bo)
            have d0 : (wr.alloc (.cells #[.int .i64 x1, .int .i64 x2] 39)).cell? ⟨wr.heap.size, 0, none⟩ = some (.int .i64 x1) := by rw [cell_of_row _ _ 0 _ _ _ (heap_alloc_new wr _)]; rfl
            have d1 : (wr.alloc (.cells #[.int .i64 x1, .int .i64 x2] 39)).cell? ⟨wr.heap.size, 1, none⟩ = some (.int .i64 x2) := by rw [cell_of_row _ _ 1 _ _ _ (heap_alloc_new wr _)]; rfl
            generalize hwo : wr.alloc (.cells #[.int .i64 x1, .int .i64 x2] 39) = wo at m3 m4 d0 d1 HBo
            have HWO := Aside0.mk hwo
            clear hwo bo
            go_wp2_with fail
            rw [HWO.out]
            go_quiet (fail)
            go_wp2
            go_roundw
            case rel => exact ⟨t + 1, by go_num, by rw [CN.out.1]; go_num, by rw [CN.out.2], by omega, ⟨below_drewN HBo.out _⟩⟩
            case measure => simp [intOf]; omega
          · obtain ⟨q, hq, hqa, hqb⟩ := HI.out t htl (by omega)
            obtain ⟨hl1, he1⟩ := List.getElem?_eq_some_iff.1 hq
            have CN := Aside0.mk (cnt_high htl (by omega))
            obtain ⟨b5, o5, u3, u4, rfl, -, -, c3, c4, ⟨rfl, -⟩, ⟨rfl, -⟩⟩ := (reads_pairs.stays R9.out (Stays.of_below HB.out _)).at_ _ hl1
            rw [he1] at c3 c4
            rw [hqa] at c3
            obtain ⟨ct, hct⟩ : ∃ ct, cntL n1 P t = ct := ⟨_, rfl⟩
            obtain ⟨ch, hch⟩ : ∃ ch, cntH n1 P t = ch := ⟨_, rfl⟩
            rw [hch] at c3 c4 hl1 CN ⊢
            rw [hct] at CN ⊢
            obtain ⟨x1, hx1⟩ : ∃ x1, P[t].1 = x1 := ⟨_, rfl⟩
            obtain ⟨x2, hx2⟩ : ∃ x2, P[t].2 = x2 := ⟨_, rfl⟩
            have hin := (P6.out P[t] (List.getElem_mem htl)).2
            rw [hx1] at c1' c3
            rw [hx2] at c2' hlow hqb hin
            obtain ⟨y2, hy2⟩ : ∃ y2, q.2 = y2 := ⟨_, rfl⟩
            rw [hy2] at c4 hqb
            have hc1 : (ch : Int) < (P2.length : Int) := by omega
            have hc2 : decide ((ch : Int) ≥ (P2.length : Int)) = false := decide_eq_false (by omega)
            have hc3 : ((ch : Nat) : Int).toNat = ch := by omega
            have hw : IntKind.i64.wrap x2 = x2 := by rw [IntKind.wrap_i64]; unfold In64 at hin; omega
            have hcb : ch ≤ 1000000 := by
              rw [← hch]; unfold cntH
              exact Nat.le_trans (List.length_filter_le _ _) (by rw [List.length_take]; omega)
            clear hq hqa he1 hct hch hx1 hx2 hy2
            have bo := below_alloc0 (Below.refl wr.heap.size wr) (.cells #[.int .i64 x1, .int .i64 x2] 39)
            have m3 := below_cell0 bo c3
            have m4 := below_cell0 bo c4
            have HBo := Aside0.mk (below_trans0 HB.out bo)
            have d0 : (wr.alloc (.cells #[.int .i64 x1, .int .i64 x2] 39)).cell? ⟨wr.heap.size, 0, none⟩ = some (.int .i64 x1) := by rw [cell_of_row _ _ 0 _ _ _ (heap_alloc_new wr _)]; rfl
            have d1 : (wr.alloc (.cells #[.int .i64 x1, .int .i64 x2] 39)).cell? ⟨wr.heap.size, 1, none⟩ = some (.int .i64 x2) := by rw [cell_of_row _ _ 1 _ _ _ (heap_alloc_new wr _)]; rfl
            generalize hwo : wr.alloc (.cells #[.int .i64 x1, .int .i64 x2] 39) = wo at m3 m4 d0 d1 HBo
            have HWO := Aside0.mk hwo
            clear hwo bo
            go_wp2_with fail
            rw [HWO.out]
            go_quiet (fail)
            go_wp2
            go_roundw
            case rel => exact ⟨t + 1, by go_num, by rw [CN.out.1], by rw [CN.out.2]; go_num, by omega, ⟨below_drewN HBo.out _⟩⟩
            case measure => simp [intOf]; omega
        · obtain rfl : t = P.length := by omega
          have tz : ¬ ((P.length : Nat) : Int) < ((P.length : Nat) : Int) := by omega
          have BZ := Aside0.mk (below_trans0 B03.out (below_trans0 B9.out HB.out))
          have hca := CA.out
          rw [hca.1, hca.2]
          clear hca R7 R8 R9 LO HI
          go_wp2
          go_ret
          exact ⟨ret_bool (by simp), BZ.out⟩
end Go.Proofs.Ytmgoefhihljggaa.Sg
