/- Contract: join.Hash: the pairs whose keys are the same, in order. -/
import Derived.Test.YtmgoefhihljggaaSgYb
namespace Go.Proofs.Ytmgoefhihljggaa.Sg
open Go.RowKit Go.Shelf
set_option linter.unusedVariables false
set_option linter.unusedSimpArgs false

set_option maxHeartbeats 4000000 in
set_option maxRecDepth 100000 in
theorem hashP_any (w : World) (oka okb ok1 ok2 : Nat → Prop) (ga gb na nb : Nat) (LA LB : List Row) (pa pb : Row) (va vb : Value) (hA : SegAt w oka (.pointer (some ⟨ga, 0, none⟩)) na LA) (hB : SegAt w okb (.pointer (some ⟨gb, 0, none⟩)) nb LB)
    (ha : RowAt w ok1 va pa) (hb : RowAt w ok2 vb pb) (hla : pa.length < 1000000) (hlb : pb.length < 1000000) (h1 : LA.length ≤ 1000) (h2 : LB.length ≤ 1000) :
    Calls Try.prog 9 #[.pointer (some ⟨ga, 0, none⟩), .pointer (some ⟨gb, 0, none⟩), va, vb] w fun e w' => ∃ v, e = .returned v ∧ PairsAt w' (w.heap.size ≤ ·) v (prs (LA.map fun r => keyOf r pa) (LB.map fun r => keyOf r pb) LA.length) ∧ Below w.heap.size w w' := by
  obtain ⟨Aa, ca, hva, _⟩ := ha.form
  subst hva
  obtain ⟨ip, hip, hp0, hp1, hp2⟩ := info_parts info_pair
  have HS := Aside0.mk hA
  have HP := Aside0.mk ha
  have BD := Aside0.mk (build_any w _ _ _ _ nb LB pb hB hb hlb)
  obtain ⟨KA, hKA⟩ : ∃ KA, (LA.map fun r => keyOf r pa) = KA := ⟨_, rfl⟩
  obtain ⟨KB, hKB⟩ : ∃ KB, (LB.map fun r => keyOf r pb) = KB := ⟨_, rfl⟩
  rw [hKB] at BD
  rw [hKA, hKB]
  have hul := uniq_length KB
  have hkl : KB.length = LB.length := by rw [← hKB]; simp
  have HUL := Aside0.mk (show (uniq KB).length < 1000000 by omega)
  have HKL := Aside0.mk (show KB.length ≤ 1000 by omega)
  have HKA := Aside0.mk hKA
  clear hA hB ha hb hKA hKB hul hkl h2
  go_enter Try.func9, Try.ntmps9
  go_wp2_with fail
  refine (BD.out).mono ?_
  rintro e w1 ⟨gx, m, rfl, IX, B1⟩
  have IX := Aside0.mk IX
  have S1 := Aside0.mk (HS.out.below B1)
  have LN := Aside0.mk (len_any w1 _ _ _ _ S1.out)
  have HP1 := Aside0.mk (HP.out.below reads_int B1)
  have B1 := Aside0.mk B1
  clear BD HS HP
  go_wp2_with fail
  refine (LN.out).mono ?_
  rintro e w' ⟨rfl, rfl⟩
  clear LN
  go_wp2_with fail
  go_loopw [10, 19] (fun s10 s19 wr => ∃ i : Nat, s19 = .int .i64 i ∧ i ≤ LA.length ∧ Aside0 (wr.ownsRow w1.heap.size 39 2 s10 (prs KA KB i).length (cellsP (prs KA KB i))) ∧ Aside0 (Below w1.heap.size w1 wr)) (fun _ s19 _ => LA.length - (intOf s19).toNat)
  case atStart => exact ⟨0, rfl, Nat.zero_le _, ⟨World.ownsRow_nil _ _ _ _⟩, ⟨Below.refl _ _⟩⟩
  case round =>
    obtain ⟨i, rfl, hi, HO, HB⟩ := hrel
    have hbs := HB.out.size
    by_cases hlt : i < LA.length
    · have hki : KA.getD i [] = keyOf LA[i] pa := by have := HKA.out; subst this; simp [hlt]
      have RW := Aside0.mk (row_any wr _ _ na LA LA[i] i (S1.out.below HB.out) (List.getElem?_eq_getElem hlt))
      have KX := Aside0.mk (fun w2 rv okk (hb : Below wr.heap.size wr w2) (hr : RowAt w2 okk rv LA[i]) => keyx_any w2 _ _ rv _ LA[i] pa hr (HP1.out.below reads_int (below_trans0 HB.out hb)) hla)
      have PB := Aside0.mk (fun w2 kv (hb : Below wr.heap.size wr w2) okk (hr : RowAt w2 okk kv (KA.getD i [])) => probe_any w2 _ _ _ _ _ okk kv _ ((IX.out.below HB.out).below hb) hr HUL.out)
      rw [← hki] at KX
      have PS := Aside0.mk (prs_succ KA KB i)
      have PL := Aside0.mk (prs_few (KA := KA) (KB := KB) (i := i) (by omega) HKL.out)
      obtain ⟨PR, hPR⟩ : ∃ PR, prs KA KB i = PR := ⟨_, rfl⟩
      rw [hPR] at PS PL HO
      have hgl := which_le KB (KA.getD i [])
      unfold pairsIn at PS
      generalize KA.getD i [] = K at *
      obtain ⟨G, hG⟩ : ∃ G, which KB K = G := ⟨_, rfl⟩
      rw [hG] at hgl PS
      have HG := Aside0.mk hG
      have HGL := Aside0.mk (Nat.le_trans hgl HKL.out)
      clear hki hG hgl hPR
      go_wp2_with fail
      refine (RW.out).mono ?_
      rintro e w4 ⟨rv, rfl, HR4, B4⟩
      go_wp2_with fail
      refine (KX.out w4 rv _ B4 HR4).mono ?_
      rintro e w5 ⟨kv, rfl, HK5, B5⟩
      have B5' := below_trans0 B4 B5
      go_wp2_with fail
      refine (PB.out w5 kv B5' _ HK5).mono ?_
      rintro e w6 ⟨gv, rfl, HG6, B6⟩
      rw [HG.out] at HG6
      obtain ⟨Ag, cg, hgf, _⟩ := HG6.form
      subst hgf
      have hb6 := below_trans0 B5' B6
      have BN := Aside0.mk (below_trans0 HB.out hb6)
      have HO6 := Aside0.mk ((Stays.of_below hb6 (fun _ => True)).owns HO.out (fun _ _ => trivial))
      have hs6 := BN.out.size
      have h56 := B6.size
      have h05 := B5'.size
      have HOL := Aside0.mk (fun k hk => Nat.lt_of_lt_of_le (HO.out.lt k hk).2 h05)
      have RG := Aside0.mk (reads_row.mono (ok2 := fun b => w5.heap.size ≤ b ∧ b < w6.heap.size) HG6 (fun b hb hl => ⟨hb, hl⟩))
      clear HG6 B6 B5' HK5 B5 HR4 B4 PB KX RW hb6
      go_wp2_with fail
      go_loopw [10, 30] (fun s10 s30 wr => ∃ j : Nat, s30 = .int .i64 j ∧ j ≤ G.length ∧ Aside0 (wr.ownsRow w1.heap.size 39 2 s10 (PR ++ pairsG G i j).length (cellsP (PR ++ pairsG G i j))) ∧ Aside0 (RowAt wr (fun b => w5.heap.size ≤ b ∧ b < w6.heap.size) (.slice Ag G.length cg) G ∧ (∀ k, s10.ownBlock = some k → ¬ (w5.heap.size ≤ k ∧ k < w6.heap.size)) ∧ w6.heap.size ≤ wr.heap.size) ∧ Aside0 (Below w1.heap.size w1 wr)) (fun _ s30 _ => G.length - (intOf s30).toNat)
      case atStart => exact ⟨0, rfl, Nat.zero_le _, ⟨by simpa [pairsG] using HO6.out⟩, ⟨RG.out, fun k hk h9 => by have := HOL.out k hk; omega, Nat.le_refl _⟩, BN⟩
      case round =>
        obtain ⟨j, rfl, hj, HOj, HGj, HBj⟩ := hrel
        by_cases hjl : j < G.length
        · obtain ⟨b6, o6, u6, rfl, _, _, c6, hu6, hx6⟩ := HGj.out.1.at_ j hjl
          subst hu6
          have PJ := Aside0.mk (pairsG_succ (i := i) hjl)
          have hpg := pairsG_le G i j
          generalize G[j] = x at *
          obtain ⟨Q, hQ⟩ : ∃ Q, PR ++ pairsG G i j = Q := ⟨_, rfl⟩
          have hQl : Q.length ≤ 1001000 := by rw [← hQ, List.length_append]; have := PL.out; have := HGL.out; omega
          have PJ := Aside0.mk (show PR ++ pairsG G i (j + 1) = Q ++ [((i : Int), x)] by rw [PJ.out, ← List.append_assoc, hQ])
          rw [hQ] at HOj
          have h63 := Aside0.mk (show Q.length + 1 ≤ maxLen by unfold maxLen; omega)
          have hby := Aside0.mk (show (Q.length + 1) * 16 ≤ 140737488355328 by omega)
          have hsb := HBj.out.size
          have hsz := Aside0.mk (fun o => (show w1.heap.size ≤ (wr.alloc o).heap.size by simp; omega))
          clear hQ hpg hQl
          go_wp2_with (at_builtin; refine wpList_append_own_at _ rfl (.tmp 34) (.tmp 38) 27 rfl w1.heap.size 39 ip (.agg #[.int .i64 0, .int .i64 0]) 2 16 Try.underlying27 hip hp0 hp1 hp2 rfl (by decide) _ _ _ rfl ((Stays.alloc (fun _ => True) _ _).owns HOj.out (fun _ _ => trivial)) ⟨wr.heap.size, 0, none⟩ 1 1 [Value.int .i64 (i : Int), Value.int .i64 x] rfl rfl (news2q _ _ _ _) (by simp [Value.oneCell']) h63.out hby.out (hsz.out _) ?_; intro v1 w10 ho hg _ hb; have O1 := Aside0.mk ho; have G1 := Aside0.mk hg; have N1 := Aside0.mk hb; clear ho hg hb)
          go_roundw
          case rel =>
            obtain ⟨g1, g2, g3⟩ := HGj.out
            refine ⟨j + 1, by go_num, by omega, ⟨?_⟩, ⟨?_, ?_, ?_⟩, ⟨(below_alloc HBj.out hsb _).grown G1.out (by simp; omega) (fun k hk => (HOj.out.lt k hk).1)⟩⟩
            · rw [PJ.out, cellsP_append, List.length_append]; exact O1.out
            · exact reads_row.stays (reads_row.stays g1 (Stays.alloc _ _ _)) ((Stays.of_grown G1.out).mono (fun b hb _ e => g2 b e hb))
            · intro k hk h9
              rcases N1.out with h8 | h8
              · rw [h8] at hk; exact g2 k hk h9
              · rw [h8] at hk
                have := Option.some.inj hk
                simp at this
                omega
            · have := G1.out.size
              simp at this
              omega
          case measure => simp [intOf]; omega
        · obtain rfl : j = G.length := by omega
          have BX := HBj
          have PX := Aside0.mk (show prs KA KB (i + 1) = PR ++ pairsG G i G.length by rw [PS.out, pairsG_all])
          clear PS
          go_wp2
          go_roundw
          case rel => exact ⟨i + 1, by go_num, by omega, ⟨by rw [PX.out]; exact HOj.out⟩, HBj⟩
          case measure => simp [intOf]; omega
    · obtain rfl : i = LA.length := by omega
      have hpf := prs_few (KA := KA) (KB := KB) (i := LA.length) h1 HKL.out
      have R := Aside0.mk (reads_pairs.mono (PairsAt.of_own HO.out rfl rfl (by omega) (prs_in64 h1 HKL.out)) (fun b hb _ => Nat.le_trans B1.out.size hb))
      have BZ := Aside0.mk (below_trans0 B1.out HB.out)
      clear hpf
      go_wp2
      go_ret
      exact ⟨_, rfl, R.out, BZ.out⟩
end Go.Proofs.Ytmgoefhihljggaa.Sg
