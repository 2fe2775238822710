/- Contract: join.Semi. -/
import Derived.Test.YtihilledbnnniaaSgXi
namespace Go.Proofs.Ytihilledbnnniaa.Sg
open Go.RowKit Go.Shelf
set_option linter.unusedVariables false
set_option linter.unusedSimpArgs false

/-- The rows that have a partner, or those that have none. -/
def semi (KA KB : List Row) (has : Bool) (i : Nat) : List Int := ((List.range i).filter fun t => decide (KA.getD t [] ∈ KB) == has).map fun t : Nat => (t : Int)
theorem semi_yes {KA KB : List Row} {has : Bool} {i : Nat} (h : decide (KA.getD i [] ∈ KB) = has) : semi KA KB has (i + 1) = semi KA KB has i ++ [(i : Int)] := by
  unfold semi
  rw [List.range_succ, List.filter_append, List.map_append]
  have e : List.filter (fun t => decide (KA.getD t [] ∈ KB) == has) [i] = [i] := by rw [List.filter_cons, if_pos (by rw [h]; simp)]; rfl
  rw [e]; rfl
theorem semi_no {KA KB : List Row} {has : Bool} {i : Nat} (h : decide (KA.getD i [] ∈ KB) ≠ has) : semi KA KB has (i + 1) = semi KA KB has i := by
  unfold semi
  rw [List.range_succ, List.filter_append, List.map_append]
  have e : List.filter (fun t => decide (KA.getD t [] ∈ KB) == has) [i] = [] := by rw [List.filter_cons, if_neg (by simpa using h)]; rfl
  rw [e]; simp
theorem semi_length (KA KB : List Row) (has : Bool) (i : Nat) : (semi KA KB has i).length ≤ i := by
  unfold semi
  rw [List.length_map]
  have := List.length_filter_le (fun t => decide (KA.getD t [] ∈ KB) == has) (List.range i)
  simpa using this
theorem semi_mem {KA KB : List Row} {has : Bool} {i : Nat} {x : Int} (h : x ∈ semi KA KB has i) : 0 ≤ x ∧ x < i := by
  unfold semi at h
  obtain ⟨t, ht, rfl⟩ := List.mem_map.1 h
  have := List.mem_range.1 (List.mem_filter.1 ht).1
  omega

set_option maxHeartbeats 4000000 in
set_option maxRecDepth 100000 in
theorem semi_any (w : World) (oka okb ok1 ok2 : Nat → Prop) (ga gb na nb : Nat) (LA LB : List Row) (pa pb : Row) (va vb : Value) (has : Bool) (hA : SegAt w oka (.pointer (some ⟨ga, 0, none⟩)) na LA) (hB : SegAt w okb (.pointer (some ⟨gb, 0, none⟩)) nb LB)
    (ha : RowAt w ok1 va pa) (hb : RowAt w ok2 vb pb) (hla : pa.length < 1000000) (hlb : pb.length < 1000000) :
    Calls Try.prog 27 #[.pointer (some ⟨ga, 0, none⟩), .pointer (some ⟨gb, 0, none⟩), va, vb, .bool has] w fun e w' => ∃ v, e = .returned v ∧ RowAt w' (w.heap.size ≤ ·) v (semi (LA.map fun r => keyOf r pa) (LB.map fun r => keyOf r pb) has LA.length) ∧ Below w.heap.size w w' := by
  obtain ⟨Aa, ca, hva, _⟩ := ha.form
  subst hva
  obtain ⟨ii, hii, hi0, hi1, hi2⟩ := info_parts info_int
  have HS := Aside0.mk hA
  have HP := Aside0.mk ha
  have BD := Aside0.mk (build_any w _ _ _ _ nb LB pb hB hb hlb)
  have hLA := hA.len
  have hLB := hB.len
  obtain ⟨KA, hKA⟩ : ∃ KA, (LA.map fun r => keyOf r pa) = KA := ⟨_, rfl⟩
  obtain ⟨KB, hKB⟩ : ∃ KB, (LB.map fun r => keyOf r pb) = KB := ⟨_, rfl⟩
  rw [hKB] at BD
  rw [hKA, hKB]
  have hul := uniq_length KB
  have hkl : KB.length = LB.length := by rw [← hKB]; simp
  have HUL := Aside0.mk (show (uniq KB).length < 1000000 by omega)
  have HKA := Aside0.mk hKA
  clear hA hB ha hb hKA hKB hul hkl
  go_enter Try.func27, Try.ntmps27
  go_wp2_with fail
  refine (BD.out).mono ?_
  rintro e w1 ⟨gx, m, rfl, IX, B1⟩
  have IX := Aside0.mk IX
  have S1 := Aside0.mk (HS.out.below B1)
  have LN := Aside0.mk (len_any w1 _ _ _ _ S1.out)
  have HP1 := Aside0.mk (HP.out.below reads_int B1)
  have B1 := Aside0.mk B1
  clear BD HS HP
  go_wp2_with fail
  refine (LN.out).mono ?_
  rintro e w' ⟨rfl, rfl⟩
  clear LN
  go_wp2_with fail
  go_loopw [12, 19] (fun s12 s19 wr => ∃ i : Nat, s19 = .int .i64 i ∧ i ≤ LA.length ∧ Aside0 (wr.ownsRow w1.heap.size 3 1 s12 (semi KA KB has i).length ((semi KA KB has i).map (Value.int .i64))) ∧ Aside0 (Below w1.heap.size w1 wr)) (fun _ s19 _ => LA.length - (intOf s19).toNat)
  case atStart => exact ⟨0, rfl, Nat.zero_le _, ⟨World.ownsRow_nil _ _ _ _⟩, ⟨Below.refl _ _⟩⟩
  case round =>
    obtain ⟨i, rfl, hi, HO, HB⟩ := hrel
    have hbs := HB.out.size
    have hsl := semi_length KA KB has i
    by_cases hlt : i < LA.length
    · have hki : KA.getD i [] = keyOf LA[i] pa := by have := HKA.out; subst this; simp [hlt]
      have RW := Aside0.mk (row_any wr _ _ na LA LA[i] i (S1.out.below HB.out) (List.getElem?_eq_getElem hlt))
      have KX := Aside0.mk (fun w2 rv okk (hb : Below wr.heap.size wr w2) (hr : RowAt w2 okk rv LA[i]) => keyx_any w2 _ _ rv _ LA[i] pa hr (HP1.out.below reads_int (below_trans0 HB.out hb)) hla)
      have PB := Aside0.mk (fun w2 kv (hb : Below wr.heap.size wr w2) okk (hr : RowAt w2 okk kv (KA.getD i [])) => probe_any w2 _ _ _ _ _ okk kv _ ((IX.out.below HB.out).below hb) hr HUL.out)
      rw [← hki] at KX
      have SY := Aside0.mk (fun h : decide (KA.getD i [] ∈ KB) = has => semi_yes h)
      have SN := Aside0.mk (fun h : decide (KA.getD i [] ∈ KB) ≠ has => semi_no h)
      have hwn := which_nil KB (KA.getD i [])
      generalize KA.getD i [] = K at *
      obtain ⟨G, hG⟩ : ∃ G, which KB K = G := ⟨_, rfl⟩
      rw [hG] at hwn
      have HG := Aside0.mk hG
      have HWN := Aside0.mk hwn
      have h63 := Aside0.mk (show (semi KA KB has i).length + 1 ≤ maxLen by unfold maxLen; omega)
      have hby := Aside0.mk (show ((semi KA KB has i).length + 1) * 8 ≤ 140737488355328 by omega)
      clear hki hwn hG
      go_wp2_with fail
      refine (RW.out).mono ?_
      rintro e w4 ⟨rv, rfl, HR4, B4⟩
      go_wp2_with fail
      refine (KX.out w4 rv _ B4 HR4).mono ?_
      rintro e w5 ⟨kv, rfl, HK5, B5⟩
      have B5' := below_trans0 B4 B5
      go_wp2_with fail
      refine (PB.out w5 kv B5' _ HK5).mono ?_
      rintro e w6 ⟨gv, rfl, HG6, B6⟩
      rw [HG.out] at HG6
      obtain ⟨Ag, cg, hgf, _⟩ := HG6.form
      subst hgf
      have hb6 := below_trans0 B5' B6
      have BN := Aside0.mk (below_trans0 HB.out hb6)
      have HO6 := Aside0.mk ((Stays.of_below hb6 (fun _ => True)).owns HO.out (fun _ _ => trivial))
      have hs6 := BN.out.size
      have hsz := Aside0.mk (fun o => (show w1.heap.size ≤ (w6.alloc o).heap.size by simp; omega))
      clear HG6 B6 B5' HK5 B5 HR4 B4 PB KX RW hb6
      by_cases hm : K ∈ KB
      · have hg : G ≠ [] := fun e => HWN.out.1 e hm
        have hgl : 0 < G.length := by cases G with | nil => exact absurd rfl hg | cons a l => simp
        have dm : decide (K ∈ KB) = true := by simpa using hm
        rw [dm] at SY SN
        clear dm hg hm
        cases has with
        | true =>
          have NX := Aside0.mk (SY.out rfl)
          clear SY SN
          go_wp2_with (at_builtin; refine wpList_append_own_at _ rfl (.tmp 33) (.tmp 35) 23 rfl w1.heap.size 3 ii (.int .i64 0) 1 8 Try.underlying23 hii hi0 hi1 hi2 rfl (by decide) _ _ _ rfl (HO6.out.alloc _) ⟨w6.heap.size, 0, none⟩ 1 1 [Value.int .i64 (i : Int)] rfl rfl (cell_one_new _ _ _) (by simp [Value.oneCell']) h63.out hby.out (hsz.out _) ?_; intro v1 w10 ho hg _ hb; have O1 := Aside0.mk ho; have G1 := Aside0.mk hg; clear ho hg hb)
          go_roundw
          case rel => exact ⟨i + 1, by go_num, by omega, ⟨by rw [NX.out]; simpa using O1.out⟩, ⟨(below_alloc BN.out hs6 _).grown G1.out (by simp; omega) (own_below HO6.out)⟩⟩
          case measure => simp [intOf]; omega
        | false =>
          have NX := Aside0.mk (SN.out (by simp))
          clear SY SN
          go_wp2
          go_roundw
          case rel => exact ⟨i + 1, by go_num, by omega, ⟨by rw [NX.out]; exact HO6.out⟩, BN⟩
          case measure => simp [intOf]; omega
      · have hg : G = [] := HWN.out.2 hm
        have dm : decide (K ∈ KB) = false := by simpa using hm
        rw [dm] at SY SN
        subst hg
        clear dm hm
        simp only [List.length_nil]
        cases has with
        | false =>
          have NX := Aside0.mk (SY.out rfl)
          clear SY SN
          go_wp2_with (at_builtin; refine wpList_append_own_at _ rfl (.tmp 33) (.tmp 35) 23 rfl w1.heap.size 3 ii (.int .i64 0) 1 8 Try.underlying23 hii hi0 hi1 hi2 rfl (by decide) _ _ _ rfl (HO6.out.alloc _) ⟨w6.heap.size, 0, none⟩ 1 1 [Value.int .i64 (i : Int)] rfl rfl (cell_one_new _ _ _) (by simp [Value.oneCell']) h63.out hby.out (hsz.out _) ?_; intro v1 w10 ho hg _ hb; have O1 := Aside0.mk ho; have G1 := Aside0.mk hg; clear ho hg hb)
          go_roundw
          case rel => exact ⟨i + 1, by go_num, by omega, ⟨by rw [NX.out]; simpa using O1.out⟩, ⟨(below_alloc BN.out hs6 _).grown G1.out (by simp; omega) (own_below HO6.out)⟩⟩
          case measure => simp [intOf]; omega
        | true =>
          have NX := Aside0.mk (SN.out (by simp))
          clear SY SN
          go_wp2
          go_roundw
          case rel => exact ⟨i + 1, by go_num, by omega, ⟨by rw [NX.out]; exact HO6.out⟩, BN⟩
          case measure => simp [intOf]; omega
    · obtain rfl : i = LA.length := by omega
      have R := Aside0.mk (reads_row.mono (RowAt.of_own HO.out (by omega) (fun x hx => by have := semi_mem hx; unfold In64; omega)) (fun b hb _ => Nat.le_trans B1.out.size hb))
      have BZ := Aside0.mk (below_trans0 B1.out HB.out)
      go_wp2
      go_ret
      exact ⟨_, rfl, R.out, BZ.out⟩
end Go.Proofs.Ytihilledbnnniaa.Sg
