/- BestPuts: any keys and costs: each key has the best cost. The walk. -/
import Derived.Test.YtalbgdbphdhhaaaSgCd
namespace Go.Proofs.Ytalbgdbphdhhaaa.Sg
open Go.RowKit Go.Shelf
set_option linter.unusedVariables false
set_option linter.unusedSimpArgs false

set_option maxHeartbeats 1500000 in
set_option maxRecDepth 100000 in
theorem BestPuts_walk (x : Int) (great : Bool) (lv : Value) (ps : List (Row × Int)) (ov : Value) (other : Row) (w : World) (hx : In64 x) (hp : SlP RowAt IntAt w (fun _ => True) lv ps) (ho : RowAt w (fun _ => True) ov other) :
    Calls Try.prog 3 #[.int .i64 x, .bool great, lv, ov] w fun e w' => e = .returned (.bool true) ∧ Below w.heap.size w w' := by
  obtain ⟨Al, cl, hlv, _⟩ := hp.form
  subst hlv
  obtain ⟨Ao, co, hov, _⟩ := ho.form
  subst hov
  have HP := Aside0.mk hp
  have HO := Aside0.mk ho
  have HH := Aside0.mk (head10_any w)
  obtain ⟨n, hn, hmn⟩ := mod_u x 4 (by omega) (by omega)
  rw [show ((4 : Nat) : Int) = 4 from rfl] at hmn
  clear hp ho hx
  go_enter Try.func3, Try.ntmps3
  go_wp2_with fail
  refine (HH.out).mono ?_
  rintro e w1 ⟨rfl, B1⟩
  have HP1 := Aside0.mk (reads_puts.mono (ok2 := (· < w1.heap.size)) (reads_puts.stays HP.out (Stays.of_below B1 _)) (fun _ _ hl => hl))
  have HO1 := Aside0.mk (reads_row.mono (ok2 := (· < w1.heap.size)) (HO.out.below reads_int B1) (fun _ _ hl => hl))
  have B1 := Aside0.mk B1
  have h01 := B1.out.size
  clear HP HO HH
  by_cases hl60 : 60 < ps.length
  · have hli : (60 : Int) < (ps.length : Int) := by omega
    go_wp2
    go_ret
    exact ⟨rfl, B1.out⟩
  have hli : ¬ (60 : Int) < (ps.length : Int) := by omega
  by_cases hl8 : 8 < other.length
  · have hlo : (8 : Int) < (other.length : Int) := by omega
    go_wp2
    go_ret
    exact ⟨rfl, B1.out⟩
  have hlo : ¬ (8 : Int) < (other.length : Int) := by omega
  have NW := Aside0.mk (new_s w1 n great (by omega))
  go_wp2_with fail
  refine (NW.out).mono ?_
  rintro e w2 ⟨rfl, S2, B2⟩
  have P2 := Aside0.mk (show Bp (w2.alloc (.cells #[] 23)) w1.heap.size (w1.heap.size + 1) _ n great [] [] (.slice (some ⟨w2.heap.size, 0, none⟩) 0 0) from ⟨S2.below (below_alloc0 (Below.refl _ _) _), SlAt.nil _ _ _ _ _ (by omega), List.Perm.refl _⟩)
  have HB2 := Aside0.mk (below_alloc B2 B2.size (.cells #[] 23))
  clear NW S2 B2
  go_wp2_with fail
  go_loopw [10, 41] (fun s10 s41 wr => ∃ (i : Nat) (F : Nat → Prop) (R Q : List Row), s41 = .int .i64 i ∧ i ≤ ps.length ∧ Q.length ≤ i ∧ Aside0 (Bp wr w1.heap.size (w1.heap.size + 1) F n great R Q s10) ∧ Aside0 (Below w1.heap.size w1 wr)) (fun _ s41 _ => ps.length - (intOf s41).toNat)
  case atStart => exact ⟨0, _, [], [], rfl, Nat.zero_le _, by simp, P2, HB2⟩
  case round =>
    obtain ⟨i, F, R, Q, rfl, hi, hQi, HBp, HB⟩ := hrel
    clear P2 HB2
    have h1s := HB.out.size
    have hRi : R.length ≤ i := by have := HBp.out.perm.length_eq; omega
    have HQR := Aside0.mk HBp.out.perm.length_eq
    by_cases hlt : i < ps.length
    · obtain ⟨ba, oa, u1, u2, rfl, _, _, ha1, ha2, hu1, hu2⟩ := (reads_puts.stays HP1.out (Stays.of_belowB HB.out)).at_ i hlt
      obtain ⟨hu2, hc64⟩ := hu2
      subst hu2
      obtain ⟨Ak, ck, hu1f, _⟩ := hu1.form
      subst hu1f
      generalize ps[i] = pk at *
      obtain ⟨key, cost⟩ := pk
      simp only at ha1 ha2 hu1 hc64
      have HBz := Aside0.mk (below_trans B1.out HB.out h01)
      obtain ⟨lk, hlk⟩ : ∃ lk, key.length = lk := ⟨_, rfl⟩
      rw [hlk] at ha1 hu1
      have HLK := Aside0.mk hlk
      clear hlk
      by_cases hk8 : 8 < lk
      · have hk8i : (8 : Int) < (lk : Int) := by omega
        go_wp2
        go_ret
        exact ⟨rfl, below_alloc HBz.out HBz.out.size _⟩
      have hk8i : ¬ (8 : Int) < (lk : Int) := by omega
      obtain ⟨W0, hW0⟩ : ∃ W0, wr.alloc (.cells #[.slice Ak lk ck, .int .i64 cost] 30) = W0 := ⟨_, rfl⟩
      have b0 : Below wr.heap.size wr W0 := by rw [← hW0]; exact below_alloc0 (Below.refl _ _) _
      have k0 : W0.cell? ⟨wr.heap.size, 0, none⟩ = some (.slice Ak lk ck) := by rw [← hW0]; simp
      have k1 : W0.cell? ⟨wr.heap.size, 1, none⟩ = some (.int .i64 cost) := by rw [← hW0]; simp
      have HW0 := Aside0.mk hW0
      have BP0 := HBp.out.below b0
      have hge := BP0.best.ge
      have HK0 : RowAt W0 (fun b => ¬ F b) (.slice Ak lk ck) key := reads_row.mono (hu1.below reads_int b0) (fun b hb _ hf => by have h9 : b < w1.heap.size := hb; have := hge b hf; omega)
      have HB0 := Aside0.mk (HB.out.trans (b0.mono h1s))
      have h0s := HB0.out.size
      have BP0 := Aside0.mk BP0
      have HC := Aside0.mk hc64
      clear hW0 b0 hge hu1 HBp HB hc64
      by_cases hkn : lk = n
      · subst hkn
        have hkk := HLK.out
        have PT := put10_any W0 _ _ _ _ Q key great cost lk BP0.out.rows HK0 BP0.out.good hkk (by omega) HC.out (by omega)
        obtain ⟨hpp, hpb⟩ := perm_put (great := great) (key := key) (cost := cost) BP0.out.best.good.1 BP0.out.perm
        have hql := putL_len lk great Q key cost
        obtain ⟨Q', hQ'⟩ : ∃ Q', (putL lk great Q key cost).1 = Q' := ⟨_, rfl⟩
        obtain ⟨bq, hbq⟩ : ∃ bq, (putL lk great Q key cost).2 = bq := ⟨_, rfl⟩
        rw [hQ', hbq] at PT
        rw [hQ'] at hpp hql
        rw [hbq] at hpb
        have PT := Aside0.mk PT
        have HPP := Aside0.mk hpp
        have HPB := Aside0.mk hpb
        have HK0 := Aside0.mk HK0
        clear hpp hpb hQ' hbq hkk
        go_wp2_with fail
        rw [HW0.out]
        refine (PT.out).mono ?_
        rintro e w4 ⟨v4, rfl, R4, B4⟩
        have BST := BP0.out.best.below B4
        have R4' : RowsAt w4 (fun b => ¬ F b) v4 Q' := reads_rows.mono R4 (fun b hb _ => hb.elim id (fun h => BP0.out.fresh h))
        have HK4 := HK0.out.below reads_int B4
        have j0 := below_cell0 B4 k0
        have j1 := below_cell0 B4 k1
        have PUT := put_s w4 _ _ _ F great R BST (by omega) _ _ key HK4 (fun b hb => hb) (by rw [HLK.out]; omega) cost HC.out
        rw [putX_eq HLK.out, ← HPB.out] at PUT
        have HB4 := Aside0.mk (HB0.out.trans (B4.mono h0s))
        have h4s := HB4.out.size
        have PUT := Aside0.mk PUT
        have BST := Aside0.mk BST
        have R4' := Aside0.mk R4'
        clear PT R4 B4 k0 k1 HK0 HK4
        go_wp2_with fail
        refine (PUT.out).mono ?_
        rintro e w5 ⟨rfl, F2, S5, hF2, K5⟩
        have HB5 := Aside0.mk (HB4.out.trans (K5.below h4s (fun b hb hf => by have := BST.out.ge b hf; omega)))
        have BP5 := Aside0.mk (show Bp w5 w1.heap.size (w1.heap.size + 1) F2 lk great _ Q' v4 from ⟨S5, rows_put reads_rows R4'.out hF2 K5, HPP.out⟩)
        clear PUT S5 hF2 K5 R4' BST HB4 HB0 BP0 HPP HPB j0 j1
        cases bq
        all_goals
          go_wp2
          go_roundw
          case rel => exact ⟨i + 1, F2, _, Q', by go_num, by omega, by omega, BP5, HB5⟩
          case measure => simp [intOf]; omega
      · have hkni : ((lk : Int) == (n : Int)) = false := by rw [beq_eq_false_iff_ne]; omega
        have PUT := put_s W0 _ _ _ F great R BP0.out.best (by omega) _ _ key HK0 (fun b hb => hb) (by rw [HLK.out]; omega) cost HC.out
        rw [putX_no (by rw [HLK.out]; exact hkn)] at PUT
        have PUT := Aside0.mk PUT
        clear HK0
        go_wp2_with fail
        rw [HW0.out]
        refine (PUT.out).mono ?_
        rintro e w5 ⟨rfl, F2, S5, hF2, K5⟩
        have HB5 := Aside0.mk (HB0.out.trans (K5.below h0s (fun b hb hf => by have := BP0.out.best.ge b hf; omega)))
        have BP5 := Aside0.mk (show Bp w5 w1.heap.size (w1.heap.size + 1) F2 n great R Q u10 from ⟨S5, rows_put reads_rows BP0.out.rows hF2 K5, BP0.out.perm⟩)
        clear PUT S5 hF2 K5 HB0 BP0 k0 k1
        go_wp2
        go_roundw
        case rel => exact ⟨i + 1, F2, R, Q, by go_num, by omega, by omega, BP5, HB5⟩
        case measure => simp [intOf]; omega
    · obtain rfl : i = ps.length := by omega
      obtain ⟨Aq, cq, hqv, _⟩ := HBp.out.rows.form
      subst hqv
      have HGQ := Aside0.mk HBp.out.good
      have HPG := Aside0.mk (fun key => perm_get (key := key) HBp.out.best.good.1 HBp.out.perm)
      have HNP := Aside0.mk (norm_perm (n := n + 1) HBp.out.perm)
      have HOR := Aside0.mk (reads_row.stays HO1.out (Stays.of_belowB HB.out))
      obtain ⟨We, hWe⟩ : ∃ We, wr = We := ⟨_, rfl⟩
      have HWe := Aside0.mk hWe
      go_wp2_with fail
      go_loopw [75] (fun s75 wr => ∃ j : Nat, s75 = .int .i64 j ∧ j ≤ Q.length ∧ Aside0 (Below We.heap.size We wr)) (fun s75 _ => Q.length - (intOf s75).toNat)
      case atStart => exact ⟨0, rfl, Nat.zero_le _, ⟨by first | exact Below.refl _ _ | (rw [hWe]; exact Below.refl _ _)⟩⟩
      case round =>
        obtain ⟨j, rfl, hj, HBj⟩ := hrel
        have BPj := Aside0.mk (HBp.out.below (by first | exact HBj.out | (rw [hWe]; exact HBj.out)))
        by_cases hjl : j < Q.length
        · obtain ⟨br, or_, ur, hAr, _, _, hc1, hur⟩ := BPj.out.rows.at_ j hjl
          subst hAr
          obtain ⟨Ah, ch, huf, hch⟩ := hur.form
          subst huf
          have hrl := (HGQ.out.row _ (List.getElem_mem hjl)).1
          have hgb := getB_mem HGQ.out (List.getElem_mem hjl)
          rw [HPG.out] at hgb
          have hwl : n < (Q[j]).length := by omega
          obtain ⟨bx, ox, ux, hAh, _, _, hcx, hux, _⟩ := hur.at_ n hwl
          subst hAh
          subst hux
          have hcy : Q[j][n] = (Q[j]).getD n 0 := by rw [List.getD_eq_getElem?_getD, List.getElem?_eq_getElem hwl]; rfl
          rw [hcy] at hcx
          have HT := hur.take n (by omega)
          have GT := get_any wr _ _ _ F great R BPj.out.best.1 _ _ ((Q[j]).take n) HT (by rw [List.length_take]; omega)
          rw [hgb] at GT
          simp only [Option.getD_some, Option.isSome_some] at GT
          obtain ⟨cz, hcz⟩ : ∃ cz, (Q[j]).getD n 0 = cz := ⟨_, rfl⟩
          rw [hcz] at GT hcx
          have GT := Aside0.mk GT
          have hnch : n ≤ ch := by omega
          have HRL := Aside0.mk hrl
          rw [hrl] at hc1
          have n1 : (n : Int) ≤ (ch : Int) := by omega
          have n2 : (n : Int) < (n : Int) + 1 := by omega
          clear hur hrl hgb hcy HT hcz hch
          go_wp2_with fail
          refine (GT.out).mono ?_
          rintro e w6 ⟨rfl, B6⟩
          have hcx6 := below_cell0 B6 hcx
          have HB6 := Aside0.mk (below_trans0 HBj.out B6)
          clear GT B6 BPj
          go_wp2
          exact ⟨⟨j + 1, by go_num, by omega, HB6⟩, by simp [intOf]; omega⟩
        · obtain rfl : j = Q.length := by omega
          have BEj := Aside0.mk (below_trans (below_trans B1.out HB.out h01) (by first | exact HBj.out | (rw [hWe]; exact HBj.out)) (Nat.le_trans h01 h1s))
          have HOj := Aside0.mk (HOR.out.below reads_int (by first | exact HBj.out | (rw [hWe]; exact HBj.out)))
          have GO := get_any wr _ _ _ F great R BPj.out.best.1 _ _ other HOj.out (by omega)
          rw [← HPG.out] at GO
          have hw1 : IntKind.i64.wrap ((n : Int) + 1) = ((n + 1 : Nat) : Int) := by rw [IntKind.wrap_i64]; omega
          have hjs := BEj.out.size
          by_cases hon : other.length = n
          · have honi : ((other.length : Int) == (n : Int)) = true := by rw [beq_iff_eq]; omega
            have HPLB := placeB HGQ.out hon
            clear hon
            cases hix : idxB n Q other with
            | none =>
              have hg : getB n Q other = none := by unfold getB; rw [hix]; rfl
              rw [hg] at GO
              rw [hix] at HPLB
              simp only [Option.getD_none, Option.isSome_none] at GO
              simp only at HPLB
              have GO := Aside0.mk GO
              have HPLB := Aside0.mk HPLB
              clear hg hix
              go_wp2_with fail
              refine (GO.out).mono ?_
              rintro e w6 ⟨rfl, B6⟩
              have BP6 := BPj.out.below B6
              have PC := place_any w6 _ _ _ _ Q other BP6.rows (HOj.out.below reads_int B6) (by omega) (by omega)
              rw [HPLB.out] at PC
              have PC := Aside0.mk PC
              have BP6 := Aside0.mk BP6
              have BE6 := Aside0.mk (below_trans BEj.out B6 hjs)
              clear GO BPj BEj HOj B6
              go_wp2_with fail
              refine (PC.out).mono ?_
              rintro e w7 ⟨rfl, hd⟩
              have BP7 := Aside0.mk (BP6.out.below hd.below)
              have BE7 := Aside0.mk (below_trans BE6.out hd.below BE6.out.size)
              clear PC BP6 BE6 hd HPLB
              have LB := blen_any w7 _ _ _ F great R BP7.out.best.1
              rw [← HQR.out] at LB
              have LB := Aside0.mk LB
              have SG := bseg_any w7 _ _ _ F great R BP7.out.best.1
              rw [← HNP.out] at SG
              have SG := Aside0.mk SG
              have h7s := BE7.out.size
              go_wp2_with (first | (go_at_call 16; (with_reducible refine (LB.out).mono ?_); rintro e w' ⟨rfl, rfl⟩))
              refine (SG.out).mono ?_
              rintro e w8 ⟨v8, rfl, S8, B8⟩
              obtain ⟨g8, cv8, hv8, _⟩ := S8.ex
              subst hv8
              have SO := Aside0.mk (sorted_any w8 _ _ (n + 1) Q (BP7.out.rows.below reads_row B8) (by omega) (by omega))
              have S8 := Aside0.mk S8
              have BE8 := Aside0.mk (below_trans BE7.out B8 h7s)
              have h8s := BE8.out.size
              clear LB SG B8 BP7 BE7
              go_wp2_with fail
              refine (SO.out).mono ?_
              rintro e w9 ⟨v9, rfl, R9, B9⟩
              have IS := Aside0.mk (is_same w9 _ _ g8 (n + 1) _ _ (S8.out.below B9) R9)
              have BE9 := Aside0.mk (below_trans BE8.out B9 h8s)
              obtain ⟨A9, c9, hv9, _⟩ := R9.form
              subst hv9
              clear SO S8 B9 R9 BE8
              go_wp2_with fail
              refine (IS.out).mono ?_
              rintro e w10 ⟨rfl, B10⟩
              have BE10 := Aside0.mk (below_trans BE9.out B10 BE9.out.size)
              clear IS B10 BE9
              go_wp2
              go_ret
              exact ⟨rfl, BE10.out⟩
            | some k =>
              obtain ⟨hkl, _⟩ := idxB_some hix
              have hg : getB n Q other = some (costB n Q k) := by unfold getB; rw [hix]; rfl
              have hcb := costB_at (W := n) hkl
              rw [hg] at GO
              rw [hix] at HPLB
              simp only [Option.getD_some, Option.isSome_some] at GO
              simp only at HPLB
              obtain ⟨cz, hcz⟩ : ∃ cz, costB n Q k = cz := ⟨_, rfl⟩
              rw [hcz] at GO hcb
              have GO := Aside0.mk GO
              have HPLB := Aside0.mk HPLB
              have HCB := Aside0.mk hcb
              clear hg hix hcb hcz
              go_wp2_with fail
              refine (GO.out).mono ?_
              rintro e w6 ⟨rfl, B6⟩
              have BP6 := BPj.out.below B6
              have PC := place_any w6 _ _ _ _ Q other BP6.rows (HOj.out.below reads_int B6) (by omega) (by omega)
              rw [HPLB.out] at PC
              have PC := Aside0.mk PC
              have BP6 := Aside0.mk BP6
              have BE6 := Aside0.mk (below_trans BEj.out B6 hjs)
              clear GO BPj BEj HOj B6
              go_wp2_with fail
              refine (PC.out).mono ?_
              rintro e w7 ⟨rfl, hd⟩
              have BP7 := Aside0.mk (BP6.out.below hd.below)
              have BE7 := Aside0.mk (below_trans BE6.out hd.below BE6.out.size)
              obtain ⟨br, or_, ur, hAr, _, _, hc1, hur⟩ := BP7.out.rows.at_ k hkl
              subst hAr
              obtain ⟨Ah, ch, huf, hch⟩ := hur.form
              subst huf
              have hrl := (HGQ.out.row _ (List.getElem_mem hkl)).1
              have hwl : n < (Q[k]).length := by omega
              obtain ⟨bx, ox, ux, hAh, _, _, hcx, hux, _⟩ := hur.at_ n hwl
              subst hAh
              subst hux
              have hcy : Q[k][n] = cz := by rw [HCB.out, List.getD_eq_getElem?_getD, List.getElem?_eq_getElem hwl]; rfl
              rw [hcy] at hcx
              rw [hrl] at hc1
              have hmx : max (k : Int) 0 = (k : Int) := by omega
              have n2 : (n : Int) < (n : Int) + 1 := by omega
              have n3 : (k : Int) < (Q.length : Int) := by omega
              clear PC BP6 BE6 hd HPLB HCB hur hrl hcy hch
              have LB := blen_any w7 _ _ _ F great R BP7.out.best.1
              rw [← HQR.out] at LB
              have LB := Aside0.mk LB
              have SG := bseg_any w7 _ _ _ F great R BP7.out.best.1
              rw [← HNP.out] at SG
              have SG := Aside0.mk SG
              have h7s := BE7.out.size
              go_wp2_with (first | (go_at_call 16; (with_reducible refine (LB.out).mono ?_); rintro e w' ⟨rfl, rfl⟩))
              refine (SG.out).mono ?_
              rintro e w8 ⟨v8, rfl, S8, B8⟩
              obtain ⟨g8, cv8, hv8, _⟩ := S8.ex
              subst hv8
              have SO := Aside0.mk (sorted_any w8 _ _ (n + 1) Q (BP7.out.rows.below reads_row B8) (by omega) (by omega))
              have S8 := Aside0.mk S8
              have BE8 := Aside0.mk (below_trans BE7.out B8 h7s)
              have h8s := BE8.out.size
              clear LB SG B8 BP7 BE7
              go_wp2_with fail
              refine (SO.out).mono ?_
              rintro e w9 ⟨v9, rfl, R9, B9⟩
              have IS := Aside0.mk (is_same w9 _ _ g8 (n + 1) _ _ (S8.out.below B9) R9)
              have BE9 := Aside0.mk (below_trans BE8.out B9 h8s)
              obtain ⟨A9, c9, hv9, _⟩ := R9.form
              subst hv9
              clear SO S8 B9 R9 BE8
              go_wp2_with fail
              refine (IS.out).mono ?_
              rintro e w10 ⟨rfl, B10⟩
              have BE10 := Aside0.mk (below_trans BE9.out B10 BE9.out.size)
              clear IS B10 BE9
              go_wp2
              go_ret
              exact ⟨rfl, BE10.out⟩
          · have honi : ((other.length : Int) == (n : Int)) = false := by rw [beq_eq_false_iff_ne]; omega
            have HON := Aside0.mk hon
            clear hon
            have hg : getB n Q other = none := by
              unfold getB
              cases hix : idxB n Q other with
              | none => rfl
              | some k => exact absurd (idxB_len HGQ.out hix).1 HON.out
            rw [hg] at GO
            simp only [Option.getD_none, Option.isSome_none] at GO
            have GO := Aside0.mk GO
            clear hg
            go_wp2_with fail
            refine (GO.out).mono ?_
            rintro e w7 ⟨rfl, B7⟩
            have BP7 := Aside0.mk (BPj.out.below B7)
            have BE7 := Aside0.mk (below_trans BEj.out B7 hjs)
            clear GO BPj BEj HOj B7
            have LB := blen_any w7 _ _ _ F great R BP7.out.best.1
            rw [← HQR.out] at LB
            have LB := Aside0.mk LB
            have SG := bseg_any w7 _ _ _ F great R BP7.out.best.1
            rw [← HNP.out] at SG
            have SG := Aside0.mk SG
            have h7s := BE7.out.size
            go_wp2_with (first | (go_at_call 16; (with_reducible refine (LB.out).mono ?_); rintro e w' ⟨rfl, rfl⟩))
            refine (SG.out).mono ?_
            rintro e w8 ⟨v8, rfl, S8, B8⟩
            obtain ⟨g8, cv8, hv8, _⟩ := S8.ex
            subst hv8
            have SO := Aside0.mk (sorted_any w8 _ _ (n + 1) Q (BP7.out.rows.below reads_row B8) (by omega) (by omega))
            have S8 := Aside0.mk S8
            have BE8 := Aside0.mk (below_trans BE7.out B8 h7s)
            have h8s := BE8.out.size
            clear LB SG B8 BP7 BE7
            go_wp2_with fail
            refine (SO.out).mono ?_
            rintro e w9 ⟨v9, rfl, R9, B9⟩
            have IS := Aside0.mk (is_same w9 _ _ g8 (n + 1) _ _ (S8.out.below B9) R9)
            have BE9 := Aside0.mk (below_trans BE8.out B9 h8s)
            obtain ⟨A9, c9, hv9, _⟩ := R9.form
            subst hv9
            clear SO S8 B9 R9 BE8
            go_wp2_with fail
            refine (IS.out).mono ?_
            rintro e w10 ⟨rfl, B10⟩
            have BE10 := Aside0.mk (below_trans BE9.out B10 BE9.out.size)
            clear IS B10 BE9
            go_wp2
            go_ret
            exact ⟨rfl, BE10.out⟩
end Go.Proofs.Ytalbgdbphdhhaaa.Sg
