/- BestAdds: rows added in several relations: those that are the best ones now and were not before. The walk. -/
import Derived.Test.YtalbgdbphdhhaaaSgCf
namespace Go.Proofs.Ytalbgdbphdhhaaa.Sg
open Go.RowKit Go.Shelf
set_option linter.unusedVariables false
set_option linter.unusedSimpArgs false

theorem page_good {n : Nat} {great : Bool} {Q R L : List Row} (hR : GoodB n R) (p : Q.Perm R) (hL : ∀ r ∈ L, r.length = n + 1 ∧ ∀ x ∈ r, In64 x) : GoodB n (pageAll n great Q L) := (allA_good hR hL).perm (pageAll_perm hR p hL)
/-- A set that a call hands back, at its pointer. -/
theorem retZ {P : Program} {f : FuncId} {args : Array Value} {w : World} {ok : Nat → Prop} {n : Nat} {L : List Row} {B : World → Prop} (h : Calls P f args w fun e w' => ∃ v, e = .returned v ∧ SegAt w' ok v n L ∧ B w') : Calls P f args w fun e w' => ∃ g, e = .returned (.pointer (some ⟨g, 0, none⟩)) ∧ SegAt w' ok (.pointer (some ⟨g, 0, none⟩)) n L ∧ B w' :=
  h.mono fun e w' ⟨v, h1, h2, h3⟩ => by
    obtain ⟨g, cv, hv, _⟩ := h2.ex
    subst hv
    exact ⟨g, h1, h2, h3⟩
/-- A list of one row of zeros. -/
theorem zero_rows (w : World) (n : Nat) (hn : n < 1000) : RowsAt ((w.alloc (.cells (madeCells #[.int .i64 0] (n + 2)) 2)).alloc (.cells #[.slice (some ⟨w.heap.size, 0, none⟩) (n + 2) (n + 2)] 23)) (w.heap.size ≤ ·) (.slice (some ⟨w.heap.size + 1, 0, none⟩) 1 1) [List.replicate (n + 2) (0 : Int)] := by
  have h1 := RowAt.of_own' (owns_new w w.heap.size 2 (n + 2) (.int .i64 0) (Nat.le_refl _) (by omega)) (xs := List.replicate (n + 2) (0 : Int)) (by simp) (by simp) (by simp; omega) (fun x hx => by rw [(List.mem_replicate.1 hx).2]; unfold In64; omega)
  obtain ⟨W0, hW0⟩ : ∃ W0, w.alloc (.cells (madeCells #[.int .i64 0] (n + 2)) 2) = W0 := ⟨_, rfl⟩
  have hz : W0.heap.size = w.heap.size + 1 := by rw [← hW0]; simp
  rw [hW0] at h1 ⊢
  rw [← hz]
  have h2 := h1.below reads_int (below_alloc0 (Below.refl W0.heap.size W0) (.cells #[.slice (some ⟨w.heap.size, 0, none⟩) (n + 2) (n + 2)] 23))
  have ho : (W0.alloc (.cells #[.slice (some ⟨w.heap.size, 0, none⟩) (n + 2) (n + 2)] 23)).ownsRow w.heap.size 23 1 (.slice (some ⟨W0.heap.size, 0, none⟩) 1 1) 1 [.slice (some ⟨w.heap.size, 0, none⟩) (n + 2) (n + 2)] :=
    ⟨rfl, .inr ⟨W0.heap.size, 1, _, rfl, by omega, heap_alloc_new W0 _, Nat.le_refl _, by unfold maxLen; omega, rfl, rfl⟩⟩
  exact SlAt.of_own0 (E := RowAt) (xs := [List.replicate (n + 2) (0 : Int)]) ho rfl (fun b _ hb => hb) (by simp) (fun j hj u hu => by
    have : j = 0 := by simp at hj; omega
    subst this
    simp at hu
    subst hu
    exact h2)
theorem adds_none {n : Nat} (great : Bool) (R : List Row) (Z : List Row) (h : ∀ r ∈ Z, r.length ≠ n + 1) : newsA n great R Z = [] ∧ (allA n great R Z).1 = R := by
  have key : ∀ (Z : List Row), (∀ r ∈ Z, r.length ≠ n + 1) → ∀ st, Z.foldl (stepA n great) st = st := by
    intro Z
    induction Z with
    | nil => intro _ st; rfl
    | cons r Z ih =>
      intro h st
      rw [List.foldl_cons]
      have : stepA n great st r = st := if_neg (h r (List.mem_cons_self ..))
      rw [this]
      exact ih (fun q hq => h q (List.mem_cons_of_mem _ hq)) st
  have e : allA n great R Z = (R, []) := key Z h (R, [])
  unfold newsA
  rw [e]
  exact ⟨rfl, rfl⟩
theorem filter_take {f : Row → Bool} {L : List Row} {j : Nat} (h : j < L.length) : (L.take (j + 1)).filter f = (L.take j).filter f ++ if f L[j] then [L[j]] else [] := by
  rw [List.take_succ_eq_append_getElem h, List.filter_append, List.filter_cons]; rfl
set_option maxHeartbeats 2000000 in
set_option maxRecDepth 100000 in
theorem BestAdds_walk (x : Int) (great : Bool) (lv : Value) (ls : List (List Row)) (w : World) (hx : In64 x) (hl : SetsAt w (fun _ => True) lv ls) :
    Calls Try.prog 5 #[.int .i64 x, .bool great, lv] w fun e w' => e = .returned (.bool true) ∧ Below w.heap.size w w' := by
  obtain ⟨Al, cl, hlv, _⟩ := hl.form
  subst hlv
  obtain ⟨ir, hir, hr0, hr1, hr2⟩ := info_parts info_rowC
  have HL := Aside0.mk hl
  have HH := Aside0.mk (head10_any w)
  obtain ⟨n, hn, hmn⟩ := mod_u x 4 (by omega) (by omega)
  rw [show ((4 : Nat) : Int) = 4 from rfl] at hmn
  have hw1 : IntKind.i64.wrap ((n : Int) + 1) = ((n + 1 : Nat) : Int) := by rw [IntKind.wrap_i64]; omega
  clear hl hx
  go_enter Try.func5, Try.ntmps5
  go_wp2_with fail
  refine (HH.out).mono ?_
  rintro e w1 ⟨rfl, B1⟩
  have HL1 := Aside0.mk ((reads_sl reads_rows).mono (ok2 := (· < w1.heap.size)) (HL.out.below reads_rows B1) (fun _ _ hb => hb))
  have B1 := Aside0.mk B1
  have h01 := B1.out.size
  clear HL HH
  by_cases hlen : 8 < ls.length
  · have hli : (8 : Int) < (ls.length : Int) := by omega
    go_wp2
    go_ret
    exact ⟨rfl, B1.out⟩
  have hli : ¬ (8 : Int) < (ls.length : Int) := by omega
  have NW := Aside0.mk (new_s w1 n great (by omega))
  go_wp2_with fail
  refine (NW.out).mono ?_
  rintro e w2 ⟨rfl, S2, B2⟩
  have P2 := Aside0.mk (show Bp (w2.alloc (.cells #[] 23)) w1.heap.size (w1.heap.size + 1) _ n great [] [] (.slice (some ⟨w2.heap.size, 0, none⟩) 0 0) from ⟨S2.below (below_alloc0 (Below.refl _ _) _), SlAt.nil _ _ _ _ _ (by omega), List.Perm.refl _⟩)
  have HB2 := Aside0.mk (below_alloc B2 B2.size (.cells #[] 23))
  clear NW S2 B2
  go_wp2_with fail
  go_loopw [8, 35] (fun s8 s35 wr => ∃ (i : Nat) (F : Nat → Prop) (R Q : List Row), s35 = .int .i64 i ∧ i ≤ ls.length ∧ Q.length ≤ 60 * i ∧ R.length ≤ 60 * i ∧ Aside0 (Bp wr w1.heap.size (w1.heap.size + 1) F n great R Q s8) ∧ Aside0 (Below w1.heap.size w1 wr)) (fun _ s35 _ => ls.length - (intOf s35).toNat)
  case atStart => exact ⟨0, _, [], [], rfl, Nat.zero_le _, by simp, by simp, P2, HB2⟩
  case round =>
    obtain ⟨i, F, R, Q, rfl, hi, hQi, hRi, HBp, HB⟩ := hrel
    clear P2 HB2
    have h1s := HB.out.size
    by_cases hlt : i < ls.length
    · obtain ⟨bl, ol, ul, rfl, _, _, hc1, hul⟩ := ((reads_sl reads_rows).stays HL1.out (Stays.of_belowB HB.out)).at_ i hlt
      generalize ls[i] = rs at *
      obtain ⟨Ar, cr, hrv, _⟩ := hul.form
      subst hrv
      obtain ⟨b, hb⟩ : ∃ b, few rs = b := ⟨_, rfl⟩
      have HF := Aside0.mk hb
      have FW := Aside0.mk (few_b wr _ _ rs b hul hb)
      have HR := Aside0.mk hul
      clear hb hul
      have BF := Aside0.mk (below_trans B1.out HB.out h01)
      go_wp2_with fail
      refine (FW.out).mono ?_
      rintro e w' ⟨rfl, rfl⟩
      clear FW
      cases b with
      | false =>
        go_wp2
        go_ret
        exact ⟨rfl, BF.out⟩
      | true =>
      have l1 := (few_yes HF.out).1
      have MK := Aside0.mk (make_any wr _ _ (n + 1) rs HR.out (by omega) (by omega))
      have HLL := norm_length (n + 1) rs
      obtain ⟨S, hS⟩ : ∃ S, norm (n + 1) rs = S := ⟨_, rfl⟩
      rw [hS] at MK HLL
      clear hS HF HR
      go_wp2_with fail
      refine (MK.out).mono ?_
      rintro e w4 ⟨v4, rfl, S4, B4⟩
      obtain ⟨gs, cvs, hv4, _⟩ := S4.ex
      subst hv4
      have HSR := Aside0.mk S4.row
      have P4 := Aside0.mk (HBp.out.below B4)
      have S4 := Aside0.mk (S4.mono (ok2 := fun b => ¬ F b) (fun b hb _ => HBp.out.fresh hb))
      have HB4 := Aside0.mk (HB.out.trans (B4.mono h1s))
      have h4s := HB4.out.size
      have HGR := Aside0.mk HBp.out.best.good.1
      have HPM := Aside0.mk HBp.out.perm
      obtain ⟨Aq, cq, hqv, _⟩ := HBp.out.rows.form
      subst hqv
      clear MK B4 HBp HB
      go_wp2_with fail
      go_loopw [8, 13] (fun s8 s13 wr => ∃ j : Nat, s13 = .int .i64 j ∧ j ≤ S.length ∧ Aside0 (RowsAt wr (fun b => ¬ F b) s8 (pageAll n great Q (S.take j))) ∧ Aside0 (Below w4.heap.size w4 wr)) (fun _ s13 _ => S.length - (intOf s13).toNat)
      case atStart => exact ⟨0, rfl, Nat.zero_le _, ⟨P4.out.rows⟩, ⟨Below.refl _ _⟩⟩
      case round =>
        obtain ⟨j, rfl, hj, HQ, HBj⟩ := hrel
        have S5 := S4.out.below HBj.out
        have LN := Aside0.mk (len_any wr _ _ _ _ S5)
        have hjs := HBj.out.size
        by_cases hjl : j < S.length
        · have RW := Aside0.mk (row_any wr _ _ _ S S[j] j S5 (List.getElem?_eq_getElem hjl))
          have hrr := HSR.out _ (List.getElem_mem hjl)
          have HTK := Aside0.mk (fun r (hr : r ∈ S.take j) => HSR.out r (List.mem_of_mem_take hr))
          have HG := Aside0.mk (page_good (great := great) HGR.out HPM.out HTK.out)
          have HPG := Aside0.mk (pageAll_take (W := n) (great := great) (Q := Q) hjl)
          have hql := pageAll_le n great Q (S.take j)
          rw [List.length_take] at hql
          unfold pageS at HPG
          obtain ⟨QJ, hQJ⟩ : ∃ QJ, pageAll n great Q (S.take j) = QJ := ⟨_, rfl⟩
          rw [hQJ] at HQ HG HPG hql
          generalize S[j] = r at *
          obtain ⟨Aj, cj, hjv, _⟩ := HQ.out.form
          subst hjv
          have HRR := Aside0.mk hrr
          clear S5 hrr hQJ
          go_wp2_with fail
          refine (LN.out).mono ?_
          rintro e w' ⟨rfl, rfl⟩
          clear LN
          go_wp2_with fail
          refine (RW.out).mono ?_
          rintro e w5 ⟨rv, rfl, HR5, B5⟩
          obtain ⟨A5, c5, h5, hc5⟩ := HR5.form
          subst h5
          have hwl : n < r.length := by have := HRR.out.1; omega
          obtain ⟨b5, o5, u5, hA5, _, _, hc6, hu5, hu64⟩ := HR5.at_ n hwl
          subst hA5
          subst hu5
          have hcy : r[n] = r.getD n 0 := by rw [List.getD_eq_getElem?_getD, List.getElem?_eq_getElem hwl]; rfl
          rw [hcy] at hc6 hu64
          have HT := HR5.take n (by omega)
          have HQ5 := HQ.out.below reads_row B5
          have PT := put10_any w5.drew _ _ _ _ QJ (r.take n) great (r.getD n 0) n (HQ5.below reads_row (below_drew (Below.refl _ _))) (SlAt.below reads_int HT (below_drew (Below.refl _ _))) HG.out (by rw [List.length_take]; omega) (by omega) hu64 (by omega)
          obtain ⟨cz, hcz⟩ : ∃ cz, r.getD n 0 = cz := ⟨_, rfl⟩
          rw [hcz] at PT HPG hc6
          have PT := Aside0.mk PT
          have HB5 := Aside0.mk (below_trans0 HBj.out B5)
          have hnc : n ≤ c5 := by omega
          have HRL := Aside0.mk HRR.out.1
          have hrl := HRR.out.1
          obtain ⟨lr, hlr⟩ : ∃ lr, r.length = lr := ⟨_, rfl⟩
          have hln : (n : Int) < (lr : Int) := by omega
          have hni : (n : Int) ≤ (c5 : Int) := by omega
          rw [hlr]
          clear RW HR5 hwl hcy HT HQ5 hcz hc5 hrl hlr HQ
          go_wp2
          go_region_held3 (fun w' => w'.cell? ⟨b5, o5 + n, none⟩ = some (.int .i64 cz)) (first | exact hc6 | go_keep) (((with_reducible refine (PT.out).mono ?_); rintro e w6 ⟨v6, rfl, R6, B6⟩; have R6 := Aside0.mk R6; have HB6 := Aside0.mk B6; have hc7 := below_cell0 B6 (b := b5) (o := o5 + n) (v := .int .i64 cz) (by simpa using hc6); clear B6))
          all_goals
            have h5s := HB5.out.size
            have BN := Aside0.mk (HB5.out.trans ((below_drew (Below.refl w5.heap.size w5)).trans HB6.out |>.mono h5s))
            go_wp2
            go_roundw
            case rel => exact ⟨j + 1, by go_num, by omega, ⟨by rw [HPG.out]; exact reads_rows.mono R6.out (fun b hb _ => hb.elim id (fun h9 hf => by have h8 : w5.drew.heap.size ≤ b := h9; have := P4.out.best.2 b hf; simp at h8; omega))⟩, BN⟩
            case measure => simp [intOf]; omega
        · obtain rfl : j = S.length := by omega
          rw [List.take_length] at HQ
          have S6 := S4.out.below HBj.out
          have LN := Aside0.mk (len_any wr _ _ _ _ S6)
          have S6 := Aside0.mk S6
          have HG1 := Aside0.mk (page_good (great := great) HGR.out HPM.out HSR.out)
          have PP1 := Aside0.mk (pageAll_perm (great := great) HGR.out HPM.out HSR.out)
          have NPG := Aside0.mk (news_page (great := great) HGR.out HPM.out HSR.out)
          have hql := pageAll_le n great Q S
          obtain ⟨Q1, hQ1⟩ : ∃ Q1, pageAll n great Q S = Q1 := ⟨_, rfl⟩
          rw [hQ1] at HQ HG1 PP1 NPG hql
          obtain ⟨A1, c1, hv1, _⟩ := HQ.out.form
          subst hv1
          have HGQ := Aside0.mk (HGR.out.perm HPM.out)
          have P6 := Aside0.mk (P4.out.below HBj.out)
          have HB6 := Aside0.mk (HB4.out.trans (HBj.out.mono h4s))
          have hls := allA_lens n great R S (R, [])
          have hlR : (allA n great R S).1.length ≤ R.length + S.length := hls.1
          obtain ⟨We, hWe⟩ : ∃ We, wr = We := ⟨_, rfl⟩
          subst hWe
          have HQW := Aside0.mk (reads_rows.mono (ok2 := fun b => ¬ F b ∧ b < wr.heap.size) HQ.out (fun b hb hl => ⟨hb, hl⟩))
          obtain ⟨We, hWe⟩ : ∃ We, wr = We := ⟨_, rfl⟩
          rw [hWe] at HQW HQ P6 S6 HB6 LN ⊢
          clear hWe P4 S4 HBj hls
          go_wp2_with fail
          refine (LN.out).mono ?_
          rintro e w' ⟨rfl, rfl⟩
          clear LN
          go_wp2_with fail
          go_loopw [15, 72] (fun s15 s72 wr => ∃ (j : Nat) (cs : List Value), s72 = .int .i64 j ∧ j ≤ Q1.length ∧ Aside0 (BuiltBy RowAt wr We.heap.size 23 (fun b => ¬ F b ∧ b < We.heap.size) s15 ((Q1.take j).filter (isNew n Q)) cs) ∧ Aside0 (Below We.heap.size We wr)) (fun _ s72 _ => Q1.length - (intOf s72).toNat)
          case atStart => exact ⟨0, [], rfl, Nat.zero_le _, ⟨BuiltBy.empty RowAt We We.heap.size _ _ (Nat.le_refl _)⟩, ⟨below_alloc0 (Below.refl _ _) _⟩⟩
          case round =>
            obtain ⟨j, cs, rfl, hj, HBb, HBj⟩ := hrel
            have hws := HBj.out.size
            have hfl : ((Q1.take j).filter (isNew n Q)).length ≤ j := Nat.le_trans (List.length_filter_le _ _) (by rw [List.length_take]; omega)
            by_cases hjl : j < Q1.length
            · obtain ⟨br, or_, ur, hAr, _, _, hc1, hur⟩ := (HQW.out.below reads_row HBj.out).at_ j hjl
              cases hAr
              obtain ⟨Ah, ch, huf, hch⟩ := hur.form
              subst huf
              have hrl := (HG1.out.row _ (List.getElem_mem hjl)).1
              have FT0 := Aside0.mk (filter_take (f := isNew n Q) hjl)
              generalize Q1[j] = r at *
              have hwl : n < r.length := by omega
              obtain ⟨bx, ox, ux, hAh, _, _, hcx, hux, _⟩ := hur.at_ n hwl
              cases hAh
              subst hux
              have hcy : r[n] = r.getD n 0 := by rw [List.getD_eq_getElem?_getD, List.getElem?_eq_getElem hwl]; rfl
              rw [hcy] at hcx
              have HT := hur.take n (by omega)
              have PC := place_any wr _ _ _ _ Q (r.take n) (P6.out.rows.below reads_row HBj.out) HT (by rw [List.length_take]; omega) (by omega)
              rw [placeB HGQ.out (by rw [List.length_take]; omega)] at PC
              have HNW := Aside0.mk (show isNew n Q r = decide (getB n Q (r.take n) ≠ some (r.getD n 0)) from rfl)
              obtain ⟨cz, hcz⟩ : ∃ cz, r.getD n 0 = cz := ⟨_, rfl⟩
              rw [hcz] at hcx HNW
              have HU := Aside0.mk hur
              obtain ⟨lr, hlr⟩ : ∃ lr, r.length = lr := ⟨_, rfl⟩
              rw [hlr] at hc1 HU
              have hln : (n : Int) < (lr : Int) := by omega
              have hnch : n ≤ ch := by omega
              have hni : (n : Int) ≤ (ch : Int) := by omega
              clear hcz hcy hur hrl hlr hch HT
              cases hix : idxB n Q (r.take n) with
              | none =>
                have hnw : isNew n Q r = true := by rw [HNW.out]; unfold getB; rw [hix]; simp
                rw [hnw] at FT0
                have FT := FT0
                simp only [if_true] at FT
                have FT := Aside0.mk FT.out
                rw [hix] at PC
                simp only at PC
                have PC := Aside0.mk PC
                clear hix hnw FT0 HNW
                go_wp2_with fail
                refine (PC.out).mono ?_
                rintro e w7 ⟨rfl, hd⟩
                have hcx7 := below_cell0 hd.below hcx
                have hd := Aside0.mk hd
                clear PC
                have h63 := Aside0.mk (show ((Q1.take j).filter (isNew n Q)).length + 1 ≤ maxLen by unfold maxLen; omega)
                have hby := Aside0.mk (show (((Q1.take j).filter (isNew n Q)).length + 1) * 24 ≤ 140737488355328 by omega)
                have OW := Aside0.mk (fun q : Nat => HBb.out.stays reads_row (Stays.of_below (below_drewN hd.out.below q) (fun _ => True)) (fun _ _ _ => trivial) (fun _ _ => trivial))
                have HU7 := Aside0.mk (fun q : Nat => SlAt.below reads_int HU.out (below_drewN hd.out.below q))
                have BD := Aside0.mk (fun q : Nat => below_trans HBj.out (below_drewN hd.out.below q) hws)
                have hsz := Aside0.mk (fun (q : Nat) ob => (show We.heap.size ≤ ((w7.drewN q).alloc ob).heap.size from Nat.le_trans (BD.out q).size (by simp)))
                go_wp2
                go_quiet (fail)
                all_goals
                  go_wp2_with (at_builtin; refine wpList_append_own_at _ rfl (.tmp 97) (.tmp 99) 28 rfl We.heap.size 23 ir (.slice none 0 0) 1 24 Try.underlying28 hir hr0 hr1 hr2 rfl (by decide) _ _ _ rfl ((OW.out _).own.alloc _) ⟨w7.heap.size, 0, none⟩ 1 1 [Value.slice (some ⟨bx, ox, none⟩) lr ch] rfl rfl (cell_one_new _ _ _) (by simp [Value.oneCell']) h63.out hby.out (by simpa using hsz.out 0 (.cells #[] 0)) ?_; intro v8 w8 ho8 hg8 _ hb8; have NX := Aside0.mk ((OW.out _).append reads_row (HU7.out _) ho8 hg8 (fun k hk e => by have := (HBb.out.own.lt k hk).1; omega)); have B8 := Aside0.mk ((below_alloc (BD.out _) (BD.out _).size _).grown hg8 (by simpa using hsz.out 0 (.cells #[] 0)) (own_below HBb.out.own)); clear ho8 hg8 hb8)
                  go_roundw
                  case rel => exact ⟨j + 1, _, by go_num, by omega, ⟨by rw [FT.out]; exact NX.out⟩, B8⟩
                  case measure => simp [intOf]; omega
              | some k =>
                obtain ⟨hkl, _⟩ := idxB_some hix
                rw [hix] at PC
                simp only at PC
                have PC := Aside0.mk PC
                have hcb := costB_at (W := n) hkl
                have hgb : getB n Q (r.take n) = some (costB n Q k) := by unfold getB; rw [hix]; rfl
                rw [hgb] at HNW
                obtain ⟨cw, hcw⟩ : ∃ cw, costB n Q k = cw := ⟨_, rfl⟩
                rw [hcw] at HNW hcb
                have HCB := Aside0.mk hcb
                clear hix hgb hcw hcb
                go_wp2_with fail
                refine (PC.out).mono ?_
                rintro e w7 ⟨rfl, hd⟩
                have hcx7 := below_cell0 hd.below hcx
                obtain ⟨b9, o9, u9, hA9, _, _, hc9, hu9⟩ := ((P6.out.rows.below reads_row HBj.out).below reads_row hd.below).at_ k hkl
                cases hA9
                obtain ⟨Ag, cg, hgf, _⟩ := hu9.form
                subst hgf
                have hgl := (HGQ.out.row _ (List.getElem_mem hkl)).1
                have hgw : n < (Q[k]).length := by omega
                obtain ⟨bz, oz, uz, hAz, _, _, hcz9, huz, _⟩ := hu9.at_ n hgw
                cases hAz
                subst huz
                have hcy : Q[k][n] = cw := by rw [HCB.out, List.getD_eq_getElem?_getD, List.getElem?_eq_getElem hgw]; rfl
                rw [hcy] at hcz9
                obtain ⟨lg, hlg⟩ : ∃ lg, (Q[k]).length = lg := ⟨_, rfl⟩
                rw [hlg] at hc9
                have hlni : (n : Int) < (lg : Int) := by omega
                have hkqi : (k : Int) < (Q.length : Int) := by omega
                have hd := Aside0.mk hd
                clear PC HCB hcy hgl hu9 hlg
                by_cases hcc : cw = cz
                · have hnw : isNew n Q r = false := by rw [HNW.out, hcc]; simp
                  have FT := FT0.out
                  rw [hnw] at FT
                  simp only [Bool.false_eq_true, if_false, List.append_nil] at FT
                  have FT := Aside0.mk FT
                  subst hcc
                  clear hnw FT0 HNW
                  have OW := Aside0.mk (fun q : Nat => HBb.out.stays reads_row (Stays.of_below (below_drewN hd.out.below q) (fun _ => True)) (fun _ _ _ => trivial) (fun _ _ => trivial))
                  have BD := Aside0.mk (fun q : Nat => below_trans HBj.out (below_drewN hd.out.below q) hws)
                  go_wp2
                  go_quiet (fail)
                  all_goals
                    go_wp2
                    go_roundw
                    case rel => exact ⟨j + 1, _, by go_num, by omega, ⟨by rw [FT.out]; exact OW.out _⟩, ⟨BD.out _⟩⟩
                    case measure => simp [intOf]; omega
                · have hnw : isNew n Q r = true := by rw [HNW.out]; simp [hcc]
                  have FT := FT0.out
                  rw [hnw] at FT
                  simp only [if_true] at FT
                  have FT := Aside0.mk FT
                  have hcbn : (cw != cz) = true := by rw [bne_iff_ne]; exact hcc
                  clear hnw FT0 HNW
                  have h63 := Aside0.mk (show ((Q1.take j).filter (isNew n Q)).length + 1 ≤ maxLen by unfold maxLen; omega)
                  have hby := Aside0.mk (show (((Q1.take j).filter (isNew n Q)).length + 1) * 24 ≤ 140737488355328 by omega)
                  have OW := Aside0.mk (fun q : Nat => HBb.out.stays reads_row (Stays.of_below (below_drewN hd.out.below q) (fun _ => True)) (fun _ _ _ => trivial) (fun _ _ => trivial))
                  have HU7 := Aside0.mk (fun q : Nat => SlAt.below reads_int HU.out (below_drewN hd.out.below q))
                  have BD := Aside0.mk (fun q : Nat => below_trans HBj.out (below_drewN hd.out.below q) hws)
                  have hsz := Aside0.mk (fun (q : Nat) ob => (show We.heap.size ≤ ((w7.drewN q).alloc ob).heap.size from Nat.le_trans (BD.out q).size (by simp)))
                  go_wp2
                  go_quiet (fail)
                  all_goals
                    go_wp2_with (at_builtin; refine wpList_append_own_at _ rfl (.tmp 97) (.tmp 99) 28 rfl We.heap.size 23 ir (.slice none 0 0) 1 24 Try.underlying28 hir hr0 hr1 hr2 rfl (by decide) _ _ _ rfl ((OW.out _).own.alloc _) ⟨w7.heap.size, 0, none⟩ 1 1 [Value.slice (some ⟨bx, ox, none⟩) lr ch] rfl rfl (cell_one_new _ _ _) (by simp [Value.oneCell']) h63.out hby.out (by simpa using hsz.out 0 (.cells #[] 0)) ?_; intro v8 w8 ho8 hg8 _ hb8; have NX := Aside0.mk ((OW.out _).append reads_row (HU7.out _) ho8 hg8 (fun k hk e => by have := (HBb.out.own.lt k hk).1; omega)); have B8 := Aside0.mk ((below_alloc (BD.out _) (BD.out _).size _).grown hg8 (by simpa using hsz.out 0 (.cells #[] 0)) (own_below HBb.out.own)); clear ho8 hg8 hb8)
                    go_roundw
                    case rel => exact ⟨j + 1, _, by go_num, by omega, ⟨by rw [FT.out]; exact NX.out⟩, B8⟩
                    case measure => simp [intOf]; omega
            · obtain rfl : j = Q1.length := by omega
              rw [List.take_length] at HBb
              obtain ⟨WT, hWT⟩ : ∃ WT, Q1.filter (isNew n Q) = WT := ⟨_, rfl⟩
              rw [hWT] at HBb NPG
              have hwl : WT.length ≤ Q1.length := by rw [← hWT]; exact List.length_filter_le _ _
              obtain ⟨Aw, cw, hwv⟩ := own_form HBb.out.own
              subst hwv
              have P7 := P6.out.below HBj.out
              have HQ7 := Aside0.mk (HQ.out.below reads_row HBj.out)
              have HWR := Aside0.mk (show RowsAt wr (fun b => ¬ F b) (.slice Aw WT.length cw) WT from SlAt.of_own0 (E := RowAt) (xs := WT) HBb.out.own rfl (fun b hb hge hf => by have := P6.out.best.2 b hf; omega) (by omega) (fun j hj u hu => reads_row.mono (HBb.out.el j hj u hu) (fun b hb _ => hb.1)))
              have HBW := Aside0.mk (below_trans HB6.out HBj.out (HB6.out.size))
              have AD := Aside0.mk (add_any wr _ _ n F great R P7.best _ _ _ S (S6.out.below HBj.out).n (fun b hb => hb) (by omega))
              have hbs := HBW.out.size
              have HGE := Aside0.mk P7.best.ge
              clear hWT HBb HBj P7 P6 S6 HQ HQW HB6
              go_wp2_with fail
              refine (AD.out).mono ?_
              rintro e w8 ⟨v8, F2, rfl, S8, P8, hF2, K8⟩
              obtain ⟨g8, cv8, hv8, _⟩ := S8.ex
              subst hv8
              have HB8 := Aside0.mk (HBW.out.trans (K8.below hbs (fun b hb hf => by have := HGE.out b hf; omega)))
              have HQ8 := Aside0.mk (rows_put reads_rows HQ7.out hF2 K8)
              have HW8 := rows_put reads_rows HWR.out hF2 K8
              have SO := sorted_any w8 _ _ (n + 1) WT HW8 (by omega) (by omega)
              rw [NPG.out] at SO
              have SO := Aside0.mk SO
              have S8 := Aside0.mk S8
              have P8 := Aside0.mk P8
              have h8s := HB8.out.size
              clear AD hF2 K8 HW8 HQ7 HWR HBW HGE NPG
              go_wp2_with fail
              refine (SO.out).mono ?_
              rintro e w9 ⟨v9, rfl, R9, B9⟩
              obtain ⟨A9, c9, hv9, _⟩ := R9.form
              subst hv9
              have IS := Aside0.mk (is_same w9 _ _ g8 (n + 1) _ _ (S8.out.below B9) R9)
              have HB9 := Aside0.mk (HB8.out.trans (B9.mono h8s))
              have P9 := Aside0.mk (P8.out.below B9)
              have HQ9 := Aside0.mk (HQ8.out.below reads_row B9)
              have h9s := HB9.out.size
              clear SO S8 B9 R9 P8 HQ8 HB8
              go_wp2_with fail
              refine (IS.out).mono ?_
              rintro e w10 ⟨rfl, B10⟩
              have PN := Aside0.mk (show Bp w10 w1.heap.size (w1.heap.size + 1) F2 n great (allA n great R S).1 Q1 (.slice A1 Q1.length c1) from ⟨P9.out.below B10, HQ9.out.below reads_row B10, PP1.out⟩)
              have HB10 := Aside0.mk (HB9.out.trans (B10.mono h9s))
              clear IS B10 P9 HQ9 HB9
              go_wp2
              go_roundw
              case rel => exact ⟨i + 1, F2, _, Q1, by go_num, by omega, by omega, by omega, PN, HB10⟩
              case measure => simp [intOf]; omega
    · obtain rfl : i = ls.length := by omega
      obtain ⟨Aq, cq, hqv, _⟩ := HBp.out.rows.form
      subst hqv
      have hmk := fun w => run_make_row' (P := Try.prog) 23 2 (.int .i64 0) 8 Try.underlying23 info_i64C rfl .i64 .i64 (n + 2) (by omega) (by omega) w
      simp only [show ((n + 2 : Nat) : Int) = (n : Int) + 2 by omega] at hmk
      have hw2 : IntKind.i64.wrap ((n : Int) + 2) = (n : Int) + 2 := by rw [IntKind.wrap_i64]; omega
      have MK := retZ (make_any ((wr.alloc (.cells (madeCells #[.int .i64 0] (n + 2)) 2)).alloc (.cells #[.slice (some ⟨wr.heap.size, 0, none⟩) (n + 2) (n + 2)] 23)) _ _ (n + 2) _ (zero_rows wr n (by omega)) (by omega) (by simp))
      rw [show ((n + 2 : Nat) : Int) = (n : Int) + 2 by omega] at MK
      have hZl := norm_length (n + 2) [List.replicate (n + 2) (0 : Int)]
      have hZw : ∀ r ∈ norm (n + 2) [List.replicate (n + 2) (0 : Int)], r.length = n + 2 := fun r hr => ((mem_norm _ _ r).1 hr).2
      obtain ⟨Z, hZ⟩ : ∃ Z, norm (n + 2) [List.replicate (n + 2) (0 : Int)] = Z := ⟨_, rfl⟩
      rw [hZ] at MK hZl hZw
      have hZl1 : Z.length ≤ 1 := by simpa using hZl
      have HZ1 := Aside0.mk (adds_none (n := n) great R Z (fun r hr => by rw [hZw r hr]; omega))
      have bz : Below wr.heap.size wr ((wr.alloc (.cells (madeCells #[.int .i64 0] (n + 2)) 2)).alloc (.cells #[.slice (some ⟨wr.heap.size, 0, none⟩) (n + 2) (n + 2)] 23)) := below_alloc0 (below_alloc0 (Below.refl _ _) _) _
      have MK := Aside0.mk MK
      have PZ := HBp.out.below bz
      have HBZ := HB.out.trans (bz.mono h1s)
      have PZ := Aside0.mk PZ
      have HBZ := Aside0.mk HBZ
      have hR2 : R.length ≤ 480 := by omega
      have hQ2 : Q.length ≤ 480 := by omega
      clear hZ hZl hZw HBp HB bz
      go_wp2_with fail
      refine (MK.out).mono ?_
      rintro e w4 ⟨gz, rfl, S4, B4⟩
      have P4 := PZ.out.below B4
      have AD := add_any w4 _ _ n F great R P4.best _ _ _ Z (SegAt.mono (ok2 := fun b => ¬ F b) S4 (fun b hb _ => PZ.out.fresh hb)).n (fun b hb => hb) (by omega)
      rw [HZ1.out.1, HZ1.out.2] at AD
      have AD := Aside0.mk AD
      have HB4 := Aside0.mk (HBZ.out.trans (B4.mono HBZ.out.size))
      have P4 := Aside0.mk P4
      clear MK S4 B4 PZ HBZ hmk
      go_wp2_with fail
      refine (AD.out).mono ?_
      rintro e w5 ⟨v5, F2, rfl, S5, P5, hF2, K5⟩
      obtain ⟨g5, cv5, hv5, _⟩ := S5.ex
      subst hv5
      have LN := len_any w5 _ _ _ _ S5
      rw [show (norm (n + 1) ([] : List Row)).length = 0 from rfl] at LN
      have LN := Aside0.mk LN
      have HB5 := Aside0.mk (HB4.out.trans (K5.below HB4.out.size (fun b hb hf => by have := P4.out.best.ge b hf; omega)))
      have BP5 := Aside0.mk (show Bp w5 w1.heap.size (w1.heap.size + 1) F2 n great R Q (.slice Aq Q.length cq) from ⟨P5, rows_put reads_rows P4.out.rows hF2 K5, P4.out.perm⟩)
      have SG := bseg_any w5 _ _ _ F2 great R BP5.out.best.1
      rw [← norm_perm BP5.out.perm] at SG
      have SG := Aside0.mk SG
      have h5s := HB5.out.size
      clear AD P4 S5 P5 hF2 K5 HB4
      go_wp2_with (first | (go_at_call 24; (with_reducible refine (LN.out).mono ?_); rintro e w' ⟨rfl, rfl⟩))
      refine (SG.out).mono ?_
      rintro e w6 ⟨v6, rfl, S6, B6⟩
      obtain ⟨g6, cv6, hv6, _⟩ := S6.ex
      subst hv6
      have SO := Aside0.mk (sorted_any w6 _ _ (n + 1) Q (BP5.out.rows.below reads_row B6) (by omega) (by omega))
      have S6 := Aside0.mk S6
      have HB6 := Aside0.mk (HB5.out.trans (B6.mono h5s))
      have h6s := HB6.out.size
      clear LN SG B6 BP5 HB5
      go_wp2_with fail
      refine (SO.out).mono ?_
      rintro e w7 ⟨v7, rfl, R7, B7⟩
      obtain ⟨A7, c7, hv7, _⟩ := R7.form
      subst hv7
      have IS := Aside0.mk (is_same w7 _ _ g6 (n + 1) _ _ (S6.out.below B7) R7)
      have HB7 := Aside0.mk (HB6.out.trans (B7.mono h6s))
      clear SO S6 B7 R7 HB6
      go_wp2_with fail
      refine (IS.out).mono ?_
      rintro e w8 ⟨rfl, B8⟩
      have BZ := Aside0.mk (below_trans B1.out (HB7.out.trans (B8.mono HB7.out.size)) h01)
      clear IS B8 HB7
      go_wp2
      go_ret
      exact ⟨rfl, BZ.out⟩
end Go.Proofs.Ytalbgdbphdhhaaa.Sg
