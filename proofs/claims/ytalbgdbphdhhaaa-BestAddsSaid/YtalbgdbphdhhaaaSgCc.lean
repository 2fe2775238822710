/- Contract: ergolaw10.put. -/
import Derived.Test.YtalbgdbphdhhaaaSgCb
import Derived.Test.YtalbgdbphdhhaaaSgBn
namespace Go.Proofs.Ytalbgdbphdhhaaa.Sg
open Go.RowKit Go.Shelf
set_option linter.unusedVariables false
set_option linter.unusedSimpArgs false

theorem info_rowC : (Try.prog.info? 23).map (fun i => (i.zero, i.size, i.bytes)) = some (some (.slice none 0 0), 1, 24) := by kernel_rfl
theorem info_i64C : (Try.prog.info? 2).map (fun i => (i.zero, i.size, i.bytes)) = some (some (.int .i64 0), 1, 8) := by kernel_rfl
set_option maxHeartbeats 1000000 in
set_option maxRecDepth 100000 in
theorem put10_any (w : World) (okr okk : Nat → Prop) (rv kv : Value) (rows : List Row) (key : Row) (great : Bool) (cost : Int) (W : Nat) (hR : RowsAt w okr rv rows) (hK : RowAt w okk kv key) (hg : GoodB W rows) (hk : key.length = W) (hW : W < 1000) (hc : In64 cost) (hn : rows.length < 100000) :
    Calls Try.prog 12 #[rv, .bool great, kv, .int .i64 cost] w fun e w' => ∃ v, e = .returned (.tuple #[v, .bool (putL W great rows key cost).2]) ∧ RowsAt w' (fun b => okr b ∨ w.heap.size ≤ b) v (putL W great rows key cost).1 ∧ Below w.heap.size w w' := by
  obtain ⟨Ar, cr, hrv, _⟩ := hR.form
  subst hrv
  obtain ⟨Ak, ck, hkv, hck⟩ := hK.form
  subst hkv
  obtain ⟨ir, hir, hr0, hr1, hr2⟩ := info_parts info_rowC
  obtain ⟨ii, hii, hi0, hi1, hi2⟩ := info_parts info_i64C
  have HKI := Aside0.mk (row_in64 hK)
  have HC := Aside0.mk hc
  have hK4 : key.length < 1000 := by omega
  have HRR := Aside0.mk (reads_rows.mono (ok2 := fun b => okr b ∧ b < w.heap.size) hR (fun b hb hl => ⟨hb, hl⟩))
  have HK := Aside0.mk hK
  have HG := Aside0.mk hg
  have PL := place_any w _ _ _ _ rows key hR hK (by omega) (by omega)
  have hidx : idxP rows key = idxB W rows key := idxP_idxB (fun r hr => (hg.row r hr).1) hk
  have HKW0 := Aside0.mk hk
  clear hR hK hg hc hk
  cases ho' : idxB W rows key with
  | none =>
    have hp : placeI rows key = -1 := by unfold placeI; rw [hidx, ho']
    rw [hp] at PL
    have PL := Aside0.mk PL
    obtain ⟨o, ho0⟩ : ∃ o : Option Nat, o = none := ⟨_, rfl⟩
    have DY := Aside0.mk (show ∀ j : Nat, o = some j → ((j : Int) != -1) = false from fun j h => by rw [ho0] at h; cases h)
    have DN := Aside0.mk (show ∀ j : Nat, ¬ o = some j → ((j : Int) != -1) = true from fun j h => by rw [bne_iff_ne]; omega)
    have QO := Aside0.mk (show eraseO o rows = rows by rw [ho0]; rfl)
    have PUT := Aside0.mk (show ∀ Q, Q = rows → putL W great rows key cost = (Q ++ [key ++ [cost]], true) from fun Q h => by unfold putL; rw [ho', h])
    clear ho0 ho' hidx hp
    go_enter Try.func12, Try.ntmps12
    go_wp2_with fail
    refine (PL.out).mono ?_
    rintro e w1 ⟨rfl, q, hw1⟩
    have BW1 := Aside0.mk (show Below w.heap.size w w1 by rw [hw1]; exact below_drewN (Below.refl _ _) q)
    obtain ⟨W1, hW1⟩ : ∃ W1, w1 = W1 := ⟨_, rfl⟩
    subst hW1
    clear PL hw1
    go_wp2_with fail
    go_loopw [11, 37] (fun s11 s37 wr => ∃ (j : Nat) (cs : List Value), s37 = .int .i64 j ∧ j ≤ rows.length ∧ Aside0 (BuiltBy RowAt wr w.heap.size 23 (fun b => okr b ∧ b < w.heap.size) s11 (upTo o rows j) cs) ∧ Aside0 (Below w.heap.size w wr)) (fun _ s37 _ => rows.length - (intOf s37).toNat)
    case atStart => exact ⟨0, [], rfl, Nat.zero_le _, ⟨by rw [upTo_zero]; exact BuiltBy.empty RowAt w1 w.heap.size _ _ BW1.out.size⟩, ⟨below_alloc BW1.out BW1.out.size _⟩⟩
    case round =>
      obtain ⟨j, cs, rfl, hj, HB, HBW⟩ := hrel
      have hws := HBW.out.size
      by_cases hlt : j < rows.length
      · obtain ⟨br, or_, ur, hAr, _, _, hc1, hur⟩ := (HRR.out.below reads_row HBW.out).at_ j hlt
        cases hAr
        obtain ⟨Ah, ch, huf, _⟩ := hur.form
        subst huf
        have UY := Aside0.mk (fun h => upTo_yes (o := o) hlt h)
        have UN := Aside0.mk (fun h : o = some j => show upTo o rows (j + 1) = upTo o rows j by rw [h]; exact upTo_no hlt)
        have hul := upTo_le o rows j
        have HU := Aside0.mk hur
        obtain ⟨lr, hlr⟩ : ∃ lr, (rows[j]).length = lr := ⟨_, rfl⟩
        rw [hlr] at hc1 HU
        clear hur hlr
        by_cases ho : o = some j
        · have dj := DY.out j ho
          have UN := Aside0.mk (UN.out ho)
          clear UY
          go_wp2
          go_roundw
          case rel => exact ⟨j + 1, cs, by go_num, by omega, ⟨by rw [UN.out]; exact HB.out⟩, HBW⟩
          case measure => simp [intOf]; omega
        · have dj := DN.out j ho
          have UY := Aside0.mk (UY.out ho)
          have h63 := Aside0.mk (show (upTo o rows j).length + 1 ≤ maxLen by unfold maxLen; omega)
          have hby := Aside0.mk (show ((upTo o rows j).length + 1) * 24 ≤ 140737488355328 by omega)
          have hsz := Aside0.mk (fun ob => (show w.heap.size ≤ (wr.alloc ob).heap.size by simp; omega))
          clear UN
          go_wp2_with (at_builtin; refine wpList_append_own_at _ rfl (.tmp 45) (.tmp 47) 28 rfl w.heap.size 23 ir (.slice none 0 0) 1 24 Try.underlying28 hir hr0 hr1 hr2 rfl (by decide) _ _ _ rfl (HB.out.own.alloc _) ⟨wr.heap.size, 0, none⟩ 1 1 [Value.slice Ah lr ch] rfl rfl (cell_one_new _ _ _) (by simp [Value.oneCell']) h63.out hby.out (hsz.out _) ?_; intro v1 w10 ho1 hg _ hb; have NX := Aside0.mk (HB.out.append reads_row HU.out ho1 hg (fun k hk e => by have := (HB.out.own.lt k hk).1; omega)); have B10 := Aside0.mk ((below_alloc HBW.out hws _).grown hg (by simp; omega) (own_below HB.out.own)); clear ho1 hg hb)
          go_roundw
          case rel => exact ⟨j + 1, _, by go_num, by omega, ⟨by rw [UY.out]; exact NX.out⟩, B10⟩
          case measure => simp [intOf]; omega
      · obtain rfl : j = rows.length := by omega
        have hua := upTo_all o rows
        obtain ⟨Q, hQ⟩ : ∃ Q, upTo o rows rows.length = Q := ⟨_, rfl⟩
        have hql := upTo_le o rows rows.length
        rw [hQ] at HB hua hql
        have HQ := Aside0.mk (show putL W great rows key cost = (Q ++ [key ++ [cost]], true) from (PUT.out Q (hua.trans QO.out)))
        have HKW := Aside0.mk (HK.out.below reads_int HBW.out)
        have HKV := Aside0.mk (fun ob => row_vals (SlAt.below reads_int HKW.out (below_alloc0 (Below.refl wr.heap.size wr) ob)))
        have O1 := Aside0.mk (fun e => owns_empty wr wr.heap.size e (Nat.le_refl _))
        have h63a := Aside0.mk (show 0 + key.length ≤ maxLen by unfold maxLen; omega)
        have hbya := Aside0.mk (show (0 + key.length) * 8 ≤ 140737488355328 by omega)
        have h63b := Aside0.mk (show key.length + 1 ≤ maxLen by unfold maxLen; omega)
        have hbyb := Aside0.mk (show (key.length + 1) * 8 ≤ 140737488355328 by omega)
        have h63c := Aside0.mk (show Q.length + 1 ≤ maxLen by unfold maxLen; omega)
        have hbyc := Aside0.mk (show (Q.length + 1) * 24 ≤ 140737488355328 by omega)
        have K1 := Aside0.mk (show ∀ u ∈ key.map (Value.int .i64), u.oneCell' = true from fun u hu => by obtain ⟨z, _, rfl⟩ := List.mem_map.1 hu; rfl)
        have hs1 := Aside0.mk (fun ob => (show wr.heap.size ≤ (wr.alloc ob).heap.size by simp))
        have HIK := Aside0.mk (show ∀ z ∈ key ++ [cost], In64 z from fun z hz => by rcases List.mem_append.1 hz with h | h; exact HKI.out z h; rw [List.mem_singleton.1 h]; exact HC.out)
        have hkl := hK4
        clear hQ hua
        go_wp2_with (first
          | (at_builtin; refine wpList_append_list rfl (.tmp 51) (.tmp 52) 23 rfl wr.heap.size 2 ii (.int .i64 0) 8 Try.underlying23 hii hi0 hi1 hi2 rfl _ _ _ rfl (O1.out _) Ak key.length ck (key.map (Value.int .i64)) rfl (by simp) (HKV.out _) K1.out h63a.out hbya.out (hs1.out _) ?_; intro v5 w5 ho5 hg5 hb5; simp only [Nat.zero_add, List.nil_append] at ho5; have HO5 := Aside0.mk ho5; have BB5 := Aside0.mk ((below_alloc0 (Below.refl wr.heap.size wr) (.cells #[] 2)).grown hg5 (hs1.out _) (fun k hk => by have := Option.some.inj hk; simp at this; omega)); have hz5 := Aside0.mk (fun ob => (show wr.heap.size ≤ (w5.alloc ob).heap.size from Nat.le_trans BB5.out.size (by simp))); obtain ⟨A5, c5, hv5⟩ := own_form ho5; subst hv5; clear ho5 hg5 hb5)
          | (at_builtin; refine wpList_append_own_at _ rfl (.tmp 53) (.tmp 55) 23 rfl wr.heap.size 2 ii (.int .i64 0) 1 8 Try.underlying23 hii hi0 hi1 hi2 rfl (by decide) _ _ _ rfl (HO5.out.alloc _) ⟨w5.heap.size, 0, none⟩ 1 1 [Value.int .i64 cost] rfl rfl (cell_one_new _ _ _) (by simp [Value.oneCell']) h63b.out hbyb.out (hz5.out _) ?_; intro v6 w6 ho6 hg6 _ hb6; have HO6 := Aside0.mk ho6; have BB6 := Aside0.mk ((below_alloc BB5.out BB5.out.size (.cells #[.int .i64 cost] 2)).grown hg6 (hz5.out _) (own_below HO5.out)); have hz6 := Aside0.mk (fun ob => (show w.heap.size ≤ (w6.alloc ob).heap.size from Nat.le_trans hws (Nat.le_trans BB6.out.size (by simp)))); obtain ⟨A6, c6, hv6⟩ := own_form ho6; subst hv6; have HB6 := Aside0.mk (show BuiltBy RowAt w6 w.heap.size 23 (fun b => (okr b ∧ b < w.heap.size) ∨ wr.heap.size ≤ b) _ Q cs from ⟨((HB.out.stays reads_row (Stays.of_below BB6.out (fun _ => True)) (fun _ _ _ => trivial) (fun _ _ => trivial))).own, fun j hj z hz => reads_row.mono ((HB.out.stays reads_row (Stays.of_below BB6.out (fun _ => True)) (fun _ _ _ => trivial) (fun _ _ => trivial)).el j hj z hz) (fun b hb _ => .inl hb)⟩); clear ho6 hg6 hb6)
          | (at_builtin; refine wpList_append_own_at _ rfl (.tmp 50) (.tmp 57) 28 rfl w.heap.size 23 ir (.slice none 0 0) 1 24 Try.underlying28 hir hr0 hr1 hr2 rfl (by decide) _ _ _ rfl (HB6.out.own.alloc _) ⟨w6.heap.size, 0, none⟩ 1 1 [Value.slice A6 (key.length + 1) c6] rfl rfl (cell_one_new _ _ _) (by simp [Value.oneCell']) h63c.out hbyc.out (hz6.out _) ?_; intro v7 w7 ho7 hg7 _ hb7; have RX := RowAt.of_own' HO6.out (xs := key ++ [cost]) (by simp) (by simp) (by simp; omega) HIK.out; have NX := Aside0.mk (HB6.out.append reads_row (x := key ++ [cost]) (reads_row.mono RX (fun b hb _ => .inr hb)) ho7 hg7 (fun k hk e => by have h1 := (HB.out.own.lt k hk).1; have h2 := (HB.out.own.lt k hk).2; rcases e with e | e <;> omega)); have B7 := Aside0.mk ((below_alloc (below_trans HBW.out BB6.out hws) (Nat.le_trans hws BB6.out.size) (.cells #[.slice A6 (key.length + 1) c6] 23)).grown hg7 (hz6.out _) (own_below HB.out.own)); clear ho7 hg7 hb7 RX))
        go_ret2
        refine ⟨_, by rw [HQ.out]; rfl, ?_, B7.out⟩
        rw [HQ.out]
        exact SlAt.of_own0 (E := RowAt) (xs := Q ++ [key ++ [cost]]) NX.out.own rfl (fun b _ hb => .inr hb) (by simp; omega) (fun j hj u hu => reads_row.mono (NX.out.el j hj u hu) (fun b hb _ => hb.elim (fun h => .inl h.1) (fun h => .inr (Nat.le_trans hws h))))
  | some i =>
    obtain ⟨hil, hik⟩ := idxB_some ho'
    have hp : placeI rows key = (i : Int) := by unfold placeI; rw [hidx, ho']
    rw [hp] at PL
    have PL := Aside0.mk PL
    have hrl := (HG.out.row _ (List.getElem_mem hil)).1
    have hcb : costB W rows i = rows[i].getD W 0 := costB_at hil
    obtain ⟨bb, hbb⟩ : ∃ bb, betterB great cost (costB W rows i) = bb := ⟨_, rfl⟩
    have HBB := Aside0.mk hbb
    obtain ⟨o, ho0⟩ : ∃ o : Option Nat, o = some i := ⟨_, rfl⟩
    have DY := Aside0.mk (show ∀ j : Nat, o = some j → ((j : Int) != (i : Int)) = false from fun j h => by rw [ho0] at h; cases h; simp)
    have DN := Aside0.mk (show ∀ j : Nat, ¬ o = some j → ((j : Int) != (i : Int)) = true from fun j h => by rw [bne_iff_ne]; intro e; exact h (by rw [ho0]; congr 1; omega))
    have QO := Aside0.mk (show eraseO o rows = rows.eraseIdx i by rw [ho0]; rfl)
    have HO' := Aside0.mk ho'
    have HCB := Aside0.mk hcb
    have HRL0 := Aside0.mk hrl
    clear hrl ho0 ho' hidx hp hbb hcb hik
    go_enter Try.func12, Try.ntmps12
    go_wp2_with fail
    refine (PL.out).mono ?_
    rintro e w1 ⟨rfl, q, hw1⟩
    have BW1 := Aside0.mk (show Below w.heap.size w w1 by rw [hw1]; exact below_drewN (Below.refl _ _) q)
    obtain ⟨br, or_, ur, hAr, _, _, hc1, hur⟩ := (HRR.out.below reads_row BW1.out).at_ i hil
    subst hAr
    obtain ⟨Ah, ch, huf, _⟩ := hur.form
    subst huf
    have hrl := HRL0.out
    have hwl : W < (rows[i]).length := by omega
    obtain ⟨bx, ox, ux, hAh, _, _, hcx, hux, _⟩ := hur.at_ W hwl
    subst hAh
    subst hux
    have hcy : rows[i][W] = costB W rows i := by rw [HCB.out, List.getD_eq_getElem?_getD, List.getElem?_eq_getElem hwl]; rfl
    rw [hcy] at hcx
    have hkw := HKW0.out
    rw [← hkw] at hcx hrl
    obtain ⟨cz, hcz⟩ : ∃ cz, costB W rows i = cz := ⟨_, rfl⟩
    rw [hcz] at HBB
    rw [hkw, hcz, ← hkw] at hcx
    have BT := better10_any w1 great cost cz
    rw [HBB.out] at BT
    have BT := Aside0.mk BT
    rw [hrl] at hc1
    have HCZ := Aside0.mk hcz
    have HRL := Aside0.mk hrl
    have ik1 : (key.length : Int) < (key.length : Int) + 1 := by omega
    clear PL hw1 hur hcy hkw hcz hrl HCB
    cases bb with
    | false =>
      have HQ := Aside0.mk (show putL W great rows key cost = (rows, false) by unfold putL; rw [HO'.out]; simp only; rw [HCZ.out, HBB.out]; rfl)
      go_wp2_with (first | (go_at_call 28; (with_reducible refine (BT.out).mono ?_); rintro e w' ⟨rfl, rfl⟩))
      go_ret2
      refine ⟨_, by rw [HQ.out]; rfl, ?_, BW1.out⟩
      rw [HQ.out]
      exact reads_rows.mono (HRR.out.below reads_row BW1.out) (fun b hb _ => .inl hb.1)
    | true =>
    have PUT := Aside0.mk (show ∀ Q, Q = rows.eraseIdx i → putL W great rows key cost = (Q ++ [key ++ [cost]], true) from fun Q h => by unfold putL; rw [HO'.out]; simp only; rw [HCZ.out, HBB.out, h]; rfl)
    go_wp2_with (first | (go_at_call 28; (with_reducible refine (BT.out).mono ?_); rintro e w' ⟨rfl, rfl⟩))
    clear BT hc1 hcx
    go_loopw [11, 37] (fun s11 s37 wr => ∃ (j : Nat) (cs : List Value), s37 = .int .i64 j ∧ j ≤ rows.length ∧ Aside0 (BuiltBy RowAt wr w.heap.size 23 (fun b => okr b ∧ b < w.heap.size) s11 (upTo o rows j) cs) ∧ Aside0 (Below w.heap.size w wr)) (fun _ s37 _ => rows.length - (intOf s37).toNat)
    case atStart => exact ⟨0, [], rfl, Nat.zero_le _, ⟨by rw [upTo_zero]; exact BuiltBy.empty RowAt w1 w.heap.size _ _ BW1.out.size⟩, ⟨below_alloc BW1.out BW1.out.size _⟩⟩
    case round =>
      obtain ⟨j, cs, rfl, hj, HB, HBW⟩ := hrel
      have hws := HBW.out.size
      by_cases hlt : j < rows.length
      · obtain ⟨br, or_, ur, hAr, _, _, hc1, hur⟩ := (HRR.out.below reads_row HBW.out).at_ j hlt
        cases hAr
        obtain ⟨Ah, ch, huf, _⟩ := hur.form
        subst huf
        have UY := Aside0.mk (fun h => upTo_yes (o := o) hlt h)
        have UN := Aside0.mk (fun h : o = some j => show upTo o rows (j + 1) = upTo o rows j by rw [h]; exact upTo_no hlt)
        have hul := upTo_le o rows j
        have HU := Aside0.mk hur
        obtain ⟨lr, hlr⟩ : ∃ lr, (rows[j]).length = lr := ⟨_, rfl⟩
        rw [hlr] at hc1 HU
        clear hur hlr
        by_cases ho : o = some j
        · have dj := DY.out j ho
          have UN := Aside0.mk (UN.out ho)
          clear UY
          go_wp2
          go_roundw
          case rel => exact ⟨j + 1, cs, by go_num, by omega, ⟨by rw [UN.out]; exact HB.out⟩, HBW⟩
          case measure => simp [intOf]; omega
        · have dj := DN.out j ho
          have UY := Aside0.mk (UY.out ho)
          have h63 := Aside0.mk (show (upTo o rows j).length + 1 ≤ maxLen by unfold maxLen; omega)
          have hby := Aside0.mk (show ((upTo o rows j).length + 1) * 24 ≤ 140737488355328 by omega)
          have hsz := Aside0.mk (fun ob => (show w.heap.size ≤ (wr.alloc ob).heap.size by simp; omega))
          clear UN
          go_wp2_with (at_builtin; refine wpList_append_own_at _ rfl (.tmp 45) (.tmp 47) 28 rfl w.heap.size 23 ir (.slice none 0 0) 1 24 Try.underlying28 hir hr0 hr1 hr2 rfl (by decide) _ _ _ rfl (HB.out.own.alloc _) ⟨wr.heap.size, 0, none⟩ 1 1 [Value.slice Ah lr ch] rfl rfl (cell_one_new _ _ _) (by simp [Value.oneCell']) h63.out hby.out (hsz.out _) ?_; intro v1 w10 ho1 hg _ hb; have NX := Aside0.mk (HB.out.append reads_row HU.out ho1 hg (fun k hk e => by have := (HB.out.own.lt k hk).1; omega)); have B10 := Aside0.mk ((below_alloc HBW.out hws _).grown hg (by simp; omega) (own_below HB.out.own)); clear ho1 hg hb)
          go_roundw
          case rel => exact ⟨j + 1, _, by go_num, by omega, ⟨by rw [UY.out]; exact NX.out⟩, B10⟩
          case measure => simp [intOf]; omega
      · obtain rfl : j = rows.length := by omega
        have hua := upTo_all o rows
        obtain ⟨Q, hQ⟩ : ∃ Q, upTo o rows rows.length = Q := ⟨_, rfl⟩
        have hql := upTo_le o rows rows.length
        rw [hQ] at HB hua hql
        have HQ := Aside0.mk (show putL W great rows key cost = (Q ++ [key ++ [cost]], true) from (PUT.out Q (hua.trans QO.out)))
        have HKW := Aside0.mk (HK.out.below reads_int HBW.out)
        have HKV := Aside0.mk (fun ob => row_vals (SlAt.below reads_int HKW.out (below_alloc0 (Below.refl wr.heap.size wr) ob)))
        have O1 := Aside0.mk (fun e => owns_empty wr wr.heap.size e (Nat.le_refl _))
        have h63a := Aside0.mk (show 0 + key.length ≤ maxLen by unfold maxLen; omega)
        have hbya := Aside0.mk (show (0 + key.length) * 8 ≤ 140737488355328 by omega)
        have h63b := Aside0.mk (show key.length + 1 ≤ maxLen by unfold maxLen; omega)
        have hbyb := Aside0.mk (show (key.length + 1) * 8 ≤ 140737488355328 by omega)
        have h63c := Aside0.mk (show Q.length + 1 ≤ maxLen by unfold maxLen; omega)
        have hbyc := Aside0.mk (show (Q.length + 1) * 24 ≤ 140737488355328 by omega)
        have K1 := Aside0.mk (show ∀ u ∈ key.map (Value.int .i64), u.oneCell' = true from fun u hu => by obtain ⟨z, _, rfl⟩ := List.mem_map.1 hu; rfl)
        have hs1 := Aside0.mk (fun ob => (show wr.heap.size ≤ (wr.alloc ob).heap.size by simp))
        have HIK := Aside0.mk (show ∀ z ∈ key ++ [cost], In64 z from fun z hz => by rcases List.mem_append.1 hz with h | h; exact HKI.out z h; rw [List.mem_singleton.1 h]; exact HC.out)
        have hkl := hK4
        clear hQ hua
        go_wp2_with (first
          | (at_builtin; refine wpList_append_list rfl (.tmp 51) (.tmp 52) 23 rfl wr.heap.size 2 ii (.int .i64 0) 8 Try.underlying23 hii hi0 hi1 hi2 rfl _ _ _ rfl (O1.out _) Ak key.length ck (key.map (Value.int .i64)) rfl (by simp) (HKV.out _) K1.out h63a.out hbya.out (hs1.out _) ?_; intro v5 w5 ho5 hg5 hb5; simp only [Nat.zero_add, List.nil_append] at ho5; have HO5 := Aside0.mk ho5; have BB5 := Aside0.mk ((below_alloc0 (Below.refl wr.heap.size wr) (.cells #[] 2)).grown hg5 (hs1.out _) (fun k hk => by have := Option.some.inj hk; simp at this; omega)); have hz5 := Aside0.mk (fun ob => (show wr.heap.size ≤ (w5.alloc ob).heap.size from Nat.le_trans BB5.out.size (by simp))); obtain ⟨A5, c5, hv5⟩ := own_form ho5; subst hv5; clear ho5 hg5 hb5)
          | (at_builtin; refine wpList_append_own_at _ rfl (.tmp 53) (.tmp 55) 23 rfl wr.heap.size 2 ii (.int .i64 0) 1 8 Try.underlying23 hii hi0 hi1 hi2 rfl (by decide) _ _ _ rfl (HO5.out.alloc _) ⟨w5.heap.size, 0, none⟩ 1 1 [Value.int .i64 cost] rfl rfl (cell_one_new _ _ _) (by simp [Value.oneCell']) h63b.out hbyb.out (hz5.out _) ?_; intro v6 w6 ho6 hg6 _ hb6; have HO6 := Aside0.mk ho6; have BB6 := Aside0.mk ((below_alloc BB5.out BB5.out.size (.cells #[.int .i64 cost] 2)).grown hg6 (hz5.out _) (own_below HO5.out)); have hz6 := Aside0.mk (fun ob => (show w.heap.size ≤ (w6.alloc ob).heap.size from Nat.le_trans hws (Nat.le_trans BB6.out.size (by simp)))); obtain ⟨A6, c6, hv6⟩ := own_form ho6; subst hv6; have HB6 := Aside0.mk (show BuiltBy RowAt w6 w.heap.size 23 (fun b => (okr b ∧ b < w.heap.size) ∨ wr.heap.size ≤ b) _ Q cs from ⟨((HB.out.stays reads_row (Stays.of_below BB6.out (fun _ => True)) (fun _ _ _ => trivial) (fun _ _ => trivial))).own, fun j hj z hz => reads_row.mono ((HB.out.stays reads_row (Stays.of_below BB6.out (fun _ => True)) (fun _ _ _ => trivial) (fun _ _ => trivial)).el j hj z hz) (fun b hb _ => .inl hb)⟩); clear ho6 hg6 hb6)
          | (at_builtin; refine wpList_append_own_at _ rfl (.tmp 50) (.tmp 57) 28 rfl w.heap.size 23 ir (.slice none 0 0) 1 24 Try.underlying28 hir hr0 hr1 hr2 rfl (by decide) _ _ _ rfl (HB6.out.own.alloc _) ⟨w6.heap.size, 0, none⟩ 1 1 [Value.slice A6 (key.length + 1) c6] rfl rfl (cell_one_new _ _ _) (by simp [Value.oneCell']) h63c.out hbyc.out (hz6.out _) ?_; intro v7 w7 ho7 hg7 _ hb7; have RX := RowAt.of_own' HO6.out (xs := key ++ [cost]) (by simp) (by simp) (by simp; omega) HIK.out; have NX := Aside0.mk (HB6.out.append reads_row (x := key ++ [cost]) (reads_row.mono RX (fun b hb _ => .inr hb)) ho7 hg7 (fun k hk e => by have h1 := (HB.out.own.lt k hk).1; have h2 := (HB.out.own.lt k hk).2; rcases e with e | e <;> omega)); have B7 := Aside0.mk ((below_alloc (below_trans HBW.out BB6.out hws) (Nat.le_trans hws BB6.out.size) (.cells #[.slice A6 (key.length + 1) c6] 23)).grown hg7 (hz6.out _) (own_below HB.out.own)); clear ho7 hg7 hb7 RX))
        go_ret2
        refine ⟨_, by rw [HQ.out]; rfl, ?_, B7.out⟩
        rw [HQ.out]
        exact SlAt.of_own0 (E := RowAt) (xs := Q ++ [key ++ [cost]]) NX.out.own rfl (fun b _ hb => .inr hb) (by simp; omega) (fun j hj u hu => reads_row.mono (NX.out.el j hj u hu) (fun b hb _ => hb.elim (fun h => .inl h.1) (fun h => .inr (Nat.le_trans hws h))))
end Go.Proofs.Ytalbgdbphdhhaaa.Sg
