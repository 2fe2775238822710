/- MergeRows: the rows of many sets, merged. -/
import Derived.Test.YtcaonlddhbgnjaaSgMd
import Derived.Test.YtcaonlddhbgnjaaHiG
namespace Go.Proofs.Ytcaonlddhbgnjaa.Mg
open Go.RowKit Go.Shelf Go.Proofs.Ytcaonlddhbgnjaa.Sg Go.Proofs.Ytcaonlddhbgnjaa.Hm Go.Proofs.Ytcaonlddhbgnjaa.Hc
attribute [local go_sem] Oper.semAt_some
set_option linter.unusedVariables false
set_option linter.unusedSimpArgs false

theorem and_mask6 (x : Int) (c : Nat) (hc : c < 9223372036854775808) : ∃ m : Nat, m ≤ c ∧ bits .and .i64 x (c : Int) = (m : Int) := by
  refine ⟨(BitVec.ofInt 64 x &&& BitVec.ofInt 64 (c : Int)).toNat, ?_, ?_⟩
  · rw [BitVec.toNat_and]
    refine Nat.le_trans Nat.and_le_right ?_
    rw [BitVec.ofInt_natCast, BitVec.toNat_ofNat]
    exact Nat.mod_le _ _
  · have h : (BitVec.ofInt 64 x &&& BitVec.ofInt 64 (c : Int)).toNat ≤ c := by
      rw [BitVec.toNat_and]
      refine Nat.le_trans Nat.and_le_right ?_
      rw [BitVec.ofInt_natCast, BitVec.toNat_ofNat]
      exact Nat.mod_le _ _
    show IntKind.i64.wrap _ = _
    rw [IntKind.wrap_i64]
    have e : ∀ k : Nat, k ≤ c → ((k : Int) + 9223372036854775808) % 18446744073709551616 - 9223372036854775808 = (k : Int) := by intro k hk; omega
    exact e _ h
/-! ### plain -/
theorem rlt_ne {a b : Row} (h : rlt a b) : a ≠ b := by
  rintro rfl
  unfold rlt at h
  rw [rowCmp_self] at h
  exact absurd h (by decide)
def sameN (q : Row) (l : List Row) : Nat := l.countP fun r => decide (cmp5 r q = 0)
def hasN (q : Row) (RS : List (List Row)) : Nat := RS.countP fun s => decide (q ∈ s)
theorem cmp5_zero (a b : Row) : cmp5 a b = 0 ↔ a = b := (cmp5_neg a b).2.trans (rowCmp_zero a b)
theorem sameN_ss (q : Row) : ∀ s : List Row, SS s → sameN q s = if q ∈ s then 1 else 0
  | [], _ => rfl
  | a :: s, h => by
    obtain ⟨h1, h2⟩ := List.pairwise_cons.1 h
    have ih := sameN_ss q s h2
    unfold sameN at *
    rw [List.countP_cons, ih]
    by_cases e : a = q
    · subst e
      have hn : a ∉ s := fun hm => rlt_ne (h1 a hm) rfl
      rw [if_neg hn, if_pos (by simpa using (cmp5_zero a a).2 rfl), if_pos (by simp)]
    · have h9 : decide (cmp5 a q = 0) = false := by simpa using fun h => e ((cmp5_zero a q).1 h)
      have : (q ∈ a :: s) ↔ q ∈ s := by simp; intro h; exact absurd h.symm e
      simp only [this, h9]
      simp
theorem sameN_flat (q : Row) : ∀ RS : List (List Row), (∀ s ∈ RS, SS s) → sameN q RS.flatten = hasN q RS
  | [], _ => rfl
  | s :: RS, h => by
    have ih := sameN_flat q RS (fun t ht => h t (by simp [ht]))
    have hs := sameN_ss q s (h s (by simp))
    unfold sameN hasN at *
    rw [List.flatten_cons, List.countP_append, hs, ih, List.countP_cons]
    by_cases e : q ∈ s
    · simp [e]; omega
    · simp [e]
theorem sameN_merged {RS : List (List Row)} {got : List Row} (h : Merged RS.flatten got) (hs : ∀ s ∈ RS, SS s) (q : Row) : sameN q got = hasN q RS := by
  rw [← sameN_flat q RS hs]
  exact h.1.countP_eq _
theorem merged_le {flat got : List Row} (h : Merged flat got) {k : Nat} (hk : k + 1 < got.length) : ¬ 0 < cmp5 (got[k]'(by omega)) got[k + 1] := by
  have h1 : Le got[k] got[k + 1] := List.pairwise_iff_getElem.1 h.2 k (k + 1) (by omega) hk (by omega)
  unfold Le at h1
  have h2 := cmp5_neg (got[k]'(by omega)) got[k + 1]
  omega
theorem sameN_take (q : Row) (l : List Row) {j : Nat} (hj : j < l.length) : sameN q (l.take (j + 1)) = sameN q (l.take j) + (if cmp5 l[j] q = 0 then 1 else 0) := by
  unfold sameN
  rw [List.take_succ_eq_append_getElem hj, List.countP_append, List.countP_cons]
  simp
theorem hasN_take (q : Row) (l : List (List Row)) {j : Nat} (hj : j < l.length) : hasN q (l.take (j + 1)) = hasN q (l.take j) + (if q ∈ l[j] then 1 else 0) := by
  unfold hasN
  rw [List.take_succ_eq_append_getElem hj, List.countP_append, List.countP_cons]
  simp
theorem flat_len (n : Nat) : ∀ Ls : List (List Row), (∀ l ∈ Ls, l.length ≤ 60) → ((Ls.map (norm n)).flatten).length ≤ 60 * Ls.length
  | [], _ => by simp
  | l :: Ls, h => by
    have ih := flat_len n Ls (fun t ht => h t (by simp [ht]))
    have h1 := h l (by simp)
    have h2 := norm_length n l
    rw [List.map_cons, List.flatten_cons, List.length_append, List.length_cons]
    omega
theorem few6_yes {Ls : List (List Row)} (h : few6 Ls = true) : Ls.length ≤ 8 ∧ ∀ l ∈ Ls, l.length ≤ 60 := by
  unfold few6 at h
  simp only [Bool.and_eq_true, List.all_eq_true, decide_eq_true_eq] at h
  exact ⟨h.2, fun l hl => (few_yes (h.1 l hl)).1⟩
theorem flat_take (RS : List (List Row)) {j : Nat} (hj : j < RS.length) : (RS.take (j + 1)).flatten.length = (RS.take j).flatten.length + (RS[j]).length := by
  rw [List.take_succ_eq_append_getElem hj, List.flatten_append, List.length_append]; simp
theorem take_flat_le (RS : List (List Row)) (k : Nat) : (RS.take k).flatten.length ≤ RS.flatten.length := by
  have := congrArg (fun l => l.flatten.length) (List.take_append_drop k RS)
  simp only [List.flatten_append, List.length_append] at this
  omega
theorem sameN_le (q : Row) (l : List Row) : sameN q l ≤ l.length := List.countP_le_length
theorem hasN_le (q : Row) (l : List (List Row)) : hasN q l ≤ l.length := List.countP_le_length
theorem SlAt.cellAt {α : Type} {E : World → (Nat → Prop) → Value → α → Prop} {w : World} {ok : Nat → Prop} {b o n c : Nat} {xs : List α} (h : SlAt E w ok (.slice (some ⟨b, o, none⟩) n c) xs) (j : Nat) (hj : j < xs.length) :
    ∃ u, w.cell? ⟨b, o + j, none⟩ = some u ∧ E w ok u xs[j] := by
  obtain ⟨b', o', u, ha, _, _, hc, he⟩ := h.at_ j hj
  have e := Option.some.inj ha
  injection e with e1 e2 e3
  subst e1; subst e2
  exact ⟨u, hc, he⟩

set_option maxHeartbeats 8000000 in
set_option maxRecDepth 100000 in
theorem MergeRows_walk0 (x : Int) (lv : Value) (Ls : List (List Row)) (st : Int) (w : World) (hx : In64 x) (hl : LsAt w (fun _ => True) lv Ls) (hst : In64 st) :
    Calls Try.prog 4 #[.int .i64 x, lv, .int .i64 st] w fun e w' => e = .returned (.bool true) ∧ Below w.heap.size w w' := by
  obtain ⟨Al, cl, hlv, hcl, hlm, _⟩ := hl.form
  subst hlv
  have HL := Aside0.mk hl
  clear hl
  obtain ⟨b, hb⟩ : ∃ b, few6 Ls = b := ⟨_, rfl⟩
  have HF := Aside0.mk hb
  have FW := Aside0.mk (fun W (h : LsAt W (fun _ => True) (.slice Al Ls.length cl) Ls) => by have h9 := few6_any W _ _ Ls h; rw [hb] at h9; exact h9)
  clear hb
  go_enter Try.func4, Try.ntmps4
  go_wp2_with fail
  refine (Hi.head6_any w).mono ?_
  rintro e w1 ⟨rfl, B1⟩
  have HL1 := Aside0.mk (HL.out.below reads_rows B1)
  have B1 := Aside0.mk B1
  have FW1 := Aside0.mk (FW.out w1 HL1.out)
  clear HL FW
  cases b with
  | false =>
    go_wp2_with (first | (go_at_call 15; (with_reducible refine (FW1.out).mono ?_); rintro e w' ⟨rfl, rfl⟩))
    go_ret
    exact ⟨rfl, B1.out⟩
  | true =>
    obtain ⟨m, hm, hmod⟩ := mod_u x 5 (by omega) (by omega)
    rw [show ((5 : Nat) : Int) = 5 from rfl] at hmod
    obtain ⟨q, hq, hqe⟩ := and_mask6 st 15 (by omega)
    rw [show ((15 : Nat) : Int) = 15 from rfl] at hqe
    obtain ⟨hf1, hf2⟩ := few6_yes HF.out
    have ST := Aside0.mk (sets_any w1 _ _ Ls m HL1.out (by omega) (by omega) (fun l hl => by have := hf2 l hl; omega))
    have FL := Aside0.mk (flat_len m Ls hf2)
    clear hx
    go_wp2_with (first | (go_at_call 15; (with_reducible refine (FW1.out).mono ?_); rintro e w' ⟨rfl, rfl⟩))
    refine (ST.out).mono ?_
    rintro e w2 ⟨sv, P, rfl, hP, hPS, hMD, hB2⟩
    have hRSS : ∀ s ∈ P.map (·.2), SS s := by rw [hP]; intro s hs; obtain ⟨l, _, rfl⟩ := List.mem_map.1 hs; exact SS_norm _ _
    rw [← hP] at FL
    have hPl : P.length = Ls.length := by have := congrArg List.length hP; simpa using this
    have hflat := lookOf_flat hMD.nd
    obtain ⟨ps, hps⟩ : ∃ ps, P.map (·.1) = ps := ⟨_, rfl⟩
    obtain ⟨RS, hRS⟩ : ∃ RS, P.map (·.2) = RS := ⟨_, rfl⟩
    have hpl : ps.length = P.length := by rw [← hps]; simp
    have hrl : RS.length = P.length := by rw [← hRS]; simp
    have SG := Aside0.mk (fun W (hb : Below w2.heap.size w2 W) (j : Nat) (hj : j < ps.length) (hj2 : j < RS.length) => show SegN W (fun _ => True) (.pointer ps[j]) m RS[j] by
      have hjP : j < P.length := by omega
      have h1 : ps[j] = (P[j]).1 := by simp only [← hps, List.getElem_map]
      have h2 : RS[j] = (P[j]).2 := by simp only [← hRS, List.getElem_map]
      rw [h1, h2]
      exact (((hMD.seg _ (List.getElem_mem hjP)).below hb).mono (fun _ _ _ => trivial)).n)
    have WK := Aside0.mk (fun W (hb : Below w2.heap.size w2 W) most => walk6_any W _ sv ps (lookOf P) most (hPS.below reads_ptr hb |> fun h => by rw [hps] at h; exact h) (by have h9 := (hMD.below hb).inv (Nat.le_refl _); rw [hps] at h9; exact h9) (fun p hp => by rw [← hps] at hp; obtain ⟨q, hq, rfl⟩ := List.mem_map.1 hp; rw [lookOf_mem hMD.nd hq]; exact hRSS _ (List.mem_map.2 ⟨q, hq, rfl⟩)) (by rw [← hps, hflat]; have := FL.out; omega) (by omega))
    rw [hps, hRS] at hflat
    rw [hRS] at FL hRSS
    rw [hps] at hPS
    rw [hflat] at WK
    have hfn := FL.out
    obtain ⟨As, cs, hsv, _⟩ := hPS.form
    subst hsv
    have HPS := Aside0.mk hPS
    have HRSS := Aside0.mk hRSS
    have B2 := Aside0.mk (below_trans0 B1.out hB2)
    have WK1 := Aside0.mk (WK.out w2 (Below.refl _ _) 1000)
    have HLE := Aside0.mk (show RS.length = ps.length ∧ ps.length ≤ 8 by omega)
    have hps8 : ps.length ≤ 8 := HLE.out.2
    clear hMD hP hPS hB2 ST hRSS FW1 HL1 FL hflat B1 hps hRS hpl hrl hPl
    go_wp2_with fail
    refine (WK1.out).mono ?_
    rintro e w3 ⟨gv, got, rfl, hG, hB3, hor⟩
    have hM : Merged RS.flatten got := by
      rcases hor with h | h
      · exact h.1
      · omega
    have HGL := Aside0.mk (show RS.flatten.length = got.length from hM.1.length_eq.symm)
    obtain ⟨Ag, cg, hgv, _⟩ := hG.form
    subst hgv
    have HG := Aside0.mk hG
    have B3 := Aside0.mk hB3
    have B23 := Aside0.mk (below_trans0 B2.out hB3)
    have HM := Aside0.mk hM
    clear hG hB3 hor hM WK1
    have PS3 := Aside0.mk (HPS.out.below reads_ptr B3.out)
    go_wp2
    go_loopw [9, 34] (fun s9 s34 wr => ∃ k : Nat, s9 = .int .i64 (RS.take k).flatten.length ∧ s34 = .int .i64 k ∧ k ≤ ps.length ∧ w3 = wr) (fun _ s34 _ => ps.length - (intOf s34).toNat)
    case atStart => exact ⟨0, rfl, rfl, Nat.zero_le _, rfl⟩
    case round =>
      obtain ⟨k, rfl, rfl, hk, rfl⟩ := hrel
      by_cases hlt : k < ps.length
      · obtain ⟨bl, ol, ul, rfl, _, _, hc1, hul⟩ := PS3.out.at_ k hlt
        have hul : ul = .pointer ps[k] := hul
        subst hul
        have hkr : k < RS.length := by have := HLE.out.1; omega
        have LN := Aside0.mk (lenN_any w3 _ _ _ _ (SG.out w3 B3.out k hlt hkr))
        have FT := Aside0.mk (flat_take RS hkr)
        have hle := take_flat_le RS (k + 1)
        rw [FT.out] at hle
        generalize ps[k] = p at *
        generalize (RS.take k).flatten.length = n0 at *
        generalize (RS[k]).length = n1 at *
        go_wp2_with (first | (go_at_call 18; (with_reducible refine (LN.out).mono ?_); rintro e w' ⟨rfl, rfl⟩))
        go_roundw
        case rel => exact ⟨k + 1, by rw [FT.out]; go_num, by go_num, by omega, trivial⟩
        case measure => simp [intOf]; omega
      · obtain rfl : k = ps.length := by omega
        have hall : (RS.take ps.length).flatten.length = got.length := by rw [← HLE.out.1, List.take_length]; exact HGL.out
        rw [hall]
        have hgn : got.length ≤ 480 := by have := HGL.out; omega
        clear hall
        go_wp2
        go_loopw [49] (fun s49 wr => ∃ k : Nat, s49 = .int .i64 k ∧ k ≤ got.length ∧ Aside0 (Below w3.heap.size w3 wr)) (fun s49 _ => got.length - (intOf s49).toNat)
        case atStart => exact ⟨0, rfl, Nat.zero_le _, ⟨Below.refl _ _⟩⟩
        case round =>
          obtain ⟨k, rfl, hk, HB⟩ := hrel
          by_cases hlt : k < got.length
          · have HGR := HG.out.below reads_row HB.out
            obtain ⟨bl, ol, uk, rfl, _, _, hck, hrk⟩ := HGR.at_ k hlt
            obtain ⟨Ak, ck, hukf, _⟩ := hrk.form
            have HRK := Aside0.mk hrk
            subst hukf
            obtain ⟨q9, hq9⟩ : ∃ q9, got[k] = q9 := ⟨_, rfl⟩
            by_cases hk0 : 0 < k
            · obtain ⟨k1, rfl⟩ : ∃ k1, k = k1 + 1 := ⟨k - 1, by omega⟩
              obtain ⟨up, hcp, hrp⟩ := SlAt.cellAt HGR k1 (by omega)
              obtain ⟨Ap, cp, hupf, _⟩ := hrp.form
              subst hupf
              have CP := Aside0.mk (fun n => compare5_any (wr.drewN n) _ _ _ _ _ _ (SlAt.below reads_int hrp (below_drewN (Below.refl _ _) n)) (SlAt.below reads_int hrk (below_drewN (Below.refl _ _) n)))
              have hcmp := merged_le HM.out hlt
              have hki : ((k1 : Int) + 1) - 1 = (k1 : Int) := by omega
              have dk1 : decide (0 < (k1 : Int) + 1) = true := decide_eq_true (by omega)
              have hk0i : (0 : Int) < (k1 : Int) + 1 := by omega
              clear hrk HGR hrp hk0
              generalize cmp5 got[k1] got[k1 + 1] = cc at *
              generalize (got[k1]).length = lp at *
              generalize (got[k1 + 1]).length = lk at *
              have hcci : ¬ (0 : Int) < cc := hcmp
              go_wp2
              go_quiet ((go_at_call 19; exact quiet_drew (CP.out _)))
              have HBX := Aside0.mk (below_drewN HB.out nq)
              obtain ⟨wx, hwx⟩ : ∃ wx, wr.drewN nq = wx := ⟨_, rfl⟩
              rw [hwx] at HBX ⊢
              have HQ9 := Aside0.mk (show got[(k1 + 1)] = q9 from hq9)
              clear hwx hq9 HRK
              go_wp2
              go_loopw [13, 69] (fun s13 s69 wq => ∃ j : Nat, s13 = .int .i64 (sameN q9 (got.take j)) ∧ s69 = .int .i64 j ∧ j ≤ got.length ∧ Aside0 (Below w3.heap.size w3 wq)) (fun _ s69 _ => got.length - (intOf s69).toNat)
              case atStart => exact ⟨0, rfl, rfl, Nat.zero_le _, HBX⟩
              case round =>
                obtain ⟨j, rfl, rfl, hj, HB4⟩ := hrel
                clear HBX
                by_cases hjl : j < got.length
                · have G4 := HG.out.below reads_row HB4.out
                  obtain ⟨u4, hc4, hr4⟩ := SlAt.cellAt G4 (k1 + 1) hlt
                  obtain ⟨A4, c4, hu4, _⟩ := hr4.form
                  subst hu4
                  rw [HQ9.out] at hr4 hc4
                  obtain ⟨u5v, hc5, hr5⟩ := SlAt.cellAt G4 j hjl
                  obtain ⟨A5, c5, hu5, _⟩ := hr5.form
                  subst hu5
                  have CM := Aside0.mk (compare5_any wr _ _ _ _ _ _ hr5 hr4)
                  have TK := Aside0.mk (sameN_take q9 got hjl)
                  have hsl := sameN_le q9 (got.take j)
                  have htl : (got.take j).length ≤ j := List.length_take_le _ _
                  clear G4 hr4 hr5
                  generalize sameN q9 (got.take j) = n4 at *
                  generalize (got.take j).length = l4 at *
                  generalize (got[j]).length = l5 at *
                  generalize q9.length = l6 at *
                  generalize cmp5 got[j] q9 = cc4 at *
                  by_cases hcz : cc4 = 0
                  · have TK := Aside0.mk (by have h9 := TK.out; rw [if_pos hcz] at h9; exact h9)
                    rw [hcz] at CM
                    clear hcz
                    go_wp2_with (first | (go_at_call 19; (with_reducible refine (CM.out).mono ?_); rintro e w' ⟨rfl, q5, rfl⟩))
                    go_roundw
                    case rel => exact ⟨j + 1, by rw [TK.out]; go_num, by go_num, by omega, ⟨below_drewN HB4.out _⟩⟩
                    case measure => simp [intOf]; omega
                  · have TK := Aside0.mk (by have h9 := TK.out; rw [if_neg hcz, Nat.add_zero] at h9; exact h9)
                    have dz : (cc4 == 0) = false := by simpa using hcz
                    go_wp2_with (first | (go_at_call 19; (with_reducible refine (CM.out).mono ?_); rintro e w' ⟨rfl, q5, rfl⟩))
                    go_roundw
                    case rel => exact ⟨j + 1, by rw [TK.out]; simp, by go_num, by omega, ⟨below_drewN HB4.out _⟩⟩
                    case measure => simp [intOf]; omega
                · obtain rfl : j = got.length := by omega
                  rw [List.take_length, sameN_merged HM.out HRSS.out q9]
                  go_wp2
                  go_loopw [13, 85] (fun s13 s85 wq => ∃ j : Nat, s13 = .int .i64 ((hasN q9 RS : Int) - (hasN q9 (RS.take j) : Int)) ∧ s85 = .int .i64 j ∧ j ≤ ps.length ∧ Aside0 (Below w3.heap.size w3 wq)) (fun _ s85 _ => ps.length - (intOf s85).toNat)
                  case atStart => exact ⟨0, by simp [hasN], rfl, Nat.zero_le _, HB4⟩
                  case round =>
                    obtain ⟨j, rfl, rfl, hj2, HB5⟩ := hrel
                    clear HB4
                    have B25 := Aside0.mk (below_trans0 B3.out HB5.out)
                    by_cases hjl2 : j < ps.length
                    · obtain ⟨u4, hc4, hr4⟩ := SlAt.cellAt (HG.out.below reads_row HB5.out) (k1 + 1) hlt
                      obtain ⟨A4, c4, hu4, _⟩ := hr4.form
                      subst hu4
                      rw [HQ9.out] at hr4 hc4
                      obtain ⟨b5, o5, ul5, ha5, _, _, hc7, hul⟩ := (HPS.out.below reads_ptr B25.out).at_ j hjl2
                      subst ha5
                      have hul : ul5 = .pointer ps[j] := hul
                      subst hul
                      have hjr : j < RS.length := by have := HLE.out.1; omega
                      have HS := Aside0.mk (hasN_any wr _ _ (.pointer ps[j]) _ m RS[j] q9 (SG.out wr B25.out j hjl2 hjr) (HRSS.out _ (List.getElem_mem hjr)) hr4)
                      have TK := Aside0.mk (hasN_take q9 RS hjr)
                      have hb1 := hasN_le q9 RS
                      have hb2 := hasN_le q9 (RS.take j)
                      have hb3 : (RS.take j).length ≤ j := List.length_take_le _ _
                      have hb4 : hasN q9 RS ≤ 8 := by have := HLE.out; omega
                      clear hr4 hb1
                      generalize hasN q9 (RS.take j) = n6 at *
                      generalize hasN q9 RS = n7 at *
                      generalize (RS.take j).length = l7 at *
                      generalize q9.length = l6 at *
                      generalize ps[j] = p7 at *
                      by_cases hin : q9 ∈ RS[j]
                      · have HS := Aside0.mk (by have h9 := HS.out; rw [decide_eq_true hin] at h9; exact h9)
                        have TK := Aside0.mk (by have h9 := TK.out; rw [if_pos hin] at h9; exact h9)
                        clear hin
                        go_wp2_with (first | (go_at_call 20; (with_reducible refine (HS.out).mono ?_); rintro e w' ⟨rfl, hb9⟩; have HB9 := Aside0.mk (below_trans0 HB5.out hb9); clear hb9))
                        go_roundw
                        case rel => exact ⟨j + 1, by rw [TK.out]; congr 1; omega, by go_num, by omega, HB9⟩
                        case measure => simp [intOf]; omega
                      · have HS := Aside0.mk (by have h9 := HS.out; rw [decide_eq_false hin] at h9; exact h9)
                        have TK := Aside0.mk (by have h9 := TK.out; rw [if_neg hin, Nat.add_zero] at h9; exact h9)
                        clear hin
                        go_wp2_with (first | (go_at_call 20; (with_reducible refine (HS.out).mono ?_); rintro e w' ⟨rfl, hb9⟩; have HB9 := Aside0.mk (below_trans0 HB5.out hb9); clear hb9))
                        go_roundw
                        case rel => exact ⟨j + 1, by rw [TK.out]; simp, by go_num, by omega, HB9⟩
                        case measure => simp [intOf]; omega
                    · obtain rfl : j = ps.length := by omega
                      have hz : (hasN q9 RS : Int) - (hasN q9 (RS.take ps.length) : Int) = 0 := by rw [← HLE.out.1, List.take_length]; omega
                      rw [hz]
                      clear hz
                      go_wp2
                      go_roundw
                      case rel => exact ⟨(k1 + 1) + 1, by go_num, by omega, HB5⟩
                      case measure => simp [intOf]; omega
            · have dk1 : decide (0 < k) = false := by simpa using hk0
              have dk2 : decide ((0 : Int) < (k : Int)) = false := by simpa using hk0
              have dk3 : ¬ (0 : Int) < (k : Int) := by omega
              clear hrk HGR
              generalize (got[k]).length = lk at *
              go_wp2
              go_quiet (fail)
              have HBX := Aside0.mk (below_drewN HB.out nq)
              obtain ⟨wx, hwx⟩ : ∃ wx, wr.drewN nq = wx := ⟨_, rfl⟩
              rw [hwx] at HBX ⊢
              have HQ9 := Aside0.mk (show got[k] = q9 from hq9)
              clear hwx hq9 HRK
              go_wp2
              go_loopw [13, 69] (fun s13 s69 wq => ∃ j : Nat, s13 = .int .i64 (sameN q9 (got.take j)) ∧ s69 = .int .i64 j ∧ j ≤ got.length ∧ Aside0 (Below w3.heap.size w3 wq)) (fun _ s69 _ => got.length - (intOf s69).toNat)
              case atStart => exact ⟨0, rfl, rfl, Nat.zero_le _, HBX⟩
              case round =>
                obtain ⟨j, rfl, rfl, hj, HB4⟩ := hrel
                clear HBX
                by_cases hjl : j < got.length
                · have G4 := HG.out.below reads_row HB4.out
                  obtain ⟨u4, hc4, hr4⟩ := SlAt.cellAt G4 k hlt
                  obtain ⟨A4, c4, hu4, _⟩ := hr4.form
                  subst hu4
                  rw [HQ9.out] at hr4 hc4
                  obtain ⟨u5v, hc5, hr5⟩ := SlAt.cellAt G4 j hjl
                  obtain ⟨A5, c5, hu5, _⟩ := hr5.form
                  subst hu5
                  have CM := Aside0.mk (compare5_any wr _ _ _ _ _ _ hr5 hr4)
                  have TK := Aside0.mk (sameN_take q9 got hjl)
                  have hsl := sameN_le q9 (got.take j)
                  have htl : (got.take j).length ≤ j := List.length_take_le _ _
                  clear G4 hr4 hr5
                  generalize sameN q9 (got.take j) = n4 at *
                  generalize (got.take j).length = l4 at *
                  generalize (got[j]).length = l5 at *
                  generalize q9.length = l6 at *
                  generalize cmp5 got[j] q9 = cc4 at *
                  by_cases hcz : cc4 = 0
                  · have TK := Aside0.mk (by have h9 := TK.out; rw [if_pos hcz] at h9; exact h9)
                    rw [hcz] at CM
                    clear hcz
                    go_wp2_with (first | (go_at_call 19; (with_reducible refine (CM.out).mono ?_); rintro e w' ⟨rfl, q5, rfl⟩))
                    go_roundw
                    case rel => exact ⟨j + 1, by rw [TK.out]; go_num, by go_num, by omega, ⟨below_drewN HB4.out _⟩⟩
                    case measure => simp [intOf]; omega
                  · have TK := Aside0.mk (by have h9 := TK.out; rw [if_neg hcz, Nat.add_zero] at h9; exact h9)
                    have dz : (cc4 == 0) = false := by simpa using hcz
                    go_wp2_with (first | (go_at_call 19; (with_reducible refine (CM.out).mono ?_); rintro e w' ⟨rfl, q5, rfl⟩))
                    go_roundw
                    case rel => exact ⟨j + 1, by rw [TK.out]; simp, by go_num, by omega, ⟨below_drewN HB4.out _⟩⟩
                    case measure => simp [intOf]; omega
                · obtain rfl : j = got.length := by omega
                  rw [List.take_length, sameN_merged HM.out HRSS.out q9]
                  go_wp2
                  go_loopw [13, 85] (fun s13 s85 wq => ∃ j : Nat, s13 = .int .i64 ((hasN q9 RS : Int) - (hasN q9 (RS.take j) : Int)) ∧ s85 = .int .i64 j ∧ j ≤ ps.length ∧ Aside0 (Below w3.heap.size w3 wq)) (fun _ s85 _ => ps.length - (intOf s85).toNat)
                  case atStart => exact ⟨0, by simp [hasN], rfl, Nat.zero_le _, HB4⟩
                  case round =>
                    obtain ⟨j, rfl, rfl, hj2, HB5⟩ := hrel
                    clear HB4
                    have B25 := Aside0.mk (below_trans0 B3.out HB5.out)
                    by_cases hjl2 : j < ps.length
                    · obtain ⟨u4, hc4, hr4⟩ := SlAt.cellAt (HG.out.below reads_row HB5.out) k hlt
                      obtain ⟨A4, c4, hu4, _⟩ := hr4.form
                      subst hu4
                      rw [HQ9.out] at hr4 hc4
                      obtain ⟨b5, o5, ul5, ha5, _, _, hc7, hul⟩ := (HPS.out.below reads_ptr B25.out).at_ j hjl2
                      subst ha5
                      have hul : ul5 = .pointer ps[j] := hul
                      subst hul
                      have hjr : j < RS.length := by have := HLE.out.1; omega
                      have HS := Aside0.mk (hasN_any wr _ _ (.pointer ps[j]) _ m RS[j] q9 (SG.out wr B25.out j hjl2 hjr) (HRSS.out _ (List.getElem_mem hjr)) hr4)
                      have TK := Aside0.mk (hasN_take q9 RS hjr)
                      have hb1 := hasN_le q9 RS
                      have hb2 := hasN_le q9 (RS.take j)
                      have hb3 : (RS.take j).length ≤ j := List.length_take_le _ _
                      have hb4 : hasN q9 RS ≤ 8 := by have := HLE.out; omega
                      clear hr4 hb1
                      generalize hasN q9 (RS.take j) = n6 at *
                      generalize hasN q9 RS = n7 at *
                      generalize (RS.take j).length = l7 at *
                      generalize q9.length = l6 at *
                      generalize ps[j] = p7 at *
                      by_cases hin : q9 ∈ RS[j]
                      · have HS := Aside0.mk (by have h9 := HS.out; rw [decide_eq_true hin] at h9; exact h9)
                        have TK := Aside0.mk (by have h9 := TK.out; rw [if_pos hin] at h9; exact h9)
                        clear hin
                        go_wp2_with (first | (go_at_call 20; (with_reducible refine (HS.out).mono ?_); rintro e w' ⟨rfl, hb9⟩; have HB9 := Aside0.mk (below_trans0 HB5.out hb9); clear hb9))
                        go_roundw
                        case rel => exact ⟨j + 1, by rw [TK.out]; congr 1; omega, by go_num, by omega, HB9⟩
                        case measure => simp [intOf]; omega
                      · have HS := Aside0.mk (by have h9 := HS.out; rw [decide_eq_false hin] at h9; exact h9)
                        have TK := Aside0.mk (by have h9 := TK.out; rw [if_neg hin, Nat.add_zero] at h9; exact h9)
                        clear hin
                        go_wp2_with (first | (go_at_call 20; (with_reducible refine (HS.out).mono ?_); rintro e w' ⟨rfl, hb9⟩; have HB9 := Aside0.mk (below_trans0 HB5.out hb9); clear hb9))
                        go_roundw
                        case rel => exact ⟨j + 1, by rw [TK.out]; simp, by go_num, by omega, HB9⟩
                        case measure => simp [intOf]; omega
                    · obtain rfl : j = ps.length := by omega
                      have hz : (hasN q9 RS : Int) - (hasN q9 (RS.take ps.length) : Int) = 0 := by rw [← HLE.out.1, List.take_length]; omega
                      rw [hz]
                      clear hz
                      go_wp2
                      go_roundw
                      case rel => exact ⟨k + 1, by go_num, by omega, HB5⟩
                      case measure => simp [intOf]; omega
          · obtain rfl : k = got.length := by omega
            have WK2 := Aside0.mk (WK.out wr (below_trans0 B3.out HB.out) (1 + (q : Int)))
            clear hlt WK
            go_wp2_with fail
            refine (WK2.out).mono ?_
            rintro e w4 ⟨gv4, got4, rfl, hG4, hB4, hor⟩
            obtain ⟨Ag4, cg4, hgv4, _⟩ := hG4.form
            subst hgv4
            have HF4 := Aside0.mk (below_trans0 B23.out (below_trans0 HB.out hB4))
            have hlen : (got4.length : Int) = min (got.length : Int) (1 + (q : Int)) := by
              rcases hor with ⟨h1, h2⟩ | ⟨h1, h2⟩
              · have h3 : got4.length = got.length := by rw [← HGL.out]; exact h1.1.length_eq
                have h4 : got4.length < q + 1 := Nat.lt_of_not_le fun h => h2 (q + 1) (by omega) h (by omega)
                omega
              · rw [HGL.out] at h2
                omega
            have HLN := Aside0.mk hlen
            clear hG4 hB4 hor WK2 hlen
            go_wp2
            go_ret
            exact ⟨by simp [HLN.out], HF4.out⟩
end Go.Proofs.Ytcaonlddhbgnjaa.Mg
