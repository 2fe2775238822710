/- SegmentOps: union, intersection and difference. The walk. -/
import Derived.Test.YtalbgdbphdhhaaaSgRo
import Derived.Test.YtalbgdbphdhhaaaSgN
namespace Go.Proofs.Ytalbgdbphdhhaaa.Sg
open Go.RowKit Go.Shelf
set_option linter.unusedVariables false
set_option linter.unusedSimpArgs false

theorem own_off {w1 : World} {v v' u : Value} (hb : v'.ownBlock = v.ownBlock ∨ v'.ownBlock = some w1.heap.size) (hd : ∀ b, v.ownBlock = some b → u.ownBlock ≠ some b) (hu : ∀ b, u.ownBlock = some b → b < w1.heap.size) : ∀ b, v'.ownBlock = some b → u.ownBlock ≠ some b := fun b hb2 e => by
  rcases hb with h | h
  · rw [h] at hb2; exact hd b hb2 e
  · rw [h] at hb2
    have := Option.some.inj hb2
    have := hu b e
    omega
set_option maxHeartbeats 16000000 in
set_option maxRecDepth 100000 in
theorem SegmentOps_walk (x : Int) (av : Value) (a : List Row) (bv : Value) (b : List Row) (w : World) (hx : In64 x) (ha : RowsAt w (fun _ => True) av a) (hb : RowsAt w (fun _ => True) bv b) :
    Calls Try.prog 8 #[.int .i64 x, av, bv] w fun e w' => e = .returned (.bool true) ∧ Below w.heap.size w w' := by
  obtain ⟨Aa, ca, rfl, _⟩ := ha.form
  obtain ⟨Ab, cb, rfl, _⟩ := hb.form
  obtain ⟨ir, hir, hr0, hr1, hr2⟩ := info_parts info_rowR
  have HA := Aside0.mk ha
  have HB := Aside0.mk hb
  clear ha hb
  obtain ⟨fa, hfa⟩ : ∃ fa, few a = fa := ⟨_, rfl⟩
  obtain ⟨fb, hfb⟩ : ∃ fb, few b = fb := ⟨_, rfl⟩
  have FA := Aside0.mk hfa
  have FB := Aside0.mk hfb
  have GA := Aside0.mk (fun W (h : Below w.heap.size w W) => few_b W _ _ a fa (HA.out.below reads_row h) hfa)
  have GB := Aside0.mk (fun W (h : Below w.heap.size w W) => few_b W _ _ b fb (HB.out.below reads_row h) hfb)
  clear hfa hfb
  go_enter Try.func8, Try.ntmps8
  go_wp2_with fail
  refine (head_any w).mono ?_
  rintro e w1 ⟨rfl, B1⟩
  have GA := Aside0.mk (GA.out w1 B1)
  have GB := Aside0.mk (GB.out w1 B1)
  have BB := Aside0.mk B1
  clear B1
  go_wp2_with fail
  refine (GA.out).mono ?_
  rintro e w' ⟨rfl, rfl⟩
  cases fa with
  | false =>
    go_wp2
    go_ret
    exact ⟨rfl, BB.out⟩
  | true =>
  go_wp2_with fail
  refine (GB.out).mono ?_
  rintro e w' ⟨rfl, rfl⟩
  cases fb with
  | false =>
    go_wp2
    go_ret
    exact ⟨rfl, BB.out⟩
  | true =>
  have l1 := (few_yes FA.out).1
  have l2 := (few_yes FB.out).1
  obtain ⟨n, hn, hmod⟩ := mod_u x 5 (by omega) (by omega)
  rw [show ((5 : Nat) : Int) = 5 from rfl] at hmod
  have HA := Aside0.mk (HA.out.below reads_row BB.out)
  have HB := Aside0.mk (HB.out.below reads_row BB.out)
  have MA := Aside0.mk (sorted_any w1 _ _ n a HA.out (by omega) (by omega))
  have lX := norm_length n a
  have lY := norm_length n b
  obtain ⟨X, hX⟩ : ∃ X, norm n a = X := ⟨_, rfl⟩
  obtain ⟨Y, hY⟩ : ∃ Y, norm n b = Y := ⟨_, rfl⟩
  have HNX := Aside0.mk hX
  have HNY := Aside0.mk hY
  rw [hX] at MA lX
  rw [hY] at lY
  clear GA GB FA FB hx hX hY
  go_wp2_with fail
  refine (MA.out).mono ?_
  rintro e w2 ⟨xv, rfl, RX, B2⟩
  have RX := Aside0.mk RX
  have HA := Aside0.mk (HA.out.below reads_row B2)
  have HB := Aside0.mk (HB.out.below reads_row B2)
  have BB := Aside0.mk (below_trans0 BB.out B2)
  have MB := sorted_any w2 _ _ n b HB.out (by omega) (by omega)
  rw [HNY.out] at MB
  have MB := Aside0.mk MB
  clear MA B2
  go_wp2_with fail
  refine (MB.out).mono ?_
  rintro e w3 ⟨yv, rfl, RY, B2⟩
  have RX := Aside0.mk (RX.out.below reads_row B2)
  have RY := Aside0.mk RY
  have HA := Aside0.mk (HA.out.below reads_row B2)
  have HB := Aside0.mk (HB.out.below reads_row B2)
  have BB := Aside0.mk (below_trans0 BB.out B2)
  have MA := makeK w3 _ _ n 60 a HA.out (by omega) l1 (by omega)
  rw [HNX.out] at MA
  have MA := Aside0.mk MA
  clear MB B2
  go_wp2_with fail
  refine (MA.out).mono ?_
  rintro e w4 ⟨gs, rfl, S, B2⟩
  have S := Aside0.mk S
  have RX := Aside0.mk (RX.out.below reads_row B2)
  have RY := Aside0.mk (RY.out.below reads_row B2)
  have HB := Aside0.mk (HB.out.below reads_row B2)
  have BB := Aside0.mk (below_trans0 BB.out B2)
  have MB := makeK w4 _ _ n 60 b HB.out (by omega) l2 (by omega)
  rw [HNY.out] at MB
  have MB := Aside0.mk MB
  clear MA B2
  go_wp2_with fail
  refine (MB.out).mono ?_
  rintro e w5 ⟨gt, rfl, T, B2⟩
  have T := Aside0.mk T
  have S := Aside0.mk (S.out.below B2)
  have RX := Aside0.mk (RX.out.below reads_row B2)
  have RY := Aside0.mk (RY.out.below reads_row B2)
  have BB := Aside0.mk (below_trans0 BB.out B2)
  clear MB B2 HA HB HNX HNY
  have RXL := Aside0.mk (reads_rows.mono (ok2 := (· < w5.heap.size)) RX.out (fun _ _ h => h))
  obtain ⟨Ax, cx, hxv, _⟩ := RX.out.form
  subst hxv
  obtain ⟨Ay, cy, hyv, _⟩ := RY.out.form
  subst hyv
  go_wp2_with fail
  go_loopw [11, 12, 46] (fun s11 s12 s46 wr => ∃ (k : Nat) (cb cl : List Value), s46 = .int .i64 k ∧ k ≤ X.length ∧ Aside0 (BuiltBy RowAt wr w5.heap.size 23 (· < w5.heap.size) s11 (picked Y true (X.take k)) cb) ∧ Aside0 (BuiltBy RowAt wr w5.heap.size 23 (· < w5.heap.size) s12 (picked Y false (X.take k)) cl) ∧ Aside0 (∀ b, s11.ownBlock = some b → s12.ownBlock ≠ some b) ∧ Aside0 (Below w5.heap.size w5 wr)) (fun _ _ s46 _ => X.length - (intOf s46).toNat)
  case atStart =>
    have q0 := BuiltBy.empty RowAt w5 w5.heap.size 23 (· < w5.heap.size) (Nat.le_refl _)
    have q1 := BuiltBy.empty RowAt (w5.alloc (.cells #[] 23)) w5.heap.size 23 (· < w5.heap.size) (by simp)
    refine ⟨0, [], [], rfl, Nat.zero_le _, ⟨?_⟩, ⟨?_⟩, ⟨?_⟩, ⟨below_alloc0 (below_alloc0 (Below.refl _ _) _) _⟩⟩
    · exact q0.stays reads_row (Stays.alloc (fun _ => True) _ _) (fun _ _ _ => trivial) (fun _ _ => trivial)
    · rw [World.size_alloc] at q1; exact q1
    · intro b h e
      have h1 := Option.some.inj h
      have h2 := Option.some.inj e
      simp at h1 h2
      omega
  case round =>
    obtain ⟨k, cb, cl, rfl, hk, HU, HV, HD, HBw⟩ := hrel
    have hbs := HBw.out.size
    have hp1 := picked_length Y true (X.take k)
    have hp2 := picked_length Y false (X.take k)
    have htk : (X.take k).length ≤ k := List.length_take_le _ _
    obtain ⟨A11, c11, hv11⟩ := own_form HU.out.own
    subst hv11
    obtain ⟨A12, c12, hv12⟩ := own_form HV.out.own
    subst hv12
    by_cases hlt : k < X.length
    · obtain ⟨bb, oo, u, rfl, _, _, hc, hu⟩ := (RXL.out.below reads_row HBw.out).at_ k hlt
      obtain ⟨Au, cu, hue, _⟩ := hu.form
      subst hue
      have IN := Aside0.mk (in5_any wr _ _ _ _ Y X[k] (RY.out.below reads_row HBw.out) hu)
      have PT := Aside0.mk (pick_take (Y := Y) hlt true)
      have PF := Aside0.mk (pick_take (Y := Y) hlt false)
      have HU0 := Aside0.mk hu
      clear hu
      generalize X[k] = r at *
      obtain ⟨db, hdb⟩ : ∃ db, decide (r ∈ Y) = db := ⟨_, rfl⟩
      rw [hdb] at IN PT PF
      clear hdb
      go_wp2_with fail
      refine (IN.out).mono ?_
      rintro e w6 ⟨rfl, B6⟩
      have HU6 := Aside0.mk (HU.out.stays reads_row (Stays.of_below B6 (fun _ => True)) (fun _ _ _ => trivial) (fun _ _ => trivial))
      have HV6 := Aside0.mk (HV.out.stays reads_row (Stays.of_below B6 (fun _ => True)) (fun _ _ _ => trivial) (fun _ _ => trivial))
      have HU06 := Aside0.mk (SlAt.below reads_int HU0.out B6)
      have HB6 := Aside0.mk (below_trans0 HBw.out B6)
      have hs6 := HB6.out.size
      have hsz := Aside0.mk (fun o => (show w5.heap.size ≤ (w6.alloc o).heap.size by simp; omega))
      clear B6 IN HU HV HU0 HBw
      cases db with
      | true =>
        have PT := PT.out
        have PF := PF.out
        rw [if_pos (by rfl)] at PT
        rw [if_neg (by decide)] at PF
        have PT := Aside0.mk PT
        have PF := Aside0.mk PF
        have h63 := Aside0.mk (show (picked Y true (X.take k)).length + 1 ≤ maxLen by unfold maxLen; omega)
        have hby := Aside0.mk (show ((picked Y true (X.take k)).length + 1) * 24 ≤ 140737488355328 by omega)
        go_wp2_with (at_builtin; refine wpList_append_own_at _ rfl (.tmp 53) (.tmp 55) 28 rfl w5.heap.size 23 ir (.slice none 0 0) 1 24 Try.underlying28 hir hr0 hr1 hr2 rfl (by decide) _ _ _ rfl (HU6.out.own.alloc _) ⟨w6.heap.size, 0, none⟩ 1 1 [Value.slice Au r.length cu] rfl rfl (cell_one_new _ _ _) (by simp [Value.oneCell']) h63.out hby.out (hsz.out _) ?_; intro v1 w10 ho hg _ hb; have NX := Aside0.mk (HU6.out.append reads_row HU06.out ho hg (fun k hk e => by have := own_below HU6.out.own k hk; omega)); have G1 := Aside0.mk hg; have H1 := Aside0.mk hb; clear ho hg hb)
        go_roundw
        case rel =>
          refine ⟨k + 1, _, cl, by go_num, by omega, ⟨by rw [PT.out]; exact NX.out⟩, ⟨?_⟩, ⟨own_off H1.out HD.out (fun b hb => by have := (HV6.out.own.lt b hb).2; simp; omega)⟩, ⟨(below_alloc HB6.out hs6 _).grown G1.out (by simp; omega) (own_below HU6.out.own)⟩⟩
          rw [PF.out]
          have k1 := (Keeps.alloc (fun b => (Value.slice A11 (picked Y true (X.take k)).length c11).ownBlock ≠ some b) w6 (.cells #[Value.slice Au r.length cu] 23)).trans (Keeps.grown G1.out) (fun _ _ h => h)
          exact HV6.out.stays reads_row k1.stays (fun b hb _ e => by have := own_below HU6.out.own b e; omega) (fun b hb e => HD.out b e hb)
        case measure => simp [intOf]; omega
      | false =>
        have PT := PT.out
        have PF := PF.out
        rw [if_neg (by decide)] at PT
        rw [if_pos (by rfl)] at PF
        have PT := Aside0.mk PT
        have PF := Aside0.mk PF
        have h63 := Aside0.mk (show (picked Y false (X.take k)).length + 1 ≤ maxLen by unfold maxLen; omega)
        have hby := Aside0.mk (show ((picked Y false (X.take k)).length + 1) * 24 ≤ 140737488355328 by omega)
        go_wp2_with (at_builtin; refine wpList_append_own_at _ rfl (.tmp 57) (.tmp 59) 28 rfl w5.heap.size 23 ir (.slice none 0 0) 1 24 Try.underlying28 hir hr0 hr1 hr2 rfl (by decide) _ _ _ rfl (HV6.out.own.alloc _) ⟨w6.heap.size, 0, none⟩ 1 1 [Value.slice Au r.length cu] rfl rfl (cell_one_new _ _ _) (by simp [Value.oneCell']) h63.out hby.out (hsz.out _) ?_; intro v1 w10 ho hg _ hb; have NX := Aside0.mk (HV6.out.append reads_row HU06.out ho hg (fun k hk e => by have := own_below HV6.out.own k hk; omega)); have G1 := Aside0.mk hg; have H1 := Aside0.mk hb; clear ho hg hb)
        go_roundw
        case rel =>
          refine ⟨k + 1, cb, _, by go_num, by omega, ⟨?_⟩, ⟨by rw [PF.out]; exact NX.out⟩, ⟨fun b h1 h2 => own_off H1.out (fun b h1 h2 => HD.out b h2 h1) (fun b hb => by have := (HU6.out.own.lt b hb).2; simp; omega) b h2 h1⟩, ⟨(below_alloc HB6.out hs6 _).grown G1.out (by simp; omega) (own_below HV6.out.own)⟩⟩
          rw [PT.out]
          have k1 := (Keeps.alloc (fun b => (Value.slice A12 (picked Y false (X.take k)).length c12).ownBlock ≠ some b) w6 (.cells #[Value.slice Au r.length cu] 23)).trans (Keeps.grown G1.out) (fun _ _ h => h)
          exact HU6.out.stays reads_row k1.stays (fun b hb _ e => by have := own_below HV6.out.own b e; omega) (fun b hb e => HD.out b hb e)
        case measure => simp [intOf]; omega
    · obtain rfl : k = X.length := by omega
      rw [List.take_length] at HU HV hp1 hp2
      simp only [List.take_length] at *
      have RP := Aside0.mk (show RowsAt wr (fun _ => True) (.slice A11 (picked Y true X).length c11) (picked Y true X) from SlAt.of_own0 HU.out.own rfl (fun _ _ _ => trivial) (by omega) (fun j hj z hz => reads_row.mono (HU.out.el j hj z hz) (fun _ _ _ => trivial)))
      have RM := Aside0.mk (show RowsAt wr (fun _ => True) (.slice A12 (picked Y false X).length c12) (picked Y false X) from SlAt.of_own0 HV.out.own rfl (fun _ _ _ => trivial) (by omega) (fun j hj z hz => reads_row.mono (HV.out.el j hj z hz) (fun _ _ _ => trivial)))
      have S := Aside0.mk (S.out.below HBw.out)
      have T := Aside0.mk (T.out.below HBw.out)
      have RX := Aside0.mk (RX.out.below reads_row HBw.out)
      have RY := Aside0.mk (RY.out.below reads_row HBw.out)
      have BB := Aside0.mk (below_trans0 BB.out HBw.out)
      have sX := Aside0.mk S.out.ss
      have sY := Aside0.mk T.out.ss
      have wX := Aside0.mk S.out.wid
      have wY := Aside0.mk T.out.wid
      clear HU HV HD HBw RXL
      go_wp2_with fail
      refine (orK _ _ _ _ _ _ _ _ S.out T.out (by omega)).mono ?_
      rintro e w7 ⟨g1, rfl, S1, B2⟩
      have S1 := Aside0.mk S1
      have S := Aside0.mk (S.out.below B2)
      have T := Aside0.mk (T.out.below B2)
      have RX := Aside0.mk (RX.out.below reads_row B2)
      have RY := Aside0.mk (RY.out.below reads_row B2)
      have RP := Aside0.mk (RP.out.below reads_row B2)
      have RM := Aside0.mk (RM.out.below reads_row B2)
      have BB := Aside0.mk (below_trans0 BB.out B2)
      clear B2
      have RX7 := Aside0.mk (reads_rows.mono (ok2 := (· < w7.heap.size)) RX.out (fun _ _ h => h))
      have RY7 := Aside0.mk (reads_rows.mono (ok2 := (· < w7.heap.size)) RY.out (fun _ _ h => h))
      have RX8 := Aside0.mk (RX7.out.below reads_row (below_alloc0 (Below.refl _ _) (.cells #[] 23)))
      obtain ⟨dx, dx1, dx2, dx3, dx4⟩ := RX8.out.vals
      have E0 := BuiltBy.empty RowAt w7 w7.heap.size 23 (Off (.slice (some ⟨w7.heap.size, 0, none⟩) 0 0)) (Nat.le_refl _)
      have D4 := Aside0.mk (show ∀ j (hj : j < X.length) z, dx[j]? = some z → RowAt (w7.alloc (.cells #[] 23)) (Off (.slice (some ⟨w7.heap.size, 0, none⟩) 0 0)) z X[j] from fun j hj z hz => reads_row.mono (dx4 j hj z hz) (fun b hb _ e => by have := Option.some.inj e; simp at this; omega))
      have D3 := Aside0.mk (show ∀ j z, dx[j]? = some z → ∃ b off, Ax = some ⟨b, off, none⟩ ∧ (w7.alloc (.cells #[] 23)).cell? ⟨b, off + j, none⟩ = some z from fun j z hz => by obtain ⟨b, off, h1, _, h2⟩ := dx3 j z hz; exact ⟨b, off, h1, h2⟩)
      have D1 := Aside0.mk (show ∀ z ∈ dx, z.oneCell' = true from fun z hz => by
        obtain ⟨j, hj, rfl⟩ := List.mem_iff_getElem.1 hz
        exact reads_row.one (dx4 j (by omega) _ (List.getElem?_eq_getElem hj)))
      have DL := Aside0.mk dx1
      have E0 := Aside0.mk E0
      have h63 := Aside0.mk (show 0 + X.length ≤ maxLen by unfold maxLen; omega)
      have hby := Aside0.mk (show (0 + X.length) * 24 ≤ 140737488355328 by omega)
      have h63b := Aside0.mk (show X.length + Y.length ≤ maxLen by unfold maxLen; omega)
      have hbyb := Aside0.mk (show (X.length + Y.length) * 24 ≤ 140737488355328 by omega)
      have hsz7 := Aside0.mk (show w7.heap.size ≤ (w7.alloc (.cells #[] 23)).heap.size by simp)
      clear dx1 dx3 dx4
      go_wp2_with (first | (at_builtin; refine wpList_append_list rfl (.tmp 66) (.tmp 67) 28 rfl w7.heap.size 23 ir (.slice none 0 0) 24 Try.underlying28 hir hr0 hr1 hr2 rfl _ _ _ rfl E0.out.own Ax X.length cx dx rfl DL.out D3.out D1.out h63.out hby.out hsz7.out ?_; intro v8 w8 ho hg hb; have N8 := Aside0.mk (E0.out.pushAll reads_row DL.out D4.out ho hg hb); have B8 := Aside0.mk ((below_alloc0 (Below.refl w7.heap.size w7) (.cells #[] 23)).grown hg hsz7.out (own_below E0.out.own)); have ho2 := ho; simp only [List.length_nil, Nat.zero_add, List.nil_append] at ho2; obtain ⟨A8, c8, hv8⟩ := own_form ho2; subst hv8; clear ho hg hb; have hO8 : w8.ownsRow w7.heap.size 23 1 (.slice A8 X.length c8) X.length dx := ho2; clear ho2; have hsz8 := Aside0.mk B8.out.size; obtain ⟨dy, dy1, dy2, dy3, dy4⟩ := (RY7.out.below reads_row B8.out).vals; have F4 := Aside0.mk (show ∀ j (hj : j < Y.length) z, dy[j]? = some z → RowAt w8 (Off (.slice A8 X.length c8)) z Y[j] from fun j hj z hz => reads_row.mono (dy4 j hj z hz) (fun b hb _ e => by have := own_below hO8 b e; omega)); have F3 := Aside0.mk (show ∀ j z, dy[j]? = some z → ∃ b off, Ay = some ⟨b, off, none⟩ ∧ w8.cell? ⟨b, off + j, none⟩ = some z from fun j z hz => by obtain ⟨b, off, h1, _, h2⟩ := dy3 j z hz; exact ⟨b, off, h1, h2⟩); have F1 := Aside0.mk (show ∀ z ∈ dy, z.oneCell' = true from fun z hz => by obtain ⟨j, hj, rfl⟩ := List.mem_iff_getElem.1 hz; exact reads_row.one (dy4 j (by omega) _ (List.getElem?_eq_getElem hj))); have FL := Aside0.mk dy1; have O8 := Aside0.mk hO8; clear dy1 dy3 dy4 hO8) | (at_builtin; refine wpList_append_list rfl (.tmp 68) (.tmp 69) 28 rfl w7.heap.size 23 ir (.slice none 0 0) 24 Try.underlying28 hir hr0 hr1 hr2 rfl _ _ _ rfl O8.out Ay Y.length cy dy rfl FL.out F3.out F1.out h63b.out hbyb.out hsz8.out ?_; intro v9 w9 ho hg hb; have N9 := Aside0.mk (N8.out.pushAll reads_row FL.out F4.out (by simpa using ho) hg hb); have B9 := Aside0.mk (B8.out.grown hg hsz8.out (own_below O8.out)); obtain ⟨A9, c9, hv9⟩ := own_form ho; subst hv9; clear ho hg hb))
      have S := Aside0.mk (S.out.below B9.out)
      have T := Aside0.mk (T.out.below B9.out)
      have RX := Aside0.mk (RX.out.below reads_row B9.out)
      have RY := Aside0.mk (RY.out.below reads_row B9.out)
      have RP := Aside0.mk (RP.out.below reads_row B9.out)
      have RM := Aside0.mk (RM.out.below reads_row B9.out)
      have S1 := Aside0.mk (S1.out.below B9.out)
      have BB := Aside0.mk (below_trans0 BB.out B9.out)
      have R9 := Aside0.mk (show RowsAt w9 (fun _ => True) (.slice A9 (X.length + Y.length) c9) (X ++ Y) from SlAt.of_own0 (n := X.length + Y.length) (by have h9 := N9.out.own; simpa using h9) (by simp) (fun _ _ _ => trivial) (by simp; omega) (fun j hj z hz => by have h9 := N9.out.el j (by simpa using hj) z hz; simpa using reads_row.mono h9 (fun _ _ _ => trivial)))
      have SO := Aside0.mk (sorted_any w9 _ _ n (X ++ Y) R9.out (by omega) (by simp; omega))
      clear N9 B9 N8 B8 O8 R9 E0 D1 D3 D4 DL F1 F3 F4 FL RX7 RX8 RY7
      go_wp2_with fail
      refine (SO.out).mono ?_
      rintro e w10 ⟨ov, rfl, RO, B2⟩
      have RO := Aside0.mk RO
      obtain ⟨Ao, co, hov, _⟩ := RO.out.form
      subst hov
      have S := Aside0.mk (S.out.below B2)
      have T := Aside0.mk (T.out.below B2)
      have RX := Aside0.mk (RX.out.below reads_row B2)
      have RY := Aside0.mk (RY.out.below reads_row B2)
      have RP := Aside0.mk (RP.out.below reads_row B2)
      have RM := Aside0.mk (RM.out.below reads_row B2)
      have S1 := Aside0.mk (S1.out.below B2)
      have BB := Aside0.mk (below_trans0 BB.out B2)
      clear B2
      go_wp2_with fail
      refine (is_same _ _ _ g1 n _ _ S1.out.seg RO.out).mono ?_
      rintro e w11 ⟨rfl, B2⟩
      clear S1 RO SO
      have S := Aside0.mk (S.out.below B2)
      have T := Aside0.mk (T.out.below B2)
      have RX := Aside0.mk (RX.out.below reads_row B2)
      have RY := Aside0.mk (RY.out.below reads_row B2)
      have RP := Aside0.mk (RP.out.below reads_row B2)
      have RM := Aside0.mk (RM.out.below reads_row B2)
      have BB := Aside0.mk (below_trans0 BB.out B2)
      clear B2
      go_wp2_with fail
      refine (andK _ _ _ _ _ _ _ _ S.out T.out).mono ?_
      rintro e w12 ⟨g2, rfl, S1, B2⟩
      have S1 := Aside0.mk S1
      have S := Aside0.mk (S.out.below B2)
      have T := Aside0.mk (T.out.below B2)
      have RX := Aside0.mk (RX.out.below reads_row B2)
      have RY := Aside0.mk (RY.out.below reads_row B2)
      have RP := Aside0.mk (RP.out.below reads_row B2)
      have RM := Aside0.mk (RM.out.below reads_row B2)
      have BB := Aside0.mk (below_trans0 BB.out B2)
      clear B2
      go_wp2_with fail
      refine (is_same _ _ _ g2 n _ _ S1.out.seg RP.out).mono ?_
      rintro e w13 ⟨rfl, B2⟩
      clear S1
      have S := Aside0.mk (S.out.below B2)
      have T := Aside0.mk (T.out.below B2)
      have RX := Aside0.mk (RX.out.below reads_row B2)
      have RY := Aside0.mk (RY.out.below reads_row B2)
      have RP := Aside0.mk (RP.out.below reads_row B2)
      have RM := Aside0.mk (RM.out.below reads_row B2)
      have BB := Aside0.mk (below_trans0 BB.out B2)
      clear B2
      go_wp2_with fail
      refine (minusK _ _ _ _ _ _ _ _ S.out T.out).mono ?_
      rintro e w14 ⟨g3, rfl, S1, B2⟩
      have S1 := Aside0.mk S1
      have S := Aside0.mk (S.out.below B2)
      have T := Aside0.mk (T.out.below B2)
      have RX := Aside0.mk (RX.out.below reads_row B2)
      have RY := Aside0.mk (RY.out.below reads_row B2)
      have RP := Aside0.mk (RP.out.below reads_row B2)
      have RM := Aside0.mk (RM.out.below reads_row B2)
      have BB := Aside0.mk (below_trans0 BB.out B2)
      clear B2
      go_wp2_with fail
      refine (is_same _ _ _ g3 n _ _ S1.out.seg RM.out).mono ?_
      rintro e w15 ⟨rfl, B2⟩
      clear S1
      have S := Aside0.mk (S.out.below B2)
      have T := Aside0.mk (T.out.below B2)
      have RX := Aside0.mk (RX.out.below reads_row B2)
      have RY := Aside0.mk (RY.out.below reads_row B2)
      have RP := Aside0.mk (RP.out.below reads_row B2)
      have RM := Aside0.mk (RM.out.below reads_row B2)
      have BB := Aside0.mk (below_trans0 BB.out B2)
      clear B2
      have hsl := same_len sX.out sY.out
      obtain ⟨rb, hrb⟩ : ∃ rb, decide (X = Y) = rb := ⟨_, rfl⟩
      rw [hrb] at hsl
      have HRB := Aside0.mk hrb
      have hq : (rb = true ∧ (((picked Y true X).length : Int) == (X.length : Int)) = true ∧ ((X.length : Int) == (Y.length : Int)) = true) ∨ (rb = false ∧ (((picked Y true X).length : Int) == (X.length : Int)) = true ∧ ((X.length : Int) == (Y.length : Int)) = false) ∨ (rb = false ∧ (((picked Y true X).length : Int) == (X.length : Int)) = false) := by
        by_cases q1 : (picked Y true X).length = X.length
        · by_cases q2 : X.length = Y.length
          · left; refine ⟨by rw [hsl]; simp [q1, q2], by simp [q1], by simp [q2]⟩
          · right; left; refine ⟨by rw [hsl]; simp [q2], by simp [q1], by simp; omega⟩
        · right; right; refine ⟨by rw [hsl]; simp [q1], by simp; omega⟩
      clear hsl hrb
      rcases hq with ⟨rfl, q1, q2⟩ | ⟨rfl, q1, q2⟩ | ⟨rfl, q1⟩
      all_goals
        go_wp2_with fail
        refine (same_bool _ _ _ _ _ _ _ _ _ _ S.out T.out HRB.out).mono ?_
        rintro e w16 ⟨rfl, B2⟩
        have S := Aside0.mk (S.out.below B2)
        have T := Aside0.mk (T.out.below B2)
        have RX := Aside0.mk (RX.out.below reads_row B2)
        have RY := Aside0.mk (RY.out.below reads_row B2)
        have RP := Aside0.mk (RP.out.below reads_row B2)
        have RM := Aside0.mk (RM.out.below reads_row B2)
        have BB := Aside0.mk (below_trans0 BB.out B2)
        clear B2
        go_wp2_with fail
        refine (or_nilK _ _ _ _ _ S.out (by omega)).mono ?_
        rintro e w17 ⟨g4, m4, rfl, S1, B2⟩
        have S1 := Aside0.mk S1
        have S := Aside0.mk (S.out.below B2)
        have T := Aside0.mk (T.out.below B2)
        have RX := Aside0.mk (RX.out.below reads_row B2)
        have RY := Aside0.mk (RY.out.below reads_row B2)
        have RP := Aside0.mk (RP.out.below reads_row B2)
        have RM := Aside0.mk (RM.out.below reads_row B2)
        have BB := Aside0.mk (below_trans0 BB.out B2)
        clear B2
        go_wp2_with fail
        refine (sameK _ _ _ _ _ _ _ _ _ S1.out S.out rfl).mono ?_
        rintro e w18 ⟨rfl, B2⟩
        clear S1
        have S := Aside0.mk (S.out.below B2)
        have T := Aside0.mk (T.out.below B2)
        have RX := Aside0.mk (RX.out.below reads_row B2)
        have RY := Aside0.mk (RY.out.below reads_row B2)
        have RP := Aside0.mk (RP.out.below reads_row B2)
        have RM := Aside0.mk (RM.out.below reads_row B2)
        have BB := Aside0.mk (below_trans0 BB.out B2)
        clear B2
        go_wp2_with fail
        refine (nil_orK _ _ _ _ _ S.out (by omega)).mono ?_
        rintro e w19 ⟨g5, m5, rfl, S1, B2⟩
        have S1 := Aside0.mk S1
        have S := Aside0.mk (S.out.below B2)
        have T := Aside0.mk (T.out.below B2)
        have RX := Aside0.mk (RX.out.below reads_row B2)
        have RY := Aside0.mk (RY.out.below reads_row B2)
        have RP := Aside0.mk (RP.out.below reads_row B2)
        have RM := Aside0.mk (RM.out.below reads_row B2)
        have BB := Aside0.mk (below_trans0 BB.out B2)
        clear B2
        go_wp2_with fail
        refine (sameK _ _ _ _ _ _ _ _ _ S1.out S.out rfl).mono ?_
        rintro e w20 ⟨rfl, B2⟩
        clear S1
        have S := Aside0.mk (S.out.below B2)
        have T := Aside0.mk (T.out.below B2)
        have RX := Aside0.mk (RX.out.below reads_row B2)
        have RY := Aside0.mk (RY.out.below reads_row B2)
        have RP := Aside0.mk (RP.out.below reads_row B2)
        have RM := Aside0.mk (RM.out.below reads_row B2)
        have BB := Aside0.mk (below_trans0 BB.out B2)
        clear B2
        go_wp2_with fail
        refine (len_nil _).mono ?_
        rintro e w21 ⟨rfl, rfl⟩
        go_wp2_with fail
        refine (width_nil _).mono ?_
        rintro e w22 ⟨rfl, rfl⟩
        go_wp2_with fail
        refine (minus_nilK _ _ _ _ _ S.out).mono ?_
        rintro e w23 ⟨g6, m6, rfl, S1, B2⟩
        have S1 := Aside0.mk S1
        have S := Aside0.mk (S.out.below B2)
        have T := Aside0.mk (T.out.below B2)
        have RX := Aside0.mk (RX.out.below reads_row B2)
        have RY := Aside0.mk (RY.out.below reads_row B2)
        have RP := Aside0.mk (RP.out.below reads_row B2)
        have RM := Aside0.mk (RM.out.below reads_row B2)
        have BB := Aside0.mk (below_trans0 BB.out B2)
        clear B2
        go_wp2_with fail
        refine (sameK _ _ _ _ _ _ _ _ _ S1.out S.out rfl).mono ?_
        rintro e w24 ⟨rfl, B2⟩
        clear S1
        have S := Aside0.mk (S.out.below B2)
        have T := Aside0.mk (T.out.below B2)
        have RX := Aside0.mk (RX.out.below reads_row B2)
        have RY := Aside0.mk (RY.out.below reads_row B2)
        have RP := Aside0.mk (RP.out.below reads_row B2)
        have RM := Aside0.mk (RM.out.below reads_row B2)
        have BB := Aside0.mk (below_trans0 BB.out B2)
        clear B2
        go_wp2_with fail
        refine (and_nilK _ _ _ _ _ S.out).mono ?_
        rintro e w25 ⟨g7, m7, rfl, S1, B2⟩
        have S1 := Aside0.mk S1
        have S := Aside0.mk (S.out.below B2)
        have T := Aside0.mk (T.out.below B2)
        have RX := Aside0.mk (RX.out.below reads_row B2)
        have RY := Aside0.mk (RY.out.below reads_row B2)
        have RP := Aside0.mk (RP.out.below reads_row B2)
        have RM := Aside0.mk (RM.out.below reads_row B2)
        have BB := Aside0.mk (below_trans0 BB.out B2)
        clear B2
        go_wp2_with fail
        refine (lenK _ _ _ _ _ S1.out).mono ?_
        rintro e w26 ⟨rfl, rfl⟩
        clear S1
        go_wp2_with fail
        refine (nil_minusK _ _ _ _ _ S.out).mono ?_
        rintro e w27 ⟨g8, m8, rfl, S1, B2⟩
        have S1 := Aside0.mk S1
        have S := Aside0.mk (S.out.below B2)
        have T := Aside0.mk (T.out.below B2)
        have RX := Aside0.mk (RX.out.below reads_row B2)
        have RY := Aside0.mk (RY.out.below reads_row B2)
        have RP := Aside0.mk (RP.out.below reads_row B2)
        have RM := Aside0.mk (RM.out.below reads_row B2)
        have BB := Aside0.mk (below_trans0 BB.out B2)
        clear B2
        go_wp2_with fail
        refine (lenK _ _ _ _ _ S1.out).mono ?_
        rintro e w28 ⟨rfl, rfl⟩
        clear S1
        go_wp2_with fail
        refine (is_same _ _ _ gs n _ _ S.out.seg RX.out).mono ?_
        rintro e w29 ⟨rfl, B2⟩
        have S := Aside0.mk (S.out.below B2)
        have T := Aside0.mk (T.out.below B2)
        have RX := Aside0.mk (RX.out.below reads_row B2)
        have RY := Aside0.mk (RY.out.below reads_row B2)
        have RP := Aside0.mk (RP.out.below reads_row B2)
        have RM := Aside0.mk (RM.out.below reads_row B2)
        have BB := Aside0.mk (below_trans0 BB.out B2)
        clear B2
        go_wp2_with fail
        refine (is_same _ _ _ gt n _ _ T.out.seg RY.out).mono ?_
        rintro e w30 ⟨rfl, B2⟩
        have S := Aside0.mk (S.out.below B2)
        have T := Aside0.mk (T.out.below B2)
        have RX := Aside0.mk (RX.out.below reads_row B2)
        have RY := Aside0.mk (RY.out.below reads_row B2)
        have RP := Aside0.mk (RP.out.below reads_row B2)
        have RM := Aside0.mk (RM.out.below reads_row B2)
        have BB := Aside0.mk (below_trans0 BB.out B2)
        clear B2
        go_wp2
        go_ret
        exact ⟨rfl, BB.out⟩
end Go.Proofs.Ytalbgdbphdhhaaa.Sg
