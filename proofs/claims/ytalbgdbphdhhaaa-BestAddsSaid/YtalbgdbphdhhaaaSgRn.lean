/- SegmentTurns: rows in another order, and twice, are the same set. The walk. -/
import Derived.Test.YtalbgdbphdhhaaaSgRl
import Derived.Test.YtalbgdbphdhhaaaSgL
namespace Go.Proofs.Ytalbgdbphdhhaaa.Sg
open Go.RowKit Go.Shelf
set_option linter.unusedVariables false
set_option linter.unusedSimpArgs false

theorem and_mask (x : Int) (c : Nat) (hc : c < 9223372036854775808) : ∃ m : Nat, m ≤ c ∧ bits .and .i64 x (c : Int) = (m : Int) := by
  refine ⟨(BitVec.ofInt 64 x &&& BitVec.ofInt 64 (c : Int)).toNat, ?_, ?_⟩
  · rw [BitVec.toNat_and]
    refine Nat.le_trans Nat.and_le_right ?_
    rw [BitVec.ofInt_natCast, BitVec.toNat_ofNat]
    exact Nat.mod_le _ _
  · have h : (BitVec.ofInt 64 x &&& BitVec.ofInt 64 (c : Int)).toNat ≤ c := by
      rw [BitVec.toNat_and]
      refine Nat.le_trans Nat.and_le_right ?_
      rw [BitVec.ofInt_natCast, BitVec.toNat_ofNat]
      exact Nat.mod_le _ _
    show IntKind.i64.wrap _ = _
    rw [IntKind.wrap_i64]
    have e : ∀ k : Nat, k ≤ c → ((k : Int) + 9223372036854775808) % 18446744073709551616 - 9223372036854775808 = (k : Int) := by intro k hk; omega
    exact e _ h

/-- The rows from a place on, round and round. -/
def turnK (rs : List Row) (m : Nat) (k : Nat) : List Row := (List.range k).map fun i => rs.getD ((i + m) % (max rs.length 1)) []
theorem turnK_succ (rs : List Row) (m k : Nat) : turnK rs m (k + 1) = turnK rs m k ++ [rs.getD ((k + m) % (max rs.length 1)) []] := by unfold turnK; rw [List.range_succ, List.map_append]; rfl
theorem turnK_length (rs : List Row) (m k : Nat) : (turnK rs m k).length = k := by unfold turnK; simp
theorem turnK_norm (rs : List Row) (m n : Nat) : norm n (turnK rs m rs.length ++ rs) = norm n rs := by
  refine norm_eq (SS_norm _ _) fun x => ?_
  rw [mem_norm, List.mem_append]
  constructor
  · rintro ⟨h | h, h2⟩
    · unfold turnK at h
      obtain ⟨i, hi, rfl⟩ := List.mem_map.1 h
      have h3 := List.mem_range.1 hi
      refine ⟨?_, h2⟩
      have h4 : (i + m) % max rs.length 1 < rs.length := by
        have := Nat.mod_lt (i + m) (show 0 < max rs.length 1 by omega)
        omega
      rw [List.getD_eq_getElem?_getD, List.getElem?_eq_getElem h4]
      exact List.getElem_mem h4
    · exact ⟨h, h2⟩
  · rintro ⟨h, h2⟩; exact ⟨.inr h, h2⟩

set_option maxHeartbeats 8000000 in
set_option maxRecDepth 100000 in
theorem SegmentTurns_walk (x : Int) (rv : Value) (rs : List Row) (at_ : Int) (w : World) (hx : In64 x) (hr : RowsAt w (fun _ => True) rv rs) (ha : In64 at_) :
    Calls Try.prog 4 #[.int .i64 x, rv, .int .i64 at_] w fun e w' => e = .returned (.bool true) ∧ Below w.heap.size w w' := by
  obtain ⟨Ar, cr, hrv, _⟩ := hr.form
  subst hrv
  have HR := Aside0.mk hr
  clear hr
  obtain ⟨ir, hir, hr0, hr1, hr2⟩ := info_parts info_rowR
  obtain ⟨b, hb⟩ : ∃ b, few rs = b := ⟨_, rfl⟩
  have HF := Aside0.mk hb
  have FW := Aside0.mk (fun W (h : RowsAt W (fun _ => True) (.slice Ar rs.length cr) rs) => few_b W _ _ rs b h hb)
  clear hb
  go_enter Try.func4, Try.ntmps4
  go_wp2_with fail
  refine (head_any w).mono ?_
  rintro e w1 ⟨rfl, B1⟩
  have HR1 := Aside0.mk (HR.out.below reads_row B1)
  have HRO := Aside0.mk (reads_rows.mono (ok2 := (· < w1.heap.size)) HR1.out (fun b _ hl => hl))
  have B1 := Aside0.mk B1
  have FW1 := Aside0.mk (FW.out w1 HR1.out)
  clear HR FW
  go_wp2_with fail
  refine (FW1.out).mono ?_
  rintro e w' ⟨rfl, rfl⟩
  clear FW1
  cases b with
  | false =>
    go_wp2
    go_ret
    exact ⟨rfl, B1.out⟩
  | true =>
  obtain ⟨n, hn, hmod⟩ := mod_u x 5 (by omega) (by omega)
  rw [show ((5 : Nat) : Int) = 5 from rfl] at hmod
  have l1 := (few_yes HF.out).1
  obtain ⟨mx, hmx⟩ : ∃ mx : Nat, max rs.length 1 = mx := ⟨_, rfl⟩
  have hmx1 : max (rs.length : Int) 1 = (mx : Int) := by omega
  have hmx2 : 1 ≤ mx ∧ mx ≤ 60 := by omega
  obtain ⟨m, hm, hmask⟩ := and_mask at_ 65535 (by omega)
  rw [show ((65535 : Nat) : Int) = 65535 from rfl] at hmask
  have TN := Aside0.mk (turnK_norm rs m n)
  have TS := Aside0.mk (fun k => turnK_succ rs m k)
  have TL := Aside0.mk (fun k => turnK_length rs m k)
  rw [hmx] at TS
  clear HF hx hmx
  go_wp2_with fail
  go_loopw [7, 27] (fun s7 s27 wr => ∃ (k : Nat) (cs : List Value), s27 = .int .i64 k ∧ k ≤ rs.length ∧ Aside0 (BuiltBy RowAt wr w1.heap.size 23 (Off s7) s7 (turnK rs m k) cs) ∧ Aside0 (Below w1.heap.size w1 wr)) (fun _ s27 _ => rs.length - (intOf s27).toNat)
  case atStart => exact ⟨0, [], rfl, Nat.zero_le _, ⟨BuiltBy.empty RowAt w1 w1.heap.size 23 _ (Nat.le_refl _)⟩, ⟨below_alloc0 (Below.refl _ _) _⟩⟩
  case round =>
    obtain ⟨k, cs, rfl, hk, HU, HB⟩ := hrel
    have hl := TL.out k
    have hbs := HB.out.size
    by_cases hlt : k < rs.length
    · obtain ⟨i, hi⟩ : ∃ i, (k + m) % mx = i := ⟨_, rfl⟩
      have hil : i < rs.length := by have := Nat.mod_lt (k + m) (show 0 < mx by omega); omega
      have hmod1 : ((k : Int) + (m : Int)) % (mx : Int) = (i : Int) := by rw [← hi, Int.natCast_emod, Int.natCast_add]
      have hmod2 : ((k : Int) + (m : Int)).tmod (mx : Int) = (i : Int) := by rw [Int.tmod_eq_emod_of_nonneg (by omega)]; exact hmod1
      obtain ⟨b, o, u, rfl, _, hbl, hc, hu⟩ := (HRO.out.below reads_row HB.out).at_ i hil
      have TK := TS.out k
      rw [hi, List.getD_eq_getElem?_getD, List.getElem?_eq_getElem hil] at TK
      simp only [Option.getD_some] at TK
      have TK := Aside0.mk TK
      obtain ⟨Au, cu, hue, _⟩ := hu.form
      subst hue
      obtain ⟨A7, c7, hv7⟩ := own_form HU.out.own
      subst hv7
      have HU0 := Aside0.mk (reads_row.mono (ok2 := Off (.slice A7 (turnK rs m k).length c7)) hu (fun b hb _ e => by have := own_below HU.out.own b e; omega))
      clear hu hi
      generalize rs[i] = r at *
      have h63 := Aside0.mk (show (turnK rs m k).length + 1 ≤ maxLen by unfold maxLen; omega)
      have hby := Aside0.mk (show ((turnK rs m k).length + 1) * 24 ≤ 140737488355328 by omega)
      have hsz := Aside0.mk (fun o => (show w1.heap.size ≤ (wr.alloc o).heap.size by simp; omega))
      go_wp2_with (at_builtin; refine wpList_append_own_at _ rfl (.tmp 30) (.tmp 40) 28 rfl w1.heap.size 23 ir (.slice none 0 0) 1 24 Try.underlying28 hir hr0 hr1 hr2 rfl (by decide) _ _ _ rfl (HU.out.own.alloc _) ⟨wr.heap.size, 0, none⟩ 1 1 [Value.slice Au r.length cu] rfl rfl (cell_one_new _ _ _) (by simp [Value.oneCell']) h63.out hby.out (hsz.out _) ?_; intro v1 w10 ho hg _ hb; have NX := Aside0.mk (HU.out.pushV reads_row HU0.out ho hg hb); have G1 := Aside0.mk hg; clear ho hg hb)
      go_roundw
      case rel => exact ⟨k + 1, _, by go_num, by omega, ⟨by rw [TK.out]; exact NX.out⟩, ⟨(below_alloc HB.out hbs _).grown G1.out (by simp; omega) (own_below HU.out.own)⟩⟩
      case measure => simp [intOf]; omega
    · obtain rfl : k = rs.length := by omega
      have BB := Aside0.mk (below_trans0 B1.out HB.out)
      have MK := Aside0.mk (make_any wr _ _ n rs (HR1.out.below reads_row HB.out) (by omega) (by omega))
      obtain ⟨A7, c7, hv7⟩ := own_form HU.out.own
      subst hv7
      rw [hl] at *
      go_wp2_with fail
      refine (MK.out).mono ?_
      rintro e w2 ⟨v2, rfl, S1, B2⟩
      obtain ⟨g1, cv1, hv1, _⟩ := S1.ex
      subst hv1
      have S1 := Aside0.mk S1
      have HLT := Aside0.mk (fun b hb => (HU.out.own.lt b hb).2)
      have HU2 := Aside0.mk (HU.out.stays reads_row (Stays.of_below B2 (fun _ => True)) (fun _ _ _ => trivial) (fun _ _ => trivial))
      have HB2 := Aside0.mk (below_trans0 HB.out B2)
      have BB := Aside0.mk (below_trans0 BB.out B2)
      clear MK B2 HU HB
      obtain ⟨ds, hd1, hd2, hd3, hd4⟩ := (HRO.out.below reads_row HB2.out).vals
      have hbs2 := HB2.out.size
      have D4 := Aside0.mk (show ∀ j (hj : j < rs.length) z, ds[j]? = some z → RowAt w2 (Off (.slice A7 rs.length c7)) z rs[j] from fun j hj z hz => reads_row.mono (hd4 j hj z hz) (fun b hb _ e => by have := own_below HU2.out.own b e; omega))
      have D3 := Aside0.mk (show ∀ j z, ds[j]? = some z → ∃ b off, Ar = some ⟨b, off, none⟩ ∧ w2.cell? ⟨b, off + j, none⟩ = some z from fun j z hz => by obtain ⟨b, off, h1, _, h2⟩ := hd3 j z hz; exact ⟨b, off, h1, h2⟩)
      have D1 := Aside0.mk (show ∀ z ∈ ds, z.oneCell' = true from fun z hz => by
        obtain ⟨j, hj, rfl⟩ := List.mem_iff_getElem.1 hz
        exact reads_row.one (hd4 j (by omega) _ (List.getElem?_eq_getElem hj)))
      have DL := Aside0.mk hd1
      have HOW := Aside0.mk (show w2.ownsRow w1.heap.size 23 1 (.slice A7 rs.length c7) rs.length cs by have h9 := HU2.out.own; rw [TL.out] at h9; exact h9)
      clear hd1 hd3 hd4
      have h63 := Aside0.mk (show rs.length + rs.length ≤ maxLen by unfold maxLen; omega)
      have hby := Aside0.mk (show (rs.length + rs.length) * 24 ≤ 140737488355328 by omega)
      go_wp2_with (at_builtin; refine wpList_append_list rfl (.tmp 47) (.tmp 48) 28 rfl w1.heap.size 23 ir (.slice none 0 0) 24 Try.underlying28 hir hr0 hr1 hr2 rfl _ _ _ rfl HOW.out Ar rs.length cr ds rfl DL.out D3.out D1.out h63.out hby.out hbs2 ?_; intro v1 w10 ho hg hb; have B10 := Aside0.mk (HB2.out.grown hg hbs2 (own_below HU2.out.own)); have NX := Aside0.mk (HU2.out.pushAll reads_row DL.out D4.out (by rw [TL.out]; exact ho) hg hb); have G10 := Aside0.mk hg; obtain ⟨A9, c9, hv9⟩ := own_form ho; subst hv9; clear ho hg hb)
      have S10 := Aside0.mk (((S1.out.stays ((Stays.of_grown G10.out).mono (fun b hb _ e => by have := HLT.out b e; omega))).mono (ok2 := fun _ => True) (fun _ _ _ => trivial)).setK (SS_norm n rs) (k := 60) (by have := norm_length n rs; omega))
      obtain ⟨g1', hg1, S10⟩ := S10.out
      obtain rfl : g1 = g1' := by injection hg1 with h; injection h with h; injection h
      have S10 := Aside0.mk S10
      have R10 := Aside0.mk (show RowsAt w10 (fun _ => True) (.slice A9 (rs.length + rs.length) c9) (turnK rs m rs.length ++ rs) from SlAt.of_own0 (n := rs.length + rs.length) (by have h9 := NX.out.own; rw [List.length_append, TL.out] at h9; exact h9) (by rw [List.length_append, TL.out]) (fun _ _ _ => trivial) (by rw [List.length_append, TL.out]; omega) (fun j hj z hz => reads_row.mono (NX.out.el j hj z hz) (fun _ _ _ => trivial)))
      have MK := Aside0.mk (makeK w10 _ _ n 120 _ R10.out (by omega) (by rw [List.length_append, TL.out]; omega) (by omega))
      have e10 : w2.heap.size ≤ w10.heap.size := G10.out.size
      have BW := Aside0.mk (show Below w.heap.size w w10 from BB.out.grown G10.out BB.out.size (fun k hk => by have := own_below HOW.out k hk; have := B1.out.size; omega))
      rw [TN.out] at MK
      clear hg1 S1 R10 NX G10 B10 HOW HB2 HU2 HRO HR1 D1 D3 D4 DL BB B1
      go_wp2_with fail
      refine (MK.out).mono ?_
      rintro e w11 ⟨g2, rfl, S11, B11⟩
      have S11 := Aside0.mk S11
      have S10 := Aside0.mk (S10.out.below B11)
      have BW := Aside0.mk (below_trans0 BW.out B11)
      clear MK B11
      go_wp2_with fail
      refine (sameK _ _ _ _ _ _ _ _ _ S10.out S11.out rfl).mono ?_
      rintro e w12 ⟨rfl, B11⟩
      have S11 := Aside0.mk (S11.out.below B11)
      have S10 := Aside0.mk (S10.out.below B11)
      have BW := Aside0.mk (below_trans0 BW.out B11)
      clear B11
      go_wp2_with fail
      refine (sameK _ _ _ _ _ _ _ _ _ S11.out S10.out rfl).mono ?_
      rintro e w13 ⟨rfl, B11⟩
      have S11 := Aside0.mk (S11.out.below B11)
      have S10 := Aside0.mk (S10.out.below B11)
      have BW := Aside0.mk (below_trans0 BW.out B11)
      have L1 := Aside0.mk (lenK _ _ _ _ _ S10.out)
      have L2 := Aside0.mk (lenK _ _ _ _ _ S11.out)
      clear B11
      go_wp2_with fail
      refine (L1.out).mono ?_
      rintro e w' ⟨rfl, rfl⟩
      go_wp2_with fail
      refine (L2.out).mono ?_
      rintro e w' ⟨rfl, rfl⟩
      go_wp2
      go_ret
      exact ⟨rfl, BW.out⟩
end Go.Proofs.Ytalbgdbphdhhaaa.Sg
