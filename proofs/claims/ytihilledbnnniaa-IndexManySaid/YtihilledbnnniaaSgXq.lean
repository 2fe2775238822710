/- IndexMany: the walk. -/
import Derived.Test.YtihilledbnnniaaSgXp
import Derived.Test.YtihilledbnnniaaSgXo
namespace Go.Proofs.Ytihilledbnnniaa.Sg
open Go.RowKit Go.Shelf
set_option linter.unusedVariables false
set_option linter.unusedSimpArgs false

theorem and_mask (x : Int) (c : Nat) (hc : c < 9223372036854775808) : ∃ m : Nat, m ≤ c ∧ bits .and .i64 x (c : Int) = (m : Int) := by
  refine ⟨(BitVec.ofInt 64 x &&& BitVec.ofInt 64 (c : Int)).toNat, ?_, ?_⟩
  · rw [BitVec.toNat_and]
    refine Nat.le_trans Nat.and_le_right ?_
    rw [BitVec.ofInt_natCast, BitVec.toNat_ofNat]
    exact Nat.mod_le _ _
  · have h : (BitVec.ofInt 64 x &&& BitVec.ofInt 64 (c : Int)).toNat ≤ c := by
      rw [BitVec.toNat_and]
      refine Nat.le_trans Nat.and_le_right ?_
      rw [BitVec.ofInt_natCast, BitVec.toNat_ofNat]
      exact Nat.mod_le _ _
    show IntKind.i64.wrap _ = _
    rw [IntKind.wrap_i64]
    have e : ∀ k : Nat, k ≤ c → ((k : Int) + 9223372036854775808) % 18446744073709551616 - 9223372036854775808 = (k : Int) := by intro k hk; omega
    exact e _ h

set_option maxHeartbeats 4000000 in
set_option maxRecDepth 100000 in
theorem IndexMany_walk (x y z t : Int) (w : World) (hx : In64 x) (hy : In64 y) (hz : In64 z) (ht : In64 t) :
    Calls Try.prog 4 #[.int .i64 x, .int .i64 y, .int .i64 z, .int .i64 t] w fun e w' => e = .returned (.bool true) ∧ Below w.heap.size w w' := by
  obtain ⟨n, hn, en⟩ := and_mask x 511 (by omega)
  obtain ⟨m0, hm0, em⟩ := and_mask y 255 (by omega)
  obtain ⟨s0, hs0, es⟩ := and_mask z 65535 (by omega)
  obtain ⟨a, ha, ea⟩ := and_mask t 511 (by omega)
  obtain ⟨m, hm⟩ : ∃ m, m = m0 + 1 := ⟨_, rfl⟩
  obtain ⟨s, hs⟩ : ∃ s, s = s0 + 1 := ⟨_, rfl⟩
  have em1 : 1 + (m0 : Int) = (m : Int) := by omega
  have es1 : 1 + (s0 : Int) = (s : Int) := by omega
  have hmp : 0 < m := by omega
  have hsp : 0 < s := by omega
  have hm2 : m ≤ 256 := by omega
  have hs2 : s ≤ 65536 := by omega
  simp only [Int.cast_ofNat_Int] at en em es ea
  clear hx hy hz ht hm hs
  go_enter Try.func4, Try.ntmps4
  go_wp2_with fail
  refine (head7_any w).mono ?_
  rintro e w1 ⟨rfl, B1⟩
  have B1 := Aside0.mk B1
  go_wp2_with fail
  obtain ⟨ir, hir, hr0, hr1, hr2⟩ := info_parts info_row
  have ST := Aside0.mk (BuiltBy.empty RowAt w1 w1.heap.size 24 (· ≠ w1.heap.size) (Nat.le_refl _))
  have STB := Aside0.mk (below_alloc0 (Below.refl w1.heap.size w1) (.cells #[] 24))
  have MR := Aside0.mk (show ∀ i, (manyRows m s i).length = i by intro i; simp [manyRows])
  go_loopw [9, 10] (fun s9 s10 wr => ∃ (i b cap : Nat) (cs : List Value), s10 = .int .i64 i ∧ s9 = .slice (some ⟨b, 0, none⟩) i cap ∧ i ≤ n ∧ Aside0 (BuiltBy RowAt wr w1.heap.size 24 (· ≠ b) (.slice (some ⟨b, 0, none⟩) i cap) (manyRows m s i) cs) ∧ Aside0 (Below w1.heap.size w1 wr)) (fun _ s10 _ => n - (intOf s10).toNat)
  case atStart => exact ⟨0, w1.heap.size, 0, [], rfl, rfl, Nat.zero_le _, ST, STB⟩
  case round =>
    obtain ⟨i, b, cap, cs, rfl, rfl, hi, HU, HB⟩ := hrel
    have hbs := HB.out.size
    clear ST STB
    by_cases hlt : i < n
    · obtain ⟨r, hr⟩ : ∃ r, i % m = r := ⟨_, rfl⟩
      obtain ⟨q, hq⟩ : ∃ q, r * s = q := ⟨_, rfl⟩
      have hrm : r < m := by rw [← hr]; exact Nat.mod_lt _ hmp
      have hq2 : q ≤ 16777216 := by
        rw [← hq]
        exact Nat.le_trans (Nat.mul_le_mul (show r ≤ 256 by omega) hs2) (by omega)
      have e1 : (i : Int) % (m : Int) = (r : Int) := by rw [← hr, Int.natCast_emod]
      have e2 : (r : Int) * (s : Int) = (q : Int) := by rw [← hq, Int.natCast_mul]
      obtain ⟨vq, hvq⟩ : ∃ vq, q * 1048576 = vq := ⟨_, rfl⟩
      have e3 : (q : Int) * 1048576 = (vq : Int) := by omega
      have HV := Aside0.mk (show val m s i = vq by unfold val; rw [hr, hq, hvq])
      have hvq2 : vq ≤ 17592186044416 := by omega
      obtain ⟨hc1, hc2, hblt, hbge⟩ := HU.out.caps
      have R0 := RowAt.newT wr [(i : Int), (vq : Int)] 2 (by simp) (fun x hx => by simp at hx; unfold In64; omega)
      have BA := below_alloc0 (Below.refl wr.heap.size wr) (.cells #[.int .i64 (i : Int), .int .i64 (vq : Int)] 2)
      have HUA := Aside0.mk (HU.out.stays reads_row (Stays.of_below BA (fun _ => True)) (fun _ _ _ => trivial) (fun _ _ => trivial))
      have R1 := Aside0.mk (reads_row.mono (ok2 := (· ≠ b)) R0 (fun k hk _ => by omega))
      have CN := cell_one_new (wr.alloc (.cells #[.int .i64 (i : Int), .int .i64 (vq : Int)] 2)) (.slice (some ⟨wr.heap.size, 0, none⟩) 2 2) 24
      rw [World.size_alloc] at CN
      have CN := Aside0.mk CN
      have h63 := Aside0.mk (show i + 1 ≤ maxLen by unfold maxLen; omega)
      have hby := Aside0.mk (show (i + 1) * 24 ≤ 140737488355328 by omega)
      have hsz := Aside0.mk (fun o o2 => (show w1.heap.size ≤ ((wr.alloc o).alloc o2).heap.size by simp; omega))
      have BN := Aside0.mk (below_alloc0 (Below.refl wr.heap.size wr) (.cells #[.int .i64 (i : Int), .int .i64 (vq : Int)] 2))
      have MRi := Aside0.mk (MR.out i)
      clear hr hq hvq R0 BA
      go_wp2_with (at_builtin; refine wpList_append_own_at _ rfl (.tmp 32) (.tmp 41) 22 rfl w1.heap.size 24 ir (.slice none 0 0) 1 24 Try.underlying22 hir hr0 hr1 hr2 rfl (by decide) _ i cs rfl (by have := HUA.out.own.alloc (.cells #[.slice (some ⟨wr.heap.size, 0, none⟩) 2 2] 24); rw [MRi.out] at this; exact this) ⟨wr.heap.size + 1, 0, none⟩ 1 1 [Value.slice (some ⟨wr.heap.size, 0, none⟩) 2 2] rfl rfl CN.out (by simp [Value.oneCell']) h63.out hby.out (hsz.out _ _) ?_; intro v1 w10 ho hg _ hb; obtain ⟨b1, cap1, rfl⟩ := own_some ho; have O1 := Aside0.mk ho; have G1 := Aside0.mk hg; have HBB := Aside0.mk hb; clear ho hg hb)
      go_roundw
      case rel =>
        refine ⟨i + 1, b1, cap1, cs ++ [.slice (some ⟨wr.heap.size, 0, none⟩) 2 2], by go_num, rfl, by omega, ⟨?_⟩, ⟨?_⟩⟩
        · rw [many_succ, HV.out]
          have O2 := O1.out
          rw [← MRi.out] at O2
          have := BuiltBy.push HUA.out R1.out O2 G1.out HBB.out
          rw [MRi.out] at this
          exact this
        · exact (below_alloc (HB.out.trans (BN.out.mono hbs)) (by simp; omega) _).grown G1.out (by simp; omega) (own_below HUA.out.own)
      case measure => simp [intOf]; omega
    · obtain rfl : i = n := by omega
      have hml := MR.out i
      have RD : RowsAt wr (fun _ => True) (.slice (some ⟨b, 0, none⟩) i cap) (manyRows m s i) := SlAt.of_own0 HU.out.own rfl (fun _ _ _ => trivial) (by rw [hml]; omega) (fun j hj u hu => reads_row.mono (HU.out.el j hj u hu) (fun _ _ _ => trivial))
      have MK := make_any wr _ _ 2 _ RD (by omega) (by rw [hml]; omega)
      rw [many_norm] at MK
      have MK := Aside0.mk MK
      have BZ := Aside0.mk (below_trans0 B1.out HB.out)
      have HK := Aside0.mk (many_keys m s i)
      have HUQ := manyKeys_uniq m s hmp hsp i
      obtain ⟨k, hk⟩ : ∃ k, min i m = k := ⟨_, rfl⟩
      rw [hk] at HUQ
      have HUQ := Aside0.mk HUQ
      have e4 : min (i : Int) (m : Int) = (k : Int) := by omega
      have hk6 : k ≤ 511 := by omega
      have dk : ((k : Int) != (k : Int)) = false := by simp
      obtain ⟨ra, hra⟩ : ∃ ra, a % m = ra := ⟨_, rfl⟩
      obtain ⟨qa, hqa⟩ : ∃ qa, ra * s = qa := ⟨_, rfl⟩
      have hram : ra < m := by rw [← hra]; exact Nat.mod_lt _ hmp
      have hqa2 : qa ≤ 16777216 := by
        rw [← hqa]
        exact Nat.le_trans (Nat.mul_le_mul (show ra ≤ 256 by omega) hs2) (by omega)
      obtain ⟨va, hva⟩ : ∃ va, qa * 1048576 = va := ⟨_, rfl⟩
      have f1 : (a : Int) % (m : Int) = (ra : Int) := by rw [← hra, Int.natCast_emod]
      have f2 : (ra : Int) * (s : Int) = (qa : Int) := by rw [← hqa, Int.natCast_mul]
      have f3 : (qa : Int) * 1048576 = (va : Int) := by omega
      have HVA := Aside0.mk (show val m s a = va by unfold val; rw [hra, hqa, hva])
      have HRA := Aside0.mk hra
      have hva2 : va ≤ 17592186044416 := by omega
      clear hml RD HU HB hbs hk hra hqa hva MR
      go_wp2_with fail
      refine (MK.out).mono ?_
      rintro e w2 ⟨v, rfl, S2, B2⟩
      obtain ⟨g2, cv2, hv2, _⟩ := S2.ex
      subst hv2
      have BA := below_alloc0 (Below.refl w2.heap.size w2) (.cells #[.int .i64 1] 3)
      have RA := RowAt.newT w2 [1] 3 (by decide) (fun x hx => in64_small (by simp at hx; omega))
      have BD := build_any _ _ _ _ _ 2 _ [1] (S2.below BA) RA (by decide)
      rw [HK.out, HUQ.out] at BD
      have BD := Aside0.mk BD
      have B2 := Aside0.mk (below_trans0 (below_trans0 BZ.out B2) BA)
      clear MK BZ RA S2 BA
      go_wp2_with fail
      refine (BD.out).mono ?_
      rintro e w3 ⟨gx, mx, rfl, IX, B3⟩
      have LX := Aside0.mk (lenx_any w3 _ _ _ _ _ IX)
      have BC := below_alloc0 (Below.refl w3.heap.size w3) (.cells #[.int .i64 (va : Int)] 2)
      have RC := RowAt.newT w3 [(va : Int)] 2 (by simp) (fun x hx => by simp at hx; unfold In64; omega)
      have PB := Aside0.mk (probe_any _ _ _ _ _ _ _ _ [(va : Int)] (IX.below BC) RC (by omega))
      have IX := Aside0.mk (IX.below BC)
      have B3 := Aside0.mk (below_trans0 (below_trans0 B2.out B3) BC)
      clear BD B2 RC BC
      go_wp2_with fail
      refine (LX.out).mono ?_
      rintro e w' ⟨rfl, rfl⟩
      go_wp2_with fail
      refine (PB.out).mono ?_
      rintro e w4 ⟨gv, rfl, RG, B4⟩
      have hgl := which_le (manyKeys m s i) [(va : Int)]
      rw [manyKeys_length] at hgl
      have GE := Aside0.mk (fun j (h : j < (manyKeys m s i).length) (e : (manyKeys m s i)[j] = [(va : Int)]) => cntUp_get h e)
      have BY := Aside0.mk (fun j (h : (manyKeys m s i).length ≤ j) => cntUp_beyond (k := [(va : Int)]) h)
      obtain ⟨G, hG⟩ : ∃ G, which (manyKeys m s i) [(va : Int)] = G := ⟨_, rfl⟩
      rw [hG] at RG hgl BY
      have HG := Aside0.mk hG
      obtain ⟨Ag, cg, hgf, _⟩ := RG.form
      subst hgf
      have IX4 := IX.out.below B4
      have BN := below_alloc0 (Below.refl w4.heap.size w4) (.cells #[.int .i64 (-1)] 2)
      have RN := RowAt.newT w4 [-1] 2 (by decide) (fun x hx => in64_small (by simp at hx; omega))
      have PN := Aside0.mk (probe_any _ _ _ _ _ _ _ _ [-1] (IX4.below BN) RN (by omega))
      have B4 := Aside0.mk (below_trans0 (below_trans0 B3.out B4) BN)
      have RG := Aside0.mk RG
      have FI := Aside0.mk (show ra % m = a % m ∧ (0 : Nat) = cntUp (manyKeys m s i) [(va : Int)] ra by
        refine ⟨by rw [Nat.mod_eq_of_lt hram, HRA.out], ?_⟩
        rw [← HVA.out, many_first hsp hmp ra (by rw [HRA.out]; exact Nat.le_refl _)])
      clear LX PB IX IX4 RN BN B3 hG
      go_wp2_with fail
      go_loop [14, 15] (fun s14 s15 => ∃ c j : Nat, s14 = .int .i64 c ∧ s15 = .int .i64 j ∧ j ≤ i + 256 ∧ c ≤ 511 ∧ Aside0 (j % m = a % m ∧ c = cntUp (manyKeys m s i) [(va : Int)] j)) (fun _ s15 => i - (intOf s15).toNat)
      case atStart => exact ⟨0, ra, rfl, by first | rfl | rw [f1], by omega, by omega, FI⟩
      case round =>
        obtain ⟨c, j, rfl, rfl, hj, hc, HC⟩ := hrel
        by_cases hji : j < i
        · have hjl : j < (manyKeys m s i).length := by rw [manyKeys_length]; exact hji
          obtain ⟨q1, q2⟩ := GE.out j hjl (by rw [manyKeys_get hjl, ← HVA.out]; exact (val_inj hsp).2 HC.out.1)
          simp only [HG.out] at q1 q2
          rw [← HC.out.2] at q1
          have q3 : G[c] = (j : Int) := by
            have := HC.out.2
            subst this
            exact q2
          obtain ⟨b6, o6, u6, rfl, _, _, c6, rfl, _⟩ := RG.out.at_ c q1
          rw [q3] at c6
          have NX := many_next (n := i) hsp hmp hji HC.out.1
          rw [HVA.out, ← HC.out.2] at NX
          have NX := Aside0.mk NX
          have dj : ((j : Int) != (j : Int)) = false := by simp
          have dg : decide (G.length ≤ c) = false := by simp; exact q1
          clear q2 q3 hjl
          go_wp2
          go_round
          case rel => exact ⟨c + 1, j + m, by go_num, by go_num, by omega, by omega, ⟨by rw [Nat.add_mod_right]; exact HC.out.1, NX.out.symm⟩⟩
          case measure => simp [intOf]; omega
        · have hcG : c = G.length := by rw [HC.out.2]; exact BY.out j (by rw [manyKeys_length]; omega)
          subst hcG
          have dz : ((G.length : Int) == (G.length : Int)) = true := by simp
          go_wp2_with fail
          refine (PN.out).mono ?_
          rintro e w5 ⟨nv, rfl, RZ, B5⟩
          rw [many_none] at RZ
          obtain ⟨An, cn, hnf, _⟩ := RZ.form
          subst hnf
          have BE := Aside0.mk (below_trans0 B4.out B5)
          clear RZ B5 PN
          go_wp2
          go_ret
          exact ⟨rfl, BE.out⟩
end Go.Proofs.Ytihilledbnnniaa.Sg
