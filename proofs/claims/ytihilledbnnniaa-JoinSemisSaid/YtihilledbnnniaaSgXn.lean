/- Contract: the laws' own probe: are the rows that have some numbers just those that are found? -/
import Derived.Test.YtihilledbnnniaaSgXl
namespace Go.Proofs.Ytihilledbnnniaa.Sg
open Go.RowKit Go.Shelf
set_option linter.unusedVariables false
set_option linter.unusedSimpArgs false

def cntUp (KS : List Row) (k : Row) (i : Nat) : Nat := (KS.take i).countP fun q => decide (q = k)
theorem cntUp_yes {KS : List Row} {k : Row} {i : Nat} (h : i < KS.length) (e : KS[i] = k) : cntUp KS k (i + 1) = cntUp KS k i + 1 := by
  unfold cntUp
  rw [List.take_succ_eq_append_getElem h, List.countP_append, e]
  simp
theorem cntUp_no {KS : List Row} {k : Row} {i : Nat} (h : i < KS.length) (e : KS[i] ≠ k) : cntUp KS k (i + 1) = cntUp KS k i := by
  unfold cntUp
  rw [List.take_succ_eq_append_getElem h, List.countP_append]
  simp [e]
theorem cntUp_get {KS : List Row} {k : Row} {i : Nat} (h : i < KS.length) (e : KS[i] = k) : ∃ hl : cntUp KS k i < (which KS k).length, (which KS k)[cntUp KS k i] = (i : Int) := by
  have := which_get KS k i (by rw [List.getElem?_eq_getElem h, e])
  exact List.getElem?_eq_some_iff.1 this

set_option maxHeartbeats 4000000 in
set_option maxRecDepth 100000 in
theorem probe7_any (w : World) (ok ok2 ok3 : Nat → Prop) (B m g used : Nat) (sg : Nat) (n : Nat) (L : List Row) (p key : Row) (pv kv : Value) (hS : SegAt w ok (.pointer (some ⟨sg, 0, none⟩)) n L) (hp : RowAt w ok2 pv p) (hk : RowAt w ok3 kv key) (hpl : p.length < 1000000)
    (hI : IdxOk w B m g (which (L.map fun r => keyOf r p)) used) (hu : used < 1000000) :
    Calls Try.prog 20 #[.pointer (some ⟨g, 0, none⟩), .pointer (some ⟨sg, 0, none⟩), pv, kv] w fun e w' => e = .returned (.bool true) ∧ Below w.heap.size w w' := by
  obtain ⟨Ap, cp, hpv, hcp, hpm, hcm⟩ := hp.form
  obtain ⟨Ak, ck, hkv, hck, hkm, _⟩ := hk.form
  subst hpv
  subst hkv
  obtain ⟨KS, hKS⟩ : ∃ KS, (L.map fun r => keyOf r p) = KS := ⟨_, rfl⟩
  rw [hKS] at hI
  have hKL : KS.length = L.length := by rw [← hKS]; simp
  have PB := Aside0.mk (probe_any w _ _ _ _ _ _ _ key hI hk hu)
  have HS := Aside0.mk hS
  have HP := Aside0.mk hp
  have HK := Aside0.mk hk
  have HKS := Aside0.mk hKS
  have HKL := Aside0.mk hKL
  have hwl := Aside0.mk (which_length KS key)
  have hL := hS.len
  have GE := Aside0.mk (fun i (h : i < KS.length) (e : KS[i] = key) => cntUp_get h e)
  obtain ⟨G, hG⟩ : ∃ G, which KS key = G := ⟨_, rfl⟩
  rw [hG] at PB hwl
  have HG := Aside0.mk hG
  clear hS hp hk hI hKS hKL hG
  go_enter Try.func20, Try.ntmps20
  go_wp2_with fail
  refine (PB.out).mono ?_
  rintro e w1 ⟨gv, rfl, RG, B1⟩
  obtain ⟨Ag, cg, hgf, hcg, hgm, _⟩ := RG.form
  subst hgf
  have RG := Aside0.mk RG
  have B1 := Aside0.mk B1
  clear PB
  go_wp2_with fail
  go_loopw [10, 11] (fun s10 s11 wr => ∃ i c : Nat, s10 = .int .i64 c ∧ s11 = .int .i64 i ∧ i ≤ L.length ∧ c ≤ i ∧ Aside0 (c = cntUp KS key i) ∧ Aside0 (Below w1.heap.size w1 wr)) (fun _ s11 _ => L.length - (intOf s11).toNat)
  case atStart => exact ⟨0, 0, rfl, rfl, Nat.zero_le _, Nat.le_refl _, ⟨rfl⟩, ⟨Below.refl _ _⟩⟩
  case round =>
    obtain ⟨i, c, rfl, rfl, hi, hc, HC, HB⟩ := hrel
    have HB0 := Aside0.mk (below_trans0 B1.out HB.out)
    have S4 := HS.out.below HB0.out
    have LN := Aside0.mk (len_any wr _ _ _ _ S4)
    by_cases hlt : i < L.length
    · have hki : i < KS.length := by rw [HKL.out]; exact hlt
      have hkk : KS[i] = keyOf L[i] p := by have := HKS.out; subst this; simp
      have RW := Aside0.mk (row_any wr _ _ n L L[i] i S4 (List.getElem?_eq_getElem hlt))
      have KX := Aside0.mk (fun w2 rv (hb : Below wr.heap.size wr w2) (hr : RowAt w2 (wr.heap.size ≤ ·) rv L[i]) => key7_any w2 _ _ rv _ L[i] p hr (HP.out.below reads_int (below_trans0 HB0.out hb)) (by omega))
      have CM := Aside0.mk (fun w3 kv okk (hb : Below wr.heap.size wr w3) (hr : RowAt w3 okk kv (keyOf L[i] p)) => compare5_any w3 _ _ kv _ (keyOf L[i] p) key hr (HK.out.below reads_int (below_trans0 HB0.out hb)))
      have hz := cmp5_zero KS[i] key
      have YES := Aside0.mk (fun e : KS[i] = key => cntUp_yes hki e)
      have NO := Aside0.mk (fun e : KS[i] ≠ key => cntUp_no hki e)
      have GE1 := Aside0.mk (fun e : KS[i] = key => GE.out i hki e)
      rw [← hkk] at CM
      have HKK := Aside0.mk hkk
      obtain ⟨cc, hcc⟩ : ∃ cc, cmp5 KS[i] key = cc := ⟨_, rfl⟩
      rw [hcc] at CM hz
      have HZ := Aside0.mk hz
      clear S4 hkk hz hcc
      go_wp2_with fail
      refine (LN.out).mono ?_
      rintro e w' ⟨rfl, rfl⟩
      go_wp2_with fail
      refine (RW.out).mono ?_
      rintro e w4 ⟨rv, rfl, HR4, B4⟩
      go_wp2_with fail
      refine (KX.out w4 rv B4 HR4).mono ?_
      rintro e w5 ⟨kv, rfl, HK5, B5⟩
      have B5' := below_trans0 B4 B5
      rw [← HKK.out] at HK5
      go_wp2_with fail
      refine (CM.out w5 kv _ B5' HK5).mono ?_
      rintro e w6 ⟨rfl, hdw⟩
      have BN := Aside0.mk (below_trans0 HB.out (below_trans0 B5' hdw.below))
      have RG6 := RG.out.below reads_int BN.out
      clear hdw B5' HK5 B5 HR4 B4 CM KX RW LN
      by_cases h0 : cc = 0
      · have e1 : KS[i] = key := HZ.out.1 h0
        obtain ⟨q1, q2⟩ := GE1.out e1
        have Y := Aside0.mk (YES.out e1)
        simp only [HG.out] at q1 q2
        rw [← HC.out] at q1
        have q2' : G[c] = (i : Int) := by
          have := HC.out
          subst this
          exact q2
        obtain ⟨b6, o6, u6, rfl, _, _, c6, rfl, _⟩ := RG6.at_ c q1
        rw [q2'] at c6
        have dk : ((i : Int) != (i : Int)) = false := by simp
        have dg : decide (G.length ≤ c) = false := by simp; exact q1
        subst h0
        have d0 : ((0 : Int) != 0) = false := rfl
        clear e1 q2 q2' RG6 YES NO GE1 HZ
        go_wp2
        go_roundw
        case rel => exact ⟨i + 1, c + 1, by go_num, by go_num, by omega, by omega, ⟨by rw [Y.out, ← HC.out]⟩, BN⟩
        case measure => simp [intOf]; omega
      · have e1 : KS[i] ≠ key := fun e => h0 (HZ.out.2 e)
        have Y := Aside0.mk (NO.out e1)
        have d0 : (cc != 0) = true := by simpa using h0
        clear e1 RG6 YES NO GE1 HZ h0
        go_wp2
        go_roundw
        case rel => exact ⟨i + 1, c, by go_num, by go_num, by omega, by omega, ⟨by rw [Y.out]; exact HC.out⟩, BN⟩
        case measure => simp [intOf]; omega
    · obtain rfl : i = L.length := by omega
      have h1 := HC.out
      unfold cntUp at h1
      rw [← HKL.out, List.take_length, ← hwl.out] at h1
      subst h1
      have B2 := Aside0.mk (below_trans0 B1.out HB.out)
      clear S4
      go_wp2_with fail
      refine (LN.out).mono ?_
      rintro e w' ⟨rfl, rfl⟩
      go_wp2
      go_ret
      exact ⟨rfl, B2.out⟩
end Go.Proofs.Ytihilledbnnniaa.Sg
