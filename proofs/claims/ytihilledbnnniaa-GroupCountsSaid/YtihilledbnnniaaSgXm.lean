/- IndexWhole: each row is found by exactly one key. -/
import Derived.Test.YtihilledbnnniaaSgXl
namespace Go.Proofs.Ytihilledbnnniaa.Sg
open Go.RowKit Go.Shelf
set_option linter.unusedVariables false
set_option linter.unusedSimpArgs false

def cntOf (KS : List Row) (q : Row) : Nat := KS.countP fun x => decide (x = q)
def sumOf (KS us : List Row) : Nat := (us.map (cntOf KS)).sum
theorem sum_add (f g : Row → Nat) (us : List Row) : (us.map fun q => f q + g q).sum = (us.map f).sum + (us.map g).sum := by
  induction us with
  | nil => rfl
  | cons a us ih => simp only [List.map_cons, List.sum_cons, ih]; omega
theorem sum_one (a : Row) (us : List Row) (h : us.Nodup) (ha : a ∈ us) : (us.map fun q => if a = q then 1 else 0).sum = 1 := by
  induction us with
  | nil => cases ha
  | cons b us ih =>
    rw [List.nodup_cons] at h
    simp only [List.map_cons, List.sum_cons]
    by_cases e : a = b
    · subst e
      rw [if_pos rfl]
      have : (us.map fun q => if a = q then 1 else 0).sum = 0 := by
        have hz : ∀ us : List Row, a ∉ us → (us.map fun q => if a = q then 1 else 0).sum = 0 := by
          intro us
          induction us with
          | nil => intro _; rfl
          | cons c us ih2 =>
            intro hn
            rw [List.mem_cons, not_or] at hn
            simp only [List.map_cons, List.sum_cons, if_neg hn.1, ih2 hn.2]
        exact hz us h.1
      omega
    · rw [if_neg e, ih h.2 (by rcases List.mem_cons.1 ha with h | h; exact absurd h e; exact h)]
theorem sum_count (us : List Row) (h : us.Nodup) : ∀ ks : List Row, (∀ k ∈ ks, k ∈ us) → sumOf ks us = ks.length
  | [], _ => by
    unfold sumOf
    have : us.map (cntOf []) = us.map fun _ => 0 := rfl
    rw [this]
    have z : ∀ us : List Row, (us.map fun _ => 0).sum = 0 := by
      intro us
      induction us with
      | nil => rfl
      | cons a us ih => simp only [List.map_cons, List.sum_cons, ih]
    exact z us
  | a :: ks, hm => by
    have ih := sum_count us h ks (fun k hk => hm k (List.mem_cons_of_mem _ hk))
    unfold sumOf at *
    have : cntOf (a :: ks) = fun q => cntOf ks q + if a = q then 1 else 0 := by
      funext q
      unfold cntOf
      rw [List.countP_cons]
      by_cases e : a = q <;> simp [e]
    rw [this, sum_add, ih, sum_one a us h (hm a (List.mem_cons_self ..)), List.length_cons]
theorem uniq_nodup (ks : List Row) : (uniq ks).Nodup := by
  have key : ∀ (ks acc : List Row), acc.Nodup → (ks.foldl (fun acc k => if k ∈ acc then acc else acc ++ [k]) acc).Nodup := by
    intro ks
    induction ks with
    | nil => intro acc h; exact h
    | cons q ks ih =>
      intro acc h
      rw [List.foldl_cons]
      refine ih _ ?_
      split
      · exact h
      · rename_i hq
        rw [List.nodup_append]
        refine ⟨h, by simp, fun x hx y hy => ?_⟩
        rw [List.mem_singleton] at hy
        subst hy
        rintro rfl
        exact hq hx
  exact key ks [] List.nodup_nil
theorem sum_all (KS : List Row) : sumOf KS (uniq KS) = KS.length := sum_count _ (uniq_nodup KS) KS (fun k hk => (mem_uniq k KS).2 hk)
theorem which_first {KS : List Row} {i : Nat} (hi : i < KS.length) : ∃ x G, which KS KS[i] = x :: G ∧ (KS[i] ∉ KS.take i → x = (i : Int)) ∧ (KS[i] ∈ KS.take i → x ≠ (i : Int)) := by
  obtain ⟨j, hj, hjl⟩ := least_of (p := fun j => KS[j]? = some KS[i]) i (List.getElem?_eq_getElem hi)
  have hz : (KS.take j).countP (fun q => decide (q = KS[i])) = 0 := by
    rw [List.countP_eq_zero]
    intro q hq
    obtain ⟨t, ht, rfl⟩ := List.mem_iff_getElem.1 hq
    have ht1 : t < j := by simp at ht; omega
    have ht2 : t < KS.length := by simp at ht; omega
    simp only [decide_eq_true_eq]
    intro e
    rw [List.getElem_take] at e
    exact hjl t ht1 (by rw [List.getElem?_eq_getElem ht2, e])
  have hg := which_get KS KS[i] j hj
  rw [hz] at hg
  cases hw : which KS KS[i] with
  | nil => rw [hw] at hg; cases hg
  | cons x G =>
    rw [hw] at hg
    simp at hg
    refine ⟨x, G, rfl, fun hn => ?_, fun hy => ?_⟩
    · rw [hg]
      have : ¬ j < i := by
        intro hlt
        apply hn
        obtain ⟨h1, h2⟩ := List.getElem?_eq_some_iff.1 hj
        rw [← h2]
        exact List.mem_iff_getElem.2 ⟨j, by simp; omega, by rw [List.getElem_take]⟩
      have h3 : ¬ i < j := fun h => hjl i h (List.getElem?_eq_getElem hi)
      have : j = i := by omega
      rw [this]
    · rw [hg]
      obtain ⟨t, ht, he⟩ := List.mem_iff_getElem.1 hy
      have ht1 : t < i := by simp at ht; omega
      rw [List.getElem_take] at he
      intro e
      have hji : j = i := by omega
      refine hjl t (by omega) ?_
      show KS[t]? = some KS[i]
      rw [List.getElem?_eq_getElem (by omega), he]
theorem sum_snoc (KS us : List Row) (k : Row) : sumOf KS (us ++ [k]) = sumOf KS us + (which KS k).length := by
  unfold sumOf
  rw [List.map_append, List.sum_append, which_length]
  simp [cntOf]

theorem mul_up {a i : Nat} (h : a ≤ i * 1000000) : a ≤ (i + 1) * 1000000 := Nat.le_trans h (Nat.mul_le_mul_right _ (Nat.le_succ i))
set_option maxHeartbeats 4000000 in
set_option maxRecDepth 100000 in
theorem IndexWhole_walk (x : Int) (rv : Value) (rs : List Row) (pv : Value) (p : Row) (w : World) (hx : In64 x) (hr : RowsAt w (fun _ => True) rv rs) (hp : RowAt w (fun _ => True) pv p) :
    Calls Try.prog 6 #[.int .i64 x, rv, pv] w fun e w' => e = .returned (.bool true) ∧ Below w.heap.size w w' := by
  obtain ⟨Ar, cr, hrv, _⟩ := hr.form
  obtain ⟨Ap, cp, hpv, hcp, hpm, hcm⟩ := hp.form
  subst hrv
  subst hpv
  have HR := Aside0.mk hr
  have HP := Aside0.mk hp
  clear hr hp
  obtain ⟨b, hb⟩ : ∃ b, few rs = b := ⟨_, rfl⟩
  have HF := Aside0.mk hb
  have FW := Aside0.mk (fun W (h : RowsAt W (fun _ => True) (.slice Ar rs.length cr) rs) => few_b W _ _ rs b h hb)
  clear hb
  go_enter Try.func6, Try.ntmps6
  go_wp2_with fail
  refine (head7_any w).mono ?_
  rintro e w1 ⟨rfl, B1⟩
  have HR1 := Aside0.mk (HR.out.below reads_row B1)
  have HP1 := Aside0.mk (HP.out.below reads_int B1)
  have B1 := Aside0.mk B1
  have FW1 := Aside0.mk (FW.out w1 HR1.out)
  clear HR HP FW
  cases b with
  | false =>
    go_wp2_with (first | (go_at_call 12; (with_reducible refine (FW1.out).mono ?_); rintro e w' ⟨rfl, rfl⟩))
    go_ret
    exact ⟨rfl, B1.out⟩
  | true =>
    by_cases hpl : 8 < p.length
    · go_wp2_with (first | (go_at_call 12; (with_reducible refine (FW1.out).mono ?_); rintro e w' ⟨rfl, rfl⟩))
      go_ret
      exact ⟨rfl, B1.out⟩
    · obtain ⟨n, hn, hmod⟩ := mod_u x 5 (by omega) (by omega)
      rw [show ((5 : Nat) : Int) = 5 from rfl] at hmod
      have hfw := few_yes HF.out
      have MK := Aside0.mk (make_any w1 _ _ n rs HR1.out (by omega) (by omega))
      clear hfw hx
      go_wp2_with (first | (go_at_call 12; (with_reducible refine (FW1.out).mono ?_); rintro e w' ⟨rfl, rfl⟩))
      refine (MK.out).mono ?_
      rintro e w2 ⟨v, rfl, S2, B2⟩
      have HP2 := HP1.out.below reads_int B2
      have B2 := Aside0.mk (below_trans0 B1.out B2)
      generalize norm n rs = L at *
      obtain ⟨g, cv, hv, _⟩ := S2.ex
      subst hv
      have BD := Aside0.mk (build_any w2 _ _ _ _ n L p S2 HP2 (by omega))
      have HP2 := Aside0.mk HP2
      have hL := S2.len
      obtain ⟨KS, hKS⟩ : ∃ KS, (L.map fun r => keyOf r p) = KS := ⟨_, rfl⟩
      rw [hKS] at BD
      have hKL : KS.length = L.length := by rw [← hKS]; simp
      have hul := uniq_length KS
      obtain ⟨un, hun⟩ : ∃ un, (uniq KS).length = un := ⟨_, rfl⟩
      rw [hun] at BD hul
      have HUN := Aside0.mk hun
      have HKL := Aside0.mk hKL
      have HKS := Aside0.mk hKS
      have hun6 : un < 1000000 := by omega
      have S2 := Aside0.mk S2
      clear B1 HR1 HP1 FW1 MK hn hmod hKS hKL hun hul
      go_wp2_with fail
      refine (BD.out).mono ?_
      rintro e w3 ⟨gx, m, rfl, IX, B3⟩
      have IX := Aside0.mk IX
      have HP3 := Aside0.mk (HP2.out.below reads_int B3)
      have S3 := Aside0.mk (S2.out.below B3)
      have B3 := Aside0.mk (below_trans0 B2.out B3)
      clear BD HP2 S2 B2
      go_wp2_with fail
      go_loopw [9, 10, 11] (fun s9 s10 s11 wr => ∃ i a c : Nat, s9 = .int .i64 a ∧ s10 = .int .i64 c ∧ s11 = .int .i64 i ∧ i ≤ L.length ∧ a ≤ i * 1000000 ∧ c ≤ i ∧ Aside0 (a = sumOf KS (uniq (KS.take i)) ∧ c = (uniq (KS.take i)).length) ∧ Aside0 (Below w3.heap.size w3 wr)) (fun _ _ s11 _ => L.length - (intOf s11).toNat)
      case atStart => exact ⟨0, 0, 0, rfl, rfl, rfl, Nat.zero_le _, by omega, by omega, ⟨rfl, rfl⟩, ⟨Below.refl _ _⟩⟩
      case round =>
        obtain ⟨i, a, c, rfl, rfl, rfl, hi, ha, hc, HI, HB⟩ := hrel
        have S4 := S3.out.below HB.out
        have LN := Aside0.mk (len_any wr _ _ _ _ S4)
        have IX4 := IX.out.below HB.out
        by_cases hlt : i < L.length
        · have hki : i < KS.length := by rw [HKL.out]; exact hlt
          have hkk : KS[i] = keyOf L[i] p := by have := HKS.out; subst this; simp
          have RW := Aside0.mk (row_any wr _ _ n L L[i] i S4 (List.getElem?_eq_getElem hlt))
          have KX := Aside0.mk (fun w1 rv (hb : Below wr.heap.size wr w1) (hr : RowAt w1 (wr.heap.size ≤ ·) rv L[i]) => keyx_any w1 _ _ rv _ L[i] p hr (HP3.out.below reads_int (below_trans0 HB.out hb)) (by omega))
          have PB := Aside0.mk (fun w2 kv (hb : Below wr.heap.size wr w2) okk (hr : RowAt w2 okk kv (keyOf L[i] p)) => probe_any w2 _ _ _ _ _ okk kv _ (IX4.below hb) hr hun6)
          obtain ⟨x0, G, hG, hf1, hf2⟩ := which_first hki
          have hgl : G.length + 1 ≤ 1000000 := by
            have h1 := which_le KS KS[i]
            rw [hG, List.length_cons, HKL.out] at h1
            omega
          have ST1 : KS[i] ∉ KS.take i → sumOf KS (uniq (KS.take (i + 1))) = sumOf KS (uniq (KS.take i)) + (G.length + 1) ∧ (uniq (KS.take (i + 1))).length = (uniq (KS.take i)).length + 1 := by
            intro hnm
            rw [List.take_succ_eq_append_getElem hki, uniq_snoc, if_neg (fun h => hnm ((mem_uniq _ _).1 h)), sum_snoc, hG]
            simp
          have ST2 : KS[i] ∈ KS.take i → uniq (KS.take (i + 1)) = uniq (KS.take i) := by
            intro hm
            rw [List.take_succ_eq_append_getElem hki, uniq_snoc, if_pos ((mem_uniq _ _).2 hm)]
          rw [← hkk, hG] at PB
          have ST1 := Aside0.mk ST1
          have ST2 := Aside0.mk ST2
          have hfs : Aside0 (x0 = (i : Int) ∧ KS[i] ∉ KS.take i ∨ x0 ≠ (i : Int) ∧ KS[i] ∈ KS.take i) := ⟨by
            by_cases hm : KS[i] ∈ KS.take i
            · exact .inr ⟨hf2 hm, hm⟩
            · exact .inl ⟨hf1 hm, hm⟩⟩
          have HKK := Aside0.mk hkk
          clear S4 IX4 hG hf1 hf2 hkk
          go_wp2_with fail
          refine (LN.out).mono ?_
          rintro e w' ⟨rfl, rfl⟩
          go_wp2_with fail
          refine (RW.out).mono ?_
          rintro e w4 ⟨rv, rfl, HR4, B4⟩
          go_wp2_with fail
          refine (KX.out w4 rv B4 HR4).mono ?_
          rintro e w5 ⟨kv, rfl, HK5, B5⟩
          have B5' := below_trans0 B4 B5
          go_wp2_with fail
          rw [← HKK.out] at HK5
          refine (PB.out w5 kv B5' _ HK5).mono ?_
          rintro e w6 ⟨gv, rfl, HG6, B6⟩
          obtain ⟨Ag, cg, hgf, hgc, _⟩ := HG6.form
          subst hgf
          obtain ⟨b6, o6, u6, rfl, _, _, c6, rfl, _⟩ := HG6.at_ 0 (by simp)
          simp only [List.getElem_cons_zero, Nat.add_zero, List.length_cons] at c6 hgc
          have BN := Aside0.mk (below_trans0 HB.out (below_trans0 B5' B6))
          clear HG6 B6 B5' HK5 B5 HR4 B4 PB KX RW LN
          rcases hfs.out with ⟨hx0, hm⟩ | ⟨hx0, hm⟩
          · subst hx0
            obtain ⟨t1, t2⟩ := ST1.out hm
            have T1 := Aside0.mk t1
            have T2 := Aside0.mk t2
            have dk : ((i : Int) == (i : Int)) = true := by simp
            have dl : (((G.length : Int) + 1) == 0) = false := by rw [beq_eq_false_iff_ne]; omega
            clear t1 t2 hm hfs ST1 ST2
            go_wp2
            go_roundw
            case rel =>
              refine ⟨i + 1, a + (G.length + 1), c + 1, by go_num, by go_num, by go_num, by omega, by omega, by omega, ⟨?_, ?_⟩, BN⟩
              · rw [T1.out, ← HI.out.1]
              · rw [T2.out, ← HI.out.2]
            case measure => simp [intOf]; omega
          · have t2 := Aside0.mk (ST2.out hm)
            have dk : (x0 == (i : Int)) = false := by rw [beq_eq_false_iff_ne]; exact hx0
            have dl : (((G.length : Int) + 1) == 0) = false := by rw [beq_eq_false_iff_ne]; omega
            clear hm hfs ST1 ST2 hx0
            go_wp2
            go_roundw
            case rel =>
              refine ⟨i + 1, a, c, by go_num, by go_num, by go_num, by omega, ?_, by omega, ⟨?_, ?_⟩, BN⟩
              · exact mul_up ha
              · rw [t2.out]; exact HI.out.1
              · rw [t2.out]; exact HI.out.2
            case measure => simp [intOf]; omega
        · obtain rfl : i = L.length := by omega
          have LX := Aside0.mk (lenx_any wr _ _ _ _ _ IX4)
          obtain ⟨i1, i2⟩ := HI.out
          rw [← HKL.out, List.take_length] at i1 i2
          rw [sum_all, HKL.out] at i1
          rw [HUN.out] at i2
          subst i1
          subst i2
          have BZ := Aside0.mk (below_trans0 B3.out HB.out)
          clear S4 IX4 HI
          go_wp2_with fail
          refine (LN.out).mono ?_
          rintro e w' ⟨rfl, rfl⟩
          go_wp2_with fail
          refine (LN.out).mono ?_
          rintro e w' ⟨rfl, rfl⟩
          go_wp2_with fail
          refine (LX.out).mono ?_
          rintro e w' ⟨rfl, rfl⟩
          go_wp2
          go_ret
          exact ⟨rfl, BZ.out⟩
end Go.Proofs.Ytihilledbnnniaa.Sg
