/- SegmentNests: rows with a longer beginning stand among those with a shorter one. The walk. -/
import Derived.Test.YtnnjokbafkcnjaaSgK
import Derived.Test.YtnnjokbafkcnjaaSgM
namespace Go.Proofs.Ytnnjokbafkcnjaa.Sg
open Go.RowKit Go.Shelf
set_option linter.unusedVariables false
set_option linter.unusedSimpArgs false

theorem SlAt.take {α : Type} {E : World → (Nat → Prop) → Value → α → Prop} {w : World} {ok : Nat → Prop} {A : Option Addr} {n c : Nat} {xs : List α} (h : SlAt E w ok (.slice A n c) xs) (k : Nat) (hk : k ≤ xs.length) : SlAt E w ok (.slice A k c) (xs.take k) := by
  obtain ⟨h0, A', c', h1, h2, h3, h4⟩ := h
  injection h1 with h1 h5 h6
  subst h1; subst h6
  have hl : (xs.take k).length = k := by simp; omega
  refine ⟨by omega, A, c, by rw [hl], by omega, h3, fun hp => ?_⟩
  obtain ⟨b, off, ha, hb, hc⟩ := h4 (by omega)
  refine ⟨b, off, ha, hb, fun j hj => ?_⟩
  obtain ⟨u, hu, he⟩ := hc j (by omega)
  exact ⟨u, hu, by rw [List.getElem_take]; exact he⟩

theorem few_b (w : World) (ok : Nat → Prop) (rv : Value) (rs : List Row) (b : Bool) (h : RowsAt w ok rv rs) (hb : few rs = b) : Calls Try.prog 9 #[rv] w fun e w' => e = .returned (.bool b) ∧ w = w' := by
  subst hb
  exact few_any w ok rv rs h

set_option maxHeartbeats 4000000 in
set_option maxRecDepth 100000 in
theorem SegmentNests_walk (x : Int) (rv : Value) (rs : List Row) (pv : Value) (p : Row) (w : World) (hx : In64 x) (hr : RowsAt w (fun _ => True) rv rs) (hp : RowAt w (fun _ => True) pv p) :
    Calls Try.prog 3 #[.int .i64 x, rv, pv] w fun e w' => e = .returned (.bool true) ∧ Below w.heap.size w w' := by
  obtain ⟨Ar, cr, hrv, _⟩ := hr.form
  obtain ⟨Ap, cp, hpv, hcp, hpm, hcm⟩ := hp.form
  subst hrv
  subst hpv
  have HR := Aside0.mk hr
  have HP := Aside0.mk hp
  clear hr hp
  obtain ⟨b, hb⟩ : ∃ b, few rs = b := ⟨_, rfl⟩
  have HF := Aside0.mk hb
  have FW := Aside0.mk (fun W (h : RowsAt W (fun _ => True) (.slice Ar rs.length cr) rs) => few_b W _ _ rs b h hb)
  clear hb
  go_enter Try.func3, Try.ntmps3
  go_wp2_with fail
  refine (head_any w).mono ?_
  rintro e w1 ⟨rfl, B1⟩
  have HR1 := Aside0.mk (HR.out.below reads_row B1)
  have HP1 := Aside0.mk (HP.out.below reads_int B1)
  have B1 := Aside0.mk B1
  have FW1 := Aside0.mk (FW.out w1 HR1.out)
  clear HR HP FW
  cases b with
  | false =>
    go_wp2_with (first | (go_at_call 9; (with_reducible refine (FW1.out).mono ?_); rintro e w' ⟨rfl, rfl⟩))
    go_ret
    exact ⟨rfl, B1.out⟩
  | true =>
    by_cases hpl : 8 < p.length
    · go_wp2_with (first | (go_at_call 9; (with_reducible refine (FW1.out).mono ?_); rintro e w' ⟨rfl, rfl⟩))
      go_ret
      exact ⟨rfl, B1.out⟩
    · obtain ⟨m, hm, hmod⟩ := mod_u x 4 (by omega) (by omega)
      obtain ⟨n, hn⟩ : ∃ n, n = m + 1 := ⟨_, rfl⟩
      rw [show ((4 : Nat) : Int) = 4 from rfl] at hmod
      have hn1 : 1 + (m : Int) = (n : Int) := by omega
      have hn2 : (n : Int) - 1 = (m : Int) := by omega
      have hn4 : n ≤ 4 := by omega
      have hmn : m < n := by omega
      have hfw := few_yes HF.out
      have MK := Aside0.mk (make_any w1 _ _ n rs HR1.out (by omega) (by omega))
      clear hfw hn hx
      go_wp2_with (first | (go_at_call 9; (with_reducible refine (FW1.out).mono ?_); rintro e w' ⟨rfl, rfl⟩))
      refine (MK.out).mono ?_
      rintro e w2 ⟨v, rfl, S2, B2⟩
      have HP2 := Aside0.mk (HP1.out.below reads_int B2)
      have B2 := Aside0.mk (below_trans0 B1.out B2)
      have hss := SS_norm n rs
      generalize norm n rs = L at *
      obtain ⟨g, cv, hv, _⟩ := S2.ex
      subst hv
      have SS2 := Aside0.mk hss
      have RL := Aside0.mk (fun r hr => (S2.row r hr).1)
      have HLL := S2.len
      have S2 := Aside0.mk S2
      clear hss B1 HR1 HP1 FW1 MK
      obtain ⟨k, hmin⟩ : ∃ k : Nat, min (p.length : Int) (m : Int) = (k : Int) := ⟨min p.length m, by omega⟩
      have hk1 : k ≤ p.length := by omega
      have hk2 : k < n := by omega
      have hk3 : k ≤ cp := by omega
      have hpk : (p.take k).length = k := by simp; omega
      have PR := Aside0.mk (prefix_any w2 _ _ _ _ n L (p.take k) S2.out SS2.out (HP2.out.take k hk1) (by omega))
      have PM := Aside0.mk (fun W (hw : SegAt W (w1.heap.size ≤ ·) (.pointer (some ⟨g, 0, none⟩)) n L) (hp : RowAt W (fun _ => True) (.slice Ap p.length cp) p) (hl : k < p.length) => prefix_any W _ _ _ _ n L (p.take (k + 1)) hw SS2.out (hp.take (k + 1) (by omega)) (by simp; omega))
      have NM := Aside0.mk (fun hl : k < p.length => nest_more SS2.out RL.out (p.take (k + 1)) (by simp; omega) k (by simp; omega))
      have hlo := lo_le L (p.take k)
      have hhi := hi_le L (p.take k)
      have hlh := lo_le_hi L (p.take k)
      have CF := Aside0.mk (Cut.first SS2.out RL.out (p.take k) k hpk hk2)
      have CN := Aside0.mk (fun a h => Cut.next SS2.out RL.out (p.take k) k hpk hk2 (a := a) h)
      rw [show (p.take (k + 1)).take k = p.take k from by rw [List.take_take]; congr 1; omega] at NM
      generalize lo L (p.take k) = f at *
      generalize hi L (p.take k) = t at *
      clear hpk
      by_cases hkp : k < p.length
      · obtain ⟨n1, n2, n3⟩ := NM.out hkp
        have PM1 := Aside0.mk (fun W hw hp => PM.out W hw hp hkp)
        generalize lo L (p.take (k + 1)) = f2 at *
        generalize hi L (p.take (k + 1)) = t2 at *
        have hk4 : k + 1 ≤ cp := by omega
        have d1 : decide (f2 < f) = false := by simp; omega
        have d2 : decide (t < t2) = false := by simp; omega
        have d3 : decide (t2 < f2) = false := by simp; omega
        clear NM PM
        go_wp2_with fail
        refine (PR.out).mono ?_
        rintro e w3 ⟨rfl, B3⟩
        have S3 := S2.out.below B3
        have P3 := Aside0.mk (PM1.out w3 S3 (HP2.out.below reads_int B3))
        have S3 := Aside0.mk S3
        have B3 := Aside0.mk (below_trans0 B2.out B3)
        clear PR S2 B2 HP2 PM1
        go_wp2_with fail
        refine (P3.out).mono ?_
        rintro e w4 ⟨rfl, B4⟩
        have SZ := Aside0.mk (S3.out.below B4)
        have BZ := Aside0.mk (below_trans0 B3.out B4)
        clear P3 S3 B3 n1 n2 n3
        go_wp2
        go_loopg [13] t (fun gh s13 wr => ∃ a : Nat, s13 = .int .i64 a ∧ f ≤ a ∧ a ≤ t ∧ t - a ≤ gh ∧ Aside0 (Cut L k a t) ∧ Aside0 (Below w.heap.size w wr) ∧ Aside0 (SegAt wr (w1.heap.size ≤ ·) (.pointer (some ⟨g, 0, none⟩)) n L))
        case atStart => exact ⟨f, rfl, Nat.le_refl _, hlh, by omega, CF, BZ, SZ⟩
        case round =>
          obtain ⟨a, rfl, hfa, hat, hgh, HC, HB, HS⟩ := hrel
          clear BZ SZ
          by_cases hlt : a < t
          · have hal : a < L.length := by omega
            obtain ⟨e1, e2, e3, e4⟩ := CN.out a HC.out hfa hlt hal
            obtain ⟨r, hr⟩ : ∃ r, L[a] = r := ⟨_, rfl⟩
            rw [hr] at e1 e2 e3 e4
            have hrl : r.length = n := by rw [← hr]; exact RL.out _ (List.getElem_mem hal)
            have RW := Aside0.mk (row_any wr _ _ _ _ r a HS.out (by rw [List.getElem?_eq_getElem hal, hr]))
            have E4 := Aside0.mk e4
            have PX := Aside0.mk (fun W (hw : SegAt W (w1.heap.size ≤ ·) (.pointer (some ⟨g, 0, none⟩)) n L) ok (pv : Value) (hp : RowAt W ok pv (r.take (k + 1))) => by
              have := prefix_any W _ ok _ pv n L (r.take (k + 1)) hw SS2.out hp (by simp; omega)
              rw [e1] at this
              exact this)
            generalize hi L (r.take (k + 1)) = b at *
            have d1 : ((a : Int) != (a : Int)) = false := by simp
            have d3 : decide (t < b) = false := by simp; omega
            have d2 : decide (b ≤ a) = false := by simp; omega
            have dn : ((n : Int) != (n : Int)) = false := by simp
            have hb2 : a < b := e2
            have hb3 : b ≤ t := e3
            have HRL := Aside0.mk hrl
            clear hr e1 e2 e3 e4 hrl
            go_wp2_with fail
            refine (RW.out).mono ?_
            rintro e wa ⟨rv2, rfl, RR, BR⟩
            obtain ⟨Aq, cq, hrv2, hcq, _⟩ := RR.form
            subst hrv2
            have SA := HS.out.below BR
            have BA := Aside0.mk (below_trans0 HB.out BR)
            have PP := PX.out wa SA _ _ (RR.take (k + 1) (by rw [HRL.out]; omega))
            rw [HRL.out] at hcq ⊢
            have PP := Aside0.mk PP
            have SA := Aside0.mk SA
            have hkc : k + 1 ≤ cq := by omega
            clear RR BR RW PX HS HB
            go_wp2_with fail
            refine (PP.out).mono ?_
            rintro e wb ⟨rfl, BB⟩
            have SB := Aside0.mk (SA.out.below BB)
            have BB := Aside0.mk (below_trans0 BA.out BB)
            clear PP SA BA
            go_wp2
            go_roundg (t - b)
            case measure => omega
            case rel => exact ⟨b, rfl, by omega, hb3, Nat.le_refl _, E4, BB, SB⟩
          · go_wp2
            go_ret
            exact ⟨rfl, HB.out⟩
      · have d1 : decide (k < p.length) = false := by simpa using hkp
        clear NM PM
        go_wp2_with fail
        refine (PR.out).mono ?_
        rintro e w3 ⟨rfl, B3⟩
        have SZ := Aside0.mk (S2.out.below B3)
        have BZ := Aside0.mk (below_trans0 B2.out B3)
        clear PR S2 B2 HP2
        go_wp2
        go_loopg [13] t (fun gh s13 wr => ∃ a : Nat, s13 = .int .i64 a ∧ f ≤ a ∧ a ≤ t ∧ t - a ≤ gh ∧ Aside0 (Cut L k a t) ∧ Aside0 (Below w.heap.size w wr) ∧ Aside0 (SegAt wr (w1.heap.size ≤ ·) (.pointer (some ⟨g, 0, none⟩)) n L))
        case atStart => exact ⟨f, rfl, Nat.le_refl _, hlh, by omega, CF, BZ, SZ⟩
        case round =>
          obtain ⟨a, rfl, hfa, hat, hgh, HC, HB, HS⟩ := hrel
          clear BZ SZ
          by_cases hlt : a < t
          · have hal : a < L.length := by omega
            obtain ⟨e1, e2, e3, e4⟩ := CN.out a HC.out hfa hlt hal
            obtain ⟨r, hr⟩ : ∃ r, L[a] = r := ⟨_, rfl⟩
            rw [hr] at e1 e2 e3 e4
            have hrl : r.length = n := by rw [← hr]; exact RL.out _ (List.getElem_mem hal)
            have RW := Aside0.mk (row_any wr _ _ _ _ r a HS.out (by rw [List.getElem?_eq_getElem hal, hr]))
            have E4 := Aside0.mk e4
            have PX := Aside0.mk (fun W (hw : SegAt W (w1.heap.size ≤ ·) (.pointer (some ⟨g, 0, none⟩)) n L) ok (pv : Value) (hp : RowAt W ok pv (r.take (k + 1))) => by
              have := prefix_any W _ ok _ pv n L (r.take (k + 1)) hw SS2.out hp (by simp; omega)
              rw [e1] at this
              exact this)
            generalize hi L (r.take (k + 1)) = b at *
            have d1 : ((a : Int) != (a : Int)) = false := by simp
            have d3 : decide (t < b) = false := by simp; omega
            have d2 : decide (b ≤ a) = false := by simp; omega
            have dn : ((n : Int) != (n : Int)) = false := by simp
            have hb2 : a < b := e2
            have hb3 : b ≤ t := e3
            have HRL := Aside0.mk hrl
            clear hr e1 e2 e3 e4 hrl
            go_wp2_with fail
            refine (RW.out).mono ?_
            rintro e wa ⟨rv2, rfl, RR, BR⟩
            obtain ⟨Aq, cq, hrv2, hcq, _⟩ := RR.form
            subst hrv2
            have SA := HS.out.below BR
            have BA := Aside0.mk (below_trans0 HB.out BR)
            have PP := PX.out wa SA _ _ (RR.take (k + 1) (by rw [HRL.out]; omega))
            rw [HRL.out] at hcq ⊢
            have PP := Aside0.mk PP
            have SA := Aside0.mk SA
            have hkc : k + 1 ≤ cq := by omega
            clear RR BR RW PX HS HB
            go_wp2_with fail
            refine (PP.out).mono ?_
            rintro e wb ⟨rfl, BB⟩
            have SB := Aside0.mk (SA.out.below BB)
            have BB := Aside0.mk (below_trans0 BA.out BB)
            clear PP SA BA
            go_wp2
            go_roundg (t - b)
            case measure => omega
            case rel => exact ⟨b, rfl, by omega, hb3, Nat.le_refl _, E4, BB, SB⟩
          · go_wp2
            go_ret
            exact ⟨rfl, HB.out⟩
end Go.Proofs.Ytnnjokbafkcnjaa.Sg
