/- BestOrders: in whatever order costs come, the best ones are the same. The walk. -/
import Derived.Test.YtalbgdbphdhhaaaSgBh
import Derived.Test.YtalbgdbphdhhaaaSgL
import Derived.Test.YtalbgdbphdhhaaaSgRe
namespace Go.Proofs.Ytalbgdbphdhhaaa.Sg
open Go.RowKit Go.Shelf
set_option linter.unusedVariables false
set_option linter.unusedSimpArgs false

theorem better_s (w : World) (B g W : Nat) (F : Nat → Prop) (great : Bool) (rows : List Row) (h : BestS w B g F W great rows) (x y : Int) :
    Calls Try.prog 27 #[.pointer (some ⟨g, 0, none⟩), .int .i64 x, .int .i64 y] w fun e w' => e = .returned (.bool (betterB great x y)) ∧ w = w' := by
  obtain ⟨⟨mb, rv, bs, n, D, h1, _⟩, _⟩ := h
  exact better_any w B g mb W n great rv bs D rows h1 x y
/-- Put of a row of three: its first two, its third. -/
theorem put3 (w : World) (B g : Nat) (F ok : Nat → Prop) (great : Bool) (rows : List Row) (h : BestS w B g F 2 great rows) (hlim : rows.length + 1 < 1000000) (A : Option Addr) (n c : Nat) (r : Row) (hr : RowAt w ok (.slice A n c) r) (h3 : r.length = 3) (hF : ∀ b, ok b → ¬ F b) :
    Calls Try.prog 13 #[.pointer (some ⟨g, 0, none⟩), .slice A 2 c, .int .i64 (r.getD 2 0)] w fun e w' => (∃ b, e = .returned (.bool b)) ∧ PutS w w' B g 2 F great (stepB 2 great rows r) := by
  have hl : (r.take 2).length = 2 := by rw [List.length_take]; omega
  have e : stepB 2 great rows r = (putX 2 great rows (r.take 2) (r.getD 2 0)).1 := by unfold stepB putX; rw [if_pos h3, if_pos hl]
  rw [e]
  refine (put_s w B g 2 F great rows h hlim ok _ (r.take 2) (hr.take 2 (by omega)) hF (by omega) _ ?_).mono fun e w' hp => ⟨⟨_, hp.1⟩, hp.2⟩
  rw [List.getD_eq_getElem?_getD, List.getElem?_eq_getElem (by omega)]
  exact row_in64 hr _ (List.getElem_mem _)
/-- Two bests and what lies about them. -/
structure TwoB (w1 wr : World) (B1 g1 B2 g2 : Nat) (F1 F2 : Nat → Prop) (great : Bool) (R1 R2 : List Row) : Prop where
  a : BestS wr B1 g1 F1 2 great R1
  b : BestS wr B2 g2 F2 2 great R2
  off : ∀ b, F1 b → ¬ F2 b
  below : Below w1.heap.size w1 wr
  ge1 : w1.heap.size ≤ B1
  ge2 : w1.heap.size ≤ B2
theorem TwoB.below' {w1 wr w2 : World} {B1 g1 B2 g2 : Nat} {F1 F2 : Nat → Prop} {great : Bool} {R1 R2 : List Row} (h : TwoB w1 wr B1 g1 B2 g2 F1 F2 great R1 R2) (hb : Below wr.heap.size wr w2) : TwoB w1 w2 B1 g1 B2 g2 F1 F2 great R1 R2 :=
  ⟨h.a.below hb, h.b.below hb, h.off, below_trans0 h.below hb, h.ge1, h.ge2⟩
theorem TwoB.sw {w1 wr : World} {B1 g1 B2 g2 : Nat} {F1 F2 : Nat → Prop} {great : Bool} {R1 R2 : List Row} (h : TwoB w1 wr B1 g1 B2 g2 F1 F2 great R1 R2) : TwoB w1 wr B2 g2 B1 g1 F2 F1 great R2 R1 :=
  ⟨h.b, h.a, fun b h1 h2 => h.off b h2 h1, h.below, h.ge2, h.ge1⟩
theorem TwoB.put {w1 wr w2 : World} {B1 g1 B2 g2 : Nat} {F1 F2 : Nat → Prop} {great : Bool} {R1 R2 S : List Row} (h : TwoB w1 wr B1 g1 B2 g2 F1 F2 great R1 R2) (hp : PutS wr w2 B1 g1 2 F1 great S) : ∃ F3, TwoB w1 w2 B1 g1 B2 g2 F3 F2 great S R2 := by
  have hbl := hp.below h.below h.below.size (fun b hb => Nat.le_trans h.ge1 (h.a.ge b hb))
  obtain ⟨F3, h1, h2, h3⟩ := hp
  refine ⟨F3, h1, h.b.keeps h3 (fun b hb hf => h.off b hf hb), fun b hb hf => ?_, hbl, h.ge1, h.ge2⟩
  rcases h2 b hb with q | q
  · exact h.off b q hf
  · have := h.b.2 b hf; omega
theorem TwoB.offs {w1 wr : World} {B1 g1 B2 g2 : Nat} {F1 F2 : Nat → Prop} {great : Bool} {R1 R2 : List Row} (h : TwoB w1 wr B1 g1 B2 g2 F1 F2 great R1 R2) : ∀ b, b < w1.heap.size → ¬ F1 b := fun b hb hf => by
  have := h.a.ge b hf; have := h.ge1; omega
theorem cell3 {w : World} {ok : Nat → Prop} {A : Option Addr} {n c : Nat} {r : Row} (h : RowAt w ok (.slice A n c) r) (h3 : r.length = 3) : ∃ b o, A = some ⟨b, o, none⟩ ∧ n = 3 ∧ w.cell? ⟨b, o + 2, none⟩ = some (.int .i64 (r.getD 2 0)) ∧ 2 ≤ c := by
  obtain ⟨A2, c2, e1, e2, _⟩ := h.form
  cases e1
  obtain ⟨b, o, u, e, _, _, hc, rfl, _⟩ := h.at_ 2 (by omega)
  refine ⟨b, o, e, h3, ?_, by omega⟩
  rw [hc, List.getD_eq_getElem?_getD, List.getElem?_eq_getElem (by omega)]; rfl
theorem stepB_no {great : Bool} {rows : List Row} {r : Row} (h : r.length ≠ 3) : stepB 2 great rows r = rows := by unfold stepB; rw [if_neg (by omega)]

set_option maxHeartbeats 20000000 in
set_option maxRecDepth 100000 in
theorem BestOrders_walk (great : Bool) (rv : Value) (rs : List Row) (at_ x y : Int) (w : World) (hr : RowsAt w (fun _ => True) rv rs) (ha : In64 at_) (hx : In64 x) (hy : In64 y) :
    Calls Try.prog 6 #[.bool great, rv, .int .i64 at_, .int .i64 x, .int .i64 y] w fun e w' => e = .returned (.bool true) ∧ Below w.heap.size w w' := by
  obtain ⟨Ar, cr, hrv, _⟩ := hr.form
  subst hrv
  have HR := Aside0.mk hr
  have HI := Aside0.mk (rows_in64 hr)
  clear hr
  obtain ⟨b, hb⟩ : ∃ b, few rs = b := ⟨_, rfl⟩
  have HF := Aside0.mk hb
  have FW := Aside0.mk (fun W (h : RowsAt W (fun _ => True) (.slice Ar rs.length cr) rs) => few_b W _ _ rs b h hb)
  clear hb
  go_enter Try.func6, Try.ntmps6
  go_wp2_with fail
  refine (head10_any w).mono ?_
  rintro e w1 ⟨rfl, B1⟩
  have HR1 := Aside0.mk (HR.out.below reads_row B1)
  have HRO := Aside0.mk (reads_rows.mono (ok2 := (· < w1.heap.size)) HR1.out (fun b _ hl => hl))
  have B1 := Aside0.mk B1
  have FW1 := Aside0.mk (FW.out w1 HR1.out)
  clear HR FW
  go_wp2_with fail
  refine (FW1.out).mono ?_
  rintro e w' ⟨rfl, rfl⟩
  clear FW1
  cases b with
  | false =>
    go_wp2
    go_ret
    exact ⟨rfl, B1.out⟩
  | true =>
  have l1 := (few_yes HF.out).1
  obtain ⟨mx, hmx⟩ : ∃ mx : Nat, max rs.length 1 = mx := ⟨_, rfl⟩
  have hmx1 : max (rs.length : Int) 1 = (mx : Int) := by omega
  have hmx2 : 1 ≤ mx ∧ mx ≤ 60 := by omega
  obtain ⟨m, hm, hmask⟩ := and_mask at_ 65535 (by omega)
  rw [show ((65535 : Nat) : Int) = 65535 from rfl] at hmask
  have TS := Aside0.mk (fun k => turnK_succ rs m k)
  have TL := Aside0.mk (fun k => turnK_length rs m k)
  rw [hmx] at TS
  have AL := Aside0.mk (fun L => allB_len 2 great L)
  clear HF hmx
  have NW1 : Calls Try.prog 11 #[.int .i64 2, .bool great] w1 _ := new_s w1 2 great (by omega)
  go_wp2_with fail
  refine NW1.mono ?_
  rintro e w2 ⟨rfl, S1, B2⟩
  clear NW1
  have NW2 : Calls Try.prog 11 #[.int .i64 2, .bool great] w2 _ := new_s w2 2 great (by omega)
  have S1 := Aside0.mk S1
  have B2 := Aside0.mk B2
  go_wp2_with fail
  refine NW2.mono ?_
  rintro e w3 ⟨rfl, S2, B3⟩
  clear NW2
  have T0 := Aside0.mk (show TwoB w1 w3 w1.heap.size (w1.heap.size + 1) w2.heap.size (w2.heap.size + 1) _ _ great (allB 2 great (rs.take 0)) (allB 2 great (turnK rs m 0)) from ⟨S1.out.below B3, S2, fun b h1 h2 => by have := h1.2; have := h2.1; omega, below_trans0 B2.out B3, Nat.le_refl _, B2.out.size⟩)
  clear S1 S2 B2 B3
  generalize w2.heap.size = N2 at *
  go_wp2_with fail
  go_loopw [31] (fun s31 wr => ∃ (k : Nat) (F1 F2 : Nat → Prop), s31 = .int .i64 k ∧ k ≤ rs.length ∧ Aside0 (TwoB w1 wr w1.heap.size (w1.heap.size + 1) N2 (N2 + 1) F1 F2 great (allB 2 great (rs.take k)) (allB 2 great (turnK rs m k)))) (fun s31 _ => rs.length - (intOf s31).toNat)
  case atStart => exact ⟨0, _, _, rfl, Nat.zero_le _, T0⟩
  case round =>
    obtain ⟨k, F1, F2, rfl, hk, HT⟩ := hrel
    clear T0
    have hl := TL.out k
    by_cases hlt : k < rs.length
    · obtain ⟨i, hi⟩ : ∃ i, (k + m) % mx = i := ⟨_, rfl⟩
      have hil : i < rs.length := by have := Nat.mod_lt (k + m) (show 0 < mx by omega); omega
      have hmod1 : ((k : Int) + (m : Int)) % (mx : Int) = (i : Int) := by rw [← hi, Int.natCast_emod, Int.natCast_add]
      have hmod2 : ((k : Int) + (m : Int)).tmod (mx : Int) = (i : Int) := by rw [Int.tmod_eq_emod_of_nonneg (by omega)]; exact hmod1
      have TK := TS.out k
      rw [hi, List.getD_eq_getElem?_getD, List.getElem?_eq_getElem hil] at TK
      simp only [Option.getD_some] at TK
      have KB := Aside0.mk (show allB 2 great (turnK rs m (k + 1)) = stepB 2 great (allB 2 great (turnK rs m k)) rs[i] by rw [TK, allB_snoc])
      have KA := Aside0.mk (show allB 2 great (rs.take (k + 1)) = stepB 2 great (allB 2 great (rs.take k)) rs[k] by rw [List.take_succ_eq_append_getElem hlt, allB_snoc])
      have L1 : (allB 2 great (rs.take k)).length + 1 < 1000000 := by have := AL.out (rs.take k); rw [List.length_take] at this; omega
      have L2 : (allB 2 great (turnK rs m k)).length + 1 < 1000000 := by have := AL.out (turnK rs m k); omega
      have RK := Aside0.mk (fun W (h : Below w1.heap.size w1 W) => SlAt.at_ (reads_rows.stays HRO.out (Stays.of_belowB h)) k hlt)
      have RI := Aside0.mk (fun W (h : Below w1.heap.size w1 W) => SlAt.at_ (reads_rows.stays HRO.out (Stays.of_belowB h)) i hil)
      clear TK hi
      generalize rs[k] = r at *
      generalize rs[i] = q at *
      generalize allB 2 great (rs.take k) = RA at *
      generalize allB 2 great (turnK rs m k) = RB at *
      obtain ⟨b0, o0, u0, hA0, _, _, hc0, hu0⟩ := RK.out wr HT.out.below
      subst hA0
      obtain ⟨A0, c0, rfl, _⟩ := hu0.form
      by_cases h3 : r.length = 3
      · obtain ⟨b2, o2, rfl, _, hcc, hcc2⟩ := cell3 hu0 h3
        have P1 := Aside0.mk (fun w' (hb : Below (World.heap wr).size wr w') => put3 w' _ _ _ _ great RA (HT.out.below' hb).a L1 _ _ _ r (SlAt.below reads_int hu0 hb) h3 HT.out.offs)
        obtain ⟨zr, hzr⟩ : ∃ z, r.getD 2 0 = z := ⟨_, rfl⟩
        rw [hzr] at P1 hcc
        clear hzr
        rw [h3] at hc0
        clear hu0
        go_wp2_with fail
        go_region_with (go_at_call 13; refine (P1.out _ (by first | exact Below.refl _ _ | exact below_drew (Below.refl _ _))).mono ?_; rintro e w5 ⟨⟨pb, rfl⟩, HP⟩)
        all_goals
          obtain ⟨F3, T5⟩ := TwoB.put (HT.out.below' (below_drew (Below.refl _ _))) HP
          have T5 := Aside0.mk T5
          clear HP P1 hc0 hcc hcc2
          obtain ⟨b3, o3, u3, e3, _, _, hc3, hu3⟩ := RI.out _ T5.out.below
          cases e3
          obtain ⟨A3, c3, rfl, _⟩ := hu3.form
          by_cases q3 : q.length = 3
          · obtain ⟨b4, o4, rfl, _, hcq, hcq2⟩ := cell3 hu3 q3
            have P2 := Aside0.mk (fun w' (hb : Below (World.heap w5).size w5 w') => put3 w' _ _ _ _ great RB (T5.out.below' hb).b L2 _ _ _ q (SlAt.below reads_int hu3 hb) q3 T5.out.sw.offs)
            obtain ⟨zq, hzq⟩ : ∃ z, q.getD 2 0 = z := ⟨_, rfl⟩
            rw [hzq] at P2 hcq
            clear hzq
            rw [q3] at hc3
            clear hu3
            go_wp2_with fail
            go_region_with (go_at_call 13; refine (P2.out _ (by first | exact Below.refl _ _ | exact below_drew (Below.refl _ _))).mono ?_; rintro e w6 ⟨⟨pb2, rfl⟩, HP2⟩)
            all_goals
              obtain ⟨F4, T6⟩ := TwoB.put (T5.out.below' (below_drew (Below.refl _ _))).sw HP2
              have T6 := Aside0.mk T6.sw
              clear HP2 P2 hc3 hcq hcq2
              go_wp2
              go_roundw
              case rel => exact ⟨k + 1, _, _, by go_num, by omega, ⟨by rw [KA.out, KB.out]; exact T6.out⟩⟩
              case measure => simp [intOf]; omega
          · have q3i : ¬ ((q.length : Int) = 3) := by omega
            clear hu3
            go_wp2
            go_roundw
            case rel => exact ⟨k + 1, _, _, by go_num, by omega, ⟨by rw [KA.out, KB.out, stepB_no q3]; exact T5.out⟩⟩
            case measure => simp [intOf]; omega
      · have h3i : ¬ ((r.length : Int) = 3) := by omega
        clear hu0
        obtain ⟨b3, o3, u3, e3, _, _, hc3, hu3⟩ := RI.out _ HT.out.below
        cases e3
        obtain ⟨A3, c3, rfl, _⟩ := hu3.form
        by_cases q3 : q.length = 3
        · obtain ⟨b4, o4, rfl, _, hcq, hcq2⟩ := cell3 hu3 q3
          have P2 := Aside0.mk (fun w' (hb : Below (World.heap wr).size wr w') => put3 w' _ _ _ _ great RB (HT.out.below' hb).b L2 _ _ _ q (SlAt.below reads_int hu3 hb) q3 HT.out.sw.offs)
          obtain ⟨zq, hzq⟩ : ∃ z, q.getD 2 0 = z := ⟨_, rfl⟩
          rw [hzq] at P2 hcq
          clear hzq
          rw [q3] at hc3
          clear hu3
          go_wp2_with fail
          go_region_with (go_at_call 13; refine (P2.out _ (by first | exact Below.refl _ _ | exact below_drew (Below.refl _ _))).mono ?_; rintro e w6 ⟨⟨pb2, rfl⟩, HP2⟩)
          all_goals
            obtain ⟨F4, T6⟩ := TwoB.put (HT.out.below' (below_drew (Below.refl _ _))).sw HP2
            have T6 := Aside0.mk T6.sw
            clear HP2 P2 hc3 hcq hcq2
            go_wp2
            go_roundw
            case rel => exact ⟨k + 1, _, _, by go_num, by omega, ⟨by rw [KA.out, KB.out]; rw [stepB_no h3]; exact T6.out⟩⟩
            case measure => simp [intOf]; omega
        · have q3i : ¬ ((q.length : Int) = 3) := by omega
          clear hu3
          go_wp2
          go_roundw
          case rel => exact ⟨k + 1, _, _, by go_num, by omega, ⟨by rw [KA.out, KB.out, stepB_no q3]; rw [stepB_no h3]; exact HT.out⟩⟩
          case measure => simp [intOf]; omega
    · obtain rfl : k = rs.length := by omega
      rw [List.take_length] at HT
      have KN := Aside0.mk (keptB_norm (kept_all 2 great rs HI.out) (kept_all 2 great (turnK rs m rs.length) (fun r hr => HI.out r ((mem_turnK rs m r).2 hr))) (mem_turnK rs m))
      generalize allB 2 great rs = RA at *
      generalize allB 2 great (turnK rs m rs.length) = RB at *
      have SA := bseg_any wr _ _ 2 F1 great RA HT.out.a.1
      go_wp2_with fail
      refine SA.mono ?_
      rintro e w5 ⟨va, rfl, GA, B5⟩
      have T5 := Aside0.mk (HT.out.below' B5)
      have GA := Aside0.mk GA
      clear SA B5
      have SB := bseg_any w5 _ _ 2 F2 great RB T5.out.b.1
      go_wp2_with fail
      refine SB.mono ?_
      rintro e w6 ⟨vb, rfl, GB, B6⟩
      have T6 := Aside0.mk (T5.out.below' B6)
      have SM := same_any w6 _ _ va vb 3 3 _ _ (GA.out.below B6).n GB.n
      rw [decide_eq_true KN.out.1] at SM
      clear SB B6 GB
      go_wp2_with fail
      refine SM.mono ?_
      rintro e w7 ⟨rfl, B7⟩
      have T7 := Aside0.mk (T6.out.below' B7)
      clear SM B7
      have LA := blen_any w7 _ _ 2 F1 great RA T7.out.a.1
      have LB := blen_any w7 _ _ 2 F2 great RB T7.out.b.1
      rw [KN.out.2] at LA
      have BT := better_s w7 _ _ 2 F1 great RA T7.out.a x y
      have BU := better10_any w7 great x y
      go_wp2_with fail
      refine LA.mono ?_
      rintro e w' ⟨rfl, rfl⟩
      go_wp2_with fail
      refine LB.mono ?_
      rintro e w' ⟨rfl, rfl⟩
      go_wp2_with fail
      refine BT.mono ?_
      rintro e w' ⟨rfl, rfl⟩
      go_wp2_with fail
      refine BU.mono ?_
      rintro e w' ⟨rfl, rfl⟩
      go_wp2
      go_ret
      exact ⟨by simp, below_trans0 B1.out T7.out.below⟩
end Go.Proofs.Ytalbgdbphdhhaaa.Sg
