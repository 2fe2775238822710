/- Contract: slices.symMergeCmpFunc over sides: one element on the left. Contract: slices.symMergeCmpFunc over sides: one element on the right. Contract: slices.symMergeCmpFunc over sides: the middle lies left. Contract: slices.symMergeCmpFunc over sides: the middle lies right. Contract: slices.symMergeCmpFunc over sides, whole; insertion. slices.stableCmpFunc, plain: blocks of sides, sorted one by one, then merged. Contract: slices.stableCmpFunc and slices.SortStableFunc over sides (fewer than 80). -/
import Derived.Test.YtmgoefhihljggaaSgU1
import Derived.Test.YtmgoefhihljggaaSortP
import Derived.Shelf.SlSortCmp.PdqK
namespace Go.Proofs.Ytmgoefhihljggaa.Sg
open Go.RowKit Go.Shelf Go.Sort
set_option linter.unusedVariables false
set_option linter.unusedSimpArgs false

/-- A side's cells, in every world of a comparison's. -/
theorem side_grown {V : Nat → Keyv} {w0 W : World} {blk off : Nat} {d0 dk : Array Nat} (S : SWK (encS V) 2 w0 blk off dk W) (R : RowK (encS V) 2 w0 blk off d0) (hs : dk.size = d0.size) (i : Nat) (hi : i < dk.size) :
    ∀ n os, (grow (W.drewN n) os).cell? ⟨blk, off + i * 2, none⟩ = some (kv (V dk[i]!)) ∧ (grow (W.drewN n) os).cell? ⟨blk, off + i * 2 + 1, none⟩ = some (.int .i64 (dk[i]! : Nat)) :=
  fun n os => (side_cells (S.grown n os) R hs i hi).1
/-- The comparison, wherever it is called. -/
theorem cmp_grown {V : Nat → Keyv} {K : Nat → Row} {w0 W : World} {blk off n : Nat} {dk : Array Nat} (S : SWK (encS V) 2 w0 blk off dk W) (hC : CmpLays Try.prog 43 #[] (encS V) 2 (fun x y => rowCmp (K x) (K y)) blk off n w0) (hs : dk.size = n) (x y : Nat) :
    ∀ n' os', Calls Try.prog 43 #[.agg #[kv (V x), .int .i64 x], .agg #[kv (V y), .int .i64 y]] (grow (W.drewN n') os') fun e w' => e = .returned (.int .i64 (rowCmp (K x) (K y))) ∧ ∃ q os'', w' = grow ((grow (W.drewN n') os').drewN q) os'' :=
  fun n' os' => S.cmp hC hs x y n' os'
/-- What is said of symMerge. -/
def SymSays (V : Nat → Keyv) (K : Nat → Row) (blk off cap : Nat) (d0 : Array Nat) (w0 : World) (N : Nat) : Prop :=
  ∀ (a m b : Nat) (d : Array Nat) (w : World), b - a < N → d.size = d0.size → SWK (encS V) 2 w0 blk off d w → SM K a m b d →
    Calls Try.prog 74 #[.slice (some ⟨blk, off, none⟩) d0.size cap, .int .i64 a, .int .i64 m, .int .i64 b, .func (.func 43) #[] #[]] w fun e w' => e = .returned (.tuple #[]) ∧ ∃ d', Done K a b d d' ∧ SWK (encS V) 2 w0 blk off d' w'

set_option maxHeartbeats 2000000 in
set_option maxRecDepth 100000 in
theorem symMerge1 (V : Nat → Keyv) (K : Nat → Row) (blk off cap : Nat) (d0 : Array Nat) (w0 : World) (R : RowK (encS V) 2 w0 blk off d0)
    (hC : CmpLays Try.prog 43 #[] (encS V) 2 (fun x y => rowCmp (K x) (K y)) blk off d0.size w0) (hsz : d0.size < 1000000)
    (a m b : Nat) (d : Array Nat) (w : World) (hs : d.size = d0.size) (S : SWK (encS V) 2 w0 blk off d w) (M : SM K a m b d) (c1 : m = a + 1) :
    Calls Try.prog 74 #[.slice (some ⟨blk, off, none⟩) d0.size cap, .int .i64 a, .int .i64 m, .int .i64 b, .func (.func 43) #[] #[]] w fun e w' => e = .returned (.tuple #[]) ∧ ∃ d', Done K a b d d' ∧ SWK (encS V) 2 w0 blk off d' w' := by
  have eg : ∀ args w, (callFunc 43 args).run Try.prog w = .ok (.enter 43 args) w := enters_of Try.func43 (by kernel_rfl) rfl
  have mixed : Try.prog.follows .mixedOrders = true := by kernel_rfl
  have HC := Aside0.mk hC
  have MM := Aside0.mk M
  have S0 := Aside0.mk S
  have ham := M.am
  have hmb := M.mb
  have hbs := M.bs
  rw [hs] at hbs
  clear hC M S
  have hm1 : (m : Int) - (a : Int) = 1 := by omega
  have CC1 := Aside0.mk c1
  clear c1

  go_enter Try.func74, Try.ntmps74
  go_wp2_with fail
  go_loopw [10, 11] (fun s10 s11 wr => ∃ i j : Nat, s10 = .int .i64 i ∧ s11 = .int .i64 j ∧ m ≤ i ∧ i ≤ j ∧ j ≤ b ∧ Aside0 ((m < i → rlt (K d[i - 1]!) (K d[a]!)) ∧ (j < b → ¬ rlt (K d[j]!) (K d[a]!)) ∧ SWK (encS V) 2 w0 blk off d wr)) (fun s10 s11 _ => (intOf s11).toNat - (intOf s10).toNat)
  case atStart => exact ⟨m, b, rfl, rfl, Nat.le_refl _, by omega, Nat.le_refl _, ⟨fun h => by omega, fun h => by omega, S0.out⟩⟩
  case round =>
    obtain ⟨i, j, rfl, rfl, hi, hij, hjb, H⟩ := hrel
    by_cases hlt : i < j
    · obtain ⟨h, hh⟩ : ∃ h, (i + j) / 2 = h := ⟨_, rfl⟩
      have hi1 : i ≤ h := by omega
      have hi2 : h < j := by omega
      have w1 : IntKind.i64.wrap ((i : Int) + (j : Int)) = (i : Int) + (j : Int) := by rw [IntKind.wrap_i64]; omega
      have w2 : IntKind.u64.wrap ((i : Int) + (j : Int)) = (i : Int) + (j : Int) := by simp [IntKind.wrap, IntKind.bits, IntKind.signed]; omega
      have hz : ((i : Int) + (j : Int)) / 2 = (h : Int) := by omega
      clear hh
      obtain ⟨x, hx⟩ : ∃ x, d[h]! = x := ⟨_, rfl⟩
      obtain ⟨y, hy⟩ : ∃ y, d[a]! = y := ⟨_, rfl⟩
      have hmc := cmp_grown H.out.2.2 HC.out hs x y
      have l1 := side_grown H.out.2.2 R hs (h) (by omega)
      have l2 := side_grown H.out.2.2 R hs (a) (by omega)
      have SG := Aside0.mk (fun n os => SWK.grown H.out.2.2 n os)
      rw [hx] at l1
      rw [hy] at l2
      obtain ⟨⟨p1, p2, p3⟩, hp⟩ : ∃ k, V x = k := ⟨_, rfl⟩
      obtain ⟨⟨q1, q2, q3⟩, hq⟩ : ∃ k, V y = k := ⟨_, rfl⟩
      rw [hp] at l1 hmc
      rw [hq] at l2 hmc
      simp only [kv] at l1 l2 hmc
      have l1a := fun n os => (l1 n os).1
      have l1b := fun n os => (l1 n os).2
      have l2a := fun n os => (l2 n os).1
      have l2b := fun n os => (l2 n os).2
      obtain ⟨cc, hcc⟩ : ∃ cc, rowCmp (K x) (K y) = cc := ⟨_, rfl⟩
      rw [hcc] at hmc
      have HX := Aside0.mk (show rlt (K d[h]!) (K d[a]!) ↔ cc < 0 by rw [hx, hy, ← hcc]; rfl)
      clear hx hy hp hq hcc l1 l2
      have bp : ((h : Nat) : Int) < (d0.size : Int) := by omega
      have bq : ((a : Nat) : Int) < (d0.size : Int) := by omega
      have zp : (0 : Int) ≤ ((h : Nat) : Int) := by omega
      have zq : (0 : Int) ≤ ((a : Nat) : Int) := by omega
      have tp : ((h : Nat) : Int).toNat = h := by omega
      have tq : ((a : Nat) : Int).toNat = a := by omega

      go_wp2_with fail
      go_quiet_grown (first | (go_at_fn 43; refine Calls.grown_of (hmc _ _)) | (go_loud (go_at_call 43)))

      by_cases hc : cc < 0
      · have HX := Aside0.mk (HX.out.2 hc)
        go_wp2
        go_roundw
        case rel => exact ⟨h + 1, j, by go_num, rfl, by omega, by omega, by omega, ⟨fun _ => by rw [Nat.add_sub_cancel]; exact HX.out, H.out.2.1, SG.out _ _⟩⟩
        case measure => simp [intOf]; omega
      · have HX := Aside0.mk (fun k => hc (HX.out.1 k))
        go_wp2
        go_roundw
        case rel => exact ⟨i, h, rfl, rfl, by omega, by omega, by omega, ⟨H.out.1, fun _ => HX.out, SG.out _ _⟩⟩
        case measure => simp [intOf]; omega
    · obtain rfl : i = j := by omega
      go_wp2_with fail
      have w3 : IntKind.i64.wrap ((i : Int) - 1) = (i : Int) - 1 := by rw [IntKind.wrap_i64]; omega
      go_loopw [13] (fun s13 wr => ∃ (k : Nat) (dk : Array Nat), s13 = .int .i64 k ∧ a ≤ k ∧ k + 1 ≤ i ∧ Aside0 (IsRot a (a + 1) (k + 1) d dk ∧ SWK (encS V) 2 w0 blk off dk wr)) (fun s13 _ => i - (intOf s13).toNat)
      case atStart => exact ⟨a, d, rfl, Nat.le_refl _, by omega, ⟨IsRot.none _ _ _ (by omega) _ (.inr rfl), H.out.2.2⟩⟩
      case round =>
        obtain ⟨k, dk, rfl, hk1, hk2, HR⟩ := hrel
        have hds : dk.size = d0.size := HR.out.1.1.trans hs
        by_cases hlt : k + 1 < i
        · have HN := Aside0.mk (HR.out.1.right hk1 (by omega))
          have S2 := Aside0.mk (side_swap HR.out.2 R (k) (k + 1) (by omega) (by omega))
          obtain ⟨⟨x0, x1⟩, f0, f1⟩ := side_cells HR.out.2 R (by omega) (k) (by omega)
          obtain ⟨⟨y0, y1⟩, f2, f3⟩ := side_cells HR.out.2 R (by omega) (k + 1) (by omega)
          generalize dk[k]! = p at S2 x0 x1
          generalize dk[k + 1]! = q at S2 y0 y1
          obtain ⟨⟨p1, p2, p3⟩, hp⟩ : ∃ k, V p = k := ⟨_, rfl⟩
          obtain ⟨⟨q1, q2, q3⟩, hq⟩ : ∃ k, V q = k := ⟨_, rfl⟩
          rw [hp] at x0
          rw [hq] at y0
          rw [hp, hq] at S2
          simp only [kv] at x0 y0 S2
          clear hp hq
          have hne : k ≠ k + 1 := by omega
          have wa : IntKind.i64.wrap ((k : Int)) = (k : Int) := by rw [IntKind.wrap_i64]; omega
          have wb : IntKind.i64.wrap ((k : Int) + 1) = (k : Int) + 1 := by rw [IntKind.wrap_i64]; omega
          have ta : ((k : Int)).toNat = k := by omega
          have tb : ((k : Int) + 1).toNat = k + 1 := by omega
          have pa : (0 : Int) ≤ (k : Int) := by omega
          have pb : (0 : Int) ≤ (k : Int) + 1 := by omega
          have qa : (k : Int) < (d0.size : Int) := by omega
          have qb : (k : Int) + 1 < (d0.size : Int) := by omega
          go_wp2_with fail
          go_region
          clear x0 x1 y0 y1 f0 f1 f2 f3
          generalize ((((wr.setCell _ _).setCell _ _).setCell _ _).setCell _ _).drew = w2 at S2 ⊢
          go_wp2

          go_roundw
          case rel => exact ⟨k + 1, _, by go_num, by omega, by omega, ⟨HN.out, S2.out⟩⟩
          case measure => simp [intOf]; omega
        · obtain rfl : i = k + 1 := by omega
          go_wp2
          (try simp only [Exit.inBlock, Exit.then])
          refine bodyPost_ret (results_none rfl _ _ _) rfl ?_
          have c1 := CC1.out
          have M := MM.out
          have HR := HR.out
          have H := H.out
          subst c1
          exact ⟨rfl, dk, M.left (i := k + 1) (by omega) (by omega) H.2.1 H.1 HR.1, HR.2⟩
end Go.Proofs.Ytmgoefhihljggaa.Sg
namespace Go.Proofs.Ytmgoefhihljggaa.Sg
open Go.RowKit Go.Shelf Go.Sort
set_option linter.unusedVariables false
set_option linter.unusedSimpArgs false


set_option maxHeartbeats 2000000 in
set_option maxRecDepth 100000 in
theorem symMerge2 (V : Nat → Keyv) (K : Nat → Row) (blk off cap : Nat) (d0 : Array Nat) (w0 : World) (R : RowK (encS V) 2 w0 blk off d0)
    (hC : CmpLays Try.prog 43 #[] (encS V) 2 (fun x y => rowCmp (K x) (K y)) blk off d0.size w0) (hsz : d0.size < 1000000)
    (a m b : Nat) (d : Array Nat) (w : World) (hs : d.size = d0.size) (S : SWK (encS V) 2 w0 blk off d w) (M : SM K a m b d) (c1 : m ≠ a + 1) (c2 : b = m + 1) :
    Calls Try.prog 74 #[.slice (some ⟨blk, off, none⟩) d0.size cap, .int .i64 a, .int .i64 m, .int .i64 b, .func (.func 43) #[] #[]] w fun e w' => e = .returned (.tuple #[]) ∧ ∃ d', Done K a b d d' ∧ SWK (encS V) 2 w0 blk off d' w' := by
  have eg : ∀ args w, (callFunc 43 args).run Try.prog w = .ok (.enter 43 args) w := enters_of Try.func43 (by kernel_rfl) rfl
  have mixed : Try.prog.follows .mixedOrders = true := by kernel_rfl
  have HC := Aside0.mk hC
  have MM := Aside0.mk M
  have S0 := Aside0.mk S
  have ham := M.am
  have hmb := M.mb
  have hbs := M.bs
  rw [hs] at hbs
  clear hC M S
  have hm1 : ((m : Int) - (a : Int) == 1) = false := by rw [beq_eq_false_iff_ne]; omega
  have hm2 : (b : Int) - (m : Int) = 1 := by omega
  have CC2 := Aside0.mk c2
  clear c1 c2
  go_enter Try.func74, Try.ntmps74
  go_wp2_with fail
  go_loopw [14, 15] (fun s14 s15 wr => ∃ i j : Nat, s14 = .int .i64 i ∧ s15 = .int .i64 j ∧ a ≤ i ∧ i ≤ j ∧ j ≤ m ∧ Aside0 ((a < i → ¬ rlt (K d[m]!) (K d[i - 1]!)) ∧ (j < m → rlt (K d[m]!) (K d[j]!)) ∧ SWK (encS V) 2 w0 blk off d wr)) (fun s14 s15 _ => (intOf s15).toNat - (intOf s14).toNat)
  case atStart => exact ⟨a, m, rfl, rfl, Nat.le_refl _, by omega, Nat.le_refl _, ⟨fun h => by omega, fun h => by omega, S0.out⟩⟩
  case round =>
    obtain ⟨i, j, rfl, rfl, hi, hij, hjb, H⟩ := hrel
    by_cases hlt : i < j
    · obtain ⟨h, hh⟩ : ∃ h, (i + j) / 2 = h := ⟨_, rfl⟩
      have hi1 : i ≤ h := by omega
      have hi2 : h < j := by omega
      have w1 : IntKind.i64.wrap ((i : Int) + (j : Int)) = (i : Int) + (j : Int) := by rw [IntKind.wrap_i64]; omega
      have w2 : IntKind.u64.wrap ((i : Int) + (j : Int)) = (i : Int) + (j : Int) := by simp [IntKind.wrap, IntKind.bits, IntKind.signed]; omega
      have hz : ((i : Int) + (j : Int)) / 2 = (h : Int) := by omega
      clear hh
      obtain ⟨x, hx⟩ : ∃ x, d[m]! = x := ⟨_, rfl⟩
      obtain ⟨y, hy⟩ : ∃ y, d[h]! = y := ⟨_, rfl⟩
      have hmc := cmp_grown H.out.2.2 HC.out hs x y
      have l1 := side_grown H.out.2.2 R hs (m) (by omega)
      have l2 := side_grown H.out.2.2 R hs (h) (by omega)
      have SG := Aside0.mk (fun n os => SWK.grown H.out.2.2 n os)
      rw [hx] at l1
      rw [hy] at l2
      obtain ⟨⟨p1, p2, p3⟩, hp⟩ : ∃ k, V x = k := ⟨_, rfl⟩
      obtain ⟨⟨q1, q2, q3⟩, hq⟩ : ∃ k, V y = k := ⟨_, rfl⟩
      rw [hp] at l1 hmc
      rw [hq] at l2 hmc
      simp only [kv] at l1 l2 hmc
      have l1a := fun n os => (l1 n os).1
      have l1b := fun n os => (l1 n os).2
      have l2a := fun n os => (l2 n os).1
      have l2b := fun n os => (l2 n os).2
      obtain ⟨cc, hcc⟩ : ∃ cc, rowCmp (K x) (K y) = cc := ⟨_, rfl⟩
      rw [hcc] at hmc
      have HX := Aside0.mk (show rlt (K d[m]!) (K d[h]!) ↔ cc < 0 by rw [hx, hy, ← hcc]; rfl)
      clear hx hy hp hq hcc l1 l2
      have bp : ((m : Nat) : Int) < (d0.size : Int) := by omega
      have bq : ((h : Nat) : Int) < (d0.size : Int) := by omega
      have zp : (0 : Int) ≤ ((m : Nat) : Int) := by omega
      have zq : (0 : Int) ≤ ((h : Nat) : Int) := by omega
      have tp : ((m : Nat) : Int).toNat = m := by omega
      have tq : ((h : Nat) : Int).toNat = h := by omega

      by_cases hc : cc < 0
      · go_wp2_with fail
        go_quiet_grown (first | (go_at_fn 43; refine Calls.grown_of (hmc _ _)) | (go_loud (go_at_call 43)))

        have HX := Aside0.mk (HX.out.2 hc)
        go_wp2
        go_roundw
        case rel => exact ⟨i, h, rfl, rfl, by omega, by omega, by omega, ⟨H.out.1, fun _ => HX.out, SG.out _ _⟩⟩
        case measure => simp [intOf]; omega
      · have HX := Aside0.mk (fun k => hc (HX.out.1 k))
        have hd : decide (cc < 0) = false := decide_eq_false hc
        go_wp2_with fail
        go_quiet_grown (first | (go_at_fn 43; refine Calls.grown_of (hmc _ _)) | (go_loud (go_at_call 43)))
        go_wp2
        go_roundw
        case rel => exact ⟨h + 1, j, by go_num, rfl, by omega, by omega, by omega, ⟨fun _ => by rw [Nat.add_sub_cancel]; exact HX.out, H.out.2.1, SG.out _ _⟩⟩
        case measure => simp [intOf]; omega
    · obtain rfl : i = j := by omega
      go_wp2_with fail
      go_loopw [17] (fun s17 wr => ∃ (k : Nat) (dk : Array Nat), s17 = .int .i64 k ∧ i ≤ k ∧ k ≤ m ∧ Aside0 (IsRot k m (m + 1) d dk ∧ SWK (encS V) 2 w0 blk off dk wr)) (fun s17 _ => (intOf s17).toNat)
      case atStart => exact ⟨m, d, rfl, by omega, by omega, ⟨IsRot.none _ _ _ (by omega) _ (.inl rfl), H.out.2.2⟩⟩
      case round =>
        obtain ⟨k, dk, rfl, hk1, hk2, HR⟩ := hrel
        have hds : dk.size = d0.size := HR.out.1.1.trans hs
        by_cases hlt : i < k
        · obtain ⟨kp, rfl⟩ : ∃ kp, k = kp + 1 := ⟨k - 1, by omega⟩
          have HN := Aside0.mk (HR.out.1.left hk2 (by omega))
          have hlz : (i : Int) < (kp : Int) + 1 := by omega
          have S2 := Aside0.mk (side_swap HR.out.2 R (kp + 1) (kp) (by omega) (by omega))
          obtain ⟨⟨x0, x1⟩, f0, f1⟩ := side_cells HR.out.2 R (by omega) (kp + 1) (by omega)
          obtain ⟨⟨y0, y1⟩, f2, f3⟩ := side_cells HR.out.2 R (by omega) (kp) (by omega)
          generalize dk[kp + 1]! = p at S2 x0 x1
          generalize dk[kp]! = q at S2 y0 y1
          obtain ⟨⟨p1, p2, p3⟩, hp⟩ : ∃ k, V p = k := ⟨_, rfl⟩
          obtain ⟨⟨q1, q2, q3⟩, hq⟩ : ∃ k, V q = k := ⟨_, rfl⟩
          rw [hp] at x0
          rw [hq] at y0
          rw [hp, hq] at S2
          simp only [kv] at x0 y0 S2
          clear hp hq
          have hne : kp + 1 ≠ kp := by omega
          have wa : IntKind.i64.wrap ((kp : Int) + 1) = (kp : Int) + 1 := by rw [IntKind.wrap_i64]; omega
          have wb : IntKind.i64.wrap ((kp : Int)) = (kp : Int) := by rw [IntKind.wrap_i64]; omega
          have ta : ((kp : Int) + 1).toNat = kp + 1 := by omega
          have tb : ((kp : Int)).toNat = kp := by omega
          have pa : (0 : Int) ≤ (kp : Int) + 1 := by omega
          have pb : (0 : Int) ≤ (kp : Int) := by omega
          have qa : (kp : Int) + 1 < (d0.size : Int) := by omega
          have qb : (kp : Int) < (d0.size : Int) := by omega
          go_wp2_with fail
          go_region
          clear x0 x1 y0 y1 f0 f1 f2 f3
          generalize ((((wr.setCell _ _).setCell _ _).setCell _ _).setCell _ _).drew = w2 at S2 ⊢
          go_wp2

          go_roundw
          case rel => exact ⟨kp, _, by go_num, by omega, by omega, ⟨HN.out, S2.out⟩⟩
          case measure => simp [intOf]
        · obtain rfl : i = k := by omega
          go_wp2
          (try simp only [Exit.inBlock, Exit.then])
          refine bodyPost_ret (results_none rfl _ _ _) rfl ?_
          have c2 := CC2.out
          have M := MM.out
          have HR := HR.out
          have H := H.out
          subst c2
          exact ⟨rfl, dk, M.right (i := i) (by omega) (by omega) H.1 H.2.1 HR.1, HR.2⟩
end Go.Proofs.Ytmgoefhihljggaa.Sg
namespace Go.Proofs.Ytmgoefhihljggaa.Sg
open Go.RowKit Go.Shelf Go.Sort
set_option linter.unusedVariables false
set_option linter.unusedSimpArgs false


set_option maxHeartbeats 2000000 in
set_option maxRecDepth 100000 in
theorem symMerge3 (V : Nat → Keyv) (K : Nat → Row) (blk off cap : Nat) (d0 : Array Nat) (w0 : World) (R : RowK (encS V) 2 w0 blk off d0)
    (hC : CmpLays Try.prog 43 #[] (encS V) 2 (fun x y => rowCmp (K x) (K y)) blk off d0.size w0) (hsz : d0.size < 1000000)
    (N : Nat) (IH : SymSays V K blk off cap d0 w0 N)
    (a m b : Nat) (d : Array Nat) (w : World) (hs : d.size = d0.size) (S : SWK (encS V) 2 w0 blk off d w) (M : SM K a m b d) (hN : b - a < N + 1) (c1 : m ≠ a + 1) (c2 : b ≠ m + 1) (mid : Nat) (hmd : (a + b) / 2 = mid) (hmid : mid < m) :
    Calls Try.prog 74 #[.slice (some ⟨blk, off, none⟩) d0.size cap, .int .i64 a, .int .i64 m, .int .i64 b, .func (.func 43) #[] #[]] w fun e w' => e = .returned (.tuple #[]) ∧ ∃ d', Done K a b d d' ∧ SWK (encS V) 2 w0 blk off d' w' := by
  have eg : ∀ args w, (callFunc 43 args).run Try.prog w = .ok (.enter 43 args) w := enters_of Try.func43 (by kernel_rfl) rfl
  have mixed : Try.prog.follows .mixedOrders = true := by kernel_rfl
  have HC := Aside0.mk hC
  have MM := Aside0.mk M
  have S0 := Aside0.mk S
  have ham := M.am
  have hmb := M.mb
  have hbs := M.bs
  rw [hs] at hbs
  clear hC M S
  have hm1 : ((m : Int) - (a : Int) == 1) = false := by rw [beq_eq_false_iff_ne]; omega
  have hm2 : ((b : Int) - (m : Int) == 1) = false := by rw [beq_eq_false_iff_ne]; omega
  have RT := Aside0.mk (fun (x y z : Nat) (dk : Array Nat) (wk : World) (hk : dk.size = d0.size) (Sk : SWK (encS V) 2 w0 blk off dk wk) (h1 : x < y) (h2 : y < z) (h3 : z ≤ d0.size) => by
    have := rotate_any V (.func (.func 43) #[] #[]) blk off cap x y z d0 dk w0 wk R hk.symm Sk h1 h2 (by omega) (by omega)
    rwa [hk] at this)
  have IH := Aside0.mk IH
  have w1 : IntKind.i64.wrap ((a : Int) + (b : Int)) = (a : Int) + (b : Int) := by rw [IntKind.wrap_i64]; omega
  have w2 : IntKind.u64.wrap ((a : Int) + (b : Int)) = (a : Int) + (b : Int) := by simp [IntKind.wrap, IntKind.bits, IntKind.signed]; omega
  have hz : ((a : Int) + (b : Int)) / 2 = (mid : Int) := by omega
  obtain ⟨n, hn⟩ : ∃ n, mid + m = n := ⟨_, rfl⟩
  obtain ⟨p, hp⟩ : ∃ p, n - 1 = p := ⟨_, rfl⟩
  have e1 : (mid : Int) + (m : Int) = (n : Int) := by omega
  have e2 : (n : Int) - 1 = (p : Int) := by omega
  have w3 : IntKind.i64.wrap ((mid : Int) + (m : Int)) = (mid : Int) + (m : Int) := by rw [IntKind.wrap_i64]; omega
  have w4 : IntKind.i64.wrap ((n : Int) - 1) = (n : Int) - 1 := by rw [IntKind.wrap_i64]; omega
  obtain ⟨s0, hs0⟩ : ∃ s0, n - b = s0 := ⟨_, rfl⟩
  have e4 : (n : Int) - (b : Int) = (s0 : Int) := by omega
  have nn : mid + m = n ∧ n = p + 1 ∧ (a + b) / 2 = mid := by omega
  have NN := Aside0.mk nn
  have KK := Aside0.mk (show a + b ≤ 2 * mid + 1 ∧ 2 * mid ≤ a + b by omega)
  have LL := Aside0.mk (show s0 + b = n by omega)
  clear hs0
  clear hn hp hmd nn c1 c2
  go_enter Try.func74, Try.ntmps74
  go_wp2_with fail
  go_loopw [20, 21] (fun s20 s21 wr => ∃ s r : Nat, s20 = .int .i64 s ∧ s21 = .int .i64 r ∧ s0 ≤ s ∧ s ≤ r ∧ r ≤ mid ∧ Aside0 ((s0 < s → ¬ rlt (K d[p - (s - 1)]!) (K d[s - 1]!)) ∧ (r < mid → rlt (K d[p - r]!) (K d[r]!)) ∧ SWK (encS V) 2 w0 blk off d wr)) (fun s20 s21 _ => (intOf s21).toNat - (intOf s20).toNat)
  case atStart => exact ⟨s0, mid, rfl, rfl, Nat.le_refl _, by have := NN.out; have := KK.out; have := LL.out; omega, Nat.le_refl _, ⟨fun h => by omega, fun h => by omega, S0.out⟩⟩
  case round =>
    obtain ⟨s, r, rfl, rfl, hi, hij, hjb, H⟩ := hrel
    by_cases hlt : s < r
    · obtain ⟨c, hh⟩ : ∃ c, (s + r) / 2 = c := ⟨_, rfl⟩
      have hi1 : s ≤ c := by omega
      have hi2 : c < r := by omega
      have w5 : IntKind.i64.wrap ((s : Int) + (r : Int)) = (s : Int) + (r : Int) := by rw [IntKind.wrap_i64]; omega
      have w6 : IntKind.u64.wrap ((s : Int) + (r : Int)) = (s : Int) + (r : Int) := by simp [IntKind.wrap, IntKind.bits, IntKind.signed]; omega
      have hz2 : ((s : Int) + (r : Int)) / 2 = (c : Int) := by omega
      clear hh
      obtain ⟨q, hq0⟩ : ∃ q, p - c = q := ⟨_, rfl⟩
      have e3 : (p : Int) - (c : Int) = (q : Int) := by have := NN.out; omega
      have hqb : q < d0.size := by have := NN.out; have := KK.out; have := LL.out; omega
      have w7 : IntKind.i64.wrap ((p : Int) - (c : Int)) = (p : Int) - (c : Int) := by rw [IntKind.wrap_i64]; omega
      have wq : IntKind.i64.wrap (q : Int) = (q : Int) := by rw [IntKind.wrap_i64]; omega
      have HQ := Aside0.mk hq0
      clear hq0
      obtain ⟨x, hx⟩ : ∃ x, d[q]! = x := ⟨_, rfl⟩
      obtain ⟨y, hy⟩ : ∃ y, d[c]! = y := ⟨_, rfl⟩
      have hmc := cmp_grown H.out.2.2 HC.out hs x y
      have l1 := side_grown H.out.2.2 R hs (q) (by omega)
      have l2 := side_grown H.out.2.2 R hs (c) (by omega)
      have SG := Aside0.mk (fun n os => SWK.grown H.out.2.2 n os)
      rw [hx] at l1
      rw [hy] at l2
      obtain ⟨⟨p1, p2, p3⟩, hp⟩ : ∃ k, V x = k := ⟨_, rfl⟩
      obtain ⟨⟨q1, q2, q3⟩, hq⟩ : ∃ k, V y = k := ⟨_, rfl⟩
      rw [hp] at l1 hmc
      rw [hq] at l2 hmc
      simp only [kv] at l1 l2 hmc
      have l1a := fun n os => (l1 n os).1
      have l1b := fun n os => (l1 n os).2
      have l2a := fun n os => (l2 n os).1
      have l2b := fun n os => (l2 n os).2
      obtain ⟨cc, hcc⟩ : ∃ cc, rowCmp (K x) (K y) = cc := ⟨_, rfl⟩
      rw [hcc] at hmc
      have HX := Aside0.mk (show rlt (K d[q]!) (K d[c]!) ↔ cc < 0 by rw [hx, hy, ← hcc]; rfl)
      clear hx hy hp hq hcc l1 l2
      have bp : ((q : Nat) : Int) < (d0.size : Int) := by omega
      have bq : ((c : Nat) : Int) < (d0.size : Int) := by omega
      have zp : (0 : Int) ≤ ((q : Nat) : Int) := by omega
      have zq : (0 : Int) ≤ ((c : Nat) : Int) := by omega
      have tp : ((q : Nat) : Int).toNat = q := by omega
      have tq : ((c : Nat) : Int).toNat = c := by omega

      by_cases hc : cc < 0
      · go_wp2_with fail
        go_quiet_grown (first | (go_at_fn 43; refine Calls.grown_of (hmc _ _)) | (go_loud (go_at_call 43)))

        have HX := Aside0.mk (HX.out.2 hc)
        go_wp2
        go_roundw
        case rel => exact ⟨s, c, rfl, rfl, by omega, by omega, by omega, ⟨H.out.1, fun _ => by rw [HQ.out]; exact HX.out, SG.out _ _⟩⟩
        case measure => simp [intOf]; omega
      · have HX := Aside0.mk (fun k => hc (HX.out.1 k))
        have hd : decide (cc < 0) = false := decide_eq_false hc
        go_wp2_with fail
        go_quiet_grown (first | (go_at_fn 43; refine Calls.grown_of (hmc _ _)) | (go_loud (go_at_call 43)))
        go_wp2
        go_roundw
        case rel => exact ⟨c + 1, r, by go_num, rfl, by omega, by omega, by omega, ⟨fun _ => by rw [Nat.add_sub_cancel, HQ.out]; exact HX.out, H.out.2.1, SG.out _ _⟩⟩
        case measure => simp [intOf]; omega
    · obtain rfl : s = r := by omega
      obtain ⟨e, he⟩ : ∃ e, n - s = e := ⟨_, rfl⟩
      have e5 : (n : Int) - (s : Int) = (e : Int) := by have := NN.out; omega
      have w8 : IntKind.i64.wrap ((n : Int) - (s : Int)) = (n : Int) - (s : Int) := by rw [IntKind.wrap_i64]; omega
      have CU := Aside0.mk (show CutM K a m b s e d by
        have := NN.out; have := KK.out; have := LL.out; 
        refine ⟨by omega, by omega, by omega, by omega, fun h1 h2 => ?_, fun h1 h2 => ?_⟩
        · have := H.out.1 (by omega)
          rwa [show p - (s - 1) = e by omega] at this
        · have := H.out.2.1 (by omega)
          rwa [show p - s = e - 1 by omega] at this)
      have hme : s + (e - m) = mid := by have := NN.out; have := CU.out.hme; omega
      have HE := Aside0.mk hme
      have g1 := CU.out.hs
      have g2 := CU.out.hsm
      have g3 := CU.out.hme
      have g4 := CU.out.heb
      have S1 := Aside0.mk H.out.2.2
      clear he H
      by_cases q1 : s < m
      · by_cases q2 : m < e
        · have C0 := Aside0.mk (RT.out s m e d wr hs S1.out q1 q2 (by omega))
          go_wp2_with fail
          refine C0.out.mono ?_
          rintro _ w3 ⟨rfl, d1, IR, S1'⟩
          have IR := Aside0.mk IR
          have S1 := Aside0.mk S1'
          clear C0 S1'
          by_cases q3 : a < s ∧ s < mid
          · obtain ⟨q4, q4'⟩ := q3
            have SM1 := Aside0.mk (HE.out ▸ MM.out.half1 CU.out IR.out q4 (by rw [HE.out]; exact q4') : SM K a s mid d1)
            have C1 := Aside0.mk (IH.out a s mid d1 _ (by omega) (IR.out.1.trans hs) S1.out SM1.out)
            go_wp2_with fail
            refine C1.out.mono ?_
            rintro _ w4 ⟨rfl, d2, D1, S2⟩
            have D1 := Aside0.mk D1
            have S2 := Aside0.mk S2
            clear C1
            by_cases q5 : mid < e ∧ e < b
            · obtain ⟨q6, q7⟩ := q5
              have SM2 := Aside0.mk (HE.out ▸ MM.out.half2 CU.out IR.out (HE.out.symm ▸ D1.out) (by rw [HE.out]; exact q6) q7 : SM K mid e b d2)
              have C2 := Aside0.mk (IH.out mid e b d2 _ (by omega) (D1.out.size.trans (IR.out.1.trans hs)) S2.out SM2.out)
              go_wp2_with fail
              refine C2.out.mono ?_
              rintro _ w5 ⟨rfl, d3, D2, S3⟩
              have D2 := Aside0.mk D2
              have S3 := Aside0.mk S3
              clear C2
              go_wp2
              go_end0
              exact ⟨rfl, d3, MM.out.whole CU.out IR.out (HE.out.symm ▸ D1.out) (HE.out.symm ▸ D2.out), S3.out⟩
            · have D2 := Aside0.mk (Done.none (HE.out ▸ MM.out.half2_none CU.out IR.out (HE.out.symm ▸ D1.out) (by rw [HE.out]; exact q5) : (sg K d2 mid b).Pairwise sLt))
              have S3 := Aside0.mk S2.out
              by_cases q6 : mid < e
              · have q7 : ¬ e < b := fun k => q5 ⟨q6, k⟩
                clear q5
                go_wp2
                go_end0
                exact ⟨rfl, _, MM.out.whole CU.out IR.out (HE.out.symm ▸ D1.out) (HE.out.symm ▸ D2.out), S3.out⟩
              · clear q5
                go_wp2
                go_end0
                exact ⟨rfl, _, MM.out.whole CU.out IR.out (HE.out.symm ▸ D1.out) (HE.out.symm ▸ D2.out), S3.out⟩
          · have D1 := Aside0.mk (Done.none (HE.out ▸ MM.out.half1_none CU.out IR.out (by rw [HE.out]; exact q3) : (sg K d1 a mid).Pairwise sLt))
            by_cases q4 : a < s
            · have q4' : ¬ s < mid := fun k => q3 ⟨q4, k⟩
              clear q3
              by_cases q5 : mid < e ∧ e < b
              · obtain ⟨q6, q7⟩ := q5
                have SM2 := Aside0.mk (HE.out ▸ MM.out.half2 CU.out IR.out (HE.out.symm ▸ D1.out) (by rw [HE.out]; exact q6) q7 : SM K mid e b d1)
                have C2 := Aside0.mk (IH.out mid e b d1 _ (by omega) (D1.out.size.trans (IR.out.1.trans hs)) S1.out SM2.out)
                go_wp2_with fail
                refine C2.out.mono ?_
                rintro _ w5 ⟨rfl, d3, D2, S3⟩
                have D2 := Aside0.mk D2
                have S3 := Aside0.mk S3
                clear C2
                go_wp2
                go_end0
                exact ⟨rfl, d3, MM.out.whole CU.out IR.out (HE.out.symm ▸ D1.out) (HE.out.symm ▸ D2.out), S3.out⟩
              · have D2 := Aside0.mk (Done.none (HE.out ▸ MM.out.half2_none CU.out IR.out (HE.out.symm ▸ D1.out) (by rw [HE.out]; exact q5) : (sg K d1 mid b).Pairwise sLt))
                have S3 := Aside0.mk S1.out
                by_cases q6 : mid < e
                · have q7 : ¬ e < b := fun k => q5 ⟨q6, k⟩
                  clear q5
                  go_wp2
                  go_end0
                  exact ⟨rfl, _, MM.out.whole CU.out IR.out (HE.out.symm ▸ D1.out) (HE.out.symm ▸ D2.out), S3.out⟩
                · clear q5
                  go_wp2
                  go_end0
                  exact ⟨rfl, _, MM.out.whole CU.out IR.out (HE.out.symm ▸ D1.out) (HE.out.symm ▸ D2.out), S3.out⟩
            · clear q3
              by_cases q5 : mid < e ∧ e < b
              · obtain ⟨q6, q7⟩ := q5
                have SM2 := Aside0.mk (HE.out ▸ MM.out.half2 CU.out IR.out (HE.out.symm ▸ D1.out) (by rw [HE.out]; exact q6) q7 : SM K mid e b d1)
                have C2 := Aside0.mk (IH.out mid e b d1 _ (by omega) (D1.out.size.trans (IR.out.1.trans hs)) S1.out SM2.out)
                go_wp2_with fail
                refine C2.out.mono ?_
                rintro _ w5 ⟨rfl, d3, D2, S3⟩
                have D2 := Aside0.mk D2
                have S3 := Aside0.mk S3
                clear C2
                go_wp2
                go_end0
                exact ⟨rfl, d3, MM.out.whole CU.out IR.out (HE.out.symm ▸ D1.out) (HE.out.symm ▸ D2.out), S3.out⟩
              · have D2 := Aside0.mk (Done.none (HE.out ▸ MM.out.half2_none CU.out IR.out (HE.out.symm ▸ D1.out) (by rw [HE.out]; exact q5) : (sg K d1 mid b).Pairwise sLt))
                have S3 := Aside0.mk S1.out
                by_cases q6 : mid < e
                · have q7 : ¬ e < b := fun k => q5 ⟨q6, k⟩
                  clear q5
                  go_wp2
                  go_end0
                  exact ⟨rfl, _, MM.out.whole CU.out IR.out (HE.out.symm ▸ D1.out) (HE.out.symm ▸ D2.out), S3.out⟩
                · clear q5
                  go_wp2
                  go_end0
                  exact ⟨rfl, _, MM.out.whole CU.out IR.out (HE.out.symm ▸ D1.out) (HE.out.symm ▸ D2.out), S3.out⟩
        · have IR := Aside0.mk (IsRot.none s m d g2 e (.inr (by omega)))
          by_cases q3 : a < s ∧ s < mid
          · obtain ⟨q4, q4'⟩ := q3
            have SM1 := Aside0.mk (HE.out ▸ MM.out.half1 CU.out IR.out q4 (by rw [HE.out]; exact q4') : SM K a s mid d)
            have C1 := Aside0.mk (IH.out a s mid d _ (by omega) (IR.out.1.trans hs) S1.out SM1.out)
            go_wp2_with fail
            refine C1.out.mono ?_
            rintro _ w4 ⟨rfl, d2, D1, S2⟩
            have D1 := Aside0.mk D1
            have S2 := Aside0.mk S2
            clear C1
            by_cases q5 : mid < e ∧ e < b
            · obtain ⟨q6, q7⟩ := q5
              have SM2 := Aside0.mk (HE.out ▸ MM.out.half2 CU.out IR.out (HE.out.symm ▸ D1.out) (by rw [HE.out]; exact q6) q7 : SM K mid e b d2)
              have C2 := Aside0.mk (IH.out mid e b d2 _ (by omega) (D1.out.size.trans (IR.out.1.trans hs)) S2.out SM2.out)
              go_wp2_with fail
              refine C2.out.mono ?_
              rintro _ w5 ⟨rfl, d3, D2, S3⟩
              have D2 := Aside0.mk D2
              have S3 := Aside0.mk S3
              clear C2
              go_wp2
              go_end0
              exact ⟨rfl, d3, MM.out.whole CU.out IR.out (HE.out.symm ▸ D1.out) (HE.out.symm ▸ D2.out), S3.out⟩
            · have D2 := Aside0.mk (Done.none (HE.out ▸ MM.out.half2_none CU.out IR.out (HE.out.symm ▸ D1.out) (by rw [HE.out]; exact q5) : (sg K d2 mid b).Pairwise sLt))
              have S3 := Aside0.mk S2.out
              by_cases q6 : mid < e
              · have q7 : ¬ e < b := fun k => q5 ⟨q6, k⟩
                clear q5
                go_wp2
                go_end0
                exact ⟨rfl, _, MM.out.whole CU.out IR.out (HE.out.symm ▸ D1.out) (HE.out.symm ▸ D2.out), S3.out⟩
              · clear q5
                go_wp2
                go_end0
                exact ⟨rfl, _, MM.out.whole CU.out IR.out (HE.out.symm ▸ D1.out) (HE.out.symm ▸ D2.out), S3.out⟩
          · have D1 := Aside0.mk (Done.none (HE.out ▸ MM.out.half1_none CU.out IR.out (by rw [HE.out]; exact q3) : (sg K d a mid).Pairwise sLt))
            by_cases q4 : a < s
            · have q4' : ¬ s < mid := fun k => q3 ⟨q4, k⟩
              clear q3
              by_cases q5 : mid < e ∧ e < b
              · obtain ⟨q6, q7⟩ := q5
                have SM2 := Aside0.mk (HE.out ▸ MM.out.half2 CU.out IR.out (HE.out.symm ▸ D1.out) (by rw [HE.out]; exact q6) q7 : SM K mid e b d)
                have C2 := Aside0.mk (IH.out mid e b d _ (by omega) (D1.out.size.trans (IR.out.1.trans hs)) S1.out SM2.out)
                go_wp2_with fail
                refine C2.out.mono ?_
                rintro _ w5 ⟨rfl, d3, D2, S3⟩
                have D2 := Aside0.mk D2
                have S3 := Aside0.mk S3
                clear C2
                go_wp2
                go_end0
                exact ⟨rfl, d3, MM.out.whole CU.out IR.out (HE.out.symm ▸ D1.out) (HE.out.symm ▸ D2.out), S3.out⟩
              · have D2 := Aside0.mk (Done.none (HE.out ▸ MM.out.half2_none CU.out IR.out (HE.out.symm ▸ D1.out) (by rw [HE.out]; exact q5) : (sg K d mid b).Pairwise sLt))
                have S3 := Aside0.mk S1.out
                by_cases q6 : mid < e
                · have q7 : ¬ e < b := fun k => q5 ⟨q6, k⟩
                  clear q5
                  go_wp2
                  go_end0
                  exact ⟨rfl, _, MM.out.whole CU.out IR.out (HE.out.symm ▸ D1.out) (HE.out.symm ▸ D2.out), S3.out⟩
                · clear q5
                  go_wp2
                  go_end0
                  exact ⟨rfl, _, MM.out.whole CU.out IR.out (HE.out.symm ▸ D1.out) (HE.out.symm ▸ D2.out), S3.out⟩
            · clear q3
              by_cases q5 : mid < e ∧ e < b
              · obtain ⟨q6, q7⟩ := q5
                have SM2 := Aside0.mk (HE.out ▸ MM.out.half2 CU.out IR.out (HE.out.symm ▸ D1.out) (by rw [HE.out]; exact q6) q7 : SM K mid e b d)
                have C2 := Aside0.mk (IH.out mid e b d _ (by omega) (D1.out.size.trans (IR.out.1.trans hs)) S1.out SM2.out)
                go_wp2_with fail
                refine C2.out.mono ?_
                rintro _ w5 ⟨rfl, d3, D2, S3⟩
                have D2 := Aside0.mk D2
                have S3 := Aside0.mk S3
                clear C2
                go_wp2
                go_end0
                exact ⟨rfl, d3, MM.out.whole CU.out IR.out (HE.out.symm ▸ D1.out) (HE.out.symm ▸ D2.out), S3.out⟩
              · have D2 := Aside0.mk (Done.none (HE.out ▸ MM.out.half2_none CU.out IR.out (HE.out.symm ▸ D1.out) (by rw [HE.out]; exact q5) : (sg K d mid b).Pairwise sLt))
                have S3 := Aside0.mk S1.out
                by_cases q6 : mid < e
                · have q7 : ¬ e < b := fun k => q5 ⟨q6, k⟩
                  clear q5
                  go_wp2
                  go_end0
                  exact ⟨rfl, _, MM.out.whole CU.out IR.out (HE.out.symm ▸ D1.out) (HE.out.symm ▸ D2.out), S3.out⟩
                · clear q5
                  go_wp2
                  go_end0
                  exact ⟨rfl, _, MM.out.whole CU.out IR.out (HE.out.symm ▸ D1.out) (HE.out.symm ▸ D2.out), S3.out⟩
      · have IR := Aside0.mk (IsRot.none s m d g2 e (.inl (by omega)))
        by_cases q3 : a < s ∧ s < mid
        · obtain ⟨q4, q4'⟩ := q3
          have SM1 := Aside0.mk (HE.out ▸ MM.out.half1 CU.out IR.out q4 (by rw [HE.out]; exact q4') : SM K a s mid d)
          have C1 := Aside0.mk (IH.out a s mid d _ (by omega) (IR.out.1.trans hs) S1.out SM1.out)
          go_wp2_with fail
          refine C1.out.mono ?_
          rintro _ w4 ⟨rfl, d2, D1, S2⟩
          have D1 := Aside0.mk D1
          have S2 := Aside0.mk S2
          clear C1
          by_cases q5 : mid < e ∧ e < b
          · obtain ⟨q6, q7⟩ := q5
            have SM2 := Aside0.mk (HE.out ▸ MM.out.half2 CU.out IR.out (HE.out.symm ▸ D1.out) (by rw [HE.out]; exact q6) q7 : SM K mid e b d2)
            have C2 := Aside0.mk (IH.out mid e b d2 _ (by omega) (D1.out.size.trans (IR.out.1.trans hs)) S2.out SM2.out)
            go_wp2_with fail
            refine C2.out.mono ?_
            rintro _ w5 ⟨rfl, d3, D2, S3⟩
            have D2 := Aside0.mk D2
            have S3 := Aside0.mk S3
            clear C2
            go_wp2
            go_end0
            exact ⟨rfl, d3, MM.out.whole CU.out IR.out (HE.out.symm ▸ D1.out) (HE.out.symm ▸ D2.out), S3.out⟩
          · have D2 := Aside0.mk (Done.none (HE.out ▸ MM.out.half2_none CU.out IR.out (HE.out.symm ▸ D1.out) (by rw [HE.out]; exact q5) : (sg K d2 mid b).Pairwise sLt))
            have S3 := Aside0.mk S2.out
            by_cases q6 : mid < e
            · have q7 : ¬ e < b := fun k => q5 ⟨q6, k⟩
              clear q5
              go_wp2
              go_end0
              exact ⟨rfl, _, MM.out.whole CU.out IR.out (HE.out.symm ▸ D1.out) (HE.out.symm ▸ D2.out), S3.out⟩
            · clear q5
              go_wp2
              go_end0
              exact ⟨rfl, _, MM.out.whole CU.out IR.out (HE.out.symm ▸ D1.out) (HE.out.symm ▸ D2.out), S3.out⟩
        · have D1 := Aside0.mk (Done.none (HE.out ▸ MM.out.half1_none CU.out IR.out (by rw [HE.out]; exact q3) : (sg K d a mid).Pairwise sLt))
          by_cases q4 : a < s
          · have q4' : ¬ s < mid := fun k => q3 ⟨q4, k⟩
            clear q3
            by_cases q5 : mid < e ∧ e < b
            · obtain ⟨q6, q7⟩ := q5
              have SM2 := Aside0.mk (HE.out ▸ MM.out.half2 CU.out IR.out (HE.out.symm ▸ D1.out) (by rw [HE.out]; exact q6) q7 : SM K mid e b d)
              have C2 := Aside0.mk (IH.out mid e b d _ (by omega) (D1.out.size.trans (IR.out.1.trans hs)) S1.out SM2.out)
              go_wp2_with fail
              refine C2.out.mono ?_
              rintro _ w5 ⟨rfl, d3, D2, S3⟩
              have D2 := Aside0.mk D2
              have S3 := Aside0.mk S3
              clear C2
              go_wp2
              go_end0
              exact ⟨rfl, d3, MM.out.whole CU.out IR.out (HE.out.symm ▸ D1.out) (HE.out.symm ▸ D2.out), S3.out⟩
            · have D2 := Aside0.mk (Done.none (HE.out ▸ MM.out.half2_none CU.out IR.out (HE.out.symm ▸ D1.out) (by rw [HE.out]; exact q5) : (sg K d mid b).Pairwise sLt))
              have S3 := Aside0.mk S1.out
              by_cases q6 : mid < e
              · have q7 : ¬ e < b := fun k => q5 ⟨q6, k⟩
                clear q5
                go_wp2
                go_end0
                exact ⟨rfl, _, MM.out.whole CU.out IR.out (HE.out.symm ▸ D1.out) (HE.out.symm ▸ D2.out), S3.out⟩
              · clear q5
                go_wp2
                go_end0
                exact ⟨rfl, _, MM.out.whole CU.out IR.out (HE.out.symm ▸ D1.out) (HE.out.symm ▸ D2.out), S3.out⟩
          · clear q3
            by_cases q5 : mid < e ∧ e < b
            · obtain ⟨q6, q7⟩ := q5
              have SM2 := Aside0.mk (HE.out ▸ MM.out.half2 CU.out IR.out (HE.out.symm ▸ D1.out) (by rw [HE.out]; exact q6) q7 : SM K mid e b d)
              have C2 := Aside0.mk (IH.out mid e b d _ (by omega) (D1.out.size.trans (IR.out.1.trans hs)) S1.out SM2.out)
              go_wp2_with fail
              refine C2.out.mono ?_
              rintro _ w5 ⟨rfl, d3, D2, S3⟩
              have D2 := Aside0.mk D2
              have S3 := Aside0.mk S3
              clear C2
              go_wp2
              go_end0
              exact ⟨rfl, d3, MM.out.whole CU.out IR.out (HE.out.symm ▸ D1.out) (HE.out.symm ▸ D2.out), S3.out⟩
            · have D2 := Aside0.mk (Done.none (HE.out ▸ MM.out.half2_none CU.out IR.out (HE.out.symm ▸ D1.out) (by rw [HE.out]; exact q5) : (sg K d mid b).Pairwise sLt))
              have S3 := Aside0.mk S1.out
              by_cases q6 : mid < e
              · have q7 : ¬ e < b := fun k => q5 ⟨q6, k⟩
                clear q5
                go_wp2
                go_end0
                exact ⟨rfl, _, MM.out.whole CU.out IR.out (HE.out.symm ▸ D1.out) (HE.out.symm ▸ D2.out), S3.out⟩
              · clear q5
                go_wp2
                go_end0
                exact ⟨rfl, _, MM.out.whole CU.out IR.out (HE.out.symm ▸ D1.out) (HE.out.symm ▸ D2.out), S3.out⟩
end Go.Proofs.Ytmgoefhihljggaa.Sg
namespace Go.Proofs.Ytmgoefhihljggaa.Sg
open Go.RowKit Go.Shelf Go.Sort
set_option linter.unusedVariables false
set_option linter.unusedSimpArgs false


set_option maxHeartbeats 2000000 in
set_option maxRecDepth 100000 in
theorem symMerge4 (V : Nat → Keyv) (K : Nat → Row) (blk off cap : Nat) (d0 : Array Nat) (w0 : World) (R : RowK (encS V) 2 w0 blk off d0)
    (hC : CmpLays Try.prog 43 #[] (encS V) 2 (fun x y => rowCmp (K x) (K y)) blk off d0.size w0) (hsz : d0.size < 1000000)
    (N : Nat) (IH : SymSays V K blk off cap d0 w0 N)
    (a m b : Nat) (d : Array Nat) (w : World) (hs : d.size = d0.size) (S : SWK (encS V) 2 w0 blk off d w) (M : SM K a m b d) (hN : b - a < N + 1) (c1 : m ≠ a + 1) (c2 : b ≠ m + 1) (mid : Nat) (hmd : (a + b) / 2 = mid) (hmid : m ≤ mid) :
    Calls Try.prog 74 #[.slice (some ⟨blk, off, none⟩) d0.size cap, .int .i64 a, .int .i64 m, .int .i64 b, .func (.func 43) #[] #[]] w fun e w' => e = .returned (.tuple #[]) ∧ ∃ d', Done K a b d d' ∧ SWK (encS V) 2 w0 blk off d' w' := by
  have eg : ∀ args w, (callFunc 43 args).run Try.prog w = .ok (.enter 43 args) w := enters_of Try.func43 (by kernel_rfl) rfl
  have mixed : Try.prog.follows .mixedOrders = true := by kernel_rfl
  have HC := Aside0.mk hC
  have MM := Aside0.mk M
  have S0 := Aside0.mk S
  have ham := M.am
  have hmb := M.mb
  have hbs := M.bs
  rw [hs] at hbs
  clear hC M S
  have hm1 : ((m : Int) - (a : Int) == 1) = false := by rw [beq_eq_false_iff_ne]; omega
  have hm2 : ((b : Int) - (m : Int) == 1) = false := by rw [beq_eq_false_iff_ne]; omega
  have RT := Aside0.mk (fun (x y z : Nat) (dk : Array Nat) (wk : World) (hk : dk.size = d0.size) (Sk : SWK (encS V) 2 w0 blk off dk wk) (h1 : x < y) (h2 : y < z) (h3 : z ≤ d0.size) => by
    have := rotate_any V (.func (.func 43) #[] #[]) blk off cap x y z d0 dk w0 wk R hk.symm Sk h1 h2 (by omega) (by omega)
    rwa [hk] at this)
  have IH := Aside0.mk IH
  have w1 : IntKind.i64.wrap ((a : Int) + (b : Int)) = (a : Int) + (b : Int) := by rw [IntKind.wrap_i64]; omega
  have w2 : IntKind.u64.wrap ((a : Int) + (b : Int)) = (a : Int) + (b : Int) := by simp [IntKind.wrap, IntKind.bits, IntKind.signed]; omega
  have hz : ((a : Int) + (b : Int)) / 2 = (mid : Int) := by omega
  obtain ⟨n, hn⟩ : ∃ n, mid + m = n := ⟨_, rfl⟩
  obtain ⟨p, hp⟩ : ∃ p, n - 1 = p := ⟨_, rfl⟩
  have e1 : (mid : Int) + (m : Int) = (n : Int) := by omega
  have e2 : (n : Int) - 1 = (p : Int) := by omega
  have w3 : IntKind.i64.wrap ((mid : Int) + (m : Int)) = (mid : Int) + (m : Int) := by rw [IntKind.wrap_i64]; omega
  have w4 : IntKind.i64.wrap ((n : Int) - 1) = (n : Int) - 1 := by rw [IntKind.wrap_i64]; omega
  have nn : mid + m = n ∧ n = p + 1 ∧ (a + b) / 2 = mid := by omega
  have NN := Aside0.mk nn
  have KK := Aside0.mk (show a + b ≤ 2 * mid + 1 ∧ 2 * mid ≤ a + b by omega)
  have hgt0 : decide ((m : Int) > (mid : Int)) = false := decide_eq_false (by omega)
  have hgt1 : ¬ (mid : Int) < (m : Int) := by omega
  clear hn hp hmd nn c1 c2
  go_enter Try.func74, Try.ntmps74
  go_wp2_with fail
  go_loopw [20, 21] (fun s20 s21 wr => ∃ s r : Nat, s20 = .int .i64 s ∧ s21 = .int .i64 r ∧ a ≤ s ∧ s ≤ r ∧ r ≤ m ∧ Aside0 ((a < s → ¬ rlt (K d[p - (s - 1)]!) (K d[s - 1]!)) ∧ (r < m → rlt (K d[p - r]!) (K d[r]!)) ∧ SWK (encS V) 2 w0 blk off d wr)) (fun s20 s21 _ => (intOf s21).toNat - (intOf s20).toNat)
  case atStart => exact ⟨a, m, rfl, rfl, Nat.le_refl _, by have := NN.out; have := KK.out; omega, Nat.le_refl _, ⟨fun h => by omega, fun h => by omega, S0.out⟩⟩
  case round =>
    obtain ⟨s, r, rfl, rfl, hi, hij, hjb, H⟩ := hrel
    by_cases hlt : s < r
    · obtain ⟨c, hh⟩ : ∃ c, (s + r) / 2 = c := ⟨_, rfl⟩
      have hi1 : s ≤ c := by omega
      have hi2 : c < r := by omega
      have w5 : IntKind.i64.wrap ((s : Int) + (r : Int)) = (s : Int) + (r : Int) := by rw [IntKind.wrap_i64]; omega
      have w6 : IntKind.u64.wrap ((s : Int) + (r : Int)) = (s : Int) + (r : Int) := by simp [IntKind.wrap, IntKind.bits, IntKind.signed]; omega
      have hz2 : ((s : Int) + (r : Int)) / 2 = (c : Int) := by omega
      clear hh
      obtain ⟨q, hq0⟩ : ∃ q, p - c = q := ⟨_, rfl⟩
      have e3 : (p : Int) - (c : Int) = (q : Int) := by have := NN.out; omega
      have hqb : q < d0.size := by have := NN.out; have := KK.out; omega
      have w7 : IntKind.i64.wrap ((p : Int) - (c : Int)) = (p : Int) - (c : Int) := by rw [IntKind.wrap_i64]; omega
      have wq : IntKind.i64.wrap (q : Int) = (q : Int) := by rw [IntKind.wrap_i64]; omega
      have HQ := Aside0.mk hq0
      clear hq0
      obtain ⟨x, hx⟩ : ∃ x, d[q]! = x := ⟨_, rfl⟩
      obtain ⟨y, hy⟩ : ∃ y, d[c]! = y := ⟨_, rfl⟩
      have hmc := cmp_grown H.out.2.2 HC.out hs x y
      have l1 := side_grown H.out.2.2 R hs (q) (by omega)
      have l2 := side_grown H.out.2.2 R hs (c) (by omega)
      have SG := Aside0.mk (fun n os => SWK.grown H.out.2.2 n os)
      rw [hx] at l1
      rw [hy] at l2
      obtain ⟨⟨p1, p2, p3⟩, hp⟩ : ∃ k, V x = k := ⟨_, rfl⟩
      obtain ⟨⟨q1, q2, q3⟩, hq⟩ : ∃ k, V y = k := ⟨_, rfl⟩
      rw [hp] at l1 hmc
      rw [hq] at l2 hmc
      simp only [kv] at l1 l2 hmc
      have l1a := fun n os => (l1 n os).1
      have l1b := fun n os => (l1 n os).2
      have l2a := fun n os => (l2 n os).1
      have l2b := fun n os => (l2 n os).2
      obtain ⟨cc, hcc⟩ : ∃ cc, rowCmp (K x) (K y) = cc := ⟨_, rfl⟩
      rw [hcc] at hmc
      have HX := Aside0.mk (show rlt (K d[q]!) (K d[c]!) ↔ cc < 0 by rw [hx, hy, ← hcc]; rfl)
      clear hx hy hp hq hcc l1 l2
      have bp : ((q : Nat) : Int) < (d0.size : Int) := by omega
      have bq : ((c : Nat) : Int) < (d0.size : Int) := by omega
      have zp : (0 : Int) ≤ ((q : Nat) : Int) := by omega
      have zq : (0 : Int) ≤ ((c : Nat) : Int) := by omega
      have tp : ((q : Nat) : Int).toNat = q := by omega
      have tq : ((c : Nat) : Int).toNat = c := by omega

      by_cases hc : cc < 0
      · go_wp2_with fail
        go_quiet_grown (first | (go_at_fn 43; refine Calls.grown_of (hmc _ _)) | (go_loud (go_at_call 43)))

        have HX := Aside0.mk (HX.out.2 hc)
        go_wp2
        go_roundw
        case rel => exact ⟨s, c, rfl, rfl, by omega, by omega, by omega, ⟨H.out.1, fun _ => by rw [HQ.out]; exact HX.out, SG.out _ _⟩⟩
        case measure => simp [intOf]; omega
      · have HX := Aside0.mk (fun k => hc (HX.out.1 k))
        have hd : decide (cc < 0) = false := decide_eq_false hc
        go_wp2_with fail
        go_quiet_grown (first | (go_at_fn 43; refine Calls.grown_of (hmc _ _)) | (go_loud (go_at_call 43)))
        go_wp2
        go_roundw
        case rel => exact ⟨c + 1, r, by go_num, rfl, by omega, by omega, by omega, ⟨fun _ => by rw [Nat.add_sub_cancel, HQ.out]; exact HX.out, H.out.2.1, SG.out _ _⟩⟩
        case measure => simp [intOf]; omega
    · obtain rfl : s = r := by omega
      obtain ⟨e, he⟩ : ∃ e, n - s = e := ⟨_, rfl⟩
      have e5 : (n : Int) - (s : Int) = (e : Int) := by have := NN.out; omega
      have w8 : IntKind.i64.wrap ((n : Int) - (s : Int)) = (n : Int) - (s : Int) := by rw [IntKind.wrap_i64]; omega
      have CU := Aside0.mk (show CutM K a m b s e d by
        have := NN.out; have := KK.out; 
        refine ⟨by omega, by omega, by omega, by omega, fun h1 h2 => ?_, fun h1 h2 => ?_⟩
        · have := H.out.1 (by omega)
          rwa [show p - (s - 1) = e by omega] at this
        · have := H.out.2.1 (by omega)
          rwa [show p - s = e - 1 by omega] at this)
      have hme : s + (e - m) = mid := by have := NN.out; have := CU.out.hme; omega
      have HE := Aside0.mk hme
      have g1 := CU.out.hs
      have g2 := CU.out.hsm
      have g3 := CU.out.hme
      have g4 := CU.out.heb
      have S1 := Aside0.mk H.out.2.2
      clear he H
      by_cases q1 : s < m
      · by_cases q2 : m < e
        · have C0 := Aside0.mk (RT.out s m e d wr hs S1.out q1 q2 (by omega))
          go_wp2_with fail
          refine C0.out.mono ?_
          rintro _ w3 ⟨rfl, d1, IR, S1'⟩
          have IR := Aside0.mk IR
          have S1 := Aside0.mk S1'
          clear C0 S1'
          by_cases q3 : a < s ∧ s < mid
          · obtain ⟨q4, q4'⟩ := q3
            have SM1 := Aside0.mk (HE.out ▸ MM.out.half1 CU.out IR.out q4 (by rw [HE.out]; exact q4') : SM K a s mid d1)
            have C1 := Aside0.mk (IH.out a s mid d1 _ (by omega) (IR.out.1.trans hs) S1.out SM1.out)
            go_wp2_with fail
            refine C1.out.mono ?_
            rintro _ w4 ⟨rfl, d2, D1, S2⟩
            have D1 := Aside0.mk D1
            have S2 := Aside0.mk S2
            clear C1
            by_cases q5 : mid < e ∧ e < b
            · obtain ⟨q6, q7⟩ := q5
              have SM2 := Aside0.mk (HE.out ▸ MM.out.half2 CU.out IR.out (HE.out.symm ▸ D1.out) (by rw [HE.out]; exact q6) q7 : SM K mid e b d2)
              have C2 := Aside0.mk (IH.out mid e b d2 _ (by omega) (D1.out.size.trans (IR.out.1.trans hs)) S2.out SM2.out)
              go_wp2_with fail
              refine C2.out.mono ?_
              rintro _ w5 ⟨rfl, d3, D2, S3⟩
              have D2 := Aside0.mk D2
              have S3 := Aside0.mk S3
              clear C2
              go_wp2
              go_end0
              exact ⟨rfl, d3, MM.out.whole CU.out IR.out (HE.out.symm ▸ D1.out) (HE.out.symm ▸ D2.out), S3.out⟩
            · have D2 := Aside0.mk (Done.none (HE.out ▸ MM.out.half2_none CU.out IR.out (HE.out.symm ▸ D1.out) (by rw [HE.out]; exact q5) : (sg K d2 mid b).Pairwise sLt))
              have S3 := Aside0.mk S2.out
              by_cases q6 : mid < e
              · have q7 : ¬ e < b := fun k => q5 ⟨q6, k⟩
                clear q5
                go_wp2
                go_end0
                exact ⟨rfl, _, MM.out.whole CU.out IR.out (HE.out.symm ▸ D1.out) (HE.out.symm ▸ D2.out), S3.out⟩
              · clear q5
                go_wp2
                go_end0
                exact ⟨rfl, _, MM.out.whole CU.out IR.out (HE.out.symm ▸ D1.out) (HE.out.symm ▸ D2.out), S3.out⟩
          · have D1 := Aside0.mk (Done.none (HE.out ▸ MM.out.half1_none CU.out IR.out (by rw [HE.out]; exact q3) : (sg K d1 a mid).Pairwise sLt))
            by_cases q4 : a < s
            · have q4' : ¬ s < mid := fun k => q3 ⟨q4, k⟩
              clear q3
              by_cases q5 : mid < e ∧ e < b
              · obtain ⟨q6, q7⟩ := q5
                have SM2 := Aside0.mk (HE.out ▸ MM.out.half2 CU.out IR.out (HE.out.symm ▸ D1.out) (by rw [HE.out]; exact q6) q7 : SM K mid e b d1)
                have C2 := Aside0.mk (IH.out mid e b d1 _ (by omega) (D1.out.size.trans (IR.out.1.trans hs)) S1.out SM2.out)
                go_wp2_with fail
                refine C2.out.mono ?_
                rintro _ w5 ⟨rfl, d3, D2, S3⟩
                have D2 := Aside0.mk D2
                have S3 := Aside0.mk S3
                clear C2
                go_wp2
                go_end0
                exact ⟨rfl, d3, MM.out.whole CU.out IR.out (HE.out.symm ▸ D1.out) (HE.out.symm ▸ D2.out), S3.out⟩
              · have D2 := Aside0.mk (Done.none (HE.out ▸ MM.out.half2_none CU.out IR.out (HE.out.symm ▸ D1.out) (by rw [HE.out]; exact q5) : (sg K d1 mid b).Pairwise sLt))
                have S3 := Aside0.mk S1.out
                by_cases q6 : mid < e
                · have q7 : ¬ e < b := fun k => q5 ⟨q6, k⟩
                  clear q5
                  go_wp2
                  go_end0
                  exact ⟨rfl, _, MM.out.whole CU.out IR.out (HE.out.symm ▸ D1.out) (HE.out.symm ▸ D2.out), S3.out⟩
                · clear q5
                  go_wp2
                  go_end0
                  exact ⟨rfl, _, MM.out.whole CU.out IR.out (HE.out.symm ▸ D1.out) (HE.out.symm ▸ D2.out), S3.out⟩
            · clear q3
              by_cases q5 : mid < e ∧ e < b
              · obtain ⟨q6, q7⟩ := q5
                have SM2 := Aside0.mk (HE.out ▸ MM.out.half2 CU.out IR.out (HE.out.symm ▸ D1.out) (by rw [HE.out]; exact q6) q7 : SM K mid e b d1)
                have C2 := Aside0.mk (IH.out mid e b d1 _ (by omega) (D1.out.size.trans (IR.out.1.trans hs)) S1.out SM2.out)
                go_wp2_with fail
                refine C2.out.mono ?_
                rintro _ w5 ⟨rfl, d3, D2, S3⟩
                have D2 := Aside0.mk D2
                have S3 := Aside0.mk S3
                clear C2
                go_wp2
                go_end0
                exact ⟨rfl, d3, MM.out.whole CU.out IR.out (HE.out.symm ▸ D1.out) (HE.out.symm ▸ D2.out), S3.out⟩
              · have D2 := Aside0.mk (Done.none (HE.out ▸ MM.out.half2_none CU.out IR.out (HE.out.symm ▸ D1.out) (by rw [HE.out]; exact q5) : (sg K d1 mid b).Pairwise sLt))
                have S3 := Aside0.mk S1.out
                by_cases q6 : mid < e
                · have q7 : ¬ e < b := fun k => q5 ⟨q6, k⟩
                  clear q5
                  go_wp2
                  go_end0
                  exact ⟨rfl, _, MM.out.whole CU.out IR.out (HE.out.symm ▸ D1.out) (HE.out.symm ▸ D2.out), S3.out⟩
                · clear q5
                  go_wp2
                  go_end0
                  exact ⟨rfl, _, MM.out.whole CU.out IR.out (HE.out.symm ▸ D1.out) (HE.out.symm ▸ D2.out), S3.out⟩
        · have IR := Aside0.mk (IsRot.none s m d g2 e (.inr (by omega)))
          by_cases q3 : a < s ∧ s < mid
          · obtain ⟨q4, q4'⟩ := q3
            have SM1 := Aside0.mk (HE.out ▸ MM.out.half1 CU.out IR.out q4 (by rw [HE.out]; exact q4') : SM K a s mid d)
            have C1 := Aside0.mk (IH.out a s mid d _ (by omega) (IR.out.1.trans hs) S1.out SM1.out)
            go_wp2_with fail
            refine C1.out.mono ?_
            rintro _ w4 ⟨rfl, d2, D1, S2⟩
            have D1 := Aside0.mk D1
            have S2 := Aside0.mk S2
            clear C1
            by_cases q5 : mid < e ∧ e < b
            · obtain ⟨q6, q7⟩ := q5
              have SM2 := Aside0.mk (HE.out ▸ MM.out.half2 CU.out IR.out (HE.out.symm ▸ D1.out) (by rw [HE.out]; exact q6) q7 : SM K mid e b d2)
              have C2 := Aside0.mk (IH.out mid e b d2 _ (by omega) (D1.out.size.trans (IR.out.1.trans hs)) S2.out SM2.out)
              go_wp2_with fail
              refine C2.out.mono ?_
              rintro _ w5 ⟨rfl, d3, D2, S3⟩
              have D2 := Aside0.mk D2
              have S3 := Aside0.mk S3
              clear C2
              go_wp2
              go_end0
              exact ⟨rfl, d3, MM.out.whole CU.out IR.out (HE.out.symm ▸ D1.out) (HE.out.symm ▸ D2.out), S3.out⟩
            · have D2 := Aside0.mk (Done.none (HE.out ▸ MM.out.half2_none CU.out IR.out (HE.out.symm ▸ D1.out) (by rw [HE.out]; exact q5) : (sg K d2 mid b).Pairwise sLt))
              have S3 := Aside0.mk S2.out
              by_cases q6 : mid < e
              · have q7 : ¬ e < b := fun k => q5 ⟨q6, k⟩
                clear q5
                go_wp2
                go_end0
                exact ⟨rfl, _, MM.out.whole CU.out IR.out (HE.out.symm ▸ D1.out) (HE.out.symm ▸ D2.out), S3.out⟩
              · clear q5
                go_wp2
                go_end0
                exact ⟨rfl, _, MM.out.whole CU.out IR.out (HE.out.symm ▸ D1.out) (HE.out.symm ▸ D2.out), S3.out⟩
          · have D1 := Aside0.mk (Done.none (HE.out ▸ MM.out.half1_none CU.out IR.out (by rw [HE.out]; exact q3) : (sg K d a mid).Pairwise sLt))
            by_cases q4 : a < s
            · have q4' : ¬ s < mid := fun k => q3 ⟨q4, k⟩
              clear q3
              by_cases q5 : mid < e ∧ e < b
              · obtain ⟨q6, q7⟩ := q5
                have SM2 := Aside0.mk (HE.out ▸ MM.out.half2 CU.out IR.out (HE.out.symm ▸ D1.out) (by rw [HE.out]; exact q6) q7 : SM K mid e b d)
                have C2 := Aside0.mk (IH.out mid e b d _ (by omega) (D1.out.size.trans (IR.out.1.trans hs)) S1.out SM2.out)
                go_wp2_with fail
                refine C2.out.mono ?_
                rintro _ w5 ⟨rfl, d3, D2, S3⟩
                have D2 := Aside0.mk D2
                have S3 := Aside0.mk S3
                clear C2
                go_wp2
                go_end0
                exact ⟨rfl, d3, MM.out.whole CU.out IR.out (HE.out.symm ▸ D1.out) (HE.out.symm ▸ D2.out), S3.out⟩
              · have D2 := Aside0.mk (Done.none (HE.out ▸ MM.out.half2_none CU.out IR.out (HE.out.symm ▸ D1.out) (by rw [HE.out]; exact q5) : (sg K d mid b).Pairwise sLt))
                have S3 := Aside0.mk S1.out
                by_cases q6 : mid < e
                · have q7 : ¬ e < b := fun k => q5 ⟨q6, k⟩
                  clear q5
                  go_wp2
                  go_end0
                  exact ⟨rfl, _, MM.out.whole CU.out IR.out (HE.out.symm ▸ D1.out) (HE.out.symm ▸ D2.out), S3.out⟩
                · clear q5
                  go_wp2
                  go_end0
                  exact ⟨rfl, _, MM.out.whole CU.out IR.out (HE.out.symm ▸ D1.out) (HE.out.symm ▸ D2.out), S3.out⟩
            · clear q3
              by_cases q5 : mid < e ∧ e < b
              · obtain ⟨q6, q7⟩ := q5
                have SM2 := Aside0.mk (HE.out ▸ MM.out.half2 CU.out IR.out (HE.out.symm ▸ D1.out) (by rw [HE.out]; exact q6) q7 : SM K mid e b d)
                have C2 := Aside0.mk (IH.out mid e b d _ (by omega) (D1.out.size.trans (IR.out.1.trans hs)) S1.out SM2.out)
                go_wp2_with fail
                refine C2.out.mono ?_
                rintro _ w5 ⟨rfl, d3, D2, S3⟩
                have D2 := Aside0.mk D2
                have S3 := Aside0.mk S3
                clear C2
                go_wp2
                go_end0
                exact ⟨rfl, d3, MM.out.whole CU.out IR.out (HE.out.symm ▸ D1.out) (HE.out.symm ▸ D2.out), S3.out⟩
              · have D2 := Aside0.mk (Done.none (HE.out ▸ MM.out.half2_none CU.out IR.out (HE.out.symm ▸ D1.out) (by rw [HE.out]; exact q5) : (sg K d mid b).Pairwise sLt))
                have S3 := Aside0.mk S1.out
                by_cases q6 : mid < e
                · have q7 : ¬ e < b := fun k => q5 ⟨q6, k⟩
                  clear q5
                  go_wp2
                  go_end0
                  exact ⟨rfl, _, MM.out.whole CU.out IR.out (HE.out.symm ▸ D1.out) (HE.out.symm ▸ D2.out), S3.out⟩
                · clear q5
                  go_wp2
                  go_end0
                  exact ⟨rfl, _, MM.out.whole CU.out IR.out (HE.out.symm ▸ D1.out) (HE.out.symm ▸ D2.out), S3.out⟩
      · have IR := Aside0.mk (IsRot.none s m d g2 e (.inl (by omega)))
        by_cases q3 : a < s ∧ s < mid
        · obtain ⟨q4, q4'⟩ := q3
          have SM1 := Aside0.mk (HE.out ▸ MM.out.half1 CU.out IR.out q4 (by rw [HE.out]; exact q4') : SM K a s mid d)
          have C1 := Aside0.mk (IH.out a s mid d _ (by omega) (IR.out.1.trans hs) S1.out SM1.out)
          go_wp2_with fail
          refine C1.out.mono ?_
          rintro _ w4 ⟨rfl, d2, D1, S2⟩
          have D1 := Aside0.mk D1
          have S2 := Aside0.mk S2
          clear C1
          by_cases q5 : mid < e ∧ e < b
          · obtain ⟨q6, q7⟩ := q5
            have SM2 := Aside0.mk (HE.out ▸ MM.out.half2 CU.out IR.out (HE.out.symm ▸ D1.out) (by rw [HE.out]; exact q6) q7 : SM K mid e b d2)
            have C2 := Aside0.mk (IH.out mid e b d2 _ (by omega) (D1.out.size.trans (IR.out.1.trans hs)) S2.out SM2.out)
            go_wp2_with fail
            refine C2.out.mono ?_
            rintro _ w5 ⟨rfl, d3, D2, S3⟩
            have D2 := Aside0.mk D2
            have S3 := Aside0.mk S3
            clear C2
            go_wp2
            go_end0
            exact ⟨rfl, d3, MM.out.whole CU.out IR.out (HE.out.symm ▸ D1.out) (HE.out.symm ▸ D2.out), S3.out⟩
          · have D2 := Aside0.mk (Done.none (HE.out ▸ MM.out.half2_none CU.out IR.out (HE.out.symm ▸ D1.out) (by rw [HE.out]; exact q5) : (sg K d2 mid b).Pairwise sLt))
            have S3 := Aside0.mk S2.out
            by_cases q6 : mid < e
            · have q7 : ¬ e < b := fun k => q5 ⟨q6, k⟩
              clear q5
              go_wp2
              go_end0
              exact ⟨rfl, _, MM.out.whole CU.out IR.out (HE.out.symm ▸ D1.out) (HE.out.symm ▸ D2.out), S3.out⟩
            · clear q5
              go_wp2
              go_end0
              exact ⟨rfl, _, MM.out.whole CU.out IR.out (HE.out.symm ▸ D1.out) (HE.out.symm ▸ D2.out), S3.out⟩
        · have D1 := Aside0.mk (Done.none (HE.out ▸ MM.out.half1_none CU.out IR.out (by rw [HE.out]; exact q3) : (sg K d a mid).Pairwise sLt))
          by_cases q4 : a < s
          · have q4' : ¬ s < mid := fun k => q3 ⟨q4, k⟩
            clear q3
            by_cases q5 : mid < e ∧ e < b
            · obtain ⟨q6, q7⟩ := q5
              have SM2 := Aside0.mk (HE.out ▸ MM.out.half2 CU.out IR.out (HE.out.symm ▸ D1.out) (by rw [HE.out]; exact q6) q7 : SM K mid e b d)
              have C2 := Aside0.mk (IH.out mid e b d _ (by omega) (D1.out.size.trans (IR.out.1.trans hs)) S1.out SM2.out)
              go_wp2_with fail
              refine C2.out.mono ?_
              rintro _ w5 ⟨rfl, d3, D2, S3⟩
              have D2 := Aside0.mk D2
              have S3 := Aside0.mk S3
              clear C2
              go_wp2
              go_end0
              exact ⟨rfl, d3, MM.out.whole CU.out IR.out (HE.out.symm ▸ D1.out) (HE.out.symm ▸ D2.out), S3.out⟩
            · have D2 := Aside0.mk (Done.none (HE.out ▸ MM.out.half2_none CU.out IR.out (HE.out.symm ▸ D1.out) (by rw [HE.out]; exact q5) : (sg K d mid b).Pairwise sLt))
              have S3 := Aside0.mk S1.out
              by_cases q6 : mid < e
              · have q7 : ¬ e < b := fun k => q5 ⟨q6, k⟩
                clear q5
                go_wp2
                go_end0
                exact ⟨rfl, _, MM.out.whole CU.out IR.out (HE.out.symm ▸ D1.out) (HE.out.symm ▸ D2.out), S3.out⟩
              · clear q5
                go_wp2
                go_end0
                exact ⟨rfl, _, MM.out.whole CU.out IR.out (HE.out.symm ▸ D1.out) (HE.out.symm ▸ D2.out), S3.out⟩
          · clear q3
            by_cases q5 : mid < e ∧ e < b
            · obtain ⟨q6, q7⟩ := q5
              have SM2 := Aside0.mk (HE.out ▸ MM.out.half2 CU.out IR.out (HE.out.symm ▸ D1.out) (by rw [HE.out]; exact q6) q7 : SM K mid e b d)
              have C2 := Aside0.mk (IH.out mid e b d _ (by omega) (D1.out.size.trans (IR.out.1.trans hs)) S1.out SM2.out)
              go_wp2_with fail
              refine C2.out.mono ?_
              rintro _ w5 ⟨rfl, d3, D2, S3⟩
              have D2 := Aside0.mk D2
              have S3 := Aside0.mk S3
              clear C2
              go_wp2
              go_end0
              exact ⟨rfl, d3, MM.out.whole CU.out IR.out (HE.out.symm ▸ D1.out) (HE.out.symm ▸ D2.out), S3.out⟩
            · have D2 := Aside0.mk (Done.none (HE.out ▸ MM.out.half2_none CU.out IR.out (HE.out.symm ▸ D1.out) (by rw [HE.out]; exact q5) : (sg K d mid b).Pairwise sLt))
              have S3 := Aside0.mk S1.out
              by_cases q6 : mid < e
              · have q7 : ¬ e < b := fun k => q5 ⟨q6, k⟩
                clear q5
                go_wp2
                go_end0
                exact ⟨rfl, _, MM.out.whole CU.out IR.out (HE.out.symm ▸ D1.out) (HE.out.symm ▸ D2.out), S3.out⟩
              · clear q5
                go_wp2
                go_end0
                exact ⟨rfl, _, MM.out.whole CU.out IR.out (HE.out.symm ▸ D1.out) (HE.out.symm ▸ D2.out), S3.out⟩
end Go.Proofs.Ytmgoefhihljggaa.Sg
namespace Go.Proofs.Ytmgoefhihljggaa.Sg
open Go.RowKit Go.Shelf Go.Sort
set_option linter.unusedVariables false
set_option linter.unusedSimpArgs false

theorem symMerge_any (V : Nat → Keyv) (K : Nat → Row) (blk off cap : Nat) (d0 : Array Nat) (w0 : World) (R : RowK (encS V) 2 w0 blk off d0)
    (hC : CmpLays Try.prog 43 #[] (encS V) 2 (fun x y => rowCmp (K x) (K y)) blk off d0.size w0) (hsz : d0.size < 1000000) : ∀ N, SymSays V K blk off cap d0 w0 N
  | 0 => fun _ _ _ _ _ h _ _ _ => absurd h (Nat.not_lt_zero _)
  | N + 1 => fun a m b d w hN hs S M => by
    have IH := symMerge_any V K blk off cap d0 w0 R hC hsz N
    by_cases c1 : m = a + 1
    · exact symMerge1 V K blk off cap d0 w0 R hC hsz a m b d w hs S M c1
    · by_cases c2 : b = m + 1
      · exact symMerge2 V K blk off cap d0 w0 R hC hsz a m b d w hs S M c1 c2
      · by_cases hm : (a + b) / 2 < m
        · exact symMerge3 V K blk off cap d0 w0 R hC hsz N IH a m b d w hs S M hN c1 c2 _ rfl hm
        · exact symMerge4 V K blk off cap d0 w0 R hC hsz N IH a m b d w hs S M hN c1 c2 _ rfl (by omega)
theorem perm_sg {K : Nat → Row} {a b : Nat} {d d' : Array Nat} (h : Go.Sort.PermIn a b d d') (hb : b ≤ d.size) (hab : a ≤ b) : (sg K d' a b).Perm (sg K d a b) := by
  have key : ∀ e : Array Nat, b ≤ e.size → sg K e a b = (e.extract a b).toList.map (sd K) := fun e he => by
    refine List.ext_getElem (by rw [sg_length]; simp; omega) fun t h1 h2 => ?_
    rw [sg_length] at h1
    rw [sg_get]
    simp
    rw [getElem!_pos e (a + t) (by omega)]
  rw [key d hb, key d' (by rw [h.1]; exact hb)]
  exact h.2.2.map _
theorem sorted_sg {K : Nat → Row} {a b : Nat} {d : Array Nat} (h : Go.Sort.SortedIn (tl (ltK K)) a b d) (hn : ∀ i j, a ≤ i → i < j → j < b → d[i]! ≠ d[j]!) : (sg K d a b).Pairwise sLt := by
  rw [List.pairwise_iff_getElem]
  intro i j hi hj hij
  rw [sg_length] at hi hj
  rw [sg_get, sg_get]
  have h1 := (tl_not _ _ _).1 (h (a + i) (a + j) (by omega) (by omega) (by omega))
  rcases sLt_tri (sd K d[a + i]!) (sd K d[a + j]!) with t | t | t
  · exact t
  · have := congrArg Prod.snd t
    simp only [sd] at this
    exact absurd (show d[a + i]! = d[a + j]! by omega) (hn _ _ (by omega) (by omega) (by omega))
  · exact absurd t h1
theorem insSide_any (V : Nat → Keyv) (K : Nat → Row) (blk off cap : Nat) (d0 : Array Nat) (w0 : World) (R : RowK (encS V) 2 w0 blk off d0)
    (hC : CmpLays Try.prog 43 #[] (encS V) 2 (fun x y => rowCmp (K x) (K y)) blk off d0.size w0) (hsz : d0.size < 1000000)
    (a b : Nat) (d : Array Nat) (w : World) (hs : d.size = d0.size) (S : SWK (encS V) 2 w0 blk off d w) (hab : a ≤ b) (hb : b ≤ d.size) (hr : ∀ k l, a ≤ k → k < l → l < b → d[k]! < d[l]!) :
    Calls Try.prog 73 #[.slice (some ⟨blk, off, none⟩) d0.size cap, .int .i64 a, .int .i64 b, .func (.func 43) #[] #[]] w fun e w' => e = .returned (.tuple #[]) ∧ ∃ d', Done K a b d d' ∧ SWK (encS V) 2 w0 blk off d' w' := by
  have eg : ∀ args w, (callFunc 43 args).run Try.prog w = .ok (.enter 43 args) w := enters_of Try.func43 (by kernel_rfl) rfl
  have := AnyQ.insertionSortCmpFunc_w (P := Try.prog) (ρ := Try.laysI_ren) Try.laysI 2 Try.isAgg54 Try.sizeOf54 (encS V) (fun x y => rowCmp (K x) (K y)) 43 #[] blk off cap a b d0 d w0 w eg hC R hs.symm S (swo_ltK K) hab hb (by omega)
  rw [hs] at this
  refine Calls.mono this ?_
  rintro e w' ⟨rfl, S'⟩
  have P := insertion_tl (ltK K) (swo_tl K) a b d hab hb hr
  refine ⟨rfl, _, ⟨P.1.1, P.1.2.1, perm_sg P.1 hb hab, sorted_sg P.2 fun i j h1 h2 h3 => ?_⟩, S'⟩
  have hp := (perm_sg (K := K) P.1 hb hab).map Prod.snd
  have hn : ((sg K d a b).map Prod.snd).Nodup := by
    unfold List.Nodup
    rw [List.pairwise_map, List.pairwise_iff_getElem]
    intro x y hx hy hxy
    rw [sg_length] at hx hy
    rw [sg_get, sg_get]
    have := hr (a + x) (a + y) (by omega) (by omega) (by omega)
    simp only [sd]
    omega
  have hn' := hp.nodup_iff.2 hn
  have l := sg_length K (Go.Sort.insertionSort (ltOf fun x y => rowCmp (K x) (K y)) d a b) a b
  unfold List.Nodup at hn'
  rw [List.pairwise_map, List.pairwise_iff_getElem] at hn'
  have := hn' (i - a) (j - a) (by rw [show Go.Sort.insertionSort (ltK K) d a b = Go.Sort.insertionSort (ltOf fun x y => rowCmp (K x) (K y)) d a b from rfl, l]; omega) (by rw [show Go.Sort.insertionSort (ltK K) d a b = Go.Sort.insertionSort (ltOf fun x y => rowCmp (K x) (K y)) d a b from rfl, l]; omega) (by omega)
  rw [sg_get, sg_get, show a + (i - a) = i by omega, show a + (j - a) = j by omega] at this
  simp only [sd] at this
  intro q
  exact this (by rw [q])
end Go.Proofs.Ytmgoefhihljggaa.Sg
namespace Go.Proofs.Ytmgoefhihljggaa.Sg
open Go.RowKit Go.Shelf
set_option linter.unusedVariables false
set_option linter.unusedSimpArgs false

/-- d holds the sides of d0; those of a block (blk) lie in its places, sorted. -/
structure StI (K : Nat → Row) (d0 d : Array Nat) (blk : Nat → Nat) : Prop where
  size : d.size = d0.size
  rows : ∀ i, i < d.size → d[i]! < d.size ∧ blk d[i]! = blk i
  sorted : ∀ i j, i < j → j < d.size → blk i = blk j → sLt (sd K d[i]!) (sd K d[j]!)
  perm : (sg K d 0 d.size).Perm (sg K d0 0 d.size)
theorem StI.start (K : Nat → Row) (d0 : Array Nat) (h : ∀ i, i < d0.size → d0[i]! = i) (blk : Nat → Nat) (hb : ∀ i j, i < j → j < d0.size → blk i ≠ blk j) : StI K d0 d0 blk :=
  ⟨rfl, fun i hi => by rw [h i hi]; exact ⟨hi, rfl⟩, fun i j h1 h2 h3 => absurd h3 (hb i j h1 h2), List.Perm.refl _⟩
theorem StI.congr {K : Nat → Row} {d0 d : Array Nat} {blk blk' : Nat → Nat} (h : StI K d0 d blk) (e : ∀ i j, i < d.size → j < d.size → (blk i = blk j ↔ blk' i = blk' j)) : StI K d0 d blk' :=
  ⟨h.size, fun i hi => ⟨(h.rows i hi).1, (e _ _ (h.rows i hi).1 hi).1 (h.rows i hi).2⟩, fun i j h1 h2 h3 => h.sorted i j h1 h2 ((e _ _ (by omega) h2).2 h3), h.perm⟩
theorem StI.step {K : Nat → Row} {d0 d d' : Array Nat} {blk blk' : Nat → Nat} {a b : Nat} (h : StI K d0 d blk) (D : Done K a b d d') (ha : a ≤ b) (hb : b ≤ d.size)
    (c1 : ∀ x y, x < d.size → y < d.size → blk x = blk y → blk' x = blk' y) (c2 : ∀ i j, i < j → j < d.size → blk' i = blk' j → (blk i = blk j ∧ (i < a ∨ b ≤ i) ∧ (j < a ∨ b ≤ j)) ∨ (a ≤ i ∧ j < b))
    (c4 : ∀ i k, a ≤ i → i < b → a ≤ k → k < b → blk' i = blk' k) : StI K d0 d' blk' := by
  have hs := D.size
  refine ⟨hs.trans h.size, fun i hi => ?_, fun i j h1 h2 h3 => ?_, ?_⟩
  · rw [hs] at hi ⊢
    by_cases q : i < a ∨ b ≤ i
    · rw [D.out i q]
      exact ⟨(h.rows i hi).1, c1 _ _ (h.rows i hi).1 hi (h.rows i hi).2⟩
    · have hm : sd K d'[i]! ∈ sg K d' a b := by
        unfold sg
        exact List.mem_map.2 ⟨i, by rw [List.mem_range'_1]; omega, rfl⟩
      obtain ⟨k, k1, k2, k3⟩ := sg_mem (D.perm.mem_iff.1 hm)
      have e : d'[i]! = d[k]! := by
        have := congrArg Prod.snd k3
        simp only [sd] at this
        omega
      rw [e]
      have := h.rows k (by omega)
      exact ⟨this.1, (c1 _ _ this.1 (by omega) this.2).trans (c4 k i k1 k2 (by omega) (by omega))⟩
  · rw [hs] at h2
    rcases c2 i j h1 h2 h3 with ⟨k1, k2, k3⟩ | ⟨k1, k2⟩
    · rw [D.out i k2, D.out j k3]
      exact h.sorted i j h1 h2 k1
    · have := List.pairwise_iff_getElem.1 D.sorted (i - a) (j - a) (by rw [sg_length]; omega) (by rw [sg_length]; omega) (by omega)
      rw [sg_get, sg_get, show a + (i - a) = i by omega, show a + (j - a) = j by omega] at this
      exact this
  · rw [hs]
    refine List.Perm.trans ?_ h.perm
    rw [sg_split K d' (c := a) (Nat.zero_le _) (by omega), sg_split K d' (a := a) (c := b) ha hb, sg_split K d (c := a) (Nat.zero_le _) (by omega), sg_split K d (a := a) (c := b) ha hb]
    rw [show sg K d' 0 a = sg K d 0 a from sg_congr K rfl fun t ht => D.out _ (by omega), show sg K d' b d.size = sg K d b d.size from sg_congr K rfl fun t ht => D.out _ (by omega)]
    exact List.Perm.append_left _ (List.Perm.append_right _ D.perm)
theorem StI.run {K : Nat → Row} {d0 d : Array Nat} {blk : Nat → Nat} {a b : Nat} (h : StI K d0 d blk) (hb : b ≤ d.size) (u : ∀ i j, a ≤ i → i < j → j < b → blk i = blk j) : (sg K d a b).Pairwise sLt := by
  rw [List.pairwise_iff_getElem]
  intro i j hi hj hij
  rw [sg_length] at hi hj
  rw [sg_get, sg_get]
  exact h.sorted _ _ (by omega) (by omega) (u _ _ (by omega) (by omega) (by omega))
theorem StI.sm {K : Nat → Row} {d0 d : Array Nat} {blk : Nat → Nat} {a m b : Nat} (h : StI K d0 d blk) (am : a < m) (mb : m < b) (hb : b ≤ d.size) (u1 : ∀ i j, a ≤ i → i < j → j < m → blk i = blk j) (u2 : ∀ i j, m ≤ i → i < j → j < b → blk i = blk j)
    (u3 : ∀ x i, x < d.size → a ≤ i → i < m → blk x = blk i → x < m) (u4 : ∀ x j, x < d.size → m ≤ j → j < b → blk x = blk j → m ≤ x) : SM K a m b d :=
  ⟨am, mb, hb, h.run (by omega) u1, h.run hb u2, fun i j i1 i2 j1 j2 => by
    have a1 := h.rows i (by omega)
    have a2 := h.rows j (by omega)
    have := u3 _ i a1.1 i1 i2 a1.2
    have := u4 _ j a2.1 j1 j2 a2.2
    omega⟩
def blkA (a i : Nat) : Nat := if i < a then i / 20 else i + 1000
def blkB (a i : Nat) : Nat := if i < a then i / 40 else i / 20 + 1000
def blkC (a i : Nat) : Nat := if i < a then i / 80 else i / 40 + 1000
theorem StI.rising {K : Nat → Row} {d0 d : Array Nat} {a : Nat} (h : StI K d0 d (blkA a)) (hn : d.size < 80) (k l : Nat) (h1 : a ≤ k) (h2 : k < l) (h3 : l < d.size) : d[k]! < d[l]! := by
  have e : ∀ i, a ≤ i → i < d.size → d[i]! = i := fun i h1 h2 => by
    have := h.rows i h2
    unfold blkA at this
    revert this
    repeat' split
    all_goals omega
  rw [e k h1 (by omega), e l (by omega) h3]
  exact h2
theorem StI.ins {K : Nat → Row} {d0 d d' : Array Nat} {a b : Nat} (h : StI K d0 d (blkA a)) (D : Done K a b d d') (hn : d.size < 80) (ha : a % 20 = 0) (hab : a ≤ b) (hb : b ≤ d.size) (hb2 : b ≤ a + 20) (hb3 : b % 20 = 0 ∨ b = d.size) : StI K d0 d' (blkA b) := by
  refine h.step D hab hb (fun x y hx hy => ?_) (fun i j hi hj => ?_) (fun i k i1 i2 k1 k2 => ?_)
  all_goals unfold blkA
  all_goals (repeat' split)
  all_goals omega
theorem StI.toB {K : Nat → Row} {d0 d : Array Nat} (h : StI K d0 d (blkA d.size)) (hn : d.size < 80) : StI K d0 d (blkB 0) := by
  refine h.congr fun i j hi hj => ?_
  unfold blkA blkB
  rw [if_pos hi, if_pos hj, if_neg (by omega), if_neg (by omega)]
  omega
theorem StI.toC {K : Nat → Row} {d0 d : Array Nat} {a : Nat} (h : StI K d0 d (blkB a)) (hn : d.size < 80) (ha : a % 40 = 0) (hl : d.size ≤ a + 20) : StI K d0 d (blkC 0) := by
  refine h.congr fun i j hi hj => ?_
  unfold blkB blkC
  repeat' split
  all_goals omega
theorem StI.toC' {K : Nat → Row} {d0 d : Array Nat} (h : StI K d0 d (blkB d.size)) (hn : d.size < 80) : StI K d0 d (blkC 0) := by
  refine h.congr fun i j hi hj => ?_
  unfold blkB blkC
  repeat' split
  all_goals omega
theorem StI.smB {K : Nat → Row} {d0 d : Array Nat} {a b : Nat} (h : StI K d0 d (blkB a)) (hn : d.size < 80) (ha : a % 40 = 0) (h1 : a + 20 < b) (h2 : b ≤ a + 40) (hb : b ≤ d.size) (hb3 : b = a + 40 ∨ b = d.size) : SM K a (a + 20) b d := by
  refine h.sm (by omega) h1 hb (fun i j h1 h2 h3 => ?_) (fun i j h1 h2 h3 => ?_) (fun x i hx h1 h2 => ?_) (fun x j hx h1 h2 => ?_)
  all_goals unfold blkB
  all_goals (repeat' split)
  all_goals omega
theorem StI.mergeB {K : Nat → Row} {d0 d d' : Array Nat} {a b : Nat} (h : StI K d0 d (blkB a)) (D : Done K a b d d') (hn : d.size < 80) (ha : a % 40 = 0) (h1 : a + 20 < b) (h2 : b ≤ a + 40) (hb : b ≤ d.size) (hb3 : b = a + 40 ∨ b = d.size) : StI K d0 d' (blkB b) := by
  refine h.step D (by omega) hb (fun x y hx hy => ?_) (fun i j hi hj => ?_) (fun i k i1 i2 k1 k2 => ?_)
  all_goals unfold blkB
  all_goals (repeat' split)
  all_goals omega
theorem StI.smC {K : Nat → Row} {d0 d : Array Nat} (h : StI K d0 d (blkC 0)) (hn : d.size < 80) (h1 : 40 < d.size) : SM K 0 40 d.size d := by
  refine h.sm (by omega) h1 (Nat.le_refl _) (fun i j h1 h2 h3 => ?_) (fun i j h1 h2 h3 => ?_) (fun x i hx h1 h2 => ?_) (fun x j hx h1 h2 => ?_)
  all_goals unfold blkC
  all_goals (repeat' split)
  all_goals omega
/-- What a stable sort leaves: all sides, sorted by key and row. -/
def StDone (K : Nat → Row) (d0 d : Array Nat) : Prop := d.size = d0.size ∧ (sg K d 0 d.size).Perm (sg K d0 0 d0.size) ∧ (sg K d 0 d.size).Pairwise sLt
theorem StI.doneB {K : Nat → Row} {d0 d : Array Nat} (h : StI K d0 d (blkB 0)) (hn : d.size ≤ 20) : StDone K d0 d := by
  refine ⟨h.size, by rw [← h.size]; exact h.perm, h.run (Nat.le_refl _) fun i j h1 h2 h3 => ?_⟩
  unfold blkB
  repeat' split
  all_goals omega
theorem StI.doneC {K : Nat → Row} {d0 d : Array Nat} (h : StI K d0 d (blkC 0)) (hn : d.size ≤ 40) : StDone K d0 d := by
  refine ⟨h.size, by rw [← h.size]; exact h.perm, h.run (Nat.le_refl _) fun i j h1 h2 h3 => ?_⟩
  unfold blkC
  repeat' split
  all_goals omega
theorem Done.st {K : Nat → Row} {d0 d d' : Array Nat} {blk : Nat → Nat} (h : StI K d0 d blk) (D : Done K 0 d.size d d') : StDone K d0 d' := by
  refine ⟨D.size.trans h.size, ?_, by rw [D.size]; exact D.sorted⟩
  rw [D.size, ← h.size]
  exact D.perm.trans h.perm
end Go.Proofs.Ytmgoefhihljggaa.Sg
namespace Go.Proofs.Ytmgoefhihljggaa.Sg
open Go.RowKit Go.Shelf Go.Sort
set_option linter.unusedVariables false
set_option linter.unusedSimpArgs false

set_option maxHeartbeats 2000000 in
set_option maxRecDepth 100000 in
theorem stable_any (V : Nat → Keyv) (K : Nat → Row) (blk off cap : Nat) (d0 : Array Nat) (w0 : World) (R : RowK (encS V) 2 w0 blk off d0)
    (hC : CmpLays Try.prog 43 #[] (encS V) 2 (fun x y => rowCmp (K x) (K y)) blk off d0.size w0) (hn : d0.size < 80) (hd0 : ∀ i, i < d0.size → d0[i]! = i) :
    Calls Try.prog 59 #[.slice (some ⟨blk, off, none⟩) d0.size cap, .int .i64 d0.size, .func (.func 43) #[] #[]] w0 fun e w' => e = .returned (.tuple #[]) ∧ ∃ d', StDone K d0 d' ∧ SWK (encS V) 2 w0 blk off d' w' := by
  have INS := Aside0.mk (fun (a b : Nat) (d : Array Nat) (w : World) (hs : d.size = d0.size) (S : SWK (encS V) 2 w0 blk off d w) => insSide_any V K blk off cap d0 w0 R hC (by omega) a b d w hs S)
  have SY := Aside0.mk (symMerge_any V K blk off cap d0 w0 R hC (by omega) 100)
  have S0 := Aside0.mk (StI.start K d0 hd0 (blkA 0) (fun i j h1 h2 => by unfold blkA; rw [if_neg (by omega), if_neg (by omega)]; omega))
  have W0 := Aside0.mk (SWK.start (enc := encS V) R.hH)
  clear hC
  go_enter Try.func59, Try.ntmps59
  go_wp2_with fail
  go_loopw [7, 8] (fun s7 s8 wr => ∃ (a : Nat) (dk : Array Nat), s7 = .int .i64 a ∧ s8 = .int .i64 (a + 20 : Nat) ∧ a % 20 = 0 ∧ a ≤ d0.size ∧ Aside0 (StI K d0 dk (blkA a) ∧ SWK (encS V) 2 w0 blk off dk wr)) (fun s7 _ _ => d0.size - (intOf s7).toNat)
  case atStart => exact ⟨0, d0, by go_num, by go_num, rfl, Nat.zero_le _, ⟨S0.out, W0.out⟩⟩
  case round =>
    obtain ⟨a, dk, rfl, rfl, ha, had, H⟩ := hrel
    by_cases hlt : a + 20 ≤ d0.size
    · have hs := H.out.1.size
      have C := Aside0.mk (INS.out a (a + 20) dk wr hs H.out.2 (by omega) (by omega) (fun k l h1 h2 h3 => H.out.1.rising (by omega) k l h1 h2 (by omega)))
      have hltz : (a : Int) + 20 ≤ (d0.size : Int) := by omega
      have C1 : Aside0 (Calls Try.prog 73 #[.slice (some ⟨blk, off, none⟩) d0.size cap, .int .i64 (a : Int), .int .i64 ((a : Int) + 20), .func (.func 43) #[] #[]] wr fun e w' => e = .returned (.tuple #[]) ∧ ∃ d', Done K a (a + 20) dk d' ∧ SWK (encS V) 2 w0 blk off d' w') := C
      clear C
      go_wp2_with fail
      refine C1.out.mono ?_
      rintro e w1 ⟨rfl, d1, D, S1⟩
      have HN := Aside0.mk (show StI K d0 d1 (blkA (a + 20)) from H.out.1.ins D (by omega) ha (by omega) (by omega) (by omega) (.inl (by omega)))
      have S1 := Aside0.mk S1
      clear C1 D hs
      go_wp2
      go_roundw
      case rel => exact ⟨a + 20, d1, by go_num, by go_num, by omega, by omega, ⟨HN.out, S1.out⟩⟩
      case measure => simp [intOf]; omega
    · have hs := H.out.1.size
      have hltz : ¬ (a : Int) + 20 ≤ (d0.size : Int) := by omega
      have C := Aside0.mk (INS.out a d0.size dk wr hs H.out.2 (by omega) (by omega) (fun k l h1 h2 h3 => H.out.1.rising (by omega) k l h1 h2 (by omega)))
      go_wp2_with fail
      refine C.out.mono ?_
      rintro e w1 ⟨rfl, d1, D, S1⟩
      have HN := Aside0.mk (show StI K d0 d1 (blkB 0) from StI.toB (by have := H.out.1.ins D (by omega) ha (by omega) (by omega) (by omega) (.inr (by omega)); rwa [← D.size.trans hs] at this) (by rw [D.size]; omega))
      have hs1 : d1.size = d0.size := D.size.trans hs
      have S1 := Aside0.mk S1
      clear C D hs H
      go_wp2_with fail
      go_loopw [6] (fun s6 wr => ∃ (dk : Array Nat), dk.size = d0.size ∧ Aside0 (SWK (encS V) 2 w0 blk off dk wr) ∧ ((s6 = .int .i64 20 ∧ Aside0 (StI K d0 dk (blkB 0))) ∨ (s6 = .int .i64 40 ∧ Aside0 (StI K d0 dk (blkC 0))) ∨ (s6 = .int .i64 80 ∧ Aside0 (StDone K d0 dk)))) (fun s6 _ => 80 - (intOf s6).toNat)
      case atStart => exact ⟨d1, hs1, S1, .inl ⟨rfl, HN⟩⟩
      case round =>
        obtain ⟨dk, hsk, SK, h | h | h⟩ := hrel
        · obtain ⟨rfl, HI⟩ := h
          by_cases hb : 20 < d0.size
          · have hbz : (20 : Int) < (d0.size : Int) := by omega
            go_wp2_with fail
            go_loopw [7, 8] (fun s7 s8 wr => ∃ (a : Nat) (dk : Array Nat), s7 = .int .i64 a ∧ s8 = .int .i64 (a + 40 : Nat) ∧ a % 40 = 0 ∧ a ≤ d0.size ∧ dk.size = d0.size ∧ Aside0 (StI K d0 dk (blkB a) ∧ SWK (encS V) 2 w0 blk off dk wr)) (fun s7 _ _ => d0.size - (intOf s7).toNat)
            case atStart => exact ⟨0, dk, by go_num, by go_num, rfl, Nat.zero_le _, hsk, ⟨HI.out, SK.out⟩⟩
            case round =>
              clear hsk SK HI hs1 HN S1
              obtain ⟨a, dk, rfl, rfl, ha, had, hsk, H⟩ := hrel
              by_cases hlt : a + 40 ≤ d0.size
              · have hltz : (a : Int) + 40 ≤ (d0.size : Int) := by omega
                have C1 : Aside0 (Calls Try.prog 74 #[.slice (some ⟨blk, off, none⟩) d0.size cap, .int .i64 (a : Int), .int .i64 ((a : Int) + 20), .int .i64 ((a : Int) + 40), .func (.func 43) #[] #[]] wr fun e w' => e = .returned (.tuple #[]) ∧ ∃ d', Done K a (a + 40) dk d' ∧ SWK (encS V) 2 w0 blk off d' w') :=
                  ⟨SY.out a (a + 20) (a + 40) dk wr (by omega) hsk H.out.2 (H.out.1.smB (by omega) ha (by omega) (by omega) (by omega) (.inl rfl))⟩
                go_wp2_with fail
                refine C1.out.mono ?_
                rintro e w1 ⟨rfl, d2, D, S2⟩
                have HN := Aside0.mk (H.out.1.mergeB D (by omega) ha (by omega) (by omega) (by omega) (.inl rfl))
                have S2 := Aside0.mk S2
                have hs2 : d2.size = d0.size := D.size.trans hsk
                clear C1 D
                go_wp2
                go_roundw
                case rel => exact ⟨a + 40, d2, by go_num, by go_num, by omega, by omega, hs2, ⟨HN.out, S2.out⟩⟩
                case measure => simp [intOf]; omega
              · have hltz : ¬ (a : Int) + 40 ≤ (d0.size : Int) := by omega
                by_cases hm : a + 20 < d0.size
                · have hmz : (a : Int) + 20 < (d0.size : Int) := by omega
                  have C1 : Aside0 (Calls Try.prog 74 #[.slice (some ⟨blk, off, none⟩) d0.size cap, .int .i64 (a : Int), .int .i64 ((a : Int) + 20), .int .i64 (d0.size : Int), .func (.func 43) #[] #[]] wr fun e w' => e = .returned (.tuple #[]) ∧ ∃ d', Done K a d0.size dk d' ∧ SWK (encS V) 2 w0 blk off d' w') :=
                    ⟨SY.out a (a + 20) d0.size dk wr (by omega) hsk H.out.2 (H.out.1.smB (by omega) ha (by omega) (by omega) (by omega) (.inr hsk.symm))⟩
                  go_wp2_with fail
                  refine C1.out.mono ?_
                  rintro e w1 ⟨rfl, d2, D, S2⟩
                  have HN := Aside0.mk (show StI K d0 d2 (blkC 0) from StI.toC' (by have := H.out.1.mergeB D (by omega) ha (by omega) (by omega) (by omega) (.inr hsk.symm); rwa [← D.size.trans hsk] at this) (by rw [D.size]; omega))
                  have S2 := Aside0.mk S2
                  have hs2 : d2.size = d0.size := D.size.trans hsk
                  clear C1 D
                  go_wp2
                  go_roundw
                  case rel => exact ⟨d2, hs2, S2, .inr (.inl ⟨rfl, HN⟩)⟩
                  case measure => simp [intOf]
                · have hmz : ¬ (a : Int) + 20 < (d0.size : Int) := by omega
                  have HN := Aside0.mk (H.out.1.toC (by omega) ha (by omega))
                  have S2 := Aside0.mk H.out.2
                  go_wp2
                  go_roundw
                  case rel => exact ⟨dk, hsk, S2, .inr (.inl ⟨rfl, HN⟩)⟩
                  case measure => simp [intOf]
          · have hbz : ¬ (20 : Int) < (d0.size : Int) := by omega
            have HD := Aside0.mk (HI.out.doneB (by omega))
            go_wp2
            go_end0
            exact ⟨rfl, dk, HD.out, SK.out⟩
        · obtain ⟨rfl, HI⟩ := h
          by_cases hb : 40 < d0.size
          · have hbz : (40 : Int) < (d0.size : Int) := by omega
            go_wp2_with fail
            go_loopw [7, 8] (fun s7 s8 wr => s7 = .int .i64 0 ∧ s8 = .int .i64 80 ∧ Aside0 (SWK (encS V) 2 w0 blk off dk wr)) (fun s7 _ _ => 0)
            case atStart => exact ⟨by go_num, by go_num, SK⟩
            case round =>
              clear SK
              obtain ⟨rfl, rfl, SK⟩ := hrel
              have hltz : ¬ (80 : Int) ≤ (d0.size : Int) := by omega
              have C1 : Aside0 (Calls Try.prog 74 #[.slice (some ⟨blk, off, none⟩) d0.size cap, .int .i64 0, .int .i64 40, .int .i64 (d0.size : Int), .func (.func 43) #[] #[]] wr fun e w' => e = .returned (.tuple #[]) ∧ ∃ d', Done K 0 dk.size dk d' ∧ SWK (encS V) 2 w0 blk off d' w') := by
                have := SY.out 0 40 d0.size dk wr (by omega) hsk SK.out (by have := HI.out.smC (by omega) (by omega); rwa [hsk] at this)
                rw [← hsk] at this ⊢
                exact ⟨this⟩
              go_wp2_with fail
              refine C1.out.mono ?_
              rintro e w1 ⟨rfl, d2, D, S2⟩
              have HN := Aside0.mk (D.st HI.out)
              have S2 := Aside0.mk S2
              have hs2 : d2.size = d0.size := D.size.trans hsk
              clear C1 D
              go_wp2
              go_roundw
              case rel => exact ⟨d2, hs2, S2, .inr (.inr ⟨rfl, HN⟩)⟩
              case measure => simp [intOf]
          · have hbz : ¬ (40 : Int) < (d0.size : Int) := by omega
            have HD := Aside0.mk (HI.out.doneC (by omega))
            go_wp2
            go_end0
            exact ⟨rfl, dk, HD.out, SK.out⟩
        · obtain ⟨rfl, HI⟩ := h
          have hbz : ¬ (80 : Int) < (d0.size : Int) := by omega
          go_wp2
          go_end0
          exact ⟨rfl, dk, HI.out, SK.out⟩
theorem sortStable_any (V : Nat → Keyv) (K : Nat → Row) (blk off cap : Nat) (d0 : Array Nat) (w0 : World) (R : RowK (encS V) 2 w0 blk off d0)
    (hC : CmpLays Try.prog 43 #[] (encS V) 2 (fun x y => rowCmp (K x) (K y)) blk off d0.size w0) (hn : d0.size < 80) (hd0 : ∀ i, i < d0.size → d0[i]! = i) :
    Calls Try.prog 42 #[.slice (some ⟨blk, off, none⟩) d0.size cap, .func (.func 43) #[] #[]] w0 fun e w' => e = .returned (.tuple #[]) ∧ ∃ d', StDone K d0 d' ∧ SWK (encS V) 2 w0 blk off d' w' := by
  have C := Aside0.mk (stable_any V K blk off cap d0 w0 R hC hn hd0)
  clear hC
  go_enter Try.func42, Try.ntmps42
  go_wp2_with fail
  refine C.out.mono ?_
  rintro e w1 ⟨rfl, d2, D, S2⟩
  have D := Aside0.mk D
  have S2 := Aside0.mk S2
  go_wp2
  go_end0
  exact ⟨rfl, d2, D.out, S2.out⟩
end Go.Proofs.Ytmgoefhihljggaa.Sg
