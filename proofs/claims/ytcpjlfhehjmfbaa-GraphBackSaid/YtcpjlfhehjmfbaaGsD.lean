/- Contract: ergolaw17.Reach: which nodes lead to which. -/
import Derived.Test.YtcpjlfhehjmfbaaGsC
import Derived.Test.YtcpjlfhehjmfbaaGrN
namespace Go.Proofs.Ytcpjlfhehjmfbaa.Gr
open Go.RowKit Go.Shelf Go.Proofs.Ytcpjlfhehjmfbaa.Sg
set_option linter.unusedVariables false
set_option linter.unusedSimpArgs false

theorem edge_mem {n : Nat} {es : List Row} {a c : Nat} (ha : a < es.length) (hc : c < n) : Edge (adj n es) a c ↔ (c : Int) ∈ es[a] := by
  have e : es.getD a [] = es[a] := by rw [List.getD_eq_getElem?_getD, List.getElem?_eq_getElem ha]; rfl
  unfold Edge adj
  rw [e, List.mem_map]
  constructor
  · rintro ⟨x, hx, h⟩
    by_cases q : 0 ≤ x ∧ x < (n : Int)
    · rw [if_pos q] at h
      have h := Option.some.inj h
      rw [← h, Int.toNat_of_nonneg q.1]
      exact hx
    · rw [if_neg q] at h; cases h
  · intro h
    exact ⟨(c : Int), h, by rw [if_pos ⟨by omega, by omega⟩]; simp⟩
/-- The first rows: edges; the last one under way. -/
structure RE (w wr : World) (es : List Row) (n b m : Nat) (bs : Nat → Nat) (M : Nat → Nat → Bool) : Prop where
  bb : BB wr w.heap.size n b m bs M
  below : Below w.heap.size w wr
def REr (es : List Row) (n i : Nat) (M : Nat → Nat → Bool) : Prop := ∀ a c, a < i → c < n → (M a c = true ↔ Edge (adj n es) a c)
def REk (es : List Row) (n i k : Nat) (M : Nat → Nat → Bool) : Prop := REr es n i M ∧ ∀ c, c < n → (M i c = true ↔ (c : Int) ∈ (es.getD i []).take k)
theorem RE.set {w wr : World} {es : List Row} {n b m : Nat} {bs : Nat → Nat} {M : Nat → Nat → Bool} (h : RE w wr es n b m bs M) {i : Nat} (hi : i < m) (j : Nat) (x : Bool) : RE w (wr.setCell ⟨bs i, j, none⟩ (.bool x)) es n b m bs (upd2 M i j x) :=
  ⟨h.bb.set hi j x, below_setCell h.below (h.bb.ge _ (.inr ⟨i, hi, rfl⟩)).1 _⟩
theorem RE.add {w wr : World} {es : List Row} {n b m : Nat} {bs : Nat → Nat} {M : Nat → Nat → Bool} (h : RE w wr es n b m bs M) (hm : m < n) (hn : n < 1000000) : RE w ((wr.alloc (Bs n)).setCell ⟨b, m, none⟩ (.slice (some ⟨wr.heap.size, 0, none⟩) n n)) es n b (m + 1) (upd bs m wr.heap.size) (upd M m (fun _ => false)) :=
  ⟨h.bb.add hm h.below.size hn, below_setCell (h.below.trans ((below_alloc0 (Below.refl _ _) _).mono h.below.size)) (h.bb.ge b (.inl rfl)).1 _⟩
theorem REk.start {es : List Row} {n i : Nat} {M : Nat → Nat → Bool} (h : REr es n i M) : REk es n i 0 (upd M i (fun _ => false)) := by
  refine ⟨fun a c ha hc => ?_, fun c hc => ?_⟩
  · rw [upd_ne _ _ _ (by omega)]; exact h a c ha hc
  · rw [upd_same]; simp
theorem REk.no {es : List Row} {n i k : Nat} {M : Nat → Nat → Bool} {t : Int} (h : REk es n i k M) (hk : k < (es.getD i []).length) (ht : (es.getD i [])[k] = t) (hn : ¬ (0 ≤ t ∧ t < (n : Int))) : REk es n i (k + 1) M := by
  refine ⟨h.1, fun c hc => ?_⟩
  rw [h.2 c hc, List.take_succ_eq_append_getElem hk, List.mem_append, List.mem_singleton, ht]
  refine ⟨.inl, fun q => q.elim id (fun e => ?_)⟩
  exact absurd ⟨by omega, by omega⟩ hn
theorem REk.yes {es : List Row} {n i k t : Nat} {M : Nat → Nat → Bool} (h : REk es n i k M) (hk : k < (es.getD i []).length) (ht : (es.getD i [])[k] = (t : Int)) : REk es n i (k + 1) (upd2 M i t true) := by
  refine ⟨fun a c ha hc => ?_, fun c hc => ?_⟩
  · rw [upd2_at, if_neg (by omega)]; exact h.1 a c ha hc
  · rw [upd2_at, List.take_succ_eq_append_getElem hk, List.mem_append, List.mem_singleton, ht]
    by_cases e : c = t
    · subst e; simp
    · rw [if_neg (fun q => e q.2), h.2 c hc]
      exact ⟨.inl, fun q => q.elim id (fun e2 => absurd (by omega) e)⟩
theorem REk.done {es : List Row} {n i k : Nat} {M : Nat → Nat → Bool} (h : REk es n i k M) (hi : i < es.length) (hk : k = (es.getD i []).length) : REr es n (i + 1) M := by
  intro a c ha hc
  by_cases e : a = i
  · subst e
    have e2 : es.getD a [] = es[a] := by rw [List.getD_eq_getElem?_getD, List.getElem?_eq_getElem hi]; rfl
    rw [h.2 c hc, hk, List.take_length, e2, edge_mem hi hc]
  · exact h.1 a c (by omega) hc
def RX (w w' : World) (n b : Nat) (A : Adj) : Prop := ∃ (bs : Nat → Nat) (M : Nat → Nat → Bool), BB w' w.heap.size n b n bs M ∧ (∀ a c, a < n → c < n → (M a c = true ↔ TC A a c)) ∧ Below w.heap.size w w'
set_option maxHeartbeats 2000000 in
set_option maxRecDepth 100000 in
theorem reach_any (w : World) (ok : Nat → Prop) (ev : Value) (es : List Row) (n : Nat) (hE : RowsAt w ok ev es) (hl : es.length = n) (hn : n < 100000) :
    Calls Try.prog 18 #[ev] w fun e w' => ∃ b : Nat, e = .returned (.slice (some ⟨b, 0, none⟩) n n) ∧ RX w w' n b (adj n es) := by
  have mixed : Try.prog.follows .mixedOrders = true := by kernel_rfl
  obtain ⟨Ae, ce, hev, he1, he2, he3⟩ := hE.form
  rw [hl] at hev he1 he2
  subst hev
  have HE := Aside0.mk hE
  have HL := Aside0.mk hl
  clear hE hl
  have hmkR := make_rows n (by omega)
  go_enter Try.func18, Try.ntmps18
  go_wp2_with fail
  have R0 : Aside0 (RE w (w.alloc (Rs n)) es n w.heap.size 0 (fun _ => 0) (fun _ _ => false)) := ⟨⟨BB.new w w.heap.size n _ (Nat.le_refl _) (by omega), below_alloc0 (Below.refl _ _) _⟩⟩
  clear hmkR
  obtain ⟨b, hb⟩ : ∃ b, w.heap.size = b := ⟨_, rfl⟩
  have HB := Aside0.mk hb
  rw [hb] at R0 ⊢
  generalize w.alloc (Rs n) = w1 at R0 ⊢
  clear hb
  go_loopw [17] (fun s17 wq => ∃ (i : Nat) (bs : Nat → Nat) (M : Nat → Nat → Bool), s17 = .int .i64 i ∧ i ≤ n ∧ Aside0 (RE w wq es n b i bs M) ∧ Aside0 (REr es n i M)) (fun s17 _ => n - (intOf s17).toNat)
  case atStart => exact ⟨0, _, _, rfl, Nat.zero_le _, R0, ⟨fun a c ha hc => by omega⟩⟩
  case round =>
    clear R0
    obtain ⟨i, bs, M, rfl, hi, HR, HM⟩ := hrel
    by_cases hlt : i < n
    · have hlti : (i : Int) < (n : Int) := by omega
      have ti : ((i : Nat) : Int).toNat = i := by omega
      have hmkB := make_bools n (by omega)
      have HIL := Aside0.mk (show i < es.length by rw [HL.out]; exact hlt)
      obtain ⟨b1, o1, u1, rfl, -, -, hc1, hr1⟩ := HE.out.at_ i HIL.out
      obtain ⟨A2, c2, rfl, hm1, hm2, hm3⟩ := hr1.form
      obtain ⟨ml, hml⟩ : ∃ ml, (es[i]'HIL.out).length = ml := ⟨_, rfl⟩
      rw [hml] at hc1 hm1 hm2
      have HML := Aside0.mk hml
      have HR1 := Aside0.mk hr1
      have HGD := Aside0.mk (show es.getD i [] = es[i]'HIL.out by rw [List.getD_eq_getElem?_getD, List.getElem?_eq_getElem HIL.out]; rfl)
      have hzb := HR.out.bb.below (below_alloc0 (Below.refl _ _) (Bs n))
      have hzf := hzb.outer.frozenAt i
      have hzc : (wr.alloc (Bs n)).cell? ⟨b, i, none⟩ = some (.slice none 0 0) := by
        rw [hzb.outer.cellAt i (by omega), valsOf_get _ hlt]
        unfold rowsV
        rw [if_neg (Nat.lt_irrefl _)]
      have R1 := Aside0.mk (HR.out.add hlt (by omega))
      have K1 := Aside0.mk (REk.start HM.out)
      have hc1' := below_cell0 R1.out.below hc1
      clear hzb hml hr1 hc1 HR HM
      obtain ⟨bs1, hbs1⟩ : ∃ bs1, upd bs i wr.heap.size = bs1 := ⟨_, rfl⟩
      obtain ⟨g1, hg1⟩ : ∃ g1, bs1 i = g1 := ⟨_, rfl⟩
      have hg2 : wr.heap.size = g1 := by rw [← hg1, ← hbs1, upd_same]
      rw [hbs1, hg2] at R1
      rw [hg2] at hc1'
      go_wp2_with fail
      clear hzf hzc hmkB hg2
      generalize (wr.alloc (Bs n)).setCell ⟨b, i, none⟩ (.slice (some ⟨g1, 0, none⟩) n n) = w2 at R1 hc1' ⊢
      have HG1 := Aside0.mk hg1
      clear hg1 hbs1 hc1'
      go_loopw [30] (fun s30 wq => ∃ (k : Nat) (M : Nat → Nat → Bool), s30 = .int .i64 k ∧ k ≤ ml ∧ Aside0 (RE w wq es n b (i + 1) bs1 M) ∧ Aside0 (REk es n i k M)) (fun s30 _ => ml - (intOf s30).toNat)
      case atStart => exact ⟨0, _, rfl, Nat.zero_le _, R1, K1⟩
      case round =>
        clear R1 K1
        obtain ⟨k, M, rfl, hk, HR, HK⟩ := hrel
        by_cases hkl : k < ml
        · have hkli : (k : Int) < (ml : Int) := by omega
          have tk : ((k : Nat) : Int).toNat = k := by omega
          have HKR := Aside0.mk (show k < (es[i]'HIL.out).length by rw [HML.out]; exact hkl)
          obtain ⟨b2, o2, u2, rfl, -, -, hc2, hv2, -⟩ := HR1.out.at_ k HKR.out
          subst hv2
          obtain ⟨t, ht⟩ : ∃ t, ((es[i]'HIL.out)[k]'HKR.out) = t := ⟨_, rfl⟩
          rw [ht] at hc2
          have HKD := Aside0.mk (show k < (es.getD i []).length by rw [HGD.out]; exact HKR.out)
          have HTD := Aside0.mk (show (es.getD i [])[k]'HKD.out = t by
            rw [← ht]
            exact List.getElem_of_eq HGD.out _)
          have hc2' := below_cell0 HR.out.below hc2
          clear hc2 ht
          by_cases ha : 0 ≤ t ∧ t < (n : Int)
          · obtain ⟨tn, rfl⟩ : ∃ tn : Nat, t = (tn : Int) := ⟨t.toNat, by omega⟩
            have htn : tn < n := by omega
            have htni : (tn : Int) < (n : Int) := by omega
            have htn0 : (0 : Int) ≤ (tn : Int) := by omega
            have ttn : ((tn : Nat) : Int).toNat = tn := by omega
            obtain ⟨hrow, -⟩ := HR.out.bb.row (i := i) (by omega) (by omega)
            obtain ⟨hcl, hcf⟩ := HR.out.bb.cell (i := i) (j := tn) (by omega) htn
            have R2 := Aside0.mk (HR.out.set (i := i) (by omega) tn true)
            have K2 := Aside0.mk (HK.out.yes HKD.out HTD.out)
            rw [HG1.out] at hrow hcl hcf R2
            clear HR HK
            go_wp2
            go_roundw
            case rel => exact ⟨k + 1, _, by go_num, by omega, R2, K2⟩
            case measure => simp [intOf]; omega
          · have K2 := Aside0.mk (HK.out.no HKD.out HTD.out ha)
            clear HK
            by_cases h0 : 0 ≤ t
            · have h1 : ¬ t < (n : Int) := by omega
              have h3 : decide (0 ≤ t) = true := decide_eq_true h0
              have h4 : decide (t < (n : Int)) = false := decide_eq_false h1
              clear ha
              go_wp2
              go_roundw
              case rel => exact ⟨k + 1, M, by go_num, by omega, HR, K2⟩
              case measure => simp [intOf]; omega
            · have h2 : t < 0 := by omega
              have h3 : decide (0 ≤ t) = false := decide_eq_false h0
              have h4 : decide (t ≥ 0) = false := decide_eq_false h0
              clear ha
              go_wp2
              go_roundw
              case rel => exact ⟨k + 1, M, by go_num, by omega, HR, K2⟩
              case measure => simp [intOf]; omega
        · obtain rfl : ml = k := by omega
          have hkli : ¬ (ml : Int) < (ml : Int) := by omega
          have K2 := Aside0.mk (HK.out.done HIL.out (by rw [HGD.out]; exact HML.out.symm))
          clear HK
          go_wp2
          go_roundw
          case rel => exact ⟨i + 1, bs1, M, by go_num, by omega, HR, K2⟩
          case measure => simp [intOf]; omega
    · obtain rfl : n = i := by omega
      have hlti : ¬ (n : Int) < (n : Int) := by omega
      have W0 := Aside0.mk (WI.start (A := adj n es) (n := n) (M := M) HM.out)
      clear HM
      go_wp2_with fail
      go_loopw [8] (fun s8 wq => ∃ (k : Nat) (M : Nat → Nat → Bool), s8 = .int .i64 k ∧ k ≤ n ∧ Aside0 (RE w wq es n b n bs M) ∧ Aside0 (WI (adj n es) n k 0 0 M)) (fun s8 _ => n - (intOf s8).toNat)
      case atStart => exact ⟨0, M, rfl, Nat.zero_le _, HR, W0⟩
      case round =>
        clear HR W0
        obtain ⟨k, M, rfl, hk, HR, HW⟩ := hrel
        by_cases hkn : k < n
        · have hkni : (k : Int) < (n : Int) := by omega
          have tk : ((k : Nat) : Int).toNat = k := by omega
          go_wp2_with fail
          go_loopw [9] (fun s9 wq => ∃ (i : Nat) (M : Nat → Nat → Bool), s9 = .int .i64 i ∧ i ≤ n ∧ Aside0 (RE w wq es n b n bs M) ∧ Aside0 (WI (adj n es) n k i 0 M)) (fun s9 _ => n - (intOf s9).toNat)
          case atStart => exact ⟨0, M, rfl, Nat.zero_le _, HR, HW⟩
          case round =>
            clear HR HW
            obtain ⟨i, M, rfl, hi, HR, HW⟩ := hrel
            by_cases hin : i < n
            · have hini : (i : Int) < (n : Int) := by omega
              have ti : ((i : Nat) : Int).toNat = i := by omega
              go_wp2_with fail
              go_loopw [10] (fun s10 wq => ∃ (j : Nat) (M : Nat → Nat → Bool), s10 = .int .i64 j ∧ j ≤ n ∧ Aside0 (RE w wq es n b n bs M) ∧ Aside0 (WI (adj n es) n k i j M)) (fun s10 _ => n - (intOf s10).toNat)
              case atStart => exact ⟨0, M, rfl, Nat.zero_le _, HR, HW⟩
              case round =>
                clear HR HW
                obtain ⟨j, M, rfl, hj, HR, HW⟩ := hrel
                by_cases hjn : j < n
                · have hjni : (j : Int) < (n : Int) := by omega
                  have tj : ((j : Nat) : Int).toNat = j := by omega
                  have W2 := Aside0.mk (HW.out.step hkn hin hjn)
                  go_wp2_with fail
                  have HR5 := Aside0.mk (show RE w wr.drew es n b n bs M from ⟨HR.out.bb.below (below_drew (Below.refl _ _)), below_drew HR.out.below⟩)
                  clear HR HW
                  obtain ⟨hri, -⟩ := HR5.out.bb.row hin (Nat.le_refl _)
                  obtain ⟨hrk, -⟩ := HR5.out.bb.row hkn (Nat.le_refl _)
                  obtain ⟨hij, hzf⟩ := HR5.out.bb.cell hin hjn
                  obtain ⟨hik, -⟩ := HR5.out.bb.cell hin hkn
                  obtain ⟨hkj, -⟩ := HR5.out.bb.cell hkn hjn
                  have R2 := HR5.out.set hin j (warsh M k i j)
                  obtain ⟨ari, -⟩ := R2.bb.row hin (Nat.le_refl _)
                  obtain ⟨ark, -⟩ := R2.bb.row hkn (Nat.le_refl _)
                  obtain ⟨aik, -⟩ := R2.bb.cell hin hkn
                  obtain ⟨akj, -⟩ := R2.bb.cell hkn hjn
                  rw [warsh_ik] at aik
                  rw [warsh_kj] at akj
                  refine wp_region_held_drew mixed (S := fun w' => w'.cell? ⟨b, i, none⟩ = some (.slice (some ⟨bs i, 0, none⟩) n n) ∧ w'.cell? ⟨b, k, none⟩ = some (.slice (some ⟨bs k, 0, none⟩) n n) ∧ w'.cell? ⟨bs i, k, none⟩ = some (.bool (M i k)) ∧ w'.cell? ⟨bs k, j, none⟩ = some (.bool (M k j))) (by exact ⟨hri, hrk, hik, hkj⟩) (fun hHeld => ?_)
                  have HR2 := Aside0.mk R2
                  have AFT := Aside0.mk (And.intro ari (And.intro ark (And.intro aik akj)))
                  clear HR5 R2 hri hrk hik hkj ari ark aik akj
                  generalize wr.drew = w5 at HR2 AFT hHeld hij hzf ⊢
                  have HWV := Aside0.mk (show warsh M k i j = (M i j || (M i k && M k j)) from rfl)
                  generalize warsh M k i j = v at HR2 AFT HWV W2
                  generalize M i j = x at hij HWV
                  generalize hy : M i k = y at hHeld AFT HWV ⊢
                  generalize hz : M k j = z at hHeld AFT HWV ⊢
                  clear hy hz
                  cases x with
                  | true =>
                    obtain rfl : v = true := HWV.out
                    refine takeH (i := 0) (v := ?_) rfl rfl (by kernel_rfl) (by kernel_rfl) (by kernel_rfl) (fun _ _ _ h => h) (by rfl) ?_ hHeld ?_
                    rotate_left
                    · (intro w hSw); (try dsimp only at hSw); go_simp; try with_reducible rfl
                    try simp only [List.setIfInBounds_toArray, List.set_cons_zero, List.set_cons_succ]
                    refine takeH (i := 1) (v := ?_) rfl rfl (by kernel_rfl) (by kernel_rfl) (by kernel_rfl) (fun _ _ _ h => h) (by rfl) ?_ hHeld ?_
                    rotate_left
                    · (intro w hSw); (try dsimp only at hSw); go_simp; try with_reducible rfl
                    try simp only [List.setIfInBounds_toArray, List.set_cons_zero, List.set_cons_succ]
                    refine takeH (i := 2) (v := ?_) rfl rfl (by kernel_rfl) (by kernel_rfl) (by kernel_rfl) (fun _ _ _ h => h) (by rfl) ?_ hHeld ?_
                    rotate_left
                    · (intro w hSw); (try dsimp only at hSw); go_simp; try with_reducible rfl
                    try simp only [List.setIfInBounds_toArray, List.set_cons_zero, List.set_cons_succ]
                    refine takeH (i := 3) (v := ?_) rfl rfl (by kernel_rfl) (by kernel_rfl) (by kernel_rfl) (fun _ _ _ h => h) (by rfl) ?_ hHeld ?_
                    rotate_left
                    · (intro w hSw); (try dsimp only at hSw); go_simp; try with_reducible rfl
                    try simp only [List.setIfInBounds_toArray, List.set_cons_zero, List.set_cons_succ]
                    refine takeH (i := 4) (v := ?_) rfl rfl (by kernel_rfl) (by kernel_rfl) (by kernel_rfl) (fun _ _ _ h => h) (by rfl) ?_ hHeld ?_
                    rotate_left
                    · (intro w hSw); (try dsimp only at hSw); go_simp; try with_reducible rfl
                    try simp only [List.setIfInBounds_toArray, List.set_cons_zero, List.set_cons_succ]
                    refine takeH (i := 5) (v := ?_) rfl rfl (by kernel_rfl) (by kernel_rfl) (by kernel_rfl) (fun _ _ _ h => h) (by rfl) ?_ hHeld ?_
                    rotate_left
                    · (intro w hSw); (try dsimp only at hSw); go_simp; try with_reducible rfl
                    try simp only [List.setIfInBounds_toArray, List.set_cons_zero, List.set_cons_succ]
                    refine takeH (i := 6) (v := ?_) rfl rfl (by kernel_rfl) (by kernel_rfl) (by kernel_rfl) (fun _ _ _ h => h) (by rfl) ?_ hHeld ?_
                    rotate_left
                    · (intro w hSw); (try dsimp only at hSw); go_simp; try with_reducible rfl
                    try simp only [List.setIfInBounds_toArray, List.set_cons_zero, List.set_cons_succ]
                    refine takeH (i := 7) (v := ?_) rfl rfl (by kernel_rfl) (by kernel_rfl) (by kernel_rfl) (fun _ _ _ h => h) (by rfl) ?_ hHeld ?_
                    rotate_left
                    · (intro w hSw); (try dsimp only at hSw); go_simp; try with_reducible rfl
                    try simp only [List.setIfInBounds_toArray, List.set_cons_zero, List.set_cons_succ]
                    refine takeH (i := 8) (v := ?_) rfl rfl (by kernel_rfl) (by kernel_rfl) (by kernel_rfl) (fun _ _ _ h => h) (by rfl) ?_ hHeld ?_
                    rotate_left
                    · (intro w hSw); (try dsimp only at hSw); go_simp; try with_reducible rfl
                    try simp only [List.setIfInBounds_toArray, List.set_cons_zero, List.set_cons_succ]
                    refine takeH (i := 9) (v := ?_) rfl rfl (by kernel_rfl) (by kernel_rfl) (by kernel_rfl) (fun _ _ _ h => h) (by rfl) ?_ hHeld ?_
                    rotate_left
                    · (intro w hSw); (try dsimp only at hSw); go_simp; try with_reducible rfl
                    try simp only [List.setIfInBounds_toArray, List.set_cons_zero, List.set_cons_succ]
                    refine takeH (i := 10) (v := ?_) rfl rfl (by kernel_rfl) (by kernel_rfl) (by kernel_rfl) (fun _ _ _ h => h) (by rfl) ?_ hHeld ?_
                    rotate_left
                    · (intro w hSw); (try dsimp only at hSw); go_simp; try with_reducible rfl
                    try simp only [List.setIfInBounds_toArray, List.set_cons_zero, List.set_cons_succ]
                    refine comeH (i := 11) rfl (by kernel_rfl) (by rfl) (fun KK hKK => ?_)
                    go_simp
                    refine hKK.out _ _ (by exact hHeld) (fun hHeld => ?_)
                    clear hKK KK
                    try simp only [Act.put, List.setIfInBounds_toArray, List.set_cons_zero, List.set_cons_succ]
                    refine takeH (i := 12) (v := ?_) rfl rfl (by kernel_rfl) (by kernel_rfl) (by kernel_rfl) (fun _ _ _ h => h) (by rfl) ?_ hHeld ?_
                    rotate_left
                    · (intro w hSw); (try dsimp only at hSw); go_simp; try with_reducible rfl
                    try simp only [List.setIfInBounds_toArray, List.set_cons_zero, List.set_cons_succ]
                    refine skipH (i := 13) rfl rfl (by kernel_rfl) (by kernel_rfl) (by kernel_rfl) (fun _ _ _ h => h) (by rfl) hHeld ?_
                    try simp only [List.setIfInBounds_toArray, List.set_cons_zero, List.set_cons_succ]
                    refine skipH (i := 14) rfl rfl (by kernel_rfl) (by kernel_rfl) (by kernel_rfl) (fun _ _ _ h => h) (by rfl) hHeld ?_
                    try simp only [List.setIfInBounds_toArray, List.set_cons_zero, List.set_cons_succ]
                    refine skipH (i := 15) rfl rfl (by kernel_rfl) (by kernel_rfl) (by kernel_rfl) (fun _ _ _ h => h) (by rfl) hHeld ?_
                    try simp only [List.setIfInBounds_toArray, List.set_cons_zero, List.set_cons_succ]
                    refine skipH (i := 16) rfl rfl (by kernel_rfl) (by kernel_rfl) (by kernel_rfl) (fun _ _ _ h => h) (by rfl) hHeld ?_
                    try simp only [List.setIfInBounds_toArray, List.set_cons_zero, List.set_cons_succ]
                    refine skipH (i := 17) rfl rfl (by kernel_rfl) (by kernel_rfl) (by kernel_rfl) (fun _ _ _ h => h) (by rfl) hHeld ?_
                    try simp only [List.setIfInBounds_toArray, List.set_cons_zero, List.set_cons_succ]
                    refine skipH (i := 18) rfl rfl (by kernel_rfl) (by kernel_rfl) (by kernel_rfl) (fun _ _ _ h => h) (by rfl) hHeld ?_
                    try simp only [List.setIfInBounds_toArray, List.set_cons_zero, List.set_cons_succ]
                    refine skipH (i := 19) rfl rfl (by kernel_rfl) (by kernel_rfl) (by kernel_rfl) (fun _ _ _ h => h) (by rfl) hHeld ?_
                    try simp only [List.setIfInBounds_toArray, List.set_cons_zero, List.set_cons_succ]
                    refine skipH (i := 20) rfl rfl (by kernel_rfl) (by kernel_rfl) (by kernel_rfl) (fun _ _ _ h => h) (by rfl) hHeld ?_
                    try simp only [List.setIfInBounds_toArray, List.set_cons_zero, List.set_cons_succ]
                    refine skipH (i := 21) rfl rfl (by kernel_rfl) (by kernel_rfl) (by kernel_rfl) (fun _ _ _ h => h) (by rfl) hHeld ?_
                    try simp only [List.setIfInBounds_toArray, List.set_cons_zero, List.set_cons_succ]
                    refine skipH (i := 22) rfl rfl (by kernel_rfl) (by kernel_rfl) (by kernel_rfl) (fun _ _ _ h => h) (by rfl) hHeld ?_
                    try simp only [List.setIfInBounds_toArray, List.set_cons_zero, List.set_cons_succ]
                    refine skipH (i := 23) rfl rfl (by kernel_rfl) (by kernel_rfl) (by kernel_rfl) (fun _ _ _ h => h) (by rfl) hHeld ?_
                    try simp only [List.setIfInBounds_toArray, List.set_cons_zero, List.set_cons_succ]
                    refine skipH (i := 24) rfl rfl (by kernel_rfl) (by kernel_rfl) (by kernel_rfl) (fun _ _ _ h => h) (by rfl) hHeld ?_
                    try simp only [List.setIfInBounds_toArray, List.set_cons_zero, List.set_cons_succ]
                    refine skipH (i := 25) rfl rfl (by kernel_rfl) (by kernel_rfl) (by kernel_rfl) (fun _ _ _ h => h) (by rfl) hHeld ?_
                    try simp only [List.setIfInBounds_toArray, List.set_cons_zero, List.set_cons_succ]
                    refine skipH (i := 26) rfl rfl (by kernel_rfl) (by kernel_rfl) (by kernel_rfl) (fun _ _ _ h => h) (by rfl) hHeld ?_
                    try simp only [List.setIfInBounds_toArray, List.set_cons_zero, List.set_cons_succ]
                    refine skipH (i := 27) rfl rfl (by kernel_rfl) (by kernel_rfl) (by kernel_rfl) (fun _ _ _ h => h) (by rfl) hHeld ?_
                    try simp only [List.setIfInBounds_toArray, List.set_cons_zero, List.set_cons_succ]
                    refine skipH (i := 28) rfl rfl (by kernel_rfl) (by kernel_rfl) (by kernel_rfl) (fun _ _ _ h => h) (by rfl) hHeld ?_
                    try simp only [List.setIfInBounds_toArray, List.set_cons_zero, List.set_cons_succ]
                    refine takeH (i := 29) (v := ?_) rfl rfl (by kernel_rfl) (by kernel_rfl) (by kernel_rfl) (fun _ _ _ h => h) (by rfl) ?_ hHeld ?_
                    rotate_left
                    · (intro w hSw); (try dsimp only at hSw); go_simp; try with_reducible rfl
                    try simp only [List.setIfInBounds_toArray, List.set_cons_zero, List.set_cons_succ]
                    refine takeH (i := 30) (v := ?_) rfl rfl (by kernel_rfl) (by kernel_rfl) (by kernel_rfl) (fun _ _ _ h => h) (by rfl) ?_ hHeld ?_
                    rotate_left
                    · (intro w hSw); (try dsimp only at hSw); go_simp; try with_reducible rfl
                    try simp only [List.setIfInBounds_toArray, List.set_cons_zero, List.set_cons_succ]
                    refine comeH (i := 31) rfl (by kernel_rfl) (by rfl) (fun KK hKK => ?_)
                    go_simp
                    refine hKK.out _ _ (by exact AFT.out) (fun hHeld => ?_)
                    clear hKK KK
                    try simp only [Act.put, List.setIfInBounds_toArray, List.set_cons_zero, List.set_cons_succ]
                    refine wpAnyH_done (by kernel_rfl) ?_ _
                    clear AFT hHeld hij hzf HWV
                    generalize w5.setCell ⟨bs i, j, none⟩ (.bool true) = w6 at HR2 ⊢
                    go_wp2
                    go_roundw
                    case rel => exact ⟨j + 1, _, by go_num, by omega, HR2, W2⟩
                    case measure => simp [intOf]; omega
                  | false =>
                    cases y with
                    | false =>
                      obtain rfl : v = false := HWV.out
                      refine takeH (i := 0) (v := ?_) rfl rfl (by kernel_rfl) (by kernel_rfl) (by kernel_rfl) (fun _ _ _ h => h) (by rfl) ?_ hHeld ?_
                      rotate_left
                      · (intro w hSw); (try dsimp only at hSw); go_simp; try with_reducible rfl
                      try simp only [List.setIfInBounds_toArray, List.set_cons_zero, List.set_cons_succ]
                      refine takeH (i := 1) (v := ?_) rfl rfl (by kernel_rfl) (by kernel_rfl) (by kernel_rfl) (fun _ _ _ h => h) (by rfl) ?_ hHeld ?_
                      rotate_left
                      · (intro w hSw); (try dsimp only at hSw); go_simp; try with_reducible rfl
                      try simp only [List.setIfInBounds_toArray, List.set_cons_zero, List.set_cons_succ]
                      refine takeH (i := 2) (v := ?_) rfl rfl (by kernel_rfl) (by kernel_rfl) (by kernel_rfl) (fun _ _ _ h => h) (by rfl) ?_ hHeld ?_
                      rotate_left
                      · (intro w hSw); (try dsimp only at hSw); go_simp; try with_reducible rfl
                      try simp only [List.setIfInBounds_toArray, List.set_cons_zero, List.set_cons_succ]
                      refine takeH (i := 3) (v := ?_) rfl rfl (by kernel_rfl) (by kernel_rfl) (by kernel_rfl) (fun _ _ _ h => h) (by rfl) ?_ hHeld ?_
                      rotate_left
                      · (intro w hSw); (try dsimp only at hSw); go_simp; try with_reducible rfl
                      try simp only [List.setIfInBounds_toArray, List.set_cons_zero, List.set_cons_succ]
                      refine takeH (i := 4) (v := ?_) rfl rfl (by kernel_rfl) (by kernel_rfl) (by kernel_rfl) (fun _ _ _ h => h) (by rfl) ?_ hHeld ?_
                      rotate_left
                      · (intro w hSw); (try dsimp only at hSw); go_simp; try with_reducible rfl
                      try simp only [List.setIfInBounds_toArray, List.set_cons_zero, List.set_cons_succ]
                      refine takeH (i := 5) (v := ?_) rfl rfl (by kernel_rfl) (by kernel_rfl) (by kernel_rfl) (fun _ _ _ h => h) (by rfl) ?_ hHeld ?_
                      rotate_left
                      · (intro w hSw); (try dsimp only at hSw); go_simp; try with_reducible rfl
                      try simp only [List.setIfInBounds_toArray, List.set_cons_zero, List.set_cons_succ]
                      refine takeH (i := 6) (v := ?_) rfl rfl (by kernel_rfl) (by kernel_rfl) (by kernel_rfl) (fun _ _ _ h => h) (by rfl) ?_ hHeld ?_
                      rotate_left
                      · (intro w hSw); (try dsimp only at hSw); go_simp; try with_reducible rfl
                      try simp only [List.setIfInBounds_toArray, List.set_cons_zero, List.set_cons_succ]
                      refine takeH (i := 7) (v := ?_) rfl rfl (by kernel_rfl) (by kernel_rfl) (by kernel_rfl) (fun _ _ _ h => h) (by rfl) ?_ hHeld ?_
                      rotate_left
                      · (intro w hSw); (try dsimp only at hSw); go_simp; try with_reducible rfl
                      try simp only [List.setIfInBounds_toArray, List.set_cons_zero, List.set_cons_succ]
                      refine takeH (i := 8) (v := ?_) rfl rfl (by kernel_rfl) (by kernel_rfl) (by kernel_rfl) (fun _ _ _ h => h) (by rfl) ?_ hHeld ?_
                      rotate_left
                      · (intro w hSw); (try dsimp only at hSw); go_simp; try with_reducible rfl
                      try simp only [List.setIfInBounds_toArray, List.set_cons_zero, List.set_cons_succ]
                      refine takeH (i := 9) (v := ?_) rfl rfl (by kernel_rfl) (by kernel_rfl) (by kernel_rfl) (fun _ _ _ h => h) (by rfl) ?_ hHeld ?_
                      rotate_left
                      · (intro w hSw); (try dsimp only at hSw); go_simp; try with_reducible rfl
                      try simp only [List.setIfInBounds_toArray, List.set_cons_zero, List.set_cons_succ]
                      refine takeH (i := 10) (v := ?_) rfl rfl (by kernel_rfl) (by kernel_rfl) (by kernel_rfl) (fun _ _ _ h => h) (by rfl) ?_ hHeld ?_
                      rotate_left
                      · (intro w hSw); (try dsimp only at hSw); go_simp; try with_reducible rfl
                      try simp only [List.setIfInBounds_toArray, List.set_cons_zero, List.set_cons_succ]
                      refine comeH (i := 11) rfl (by kernel_rfl) (by rfl) (fun KK hKK => ?_)
                      go_simp
                      refine hKK.out _ _ (by exact hHeld) (fun hHeld => ?_)
                      clear hKK KK
                      try simp only [Act.put, List.setIfInBounds_toArray, List.set_cons_zero, List.set_cons_succ]
                      refine takeH (i := 12) (v := ?_) rfl rfl (by kernel_rfl) (by kernel_rfl) (by kernel_rfl) (fun _ _ _ h => h) (by rfl) ?_ hHeld ?_
                      rotate_left
                      · (intro w hSw); (try dsimp only at hSw); go_simp; try with_reducible rfl
                      try simp only [List.setIfInBounds_toArray, List.set_cons_zero, List.set_cons_succ]
                      refine takeH (i := 13) (v := ?_) rfl rfl (by kernel_rfl) (by kernel_rfl) (by kernel_rfl) (fun _ _ _ h => h) (by rfl) ?_ hHeld ?_
                      rotate_left
                      · (intro w hSw); (try dsimp only at hSw); go_simp; try with_reducible rfl
                      try simp only [List.setIfInBounds_toArray, List.set_cons_zero, List.set_cons_succ]
                      refine takeH (i := 14) (v := ?_) rfl rfl (by kernel_rfl) (by kernel_rfl) (by kernel_rfl) (fun _ _ _ h => h) (by rfl) ?_ hHeld ?_
                      rotate_left
                      · (intro w hSw); (try dsimp only at hSw); go_simp; try with_reducible rfl
                      try simp only [List.setIfInBounds_toArray, List.set_cons_zero, List.set_cons_succ]
                      refine takeH (i := 15) (v := ?_) rfl rfl (by kernel_rfl) (by kernel_rfl) (by kernel_rfl) (fun _ _ _ h => h) (by rfl) ?_ hHeld ?_
                      rotate_left
                      · (intro w hSw); (try dsimp only at hSw); go_simp; try with_reducible rfl
                      try simp only [List.setIfInBounds_toArray, List.set_cons_zero, List.set_cons_succ]
                      refine takeH (i := 16) (v := ?_) rfl rfl (by kernel_rfl) (by kernel_rfl) (by kernel_rfl) (fun _ _ _ h => h) (by rfl) ?_ hHeld ?_
                      rotate_left
                      · (intro w hSw); (try dsimp only at hSw); go_simp; try with_reducible rfl
                      try simp only [List.setIfInBounds_toArray, List.set_cons_zero, List.set_cons_succ]
                      refine takeH (i := 17) (v := ?_) rfl rfl (by kernel_rfl) (by kernel_rfl) (by kernel_rfl) (fun _ _ _ h => h) (by rfl) ?_ hHeld ?_
                      rotate_left
                      · (intro w hSw); (try dsimp only at hSw); go_simp; try with_reducible rfl
                      try simp only [List.setIfInBounds_toArray, List.set_cons_zero, List.set_cons_succ]
                      refine takeH (i := 18) (v := ?_) rfl rfl (by kernel_rfl) (by kernel_rfl) (by kernel_rfl) (fun _ _ _ h => h) (by rfl) ?_ hHeld ?_
                      rotate_left
                      · (intro w hSw); (try dsimp only at hSw); go_simp; try with_reducible rfl
                      try simp only [List.setIfInBounds_toArray, List.set_cons_zero, List.set_cons_succ]
                      refine takeH (i := 19) (v := ?_) rfl rfl (by kernel_rfl) (by kernel_rfl) (by kernel_rfl) (fun _ _ _ h => h) (by rfl) ?_ hHeld ?_
                      rotate_left
                      · (intro w hSw); (try dsimp only at hSw); go_simp; try with_reducible rfl
                      try simp only [List.setIfInBounds_toArray, List.set_cons_zero, List.set_cons_succ]
                      refine takeH (i := 20) (v := ?_) rfl rfl (by kernel_rfl) (by kernel_rfl) (by kernel_rfl) (fun _ _ _ h => h) (by rfl) ?_ hHeld ?_
                      rotate_left
                      · (intro w hSw); (try dsimp only at hSw); go_simp; try with_reducible rfl
                      try simp only [List.setIfInBounds_toArray, List.set_cons_zero, List.set_cons_succ]
                      refine skipH (i := 21) rfl rfl (by kernel_rfl) (by kernel_rfl) (by kernel_rfl) (fun _ _ _ h => h) (by rfl) hHeld ?_
                      try simp only [List.setIfInBounds_toArray, List.set_cons_zero, List.set_cons_succ]
                      refine skipH (i := 22) rfl rfl (by kernel_rfl) (by kernel_rfl) (by kernel_rfl) (fun _ _ _ h => h) (by rfl) hHeld ?_
                      try simp only [List.setIfInBounds_toArray, List.set_cons_zero, List.set_cons_succ]
                      refine skipH (i := 23) rfl rfl (by kernel_rfl) (by kernel_rfl) (by kernel_rfl) (fun _ _ _ h => h) (by rfl) hHeld ?_
                      try simp only [List.setIfInBounds_toArray, List.set_cons_zero, List.set_cons_succ]
                      refine skipH (i := 24) rfl rfl (by kernel_rfl) (by kernel_rfl) (by kernel_rfl) (fun _ _ _ h => h) (by rfl) hHeld ?_
                      try simp only [List.setIfInBounds_toArray, List.set_cons_zero, List.set_cons_succ]
                      refine skipH (i := 25) rfl rfl (by kernel_rfl) (by kernel_rfl) (by kernel_rfl) (fun _ _ _ h => h) (by rfl) hHeld ?_
                      try simp only [List.setIfInBounds_toArray, List.set_cons_zero, List.set_cons_succ]
                      refine skipH (i := 26) rfl rfl (by kernel_rfl) (by kernel_rfl) (by kernel_rfl) (fun _ _ _ h => h) (by rfl) hHeld ?_
                      try simp only [List.setIfInBounds_toArray, List.set_cons_zero, List.set_cons_succ]
                      refine skipH (i := 27) rfl rfl (by kernel_rfl) (by kernel_rfl) (by kernel_rfl) (fun _ _ _ h => h) (by rfl) hHeld ?_
                      try simp only [List.setIfInBounds_toArray, List.set_cons_zero, List.set_cons_succ]
                      refine takeH (i := 28) (v := ?_) rfl rfl (by kernel_rfl) (by kernel_rfl) (by kernel_rfl) (fun _ _ _ h => h) (by rfl) ?_ hHeld ?_
                      rotate_left
                      · (intro w hSw); (try dsimp only at hSw); go_simp; try with_reducible rfl
                      try simp only [List.setIfInBounds_toArray, List.set_cons_zero, List.set_cons_succ]
                      refine takeH (i := 29) (v := ?_) rfl rfl (by kernel_rfl) (by kernel_rfl) (by kernel_rfl) (fun _ _ _ h => h) (by rfl) ?_ hHeld ?_
                      rotate_left
                      · (intro w hSw); (try dsimp only at hSw); go_simp; try with_reducible rfl
                      try simp only [List.setIfInBounds_toArray, List.set_cons_zero, List.set_cons_succ]
                      refine takeH (i := 30) (v := ?_) rfl rfl (by kernel_rfl) (by kernel_rfl) (by kernel_rfl) (fun _ _ _ h => h) (by rfl) ?_ hHeld ?_
                      rotate_left
                      · (intro w hSw); (try dsimp only at hSw); go_simp; try with_reducible rfl
                      try simp only [List.setIfInBounds_toArray, List.set_cons_zero, List.set_cons_succ]
                      refine comeH (i := 31) rfl (by kernel_rfl) (by rfl) (fun KK hKK => ?_)
                      go_simp
                      refine hKK.out _ _ (by exact AFT.out) (fun hHeld => ?_)
                      clear hKK KK
                      try simp only [Act.put, List.setIfInBounds_toArray, List.set_cons_zero, List.set_cons_succ]
                      refine wpAnyH_done (by kernel_rfl) ?_ _
                      clear AFT hHeld hij hzf HWV
                      generalize w5.setCell ⟨bs i, j, none⟩ (.bool false) = w6 at HR2 ⊢
                      go_wp2
                      go_roundw
                      case rel => exact ⟨j + 1, _, by go_num, by omega, HR2, W2⟩
                      case measure => simp [intOf]; omega
                    | true =>
                      obtain rfl : v = z := HWV.out
                      refine takeH (i := 0) (v := ?_) rfl rfl (by kernel_rfl) (by kernel_rfl) (by kernel_rfl) (fun _ _ _ h => h) (by rfl) ?_ hHeld ?_
                      rotate_left
                      · (intro w hSw); (try dsimp only at hSw); go_simp; try with_reducible rfl
                      try simp only [List.setIfInBounds_toArray, List.set_cons_zero, List.set_cons_succ]
                      refine takeH (i := 1) (v := ?_) rfl rfl (by kernel_rfl) (by kernel_rfl) (by kernel_rfl) (fun _ _ _ h => h) (by rfl) ?_ hHeld ?_
                      rotate_left
                      · (intro w hSw); (try dsimp only at hSw); go_simp; try with_reducible rfl
                      try simp only [List.setIfInBounds_toArray, List.set_cons_zero, List.set_cons_succ]
                      refine takeH (i := 2) (v := ?_) rfl rfl (by kernel_rfl) (by kernel_rfl) (by kernel_rfl) (fun _ _ _ h => h) (by rfl) ?_ hHeld ?_
                      rotate_left
                      · (intro w hSw); (try dsimp only at hSw); go_simp; try with_reducible rfl
                      try simp only [List.setIfInBounds_toArray, List.set_cons_zero, List.set_cons_succ]
                      refine takeH (i := 3) (v := ?_) rfl rfl (by kernel_rfl) (by kernel_rfl) (by kernel_rfl) (fun _ _ _ h => h) (by rfl) ?_ hHeld ?_
                      rotate_left
                      · (intro w hSw); (try dsimp only at hSw); go_simp; try with_reducible rfl
                      try simp only [List.setIfInBounds_toArray, List.set_cons_zero, List.set_cons_succ]
                      refine takeH (i := 4) (v := ?_) rfl rfl (by kernel_rfl) (by kernel_rfl) (by kernel_rfl) (fun _ _ _ h => h) (by rfl) ?_ hHeld ?_
                      rotate_left
                      · (intro w hSw); (try dsimp only at hSw); go_simp; try with_reducible rfl
                      try simp only [List.setIfInBounds_toArray, List.set_cons_zero, List.set_cons_succ]
                      refine takeH (i := 5) (v := ?_) rfl rfl (by kernel_rfl) (by kernel_rfl) (by kernel_rfl) (fun _ _ _ h => h) (by rfl) ?_ hHeld ?_
                      rotate_left
                      · (intro w hSw); (try dsimp only at hSw); go_simp; try with_reducible rfl
                      try simp only [List.setIfInBounds_toArray, List.set_cons_zero, List.set_cons_succ]
                      refine takeH (i := 6) (v := ?_) rfl rfl (by kernel_rfl) (by kernel_rfl) (by kernel_rfl) (fun _ _ _ h => h) (by rfl) ?_ hHeld ?_
                      rotate_left
                      · (intro w hSw); (try dsimp only at hSw); go_simp; try with_reducible rfl
                      try simp only [List.setIfInBounds_toArray, List.set_cons_zero, List.set_cons_succ]
                      refine takeH (i := 7) (v := ?_) rfl rfl (by kernel_rfl) (by kernel_rfl) (by kernel_rfl) (fun _ _ _ h => h) (by rfl) ?_ hHeld ?_
                      rotate_left
                      · (intro w hSw); (try dsimp only at hSw); go_simp; try with_reducible rfl
                      try simp only [List.setIfInBounds_toArray, List.set_cons_zero, List.set_cons_succ]
                      refine takeH (i := 8) (v := ?_) rfl rfl (by kernel_rfl) (by kernel_rfl) (by kernel_rfl) (fun _ _ _ h => h) (by rfl) ?_ hHeld ?_
                      rotate_left
                      · (intro w hSw); (try dsimp only at hSw); go_simp; try with_reducible rfl
                      try simp only [List.setIfInBounds_toArray, List.set_cons_zero, List.set_cons_succ]
                      refine takeH (i := 9) (v := ?_) rfl rfl (by kernel_rfl) (by kernel_rfl) (by kernel_rfl) (fun _ _ _ h => h) (by rfl) ?_ hHeld ?_
                      rotate_left
                      · (intro w hSw); (try dsimp only at hSw); go_simp; try with_reducible rfl
                      try simp only [List.setIfInBounds_toArray, List.set_cons_zero, List.set_cons_succ]
                      refine takeH (i := 10) (v := ?_) rfl rfl (by kernel_rfl) (by kernel_rfl) (by kernel_rfl) (fun _ _ _ h => h) (by rfl) ?_ hHeld ?_
                      rotate_left
                      · (intro w hSw); (try dsimp only at hSw); go_simp; try with_reducible rfl
                      try simp only [List.setIfInBounds_toArray, List.set_cons_zero, List.set_cons_succ]
                      refine comeH (i := 11) rfl (by kernel_rfl) (by rfl) (fun KK hKK => ?_)
                      go_simp
                      refine hKK.out _ _ (by exact hHeld) (fun hHeld => ?_)
                      clear hKK KK
                      try simp only [Act.put, List.setIfInBounds_toArray, List.set_cons_zero, List.set_cons_succ]
                      refine takeH (i := 12) (v := ?_) rfl rfl (by kernel_rfl) (by kernel_rfl) (by kernel_rfl) (fun _ _ _ h => h) (by rfl) ?_ hHeld ?_
                      rotate_left
                      · (intro w hSw); (try dsimp only at hSw); go_simp; try with_reducible rfl
                      try simp only [List.setIfInBounds_toArray, List.set_cons_zero, List.set_cons_succ]
                      refine takeH (i := 13) (v := ?_) rfl rfl (by kernel_rfl) (by kernel_rfl) (by kernel_rfl) (fun _ _ _ h => h) (by rfl) ?_ hHeld ?_
                      rotate_left
                      · (intro w hSw); (try dsimp only at hSw); go_simp; try with_reducible rfl
                      try simp only [List.setIfInBounds_toArray, List.set_cons_zero, List.set_cons_succ]
                      refine takeH (i := 14) (v := ?_) rfl rfl (by kernel_rfl) (by kernel_rfl) (by kernel_rfl) (fun _ _ _ h => h) (by rfl) ?_ hHeld ?_
                      rotate_left
                      · (intro w hSw); (try dsimp only at hSw); go_simp; try with_reducible rfl
                      try simp only [List.setIfInBounds_toArray, List.set_cons_zero, List.set_cons_succ]
                      refine takeH (i := 15) (v := ?_) rfl rfl (by kernel_rfl) (by kernel_rfl) (by kernel_rfl) (fun _ _ _ h => h) (by rfl) ?_ hHeld ?_
                      rotate_left
                      · (intro w hSw); (try dsimp only at hSw); go_simp; try with_reducible rfl
                      try simp only [List.setIfInBounds_toArray, List.set_cons_zero, List.set_cons_succ]
                      refine takeH (i := 16) (v := ?_) rfl rfl (by kernel_rfl) (by kernel_rfl) (by kernel_rfl) (fun _ _ _ h => h) (by rfl) ?_ hHeld ?_
                      rotate_left
                      · (intro w hSw); (try dsimp only at hSw); go_simp; try with_reducible rfl
                      try simp only [List.setIfInBounds_toArray, List.set_cons_zero, List.set_cons_succ]
                      refine takeH (i := 17) (v := ?_) rfl rfl (by kernel_rfl) (by kernel_rfl) (by kernel_rfl) (fun _ _ _ h => h) (by rfl) ?_ hHeld ?_
                      rotate_left
                      · (intro w hSw); (try dsimp only at hSw); go_simp; try with_reducible rfl
                      try simp only [List.setIfInBounds_toArray, List.set_cons_zero, List.set_cons_succ]
                      refine takeH (i := 18) (v := ?_) rfl rfl (by kernel_rfl) (by kernel_rfl) (by kernel_rfl) (fun _ _ _ h => h) (by rfl) ?_ hHeld ?_
                      rotate_left
                      · (intro w hSw); (try dsimp only at hSw); go_simp; try with_reducible rfl
                      try simp only [List.setIfInBounds_toArray, List.set_cons_zero, List.set_cons_succ]
                      refine takeH (i := 19) (v := ?_) rfl rfl (by kernel_rfl) (by kernel_rfl) (by kernel_rfl) (fun _ _ _ h => h) (by rfl) ?_ hHeld ?_
                      rotate_left
                      · (intro w hSw); (try dsimp only at hSw); go_simp; try with_reducible rfl
                      try simp only [List.setIfInBounds_toArray, List.set_cons_zero, List.set_cons_succ]
                      refine takeH (i := 20) (v := ?_) rfl rfl (by kernel_rfl) (by kernel_rfl) (by kernel_rfl) (fun _ _ _ h => h) (by rfl) ?_ hHeld ?_
                      rotate_left
                      · (intro w hSw); (try dsimp only at hSw); go_simp; try with_reducible rfl
                      try simp only [List.setIfInBounds_toArray, List.set_cons_zero, List.set_cons_succ]
                      refine takeH (i := 21) (v := ?_) rfl rfl (by kernel_rfl) (by kernel_rfl) (by kernel_rfl) (fun _ _ _ h => h) (by rfl) ?_ hHeld ?_
                      rotate_left
                      · (intro w hSw); (try dsimp only at hSw); go_simp; try with_reducible rfl
                      try simp only [List.setIfInBounds_toArray, List.set_cons_zero, List.set_cons_succ]
                      refine takeH (i := 22) (v := ?_) rfl rfl (by kernel_rfl) (by kernel_rfl) (by kernel_rfl) (fun _ _ _ h => h) (by rfl) ?_ hHeld ?_
                      rotate_left
                      · (intro w hSw); (try dsimp only at hSw); go_simp; try with_reducible rfl
                      try simp only [List.setIfInBounds_toArray, List.set_cons_zero, List.set_cons_succ]
                      refine takeH (i := 23) (v := ?_) rfl rfl (by kernel_rfl) (by kernel_rfl) (by kernel_rfl) (fun _ _ _ h => h) (by rfl) ?_ hHeld ?_
                      rotate_left
                      · (intro w hSw); (try dsimp only at hSw); go_simp; try with_reducible rfl
                      try simp only [List.setIfInBounds_toArray, List.set_cons_zero, List.set_cons_succ]
                      refine takeH (i := 24) (v := ?_) rfl rfl (by kernel_rfl) (by kernel_rfl) (by kernel_rfl) (fun _ _ _ h => h) (by rfl) ?_ hHeld ?_
                      rotate_left
                      · (intro w hSw); (try dsimp only at hSw); go_simp; try with_reducible rfl
                      try simp only [List.setIfInBounds_toArray, List.set_cons_zero, List.set_cons_succ]
                      refine takeH (i := 25) (v := ?_) rfl rfl (by kernel_rfl) (by kernel_rfl) (by kernel_rfl) (fun _ _ _ h => h) (by rfl) ?_ hHeld ?_
                      rotate_left
                      · (intro w hSw); (try dsimp only at hSw); go_simp; try with_reducible rfl
                      try simp only [List.setIfInBounds_toArray, List.set_cons_zero, List.set_cons_succ]
                      refine takeH (i := 26) (v := ?_) rfl rfl (by kernel_rfl) (by kernel_rfl) (by kernel_rfl) (fun _ _ _ h => h) (by rfl) ?_ hHeld ?_
                      rotate_left
                      · (intro w hSw); (try dsimp only at hSw); go_simp; try with_reducible rfl
                      try simp only [List.setIfInBounds_toArray, List.set_cons_zero, List.set_cons_succ]
                      refine takeH (i := 27) (v := ?_) rfl rfl (by kernel_rfl) (by kernel_rfl) (by kernel_rfl) (fun _ _ _ h => h) (by rfl) ?_ hHeld ?_
                      rotate_left
                      · (intro w hSw); (try dsimp only at hSw); go_simp; try with_reducible rfl
                      try simp only [List.setIfInBounds_toArray, List.set_cons_zero, List.set_cons_succ]
                      refine takeH (i := 28) (v := ?_) rfl rfl (by kernel_rfl) (by kernel_rfl) (by kernel_rfl) (fun _ _ _ h => h) (by rfl) ?_ hHeld ?_
                      rotate_left
                      · (intro w hSw); (try dsimp only at hSw); go_simp; try with_reducible rfl
                      try simp only [List.setIfInBounds_toArray, List.set_cons_zero, List.set_cons_succ]
                      refine takeH (i := 29) (v := ?_) rfl rfl (by kernel_rfl) (by kernel_rfl) (by kernel_rfl) (fun _ _ _ h => h) (by rfl) ?_ hHeld ?_
                      rotate_left
                      · (intro w hSw); (try dsimp only at hSw); go_simp; try with_reducible rfl
                      try simp only [List.setIfInBounds_toArray, List.set_cons_zero, List.set_cons_succ]
                      refine takeH (i := 30) (v := ?_) rfl rfl (by kernel_rfl) (by kernel_rfl) (by kernel_rfl) (fun _ _ _ h => h) (by rfl) ?_ hHeld ?_
                      rotate_left
                      · (intro w hSw); (try dsimp only at hSw); go_simp; try with_reducible rfl
                      try simp only [List.setIfInBounds_toArray, List.set_cons_zero, List.set_cons_succ]
                      refine comeH (i := 31) rfl (by kernel_rfl) (by rfl) (fun KK hKK => ?_)
                      go_simp
                      refine hKK.out _ _ (by exact AFT.out) (fun hHeld => ?_)
                      clear hKK KK
                      try simp only [Act.put, List.setIfInBounds_toArray, List.set_cons_zero, List.set_cons_succ]
                      refine wpAnyH_done (by kernel_rfl) ?_ _
                      clear AFT hHeld hij hzf HWV
                      generalize w5.setCell ⟨bs i, j, none⟩ (.bool v) = w6 at HR2 ⊢
                      go_wp2
                      go_roundw
                      case rel => exact ⟨j + 1, _, by go_num, by omega, HR2, W2⟩
                      case measure => simp [intOf]; omega
                · obtain rfl : n = j := by omega
                  have hjni : ¬ (n : Int) < (n : Int) := by omega
                  have W2 := Aside0.mk HW.out.row
                  clear HW
                  go_wp2
                  go_roundw
                  case rel => exact ⟨i + 1, M, by go_num, by omega, HR, W2⟩
                  case measure => simp [intOf]; omega
            · obtain rfl : n = i := by omega
              have hini : ¬ (n : Int) < (n : Int) := by omega
              have W2 := Aside0.mk HW.out.round
              clear HW
              go_wp2
              go_roundw
              case rel => exact ⟨k + 1, M, by go_num, by omega, HR, W2⟩
              case measure => simp [intOf]; omega
        · obtain rfl : n = k := by omega
          have hkni : ¬ (n : Int) < (n : Int) := by omega
          have HF := Aside0.mk (HW.out.fin adj_edge)
          clear HW
          go_wp2
          go_ret
          exact ⟨b, rfl, bs, M, HR.out.bb, HF.out, HR.out.below⟩
end Go.Proofs.Ytcpjlfhehjmfbaa.Gr
