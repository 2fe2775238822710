/- The heap of things against a list (plain); the order of things; the laws' head (layer 6). -/
import Derived.Test.YtcaonlddhbgnjaaHtF
import Derived.Test.YtcaonlddhbgnjaaHiF
namespace Go.Proofs.Ytcaonlddhbgnjaa.Ht
open Go.RowKit Go.Shelf Go.Proofs.Ytcaonlddhbgnjaa.Sg Go.Proofs.Ytcaonlddhbgnjaa.Hm
set_option linter.unusedVariables false
set_option linter.unusedSimpArgs false

def ltT (a b : A) : Bool := decide (a.1 < b.1)
theorem good_ltT : Hm.Good ltT := good_of (fun x y h => by unfold ltT at *; simp at *; omega) (fun x y z h k => by unfold ltT at *; simp at *; omega)
/-- The first of the least ones among the first k. -/
def bestK (l : List A) : Nat → Nat
  | 0 => 0
  | k + 1 => if (l.getD k default).1 < (l.getD (bestK l k) default).1 then k else bestK l k
theorem bestK_spec (l : List A) : ∀ k, 0 < k → bestK l k < k ∧ (∀ q, q < k → (l.getD (bestK l k) default).1 ≤ (l.getD q default).1) ∧ ∀ q, q < bestK l k → (l.getD (bestK l k) default).1 < (l.getD q default).1
  | 0, h => by omega
  | 1, _ => by
    have e : bestK l 1 = 0 := by unfold bestK bestK; split <;> rfl
    rw [e]
    exact ⟨by omega, fun q hq => by obtain rfl : q = 0 := by omega
                                    exact Int.le_refl _, fun q hq => by omega⟩
  | k + 2, _ => by
    obtain ⟨h1, h2, h3⟩ := bestK_spec l (k + 1) (by omega)
    rw [bestK]
    by_cases c : (l.getD (k + 1) default).1 < (l.getD (bestK l (k + 1)) default).1
    · rw [if_pos c]
      refine ⟨by omega, fun q hq => ?_, fun q hq => ?_⟩
      · by_cases e : q = k + 1
        · subst e; exact Int.le_refl _
        · have := h2 q (by omega); omega
      · have := h2 q (by omega); omega
    · rw [if_neg c]
      refine ⟨by omega, fun q hq => ?_, h3⟩
      by_cases e : q = k + 1
      · subst e; omega
      · exact h2 q (by omega)
/-- The heap's entries in the order in which they came. -/
structure InOrder (L : List E) (c : Int) : Prop where
  inc : L.Pairwise (fun a b => a.2 < b.2)
  lt : ∀ e ∈ L, e.2 < c
theorem InOrder.push {L : List E} {c : Int} (h : InOrder L c) (x : A) : InOrder (L ++ [(x, c)]) (c + 1) := by
  refine ⟨?_, fun e he => ?_⟩
  · rw [List.pairwise_append]
    refine ⟨h.inc, List.pairwise_singleton _ _, fun a ha b hb => ?_⟩
    rw [List.mem_singleton.1 hb]; exact h.lt a ha
  · rcases List.mem_append.1 he with q | q
    · have := h.lt e q; omega
    · rw [List.mem_singleton.1 q]; show c < c + 1; omega
theorem InOrder.cut {L : List E} {c : Int} (h : InOrder L c) (k : Nat) : InOrder (L.eraseIdx k) c :=
  ⟨h.inc.sublist (List.eraseIdx_sublist L k), fun e he => h.lt e (List.mem_of_mem_eraseIdx he)⟩
theorem perm_erase {α : Type} {L L' : List α} {k : Nat} (hk : k < L.length) (h : L.Perm (L[k] :: L')) : L'.Perm (L.eraseIdx k) := by
  have e : L.Perm (L[k] :: L.eraseIdx k) := by
    rw [List.eraseIdx_eq_take_drop_succ]
    have h1 : L = L.take k ++ L[k] :: L.drop (k + 1) := by
      rw [List.getElem_cons_drop]; exact (List.take_append_drop k L).symm
    have h2 : (L.take k ++ L[k] :: L.drop (k + 1)).Perm (L[k] :: (L.take k ++ L.drop (k + 1))) := List.perm_middle
    exact (List.Perm.of_eq h1).trans h2
  exact (List.perm_cons _).1 (h.symm.trans e)
theorem popped_best {L L' : List E} {c : Int} {x : A} (h : InOrder L c) (hp : Popped ltT L x L') (h0 : 0 < L.length) : ∃ hk : bestK (L.map (·.1)) L.length < L.length, x = (L[bestK (L.map (·.1)) L.length]).1 ∧ L'.Perm (L.eraseIdx (bestK (L.map (·.1)) L.length)) := by
  obtain ⟨cx, h1, h2⟩ := hp
  obtain ⟨b1, b2, b3⟩ := bestK_spec (L.map (·.1)) L.length h0
  have hg : ∀ q (hq : q < L.length), ((L.map (·.1)).getD q default) = (L[q]).1 := fun q hq => by simp [List.getD_eq_getElem?_getD, hq]
  generalize hb : bestK (L.map (·.1)) L.length = k at *
  have hm : (x, cx) ∈ L := h1.mem_iff.2 (by simp)
  obtain ⟨p, hp, hpe⟩ := List.mem_iff_getElem.1 hm
  have l1 := b2 p hp
  rw [hg p hp, hg k b1, hpe] at l1
  have l2 := h2 L[k] (List.getElem_mem b1)
  unfold Le bef ltT at l2
  simp at l2
  have hpk : p = k := by
    rcases Nat.lt_trichotomy p k with q | q | q
    · have := b3 p q
      rw [hg p hp, hg k b1, hpe] at this
      simp at this l1
      omega
    · exact q
    · have hlt := (List.pairwise_iff_getElem.1 h.inc) k p b1 hp q
      rw [hpe] at hlt
      simp at hlt l1
      omega
  subst hpk
  refine ⟨hp, by rw [hpe], perm_erase hp (by rw [hpe]; exact h1)⟩
theorem map_erase (L : List E) (k : Nat) : (L.eraseIdx k).map (·.1) = (L.map (·.1)).take k ++ (L.map (·.1)).drop (k + 1) := by
  rw [List.eraseIdx_eq_take_drop_succ, List.map_append, List.map_take, List.map_drop]
theorem HeapS.perm {w : World} {B g : Nat} {F : Nat → Prop} {O : Ord} {L L2 : List E} {came : Int} (h : HeapS w B g F O L came) (hp : L.Perm L2) : HeapS w B g F O L2 came := by
  obtain ⟨es, v, h1, h2, h3, h4⟩ := h
  exact ⟨es, v, h1, h2, h3.trans hp, h4⟩
/-- The order of things. -/
def ordT : Ord := ⟨11, #[], ltT, fun _ => True, fun _ => True⟩
set_option maxHeartbeats 1000000 in
theorem ordT_ok (B : Nat) : ordT.OK B := by
  refine ⟨fun x1 y1 x2 y2 w _ _ _ => ?_, fun _ _ _ _ => trivial, enters_of Try.func11 (by kernel_rfl) rfl⟩
  show Calls Try.prog 11 #[.agg #[.int .i64 x1, .int .i64 y1], .agg #[.int .i64 x2, .int .i64 y2]] w fun e w' => e = .returned (.bool (decide (x1 < x2))) ∧ Below w.heap.size w w'
  go_enter Try.func11, Try.ntmps11
  go_wp2
  go_ret
  exact ⟨rfl, by repeat (first | exact Below.refl _ _ | apply below_drewN | apply below_drew | apply below_alloc0)⟩
end Go.Proofs.Ytcaonlddhbgnjaa.Ht
namespace Go.Proofs.Ytcaonlddhbgnjaa.Hi
open Go.RowKit Go.Shelf Go.Proofs.Ytcaonlddhbgnjaa.Sg Go.Proofs.Ytcaonlddhbgnjaa.Hm
set_option linter.unusedVariables false
set_option linter.unusedSimpArgs false
def ltI (a b : Int) : Bool := decide (a < b)
theorem good_ltI : Hm.Good ltI := good_of (fun (x y : Int) h => by unfold ltI at *; simp at *; omega) (fun (x y z : Int) h k => by unfold ltI at *; simp at *; omega)
def ordI : Ord := ⟨37, #[], ltI, fun _ => True, fun _ => True⟩
theorem ordI_ok (B : Nat) : ordI.OK B := by
  refine ⟨fun x1 x2 w _ _ _ => ?_, fun _ _ _ _ => trivial, enters_of Try.func37 (by kernel_rfl) rfl⟩
  show Calls Try.prog 37 #[.int .i64 x1, .int .i64 x2] w fun e w' => e = .returned (.bool (decide (x1 < x2))) ∧ Below w.heap.size w w'
  go_enter Try.func37, Try.ntmps37
  go_wp2
  go_ret
  exact ⟨rfl, Below.refl _ _⟩
theorem popped_31 {x : Int} {L' : List (Int × Int)} (h : Popped ltI [((3 : Int), (0 : Int)), (1, 1), (2, 2)] x L') : x = 1 ∧ L'.length = 2 := by
  obtain ⟨c, h1, h2⟩ := h
  have hl := h1.length_eq
  have hm : ((x, c) : Int × Int) ∈ [((3, 0) : Int × Int), (1, 1), (2, 2)] := h1.mem_iff.2 (by simp)
  have := h2 ((1 : Int), (1 : Int)) (by simp)
  unfold Le bef ltI at this
  simp at hm this hl
  refine ⟨by omega, by omega⟩
theorem HeapS.belowB {w w' : World} {B g : Nat} {F : Nat → Prop} {O : Ord} {L : List E} {came : Int} (h : HeapS w B g F O L came) (hk : Kept w w' F) {w0 : World} (hb : Below B w0 w) : Below B w0 w' :=
  hb.trans (hk.below h.gF.2 (fun k hk => (h.bs k hk).1))
set_option maxHeartbeats 1000000 in
set_option maxRecDepth 100000 in
theorem head6_any (w : World) : Calls Try.prog 9 #[] w fun e w' => e = .returned (.bool true) ∧ Below w.heap.size w w' := by
  have NW : Calls Try.prog 36 #[.func (.func 37) #[] #[]] w _ := new_S ordI w w.heap.size (ordI_ok _) (Nat.le_refl _) trivial
  have PU := Aside0.mk (fun (w' : World) F L c x (h : HeapS w' w.heap.size w.heap.size F ordI L c) (hl : L.length < 1000) (h0 : 0 ≤ c) (h1 : c < 1000) => push_S (ordI_ok _) good_ltI w.heap.size F L c x w' h trivial (by omega) h0 (by omega))
  go_enter Try.func9, Try.ntmps9
  go_wp2_with fail
  refine NW.mono ?_
  rintro e w1 ⟨rfl, H1, B1, _⟩
  have A1 := Aside0.mk B1
  have P1 := Aside0.mk (PU.out w1 _ _ _ 3 H1 (by simp) (by omega) (by omega))
  have H1' := Aside0.mk H1
  clear H1 B1 NW
  go_wp2_with fail
  refine (P1.out).mono ?_
  rintro e w2 ⟨rfl, F2, H2, _, K2⟩
  have A2 := Aside0.mk (H1'.out.belowB K2 A1.out)
  have P2 := Aside0.mk (PU.out w2 _ _ _ 1 H2 (by simp) (by omega) (by omega))
  have H2' := Aside0.mk H2
  clear H2 K2 P1 A1 H1'
  go_wp2_with fail
  refine (P2.out).mono ?_
  rintro e w3 ⟨rfl, F3, H3, _, K3⟩
  have A3 := Aside0.mk (H2'.out.belowB K3 A2.out)
  have P3 := Aside0.mk (PU.out w3 _ _ _ 2 H3 (by simp) (by omega) (by omega))
  have H3' := Aside0.mk H3
  clear H3 K3 P2 A2 H2'
  go_wp2_with fail
  refine (P3.out).mono ?_
  rintro e w4 ⟨rfl, F4, H4, _, K4⟩
  have A4 := Aside0.mk (H3'.out.belowB K4 A3.out)
  obtain ⟨x, L', hp, hc⟩ := pop_S (ordI_ok _) good_ltI _ _ _ _ w4 H4 (by simp) (by simp)
  obtain ⟨rfl, hl⟩ := popped_31 hp
  have P4 := Aside0.mk hc
  have HL := Aside0.mk hl
  have H4' := Aside0.mk H4
  clear H4 K4 P3 A3 H3' hp hc hl
  go_wp2_with fail
  refine (P4.out).mono ?_
  rintro e w5 ⟨rfl, H5, K5⟩
  have A5 := Aside0.mk (H4'.out.belowB K5 A4.out)
  have P5 := Aside0.mk (len_S _ _ _ _ _ H5)
  clear P4 H5 K5 A4 H4'
  rw [HL.out] at P5
  go_wp2_with (first | (go_at_call 40; (with_reducible refine (P5.out).mono ?_); rintro e w5 ⟨rfl, rfl⟩))
  go_ret
  exact ⟨rfl, A5.out⟩
end Go.Proofs.Ytcaonlddhbgnjaa.Hi
