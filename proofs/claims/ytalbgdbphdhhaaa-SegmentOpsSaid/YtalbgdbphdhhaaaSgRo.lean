/- SegmentOps: union, intersection and difference. The walk. -/
import Derived.Test.YtalbgdbphdhhaaaSgRl
import Derived.Test.YtalbgdbphdhhaaaSgL
import Derived.Test.YtalbgdbphdhhaaaSgZm
namespace Go.Proofs.Ytalbgdbphdhhaaa.Sg
open Go.RowKit Go.Shelf
set_option linter.unusedVariables false
set_option linter.unusedSimpArgs false

set_option maxHeartbeats 2000000 in
set_option maxRecDepth 100000 in
theorem in5_any (w : World) (ok ok2 : Nat → Prop) (rv v : Value) (rs : List Row) (r : Row) (h : RowsAt w ok rv rs) (h2 : RowAt w ok2 v r) :
    Calls Try.prog 29 #[rv, v] w fun e w' => e = .returned (.bool (decide (r ∈ rs))) ∧ Below w.heap.size w w' := by
  obtain ⟨A, c, rfl, _⟩ := h.form
  obtain ⟨A2, c2, rfl, _⟩ := h2.form
  have H := Aside0.mk h
  have H2 := Aside0.mk h2
  obtain ⟨rb, hrb⟩ : ∃ rb, decide (r ∈ rs) = rb := ⟨_, rfl⟩
  rw [hrb]
  have HRB := Aside0.mk hrb
  clear h h2 hrb
  go_enter Try.func29, Try.ntmps29
  go_wp2
  go_loopw [9] (fun s9 wr => ∃ k : Nat, s9 = .int .i64 k ∧ k ≤ rs.length ∧ Aside0 (r ∉ rs.take k) ∧ Aside0 (Below w.heap.size w wr)) (fun s9 _ => rs.length - (intOf s9).toNat)
  case atStart => exact ⟨0, rfl, Nat.zero_le _, ⟨by simp⟩, ⟨Below.refl _ _⟩⟩
  case round =>
    obtain ⟨k, rfl, hk, HN, HB⟩ := hrel
    by_cases hlt : k < rs.length
    · obtain ⟨b, o, u, rfl, _, _, hc, hu⟩ := (H.out.below reads_row HB.out).at_ k hlt
      have CM := Aside0.mk (compare5_any wr _ _ u _ rs[k] r hu (H2.out.below reads_int HB.out))
      have hz := cmp5_zero rs[k] r
      have TK := List.take_succ_eq_append_getElem hlt
      have YE := Aside0.mk (show rs[k] = r → rb = true from fun e => by rw [← HRB.out, ← e]; simp)
      have NE := Aside0.mk (show rs[k] ≠ r → r ∉ rs.take (k + 1) from fun e => by rw [TK, List.mem_append, not_or]; exact ⟨HN.out, by simpa using fun h => e h.symm⟩)
      obtain ⟨cc, hcc⟩ : ∃ cc, cmp5 rs[k] r = cc := ⟨_, rfl⟩
      rw [hcc] at CM hz
      have HZ := Aside0.mk hz
      clear hu hz hcc TK
      generalize rs[k] = q at *
      go_wp2_with fail
      refine (CM.out).mono ?_
      rintro e w2 ⟨rfl, hd⟩
      have BN := Aside0.mk (below_trans0 HB.out hd.below)
      clear hd CM
      by_cases h0 : cc = 0
      · have hrt := YE.out (HZ.out.1 h0)
        subst hrt
        subst h0
        clear YE NE HZ
        go_wp2
        go_ret
        exact ⟨rfl, BN.out⟩
      · have NE := Aside0.mk (NE.out (fun e => h0 (HZ.out.2 e)))
        have d0 : (cc == 0) = false := by simpa using h0
        clear YE HZ h0
        go_wp2
        go_roundw
        case rel => exact ⟨k + 1, by go_num, by omega, NE, BN⟩
        case measure => simp [intOf]; omega
    · obtain rfl : k = rs.length := by omega
      have hrf : rb = false := by rw [← HRB.out]; have h9 := HN.out; rw [List.take_length] at h9; simpa using h9
      subst hrf
      go_wp2
      go_ret
      exact ⟨rfl, HB.out⟩

theorem same_len {X Y : List Row} (hX : SS X) (hY : SS Y) : decide (X = Y) = (decide ((picked Y true X).length = X.length) && decide (X.length = Y.length)) := by
  have key : X = Y ↔ ((picked Y true X).length = X.length ∧ X.length = Y.length) := by
    constructor
    · rintro rfl
      refine ⟨?_, rfl⟩
      congr 1
      unfold picked
      rw [List.filter_eq_self]
      intro a ha; simpa using ha
    · rintro ⟨h1, h2⟩
      have h3 : ∀ x ∈ X, x ∈ Y := by
        intro x hx
        have h4 : picked Y true X = X := List.filter_sublist.eq_of_length h1
        rw [← h4, mem_picked] at hx
        simpa using hx.2
      have h5 : X = picked X true Y := SS.ext hX (picked_SS hY) (fun x => by
        rw [mem_picked, decide_eq_true_eq]
        exact ⟨fun h => ⟨h3 x h, h⟩, fun h => h.2⟩)
      have h6 : picked X true Y = Y := List.filter_sublist.eq_of_length (by show (picked X true Y).length = Y.length; rw [← h5, h2])
      exact h5.trans h6
  rw [Bool.eq_iff_iff]
  simp only [decide_eq_true_eq, Bool.and_eq_true]
  exact key
theorem pick_take {X : List Row} {Y : List Row} {k : Nat} (h : k < X.length) (is : Bool) : picked Y is (X.take (k + 1)) = if (decide (X[k] ∈ Y) == is) = true then picked Y is (X.take k) ++ [X[k]] else picked Y is (X.take k) := by
  unfold picked
  rw [List.take_succ_eq_append_getElem h, List.filter_append, List.filter_cons]
  split <;> simp_all
theorem picked_nil_false (X : List Row) : picked [] false X = X := by unfold picked; simp
theorem picked_nil_true (X : List Row) : picked [] true X = [] := by unfold picked; simp
theorem picked_of_nil (Y : List Row) (is : Bool) : picked Y is [] = [] := rfl
theorem norm_self {n : Nat} {X : List Row} (hX : SS X) (hw : ∀ r ∈ X, r.length = n) : norm n X = X := (norm_eq hX (fun x => ⟨fun h => ⟨h, hw x h⟩, fun h => h.1⟩)).symm
theorem or_nil_list {n : Nat} {X : List Row} (hX : SS X) (hw : ∀ r ∈ X, r.length = n) : norm (orW n 0 X) (X ++ []) = X := by
  rw [List.append_nil]
  by_cases h : X = []
  · subst h; rfl
  · have : orW n 0 X = n := by unfold orW; rw [if_neg (by simpa using h)]
    rw [this, norm_self hX hw]
theorem nil_or_list {n : Nat} {X : List Row} (hX : SS X) (hw : ∀ r ∈ X, r.length = n) : norm (orW 0 n []) ([] ++ X) = X := by
  rw [List.nil_append]
  exact norm_self hX hw
theorem same_bool (w : World) (g1 g2 n m k1 k2 : Nat) (A B : List Row) (b : Bool) (hA : SetK w g1 n A k1) (hB : SetK w g2 m B k2) (he : decide (A = B) = b) :
    Calls Try.prog 23 #[.pointer (some ⟨g1, 0, none⟩), .pointer (some ⟨g2, 0, none⟩)] w fun e w' => e = .returned (.bool b) ∧ Below w.heap.size w w' := by
  have := same_any w _ _ _ _ n m A B hA.seg.n hB.seg.n
  rw [he] at this
  exact this
theorem or_nilK (w : World) (g n k : Nat) (A : List Row) (hA : SetK w g n A k) (hk : k < 1000000) :
    Calls Try.prog 30 #[.pointer (some ⟨g, 0, none⟩), .pointer none] w fun e w' => ∃ g' m, e = .returned (.pointer (some ⟨g', 0, none⟩)) ∧ SetK w' g' m A k ∧ Below w.heap.size w w' := by
  have h1 := hA.le
  have := or_any w _ _ _ _ n 0 A [] hA.seg.n (SegN.nil w (fun _ => True)) (by simp; omega)
  rw [or_nil_list hA.ss hA.wid] at this
  exact this.mono fun e w' ⟨v, h1, h2, h3⟩ => by
    obtain ⟨g', rfl, hg⟩ := h2.setK hA.ss (k := k) hA.le
    exact ⟨g', _, h1, hg, h3⟩
theorem nil_orK (w : World) (g n k : Nat) (A : List Row) (hA : SetK w g n A k) (hk : k < 1000000) :
    Calls Try.prog 30 #[.pointer none, .pointer (some ⟨g, 0, none⟩)] w fun e w' => ∃ g' m, e = .returned (.pointer (some ⟨g', 0, none⟩)) ∧ SetK w' g' m A k ∧ Below w.heap.size w w' := by
  have h1 := hA.le
  have := or_any w _ _ _ _ 0 n [] A (SegN.nil w (fun _ => True)) hA.seg.n (by simp; omega)
  rw [nil_or_list hA.ss hA.wid] at this
  exact this.mono fun e w' ⟨v, h1, h2, h3⟩ => by
    obtain ⟨g', rfl, hg⟩ := h2.setK hA.ss (k := k) hA.le
    exact ⟨g', _, h1, hg, h3⟩
theorem minus_nilK (w : World) (g n k : Nat) (A : List Row) (hA : SetK w g n A k) :
    Calls Try.prog 32 #[.pointer (some ⟨g, 0, none⟩), .pointer none] w fun e w' => ∃ g' m, e = .returned (.pointer (some ⟨g', 0, none⟩)) ∧ SetK w' g' m A k ∧ Below w.heap.size w w' := by
  have := minus_any w _ _ _ _ n 0 A [] hA.seg.n (SegN.nil w (fun _ => True)) List.Pairwise.nil
  rw [picked_nil_false] at this
  exact this.mono fun e w' ⟨v, h1, h2, h3⟩ => by
    obtain ⟨g', rfl, hg⟩ := h2.setK hA.ss (k := k) hA.le
    exact ⟨g', _, h1, hg, h3⟩
theorem and_nilK (w : World) (g n k : Nat) (A : List Row) (hA : SetK w g n A k) :
    Calls Try.prog 31 #[.pointer (some ⟨g, 0, none⟩), .pointer none] w fun e w' => ∃ g' m, e = .returned (.pointer (some ⟨g', 0, none⟩)) ∧ SetK w' g' m [] k ∧ Below w.heap.size w w' := by
  have := and_any w _ _ _ _ n 0 A [] hA.seg.n (SegN.nil w (fun _ => True)) List.Pairwise.nil
  rw [picked_nil_true] at this
  exact this.mono fun e w' ⟨v, h1, h2, h3⟩ => by
    obtain ⟨g', rfl, hg⟩ := h2.setK List.Pairwise.nil (k := k) (by simp)
    exact ⟨g', _, h1, hg, h3⟩
theorem nil_minusK (w : World) (g n k : Nat) (A : List Row) (hA : SetK w g n A k) :
    Calls Try.prog 32 #[.pointer none, .pointer (some ⟨g, 0, none⟩)] w fun e w' => ∃ g' m, e = .returned (.pointer (some ⟨g', 0, none⟩)) ∧ SetK w' g' m [] k ∧ Below w.heap.size w w' := by
  have := minus_any w _ _ _ _ 0 n [] A (SegN.nil w (fun _ => True)) hA.seg.n hA.ss
  rw [picked_of_nil] at this
  exact this.mono fun e w' ⟨v, h1, h2, h3⟩ => by
    obtain ⟨g', rfl, hg⟩ := h2.setK List.Pairwise.nil (k := k) (by simp)
    exact ⟨g', _, h1, hg, h3⟩
end Go.Proofs.Ytalbgdbphdhhaaa.Sg
