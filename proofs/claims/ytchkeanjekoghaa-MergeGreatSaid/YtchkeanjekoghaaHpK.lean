/- MergeGreat: by the order turned about all comes out the other way round. -/
import Derived.Test.YtchkeanjekoghaaHpJ
import Derived.Test.YtchkeanjekoghaaHpH
import Derived.OwnWalk
namespace Go.Proofs.Ytchkeanjekoghaa.Hp
open Go.RowKit Go.Shelf
set_option linter.unusedVariables false
set_option linter.unusedSimpArgs false

set_option maxHeartbeats 2000000 in
set_option maxRecDepth 100000 in
theorem great_long (A : Option Addr) (n cap : Nat) (w : World) (hn : 200 < n) (hm : n ≤ 9223372036854775807) :
    Calls Try.prog 5 #[.slice A n cap] w fun e w' => e = .returned (.bool true) ∧ Below w.heap.size w w' := by
  go_enter Try.func5, Try.ntmps5
  go_wp2_with (first | (go_at_call 6; (with_reducible refine (head_any _).mono ?_); rintro e w1 ⟨rfl, HB⟩))
  go_ret
  exact ⟨rfl, HB⟩

theorem info3 : (Try.prog.info? 3).map (fun i => (i.zero, i.size, i.bytes)) = some (some (.int .i64 0), 1, 8) := by kernel_rfl
/-- The state at the start: two heaps, no rows yet. -/
theorem All.start (B : Nat) (w : World) (hB : B ≤ w.heap.size) : ∃ c, All ((w.alloc (.cells #[.func (.func 13) #[] #[], .slice none 0 0, .int .i64 0] 53)).alloc (.cells #[.func (.func 17) #[] #[], .slice none 0 0, .int .i64 0] 53)) B w.heap.size (w.heap.size + 1) [] 0 [] 0 (.slice none 0 0) [] (.slice none 0 0) [] c := by
  have h1 := new_HC 13 B ltI w (fun k => (if k = w.heap.size then 1 else 2) = 1) (by simp) hB
  have h2 := new_HC 17 B gtI (w.alloc (.cells #[.func (.func 13) #[] #[], .slice none 0 0, .int .i64 0] 53)) (fun k => (if k = w.heap.size then 1 else 2) = 2) (by simp) (by simp; omega)
  refine ⟨fun k => if k = w.heap.size then 1 else 2, h1.kept (Kept.of_below (below_alloc0 (Below.refl _ _) _) (fun _ => False)) (fun _ _ h => h), ?_, ⟨World.ownsRow_nil _ _ _ _, fun k h => by simp [Value.ownBlock] at h⟩, ⟨World.ownsRow_nil _ _ _ _, fun k h => by simp [Value.ownBlock] at h⟩, by simp; omega⟩
  rwa [show (w.alloc (.cells #[.func (.func 13) #[] #[], .slice none 0 0, .int .i64 0] 53)).heap.size = w.heap.size + 1 from by simp] at h2

theorem perm_sorted : ∀ {l m : List Int}, l.Perm m → l.Pairwise (· ≤ ·) → m.Pairwise (· ≤ ·) → l = m
  | [], m, h, _, _ => (List.nil_perm.1 h).symm
  | a :: l, [], h, _, _ => absurd h.length_eq (by simp)
  | a :: l, b :: m, h, h1, h2 => by
    have ha : a ∈ b :: m := h.mem_iff.1 (by simp)
    have hb : b ∈ a :: l := h.mem_iff.2 (by simp)
    rw [List.pairwise_cons] at h1 h2
    have e : a = b := by
      rcases List.mem_cons.1 ha with e | ha
      · exact e
      · rcases List.mem_cons.1 hb with e | hb
        · exact e.symm
        · have := h1.1 b hb
          have := h2.1 a ha
          omega
    subst e
    rw [perm_sorted h.cons_inv h1.2 h2.2]
/-- What has been popped of both, and what is left. -/
structure Great (zs : List Int) (i : Nat) (L1 L2 : List E) (xs ys : List Int) : Prop where
  la : xs.length = i
  lb : ys.length = i
  l1 : L1.length + i = zs.length
  l2 : L2.length + i = zs.length
  p1 : zs.Perm (xs ++ L1.map Prod.fst)
  p2 : zs.Perm (ys ++ L2.map Prod.fst)
  s1 : xs.Pairwise (· ≤ ·)
  s2 : ys.Pairwise (fun a b => b ≤ a)
  o1 : ∀ a ∈ xs, ∀ y ∈ L1, a ≤ y.1
  o2 : ∀ a ∈ ys, ∀ y ∈ L2, y.1 ≤ a
theorem Great.start (zs : List Int) : Great zs 0 (ent zs zs.length) (ent zs zs.length) [] [] :=
  ⟨rfl, rfl, by rw [ent_length]; omega, by rw [ent_length]; omega, by rw [ent_vals]; exact List.Perm.refl _, by rw [ent_vals]; exact List.Perm.refl _, List.Pairwise.nil, List.Pairwise.nil, by simp, by simp⟩
theorem Great.step {zs : List Int} {i : Nat} {L1 L2 L1' L2' : List E} {xs ys : List Int} {x y : Int} (h : Great zs i L1 L2 xs ys) (hp : Popped ltI L1 x L1') (hq : Popped gtI L2 y L2') : Great zs (i + 1) L1' L2' (xs ++ [x]) (ys ++ [y]) := by
  obtain ⟨c, q1, q2⟩ := hp
  obtain ⟨d, r1, r2⟩ := hq
  have e1 := q1.length_eq
  have e2 := r1.length_eq
  have := h.l1
  have := h.l2
  have hx : ((x, c) : E) ∈ L1 := q1.mem_iff.2 (by simp)
  have hy : ((y, d) : E) ∈ L2 := r1.mem_iff.2 (by simp)
  have k1 : ∀ z ∈ L1, x ≤ z.1 := fun z hz => by
    have := q2 z hz
    unfold Le bef at this
    simp at this
    omega
  have k2 : ∀ z ∈ L2, z.1 ≤ y := fun z hz => by
    have := r2 z hz
    unfold Le bef at this
    simp at this
    omega
  simp at e1 e2
  refine ⟨by simp [h.la], by simp [h.lb], by omega, by omega, ?_, ?_, ?_, ?_, ?_, ?_⟩
  · refine h.p1.trans (((q1.map Prod.fst).append_left xs).trans ?_)
    simp
  · refine h.p2.trans (((r1.map Prod.fst).append_left ys).trans ?_)
    simp
  · rw [List.pairwise_append]
    exact ⟨h.s1, by simp, fun a ha b hb => by obtain rfl := List.mem_singleton.1 hb; exact h.o1 a ha (b, c) hx⟩
  · rw [List.pairwise_append]
    exact ⟨h.s2, by simp, fun a ha b hb => by obtain rfl := List.mem_singleton.1 hb; exact h.o2 a ha (b, d) hy⟩
  · intro a ha z hz
    have hz' := q1.mem_iff.2 (List.mem_cons_of_mem _ hz)
    rcases List.mem_append.1 ha with ha | ha
    · exact h.o1 a ha z hz'
    · obtain rfl := List.mem_singleton.1 ha; exact k1 z hz'
  · intro a ha z hz
    have hz' := r1.mem_iff.2 (List.mem_cons_of_mem _ hz)
    rcases List.mem_append.1 ha with ha | ha
    · exact h.o2 a ha z hz'
    · obtain rfl := List.mem_singleton.1 ha; exact k2 z hz'
theorem Great.finish {zs : List Int} {L1 L2 : List E} {xs ys : List Int} (h : Great zs zs.length L1 L2 xs ys) : L1 = [] ∧ L2 = [] ∧ ∀ k, k < zs.length → xs.getD k 0 = ys.getD (zs.length - 1 - k) 0 := by
  have := h.l1
  have := h.l2
  obtain rfl : L1 = [] := List.length_eq_zero_iff.1 (by omega)
  obtain rfl : L2 = [] := List.length_eq_zero_iff.1 (by omega)
  have e : xs = ys.reverse := by
    refine perm_sorted ?_ h.s1 (by rw [List.pairwise_reverse]; exact h.s2)
    have a := h.p1
    have b := h.p2
    simp at a b
    exact a.symm.trans (b.trans (List.reverse_perm ys).symm)
  refine ⟨rfl, rfl, fun k hk => ?_⟩
  rw [e]
  have := h.lb
  rw [List.getD_eq_getElem?_getD, List.getD_eq_getElem?_getD, List.getElem?_reverse (by omega)]
  rw [show ys.length - 1 - k = zs.length - 1 - k from by omega]
theorem NC.slice {w : World} {B : Nat} {v : Value} {xs : List Int} {S : Nat → Prop} (h : NC w B v xs S) : ∃ A c, v = .slice A xs.length c := by
  rcases h.own.2 with ⟨h1, h2⟩ | ⟨b, cap, cur, h1, _⟩
  · exact ⟨none, 0, by rw [h1, h2]⟩
  · exact ⟨_, _, h1⟩
theorem NC.at_ {w : World} {B c : Nat} {A : Option Addr} {xs : List Int} {S : Nat → Prop} {n : Nat} (h : NC w B (.slice A n c) xs S) (hp : 0 < xs.length) : ∃ b, A = some ⟨b, 0, none⟩ ∧ ∀ j, j < xs.length → w.cell? ⟨b, j, none⟩ = some (.int .i64 (xs.getD j 0)) := by
  rcases h.own.2 with ⟨h1, h2⟩ | ⟨b, cap, cur, h1, _⟩
  · omega
  · simp only [Value.slice.injEq] at h1
    obtain ⟨rfl, rfl, rfl⟩ := h1
    refine ⟨b, rfl, fun j hj => ?_⟩
    rw [h.own.cellAt j (by omega)]
    simp [List.getD_eq_getElem?_getD, List.getElem?_eq_getElem hj]

/-- Two empty rows are laid. -/
theorem All.lits {w : World} {B gu gd : Nat} {L1 L2 : List E} {n1 n2 : Int} {va vb : Value} {xs ys : List Int} {c : Nat → Nat} (h : All w B gu gd L1 n1 L2 n2 va xs vb ys c) :
    (∃ c', All ((w.alloc (.cells #[] 3)).alloc (.cells #[] 3)) B gu gd L1 n1 L2 n2 (.slice (some ⟨w.heap.size, 0, none⟩) 0 0) [] (.slice (some ⟨w.heap.size + 1, 0, none⟩) 0 0) [] c') := by
  have hB := h.hB
  have hk : Kept w ((w.alloc (.cells #[] 3)).alloc (.cells #[] 3)) (fun _ => False) := ((Kept.refl w _).alloc _).alloc _
  have hk2 : Kept (w.alloc (.cells #[] 3)) ((w.alloc (.cells #[] 3)).alloc (.cells #[] 3)) (fun _ => False) := (Kept.refl _ _).alloc _
  have o1 := World.ownsRow_lit (base := B) (e := 3) (size := 1) w #[] 0 hB (by omega) rfl
  have o2 := World.ownsRow_lit (base := B) (e := 3) (size := 1) (w.alloc (.cells #[] 3)) #[] 0 (by simp; omega) (by omega) rfl
  rw [show (w.alloc (.cells #[] 3)).heap.size = w.heap.size + 1 from by simp] at o2
  refine ⟨fun k => if k < w.heap.size then c k else if k = w.heap.size then 3 else 4,
    (h.up.recol (T := fun k => (if k < w.heap.size then c k else if k = w.heap.size then 3 else 4) = 1) (fun k hk h => by rw [if_pos hk]; exact h)).kept hk (fun _ _ h => h),
    (h.dn.recol (T := fun k => (if k < w.heap.size then c k else if k = w.heap.size then 3 else 4) = 2) (fun k hk h => by rw [if_pos hk]; exact h)).kept hk (fun _ _ h => h),
    ⟨own_kept o1 hk2 (fun _ _ h => h), fun k hk => ?_⟩, ⟨o2, fun k hk => ?_⟩, by simp; omega⟩
  · have := Option.some.inj (show some w.heap.size = some k from hk)
    subst this
    simp
  · have := Option.some.inj (show some (w.heap.size + 1) = some k from hk)
    subst this
    show (if w.heap.size + 1 < w.heap.size then _ else if w.heap.size + 1 = w.heap.size then 3 else 4) = 4
    rw [if_neg (by omega), if_neg (by omega)]

theorem le_max {n : Nat} (h : n + 1 ≤ 201) : n + 1 ≤ maxLen := by unfold maxLen; omega
theorem le_row {n : Nat} (h : n + 1 ≤ 201) : (n + 1) * 8 ≤ 140737488355328 := by omega
set_option maxHeartbeats 4000000 in
set_option maxRecDepth 100000 in
theorem great_any (A : Option Addr) (n cap : Nat) (zs : List Int) (w : World) (hn : n ≤ 200) (hA : ArgI w A n zs) :
    Calls Try.prog 5 #[.slice A n cap] w fun e w' => e = .returned (.bool true) ∧ Below w.heap.size w w' := by
  have HA := Aside0.mk hA
  clear hA
  go_enter Try.func5, Try.ntmps5
  go_wp2_with (first | (go_at_call 6; (with_reducible refine (head_any _).mono ?_); rintro e w1 ⟨rfl, HB⟩; have HB0 := Aside0.mk HB; clear HB) | (go_at_call 12; (with_reducible refine (new_any 13 _).mono ?_); rintro e w2 ⟨rfl, rfl⟩) | (go_at_call 12; (with_reducible refine (new_any 17 _).mono ?_); rintro e w2 ⟨rfl, rfl⟩))
  have hgw : w.heap.size ≤ w1.heap.size := HB0.out.size
  have G0 := Aside0.mk (below_alloc0 (below_alloc0 HB0.out (.cells #[.func (.func 13) #[] #[], .slice none 0 0, .int .i64 0] 53)) (.cells #[.func (.func 17) #[] #[], .slice none 0 0, .int .i64 0] 53))
  have S0 := Aside0.mk (All.start w.heap.size w1 hgw)
  go_loopw [23] (fun s23 wr => ∃ i : Nat, s23 = .int .i64 (i : Int) ∧ Aside0 (i ≤ n) ∧ Aside0 (∃ c, All wr w.heap.size w1.heap.size (w1.heap.size + 1) (ent zs i) (i : Int) (ent zs i) (i : Int) (.slice none 0 0) [] (.slice none 0 0) [] c) ∧ Aside0 (Below w.heap.size w wr)) (fun s23 _ => n - (intOf s23).toNat)
  case atStart => exact ⟨0, rfl, ⟨by omega⟩, S0, G0⟩
  case round =>
    obtain ⟨i, rfl, Hi, HH, HB⟩ := hrel
    clear S0 G0
    by_cases hlt : i < n
    · obtain ⟨ad, rfl, hc⟩ := (HA.out.below HB.out).2 (by omega)
      have hci := hc i hlt
      clear hc
      obtain ⟨c0, HS0⟩ := HH.out
      have P := Aside0.mk (HS0.push_up (zs.getD i 0) (by rw [ent_length]; omega) (by omega) (by omega))
      have EL := Aside0.mk (ent_length zs i)
      clear HS0
      obtain ⟨x, hx⟩ : ∃ x, zs.getD i 0 = x := ⟨_, rfl⟩
      rw [hx] at hci P
      have HX := Aside0.mk hx
      clear hx
      go_wp2_with (first | (go_at_call 14; (with_reducible refine (P.out).mono ?_); rintro e w3 ⟨rfl, ⟨c3, h3⟩, b3⟩; have H3 := Aside0.mk h3; have B3 := Aside0.mk b3; clear h3 b3) | (go_at_call 14; (with_reducible refine (H3.out.push_dn x (by rw [EL.out]; omega) (by omega) (by omega)).mono ?_); rintro e w4 ⟨rfl, ⟨c4, h4⟩, b4⟩; have H4 := Aside0.mk h4; have B4 := Aside0.mk b4; clear h4 b4))
      go_roundw
      case rel => exact ⟨i + 1, by go_num, ⟨by omega⟩, ⟨c4, by rw [ent_succ, HX.out]; have := H4.out; rwa [show (((i + 1 : Nat) : Int)) = (i : Int) + 1 from by omega]⟩, ⟨(HB.out.trans B3.out).trans B4.out⟩⟩
      case measure => simp [intOf]; omega
    · obtain rfl : n = i := by have := Hi.out; omega
      obtain ⟨wa, rfl⟩ : ∃ wa : World, wa = wr := ⟨_, rfl⟩
      have HL := Aside0.mk HA.out.1
      have SS := Aside0.mk (show Great zs 0 (ent zs n) (ent zs n) [] [] from by have := Great.start zs; rwa [HL.out] at this)
      have S1 := Aside0.mk (show ∃ c', All ((wa.alloc (.cells #[] 3)).alloc (.cells #[] 3)) w.heap.size w1.heap.size (w1.heap.size + 1) (ent zs n) (n : Int) (ent zs n) (n : Int) (.slice (some ⟨wa.heap.size, 0, none⟩) 0 0) [] (.slice (some ⟨wa.heap.size + 1, 0, none⟩) 0 0) [] c' from by obtain ⟨c, h⟩ := HH.out; exact h.lits)
      have G1 := Aside0.mk (show Below w.heap.size w ((wa.alloc (.cells #[] 3)).alloc (.cells #[] 3)) from below_alloc0 (below_alloc0 HB.out _) _)
      clear Hi HH
      go_wp2
      go_loopw [7, 8, 38] (fun s7 s8 s38 wr => ∃ (i : Nat) (L1 L2 : List E) (xs ys : List Int), s38 = .int .i64 (i : Int) ∧ Aside0 (i ≤ n) ∧ Aside0 (Great zs i L1 L2 xs ys) ∧ Aside0 (∃ c, All wr w.heap.size w1.heap.size (w1.heap.size + 1) L1 (n : Int) L2 (n : Int) s7 xs s8 ys c) ∧ Aside0 (Below w.heap.size w wr)) (fun _ _ s38 _ => n - (intOf s38).toNat)
      case atStart => exact ⟨0, _, _, [], [], rfl, ⟨by omega⟩, SS, S1, G1⟩
      case round =>
        obtain ⟨i, L1, L2, xs, ys, rfl, Hi, HG, HH, HB1⟩ := hrel
        clear SS S1 G1
        by_cases hlt : i < n
        · have hzl := HL.out
          have l1 := HG.out.l1
          have l2 := HG.out.l2
          have la := HG.out.la
          have lb := HG.out.lb
          obtain ⟨c0, HS0⟩ := HH.out
          obtain ⟨i0, hi, hz0, hz1, hz2⟩ := info_parts info3
          obtain ⟨x, L1', hp, hc1⟩ := HS0.pop_up (by omega) (by omega)
          have P1 := Aside0.mk hc1
          have HP := Aside0.mk hp
          have L2b := Aside0.mk (show L2.length < 1000000 ∧ 0 < L2.length from ⟨by omega, by omega⟩)
          have XL := Aside0.mk (show xs.length + 1 ≤ 201 ∧ ys.length + 1 ≤ 201 from ⟨by omega, by omega⟩)
          clear hp hc1 HS0 hzl l1 l2 la lb
          go_wp2_with (first | (go_at_call 15; (with_reducible refine (P1.out).mono ?_); rintro e w3 ⟨rfl, ⟨c3, h3⟩, b3⟩; obtain ⟨y, L2', hq, hc2⟩ := h3.pop_dn L2b.out.1 L2b.out.2; have P2 := Aside0.mk hc2; have HQ := Aside0.mk hq; have B3 := Aside0.mk b3; clear h3 b3 hq hc2) | (go_at_call 15; (with_reducible refine (P2.out).mono ?_); rintro e w4 ⟨rfl, ⟨c4, h4⟩, b4⟩; have H4 := Aside0.mk h4; have B4 := Aside0.mk b4; clear h4 b4) | (at_builtin; refine wpList_append_own_at _ rfl _ _ 37 rfl w.heap.size 3 i0 (.int .i64 0) 1 8 Try.underlying37 hi hz0 hz1 hz2 rfl (by decide) _ _ _ rfl (H4.out.a.own.alloc _) ⟨w4.heap.size, 0, none⟩ 1 1 [.int .i64 x] rfl rfl (cell_one_new _ _ _) (by simp [Value.oneCell']) (le_max XL.out.1) (le_row XL.out.1) (size_alloc_le H4.out.hB _) ?_; intro v5 w5 ho hg _ hat; obtain ⟨⟨c5, h5⟩, b5⟩ := H4.out.grow_a ho hg hat; have H5 := Aside0.mk h5; have B5 := Aside0.mk b5; clear ho hg hat h5 b5) | (at_builtin; refine wpList_append_own_at _ rfl _ _ 37 rfl w.heap.size 3 i0 (.int .i64 0) 1 8 Try.underlying37 hi hz0 hz1 hz2 rfl (by decide) _ _ _ rfl (H5.out.b.own.alloc _) ⟨w5.heap.size, 0, none⟩ 1 1 [.int .i64 y] rfl rfl (cell_one_new _ _ _) (by simp [Value.oneCell']) (le_max XL.out.2) (le_row XL.out.2) (size_alloc_le H5.out.hB _) ?_; intro v6 w6 ho hg _ hat; obtain ⟨⟨c6, h6⟩, b6⟩ := H5.out.grow_b ho hg hat; have H6 := Aside0.mk h6; have B6 := Aside0.mk b6; clear ho hg hat h6 b6))
          go_roundw
          case rel => exact ⟨i + 1, L1', L2', xs ++ [x], ys ++ [y], by go_num, ⟨by omega⟩, ⟨HG.out.step HP.out HQ.out⟩, ⟨c6, H6.out⟩, ⟨(((HB1.out.trans B3.out).trans B4.out).trans B5.out).trans B6.out⟩⟩
          case measure => simp [intOf]; omega
        · obtain rfl : n = i := by have := Hi.out; omega
          obtain ⟨wb, rfl⟩ : ∃ wb : World, wb = wr := ⟨_, rfl⟩
          have hfin : L1 = [] ∧ L2 = [] ∧ ∀ k, k < n → xs.getD k 0 = ys.getD (n - 1 - k) 0 := by have h := HG.out; have := HL.out; subst this; exact h.finish
          obtain ⟨rfl, rfl, heq⟩ := hfin
          have HEQ := Aside0.mk heq
          obtain ⟨c0, HS0⟩ := HH.out
          obtain ⟨A1, k1, hv1⟩ := HS0.a.slice
          obtain ⟨A2, k2, hv2⟩ := HS0.b.slice
          have la := HG.out.la
          have lb := HG.out.lb
          rw [la] at hv1
          rw [lb] at hv2
          subst hv1 hv2
          have H9 := Aside0.mk HS0
          have P8 := Aside0.mk HS0.up
          have P9 := Aside0.mk HS0.dn
          have HS8 := Aside0.mk HB1.out.size
          have LAB := Aside0.mk (And.intro la lb)
          clear heq HS0 HH Hi HG la lb
          go_wp2
          go_loopw [67] (fun s67 wr => ∃ k : Nat, s67 = .int .i64 (k : Int) ∧ Aside0 (k ≤ n) ∧ Aside0 (Below wb.heap.size wb wr)) (fun s67 _ => n - (intOf s67).toNat)
          case atStart => exact ⟨0, rfl, ⟨by omega⟩, ⟨Below.refl _ _⟩⟩
          case round =>
            obtain ⟨k, rfl, Hk, HBL⟩ := hrel
            by_cases hkn : k < n
            · obtain ⟨b1, rfl, hc1⟩ := (H9.out.a.kept (Kept.of_below HBL.out (fun _ => False)) (fun _ _ h => h)).at_ (by rw [LAB.out.1]; omega)
              obtain ⟨b2, rfl, hc2⟩ := (H9.out.b.kept (Kept.of_below HBL.out (fun _ => False)) (fun _ _ h => h)).at_ (by rw [LAB.out.2]; omega)
              have e1 := hc1 k (by rw [LAB.out.1]; omega)
              have e2 := hc2 (n - 1 - k) (by rw [LAB.out.2]; omega)
              rw [← HEQ.out k hkn] at e2
              clear hc1 hc2
              have hj : ((n : Int) - 1 - (k : Int)).toNat = n - 1 - k := by omega
              have hj0 : 0 ≤ (n : Int) - 1 - (k : Int) := by omega
              have hj1 : (n : Int) - 1 - (k : Int) < n := by omega
              go_wp2
              go_region
              all_goals go_wp2
              all_goals go_roundw
              all_goals first
                | exact ⟨k + 1, by go_num, ⟨by omega⟩, ⟨by repeat (first | exact HBL.out | apply below_drewN | apply below_drew)⟩⟩
                | (simp [intOf]; omega)
            · have Q8 := Aside0.mk (P8.out.kept (Kept.of_below HBL.out (fun _ => False)) (fun _ _ h => h))
              have Q9 := Aside0.mk (P9.out.kept (Kept.of_below HBL.out (fun _ => False)) (fun _ _ h => h))
              have HFB := Aside0.mk (HB1.out.trans (HBL.out.mono (HS8.out)))
              have R8 := Aside0.mk (len_HC w1.heap.size w.heap.size [] (n : Int) _ Q8.out)
              have R9 := Aside0.mk (len_HC (w1.heap.size + 1) w.heap.size [] (n : Int) _ Q9.out)
              go_wp2_with (first | (go_at_call 16; (with_reducible refine (R8.out).mono ?_); rintro e w8 ⟨rfl, rfl⟩) | (go_at_call 16; (with_reducible refine (R9.out).mono ?_); rintro e w9 ⟨rfl, rfl⟩))
              go_ret
              exact ⟨rfl, HFB.out⟩
theorem MergeGreat_walk (a : Option Addr) (len cap : Nat) (z : List Int) (w : World)
    (h : (a = none ∧ len = 0 ∧ cap = 0 ∧ z = []) ∨ ∃ x, a = some x ∧ len ≤ cap ∧ cap ≤ maxLen ∧ z.length = cap ∧ (∀ i, i < z.length → w.cell? (x.add i) = some (.int .i64 (z.getD i 0))) ∧ ∀ n ∈ z, (Lit.int .i64 n).wf = true) (y : len * 8 ≤ 140737488351232) :
    Calls Try.prog 5 #[.slice a len cap] w fun e w' => e = .returned (.bool true) ∧ Below w.heap.size w w' := by
  obtain ⟨h1, h2⟩ := ArgI.of_row h
  by_cases c : len ≤ 200
  · exact great_any a len cap _ w c h1
  · exact great_long a len cap w (by omega) h2
end Go.Proofs.Ytchkeanjekoghaa.Hp
