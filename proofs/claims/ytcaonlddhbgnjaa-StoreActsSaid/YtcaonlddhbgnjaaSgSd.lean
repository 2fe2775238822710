/- The store's laws: what a step makes, plain; a store beside other sets; the head. -/
import Derived.Test.YtcaonlddhbgnjaaSgSc
import Derived.Test.YtcaonlddhbgnjaaSgRi
import Derived.Test.YtcaonlddhbgnjaaSgZm
import Derived.Test.YtcaonlddhbgnjaaSgK
import Derived.Test.YtcaonlddhbgnjaaSgM
import Derived.Test.YtcaonlddhbgnjaaSgL
namespace Go.Proofs.Ytcaonlddhbgnjaa.Mg
open Go.RowKit Go.Shelf Go.Proofs.Ytcaonlddhbgnjaa.Sg Go.Proofs.Ytcaonlddhbgnjaa.Hm Go.Proofs.Ytcaonlddhbgnjaa.Hc
set_option linter.unusedVariables false
set_option linter.unusedSimpArgs false

theorem and_maskS (x : Int) (c : Nat) (hc : c < 9223372036854775808) : ∃ m : Nat, m ≤ c ∧ bits .and .i64 x (c : Int) = (m : Int) := by
  refine ⟨(BitVec.ofInt 64 x &&& BitVec.ofInt 64 (c : Int)).toNat, ?_, ?_⟩
  · rw [BitVec.toNat_and]
    refine Nat.le_trans Nat.and_le_right ?_
    rw [BitVec.ofInt_natCast, BitVec.toNat_ofNat]
    exact Nat.mod_le _ _
  · have h : (BitVec.ofInt 64 x &&& BitVec.ofInt 64 (c : Int)).toNat ≤ c := by
      rw [BitVec.toNat_and]
      refine Nat.le_trans Nat.and_le_right ?_
      rw [BitVec.ofInt_natCast, BitVec.toNat_ofNat]
      exact Nat.mod_le _ _
    show IntKind.i64.wrap _ = _
    rw [IntKind.wrap_i64]
    have e : ∀ k : Nat, k ≤ c → ((k : Int) + 9223372036854775808) % 18446744073709551616 - 9223372036854775808 = (k : Int) := by intro k hk; omega
    exact e _ h
/-- A set that a call hands back, at its pointer. -/
theorem retP {P : Program} {f : FuncId} {args : Array Value} {w : World} {ok : Nat → Prop} {n : Nat} {L : List Row} {B : World → Prop} (h : Calls P f args w fun e w' => ∃ v, e = .returned v ∧ SegAt w' ok v n L ∧ B w') : Calls P f args w fun e w' => ∃ g, e = .returned (.pointer (some ⟨g, 0, none⟩)) ∧ SegAt w' ok (.pointer (some ⟨g, 0, none⟩)) n L ∧ B w' :=
  h.mono fun e w' ⟨v, h1, h2, h3⟩ => by
    obtain ⟨g, cv, hv, _⟩ := h2.ex
    subst hv
    exact ⟨g, h1, h2, h3⟩
theorem norm_self {n : Nat} {l : List Row} (hs : SS l) (hw : ∀ r ∈ l, r.length = n) : norm n l = l := (norm_eq hs (fun x => ⟨fun h => ⟨h, hw x h⟩, fun h => h.1⟩)).symm
theorem norm_wid (n : Nat) (l : List Row) : ∀ r ∈ norm n l, r.length = n := fun r hr => ((mem_norm n l r).1 hr).2
theorem mem_come (W : Nat) (P : Made) (a : List Row) (r : Row) : r ∈ norm W (comeL W P a) ↔ r ∈ a ∧ r.length = W ∧ r ∉ allR P := by
  rw [mem_norm]
  unfold comeL
  rw [List.mem_filter]
  constructor
  · rintro ⟨⟨h1, h2⟩, h3⟩
    refine ⟨h1, h3, fun h => ?_⟩
    rw [(inP_iff r P).2 h] at h2
    simp at h2
  · rintro ⟨h1, h2, h3⟩
    refine ⟨⟨h1, ?_⟩, h2⟩
    cases hb : inP r P with
    | true => exact absurd ((inP_iff r P).1 hb) h3
    | false => simp [h2]
/-- What comes of a set of rows: those that are not there. -/
theorem come_eq (W : Nat) (P : Made) (a : List Row) (F : List Row) (hs : SS a) (hw : ∀ r ∈ a, r.length = W) (hF : ∀ r, r ∈ F ↔ r ∈ allR P) : norm W (comeL W P a) = picked F false a := by
  refine SS.ext (SS_norm _ _) (List.Pairwise.filter _ hs) fun r => ?_
  rw [mem_come]
  unfold picked
  rw [List.mem_filter]
  constructor
  · rintro ⟨h1, _, h3⟩; exact ⟨h1, by simp [mt (hF r).1 h3]⟩
  · rintro ⟨h1, h2⟩; exact ⟨h1, hw r h1, fun h => by simp [(hF r).2 h] at h2⟩
theorem come_nil (W : Nat) (P : Made) (a : List Row) (h : ∀ r ∈ a, r.length = W → r ∈ allR P) : norm W (comeL W P a) = [] := by
  apply List.eq_nil_iff_forall_not_mem.2
  intro r hr
  obtain ⟨h1, h2, h3⟩ := (mem_come W P a r).1 hr
  exact h3 (h r h1 h2)
variable {B g W : Nat} {O : Nat → Prop} {most : Int} {v : Value} {P : Made} {dp : Option Addr} {D : List Row}
theorem come_le (W : Nat) (P : Made) (a : List Row) : (norm W (comeL W P a)).length ≤ a.length := Nat.le_trans (norm_length _ _) (comeL_length _ _ _)
/-- A call that writes to the store's blocks alone leaves what lay ahead of the store. -/
theorem StoreS.frame {w w' : World} (h : StoreS w B O g W most v P dp D) (hk : Kept w w' (fun k => k = g ∨ v.ownBlock = some k)) : Below B w w' :=
  hk.below (Nat.le_of_lt (Nat.lt_of_le_of_lt h.base (Array.getElem?_eq_some_iff.1 h.blk).1)) (fun k hk => hk.elim (fun e => by rw [e]; exact h.base) (fun e => (h.own.lt k e).1))
theorem StoreS.glt {w : World} (h : StoreS w B O g W most v P dp D) : g < w.heap.size ∧ B ≤ w.heap.size := ⟨(Array.getElem?_eq_some_iff.1 h.blk).1, Nat.le_of_lt (Nat.lt_of_le_of_lt h.base (Array.getElem?_eq_some_iff.1 h.blk).1)⟩
/-- Not among the store's own blocks. -/
def OffS (g : Nat) (v : Value) (b : Nat) : Prop := b ≠ g ∧ Off v b
theorem StoreS.offOld {w : World} (h : StoreS w B O g W most v P dp D) {b : Nat} (hb : b < B) : OffS g v b := ⟨fun e => by have := h.base; omega, fun e => by have := (h.own.lt b e).1; omega⟩
theorem StoreS.offNew {w : World} (h : StoreS w B O g W most v P dp D) {b : Nat} (hb : w.heap.size ≤ b) : OffS g v b := ⟨fun e => by have := h.glt.1; omega, fun e => by have := (h.own.lt b e).2; omega⟩
/-- A set beside the store stays while the store changes. -/
theorem seg_beside {w w' : World} {v' x : Value} {n : Nat} {L : List Row} (hx : SegAt w (OffS g v) x n L) (hk : Kept w w' (fun k => k = g ∨ v.ownBlock = some k)) (hv : ∀ k, v'.ownBlock = some k → v.ownBlock = some k ∨ w.heap.size ≤ k) : SegAt w' (OffS g v') x n L :=
  ((hx.mono (ok2 := fun b => OffS g v b ∧ b < w.heap.size) (fun b hb hl => ⟨hb, hl⟩)).stays (hk.stays.mono (fun b hb _ e => e.elim hb.1.1 hb.1.2))).mono (fun b hb _ => ⟨hb.1.1, fun e => (hv b e).elim hb.1.2 (fun h9 => by have := hb.2; omega)⟩)
theorem StoreS.delOff {w : World} (h : StoreS w B O g W most v P dp D) : SegAt w (OffS g v) (.pointer dp) W D := h.del.mono (fun b hb _ => ⟨hb.2.2, hb.2.1⟩)
theorem StoreS.dptr {w : World} (h : StoreS w B O g W most v P dp D) : ∃ gd, dp = some ⟨gd, 0, none⟩ := by
  obtain ⟨k, h1, _⟩ := SegAt.ptrLt h.del
  exact ⟨k, by injection h1⟩

set_option maxHeartbeats 4000000 in
set_option maxRecDepth 100000 in
theorem head11_any (w : World) : Calls Try.prog 21 #[] w fun e w' => e = .returned (.bool true) ∧ Below w.heap.size w w' := by
  have NW := Aside0.mk (snew_any 1 0 w (by omega))
  go_enter Try.func21, Try.ntmps21
  go_wp2_with fail
  refine (NW.out).mono ?_
  rintro e w1 ⟨g, dp, rfl, S1, B1⟩
  have S1 := Aside0.mk S1
  have B1 := Aside0.mk B1
  have L2 := lit_rows w1 [[1], [2]] (by decide) (in64_lits (by decide))
  have B2 := lit_below w1 [[1], [2]] (.cells (hdrs w1.heap.size [[1], [2]]).toArray 46)
  have hN2 : norm 1 [[1], [2]] = [[1], [2]] := by decide
  obtain ⟨W2, hW2⟩ : ∃ W2, (litW w1 [[1], [2]]).alloc (.cells (hdrs w1.heap.size [[1], [2]]).toArray 46) = W2 := ⟨_, rfl⟩
  rw [hW2] at L2 B2
  have M := retP (make_any W2 _ _ 1 _ L2 (by omega) (by decide))
  rw [hN2] at M
  have M := Aside0.mk M
  have S2 := Aside0.mk (S1.out.below B2)
  have HB2 := Aside0.mk (below_trans0 B1.out (Below.mono B2 (Nat.le_refl _)))
  have HW2 := Aside0.mk hW2
  clear L2 B2 hN2 hW2 NW S1
  go_wp2_with fail
  have e2 := HW2.out
  simp only [litW, hdrs, List.map, List.length] at e2
  have M1 := M.out
  rw [← e2] at M1
  refine M1.mono ?_
  rw [e2]
  rintro e w3 ⟨gx, rfl, X3, B3⟩
  have S3 := Aside0.mk (S2.out.below B3)
  have HB3 := Aside0.mk (below_trans0 HB2.out B3)
  have hlo := HB3.out.size
  have hc3 : norm 1 (comeL 1 [] [[1], [2]]) = [[1], [2]] := by decide
  have ST := sstep_any w3 _ _ _ _ S3.out X3.n (by decide) (fun b hb => Nat.le_trans hlo hb) (by simp) (by simp [allR])
  rw [hc3] at ST
  have ST := Aside0.mk ST
  clear M M1 e2 HW2 S2 HB2 X3 B3 hc3
  go_wp2_with fail
  refine (ST.out).mono ?_
  rintro e w4 ⟨v4, P4, dp4, rfl, S4, Q4, K4, V4⟩
  have hP4 : P4.length = 1 := Q4.cnt
  have hl4 : (allR P4).length = 2 := Q4.len
  have hm4 : ∀ r, r ∈ allR P4 ↔ r = [1] ∨ r = [2] := fun r => by rw [Q4.mem]; simp [allR]
  have HB4 := Aside0.mk (HB3.out.trans (S3.out.frame K4))
  have S4 := Aside0.mk S4
  have HM4 := Aside0.mk hm4
  clear ST S3 K4 V4 Q4 hm4
  have L5 := lit_rows w4 [[2], [3]] (by decide) (in64_lits (by decide))
  have B5 := lit_below w4 [[2], [3]] (.cells (hdrs w4.heap.size [[2], [3]]).toArray 46)
  have hN5 : norm 1 [[2], [3]] = [[2], [3]] := by decide
  obtain ⟨W5, hW5⟩ : ∃ W5, (litW w4 [[2], [3]]).alloc (.cells (hdrs w4.heap.size [[2], [3]]).toArray 46) = W5 := ⟨_, rfl⟩
  rw [hW5] at L5 B5
  have M := retP (make_any W5 _ _ 1 _ L5 (by omega) (by decide))
  rw [hN5] at M
  have M := Aside0.mk M
  have S5 := Aside0.mk (S4.out.below B5)
  have HB5 := Aside0.mk (HB4.out.trans (B5.mono HB4.out.size))
  have HW5 := Aside0.mk hW5
  clear L5 B5 hN5 hW5 S4 HB3
  go_wp2_with fail
  have e5 := HW5.out
  simp only [litW, hdrs, List.map, List.length] at e5
  have M1 := M.out
  rw [← e5] at M1
  refine M1.mono ?_
  rw [e5]
  rintro e w6 ⟨gy, rfl, X6, B6⟩
  have S6 := Aside0.mk (S5.out.below B6)
  have HB6 := Aside0.mk (below_trans0 HB5.out B6)
  have hlo6 := HB6.out.size
  have hc6 : norm 1 (comeL 1 P4 [[2], [3]]) = [[3]] := by
    rw [come_eq 1 P4 [[2], [3]] [[1], [2]] (by rw [← (show norm 1 [[2], [3]] = [[2], [3]] by decide)]; exact SS_norm _ _) (by decide) (fun r => by rw [HM4.out]; simp)]
    decide
  have ST := sstep_any w6 _ _ _ _ S6.out X6.n (by decide) (fun b hb => Nat.le_trans hlo6 hb) (by omega) (by rw [hl4]; simp)
  rw [hc6] at ST
  have ST := Aside0.mk ST
  clear M M1 e5 HW5 S5 HB5 X6 B6 hc6 HM4
  go_wp2_with fail
  refine (ST.out).mono ?_
  rintro e w7 ⟨v7, P7, dp7, rfl, S7, Q7, K7, V7⟩
  have hP7 : P7.length = 2 := by rw [Q7.cnt, hP4]; rfl
  have hl7 : (allR P7).length = 3 := by rw [Q7.len, hl4]; rfl
  have HB7 := Aside0.mk (HB6.out.trans (S6.out.frame K7))
  obtain ⟨gd, rfl⟩ := S7.dptr
  have DE := Aside0.mk (sdelta_any w7 S7)
  have S7 := Aside0.mk S7
  have L8 := lit_rows w7 [[3]] (by decide) (in64_lits (by decide))
  have B8 := lit_below w7 [[3]] (.cells (hdrs w7.heap.size [[3]]).toArray 46)
  obtain ⟨W8, hW8⟩ : ∃ W8, (litW w7 [[3]]).alloc (.cells (hdrs w7.heap.size [[3]]).toArray 46) = W8 := ⟨_, rfl⟩
  rw [hW8] at L8 B8
  have IS := Aside0.mk (is_same W8 _ _ gd 1 _ [[3]] (S7.out.del.below B8) L8)
  have S8 := Aside0.mk (S7.out.below B8)
  have HB8 := Aside0.mk (HB7.out.trans (B8.mono HB7.out.size))
  have HW8 := Aside0.mk hW8
  clear L8 B8 hW8 ST S6 K7 V7 Q7
  go_wp2_with fail
  refine (DE.out).mono ?_
  rintro e w' ⟨rfl, rfl⟩
  go_wp2_with fail
  have e8 := HW8.out
  simp only [litW, hdrs, List.map, List.length] at e8
  have I1 := IS.out
  rw [← e8] at I1
  refine I1.mono ?_
  rw [e8]
  rintro e w9 ⟨rfl, B9⟩
  have S9 := S8.out.below B9
  have LE := Aside0.mk (slen_any w9 S9)
  have RU := Aside0.mk (sruns_any w9 S9)
  rw [hl7] at LE
  rw [hP7] at RU
  have HB9 := Aside0.mk (below_trans0 HB8.out B9)
  clear IS I1 e8 HW8 S8 HB8 DE S7 S9 B9
  go_wp2_with (first | (go_at_call 30; (with_reducible refine (LE.out).mono ?_); rintro e w' ⟨rfl, rfl⟩) | (go_at_call 31; (with_reducible refine (RU.out).mono ?_); rintro e w' ⟨rfl, rfl⟩))
  go_ret
  exact ⟨rfl, HB9.out⟩
end Go.Proofs.Ytcaonlddhbgnjaa.Mg
