/- MergeSorts: for whatever list, what is pushed is popped in order. No condition (the law itself asks nothing of more than 200). -/
import Derived.Test.YtchkeanjekoghaaHpG
namespace Go.Proofs.Ytchkeanjekoghaa.Hp
open Go.RowKit Go.Shelf
set_option linter.unusedVariables false
set_option linter.unusedSimpArgs false

def bv (a : Int) : BitVec 64 := BitVec.ofInt 64 a
def In64 (x : Int) : Prop := -9223372036854775808 ≤ x ∧ x ≤ 9223372036854775807
theorem wrap_bv (b : BitVec 64) : bv (IntKind.i64.wrap (b.toNat : Int)) = b ∧ In64 (IntKind.i64.wrap (b.toNat : Int)) := by
  have h := b.isLt
  constructor
  · apply BitVec.eq_of_toNat_eq
    unfold bv
    rw [BitVec.toNat_ofInt, IntKind.wrap_i64]
    omega
  · rw [IntKind.wrap_i64]
    unfold In64
    omega
theorem xor_facts (a b : Int) : bv (Go.bits .xor .i64 a b) = bv a ^^^ bv b ∧ In64 (Go.bits .xor .i64 a b) := wrap_bv (bv a ^^^ bv b)
theorem bv_zero {a : Int} (h : bv a = 0#64) (hi : In64 a) : a = 0 := by
  have h2 := congrArg BitVec.toNat h
  unfold bv at h2
  rw [BitVec.toNat_ofInt] at h2
  unfold In64 at hi
  simp at h2
  omega
def bx : List Int → BitVec 64
  | [] => 0#64
  | a :: l => bv a ^^^ bx l
theorem bx_append (l m : List Int) : bx (l ++ m) = bx l ^^^ bx m := by
  induction l with
  | nil => simp [bx]
  | cons a l ih => simp [bx, ih, BitVec.xor_assoc]
theorem bx_perm {l m : List Int} (h : l.Perm m) : bx l = bx m := by
  induction h with
  | nil => rfl
  | cons a _ ih => simp [bx, ih]
  | swap a b l => simp only [bx]; rw [← BitVec.xor_assoc, ← BitVec.xor_assoc, BitVec.xor_comm (bv b)]
  | trans _ _ h1 h2 => exact h1.trans h2

def ent (zs : List Int) (i : Nat) : List E := (List.range i).map fun k => (zs.getD k 0, (k : Int))
theorem ent_succ (zs : List Int) (i : Nat) : ent zs (i + 1) = ent zs i ++ [(zs.getD i 0, (i : Int))] := by
  unfold ent
  rw [List.range_succ, List.map_append]
  rfl
theorem ent_length (zs : List Int) (i : Nat) : (ent zs i).length = i := by simp [ent]
theorem ent_vals (zs : List Int) : (ent zs zs.length).map Prod.fst = zs := by
  refine List.ext_getElem (by simp [ent]) ?_
  intro k h1 h2
  simp [ent, List.getD_eq_getElem?_getD, h2]
theorem take_succ_bx (zs : List Int) (k : Nat) (h : k < zs.length) : bx (zs.take (k + 1)) = bx (zs.take k) ^^^ bv (zs.getD k 0) := by
  rw [List.take_succ_eq_append_getElem h, bx_append]
  simp [bx, List.getD_eq_getElem?_getD, h]

/-- What has been popped so far, and what is left. -/
structure Sorting (zs : List Int) (i : Nat) (L : List E) (last sum : Int) : Prop where
  ex : ∃ P : List Int, zs.Perm (P ++ L.map Prod.fst) ∧ bv sum = bx P ∧ In64 sum ∧ P.length = i
  len : i + L.length = zs.length
  ge : 0 < i → ∀ y ∈ L, last ≤ y.1
theorem Sorting.start (zs : List Int) : Sorting zs 0 (ent zs zs.length) 0 0 :=
  ⟨⟨[], by rw [ent_vals]; exact List.Perm.refl _, rfl, by unfold In64; omega, rfl⟩, by rw [ent_length]; omega, fun h => by omega⟩
theorem Sorting.step {zs : List Int} {i : Nat} {L L' : List E} {last sum x : Int} (h : Sorting zs i L last sum) (hp : Popped ltI L x L') :
    Sorting zs (i + 1) L' x (Go.bits .xor .i64 sum x) ∧ (0 < i → last ≤ x) := by
  obtain ⟨P, h1, h2, h3, h4⟩ := h.ex
  obtain ⟨c, p1, p2⟩ := hp
  have hl := p1.length_eq
  have hlen := h.len
  refine ⟨⟨⟨P ++ [x], ?_, ?_, (xor_facts sum x).2, by simp [h4]⟩, by simp at hl; omega, fun _ y hy => ?_⟩, fun h0 => ?_⟩
  · have := p1.map Prod.fst
    refine h1.trans ((this.append_left P).trans ?_)
    simp
  · rw [(xor_facts sum x).1, bx_append, h2]
    simp [bx]
  · have := p2 y (p1.mem_iff.2 (List.mem_cons_of_mem _ hy))
    unfold Le bef at this
    simp at this
    omega
  · exact h.ge h0 (x, c) (p1.mem_iff.2 (by simp))
theorem Sorting.xor_end {zs : List Int} {L : List E} {last sum : Int} (h : Sorting zs zs.length L last sum) : L = [] ∧ bv sum = bx zs ∧ In64 sum := by
  obtain ⟨P, h1, h2, h3, h4⟩ := h.ex
  have := h.len
  obtain rfl : L = [] := List.length_eq_zero_iff.1 (by omega)
  refine ⟨rfl, ?_, h3⟩
  rw [h2, bx_perm h1]
  simp
set_option maxHeartbeats 2000000 in
set_option maxRecDepth 100000 in
theorem sorts_long (A : Option Addr) (n cap : Nat) (w : World) (hn : 200 < n) (hm : n ≤ 9223372036854775807) :
    Calls Try.prog 4 #[.slice A n cap] w fun e w' => e = .returned (.bool true) ∧ Below w.heap.size w w' := by
  go_enter Try.func4, Try.ntmps4
  go_wp2_with (first | (go_at_call 6; (with_reducible refine (head_any _).mono ?_); rintro e w1 ⟨rfl, HB⟩))
  go_ret
  exact ⟨rfl, HB⟩

/-- A slice of numbers that came in, as its elements read. -/
def ArgI (w : World) (A : Option Addr) (n : Nat) (zs : List Int) : Prop := zs.length = n ∧ (0 < n → ∃ ad, A = some ad ∧ ∀ j, j < n → w.cell? (ad.add j) = some (.int .i64 (zs.getD j 0)))
theorem ArgI.below {w W : World} {A : Option Addr} {n : Nat} {zs : List Int} (h : ArgI w A n zs) (hb : Below w.heap.size w W) : ArgI W A n zs :=
  ⟨h.1, fun hn => by
    obtain ⟨ad, e, hc⟩ := h.2 hn
    exact ⟨ad, e, fun j hj => (hb.cell (World.block_lt_of_cell? w _ (hc j hj))).trans (hc j hj)⟩⟩

set_option maxHeartbeats 4000000 in
set_option maxRecDepth 100000 in
theorem sorts_any (A : Option Addr) (n cap : Nat) (zs : List Int) (w : World) (hn : n ≤ 200) (hA : ArgI w A n zs) :
    Calls Try.prog 4 #[.slice A n cap] w fun e w' => e = .returned (.bool true) ∧ Below w.heap.size w w' := by
  have HA := Aside0.mk hA
  clear hA
  go_enter Try.func4, Try.ntmps4
  go_wp2_with (first | (go_at_call 6; (with_reducible refine (head_any _).mono ?_); rintro e w1 ⟨rfl, HB⟩; have HB0 := Aside0.mk HB; clear HB) | (go_at_call 12; (with_reducible refine (new_any 13 _).mono ?_); rintro e w2 ⟨rfl, rfl⟩))
  have hgw : w.heap.size ≤ w1.heap.size := HB0.out.size
  have G0 := Aside0.mk (show Below w.heap.size w (w1.alloc (.cells #[.func (.func 13) #[] #[], .slice none 0 0, .int .i64 0] 53)) from below_alloc0 HB0.out _)
  have S0 := Aside0.mk (new_HS 13 w.heap.size ltI w1)
  go_loopw [23] (fun s23 wr => ∃ i : Nat, s23 = .int .i64 (i : Int) ∧ Aside0 (i ≤ n) ∧ Aside0 (HS wr w.heap.size w1.heap.size 13 ltI (ent zs i) (i : Int)) ∧ Aside0 (Below w.heap.size w wr)) (fun s23 _ => n - (intOf s23).toNat)
  case atStart => exact ⟨0, rfl, ⟨by omega⟩, S0, G0⟩
  case round =>
    obtain ⟨i, rfl, Hi, HH, HB⟩ := hrel
    clear S0 G0
    by_cases hlt : i < n
    · obtain ⟨ad, rfl, hc⟩ := (HA.out.below HB.out).2 (by omega)
      have hci := hc i hlt
      clear hc
      have P := Aside0.mk (push_HS before_59 good_lt w1.heap.size w.heap.size (ent zs i) (i : Int) (zs.getD i 0) wr HH.out (by rw [ent_length]; omega) HB.out.size hgw (by omega) (by omega))
      obtain ⟨x, hx⟩ : ∃ x, zs.getD i 0 = x := ⟨_, rfl⟩
      rw [hx] at hci P
      have HX := Aside0.mk hx
      clear hx
      go_wp2_with (first | (go_at_call 14; (with_reducible refine (P.out).mono ?_); rintro e w3 ⟨rfl, h3, b3⟩; have H3 := Aside0.mk h3; have B3 := Aside0.mk b3; clear h3 b3))
      go_roundw
      case rel => exact ⟨i + 1, by go_num, ⟨by omega⟩, ⟨by rw [ent_succ, HX.out]; have := H3.out; rwa [show (((i + 1 : Nat) : Int)) = (i : Int) + 1 from by omega]⟩, ⟨HB.out.trans B3.out⟩⟩
      case measure => simp [intOf]; omega
    · obtain rfl : n = i := by have := Hi.out; omega
      obtain ⟨wa, rfl⟩ : ∃ wa : World, wa = wr := ⟨_, rfl⟩
      have HL := Aside0.mk HA.out.1
      have SS := Aside0.mk (show Sorting zs 0 (ent zs n) 0 0 from by have := Sorting.start zs; rwa [HL.out] at this)
      clear Hi
      go_wp2
      go_loopw [6, 7, 8, 33] (fun s6 s7 s8 s33 wr => ∃ (i : Nat) (L : List E) (last sum : Int), s6 = .int .i64 (i : Int) ∧ s7 = .int .i64 last ∧ s8 = .int .i64 sum ∧ s33 = .int .i64 (i : Int) ∧ Aside0 (i ≤ n) ∧ Aside0 (Sorting zs i L last sum) ∧ Aside0 (HS wr w.heap.size w1.heap.size 13 ltI L (n : Int)) ∧ Aside0 (Below w.heap.size w wr)) (fun _ _ _ s33 _ => n - (intOf s33).toNat)
      case atStart => exact ⟨0, ent zs n, 0, 0, rfl, rfl, rfl, rfl, ⟨by omega⟩, SS, HH, HB⟩
      case round =>
        obtain ⟨i, L, last, sum, rfl, rfl, rfl, rfl, Hi, HS1, HH1, HB1⟩ := hrel
        clear HH HB SS
        by_cases hlt : i < n
        · have hlen := HS1.out.len
          have hzl := HL.out
          obtain ⟨x, L', hp, hc⟩ := pop_HS before_59 good_lt w1.heap.size w.heap.size L (n : Int) wr HH1.out (by omega) (by omega) HB1.out.size hgw
          have P := Aside0.mk hc
          have ST := Aside0.mk (HS1.out.step hp)
          clear hlen hzl hc hp
          by_cases h0 : 0 < i
          · have hge := ST.out.2 h0
            go_wp2_with (first | (go_at_call 15; (with_reducible refine (P.out).mono ?_); rintro e w3 ⟨rfl, h3, b3⟩; have H3 := Aside0.mk h3; have B3 := Aside0.mk b3; clear h3 b3))
            go_roundw
            case rel => exact ⟨i + 1, L', x, Go.bits .xor .i64 sum x, by go_num, rfl, rfl, by go_num, ⟨by omega⟩, ⟨ST.out.1⟩, H3, ⟨HB1.out.trans B3.out⟩⟩
            case measure => simp [intOf]; omega
          · obtain rfl : 0 = i := by omega
            go_wp2_with (first | (go_at_call 15; (with_reducible refine (P.out).mono ?_); rintro e w3 ⟨rfl, h3, b3⟩; have H3 := Aside0.mk h3; have B3 := Aside0.mk b3; clear h3 b3))
            go_roundw
            case rel => exact ⟨0 + 1, L', x, Go.bits .xor .i64 sum x, by go_num, rfl, rfl, by go_num, ⟨by omega⟩, ⟨ST.out.1⟩, H3, ⟨HB1.out.trans B3.out⟩⟩
            case measure => simp [intOf]; omega
        · obtain rfl : n = i := by have := Hi.out; omega
          obtain ⟨wb, rfl⟩ : ∃ wb : World, wb = wr := ⟨_, rfl⟩
          have hfin : L = [] ∧ bv sum = bx zs ∧ In64 sum := by have h := HS1.out; have := HL.out; subst this; exact h.xor_end
          obtain ⟨rfl, hb, hi64⟩ := hfin
          have HBX := Aside0.mk hb
          have HI64 := Aside0.mk hi64
          clear hb hi64 Hi
          have HAr := Aside0.mk (HA.out.below HB1.out)
          go_wp2
          go_loop [8, 60] (fun s8 s60 => ∃ (k : Nat) (s : Int), s8 = .int .i64 s ∧ s60 = .int .i64 (k : Int) ∧ Aside0 (k ≤ n) ∧ Aside0 (bv s = bx zs ^^^ bx (zs.take k) ∧ In64 s)) (fun _ s60 => n - (intOf s60).toNat)
          case atStart => exact ⟨0, sum, rfl, rfl, ⟨by omega⟩, ⟨by rw [HBX.out]; simp [bx], HI64.out⟩⟩
          case round =>
            obtain ⟨k, s, rfl, rfl, Hk, HX⟩ := hrel
            by_cases hkn : k < n
            · obtain ⟨ad, rfl, hc⟩ := HAr.out.2 (by omega)
              have hck := hc k hkn
              clear hc
              obtain ⟨x, hx⟩ : ∃ x, zs.getD k 0 = x := ⟨_, rfl⟩
              rw [hx] at hck
              have HXX := Aside0.mk hx
              clear hx
              go_wp2
              go_round
              case rel => exact ⟨k + 1, Go.bits .xor .i64 s x, rfl, by go_num, ⟨by omega⟩, ⟨by rw [(xor_facts s x).1, HX.out.1, take_succ_bx zs k (by rw [HL.out]; exact hkn), HXX.out, BitVec.xor_assoc], (xor_facts s x).2⟩⟩
              case measure => simp [intOf]; omega
            · have hs0 : s = 0 := by
                have h := HX.out
                refine bv_zero ?_ h.2
                rw [h.1, List.take_of_length_le (by rw [HL.out]; omega)]
                simp
              subst hs0
              have P0 := Aside0.mk (pop_HS0 w1.heap.size w.heap.size (n : Int) wb HH1.out)
              have P1 := Aside0.mk (len_HS w1.heap.size w.heap.size [] (n : Int) wb HH1.out)
              go_wp2_with (first | (go_at_call 15; (with_reducible refine (P0.out).mono ?_); rintro e w4 ⟨rfl, rfl⟩) | (go_at_call 16; (with_reducible refine (P1.out).mono ?_); rintro e w4 ⟨rfl, rfl⟩))
              go_ret
              exact ⟨rfl, HB1.out⟩

/-- A row as the law's row tells it. -/
theorem ArgI.of_row {w : World} {a : Option Addr} {len cap : Nat} {z : List Int}
    (h : (a = none ∧ len = 0 ∧ cap = 0 ∧ z = []) ∨ ∃ x, a = some x ∧ len ≤ cap ∧ cap ≤ maxLen ∧ z.length = cap ∧ (∀ i, i < z.length → w.cell? (x.add i) = some (.int .i64 (z.getD i 0))) ∧ ∀ n ∈ z, (Lit.int .i64 n).wf = true) : ArgI w a len (z.take len) ∧ len ≤ 9223372036854775807 := by
  rcases h with ⟨rfl, rfl, rfl, rfl⟩ | ⟨x, rfl, h1, h2, h3, h4, _⟩
  · exact ⟨⟨rfl, fun h => by omega⟩, by omega⟩
  · refine ⟨⟨by rw [List.length_take]; omega, fun _ => ⟨x, rfl, fun j hj => ?_⟩⟩, by unfold maxLen at h2; omega⟩
    rw [h4 j (by omega)]
    simp [List.getD_eq_getElem?_getD, List.getElem?_take, hj]
theorem MergeSorts_walk (a : Option Addr) (len cap : Nat) (z : List Int) (w : World)
    (h : (a = none ∧ len = 0 ∧ cap = 0 ∧ z = []) ∨ ∃ x, a = some x ∧ len ≤ cap ∧ cap ≤ maxLen ∧ z.length = cap ∧ (∀ i, i < z.length → w.cell? (x.add i) = some (.int .i64 (z.getD i 0))) ∧ ∀ n ∈ z, (Lit.int .i64 n).wf = true) (y : len * 8 ≤ 140737488351232) :
    Calls Try.prog 4 #[.slice a len cap] w fun e w' => e = .returned (.bool true) ∧ Below w.heap.size w w' := by
  obtain ⟨h1, h2⟩ := ArgI.of_row h
  by_cases c : len ≤ 200
  · exact sorts_any a len cap _ w c h1
  · exact sorts_long a len cap w (by omega) h2
end Go.Proofs.Ytchkeanjekoghaa.Hp
