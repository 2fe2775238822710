/- The store in memory; New, Len, Runs, Delta, Has, Full. -/
import Derived.Test.YtcaonlddhbgnjaaSgMg
import Derived.Deep.RegionHeld3
namespace Go.Proofs.Ytcaonlddhbgnjaa.Mg
open Go.RowKit Go.Shelf Go.Proofs.Ytcaonlddhbgnjaa.Sg Go.Proofs.Ytcaonlddhbgnjaa.Hm Go.Proofs.Ytcaonlddhbgnjaa.Hc
attribute [local go_sem] Oper.semAt_some
set_option linter.unusedVariables false
set_option linter.unusedSimpArgs false

structure Blk5 (w : World) (g : Nat) (c0 c1 c2 c3 c4 : Value) : Prop where
  k0 : w.cell? ⟨g, 0, none⟩ = some c0
  k1 : w.cell? ⟨g, 1, none⟩ = some c1
  k2 : w.cell? ⟨g, 2, none⟩ = some c2
  k3 : w.cell? ⟨g, 3, none⟩ = some c3
  k4 : w.cell? ⟨g, 4, none⟩ = some c4
  f2 : w.frozen? ⟨g, 2, none⟩ = false
  f3 : w.frozen? ⟨g, 3, none⟩ = false
  f4 : w.frozen? ⟨g, 4, none⟩ = false
theorem blk5_facts {w : World} {g : Nat} {c0 c1 c2 c3 c4 : Value} {T : TypeId} (h : w.heap[g]? = some (.cells #[c0, c1, c2, c3, c4] T (0, 0))) : Blk5 w g c0 c1 c2 c3 c4 :=
  ⟨by rw [cell_of_row w g 0 _ _ _ h]; rfl, by rw [cell_of_row w g 1 _ _ _ h]; rfl, by rw [cell_of_row w g 2 _ _ _ h]; rfl, by rw [cell_of_row w g 3 _ _ _ h]; rfl, by rw [cell_of_row w g 4 _ _ _ h]; rfl, frozen_of_row w g 2 _ _ h, frozen_of_row w g 3 _ _ h, frozen_of_row w g 4 _ _ h⟩
def ptrs (P : Made) : List Value := P.map fun q => .pointer q.1
def allR (P : Made) : List Row := (P.map (·.2)).flatten
/-- A store: B: below it lies nothing of its own; g: its block; P: the runs; D: the last rows that came. -/
structure StoreS (w : World) (B : Nat) (O : Nat → Prop) (g W : Nat) (most : Int) (v : Value) (P : Made) (dp : Option Addr) (D : List Row) : Prop where
  blk : w.heap[g]? = some (.cells #[.int .i64 W, .int .i64 most, v, .pointer dp, .int .i64 (allR P).length] 85 (0, 0))
  own : w.ownsRow B 44 1 v P.length (ptrs P)
  made : MadeAt w (fun b => O b ∧ Off v b ∧ b ≠ g) W P
  del : SegAt w (fun b => O b ∧ Off v b ∧ b ≠ g) (.pointer dp) W D
  base : B ≤ g
  nown : some g ≠ v.ownBlock
  ss : ∀ q ∈ P, SS q.2
  ssD : SS D
  wid : W < 1000000
  few : P.length < 1000
  tot : (allR P).length < 100000
  nd : (allR P).Nodup
theorem StoreS.below {w w' : World} {B g W : Nat} {O : Nat → Prop} {most : Int} {v : Value} {P : Made} {dp : Option Addr} {D : List Row} (h : StoreS w B O g W most v P dp D) (hb : Below w.heap.size w w') : StoreS w' B O g W most v P dp D :=
  ⟨(hb.block g (Array.getElem?_eq_some_iff.1 h.blk).1).trans h.blk, (Stays.of_below hb (fun _ => True)).owns h.own (fun _ _ => trivial), h.made.below hb, h.del.below hb, h.base, h.nown, h.ss, h.ssD, h.wid, h.few, h.tot, h.nd⟩
theorem StoreS.mono {w : World} {B g W : Nat} {O O2 : Nat → Prop} {most : Int} {v : Value} {P : Made} {dp : Option Addr} {D : List Row} (h : StoreS w B O g W most v P dp D) (hs : ∀ b, O b → b < w.heap.size → O2 b) : StoreS w B O2 g W most v P dp D :=
  ⟨h.blk, h.own, h.made.mono (fun b hb hl => ⟨hs b hb.1 hl, hb.2⟩), h.del.mono (fun b hb hl => ⟨hs b hb.1 hl, hb.2⟩), h.base, h.nown, h.ss, h.ssD, h.wid, h.few, h.tot, h.nd⟩
/-- What another one keeps that writes neither to the store's blocks. -/
theorem StoreS.kept {w w' : World} {B g W : Nat} {O : Nat → Prop} {S : Nat → Prop} {most : Int} {v : Value} {P : Made} {dp : Option Addr} {D : List Row} (h : StoreS w B O g W most v P dp D) (hk : Kept w w' S) (hO : ∀ b, O b → ¬ S b) (hg : ¬ S g) (hv : ∀ k, v.ownBlock = some k → ¬ S k) : StoreS w' B O g W most v P dp D :=
  ⟨(hk.blk g (Array.getElem?_eq_some_iff.1 h.blk).1 hg).trans h.blk, hk.stays.owns h.own (fun k hk => hv k hk), h.made.stays (hk.stays.mono (fun b hb _ => hO b hb.1)), h.del.stays (hk.stays.mono (fun b hb _ => hO b hb.1)), h.base, h.nown, h.ss, h.ssD, h.wid, h.few, h.tot, h.nd⟩
theorem StoreS.ps {w : World} {B g W : Nat} {O : Nat → Prop} {most : Int} {v : Value} {P : Made} {dp : Option Addr} {D : List Row} (h : StoreS w B O g W most v P dp D) : PsAt w (B ≤ ·) v (P.map (·.1)) :=
  SlAt.of_own0 (E := PtrAt) (xs := P.map (·.1)) h.own (by simp) (fun b _ hb => hb) (by have := h.few; simp; omega) (fun j hj u hu => by
    unfold ptrs at hu
    rw [List.getElem?_map] at hu
    have hjP : j < P.length := by simpa using hj
    rw [List.getElem?_eq_getElem hjP] at hu
    rw [List.getElem_map]
    exact (Option.some.inj hu).symm)
theorem StoreS.flat {w : World} {B g W : Nat} {O : Nat → Prop} {most : Int} {v : Value} {P : Made} {dp : Option Addr} {D : List Row} (h : StoreS w B O g W most v P dp D) : (P.map (·.1)).flatMap (lookOf P) = allR P := lookOf_flat h.made.nd
def fullS (W : Nat) (P : Made) : List Row := norm W (allR P)

set_option maxHeartbeats 1000000 in
set_option maxRecDepth 100000 in
theorem snew_any (W : Nat) (most : Int) (w : World) (hW : W < 1000000) : Calls Try.prog 22 #[.int .i64 W, .int .i64 most] w fun e w' => ∃ g dp, e = .returned (.pointer (some ⟨g, 0, none⟩)) ∧ StoreS w' w.heap.size (w.heap.size ≤ ·) g W most (.slice none 0 0) [] dp [] ∧ Below w.heap.size w w' := by
  have MK := Aside0.mk (make_any w (fun _ => True) (.slice none 0 0) W [] (SlAt.nil _ _ _ _ _ (by omega)) hW (by simp))
  go_enter Try.func22, Try.ntmps22
  go_wp2_with fail
  refine (MK.out).mono ?_
  rintro e w2 ⟨v2, rfl, S2, B2⟩
  have hn : norm W [] = [] := rfl
  rw [hn] at S2
  obtain ⟨gd, rfl, hg1, hg2⟩ := SegAt.ptrLt S2
  have HS := Aside0.mk S2
  have HB := Aside0.mk B2
  clear S2 B2 MK hn
  go_wp2
  go_ret
  refine ⟨w2.heap.size, _, rfl, ⟨heap_alloc_new _ _, World.ownsRow_nil _ _ _ _, ⟨fun q hq => by simp at hq, by simp⟩, (HS.out.mono (fun b hb hl => ⟨hb, by simp [Off, Value.ownBlock], Nat.ne_of_lt hl⟩)).below (below_alloc0 (Below.refl _ _) _), HB.out.size, by simp [Value.ownBlock], fun q hq => by simp at hq, List.Pairwise.nil, hW, by simp, by simp [allR], by simp [allR]⟩, below_alloc0 HB.out _⟩
variable {B g W : Nat} {O : Nat → Prop} {most : Int} {v : Value} {P : Made} {dp : Option Addr} {D : List Row}
set_option maxHeartbeats 1000000 in
theorem slen_any (w : World) (h : StoreS w B O g W most v P dp D) : Calls Try.prog 30 #[.pointer (some ⟨g, 0, none⟩)] w fun e w' => e = .returned (.int .i64 (allR P).length) ∧ w = w' := by
  obtain ⟨k0, k1, k2, k3, k4, _, _, _⟩ := blk5_facts h.blk
  clear h
  go_enter Try.func30, Try.ntmps30
  go_wp2
  go_ret
  exact ⟨rfl, rfl⟩
set_option maxHeartbeats 1000000 in
theorem sdelta_any (w : World) (h : StoreS w B O g W most v P dp D) : Calls Try.prog 29 #[.pointer (some ⟨g, 0, none⟩)] w fun e w' => e = .returned (.pointer dp) ∧ w = w' := by
  obtain ⟨k0, k1, k2, k3, k4, _, _, _⟩ := blk5_facts h.blk
  clear h
  go_enter Try.func29, Try.ntmps29
  go_wp2
  go_ret
  exact ⟨rfl, rfl⟩
set_option maxHeartbeats 1000000 in
theorem sruns_any (w : World) (h : StoreS w B O g W most v P dp D) : Calls Try.prog 31 #[.pointer (some ⟨g, 0, none⟩)] w fun e w' => e = .returned (.int .i64 P.length) ∧ w = w' := by
  obtain ⟨k0, k1, k2, k3, k4, _, _, _⟩ := blk5_facts h.blk
  obtain ⟨A, c, hv⟩ := own_form h.own
  subst hv
  clear h
  go_enter Try.func31, Try.ntmps31
  go_wp2
  go_ret
  exact ⟨rfl, rfl⟩
def inP (r : Row) (P : Made) : Bool := P.any fun q => decide (r ∈ q.2)
theorem inP_iff (r : Row) (P : Made) : inP r P = true ↔ r ∈ allR P := by
  unfold inP allR
  rw [List.any_eq_true, List.mem_flatten]
  constructor
  · rintro ⟨q, hq, h⟩
    exact ⟨q.2, List.mem_map.2 ⟨q, hq, rfl⟩, by simpa using h⟩
  · rintro ⟨l, hl, h⟩
    obtain ⟨q, hq, rfl⟩ := List.mem_map.1 hl
    exact ⟨q, hq, by simpa using h⟩
set_option maxHeartbeats 2000000 in
set_option maxRecDepth 100000 in
theorem shas_any (w : World) (okp : Nat → Prop) (pv : Value) (r : Row) (h : StoreS w B O g W most v P dp D) (hp : RowAt w okp pv r) : Calls Try.prog 54 #[.pointer (some ⟨g, 0, none⟩), pv] w fun e w' => e = .returned (.bool (inP r P)) ∧ Below w.heap.size w w' := by
  obtain ⟨k0, k1, k2, k3, k4, _, _, _⟩ := blk5_facts h.blk
  obtain ⟨A, c, hv⟩ := own_form h.own
  subst hv
  obtain ⟨Ar, cr, hpv, _⟩ := hp.form
  subst hpv
  obtain ⟨b, hb⟩ : ∃ b, inP r P = b := ⟨_, rfl⟩
  have HBV := Aside0.mk hb
  have HS := Aside0.mk h
  have HP := Aside0.mk hp
  have hfew := h.few
  rw [hb]
  clear h hp hb
  go_enter Try.func54, Try.ntmps54
  go_wp2
  go_loopw [12] (fun s12 wr => ∃ k : Nat, s12 = .int .i64 k ∧ k ≤ P.length ∧ Aside0 (∀ j (hj : j < P.length), j < k → r ∉ (P[j]).2) ∧ Aside0 (Below w.heap.size w wr)) (fun s12 _ => P.length - (intOf s12).toNat)
  case atStart => exact ⟨0, rfl, Nat.zero_le _, ⟨fun j _ h => absurd h (Nat.not_lt_zero _)⟩, ⟨Below.refl _ _⟩⟩
  case round =>
    obtain ⟨k, rfl, hk, HN, HB⟩ := hrel
    by_cases hlt : k < P.length
    · have hS := HS.out.below HB.out
      obtain ⟨bl, ol, ul, rfl, _, _, hc1, hul⟩ := hS.ps.at_ k (by simpa using hlt)
      have hul : ul = .pointer ((P.map (·.1))[k]'(by simpa using hlt)) := hul
      rw [List.getElem_map] at hul
      subst hul
      have HA := Aside0.mk (hasN_any wr _ _ (.pointer (P[k]).1) _ W (P[k]).2 r (hS.made.seg _ (List.getElem_mem hlt)).n (hS.ss _ (List.getElem_mem hlt)) (HP.out.below reads_int HB.out))
      have HG := Aside0.mk (show r ∈ (P[k]).2 → inP r P = true from fun h => List.any_eq_true.2 ⟨_, List.getElem_mem hlt, by simpa using h⟩)
      have HN2 := Aside0.mk (show r ∉ (P[k]).2 → ∀ j (hj : j < P.length), j < k + 1 → r ∉ (P[j]).2 from fun h j hj hjk => by
        by_cases e : j = k
        · subst e; exact h
        · exact HN.out j hj (by omega))
      clear hS
      by_cases hin : r ∈ (P[k]).2
      · have HA := Aside0.mk (by have h9 := HA.out; rw [decide_eq_true hin] at h9; exact h9)
        have hbt : b = true := by rw [← HBV.out]; exact HG.out hin
        subst hbt
        clear hin HN2 HG
        generalize r.length = lr at *
        generalize (P[k]).1 = pk at *
        go_wp2_with (first | (go_at_call 20; (with_reducible refine (HA.out).mono ?_); rintro e w' ⟨rfl, hb9⟩; have HB9 := Aside0.mk (below_trans0 HB.out hb9); clear hb9))
        go_ret
        exact ⟨rfl, HB9.out⟩
      · have HA := Aside0.mk (by have h9 := HA.out; rw [decide_eq_false hin] at h9; exact h9)
        have HN2 := Aside0.mk (HN2.out hin)
        clear hin HG
        generalize r.length = lr at *
        generalize (P[k]).1 = pk at *
        go_wp2_with (first | (go_at_call 20; (with_reducible refine (HA.out).mono ?_); rintro e w' ⟨rfl, hb9⟩; have HB9 := Aside0.mk (below_trans0 HB.out hb9); clear hb9))
        go_roundw
        case rel => exact ⟨k + 1, by go_num, by omega, HN2, HB9⟩
        case measure => simp [intOf]; omega
    · obtain rfl : k = P.length := by omega
      have hbf : b = false := by
        rw [← HBV.out]
        unfold inP
        rw [List.any_eq_false]
        intro q hq
        obtain ⟨j, hj, rfl⟩ := List.getElem_of_mem hq
        simpa using HN.out j hj hj
      subst hbf
      go_wp2
      go_ret
      exact ⟨rfl, HB.out⟩
/-- A slice of one, written out. -/
theorem owns_one (w : World) (B e : Nat) (u : Value) (hB : B ≤ w.heap.size) : (w.alloc (.cells #[u] e)).ownsRow B e 1 (.slice (some ⟨w.heap.size, 0, none⟩) 1 1) 1 [u] :=
  ⟨rfl, .inr ⟨w.heap.size, 1, #[u], rfl, hB, heap_alloc_new w _, Nat.le_refl _, by unfold maxLen; omega, rfl, rfl⟩⟩
set_option maxHeartbeats 2000000 in
set_option maxRecDepth 100000 in
theorem sset_any (w : World) (h : StoreS w B O g W most v P dp D) (fp dq : Option Addr) (F E : List Row) (hF : SegAt w (fun b => O b ∧ b ≠ g) (.pointer fp) W F) (hE : SegAt w (fun b => O b ∧ b ≠ g) (.pointer dq) W E) (hsF : SS F) (hsE : SS E) (hlF : F.length < 100000) :
    Calls Try.prog 61 #[.pointer (some ⟨g, 0, none⟩), .pointer fp, .pointer dq] w fun e w' => e = .returned (.tuple #[]) ∧ ∃ v', StoreS w' B O g W most v' (if F = [] then [] else [(fp, F)]) dq E ∧ Below B w w' := by
  obtain ⟨k0, k1, k2, k3, k4, f2, f3, f4⟩ := blk5_facts h.blk
  have hgl := (Array.getElem?_eq_some_iff.1 h.blk).1
  have hBs : B ≤ w.heap.size := by have := h.base; omega
  obtain ⟨W3, hW3⟩ : ∃ W3, (((w.setCell ⟨g, 2, none⟩ (.slice none 0 0)).setCell ⟨g, 4, none⟩ (.int .i64 0)).setCell ⟨g, 3, none⟩ (.pointer dq)) = W3 := ⟨_, rfl⟩
  have hK3 : Kept w W3 (· = g) := by rw [← hW3]; exact (((Kept.refl w (· = g)).setCell (.inl rfl) _).setCell (.inl rfl) _).setCell (.inl rfl) _
  have hb3 : W3.heap[g]? = some (.cells #[.int .i64 W, .int .i64 most, .slice none 0 0, .pointer dq, .int .i64 0] 85 (0, 0)) := by
    rw [← hW3]; exact blk_set _ (blk_set _ (blk_set _ h.blk))
  have HF3 := Aside0.mk (hF.stays (hK3.stays.mono (fun b hb _ => hb.2)))
  have HE3 := Aside0.mk (hE.stays (hK3.stays.mono (fun b hb _ => hb.2)))
  have LN := Aside0.mk (len_any W3 _ _ _ _ HF3.out)
  have HW3 := Aside0.mk hW3
  have HK3 := Aside0.mk hK3
  have HB3 := Aside0.mk hb3
  have HST := Aside0.mk h
  obtain ⟨m0, m1, m2, m3, m4, n2, n3, n4⟩ := blk5_facts hb3
  clear hW3 hK3 hb3 hF hE
  by_cases he : F = []
  · subst he
    have HN := Aside0.mk (show StoreS W3 B O g W most (.slice none 0 0) [] dq E from ⟨HB3.out, World.ownsRow_nil _ _ _ _, ⟨fun q hq => by simp at hq, by simp⟩, HE3.out.mono (fun b hb _ => ⟨hb.1, by simp [Off, Value.ownBlock], hb.2⟩), h.base, by simp [Value.ownBlock], fun q hq => by simp at hq, hsE, h.wid, by simp, by simp [allR], by simp [allR]⟩)
    clear h
    go_enter Try.func61, Try.ntmps61
    go_wp2_with (first | (rw [HW3.out]; go_at_call 18; (with_reducible refine (LN.out).mono ?_); rintro e w' ⟨rfl, rfl⟩))
    go_end0
    exact ⟨rfl, ⟨_, by first | exact HN.out | (rw [if_pos rfl]; exact HN.out)⟩, HK3.out.below hBs (fun k hk => by rw [hk]; exact HST.out.base)⟩
  · have hl0 : 0 < F.length := List.length_pos_iff.2 he
    have hl1 : (0 : Int) < (F.length : Int) := by omega
    obtain ⟨W4, hW4⟩ : ∃ W4, W3.alloc (.cells #[.pointer fp] 44) = W4 := ⟨_, rfl⟩
    have hb34 : Below W3.heap.size W3 W4 := by rw [← hW4]; exact below_alloc0 (Below.refl _ _) _
    have hown4 : W4.ownsRow B 44 1 (.slice (some ⟨W3.heap.size, 0, none⟩) 1 1) 1 [.pointer fp] := by rw [← hW4]; exact owns_one W3 B _ _ (Nat.le_trans hBs HK3.out.size)
    have hg3 : g < W3.heap.size := Nat.lt_of_lt_of_le hgl HK3.out.size
    have hb4 : W4.heap[g]? = some (.cells #[.int .i64 W, .int .i64 most, .slice none 0 0, .pointer dq, .int .i64 0] 85 (0, 0)) := (hb34.block g hg3).trans HB3.out
    have LN4 := Aside0.mk (len_any W4 _ _ _ _ (HF3.out.below hb34))
    obtain ⟨p0, p1, p2, p3, p4, q2, q3, q4⟩ := blk5_facts hb4
    have HW4 := Aside0.mk hW4
    have hK6 : Kept W4 ((W4.setCell ⟨g, 2, none⟩ (.slice (some ⟨W3.heap.size, 0, none⟩) 1 1)).setCell ⟨g, 4, none⟩ (.int .i64 F.length)) (· = g) := ((Kept.refl W4 (· = g)).setCell (.inl rfl) _).setCell (.inl rfl) _
    have hoff : ∀ b, (O b ∧ b ≠ g) → b < W3.heap.size → (O b ∧ b ≠ g) ∧ b < W3.heap.size := fun b hb hl => ⟨hb, hl⟩
    have hfin : ∀ b, ((O b ∧ b ≠ g) ∧ b < W3.heap.size) → O b ∧ Off (.slice (some ⟨W3.heap.size, 0, none⟩) 1 1) b ∧ b ≠ g := fun b hb => ⟨hb.1.1, fun e => by have := Option.some.inj e; simp at this; omega, hb.1.2⟩
    have hmv : ∀ (x : Value) (L : List Row), SegAt W3 (fun b => O b ∧ b ≠ g) x W L → SegAt ((W4.setCell ⟨g, 2, none⟩ (.slice (some ⟨W3.heap.size, 0, none⟩) 1 1)).setCell ⟨g, 4, none⟩ (.int .i64 F.length)) (fun b => O b ∧ Off (.slice (some ⟨W3.heap.size, 0, none⟩) 1 1) b ∧ b ≠ g) x W L := fun x L hx =>
      (((hx.mono hoff).below hb34).stays (hK6.stays.mono (fun b hb _ => hb.1.2))).mono (fun b hb _ => hfin b hb)
    have HN := Aside0.mk (show StoreS ((W4.setCell ⟨g, 2, none⟩ (.slice (some ⟨W3.heap.size, 0, none⟩) 1 1)).setCell ⟨g, 4, none⟩ (.int .i64 F.length)) B O g W most (.slice (some ⟨W3.heap.size, 0, none⟩) 1 1) [(fp, F)] dq E from
      ⟨by rw [show allR [(fp, F)] = F by simp [allR]]; exact blk_set _ (blk_set _ hb4), hK6.stays.owns hown4 (fun k hk e => by have := Option.some.inj hk; simp at this; omega), ⟨fun q hq => by rw [List.mem_singleton.1 hq]; exact hmv _ _ HF3.out, by simp⟩, hmv _ _ HE3.out, h.base, fun e => by have := Option.some.inj e; simp at this; omega, fun q hq => by rw [List.mem_singleton.1 hq]; exact hsF, hsE, h.wid, by simp, by simpa [allR] using hlF, by simpa [allR] using hsF.nodup⟩)
    have HB6 := Aside0.mk ((HK3.out.below hBs (fun k hk => by rw [hk]; exact h.base)).trans ((hb34.mono (Nat.le_trans hBs HK3.out.size)).trans (hK6.below (Nat.le_trans (Nat.le_trans hBs HK3.out.size) hb34.size) (fun k hk => by rw [hk]; exact h.base))))
    clear h hW4 hb34 hown4 hK6 hoff hfin hmv
    go_enter Try.func61, Try.ntmps61
    go_wp2_with (first | (rw [HW3.out]; go_at_call 18; (with_reducible refine (LN.out).mono ?_); rintro e w' ⟨rfl, rfl⟩) | (rw [HW4.out]; go_at_call 18; (with_reducible refine (LN4.out).mono ?_); rintro e w' ⟨rfl, rfl⟩))
    go_end0
    exact ⟨rfl, ⟨_, by first | exact HN.out | (rw [if_neg he]; exact HN.out)⟩, HB6.out⟩
end Go.Proofs.Ytcaonlddhbgnjaa.Mg
