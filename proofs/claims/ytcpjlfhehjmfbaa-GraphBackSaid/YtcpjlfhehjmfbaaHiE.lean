/- The heap's Pop: for whatever order, what is handed back is the first entry, and the others are those of 'popF'. -/
import Derived.Test.YtcpjlfhehjmfbaaHiD
namespace Go.Proofs.Ytcpjlfhehjmfbaa.Hi
open Go.RowKit Go.Shelf Go.Proofs.Ytcpjlfhehjmfbaa.Sg Go.Proofs.Ytcpjlfhehjmfbaa.Hm
set_option linter.unusedVariables false
set_option linter.unusedSimpArgs false
set_option maxHeartbeats 1000000 in
set_option maxRecDepth 100000 in
/-- down, where there is no entry. -/
theorem down_none {B : Nat} {O : Ord} (OK : O.OK B) (g b cap : Nat) (came : Int) (w : World) (h : HI w B g O [] came (.slice (some ⟨b, 0, none⟩) 0 cap)) :
    Calls Try.prog 23 #[.pointer (some ⟨g, 0, none⟩)] w fun e w' => e = .returned (.tuple #[]) ∧ HI w' B g O [] came (.slice (some ⟨b, 0, none⟩) 0 cap) ∧ Kept w w' (fun k => b = k) := by
  have HH := Aside0.mk h
  have hgo := h.lt
  clear h
  go_enter Try.func23, Try.ntmps23
  go_wp2
  go_loopw [2] (fun s2 wr => s2 = .int .i64 0 ∧ w = wr) (fun _ _ => 0)
  case atStart => exact ⟨rfl, rfl⟩
  case round =>
    obtain ⟨rfl, rfl⟩ := hrel
    have HS' := Aside0.mk (HI.below OK HH.out (below_alloc0 (Below.refl w.heap.size w) (.cells #[.int .i64 1, .int .i64 2] 3)))
    go_wp2
    go_loopw [3, 15] (fun s3 s15 wi => ∃ t : Nat, Aside0 (t ≤ 2) ∧ s15 = .int .i64 (t : Int) ∧ s3 = .int .i64 0 ∧ Aside0 (Below (w.heap.size + 1) (w.alloc (.cells #[.int .i64 1, .int .i64 2] 3)) wi)) (fun _ s15 _ => 2 - (intOf s15).toNat)
    case atStart => exact ⟨0, ⟨by omega⟩, rfl, rfl, ⟨Below.refl _ _⟩⟩
    case round =>
      obtain ⟨t, HT, rfl, rfl, HB⟩ := hrel
      have hcells := inner_cells HB.out
      have hI := inner_HI OK HS'.out HB.out
      obtain ⟨k0, k1, k2, f0, f1, f2⟩ := blk_facts hI.blk
      have HI' := Aside0.mk hI
      have ht : t = 0 ∨ t = 1 ∨ t = 2 := by have := HT.out; omega
      have HKW := Aside0.mk (show Kept w wr (fun k => b = k) from (Kept.of_below ((below_alloc0 (Below.refl w.heap.size w) _).trans (HB.out.mono (by omega))) (fun k => b = k)))
      clear HT hI
      rcases ht with rfl | rfl | rfl
      · go_wp2
        go_roundw
        case rel => exact ⟨1, ⟨by omega⟩, rfl, rfl, HB⟩
        case measure => simp [intOf]
      · go_wp2
        go_roundw
        case rel => exact ⟨2, ⟨by omega⟩, rfl, rfl, HB⟩
        case measure => simp [intOf]
      · go_wp2
        refine bodyPost_ret (results_none rfl _ _ _) rfl ?_
        exact ⟨rfl, HI'.out, HKW.out⟩

/-- down, whatever the number of entries. -/
theorem down_gen {B : Nat} {O : Ord} (OK : O.OK B) (g b n cap : Nat) (es : List E) (came : Int) (w : World) (hn : es.length = n) (h : HI w B g O es came (.slice (some ⟨b, 0, none⟩) n cap)) (hes : n < 1000000) :
    Calls Try.prog 23 #[.pointer (some ⟨g, 0, none⟩)] w fun e w' => e = .returned (.tuple #[]) ∧ HI w' B g O (dnF O.lt es 0) came (.slice (some ⟨b, 0, none⟩) n cap) ∧ Kept w w' (fun k => b = k) := by
  subst hn
  rcases Nat.eq_zero_or_pos es.length with h0 | h0
  · obtain rfl : es = [] := List.length_eq_zero_iff.1 h0
    exact down_none OK g b cap came w h
  · exact (down_any OK g es came _ w h hes h0).mono fun e w' ⟨he, hi, hk⟩ => ⟨he, hi, hk.mono (fun k hk => Option.some.inj hk)⟩

theorem HI.cut {B : Nat} {O : Ord} (OK : O.OK B) {w : World} {g b cap : Nat} {es : List E} {came : Int} (n : Nat) (hn : n ≤ es.length) (h : HI w B g O es came (.slice (some ⟨b, 0, none⟩) es.length cap)) :
    HI ((w.setCell ⟨g, 1, none⟩ (.slice (some ⟨b, 0, none⟩) n cap)).drew) B g O (es.take n) came (.slice (some ⟨b, 0, none⟩) n cap) := by
  have hge := h.ge
  have hlt := h.lt
  refine ⟨blk_set (j := 1) (.slice (some ⟨b, 0, none⟩) n cap) h.blk, ?_, h.ne, h.ge, OK.keep _ _ h.inv ((((Kept.refl w (fun k => k = g)).setCell (p := ⟨g, 1, none⟩) (.inl rfl) _).drew).below (by omega) (fun k hk => by omega)), fun e he => h.oks e (List.mem_of_mem_take he)⟩
  have hbg : b ≠ g := fun e => h.ne (by rw [e]; rfl)
  rcases h.own.2 with ⟨h0, _⟩ | ⟨b', cap', cur, h0, hb, hh, h1, h2, h3, h4⟩
  · simp at h0
  · simp only [Value.slice.injEq, Option.some.injEq, Addr.mk.injEq, and_true, true_and] at h0
    obtain ⟨rfl, rfl⟩ := h0
    have hl : (es.take n).length = n := by rw [List.length_take]; omega
    rw [hl]
    refine ⟨by rw [cellsE_length, hl], .inr ⟨b, cap, cur, rfl, hb, (heap_setCell_other w ⟨g, 1, none⟩ b _ hbg).trans hh, by omega, h2, h3, ?_⟩⟩
    rw [← cellsE_take, ← h4, List.take_take]
    congr 1
    rw [Nat.min_eq_left (Nat.mul_le_mul_right 2 hn)]

set_option maxHeartbeats 1000000 in
set_option maxRecDepth 100000 in
theorem pop_none {B : Nat} {O : Ord} (g : Nat) (came : Int) (v : Value) (w : World) (h : HI w B g O [] came v) :
    Calls Try.prog 17 #[.pointer (some ⟨g, 0, none⟩)] w fun e w' => e = .returned (.tuple #[.int .i64 0, .bool false]) ∧ w = w' := by
  obtain ⟨A0, c0, hv⟩ : ∃ A0 c0, v = .slice A0 0 c0 := by
    rcases h.own.2 with ⟨h1, _⟩ | ⟨b, cap, cur, h1, _⟩ <;> exact ⟨_, _, h1⟩
  subst hv
  obtain ⟨k0, k1, k2, f0, f1, f2⟩ := blk_facts h.blk
  clear h
  go_enter Try.func17, Try.ntmps17
  go_wp2
  go_ret2
  exact ⟨rfl, rfl⟩
set_option maxHeartbeats 2000000 in
set_option maxRecDepth 100000 in
theorem pop_any {B : Nat} {O : Ord} (OK : O.OK B) (g : Nat) (es : List E) (came : Int) (v : Value) (w : World) (h : HI w B g O es came v) (hes : es.length < 1000000) (hp : 0 < es.length) (x0 : Int) (hx0 : (es.getD 0 default).1 = x0) :
    Calls Try.prog 17 #[.pointer (some ⟨g, 0, none⟩)] w fun e w' => e = .returned (.tuple #[.int .i64 x0, .bool true]) ∧ ∃ v', HI w' B g O (popF O.lt es) came v' ∧ v'.ownBlock = v.ownBlock ∧ Kept w w' (fun k => k = g ∨ v.ownBlock = some k) := by
  obtain ⟨b, cap, rfl, hbl, hbg⟩ := h.form hp
  obtain ⟨k0, k1, k2, f0, f1, f2⟩ := blk_facts h.blk
  have a0 : w.cell? ⟨b, 0, none⟩ = some (.int .i64 x0) := by
    have := cellsE_get0 es 0 hp
    rw [h.own.cellAt 0 (by omega)]
    rw [getD_at es 0 hp] at hx0
    rw [hx0] at this
    exact this
  clear hx0
  have sw := Aside0.mk (swap_any OK g es came _ 0 ((es.length : Int) - 1) w h (by omega) (by omega) (by omega) (by omega))
  have hz' : ((es.length : Int) == 0) = false := by rw [beq_eq_false_iff_ne]; omega
  clear h
  go_enter Try.func17, Try.ntmps17
  go_wp2_with (first | (go_at_call 22; (with_reducible refine (sw.out).mono ?_); rintro e w3 ⟨rfl, HI3, HK3⟩; have HS3 := Aside0.mk HI3; have HK3' := Aside0.mk HK3; clear HI3 HK3))
  have hl3 : (swp es 0 (es.length - 1)).length = es.length := swp_length _ _ _
  have HI3 := HS3.out
  rw [show ((0 : Int)).toNat = 0 from rfl, show ((es.length : Int) - 1).toNat = es.length - 1 from by omega] at HI3
  obtain ⟨m0, m1, m2, e0, e1, e2⟩ := blk_facts HI3.blk
  have hg3 := HI3.lt
  have hn3 : es.length ≤ cap := by
    rcases HI3.own.2 with ⟨h0, _⟩ | ⟨b', cap', cur, h0, _, _, h1, _⟩
    · simp at h0
    · simp only [Value.slice.injEq, Option.some.injEq, Addr.mk.injEq, and_true, true_and] at h0
      omega
  rw [show Value.slice (some ⟨b, 0, none⟩) es.length cap = Value.slice (some ⟨b, 0, none⟩) (swp es 0 (es.length - 1)).length cap from by rw [hl3]] at HI3
  have HC := Aside0.mk (HI3.cut OK (es.length - 1) (by omega))
  have hm : ((es.length : Int) - 1).toNat = es.length - 1 := by omega
  have hm0 : 0 ≤ (es.length : Int) - 1 := by omega
  have hm1 : (es.length : Int) - 1 ≤ cap := by omega
  clear HI3 hl3 k0 k1 k2 f0 f1 f2 a0
  have dw := Aside0.mk (fun w' => down_gen OK g b (es.length - 1) cap ((swp es 0 (es.length - 1)).take (es.length - 1)) came w' (by rw [List.length_take, swp_length]; omega))
  have HES := Aside0.mk (show es.length - 1 < 1000000 from by omega)
  go_region
  all_goals go_wp2_with (first | (go_at_call 23; (with_reducible refine (dw.out _ HC.out HES.out).mono ?_); rintro e w4 ⟨rfl, HI4, HK4⟩; have HS4 := Aside0.mk HI4; have HK4' := Aside0.mk HK4; clear HI4 HK4))
  all_goals go_ret2
  all_goals exact ⟨rfl, _, HS4.out, rfl, ((HK3'.out.mono (fun k hk => .inr hk)).setCell (p := ⟨g, 1, none⟩) (.inl (.inl rfl)) _).drew.then_ HK4'.out (fun k hk => .inl (.inr (by rw [← hk]; rfl)))⟩
end Go.Proofs.Ytcpjlfhehjmfbaa.Hi
