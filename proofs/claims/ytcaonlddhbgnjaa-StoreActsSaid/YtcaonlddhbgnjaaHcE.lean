/- The heap's Pop: for whatever order, what is handed back is the first entry, and the others are those of 'popF'. -/
import Derived.Test.YtcaonlddhbgnjaaHcD
namespace Go.Proofs.Ytcaonlddhbgnjaa.Hc
open Go.RowKit Go.Shelf Go.Proofs.Ytcaonlddhbgnjaa.Sg Go.Proofs.Ytcaonlddhbgnjaa.Hm
set_option linter.unusedVariables false
set_option linter.unusedSimpArgs false
theorem Keeps0 (w : World) (o : Obj) (b : Nat) (h : b < w.heap.size) : (w.alloc o).heap[b]? = w.heap[b]? := (below_alloc0 (Below.refl w.heap.size w) o).block b h
theorem pop_boxes {w3 w4 : World} {n g b : Nat} {u x0 x1 z0 z1 : Value} {T : TypeId} (h0 : w3.heap[n]? = some (.cells #[z0, z1] T (0, 0))) (h2 : w3.heap[n + 2]? = some (.cells #[x0, x1] T (0, 0))) (hg : g < n) (hb : b < n) (hn : n + 2 < w3.heap.size) (hk : Kept ((w3.setCell ⟨g, 1, none⟩ u).drew) w4 (fun k => b = k)) :
    (w4.cell? ⟨n, 0, none⟩ = some z0 ∧ w4.cell? ⟨n, 1, none⟩ = some z1 ∧ w4.frozen? ⟨n, 0, none⟩ = false ∧ w4.frozen? ⟨n, 1, none⟩ = false) ∧ w4.cell? ⟨n + 2, 0, none⟩ = some x0 ∧ w4.cell? ⟨n + 2, 1, none⟩ = some x1 ∧ n + 2 < w4.heap.size := by
  have e : ((w3.setCell ⟨g, 1, none⟩ u).drew).heap.size = w3.heap.size := by simp
  have s0 : ((w3.setCell ⟨g, 1, none⟩ u).drew).heap[n]? = some (.cells #[z0, z1] T (0, 0)) := (heap_setCell_other w3 ⟨g, 1, none⟩ n u (by show n ≠ g; omega)).trans h0
  have s2 : ((w3.setCell ⟨g, 1, none⟩ u).drew).heap[n + 2]? = some (.cells #[x0, x1] T (0, 0)) := (heap_setCell_other w3 ⟨g, 1, none⟩ (n + 2) u (by show n + 2 ≠ g; omega)).trans h2
  have q0 := (hk.blk n (by omega) (by omega)).trans s0
  have q2 := (hk.blk (n + 2) (by omega) (by omega)).trans s2
  refine ⟨⟨?_, ?_, frozen_of_row w4 n 0 _ _ q0, frozen_of_row w4 n 1 _ _ q0⟩, ?_, ?_, by have := hk.size; omega⟩
  · rw [cell_of_row w4 n 0 _ _ _ q0]; rfl
  · rw [cell_of_row w4 n 1 _ _ _ q0]; rfl
  · rw [cell_of_row w4 (n + 2) 0 _ _ _ q2]; rfl
  · rw [cell_of_row w4 (n + 2) 1 _ _ _ q2]; rfl
set_option maxHeartbeats 1000000 in
set_option maxRecDepth 100000 in
/-- down, where there is no entry. -/
theorem down_none {B : Nat} {O : Ord} (OK : O.OK B) (g b cap : Nat) (came : Int) (w : World) (h : HI w B g O [] came (.slice (some ⟨b, 0, none⟩) 0 cap)) :
    Calls Try.prog 84 #[.pointer (some ⟨g, 0, none⟩)] w fun e w' => e = .returned (.tuple #[]) ∧ HI w' B g O [] came (.slice (some ⟨b, 0, none⟩) 0 cap) ∧ Kept w w' (fun k => b = k) := by
  have HH := Aside0.mk h
  have hgo := h.lt
  clear h
  go_enter Try.func84, Try.ntmps84
  go_wp2
  go_loopw [2] (fun s2 wr => s2 = .int .i64 0 ∧ w = wr) (fun _ _ => 0)
  case atStart => exact ⟨rfl, rfl⟩
  case round =>
    obtain ⟨rfl, rfl⟩ := hrel
    have HS' := Aside0.mk (HI.below OK HH.out (below_alloc0 (Below.refl w.heap.size w) (.cells #[.int .i64 1, .int .i64 2] 3)))
    go_wp2
    go_loopw [3, 15] (fun s3 s15 wi => ∃ t : Nat, Aside0 (t ≤ 2) ∧ s15 = .int .i64 (t : Int) ∧ s3 = .int .i64 0 ∧ Aside0 (Below (w.heap.size + 1) (w.alloc (.cells #[.int .i64 1, .int .i64 2] 3)) wi)) (fun _ s15 _ => 2 - (intOf s15).toNat)
    case atStart => exact ⟨0, ⟨by omega⟩, rfl, rfl, ⟨Below.refl _ _⟩⟩
    case round =>
      obtain ⟨t, HT, rfl, rfl, HB⟩ := hrel
      have hcells := inner_cells HB.out
      have hI := inner_HI OK HS'.out HB.out
      obtain ⟨k0, k1, k2, f0, f1, f2⟩ := blk_facts hI.blk
      have HI' := Aside0.mk hI
      have ht : t = 0 ∨ t = 1 ∨ t = 2 := by have := HT.out; omega
      have HKW := Aside0.mk (show Kept w wr (fun k => b = k) from (Kept.of_below ((below_alloc0 (Below.refl w.heap.size w) _).trans (HB.out.mono (by omega))) (fun k => b = k)))
      clear HT hI
      rcases ht with rfl | rfl | rfl
      · go_wp2
        go_roundw
        case rel => exact ⟨1, ⟨by omega⟩, rfl, rfl, HB⟩
        case measure => simp [intOf]
      · go_wp2
        go_roundw
        case rel => exact ⟨2, ⟨by omega⟩, rfl, rfl, HB⟩
        case measure => simp [intOf]
      · go_wp2
        refine bodyPost_ret (results_none rfl _ _ _) rfl ?_
        exact ⟨rfl, HI'.out, HKW.out⟩

/-- down, whatever the number of entries. -/
theorem down_gen {B : Nat} {O : Ord} (OK : O.OK B) (g b n cap : Nat) (es : List E) (came : Int) (w : World) (hn : es.length = n) (h : HI w B g O es came (.slice (some ⟨b, 0, none⟩) n cap)) (hes : n < 1000000) :
    Calls Try.prog 84 #[.pointer (some ⟨g, 0, none⟩)] w fun e w' => e = .returned (.tuple #[]) ∧ HI w' B g O (dnF O.lt es 0) came (.slice (some ⟨b, 0, none⟩) n cap) ∧ Kept w w' (fun k => b = k) := by
  subst hn
  rcases Nat.eq_zero_or_pos es.length with h0 | h0
  · obtain rfl : es = [] := List.length_eq_zero_iff.1 h0
    exact down_none OK g b cap came w h
  · exact (down_any OK g es came _ w h hes h0).mono fun e w' ⟨he, hi, hk⟩ => ⟨he, hi, hk.mono (fun k hk => Option.some.inj hk)⟩

theorem HI.cut {B : Nat} {O : Ord} (OK : O.OK B) {w : World} {g b cap : Nat} {es : List E} {came : Int} (n : Nat) (hn : n ≤ es.length) (h : HI w B g O es came (.slice (some ⟨b, 0, none⟩) es.length cap)) :
    HI ((w.setCell ⟨g, 1, none⟩ (.slice (some ⟨b, 0, none⟩) n cap)).drew) B g O (es.take n) came (.slice (some ⟨b, 0, none⟩) n cap) := by
  have hge := h.ge
  have hlt := h.lt
  refine ⟨blk_set (j := 1) (.slice (some ⟨b, 0, none⟩) n cap) h.blk, ?_, h.ne, h.ge, OK.keep _ _ h.inv ((((Kept.refl w (fun k => k = g)).setCell (p := ⟨g, 1, none⟩) (.inl rfl) _).drew).below (by omega) (fun k hk => by omega)), fun e he => h.oks e (List.mem_of_mem_take he)⟩
  have hbg : b ≠ g := fun e => h.ne (by rw [e]; rfl)
  rcases h.own.2 with ⟨h0, _⟩ | ⟨b', cap', cur, h0, hb, hh, h1, h2, h3, h4⟩
  · simp at h0
  · simp only [Value.slice.injEq, Option.some.injEq, Addr.mk.injEq, and_true, true_and] at h0
    obtain ⟨rfl, rfl⟩ := h0
    have hl : (es.take n).length = n := by rw [List.length_take]; omega
    rw [hl]
    refine ⟨by rw [cellsE_length, hl], .inr ⟨b, cap, cur, rfl, hb, (heap_setCell_other w ⟨g, 1, none⟩ b _ hbg).trans hh, by omega, h2, h3, ?_⟩⟩
    rw [← cellsE_take, ← h4, List.take_take]
    congr 1
    rw [Nat.min_eq_left (Nat.mul_le_mul_right 3 hn)]

set_option maxHeartbeats 1000000 in
set_option maxRecDepth 100000 in
theorem pop_none {B : Nat} {O : Ord} (g : Nat) (came : Int) (v : Value) (w : World) (h : HI w B g O [] came v) :
    Calls Try.prog 71 #[.pointer (some ⟨g, 0, none⟩)] w fun e w' => e = .returned (.tuple #[.agg #[.pointer none, .int .i64 0], .bool false]) ∧ Below w.heap.size w w' := by
  obtain ⟨A0, c0, hv⟩ : ∃ A0 c0, v = .slice A0 0 c0 := by
    rcases h.own.2 with ⟨h1, _⟩ | ⟨b, cap, cur, h1, _⟩ <;> exact ⟨_, _, h1⟩
  have hgl := h.lt
  subst hv
  obtain ⟨k0, k1, k2, f0, f1, f2⟩ := blk_facts h.blk
  clear h
  go_enter Try.func71, Try.ntmps71
  go_wp2
  exact bodyPost_ret (v := .tuple #[.agg #[.pointer none, .int .i64 0], .bool false]) (by simp [results, Try.results71, go_sem]) rfl ⟨rfl, by repeat (first | exact Below.refl _ _ | apply below_drewN | apply below_drew | apply below_alloc0)⟩
theorem blk_new {w : World} {o1 o2 o3 : Obj} : (((w.alloc o1).alloc o2).alloc o3).heap[w.heap.size]? = some o1 ∧ (((w.alloc o1).alloc o2).alloc o3).heap[w.heap.size + 2]? = some o3 := by
  have h1 := heap_alloc_new w o1
  have h3 := heap_alloc_new ((w.alloc o1).alloc o2) o3
  rw [World.size_alloc, World.size_alloc] at h3
  refine ⟨?_, h3⟩
  have e2 := (Keeps0 (w.alloc o1) o2 w.heap.size (by simp)).trans h1
  exact (Keeps0 ((w.alloc o1).alloc o2) o3 w.heap.size (by simp; omega)).trans e2
set_option maxHeartbeats 2000000 in
set_option maxRecDepth 100000 in
theorem pop_any {B : Nat} {O : Ord} (OK : O.OK B) (g : Nat) (es : List E) (came : Int) (v : Value) (w : World) (h : HI w B g O es came v) (hes : es.length < 1000000) (hp : 0 < es.length) (x0 : Option Addr) (y0 : Int) (hx0 : (es.getD 0 default).1 = (x0, y0)) :
    Calls Try.prog 71 #[.pointer (some ⟨g, 0, none⟩)] w fun e w' => e = .returned (.tuple #[.agg #[.pointer x0, .int .i64 y0], .bool true]) ∧ ∃ v', HI w' B g O (popF O.lt es) came v' ∧ v'.ownBlock = v.ownBlock ∧ Kept w w' (fun k => k = g ∨ v.ownBlock = some k) := by
  have hbase := h.base
  have hge := h.ge
  have hgl := h.lt
  obtain ⟨b, cap, rfl, hbl, hbg⟩ := h.form hp
  obtain ⟨k0, k1, k2, f0, f1, f2⟩ := blk_facts h.blk
  have a0 : w.cell? ⟨b, 0, none⟩ = some (.pointer x0) := by
    have := cellsE_get0 es 0 hp
    rw [h.own.cellAt 0 (by omega)]
    rw [getD_at es 0 hp] at hx0
    rw [hx0] at this
    exact this
  have a1 : w.cell? ⟨b, 1, none⟩ = some (.int .i64 y0) := by
    have := cellsE_get1 es 0 hp
    rw [h.own.cellAt 1 (by omega)]
    rw [getD_at es 0 hp] at hx0
    rw [hx0] at this
    exact this
  clear hx0
  obtain ⟨w2, hw2⟩ : ∃ w2, ((w.alloc (.cells #[.pointer none, .int .i64 0] 108)).alloc (.cells #[.pointer none, .int .i64 0] 108)).alloc (.cells #[.pointer x0, .int .i64 y0] 108) = w2 := ⟨_, rfl⟩
  have hb2 : Below w.heap.size w w2 := by rw [← hw2]; exact below_alloc0 (below_alloc0 (below_alloc0 (Below.refl _ _) _) _) _
  have h2 := h.below OK hb2
  have sw := Aside0.mk (swap_any OK g es came _ 0 ((es.length : Int) - 1) w2 h2 (by omega) (by omega) (by omega) (by omega))
  have R0 : w2.heap[w.heap.size]? = some (.cells #[.pointer none, .int .i64 0] 108 (0, 0)) := by rw [← hw2]; exact blk_new.1
  have R2 : w2.heap[w.heap.size + 2]? = some (.cells #[.pointer x0, .int .i64 y0] 108 (0, 0)) := by rw [← hw2]; exact blk_new.2
  have R0 := Aside0.mk R0
  have R2 := Aside0.mk R2
  have HB2 := Aside0.mk hb2
  have HBS := Aside0.mk hbase
  have HW2 := Aside0.mk hw2
  have hgl1 : g < w.heap.size + 1 := by omega
  have hgl2 : g < w.heap.size + 1 + 1 := by omega
  have hz' : ((es.length : Int) == 0) = false := by rw [beq_eq_false_iff_ne]; omega
  clear h h2 hw2 hb2 hbase
  go_enter Try.func71, Try.ntmps71
  go_wp2_with (first | (rw [HW2.out]; go_at_call 83; (with_reducible refine (sw.out).mono ?_); rintro e w3 ⟨rfl, HI3, HK3⟩; have HS3 := Aside0.mk HI3; have HK3' := Aside0.mk HK3; clear HI3 HK3))
  have hl3 : (swp es 0 (es.length - 1)).length = es.length := swp_length _ _ _
  have HI3 := HS3.out
  rw [show ((0 : Int)).toNat = 0 from rfl, show ((es.length : Int) - 1).toNat = es.length - 1 from by omega] at HI3
  obtain ⟨m0, m1, m2, e0, e1, e2⟩ := blk_facts HI3.blk
  have hg3 := HI3.lt
  have hn3 : es.length ≤ cap := by
    rcases HI3.own.2 with ⟨h0, _⟩ | ⟨b', cap', cur, h0, _, _, h1, _⟩
    · simp at h0
    · simp only [Value.slice.injEq, Option.some.injEq, Addr.mk.injEq, and_true, true_and] at h0
      omega
  rw [show Value.slice (some ⟨b, 0, none⟩) es.length cap = Value.slice (some ⟨b, 0, none⟩) (swp es 0 (es.length - 1)).length cap from by rw [hl3]] at HI3
  have HC := Aside0.mk (HI3.cut OK (es.length - 1) (by omega))
  have hm : ((es.length : Int) - 1).toNat = es.length - 1 := by omega
  have hm0 : 0 ≤ (es.length : Int) - 1 := by omega
  have hm1 : (es.length : Int) - 1 ≤ cap := by omega
  have hsz2 := R2.out
  have hsz2 := (Array.getElem?_eq_some_iff.1 hsz2).1
  have hw3 := HK3'.out.size
  have R03 := Aside0.mk ((HK3'.out.blk w.heap.size (by omega) (fun e => by have e : b = w.heap.size := Option.some.inj e; omega)).trans R0.out)
  have R23 := Aside0.mk ((HK3'.out.blk (w.heap.size + 2) (by omega) (fun e => by have e : b = w.heap.size + 2 := Option.some.inj e; omega)).trans R2.out)
  clear HI3 hl3 k0 k1 k2 f0 f1 f2 a0 a1
  have dw := Aside0.mk (fun w' => down_gen OK g b (es.length - 1) cap ((swp es 0 (es.length - 1)).take (es.length - 1)) came w' (by rw [List.length_take, swp_length]; omega))
  have HES := Aside0.mk (show es.length - 1 < 1000000 from by omega)
  go_region
  all_goals go_wp2_with (first | (go_at_call 84; (with_reducible refine (dw.out _ HC.out HES.out).mono ?_); rintro e w4 ⟨rfl, HI4, HK4⟩; have HS4 := Aside0.mk HI4; have HK4' := Aside0.mk HK4; obtain ⟨⟨q0, q1, r0, r1⟩, q2, q3, hlt4⟩ := pop_boxes R03.out R23.out (by omega) (by omega) (by omega) HK4; clear HI4 HK4))
  all_goals
    refine bodyPost_ret (v := .tuple #[.agg #[.pointer x0, .int .i64 y0], .bool true]) (by simp [results, Try.results71, go_sem, *]) rfl ?_
    have hbg9 : ∀ k, b = k → k < w.heap.size := fun k e => e ▸ hbl
    refine ⟨rfl, _, (HS4.out.kept OK (((Kept.refl w4 (fun k => k = w.heap.size)).setCell (p := ⟨w.heap.size, 0, none⟩) (.inl rfl) _).setCell (p := ⟨w.heap.size, 1, none⟩) (.inl rfl) _) (by omega) (fun k e => by have e : b = k := Option.some.inj e; omega) (fun k e => by omega)), rfl, ?_⟩
    have K2 := (Kept.of_below HB2.out (fun k => k = g ∨ (Value.slice (some ⟨b, 0, none⟩) es.length cap).ownBlock = some k)).then_ HK3'.out (fun k hk => .inl (.inr hk))
    have K3 := (K2.setCell (p := ⟨g, 1, none⟩) (.inl (.inl rfl)) (.slice (some ⟨b, 0, none⟩) (es.length - 1) cap)).drew.then_ HK4'.out (fun k hk => .inl (.inr (by rw [← hk]; rfl)))
    exact (K3.setCell (p := ⟨w.heap.size, 0, none⟩) (.inr (Nat.le_refl _)) _).setCell (p := ⟨w.heap.size, 1, none⟩) (.inr (Nat.le_refl _)) _
end Go.Proofs.Ytcaonlddhbgnjaa.Hc
