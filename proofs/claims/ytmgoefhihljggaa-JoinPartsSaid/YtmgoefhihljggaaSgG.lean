/- Contract: Make: the rows of a width, in order, none twice, as columns. -/
import Derived.Test.YtmgoefhihljggaaSgF
namespace Go.Proofs.Ytmgoefhihljggaa.Sg
open Go.RowKit Go.Shelf Go.Lib Go.Sort
set_option linter.unusedVariables false
set_option linter.unusedSimpArgs false

set_option maxHeartbeats 400000 in
theorem compact_nil (w : World) (f : Value) : Calls Try.prog 22 #[.slice none 0 0, f] w fun e w' => e = .returned (.slice none 0 0) ∧ w = w' := by
  go_enter Try.func22, Try.ntmps22
  go_wp2
  go_ret
  exact ⟨rfl, rfl⟩
theorem sort_none (w : World) (A : Option Addr) (c : Nat) (f : Value) : Calls Try.prog 19 #[.slice A 0 c, f] w fun e w' => e = .returned (.tuple #[]) ∧ w = w' :=
  (Try.slices_SortFunc_none (α := Nat) A c f w).mono fun e w' ⟨he, hw⟩ => ⟨he, hw.symm⟩
/-- Behind the sort. -/
structure SortedW (w : World) (g : Nat) (d : Array (El w g)) (w' : World) : Prop where
  ex : ∃ d' : Array (El w g), PermIn 0 d.size d d' ∧ SortedIn (ltOf cf) 0 d.size d' ∧ Holds enc w' g 0 d'
  stays : Stays (· ≠ g) w w'
  size : w.heap.size ≤ w'.heap.size
  own : ∀ base e v xs, v.ownBlock = some g → w.ownsRow base e 1 v d.size xs → ∃ xs', w'.ownsRow base e 1 v d.size xs'
  below : ∀ B W, RowKit.Below B W w → B ≤ g → RowKit.Below B W w'
theorem sort_some (w : World) (g cap : Nat) (d : Array (El w g)) (hH : Holds enc w g 0 d) (hg : g < w.heap.size) (hs : d.size < 1000000) :
    Calls Try.prog 19 #[.slice (some ⟨g, 0, none⟩) d.size cap, .func (.func 20) #[] #[]] w fun e w' => e = .returned (.tuple #[]) ∧ SortedW w g d w' := by
  have eg : ∀ args w, (callFunc 20 args).run Try.prog w = .ok (.enter 20 args) w := enters_of Try.func20 (by kernel_rfl) rfl
  refine (Try.slices_SortFunc enc enc_one cf swo_cf 20 #[] g 0 cap d w eg (cmp_lays w g d.size) hH hg (by omega)).mono ?_
  rintro e w' ⟨he, d', n, os, h1, h2, rfl⟩
  have hst := stays_sortWorld (w := w) (m := n) d' os
  refine ⟨he, ⟨d', h1, h2, holds_sortWorld enc w g 0 n d d' os hg hH h1.1⟩, hst, by simp [sortWorld], ?_, ?_⟩
  · intro base e v xs hv ho
    rcases ho.2 with ⟨rfl, _⟩ | ⟨b, c, cur, rfl, hb, hh, hc, hm, hz, ht⟩
    · cases hv
    · cases hv
      have hh2 : (sortWorld enc w b 0 n d' os).heap[b]? = some (.cells (putCells enc 0 d' cur) e (0, 0)) := by
        unfold sortWorld
        rw [heap_grow_old _ _ (by simpa using hg)]
        simp [putRow, mapBlock, Sort.ahead, Array.getElem?_modify, hh, onCells]
      exact ⟨_, by simp [putCells]; omega, .inr ⟨b, c, _, rfl, hb, hh2, hc, hm, by simp [putCells, hz], rfl⟩⟩
  · intro B W hB hBg
    refine ⟨hB.os, hB.tape, hB.output, Nat.le_trans hB.size (by simp [sortWorld]), fun k hk => ?_⟩
    exact (hst k (show k ≠ g by omega) (by omega)).trans (hB.block k hk)
theorem rows_in64 {w : World} {ok : Nat → Prop} {v : Value} {rs : List Row} (h : RowsAt w ok v rs) : ∀ r ∈ rs, ∀ x ∈ r, In64 x := by
  intro r hr x hx
  obtain ⟨A, c, rfl, _⟩ := h.form
  obtain ⟨j, hj, rfl⟩ := List.mem_iff_getElem.1 hr
  obtain ⟨b, off, u, _, _, _, _, hu⟩ := h.at_ j hj
  obtain ⟨A2, c2, rfl, _⟩ := hu.form
  obtain ⟨i, hi, rfl⟩ := List.mem_iff_getElem.1 hx
  obtain ⟨_, _, _, _, _, _, _, _, h64⟩ := hu.at_ i hi
  exact h64
theorem below_putRow {w0 w W : World} {B g q : Nat} (d : Array (El w0 g)) (h : RowKit.Below B W w) (hg : B ≤ g) (hgl : g < w.heap.size) : RowKit.Below B W (putRow enc (Sort.ahead w q) g 0 d) :=
  ⟨h.os, h.tape, h.output, Nat.le_trans h.size (by simp), fun k hk => ((stays_putRow (w := w) (q := q) (off := 0) d) k (show k ≠ g by omega) (by omega)).trans (h.block k hk)⟩
/-- The rows that are kept, as a reading. -/
theorem kept_at {w0 w w' : World} {g cap m : Nat} (k : List (El w0 g)) (z : List (El w0 g)) (hH : Holds enc w' g 0 (k ++ z).toArray) (hs : Stays (· ≠ g) w0 w') (hm : m = k.length) (hc : k.length ≤ cap) (hcm : cap ≤ 9223372036854775807) (hl : k.length < 1000000) :
    RowsAt w' (fun _ => True) (.slice (some ⟨g, 0, none⟩) m cap) (k.map El.row) := by
  subst hm
  refine ⟨by simp; omega, some ⟨g, 0, none⟩, cap, by simp, by simpa using hc, hcm, fun _ => ⟨g, 0, rfl, trivial, fun j hj => ?_⟩⟩
  have hj' : j < k.length := by simpa using hj
  have h1 := (hH j (by simp; omega)).1
  have e : (k ++ z).toArray[j]! = k[j] := by
    rw [getElem!_pos _ j (by simp; omega)]
    simp [List.getElem_append_left hj']
  rw [e] at h1
  refine ⟨_, h1, ?_⟩
  rw [List.getElem_map]
  exact reads_row.mono ((k[j]).at_ hs) (fun _ _ _ => trivial)
def ofW (n : Nat) (rs : List Row) : List Row := rs.filter fun r => decide (r.length = n)
theorem ofW_yes {n : Nat} {rs : List Row} {k : Nat} (h : k < rs.length) (hr : (rs[k]).length = n) : ofW n (rs.take (k + 1)) = ofW n (rs.take k) ++ [rs[k]] := by
  unfold ofW
  rw [List.take_succ_eq_append_getElem h, List.filter_append]
  simp [hr]
theorem ofW_no {n : Nat} {rs : List Row} {k : Nat} (h : k < rs.length) (hr : (rs[k]).length ≠ n) : ofW n (rs.take (k + 1)) = ofW n (rs.take k) := by
  unfold ofW
  rw [List.take_succ_eq_append_getElem h, List.filter_append]
  simp [hr]
theorem ofW_length (n : Nat) (rs : List Row) : (ofW n rs).length ≤ rs.length := List.length_filter_le _ _
theorem lt_of_ok {w : World} {b : Nat} (h : b < w.heap.size) : b < w.heap.size := h

set_option maxHeartbeats 2000000 in
set_option maxRecDepth 100000 in
theorem make_any (w : World) (ok : Nat → Prop) (rv : Value) (n : Nat) (rs : List Row) (h : RowsAt w ok rv rs) (hn : n < 1000000) (hlen : rs.length < 1000000) :
    Calls Try.prog 8 #[.int .i64 n, rv] w fun e w' => ∃ v, e = .returned v ∧ SegAt w' (w.heap.size ≤ ·) v n (norm n rs) ∧ Below w.heap.size w w' := by
  replace h := reads_rows.mono (ok2 := (· < w.heap.size)) h (fun _ _ hb => hb)
  obtain ⟨Al, cl, rfl, hcl, hlm, _⟩ := h.form
  obtain ⟨ir, hir, hr0, hr1, hr2⟩ := info_parts info_row
  have HH := Aside0.mk h
  clear h
  go_enter Try.func8, Try.ntmps8
  go_wp2
  go_loopw [5, 10] (fun s5 s10 wr => ∃ (k : Nat) (cs : List Value), s10 = .int .i64 k ∧ k ≤ rs.length ∧ Aside0 (BuiltBy RowAt wr w.heap.size 24 (· < w.heap.size) s5 (ofW n (rs.take k)) cs) ∧ Aside0 (Below w.heap.size w wr)) (fun _ s10 _ => rs.length - (intOf s10).toNat)
  case atStart => exact ⟨0, [], rfl, Nat.zero_le _, ⟨BuiltBy.nil _ _ _ _ _⟩, ⟨Below.refl _ _⟩⟩
  case round =>
    obtain ⟨k, cs, rfl, hk, HB, HBW⟩ := hrel
    have hbs := HBW.out.size
    by_cases hlt : k < rs.length
    · obtain ⟨bl, ol, ul, rfl, _, _, hcl1, hrl⟩ := (HH.out.below reads_row HBW.out).at_ k hlt
      obtain ⟨Ar, cr, hul, hcr, hrm, _⟩ := hrl.form
      have HRL := Aside0.mk hrl
      rw [hul] at hcl1
      have HUL := Aside0.mk hul
      clear hrl hul
      by_cases hw : (rs[k]).length = n
      · have hlw := ofW_length n (rs.take k)
        have h63 := Aside0.mk (show (ofW n (rs.take k)).length + 1 ≤ maxLen by unfold maxLen; have : (rs.take k).length ≤ k := List.length_take_le _ _; omega)
        have hby := Aside0.mk (show ((ofW n (rs.take k)).length + 1) * 24 ≤ 140737488355328 by have : (rs.take k).length ≤ k := List.length_take_le _ _; omega)
        have hsz := Aside0.mk (fun o => (show w.heap.size ≤ (wr.alloc o).heap.size by simp; omega))
        have HY := Aside0.mk (ofW_yes hlt hw)
        rw [hw] at hcl1 hcr hrm HUL
        clear hw hlw
        go_wp2_with (first | (at_builtin; refine wpList_append_own_at _ rfl (.tmp 18) (.tmp 20) 23 rfl w.heap.size 24 ir (.slice none 0 0) 1 24 Try.underlying23 hir hr0 hr1 hr2 rfl (by decide) _ _ _ rfl (HB.out.own.alloc _) ⟨wr.heap.size, 0, none⟩ 1 1 [.slice Ar n cr] rfl rfl (cell_one_new _ _ _) (by simp [Value.oneCell']) h63.out hby.out (hsz.out _) ?_; intro v1 w1 ho hg _ _; have HO := Aside0.mk ho; have HG := Aside0.mk hg; clear ho hg))
        go_roundw
        case rel =>
          refine ⟨k + 1, cs ++ [.slice Ar n cr], by go_num, by omega, ⟨?_⟩, ⟨?_⟩⟩
          · rw [HY.out]
            exact HB.out.append reads_row (by rw [← HUL.out]; exact HRL.out) HO.out HG.out (fun j hj => by have := HB.out.base j hj; omega)
          · exact (below_alloc HBW.out hbs _).grown HG.out (by simp; omega) (fun j hj => HB.out.base j hj)
        case measure => simp [intOf]; omega
      · have HY := Aside0.mk (ofW_no hlt hw)
        have hd : (((rs[k]).length : Int) == (n : Int)) = false := by rw [beq_eq_false_iff_ne]; omega
        generalize (rs[k]).length = m at *
        go_wp2
        go_roundw
        case rel => exact ⟨k + 1, cs, by go_num, by omega, ⟨by rw [HY.out]; exact HB.out⟩, HBW⟩
        case measure => simp [intOf]; omega
    · obtain rfl : k = rs.length := by omega
      rw [List.take_length] at HB
      rcases HB.out.own.2 with ⟨hv, h0⟩ | ⟨g, cap, cur, hv, hgb, hh, hnc, hcm, hcs, htk⟩
      · subst hv
        have hN : norm n rs = [] := by
          have : ofW n rs = [] := List.length_eq_zero_iff.1 h0
          unfold ofW at this
          unfold norm
          rw [this]; rfl
        have HN := Aside0.mk hN
        clear hN HB h0
        go_wp2_with (first | (go_at_call 19; (with_reducible refine (sort_none _ _ _ _).mono ?_); rintro e w' ⟨rfl, rfl⟩) | (go_at_call 22; (with_reducible refine (compact_nil _ _).mono ?_); rintro e w' ⟨rfl, rfl⟩))
        refine (laid_any wr (fun _ => True) _ n [] (SlAt.nil _ _ _ _ _ (by omega)) hn (by simp) (by simp)).mono ?_
        rintro e w' ⟨v, rfl, HS, HBL⟩
        go_wp2
        go_ret
        refine ⟨v, rfl, ?_, HBW.out.trans (HBL.mono hbs)⟩
        rw [HN.out]
        exact HS.mono (fun b hb _ => Nat.le_trans hbs hb)
      · have hgl : g < wr.heap.size := (Array.getElem?_eq_some_iff.1 hh).1
        subst hv
        obtain ⟨l, hl1, hl2⟩ := els_of (blk := g) (ok := (· < w.heap.size)) (fun b hb => by omega) cs (ofW n rs) HB.out.len HB.out.el
        obtain ⟨d, hd⟩ : ∃ d, d = l.toArray := ⟨_, rfl⟩
        have hds : (ofW n rs).length = d.size := by rw [hd, ← hl2]; simp
        have hdr : d.toList.map El.row = ofW n rs := by rw [hd, ← hl2]
        have hH : Holds enc wr g 0 d := by
          intro j hj
          have hjl : j < l.length := by rw [hd] at hj; simpa using hj
          have : cs[j]? = some (enc d[j]!) := by
            rw [← hl1, List.getElem?_map, getElem!_pos d j hj]
            subst hd
            simp [hjl]
          obtain ⟨c1, c2, _⟩ := owns_at HB.out.own this
          rw [Nat.zero_add]
          exact ⟨c1, c2⟩
        have hdl : d.size < 1000000 := by have := ofW_length n rs; omega
        have hcm' : cap ≤ 9223372036854775807 := by unfold maxLen at hcm; omega
        rw [hds] at hnc
        have SO := Aside0.mk (sort_some wr g cap d hH hgl hdl)
        have HDR := Aside0.mk hdr
        have IN := Aside0.mk (rows_in64 HH.out)
        rw [hds]
        clear hd hl1 hl2 hh htk hcs hH HB hdr hds
        go_wp2_with (first | (go_at_call 19; (with_reducible refine (SO.out).mono ?_); rintro e w2 ⟨rfl, HS⟩))
        obtain ⟨d', p1, p2, p3⟩ := HS.ex
        have hd' : d'.size = d.size := p1.1
        have CP := compact_any wr w2 g cap d' HS.stays HS.size p3 (by omega) (by omega) hcm'
        rw [hd'] at CP
        have KN := kept_norm (rs := rs) p1 p2 HDR.out rfl
        have hkl : (kept d').length ≤ d.size := by
          have h1 : ((kept d').map El.row).length ≤ d.size := by
            unfold kept keptUpTo
            have := List.length_filter_le (kp d') (List.range d'.size)
            simp at this ⊢
            omega
          simpa using h1
        refine CP.mono ?_
        rintro e w3 ⟨rfl, q, hw3⟩
        have hH3 : Holds enc w3 g 0 (kept d' ++ List.replicate (d.size - (kept d').length) default).toArray := by
          rw [hw3]
          exact holds_putRow enc _ g 0 d' _ (holds_ahead enc w2 q g 0 d' p3) (by simp; omega)
        have hst3 : Stays (· ≠ g) wr w3 := by
          rw [hw3]
          exact HS.stays.trans (stays_putRow _) HS.size
        have hb3 : RowKit.Below w.heap.size w w3 := by
          rw [hw3]
          exact below_putRow _ (HS.below _ _ HBW.out hgb) hgb (by have := HS.size; omega)
        have R3 := kept_at (w := w3) (cap := cap) (kept d') _ hH3 hst3 rfl (by omega) hcm' (by omega)
        rw [KN] at R3
        have LA := laid_any w3 _ _ n (norm n rs) R3 hn (by rw [← KN]; simp; omega) (fun r hr => by
          have := (mem_norm n rs r).1 hr
          exact ⟨this.2, IN.out r this.1⟩)
        have LA' := Aside0.mk LA
        have HB3 := Aside0.mk hb3
        clear hst3 hH3 hw3 KN CP HS p1 p2 p3 R3 LA hb3 SO
        go_wp2_with fail
        refine (LA'.out).mono ?_
        rintro e w4 ⟨v, rfl, HSG, HBL⟩
        go_wp2
        go_ret
        exact ⟨v, rfl, HSG.mono (fun b hb _ => Nat.le_trans HB3.out.size hb), HB3.out.trans (HBL.mono HB3.out.size)⟩
end Go.Proofs.Ytmgoefhihljggaa.Sg
