/- Contract: Best.Put of a new key. -/
import Derived.Test.YtalbgdbphdhhaaaSgBf
namespace Go.Proofs.Ytalbgdbphdhhaaa.Sg
open Go.RowKit Go.Shelf Go.Maps
set_option linter.unusedVariables false
set_option linter.unusedSimpArgs false

set_option maxHeartbeats 40000000 in
set_option maxRecDepth 100000 in
theorem put_new (w : World) (B g W : Nat) (F : Nat → Prop) (great : Bool) (rows : List Row) (h : BestI w B g F W great rows) (hlim : rows.length + 1 < 1000000) (ok : Nat → Prop) (v : Value) (key : Row) (hk : RowAt w ok v key) (hkF : ∀ b, ok b → ¬ F b) (hl : key.length < 1000000) (cost : Int) (hc : In64 cost) (hnn : key.length = W) (hnx : idxB W rows key = none) :
    Calls Try.prog 13 #[.pointer (some ⟨g, 0, none⟩), v, .int .i64 cost] w fun e w' => e = .returned (.bool (putX W great rows key cost).2) ∧ BestPost w w' B g W F great (putX W great rows key cost).1 := by
  obtain ⟨A, cv, rfl, hcv, hcm, _⟩ := hk.form
  have HB := Aside0.mk h
  obtain ⟨mb, rv, bs, n, D, h, hF⟩ := h
  obtain ⟨c0, c1, c2, c3⟩ := h.cells
  have hws := h.wid
  have hW := hnn
  subst hW
  have hki := row_in64 hk
  have NM := Aside0.mk (fun w' (hb : Below w.heap.size w w') => name_any w' ok _ key (SlAt.below reads_int hk hb) hl)
  obtain ⟨c, hcx, hlk⟩ := h.look hki hl
  have LK := Aside0.mk hlk
  have HH := Aside0.mk h
  have HF := Aside0.mk hF
  have HKI := Aside0.mk hki
  have HC := Aside0.mk hc
  cases hx : idxB key.length rows key with
  | none =>
    rw [hx] at LK
    have HX := Aside0.mk hx
    have hX := Aside0.mk (show putX key.length great rows key cost = (rows ++ [key ++ [cost]], true) by unfold putX putB; rw [if_pos rfl, hx])
    obtain ⟨Ar, cr, rfl⟩ := own_form h.own
    have UP := Aside0.mk (fun w2 hb => h.upd hl w2 hb)
    have hmk := fun w => run_make_row' (P := Try.prog) 23 2 (.int .i64 0) 8 Try.underlying23 info_i64 rfl .i64 .i64 (key.length + 1) (by omega) (by omega) w
    simp only [show ((key.length + 1 : Nat) : Int) = (key.length : Int) + 1 by omega] at hmk
    have hwr : IntKind.i64.wrap ((key.length : Int) + 1) = (key.length : Int) + 1 := by first | go_num | (rw [IntKind.wrap_i64]; omega)
    obtain ⟨zl, hzl⟩ := copy_cell key
    have ZL := Aside0.mk hzl
    have NE := Aside0.mk h.ne
    have HK := Aside0.mk (show ∀ w6, Keeps (fun b => b ≠ mb) w w6 → RowAt w6 ok (.slice A key.length cv) key from fun w6 k => reads_row.stays hk (k.stays.mono (fun b hb _ e => hkF b hb (e ▸ hF.2.1))))
    obtain ⟨ir, hir, hr0, hr1, hr2⟩ := info_parts info_row9
    have h63 := Aside0.mk (show rows.length + 1 ≤ maxLen by unfold maxLen; omega)
    have hby := Aside0.mk (show (rows.length + 1) * 24 ≤ 140737488355328 by omega)
    have hlt := h.lts
    have hBs : B ≤ w.heap.size := by have := hF.2.2.2.2 g hF.1; omega
    have HLIM := Aside0.mk hlim
    clear hnx h hF hk hkF hlk hcx hx hki hc hzl
    go_enter Try.func13, Try.ntmps13
    go_wp2
    go_region_with (go_at_call 34; refine (NM.out _ (by first | exact Below.refl _ _ | exact below_drew (Below.refl _ _))).mono ?_; rintro e w4 ⟨rfl, hb4⟩; have hb5 : Below w.heap.size w w4 := (by first | exact hb4 | exact (below_drew (Below.refl _ _)).trans hb4); have q0 : w4.cell? ⟨g, 2, none⟩ = some (.map (some mb)) := below_cell0 hb5 c2; have q1 := LK.out w4 hb5; have q2 := below_cell0 hb5 c0; have q3 := below_cell0 hb5 c3)
    all_goals
      clear q1
      go_wp2
      go_region_with (go_at_call 34; refine (NM.out _ (below_drew hb5)).mono ?_; rintro e w5 ⟨rfl, hb6⟩; have hb7 : Below w.heap.size w w5 := below_trans0 (below_drew hb5) hb6; have r2 := below_cell0 hb7 c2; have r3 := below_cell0 hb7 c3; obtain ⟨w6, u1, u2, u3⟩ := UP.out w5 hb7)
      all_goals
        have UU := Aside0.mk (show Upd w w6 B g mb key.length great (.slice Ar rows.length cr) bs n (D.put (nameL key) (.lit (.int .i64 rows.length))) rows F from ⟨u2, (Keeps.all hb7 _).trans ((Keeps.grown u3).mono (ok2 := fun b => b ≠ mb) (fun b _ hb e => hb (Option.some.inj e).symm)) (fun _ _ h => h)⟩)
        have G6 := UU.out.cells HH.out
        have d0 : w6.cell? ⟨g, 0, none⟩ = some (.int .i64 key.length) := by simp [World.cell?, G6]
        have KV := HK.out w6 UU.out.keeps
        have KA := SlAt.below reads_int KV (below_alloc0 (Below.refl _ w6) (.cells (madeCells #[.int .i64 0] (key.length + 1)) 2))
        have CS := Aside0.mk (copy_src KA)
        have hs6 := UU.out.keeps.size
        have OW6 := Aside0.mk (UU.out.keeps.stays.owns HH.out.own (fun b hb => (NE.out.2.1 b hb).2.1))
        have G6 := Aside0.mk G6
        clear u1 u2 u3 r2 r3 q0 q2 q3 c0 c1 c2 c3 hb6 hb7 hb5 KV KA UP
        go_upto_region 8 with (fail)
        go_upto_region 9 with (go_loud (refine wpList_copy_splice rfl (.tmp 47) (.tmp 48) 23 23 rfl 2 Try.underlying23 size_i64 (some ⟨w6.heap.size, 0, none⟩) A (key.length + 1) (key.length + 1) key.length cv rfl rfl w6.heap.size 0 (madeCells #[.int .i64 0] (key.length + 1)).toList 2 (made_new w6 _) (key.map (Value.int .i64)) (by simp) (fun hp => ⟨rfl, CS.out hp⟩) (by simp [madeCells]) (by simp [Value.oneCell']) w6.heap.size w6 (below_alloc0 (Below.refl _ _) _) (Nat.le_refl _) ?_); intro w7 hg7 hb7; replace hg7 : w7.heap[w6.heap.size]? = _ := hg7; have x7 : w7.cell? ⟨w6.heap.size, key.length, none⟩ = some zl := (by rw [cell_of_row _ _ _ _ _ _ hg7, List.getElem?_toArray]; exact ZL.out); have f7 := frozen_of_row w7 w6.heap.size key.length _ _ hg7; have G7 := (hb7.block g (Nat.lt_of_lt_of_le hlt.1 hs6)).trans G6.out; have d7 : w7.cell? ⟨g, 0, none⟩ = some (.int .i64 key.length) := (by simp [World.cell?, G7]); have H7 := Aside0.mk hg7; clear hg7)
        go_upto_region 10 with (fail)
        obtain ⟨w8, hw8⟩ : ∃ w8, w7.setCell ⟨w6.heap.size, key.length, none⟩ (.int .i64 cost) = w8 := ⟨_, rfl⟩
        have k8 : Keeps (fun b => b ≠ w6.heap.size) w7 w8 := by rw [← hw8]; exact Keeps.setCell w7 ⟨w6.heap.size, key.length, none⟩ _
        have l6 : g < w6.heap.size := Nat.lt_of_lt_of_le hlt.1 hs6
        have s7 : w6.heap.size ≤ w7.heap.size := hb7.size
        have G8 := (k8.block g (Nat.lt_of_lt_of_le l6 s7) (Nat.ne_of_lt l6)).trans G7
        have d3 : w8.cell? ⟨g, 3, none⟩ = some (.slice Ar rows.length cr) := by simp [World.cell?, G8]
        have OW7 := (Stays.of_belowB hb7).owns OW6.out (fun b hb => (OW6.out.lt b hb).2)
        have OW8 := Aside0.mk (k8.stays.owns OW7 (fun b hb => Nat.ne_of_lt (OW6.out.lt b hb).2))
        have hsz := Aside0.mk (fun o => (show B ≤ (w8.alloc o).heap.size by have := k8.size; simp; omega))
        have HB7 := Aside0.mk hb7
        have G8 := Aside0.mk G8
        have l8 := Aside0.mk (Nat.lt_of_lt_of_le l6 (Nat.le_trans s7 k8.size))
        rw [hw8]
        have HW8 := Aside0.mk hw8
        clear hw8 x7 f7 d7 d0 G7 hb7 OW7 k8
        go_wp2_with (at_builtin; go_loud (refine wpList_append_own_at _ rfl (.tmp 61) (.tmp 63) 28 rfl B 23 ir (.slice none 0 0) 1 24 Try.underlying28 hir hr0 hr1 hr2 rfl (by decide) _ _ _ rfl (OW8.out.alloc _) ⟨w8.heap.size, 0, none⟩ 1 1 [Value.slice (some ⟨w6.heap.size, 0, none⟩) (key.length + 1) (key.length + 1)] rfl rfl (cell_one_new _ _ _) (by simp [Value.oneCell']) h63.out hby.out (hsz.out _) ?_); intro v2 w10 ho hg _ hb; obtain ⟨b2, cp2, rfl⟩ := own_some ho; have G10 := (hg.block g (by have := l8.out; simp; omega) (fun e => (NE.out.2.1 g e.symm).1 rfl)).trans ((Below.heap_alloc _ _ _ (by have := l8.out; omega)).trans G8.out); have e3 : w10.cell? ⟨g, 3, none⟩ = some (.slice Ar rows.length cr) := (by simp [World.cell?, G10]); have f3 := frozen_of_row w10 g 3 _ _ G10; have HO := Aside0.mk ho; have HG := Aside0.mk hg; have HBB := Aside0.mk hb; clear ho hg hb G10)
        go_ret
        rw [hX.out]
        refine ⟨rfl, ?_⟩
        have e8 := HW8.out
        subst e8
        exact BestAt.added HH.out HF.out HLIM.out HKI.out HC.out HX.out UU.out H7.out HB7.out HO.out HG.out HBB.out
  | some i => rw [hx] at hnx; cases hnx
theorem put_any (w : World) (B g W : Nat) (F : Nat → Prop) (great : Bool) (rows : List Row) (h : BestI w B g F W great rows) (hlim : rows.length + 1 < 1000000) (ok : Nat → Prop) (v : Value) (key : Row) (hk : RowAt w ok v key) (hkF : ∀ b, ok b → ¬ F b) (hl : key.length < 1000000) (cost : Int) (hc : In64 cost) :
    Calls Try.prog 13 #[.pointer (some ⟨g, 0, none⟩), v, .int .i64 cost] w fun e w' => e = .returned (.bool (putX W great rows key cost).2) ∧ BestPost w w' B g W F great (putX W great rows key cost).1 := by
  by_cases hW : key.length = W
  · cases hx : idxB W rows key with
    | none => exact put_new w B g W F great rows h hlim ok v key hk hkF hl cost hc hW hx
    | some i => exact put_old w B g W F great rows h hlim ok v key hk hkF hl cost hc (fun _ => by rw [hx]; simp)
  · exact put_old w B g W F great rows h hlim ok v key hk hkF hl cost hc (fun e => absurd e hW)
end Go.Proofs.Ytalbgdbphdhhaaa.Sg
