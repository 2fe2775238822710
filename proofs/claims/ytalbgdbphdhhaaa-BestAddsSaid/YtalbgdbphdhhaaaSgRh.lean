/- Contracts: slices.Grow of nil, slices.Concat of two lists of rows; width; Or. -/
import Derived.Test.YtalbgdbphdhhaaaSgRg
import Derived.Lib.AppendZeros
namespace Go.Proofs.Ytalbgdbphdhhaaa.Sg
open Go.RowKit Go.Shelf Go.Lib
set_option linter.unusedVariables false
set_option linter.unusedSimpArgs false

set_option maxRecDepth 100000 in
set_option maxHeartbeats 2000000 in
theorem grow_any (w : World) (n : Nat) (hn : n < 10000000) : Calls Try.prog 58 #[.slice none 0 0, .int .i64 n] w fun e w' => ∃ v, e = .returned v ∧ w'.ownsRow w.heap.size 23 1 v 0 [] ∧ Below w.heap.size w w' := by
  obtain ⟨ir, hir, hr0, hr1, hr2⟩ := info_parts info_rowR
  by_cases h0 : n = 0
  · subst h0
    have OW := Aside0.mk (World.ownsRow_nil w w.heap.size 23 1)
    go_enter Try.func58, Try.ntmps58
    go_wp2
    go_ret
    exact ⟨_, rfl, OW.out, Below.refl _ _⟩
  · have hp : 0 < n := by omega
    have hrun := fun ty => run_append_nil_zeros (P := Try.prog) w 28 3 ty 23 ir (.slice none 0 0) .i64 .i64 Try.underlying28 Try.underlying3 hir hr0 n hp (by omega) (by omega) (by rw [hr2]; omega)
    have hcl := grownCap_le_maxLen w n 0 23 (by unfold maxLen; omega)
    have hcg := grownCap_ge w n 0 23
    generalize grownCap w n 0 23 = cap at *
    have OW := Aside0.mk (show (w.drew.alloc (.cells (Builtin.zeroCells (Value.slice none 0 0).cells n ++ Builtin.zeroCells (Value.slice none 0 0).cells (cap - n)) 23)).ownsRow w.heap.size 23 1 (.slice (some ⟨w.heap.size, 0, none⟩) 0 cap) 0 [] from
      ⟨rfl, .inr ⟨w.heap.size, cap, _, rfl, Nat.le_refl _, heap_alloc_new w.drew _, Nat.zero_le _, hcl, by simp [Builtin.zeroCells, Value.cells]; omega, by simp⟩⟩)
    have HR := Aside0.mk hrun
    have BW := Aside0.mk (below_alloc0 (below_drew (Below.refl w.heap.size w)) (.cells (Builtin.zeroCells (Value.slice none 0 0).cells n ++ Builtin.zeroCells (Value.slice none 0 0).cells (cap - n)) 23))
    obtain ⟨W1, hW1⟩ : ∃ W1, w.drew.alloc (.cells (Builtin.zeroCells (Value.slice none 0 0).cells n ++ Builtin.zeroCells (Value.slice none 0 0).cells (cap - n)) 23) = W1 := ⟨_, rfl⟩
    rw [hW1] at OW BW HR
    clear hrun hW1
    go_enter Try.func58, Try.ntmps58
    go_wp2_with (at_builtin; refine wpList_append_run _ rfl (.tmp 20) (.tmp 21) 28 3 rfl _ _ rfl rfl _ W1 (HR.out _) ?_)
    go_ret
    exact ⟨_, rfl, OW.out, BW.out⟩

/-- The first lists' rows, one behind the other. -/
def flatK (Ls : List (List Row)) (k : Nat) : List Row := (Ls.take k).flatten
theorem flatK_succ (Ls : List (List Row)) (k : Nat) (h : k < Ls.length) : flatK Ls (k + 1) = flatK Ls k ++ Ls[k] := by
  unfold flatK; rw [List.take_succ_eq_append_getElem h, List.flatten_append]; simp
theorem flatK_all (Ls : List (List Row)) : flatK Ls Ls.length = Ls.flatten := by unfold flatK; rw [List.take_length]
theorem flatK_zero (Ls : List (List Row)) : flatK Ls 0 = [] := rfl
theorem flatK_le (Ls : List (List Row)) (k : Nat) : (flatK Ls k).length ≤ Ls.flatten.length := by
  have : Ls.flatten = (Ls.take k).flatten ++ (Ls.drop k).flatten := by rw [← List.flatten_append, List.take_append_drop]
  unfold flatK
  rw [this, List.length_append]; omega
set_option maxRecDepth 100000 in
set_option maxHeartbeats 4000000 in
theorem concat_any (w : World) (ok : Nat → Prop) (v : Value) (Ls : List (List Row)) (h : SlAt RowsAt w ok v Ls) (hl : Ls.flatten.length < 1000000) :
    Calls Try.prog 47 #[v] w fun e w' => ∃ v', e = .returned v' ∧ RowsAt w' (fun _ => True) v' Ls.flatten ∧ Below w.heap.size w w' := by
  replace h := (reads_sl reads_rows).mono (ok2 := (· < w.heap.size)) h (fun _ _ hb => hb)
  obtain ⟨A, c, rfl, hlc, hl4, _⟩ := h.form
  obtain ⟨ir, hir, hr0, hr1, hr2⟩ := info_parts info_rowR
  have H := Aside0.mk h
  obtain ⟨F, hF⟩ : ∃ F, Ls.flatten = F := ⟨_, rfl⟩
  have FL := Aside0.mk (fun k => flatK_le Ls k)
  have FA := Aside0.mk (flatK_all Ls)
  rw [hF] at FL FA hl ⊢
  clear h hF
  go_enter Try.func47, Try.ntmps47
  go_wp2_with fail
  go_loop [3, 11] (fun s3 s11 => ∃ k : Nat, s11 = .int .i64 k ∧ k ≤ Ls.length ∧ s3 = .int .i64 (flatK Ls k).length) (fun _ s11 => Ls.length - (intOf s11).toNat)
  case atStart => exact ⟨0, rfl, Nat.zero_le _, rfl⟩
  case round =>
    obtain ⟨k, rfl, hk, rfl⟩ := hrel
    have hf := FL.out k
    by_cases hlt : k < Ls.length
    · obtain ⟨b, o, u, rfl, _, _, hc, hu⟩ := H.out.at_ k hlt
      have ST := Aside0.mk (flatK_succ Ls k hlt)
      have hf1 := FL.out (k + 1)
      rw [ST.out, List.length_append] at hf1
      obtain ⟨Au, cu, hue, _⟩ := hu.form
      subst hue
      clear hu
      generalize Ls[k] = L at *
      have hz1 : (0 : Int) ≤ ((flatK Ls k).length : Int) + (L.length : Int) := by omega
      go_wp2
      go_round
      case rel => exact ⟨k + 1, by go_num, by omega, by rw [ST.out]; simp⟩
      case measure => simp [intOf]; omega
    · obtain rfl : k = Ls.length := by omega
      have GR := Aside0.mk (grow_any w (flatK Ls Ls.length).length (by omega))
      go_wp2_with fail
      refine (GR.out).mono ?_
      rintro e w1 ⟨v1, rfl, HO, HB⟩
      have HO := Aside0.mk HO
      have HB := Aside0.mk HB
      clear GR hf
      obtain ⟨A1, c1, hv1⟩ := own_form HO.out
      subst hv1
      go_wp2_with fail
      go_loopw [6, 27] (fun s6 s27 wr => ∃ (k : Nat) (cs : List Value), s27 = .int .i64 k ∧ k ≤ Ls.length ∧ Aside0 (BuiltBy RowAt wr w.heap.size 23 (Off s6) s6 (flatK Ls k) cs) ∧ Aside0 (Below w.heap.size w wr)) (fun _ s27 _ => Ls.length - (intOf s27).toNat)
      case atStart => exact ⟨0, [], rfl, Nat.zero_le _, ⟨⟨HO.out, fun j hj => by simp [flatK_zero] at hj⟩⟩, HB⟩
      case round =>
        obtain ⟨k, cs, rfl, hk2, HU, HBw⟩ := hrel
        have hf0 := FL.out k
        by_cases hlt2 : k < Ls.length
        · obtain ⟨b, o, u, rfl, _, _, hc, hu⟩ := (H.out.below reads_rows HBw.out).at_ k hlt2
          have ST := Aside0.mk (flatK_succ Ls k hlt2)
          have hf1 := FL.out (k + 1)
          rw [ST.out, List.length_append] at hf1
          obtain ⟨Au, cu, hue, _⟩ := hu.form
          subst hue
          obtain ⟨ds, hd1, hd2, hd3, hd4⟩ := hu.vals
          obtain ⟨A6, c6, hv6⟩ := own_form HU.out.own
          subst hv6
          have hbs := HBw.out.size
          have D4 := Aside0.mk (show ∀ j (hj : j < Ls[k].length) z, ds[j]? = some z → RowAt wr (Off (.slice A6 (flatK Ls k).length c6)) z Ls[k][j] from fun j hj z hz => reads_row.mono (hd4 j hj z hz) (fun b hb _ e => by have := own_below HU.out.own b e; omega))
          have D3 := Aside0.mk (show ∀ j z, ds[j]? = some z → ∃ b off, Au = some ⟨b, off, none⟩ ∧ wr.cell? ⟨b, off + j, none⟩ = some z from fun j z hz => by obtain ⟨b, off, h1, _, h2⟩ := hd3 j z hz; exact ⟨b, off, h1, h2⟩)
          have D1 := Aside0.mk (show ∀ z ∈ ds, z.oneCell' = true from fun z hz => by
            obtain ⟨j, hj, rfl⟩ := List.mem_iff_getElem.1 hz
            exact reads_row.one (hd4 j (by omega) _ (List.getElem?_eq_getElem hj)))
          have DL := Aside0.mk hd1
          clear hd1 hd3 hd4 hu
          generalize Ls[k] = L at *
          have h63 := Aside0.mk (show (flatK Ls k).length + L.length ≤ maxLen by unfold maxLen; omega)
          have hby := Aside0.mk (show ((flatK Ls k).length + L.length) * 24 ≤ 140737488355328 by omega)
          go_wp2_with (at_builtin; refine wpList_append_list rfl (.tmp 31) (.tmp 32) 28 rfl w.heap.size 23 ir (.slice none 0 0) 24 Try.underlying28 hir hr0 hr1 hr2 rfl _ _ _ rfl HU.out.own Au L.length cu ds rfl DL.out D3.out D1.out h63.out hby.out hbs ?_; intro v1 w10 ho hg hb; have NX := Aside0.mk (HU.out.pushAll reads_row DL.out D4.out ho hg hb); have B10 := Aside0.mk (HBw.out.grown hg hbs (own_below HU.out.own)); clear ho hg hb)
          go_roundw
          case rel => exact ⟨k + 1, _, by go_num, by omega, ⟨by rw [ST.out]; exact NX.out⟩, B10⟩
          case measure => simp [intOf]; omega
        · obtain rfl : k = Ls.length := by omega
          have R := Aside0.mk (show RowsAt wr (fun _ => True) u6 (flatK Ls Ls.length) from SlAt.of_own0 HU.out.own rfl (fun _ _ _ => trivial) (by omega) (fun j hj z hz => reads_row.mono (HU.out.el j hj z hz) (fun _ _ _ => trivial)))
          clear HU
          obtain ⟨A6, c6, hv6, _⟩ := R.out.form
          subst hv6
          go_wp2
          go_ret
          exact ⟨_, rfl, by rw [← FA.out]; exact R.out, HBw.out⟩

set_option maxHeartbeats 1000000 in
theorem widthOf_any (w : World) (ok ok2 : Nat → Prop) (v v2 : Value) (W W2 : Nat) (a b : List Row) (h : SegN w ok v W a) (h2 : SegN w ok2 v2 W2 b) :
    Calls Try.prog 46 #[v, v2] w fun e w' => e = .returned (.int .i64 (if a.length = 0 then W2 else W : Nat)) ∧ w = w' := by
  have LA := Aside0.mk (lenN_any w _ _ _ _ h)
  have WA := Aside0.mk (widthN_any w _ _ _ _ h)
  have WB := Aside0.mk (widthN_any w _ _ _ _ h2)
  obtain ⟨p, rfl⟩ := h.ptr
  obtain ⟨p2, rfl⟩ := h2.ptr
  clear h h2
  by_cases q : a.length = 0
  · rw [if_pos q]
    rw [q] at LA
    clear q
    go_enter Try.func46, Try.ntmps46
    go_wp2_with fail
    refine (LA.out).mono ?_
    rintro e w' ⟨rfl, rfl⟩
    go_wp2_with fail
    refine (WB.out).mono ?_
    rintro e w' ⟨rfl, rfl⟩
    go_wp2
    go_ret
    exact ⟨rfl, rfl⟩
  · rw [if_neg q]
    have hq : ((a.length : Int) == 0) = false := by simp; intro e; exact q (by simp [e])
    have hp : 0 < a.length := by omega
    go_enter Try.func46, Try.ntmps46
    go_wp2_with fail
    refine (LA.out).mono ?_
    rintro e w' ⟨rfl, rfl⟩
    go_wp2_with fail
    refine (WA.out).mono ?_
    rintro e w' ⟨rfl, rfl⟩
    go_wp2
    go_ret
    exact ⟨rfl, rfl⟩
end Go.Proofs.Ytalbgdbphdhhaaa.Sg
