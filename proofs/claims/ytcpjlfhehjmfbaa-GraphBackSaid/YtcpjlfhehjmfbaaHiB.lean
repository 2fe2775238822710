/- The heap's swap. -/
import Derived.Test.YtcpjlfhehjmfbaaHiA
namespace Go.Proofs.Ytcpjlfhehjmfbaa.Hi
open Go.RowKit Go.Shelf Go.Proofs.Ytcpjlfhehjmfbaa.Sg Go.Proofs.Ytcpjlfhehjmfbaa.Hm
set_option linter.unusedVariables false
set_option linter.unusedSimpArgs false
set_option maxHeartbeats 2000000 in
set_option maxRecDepth 100000 in
theorem swap_ne (g b n cap : Nat) (i j : Int) (x1 : Int) (x2 : Int) (ci cj : Int) (w : World) (hi0 : 0 ≤ i) (hin : i < n) (hj0 : 0 ≤ j) (hjn : j < n) (hn : n ≤ 9223372036854775807) (hij : i.toNat ≠ j.toNat)
    (h1 : w.cell? ⟨g, 1, none⟩ = some (.slice (some ⟨b, 0, none⟩) n cap))
    (a0 : w.cell? ⟨b, i.toNat * 2, none⟩ = some (.int .i64 x1))
    (a1 : w.cell? ⟨b, i.toNat * 2 + 1, none⟩ = some (.int .i64 ci))
    (b0 : w.cell? ⟨b, j.toNat * 2, none⟩ = some (.int .i64 x2))
    (b1 : w.cell? ⟨b, j.toNat * 2 + 1, none⟩ = some (.int .i64 cj))
    (f0 : w.frozen? ⟨b, i.toNat * 2, none⟩ = false) (f1 : w.frozen? ⟨b, i.toNat * 2 + 1, none⟩ = false) (f2 : w.frozen? ⟨b, j.toNat * 2, none⟩ = false) (f3 : w.frozen? ⟨b, j.toNat * 2 + 1, none⟩ = false) :
    Calls Try.prog 22 #[.pointer (some ⟨g, 0, none⟩), .int .i64 i, .int .i64 j] w fun e w' => e = .returned (.tuple #[]) ∧ w' = ((((w.setCell ⟨b, i.toNat * 2, none⟩ (.int .i64 x2)).setCell ⟨b, i.toNat * 2 + 1, none⟩ (.int .i64 cj)).setCell ⟨b, j.toNat * 2, none⟩ (.int .i64 x1)).setCell ⟨b, j.toNat * 2 + 1, none⟩ (.int .i64 ci)).drew := by
  go_enter Try.func22, Try.ntmps22
  go_wp2
  go_region
  all_goals go_wp2
  all_goals go_end0
  all_goals exact ⟨rfl, rfl⟩
set_option maxHeartbeats 2000000 in
set_option maxRecDepth 100000 in
theorem swap_eq (g b n cap : Nat) (i : Int) (x1 : Int) (ci : Int) (w : World) (hi0 : 0 ≤ i) (hin : i < n) (hn : n ≤ 9223372036854775807)
    (h1 : w.cell? ⟨g, 1, none⟩ = some (.slice (some ⟨b, 0, none⟩) n cap))
    (a0 : w.cell? ⟨b, i.toNat * 2, none⟩ = some (.int .i64 x1))
    (a1 : w.cell? ⟨b, i.toNat * 2 + 1, none⟩ = some (.int .i64 ci))
    (f0 : w.frozen? ⟨b, i.toNat * 2, none⟩ = false) (f1 : w.frozen? ⟨b, i.toNat * 2 + 1, none⟩ = false) :
    Calls Try.prog 22 #[.pointer (some ⟨g, 0, none⟩), .int .i64 i, .int .i64 i] w fun e w' => e = .returned (.tuple #[]) ∧ w' = ((((w.setCell ⟨b, i.toNat * 2, none⟩ (.int .i64 x1)).setCell ⟨b, i.toNat * 2 + 1, none⟩ (.int .i64 ci)).setCell ⟨b, i.toNat * 2, none⟩ (.int .i64 x1)).setCell ⟨b, i.toNat * 2 + 1, none⟩ (.int .i64 ci)).drew := by
  go_enter Try.func22, Try.ntmps22
  go_wp2
  go_region
  all_goals go_wp2
  all_goals go_end0
  all_goals exact ⟨rfl, rfl⟩
theorem swap_kept (w : World) (b o1 o2 o3 o4 : Nat) (v1 v2 v3 v4 : Value) (n cap : Nat) : Kept w ((((w.setCell ⟨b, o1, none⟩ v1).setCell ⟨b, o2, none⟩ v2).setCell ⟨b, o3, none⟩ v3).setCell ⟨b, o4, none⟩ v4).drew (fun k => (Value.slice (some ⟨b, 0, none⟩) n cap).ownBlock = some k) := by
  have hS : (Value.slice (some ⟨b, 0, none⟩) n cap).ownBlock = some b := rfl
  refine Kept.drew ?_
  refine Kept.setCell (p := ⟨b, o4, none⟩) ?_ (.inl hS) _
  refine Kept.setCell (p := ⟨b, o3, none⟩) ?_ (.inl hS) _
  refine Kept.setCell (p := ⟨b, o2, none⟩) ?_ (.inl hS) _
  refine Kept.setCell (p := ⟨b, o1, none⟩) ?_ (.inl hS) _
  exact Kept.refl w _
theorem swp_mem {es : List E} {i j : Nat} (hi : i < es.length) (hj : j < es.length) {Q : E → Prop} (h : ∀ e ∈ es, Q e) : ∀ e ∈ swp es i j, Q e := fun e he => h e ((swp_perm es i j hi hj).mem_iff.1 he)
set_option maxHeartbeats 4000000 in
theorem swap_any {B : Nat} {O : Ord} (OK : O.OK B) (g : Nat) (es : List E) (came : Int) (v : Value) (i j : Int) (w : World) (h : HI w B g O es came v) (hi0 : 0 ≤ i) (hin : i < es.length) (hj0 : 0 ≤ j) (hjn : j < es.length) :
    Calls Try.prog 22 #[.pointer (some ⟨g, 0, none⟩), .int .i64 i, .int .i64 j] w fun e w' => e = .returned (.tuple #[]) ∧ HI w' B g O (swp es i.toNat j.toNat) came v ∧ Kept w w' (fun k => v.ownBlock = some k) := by
  have hbase := h.base
  obtain ⟨b, cap, rfl, hbl, hbg⟩ := h.form (by omega)
  have hi : i.toNat < es.length := by omega
  have hj : j.toNat < es.length := by omega
  have a0 : w.cell? ⟨b, i.toNat * 2, none⟩ = some (.int .i64 es[i.toNat].1) := by rw [h.own.cellAt _ (by omega)]; exact cellsE_get0 es _ hi
  have a1 : w.cell? ⟨b, i.toNat * 2 + 1, none⟩ = some (.int .i64 es[i.toNat].2) := by rw [h.own.cellAt _ (by omega)]; exact cellsE_get1 es _ hi
  have b0 : w.cell? ⟨b, j.toNat * 2, none⟩ = some (.int .i64 es[j.toNat].1) := by rw [h.own.cellAt _ (by omega)]; exact cellsE_get0 es _ hj
  have b1 : w.cell? ⟨b, j.toNat * 2 + 1, none⟩ = some (.int .i64 es[j.toNat].2) := by rw [h.own.cellAt _ (by omega)]; exact cellsE_get1 es _ hj
  have hf := fun k => h.own.frozenAt k
  obtain ⟨k0, k1, k2, _, _, _⟩ := blk_facts h.blk
  have hge := h.ge
  have hgl := h.lt
  have fin : ∀ w', w' = ((((w.setCell ⟨b, i.toNat * 2, none⟩ (.int .i64 es[j.toNat].1)).setCell ⟨b, i.toNat * 2 + 1, none⟩ (.int .i64 es[j.toNat].2)).setCell ⟨b, j.toNat * 2, none⟩ (.int .i64 es[i.toNat].1)).setCell ⟨b, j.toNat * 2 + 1, none⟩ (.int .i64 es[i.toNat].2)).drew →
      HI w' B g O (swp es i.toNat j.toNat) came (.slice (some ⟨b, 0, none⟩) es.length cap) ∧ Kept w w' (fun k => (Value.slice (some ⟨b, 0, none⟩) es.length cap).ownBlock = some k) := by
    rintro w' rfl
    have o1 := (h.own.stored (i.toNat * 2) (.int .i64 es[j.toNat].1)).1
    have o2 := (o1.stored (i.toNat * 2 + 1) (.int .i64 es[j.toNat].2)).1
    rw [cellsE_set es i.toNat es[j.toNat]] at o2
    have o3 := (o2.stored (j.toNat * 2) (.int .i64 es[i.toNat].1)).1
    have o4 := (o3.stored (j.toNat * 2 + 1) (.int .i64 es[i.toNat].2)).1
    rw [cellsE_set (es.set i.toNat es[j.toNat]) j.toNat es[i.toNat]] at o4
    have hk := swap_kept w b (i.toNat * 2) (i.toNat * 2 + 1) (j.toNat * 2) (j.toNat * 2 + 1) (.int .i64 es[j.toNat].1) (.int .i64 es[j.toNat].2) (.int .i64 es[i.toNat].1) (.int .i64 es[i.toNat].2) es.length cap
    refine ⟨⟨(hk.blk g h.lt (fun e => hbg (Option.some.inj e))).trans h.blk, ?_, h.ne, h.ge, OK.keep _ _ h.inv (hk.below (by omega) (fun k hk => (hbase k hk).1)), swp_mem hi hj h.oks⟩, hk⟩
    unfold swp
    rw [getD_at es _ hi, getD_at es _ hj]
    have : ((es.set i.toNat es[j.toNat]).set j.toNat es[i.toNat]).length = es.length := by simp
    rw [this]
    exact own_drew o4
  by_cases hij : i.toNat = j.toNat
  · obtain rfl : i = j := by omega
    have SE := swap_eq g b es.length cap i (es[i.toNat]).1 (es[i.toNat]).2 w hi0 hin h.len k1 a0 a1 (hf (i.toNat * 2)) (hf (i.toNat * 2 + 1))
    exact SE.mono fun e w' ⟨he, hw⟩ => ⟨he, fin w' hw⟩
  · have SE := swap_ne g b es.length cap i j (es[i.toNat]).1 (es[j.toNat]).1 (es[i.toNat]).2 (es[j.toNat]).2 w hi0 hin hj0 hjn h.len hij k1 a0 a1 b0 b1 (hf (i.toNat * 2)) (hf (i.toNat * 2 + 1)) (hf (j.toNat * 2)) (hf (j.toNat * 2 + 1))
    exact SE.mono fun e w' ⟨he, hw⟩ => ⟨he, fin w' hw⟩
end Go.Proofs.Ytcpjlfhehjmfbaa.Hi
