/- Contract: slices.Clone of a row of numbers: a row of its own. -/
import Derived.Test.YtalbgdbphdhhaaaSgBl
namespace Go.Proofs.Ytalbgdbphdhhaaa.Sg
open Go.RowKit Go.Shelf
set_option linter.unusedVariables false
set_option linter.unusedSimpArgs false

set_option maxHeartbeats 1000000 in
theorem clone64_own (w : World) (ok : Nat → Prop) (v : Value) (xs : Row) (h : RowAt w ok v xs) (hl : xs.length < 1000000) :
    Calls Try.prog 45 #[v] w fun e w' => ∃ cv, e = .returned cv ∧ w'.ownsRow w.heap.size 2 1 cv xs.length (xs.map (Value.int .i64)) ∧ Below w.heap.size w w' := by
  obtain ⟨A, c, rfl, hc, hm, hm2⟩ := h.form
  obtain ⟨ii, hii, hi0, hi1, hi2⟩ := info_parts info_i64
  have hq := fun (w : World) a n c => Go.Lib.run_eql_slice_nil (P := Try.prog) w 23 2 a n c 0 0 Try.underlying23
  cases A with
  | none =>
    have h0 : xs.length = 0 := by
      rcases Nat.eq_zero_or_pos xs.length with h0 | h0
      · exact h0
      · obtain ⟨_, _, _, he, _⟩ := h.at_ 0 h0; cases he
    obtain rfl : xs = [] := List.length_eq_zero_iff.1 h0
    clear h hc hm hm2 hl h0
    simp only [List.length_nil]
    go_enter Try.func45, Try.ntmps45
    go_wp2
    go_ret
    exact ⟨_, rfl, World.ownsRow_nil _ _ _ _, Below.refl _ _⟩
  | some ad =>
    have HNA := Aside0.mk (show ∀ j u, (xs.map (Value.int .i64))[j]? = some u → (w.alloc (.cells #[] 2)).cell? (ad.add j) = some u from fun j u hu => by
      have hp : 0 < (xs.map (Value.int .i64)).length := by have := (List.getElem?_eq_some_iff.1 hu).1; omega
      obtain ⟨ad2, e, hcs⟩ := copy_src (SlAt.below reads_int h (below_alloc0 (Below.refl _ w) (.cells #[] 2))) hp
      cases e
      exact hcs j u hu)
    have E0 := Aside0.mk (owns_empty w w.heap.size 2 (Nat.le_refl _))
    have H1 := Aside0.mk (show (xs.map (Value.int .i64)).length = xs.length * 1 by simp)
    have H2 := Aside0.mk (show ∀ u ∈ xs.map (Value.int .i64), u.oneCell' = true by intro u hu; obtain ⟨x, _, rfl⟩ := List.mem_map.1 hu; rfl)
    have H3 := Aside0.mk (show 0 + xs.length ≤ maxLen by unfold maxLen; omega)
    have H4 := Aside0.mk (show (0 + xs.length) * 8 ≤ 140737488355328 by omega)
    clear h hl
    go_enter Try.func45, Try.ntmps45
    go_wp2_with (at_builtin; refine wpList_append_own_at _ rfl (.tmp 5) (.tmp 6) 23 rfl w.heap.size 2 ii (.int .i64 0) 1 8 Try.underlying23 hii hi0 hi1 hi2 rfl (by decide) _ 0 [] rfl E0.out ad xs.length c (xs.map (Value.int .i64)) rfl H1.out HNA.out H2.out H3.out H4.out (by simp) ?_; intro v1 w1 ho hg _ hb; simp only [Nat.zero_add, List.nil_append] at ho; have O1 := Aside0.mk ho; have G1 := Aside0.mk hg; clear ho hg hb)
    go_ret
    refine ⟨_, rfl, O1.out, ?_⟩
    exact (below_alloc0 (Below.refl _ _) _).grown G1.out (by simp) (fun k hk => by cases hk; exact Nat.le_refl _)
end Go.Proofs.Ytalbgdbphdhhaaa.Sg
