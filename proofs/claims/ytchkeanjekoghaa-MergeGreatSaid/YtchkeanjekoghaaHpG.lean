/- The head of the laws over heaps answers true. -/
import Derived.Test.YtchkeanjekoghaaHpF
namespace Go.Proofs.Ytchkeanjekoghaa.Hp
open Go.RowKit Go.Shelf
set_option linter.unusedVariables false
set_option linter.unusedSimpArgs false

theorem popped_31 {x : Int} {L' : List E} (h : Popped ltI [(3, 0), (1, 1), (2, 2)] x L') : x = 1 ∧ L'.length = 2 := by
  obtain ⟨c, h1, h2⟩ := h
  have hl := h1.length_eq
  have hm : ((x, c) : E) ∈ [((3, 0) : E), (1, 1), (2, 2)] := h1.mem_iff.2 (by simp)
  have := h2 (1, 1) (by simp)
  unfold Le bef at this
  simp at hm this hl
  refine ⟨by omega, by omega⟩

set_option maxHeartbeats 1000000 in
set_option maxRecDepth 100000 in
theorem head_any (w : World) : Calls Try.prog 6 #[] w fun e w' => e = .returned (.bool true) ∧ Below w.heap.size w w' := by
  have W0 := new_HS 13 w.heap.size ltI w
  have hn : w.heap.size ≤ (w.alloc (.cells #[.func (.func 13) #[] #[], .slice none 0 0, .int .i64 0] 53)).heap.size := by simp
  have A0 := Aside0.mk (below_alloc0 (Below.refl w.heap.size w) (.cells #[.func (.func 13) #[] #[], .slice none 0 0, .int .i64 0] 53))
  have P1 := Aside0.mk (push_HS before_59 good_lt w.heap.size w.heap.size [] 0 3 _ W0 (by simp) hn (by omega) (by omega) (by omega))
  clear W0 hn
  go_enter Try.func6, Try.ntmps6
  go_wp2_with (first | (go_at_call 12; (with_reducible refine (new_any 13 _).mono ?_); rintro e w1 ⟨rfl, rfl⟩))
  refine (P1.out).mono ?_
  rintro e w1 ⟨rfl, H1, B1⟩
  have hs1 : w.heap.size ≤ w1.heap.size := by have := B1.size; simp at this; omega
  have A1 := Aside0.mk (A0.out.trans B1)
  have P2 := Aside0.mk (push_HS before_59 good_lt w.heap.size w.heap.size _ _ 1 _ H1 (by simp) hs1 (by omega) (by omega) (by omega))
  clear P1 H1 B1 A0
  go_wp2_with fail
  refine (P2.out).mono ?_
  rintro e w2 ⟨rfl, H2, B2⟩
  have hs2 : w.heap.size ≤ w2.heap.size := by have := B2.size; omega
  have A2 := Aside0.mk (A1.out.trans B2)
  have P3 := Aside0.mk (push_HS before_59 good_lt w.heap.size w.heap.size _ _ 2 _ H2 (by simp) hs2 (by omega) (by omega) (by omega))
  clear P2 H2 B2 A1 hs1
  go_wp2_with fail
  refine (P3.out).mono ?_
  rintro e w3 ⟨rfl, H3, B3⟩
  have hs3 : w.heap.size ≤ w3.heap.size := by have := B3.size; omega
  have A3 := Aside0.mk (A2.out.trans B3)
  obtain ⟨x, L', hp, hc⟩ := pop_HS before_59 good_lt w.heap.size w.heap.size _ _ _ H3 (by simp) (by simp) hs3 (by omega)
  obtain ⟨rfl, hl⟩ := popped_31 hp
  have P4 := Aside0.mk hc
  have HL := Aside0.mk hl
  clear P3 H3 B3 A2 hs2 hp hc hl
  go_wp2_with fail
  refine (P4.out).mono ?_
  rintro e w4 ⟨rfl, H4, B4⟩
  have A4 := Aside0.mk (A3.out.trans B4)
  have P5 := Aside0.mk (len_HS _ _ _ _ _ H4)
  clear P4 H4 B4 A3 hs3
  rw [HL.out] at P5
  go_wp2_with (first | (go_at_call 16; (with_reducible refine (P5.out).mono ?_); rintro e w5 ⟨rfl, rfl⟩))
  go_ret
  exact ⟨rfl, A4.out⟩
end Go.Proofs.Ytchkeanjekoghaa.Hp
