/- Contracts of group: an aggregate's word, the aggregate of a word. -/
import Derived.Test.YtihilledbnnniaaSgC
namespace Go.Proofs.Ytihilledbnnniaa.Sg
open Go.RowKit Go.Shelf
set_option linter.unusedVariables false
set_option linter.unusedSimpArgs false

def wordOf (a : Int) : ByteArray :=
  if a = 1 then ⟨#[99, 111, 117, 110, 116]⟩ else if a = 2 then ⟨#[115, 117, 109]⟩ else if a = 3 then ⟨#[109, 105, 110]⟩ else if a = 4 then ⟨#[109, 97, 120]⟩ else ⟨#[]⟩
set_option maxHeartbeats 2000000 in
set_option maxRecDepth 100000 in
theorem word_any (w : World) (a : Int) (ha : In64 a) : Calls Try.prog 32 #[.int .i64 a] w fun e w' => e = .returned (.string (wordOf a)) ∧ Below w.heap.size w w' := by
  obtain ⟨v, hv⟩ : ∃ v, wordOf a = v := ⟨_, rfl⟩
  rw [hv]
  have HV := Aside0.mk hv
  clear hv
  by_cases h0 : a < 0
  · have e := HV.out
    unfold wordOf at e
    rw [if_neg (by omega), if_neg (by omega), if_neg (by omega), if_neg (by omega)] at e
    have HE := Aside0.mk e
    clear e
    go_enter Try.func32, Try.ntmps32
    go_wp2
    go_ret
    exact ⟨by rw [← HE.out]; rfl, below_alloc0 (Below.refl _ _) _⟩
  · by_cases h4 : 4 < a
    · have e := HV.out
      unfold wordOf at e
      rw [if_neg (by omega), if_neg (by omega), if_neg (by omega), if_neg (by omega)] at e
      have HE := Aside0.mk e
      clear e
      go_enter Try.func32, Try.ntmps32
      go_wp2
      go_ret
      exact ⟨by rw [← HE.out]; rfl, below_alloc0 (Below.refl _ _) _⟩
    · have hc : a = 0 ∨ a = 1 ∨ a = 2 ∨ a = 3 ∨ a = 4 := by omega
      rcases hc with rfl | rfl | rfl | rfl | rfl <;>
      · go_enter Try.func32, Try.ntmps32
        go_wp2
        go_ret
        exact ⟨by rw [← HV.out]; rfl, below_alloc0 (Below.refl _ _) _⟩
end Go.Proofs.Ytihilledbnnniaa.Sg
