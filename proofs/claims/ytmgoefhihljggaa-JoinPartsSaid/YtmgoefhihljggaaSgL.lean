/- SegmentNests: rows with a longer beginning stand among those with a shorter one. The walk. -/
import Derived.Test.YtmgoefhihljggaaSgK
import Derived.Test.YtmgoefhihljggaaSgM
namespace Go.Proofs.Ytmgoefhihljggaa.Sg
open Go.RowKit Go.Shelf
set_option linter.unusedVariables false
set_option linter.unusedSimpArgs false

theorem SlAt.take {α : Type} {E : World → (Nat → Prop) → Value → α → Prop} {w : World} {ok : Nat → Prop} {A : Option Addr} {n c : Nat} {xs : List α} (h : SlAt E w ok (.slice A n c) xs) (k : Nat) (hk : k ≤ xs.length) : SlAt E w ok (.slice A k c) (xs.take k) := by
  obtain ⟨h0, A', c', h1, h2, h3, h4⟩ := h
  injection h1 with h1 h5 h6
  subst h1; subst h6
  have hl : (xs.take k).length = k := by simp; omega
  refine ⟨by omega, A, c, by rw [hl], by omega, h3, fun hp => ?_⟩
  obtain ⟨b, off, ha, hb, hc⟩ := h4 (by omega)
  refine ⟨b, off, ha, hb, fun j hj => ?_⟩
  obtain ⟨u, hu, he⟩ := hc j (by omega)
  exact ⟨u, hu, by rw [List.getElem_take]; exact he⟩

theorem few_b (w : World) (ok : Nat → Prop) (rv : Value) (rs : List Row) (b : Bool) (h : RowsAt w ok rv rs) (hb : few rs = b) : Calls Try.prog 33 #[rv] w fun e w' => e = .returned (.bool b) ∧ w = w' := by
  subst hb
  exact few_any w ok rv rs h

end Go.Proofs.Ytmgoefhihljggaa.Sg
