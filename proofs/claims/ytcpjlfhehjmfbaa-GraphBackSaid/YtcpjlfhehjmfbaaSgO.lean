/- What comes in as an argument, as rows of numbers and lists of them: out of the judge's own reading of data. -/
import Derived.Test.YtcpjlfhehjmfbaaSgV
import Derived.Deep.Slices
import Derived.ChangeSlices
import Derived.SizedLaws
import Derived.OpenShut
namespace Go.Proofs.Ytcpjlfhehjmfbaa.Sg
open Go.RowKit Go.Shelf Go.ChangeShapes Go.WideShapes Go.Deep
set_option linter.unusedVariables false
set_option linter.unusedSimpArgs false

def Opens (P : Program) (t : TypeId) {α : Type} (E : World → (Nat → Prop) → Value → α → Prop) : Prop :=
  ∀ (H : Type) (enc : TypeId × Value → H) (W : World) (held : Bool) (fuel : Nat) (v : Value) (d : DataW H) (ps : List MemPlace),
    DataW.trod enc P W 0 (fun _ => true) held fuel t [v] = some (d, ps) → (∀ n ∈ d.weights P t, n ≤ reachBytes) → ∃ x, E W (fun _ => True) v x
theorem in64_of_wf {n : Int} (h : (Lit.int .i64 n).wf = true) : In64 n := by
  unfold In64
  have e1 : IntKind.i64.min = -9223372036854775808 := by decide
  have e2 : IntKind.i64.max = 9223372036854775807 := by decide
  simp [Lit.wf, e1, e2] at h
  omega
theorem addr_of_cell {W : World} {a : Addr} {u : Value} (h : W.cell? (a.add 0) = some u) : a = ⟨a.block, a.off, none⟩ := by
  cases a with
  | mk b o s =>
    cases s with
    | none => rfl
    | some _ =>
      simp [Addr.add, World.cell?] at h
      split at h <;> simp at h
theorem add_at (b o j : Nat) : (⟨b, o, none⟩ : Addr).add j = ⟨b, o + j, none⟩ := by
  by_cases h : j = 0 <;> simp [Addr.add, h]
theorem reach_val : reachBytes = 140737488351232 := by decide
theorem opens_row {P : Program} {t e : TypeId} (ht : P.underlying t = some (.slice e)) (he : P.underlying e = some (.int .i64)) (hc : P.cellsOf e = 1) (hB : P.bytesOf e = 8) : Opens P t RowAt := by
  intro H enc W held fuel v d ps h hw
  rcases open_ints ht he hc h with ⟨hcs, _⟩ | ⟨a, len, cap, zs, hcs, _, hl, hm, hz, hx, hcell, hwf⟩
  · obtain rfl : v = .slice none 0 0 := by simpa using hcs
    exact ⟨[], SlAt.nil _ _ _ _ _ (by omega)⟩
  · obtain rfl : v = .slice (some a) len cap := by simpa using hcs
    simp only [if_true] at hz
    obtain ⟨rfl, _⟩ := Prod.mk.inj hx
    have hz1 : zs.length * 8 ≤ 140737488351232 := by
      have := hw (((lits (H := H) .i64 (zs.take len)).length + (lits (H := H) .i64 (zs.drop len)).length) * P.bytesOf e) (by simp [DataW.weights, ht])
      rw [hB, reach_val] at this
      have h1 : (lits (H := H) .i64 (zs.take len)).length + (lits (H := H) .i64 (zs.drop len)).length = zs.length := by
        simp [lits]; omega
      rw [h1] at this
      exact this
    refine ⟨zs.take len, by simp; omega, some a, cap, by rw [List.length_take]; congr 1; omega, by simp; omega, by unfold maxLen at hm; omega, fun hp => ?_⟩
    simp at hp
    have h0 := hcell 0 (by omega)
    have ha := addr_of_cell h0
    refine ⟨a.block, a.off, by rw [← ha], trivial, fun j hj => ?_⟩
    have hj2 : j < len ∧ j < zs.length := by simp at hj; omega
    have h1 := hcell j hj2.2
    rw [ha, add_at] at h1
    refine ⟨_, h1, ?_, ?_⟩
    · simp [List.getD_eq_getElem?_getD, hj2.2]
    · rw [List.getElem_take]
      exact in64_of_wf (hwf _ (List.getElem_mem _))
theorem weightsAll_mem {H : Type} {P : Program} {e : TypeId} : ∀ {l : List (DataW H)} {d : DataW H}, d ∈ l → ∀ n ∈ d.weights P e, n ∈ DataW.weightsAll P e l
  | [], _, h, _, _ => by simp at h
  | x :: l, d, h, n, hn => by
    rw [DataW.weightsAll, List.mem_append]
    rcases List.mem_cons.1 h with rfl | h
    · exact .inl hn
    · exact .inr (weightsAll_mem h n hn)
theorem choose_list {α : Type} {n : Nat} {p : Nat → α → Prop} (h : ∀ i, i < n → ∃ x, p i x) : ∃ l : List α, l.length = n ∧ ∀ i (hi : i < l.length), p i l[i] := by
  induction n with
  | zero => exact ⟨[], rfl, fun i hi => by simp at hi⟩
  | succ n ih =>
    obtain ⟨l, h1, h2⟩ := ih (fun i hi => h i (by omega))
    obtain ⟨x, hx⟩ := h n (by omega)
    refine ⟨l ++ [x], by simp [h1], fun i hi => ?_⟩
    by_cases e : i < l.length
    · rw [List.getElem_append_left e]; exact h2 i e
    · have : i = n := by simp at hi; omega
      subst this
      rw [List.getElem_append_right (by omega)]
      simpa [h1] using hx
theorem opens_sl {P : Program} {t e : TypeId} {α : Type} {E : World → (Nat → Prop) → Value → α → Prop} (hE : Opens P e E) (ht : P.underlying t = some (.slice e)) (hc : P.cellsOf e = 1) (hB : P.bytesOf e = 24) : Opens P t (SlAt E) := by
  intro H enc W held fuel v d ps h hw
  rcases open_slice1 ht hc h with ⟨hcs, _⟩ | ⟨a, len, cap, m, n, V, D, Pl, hcs, _, hl, hm, hmm, hx, hel⟩
  · obtain rfl : v = .slice none 0 0 := by simpa using hcs
    exact ⟨[], SlAt.nil _ _ _ _ _ (by omega)⟩
  · obtain rfl : v = .slice (some a) len cap := by simpa using hcs
    simp only [if_true] at hmm
    subst hmm
    obtain ⟨rfl, _⟩ := Prod.mk.inj hx
    have hz1 : m * 24 ≤ 140737488351232 := by
      have := hw ((((List.range len).map D).length + ((List.range (m - len)).map fun j => D (len + j)).length) * P.bytesOf e) (by simp [DataW.weights, ht])
      rw [hB, reach_val] at this
      simp at this
      omega
    have each : ∀ i, i < len → ∃ x, E W (fun _ => True) (V i) x := fun i hi => by
      refine hE H enc W held n (V i) (D i) (Pl i) (hel i (by omega)).2 (fun k hk => hw k ?_)
      rw [DataW.weights, ht]
      simp only [List.mem_cons, List.mem_append]
      exact .inr (.inl (weightsAll_mem (List.mem_map.2 ⟨i, List.mem_range.2 hi, rfl⟩) k hk))
    obtain ⟨xs, h1, h2⟩ := choose_list each
    refine ⟨xs, by omega, some a, m, by rw [h1], by omega, by unfold maxLen at hm; omega, fun hp => ?_⟩
    have h0 := (hel 0 (by omega)).1
    have ha := addr_of_cell h0
    refine ⟨a.block, a.off, by rw [← ha], trivial, fun j hj => ?_⟩
    have h3 := (hel j (by omega)).1
    rw [ha, add_at] at h3
    exact ⟨_, h3, h2 j hj⟩
/-- At an argument of a row. -/
theorem Opens.arg {P : Program} {t : TypeId} {α : Type} {E : World → (Nat → Prop) → Value → α → Prop} (hE : Opens P t E) {H : Type} {enc : TypeId × Value → H} {W : World} {held : Bool} {a : Option Addr} {len cap : Nat} {d : DataW H} {ps : List MemPlace} {ts : List TypeId} {ds : List (DataW H)} {j : Nat}
    (hsz : (DataW.weightsEach P ts ds).all (· ≤ reachBytes) = true) (ht : ts[j]? = some t) (hd : ds[j]? = some d)
    (h : DataW.Trod enc P W 0 (fun _ => true) held t (.slice a len cap) d ps) : ∃ x, E W (fun _ => True) (.slice a len cap) x := by
  obtain ⟨fuel, hf⟩ := h
  refine hE H enc W held fuel _ d ps (by simpa [Value.cells] using hf) (fun n hn => ?_)
  have := List.all_eq_true.1 hsz n (DataW.weights_mem_each ht hd n hn)
  simpa using this
end Go.Proofs.Ytcpjlfhehjmfbaa.Sg
