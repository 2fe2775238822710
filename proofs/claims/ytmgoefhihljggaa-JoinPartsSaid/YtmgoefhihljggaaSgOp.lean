/- What comes in as an argument: a slice of structs of two one-cell fields. -/
import Derived.Test.YtmgoefhihljggaaSgO
import Derived.Deep.Fields
import Derived.ChangeSame
namespace Go.Proofs.Ytmgoefhihljggaa.Sg
open Go.RowKit Go.Shelf Go.ChangeShapes Go.WideShapes Go.Deep
set_option linter.unusedVariables false
set_option linter.unusedSimpArgs false

def BoolAt (_w : World) (_ok : Nat → Prop) (v : Value) (b : Bool) : Prop := v = .bool b
theorem reads_bool : Reads BoolAt := ⟨fun h _ => h, fun h _ => h, fun h => by rw [h]; rfl⟩
/-- A slice of pairs, two cells each. -/
def SlP {α β : Type} (E1 : World → (Nat → Prop) → Value → α → Prop) (E2 : World → (Nat → Prop) → Value → β → Prop) (w : World) (ok : Nat → Prop) (v : Value) (xs : List (α × β)) : Prop :=
  xs.length < 17592186044416 ∧ ∃ A c, v = .slice A xs.length c ∧ xs.length ≤ c ∧ c ≤ 9223372036854775807 ∧
    (0 < xs.length → ∃ b off, A = some ⟨b, off, none⟩ ∧ ok b ∧ ∀ j (h : j < xs.length), ∃ u1 u2, w.cell? ⟨b, off + j * 2, none⟩ = some u1 ∧ w.cell? ⟨b, off + j * 2 + 1, none⟩ = some u2 ∧ E1 w ok u1 xs[j].1 ∧ E2 w ok u2 xs[j].2)
theorem reads_slP {α β : Type} {E1 : World → (Nat → Prop) → Value → α → Prop} {E2 : World → (Nat → Prop) → Value → β → Prop} (H1 : Reads E1) (H2 : Reads E2) : Reads (SlP E1 E2) := by
  refine ⟨?_, ?_, ?_⟩
  · rintro w w' ok v xs ⟨h0, A, c, h1, h2, h3, h4⟩ hs
    refine ⟨h0, A, c, h1, h2, h3, fun hp => ?_⟩
    obtain ⟨b, off, ha, hb, hc⟩ := h4 hp
    refine ⟨b, off, ha, hb, fun j hj => ?_⟩
    obtain ⟨u1, u2, q1, q2, e1, e2⟩ := hc j hj
    exact ⟨u1, u2, hs.cell hb q1, hs.cell hb q2, H1.stays e1 hs, H2.stays e2 hs⟩
  · rintro w ok ok2 v xs ⟨h0, A, c, h1, h2, h3, h4⟩ hs
    refine ⟨h0, A, c, h1, h2, h3, fun hp => ?_⟩
    obtain ⟨b, off, ha, hb, hc⟩ := h4 hp
    refine ⟨b, off, ha, hs b hb (World.block_lt_of_cell? w ⟨b, off + 0 * 2, none⟩ (hc 0 hp).choose_spec.choose_spec.1), fun j hj => ?_⟩
    obtain ⟨u1, u2, q1, q2, e1, e2⟩ := hc j hj
    exact ⟨u1, u2, q1, q2, H1.mono e1 hs, H2.mono e2 hs⟩
  · rintro w ok v xs ⟨h0, A, c, h1, h2⟩
    rw [h1]; rfl
theorem SlP.form {α β : Type} {E1 : World → (Nat → Prop) → Value → α → Prop} {E2 : World → (Nat → Prop) → Value → β → Prop} {w : World} {ok : Nat → Prop} {v : Value} {xs : List (α × β)} (h : SlP E1 E2 w ok v xs) :
    ∃ A c, v = .slice A xs.length c ∧ xs.length ≤ c ∧ xs.length < 17592186044416 ∧ c ≤ 9223372036854775807 := by
  obtain ⟨h0, A, c, h1, h2, h3, h4⟩ := h
  exact ⟨A, c, h1, h2, h0, h3⟩
theorem SlP.at_ {α β : Type} {E1 : World → (Nat → Prop) → Value → α → Prop} {E2 : World → (Nat → Prop) → Value → β → Prop} {w : World} {ok : Nat → Prop} {A : Option Addr} {n c : Nat} {xs : List (α × β)} (h : SlP E1 E2 w ok (.slice A n c) xs) (j : Nat) (hj : j < xs.length) :
    ∃ b off u1 u2, A = some ⟨b, off, none⟩ ∧ ok b ∧ b < w.heap.size ∧ w.cell? ⟨b, off + j * 2, none⟩ = some u1 ∧ w.cell? ⟨b, off + j * 2 + 1, none⟩ = some u2 ∧ E1 w ok u1 xs[j].1 ∧ E2 w ok u2 xs[j].2 := by
  obtain ⟨h0, A', c', h1, h2, h3, h4⟩ := h
  injection h1 with h1 h5 h6
  subst h1
  obtain ⟨b, off, ha, hb, hc⟩ := h4 (by omega)
  obtain ⟨u1, u2, q1, q2, e1, e2⟩ := hc j hj
  exact ⟨b, off, u1, u2, ha, hb, World.block_lt_of_cell? w _ q1, q1, q2, e1, e2⟩
theorem opens_bool {P : Program} {t : TypeId} (ht : P.underlying t = some .bool) : Opens P t BoolAt := by
  intro H enc W held fuel v d ps h hw
  obtain ⟨b, hcs, _⟩ := DataW.trod_bool ht h
  have : v = .bool b := by simpa using hcs
  exact ⟨b, this⟩
theorem opens_int {P : Program} {t : TypeId} (ht : P.underlying t = some (.int .i64)) : Opens P t IntAt := by
  intro H enc W held fuel v d ps h hw
  obtain ⟨n, hcs, _, hwf⟩ := DataW.trod_int ht h
  have : v = .int .i64 n := by simpa using hcs
  exact ⟨n, this, in64_of_wf hwf⟩
theorem opens_slP {P : Program} {t e : TypeId} {f1 f2 : Field} {α β : Type} {E1 : World → (Nat → Prop) → Value → α → Prop} {E2 : World → (Nat → Prop) → Value → β → Prop} (ht : P.underlying t = some (.slice e)) (he : P.underlying e = some (.struct #[f1, f2])) (h1 : Opens P f1.type E1) (h2 : Opens P f2.type E2)
    (ho1 : f1.offset = 0) (ho2 : f2.offset = 1) (hk1 : P.cellsOf f1.type = 1) (hk2 : P.cellsOf f2.type = 1) (hc : P.cellsOf e = 2) (hB : 16 ≤ P.bytesOf e) : Opens P t (SlP E1 E2) := by
  intro H enc W held fuel v d ps h hw
  rcases open_slice ht h with ⟨hcs, _⟩ | ⟨a, len, cap, m, n, D, Pl, hcs, _, hl, hm, hmm, hx, hel⟩
  · obtain rfl : v = .slice none 0 0 := by simpa using hcs
    exact ⟨[], by simp, none, 0, rfl, Nat.le_refl _, by omega, fun h => by simp at h⟩
  · obtain rfl : v = .slice (some a) len cap := by simpa using hcs
    simp only [if_true] at hmm
    subst hmm
    obtain ⟨rfl, _⟩ := Prod.mk.inj hx
    have hz1 : m * 16 ≤ 140737488351232 := by
      have := hw ((((List.range len).map D).length + ((List.range (m - len)).map fun j => D (len + j)).length) * P.bytesOf e) (by simp [DataW.weights, ht])
      rw [reach_val] at this
      simp at this
      have h9 : m * 16 ≤ (len + (m - len)) * P.bytesOf e := Nat.mul_le_mul (by omega) hB
      omega
    have each : ∀ i, i < len → ∃ x : (α × β) × (Value × Value), (W.cell? (a.add (i * 2)) = some x.2.1 ∧ W.cell? ((a.add (i * 2)).add 1) = some x.2.2) ∧ E1 W (fun _ => True) x.2.1 x.1.1 ∧ E2 W (fun _ => True) x.2.2 x.1.2 := fun i hi => by
      obtain ⟨cs', hcl, htr⟩ := hel i (by omega)
      rw [hc] at hcl
      obtain ⟨_, hln, hat⟩ := World.cells?_some hcl
      obtain ⟨xs, n', _, hxs, _, hxl, hf⟩ := DataW.trod_struct he htr
      match cs', hln with
      | [u1, u2], _ =>
        have q1 := hat 0 (by omega)
        have q2 := hat 1 (by omega)
        have r1 := hf 0 f1 rfl
        have r2 := hf 1 f2 rfl
        rw [ho1, hk1] at r1
        rw [ho2, hk2] at r2
        match xs, hxl with
        | [y1, y2], _ =>
          have hD : D i = .agg [y1.1, y2.1] := by simpa using (Prod.mk.inj hxs).1
          have hm1 : ∀ k ∈ y1.1.weights P f1.type, k ∈ (D i).weights P e := fun k hk => by rw [hD, DataW.weights, he]; simp [DataW.weightsEach, hk]
          have hm2 : ∀ k ∈ y2.1.weights P f2.type, k ∈ (D i).weights P e := fun k hk => by rw [hD, DataW.weights, he]; simp [DataW.weightsEach, hk]
          have hin : ∀ k ∈ (D i).weights P e, k ≤ reachBytes := fun k hk => hw k (by
            rw [DataW.weights, ht]
            simp only [List.mem_cons, List.mem_append]
            exact .inr (.inl (weightsAll_mem (List.mem_map.2 ⟨i, List.mem_range.2 hi, rfl⟩) k hk)))
          obtain ⟨x1, z1⟩ := h1 H enc W held n' u1 y1.1 y1.2 (by simpa using r1) (fun k hk => hin k (hm1 k hk))
          obtain ⟨x2, z2⟩ := h2 H enc W held n' u2 y2.1 y2.2 (by simpa using r2) (fun k hk => hin k (hm2 k hk))
          exact ⟨((x1, x2), (u1, u2)), ⟨by simpa [Addr.add] using q1, q2⟩, z1, z2⟩
    obtain ⟨l, l1, l2⟩ := choose_list each
    refine ⟨l.map (·.1), by simp; omega, some a, m, by simp [l1], by simp; omega, by unfold maxLen at hm; omega, fun hp => ?_⟩
    simp at hp
    have h0 := (l2 0 (by simpa using hp)).1.1
    have ha := addr_of_cell (W := W) (a := a) (u := l[0].2.1) (by simpa using h0)
    refine ⟨a.block, a.off, by rw [← ha], trivial, fun j hj => ?_⟩
    obtain ⟨⟨q1, q2⟩, z1, z2⟩ := l2 j (by simpa using hj)
    rw [ha, add_at] at q1
    rw [ha, add_at, add_at] at q2
    simp only [List.getElem_map]
    exact ⟨_, _, q1, q2, z1, z2⟩
end Go.Proofs.Ytmgoefhihljggaa.Sg
