/- What comes in as an argument: two sets of rows and places in them. -/
import Derived.Test.YtmgoefhihljggaaSgYe
import Derived.Test.YtmgoefhihljggaaSgOp
namespace Go.Proofs.Ytmgoefhihljggaa.Sg
open Go.RowKit Go.Shelf Go.ChangeShapes Go.WideShapes Go.Deep
set_option linter.unusedVariables false
set_option linter.unusedSimpArgs false

theorem open_sides {P : Program} {t : TypeId} {f0 f1 f2 f3 f4 f5 : Field} (ht : P.underlying t = some (.struct #[f0, f1, f2, f3, f4, f5])) (h0 : Opens P f0.type IntAt) (h1 : Opens P f1.type IntAt) (h2 : Opens P f2.type RowsAt) (h3 : Opens P f3.type RowsAt) (h4 : Opens P f4.type RowAt) (h5 : Opens P f5.type RowAt)
    (o0 : f0.offset = 0) (o1 : f1.offset = 1) (o2 : f2.offset = 2) (o3 : f3.offset = 3) (o4 : f4.offset = 4) (o5 : f5.offset = 5)
    (c0 : P.cellsOf f0.type = 1) (c1 : P.cellsOf f1.type = 1) (c2 : P.cellsOf f2.type = 1) (c3 : P.cellsOf f3.type = 1) (c4 : P.cellsOf f4.type = 1) (c5 : P.cellsOf f5.type = 1)
    {H : Type} {enc : TypeId × Value → H} {W : World} {held : Bool} {cs : Array Value} {d : DataW H} {ps : List MemPlace} {ts : List TypeId} {ds : List (DataW H)} {j : Nat}
    (hsz : (DataW.weightsEach P ts ds).all (· ≤ reachBytes) = true) (htj : ts[j]? = some t) (hd : ds[j]? = some d) (hcs : cs.size = 6)
    (h : DataW.Trod enc P W 0 (fun _ => true) held t (.agg cs) d ps) : ∃ s, SidesAt W (fun _ => True) (.agg cs) s := by
  obtain ⟨fuel, hf⟩ := h
  have hf2 : DataW.trod enc P W 0 (fun _ => true) held fuel t cs.toList = some (d, ps) := by simpa [Value.cells] using hf
  have hw : ∀ n ∈ d.weights P t, n ≤ reachBytes := fun n hn => by
    have := List.all_eq_true.1 hsz n (DataW.weights_mem_each htj hd n hn)
    simpa using this
  obtain ⟨xs, n', _, hxs, _, hxl, hfs⟩ := DataW.trod_struct ht hf2
  obtain ⟨l⟩ := cs
  match l, hcs with
  | [u0, u1, u2, u3, u4, u5], _ =>
    have r0 := hfs 0 f0 rfl
    have r1 := hfs 1 f1 rfl
    have r2 := hfs 2 f2 rfl
    have r3 := hfs 3 f3 rfl
    have r4 := hfs 4 f4 rfl
    have r5 := hfs 5 f5 rfl
    rw [o0, c0] at r0
    rw [o1, c1] at r1
    rw [o2, c2] at r2
    rw [o3, c3] at r3
    rw [o4, c4] at r4
    rw [o5, c5] at r5
    match xs, hxl with
    | [y0, y1, y2, y3, y4, y5], _ =>
      have hD : d = .agg [y0.1, y1.1, y2.1, y3.1, y4.1, y5.1] := by simpa using (Prod.mk.inj hxs).1
      have m0 : ∀ k ∈ y0.1.weights P f0.type, k ∈ d.weights P t := fun k hk => by rw [hD, DataW.weights, ht]; simp [DataW.weightsEach, hk]
      have m1 : ∀ k ∈ y1.1.weights P f1.type, k ∈ d.weights P t := fun k hk => by rw [hD, DataW.weights, ht]; simp [DataW.weightsEach, hk]
      have m2 : ∀ k ∈ y2.1.weights P f2.type, k ∈ d.weights P t := fun k hk => by rw [hD, DataW.weights, ht]; simp [DataW.weightsEach, hk]
      have m3 : ∀ k ∈ y3.1.weights P f3.type, k ∈ d.weights P t := fun k hk => by rw [hD, DataW.weights, ht]; simp [DataW.weightsEach, hk]
      have m4 : ∀ k ∈ y4.1.weights P f4.type, k ∈ d.weights P t := fun k hk => by rw [hD, DataW.weights, ht]; simp [DataW.weightsEach, hk]
      have m5 : ∀ k ∈ y5.1.weights P f5.type, k ∈ d.weights P t := fun k hk => by rw [hD, DataW.weights, ht]; simp [DataW.weightsEach, hk]
      obtain ⟨x0, z0, z0'⟩ := h0 H enc W held n' u0 y0.1 y0.2 (by simpa using r0) (fun k hk => hw k (m0 k hk))
      obtain ⟨x1, z1, z1'⟩ := h1 H enc W held n' u1 y1.1 y1.2 (by simpa using r1) (fun k hk => hw k (m1 k hk))
      obtain ⟨x2, z2⟩ := h2 H enc W held n' u2 y2.1 y2.2 (by simpa using r2) (fun k hk => hw k (m2 k hk))
      obtain ⟨x3, z3⟩ := h3 H enc W held n' u3 y3.1 y3.2 (by simpa using r3) (fun k hk => hw k (m3 k hk))
      obtain ⟨x4, z4⟩ := h4 H enc W held n' u4 y4.1 y4.2 (by simpa using r4) (fun k hk => hw k (m4 k hk))
      obtain ⟨x5, z5⟩ := h5 H enc W held n' u5 y5.1 y5.2 (by simpa using r5) (fun k hk => hw k (m5 k hk))
      subst z0
      subst z1
      exact ⟨⟨x0, x1, x2, x3, x4, x5⟩, u2, u3, u4, u5, rfl, z0', z1', z2, z3, z4, z5⟩
end Go.Proofs.Ytmgoefhihljggaa.Sg
