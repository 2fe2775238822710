/- Contracts: group.By and the law's own By, in all cases. -/
import Derived.Test.YtihilledbnnniaaSgZn
namespace Go.Proofs.Ytihilledbnnniaa.Sg
open Go.RowKit Go.Shelf
set_option linter.unusedVariables false
set_option linter.unusedSimpArgs false

/-- Is there such an aggregate, and such a place? -/
def GoodA (a col : Int) (n : Nat) : Prop := a = 1 ∨ (2 ≤ a ∧ a ≤ 4 ∧ 0 ≤ col ∧ col < n)
set_option maxHeartbeats 4000000 in
set_option maxRecDepth 100000 in
theorem gby_bad (w : World) (ok : Nat → Prop) (g W : Nat) (rs : List Row) (A : Option Addr) (l c : Nat) (a col : Int) (h : SegAt w ok (.pointer (some ⟨g, 0, none⟩)) W rs) (ha : In64 a) (hb : ¬ GoodA a col W) :
    Calls Try.prog 33 #[.pointer (some ⟨g, 0, none⟩), .slice A l c, .int .i64 a, .int .i64 col] w fun e w' => e = .returned (.tuple #[.pointer none, .bool false]) ∧ Below w.heap.size w w' := by
  have WD := Aside0.mk (width_any w ok _ W rs h)
  have WO := Aside0.mk (fun w1 => word_any w1 a ha)
  unfold GoodA at hb
  have h1 : a ≠ 1 := fun e => hb (.inl e)
  have g1 : (a == 1) = false := by simpa using h1
  have g2 : (a != 1) = true := by simpa using h1
  clear h
  by_cases q0 : col < 0
  · clear hb
    go_enter Try.func33, Try.ntmps33
    go_wp2
    go_ret2
    exact ⟨rfl, Below.refl _ _⟩
  · by_cases q1 : (W : Int) ≤ col
    · clear hb
      go_enter Try.func33, Try.ntmps33
      go_wp2_with fail
      refine (WD.out).mono ?_
      rintro e w' ⟨rfl, rfl⟩
      go_wp2
      go_ret2
      exact ⟨rfl, Below.refl _ _⟩
    · have hw : wordOf a = ⟨#[]⟩ := by unfold wordOf; rw [if_neg (by omega), if_neg (by omega), if_neg (by omega), if_neg (by omega)]
      rw [hw] at WO
      have q2 : col < (W : Int) := by omega
      clear hb hw
      go_enter Try.func33, Try.ntmps33
      go_wp2_with fail
      refine (WD.out).mono ?_
      rintro e w' ⟨rfl, rfl⟩
      go_wp2_with fail
      refine (WO.out _).mono ?_
      rintro e w1 ⟨rfl, B1⟩
      have B1 := Aside0.mk B1
      go_wp2
      go_ret2
      exact ⟨rfl, B1.out⟩
def GAll (w w' : World) (v : Value) (b : Bool) (KS : List Row) (vs : List Int) (a col : Int) (n : Nat) : Prop :=
  Below w.heap.size w w' ∧ ((b = true ∧ GoodA a col n ∧ okUp KS vs a KS.length ∧ SegAt w' (fun _ => True) v (wdAt KS KS.length) (norm (wdAt KS KS.length) (outs KS vs a KS.length))) ∨ (b = false ∧ v = .pointer none ∧ (GoodA a col n → ¬ okUp KS vs a KS.length)))
theorem gby_all (w : World) (ok ok2 : Nat → Prop) (g W : Nat) (rs : List Row) (kv : Value) (ks : List Int) (a col : Int) (h : SegAt w ok (.pointer (some ⟨g, 0, none⟩)) W rs) (hk : RowAt w ok2 kv ks) (hl : ks.length < 100000) (ha : In64 a) :
    Calls Try.prog 33 #[.pointer (some ⟨g, 0, none⟩), kv, .int .i64 a, .int .i64 col] w fun e w' => ∃ v b, e = .returned (.tuple #[v, .bool b]) ∧ GAll w w' v b (rs.map fun r => keyOf r ks) (valsOf a col rs) a col W := by
  have fin : ∀ (hg : GoodA a col W) e w', GByPost w (rs.map fun r => keyOf r ks) (valsOf a col rs) a e w' → ∃ v b, e = .returned (.tuple #[v, .bool b]) ∧ GAll w w' v b (rs.map fun r => keyOf r ks) (valsOf a col rs) a col W := fun hg e w' ⟨v, b, h1, h2⟩ => ⟨v, b, h1, h2.1, by
    rcases h2.2 with ⟨h3, h4, h5⟩ | ⟨h3, h4, h5⟩
    · exact .inl ⟨h3, hg, h4, h5.mono (fun _ _ _ => trivial)⟩
    · exact .inr ⟨h3, h5, fun _ => h4⟩⟩
  by_cases hg : GoodA a col W
  · rcases hg with rfl | ⟨h2, h4, h0, h5⟩
    · exact (gby_one w ok ok2 g W rs kv ks col h hk hl).mono (fin (.inl rfl))
    · obtain ⟨cN, rfl⟩ : ∃ cN : Nat, col = (cN : Int) := ⟨col.toNat, by omega⟩
      exact (gby_more w ok ok2 g W rs kv ks a cN h hk hl h2 h4 (by omega)).mono (fin (.inr ⟨h2, h4, h0, h5⟩))
  · obtain ⟨A, c, rfl, _⟩ := hk.form
    exact (gby_bad w ok g W rs A _ c a col h ha hg).mono fun e w' ⟨h1, h2⟩ => ⟨_, _, h1, h2, .inr ⟨rfl, rfl, fun h => absurd h hg⟩⟩
def NAll (w w' : World) (v : Value) (b : Bool) (KS : List Row) (vs : List Int) (a : Int) : Prop :=
  Below w.heap.size w w' ∧ ((b = true ∧ okUp KS vs a KS.length ∧ RowsAt w' (fun _ => True) v (norm (wdAt KS KS.length) (outs KS vs a KS.length))) ∨ (b = false ∧ ¬ okUp KS vs a KS.length))
theorem by9_all (w : World) (ok ok2 : Nat → Prop) (g W : Nat) (rs : List Row) (kv : Value) (ks : List Int) (a col : Int) (h : SegAt w ok (.pointer (some ⟨g, 0, none⟩)) W rs) (hk : RowAt w ok2 kv ks) (hl : ks.length < 100000) (hg : GoodA a col W) :
    Calls Try.prog 34 #[.pointer (some ⟨g, 0, none⟩), kv, .int .i64 a, .int .i64 col] w fun e w' => ∃ v b, e = .returned (.tuple #[v, .bool b]) ∧ NAll w w' v b (rs.map fun r => keyOf r ks) (valsOf a col rs) a := by
  have hvs := vals_same (a := a) (col := col) (W := W) (rs := rs) (by rcases hg with h | ⟨h1, _, h2, h3⟩; exact .inl h; exact .inr ⟨h1, h2, h3⟩) (rs.map fun r => keyOf r ks) (rs.map fun r => keyOf r ks).length
  have fin : ∀ e w', By9Post w (rs.map fun r => keyOf r ks) (valsIn col W rs) a e w' → ∃ v b, e = .returned (.tuple #[v, .bool b]) ∧ NAll w w' v b (rs.map fun r => keyOf r ks) (valsOf a col rs) a := fun e w' ⟨v, b, h1, h2⟩ => ⟨v, b, h1, h2.1, by
    have h3 := h2.2
    rw [hvs.1, hvs.2] at h3
    exact h3⟩
  by_cases hin : 0 ≤ col ∧ col < W
  · obtain ⟨cN, rfl⟩ : ∃ cN : Nat, col = (cN : Int) := ⟨col.toNat, by omega⟩
    exact (by9_in w ok ok2 g W rs kv ks a cN h hk hl (by omega)).mono fin
  · exact (by9_out w ok ok2 g W rs kv ks a col h hk hl hin).mono fin
end Go.Proofs.Ytihilledbnnniaa.Sg
