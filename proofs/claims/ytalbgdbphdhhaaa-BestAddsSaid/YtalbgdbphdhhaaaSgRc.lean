/- Contracts: slices.AppendSeq, slices.Collect of an iterator over rows; a set's rows. -/
import Derived.Test.YtalbgdbphdhhaaaSgRb
import Derived.Test.YtalbgdbphdhhaaaSgN
import Derived.Test.YtalbgdbphdhhaaaSgG
namespace Go.Proofs.Ytalbgdbphdhhaaa.Sg
open Go.RowKit Go.Shelf
attribute [local go_sem] Oper.semAt_some
set_option linter.unusedVariables false
set_option linter.unusedSimpArgs false

def rowsOf (xs : List RowV) : List Row := xs.map (·.2)
theorem rowsOf_snoc (xs : List RowV) (x : RowV) : rowsOf (xs ++ [x]) = rowsOf xs ++ [x.2] := by simp [rowsOf]
/-- The blocks that are not a slice's own. -/
def Off (v : Value) (k : Nat) : Prop := v.ownBlock ≠ some k
theorem BuiltBy.pushV {α : Type} {E : World → (Nat → Prop) → Value → α → Prop} (H : Reads E) {w w1 : World} {o : Obj} {B e : Nat} {v v' u : Value} {xs : List α} {x : α} {cs : List Value}
    (h : BuiltBy E w B e (Off v) v xs cs) (hu : E w (Off v) u x) (ho : w1.ownsRow B e 1 v' (xs.length + 1) (cs ++ [u])) (hg : (w.alloc o).grownBy w1 v.ownBlock) (hb : v'.ownBlock = v.ownBlock ∨ v'.ownBlock = some (w.alloc o).heap.size) :
    BuiltBy E w1 B e (Off v') v' (xs ++ [x]) (cs ++ [u]) := by
  have h2 : BuiltBy E w B e (fun k => Off v k ∧ k < w.heap.size) v xs cs := ⟨h.own, fun j hj z hz => H.mono (h.el j hj z hz) (fun k hk hl => ⟨hk, hl⟩)⟩
  have hu2 := H.mono (ok2 := fun k => Off v k ∧ k < w.heap.size) hu (fun k hk hl => ⟨hk, hl⟩)
  have := BuiltBy.append H h2 hu2 ho hg (fun k hk e => e.1 hk)
  refine ⟨this.own, fun j hj z hz => H.mono (this.el j hj z hz) (fun k hk _ => ?_)⟩
  rcases hb with hb | hb
  · unfold Off; rw [hb]; exact hk.1
  · unfold Off; rw [hb]
    intro e
    have := Option.some.inj e
    simp at this
    omega
theorem own_below {w : World} {B e n : Nat} {v : Value} {xs : List Value} (h : w.ownsRow B e 1 v n xs) : ∀ k, v.ownBlock = some k → B ≤ k := fun k hk => (h.lt k hk).1
/-- An append inside a fence, with where the list lies behind it. -/
theorem wpListIn_append_at {F : Fence} {n : Nat} {P : Program} (w : World) {ops : Array Oper} {rest : List Oper} {o : Oper} {a : Act} {Q : Exit → Act → World → Prop}
    (hg : o.guard = none) (s x : Operand) (t : TypeId) (hop : o.op = Op.call { callee := Callee.builtin Builtin.append, args := #[s, x], argTypes := #[t, t] })
    (base : Nat) (e : TypeId) (i : TypeInfo) (z : Value) (size bytes : Nat) (h1 : P.underlying t = some (.slice e)) (h2 : P.info? e = some i) (h3 : i.zero = some z) (h4 : i.size = size) (h5 : i.bytes = bytes) (h6 : z.cells.size = size) (h7 : 0 < size)
    (v : Value) (k : Nat) (xs : List Value) (hs : a.eval s = v) (hown : w.ownsRow base e size v k xs) (ad : Addr) (m c : Nat) (news : List Value) (hx : a.eval x = .slice (some ad) m c) (hn : news.length = m * size)
    (hc : ∀ j u, news[j]? = some u → w.cell? (ad.add j) = some u) (h1c : ∀ u ∈ news, u.oneCell' = true) (b1 : k + m ≤ maxLen) (b2 : (k + m) * bytes ≤ 140737488355328) (b3 : base ≤ w.heap.size)
    (hK : ∀ v' w', w'.ownsRow base e size v' (k + m) (xs ++ news) → w.grownBy w' v.ownBlock → (v'.ownBlock = v.ownBlock ∨ v'.ownBlock = some w.heap.size) → wpListIn F n P ops Q rest (a.put o.dst v') w') :
    wpListIn F n P ops Q (o :: rest) a w := by
  refine wpListIn_plain hg fun K hK' => ?_
  obtain ⟨v', w', hrun, r1, r2, _, r3⟩ := run_append_own_at (P := P) w base t o.type e i z size bytes h1 h2 h3 h4 h5 h6 h7 v k xs hown ad m c news hn hc h1c b1 b2 b3
  unfold Oper.wpIn
  refine ⟨?_, ?_⟩
  · simp [Oper.about, hop, resolve, Target.leads, Sem.run_pure]
  · rw [Oper.semAt_plain F _ _ (by rw [hop]; intro c hc'; cases hc')]
    simp [execOp, hop, resolve, invoke, builtin, hs, hx, hrun, Result.andThen]
    exact hK' _ _ (hK v' w' r1 r2 r3)
theorem own_form {w : World} {B e n : Nat} {v : Value} {xs : List Value} (h : w.ownsRow B e 1 v n xs) : ∃ A c, v = .slice A n c := by
  rcases h.2 with ⟨rfl, rfl⟩ | ⟨b, cap, cur, rfl, _⟩
  · exact ⟨_, _, rfl⟩
  · exact ⟨_, _, rfl⟩
theorem info_rowR : (Try.prog.info? 23).map (fun i => (i.zero, i.size, i.bytes)) = some (some (.slice none 0 0), 1, 24) := by kernel_rfl
/-- A list of rows in a variable's box, while a loop over an iterator adds to it: B0: what lay when the list was begun; bx: the box. -/
structure ListIn (n0 B0 bx : Nat) (w0 : World) (rs : List Row) (U : Nat → Prop) (W : World) (v : Value) (cs : List Value) : Prop where
  box : Boxed W bx 28 v
  own : W.ownsRow B0 23 1 v rs.length cs
  el : ∀ j (h : j < rs.length) u, cs[j]? = some u → RowAt W (fun b => n0 ≤ b ∧ Off v b ∧ b ≠ bx ∧ ¬ U b) u rs[j]
  offU : ∀ b, v.ownBlock = some b → ¬ U b
  bxU : ¬ U bx
  bx0 : B0 ≤ bx
  geU : ∀ b, U b → n0 ≤ b
  n0B : n0 ≤ B0
  below : Below n0 w0 W
theorem ListIn.abid {n0 B0 bx : Nat} {w0 : World} {rs : List Row} {U V : Nat → Prop} {A B : World} {v : Value} {cs : List Value} (h : ListIn n0 B0 bx w0 rs U A v cs) (hk : Keeps (fun b => ¬ U b) A B) (hv : ∀ b, V b → U b ∨ A.heap.size ≤ b) (hn : n0 ≤ A.heap.size) : ListIn n0 B0 bx w0 rs V B v cs := by
  have nV : ∀ b, b < A.heap.size → ¬ U b → ¬ V b := fun b hb hu h => by
    rcases hv b h with h | h
    · exact hu h
    · omega
  refine ⟨(hk.block bx h.box.lt h.bxU).trans h.box, hk.stays.owns h.own h.offU, fun j hj u hu => ?_, fun b hb => nV b (h.own.lt b hb).2 (h.offU b hb), nV bx h.box.lt h.bxU, h.bx0, fun b hb => ?_, h.n0B, h.below.trans (hk.below hn (fun b hb hu => by have := h.geU b hu; omega))⟩
  · have e1 := reads_row.mono (ok2 := fun b => (n0 ≤ b ∧ Off v b ∧ b ≠ bx ∧ ¬ U b) ∧ b < A.heap.size) (h.el j hj u hu) (fun b hb hl => ⟨hb, hl⟩)
    exact reads_row.mono (reads_row.stays e1 (hk.stays.mono (fun b hb _ => hb.1.2.2.2))) (fun b hb _ => ⟨hb.1.1, hb.1.2.1, hb.1.2.2.1, nV b hb.2 hb.1.2.2.2⟩)
  · rcases hv b hb with h1 | h1
    · exact h.geU b h1
    · omega
def ListI (n0 B0 bx : Nat) (w0 : World) (f : List RowV → List Row) (pre : List RowV) (U : Nat → Prop) (W : World) : Prop := ∃ v cs, ListIn n0 B0 bx w0 (f pre) U W v cs ∧ n0 ≤ W.heap.size
theorem ListI.abid (n0 B0 bx : Nat) (w0 : World) (f : List RowV → List Row) : Abid (ListI n0 B0 bx w0 f) := fun pre U V A B h hk hv => by
  obtain ⟨v, cs, h1, h2⟩ := h
  exact ⟨v, cs, h1.abid hk hv h2, Nat.le_trans h2 hk.size⟩
/-- A variable's box beside it. -/
def BoxI (B : Nat) (t : TypeId) (v : Value) (_ : List RowV) (U : Nat → Prop) (W : World) : Prop := Boxed W B t v ∧ ¬ U B
theorem BoxI.abid (B : Nat) (t : TypeId) (v : Value) : Abid (BoxI B t v) := fun pre U V A C h hk hv => by
  have hl := h.1.lt
  refine ⟨(hk.block B hl h.2).trans h.1, fun hb => ?_⟩
  rcases hv B hb with h1 | h1
  · exact h.2 h1
  · omega
theorem Abid.and {α : Type} {I J : List α → (Nat → Prop) → World → Prop} (h : Abid I) (k : Abid J) : Abid (fun pre U W => I pre U W ∧ J pre U W) := fun pre U V A B hh hk hv => ⟨h pre U V A B hh.1 hk hv, k pre U V A B hh.2 hk hv⟩
theorem BoxI.kept {B : Nat} {t : TypeId} {v : Value} {pre pre2 : List RowV} {U : Nat → Prop} {W W2 : World} {ok : Nat → Prop} (h : BoxI B t v pre U W) (hk : Keeps ok W W2) (hB : ok B) : BoxI B t v pre2 U W2 := ⟨(hk.block B h.1.lt hB).trans h.1, h.2⟩
theorem ListIn.notOwn {n0 B0 bx : Nat} {w0 : World} {rs : List Row} {U : Nat → Prop} {W : World} {v : Value} {cs : List Value} (h : ListIn n0 B0 bx w0 rs U W v cs) : some bx ≠ v.ownBlock := h.box.not_row (by decide) h.own
theorem ListIn.offBox {n0 B0 bx : Nat} {w0 : World} {rs : List Row} {U : Nat → Prop} {W : World} {v : Value} {cs : List Value} (h : ListIn n0 B0 bx w0 rs U W v cs) {B : Nat} {t : TypeId} {u : Value} (hb : Boxed W B t u) (ht : t ≠ 23) (hB : B ≠ bx) : Off v B ∧ B ≠ bx :=
  ⟨fun e => hb.not_row ht h.own e.symm, hB⟩
theorem ListIn.push {n0 B0 bx : Nat} {w0 : World} {rs : List Row} {U : Nat → Prop} {W w1 : World} {v v' u : Value} {r : Row} {o : Obj} {cs : List Value} (h : ListIn n0 B0 bx w0 rs U W v cs) (hx : RowAt W (fun b => n0 ≤ b ∧ Off v b ∧ b ≠ bx ∧ ¬ U b) u r)
    (ho : w1.ownsRow B0 23 1 v' (rs.length + 1) (cs ++ [u])) (hg : (W.alloc o).grownBy w1 v.ownBlock) (hb : v'.ownBlock = v.ownBlock ∨ v'.ownBlock = some (W.alloc o).heap.size) (hU : ∀ b, U b → b < W.heap.size) :
    ListIn n0 B0 bx w0 (rs ++ [r]) U (w1.setCell ⟨bx, 0, none⟩ v') v' (cs ++ [u]) ∧ Keeps (fun b => b < n0 ∨ U b) W (w1.setCell ⟨bx, 0, none⟩ v') ∧ Keeps (fun b => Off v b ∧ b ≠ bx) W (w1.setCell ⟨bx, 0, none⟩ v') := by
  have hn := h.notOwn
  have hbl := h.box.lt
  have hb' : ∀ b, b < W.heap.size → Off v b → Off v' b := fun b hbs hof => by
    unfold Off at *
    rcases hb with e | e
    · rw [e]; exact hof
    · rw [e]; intro e2; have := Option.some.inj e2; simp at this; omega
  have k1 : Keeps (fun b => Off v b ∧ b ≠ bx) W (w1.setCell ⟨bx, 0, none⟩ v') := ((Keeps.alloc (fun b => Off v b ∧ b ≠ bx) W o).trans ((Keeps.grown hg).mono (fun b _ hbb => hbb.1)) (fun _ _ hh => hh)).trans (ok2 := fun b => b ≠ bx) (Keeps.setCell w1 ⟨bx, 0, none⟩ v') (fun _ _ hh => hh.2)
  have k2 : Keeps (fun b => b < n0 ∨ U b) W (w1.setCell ⟨bx, 0, none⟩ v') := k1.mono (fun b hbs hbb => by
    refine ⟨fun e => ?_, fun e => ?_⟩
    · rcases hbb with q | q
      · have := own_below h.own b e; have := h.n0B; omega
      · exact h.offU b e q
    · rcases hbb with q | q
      · have := h.bx0; have := h.n0B; omega
      · exact h.bxU (e ▸ q))
  have hel : ∀ (z : Value) (q : Row), RowAt W (fun b => n0 ≤ b ∧ Off v b ∧ b ≠ bx ∧ ¬ U b) z q → RowAt (w1.setCell ⟨bx, 0, none⟩ v') (fun b => n0 ≤ b ∧ Off v' b ∧ b ≠ bx ∧ ¬ U b) z q := fun z q hz => by
    have e1 := reads_row.mono (ok2 := fun b => (n0 ≤ b ∧ Off v b ∧ b ≠ bx ∧ ¬ U b) ∧ b < W.heap.size) hz (fun b hb hl => ⟨hb, hl⟩)
    exact reads_row.mono (reads_row.stays e1 (k1.stays.mono (fun b hb _ => ⟨hb.1.2.1, hb.1.2.2.1⟩))) (fun b hb _ => ⟨hb.1.1, hb' b hb.2 hb.1.2.1, hb.1.2.2.1, hb.1.2.2.2⟩)
  have hv'x : some bx ≠ v'.ownBlock := by
    rcases hb with e | e
    · rw [e]; exact hn
    · rw [e]; intro e2; have := Option.some.inj e2; simp at this; omega
  have hcl : cs.length = rs.length := by rw [h.own.1]; omega
  refine ⟨⟨?_, ?_, fun j hj z hz => ?_, fun b hbo => ?_, h.bxU, h.bx0, h.geU, h.n0B, ?_⟩, k2, k1⟩
  · have : Boxed w1 bx 28 v := ((h.box.alloc o).kept hg hn)
    exact this.set v'
  · have := (Stays.setCell w1 ⟨bx, 0, none⟩ v').owns ho (fun k hk e => hv'x (by rw [hk]; simp at e; rw [e]))
    simpa using this
  · by_cases e : j < rs.length
    · rw [List.getElem_append_left e]
      rw [List.getElem?_append_left (by omega)] at hz
      exact hel z _ (h.el j e z hz)
    · have : j = rs.length := by simp at hj; omega
      subst this
      rw [List.getElem?_append_right (by omega), hcl, Nat.sub_self] at hz
      rw [List.getElem_append_right (by omega)]
      simp at hz ⊢
      subst hz
      exact hel u r hx
  · rcases hb with e | e
    · exact h.offU b (by rw [← e]; exact hbo)
    · intro hu
      have h1 := hU b hu
      rw [e] at hbo
      have := Option.some.inj hbo
      simp at this
      omega
  · exact h.below.trans (k2.below (by have := h.n0B; have := h.bx0; omega) (fun b hb => .inl hb))
end Go.Proofs.Ytalbgdbphdhhaaa.Sg
