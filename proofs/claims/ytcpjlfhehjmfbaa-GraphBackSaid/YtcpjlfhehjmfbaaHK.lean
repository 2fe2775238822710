/- What a call keeps: all blocks but some. Small lemmas. No statement of the seat is proved here. -/
import Derived.Test.YtcpjlfhehjmfbaaSgV
namespace Go.Proofs.Ytcpjlfhehjmfbaa.Sg
open Go.RowKit Go.Shelf
set_option linter.unusedVariables false
/-- What a call keeps: all blocks but those of S, and what is new since. -/
structure Kept (w W : World) (S : Nat → Prop) : Prop where
  size : w.heap.size ≤ W.heap.size
  blk : ∀ i, i < w.heap.size → ¬ S i → W.heap[i]? = w.heap[i]?
  os : W.os = w.os
  tape : W.tape = w.tape
  output : W.output = w.output
section
variable {w W W2 : World} {S S2 : Nat → Prop}
theorem Kept.refl (w : World) (S : Nat → Prop) : Kept w w S := ⟨Nat.le_refl _, fun _ _ _ => rfl, rfl, rfl, rfl⟩
theorem Kept.of_below (h : Below w.heap.size w W) (S : Nat → Prop) : Kept w W S := ⟨h.size, fun i hi _ => h.block i hi, h.os, h.tape, h.output⟩
theorem Kept.then_ (h : Kept w W S) (k : Kept W W2 S2) (hs : ∀ k, S2 k → S k ∨ w.heap.size ≤ k) : Kept w W2 S :=
  ⟨Nat.le_trans h.size k.size, fun i hi hn => (k.blk i (Nat.lt_of_lt_of_le hi h.size) (fun h2 => (hs i h2).elim hn (fun h3 => by omega))).trans (h.blk i hi hn), k.os.trans h.os, k.tape.trans h.tape, k.output.trans h.output⟩
theorem Kept.mono (h : Kept w W S) (hs : ∀ k, S k → S2 k) : Kept w W S2 := ⟨h.size, fun i hi hn => h.blk i hi (fun hk => hn (hs i hk)), h.os, h.tape, h.output⟩
theorem Kept.of_grown {row : Option Nat} (hg : W.grownBy W2 row) (h : Kept w W S) (hr : ∀ k, row = some k → S k ∨ w.heap.size ≤ k) : Kept w W2 S :=
  h.then_ (S2 := fun k => row = some k) ⟨hg.size, fun i hi hn => hg.block i hi (fun he => hn he.symm), hg.os, hg.tape, hg.output⟩ hr
theorem Kept.alloc (h : Kept w W S) (o : Obj) : Kept w (W.alloc o) S := h.then_ (Kept.of_below (below_alloc0 (Below.refl _ _) o) (fun _ => False)) (fun _ hk => hk.elim)
theorem Kept.drew (h : Kept w W S) : Kept w W.drew S := ⟨h.size, h.blk, h.os, h.tape, h.output⟩
theorem Kept.drewN (h : Kept w W S) (m : Nat) : Kept w (W.drewN m) S := ⟨h.size, h.blk, h.os, h.tape, h.output⟩
theorem Kept.setCell (h : Kept w W S) {p : Addr} (hp : S p.block ∨ w.heap.size ≤ p.block) (u : Value) : Kept w (W.setCell p u) S :=
  h.then_ (S2 := fun k => k = p.block) ⟨by simp [World.setCell], fun i _ hn => Below.heap_setCell W p u i hn, rfl, rfl, rfl⟩ (fun k hk => by rw [hk]; exact hp)
/-- Where all that may be written is new since base, the old memory lies as it lay. -/
theorem Kept.below (h : Kept w W S) {B : Nat} (hB : B ≤ w.heap.size) (hs : ∀ k, S k → B ≤ k) : Below B w W :=
  ⟨h.os, h.tape, h.output, h.size, fun i hi => h.blk i (Nat.lt_of_lt_of_le hi hB) (fun hk => by have := hs i hk; omega)⟩
theorem Kept.cell (h : Kept w W S) {a : Addr} {v : Value} (hc : w.cell? a = some v) (hn : ¬ S a.block) : W.cell? a = some v := by
  have := h.blk a.block (World.block_lt_of_cell? w a hc) hn
  simpa [World.cell?, this] using hc
theorem Kept.stays (h : Kept w W S) : Stays (fun b => ¬ S b) w W := fun b hb hl => h.blk b hl hb
end
theorem bcell {W w1 : World} (hb : Below W.heap.size W w1) : (∀ b o, b < W.heap.size → w1.cell? ⟨b, o, none⟩ = W.cell? ⟨b, o, none⟩) ∧ (∀ b o, b < W.heap.size → w1.frozen? ⟨b, o, none⟩ = W.frozen? ⟨b, o, none⟩) :=
  ⟨fun b o h => hb.cell (p := ⟨b, o, none⟩) h, fun b o h => hb.frozen (p := ⟨b, o, none⟩) h⟩
theorem quiet_add_same {P : Program} {f : FuncId} {args : Array Value} {w : World} {a n : Nat} {v : Value}
    (h : Calls P f args (w.drewN (a + n)) fun e w' => e = .returned v ∧ w' = w.drewN (a + n)) :
    Calls P f args (w.drewN (a + n)) fun e w'' => e = .returned v ∧ ∃ m, w'' = w.drewN (a + m) :=
  h.mono fun _ _ ⟨he, hm⟩ => ⟨he, n, hm⟩
/-- append to a row of the call's own, as one step of a region that draws. -/
theorem step_append_own {P : Program} {ops : Array Oper} {o : Oper} {a : Act} {w : World} {K : Act → World → Prop} {Q : Exit → Act → World → Prop} {E : Prop}
    (hg : o.guard = none) (s x : Operand) (t : TypeId) (ho : o.op = .call { callee := .builtin .append, args := #[s, x], argTypes := #[t, t] })
    (base : Nat) (e : TypeId) (i : TypeInfo) (z : Value) (size bytes : Nat) (ht : P.underlying t = some (.slice e)) (hi : P.info? e = some i) (hz : i.zero = some z)
    (hsize : i.size = size) (hby : i.bytes = bytes) (hzs : z.cells.size = size) (hsz : 0 < size)
    (v : Value) (n : Nat) (xs : List Value) (hs : a.eval s = v) (hown : w.ownsRow base e size v n xs)
    (ad : Addr) (m c : Nat) (news : List Value) (hx : a.eval x = .slice (some ad) m c) (hl : news.length = m * size) (hnews : ∀ j u, news[j]? = some u → w.cell? (ad.add j) = some u) (h1 : ∀ u ∈ news, u.oneCell' = true)
    (h63 : n + m ≤ maxLen) (hbytes : (n + m) * bytes ≤ 140737488355328) (hbase : base ≤ w.heap.size)
    (h : ∀ v' w', w'.ownsRow base e size v' (n + m) (xs ++ news) → w.grownBy w' v.ownBlock → (v' = .slice none 0 0 ↔ v = .slice none 0 0 ∧ m = 0) → (v'.ownBlock = v.ownBlock ∨ v'.ownBlock = some w.heap.size) → K (a.put o.dst v') w') :
    if Region.wanted o (yielded ops a.tmps) = true then Oper.wp P o a w K Q else E := by
  have hw : Region.wanted o (yielded ops a.tmps) = true := by simp [Region.wanted, hg]
  rw [if_pos hw]
  obtain ⟨v', w', hr, h2, h3, h4, h5⟩ := run_append_own_at (P := P) w base t o.type e i z size bytes ht hi hz hsize hby hzs hsz v n xs hown ad m c news hl hnews h1 h63 hbytes hbase
  unfold Oper.wp execOp
  simp only [ho, resolve, invoke, builtin, Sem.run_bind, Sem.run_pure, Result.andThen_ok, List.map_toArray, List.map_cons, List.map_nil, hs, hx, hr]
  exact h v' w' h2 h3 h4 h5
theorem news2 (w : World) (a b : Value) (T : TypeId) : ∀ j u, [a, b][j]? = some u → ((w.alloc (.cells #[a, b] T)).drew).cell? ((⟨w.heap.size, 0, none⟩ : Addr).add j) = some u := by
  intro j u hj
  match j, hj with
  | 0, hj => simp at hj; subst hj; simp [Addr.add]
  | 1, hj => simp at hj; subst hj; simp [Addr.add]
theorem news3 (w : World) (a b c : Value) (T : TypeId) : ∀ j u, [a, b, c][j]? = some u → ((w.alloc (.cells #[a, b, c] T)).drew).cell? ((⟨w.heap.size, 0, none⟩ : Addr).add j) = some u := by
  intro j u hj
  match j, hj with
  | 0, hj => simp at hj; subst hj; simp [Addr.add]
  | 1, hj => simp at hj; subst hj; simp [Addr.add]
  | 2, hj => simp at hj; subst hj; simp [Addr.add]
theorem size_alloc_le {B : Nat} {w : World} (h : B ≤ w.heap.size) (o : Obj) : B ≤ ((w.alloc o).drew).heap.size := by
  have : ((w.alloc o).drew).heap.size = w.heap.size + 1 := by simp
  omega
theorem after_blk {w w' : World} {o ob : Obj} {g : Nat} {row : Option Nat} (hb : w.heap[g]? = some ob) (hg : ((w.alloc o).drew).grownBy w' row) (hne : row ≠ some g) : w'.heap[g]? = some ob := by
  have hl : g < w.heap.size := (Array.getElem?_eq_some_iff.1 hb).1
  have := hg.block g (by have : ((w.alloc o).drew).heap.size = w.heap.size + 1 := by simp
                         omega) (fun e => hne e.symm)
  rw [this]
  exact ((below_drew (below_alloc0 (Below.refl w.heap.size w) o)).block g hl).trans hb
theorem own_formN {w : World} {B e size n : Nat} {v : Value} {xs : List Value} (h : w.ownsRow B e size v (n + 1) xs) : ∃ b cap, v = .slice (some ⟨b, 0, none⟩) (n + 1) cap ∧ B ≤ b ∧ b < w.heap.size ∧ ∃ cur, w.heap[b]? = some (.cells cur e (0, 0)) := by
  rcases h.2 with ⟨_, h0⟩ | ⟨b, cap, cur, rfl, hb, hh, _⟩
  · omega
  · exact ⟨b, cap, rfl, hb, (Array.getElem?_eq_some_iff.1 hh).1, cur, hh⟩
/-- What the walk wants to know of the heap's own block. -/
structure Blk (w : World) (g : Nat) (c0 c1 c2 : Value) : Prop where
  k0 : w.cell? ⟨g, 0, none⟩ = some c0
  k1 : w.cell? ⟨g, 1, none⟩ = some c1
  k2 : w.cell? ⟨g, 2, none⟩ = some c2
  f0 : w.frozen? ⟨g, 0, none⟩ = false
  f1 : w.frozen? ⟨g, 1, none⟩ = false
  f2 : w.frozen? ⟨g, 2, none⟩ = false
theorem blk_facts {w : World} {g : Nat} {c0 c1 c2 : Value} {T : TypeId} (h : w.heap[g]? = some (.cells #[c0, c1, c2] T (0, 0))) : Blk w g c0 c1 c2 :=
  ⟨by rw [cell_of_row w g 0 _ _ _ h]; rfl, by rw [cell_of_row w g 1 _ _ _ h]; rfl, by rw [cell_of_row w g 2 _ _ _ h]; rfl, frozen_of_row w g 0 _ _ h, frozen_of_row w g 1 _ _ h, frozen_of_row w g 2 _ _ h⟩
theorem blk_set {w : World} {g j : Nat} {cs : Array Value} {T : TypeId} (u : Value) (h : w.heap[g]? = some (.cells cs T (0, 0))) : (w.setCell ⟨g, j, none⟩ u).heap[g]? = some (.cells (cs.setIfInBounds j u) T (0, 0)) := heap_setCell_same w g j cs T u h
theorem own_set_other {w : World} {B e size n b : Nat} {cap : Nat} {xs : List Value} {g j : Nat} (u : Value) (h : w.ownsRow B e size (.slice (some ⟨b, 0, none⟩) n cap) n xs) (hne : b ≠ g) : (w.setCell ⟨g, j, none⟩ u).ownsRow B e size (.slice (some ⟨b, 0, none⟩) n cap) n xs := by
  refine ⟨h.1, ?_⟩
  rcases h.2 with ⟨h0, _⟩ | ⟨b', cap', cur, h0, hb, hh, h1⟩
  · simp at h0
  · simp only [Value.slice.injEq, Option.some.injEq, Addr.mk.injEq, and_true, true_and] at h0
    obtain ⟨rfl, rfl⟩ := h0
    exact .inr ⟨b, cap, cur, rfl, hb, (heap_setCell_other w ⟨g, j, none⟩ b u hne).trans hh, h1⟩
theorem inner_cells {wo wi : World} {a b : Value} {T : TypeId} (h : Below (wo.heap.size + 1) (wo.alloc (.cells #[a, b] T)) wi) : wi.cell? ⟨wo.heap.size, 0, none⟩ = some a ∧ wi.cell? ⟨wo.heap.size, 1, none⟩ = some b :=
  ⟨(h.cell (p := ⟨wo.heap.size, 0, none⟩) (by show wo.heap.size < wo.heap.size + 1; omega)).trans (by simp), (h.cell (p := ⟨wo.heap.size, 1, none⟩) (by show wo.heap.size < wo.heap.size + 1; omega)).trans (by simp)⟩
theorem own_drew {w : World} {B e size n : Nat} {v : Value} {xs : List Value} (h : w.ownsRow B e size v n xs) : w.drew.ownsRow B e size v n xs := h
theorem push_keep {w W : World} {g b1 : Nat} {v : Value} (h : Kept w W (fun k => k = g ∨ v.ownBlock = some k ∨ b1 = k)) (hn : v.ownBlock = some b1 ∨ w.heap.size ≤ b1) : Kept w W (fun k => k = g ∨ v.ownBlock = some k) :=
  (Kept.refl w _).then_ h (fun k hk => by
    rcases hk with hk | hk | hk
    · exact .inl (.inl hk)
    · exact .inl (.inr hk)
    · subst hk
      exact hn.elim (fun h => .inl (.inr h)) .inr)
/-- The row behind an append: the old one's block, or a new one. -/
theorem new_or_old {w : World} {o : Obj} {b1 cap1 n : Nat} {v : Value} (h : (Value.slice (some ⟨b1, 0, none⟩) n cap1).ownBlock = v.ownBlock ∨ (Value.slice (some ⟨b1, 0, none⟩) n cap1).ownBlock = some ((w.alloc o).drew).heap.size) : v.ownBlock = some b1 ∨ w.heap.size ≤ b1 := by
  rcases h with h | h
  · exact .inl h.symm
  · refine .inr ?_
    have e : b1 = ((w.alloc o).drew).heap.size := Option.some.inj h
    have : ((w.alloc o).drew).heap.size = w.heap.size + 1 := by simp
    omega
end Go.Proofs.Ytcpjlfhehjmfbaa.Sg
