/- Contracts: add, Probe, Len of an index. -/
import Derived.Test.YtmgoefhihljggaaSgXe
import Derived.Deep.RegionLaw
namespace Go.Proofs.Ytmgoefhihljggaa.Sg
open Go.RowKit Go.Shelf
set_option linter.unusedVariables false
set_option linter.unusedSimpArgs false

/-- append to a row of the call's own, as one step of a region that draws. -/
theorem step_append_own {P : Program} {ops : Array Oper} {o : Oper} {a : Act} {w : World} {K : Act → World → Prop} {Q : Exit → Act → World → Prop} {E : Prop}
    (hg : o.guard = none) (s x : Operand) (t : TypeId) (ho : o.op = .call { callee := .builtin .append, args := #[s, x], argTypes := #[t, t] })
    (base : Nat) (e : TypeId) (i : TypeInfo) (z : Value) (size bytes : Nat) (ht : P.underlying t = some (.slice e)) (hi : P.info? e = some i) (hz : i.zero = some z)
    (hsize : i.size = size) (hby : i.bytes = bytes) (hzs : z.cells.size = size) (hsz : 0 < size)
    (v : Value) (n : Nat) (xs : List Value) (hs : a.eval s = v) (hown : w.ownsRow base e size v n xs)
    (ad : Addr) (m c : Nat) (news : List Value) (hx : a.eval x = .slice (some ad) m c) (hl : news.length = m * size) (hnews : ∀ j u, news[j]? = some u → w.cell? (ad.add j) = some u) (h1 : ∀ u ∈ news, u.oneCell' = true)
    (h63 : n + m ≤ maxLen) (hbytes : (n + m) * bytes ≤ 140737488355328) (hbase : base ≤ w.heap.size)
    (h : ∀ v' w', w'.ownsRow base e size v' (n + m) (xs ++ news) → w.grownBy w' v.ownBlock → (v' = .slice none 0 0 ↔ v = .slice none 0 0 ∧ m = 0) → (v'.ownBlock = v.ownBlock ∨ v'.ownBlock = some w.heap.size) → K (a.put o.dst v') w') :
    if Region.wanted o (yielded ops a.tmps) = true then Oper.wp P o a w K Q else E := by
  have hw : Region.wanted o (yielded ops a.tmps) = true := by simp [Region.wanted, hg]
  rw [if_pos hw]
  obtain ⟨v', w', hr, h2, h3, h4, h5⟩ := run_append_own_at (P := P) w base t o.type e i z size bytes ht hi hz hsize hby hzs hsz v n xs hown ad m c news hl hnews h1 h63 hbytes hbase
  unfold Oper.wp execOp
  simp only [ho, resolve, invoke, builtin, Sem.run_bind, Sem.run_pure, Result.andThen_ok, List.map_toArray, List.map_cons, List.map_nil, hs, hx, hr]
  exact h v' w' h2 h3 h4 h5
theorem news1 (w : World) (a : Value) (T : TypeId) : ∀ j u, [a][j]? = some u → ((w.alloc (.cells #[a] T)).drew).cell? ((⟨w.heap.size, 0, none⟩ : Addr).add j) = some u := by
  intro j u hj
  match j, hj with
  | 0, hj => simp at hj; subst hj; simp [Addr.add]
theorem size_alloc_le {B : Nat} {w : World} (h : B ≤ w.heap.size) (o : Obj) : B ≤ ((w.alloc o).drew).heap.size := by
  have : ((w.alloc o).drew).heap.size = w.heap.size + 1 := by simp
  omega
/-- An index, known by what each key has. -/
structure IdxOk (w : World) (B m g : Nat) (f : Row → List Int) (used : Nat) : Prop where
  ex : ∃ sb N col T, IdxW w B g sb N used col T ∧ GoodT Hn T ∧ Maps T f ∧ cnt T = used ∧ 2 * used ≤ N + 1 ∧ 4 ≤ N ∧ N ≤ 4 * used + 4 ∧ ∀ b, m ≤ b → col b = .free
theorem IdxOk.below {w w' : World} {B m g : Nat} {f : Row → List Int} {used : Nat} (h : IdxOk w B m g f used) (hb : Below w.heap.size w w') : IdxOk w' B w.heap.size g f used := by
  obtain ⟨sb, N, col, T, h1, h2, h3, h4, h5, h6, h7, h8⟩ := h.ex
  exact ⟨sb, N, _, T, h1.below hb, h2, h3, h4, h5, h6, h7, fun b hb => by unfold Sg.cut; rw [if_neg (by omega)]⟩
def AddMid (B g : Nat) (f : Row → List Int) (used : Nat) (kv : Value) (key : Row) (w w1 : World) : Prop :=
  Below B w w1 ∧ ∃ sb N col T, IdxW w1 B g sb N used col T ∧ GoodT Hn T ∧ Maps T f ∧ cnt T = used ∧ 2 * used < N ∧ 4 ≤ N ∧ N ≤ 4 * used + 4 ∧ RowAt w1 (fun b => col b = .free) kv key
theorem addMid_no {B m g : Nat} {f : Row → List Int} {used sb N : Nat} {col : Nat → Tag} {T : Tab} {kv : Value} {key : Row} {w w1 : World} (h1 : IdxW w B g sb N used col T) (h2 : GoodT Hn T) (h3 : Maps T f) (h4 : cnt T = used) (h5 : 2 * used < N) (h6 : 4 ≤ N) (h7 : N ≤ 4 * used + 4) (h8 : ∀ b, m ≤ b → col b = .free)
    (hk : RowAt w (m ≤ ·) kv key) (hd : Drew w w1) : AddMid B g f used kv key w w1 := by
  obtain ⟨q, rfl⟩ := hd
  exact ⟨below_drewN (Below.refl _ _) _, sb, N, col, T, h1.stays (Stays.drewN _ _ _), h2, h3, h4, h5, h6, h7, reads_row.mono (reads_row.stays hk (Stays.drewN _ _ _)) (fun b hb _ => h8 b hb)⟩
theorem addMid_grow {B m g : Nat} {f : Row → List Int} {used sb N : Nat} {col : Nat → Tag} {T : Tab} {kv : Value} {key : Row} {w w1 : World} (h1 : IdxW w B g sb N used col T) (h2 : GoodT Hn T) (h3 : Maps T f) (h4 : cnt T = used) (h5 : 2 * used ≤ N + 1) (h0 : N ≤ 2 * used) (h6 : 4 ≤ N) (hu : used < 1000000) (h8 : ∀ b, m ≤ b → col b = .free)
    (hk : RowAt w (m ≤ ·) kv key) (hd : Drew w w1) : Calls Try.prog 57 #[.pointer (some ⟨g, 0, none⟩)] w1 fun e w' => e = .returned (.tuple #[]) ∧ AddMid B g f used kv key w w' := by
  obtain ⟨q, rfl⟩ := hd
  refine (grow_any (w.drewN q) B g sb N used col T (h1.stays (Stays.drewN _ _ _)) h2 (by omega)).mono ?_
  rintro e w' ⟨he, hB, sb', T', k1, k2, k3, k4, k5, k6⟩
  have hkk : RowAt (w.drewN q) (fun b => col b = .free ∧ b < (w.drewN q).heap.size) kv key := reads_row.mono (reads_row.stays hk (Stays.drewN _ _ _)) (fun b hb hl => ⟨h8 b hb, hl⟩)
  refine ⟨he, (below_drewN (Below.refl B w) q).trans hB, sb', 2 * N, _, T', k1, k3, k4.maps h3, by omega, by omega, by omega, by omega, ?_⟩
  refine reads_row.mono (reads_row.stays hkk (k6.mono fun b hb _ => hb.1)) (fun b hb _ => ?_)
  have hs : b ≠ sb := by rintro rfl; rw [h1.2.cs] at hb; cases hb.1
  have := grown_old (nsb := sb') (col := col) hb.2 k2 hs
  exact this.trans hb.1
theorem drew_of {w : World} (n : Nat) : Drew w (w.drewN n) := ⟨n, rfl⟩

/-- Behind the append in add: what the walk wants to know. -/
theorem after_app {w w1 : World} {o : Obj} {B g sb N used : Nat} {col : Nat → Tag} {T : Tab} {i : Nat} {key : Row} {v : Value} {rs : List Int} (h : Mid w B g sb N used col T i key v rs) (hg : ((w.alloc o).drew).grownBy w1 v.ownBlock) :
    w1.cell? ⟨g, 1, none⟩ = some (.slice (some ⟨sb, 0, none⟩) N N) ∧ w1.cell? ⟨sb, i * 2 + 1, none⟩ = some v ∧ w1.frozen? ⟨sb, i * 2 + 1, none⟩ = false := by
  obtain ⟨c1, _, n1, n2⟩ := h.cellv
  obtain ⟨u1, u2, u3, u4⟩ := h.2.2.2.ublk
  obtain ⟨g1, g2, _⟩ := h.2.2.2.glt
  have sA : Stays (fun b => v.ownBlock ≠ some b) w w1 :=
    Stays.trans (w1 := (w.alloc o).drew) ((Stays.alloc (fun _ => True) w o).mono fun _ _ _ => trivial) (Stays.of_grown hg) (by simp)
  refine ⟨sA.cell n1 u1, sA.cell n2 c1, ?_⟩
  have := sA sb n2 g2
  have hf := u4 (i * 2 + 1)
  simpa [World.frozen?, this] using hf
theorem add_end {r : Int} {w2 : World} {B g sb N used : Nat} {col : Nat → Tag} {T : Tab} {i : Nat} {key : Row} {f : Row → List Int} (h : IdxW w2 B g sb N used col (T.set i (some (key, f key ++ [r])))) (hG : GoodT Hn (T.set i (some (key, f key ++ [r])))) (hM : Maps (T.set i (some (key, f key ++ [r]))) (fun k => if k = key then f key ++ [r] else f k))
    (h4 : cnt (T.set i (some (key, f key ++ [r]))) = used) (h5 : 2 * used ≤ N + 1) (h6 : 4 ≤ N) (h7 : N ≤ 4 * used + 4) : IdxOk w2 B w2.heap.size g (fun k => if k = key then f key ++ [r] else f k) used :=
  ⟨sb, N, _, _, h.cut, hG, hM, h4, h5, h6, h7, fun b hb => by unfold Sg.cut; rw [if_neg (by omega)]⟩
theorem ownsDrewN {w : World} {B e s n : Nat} {v : Value} {xs : List Value} (h : w.ownsRow B e s v n xs) (q : Nat) : (w.drewN q).ownsRow B e s v n xs := (Stays.drewN (fun _ => True) w q).owns h (fun _ _ => trivial)

end Go.Proofs.Ytmgoefhihljggaa.Sg
