/- The finder of components in memory: to, meet. -/
import Derived.Test.YtcpjlfhehjmfbaaHK
import Derived.Test.YtcpjlfhehjmfbaaGrA
import Derived.Deep.DeepCutAuto
import Derived.Deep.RegionHeld3
namespace Go.Proofs.Ytcpjlfhehjmfbaa.Gr
open Go.RowKit Go.Shelf Go.Proofs.Ytcpjlfhehjmfbaa.Sg
set_option linter.unusedVariables false
set_option linter.unusedSimpArgs false

/-- The cells of a row of numbers that a function tells. -/
def lst (n : Nat) (f : Nat → Nat) : List Value := (List.range n).map fun v : Nat => Value.int .i64 ((f v : Nat) : Int)
theorem lst_length (n : Nat) (f : Nat → Nat) : (lst n f).length = n := by simp [lst]
theorem lst_get {n i : Nat} (f : Nat → Nat) (h : i < n) : (lst n f)[i]? = some (.int .i64 (f i : Int)) := by simp [lst, h]
theorem lst_set {n i : Nat} (f : Nat → Nat) (x : Nat) : (lst n f).set i (.int .i64 (x : Int)) = lst n (upd f i x) := by
  apply List.ext_getElem?
  intro j
  rw [List.getElem?_set]
  by_cases hj : j < n
  · by_cases e : i = j
    · subst e; rw [if_pos rfl, if_pos (by rw [lst_length]; exact hj), lst_get _ hj, upd_same]
    · rw [if_neg e, lst_get _ hj, lst_get _ hj, upd_ne _ _ _ (Ne.symm e)]
  · have h1 : ∀ g, (lst n g)[j]? = none := fun g => by rw [List.getElem?_eq_none]; rw [lst_length]; omega
    rw [h1, h1]
    by_cases e : i = j
    · subst e; rw [if_pos rfl, if_neg (by rw [lst_length]; exact hj)]
    · rw [if_neg e]
def hb (f : Nat → Bool) : Nat → Nat := fun v => if f v then 1 else 0
theorem hb_upd (f : Nat → Bool) (i : Nat) (b : Bool) : upd (hb f) i (if b then 1 else 0) = hb (upd f i b) := by
  funext v; by_cases h : v = i <;> simp [upd, hb, h]
/-- Where edges lead. -/
def adj (n : Nat) (es : List Row) : Adj := fun u => (es.getD u []).map fun t : Int => if 0 ≤ t ∧ t < (n : Int) then some t.toNat else none
def stkL (s : List Nat) : List Value := s.reverse.map fun x : Nat => Value.int .i64 (x : Int)
theorem stkL_cons (x : Nat) (s : List Nat) : stkL (x :: s) = stkL s ++ [.int .i64 (x : Int)] := by simp [stkL]
theorem stkL_length (s : List Nat) : (stkL s).length = s.length := by simp [stkL]

/-- A finder behind a pointer. -/
structure FI (w : World) (B f n : Nat) (ev : Value) (es : List Row) (bo bl bh bc : Nat) (sv : Value) (s : St) : Prop where
  blk : w.heap[f]? = some (.cells #[ev, .slice (some ⟨bo, 0, none⟩) n n, .slice (some ⟨bl, 0, none⟩) n n, .slice (some ⟨bh, 0, none⟩) n n, sv, .slice (some ⟨bc, 0, none⟩) n n, .int .i64 (s.next : Int), .int .i64 (s.count : Int)] 46 (0, 0))
  edges : RowsAt w (· < B) ev es
  elen : es.length = n
  ord : w.ownsRow B 3 1 (.slice (some ⟨bo, 0, none⟩) n n) n (lst n s.ord)
  low : w.ownsRow B 3 1 (.slice (some ⟨bl, 0, none⟩) n n) n (lst n s.low)
  held : w.ownsRow B 3 1 (.slice (some ⟨bh, 0, none⟩) n n) n (lst n (hb s.held))
  comp : w.ownsRow B 3 1 (.slice (some ⟨bc, 0, none⟩) n n) n (lst n s.comp)
  stk : w.ownsRow B 3 1 sv s.stack.length (stkL s.stack)
  ne : bo ≠ bl ∧ bo ≠ bh ∧ bo ≠ bc ∧ bl ≠ bh ∧ bl ≠ bc ∧ bh ≠ bc
  nes : sv.ownBlock ≠ some bo ∧ sv.ownBlock ≠ some bl ∧ sv.ownBlock ≠ some bh ∧ sv.ownBlock ≠ some bc
  ge : B ≤ f
theorem own_tag {w : World} {B e n c b : Nat} {xs : List Value} (h : w.ownsRow B e 1 (.slice (some ⟨b, 0, none⟩) n c) n xs) : B ≤ b ∧ b < w.heap.size ∧ ∃ cur, w.heap[b]? = some (.cells cur e (0, 0)) := by
  rcases h.2 with ⟨h0, _⟩ | ⟨b', cap', cur, h0, hb, hh, h1⟩
  · simp at h0
  · simp only [Value.slice.injEq, Option.some.injEq, Addr.mk.injEq, and_true, true_and] at h0
    obtain ⟨rfl, rfl⟩ := h0
    exact ⟨hb, (Array.getElem?_eq_some_iff.1 hh).1, cur, hh⟩
theorem tag_ne {w : World} {a b : Nat} {c1 c2 : Array Value} {T1 T2 : TypeId} (h1 : w.heap[a]? = some (.cells c1 T1 (0, 0))) (h2 : w.heap[b]? = some (.cells c2 T2 (0, 0))) (hT : T1 ≠ T2) : a ≠ b := by
  rintro rfl
  rw [h1] at h2
  injection h2 with h2
  injection h2 with _ h2
  exact hT h2
/-- What the walk wants to know of the finder's own block. -/
structure FBlk (w : World) (f n : Nat) (ev : Value) (bo bl bh bc : Nat) (sv : Value) (s : St) : Prop where
  k0 : w.cell? ⟨f, 0, none⟩ = some ev
  k1 : w.cell? ⟨f, 1, none⟩ = some (.slice (some ⟨bo, 0, none⟩) n n)
  k2 : w.cell? ⟨f, 2, none⟩ = some (.slice (some ⟨bl, 0, none⟩) n n)
  k3 : w.cell? ⟨f, 3, none⟩ = some (.slice (some ⟨bh, 0, none⟩) n n)
  k4 : w.cell? ⟨f, 4, none⟩ = some sv
  k5 : w.cell? ⟨f, 5, none⟩ = some (.slice (some ⟨bc, 0, none⟩) n n)
  k6 : w.cell? ⟨f, 6, none⟩ = some (.int .i64 (s.next : Int))
  k7 : w.cell? ⟨f, 7, none⟩ = some (.int .i64 (s.count : Int))
  f4 : w.frozen? ⟨f, 4, none⟩ = false
  f6 : w.frozen? ⟨f, 6, none⟩ = false
  f7 : w.frozen? ⟨f, 7, none⟩ = false
theorem FI.fblk {w : World} {B f n : Nat} {ev : Value} {es : List Row} {bo bl bh bc : Nat} {sv : Value} {s : St} (h : FI w B f n ev es bo bl bh bc sv s) : FBlk w f n ev bo bl bh bc sv s := by
  have hb := h.blk
  refine ⟨?_, ?_, ?_, ?_, ?_, ?_, ?_, ?_, frozen_of_row w f 4 _ _ hb, frozen_of_row w f 6 _ _ hb, frozen_of_row w f 7 _ _ hb⟩
  · rw [cell_of_row w f 0 _ _ _ hb]; rfl
  · rw [cell_of_row w f 1 _ _ _ hb]; rfl
  · rw [cell_of_row w f 2 _ _ _ hb]; rfl
  · rw [cell_of_row w f 3 _ _ _ hb]; rfl
  · rw [cell_of_row w f 4 _ _ _ hb]; rfl
  · rw [cell_of_row w f 5 _ _ _ hb]; rfl
  · rw [cell_of_row w f 6 _ _ _ hb]; rfl
  · rw [cell_of_row w f 7 _ _ _ hb]; rfl
theorem FI.nef {w : World} {B f n : Nat} {ev : Value} {es : List Row} {bo bl bh bc : Nat} {sv : Value} {s : St} (h : FI w B f n ev es bo bl bh bc sv s) : bo ≠ f ∧ bl ≠ f ∧ bh ≠ f ∧ bc ≠ f ∧ sv.ownBlock ≠ some f := by
  have d : (3 : Nat) ≠ 46 := by decide
  obtain ⟨_, _, _, t1⟩ := own_tag h.ord
  obtain ⟨_, _, _, t2⟩ := own_tag h.low
  obtain ⟨_, _, _, t3⟩ := own_tag h.held
  obtain ⟨_, _, _, t4⟩ := own_tag h.comp
  refine ⟨tag_ne t1 h.blk d, tag_ne t2 h.blk d, tag_ne t3 h.blk d, tag_ne t4 h.blk d, fun e => ?_⟩
  rcases h.stk.2 with ⟨rfl, _⟩ | ⟨b, cap, cur, rfl, _, hh, _⟩
  · simp [Value.ownBlock] at e
  · have e2 : b = f := Option.some.inj e
    exact tag_ne hh h.blk d e2
/-- The finder's own blocks. -/
def FF (f bo bl bh bc : Nat) (sv : Value) (k : Nat) : Prop := k = f ∨ k = bo ∨ k = bl ∨ k = bh ∨ k = bc ∨ sv.ownBlock = some k
theorem own_kept {w W : World} {S : Nat → Prop} (hk : Kept w W S) {B e n : Nat} {v : Value} {xs : List Value} (h : w.ownsRow B e 1 v n xs) (hv : ∀ k, v.ownBlock = some k → ¬ S k) : W.ownsRow B e 1 v n xs :=
  hk.stays.owns h hv
theorem FI.kept {w W : World} {B f n : Nat} {ev : Value} {es : List Row} {bo bl bh bc : Nat} {sv : Value} {s : St} {S : Nat → Prop} (h : FI w B f n ev es bo bl bh bc sv s) (hk : Kept w W S) (hS : ∀ k, S k → B ≤ k) (hF : ∀ k, FF f bo bl bh bc sv k → ¬ S k) : FI W B f n ev es bo bl bh bc sv s := by
  refine ⟨(hk.blk f (Array.getElem?_eq_some_iff.1 h.blk).1 (hF f (.inl rfl))).trans h.blk, reads_rows.stays h.edges (hk.stays.mono (fun b hb _ hs => by have := hS b hs; omega)), h.elen, own_kept hk h.ord ?_, own_kept hk h.low ?_, own_kept hk h.held ?_, own_kept hk h.comp ?_, own_kept hk h.stk ?_, h.ne, h.nes, h.ge⟩
  · intro k e; have e := Option.some.inj e; subst e; exact hF _ (.inr (.inl rfl))
  · intro k e; have e := Option.some.inj e; subst e; exact hF _ (.inr (.inr (.inl rfl)))
  · intro k e; have e := Option.some.inj e; subst e; exact hF _ (.inr (.inr (.inr (.inl rfl))))
  · intro k e; have e := Option.some.inj e; subst e; exact hF _ (.inr (.inr (.inr (.inr (.inl rfl)))))
  · intro k e; exact hF _ (.inr (.inr (.inr (.inr (.inr e)))))
theorem FI.below {w W : World} {B f n : Nat} {ev : Value} {es : List Row} {bo bl bh bc : Nat} {sv : Value} {s : St} (h : FI w B f n ev es bo bl bh bc sv s) (hb : Below w.heap.size w W) : FI W B f n ev es bo bl bh bc sv s :=
  h.kept (Kept.of_below hb (fun _ => False)) (fun _ h => h.elim) (fun _ _ h => h)
theorem FI.ffge {w : World} {B f n : Nat} {ev : Value} {es : List Row} {bo bl bh bc : Nat} {sv : Value} {s : St} (h : FI w B f n ev es bo bl bh bc sv s) : ∀ k, FF f bo bl bh bc sv k → B ≤ k ∧ k < w.heap.size := by
  have := own_tag h.ord; have := own_tag h.low; have := own_tag h.held; have := own_tag h.comp
  have hf := (Array.getElem?_eq_some_iff.1 h.blk).1
  have hge := h.ge
  intro k hk
  rcases hk with rfl | rfl | rfl | rfl | rfl | e
  · exact ⟨hge, hf⟩
  · omega
  · omega
  · omega
  · omega
  · exact h.stk.lt k e
theorem FI.sform {w : World} {B f n : Nat} {ev : Value} {es : List Row} {bo bl bh bc : Nat} {sv : Value} {s : St} (h : FI w B f n ev es bo bl bh bc sv s) : ∃ A0 c0, sv = .slice A0 s.stack.length c0 := by
  rcases h.stk.2 with ⟨h1, h2⟩ | ⟨b, cap, cur, h1, _⟩
  · exact ⟨none, 0, by rw [h1, h2]⟩
  · exact ⟨_, _, h1⟩

theorem adj_get {n : Nat} {es : List Row} {u k : Nat} (hu : u < es.length) (hk : k < (es[u]).length) : (adj n es u)[k]? = some (if 0 ≤ (es[u])[k] ∧ (es[u])[k] < n then some ((es[u])[k]).toNat else none) := by
  unfold adj
  rw [List.getD_eq_getElem?_getD, List.getElem?_eq_getElem hu, Option.getD_some, List.getElem?_map, List.getElem?_eq_getElem hk]
  rfl
theorem adj_len {n : Nat} {es : List Row} {u : Nat} (hu : u < es.length) : (adj n es u).length = (es[u]).length := by
  unfold adj
  rw [List.getD_eq_getElem?_getD, List.getElem?_eq_getElem hu, Option.getD_some, List.length_map]
/-- Where an edge leads, as 'to' says it. -/
def toI : Option Nat → Int
  | some t => (t : Int)
  | none => -1
set_option maxHeartbeats 1000000 in
theorem to_any (w : World) (B f n : Nat) (ev : Value) (es : List Row) (bo bl bh bc : Nat) (sv : Value) (s : St) (h : FI w B f n ev es bo bl bh bc sv s) (u k : Nat) (hu : u < n) (o : Option Nat) (ho : (adj n es u)[k]? = some o) (hn : n < 1000000) :
    Calls Try.prog 26 #[.pointer (some ⟨f, 0, none⟩), .int .i64 (u : Int), .int .i64 (k : Int)] w fun e w' => e = .returned (.int .i64 (toI o)) ∧ w = w' := by
  have hel := h.elen
  have hu' : u < es.length := by omega
  have hk : k < (es[u]).length := by rw [← adj_len (n := n) hu']; exact (List.getElem?_eq_some_iff.1 ho).1
  rw [adj_get hu' hk] at ho
  have ho := Option.some.inj ho
  obtain ⟨k0, k1, k2, k3, k4, k5, k6, k7, _, _, _⟩ := h.fblk
  obtain ⟨Ae, ce, hev, he1, he2, he3⟩ := h.edges.form
  subst hev
  obtain ⟨b1, o1, u1, rfl, _, _, hc1, hr1⟩ := h.edges.at_ u hu'
  obtain ⟨A2, c2, hu1, hm1, hm2, hm3⟩ := hr1.form
  subst hu1
  obtain ⟨b2, o2, u2, rfl, _, _, hc2, hv2, hi2⟩ := hr1.at_ k hk
  subst hv2
  generalize (es[u])[k] = t at *
  generalize hrl : (es[u]).length = m at *
  rw [hel] at k0 he1 he2
  unfold In64 at hi2
  obtain ⟨i1, i2⟩ := hi2
  clear h hr1
  by_cases h0 : t < 0
  · rw [if_neg (by omega)] at ho
    subst ho
    show Calls _ _ _ _ fun e w' => e = .returned (.int .i64 (-1)) ∧ w = w'
    go_enter Try.func26, Try.ntmps26
    go_wp2
    go_ret
    exact ⟨rfl, rfl⟩
  · by_cases h1 : (n : Int) ≤ t
    · rw [if_neg (by omega)] at ho
      subst ho
      show Calls _ _ _ _ fun e w' => e = .returned (.int .i64 (-1)) ∧ w = w'
      go_enter Try.func26, Try.ntmps26
      go_wp2
      go_ret
      exact ⟨rfl, rfl⟩
    · rw [if_pos (by omega)] at ho
      subst ho
      show Calls _ _ _ _ fun e w' => e = .returned (.int .i64 ((t.toNat : Nat) : Int)) ∧ w = w'
      rw [show ((t.toNat : Nat) : Int) = t by omega]
      go_enter Try.func26, Try.ntmps26
      go_wp2
      go_ret
      exact ⟨rfl, rfl⟩
end Go.Proofs.Ytcpjlfhehjmfbaa.Gr
