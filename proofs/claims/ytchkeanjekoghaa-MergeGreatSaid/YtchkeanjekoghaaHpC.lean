/- The heap's Push: for whatever order, the entries behind it are those of 'up'. -/
import Derived.Test.YtchkeanjekoghaaHpB
import Derived.Lib.Hide
import Derived.Maps.AppendAt
namespace Go.Proofs.Ytchkeanjekoghaa.Hp
open Go.RowKit Go.Shelf
set_option linter.unusedVariables false
set_option linter.unusedSimpArgs false

/-- append to a row of the call's own, as one step of a region that draws. -/
theorem step_append_own {P : Program} {ops : Array Oper} {o : Oper} {a : Act} {w : World} {K : Act → World → Prop} {Q : Exit → Act → World → Prop} {E : Prop}
    (hg : o.guard = none) (s x : Operand) (t : TypeId) (ho : o.op = .call { callee := .builtin .append, args := #[s, x], argTypes := #[t, t] })
    (base : Nat) (e : TypeId) (i : TypeInfo) (z : Value) (size bytes : Nat) (ht : P.underlying t = some (.slice e)) (hi : P.info? e = some i) (hz : i.zero = some z)
    (hsize : i.size = size) (hby : i.bytes = bytes) (hzs : z.cells.size = size) (hsz : 0 < size)
    (v : Value) (n : Nat) (xs : List Value) (hs : a.eval s = v) (hown : w.ownsRow base e size v n xs)
    (ad : Addr) (m c : Nat) (news : List Value) (hx : a.eval x = .slice (some ad) m c) (hl : news.length = m * size) (hnews : ∀ j u, news[j]? = some u → w.cell? (ad.add j) = some u) (h1 : ∀ u ∈ news, u.oneCell' = true)
    (h63 : n + m ≤ maxLen) (hbytes : (n + m) * bytes ≤ 140737488355328) (hbase : base ≤ w.heap.size)
    (h : ∀ v' w', w'.ownsRow base e size v' (n + m) (xs ++ news) → w.grownBy w' v.ownBlock → (v' = .slice none 0 0 ↔ v = .slice none 0 0 ∧ m = 0) → (v'.ownBlock = v.ownBlock ∨ v'.ownBlock = some w.heap.size) → K (a.put o.dst v') w') :
    if Region.wanted o (yielded ops a.tmps) = true then Oper.wp P o a w K Q else E := by
  have hw : Region.wanted o (yielded ops a.tmps) = true := by simp [Region.wanted, hg]
  rw [if_pos hw]
  obtain ⟨v', w', hr, h2, h3, h4, h5⟩ := run_append_own_at (P := P) w base t o.type e i z size bytes ht hi hz hsize hby hzs hsz v n xs hown ad m c news hl hnews h1 h63 hbytes hbase
  unfold Oper.wp execOp
  simp only [ho, resolve, invoke, builtin, Sem.run_bind, Sem.run_pure, Result.andThen_ok, List.map_toArray, List.map_cons, List.map_nil, hs, hx, hr]
  exact h v' w' h2 h3 h4 h5
theorem news2 (w : World) (a b : Value) (T : TypeId) : ∀ j u, [a, b][j]? = some u → ((w.alloc (.cells #[a, b] T)).drew).cell? ((⟨w.heap.size, 0, none⟩ : Addr).add j) = some u := by
  intro j u hj
  match j, hj with
  | 0, hj => simp at hj; subst hj; simp [Addr.add]
  | 1, hj => simp at hj; subst hj; simp [Addr.add]
theorem size_alloc_le {B : Nat} {w : World} (h : B ≤ w.heap.size) (o : Obj) : B ≤ ((w.alloc o).drew).heap.size := by
  have : ((w.alloc o).drew).heap.size = w.heap.size + 1 := by simp
  omega
theorem after_blk {w w' : World} {o ob : Obj} {g : Nat} {row : Option Nat} (hb : w.heap[g]? = some ob) (hg : ((w.alloc o).drew).grownBy w' row) (hne : row ≠ some g) : w'.heap[g]? = some ob := by
  have hl : g < w.heap.size := (Array.getElem?_eq_some_iff.1 hb).1
  have := hg.block g (by have : ((w.alloc o).drew).heap.size = w.heap.size + 1 := by simp
                         omega) (fun e => hne e.symm)
  rw [this]
  exact ((below_drew (below_alloc0 (Below.refl w.heap.size w) o)).block g hl).trans hb
theorem own_form {w : World} {B e size n : Nat} {v : Value} {xs : List Value} (h : w.ownsRow B e size v (n + 1) xs) : ∃ b cap, v = .slice (some ⟨b, 0, none⟩) (n + 1) cap ∧ B ≤ b ∧ b < w.heap.size ∧ ∃ cur, w.heap[b]? = some (.cells cur e (0, 0)) := by
  rcases h.2 with ⟨_, h0⟩ | ⟨b, cap, cur, rfl, hb, hh, _⟩
  · omega
  · exact ⟨b, cap, rfl, hb, (Array.getElem?_eq_some_iff.1 hh).1, cur, hh⟩
/-- What the walk wants to know of the heap's own block. -/
structure Blk (w : World) (g : Nat) (c0 c1 c2 : Value) : Prop where
  k0 : w.cell? ⟨g, 0, none⟩ = some c0
  k1 : w.cell? ⟨g, 1, none⟩ = some c1
  k2 : w.cell? ⟨g, 2, none⟩ = some c2
  f0 : w.frozen? ⟨g, 0, none⟩ = false
  f1 : w.frozen? ⟨g, 1, none⟩ = false
  f2 : w.frozen? ⟨g, 2, none⟩ = false
theorem blk_facts {w : World} {g : Nat} {c0 c1 c2 : Value} {T : TypeId} (h : w.heap[g]? = some (.cells #[c0, c1, c2] T (0, 0))) : Blk w g c0 c1 c2 :=
  ⟨by rw [cell_of_row w g 0 _ _ _ h]; rfl, by rw [cell_of_row w g 1 _ _ _ h]; rfl, by rw [cell_of_row w g 2 _ _ _ h]; rfl, frozen_of_row w g 0 _ _ h, frozen_of_row w g 1 _ _ h, frozen_of_row w g 2 _ _ h⟩
theorem info160 : (Try.prog.info? 55).map (fun i => (i.zero, i.size, i.bytes)) = some (some (.agg #[.int .i64 0, .int .i64 0]), 2, 16) := by kernel_rfl


theorem blk_set {w : World} {g j : Nat} {cs : Array Value} {T : TypeId} (u : Value) (h : w.heap[g]? = some (.cells cs T (0, 0))) : (w.setCell ⟨g, j, none⟩ u).heap[g]? = some (.cells (cs.setIfInBounds j u) T (0, 0)) := heap_setCell_same w g j cs T u h
theorem own_set_other {w : World} {B e size n b : Nat} {cap : Nat} {xs : List Value} {g j : Nat} (u : Value) (h : w.ownsRow B e size (.slice (some ⟨b, 0, none⟩) n cap) n xs) (hne : b ≠ g) : (w.setCell ⟨g, j, none⟩ u).ownsRow B e size (.slice (some ⟨b, 0, none⟩) n cap) n xs := by
  refine ⟨h.1, ?_⟩
  rcases h.2 with ⟨h0, _⟩ | ⟨b', cap', cur, h0, hb, hh, h1⟩
  · simp at h0
  · simp only [Value.slice.injEq, Option.some.injEq, Addr.mk.injEq, and_true, true_and] at h0
    obtain ⟨rfl, rfl⟩ := h0
    exact .inr ⟨b, cap, cur, rfl, hb, (heap_setCell_other w ⟨g, j, none⟩ b u hne).trans hh, h1⟩
/-- The heap behind the append and the two stores of Push. -/
theorem after_push {w w1 : World} {o : Obj} {B g lf b1 cap1 : Nat} {es : List (Int × Int)} {came x : Int} {v : Value} {cur1 : Array Value}
    (hb : w1.heap[g]? = some (.cells #[.func (.func lf) #[] #[], v, .int .i64 came] 53 (0, 0))) (ho : w1.ownsRow B 55 2 (.slice (some ⟨b1, 0, none⟩) (es.length + 1) cap1) (es.length + 1) (cells2 es ++ [.int .i64 x, .int .i64 came])) (hg : ((w.alloc o).drew).grownBy w1 v.ownBlock) (hc : w1.heap[b1]? = some (.cells cur1 55 (0, 0)))
    (hwb : w.heap[g]? = some (.cells #[.func (.func lf) #[] #[], v, .int .i64 came] 53 (0, 0))) (hown : w.ownsRow B 55 2 v es.length (cells2 es)) (hne : v.ownBlock ≠ some g) (hc0 : 0 ≤ came) :
    HI ((w1.setCell ⟨g, 1, none⟩ (.slice (some ⟨b1, 0, none⟩) (es.length + 1) cap1)).setCell ⟨g, 2, none⟩ (.int .i64 (came + 1))) B g lf (es ++ [(x, came)]) (came + 1) (.slice (some ⟨b1, 0, none⟩) (es.length + 1) cap1) ∧
    Kept w ((w1.setCell ⟨g, 1, none⟩ (.slice (some ⟨b1, 0, none⟩) (es.length + 1) cap1)).setCell ⟨g, 2, none⟩ (.int .i64 (came + 1))) (fun k => k = g ∨ v.ownBlock = some k) := by
  have hbg : b1 ≠ g := by
    rintro rfl
    rw [hc] at hb
    injection hb with hb
    injection hb with _ hb
    exact absurd hb (by decide)
  refine ⟨⟨?_, ?_, fun e => hbg (Option.some.inj e)⟩, ?_⟩
  · have := blk_set (j := 2) (.int .i64 (came + 1)) (blk_set (j := 1) (.slice (some ⟨b1, 0, none⟩) (es.length + 1) cap1) hb)
    exact this
  · have := own_set_other (j := 2) (.int .i64 (came + 1)) (own_set_other (j := 1) (.slice (some ⟨b1, 0, none⟩) (es.length + 1) cap1) ho hbg) hbg
    rw [cells2_append, List.length_append]
    exact this
  · have k1 : Kept w w1 (fun k => k = g ∨ v.ownBlock = some k) := Kept.of_grown hg (((Kept.refl w _).alloc o).drew) (fun k hk => .inl (.inr hk))
    exact (k1.setCell (p := ⟨g, 1, none⟩) (.inl (.inl rfl)) _).setCell (p := ⟨g, 2, none⟩) (.inl (.inl rfl)) _

theorem swp_getD (es : List (Int × Int)) (i j k : Nat) : (swp es i j).length = es.length := swp_length es i j
/-- The entry at i goes up to its place. -/
def up (lt : Int → Int → Bool) : Nat → List (Int × Int) → Nat → List (Int × Int)
  | 0, es, _ => es
  | f + 1, es, i => if 0 < i ∧ bef lt (es.getD i (0, 0)) (es.getD ((i - 1) / 2) (0, 0)) = true then up lt f (swp es i ((i - 1) / 2)) ((i - 1) / 2) else es
theorem up_succ (lt : Int → Int → Bool) (f : Nat) (es : List (Int × Int)) (i : Nat) : up lt (f + 1) es i = if 0 < i ∧ bef lt (es.getD i (0, 0)) (es.getD ((i - 1) / 2) (0, 0)) = true then up lt f (swp es i ((i - 1) / 2)) ((i - 1) / 2) else es := rfl
theorem up_fuel (lt : Int → Int → Bool) : ∀ (f : Nat) (es : List (Int × Int)) (i : Nat), i < f → up lt (f + 1) es i = up lt f es i
  | 0, _, _, h => by omega
  | f + 1, es, i, h => by
    rw [up_succ lt (f + 1) es i, up_succ lt f es i]
    by_cases c : 0 < i ∧ bef lt (es.getD i (0, 0)) (es.getD ((i - 1) / 2) (0, 0)) = true
    · rw [if_pos c, if_pos c]
      exact up_fuel lt f _ _ (by omega)
    · rw [if_neg c, if_neg c]
def upF (lt : Int → Int → Bool) (es : List (Int × Int)) (i : Nat) : List (Int × Int) := up lt (i + 1) es i
theorem up_upF (lt : Int → Int → Bool) (es : List (Int × Int)) (i : Nat) : ∀ f, i < f → up lt f es i = upF lt es i := by
  intro f hf
  obtain ⟨d, rfl⟩ : ∃ d, f = i + 1 + d := ⟨f - (i + 1), by omega⟩
  clear hf
  induction d with
  | zero => rfl
  | succ d ih => rw [← ih]; exact up_fuel lt (i + 1 + d) es i (by omega)
theorem upF_stop (lt : Int → Int → Bool) (es : List (Int × Int)) (i : Nat) (h : ¬ (0 < i ∧ bef lt (es.getD i (0, 0)) (es.getD ((i - 1) / 2) (0, 0)) = true)) : upF lt es i = es := by
  unfold upF; rw [up, if_neg h]
theorem upF_step (lt : Int → Int → Bool) (es : List (Int × Int)) (i : Nat) (h0 : 0 < i) (h : bef lt (es.getD i (0, 0)) (es.getD ((i - 1) / 2) (0, 0)) = true) : upF lt es i = upF lt (swp es i ((i - 1) / 2)) ((i - 1) / 2) := by
  unfold upF; rw [up, if_pos ⟨h0, h⟩]; exact up_upF lt _ _ _ (by omega)
/-- What 'before' answers, for the order number lf. -/
def BefOK (lf : Nat) (lt : Int → Int → Bool) : Prop := ∀ (g B : Nat) (es : List (Int × Int)) (came : Int) (v : Value) (i j : Int) (r : Bool) (w : World), HI w B g lf es came v → 0 ≤ i → i < es.length → 0 ≤ j → j < es.length → bef lt (es.getD i.toNat (0, 0)) (es.getD j.toNat (0, 0)) = r →
    Calls Try.prog 21 #[.pointer (some ⟨g, 0, none⟩), .int .i64 i, .int .i64 j] w fun e w' => e = .returned (.bool r) ∧ Below w.heap.size w w'
abbrev ltI (a b : Int) : Bool := decide (a < b)
theorem before_59 : BefOK 13 ltI := by
  intro g B es came v i j r w h hi0 hin hj0 hjn hr
  subst hr
  exact before_any g B es came v i j w h hi0 hin hj0 hjn

theorem push_keep {w W : World} {g b1 : Nat} {v : Value} (h : Kept w W (fun k => k = g ∨ v.ownBlock = some k ∨ b1 = k)) (hn : v.ownBlock = some b1 ∨ w.heap.size ≤ b1) : Kept w W (fun k => k = g ∨ v.ownBlock = some k) :=
  (Kept.refl w _).then_ h (fun k hk => by
    rcases hk with hk | hk | hk
    · exact .inl (.inl hk)
    · exact .inl (.inr hk)
    · subst hk
      exact hn.elim (fun h => .inl (.inr h)) .inr)
/-- The row behind an append: the old one's block, or a new one. -/
theorem new_or_old {w : World} {o : Obj} {b1 cap1 n : Nat} {v : Value} (h : (Value.slice (some ⟨b1, 0, none⟩) n cap1).ownBlock = v.ownBlock ∨ (Value.slice (some ⟨b1, 0, none⟩) n cap1).ownBlock = some ((w.alloc o).drew).heap.size) : v.ownBlock = some b1 ∨ w.heap.size ≤ b1 := by
  rcases h with h | h
  · exact .inl h.symm
  · refine .inr ?_
    have e : b1 = ((w.alloc o).drew).heap.size := Option.some.inj h
    have : ((w.alloc o).drew).heap.size = w.heap.size + 1 := by simp
    omega
set_option maxHeartbeats 2000000 in
set_option maxRecDepth 100000 in
theorem push_any {lf : Nat} {lt : Int → Int → Bool} (OK : BefOK lf lt) (g B : Nat) (es : List (Int × Int)) (came x : Int) (v : Value) (w : World) (h : HI w B g lf es came v) (hes : es.length < 1000000) (hB : B ≤ w.heap.size) (hc0 : 0 ≤ came) (hc1 : came < 1000000000000) :
    Calls Try.prog 14 #[.pointer (some ⟨g, 0, none⟩), .int .i64 x] w fun e w' => e = .returned (.tuple #[]) ∧ ∃ v', HI w' B g lf (upF lt (es ++ [(x, came)]) es.length) (came + 1) v' ∧ Kept w w' (fun k => k = g ∨ v.ownBlock = some k) ∧ (∀ k, v'.ownBlock = some k → v.ownBlock = some k ∨ w.heap.size ≤ k) := by
  obtain ⟨A0, n0, c0, hv⟩ : ∃ A0 n0 c0, v = .slice A0 n0 c0 := by
    rcases h.own.2 with ⟨h1, _⟩ | ⟨b, cap, cur, h1, _⟩ <;> exact ⟨_, _, _, h1⟩
  obtain ⟨i0, hi, hz0, hz1, hz2⟩ := info_parts info160
  have hgl := h.lt
  have hblk := Aside0.mk h.blk
  have hne := Aside0.mk h.ne
  have hown := Aside0.mk h.own
  have q3 : es.length + 1 ≤ maxLen := by unfold maxLen; omega
  have Q3 := Aside0.mk q3
  obtain ⟨k0, k1, k2, f0, f1, f2⟩ := blk_facts h.blk
  clear q3 h
  subst hv
  go_enter Try.func14, Try.ntmps14
  go_wp2
  go_region_law (go_loud (refine step_append_own rfl (.tmp 9) (.tmp 16) 51 rfl B 55 i0 (.agg #[.int .i64 0, .int .i64 0]) 2 16 Try.underlying51 hi hz0 hz1 hz2 rfl (by decide) (.slice A0 n0 c0) es.length (cells2 es) (by simp [Act.eval, Act.put]) (hown.out.alloc _) ⟨w.heap.size, 0, none⟩ 1 1 [.int .i64 x, .int .i64 came] (by simp [Act.eval, Act.put]) rfl (news2 w _ _ _) (by simp [Value.oneCell']) Q3.out (by omega) (size_alloc_le hB _) ?_; intro v1 w1 ho hg _ hbo; obtain ⟨b1, cap1, rfl, hb1, hl1, cur1, hc1⟩ := own_form ho; have HN := Aside0.mk (new_or_old hbo); have hbk := after_blk hblk.out hg hne.out; obtain ⟨m0, m1, m2, e0, e1, e2⟩ := blk_facts hbk; have HO := Aside0.mk ho; have HG := Aside0.mk hg; have HB1 := Aside0.mk hbk; have HC1 := Aside0.mk hc1; clear ho hg hbk hc1 hbo))
  all_goals go_wp2
  all_goals
    have hst := after_push HB1.out HO.out HG.out HC1.out hblk.out hown.out hne.out (show 0 ≤ came from hc0)
    have HST := Aside0.mk hst
    clear hst HB1 HO HG HC1 m0 m1 m2 e0 e1 e2 k0 k1 k2 f0 f1 f2
    go_loopw [4] (fun s4 wr => ∃ (i : Nat) (cur : List (Int × Int)), s4 = .int .i64 (i : Int) ∧ Aside0 (i < cur.length ∧ cur.length = es.length + 1) ∧ Aside0 (upF lt cur i = upF lt (es ++ [(x, came)]) es.length) ∧ Aside0 (HI wr B g lf cur (came + 1) (.slice (some ⟨b1, 0, none⟩) (es.length + 1) cap1) ∧ Kept w wr (fun k => k = g ∨ (Value.slice A0 n0 c0).ownBlock = some k ∨ b1 = k))) (fun s4 _ => (intOf s4).toNat)
    case atStart => exact ⟨es.length, es ++ [(x, came)], rfl, ⟨by simp, by simp⟩, ⟨rfl⟩, ⟨HST.out.1, HST.out.2.mono (fun k hk => hk.elim .inl (fun h => .inr (.inl h)))⟩⟩
    case round =>
      obtain ⟨i, cur, rfl, HL, HU, HS⟩ := hrel
      have hi1 := HL.out.1
      have hi2 := HL.out.2
      by_cases hp : 0 < i
      · have BR := fun (r : Bool) (hr : bef lt (cur.getD i (0, 0)) (cur.getD ((i - 1) / 2) (0, 0)) = r) => OK g B cur (came + 1) _ (i : Int) (((i : Int) - 1) / 2) r wr HS.out.1 (by omega) (by omega) (by omega) (by omega) (by rw [show ((i : Int)).toNat = i from by omega, show ((((i : Int) - 1) / 2)).toNat = (i - 1) / 2 from by omega]; exact hr)
        by_cases hb : bef lt (cur.getD i (0, 0)) (cur.getD ((i - 1) / 2) (0, 0)) = true
        · have br := Aside0.mk (BR true hb)
          clear BR
          have hd : 0 ≤ ((i : Int) - 1) / 2 ∧ ((i : Int) - 1) / 2 < cur.length := by omega
          go_wp2_with (first | (go_at_call 21; (with_reducible refine (br.out).mono ?_); rintro e w2 ⟨rfl, HB2⟩; have HS2 := Aside0.mk (HS.out.1.below HB2); have HB2' := Aside0.mk HB2; clear HB2) | (go_at_call 22; (with_reducible refine (swap_any g lf B cur (came + 1) _ (i : Int) (((i : Int) - 1) / 2) _ HS2.out (by omega) (by omega) hd.1 hd.2).mono ?_); rintro e w3 ⟨rfl, HI3, HK3⟩; have HS3 := Aside0.mk HI3; have HK3' := Aside0.mk HK3; clear HI3 HK3))
          go_roundw
          case rel => exact ⟨(i - 1) / 2, swp cur i ((i - 1) / 2), by rw [show ((i : Int) - 1) / 2 = (((i - 1) / 2 : Nat) : Int) from by omega], ⟨by rw [swp_length]; omega, by rw [swp_length]; omega⟩, ⟨by rw [← upF_step lt cur i hp hb]; exact HU.out⟩,
            ⟨by have := HS3.out; rwa [show ((i : Int)).toNat = i from by omega, show ((((i : Int) - 1) / 2)).toNat = (i - 1) / 2 from by omega] at this,
             (HS.out.2.then_ (Kept.of_below HB2'.out (fun _ => False)) (fun _ h => h.elim)).then_ HK3'.out (fun k hk => .inl (.inr (.inr (Option.some.inj hk))))⟩⟩
          case measure => simp [intOf]; omega
        · have hb' : bef lt (cur.getD i (0, 0)) (cur.getD ((i - 1) / 2) (0, 0)) = false := by simpa using hb
          have br := Aside0.mk (BR false hb')
          have HF := Aside0.mk (upF_stop lt cur i (fun h => hb h.2))
          clear BR hb hb'
          go_wp2_with (first | (go_at_call 21; (with_reducible refine (br.out).mono ?_); rintro e w2 ⟨rfl, HB2⟩; have HS2 := Aside0.mk (HS.out.1.below HB2); have HB2' := Aside0.mk HB2; clear HB2))
          go_end0
          refine ⟨rfl, _, by rw [← HU.out, HF.out]; exact HS2.out, ?_, ?_⟩
          · exact push_keep (HS.out.2.then_ (Kept.of_below HB2'.out (fun _ => False)) (fun _ h => h.elim)) HN.out
          · intro k hk
            exact (Option.some.inj hk) ▸ HN.out
      · have HF := Aside0.mk (upF_stop lt cur i (fun h => hp h.1))
        go_wp2
        go_end0
        refine ⟨rfl, _, by rw [← HU.out, HF.out]; exact HS.out.1, push_keep HS.out.2 HN.out, ?_⟩
        intro k hk
        exact (Option.some.inj hk) ▸ HN.out
end Go.Proofs.Ytchkeanjekoghaa.Hp
