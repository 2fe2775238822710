/- The store: Step. -/
import Derived.Test.YtcaonlddhbgnjaaSgSb
import Derived.Test.YtcaonlddhbgnjaaSgRk
namespace Go.Proofs.Ytcaonlddhbgnjaa.Mg
open Go.RowKit Go.Shelf Go.Proofs.Ytcaonlddhbgnjaa.Sg Go.Proofs.Ytcaonlddhbgnjaa.Hm Go.Proofs.Ytcaonlddhbgnjaa.Hc
attribute [local go_sem] Oper.semAt_some
set_option linter.unusedVariables false
set_option linter.unusedSimpArgs false

variable {B g W : Nat} {O : Nat → Prop} {most : Int} {v : Value} {P : Made} {dp : Option Addr} {D : List Row}
/-- The rows that come. -/
def comeL (W : Nat) (P : Made) (rs : List Row) : List Row := rs.filter fun r => decide (r.length = W) && !inP r P
theorem comeL_yes {W : Nat} {P : Made} {xs : List RowV} {x : RowV} (h1 : x.2.length = W) (h2 : inP x.2 P = false) : comeL W P (rowsOf (xs ++ [x])) = comeL W P (rowsOf xs) ++ [x.2] := by
  unfold comeL; rw [rowsOf_snoc, List.filter_append, List.filter_cons, if_pos (by simp [h1, h2])]; rfl
theorem comeL_no {W : Nat} {P : Made} {xs : List RowV} {x : RowV} (h : ¬ (x.2.length = W ∧ inP x.2 P = false)) : comeL W P (rowsOf (xs ++ [x])) = comeL W P (rowsOf xs) := by
  unfold comeL; rw [rowsOf_snoc, List.filter_append, List.filter_cons, if_neg (by simpa using h)]; simp
theorem comeL_length (W : Nat) (P : Made) (rs : List Row) : (comeL W P rs).length ≤ rs.length := List.length_filter_le _ _

/-- The last rows that came are others. -/
theorem StoreS.setDelta {w : World} {dq : Option Addr} {E : List Row} (h : StoreS w B O g W most v P dp D) (hE : SegAt w (fun b => O b ∧ Off v b ∧ b ≠ g) (.pointer dq) W E) (hsE : SS E) : StoreS (w.setCell ⟨g, 3, none⟩ (.pointer dq)) B O g W most v P dq E := by
  have hK : Kept w (w.setCell ⟨g, 3, none⟩ (.pointer dq)) (· = g) := (Kept.refl w (· = g)).setCell (.inl rfl) _
  have hst : Stays (fun b => O b ∧ Off v b ∧ b ≠ g) w (w.setCell ⟨g, 3, none⟩ (.pointer dq)) := hK.stays.mono (fun b hb _ => hb.2.2)
  exact ⟨blk_set _ h.blk, hK.stays.owns h.own (fun k hk e => h.nown (by rw [hk, e])), h.made.stays hst, hE.stays hst, h.base, h.nown, h.ss, hsE, h.wid, h.few, h.tot, h.nd⟩
theorem keep5 {w : World} {g : Nat} {c0 c1 c2 c3 c4 : Value} {T : TypeId} (h : w.heap[g]? = some (.cells #[c0, c1, c2, c3, c4] T (0, 0))) (x : Value) : (w.setCell ⟨g, 3, none⟩ x).cell? ⟨g, 0, none⟩ = some c0 :=
  (blk5_facts (c0 := c0) (c1 := c1) (c2 := c2) (c3 := x) (c4 := c4) (blk_set x h)).k0
/-- How many runs there are behind a step that made them n. -/
def runsN (most : Int) (n : Nat) : Nat := if 0 < most ∧ most < (n : Int) then 1 else n
/-- What a step makes of the runs: D are the rows that came. -/
structure Stepped (most : Int) (P P' : Made) (D : List Row) : Prop where
  mem : ∀ r, r ∈ allR P' ↔ r ∈ allR P ∨ r ∈ D
  len : (allR P').length = (allR P).length + D.length
  cnt : P'.length = runsN most (P.length + if D = [] then 0 else 1)
theorem allR_snoc (P : Made) (p : Option Addr) (D : List Row) : allR (P ++ [(p, D)]) = allR P ++ D := by simp [allR]
theorem Stepped.snoc {most : Int} {P : Made} {p : Option Addr} {D : List Row} (hD : D ≠ []) (hm : ¬ (0 < most ∧ most < ((P ++ [(p, D)]).length : Int))) : Stepped most P (P ++ [(p, D)]) D :=
  ⟨fun r => by rw [allR_snoc, List.mem_append], by rw [allR_snoc, List.length_append], by
    unfold runsN; rw [if_neg hD]
    rw [List.length_append] at hm ⊢
    simp only [List.length_cons, List.length_nil, Nat.zero_add] at hm ⊢
    rw [if_neg hm]⟩
theorem Stepped.same {most : Int} {P : Made} (hm : ¬ (0 < most ∧ most < (P.length : Int))) : Stepped most P P [] :=
  ⟨fun r => by simp, by simp, by unfold runsN; rw [if_pos rfl, Nat.add_zero, if_neg hm]⟩
theorem Stepped.one {most : Int} {P Q P' : Made} {D F : List Row} {q : Option Addr} (hQ : ∀ r, r ∈ allR Q ↔ r ∈ allR P ∨ r ∈ D) (hl : (allR Q).length = (allR P).length + D.length) (hc : Q.length = P.length + if D = [] then 0 else 1) (hm : 0 < most ∧ most < (Q.length : Int)) (hP : P' = [(q, F)]) (hF : ∀ r, r ∈ F ↔ r ∈ allR Q) (hFl : F.length = (allR Q).length) : Stepped most P P' D := by
  subst hP
  have e : allR [(q, F)] = F := by simp [allR]
  refine ⟨fun r => by rw [e, hF, hQ], by rw [e, hFl, hl], ?_⟩
  unfold runsN
  rw [← hc, if_pos hm]; rfl
/-- A run more: behind the append and both stores. -/
theorem StoreS.push {w w1 : World} {o : Obj} {v1 : Value} (h : StoreS w B O g W most v P dp D) (hdp : dp ∉ P.map (·.1)) (hnd : ∀ r ∈ D, r ∉ allR P) (hfew : P.length + 1 < 1000) (htot : (allR P).length + D.length < 100000)
    (hg : ((w.alloc o).drew).grownBy w1 v.ownBlock) (ho : w1.ownsRow B 44 1 v1 (P.length + 1) (ptrs P ++ [.pointer dp])) (hn : ∀ k, v1.ownBlock = some k → v.ownBlock = some k ∨ w.heap.size ≤ k) :
    (w1.setCell ⟨g, 2, none⟩ v1).heap[g]? = some (.cells #[.int .i64 W, .int .i64 most, v1, .pointer dp, .int .i64 (allR P).length] 85 (0, 0)) ∧ SegAt (w1.setCell ⟨g, 2, none⟩ v1) (fun _ => True) (.pointer dp) W D ∧ Kept w (w1.setCell ⟨g, 2, none⟩ v1) (fun k => k = g ∨ v.ownBlock = some k) ∧
    StoreS ((w1.setCell ⟨g, 2, none⟩ v1).setCell ⟨g, 4, none⟩ (.int .i64 ((allR P).length + D.length : Nat))) B O g W most v1 (P ++ [(dp, D)]) dp D ∧ Kept w ((w1.setCell ⟨g, 2, none⟩ v1).setCell ⟨g, 4, none⟩ (.int .i64 ((allR P).length + D.length : Nat))) (fun k => k = g ∨ v.ownBlock = some k) := by
  have hgl := (Array.getElem?_eq_some_iff.1 h.blk).1
  have hb1 := after_blk h.blk hg (fun e => h.nown e.symm)
  obtain ⟨b1, cap1, rfl, hB1, hl1, cur1, hc1⟩ := own_formN ho
  have hbg : b1 ≠ g := by
    rintro rfl
    rw [hc1] at hb1
    injection hb1 with hb1
    injection hb1 with _ hb1
    exact absurd hb1 (by decide)
  have hb2 := blk_set (j := 2) (.slice (some ⟨b1, 0, none⟩) (P.length + 1) cap1) hb1
  have k1 : Kept w w1 (fun k => k = g ∨ v.ownBlock = some k) := Kept.of_grown hg (((Kept.refl w _).alloc o).drew) (fun k hk => .inl (.inr hk))
  have k2 := k1.setCell (p := ⟨g, 2, none⟩) (.inl (.inl rfl)) (.slice (some ⟨b1, 0, none⟩) (P.length + 1) cap1)
  have k4 := k2.setCell (p := ⟨g, 4, none⟩) (.inl (.inl rfl)) (.int .i64 ((allR P).length + D.length : Nat))
  have hmv : ∀ {S : Nat → Prop} {WF : World} (x : Value) (L : List Row), Kept w WF (fun k => k = g ∨ v.ownBlock = some k) → SegAt w (fun b => O b ∧ Off v b ∧ b ≠ g) x W L → SegAt WF (fun b => O b ∧ Off (.slice (some ⟨b1, 0, none⟩) (P.length + 1) cap1) b ∧ b ≠ g) x W L := fun x L hk hx =>
    ((hx.mono (ok2 := fun b => (O b ∧ Off v b ∧ b ≠ g) ∧ b < w.heap.size) (fun b hb hl => ⟨hb, hl⟩)).stays (hk.stays.mono (fun b hb _ e => e.elim hb.1.2.2 hb.1.2.1))).mono (fun b hb _ => ⟨hb.1.1, fun e => (hn b e).elim hb.1.2.1 (fun h9 => by have := hb.2; omega), hb.1.2.2⟩)
  refine ⟨hb2, (hmv (S := fun _ => True) _ _ k2 h.del).mono (fun _ _ _ => trivial), k2, ?_, k4⟩
  refine ⟨?_, ?_, ⟨fun q hq => ?_, ?_⟩, hmv (S := fun _ => True) _ _ k4 h.del, h.base, fun e => hbg (Option.some.inj e).symm, fun q hq => ?_, h.ssD, h.wid, by rw [List.length_append]; exact hfew, by rw [allR_snoc, List.length_append]; exact htot, ?_⟩
  · rw [allR_snoc, List.length_append]
    exact blk_set (j := 4) _ hb2
  · have := own_set_other (j := 4) (.int .i64 ((allR P).length + D.length : Nat)) (own_set_other (j := 2) (.slice (some ⟨b1, 0, none⟩) (P.length + 1) cap1) ho hbg) hbg
    rw [List.length_append]
    unfold ptrs at this ⊢
    rw [List.map_append]
    exact this
  · rcases List.mem_append.1 hq with hq | hq
    · exact hmv (S := fun _ => True) _ _ k4 (h.made.seg q hq)
    · rw [List.mem_singleton.1 hq]; exact hmv (S := fun _ => True) _ _ k4 h.del
  · rw [List.map_append]
    exact List.nodup_append.2 ⟨h.made.nd, by simp, fun x hx y hy e => by
      rw [List.map_cons, List.map_nil, List.mem_singleton] at hy
      exact hdp (by have h9 : x = dp := e.trans hy; rw [← h9]; exact hx)⟩
  · rcases List.mem_append.1 hq with hq | hq
    · exact h.ss q hq
    · rw [List.mem_singleton.1 hq]; exact h.ssD
  · rw [allR_snoc]
    exact List.nodup_append.2 ⟨h.nd, h.ssD.nodup, fun x hx y hy e => hnd y hy (by rw [← e]; exact hx)⟩
/-- The list of what was put off is put aside. -/
theorem StoreS.finish {w W9 w7 : World} {D9 : Nat} {v7 : Value} {P7 : Made} {dq : Option Addr} {DN : List Row} (h7 : StoreS w7 B (fun b => O b ∧ b ≠ D9) g W most v7 P7 dq DN) (hb : Below w.heap.size w W9) (hk : Kept W9 w7 (fun k => k = g ∨ v.ownBlock = some k)) (hD : w.heap.size ≤ D9) (hg : g < w.heap.size) (hv7 : ∀ k, v7.ownBlock = some k → k ≠ D9) :
    StoreS (w7.putObj D9 (.deferred none)) B O g W most v7 P7 dq DN ∧ Kept w (w7.putObj D9 (.deferred none)) (fun k => k = g ∨ v.ownBlock = some k) := by
  have hp := Keeps.putObj w7 D9 (.deferred none)
  have hk2 : Kept w7 (w7.putObj D9 (.deferred none)) (· = D9) := ⟨hp.size, fun i hi hn => hp.block i hi hn, hp.os, hp.tape, hp.output⟩
  refine ⟨(h7.kept hk2 (fun b hb => hb.2) (by omega) hv7).mono (fun b hb _ => hb.1), ?_⟩
  exact ((Kept.of_below hb _).then_ hk (fun k hk => .inl hk)).then_ hk2 (fun k hk => .inr (by omega))
theorem news1s (w : World) (a : Value) (T : TypeId) : ∀ j u, [a][j]? = some u → ((w.alloc (.cells #[a] T)).drew).cell? ((⟨w.heap.size, 0, none⟩ : Addr).add j) = some u := by
  intro j u hj
  match j, hj with
  | 0, hj => simp at hj; subst hj; simp [Addr.add]
theorem two_set {w1 : World} {g bx : Nat} {c0 c1 c2 c3 c4 x y : Value} {T : TypeId} (hn : ¬ bx = g) (hc : w1.cell? ⟨bx, 0, none⟩ = some y) (hb : w1.heap[g]? = some (.cells #[c0, c1, c2, c3, c4] T (0, 0))) : (w1.setCell ⟨g, 2, none⟩ x).cell? ⟨bx, 0, none⟩ = some y ∧ (w1.setCell ⟨g, 2, none⟩ x).cell? ⟨g, 3, none⟩ = some c3 :=
  ⟨((Kept.refl w1 (· = g)).setCell (p := ⟨g, 2, none⟩) (.inl rfl) _).cell hc (fun e => hn e), (blk5_facts (c0 := c0) (c1 := c1) (c2 := x) (c3 := c3) (c4 := c4) (blk_set x hb)).k3⟩
theorem two_set4 {w1 : World} {g bx : Nat} {c0 c1 c2 c3 c4 y : Value} {T : TypeId} (x : Value) (hn : ¬ bx = g) (hc : w1.cell? ⟨bx, 0, none⟩ = some y) (hb : w1.heap[g]? = some (.cells #[c0, c1, c2, c3, c4] T (0, 0))) : (w1.setCell ⟨g, 4, none⟩ x).drew.cell? ⟨bx, 0, none⟩ = some y ∧ (w1.setCell ⟨g, 4, none⟩ x).drew.cell? ⟨g, 3, none⟩ = some c3 :=
  ⟨((Kept.refl w1 (· = g)).setCell (p := ⟨g, 4, none⟩) (.inl rfl) _).cell hc (fun e => hn e), (blk5_facts (c0 := c0) (c1 := c1) (c2 := c2) (c3 := c3) (c4 := x) (blk_set x hb)).k3⟩
theorem own_newer {w : World} {o : Obj} {v v1 : Value} (h : v1.ownBlock = v.ownBlock ∨ v1.ownBlock = some ((w.alloc o).drew).heap.size) : ∀ k, v1.ownBlock = some k → v.ownBlock = some k ∨ w.heap.size ≤ k := fun k hk => by
  rcases h with h | h
  · exact .inl (by rw [← h]; exact hk)
  · rw [h] at hk
    have := Option.some.inj hk
    simp at this
    exact .inr (by omega)
theorem box_after {w w1 : World} {o : Obj} {bx : Nat} {x : Value} {row : Option Nat} (hc : w.cell? ⟨bx, 0, none⟩ = some x) (hg : ((w.alloc o).drew).grownBy w1 row) (hne : row ≠ some bx) : w1.cell? ⟨bx, 0, none⟩ = some x :=
  (Stays.of_grown hg).cell hne (below_cell0 (below_drew (below_alloc0 (Below.refl _ _) o)) hc)
/-- A value's own block is an old one, or a new one. -/
theorem own_old {w : World} {v7 vq v : Value} {m : Nat} (h7 : v7.ownBlock = vq.ownBlock ∨ ∃ k, v7.ownBlock = some k ∧ m ≤ k) (hq : ∀ k, vq.ownBlock = some k → v.ownBlock = some k ∨ m ≤ k) : ∀ k, v7.ownBlock = some k → v.ownBlock = some k ∨ m ≤ k := fun k hk => by
  rcases h7 with h | ⟨j, h1, h2⟩
  · exact hq k (by rw [← h]; exact hk)
  · rw [h1] at hk
    exact .inr (by have := Option.some.inj hk; omega)
theorem own_ne {p : Prop} {k a b D : Nat} (h : p ∨ b ≤ k) (hp : p → k < a) (h1 : a ≤ D) (h2 : D < b) (e : k = D) : False := by
  rcases h with h | h
  · have := hp h; omega
  · omega
set_option maxRecDepth 100000 in
set_option maxHeartbeats 4000000 in
theorem sstep_any (w : World) (okx : Nat → Prop) (p : Option Addr) (Wx : Nat) (a : List Row) (h : StoreS w B O g W most v P dp D) (hx : SegN w okx (.pointer p) Wx a) (hla : a.length < 10000) (hO : ∀ b, w.heap.size ≤ b → O b) (hfew : P.length + 1 < 1000) (htot : (allR P).length + a.length < 100000) :
    Calls Try.prog 25 #[.pointer (some ⟨g, 0, none⟩), .pointer p] w fun e w' => ∃ v' P' dp', e = .returned (.int .i64 (norm W (comeL W P a)).length) ∧ StoreS w' B O g W most v' P' dp' (norm W (comeL W P a)) ∧ Stepped most P P' (norm W (comeL W P a)) ∧ Kept w w' (fun k => k = g ∨ v.ownBlock = some k) ∧ (∀ k, v'.ownBlock = some k → v.ownBlock = some k ∨ w.heap.size ≤ k) := by
  refine (callsIn_wide (n := 6)).1 ?_
  obtain ⟨ir, hir, hr0, hr1, hr2⟩ := info_parts info_rowR
  obtain ⟨is, his, hs0, hs1, hs2⟩ := info_parts info_pseg
  have H := Aside0.mk h
  have HX := Aside0.mk hx
  clear h hx
  obtain ⟨W1, hW1⟩ : ∃ W1, (w.alloc (.cells #[.pointer (some ⟨g, 0, none⟩)] 49)).alloc (.cells #[.slice none 0 0] 42) = W1 := ⟨_, rfl⟩
  have AL := Aside0.mk (all_any p W1)
  have HW1 := Aside0.mk hW1
  refine callsIn_of_wp_marks Try.func25 rfl trivial ?_ rfl
  simp only [Try.ntmps25, List.size_toArray, List.length_cons, List.length_nil, Nat.reduceAdd, Nat.reduceSub, Array.replicate_succ, Array.replicate_zero, List.push_toArray, List.append_toArray, List.nil_append, List.cons_append]
  clear hW1
  gi_wp2_with (refine ⟨trivial, ?_⟩; rw [HW1.out]; gi_at_call 53; refine (callsIn_wide.2 AL.out).mono ?_; rintro e w' ⟨rfl, rfl⟩)
  have hW1 := HW1.out
  have HZ := Aside0.mk (show W1.heap.size = w.heap.size + 2 by rw [← hW1]; simp)
  have hb1 : Below w.heap.size w W1 := by rw [← hW1]; exact below_alloc0 (below_alloc0 (Below.refl _ _) _) _
  have x0 : Boxed W1 w.heap.size 49 (.pointer (some ⟨g, 0, none⟩)) := by rw [← hW1]; exact (Boxed.new w _ _).alloc _
  have x1 : Boxed W1 (w.heap.size + 1) 42 (.slice none 0 0) := by rw [← hW1]; have := Boxed.new (w.alloc (.cells #[.pointer (some ⟨g, 0, none⟩)] 49)) 42 (.slice none 0 0); rwa [World.size_alloc] at this
  clear hW1 AL HW1
  have hbb := below_alloc0 (Below.refl W1.heap.size W1) (.cells #[.pointer p] 44)
  have hbw := below_trans0 hb1 hbb
  refine wpIn_rangeU (gf := 79) (lb := #[.pointer (some ⟨W1.heap.size, 0, none⟩)]) (n0 := w.heap.size) (U0 := (· = W1.heap.size)) (X := RowX a) (S := AllS a) (Sp := AllSp a) rfl (enters_of Try.func79 (by kernel_rfl) rfl)
    (all1_in _ w.heap.size W1.heap.size (· < w.heap.size) _ Wx a _ (Boxed.new W1 44 _) ((HX.out.mono (fun b _ hl => hl)).below hbw) (fun b hb => hb)) (by have := HZ.out; simp; omega) (fun x => rfl) (fun b hb => by subst hb; simp) RowX.kept
    (fun pre U W' => (ListI w.heap.size w.heap.size (w.heap.size + 1) w (fun xs => comeL W P (rowsOf xs)) pre U W') ∧ BoxI w.heap.size 49 (.pointer (some ⟨g, 0, none⟩)) pre U W')
    (fun _ _ _ _ => False)
    (Abid.and (ListI.abid _ _ _ _ _) (BoxI.abid _ _ _))
    (fun _ _ _ _ _ _ h _ _ => h)
    ⟨⟨.slice none 0 0, [], ⟨x1.alloc _, World.ownsRow_nil _ _ _ _, fun j hj => by simp [comeL, rowsOf] at hj, fun b hb => by simp [Value.ownBlock] at hb, fun e => by have := HZ.out; omega, by omega, fun b e => by have := HZ.out; omega, Nat.le_refl _, hbw⟩, by have := HZ.out; simp; omega⟩, ⟨x0.alloc _, fun e => by have := HZ.out; omega⟩⟩
    (fun x => { tmps := #[.pointer (some ⟨g, 0, none⟩), .pointer p, .pointer (some ⟨w.heap.size, 0, none⟩), undef, .int .i64 0, .pointer (some ⟨w.heap.size + 1, 0, none⟩), x.1, .pointer p, .func (.func 79) #[] #[.pointer (some ⟨W1.heap.size, 0, none⟩)], x.1, undef, undef, undef, undef, undef, undef, undef, undef, undef, undef, undef, undef, undef, undef, undef, undef, undef, undef, undef, undef, undef, undef, undef, undef, undef, undef, undef, undef, undef, undef, undef, undef, undef, undef, undef, undef, undef, undef, undef, undef, undef, undef, undef, undef, undef, undef, undef, undef, undef, undef, undef, undef, undef, undef, undef, undef, undef, undef, undef, undef, undef, undef, undef, undef, undef, undef, undef, undef, undef, undef, undef, undef, undef, undef, undef, undef, undef, undef, undef, undef, undef], defers := [] }) ?assign ?body ?done ?stop
  case assign =>
    intro l x W' K hK
    simp only [encR]
    gi_wp2
    exact hK
  case body =>
    rintro l pre x UA U A W9 ⟨⟨v0, cs, hL, hnA⟩, hX0⟩ hk hv hU hx
    obtain ⟨hxi, hxm, hxr⟩ := hx
    have hpl : pre.length < a.length := (List.getElem?_eq_some_iff.1 hxi).1
    have PY := Aside0.mk (fun h1 h2 => comeL_yes (W := W) (P := P) (xs := pre) (x := x) h1 h2)
    have PN := Aside0.mk (fun h => comeL_no (W := W) (P := P) (xs := pre) (x := x) h)
    obtain ⟨xv, r⟩ := x
    obtain ⟨Ax, cx, hxv, _⟩ := hxr.form
    simp only at hxv PY PN
    subst hxv
    obtain ⟨Av, cv, hvf⟩ := own_form hL.own
    subst hvf
    have hLW := hL.abid hk hv hnA
    have hX0 := BoxI.abid _ _ _ _ _ _ _ _ hX0 hk hv
    have hxr2 := reads_row.mono (ok2 := fun b' => w.heap.size ≤ b' ∧ Off (.slice Av (comeL W P (rowsOf pre)).length cv) b' ∧ b' ≠ w.heap.size + 1 ∧ ¬ U b') hxr (fun b' hb _ => ⟨Nat.le_trans hnA hb.1, fun e => by have := (hL.own.lt b' e).2; have := hb.1; omega, fun e => by have := hL.box.lt; have := hb.1; omega, hb.2⟩)
    have HLW := Aside0.mk hLW
    have HXR := Aside0.mk hxr2
    have HU := Aside0.mk hU
    have HX0 := Aside0.mk hX0
    have hc := hLW.box.cell
    have hf := hLW.box.frozen
    have hc0 := hX0.1.cell
    have hlp : (comeL W P (rowsOf pre)).length ≤ pre.length := by have := comeL_length W P (rowsOf pre); have h9 : (rowsOf pre).length = pre.length := List.length_map _; omega
    have hws := hk.size
    have HN := Aside0.mk (Nat.le_trans hnA hws)
    have hst := H.out.below hLW.below
    obtain ⟨k0, k1, k2, k3, k4, _, _, _⟩ := blk5_facts hst.blk
    have HA := Aside0.mk (shas_any W9 _ _ r hst hxr)
    obtain ⟨bi, hbi⟩ : ∃ bi, inP r P = bi := ⟨_, rfl⟩
    rw [hbi] at HA
    have H63 := Aside0.mk (show (comeL W P (rowsOf pre)).length + 1 ≤ maxLen by unfold maxLen; omega)
    have HBY := Aside0.mk (show ((comeL W P (rowsOf pre)).length + 1) * 24 ≤ 140737488355328 by omega)
    have HXL := Aside0.mk hxr
    clear hL hk hv hU hLW hX0 hxr hxr2 hxi hxm hst hlp hpl
    obtain ⟨lr, hlr⟩ : ∃ lr, r.length = lr := ⟨_, rfl⟩
    have HLR := Aside0.mk hlr
    rw [hlr] at HA HXR HXL PY PN ⊢
    clear hlr
    by_cases hw : lr = W
    · subst hw
      cases bi with
      | false =>
        have PY2 := Aside0.mk (PY.out rfl hbi)
        clear PY PN
        gi_wp2_with (first | (refine ⟨trivial, ?_⟩; gi_at_call 54; refine (CallsIn.inRound l (callsIn_wide.2 HA.out)).mono ?_; rintro e w4 ⟨rfl, hb4⟩; have B4 := Aside0.mk hb4; have q0 : w4.cell? ⟨w.heap.size, 0, none⟩ = some (.pointer (some ⟨g, 0, none⟩)) := below_cell0 hb4 hc0; clear hb4; have HL4 := Aside0.mk (HLW.out.abid (V := U) (Keeps.all B4.out _) (fun b' hb => .inl hb) HN.out); have HXR4 := Aside0.mk (SlAt.below reads_int HXR.out B4.out); have HX04 := Aside0.mk (HX0.out.kept (pre2 := pre ++ [(.slice Ax lr cx, r)]) (Keeps.all B4.out (fun _ => True)) trivial); have c4 := HL4.out.box.cell; have f4 := HL4.out.box.frozen; have hs4 := B4.out.size; have hw4 := HN.out; have hsz := Aside0.mk (fun o => (show w.heap.size ≤ (w4.alloc o).heap.size by simp; omega)); have hU4 := Aside0.mk (show ∀ b', U b' → b' < w4.heap.size from fun b' hb => Nat.lt_of_lt_of_le (HU.out b' hb) hs4)) | (gi_at_builtin; refine wpListIn_append_at _ rfl _ _ 42 rfl w.heap.size 46 ir (.slice none 0 0) 1 24 Try.underlying42 hir hr0 hr1 hr2 rfl (by decide) _ _ _ rfl (HL4.out.own.alloc _) ⟨w4.heap.size, 0, none⟩ 1 1 [Value.slice Ax lr cx] rfl rfl (cell_one_new _ _ _) (by simp [Value.oneCell']) H63.out HBY.out (hsz.out _) ?_; intro v' w1 ho hg hb; obtain ⟨b', c', rfl⟩ := own_some ho; have HP := Aside0.mk (HL4.out.push HXR4.out ho hg hb hU4.out); have hbk := (((HL4.out.box.alloc _).kept hg HL4.out.notOwn)); have hc1 := hbk.cell; have hf1 := hbk.frozen; clear ho hg hb hbk))
        have HP1 := HP.out.1
        rw [← PY2.out] at HP1
        exact ⟨(Keeps.all B4.out (fun b => b < w.heap.size ∨ U b)).trans HP.out.2.1 (fun _ _ h => h), ⟨_, _, HP1, Nat.le_trans (Nat.le_trans hw4 hs4) HP.out.2.1.size⟩, HX04.out.kept HP.out.2.2 (HL4.out.offBox HX04.out.1 (by decide) (by omega))⟩
      | true =>
        have PN2 := Aside0.mk (PN.out (fun h => by rw [h.2] at hbi; cases hbi))
        clear PY PN
        gi_wp2_with (refine ⟨trivial, ?_⟩; gi_at_call 54; refine (CallsIn.inRound l (callsIn_wide.2 HA.out)).mono ?_; rintro e w4 ⟨rfl, hb4⟩; have B4 := Aside0.mk hb4; have q0 : w4.cell? ⟨w.heap.size, 0, none⟩ = some (.pointer (some ⟨g, 0, none⟩)) := below_cell0 hb4 hc0; clear hb4; have HL4 := Aside0.mk (HLW.out.abid (V := U) (Keeps.all B4.out _) (fun b' hb => .inl hb) HN.out); have HXR4 := Aside0.mk (SlAt.below reads_int HXR.out B4.out); have HX04 := Aside0.mk (HX0.out.kept (pre2 := pre ++ [(.slice Ax lr cx, r)]) (Keeps.all B4.out (fun _ => True)) trivial); have c4 := HL4.out.box.cell; have f4 := HL4.out.box.frozen; have hs4 := B4.out.size; have hw4 := HN.out; have hsz := Aside0.mk (fun o => (show w.heap.size ≤ (w4.alloc o).heap.size by simp; omega)); have hU4 := Aside0.mk (show ∀ b', U b' → b' < w4.heap.size from fun b' hb => Nat.lt_of_lt_of_le (HU.out b' hb) hs4))
        have HP1 := HL4.out
        rw [← PN2.out] at HP1
        exact ⟨Keeps.all B4.out _, ⟨_, _, HP1, Nat.le_trans hw4 hs4⟩, HX04.out⟩
    · have dw : ((lr : Int) == (W : Int)) = false := by rw [beq_eq_false_iff_ne]; omega
      have PN2 := Aside0.mk (PN.out (fun h => hw h.1))
      clear PY PN
      have HX04 := Aside0.mk (HX0.out.kept (pre2 := pre ++ [(.slice Ax lr cx, r)]) (Keeps.refl (fun _ => True) _) trivial)
      gi_wp2
      refine ⟨trivial, ?_⟩
      gi_wp2
      have HP1 := HLW.out
      rw [← PN2.out] at HP1
      exact ⟨Keeps.refl _ _, ⟨_, _, HP1, HN.out⟩, HX04.out⟩
  case done =>
    rintro D9 ys U W9 hS ⟨⟨v0, cs, hL, hnA⟩, hX0⟩ hK hUD hD
    have hc := hL.box.cell
    have e9 : rowsOf ys = a := hS
    have hcl := comeL_length W P a
    simp only [e9] at hL
    have HBW := Aside0.mk hL.below
    have hDw : w.heap.size ≤ D9 := by have := hbw.size; omega
    have hD9 : D9 < W9.heap.size := (Array.getElem?_eq_some_iff.1 hK).1
    have hgl := (Array.getElem?_eq_some_iff.1 H.out.blk).1
    have H' := Aside0.mk (H.out.mono (O2 := fun b => O b ∧ b ≠ D9) (fun b hb hl => ⟨hb, by omega⟩))
    have HO' := Aside0.mk (show ∀ b, W9.heap.size ≤ b → O b ∧ b ≠ D9 from fun b hb => ⟨hO b (by omega), by omega⟩)
    have RO := Aside0.mk (show RowsAt W9 (fun b => w.heap.size ≤ b) v0 (comeL W P a) from SlAt.of_own0 (E := RowAt) (xs := comeL W P a) hL.own rfl (fun b _ hb => hb) (by omega) (fun j hj u hu => reads_row.mono (hL.el j hj u hu) (fun b hb _ => hb.1)))
    have hst := H'.out.below hL.below
    have HST := Aside0.mk hst
    have hc0 := hX0.1.cell
    have HK := Aside0.mk hK
    obtain ⟨k0, k1, k2, k3, k4, f2, f3, f4⟩ := blk5_facts hst.blk
    obtain ⟨A0, c0, hv0⟩ := own_form hL.own
    subst hv0
    have MK := Aside0.mk (make_any W9.drew _ _ W _ (SlAt.below reads_row RO.out (below_drew (Below.refl _ _))) H.out.wid (by omega))
    have hn1 : ¬ w.heap.size = g := by omega
    have hn2 : ¬ w.heap.size + 1 = g := by omega
    have hn3 : ¬ g = w.heap.size := by omega
    have hn4 : ¬ g = w.heap.size + 1 := by omega
    have hD9g : D9 ≠ g := by omega
    clear hL hS hK e9 hst
    gi_wp2
    refine wpIn_wide.2 ?_
    go_region_held3 (fun w' => w'.cell? ⟨w.heap.size, 0, none⟩ = some (.pointer (some ⟨g, 0, none⟩)) ∧ w'.cell? ⟨w.heap.size + 1, 0, none⟩ = some (.slice A0 (comeL W P a).length c0) ∧ w'.cell? ⟨g, 0, none⟩ = some (.int .i64 W)) (first | exact ⟨hc0, hc, k0⟩ | go_keep) (((with_reducible refine (MK.out).mono ?_); rintro e w4 ⟨v4, rfl, S4, B4⟩; obtain ⟨gd, rfl, hgd1, hgd2⟩ := SegAt.ptrLt S4; have S4 := Aside0.mk S4; have HB4 := Aside0.mk ((below_drew (Below.refl _ _)).trans B4); have hst4 := (HST.out.below HB4.out); obtain ⟨m0, m1, m2, m3, m4, g2, g3, g4⟩ := blk5_facts hst4.blk; have hcx0 := below_cell0 HB4.out hc0; have hcx := below_cell0 HB4.out hc; have hz9 := keep5 hst4.blk; clear B4 hst4))
    all_goals
      have hgd : W9.heap.size ≤ gd := by simpa using hgd1
      have HD6 := Aside0.mk (StoreS.setDelta (HST.out.below HB4.out) (dq := some ⟨gd, 0, none⟩) (E := norm W (comeL W P a)) (S4.out.mono (fun b hb hl => by
        have h1 : W9.heap.size ≤ b := hb
        have h2 : w.heap.size ≤ W9.heap.size := hnA
        exact ⟨HO'.out b h1, fun e => by have := (H.out.own.lt b e).2; omega, by omega⟩)) (SS_norm _ _))
      have hcy0 : (w4.setCell ⟨g, 3, none⟩ (.pointer (some ⟨gd, 0, none⟩))).cell? ⟨w.heap.size, 0, none⟩ = some (.pointer (some ⟨g, 0, none⟩)) := ((Kept.refl w4 (· = g)).setCell (p := ⟨g, 3, none⟩) (.inl rfl) _).cell hcx0 (fun e => hn1 e)
      have HK6 := Aside0.mk (show Kept W9 (w4.setCell ⟨g, 3, none⟩ (.pointer (some ⟨gd, 0, none⟩))) (· = g) from (Kept.of_below HB4.out (· = g)).setCell (p := ⟨g, 3, none⟩) (.inl rfl) _)
      obtain ⟨W6, hW6⟩ : ∃ W6, w4.setCell ⟨g, 3, none⟩ (.pointer (some ⟨gd, 0, none⟩)) = W6 := ⟨_, rfl⟩
      rw [hW6] at HD6 hcy0 HK6 ⊢
      have hnl := norm_length W (comeL W P a)
      have HNM := Aside0.mk (show ∀ r ∈ norm W (comeL W P a), r ∉ allR P from fun r hr hin => by
        have h1 := ((mem_norm _ _ _).1 hr).1
        unfold comeL at h1
        have h2 := (List.mem_filter.1 h1).2
        have h3 := (inP_iff r P).2 hin
        rw [h3] at h2
        simp at h2)
      have HNP := Aside0.mk (show (some ⟨gd, 0, none⟩ : Option Addr) ∉ P.map (·.1) from fun h => by
        obtain ⟨q, hq, e⟩ := List.mem_map.1 h
        obtain ⟨k, h1, _, h3⟩ := SegAt.ptrLt (H.out.made.seg q hq)
        rw [e] at h1
        injection h1 with h1
        injection h1 with h1
        injection h1 with h1
        omega)
      obtain ⟨DN, hDN⟩ : ∃ DN, norm W (comeL W P a) = DN := ⟨_, rfl⟩
      rw [hDN] at HD6 hnl HNM
      have HDN := Aside0.mk hDN
      have HDD := Aside0.mk ((HK6.out.blk D9 hD9 hD9g).trans HK.out)
      have hW69 := HK6.out.size
      have hb6 : w.heap.size < W6.heap.size := by omega
      have hg6 : g < W6.heap.size := by omega
      have LN6 := Aside0.mk (len_any W6 _ _ _ _ HD6.out.del)
      obtain ⟨r0, r1, r2, r3, r4, e2, e3, e4⟩ := blk5_facts HD6.out.blk
      have hDl : DN.length < 10000 := by omega
      clear hW6 hDN hcx0 hcx m0 m1 m2 m3 m4 g2 g3 g4 hz9 S4 HB4 RO HST MK hc0 hc k0 k1 k2 k3 k4 f2 f3 f4 HK
      by_cases hd : 0 < DN.length
      · have hdi : (0 : Int) < (DN.length : Int) := by omega
        have hDne : DN ≠ [] := by intro e; rw [e] at hd; simp at hd
        obtain ⟨A1, c1, hv1⟩ := own_form HD6.out.own
        subst hv1
        have PU := Aside0.mk (fun (o : Obj) (w1 : World) (v1 : Value) hg ho hn => HD6.out.push (w1 := w1) (o := o) (v1 := v1) HNP.out HNM.out hfew (by omega) hg ho hn)
        have Q63 := Aside0.mk (show P.length + 1 ≤ maxLen by unfold maxLen; omega)
        have QB := Aside0.mk (show (P.length + 1) * 8 ≤ 140737488355328 by omega)
        have hBW6 : B ≤ W6.heap.size := by have := H.out.base; omega
        have HOW := Aside0.mk HD6.out.own
        have hvb : (Value.slice A1 P.length c1).ownBlock ≠ some w.heap.size := fun e => Nat.lt_irrefl _ (H.out.own.lt _ e).2
        gi_wp2_with (refine ⟨trivial, ?_⟩; gi_at_call 18; refine (callsIn_wide.2 LN6.out).mono ?_; rintro e w' ⟨rfl, rfl⟩)
        have mo : Try.prog.follows .mixedOrders = true := by kernel_rfl
        have OW6 := Aside0.mk (fun o => (Stays.alloc (fun _ => True) W6.drew o).owns ((Stays.drew (fun _ => True) W6).owns HOW.out (fun _ _ => trivial)) (fun _ _ => trivial))
        have SA6 := Aside0.mk (fun o => (show (W6.drew.alloc o).cell? ⟨w.heap.size, 0, none⟩ = some (.pointer (some ⟨g, 0, none⟩)) ∧ (W6.drew.alloc o).cell? ⟨g, 3, none⟩ = some (.pointer (some ⟨gd, 0, none⟩)) from ⟨below_cell0 (below_alloc (below_drew (Below.refl _ _)) (by simp) o) hcy0, below_cell0 (below_alloc (below_drew (Below.refl _ _)) (by simp) o) r3⟩))
        have CA6 := Aside0.mk (fun o => (show (W6.drew.alloc o).cell? ⟨g, 2, none⟩ = some (.slice A1 P.length c1) from below_cell0 (below_alloc (below_drew (Below.refl _ _)) (by simp) o) r2))
        refine wpIn_wide.2 ?_
        refine wp_region_noPanic ?_
        refine wp_region_held_drew (S := fun w' => w'.cell? ⟨w.heap.size, 0, none⟩ = some (.pointer (some ⟨g, 0, none⟩)) ∧ w'.cell? ⟨g, 3, none⟩ = some (.pointer (some ⟨gd, 0, none⟩))) mo (⟨hcy0, r3⟩) (fun hHeld => ?_)
        refine takeH (i := 0) (v := ?_) rfl rfl (by kernel_rfl) (by kernel_rfl) (by kernel_rfl) (fun _ _ _ h => h) (by rfl) ?_ hHeld ?_
        rotate_left
        · (intro w hSw); (try dsimp only at hSw); go_simp; try with_reducible rfl
        try simp only [List.setIfInBounds_toArray, List.set_cons_zero, List.set_cons_succ]
        refine takeH (i := 1) (v := ?_) rfl rfl (by kernel_rfl) (by kernel_rfl) (by kernel_rfl) (fun _ _ _ h => h) (by rfl) ?_ hHeld ?_
        rotate_left
        · (intro w hSw); (try dsimp only at hSw); go_simp; try with_reducible rfl
        try simp only [List.setIfInBounds_toArray, List.set_cons_zero, List.set_cons_succ]
        refine takeH (i := 2) (v := ?_) rfl rfl (by kernel_rfl) (by kernel_rfl) (by kernel_rfl) (fun _ _ _ h => h) (by rfl) ?_ hHeld ?_
        rotate_left
        · (intro w hSw); (try dsimp only at hSw); go_simp; try with_reducible rfl
        try simp only [List.setIfInBounds_toArray, List.set_cons_zero, List.set_cons_succ]
        refine takeH (i := 3) (v := ?_) rfl rfl (by kernel_rfl) (by kernel_rfl) (by kernel_rfl) (fun _ _ _ h => h) (by rfl) ?_ hHeld ?_
        rotate_left
        · (intro w hSw); (try dsimp only at hSw); go_simp; try with_reducible rfl
        try simp only [List.setIfInBounds_toArray, List.set_cons_zero, List.set_cons_succ]
        refine takeH (i := 5) (v := ?_) rfl rfl (by kernel_rfl) (by kernel_rfl) (by kernel_rfl) (fun _ _ _ h => h) (by rfl) ?_ hHeld ?_
        rotate_left
        · (intro w hSw); (try dsimp only at hSw); go_simp; try with_reducible rfl
        try simp only [List.setIfInBounds_toArray, List.set_cons_zero, List.set_cons_succ]
        refine takeH (i := 6) (v := ?_) rfl rfl (by kernel_rfl) (by kernel_rfl) (by kernel_rfl) (fun _ _ _ h => h) (by rfl) ?_ hHeld ?_
        rotate_left
        · (intro w hSw); (try dsimp only at hSw); go_simp; try with_reducible rfl
        try simp only [List.setIfInBounds_toArray, List.set_cons_zero, List.set_cons_succ]
        refine takeH (i := 7) (v := ?_) rfl rfl (by kernel_rfl) (by kernel_rfl) (by kernel_rfl) (fun _ _ _ h => h) (by rfl) ?_ hHeld ?_
        rotate_left
        · (intro w hSw); (try dsimp only at hSw); go_simp; try with_reducible rfl
        try simp only [List.setIfInBounds_toArray, List.set_cons_zero, List.set_cons_succ]
        refine takeH (i := 8) (v := ?_) rfl rfl (by kernel_rfl) (by kernel_rfl) (by kernel_rfl) (fun _ _ _ h => h) (by rfl) ?_ hHeld ?_
        rotate_left
        · (intro w hSw); (try dsimp only at hSw); go_simp; try with_reducible rfl
        try simp only [List.setIfInBounds_toArray, List.set_cons_zero, List.set_cons_succ]
        refine wpAnyH_ready (rs := [4, 9]) (by kernel_rfl) (by simp) (comeC rfl (by rfl) (fun KK hKK => ?_) (comeC rfl (by rfl) (fun KK hKK => ?_) AllReadyH.nil))
        · go_simp
          refine hKK.out _ _ (by exact ⟨hcy0, r3⟩) (fun hHeld => ?_)
          clear hKK KK
          try simp only [Act.put, List.setIfInBounds_toArray, List.set_cons_zero, List.set_cons_succ]
          refine comeH (i := 9) rfl (by kernel_rfl) (by rfl) (fun KK hKK => ?_)
          go_simp
          refine hKK.out _ _ (by exact SA6.out _) (fun hHeld => ?_)
          clear hKK KK
          try simp only [Act.put, List.setIfInBounds_toArray, List.set_cons_zero, List.set_cons_succ]
          refine comeH (i := 10) rfl (by kernel_rfl) (by rfl) (fun KK hKK => ?_)
          refine oper_append_own (.tmp 46) (.tmp 51) 40 rfl B 44 is (.pointer none) 1 8 Try.underlying40 his hs0 hs1 hs2 rfl (by decide) (.slice A1 P.length c1) P.length (ptrs P) rfl (OW6.out _) ⟨W6.heap.size, 0, none⟩ 1 1 [.pointer (some ⟨gd, 0, none⟩)] rfl rfl (news1s _ _ _) (by simp [Value.oneCell']) Q63.out QB.out (size_alloc_le hBW6 _) ?_
          intro v1 w1 ho hg hbo
          have HN := Aside0.mk (own_newer hbo)
          have PW := Aside0.mk (PU.out _ w1 v1 hg ho HN.out)
          have cz1 : w1.cell? ⟨w.heap.size, 0, none⟩ = some (.pointer (some ⟨g, 0, none⟩)) := box_after hcy0 hg hvb
          obtain ⟨b1, cap1, rfl, _, _, _⟩ := own_formN ho
          have hb8 := after_blk HD6.out.blk hg (fun e => HD6.out.nown e.symm)
          obtain ⟨z0, z1, z2, z3, z4, z5, z6, z7⟩ := blk5_facts hb8
          have czz := two_set hn1 (x := .slice (some ⟨b1, 0, none⟩) (P.length + 1) cap1) cz1 hb8
          clear ho hg hbo hb8
          refine hKK.out _ _ (by exact ⟨cz1, z3⟩) (fun hHeld => ?_)
          clear hKK KK
          try simp only [Act.put, List.setIfInBounds_toArray, List.set_cons_zero, List.set_cons_succ]
          refine takeH (i := 11) (v := ?_) rfl rfl (by kernel_rfl) (by kernel_rfl) (by kernel_rfl) (fun _ _ _ h => h) (by rfl) ?_ hHeld ?_
          rotate_left
          · (intro w hSw); (try dsimp only at hSw); go_simp; try with_reducible rfl
          try simp only [List.setIfInBounds_toArray, List.set_cons_zero, List.set_cons_succ]
          refine takeH (i := 12) (v := ?_) rfl rfl (by kernel_rfl) (by kernel_rfl) (by kernel_rfl) (fun _ _ _ h => h) (by rfl) ?_ hHeld ?_
          rotate_left
          · (intro w hSw); (try dsimp only at hSw); go_simp; try with_reducible rfl
          try simp only [List.setIfInBounds_toArray, List.set_cons_zero, List.set_cons_succ]
          refine comeH (i := 13) rfl (by kernel_rfl) (by rfl) (fun KK hKK => ?_)
          go_simp
          refine hKK.out _ _ (by exact czz) (fun hHeld => ?_)
          clear hKK KK
          try simp only [Act.put, List.setIfInBounds_toArray, List.set_cons_zero, List.set_cons_succ]
          refine wpAnyH_done (by kernel_rfl) ?_ _
          refine NoPanic.normal ?_
          obtain ⟨q0, q1, q2, q3, q4⟩ := PW.out
          obtain ⟨W8, hW8⟩ : ∃ W8, w1.setCell ⟨g, 2, none⟩ (.slice (some ⟨b1, 0, none⟩) (P.length + 1) cap1) = W8 := ⟨_, rfl⟩
          have cz8 : W8.cell? ⟨w.heap.size, 0, none⟩ = some (.pointer (some ⟨g, 0, none⟩)) := by rw [← hW8]; exact czz.1
          clear czz
          rw [hW8] at q0 q1 q2 q3 q4 ⊢
          obtain ⟨s0, s1, s2, s3, s4, x2, x3, x4⟩ := blk5_facts q0
          have LN8 := Aside0.mk (len_any W8.drew _ _ _ _ (q1.below (below_drew (Below.refl _ _))))
          have hsum : IntKind.i64.wrap (((allR P).length : Int) + (DN.length : Int)) = ((allR P).length : Int) + (DN.length : Int) := by rw [IntKind.wrap_i64]; omega
          have cz4 := two_set4 (.int .i64 (((allR P).length : Int) + (DN.length : Int))) hn1 cz8 q0
          have cz49 := Aside0.mk (show W8.drew.cell? ⟨w.heap.size, 0, none⟩ = some (.pointer (some ⟨g, 0, none⟩)) ∧ W8.drew.cell? ⟨g, 3, none⟩ = some (.pointer (some ⟨gd, 0, none⟩)) from ⟨cz8, s3⟩)
          have Q2 := Aside0.mk q2
          have Q3 := Aside0.mk q3
          have Q4 := Aside0.mk q4
          have hW8s := q2.size
          clear q0 q1 q2 q3 q4 hW8 PW z0 z1 z2 z3 z4 z5 z6 z7 PU HD6 r0 r1 r2 r3 r4 e2 e3 e4 hcy0 HOW LN6 OW6 SA6 CA6 hHeld
          gi_wp2
          refine wpIn_wide.2 ?_
          refine wp_region_noPanic ?_
          refine wp_region_held_drew (S := fun w' => w'.cell? ⟨w.heap.size, 0, none⟩ = some (.pointer (some ⟨g, 0, none⟩)) ∧ w'.cell? ⟨g, 3, none⟩ = some (.pointer (some ⟨gd, 0, none⟩))) mo (cz49.out) (fun hHeld => ?_)
          refine takeH (i := 0) (v := ?_) rfl rfl (by kernel_rfl) (by kernel_rfl) (by kernel_rfl) (fun _ _ _ h => h) (by rfl) ?_ hHeld ?_
          rotate_left
          · (intro w hSw); (try dsimp only at hSw); go_simp; try with_reducible rfl
          try simp only [List.setIfInBounds_toArray, List.set_cons_zero, List.set_cons_succ]
          refine takeH (i := 1) (v := ?_) rfl rfl (by kernel_rfl) (by kernel_rfl) (by kernel_rfl) (fun _ _ _ h => h) (by rfl) ?_ hHeld ?_
          rotate_left
          · (intro w hSw); (try dsimp only at hSw); go_simp; try with_reducible rfl
          try simp only [List.setIfInBounds_toArray, List.set_cons_zero, List.set_cons_succ]
          refine takeH (i := 2) (v := ?_) rfl rfl (by kernel_rfl) (by kernel_rfl) (by kernel_rfl) (fun _ _ _ h => h) (by rfl) ?_ hHeld ?_
          rotate_left
          · (intro w hSw); (try dsimp only at hSw); go_simp; try with_reducible rfl
          try simp only [List.setIfInBounds_toArray, List.set_cons_zero, List.set_cons_succ]
          refine takeH (i := 4) (v := ?_) rfl rfl (by kernel_rfl) (by kernel_rfl) (by kernel_rfl) (fun _ _ _ h => h) (by rfl) ?_ hHeld ?_
          rotate_left
          · (intro w hSw); (try dsimp only at hSw); go_simp; try with_reducible rfl
          try simp only [List.setIfInBounds_toArray, List.set_cons_zero, List.set_cons_succ]
          refine takeH (i := 5) (v := ?_) rfl rfl (by kernel_rfl) (by kernel_rfl) (by kernel_rfl) (fun _ _ _ h => h) (by rfl) ?_ hHeld ?_
          rotate_left
          · (intro w hSw); (try dsimp only at hSw); go_simp; try with_reducible rfl
          try simp only [List.setIfInBounds_toArray, List.set_cons_zero, List.set_cons_succ]
          refine takeH (i := 6) (v := ?_) rfl rfl (by kernel_rfl) (by kernel_rfl) (by kernel_rfl) (fun _ _ _ h => h) (by rfl) ?_ hHeld ?_
          rotate_left
          · (intro w hSw); (try dsimp only at hSw); go_simp; try with_reducible rfl
          try simp only [List.setIfInBounds_toArray, List.set_cons_zero, List.set_cons_succ]
          refine takeH (i := 7) (v := ?_) rfl rfl (by kernel_rfl) (by kernel_rfl) (by kernel_rfl) (fun _ _ _ h => h) (by rfl) ?_ hHeld ?_
          rotate_left
          · (intro w hSw); (try dsimp only at hSw); go_simp; try with_reducible rfl
          try simp only [List.setIfInBounds_toArray, List.set_cons_zero, List.set_cons_succ]
          refine wpAnyH_ready (rs := [3, 8]) (by kernel_rfl) (by simp) (comeC rfl (by rfl) (fun KK hKK => ?_) (comeC rfl (by rfl) (fun KK hKK => ?_) AllReadyH.nil))
          · go_simp
            refine hKK.out _ _ (by exact cz49.out) (fun hHeld => ?_)
            clear hKK KK
            try simp only [Act.put, List.setIfInBounds_toArray, List.set_cons_zero, List.set_cons_succ]
            refine comeH (i := 8) rfl (by kernel_rfl) (by rfl) (fun KK hKK => ?_)
            go_simp
            refine (LN8.out).mono ?_
            rintro e w' ⟨rfl, rfl⟩
            refine hKK.out _ _ (by exact cz49.out) (fun hHeld => ?_)
            clear hKK KK
            try simp only [Act.put, List.setIfInBounds_toArray, List.set_cons_zero, List.set_cons_succ]
            refine takeH (i := 9) (v := ?_) rfl rfl (by kernel_rfl) (by kernel_rfl) (by kernel_rfl) (fun _ _ _ h => h) (by rfl) ?_ hHeld ?_
            rotate_left
            · (intro w hSw); (try dsimp only at hSw); go_simp; try with_reducible rfl
            try simp only [List.setIfInBounds_toArray, List.set_cons_zero, List.set_cons_succ]
            refine takeH (i := 10) (v := ?_) rfl rfl (by kernel_rfl) (by kernel_rfl) (by kernel_rfl) (fun _ _ _ h => h) (by rfl) ?_ hHeld ?_
            rotate_left
            · (intro w hSw); (try dsimp only at hSw); go_simp; try with_reducible rfl
            try simp only [List.setIfInBounds_toArray, List.set_cons_zero, List.set_cons_succ]
            refine takeH (i := 11) (v := ?_) rfl rfl (by kernel_rfl) (by kernel_rfl) (by kernel_rfl) (fun _ _ _ h => h) (by rfl) ?_ hHeld ?_
            rotate_left
            · (intro w hSw); (try dsimp only at hSw); go_simp; try with_reducible rfl
            try simp only [List.setIfInBounds_toArray, List.set_cons_zero, List.set_cons_succ]
            refine comeH (i := 12) rfl (by kernel_rfl) (by rfl) (fun KK hKK => ?_)
            go_simp
            refine hKK.out _ _ (by exact cz4) (fun hHeld => ?_)
            clear hKK KK
            try simp only [Act.put, List.setIfInBounds_toArray, List.set_cons_zero, List.set_cons_succ]
            refine wpAnyH_done (by kernel_rfl) ?_ _
            refine NoPanic.normal ?_
            obtain ⟨vq, hvq0⟩ : ∃ vq, Value.slice (some ⟨b1, 0, none⟩) (P.length + 1) cap1 = vq := ⟨_, rfl⟩
            obtain ⟨WQ, hWQe⟩ : ∃ WQ, (W8.setCell ⟨g, 4, none⟩ (.int .i64 (((allR P).length : Int) + (DN.length : Int)))).drew = WQ := ⟨_, rfl⟩
            obtain ⟨Q, hQ⟩ : ∃ Q, P ++ [(some ⟨gd, 0, none⟩, DN)] = Q := ⟨_, rfl⟩
            have q3 := Q3.out.below (below_drew (Below.refl _ _))
            have q4 := Q4.out.drew
            have cz9 := below_cell0 (below_drew (Below.refl _ _)) (((Kept.refl W8 (· = g)).setCell (p := ⟨g, 4, none⟩) (.inl rfl) (.int .i64 (((allR P).length : Int) + (DN.length : Int)))).cell cz8 (fun e => hn1 e))
            rw [show ((((allR P).length + DN.length : Nat)) : Int) = ((allR P).length : Int) + (DN.length : Int) from by omega] at q3 q4
            rw [hWQe] at q3 q4 cz9 ⊢
            rw [hvq0, hQ] at q3
            rw [hvq0] at HN
            have HQ := Aside0.mk q3
            have SPN := Aside0.mk (show ¬ (0 < most ∧ most < (Q.length : Int)) → Stepped most P Q DN by rw [← hQ]; exact Stepped.snoc hDne)
            have QM := Aside0.mk (show ∀ r, r ∈ allR Q ↔ r ∈ allR P ∨ r ∈ DN by rw [← hQ, allR_snoc]; exact fun r => List.mem_append)
            have QL := Aside0.mk (show (allR Q).length = (allR P).length + DN.length by rw [← hQ, allR_snoc, List.length_append])
            have QC := Aside0.mk (show Q.length = P.length + if DN = [] then 0 else 1 by rw [← hQ, if_neg hDne]; simp)
            have HKQ := Aside0.mk (HK6.out.mono (S2 := fun k => k = g ∨ (Value.slice A1 P.length c1).ownBlock = some k) (fun k hk => .inl hk) |>.then_ q4 (fun k hk => .inl hk))
            have HDQ := Aside0.mk ((q4.blk D9 (by omega) (fun e => e.elim hD9g (fun h9 => by have := (H.out.own.lt _ h9).2; omega))).trans HDD.out)
            have cQ := cz9
            have hWQ : w.heap.size ≤ WQ.heap.size := by have := q4.size; omega
            have NQ := Aside0.mk (show ∀ k, vq.ownBlock = some k → (Value.slice A1 P.length c1).ownBlock = some k ∨ w.heap.size ≤ k from fun k hk => (HN.out k hk).imp id (fun h9 => by omega))
            have NQ9 := Aside0.mk (show ∀ k, vq.ownBlock = some k → (Value.slice A1 P.length c1).ownBlock = some k ∨ W9.heap.size ≤ k from fun k hk => (HN.out k hk).imp id (fun h9 => by omega))
            clear hvq0 hWQe hQ q3 q4 cz9 cz8 cz4 cz1 hsum LN8 Q2 Q3 Q4 s0 s1 s2 s3 s4 x2 x3 x4 HK6 HDD HNM HNP
            obtain ⟨t0, t1, t2, t3, t4, u2, u3, u4⟩ := blk5_facts HQ.out.blk
            obtain ⟨Aq, cq, hvq⟩ := own_form HQ.out.own
            subst hvq
            by_cases hm0 : 0 < most
            · by_cases hm1 : most < (Q.length : Int)
              · have CP := Aside0.mk (fun n => scompact_any (WQ.drewN n) (HQ.out.below (below_drewN (Below.refl _ _) n)) (fun b hb => HO'.out b (Nat.le_trans HKQ.out.size (by simpa using hb))))
                have hq2 : 1 < Q.length := by omega
                gi_wp2
                refine wpIn_wide.2 ?_
                go_quiet (fail)
                all_goals
                  gi_wp2_with (refine ⟨trivial, ?_⟩; first | (gi_at_call 26; refine (callsIn_wide.2 (CP.out _)).mono ?_; rintro e w7 ⟨rfl, v7, P7, H7, hcm, hk7, hv7⟩; have H7 := Aside0.mk H7; have HCM := Aside0.mk hcm; have HK7 := Aside0.mk hk7; have HV7 := Aside0.mk hv7; obtain ⟨p0, p1, p2, p3, p4, y2, y3, y4⟩ := blk5_facts H7.out.blk; have cz : w7.cell? ⟨w.heap.size, 0, none⟩ = some (.pointer (some ⟨g, 0, none⟩)) := HK7.out.cell cQ (fun e => hn1 e); have LN7 := Aside0.mk (len_any w7 _ _ _ _ H7.out.del); clear hcm hk7 hv7) | (gi_at_call 18; refine (callsIn_wide.2 (LN7.out)).mono ?_; rintro e w' ⟨rfl, rfl⟩))
                  have k97 := HKQ.out.then_ (S2 := (· = g)) (((Kept.refl WQ (· = g)).drewN _).then_ HK7.out (fun k hk => .inl hk)) (fun k hk => .inl (.inl hk))
                  have hD7 := Aside0.mk ((HK7.out.blk D9 (by simpa using (Array.getElem?_eq_some_iff.1 HDQ.out).1) (fun e => hD9g e)).trans HDQ.out)
                  have own7 := own_old (w := w) (m := w.heap.size) (HV7.out.imp id (fun ⟨k, h1, h2⟩ => ⟨k, h1, Nat.le_trans hWQ (by simpa using h2)⟩)) NQ.out
                  have own7' := own_old (w := w) (m := W9.heap.size) (HV7.out.imp id (fun ⟨k, h1, h2⟩ => ⟨k, h1, Nat.le_trans HKQ.out.size (by simpa using h2)⟩)) NQ9.out
                  have HF := H7.out.finish HBW.out k97 hDw hgl (fun k hk e => own_ne (own7' k hk) (fun h1 => (H.out.own.lt k h1).2) hDw hD9 e)
                  obtain ⟨pq, hpq⟩ := HCM.out.2 hq2
                  have SP := Stepped.one QM.out QL.out QC.out ⟨hm0, hm1⟩ hpq HQ.out.mem_full HQ.out.full_len
                  refine ⟨by simp, .inl ⟨_, _, rfl, run_takeDeferred hD7.out, ?_⟩⟩
                  rw [HDN.out]
                  exact ⟨_, results_tmp rfl _ _ _, v7, P7, _, rfl, HF.1, SP, HF.2, own7⟩
              · have SP := Aside0.mk (SPN.out (fun h => hm1 h.2))
                have LNQ := Aside0.mk (fun n => len_any (WQ.drewN n) _ _ _ _ (HQ.out.del.below (below_drewN (Below.refl _ _) n)))
                gi_wp2
                refine wpIn_wide.2 ?_
                go_quiet (fail)
                all_goals
                  gi_wp2_with (refine ⟨trivial, ?_⟩; (gi_at_call 18; refine (callsIn_wide.2 (LNQ.out _)).mono ?_; rintro e w' ⟨rfl, rfl⟩))
                  have HF := fun n => (HQ.out.below (below_drewN (Below.refl _ _) n)).finish HBW.out (HKQ.out.drewN n) hDw hgl (fun k hk e => own_ne (NQ9.out k hk) (fun h1 => (H.out.own.lt k h1).2) hDw hD9 e)
                  refine ⟨by simp, .inl ⟨_, _, rfl, run_takeDeferred HDQ.out, ?_⟩⟩
                  rw [HDN.out]
                  exact ⟨_, results_tmp rfl _ _ _, _, Q, _, rfl, (HF _).1, SP.out, (HF _).2, NQ.out⟩
            · have SP := Aside0.mk (SPN.out (fun h => hm0 h.1))
              have hmd : decide (0 < most) = false := decide_eq_false hm0
              have LNQ := Aside0.mk (fun n => len_any (WQ.drewN n) _ _ _ _ (HQ.out.del.below (below_drewN (Below.refl _ _) n)))
              gi_wp2
              refine wpIn_wide.2 ?_
              go_quiet (fail)
              all_goals
                gi_wp2_with (refine ⟨trivial, ?_⟩; (gi_at_call 18; refine (callsIn_wide.2 (LNQ.out _)).mono ?_; rintro e w' ⟨rfl, rfl⟩))
                have HF := fun n => (HQ.out.below (below_drewN (Below.refl _ _) n)).finish HBW.out (HKQ.out.drewN n) hDw hgl (fun k hk e => own_ne (NQ9.out k hk) (fun h1 => (H.out.own.lt k h1).2) hDw hD9 e)
                refine ⟨by simp, .inl ⟨_, _, rfl, run_takeDeferred HDQ.out, ?_⟩⟩
                rw [HDN.out]
                exact ⟨_, results_tmp rfl _ _ _, _, Q, _, rfl, (HF _).1, SP.out, (HF _).2, NQ.out⟩
          · go_simp
            refine (LN8.out).mono ?_
            rintro e w' ⟨rfl, rfl⟩
            refine hKK.out _ _ (by exact cz49.out) (fun hHeld => ?_)
            clear hKK KK
            try simp only [Act.put, List.setIfInBounds_toArray, List.set_cons_zero, List.set_cons_succ]
            refine comeH (i := 3) rfl (by kernel_rfl) (by rfl) (fun KK hKK => ?_)
            go_simp
            refine hKK.out _ _ (by exact cz49.out) (fun hHeld => ?_)
            clear hKK KK
            try simp only [Act.put, List.setIfInBounds_toArray, List.set_cons_zero, List.set_cons_succ]
            refine takeH (i := 9) (v := ?_) rfl rfl (by kernel_rfl) (by kernel_rfl) (by kernel_rfl) (fun _ _ _ h => h) (by rfl) ?_ hHeld ?_
            rotate_left
            · (intro w hSw); (try dsimp only at hSw); go_simp; try with_reducible rfl
            try simp only [List.setIfInBounds_toArray, List.set_cons_zero, List.set_cons_succ]
            refine takeH (i := 10) (v := ?_) rfl rfl (by kernel_rfl) (by kernel_rfl) (by kernel_rfl) (fun _ _ _ h => h) (by rfl) ?_ hHeld ?_
            rotate_left
            · (intro w hSw); (try dsimp only at hSw); go_simp; try with_reducible rfl
            try simp only [List.setIfInBounds_toArray, List.set_cons_zero, List.set_cons_succ]
            refine takeH (i := 11) (v := ?_) rfl rfl (by kernel_rfl) (by kernel_rfl) (by kernel_rfl) (fun _ _ _ h => h) (by rfl) ?_ hHeld ?_
            rotate_left
            · (intro w hSw); (try dsimp only at hSw); go_simp; try with_reducible rfl
            try simp only [List.setIfInBounds_toArray, List.set_cons_zero, List.set_cons_succ]
            refine comeH (i := 12) rfl (by kernel_rfl) (by rfl) (fun KK hKK => ?_)
            go_simp
            refine hKK.out _ _ (by exact cz4) (fun hHeld => ?_)
            clear hKK KK
            try simp only [Act.put, List.setIfInBounds_toArray, List.set_cons_zero, List.set_cons_succ]
            refine wpAnyH_done (by kernel_rfl) ?_ _
            refine NoPanic.normal ?_
            obtain ⟨vq, hvq0⟩ : ∃ vq, Value.slice (some ⟨b1, 0, none⟩) (P.length + 1) cap1 = vq := ⟨_, rfl⟩
            obtain ⟨WQ, hWQe⟩ : ∃ WQ, (W8.setCell ⟨g, 4, none⟩ (.int .i64 (((allR P).length : Int) + (DN.length : Int)))).drew = WQ := ⟨_, rfl⟩
            obtain ⟨Q, hQ⟩ : ∃ Q, P ++ [(some ⟨gd, 0, none⟩, DN)] = Q := ⟨_, rfl⟩
            have q3 := Q3.out.below (below_drew (Below.refl _ _))
            have q4 := Q4.out.drew
            have cz9 := below_cell0 (below_drew (Below.refl _ _)) (((Kept.refl W8 (· = g)).setCell (p := ⟨g, 4, none⟩) (.inl rfl) (.int .i64 (((allR P).length : Int) + (DN.length : Int)))).cell cz8 (fun e => hn1 e))
            rw [show ((((allR P).length + DN.length : Nat)) : Int) = ((allR P).length : Int) + (DN.length : Int) from by omega] at q3 q4
            rw [hWQe] at q3 q4 cz9 ⊢
            rw [hvq0, hQ] at q3
            rw [hvq0] at HN
            have HQ := Aside0.mk q3
            have SPN := Aside0.mk (show ¬ (0 < most ∧ most < (Q.length : Int)) → Stepped most P Q DN by rw [← hQ]; exact Stepped.snoc hDne)
            have QM := Aside0.mk (show ∀ r, r ∈ allR Q ↔ r ∈ allR P ∨ r ∈ DN by rw [← hQ, allR_snoc]; exact fun r => List.mem_append)
            have QL := Aside0.mk (show (allR Q).length = (allR P).length + DN.length by rw [← hQ, allR_snoc, List.length_append])
            have QC := Aside0.mk (show Q.length = P.length + if DN = [] then 0 else 1 by rw [← hQ, if_neg hDne]; simp)
            have HKQ := Aside0.mk (HK6.out.mono (S2 := fun k => k = g ∨ (Value.slice A1 P.length c1).ownBlock = some k) (fun k hk => .inl hk) |>.then_ q4 (fun k hk => .inl hk))
            have HDQ := Aside0.mk ((q4.blk D9 (by omega) (fun e => e.elim hD9g (fun h9 => by have := (H.out.own.lt _ h9).2; omega))).trans HDD.out)
            have cQ := cz9
            have hWQ : w.heap.size ≤ WQ.heap.size := by have := q4.size; omega
            have NQ := Aside0.mk (show ∀ k, vq.ownBlock = some k → (Value.slice A1 P.length c1).ownBlock = some k ∨ w.heap.size ≤ k from fun k hk => (HN.out k hk).imp id (fun h9 => by omega))
            have NQ9 := Aside0.mk (show ∀ k, vq.ownBlock = some k → (Value.slice A1 P.length c1).ownBlock = some k ∨ W9.heap.size ≤ k from fun k hk => (HN.out k hk).imp id (fun h9 => by omega))
            clear hvq0 hWQe hQ q3 q4 cz9 cz8 cz4 cz1 hsum LN8 Q2 Q3 Q4 s0 s1 s2 s3 s4 x2 x3 x4 HK6 HDD HNM HNP
            obtain ⟨t0, t1, t2, t3, t4, u2, u3, u4⟩ := blk5_facts HQ.out.blk
            obtain ⟨Aq, cq, hvq⟩ := own_form HQ.out.own
            subst hvq
            by_cases hm0 : 0 < most
            · by_cases hm1 : most < (Q.length : Int)
              · have CP := Aside0.mk (fun n => scompact_any (WQ.drewN n) (HQ.out.below (below_drewN (Below.refl _ _) n)) (fun b hb => HO'.out b (Nat.le_trans HKQ.out.size (by simpa using hb))))
                have hq2 : 1 < Q.length := by omega
                gi_wp2
                refine wpIn_wide.2 ?_
                go_quiet (fail)
                all_goals
                  gi_wp2_with (refine ⟨trivial, ?_⟩; first | (gi_at_call 26; refine (callsIn_wide.2 (CP.out _)).mono ?_; rintro e w7 ⟨rfl, v7, P7, H7, hcm, hk7, hv7⟩; have H7 := Aside0.mk H7; have HCM := Aside0.mk hcm; have HK7 := Aside0.mk hk7; have HV7 := Aside0.mk hv7; obtain ⟨p0, p1, p2, p3, p4, y2, y3, y4⟩ := blk5_facts H7.out.blk; have cz : w7.cell? ⟨w.heap.size, 0, none⟩ = some (.pointer (some ⟨g, 0, none⟩)) := HK7.out.cell cQ (fun e => hn1 e); have LN7 := Aside0.mk (len_any w7 _ _ _ _ H7.out.del); clear hcm hk7 hv7) | (gi_at_call 18; refine (callsIn_wide.2 (LN7.out)).mono ?_; rintro e w' ⟨rfl, rfl⟩))
                  have k97 := HKQ.out.then_ (S2 := (· = g)) (((Kept.refl WQ (· = g)).drewN _).then_ HK7.out (fun k hk => .inl hk)) (fun k hk => .inl (.inl hk))
                  have hD7 := Aside0.mk ((HK7.out.blk D9 (by simpa using (Array.getElem?_eq_some_iff.1 HDQ.out).1) (fun e => hD9g e)).trans HDQ.out)
                  have own7 := own_old (w := w) (m := w.heap.size) (HV7.out.imp id (fun ⟨k, h1, h2⟩ => ⟨k, h1, Nat.le_trans hWQ (by simpa using h2)⟩)) NQ.out
                  have own7' := own_old (w := w) (m := W9.heap.size) (HV7.out.imp id (fun ⟨k, h1, h2⟩ => ⟨k, h1, Nat.le_trans HKQ.out.size (by simpa using h2)⟩)) NQ9.out
                  have HF := H7.out.finish HBW.out k97 hDw hgl (fun k hk e => own_ne (own7' k hk) (fun h1 => (H.out.own.lt k h1).2) hDw hD9 e)
                  obtain ⟨pq, hpq⟩ := HCM.out.2 hq2
                  have SP := Stepped.one QM.out QL.out QC.out ⟨hm0, hm1⟩ hpq HQ.out.mem_full HQ.out.full_len
                  refine ⟨by simp, .inl ⟨_, _, rfl, run_takeDeferred hD7.out, ?_⟩⟩
                  rw [HDN.out]
                  exact ⟨_, results_tmp rfl _ _ _, v7, P7, _, rfl, HF.1, SP, HF.2, own7⟩
              · have SP := Aside0.mk (SPN.out (fun h => hm1 h.2))
                have LNQ := Aside0.mk (fun n => len_any (WQ.drewN n) _ _ _ _ (HQ.out.del.below (below_drewN (Below.refl _ _) n)))
                gi_wp2
                refine wpIn_wide.2 ?_
                go_quiet (fail)
                all_goals
                  gi_wp2_with (refine ⟨trivial, ?_⟩; (gi_at_call 18; refine (callsIn_wide.2 (LNQ.out _)).mono ?_; rintro e w' ⟨rfl, rfl⟩))
                  have HF := fun n => (HQ.out.below (below_drewN (Below.refl _ _) n)).finish HBW.out (HKQ.out.drewN n) hDw hgl (fun k hk e => own_ne (NQ9.out k hk) (fun h1 => (H.out.own.lt k h1).2) hDw hD9 e)
                  refine ⟨by simp, .inl ⟨_, _, rfl, run_takeDeferred HDQ.out, ?_⟩⟩
                  rw [HDN.out]
                  exact ⟨_, results_tmp rfl _ _ _, _, Q, _, rfl, (HF _).1, SP.out, (HF _).2, NQ.out⟩
            · have SP := Aside0.mk (SPN.out (fun h => hm0 h.1))
              have hmd : decide (0 < most) = false := decide_eq_false hm0
              have LNQ := Aside0.mk (fun n => len_any (WQ.drewN n) _ _ _ _ (HQ.out.del.below (below_drewN (Below.refl _ _) n)))
              gi_wp2
              refine wpIn_wide.2 ?_
              go_quiet (fail)
              all_goals
                gi_wp2_with (refine ⟨trivial, ?_⟩; (gi_at_call 18; refine (callsIn_wide.2 (LNQ.out _)).mono ?_; rintro e w' ⟨rfl, rfl⟩))
                have HF := fun n => (HQ.out.below (below_drewN (Below.refl _ _) n)).finish HBW.out (HKQ.out.drewN n) hDw hgl (fun k hk e => own_ne (NQ9.out k hk) (fun h1 => (H.out.own.lt k h1).2) hDw hD9 e)
                refine ⟨by simp, .inl ⟨_, _, rfl, run_takeDeferred HDQ.out, ?_⟩⟩
                rw [HDN.out]
                exact ⟨_, results_tmp rfl _ _ _, _, Q, _, rfl, (HF _).1, SP.out, (HF _).2, NQ.out⟩
        · go_simp
          refine hKK.out _ _ (by exact SA6.out _) (fun hHeld => ?_)
          clear hKK KK
          try simp only [Act.put, List.setIfInBounds_toArray, List.set_cons_zero, List.set_cons_succ]
          refine comeH (i := 4) rfl (by kernel_rfl) (by rfl) (fun KK hKK => ?_)
          have c29 := CA6.out (.cells #[.pointer (some ⟨gd, 0, none⟩)] 44)
          go_simp
          refine hKK.out _ _ (by exact SA6.out _) (fun hHeld => ?_)
          clear hKK KK
          try simp only [Act.put, List.setIfInBounds_toArray, List.set_cons_zero, List.set_cons_succ]
          refine comeH (i := 10) rfl (by kernel_rfl) (by rfl) (fun KK hKK => ?_)
          refine oper_append_own (.tmp 46) (.tmp 51) 40 rfl B 44 is (.pointer none) 1 8 Try.underlying40 his hs0 hs1 hs2 rfl (by decide) (.slice A1 P.length c1) P.length (ptrs P) rfl (OW6.out _) ⟨W6.heap.size, 0, none⟩ 1 1 [.pointer (some ⟨gd, 0, none⟩)] rfl rfl (news1s _ _ _) (by simp [Value.oneCell']) Q63.out QB.out (size_alloc_le hBW6 _) ?_
          intro v1 w1 ho hg hbo
          have HN := Aside0.mk (own_newer hbo)
          have PW := Aside0.mk (PU.out _ w1 v1 hg ho HN.out)
          have cz1 : w1.cell? ⟨w.heap.size, 0, none⟩ = some (.pointer (some ⟨g, 0, none⟩)) := box_after hcy0 hg hvb
          obtain ⟨b1, cap1, rfl, _, _, _⟩ := own_formN ho
          have hb8 := after_blk HD6.out.blk hg (fun e => HD6.out.nown e.symm)
          obtain ⟨z0, z1, z2, z3, z4, z5, z6, z7⟩ := blk5_facts hb8
          have czz := two_set hn1 (x := .slice (some ⟨b1, 0, none⟩) (P.length + 1) cap1) cz1 hb8
          clear ho hg hbo hb8
          refine hKK.out _ _ (by exact ⟨cz1, z3⟩) (fun hHeld => ?_)
          clear hKK KK
          try simp only [Act.put, List.setIfInBounds_toArray, List.set_cons_zero, List.set_cons_succ]
          refine takeH (i := 11) (v := ?_) rfl rfl (by kernel_rfl) (by kernel_rfl) (by kernel_rfl) (fun _ _ _ h => h) (by rfl) ?_ hHeld ?_
          rotate_left
          · (intro w hSw); (try dsimp only at hSw); go_simp; try with_reducible rfl
          try simp only [List.setIfInBounds_toArray, List.set_cons_zero, List.set_cons_succ]
          refine takeH (i := 12) (v := ?_) rfl rfl (by kernel_rfl) (by kernel_rfl) (by kernel_rfl) (fun _ _ _ h => h) (by rfl) ?_ hHeld ?_
          rotate_left
          · (intro w hSw); (try dsimp only at hSw); go_simp; try with_reducible rfl
          try simp only [List.setIfInBounds_toArray, List.set_cons_zero, List.set_cons_succ]
          refine comeH (i := 13) rfl (by kernel_rfl) (by rfl) (fun KK hKK => ?_)
          go_simp
          refine hKK.out _ _ (by exact czz) (fun hHeld => ?_)
          clear hKK KK
          try simp only [Act.put, List.setIfInBounds_toArray, List.set_cons_zero, List.set_cons_succ]
          refine wpAnyH_done (by kernel_rfl) ?_ _
          refine NoPanic.normal ?_
          obtain ⟨q0, q1, q2, q3, q4⟩ := PW.out
          obtain ⟨W8, hW8⟩ : ∃ W8, w1.setCell ⟨g, 2, none⟩ (.slice (some ⟨b1, 0, none⟩) (P.length + 1) cap1) = W8 := ⟨_, rfl⟩
          have cz8 : W8.cell? ⟨w.heap.size, 0, none⟩ = some (.pointer (some ⟨g, 0, none⟩)) := by rw [← hW8]; exact czz.1
          clear czz
          rw [hW8] at q0 q1 q2 q3 q4 ⊢
          obtain ⟨s0, s1, s2, s3, s4, x2, x3, x4⟩ := blk5_facts q0
          have LN8 := Aside0.mk (len_any W8.drew _ _ _ _ (q1.below (below_drew (Below.refl _ _))))
          have hsum : IntKind.i64.wrap (((allR P).length : Int) + (DN.length : Int)) = ((allR P).length : Int) + (DN.length : Int) := by rw [IntKind.wrap_i64]; omega
          have cz4 := two_set4 (.int .i64 (((allR P).length : Int) + (DN.length : Int))) hn1 cz8 q0
          have cz49 := Aside0.mk (show W8.drew.cell? ⟨w.heap.size, 0, none⟩ = some (.pointer (some ⟨g, 0, none⟩)) ∧ W8.drew.cell? ⟨g, 3, none⟩ = some (.pointer (some ⟨gd, 0, none⟩)) from ⟨cz8, s3⟩)
          have Q2 := Aside0.mk q2
          have Q3 := Aside0.mk q3
          have Q4 := Aside0.mk q4
          have hW8s := q2.size
          clear q0 q1 q2 q3 q4 hW8 PW z0 z1 z2 z3 z4 z5 z6 z7 PU HD6 r0 r1 r2 r3 r4 e2 e3 e4 hcy0 HOW LN6 OW6 SA6 CA6 hHeld
          gi_wp2
          refine wpIn_wide.2 ?_
          refine wp_region_noPanic ?_
          refine wp_region_held_drew (S := fun w' => w'.cell? ⟨w.heap.size, 0, none⟩ = some (.pointer (some ⟨g, 0, none⟩)) ∧ w'.cell? ⟨g, 3, none⟩ = some (.pointer (some ⟨gd, 0, none⟩))) mo (cz49.out) (fun hHeld => ?_)
          refine takeH (i := 0) (v := ?_) rfl rfl (by kernel_rfl) (by kernel_rfl) (by kernel_rfl) (fun _ _ _ h => h) (by rfl) ?_ hHeld ?_
          rotate_left
          · (intro w hSw); (try dsimp only at hSw); go_simp; try with_reducible rfl
          try simp only [List.setIfInBounds_toArray, List.set_cons_zero, List.set_cons_succ]
          refine takeH (i := 1) (v := ?_) rfl rfl (by kernel_rfl) (by kernel_rfl) (by kernel_rfl) (fun _ _ _ h => h) (by rfl) ?_ hHeld ?_
          rotate_left
          · (intro w hSw); (try dsimp only at hSw); go_simp; try with_reducible rfl
          try simp only [List.setIfInBounds_toArray, List.set_cons_zero, List.set_cons_succ]
          refine takeH (i := 2) (v := ?_) rfl rfl (by kernel_rfl) (by kernel_rfl) (by kernel_rfl) (fun _ _ _ h => h) (by rfl) ?_ hHeld ?_
          rotate_left
          · (intro w hSw); (try dsimp only at hSw); go_simp; try with_reducible rfl
          try simp only [List.setIfInBounds_toArray, List.set_cons_zero, List.set_cons_succ]
          refine takeH (i := 4) (v := ?_) rfl rfl (by kernel_rfl) (by kernel_rfl) (by kernel_rfl) (fun _ _ _ h => h) (by rfl) ?_ hHeld ?_
          rotate_left
          · (intro w hSw); (try dsimp only at hSw); go_simp; try with_reducible rfl
          try simp only [List.setIfInBounds_toArray, List.set_cons_zero, List.set_cons_succ]
          refine takeH (i := 5) (v := ?_) rfl rfl (by kernel_rfl) (by kernel_rfl) (by kernel_rfl) (fun _ _ _ h => h) (by rfl) ?_ hHeld ?_
          rotate_left
          · (intro w hSw); (try dsimp only at hSw); go_simp; try with_reducible rfl
          try simp only [List.setIfInBounds_toArray, List.set_cons_zero, List.set_cons_succ]
          refine takeH (i := 6) (v := ?_) rfl rfl (by kernel_rfl) (by kernel_rfl) (by kernel_rfl) (fun _ _ _ h => h) (by rfl) ?_ hHeld ?_
          rotate_left
          · (intro w hSw); (try dsimp only at hSw); go_simp; try with_reducible rfl
          try simp only [List.setIfInBounds_toArray, List.set_cons_zero, List.set_cons_succ]
          refine takeH (i := 7) (v := ?_) rfl rfl (by kernel_rfl) (by kernel_rfl) (by kernel_rfl) (fun _ _ _ h => h) (by rfl) ?_ hHeld ?_
          rotate_left
          · (intro w hSw); (try dsimp only at hSw); go_simp; try with_reducible rfl
          try simp only [List.setIfInBounds_toArray, List.set_cons_zero, List.set_cons_succ]
          refine wpAnyH_ready (rs := [3, 8]) (by kernel_rfl) (by simp) (comeC rfl (by rfl) (fun KK hKK => ?_) (comeC rfl (by rfl) (fun KK hKK => ?_) AllReadyH.nil))
          · go_simp
            refine hKK.out _ _ (by exact cz49.out) (fun hHeld => ?_)
            clear hKK KK
            try simp only [Act.put, List.setIfInBounds_toArray, List.set_cons_zero, List.set_cons_succ]
            refine comeH (i := 8) rfl (by kernel_rfl) (by rfl) (fun KK hKK => ?_)
            go_simp
            refine (LN8.out).mono ?_
            rintro e w' ⟨rfl, rfl⟩
            refine hKK.out _ _ (by exact cz49.out) (fun hHeld => ?_)
            clear hKK KK
            try simp only [Act.put, List.setIfInBounds_toArray, List.set_cons_zero, List.set_cons_succ]
            refine takeH (i := 9) (v := ?_) rfl rfl (by kernel_rfl) (by kernel_rfl) (by kernel_rfl) (fun _ _ _ h => h) (by rfl) ?_ hHeld ?_
            rotate_left
            · (intro w hSw); (try dsimp only at hSw); go_simp; try with_reducible rfl
            try simp only [List.setIfInBounds_toArray, List.set_cons_zero, List.set_cons_succ]
            refine takeH (i := 10) (v := ?_) rfl rfl (by kernel_rfl) (by kernel_rfl) (by kernel_rfl) (fun _ _ _ h => h) (by rfl) ?_ hHeld ?_
            rotate_left
            · (intro w hSw); (try dsimp only at hSw); go_simp; try with_reducible rfl
            try simp only [List.setIfInBounds_toArray, List.set_cons_zero, List.set_cons_succ]
            refine takeH (i := 11) (v := ?_) rfl rfl (by kernel_rfl) (by kernel_rfl) (by kernel_rfl) (fun _ _ _ h => h) (by rfl) ?_ hHeld ?_
            rotate_left
            · (intro w hSw); (try dsimp only at hSw); go_simp; try with_reducible rfl
            try simp only [List.setIfInBounds_toArray, List.set_cons_zero, List.set_cons_succ]
            refine comeH (i := 12) rfl (by kernel_rfl) (by rfl) (fun KK hKK => ?_)
            go_simp
            refine hKK.out _ _ (by exact cz4) (fun hHeld => ?_)
            clear hKK KK
            try simp only [Act.put, List.setIfInBounds_toArray, List.set_cons_zero, List.set_cons_succ]
            refine wpAnyH_done (by kernel_rfl) ?_ _
            refine NoPanic.normal ?_
            obtain ⟨vq, hvq0⟩ : ∃ vq, Value.slice (some ⟨b1, 0, none⟩) (P.length + 1) cap1 = vq := ⟨_, rfl⟩
            obtain ⟨WQ, hWQe⟩ : ∃ WQ, (W8.setCell ⟨g, 4, none⟩ (.int .i64 (((allR P).length : Int) + (DN.length : Int)))).drew = WQ := ⟨_, rfl⟩
            obtain ⟨Q, hQ⟩ : ∃ Q, P ++ [(some ⟨gd, 0, none⟩, DN)] = Q := ⟨_, rfl⟩
            have q3 := Q3.out.below (below_drew (Below.refl _ _))
            have q4 := Q4.out.drew
            have cz9 := below_cell0 (below_drew (Below.refl _ _)) (((Kept.refl W8 (· = g)).setCell (p := ⟨g, 4, none⟩) (.inl rfl) (.int .i64 (((allR P).length : Int) + (DN.length : Int)))).cell cz8 (fun e => hn1 e))
            rw [show ((((allR P).length + DN.length : Nat)) : Int) = ((allR P).length : Int) + (DN.length : Int) from by omega] at q3 q4
            rw [hWQe] at q3 q4 cz9 ⊢
            rw [hvq0, hQ] at q3
            rw [hvq0] at HN
            have HQ := Aside0.mk q3
            have SPN := Aside0.mk (show ¬ (0 < most ∧ most < (Q.length : Int)) → Stepped most P Q DN by rw [← hQ]; exact Stepped.snoc hDne)
            have QM := Aside0.mk (show ∀ r, r ∈ allR Q ↔ r ∈ allR P ∨ r ∈ DN by rw [← hQ, allR_snoc]; exact fun r => List.mem_append)
            have QL := Aside0.mk (show (allR Q).length = (allR P).length + DN.length by rw [← hQ, allR_snoc, List.length_append])
            have QC := Aside0.mk (show Q.length = P.length + if DN = [] then 0 else 1 by rw [← hQ, if_neg hDne]; simp)
            have HKQ := Aside0.mk (HK6.out.mono (S2 := fun k => k = g ∨ (Value.slice A1 P.length c1).ownBlock = some k) (fun k hk => .inl hk) |>.then_ q4 (fun k hk => .inl hk))
            have HDQ := Aside0.mk ((q4.blk D9 (by omega) (fun e => e.elim hD9g (fun h9 => by have := (H.out.own.lt _ h9).2; omega))).trans HDD.out)
            have cQ := cz9
            have hWQ : w.heap.size ≤ WQ.heap.size := by have := q4.size; omega
            have NQ := Aside0.mk (show ∀ k, vq.ownBlock = some k → (Value.slice A1 P.length c1).ownBlock = some k ∨ w.heap.size ≤ k from fun k hk => (HN.out k hk).imp id (fun h9 => by omega))
            have NQ9 := Aside0.mk (show ∀ k, vq.ownBlock = some k → (Value.slice A1 P.length c1).ownBlock = some k ∨ W9.heap.size ≤ k from fun k hk => (HN.out k hk).imp id (fun h9 => by omega))
            clear hvq0 hWQe hQ q3 q4 cz9 cz8 cz4 cz1 hsum LN8 Q2 Q3 Q4 s0 s1 s2 s3 s4 x2 x3 x4 HK6 HDD HNM HNP
            obtain ⟨t0, t1, t2, t3, t4, u2, u3, u4⟩ := blk5_facts HQ.out.blk
            obtain ⟨Aq, cq, hvq⟩ := own_form HQ.out.own
            subst hvq
            by_cases hm0 : 0 < most
            · by_cases hm1 : most < (Q.length : Int)
              · have CP := Aside0.mk (fun n => scompact_any (WQ.drewN n) (HQ.out.below (below_drewN (Below.refl _ _) n)) (fun b hb => HO'.out b (Nat.le_trans HKQ.out.size (by simpa using hb))))
                have hq2 : 1 < Q.length := by omega
                gi_wp2
                refine wpIn_wide.2 ?_
                go_quiet (fail)
                all_goals
                  gi_wp2_with (refine ⟨trivial, ?_⟩; first | (gi_at_call 26; refine (callsIn_wide.2 (CP.out _)).mono ?_; rintro e w7 ⟨rfl, v7, P7, H7, hcm, hk7, hv7⟩; have H7 := Aside0.mk H7; have HCM := Aside0.mk hcm; have HK7 := Aside0.mk hk7; have HV7 := Aside0.mk hv7; obtain ⟨p0, p1, p2, p3, p4, y2, y3, y4⟩ := blk5_facts H7.out.blk; have cz : w7.cell? ⟨w.heap.size, 0, none⟩ = some (.pointer (some ⟨g, 0, none⟩)) := HK7.out.cell cQ (fun e => hn1 e); have LN7 := Aside0.mk (len_any w7 _ _ _ _ H7.out.del); clear hcm hk7 hv7) | (gi_at_call 18; refine (callsIn_wide.2 (LN7.out)).mono ?_; rintro e w' ⟨rfl, rfl⟩))
                  have k97 := HKQ.out.then_ (S2 := (· = g)) (((Kept.refl WQ (· = g)).drewN _).then_ HK7.out (fun k hk => .inl hk)) (fun k hk => .inl (.inl hk))
                  have hD7 := Aside0.mk ((HK7.out.blk D9 (by simpa using (Array.getElem?_eq_some_iff.1 HDQ.out).1) (fun e => hD9g e)).trans HDQ.out)
                  have own7 := own_old (w := w) (m := w.heap.size) (HV7.out.imp id (fun ⟨k, h1, h2⟩ => ⟨k, h1, Nat.le_trans hWQ (by simpa using h2)⟩)) NQ.out
                  have own7' := own_old (w := w) (m := W9.heap.size) (HV7.out.imp id (fun ⟨k, h1, h2⟩ => ⟨k, h1, Nat.le_trans HKQ.out.size (by simpa using h2)⟩)) NQ9.out
                  have HF := H7.out.finish HBW.out k97 hDw hgl (fun k hk e => own_ne (own7' k hk) (fun h1 => (H.out.own.lt k h1).2) hDw hD9 e)
                  obtain ⟨pq, hpq⟩ := HCM.out.2 hq2
                  have SP := Stepped.one QM.out QL.out QC.out ⟨hm0, hm1⟩ hpq HQ.out.mem_full HQ.out.full_len
                  refine ⟨by simp, .inl ⟨_, _, rfl, run_takeDeferred hD7.out, ?_⟩⟩
                  rw [HDN.out]
                  exact ⟨_, results_tmp rfl _ _ _, v7, P7, _, rfl, HF.1, SP, HF.2, own7⟩
              · have SP := Aside0.mk (SPN.out (fun h => hm1 h.2))
                have LNQ := Aside0.mk (fun n => len_any (WQ.drewN n) _ _ _ _ (HQ.out.del.below (below_drewN (Below.refl _ _) n)))
                gi_wp2
                refine wpIn_wide.2 ?_
                go_quiet (fail)
                all_goals
                  gi_wp2_with (refine ⟨trivial, ?_⟩; (gi_at_call 18; refine (callsIn_wide.2 (LNQ.out _)).mono ?_; rintro e w' ⟨rfl, rfl⟩))
                  have HF := fun n => (HQ.out.below (below_drewN (Below.refl _ _) n)).finish HBW.out (HKQ.out.drewN n) hDw hgl (fun k hk e => own_ne (NQ9.out k hk) (fun h1 => (H.out.own.lt k h1).2) hDw hD9 e)
                  refine ⟨by simp, .inl ⟨_, _, rfl, run_takeDeferred HDQ.out, ?_⟩⟩
                  rw [HDN.out]
                  exact ⟨_, results_tmp rfl _ _ _, _, Q, _, rfl, (HF _).1, SP.out, (HF _).2, NQ.out⟩
            · have SP := Aside0.mk (SPN.out (fun h => hm0 h.1))
              have hmd : decide (0 < most) = false := decide_eq_false hm0
              have LNQ := Aside0.mk (fun n => len_any (WQ.drewN n) _ _ _ _ (HQ.out.del.below (below_drewN (Below.refl _ _) n)))
              gi_wp2
              refine wpIn_wide.2 ?_
              go_quiet (fail)
              all_goals
                gi_wp2_with (refine ⟨trivial, ?_⟩; (gi_at_call 18; refine (callsIn_wide.2 (LNQ.out _)).mono ?_; rintro e w' ⟨rfl, rfl⟩))
                have HF := fun n => (HQ.out.below (below_drewN (Below.refl _ _) n)).finish HBW.out (HKQ.out.drewN n) hDw hgl (fun k hk e => own_ne (NQ9.out k hk) (fun h1 => (H.out.own.lt k h1).2) hDw hD9 e)
                refine ⟨by simp, .inl ⟨_, _, rfl, run_takeDeferred HDQ.out, ?_⟩⟩
                rw [HDN.out]
                exact ⟨_, results_tmp rfl _ _ _, _, Q, _, rfl, (HF _).1, SP.out, (HF _).2, NQ.out⟩
          · go_simp
            refine (LN8.out).mono ?_
            rintro e w' ⟨rfl, rfl⟩
            refine hKK.out _ _ (by exact cz49.out) (fun hHeld => ?_)
            clear hKK KK
            try simp only [Act.put, List.setIfInBounds_toArray, List.set_cons_zero, List.set_cons_succ]
            refine comeH (i := 3) rfl (by kernel_rfl) (by rfl) (fun KK hKK => ?_)
            go_simp
            refine hKK.out _ _ (by exact cz49.out) (fun hHeld => ?_)
            clear hKK KK
            try simp only [Act.put, List.setIfInBounds_toArray, List.set_cons_zero, List.set_cons_succ]
            refine takeH (i := 9) (v := ?_) rfl rfl (by kernel_rfl) (by kernel_rfl) (by kernel_rfl) (fun _ _ _ h => h) (by rfl) ?_ hHeld ?_
            rotate_left
            · (intro w hSw); (try dsimp only at hSw); go_simp; try with_reducible rfl
            try simp only [List.setIfInBounds_toArray, List.set_cons_zero, List.set_cons_succ]
            refine takeH (i := 10) (v := ?_) rfl rfl (by kernel_rfl) (by kernel_rfl) (by kernel_rfl) (fun _ _ _ h => h) (by rfl) ?_ hHeld ?_
            rotate_left
            · (intro w hSw); (try dsimp only at hSw); go_simp; try with_reducible rfl
            try simp only [List.setIfInBounds_toArray, List.set_cons_zero, List.set_cons_succ]
            refine takeH (i := 11) (v := ?_) rfl rfl (by kernel_rfl) (by kernel_rfl) (by kernel_rfl) (fun _ _ _ h => h) (by rfl) ?_ hHeld ?_
            rotate_left
            · (intro w hSw); (try dsimp only at hSw); go_simp; try with_reducible rfl
            try simp only [List.setIfInBounds_toArray, List.set_cons_zero, List.set_cons_succ]
            refine comeH (i := 12) rfl (by kernel_rfl) (by rfl) (fun KK hKK => ?_)
            go_simp
            refine hKK.out _ _ (by exact cz4) (fun hHeld => ?_)
            clear hKK KK
            try simp only [Act.put, List.setIfInBounds_toArray, List.set_cons_zero, List.set_cons_succ]
            refine wpAnyH_done (by kernel_rfl) ?_ _
            refine NoPanic.normal ?_
            obtain ⟨vq, hvq0⟩ : ∃ vq, Value.slice (some ⟨b1, 0, none⟩) (P.length + 1) cap1 = vq := ⟨_, rfl⟩
            obtain ⟨WQ, hWQe⟩ : ∃ WQ, (W8.setCell ⟨g, 4, none⟩ (.int .i64 (((allR P).length : Int) + (DN.length : Int)))).drew = WQ := ⟨_, rfl⟩
            obtain ⟨Q, hQ⟩ : ∃ Q, P ++ [(some ⟨gd, 0, none⟩, DN)] = Q := ⟨_, rfl⟩
            have q3 := Q3.out.below (below_drew (Below.refl _ _))
            have q4 := Q4.out.drew
            have cz9 := below_cell0 (below_drew (Below.refl _ _)) (((Kept.refl W8 (· = g)).setCell (p := ⟨g, 4, none⟩) (.inl rfl) (.int .i64 (((allR P).length : Int) + (DN.length : Int)))).cell cz8 (fun e => hn1 e))
            rw [show ((((allR P).length + DN.length : Nat)) : Int) = ((allR P).length : Int) + (DN.length : Int) from by omega] at q3 q4
            rw [hWQe] at q3 q4 cz9 ⊢
            rw [hvq0, hQ] at q3
            rw [hvq0] at HN
            have HQ := Aside0.mk q3
            have SPN := Aside0.mk (show ¬ (0 < most ∧ most < (Q.length : Int)) → Stepped most P Q DN by rw [← hQ]; exact Stepped.snoc hDne)
            have QM := Aside0.mk (show ∀ r, r ∈ allR Q ↔ r ∈ allR P ∨ r ∈ DN by rw [← hQ, allR_snoc]; exact fun r => List.mem_append)
            have QL := Aside0.mk (show (allR Q).length = (allR P).length + DN.length by rw [← hQ, allR_snoc, List.length_append])
            have QC := Aside0.mk (show Q.length = P.length + if DN = [] then 0 else 1 by rw [← hQ, if_neg hDne]; simp)
            have HKQ := Aside0.mk (HK6.out.mono (S2 := fun k => k = g ∨ (Value.slice A1 P.length c1).ownBlock = some k) (fun k hk => .inl hk) |>.then_ q4 (fun k hk => .inl hk))
            have HDQ := Aside0.mk ((q4.blk D9 (by omega) (fun e => e.elim hD9g (fun h9 => by have := (H.out.own.lt _ h9).2; omega))).trans HDD.out)
            have cQ := cz9
            have hWQ : w.heap.size ≤ WQ.heap.size := by have := q4.size; omega
            have NQ := Aside0.mk (show ∀ k, vq.ownBlock = some k → (Value.slice A1 P.length c1).ownBlock = some k ∨ w.heap.size ≤ k from fun k hk => (HN.out k hk).imp id (fun h9 => by omega))
            have NQ9 := Aside0.mk (show ∀ k, vq.ownBlock = some k → (Value.slice A1 P.length c1).ownBlock = some k ∨ W9.heap.size ≤ k from fun k hk => (HN.out k hk).imp id (fun h9 => by omega))
            clear hvq0 hWQe hQ q3 q4 cz9 cz8 cz4 cz1 hsum LN8 Q2 Q3 Q4 s0 s1 s2 s3 s4 x2 x3 x4 HK6 HDD HNM HNP
            obtain ⟨t0, t1, t2, t3, t4, u2, u3, u4⟩ := blk5_facts HQ.out.blk
            obtain ⟨Aq, cq, hvq⟩ := own_form HQ.out.own
            subst hvq
            by_cases hm0 : 0 < most
            · by_cases hm1 : most < (Q.length : Int)
              · have CP := Aside0.mk (fun n => scompact_any (WQ.drewN n) (HQ.out.below (below_drewN (Below.refl _ _) n)) (fun b hb => HO'.out b (Nat.le_trans HKQ.out.size (by simpa using hb))))
                have hq2 : 1 < Q.length := by omega
                gi_wp2
                refine wpIn_wide.2 ?_
                go_quiet (fail)
                all_goals
                  gi_wp2_with (refine ⟨trivial, ?_⟩; first | (gi_at_call 26; refine (callsIn_wide.2 (CP.out _)).mono ?_; rintro e w7 ⟨rfl, v7, P7, H7, hcm, hk7, hv7⟩; have H7 := Aside0.mk H7; have HCM := Aside0.mk hcm; have HK7 := Aside0.mk hk7; have HV7 := Aside0.mk hv7; obtain ⟨p0, p1, p2, p3, p4, y2, y3, y4⟩ := blk5_facts H7.out.blk; have cz : w7.cell? ⟨w.heap.size, 0, none⟩ = some (.pointer (some ⟨g, 0, none⟩)) := HK7.out.cell cQ (fun e => hn1 e); have LN7 := Aside0.mk (len_any w7 _ _ _ _ H7.out.del); clear hcm hk7 hv7) | (gi_at_call 18; refine (callsIn_wide.2 (LN7.out)).mono ?_; rintro e w' ⟨rfl, rfl⟩))
                  have k97 := HKQ.out.then_ (S2 := (· = g)) (((Kept.refl WQ (· = g)).drewN _).then_ HK7.out (fun k hk => .inl hk)) (fun k hk => .inl (.inl hk))
                  have hD7 := Aside0.mk ((HK7.out.blk D9 (by simpa using (Array.getElem?_eq_some_iff.1 HDQ.out).1) (fun e => hD9g e)).trans HDQ.out)
                  have own7 := own_old (w := w) (m := w.heap.size) (HV7.out.imp id (fun ⟨k, h1, h2⟩ => ⟨k, h1, Nat.le_trans hWQ (by simpa using h2)⟩)) NQ.out
                  have own7' := own_old (w := w) (m := W9.heap.size) (HV7.out.imp id (fun ⟨k, h1, h2⟩ => ⟨k, h1, Nat.le_trans HKQ.out.size (by simpa using h2)⟩)) NQ9.out
                  have HF := H7.out.finish HBW.out k97 hDw hgl (fun k hk e => own_ne (own7' k hk) (fun h1 => (H.out.own.lt k h1).2) hDw hD9 e)
                  obtain ⟨pq, hpq⟩ := HCM.out.2 hq2
                  have SP := Stepped.one QM.out QL.out QC.out ⟨hm0, hm1⟩ hpq HQ.out.mem_full HQ.out.full_len
                  refine ⟨by simp, .inl ⟨_, _, rfl, run_takeDeferred hD7.out, ?_⟩⟩
                  rw [HDN.out]
                  exact ⟨_, results_tmp rfl _ _ _, v7, P7, _, rfl, HF.1, SP, HF.2, own7⟩
              · have SP := Aside0.mk (SPN.out (fun h => hm1 h.2))
                have LNQ := Aside0.mk (fun n => len_any (WQ.drewN n) _ _ _ _ (HQ.out.del.below (below_drewN (Below.refl _ _) n)))
                gi_wp2
                refine wpIn_wide.2 ?_
                go_quiet (fail)
                all_goals
                  gi_wp2_with (refine ⟨trivial, ?_⟩; (gi_at_call 18; refine (callsIn_wide.2 (LNQ.out _)).mono ?_; rintro e w' ⟨rfl, rfl⟩))
                  have HF := fun n => (HQ.out.below (below_drewN (Below.refl _ _) n)).finish HBW.out (HKQ.out.drewN n) hDw hgl (fun k hk e => own_ne (NQ9.out k hk) (fun h1 => (H.out.own.lt k h1).2) hDw hD9 e)
                  refine ⟨by simp, .inl ⟨_, _, rfl, run_takeDeferred HDQ.out, ?_⟩⟩
                  rw [HDN.out]
                  exact ⟨_, results_tmp rfl _ _ _, _, Q, _, rfl, (HF _).1, SP.out, (HF _).2, NQ.out⟩
            · have SP := Aside0.mk (SPN.out (fun h => hm0 h.1))
              have hmd : decide (0 < most) = false := decide_eq_false hm0
              have LNQ := Aside0.mk (fun n => len_any (WQ.drewN n) _ _ _ _ (HQ.out.del.below (below_drewN (Below.refl _ _) n)))
              gi_wp2
              refine wpIn_wide.2 ?_
              go_quiet (fail)
              all_goals
                gi_wp2_with (refine ⟨trivial, ?_⟩; (gi_at_call 18; refine (callsIn_wide.2 (LNQ.out _)).mono ?_; rintro e w' ⟨rfl, rfl⟩))
                have HF := fun n => (HQ.out.below (below_drewN (Below.refl _ _) n)).finish HBW.out (HKQ.out.drewN n) hDw hgl (fun k hk e => own_ne (NQ9.out k hk) (fun h1 => (H.out.own.lt k h1).2) hDw hD9 e)
                refine ⟨by simp, .inl ⟨_, _, rfl, run_takeDeferred HDQ.out, ?_⟩⟩
                rw [HDN.out]
                exact ⟨_, results_tmp rfl _ _ _, _, Q, _, rfl, (HF _).1, SP.out, (HF _).2, NQ.out⟩
      · have hDe : DN = [] := by cases DN with | nil => rfl | cons x l => simp at hd
        subst hDe
        have hdi : ¬ (0 : Int) < (([] : List Row).length : Int) := by simp
        obtain ⟨Q, hQ⟩ : ∃ Q, Q = P := ⟨_, rfl⟩
        obtain ⟨WQ, hWQe⟩ : ∃ WQ, WQ = W6 := ⟨_, rfl⟩
        have HQ := Aside0.mk (show StoreS WQ B (fun b => O b ∧ b ≠ D9) g W most v Q (some ⟨gd, 0, none⟩) [] by rw [hQ, hWQe]; exact HD6.out)
        have SPN := Aside0.mk (show ¬ (0 < most ∧ most < (Q.length : Int)) → Stepped most P Q [] by rw [hQ]; exact Stepped.same)
        have QM := Aside0.mk (show ∀ r, r ∈ allR Q ↔ r ∈ allR P ∨ r ∈ ([] : List Row) by rw [hQ]; simp)
        have QL := Aside0.mk (show (allR Q).length = (allR P).length + ([] : List Row).length by rw [hQ]; simp)
        have QC := Aside0.mk (show Q.length = P.length + if ([] : List Row) = [] then 0 else 1 by rw [hQ]; simp)
        have HKQ := Aside0.mk (show Kept W9 WQ (fun k => k = g ∨ v.ownBlock = some k) by rw [hWQe]; exact HK6.out.mono (fun k hk => .inl hk))
        have HDQ := Aside0.mk (show WQ.heap[D9]? = some (.deferred (some [])) by rw [hWQe]; exact HDD.out)
        have cQ : WQ.cell? ⟨w.heap.size, 0, none⟩ = some (.pointer (some ⟨g, 0, none⟩)) := by rw [hWQe]; exact hcy0
        have hWQ : w.heap.size ≤ WQ.heap.size := by rw [hWQe]; omega
        have NQ := Aside0.mk (show ∀ k, v.ownBlock = some k → v.ownBlock = some k ∨ w.heap.size ≤ k from fun k hk => .inl hk)
        have NQ9 := Aside0.mk (show ∀ k, v.ownBlock = some k → v.ownBlock = some k ∨ W9.heap.size ≤ k from fun k hk => .inl hk)
        have LN6 := Aside0.mk (len_any WQ _ _ _ _ HQ.out.del)
        rw [← hWQe]
        clear hQ hWQe HD6 HK6 HDD hcy0 HNM HNP r0 r1 r2 r3 r4 e2 e3 e4
        obtain ⟨r0, r1, r2, r3, r4, e2, e3, e4⟩ := blk5_facts HQ.out.blk
        gi_wp2_with (refine ⟨trivial, ?_⟩; gi_at_call 18; refine (callsIn_wide.2 LN6.out).mono ?_; rintro e w' ⟨rfl, rfl⟩)
        obtain ⟨t0, t1, t2, t3, t4, u2, u3, u4⟩ := blk5_facts HQ.out.blk
        obtain ⟨Aq, cq, hvq⟩ := own_form HQ.out.own
        subst hvq
        by_cases hm0 : 0 < most
        · by_cases hm1 : most < (Q.length : Int)
          · have CP := Aside0.mk (fun n => scompact_any (WQ.drewN n) (HQ.out.below (below_drewN (Below.refl _ _) n)) (fun b hb => HO'.out b (Nat.le_trans HKQ.out.size (by simpa using hb))))
            have hq2 : 1 < Q.length := by omega
            gi_wp2
            refine wpIn_wide.2 ?_
            go_quiet (fail)
            all_goals
              gi_wp2_with (refine ⟨trivial, ?_⟩; first | (gi_at_call 26; refine (callsIn_wide.2 (CP.out _)).mono ?_; rintro e w7 ⟨rfl, v7, P7, H7, hcm, hk7, hv7⟩; have H7 := Aside0.mk H7; have HCM := Aside0.mk hcm; have HK7 := Aside0.mk hk7; have HV7 := Aside0.mk hv7; obtain ⟨p0, p1, p2, p3, p4, y2, y3, y4⟩ := blk5_facts H7.out.blk; have cz : w7.cell? ⟨w.heap.size, 0, none⟩ = some (.pointer (some ⟨g, 0, none⟩)) := HK7.out.cell cQ (fun e => hn1 e); have LN7 := Aside0.mk (len_any w7 _ _ _ _ H7.out.del); clear hcm hk7 hv7) | (gi_at_call 18; refine (callsIn_wide.2 (LN7.out)).mono ?_; rintro e w' ⟨rfl, rfl⟩))
              have k97 := HKQ.out.then_ (S2 := (· = g)) (((Kept.refl WQ (· = g)).drewN _).then_ HK7.out (fun k hk => .inl hk)) (fun k hk => .inl (.inl hk))
              have hD7 := Aside0.mk ((HK7.out.blk D9 (by simpa using (Array.getElem?_eq_some_iff.1 HDQ.out).1) (fun e => hD9g e)).trans HDQ.out)
              have own7 := own_old (w := w) (m := w.heap.size) (HV7.out.imp id (fun ⟨k, h1, h2⟩ => ⟨k, h1, Nat.le_trans hWQ (by simpa using h2)⟩)) NQ.out
              have own7' := own_old (w := w) (m := W9.heap.size) (HV7.out.imp id (fun ⟨k, h1, h2⟩ => ⟨k, h1, Nat.le_trans HKQ.out.size (by simpa using h2)⟩)) NQ9.out
              have HF := H7.out.finish HBW.out k97 hDw hgl (fun k hk e => own_ne (own7' k hk) (fun h1 => (H.out.own.lt k h1).2) hDw hD9 e)
              obtain ⟨pq, hpq⟩ := HCM.out.2 hq2
              have SP := Stepped.one QM.out QL.out QC.out ⟨hm0, hm1⟩ hpq HQ.out.mem_full HQ.out.full_len
              refine ⟨by simp, .inl ⟨_, _, rfl, run_takeDeferred hD7.out, ?_⟩⟩
              rw [HDN.out]
              exact ⟨_, results_tmp rfl _ _ _, v7, P7, _, rfl, HF.1, SP, HF.2, own7⟩
          · have SP := Aside0.mk (SPN.out (fun h => hm1 h.2))
            have LNQ := Aside0.mk (fun n => len_any (WQ.drewN n) _ _ _ _ (HQ.out.del.below (below_drewN (Below.refl _ _) n)))
            gi_wp2
            refine wpIn_wide.2 ?_
            go_quiet (fail)
            all_goals
              gi_wp2_with (refine ⟨trivial, ?_⟩; (gi_at_call 18; refine (callsIn_wide.2 (LNQ.out _)).mono ?_; rintro e w' ⟨rfl, rfl⟩))
              have HF := fun n => (HQ.out.below (below_drewN (Below.refl _ _) n)).finish HBW.out (HKQ.out.drewN n) hDw hgl (fun k hk e => own_ne (NQ9.out k hk) (fun h1 => (H.out.own.lt k h1).2) hDw hD9 e)
              refine ⟨by simp, .inl ⟨_, _, rfl, run_takeDeferred HDQ.out, ?_⟩⟩
              rw [HDN.out]
              exact ⟨_, results_tmp rfl _ _ _, _, Q, _, rfl, (HF _).1, SP.out, (HF _).2, NQ.out⟩
        · have SP := Aside0.mk (SPN.out (fun h => hm0 h.1))
          have hmd : decide (0 < most) = false := decide_eq_false hm0
          have LNQ := Aside0.mk (fun n => len_any (WQ.drewN n) _ _ _ _ (HQ.out.del.below (below_drewN (Below.refl _ _) n)))
          gi_wp2
          refine wpIn_wide.2 ?_
          go_quiet (fail)
          all_goals
            gi_wp2_with (refine ⟨trivial, ?_⟩; (gi_at_call 18; refine (callsIn_wide.2 (LNQ.out _)).mono ?_; rintro e w' ⟨rfl, rfl⟩))
            have HF := fun n => (HQ.out.below (below_drewN (Below.refl _ _) n)).finish HBW.out (HKQ.out.drewN n) hDw hgl (fun k hk e => own_ne (NQ9.out k hk) (fun h1 => (H.out.own.lt k h1).2) hDw hD9 e)
            refine ⟨by simp, .inl ⟨_, _, rfl, run_takeDeferred HDQ.out, ?_⟩⟩
            rw [HDN.out]
            exact ⟨_, results_tmp rfl _ _ _, _, Q, _, rfl, (HF _).1, SP.out, (HF _).2, NQ.out⟩
  case stop =>
    rintro D' c pre U W' _ h
    exact h.elim
end Go.Proofs.Ytcaonlddhbgnjaa.Mg
