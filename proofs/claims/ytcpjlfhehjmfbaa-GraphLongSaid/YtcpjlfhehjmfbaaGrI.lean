/- Contract: the finder's walk. -/
import Derived.Test.YtcpjlfhehjmfbaaGrH
namespace Go.Proofs.Ytcpjlfhehjmfbaa.Gr
open Go.RowKit Go.Shelf Go.Proofs.Ytcpjlfhehjmfbaa.Sg
set_option linter.unusedVariables false
set_option linter.unusedSimpArgs false

theorem FI.pathKept {w W : World} {B f n : Nat} {ev : Value} {es : List Row} {bo bl bh bc : Nat} {sv : Value} {s : St} {b : Nat} (h : FI w B f n ev es bo bl bh bc sv s) (hk : Kept w W (· = b)) (hb : B ≤ b) (hn : ¬ FF f bo bl bh bc sv b) : FI W B f n ev es bo bl bh bc sv s :=
  h.kept hk (fun k e => by have e : k = b := e; subst e; exact hb) (fun k hF e => by have e : k = b := e; subst e; exact hn hF)
theorem ff_sub {f bo bl bh bc m : Nat} {sv sv1 : Value} (h : ∀ k, sv1.ownBlock = some k → sv.ownBlock = some k ∨ m ≤ k) : ∀ k, FF f bo bl bh bc sv1 k → FF f bo bl bh bc sv k ∨ m ≤ k := fun k hk => by
  unfold FF at *
  rcases hk with e | e | e | e | e | e
  · exact .inl (.inl e)
  · exact .inl (.inr (.inl e))
  · exact .inl (.inr (.inr (.inl e)))
  · exact .inl (.inr (.inr (.inr (.inl e))))
  · exact .inl (.inr (.inr (.inr (.inr (.inl e)))))
  · exact (h k e).imp (fun e => .inr (.inr (.inr (.inr (.inr e))))) id
theorem ff_other {f bo bl bh bc b : Nat} {sv sv1 : Value} (h : ¬ FF f bo bl bh bc sv b) (hn : sv1.ownBlock = some b → sv.ownBlock = some b) : ¬ FF f bo bl bh bc sv1 b := fun k => by
  unfold FF at *
  rcases k with e | e | e | e | e | e
  · exact h (.inl e)
  · exact h (.inr (.inl e))
  · exact h (.inr (.inr (.inl e)))
  · exact h (.inr (.inr (.inr (.inl e))))
  · exact h (.inr (.inr (.inr (.inr (.inl e)))))
  · exact h (.inr (.inr (.inr (.inr (.inr (hn e))))))
/-- What the memory is each time the way is looked at. -/
structure WM (w wr : World) (B f n : Nat) (ev : Value) (es : List Row) (bo bl bh bc : Nat) (sv : Value) (b cap : Nat) (p : List (Nat × Nat)) (s : St) (sv1 : Value) : Prop where
  fi : FI wr B f n ev es bo bl bh bc sv1 s
  path : PathAt wr B b cap p
  nff : ¬ FF f bo bl bh bc sv1 b
  new : w.heap.size ≤ b
  kept : Kept w wr (FF f bo bl bh bc sv)
  own : ∀ k, sv1.ownBlock = some k → sv.ownBlock = some k ∨ w.heap.size ≤ k
theorem WM.below {w wr W : World} {B f n : Nat} {ev : Value} {es : List Row} {bo bl bh bc : Nat} {sv : Value} {b cap : Nat} {p : List (Nat × Nat)} {s : St} {sv1 : Value} (h : WM w wr B f n ev es bo bl bh bc sv b cap p s sv1) (hb : Below wr.heap.size wr W) : WM w W B f n ev es bo bl bh bc sv b cap p s sv1 :=
  ⟨h.fi.below hb, h.path.stays (Kept.of_below hb (fun _ => False)) (fun h => h), h.nff, h.new, h.kept.then_ (Kept.of_below hb (fun _ => False)) (fun _ h => h.elim), h.own⟩
theorem WM.inc {w wr : World} {B f n : Nat} {ev : Value} {es : List Row} {bo bl bh bc : Nat} {sv : Value} {b cap a e : Nat} {q : List (Nat × Nat)} {s : St} {sv1 : Value} (h : WM w wr B f n ev es bo bl bh bc sv b cap ((a, e) :: q) s sv1) : WM w (wr.setCell ⟨b, q.length * 2 + 1, none⟩ (.int .i64 ((e + 1 : Nat) : Int))) B f n ev es bo bl bh bc sv b cap ((a, e + 1) :: q) s sv1 := by
  have hk : Kept wr (wr.setCell ⟨b, q.length * 2 + 1, none⟩ (.int .i64 ((e + 1 : Nat) : Int))) (· = b) := (Kept.refl wr (· = b)).setCell (p := ⟨b, q.length * 2 + 1, none⟩) (.inl rfl) _
  exact ⟨h.fi.pathKept hk h.path.lt.1 h.nff, h.path.inc, h.nff, h.new, h.kept.setCell (p := ⟨b, q.length * 2 + 1, none⟩) (.inr h.new) _, h.own⟩
theorem WM.low {w wr : World} {B f n : Nat} {ev : Value} {es : List Row} {bo bl bh bc : Nat} {sv : Value} {b cap : Nat} {p : List (Nat × Nat)} {s : St} {sv1 : Value} (h : WM w wr B f n ev es bo bl bh bc sv b cap p s sv1) (i x : Nat) : WM w (wr.setCell ⟨bl, i, none⟩ (.int .i64 (x : Int))).drew B f n ev es bo bl bh bc sv b cap p { s with low := upd s.low i x } sv1 := by
  have hk : Kept wr (wr.setCell ⟨bl, i, none⟩ (.int .i64 (x : Int))).drew (FF f bo bl bh bc sv1) := ((Kept.refl wr _).setCell (p := ⟨bl, i, none⟩) (.inl (ff_new _ (.inr (.inl rfl)))) _).drew
  exact ⟨(h.fi.setLow i x).drew, h.path.stays hk h.nff, h.nff, h.new, (h.kept.setCell (p := ⟨bl, i, none⟩) (.inl (ff_new _ (.inr (.inl rfl)))) _).drew, h.own⟩
/-- Behind a call that turns the finder alone. -/
theorem WM.called {w wr W : World} {B f n : Nat} {ev : Value} {es : List Row} {bo bl bh bc : Nat} {sv : Value} {b cap : Nat} {p : List (Nat × Nat)} {s s2 : St} {sv1 sv2 : Value} (h : WM w wr B f n ev es bo bl bh bc sv b cap p s sv1) (hf : FI W B f n ev es bo bl bh bc sv2 s2) (hk : Kept wr W (FF f bo bl bh bc sv1)) (hn : ∀ k, sv2.ownBlock = some k → sv1.ownBlock = some k ∨ wr.heap.size ≤ k) : WM w W B f n ev es bo bl bh bc sv b cap p s2 sv2 := by
  have hs := h.kept.size
  refine ⟨hf, h.path.stays hk h.nff, ff_other h.nff (fun e => (hn b e).elim id (fun k => by have := h.path.lt.2; omega)), h.new, h.kept.then_ hk (ff_sub h.own), fun k hk2 => ?_⟩
  rcases hn k hk2 with q | q
  · exact h.own k q
  · exact .inr (by omega)
theorem WM.pop {w wr : World} {B f n : Nat} {ev : Value} {es : List Row} {bo bl bh bc : Nat} {sv : Value} {b cap a e : Nat} {q : List (Nat × Nat)} {s : St} {sv1 : Value} (h : WM w wr B f n ev es bo bl bh bc sv b cap ((a, e) :: q) s sv1) : WM w wr B f n ev es bo bl bh bc sv b cap q s sv1 :=
  ⟨h.fi, h.path.pop, h.nff, h.new, h.kept, h.own⟩
/-- Behind an append to the way. -/
theorem WM.pushed {w wr W : World} {B f n : Nat} {ev : Value} {es : List Row} {bo bl bh bc : Nat} {sv : Value} {b cap b1 cap1 t : Nat} {p : List (Nat × Nat)} {s : St} {sv1 : Value} {o : Obj} (h : WM w wr B f n ev es bo bl bh bc sv b cap p s sv1) (hg : (wr.alloc o).grownBy W (some b)) (ho : W.ownsRow B 55 2 (.slice (some ⟨b1, 0, none⟩) (p.length + 1) cap1) (p.length + 1) (cellsF p.reverse ++ [.int .i64 (t : Int), .int .i64 0])) (hb : b1 = b ∨ b1 = wr.heap.size + 1) :
    WM w W B f n ev es bo bl bh bc sv b1 cap1 ((t, 0) :: p) s sv1 := by
  have hk : Kept wr W (· = b) := Kept.of_grown hg ((Kept.refl wr _).alloc o) (fun k e => .inl (Option.some.inj e).symm)
  have hs := h.kept.size
  have hge := h.fi.ffge
  refine ⟨h.fi.pathKept hk h.path.lt.1 h.nff, ?_, fun k => ?_, ?_, h.kept.then_ hk (fun k e => .inr (by have e : k = b := e; subst e; exact h.new)), h.own⟩
  · unfold PathAt
    rw [path_cells]
    exact ho
  · rcases hb with e | e
    · subst e; exact h.nff k
    · have := (hge _ k).2; omega
  · rcases hb with e | e
    · subst e; exact h.new
    · omega
theorem adj_lt {n : Nat} {es : List Row} {a e t : Nat} (h : (adj n es a)[e]? = some (some t)) : t < n := by
  unfold adj at h
  rw [List.getElem?_map] at h
  obtain ⟨x, _, hx⟩ := Option.map_eq_some_iff.1 h
  split at hx
  · rename_i q; have := Option.some.inj hx; omega
  · cases hx
theorem min_cast (x y : Nat) : min (x : Int) (y : Int) = ((min x y : Nat) : Int) := by omega
set_option maxHeartbeats 2000000 in
set_option maxRecDepth 100000 in
theorem walk_any (w : World) (B f n : Nat) (ev : Value) (es : List Row) (bo bl bh bc : Nat) (sv : Value) (s : St) (h : FI w B f n ev es bo bl bh bc sv s) (hG : Gd (adj n es) n s []) (u : Nat) (hu : u < n) (h0 : s.ord u = 0) (hn : n < 1000000) :
    Calls Try.prog 20 #[.pointer (some ⟨f, 0, none⟩), .int .i64 (u : Int)] w fun e w' => e = .returned (.tuple #[]) ∧ ∃ s' sv', FI w' B f n ev es bo bl bh bc sv' s' ∧ Gd (adj n es) n s' [] ∧ 0 < s'.ord u ∧ (∀ v, 0 < s.ord v → 0 < s'.ord v) ∧ Kept w w' (FF f bo bl bh bc sv) ∧ (∀ k, sv'.ownBlock = some k → sv.ownBlock = some k ∨ w.heap.size ≤ k) := by
  have mixed : Try.prog.follows .mixedOrders = true := by kernel_rfl
  obtain ⟨i0, hi0, z0, z1, z2⟩ := info_parts info_frame
  have hbd := hG.bounds
  obtain ⟨Ae, ce, hev, he1, he2, he3⟩ := h.edges.form
  have hel := h.elen
  rw [hel] at hev he1 he2
  subst hev
  have HEL := Aside0.mk hel
  clear hel
  have M0 := Aside0.mk (meet_any w B f n _ es bo bl bh bc sv s h u hu hn (by omega) (by omega))
  have HG0 := Aside0.mk (hG.start h0 hu)
  have HF0 := Aside0.mk h
  clear h hG hbd
  go_enter Try.func20, Try.ntmps20
  go_wp2_with fail
  refine M0.out.mono ?_
  rintro e w1 ⟨rfl, sv1, F1, K1, N1⟩
  have hge1 := F1.ffge
  have hsz1 := K1.size
  have BA := below_alloc0 (Below.refl w1.heap.size w1) (.cells #[.int .i64 (u : Int), .int .i64 0] 55)
  have W0 := Aside0.mk (show WM w (w1.alloc (.cells #[.int .i64 (u : Int), .int .i64 0] 55)) B f n _ es bo bl bh bc sv w1.heap.size 1 [(u, 0)] (meet s u) sv1 from
    { fi := F1.below BA
      path := by
        have := World.ownsRow_lit (base := B) (e := 55) (size := 2) w1 #[.int .i64 (u : Int), .int .i64 0] 1 (by have := (hge1 f (.inl rfl)); omega) (by unfold maxLen; omega) rfl
        exact this
      nff := fun k => by have := (hge1 _ k).2; omega
      new := hsz1
      kept := K1.alloc _
      own := N1 })
  have P0 := Aside0.mk (show (∀ v, 0 < s.ord v → 0 < (meet s u).ord v) ∧ 0 < (meet s u).ord u from ⟨fun v hv => by
    show 0 < upd s.ord u (s.next + 1) v
    by_cases e : v = u
    · subst e; rw [upd_same]; omega
    · rw [upd_ne _ _ _ e]; exact hv, by
    show 0 < upd s.ord u (s.next + 1) u
    rw [upd_same]; omega⟩)
  clear F1 K1 N1 hge1 hsz1 BA M0 HF0
  go_wp2_with fail
  go_loopg [4] (todo (adj n es) n (meet s u) [(u, 0)]) (fun g s4 wr => ∃ (p : List (Nat × Nat)) (s1 : St) (sv1 : Value) (b cap : Nat), s4 = .slice (some ⟨b, 0, none⟩) p.length cap ∧ todo (adj n es) n s1 p ≤ g ∧ Aside0 (Gd (adj n es) n s1 p) ∧ Aside0 ((∀ v, 0 < s.ord v → 0 < s1.ord v) ∧ 0 < s1.ord u) ∧ Aside0 (WM w wr B f n (.slice Ae n ce) es bo bl bh bc sv b cap p s1 sv1))
  case atStart => exact ⟨[(u, 0)], meet s u, sv1, w1.heap.size, 1, rfl, Nat.le_refl _, HG0, P0, W0⟩
  case round =>
    clear W0 HG0 P0
    obtain ⟨p, s1, sv2, b, cap, rfl, hg, HGD, HP, HW⟩ := hrel
    cases p with
    | nil =>
      go_wp2
      go_end0
      exact ⟨rfl, s1, sv2, HW.out.fi, HGD.out, HP.out.2, HP.out.1, HW.out.kept, HW.out.own⟩
    | cons fr q =>
      obtain ⟨a, e⟩ := fr
      obtain ⟨bd1, bd2, bd3, bd4⟩ := HGD.out.bounds
      have hheld := HGD.out.inv.pheld (a, e) (List.mem_cons_self ..)
      have hmet := HGD.out.inv.heldMet a hheld
      have han : a < n := (HGD.out.inv.lt a hmet).1
      have hple := HGD.out.inv.plen (a, e) (List.mem_cons_self ..)
      simp only at hple
      have hael : a < es.length := by rw [HEL.out]; exact han
      have hal := adj_len (n := n) hael
      obtain ⟨k0, k1, k2, k3, k4, k5, k6, k7, g4, g6, g7⟩ := HW.out.fi.fblk
      obtain ⟨t1, t2, t3, t4, t5⟩ := HW.out.path.top
      obtain ⟨b1, o1, u1, rfl, -, -, hc1, hr1⟩ := HW.out.fi.edges.at_ a hael
      obtain ⟨A2, c2, hu1, hm1, hm2, hm3⟩ := hr1.form
      rw [← hal] at hu1 hm1 hm2
      subst hu1
      obtain ⟨ml, hml⟩ : ∃ ml, (adj n es a).length = ml := ⟨_, rfl⟩
      rw [hml] at hc1 hm1 hm2 hple
      have HML := Aside0.mk hml
      obtain ⟨mq, hmq⟩ : ∃ mq, q.length = mq := ⟨_, rfl⟩
      rw [hmq] at t1 t2 t3 t4
      rw [List.length_cons, hmq] at bd4
      rw [List.length_cons, hmq]
      have HMQ := Aside0.mk hmq
      have HFU := Aside0.mk hg
      have hai : (a : Int) < (n : Int) := by omega
      have ta : ((a : Nat) : Int).toNat = a := by omega
      have tq : ((mq : Nat) : Int).toNat = mq := by omega
      have wq : IntKind.i64.wrap (mq : Int) = (mq : Int) := by rw [IntKind.wrap_i64]; omega
      have lq : (mq : Int) < (mq : Int) + 1 := by omega
      have HA := Aside0.mk (And.intro hheld han)
      clear hr1 hal hael hml hmq hg hheld hmet
      by_cases hel : e < ml
      · have hez : (e : Int) < (ml : Int) := by omega
        go_wp2_with fail
        go_quiet (fail)
        go_wp2_with fail
        have HM5 := HW.out.below (below_drewN (Below.refl _ _) nq)
        clear hc1 k0 k1 k2 k3 k4 k5 k6 k7 g4 g6 g7 t1 t2 t3
        clear HW
        generalize wr.drewN nq = w5 at HM5 ⊢
        replace HM5 := Aside0.mk HM5
        obtain ⟨k0, k1, k2, k3, k4, k5, k6, k7, g4, g6, g7⟩ := HM5.out.fi.fblk
        obtain ⟨t1, t2, t3, -, -⟩ := HM5.out.path.top
        rw [HMQ.out] at t1 t2 t3
        obtain ⟨o, ho⟩ : ∃ o, (adj n es a)[e]? = some o := ⟨_, List.getElem?_eq_getElem (by rw [HML.out]; exact hel)⟩
        have TO := Aside0.mk (fun qn => to_any (w5.drewN qn) B f n _ es bo bl bh bc sv2 s1 (HM5.out.fi.below (below_drewN (Below.refl _ _) qn)) a e han o ho hn)
        have HO := Aside0.mk ho
        clear ho
        go_quiet ((go_at_call 26; exact quiet_eqG (TO.out _)))
        have HM6 := HM5.out.below (below_drewN (Below.refl _ _) nq)
        clear k0 k1 k2 k3 k4 k5 k6 k7 g4 g6 g7 t1 t2 t3 HM5 TO
        generalize w5.drewN nq = w6 at HM6 ⊢
        obtain ⟨k0, k1, k2, k3, k4, k5, k6, k7, g4, g6, g7⟩ := HM6.fi.fblk
        obtain ⟨t1, t2, t3, -, -⟩ := HM6.path.top
        rw [HMQ.out] at t1 t2 t3
        have HM7 := HM6.inc
        rw [HMQ.out] at HM7
        have HM7' : Aside0 (WM w (w6.setCell ⟨b, mq * 2 + 1, none⟩ (.int .i64 ((e : Int) + 1))) B f n _ es bo bl bh bc sv b cap ((a, e + 1) :: q) s1 sv2) := ⟨HM7⟩
        clear HM6 HM7
        have ebig : e < 17592186044416 := by omega
        cases o with
        | none => as_aux_lemma =>
          have hto : toI none = -1 := rfl
          rw [hto]
          have GN := Aside0.mk (HGD.out.skip (by rw [HML.out]; exact hel) (fun t ht => absurd (ht.symm.trans HO.out) (by simp)))
          have TD := Aside0.mk (todo_skip (A := adj n es) (n := n) (s := s1) (s' := s1) (p := q) (u := a) (e := e) rfl (by rw [HML.out]; exact hel))
          clear hto
          go_wp2
          go_roundg (todo (adj n es) n s1 ((a, e + 1) :: q))
          case rel => exact ⟨(a, e + 1) :: q, s1, sv2, b, cap, by rw [List.length_cons, HMQ.out], Nat.le_refl _, GN, HP, HM7'⟩
          case measure => have h1 := TD.out; have h2 := HFU.out; omega
        | some t =>
          have htn : t < n := adj_lt HO.out
          have hto : toI (some t) = (t : Int) := rfl
          rw [hto]
          have tz : ¬ (t : Int) < 0 := by omega
          have hti : (t : Int) < (n : Int) := by omega
          have tt : ((t : Nat) : Int).toNat = t := by omega
          obtain ⟨f1', f2', f3', f4', y1, y2, y3, y4⟩ := HM7'.out.fi.fcell htn
          obtain ⟨m0, m1, m2, m3, m4, m5, m6, m7, n4, n6, n7⟩ := HM7'.out.fi.fblk
          obtain ⟨W7, hW7⟩ : ∃ W7, w6.setCell ⟨b, mq * 2 + 1, none⟩ (.int .i64 ((e : Int) + 1)) = W7 := ⟨_, rfl⟩
          rw [hW7] at HM7' f1' f2' f3' f4' m0 m1 m2 m3 m4 m5 m6 m7 y1 y2 y3 y4 n4 n6 n7
          clear hto
          by_cases ho0 : s1.ord t = 0
          · as_aux_lemma =>
              have hoz : (s1.ord t : Int) = 0 := by omega
              have MT := Aside0.mk (meet_any W7 B f n _ es bo bl bh bc sv2 s1 HM7'.out.fi t htn hn (by omega) (by omega))
              have GN := Aside0.mk (HGD.out.go HO.out ho0 htn)
              have TD := Aside0.mk (todo_go (A := adj n es) (n := n) (s := s1) (p := q) (u := a) (e := e) ho0 htn (by rw [HML.out]; exact hel))
              go_wp2_with fail
              refine MT.out.mono ?_
              rintro e w8 ⟨rfl, sv3, F8, K8, N8⟩
              have HM8 := Aside0.mk (HM7'.out.called F8 K8 N8)
              have HP8 := Aside0.mk (show w8.ownsRow B 55 2 (.slice (some ⟨b, 0, none⟩) (mq + 1) cap) (mq + 1) (cellsF ((a, e + 1) :: q).reverse) from by
                have h1 := HM8.out.path
                unfold PathAt at h1
                rw [List.length_cons, HMQ.out] at h1
                exact h1)
              have hsz8 := HM8.out.path.lt
              have h63 := Aside0.mk (show mq + 1 + 1 ≤ maxLen by unfold maxLen; omega)
              have hby := Aside0.mk (show (mq + 1 + 1) * 16 ≤ 140737488355328 by omega)
              have hsz := Aside0.mk (fun o => (show B ≤ (w8.alloc o).heap.size by simp; omega))
              clear F8 K8 N8 MT HM7' hW7 hsz8
              go_wp2_with (at_builtin; refine wpList_append_own_at _ rfl (.tmp 71) (.tmp 74) 56 rfl B 55 i0 (.agg #[.int .i64 0, .int .i64 0]) 2 16 Try.underlying56 hi0 z0 z1 z2 rfl (by decide) _ _ _ rfl (HP8.out.alloc _) ⟨w8.heap.size, 0, none⟩ 1 1 [Value.int .i64 (t : Int), Value.int .i64 0] rfl rfl (news2G _ _ _ _) (by simp [Value.oneCell']) h63.out hby.out (hsz.out _) ?_; intro v1 w10 ho hg _ hb; obtain ⟨b3, cap3, rfl, -⟩ := own_formN ho; have O1 := Aside0.mk ho; have G1 := Aside0.mk hg; have N1 := Aside0.mk hb; clear ho hg hb)
              go_roundg (todo (adj n es) n (meet s1 t) ((t, 0) :: (a, e + 1) :: q))
              case rel =>
                have hb3 : b3 = b ∨ b3 = w8.heap.size + 1 := by
                  rcases N1.out with hb | hb
                  · exact .inl (Option.some.inj hb)
                  · exact .inr (by have := Option.some.inj hb; simpa using this)
                refine ⟨(t, 0) :: (a, e + 1) :: q, meet s1 t, sv3, b3, cap3, by rw [List.length_cons, List.length_cons, HMQ.out], Nat.le_refl _, GN, ⟨fun v hv => ?_, ?_⟩, ⟨HM8.out.pushed G1.out (by rw [List.length_cons, HMQ.out]; exact O1.out) hb3⟩⟩
                · have h1 := HP.out.1 v hv
                  show 0 < upd s1.ord t (s1.next + 1) v
                  by_cases q : v = t
                  · subst q; rw [upd_same]; omega
                  · rw [upd_ne _ _ _ q]; exact h1
                · have h1 := HP.out.2
                  show 0 < upd s1.ord t (s1.next + 1) u
                  by_cases q : u = t
                  · subst q; rw [upd_same]; omega
                  · rw [upd_ne _ _ _ q]; exact h1
              case measure => have h1 := TD.out; have h2 := HFU.out; omega
          · have hoz : (s1.ord t : Int) ≠ 0 := by omega
            have hoz2 : ((s1.ord t : Int) == 0) = false := by rw [beq_eq_false_iff_ne]; exact hoz
            have TD := Aside0.mk (todo_skip (A := adj n es) (n := n) (s := s1) (p := q) (u := a) (e := e) (s' := s1) rfl (by rw [HML.out]; exact hel))
            cases hht : s1.held t with
            | false => as_aux_lemma =>
              have hb0 : hb s1.held t = 0 := by unfold hb; rw [hht]; rfl
              rw [hb0] at f3'
              have GN := Aside0.mk (HGD.out.skip (by rw [HML.out]; exact hel) (fun t' ht => by
                have h1 := ht.symm.trans HO.out
                injection h1 with h1
                injection h1 with h1
                subst h1
                exact ⟨by omega, hht⟩))
              clear hb0
              go_wp2
              go_roundg (todo (adj n es) n s1 ((a, e + 1) :: q))
              case rel => exact ⟨(a, e + 1) :: q, s1, sv2, b, cap, by rw [List.length_cons, HMQ.out], Nat.le_refl _, GN, HP, HM7'⟩
              case measure => have h1 := TD.out; have h2 := HFU.out; omega
            | true =>
              have hb0 : hb s1.held t = 1 := by unfold hb; rw [hht]; rfl
              rw [hb0] at f3'
              have GN := Aside0.mk (HGD.out.back HO.out hht)
              obtain ⟨fa1, fa2, fa3, fa4, ya1, ya2, ya3, ya4⟩ := HM7'.out.fi.fcell han
              obtain ⟨ta1, -, -, -, -⟩ := HM7'.out.path.top
              rw [HMQ.out] at ta1
              clear hb0
              have HL := Aside0.mk (HM7'.out.low a (min (s1.low a) (s1.ord t)))
              obtain ⟨mn, hmn⟩ : ∃ mn, mn = min (s1.low a) (s1.ord t) := ⟨_, rfl⟩
              rw [← hmn] at HL GN
              replace hmn := Aside0.mk hmn
              have PK := Aside0.mk (And.intro TD (And.intro HFU (And.intro HP HMQ)))
              clear hai tq wq lq TD HA HO HEL HP HGD HFU HMQ HML HM7'
              as_aux_lemma =>
                go_wp2_with fail
                go_region
                rw [show (if s1.ord t < s1.low a then ((s1.ord t : Nat) : Int) else ((s1.low a : Nat) : Int)) = ((mn : Nat) : Int) by rw [hmn.out]; split <;> omega]
                clear f1' f2' f3' f4' m0 m1 m2 m3 m4 m5 m6 m7 y1 y2 y3 y4 n4 n6 n7 fa1 fa2 fa3 fa4 ya1 ya2 ya3 ya4 ta1 hmn
                generalize (W7.setCell ⟨bl, a, none⟩ (.int .i64 (mn : Int))).drew = w9 at HL ⊢
                go_wp2
                go_roundg (todo (adj n es) n { s1 with low := upd s1.low a mn } ((a, e + 1) :: q))
                case rel => exact ⟨(a, e + 1) :: q, { s1 with low := upd s1.low a mn }, sv2, b, cap, by rw [List.length_cons, PK.out.2.2.2.out], Nat.le_refl _, GN, PK.out.2.2.1, HL⟩
                case measure =>
                  have h1 := PK.out.1.out
                  have h2 := PK.out.2.1.out
                  have h3 : todo (adj n es) n { s1 with low := upd s1.low a mn } ((a, e + 1) :: q) = todo (adj n es) n s1 ((a, e + 1) :: q) := by unfold todo; rw [wait_ord (s := s1) (by rfl)]
                  omega
      · obtain rfl : e = ml := by omega
        have hez : ¬ (e : Int) < (e : Int) := by omega
        go_wp2_with fail
        go_quiet (fail)
        go_wp2_with fail
        have HM5 := (HW.out.below (below_drewN (Below.refl _ _) nq)).pop
        clear hc1 k0 k1 k2 k3 k4 k5 k6 k7 g4 g6 g7 t1 t2 t3 HW
        generalize wr.drewN nq = w5 at HM5 ⊢
        have CL := Aside0.mk (close_any w5 B f n _ es bo bl bh bc sv2 s1 HM5.fi HGD.out.inv a HA.out.1 hn (by omega) (by omega) (by omega))
        have GN := Aside0.mk (HGD.out.fin HML.out.symm)
        have HPN := Aside0.mk (show (∀ v, 0 < s.ord v → 0 < (pass (closeS s1 a) a q).ord v) ∧ 0 < (pass (closeS s1 a) a q).ord u by rw [(pass_same _ _ _).1, ord_closeS]; exact HP.out)
        have TD := Aside0.mk (todo_fin (A := adj n es) (n := n) (s := s1) (s' := pass (closeS s1 a) a q) (u := a) (e := e) (p := q) (by rw [(pass_same _ _ _).1, ord_closeS]))
        replace HM5 := Aside0.mk HM5
        refine CL.out.mono ?_
        rintro _ w8 ⟨rfl, sv3, F8, K8, N8⟩
        have HM8 := Aside0.mk (HM5.out.called F8 K8 (fun k hk => .inl (N8 ▸ hk)))
        clear CL HM5 F8 K8 N8
        cases q with
        | nil => as_aux_lemma =>
          have hm0 : mq = 0 := HMQ.out.symm
          subst hm0
          go_wp2
          go_roundg (todo (adj n es) n (pass (closeS s1 a) a []) [])
          case rel => exact ⟨[], pass (closeS s1 a) a [], sv3, b, cap, rfl, Nat.le_refl _, GN, HPN, HM8⟩
          case measure => have h1 := TD.out; have h2 := HFU.out; omega
        | cons fr2 q2 => as_aux_lemma =>
          obtain ⟨a2, e2⟩ := fr2
          obtain ⟨m2, hm2'⟩ : ∃ m2, q2.length = m2 := ⟨_, rfl⟩
          have hmq2 : mq = m2 + 1 := by rw [← HMQ.out, List.length_cons, hm2']
          have HM2 := Aside0.mk hm2'
          subst hmq2
          have ha2 : a2 < n := (HGD.out.inv.lt a2 (HGD.out.inv.heldMet a2 (HGD.out.inv.pheld (a2, e2) (by simp)))).1
          obtain ⟨fa1, fa2, fa3, fa4, ya1, ya2, ya3, ya4⟩ := HM8.out.fi.fcell HA.out.2
          obtain ⟨f1', f2', f3', f4', y1, y2, y3, y4⟩ := HM8.out.fi.fcell ha2
          obtain ⟨m0, m1, m2', m3, m4, m5, m6, m7, n4, n6, n7⟩ := HM8.out.fi.fblk
          obtain ⟨ta1, -, -, -, -⟩ := HM8.out.path.top
          rw [HM2.out] at ta1
          have ha2i : (a2 : Int) < (n : Int) := by omega
          have ta2 : ((a2 : Nat) : Int).toNat = a2 := by omega
          have tm2 : ((m2 : Nat) : Int).toNat = m2 := by omega
          have wm2 : IntKind.i64.wrap (m2 : Int) = (m2 : Int) := by rw [IntKind.wrap_i64]; omega
          have lm2 : (m2 : Int) < (m2 : Int) + 1 := by omega
          clear hm2'
          have HL := Aside0.mk (show WM w (w8.setCell ⟨bl, a2, none⟩ (.int .i64 ((min ((closeS s1 a).low a2) ((closeS s1 a).low a) : Nat) : Int))).drew B f n _ es bo bl bh bc sv b cap ((a2, e2) :: q2) (pass (closeS s1 a) a ((a2, e2) :: q2)) sv3 from HM8.out.low a2 (min ((closeS s1 a).low a2) ((closeS s1 a).low a)))
          go_wp2_with fail
          go_region
          rw [show (if (closeS s1 a).low a < (closeS s1 a).low a2 then (((closeS s1 a).low a : Nat) : Int) else (((closeS s1 a).low a2 : Nat) : Int)) = ((min ((closeS s1 a).low a2) ((closeS s1 a).low a) : Nat) : Int) by split <;> omega]
          clear f1' f2' f3' f4' m0 m1 m2' m3 m4 m5 m6 m7 y1 y2 y3 y4 n4 n6 n7 fa1 fa2 fa3 fa4 ya1 ya2 ya3 ya4 ta1
          generalize (w8.setCell ⟨bl, a2, none⟩ (.int .i64 ((min ((closeS s1 a).low a2) ((closeS s1 a).low a) : Nat) : Int))).drew = w9 at HL ⊢
          go_wp2
          go_roundg (todo (adj n es) n (pass (closeS s1 a) a ((a2, e2) :: q2)) ((a2, e2) :: q2))
          case rel => exact ⟨(a2, e2) :: q2, pass (closeS s1 a) a ((a2, e2) :: q2), sv3, b, cap, by rw [List.length_cons, HM2.out], Nat.le_refl _, GN, HPN, HL⟩
          case measure => have h1 := TD.out; have h2 := HFU.out; omega
end Go.Proofs.Ytcpjlfhehjmfbaa.Gr
