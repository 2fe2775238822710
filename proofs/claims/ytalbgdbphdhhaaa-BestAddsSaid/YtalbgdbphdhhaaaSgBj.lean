/- Loops over an iterator whose body may write what lay ahead (turned from SgRa, SgRb by mkSgBj.py): N: the blocks that it leaves alone. -/
import Derived.Test.YtalbgdbphdhhaaaSgBh
import Derived.Test.YtalbgdbphdhhaaaSgRd
namespace Go.Proofs.Ytalbgdbphdhhaaa.Sg
open Go.RowKit Go.Shelf
set_option linter.unusedVariables false
set_option linter.unusedSimpArgs false

/-- What an iterator promises. n0: what lay ahead of the caller; U0: the iterator's own blocks; X: what is said of a thing that it hands on, in blocks R. -/
def SeqV {α : Type} (P : Program) (n g : Nat) (lb : Array Value) (encs : α → Array Value) (N : Nat → Prop) (U0 : Nat → Prop) (X : List α → α → (Nat → Prop) → World → Prop) (S Sp : List α → Prop) (w : World) : Prop :=
  ∀ (l : Nat) (J Jx : List α → (Nat → Prop) → World → Prop) (W : World), Keeps (fun b => N b ∨ U0 b) w W → Abid J →
    (∀ pre x U V A B, J pre U A → Keeps (fun b => ¬ U b) A B → (∀ b, V b → U b ∨ A.heap.size ≤ b) → (∀ b, V b → b < B.heap.size) → X pre x (fun b => A.heap.size ≤ b ∧ ¬ V b) B →
      YieldAt Fence.wide (n - 1) P l (encs x) B fun e W' =>
        (e = .returned (.bool true) ∧ J (pre ++ [x]) V W' ∧ Keeps (fun b => N b ∨ V b) B W') ∨ (e = .returned (.bool false) ∧ Jx (pre ++ [x]) V W')) →
    J [] U0 W →
    CallsIn Fence.wide n P g (#[.func (.yield l) #[] #[]] ++ lb) W fun e W' => (∃ v, e = .returned v) ∧ ((∃ xs V, S xs ∧ J xs V W') ∨ (∃ pre V, Sp pre ∧ Jx pre V W'))
/-- How the body of a round may be left. -/
def postV {α : Type} (N : Nat → Prop) (U : Nat → Prop) (I : List α → (Nat → Prop) → World → Prop) (Ix : Code → List α → (Nat → Prop) → World → Prop) (xs : List α) (W : World) : Exit → Act → World → Prop
  | .normal, _, W' => Keeps (fun b => N b ∨ U b) W W' ∧ I xs U W'
  | .ret, _, W' => Keeps U W W' ∧ Ix .ret xs U W'
  | .exit id, _, W' => Keeps U W W' ∧ Ix (.exit id) xs U W'
  | .goto t, _, W' => Keeps U W W' ∧ Ix (.goto t) xs U W'
  | .panic _, _, _ => False
  | .outgrown, _, _ => False

theorem wpIn_rangeV {α : Type} {P : Program} {n : Nat} {g : Operand} {ps : Array Tmp} {assign body : Code} {Q : Exit → Act → World → Prop} {a : Act} {w : World}
    {gf : Nat} {lb : Array Value} (hg : a.eval g = .func (.func gf) #[] lb) (eg : ∀ args w, (callFunc gf args).run P w = .ok (.enter gf args) w)
    {encs : α → Array Value} {N : Nat → Prop} {U0 : Nat → Prop} {X : List α → α → (Nat → Prop) → World → Prop} {S Sp : List α → Prop} (hseq : SeqV P (n - 1) gf lb encs N U0 X S Sp w) (hn0 : ∀ b, N b → b < w.heap.size) (hps : ∀ x, (encs x).size = ps.size)
    (hU0 : ∀ b, U0 b → b < w.heap.size)
    (hX : ∀ pre x R A B, X pre x R A → Keeps R A B → X pre x R B)
    (I : List α → (Nat → Prop) → World → Prop) (Ix : Code → List α → (Nat → Prop) → World → Prop) (hI : Abid I) (hIx : ∀ c, Abid (Ix c)) (h0 : I [] U0 w) (a₁ : α → Act)
    (hassign : ∀ (l : Nat) (x : α) (W : World) (K : Act → World → Prop), K (a₁ x) W →
      assign.wpIn (Fence.wide.inRound l) (n - 1 - 1) P (Exit.then K (fun _ _ _ => False)) { tmps := (ps.zip (encs x)).foldl (fun t (p, v) => t.setIfInBounds p v) a.tmps, defers := [] } W)
    (hbody : ∀ (l : Nat) (pre : List α) (x : α) (UA U : Nat → Prop) (A W : World), I pre UA A → Keeps (fun b => ¬ UA b) A W → (∀ b, U b → UA b ∨ A.heap.size ≤ b) → (∀ b, U b → b < W.heap.size) → X pre x (fun b => A.heap.size ≤ b ∧ ¬ U b) W →
      body.wpIn (Fence.wide.inRound l) (n - 1 - 1) P (postV N U I Ix (pre ++ [x]) W) (a₁ x) W)
    (hdone : ∀ (D : Nat) (xs : List α) (U : Nat → Prop) (W : World), S xs → I xs U W → W.heap[D]? = some (.deferred (some [])) → U D → w.heap.size ≤ D → Q .normal { a with defers := { target := .collected D, args := #[] } :: a.defers } W)
    (hstop : ∀ (D : Nat) (c : Code) (pre : List α) (U : Nat → Prop) (W : World), Sp pre → Ix c pre U W → W.heap[D]? = some (.deferred (some [])) → U D → w.heap.size ≤ D → c.wpIn Fence.wide n P Q { a with defers := { target := .collected D, args := #[] } :: a.defers } W) :
    (Code.rangeFunc g ps assign body).wpIn Fence.wide n P Q a w := by
  refine wpIn_rangeFunc fun fn hfn => ?_
  obtain ⟨rec, hrec⟩ : ∃ rec : LoopState → Option Code → Loop, rec = fun st pe => { state := st, pending := pe, fn, tmps := a.tmps, params := ps, assign, body, defers := w.heap.size } := ⟨_, rfl⟩
  obtain ⟨W1, hW1⟩ : ∃ W1, (w.alloc (.deferred (some []))).alloc (.loop (rec .ready none)) = W1 := ⟨_, rfl⟩
  obtain ⟨l, hl⟩ : ∃ l, l = w.heap.size + 1 := ⟨_, rfl⟩
  obtain ⟨D, hD⟩ : ∃ D, D = w.heap.size := ⟨_, rfl⟩
  have hL1 : W1.heap[l]? = some (.loop (rec .ready none)) := by
    rw [← hW1, hl]; have := World.alloc_heap_new (w.alloc (.deferred (some []))) (.loop (rec .ready none)); rwa [World.size_alloc] at this
  have hK1 : W1.heap[D]? = some (.deferred (some [])) := by
    rw [← hW1, hD]; exact (Below.heap_alloc _ _ _ (by simp)).trans (World.alloc_heap_new w _)
  have kw : ∀ ok, Keeps ok w W1 := fun ok => by rw [← hW1]; exact (Keeps.alloc ok _ _).trans (Keeps.alloc ok _ _) (fun _ _ h => h)
  have nU0l : ¬ U0 l := fun h => by have := hU0 _ h; omega
  have nU0D : ¬ U0 D := fun h => by have := hU0 _ h; omega
  refine ⟨l, [{ target := .collected D, args := #[] }], W1, { target := .fn (.func gf) lb, args := #[.func (.yield l) #[] #[]] }, W1, gf, #[.func (.yield l) #[] #[]] ++ lb, W1, ?_, ?_, fun _ _ => trivial, ?_, ?_, ?_⟩
  · rw [← hW1, hrec, hl, hD]; exact run_enterLoop_outer _ _ _ _ _
  · simp only [resolve, hg]
    simp [go_sem]
  · simp [invoke, go_sem, eg]
  · intro h; cases h
  · refine (hseq l
      (fun pre U W => I pre (fun b => U b ∨ b = l ∨ b = D) W ∧ W.heap[l]? = some (.loop (rec .ready none)) ∧ W.heap[D]? = some (.deferred (some [])) ∧ ¬ U l ∧ ¬ U D)
      (fun pre U W => ∃ c, Ix c pre (fun b => U b ∨ b = l ∨ b = D) W ∧ W.heap[l]? = some (.loop (rec .done (some c))) ∧ W.heap[D]? = some (.deferred (some [])))
      W1 (kw _) ?_ ?_ ⟨hI [] U0 _ w W1 h0 (kw _) (fun b hb => by rcases hb with hb | hb | hb; exact .inl hb; exact .inr (by omega); exact .inr (by omega)), hL1, hK1, nU0l, nU0D⟩).mono ?_
    · rintro pre U V A B ⟨h1, h2, h3, h4, h5⟩ hk hv
      have la : l < A.heap.size := (Array.getElem?_eq_some_iff.1 h2).1
      have da : D < A.heap.size := (Array.getElem?_eq_some_iff.1 h3).1
      refine ⟨hI pre _ _ A B h1 (hk.mono (fun b _ hb h => hb (.inl h))) (fun b hb => ?_), (hk.block l la h4).trans h2, (hk.block D da h5).trans h3, fun h => ?_, fun h => ?_⟩
      · rcases hb with hb | hb | hb
        · exact (hv b hb).imp .inl id
        · exact .inl (.inr (.inl hb))
        · exact .inl (.inr (.inr hb))
      · rcases hv l h with h | h
        · exact h4 h
        · omega
      · rcases hv D h with h | h
        · exact h5 h
        · omega
    · rintro pre x UJ V A B ⟨h1, h2, h3, h4, h5⟩ hk hv hvb hx
      have la : l < A.heap.size := (Array.getElem?_eq_some_iff.1 h2).1
      have da : D < A.heap.size := (Array.getElem?_eq_some_iff.1 h3).1
      have hl2 := (hk.block l la h4).trans h2
      have hd2 := (hk.block D da h5).trans h3
      have lb2 : l < B.heap.size := (Array.getElem?_eq_some_iff.1 hl2).1
      have nVl : ¬ V l := fun h => by
        rcases hv l h with h | h
        · exact h4 h
        · omega
      have nVD : ¬ V D := fun h => by
        rcases hv D h with h | h
        · exact h5 h
        · omega
      have hy := run_yield (P := P) (args := encs x) hl2 (by rw [hrec]; exact hps x)
      rw [hrec] at hy
      refine ⟨fn, _, assign, body, hy, roundIn_of_wpIn hfn (hassign _ x B _ ⟨_, run_beginRound hl2 (by rw [hrec]), ?_⟩)⟩
      obtain ⟨W2, hW2⟩ : ∃ W2, B.putObj l (.loop { rec .ready none with state := .busy }) = W2 := ⟨_, rfl⟩
      have k2 : Keeps (· ≠ l) B W2 := by rw [← hW2]; exact Keeps.putObj _ _ _
      have hl3 : W2.heap[l]? = some (.loop { rec .ready none with state := .busy }) := by rw [← hW2]; exact World.putObj_heap_same lb2
      have hd3 : W2.heap[D]? = some (.deferred (some [])) := (k2.block D (Array.getElem?_eq_some_iff.1 hd2).1 (by omega)).trans hd2
      rw [hW2]
      have eR : (fun b => A.heap.size ≤ b ∧ ¬ V b) = (fun b => A.heap.size ≤ b ∧ ¬ (V b ∨ b = l ∨ b = D)) := by
        funext b; apply propext
        constructor
        · rintro ⟨q1, q2⟩; exact ⟨q1, fun h => by rcases h with h | h | h; exact q2 h; omega; omega⟩
        · rintro ⟨q1, q2⟩; exact ⟨q1, fun h => q2 (.inl h)⟩
      have hx2 := hX pre x _ B W2 hx (k2.mono (fun b _ (hb : A.heap.size ≤ b ∧ ¬ V b) (e : b = l) => by have h9 := hb.1; rw [e] at h9; omega))
      rw [eR] at hx2
      refine wpIn_mono (hbody l pre x (fun b => UJ b ∨ b = l ∨ b = D) (fun b => V b ∨ b = l ∨ b = D) A W2 h1 ((hk.mono (fun b _ hb h => hb (.inl h))).trans k2 (fun b _ hb e => hb (.inr (.inl e)))) (fun b hb => ?_) (fun b hb => ?_) hx2) ?_
      · rcases hb with hb | hb | hb
        · exact (hv b hb).imp .inl id
        · exact .inl (.inr (.inl hb))
        · exact .inl (.inr (.inr hb))
      · have hd9 := (Array.getElem?_eq_some_iff.1 hd3).1
        have hl9 := (Array.getElem?_eq_some_iff.1 hl3).1
        rcases hb with hb | hb | hb
        · exact Nat.lt_of_lt_of_le (hvb b hb) k2.size
        · rw [hb]; exact hl9
        · rw [hb]; exact hd9
      · have fin : ∀ (jump : Option Code) (W3 : World), Keeps (fun b => V b ∨ b = l ∨ b = D) W2 W3 →
            (Instr.endRound l jump).run P W3 = .ok (.bool jump.isNone) (W3.putObj l (.loop (rec (if jump.isNone then .ready else .done) jump))) ∧ l < W3.heap.size ∧
            (W3.putObj l (.loop (rec (if jump.isNone then .ready else .done) jump))).heap[l]? = some (.loop (rec (if jump.isNone then .ready else .done) jump)) ∧
            (W3.putObj l (.loop (rec (if jump.isNone then .ready else .done) jump))).heap[D]? = some (.deferred (some [])) := fun jump W3 hk3 => by
          have hl4 := (hk3.block l (Array.getElem?_eq_some_iff.1 hl3).1 (.inr (.inl rfl))).trans hl3
          have hd4 := (hk3.block D (Array.getElem?_eq_some_iff.1 hd3).1 (.inr (.inr rfl))).trans hd3
          have := run_endRound (P := P) jump hl4
          rw [hrec] at this ⊢
          exact ⟨this, (Array.getElem?_eq_some_iff.1 hl4).1, World.putObj_heap_same (Array.getElem?_eq_some_iff.1 hl4).1, (World.putObj_heap_other (by omega)).trans hd4⟩
        rintro e a3 W3 hp
        cases e with
        | normal =>
          obtain ⟨hk3, hi3⟩ := hp
          obtain ⟨hr, lw, hl4, hd4⟩ := fin none W3 (hk3.mono (fun b _ h => .inr h))
          refine ⟨_, _, hr, .inl ⟨rfl, ⟨hI _ _ _ W3 _ hi3 ((Keeps.putObj W3 l _).mono (fun b _ h e => h (.inr (.inl e)))) (fun b hb => .inl hb), hl4, hd4, nVl, nVD⟩, ?_⟩⟩
          refine (k2.mono (ok2 := fun b => N b ∨ V b) (fun b _ h e => ?_)).trans (ok2 := fun b => N b ∨ V b) ((hk3.mono (fun b _ h => ?_)).trans (Keeps.putObj W3 l _) (fun b _ h e => ?_)) (fun b _ h => h)
          · subst e; rcases h with h | h
            · have := hn0 _ h; omega
            · exact nVl h
          · exact h.imp id .inl
          · subst e; rcases h with h | h
            · have := hn0 _ h; omega
            · exact nVl h
        | ret =>
          obtain ⟨hk3, hi3⟩ := hp
          obtain ⟨hr, lw, hl4, hd4⟩ := fin (some .ret) W3 hk3
          exact ⟨_, _, hr, .inr ⟨rfl, .ret, hIx _ _ _ _ W3 _ hi3 ((Keeps.putObj W3 l _).mono (fun b _ h e => h (.inr (.inl e)))) (fun b hb => .inl hb), hl4, hd4⟩⟩
        | exit id =>
          obtain ⟨hk3, hi3⟩ := hp
          obtain ⟨hr, lw, hl4, hd4⟩ := fin (some (.exit id)) W3 hk3
          exact ⟨_, _, hr, .inr ⟨rfl, .exit id, hIx _ _ _ _ W3 _ hi3 ((Keeps.putObj W3 l _).mono (fun b _ h e => h (.inr (.inl e)))) (fun b hb => .inl hb), hl4, hd4⟩⟩
        | goto t =>
          obtain ⟨hk3, hi3⟩ := hp
          obtain ⟨hr, lw, hl4, hd4⟩ := fin (some (.goto t)) W3 hk3
          exact ⟨_, _, hr, .inr ⟨rfl, .goto t, hIx _ _ _ _ W3 _ hi3 ((Keeps.putObj W3 l _).mono (fun b _ h e => h (.inr (.inl e)))) (fun b hb => .inl hb), hl4, hd4⟩⟩
        | panic ch => exact hp.elim
        | outgrown => exact hp.elim
    · rintro e W2 ⟨⟨v, rfl⟩, (⟨xs, V, hS, hi, hl2, hd2, _, _⟩ | ⟨pre, V, hSp, c, hi, hl2, hd2⟩)⟩
      · exact ⟨none, _, by have := run_endLoop (P := P) hl2 (by rw [hrec]; simp); rw [hrec] at this; exact this, by
          have := hdone D xs (fun b => V b ∨ b = l ∨ b = D) (W2.putObj l (.loop { rec .ready none with state := .exhausted })) hS (hI _ _ _ W2 _ hi ((Keeps.putObj W2 l _).mono (fun b _ h e => h (.inr (.inl e)))) (fun b hb => .inl hb)) ((World.putObj_heap_other (by omega)).trans hd2) (.inr (.inr rfl)) (by omega)
          rw [hrec] at this; exact this⟩
      · exact ⟨some c, _, by have := run_endLoop (P := P) hl2 (by rw [hrec]; simp); rw [hrec] at this; exact this, by
          have := hstop D c pre (fun b => V b ∨ b = l ∨ b = D) (W2.putObj l (.loop { rec .done (some c) with state := .exhausted })) hSp (hIx c _ _ _ W2 _ hi ((Keeps.putObj W2 l _).mono (fun b _ h e => h (.inr (.inl e)))) (fun b hb => .inl hb)) ((World.putObj_heap_other (by omega)).trans hd2) (.inr (.inr rfl)) (by omega)
          rw [hrec] at this; exact this⟩

set_option maxRecDepth 100000 in
set_option maxHeartbeats 4000000 in
theorem all1_inV (n : Nat) (N : Nat → Prop) (bs : Nat) (ok : Nat → Prop) (v : Value) (W0 : Nat) (rs : List Row) (w : World) (hv : Boxed w bs 39 v) (h : SegN w ok v W0 rs) (hok : ∀ b, ok b → N b) :
    SeqV Try.prog n 57 #[.pointer (some ⟨bs, 0, none⟩)] encR N (· = bs) (RowX rs) (AllS rs) (AllSp rs) w := by
  intro l J Jx W hW hJ hY h0
  have hbx : Boxed W bs 39 v := (hW.block bs hv.lt (.inr rfl)).trans hv
  have H := h.stays (hW.stays.mono (fun b hb hl => .inl (hok b hb)))
  obtain ⟨p, rfl⟩ := H.ptr
  have hlr := H.len
  have LN := Aside0.mk (lenN_any W _ _ _ _ H)
  have HS := Aside0.mk H
  have HJ := Aside0.mk hJ
  have HY := Aside0.mk hY
  have HOK := Aside0.mk hok
  have H0 := Aside0.mk h0
  have HBX := Aside0.mk hbx
  have hbc := hbx.cell
  clear hW hJ hY h0 h hv hok H hbx
  refine callsIn_of_wp Try.func57 rfl trivial ?_ rfl
  simp only [Try.ntmps57, List.size_toArray, List.length_cons, List.length_nil, Nat.reduceAdd, Nat.reduceSub, Array.replicate_succ, Array.replicate_zero, List.push_toArray, List.append_toArray, List.nil_append, List.cons_append]
  gi_wp2_with (refine ⟨trivial, (fun h => by cases h), ?_⟩; gi_at_call 24; refine (callsIn_wide.2 LN.out).mono ?_; rintro e w' ⟨rfl, rfl⟩)
  gi_loopw [6] (fun s6 wr => ∃ (k : Nat) (pre : List RowV), s6 = .int .i64 k ∧ k ≤ rs.length ∧ pre.length = k ∧ Aside0 (pre.map (·.2) = rs.take k) ∧ Aside0 (J pre (· = bs) wr) ∧ Aside0 (Keeps (fun b => N b ∨ b = bs) W wr)) (fun s6 _ => rs.length - (intOf s6).toNat)
  case atStart => exact ⟨0, [], rfl, Nat.zero_le _, rfl, ⟨by simp⟩, H0, ⟨Keeps.refl _ _⟩⟩
  case round =>
    obtain ⟨k, pre, rfl, hk, hpl, HP, HJp, HK⟩ := hrel
    by_cases hlt : k < rs.length
    · have hs := (HS.out.stays (HK.out.stays.mono (fun b hb _ => .inl (HOK.out b hb)))).at_ hlt
      have RW := Aside0.mk (row_any wr _ _ W0 rs rs[k] k hs (List.getElem?_eq_getElem hlt))
      have hbw : Boxed wr bs 39 (.pointer p) := (HK.out.block bs HBX.out.lt (.inr rfl)).trans HBX.out
      have hbc2 := hbw.cell
      have YY := Aside0.mk (fun rv w2 (hb : Below wr.heap.size wr w2) (hr : RowAt w2 (wr.heap.size ≤ ·) rv rs[k]) => HY.out pre (rv, rs[k]) (· = bs) (· = bs) wr w2 HJp.out (Keeps.all hb _) (fun b h => .inl h) (fun b h => by subst h; exact Nat.lt_of_lt_of_le hbw.lt hb.size) ⟨by rw [hpl]; exact List.getElem?_eq_getElem hlt, by rw [HP.out, hpl], reads_row.mono hr (fun b hb _ => ⟨hb, fun e => by have := hbw.lt; omega⟩)⟩)
      have TK := Aside0.mk (List.take_succ_eq_append_getElem hlt)
      generalize rs[k] = r at *
      clear hs hbw
      gi_wp2_with (refine ⟨trivial, (fun h => by cases h), ?_⟩; gi_at_call 25; refine (callsIn_wide.2 RW.out).mono ?_; rintro e w2 ⟨rv, rfl, HR, HB⟩; obtain ⟨fn, tmps, assign, body, hy, hR⟩ := YY.out rv w2 HB HR; simp only [encR] at hy)
      refine ⟨(fun h => by cases h), hR.mono ?_⟩
      rintro e W3 (⟨rfl, hJ3, hk3⟩ | ⟨rfl, hJx3⟩)
      · have HJ3 := Aside0.mk hJ3
        have HP3 := Aside0.mk (show (pre ++ [(rv, r)]).map (·.2) = rs.take (k + 1) by rw [TK.out, List.map_append, HP.out]; rfl)
        have HK3 := Aside0.mk (HK.out.trans ((Keeps.all HB _).trans hk3 (fun _ _ h => h)) (fun _ _ h => h))
        clear hJ3 hk3 YY
        gi_wp2
        go_roundw
        case rel => exact ⟨k + 1, pre ++ [(rv, r)], by go_num, by omega, by simp [hpl], HP3, HJ3, HK3⟩
        case measure => simp [intOf]; omega
      · have HJ3 := Aside0.mk hJx3
        have HP3 := Aside0.mk (show AllSp rs (pre ++ [(rv, r)]) from ⟨by rw [List.map_append, HP.out, List.length_append, hpl]; simp only [List.length_singleton]; rw [TK.out]; rfl, by simp [hpl]; omega⟩)
        clear hJx3 YY
        gi_wp2
        refine bodyPost_ret (results_none rfl _ _ _) rfl ?_
        exact ⟨⟨_, rfl⟩, .inr ⟨_, _, HP3.out, HJ3.out⟩⟩
    · obtain rfl : k = rs.length := by omega
      have HE := Aside0.mk (show AllS rs pre from by have h9 := HP.out; rw [List.take_length] at h9; exact h9)
      gi_wp2
      go_end0
      exact ⟨⟨_, rfl⟩, .inl ⟨pre, _, HE.out, HJp.out⟩⟩
end Go.Proofs.Ytalbgdbphdhhaaa.Sg
