/- MergeHeap: whatever is laid in and taken out. The walk. -/
import Derived.Test.YtcaonlddhbgnjaaHtG
import Derived.Test.YtcaonlddhbgnjaaSgOp
import Derived.Deep.RegionHeld3
namespace Go.Proofs.Ytcaonlddhbgnjaa.Ht
open Go.RowKit Go.Shelf Go.Proofs.Ytcaonlddhbgnjaa.Sg Go.Proofs.Ytcaonlddhbgnjaa.Hm
set_option linter.unusedVariables false
set_option linter.unusedSimpArgs false

/-- The cells of a list of things. -/
def cellsT : List A → List Value
  | [] => []
  | e :: es => .int .i64 e.1 :: .int .i64 e.2 :: cellsT es
theorem cellsT_length : ∀ es, (cellsT es).length = es.length * 2
  | [] => rfl
  | e :: es => by simp only [cellsT, List.length_cons, cellsT_length es]; omega
theorem cellsT_append : ∀ es fs, cellsT (es ++ fs) = cellsT es ++ cellsT fs
  | [], fs => rfl
  | e :: es, fs => by simp only [cellsT, List.cons_append, cellsT_append es fs]
theorem cellsT_get0 : ∀ (es : List A) (i : Nat) (h : i < es.length), (cellsT es)[i * 2]? = some (.int .i64 es[i].1)
  | e :: es, 0, h => rfl
  | e :: es, i + 1, h => by
    have := cellsT_get0 es i (by simpa using h)
    rw [show (i + 1) * 2 = i * 2 + 1 + 1 from by omega]
    simpa [cellsT] using this
theorem cellsT_get1 : ∀ (es : List A) (i : Nat) (h : i < es.length), (cellsT es)[i * 2 + 1]? = some (.int .i64 es[i].2)
  | e :: es, 0, h => rfl
  | e :: es, i + 1, h => by
    have := cellsT_get1 es i (by simpa using h)
    rw [show (i + 1) * 2 = i * 2 + 1 + 1 from by omega]
    simpa [cellsT] using this
theorem cellsT_take : ∀ (es : List A) (i : Nat), (cellsT es).take (i * 2) = cellsT (es.take i)
  | [], i => by simp [cellsT]
  | x :: es, 0 => by simp [cellsT]
  | x :: es, i + 1 => by
    have := cellsT_take es i
    rw [show (i + 1) * 2 = i * 2 + 1 + 1 from by omega]
    simp [cellsT, this]
theorem cellsT_drop : ∀ (es : List A) (i : Nat), (cellsT es).drop (i * 2) = cellsT (es.drop i)
  | [], i => by simp [cellsT]
  | x :: es, 0 => by simp [cellsT]
  | x :: es, i + 1 => by
    have := cellsT_drop es i
    rw [show (i + 1) * 2 = i * 2 + 1 + 1 from by omega]
    simp [cellsT, this]
theorem infoT : (Try.prog.info? 27).map (fun i => (i.zero, i.size, i.bytes)) = some (some (.agg #[.int .i64 0, .int .i64 0]), 2, 16) := by kernel_rfl
/-- What holds between two acts. -/
structure MH (w1 wr : World) (g : Nat) (F : Nat → Prop) (L : List E) (c : Int) (v : Value) : Prop where
  heap : HeapS wr w1.heap.size g F ordT L c
  ord : InOrder L c
  own : wr.ownsRow w1.heap.size 27 2 v L.length (cellsT (L.map (·.1)))
  off : ∀ b, v.ownBlock = some b → ¬ F b
  below : Below w1.heap.size w1 wr
  nn : 0 ≤ c
theorem own_size2 {w : World} {B e n : Nat} {v : Value} {xs : List Value} (h : w.ownsRow B e 2 v n xs) : ∀ k, v.ownBlock = some k → B ≤ k ∧ k < w.heap.size := by
  intro k hk
  rcases h.2 with ⟨rfl, _⟩ | ⟨b, cap, cur, rfl, hb, hh, _⟩
  · simp [Value.ownBlock] at hk
  · rw [← Option.some.inj (show some b = some k from hk)]; exact ⟨hb, (Array.getElem?_eq_some_iff.1 hh).1⟩
theorem own_stays2 {w W : World} {B e n : Nat} {v : Value} {xs : List Value} {S : Nat → Prop} (h : w.ownsRow B e 2 v n xs) (hk : Kept w W S) (hv : ∀ k, v.ownBlock = some k → ¬ S k) : W.ownsRow B e 2 v n xs := by
  refine ⟨h.1, ?_⟩
  rcases h.2 with h0 | ⟨b, cap, cur, rfl, hb, hh, h1⟩
  · exact .inl h0
  · exact .inr ⟨b, cap, cur, rfl, hb, (hk.blk b (Array.getElem?_eq_some_iff.1 hh).1 (hv b rfl)).trans hh, h1⟩
theorem MH.belowW {w1 wr W : World} {g : Nat} {F : Nat → Prop} {L : List E} {c : Int} {v : Value} (h : MH w1 wr g F L c v) (hb : Below wr.heap.size wr W) : MH w1 W g F L c v :=
  ⟨h.heap.below (ordT_ok _) hb, h.ord, own_stays2 h.own (Kept.of_below hb (fun _ => False)) (fun _ _ h => h), h.off, h.below.trans (hb.mono h.below.size), h.nn⟩

theorem newsA2 (w : World) (a b : Value) (T : TypeId) : ∀ j u, [a, b][j]? = some u → (w.alloc (.cells #[a, b] T)).cell? ((⟨w.heap.size, 0, none⟩ : Addr).add j) = some u := by
  intro j u hj
  match j, hj with
  | 0, hj => simp at hj; subst hj; simp [Addr.add]
  | 1, hj => simp at hj; subst hj; simp [Addr.add]
theorem own_form2 {w : World} {B e n : Nat} {v : Value} {xs : List Value} (h : w.ownsRow B e 2 v n xs) : ∃ A c, v = .slice A n c := by
  rcases h.2 with ⟨rfl, rfl⟩ | ⟨b, cap, cur, rfl, _⟩
  · exact ⟨_, _, rfl⟩
  · exact ⟨_, _, rfl⟩
/-- Behind the Push and the append. -/
theorem MH.push {w1 wr w3 w4 : World} {g : Nat} {F F2 : Nat → Prop} {L : List E} {c : Int} {v v4 : Value} {x : A} {o : Obj} (h : MH w1 wr g F L c v) (h3 : HeapS w3 w1.heap.size g F2 ordT (L ++ [(x, c)]) (c + 1)) (hF : ∀ b, F2 b → F b ∨ wr.heap.size ≤ b) (hk : Kept wr w3 F)
    (ho : w4.ownsRow w1.heap.size 27 2 v4 (L.length + 1) (cellsT (L.map (·.1)) ++ [.int .i64 x.1, .int .i64 x.2])) (hg : (w3.alloc o).grownBy w4 v.ownBlock) (hb : v4.ownBlock = v.ownBlock ∨ v4.ownBlock = some (w3.alloc o).heap.size) : MH w1 w4 g F2 (L ++ [(x, c)]) (c + 1) v4 := by
  have hsz : (w3.alloc o).heap.size = w3.heap.size + 1 := by simp
  have hoff : ∀ b, v.ownBlock = some b → ¬ F2 b := fun b hb hf => by
    rcases hF b hf with q | q
    · exact h.off b hb q
    · have := (own_size2 h.own b hb).2; omega
  have hbs := h3.bs
  have K4 : Kept w3 w4 (fun b => v.ownBlock = some b) := Kept.of_grown hg ((Kept.refl w3 _).alloc o) (fun k hk => .inl hk)
  refine ⟨h3.kept (ordT_ok _) K4 (fun k hk => (own_size2 h.own k hk).1) (fun k hf hk => hoff k hk hf), h.ord.push x, ?_, fun b hb2 hf => ?_, ?_, by have := h.nn; omega⟩
  · rw [List.length_append, List.map_append, cellsT_append]; exact ho
  · rcases hb with q | q
    · exact hoff b (q ▸ hb2) hf
    · have e : (w3.alloc o).heap.size = b := Option.some.inj (q ▸ hb2)
      have := (hbs b hf).2; omega
  · have q1 : Below w1.heap.size w1 w3 := h.below.trans (hk.below h.below.size (fun k hk => (h.heap.bs k hk).1))
    exact q1.trans (K4.below q1.size (fun k hk => (own_size2 h.own k hk).1))
theorem own_empty2 (w : World) (B T : Nat) (h : B ≤ w.heap.size) : (w.alloc (.cells #[] T)).drew.ownsRow B T 2 (.slice (some ⟨w.heap.size, 0, none⟩) 0 0) 0 [] :=
  own_drew ⟨rfl, .inr ⟨w.heap.size, 0, #[], rfl, h, heap_alloc_new w _, by simp, by unfold maxLen; omega, by simp, by simp⟩⟩
theorem cellsT_mem {l : List A} {u : Value} (h : u ∈ cellsT l) : u.oneCell' = true := by
  induction l with
  | nil => simp [cellsT] at h
  | cons a l ih =>
    simp only [cellsT, List.mem_cons] at h
    rcases h with rfl | rfl | h
    · rfl
    · rfl
    · exact ih h
theorem own_src {w : World} {B e n c b : Nat} {l : List A} (h : w.ownsRow B e 2 (.slice (some ⟨b, 0, none⟩) n c) n (cellsT l)) (hl : l.length = n) (i : Nat) : ∀ j u, (cellsT (l.drop i))[j]? = some u → w.cell? ((⟨b, i * 2, none⟩ : Addr).add j) = some u := by
  intro j u hj
  rw [← cellsT_drop, List.getElem?_drop] at hj
  have hlt := (List.getElem?_eq_some_iff.1 hj).1
  rw [cellsT_length] at hlt
  have e : (⟨b, i * 2, none⟩ : Addr).add j = ⟨b, i * 2 + j, none⟩ := add_at b (i * 2) j
  rw [e, h.cellAt _ (by omega)]
  exact hj
theorem own_srcT {w : World} {B e n c b : Nat} {l : List A} (h : w.ownsRow B e 2 (.slice (some ⟨b, 0, none⟩) n c) n (cellsT l)) (hl : l.length = n) (i : Nat) : ∀ j u, (cellsT (l.take i))[j]? = some u → w.cell? ((⟨b, 0, none⟩ : Addr).add j) = some u := by
  intro j u hj
  rw [← cellsT_take, List.getElem?_take] at hj
  split at hj
  · have := own_src h hl 0 j u (by simpa using hj)
    simpa using this
  · cases hj
theorem src_kept {wq w5 : World} {o : Obj} {B e n c b k : Nat} {xs : List Value} (h : ((wq.alloc o).drew).ownsRow B e 2 (.slice (some ⟨b, 0, none⟩) n c) n xs) (hg : ((wq.alloc o).drew).grownBy w5 (Value.slice (some ⟨k, 0, none⟩) 0 0).ownBlock) (hne : b ≠ k) : w5.ownsRow B e 2 (.slice (some ⟨b, 0, none⟩) n c) n xs :=
  own_stays2 h (Kept.of_grown (S := fun j => j = k) hg (Kept.refl _ _) (fun j hj => .inl (Option.some.inj hj).symm)) (fun j hj e => hne ((Option.some.inj hj).trans e))
theorem new_own5 {wq : World} {o : Obj} {v5 : Value} (h : v5.ownBlock = (Value.slice (some ⟨wq.heap.size, 0, none⟩) 0 0).ownBlock ∨ v5.ownBlock = some ((wq.alloc o).drew).heap.size) : ∀ k, v5.ownBlock = some k → wq.heap.size ≤ k := by
  intro k hk
  rcases h with q | q
  · have e : wq.heap.size = k := Option.some.inj (q ▸ hk : (Value.slice (some ⟨wq.heap.size, 0, none⟩) 0 0).ownBlock = some k)
    omega
  · have e : ((wq.alloc o).drew).heap.size = k := Option.some.inj (q ▸ hk)
    simp at e
    omega
/-- Behind the Pop and the two appends. -/
theorem MH.pop {w1 wr w3 wq w5 w6 : World} {g b4 c4 kb : Nat} {F : Nat → Prop} {L L' : List E} {c : Int} {v5 v6 : Value} {o : Obj} (h : MH w1 wr g F L c (.slice (some ⟨b4, 0, none⟩) L.length c4)) (h3 : HeapS w3 w1.heap.size g F ordT L' c) (hk : Kept wr w3 F) (hp : L'.Perm (L.eraseIdx kb)) (hq : Below w3.heap.size w3 wq)
    (ho : w6.ownsRow w1.heap.size 27 2 v6 ((L.eraseIdx kb).length) (cellsT ((L.eraseIdx kb).map (·.1))))
    (hg5 : ((wq.alloc o).drew).grownBy w5 (some wq.heap.size)) (ho5 : ∀ k, v5.ownBlock = some k → wq.heap.size ≤ k) (hg6 : w5.grownBy w6 v5.ownBlock) (hv6 : ∀ k, v6.ownBlock = some k → wq.heap.size ≤ k) : MH w1 w6 g F (L.eraseIdx kb) c v6 := by
  have q3 : Below w1.heap.size w1 w3 := h.below.trans (hk.below h.below.size (fun k hk => (h.heap.bs k hk).1))
  have qq : Below w1.heap.size w1 wq := q3.trans (hq.mono q3.size)
  have K5 : Kept wq w5 (fun k => wq.heap.size ≤ k) := Kept.of_grown hg5 (((Kept.refl wq _).alloc o).drew) (fun k hk => .inl (by rw [← Option.some.inj hk]; exact Nat.le_refl _))
  have K6 : Kept wq w6 (fun k => wq.heap.size ≤ k) := Kept.of_grown hg6 K5 (fun k hk => .inl (ho5 k hk))
  have B6 : Below wq.heap.size wq w6 := K6.below (Nat.le_refl _) (fun k hk => hk)
  have hbs := h3.bs
  refine ⟨((h3.perm hp).below (ordT_ok _) (below_trans0 hq B6)), h.ord.cut kb, ho, fun b hb hf => ?_, qq.trans (B6.mono qq.size), h.nn⟩
  have := hv6 b hb
  have := (hbs b hf).2
  have := hq.size
  omega
set_option maxHeartbeats 8000000 in
set_option maxRecDepth 100000 in
theorem MergeHeap_walk (v : Value) (acts : List (Bool × Int)) (w : World) (ha : SlP BoolAt IntAt w (fun _ => True) v acts) :
    Calls Try.prog 3 #[v] w fun e w' => e = .returned (.bool true) ∧ Below w.heap.size w w' := by
  obtain ⟨A0, c0, hv, hc0, hl0, hm0⟩ := ha.form
  subst hv
  have HA := Aside0.mk ha
  obtain ⟨it, hit, ht0, ht1, ht2⟩ := info_parts infoT
  clear ha
  by_cases hbig : 200 < acts.length
  · go_enter Try.func3, Try.ntmps3
    go_wp2_with fail
    refine (Go.Proofs.Ytcaonlddhbgnjaa.Hi.head6_any w).mono ?_
    rintro e w1 ⟨rfl, B1⟩
    have B1 := Aside0.mk B1
    go_wp2
    go_ret
    exact ⟨rfl, B1.out⟩
  go_enter Try.func3, Try.ntmps3
  go_wp2_with fail
  refine (Go.Proofs.Ytcaonlddhbgnjaa.Hi.head6_any w).mono ?_
  rintro e w1 ⟨rfl, B1⟩
  have NW : Calls Try.prog 10 #[.func (.func 11) #[] #[]] w1 _ := new_S ordT w1 w1.heap.size (ordT_ok _) (Nat.le_refl _) trivial
  have HA1 := Aside0.mk ((reads_slP reads_bool reads_int).mono ((reads_slP reads_bool reads_int).stays HA.out (Stays.of_below B1 _)) (fun b _ hl => (show (· < w1.heap.size) b from hl)))
  have B1 := Aside0.mk B1
  clear HA
  go_wp2_with fail
  refine NW.mono ?_
  rintro e w2 ⟨rfl, H2, B2, hlt2⟩
  have M2 := Aside0.mk (show MH w1 (w2.alloc (.cells #[] 27)) w1.heap.size (· = w1.heap.size) [] 0 (.slice (some ⟨w2.heap.size, 0, none⟩) 0 0) from ⟨H2.below (ordT_ok _) (below_alloc0 (Below.refl _ _) _), ⟨List.Pairwise.nil, fun e he => by simp at he⟩, ⟨rfl, .inr ⟨w2.heap.size, 0, #[], rfl, by omega, heap_alloc_new w2 _, by simp, by unfold maxLen; omega, by simp, by simp [cellsT]⟩⟩, fun b e => by have e : w2.heap.size = b := Option.some.inj e; omega, below_trans0 B2 (below_alloc0 (Below.refl _ _) _), by omega⟩)
  clear H2 B2 NW
  go_wp2_with fail
  go_loopw [4, 20] (fun s4 s20 wr => ∃ (k : Nat) (F : Nat → Prop) (L : List E) (c : Int), s20 = .int .i64 k ∧ k ≤ acts.length ∧ Aside0 (MH w1 wr w1.heap.size F L c s4 ∧ L.length ≤ k ∧ c ≤ k)) (fun _ s20 _ => acts.length - (intOf s20).toNat)
  case atStart => exact ⟨0, _, [], 0, rfl, Nat.zero_le _, ⟨M2.out, by simp, by simp⟩⟩
  case round =>
    obtain ⟨k, F, L, c, rfl, hk, HM⟩ := hrel
    clear M2
    by_cases hlt : k < acts.length
    · obtain ⟨ba, oa, u1, u2, rfl, _, _, ha1, ha2, hu1, hu2, hn64⟩ := ((reads_slP reads_bool reads_int).stays HA1.out (Stays.of_belowB HM.out.1.below)).at_ k hlt
      have hu1 : u1 = .bool acts[k].1 := hu1
      subst hu1
      subst hu2
      have HN := Aside0.mk hn64
      clear hn64
      generalize acts[k] = pn at *
      obtain ⟨p, n⟩ := pn
      simp only at ha1 ha2 HN
      have M0 := Aside0.mk (fun o => HM.out.1.belowW (below_alloc0 (Below.refl wr.heap.size wr) o))
      have hll := HM.out.2.1
      have hcl := HM.out.2.2
      have hnn := HM.out.1.nn
      obtain ⟨A4, c4, h4⟩ := own_form2 HM.out.1.own
      subst h4
      have B0 := Aside0.mk (fun o => below_alloc0 (Below.refl wr.heap.size wr) o)
      have HFB := Aside0.mk (show ∀ b, F b → b < wr.heap.size from fun b hf => (HM.out.1.heap.bs b hf).2)
      cases p with
      | false =>
        have MF := Aside0.mk (M0.out (.cells #[.bool false, .int .i64 n] 31))
        clear M0
        have PU := Aside0.mk (push_S (ordT_ok _) good_ltT _ F L c n (k : Int) (wr.alloc (.cells #[.bool false, .int .i64 n] 31)) MF.out.heap trivial (by omega) hnn (by omega))
        have h63 := Aside0.mk (show L.length + 1 ≤ maxLen by unfold maxLen; omega)
        have hby := Aside0.mk (show (L.length + 1) * 16 ≤ 140737488355328 by omega)
        clear B0 HM
        go_wp2_with fail
        refine (PU.out).mono ?_
        rintro e w3 ⟨rfl, F2, H3, gr3, K3⟩
        have bx1 : w3.cell? ⟨wr.heap.size, 1, none⟩ = some (.int .i64 n) := K3.cell (by simp) (fun hf => absurd (HFB.out _ hf) (Nat.lt_irrefl _))
        have H3 := Aside0.mk H3
        have G3 := Aside0.mk gr3
        have K3 := Aside0.mk K3
        have O3 := Aside0.mk (own_stays2 MF.out.own K3.out MF.out.off)
        have hz3 := Aside0.mk (fun o : Obj => show w1.heap.size ≤ (w3.alloc o).heap.size from Nat.le_trans (Nat.le_trans MF.out.below.size K3.out.size) (by simp))
        clear PU gr3
        go_wp2_with (at_builtin; refine wpList_append_own_at _ rfl (.tmp 34) (.tmp 39) 29 rfl w1.heap.size 27 it (.agg #[.int .i64 0, .int .i64 0]) 2 16 Try.underlying29 hit ht0 ht1 ht2 rfl (by decide) _ _ _ rfl (O3.out.alloc _) ⟨w3.heap.size, 0, none⟩ 1 1 [.int .i64 n, .int .i64 (k : Int)] rfl rfl (newsA2 _ _ _ _) (by simp [Value.oneCell']) h63.out hby.out (hz3.out _) ?_; intro v4 w4 ho hg _ hb; have O4 := Aside0.mk ho; have G4 := Aside0.mk hg; have B4 := Aside0.mk hb; clear ho hg hb)
        go_roundw
        case rel => exact ⟨k + 1, F2, L ++ [((n, (k : Int)), c)], c + 1, by go_num, by omega, ⟨MF.out.push H3.out G3.out K3.out O4.out G4.out B4.out, by simp; omega, by omega⟩⟩
        case measure => simp [intOf]; omega
      | true =>
        by_cases h0 : L = []
        · subst h0
          have P0 := Aside0.mk (pop_S0 _ F c (wr.alloc (.cells #[.bool true, .int .i64 n] 31)) (M0.out _).heap)
          have HM := Aside0.mk HM.out.1
          simp only [List.length_nil]
          clear M0
          go_wp2_with fail
          refine (P0.out).mono ?_
          rintro e w3 ⟨rfl, B3⟩
          have M3 := Aside0.mk (HM.out.belowW (below_trans0 (B0.out _) B3))
          clear P0 B3
          go_wp2
          exact ⟨⟨k + 1, F, [], c, by go_num, by omega, ⟨M3.out.belowW (below_alloc0 (Below.refl _ _) _), by simp, by omega⟩⟩, by simp [intOf]; omega⟩
        · have hL0 : 0 < L.length := by cases L with | nil => exact absurd rfl h0 | cons a l => simp
          obtain ⟨x, L', hpp, hc⟩ := pop_S (ordT_ok _) good_ltT _ F L c (wr.alloc (.cells #[.bool true, .int .i64 n] 31)) (M0.out _).heap (by omega) hL0
          obtain ⟨hkb, hx, hperm⟩ := popped_best HM.out.1.ord hpp hL0
          have PP := Aside0.mk hc
          have MF := Aside0.mk (M0.out (.cells #[.bool true, .int .i64 n] 31))
          have HP := Aside0.mk hperm
          have HXX := Aside0.mk hx
          obtain ⟨xn, xm⟩ := x
          have hz0 : ((L.length : Int) == 0) = false := by rw [beq_eq_false_iff_ne]; omega
          obtain ⟨b4, rfl, hcap4⟩ : ∃ b4, A4 = some ⟨b4, 0, none⟩ ∧ L.length ≤ c4 ∧ b4 < wr.heap.size ∧ w1.heap.size ≤ b4 ∧ ¬ F b4 := by
            rcases HM.out.1.own.2 with ⟨_, h9⟩ | ⟨b, cap, cur, h9, hb, hh, h1, _⟩
            · omega
            · injection h9 with q1 q2 q3
              subst q3
              refine ⟨b, q1, h1, (Array.getElem?_eq_some_iff.1 hh).1, hb, HM.out.1.off b (by rw [q1]; rfl)⟩
          have HO4 := Aside0.mk hcap4.2
          have hcap4 := hcap4.1
          obtain ⟨kb, hkbe⟩ : ∃ kb, bestK (L.map (·.1)) L.length = kb := ⟨_, rfl⟩
          have HKB := Aside0.mk hkbe
          have LG := Aside0.mk (show ∀ q (hq : q < L.length), ((L.map (·.1)).getD q default) = (L[q]).1 from fun q hq => by simp [List.getD_eq_getElem?_getD, hq])
          clear hc hpp hperm hx M0 B0 h0 HM hkbe
          go_wp2_with fail
          refine (PP.out).mono ?_
          rintro e w3 ⟨rfl, H3, K3⟩
          have H3 := Aside0.mk H3
          have K3 := Aside0.mk K3
          have O3 := Aside0.mk (own_stays2 MF.out.own K3.out MF.out.off)
          have BL3 := Aside0.mk (MF.out.below.trans (K3.out.below MF.out.below.size (fun k hk => (MF.out.heap.bs k hk).1)))
          clear PP
          obtain ⟨wo, hwo⟩ : ∃ wo, w3.alloc (.cells #[.int .i64 xn, .int .i64 xm] 27) = wo := ⟨_, rfl⟩
          have OW := Aside0.mk (show wo.ownsRow w1.heap.size 27 2 (.slice (some ⟨b4, 0, none⟩) L.length c4) L.length (cellsT (L.map (·.1))) by rw [← hwo]; exact O3.out.alloc _)
          have bxA : wo.cell? ⟨w3.heap.size, 0, none⟩ = some (.int .i64 xn) := by rw [← hwo]; simp
          have bxB : wo.cell? ⟨w3.heap.size, 1, none⟩ = some (.int .i64 xm) := by rw [← hwo]; simp
          have HWO := Aside0.mk hwo
          have B3O := Aside0.mk (show Below w3.heap.size w3 wo by rw [← hwo]; exact below_alloc0 (Below.refl _ _) _)
          clear hwo
          go_wp2
          rw [HWO.out]
          go_loopw [9, 57] (fun s9 s57 wi => ∃ (j : Nat), s57 = .int .i64 j ∧ j ≤ L.length ∧ s9 = .int .i64 ((bestK (L.map (·.1)) j : Nat) : Int) ∧ Aside0 (Below wo.heap.size wo wi)) (fun _ s57 _ => L.length - (intOf s57).toNat)
          case atStart => exact ⟨0, rfl, Nat.zero_le _, rfl, ⟨Below.refl _ _⟩⟩
          case round =>
            obtain ⟨j, rfl, hj, rfl, HB⟩ := hrel
            have OI := Aside0.mk (own_stays2 OW.out (Kept.of_below HB.out (fun _ => False)) (fun _ _ h => h))
            by_cases hjl : j < L.length
            · obtain ⟨bj, hbj⟩ : ∃ bj, bestK (L.map (·.1)) j = bj := ⟨_, rfl⟩
              have hbjl : bj < L.length := by
                rcases Nat.eq_zero_or_pos j with q | q
                · subst q; rw [← hbj]; exact hL0
                · have := (bestK_spec (L.map (·.1)) j q).1; omega
              have BS := Aside0.mk (show bestK (L.map (·.1)) (j + 1) = if (L[j]).1.1 < (L[bj]).1.1 then j else bj by rw [bestK, hbj, LG.out j hjl, LG.out bj hbjl])
              rw [hbj]
              have cj : wr.cell? ⟨b4, j * 2, none⟩ = some (.int .i64 (L[j]).1.1) := by
                rw [OI.out.cellAt _ (by omega), cellsT_get0 _ j (by simpa using hjl)]; simp
              have cb : wr.cell? ⟨b4, bj * 2, none⟩ = some (.int .i64 (L[bj]).1.1) := by
                rw [OI.out.cellAt _ (by omega), cellsT_get0 _ bj (by simpa using hbjl)]; simp
              generalize (L[j]).1.1 = nj at *
              generalize (L[bj]).1.1 = nb at *
              have i1 : (j : Int) < (L.length : Int) := by omega
              have i2 : (bj : Int) < (L.length : Int) := by omega
              clear hbj
              by_cases hcmp : nj < nb
              · have BS := Aside0.mk (BS.out.trans (if_pos hcmp))
                go_wp2
                go_quiet (fail)
                all_goals
                  go_wp2
                  go_roundw
                  case rel => exact ⟨j + 1, by go_num, by omega, by rw [BS.out], ⟨below_drewN HB.out _⟩⟩
                  case measure => simp [intOf]; omega
              · have BS := Aside0.mk (BS.out.trans (if_neg hcmp))
                go_wp2
                go_quiet (fail)
                all_goals
                  go_wp2
                  go_roundw
                  case rel => exact ⟨j + 1, by go_num, by omega, by rw [BS.out], ⟨below_drewN HB.out _⟩⟩
                  case measure => simp [intOf]; omega
            · obtain rfl : j = L.length := by omega
              rw [HKB.out]
              have hkbl : kb < L.length := by rw [← HKB.out]; exact hkb
              have hxe : (L[kb]).1 = (xn, xm) := by have h9 := HXX.out; simp only [HKB.out] at h9; exact h9.symm
              have ck0 : wr.cell? ⟨b4, kb * 2, none⟩ = some (.int .i64 xn) := by
                rw [OI.out.cellAt _ (by omega), cellsT_get0 _ kb (by simpa using hkbl)]; simp [hxe]
              have ck1 : wr.cell? ⟨b4, kb * 2 + 1, none⟩ = some (.int .i64 xm) := by
                rw [OI.out.cellAt _ (by omega), cellsT_get1 _ kb (by simpa using hkbl)]; simp [hxe]
              have bA := below_cell0 HB.out bxA
              have bB := below_cell0 HB.out bxB
              have i2 : (kb : Int) < (L.length : Int) := by omega
              have HP2 := Aside0.mk (show L'.Perm (L.eraseIdx kb) by rw [← HKB.out]; exact HP.out)
              clear hxe bxA bxB
              go_wp2
              go_quiet (fail)
              all_goals go_wp2
              have HBQ := Aside0.mk (below_drewN HB.out nq)
              generalize wr.drewN nq = wq at *
              have OQ := Aside0.mk (own_stays2 OW.out (Kept.of_below HBQ.out (fun _ => False)) (fun _ _ h => h))
              have B3Q := Aside0.mk (below_trans0 B3O.out HBQ.out)
              have hwq : w1.heap.size ≤ wq.heap.size := Nat.le_trans BL3.out.size B3Q.out.size
              have hb4q : b4 < wq.heap.size := (own_size2 OQ.out b4 rfl).2
              have EM := Aside0.mk (own_empty2 wq w1.heap.size 27 hwq)
              have OQ1 := Aside0.mk (show ((wq.alloc (.cells #[] 27)).drew).ownsRow w1.heap.size 27 2 (.slice (some ⟨b4, 0, none⟩) L.length c4) L.length (cellsT (L.map (·.1))) from own_drew (OQ.out.alloc _))
              have hml := Aside0.mk (show (L.map (·.1)).length = L.length by simp)
              have N1 := Aside0.mk (own_srcT OQ1.out hml.out kb)
              have LN1 := Aside0.mk (show (cellsT ((L.map (·.1)).take kb)).length = kb * 2 by rw [cellsT_length, List.length_take, hml.out]; omega)
              have C1 := Aside0.mk (fun (l : List A) u (hu : u ∈ cellsT l) => cellsT_mem hu)
              have q1 := Aside0.mk (show 0 + kb ≤ maxLen by unfold maxLen; omega)
              have q2 := Aside0.mk (show (0 + kb) * 16 ≤ 140737488355328 by omega)
              have q3 := Aside0.mk (show w1.heap.size ≤ ((wq.alloc (.cells #[] 27)).drew).heap.size by simp; omega)
              have j1 : (0 : Int) ≤ (kb : Int) := by omega
              have j2 : (kb : Int) ≤ (c4 : Int) := by omega
              have j3 : (kb : Int) + 1 ≤ (L.length : Int) := by omega
              have j4 : (L.length : Int) ≤ (c4 : Int) := by omega
              clear HB OI bA bB ck0 ck1
              have LN2 := Aside0.mk (show (cellsT ((L.map (·.1)).drop (kb + 1))).length = (L.length - (kb + 1)) * 2 by rw [cellsT_length, List.length_drop, hml.out])
              have q4 := Aside0.mk (show kb + (L.length - (kb + 1)) ≤ maxLen by unfold maxLen; omega)
              have q5 := Aside0.mk (show (kb + (L.length - (kb + 1))) * 16 ≤ 140737488355328 by omega)
              have MFO := Aside0.mk MF.out
              have j5 : (0 : Int) ≤ (kb : Int) + 1 := by omega
              have j6 : ((kb : Int) + 1).toNat = kb + 1 := by omega
              have j7 : IntKind.i64.wrap ((kb : Int) + 1) = (kb : Int) + 1 := by rw [IntKind.wrap_i64]; omega
              by_cases hce : c4 = kb + 1
              · have hLe : L.length = kb + 1 := by omega
                have ND := Aside0.mk (show (L.map (·.1)).drop (kb + 1) = [] by rw [List.drop_eq_nil_iff, hml.out]; omega)
                have HLE := Aside0.mk hLe
                have q4 := Aside0.mk (show kb + 0 ≤ maxLen by unfold maxLen; omega)
                have q5 := Aside0.mk (show (kb + 0) * 16 ≤ 140737488355328 by omega)
                have j8 : (kb : Int) ≤ (kb : Int) + 1 := by omega
                clear hLe
                subst hce
                go_region_held3 (fun _ => True) (trivial) ((first
                  | (refine step_append_own rfl (.tmp 83) (.tmp 86) 29 rfl w1.heap.size 27 it (.agg #[.int .i64 0, .int .i64 0]) 2 16 Try.underlying29 hit ht0 ht1 ht2 rfl (by decide) (.slice (some ⟨wq.heap.size, 0, none⟩) 0 0) 0 [] (by simp [Act.eval, Act.put]) EM.out ⟨b4, 0, none⟩ kb (kb + 1) (cellsT ((L.map (·.1)).take kb)) (by simp [Act.eval, Act.put]) LN1.out N1.out (C1.out _) q1.out q2.out q3.out ?_; intro v5 w5 ho5 hg5 _ hb5; simp only [Nat.zero_add, List.nil_append] at ho5; have OQ5 := Aside0.mk (src_kept OQ1.out hg5 (show b4 ≠ wq.heap.size by omega)); have HZ5 := Aside0.mk (Nat.le_trans q3.out hg5.size); have N2 := Aside0.mk (own_src OQ5.out hml.out (kb + 1)); have HV5 := Aside0.mk (new_own5 hb5); have HO5 := Aside0.mk ho5; have HG5 := Aside0.mk hg5; clear ho5 hg5 hb5)
                  | (refine step_append_own rfl (.tmp 87) (.tmp 91) 29 rfl w1.heap.size 27 it (.agg #[.int .i64 0, .int .i64 0]) 2 16 Try.underlying29 hit ht0 ht1 ht2 rfl (by decide) v5 kb (cellsT ((L.map (·.1)).take kb)) (by simp [Act.eval, Act.put]) HO5.out ⟨b4, 0, none⟩ 0 0 [] (by simp [Act.eval, Act.put]) rfl (fun j u hj => by simp at hj) (fun u hu => by simp at hu) q4.out q5.out HZ5.out ?_; intro v6 w6 ho6 hg6 _ hb6; rw [List.append_nil] at ho6; have HO6 := Aside0.mk ho6; have HG6 := Aside0.mk hg6; have HB6 := Aside0.mk hb6; clear ho6 hg6 hb6)))
                all_goals
                  go_wp2
                  go_roundw
                  case rel =>
                    refine ⟨k + 1, F, L.eraseIdx kb, c, by go_num, by omega, ⟨MFO.out.pop H3.out K3.out HP2.out B3Q.out ?_ HG5.out HV5.out HG6.out ?_, by rw [List.length_eraseIdx]; split <;> omega, by omega⟩⟩
                    · rw [map_erase, cellsT_append, show (L.eraseIdx kb).length = kb by rw [List.length_eraseIdx, if_pos hkbl]; have := HLE.out; omega, ND.out, show cellsT [] = [] from rfl, List.append_nil]
                      exact HO6.out
                    · intro k' hk'
                      rcases HB6.out with q | q
                      · exact HV5.out k' (q ▸ hk')
                      · have e : w5.heap.size = k' := Option.some.inj (q ▸ hk')
                        have := HG5.out.size
                        simp at this
                        omega
                  case measure => simp [intOf]; omega
              · go_region_held3 (fun _ => True) (trivial) ((first
                  | (refine step_append_own rfl (.tmp 83) (.tmp 86) 29 rfl w1.heap.size 27 it (.agg #[.int .i64 0, .int .i64 0]) 2 16 Try.underlying29 hit ht0 ht1 ht2 rfl (by decide) (.slice (some ⟨wq.heap.size, 0, none⟩) 0 0) 0 [] (by simp [Act.eval, Act.put]) EM.out ⟨b4, 0, none⟩ kb c4 (cellsT ((L.map (·.1)).take kb)) (by simp [Act.eval, Act.put]) LN1.out N1.out (C1.out _) q1.out q2.out q3.out ?_; intro v5 w5 ho5 hg5 _ hb5; simp only [Nat.zero_add, List.nil_append] at ho5; have OQ5 := Aside0.mk (src_kept OQ1.out hg5 (show b4 ≠ wq.heap.size by omega)); have HZ5 := Aside0.mk (Nat.le_trans q3.out hg5.size); have N2 := Aside0.mk (own_src OQ5.out hml.out (kb + 1)); have HV5 := Aside0.mk (new_own5 hb5); have HO5 := Aside0.mk ho5; have HG5 := Aside0.mk hg5; clear ho5 hg5 hb5)
                  | (refine step_append_own rfl (.tmp 87) (.tmp 91) 29 rfl w1.heap.size 27 it (.agg #[.int .i64 0, .int .i64 0]) 2 16 Try.underlying29 hit ht0 ht1 ht2 rfl (by decide) v5 kb (cellsT ((L.map (·.1)).take kb)) (by simp [Act.eval, Act.put]) HO5.out ⟨b4, (kb + 1) * 2, none⟩ (L.length - (kb + 1)) (c4 - (kb + 1)) (cellsT ((L.map (·.1)).drop (kb + 1))) (by simp [Act.eval, Act.put]) LN2.out N2.out (C1.out _) q4.out q5.out HZ5.out ?_; intro v6 w6 ho6 hg6 _ hb6; have HO6 := Aside0.mk ho6; have HG6 := Aside0.mk hg6; have HB6 := Aside0.mk hb6; clear ho6 hg6 hb6)))
                all_goals
                  go_wp2
                  go_roundw
                  case rel =>
                    refine ⟨k + 1, F, L.eraseIdx kb, c, by go_num, by omega, ⟨MFO.out.pop H3.out K3.out HP2.out B3Q.out ?_ HG5.out HV5.out HG6.out ?_, by rw [List.length_eraseIdx]; split <;> omega, by omega⟩⟩
                    · rw [map_erase, cellsT_append, show (L.eraseIdx kb).length = kb + (L.length - (kb + 1)) by rw [List.length_eraseIdx, if_pos hkbl]; omega]
                      exact HO6.out
                    · intro k' hk'
                      rcases HB6.out with q | q
                      · exact HV5.out k' (q ▸ hk')
                      · have e : w5.heap.size = k' := Option.some.inj (q ▸ hk')
                        have := HG5.out.size
                        simp at this
                        omega
                  case measure => simp [intOf]; omega
    · obtain rfl : k = acts.length := by omega
      have LN := Aside0.mk (len_S _ F L c wr HM.out.1.heap)
      obtain ⟨A4, c4, h4⟩ := own_form2 HM.out.1.own
      subst h4
      have BX := Aside0.mk (B1.out.trans (HM.out.1.below.mono B1.out.size))
      have hle : ((L.length : Int) == (L.length : Int)) = true := by simp
      go_wp2_with (go_at_call 14; (with_reducible refine (LN.out).mono ?_); rintro e w5 ⟨rfl, rfl⟩)
      go_ret
      exact ⟨by simp, BX.out⟩
end Go.Proofs.Ytcaonlddhbgnjaa.Ht
namespace Go.Proofs.Ytcaonlddhbgnjaa.Sg
open Go.RowKit
theorem MergeHeap_walk (v : Value) (acts : List (Bool × Int)) (w : World) (ha : SlP BoolAt IntAt w (fun _ => True) v acts) :
    Calls Try.prog 3 #[v] w fun e w' => e = .returned (.bool true) ∧ Below w.heap.size w w' := Go.Proofs.Ytcaonlddhbgnjaa.Ht.MergeHeap_walk v acts w ha
end Go.Proofs.Ytcaonlddhbgnjaa.Sg
