/- Sides in memory: the list that join.sides makes, ahead of its sort and behind it. Contract: join.sides: a set's rows, sorted by their keys. Contract: join.run: how many sides have the first one's key. Contract: the comparison of two pairs (join.Merge$1), and what it calls. Contract: the comparison of two pairs (join.Merge$1). Contract: slices.SortFunc over pairs, as join.Merge calls it. join.Merge, plain: the pairs of two runs, one by one; what is left of a list of sides; all pairs at the end. Contract: join.Merge: the pairs whose keys are the same, in order. -/
import Derived.Test.YtmgoefhihljggaaSgU2
import Derived.Test.YtmgoefhihljggaaSgE
import Derived.Deep.RegionHeld3
namespace Go.Proofs.Ytmgoefhihljggaa.Sg
open Go.RowKit Go.Shelf Go.Sort
set_option linter.unusedVariables false
set_option linter.unusedSimpArgs false

abbrev SidesI := SlP RowAt IntAt
theorem reads_sidesI : Reads SidesI := reads_slP reads_row reads_int
def cellsK : List (Keyv × Int) → List Value
  | [] => []
  | p :: l => kv p.1 :: .int .i64 p.2 :: cellsK l
theorem cellsK_append (a b : List (Keyv × Int)) : cellsK (a ++ b) = cellsK a ++ cellsK b := by
  induction a with
  | nil => rfl
  | cons p l ih => simp [cellsK, ih]
theorem cellsK_length (a : List (Keyv × Int)) : (cellsK a).length = a.length * 2 := by
  induction a with
  | nil => rfl
  | cons p l ih => simp [cellsK, ih]; omega
theorem cellsK_at : ∀ (xs : List (Keyv × Int)) (j : Nat) (h : j < xs.length), (cellsK xs)[j * 2]? = some (kv xs[j].1) ∧ (cellsK xs)[j * 2 + 1]? = some (.int .i64 xs[j].2)
  | p :: l, 0, _ => ⟨rfl, rfl⟩
  | p :: l, j + 1, h => by
    have := cellsK_at l j (by simpa using h)
    rw [show (j + 1) * 2 = j * 2 + 1 + 1 from by omega]
    simpa [cellsK] using this
structure SdIn (w : World) (B : Nat) (v : Value) (es : List (Keyv × Int)) (KS : List Row) : Prop where
  own : w.ownsRow B 54 2 v es.length (cellsK es)
  ix : ∀ t (h : t < es.length), es[t].2 = (t : Int)
  key : ∀ t (h : t < es.length), RowAt w (fun b => B ≤ b ∧ v.ownBlock ≠ some b) (kv es[t].1) (KS.getD t [])
theorem SdIn.nil (w : World) (B : Nat) (KS : List Row) : SdIn w B (.slice none 0 0) [] KS := ⟨World.ownsRow_nil _ _ _ _, fun t h => by simp at h, fun t h => by simp at h⟩
theorem SdIn.below {w w' : World} {B : Nat} {v : Value} {es : List (Keyv × Int)} {KS : List Row} (h : SdIn w B v es KS) (hb : Below w.heap.size w w') : SdIn w' B v es KS :=
  ⟨(Stays.of_below hb (fun _ => True)).owns h.own (fun _ _ => trivial), h.ix, fun t ht => reads_row.stays (h.key t ht) (Stays.of_below hb _)⟩
theorem SdIn.push {w w' : World} {B : Nat} {v v1 : Value} {es : List (Keyv × Int)} {KS : List Row} (h : SdIn w B v es KS) (k : Keyv) (hk : RowAt w (fun b => B ≤ b ∧ v.ownBlock ≠ some b) (kv k) (KS.getD es.length [])) (o : Obj) (hB : B ≤ w.heap.size)
    (ho : w'.ownsRow B 54 2 v1 (es.length + 1) (cellsK es ++ [kv k, .int .i64 es.length])) (hg : (w.alloc o).grownBy w' v.ownBlock) (hb : v1.ownBlock = v.ownBlock ∨ v1.ownBlock = some (w.alloc o).heap.size) : SdIn w' B v1 (es ++ [(k, (es.length : Int))]) KS := by
  have key : ∀ (r : Value) (q : Row), RowAt w (fun b => B ≤ b ∧ v.ownBlock ≠ some b) r q → RowAt w' (fun b => B ≤ b ∧ v1.ownBlock ≠ some b) r q := fun r q hr => by
    have h1 := reads_row.mono (ok2 := fun b => B ≤ b ∧ v.ownBlock ≠ some b ∧ b < w.heap.size) hr (fun b hb hl => ⟨hb.1, hb.2, hl⟩)
    have h2 := reads_row.stays h1 (Stays.alloc _ w o)
    have h3 := reads_row.stays h2 ((Stays.of_grown hg).mono (fun b hb _ => hb.2.1))
    refine reads_row.mono h3 (fun b hb1 _ => ⟨hb1.1, fun e => ?_⟩)
    rcases hb with h8 | h8
    · rw [h8] at e; exact hb1.2.1 e
    · rw [h8] at e
      have := Option.some.inj e
      have := hb1.2.2
      simp at *
      omega
  refine ⟨?_, fun t ht => ?_, fun t ht => ?_⟩
  · rw [List.length_append, cellsK_append]
    exact ho
  · rw [List.length_append] at ht
    simp only [List.length_cons, List.length_nil] at ht
    by_cases q : t < es.length
    · rw [List.getElem_append_left q]
      exact h.ix t q
    · have : t = es.length := by omega
      subst this
      simp
  · rw [List.length_append] at ht
    simp only [List.length_cons, List.length_nil] at ht
    by_cases q : t < es.length
    · rw [List.getElem_append_left q]
      exact key _ _ (h.key t q)
    · have : t = es.length := by omega
      subst this
      simp only [List.getElem_append_right (Nat.le_refl _), Nat.sub_self, List.getElem_cons_zero]
      exact key _ _ hk
/-- The keys, by their rows. -/
def vOf (es : List (Keyv × Int)) (x : Nat) : Keyv := (es.map (·.1)).getD x (none, 0, 0)
def kOf (KS : List Row) (x : Nat) : Row := KS.getD x []
theorem vOf_at {es : List (Keyv × Int)} {x : Nat} (h : x < es.length) : vOf es x = es[x].1 := by unfold vOf; simp [h]
theorem SdIn.start {w : World} {B : Nat} {v : Value} {es : List (Keyv × Int)} {KS : List Row} (h : SdIn w B v es KS) (hl : es.length = KS.length) (hp : 0 < es.length) :
    ∃ blk cap, v = .slice (some ⟨blk, 0, none⟩) es.length cap ∧ es.length ≤ cap ∧ cap ≤ maxLen ∧ B ≤ blk ∧ blk < w.heap.size ∧ RowK (encS (vOf es)) 2 w blk 0 (Array.range es.length) ∧ ∀ x, RowAt w (fun b => B ≤ b ∧ b ≠ blk) (kv (vOf es x)) (kOf KS x) := by
  rcases h.own.2 with ⟨rfl, h0⟩ | ⟨b, cap, cur, rfl, hb, hh, hc, hm, hs, ht⟩
  · omega
  · have hlt := (h.own.lt b rfl).2
    refine ⟨b, cap, rfl, hc, hm, hb, hlt, ⟨fun _ => rfl, fun x v hv => ?_, ?_, hlt⟩, fun x => ?_⟩
    · unfold encS kv at hv
      simp only [List.mem_cons, List.not_mem_nil, or_false] at hv
      rcases hv with rfl | rfl <;> rfl
    · intro j hj
      rw [size_flatK, Array.size_range] at hj
      rw [get_flatK _ _ _ _ (by rw [Array.size_range]; exact hj), Nat.zero_add]
      have hd : (Array.range es.length)[j / 2]! = j / 2 := by rw [getElem!_pos _ _ (by rw [Array.size_range]; omega)]; simp
      rw [hd]
      obtain ⟨q1, q2⟩ := cellsK_at es (j / 2) (by omega)
      refine ⟨?_, h.own.frozenAt j⟩
      rw [h.own.cellAt j (by omega)]
      have e := h.ix (j / 2) (by omega)
      unfold encS
      rw [vOf_at (show j / 2 < es.length by omega)]
      rcases Nat.mod_two_eq_zero_or_one j with r | r
      · rw [r]
        conv => lhs; rw [show j = j / 2 * 2 by omega, q1]
        simp
      · rw [r]
        conv => lhs; rw [show j = j / 2 * 2 + 1 by omega, q2]
        rw [e]; simp
    · by_cases hx : x < es.length
      · rw [vOf_at hx]
        exact reads_row.mono (h.key x hx) (fun b' hb' _ => ⟨hb'.1, fun e => hb'.2 (by rw [e]; rfl)⟩)
      · have e1 : vOf es x = (none, 0, 0) := by unfold vOf; simp [List.getD_eq_getElem?_getD, List.getElem?_eq_none (show es.length ≤ x by omega)]
        have e2 : kOf KS x = [] := by unfold kOf; simp [List.getD_eq_getElem?_getD, List.getElem?_eq_none (show KS.length ≤ x by omega)]
        rw [e1, e2]
        exact SlAt.nil IntAt w _ none 0 (by omega)
theorem below_sorted {enc : Nat → List Value} {k B : Nat} {w w0 W : World} {blk off : Nat} {dk : Array Nat} (h : Go.RowKit.Below B w w0) (S : SWK enc k w0 blk off dk W) (hb : B ≤ blk) (hB : B ≤ w0.heap.size) : Go.RowKit.Below B w W := by
  have st := Stays.sorted S
  have hs := S.le
  obtain ⟨n, os, rfl⟩ := S
  exact h.trans ⟨rfl, rfl, rfl, hs, fun b hb1 => st b (by omega) (by omega)⟩
theorem sides_done {w1 w2 : World} {B blk cap n : Nat} {V : Nat → Keyv} {K : Nat → Row} {d : Array Nat} (R : RowK (encS V) 2 w1 blk 0 (Array.range n)) (hc : n ≤ cap) (hm : cap ≤ maxLen) (hn : n < 1000) (hB : B ≤ blk)
    (hK : ∀ x, RowAt w1 (fun b => B ≤ b ∧ b ≠ blk) (kv (V x)) (K x)) (S : SWK (encS V) 2 w1 blk 0 d w2) (D : StDone K (Array.range n) d) (hr : ∀ i, i < n → d[i]! < n) :
    SidesI w2 (B ≤ ·) (.slice (some ⟨blk, 0, none⟩) n cap) (sg K d 0 d.size) := by
  have hsz : d.size = n := by rw [D.1, Array.size_range]
  have l : (sg K d 0 d.size).length = n := by rw [sg_length, hsz]; rfl
  refine ⟨by rw [l]; omega, some ⟨blk, 0, none⟩, cap, by rw [l], by rw [l]; exact hc, by unfold maxLen at hm; omega, fun _ => ⟨blk, 0, rfl, hB, fun j hj => ?_⟩⟩
  rw [l] at hj
  have C := side_cells S R (by rw [hsz, Array.size_range]) j (by omega)
  rw [Nat.zero_add] at C ⊢
  refine ⟨_, _, C.1.1, C.1.2, ?_, ?_⟩
  · rw [sg_get, Nat.zero_add]
    have := reads_row.stays (reads_row.mono (ok2 := fun b => B ≤ b ∧ b ≠ blk) (hK d[j]!) (fun b hb _ => hb)) ((Stays.sorted S).mono (fun b hb _ => hb.2))
    exact reads_row.mono this (fun b hb _ => hb.1)
  · rw [sg_get, Nat.zero_add]
    have := hr j hj
    refine ⟨rfl, ?_⟩
    simp only [sd]
    unfold In64
    omega
/-- The sides of a list of keys, in the rows' order. -/
def srcK (KS : List Row) : List Side := (List.range KS.length).map fun x => (kOf KS x, (x : Int))
theorem srcK_sg (KS : List Row) : sg (kOf KS) (Array.range KS.length) 0 KS.length = srcK KS := by
  unfold sg srcK
  rw [List.range_eq_range', Nat.sub_zero]
  refine List.map_congr_left fun x hx => ?_
  rw [List.mem_range'_1] at hx
  rw [getElem!_pos _ _ (by rw [Array.size_range]; omega)]
  simp [sd]
theorem StDone.lt {K : Nat → Row} {n : Nat} {d : Array Nat} (D : StDone K (Array.range n) d) (i : Nat) (hi : i < n) : d[i]! < n := by
  have hsz : d.size = n := by rw [D.1, Array.size_range]
  have hm : sd K d[i]! ∈ sg K d 0 d.size := by
    unfold sg
    exact List.mem_map.2 ⟨i, by rw [List.mem_range'_1]; omega, rfl⟩
  obtain ⟨k, k1, k2, k3⟩ := sg_mem (D.2.1.mem_iff.1 hm)
  rw [Array.size_range] at k2
  have := congrArg Prod.snd k3
  simp only [sd] at this
  rw [getElem!_pos (Array.range n) k (by rw [Array.size_range]; omega)] at this
  simp at this
  omega
theorem info_side : (Try.prog.info? 54).map (fun i => (i.zero, i.size, i.bytes)) = some (some (.agg #[.slice none 0 0, .int .i64 0]), 2, 32) := by kernel_rfl
end Go.Proofs.Ytmgoefhihljggaa.Sg
namespace Go.Proofs.Ytmgoefhihljggaa.Sg
open Go.RowKit Go.Shelf
set_option linter.unusedVariables false
set_option linter.unusedSimpArgs false

set_option maxHeartbeats 1000000 in
set_option maxRecDepth 100000 in
theorem stable_none (w : World) (fv : Value) : Calls Try.prog 59 #[.slice none 0 0, .int .i64 0, fv] w fun e w' => e = .returned (.tuple #[]) ∧ w' = w := by
  have C := Aside0.mk (fun w => AnyF.insertionSortCmpFunc_none (P := Try.prog) (ρ := Try.laysI_ren) Try.laysI none 0 fv w)
  have C1 : Aside0 (∀ w, Calls Try.prog 73 #[.slice none 0 0, .int .i64 0, .int .i64 0, fv] w fun e w' => e = .returned (.tuple #[]) ∧ w' = w) := ⟨C.out⟩
  clear C
  go_enter Try.func59, Try.ntmps59
  go_wp2_with fail
  go_loopw [7, 8] (fun s7 s8 wr => s7 = .int .i64 0 ∧ s8 = .int .i64 20 ∧ wr = w) (fun _ _ _ => 0)
  case atStart => exact ⟨by go_num, by go_num, rfl⟩
  case round =>
    obtain ⟨rfl, rfl, rfl⟩ := hrel
    go_wp2_with fail
    refine (C1.out _).mono ?_
    rintro e w1 ⟨rfl, rfl⟩
    go_wp2_with fail
    go_loopw [6] (fun s6 wr => s6 = .int .i64 20 ∧ wr = w1) (fun _ _ => 0)
    case atStart => exact ⟨by go_num, rfl⟩
    case round =>
      obtain ⟨rfl, rfl⟩ := hrel
      go_wp2
      go_end0
      exact ⟨rfl, rfl⟩
theorem sortStable_none (w : World) (fv : Value) : Calls Try.prog 42 #[.slice none 0 0, fv] w fun e w' => e = .returned (.tuple #[]) ∧ w' = w := by
  have C := Aside0.mk (fun w => stable_none w fv)
  go_enter Try.func42, Try.ntmps42
  go_wp2_with fail
  refine (C.out _).mono ?_
  rintro e w1 ⟨rfl, rfl⟩
  go_wp2
  go_end0
  exact ⟨rfl, rfl⟩
set_option maxHeartbeats 2000000 in
set_option maxRecDepth 100000 in
theorem sides_any (w : World) (ok okp : Nat → Prop) (g n : Nat) (L : List Row) (p : Row) (v : Value) (hA : SegAt w ok (.pointer (some ⟨g, 0, none⟩)) n L) (hp : RowAt w okp v p) (hpl : p.length < 1000000) (hL : L.length < 80) :
    Calls Try.prog 27 #[.pointer (some ⟨g, 0, none⟩), v] w fun e w' => ∃ v X, e = .returned v ∧ SidesI w' (w.heap.size ≤ ·) v X ∧ X.Pairwise sLt ∧ X.Perm (srcK (L.map fun r => keyOf r p)) ∧ Below w.heap.size w w' := by
  obtain ⟨Ap, cp, hvp, _⟩ := hp.form
  subst hvp
  obtain ⟨ip, hip, hp0, hp1, hp2⟩ := info_parts info_side
  obtain ⟨KS, hKS⟩ : ∃ KS, (L.map fun r => keyOf r p) = KS := ⟨_, rfl⟩
  have hkl : KS.length = L.length := by rw [← hKS]; simp
  rw [hKS]
  have HS := Aside0.mk hA
  have HP := Aside0.mk hp
  have HKS := Aside0.mk hKS
  have HKL := Aside0.mk hkl
  have LN := Aside0.mk (len_any w _ _ _ _ hA)
  have SST := Aside0.mk (fun (es : List (Keyv × Int)) (blk cap : Nat) (W : World) (hn : es.length < 80) (R : RowK (encS (vOf es)) 2 W blk 0 (Array.range es.length)) (hK : ∀ x, RowAt W (fun b => w.heap.size ≤ b ∧ b ≠ blk) (kv (vOf es x)) (kOf KS x)) => by
    have := sortStable_any (vOf es) (kOf KS) blk 0 cap (Array.range es.length) W R (cmpSides (vOf es) (kOf KS) W blk 0 _ (fun x => reads_row.mono (hK x) (fun b hb _ => hb.2))) (by rw [Array.size_range]; omega) (fun i hi => by rw [Array.size_range] at hi; rw [getElem!_pos _ _ (by rw [Array.size_range]; omega)]; simp)
    rwa [Array.size_range] at this)
  clear hA hp hKS hkl
  go_enter Try.func27, Try.ntmps27
  go_wp2_with fail
  refine (LN.out).mono ?_
  rintro e w' ⟨rfl, rfl⟩
  clear LN
  go_wp2_with fail
  go_loopw [5, 9] (fun s5 s9 wr => ∃ (i : Nat) (es : List (Keyv × Int)), s9 = .int .i64 i ∧ i ≤ L.length ∧ Aside0 (es.length = i ∧ SdIn wr w.heap.size s5 es KS ∧ (i = 0 → s5 = .slice none 0 0)) ∧ Aside0 (Below w.heap.size w wr)) (fun _ s9 _ => L.length - (intOf s9).toNat)
  case atStart => exact ⟨0, [], rfl, Nat.zero_le _, ⟨rfl, SdIn.nil _ _ _, fun _ => rfl⟩, ⟨Below.refl _ _⟩⟩
  case round =>
    obtain ⟨i, es, rfl, hi, HO, HB⟩ := hrel
    by_cases hlt : i < L.length
    · have hki : KS.getD i [] = keyOf L[i] p := by have := HKS.out; subst this; simp [hlt]
      have RW := Aside0.mk (row_any wr _ _ n L L[i] i (HS.out.below HB.out) (List.getElem?_eq_getElem hlt))
      have KX := Aside0.mk (fun w2 rv okk (hb : Below wr.heap.size wr w2) (hr : RowAt w2 okk rv L[i]) => keyx_any w2 _ _ rv _ L[i] p hr (HP.out.below reads_int (below_trans0 HB.out hb)) hpl)
      rw [← hki] at KX
      have hKI := Aside0.mk (rfl : KS.getD i [] = KS.getD i [])
      obtain ⟨Ki, hKi⟩ : ∃ Ki, KS.getD i [] = Ki := ⟨_, rfl⟩
      rw [hKi] at KX
      have HKI := Aside0.mk hKi
      generalize L[i] = ri at *
      clear hki hKi hKI
      go_wp2_with fail
      refine (RW.out).mono ?_
      rintro e w4 ⟨rv, rfl, HR4, B4⟩
      go_wp2_with fail
      refine (KX.out w4 rv _ B4 HR4).mono ?_
      rintro e w5 ⟨kvv, rfl, HK5, B5⟩
      obtain ⟨Ak, ck, hkf, _⟩ := HK5.form
      subst hkf
      have hb5 := below_trans0 B4 B5
      have HB5 := Aside0.mk (below_trans0 HB.out hb5)
      have HO5 := Aside0.mk (HO.out.2.1.below hb5)
      have hes := Aside0.mk HO.out.1
      have hs5 := HB5.out.size
      have h04 := B4.size
      have HK5' := Aside0.mk (show RowAt w5 (fun b => w.heap.size ≤ b ∧ u5.ownBlock ≠ some b) (kv (Ak, Ki.length, ck)) (KS.getD es.length []) by
        rw [hes.out, HKI.out]
        refine reads_row.mono HK5 (fun b hb _ => ⟨by have := HB.out.size; omega, fun e => ?_⟩)
        have := (HO.out.2.1.own.lt b e).2
        omega)
      have h63 := Aside0.mk (show es.length + 1 ≤ maxLen by unfold maxLen; have := hes.out; omega)
      have hby := Aside0.mk (show (es.length + 1) * 32 ≤ 140737488355328 by have := hes.out; omega)
      have hsz := Aside0.mk (fun o => (show w.heap.size ≤ (w5.alloc o).heap.size by simp; omega))
      clear HO HK5 B5 B4 HR4 KX RW hb5
      generalize Ki.length = nk at *
      go_wp2_with (at_builtin; refine wpList_append_own_at _ rfl (.tmp 12) (.tmp 20) 51 rfl w.heap.size 54 ip (.agg #[.slice none 0 0, .int .i64 0]) 2 32 Try.underlying51 hip hp0 hp1 hp2 rfl (by decide) _ _ _ rfl ((Stays.alloc (fun _ => True) _ _).owns HO5.out.own (fun _ _ => trivial)) ⟨w5.heap.size, 0, none⟩ 1 1 [Value.slice Ak nk ck, Value.int .i64 (i : Int)] rfl rfl (news2q _ _ _ _) (by simp [Value.oneCell']) h63.out hby.out (hsz.out _) ?_; intro v1 w10 ho hg _ hb; have O1 := Aside0.mk ho; have G1 := Aside0.mk hg; have N1 := Aside0.mk hb; clear ho hg hb)
      go_roundw
      case rel =>
        refine ⟨i + 1, es ++ [((Ak, nk, ck), (es.length : Int))], by go_num, by omega, ⟨by rw [List.length_append, hes.out]; rfl, ?_, fun h => by omega⟩, ⟨(below_alloc HB5.out hs5 _).grown G1.out (by simp; omega) (fun k hk => (HO5.out.own.lt k hk).1)⟩⟩
        exact HO5.out.push _ HK5'.out _ hs5 (by rw [hes.out]; have := O1.out; rw [hes.out] at this; exact this) G1.out N1.out
      case measure => simp [intOf]; omega
    · obtain rfl : i = L.length := by omega
      have hes := HO.out.1
      by_cases h0 : es.length = 0
      · have hv := HO.out.2.2 (by omega)
        subst hv
        have C := Aside0.mk (fun W => sortStable_none W (.func (.func 43) #[] #[]))
        have hL0 := Aside0.mk (show KS.length = 0 by rw [HKL.out]; omega)
        clear HO SST HS HP h0 hes
        go_wp2_with fail
        refine (C.out _).mono ?_
        rintro e w6 ⟨rfl, rfl⟩
        clear C
        go_wp2
        go_ret
        refine ⟨_, [], rfl, ?_, List.Pairwise.nil, ?_, HB.out⟩
        · exact ⟨by simp, none, 0, rfl, by simp, by omega, fun h => by simp at h⟩
        · unfold srcK; rw [hL0.out]; exact List.Perm.refl _
      · obtain ⟨blk, cap, hv, hc, hm, hB, hbl, R, hK⟩ := HO.out.2.1.start (by rw [HKL.out]; exact hes) (by omega)
        subst hv
        have C := Aside0.mk (SST.out es blk cap wr (by omega) R hK)
        have RR := Aside0.mk R
        have KK := Aside0.mk hK
        have CC := Aside0.mk (And.intro hc (And.intro hm hB))
        have hlz := Aside0.mk (show es.length < 80 by omega)
        have HES := Aside0.mk hes
        clear hc hm hB R hK h0 hes
        clear HO SST HS HP
        go_wp2_with fail
        refine C.out.mono ?_
        rintro e w6 ⟨rfl, d, D, S⟩
        have FIN := Aside0.mk (sides_done RR.out CC.out.1 CC.out.2.1 (Nat.lt_trans hlz.out (by decide)) CC.out.2.2 KK.out S D D.lt)
        have BB := Aside0.mk (below_sorted HB.out S CC.out.2.2 (HB.out.size))
        have PP := Aside0.mk (show (sg (kOf KS) d 0 d.size).Pairwise sLt ∧ (sg (kOf KS) d 0 d.size).Perm (srcK KS) from ⟨D.2.2, by rw [← srcK_sg, HKL.out, ← HES.out]; have := D.2.1; rwa [Array.size_range] at this⟩)
        clear C D S
        go_wp2
        go_ret
        exact ⟨_, _, rfl, FIN.out, PP.out.1, PP.out.2, BB.out⟩
end Go.Proofs.Ytmgoefhihljggaa.Sg
namespace Go.Proofs.Ytmgoefhihljggaa.Sg
open Go.RowKit Go.Shelf
set_option linter.unusedVariables false
set_option linter.unusedSimpArgs false

set_option maxHeartbeats 1000000 in
set_option maxRecDepth 100000 in
theorem run_any (w : World) (ok : Nat → Prop) (b off n c : Nat) (X : List Side) (h : SidesI w ok (.slice (some ⟨b, off, none⟩) n c) X) (hp : 0 < X.length) (hl : X.length < 1000) :
    Calls Try.prog 28 #[.slice (some ⟨b, off, none⟩) n c] w fun e w' => (∃ m : Nat, e = .returned (.int .i64 m) ∧ 1 ≤ m ∧ m ≤ X.length ∧ (∀ i (hi : i < X.length), i < m → X[i].1 = X[0].1) ∧ (∀ (hm : m < X.length), X[m].1 ≠ X[0].1)) ∧ Drew w w' := by
  have hn : n = X.length := by
    obtain ⟨_, A, c', h1, _⟩ := h
    injection h1
  have HX := Aside0.mk h
  have HN := Aside0.mk hn
  have hn1 : n < 1000 := by omega
  have hn0 : 0 < n := by omega
  have hnz : (0 : Int) < (n : Int) := by omega
  clear h hn
  go_enter Try.func28, Try.ntmps28
  go_wp2_with fail
  go_loopw [3] (fun s3 wr => ∃ k : Nat, s3 = .int .i64 k ∧ k ≤ n ∧ Aside0 ((∀ i (hi : i < X.length), i < k → X[i].1 = X[0].1) ∧ Drew w wr)) (fun s3 _ => n - (intOf s3).toNat)
  case atStart => exact ⟨0, rfl, Nat.zero_le _, ⟨fun i hi h => by omega, Drew.refl _⟩⟩
  case round =>
    obtain ⟨k, rfl, hk, H⟩ := hrel
    by_cases hlt : k < n
    · have hkX : k < X.length := by rw [← HN.out]; exact hlt
      have HX1 := reads_sidesI.stays HX.out (Stays.of_below H.out.2.below ok)
      obtain ⟨b1, off1, u1, u2, e1, _, _, ck, _, r1, _⟩ := HX1.at_ k hkX
      obtain ⟨b0, off0, u0, u3, e0, _, _, c0, _, r0, _⟩ := HX1.at_ 0 hp
      have e1 := Option.some.inj e1
      have e0 := Option.some.inj e0
      injection e1 with q1 q2
      injection e0 with q3 q4
      subst q1; subst q2; subst q3; subst q4
      obtain ⟨A1, k1, hu1, _⟩ := r1.form
      obtain ⟨A0, k0, hu0, _⟩ := r0.form
      rw [Nat.zero_mul, Nat.add_zero] at c0
      have EQ := Aside0.mk (fun q => equal_any (wr.drewN q) _ _ u1 u0 _ _ (reads_row.stays r1 (Stays.drewN _ _ q)) (reads_row.stays r0 (Stays.drewN _ _ q)))
      rw [hu1] at ck EQ
      rw [hu0] at c0 EQ
      have hkz : (k : Int) < (n : Int) := by omega
      have tk : ((k : Nat) : Int).toNat = k := by omega
      clear hu1 hu0 r1 r0 HX1
      by_cases heq : X[k].1 = X[0].1
      · have EQ1 : Aside0 (∀ q, Calls Try.prog 23 #[.slice A1 X[k].1.length k1, .slice A0 X[0].1.length k0] (wr.drewN q) fun e w' => e = .returned (.bool true) ∧ Drew (wr.drewN q) w') := ⟨fun q => by have := EQ.out q; rwa [decide_eq_true heq] at this⟩
        have HD := Aside0.mk heq
        clear EQ heq
        generalize X[k].1.length = l1 at *
        generalize X[0].1.length = l0 at *
        go_wp2_with fail
        go_quiet ((go_at_call 23; exact quiet_drew (EQ1.out _)))
        go_wp2
        go_roundw
        case rel =>
          refine ⟨k + 1, by go_num, by omega, ⟨fun i hi h => ?_, H.out.2.stepN _⟩⟩
          by_cases hik : i < k
          · exact H.out.1 i hi hik
          · have : i = k := by omega
            subst this
            exact HD.out
        case measure => simp [intOf]; omega
      · have EQ1 : Aside0 (∀ q, Calls Try.prog 23 #[.slice A1 X[k].1.length k1, .slice A0 X[0].1.length k0] (wr.drewN q) fun e w' => e = .returned (.bool false) ∧ Drew (wr.drewN q) w') := ⟨fun q => by have := EQ.out q; rwa [decide_eq_false heq] at this⟩
        have HD := Aside0.mk heq
        clear EQ heq
        generalize X[k].1.length = l1 at *
        generalize X[0].1.length = l0 at *
        go_wp2_with fail
        go_quiet ((go_at_call 23; exact quiet_drew (EQ1.out _)))
        go_wp2
        go_ret
        refine ⟨⟨k, rfl, ?_, by omega, H.out.1, fun _ => HD.out⟩, H.out.2.stepN _⟩
        rcases Nat.eq_zero_or_pos k with h | h
        · subst h
          exact absurd rfl HD.out
        · exact h
    · obtain rfl : k = n := by omega
      have hkz : ¬ (k : Int) < (k : Int) := by omega
      go_wp2_with fail
      go_quiet (fail)
      go_wp2
      go_ret
      exact ⟨⟨k, rfl, by omega, by have := HN.out; omega, H.out.1, fun hm => by have := HN.out; omega⟩, H.out.2.stepN _⟩
end Go.Proofs.Ytmgoefhihljggaa.Sg
namespace Go.Proofs.Ytmgoefhihljggaa.Sg
open Go.RowKit Go.Shelf Go.Sort
set_option linter.unusedVariables false
set_option linter.unusedSimpArgs false

theorem isNaNint_any (x : Int) (w : World) : Calls Try.prog 45 #[.int .i64 x] w fun e w' => e = .returned (.bool false) ∧ w = w' := by
  go_enter Try.func45, Try.ntmps45
  go_wp2
  go_ret
  exact ⟨by simp, rfl⟩
theorem cmpInt_any (x y c : Int) (w : World) (hc : cmpI x y = c) : Calls Try.prog 32 #[.int .i64 x, .int .i64 y] w fun e w' => e = .returned (.int .i64 c) ∧ w = w' := by
  subst hc
  by_cases h1 : x < y
  · have e := Aside0.mk (cmpI_lt h1)
    go_enter Try.func32, Try.ntmps32
    go_wp2_with (first | (go_at_call 45; (with_reducible refine (isNaNint_any _ _).mono ?_); rintro e w' ⟨rfl, rfl⟩))
    go_ret
    exact ⟨ret_int e.out.symm, rfl⟩
  · by_cases h2 : y < x
    · have e := Aside0.mk (cmpI_gt h2)
      go_enter Try.func32, Try.ntmps32
      go_wp2_with (first | (go_at_call 45; (with_reducible refine (isNaNint_any _ _).mono ?_); rintro e w' ⟨rfl, rfl⟩))
      go_ret
      exact ⟨ret_int e.out.symm, rfl⟩
    · have e := Aside0.mk (cmpI_eq (x := x) (y := y) (by omega))
      go_enter Try.func32, Try.ntmps32
      go_wp2_with (first | (go_at_call 45; (with_reducible refine (isNaNint_any _ _).mono ?_); rintro e w' ⟨rfl, rfl⟩))
      go_ret
      exact ⟨ret_int e.out.symm, rfl⟩
def orI (x y : Int) : Int := if x = 0 then y else x
set_option maxHeartbeats 1000000 in
set_option maxRecDepth 100000 in
theorem cmpOr_any (w : World) (b : Nat) (x y c : Int) (hc : orI x y = c) (h0 : w.cell? ⟨b, 0, none⟩ = some (.int .i64 x)) (h1 : w.cell? ⟨b, 1, none⟩ = some (.int .i64 y)) :
    Calls Try.prog 31 #[.slice (some ⟨b, 0, none⟩) 2 2] w fun e w' => e = .returned (.int .i64 c) ∧ w = w' := by
  have HC := Aside0.mk hc
  clear hc
  go_enter Try.func31, Try.ntmps31
  go_wp2_with fail
  refine wp_loop_rounds 3 ?_
  rw [rounds_succ]
  by_cases hx : x = 0
  · by_cases hy : y = 0
    · subst hx; subst hy
      go_wp2
      rw [rounds_succ]
      go_wp2
      rw [rounds_succ]
      go_wp2
      go_ret
      exact ⟨ret_int HC.out, rfl⟩
    · subst hx
      go_wp2
      rw [rounds_succ]
      go_wp2
      go_ret
      exact ⟨ret_int HC.out, rfl⟩
  · go_wp2
    go_ret
    exact ⟨ret_int (by have := HC.out; unfold orI at this; rwa [if_neg hx] at this), rfl⟩
end Go.Proofs.Ytmgoefhihljggaa.Sg
namespace Go.Proofs.Ytmgoefhihljggaa.Sg
open Go.RowKit Go.Shelf Go.Sort
set_option linter.unusedVariables false
set_option linter.unusedSimpArgs false

def pCmp (p q : Int × Int) : Int := orI (cmpI p.1 q.1) (cmpI p.2 q.2)
theorem grown3 (w : World) (a b c : Obj) : ∃ n os, (((w.alloc a).alloc b).alloc c).drew = grow (w.drewN n) os :=
  ⟨1, #[a, b, c], by rw [alloc_eq_grow, alloc_eq_grow, alloc_eq_grow, grow_grow, grow_grow, drew_grow]; rfl⟩
theorem new3 (w : World) (a b : Obj) (x y : Value) (T : TypeId) : (((w.alloc a).alloc b).alloc (.cells #[x, y] T)).drew.cell? ⟨w.heap.size + 1 + 1, 0, none⟩ = some x ∧ (((w.alloc a).alloc b).alloc (.cells #[x, y] T)).drew.cell? ⟨w.heap.size + 1 + 1, 1, none⟩ = some y := by
  have h := heap_alloc_new ((w.alloc a).alloc b) (.cells #[x, y] T)
  have e : ((w.alloc a).alloc b).heap.size = w.heap.size + 1 + 1 := by simp
  rw [e] at h
  constructor
  · show (((w.alloc a).alloc b).alloc (.cells #[x, y] T)).cell? _ = _
    rw [cell_of_row _ _ 0 _ _ _ h]; rfl
  · show (((w.alloc a).alloc b).alloc (.cells #[x, y] T)).cell? _ = _
    rw [cell_of_row _ _ 1 _ _ _ h]; rfl
set_option maxHeartbeats 2000000 in
set_option maxRecDepth 100000 in
theorem merge1_any (w : World) (p q : Int × Int) : Calls Try.prog 30 #[.agg #[.int .i64 p.1, .int .i64 p.2], .agg #[.int .i64 q.1, .int .i64 q.2]] w fun e w' => e = .returned (.int .i64 (pCmp p q)) ∧ ∃ n os, w' = grow (w.drewN n) os := by
  obtain ⟨p1, p2⟩ := p
  obtain ⟨q1, q2⟩ := q
  obtain ⟨c1, hc1⟩ : ∃ c1, cmpI p1 q1 = c1 := ⟨_, rfl⟩
  obtain ⟨c2, hc2⟩ : ∃ c2, cmpI p2 q2 = c2 := ⟨_, rfl⟩
  obtain ⟨c3, hc3⟩ : ∃ c3, orI c1 c2 = c3 := ⟨_, rfl⟩
  have C1 := Aside0.mk (fun w => cmpInt_any p1 q1 c1 w hc1)
  have C2 := Aside0.mk (fun w => cmpInt_any p2 q2 c2 w hc2)
  have C3 := Aside0.mk (fun w b h0 h1 => cmpOr_any w b c1 c2 c3 hc3 h0 h1)
  have HR := Aside0.mk (show pCmp (p1, p2) (q1, q2) = c3 by unfold pCmp; simp only; rw [hc1, hc2, hc3])
  clear hc1 hc2 hc3
  have GR := Aside0.mk (grown3 w)
  go_enter Try.func30, Try.ntmps30
  go_wp2_with fail
  go_region_held3 (fun w' => w'.cell? ⟨w.heap.size, 0, none⟩ = some (.int .i64 p1) ∧ w'.cell? ⟨w.heap.size, 1, none⟩ = some (.int .i64 p2) ∧ w'.cell? ⟨w.heap.size + 1, 0, none⟩ = some (.int .i64 q1) ∧ w'.cell? ⟨w.heap.size + 1, 1, none⟩ = some (.int .i64 q2)) (go_keep) ((first
    | (with_reducible refine (C1.out _).mono ?_; rintro e w4 ⟨rfl, rfl⟩)
    | (with_reducible refine (C2.out _).mono ?_; rintro e w4 ⟨rfl, rfl⟩)
    | (with_reducible refine (C3.out _ _ (new3 _ _ _ _ _ _).1 (new3 _ _ _ _ _ _).2).mono ?_; rintro e w4 ⟨rfl, rfl⟩)))
  all_goals go_wp2
  all_goals go_ret
  all_goals exact ⟨ret_int HR.out.symm, GR.out _ _ _⟩
end Go.Proofs.Ytmgoefhihljggaa.Sg
namespace Go.Proofs.Ytmgoefhihljggaa.Sg
open Go.RowKit Go.Shelf Go.Sort
set_option linter.unusedVariables false
set_option linter.unusedSimpArgs false

def encP (p : Int × Int) : List Value := [.int .i64 p.1, .int .i64 p.2]
theorem pCmp_lt (p q : Int × Int) : ltOf pCmp p q = true ↔ pLt p q := by
  unfold ltOf pCmp pLt orI cmpI
  rw [decide_eq_true_iff]
  repeat' split
  all_goals omega
theorem pCmp_not (p q : Int × Int) : ltOf pCmp p q = false ↔ ¬ pLt p q := by rw [← pCmp_lt]; simp
theorem swo_pCmp : SWO (ltOf pCmp) := by
  refine ⟨fun x => (pCmp_not _ _).2 (pLt_irrefl x), fun x y z h k => ?_, fun x y z h k => ?_⟩
  · rw [pCmp_lt] at *; exact pLt_trans h k
  · rw [pCmp_not] at *; unfold pLt at *; omega
theorem cmpPairs (w0 : World) (blk off n : Nat) : CmpLays Try.prog 30 #[] encP 2 pCmp blk off n w0 := fun m os dk hd x y => merge1_any _ x y
theorem toArray_get (l : List (Int × Int)) (i : Nat) (h : i < l.length) : l.toArray[i]! = l[i] := by rw [getElem!_pos l.toArray i (by simpa using h)]; simp
theorem pairs_holds {w : World} {B : Nat} {blk cap : Nat} {l : List (Int × Int)} (h : w.ownsRow B 39 2 (.slice (some ⟨blk, 0, none⟩) l.length cap) l.length (cellsP l)) : HoldsK encP 2 w blk 0 l.toArray := by
  intro j hj
  rw [size_flatK, List.size_toArray] at hj
  rw [get_flatK _ _ _ _ (by rw [List.size_toArray]; exact hj), Nat.zero_add, toArray_get l (j / 2) (by omega)]
  obtain ⟨q1, q2⟩ := cellsP_at l (j / 2) (by omega)
  refine ⟨?_, h.frozenAt j⟩
  rw [h.cellAt j (by omega)]
  unfold encP
  rcases Nat.mod_two_eq_zero_or_one j with r | r
  · rw [r]
    conv => lhs; rw [show j = j / 2 * 2 by omega, q1]
    simp
  · rw [r]
    conv => lhs; rw [show j = j / 2 * 2 + 1 by omega, q2]
    simp
theorem sorted_pairs {l : List (Int × Int)} (hn : l.Nodup) {d : Array (Int × Int)} (hp : PermIn 0 l.toArray.size l.toArray d) (hs : SortedIn (ltOf pCmp) 0 l.toArray.size d) : d.toList.Perm l ∧ d.toList.Pairwise pLt := by
  have hsz : d.size = l.length := by rw [hp.1]; simp
  have p1 : d.toList.Perm l := by
    have := hp.2.2
    rw [List.size_toArray] at this
    rwa [show d.extract 0 l.length = d from by rw [← hsz]; simp, show l.toArray.extract 0 l.length = l.toArray from by simp] at this
  refine ⟨p1, ?_⟩
  have nd := p1.nodup_iff.2 hn
  unfold List.Nodup at nd
  rw [List.pairwise_iff_getElem] at nd ⊢
  intro i j hi hj hij
  have n1 := nd i j hi hj hij
  have h1 := (pCmp_not _ _).1 (hs i j (Nat.zero_le _) hij (by rw [List.size_toArray, ← hsz]; simpa using hj))
  rw [getElem!_pos d i (by simpa using hi), getElem!_pos d j (by simpa using hj)] at h1
  simp only [Array.getElem_toList] at n1 ⊢
  have n2 : ¬ (d[i].1 = d[j].1 ∧ d[i].2 = d[j].2) := fun h => n1 (Prod.ext h.1 h.2)
  unfold pLt at *
  omega
theorem sorted_stays {enc : Int × Int → List Value} {k blk off n : Nat} {w : World} {dk : Array (Int × Int)} {os : Array Obj} : Stays (· ≠ blk) w (sortWorldK enc k w blk off n dk os) := by
  intro b hb hl
  unfold sortWorldK putRowK
  rw [heap_grow_old _ _ (by simpa [putRow, mapBlock, Sort.ahead] using hl)]
  simp [putRow, mapBlock, Sort.ahead, Array.getElem?_modify, Ne.symm hb]
set_option maxHeartbeats 1000000 in
theorem sortPairs_any (w : World) (B : Nat) (v : Value) (l : List (Int × Int)) (h : w.ownsRow B 39 2 v l.length (cellsP l)) (hn : l.Nodup) (hl : l.length < 100000000) (hi : ∀ p ∈ l, In64 p.1 ∧ In64 p.2) (hB : B ≤ w.heap.size) :
    Calls Try.prog 29 #[v, .func (.func 30) #[] #[]] w fun e w' => e = .returned (.tuple #[]) ∧ ∃ m, m.Perm l ∧ m.Pairwise pLt ∧ PairsAt w' (B ≤ ·) v m ∧ Go.RowKit.Below B w w' := by
  rcases h.2 with ⟨rfl, h0⟩ | ⟨blk, cap, cur, rfl, hb, hh, hc, hm, hs, ht⟩
  · have hl0 : l = [] := List.length_eq_zero_iff.1 h0
    subst hl0
    have := AnyF.slices_SortFunc_none (P := Try.prog) (ρ := Try.laysP_ren) Try.laysP none 0 (.func (.func 30) #[] #[]) w
    refine Calls.mono this ?_
    rintro e w' ⟨rfl, rfl⟩
    exact ⟨rfl, [], List.Perm.refl _, List.Pairwise.nil, ⟨by simp, none, 0, rfl, by simp, by omega, fun h => by simp at h⟩, Go.RowKit.Below.refl _ _⟩
  · have hlt := (h.lt blk rfl).2
    have eg : ∀ args w, (callFunc 30 args).run Try.prog w = .ok (.enter 30 args) w := enters_of Try.func30 (by kernel_rfl) rfl
    have hH := pairs_holds h
    have := AnyQ.slices_SortFunc (P := Try.prog) (ρ := Try.laysP_ren) Try.laysP 2 Try.isAgg39 Try.sizeOf39 encP (fun _ => rfl) (fun x v hv => by
      unfold encP at hv
      simp only [List.mem_cons, List.not_mem_nil, or_false] at hv
      rcases hv with rfl | rfl <;> rfl) pCmp swo_pCmp 30 #[] blk 0 cap l.toArray w eg (cmpPairs w blk 0 _) hH hlt (by rw [List.size_toArray]; omega)
    rw [List.size_toArray] at this
    refine Calls.mono this ?_
    rintro e w' ⟨rfl, d, n, os, hp, hs2, rfl⟩
    have Q := sorted_pairs hn (by rw [List.size_toArray]; exact hp) (by rw [List.size_toArray]; exact hs2)
    have hsz : d.size = l.length := by rw [hp.1]; simp
    have hW := holdsK_sortWorldK encP 2 w blk 0 n l.toArray d os hlt hH (by rw [hsz]; simp)
    have hlen : d.toList.length = l.length := by rw [Array.length_toList, hsz]
    refine ⟨rfl, d.toList, Q.1, Q.2, ⟨by rw [hlen]; omega, some ⟨blk, 0, none⟩, cap, by rw [hlen], by rw [hlen]; exact hc, by unfold maxLen at hm; omega, fun _ => ⟨blk, 0, rfl, hb, fun j hj => ?_⟩⟩, ?_⟩
    · rw [hlen] at hj
      have c0 := (hW.cell (show j < d.size by omega) (show 0 < 2 by decide)).1
      have c1 := (hW.cell (show j < d.size by omega) (show 1 < 2 by decide)).1
      rw [getElem!_pos d j (by omega)] at c0 c1
      have hin := hi d[j] (Q.1.mem_iff.1 (by simp))
      exact ⟨_, _, c0, c1, ⟨by simp [encP], by simpa using hin.1⟩, ⟨by simp [encP], by simpa using hin.2⟩⟩
    · exact ⟨rfl, rfl, rfl, by rw [show (sortWorldK encP 2 w blk 0 n d os).heap.size = w.heap.size + os.size by unfold sortWorldK putRowK; simp [putRow, mapBlock, Sort.ahead]]; omega, fun b hb1 => sorted_stays b (by omega) (by omega)⟩
end Go.Proofs.Ytmgoefhihljggaa.Sg
namespace Go.Proofs.Ytmgoefhihljggaa.Sg
open Go.RowKit Go.Shelf
set_option linter.unusedVariables false
set_option linter.unusedSimpArgs false

/-- A list of sides has each row once. -/
def RowsOnce (X : List Side) : Prop := ∀ i j (hi : i < X.length) (hj : j < X.length), X[i].2 = X[j].2 → i = j
structure CInv (X Y : List Side) (a b m : Nat) (out0 : List (Int × Int)) (c t : Nat) (out : List (Int × Int)) : Prop where
  mem : ∀ p, p ∈ out ↔ p ∈ out0 ∨ ∃ (i j : Nat) (hi : i < X.length) (hj : j < Y.length), a ≤ i ∧ b ≤ j ∧ j < b + m ∧ (i < c ∨ (i = c ∧ j < b + t)) ∧ p = (X[i].2, Y[j].2)
  nd : out.Nodup
  len : out.length ≤ c * 80 + t
theorem CInv.start {X Y : List Side} {a b m : Nat} {out0 : List (Int × Int)} (hn : out0.Nodup) (hl : out0.length ≤ a * 80) : CInv X Y a b m out0 a 0 out0 :=
  ⟨fun p => ⟨fun h => .inl h, fun h => h.elim id (fun ⟨i, j, _, _, h1, h2, h3, h4, _⟩ => by omega)⟩, hn, by omega⟩
theorem CInv.push {X Y : List Side} {a b m c t : Nat} {out0 out : List (Int × Int)} (h : CInv X Y a b m out0 c t out) (hX : RowsOnce X) (hY : RowsOnce Y) (h0 : ∀ p ∈ out0, ∃ (i : Nat) (hi : i < X.length), i < a ∧ p.1 = X[i].2) (hac : a ≤ c) (hc : c < X.length) (ht : t < m) (hb : b + t < Y.length) :
    CInv X Y a b m out0 c (t + 1) (out ++ [(X[c].2, Y[b + t].2)]) := by
  refine ⟨fun p => ?_, ?_, by rw [List.length_append]; have := h.len; simp; omega⟩
  · rw [List.mem_append, List.mem_singleton, h.mem]
    constructor
    · rintro ((q | ⟨i, j, hi, hj, q1, q2, q3, q4, q5⟩) | q)
      · exact .inl q
      · exact .inr ⟨i, j, hi, hj, q1, q2, q3, by omega, q5⟩
      · exact .inr ⟨c, b + t, hc, hb, hac, by omega, by omega, by omega, q⟩
    · rintro (q | ⟨i, j, hi, hj, q1, q2, q3, q4, q5⟩)
      · exact .inl (.inl q)
      · by_cases e : i = c ∧ j = b + t
        · obtain ⟨rfl, rfl⟩ := e
          exact .inr q5
        · exact .inl (.inr ⟨i, j, hi, hj, q1, q2, q3, by omega, q5⟩)
  · rw [List.nodup_append]
    refine ⟨h.nd, by simp, fun p hp q hq e => ?_⟩
    rw [List.mem_singleton] at hq
    subst hq
    subst e
    rcases (h.mem _).1 hp with q | ⟨i, j, hi, hj, q1, q2, q3, q4, q5⟩
    · obtain ⟨i, hi, h1, h2⟩ := h0 _ q
      have := hX _ _ hc hi h2
      omega
    · have e1 := congrArg Prod.fst q5
      have e2 := congrArg Prod.snd q5
      have := hX _ _ hc hi e1
      have := hY _ _ hb hj e2
      omega
theorem CInv.next {X Y : List Side} {a b m c : Nat} {out0 out : List (Int × Int)} (h : CInv X Y a b m out0 c m out) (hm : m ≤ 80) : CInv X Y a b m out0 (c + 1) 0 out := by
  refine ⟨fun p => ?_, h.nd, by have := h.len; omega⟩
  rw [h.mem]
  constructor
  · rintro (q | ⟨i, j, hi, hj, q1, q2, q3, q4, q5⟩)
    · exact .inl q
    · exact .inr ⟨i, j, hi, hj, q1, q2, q3, by omega, q5⟩
  · rintro (q | ⟨i, j, hi, hj, q1, q2, q3, q4, q5⟩)
    · exact .inl q
    · exact .inr ⟨i, j, hi, hj, q1, q2, q3, by omega, q5⟩
theorem CInv.done {X Y : List Side} {a b m n : Nat} {out0 out : List (Int × Int)} (h : CInv X Y a b m out0 (a + n) 0 out) (p : Int × Int) :
    p ∈ out ↔ p ∈ out0 ∨ ∃ (i j : Nat) (hi : i < X.length) (hj : j < Y.length), a ≤ i ∧ i < a + n ∧ b ≤ j ∧ j < b + m ∧ p = (X[i].2, Y[j].2) := by
  rw [h.mem]
  constructor
  · rintro (q | ⟨i, j, hi, hj, q1, q2, q3, q4, q5⟩)
    · exact .inl q
    · exact .inr ⟨i, j, hi, hj, q1, by omega, q2, q3, q5⟩
  · rintro (q | ⟨i, j, hi, hj, q1, q2, q3, q4, q5⟩)
    · exact .inl q
    · exact .inr ⟨i, j, hi, hj, q1, q3, q4, by omega, q5⟩
/-- The rest of a list of sides, in memory. -/
theorem SidesI.rest {w : World} {ok : Nat → Prop} {b off n c m : Nat} {X : List Side} (h : SidesI w ok (.slice (some ⟨b, off, none⟩) n c) X) (hm : m ≤ X.length) : SidesI w ok (.slice (some ⟨b, off + m * 2, none⟩) (n - m) (c - m)) (X.drop m) := by
  obtain ⟨h0, A, c', h1, h2, h3, h4⟩ := h
  injection h1 with e1 e2 e3
  subst e3
  have l : (X.drop m).length = X.length - m := List.length_drop ..
  refine ⟨by omega, some ⟨b, off + m * 2, none⟩, c - m, by rw [l, e2], by omega, by omega, fun hp => ?_⟩
  obtain ⟨b', off', ha, hb, hc⟩ := h4 (by omega)
  rw [← e1] at ha
  injection ha with ha
  injection ha with a1 a2
  subst a1; subst a2
  refine ⟨b, off + m * 2, rfl, hb, fun j hj => ?_⟩
  obtain ⟨u1, u2, q1, q2, q3, q4⟩ := hc (m + j) (by omega)
  rw [List.getElem_drop]
  exact ⟨u1, u2, by rw [← q1]; congr 2; omega, by rw [← q2]; congr 2; omega, q3, q4⟩
theorem sides_none {w : World} {ok : Nat → Prop} (A : Option Addr) (c : Nat) (hc : c ≤ 9223372036854775807) : SidesI w ok (.slice A 0 c) [] :=
  ⟨by simp, A, c, rfl, by simp, hc, fun h => by simp at h⟩
theorem sides_some {w : World} {ok : Nat → Prop} {v : Value} {X : List Side} (h : SidesI w ok v X) (hp : 0 < X.length) : ∃ b off c, v = .slice (some ⟨b, off, none⟩) X.length c ∧ X.length ≤ c ∧ c ≤ 9223372036854775807 ∧ ok b := by
  obtain ⟨h0, A, c', h1, h2, h3, h4⟩ := h
  obtain ⟨b, off, rfl, hb, _⟩ := h4 hp
  exact ⟨b, off, c', h1, h2, h3, hb⟩
theorem srcK_mem {KS : List Row} {x : Side} : x ∈ srcK KS ↔ ∃ t : Nat, t < KS.length ∧ x = (kOf KS t, (t : Int)) := by
  unfold srcK
  rw [List.mem_map]
  constructor
  · rintro ⟨t, ht, rfl⟩; exact ⟨t, List.mem_range.1 ht, rfl⟩
  · rintro ⟨t, ht, rfl⟩; exact ⟨t, List.mem_range.2 ht, rfl⟩
theorem rowsOnce_of {KS : List Row} {X : List Side} (h : X.Perm (srcK KS)) : RowsOnce X := by
  have n1 : ((srcK KS).map Prod.snd).Nodup := by
    unfold srcK List.Nodup
    rw [List.map_map, List.pairwise_map]
    refine List.nodup_range.imp ?_
    intro a b hab e
    simp only [Function.comp] at e
    omega
  have n2 := (h.map Prod.snd).nodup_iff.2 n1
  intro i j hi hj e
  unfold List.Nodup at n2
  rw [List.pairwise_iff_getElem] at n2
  rcases Nat.lt_trichotomy i j with q | q | q
  · exact absurd (by rw [List.getElem_map, List.getElem_map]; exact e) (n2 i j (by simpa using hi) (by simpa using hj) q)
  · exact q
  · exact absurd (by rw [List.getElem_map, List.getElem_map]; exact e.symm) (n2 j i (by simpa using hj) (by simpa using hi) q)
theorem merge_prs {KA KB : List Row} {X Y : List Side} {a b : Nat} {out m : List (Int × Int)} (pX : X.Perm (srcK KA)) (pY : Y.Perm (srcK KB)) (h : MInv X Y a b out) (he : a = X.length ∨ b = Y.length) (hm : m.Perm out) (hs : m.Pairwise pLt) : m = prs KA KB KA.length := by
  refine merged_prs hm hs fun p => ?_
  rw [h.done he]
  constructor
  · rintro ⟨i, j, hi, hj, rfl, e⟩
    obtain ⟨t, ht, e1⟩ := srcK_mem.1 (pX.mem_iff.1 (List.getElem_mem hi))
    obtain ⟨s, hs, e2⟩ := srcK_mem.1 (pY.mem_iff.1 (List.getElem_mem hj))
    rw [e1, e2] at e ⊢
    simp only [kOf] at e
    refine ⟨t, s, rfl, ht, ?_⟩
    rw [e]
    simp [hs]
  · rintro ⟨t, s, rfl, ht, hs⟩
    have hsl := (List.getElem?_eq_some_iff.1 hs).1
    obtain ⟨i, hi, e1⟩ := List.getElem_of_mem (pX.mem_iff.2 (srcK_mem.2 ⟨t, ht, rfl⟩))
    obtain ⟨j, hj, e2⟩ := List.getElem_of_mem (pY.mem_iff.2 (srcK_mem.2 ⟨s, hsl, rfl⟩))
    refine ⟨i, j, hi, hj, by rw [e1, e2], ?_⟩
    rw [e1, e2]
    simp only [kOf]
    simp [List.getD_eq_getElem?_getD, hs]
theorem side_row {KS : List Row} {X : List Side} (h : X.Perm (srcK KS)) (hk : KS.length < 80) {i : Nat} (hi : i < X.length) : In64 X[i].2 := by
  obtain ⟨t, ht, e1⟩ := srcK_mem.1 (h.mem_iff.1 (List.getElem_mem hi))
  rw [e1]
  unfold In64
  simp only
  omega
theorem MInv.in64 {KA KB : List Row} {X Y : List Side} {a b : Nat} {out : List (Int × Int)} (pX : X.Perm (srcK KA)) (pY : Y.Perm (srcK KB)) (h1 : KA.length < 80) (h2 : KB.length < 80) (h : MInv X Y a b out) : ∀ p ∈ out, In64 p.1 ∧ In64 p.2 := fun p hp => by
  obtain ⟨i, j, hi, hj, _, rfl, _⟩ := (h.mem p).1 hp
  exact ⟨side_row pX h1 hi, side_row pY h2 hj⟩
theorem MInv.left {X Y : List Side} {a b : Nat} {out : List (Int × Int)} (h : MInv X Y a b out) : ∀ p ∈ out, ∃ (i : Nat) (hi : i < X.length), i < a ∧ p.1 = X[i].2 := fun p hp => by
  obtain ⟨i, j, hi, hj, h1, rfl, _⟩ := (h.mem p).1 hp
  exact ⟨i, hi, h1, rfl⟩
end Go.Proofs.Ytmgoefhihljggaa.Sg
namespace Go.Proofs.Ytmgoefhihljggaa.Sg
open Go.RowKit Go.Shelf
set_option linter.unusedVariables false
set_option linter.unusedSimpArgs false

def slen : Value → Nat
  | .slice _ n _ => n
  | _ => 0
theorem run_rest (w : World) (ok : Nat → Prop) (b off n c a : Nat) (X : List Side) (h : SidesI w ok (.slice (some ⟨b, off, none⟩) n c) (X.drop a)) (ha : a < X.length) (hl : X.length < 1000) :
    Calls Try.prog 28 #[.slice (some ⟨b, off, none⟩) n c] w fun e w' => (∃ m : Nat, e = .returned (.int .i64 m) ∧ 1 ≤ m ∧ a + m ≤ X.length ∧ (∀ i (hi : i < X.length), a ≤ i → i < a + m → X[i].1 = X[a].1) ∧ (∀ (hm : a + m < X.length), X[a + m].1 ≠ X[a].1)) ∧ Drew w w' := by
  have l : (X.drop a).length = X.length - a := List.length_drop ..
  refine (run_any w ok b off n c (X.drop a) h (by omega) (by omega)).mono ?_
  rintro e w' ⟨⟨m, rfl, m1, m2, m3, m4⟩, hd⟩
  refine ⟨⟨m, rfl, m1, by omega, fun i hi h1 h2 => ?_, fun hm => ?_⟩, hd⟩
  · have := m3 (i - a) (by omega) (by omega)
    rw [List.getElem_drop, List.getElem_drop] at this
    simpa [show a + (i - a) = i by omega] using this
  · have := m4 (by omega)
    rw [List.getElem_drop, List.getElem_drop] at this
    simpa using this
theorem sides_cut {w : World} {ok : Nat → Prop} {b off n c a m : Nat} {X : List Side} (h : SidesI w ok (.slice (some ⟨b, off, none⟩) n c) (X.drop a)) (hn : a + n = X.length) (hm : m ≤ n) (hc : n ≤ c) : SidesI w ok (.slice (if c = m then some ⟨b, off, none⟩ else some ⟨b, off + m * 2, none⟩) (n - m) (c - m)) (X.drop (a + m)) := by
  have l : (X.drop a).length = X.length - a := List.length_drop ..
  split
  · rename_i e
    rw [List.drop_eq_nil_iff.2 (by omega), show n - m = 0 by omega]
    exact sides_none _ _ (by omega)
  · have := h.rest (m := m) (by omega)
    rwa [List.drop_drop] at this
theorem sides_at {w : World} {ok : Nat → Prop} {b off n c a k : Nat} {X : List Side} (h : SidesI w ok (.slice (some ⟨b, off, none⟩) n c) (X.drop a)) (hk : a + k < X.length) : ∃ A l f, w.cell? ⟨b, off + k * 2, none⟩ = some (.slice A l f) ∧ w.cell? ⟨b, off + k * 2 + 1, none⟩ = some (.int .i64 X[a + k].2) := by
  obtain ⟨b1, o1, u1, u2, e1, -, -, k1, k2, r1, r2⟩ := h.at_ k (by rw [List.length_drop]; omega)
  injection e1 with e1
  injection e1 with q1 q2
  subst q1; subst q2
  obtain ⟨A1, f1, hu1, -⟩ := r1.form
  rw [List.getElem_drop] at r2
  rw [hu1] at k1
  rw [r2.1] at k2
  exact ⟨_, _, _, k1, k2⟩
theorem news2r (w : World) (o : Obj) (a b : Value) (T : TypeId) : ∀ j u, [a, b][j]? = some u → ((w.alloc o).alloc (.cells #[a, b] T)).cell? ((⟨w.heap.size + 1, 0, none⟩ : Addr).add j) = some u := by
  have := news2q (w.alloc o) a b T
  simpa using this
theorem quiet_eq {P : Program} {f : FuncId} {args : Array Value} {w : World} {n : Nat} {v : Value} (h : Calls P f args (w.drewN n) fun e w' => e = .returned v ∧ w.drewN n = w') : Calls P f args (w.drewN n) fun e w' => e = .returned v ∧ ∃ m, w' = w.drewN m :=
  h.mono fun _ _ ⟨he, hm⟩ => ⟨he, n, hm.symm⟩
set_option maxHeartbeats 2000000 in
set_option maxRecDepth 100000 in
theorem mergeP_any (w : World) (oka okb ok1 ok2 : Nat → Prop) (ga gb na nb : Nat) (LA LB : List Row) (pa pb : Row) (va vb : Value) (hA : SegAt w oka (.pointer (some ⟨ga, 0, none⟩)) na LA) (hB : SegAt w okb (.pointer (some ⟨gb, 0, none⟩)) nb LB)
    (ha : RowAt w ok1 va pa) (hb : RowAt w ok2 vb pb) (hla : pa.length < 1000000) (hlb : pb.length < 1000000) (h1 : LA.length < 80) (h2 : LB.length < 80) :
    Calls Try.prog 10 #[.pointer (some ⟨ga, 0, none⟩), .pointer (some ⟨gb, 0, none⟩), va, vb] w fun e w' => ∃ v, e = .returned v ∧ PairsAt w' (w.heap.size ≤ ·) v (prs (LA.map fun r => keyOf r pa) (LB.map fun r => keyOf r pb) LA.length) ∧ Below w.heap.size w w' := by
  obtain ⟨Aa, ca, hva, _⟩ := ha.form
  subst hva
  obtain ⟨Ab, cb, hvb, _⟩ := hb.form
  subst hvb
  obtain ⟨ip, hip, hp0, hp1, hp2⟩ := info_parts info_pair
  have S1 := Aside0.mk (sides_any w _ _ ga na LA pa _ hA ha hla h1)
  have S2 := Aside0.mk (fun W (hbw : Below w.heap.size w W) => sides_any W _ _ gb nb LB pb _ (hB.below hbw) (hb.below reads_int hbw) hlb h2)
  obtain ⟨KA, hKA⟩ : ∃ KA, (LA.map fun r => keyOf r pa) = KA := ⟨_, rfl⟩
  obtain ⟨KB, hKB⟩ : ∃ KB, (LB.map fun r => keyOf r pb) = KB := ⟨_, rfl⟩
  rw [hKA] at S1
  rw [hKB] at S2
  rw [hKA, hKB]
  have hka : KA.length = LA.length := by rw [← hKA]; simp
  have hkb : KB.length = LB.length := by rw [← hKB]; simp
  rw [← hka]
  have HL := Aside0.mk (show KA.length < 80 ∧ KB.length < 80 by omega)
  clear hA hB ha hb hKA hKB hka hkb h1 h2
  go_enter Try.func10, Try.ntmps10
  go_wp2_with fail
  refine S1.out.mono ?_
  rintro e w1 ⟨vx, X, rfl, RX, sX, pX, B1⟩
  have RX := Aside0.mk RX
  have B1 := Aside0.mk B1
  clear S1
  go_wp2_with fail
  refine (S2.out w1 B1.out).mono ?_
  rintro e w2 ⟨vy, Y, rfl, RY, sY, pY, B2⟩
  have RX := Aside0.mk (show SidesI w2 (fun b => w.heap.size ≤ b ∧ b < w2.heap.size) vx X from reads_sidesI.mono (reads_sidesI.stays RX.out (Stays.of_below B2 _)) (fun b hb hl => ⟨hb, hl⟩))
  have RY := Aside0.mk (show SidesI w2 (fun b => w.heap.size ≤ b ∧ b < w2.heap.size) vy Y from reads_sidesI.mono RY (fun b hb hl => ⟨by have := B1.out.size; omega, hl⟩))
  have PX := Aside0.mk pX
  have PY := Aside0.mk pY
  have SX := Aside0.mk (rises_of sX)
  have SY := Aside0.mk (rises_of sY)
  have OX := Aside0.mk (rowsOnce_of pX)
  have OY := Aside0.mk (rowsOnce_of pY)
  have hlx : X.length < 80 := by rw [pX.length_eq]; unfold srcK; rw [List.length_map, List.length_range]; exact HL.out.1
  have hly : Y.length < 80 := by rw [pY.length_eq]; unfold srcK; rw [List.length_map, List.length_range]; exact HL.out.2
  have BB := Aside0.mk (below_trans0 B1.out B2)
  clear pX pY sX sY B1 B2 S2
  go_wp2_with fail
  go_loopw [9, 10, 11] (fun s9 s10 s11 wr => ∃ (a b : Nat) (out : List (Int × Int)), a ≤ X.length ∧ b ≤ Y.length ∧ Aside0 (SidesI w2 (fun b => w.heap.size ≤ b ∧ b < w2.heap.size) s9 (X.drop a)) ∧ Aside0 (SidesI w2 (fun b => w.heap.size ≤ b ∧ b < w2.heap.size) s10 (Y.drop b)) ∧ Aside0 (MInv X Y a b out ∧ out.Nodup ∧ out.length ≤ a * 80) ∧ Aside0 (wr.ownsRow w2.heap.size 39 2 s11 out.length (cellsP out)) ∧ Aside0 (Below w2.heap.size w2 wr)) (fun s9 s10 _ _ => (slen s9) + (slen s10))
  case atStart => exact ⟨0, 0, [], by omega, by omega, RX, RY, ⟨MInv.start X Y, List.nodup_nil, by simp⟩, ⟨World.ownsRow_nil _ _ _ _⟩, ⟨Below.refl _ _⟩⟩
  case round =>
    clear RX RY
    obtain ⟨a, b, out, hxa, hyb, RX, RY, MI, HO, HB⟩ := hrel
    have dx : (X.drop a).length = X.length - a := List.length_drop ..
    have dy : (Y.drop b).length = Y.length - b := List.length_drop ..
    by_cases hc : a < X.length ∧ b < Y.length
    · obtain ⟨bx, ox, cx, hvx, hcx, hcm, hbx⟩ := sides_some RX.out (by omega)
      obtain ⟨by_, oy, cy, hvy, hcy, hcym, hby⟩ := sides_some RY.out (by omega)
      subst hvx; subst hvy
      have RXr := reads_sidesI.stays RX.out (Stays.of_below HB.out _)
      have RYr := reads_sidesI.stays RY.out (Stays.of_below HB.out _)
      have RNX := Aside0.mk (fun q => run_rest (wr.drewN q) _ bx ox (X.drop a).length cx a X (reads_sidesI.stays RXr (Stays.drewN _ _ q)) hc.1 (by omega))
      have RNY := Aside0.mk (fun q => run_rest (wr.drewN q) _ by_ oy (Y.drop b).length cy b Y (reads_sidesI.stays RYr (Stays.drewN _ _ q)) hc.2 (by omega))
      obtain ⟨b1, o1, u1, u2, e1, -, -, k1, -, r1, -⟩ := RXr.at_ 0 (by omega)
      obtain ⟨b2, o2, u3, u4, e2, -, -, k2, -, r2, -⟩ := RYr.at_ 0 (by omega)
      have e1 := Option.some.inj e1
      have e2 := Option.some.inj e2
      injection e1 with q1 q2
      injection e2 with q3 q4
      subst q1; subst q2; subst q3; subst q4
      rw [Nat.zero_mul, Nat.add_zero] at k1 k2
      rw [List.getElem_drop] at r1 r2
      simp only [Nat.add_zero] at r1 r2
      have CM := Aside0.mk (fun q => scompare_any (wr.drewN q) _ _ u1 u3 _ _ (reads_row.stays r1 (Stays.drewN _ _ q)) (reads_row.stays r2 (Stays.drewN _ _ q)))
      obtain ⟨A1, f1, hu1, -⟩ := r1.form
      obtain ⟨A2, f2, hu2, -⟩ := r2.form
      rw [hu1] at k1 CM
      rw [hu2] at k2 CM
      have hz := rowCmp_zero X[a].1 Y[b].1
      have hw := rowCmp_swap X[a].1 Y[b].1
      obtain ⟨cc, hcc⟩ : ∃ cc, rowCmp X[a].1 Y[b].1 = cc := ⟨_, rfl⟩
      rw [hcc] at CM hz hw
      have CZ := Aside0.mk (show (cc < 0 → rlt X[a].1 Y[b].1) ∧ (0 < cc → rlt Y[b].1 X[a].1) ∧ (cc = 0 → X[a].1 = Y[b].1) from ⟨fun h => by unfold rlt; omega, fun h => by unfold rlt; omega, fun h => hz.1 h⟩)
      generalize X[a].1.length = l1 at *
      generalize Y[b].1.length = l2 at *
      obtain ⟨nx, hnx⟩ : ∃ nx, (X.drop a).length = nx := ⟨_, rfl⟩
      obtain ⟨ny, hny⟩ : ∃ ny, (Y.drop b).length = ny := ⟨_, rfl⟩
      rw [hnx] at RX RNX hcx ⊢
      rw [hny] at RY RNY hcy ⊢
      have hnx0 : 0 < nx := by omega
      have hny0 : 0 < ny := by omega
      have hnx1 : nx < 80 := by omega
      have hny1 : ny < 80 := by omega
      have NX := Aside0.mk (show a + nx = X.length by omega)
      have NY := Aside0.mk (show b + ny = Y.length by omega)
      have zx : (0 : Int) < (nx : Int) := by omega
      have zy : (0 : Int) < (ny : Int) := by omega
      clear hu1 hu2 r1 r2 hz hw hcc RXr RYr dx dy hnx hny
      go_wp2_with fail
      go_quiet ((go_at_call 20; exact quiet_eq (CM.out _)))
      rcases Int.lt_trichotomy cc 0 with hneg | hzero | hpos
      · go_wp2_with fail
        refine (RNX.out nq).mono ?_
        rintro e w3 ⟨⟨m, rfl, m1, m2, m3, m4⟩, hd⟩
        have MS := Aside0.mk (And.intro m3 m4)
        have ML := Aside0.mk m2
        have hmn : m ≤ nx := by have := NX.out; omega
        have hmz : (m : Int) ≤ (nx : Int) := by omega
        have hmc : (m : Int) ≤ (cx : Int) := by omega
        have tm : ((m : Nat) : Int).toNat = m := by omega
        have HD := Aside0.mk (show Below w2.heap.size w2 w3 ∧ w3.ownsRow w2.heap.size 39 2 u11 out.length (cellsP out) from by
          obtain ⟨q, rfl⟩ := hd
          exact ⟨below_drewN (below_drewN HB.out nq) q, (Stays.drewN (fun _ => True) _ _).owns ((Stays.drewN (fun _ => True) _ _).owns HO.out (fun _ _ => trivial)) (fun _ _ => trivial)⟩)
        clear hd m2 m3 m4 RNX RNY CM
        go_wp2
        go_roundw
        case rel =>
          obtain ⟨g1, g2, g3⟩ := MI.out
          exact ⟨a + m, b, out, ML.out, hyb, ⟨sides_cut RX.out NX.out hmn hcx⟩, RY, ⟨g1.stepX SY.out hc.1 hc.2 (CZ.out.1 hneg) (by omega) ML.out MS.out.1, g2, by omega⟩, ⟨HD.out.2⟩, ⟨HD.out.1⟩⟩
        case measure => simp [slen]; omega
      · subst hzero
        go_wp2_with fail
        refine (RNX.out nq).mono ?_
        rintro e w3 ⟨⟨n1, rfl, m1, m2, m3, m4⟩, hd⟩
        have MS1 := Aside0.mk (And.intro m3 m4)
        have ML1 := Aside0.mk m2
        have hn1 : n1 ≤ nx := by have := NX.out; omega
        clear m2 m3 m4
        obtain ⟨q3, rfl⟩ := hd
        go_wp2_with fail
        refine (RNY.out (nq + q3)).mono ?_
        rintro e w4 ⟨⟨m, rfl, k1', m2, m3, m4⟩, hd⟩
        have MS2 := Aside0.mk (And.intro m3 m4)
        have ML2 := Aside0.mk m2
        have hm1 : m ≤ ny := by have := NY.out; omega
        have HD := Aside0.mk (show Below w2.heap.size w2 w4 ∧ w4.ownsRow w2.heap.size 39 2 u11 out.length (cellsP out) from by
          obtain ⟨q, rfl⟩ := hd
          exact ⟨below_drewN (below_drewN HB.out _) q, (Stays.drewN (fun _ => True) _ _).owns ((Stays.drewN (fun _ => True) _ _).owns HO.out (fun _ _ => trivial)) (fun _ _ => trivial)⟩)
        have hnc : n1 ≤ cx := by omega
        have hmc : m ≤ cy := by omega
        clear m2 m3 m4 hd RNX RNY CM HO HB k1 k2
        have z1 : (n1 : Int) ≤ (cx : Int) := by omega
        have z2 : (m : Int) ≤ (cy : Int) := by omega
        have t1 : ((n1 : Nat) : Int).toNat = n1 := by omega
        have t2 : ((m : Nat) : Int).toNat = m := by omega
        go_wp2_with fail
        go_loopw [11, 50] (fun s11 s50 wr => ∃ (k : Nat) (out' : List (Int × Int)), s50 = .int .i64 k ∧ k ≤ n1 ∧ Aside0 (CInv X Y a b m out (a + k) 0 out' ∧ wr.ownsRow w2.heap.size 39 2 s11 out'.length (cellsP out')) ∧ Aside0 (Below w2.heap.size w2 wr)) (fun _ s50 _ => n1 - (intOf s50).toNat)
        case atStart => exact ⟨0, out, rfl, Nat.zero_le _, ⟨CInv.start MI.out.2.1 MI.out.2.2, HD.out.2⟩, ⟨HD.out.1⟩⟩
        case round =>
          clear HD
          obtain ⟨k, out', rfl, hk, HC, HB⟩ := hrel
          by_cases hlt : k < n1
          · have hax : a + k < X.length := by have := NX.out; omega
            obtain ⟨A5, l5, f5, x0, x1⟩ := sides_at RX.out hax
            have x0 := below_cell0 HB.out x0
            have x1 := below_cell0 HB.out x1
            have tk : ((k : Nat) : Int).toNat = k := by omega
            have kz : (k : Int) < (n1 : Int) := by omega
            obtain ⟨xr, hxr⟩ : ∃ xr, X[a + k].2 = xr := ⟨_, rfl⟩
            rw [hxr] at x1
            have HXR := Aside0.mk hxr
            clear hxr
            generalize wr = wo at *
            go_wp2_with fail
            have hBo := HB.out.size
            go_loopw [11, 58] (fun s11 s58 wr => ∃ (t : Nat) (out2 : List (Int × Int)), s58 = .int .i64 t ∧ t ≤ m ∧ Aside0 (CInv X Y a b m out (a + k) t out2 ∧ wr.ownsRow w2.heap.size 39 2 s11 out2.length (cellsP out2)) ∧ Aside0 (wr.cell? ⟨wo.heap.size, 1, none⟩ = some (.int .i64 xr) ∧ s11.ownBlock ≠ some wo.heap.size ∧ wo.heap.size < wr.heap.size) ∧ Aside0 (Below w2.heap.size w2 wr)) (fun _ s58 _ => m - (intOf s58).toNat)
            case atStart =>
              refine ⟨0, out', rfl, Nat.zero_le _, ⟨HC.out.1, (Stays.alloc (fun _ => True) _ _).owns HC.out.2 (fun _ _ => trivial)⟩, ⟨?_, fun e => ?_, by simp⟩, ⟨below_alloc HB.out hBo _⟩⟩
              · rw [cell_of_row _ _ 1 _ _ _ (heap_alloc_new wo _)]; rfl
              · have := (HC.out.2.lt _ e).2
                omega
            case round =>
              clear HC x0 x1 HB
              obtain ⟨t, out2, rfl, ht, HC, HG, HB⟩ := hrel
              by_cases hlt2 : t < m
              · have hby : b + t < Y.length := by have := NY.out; omega
                obtain ⟨A6, l6, f6, y0, y1⟩ := sides_at RY.out hby
                have y0 := below_cell0 HB.out y0
                have y1 := below_cell0 HB.out y1
                have tt : ((t : Nat) : Int).toNat = t := by omega
                have ttz : (t : Int) < (m : Int) := by omega
                obtain ⟨yr, hyr⟩ : ∃ yr, Y[b + t].2 = yr := ⟨_, rfl⟩
                rw [hyr] at y1
                have HYR := Aside0.mk hyr
                have hsr := HB.out.size
                have hxc := below_cell0 (below_alloc0 (Below.refl _ _) (.cells #[.slice A6 l6 f6, .int .i64 yr] 54)) HG.out.1
                have hnl := HC.out.1.len
                have h63 := Aside0.mk (show out2.length + 1 ≤ maxLen by unfold maxLen; omega)
                have hbyt := Aside0.mk (show (out2.length + 1) * 16 ≤ 140737488355328 by omega)
                have hsz := Aside0.mk (fun o1 o2 => (show w2.heap.size ≤ ((wr.alloc o1).alloc o2).heap.size by simp; omega))
                clear hyr hnl
                generalize wr = wi at *
                go_wp2_with (at_builtin; refine wpList_append_own_at _ rfl (.tmp 62) (.tmp 68) 27 rfl w2.heap.size 39 ip (.agg #[.int .i64 0, .int .i64 0]) 2 16 Try.underlying27 hip hp0 hp1 hp2 rfl (by decide) _ _ _ rfl ((Stays.alloc (fun _ => True) _ _).owns ((Stays.alloc (fun _ => True) _ _).owns HC.out.2 (fun _ _ => trivial)) (fun _ _ => trivial)) ⟨wi.heap.size + 1, 0, none⟩ 1 1 [Value.int .i64 xr, Value.int .i64 yr] rfl rfl (news2r _ _ _ _ _) (by simp [Value.oneCell']) h63.out hbyt.out (hsz.out _ _) ?_; intro v1 w10 ho hg _ hb; have O1 := Aside0.mk ho; have G1 := Aside0.mk hg; have N1 := Aside0.mk hb; clear ho hg hb)
                go_roundw
                case rel =>
                  refine ⟨t + 1, out2 ++ [(xr, yr)], by go_num, by omega, ⟨?_, ?_⟩, ⟨?_, ?_, ?_⟩, ⟨?_⟩⟩
                  · have := HC.out.1.push OX.out OY.out MI.out.1.left (by omega) hax hlt2 hby
                    rwa [HXR.out, HYR.out] at this
                  · rw [List.length_append, cellsP_append]; exact O1.out
                  · exact G1.out.cell (below_cell0 (below_alloc0 (below_alloc0 (Below.refl _ _) _) _) HG.out.1) (fun e => HG.out.2.1 e.symm)
                  · intro e
                    rcases N1.out with h8 | h8
                    · rw [h8] at e; exact HG.out.2.1 e
                    · rw [h8] at e
                      have := Option.some.inj e
                      have := HG.out.2.2
                      simp at *
                      omega
                  · have := G1.out.size
                    have := HG.out.2.2
                    simp at *
                    omega
                  · exact (below_alloc (below_alloc HB.out hsr _) (by simp; omega) _).grown G1.out (by simp; omega) (fun k hk => (HC.out.2.lt k hk).1)
                case measure => simp [intOf]; omega
              · obtain rfl : t = m := by omega
                have HN := Aside0.mk (HC.out.1.next (by omega))
                go_wp2
                go_roundw
                case rel => exact ⟨k + 1, out2, by go_num, by omega, ⟨HN.out, HC.out.2⟩, HB⟩
                case measure => simp [intOf]; omega
          · obtain rfl : k = n1 := by omega
            have hout := HC.out.1.done
            have MN := Aside0.mk (show MInv X Y (a + k) (b + m) out' from MI.out.1.stepE SX.out SY.out hc.1 hc.2 (CZ.out.2.2 trivial) (by omega) (by omega) ML1.out ML2.out MS1.out.1 MS2.out.1 MS1.out.2 MS2.out.2 hout)
            clear hout
            go_wp2_with fail
            go_quiet (fail)
            go_wp2
            go_roundw
            case rel => exact ⟨a + k, b + m, out', ML1.out, ML2.out, ⟨sides_cut RX.out NX.out hn1 hcx⟩, ⟨sides_cut RY.out NY.out hm1 hcy⟩, ⟨MN.out, HC.out.1.nd, HC.out.1.len⟩, ⟨(Stays.drewN (fun _ => True) _ _).owns HC.out.2 (fun _ _ => trivial)⟩, ⟨below_drewN HB.out _⟩⟩
            case measure => simp [slen]; omega
      · go_wp2_with fail
        refine (RNY.out nq).mono ?_
        rintro e w3 ⟨⟨m, rfl, m1, m2, m3, m4⟩, hd⟩
        have MS := Aside0.mk (And.intro m3 m4)
        have ML := Aside0.mk m2
        have hmn : m ≤ ny := by have := NY.out; omega
        have hmz : (m : Int) ≤ (ny : Int) := by omega
        have hmc : (m : Int) ≤ (cy : Int) := by omega
        have tm : ((m : Nat) : Int).toNat = m := by omega
        have HD := Aside0.mk (show Below w2.heap.size w2 w3 ∧ w3.ownsRow w2.heap.size 39 2 u11 out.length (cellsP out) from by
          obtain ⟨q, rfl⟩ := hd
          exact ⟨below_drewN (below_drewN HB.out nq) q, (Stays.drewN (fun _ => True) _ _).owns ((Stays.drewN (fun _ => True) _ _).owns HO.out (fun _ _ => trivial)) (fun _ _ => trivial)⟩)
        clear hd m2 m3 m4 RNX RNY CM
        go_wp2
        go_roundw
        case rel =>
          obtain ⟨g1, g2, g3⟩ := MI.out
          exact ⟨a, b + m, out, hxa, ML.out, RX, ⟨sides_cut RY.out NY.out hmn hcy⟩, ⟨g1.stepY SX.out hc.1 hc.2 (CZ.out.2.1 hpos) ML.out MS.out.1, g2, g3⟩, ⟨HD.out.2⟩, ⟨HD.out.1⟩⟩
        case measure => simp [slen]; omega
    · obtain ⟨A9, c9, hv9, -⟩ := RX.out.form
      obtain ⟨A10, c10, hv10, -⟩ := RY.out.form
      subst hv9; subst hv10
      have SP := Aside0.mk (sortPairs_any wr w2.heap.size u11 out HO.out MI.out.2.1 (by have := MI.out.2.2; omega) (MI.out.1.in64 PX.out PY.out HL.out.1 HL.out.2) HB.out.size)
      have HE := Aside0.mk (show a = X.length ∨ b = Y.length by omega)
      have h00 : (X.drop a).length = 0 ∨ (Y.drop b).length = 0 := by omega
      obtain ⟨nx, hnx⟩ : ∃ nx, (X.drop a).length = nx := ⟨_, rfl⟩
      obtain ⟨ny, hny⟩ : ∃ ny, (Y.drop b).length = ny := ⟨_, rfl⟩
      rw [hnx, hny] at h00
      rw [hnx, hny]
      clear hnx hny dx dy RX RY hc
      by_cases h0 : nx = 0
      · subst h0
        go_wp2_with fail
        refine (SP.out).mono ?_
        rintro e w8 ⟨rfl, mm, hp, hs, hr, hb⟩
        have FIN := Aside0.mk (show mm = prs KA KB KA.length from merge_prs PX.out PY.out MI.out.1 HE.out hp hs)
        have RR := Aside0.mk hr
        have BZ := Aside0.mk (below_trans0 BB.out (HB.out.trans hb))
        clear SP hp hs hr hb
        go_wp2
        go_ret
        refine ⟨_, rfl, ?_, BZ.out⟩
        rw [← FIN.out]
        exact reads_pairs.mono RR.out (fun b hb _ => Nat.le_trans BB.out.size hb)
      · have hny : ny = 0 := by omega
        have hz : (0 : Int) < (nx : Int) := by omega
        subst hny
        clear h00
        go_wp2_with fail
        refine (SP.out).mono ?_
        rintro e w8 ⟨rfl, mm, hp, hs, hr, hb⟩
        have FIN := Aside0.mk (show mm = prs KA KB KA.length from merge_prs PX.out PY.out MI.out.1 HE.out hp hs)
        have RR := Aside0.mk hr
        have BZ := Aside0.mk (below_trans0 BB.out (HB.out.trans hb))
        clear SP hp hs hr hb
        go_wp2
        go_ret
        refine ⟨_, rfl, ?_, BZ.out⟩
        rw [← FIN.out]
        exact reads_pairs.mono RR.out (fun b hb _ => Nat.le_trans BB.out.size hb)
end Go.Proofs.Ytmgoefhihljggaa.Sg
