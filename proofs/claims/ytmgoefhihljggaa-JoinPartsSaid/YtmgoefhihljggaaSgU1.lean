/- Sides in an array, plain: ranges, two ranges exchanged, a rotation; insertion by key is insertion by key and row where the rows rise. Contract: slices.swapRangeCmpFunc over sides: two ranges change places. Contract: slices.rotateCmpFunc over sides: two neighbouring ranges change places. Contract: the comparison of two sides (join.sides$1), wherever the sort has come to. symMerge, plain: its three cases over an array of sides. -/
import Derived.Test.YtmgoefhihljggaaSgJd
import Derived.Sort.LotA
import Derived.Shelf.SlSortCmp.ReverseRangeK
import Derived.Test.YtmgoefhihljggaaSgC
namespace Go.Proofs.Ytmgoefhihljggaa.Sg
open Go.RowKit Go.Shelf
set_option linter.unusedVariables false
set_option linter.unusedSimpArgs false

def sd (K : Nat → Row) (x : Nat) : Side := (K x, (x : Int))
def sg (K : Nat → Row) (d : Array Nat) (a b : Nat) : List Side := (List.range' a (b - a)).map fun x => sd K d[x]!
theorem sg_length (K : Nat → Row) (d : Array Nat) (a b : Nat) : (sg K d a b).length = b - a := by simp [sg]
theorem sg_get {K : Nat → Row} {d : Array Nat} {a b t : Nat} (h : t < (sg K d a b).length) : (sg K d a b)[t] = sd K d[a + t]! := by simp [sg]
theorem sg_split (K : Nat → Row) (d : Array Nat) {a b c : Nat} (h1 : a ≤ c) (h2 : c ≤ b) : sg K d a b = sg K d a c ++ sg K d c b := by
  unfold sg
  rw [← List.map_append, show b - a = (c - a) + (b - c) by omega]
  congr 1
  have := @List.range'_append a (c - a) (b - c) 1
  rw [Nat.one_mul, show a + (c - a) = c by omega] at this
  rw [← this]
theorem sg_take (K : Nat → Row) (d : Array Nat) {a b c : Nat} (h1 : a ≤ c) (h2 : c ≤ b) : (sg K d a b).take (c - a) = sg K d a c := by
  rw [sg_split K d h1 h2]
  have : (sg K d a c).length = c - a := sg_length ..
  rw [← this, List.take_left']
  rfl
theorem sg_drop (K : Nat → Row) (d : Array Nat) {a b c : Nat} (h1 : a ≤ c) (h2 : c ≤ b) : (sg K d a b).drop (c - a) = sg K d c b := by
  rw [sg_split K d h1 h2]
  have : (sg K d a c).length = c - a := sg_length ..
  rw [← this, List.drop_left']
  rfl
theorem sg_congr (K : Nat → Row) {d d' : Array Nat} {a b a' b' : Nat} (h : b' - a' = b - a) (e : ∀ t, t < b - a → d'[a' + t]! = d[a + t]!) : sg K d' a' b' = sg K d a b := by
  refine List.ext_getElem (by rw [sg_length, sg_length, h]) fun t h1 h2 => ?_
  rw [sg_get, sg_get, e t (by rw [sg_length] at h2; exact h2)]

/-! ### two ranges exchanged; a rotation -/
/-- t exchanges of the places a + x and b + x. -/
def swU (a b : Nat) : Nat → Array Nat → Array Nat
  | 0, d => d
  | t + 1, d => Go.Sort.swp (swU a b t d) (a + t) (b + t)
theorem swU_size (a b : Nat) : ∀ t d, (swU a b t d).size = d.size
  | 0, _ => rfl
  | t + 1, d => by rw [swU, Go.Sort.size_swp, swU_size a b t d]
def swF (a b n : Nat) (f : Nat → Nat) (x : Nat) : Nat := if a ≤ x ∧ x < a + n then f (x - a + b) else if b ≤ x ∧ x < b + n then f (x - b + a) else f x
theorem swU_get (a b : Nat) (d : Array Nat) : ∀ n, a + n ≤ b → b + n ≤ d.size → ∀ x, (swU a b n d)[x]! = swF a b n (fun i => d[i]!) x
  | 0, _, _, x => by
    unfold swF
    rw [if_neg (by omega), if_neg (by omega)]
    rfl
  | n + 1, h1, h2, x => by
    have ih := swU_get a b d n (by omega) (by omega)
    rw [swU, Go.Sort.swp_get _ (by rw [swU_size]; omega) (by rw [swU_size]; omega)]
    rw [ih, ih, ih]
    unfold swF
    repeat' split
    all_goals first | omega | rfl | (congr 1; omega)
def rotF (s m e : Nat) (f : Nat → Nat) (x : Nat) : Nat := if x < s then f x else if x < s + (e - m) then f (m + (x - s)) else if x < e then f (x - (e - m)) else f x
theorem rot_gt {i j m : Nat} (f : Nat → Nat) (h : j < i) (hi : i ≤ m) (x : Nat) : rotF (m - (i - j)) m (m + j) (swF (m - i) m j f) x = rotF (m - i) m (m + j) f x := by
  unfold rotF swF
  repeat' split
  all_goals first | omega | rfl | (congr 1; omega)
theorem rot_lt {i j m : Nat} (f : Nat → Nat) (h : i < j) (hi : i ≤ m) (x : Nat) : rotF (m - i) m (m + (j - i)) (swF (m - i) (m + j - i) i f) x = rotF (m - i) m (m + j) f x := by
  unfold rotF swF
  repeat' split
  all_goals first | omega | rfl | (congr 1; omega)
theorem rot_eq {i m : Nat} (f : Nat → Nat) (hi : i ≤ m) (x : Nat) : swF (m - i) m i f x = rotF (m - i) m (m + i) f x := by
  unfold rotF swF
  repeat' split
  all_goals first | omega | rfl | (congr 1; omega)
def IsRot (s m e : Nat) (d d' : Array Nat) : Prop := d'.size = d.size ∧ ∀ x, d'[x]! = rotF s m e (fun i => d[i]!) x
theorem IsRot.none (s m : Nat) (d : Array Nat) (h : s ≤ m) (e : Nat) (h1 : s = m ∨ m = e) : IsRot s m e d d := ⟨rfl, fun x => by
  unfold rotF
  repeat' split
  all_goals first | omega | rfl | (congr 1; omega)⟩
/-- One more exchange to the right: the element of place s has come to place k. -/
theorem IsRot.right {s k : Nat} {d dk : Array Nat} (h : IsRot s (s + 1) (k + 1) d dk) (hk : s ≤ k) (hs : k + 1 < d.size) : IsRot s (s + 1) (k + 2) d (Go.Sort.swp dk k (k + 1)) := by
  refine ⟨by rw [Go.Sort.size_swp, h.1], fun x => ?_⟩
  rw [Go.Sort.swp_get _ (by rw [h.1]; omega) (by rw [h.1]; omega), h.2, h.2, h.2]
  unfold rotF
  repeat' split
  all_goals first | omega | rfl | (congr 1; omega)
/-- One more exchange to the left: the element of place m has come to place k. -/
theorem IsRot.left {k m : Nat} {d dk : Array Nat} (h : IsRot (k + 1) m (m + 1) d dk) (hk : k + 1 ≤ m) (hs : m < d.size) : IsRot k m (m + 1) d (Go.Sort.swp dk (k + 1) k) := by
  refine ⟨by rw [Go.Sort.size_swp, h.1], fun x => ?_⟩
  rw [Go.Sort.swp_get _ (by rw [h.1]; omega) (by rw [h.1]; omega), h.2, h.2, h.2]
  unfold rotF
  repeat' split
  all_goals first | omega | rfl | (congr 1; omega)
theorem IsRot.parts (K : Nat → Row) {a s m e b : Nat} {d d' : Array Nat} (h : IsRot s m e d d') (h1 : a ≤ s) (h2 : s ≤ m) (h3 : m ≤ e) (h4 : e ≤ b) :
    sg K d' a s = sg K d a s ∧ sg K d' s (s + (e - m)) = sg K d m e ∧ sg K d' (s + (e - m)) e = sg K d s m ∧ sg K d' e b = sg K d e b := by
  refine ⟨sg_congr K rfl fun t ht => ?_, sg_congr K (by omega) fun t ht => ?_, sg_congr K (by omega) fun t ht => ?_, sg_congr K rfl fun t ht => ?_⟩
  all_goals (rw [h.2]; unfold rotF; repeat' split)
  all_goals first | omega | rfl | (congr 1; omega)

/-! ### insertion: by key alone, where the rows rise -/
def tl (lt : Nat → Nat → Bool) (x y : Nat) : Bool := lt x y || (!lt y x && decide (x < y))
theorem insInner_tl (lt : Nat → Nat → Bool) (a : Nat) : ∀ (j : Nat) (d : Array Nat), j < d.size → (∀ k, a ≤ k → k < j → d[k]! < d[j]!) → Go.Sort.insInner lt a j d = Go.Sort.insInner (tl lt) a j d
  | 0, d, _, _ => rfl
  | j + 1, d, hs, h => by
    rw [Go.Sort.insInner, Go.Sort.insInner]
    by_cases ha : j + 1 > a
    · have hd := h j (by omega) (by omega)
      have e : tl lt d[j + 1]! d[j]! = lt d[j + 1]! d[j]! := by
        unfold tl
        rw [show decide (d[j + 1]! < d[j]!) = false from decide_eq_false (by omega), Bool.and_false, Bool.or_false]
      rw [e]
      rw [insInner_tl lt a j (Go.Sort.swp d (j + 1) j) (by rw [Go.Sort.size_swp]; omega) (fun k h1 h2 => by
        rw [Go.Sort.swp_right _ _ _ (by omega), Go.Sort.swp_other _ _ _ _ (by omega) (by omega)]
        exact h k h1 (by omega))]
    · rw [decide_eq_false ha, Bool.false_and, Bool.false_and]; rfl
theorem insInner_perm (lt : Nat → Nat → Bool) (a b : Nat) : ∀ (j : Nat) (d : Array Nat), a ≤ j → j < b → b ≤ d.size → Go.Sort.PermIn a b d (Go.Sort.insInner lt a j d)
  | 0, d, _, _, _ => Go.Sort.permIn_refl d a b
  | j + 1, d, h1, h2, h3 => by
    rw [Go.Sort.insInner]
    split
    · rename_i hc
      simp only [Bool.and_eq_true, decide_eq_true_eq] at hc
      exact Go.Sort.permIn_trans _ _ _ a b (Go.Sort.swp_permIn d a b (j + 1) j h1 h2 (by omega) (by omega) h3) (insInner_perm lt a b j _ (by omega) (by omega) (by rw [Go.Sort.size_swp]; exact h3))
    · exact Go.Sort.permIn_refl d a b
theorem insOuter_tl (lt : Nat → Nat → Bool) (hO : Go.Sort.SWO (tl lt)) (a b : Nat) : ∀ (n i : Nat) (d : Array Nat), b - i = n → a < i → b ≤ d.size → (∀ k l, a ≤ k → k < l → i ≤ l → l < b → d[k]! < d[l]!) → Go.Sort.insOuter lt a b i d = Go.Sort.insOuter (tl lt) a b i d
  | 0, i, d, hn, _, _, _ => by
    have e : ∀ lt2 : Nat → Nat → Bool, Go.Sort.insOuter lt2 a b i d = d := fun lt2 => by rw [Go.Sort.insOuter, if_neg (by omega)]
    rw [e, e]
  | n + 1, i, d, hn, ha, hs, h => by
    have e : ∀ lt2 : Nat → Nat → Bool, Go.Sort.insOuter lt2 a b i d = Go.Sort.insOuter lt2 a b (i + 1) (Go.Sort.insInner lt2 a i d) := fun lt2 => by
      conv => lhs; rw [Go.Sort.insOuter, if_pos (by omega)]
    rw [e, e]
    rw [insInner_tl lt a i d (by omega) (fun k h1 h2 => h k i h1 h2 (Nat.le_refl _) (by omega))]
    have P := insInner_perm (tl lt) a (i + 1) i d (by omega) (by omega) (by omega)
    refine insOuter_tl lt hO a b n (i + 1) _ (by omega) (by omega) (by rw [P.1]; exact hs) fun k l h1 h2 h3 h4 => ?_
    rw [P.2.1 l (.inr (by omega))]
    by_cases hk : k < i + 1
    · exact Go.Sort.permIn_all d _ a (i + 1) (fun x => x < d[l]!) (by omega) P (fun t t1 t2 => h t l t1 (by omega) (by omega) h4) k h1 hk
    · rw [P.2.1 k (.inr (by omega))]
      exact h k l h1 h2 (by omega) h4
/-- Insertion where the rows rise: sorted by key and row. -/
theorem insertion_tl (lt : Nat → Nat → Bool) (hO : Go.Sort.SWO (tl lt)) (a b : Nat) (d : Array Nat) (hab : a ≤ b) (hs : b ≤ d.size) (h : ∀ k l, a ≤ k → k < l → l < b → d[k]! < d[l]!) :
    Go.Sort.PermIn a b d (Go.Sort.insertionSort lt d a b) ∧ Go.Sort.SortedIn (tl lt) a b (Go.Sort.insertionSort lt d a b) := by
  have e : Go.Sort.insertionSort lt d a b = Go.Sort.insertionSort (tl lt) d a b := insOuter_tl lt hO a b _ (a + 1) d rfl (by omega) hs (fun k l h1 h2 h3 h4 => h k l h1 h2 h4)
  rw [e]
  exact Go.Sort.insertionSort_holds hO d a b hab hs
end Go.Proofs.Ytmgoefhihljggaa.Sg
namespace Go.Proofs.Ytmgoefhihljggaa.Sg
open Go.RowKit Go.Shelf Go.Sort
set_option linter.unusedVariables false
set_option linter.unusedSimpArgs false

/-- The two cells of a side: its key's slice, its row. -/
abbrev Keyv := Option Addr × Nat × Nat
def kv (s : Keyv) : Value := .slice s.1 s.2.1 s.2.2
def encS (V : Nat → Keyv) (x : Nat) : List Value := [kv (V x), .int .i64 x]
theorem encS_len (V : Nat → Keyv) (x : Nat) : (encS V x).length = 2 := rfl
/-- A side's cells. -/
theorem side_cells {V : Nat → Keyv} {w0 W : World} {blk off : Nat} {d0 dk : Array Nat} (S : SWK (encS V) 2 w0 blk off dk W) (R : RowK (encS V) 2 w0 blk off d0) (hs : dk.size = d0.size) (i : Nat) (hi : i < dk.size) :
    (W.cell? ⟨blk, off + i * 2, none⟩ = some (kv (V dk[i]!)) ∧ W.cell? ⟨blk, off + i * 2 + 1, none⟩ = some (.int .i64 (dk[i]! : Nat))) ∧ (W.frozen? ⟨blk, off + i * 2, none⟩ = false ∧ W.frozen? ⟨blk, off + i * 2 + 1, none⟩ = false) := by
  have h := S.holds R.hblk R.hH hs
  exact ⟨⟨(h.cell hi (show 0 < 2 by decide)).1, (h.cell hi (show 1 < 2 by decide)).1⟩, (h.cell hi (show 0 < 2 by decide)).2, (h.cell hi (show 1 < 2 by decide)).2⟩
/-- A side is exchanged with another. -/
theorem side_swap {V : Nat → Keyv} {w0 W : World} {blk off : Nat} {d0 dk : Array Nat} (S : SWK (encS V) 2 w0 blk off dk W) (R : RowK (encS V) 2 w0 blk off d0) (i j : Nat) (hi : i < dk.size) (hj : j < dk.size) :
    SWK (encS V) 2 w0 blk off (swp dk i j) ((((W.setCell ⟨blk, off + i * 2, none⟩ (kv (V dk[j]!))).setCell ⟨blk, off + i * 2 + 1, none⟩ (.int .i64 (dk[j]! : Nat))).setCell ⟨blk, off + j * 2, none⟩ (kv (V dk[i]!))).setCell ⟨blk, off + j * 2 + 1, none⟩ (.int .i64 (dk[i]! : Nat))).drew := by
  exact S.swapped R i j hi hj

set_option maxHeartbeats 1000000 in
set_option maxRecDepth 100000 in
theorem swapRange_any (V : Nat → Keyv) (fv : Value) (blk off cap a b n : Nat) (d0 d : Array Nat) (w0 w : World)
    (R : RowK (encS V) 2 w0 blk off d0) (hs : d0.size = d.size) (S : SWK (encS V) 2 w0 blk off d w) (hab : a + n ≤ b) (hb : b + n ≤ d.size) (hsz : d.size < 1000000) :
    Calls Try.prog 81 #[.slice (some ⟨blk, off, none⟩) d.size cap, .int .i64 a, .int .i64 b, .int .i64 n, fv] w fun e w' => e = .returned (.tuple #[]) ∧ SWK (encS V) 2 w0 blk off (swU a b n d) w' := by
  have S0 := Aside0.mk S
  clear S
  go_enter Try.func81, Try.ntmps81
  go_wp2_with fail
  go_loopw [10] (fun s10 wr => ∃ i : Nat, s10 = .int .i64 i ∧ i ≤ n ∧ Aside0 (SWK (encS V) 2 w0 blk off (swU a b i d) wr)) (fun s10 _ => n - (intOf s10).toNat)
  case atStart => exact ⟨0, rfl, Nat.zero_le _, S0⟩
  case round =>
    clear S0
    obtain ⟨i, rfl, hi, S1⟩ := hrel
    by_cases hlt : i < n
    · obtain ⟨dk, hdk⟩ : ∃ dk, swU a b i d = dk := ⟨_, rfl⟩
      have hds : dk.size = d.size := by rw [← hdk, swU_size]
      have hnx : swU a b (i + 1) d = swp dk (a + i) (b + i) := by rw [swU, hdk]
      rw [hdk] at S1
      have HN := Aside0.mk hnx
      clear hnx hdk
      have S2 := Aside0.mk (side_swap S1.out R (a + i) (b + i) (by omega) (by omega))
      obtain ⟨⟨x0, x1⟩, f0, f1⟩ := side_cells S1.out R (by omega) (a + i) (by omega)
      obtain ⟨⟨y0, y1⟩, f2, f3⟩ := side_cells S1.out R (by omega) (b + i) (by omega)
      generalize dk[a + i]! = p at *
      generalize dk[b + i]! = q at *
      obtain ⟨⟨p1, p2, p3⟩, hp⟩ : ∃ k, V p = k := ⟨_, rfl⟩
      obtain ⟨⟨q1, q2, q3⟩, hq⟩ : ∃ k, V q = k := ⟨_, rfl⟩
      rw [hp] at x0
      rw [hq] at y0
      rw [hp, hq] at S2
      simp only [kv] at x0 y0 S2
      clear hp hq
      clear S1
      have hne : a + i ≠ b + i := by omega
      go_wp2_with fail
      have wa : IntKind.i64.wrap ((a : Int) + (i : Int)) = (a : Int) + (i : Int) := by rw [IntKind.wrap_i64]; omega
      have wb : IntKind.i64.wrap ((b : Int) + (i : Int)) = (b : Int) + (i : Int) := by rw [IntKind.wrap_i64]; omega
      have ta : ((a : Int) + (i : Int)).toNat = a + i := by omega
      have tb : ((b : Int) + (i : Int)).toNat = b + i := by omega
      have pa : (0 : Int) ≤ (a : Int) + (i : Int) := by omega
      have pb : (0 : Int) ≤ (b : Int) + (i : Int) := by omega
      have qa : (a : Int) + (i : Int) < (d.size : Int) := by omega
      have qb : (b : Int) + (i : Int) < (d.size : Int) := by omega
      go_region
      clear x0 x1 y0 y1 f0 f1 f2 f3
      generalize ((((wr.setCell _ _).setCell _ _).setCell _ _).setCell _ _).drew = w2 at S2 ⊢
      go_wp2
      go_roundw
      case rel => exact ⟨i + 1, by go_num, by omega, ⟨by rw [HN.out]; exact S2.out⟩⟩
      case measure => simp [intOf]; omega
    · obtain rfl : i = n := by omega
      go_wp2
      go_end0
      exact ⟨rfl, S1.out⟩
end Go.Proofs.Ytmgoefhihljggaa.Sg
namespace Go.Proofs.Ytmgoefhihljggaa.Sg
open Go.RowKit Go.Shelf Go.Sort
set_option linter.unusedVariables false
set_option linter.unusedSimpArgs false

set_option maxHeartbeats 1000000 in
set_option maxRecDepth 100000 in
theorem rotate_any (V : Nat → Keyv) (fv : Value) (blk off cap a m b : Nat) (d0 d : Array Nat) (w0 w : World)
    (R : RowK (encS V) 2 w0 blk off d0) (hs : d0.size = d.size) (S : SWK (encS V) 2 w0 blk off d w) (ham : a < m) (hmb : m < b) (hb : b ≤ d.size) (hsz : d.size < 1000000) :
    Calls Try.prog 79 #[.slice (some ⟨blk, off, none⟩) d.size cap, .int .i64 a, .int .i64 m, .int .i64 b, fv] w fun e w' => e = .returned (.tuple #[]) ∧ ∃ d', IsRot a m b d d' ∧ SWK (encS V) 2 w0 blk off d' w' := by
  have S0 := Aside0.mk S
  have SR := Aside0.mk (fun (x y n : Nat) (dk : Array Nat) (wk : World) (hk : dk.size = d.size) (Sk : SWK (encS V) 2 w0 blk off dk wk) (h1 : x + n ≤ y) (h2 : y + n ≤ d.size) => by
    have := swapRange_any V fv blk off cap x y n d0 dk w0 wk R (by omega) Sk h1 (by omega) (by omega)
    rwa [hk] at this)
  clear S
  go_enter Try.func79, Try.ntmps79
  go_wp2_with fail
  go_loopw [10, 11] (fun s10 s11 wr => ∃ (i j : Nat) (dk : Array Nat), s10 = .int .i64 i ∧ s11 = .int .i64 j ∧ 1 ≤ i ∧ 1 ≤ j ∧ i ≤ m - a ∧ m + j ≤ b ∧ Aside0 (dk.size = d.size ∧ SWK (encS V) 2 w0 blk off dk wr ∧ ∀ x, rotF (m - i) m (m + j) (fun t => dk[t]!) x = rotF a m b (fun t => d[t]!) x)) (fun s10 s11 _ => (intOf s10).toNat + (intOf s11).toNat)
  case atStart => exact ⟨m - a, b - m, d, by go_num, by go_num, by omega, by omega, by omega, by omega, ⟨rfl, S0.out, fun x => by rw [show m - (m - a) = a by omega, show m + (b - m) = b by omega]⟩⟩
  case round =>
    clear S0
    obtain ⟨i, j, dk, rfl, rfl, hi1, hj1, hi, hj, H⟩ := hrel
    rcases Nat.lt_trichotomy i j with hlt | heq | hgt
    · have C := Aside0.mk (SR.out (m - i) (m + j - i) i dk wr H.out.1 H.out.2.1 (by omega) (by omega))
      have e1 : (((m - i : Nat) : Int)) = (m : Int) - (i : Int) := by omega
      have e2 : (((m + j - i : Nat) : Int)) = (m : Int) + (j : Int) - (i : Int) := by omega
      rw [e1, e2] at C
      have HN := Aside0.mk (fun x => rot_lt (m := m) (fun t => dk[t]!) hlt (by omega) x)
      have HG := Aside0.mk (fun x => swU_get (m - i) (m + j - i) dk i (by omega) (by have := H.out.1; omega) x)
      clear e1 e2
      go_wp2_with fail
      refine C.out.mono ?_
      rintro e w' ⟨rfl, S'⟩
      have S' := Aside0.mk S'
      clear C
      go_wp2
      go_roundw
      case rel =>
        refine ⟨i, j - i, _, rfl, by go_num, by omega, by omega, by omega, by omega, ⟨(swU_size _ _ _ _).trans H.out.1, S'.out, fun x => ?_⟩⟩
        rw [show (fun t => (swU (m - i) (m + j - i) i dk)[t]!) = swF (m - i) (m + j - i) i (fun t => dk[t]!) from funext HG.out, HN.out, H.out.2.2]
      case measure => simp [intOf]; omega
    · subst heq
      have C := Aside0.mk (SR.out (m - i) m i dk wr H.out.1 H.out.2.1 (by omega) (by omega))
      have e1 : (((m - i : Nat) : Int)) = (m : Int) - (i : Int) := by omega
      rw [e1] at C
      have HN := Aside0.mk (fun x => rot_eq (m := m) (fun t => dk[t]!) (show i ≤ m by omega) x)
      have HG := Aside0.mk (fun x => swU_get (m - i) m dk i (by omega) (by have := H.out.1; omega) x)
      clear e1
      go_wp2_with fail
      refine C.out.mono ?_
      rintro e w' ⟨rfl, S'⟩
      have S' := Aside0.mk S'
      clear C
      go_wp2
      go_end0
      exact ⟨rfl, _, ⟨(swU_size _ _ _ _).trans H.out.1, fun x => by rw [HG.out, HN.out, H.out.2.2]⟩, S'.out⟩
    · have C := Aside0.mk (SR.out (m - i) m j dk wr H.out.1 H.out.2.1 (by omega) (by omega))
      have e1 : (((m - i : Nat) : Int)) = (m : Int) - (i : Int) := by omega
      rw [e1] at C
      have HN := Aside0.mk (fun x => rot_gt (m := m) (fun t => dk[t]!) hgt (by omega) x)
      have HG := Aside0.mk (fun x => swU_get (m - i) m dk j (by omega) (by have := H.out.1; omega) x)
      clear e1
      go_wp2_with fail
      refine C.out.mono ?_
      rintro e w' ⟨rfl, S'⟩
      have S' := Aside0.mk S'
      clear C
      go_wp2
      go_roundw
      case rel =>
        refine ⟨i - j, j, _, by go_num, rfl, by omega, by omega, by omega, by omega, ⟨(swU_size _ _ _ _).trans H.out.1, S'.out, fun x => ?_⟩⟩
        rw [show (fun t => (swU (m - i) m j dk)[t]!) = swF (m - i) m j (fun t => dk[t]!) from funext HG.out, HN.out, H.out.2.2]
      case measure => simp [intOf]; omega
end Go.Proofs.Ytmgoefhihljggaa.Sg
namespace Go.Proofs.Ytmgoefhihljggaa.Sg
open Go.RowKit Go.Shelf Go.Sort
set_option linter.unusedVariables false
set_option linter.unusedSimpArgs false

/-- What a sort of sides leaves as it was. -/
theorem Stays.sorted {enc : Nat → List Value} {k : Nat} {w0 W : World} {blk off : Nat} {dk : Array Nat} (S : SWK enc k w0 blk off dk W) : Stays (· ≠ blk) w0 W := by
  obtain ⟨n, os, rfl⟩ := S
  intro b hb hl
  unfold sortWorldK putRowK
  rw [heap_grow_old _ _ (by simpa [putRow, mapBlock, Sort.ahead] using hl)]
  simp [putRow, mapBlock, Sort.ahead, Array.getElem?_modify, Ne.symm hb]
set_option maxHeartbeats 1000000 in
set_option maxRecDepth 100000 in
theorem sides1_any (w : World) (ok1 ok2 : Nat → Prop) (A1 A2 : Option Addr) (c1 c2 : Nat) (x1 x2 : Int) (K1 K2 : Row) (h1 : RowAt w ok1 (.slice A1 K1.length c1) K1) (h2 : RowAt w ok2 (.slice A2 K2.length c2) K2) :
    Calls Try.prog 43 #[.agg #[.slice A1 K1.length c1, .int .i64 x1], .agg #[.slice A2 K2.length c2, .int .i64 x2]] w fun e w' => e = .returned (.int .i64 (rowCmp K1 K2)) ∧ ∃ o1 o2, w' = grow w #[o1, o2] := by
  have C := Aside0.mk (fun w' (hb : Below w.heap.size w w') => scompare_any w' ok1 ok2 _ _ K1 K2 (h1.below reads_int hb) (h2.below reads_int hb))
  have HB := Aside0.mk (below_alloc0 (below_alloc0 (Below.refl w.heap.size w) (.cells #[.slice A1 K1.length c1, .int .i64 x1] 54)) (.cells #[.slice A2 K2.length c2, .int .i64 x2] 54))
  have HG := Aside0.mk (show (w.alloc (.cells #[.slice A1 K1.length c1, .int .i64 x1] 54)).alloc (.cells #[.slice A2 K2.length c2, .int .i64 x2] 54) = grow w #[_, _] by rw [alloc_eq_grow, alloc_eq_grow, grow_grow]; rfl)
  clear h1 h2
  generalize K1.length = n1 at *
  generalize K2.length = n2 at *
  go_enter Try.func43, Try.ntmps43
  go_wp2_with fail
  refine (C.out _ HB.out).mono ?_
  rintro e w' ⟨rfl, rfl⟩
  go_wp2
  go_ret
  exact ⟨rfl, _, _, HG.out⟩
theorem cmpSides (V : Nat → Keyv) (K : Nat → Row) (w0 : World) (blk off n : Nat) (hK : ∀ x, RowAt w0 (· ≠ blk) (kv (V x)) (K x)) :
    CmpLays Try.prog 43 #[] (encS V) 2 (fun x y => rowCmp (K x) (K y)) blk off n w0 := by
  intro m os dk hd x y
  have S : SWK (encS V) 2 w0 blk off dk (sortWorldK (encS V) 2 w0 blk off m dk os) := ⟨m, os, rfl⟩
  have hx := (hK x)
  have hy := (hK y)
  obtain ⟨A1, c1, e1, _⟩ := hx.form
  obtain ⟨A2, c2, e2, _⟩ := hy.form
  have h1 := reads_row.stays hx (Stays.sorted S)
  have h2 := reads_row.stays hy (Stays.sorted S)
  rw [e1] at h1
  rw [e2] at h2
  have := sides1_any _ _ _ A1 A2 c1 c2 (x : Nat) (y : Nat) (K x) (K y) h1 h2
  rw [← e1, ← e2] at this
  refine this.mono ?_
  rintro e w' ⟨rfl, o1, o2, rfl⟩
  exact ⟨rfl, 0, _, rfl⟩
end Go.Proofs.Ytmgoefhihljggaa.Sg
namespace Go.Proofs.Ytmgoefhihljggaa.Sg
open Go.RowKit Go.Shelf
set_option linter.unusedVariables false
set_option linter.unusedSimpArgs false

def ltK (K : Nat → Row) : Nat → Nat → Bool := Go.Proofs.ltOf (fun x y => rowCmp (K x) (K y))
theorem ltK_iff (K : Nat → Row) (x y : Nat) : ltK K x y = true ↔ rlt (K x) (K y) := by unfold ltK Go.Proofs.ltOf rlt; rw [decide_eq_true_iff]
theorem ltK_not (K : Nat → Row) (x y : Nat) : ltK K x y = false ↔ ¬ rlt (K x) (K y) := by rw [← ltK_iff]; simp
theorem tl_iff (K : Nat → Row) (x y : Nat) : tl (ltK K) x y = true ↔ sLt (sd K x) (sd K y) := by
  unfold tl sLt sd
  rw [Bool.or_eq_true, Bool.and_eq_true, Bool.not_eq_true', decide_eq_true_iff, ltK_iff, ltK_not]
  constructor
  · rintro (h | ⟨h1, h2⟩)
    · exact .inl h
    · rcases rlt_tri (K x) (K y) with h | h | h
      · exact .inl h
      · exact .inr ⟨h, by simp only; omega⟩
      · exact absurd h h1
  · rintro (h | ⟨h1, h2⟩)
    · exact .inl h
    · simp only at h1 h2
      exact .inr ⟨by rw [h1]; exact rlt_irrefl _, by omega⟩
theorem tl_not (K : Nat → Row) (x y : Nat) : tl (ltK K) x y = false ↔ ¬ sLt (sd K x) (sd K y) := by rw [← tl_iff]; simp
theorem swo_ltK (K : Nat → Row) : Go.Sort.SWO (ltK K) := by
  refine ⟨fun x => (ltK_not _ _ _).2 (rlt_irrefl _), fun x y z h k => ?_, fun x y z h k => ?_⟩
  · rw [ltK_iff] at *; exact rlt_trans h k
  · rw [ltK_not] at *
    intro q
    rcases rlt_tri (K x) (K y) with t | t | t
    · exact h t
    · rw [t] at q; exact k q
    · rcases rlt_tri (K y) (K z) with u | u | u
      · exact k u
      · rw [← u] at q; exact h q
      · exact rlt_irrefl _ (rlt_trans q (rlt_trans u t))
theorem swo_tl (K : Nat → Row) : Go.Sort.SWO (tl (ltK K)) := by
  refine ⟨fun x => (tl_not _ _ _).2 (sLt_irrefl _), fun x y z h k => ?_, fun x y z h k => ?_⟩
  · rw [tl_iff] at *; exact sLt_trans h k
  · rw [tl_not] at *
    intro q
    rcases sLt_tri (sd K x) (sd K y) with t | t | t
    · exact h t
    · rw [t] at q; exact k q
    · rcases sLt_tri (sd K y) (sd K z) with u | u | u
      · exact k u
      · rw [← u] at q; exact h q
      · exact sLt_irrefl _ (sLt_trans q (sLt_trans u t))

structure SM (K : Nat → Row) (a m b : Nat) (d : Array Nat) : Prop where
  am : a < m
  mb : m < b
  bs : b ≤ d.size
  sU : (sg K d a m).Pairwise sLt
  sV : (sg K d m b).Pairwise sLt
  rows : ∀ i j, a ≤ i → i < m → m ≤ j → j < b → d[i]! < d[j]!
structure Done (K : Nat → Row) (a b : Nat) (d d' : Array Nat) : Prop where
  size : d'.size = d.size
  out : ∀ i, i < a ∨ b ≤ i → d'[i]! = d[i]!
  perm : (sg K d' a b).Perm (sg K d a b)
  sorted : (sg K d' a b).Pairwise sLt
theorem Done.none {K : Nat → Row} {a b : Nat} {d : Array Nat} (h : (sg K d a b).Pairwise sLt) : Done K a b d d := ⟨rfl, fun _ _ => rfl, List.Perm.refl _, h⟩
theorem sg_mem {K : Nat → Row} {d : Array Nat} {a b : Nat} {x : Side} (h : x ∈ sg K d a b) : ∃ i, a ≤ i ∧ i < b ∧ x = sd K d[i]! := by
  unfold sg at h
  obtain ⟨i, hi, rfl⟩ := List.mem_map.1 h
  rw [List.mem_range'_1] at hi
  exact ⟨i, hi.1, by omega, rfl⟩
theorem SM.cut {K : Nat → Row} {a m b : Nat} {d : Array Nat} (h : SM K a m b d) {s e : Nat} (hs : a ≤ s) (hsm : s ≤ m) (hme : m ≤ e) (heb : e ≤ b)
    (h1 : a < s → e < b → ¬ rlt (K d[e]!) (K d[s - 1]!)) (h2 : s < m → m < e → rlt (K d[e - 1]!) (K d[s]!)) :
    ∀ x ∈ sg K d a s ++ sg K d m e, ∀ y ∈ sg K d s m ++ sg K d e b, sLt x y := by
  have lU := sg_length K d a m
  have lV := sg_length K d m b
  have key := sm_halves h.sU h.sV (fun x hx y hy => by
    obtain ⟨i, i1, i2, rfl⟩ := sg_mem hx
    obtain ⟨j, j1, j2, rfl⟩ := sg_mem hy
    have := h.rows i j i1 i2 j1 j2
    show ((d[i]! : Nat) : Int) < ((d[j]! : Nat) : Int)
    omega) (u := s - a) (v := e - m) (by omega) (by omega) (fun p q => by
      rw [sg_get, sg_get]
      have := h1 (by omega) (by omega)
      rw [show m + (e - m) = e by omega, show a + (s - a - 1) = s - 1 by omega]
      exact this) (fun p q => by
      rw [sg_get, sg_get]
      have := h2 (by omega) (by omega)
      rw [show m + (e - m - 1) = e - 1 by omega, show a + (s - a) = s by omega]
      exact this)
  rw [sg_take K d hs hsm, sg_take K d hme heb, sg_drop K d hs hsm, sg_drop K d hme heb] at key
  exact key
theorem pw_sub {K : Nat → Row} {d : Array Nat} {a b a' b' : Nat} (h : (sg K d a b).Pairwise sLt) (h1 : a ≤ a') (h2 : b' ≤ b) (h3 : a' ≤ b') : (sg K d a' b').Pairwise sLt := by
  rw [sg_split K d (c := a') h1 (by omega), List.pairwise_append] at h
  have h := h.2.1
  rw [sg_split K d (c := b') h3 h2, List.pairwise_append] at h
  exact h.1
theorem IsRot.out {s m e : Nat} {d d' : Array Nat} (h : IsRot s m e d d') (h1 : s ≤ m) (h2 : m ≤ e) (i : Nat) (hi : i < s ∨ e ≤ i) : d'[i]! = d[i]! := by
  rw [h.2]
  unfold rotF
  repeat' split
  all_goals first | omega | rfl
/-- One element on the left. -/
theorem SM.left {K : Nat → Row} {a b i : Nat} {d d' : Array Nat} (h : SM K a (a + 1) b d) (hi : a + 1 ≤ i) (hib : i ≤ b) (h1 : i < b → ¬ rlt (K d[i]!) (K d[a]!)) (h2 : a + 1 < i → rlt (K d[i - 1]!) (K d[a]!)) (hr : IsRot a (a + 1) i d d') : Done K a b d d' := by
  obtain ⟨_, p2, p3, p4⟩ := hr.parts K (Nat.le_refl a) (by omega) hi hib
  have e : sg K d' a b = sg K d (a + 1) i ++ (sg K d a (a + 1) ++ sg K d i b) := by
    rw [sg_split K d' (c := a + (i - (a + 1))) (by omega) (by omega), sg_split K d' (a := a + (i - (a + 1))) (c := i) (by omega) hib, p2, p3, p4]
  have e0 : sg K d a b = sg K d a (a + 1) ++ (sg K d (a + 1) i ++ sg K d i b) := by
    rw [sg_split K d (c := a + 1) (by omega) (by omega), sg_split K d (a := a + 1) (c := i) hi hib]
  have c1 := h.cut (s := a) (e := i) (Nat.le_refl _) (by omega) hi hib (fun h => by omega) (fun _ k => h2 k)
  have c2 := h.cut (s := a + 1) (e := i) (by omega) (Nat.le_refl _) hi hib (fun _ k => by rw [Nat.add_sub_cancel]; exact h1 k) (fun h => by omega)
  refine ⟨hr.1, fun k hk => hr.out (by omega) hi k (by omega), ?_, ?_⟩
  · rw [e, e0, ← List.append_assoc, ← List.append_assoc]
    exact List.Perm.append_right _ List.perm_append_comm
  · rw [e, List.pairwise_append, List.pairwise_append]
    refine ⟨pw_sub h.sV (Nat.le_refl _) hib hi, ⟨h.sU, pw_sub h.sV hi (Nat.le_refl _) hib, fun x hx y hy => ?_⟩, fun x hx y hy => ?_⟩
    · exact c2 x (List.mem_append_left _ hx) y (List.mem_append_right _ hy)
    · exact c1 x (List.mem_append_right _ hx) y hy
/-- One element on the right. -/
theorem SM.right {K : Nat → Row} {a m i : Nat} {d d' : Array Nat} (h : SM K a m (m + 1) d) (hi : a ≤ i) (him : i ≤ m) (h1 : a < i → ¬ rlt (K d[m]!) (K d[i - 1]!)) (h2 : i < m → rlt (K d[m]!) (K d[i]!)) (hr : IsRot i m (m + 1) d d') : Done K a (m + 1) d d' := by
  obtain ⟨p1, p2, p3, _⟩ := hr.parts K hi him (by omega) (Nat.le_refl _)
  have e : sg K d' a (m + 1) = sg K d a i ++ (sg K d m (m + 1) ++ sg K d i m) := by
    rw [sg_split K d' (c := i) hi (by omega), sg_split K d' (a := i) (c := i + (m + 1 - m)) (by omega) (by omega), p1, p2, p3]
  have e0 : sg K d a (m + 1) = sg K d a i ++ (sg K d i m ++ sg K d m (m + 1)) := by
    rw [sg_split K d (c := i) hi (by omega), sg_split K d (a := i) (c := m) him (by omega)]
  have c1 := h.cut (s := i) (e := m) hi him (Nat.le_refl _) (by omega) (fun k _ => h1 k) (fun _ k => by omega)
  have c2 := h.cut (s := i) (e := m + 1) hi him (by omega) (Nat.le_refl _) (fun _ k => by omega) (fun k _ => by rw [Nat.add_sub_cancel]; exact h2 k)
  refine ⟨hr.1, fun k hk => hr.out him (by omega) k (by omega), ?_, ?_⟩
  · rw [e, e0]
    exact List.Perm.append_left _ List.perm_append_comm
  · rw [e, List.pairwise_append, List.pairwise_append]
    refine ⟨pw_sub h.sU (Nat.le_refl _) him hi, ⟨h.sV, pw_sub h.sU hi (Nat.le_refl _) him, fun x hx y hy => ?_⟩, fun x hx y hy => ?_⟩
    · exact c2 x (List.mem_append_right _ hx) y (List.mem_append_left _ hy)
    · rcases List.mem_append.1 hy with hy | hy
      · exact c1 x (List.mem_append_left _ hx) y (List.mem_append_right _ hy)
      · exact c1 x (List.mem_append_left _ hx) y (List.mem_append_left _ hy)
/-- Where the two runs are cut. -/
structure CutM (K : Nat → Row) (a m b s e : Nat) (d : Array Nat) : Prop where
  hs : a ≤ s
  hsm : s ≤ m
  hme : m ≤ e
  heb : e ≤ b
  h1 : a < s → e < b → ¬ rlt (K d[e]!) (K d[s - 1]!)
  h2 : s < m → m < e → rlt (K d[e - 1]!) (K d[s]!)
theorem SM.half1 {K : Nat → Row} {a m b s e : Nat} {d d1 : Array Nat} (h : SM K a m b d) (c : CutM K a m b s e d) (hr : IsRot s m e d d1) (h1 : a < s) (h2 : s < s + (e - m)) : SM K a s (s + (e - m)) d1 := by
  have := c.hsm; have := c.hme; have := c.heb; have := h.bs
  obtain ⟨p1, p2, p3, p4⟩ := hr.parts K c.hs c.hsm c.hme c.heb
  refine ⟨h1, h2, by rw [hr.1]; omega, by rw [p1]; exact pw_sub h.sU (Nat.le_refl _) c.hsm c.hs, by rw [p2]; exact pw_sub h.sV (Nat.le_refl _) c.heb c.hme, fun i j i1 i2 j1 j2 => ?_⟩
  rw [hr.2, hr.2]
  unfold rotF
  rw [if_pos i2, if_neg (by omega), if_pos (by omega)]
  exact h.rows _ _ i1 (by omega) (by omega) (by omega)
theorem SM.half1_none {K : Nat → Row} {a m b s e : Nat} {d d1 : Array Nat} (h : SM K a m b d) (c : CutM K a m b s e d) (hr : IsRot s m e d d1) (h1 : ¬ (a < s ∧ s < s + (e - m))) : (sg K d1 a (s + (e - m))).Pairwise sLt := by
  have := c.hsm; have := c.hme; have := c.heb; have := h.bs; have := c.hs
  obtain ⟨p1, p2, p3, p4⟩ := hr.parts K c.hs c.hsm c.hme c.heb
  rw [sg_split K d1 (c := s) c.hs (by omega), p1, p2]
  by_cases q : a < s
  · have : e = m := by omega
    subst this
    rw [show sg K d e e = [] by unfold sg; rw [Nat.sub_self]; rfl, List.append_nil]
    exact pw_sub h.sU (Nat.le_refl _) c.hsm c.hs
  · have : s = a := by omega
    subst this
    rw [show sg K d s s = [] by unfold sg; rw [Nat.sub_self]; rfl, List.nil_append]
    exact pw_sub h.sV (Nat.le_refl _) c.heb c.hme
theorem SM.half2 {K : Nat → Row} {a m b s e : Nat} {d d1 d2 : Array Nat} (h : SM K a m b d) (c : CutM K a m b s e d) (hr : IsRot s m e d d1) (D : Done K a (s + (e - m)) d1 d2) (h1 : s + (e - m) < e) (h2 : e < b) : SM K (s + (e - m)) e b d2 := by
  have := c.hsm; have := c.hme; have := c.heb; have := h.bs; have := c.hs
  obtain ⟨p1, p2, p3, p4⟩ := hr.parts K c.hs c.hsm c.hme c.heb
  have q : ∀ x y, s + (e - m) ≤ x → sg K d2 x y = sg K d1 x y := fun x y hx => sg_congr K rfl fun t _ => D.out _ (.inr (by omega))
  refine ⟨h1, h2, by rw [D.size, hr.1]; omega, by rw [q _ _ (Nat.le_refl _), p3]; exact pw_sub h.sU c.hs (Nat.le_refl _) c.hsm, by rw [q _ _ (by omega), p4]; exact pw_sub h.sV c.hme (Nat.le_refl _) c.heb, fun i j i1 i2 j1 j2 => ?_⟩
  rw [D.out i (.inr (by omega)), D.out j (.inr (by omega)), hr.2, hr.2]
  unfold rotF
  rw [if_neg (by omega), if_neg (by omega), if_pos (by omega), if_neg (by omega), if_neg (by omega), if_neg (by omega)]
  exact h.rows _ _ (by omega) (by omega) (by omega) (by omega)
theorem SM.half2_none {K : Nat → Row} {a m b s e : Nat} {d d1 d2 : Array Nat} (h : SM K a m b d) (c : CutM K a m b s e d) (hr : IsRot s m e d d1) (D : Done K a (s + (e - m)) d1 d2) (h1 : ¬ (s + (e - m) < e ∧ e < b)) : (sg K d2 (s + (e - m)) b).Pairwise sLt := by
  have := c.hsm; have := c.hme; have := c.heb; have := h.bs; have := c.hs
  obtain ⟨p1, p2, p3, p4⟩ := hr.parts K c.hs c.hsm c.hme c.heb
  have q : ∀ x y, s + (e - m) ≤ x → sg K d2 x y = sg K d1 x y := fun x y hx => sg_congr K rfl fun t _ => D.out _ (.inr (by omega))
  rw [q _ _ (Nat.le_refl _), sg_split K d1 (c := e) (by omega) c.heb, p3, p4]
  by_cases k : e < b
  · have : s = m := by omega
    subst this
    rw [show sg K d s s = [] by unfold sg; rw [Nat.sub_self]; rfl, List.nil_append]
    exact pw_sub h.sV c.hme (Nat.le_refl _) c.heb
  · have : e = b := by omega
    subst this
    rw [show sg K d e e = [] by unfold sg; rw [Nat.sub_self]; rfl, List.append_nil]
    exact pw_sub h.sU c.hs (Nat.le_refl _) c.hsm
theorem SM.whole {K : Nat → Row} {a m b s e : Nat} {d d1 d2 d3 : Array Nat} (h : SM K a m b d) (c : CutM K a m b s e d) (hr : IsRot s m e d d1) (D1 : Done K a (s + (e - m)) d1 d2) (D2 : Done K (s + (e - m)) b d2 d3) : Done K a b d d3 := by
  have := c.hsm; have := c.hme; have := c.heb; have := h.bs; have := c.hs
  obtain ⟨p1, p2, p3, p4⟩ := hr.parts K c.hs c.hsm c.hme c.heb
  have q1 : sg K d3 a (s + (e - m)) = sg K d2 a (s + (e - m)) := sg_congr K rfl fun t ht => D2.out _ (.inl (by omega))
  have q2 : sg K d2 (s + (e - m)) b = sg K d1 (s + (e - m)) b := sg_congr K rfl fun t ht => D1.out _ (.inr (by omega))
  have m1 : (sg K d3 a (s + (e - m))).Perm (sg K d a s ++ sg K d m e) := by
    rw [q1]
    refine D1.perm.trans ?_
    rw [sg_split K d1 (c := s) c.hs (by omega), p1, p2]
  have m2 : (sg K d3 (s + (e - m)) b).Perm (sg K d s m ++ sg K d e b) := by
    refine D2.perm.trans ?_
    rw [q2, sg_split K d1 (c := e) (by omega) c.heb, p3, p4]
  have key := sm_join (U := sg K d a m) (V := sg K d m b) (u := s - a) (v := e - m) (M1 := sg K d3 a (s + (e - m))) (M2 := sg K d3 (s + (e - m)) b)
    (by rw [sg_take K d c.hs c.hsm, sg_take K d c.hme c.heb]; exact m1) (by rw [sg_drop K d c.hs c.hsm, sg_drop K d c.hme c.heb]; exact m2) (by rw [q1]; exact D1.sorted) D2.sorted
    (by rw [sg_take K d c.hs c.hsm, sg_take K d c.hme c.heb, sg_drop K d c.hs c.hsm, sg_drop K d c.hme c.heb]; exact h.cut c.hs c.hsm c.hme c.heb c.h1 c.h2)
  rw [← sg_split K d3 (by omega) (by omega), ← sg_split K d (by omega) (by omega)] at key
  refine ⟨D2.size.trans (D1.size.trans hr.1), fun i hi => ?_, key.1, key.2⟩
  rw [D2.out i (by omega), D1.out i (by omega), hr.out c.hsm c.hme i (by omega)]
end Go.Proofs.Ytmgoefhihljggaa.Sg
