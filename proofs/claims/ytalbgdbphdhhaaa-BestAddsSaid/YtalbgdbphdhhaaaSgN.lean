/- Contract of the laws' own Sorted: the rows of a width put in one by one: 'norm'. -/
import Derived.Test.YtalbgdbphdhhaaaSgJ
import Derived.Deep.Cut
namespace Go.Proofs.Ytalbgdbphdhhaaa.Sg
open Go.RowKit Go.Shelf
set_option linter.unusedVariables false
set_option linter.unusedSimpArgs false

theorem ins_at {r : Row} : ∀ {L : List Row} {i : Nat}, i ≤ L.length → (∀ j (h : j < L.length), j < i → rlt L[j] r) → (∀ h : i < L.length, ¬ rlt L[i] r) →
    ((∀ h : i < L.length, L[i] ≠ r) → ins r L = L.take i ++ r :: L.drop i) ∧ (∀ h : i < L.length, L[i] = r → ins r L = L)
  | [], i, hi, _, _ => by
    obtain rfl : i = 0 := by simpa using hi
    exact ⟨fun _ => rfl, fun h => by simp at h⟩
  | x :: L, 0, _, _, h2 => by
    have h2' : ¬ rlt x r := h2 (by simp)
    refine ⟨fun h => ?_, fun _ h => ?_⟩
    · have hne : x ≠ r := h (by simp)
      rw [ins]
      rcases rlt_tri r x with k | k | k
      · rw [if_pos k]; rfl
      · exact absurd k.symm hne
      · exact absurd k h2'
    · have h : x = r := h
      subst h
      rw [ins, if_neg (rlt_irrefl _), if_pos rfl]
  | x :: L, i + 1, hi, h1, h2 => by
    have hx : rlt x r := h1 0 (by simp) (by omega)
    obtain ⟨a, b⟩ := ins_at (r := r) (L := L) (i := i) (by simpa using hi) (fun j h hj => h1 (j + 1) (by simpa using h) (by omega)) (fun h => h2 (by simpa using h))
    have hne : ¬ r = x := fun e => by subst e; exact rlt_irrefl _ hx
    have e : ins r (x :: L) = x :: ins r L := by rw [ins, if_neg (rlt_asymm hx), if_neg hne]
    refine ⟨fun h => ?_, fun h he => ?_⟩
    · rw [e, a (fun h' => h (by simpa using h'))]; rfl
    · rw [e, b (by simpa using h) he]
theorem norm_yes {n : Nat} {rs : List Row} {k : Nat} (h : k < rs.length) (hr : (rs[k]).length = n) : norm n (rs.take (k + 1)) = ins rs[k] (norm n (rs.take k)) := by
  unfold norm
  rw [List.take_succ_eq_append_getElem h, List.filter_append, List.foldl_append]
  simp [hr]
theorem norm_no {n : Nat} {rs : List Row} {k : Nat} (h : k < rs.length) (hr : (rs[k]).length ≠ n) : norm n (rs.take (k + 1)) = norm n (rs.take k) := by
  unfold norm
  rw [List.take_succ_eq_append_getElem h, List.filter_append, List.foldl_append]
  simp [hr]

theorem BuiltBy.caps {α : Type} {E : World → (Nat → Prop) → Value → α → Prop} {w : World} {B e b cap n : Nat} {ok : Nat → Prop} {xs : List α} {cs : List Value} (h : BuiltBy E w B e ok (.slice (some ⟨b, 0, none⟩) n cap) xs cs) : xs.length ≤ cap ∧ cap ≤ 9223372036854775807 ∧ b < w.heap.size ∧ B ≤ b := by
  rcases h.own.2 with ⟨h0, _⟩ | ⟨g, c, cur, h0, hb, hh, hc, hm, _⟩
  · cases h0
  · cases h0; exact ⟨hc, by unfold maxLen at hm; omega, (Array.getElem?_eq_some_iff.1 hh).1, hb⟩
theorem BuiltBy.cellOf {α : Type} {E : World → (Nat → Prop) → Value → α → Prop} {w : World} {B e b cap : Nat} {ok : Nat → Prop} {xs : List α} {cs : List Value} (h : BuiltBy E w B e ok (.slice (some ⟨b, 0, none⟩) xs.length cap) xs cs) (j : Nat) (hj : j < xs.length) : ∃ u, cs[j]? = some u ∧ w.cell? ⟨b, j, none⟩ = some u ∧ E w ok u xs[j] := by
  have hl := h.len
  have h1 : cs[j]? = some (cs[j]'(by omega)) := List.getElem?_eq_getElem _
  exact ⟨_, h1, (owns_at h.own h1).1, h.el j hj _ h1⟩
theorem owns_empty (w : World) (B e : Nat) (h : B ≤ w.heap.size) : (w.alloc (.cells #[] e)).ownsRow B e 1 (.slice (some ⟨w.heap.size, 0, none⟩) 0 0) 0 [] :=
  ⟨rfl, .inr ⟨w.heap.size, 0, #[], rfl, h, heap_alloc_new w _, Nat.le_refl _, by unfold maxLen; omega, rfl, rfl⟩⟩
theorem BuiltBy.empty {α : Type} (E : World → (Nat → Prop) → Value → α → Prop) (w : World) (B e : Nat) (ok : Nat → Prop) (h : B ≤ w.heap.size) : BuiltBy E (w.alloc (.cells #[] e)) B e ok (.slice (some ⟨w.heap.size, 0, none⟩) 0 0) ([] : List α) [] :=
  ⟨owns_empty w B e h, fun j h => by simp at h⟩
theorem own_some {w : World} {B e n : Nat} {v : Value} {xs : List Value} (h : w.ownsRow B e 1 v (n + 1) xs) : ∃ b cap, v = .slice (some ⟨b, 0, none⟩) (n + 1) cap := by
  rcases h.2 with ⟨_, h0⟩ | ⟨b, cap, cur, rfl, _⟩
  · omega
  · exact ⟨b, cap, rfl⟩

theorem ins_el {α β : Type} {P : β → α → Prop} {xs : List α} {cs : List β} (h : ∀ j (h : j < xs.length) u, cs[j]? = some u → P u xs[j]) (hl : cs.length = xs.length) {i : Nat} (hi : i ≤ xs.length) {u : β} {x : α} (hu : P u x) :
    ∀ j (h : j < (xs.take i ++ x :: xs.drop i).length) z, (cs.take i ++ [u] ++ cs.drop i)[j]? = some z → P z ((xs.take i ++ x :: xs.drop i)[j]) := by
  intro j hj z hz
  have htl : (xs.take i).length = i := by simp; omega
  have hcl : (cs.take i).length = i := by simp; omega
  rw [List.append_assoc] at hz
  by_cases a : j < i
  · rw [List.getElem_append_left (by omega)]
    rw [List.getElem?_append_left (by omega), List.getElem?_take, if_pos a] at hz
    rw [List.getElem_take]
    exact h j (by omega) z hz
  · rw [List.getElem?_append_right (by omega), hcl] at hz
    rw [List.getElem_append_right (by omega)]
    simp only [htl]
    by_cases b : j = i
    · subst b
      simp at hz ⊢
      subst hz
      exact hu
    · obtain ⟨t, rfl⟩ : ∃ t, j = i + 1 + t := ⟨j - (i + 1), by omega⟩
      have e : i + 1 + t - i = t + 1 := by omega
      simp only [e] at hz ⊢
      simp at hz ⊢
      exact h (i + t) (by simp at hj; omega) z hz
/-- What the first append of the chain leaves. -/
structure Chain (B b : Nat) (wx w1 : World) (v : Value) : Prop where
  stays : Stays (fun k => k < B ∨ k = b) wx w1
  size : wx.heap.size ≤ w1.heap.size
  ne : v.ownBlock ≠ some b
  ge : ∀ k, v.ownBlock = some k → B ≤ k
  below : ∀ w, Below B w wx → Below B w w1
theorem Chain.start {B b : Nat} {wx : World} (hb : b < wx.heap.size) (hB : B ≤ wx.heap.size) : Chain B b wx (wx.alloc (.cells #[] 23)) (.slice (some ⟨wx.heap.size, 0, none⟩) 0 0) :=
  ⟨Stays.alloc _ _ _, by simp, fun e => by injection e with e; simp at e; omega, fun k e => by injection e with e; simp at e; omega, fun w h => below_alloc h hB _⟩
theorem Chain.step {B b : Nat} {wx w1 w2 : World} {v v2 : Value} (h : Chain B b wx w1 v) (hb : b < wx.heap.size) (hB : B ≤ wx.heap.size) (hg : w1.grownBy w2 v.ownBlock) (ho : v2.ownBlock = v.ownBlock ∨ v2.ownBlock = some w1.heap.size) : Chain B b wx w2 v2 := by
  have hs := hg.size
  have hz := h.size
  refine ⟨h.stays.trans ((Stays.of_grown hg).mono (fun k hk _ e => ?_)) hz, by omega, fun e => ?_, fun k e => ?_, fun w hw => (h.below w hw).grown hg (by omega) (fun k e => h.ge k e)⟩
  · rcases hk with hk | hk
    · have := h.ge k e; omega
    · subst hk; exact h.ne e
  · rcases ho with ho | ho
    · exact h.ne (ho.symm.trans e)
    · rw [ho] at e; injection e with e; omega
  · rcases ho with ho | ho
    · exact h.ge k (ho.symm.trans e)
    · rw [ho] at e; injection e with e; omega
theorem Chain.alloc {B b : Nat} {wx w1 : World} {v : Value} (h : Chain B b wx w1 v) (hB : B ≤ wx.heap.size) (o : Obj) : Chain B b wx (w1.alloc o) v :=
  ⟨h.stays.trans (Stays.alloc _ _ _) h.size, by have := h.size; simp; omega, h.ne, h.ge, fun w hw => below_alloc (h.below w hw) (by have := h.size; omega) _⟩
/-- The cells of what is appended, in a later world. -/
theorem Chain.news {B b cap n e : Nat} {wx w1 : World} {v : Value} {cs : List Value} (h : Chain B b wx w1 v) (ho : wx.ownsRow B e 1 (.slice (some ⟨b, 0, none⟩) n cap) n cs) (lo m : Nat) : ∀ j u, ((cs.drop lo).take m)[j]? = some u → w1.cell? ((⟨b, lo, none⟩ : Addr).add j) = some u := by
  intro j u hu
  rw [List.getElem?_take] at hu
  split at hu
  · rw [List.getElem?_drop] at hu
    have hc := (owns_at ho hu).1
    have : ((⟨b, lo, none⟩ : Addr).add j) = ⟨b, lo + j, none⟩ := by by_cases h : j = 0 <;> simp [Addr.add, h]
    rw [this]
    exact h.stays.cell (.inr rfl) hc
  · cases hu
theorem rows_one {w : World} {B b e : Nat} {ok : Nat → Prop} {v : Value} {xs : List Row} {cs : List Value} (h : BuiltBy RowAt w B e ok v xs cs) : ∀ u ∈ cs, u.oneCell' = true := by
  intro u hu
  obtain ⟨j, hj, rfl⟩ := List.mem_iff_getElem.1 hu
  have := h.len
  exact reads_row.one (h.el j (by omega) _ (List.getElem?_eq_getElem hj))
/-- The chain's end. -/
theorem chain_end {B b cap : Nat} {w wx w3 : World} {v3 u : Value} {L : List Row} {r : Row} {cs : List Value} {i : Nat} (hB : BuiltBy RowAt wx B 23 (· < B) (.slice (some ⟨b, 0, none⟩) L.length cap) L cs) (hr : RowAt wx (· < B) u r) (hi : i ≤ L.length)
    (hc : Chain B b wx w3 v3) (ho : w3.ownsRow B 23 1 v3 (i + 1 + (L.length - i)) (cs.take i ++ [u] ++ cs.drop i)) :
    ∃ b' cap', v3 = .slice (some ⟨b', 0, none⟩) (L.take i ++ r :: L.drop i).length cap' ∧ BuiltBy RowAt w3 B 23 (· < B) (.slice (some ⟨b', 0, none⟩) (L.take i ++ r :: L.drop i).length cap') (L.take i ++ r :: L.drop i) (cs.take i ++ [u] ++ cs.drop i) := by
  have hl : (L.take i ++ r :: L.drop i).length = i + 1 + (L.length - i) := by simp; omega
  have e : i + 1 + (L.length - i) = (i + (L.length - i)) + 1 := by omega
  have ho' := ho
  rw [e] at ho'
  obtain ⟨b', cap', hv⟩ := own_some ho'
  rw [← e] at hv
  rw [hl]
  refine ⟨b', cap', hv, ?_, ?_⟩
  · rw [← hv, hl]; exact ho
  · refine ins_el (P := fun u x => RowAt w3 (· < B) u x) (fun j hj z hz => ?_) hB.len hi ?_
    · exact reads_row.stays (hB.el j hj z hz) (hc.stays.mono fun k hk _ => .inl hk)
    · exact reads_row.stays hr (hc.stays.mono fun k hk _ => .inl hk)

set_option maxHeartbeats 8000000 in
set_option maxRecDepth 100000 in
theorem sorted_any (w : World) (ok : Nat → Prop) (rv : Value) (n : Nat) (rs : List Row) (h : RowsAt w ok rv rs) (hn : n < 1000000) (hlen : rs.length < 1000000) :
    Calls Try.prog 19 #[.int .i64 n, rv] w fun e w' => ∃ v, e = .returned v ∧ RowsAt w' (fun _ => True) v (norm n rs) ∧ Below w.heap.size w w' := by
  replace h := reads_rows.mono (ok2 := (· < w.heap.size)) h (fun _ _ hb => hb)
  obtain ⟨Al, cl, rfl, hcl, hlm, _⟩ := h.form
  obtain ⟨ir, hir, hr0, hr1, hr2⟩ := info_parts info_row
  have HH := Aside0.mk h
  have ST := Aside0.mk (BuiltBy.empty RowAt w w.heap.size 23 (· < w.heap.size) (Nat.le_refl _))
  clear h
  go_enter Try.func19, Try.ntmps19
  go_wp2
  go_loopw [5, 13] (fun s5 s13 wr => ∃ (k b cap : Nat) (L : List Row) (cs : List Value), s13 = .int .i64 k ∧ k ≤ rs.length ∧ s5 = .slice (some ⟨b, 0, none⟩) L.length cap ∧ Aside0 (L = norm n (rs.take k)) ∧ Aside0 (BuiltBy RowAt wr w.heap.size 23 (· < w.heap.size) (.slice (some ⟨b, 0, none⟩) L.length cap) L cs) ∧ Aside0 (Below w.heap.size w wr)) (fun _ s13 _ => rs.length - (intOf s13).toNat)
  case atStart => exact ⟨0, _, _, [], [], rfl, Nat.zero_le _, rfl, ⟨rfl⟩, ST, ⟨below_alloc0 (Below.refl _ _) _⟩⟩
  case round =>
    obtain ⟨k, b, cap, L, cs, rfl, hk, rfl, HL, HB, HW⟩ := hrel
    obtain ⟨wo, rfl⟩ : ∃ wo : World, wo = wr := ⟨_, rfl⟩
    clear ST
    by_cases hlt : k < rs.length
    · obtain ⟨bl, ol, ul, rfl, _, _, hcl1, hrl⟩ := (HH.out.below reads_row HW.out).at_ k hlt
      obtain ⟨Ar, cr, hul, hcr, hrm, _⟩ := hrl.form
      obtain ⟨r, hr⟩ : ∃ r, rs[k] = r := ⟨_, rfl⟩
      have NY := Aside0.mk (norm_yes (n := n) hlt)
      have NN := Aside0.mk (norm_no (n := n) hlt)
      rw [hr] at hrl hul hcr hrm NY NN
      have HRL := Aside0.mk hrl
      rw [hul] at hcl1 HRL
      clear hrl hul hr
      by_cases hw : r.length = n
      · have NY := Aside0.mk (NY.out hw)
        have HWR := Aside0.mk hw
        rw [hw] at hcl1 hcr hrm HRL
        have dn : ((n : Int) != (n : Int)) = false := by simp
        have hLk : L.length ≤ k := by
          rw [HL.out]
          have := norm_length n (rs.take k)
          have : (rs.take k).length ≤ k := List.length_take_le _ _
          omega
        obtain ⟨hc1, hc2, hbl, hbg⟩ := HB.out.caps
        clear NN hw
        go_wp2
        go_loopw [8] (fun s8 wr => ∃ i m : Nat, s8 = .int .i64 i ∧ wr = wo.drewN m ∧ Aside0 (i ≤ L.length ∧ ∀ j (h : j < L.length), j < i → rlt L[j] r)) (fun s8 _ => L.length - (intOf s8).toNat)
        case atStart => exact ⟨0, 0, rfl, rfl, ⟨Nat.zero_le _, fun j h hj => by omega⟩⟩
        case round =>
          obtain ⟨i, m, rfl, rfl, HI⟩ := hrel
          have HIL := HI.out.1
          have IA := Aside0.mk (fun h => ins_at (r := r) HI.out.1 HI.out.2 h)
          by_cases hi : i < L.length
          · obtain ⟨u, _, hcu, hu⟩ := HB.out.cellOf i hi
            obtain ⟨Au, cu, hue, _⟩ := hu.form
            have HU := Aside0.mk hu
            rw [hue] at hcu HU
            have CM := Aside0.mk (fun q => compare5_any (wo.drewN q) _ _ _ _ _ _ (reads_row.stays HU.out (Stays.drewN _ _ _)) (reads_row.stays HRL.out (Stays.drewN _ _ _)))
            have hz := cmp5_zero L[i] r
            have hlt2 := cmp5_lt L[i] r
            obtain ⟨c, hc⟩ : ∃ c, cmp5 L[i] r = c := ⟨_, rfl⟩
            rw [hc] at CM hz hlt2
            have HZ := Aside0.mk hz
            have HLT := Aside0.mk hlt2
            have hic : i ≤ cap := by omega
            generalize (L[i]).length = lu at *
            clear hu hue hz hlt2 hc
            have dg : decide (i < L.length) = true := by simpa using hi
            by_cases hc0 : c < 0
            · have d0 : decide (c < 0) = true := by simpa using hc0
              go_wp2_with (first | (go_at_call 35; (with_reducible refine (CM.out _).mono ?_); rintro e w' ⟨rfl, q, rfl⟩))
              go_roundw
              case rel =>
                refine ⟨i + 1, _, by go_num, rfl, ⟨by omega, fun j h hj => ?_⟩⟩
                by_cases e : j = i
                · subst e; exact HLT.out.1 hc0
                · exact HI.out.2 j h (by omega)
              case measure => simp [intOf]; omega
            · have d0 : decide (c < 0) = false := by simpa using hc0
              have IB := Aside0.mk (IA.out (fun _ h => hc0 (HLT.out.2 h)))
              by_cases hce : c = 0
              · have de : (c == 0) = true := by simpa using hce
                have IC := Aside0.mk (IB.out.2 hi (HZ.out.1 hce))
                clear hce
                go_wp2_with (first | (go_at_call 35; (with_reducible refine (CM.out _).mono ?_); rintro e w' ⟨rfl, q, rfl⟩))
                go_roundw
                case rel => exact ⟨k + 1, b, cap, L, cs, by go_num, by omega, rfl, ⟨by rw [NY.out, ← HL.out]; exact IC.out.symm⟩, ⟨HB.out.stays reads_row (Stays.drewN (fun _ => True) _ _) (fun _ _ _ => trivial) (fun _ _ => trivial)⟩, ⟨below_drewN HW.out _⟩⟩
                case measure => simp [intOf]; omega
              · have de : (c == 0) = false := by simpa using hce
                have IC := Aside0.mk (IB.out.1 (fun _ h => hce (HZ.out.2 h)))
                clear hce
                go_wp2_with fail
                refine (CM.out m).mono ?_
                rintro e w' ⟨rfl, q1, rfl⟩
                rw [World.drewN_drewN]
                go_wp2_with fail
                refine (CM.out (m + q1)).mono ?_
                rintro e w' ⟨rfl, q2, rfl⟩
                rw [World.drewN_drewN]
                go_upto_region 10 with (fail)
                obtain ⟨wx, hwx⟩ : ∃ wx, wo.drewN (m + q1 + q2) = wx := ⟨_, rfl⟩
                have HBX := Aside0.mk (show BuiltBy RowAt wx w.heap.size 23 (· < w.heap.size) (.slice (some ⟨b, 0, none⟩) L.length cap) L cs by rw [← hwx]; exact HB.out.stays reads_row (Stays.drewN (fun _ => True) _ _) (fun _ _ _ => trivial) (fun _ _ => trivial))
                have HRX := Aside0.mk (show RowAt wx (· < w.heap.size) (.slice Ar n cr) r by rw [← hwx]; exact reads_row.stays HRL.out (Stays.drewN _ _ _))
                have HWX := Aside0.mk (show Below w.heap.size w wx by rw [← hwx]; exact below_drewN HW.out _)
                have hwz := HWX.out.size
                have hbx := HBX.out.caps.2.2.1
                have C0 := Aside0.mk (Chain.start (B := w.heap.size) hbx hwz)
                have e0 := Aside0.mk (owns_empty wx w.heap.size 23 hwz)
                have hcs := HBX.out.len
                have hta : (cs.take i).length = i * 1 := by simp; omega
                have hda : (cs.drop i).length = (L.length - i) * 1 := by simp; omega
                have ON := Aside0.mk (rows_one (b := 0) HBX.out)
                have X1 := Aside0.mk (show 0 + i ≤ maxLen ∧ i + 1 ≤ maxLen ∧ i + 1 + (L.length - i) ≤ maxLen by unfold maxLen; omega)
                have X2 := Aside0.mk (show (0 + i) * 24 ≤ 140737488355328 ∧ (i + 1) * 24 ≤ 140737488355328 ∧ (i + 1 + (L.length - i)) * 24 ≤ 140737488355328 by omega)
                have N1 := Aside0.mk (fun (h : Chain w.heap.size b wx (wx.alloc (.cells #[] 23)) (.slice (some ⟨wx.heap.size, 0, none⟩) 0 0)) => by have := h.news HBX.out.own 0 i; rw [List.drop_zero] at this; exact this)
                have hwzA := Aside0.mk hwz
                have HTA := Aside0.mk hta
                have HDA := Aside0.mk hda
                clear hcs hta hda
                rw [hwx]
                clear hwx
                go_upto_region 12 with (first | (at_builtin; refine wpList_append_own_at _ rfl (.tmp 49) (.tmp 52) 28 rfl w.heap.size 23 ir (.slice none 0 0) 1 24 Try.underlying28 hir hr0 hr1 hr2 rfl (by decide) _ 0 [] rfl e0.out ⟨b, 0, none⟩ i cap (cs.take i) rfl HTA.out (N1.out C0.out) (fun u hu => ON.out u (List.mem_of_mem_take hu)) X1.out.1 X2.out.1 (by simp; omega) ?_; intro v1 w1 ho1 hg1 _ hb1; simp only [Nat.zero_add, List.nil_append] at ho1; have C1 := Aside0.mk (C0.out.step hbx hwzA.out hg1 hb1); have O1 := Aside0.mk ho1; have hs1 := C1.out.size; clear ho1 hg1 hb1) | (at_builtin; refine wpList_append_own_at _ rfl (.tmp 54) (.tmp 56) 28 rfl w.heap.size 23 ir (.slice none 0 0) 1 24 Try.underlying28 hir hr0 hr1 hr2 rfl (by decide) _ i (cs.take i) rfl (O1.out.alloc _) ⟨w1.heap.size, 0, none⟩ 1 1 [.slice Ar n cr] rfl rfl (cell_one_new _ _ _) (by simp [Value.oneCell']) X1.out.2.1 X2.out.2.1 (by simp; omega) ?_; intro v2 w2 ho2 hg2 _ hb2; have C2 := Aside0.mk ((C1.out.alloc hwzA.out _).step hbx hwzA.out hg2 hb2); have O2 := Aside0.mk ho2; have hs2 := C2.out.size; clear ho2 hg2 hb2))
                have N3 := Aside0.mk (by have := C2.out.news HBX.out.own i (L.length - i); rw [List.take_of_length_le (by have := HDA.out; omega)] at this; exact this)
                have hs3 : w.heap.size ≤ w2.heap.size := by omega
                go_wp2_with (at_builtin; go_loud (refine wpList_append_own_at _ rfl (.tmp 58) (.tmp 61) 28 rfl w.heap.size 23 ir (.slice none 0 0) 1 24 Try.underlying28 hir hr0 hr1 hr2 rfl (by decide) _ (i + 1) (cs.take i ++ [Value.slice Ar n cr]) rfl O2.out ⟨b, i, none⟩ (L.length - i) (cap - i) (cs.drop i) rfl HDA.out N3.out (fun u hu => ON.out u (List.mem_of_mem_drop hu)) X1.out.2.2 X2.out.2.2 hs3 ?_; intro v3 w3 ho3 hg3 _ hb3; have C3 := Aside0.mk (C2.out.step hbx hwzA.out hg3 hb3); have O3 := Aside0.mk ho3; clear ho3 hg3 hb3))
                obtain ⟨b3, cap3, hv3, HB3⟩ := chain_end (w := w) HBX.out HRX.out HIL C3.out O3.out
                go_roundw
                case rel => exact ⟨k + 1, b3, cap3, _, _, by go_num, by omega, hv3, ⟨by rw [NY.out, ← HL.out]; exact (IC.out).symm⟩, ⟨HB3⟩, ⟨C3.out.below w HWX.out⟩⟩
                case measure => simp [intOf]; omega
          · have dg : decide (i < L.length) = false := by simpa using hi
            have hie : i = L.length := by omega
            have IC := Aside0.mk ((IA.out (fun h => absurd h hi)).1 (fun h => absurd h hi))
            have HIE := Aside0.mk hie
            have hic : i ≤ cap := by omega
            clear hie
            by_cases hci : cap = i
            · subst hci
              go_upto_region 10 with (fail)
              obtain ⟨wx, hwx⟩ : ∃ wx, wo.drewN m = wx := ⟨_, rfl⟩
              have HBX := Aside0.mk (show BuiltBy RowAt wx w.heap.size 23 (· < w.heap.size) (.slice (some ⟨b, 0, none⟩) L.length cap) L cs by rw [← hwx]; exact HB.out.stays reads_row (Stays.drewN (fun _ => True) _ _) (fun _ _ _ => trivial) (fun _ _ => trivial))
              have HRX := Aside0.mk (show RowAt wx (· < w.heap.size) (.slice Ar n cr) r by rw [← hwx]; exact reads_row.stays HRL.out (Stays.drewN _ _ _))
              have HWX := Aside0.mk (show Below w.heap.size w wx by rw [← hwx]; exact below_drewN HW.out _)
              have hwz := HWX.out.size
              have hbx := HBX.out.caps.2.2.1
              have C0 := Aside0.mk (Chain.start (B := w.heap.size) hbx hwz)
              have e0 := Aside0.mk (owns_empty wx w.heap.size 23 hwz)
              have hcs := HBX.out.len
              have hta : (cs.take cap).length = cap * 1 := by simp; omega
              have hda : (cs.drop cap).length = (L.length - cap) * 1 := by simp; omega
              have ON := Aside0.mk (rows_one (b := 0) HBX.out)
              have X1 := Aside0.mk (show 0 + cap ≤ maxLen ∧ cap + 1 ≤ maxLen ∧ cap + 1 + (L.length - cap) ≤ maxLen by unfold maxLen; omega)
              have X2 := Aside0.mk (show (0 + cap) * 24 ≤ 140737488355328 ∧ (cap + 1) * 24 ≤ 140737488355328 ∧ (cap + 1 + (L.length - cap)) * 24 ≤ 140737488355328 by omega)
              have N1 := Aside0.mk (fun (h : Chain w.heap.size b wx (wx.alloc (.cells #[] 23)) (.slice (some ⟨wx.heap.size, 0, none⟩) 0 0)) => by have := h.news HBX.out.own 0 cap; rw [List.drop_zero] at this; exact this)
              have hwzA := Aside0.mk hwz
              have HTA := Aside0.mk hta
              have HDA := Aside0.mk hda
              clear hcs hta hda
              rw [hwx]
              clear hwx
              go_upto_region 12 with (first | (at_builtin; refine wpList_append_own_at _ rfl (.tmp 49) (.tmp 52) 28 rfl w.heap.size 23 ir (.slice none 0 0) 1 24 Try.underlying28 hir hr0 hr1 hr2 rfl (by decide) _ 0 [] rfl e0.out ⟨b, 0, none⟩ cap cap (cs.take cap) rfl HTA.out (N1.out C0.out) (fun u hu => ON.out u (List.mem_of_mem_take hu)) X1.out.1 X2.out.1 (by simp; omega) ?_; intro v1 w1 ho1 hg1 _ hb1; simp only [Nat.zero_add, List.nil_append] at ho1; have C1 := Aside0.mk (C0.out.step hbx hwzA.out hg1 hb1); have O1 := Aside0.mk ho1; have hs1 := C1.out.size; clear ho1 hg1 hb1) | (at_builtin; refine wpList_append_own_at _ rfl (.tmp 54) (.tmp 56) 28 rfl w.heap.size 23 ir (.slice none 0 0) 1 24 Try.underlying28 hir hr0 hr1 hr2 rfl (by decide) _ cap (cs.take cap) rfl (O1.out.alloc _) ⟨w1.heap.size, 0, none⟩ 1 1 [.slice Ar n cr] rfl rfl (cell_one_new _ _ _) (by simp [Value.oneCell']) X1.out.2.1 X2.out.2.1 (by simp; omega) ?_; intro v2 w2 ho2 hg2 _ hb2; have C2 := Aside0.mk ((C1.out.alloc hwzA.out _).step hbx hwzA.out hg2 hb2); have O2 := Aside0.mk ho2; have hs2 := C2.out.size; clear ho2 hg2 hb2))
              have N3 := Aside0.mk (fun j u (hu : (cs.drop cap)[j]? = some u) => (by rw [List.drop_of_length_le (by have := HBX.out.len; have := HIE.out; omega)] at hu; simp at hu : w2.cell? ((⟨b, 0, none⟩ : Addr).add j) = some u))
              have hs3 : w.heap.size ≤ w2.heap.size := by omega
              go_wp2_with (at_builtin; go_loud (refine wpList_append_own_at _ rfl (.tmp 58) (.tmp 61) 28 rfl w.heap.size 23 ir (.slice none 0 0) 1 24 Try.underlying28 hir hr0 hr1 hr2 rfl (by decide) _ (cap + 1) (cs.take cap ++ [Value.slice Ar n cr]) rfl O2.out ⟨b, 0, none⟩ 0 0 [] rfl rfl (fun j u hu => by simp at hu) (fun u hu => by simp at hu) X1.out.2.1 X2.out.2.1 hs3 ?_; intro v3 w3 ho3 hg3 _ hb3; have C3 := Aside0.mk (C2.out.step hbx hwzA.out hg3 hb3); have O3 := Aside0.mk ho3; clear ho3 hg3 hb3))
              obtain ⟨b3, cap3, hv3, HB3⟩ := chain_end (w := w) HBX.out HRX.out HIL C3.out (by rw [show L.length - cap = 0 by omega, show cs.drop cap = [] from List.drop_of_length_le (by have := HBX.out.len; omega)]; exact O3.out)
              go_roundw
              case rel => exact ⟨k + 1, b3, cap3, _, _, by go_num, by omega, hv3, ⟨by rw [NY.out, ← HL.out]; exact (IC.out).symm⟩, ⟨HB3⟩, ⟨C3.out.below w HWX.out⟩⟩
              case measure => simp [intOf]; omega
            · go_upto_region 10 with (fail)
              obtain ⟨wx, hwx⟩ : ∃ wx, wo.drewN m = wx := ⟨_, rfl⟩
              have HBX := Aside0.mk (show BuiltBy RowAt wx w.heap.size 23 (· < w.heap.size) (.slice (some ⟨b, 0, none⟩) L.length cap) L cs by rw [← hwx]; exact HB.out.stays reads_row (Stays.drewN (fun _ => True) _ _) (fun _ _ _ => trivial) (fun _ _ => trivial))
              have HRX := Aside0.mk (show RowAt wx (· < w.heap.size) (.slice Ar n cr) r by rw [← hwx]; exact reads_row.stays HRL.out (Stays.drewN _ _ _))
              have HWX := Aside0.mk (show Below w.heap.size w wx by rw [← hwx]; exact below_drewN HW.out _)
              have hwz := HWX.out.size
              have hbx := HBX.out.caps.2.2.1
              have C0 := Aside0.mk (Chain.start (B := w.heap.size) hbx hwz)
              have e0 := Aside0.mk (owns_empty wx w.heap.size 23 hwz)
              have hcs := HBX.out.len
              have hta : (cs.take i).length = i * 1 := by simp; omega
              have hda : (cs.drop i).length = (L.length - i) * 1 := by simp; omega
              have ON := Aside0.mk (rows_one (b := 0) HBX.out)
              have X1 := Aside0.mk (show 0 + i ≤ maxLen ∧ i + 1 ≤ maxLen ∧ i + 1 + (L.length - i) ≤ maxLen by unfold maxLen; omega)
              have X2 := Aside0.mk (show (0 + i) * 24 ≤ 140737488355328 ∧ (i + 1) * 24 ≤ 140737488355328 ∧ (i + 1 + (L.length - i)) * 24 ≤ 140737488355328 by omega)
              have N1 := Aside0.mk (fun (h : Chain w.heap.size b wx (wx.alloc (.cells #[] 23)) (.slice (some ⟨wx.heap.size, 0, none⟩) 0 0)) => by have := h.news HBX.out.own 0 i; rw [List.drop_zero] at this; exact this)
              have hwzA := Aside0.mk hwz
              have HTA := Aside0.mk hta
              have HDA := Aside0.mk hda
              clear hcs hta hda
              rw [hwx]
              clear hwx
              go_upto_region 12 with (first | (at_builtin; refine wpList_append_own_at _ rfl (.tmp 49) (.tmp 52) 28 rfl w.heap.size 23 ir (.slice none 0 0) 1 24 Try.underlying28 hir hr0 hr1 hr2 rfl (by decide) _ 0 [] rfl e0.out ⟨b, 0, none⟩ i cap (cs.take i) rfl HTA.out (N1.out C0.out) (fun u hu => ON.out u (List.mem_of_mem_take hu)) X1.out.1 X2.out.1 (by simp; omega) ?_; intro v1 w1 ho1 hg1 _ hb1; simp only [Nat.zero_add, List.nil_append] at ho1; have C1 := Aside0.mk (C0.out.step hbx hwzA.out hg1 hb1); have O1 := Aside0.mk ho1; have hs1 := C1.out.size; clear ho1 hg1 hb1) | (at_builtin; refine wpList_append_own_at _ rfl (.tmp 54) (.tmp 56) 28 rfl w.heap.size 23 ir (.slice none 0 0) 1 24 Try.underlying28 hir hr0 hr1 hr2 rfl (by decide) _ i (cs.take i) rfl (O1.out.alloc _) ⟨w1.heap.size, 0, none⟩ 1 1 [.slice Ar n cr] rfl rfl (cell_one_new _ _ _) (by simp [Value.oneCell']) X1.out.2.1 X2.out.2.1 (by simp; omega) ?_; intro v2 w2 ho2 hg2 _ hb2; have C2 := Aside0.mk ((C1.out.alloc hwzA.out _).step hbx hwzA.out hg2 hb2); have O2 := Aside0.mk ho2; have hs2 := C2.out.size; clear ho2 hg2 hb2))
              have N3 := Aside0.mk (fun j u (hu : (cs.drop i)[j]? = some u) => (by rw [List.drop_of_length_le (by have := HBX.out.len; have := HIE.out; omega)] at hu; simp at hu : w2.cell? ((⟨b, i, none⟩ : Addr).add j) = some u))
              have hs3 : w.heap.size ≤ w2.heap.size := by omega
              go_wp2_with (at_builtin; go_loud (refine wpList_append_own_at _ rfl (.tmp 58) (.tmp 61) 28 rfl w.heap.size 23 ir (.slice none 0 0) 1 24 Try.underlying28 hir hr0 hr1 hr2 rfl (by decide) _ (i + 1) (cs.take i ++ [Value.slice Ar n cr]) rfl O2.out ⟨b, i, none⟩ (L.length - i) (cap - i) (cs.drop i) rfl HDA.out N3.out (fun u hu => ON.out u (List.mem_of_mem_drop hu)) X1.out.2.2 X2.out.2.2 hs3 ?_; intro v3 w3 ho3 hg3 _ hb3; have C3 := Aside0.mk (C2.out.step hbx hwzA.out hg3 hb3); have O3 := Aside0.mk ho3; clear ho3 hg3 hb3))
              obtain ⟨b3, cap3, hv3, HB3⟩ := chain_end (w := w) HBX.out HRX.out HIL C3.out O3.out
              go_roundw
              case rel => exact ⟨k + 1, b3, cap3, _, _, by go_num, by omega, hv3, ⟨by rw [NY.out, ← HL.out]; exact (IC.out).symm⟩, ⟨HB3⟩, ⟨C3.out.below w HWX.out⟩⟩
              case measure => simp [intOf]; omega
      · have NN2 := Aside0.mk (NN.out hw)
        have dn : ((r.length : Int) != (n : Int)) = true := by rw [bne_iff_ne]; omega
        clear NY hw
        generalize r.length = m at *
        go_wp2
        go_roundw
        case rel => exact ⟨k + 1, b, cap, L, cs, by go_num, by omega, rfl, ⟨by rw [NN2.out]; exact HL.out⟩, HB, HW⟩
        case measure => simp [intOf]; omega
    · obtain rfl : k = rs.length := by omega
      rw [List.take_length] at HL
      go_wp2
      go_ret
      refine ⟨_, rfl, ?_, HW.out⟩
      rw [← HL.out]
      have hl : L.length < 1000000 := by
        rw [HL.out]
        have := norm_length n rs
        omega
      exact SlAt.of_own0 HB.out.own rfl (fun _ _ _ => trivial) (by omega) fun j h u hu => reads_row.mono (HB.out.el j h u hu) (fun _ _ _ => trivial)
end Go.Proofs.Ytalbgdbphdhhaaa.Sg
