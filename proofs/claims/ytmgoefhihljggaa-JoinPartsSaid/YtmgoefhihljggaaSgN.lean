/- Contract of the laws' own Sorted: the rows of a width put in one by one: 'norm'. -/
import Derived.Test.YtmgoefhihljggaaSgJ
import Derived.Deep.Cut
namespace Go.Proofs.Ytmgoefhihljggaa.Sg
open Go.RowKit Go.Shelf
set_option linter.unusedVariables false
set_option linter.unusedSimpArgs false

theorem ins_at {r : Row} : ∀ {L : List Row} {i : Nat}, i ≤ L.length → (∀ j (h : j < L.length), j < i → rlt L[j] r) → (∀ h : i < L.length, ¬ rlt L[i] r) →
    ((∀ h : i < L.length, L[i] ≠ r) → ins r L = L.take i ++ r :: L.drop i) ∧ (∀ h : i < L.length, L[i] = r → ins r L = L)
  | [], i, hi, _, _ => by
    obtain rfl : i = 0 := by simpa using hi
    exact ⟨fun _ => rfl, fun h => by simp at h⟩
  | x :: L, 0, _, _, h2 => by
    have h2' : ¬ rlt x r := h2 (by simp)
    refine ⟨fun h => ?_, fun _ h => ?_⟩
    · have hne : x ≠ r := h (by simp)
      rw [ins]
      rcases rlt_tri r x with k | k | k
      · rw [if_pos k]; rfl
      · exact absurd k.symm hne
      · exact absurd k h2'
    · have h : x = r := h
      subst h
      rw [ins, if_neg (rlt_irrefl _), if_pos rfl]
  | x :: L, i + 1, hi, h1, h2 => by
    have hx : rlt x r := h1 0 (by simp) (by omega)
    obtain ⟨a, b⟩ := ins_at (r := r) (L := L) (i := i) (by simpa using hi) (fun j h hj => h1 (j + 1) (by simpa using h) (by omega)) (fun h => h2 (by simpa using h))
    have hne : ¬ r = x := fun e => by subst e; exact rlt_irrefl _ hx
    have e : ins r (x :: L) = x :: ins r L := by rw [ins, if_neg (rlt_asymm hx), if_neg hne]
    refine ⟨fun h => ?_, fun h he => ?_⟩
    · rw [e, a (fun h' => h (by simpa using h'))]; rfl
    · rw [e, b (by simpa using h) he]
theorem norm_yes {n : Nat} {rs : List Row} {k : Nat} (h : k < rs.length) (hr : (rs[k]).length = n) : norm n (rs.take (k + 1)) = ins rs[k] (norm n (rs.take k)) := by
  unfold norm
  rw [List.take_succ_eq_append_getElem h, List.filter_append, List.foldl_append]
  simp [hr]
theorem norm_no {n : Nat} {rs : List Row} {k : Nat} (h : k < rs.length) (hr : (rs[k]).length ≠ n) : norm n (rs.take (k + 1)) = norm n (rs.take k) := by
  unfold norm
  rw [List.take_succ_eq_append_getElem h, List.filter_append, List.foldl_append]
  simp [hr]

theorem BuiltBy.caps {α : Type} {E : World → (Nat → Prop) → Value → α → Prop} {w : World} {B e b cap n : Nat} {ok : Nat → Prop} {xs : List α} {cs : List Value} (h : BuiltBy E w B e ok (.slice (some ⟨b, 0, none⟩) n cap) xs cs) : xs.length ≤ cap ∧ cap ≤ 9223372036854775807 ∧ b < w.heap.size ∧ B ≤ b := by
  rcases h.own.2 with ⟨h0, _⟩ | ⟨g, c, cur, h0, hb, hh, hc, hm, _⟩
  · cases h0
  · cases h0; exact ⟨hc, by unfold maxLen at hm; omega, (Array.getElem?_eq_some_iff.1 hh).1, hb⟩
theorem BuiltBy.cellOf {α : Type} {E : World → (Nat → Prop) → Value → α → Prop} {w : World} {B e b cap : Nat} {ok : Nat → Prop} {xs : List α} {cs : List Value} (h : BuiltBy E w B e ok (.slice (some ⟨b, 0, none⟩) xs.length cap) xs cs) (j : Nat) (hj : j < xs.length) : ∃ u, cs[j]? = some u ∧ w.cell? ⟨b, j, none⟩ = some u ∧ E w ok u xs[j] := by
  have hl := h.len
  have h1 : cs[j]? = some (cs[j]'(by omega)) := List.getElem?_eq_getElem _
  exact ⟨_, h1, (owns_at h.own h1).1, h.el j hj _ h1⟩
theorem owns_empty (w : World) (B e : Nat) (h : B ≤ w.heap.size) : (w.alloc (.cells #[] e)).ownsRow B e 1 (.slice (some ⟨w.heap.size, 0, none⟩) 0 0) 0 [] :=
  ⟨rfl, .inr ⟨w.heap.size, 0, #[], rfl, h, heap_alloc_new w _, Nat.le_refl _, by unfold maxLen; omega, rfl, rfl⟩⟩
theorem BuiltBy.empty {α : Type} (E : World → (Nat → Prop) → Value → α → Prop) (w : World) (B e : Nat) (ok : Nat → Prop) (h : B ≤ w.heap.size) : BuiltBy E (w.alloc (.cells #[] e)) B e ok (.slice (some ⟨w.heap.size, 0, none⟩) 0 0) ([] : List α) [] :=
  ⟨owns_empty w B e h, fun j h => by simp at h⟩
theorem own_some {w : World} {B e n : Nat} {v : Value} {xs : List Value} (h : w.ownsRow B e 1 v (n + 1) xs) : ∃ b cap, v = .slice (some ⟨b, 0, none⟩) (n + 1) cap := by
  rcases h.2 with ⟨_, h0⟩ | ⟨b, cap, cur, rfl, _⟩
  · omega
  · exact ⟨b, cap, rfl⟩

theorem ins_el {α β : Type} {P : β → α → Prop} {xs : List α} {cs : List β} (h : ∀ j (h : j < xs.length) u, cs[j]? = some u → P u xs[j]) (hl : cs.length = xs.length) {i : Nat} (hi : i ≤ xs.length) {u : β} {x : α} (hu : P u x) :
    ∀ j (h : j < (xs.take i ++ x :: xs.drop i).length) z, (cs.take i ++ [u] ++ cs.drop i)[j]? = some z → P z ((xs.take i ++ x :: xs.drop i)[j]) := by
  intro j hj z hz
  have htl : (xs.take i).length = i := by simp; omega
  have hcl : (cs.take i).length = i := by simp; omega
  rw [List.append_assoc] at hz
  by_cases a : j < i
  · rw [List.getElem_append_left (by omega)]
    rw [List.getElem?_append_left (by omega), List.getElem?_take, if_pos a] at hz
    rw [List.getElem_take]
    exact h j (by omega) z hz
  · rw [List.getElem?_append_right (by omega), hcl] at hz
    rw [List.getElem_append_right (by omega)]
    simp only [htl]
    by_cases b : j = i
    · subst b
      simp at hz ⊢
      subst hz
      exact hu
    · obtain ⟨t, rfl⟩ : ∃ t, j = i + 1 + t := ⟨j - (i + 1), by omega⟩
      have e : i + 1 + t - i = t + 1 := by omega
      simp only [e] at hz ⊢
      simp at hz ⊢
      exact h (i + t) (by simp at hj; omega) z hz
/-- What the first append of the chain leaves. -/
structure Chain (B b : Nat) (wx w1 : World) (v : Value) : Prop where
  stays : Stays (fun k => k < B ∨ k = b) wx w1
  size : wx.heap.size ≤ w1.heap.size
  ne : v.ownBlock ≠ some b
  ge : ∀ k, v.ownBlock = some k → B ≤ k
  below : ∀ w, Below B w wx → Below B w w1
theorem Chain.start {B b : Nat} {wx : World} (hb : b < wx.heap.size) (hB : B ≤ wx.heap.size) : Chain B b wx (wx.alloc (.cells #[] 24)) (.slice (some ⟨wx.heap.size, 0, none⟩) 0 0) :=
  ⟨Stays.alloc _ _ _, by simp, fun e => by injection e with e; simp at e; omega, fun k e => by injection e with e; simp at e; omega, fun w h => below_alloc h hB _⟩
theorem Chain.step {B b : Nat} {wx w1 w2 : World} {v v2 : Value} (h : Chain B b wx w1 v) (hb : b < wx.heap.size) (hB : B ≤ wx.heap.size) (hg : w1.grownBy w2 v.ownBlock) (ho : v2.ownBlock = v.ownBlock ∨ v2.ownBlock = some w1.heap.size) : Chain B b wx w2 v2 := by
  have hs := hg.size
  have hz := h.size
  refine ⟨h.stays.trans ((Stays.of_grown hg).mono (fun k hk _ e => ?_)) hz, by omega, fun e => ?_, fun k e => ?_, fun w hw => (h.below w hw).grown hg (by omega) (fun k e => h.ge k e)⟩
  · rcases hk with hk | hk
    · have := h.ge k e; omega
    · subst hk; exact h.ne e
  · rcases ho with ho | ho
    · exact h.ne (ho.symm.trans e)
    · rw [ho] at e; injection e with e; omega
  · rcases ho with ho | ho
    · exact h.ge k (ho.symm.trans e)
    · rw [ho] at e; injection e with e; omega
theorem Chain.alloc {B b : Nat} {wx w1 : World} {v : Value} (h : Chain B b wx w1 v) (hB : B ≤ wx.heap.size) (o : Obj) : Chain B b wx (w1.alloc o) v :=
  ⟨h.stays.trans (Stays.alloc _ _ _) h.size, by have := h.size; simp; omega, h.ne, h.ge, fun w hw => below_alloc (h.below w hw) (by have := h.size; omega) _⟩
/-- The cells of what is appended, in a later world. -/
theorem Chain.news {B b cap n e : Nat} {wx w1 : World} {v : Value} {cs : List Value} (h : Chain B b wx w1 v) (ho : wx.ownsRow B e 1 (.slice (some ⟨b, 0, none⟩) n cap) n cs) (lo m : Nat) : ∀ j u, ((cs.drop lo).take m)[j]? = some u → w1.cell? ((⟨b, lo, none⟩ : Addr).add j) = some u := by
  intro j u hu
  rw [List.getElem?_take] at hu
  split at hu
  · rw [List.getElem?_drop] at hu
    have hc := (owns_at ho hu).1
    have : ((⟨b, lo, none⟩ : Addr).add j) = ⟨b, lo + j, none⟩ := by by_cases h : j = 0 <;> simp [Addr.add, h]
    rw [this]
    exact h.stays.cell (.inr rfl) hc
  · cases hu
theorem rows_one {w : World} {B b e : Nat} {ok : Nat → Prop} {v : Value} {xs : List Row} {cs : List Value} (h : BuiltBy RowAt w B e ok v xs cs) : ∀ u ∈ cs, u.oneCell' = true := by
  intro u hu
  obtain ⟨j, hj, rfl⟩ := List.mem_iff_getElem.1 hu
  have := h.len
  exact reads_row.one (h.el j (by omega) _ (List.getElem?_eq_getElem hj))
/-- The chain's end. -/
theorem chain_end {B b cap : Nat} {w wx w3 : World} {v3 u : Value} {L : List Row} {r : Row} {cs : List Value} {i : Nat} (hB : BuiltBy RowAt wx B 24 (· < B) (.slice (some ⟨b, 0, none⟩) L.length cap) L cs) (hr : RowAt wx (· < B) u r) (hi : i ≤ L.length)
    (hc : Chain B b wx w3 v3) (ho : w3.ownsRow B 24 1 v3 (i + 1 + (L.length - i)) (cs.take i ++ [u] ++ cs.drop i)) :
    ∃ b' cap', v3 = .slice (some ⟨b', 0, none⟩) (L.take i ++ r :: L.drop i).length cap' ∧ BuiltBy RowAt w3 B 24 (· < B) (.slice (some ⟨b', 0, none⟩) (L.take i ++ r :: L.drop i).length cap') (L.take i ++ r :: L.drop i) (cs.take i ++ [u] ++ cs.drop i) := by
  have hl : (L.take i ++ r :: L.drop i).length = i + 1 + (L.length - i) := by simp; omega
  have e : i + 1 + (L.length - i) = (i + (L.length - i)) + 1 := by omega
  have ho' := ho
  rw [e] at ho'
  obtain ⟨b', cap', hv⟩ := own_some ho'
  rw [← e] at hv
  rw [hl]
  refine ⟨b', cap', hv, ?_, ?_⟩
  · rw [← hv, hl]; exact ho
  · refine ins_el (P := fun u x => RowAt w3 (· < B) u x) (fun j hj z hz => ?_) hB.len hi ?_
    · exact reads_row.stays (hB.el j hj z hz) (hc.stays.mono fun k hk _ => .inl hk)
    · exact reads_row.stays hr (hc.stays.mono fun k hk _ => .inl hk)

end Go.Proofs.Ytmgoefhihljggaa.Sg
