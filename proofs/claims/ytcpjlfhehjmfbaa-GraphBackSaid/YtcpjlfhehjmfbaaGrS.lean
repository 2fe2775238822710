/- graph.Components, plain: the components that are ready lie in a heap; what a pop and a push make of it. -/
import Derived.Test.YtcpjlfhehjmfbaaGrR
namespace Go.Proofs.Ytcpjlfhehjmfbaa.Gr
open Go.Proofs.Ytcpjlfhehjmfbaa.Sg Go.Proofs.Ytcpjlfhehjmfbaa.Hm
set_option linter.unusedVariables false
set_option linter.unusedSimpArgs false

theorem nodup_le {l : List Nat} {n : Nat} (h : l.Nodup) (hl : ∀ x ∈ l, x < n) : l.length ≤ n := by
  have hp : l.Perm ((List.range n).filter fun x => decide (x ∈ l)) := (List.perm_ext_iff_of_nodup h (List.nodup_range.filter _)).2 fun x => by
    rw [List.mem_filter, List.mem_range, decide_eq_true_iff]
    exact ⟨fun k => ⟨hl x k, k⟩, fun k => k.2⟩
  rw [hp.length_eq]
  refine Nat.le_trans (List.length_filter_le _ _) ?_
  simp
def HS (L : List (Int × Int)) : List Nat := L.map fun e => e.1.toNat
theorem HS_snoc (L : List (Int × Int)) (c : Nat) (k : Int) : HS (L ++ [((c : Int), k)]) = HS L ++ [c] := by simp [HS]
theorem HS_length (L : List (Int × Int)) : (HS L).length = L.length := by simp [HS]
theorem popped_HS {L L' : List (Int × Int)} {x : Int} {nc : Nat} {ld : Nat → Nat} (h : Popped (fun x y : Int => decide (ld x.toNat < ld y.toNat)) L x L') (hok : ∀ e ∈ L, ∃ c : Nat, c < nc ∧ e.1 = (c : Int)) :
    ∃ xn : Nat, xn < nc ∧ x = (xn : Int) ∧ (HS L).Perm (xn :: HS L') ∧ ∀ y ∈ HS L, ¬ ld y < ld xn := by
  obtain ⟨c, h1, h2⟩ := h
  have hm : (x, c) ∈ L := h1.mem_iff.2 (List.mem_cons_self ..)
  obtain ⟨xn, hx1, hx2⟩ := hok _ hm
  simp only at hx2
  subst hx2
  refine ⟨xn, hx1, rfl, ?_, fun y hy hlt => ?_⟩
  · have := h1.map (fun e : Int × Int => e.1.toNat)
    simpa [HS] using this
  · obtain ⟨e, he, rfl⟩ := List.mem_map.1 hy
    have := h2 e he
    unfold Le bef at this
    rw [Bool.or_eq_false_iff] at this
    have h3 := of_decide_eq_false this.1
    simp only [Int.toNat_natCast] at h3
    exact h3 hlt
theorem flat_memb {n : Nat} {comp : Nat → Nat} {out : List Nat} : ∀ v, v < n → (v ∈ (out.map (memb n comp)).flatten ↔ comp v ∈ out) := fun v hv => by
  rw [List.mem_flatten]
  constructor
  · rintro ⟨c, hc, hm⟩
    obtain ⟨d, hd, rfl⟩ := List.mem_map.1 hc
    rw [(mem_memb.1 hm).2]; exact hd
  · intro h
    exact ⟨_, List.mem_map.2 ⟨_, h, rfl⟩, mem_memb.2 ⟨hv, rfl⟩⟩
/-- All that is ready lies in the heap. -/
structure KAll (A : Adj) (n nc : Nat) (comp : Nat → Nat) (deps : List (Nat × Nat)) (out : List Nat) (W : Nat → Nat) (L : List (Int × Int)) (came : Int) : Prop where
  k : KInv nc deps out W (HS L)
  page : Page A n (out.map (memb n comp))
  came : came = (L.length : Int) + (out.length : Int)
theorem KAll.bounds {A : Adj} {n nc : Nat} {comp : Nat → Nat} {deps : List (Nat × Nat)} {out : List Nat} {W : Nat → Nat} {L : List (Int × Int)} {came : Int} (h : KAll A n nc comp deps out W L came) : L.length ≤ nc ∧ out.length ≤ nc := by
  have h1 := nodup_le h.k.hnd (fun x hx => ((h.k.heap x).1 hx).1)
  have h2 := nodup_le h.k.ond h.k.olt
  rw [HS_length] at h1
  exact ⟨h1, h2⟩
/-- x has been taken out, and is the next one. -/
structure KPop (A : Adj) (n nc : Nat) (comp : Nat → Nat) (deps : List (Nat × Nat)) (out : List Nat) (x : Nat) (rem : List Nat) (W : Nat → Nat) (L : List (Int × Int)) (came : Int) : Prop where
  page : Page A n ((out ++ [x]).map (memb n comp))
  inn : KIn nc deps (out ++ [x]) rem W (HS L)
  came : came = (L.length : Int) + (out.length : Int) + 1
  ex : ∃ W0 H, KInv nc deps out W0 H ∧ x ∈ H
theorem KAll.pop {A : Adj} {n nc : Nat} {comp : Nat → Nat} {deps : List (Nat × Nat)} {out : List Nat} {W : Nat → Nat} {L L' : List (Int × Int)} {came x : Int} (hC : Comps A n comp nc) (hA : ∀ u t, Edge A u t → t < n) (hD : DepsOf A n comp deps) (h : KAll A n nc comp deps out W L came) (hp : Popped (fun x y : Int => decide (lead n comp x.toNat < lead n comp y.toNat)) L x L') (hok : ∀ e ∈ L, ∃ c : Nat, c < nc ∧ e.1 = (c : Int)) :
    ∃ xn : Nat, xn < nc ∧ x = (xn : Int) ∧ KPop A n nc comp deps out xn (backOf deps xn) W L' came := by
  obtain ⟨xn, h1, h2, h3, h4⟩ := popped_HS hp hok
  have hx : xn ∈ HS L := h3.mem_iff.2 (List.mem_cons_self ..)
  obtain ⟨q1, q2⟩ := h.k.next hC hA hD flat_memb hx h4
  refine ⟨xn, h1, h2, ⟨?_, h.k.popped h3, ?_, ⟨W, _, h.k, hx⟩⟩⟩
  · rw [List.map_append]; exact h.page.snoc q1 q2
  · have hl := h3.length_eq
    rw [List.length_cons, HS_length, HS_length] at hl
    rw [h.came]; omega
theorem KPop.bounds {A : Adj} {n nc : Nat} {comp : Nat → Nat} {deps : List (Nat × Nat)} {out : List Nat} {x : Nat} {rem : List Nat} {W : Nat → Nat} {L : List (Int × Int)} {came : Int} (h : KPop A n nc comp deps out x rem W L came) : L.length ≤ nc ∧ out.length + 1 ≤ nc ∧ x < nc := by
  have h1 := nodup_le h.inn.hnd (fun x hx => ((h.inn.heap x).1 hx).1)
  rw [HS_length] at h1
  obtain ⟨W0, H, k, hx⟩ := h.ex
  obtain ⟨x1, x2, x3⟩ := (k.heap x).1 hx
  have h2 := nodup_le (l := x :: out) (n := nc) (List.nodup_cons.2 ⟨x2, k.ond⟩) (fun y hy => by
    rcases List.mem_cons.1 hy with e | e
    · subst e; exact x1
    · exact k.olt y e)
  rw [List.length_cons] at h2
  exact ⟨h1, h2, x1⟩
/-- One that waits for x waits for one less. -/
theorem KPop.step {A : Adj} {n nc : Nat} {comp : Nat → Nat} {es : List Row} {out : List Nat} {x d : Nat} {rem : List Nat} {W : Nat → Nat} {L : List (Int × Int)} {came : Int} (h : KPop A n nc comp (depsTo n comp es n) out x (d :: rem) W L came) (hd : d ∈ backOf (depsTo n comp es n) x) (hdc : d < nc) :
    1 ≤ W d ∧ (W d - 1 ≠ 0 → KPop A n nc comp (depsTo n comp es n) out x rem (upd W d (W d - 1)) L came) ∧ (W d - 1 = 0 → KPop A n nc comp (depsTo n comp es n) out x rem (upd W d (W d - 1)) (L ++ [((d : Int), came)]) (came + 1)) := by
  obtain ⟨W0, H, k, hx⟩ := h.ex
  obtain ⟨q1, q2⟩ := h.inn.step hdc (k.later hx deps_ne hd)
  refine ⟨q1, fun q => ⟨h.page, ?_, h.came, h.ex⟩, fun q => ⟨h.page, ?_, ?_, h.ex⟩⟩
  · rw [if_neg q] at q2; exact q2
  · rw [if_pos q] at q2; rw [HS_snoc]; exact q2
  · rw [h.came, List.length_append]; simp; omega
theorem KPop.done {A : Adj} {n nc : Nat} {comp : Nat → Nat} {deps : List (Nat × Nat)} {out : List Nat} {x : Nat} {W : Nat → Nat} {L : List (Int × Int)} {came : Int} (h : KPop A n nc comp deps out x [] W L came) : KAll A n nc comp deps (out ++ [x]) W L came := by
  obtain ⟨W0, H, k, hx⟩ := h.ex
  exact ⟨h.inn.done k hx, h.page, by rw [h.came, List.length_append]; simp; omega⟩
theorem back_lt {n nc : Nat} {comp : Nat → Nat} {es : List Row} (hC : Comps (adj n es) n comp nc) {x d : Nat} (hd : d ∈ backOf (depsTo n comp es n) x) : d < nc := by
  unfold backOf at hd
  obtain ⟨⟨a, b⟩, he, rfl⟩ := List.mem_map.1 hd
  rw [List.mem_filter] at he
  obtain ⟨v, t, hv, _, e, _, _⟩ := (depsTo_spec n comp es a b).1 he.1
  simp only
  rw [← e]; exact hC.lt v hv
theorem KAll.start {A : Adj} {n nc : Nat} {comp : Nat → Nat} {deps : List (Nat × Nat)} {L : List (Int × Int)} {came : Int} (h1 : HS L = (List.range nc).filter fun c => decide (waitsOf deps [] c = 0)) (h2 : came = (L.length : Int)) : KAll A n nc comp deps [] (waitsOf deps []) L came := by
  refine ⟨KInv.start (fun d _ => rfl) (fun c => ?_) ?_, Page.nil A n, by rw [h2]; simp⟩
  · rw [h1, List.mem_filter, List.mem_range, decide_eq_true_iff]
  · rw [h1]; exact List.nodup_range.filter _
end Go.Proofs.Ytcpjlfhehjmfbaa.Gr
