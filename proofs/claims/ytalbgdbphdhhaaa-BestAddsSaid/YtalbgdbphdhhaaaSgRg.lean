/- One list of rows appended to another one, whatever list it is; contracts: Grow, Concat. -/
import Derived.Test.YtalbgdbphdhhaaaSgRe
import Derived.Test.YtalbgdbphdhhaaaSgO
namespace Go.Proofs.Ytalbgdbphdhhaaa.Sg
open Go.RowKit Go.Shelf
set_option linter.unusedVariables false
set_option linter.unusedSimpArgs false

theorem run_append_none {P : Program} {w : World} {base t ty e size n c : Nat} {i : TypeInfo} (ht : P.underlying t = some (.slice e)) (hi : P.info? e = some i) {v : Value} {xs : List Value} (hown : w.ownsRow base e size v n xs) :
    (Builtin.append_ #[t, t] ty #[v, .slice none 0 c]).run P w = .ok v w := by
  rcases hown.2 with ⟨rfl, rfl⟩ | ⟨b, cap, cur, rfl, _, _, hc, _⟩
  · simp [Builtin.append_, run_underlying ht, sizeOf, typeInfo, hi, Builtin.lenOf, Builtin.firstCells, Sem.run_bind, Result.andThen, Sem.run_pure]
  · simp [Builtin.append_, run_underlying ht, sizeOf, typeInfo, hi, Builtin.lenOf, Builtin.firstCells, Sem.run_bind, Result.andThen, Sem.run_pure, hc, storeCells]
theorem wpList_append_list {P : Program} {w : World} {ops : Array Oper} {rest : List Oper} {o : Oper} {a : Act} {Q : Exit → Act → World → Prop} (hgd : o.guard = none) (s x : Operand) (t : TypeId)
    (ho : o.op = .call { callee := .builtin .append, args := #[s, x], argTypes := #[t, t] })
    (base : Nat) (e : TypeId) (i : TypeInfo) (z : Value) (bytes : Nat) (ht : P.underlying t = some (.slice e)) (hi : P.info? e = some i) (hz : i.zero = some z)
    (hsize : i.size = 1) (hby : i.bytes = bytes) (hzs : z.cells.size = 1)
    (v : Value) (n : Nat) (xs : List Value) (hs : a.eval s = v) (hown : w.ownsRow base e 1 v n xs)
    (A : Option Addr) (m c : Nat) (news : List Value) (hx : a.eval x = .slice A m c) (hl : news.length = m) (hnews : ∀ j u, news[j]? = some u → ∃ b off, A = some ⟨b, off, none⟩ ∧ w.cell? ⟨b, off + j, none⟩ = some u) (h1 : ∀ u ∈ news, u.oneCell' = true)
    (h63 : n + m ≤ maxLen) (hbytes : (n + m) * bytes ≤ 140737488355328) (hbase : base ≤ w.heap.size)
    (h : ∀ v' w', w'.ownsRow base e 1 v' (n + m) (xs ++ news) → w.grownBy w' v.ownBlock → (v'.ownBlock = v.ownBlock ∨ v'.ownBlock = some w.heap.size) → wpList P ops Q rest (a.put o.dst v') w') :
    wpList P ops Q (o :: rest) a w := by
  cases m with
  | zero =>
    have hn0 : news = [] := List.length_eq_zero_iff.1 hl
    subst hn0
    cases A with
    | none =>
      refine wpList_plain hgd fun K hK => ?_
      have hr := run_append_none (ty := o.type) (c := c) ht hi hown
      unfold Oper.wp execOp
      simp only [ho, resolve, invoke, builtin, Sem.run_bind, Sem.run_pure, Result.andThen_ok, List.map_toArray, List.map_cons, List.map_nil, hs, hx, hr]
      exact hK _ _ (h v w (by simpa using hown) ⟨rfl, rfl, rfl, Nat.le_refl _, fun _ _ _ => rfl⟩ (.inl rfl))
    | some ad => exact wpList_append_own_at _ hgd s x t ho base e i z 1 bytes ht hi hz hsize hby hzs (by decide) v n xs hs hown ad 0 c [] hx rfl (fun j u hu => by simp at hu) h1 h63 hbytes hbase (fun v' w' a1 a2 a3 a4 => h v' w' a1 a2 a4)
  | succ m =>
    obtain ⟨b, off, rfl, _⟩ := hnews 0 (news[0]'(by omega)) (List.getElem?_eq_getElem (by omega))
    exact wpList_append_own_at _ hgd s x t ho base e i z 1 bytes ht hi hz hsize hby hzs (by decide) v n xs hs hown _ (m + 1) c news hx (by omega) (fun j u hu => by
      obtain ⟨b2, off2, e2, hc⟩ := hnews j u hu
      cases e2
      rw [add_at]; exact hc) h1 h63 hbytes hbase (fun v' w' a1 a2 a3 a4 => h v' w' a1 a2 a4)
/-- A list's values. -/
theorem SlAt.vals {α : Type} {E : World → (Nat → Prop) → Value → α → Prop} {w : World} {ok : Nat → Prop} {A : Option Addr} {n c : Nat} {xs : List α} (h : SlAt E w ok (.slice A n c) xs) :
    ∃ cs : List Value, cs.length = n ∧ n = xs.length ∧ (∀ j u, cs[j]? = some u → ∃ b off, A = some ⟨b, off, none⟩ ∧ ok b ∧ w.cell? ⟨b, off + j, none⟩ = some u) ∧ (∀ j (hj : j < xs.length) u, cs[j]? = some u → E w ok u xs[j]) := by
  obtain ⟨h0, A', c', h1, h2, h3, h4⟩ := h
  injection h1 with h1 h5 h6
  subst h1
  subst h5
  obtain ⟨cs, hc1, hc2⟩ := choose_list (n := xs.length) (p := fun j u => ∃ (hj : j < xs.length) (b off : Nat), A = some ⟨b, off, none⟩ ∧ ok b ∧ w.cell? ⟨b, off + j, none⟩ = some u ∧ E w ok u xs[j]) (fun j hj => by
    obtain ⟨b, off, ha, hb, hc⟩ := h4 (by omega)
    obtain ⟨u, hu, he⟩ := hc j hj
    exact ⟨u, hj, b, off, ha, hb, hu, he⟩)
  refine ⟨cs, hc1, rfl, fun j u hu => ?_, fun j hj u hu => ?_⟩
  · obtain ⟨hj, rfl⟩ := List.getElem?_eq_some_iff.1 hu
    obtain ⟨_, b, off, ha, hb, hc, _⟩ := hc2 j hj
    exact ⟨b, off, ha, hb, hc⟩
  · obtain ⟨hj2, rfl⟩ := List.getElem?_eq_some_iff.1 hu
    obtain ⟨_, b, off, ha, hb, hc, he⟩ := hc2 j hj2
    exact he
/-- Behind an append of a whole list. -/
theorem BuiltBy.pushAll {α : Type} {E : World → (Nat → Prop) → Value → α → Prop} (H : Reads E) {w w1 : World} {B e : Nat} {v v' : Value} {xs ys : List α} {cs ds : List Value}
    (h : BuiltBy E w B e (Off v) v xs cs) (hl : ds.length = ys.length) (hu : ∀ j (hj : j < ys.length) u, ds[j]? = some u → E w (Off v) u ys[j]) (ho : w1.ownsRow B e 1 v' (xs.length + ys.length) (cs ++ ds)) (hg : w.grownBy w1 v.ownBlock) (hb : v'.ownBlock = v.ownBlock ∨ v'.ownBlock = some w.heap.size) :
    BuiltBy E w1 B e (Off v') v' (xs ++ ys) (cs ++ ds) := by
  have hl1 := h.len
  have hst : Stays (Off v) w w1 := (Stays.of_grown hg).mono (fun b hb _ => hb)
  have hel : ∀ (z : Value) (q : α), E w (Off v) z q → E w1 (Off v') z q := fun z q hz => by
    have e1 := H.mono (ok2 := fun b => Off v b ∧ b < w.heap.size) hz (fun b hb hl => ⟨hb, hl⟩)
    refine H.mono (H.stays e1 (hst.mono (fun b hb _ => hb.1))) (fun b hb2 _ => ?_)
    unfold Off at *
    rcases hb with e | e
    · rw [e]; exact hb2.1
    · rw [e]; intro e2; have := Option.some.inj e2; omega
  refine ⟨by simpa using ho, fun j hj z hz => ?_⟩
  by_cases q : j < xs.length
  · rw [List.getElem_append_left q]
    rw [List.getElem?_append_left (by omega)] at hz
    exact hel z _ (h.el j q z hz)
  · have hj2 : j - xs.length < ys.length := by simp at hj; omega
    rw [List.getElem?_append_right (by omega), hl1] at hz
    rw [List.getElem_append_right (by omega)]
    exact hel z _ (hu _ hj2 z hz)
end Go.Proofs.Ytalbgdbphdhhaaa.Sg
