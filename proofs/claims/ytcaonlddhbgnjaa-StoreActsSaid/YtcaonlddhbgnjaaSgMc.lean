/- The law's own: few, Sets. -/
import Derived.Test.YtcaonlddhbgnjaaSgMb
import Derived.Test.YtcaonlddhbgnjaaSgL
namespace Go.Proofs.Ytcaonlddhbgnjaa.Mg
open Go.RowKit Go.Shelf Go.Proofs.Ytcaonlddhbgnjaa.Sg Go.Proofs.Ytcaonlddhbgnjaa.Hm Go.Proofs.Ytcaonlddhbgnjaa.Hc
attribute [local go_sem] Oper.semAt_some
set_option linter.unusedVariables false
set_option linter.unusedSimpArgs false

abbrev LsAt := SlAt RowsAt
theorem reads_ls : Reads LsAt := reads_sl reads_rows
def few6 (Ls : List (List Row)) : Bool := Ls.all Sg.few && decide (Ls.length ≤ 8)
theorem few6_no {Ls : List (List Row)} {k : Nat} (hk : k < Ls.length) (h : Sg.few Ls[k] = false) : few6 Ls = false := by
  unfold few6
  rw [Bool.and_eq_false_iff]; left
  rw [List.all_eq_false]
  exact ⟨_, List.getElem_mem hk, by rw [h]; simp⟩
set_option maxHeartbeats 2000000 in
set_option maxRecDepth 100000 in
theorem few6_any (w : World) (ok : Nat → Prop) (v : Value) (Ls : List (List Row)) (h : LsAt w ok v Ls) : Calls Try.prog 15 #[v] w fun e w' => e = .returned (.bool (few6 Ls)) ∧ w = w' := by
  obtain ⟨Al, cl, rfl, hcl, hlm, _⟩ := h.form
  have HH := Aside0.mk h
  clear h
  obtain ⟨b, hb⟩ : ∃ b, few6 Ls = b := ⟨_, rfl⟩
  have HB := Aside0.mk hb
  rw [hb]
  clear hb
  go_enter Try.func15, Try.ntmps15
  go_wp2
  go_loopw [7] (fun s7 wr => ∃ (k : Nat), s7 = .int .i64 k ∧ k ≤ Ls.length ∧ Aside0 (∀ j (hj : j < Ls.length), j < k → Sg.few Ls[j] = true) ∧ w = wr) (fun s7 _ => Ls.length - (intOf s7).toNat)
  case atStart => exact ⟨0, rfl, Nat.zero_le _, ⟨fun j _ h => absurd h (Nat.not_lt_zero _)⟩, rfl⟩
  case round =>
    obtain ⟨k, rfl, hk, HF, rfl⟩ := hrel
    by_cases hlt : k < Ls.length
    · obtain ⟨bl, ol, ul, rfl, _, _, hcl1, hrl⟩ := HH.out.at_ k hlt
      obtain ⟨Ar, cr, hul, _⟩ := hrl.form
      obtain ⟨c, hc⟩ : ∃ c, Sg.few Ls[k] = c := ⟨_, rfl⟩
      have FB := Aside0.mk (few_b w ok ul Ls[k] c hrl hc)
      have HC := Aside0.mk hc
      subst hul
      clear hrl hc
      generalize (Ls[k]).length = m at *
      cases c with
      | false =>
        have hb : b = false := by rw [← HB.out]; exact few6_no hlt HC.out
        subst hb
        go_wp2_with (go_at_call 23; refine (FB.out).mono ?_; rintro e w' ⟨rfl, rfl⟩)
        go_ret
        exact ⟨rfl, rfl⟩
      | true =>
        go_wp2_with (go_at_call 23; refine (FB.out).mono ?_; rintro e w' ⟨rfl, rfl⟩)
        go_roundw
        case rel => exact ⟨k + 1, by go_num, by omega, ⟨fun j hj hjk => by rcases Nat.lt_succ_iff_lt_or_eq.1 hjk with h | h; exact HF.out j hj h; subst h; exact HC.out⟩, trivial⟩
        case measure => simp [intOf]; omega
    · obtain rfl : k = Ls.length := by omega
      have hb : decide (Ls.length ≤ 8) = b := by
        rw [← HB.out]; unfold few6
        have : Ls.all Sg.few = true := List.all_eq_true.2 fun x hx => by obtain ⟨j, hj, rfl⟩ := List.getElem_of_mem hx; exact HF.out j hj hj
        rw [this, Bool.true_and]
      have hb2 : decide ((Ls.length : Int) ≤ 8) = b := by rw [← hb]; congr 1; apply propext; omega
      go_wp2
      go_ret
      exact ⟨rfl, rfl⟩

/-! ### Sets -/
/-- Sets that were made, by their pointers. -/
abbrev Made := List (Option Addr × List Row)
def lookOf (P : Made) : Look := fun p => match P.find? (fun q => q.1 == p) with | some q => q.2 | none => []
def madeOf (n : Nat) (Ls : List (List Row)) : List (List Row) := Ls.map (norm n)
structure MadeAt (w : World) (ok : Nat → Prop) (W : Nat) (P : Made) : Prop where
  seg : ∀ q ∈ P, SegAt w ok (.pointer q.1) W q.2
  nd : (P.map (·.1)).Nodup
theorem SegAt.ptrLt {w : World} {ok : Nat → Prop} {v : Value} {W : Nat} {rs : List Row} (h : SegAt w ok v W rs) : ∃ g, v = .pointer (some ⟨g, 0, none⟩) ∧ ok g ∧ g < w.heap.size := by
  obtain ⟨g, cv, h1, h2, h3, _⟩ := h.ex
  exact ⟨g, h1, h2, World.block_lt_of_cell? w _ h3⟩
theorem MadeAt.below {w w' : World} {ok : Nat → Prop} {W : Nat} {P : Made} (h : MadeAt w ok W P) (hb : Below w.heap.size w w') : MadeAt w' ok W P := ⟨fun q hq => (h.seg q hq).below hb, h.nd⟩
theorem MadeAt.stays {w w' : World} {ok : Nat → Prop} {W : Nat} {P : Made} (h : MadeAt w ok W P) (hb : Stays ok w w') : MadeAt w' ok W P := ⟨fun q hq => (h.seg q hq).stays hb, h.nd⟩
theorem MadeAt.mono {w : World} {ok ok2 : Nat → Prop} {W : Nat} {P : Made} (h : MadeAt w ok W P) (hb : ∀ b, ok b → b < w.heap.size → ok2 b) : MadeAt w ok2 W P := ⟨fun q hq => (h.seg q hq).mono hb, h.nd⟩
theorem MadeAt.snoc {w : World} {ok : Nat → Prop} {W m : Nat} {P : Made} {g : Nat} {rs : List Row} (h : MadeAt w ok W P) (hg : SegAt w ok (.pointer (some ⟨g, 0, none⟩)) W rs) (hP : ∀ q ∈ P, ∃ k, q.1 = some ⟨k, 0, none⟩ ∧ k < m) (hm : m ≤ g) : MadeAt w ok W (P ++ [(some ⟨g, 0, none⟩, rs)]) := by
  refine ⟨fun q hq => ?_, ?_⟩
  · rcases List.mem_append.1 hq with hq | hq
    · exact h.seg q hq
    · rw [List.mem_singleton.1 hq]; exact hg
  · rw [List.map_append, List.nodup_append]
    refine ⟨h.nd, by simp, fun a ha b hb => ?_⟩
    obtain ⟨q, hq, rfl⟩ := List.mem_map.1 ha
    obtain ⟨k, hk, hkm⟩ := hP q hq
    simp at hb
    rw [hb, hk]
    intro e
    have := congrArg Addr.block (Option.some.inj e)
    simp at this
    omega
theorem MadeAt.push {wr w2 w1 : World} {o : Obj} {B e n k g : Nat} {v v1 : Value} {P : Made} {rs : List Row} {cs : List Value} (h : MadeAt wr (fun b => B ≤ b ∧ Off v b) n P) (ho : wr.ownsRow B e 1 v k cs) (hB : B ≤ wr.heap.size)
    (hb2 : Below wr.heap.size wr w2) (hs : SegAt w2 (wr.heap.size ≤ ·) (.pointer (some ⟨g, 0, none⟩)) n rs) (hg2 : wr.heap.size ≤ g) (hg : (w2.alloc o).grownBy w1 v.ownBlock) (hb : v1.ownBlock = v.ownBlock ∨ v1.ownBlock = some (w2.alloc o).heap.size) :
    MadeAt w1 (fun b => B ≤ b ∧ Off v1 b) n (P ++ [(some ⟨g, 0, none⟩, rs)]) := by
  have hpl : ∀ q ∈ P, ∃ k, q.1 = some ⟨k, 0, none⟩ ∧ k < wr.heap.size := fun q hq => by
    obtain ⟨k, h1, _, h3⟩ := SegAt.ptrLt (h.seg q hq)
    exact ⟨k, by injection h1, h3⟩
  have h2 : MadeAt w2 (fun b => (B ≤ b ∧ Off v b) ∧ b < w2.heap.size) n P := (h.below hb2).mono (fun b hb hl => ⟨hb, hl⟩)
  have hs2 : SegAt w2 (fun b => (B ≤ b ∧ Off v b) ∧ b < w2.heap.size) (.pointer (some ⟨g, 0, none⟩)) n rs := hs.mono (fun b hb hl => ⟨⟨Nat.le_trans hB hb, fun e => by have h1 := (ho.lt b e).2; have : wr.heap.size ≤ b := hb; omega⟩, hl⟩)
  have h3 := h2.snoc hs2 hpl hg2
  have h4 : MadeAt w1 (fun b => (B ≤ b ∧ Off v b) ∧ b < w2.heap.size) n (P ++ [(some ⟨g, 0, none⟩, rs)]) := (h3.below (below_alloc0 (Below.refl _ _) o)).stays ((Stays.of_grown hg).mono (fun b hb _ => fun e => hb.1.2 e))
  refine h4.mono (fun b hb9 _ => ⟨hb9.1.1, fun e => ?_⟩)
  rcases hb with hb | hb
  · rw [hb] at e; exact hb9.1.2 e
  · rw [hb] at e; have := Option.some.inj e; simp at this; have := hb9.2; omega
theorem lookOf_mem {P : Made} (h : (P.map (·.1)).Nodup) {q : Option Addr × List Row} (hq : q ∈ P) : lookOf P q.1 = q.2 := by
  induction P with
  | nil => cases hq
  | cons a P ih =>
    unfold lookOf
    rw [List.find?_cons]
    rw [List.map_cons, List.nodup_cons] at h
    rcases List.mem_cons.1 hq with rfl | hq
    · simp
    · have hne : (a.1 == q.1) = false := by
        rw [beq_eq_false_iff_ne]
        intro e
        exact h.1 (List.mem_map.2 ⟨q, hq, e.symm⟩)
      rw [hne]
      exact ih h.2 hq
theorem lookOf_flat {P : Made} (h : (P.map (·.1)).Nodup) : (P.map (·.1)).flatMap (lookOf P) = (P.map (·.2)).flatten := by
  rw [List.flatMap_map]
  have : ∀ Q : Made, (∀ q ∈ Q, q ∈ P) → Q.flatMap (fun q => lookOf P q.1) = (Q.map (·.2)).flatten := by
    intro Q
    induction Q with
    | nil => intro _; rfl
    | cons q Q ih =>
      intro hQ
      rw [List.flatMap_cons, List.map_cons, List.flatten_cons, lookOf_mem h (hQ q (by simp)), ih (fun r hr => hQ r (by simp [hr]))]
  exact this P (fun q hq => hq)
theorem MadeAt.inv {w : World} {ok : Nat → Prop} {W n0 : Nat} {P : Made} (h : MadeAt w ok W P) (hn : w.heap.size ≤ n0) : invC (lookOf P) (P.map (·.1)) n0 w := fun p hp => by
  obtain ⟨q, hq, rfl⟩ := List.mem_map.1 hp
  rw [lookOf_mem h.nd hq]
  exact ⟨W, ((h.seg q hq).mono (fun b _ hl => Nat.lt_of_lt_of_le hl hn)).n⟩

theorem info_pseg : (Try.prog.info? 44).map (fun i => (i.zero, i.size, i.bytes)) = some (some (.pointer none), 1, 8) := by kernel_rfl
set_option maxHeartbeats 4000000 in
set_option maxRecDepth 100000 in
theorem sets_any (w : World) (ok : Nat → Prop) (v : Value) (Ls : List (List Row)) (n : Nat) (h : LsAt w ok v Ls) (hn : n < 1000000) (hL : Ls.length < 100000) (hl : ∀ l ∈ Ls, l.length < 1000000) :
    Calls Try.prog 16 #[.int .i64 n, v] w fun e w' => ∃ v' P, e = .returned v' ∧ P.map (·.2) = Ls.map (norm n) ∧ PsAt w' (w.heap.size ≤ ·) v' (P.map (·.1)) ∧ MadeAt w' (fun b => w.heap.size ≤ b ∧ Off v' b) n P ∧ Below w.heap.size w w' := by
  obtain ⟨Al, cl, rfl, hcl, hlm, _⟩ := h.form
  obtain ⟨ir, hir, hr0, hr1, hr2⟩ := info_parts info_pseg
  have HH := Aside0.mk h
  have HL := Aside0.mk hl
  clear h hl
  go_enter Try.func16, Try.ntmps16
  go_wp2
  have OE := Aside0.mk (owns_empty w w.heap.size 44 (Nat.le_refl _))
  go_loopw [5, 11] (fun s5 s11 wr => ∃ (k : Nat) (P : Made), s11 = .int .i64 k ∧ k ≤ Ls.length ∧ Aside0 (wr.ownsRow w.heap.size 44 1 s5 k (P.map fun q => .pointer q.1)) ∧ Aside0 (P.map (·.2) = (Ls.take k).map (norm n)) ∧ Aside0 (MadeAt wr (fun b => w.heap.size ≤ b ∧ Off s5 b) n P) ∧ Aside0 (Below w.heap.size w wr)) (fun _ s11 _ => Ls.length - (intOf s11).toNat)
  case atStart => exact ⟨0, [], rfl, Nat.zero_le _, OE, ⟨rfl⟩, ⟨⟨fun q hq => by simp at hq, by simp⟩⟩, ⟨below_alloc0 (Below.refl _ _) _⟩⟩
  case round =>
    clear OE
    obtain ⟨k, P, rfl, hk, HO, HP, HM, HB⟩ := hrel
    have hbs := HB.out.size
    by_cases hlt : k < Ls.length
    · obtain ⟨bl, ol, ul, rfl, _, _, hcl1, hrl⟩ := (HH.out.below reads_rows HB.out).at_ k hlt
      obtain ⟨Ar, cr, hul, _⟩ := hrl.form
      have MK := Aside0.mk (make_any wr _ ul n Ls[k] hrl hn (HL.out _ (List.getElem_mem hlt)))
      have TK := Aside0.mk (show (Ls.take (k + 1)).map (norm n) = (Ls.take k).map (norm n) ++ [norm n Ls[k]] by rw [List.take_succ_eq_append_getElem hlt, List.map_append]; rfl)
      have h63 := Aside0.mk (show k + 1 ≤ maxLen by unfold maxLen; omega)
      have hby := Aside0.mk (show (k + 1) * 8 ≤ 140737488355328 by omega)
      subst hul
      clear hrl
      generalize norm n Ls[k] = nk at *
      generalize (Ls[k]).length = lk at *
      go_wp2_with (first
        | (go_at_call 24; refine (MK.out).mono ?_; rintro e w2 ⟨v2, rfl, S2, B2⟩; obtain ⟨g, rfl, hg1, hg2⟩ := SegAt.ptrLt S2; have S2 := Aside0.mk S2; have B2 := Aside0.mk B2; have O2 := Aside0.mk ((Stays.of_below B2.out (fun _ => True)).owns HO.out (fun _ _ => trivial)); have hsz := Aside0.mk (fun o => (show w.heap.size ≤ (w2.alloc o).heap.size by have := B2.out.size; simp; omega)))
        | (at_builtin; refine wpList_append_own_at _ rfl (.tmp 15) (.tmp 19) 40 rfl w.heap.size 44 ir (.pointer none) 1 8 Try.underlying40 hir hr0 hr1 hr2 rfl (by decide) _ _ _ rfl (O2.out.alloc _) ⟨w2.heap.size, 0, none⟩ 1 1 [.pointer (some ⟨g, 0, none⟩)] rfl rfl (cell_one_new _ _ _) (by simp [Value.oneCell']) h63.out hby.out (hsz.out _) ?_; intro v1 w1 ho hg3 _ hb3; have HO1 := Aside0.mk ho; have HG1 := Aside0.mk hg3; have HM1 := Aside0.mk (HM.out.push HO.out hbs B2.out S2.out hg1 hg3 hb3); clear ho hg3 hb3))
      go_roundw
      case rel => exact ⟨k + 1, _, by go_num, by omega, ⟨by have h9 := HO1.out; rw [show (P.map fun q => Value.pointer q.1) ++ [.pointer (some ⟨g, 0, none⟩)] = (P ++ [((some ⟨g, 0, none⟩ : Option Addr), nk)]).map fun q => Value.pointer q.1 by simp] at h9; exact h9⟩, ⟨by rw [TK.out, ← HP.out]; simp⟩, HM1, ⟨(below_alloc (HB.out.trans (B2.out.mono hbs)) (Nat.le_trans hbs B2.out.size) _).grown HG1.out (by have := B2.out.size; simp; omega) (fun j hj => (HO.out.lt j hj).1)⟩⟩
      case measure => simp [intOf]; omega
    · obtain rfl : k = Ls.length := by omega
      have HP := Aside0.mk (by have h9 := HP.out; rw [List.take_length] at h9; exact h9)
      have hpl : Ls.length = P.length := by have := congrArg List.length HP.out; simp at this; omega
      have RO := Aside0.mk (show PsAt wr (w.heap.size ≤ ·) u5 (P.map (·.1)) from SlAt.of_own0 (E := PtrAt) (xs := P.map (·.1)) HO.out (by simp [hpl]) (fun b _ hb => hb) (by simp; omega) (fun j hj u hu => by
        rw [List.getElem?_map] at hu
        have hjP : j < P.length := by simpa using hj
        rw [List.getElem?_eq_getElem hjP] at hu
        rw [List.getElem_map]
        exact (Option.some.inj hu).symm))
      obtain ⟨A5, c5, h5⟩ := own_form HO.out
      subst h5
      go_wp2
      go_ret
      exact ⟨_, P, rfl, HP.out, RO.out, HM.out, HB.out⟩
end Go.Proofs.Ytcaonlddhbgnjaa.Mg
