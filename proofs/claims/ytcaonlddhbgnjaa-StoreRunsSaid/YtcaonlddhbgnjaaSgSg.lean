/- Three stores beside each other. -/
import Derived.Test.YtcaonlddhbgnjaaSgSf
namespace Go.Proofs.Ytcaonlddhbgnjaa.Mg
open Go.RowKit Go.Shelf Go.Proofs.Ytcaonlddhbgnjaa.Sg Go.Proofs.Ytcaonlddhbgnjaa.Hm Go.Proofs.Ytcaonlddhbgnjaa.Hc
set_option linter.unusedVariables false
set_option linter.unusedSimpArgs false

/-- A store's own blocks. -/
abbrev Own (g : Nat) (v : Value) (b : Nat) : Prop := b = g ∨ v.ownBlock = some b
structure St where
  v : Value
  P : Made
  dp : Option Addr
  D : List Row
variable {B g W n : Nat} {O : Nat → Prop} {most : Int} {v : Value} {P : Made} {dp : Option Addr} {D : List Row}
theorem StoreS.ownLt {w : World} (h : StoreS w B O g W most v P dp D) {b : Nat} (hb : Own g v b) : B ≤ b ∧ b < w.heap.size := by
  rcases hb with rfl | hb
  · exact ⟨h.base, h.glt.1⟩
  · exact h.own.lt b hb
/-- Another store steps: this one stays. -/
theorem StoreS.other {w w' : World} {ga : Nat} {va va' : Value} {O' : Nat → Prop} (h : StoreS w B O g W most v P dp D) (hk : Kept w w' (Own ga va)) (hva : ∀ k, va'.ownBlock = some k → va.ownBlock = some k ∨ w.heap.size ≤ k) (hO : ∀ b, O b → ¬ Own ga va b) (hO' : ∀ b, O b → ¬ Own ga va' b → O' b) (hsep : ∀ b, Own g v b → ¬ Own ga va b) :
    StoreS w' B O' g W most v P dp D ∧ ∀ b, Own g v b → ¬ Own ga va' b := by
  have new : ∀ b, b < w.heap.size → ¬ Own ga va b → ¬ Own ga va' b := fun b hb hn h9 => h9.elim (fun e => hn (.inl e)) (fun e => (hva b e).elim (fun q => hn (.inr q)) (fun q => by omega))
  refine ⟨((h.mono (O2 := fun b => O b ∧ b < w.heap.size) (fun b hb hl => ⟨hb, hl⟩)).kept hk (fun b hb => hO b hb.1) (hsep g (.inl rfl)) (fun k hk => hsep k (.inr hk))).mono (fun b hb _ => hO' b hb.1 (new b hb.2 (hO b hb.1))), fun b hb => new b (h.ownLt hb).2 (hsep b hb)⟩
theorem seg_other {w w' : World} {ga n : Nat} {va va' x : Value} {L : List Row} {O O' : Nat → Prop} (h : SegAt w O x n L) (hk : Kept w w' (Own ga va)) (hva : ∀ k, va'.ownBlock = some k → va.ownBlock = some k ∨ w.heap.size ≤ k) (hO : ∀ b, O b → ¬ Own ga va b) (hO' : ∀ b, O b → ¬ Own ga va' b → O' b) : SegAt w' O' x n L :=
  ((h.mono (ok2 := fun b => O b ∧ b < w.heap.size) (fun b hb hl => ⟨hb, hl⟩)).stays (hk.stays.mono (fun b hb _ => hO b hb.1))).mono (fun b hb _ => hO' b hb.1 (fun h9 => h9.elim (fun e => hO b hb.1 (.inl e)) (fun e => (hva b e).elim (fun q => hO b hb.1 (.inr q)) (fun q => by have := hb.2; omega))))
theorem StoreS.lower {w : World} {B' : Nat} (h : StoreS w B O g W most v P dp D) (hB : B' ≤ B) : StoreS w B' O g W most v P dp D :=
  ⟨h.blk, ⟨h.own.1, h.own.2.imp id (fun ⟨b, cap, cur, h1, h2, h3⟩ => ⟨b, cap, cur, h1, Nat.le_trans hB h2, h3⟩)⟩, h.made, h.del, Nat.le_trans hB h.base, h.nown, h.ss, h.ssD, h.wid, h.few, h.tot, h.nd⟩
structure Tri (w : World) (B n : Nat) (ka kb kc : Int) (ga gb gc : Nat) (a b c : St) : Prop where
  sa : StoreS w B (fun y => ¬ Own gb b.v y ∧ ¬ Own gc c.v y) ga n ka a.v a.P a.dp a.D
  sb : StoreS w B (fun y => ¬ Own ga a.v y ∧ ¬ Own gc c.v y) gb n kb b.v b.P b.dp b.D
  sc : StoreS w B (fun y => ¬ Own ga a.v y ∧ ¬ Own gb b.v y) gc n kc c.v c.P c.dp c.D
  ab : ∀ y, Own ga a.v y → ¬ Own gb b.v y
  ac : ∀ y, Own ga a.v y → ¬ Own gc c.v y
  bc : ∀ y, Own gb b.v y → ¬ Own gc c.v y
variable {ka kb kc : Int} {ga gb gc gx : Nat} {a b c : St} {F L : List Row}
theorem Tri.below {w w' : World} (T : Tri w B n ka kb kc ga gb gc a b c) (h : Below w.heap.size w w') : Tri w' B n ka kb kc ga gb gc a b c := ⟨T.sa.below h, T.sb.below h, T.sc.below h, T.ab, T.ac, T.bc⟩
theorem Tri.swap {w : World} (T : Tri w B n ka kb kc ga gb gc a b c) : Tri w B n kb ka kc gb ga gc b a c :=
  ⟨T.sb, T.sa, T.sc.mono (fun y h _ => ⟨h.2, h.1⟩), fun y h1 h2 => T.ab y h2 h1, T.bc, T.ac⟩
theorem Tri.turn {w : World} (T : Tri w B n ka kb kc ga gb gc a b c) : Tri w B n kc kb ka gc gb ga c b a :=
  ⟨T.sc.mono (fun y h _ => ⟨h.2, h.1⟩), T.sb.mono (fun y h _ => ⟨h.2, h.1⟩), T.sa.mono (fun y h _ => ⟨h.2, h.1⟩), fun y h1 h2 => T.bc y h2 h1, fun y h1 h2 => T.ac y h2 h1, fun y h1 h2 => T.ab y h2 h1⟩
/-- A set beside the three. -/
abbrev Off3 (ga gb gc : Nat) (a b c : St) (y : Nat) : Prop := ¬ Own ga a.v y ∧ ¬ Own gb b.v y ∧ ¬ Own gc c.v y
theorem Tri.fresh {w : World} (T : Tri w B n ka kb kc ga gb gc a b c) {y : Nat} (h : w.heap.size ≤ y) : Off3 ga gb gc a b c y :=
  ⟨fun h1 => by have := (T.sa.ownLt h1).2; omega, fun h1 => by have := (T.sb.ownLt h1).2; omega, fun h1 => by have := (T.sc.ownLt h1).2; omega⟩
theorem Tri.step {w w' : World} {a' : St} (T : Tri w B n ka kb kc ga gb gc a b c) (X : SegAt w (Off3 ga gb gc a b c) (.pointer (some ⟨gx, 0, none⟩)) n L) (S : StoreS w' B (fun y => ¬ Own gb b.v y ∧ ¬ Own gc c.v y) ga n ka a'.v a'.P a'.dp a'.D) (K : Kept w w' (Own ga a.v)) (V : ∀ k, a'.v.ownBlock = some k → a.v.ownBlock = some k ∨ w.heap.size ≤ k) :
    Tri w' B n ka kb kc ga gb gc a' b c ∧ SegAt w' (Off3 ga gb gc a' b c) (.pointer (some ⟨gx, 0, none⟩)) n L := by
  obtain ⟨h1, h2⟩ := T.sb.other (O' := fun y => ¬ Own ga a'.v y ∧ ¬ Own gc c.v y) K V (fun y h => h.1) (fun y h h9 => ⟨h9, h.2⟩) (fun y h1 h2 => T.ab y h2 h1)
  obtain ⟨h3, h4⟩ := T.sc.other (O' := fun y => ¬ Own ga a'.v y ∧ ¬ Own gb b.v y) K V (fun y h => h.1) (fun y h h9 => ⟨h9, h.2⟩) (fun y h1 h2 => T.ac y h2 h1)
  exact ⟨⟨S, h1, h3, fun y q1 q2 => h2 y q2 q1, fun y q1 q2 => h4 y q2 q1, T.bc⟩, seg_other X K V (fun y h => h.1) (fun y h h9 => ⟨h9, h.2⟩)⟩
theorem Tri.stepA {w : World} (T : Tri w B n ka kb kc ga gb gc a b c) (X : SegAt w (Off3 ga gb gc a b c) (.pointer (some ⟨gx, 0, none⟩)) n L) (hF : fullS n a.P = F) (hs : SS L) (hw : ∀ r ∈ L, r.length = n) (hl : L.length ≤ 60) (hp : a.P.length + 1 < 1000) (ht : F.length + L.length < 100000) :
    Calls Try.prog 25 #[.pointer (some ⟨ga, 0, none⟩), .pointer (some ⟨gx, 0, none⟩)] w fun e w' => ∃ a' : St, e = .returned (.int .i64 (picked F false L).length) ∧ Tri w' B n ka kb kc ga gb gc a' b c ∧ SegAt w' (Off3 ga gb gc a' b c) (.pointer (some ⟨gx, 0, none⟩)) n L ∧ fullS n a'.P = norm n (F ++ picked F false L) ∧ a'.D = picked F false L ∧ a'.P.length ≤ a.P.length + 1 ∧ Below B w w' := by
  have hc := come_eq n a.P L F hs hw (fun r => by rw [← hF]; exact T.sa.mem_full r)
  have hfl := T.sa.full_len
  rw [hF] at hfl
  refine (sstep_any w _ _ _ _ T.sa X.n (by omega) (fun y hy => (T.fresh hy).2) hp (by omega)).mono ?_
  rintro e w' ⟨v', P', dp', rfl, S, Q, K, V⟩
  have hfs := full_step T.sa S Q
  rw [hc] at S Q hfs
  rw [hF] at hfs
  obtain ⟨h1, h2⟩ := T.step (a' := ⟨v', P', dp', picked F false L⟩) X S K V
  exact ⟨⟨v', P', dp', picked F false L⟩, by rw [hc], h1, h2, hfs.symm, rfl, by rw [Q.cnt]; unfold runsN; split <;> split <;> omega, T.sa.frame K⟩
theorem Tri.stepB {w : World} (T : Tri w B n ka kb kc ga gb gc a b c) (X : SegAt w (Off3 ga gb gc a b c) (.pointer (some ⟨gx, 0, none⟩)) n L) (hF : fullS n b.P = F) (hs : SS L) (hw : ∀ r ∈ L, r.length = n) (hl : L.length ≤ 60) (hp : b.P.length + 1 < 1000) (ht : F.length + L.length < 100000) :
    Calls Try.prog 25 #[.pointer (some ⟨gb, 0, none⟩), .pointer (some ⟨gx, 0, none⟩)] w fun e w' => ∃ b' : St, e = .returned (.int .i64 (picked F false L).length) ∧ Tri w' B n ka kb kc ga gb gc a b' c ∧ SegAt w' (Off3 ga gb gc a b' c) (.pointer (some ⟨gx, 0, none⟩)) n L ∧ fullS n b'.P = norm n (F ++ picked F false L) ∧ b'.D = picked F false L ∧ b'.P.length ≤ b.P.length + 1 ∧ Below B w w' :=
  (T.swap.stepA (X.mono (fun y h _ => ⟨h.2.1, h.1, h.2.2⟩)) hF hs hw hl hp ht).mono fun e w' ⟨b', h1, h2, h3, h4⟩ => ⟨b', h1, h2.swap, h3.mono (fun y h _ => ⟨h.2.1, h.1, h.2.2⟩), h4⟩
theorem Tri.stepC {w : World} (T : Tri w B n ka kb kc ga gb gc a b c) (X : SegAt w (Off3 ga gb gc a b c) (.pointer (some ⟨gx, 0, none⟩)) n L) (hF : fullS n c.P = F) (hs : SS L) (hw : ∀ r ∈ L, r.length = n) (hl : L.length ≤ 60) (hp : c.P.length + 1 < 1000) (ht : F.length + L.length < 100000) :
    Calls Try.prog 25 #[.pointer (some ⟨gc, 0, none⟩), .pointer (some ⟨gx, 0, none⟩)] w fun e w' => ∃ c' : St, e = .returned (.int .i64 (picked F false L).length) ∧ Tri w' B n ka kb kc ga gb gc a b c' ∧ SegAt w' (Off3 ga gb gc a b c') (.pointer (some ⟨gx, 0, none⟩)) n L ∧ fullS n c'.P = norm n (F ++ picked F false L) ∧ c'.D = picked F false L ∧ c'.P.length ≤ c.P.length + 1 ∧ Below B w w' :=
  (T.turn.stepA (X.mono (fun y h _ => ⟨h.2.2, h.2.1, h.1⟩)) hF hs hw hl hp ht).mono fun e w' ⟨b', h1, h2, h3, h4⟩ => ⟨b', h1, h2.turn, h3.mono (fun y h _ => ⟨h.2.2, h.2.1, h.1⟩), h4⟩
theorem Tri.compC {w : World} (T : Tri w B n ka kb kc ga gb gc a b c) (X : SegAt w (Off3 ga gb gc a b c) (.pointer (some ⟨gx, 0, none⟩)) n L) :
    Calls Try.prog 26 #[.pointer (some ⟨gc, 0, none⟩)] w fun e w' => e = .returned (.tuple #[]) ∧ ∃ c' : St, Tri w' B n ka kb kc ga gb gc a b c' ∧ fullS n c'.P = fullS n c.P ∧ c'.D = c.D ∧ c'.P.length ≤ 1 ∧ Below B w w' := by
  have T2 := T.turn
  refine (scompact_any w T2.sa (fun y hy => (T2.fresh hy).2)).mono ?_
  rintro e w' ⟨rfl, v', P', S, C, K, V⟩
  have K2 : Kept w w' (Own gc c.v) := K.mono (fun k hk => .inl hk)
  obtain ⟨h1, h2⟩ := T2.step (a' := ⟨v', P', c.dp, c.D⟩) (X.mono (fun y h _ => ⟨h.2.2, h.2.1, h.1⟩)) S K2 (fun k hk => V.elim (fun e => .inl (by rw [← e]; exact hk)) (fun ⟨j, e1, e2⟩ => by rw [e1] at hk; exact .inr (by have := Option.some.inj hk; omega)))
  refine ⟨rfl, ⟨v', P', c.dp, c.D⟩, h1.turn, ?_, rfl, ?_, T2.sa.frame K2⟩
  · show fullS n P' = fullS n c.P
    by_cases hp : c.P.length ≤ 1
    · rw [C.1 hp]
    · obtain ⟨p, hp⟩ := C.2 (by omega)
      refine SS.ext (SS_norm _ _) (SS_norm _ _) (fun r => ?_)
      rw [S.mem_full, hp]
      simp [allR]
  · show P'.length ≤ 1
    by_cases hp : c.P.length ≤ 1
    · rw [C.1 hp]; exact hp
    · obtain ⟨p, hp⟩ := C.2 (by omega)
      rw [hp]; simp
theorem Tri.new {w wa wb w' : World} {da db dc : Option Addr} (B : Nat) (ha : StoreS wa w.heap.size (w.heap.size ≤ ·) ga n ka (.slice none 0 0) [] da []) (hba : Below w.heap.size w wa) (hb : StoreS wb wa.heap.size (wa.heap.size ≤ ·) gb n kb (.slice none 0 0) [] db []) (hbb : Below wa.heap.size wa wb)
    (hc : StoreS w' wb.heap.size (wb.heap.size ≤ ·) gc n kc (.slice none 0 0) [] dc []) (hbc : Below wb.heap.size wb w') (hB : B ≤ w.heap.size) :
    Tri w' B n ka kb kc ga gb gc ⟨.slice none 0 0, [], da, []⟩ ⟨.slice none 0 0, [], db, []⟩ ⟨.slice none 0 0, [], dc, []⟩ := by
  have g1 := ha.glt.1
  have g2 := hb.glt.1
  have b2 := hb.base
  have b3 := hc.base
  have no : ∀ g y, Own g (.slice none 0 0) y → y = g := fun g y h => h.elim id (fun e => by simp [Value.ownBlock] at e)
  have s1 := hba.size
  have s2 := hbb.size
  have hca := below_trans0 hbb hbc
  refine ⟨((ha.lower hB).mono (fun y h hl => ⟨fun e => by have := no _ _ e; omega, fun e => by have := no _ _ e; omega⟩)).below hca, ((hb.lower (by omega)).mono (fun y h hl => ⟨fun e => ?_, fun e => by have := no _ _ e; omega⟩)).below hbc, (hc.lower (by omega)).mono (fun y h hl => ⟨fun e => ?_, fun e => ?_⟩), fun y e1 e2 => by have := no _ _ e1; have := no _ _ e2; omega, fun y e1 e2 => by have := no _ _ e1; have := no _ _ e2; omega, fun y e1 e2 => by have := no _ _ e1; have := no _ _ e2; omega⟩
  all_goals
    have h8 := no _ _ e
    have h9 := h
    try dsimp only at h9
    omega
end Go.Proofs.Ytcaonlddhbgnjaa.Mg
