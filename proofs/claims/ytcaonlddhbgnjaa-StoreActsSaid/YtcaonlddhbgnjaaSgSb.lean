/- The store: Full, Compact. -/
import Derived.Test.YtcaonlddhbgnjaaSgSa
namespace Go.Proofs.Ytcaonlddhbgnjaa.Mg
open Go.RowKit Go.Shelf Go.Proofs.Ytcaonlddhbgnjaa.Sg Go.Proofs.Ytcaonlddhbgnjaa.Hm Go.Proofs.Ytcaonlddhbgnjaa.Hc
attribute [local go_sem] Oper.semAt_some
set_option linter.unusedVariables false
set_option linter.unusedSimpArgs false

variable {B g W : Nat} {O : Nat → Prop} {most : Int} {v : Value} {P : Made} {dp : Option Addr} {D : List Row}
theorem StoreS.mall {w : World} (h : StoreS w B O g W most v P dp D) : Calls Try.prog 55 #[.int .i64 W, v] w fun e w' => ∃ v', e = .returned v' ∧ SegAt w' (w.heap.size ≤ ·) v' W (fullS W P) ∧ Below w.heap.size w w' := by
  have h9 := mall_any w _ v (P.map (·.1)) (lookOf P) W h.wid h.ps (h.made.inv (Nat.le_refl _)) (fun p hp => by obtain ⟨q, hq, rfl⟩ := List.mem_map.1 hp; rw [lookOf_mem h.made.nd hq]; exact h.ss q hq) (by rw [h.flat]; have := h.tot; omega) (by have := h.few; simp; omega)
  rw [h.flat] at h9
  exact h9
set_option maxHeartbeats 2000000 in
set_option maxRecDepth 100000 in
theorem sfull_any (w : World) (h : StoreS w B O g W most v P dp D) : Calls Try.prog 27 #[.pointer (some ⟨g, 0, none⟩)] w fun e w' => ∃ v', e = .returned v' ∧ SegAt w' (w.heap.size ≤ ·) v' W (fullS W P) ∧ Below w.heap.size w w' := by
  obtain ⟨k0, k1, k2, k3, k4, _, _, _⟩ := blk5_facts h.blk
  obtain ⟨A, c, hv⟩ := own_form h.own
  subst hv
  have MA := Aside0.mk (h.below (below_drew (Below.refl _ _))).mall
  clear h
  go_enter Try.func27, Try.ntmps27
  go_wp2
  go_region_held3 (fun w' => w'.cell? ⟨g, 0, none⟩ = some (.int .i64 W) ∧ w'.cell? ⟨g, 2, none⟩ = some (.slice A P.length c)) (first | exact ⟨k0, k2⟩ | go_keep) (((with_reducible refine (MA.out).mono ?_); rintro e w4 ⟨v4, rfl, S4, B4⟩; have S4 := Aside0.mk S4; have HB4 := Aside0.mk ((below_drew (Below.refl _ _)).trans B4); have c0 := below_cell0 B4 (b := g) (o := 0) (v := .int .i64 W) (by simp [k0]); have c2 := below_cell0 B4 (b := g) (o := 2) (v := .slice A P.length c) (by simp [k2]); clear B4))
  all_goals
    obtain ⟨g4, cv4, hv4, _⟩ := S4.out.ex
    subst hv4
    go_wp2
    go_ret
    exact ⟨_, rfl, S4.out, HB4.out⟩
theorem StoreS.width {w : World} (h : StoreS w B O g W most v P dp D) : ∀ r ∈ allR P, r.length = W := fun r hr => by
  obtain ⟨l, hl, h1⟩ := List.mem_flatten.1 hr
  obtain ⟨q, hq, rfl⟩ := List.mem_map.1 hl
  exact ((h.made.seg q hq).row r h1).1
theorem StoreS.mem_full {w : World} (h : StoreS w B O g W most v P dp D) (r : Row) : r ∈ fullS W P ↔ r ∈ allR P := by
  unfold fullS
  rw [mem_norm]
  exact ⟨fun h => h.1, fun h1 => ⟨h1, h.width r h1⟩⟩
theorem StoreS.full_len {w : World} (h : StoreS w B O g W most v P dp D) : (fullS W P).length = (allR P).length :=
  ((List.perm_ext_iff_of_nodup (SS_norm W (allR P)).nodup h.nd).2 (fun r => h.mem_full r)).length_eq
/-- All runs become one. -/
theorem StoreS.one {w w4 : World} {fp : Option Addr} {F : List Row} (h : StoreS w B O g W most v P dp D) (hO : ∀ b, w.heap.size ≤ b → O b) (hb : Below w.heap.size w w4) (hs : SegAt w4 (w.heap.size ≤ ·) (.pointer fp) W F) (hF : SS F) (hl : F.length = (allR P).length) :
    StoreS ((w4.alloc (.cells #[.pointer fp] 44)).setCell ⟨g, 2, none⟩ (.slice (some ⟨w4.heap.size, 0, none⟩) 1 1)) B O g W most (.slice (some ⟨w4.heap.size, 0, none⟩) 1 1) [(fp, F)] dp D ∧ Kept w ((w4.alloc (.cells #[.pointer fp] 44)).setCell ⟨g, 2, none⟩ (.slice (some ⟨w4.heap.size, 0, none⟩) 1 1)) (· = g) := by
  have h4 := h.below hb
  have hgl := (Array.getElem?_eq_some_iff.1 h.blk).1
  have hgl4 := (Array.getElem?_eq_some_iff.1 h4.blk).1
  have hbase := h.base
  have hB4 : B ≤ w4.heap.size := by omega
  obtain ⟨W5, hW5⟩ : ∃ W5, w4.alloc (.cells #[.pointer fp] 44) = W5 := ⟨_, rfl⟩
  have hb5 : Below w4.heap.size w4 W5 := by rw [← hW5]; exact below_alloc0 (Below.refl _ _) _
  have hown : W5.ownsRow B 44 1 (.slice (some ⟨w4.heap.size, 0, none⟩) 1 1) 1 [.pointer fp] := by rw [← hW5]; exact owns_one w4 B _ _ hB4
  rw [hW5]
  have hK : Kept W5 (W5.setCell ⟨g, 2, none⟩ (.slice (some ⟨w4.heap.size, 0, none⟩) 1 1)) (· = g) := (Kept.refl W5 (· = g)).setCell (.inl rfl) _
  have hfin : ∀ b, ((O b ∧ b ≠ g) ∧ b < w4.heap.size) → O b ∧ Off (.slice (some ⟨w4.heap.size, 0, none⟩) 1 1) b ∧ b ≠ g := fun b hb => ⟨hb.1.1, fun e => by have := Option.some.inj e; simp at this; omega, hb.1.2⟩
  have hmv : ∀ (x : Value) (L : List Row), SegAt w4 (fun b => (O b ∧ b ≠ g) ∧ b < w4.heap.size) x W L → SegAt (W5.setCell ⟨g, 2, none⟩ (.slice (some ⟨w4.heap.size, 0, none⟩) 1 1)) (fun b => O b ∧ Off (.slice (some ⟨w4.heap.size, 0, none⟩) 1 1) b ∧ b ≠ g) x W L := fun x L hx =>
    ((hx.below hb5).stays (hK.stays.mono (fun b hb _ => hb.1.2))).mono (fun b hb _ => hfin b hb)
  refine ⟨⟨?_, hK.stays.owns hown (fun k hk e => by have := Option.some.inj hk; simp at this; omega), ⟨fun q hq => by rw [List.mem_singleton.1 hq]; exact hmv _ _ (hs.mono (fun b hb hl => ⟨⟨hO b hb, by have : w.heap.size ≤ b := hb; omega⟩, hl⟩)), by simp⟩, hmv _ _ (h4.del.mono (fun b hb hl => ⟨⟨hb.1, hb.2.2⟩, hl⟩)), hbase, fun e => by have := Option.some.inj e; simp at this; omega, fun q hq => by rw [List.mem_singleton.1 hq]; exact hF, h.ssD, h.wid, by simp, by rw [show allR [(fp, F)] = F by simp [allR], hl]; exact h.tot, by rw [show allR [(fp, F)] = F by simp [allR]]; exact hF.nodup⟩, ?_⟩
  · rw [show allR [(fp, F)] = F by simp [allR], hl]
    exact blk_set _ ((hb5.block g hgl4).trans h4.blk)
  · exact ((Kept.of_below hb (· = g)).then_ (Kept.of_below hb5 (· = g)) (fun k hk => .inl hk)).then_ hK (fun k hk => .inl hk)
def Compacted (W : Nat) (P P' : Made) : Prop := (P.length ≤ 1 → P' = P) ∧ (1 < P.length → ∃ p, P' = [(p, fullS W P)])
set_option maxHeartbeats 2000000 in
set_option maxRecDepth 100000 in
theorem scompact_any (w : World) (h : StoreS w B O g W most v P dp D) (hO : ∀ b, w.heap.size ≤ b → O b) : Calls Try.prog 26 #[.pointer (some ⟨g, 0, none⟩)] w fun e w' => e = .returned (.tuple #[]) ∧ ∃ v' P', StoreS w' B O g W most v' P' dp D ∧ Compacted W P P' ∧ Kept w w' (· = g) ∧ (v'.ownBlock = v.ownBlock ∨ ∃ k, v'.ownBlock = some k ∧ w.heap.size ≤ k) := by
  obtain ⟨k0, k1, k2, k3, k4, f2, _, _⟩ := blk5_facts h.blk
  have hgl := (Array.getElem?_eq_some_iff.1 h.blk).1
  obtain ⟨A, c, hv⟩ := own_form h.own
  subst hv
  have HS := Aside0.mk h
  have FU := Aside0.mk (sfull_any w h)
  have hfew := h.few
  clear h
  by_cases hp : 1 < P.length
  · have hpi : (1 : Int) < (P.length : Int) := by omega
    go_enter Try.func26, Try.ntmps26
    go_wp2_with fail
    refine (FU.out).mono ?_
    rintro e w4 ⟨v4, rfl, S4, B4⟩
    obtain ⟨gf, rfl, _, _⟩ := SegAt.ptrLt S4
    have HO := Aside0.mk (HS.out.one hO B4 S4 (SS_norm W _) HS.out.full_len)
    obtain ⟨m0, m1, m2, m3, m4, n2, _, _⟩ := blk5_facts (HS.out.below B4).blk
    have hb5 := below_alloc0 (Below.refl w4.heap.size w4) (.cells #[.pointer (some ⟨gf, 0, none⟩)] 44)
    have hgl4 := (Array.getElem?_eq_some_iff.1 (HS.out.below B4).blk).1
    obtain ⟨p0, p1, p2, p3, p4, q2, _, _⟩ := blk5_facts ((hb5.block g hgl4).trans (HS.out.below B4).blk)
    have HB4 := Aside0.mk B4
    clear S4 B4 hb5 FU
    go_wp2
    go_end0
    have hcm : ((w4.setCell ⟨g, 2, none⟩ (.slice (some ⟨w4.heap.size, 0, none⟩) 1 1)).alloc (.cells #[.pointer (some ⟨gf, 0, none⟩)] 44)) = ((w4.alloc (.cells #[.pointer (some ⟨gf, 0, none⟩)] 44)).setCell ⟨g, 2, none⟩ (.slice (some ⟨w4.heap.size, 0, none⟩) 1 1)) := (World.setCell_alloc_past _ g 2 _ hgl4).symm
    rw [hcm]
    exact ⟨rfl, _, _, HO.out.1, ⟨fun h => by omega, fun _ => ⟨_, rfl⟩⟩, HO.out.2, .inr ⟨_, rfl, HB4.out.size⟩⟩
  · have hpi : ¬ (1 : Int) < (P.length : Int) := by omega
    go_enter Try.func26, Try.ntmps26
    go_wp2
    go_end0
    exact ⟨rfl, _, P, HS.out, ⟨fun _ => rfl, fun h => absurd h hp⟩, Kept.refl _ _, .inl rfl⟩
end Go.Proofs.Ytcaonlddhbgnjaa.Mg
