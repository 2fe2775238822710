/- The store: Set, and what it keeps; few acts. -/
import Derived.Test.YtcaonlddhbgnjaaSgSf
import Derived.Test.YtcaonlddhbgnjaaSgOp
namespace Go.Proofs.Ytcaonlddhbgnjaa.Mg
open Go.RowKit Go.Shelf Go.Proofs.Ytcaonlddhbgnjaa.Sg Go.Proofs.Ytcaonlddhbgnjaa.Hm Go.Proofs.Ytcaonlddhbgnjaa.Hc
attribute [local go_sem] Oper.semAt_some
set_option linter.unusedVariables false
set_option linter.unusedSimpArgs false

variable {B g W : Nat} {O : Nat → Prop} {most : Int} {v : Value} {P : Made} {dp : Option Addr} {D : List Row}
set_option maxHeartbeats 2000000 in
set_option maxRecDepth 100000 in
theorem sset_kept (w : World) (h : StoreS w B O g W most v P dp D) (fp dq : Option Addr) (F E : List Row) (hF : SegAt w (fun b => O b ∧ b ≠ g) (.pointer fp) W F) (hE : SegAt w (fun b => O b ∧ b ≠ g) (.pointer dq) W E) (hsF : SS F) (hsE : SS E) (hlF : F.length < 100000) :
    Calls Try.prog 61 #[.pointer (some ⟨g, 0, none⟩), .pointer fp, .pointer dq] w fun e w' => e = .returned (.tuple #[]) ∧ ∃ v', StoreS w' B O g W most v' (if F = [] then [] else [(fp, F)]) dq E ∧ Kept w w' (· = g) ∧ (∀ k, v'.ownBlock = some k → w.heap.size ≤ k) := by
  obtain ⟨k0, k1, k2, k3, k4, f2, f3, f4⟩ := blk5_facts h.blk
  have hgl := (Array.getElem?_eq_some_iff.1 h.blk).1
  have hBs : B ≤ w.heap.size := by have := h.base; omega
  obtain ⟨W3, hW3⟩ : ∃ W3, (((w.setCell ⟨g, 2, none⟩ (.slice none 0 0)).setCell ⟨g, 4, none⟩ (.int .i64 0)).setCell ⟨g, 3, none⟩ (.pointer dq)) = W3 := ⟨_, rfl⟩
  have hK3 : Kept w W3 (· = g) := by rw [← hW3]; exact (((Kept.refl w (· = g)).setCell (.inl rfl) _).setCell (.inl rfl) _).setCell (.inl rfl) _
  have hb3 : W3.heap[g]? = some (.cells #[.int .i64 W, .int .i64 most, .slice none 0 0, .pointer dq, .int .i64 0] 85 (0, 0)) := by
    rw [← hW3]; exact blk_set _ (blk_set _ (blk_set _ h.blk))
  have HF3 := Aside0.mk (hF.stays (hK3.stays.mono (fun b hb _ => hb.2)))
  have HE3 := Aside0.mk (hE.stays (hK3.stays.mono (fun b hb _ => hb.2)))
  have LN := Aside0.mk (len_any W3 _ _ _ _ HF3.out)
  have HW3 := Aside0.mk hW3
  have HK3 := Aside0.mk hK3
  have HB3 := Aside0.mk hb3
  have HST := Aside0.mk h
  obtain ⟨m0, m1, m2, m3, m4, n2, n3, n4⟩ := blk5_facts hb3
  clear hW3 hK3 hb3 hF hE
  by_cases he : F = []
  · subst he
    have HN := Aside0.mk (show StoreS W3 B O g W most (.slice none 0 0) [] dq E from ⟨HB3.out, World.ownsRow_nil _ _ _ _, ⟨fun q hq => by simp at hq, by simp⟩, HE3.out.mono (fun b hb _ => ⟨hb.1, by simp [Off, Value.ownBlock], hb.2⟩), h.base, by simp [Value.ownBlock], fun q hq => by simp at hq, hsE, h.wid, by simp, by simp [allR], by simp [allR]⟩)
    clear h
    go_enter Try.func61, Try.ntmps61
    go_wp2_with (first | (rw [HW3.out]; go_at_call 18; (with_reducible refine (LN.out).mono ?_); rintro e w' ⟨rfl, rfl⟩))
    go_end0
    exact ⟨rfl, ⟨_, by first | exact HN.out | (rw [if_pos rfl]; exact HN.out), HK3.out, fun k hk => by simp [Value.ownBlock] at hk⟩⟩
  · have hl0 : 0 < F.length := List.length_pos_iff.2 he
    have hl1 : (0 : Int) < (F.length : Int) := by omega
    obtain ⟨W4, hW4⟩ : ∃ W4, W3.alloc (.cells #[.pointer fp] 44) = W4 := ⟨_, rfl⟩
    have hb34 : Below W3.heap.size W3 W4 := by rw [← hW4]; exact below_alloc0 (Below.refl _ _) _
    have hown4 : W4.ownsRow B 44 1 (.slice (some ⟨W3.heap.size, 0, none⟩) 1 1) 1 [.pointer fp] := by rw [← hW4]; exact owns_one W3 B _ _ (Nat.le_trans hBs HK3.out.size)
    have hg3 : g < W3.heap.size := Nat.lt_of_lt_of_le hgl HK3.out.size
    have hb4 : W4.heap[g]? = some (.cells #[.int .i64 W, .int .i64 most, .slice none 0 0, .pointer dq, .int .i64 0] 85 (0, 0)) := (hb34.block g hg3).trans HB3.out
    have LN4 := Aside0.mk (len_any W4 _ _ _ _ (HF3.out.below hb34))
    obtain ⟨p0, p1, p2, p3, p4, q2, q3, q4⟩ := blk5_facts hb4
    have HW4 := Aside0.mk hW4
    have hK6 : Kept W4 ((W4.setCell ⟨g, 2, none⟩ (.slice (some ⟨W3.heap.size, 0, none⟩) 1 1)).setCell ⟨g, 4, none⟩ (.int .i64 F.length)) (· = g) := ((Kept.refl W4 (· = g)).setCell (.inl rfl) _).setCell (.inl rfl) _
    have hoff : ∀ b, (O b ∧ b ≠ g) → b < W3.heap.size → (O b ∧ b ≠ g) ∧ b < W3.heap.size := fun b hb hl => ⟨hb, hl⟩
    have hfin : ∀ b, ((O b ∧ b ≠ g) ∧ b < W3.heap.size) → O b ∧ Off (.slice (some ⟨W3.heap.size, 0, none⟩) 1 1) b ∧ b ≠ g := fun b hb => ⟨hb.1.1, fun e => by have := Option.some.inj e; simp at this; omega, hb.1.2⟩
    have hmv : ∀ (x : Value) (L : List Row), SegAt W3 (fun b => O b ∧ b ≠ g) x W L → SegAt ((W4.setCell ⟨g, 2, none⟩ (.slice (some ⟨W3.heap.size, 0, none⟩) 1 1)).setCell ⟨g, 4, none⟩ (.int .i64 F.length)) (fun b => O b ∧ Off (.slice (some ⟨W3.heap.size, 0, none⟩) 1 1) b ∧ b ≠ g) x W L := fun x L hx =>
      (((hx.mono hoff).below hb34).stays (hK6.stays.mono (fun b hb _ => hb.1.2))).mono (fun b hb _ => hfin b hb)
    have HN := Aside0.mk (show StoreS ((W4.setCell ⟨g, 2, none⟩ (.slice (some ⟨W3.heap.size, 0, none⟩) 1 1)).setCell ⟨g, 4, none⟩ (.int .i64 F.length)) B O g W most (.slice (some ⟨W3.heap.size, 0, none⟩) 1 1) [(fp, F)] dq E from
      ⟨by rw [show allR [(fp, F)] = F by simp [allR]]; exact blk_set _ (blk_set _ hb4), hK6.stays.owns hown4 (fun k hk e => by have := Option.some.inj hk; simp at this; omega), ⟨fun q hq => by rw [List.mem_singleton.1 hq]; exact hmv _ _ HF3.out, by simp⟩, hmv _ _ HE3.out, h.base, fun e => by have := Option.some.inj e; simp at this; omega, fun q hq => by rw [List.mem_singleton.1 hq]; exact hsF, hsE, h.wid, by simp, by simpa [allR] using hlF, by simpa [allR] using hsF.nodup⟩)
    have HB6 := Aside0.mk ((HK3.out.then_ (Kept.of_below hb34 (· = g)) (fun k hk => .inl hk)).then_ hK6 (fun k hk => .inl hk))
    have hs3 := HK3.out.size
    clear h hW4 hb34 hown4 hK6 hoff hfin hmv
    go_enter Try.func61, Try.ntmps61
    go_wp2_with (first | (rw [HW3.out]; go_at_call 18; (with_reducible refine (LN.out).mono ?_); rintro e w' ⟨rfl, rfl⟩) | (rw [HW4.out]; go_at_call 18; (with_reducible refine (LN4.out).mono ?_); rintro e w' ⟨rfl, rfl⟩))
    go_end0
    exact ⟨rfl, ⟨_, by first | exact HN.out | (rw [if_neg he]; exact HN.out), HB6.out, fun k hk => by have := Option.some.inj hk; simp at this; omega⟩⟩

abbrev ActsAt := SlP IntAt RowsAt
theorem reads_acts : Reads ActsAt := reads_slP reads_int reads_rows
def fewA (acts : List (Int × List Row)) : Bool := (acts.all fun a => few a.2) && decide (acts.length ≤ 12)
set_option maxHeartbeats 4000000 in
set_option maxRecDepth 100000 in
theorem few11_any (w : World) (ok : Nat → Prop) (v : Value) (acts : List (Int × List Row)) (h : ActsAt w ok v acts) : Calls Try.prog 34 #[v] w fun e w' => e = .returned (.bool (fewA acts)) ∧ Below w.heap.size w w' := by
  obtain ⟨A, c, hv, _⟩ := h.form
  subst hv
  have H := Aside0.mk h
  clear h
  go_enter Try.func34, Try.ntmps34
  go_wp2
  go_loopw [7] (fun s7 wr => ∃ i : Nat, s7 = .int .i64 i ∧ i ≤ acts.length ∧ Aside0 (∀ j (hj : j < acts.length), j < i → few acts[j].2 = true) ∧ Aside0 (Below w.heap.size w wr)) (fun s7 _ => acts.length - (intOf s7).toNat)
  case atStart => exact ⟨0, rfl, Nat.zero_le _, ⟨fun j hj h => absurd h (Nat.not_lt_zero _)⟩, ⟨Below.refl _ _⟩⟩
  case round =>
    obtain ⟨i, rfl, hi, HA, HB⟩ := hrel
    by_cases hlt : i < acts.length
    · obtain ⟨ba, oa, u1, u2, rfl, _, _, ha1, ha2, hu1, hu2⟩ := (reads_acts.stays H.out (Stays.of_below HB.out _)).at_ i hlt
      obtain ⟨hu1, _⟩ := hu1
      subst hu1
      obtain ⟨Ar, cr, hu2f, _⟩ := hu2.form
      subst hu2f
      obtain ⟨b, hb⟩ : ∃ b, few acts[i].2 = b := ⟨_, rfl⟩
      have HBF := Aside0.mk hb
      have FW := Aside0.mk (fun W (hW : Below wr.heap.size wr W) => few_b W _ _ acts[i].2 b (SlAt.below reads_row hu2 hW) hb)
      generalize acts[i].1 = kd at *
      obtain ⟨lr, hlr⟩ : ∃ lr, (acts[i].2).length = lr := ⟨_, rfl⟩
      rw [hlr] at FW ha2
      clear hu2 hb hlr
      cases b with
      | false =>
        have hres : fewA acts = false := by
          unfold fewA
          rw [Bool.and_eq_false_iff]
          left
          rw [List.all_eq_false]
          exact ⟨acts[i], List.getElem_mem hlt, by rw [HBF.out]; simp⟩
        have HRES := Aside0.mk hres
        clear hres
        go_wp2_with fail
        refine (FW.out _ (below_alloc0 (Below.refl _ _) _)).mono ?_
        rintro e w' ⟨rfl, rfl⟩
        go_wp2
        go_ret
        exact ⟨by rw [HRES.out]; rfl, below_alloc0 HB.out _⟩
      | true =>
        have HA2 := Aside0.mk (show ∀ j (hj : j < acts.length), j < i + 1 → few acts[j].2 = true from fun j hj hji => by
          by_cases e : j = i
          · subst e; exact HBF.out
          · exact HA.out j hj (by omega))
        go_wp2_with fail
        refine (FW.out _ (below_alloc0 (Below.refl _ _) _)).mono ?_
        rintro e w' ⟨rfl, rfl⟩
        go_wp2
        go_roundw
        case rel => exact ⟨i + 1, by go_num, by omega, HA2, ⟨below_alloc0 HB.out _⟩⟩
        case measure => simp [intOf]; omega
    · obtain rfl : i = acts.length := by omega
      have hall : (acts.all fun a => few a.2) = true := by
        rw [List.all_eq_true]
        intro a ha
        obtain ⟨j, hj, rfl⟩ := List.getElem_of_mem ha
        exact HA.out j hj hj
      have HRES := Aside0.mk (show fewA acts = decide (acts.length ≤ 12) by unfold fewA; rw [hall, Bool.true_and])
      clear hall
      by_cases h12 : acts.length ≤ 12
      · have h12i : (acts.length : Int) ≤ 12 := by omega
        go_wp2
        go_ret
        exact ⟨by rw [HRES.out, decide_eq_true h12]; simp [h12i], HB.out⟩
      · have h12i : ¬ (acts.length : Int) ≤ 12 := by omega
        go_wp2
        go_ret
        exact ⟨by rw [HRES.out, decide_eq_false h12]; simp [h12i], HB.out⟩
end Go.Proofs.Ytcaonlddhbgnjaa.Mg
