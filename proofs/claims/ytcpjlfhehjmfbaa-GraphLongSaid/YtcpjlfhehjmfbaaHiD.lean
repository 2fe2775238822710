/- The heap's down: the first entry goes to its place. -/
import Derived.Test.YtcpjlfhehjmfbaaHiC
namespace Go.Proofs.Ytcpjlfhehjmfbaa.Hi
open Go.RowKit Go.Shelf Go.Proofs.Ytcpjlfhehjmfbaa.Sg Go.Proofs.Ytcpjlfhehjmfbaa.Hm
set_option linter.unusedVariables false
set_option linter.unusedSimpArgs false
theorem inner_HI {B : Nat} {O : Ord} (OK : O.OK B) {wo wi : World} {a b v : Value} {T : TypeId} {g : Nat} {es : List E} {came : Int} (h : HI (wo.alloc (.cells #[a, b] T)) B g O es came v) (hb : Below (wo.heap.size + 1) (wo.alloc (.cells #[a, b] T)) wi) : HI wi B g O es came v :=
  h.below OK (by rw [show (wo.alloc (.cells #[a, b] T)).heap.size = wo.heap.size + 1 from by simp]; exact hb)
set_option maxHeartbeats 2000000 in
set_option maxRecDepth 100000 in
theorem down_any {B : Nat} {O : Ord} (OK : O.OK B) (g : Nat) (es : List E) (came : Int) (v : Value) (w : World) (h : HI w B g O es came v) (hes : es.length < 1000000) (hp : 0 < es.length) :
    Calls Try.prog 23 #[.pointer (some ⟨g, 0, none⟩)] w fun e w' => e = .returned (.tuple #[]) ∧ HI w' B g O (dnF O.lt es 0) came v ∧ Kept w w' (fun k => v.ownBlock = some k) := by
  obtain ⟨b, cap, rfl, hbl, hbg⟩ := h.form hp
  have HH := Aside0.mk h
  clear h hbl
  go_enter Try.func23, Try.ntmps23
  go_wp2
  go_loopw [2] (fun s2 wr => ∃ (i : Nat) (cur : List E), s2 = .int .i64 (i : Int) ∧ Aside0 (i < cur.length ∧ cur.length = es.length) ∧ Aside0 (dnF O.lt cur i = dnF O.lt es 0) ∧ Aside0 (HI wr B g O cur came (.slice (some ⟨b, 0, none⟩) es.length cap) ∧ Kept w wr (fun k => b = k))) (fun s2 _ => es.length - (intOf s2).toNat)
  case atStart => exact ⟨0, es, rfl, ⟨hp, rfl⟩, ⟨rfl⟩, ⟨HH.out, Kept.refl _ _⟩⟩
  case round =>
    obtain ⟨i, cur, rfl, HL, HU, HS⟩ := hrel
    have hi1 : i < es.length := by have := HL.out.1; have := HL.out.2; omega
    obtain ⟨wo, rfl⟩ : ∃ wo : World, wo = wr := ⟨_, rfl⟩
    have HS' := Aside0.mk (HI.below OK HS.out.1 (below_alloc0 (Below.refl wo.heap.size wo) (.cells #[.int .i64 (2 * (i : Int) + 1), .int .i64 (2 * (i : Int) + 2)] 3)))
    have hgo := HS.out.1.lt
    clear hp
    go_wp2
    go_loopw [3, 15] (fun s3 s15 wi => ∃ t : Nat, Aside0 (t ≤ 2) ∧ s15 = .int .i64 (t : Int) ∧ s3 = .int .i64 ((pickT O.lt cur i t : Nat) : Int) ∧ Aside0 (Below (wo.heap.size + 1) (wo.alloc (.cells #[.int .i64 (2 * (i : Int) + 1), .int .i64 (2 * (i : Int) + 2)] 3)) wi)) (fun _ s15 _ => 2 - (intOf s15).toNat)
    case atStart => exact ⟨0, ⟨by omega⟩, rfl, rfl, ⟨Below.refl _ _⟩⟩
    case round =>
      obtain ⟨t, HT, rfl, rfl, HB⟩ := hrel
      have hcells := inner_cells HB.out
      have hI := inner_HI OK HS'.out HB.out
      obtain ⟨k0, k1, k2, f0, f1, f2⟩ := blk_facts hI.blk
      have HI' := Aside0.mk hI
      have hsz : wo.heap.size + 1 ≤ wr.heap.size := by have := HB.out.size; simpa using this
      have hl : cur.length = es.length := HL.out.2
      have hpl : ∀ t, pickT O.lt cur i t < cur.length := pickT_lt O.lt cur i HL.out.1
      have ht : t = 0 ∨ t = 1 ∨ t = 2 := by have := HT.out; omega
      have HKW := Aside0.mk (show Kept w wr (fun k => b = k) from HS.out.2.then_ (Kept.of_below ((below_alloc0 (Below.refl wo.heap.size wo) _).trans (HB.out.mono (by omega))) (fun _ => False)) (fun _ h => h.elim))
      clear HT
      rcases ht with rfl | rfl | rfl
      · obtain ⟨l, hle⟩ : ∃ l, pickT O.lt cur i 0 = l := ⟨_, rfl⟩
        have hll : l < es.length := by rw [← hle]; have := hpl 0; omega
        rw [hle]
        have HLE := Aside0.mk hle
        clear hle
        have hsucc : pickT O.lt cur i 1 = if 2 * i + 1 + 0 < cur.length ∧ bef O.lt (cur.getD (2 * i + 1 + 0) default) (cur.getD (pickT O.lt cur i 0) default) = true then 2 * i + 1 + 0 else pickT O.lt cur i 0 := rfl
        by_cases hk : 2 * i + 1 < es.length
        · by_cases hb : bef O.lt (cur.getD (2 * i + 1) default) (cur.getD l default) = true
          · have br := Aside0.mk (before_any OK g cur came _ (2 * (i : Int) + 1) (l : Int) true wr HI'.out (by omega) (by omega) (by omega) (by omega) (by rw [show (2 * (i : Int) + 1).toNat = 2 * i + 1 from by omega, show ((l : Int)).toNat = l from by omega]; exact hb))
            have HN := Aside0.mk (show pickT O.lt cur i 1 = 2 * i + 1 from by rw [hsucc, HLE.out]; rw [if_pos ⟨by omega, hb⟩])
            clear hsucc hb hpl
            go_wp2_with (first | (go_at_call 21; (with_reducible refine (br.out).mono ?_); rintro e w2 ⟨rfl, HB2⟩; have HB2' := Aside0.mk HB2; clear HB2))
            go_roundw
            case rel => exact ⟨1, ⟨by omega⟩, rfl, by rw [HN.out]; exact congrArg (Value.int .i64) (by omega), ⟨HB.out.trans (HB2'.out.mono hsz)⟩⟩
            case measure => simp [intOf]
          · have hb' : bef O.lt (cur.getD (2 * i + 1) default) (cur.getD l default) = false := by simpa using hb
            have br := Aside0.mk (before_any OK g cur came _ (2 * (i : Int) + 1) (l : Int) false wr HI'.out (by omega) (by omega) (by omega) (by omega) (by rw [show (2 * (i : Int) + 1).toNat = 2 * i + 1 from by omega, show ((l : Int)).toNat = l from by omega]; exact hb'))
            have HN := Aside0.mk (show pickT O.lt cur i 1 = l from by rw [hsucc, HLE.out]; rw [if_neg (fun h => hb h.2)])
            clear hsucc hb hb' hpl
            go_wp2_with (first | (go_at_call 21; (with_reducible refine (br.out).mono ?_); rintro e w2 ⟨rfl, HB2⟩; have HB2' := Aside0.mk HB2; clear HB2))
            go_roundw
            case rel => exact ⟨1, ⟨by omega⟩, rfl, by rw [HN.out], ⟨HB.out.trans (HB2'.out.mono hsz)⟩⟩
            case measure => simp [intOf]
        · have HN := Aside0.mk (show pickT O.lt cur i 1 = l from by rw [hsucc, HLE.out]; rw [if_neg (fun h => hk (by omega))])
          clear hsucc hpl
          go_wp2
          go_roundw
          case rel => exact ⟨1, ⟨by omega⟩, rfl, by rw [HN.out], HB⟩
          case measure => simp [intOf]
      · obtain ⟨l, hle⟩ : ∃ l, pickT O.lt cur i 1 = l := ⟨_, rfl⟩
        have hll : l < es.length := by rw [← hle]; have := hpl 1; omega
        rw [hle]
        have HLE := Aside0.mk hle
        clear hle
        have hsucc : pickT O.lt cur i 2 = if 2 * i + 1 + 1 < cur.length ∧ bef O.lt (cur.getD (2 * i + 1 + 1) default) (cur.getD (pickT O.lt cur i 1) default) = true then 2 * i + 1 + 1 else pickT O.lt cur i 1 := rfl
        by_cases hk : 2 * i + 2 < es.length
        · by_cases hb : bef O.lt (cur.getD (2 * i + 2) default) (cur.getD l default) = true
          · have br := Aside0.mk (before_any OK g cur came _ (2 * (i : Int) + 2) (l : Int) true wr HI'.out (by omega) (by omega) (by omega) (by omega) (by rw [show (2 * (i : Int) + 2).toNat = 2 * i + 2 from by omega, show ((l : Int)).toNat = l from by omega]; exact hb))
            have HN := Aside0.mk (show pickT O.lt cur i 2 = 2 * i + 2 from by rw [hsucc, HLE.out]; rw [if_pos ⟨by omega, hb⟩])
            clear hsucc hb hpl
            go_wp2_with (first | (go_at_call 21; (with_reducible refine (br.out).mono ?_); rintro e w2 ⟨rfl, HB2⟩; have HB2' := Aside0.mk HB2; clear HB2))
            go_roundw
            case rel => exact ⟨2, ⟨by omega⟩, rfl, by rw [HN.out]; exact congrArg (Value.int .i64) (by omega), ⟨HB.out.trans (HB2'.out.mono hsz)⟩⟩
            case measure => simp [intOf]
          · have hb' : bef O.lt (cur.getD (2 * i + 2) default) (cur.getD l default) = false := by simpa using hb
            have br := Aside0.mk (before_any OK g cur came _ (2 * (i : Int) + 2) (l : Int) false wr HI'.out (by omega) (by omega) (by omega) (by omega) (by rw [show (2 * (i : Int) + 2).toNat = 2 * i + 2 from by omega, show ((l : Int)).toNat = l from by omega]; exact hb'))
            have HN := Aside0.mk (show pickT O.lt cur i 2 = l from by rw [hsucc, HLE.out]; rw [if_neg (fun h => hb h.2)])
            clear hsucc hb hb' hpl
            go_wp2_with (first | (go_at_call 21; (with_reducible refine (br.out).mono ?_); rintro e w2 ⟨rfl, HB2⟩; have HB2' := Aside0.mk HB2; clear HB2))
            go_roundw
            case rel => exact ⟨2, ⟨by omega⟩, rfl, by rw [HN.out], ⟨HB.out.trans (HB2'.out.mono hsz)⟩⟩
            case measure => simp [intOf]
        · have HN := Aside0.mk (show pickT O.lt cur i 2 = l from by rw [hsucc, HLE.out]; rw [if_neg (fun h => hk (by omega))])
          clear hsucc hpl
          go_wp2
          go_roundw
          case rel => exact ⟨2, ⟨by omega⟩, rfl, by rw [HN.out], HB⟩
          case measure => simp [intOf]
      · obtain ⟨l, hle⟩ : ∃ l, pickT O.lt cur i 2 = l := ⟨_, rfl⟩
        have hll : l < es.length := by rw [← hle]; have := hpl 2; omega
        have hge : l = i ∨ i < l := by rw [← hle]; exact pickT_ge O.lt cur i 2
        rw [hle]
        have HLE := Aside0.mk hle
        clear hle hpl
        by_cases hq : l = i
        · have hq' : ((l : Int) == (i : Int)) = true := by rw [beq_iff_eq]; omega
          have HF := Aside0.mk (dnF_stop O.lt cur i (HLE.out.trans hq))
          clear hq
          go_wp2
          refine bodyPost_ret (results_none rfl _ _ _) rfl ?_
          exact ⟨rfl, by rw [← HU.out, HF.out]; exact HI'.out, HKW.out.mono (fun k hk => by rw [← hk]; rfl)⟩
        · have hlt : i < l := by omega
          have hq' : ((l : Int) == (i : Int)) = false := by rw [beq_eq_false_iff_ne]; omega
          have HF := Aside0.mk (dnF_step O.lt cur i HL.out.1 (fun h => hq (HLE.out.symm.trans h)))
          have sw := Aside0.mk (swap_any OK g cur came _ (i : Int) (l : Int) wr HI'.out (by omega) (by omega) (by omega) (by omega))
          clear hq
          go_wp2_with (first | (go_at_call 22; (with_reducible refine (sw.out).mono ?_); rintro e w3 ⟨rfl, HI3, HK3⟩; have HS3 := Aside0.mk HI3; have HK3' := Aside0.mk HK3; clear HI3 HK3))
          go_roundw
          case rel => exact ⟨l, swp cur i l, rfl, ⟨by rw [swp_length]; omega, by rw [swp_length]; omega⟩, ⟨by rw [← HU.out, HF.out, HLE.out]⟩,
            ⟨by have := HS3.out; rwa [show ((i : Int)).toNat = i from by omega, show ((l : Int)).toNat = l from by omega] at this, HKW.out.then_ HK3'.out (fun k hk => .inl (Option.some.inj hk))⟩⟩
          case measure => simp [intOf]; omega
end Go.Proofs.Ytcpjlfhehjmfbaa.Hi
