/- Contract: best.name. -/
import Derived.Test.YtalbgdbphdhhaaaSgBa
namespace Go.Proofs.Ytalbgdbphdhhaaa.Sg
open Go.RowKit Go.Shelf
set_option linter.unusedVariables false
set_option linter.unusedSimpArgs false

theorem make_bytes (n : Nat) (hn : n ≤ 10000000) (w : World) :
    (Instr.makeSlice 80 (.int .i64 0) (.int .i64 (n : Int))).run Try.prog w = .ok (.slice (some ⟨w.heap.size, 0, none⟩) 0 n) (w.alloc (.cells (madeCells #[.int .u8 0] n) 5)) := by
  obtain ⟨i, hi, hz, hs, hb⟩ := info_parts info_u8
  have hb' : (i.bytes : Int) * (n : Int) ≤ 281474976710656 := by
    have h : ((i.bytes * n : Nat) : Int) ≤ 281474976710656 := by rw [hb]; omega
    rwa [Int.natCast_mul] at h
  have hr := run_make (P := Try.prog) w 80 5 i _ Try.underlying80 hi hz .i64 .i64 (0 : Nat) n (by omega) (by omega) hb' (by omega)
  simp only [Int.toNat_natCast, hs] at hr
  simpa [Value.cells] using hr
theorem owns_capB (w : World) (B e n : Nat) (z : Value) (hb : B ≤ w.heap.size) (hn : n ≤ 10000000) : (w.alloc (.cells (madeCells #[z] n) e)).ownsRow B e 1 (.slice (some ⟨w.heap.size, 0, none⟩) 0 n) 0 [] :=
  ⟨rfl, .inr ⟨w.heap.size, n, _, rfl, hb, heap_alloc_new w _, Nat.zero_le _, by unfold maxLen; omega, by simp [madeCells], by simp⟩⟩

set_option maxHeartbeats 4000000 in
set_option maxRecDepth 100000 in
theorem name_any (w : World) (ok : Nat → Prop) (v : Value) (key : Row) (h : RowAt w ok v key) (hl : key.length < 1000000) :
    Calls Try.prog 34 #[v] w fun e w' => e = .returned (.string (nameB key)) ∧ Below w.heap.size w w' := by
  obtain ⟨A, c, rfl, hc, hm, _⟩ := h.form
  obtain ⟨iw, hiw, hw0, hw1, hw2⟩ := info_parts info_u8
  have H := Aside0.mk h
  have hmk := make_bytes (8 * key.length) (by omega)
  rw [Int.natCast_mul] at hmk
  simp only [Int.cast_ofNat_Int] at hmk
  have ST := Aside0.mk (owns_capB w w.heap.size 5 (8 * key.length) (.int .u8 0) (Nat.le_refl _) (by omega))
  have NU := Aside0.mk (fun i k (h : i ≤ key.length) => nameUp_length key i k h)
  clear h
  go_enter Try.func34, Try.ntmps34
  go_wp2
  go_loopw [3, 13] (fun s3 s13 wr => ∃ i : Nat, s13 = .int .i64 i ∧ i ≤ key.length ∧ Aside0 (wr.ownsRow w.heap.size 5 1 s3 (nameUp key i 0).length ((nameUp key i 0).map (Value.int .u8))) ∧ Aside0 (Below w.heap.size w wr)) (fun _ s13 _ => key.length - (intOf s13).toNat)
  case atStart => exact ⟨0, rfl, Nat.zero_le _, ⟨by rw [nameUp_zero]; exact ST.out⟩, ⟨below_alloc0 (Below.refl _ _) _⟩⟩
  case round =>
    obtain ⟨i, rfl, hi, HO, HB⟩ := hrel
    clear ST
    by_cases hlt : i < key.length
    · obtain ⟨b, o, u, rfl, _, _, hc0, rfl, hin⟩ := (H.out.below reads_int HB.out).at_ i hlt
      have hgd : key.getD i 0 = key[i] := by simp [hlt]
      have N8 := Aside0.mk (nameUp_eight key i hlt)
      have NS := Aside0.mk (fun k => nameUp_succ key i k)
      rw [hgd] at NS
      generalize key[i] = z at *
      have hbo := HB.out.size
      clear hgd
      go_wp2_with fail
      go_loopw [3, 17] (fun s3 s17 wr => ∃ k : Nat, s17 = .int .i64 k ∧ k ≤ 8 ∧ Aside0 (wr.ownsRow w.heap.size 5 1 s3 (nameUp key i k).length ((nameUp key i k).map (Value.int .u8))) ∧ Aside0 (Below w.heap.size w wr)) (fun _ s17 _ => 8 - (intOf s17).toNat)
      case atStart => exact ⟨0, rfl, by omega, HO, HB⟩
      case round =>
        obtain ⟨k, rfl, hk, HOi, HBi⟩ := hrel
        by_cases hk8 : k < 8
        · have hl9 := NU.out i k (by omega)
          have h63 := Aside0.mk (show (nameUp key i k).length + 1 ≤ maxLen by unfold maxLen; omega)
          have hby := Aside0.mk (show ((nameUp key i k).length + 1) * 1 ≤ 140737488355328 by omega)
          have hbs := HBi.out.size
          have hsz := Aside0.mk (fun o => (show w.heap.size ≤ (wr.alloc o).heap.size by simp; omega))
          have NSk := Aside0.mk (NS.out k)
          clear hc0 hl9
          have E1 := Aside0.mk (show IntKind.u64.wrap z / 2 ^ (8 * k) % 256 = byteOf z k by unfold byteOf; rw [IntKind.wrap_u64, Int.natCast_pow]; rfl)
          go_wp2_with (at_builtin; refine wpList_append_own_at _ rfl (.tmp 20) (.tmp 27) 80 rfl w.heap.size 5 iw (.int .u8 0) 1 1 Try.underlying80 hiw hw0 hw1 hw2 rfl (by decide) _ _ _ rfl (HOi.out.alloc _) ⟨wr.heap.size, 0, none⟩ 1 1 [Value.int .u8 _] rfl rfl (cell_one_new _ _ _) (by simp [Value.oneCell']) h63.out hby.out (hsz.out _) ?_; intro v1 w10 ho hg _ hb; have O1 := Aside0.mk ho; have G1 := Aside0.mk hg; clear ho hg hb)
          go_roundw
          case rel => exact ⟨k + 1, by go_num, by omega, ⟨by rw [NSk.out]; have h9 := O1.out; rw [E1.out] at h9; simpa using h9⟩, ⟨(below_alloc HBi.out hbs _).grown G1.out (by simp; omega) (own_below HOi.out)⟩⟩
          case measure => simp [intOf]; omega
        · obtain rfl : k = 8 := by omega
          have HO8 := Aside0.mk (show wr.ownsRow w.heap.size 5 1 u3 (nameUp key (i + 1) 0).length ((nameUp key (i + 1) 0).map (Value.int .u8)) by rw [nameUp_zero, ← N8.out]; exact HOi.out)
          go_wp2
          go_roundw
          case rel => exact ⟨i + 1, by go_num, by omega, HO8, HBi⟩
          case measure => simp [intOf]; omega
    · obtain rfl : i = key.length := by omega
      have e0 : nameUp key key.length 0 = keyBytes key := by rw [nameUp_zero, List.take_length]
      rw [e0] at HO
      obtain ⟨A3, c3, hv3⟩ := own_form HO.out
      subst hv3
      have hkl := keyBytes_length key
      have CV : (convert 80 9 (.slice A3 (keyBytes key).length c3)).run Try.prog wr = .ok (.string (nameB key)) wr := by
        rcases HO.out.2 with ⟨h1, h2⟩ | ⟨b, cap, cur, h1, hb, hh, hc, hm, hs, ht⟩
        · injection h1 with h1 h3 h4
          subst h1
          have : keyBytes key = [] := List.length_eq_zero_iff.1 h2
          have hn : nameB key = ByteArray.empty := by unfold nameB; rw [this]; rfl
          rw [hn]
          exact run_convert_bytes_nil wr 80 5 Try.underlying80 Try.underlying5 _ _ 9 Try.underlying9
        · injection h1 with h1 h3 h4
          subst h1
          exact run_convert_bytes_arg wr 80 5 Try.underlying80 Try.underlying5 b 0 _ c3 (keyBytes key) rfl (fun j hj => by
            have h9 := HO.out.cellAt j (by omega)
            rw [Nat.zero_add]
            rw [h9, List.getElem?_map, List.getElem?_eq_getElem hj]
            simp [hj]) 9 Try.underlying9
      have HOL := Aside0.mk e0
      clear hkl e0
      go_wp2
      go_ret
      exact ⟨rfl, HB.out⟩
end Go.Proofs.Ytalbgdbphdhhaaa.Sg
