/- Contracts: ergolaw10.place and put. -/
import Derived.Test.YtalbgdbphdhhaaaSgCa
import Derived.Test.YtalbgdbphdhhaaaSgRg
import Derived.Test.YtalbgdbphdhhaaaSgJ
namespace Go.Proofs.Ytalbgdbphdhhaaa.Sg
open Go.RowKit Go.Shelf
set_option linter.unusedVariables false
set_option linter.unusedSimpArgs false

theorem drew_trans {w w1 w2 : World} (h : Drew w w1) (k : Drew w1 w2) : Drew w w2 := by
  obtain ⟨a, rfl⟩ := h
  obtain ⟨b, rfl⟩ := k
  exact ⟨a + b, by simp [World.drewN, Nat.add_assoc]⟩
set_option maxHeartbeats 4000000 in
set_option maxRecDepth 100000 in
theorem place_any (w : World) (okr okk : Nat → Prop) (rv kv : Value) (rows : List Row) (key : Row) (hR : RowsAt w okr rv rows) (hK : RowAt w okk kv key) (hl : key.length < 1000000) (hn : rows.length < 1000000) :
    Calls Try.prog 15 #[rv, kv] w fun e w' => e = .returned (.int .i64 (placeI rows key)) ∧ Drew w w' := by
  obtain ⟨Ar, cr, hrv, _⟩ := hR.form
  subst hrv
  obtain ⟨Ak, ck, hkv, hck⟩ := hK.form
  subst hkv
  have HR := Aside0.mk hR
  have HK := Aside0.mk hK
  clear hR hK
  go_enter Try.func15, Try.ntmps15
  go_wp2
  go_loopw [9] (fun s9 wr => ∃ i : Nat, s9 = .int .i64 i ∧ i ≤ rows.length ∧ Aside0 (∀ j (hj : j < rows.length), j < i → isAt key rows[j] = false) ∧ Aside0 (Drew w wr)) (fun s9 _ => rows.length - (intOf s9).toNat)
  case atStart => exact ⟨0, rfl, Nat.zero_le _, ⟨fun j hj h => absurd h (Nat.not_lt_zero _)⟩, ⟨Drew.refl _⟩⟩
  case round =>
    obtain ⟨i, rfl, hi, HN, HD⟩ := hrel
    by_cases hlt : i < rows.length
    · obtain ⟨br, or_, ur, hAr, _, _, hc1, hur⟩ := (HR.out.below reads_row HD.out.below).at_ i hlt
      subst hAr
      obtain ⟨Ah, ch, huf, hch⟩ := hur.form
      subst huf
      have HU := Aside0.mk hur
      have HS := Aside0.mk (fun h : isAt key rows[i] = true => idxP_some hlt h HN.out)
      have HX := Aside0.mk (show isAt key rows[i] = false → ∀ j (hj : j < rows.length), j < i + 1 → isAt key rows[j] = false from fun h j hj hji => by
        by_cases e : j = i
        · subst e; exact h
        · exact HN.out j hj (by omega))
      have hla : key.length < 17592186044416 := by omega
      have hsm := hur.1
      obtain ⟨r, hr⟩ : ∃ r, rows[i] = r := ⟨_, rfl⟩
      rw [hr] at HU HS HX hc1 hch hsm
      have hsum : IntKind.i64.wrap ((key.length : Int) + 1) = (key.length : Int) + 1 := by rw [IntKind.wrap_i64]; omega
      clear hur hr
      by_cases hlen : r.length = key.length + 1
      · have hlb : ((r.length : Int) == (key.length : Int) + 1) = true := by rw [beq_iff_eq]; omega
        have hkc : key.length ≤ ch := by omega
        have HT := HU.out.take key.length (by omega)
        have CM := Aside0.mk (compare5_any wr _ _ _ _ (r.take key.length) key HT (HK.out.below reads_int HD.out.below))
        obtain ⟨cc, hcc⟩ : ∃ cc, cmp5 (r.take key.length) key = cc := ⟨_, rfl⟩
        have hz := cmp5_zero (r.take key.length) key
        rw [hcc] at CM hz
        have HZ := Aside0.mk hz
        have HL := Aside0.mk hlen
        have HAT := Aside0.mk (show (cc = 0 → isAt key r = true) ∧ (cc ≠ 0 → isAt key r = false) from ⟨fun h => by unfold isAt; rw [decide_eq_true hlen, decide_eq_true (hz.1 h)]; rfl, fun h => by unfold isAt; rw [decide_eq_false (fun h9 => h (hz.2 h9))]; simp⟩)
        have hle : (key.length : Int) ≤ (ch : Int) := by omega
        clear hcc hz HT
        generalize r.length = lr at *
        by_cases h0 : cc = 0
        · have hat : isAt key r = true := HAT.out.1 h0
          have HP := Aside0.mk (show placeI rows key = (i : Int) by unfold placeI; rw [HS.out hat])
          subst h0
          clear HS HX hat HZ
          go_wp2_with fail
          refine (CM.out).mono ?_
          rintro e w4 ⟨rfl, hd⟩
          have HD4 := Aside0.mk (drew_trans HD.out hd)
          clear CM hd
          go_wp2
          go_ret
          exact ⟨by rw [HP.out]; rfl, HD4.out⟩
        · have hat : isAt key r = false := HAT.out.2 h0
          have HX := Aside0.mk (HX.out hat)
          have d0 : (cc == 0) = false := by rw [beq_eq_false_iff_ne]; exact h0
          clear HS hat HZ
          go_wp2_with fail
          refine (CM.out).mono ?_
          rintro e w4 ⟨rfl, hd⟩
          have HD4 := Aside0.mk (drew_trans HD.out hd)
          clear CM hd
          go_wp2
          go_roundw
          case rel => exact ⟨i + 1, by go_num, by omega, HX, HD4⟩
          case measure => simp [intOf]; omega
      · have hat : isAt key r = false := by unfold isAt; rw [decide_eq_false hlen]; rfl
        have HX := Aside0.mk (HX.out hat)
        have hlb : ((r.length : Int) == (key.length : Int) + 1) = false := by rw [beq_eq_false_iff_ne]; omega
        generalize r.length = lr at *
        clear HS hat
        go_wp2
        go_roundw
        case rel => exact ⟨i + 1, by go_num, by omega, HX, HD⟩
        case measure => simp [intOf]; omega
    · obtain rfl : i = rows.length := by omega
      have HP := Aside0.mk (show placeI rows key = -1 by unfold placeI; rw [idxP_none (fun j hj => HN.out j hj hj)])
      go_wp2
      go_ret
      exact ⟨by rw [HP.out]; rfl, HD.out⟩
/-- A row's numbers, one by one. -/
theorem row_vals {w : World} {ok : Nat → Prop} {A : Option Addr} {n c : Nat} {key : Row} (h : RowAt w ok (.slice A n c) key) : ∀ j u, (key.map (Value.int .i64))[j]? = some u → ∃ b off, A = some ⟨b, off, none⟩ ∧ w.cell? ⟨b, off + j, none⟩ = some u := by
  intro j u hj
  obtain ⟨hjl, rfl⟩ := List.getElem?_eq_some_iff.1 hj
  have hjk : j < key.length := by simpa using hjl
  obtain ⟨b, off, z, ha, _, _, hc, hz, _⟩ := h.at_ j hjk
  rw [List.getElem_map]
  subst hz
  exact ⟨b, off, ha, hc⟩
end Go.Proofs.Ytalbgdbphdhhaaa.Sg
