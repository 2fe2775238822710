/- Contract: find in a table. -/
import Derived.Test.YtmgoefhihljggaaSgXb
namespace Go.Proofs.Ytmgoefhihljggaa.Sg
open Go.RowKit Go.Shelf
set_option linter.unusedVariables false
set_option linter.unusedSimpArgs false

/-- One place of a table: two cells. -/
def EntAt (w : World) (ok : Nat → Prop) (u v : Value) : Option (Row × List Int) → Prop
  | none => u = .slice none 0 0 ∧ v = .slice none 0 0
  | some (k, rs) => RowAt w ok u k ∧ RowAt w ok v rs ∧ rs ≠ [] ∧ k.length < 1000000
theorem EntAt.stays {w w' : World} {ok : Nat → Prop} {u v : Value} {e : Option (Row × List Int)} (h : EntAt w ok u v e) (hs : Stays ok w w') : EntAt w' ok u v e := by
  cases e with
  | none => exact h
  | some e => exact ⟨reads_row.stays h.1 hs, reads_row.stays h.2.1 hs, h.2.2⟩
theorem EntAt.mono {w : World} {ok ok2 : Nat → Prop} {u v : Value} {e : Option (Row × List Int)} (h : EntAt w ok u v e) (hs : ∀ b, ok b → b < w.heap.size → ok2 b) : EntAt w ok2 u v e := by
  cases e with
  | none => exact h
  | some e => exact ⟨reads_row.mono h.1 hs, reads_row.mono h.2.1 hs, h.2.2⟩
/-- A table's places, read. -/
def TabAt (w : World) (ok : Nat → Prop) (sb : Nat) (T : Tab) : Prop :=
  ok sb ∧ ∀ j (h : j < T.length), ∃ u v, w.cell? ⟨sb, j * 2, none⟩ = some u ∧ w.cell? ⟨sb, j * 2 + 1, none⟩ = some v ∧ EntAt w ok u v T[j]
theorem TabAt.stays {w w' : World} {ok : Nat → Prop} {sb : Nat} {T : Tab} (h : TabAt w ok sb T) (hs : Stays ok w w') : TabAt w' ok sb T := by
  refine ⟨h.1, fun j hj => ?_⟩
  obtain ⟨u, v, h1, h2, h3⟩ := h.2 j hj
  exact ⟨u, v, hs.cell h.1 h1, hs.cell h.1 h2, h3.stays hs⟩
theorem TabAt.below {w w' : World} {ok : Nat → Prop} {sb : Nat} {T : Tab} (h : TabAt w ok sb T) (hb : Below w.heap.size w w') : TabAt w' ok sb T := h.stays (Stays.of_below hb ok)

theorem stop_of {T : Tab} {q : Row} {i : Nat} {e : Option (Row × List Int)} (hi : T[i]? = some e) : stopAt T q i ↔ (∀ k rs, e = some (k, rs) → k = q) := by
  unfold stopAt
  rw [hi]
  constructor
  · intro h k rs he; exact h k rs (by rw [he])
  · intro h k rs he; cases he; exact h k rs rfl
theorem mod_next (h d N : Nat) (hN : 0 < N) : ((h + d) % N + 1) % N = (h + (d + 1)) % N := by
  rw [← Nat.add_assoc, Nat.add_mod (h + d) 1 N, Nat.mod_add_mod]
  by_cases e : N = 1
  · subst e; simp [Nat.mod_one]
  · rw [Nat.mod_eq_of_lt (show 1 < N by omega), Nat.mod_add_mod]

set_option maxHeartbeats 2000000 in
set_option maxRecDepth 100000 in
theorem find_any (w : World) (ok okk : Nat → Prop) (sb N i : Nat) (T : Tab) (kv : Value) (key : Row) (hT : TabAt w ok sb T) (hN : T.length = N) (hN1 : 0 < N) (hN2 : N < 1000000000) (hk : RowAt w okk kv key) (hf : Fnd T (Hn key) key i) :
    Calls Try.prog 41 #[.slice (some ⟨sb, 0, none⟩) N N, kv] w fun e w' => e = .returned (.int .i64 i) ∧ Drew w w' := by
  obtain ⟨D, hiD, hstop, hno⟩ := hf
  have hq := fun (w : World) a n c => run_neq_slice_nil_any (P := Try.prog) w 29 3 a n c 0 0 Try.underlying29
  have HS := Aside0.mk hstop
  have HNO := Aside0.mk hno
  have HID := Aside0.mk hiD
  have HT := Aside0.mk hT
  have HL := Aside0.mk hN
  have HK := Aside0.mk hk
  have HH := Aside0.mk (hash_any w okk kv key hk)
  have hlt := Hn_lt key
  have hw64 : wrap64 ((Hn key : Int) % (N : Int)) = ((Hn key % N : Nat) : Int) := by
    rw [Int.natCast_emod]
    have := Nat.mod_lt (Hn key) hN1
    unfold wrap64; omega
  have HW := Aside0.mk hw64
  clear hstop hno hiD hT hN hk hw64
  go_enter Try.func41, Try.ntmps41
  go_wp2_with (first | (go_at_call 58; (with_reducible refine (HH.out).mono ?_); rintro e w' ⟨rfl, rfl⟩))
  go_loopg [5] D (fun g s5 wr => ∃ d p q : Nat, D - d ≤ g ∧ s5 = .int .i64 p ∧ wr = w.drewN q ∧ p < N ∧ d ≤ D ∧ Aside0 (p = (Hn key + d) % N))
  case atStart => exact ⟨0, Hn key % N, 0, by omega, by rw [HW.out], rfl, Nat.mod_lt _ hN1, Nat.zero_le _, ⟨rfl⟩⟩
  case round =>
    obtain ⟨d, p, q, hg, rfl, rfl, hp, hd, HP⟩ := hrel
    have hpT : p < T.length := by rw [HL.out]; exact hp
    obtain ⟨u, v, hc1, hc2, he⟩ := HT.out.2 p hpT
    have hTp : T[p]? = some T[p] := List.getElem?_eq_getElem _
    obtain ⟨e, hee⟩ : ∃ e, T[p] = e := ⟨_, rfl⟩
    rw [hee] at hTp he
    have hso := stop_of (q := key) hTp
    have hdD : stopAt T key p → d = D := by
      intro hs
      apply Classical.byContradiction
      intro hne
      refine HNO.out d (by omega) ?_
      rw [HL.out, ← HP.out]; exact hs
    have hDd : d = D → stopAt T key p := by
      intro e
      have := HS.out
      rw [HID.out, HL.out, ← e, ← HP.out] at this
      exact this
    have HI : Aside0 (d = D → p = i) := ⟨by rintro rfl; rw [HID.out, HL.out, HP.out]⟩
    cases e with
    | none =>
      obtain ⟨rfl, rfl⟩ := he
      have hdd := Aside0.mk (hdD (hso.2 (by intro k rs h; cases h)))
      clear hso hdD hDd hTp hee hpT
      obtain rfl : p = i := HI.out hdd.out
      go_wp2
      go_ret
      exact ⟨rfl, q, rfl⟩
    | some kr =>
      obtain ⟨k, rs⟩ := kr
      obtain ⟨hk1, hk2, hk3, hk4⟩ := he
      obtain ⟨A2, c2, rfl, _⟩ := hk2.form
      obtain ⟨b2, o2, _, rfl, -⟩ := hk2.at_ 0 (by cases rs with | nil => exact absurd rfl hk3 | cons a l => simp)
      have HK2 := Aside0.mk hk2
      obtain ⟨Ak, ck, hkf, _⟩ := hk1.form
      have HE := Aside0.mk (fun q => equal_any (w.drewN q) ok okk u kv k key (reads_row.stays hk1 (Stays.drewN _ _ _)) (reads_row.stays HK.out (Stays.drewN _ _ _)))
      by_cases hkk : k = key
      · have hdd := Aside0.mk (hdD (hso.2 (by intro k' rs' h; cases h; exact hkk)))
        have HE1 : Aside0 (decide (k = key) = true) := ⟨by simpa using hkk⟩
        rw [HE1.out] at HE
        clear hso hdD hDd hTp hee hk1 hk2 hk3 hk4 hkk hkf hpT
        obtain rfl : p = i := HI.out hdd.out
        go_wp2_with (first | (go_at_call 23; (with_reducible refine (HE.out _).mono ?_); rintro e w' ⟨rfl, q2, rfl⟩))
        go_ret
        exact ⟨rfl, _, rfl⟩
      · have hdd := Aside0.mk (fun h => hkk (hso.1 (hDd h) k rs rfl))
        have HE1 : Aside0 (decide (k = key) = false) := ⟨by simpa using hkk⟩
        rw [HE1.out] at HE
        clear hso hdD hDd hTp hee hk1 hk2 hk3 hk4 hkk hkf hpT
        go_wp2_with (first | (go_at_call 23; (with_reducible refine (HE.out _).mono ?_); rintro e w' ⟨rfl, q2, rfl⟩))
        go_roundg (D - (d + 1))
        case measure => have h1 : d ≠ D := hdd.out; omega
        case rel =>
          have h1 : d ≠ D := hdd.out
          refine ⟨d + 1, (Hn key + (d + 1)) % N, _, by omega, ?_, rfl, Nat.mod_lt _ hN1, by omega, ⟨rfl⟩⟩
          rw [← mod_next _ _ _ hN1, ← HP.out]
          rw [Int.natCast_emod]; rfl
end Go.Proofs.Ytmgoefhihljggaa.Sg
