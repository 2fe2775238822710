/- Contract: Of. -/
import Derived.Test.YtihilledbnnniaaSgZb
namespace Go.Proofs.Ytihilledbnnniaa.Sg
open Go.RowKit Go.Shelf
set_option linter.unusedVariables false
set_option linter.unusedSimpArgs false

set_option maxHeartbeats 2000000 in
set_option maxRecDepth 100000 in
theorem of_any (w : World) (s : ByteArray) : Calls Try.prog 31 #[.string s] w fun e w' => e = .returned (.int .i64 (ofWord s : Nat)) ∧ Below w.heap.size w w' := by
  obtain ⟨r, hr⟩ : ∃ r, ofWord s = r := ⟨_, rfl⟩
  rw [hr]
  have HR := Aside0.mk hr
  clear hr
  go_enter Try.func31, Try.ntmps31
  go_wp2
  go_loopw [3] (fun s3 wr => ∃ k : Nat, s3 = .int .i64 k ∧ 1 ≤ k ∧ k ≤ 5 ∧ Aside0 (∀ j : Nat, 1 ≤ j → j < k → wordOf j ≠ s) ∧ Aside0 (Below w.heap.size w wr)) (fun s3 _ => 5 - (intOf s3).toNat)
  case atStart => exact ⟨1, rfl, by omega, by omega, ⟨fun j h1 h2 => by omega⟩, ⟨Below.refl _ _⟩⟩
  case round =>
    obtain ⟨k, rfl, h1, h5, HN, HB⟩ := hrel
    by_cases hk : k ≤ 4
    · have WD := Aside0.mk (word_any wr (k : Int) (by unfold In64; omega))
      obtain ⟨u, hu⟩ : ∃ u, wordOf (k : Int) = u := ⟨_, rfl⟩
      rw [hu] at WD
      have HU := Aside0.mk hu
      clear hu
      go_wp2_with fail
      refine (WD.out).mono ?_
      rintro e w2 ⟨rfl, B2⟩
      have B2 := Aside0.mk (below_trans0 HB.out B2)
      by_cases he : u = s
      · subst he
        have HV := Aside0.mk (ofWord_yes h1 hk HN.out HU.out)
        clear WD
        go_wp2
        go_ret
        exact ⟨by rw [← HR.out, HV.out]; rfl, B2.out⟩
      · have HE := Aside0.mk he
        have HN2 := Aside0.mk (show ∀ j : Nat, 1 ≤ j → j < k + 1 → wordOf j ≠ s from fun j h1 h2 => by
          by_cases e : j = k
          · subst e; rw [HU.out]; exact HE.out
          · exact HN.out j h1 (by omega))
        have hsn := str_ne he
        go_wp2
        go_roundw
        case rel => exact ⟨k + 1, by go_num, by omega, by omega, HN2, B2⟩
        case measure => simp [intOf]; omega
    · obtain rfl : k = 5 := by omega
      have HV := Aside0.mk (ofWord_no HN.out)
      go_wp2
      go_ret
      exact ⟨by rw [← HR.out, HV.out]; rfl, HB.out⟩
end Go.Proofs.Ytihilledbnnniaa.Sg
