/- Contract: slices.CompactFunc of rows by slices.Equal, on a row of the call's own. -/
import Derived.Test.YtmgoefhihljggaaSgC
import Derived.Deep.LoopGhost
import Derived.Sort.WalkA
import Derived.Sort.WalkB12
import Derived.Lib.SliceRun
import Derived.Lib.SlKept
import Derived.Sort.OwnSorted
import Derived.Shelf.SlicesE.Kit
namespace Go.Proofs.Ytmgoefhihljggaa.Sg
open Go.RowKit Go.Shelf Go.Lib Go.Sort
set_option linter.unusedVariables false
set_option linter.unusedSimpArgs false

/-- A row's value, with what it reads as in w by other blocks than blk. -/
abbrev El (w : World) (blk : Nat) := { x : Value × Row // RowAt w (· ≠ blk) x.1 x.2 }
instance (w : World) (blk : Nat) : Inhabited (El w blk) := ⟨⟨(.slice none 0 0, []), SlAt.nil _ _ _ _ _ (by omega)⟩⟩
def enc {w : World} {blk : Nat} (x : El w blk) : Value := x.1.1
def El.row {w : World} {blk : Nat} (x : El w blk) : Row := x.1.2
theorem El.at_ {w W : World} {blk : Nat} (x : El w blk) (hs : Stays (· ≠ blk) w W) : RowAt W (· ≠ blk) (enc x) x.row := reads_row.stays x.2 hs
theorem enc_one {w : World} {blk : Nat} : OneCell (enc (w := w) (blk := blk)) := fun x => reads_row.one x.2
theorem enc_form {w : World} {blk : Nat} (x : El w blk) : ∃ A n c, enc x = .slice A n c := by
  obtain ⟨A, c, h, _⟩ := x.2.form
  exact ⟨A, _, c, h⟩
theorem eq_el {w W : World} {blk : Nat} (x y : El w blk) (hs : Stays (· ≠ blk) w W) (r : Bool) (hr : decide (x.row = y.row) = r) :
    Calls Try.prog 23 #[enc x, enc y] W fun e w' => e = .returned (.bool r) ∧ Drew W w' := by
  subst hr
  exact equal_any W _ _ _ _ _ _ (x.at_ hs) (y.at_ hs)
theorem quiet_drew {P : Program} {f : FuncId} {args : Array Value} {w : World} {n : Nat} {v : Value}
    (h : Calls P f args (w.drewN n) fun e w' => e = .returned v ∧ Drew (w.drewN n) w') : Calls P f args (w.drewN n) fun e w' => e = .returned v ∧ ∃ m, w' = w.drewN m :=
  h.mono fun _ _ ⟨he, m, hm⟩ => ⟨he, n + m, by rw [hm, World.drewN_drewN]⟩
theorem quiet_drew2 {P : Program} {f : FuncId} {args : Array Value} {w : World} {a n : Nat} {v : Value}
    (h : Calls P f args (w.drewN (a + n)) fun e w' => e = .returned v ∧ Drew (w.drewN (a + n)) w') : Calls P f args (w.drewN (a + n)) fun e w' => e = .returned v ∧ ∃ m, w' = w.drewN (a + m) :=
  h.mono fun _ _ ⟨he, m, hm⟩ => ⟨he, n + m, by rw [hm, World.drewN_drewN, Nat.add_assoc]⟩
theorem stays_putRow {w0 w : World} {blk q off : Nat} (d : Array (El w0 blk)) : Stays (· ≠ blk) w (putRow enc (Sort.ahead w q) blk off d) := fun b hb _ => by
  simp [putRow, mapBlock, Sort.ahead, Array.getElem?_modify, Ne.symm hb]
/-- Which places stay. -/
def kp {w : World} {blk : Nat} (d : Array (El w blk)) (j : Nat) : Bool := decide (j = 0 ∨ (d[j]!).row ≠ (d[j - 1]!).row)
theorem kp_neg {w : World} {blk : Nat} {d : Array (El w blk)} {m : Nat} (hm : 0 < m) (h : (d[m]!).row = (d[m - 1]!).row) : kp d m = false := by
  have : m ≠ 0 := by omega
  simp [kp, h, this]
theorem kp_pos {w : World} {blk : Nat} {d : Array (El w blk)} {m : Nat} (h : (d[m]!).row ≠ (d[m - 1]!).row) : kp d m = true := by simp [kp, h]
theorem kp_lt_one {w : World} {blk : Nat} (d : Array (El w blk)) : ∀ j, j < 1 → kp d j = true := by
  intro j hj
  have : j = 0 := by omega
  subst this; simp [kp]
abbrev kept {w : World} {blk : Nat} (d : Array (El w blk)) : List (El w blk) := keptUpTo (kp d) d d.size
theorem store_world2 {w0 w wr : World} {n blk : Nat} {dk : Array (El w0 blk)} {i : Nat} (hi : i < dk.size) (hwr : wr = putRow enc (Sort.ahead w n) blk 0 dk) (x : El w0 blk) {vx : Value} (hx : enc x = vx) (m : Nat) :
    (wr.drewN m).setCell ⟨blk, i, none⟩ vx = putRow enc (Sort.ahead w (n + m)) blk 0 (dk.setIfInBounds i x) := by
  subst hwr; subst hx
  rw [putRow_drewN, ← putRow_set enc _ blk 0 dk i x hi, Nat.zero_add]
theorem putRow_drewN2 {w0 w wr : World} {n blk off : Nat} {dk : Array (El w0 blk)} (hwr : wr = putRow enc (Sort.ahead w n) blk off dk) (m : Nat) : wr.drewN m = putRow enc (Sort.ahead w (n + m)) blk off dk := by
  subst hwr
  rw [putRow_drewN]
theorem zero_row (w : World) : (zeroValue 24).run Try.prog w = .ok (.slice none 0 0) w := by kernel_rfl

set_option maxHeartbeats 4000000 in
set_option maxRecDepth 1000000 in
theorem compact_any (w0 w : World) (blk cap : Nat) (d : Array (El w0 blk)) (hs0 : Stays (· ≠ blk) w0 w) (hz0 : w0.heap.size ≤ w.heap.size) (hH : Holds enc w blk 0 d) (hsz : d.size ≤ 9223372036854775807) (hcap : d.size ≤ cap) (hcm : cap ≤ 9223372036854775807) :
    Calls Try.prog 22 #[.slice (some ⟨blk, 0, none⟩) d.size cap, .func (.func 23) #[] #[]] w fun e w' => e = .returned (.slice (some ⟨blk, 0, none⟩) (kept d).length cap) ∧ ∃ q, w' = putRow enc (Sort.ahead w q) blk 0 (kept d ++ List.replicate (d.size - (kept d).length) default).toArray := by
  have eg : ∀ args w, (callFunc 23 args).run Try.prog w = .ok (.enter 23 args) w := enters_of Try.func23 (by kernel_rfl) rfl
  have same : ∀ q, (∀ j, j < d.size → kp d j = true) → (kept d).length = d.size ∧ w.drewN q = putRow enc (Sort.ahead w q) blk 0 (kept d ++ List.replicate (d.size - (kept d).length) default).toArray := by
    intro q hall
    have e : kept d = d.toList := by unfold kept; rw [keptUpTo_all (kp d) d _ hall, range_map_get]
    rw [e]
    refine ⟨by simp, ?_⟩
    simp only [Array.length_toList, Nat.sub_self, List.replicate_zero, List.append_nil, Array.toArray_toList]
    exact (putRow_self enc (Sort.ahead w q) blk 0 d (holds_ahead enc w q blk 0 d hH)).symm
  have HS0 := Aside0.mk hs0
  have HZ0 := Aside0.mk hz0
  clear hs0 hz0
  have HS := Aside0.mk same
  clear same
  have HH := Aside0.mk hH
  by_cases h2 : d.size < 2
  · clear hH
    go_enter Try.func22, Try.ntmps22
    go_wp2
    go_ret
    obtain ⟨e1, e2⟩ := HS.out 0 (fun j hj => kp_lt_one d j (by omega))
    exact ⟨by rw [e1]; rfl, 0, e2⟩
  · clear hH
    go_enter Try.func22, Try.ntmps22
    go_wp2
    go_loopg [5] d.size (fun g s5 wr => ∃ k q : Nat, 1 ≤ k ∧ k ≤ d.size ∧ d.size - k ≤ g ∧ s5 = .int .i64 k ∧ wr = w.drewN q ∧ Aside0 (∀ j, j < k → kp d j = true))
    case atStart => exact ⟨1, 0, Nat.le_refl _, by omega, by omega, rfl, rfl, ⟨kp_lt_one d⟩⟩
    case round =>
      obtain ⟨k, q, hk1, hk, hg, rfl, rfl, A⟩ := hrel
      by_cases hlt : k < d.size
      · obtain ⟨c1, f1⟩ := HH.out k hlt
        obtain ⟨c0, f0⟩ := HH.out (k - 1) (by omega)
        rw [Nat.zero_add] at c1 c0
        generalize hx : d[k]! = x at c1
        generalize hy : d[k - 1]! = y at c0
        have B := Aside0.mk (And.intro hx hy)
        have EQ := Aside0.mk (fun W hs r hr => eq_el (W := W) x y hs r hr)
        obtain ⟨Ax, nx, cx, hvx⟩ := enc_form x
        obtain ⟨Ay, ny, cy, hvy⟩ := enc_form y
        rw [hvx] at c1 EQ
        rw [hvy] at c0 EQ
        clear hx hy hvx hvy f1 f0
        by_cases hdup : x.row = y.row
        · have EQ1 := Aside0.mk (fun n => EQ.out (w.drewN (q + n)) (HS0.out.trans (Stays.drewN _ _ _) HZ0.out) true (by simpa using hdup))
          have HD := Aside0.mk hdup
          clear EQ hdup
          go_wp2_with fail
          go_quiet ((go_at_call 23; exact quiet_drew2 (EQ1.out _)))
          go_wp2
          clear c0 c1 EQ1
          go_loopg [5, 7] d.size (fun g s5 s7 wr => ∃ (kk k2 q2 : Nat) (dk : Array (El w0 blk)), s5 = .int .i64 kk ∧ s7 = .int .i64 k2 ∧ 1 ≤ k2 ∧ k + k2 ≤ d.size ∧ d.size - (k + k2) ≤ g ∧ Aside0 (wr = putRow enc (Sort.ahead w q2) blk 0 dk) ∧ Aside0 (KeptInv (kp d) d (k + k2) kk dk))
          case atStart => exact ⟨k, 1, q + nq, d, rfl, rfl, Nat.le_refl _, by omega, by omega, ⟨(putRow_self enc (Sort.ahead w (q + nq)) blk 0 d (holds_ahead enc w (q + nq) blk 0 d HH.out)).symm⟩, ⟨KeptInv.start A.out (kp_neg (by omega) (by rw [B.out.1, B.out.2]; exact HD.out))⟩⟩
          case round =>
            obtain ⟨kk, k2, q2, dk, rfl, rfl, h1, hle, hg2, W2, I2⟩ := hrel
            have hkk := I2.out.lt
            have hds := I2.out.size
            have hHk : Holds enc wr blk 0 dk := by rw [W2.out]; exact holds_putRow enc _ blk 0 d dk (holds_ahead enc w q2 blk 0 d HH.out) hds
            have hst : Stays (· ≠ blk) w0 wr := by rw [W2.out]; exact HS0.out.trans (stays_putRow dk) HZ0.out
            have HST := Aside0.mk hst
            have HSZ := Aside0.mk (show w0.heap.size ≤ wr.heap.size by rw [W2.out]; simpa using HZ0.out)
            clear hst
            by_cases hlt2 : k + k2 < d.size
            · obtain ⟨cm, _⟩ := hHk (k + k2) (by omega)
              obtain ⟨cp, _⟩ := hHk (k + k2 - 1) (by omega)
              obtain ⟨ck, fk⟩ := hHk kk (by omega)
              rw [I2.out.high (k + k2) (by omega), show 0 + (k + k2) = k + k2 by omega] at cm
              rw [I2.out.high (k + k2 - 1) (by omega), show 0 + (k + k2 - 1) = k + (k2 - 1) by omega] at cp
              rw [Nat.zero_add] at ck fk
              clear hHk
              generalize hu : d[k + k2]! = u at cm
              generalize hv : d[k + k2 - 1]! = v at cp
              generalize dk[kk]! = old at ck
              have C := Aside0.mk (And.intro hu hv)
              clear hu hv
              have EQ := Aside0.mk (fun W hs r hr => eq_el (W := W) u v hs r hr)
              obtain ⟨Au, nu, cu, hvu⟩ := enc_form u
              obtain ⟨Av, nv, cv, hvv⟩ := enc_form v
              obtain ⟨Ao, no, co, hvo⟩ := enc_form old
              rw [hvu] at cm EQ
              rw [hvv] at cp EQ
              rw [hvo] at ck
              have HVU := Aside0.mk hvu
              clear hvu hvv hvo
              by_cases huv : u.row = v.row
              · have EQ1 := Aside0.mk (fun n => EQ.out (wr.drewN n) (HST.out.trans (Stays.drewN _ _ _) HSZ.out) true (by simpa using huv))
                have HUV := Aside0.mk huv
                clear EQ huv
                go_wp2_with fail
                go_quiet ((go_at_call 23; exact quiet_drew (EQ1.out _)))
                go_wp2
                go_roundg (d.size - (k + (k2 + 1)))
                case measure => omega
                case rel => exact ⟨kk, k2 + 1, _, dk, rfl, by go_num, by omega, by omega, Nat.le_refl _, ⟨putRow_drewN2 W2.out _⟩, ⟨I2.out.skip (kp_neg (by omega) (by rw [C.out.1, C.out.2]; exact HUV.out))⟩⟩
              · have EQ1 := Aside0.mk (fun n => EQ.out (wr.drewN n) (HST.out.trans (Stays.drewN _ _ _) HSZ.out) false (by simpa using huv))
                have HUV := Aside0.mk huv
                clear EQ huv
                go_wp2_with fail
                go_quiet ((go_at_call 23; exact quiet_drew (EQ1.out _)))
                go_wp2
                go_roundg (d.size - (k + (k2 + 1)))
                case measure => omega
                case rel => exact ⟨kk + 1, k2 + 1, _, dk.setIfInBounds kk u, by go_num, by go_num, by omega, by omega, Nat.le_refl _, ⟨store_world2 (by omega) W2.out u HVU.out _⟩, ⟨by have := I2.out.keep hlt2 (kp_pos (by rw [C.out.1, C.out.2]; exact HUV.out)); rwa [C.out.1] at this⟩⟩
            · have hend : k + k2 = d.size := by omega
              have hcl : ∀ ty, (Builtin.clear_ #[23] ty #[.slice (some ⟨blk, kk, none⟩) (d.size - kk) (cap - kk)]).run Try.prog wr = .ok (.tuple #[]) (wr.setCells blk kk (List.replicate (d.size - kk) (.slice none 0 0))) :=
                fun ty => Lib.run_clear_slice wr _ _ ty _ Try.underlying23 zero_row rfl rfl blk kk _ _ (by omega) (fun j hj => by have := (hHk (kk + j) (by omega)).1; rw [Nat.zero_add] at this; rw [this]; rfl) (fun j hj => by have := (hHk (kk + j) (by omega)).2; rwa [Nat.zero_add] at this)
              clear hHk
              have hkc : kk ≤ cap := by omega
              have hkd : kk ≤ d.size := by omega
              go_wp2
              go_ret
              have hI := I2.out
              rw [hend] at hI
              refine ⟨by rw [hI.len]; rfl, q2, ?_⟩
              have hz : (.slice none 0 0 : Value) = enc (default : El w0 blk) := rfl
              rw [hI.len, ← hI.done default, ← putRow_setCells enc _ blk 0 _ dk kk (by simp; omega), ← W2.out, List.map_replicate, Nat.zero_add]
              rfl
        · have EQ1 := Aside0.mk (fun n => EQ.out (w.drewN (q + n)) (HS0.out.trans (Stays.drewN _ _ _) HZ0.out) false (by simpa using hdup))
          have HD := Aside0.mk hdup
          clear EQ hdup
          go_wp2_with fail
          go_quiet ((go_at_call 23; exact quiet_drew2 (EQ1.out _)))
          go_wp2
          go_roundg (d.size - (k + 1))
          case measure => omega
          case rel =>
            refine ⟨k + 1, _, by omega, by omega, Nat.le_refl _, by go_num, rfl, ⟨fun j hj => ?_⟩⟩
            by_cases e : j = k
            · subst e
              exact kp_pos (by rw [B.out.1, B.out.2]; exact HD.out)
            · exact A.out j (by omega)
      · have : k = d.size := by omega
        subst this
        go_wp2
        go_ret
        obtain ⟨e1, e2⟩ := HS.out q A.out
        exact ⟨by rw [e1]; rfl, q, e2⟩
end Go.Proofs.Ytmgoefhihljggaa.Sg
