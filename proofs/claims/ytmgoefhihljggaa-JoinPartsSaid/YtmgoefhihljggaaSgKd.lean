/- JoinMany: the walk. -/
import Derived.Test.YtmgoefhihljggaaSgKc
namespace Go.Proofs.Ytmgoefhihljggaa.Sg
open Go.RowKit Go.Shelf
set_option linter.unusedVariables false
set_option linter.unusedSimpArgs false

/-- As push, with one more block kept out. -/
theorem BuiltBy.pushZ {w w1 : World} {o : Obj} {B e b b1 cap cap1 n z : Nat} {u : Value} {xs : List Row} {x : Row} {cs : List Value}
    (h : BuiltBy RowAt w B e (fun k => k ≠ b ∧ k ≠ z) (.slice (some ⟨b, 0, none⟩) n cap) xs cs) (hu : RowAt w (fun k => k ≠ b ∧ k ≠ z) u x) (ho : w1.ownsRow B e 1 (.slice (some ⟨b1, 0, none⟩) (xs.length + 1) cap1) (xs.length + 1) (cs ++ [u])) (hg : (w.alloc o).grownBy w1 (some b))
    (hb : (Value.slice (some ⟨b1, 0, none⟩) (xs.length + 1) cap1).ownBlock = some b ∨ (Value.slice (some ⟨b1, 0, none⟩) (xs.length + 1) cap1).ownBlock = some (w.alloc o).heap.size) (hz : z < w.heap.size) : BuiltBy RowAt w1 B e (fun k => k ≠ b1 ∧ k ≠ z) (.slice (some ⟨b1, 0, none⟩) (xs.length + 1) cap1) (xs ++ [x]) (cs ++ [u]) := by
  have hb1 : b1 = b ∨ b1 = w.heap.size + 1 := by
    rcases hb with hb | hb
    · exact .inl (Option.some.inj hb)
    · exact .inr (by have := Option.some.inj hb; simpa using this)
  have h2 := h.monoOk (ok2 := fun k => k ≠ b ∧ k ≠ z ∧ k < w.heap.size) (fun k hk hl => ⟨hk.1, hk.2, hl⟩)
  have hu2 := reads_row.mono (ok2 := fun k => k ≠ b ∧ k ≠ z ∧ k < w.heap.size) hu (fun k hk hl => ⟨hk.1, hk.2, hl⟩)
  have := BuiltBy.append reads_row h2 hu2 ho hg (fun k hk e => by cases hk; exact e.1 rfl)
  exact this.monoOk (fun k hk _ => ⟨by omega, hk.2.1⟩)
theorem reads_keep {α : Type} {E : World → (Nat → Prop) → Value → α → Prop} (H : Reads E) {w w1 : World} {o o2 : Obj} {b b1 : Nat} {r : Value} {q : α} (h : E w (· ≠ b) r q) (hg : ((w.alloc o).alloc o2).grownBy w1 (some b)) (hb : b1 = b ∨ b1 = w.heap.size + 1 + 1) : E w1 (· ≠ b1) r q := by
  have h1 := H.mono (ok2 := fun k => k ≠ b ∧ k < w.heap.size) h (fun k hk hl => ⟨hk, hl⟩)
  have h2 := H.stays (H.stays h1 (Stays.alloc _ w o)) (Stays.alloc _ _ o2)
  have h3 := H.stays h2 ((Stays.of_grown hg).mono (fun k hk _ e => hk.1 (Option.some.inj e).symm))
  exact H.mono h3 (fun k hk _ => by omega)
theorem two_places (W : World) : RowAt ((W.alloc (.cells #[.int .i64 1] 3)).alloc (.cells #[.int .i64 0] 3)) (W.heap.size ≤ ·) (.slice (some ⟨W.heap.size, 0, none⟩) 1 1) [1] ∧ RowAt ((W.alloc (.cells #[.int .i64 1] 3)).alloc (.cells #[.int .i64 0] 3)) (W.heap.size + 1 ≤ ·) (.slice (some ⟨W.heap.size + 1, 0, none⟩) 1 1) [0] ∧ Below W.heap.size W ((W.alloc (.cells #[.int .i64 1] 3)).alloc (.cells #[.int .i64 0] 3)) := by
  have ra := RowAt.newT W [1] 3 (by decide) (fun x hx => in64_small (by simp at hx; omega))
  have bb := below_alloc0 (Below.refl (W.alloc (.cells #[.int .i64 1] 3)).heap.size (W.alloc (.cells #[.int .i64 1] 3))) (.cells #[.int .i64 0] 3)
  have rb := RowAt.newT (W.alloc (.cells #[.int .i64 1] 3)) [0] 3 (by decide) (fun x hx => in64_small (by simp at hx; omega))
  rw [World.size_alloc] at rb
  exact ⟨SlAt.below reads_int ra bb, rb, below_trans0 (below_alloc0 (Below.refl _ _) _) bb⟩
set_option maxHeartbeats 4000000 in
set_option maxRecDepth 100000 in
theorem JoinMany_walk (x y z0 : Int) (w : World) (hx : In64 x) (hy : In64 y) (hz : In64 z0) :
    Calls Try.prog 3 #[.int .i64 x, .int .i64 y, .int .i64 z0] w fun e w' => e = .returned (.bool true) ∧ Below w.heap.size w w' := by
  obtain ⟨n, hn, en⟩ := and_mask x 63 (by omega)
  obtain ⟨m, hm, em⟩ := and_mask y 63 (by omega)
  obtain ⟨d0, hd0, ed⟩ := and_mask z0 15 (by omega)
  obtain ⟨d, hd⟩ : ∃ d, d = d0 + 1 := ⟨_, rfl⟩
  have ed1 : 1 + (d0 : Int) = (d : Int) := by omega
  have hdp : 0 < d := by omega
  have hd2 : d ≤ 16 := by omega
  simp only [Int.cast_ofNat_Int] at en em ed
  clear hx hy hz hd
  go_enter Try.func3, Try.ntmps3
  go_wp2_with fail
  refine (head8_any w).mono ?_
  rintro e w1 ⟨rfl, B1⟩
  have B1 := Aside0.mk B1
  obtain ⟨ir, hir, hr0, hr1, hr2⟩ := info_parts info_row
  go_wp2_with fail
  obtain ⟨z, hz⟩ : ∃ z, w1.heap.size + 1 = z := ⟨_, rfl⟩
  rw [hz]
  have ST := Aside0.mk ((BuiltBy.empty RowAt w1 w1.heap.size 24 (fun k => k ≠ w1.heap.size ∧ k ≠ z) (Nat.le_refl _)).stays reads_row (Stays.alloc (fun _ => True) _ (.cells #[] 24)) (fun _ _ _ => trivial) (fun _ _ => trivial))
  have SZ := Aside0.mk (show ((w1.alloc (.cells #[] 24)).alloc (.cells #[] 24)).ownsRow z 24 1 (.slice (some ⟨z, 0, none⟩) 0 0) 0 [] ∧ w1.heap.size ≠ z ∧ z < ((w1.alloc (.cells #[] 24)).alloc (.cells #[] 24)).heap.size from ⟨by
    have := owns_empty (w1.alloc (.cells #[] 24)) z 24 (by simp; omega)
    rw [World.size_alloc, hz] at this
    exact this, by omega, by simp; omega⟩)
  have STB := Aside0.mk (below_alloc0 (below_alloc0 (Below.refl w1.heap.size w1) (.cells #[] 24)) (.cells #[] 24))
  go_loopw [7, 9] (fun sa si wr => ∃ (i b cap : Nat) (cs : List Value), si = .int .i64 i ∧ sa = .slice (some ⟨b, 0, none⟩) i cap ∧ i ≤ n ∧ Aside0 (BuiltBy RowAt wr w1.heap.size 24 (fun k => k ≠ b ∧ k ≠ z) (.slice (some ⟨b, 0, none⟩) i cap) (rowsA d i) cs) ∧ Aside0 (wr.ownsRow z 24 1 (.slice (some ⟨z, 0, none⟩) 0 0) 0 [] ∧ b ≠ z ∧ z < wr.heap.size) ∧ Aside0 (Below w1.heap.size w1 wr)) (fun _ si _ => n - (intOf si).toNat)
  case atStart => exact ⟨0, w1.heap.size, 0, [], rfl, rfl, Nat.zero_le _, ST, SZ, STB⟩
  case round =>
    obtain ⟨i, b, cap, cs, rfl, rfl, hi, HU, HZ, HB⟩ := hrel
    have hbs := HB.out.size
    clear ST SZ STB
    by_cases hlt : i < n
    · have hzz := HZ.out.2.2
      obtain ⟨r, hr⟩ : ∃ r, i % d = r := ⟨_, rfl⟩
      have hrm : r < d := by rw [← hr]; exact Nat.mod_lt _ hdp
      have e1 : (i : Int) % (d : Int) = (r : Int) := by rw [← hr, Int.natCast_emod]
      have HR := Aside0.mk hr
      obtain ⟨hc1, hc2, hblt, hbge⟩ := HU.out.caps
      have R0 := RowAt.newT wr [(i : Int), (r : Int)] 2 (by simp) (fun x hx => by simp at hx; unfold In64; omega)
      have BA := below_alloc0 (Below.refl wr.heap.size wr) (.cells #[.int .i64 (i : Int), .int .i64 (r : Int)] 2)
      have HUA := Aside0.mk (HU.out.stays reads_row (Stays.of_below BA (fun _ => True)) (fun _ _ _ => trivial) (fun _ _ => trivial))
      have R1 := Aside0.mk (reads_row.mono (ok2 := (fun k => k ≠ b ∧ k ≠ z)) R0 (fun k hk _ => by have := HZ.out.2.2; omega))
      have CN := cell_one_new (wr.alloc (.cells #[.int .i64 (i : Int), .int .i64 (r : Int)] 2)) (.slice (some ⟨wr.heap.size, 0, none⟩) 2 2) 24
      rw [World.size_alloc] at CN
      have CN := Aside0.mk CN
      have h63 := Aside0.mk (show i + 1 ≤ maxLen by unfold maxLen; omega)
      have hby := Aside0.mk (show (i + 1) * 24 ≤ 140737488355328 by omega)
      have hsz := Aside0.mk (fun o o2 => (show w1.heap.size ≤ ((wr.alloc o).alloc o2).heap.size by simp; omega))
      have BN := Aside0.mk (below_alloc0 (Below.refl wr.heap.size wr) (.cells #[.int .i64 (i : Int), .int .i64 (r : Int)] 2))
      have MRi := Aside0.mk (rowsA_length d i)
      clear hr R0 BA
      go_wp2_with (at_builtin; refine wpList_append_own_at _ rfl (.tmp 31) (.tmp 37) 23 rfl (w1.heap.size) 24 ir (.slice none 0 0) 1 24 Try.underlying23 hir hr0 hr1 hr2 rfl (by decide) _ i cs rfl (by have := HUA.out.own.alloc (.cells #[.slice (some ⟨wr.heap.size, 0, none⟩) 2 2] 24); rw [MRi.out] at this; exact this) ⟨wr.heap.size + 1, 0, none⟩ 1 1 [Value.slice (some ⟨wr.heap.size, 0, none⟩) 2 2] rfl rfl CN.out (by simp [Value.oneCell']) h63.out hby.out (hsz.out _ _) ?_; intro v1 w10 ho hg _ hb; obtain ⟨b1, cap1, rfl⟩ := own_some ho; have O1 := Aside0.mk ho; have G1 := Aside0.mk hg; have HBB := Aside0.mk hb; clear ho hg hb)
      go_roundw
      case rel =>
        have hb1 : b1 = b ∨ b1 = wr.heap.size + 1 + 1 := by
          rcases HBB.out with hb | hb
          · exact .inl (Option.some.inj hb)
          · exact .inr (by have := Option.some.inj hb; simpa using this)
        refine ⟨i + 1, b1, cap1, cs ++ [.slice (some ⟨wr.heap.size, 0, none⟩) 2 2], by go_num, rfl, by omega, ⟨?_⟩, ⟨?_⟩, ⟨?_⟩⟩
        · rw [rowsA_succ, HR.out]
          have O2 := O1.out
          rw [← MRi.out] at O2
          have := BuiltBy.pushZ HUA.out R1.out O2 G1.out HBB.out (by simp; have := HZ.out.2.2; omega)
          rw [MRi.out] at this
          exact this
        · refine ⟨?_, by have := HZ.out.2.1; have := HZ.out.2.2; omega, by have h2 := HZ.out.2.2; have := G1.out.size; simp only [World.size_alloc] at this; omega⟩
          exact (Stays.of_grown G1.out).owns ((Stays.alloc (fun _ => True) _ _).owns ((Stays.alloc (fun _ => True) _ _).owns HZ.out.1 (fun _ _ => trivial)) (fun _ _ => trivial)) (fun k hk e => by have e1 : z = k := Option.some.inj hk; have e2 : b = k := Option.some.inj e; exact HZ.out.2.1 (by omega))
        · exact (below_alloc (HB.out.trans (BN.out.mono hbs)) (by simp; omega) _).grown G1.out (by simp; omega) (own_below HUA.out.own)
      case measure => simp [intOf]; omega

    · obtain rfl : i = n := by omega
      have hml := rowsA_length d i
      have RA : RowsAt wr (· ≠ z) (.slice (some ⟨b, 0, none⟩) i cap) (rowsA d i) := SlAt.of_own0 HU.out.own rfl (fun k hk _ => by cases hk; exact HZ.out.2.1) (by rw [hml]; omega) (fun j hj u hu => reads_row.mono (HU.out.el j hj u hu) (fun _ h _ => h.2))
      have RA := Aside0.mk RA
      have ST2 := Aside0.mk (show BuiltBy RowAt wr z 24 (· ≠ z) (.slice (some ⟨z, 0, none⟩) 0 0) (rowsB d 0) [] from ⟨HZ.out.1, fun j hj => by simp [rowsB] at hj⟩)
      have HZ2 := Aside0.mk (Nat.le_of_lt HZ.out.2.2)
      have hwz := Aside0.mk (show w1.heap.size ≤ z by omega)
      clear hml HU HZ hz
      go_wp2_with fail
      go_loopw [8, 10] (fun sa si wr => ∃ (j b2 cap2 : Nat) (cs : List Value), si = .int .i64 j ∧ sa = .slice (some ⟨b2, 0, none⟩) j cap2 ∧ j ≤ m ∧ Aside0 (BuiltBy RowAt wr z 24 (· ≠ b2) (.slice (some ⟨b2, 0, none⟩) j cap2) (rowsB d j) cs) ∧ Aside0 (RowsAt wr (· ≠ b2) (.slice (some ⟨b, 0, none⟩) i cap) (rowsA d i) ∧ z ≤ wr.heap.size) ∧ Aside0 (Below w1.heap.size w1 wr)) (fun _ si _ => m - (intOf si).toNat)
      case atStart => exact ⟨0, z, 0, [], rfl, rfl, Nat.zero_le _, ST2, ⟨RA.out, HZ2.out⟩, HB⟩
      case round =>
        clear ST2 HZ2 RA HB hbs
        obtain ⟨j, b2, cap2, cs, rfl, rfl, hj, HU, HZ, HB⟩ := hrel
        have hbs := HB.out.size
        by_cases hlt2 : j < m
        · have hzz := HZ.out.2
          obtain ⟨r, hr⟩ : ∃ r, j % d = r := ⟨_, rfl⟩
          have hrm : r < d := by rw [← hr]; exact Nat.mod_lt _ hdp
          have e1 : (j : Int) % (d : Int) = (r : Int) := by rw [← hr, Int.natCast_emod]
          have HR := Aside0.mk hr
          obtain ⟨hc1, hc2, hblt, hbge⟩ := HU.out.caps
          have R0 := RowAt.newT wr [(r : Int), (j : Int)] 2 (by simp) (fun x hx => by simp at hx; unfold In64; omega)
          have BA := below_alloc0 (Below.refl wr.heap.size wr) (.cells #[.int .i64 (r : Int), .int .i64 (j : Int)] 2)
          have HUA := Aside0.mk (HU.out.stays reads_row (Stays.of_below BA (fun _ => True)) (fun _ _ _ => trivial) (fun _ _ => trivial))
          have R1 := Aside0.mk (reads_row.mono (ok2 := (· ≠ b2)) R0 (fun k hk _ => by omega))
          have CN := cell_one_new (wr.alloc (.cells #[.int .i64 (r : Int), .int .i64 (j : Int)] 2)) (.slice (some ⟨wr.heap.size, 0, none⟩) 2 2) 24
          rw [World.size_alloc] at CN
          have CN := Aside0.mk CN
          have h63 := Aside0.mk (show j + 1 ≤ maxLen by unfold maxLen; omega)
          have hby := Aside0.mk (show (j + 1) * 24 ≤ 140737488355328 by omega)
          have hsz := Aside0.mk (fun o o2 => (show z ≤ ((wr.alloc o).alloc o2).heap.size by simp; have := HZ.out.2; omega))
          have BN := Aside0.mk (below_alloc0 (Below.refl wr.heap.size wr) (.cells #[.int .i64 (r : Int), .int .i64 (j : Int)] 2))
          have MRi := Aside0.mk (rowsB_length d j)
          clear hr R0 BA
          go_wp2_with (at_builtin; refine wpList_append_own_at _ rfl (.tmp 44) (.tmp 50) 23 rfl (z) 24 ir (.slice none 0 0) 1 24 Try.underlying23 hir hr0 hr1 hr2 rfl (by decide) _ j cs rfl (by have := HUA.out.own.alloc (.cells #[.slice (some ⟨wr.heap.size, 0, none⟩) 2 2] 24); rw [MRi.out] at this; exact this) ⟨wr.heap.size + 1, 0, none⟩ 1 1 [Value.slice (some ⟨wr.heap.size, 0, none⟩) 2 2] rfl rfl CN.out (by simp [Value.oneCell']) h63.out hby.out (hsz.out _ _) ?_; intro v1 w10 ho hg _ hb; obtain ⟨b1, cap1, rfl⟩ := own_some ho; have O1 := Aside0.mk ho; have G1 := Aside0.mk hg; have HBB := Aside0.mk hb; clear ho hg hb)
          go_roundw
          case rel =>
            have hb1 : b1 = b2 ∨ b1 = wr.heap.size + 1 + 1 := by
              rcases HBB.out with hb | hb
              · exact .inl (Option.some.inj hb)
              · exact .inr (by have := Option.some.inj hb; simpa using this)
            refine ⟨j + 1, b1, cap1, cs ++ [.slice (some ⟨wr.heap.size, 0, none⟩) 2 2], by go_num, rfl, by omega, ⟨?_⟩, ⟨?_⟩, ⟨?_⟩⟩
            · rw [rowsB_succ, HR.out]
              have O2 := O1.out
              rw [← MRi.out] at O2
              have := BuiltBy.push HUA.out R1.out O2 G1.out HBB.out
              rw [MRi.out] at this
              exact this
            · refine ⟨reads_keep reads_rows HZ.out.1 G1.out hb1, by have h2 := HZ.out.2; have := G1.out.size; simp only [World.size_alloc] at this; omega⟩
            · exact (below_alloc (HB.out.trans (BN.out.mono hbs)) (by simp; omega) _).grown G1.out (by simp; omega) (fun k hk => Nat.le_trans hwz.out (own_below HUA.out.own k hk))
          case measure => simp [intOf]; omega

        · obtain rfl : j = m := by omega
          have hml := rowsA_length d i
          have hmm := rowsB_length d j
          have RB : RowsAt wr (fun _ => True) (.slice (some ⟨b2, 0, none⟩) j cap2) (rowsB d j) := SlAt.of_own0 HU.out.own rfl (fun _ _ _ => trivial) (by rw [hmm]; omega) (fun t ht u hu => reads_row.mono (HU.out.el t ht u hu) (fun _ _ _ => trivial))
          have MK1 := make_any wr _ _ 2 _ HZ.out.1 (by omega) (by rw [hml]; omega)
          rw [rowsA_norm] at MK1
          have MK1 := Aside0.mk MK1
          have MK2 := Aside0.mk (fun W (hb : Below wr.heap.size wr W) => make_any W _ _ 2 _ (RB.below reads_row hb) (by omega) (by rw [hmm]; omega))
          have BZ := Aside0.mk (below_trans0 B1.out HB.out)
          have LN := Aside0.mk (And.intro hml (Nat.le_trans (norm_length 2 (rowsB d j)) (Nat.le_of_eq hmm)))
          have CT := many_count hdp i j
          obtain ⟨f, hf⟩ : ∃ f : Nat → Nat, (fun k => (i + (d - 1 - k)) / d * ((j + (d - 1 - k)) / d)) = f := ⟨_, rfl⟩
          rw [hf] at CT
          have CT := Aside0.mk CT
          have HF := Aside0.mk (fun k => (congrFun hf k).symm)
          clear hml hmm RB HU HZ HB hbs hf
          go_wp2_with fail
          refine MK1.out.mono ?_
          rintro e w5 ⟨vA, rfl, SA, B5⟩
          have SA := Aside0.mk SA
          have B5 := Aside0.mk B5
          clear MK1
          go_wp2_with fail
          refine (MK2.out w5 B5.out).mono ?_
          rintro e w6 ⟨vB, rfl, SB, B6⟩
          have SB := Aside0.mk SB
          have SA := Aside0.mk (SA.out.below B6)
          have BZ := Aside0.mk (below_trans0 (below_trans0 BZ.out B5.out) B6)
          obtain ⟨gA, -, hvA, -⟩ := SA.out.ex
          obtain ⟨gB, -, hvB, -⟩ := SB.out.ex
          subst hvA; subst hvB
          clear MK2 B5 B6
          go_wp2_with fail
          have hfk : ∀ k, k < d → f k ≤ 6400 := fun k hk => by
            rw [HF.out]
            have h1 : (i + (d - 1 - k)) / d ≤ 80 := Nat.le_trans (Nat.div_le_self _ _) (by omega)
            have h2 : (j + (d - 1 - k)) / d ≤ 80 := Nat.le_trans (Nat.div_le_self _ _) (by omega)
            exact Nat.mul_le_mul h1 h2
          have FK := Aside0.mk hfk
          have SL := Aside0.mk (fun k (hk : k ≤ d) => Nat.le_trans (sum_le f 6400 k (fun t ht => hfk t (by omega))) (Nat.mul_le_mul_right 6400 (show k ≤ 16 by omega)))
          clear hfk
          go_loopw [13, 14] (fun s13 s14 wr => ∃ k : Nat, s14 = .int .i64 k ∧ s13 = .int .i64 (sumM f k : Nat) ∧ k ≤ d ∧ Aside0 (Drew w6 wr)) (fun _ s14 _ => d - (intOf s14).toNat)
          case atStart => exact ⟨0, rfl, rfl, Nat.zero_le _, ⟨Drew.refl _⟩⟩
          case round =>
            obtain ⟨k, rfl, rfl, hk, HD⟩ := hrel
            by_cases hlt3 : k < d
            · obtain ⟨sk, hsk⟩ : ∃ sk, sumM f k = sk := ⟨_, rfl⟩
              have hs1 : sumM f (k + 1) = sk + f k := by rw [sumM, hsk]
              have hsl := SL.out k hk
              have hfl := FK.out k hlt3
              rw [hsk] at hsl ⊢
              have HS1 := Aside0.mk hs1
              have hfk := HF.out k
              obtain ⟨q1, hq1⟩ : ∃ q1, (i + (d - 1 - k)) / d = q1 := ⟨_, rfl⟩
              obtain ⟨q2, hq2⟩ : ∃ q2, (j + (d - 1 - k)) / d = q2 := ⟨_, rfl⟩
              rw [hq1, hq2] at hfk
              obtain ⟨p1, hp1⟩ : ∃ p1, i + (d - 1 - k) = p1 := ⟨_, rfl⟩
              obtain ⟨p2, hp2⟩ : ∃ p2, j + (d - 1 - k) = p2 := ⟨_, rfl⟩
              rw [hp1] at hq1
              rw [hp2] at hq2
              have hk1 : q1 ≤ 80 := by rw [← hq1]; exact Nat.le_trans (Nat.div_le_self _ _) (by omega)
              have hk2 : q2 ≤ 80 := by rw [← hq2]; exact Nat.le_trans (Nat.div_le_self _ _) (by omega)
              have x1 : (i : Int) - (k : Int) + (d : Int) - 1 = (p1 : Int) := by omega
              have x2 : (j : Int) - (k : Int) + (d : Int) - 1 = (p2 : Int) := by omega
              have y1 : (p1 : Int) / (d : Int) = (q1 : Int) := by rw [← hq1, Int.natCast_ediv]
              have y2 : (p2 : Int) / (d : Int) = (q2 : Int) := by rw [← hq2, Int.natCast_ediv]
              have y3 : Int.tdiv (p1 : Int) (d : Int) = (q1 : Int) := by rw [← hq1]; rfl
              have y4 : Int.tdiv (p2 : Int) (d : Int) = (q2 : Int) := by rw [← hq2]; rfl
              obtain ⟨fk, hff⟩ : ∃ fk, f k = fk := ⟨_, rfl⟩
              rw [hff] at hfk hfl HS1
              have z1 : (q1 : Int) * (q2 : Int) = (fk : Int) := by rw [hfk, Int.natCast_mul]
              obtain ⟨s1, hs1'⟩ : ∃ s1, sk + fk = s1 := ⟨_, rfl⟩
              have z2 : (sk : Int) + (fk : Int) = (s1 : Int) := by omega
              rw [hs1'] at HS1
              have v1 : IntKind.i64.wrap ((i : Int) - (k : Int)) = (i : Int) - (k : Int) := by rw [IntKind.wrap_i64]; omega
              have v2 : IntKind.i64.wrap ((j : Int) - (k : Int)) = (j : Int) - (k : Int) := by rw [IntKind.wrap_i64]; omega
              have v3 : IntKind.i64.wrap ((i : Int) - (k : Int) + (d : Int)) = (i : Int) - (k : Int) + (d : Int) := by rw [IntKind.wrap_i64]; omega
              have v4 : IntKind.i64.wrap ((j : Int) - (k : Int) + (d : Int)) = (j : Int) - (k : Int) + (d : Int) := by rw [IntKind.wrap_i64]; omega
              have v5 : IntKind.i64.wrap (p1 : Int) = (p1 : Int) := by rw [IntKind.wrap_i64]; omega
              have v6 : IntKind.i64.wrap (p2 : Int) = (p2 : Int) := by rw [IntKind.wrap_i64]; omega
              have v7 : IntKind.i64.wrap (q1 : Int) = (q1 : Int) := by rw [IntKind.wrap_i64]; omega
              have v8 : IntKind.i64.wrap (q2 : Int) = (q2 : Int) := by rw [IntKind.wrap_i64]; omega
              have v9 : IntKind.i64.wrap (fk : Int) = (fk : Int) := by rw [IntKind.wrap_i64]; omega
              have v10 : IntKind.i64.wrap (s1 : Int) = (s1 : Int) := by rw [IntKind.wrap_i64]; omega
              have hdz : (d : Int) ≠ 0 := by omega
              have hdz2 : ((d : Int) == 0) = false := by rw [beq_eq_false_iff_ne]; exact hdz
              have hkz : (k : Int) < (d : Int) := by omega
              clear hq1 hq2 hp1 hp2 hfk hff hs1 hs1' hsk
              go_wp2_with fail
              go_quiet (fail)
              go_wp2
              go_roundw
              case rel => exact ⟨k + 1, by go_num, by rw [HS1.out], by omega, ⟨HD.out.stepN _⟩⟩
              case measure => simp [intOf]; omega
            · obtain rfl : k = d := by omega
              have hkz : ¬ (k : Int) < (k : Int) := by omega
              obtain ⟨P, hP⟩ : ∃ P, prs ((rowsA k i).map fun r => keyOf r [1]) ((norm 2 (rowsB k j)).map fun r => keyOf r [0]) (rowsA k i).length = P := ⟨_, rfl⟩
              have CT := CT.out
              rw [hP] at CT
              have B6 := HD.out.below
              obtain ⟨p1, p2, p3⟩ := two_places wr
              have b7 := below_trans0 B6 p3
              have C1 := hashP_any _ _ _ _ _ gA gB 2 2 _ _ [1] [0] _ _ (SA.out.below b7) (SB.out.below b7) p1 p2 (by decide) (by decide) (by have := LN.out.1; omega) (by have := LN.out.2; omega)
              have C2 := fun W (hb : Below w6.heap.size w6 W) => mergeP_any ((W.alloc (.cells #[.int .i64 1] 3)).alloc (.cells #[.int .i64 0] 3)) _ _ _ _ gA gB 2 2 _ _ [1] [0] _ _ (SA.out.below (below_trans0 hb (two_places W).2.2)) (SB.out.below (below_trans0 hb (two_places W).2.2)) (two_places W).1 (two_places W).2.1 (by decide) (by decide) (by have := LN.out.1; omega) (by have := LN.out.2; omega)
              rw [hP] at C1 C2
              have C1 := Aside0.mk C1
              have C2 := Aside0.mk C2
              have B7 := Aside0.mk b7
              have HPL := Aside0.mk (show (P.length : Int) = ((sumM f k : Nat) : Int) by rw [CT])
              generalize sumM f k = tot at *
              clear CT hP p1 p2 p3 b7 B6
              go_wp2_with fail
              refine C1.out.mono ?_
              rintro e w8 ⟨v8, rfl, R8, q8⟩
              obtain ⟨A8, c8, hf8, -⟩ := R8.form
              subst hf8
              have B8 := Aside0.mk (below_trans0 B7.out q8)
              have C2 := Aside0.mk (C2.out w8 B8.out)
              have hz8 : (P.length : Int) = (tot : Int) := HPL.out
              clear C1 R8 q8 B7
              go_wp2_with fail
              refine C2.out.mono ?_
              rintro e w9 ⟨v9, rfl, R9, q9⟩
              obtain ⟨A9, c9, hf9, -⟩ := R9.form
              subst hf9
              have BY := Aside0.mk (below_trans0 BZ.out (below_trans0 (below_trans0 B8.out (two_places w8).2.2) q9))
              clear C2 R9 q9
              go_wp2
              go_ret
              exact ⟨ret_bool (by simp [HPL.out]), BY.out⟩
end Go.Proofs.Ytmgoefhihljggaa.Sg
