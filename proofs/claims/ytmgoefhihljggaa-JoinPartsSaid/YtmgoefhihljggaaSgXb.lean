/- Contracts of the index: hash of a key; find in a table. -/
import Derived.Test.YtmgoefhihljggaaSgC
import Derived.Test.YtmgoefhihljggaaSgXa
import Derived.Test.YtmgoefhihljggaaSgN
import Derived.Lib.SliceRun
namespace Go.Proofs.Ytmgoefhihljggaa.Sg
open Go.RowKit Go.Shelf
set_option linter.unusedVariables false
set_option linter.unusedSimpArgs false

def hs (h x : Int) : Int := IntKind.u64.wrap (bits .xor .u64 h (bits .and .u64 x 255) * 1099511628211)
def hrun : Nat → Int → Int → Int
  | 0, h, _ => h
  | k + 1, h, x => hrun k (hs h x) (x / 256)
def hfold : Row → Int → Int
  | [], h => h
  | n :: ns, h => hfold ns (hrun 8 h (IntKind.u64.wrap n))
def hEnd (h : Int) : Int := bits .xor .u64 h (h / 4294967296)
def Hn (key : Row) : Nat := (hEnd (hfold key 1469598103934665603)).toNat
def U64 (x : Int) : Prop := 0 ≤ x ∧ x ≤ 18446744073709551615
theorem u64_wrap (x : Int) : U64 (IntKind.u64.wrap x) := wrap_within .u64 x
theorem u64_bits (op : BinOp) (a b : Int) : U64 (bits op .u64 a b) := bits_within op .u64 a b
theorem hs_u (h x : Int) : U64 (hs h x) := u64_wrap _
theorem Hn_eq (key : Row) : hEnd (hfold key 1469598103934665603) = (Hn key : Int) := by
  have := (u64_bits .xor (hfold key 1469598103934665603) (hfold key 1469598103934665603 / 4294967296)).1
  unfold Hn hEnd; omega
theorem Hn_lt (key : Row) : Hn key ≤ 18446744073709551615 := by
  have := (u64_bits .xor (hfold key 1469598103934665603) (hfold key 1469598103934665603 / 4294967296)).2
  have h2 := Hn_eq key
  unfold hEnd at h2; omega
theorem ret_u {a b : Int} (h : a = b) : Ending.returned (.int .u64 a) = .returned (.int .u64 b) := by rw [h]

set_option maxHeartbeats 1000000 in
set_option maxRecDepth 100000 in
theorem hash_any (w : World) (ok : Nat → Prop) (v : Value) (key : Row) (h : RowAt w ok v key) :
    Calls Try.prog 58 #[v] w fun e w' => e = .returned (.int .u64 (Hn key : Nat)) ∧ w = w' := by
  obtain ⟨A, c, rfl, hc, hm, _⟩ := h.form
  have H := Aside0.mk h
  clear h
  go_enter Try.func58, Try.ntmps58
  go_wp2
  go_loop [3, 9] (fun s3 s9 => ∃ (k : Nat) (hh : Int), s9 = .int .i64 k ∧ s3 = .int .u64 hh ∧ k ≤ key.length ∧ U64 hh ∧ Aside0 (hfold (key.drop k) hh = hfold key 1469598103934665603)) (fun _ s9 => key.length - (intOf s9).toNat)
  case atStart => exact ⟨0, _, rfl, rfl, Nat.zero_le _, ⟨by omega, by omega⟩, ⟨rfl⟩⟩
  case round =>
    obtain ⟨k, hh, rfl, rfl, hk, ⟨hu1, hu2⟩, HF⟩ := hrel
    by_cases hlt : k < key.length
    · obtain ⟨b, o, u, rfl, _, _, hc0, rfl, _⟩ := H.out.at_ k hlt
      have HD := Aside0.mk (List.drop_eq_getElem_cons hlt)
      generalize key[k] = n at *
      go_wp2
      go_loop [3, 6, 15] (fun s3 s6 s15 => ∃ (j : Nat) (h2 x : Int), s15 = .int .i64 j ∧ s3 = .int .u64 h2 ∧ s6 = .int .u64 x ∧ j ≤ 8 ∧ U64 h2 ∧ U64 x ∧ Aside0 (hrun (8 - j) h2 x = hrun 8 hh (IntKind.u64.wrap n))) (fun _ _ s15 => 8 - (intOf s15).toNat)
      case atStart => exact ⟨0, _, _, rfl, rfl, rfl, by omega, ⟨hu1, hu2⟩, u64_wrap _, ⟨rfl⟩⟩
      case round =>
        obtain ⟨j, h2, x, rfl, rfl, rfl, hj, ⟨hv1, hv2⟩, ⟨hx1, hx2⟩, HR⟩ := hrel
        by_cases hj8 : j < 8
        · go_wp2
          go_round
          case rel =>
            refine ⟨j + 1, hs h2 x, x / 256, by go_num, rfl, rfl, by omega, hs_u _ _, ⟨by omega, by omega⟩, ⟨?_⟩⟩
            have e : 8 - j = (8 - (j + 1)) + 1 := by omega
            have := HR.out
            rw [e, hrun] at this
            exact this
          case measure => simp [intOf]; omega
        · obtain rfl : j = 8 := by omega
          go_wp2
          go_round
          case rel =>
            refine ⟨k + 1, h2, by go_num, rfl, by omega, ⟨hv1, hv2⟩, ⟨?_⟩⟩
            have h1 := HF.out
            have h3 := HR.out
            rw [Nat.sub_self, hrun] at h3
            rw [HD.out, hfold, ← h3] at h1
            exact h1
          case measure => simp [intOf]; omega
    · go_wp2
      go_ret
      refine ⟨ret_u ?_, rfl⟩
      have := HF.out
      rw [List.drop_of_length_le (by omega), hfold] at this
      rw [← Hn_eq, ← this]
      rfl

theorem Stays.cellA {ok : Nat → Prop} {w w' : World} (h : Stays ok w w') {p : Addr} {v : Value} (hb : ok p.block) (hc : w.cell? p = some v) : w'.cell? p = some v := by
  have := h p.block hb (World.block_lt_of_cell? w p hc)
  obtain ⟨b, o, z⟩ := p
  simpa [World.cell?, this] using hc
theorem RowAt.news {w : World} {ok : Nat → Prop} {b off n c : Nat} {xs : Row} (h : RowAt w ok (.slice (some ⟨b, off, none⟩) n c) xs) : ∀ j u, (xs.map (Value.int .i64))[j]? = some u → w.cell? ((⟨b, off, none⟩ : Addr).add j) = some u := by
  intro j u hu
  rw [List.getElem?_map] at hu
  obtain ⟨x, hx, rfl⟩ := Option.map_eq_some_iff.1 hu
  obtain ⟨hj, hxj⟩ := List.getElem?_eq_some_iff.1 hx
  obtain ⟨b', o', u, he, _, _, hc, rfl, _⟩ := h.at_ j hj
  injection he with he
  injection he with h1 h2
  subst h1; subst h2
  have : ((⟨b, off, none⟩ : Addr).add j) = ⟨b, off + j, none⟩ := by by_cases h : j = 0 <;> simp [Addr.add, h]
  rw [this, hc, hxj]
theorem RowAt.in64 {w : World} {ok : Nat → Prop} {v : Value} {xs : Row} (h : RowAt w ok v xs) : ∀ x ∈ xs, In64 x := by
  intro x hx
  obtain ⟨A, c, rfl, _⟩ := h.form
  obtain ⟨j, hj, rfl⟩ := List.mem_iff_getElem.1 hx
  obtain ⟨_, _, _, _, _, _, _, _, h64⟩ := h.at_ j hj
  exact h64
theorem info_int : (Try.prog.info? 3).map (fun i => (i.zero, i.size, i.bytes)) = some (some (.int .i64 0), 1, 8) := by kernel_rfl
theorem own_below {w : World} {B e n : Nat} {v : Value} {xs : List Value} (h : w.ownsRow B e 1 v n xs) : ∀ k, v.ownBlock = some k → B ≤ k := fun k hk => (h.lt k hk).1

set_option maxHeartbeats 1000000 in
set_option maxRecDepth 100000 in
theorem clone_any (w : World) (ok : Nat → Prop) (v : Value) (xs : Row) (h : RowAt w ok v xs) (hl : xs.length < 1000000) :
    Calls Try.prog 39 #[v] w fun e w' => ∃ cv, e = .returned cv ∧ RowAt w' (w.heap.size ≤ ·) cv xs ∧ Below w.heap.size w w' := by
  obtain ⟨A, c, rfl, hc, hm, hm2⟩ := h.form
  obtain ⟨ii, hii, hi0, hi1, hi2⟩ := info_parts info_int
  have hq := fun (w : World) a n c => Go.Lib.run_eql_slice_nil (P := Try.prog) w 29 3 a n c 0 0 Try.underlying29
  cases A with
  | none =>
    have h0 : xs.length = 0 := by
      rcases Nat.eq_zero_or_pos xs.length with h0 | h0
      · exact h0
      · obtain ⟨_, _, _, he, _⟩ := h.at_ 0 h0; cases he
    obtain rfl : xs = [] := List.length_eq_zero_iff.1 h0
    clear h hc hm hm2 hl h0
    simp only [List.length_nil]
    go_enter Try.func39, Try.ntmps39
    go_wp2
    go_ret
    exact ⟨_, rfl, SlAt.nil _ _ _ _ _ (by omega), Below.refl _ _⟩
  | some ad =>
    have HN : ∀ j u, (xs.map (Value.int .i64))[j]? = some u → w.cell? (ad.add j) = some u := by
      rcases Nat.eq_zero_or_pos xs.length with h0 | h0
      · obtain rfl : xs = [] := List.length_eq_zero_iff.1 h0
        intro j u hu; simp at hu
      · obtain ⟨b, o, _, he, _⟩ := h.at_ 0 h0
        cases he
        exact h.news
    have HNA := Aside0.mk (fun j u hu => (Stays.alloc (fun _ => True) w (.cells #[] 3)).cellA trivial (HN j u hu))
    have E0 := Aside0.mk (owns_empty w w.heap.size 3 (Nat.le_refl _))
    have H1 := Aside0.mk (show (xs.map (Value.int .i64)).length = xs.length * 1 by simp)
    have H2 := Aside0.mk (show ∀ u ∈ xs.map (Value.int .i64), u.oneCell' = true by intro u hu; obtain ⟨x, _, rfl⟩ := List.mem_map.1 hu; rfl)
    have H3 := Aside0.mk (show 0 + xs.length ≤ maxLen by unfold maxLen; omega)
    have H4 := Aside0.mk (show (0 + xs.length) * 8 ≤ 140737488355328 by omega)
    have H5 := Aside0.mk h.in64
    clear h HN hl
    go_enter Try.func39, Try.ntmps39
    go_wp2_with (at_builtin; refine wpList_append_own_at _ rfl (.tmp 5) (.tmp 6) 29 rfl w.heap.size 3 ii (.int .i64 0) 1 8 Try.underlying29 hii hi0 hi1 hi2 rfl (by decide) _ 0 [] rfl E0.out ad xs.length c (xs.map (Value.int .i64)) rfl H1.out HNA.out H2.out H3.out H4.out (by simp) ?_; intro v1 w1 ho hg _ hb; simp only [Nat.zero_add, List.nil_append] at ho; have O1 := Aside0.mk ho; have G1 := Aside0.mk hg; clear ho hg hb)
    go_ret
    refine ⟨_, rfl, RowAt.of_own O1.out (by omega) H5.out, ?_⟩
    exact (below_alloc0 (Below.refl _ _) _).grown G1.out (by simp) (fun k hk => by cases hk; exact Nat.le_refl _)
end Go.Proofs.Ytmgoefhihljggaa.Sg
