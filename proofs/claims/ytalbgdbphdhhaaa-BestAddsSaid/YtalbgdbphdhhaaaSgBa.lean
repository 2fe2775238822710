/- Contract: best.name, a key as a text; no two keys of one length have one name. -/
import Derived.Test.YtalbgdbphdhhaaaSgRl
import Derived.Laws.BytesArg
namespace Go.Proofs.Ytalbgdbphdhhaaa.Sg
open Go.RowKit Go.Shelf
set_option linter.unusedVariables false
set_option linter.unusedSimpArgs false

/-- The k-th byte of a number of 64 bits. -/
def byteOf (n : Int) (k : Nat) : Int := (n % 18446744073709551616) / (2 ^ (8 * k) : Nat) % 256
def bytes8 (n : Int) : List Int := (List.range 8).map (byteOf n)
def keyBytes (key : Row) : List Int := key.flatMap bytes8
def nameB (key : Row) : ByteArray := strOfNums (keyBytes key)
theorem bytes8_inj {a b : Int} (ha : In64 a) (hb : In64 b) (h : bytes8 a = bytes8 b) : a = b := by
  have key : ∀ k, k < 8 → byteOf a k = byteOf b k := fun k hk => by
    have := congrArg (fun l => l[k]?) h
    simpa [bytes8, hk] using this
  have h0 := key 0 (by omega)
  have h1 := key 1 (by omega)
  have h2 := key 2 (by omega)
  have h3 := key 3 (by omega)
  have h4 := key 4 (by omega)
  have h5 := key 5 (by omega)
  have h6 := key 6 (by omega)
  have h7 := key 7 (by omega)
  unfold byteOf at *
  unfold In64 at *
  simp only [Nat.mul_zero, Nat.reduceMul, Nat.reducePow, Nat.pow_zero] at h0 h1 h2 h3 h4 h5 h6 h7
  have e : a % 18446744073709551616 = b % 18446744073709551616 := by omega
  omega
theorem bytes8_length (n : Int) : (bytes8 n).length = 8 := by simp [bytes8]
theorem keyBytes_length : ∀ key : Row, (keyBytes key).length = 8 * key.length
  | [] => rfl
  | n :: key => by
    have := keyBytes_length key
    unfold keyBytes at *
    rw [List.flatMap_cons, List.length_append, bytes8_length, this, List.length_cons]; omega
theorem keyBytes_inj : ∀ {a b : Row}, (∀ x ∈ a, In64 x) → (∀ x ∈ b, In64 x) → a.length = b.length → keyBytes a = keyBytes b → a = b
  | [], [], _, _, _, _ => rfl
  | [], _ :: _, _, _, h, _ => by simp at h
  | _ :: _, [], _, _, h, _ => by simp at h
  | x :: a, y :: b, ha, hb, hl, h => by
    unfold keyBytes at h
    rw [List.flatMap_cons, List.flatMap_cons] at h
    obtain ⟨h1, h2⟩ := List.append_inj h (by rw [bytes8_length, bytes8_length])
    have e1 := bytes8_inj (ha x (List.mem_cons_self ..)) (hb y (List.mem_cons_self ..)) h1
    have e2 := keyBytes_inj (fun z hz => ha z (List.mem_cons_of_mem _ hz)) (fun z hz => hb z (List.mem_cons_of_mem _ hz)) (by simpa using hl) h2
    rw [e1, e2]
theorem byteOf_range (n : Int) (k : Nat) : 0 ≤ byteOf n k ∧ byteOf n k < 256 := by unfold byteOf; omega
theorem keyBytes_range (key : Row) : ∀ x ∈ keyBytes key, 0 ≤ x ∧ x < 256 := by
  intro x hx
  unfold keyBytes at hx
  obtain ⟨n, _, h⟩ := List.mem_flatMap.1 hx
  unfold bytes8 at h
  obtain ⟨k, _, rfl⟩ := List.mem_map.1 h
  exact byteOf_range n k
theorem nums_inj : ∀ {a b : List Int}, (∀ x ∈ a, 0 ≤ x ∧ x < 256) → (∀ x ∈ b, 0 ≤ x ∧ x < 256) → (a.map fun n => UInt8.ofNat n.toNat) = (b.map fun n => UInt8.ofNat n.toNat) → a = b
  | [], [], _, _, _ => rfl
  | [], _ :: _, _, _, h => by simp at h
  | _ :: _, [], _, _, h => by simp at h
  | x :: a, y :: b, ha, hb, h => by
    simp only [List.map_cons, List.cons.injEq] at h
    have h1 := ha x (List.mem_cons_self ..)
    have h2 := hb y (List.mem_cons_self ..)
    have h3 := congrArg UInt8.toNat h.1
    rw [UInt8.toNat_ofNat', UInt8.toNat_ofNat'] at h3
    have e : x = y := by omega
    rw [e, nums_inj (fun z hz => ha z (List.mem_cons_of_mem _ hz)) (fun z hz => hb z (List.mem_cons_of_mem _ hz)) h.2]
theorem nameB_inj {a b : Row} (ha : ∀ x ∈ a, In64 x) (hb : ∀ x ∈ b, In64 x) (hl : a.length = b.length) (h : nameB a = nameB b) : a = b := by
  unfold nameB at h
  have h1 := congrArg (fun s => s.data.toList) h
  simp only [strOfNums_data] at h1
  exact keyBytes_inj ha hb hl (nums_inj (keyBytes_range a) (keyBytes_range b) h1)
theorem nameB_size (key : Row) : (nameB key).size = 8 * key.length := by unfold nameB; rw [strOfNums_size, keyBytes_length]
theorem keyBytes_step (key : Row) (i : Nat) (h : i < key.length) : keyBytes (key.take (i + 1)) = keyBytes (key.take i) ++ bytes8 key[i] := by
  rw [List.take_succ_eq_append_getElem h]
  unfold keyBytes
  rw [List.flatMap_append]; simp
theorem info_u8 : (Try.prog.info? 5).map (fun i => (i.zero, i.size, i.bytes)) = some (some (.int .u8 0), 1, 1) := by kernel_rfl
/-- What has been written of a key. -/
def nameUp (key : Row) (i k : Nat) : List Int := keyBytes (key.take i) ++ (List.range k).map (byteOf (key.getD i 0))
theorem nameUp_zero (key : Row) (i : Nat) : nameUp key i 0 = keyBytes (key.take i) := by simp [nameUp]
theorem nameUp_succ (key : Row) (i k : Nat) : nameUp key i (k + 1) = nameUp key i k ++ [byteOf (key.getD i 0) k] := by simp [nameUp, List.range_succ]
theorem nameUp_eight (key : Row) (i : Nat) (h : i < key.length) : nameUp key i 8 = keyBytes (key.take (i + 1)) := by
  rw [keyBytes_step key i h]
  unfold nameUp bytes8
  simp [h]
theorem nameUp_length (key : Row) (i k : Nat) (h : i ≤ key.length) : (nameUp key i k).length = 8 * i + k := by
  unfold nameUp
  rw [List.length_append, keyBytes_length, List.length_take]
  simp; omega
end Go.Proofs.Ytalbgdbphdhhaaa.Sg
