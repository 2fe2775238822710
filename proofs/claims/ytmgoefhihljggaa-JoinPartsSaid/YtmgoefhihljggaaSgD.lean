/- Contract: rows in order laid as columns ('laid'). -/
import Derived.Test.YtmgoefhihljggaaSgB
namespace Go.Proofs.Ytmgoefhihljggaa.Sg
open Go.RowKit Go.Shelf
set_option linter.unusedVariables false
set_option linter.unusedSimpArgs false

def slc (b n : Nat) : Value := .slice (some ⟨b, 0, none⟩) n n
/-- Between two columns. -/
structure LaidInv (w : World) (B0 G n len : Nat) (cols : List Row) (k : Nat) (wr : World) : Prop where
  below : Below w.heap.size w wr
  ne : G ≠ B0
  geG : w.heap.size ≤ G
  blk : wr.heap[G]? = some (.cells #[.int .i64 n, .int .i64 len, slc B0 n] 63 (0, 0))
  ex : ∃ cs, wr.ownsRow w.heap.size 24 1 (slc B0 n) n cs ∧ ∀ j, j < k → ∃ u, cs[j]? = some u ∧ RowAt wr (fun b => w.heap.size ≤ b ∧ b ≠ B0) u (cols.getD j [])
/-- Within a column. -/
structure LaidIn (w : World) (B0 G n len : Nat) (cols : List Row) (k B1 : Nat) (col : Row) (i : Nat) (wi : World) : Prop where
  below : Below w.heap.size w wi
  ne : G ≠ B0
  geG : w.heap.size ≤ G
  ne1 : B1 ≠ B0
  ne2 : B1 ≠ G
  ge : w.heap.size ≤ B1
  blk : wi.heap[G]? = some (.cells #[.int .i64 n, .int .i64 len, slc B0 n] 63 (0, 0))
  own1 : wi.ownsRow w.heap.size 2 1 (slc B1 len) len (part col i)
  ex : ∃ cs, wi.ownsRow w.heap.size 24 1 (slc B0 n) n cs ∧ cs[k]? = some (slc B1 len) ∧ ∀ j, j < k → ∃ u, cs[j]? = some u ∧ RowAt wi (fun b => w.heap.size ≤ b ∧ b ≠ B0 ∧ b ≠ B1) u (cols.getD j [])
theorem LaidInv.start (w : World) (n len : Nat) (cols : List Row) (hn : n < 1000000) :
    LaidInv w w.heap.size (w.heap.size + 1) n len cols 0 ((w.alloc (.cells (madeCells #[.slice none 0 0] n) 24)).alloc (.cells #[.int .i64 n, .int .i64 len, slc w.heap.size n] 63)) := by
  have h1 := owns_new w w.heap.size 24 n (.slice none 0 0) (Nat.le_refl _) (by omega)
  refine ⟨below_alloc0 (below_alloc0 (Below.refl _ _) _) _, by omega, by omega, ?_, ⟨_, (Stays.alloc (fun _ => True) _ _).owns h1 (fun _ _ => trivial), fun j hj => by omega⟩⟩
  have := heap_alloc_new (w.alloc (.cells (madeCells #[.slice none 0 0] n) 24)) (.cells #[.int .i64 n, .int .i64 len, slc w.heap.size n] 63)
  rw [World.size_alloc] at this
  exact this
/-- The new column is laid and stored. -/
theorem LaidInv.enter {w : World} {B0 G n len : Nat} {cols : List Row} {k : Nat} {wr : World} (h : LaidInv w B0 G n len cols k wr) (hk : k < n) (hl : len < 1000000) (col : Row) (hc : col.length = len) :
    LaidIn w B0 G n len cols k wr.heap.size col 0 ((wr.setCell ⟨B0, k, none⟩ (slc wr.heap.size len)).alloc (.cells (madeCells #[.int .i64 0] len) 2)).drew := by
  obtain ⟨cs, ho, hcs⟩ := h.ex
  have hl0 : cs.length = n := by rw [ho.1]; omega
  have hB0 : B0 < wr.heap.size := (owns_at ho (List.getElem?_eq_getElem (show k < cs.length by omega))).2.2
  have hG : G < wr.heap.size := (Array.getElem?_eq_some_iff.1 h.blk).1
  have hge : w.heap.size ≤ B0 := by
    rcases ho.2 with ⟨e, _⟩ | ⟨g, cap, cur, e, hb, _⟩
    · cases e
    · cases e; exact hb
  have ss := Stays.setCell wr ⟨B0, k, none⟩ (slc wr.heap.size len)
  have hsz : (wr.setCell ⟨B0, k, none⟩ (slc wr.heap.size len)).heap.size = wr.heap.size := by simp
  obtain ⟨o2, _⟩ := ho.stored k (slc wr.heap.size len)
  have hb2 : Below w.heap.size w (wr.setCell ⟨B0, k, none⟩ (slc wr.heap.size len)) := below_setCell h.below (p := ⟨B0, k, none⟩) hge _
  generalize wr.setCell ⟨B0, k, none⟩ (slc wr.heap.size len) = w2 at *
  have h1 := owns_new w2 w.heap.size 2 len (.int .i64 0) (by rw [hsz]; exact h.below.size) (by omega)
  have sa := Stays.alloc (fun _ => True) w2 (.cells (madeCells #[.int .i64 0] len) 2)
  rw [hsz] at h1
  refine ⟨below_drew (below_alloc hb2 (by rw [hsz]; exact h.below.size) _), h.ne, h.geG, by omega, by omega, h.below.size, sa.blk trivial (ss.blk (by exact h.ne) h.blk), ?_, ?_⟩
  · rw [part_zero, hc]
    exact h1
  · refine ⟨_, sa.owns o2 (fun _ _ => trivial), by rw [List.getElem?_set, if_pos rfl, if_pos (by omega)], fun j hj => ?_⟩
    obtain ⟨u, hu, hr⟩ := hcs j hj
    refine ⟨u, by rw [List.getElem?_set, if_neg (by omega)]; exact hu, ?_⟩
    have hr2 := reads_row.mono (ok2 := fun b => w.heap.size ≤ b ∧ b ≠ B0 ∧ b ≠ wr.heap.size) hr (fun b hb hlt => ⟨hb.1, hb.2, by omega⟩)
    exact reads_row.stays (reads_row.stays hr2 (ss.mono fun b hb _ => hb.2.1)) (sa.mono fun _ _ _ => trivial)
theorem LaidIn.step {w : World} {B0 G n len : Nat} {cols : List Row} {k B1 : Nat} {col : Row} {i : Nat} {wi : World} (h : LaidIn w B0 G n len cols k B1 col i wi) (hi : i < col.length) :
    LaidIn w B0 G n len cols k B1 col (i + 1) (wi.setCell ⟨B1, i, none⟩ (.int .i64 (col.getD i 0))).drew := by
  obtain ⟨cs, ho, hk, hcs⟩ := h.ex
  have ss := Stays.setCell wi ⟨B1, i, none⟩ (.int .i64 (col.getD i 0))
  obtain ⟨o2, _⟩ := h.own1.stored i (.int .i64 (col.getD i 0))
  rw [part_set col i hi] at o2
  refine ⟨below_drew (below_setCell h.below (p := ⟨B1, i, none⟩) h.ge _), h.ne, h.geG, h.ne1, h.ne2, h.ge, ss.blk (fun e => h.ne2 e.symm) h.blk, o2, ⟨cs, ss.owns ho (fun j hj => by cases hj; exact fun e => h.ne1 e.symm), hk, fun j hj => ?_⟩⟩
  obtain ⟨u, hu, hr⟩ := hcs j hj
  exact ⟨u, hu, reads_row.stays hr (ss.mono fun b hb _ => hb.2.2)⟩
theorem LaidIn.leave {w : World} {B0 G n len : Nat} {cols : List Row} {k B1 : Nat} {col : Row} {i : Nat} {wi : World} (h : LaidIn w B0 G n len cols k B1 col i wi) (hi : i = len) (hc : col.length = len) (hl : len < 1000000) (hk : k < cols.length) (hcol : cols.getD k [] = col) (hin : ∀ x ∈ col, In64 x) :
    LaidInv w B0 G n len cols (k + 1) wi := by
  obtain ⟨cs, ho, hks, hcs⟩ := h.ex
  subst hi
  refine ⟨h.below, h.ne, h.geG, h.blk, ⟨cs, ho, fun j hj => ?_⟩⟩
  by_cases e : j = k
  · subst e
    refine ⟨_, hks, ?_⟩
    rw [hcol]
    have o := h.own1
    rw [← hc, part_all] at o
    rw [← hc]
    refine SlAt.of_own0 o rfl ?_ (by omega) fun j hj u hu => ?_
    · intro b hb _; cases hb; exact ⟨h.ge, h.ne1⟩
    · rw [List.getElem?_map, List.getElem?_eq_getElem hj] at hu
      exact ⟨(Option.some.inj hu).symm, hin _ (List.getElem_mem hj)⟩
  · obtain ⟨u, hu, hr⟩ := hcs j (by omega)
    exact ⟨u, hu, reads_row.mono hr (fun b hb _ => ⟨hb.1, hb.2.1⟩)⟩
theorem LaidInv.done {w : World} {B0 G n len : Nat} {rs : List Row} {wr : World} (h : LaidInv w B0 G n len (colsOf n rs) n wr) (hn : n < 1000000) (hl : rs.length < 1000000) (hle : len = rs.length) (hr : ∀ r ∈ rs, r.length = n ∧ ∀ x ∈ r, In64 x) :
    SegAt wr (w.heap.size ≤ ·) (.pointer (some ⟨G, 0, none⟩)) n rs := by
  obtain ⟨cs, ho, hcs⟩ := h.ex
  subst hle
  refine ⟨⟨G, slc B0 n, rfl, h.geG, ?_, ?_, ?_, ?_⟩, by omega, hn, hr⟩
  · rw [cell_of_row wr G 0 _ _ _ h.blk]; rfl
  · rw [cell_of_row wr G 1 _ _ _ h.blk]; rfl
  · rw [cell_of_row wr G 2 _ _ _ h.blk]; rfl
  · have hcl := colsOf_length n rs
    refine SlAt.of_own0 ho hcl.symm (fun b _ hb => hb) (by omega) fun j hj u hu => ?_
    obtain ⟨u', hu', hr'⟩ := hcs j (by omega)
    rw [hu] at hu'
    cases hu'
    have e : (colsOf n rs).getD j [] = (colsOf n rs)[j] := by simp only [List.getD_eq_getElem?_getD, List.getElem?_eq_getElem hj, Option.getD_some]
    rw [e] at hr'
    exact reads_row.mono hr' (fun b hb _ => hb.1)

set_option maxHeartbeats 1000000 in
set_option maxRecDepth 100000 in
theorem laid_any (w : World) (ok : Nat → Prop) (lv : Value) (n : Nat) (rs : List Row) (h : RowsAt w ok lv rs) (hW : n < 1000000) (hlen : rs.length < 1000000) (hl : ∀ r ∈ rs, r.length = n ∧ ∀ x ∈ r, In64 x) :
    Calls Try.prog 21 #[.int .i64 n, lv] w fun e w' => ∃ rv, e = .returned rv ∧ SegAt w' (w.heap.size ≤ ·) rv n rs ∧ Below w.heap.size w w' := by
  obtain ⟨Al, cl, rfl, hcl, hlm, _⟩ := h.form
  have hm1 := fun w => run_make_row' (P := Try.prog) 23 24 (.slice none 0 0) 24 Try.underlying23 info_row rfl .i64 .i64 n (by omega) (by omega) w
  have hm2 := fun w => run_make_row' (P := Try.prog) 24 2 (.int .i64 0) 8 Try.underlying24 info_i64 rfl .i64 .i64 rs.length (by omega) (by omega) w
  have ST := Aside0.mk (LaidInv.start w n rs.length (colsOf n rs) hW)
  unfold slc at ST
  have HH := Aside0.mk h
  have HL := Aside0.mk hl
  clear h hl
  go_enter Try.func21, Try.ntmps21
  go_wp2
  go_loopw [22] (fun s wr => ∃ k : Nat, s = .int .i64 k ∧ k ≤ n ∧ Aside0 (LaidInv w w.heap.size (w.heap.size + 1) n rs.length (colsOf n rs) k wr)) (fun s _ => n - (intOf s).toNat)
  case atStart => exact ⟨0, rfl, Nat.zero_le _, ST⟩
  case round =>
    obtain ⟨k, rfl, hk, HI⟩ := hrel
    obtain ⟨wo, rfl⟩ : ∃ wo : World, wo = wr := ⟨_, rfl⟩
    clear ST
    by_cases hlt : k < n
    · have k2 : wo.cell? ⟨w.heap.size + 1, 2, none⟩ = some (.slice (some ⟨w.heap.size, 0, none⟩) n n) := by rw [cell_of_row wo _ 2 _ _ _ HI.out.blk]; rfl
      obtain ⟨cs, ho, _⟩ := HI.out.ex
      have hcs : cs.length = n := by rw [ho.1]; omega
      obtain ⟨hc, hf, hB0⟩ := owns_at ho (List.getElem?_eq_getElem (show k < cs.length by omega))
      generalize cs[k]'_ = old at hc
      have hG := (Array.getElem?_eq_some_iff.1 HI.out.blk).1
      clear ho hcs
      obtain ⟨col, hcol⟩ : ∃ col : Row, rs.map (fun r => r.getD k 0) = col := ⟨_, rfl⟩
      have hcl2 : col.length = rs.length := by rw [← hcol]; simp
      have EN := Aside0.mk (HI.out.enter hlt hlen col hcl2)
      unfold slc at EN
      have HC := Aside0.mk hcol
      have HC2 := Aside0.mk hcl2
      have HLEN := Aside0.mk hlen
      clear hcol hcl2 hlen
      go_wp2
      go_region
      go_wp2
      go_loopw [36] (fun s wi => ∃ i : Nat, s = .int .i64 i ∧ i ≤ rs.length ∧ Aside0 (LaidIn w w.heap.size (w.heap.size + 1) n rs.length (colsOf n rs) k wo.heap.size col i wi)) (fun s _ => rs.length - (intOf s).toNat)
      case atStart => exact ⟨0, rfl, Nat.zero_le _, EN⟩
      case round =>
        obtain ⟨i, rfl, hi, HJ⟩ := hrel
        clear k2 hc hf EN
        by_cases hlt2 : i < rs.length
        · have k2 : wr.cell? ⟨w.heap.size + 1, 2, none⟩ = some (.slice (some ⟨w.heap.size, 0, none⟩) n n) := by rw [cell_of_row wr _ 2 _ _ _ HJ.out.blk]; rfl
          obtain ⟨cs2, ho, hk2, _⟩ := HJ.out.ex
          obtain ⟨hc2, _, _⟩ := owns_at ho hk2
          have hpl : (part col i).length = rs.length := by rw [part_length col i (by rw [HC2.out]; omega), HC2.out]
          obtain ⟨hc1, hf1, _⟩ := owns_at HJ.out.own1 (List.getElem?_eq_getElem (show i < (part col i).length by rw [hpl]; exact hlt2))
          generalize (part col i)[i]'_ = old1 at hc1
          unfold slc at hc2
          obtain ⟨bl, ol, ul, rfl, _, _, hcl1, hrl⟩ := (HH.out.below reads_row HJ.out.below).at_ i hlt2
          have hrn := (HL.out _ (List.getElem_mem hlt2)).1
          obtain ⟨Ar, cr, rfl, hcr, hrm, _⟩ := hrl.form
          obtain ⟨br, or_, ur, rfl, _, _, hcr0, rfl, hz⟩ := hrl.at_ k (by rw [hrn]; exact hlt)
          clear hz
          rw [hrn] at hcl1 hcr hrm
          have hval : (rs[i])[k]'(by rw [hrn]; exact hlt) = col.getD i 0 := by
            rw [← HC.out]
            simp [List.getD_eq_getElem?_getD, hlt2, hrn, hlt]
          rw [hval] at hcr0
          have ST := Aside0.mk (HJ.out.step (by rw [HC2.out]; exact hlt2))
          generalize col.getD i 0 = x at hcr0 ST
          clear ho hk2 hrn hval hrl hpl
          go_wp2
          go_region
          go_wp2
          go_roundw
          case rel => exact ⟨i + 1, by go_num, by omega, ST⟩
          case measure => simp [intOf]; omega
        · have hcin : ∀ x ∈ col, In64 x := by
            rw [← HC.out]
            intro x hx
            obtain ⟨r, hr, rfl⟩ := List.mem_map.1 hx
            exact In64.getD (HL.out r hr).2 k
          have LV := Aside0.mk (HJ.out.leave (show i = rs.length by omega) HC2.out HLEN.out (by rw [colsOf_length]; exact hlt) (by rw [List.getD_eq_getElem?_getD, List.getElem?_eq_getElem (by rw [colsOf_length]; exact hlt), Option.getD_some, colsOf_get]; exact HC.out) hcin)
          clear hcin
          go_wp2
          go_roundw
          case rel => exact ⟨k + 1, by go_num, by omega, LV⟩
          case measure => simp [intOf]; omega
    · obtain rfl : k = n := by omega
      have DN := Aside0.mk (HI.out.done hW hlen rfl HL.out)
      go_wp2
      go_ret
      exact ⟨_, rfl, DN.out, HI.out.below⟩
end Go.Proofs.Ytmgoefhihljggaa.Sg
