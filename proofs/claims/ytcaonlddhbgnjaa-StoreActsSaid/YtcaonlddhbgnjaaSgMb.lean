/- merge.Rows: the iterator. -/
import Derived.Test.YtcaonlddhbgnjaaSgMa
import Derived.Test.YtcaonlddhbgnjaaSgRq
import Derived.Sort.LoopGhostIn
namespace Go.Proofs.Ytcaonlddhbgnjaa.Mg
open Go.RowKit Go.Shelf Go.Proofs.Ytcaonlddhbgnjaa.Sg Go.Proofs.Ytcaonlddhbgnjaa.Hm Go.Proofs.Ytcaonlddhbgnjaa.Hc
attribute [local go_sem] Oper.semAt_some
set_option linter.unusedVariables false
set_option linter.unusedSimpArgs false

def RowsX (flat : List Row) (pre : List RowV) (x : RowV) (R : Nat → Prop) (w : World) : Prop := pre.length < flat.length ∧ RowAt w R x.1 x.2
theorem RowsX.kept {flat : List Row} : ∀ pre x R A B, RowsX flat pre x R A → Keeps R A B → RowsX flat pre x R B := fun pre x R A B h hk => ⟨h.1, reads_row.stays h.2 hk.stays⟩
def RowsS (flat : List Row) (xs : List RowV) : Prop := Merged flat (rowsOf xs)
def RowsSp (flat : List Row) (xs : List RowV) : Prop := xs.length ≤ flat.length
/-- A kept world, as Keeps. -/
theorem Kept.keeps {w W : World} {S : Nat → Prop} (h : Kept w W S) : Keeps (fun b => ¬ S b) w W := ⟨h.os, h.tape, h.output, h.size, fun b hb hn => h.blk b hb hn⟩
theorem Keeps.kept {w W : World} {ok : Nat → Prop} (h : Keeps ok w W) : Kept w W (fun b => ¬ ok b) := ⟨h.size, fun b hb hn => h.block b hb (Classical.not_not.1 hn), h.os, h.tape, h.output⟩
/-- The cursors that were laid in: each set that has rows. -/
def firsts (look : Look) : List (Option Addr) → Int → List E
  | [], _ => []
  | p :: ps, c => if 0 < (look p).length then ((p, 0), c) :: firsts look ps (c + 1) else firsts look ps c
def firstsN (look : Look) (ps : List (Option Addr)) : Nat := (ps.filter fun p => decide (0 < (look p).length)).length
theorem firsts_snoc (look : Look) (p : Option Addr) : ∀ (ps : List (Option Addr)) (c : Int), firsts look (ps ++ [p]) c = firsts look ps c ++ (if 0 < (look p).length then [((p, 0), c + firstsN look ps)] else [])
  | [], c => by simp [firsts, firstsN]
  | q :: ps, c => by
    simp only [List.cons_append, firsts]
    by_cases h : 0 < (look q).length
    · have e : firstsN look (q :: ps) = firstsN look ps + 1 := by unfold firstsN; rw [List.filter_cons, if_pos (by simpa using h)]; rfl
      rw [if_pos h, if_pos h, firsts_snoc look p ps (c + 1), e, show c + 1 + (firstsN look ps : Int) = c + ((firstsN look ps + 1 : Nat) : Int) by omega]
      rfl
    · have e : firstsN look (q :: ps) = firstsN look ps := by unfold firstsN; rw [List.filter_cons, if_neg (by simpa using h)]
      rw [if_neg h, if_neg h, firsts_snoc look p ps c, e]
theorem firsts_mem {look : Look} {e : E} : ∀ {ps : List (Option Addr)} {c : Int}, e ∈ firsts look ps c → okC look ps e.1
  | [], c, h => by simp [firsts] at h
  | p :: ps, c, h => by
    unfold firsts at h
    split at h
    · rename_i hp
      rcases List.mem_cons.1 h with rfl | h
      · exact ⟨by simp, Int.le_refl 0, hp⟩
      · have := firsts_mem h; exact ⟨List.mem_cons_of_mem _ this.1, this.2⟩
    · have := firsts_mem h; exact ⟨List.mem_cons_of_mem _ this.1, this.2⟩
theorem firsts_flat (look : Look) : ∀ (ps : List (Option Addr)) (c : Int), ((firsts look ps c).flatMap fun e => restC look e.1) = ps.flatMap look
  | [], c => rfl
  | p :: ps, c => by
    unfold firsts
    split
    · rw [List.flatMap_cons, List.flatMap_cons, firsts_flat look ps (c + 1)]
      have e : restC look ((p, (0 : Int)), c).1 = look p := by unfold restC; simp
      rw [e]
    · rename_i hn
      have e : look p = [] := by
        cases h : look p with
        | nil => rfl
        | cons a l => rw [h] at hn; simp at hn
      rw [List.flatMap_cons, firsts_flat look ps c, e]; rfl
theorem firsts_len (look : Look) : ∀ (ps : List (Option Addr)) (c : Int), (firsts look ps c).length = firstsN look ps ∧ firstsN look ps ≤ ps.length
  | [], c => ⟨rfl, Nat.le_refl _⟩
  | p :: ps, c => by
    have h1 := firsts_len look ps c
    have h2 := firsts_len look ps (c + 1)
    by_cases h : 0 < (look p).length
    · have e : firstsN look (p :: ps) = firstsN look ps + 1 := by unfold firstsN; rw [List.filter_cons, if_pos (by simpa using h)]; rfl
      have e2 : firsts look (p :: ps) c = ((p, 0), c) :: firsts look ps (c + 1) := by rw [firsts, if_pos h]
      rw [e, e2, List.length_cons, List.length_cons]
      omega
    · have e : firstsN look (p :: ps) = firstsN look ps := by unfold firstsN; rw [List.filter_cons, if_neg (by simpa using h)]
      have e2 : firsts look (p :: ps) c = firsts look ps c := by rw [firsts, if_neg h]
      rw [e, e2, List.length_cons]
      omega
theorem two_facts {w : World} {g : Nat} {c0 c1 : Value} {T : TypeId} (h : w.heap[g]? = some (.cells #[c0, c1] T (0, 0))) : w.cell? ⟨g, 0, none⟩ = some c0 ∧ w.cell? ⟨g, 1, none⟩ = some c1 ∧ w.frozen? ⟨g, 0, none⟩ = false ∧ w.frozen? ⟨g, 1, none⟩ = false :=
  ⟨by rw [cell_of_row w g 0 _ _ _ h]; rfl, by rw [cell_of_row w g 1 _ _ _ h]; rfl, frozen_of_row w g 0 _ _ h, frozen_of_row w g 1 _ _ h⟩
theorem mi_start {look : Look} {ps : List (Option Addr)} : MI look (ps.flatMap look) [] (firsts look ps 0) := ⟨by rw [firsts_flat]; exact List.Perm.refl _, List.Pairwise.nil, fun r hr => by simp at hr⟩

set_option maxRecDepth 100000 in
set_option maxHeartbeats 8000000 in
theorem rows1_in (n n0 bs : Nat) (lv : Value) (ps : List (Option Addr)) (look : Look) (w : World) (hv : Boxed w bs 40 lv) (hl : PsAt w (· < n0) lv ps) (hI : invC look ps n0 w) (hSS : ∀ p ∈ ps, SS (look p)) (hflat : (ps.flatMap look).length < 900000) (hps : ps.length < 900000) (hn0 : n0 ≤ w.heap.size) :
    SeqU Try.prog n 66 #[.pointer (some ⟨bs, 0, none⟩)] encR n0 (· = bs) (RowsX (ps.flatMap look)) (RowsS (ps.flatMap look)) (RowsSp (ps.flatMap look)) w := by
  intro l J Jx W hW hJ hY h0
  have hbx : Boxed W bs 40 lv := (hW.block bs hv.lt (.inr rfl)).trans hv
  have hIW := hI.keeps hW (fun b hb => .inl hb)
  have hlW := reads_ps.stays hl (hW.stays.mono (fun b hb _ => .inl hb))
  have hnW : n0 ≤ W.heap.size := Nat.le_trans hn0 hW.size
  obtain ⟨Al, cl, hlf, hlc, _, _⟩ := hlW.form
  subst hlf
  have HL := Aside0.mk hlW
  have HIW := Aside0.mk hIW
  have HJ := Aside0.mk hJ
  have HY := Aside0.mk hY
  have H0 := Aside0.mk h0
  have HBX := Aside0.mk hbx
  have HSS := Aside0.mk hSS
  have hbc := hbx.cell
  have NW : Calls Try.prog 67 #[.func (.func 68) #[] #[]] W _ := new_S (ordC look ps n0) W n0 (ordC_ok look ps n0) hnW hIW
  have NW := Aside0.mk NW
  clear hW hJ hY h0 hv hl hI hSS hbx hIW hlW
  refine callsIn_of_wp Try.func66 rfl trivial ?_ rfl
  simp only [Try.ntmps66, List.size_toArray, List.length_cons, List.length_nil, Nat.reduceAdd, Nat.reduceSub, Array.replicate_succ, Array.replicate_zero, List.push_toArray, List.append_toArray, List.nil_append, List.cons_append]
  gi_wp2_with (refine ⟨trivial, (fun h => by cases h), ?_⟩; gi_at_call 67; refine (callsIn_wide.2 NW.out).mono ?_; rintro e w2 ⟨rfl, H2, B2, hlt2⟩; have H2 := Aside0.mk H2; have B2 := Aside0.mk B2; have hbc2 := below_cell0 B2.out hbc)
  gi_loopw [11] (fun s11 wr => ∃ (k : Nat) (F : Nat → Prop), s11 = .int .i64 k ∧ k ≤ ps.length ∧ Aside0 (HeapS wr n0 W.heap.size F (ordC look ps n0) (firsts look (ps.take k) 0) (firstsN look (ps.take k))) ∧ Aside0 (Below W.heap.size W wr) ∧ Aside0 (∀ b, F b → W.heap.size ≤ b)) (fun s11 _ => ps.length - (intOf s11).toNat)
  case atStart => exact ⟨0, _, rfl, Nat.zero_le _, H2, B2, ⟨fun b hb => by rw [hb]; exact Nat.le_refl _⟩⟩
  case round =>
    obtain ⟨k, F, rfl, hk, HH, HB, HF⟩ := hrel
    clear H2 B2
    by_cases hlt : k < ps.length
    · obtain ⟨bl, ol, ul, hbl, _, _, hcl, hul⟩ := (reads_ps.stays HL.out (Stays.of_belowB (HB.out.mono hnW))).at_ k hlt
      subst hbl
      have hul : ul = .pointer ps[k] := hul
      subst hul
      have hmem := List.getElem_mem hlt
      obtain ⟨Wk, hsk⟩ := (HIW.out.below (HB.out.mono hnW)) _ hmem
      have LN := Aside0.mk (lenN_any wr _ _ _ _ hsk)
      have SNK := Aside0.mk (firsts_snoc look ps[k] (ps.take k) 0)
      have FNK := Aside0.mk (show firstsN look (ps.take k ++ [ps[k]]) = firstsN look (ps.take k) + (if 0 < (look ps[k]).length then 1 else 0) by unfold firstsN; rw [List.filter_append, List.length_append, List.filter_cons]; split <;> simp_all)
      have TK := Aside0.mk (List.take_succ_eq_append_getElem hlt)
      have hfl := firsts_len look (ps.take k) 0
      have htl : (ps.take k).length ≤ k := List.length_take_le _ _
      have OKK := Aside0.mk (show 0 < (look ps[k]).length → okC look ps (ps[k], 0) from fun h => ⟨hmem, Int.le_refl 0, h⟩)
      have hfl1 : (firsts look (ps.take k) 0).length < 1000000 := by omega
      have hfl2 : (firstsN look (ps.take k) : Int) < 1000000000000 := by omega
      have PU := Aside0.mk (fun h => push_S (ordC_ok look ps n0) (good_ltC look) _ F _ _ ps[k] 0 wr HH.out (OKK.out h) hfl1 (by omega) hfl2)
      generalize ps[k] = p at *
      clear hsk hmem hfl htl
      by_cases hp : 0 < (look p).length
      · have PU := Aside0.mk (PU.out hp)
        have SNK := Aside0.mk (by have h9 := SNK.out; rw [if_pos hp] at h9; exact h9)
        have FNK := Aside0.mk (by have h9 := FNK.out; rw [if_pos hp] at h9; exact h9)
        have hpi : (0 : Int) < ((look p).length : Int) := by omega
        gi_wp2_with (first
          | (refine ⟨trivial, (fun h => by cases h), ?_⟩; gi_at_call 18; refine (callsIn_wide.2 LN.out).mono ?_; rintro e w' ⟨rfl, rfl⟩)
          | (refine ⟨trivial, (fun h => by cases h), ?_⟩; gi_at_call 70; refine (callsIn_wide.2 PU.out).mono ?_; rintro e w4 ⟨rfl, F4, H4, gr4, K4⟩; have H4 := Aside0.mk H4; have gr4 := Aside0.mk gr4; have K4 := Aside0.mk K4))
        go_roundw
        case rel => exact ⟨k + 1, F4, by go_num, by omega, ⟨by rw [TK.out, SNK.out, FNK.out]; have h9 := H4.out; rw [Int.zero_add]; exact h9⟩, ⟨HB.out.trans (K4.out.below HB.out.size HF.out)⟩, ⟨fun b hb => by rcases gr4.out b hb with q | q; exact HF.out b q; have := HB.out.size; omega⟩⟩
        case measure => simp [intOf]; omega
      · have SNK := Aside0.mk (by have h9 := SNK.out; rw [if_neg hp, List.append_nil] at h9; exact h9)
        have FNK := Aside0.mk (by have h9 := FNK.out; rw [if_neg hp, Nat.add_zero] at h9; exact h9)
        have hpi : ¬ (0 : Int) < ((look p).length : Int) := by omega
        gi_wp2_with (refine ⟨trivial, (fun h => by cases h), ?_⟩; gi_at_call 18; refine (callsIn_wide.2 LN.out).mono ?_; rintro e w' ⟨rfl, rfl⟩)
        go_roundw
        case rel => exact ⟨k + 1, F, by go_num, by omega, ⟨by rw [TK.out, SNK.out, FNK.out]; exact HH.out⟩, HB, HF⟩
        case measure => simp [intOf]; omega
    · obtain rfl : k = ps.length := by omega
      have HH := Aside0.mk (by have h9 := HH.out; rw [List.take_length] at h9; exact h9)
      have hfl := firsts_len look ps 0
      have J1 := Aside0.mk (HJ.out [] (· = bs) (fun b => b = bs ∨ F b) W wr H0.out (Keeps.all HB.out _) (fun b hb => hb.imp id (HF.out b)))
      have HBL := Aside0.mk (Nat.lt_of_lt_of_le HBX.out.lt HB.out.size)
      have hnr : n0 ≤ wr.heap.size := Nat.le_trans hnW HB.out.size
      have hcs : (firstsN look ps : Int) ≤ (ps.length : Int) := by omega
      have hcs2 : (firsts look ps 0).length ≤ ps.length := by omega
      obtain ⟨flat, hflat9⟩ : ∃ flat, ps.flatMap look = flat := ⟨_, rfl⟩
      have MS := Aside0.mk (show MI look flat (rowsOf []) (firsts look ps 0) by rw [← hflat9]; exact mi_start)
      rw [hflat9] at hflat HY
      have HFE := Aside0.mk hflat9
      clear hfl hflat9 hbc2 hbc H0 HL
      gi_wp2
      obtain ⟨wf, hwf⟩ : ∃ wf : World, wf = wr := ⟨_, rfl⟩
      have HBS := Aside0.mk (show bs < wr.heap.size from HBL.out)
      gi_loopg [] flat.length (fun gh wi => ∃ (pre : List RowV) (F : Nat → Prop) (HC : List E) (c : Int), Aside0 (HeapS wi n0 W.heap.size F (ordC look ps n0) HC c) ∧ Aside0 (MI look flat (rowsOf pre) HC) ∧ Aside0 (J pre (fun b => b = bs ∨ F b) wi) ∧ Aside0 (bs < wi.heap.size ∧ n0 ≤ wi.heap.size) ∧ flat.length ≤ gh + pre.length ∧ 0 ≤ c ∧ c ≤ (ps.length : Int) + (pre.length : Int) ∧ HC.length ≤ ps.length)
      case atStart => exact ⟨[], F, firsts look ps 0, _, HH, MS, J1, ⟨HBL.out, hnr⟩, by simp, by omega, by simp; omega, by omega⟩
      case round =>
        clear HH J1 HBL hnr hcs hcs2 MS HBS
        obtain ⟨pre, F, HC, c, HH, HM, HJp, HZ, hgh, hc0, hc1, hcl⟩ := hrel
        have hml := HM.out.len
        have hrl : (rowsOf pre).length = pre.length := by simp [rowsOf]
        cases HC with
        | nil =>
          have P0 := Aside0.mk (pop_S0 _ F c wr HH.out)
          gi_wp2_with (refine ⟨trivial, (fun h => by cases h), ?_⟩; gi_at_call 71; refine (callsIn_wide.2 P0.out).mono ?_; rintro e w3 ⟨rfl, B3⟩; have B3 := Aside0.mk B3)
          refine ⟨trivial, ?_⟩
          gi_wp2
          refine ⟨(fun f h => by cases h), ?_⟩
          gi_wp2
          refine bodyPost_ret (results_none rfl _ _ _) rfl ?_
          exact ⟨⟨_, rfl⟩, .inl ⟨pre, _, by show Merged _ _; rw [HFE.out]; exact HM.out.done, HJ.out pre _ _ wr _ HJp.out (Keeps.all (below_trans0 B3.out (below_alloc0 (Below.refl _ _) _)) _) (fun b hb => .inl hb)⟩⟩
        | cons e0 HC0 =>
          obtain ⟨HC, hHC⟩ : ∃ HC, e0 :: HC0 = HC := ⟨_, rfl⟩
          rw [hHC] at HH HM hml hcl
          have hne : 0 < HC.length := by rw [← hHC]; simp
          obtain ⟨x, HC', hpp, hpc⟩ := pop_S (ordC_ok look ps n0) (good_ltC look) _ F HC c wr HH.out (by omega) hne
          obtain ⟨cx, hperm, hmin⟩ := hpp
          have hokx : okC look ps x := (HH.out.oks (x, cx) (hperm.mem_iff.2 (by simp)))
          have hokH := HH.out.oks
          have MST := Aside0.mk (fun c2 => HM.out.step (c2 := c2) HSS.out hokH hperm hmin)
          have hlen' : HC.length = HC'.length + 1 := hperm.length_eq
          have hbsF := HH.out.bs
          have hrest : 0 < (HC.flatMap fun e => restC look e.1).length := by
            have h1 := (hperm.flatMap_right (fun e => restC look e.1)).length_eq
            rw [h1, List.flatMap_cons, List.length_append, restC_cons hokx]
            simp only [List.length_cons]
            omega
          have PC := Aside0.mk hpc
          have HBF := Aside0.mk hbsF
          obtain ⟨xp, xa⟩ := x
          obtain ⟨hx1, hx2, hx3⟩ := hokx
          simp only at hx1 hx2 hx3 MST
          obtain ⟨t, rfl⟩ : ∃ t : Nat, xa = (t : Int) := ⟨xa.toNat, by omega⟩
          have ht : ((t : Int)).toNat = t := by omega
          rw [ht] at hx3 MST
          have HXM := Aside0.mk hx1
          have HRC := Aside0.mk (show (look xp)[t]? = some (curRow look (xp, (t : Int))) by unfold curRow; rw [List.getD_eq_getElem?_getD]; show _ = some (((look xp)[((t : Int)).toNat]?).getD []); rw [ht, List.getElem?_eq_getElem hx3]; rfl)
          obtain ⟨r, hr⟩ : ∃ r, curRow look (xp, (t : Int)) = r := ⟨_, rfl⟩
          rw [hr] at MST HRC
          have IV := Aside0.mk (HH.out.inv)
          have h6 : pre.length < flat.length := by omega
          clear hperm hmin hokH hpc hHC hr hx1 hbsF HH hml ht
          gi_wp2_with (refine ⟨trivial, (fun h => by cases h), ?_⟩; gi_at_call 71; refine (callsIn_wide.2 PC.out).mono ?_; rintro e w3 ⟨rfl, H3, K3⟩; have H3 := Aside0.mk H3; have K3 := Aside0.mk K3)
          obtain ⟨Wx, hsx⟩ := (IV.out.below (K3.out.below HZ.out.2 (fun b hb => (HBF.out b hb).1))) _ HXM.out
          have LX := Aside0.mk hsx
          have htm : t < 1000000 := Nat.lt_trans hx3 hsx.len
          have hwc := below_alloc0 (Below.refl w3.heap.size w3) (.cells #[.pointer xp, .int .i64 t] 108)
          have hwn := heap_alloc_new w3 (.cells #[.pointer xp, .int .i64 t] 108)
          have hwz : (w3.alloc (.cells #[.pointer xp, .int .i64 t] 108)).heap.size = w3.heap.size + 1 := World.size_alloc _ _
          have RW := Aside0.mk (row_any (w3.alloc (.cells #[.pointer xp, .int .i64 t] 108)) _ _ Wx (look xp) r t ((hsx.below hwc).at_ hx3) HRC.out)
          have H3c := HeapS.below (ordC_ok look ps n0) H3.out hwc
          have hs3 := K3.out.size
          have FLT := Aside0.mk (fun b (hb : F b) => (HBF.out b hb).2)
          have YY := Aside0.mk (fun rv w5 (hb : Below (w3.alloc (.cells #[.pointer xp, .int .i64 t] 108)).heap.size (w3.alloc (.cells #[.pointer xp, .int .i64 t] 108)) w5) (hr : RowAt w5 ((w3.alloc (.cells #[.pointer xp, .int .i64 t] 108)).heap.size ≤ ·) rv r) =>
            HY.out pre (rv, r) (fun b => b = bs ∨ F b) (fun b => b = bs ∨ F b ∨ b = w3.heap.size) wr w5 HJp.out
              (((Mg.Kept.keeps K3.out).trans (Keeps.all (hwc.trans (by have h9 := hb; rw [hwz] at h9; exact h9.mono (Nat.le_succ _))) (fun b => ¬ F b)) (fun _ _ h => h)).mono (fun b _ h => fun h2 => h (.inr h2)))
              (fun b h => by rcases h with h | h | h; exact .inl (.inl h); exact .inl (.inr h); exact .inr (by omega))
              (fun b h => by have h9 := hb.size; rw [hwz] at h9; rcases h with h | h | h; (have := HZ.out.1; omega); (have := FLT.out b h; omega); omega)
              ⟨h6, reads_row.mono hr (fun b hb2 _ => ⟨by show wr.heap.size ≤ b; have h9 : (w3.alloc (.cells #[.pointer xp, .int .i64 t] 108)).heap.size ≤ b := hb2; rw [hwz] at h9; omega, by have h9 : (w3.alloc (.cells #[.pointer xp, .int .i64 t] 108)).heap.size ≤ b := hb2; rw [hwz] at h9; rintro (h | h | h); (have := HZ.out.1; omega); (have := FLT.out b h; omega); omega⟩)⟩)
          have H3c := Aside0.mk H3c
          have HWN := Aside0.mk hwn
          have HWZ := Aside0.mk hwz
          clear hsx hwc hwn hwz
          refine ⟨trivial, (fun h => by cases h), ?_⟩
          gi_at_call 69
          refine (callsIn_wide.2 RW.out).mono ?_
          rintro e w5 ⟨rv, rfl, HR, HB5⟩
          obtain ⟨fn, tmps, assign, body, hy, hR⟩ := YY.out rv w5 HB5 HR
          simp only [encR] at hy
          have H5 := Aside0.mk (HeapS.below (ordC_ok look ps n0) H3c.out HB5)
          have HW5 := Aside0.mk (show w5.heap[w3.heap.size]? = some (.cells #[.pointer xp, .int .i64 t] 108 (0, 0)) from (HB5.block _ (by rw [HWZ.out]; exact Nat.lt_succ_self _)).trans HWN.out)
          have hz5 : w3.heap.size + 1 ≤ w5.heap.size := by have h9 := HB5.size; rw [HWZ.out] at h9; exact h9
          have hbn5 : Below n0 w3 w5 := ((below_alloc0 (Below.refl w3.heap.size w3) (.cells #[.pointer xp, .int .i64 t] 108)).mono (by have := HZ.out.2; omega)).trans (HB5.mono (by rw [HWZ.out]; have := HZ.out.2; omega))
          have LX5 := Aside0.mk (LX.out.stays (Stays.of_belowB hbn5))
          clear YY RW HR HB5 H3c HWN
          gi_wp2
          refine ⟨(fun h => by cases h), hR.mono ?_⟩
          rintro e W6 (⟨rfl, hJ6, hk6⟩ | ⟨rfl, hJx6⟩)
          · have HJ6 := Aside0.mk hJ6
            have HK6 := Aside0.mk hk6
            have H6 := Aside0.mk (H5.out.kept (ordC_ok look ps n0) (Mg.Keeps.kept hk6) (fun b hb => Nat.le_of_not_lt fun h => hb (.inl h)) (fun b hb hn => hn (.inr (.inr (.inl hb)))))
            have HW6 := Aside0.mk ((hk6.block _ (by omega) (.inr (.inr (.inr rfl)))).trans HW5.out)
            have LX6 := Aside0.mk (LX5.out.stays (hk6.stays.mono (fun b hb _ => .inl hb)))
            have hz6 : w5.heap.size ≤ W6.heap.size := hk6.size
            obtain ⟨k0, k1, f0, f1⟩ := two_facts HW6.out
            have HGF := Aside0.mk (show ∀ b, F b → b < w3.heap.size from fun b hb => by have := FLT.out b hb; omega)
            have HZ2 := Aside0.mk HZ.out
            have hxm := HXM.out
            clear HZ hJ6 hk6 H5 LX5 HW5 hbn5 H3 K3 HXM IV HRC
            gi_wp2
            refine wpIn_wide.2 ?_
            obtain ⟨W7, hW7⟩ : ∃ W7, W6.setCell ⟨w3.heap.size, 1, none⟩ (.int .i64 ((t : Int) + 1)) = W7 := ⟨_, rfl⟩
            have hK7 : Kept W6 W7 (· = w3.heap.size) := by rw [← hW7]; exact (Kept.refl W6 (· = w3.heap.size)).setCell (.inl rfl) _
            have hW7b : W7.heap[w3.heap.size]? = some (.cells #[.pointer xp, .int .i64 ((t : Int) + 1)] 108 (0, 0)) := by rw [← hW7]; exact blk_set _ HW6.out
            rw [hW7]
            obtain ⟨m0, m1, _, _⟩ := two_facts hW7b
            have H7 := Aside0.mk (H6.out.kept (ordC_ok look ps n0) hK7 (fun k hk => by rw [hk]; have := HZ2.out.2; omega) (fun k hk h => by have := HGF.out k hk; omega))
            have HK7 := Aside0.mk hK7
            have LN7 := Aside0.mk (lenN_any W7.drew _ _ _ _ ((LX6.out.stays (hK7.stays.mono (fun b hb _ => by show b ≠ _; have : b < n0 := hb; have := HZ2.out.2; omega))).stays (Stays.drew _ _)))
            clear hK7 hW7b k0 k1 f0 f1 hW7 LX6 H6
            go_region_held3 (fun w' => w'.cell? ⟨w3.heap.size, 0, none⟩ = some (.pointer xp) ∧ w'.cell? ⟨w3.heap.size, 1, none⟩ = some (.int .i64 ((t : Int) + 1))) (first | exact ⟨m0, m1⟩ | go_keep) (((with_reducible refine (LN7.out).mono ?_); rintro e w8 ⟨rfl, rfl⟩))
            all_goals
              have H7d := Aside0.mk (H7.out.kept (ordC_ok look ps n0) ((Kept.refl W7 (fun _ => False)).drew) (fun k hk => hk.elim) (fun k _ h => h))
              have hrw : rowsOf (pre ++ [(rv, r)]) = rowsOf pre ++ [r] := by simp [rowsOf]
              by_cases hq : t + 1 < (look xp).length
              · have hqi : (t : Int) + 1 < ((look xp).length : Int) := by omega
                have PU := Aside0.mk (push_S (ordC_ok look ps n0) (good_ltC look) _ F HC' c xp ((t : Int) + 1) W7.drew H7d.out ⟨hxm, by omega, by show ((t : Int) + 1).toNat < (look xp).length; omega⟩ (by omega) hc0 (by omega))
                have MS9 := Aside0.mk (by have h9 := MST.out c; rw [if_pos hq, ← hrw] at h9; exact h9)
                gi_wp2_with (refine ⟨trivial, (fun h => by cases h), ?_⟩; gi_at_call 70; refine (callsIn_wide.2 PU.out).mono ?_; rintro e w9 ⟨rfl, F9, H9, gr9, K9⟩; have H9 := Aside0.mk H9; have gr9 := Aside0.mk gr9; have K9 := Aside0.mk K9)
                gi_roundg (gk - 1)
                case measure => omega
                case rel =>
                  exact ⟨pre ++ [(rv, r)], F9, _, c + 1, H9, MS9, ⟨HJ.out (pre ++ [(rv, r)]) _ _ W6 w9 HJ6.out (Mg.Kept.keeps (Kept.then_ (HK7.out.mono (fun k hk => .inr (.inr hk))).drew K9.out (fun k hk => .inl (.inr (.inl hk))))) (fun b hb => by rcases hb with hb | hb; exact .inl (.inl hb); rcases gr9.out b hb with hb | hb; exact .inl (.inr (.inl hb)); exact .inr (Nat.le_trans HK7.out.size hb))⟩, ⟨by have := HZ2.out; have := K9.out.size; have := HK7.out.size; have h8 : W7.drew.heap.size = W7.heap.size := rfl; omega⟩, by simp; omega, by omega, by simp; omega, by simp; omega⟩
              · have hqi : ¬ (t : Int) + 1 < ((look xp).length : Int) := by omega
                have MS9 := Aside0.mk (by have h9 := MST.out c; rw [if_neg hq, ← hrw] at h9; exact h9)
                gi_wp2
                gi_roundg (gk - 1)
                case measure => omega
                case rel =>
                  exact ⟨pre ++ [(rv, r)], F, _, c, H7d, MS9, ⟨HJ.out (pre ++ [(rv, r)]) _ _ W6 W7.drew HJ6.out (Mg.Kept.keeps (HK7.out.mono (fun k hk => .inr (.inr hk))).drew) (fun b hb => by rcases hb with hb | hb; exact .inl (.inl hb); exact .inl (.inr (.inl hb)))⟩, ⟨by have := HZ2.out; have := HK7.out.size; have h8 : W7.drew.heap.size = W7.heap.size := rfl; omega⟩, by simp; omega, by omega, by simp; omega, by omega⟩
          · have HJ3 := Aside0.mk hJx6
            have HSp := Aside0.mk (show RowsSp flat (pre ++ [(rv, r)]) by show (pre ++ [(rv, r)]).length ≤ flat.length; simp; omega)
            clear hJx6
            gi_wp2
            refine bodyPost_ret (results_none rfl _ _ _) rfl ?_
            exact ⟨⟨_, rfl⟩, .inr ⟨_, _, by rw [HFE.out]; exact HSp.out, HJ3.out⟩⟩
end Go.Proofs.Ytcaonlddhbgnjaa.Mg
