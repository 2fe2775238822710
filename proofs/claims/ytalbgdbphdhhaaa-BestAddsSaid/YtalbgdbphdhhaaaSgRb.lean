/- The iterator over a set's rows: (*Seg).All, and its loop. A set may be nil: then it has no rows. -/
import Derived.Test.YtalbgdbphdhhaaaSgRa
import Derived.Test.YtalbgdbphdhhaaaSgB
namespace Go.Proofs.Ytalbgdbphdhhaaa.Sg
open Go.RowKit Go.Shelf
attribute [local go_sem] Oper.semAt_some
set_option linter.unusedVariables false
set_option linter.unusedSimpArgs false

/-- A set, or nil. -/
def SegN (w : World) (ok : Nat → Prop) (v : Value) (W : Nat) (rs : List Row) : Prop := (v = .pointer none ∧ W = 0 ∧ rs = []) ∨ SegAt w ok v W rs
theorem SegAt.n {w : World} {ok : Nat → Prop} {v : Value} {W : Nat} {rs : List Row} (h : SegAt w ok v W rs) : SegN w ok v W rs := .inr h
theorem SegN.nil (w : World) (ok : Nat → Prop) : SegN w ok (.pointer none) 0 [] := .inl ⟨rfl, rfl, rfl⟩
theorem SegN.stays {w w' : World} {ok : Nat → Prop} {v : Value} {W : Nat} {rs : List Row} (h : SegN w ok v W rs) (hs : Stays ok w w') : SegN w' ok v W rs := h.imp id (fun h => h.stays hs)
theorem SegN.below {w w' : World} {ok : Nat → Prop} {v : Value} {W : Nat} {rs : List Row} (h : SegN w ok v W rs) (hb : Below w.heap.size w w') : SegN w' ok v W rs := h.stays (Stays.of_below hb ok)
theorem SegN.mono {w : World} {ok ok2 : Nat → Prop} {v : Value} {W : Nat} {rs : List Row} (h : SegN w ok v W rs) (hs : ∀ b, ok b → b < w.heap.size → ok2 b) : SegN w ok2 v W rs := h.imp id (fun h => h.mono hs)
theorem SegN.ptr {w : World} {ok : Nat → Prop} {v : Value} {W : Nat} {rs : List Row} (h : SegN w ok v W rs) : ∃ p, v = .pointer p := by
  rcases h with ⟨h, _⟩ | h
  · exact ⟨_, h⟩
  · obtain ⟨g, cv, hv, _⟩ := h.ex; exact ⟨_, hv⟩
theorem SegN.len {w : World} {ok : Nat → Prop} {v : Value} {W : Nat} {rs : List Row} (h : SegN w ok v W rs) : rs.length < 1000000 := by
  rcases h with ⟨_, _, rfl⟩ | h
  · simp
  · exact h.len
theorem SegN.wid {w : World} {ok : Nat → Prop} {v : Value} {W : Nat} {rs : List Row} (h : SegN w ok v W rs) : W < 1000000 := by
  rcases h with ⟨_, rfl, _⟩ | h
  · omega
  · exact h.wid
theorem SegN.row {w : World} {ok : Nat → Prop} {v : Value} {W : Nat} {rs : List Row} (h : SegN w ok v W rs) : ∀ r ∈ rs, r.length = W ∧ ∀ x ∈ r, In64 x := by
  rcases h with ⟨_, _, rfl⟩ | h
  · intro r hr; cases hr
  · exact h.row
theorem SegN.at_ {w : World} {ok : Nat → Prop} {v : Value} {W : Nat} {rs : List Row} (h : SegN w ok v W rs) {k : Nat} (hk : k < rs.length) : SegAt w ok v W rs := by
  rcases h with ⟨_, _, rfl⟩ | h
  · cases hk
  · exact h
theorem lenN_any (w : World) (ok : Nat → Prop) (v : Value) (W : Nat) (rs : List Row) (h : SegN w ok v W rs) : Calls Try.prog 24 #[v] w fun e w' => e = .returned (.int .i64 rs.length) ∧ w = w' := by
  rcases h with ⟨rfl, _, rfl⟩ | h
  · exact len_nil w
  · exact len_any w ok v W rs h
theorem widthN_any (w : World) (ok : Nat → Prop) (v : Value) (W : Nat) (rs : List Row) (h : SegN w ok v W rs) : Calls Try.prog 33 #[v] w fun e w' => e = .returned (.int .i64 W) ∧ w = w' := by
  rcases h with ⟨rfl, rfl, _⟩ | h
  · exact width_nil w
  · exact width_any w ok v W rs h

/-- A row that is handed on: its value, and what it reads as. -/
abbrev RowV := Value × Row
def encR (x : RowV) : Array Value := #[x.1]
/-- What is said of the rows of a set, one by one. -/
def RowX (rs : List Row) (pre : List RowV) (x : RowV) (R : Nat → Prop) (W : World) : Prop := rs[pre.length]? = some x.2 ∧ pre.map (·.2) = rs.take pre.length ∧ RowAt W R x.1 x.2
theorem RowX.kept {rs : List Row} (pre : List RowV) (x : RowV) (R : Nat → Prop) (A B : World) (h : RowX rs pre x R A) (k : Keeps R A B) : RowX rs pre x R B := ⟨h.1, h.2.1, reads_row.stays h.2.2 k.stays⟩
def AllS (rs : List Row) (xs : List RowV) : Prop := xs.map (·.2) = rs
def AllSp (rs : List Row) (xs : List RowV) : Prop := xs.map (·.2) = rs.take xs.length ∧ xs.length ≤ rs.length

set_option maxHeartbeats 1000000 in
theorem all_any (p : Option Addr) (w : World) : Calls Try.prog 44 #[.pointer p] w fun e w' => e = .returned (.func (.func 57) #[] #[.pointer (some ⟨w.heap.size, 0, none⟩)]) ∧ w' = w.alloc (.cells #[.pointer p] 39) := by
  go_enter Try.func44, Try.ntmps44
  go_wp2
  go_ret
  exact ⟨rfl, rfl⟩

set_option maxRecDepth 100000 in
set_option maxHeartbeats 4000000 in
theorem all1_in (n n0 : Nat) (bs : Nat) (ok : Nat → Prop) (v : Value) (W0 : Nat) (rs : List Row) (w : World) (hv : Boxed w bs 39 v) (h : SegN w ok v W0 rs) (hok : ∀ b, ok b → b < n0) :
    SeqU Try.prog n 57 #[.pointer (some ⟨bs, 0, none⟩)] encR n0 (· = bs) (RowX rs) (AllS rs) (AllSp rs) w := by
  intro l J Jx W hW hJ hY h0
  have hbx : Boxed W bs 39 v := (hW.block bs hv.lt (.inr rfl)).trans hv
  have H := h.stays (hW.stays.mono (fun b hb hl => .inl (hok b hb)))
  obtain ⟨p, rfl⟩ := H.ptr
  have hlr := H.len
  have LN := Aside0.mk (lenN_any W _ _ _ _ H)
  have HS := Aside0.mk H
  have HJ := Aside0.mk hJ
  have HY := Aside0.mk hY
  have HOK := Aside0.mk hok
  have H0 := Aside0.mk h0
  have HBX := Aside0.mk hbx
  have hbc := hbx.cell
  clear hW hJ hY h0 h hv hok H hbx
  refine callsIn_of_wp Try.func57 rfl trivial ?_ rfl
  simp only [Try.ntmps57, List.size_toArray, List.length_cons, List.length_nil, Nat.reduceAdd, Nat.reduceSub, Array.replicate_succ, Array.replicate_zero, List.push_toArray, List.append_toArray, List.nil_append, List.cons_append]
  gi_wp2_with (refine ⟨trivial, (fun h => by cases h), ?_⟩; gi_at_call 24; refine (callsIn_wide.2 LN.out).mono ?_; rintro e w' ⟨rfl, rfl⟩)
  gi_loopw [6] (fun s6 wr => ∃ (k : Nat) (pre : List RowV), s6 = .int .i64 k ∧ k ≤ rs.length ∧ pre.length = k ∧ Aside0 (pre.map (·.2) = rs.take k) ∧ Aside0 (J pre (· = bs) wr) ∧ Aside0 (Keeps (fun b => b < n0 ∨ b = bs) W wr)) (fun s6 _ => rs.length - (intOf s6).toNat)
  case atStart => exact ⟨0, [], rfl, Nat.zero_le _, rfl, ⟨by simp⟩, H0, ⟨Keeps.refl _ _⟩⟩
  case round =>
    obtain ⟨k, pre, rfl, hk, hpl, HP, HJp, HK⟩ := hrel
    by_cases hlt : k < rs.length
    · have hs := (HS.out.stays (HK.out.stays.mono (fun b hb _ => .inl (HOK.out b hb)))).at_ hlt
      have RW := Aside0.mk (row_any wr _ _ W0 rs rs[k] k hs (List.getElem?_eq_getElem hlt))
      have hbw : Boxed wr bs 39 (.pointer p) := (HK.out.block bs HBX.out.lt (.inr rfl)).trans HBX.out
      have hbc2 := hbw.cell
      have YY := Aside0.mk (fun rv w2 (hb : Below wr.heap.size wr w2) (hr : RowAt w2 (wr.heap.size ≤ ·) rv rs[k]) => HY.out pre (rv, rs[k]) (· = bs) (· = bs) wr w2 HJp.out (Keeps.all hb _) (fun b h => .inl h) (fun b h => by subst h; exact Nat.lt_of_lt_of_le hbw.lt hb.size) ⟨by rw [hpl]; exact List.getElem?_eq_getElem hlt, by rw [HP.out, hpl], reads_row.mono hr (fun b hb _ => ⟨hb, fun e => by have := hbw.lt; omega⟩)⟩)
      have TK := Aside0.mk (List.take_succ_eq_append_getElem hlt)
      generalize rs[k] = r at *
      clear hs hbw
      gi_wp2_with (refine ⟨trivial, (fun h => by cases h), ?_⟩; gi_at_call 25; refine (callsIn_wide.2 RW.out).mono ?_; rintro e w2 ⟨rv, rfl, HR, HB⟩; obtain ⟨fn, tmps, assign, body, hy, hR⟩ := YY.out rv w2 HB HR; simp only [encR] at hy)
      refine ⟨(fun h => by cases h), hR.mono ?_⟩
      rintro e W3 (⟨rfl, hJ3, hk3⟩ | ⟨rfl, hJx3⟩)
      · have HJ3 := Aside0.mk hJ3
        have HP3 := Aside0.mk (show (pre ++ [(rv, r)]).map (·.2) = rs.take (k + 1) by rw [TK.out, List.map_append, HP.out]; rfl)
        have HK3 := Aside0.mk (HK.out.trans ((Keeps.all HB _).trans hk3 (fun _ _ h => h)) (fun _ _ h => h))
        clear hJ3 hk3 YY
        gi_wp2
        go_roundw
        case rel => exact ⟨k + 1, pre ++ [(rv, r)], by go_num, by omega, by simp [hpl], HP3, HJ3, HK3⟩
        case measure => simp [intOf]; omega
      · have HJ3 := Aside0.mk hJx3
        have HP3 := Aside0.mk (show AllSp rs (pre ++ [(rv, r)]) from ⟨by rw [List.map_append, HP.out, List.length_append, hpl]; simp only [List.length_singleton]; rw [TK.out]; rfl, by simp [hpl]; omega⟩)
        clear hJx3 YY
        gi_wp2
        refine bodyPost_ret (results_none rfl _ _ _) rfl ?_
        exact ⟨⟨_, rfl⟩, .inr ⟨_, _, HP3.out, HJ3.out⟩⟩
    · obtain rfl : k = rs.length := by omega
      have HE := Aside0.mk (show AllS rs pre from by have h9 := HP.out; rw [List.take_length] at h9; exact h9)
      gi_wp2
      go_end0
      exact ⟨⟨_, rfl⟩, .inl ⟨pre, _, HE.out, HJp.out⟩⟩
end Go.Proofs.Ytalbgdbphdhhaaa.Sg
