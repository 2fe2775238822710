/- The heap's Push: for whatever order, the entries behind it are those of 'up'. -/
import Derived.Test.YtcpjlfhehjmfbaaHiB
import Derived.Lib.Hide
namespace Go.Proofs.Ytcpjlfhehjmfbaa.Hi
open Go.RowKit Go.Shelf Go.Proofs.Ytcpjlfhehjmfbaa.Sg Go.Proofs.Ytcpjlfhehjmfbaa.Hm
set_option linter.unusedVariables false
set_option linter.unusedSimpArgs false
theorem infoE : (Try.prog.info? 51).map (fun i => (i.zero, i.size, i.bytes)) = some (some (.agg #[.int .i64 0, .int .i64 0]), 2, 16) := by kernel_rfl
/-- The heap behind the append and the two stores of Push. -/
theorem after_push {B : Nat} {O : Ord} (OK : O.OK B) {w w1 : World} {o : Obj} {g b1 cap1 : Nat} {es : List E} {x1 : Int} {came : Int} {v : Value} {cur1 : Array Value}
    (hb : w1.heap[g]? = some (.cells #[.func (.func O.lf) #[] O.caps, v, .int .i64 came] 49 (0, 0))) (ho : w1.ownsRow B 51 2 (.slice (some ⟨b1, 0, none⟩) (es.length + 1) cap1) (es.length + 1) (cellsE es ++ [.int .i64 x1, .int .i64 came])) (hg : ((w.alloc o).drew).grownBy w1 v.ownBlock) (hc : w1.heap[b1]? = some (.cells cur1 51 (0, 0)))
    (hwi : HI w B g O es came v) (hok : O.ok x1) :
    HI ((w1.setCell ⟨g, 1, none⟩ (.slice (some ⟨b1, 0, none⟩) (es.length + 1) cap1)).setCell ⟨g, 2, none⟩ (.int .i64 (came + 1))) B g O (es ++ [(x1, came)]) (came + 1) (.slice (some ⟨b1, 0, none⟩) (es.length + 1) cap1) ∧
    Kept w ((w1.setCell ⟨g, 1, none⟩ (.slice (some ⟨b1, 0, none⟩) (es.length + 1) cap1)).setCell ⟨g, 2, none⟩ (.int .i64 (came + 1))) (fun k => k = g ∨ v.ownBlock = some k) := by
  have hbg : b1 ≠ g := by
    rintro rfl
    rw [hc] at hb
    injection hb with hb
    injection hb with _ hb
    exact absurd hb (by decide)
  have hge := hwi.ge
  have hlt := hwi.lt
  have hk : Kept w ((w1.setCell ⟨g, 1, none⟩ (.slice (some ⟨b1, 0, none⟩) (es.length + 1) cap1)).setCell ⟨g, 2, none⟩ (.int .i64 (came + 1))) (fun k => k = g ∨ v.ownBlock = some k) := by
    have k1 : Kept w w1 (fun k => k = g ∨ v.ownBlock = some k) := Kept.of_grown hg (((Kept.refl w _).alloc o).drew) (fun k hk => .inl (.inr hk))
    exact (k1.setCell (p := ⟨g, 1, none⟩) (.inl (.inl rfl)) _).setCell (p := ⟨g, 2, none⟩) (.inl (.inl rfl)) _
  refine ⟨⟨?_, ?_, fun e => hbg (Option.some.inj e), hge, OK.keep _ _ hwi.inv (hk.below (by omega) (fun k hk => hk.elim (fun e => by omega) (fun e => (hwi.base k e).1))), fun e he => ?_⟩, hk⟩
  · have := blk_set (j := 2) (.int .i64 (came + 1)) (blk_set (j := 1) (.slice (some ⟨b1, 0, none⟩) (es.length + 1) cap1) hb)
    exact this
  · have := own_set_other (j := 2) (.int .i64 (came + 1)) (own_set_other (j := 1) (.slice (some ⟨b1, 0, none⟩) (es.length + 1) cap1) ho hbg) hbg
    rw [cellsE_append, List.length_append]
    exact this
  · rcases List.mem_append.1 he with h | h
    · exact hwi.oks e h
    · rw [List.mem_singleton.1 h]; exact hok
set_option maxHeartbeats 2000000 in
set_option maxRecDepth 100000 in
theorem push_any {B : Nat} {O : Ord} (OK : O.OK B) (g : Nat) (es : List E) (came : Int) (x1 : Int) (v : Value) (w : World) (h : HI w B g O es came v) (hok : O.ok x1) (hes : es.length < 1000000) (hc0 : 0 ≤ came) (hc1 : came < 1000000000000) :
    Calls Try.prog 16 #[.pointer (some ⟨g, 0, none⟩), .int .i64 x1] w fun e w' => e = .returned (.tuple #[]) ∧ ∃ v', HI w' B g O (upF O.lt (es ++ [(x1, came)]) es.length) (came + 1) v' ∧ Kept w w' (fun k => k = g ∨ v.ownBlock = some k) ∧ (∀ k, v'.ownBlock = some k → v.ownBlock = some k ∨ w.heap.size ≤ k) := by
  obtain ⟨A0, n0, c0, hv⟩ : ∃ A0 n0 c0, v = .slice A0 n0 c0 := by
    rcases h.own.2 with ⟨h1, _⟩ | ⟨b, cap, cur, h1, _⟩ <;> exact ⟨_, _, _, h1⟩
  obtain ⟨i0, hi, hz0, hz1, hz2⟩ := info_parts infoE
  have hgl := h.lt
  have hge := h.ge
  have hB : B ≤ w.heap.size := by omega
  have hblk := Aside0.mk h.blk
  have hne := Aside0.mk h.ne
  have hown := Aside0.mk h.own
  have HWI := Aside0.mk h
  have HOK := Aside0.mk hok
  have q3 : es.length + 1 ≤ maxLen := by unfold maxLen; omega
  have Q3 := Aside0.mk q3
  obtain ⟨k0, k1, k2, f0, f1, f2⟩ := blk_facts h.blk
  clear q3 h hok
  subst hv
  go_enter Try.func16, Try.ntmps16
  go_wp2
  go_region_law (go_loud (refine step_append_own rfl (.tmp 9) (.tmp 16) 47 rfl B 51 i0 (.agg #[.int .i64 0, .int .i64 0]) 2 16 Try.underlying47 hi hz0 hz1 hz2 rfl (by decide) (.slice A0 n0 c0) es.length (cellsE es) (by simp [Act.eval, Act.put]) (hown.out.alloc _) ⟨w.heap.size, 0, none⟩ 1 1 [.int .i64 x1, .int .i64 came] (by simp [Act.eval, Act.put]) rfl (news2 _ _ _ _) (by simp [Value.oneCell']) Q3.out (by omega) (size_alloc_le hB _) ?_; intro v1 w1 ho hg _ hbo; obtain ⟨b1, cap1, rfl, hb1, hl1, cur1, hc1⟩ := own_formN ho; have HN := Aside0.mk (new_or_old hbo); have hbk := after_blk hblk.out hg hne.out; obtain ⟨m0, m1, m2, e0, e1, e2⟩ := blk_facts hbk; have HO := Aside0.mk ho; have HG := Aside0.mk hg; have HB1 := Aside0.mk hbk; have HC1 := Aside0.mk hc1; clear ho hg hbk hc1 hbo))
  all_goals go_wp2
  all_goals
    have hst := after_push OK HB1.out HO.out HG.out HC1.out HWI.out HOK.out
    have HST := Aside0.mk hst
    clear hst HB1 HO HG HC1 m0 m1 m2 e0 e1 e2 k0 k1 k2 f0 f1 f2
    go_loopw [4] (fun s4 wr => ∃ (i : Nat) (cur : List E), s4 = .int .i64 (i : Int) ∧ Aside0 (i < cur.length ∧ cur.length = es.length + 1) ∧ Aside0 (upF O.lt cur i = upF O.lt (es ++ [(x1, came)]) es.length) ∧ Aside0 (HI wr B g O cur (came + 1) (.slice (some ⟨b1, 0, none⟩) (es.length + 1) cap1) ∧ Kept w wr (fun k => k = g ∨ (Value.slice A0 n0 c0).ownBlock = some k ∨ b1 = k))) (fun s4 _ => (intOf s4).toNat)
    case atStart => exact ⟨es.length, es ++ [(x1, came)], rfl, ⟨by simp, by simp⟩, ⟨rfl⟩, ⟨HST.out.1, HST.out.2.mono (fun k hk => hk.elim .inl (fun h => .inr (.inl h)))⟩⟩
    case round =>
      obtain ⟨i, cur, rfl, HL, HU, HS⟩ := hrel
      have hi1 := HL.out.1
      have hi2 := HL.out.2
      by_cases hp : 0 < i
      · have BR := fun (r : Bool) (hr : bef O.lt (cur.getD i default) (cur.getD ((i - 1) / 2) default) = r) => before_any OK g cur (came + 1) _ (i : Int) (((i : Int) - 1) / 2) r wr HS.out.1 (by omega) (by omega) (by omega) (by omega) (by rw [show ((i : Int)).toNat = i from by omega, show ((((i : Int) - 1) / 2)).toNat = (i - 1) / 2 from by omega]; exact hr)
        by_cases hb : bef O.lt (cur.getD i default) (cur.getD ((i - 1) / 2) default) = true
        · have br := Aside0.mk (BR true hb)
          clear BR
          have hd : 0 ≤ ((i : Int) - 1) / 2 ∧ ((i : Int) - 1) / 2 < cur.length := by omega
          go_wp2_with (first | (go_at_call 21; (with_reducible refine (br.out).mono ?_); rintro e w2 ⟨rfl, HB2⟩; have HS2 := Aside0.mk (HI.below OK HS.out.1 HB2); have HB2' := Aside0.mk HB2; clear HB2) | (go_at_call 22; (with_reducible refine (swap_any OK g cur (came + 1) _ (i : Int) (((i : Int) - 1) / 2) _ HS2.out (by omega) (by omega) hd.1 hd.2).mono ?_); rintro e w3 ⟨rfl, HI3, HK3⟩; have HS3 := Aside0.mk HI3; have HK3' := Aside0.mk HK3; clear HI3 HK3))
          go_roundw
          case rel => exact ⟨(i - 1) / 2, swp cur i ((i - 1) / 2), by rw [show ((i : Int) - 1) / 2 = (((i - 1) / 2 : Nat) : Int) from by omega], ⟨by rw [swp_length]; omega, by rw [swp_length]; omega⟩, ⟨by rw [← upF_step O.lt cur i hp hb]; exact HU.out⟩,
            ⟨by have := HS3.out; rwa [show ((i : Int)).toNat = i from by omega, show ((((i : Int) - 1) / 2)).toNat = (i - 1) / 2 from by omega] at this,
             (HS.out.2.then_ (Kept.of_below HB2'.out (fun _ => False)) (fun _ h => h.elim)).then_ HK3'.out (fun k hk => .inl (.inr (.inr (Option.some.inj hk))))⟩⟩
          case measure => simp [intOf]; omega
        · have hb' : bef O.lt (cur.getD i default) (cur.getD ((i - 1) / 2) default) = false := by simpa using hb
          have br := Aside0.mk (BR false hb')
          have HF := Aside0.mk (upF_stop O.lt cur i (fun h => hb h.2))
          clear BR hb hb'
          go_wp2_with (first | (go_at_call 21; (with_reducible refine (br.out).mono ?_); rintro e w2 ⟨rfl, HB2⟩; have HS2 := Aside0.mk (HI.below OK HS.out.1 HB2); have HB2' := Aside0.mk HB2; clear HB2))
          go_end0
          refine ⟨rfl, _, by rw [← HU.out, HF.out]; exact HS2.out, ?_, ?_⟩
          · exact push_keep (HS.out.2.then_ (Kept.of_below HB2'.out (fun _ => False)) (fun _ h => h.elim)) HN.out
          · intro k hk
            exact (Option.some.inj hk) ▸ HN.out
      · have HF := Aside0.mk (upF_stop O.lt cur i (fun h => hp h.1))
        go_wp2
        go_end0
        refine ⟨rfl, _, by rw [← HU.out, HF.out]; exact HS.out.1, push_keep HS.out.2 HN.out, ?_⟩
        intro k hk
        exact (Option.some.inj hk) ▸ HN.out
end Go.Proofs.Ytcpjlfhehjmfbaa.Hi
