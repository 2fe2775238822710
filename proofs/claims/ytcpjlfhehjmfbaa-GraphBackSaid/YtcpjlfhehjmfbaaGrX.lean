/- graph.Components: a pop; what comes out, as a list of rows. -/
import Derived.Test.YtcpjlfhehjmfbaaGrS
namespace Go.Proofs.Ytcpjlfhehjmfbaa.Gr
open Go.RowKit Go.Shelf Go.Proofs.Ytcpjlfhehjmfbaa.Sg Go.Proofs.Ytcpjlfhehjmfbaa.Hi Go.Proofs.Ytcpjlfhehjmfbaa.Hm
set_option linter.unusedVariables false
set_option linter.unusedSimpArgs false

/-- What is known where a pop has been made. -/
def Head (w3 w4 wr : World) (nc bw g bx bm n : Nat) (vs : Nat → Value) (comp : Nat → Nat) (es : List Row) (ov : Value) (out : List Nat) (x : Int) (ok : Bool) : Prop :=
  ∃ (F : Nat → Prop) (L : List Hi.E) (came : Int) (W : Nat → Nat), M3 w3 w4 wr nc bw g (ordC bx bm nc vs (lead n comp) w3.heap.size) F L came W ov (out.map vs) ∧
    ((ok = true ∧ ∃ xn : Nat, xn < nc ∧ x = (xn : Int) ∧ KPop (adj n es) n nc comp (depsTo n comp es n) out xn (backOf (depsTo n comp es n) xn) W L came) ∨ (ok = false ∧ L = [] ∧ KAll (adj n es) n nc comp (depsTo n comp es n) out W [] came))
theorem pop_head {w3 w4 wr : World} {nc bw g bx bm n : Nat} {vs : Nat → Value} {comp : Nat → Nat} {es : List Row} {ov : Value} {out : List Nat} {F : Nat → Prop} {L : List Hi.E} {came : Int} {W : Nat → Nat} (hC : Comps (adj n es) n comp nc) (hnc : nc < 1000000)
    (h : M3 w3 w4 wr nc bw g (ordC bx bm nc vs (lead n comp) w3.heap.size) F L came W ov (out.map vs)) (hk : KAll (adj n es) n nc comp (depsTo n comp es n) out W L came) :
    Calls Try.prog 17 #[.pointer (some ⟨g, 0, none⟩)] wr fun e w' => ∃ (x : Int) (ok : Bool), e = .returned (.tuple #[.int .i64 x, .bool ok]) ∧ Head w3 w4 w' nc bw g bx bm n vs comp es ov out x ok := by
  have OK := ordC_ok bx bm nc vs (lead n comp) w3.heap.size
  have hb := hk.bounds
  cases L with
  | nil =>
    exact (pop_S0 (B := w3.heap.size) g F came wr h.heap).mono fun e w' ⟨he, hb⟩ => ⟨0, false, he, F, [], came, W, h.below OK hb, .inr ⟨rfl, rfl, hk⟩⟩
  | cons e0 L0 =>
    obtain ⟨x, L', hp, hc⟩ := pop_S OK (ordC_good bx bm nc vs (lead n comp) w3.heap.size) g F (e0 :: L0) came wr h.heap (by omega) (by simp)
    obtain ⟨xn, h1, h2, h3⟩ := hk.pop hC adj_edge (depsTo_spec n comp es) hp h.heap.oks
    subst h2
    exact hc.mono fun e w' ⟨he, h5, h6⟩ => ⟨(xn : Int), true, he, F, L', came, W, h.heaped h5 (fun b hb => .inl hb) h6, .inl ⟨rfl, xn, h1, rfl, h3⟩⟩
def toRow (l : List Nat) : Row := l.map fun x : Nat => (x : Int)
theorem out_rows {w1 w3 w4 wr : World} {nc bw g bx bm n : Nat} {O : Hi.Ord} {vs : Nat → Value} {comp : Nat → Nat} {F : Nat → Prop} {L : List Hi.E} {came : Int} {W : Nat → Nat} {ov : Value} {out : List Nat}
    (h1 : M1 w1 w3 nc bm bx vs comp n) (hb : Below w3.heap.size w3 w4) (h : M3 w3 w4 wr nc bw g O F L came W ov (out.map vs)) (hlt : ∀ c ∈ out, c < nc) (hol : out.length ≤ nc) (hnc : nc < 1000000) (hn : n < 1000000) :
    RowsAt wr (w1.heap.size ≤ ·) ov (out.map fun c => toRow (memb n comp c)) := by
  have hs1 := h1.below.size
  have hs2 := hb.size
  have ho := h.out
  rw [List.length_map] at ho
  have hk : Kept w3 wr (· = bw) := (Kept.of_below hb (· = bw)).then_ h.keep (fun k e => .inl e)
  refine SlAt.of_own0 ho (by simp) (fun b _ hb => by omega) (by rw [List.length_map]; omega) (fun j hj u hu => ?_)
  rw [List.length_map] at hj
  rw [List.getElem?_map, List.getElem?_eq_getElem hj] at hu
  have hu := (Option.some.inj hu).symm
  subst hu
  rw [List.getElem_map]
  have hc : out[j] < nc := hlt _ (List.getElem_mem hj)
  have hr := h1.ll.rows out[j] hc
  have hr2 := own_kept hk hr (fun k e q => by
    have := (hr.lt k e).2
    have := h.bwlt.1
    omega)
  have hml := memb_le n comp out[j]
  refine RowAt.of_own' hr2 (by simp [toRow]) (by simp [toRow, intsN]) (by simp [toRow]; omega) (fun x hx => ?_)
  obtain ⟨y, hy, rfl⟩ := List.mem_map.1 hx
  have := (mem_memb.1 hy).1
  unfold In64
  omega
theorem M3.start {w3 w4 w5 : World} {nc bw g : Nat} {O : Hi.Ord} {F : Nat → Prop} {W : Nat → Nat} (hb : Below w4.heap.size w4 w5) (hw : w4.ownsRow w3.heap.size 3 1 (.slice (some ⟨bw, 0, none⟩) nc nc) nc (lst nc W)) (hH : HeapS w5 w3.heap.size g F O [] 0) (hf : ∀ k, F k → w4.heap.size ≤ k) : M3 w3 w4 w5 nc bw g O F [] 0 W (.slice none 0 0) [] :=
  ⟨hH, hf, (Stays.of_below hb (fun _ => True)).owns hw (fun _ _ => trivial), Kept.of_below hb _, World.ownsRow_nil _ _ _ _, fun k e => by simp [Value.ownBlock] at e, World.ownsRow.lt hw _ rfl⟩
end Go.Proofs.Ytcpjlfhehjmfbaa.Gr
