/- Plain lists: rows with a longer beginning stand among those with a shorter one. -/
import Derived.Test.YtmgoefhihljggaaSgQ
namespace Go.Proofs.Ytmgoefhihljggaa.Sg
set_option linter.unusedVariables false
set_option linter.unusedSimpArgs false

theorem cmpP_ext : ∀ (r p : Row) (k : Nat), cmpP r (p.take k) ≠ 0 → cmpP r p = cmpP r (p.take k)
  | r, [], k, h => by simp at h ⊢
  | r, _ :: _, 0, h => by simp [cmpP] at h
  | [], y :: p, k + 1, h => by simp [cmpP] at h
  | x :: r, y :: p, k + 1, h => by
    rw [List.take_succ_cons, cmpP] at h ⊢
    rw [cmpP]
    by_cases h1 : x < y
    · rw [if_pos h1, if_pos h1]
    · by_cases h2 : y < x
      · rw [if_neg h1, if_pos h2, if_neg h1, if_pos h2]
      · rw [if_neg h1, if_neg h2] at h ⊢
        rw [if_neg h1, if_neg h2]
        exact cmpP_ext r p k h
theorem cmpP_le_take {r p : Row} (k : Nat) (h : cmpP r p ≤ 0) : cmpP r (p.take k) ≤ 0 := by
  by_cases e : cmpP r (p.take k) = 0
  · omega
  · rw [← cmpP_ext r p k e]; exact h
theorem cmpP_lt_take {r p : Row} (k : Nat) (h : cmpP r (p.take k) < 0) : cmpP r p < 0 := by
  rw [cmpP_ext r p k (by omega)]; exact h
theorem cmpP_between : ∀ (a b q : Row), cmpP a q ≤ 0 → 0 < cmpP b q → q.length ≤ a.length → q.length ≤ b.length → cmpP a (b.take q.length) < 0
  | a, b, [], _, h, _, _ => by simp [cmpP] at h
  | [], _, _ :: _, _, _, h, _ => by simp at h
  | _, [], _ :: _, _, _, _, h => by simp at h
  | x :: a, y :: b, z :: q, h1, h2, ha, hb => by
    have ih := cmpP_between a b q
    rw [cmpP] at h1 h2
    rw [List.length_cons, List.take_succ_cons, cmpP]
    by_cases c1 : x < y
    · rw [if_pos c1]; omega
    · by_cases d1 : x < z
      · rw [if_pos (by omega)] at h2; omega
      · rw [if_neg d1] at h1
        by_cases d2 : z < x
        · rw [if_pos d2] at h1; omega
        · rw [if_neg d2] at h1
          by_cases d3 : y < z
          · rw [if_pos d3] at h2; omega
          · rw [if_neg d3] at h2
            by_cases d4 : z < y
            · omega
            · rw [if_neg d4] at h2
              rw [if_neg c1, if_neg (by omega)]
              exact ih h1 h2 (by simpa using ha) (by simpa using hb)
theorem cmpP_take_eq : ∀ (r p : Row), cmpP r p = 0 → p.length ≤ r.length → r.take p.length = p
  | r, [], _, _ => by simp
  | [], _ :: _, _, h => by simp at h
  | x :: r, y :: p, h, hl => by
    rw [cmpP] at h
    by_cases h1 : x < y
    · rw [if_pos h1] at h; omega
    · by_cases h2 : y < x
      · rw [if_neg h1, if_pos h2] at h; omega
      · rw [if_neg h1, if_neg h2] at h
        rw [List.length_cons, List.take_succ_cons, cmpP_take_eq r p h (by simpa using hl), show x = y by omega]
theorem cmpP_self_take (r : Row) (k : Nat) : cmpP r (r.take k) = 0 := by
  induction r generalizing k with
  | nil => simp [cmpP]
  | cons x r ih =>
    cases k with
    | zero => simp [cmpP]
    | succ k => rw [List.take_succ_cons, cmpP, if_neg (by omega), if_neg (by omega)]; exact ih k

/-- Among rows in order: with one number more. -/
theorem nest_more {n : Nat} {rs : List Row} (hs : SS rs) (hn : ∀ r ∈ rs, r.length = n) (p : Row) (hp : p.length ≤ n) (k : Nat) (hk : k ≤ p.length) :
    lo rs (p.take k) ≤ lo rs p ∧ lo rs p ≤ hi rs p ∧ hi rs p ≤ hi rs (p.take k) := by
  have hpk : (p.take k).length ≤ n := by simp; omega
  refine ⟨?_, lo_le_hi rs p, ?_⟩
  · by_cases h : lo rs (p.take k) ≤ lo rs p
    · exact h
    · have hl := lo_le rs (p.take k)
      have := (lt_lo hs hn hpk (lo rs p) (by omega)).2 (by omega)
      have := (lt_lo hs hn hp (lo rs p) (by omega)).1 (cmpP_lt_take k this)
      omega
  · by_cases h : hi rs p ≤ hi rs (p.take k)
    · exact h
    · have hl := hi_le rs p
      have := (lt_hi hs hn hp (hi rs (p.take k)) (by omega)).2 (by omega)
      have := (lt_hi hs hn hpk (hi rs (p.take k)) (by omega)).1 (cmpP_le_take k this)
      omega
/-- A place at which another beginning begins. -/
def Cut (rs : List Row) (k at_ to : Nat) : Prop := ∀ i j (hi : i < rs.length) (hj : j < rs.length), i < at_ → at_ ≤ j → j < to → cmpP rs[i] ((rs[j]).take (k + 1)) < 0
theorem Cut.first {n : Nat} {rs : List Row} (hs : SS rs) (hn : ∀ r ∈ rs, r.length = n) (p : Row) (k : Nat) (hp : p.length = k) (hk : k < n) : Cut rs k (lo rs p) (hi rs p) := by
  intro i j hi_ hj h1 h2 h3
  have a1 := (lt_lo hs hn (by omega) i hi_).2 h1
  have a2 : ¬ cmpP rs[j] p < 0 := fun h => by have := (lt_lo hs hn (by omega) j hj).1 h; omega
  have a3 := (lt_hi hs hn (by omega) j hj).2 h3
  have a4 := cmpP_take_eq rs[j] p (by omega) (by rw [hn _ (List.getElem_mem hj)]; omega)
  refine cmpP_lt_take k ?_
  rw [List.take_take, show min k (k + 1) = k from by omega, ← hp, a4]
  exact a1
theorem Cut.next {n : Nat} {rs : List Row} (hs : SS rs) (hn : ∀ r ∈ rs, r.length = n) (p : Row) (k : Nat) (hp : p.length = k) (hk : k < n) {a : Nat} (h : Cut rs k a (hi rs p)) (ha : lo rs p ≤ a) (hat : a < hi rs p) (hal : a < rs.length) :
    lo rs ((rs[a]).take (k + 1)) = a ∧ a < hi rs ((rs[a]).take (k + 1)) ∧ hi rs ((rs[a]).take (k + 1)) ≤ hi rs p ∧ Cut rs k (hi rs ((rs[a]).take (k + 1))) (hi rs p) := by
  have hra := hn _ (List.getElem_mem hal)
  have hq : ((rs[a]).take (k + 1)).length = k + 1 := by simp; omega
  have hql : ((rs[a]).take (k + 1)).length ≤ n := by omega
  have e0 := cmpP_self_take rs[a] (k + 1)
  have b2 : ¬ cmpP rs[a] p < 0 := fun h => by have := (lt_lo hs hn (by omega) a hal).1 h; omega
  have b3 := (lt_hi hs hn (by omega) a hal).2 hat
  have b4 := cmpP_take_eq rs[a] p (by omega) (by omega)
  have hqk : ((rs[a]).take (k + 1)).take k = p := by rw [List.take_take, show min k (k + 1) = k from by omega, ← hp]; exact b4
  generalize hqq : (rs[a]).take (k + 1) = q at *
  have h1 : ¬ a < lo rs q := fun h => by have := (lt_lo hs hn hql a hal).2 h; omega
  have h2 : a < hi rs q := (lt_hi hs hn hql a hal).1 (by omega)
  refine ⟨?_, h2, ?_, ?_⟩
  · rcases Nat.lt_or_ge (lo rs q) a with c | c
    · have := h (lo rs q) a (by omega) hal c (Nat.le_refl _) hat
      rw [hqq] at this
      have := (lt_lo hs hn hql (lo rs q) (by omega)).1 this
      omega
    · omega
  · by_cases c : hi rs q ≤ hi rs p
    · exact c
    · have hl := hi_le rs q
      have := (lt_hi hs hn hql (hi rs p) (by omega)).2 (by omega)
      have := cmpP_le_take k this
      rw [hqk] at this
      have := (lt_hi hs hn (by omega) (hi rs p) (by omega)).1 this
      omega
  · intro i j hi_ hj c1 c2 c3
    have d1 := (lt_hi hs hn hql i hi_).2 c1
    have d2 : ¬ cmpP rs[j] q ≤ 0 := fun h => by have := (lt_hi hs hn hql j hj).1 h; omega
    have := cmpP_between rs[i] rs[j] q d1 (by omega) (by rw [hn _ (List.getElem_mem hi_)]; exact hql) (by rw [hn _ (List.getElem_mem hj)]; exact hql)
    rw [hq] at this
    exact this
theorem mod_u (x : Int) (k : Nat) (h0 : 0 < k) (hk : k < 1000) : ∃ m : Nat, m < k ∧ (IntKind.u64.wrap x).tmod (k : Int) = (m : Int) := by
  have h1 : 0 ≤ IntKind.u64.wrap x := by rw [IntKind.wrap_u64]; omega
  rw [Int.tmod_eq_emod_of_nonneg h1]
  have h2 := Int.emod_nonneg (IntKind.u64.wrap x) (b := (k : Int)) (by omega)
  have h3 := Int.emod_lt_of_pos (IntKind.u64.wrap x) (b := (k : Int)) (by omega)
  exact ⟨(IntKind.u64.wrap x % (k : Int)).toNat, by omega, by omega⟩
end Go.Proofs.Ytmgoefhihljggaa.Sg
