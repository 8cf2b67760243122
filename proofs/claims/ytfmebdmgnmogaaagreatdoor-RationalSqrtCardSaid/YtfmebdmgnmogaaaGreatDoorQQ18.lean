/- The law of square roots of rational numbers. No statement of its own. -/
import Derived.Test.YtfmebdmgnmogaaaGreatDoorQQ14
set_option linter.unusedVariables false
set_option linter.unusedSimpArgs false
set_option linter.unusedSimpArgs false
set_option linter.unusedVariables false
set_option maxRecDepth 100000
set_option maxHeartbeats 8000000
namespace Go.Proofs.YtfmebdmgnmogaaaGreatDoor
open Go Go.RowKit Hv

theorem isR_sq {p q : Int} {a : Rat} (ha : IsR p q a) : IsR (p * p) (q * q) (a * a) := by
  have hc : ((a.num * a.num).natAbs).gcd (a.den * a.den) = 1 := by
    rw [Int.natAbs_mul]
    exact Nat.Coprime.mul_right (Nat.Coprime.mul_left a.reduced a.reduced) (Nat.Coprime.mul_left a.reduced a.reduced)
  constructor
  · rw [Rat.num_mul, hc, ha.1]; simp
  · rw [Rat.den_mul, hc, ha.2]; simp
theorem lawXSqrt_c {ba ca : Bool} {xa ya : List Int} (hua : U32 xa) (hva : U32 ya) : HCallsD Tryz.prog 4 [] [.agg [.raw (.bool ba), .sl xa.length false (ints .u32 xa), .raw (.bool ca), .sl ya.length false (ints .u32 ya)]] (.raw (.bool true)) [] := by
  cases hs : smallR ba xa ca ya
  · refine cp1 (rs := [.tmp 2]) (nt := 71) Tryz.func4 (fun C hP hn => ?_)
    ((repeat' (first | refine gW ?_ | (refine gIf ?_ ?_ <;> (intro hc; try exact gX)) | with_reducible refine br_intro ?_ ?_ | (with_reducible intro _; try exact gX) | with_reducible refine ands_intro ?_ ?_ | refine cx (xawake_c) ?_ | refine cx (small1R hua hva hs) ?_)) <;> (try exact gF))
    exact rqq1 rT
  · obtain ⟨p, q, a, ha, rfl, rfl, rfl, rfl, la⟩ := smallR_spec hs
    have q0 := ha.pos
    have hm := isR_sq ha
    have lm := RL.mul ha ha la la hm
    obtain ⟨m, em⟩ : ∃ m, p * p = m := ⟨_, rfl⟩
    obtain ⟨k, ek⟩ : ∃ m, q * q = m := ⟨_, rfl⟩
    rw [em, ek] at hm lm
    obtain ⟨n, en⟩ : ∃ z, -p = z := ⟨_, rfl⟩
    have ln : RL n q 6 := en ▸ la.neg
    have la3 := la.mono (M := 30000) (by omega)
    rcases Int.lt_or_le p 0 with hp | hp
    · have e : n * n = m := by rw [← en, ← em, Int.neg_mul_neg]
      rcases sqrt_cases (la.mono (M := 50000) (by omega)) with ⟨s, t, s0, hs', t0, ht⟩ | ⟨h1, h2⟩
      · exact absurd (hs' ▸ Int.mul_nonneg s0 s0) (by omega)
      · refine cp1 (rs := [.tmp 2]) (nt := 71) Tryz.func4 (fun C hP hn => ?_)
        ((repeat' (first | refine gW ?_ | (refine gIf ?_ ?_ <;> (intro hc; try exact gX)) | with_reducible refine br_intro ?_ ?_ | (with_reducible intro _; try exact gX) | with_reducible refine ands_intro ?_ ?_ | refine cx (xawake_c) ?_ | refine cx (small1R hua hva hs) ?_ | refine cx (h1) ?_ | refine cx (h2) ?_ | refine cx (zero_e) ?_ | refine cx (rxmul_c ha ha hm la3 la3) ?_ | refine cx (xsqrt_y (s := n) (t := q) (by omega) e (by omega) ek (lm.mono (by omega))) ?_ | refine cx (rxsign_c (p := n) (q := q) (ln.mono (by omega)) (cmp_p (by omega))) ?_ | refine cx (rxsame_c (pa := n) (qa := q) (pb := p) (qb := q) (ln.mono (by omega)) (la.mono (by omega)) (decide_eq_false (by omega))) ?_ | refine cx (rxneg_c (la.mono (by omega)) en) ?_ | refine cx (rxsame_t (ln.mono (by omega))) ?_)) <;> (try exact gF))
        exact rqq1 rT
    · obtain ⟨c, hcc, c0⟩ := cmp_nn (p := p) (by omega)
      rcases sqrt_cases (la.mono (M := 50000) (by omega)) with ⟨s, t, s0, hs', t0, ht⟩ | ⟨h1, h2⟩
      · have l1 := sqrt_len s0 hs'
        have l2 := sqrt_len t0 ht
        have lst : RL s t 6 := ⟨Nat.le_trans l1 la.1, Nat.le_trans l2 la.2⟩
        refine cp1 (rs := [.tmp 2]) (nt := 71) Tryz.func4 (fun C hP hn => ?_)
        ((repeat' (first | refine gW ?_ | (refine gIf ?_ ?_ <;> (intro hc; try exact gX)) | with_reducible refine br_intro ?_ ?_ | (with_reducible intro _; try exact gX) | with_reducible refine ands_intro ?_ ?_ | refine cx (xawake_c) ?_ | refine cx (small1R hua hva hs) ?_ | refine cx (xsqrt_y s0 hs' t0 ht (la.mono (by omega))) ?_ | refine cx (rxsqrt_y s0 hs' t0 ht (la.mono (by omega))) ?_ | refine cx (rxsame_t (lst.mono (by omega))) ?_ | refine cx (rxmul_c ha ha hm la3 la3) ?_ | refine cx (xsqrt_y (s := p) (t := q) (by omega) em (by omega) ek (lm.mono (by omega))) ?_ | refine cx (rxsign_c (p := p) (q := q) (la.mono (by omega)) hcc) ?_ | refine cx (rxsame_t (la.mono (by omega))) ?_)) <;> (try exact gF))
        exact rqq1 rT
      · refine cp1 (rs := [.tmp 2]) (nt := 71) Tryz.func4 (fun C hP hn => ?_)
        ((repeat' (first | refine gW ?_ | (refine gIf ?_ ?_ <;> (intro hc; try exact gX)) | with_reducible refine br_intro ?_ ?_ | (with_reducible intro _; try exact gX) | with_reducible refine ands_intro ?_ ?_ | refine cx (xawake_c) ?_ | refine cx (small1R hua hva hs) ?_ | refine cx (h1) ?_ | refine cx (h2) ?_ | refine cx (zero_e) ?_ | refine cx (rxmul_c ha ha hm la3 la3) ?_ | refine cx (xsqrt_y (s := p) (t := q) (by omega) em (by omega) ek (lm.mono (by omega))) ?_ | refine cx (rxsign_c (p := p) (q := q) (la.mono (by omega)) hcc) ?_ | refine cx (rxsame_t (la.mono (by omega))) ?_)) <;> (try exact gF))
        exact rqq1 rT
end Go.Proofs.YtfmebdmgnmogaaaGreatDoor
