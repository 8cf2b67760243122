/- Laws of rational numbers. No statement of its own. -/
import Derived.Test.YtfmebdmgnmogaaaGreatDoorQQ14
set_option linter.unusedVariables false
set_option linter.unusedSimpArgs false
set_option linter.unusedSimpArgs false
set_option linter.unusedVariables false
set_option maxRecDepth 100000
set_option maxHeartbeats 8000000
namespace Go.Proofs.YtfmebdmgnmogaaaGreatDoor
open Go Go.RowKit Hv

theorem lawXValid_c {ba ca : Bool} {xa ya : List Int} (hua : U32 xa) (hva : U32 ya) : HCallsD Tryz.prog 11 [] [.agg [.raw (.bool ba), .sl xa.length false (ints .u32 xa), .raw (.bool ca), .sl ya.length false (ints .u32 ya)]] (.raw (.bool true)) [] := by
  by_cases h1 : xa.length ≤ 6
  · by_cases h2 : ya.length ≤ 6
    · obtain ⟨r, hr⟩ : ∃ r, validR ba xa ca ya = r := ⟨_, rfl⟩
      cases r
      all_goals
        refine cp1 (rs := [.tmp 2]) (nt := 25) Tryz.func11 (fun C hP hn => ?_)
        ((repeat' (first | refine gW ?_ | (refine gIf ?_ ?_ <;> (intro hc; try exact gX)) | with_reducible refine br_intro ?_ ?_ | (with_reducible intro _; try exact gX) | with_reducible refine ands_intro ?_ ?_ | refine cx (xawake_c) ?_ | refine cx (xvalid_c hua hva (by omega) (by omega) hr) ?_ | refine cx (rxvalid_c hua hva (by omega) (by omega) hr) ?_)) <;> (try exact gF))
        exact rqq1 rT
    · refine cp1 (rs := [.tmp 2]) (nt := 25) Tryz.func11 (fun C hP hn => ?_)
      ((repeat' (first | refine gW ?_ | (refine gIf ?_ ?_ <;> (intro hc; try exact gX)) | with_reducible refine br_intro ?_ ?_ | (with_reducible intro _; try exact gX) | with_reducible refine ands_intro ?_ ?_ | refine cx (xawake_c) ?_)) <;> (try exact gF))
      exact rqq1 rT
  · refine cp1 (rs := [.tmp 2]) (nt := 25) Tryz.func11 (fun C hP hn => ?_)
    ((repeat' (first | refine gW ?_ | (refine gIf ?_ ?_ <;> (intro hc; try exact gX)) | with_reducible refine br_intro ?_ ?_ | (with_reducible intro _; try exact gX) | with_reducible refine ands_intro ?_ ?_ | refine cx (xawake_c) ?_)) <;> (try exact gF))
    exact rqq1 rT
theorem lawXFloor_c {ba ca : Bool} {xa ya : List Int} (hua : U32 xa) (hva : U32 ya) : HCallsD Tryz.prog 3 [] [.agg [.raw (.bool ba), .sl xa.length false (ints .u32 xa), .raw (.bool ca), .sl ya.length false (ints .u32 ya)]] (.raw (.bool true)) [] := by
  cases hs : smallR ba xa ca ya
  · refine cp1 (rs := [.tmp 2]) (nt := 32) Tryz.func3 (fun C hP hn => ?_)
    ((repeat' (first | refine gW ?_ | (refine gIf ?_ ?_ <;> (intro hc; try exact gX)) | with_reducible refine br_intro ?_ ?_ | (with_reducible intro _; try exact gX) | with_reducible refine ands_intro ?_ ?_ | refine cx (xawake_c) ?_ | refine cx (small1R hua hva hs) ?_)) <;> (try exact gF))
    exact rqq1 rT
  · obtain ⟨p, q, a, ha, rfl, rfl, rfl, rfl, la⟩ := smallR_spec hs
    obtain ⟨one, h1⟩ : ∃ z : Int, 1 = z := ⟨_, rfl⟩
    have b3 := one_len h1
    obtain ⟨z, hz⟩ : ∃ z, fq p q = z := ⟨_, rfl⟩
    have q0 := ha.pos
    have lz := fq_len (by omega) hz la.1
    have hf := ha.floor hz
    obtain ⟨pu, qu, hu⟩ : ∃ p q, IsR p q (a - (z : Rat)) := ⟨_, _, isR_self _⟩
    have lu := RL.sub ha (isR_one (z := z) h1) (L := 6) (M := 6) la ⟨by omega, by omega⟩ hu
    have k1 := Rat.floor_le a
    have k2 := Rat.lt_floor (x := a)
    rw [hf] at k1 k2
    have k3 : ¬ (a - (z : Rat)) < 0 := by grind
    have k4 : a - (z : Rat) < 1 := by grind
    obtain ⟨s, hs1, s0⟩ := cmp_nn (p := pu) ((sgn_lt hu) ▸ k3)
    refine cp1 (rs := [.tmp 2]) (nt := 32) Tryz.func3 (fun C hP hn => ?_)
    ((repeat' (first | refine gW ?_ | (refine gIf ?_ ?_ <;> (intro hc; try exact gX)) | with_reducible refine br_intro ?_ ?_ | (with_reducible intro _; try exact gX) | with_reducible refine ands_intro ?_ ?_ | refine cx (xawake_c) ?_ | refine cx (small1R hua hva hs) ?_ | refine cx (xfloor_c (by omega) hz (la.mono (by omega))) ?_ | refine cx (rvalid_e (z := z) (by rfl) (by rfl) (by rfl) (by omega) rfl) ?_ | refine cx (rfromint_c (z := z) h1) ?_ | refine cx (rxsub_c ha (isR_one (z := z) h1) hu (la.mono (by omega)) ⟨by omega, by omega⟩) ?_ | refine cx (rxsign_c (p := pu) (q := qu) (lu.mono (by omega)) hs1) ?_ | refine cx (rxfrom_c (by omega) (by omega) h1 h1) ?_ | refine cx (rxcmp_c hu (isR_11 h1) (cR_lt k4) (lu.mono (by omega)) ⟨by omega, by omega⟩) ?_)) <;> (try exact gF))
    exact rqq1 rT
theorem lawXArith_c {ba ca bb cb : Bool} {xa ya xb yb : List Int} (hua : U32 xa) (hva : U32 ya) (hub : U32 xb) (hvb : U32 yb) : HCallsD Tryz.prog 9 [] [.agg [.raw (.bool ba), .sl xa.length false (ints .u32 xa), .raw (.bool ca), .sl ya.length false (ints .u32 ya)], .agg [.raw (.bool bb), .sl xb.length false (ints .u32 xb), .raw (.bool cb), .sl yb.length false (ints .u32 yb)]] (.raw (.bool true)) [] := by
  obtain ⟨r, hr⟩ : ∃ r, smallR ba xa ca ya = r := ⟨_, rfl⟩
  obtain ⟨s, hs⟩ : ∃ r, smallR bb xb cb yb = r := ⟨_, rfl⟩
  have sm := small2R hua hva hub hvb hr hs
  cases hrs : (r && s)
  · rw [hrs] at sm
    refine cp2 (rs := [.tmp 4]) (nt := 85) Tryz.func9 (fun C hP hn => ?_)
    ((repeat' (first | refine gW ?_ | (refine gIf ?_ ?_ <;> (intro hc; try exact gX)) | with_reducible refine br_intro ?_ ?_ | (with_reducible intro _; try exact gX) | with_reducible refine ands_intro ?_ ?_ | refine cx (xawake_c) ?_ | refine cx (sm) ?_)) <;> (try exact gF))
    exact rqq1 rT
  · rw [hrs] at sm
    rw [Bool.and_eq_true] at hrs
    rw [hrs.1] at hr
    rw [hrs.2] at hs
    obtain ⟨pa, qa, a, ha, rfl, rfl, rfl, rfl, la⟩ := smallR_spec hr
    obtain ⟨pb, qb, b, hb, rfl, rfl, rfl, rfl, lb⟩ := smallR_spec hs
    have la3 := la.mono (M := 30000) (by omega)
    have lb3 := lb.mono (M := 30000) (by omega)
    obtain ⟨p1, q1, h1⟩ : ∃ p q, IsR p q (a + b) := ⟨_, _, isR_self _⟩
    obtain ⟨p2, q2, h2⟩ : ∃ p q, IsR p q (a - b) := ⟨_, _, isR_self _⟩
    obtain ⟨p3, q3, h3⟩ : ∃ p q, IsR p q (a * b) := ⟨_, _, isR_self _⟩
    obtain ⟨p4, hp4⟩ : ∃ p, -pa = p := ⟨_, rfl⟩
    have l1 := RL.add ha hb la lb h1
    have l2 := RL.sub ha hb la lb h2
    have l3 := RL.mul ha hb la lb h3
    have l4 : RL p4 qa 6 := hp4 ▸ la.neg
    by_cases hb0 : pb = 0
    · refine cp2 (rs := [.tmp 4]) (nt := 85) Tryz.func9 (fun C hP hn => ?_)
      ((repeat' (first | refine gW ?_ | (refine gIf ?_ ?_ <;> (intro hc; try exact gX)) | with_reducible refine br_intro ?_ ?_ | (with_reducible intro _; try exact gX) | with_reducible refine ands_intro ?_ ?_ | refine cx (xawake_c) ?_ | refine cx (sm) ?_ | refine cx (xdiv_0 hb0 lb3) ?_ | refine cx (rxdiv_0 hb0 la3 lb3) ?_ | refine cx (zero_e) ?_ | refine cx (xadd_c ha hb h1 la3 lb3) ?_ | refine cx (rxadd_c ha hb h1 la3 lb3) ?_ | refine cx (xsub_c ha hb h2 la3 lb3) ?_ | refine cx (rxsub_c ha hb h2 la3 lb3) ?_ | refine cx (xmul_c ha hb h3 la3 lb3) ?_ | refine cx (rxmul_c ha hb h3 la3 lb3) ?_ | refine cx (xneg_c (la.mono (by omega)) hp4) ?_ | refine cx (rxneg_c (la.mono (by omega)) hp4) ?_ | refine cx (rxsame_t (l1.mono (by omega))) ?_ | refine cx (rxsame_t (l2.mono (by omega))) ?_ | refine cx (rxsame_t (l3.mono (by omega))) ?_ | refine cx (rxsame_t (l4.mono (by omega))) ?_)) <;> (try exact gF))
      exact rqq1 rT
    · obtain ⟨p5, q5, h5⟩ : ∃ p q, IsR p q (a / b) := ⟨_, _, isR_self _⟩
      have l5 : RL p5 q5 90000 := by
        have h6 := h5
        rw [ha.div hb] at h6
        have k1 := len_mul (x := pa) (y := qb)
        have k2 := len_mul (x := qa) (y := pb)
        have := la.1; have := la.2; have := lb.1; have := lb.2
        exact RL.div ⟨by omega, by omega⟩ (Int.mul_ne_zero (by have := ha.pos; omega) hb0) h6
      refine cp2 (rs := [.tmp 4]) (nt := 85) Tryz.func9 (fun C hP hn => ?_)
      ((repeat' (first | refine gW ?_ | (refine gIf ?_ ?_ <;> (intro hc; try exact gX)) | with_reducible refine br_intro ?_ ?_ | (with_reducible intro _; try exact gX) | with_reducible refine ands_intro ?_ ?_ | refine cx (xawake_c) ?_ | refine cx (sm) ?_ | refine cx (xdiv_c ha hb hb0 h5 la3 lb3) ?_ | refine cx (rxdiv_c ha hb hb0 h5 la3 lb3) ?_ | refine cx (xadd_c ha hb h1 la3 lb3) ?_ | refine cx (rxadd_c ha hb h1 la3 lb3) ?_ | refine cx (xsub_c ha hb h2 la3 lb3) ?_ | refine cx (rxsub_c ha hb h2 la3 lb3) ?_ | refine cx (xmul_c ha hb h3 la3 lb3) ?_ | refine cx (rxmul_c ha hb h3 la3 lb3) ?_ | refine cx (xneg_c (la.mono (by omega)) hp4) ?_ | refine cx (rxneg_c (la.mono (by omega)) hp4) ?_ | refine cx (rxsame_t (l5.mono (by omega))) ?_ | refine cx (rxsame_t (l1.mono (by omega))) ?_ | refine cx (rxsame_t (l2.mono (by omega))) ?_ | refine cx (rxsame_t (l3.mono (by omega))) ?_ | refine cx (rxsame_t (l4.mono (by omega))) ?_)) <;> (try exact gF))
      exact rqq1 rT
end Go.Proofs.YtfmebdmgnmogaaaGreatDoor
