/- Laws of rational numbers: order. No statement of its own. -/
import Derived.Test.YtfmebdmgnmogaaaGreatDoorQQ16
set_option linter.unusedVariables false
set_option linter.unusedSimpArgs false
set_option linter.unusedSimpArgs false
set_option linter.unusedVariables false
set_option maxRecDepth 100000
set_option maxHeartbeats 8000000
namespace Go.Proofs.YtfmebdmgnmogaaaGreatDoor
open Go Go.RowKit Hv

theorem cR_swap (a b : Rat) : cR b a = -cR a b := by
  unfold cR
  by_cases h1 : a < b
  · have h2 : ¬ b < a := by grind
    simp only [if_pos h1, if_neg h2]
    rfl
  · by_cases h2 : b < a
    · simp only [if_pos h2, if_neg h1]
    · simp only [if_neg h1, if_neg h2]
      rfl
theorem cR_add (a b c : Rat) : cR (a + c) (b + c) = cR a b := by
  unfold cR
  have e1 : (a + c < b + c) = (a < b) := by grind
  have e2 : (b + c < a + c) = (b < a) := by grind
  simp only [e1, e2]
theorem cR_mul {p q : Int} {a b c : Rat} (hcr : IsR p q c) : cR (a * c) (b * c) = cR a b * cmpI p 0 := by
  have e1 := sgn_lt hcr
  have e2 := sgn_gt hcr
  by_cases h1 : p < 0
  · rw [cmp_n h1]
    have hc0 : c < 0 := e1 ▸ h1
    have k1 : (a * c < b * c) = (b < a) := by
      have := Rat.mul_lt_mul_right (a := b) (b := a) (c := -c) (by grind)
      grind
    have k2 : (b * c < a * c) = (a < b) := by
      have := Rat.mul_lt_mul_right (a := a) (b := b) (c := -c) (by grind)
      grind
    have : cR (a * c) (b * c) = cR b a := by unfold cR; simp only [k1, k2]
    rw [this, cR_swap]; omega
  · by_cases h2 : 0 < p
    · rw [cmp_p h2, Int.mul_one]
      have hc0 : 0 < c := e2 ▸ h2
      have k1 : (a * c < b * c) = (a < b) := propext (Rat.mul_lt_mul_right hc0)
      have k2 : (b * c < a * c) = (b < a) := propext (Rat.mul_lt_mul_right hc0)
      unfold cR
      simp only [k1, k2]
    · have h3 : p = 0 := by omega
      have hc0 : c = 0 := Rat.num_eq_zero.1 (hcr.1 ▸ h3)
      rw [h3, cmp_0, Int.mul_zero, hc0, Rat.mul_zero, Rat.mul_zero]
      unfold cR
      simp only [if_neg (Rat.lt_irrefl (a := 0))]
theorem lawXOrder_c {ba ca bb cb bc cc : Bool} {xa ya xb yb xc yc : List Int} (hua : U32 xa) (hva : U32 ya) (hub : U32 xb) (hvb : U32 yb) (huc : U32 xc) (hvc : U32 yc) : HCallsD Tryz.prog 7 [] [.agg [.raw (.bool ba), .sl xa.length false (ints .u32 xa), .raw (.bool ca), .sl ya.length false (ints .u32 ya)], .agg [.raw (.bool bb), .sl xb.length false (ints .u32 xb), .raw (.bool cb), .sl yb.length false (ints .u32 yb)], .agg [.raw (.bool bc), .sl xc.length false (ints .u32 xc), .raw (.bool cc), .sl yc.length false (ints .u32 yc)]] (.raw (.bool true)) [] := by
  obtain ⟨r, hr⟩ : ∃ r, smallR ba xa ca ya = r := ⟨_, rfl⟩
  obtain ⟨s, hs⟩ : ∃ r, smallR bb xb cb yb = r := ⟨_, rfl⟩
  obtain ⟨t, ht⟩ : ∃ r, smallR bc xc cc yc = r := ⟨_, rfl⟩
  have sm := small3R hua hva hub hvb huc hvc hr hs ht
  cases hrs : (r && s && t)
  · rw [hrs] at sm
    refine cp3 (rs := [.tmp 6]) (nt := 67) Tryz.func7 (fun C hP hn => ?_)
    ((repeat' (first | refine gW ?_ | (refine gIf ?_ ?_ <;> (intro hc; try exact gX)) | with_reducible refine br_intro ?_ ?_ | (with_reducible intro _; try exact gX) | with_reducible refine ands_intro ?_ ?_ | refine cx (xawake_c) ?_ | refine cx (sm) ?_)) <;> (try exact gF))
    exact rqq1 rT
  · rw [hrs] at sm
    rw [Bool.and_eq_true, Bool.and_eq_true] at hrs
    rw [hrs.1.1] at hr
    rw [hrs.1.2] at hs
    rw [hrs.2] at ht
    obtain ⟨pa, qa, a, ha, rfl, rfl, rfl, rfl, la⟩ := smallR_spec hr
    obtain ⟨pb, qb, b, hb, rfl, rfl, rfl, rfl, lb⟩ := smallR_spec hs
    obtain ⟨pc, qc, c, hcr, rfl, rfl, rfl, rfl, lc⟩ := smallR_spec ht
    have la3 := la.mono (M := 30000) (by omega)
    have lb3 := lb.mono (M := 30000) (by omega)
    have lc3 := lc.mono (M := 30000) (by omega)
    obtain ⟨p1, q1, h1⟩ : ∃ p q, IsR p q (a + c) := ⟨_, _, isR_self _⟩
    obtain ⟨p2, q2, h2⟩ : ∃ p q, IsR p q (b + c) := ⟨_, _, isR_self _⟩
    obtain ⟨p3, q3, h3⟩ : ∃ p q, IsR p q (a * c) := ⟨_, _, isR_self _⟩
    obtain ⟨p4, q4, h4⟩ : ∃ p q, IsR p q (b * c) := ⟨_, _, isR_self _⟩
    have l1 := (RL.add ha hcr la lc h1).mono (M := 30000) (by omega)
    have l2 := (RL.add hb hcr lb lc h2).mono (M := 30000) (by omega)
    have l3 := (RL.mul ha hcr la lc h3).mono (M := 30000) (by omega)
    have l4 := (RL.mul hb hcr lb lc h4).mono (M := 30000) (by omega)
    obtain ⟨n, e1⟩ : ∃ n, cR a b = n := ⟨_, rfl⟩
    obtain ⟨m, e2⟩ : ∃ m, 0 - n = m := ⟨_, rfl⟩
    obtain ⟨u, e3⟩ : ∃ u, cmpI pc 0 = u := ⟨_, rfl⟩
    obtain ⟨v, e4⟩ : ∃ v, n * u = v := ⟨_, rfl⟩
    have e5 : cR b a = m := by rw [cR_swap, e1]; omega
    have e6 : cR (a + c) (b + c) = n := by rw [cR_add, e1]
    have e7 : cR (a * c) (b * c) = v := by rw [cR_mul hcr, e1, e3, e4]
    have r1 := cR_rng a b
    have r2 := cR_rng (a * c) (b * c)
    rw [e1] at r1
    rw [e7] at r2
    refine cp3 (rs := [.tmp 6]) (nt := 67) Tryz.func7 (fun C hP hn => ?_)
    (have hXx := And.intro @e2 (And.intro @e4 (And.intro @eq_self.{1} (@decide_true))); (repeat' (first | refine gWx ?_ | (refine gIf ?_ ?_ <;> (intro hc; try exact gX)) | with_reducible refine br_intro ?_ ?_ | (with_reducible intro _; try exact gX) | with_reducible refine ands_intro ?_ ?_ | refine cx (xawake_c) ?_ | refine cx (sm) ?_ | refine cx (xcmp_c ha hb e1 la3 lb3) ?_ | refine cx (rxcmp_c ha hb e1 la3 lb3) ?_ | refine cx (xcmp_c hb ha e5 lb3 la3) ?_ | refine cx (xsign_c (lc.mono (by omega)) e3) ?_ | refine cx (rxsign_c (lc.mono (by omega)) e3) ?_ | refine cx (xadd_c ha hcr h1 la3 lc3) ?_ | refine cx (xadd_c hb hcr h2 lb3 lc3) ?_ | refine cx (xcmp_c h1 h2 e6 l1 l2) ?_ | refine cx (xmul_c ha hcr h3 la3 lc3) ?_ | refine cx (xmul_c hb hcr h4 lb3 lc3) ?_ | refine cx (xcmp_c h3 h4 e7 l3 l4) ?_)) <;> ((try clear hXx); try exact gF))
    exact rqq1 rT
end Go.Proofs.YtfmebdmgnmogaaaGreatDoor
