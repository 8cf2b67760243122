/- Laws of rational numbers, second part. No statement of its own. -/
import Derived.Test.YtfmebdmgnmogaaaGreatDoorQQ15
set_option linter.unusedVariables false
set_option linter.unusedSimpArgs false
set_option linter.unusedSimpArgs false
set_option linter.unusedVariables false
set_option maxRecDepth 100000
set_option maxHeartbeats 8000000
namespace Go.Proofs.YtfmebdmgnmogaaaGreatDoor
open Go Go.RowKit Hv

theorem mul_div_c {a c : Rat} (h : c ≠ 0) : a * c / c = a := by grind
theorem rat_zero {p q : Int} {a : Rat} (ha : IsR p q a) (h : p ≠ 0) : a ≠ 0 := by
  rintro rfl; exact h ha.1
theorem lawXField_c {ba ca bb cb bc cc : Bool} {xa ya xb yb xc yc : List Int} (hua : U32 xa) (hva : U32 ya) (hub : U32 xb) (hvb : U32 yb) (huc : U32 xc) (hvc : U32 yc) : HCallsD Tryz.prog 10 [] [.agg [.raw (.bool ba), .sl xa.length false (ints .u32 xa), .raw (.bool ca), .sl ya.length false (ints .u32 ya)], .agg [.raw (.bool bb), .sl xb.length false (ints .u32 xb), .raw (.bool cb), .sl yb.length false (ints .u32 yb)], .agg [.raw (.bool bc), .sl xc.length false (ints .u32 xc), .raw (.bool cc), .sl yc.length false (ints .u32 yc)]] (.raw (.bool true)) [] := by
  obtain ⟨r, hr⟩ : ∃ r, smallR ba xa ca ya = r := ⟨_, rfl⟩
  obtain ⟨s, hs⟩ : ∃ r, smallR bb xb cb yb = r := ⟨_, rfl⟩
  obtain ⟨t, ht⟩ : ∃ r, smallR bc xc cc yc = r := ⟨_, rfl⟩
  have sm := small3R hua hva hub hvb huc hvc hr hs ht
  cases hrs : (r && s && t)
  · rw [hrs] at sm
    refine cp3 (rs := [.tmp 6]) (nt := 101) Tryz.func10 (fun C hP hn => ?_)
    ((repeat' (first | refine gW ?_ | (refine gIf ?_ ?_ <;> (intro hc; try exact gX)) | with_reducible refine br_intro ?_ ?_ | (with_reducible intro _; try exact gX) | with_reducible refine ands_intro ?_ ?_ | refine cx (xawake_c) ?_ | refine cx (sm) ?_)) <;> (try exact gF))
    exact rqq1 rT
  · rw [hrs] at sm
    rw [Bool.and_eq_true, Bool.and_eq_true] at hrs
    rw [hrs.1.1] at hr
    rw [hrs.1.2] at hs
    rw [hrs.2] at ht
    obtain ⟨pa, qa, a, ha, rfl, rfl, rfl, rfl, la⟩ := smallR_spec hr
    obtain ⟨pb, qb, b, hb, rfl, rfl, rfl, rfl, lb⟩ := smallR_spec hs
    obtain ⟨pc, qc, c, hcr, rfl, rfl, rfl, rfl, lc⟩ := smallR_spec ht
    have la3 := la.mono (M := 30000) (by omega)
    have lb3 := lb.mono (M := 30000) (by omega)
    have lc3 := lc.mono (M := 30000) (by omega)
    obtain ⟨p1, q1, h1⟩ : ∃ p q, IsR p q (a + b) := ⟨_, _, isR_self _⟩
    obtain ⟨p2, q2, h2⟩ : ∃ p q, IsR p q (a + b + c) := ⟨_, _, isR_self _⟩
    obtain ⟨p3, q3, h3⟩ : ∃ p q, IsR p q (c + a) := ⟨_, _, isR_self _⟩
    obtain ⟨p4, q4, h4⟩ : ∃ p q, IsR p q (a * b) := ⟨_, _, isR_self _⟩
    obtain ⟨p5, q5, h5⟩ : ∃ p q, IsR p q (a * b * c) := ⟨_, _, isR_self _⟩
    obtain ⟨p6, q6, h6⟩ : ∃ p q, IsR p q (c * a) := ⟨_, _, isR_self _⟩
    obtain ⟨p7, q7, h7⟩ : ∃ p q, IsR p q (b + c) := ⟨_, _, isR_self _⟩
    obtain ⟨p8, q8, h8⟩ : ∃ p q, IsR p q (a * (b + c)) := ⟨_, _, isR_self _⟩
    obtain ⟨p9, q9, h9⟩ : ∃ p q, IsR p q (a * c) := ⟨_, _, isR_self _⟩
    have l1 := (RL.add ha hb la lb h1).mono (M := 30000) (by omega)
    have l2 := (RL.add h1 hcr (RL.add ha hb la lb h1) lc h2).mono (M := 90000) (by omega)
    have l3 := (RL.add hcr ha lc la h3).mono (M := 30000) (by omega)
    have l4 := (RL.mul ha hb la lb h4).mono (M := 30000) (by omega)
    have l5 := (RL.mul h4 hcr (RL.mul ha hb la lb h4) lc h5).mono (M := 90000) (by omega)
    have l6 := (RL.mul hcr ha lc la h6).mono (M := 30000) (by omega)
    have l7 := (RL.add hb hcr lb lc h7).mono (M := 30000) (by omega)
    have l8 := (RL.mul ha h7 la (RL.add hb hcr lb lc h7) h8).mono (M := 90000) (by omega)
    have l9 := (RL.mul ha hcr la lc h9).mono (M := 30000) (by omega)
    have h2' : IsR p2 q2 (b + (c + a)) := by rw [show b + (c + a) = a + b + c by grind]; exact h2
    have h5' : IsR p5 q5 (b * (c * a)) := by rw [show b * (c * a) = a * b * c by grind]; exact h5
    have h8' : IsR p8 q8 (a * b + a * c) := by rw [show a * b + a * c = a * (b + c) by grind]; exact h8
    have h1' : IsR pa qa (a + b - b) := by rw [show a + b - b = a by grind]; exact ha
    obtain ⟨s0, hs0⟩ : ∃ s, cmpI pc 0 = s := ⟨_, rfl⟩
    by_cases hc0 : pc = 0
    · have e0 : s0 = 0 := by rw [← hs0, hc0]; rfl
      refine cp3 (rs := [.tmp 6]) (nt := 101) Tryz.func10 (fun C hP hn => ?_)
      (have hXx := And.intro @e0 (And.intro @decide_true (And.intro @decide_false (@eq_self.{1}))); (repeat' (first | refine gWx ?_ | (refine gIf ?_ ?_ <;> (intro hc; try exact gX)) | with_reducible refine br_intro ?_ ?_ | (with_reducible intro _; try exact gX) | with_reducible refine ands_intro ?_ ?_ | refine cx (xawake_c) ?_ | refine cx (sm) ?_ | refine cx (xadd_c ha hb h1 la3 lb3) ?_ | refine cx (xadd_c h1 hcr h2 l1 lc3) ?_ | refine cx (xadd_c hcr ha h3 lc3 la3) ?_ | refine cx (xadd_c hb h3 h2' lb3 l3) ?_ | refine cx (rxsame_t l2) ?_ | refine cx (xmul_c ha hb h4 la3 lb3) ?_ | refine cx (xmul_c h4 hcr h5 l4 lc3) ?_ | refine cx (xmul_c hcr ha h6 lc3 la3) ?_ | refine cx (xmul_c hb h6 h5' lb3 l6) ?_ | refine cx (rxsame_t l5) ?_ | refine cx (xadd_c hb hcr h7 lb3 lc3) ?_ | refine cx (xmul_c ha h7 h8 la3 l7) ?_ | refine cx (xmul_c ha hcr h9 la3 lc3) ?_ | refine cx (xadd_c h4 h9 h8' l4 l9) ?_ | refine cx (rxsame_t l8) ?_ | refine cx (xsub_c h1 hb h1' l1 lb3) ?_ | refine cx (rxsame_t (la.mono (by omega))) ?_ | refine cx (xdiv_0 hc0 lc3) ?_ | refine cx (rxsign_c (lc.mono (by omega)) hs0) ?_)) <;> ((try clear hXx); try exact gF))
      exact rqq1 rT
    · have e0 : s0 ≠ 0 := hs0 ▸ cmp_ne hc0
      have h9' : IsR pa qa (a * c / c) := by rw [mul_div_c (rat_zero hcr hc0)]; exact ha
      refine cp3 (rs := [.tmp 6]) (nt := 101) Tryz.func10 (fun C hP hn => ?_)
      (have hXx := And.intro @e0 (And.intro @decide_true (And.intro @decide_false (@eq_self.{1}))); (repeat' (first | refine gWx ?_ | (refine gIf ?_ ?_ <;> (intro hc; try exact gX)) | with_reducible refine br_intro ?_ ?_ | (with_reducible intro _; try exact gX) | with_reducible refine ands_intro ?_ ?_ | refine cx (xawake_c) ?_ | refine cx (sm) ?_ | refine cx (xadd_c ha hb h1 la3 lb3) ?_ | refine cx (xadd_c h1 hcr h2 l1 lc3) ?_ | refine cx (xadd_c hcr ha h3 lc3 la3) ?_ | refine cx (xadd_c hb h3 h2' lb3 l3) ?_ | refine cx (rxsame_t l2) ?_ | refine cx (xmul_c ha hb h4 la3 lb3) ?_ | refine cx (xmul_c h4 hcr h5 l4 lc3) ?_ | refine cx (xmul_c hcr ha h6 lc3 la3) ?_ | refine cx (xmul_c hb h6 h5' lb3 l6) ?_ | refine cx (rxsame_t l5) ?_ | refine cx (xadd_c hb hcr h7 lb3 lc3) ?_ | refine cx (xmul_c ha h7 h8 la3 l7) ?_ | refine cx (xmul_c ha hcr h9 la3 lc3) ?_ | refine cx (xadd_c h4 h9 h8' l4 l9) ?_ | refine cx (rxsame_t l8) ?_ | refine cx (xsub_c h1 hb h1' l1 lb3) ?_ | refine cx (rxsame_t (la.mono (by omega))) ?_ | refine cx (xdiv_c h9 hcr hc0 h9' l9 lc3) ?_ | refine cx (rxsign_c (lc.mono (by omega)) hs0) ?_)) <;> ((try clear hXx); try exact gF))
      exact rqq1 rT
end Go.Proofs.YtfmebdmgnmogaaaGreatDoor
