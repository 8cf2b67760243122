/- Rational numbers: validity. No statement of its own. -/
import Derived.Test.YtfmebdmgnmogaaaGreatDoorQI24
set_option linter.unusedVariables false
set_option linter.unusedSimpArgs false
set_option linter.unusedSimpArgs false
set_option linter.unusedVariables false
set_option maxRecDepth 100000
set_option maxHeartbeats 8000000
namespace Go.Proofs.YtfmebdmgnmogaaaGreatDoor
open Go Go.RowKit Hv

theorem el58 : elT Tryz.prog 58 = some (26, 4, 64) := by kernel_rfl
attribute [push_cast] el58
def validR (b : Bool) (x : List Int) (c : Bool) (y : List Int) : Bool := validB b x && validB c y && decide (0 < zOf c y) && decide (gI (zOf b x) (zOf c y) = 1)
def smallR (b : Bool) (x : List Int) (c : Bool) (y : List Int) : Bool := decide ((x.length : Int) ≤ 6) && decide ((y.length : Int) ≤ 6) && validR b x c y
theorem smallR_spec {b c : Bool} {x y : List Int} (h : smallR b x c y = true) : ∃ (p q : Int) (r : Rat), IsR p q r ∧ b = decide (p < 0) ∧ x = dig (p.natAbs : Int) ∧ c = decide (q < 0) ∧ y = dig (q.natAbs : Int) ∧ RL p q 6 := by
  unfold smallR validR at h
  simp only [Bool.and_eq_true, decide_eq_true_eq] at h
  obtain ⟨⟨h1, h2⟩, ⟨⟨h3, h4⟩, h5⟩, h6⟩ := h
  obtain ⟨e1, e2⟩ := valid_spec h3
  obtain ⟨e3, e4⟩ := valid_spec h4
  generalize zOf b x = p at *
  generalize zOf c y = q at *
  refine ⟨p, q, Rat.divInt p q, ⟨?_, ?_⟩, e2, e1, e4, e3, ⟨by rw [← e1]; omega, by rw [← e3]; omega⟩⟩
  · rw [← red_num (by omega), h6, fq_one, if_neg (by omega)]
  · rw [← red_den (by omega), h6, fq_one, if_neg (by omega)]
theorem cmp_np {z c : Int} (h : ¬ 0 < z) (hcc : cmpI z 0 = c) : c ≤ 0 := by
  rw [← hcc]; unfold cmpI; split <;> (try split) <;> omega
theorem rxvalid_c {ba ca : Bool} {xa ya : List Int} {r : Bool} (hua : U32 xa) (hva : U32 ya) (lx : xa.length ≤ 16) (ly : ya.length ≤ 16) (hr : validR ba xa ca ya = r) : HCallsD Tryz.prog 29 [] [.agg [.raw (.bool ba), .sl xa.length false (ints .u32 xa), .raw (.bool ca), .sl ya.length false (ints .u32 ya)]] (.raw (.bool r)) [] := by
  unfold validR at hr
  cases h1 : validB ba xa
  · have e : r = false := by rw [← hr, h1]; rfl
    subst e
    refine cp1 (rs := [.tmp 2]) (nt := 26) Tryz.func29 (fun C hP hn => ?_)
    ((repeat' (first | refine gW ?_ | (refine gIf ?_ ?_ <;> (intro hc; try exact gX)) | with_reducible refine br_intro ?_ ?_ | (with_reducible intro _; try exact gX) | with_reducible refine ands_intro ?_ ?_ | refine cx (rvalid_v (by rfl) hua lx h1) ?_)) <;> (try exact gF))
    exact rqq1 rT
  · cases h2 : validB ca ya
    · have e : r = false := by rw [← hr, h1, h2]; rfl
      subst e
      refine cp1 (rs := [.tmp 2]) (nt := 26) Tryz.func29 (fun C hP hn => ?_)
      ((repeat' (first | refine gW ?_ | (refine gIf ?_ ?_ <;> (intro hc; try exact gX)) | with_reducible refine br_intro ?_ ?_ | (with_reducible intro _; try exact gX) | with_reducible refine ands_intro ?_ ?_ | refine cx (rvalid_v (by rfl) hua lx h1) ?_ | refine cx (rvalid_v (by rfl) hva ly h2) ?_)) <;> (try exact gF))
      exact rqq1 rT
    · rw [h1, h2] at hr
      obtain ⟨e1, e2⟩ := valid_spec h1
      obtain ⟨e3, e4⟩ := valid_spec h2
      generalize zOf ba xa = p at *
      generalize zOf ca ya = q at *
      subst e1 e2 e3 e4
      obtain ⟨s, hs⟩ : ∃ s, cmpI q 0 = s := ⟨_, rfl⟩
      by_cases hq : 0 < q
      · rw [cmp_p hq] at hs
        obtain ⟨one, ho⟩ : ∃ z : Int, 1 = z := ⟨_, rfl⟩
        have b3 := one_len ho
        obtain ⟨g, hg⟩ : ∃ g, gI p q = g := ⟨_, rfl⟩
        have g1 : g ≤ q := hg ▸ gI_le_r hq
        have g0 : 0 < g := hg ▸ gI_pos (by omega)
        have lg : (dig (g.natAbs : Int)).length ≤ 16 := Nat.le_trans (dig_le (by omega) (by omega)) ly
        have hr2 : decide (g = one) = r := by rw [← hr, hg, ← ho]; simp [hq]
        subst hs
        refine cp1 (rs := [.tmp 2]) (nt := 26) Tryz.func29 (fun C hP hn => ?_)
        by_cases hg1 : g = one
        · have hr3 : true = r := by rw [← hr2, decide_eq_true hg1]
          subst hr3
          ((repeat' (first | refine gW ?_ | (refine gIf ?_ ?_ <;> (intro hc; try exact gX)) | with_reducible refine br_intro ?_ ?_ | (with_reducible intro _; try exact gX) | with_reducible refine ands_intro ?_ ?_ | refine cx (rvalid_v (by rfl) hua lx h1) ?_ | refine cx (rvalid_v (by rfl) hva ly h2) ?_ | refine cx (rsign_e (za := q) (by rfl) (by rfl) (by rfl) (by omega) (cmp_p hq)) ?_ | refine cx (rgcd_e (za := p) (zb := q) (by rfl) (by rfl) (by rfl) (by omega) (by rfl) (by rfl) (by rfl) (by omega) hg) ?_ | refine cx (runit_w ho) ?_ | refine cx (unit_w ho) ?_ | refine cx (rSame_e (a := g) (b := one) (by omega) (by omega) (decide_eq_true hg1)) ?_ | refine cx (icmp_e (za := g) (zb := one) (by rfl) (by rfl) (by rfl) (by omega) (by rfl) (by rfl) (by rfl) (by omega) (r := 0) (by rw [hg1]; exact cmp_e _)) ?_)) <;> (try exact gF))
          exact rqq1 rT
        · have hr3 : false = r := by rw [← hr2, decide_eq_false hg1]
          subst hr3
          ((repeat' (first | refine gW ?_ | (refine gIf ?_ ?_ <;> (intro hc; try exact gX)) | with_reducible refine br_intro ?_ ?_ | (with_reducible intro _; try exact gX) | with_reducible refine ands_intro ?_ ?_ | refine cx (rvalid_v (by rfl) hua lx h1) ?_ | refine cx (rvalid_v (by rfl) hva ly h2) ?_ | refine cx (rsign_e (za := q) (by rfl) (by rfl) (by rfl) (by omega) (cmp_p hq)) ?_ | refine cx (rgcd_e (za := p) (zb := q) (by rfl) (by rfl) (by rfl) (by omega) (by rfl) (by rfl) (by rfl) (by omega) hg) ?_ | refine cx (runit_w ho) ?_ | refine cx (unit_w ho) ?_ | refine cx (rSame_e (a := g) (b := one) (by omega) (by omega) (decide_eq_false hg1)) ?_ | refine cx (icmp_e (za := g) (zb := one) (by rfl) (by rfl) (by rfl) (by omega) (by rfl) (by rfl) (by rfl) (by omega) (r := 1) (cmp_g (by omega))) ?_)) <;> (try exact gF))
          exact rqq1 rT
      · have hs0 := cmp_np hq hs
        have e : r = false := by rw [← hr]; simp [hq]
        subst e
        refine cp1 (rs := [.tmp 2]) (nt := 26) Tryz.func29 (fun C hP hn => ?_)
        ((repeat' (first | refine gW ?_ | (refine gIf ?_ ?_ <;> (intro hc; try exact gX)) | with_reducible refine br_intro ?_ ?_ | (with_reducible intro _; try exact gX) | with_reducible refine ands_intro ?_ ?_ | refine cx (rvalid_v (by rfl) hua lx h1) ?_ | refine cx (rvalid_v (by rfl) hva ly h2) ?_ | refine cx (rsign_e (za := q) (by rfl) (by rfl) (by rfl) (by omega) hs) ?_)) <;> (try exact gF))
        exact rqq1 rT
theorem xvalid_c {ba ca : Bool} {xa ya : List Int} {r : Bool} (hua : U32 xa) (hva : U32 ya) (lx : xa.length ≤ 16) (ly : ya.length ≤ 16) (hr : validR ba xa ca ya = r) : HCallsD Tryz.prog 55 [] [.agg [.raw (.bool ba), .sl xa.length false (ints .u32 xa), .raw (.bool ca), .sl ya.length false (ints .u32 ya)]] (.raw (.bool r)) [] := by
  unfold validR at hr
  cases h1 : validB ba xa
  · have e : r = false := by rw [← hr, h1]; rfl
    subst e
    refine cp1 (rs := [.tmp 2]) (nt := 27) Tryz.func55 (fun C hP hn => ?_)
    ((repeat' (first | refine gW ?_ | (refine gIf ?_ ?_ <;> (intro hc; try exact gX)) | with_reducible refine br_intro ?_ ?_ | (with_reducible intro _; try exact gX) | with_reducible refine ands_intro ?_ ?_ | refine cx (valid_e (by rfl) hua lx h1) ?_)) <;> (try exact gF))
    exact rqq1 rT
  · cases h2 : validB ca ya
    · have e : r = false := by rw [← hr, h1, h2]; rfl
      subst e
      refine cp1 (rs := [.tmp 2]) (nt := 27) Tryz.func55 (fun C hP hn => ?_)
      ((repeat' (first | refine gW ?_ | (refine gIf ?_ ?_ <;> (intro hc; try exact gX)) | with_reducible refine br_intro ?_ ?_ | (with_reducible intro _; try exact gX) | with_reducible refine ands_intro ?_ ?_ | refine cx (valid_e (by rfl) hua lx h1) ?_ | refine cx (valid_e (by rfl) hva ly h2) ?_)) <;> (try exact gF))
      exact rqq1 rT
    · rw [h1, h2] at hr
      obtain ⟨e1, e2⟩ := valid_spec h1
      obtain ⟨e3, e4⟩ := valid_spec h2
      generalize zOf ba xa = p at *
      generalize zOf ca ya = q at *
      subst e1 e2 e3 e4
      obtain ⟨s, hs⟩ : ∃ s, cmpI q 0 = s := ⟨_, rfl⟩
      by_cases hq : 0 < q
      · rw [cmp_p hq] at hs
        obtain ⟨one, ho⟩ : ∃ z : Int, 1 = z := ⟨_, rfl⟩
        have b3 := one_len ho
        obtain ⟨g, hg⟩ : ∃ g, gI p q = g := ⟨_, rfl⟩
        have g1 : g ≤ q := hg ▸ gI_le_r hq
        have g0 : 0 < g := hg ▸ gI_pos (by omega)
        have lg : (dig (g.natAbs : Int)).length ≤ 16 := Nat.le_trans (dig_le (by omega) (by omega)) ly
        have hr2 : decide (g = one) = r := by rw [← hr, hg, ← ho]; simp [hq]
        subst hs
        refine cp1 (rs := [.tmp 2]) (nt := 27) Tryz.func55 (fun C hP hn => ?_)
        by_cases hg1 : g = one
        · have hr3 : true = r := by rw [← hr2, decide_eq_true hg1]
          subst hr3
          ((repeat' (first | refine gW ?_ | (refine gIf ?_ ?_ <;> (intro hc; try exact gX)) | with_reducible refine br_intro ?_ ?_ | (with_reducible intro _; try exact gX) | with_reducible refine ands_intro ?_ ?_ | refine cx (valid_e (by rfl) hua lx h1) ?_ | refine cx (valid_e (by rfl) hva ly h2) ?_ | refine cx (isign_e (za := q) (by rfl) (by rfl) (by rfl) (by omega) (cmp_p hq)) ?_ | refine cx (igcd_e (za := p) (zb := q) (by rfl) (by rfl) (by rfl) (by omega) (by rfl) (by rfl) (by rfl) (by omega) hg) ?_ | refine cx (runit_w ho) ?_ | refine cx (unit_w ho) ?_ | refine cx (rSame_e (a := g) (b := one) (by omega) (by omega) (decide_eq_true hg1)) ?_ | refine cx (icmp_e (za := g) (zb := one) (by rfl) (by rfl) (by rfl) (by omega) (by rfl) (by rfl) (by rfl) (by omega) (r := 0) (by rw [hg1]; exact cmp_e _)) ?_)) <;> (try exact gF))
          exact rqq1 rT
        · have hr3 : false = r := by rw [← hr2, decide_eq_false hg1]
          subst hr3
          ((repeat' (first | refine gW ?_ | (refine gIf ?_ ?_ <;> (intro hc; try exact gX)) | with_reducible refine br_intro ?_ ?_ | (with_reducible intro _; try exact gX) | with_reducible refine ands_intro ?_ ?_ | refine cx (valid_e (by rfl) hua lx h1) ?_ | refine cx (valid_e (by rfl) hva ly h2) ?_ | refine cx (isign_e (za := q) (by rfl) (by rfl) (by rfl) (by omega) (cmp_p hq)) ?_ | refine cx (igcd_e (za := p) (zb := q) (by rfl) (by rfl) (by rfl) (by omega) (by rfl) (by rfl) (by rfl) (by omega) hg) ?_ | refine cx (runit_w ho) ?_ | refine cx (unit_w ho) ?_ | refine cx (rSame_e (a := g) (b := one) (by omega) (by omega) (decide_eq_false hg1)) ?_ | refine cx (icmp_e (za := g) (zb := one) (by rfl) (by rfl) (by rfl) (by omega) (by rfl) (by rfl) (by rfl) (by omega) (r := 1) (cmp_g (by omega))) ?_)) <;> (try exact gF))
          exact rqq1 rT
      · have hs0 := cmp_np hq hs
        have e : r = false := by rw [← hr]; simp [hq]
        subst e
        refine cp1 (rs := [.tmp 2]) (nt := 27) Tryz.func55 (fun C hP hn => ?_)
        ((repeat' (first | refine gW ?_ | (refine gIf ?_ ?_ <;> (intro hc; try exact gX)) | with_reducible refine br_intro ?_ ?_ | (with_reducible intro _; try exact gX) | with_reducible refine ands_intro ?_ ?_ | refine cx (valid_e (by rfl) hua lx h1) ?_ | refine cx (valid_e (by rfl) hva ly h2) ?_ | refine cx (isign_e (za := q) (by rfl) (by rfl) (by rfl) (by omega) hs) ?_)) <;> (try exact gF))
        exact rqq1 rT
theorem rxsmall_c {ba ca : Bool} {xa ya : List Int} {r : Bool} (hua : U32 xa) (hva : U32 ya) (hr : smallR ba xa ca ya = r) : HCallsD Tryz.prog 58 [] [.agg [.raw (.bool ba), .sl xa.length false (ints .u32 xa), .raw (.bool ca), .sl ya.length false (ints .u32 ya)], .raw (.int .i64 6)] (.raw (.bool r)) [] := by
  unfold smallR at hr
  by_cases h1 : xa.length ≤ 6
  · by_cases h2 : ya.length ≤ 6
    · have hr2 : validR ba xa ca ya = r := by rw [← hr, decide_eq_true (show (xa.length : Int) ≤ 6 by omega), decide_eq_true (show (ya.length : Int) ≤ 6 by omega)]; rfl
      refine cp2 (rs := [.tmp 4]) (nt := 23) Tryz.func58 (fun C hP hn => ?_)
      ((repeat' (first | refine gW ?_ | (refine gIf ?_ ?_ <;> (intro hc; try exact gX)) | with_reducible refine br_intro ?_ ?_ | (with_reducible intro _; try exact gX) | with_reducible refine ands_intro ?_ ?_ | refine cx (rxvalid_c hua hva (by omega) (by omega) hr2) ?_)) <;> (try exact gF))
      exact rqq1 rT
    · have e : r = false := by rw [← hr]; simp; intro _ h; omega
      subst e
      refine cp2 (rs := [.tmp 4]) (nt := 23) Tryz.func58 (fun C hP hn => ?_)
      ((repeat' (first | refine gW ?_ | (refine gIf ?_ ?_ <;> (intro hc; try exact gX)) | with_reducible refine br_intro ?_ ?_ | (with_reducible intro _; try exact gX) | with_reducible refine ands_intro ?_ ?_)) <;> (try exact gF))
      exact rqq1 rT
  · have e : r = false := by rw [← hr]; simp; intro h; omega
    subst e
    refine cp2 (rs := [.tmp 4]) (nt := 23) Tryz.func58 (fun C hP hn => ?_)
    ((repeat' (first | refine gW ?_ | (refine gIf ?_ ?_ <;> (intro hc; try exact gX)) | with_reducible refine br_intro ?_ ?_ | (with_reducible intro _; try exact gX) | with_reducible refine ands_intro ?_ ?_)) <;> (try exact gF))
    exact rqq1 rT
theorem small1R {ba ca : Bool} {xa ya : List Int} {r : Bool} (hua : U32 xa) (hva : U32 ya) (hr : smallR ba xa ca ya = r) : HCallsD Tryz.prog 13 [] [.sl 1 false [.raw (.bool ba), .sl xa.length false (ints .u32 xa), .raw (.bool ca), .sl ya.length false (ints .u32 ya)]] (.raw (.bool r)) [] := by
  refine cp1 (rs := [.tmp 2]) (nt := 15) Tryz.func13 (fun C hP hn => ?_)
  ((repeat' (first | refine gW ?_ | (refine gIf ?_ ?_ <;> (intro hc; try exact gX)) | with_reducible refine br_intro ?_ ?_ | (with_reducible intro _; try exact gX) | with_reducible refine ands_intro ?_ ?_)) <;> (try exact gF))
  refine hwp_unroll 2 ?_
  cases r
  all_goals ((repeat' (first | refine gW ?_ | (refine gIf ?_ ?_ <;> (intro hc; try exact gX)) | with_reducible refine br_intro ?_ ?_ | (with_reducible intro _; try exact gX) | with_reducible refine ands_intro ?_ ?_ | refine cx (rxsmall_c hua hva hr) ?_)) <;> (try exact gF))
  all_goals exact rqq1 rT
theorem small2R {ba ca bb cb : Bool} {xa ya xb yb : List Int} {r s : Bool} (hua : U32 xa) (hva : U32 ya) (hub : U32 xb) (hvb : U32 yb) (hr : smallR ba xa ca ya = r) (hs : smallR bb xb cb yb = s) : HCallsD Tryz.prog 13 [] [.sl 2 false [.raw (.bool ba), .sl xa.length false (ints .u32 xa), .raw (.bool ca), .sl ya.length false (ints .u32 ya), .raw (.bool bb), .sl xb.length false (ints .u32 xb), .raw (.bool cb), .sl yb.length false (ints .u32 yb)]] (.raw (.bool (r && s))) [] := by
  refine cp1 (rs := [.tmp 2]) (nt := 15) Tryz.func13 (fun C hP hn => ?_)
  ((repeat' (first | refine gW ?_ | (refine gIf ?_ ?_ <;> (intro hc; try exact gX)) | with_reducible refine br_intro ?_ ?_ | (with_reducible intro _; try exact gX) | with_reducible refine ands_intro ?_ ?_)) <;> (try exact gF))
  refine hwp_unroll 3 ?_
  cases r
  all_goals cases s
  all_goals ((repeat' (first | refine gW ?_ | (refine gIf ?_ ?_ <;> (intro hc; try exact gX)) | with_reducible refine br_intro ?_ ?_ | (with_reducible intro _; try exact gX) | with_reducible refine ands_intro ?_ ?_ | refine cx (rxsmall_c hua hva hr) ?_ | refine cx (rxsmall_c hub hvb hs) ?_)) <;> (try exact gF))
  all_goals exact rqq1 rT
theorem small3R {ba ca bb cb bc cc : Bool} {xa ya xb yb xc yc : List Int} {r s t : Bool} (hua : U32 xa) (hva : U32 ya) (hub : U32 xb) (hvb : U32 yb) (huc : U32 xc) (hvc : U32 yc) (hr : smallR ba xa ca ya = r) (hs : smallR bb xb cb yb = s) (ht : smallR bc xc cc yc = t) : HCallsD Tryz.prog 13 [] [.sl 3 false [.raw (.bool ba), .sl xa.length false (ints .u32 xa), .raw (.bool ca), .sl ya.length false (ints .u32 ya), .raw (.bool bb), .sl xb.length false (ints .u32 xb), .raw (.bool cb), .sl yb.length false (ints .u32 yb), .raw (.bool bc), .sl xc.length false (ints .u32 xc), .raw (.bool cc), .sl yc.length false (ints .u32 yc)]] (.raw (.bool (r && s && t))) [] := by
  refine cp1 (rs := [.tmp 2]) (nt := 15) Tryz.func13 (fun C hP hn => ?_)
  ((repeat' (first | refine gW ?_ | (refine gIf ?_ ?_ <;> (intro hc; try exact gX)) | with_reducible refine br_intro ?_ ?_ | (with_reducible intro _; try exact gX) | with_reducible refine ands_intro ?_ ?_)) <;> (try exact gF))
  refine hwp_unroll 4 ?_
  cases r
  all_goals cases s
  all_goals cases t
  all_goals ((repeat' (first | refine gW ?_ | (refine gIf ?_ ?_ <;> (intro hc; try exact gX)) | with_reducible refine br_intro ?_ ?_ | (with_reducible intro _; try exact gX) | with_reducible refine ands_intro ?_ ?_ | refine cx (rxsmall_c hua hva hr) ?_ | refine cx (rxsmall_c hub hvb hs) ?_ | refine cx (rxsmall_c huc hvc ht) ?_)) <;> (try exact gF))
  all_goals exact rqq1 rT
end Go.Proofs.YtfmebdmgnmogaaaGreatDoor
