/- Contracts of the differences of integers. No statement of its own. -/
import Derived.Test.YtfmebdmgnmogaaaGreatDoorQI9
set_option linter.unusedVariables false
set_option linter.unusedSimpArgs false
set_option linter.unusedSimpArgs false
set_option linter.unusedVariables false
set_option maxRecDepth 100000
set_option maxHeartbeats 2000000
namespace Go.Proofs.YtfmebdmgnmogaaaGreatDoor
open Go Go.RowKit Hv

theorem isub_c {ba : Bool} {na : Nat} {xa : List Int} {za : Int} {bb : Bool} {nb : Nat} {xb : List Int} {zb : Int} (hba : ba = decide (za < 0)) (hna : na = xa.length) (hxa : xa = dig (za.natAbs : Int)) (hla : xa.length ≤ 100000) (hbb : bb = decide (zb < 0)) (hnb : nb = xb.length) (hxb : xb = dig (zb.natAbs : Int)) (hlb : xb.length ≤ 100000) : HCallsD Tryz.prog 96 [] [.agg [.raw (.bool ba), .sl na false (ints .u32 xa)], .agg [.raw (.bool bb), .sl nb false (ints .u32 xb)]] (aI (za - zb)) [] := by
  subst hna hnb
  have e : za - zb = za + -zb := by omega
  rw [e]
  have hab : ((-zb).natAbs : Int) = zb.natAbs := by omega
  obtain ⟨rfl, hsb⟩ | ⟨rfl, hsb⟩ := sgn_cases hbb
  · refine cp2 (rs := [.cell 4 24]) (nt := 18) Tryz.func96 (fun C hP hn => ?_)
    ((repeat' (first | refine gW ?_ | (refine gIf ?_ ?_ <;> (intro hc; try exact gX)) | with_reducible refine br_intro ?_ ?_ | (with_reducible intro _; try exact gX) | with_reducible refine ands_intro ?_ ?_ | refine cx (iadd_c (zb := -zb) hba (by rfl) hxa hla (decide_eq_false (by omega)).symm (by rfl) (by rw [hab]; exact hxb) hlb) ?_)) <;> (try exact gF))
    exact rqq1 (rC ty24)
  · rcases Int.lt_or_le 0 zb with h | h
    · have hp : 0 < xb.length := by rw [hxb]; exact dig_len_pos (by omega)
      refine cp2 (rs := [.cell 4 24]) (nt := 18) Tryz.func96 (fun C hP hn => ?_)
      ((repeat' (first | refine gW ?_ | (refine gIf ?_ ?_ <;> (intro hc; try exact gX)) | with_reducible refine br_intro ?_ ?_ | (with_reducible intro _; try exact gX) | with_reducible refine ands_intro ?_ ?_ | refine cx (iadd_c (zb := -zb) hba (by rfl) hxa hla (by rw [decide_eq_decide]; omega) (by rfl) (by rw [hab]; exact hxb) hlb) ?_)) <;> (try exact gF))
      exact rqq1 (rC ty24)
    · have hp : xb.length = 0 := by rw [hxb]; exact dig_len_zero (by omega)
      refine cp2 (rs := [.cell 4 24]) (nt := 18) Tryz.func96 (fun C hP hn => ?_)
      ((repeat' (first | refine gW ?_ | (refine gIf ?_ ?_ <;> (intro hc; try exact gX)) | with_reducible refine br_intro ?_ ?_ | (with_reducible intro _; try exact gX) | with_reducible refine ands_intro ?_ ?_ | refine cx (iadd_c (zb := -zb) hba (by rfl) hxa hla (by rw [decide_eq_decide]; omega) (by rfl) (by rw [hab]; exact hxb) hlb) ?_)) <;> (try exact gF))
      exact rqq1 (rC ty24)

end Go.Proofs.YtfmebdmgnmogaaaGreatDoor
set_option linter.unusedSimpArgs false
set_option linter.unusedVariables false
set_option maxRecDepth 100000
set_option maxHeartbeats 2000000
namespace Go.Proofs.YtfmebdmgnmogaaaGreatDoor
open Go Go.RowKit Hv

theorem radd_c {ba : Bool} {na : Nat} {xa : List Int} {za : Int} {bb : Bool} {nb : Nat} {xb : List Int} {zb : Int} (hba : ba = decide (za < 0)) (hna : na = xa.length) (hxa : xa = dig (za.natAbs : Int)) (hla : xa.length ≤ 100000) (hbb : bb = decide (zb < 0)) (hnb : nb = xb.length) (hxb : xb = dig (zb.natAbs : Int)) (hlb : xb.length ≤ 100000) : HCallsD Tryz.prog 31 [] [.agg [.raw (.bool ba), .sl na false (ints .u32 xa)], .agg [.raw (.bool bb), .sl nb false (ints .u32 xb)]] (aI (za + zb)) [] := by
  subst hna hnb
  have lx : Lim xa := hxa ▸ dig_lim _
  have ly : Lim xb := hxb ▸ dig_lim _
  have vx : V xa = za.natAbs := by rw [hxa, dig_V (ab_nn _)]
  have vy : V xb = zb.natAbs := by rw [hxb, dig_V (ab_nn _)]
  have hpl : (dig (V xa + V xb)).length ≤ 1000000 := by
    have h := V_lt (limbsN_lim (max xa.length xb.length + 1) (V xa + V xb))
    rw [plus_V lx ly, limbsN_length] at h
    have := dig_len h
    omega
  obtain ⟨rfl, hsa⟩ | ⟨rfl, hsa⟩ := sgn_cases hba
  all_goals obtain ⟨rfl, hsb⟩ | ⟨rfl, hsb⟩ := sgn_cases hbb
  · refine cp2 (rs := [.cell 4 24]) (nt := 40) Tryz.func31 (fun C hP hn => ?_)
    ((repeat' (first | refine gW ?_ | (refine gIf ?_ ?_ <;> (intro hc; try exact gX)) | with_reducible refine br_intro ?_ ?_ | (with_reducible intro _; try exact gX) | with_reducible refine ands_intro ?_ ?_ | refine cx (rplus_c (by rfl) (by rfl) lx ly (by omega) (by omega)) ?_ | refine cx (rsigned_e (z := za + zb) (by rfl) (hpl) (dig_lim _) (by rw [dig_V (by omega), vx, vy]; simp only [sgnd_t]; omega)) ?_)) <;> (try exact gF))
    exact rqq1 (rC ty24)
  · rcases Int.lt_trichotomy (za.natAbs : Int) (zb.natAbs : Int) with h | h | h
    · refine cp2 (rs := [.cell 4 24]) (nt := 40) Tryz.func31 (fun C hP hn => ?_)
      ((repeat' (first | refine gW ?_ | (refine gIf ?_ ?_ <;> (intro hc; try exact gX)) | with_reducible refine br_intro ?_ ?_ | (with_reducible intro _; try exact gX) | with_reducible refine ands_intro ?_ ?_ | refine cx (rcompare_e (r := -1) (u := (za.natAbs : Int)) (v := (zb.natAbs : Int)) (by rfl) (by rfl) hxa hxb (by omega) (by omega) (by omega) (by omega) (cmpI_lt h)) ?_ | refine cx (rminus_c (by rfl) (by rfl) ly lx (by omega) (by rw [hxa, hxb]; exact dig_le (by omega) (by omega)) (by omega)) ?_ | refine cx (rsigned_e (z := za + zb) (by rfl) (Nat.le_trans (dig_le (v := V xb) (by omega) (by omega)) (by rw [vy, ← hxb]; omega)) (dig_lim _) (by rw [dig_V (by omega), vx, vy]; simp only [sgnd_f]; omega)) ?_)) <;> (try exact gF))
      exact rqq1 (rC ty24)
    · refine cp2 (rs := [.cell 4 24]) (nt := 40) Tryz.func31 (fun C hP hn => ?_)
      ((repeat' (first | refine gW ?_ | (refine gIf ?_ ?_ <;> (intro hc; try exact gX)) | with_reducible refine br_intro ?_ ?_ | (with_reducible intro _; try exact gX) | with_reducible refine ands_intro ?_ ?_ | refine cx (rcompare_e (r := 0) (u := (za.natAbs : Int)) (v := (zb.natAbs : Int)) (by rfl) (by rfl) hxa hxb (by omega) (by omega) (by omega) (by omega) (cmpI_eq h)) ?_ | refine cx (rminus_c (by rfl) (by rfl) lx ly (by omega) (by rw [hxa, hxb]; exact dig_le (by omega) (by omega)) (by omega)) ?_ | refine cx (rsigned_e (z := za + zb) (by rfl) (Nat.le_trans (dig_le (v := V xa) (by omega) (by omega)) (by rw [vx, ← hxa]; omega)) (dig_lim _) (by rw [dig_V (by omega), vx, vy]; simp only [sgnd_t]; omega)) ?_)) <;> (try exact gF))
      exact rqq1 (rC ty24)
    · refine cp2 (rs := [.cell 4 24]) (nt := 40) Tryz.func31 (fun C hP hn => ?_)
      ((repeat' (first | refine gW ?_ | (refine gIf ?_ ?_ <;> (intro hc; try exact gX)) | with_reducible refine br_intro ?_ ?_ | (with_reducible intro _; try exact gX) | with_reducible refine ands_intro ?_ ?_ | refine cx (rcompare_e (r := 1) (u := (za.natAbs : Int)) (v := (zb.natAbs : Int)) (by rfl) (by rfl) hxa hxb (by omega) (by omega) (by omega) (by omega) (cmpI_gt h)) ?_ | refine cx (rminus_c (by rfl) (by rfl) lx ly (by omega) (by rw [hxa, hxb]; exact dig_le (by omega) (by omega)) (by omega)) ?_ | refine cx (rsigned_e (z := za + zb) (by rfl) (Nat.le_trans (dig_le (v := V xa) (by omega) (by omega)) (by rw [vx, ← hxa]; omega)) (dig_lim _) (by rw [dig_V (by omega), vx, vy]; simp only [sgnd_t]; omega)) ?_)) <;> (try exact gF))
      exact rqq1 (rC ty24)
  · rcases Int.lt_trichotomy (za.natAbs : Int) (zb.natAbs : Int) with h | h | h
    · refine cp2 (rs := [.cell 4 24]) (nt := 40) Tryz.func31 (fun C hP hn => ?_)
      ((repeat' (first | refine gW ?_ | (refine gIf ?_ ?_ <;> (intro hc; try exact gX)) | with_reducible refine br_intro ?_ ?_ | (with_reducible intro _; try exact gX) | with_reducible refine ands_intro ?_ ?_ | refine cx (rcompare_e (r := -1) (u := (za.natAbs : Int)) (v := (zb.natAbs : Int)) (by rfl) (by rfl) hxa hxb (by omega) (by omega) (by omega) (by omega) (cmpI_lt h)) ?_ | refine cx (rminus_c (by rfl) (by rfl) ly lx (by omega) (by rw [hxa, hxb]; exact dig_le (by omega) (by omega)) (by omega)) ?_ | refine cx (rsigned_e (z := za + zb) (by rfl) (Nat.le_trans (dig_le (v := V xb) (by omega) (by omega)) (by rw [vy, ← hxb]; omega)) (dig_lim _) (by rw [dig_V (by omega), vx, vy]; simp only [sgnd_t]; omega)) ?_)) <;> (try exact gF))
      exact rqq1 (rC ty24)
    · refine cp2 (rs := [.cell 4 24]) (nt := 40) Tryz.func31 (fun C hP hn => ?_)
      ((repeat' (first | refine gW ?_ | (refine gIf ?_ ?_ <;> (intro hc; try exact gX)) | with_reducible refine br_intro ?_ ?_ | (with_reducible intro _; try exact gX) | with_reducible refine ands_intro ?_ ?_ | refine cx (rcompare_e (r := 0) (u := (za.natAbs : Int)) (v := (zb.natAbs : Int)) (by rfl) (by rfl) hxa hxb (by omega) (by omega) (by omega) (by omega) (cmpI_eq h)) ?_ | refine cx (rminus_c (by rfl) (by rfl) lx ly (by omega) (by rw [hxa, hxb]; exact dig_le (by omega) (by omega)) (by omega)) ?_ | refine cx (rsigned_e (z := za + zb) (by rfl) (Nat.le_trans (dig_le (v := V xa) (by omega) (by omega)) (by rw [vx, ← hxa]; omega)) (dig_lim _) (by rw [dig_V (by omega), vx, vy]; simp only [sgnd_f]; omega)) ?_)) <;> (try exact gF))
      exact rqq1 (rC ty24)
    · refine cp2 (rs := [.cell 4 24]) (nt := 40) Tryz.func31 (fun C hP hn => ?_)
      ((repeat' (first | refine gW ?_ | (refine gIf ?_ ?_ <;> (intro hc; try exact gX)) | with_reducible refine br_intro ?_ ?_ | (with_reducible intro _; try exact gX) | with_reducible refine ands_intro ?_ ?_ | refine cx (rcompare_e (r := 1) (u := (za.natAbs : Int)) (v := (zb.natAbs : Int)) (by rfl) (by rfl) hxa hxb (by omega) (by omega) (by omega) (by omega) (cmpI_gt h)) ?_ | refine cx (rminus_c (by rfl) (by rfl) lx ly (by omega) (by rw [hxa, hxb]; exact dig_le (by omega) (by omega)) (by omega)) ?_ | refine cx (rsigned_e (z := za + zb) (by rfl) (Nat.le_trans (dig_le (v := V xa) (by omega) (by omega)) (by rw [vx, ← hxa]; omega)) (dig_lim _) (by rw [dig_V (by omega), vx, vy]; simp only [sgnd_f]; omega)) ?_)) <;> (try exact gF))
      exact rqq1 (rC ty24)
  · refine cp2 (rs := [.cell 4 24]) (nt := 40) Tryz.func31 (fun C hP hn => ?_)
    ((repeat' (first | refine gW ?_ | (refine gIf ?_ ?_ <;> (intro hc; try exact gX)) | with_reducible refine br_intro ?_ ?_ | (with_reducible intro _; try exact gX) | with_reducible refine ands_intro ?_ ?_ | refine cx (rplus_c (by rfl) (by rfl) lx ly (by omega) (by omega)) ?_ | refine cx (rsigned_e (z := za + zb) (by rfl) (hpl) (dig_lim _) (by rw [dig_V (by omega), vx, vy]; simp only [sgnd_f]; omega)) ?_)) <;> (try exact gF))
    exact rqq1 (rC ty24)

theorem rsub_c {ba : Bool} {na : Nat} {xa : List Int} {za : Int} {bb : Bool} {nb : Nat} {xb : List Int} {zb : Int} (hba : ba = decide (za < 0)) (hna : na = xa.length) (hxa : xa = dig (za.natAbs : Int)) (hla : xa.length ≤ 100000) (hbb : bb = decide (zb < 0)) (hnb : nb = xb.length) (hxb : xb = dig (zb.natAbs : Int)) (hlb : xb.length ≤ 100000) : HCallsD Tryz.prog 35 [] [.agg [.raw (.bool ba), .sl na false (ints .u32 xa)], .agg [.raw (.bool bb), .sl nb false (ints .u32 xb)]] (aI (za - zb)) [] := by
  subst hna hnb
  have e : za - zb = za + -zb := by omega
  rw [e]
  have hab : ((-zb).natAbs : Int) = zb.natAbs := by omega
  refine cp2 (rs := [.cell 4 24]) (nt := 9) Tryz.func35 (fun C hP hn => ?_)
  ((repeat' (first | refine gW ?_ | (refine gIf ?_ ?_ <;> (intro hc; try exact gX)) | with_reducible refine br_intro ?_ ?_ | (with_reducible intro _; try exact gX) | with_reducible refine ands_intro ?_ ?_ | refine cx (rneg_c hbb (by rfl) hxb hlb) ?_ | refine cx (radd_c (zb := -zb) hba (by rfl) hxa hla (by rfl) (by rfl) (by rfl) (by rw [hab, ← hxb]; omega)) ?_)) <;> (try exact gF))
  exact rqq1 (rC ty24)
end Go.Proofs.YtfmebdmgnmogaaaGreatDoor
