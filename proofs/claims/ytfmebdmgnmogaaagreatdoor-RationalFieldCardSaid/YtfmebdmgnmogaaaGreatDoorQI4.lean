/- Contracts of the functions of signs, of equality and of copies. No statement of its own. -/
import Derived.Test.YtfmebdmgnmogaaaGreatDoorQI1
set_option linter.unusedVariables false
set_option linter.unusedSimpArgs false
set_option linter.unusedSimpArgs false
set_option linter.unusedVariables false
set_option maxRecDepth 100000
set_option maxHeartbeats 1000000
namespace Go.Proofs.YtfmebdmgnmogaaaGreatDoor
open Go Go.RowKit Hv

theorem sgn_cases {b : Bool} {z : Int} (h : b = decide (z < 0)) : (b = true ∧ z < 0) ∨ (b = false ∧ 0 ≤ z) := by
  rcases Int.lt_or_le z 0 with k | k
  · exact .inl ⟨h.trans (decide_eq_true k), k⟩
  · exact .inr ⟨h.trans (decide_eq_false (Int.not_lt.2 k)), k⟩
theorem ab_neg {z : Int} (h : z < 0) : (z.natAbs : Int) = -z := by omega
theorem ab_pos {z : Int} (h : 0 ≤ z) : (z.natAbs : Int) = z := by omega
theorem ab_nn (z : Int) : 0 ≤ (z.natAbs : Int) := by omega
theorem cmpI_neg (x y : Int) : cmpI (-x) (-y) = cmpI y x := by unfold cmpI; repeat' split <;> omega

theorem icmp_c {ba : Bool} {na : Nat} {xa : List Int} {za : Int} {bb : Bool} {nb : Nat} {xb : List Int} {zb : Int} (hba : ba = decide (za < 0)) (hna : na = xa.length) (hxa : xa = dig (za.natAbs : Int)) (hla : xa.length ≤ 100000) (hbb : bb = decide (zb < 0)) (hnb : nb = xb.length) (hxb : xb = dig (zb.natAbs : Int)) (hlb : xb.length ≤ 100000) : HCallsD Tryz.prog 80 [] [.agg [.raw (.bool ba), .sl na false (ints .u32 xa)], .agg [.raw (.bool bb), .sl nb false (ints .u32 xb)]] (.raw (.int .i64 (cmpI za zb))) [] := by
  subst hna hnb
  obtain ⟨rfl, hsa⟩ | ⟨rfl, hsa⟩ := sgn_cases hba
  all_goals obtain ⟨rfl, hsb⟩ | ⟨rfl, hsb⟩ := sgn_cases hbb
  · rw [ab_neg hsa] at hxa
    rw [ab_neg hsb] at hxb
    have e : cmpI za zb = cmpI (-zb) (-za) := by rw [cmpI_neg]
    rw [e]
    refine cp2 (rs := [.tmp 4]) (nt := 24) Tryz.func80 (fun C hP hn => ?_)
    ((repeat' (first | refine gW ?_ | (refine gIf ?_ ?_ <;> (intro hc; try exact gX)) | with_reducible refine br_intro ?_ ?_ | (with_reducible intro _; try exact gX) | with_reducible refine ands_intro ?_ ?_ | refine cx (compare_c (u := -zb) (v := -za) (by rfl) (by rfl) hxb hxa (by omega) (by omega) (by omega) (by omega)) ?_)) <;> (try exact gF))
    exact rqq1 rT
  · rw [cmpI_lt (by omega)]
    refine cp2 (rs := [.tmp 4]) (nt := 24) Tryz.func80 (fun C hP hn => ?_)
    ((repeat' (first | refine gW ?_ | (refine gIf ?_ ?_ <;> (intro hc; try exact gX)) | with_reducible refine br_intro ?_ ?_ | (with_reducible intro _; try exact gX) | with_reducible refine ands_intro ?_ ?_)) <;> (try exact gF))
    exact rqq1 rT
  · rw [cmpI_gt (by omega)]
    refine cp2 (rs := [.tmp 4]) (nt := 24) Tryz.func80 (fun C hP hn => ?_)
    ((repeat' (first | refine gW ?_ | (refine gIf ?_ ?_ <;> (intro hc; try exact gX)) | with_reducible refine br_intro ?_ ?_ | (with_reducible intro _; try exact gX) | with_reducible refine ands_intro ?_ ?_)) <;> (try exact gF))
    exact rqq1 rT
  · rw [ab_pos hsa] at hxa
    rw [ab_pos hsb] at hxb
    refine cp2 (rs := [.tmp 4]) (nt := 24) Tryz.func80 (fun C hP hn => ?_)
    ((repeat' (first | refine gW ?_ | (refine gIf ?_ ?_ <;> (intro hc; try exact gX)) | with_reducible refine br_intro ?_ ?_ | (with_reducible intro _; try exact gX) | with_reducible refine ands_intro ?_ ?_ | refine cx (compare_c (u := za) (v := zb) (by rfl) (by rfl) hxa hxb (by omega) (by omega) (by omega) (by omega)) ?_)) <;> (try exact gF))
    exact rqq1 rT
theorem rcmp_c {ba : Bool} {na : Nat} {xa : List Int} {za : Int} {bb : Bool} {nb : Nat} {xb : List Int} {zb : Int} (hba : ba = decide (za < 0)) (hna : na = xa.length) (hxa : xa = dig (za.natAbs : Int)) (hla : xa.length ≤ 100000) (hbb : bb = decide (zb < 0)) (hnb : nb = xb.length) (hxb : xb = dig (zb.natAbs : Int)) (hlb : xb.length ≤ 100000) : HCallsD Tryz.prog 63 [] [.agg [.raw (.bool ba), .sl na false (ints .u32 xa)], .agg [.raw (.bool bb), .sl nb false (ints .u32 xb)]] (.raw (.int .i64 (cmpI za zb))) [] := by
  subst hna hnb
  obtain ⟨rfl, hsa⟩ | ⟨rfl, hsa⟩ := sgn_cases hba
  all_goals obtain ⟨rfl, hsb⟩ | ⟨rfl, hsb⟩ := sgn_cases hbb
  · rw [ab_neg hsa] at hxa
    rw [ab_neg hsb] at hxb
    have e : cmpI za zb = cmpI (-zb) (-za) := by rw [cmpI_neg]
    rw [e]
    refine cp2 (rs := [.tmp 4]) (nt := 24) Tryz.func63 (fun C hP hn => ?_)
    ((repeat' (first | refine gW ?_ | (refine gIf ?_ ?_ <;> (intro hc; try exact gX)) | with_reducible refine br_intro ?_ ?_ | (with_reducible intro _; try exact gX) | with_reducible refine ands_intro ?_ ?_ | refine cx (rcompare_c (u := -zb) (v := -za) (by rfl) (by rfl) hxb hxa (by omega) (by omega) (by omega) (by omega)) ?_)) <;> (try exact gF))
    exact rqq1 rT
  · rw [cmpI_lt (by omega)]
    refine cp2 (rs := [.tmp 4]) (nt := 24) Tryz.func63 (fun C hP hn => ?_)
    ((repeat' (first | refine gW ?_ | (refine gIf ?_ ?_ <;> (intro hc; try exact gX)) | with_reducible refine br_intro ?_ ?_ | (with_reducible intro _; try exact gX) | with_reducible refine ands_intro ?_ ?_)) <;> (try exact gF))
    exact rqq1 rT
  · rw [cmpI_gt (by omega)]
    refine cp2 (rs := [.tmp 4]) (nt := 24) Tryz.func63 (fun C hP hn => ?_)
    ((repeat' (first | refine gW ?_ | (refine gIf ?_ ?_ <;> (intro hc; try exact gX)) | with_reducible refine br_intro ?_ ?_ | (with_reducible intro _; try exact gX) | with_reducible refine ands_intro ?_ ?_)) <;> (try exact gF))
    exact rqq1 rT
  · rw [ab_pos hsa] at hxa
    rw [ab_pos hsb] at hxb
    refine cp2 (rs := [.tmp 4]) (nt := 24) Tryz.func63 (fun C hP hn => ?_)
    ((repeat' (first | refine gW ?_ | (refine gIf ?_ ?_ <;> (intro hc; try exact gX)) | with_reducible refine br_intro ?_ ?_ | (with_reducible intro _; try exact gX) | with_reducible refine ands_intro ?_ ?_ | refine cx (rcompare_c (u := za) (v := zb) (by rfl) (by rfl) hxa hxb (by omega) (by omega) (by omega) (by omega)) ?_)) <;> (try exact gF))
    exact rqq1 rT

theorem dig_len_pos {v : Int} (h : 0 < v) : 0 < (dig v).length := List.length_pos_iff.2 (dig_ne h)
theorem dig_len_zero {v : Int} (h : v ≤ 0) : (dig v).length = 0 := by rw [dig_zero h]; rfl

theorem isign_c {ba : Bool} {na : Nat} {xa : List Int} {za : Int} (hba : ba = decide (za < 0)) (hna : na = xa.length) (hxa : xa = dig (za.natAbs : Int)) (hla : xa.length ≤ 100000) : HCallsD Tryz.prog 88 [] [.agg [.raw (.bool ba), .sl na false (ints .u32 xa)]] (.raw (.int .i64 (cmpI za 0))) [] := by
  subst hna
  have hpos : xa.length = 0 ↔ za = 0 := by
    rw [hxa]
    constructor
    · intro h
      rcases Int.lt_or_le 0 (za.natAbs : Int) with k | k
      · have := dig_len_pos k; omega
      · omega
    · intro h; exact dig_len_zero (by omega)
  obtain ⟨rfl, hsa⟩ | ⟨rfl, hsa⟩ := sgn_cases hba
  · rw [cmpI_lt hsa]
    refine cp1 (rs := [.tmp 2]) (nt := 11) Tryz.func88 (fun C hP hn => ?_)
    ((repeat' (first | refine gW ?_ | (refine gIf ?_ ?_ <;> (intro hc; try exact gX)) | with_reducible refine br_intro ?_ ?_ | (with_reducible intro _; try exact gX) | with_reducible refine ands_intro ?_ ?_)) <;> (try exact gF))
    exact rqq1 rT
  · refine cp1 (rs := [.tmp 2]) (nt := 11) Tryz.func88 (fun C hP hn => ?_)
    rcases Int.lt_or_le 0 za with k | k
    · rw [cmpI_gt k]
      ((repeat' (first | refine gW ?_ | (refine gIf ?_ ?_ <;> (intro hc; try exact gX)) | with_reducible refine br_intro ?_ ?_ | (with_reducible intro _; try exact gX) | with_reducible refine ands_intro ?_ ?_)) <;> (try exact gF))
      exact rqq1 rT
    · rw [cmpI_eq (by omega)]
      ((repeat' (first | refine gW ?_ | (refine gIf ?_ ?_ <;> (intro hc; try exact gX)) | with_reducible refine br_intro ?_ ?_ | (with_reducible intro _; try exact gX) | with_reducible refine ands_intro ?_ ?_)) <;> (try exact gF))
      exact rqq1 rT
theorem rsign_c {ba : Bool} {na : Nat} {xa : List Int} {za : Int} (hba : ba = decide (za < 0)) (hna : na = xa.length) (hxa : xa = dig (za.natAbs : Int)) (hla : xa.length ≤ 100000) : HCallsD Tryz.prog 62 [] [.agg [.raw (.bool ba), .sl na false (ints .u32 xa)]] (.raw (.int .i64 (cmpI za 0))) [] := by
  subst hna
  have hpos : xa.length = 0 ↔ za = 0 := by
    rw [hxa]
    constructor
    · intro h
      rcases Int.lt_or_le 0 (za.natAbs : Int) with k | k
      · have := dig_len_pos k; omega
      · omega
    · intro h; exact dig_len_zero (by omega)
  obtain ⟨rfl, hsa⟩ | ⟨rfl, hsa⟩ := sgn_cases hba
  · rw [cmpI_lt hsa]
    refine cp1 (rs := [.tmp 2]) (nt := 9) Tryz.func62 (fun C hP hn => ?_)
    ((repeat' (first | refine gW ?_ | (refine gIf ?_ ?_ <;> (intro hc; try exact gX)) | with_reducible refine br_intro ?_ ?_ | (with_reducible intro _; try exact gX) | with_reducible refine ands_intro ?_ ?_)) <;> (try exact gF))
    exact rqq1 rT
  · refine cp1 (rs := [.tmp 2]) (nt := 9) Tryz.func62 (fun C hP hn => ?_)
    rcases Int.lt_or_le 0 za with k | k
    · rw [cmpI_gt k]
      ((repeat' (first | refine gW ?_ | (refine gIf ?_ ?_ <;> (intro hc; try exact gX)) | with_reducible refine br_intro ?_ ?_ | (with_reducible intro _; try exact gX) | with_reducible refine ands_intro ?_ ?_)) <;> (try exact gF))
      exact rqq1 rT
    · rw [cmpI_eq (by omega)]
      ((repeat' (first | refine gW ?_ | (refine gIf ?_ ?_ <;> (intro hc; try exact gX)) | with_reducible refine br_intro ?_ ?_ | (with_reducible intro _; try exact gX) | with_reducible refine ands_intro ?_ ?_)) <;> (try exact gF))
      exact rqq1 rT

theorem rSame_c {ba : Bool} {na : Nat} {xa : List Int} {za : Int} {bb : Bool} {nb : Nat} {xb : List Int} {zb : Int} (hba : ba = decide (za < 0)) (hna : na = xa.length) (hxa : xa = dig (za.natAbs : Int)) (hla : xa.length ≤ 100000) (hbb : bb = decide (zb < 0)) (hnb : nb = xb.length) (hxb : xb = dig (zb.natAbs : Int)) (hlb : xb.length ≤ 100000) : HCallsD Tryz.prog 57 [] [.agg [.raw (.bool ba), .sl na false (ints .u32 xa)], .agg [.raw (.bool bb), .sl nb false (ints .u32 xb)]] (.raw (.bool (decide (za = zb)))) [] := by
  subst hna hnb
  have key : ∀ {x y : Int}, decide (cmpI x y = 0) = decide (x = y) := fun {x y} => by
    rw [decide_eq_decide]; unfold cmpI; repeat' split <;> omega
  obtain ⟨rfl, hsa⟩ | ⟨rfl, hsa⟩ := sgn_cases hba
  all_goals obtain ⟨rfl, hsb⟩ | ⟨rfl, hsb⟩ := sgn_cases hbb
  · rw [ab_neg hsa] at hxa
    rw [ab_neg hsb] at hxb
    have e : decide (za = zb) = decide (cmpI (-za) (-zb) = 0) := by rw [key]; rw [decide_eq_decide]; omega
    rw [e]
    refine cp2 (rs := [.tmp 4]) (nt := 18) Tryz.func57 (fun C hP hn => ?_)
    ((repeat' (first | refine gW ?_ | (refine gIf ?_ ?_ <;> (intro hc; try exact gX)) | with_reducible refine br_intro ?_ ?_ | (with_reducible intro _; try exact gX) | with_reducible refine ands_intro ?_ ?_ | refine cx (rcompare_c (u := -za) (v := -zb) (by rfl) (by rfl) hxa hxb (by omega) (by omega) (by omega) (by omega)) ?_)) <;> (try exact gF))
    exact rqq1 rT
  · have e : decide (za = zb) = false := decide_eq_false (by omega)
    rw [e]
    refine cp2 (rs := [.tmp 4]) (nt := 18) Tryz.func57 (fun C hP hn => ?_)
    ((repeat' (first | refine gW ?_ | (refine gIf ?_ ?_ <;> (intro hc; try exact gX)) | with_reducible refine br_intro ?_ ?_ | (with_reducible intro _; try exact gX) | with_reducible refine ands_intro ?_ ?_)) <;> (try exact gF))
    exact rqq1 rT
  · have e : decide (za = zb) = false := decide_eq_false (by omega)
    rw [e]
    refine cp2 (rs := [.tmp 4]) (nt := 18) Tryz.func57 (fun C hP hn => ?_)
    ((repeat' (first | refine gW ?_ | (refine gIf ?_ ?_ <;> (intro hc; try exact gX)) | with_reducible refine br_intro ?_ ?_ | (with_reducible intro _; try exact gX) | with_reducible refine ands_intro ?_ ?_)) <;> (try exact gF))
    exact rqq1 rT
  · rw [ab_pos hsa] at hxa
    rw [ab_pos hsb] at hxb
    rw [← key]
    refine cp2 (rs := [.tmp 4]) (nt := 18) Tryz.func57 (fun C hP hn => ?_)
    ((repeat' (first | refine gW ?_ | (refine gIf ?_ ?_ <;> (intro hc; try exact gX)) | with_reducible refine br_intro ?_ ?_ | (with_reducible intro _; try exact gX) | with_reducible refine ands_intro ?_ ?_ | refine cx (rcompare_c (u := za) (v := zb) (by rfl) (by rfl) hxa hxb (by omega) (by omega) (by omega) (by omega)) ?_)) <;> (try exact gF))
    exact rqq1 rT

theorem rneg_c {ba : Bool} {na : Nat} {xa : List Int} {za : Int} (hba : ba = decide (za < 0)) (hna : na = xa.length) (hxa : xa = dig (za.natAbs : Int)) (hla : xa.length ≤ 100000) : HCallsD Tryz.prog 67 [] [.agg [.raw (.bool ba), .sl na false (ints .u32 xa)]] (aI (-za)) [] := by
  subst hna
  have lx : Lim xa := hxa ▸ dig_lim _
  have vx : V xa = za.natAbs := by rw [hxa, dig_V (ab_nn _)]
  obtain ⟨rfl, hsa⟩ | ⟨rfl, hsa⟩ := sgn_cases hba
  · refine cp1 (rs := [.cell 2 24]) (nt := 9) Tryz.func67 (fun C hP hn => ?_)
    ((repeat' (first | refine gW ?_ | (refine gIf ?_ ?_ <;> (intro hc; try exact gX)) | with_reducible refine br_intro ?_ ?_ | (with_reducible intro _; try exact gX) | with_reducible refine ands_intro ?_ ?_ | refine cx (rsigned_e (z := -za) (by rfl) (by omega) lx (by rw [vx]; simp [sgnd]; omega)) ?_)) <;> (try exact gF))
    exact rqq1 (rC ty24)
  · refine cp1 (rs := [.cell 2 24]) (nt := 9) Tryz.func67 (fun C hP hn => ?_)
    ((repeat' (first | refine gW ?_ | (refine gIf ?_ ?_ <;> (intro hc; try exact gX)) | with_reducible refine br_intro ?_ ?_ | (with_reducible intro _; try exact gX) | with_reducible refine ands_intro ?_ ?_ | refine cx (rsigned_e (z := -za) (by rfl) (by omega) lx (by rw [vx]; simp [sgnd]; omega)) ?_)) <;> (try exact gF))
    exact rqq1 (rC ty24)
theorem ineg_c {ba : Bool} {na : Nat} {xa : List Int} {za : Int} (hba : ba = decide (za < 0)) (hna : na = xa.length) (hxa : xa = dig (za.natAbs : Int)) (hla : xa.length ≤ 100000) : HCallsD Tryz.prog 92 [] [.agg [.raw (.bool ba), .sl na false (ints .u32 xa)]] (aI (-za)) [] := by
  subst hna
  have lx : Lim xa := hxa ▸ dig_lim _
  have vx : V xa = za.natAbs := by rw [hxa, dig_V (ab_nn _)]
  obtain ⟨rfl, hsa⟩ | ⟨rfl, hsa⟩ := sgn_cases hba
  · refine cp1 (rs := [.cell 2 24]) (nt := 10) Tryz.func92 (fun C hP hn => ?_)
    ((repeat' (first | refine gW ?_ | (refine gIf ?_ ?_ <;> (intro hc; try exact gX)) | with_reducible refine br_intro ?_ ?_ | (with_reducible intro _; try exact gX) | with_reducible refine ands_intro ?_ ?_ | refine cx (signed_e (z := -za) (by rfl) (by omega) lx (by rw [vx]; simp [sgnd]; omega)) ?_)) <;> (try exact gF))
    exact rqq1 (rC ty24)
  · refine cp1 (rs := [.cell 2 24]) (nt := 10) Tryz.func92 (fun C hP hn => ?_)
    ((repeat' (first | refine gW ?_ | (refine gIf ?_ ?_ <;> (intro hc; try exact gX)) | with_reducible refine br_intro ?_ ?_ | (with_reducible intro _; try exact gX) | with_reducible refine ands_intro ?_ ?_ | refine cx (signed_e (z := -za) (by rfl) (by omega) lx (by rw [vx]; simp [sgnd]; omega)) ?_)) <;> (try exact gF))
    exact rqq1 (rC ty24)

end Go.Proofs.YtfmebdmgnmogaaaGreatDoor
