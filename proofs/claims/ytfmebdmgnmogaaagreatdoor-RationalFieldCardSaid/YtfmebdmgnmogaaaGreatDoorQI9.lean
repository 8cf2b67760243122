/- Contracts of sums and differences of integers. No statement of its own. -/
import Derived.Test.YtfmebdmgnmogaaaGreatDoorQI7
set_option linter.unusedVariables false
set_option linter.unusedSimpArgs false
set_option linter.unusedSimpArgs false
set_option linter.unusedVariables false
set_option maxRecDepth 100000
set_option maxHeartbeats 2000000
namespace Go.Proofs.YtfmebdmgnmogaaaGreatDoor
open Go Go.RowKit Hv

theorem P9_mono {m n : Nat} (h : m ≤ n) : P9 m ≤ P9 n := by
  obtain ⟨k, rfl⟩ := Nat.exists_eq_add_of_le h
  rw [P9_add]
  have h1 := P9_pos m
  have h2 := P9_pos k
  have : P9 m * 1 ≤ P9 m * P9 k := Int.mul_le_mul_of_nonneg_left (by omega) (by omega)
  omega
theorem plus_V {xs ys : List Int} (hx : Lim xs) (hy : Lim ys) : V (limbsN (max xs.length ys.length + 1) (V xs + V ys)) = V xs + V ys := by
  have h1 := V_lt hx
  have h2 := V_lt hy
  have h3 := P9_mono (Nat.le_max_left xs.length ys.length)
  have h4 := P9_mono (Nat.le_max_right xs.length ys.length)
  have h5 := V_nonneg hx
  have h6 := V_nonneg hy
  exact limbsN_V (by omega) (by simp only [P9]; omega)
theorem minus_V {xs ys : List Int} (hx : Lim xs) (hy : Lim ys) (h : V ys ≤ V xs) : V (limbsN xs.length (V xs - V ys)) = V xs - V ys := by
  have h1 := V_lt hx
  have h6 := V_nonneg hy
  exact limbsN_V (by omega) (by omega)
theorem dig_le {u v : Int} (hu : 0 ≤ u) (h : u ≤ v) : (dig u).length ≤ (dig v).length := by
  rcases Nat.lt_or_ge (dig v).length (dig u).length with k | k
  · have := dig_len_lt (u := v) (v := u) (by omega) k; omega
  · exact k

theorem sgnd_t (v : Int) : sgnd true v = -v := rfl
theorem sgnd_f (v : Int) : sgnd false v = v := rfl
theorem compare_e {n m : Nat} {xs ys : List Int} {u v r : Int} (hn : n = xs.length) (hm : m = ys.length) (hx : xs = dig u) (hy : ys = dig v) (hu : 0 ≤ u) (hv : 0 ≤ v) (hl : xs.length ≤ 1000000) (hl' : ys.length ≤ 1000000) (hr : cmpI u v = r) :
    HCallsD Tryz.prog 106 [] [.sl n false (ints .u32 xs), .sl m false (ints .u32 ys)] (.raw (.int .i64 r)) [] := hr ▸ compare_c hn hm hx hy hu hv hl hl'
theorem rcompare_e {n m : Nat} {xs ys : List Int} {u v r : Int} (hn : n = xs.length) (hm : m = ys.length) (hx : xs = dig u) (hy : ys = dig v) (hu : 0 ≤ u) (hv : 0 ≤ v) (hl : xs.length ≤ 1000000) (hl' : ys.length ≤ 1000000) (hr : cmpI u v = r) :
    HCallsD Tryz.prog 73 [] [.sl n false (ints .u32 xs), .sl m false (ints .u32 ys)] (.raw (.int .i64 r)) [] := hr ▸ rcompare_c hn hm hx hy hu hv hl hl'
theorem iadd_c {ba : Bool} {na : Nat} {xa : List Int} {za : Int} {bb : Bool} {nb : Nat} {xb : List Int} {zb : Int} (hba : ba = decide (za < 0)) (hna : na = xa.length) (hxa : xa = dig (za.natAbs : Int)) (hla : xa.length ≤ 100000) (hbb : bb = decide (zb < 0)) (hnb : nb = xb.length) (hxb : xb = dig (zb.natAbs : Int)) (hlb : xb.length ≤ 100000) : HCallsD Tryz.prog 90 [] [.agg [.raw (.bool ba), .sl na false (ints .u32 xa)], .agg [.raw (.bool bb), .sl nb false (ints .u32 xb)]] (aI (za + zb)) [] := by
  subst hna hnb
  have lx : Lim xa := hxa ▸ dig_lim _
  have ly : Lim xb := hxb ▸ dig_lim _
  have vx : V xa = za.natAbs := by rw [hxa, dig_V (ab_nn _)]
  have vy : V xb = zb.natAbs := by rw [hxb, dig_V (ab_nn _)]
  have hp := plus_V lx ly
  have hmx : max xa.length xb.length + 1 ≤ 1000000 := by omega
  obtain ⟨rfl, hsa⟩ | ⟨rfl, hsa⟩ := sgn_cases hba
  all_goals obtain ⟨rfl, hsb⟩ | ⟨rfl, hsb⟩ := sgn_cases hbb
  · refine cp2 (rs := [.cell 4 24]) (nt := 34) Tryz.func90 (fun C hP hn => ?_)
    ((repeat' (first | refine gW ?_ | (refine gIf ?_ ?_ <;> (intro hc; try exact gX)) | with_reducible refine br_intro ?_ ?_ | (with_reducible intro _; try exact gX) | with_reducible refine ands_intro ?_ ?_ | refine cx (plus_c (by rfl) (by rfl) lx ly (by omega) (by omega)) ?_ | refine cx (signed_e (z := za + zb) (by simp only [limbsN_length]) (by simp only [limbsN_length]; omega) (limbsN_lim _ _) (by rw [hp, vx, vy]; simp only [sgnd_t]; omega)) ?_)) <;> (try exact gF))
    exact rqq1 (rC ty24)
  · rcases Int.lt_trichotomy (za.natAbs : Int) (zb.natAbs : Int) with h | h | h
    · refine cp2 (rs := [.cell 4 24]) (nt := 34) Tryz.func90 (fun C hP hn => ?_)
      ((repeat' (first | refine gW ?_ | (refine gIf ?_ ?_ <;> (intro hc; try exact gX)) | with_reducible refine br_intro ?_ ?_ | (with_reducible intro _; try exact gX) | with_reducible refine ands_intro ?_ ?_ | refine cx (compare_e (r := -1) (u := (za.natAbs : Int)) (v := (zb.natAbs : Int)) (by rfl) (by rfl) hxa hxb (by omega) (by omega) (by omega) (by omega) (cmpI_lt h)) ?_ | refine cx (minus_c (by rfl) (by rfl) ly lx (by omega) (by rw [hxa, hxb]; exact dig_le (by omega) (by omega)) (by omega)) ?_ | refine cx (signed_e (z := za + zb) (by simp only [limbsN_length]) (by simp only [limbsN_length]; omega) (limbsN_lim _ _) (by rw [minus_V ly lx (by omega), vx, vy]; simp only [sgnd_f]; omega)) ?_)) <;> (try exact gF))
      exact rqq1 (rC ty24)
    · refine cp2 (rs := [.cell 4 24]) (nt := 34) Tryz.func90 (fun C hP hn => ?_)
      ((repeat' (first | refine gW ?_ | (refine gIf ?_ ?_ <;> (intro hc; try exact gX)) | with_reducible refine br_intro ?_ ?_ | (with_reducible intro _; try exact gX) | with_reducible refine ands_intro ?_ ?_ | refine cx (compare_e (r := 0) (u := (za.natAbs : Int)) (v := (zb.natAbs : Int)) (by rfl) (by rfl) hxa hxb (by omega) (by omega) (by omega) (by omega) (cmpI_eq h)) ?_ | refine cx (minus_c (by rfl) (by rfl) lx ly (by omega) (by rw [hxa, hxb]; exact dig_le (by omega) (by omega)) (by omega)) ?_ | refine cx (signed_e (z := za + zb) (by simp only [limbsN_length]) (by simp only [limbsN_length]; omega) (limbsN_lim _ _) (by rw [minus_V lx ly (by omega), vx, vy]; simp only [sgnd_t]; omega)) ?_)) <;> (try exact gF))
      exact rqq1 (rC ty24)
    · refine cp2 (rs := [.cell 4 24]) (nt := 34) Tryz.func90 (fun C hP hn => ?_)
      ((repeat' (first | refine gW ?_ | (refine gIf ?_ ?_ <;> (intro hc; try exact gX)) | with_reducible refine br_intro ?_ ?_ | (with_reducible intro _; try exact gX) | with_reducible refine ands_intro ?_ ?_ | refine cx (compare_e (r := 1) (u := (za.natAbs : Int)) (v := (zb.natAbs : Int)) (by rfl) (by rfl) hxa hxb (by omega) (by omega) (by omega) (by omega) (cmpI_gt h)) ?_ | refine cx (minus_c (by rfl) (by rfl) lx ly (by omega) (by rw [hxa, hxb]; exact dig_le (by omega) (by omega)) (by omega)) ?_ | refine cx (signed_e (z := za + zb) (by simp only [limbsN_length]) (by simp only [limbsN_length]; omega) (limbsN_lim _ _) (by rw [minus_V lx ly (by omega), vx, vy]; simp only [sgnd_t]; omega)) ?_)) <;> (try exact gF))
      exact rqq1 (rC ty24)
  · rcases Int.lt_trichotomy (za.natAbs : Int) (zb.natAbs : Int) with h | h | h
    · refine cp2 (rs := [.cell 4 24]) (nt := 34) Tryz.func90 (fun C hP hn => ?_)
      ((repeat' (first | refine gW ?_ | (refine gIf ?_ ?_ <;> (intro hc; try exact gX)) | with_reducible refine br_intro ?_ ?_ | (with_reducible intro _; try exact gX) | with_reducible refine ands_intro ?_ ?_ | refine cx (compare_e (r := -1) (u := (za.natAbs : Int)) (v := (zb.natAbs : Int)) (by rfl) (by rfl) hxa hxb (by omega) (by omega) (by omega) (by omega) (cmpI_lt h)) ?_ | refine cx (minus_c (by rfl) (by rfl) ly lx (by omega) (by rw [hxa, hxb]; exact dig_le (by omega) (by omega)) (by omega)) ?_ | refine cx (signed_e (z := za + zb) (by simp only [limbsN_length]) (by simp only [limbsN_length]; omega) (limbsN_lim _ _) (by rw [minus_V ly lx (by omega), vx, vy]; simp only [sgnd_t]; omega)) ?_)) <;> (try exact gF))
      exact rqq1 (rC ty24)
    · refine cp2 (rs := [.cell 4 24]) (nt := 34) Tryz.func90 (fun C hP hn => ?_)
      ((repeat' (first | refine gW ?_ | (refine gIf ?_ ?_ <;> (intro hc; try exact gX)) | with_reducible refine br_intro ?_ ?_ | (with_reducible intro _; try exact gX) | with_reducible refine ands_intro ?_ ?_ | refine cx (compare_e (r := 0) (u := (za.natAbs : Int)) (v := (zb.natAbs : Int)) (by rfl) (by rfl) hxa hxb (by omega) (by omega) (by omega) (by omega) (cmpI_eq h)) ?_ | refine cx (minus_c (by rfl) (by rfl) lx ly (by omega) (by rw [hxa, hxb]; exact dig_le (by omega) (by omega)) (by omega)) ?_ | refine cx (signed_e (z := za + zb) (by simp only [limbsN_length]) (by simp only [limbsN_length]; omega) (limbsN_lim _ _) (by rw [minus_V lx ly (by omega), vx, vy]; simp only [sgnd_f]; omega)) ?_)) <;> (try exact gF))
      exact rqq1 (rC ty24)
    · refine cp2 (rs := [.cell 4 24]) (nt := 34) Tryz.func90 (fun C hP hn => ?_)
      ((repeat' (first | refine gW ?_ | (refine gIf ?_ ?_ <;> (intro hc; try exact gX)) | with_reducible refine br_intro ?_ ?_ | (with_reducible intro _; try exact gX) | with_reducible refine ands_intro ?_ ?_ | refine cx (compare_e (r := 1) (u := (za.natAbs : Int)) (v := (zb.natAbs : Int)) (by rfl) (by rfl) hxa hxb (by omega) (by omega) (by omega) (by omega) (cmpI_gt h)) ?_ | refine cx (minus_c (by rfl) (by rfl) lx ly (by omega) (by rw [hxa, hxb]; exact dig_le (by omega) (by omega)) (by omega)) ?_ | refine cx (signed_e (z := za + zb) (by simp only [limbsN_length]) (by simp only [limbsN_length]; omega) (limbsN_lim _ _) (by rw [minus_V lx ly (by omega), vx, vy]; simp only [sgnd_f]; omega)) ?_)) <;> (try exact gF))
      exact rqq1 (rC ty24)
  · refine cp2 (rs := [.cell 4 24]) (nt := 34) Tryz.func90 (fun C hP hn => ?_)
    ((repeat' (first | refine gW ?_ | (refine gIf ?_ ?_ <;> (intro hc; try exact gX)) | with_reducible refine br_intro ?_ ?_ | (with_reducible intro _; try exact gX) | with_reducible refine ands_intro ?_ ?_ | refine cx (plus_c (by rfl) (by rfl) lx ly (by omega) (by omega)) ?_ | refine cx (signed_e (z := za + zb) (by simp only [limbsN_length]) (by simp only [limbsN_length]; omega) (limbsN_lim _ _) (by rw [hp, vx, vy]; simp only [sgnd_f]; omega)) ?_)) <;> (try exact gF))
    exact rqq1 (rC ty24)
end Go.Proofs.YtfmebdmgnmogaaaGreatDoor
