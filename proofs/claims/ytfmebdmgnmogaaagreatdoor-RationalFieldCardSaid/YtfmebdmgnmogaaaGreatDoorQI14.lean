/- Contracts of the products of integers. No statement of its own. -/
import Derived.Test.YtfmebdmgnmogaaaGreatDoorQI12
set_option linter.unusedVariables false
set_option linter.unusedSimpArgs false
set_option linter.unusedSimpArgs false
set_option linter.unusedVariables false
set_option maxRecDepth 100000
set_option maxHeartbeats 4000000
namespace Go.Proofs.YtfmebdmgnmogaaaGreatDoor
open Go Go.RowKit Hv

theorem mul_lt {xs ys : List Int} (hx : Lim xs) (hy : Lim ys) : 0 ≤ V xs * V ys ∧ V xs * V ys < P9 (xs.length + ys.length) := by
  have h1 := V_lt hx
  have h2 := V_lt hy
  have h3 := V_nonneg hx
  have h4 := V_nonneg hy
  refine ⟨Int.mul_nonneg h3 h4, ?_⟩
  rw [P9_add]
  have h5 : V xs * V ys ≤ V xs * P9 ys.length := Int.mul_le_mul_of_nonneg_left (by omega) h3
  have h6 : V xs * P9 ys.length < P9 xs.length * P9 ys.length := Int.mul_lt_mul_of_pos_right h1 (P9_pos _)
  omega
theorem times_V {xs ys : List Int} (hx : Lim xs) (hy : Lim ys) : V (limbsN (xs.length + ys.length) (V xs * V ys)) = V xs * V ys := limbsN_V (mul_lt hx hy).1 (mul_lt hx hy).2
theorem times_dl {xs ys : List Int} (hx : Lim xs) (hy : Lim ys) : (dig (V xs * V ys)).length ≤ xs.length + ys.length := dig_len (mul_lt hx hy).2

theorem imul_c {ba : Bool} {na : Nat} {xa : List Int} {za : Int} {bb : Bool} {nb : Nat} {xb : List Int} {zb : Int} (hba : ba = decide (za < 0)) (hna : na = xa.length) (hxa : xa = dig (za.natAbs : Int)) (hla : xa.length ≤ 100000) (hbb : bb = decide (zb < 0)) (hnb : nb = xb.length) (hxb : xb = dig (zb.natAbs : Int)) (hlb : xb.length ≤ 100000) : HCallsD Tryz.prog 87 [] [.agg [.raw (.bool ba), .sl na false (ints .u32 xa)], .agg [.raw (.bool bb), .sl nb false (ints .u32 xb)]] (aI (za * zb)) [] := by
  subst hna hnb
  have lx : Lim xa := hxa ▸ dig_lim _
  have ly : Lim xb := hxb ▸ dig_lim _
  have vx : V xa = za.natAbs := by rw [hxa, dig_V (ab_nn _)]
  have vy : V xb = zb.natAbs := by rw [hxb, dig_V (ab_nn _)]
  have hd := times_dl lx ly
  have hv := times_V lx ly
  have hm := mul_lt lx ly
  obtain ⟨rfl, hsa⟩ | ⟨rfl, hsa⟩ := sgn_cases hba
  all_goals obtain ⟨rfl, hsb⟩ | ⟨rfl, hsb⟩ := sgn_cases hbb
  · refine cp2 (rs := [.cell 4 24]) (nt := 16) Tryz.func87 (fun C hP hn => ?_)
    ((repeat' (first | refine gW ?_ | (refine gIf ?_ ?_ <;> (intro hc; try exact gX)) | with_reducible refine br_intro ?_ ?_ | (with_reducible intro _; try exact gX) | with_reducible refine ands_intro ?_ ?_ | refine cx (times_c (by rfl) (by rfl) lx ly (by omega) (by omega)) ?_ | refine cx (signed_e (z := za * zb) (by simp only [limbsN_length]) (by simp only [limbsN_length]; omega) (limbsN_lim _ _) (by rw [hv, sgnd_f, vx, vy, ab_neg hsa, ab_neg hsb, Int.neg_mul_neg])) ?_)) <;> (try exact gF))
    exact rqq1 (rC ty24)
  · refine cp2 (rs := [.cell 4 24]) (nt := 16) Tryz.func87 (fun C hP hn => ?_)
    ((repeat' (first | refine gW ?_ | (refine gIf ?_ ?_ <;> (intro hc; try exact gX)) | with_reducible refine br_intro ?_ ?_ | (with_reducible intro _; try exact gX) | with_reducible refine ands_intro ?_ ?_ | refine cx (times_c (by rfl) (by rfl) lx ly (by omega) (by omega)) ?_ | refine cx (signed_e (z := za * zb) (by simp only [limbsN_length]) (by simp only [limbsN_length]; omega) (limbsN_lim _ _) (by rw [hv, sgnd_t, vx, vy, ab_neg hsa, ab_pos hsb, Int.neg_mul, Int.neg_neg])) ?_)) <;> (try exact gF))
    exact rqq1 (rC ty24)
  · refine cp2 (rs := [.cell 4 24]) (nt := 16) Tryz.func87 (fun C hP hn => ?_)
    ((repeat' (first | refine gW ?_ | (refine gIf ?_ ?_ <;> (intro hc; try exact gX)) | with_reducible refine br_intro ?_ ?_ | (with_reducible intro _; try exact gX) | with_reducible refine ands_intro ?_ ?_ | refine cx (times_c (by rfl) (by rfl) lx ly (by omega) (by omega)) ?_ | refine cx (signed_e (z := za * zb) (by simp only [limbsN_length]) (by simp only [limbsN_length]; omega) (limbsN_lim _ _) (by rw [hv, sgnd_t, vx, vy, ab_pos hsa, ab_neg hsb, Int.mul_neg, Int.neg_neg])) ?_)) <;> (try exact gF))
    exact rqq1 (rC ty24)
  · refine cp2 (rs := [.cell 4 24]) (nt := 16) Tryz.func87 (fun C hP hn => ?_)
    ((repeat' (first | refine gW ?_ | (refine gIf ?_ ?_ <;> (intro hc; try exact gX)) | with_reducible refine br_intro ?_ ?_ | (with_reducible intro _; try exact gX) | with_reducible refine ands_intro ?_ ?_ | refine cx (times_c (by rfl) (by rfl) lx ly (by omega) (by omega)) ?_ | refine cx (signed_e (z := za * zb) (by simp only [limbsN_length]) (by simp only [limbsN_length]; omega) (limbsN_lim _ _) (by rw [hv, sgnd_f, vx, vy, ab_pos hsa, ab_pos hsb])) ?_)) <;> (try exact gF))
    exact rqq1 (rC ty24)

theorem rmul_c {ba : Bool} {na : Nat} {xa : List Int} {za : Int} {bb : Bool} {nb : Nat} {xb : List Int} {zb : Int} (hba : ba = decide (za < 0)) (hna : na = xa.length) (hxa : xa = dig (za.natAbs : Int)) (hla : xa.length ≤ 100000) (hbb : bb = decide (zb < 0)) (hnb : nb = xb.length) (hxb : xb = dig (zb.natAbs : Int)) (hlb : xb.length ≤ 100000) : HCallsD Tryz.prog 64 [] [.agg [.raw (.bool ba), .sl na false (ints .u32 xa)], .agg [.raw (.bool bb), .sl nb false (ints .u32 xb)]] (aI (za * zb)) [] := by
  subst hna hnb
  have lx : Lim xa := hxa ▸ dig_lim _
  have ly : Lim xb := hxb ▸ dig_lim _
  have vx : V xa = za.natAbs := by rw [hxa, dig_V (ab_nn _)]
  have vy : V xb = zb.natAbs := by rw [hxb, dig_V (ab_nn _)]
  have hd := times_dl lx ly
  have hv := times_V lx ly
  have hm := mul_lt lx ly
  obtain ⟨rfl, hsa⟩ | ⟨rfl, hsa⟩ := sgn_cases hba
  all_goals obtain ⟨rfl, hsb⟩ | ⟨rfl, hsb⟩ := sgn_cases hbb
  · refine cp2 (rs := [.cell 4 24]) (nt := 16) Tryz.func64 (fun C hP hn => ?_)
    ((repeat' (first | refine gW ?_ | (refine gIf ?_ ?_ <;> (intro hc; try exact gX)) | with_reducible refine br_intro ?_ ?_ | (with_reducible intro _; try exact gX) | with_reducible refine ands_intro ?_ ?_ | refine cx (rtimes_c (by rfl) (by rfl) lx ly (by omega) (by omega)) ?_ | refine cx (rsigned_e (z := za * zb) (by rfl) (by omega) (dig_lim _) (by rw [dig_V hm.1, sgnd_f, vx, vy, ab_neg hsa, ab_neg hsb, Int.neg_mul_neg])) ?_)) <;> (try exact gF))
    exact rqq1 (rC ty24)
  · refine cp2 (rs := [.cell 4 24]) (nt := 16) Tryz.func64 (fun C hP hn => ?_)
    ((repeat' (first | refine gW ?_ | (refine gIf ?_ ?_ <;> (intro hc; try exact gX)) | with_reducible refine br_intro ?_ ?_ | (with_reducible intro _; try exact gX) | with_reducible refine ands_intro ?_ ?_ | refine cx (rtimes_c (by rfl) (by rfl) lx ly (by omega) (by omega)) ?_ | refine cx (rsigned_e (z := za * zb) (by rfl) (by omega) (dig_lim _) (by rw [dig_V hm.1, sgnd_t, vx, vy, ab_neg hsa, ab_pos hsb, Int.neg_mul, Int.neg_neg])) ?_)) <;> (try exact gF))
    exact rqq1 (rC ty24)
  · refine cp2 (rs := [.cell 4 24]) (nt := 16) Tryz.func64 (fun C hP hn => ?_)
    ((repeat' (first | refine gW ?_ | (refine gIf ?_ ?_ <;> (intro hc; try exact gX)) | with_reducible refine br_intro ?_ ?_ | (with_reducible intro _; try exact gX) | with_reducible refine ands_intro ?_ ?_ | refine cx (rtimes_c (by rfl) (by rfl) lx ly (by omega) (by omega)) ?_ | refine cx (rsigned_e (z := za * zb) (by rfl) (by omega) (dig_lim _) (by rw [dig_V hm.1, sgnd_t, vx, vy, ab_pos hsa, ab_neg hsb, Int.mul_neg, Int.neg_neg])) ?_)) <;> (try exact gF))
    exact rqq1 (rC ty24)
  · refine cp2 (rs := [.cell 4 24]) (nt := 16) Tryz.func64 (fun C hP hn => ?_)
    ((repeat' (first | refine gW ?_ | (refine gIf ?_ ?_ <;> (intro hc; try exact gX)) | with_reducible refine br_intro ?_ ?_ | (with_reducible intro _; try exact gX) | with_reducible refine ands_intro ?_ ?_ | refine cx (rtimes_c (by rfl) (by rfl) lx ly (by omega) (by omega)) ?_ | refine cx (rsigned_e (z := za * zb) (by rfl) (by omega) (dig_lim _) (by rw [dig_V hm.1, sgnd_f, vx, vy, ab_pos hsa, ab_pos hsb])) ?_)) <;> (try exact gF))
    exact rqq1 (rC ty24)

end Go.Proofs.YtfmebdmgnmogaaaGreatDoor
set_option linter.unusedVariables false
namespace Go.Proofs.YtfmebdmgnmogaaaGreatDoor
open Go Go.RowKit Hv

theorem V_drop (xs : List Int) (i : Nat) : V (xs.drop i) = xs.getD i 0 + 1000000000 * V (xs.drop (i + 1)) := by
  rcases Nat.lt_or_ge i xs.length with h | h
  · rw [← List.getElem_cons_drop h]
    simp only [V, List.getD, List.getElem?_eq_getElem h, Option.getD_some]
  · rw [List.drop_of_length_le h, List.drop_of_length_le (by omega)]
    simp [V, List.getD, h]
theorem V_split (xs : List Int) (m : Nat) (h : m ≤ xs.length) : V xs = V (xs.take m) + P9 m * V (xs.drop m) := by
  have e := V_append (xs.take m) (xs.drop m)
  rw [List.take_append_drop, List.length_take, Nat.min_eq_left h] at e
  exact e
theorem mul_lt_of {a b c : Int} (h : 0 < c) (hab : a < b) : a * c < b * c := Int.mul_lt_mul_of_pos_right hab h
theorem le_of_mul {a b c : Int} (h : 0 < c) (hab : a * c < (b + 1) * c) : a ≤ b := by
  have := Int.lt_of_mul_lt_mul_right hab (by omega)
  omega

/-- A quotient's digit is not above the one told by leading limbs. -/
theorem est_ge {W D q t v P wl dl : Int} (hP : 0 < P) (hW : W = t * P + wl) (hD : D = v * P + dl) (h1 : wl < P) (h2 : 0 ≤ dl) (hq : 0 ≤ q) (hqd : q * D ≤ W) : q * v ≤ t := by
  refine le_of_mul hP ?_
  have e : q * D = q * v * P + q * dl := by rw [hD, Int.mul_add, Int.mul_assoc]
  have : 0 ≤ q * dl := Int.mul_nonneg hq h2
  rw [Int.add_mul, Int.one_mul]
  omega
theorem est_step {q g v1 v2 u2 top rest v t : Int} (hv : v = v1 * 1000000000 + v2) (ht : t = top * 1000000000 + u2) (hg : g * v1 + rest = top) (hq : q * v ≤ t) (hpos : 0 < v) (hc : rest * 1000000000 + u2 < g * v2) : q ≤ g - 1 := by
  have e : g * v = g * v1 * 1000000000 + g * v2 := by rw [hv, Int.mul_add, Int.mul_assoc]
  have h : q * v < g * v := by
    have e2 : g * v1 = top - rest := by omega
    rw [e, e2, Int.sub_mul]
    omega
  have := Int.lt_of_mul_lt_mul_right h (by omega)
  omega
theorem est_le {W D q g t v P wl dl : Int} (hP : 0 < P) (hW : W = t * P + wl) (hD : D = v * P + dl) (h1 : 0 ≤ wl) (h2 : dl < P) (hq : 0 ≤ q) (hqd : W < (q + 1) * D) (hD0 : 0 < D) (hg : g * v ≤ t) (hgv : g ≤ v) : g ≤ q + 1 := by
  rcases Int.lt_or_le (q + 1) g with k | k
  · exfalso
    have a1 : (q + 1) * D ≤ (g - 1) * D := Int.mul_le_mul_of_nonneg_right (by omega) (by omega)
    have a2 : (g - 1) * D ≤ (g - 1) * ((v + 1) * P) := Int.mul_le_mul_of_nonneg_left (by rw [Int.add_mul, Int.one_mul]; omega) (by omega)
    have a3 : g * v * P ≤ t * P := Int.mul_le_mul_of_nonneg_right hg (by omega)
    have a4 : g * v * P < (g - 1) * (v + 1) * P := by rw [Int.mul_assoc (g - 1)]; omega
    have a5 := Int.lt_of_mul_lt_mul_right a4 (by omega)
    have e : (g - 1) * (v + 1) = g * v + g - v - 1 := by
      rw [Int.sub_mul, Int.mul_add, Int.mul_one, Int.one_mul]; omega
    rw [e] at a5
    omega
  · exact k
theorem end_ok {g v1 v2 u2 top rest v t : Int} (hv : v = v1 * 1000000000 + v2) (ht : t = top * 1000000000 + u2) (hg : g * v1 + rest = top) (hc : g * v2 ≤ rest * 1000000000 + u2) : g * v ≤ t := by
  have e : g * v = g * v1 * 1000000000 + g * v2 := by rw [hv, Int.mul_add, Int.mul_assoc]
  have e2 : g * v1 = top - rest := by omega
  rw [e, e2, Int.sub_mul]
  omega

/-- The greatest multiple. -/
theorem div_le (W : Int) {D : Int} (h : 0 < D) : W / D * D ≤ W ∧ W < (W / D + 1) * D := by
  have e := Int.emod_add_mul_ediv W D
  have h0 := Int.emod_nonneg W (show D ≠ 0 by omega)
  have h1 := Int.emod_lt_of_pos W h
  rw [Int.add_mul, Int.one_mul, Int.mul_comm (W / D) D]
  omega
theorem div_eq {W D q : Int} (h1 : q * D ≤ W) (h2 : W < (q + 1) * D) (h : 0 < D) : W / D = q := by
  have e : W = (W - q * D) + q * D := by omega
  rw [Int.add_mul, Int.one_mul] at h2
  rw [e, Int.add_mul_ediv_right _ _ (by omega), Int.ediv_eq_zero_of_lt (by omega) (by omega)]
  omega
theorem mod_eq {W D q : Int} (h1 : q * D ≤ W) (h2 : W < (q + 1) * D) (h : 0 < D) : W % D = W - q * D := by
  rw [Int.emod_def, div_eq h1 h2 h, Int.mul_comm]
theorem div_nonneg' {W D : Int} (h : 0 ≤ W) (hD : 0 ≤ D) : 0 ≤ W / D := Int.ediv_nonneg h hD
theorem div_lt_base {W D : Int} (hD : 0 < D) (h : W < 1000000000 * D) : W / D < 1000000000 := by
  exact Int.ediv_lt_of_lt_mul hD h

/-- Division by one limb, from above. -/
theorem byWord_step {xs out : List Int} {i : Nat} {b r t : Int} (hi : i < out.length) (h : V (xs.drop (i + 1)) = V (out.drop (i + 1)) * b + r) (ht : t = r * 1000000000 + xs.getD i 0) (q r' : Int) (hqr : q * b + r' = t) :
    V (xs.drop i) = V ((out.set i q).drop i) * b + r' := by
  rw [V_drop xs, h, V_drop (out.set i q)]
  have e1 : (out.set i q).getD i 0 = q := by simp [List.getD, hi]
  have e2 : (out.set i q).drop (i + 1) = out.drop (i + 1) := List.drop_set_of_lt (Nat.lt_succ_self i)
  rw [e1, e2, Int.add_mul, Int.mul_add, Int.mul_assoc]
  omega
theorem byWord_lim {out : List Int} {i : Nat} {q : Int} (hi : i < out.length) (h : Lim (out.drop (i + 1))) (h0 : 0 ≤ q) (h1 : q < 1000000000) : Lim ((out.set i q).drop i) := by
  rw [← List.getElem_cons_drop (by simpa using hi)]
  rw [List.drop_set_of_lt (Nat.lt_succ_self i)]
  simp only [List.getElem_set_self]
  exact .cons h0 h1 h
theorem byWord_bnd {b r x t : Int} (hb : 0 < b) (hr0 : 0 ≤ r) (hr : r < b) (hx0 : 0 ≤ x) (hx : x < 1000000000) (ht : t = r * 1000000000 + x) : 0 ≤ t ∧ t / b < 1000000000 := by
  refine ⟨by omega, div_lt_base hb ?_⟩
  omega

/-- What one round of a long division does: the window's rest. -/
theorem round_V {us qs : List Int} {k : Nat} {D q U : Int} (hU : V us + D * V qs = U) (hk : k ≤ us.length) (hkq : k < qs.length) (hq0 : qs.getD k 0 = 0) {us' : List Int} (hl : us'.length = us.length) (ht : us'.take k = us.take k) (hw : V (us'.drop k) = V (us.drop k) - D * q) :
    V us' + D * V (qs.set k q) = U := by
  rw [V_set hkq, hq0, Int.sub_zero, V_split us' k (by omega), ht, hw, Int.mul_sub, Int.mul_add]
  have e := V_split us k hk
  have e2 : D * (P9 k * q) = P9 k * (D * q) := by rw [Int.mul_left_comm]
  omega
theorem high_zero {us : List Int} {m : Nat} (hL : Lim us) (hm : m ≤ us.length) (h : V us < P9 m) : V (us.drop m) = 0 ∧ V (us.take m) = V us := by
  have e := V_split us m hm
  have h0 := V_nonneg (hL.take m)
  have h1 := V_nonneg (hL.drop m)
  have hz : V (us.drop m) = 0 := by
    rcases Int.lt_or_le 0 (V (us.drop m)) with k | k
    · have : P9 m * 1 ≤ P9 m * V (us.drop m) := Int.mul_le_mul_of_nonneg_left (by omega) (by have := P9_pos m; omega)
      omega
    · omega
  rw [hz, Int.mul_zero] at e
  exact ⟨hz, by omega⟩
theorem scale_div {a b s : Int} (hs : 0 < s) (hb : 0 < b) : (a * s) / (b * s) = a / b := Int.mul_ediv_mul_of_pos_left a b hs
theorem scale_mod {a b s : Int} (hs : 0 < s) (hb : 0 < b) : (a * s) % (b * s) = (a % b) * s := by
  rw [Int.emod_def, scale_div hs hb, Int.emod_def, Int.sub_mul, Int.mul_assoc b, Int.mul_comm s (a / b), ← Int.mul_assoc]
theorem long_end {a b s u q : Int} (hs : 0 < s) (hb : 0 < b) (hu0 : 0 ≤ u) (hu : u < b * s) (h : u + b * s * q = a * s) : q = a / b ∧ u / s = a % b ∧ u % s = 0 := by
  have hD : 0 < b * s := Int.mul_pos hb hs
  have e1 : a * s / (b * s) = q := div_eq (by rw [Int.mul_comm q]; omega) (by rw [Int.add_mul, Int.one_mul, Int.mul_comm q]; omega) hD
  have e2 : a * s % (b * s) = u := by rw [Int.emod_def, e1]; omega
  rw [scale_div hs hb] at e1
  rw [scale_mod hs hb] at e2
  rw [← e2]
  exact ⟨e1.symm, Int.mul_ediv_cancel _ (by omega), Int.mul_emod_left _ _⟩

/-- A divisor scaled: its leading limb is at least half of the base. -/
theorem scale_top {bl s : Int} (h0 : 1 ≤ bl) (h1 : bl < 1000000000) (hs : s = 1000000000 / (bl + 1)) : 1 ≤ s ∧ s ≤ 500000000 ∧ (bl + 1) * s ≤ 1000000000 ∧ 500000000 ≤ bl * s := by
  have hpos : 0 < bl + 1 := by omega
  obtain ⟨d1, d2⟩ := div_le 1000000000 hpos
  rw [← hs] at d1 d2
  have s1 : 1 ≤ s := by
    rw [hs]; exact (Int.le_ediv_iff_mul_le hpos).2 (by omega)
  have s2 : s ≤ 500000000 := by
    have : s * 2 ≤ s * (bl + 1) := Int.mul_le_mul_of_nonneg_left (by omega) (by omega)
    omega
  have e2 : s * (bl + 1) = bl * s + s := by rw [Int.mul_add, Int.mul_one, Int.mul_comm]
  have e1 : (s + 1) * (bl + 1) = bl * s + s + bl + 1 := by rw [Int.add_mul, Int.one_mul, e2]; omega
  have e3 : (bl + 1) * s = bl * s + s := by rw [Int.mul_comm, e2]
  refine ⟨s1, s2, by omega, ?_⟩
  rcases Int.lt_or_le bl 500000000 with k | k
  · rcases Int.lt_or_le (bl * s) 500000000 with j | j
    · exfalso
      have a1 : bl * (1000000000 - bl) ≤ bl * (bl * s + s) := Int.mul_le_mul_of_nonneg_left (by omega) (by omega)
      have a2 : bl * (bl * s) ≤ bl * 499999999 := Int.mul_le_mul_of_nonneg_left (by omega) (by omega)
      have a3 : 0 ≤ (bl - 1) * (500000000 - bl) := Int.mul_nonneg (by omega) (by omega)
      rw [Int.mul_sub, Int.mul_add] at a1
      rw [Int.sub_mul, Int.mul_sub, Int.one_mul] at a3
      omega
    · exact j
  · have : bl * 1 ≤ bl * s := Int.mul_le_mul_of_nonneg_left s1 (by omega)
    omega
theorem top_limb {ys : List Int} {n : Nat} (hn : ys.length = n + 1) : V ys = V (ys.take n) + P9 n * ys.getD n 0 := by
  rw [V_split ys n (by omega), V_drop, List.drop_of_length_le (by omega)]
  simp [V]
theorem top_nz {ys : List Int} {n : Nat} (hy : Lim ys) (hl : lastOk ys) (hn : ys.length = n + 1) : 1 ≤ ys.getD n 0 := by
  have h := hl (ys.getD n 0) (by rw [List.getLast?_eq_getElem?, List.getD, hn]; simp [List.getElem?_eq_getElem (show n < ys.length by omega)])
  have := hy.getA n
  omega
theorem scaled {ys : List Int} {n : Nat} {s : Int} (hy : Lim ys) (hl : lastOk ys) (hn : ys.length = n + 1) (hs : s = 1000000000 / (ys.getD n 0 + 1)) :
    1 ≤ s ∧ s ≤ 500000000 ∧ (dig (V ys * s)).length = n + 1 ∧ 500000000 ≤ (dig (V ys * s)).getD n 0 ∧ V (dig (V ys * s)) = V ys * s ∧ 1 ≤ V ys := by
  have hb := top_nz hy hl hn
  have hb' := hy.getA n
  obtain ⟨s1, s2, s3, s4⟩ := scale_top hb hb'.2 hs
  have ht := top_limb hn
  have hP := P9_pos n
  have r0 := V_nonneg (hy.take n)
  have r1 := V_lt (hy.take n)
  rw [List.length_take, Nat.min_eq_left (by omega)] at r1
  have g1 : P9 n * 1 ≤ P9 n * ys.getD n 0 := Int.mul_le_mul_of_nonneg_left hb (by omega)
  have h0 : 0 ≤ V ys * s := Int.mul_nonneg (by omega) (by omega)
  have hv := dig_V h0
  have up : V ys * s < P9 (n + 1) := by
    have a1 : V ys * s < (P9 n * (ys.getD n 0 + 1)) * s := by
      refine Int.mul_lt_mul_of_pos_right ?_ (by omega)
      rw [Int.mul_add, Int.mul_one]; omega
    have a2 : P9 n * (ys.getD n 0 + 1) * s ≤ P9 n * 1000000000 := by
      rw [Int.mul_assoc]; exact Int.mul_le_mul_of_nonneg_left s3 (by omega)
    simp only [P9]
    omega
  have l1 := dig_len up
  have lo : V ys * 1 ≤ V ys * s := Int.mul_le_mul_of_nonneg_left s1 (by omega)
  have l2 : n + 1 ≤ (dig (V ys * s)).length := by
    rcases Nat.lt_or_ge (dig (V ys * s)).length (n + 1) with k | k
    · exfalso
      have a1 := V_lt (dig_lim (V ys * s))
      have a2 := P9_mono (show (dig (V ys * s)).length ≤ n by omega)
      omega
    · exact k
  have hlen : (dig (V ys * s)).length = n + 1 := by omega
  refine ⟨s1, s2, hlen, ?_, hv, by omega⟩
  have t2 := top_limb hlen
  have q1 := V_lt ((dig_lim (V ys * s)).take n)
  rw [List.length_take, Nat.min_eq_left (by omega)] at q1
  have a1 : ys.getD n 0 * s * P9 n < ((dig (V ys * s)).getD n 0 + 1) * P9 n := by
    have b1 : P9 n * ys.getD n 0 * s ≤ V ys * s := Int.mul_le_mul_of_nonneg_right (by omega) (by omega)
    have b2 : ys.getD n 0 * s * P9 n = P9 n * ys.getD n 0 * s := by rw [Int.mul_comm _ (P9 n), Int.mul_assoc]
    rw [Int.add_mul, Int.one_mul, b2, Int.mul_comm ((dig (V ys * s)).getD n 0)]
    omega
  have := le_of_mul hP a1
  omega

theorem V_drop3 (xs : List Int) (i : Nat) : V (xs.drop i) = xs.getD i 0 + 1000000000 * (xs.getD (i + 1) 0 + 1000000000 * (xs.getD (i + 2) 0 + 1000000000 * V (xs.drop (i + 3)))) := by
  rw [V_drop xs i, V_drop xs (i + 1), V_drop xs (i + 2)]
/-- One round's numbers. -/
structure Kn (W D q : Int) (u1 u2 u3 v1 v2 : Int) : Prop where
  q0 : 0 ≤ q
  qB : q < 1000000000
  lo : q * D ≤ W
  hi : W < (q + 1) * D
  D0 : 0 < D
  bu1 : 0 ≤ u1 ∧ u1 ≤ v1
  bu2 : 0 ≤ u2 ∧ u2 < 1000000000
  bu3 : 0 ≤ u3 ∧ u3 < 1000000000
  bv1 : 500000000 ≤ v1 ∧ v1 < 1000000000
  bv2 : 0 ≤ v2 ∧ v2 < 1000000000
  le : q * (v1 * 1000000000 + v2) ≤ (u1 * 1000000000 + u2) * 1000000000 + u3
  ge : ∀ g, g * (v1 * 1000000000 + v2) ≤ (u1 * 1000000000 + u2) * 1000000000 + u3 → g ≤ v1 * 1000000000 + v2 → g ≤ q + 1
theorem kn_of {us vs : List Int} {k m : Nat} (hus : Lim us) (hvs : Lim vs) (hvl : vs.length = m + 2) (hk : k + m + 2 < us.length) (hR : V (us.drop (k + 1)) < V vs) (hv : 500000000 ≤ vs.getD (m + 1) 0) :
    Kn (V (us.drop k)) (V vs) (V (us.drop k) / V vs) (us.getD (k + m + 2) 0) (us.getD (k + m + 1) 0) (us.getD (k + m) 0) (vs.getD (m + 1) 0) (vs.getD m 0) ∧ V (us.drop (k + m + 3)) = 0 ∧ V (us.drop k) < 1000000000 * V vs := by
  have hP := P9_pos m
  have hP1 := P9_pos (m + 1)
  have hP2 := P9_pos (m + 2)
  have vlt := V_lt hvs
  rw [hvl] at vlt
  have hR0 := V_nonneg (hus.drop (k + 1))
  have hD : 0 < V vs := by omega
  have eW := V_drop us k
  have b0 := hus.getA k
  have b1 := hus.getA (k + m)
  have b2 := hus.getA (k + m + 1)
  have b3 := hus.getA (k + m + 2)
  have c1 := hvs.getA (m + 1)
  have c2 := hvs.getA m
  -- the rows above are zero
  have z1 := high_zero (us := us.drop (k + 1)) (m := m + 2) (hus.drop _) (by rw [List.length_drop]; omega) (by omega)
  rw [List.drop_drop, show k + 1 + (m + 2) = k + m + 3 by omega] at z1
  have eD : V vs = V (vs.take m) + P9 m * (vs.getD m 0 + 1000000000 * vs.getD (m + 1) 0) := by
    rw [V_split vs m (by omega), V_drop vs m, V_drop vs (m + 1), List.drop_of_length_le (by omega)]
    simp [V]
  have eT : V (us.drop k) = V ((us.drop k).take m) + P9 m * (us.getD (k + m) 0 + 1000000000 * (us.getD (k + m + 1) 0 + 1000000000 * us.getD (k + m + 2) 0)) := by
    rw [V_split (us.drop k) m (by rw [List.length_drop]; omega), List.drop_drop, V_drop3 us (k + m), z1.1]
    simp
  have w0 := V_nonneg ((hus.drop k).take m)
  have w1 := V_lt ((hus.drop k).take m)
  rw [List.length_take, List.length_drop, Nat.min_eq_left (by omega)] at w1
  have d0 := V_nonneg (hvs.take m)
  have d1 := V_lt (hvs.take m)
  rw [List.length_take, Nat.min_eq_left (by omega)] at d1
  have hW0 : 0 ≤ V (us.drop k) := V_nonneg (hus.drop k)
  have hWB : V (us.drop k) < 1000000000 * V vs := by omega
  obtain ⟨q1, q2⟩ := div_le (V (us.drop k)) hD
  have qn := div_nonneg' hW0 (Int.le_of_lt hD)
  have qB := div_lt_base hD hWB
  have eT' : V (us.drop k) = ((us.getD (k + m + 2) 0 * 1000000000 + us.getD (k + m + 1) 0) * 1000000000 + us.getD (k + m) 0) * P9 m + V ((us.drop k).take m) := by
    rw [eT, Int.add_comm, Int.mul_comm (P9 m)]
    congr 2
    omega
  have eD' : V vs = (vs.getD (m + 1) 0 * 1000000000 + vs.getD m 0) * P9 m + V (vs.take m) := by
    rw [eD, Int.add_comm, Int.mul_comm (P9 m)]
    congr 2
    omega
  have u1le : us.getD (k + m + 2) 0 ≤ vs.getD (m + 1) 0 := by
    refine le_of_mul (c := 1000000000 * 1000000000 * P9 m) (by omega) ?_
    generalize us.getD (k + m + 2) 0 = a1 at *
    generalize us.getD (k + m + 1) 0 = a2 at *
    generalize us.getD (k + m) 0 = a3 at *
    generalize vs.getD (m + 1) 0 = e1 at *
    generalize vs.getD m 0 = e2 at *
    generalize P9 m = P at *
    have f1 : a1 * (1000000000 * 1000000000 * P) ≤ V (us.drop k) := by
      rw [eT']
      have : a1 * (1000000000 * 1000000000 * P) = (a1 * 1000000000 * 1000000000) * P := by rw [Int.mul_assoc a1, Int.mul_assoc a1]
      rw [this]
      have g1 : (a1 * 1000000000 * 1000000000) * P ≤ ((a1 * 1000000000 + a2) * 1000000000 + a3) * P := Int.mul_le_mul_of_nonneg_right (by omega) (by omega)
      omega
    have f2 : V vs ≤ (e1 * 1000000000 + e2 + 1) * P := by rw [eD', Int.add_mul (e1 * 1000000000 + e2), Int.one_mul]; omega
    have f3 : (e1 * 1000000000 + e2 + 1) * P ≤ ((e1 + 1) * 1000000000) * P := Int.mul_le_mul_of_nonneg_right (by omega) (by omega)
    have f4 : (e1 + 1) * (1000000000 * 1000000000 * P) = 1000000000 * (((e1 + 1) * 1000000000) * P) := by
      rw [Int.mul_comm 1000000000 (_ * P), Int.mul_assoc (1000000000 : Int), Int.mul_left_comm (e1 + 1), Int.mul_assoc (e1 + 1), Int.mul_comm (1000000000 : Int)]
    rw [f4]
    omega
  refine ⟨⟨qn, qB, q1, q2, hD, ⟨b3.1, u1le⟩, b2, b1, ⟨hv, c1.2⟩, c2, ?_, ?_⟩, z1.1, hWB⟩
  · exact est_ge hP eT' eD' w1 d0 qn q1
  · intro g h1 h2
    exact est_le hP eT' eD' w0 d1 qn q2 hD h1 h2
theorem Kn.first {W D q u1 u2 u3 v1 v2 : Int} (h : Kn W D q u1 u2 u3 v1 v2) {top g r : Int} (ht : top = u1 * 1000000000 + u2) (hg : g = top / v1) (hr : r = top % v1) :
    q ≤ g ∧ g ≤ 1000000001 ∧ g * v1 + r = top ∧ 0 ≤ r ∧ r < 1000000000 := by
  have hv := h.bv1
  have e := Int.emod_add_mul_ediv top v1
  have r0 := Int.emod_nonneg top (show v1 ≠ 0 by omega)
  have r1 := Int.emod_lt_of_pos top (show 0 < v1 by omega)
  rw [← hg, ← hr] at e
  rw [← hr] at r0 r1
  have hq : q * v1 ≤ top := by
    refine le_of_mul (c := 1000000000) (by omega) ?_
    have h1 := h.le
    rw [Int.mul_add, ← Int.mul_assoc] at h1
    have h2 := Int.mul_nonneg h.q0 h.bv2.1
    have h3 := h.bu3
    omega
  have c : v1 * g = g * v1 := Int.mul_comm _ _
  refine ⟨?_, ?_, by omega, r0, by omega⟩
  · rw [hg]; exact (Int.le_ediv_iff_mul_le (by omega)).2 hq
  · rw [hg]
    have : top / v1 < 1000000002 := by
      refine Int.ediv_lt_of_lt_mul (by omega) ?_
      have := h.bu1
      have := h.bu2
      omega
    omega
theorem Kn.step {W D q u1 u2 u3 v1 v2 : Int} (h : Kn W D q u1 u2 u3 v1 v2) {top g r : Int} (ht : top = u1 * 1000000000 + u2) (hg : g * v1 + r = top) (hc : 1000000000 ≤ g ∨ r * 1000000000 + u3 < g * v2) : q ≤ g - 1 := by
  rcases hc with hc | hc
  · have := h.qB; omega
  · exact est_step rfl rfl hg (by rw [ht]; exact h.le) (by have := h.bv1; have := h.bv2; omega) hc
theorem Kn.done {W D q u1 u2 u3 v1 v2 : Int} (h : Kn W D q u1 u2 u3 v1 v2) {top g r : Int} (ht : top = u1 * 1000000000 + u2) (hg : g * v1 + r = top) (hc1 : g < 1000000000) (hc : g * v2 ≤ r * 1000000000 + u3) : g ≤ q + 1 := by
  refine h.ge g (by rw [← ht]; exact end_ok rfl rfl hg hc) ?_
  have := h.bv1; have := h.bv2; omega
theorem Kn.brk {W D q u1 u2 u3 v1 v2 : Int} (h : Kn W D q u1 u2 u3 v1 v2) {top g r : Int} (ht : top = u1 * 1000000000 + u2) (hg : g * v1 + r = top) (h0 : 0 ≤ g) (hc1 : g ≤ 1000000000) (hr : 1000000000 ≤ r) : g ≤ q + 1 := by
  have a1 := h.bv1; have a2 := h.bv2; have a3 := h.bu3
  have e : g * v2 ≤ 1000000000 * 1000000000 := Int.mul_le_mul hc1 (by omega) a2.1 (by omega)
  exact h.ge g (by rw [← ht]; exact end_ok rfl rfl hg (by omega)) (by omega)
end Go.Proofs.YtfmebdmgnmogaaaGreatDoor
set_option linter.unusedVariables false
namespace Go.Proofs.YtfmebdmgnmogaaaGreatDoor
open Go Go.RowKit Hv

/-- The quotient, rounded down, and the remainder. -/
def fq (a b : Int) : Int := if 0 < b then a / b else (-a) / (-b)
def fr (a b : Int) : Int := if 0 < b then a % b else -((-a) % (-b))
theorem neg_div {n b : Int} (hb : 0 < b) : (-n) / b = if n % b = 0 then -(n / b) else -(n / b) - 1 := by
  have e := Int.emod_add_mul_ediv n b
  have h0 := Int.emod_nonneg n (show b ≠ 0 by omega)
  have h1 := Int.emod_lt_of_pos n hb
  have c : b * (n / b) = n / b * b := Int.mul_comm _ _
  split
  · refine div_eq ?_ ?_ hb
    · rw [Int.neg_mul]; omega
    · rw [Int.add_mul, Int.one_mul, Int.neg_mul]; omega
  · refine div_eq ?_ ?_ hb
    · rw [Int.sub_mul, Int.one_mul, Int.neg_mul]; omega
    · rw [Int.sub_add_cancel, Int.neg_mul]; omega
theorem neg_mod {n b : Int} (hb : 0 < b) : (-n) % b = if n % b = 0 then 0 else b - n % b := by
  have e := Int.emod_add_mul_ediv n b
  have c : b * (n / b) = n / b * b := Int.mul_comm _ _
  rw [Int.emod_def, neg_div hb]
  split
  · rw [Int.mul_neg]; omega
  · rw [Int.mul_sub, Int.mul_neg, Int.mul_one]; omega
theorem fr_eq (a b : Int) : fr a b = a - b * fq a b := by
  unfold fr fq
  split
  · rw [Int.emod_def]
  · rw [Int.emod_def, Int.neg_mul]; omega
theorem fq_pp {a b : Int} (ha : 0 ≤ a) (hb : 0 < b) : fq a b = a / b ∧ fr a b = a % b := by
  unfold fq fr; rw [if_pos hb, if_pos hb]; exact ⟨rfl, rfl⟩
theorem fq_nn {a b : Int} (ha : a < 0) (hb : b < 0) : fq a b = (-a) / (-b) ∧ fr a b = -((-a) % (-b)) := by
  unfold fq fr; rw [if_neg (by omega), if_neg (by omega)]; exact ⟨rfl, rfl⟩
theorem fq_np {a b : Int} (ha : a < 0) (hb : 0 < b) : fq a b = (if (-a) % b = 0 then -((-a) / b) else -((-a) / b) - 1) ∧ fr a b = if (-a) % b = 0 then 0 else b - (-a) % b := by
  unfold fq fr; rw [if_pos hb, if_pos hb]
  have e1 := neg_div (n := -a) hb
  have e2 := neg_mod (n := -a) hb
  rw [Int.neg_neg] at e1 e2
  exact ⟨e1, e2⟩
theorem fq_pn {a b : Int} (ha : 0 ≤ a) (hb : b < 0) : fq a b = (if a % (-b) = 0 then -(a / (-b)) else -(a / (-b)) - 1) ∧ fr a b = if a % (-b) = 0 then 0 else a % (-b) + b := by
  have f1 : fq a b = (-a) / (-b) := by unfold fq; rw [if_neg (by omega)]
  have f2 : fr a b = -((-a) % (-b)) := by unfold fr; rw [if_neg (by omega)]
  have e1 := neg_div (n := a) (b := -b) (by omega)
  have e2 := neg_mod (n := a) (b := -b) (by omega)
  rw [f1, f2]
  refine ⟨e1, ?_⟩
  rw [e2]; split <;> omega
theorem fr_bounds {a b : Int} (hb : b ≠ 0) : (0 < b → 0 ≤ fr a b ∧ fr a b < b) ∧ (b < 0 → b < fr a b ∧ fr a b ≤ 0) := by
  unfold fr
  constructor
  · intro h
    rw [if_pos h]
    exact ⟨Int.emod_nonneg _ hb, Int.emod_lt_of_pos _ h⟩
  · intro h
    rw [if_neg (by omega)]
    have h0 := Int.emod_nonneg (-a) (show -b ≠ 0 by omega)
    have h1 := Int.emod_lt_of_pos (-a) (show 0 < -b by omega)
    omega

/-- The greatest common divisor. -/
def gI (a b : Int) : Int := (Int.gcd a b : Int)
theorem gI_step (a b : Int) : gI b (a % b) = gI a b := by
  unfold gI; rw [Int.gcd_comm, Int.emod_def, Int.gcd_sub_mul_left_left]
theorem gI_zero {a : Int} (h : 0 ≤ a) : gI a 0 = a := by
  unfold gI; rw [Int.gcd_zero_right]; omega
theorem gI_abs (a b : Int) : gI (a.natAbs : Int) (b.natAbs : Int) = gI a b := by
  unfold gI; simp [Int.gcd]
theorem gI_nn (a b : Int) : 0 ≤ gI a b := by unfold gI; omega

/-- Newton's step for a root. -/
theorem sq4 (x y : Int) : 4 * (x * y) ≤ (x + y) * (x + y) := by
  have h : 0 ≤ (x - y) * (x - y) := by
    rcases Int.le_total 0 (x - y) with k | k
    · exact Int.mul_nonneg k k
    · exact Int.mul_nonneg_of_nonpos_of_nonpos k k
  have e1 : (x - y) * (x - y) = x * x - 2 * (x * y) + y * y := by rw [Int.sub_mul, Int.mul_sub, Int.mul_sub, Int.mul_comm y x]; omega
  have e2 : (x + y) * (x + y) = x * x + 2 * (x * y) + y * y := by rw [Int.add_mul, Int.mul_add, Int.mul_add, Int.mul_comm y x]; omega
  rw [e2]; omega
theorem newton {a x : Int} (hx : 0 < x) (ha : 0 ≤ a) : a < ((x + a / x) / 2 + 1) * ((x + a / x) / 2 + 1) := by
  obtain ⟨d1, d2⟩ := div_le a hx
  have q0 := div_nonneg' ha (Int.le_of_lt hx)
  generalize hq : a / x = q at *
  generalize hn : (x + q) / 2 = n
  have h1 : x + q + 1 ≤ 2 * (n + 1) := by omega
  have h2 := sq4 x (q + 1)
  have h3 : (x + (q + 1)) * (x + (q + 1)) ≤ (2 * (n + 1)) * (2 * (n + 1)) := Int.mul_le_mul (by omega) (by omega) (by omega) (by omega)
  have e : (2 * (n + 1)) * (2 * (n + 1)) = 4 * ((n + 1) * (n + 1)) := by rw [Int.mul_assoc, Int.mul_left_comm (n + 1)]; omega
  rw [Int.mul_comm (q + 1)] at d2
  omega
theorem sq_lt {x y : Int} (hx : 0 ≤ x) (hy : 0 ≤ y) (h : x * x < y * y) : x < y := by
  rcases Int.lt_or_le x y with k | k
  · exact k
  · have : y * y ≤ x * x := Int.mul_le_mul k k hy hx
    omega
theorem root_unique {a s t : Int} (hs : 0 ≤ s) (ht : 0 ≤ t) (s1 : s * s ≤ a) (s2 : a < (s + 1) * (s + 1)) (t1 : t * t ≤ a) (t2 : a < (t + 1) * (t + 1)) : s = t := by
  have h1 := sq_lt hs (show 0 ≤ t + 1 by omega) (by omega)
  have h2 := sq_lt ht (show 0 ≤ s + 1 by omega) (by omega)
  omega
theorem newton_end {a x : Int} (hx : 0 < x) (ha : 0 ≤ a) (h : x ≤ (x + a / x) / 2) : x * x ≤ a := by
  obtain ⟨d1, d2⟩ := div_le a hx
  have : x ≤ a / x := by omega
  have := Int.mul_le_mul_of_nonneg_right this (Int.le_of_lt hx)
  omega
theorem root_exists {a : Int} (ha : 0 ≤ a) : ∃ s : Int, 0 ≤ s ∧ s * s ≤ a ∧ a < (s + 1) * (s + 1) := by
  have key : ∀ n : Nat, ∃ s : Int, 0 ≤ s ∧ s * s ≤ n ∧ (n : Int) < (s + 1) * (s + 1) := by
    intro n
    induction n with
    | zero => exact ⟨0, by simp⟩
    | succ n ih =>
      obtain ⟨s, h0, h1, h2⟩ := ih
      rcases Int.lt_or_le ((n : Int) + 1) ((s + 1) * (s + 1)) with k | k
      · exact ⟨s, h0, by push_cast; omega, by push_cast; exact k⟩
      · refine ⟨s + 1, by omega, by push_cast; exact k, ?_⟩
        have e : (s + 1 + 1) * (s + 1 + 1) = (s + 1) * (s + 1) + 2 * (s + 1) + 1 := by
          rw [Int.add_mul (s + 1), Int.mul_add (s + 1), Int.mul_one, Int.one_mul]; omega
        push_cast
        rw [e]; omega
  obtain ⟨s, h⟩ := key a.toNat
  rw [Int.toNat_of_nonneg ha] at h
  exact ⟨s, h⟩
end Go.Proofs.YtfmebdmgnmogaaaGreatDoor
