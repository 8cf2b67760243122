/- The reference's quotients and remainders. No statement of its own. -/
import Derived.Test.YtfmebdmgnmogaaaGreatDoorQI23
set_option linter.unusedVariables false
set_option linter.unusedSimpArgs false
set_option linter.unusedSimpArgs false
set_option linter.unusedVariables false
set_option maxRecDepth 100000
set_option maxHeartbeats 8000000
namespace Go.Proofs.YtfmebdmgnmogaaaGreatDoor
open Go Go.RowKit Hv

theorem rdm_0 {ba : Bool} {na : Nat} {xa : List Int} {za : Int} {bb : Bool} {nb : Nat} {xb : List Int} {zb : Int} (hba : ba = decide (za < 0)) (hna : na = xa.length) (hxa : xa = dig (za.natAbs : Int)) (hla : xa.length ≤ 100000) (hbb : bb = decide (zb < 0)) (hnb : nb = xb.length) (hxb : xb = dig (zb.natAbs : Int)) (hlb : xb.length ≤ 100000) (hz : zb = 0) : HCallsD Tryz.prog 75 [] [.agg [.raw (.bool ba), .sl na false (ints .u32 xa)], .agg [.raw (.bool bb), .sl nb false (ints .u32 xb)]] (.tup [aI 0, aI 0, .raw (.int .i64 6)]) [] := by
  subst hna hnb hz
  have h0 : xb.length = 0 := by rw [hxb]; exact dig_len_zero (by omega)
  refine cp2 (rs := [.cell 4 24, .cell 5 24, .tmp 6]) (nt := 54) Tryz.func75 (fun C hP hn => ?_)
  ((repeat' (first | refine gW ?_ | (refine gIf ?_ ?_ <;> (intro hc; try exact gX)) | with_reducible refine br_intro ?_ ?_ | (with_reducible intro _; try exact gX) | with_reducible refine ands_intro ?_ ?_)) <;> (try exact gF))
  exact rqq3 (rC ty24) (rC ty24) rT
theorem rdm_s {xa xb : List Int} {u v : Int} (hxa : xa = dig u) (hxb : xb = dig v) (hu : 0 ≤ u) (hv : 0 < v) (hla : xa.length ≤ 90000) (hlb : xb.length ≤ 90000) {q r : Int} (hq : u / v = q) (hr : sgnd false (u % v) = r) : HCallsD Tryz.prog 75 [] [.agg [.raw (.bool false), .sl xa.length false (ints .u32 xa)], .agg [.raw (.bool false), .sl xb.length false (ints .u32 xb)]] (.tup [aI q, aI r, .raw (.int .i64 0)]) [] := by
  obtain ⟨qs, hqs⟩ : ∃ qs, dig (u / v) = qs := ⟨_, rfl⟩
  obtain ⟨rs, hrs⟩ : ∃ rs, dig (u % v) = rs := ⟨_, rfl⟩
  have hn := Int.emod_nonneg u (show v ≠ 0 by omega)
  have hd := div_nonneg' hu (Int.le_of_lt hv)
  have lq : Lim qs := hqs ▸ dig_lim _
  have lr : Lim rs := hrs ▸ dig_lim _
  have vq : V qs = u / v := by rw [← hqs]; exact dig_V hd
  have vr : V rs = u % v := by rw [← hrs]; exact dig_V hn
  have kq : qs.length ≤ 90000 := by rw [← hqs]; rw [hxa] at hla; exact Nat.le_trans (dig_le hd (Int.ediv_le_self _ hu)) hla
  have kr : rs.length ≤ 90000 := by rw [← hrs]; rw [hxb] at hlb; exact Nat.le_trans (dig_le (by omega) (Int.le_of_lt (Int.emod_lt_of_pos u hv))) hlb
  have l0 : 0 < xb.length := by rw [hxb]; exact dig_len_pos hv
  refine cp2 (rs := [.cell 4 24, .cell 5 24, .tmp 6]) (nt := 54) Tryz.func75 (fun C hP hn => ?_)
  ((repeat' (first | refine gW ?_ | (refine gIf ?_ ?_ <;> (intro hc; try exact gX)) | with_reducible refine br_intro ?_ ?_ | (with_reducible intro _; try exact gX) | with_reducible refine ands_intro ?_ ?_ | refine cx (parts_e (u := u) (v := v) (by rfl) (by rfl) hxa hxb hu hv (by omega) (by omega) hqs hrs) ?_ | refine cx (rsigned_f (xs := qs) (z := q) (by rfl) (by omega) lq vq hq) ?_ | refine cx (rsigned_f (xs := rs) (z := r) (by rfl) (by omega) lr vr hr) ?_)) <;> (try exact gF))
  all_goals exact rqq3 (rC ty24) (rC ty24) rT
theorem rdm_t {xa xb : List Int} {u v : Int} (hxa : xa = dig u) (hxb : xb = dig v) (hu : 0 ≤ u) (hv : 0 < v) (hla : xa.length ≤ 90000) (hlb : xb.length ≤ 90000) {q r : Int} (hq : u / v = q) (hr : sgnd true (u % v) = r) : HCallsD Tryz.prog 75 [] [.agg [.raw (.bool true), .sl xa.length false (ints .u32 xa)], .agg [.raw (.bool true), .sl xb.length false (ints .u32 xb)]] (.tup [aI q, aI r, .raw (.int .i64 0)]) [] := by
  obtain ⟨qs, hqs⟩ : ∃ qs, dig (u / v) = qs := ⟨_, rfl⟩
  obtain ⟨rs, hrs⟩ : ∃ rs, dig (u % v) = rs := ⟨_, rfl⟩
  have hn := Int.emod_nonneg u (show v ≠ 0 by omega)
  have hd := div_nonneg' hu (Int.le_of_lt hv)
  have lq : Lim qs := hqs ▸ dig_lim _
  have lr : Lim rs := hrs ▸ dig_lim _
  have vq : V qs = u / v := by rw [← hqs]; exact dig_V hd
  have vr : V rs = u % v := by rw [← hrs]; exact dig_V hn
  have kq : qs.length ≤ 90000 := by rw [← hqs]; rw [hxa] at hla; exact Nat.le_trans (dig_le hd (Int.ediv_le_self _ hu)) hla
  have kr : rs.length ≤ 90000 := by rw [← hrs]; rw [hxb] at hlb; exact Nat.le_trans (dig_le (by omega) (Int.le_of_lt (Int.emod_lt_of_pos u hv))) hlb
  have l0 : 0 < xb.length := by rw [hxb]; exact dig_len_pos hv
  refine cp2 (rs := [.cell 4 24, .cell 5 24, .tmp 6]) (nt := 54) Tryz.func75 (fun C hP hn => ?_)
  ((repeat' (first | refine gW ?_ | (refine gIf ?_ ?_ <;> (intro hc; try exact gX)) | with_reducible refine br_intro ?_ ?_ | (with_reducible intro _; try exact gX) | with_reducible refine ands_intro ?_ ?_ | refine cx (parts_e (u := u) (v := v) (by rfl) (by rfl) hxa hxb hu hv (by omega) (by omega) hqs hrs) ?_ | refine cx (rsigned_f (xs := qs) (z := q) (by rfl) (by omega) lq vq hq) ?_ | refine cx (rsigned_f (xs := rs) (z := r) (by rfl) (by omega) lr vr hr) ?_)) <;> (try exact gF))
  all_goals exact rqq3 (rC ty24) (rC ty24) rT
theorem rdm_p {xa xb : List Int} {u v zb : Int} (hxa : xa = dig u) (hxb : xb = dig v) (hu : 0 ≤ u) (hv : 0 < v) (hla : xa.length ≤ 90000) (hlb : xb.length ≤ 90000) (hbb : false = decide (zb < 0)) (hzb : v = (zb.natAbs : Int)) {q r : Int} (hq : (if u % v = 0 then -(u / v) else -(u / v) - 1) = q) (hr : (if u % v = 0 then 0 else sgnd true (u % v) + zb) = r) : HCallsD Tryz.prog 75 [] [.agg [.raw (.bool true), .sl xa.length false (ints .u32 xa)], .agg [.raw (.bool false), .sl xb.length false (ints .u32 xb)]] (.tup [aI q, aI r, .raw (.int .i64 0)]) [] := by
  obtain ⟨qs, hqs⟩ : ∃ qs, dig (u / v) = qs := ⟨_, rfl⟩
  obtain ⟨rs, hrs⟩ : ∃ rs, dig (u % v) = rs := ⟨_, rfl⟩
  have hn := Int.emod_nonneg u (show v ≠ 0 by omega)
  have hlt := Int.emod_lt_of_pos u hv
  have hd := div_nonneg' hu (Int.le_of_lt hv)
  have lq : Lim qs := hqs ▸ dig_lim _
  have lr : Lim rs := hrs ▸ dig_lim _
  have vq : V qs = u / v := by rw [← hqs]; exact dig_V hd
  have vr : V rs = u % v := by rw [← hrs]; exact dig_V hn
  have kq : qs.length ≤ 90000 := by rw [← hqs]; rw [hxa] at hla; exact Nat.le_trans (dig_le hd (Int.ediv_le_self _ hu)) hla
  have kr : rs.length ≤ 90000 := by rw [← hrs]; rw [hxb] at hlb; exact Nat.le_trans (dig_le (by omega) (Int.le_of_lt hlt)) hlb
  have l0 : 0 < xb.length := by rw [hxb]; exact dig_len_pos hv
  obtain ⟨q0, hq0⟩ : ∃ z : Int, sgnd true (u / v) = z := ⟨_, rfl⟩
  obtain ⟨r0, hr0⟩ : ∃ z : Int, sgnd true (u % v) = z := ⟨_, rfl⟩
  have b1 : (dig (q0.natAbs : Int)).length ≤ 90000 := by
    rw [← hq0]
    have : ((sgnd true (u / v)).natAbs : Int) = u / v := by simp only [sgnd, if_true]; omega
    rw [this, hqs]; exact kq
  have b2 : (dig (r0.natAbs : Int)).length ≤ 90000 := by
    rw [← hr0]
    have : ((sgnd true (u % v)).natAbs : Int) = u % v := by simp [sgnd]; try omega
    rw [this, hrs]; exact kr
  obtain ⟨one, h1⟩ : ∃ z : Int, 1 = z := ⟨_, rfl⟩
  have b3 : (dig (one.natAbs : Int)).length ≤ 3 := dig_len64 (by omega)
  have hxb2 : xb = dig (zb.natAbs : Int) := by rw [← hzb]; exact hxb
  rcases Int.lt_or_le 0 (u % v) with h | h
  · have k0 : 0 < rs.length := by rw [← hrs]; exact dig_len_pos h
    rw [if_neg (by omega)] at hq hr
    rw [hr0] at hr
    have hq' : q0 - one = q := by rw [← hq, ← hq0, ← h1]; rfl
    refine cp2 (rs := [.cell 4 24, .cell 5 24, .tmp 6]) (nt := 54) Tryz.func75 (fun C hP hn => ?_)
    ((repeat' (first | refine gW ?_ | (refine gIf ?_ ?_ <;> (intro hc; try exact gX)) | with_reducible refine br_intro ?_ ?_ | (with_reducible intro _; try exact gX) | with_reducible refine ands_intro ?_ ?_ | refine cx (parts_e (u := u) (v := v) (by rfl) (by rfl) hxa hxb hu hv (by omega) (by omega) hqs hrs) ?_ | refine cx (rsigned_f (xs := qs) (z := q0) (by rfl) (by omega) lq vq hq0) ?_ | refine cx (rsigned_f (xs := rs) (z := r0) (by rfl) (by omega) lr vr hr0) ?_ | refine cx (rfrom64_w h1 (by omega) (by omega)) ?_ | refine cx (rsub_e (za := q0) (zb := one) (by rfl) (by rfl) (by rfl) (by omega) (by rfl) (by rfl) (by rfl) (by omega) hq') ?_ | refine cx (radd_e (za := r0) (zb := zb) (by rfl) (by rfl) (by rfl) (by omega) hbb (by rfl) hxb2 (by omega) hr) ?_)) <;> (try exact gF))
    all_goals exact rqq3 (rC ty24) (rC ty24) rT
  · have k0 : rs.length = 0 := by rw [← hrs]; exact dig_len_zero h
    rw [if_pos (by omega)] at hq hr
    have hr' : sgnd true (u % v) = r := by rw [← hr, show u % v = 0 by omega]; rfl
    refine cp2 (rs := [.cell 4 24, .cell 5 24, .tmp 6]) (nt := 54) Tryz.func75 (fun C hP hn => ?_)
    ((repeat' (first | refine gW ?_ | (refine gIf ?_ ?_ <;> (intro hc; try exact gX)) | with_reducible refine br_intro ?_ ?_ | (with_reducible intro _; try exact gX) | with_reducible refine ands_intro ?_ ?_ | refine cx (parts_e (u := u) (v := v) (by rfl) (by rfl) hxa hxb hu hv (by omega) (by omega) hqs hrs) ?_ | refine cx (rsigned_f (xs := qs) (z := q) (by rfl) (by omega) lq vq hq) ?_ | refine cx (rsigned_f (xs := rs) (z := r) (by rfl) (by omega) lr vr hr') ?_)) <;> (try exact gF))
    all_goals exact rqq3 (rC ty24) (rC ty24) rT
theorem rdm_n {xa xb : List Int} {u v zb : Int} (hxa : xa = dig u) (hxb : xb = dig v) (hu : 0 ≤ u) (hv : 0 < v) (hla : xa.length ≤ 90000) (hlb : xb.length ≤ 90000) (hbb : true = decide (zb < 0)) (hzb : v = (zb.natAbs : Int)) {q r : Int} (hq : (if u % v = 0 then -(u / v) else -(u / v) - 1) = q) (hr : (if u % v = 0 then 0 else sgnd false (u % v) + zb) = r) : HCallsD Tryz.prog 75 [] [.agg [.raw (.bool false), .sl xa.length false (ints .u32 xa)], .agg [.raw (.bool true), .sl xb.length false (ints .u32 xb)]] (.tup [aI q, aI r, .raw (.int .i64 0)]) [] := by
  obtain ⟨qs, hqs⟩ : ∃ qs, dig (u / v) = qs := ⟨_, rfl⟩
  obtain ⟨rs, hrs⟩ : ∃ rs, dig (u % v) = rs := ⟨_, rfl⟩
  have hn := Int.emod_nonneg u (show v ≠ 0 by omega)
  have hlt := Int.emod_lt_of_pos u hv
  have hd := div_nonneg' hu (Int.le_of_lt hv)
  have lq : Lim qs := hqs ▸ dig_lim _
  have lr : Lim rs := hrs ▸ dig_lim _
  have vq : V qs = u / v := by rw [← hqs]; exact dig_V hd
  have vr : V rs = u % v := by rw [← hrs]; exact dig_V hn
  have kq : qs.length ≤ 90000 := by rw [← hqs]; rw [hxa] at hla; exact Nat.le_trans (dig_le hd (Int.ediv_le_self _ hu)) hla
  have kr : rs.length ≤ 90000 := by rw [← hrs]; rw [hxb] at hlb; exact Nat.le_trans (dig_le (by omega) (Int.le_of_lt hlt)) hlb
  have l0 : 0 < xb.length := by rw [hxb]; exact dig_len_pos hv
  obtain ⟨q0, hq0⟩ : ∃ z : Int, sgnd true (u / v) = z := ⟨_, rfl⟩
  obtain ⟨r0, hr0⟩ : ∃ z : Int, sgnd false (u % v) = z := ⟨_, rfl⟩
  have b1 : (dig (q0.natAbs : Int)).length ≤ 90000 := by
    rw [← hq0]
    have : ((sgnd true (u / v)).natAbs : Int) = u / v := by simp only [sgnd, if_true]; omega
    rw [this, hqs]; exact kq
  have b2 : (dig (r0.natAbs : Int)).length ≤ 90000 := by
    rw [← hr0]
    have : ((sgnd false (u % v)).natAbs : Int) = u % v := by simp [sgnd]; try omega
    rw [this, hrs]; exact kr
  obtain ⟨one, h1⟩ : ∃ z : Int, 1 = z := ⟨_, rfl⟩
  have b3 : (dig (one.natAbs : Int)).length ≤ 3 := dig_len64 (by omega)
  have hxb2 : xb = dig (zb.natAbs : Int) := by rw [← hzb]; exact hxb
  rcases Int.lt_or_le 0 (u % v) with h | h
  · have k0 : 0 < rs.length := by rw [← hrs]; exact dig_len_pos h
    rw [if_neg (by omega)] at hq hr
    rw [hr0] at hr
    have hq' : q0 - one = q := by rw [← hq, ← hq0, ← h1]; rfl
    refine cp2 (rs := [.cell 4 24, .cell 5 24, .tmp 6]) (nt := 54) Tryz.func75 (fun C hP hn => ?_)
    ((repeat' (first | refine gW ?_ | (refine gIf ?_ ?_ <;> (intro hc; try exact gX)) | with_reducible refine br_intro ?_ ?_ | (with_reducible intro _; try exact gX) | with_reducible refine ands_intro ?_ ?_ | refine cx (parts_e (u := u) (v := v) (by rfl) (by rfl) hxa hxb hu hv (by omega) (by omega) hqs hrs) ?_ | refine cx (rsigned_f (xs := qs) (z := q0) (by rfl) (by omega) lq vq hq0) ?_ | refine cx (rsigned_f (xs := rs) (z := r0) (by rfl) (by omega) lr vr hr0) ?_ | refine cx (rfrom64_w h1 (by omega) (by omega)) ?_ | refine cx (rsub_e (za := q0) (zb := one) (by rfl) (by rfl) (by rfl) (by omega) (by rfl) (by rfl) (by rfl) (by omega) hq') ?_ | refine cx (radd_e (za := r0) (zb := zb) (by rfl) (by rfl) (by rfl) (by omega) hbb (by rfl) hxb2 (by omega) hr) ?_)) <;> (try exact gF))
    all_goals exact rqq3 (rC ty24) (rC ty24) rT
  · have k0 : rs.length = 0 := by rw [← hrs]; exact dig_len_zero h
    rw [if_pos (by omega)] at hq hr
    have hr' : sgnd false (u % v) = r := by rw [← hr, show u % v = 0 by omega]; rfl
    refine cp2 (rs := [.cell 4 24, .cell 5 24, .tmp 6]) (nt := 54) Tryz.func75 (fun C hP hn => ?_)
    ((repeat' (first | refine gW ?_ | (refine gIf ?_ ?_ <;> (intro hc; try exact gX)) | with_reducible refine br_intro ?_ ?_ | (with_reducible intro _; try exact gX) | with_reducible refine ands_intro ?_ ?_ | refine cx (parts_e (u := u) (v := v) (by rfl) (by rfl) hxa hxb hu hv (by omega) (by omega) hqs hrs) ?_ | refine cx (rsigned_f (xs := qs) (z := q) (by rfl) (by omega) lq vq hq) ?_ | refine cx (rsigned_f (xs := rs) (z := r) (by rfl) (by omega) lr vr hr') ?_)) <;> (try exact gF))
    all_goals exact rqq3 (rC ty24) (rC ty24) rT
theorem rdivmod_e {ba : Bool} {na : Nat} {xa : List Int} {za : Int} {bb : Bool} {nb : Nat} {xb : List Int} {zb : Int} {q r : Int} (hba : ba = decide (za < 0)) (hna : na = xa.length) (hxa : xa = dig (za.natAbs : Int)) (hla : xa.length ≤ 100000) (hbb : bb = decide (zb < 0)) (hnb : nb = xb.length) (hxb : xb = dig (zb.natAbs : Int)) (hlb : xb.length ≤ 100000) (hka : xa.length ≤ 90000) (hkb : xb.length ≤ 90000) (hz : zb ≠ 0) (hq : fq za zb = q) (hr : fr za zb = r) : HCallsD Tryz.prog 75 [] [.agg [.raw (.bool ba), .sl na false (ints .u32 xa)], .agg [.raw (.bool bb), .sl nb false (ints .u32 xb)]] (.tup [aI q, aI r, .raw (.int .i64 0)]) [] := by
  subst hna hnb
  rcases Int.lt_or_le za 0 with h1 | h1
  · have e1 : ba = true := hba.trans (decide_eq_true h1)
    subst e1
    have ea : (za.natAbs : Int) = -za := by omega
    rcases Int.lt_or_le zb 0 with h2 | h2
    · have e2 : bb = true := hbb.trans (decide_eq_true h2)
      subst e2
      obtain ⟨f1, f2⟩ := fq_nn h1 h2
      have eb : (zb.natAbs : Int) = -zb := by omega
      exact rdm_t hxa hxb (by omega) (by omega) hka hkb (by rw [ea, eb, ← f1]; exact hq) (by rw [ea, eb]; exact f2.symm.trans hr)
    · have e2 : bb = false := hbb.trans (decide_eq_false (by omega))
      subst e2
      obtain ⟨f1, f2⟩ := fq_np h1 (show 0 < zb by omega)
      have eb : (zb.natAbs : Int) = zb := by omega
      exact rdm_p hxa hxb (by omega) (by omega) hka hkb hbb rfl (by rw [ea, eb, ← f1]; exact hq) (by rw [ea, eb, ← hr, f2]; simp only [sgnd, if_true]; split <;> omega)
  · have e1 : ba = false := hba.trans (decide_eq_false (by omega))
    subst e1
    have ea : (za.natAbs : Int) = za := by omega
    rcases Int.lt_or_le zb 0 with h2 | h2
    · have e2 : bb = true := hbb.trans (decide_eq_true h2)
      subst e2
      obtain ⟨f1, f2⟩ := fq_pn h1 h2
      have eb : (zb.natAbs : Int) = -zb := by omega
      exact rdm_n hxa hxb (by omega) (by omega) hka hkb hbb rfl (by rw [ea, eb, ← f1]; exact hq) (by rw [ea, eb, ← hr, f2]; rfl)
    · have e2 : bb = false := hbb.trans (decide_eq_false (by omega))
      subst e2
      obtain ⟨f1, f2⟩ := fq_pp h1 (show 0 < zb by omega)
      have eb : (zb.natAbs : Int) = zb := by omega
      exact rdm_s hxa hxb (by omega) (by omega) hka hkb (by rw [ea, eb, ← f1]; exact hq) (by rw [ea, eb]; exact f2.symm.trans hr)
end Go.Proofs.YtfmebdmgnmogaaaGreatDoor
