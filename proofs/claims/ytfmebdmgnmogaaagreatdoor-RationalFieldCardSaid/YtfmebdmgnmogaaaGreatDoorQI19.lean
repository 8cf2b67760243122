/- The contract of rounded division of integers. No statement of its own. -/
import Derived.Test.YtfmebdmgnmogaaaGreatDoorQI18
set_option linter.unusedVariables false
set_option linter.unusedSimpArgs false
set_option linter.unusedSimpArgs false
set_option linter.unusedVariables false
set_option maxRecDepth 100000
set_option maxHeartbeats 4000000
namespace Go.Proofs.YtfmebdmgnmogaaaGreatDoor
open Go Go.RowKit Hv

theorem ty27 : tyT Tryz.prog 41 = some (false, 1) := by kernel_rfl
theorem divzero_c {ba : Bool} {na : Nat} {xa : List Int} {za : Int} {bb : Bool} {nb : Nat} {xb : List Int} {zb : Int} (hba : ba = decide (za < 0)) (hna : na = xa.length) (hxa : xa = dig (za.natAbs : Int)) (hla : xa.length ≤ 100000) (hbb : bb = decide (zb < 0)) (hnb : nb = xb.length) (hxb : xb = dig (zb.natAbs : Int)) (hlb : xb.length ≤ 100000) (hz : zb = 0) : HCallsD Tryz.prog 59 [] [.agg [.raw (.bool ba), .sl na false (ints .u32 xa)], .agg [.raw (.bool bb), .sl nb false (ints .u32 xb)]] (.tup [aI 0, aI 0, .raw (.int .i64 6)]) [] := by
  subst hna hnb hz
  have hl : xb.length = 0 := by rw [hxb]; exact dig_len_zero (by omega)
  refine cp2 (rs := [.cell 4 24, .cell 5 24, .tmp 6]) (nt := 55) Tryz.func59 (fun C hP hn => ?_)
  ((repeat' (first | refine gW ?_ | (refine gIf ?_ ?_ <;> (intro hc; try exact gX)) | with_reducible refine br_intro ?_ ?_ | (with_reducible intro _; try exact gX) | with_reducible refine ands_intro ?_ ?_)) <;> (try exact gF))
  exact rqq3 (rC ty24) (rC ty24) rT
theorem signed_f {n : Nat} {b : Bool} {xs : List Int} {z v : Int} (hn : n = xs.length) (hl : xs.length ≤ 1000000) (hx : Lim xs) (hv : V xs = v) (hz : sgnd b v = z) : HCallsD Tryz.prog 95 [] [.raw (.bool b), .sl n false (ints .u32 xs)] (aI z) [] := signed_e hn hl hx (by rw [hv, hz])
theorem nat_abs_len {z w : Int} (h : (z.natAbs : Int) ≤ w) : (dig (z.natAbs : Int)).length ≤ (dig w).length := dig_le (by omega) h

theorem dmA_c {ba : Bool} {na : Nat} {xa : List Int} {za : Int} {bb : Bool} {nb : Nat} {xb : List Int} {zb : Int} {Q R q0 r0 : Int} {qs rs : List Int} (hba : ba = decide (za < 0)) (hna : na = xa.length) (hxa : xa = dig (za.natAbs : Int)) (hla : xa.length ≤ 100000) (hbb : bb = decide (zb < 0)) (hnb : nb = xb.length) (hxb : xb = dig (zb.natAbs : Int)) (hlb : xb.length ≤ 100000) (hz : 0 < xb.length) (lq : Lim qs) (lr : Lim rs) (vq : V qs = Q) (vr : V rs = R) (nq : qs.length ≤ 1000000) (nr : rs.length ≤ 1000000) (R0 : 0 ≤ R)
    (hdiv : HCallsD Tryz.prog 94 [] [.sl xa.length false (ints .u32 xa), .sl xb.length false (ints .u32 xb)] (.tup [.sl qs.length false (ints .u32 qs), .sl rs.length false (ints .u32 rs)]) [])
    (hq : sgnd (ba != bb) Q = q0) (hr : sgnd ba R = r0) (lq0 : (dig (q0.natAbs : Int)).length ≤ 100000) (lr0 : (dig (r0.natAbs : Int)).length ≤ 100000) (hc : R = 0 ∨ ba = bb) :
    HCallsD Tryz.prog 59 [] [.agg [.raw (.bool ba), .sl na false (ints .u32 xa)], .agg [.raw (.bool bb), .sl nb false (ints .u32 xb)]] (.tup [aI q0, aI r0, .raw (.int .i64 0)]) [] := by
  subst hna hnb
  clear hba hbb
  rcases Int.lt_or_le 0 R with hR | hR
  · have hb : ba = bb := by rcases hc with h | h; omega; exact h
    subst hb
    have hl : 0 < (dig (r0.natAbs : Int)).length := dig_len_pos (by rw [← hr]; unfold sgnd; split <;> omega)
    have hs : decide (r0 < 0) = ba := by rw [← hr]; unfold sgnd; cases ba <;> simp <;> omega
    cases ba
    · refine cp2 (rs := [.cell 4 24, .cell 5 24, .tmp 6]) (nt := 55) Tryz.func59 (fun C hP hn => ?_)
      (have hXx := @hs; (repeat' (first | refine gWx ?_ | (refine gIf ?_ ?_ <;> (intro hc; try exact gX)) | with_reducible refine br_intro ?_ ?_ | (with_reducible intro _; try exact gX) | with_reducible refine ands_intro ?_ ?_ | refine cx (hdiv) ?_ | refine cx (signed_f (xs := qs) (by rfl) nq lq vq hq) ?_ | refine cx (signed_f (xs := rs) (by rfl) nr lr vr hr) ?_)) <;> ((try clear hXx); try exact gF))
      exact rqq3 (rC ty24) (rC ty24) rT
    · refine cp2 (rs := [.cell 4 24, .cell 5 24, .tmp 6]) (nt := 55) Tryz.func59 (fun C hP hn => ?_)
      (have hXx := @hs; (repeat' (first | refine gWx ?_ | (refine gIf ?_ ?_ <;> (intro hc; try exact gX)) | with_reducible refine br_intro ?_ ?_ | (with_reducible intro _; try exact gX) | with_reducible refine ands_intro ?_ ?_ | refine cx (hdiv) ?_ | refine cx (signed_f (xs := qs) (by rfl) nq lq vq hq) ?_ | refine cx (signed_f (xs := rs) (by rfl) nr lr vr hr) ?_)) <;> ((try clear hXx); try exact gF))
      exact rqq3 (rC ty24) (rC ty24) rT
  · have hl : (dig (r0.natAbs : Int)).length = 0 := dig_len_zero (by rw [← hr]; unfold sgnd; split <;> omega)
    clear hc
    cases ba
    all_goals cases bb
    · refine cp2 (rs := [.cell 4 24, .cell 5 24, .tmp 6]) (nt := 55) Tryz.func59 (fun C hP hn => ?_)
      ((repeat' (first | refine gW ?_ | (refine gIf ?_ ?_ <;> (intro hc; try exact gX)) | with_reducible refine br_intro ?_ ?_ | (with_reducible intro _; try exact gX) | with_reducible refine ands_intro ?_ ?_ | refine cx (hdiv) ?_ | refine cx (signed_f (xs := qs) (by rfl) nq lq vq hq) ?_ | refine cx (signed_f (xs := rs) (by rfl) nr lr vr hr) ?_)) <;> (try exact gF))
      exact rqq3 (rC ty24) (rC ty24) rT
    · refine cp2 (rs := [.cell 4 24, .cell 5 24, .tmp 6]) (nt := 55) Tryz.func59 (fun C hP hn => ?_)
      ((repeat' (first | refine gW ?_ | (refine gIf ?_ ?_ <;> (intro hc; try exact gX)) | with_reducible refine br_intro ?_ ?_ | (with_reducible intro _; try exact gX) | with_reducible refine ands_intro ?_ ?_ | refine cx (hdiv) ?_ | refine cx (signed_f (xs := qs) (by rfl) nq lq vq hq) ?_ | refine cx (signed_f (xs := rs) (by rfl) nr lr vr hr) ?_)) <;> (try exact gF))
      exact rqq3 (rC ty24) (rC ty24) rT
    · refine cp2 (rs := [.cell 4 24, .cell 5 24, .tmp 6]) (nt := 55) Tryz.func59 (fun C hP hn => ?_)
      ((repeat' (first | refine gW ?_ | (refine gIf ?_ ?_ <;> (intro hc; try exact gX)) | with_reducible refine br_intro ?_ ?_ | (with_reducible intro _; try exact gX) | with_reducible refine ands_intro ?_ ?_ | refine cx (hdiv) ?_ | refine cx (signed_f (xs := qs) (by rfl) nq lq vq hq) ?_ | refine cx (signed_f (xs := rs) (by rfl) nr lr vr hr) ?_)) <;> (try exact gF))
      exact rqq3 (rC ty24) (rC ty24) rT
    · refine cp2 (rs := [.cell 4 24, .cell 5 24, .tmp 6]) (nt := 55) Tryz.func59 (fun C hP hn => ?_)
      ((repeat' (first | refine gW ?_ | (refine gIf ?_ ?_ <;> (intro hc; try exact gX)) | with_reducible refine br_intro ?_ ?_ | (with_reducible intro _; try exact gX) | with_reducible refine ands_intro ?_ ?_ | refine cx (hdiv) ?_ | refine cx (signed_f (xs := qs) (by rfl) nq lq vq hq) ?_ | refine cx (signed_f (xs := rs) (by rfl) nr lr vr hr) ?_)) <;> (try exact gF))
      exact rqq3 (rC ty24) (rC ty24) rT
theorem dmB_c {ba : Bool} {na : Nat} {xa : List Int} {za : Int} {bb : Bool} {nb : Nat} {xb : List Int} {zb : Int} {Q R q0 r0 : Int} {qs rs : List Int} (hba : ba = decide (za < 0)) (hna : na = xa.length) (hxa : xa = dig (za.natAbs : Int)) (hla : xa.length ≤ 100000) (hbb : bb = decide (zb < 0)) (hnb : nb = xb.length) (hxb : xb = dig (zb.natAbs : Int)) (hlb : xb.length ≤ 100000) (hz : 0 < xb.length) (lq : Lim qs) (lr : Lim rs) (vq : V qs = Q) (vr : V rs = R) (nq : qs.length ≤ 1000000) (nr : rs.length ≤ 1000000) (R0 : 0 < R)
    (hdiv : HCallsD Tryz.prog 94 [] [.sl xa.length false (ints .u32 xa), .sl xb.length false (ints .u32 xb)] (.tup [.sl qs.length false (ints .u32 qs), .sl rs.length false (ints .u32 rs)]) [])
    (hq : sgnd (ba != bb) Q = q0) (hr : sgnd ba R = r0) (lq0 : (dig (q0.natAbs : Int)).length ≤ 100000) (lr0 : (dig (r0.natAbs : Int)).length ≤ 100000) (hc : ba ≠ bb) :
    HCallsD Tryz.prog 59 [] [.agg [.raw (.bool ba), .sl na false (ints .u32 xa)], .agg [.raw (.bool bb), .sl nb false (ints .u32 xb)]] (.tup [aI (q0 - 1), aI (r0 + zb), .raw (.int .i64 0)]) [] := by
  subst hna hnb
  have h1 : (dig ((1 : Int).natAbs : Int)).length ≤ 3 := dig_len64 (by omega)
  have hl : 0 < (dig (r0.natAbs : Int)).length := dig_len_pos (by rw [← hr]; unfold sgnd; split <;> omega)
  have hs : decide (r0 < 0) = ba := by rw [← hr]; unfold sgnd; cases ba <;> simp <;> omega
  cases ba
  all_goals cases bb
  · exact absurd rfl hc
  · refine cp2 (rs := [.cell 4 24, .cell 5 24, .tmp 6]) (nt := 55) Tryz.func59 (fun C hP hn => ?_)
    (have hXx := @hs; (repeat' (first | refine gWx ?_ | (refine gIf ?_ ?_ <;> (intro hc; try exact gX)) | with_reducible refine br_intro ?_ ?_ | (with_reducible intro _; try exact gX) | with_reducible refine ands_intro ?_ ?_ | refine cx (hdiv) ?_ | refine cx (signed_f (xs := qs) (by rfl) nq lq vq hq) ?_ | refine cx (signed_f (xs := rs) (by rfl) nr lr vr hr) ?_ | refine cx (from64_c (z := 1) (by omega) (by omega)) ?_ | refine cx (isub_c (za := q0) (zb := 1) (by rfl) (by rfl) (by rfl) lq0 (by rfl) (by rfl) (by rfl) (by omega)) ?_ | refine cx (iadd_c (za := r0) (zb := zb) hs.symm (by rfl) (by rfl) lr0 hbb (by rfl) hxb hlb) ?_)) <;> ((try clear hXx); try exact gF))
    exact rqq3 (rC ty24) (rC ty24) rT
  · refine cp2 (rs := [.cell 4 24, .cell 5 24, .tmp 6]) (nt := 55) Tryz.func59 (fun C hP hn => ?_)
    (have hXx := @hs; (repeat' (first | refine gWx ?_ | (refine gIf ?_ ?_ <;> (intro hc; try exact gX)) | with_reducible refine br_intro ?_ ?_ | (with_reducible intro _; try exact gX) | with_reducible refine ands_intro ?_ ?_ | refine cx (hdiv) ?_ | refine cx (signed_f (xs := qs) (by rfl) nq lq vq hq) ?_ | refine cx (signed_f (xs := rs) (by rfl) nr lr vr hr) ?_ | refine cx (from64_c (z := 1) (by omega) (by omega)) ?_ | refine cx (isub_c (za := q0) (zb := 1) (by rfl) (by rfl) (by rfl) lq0 (by rfl) (by rfl) (by rfl) (by omega)) ?_ | refine cx (iadd_c (za := r0) (zb := zb) hs.symm (by rfl) (by rfl) lr0 hbb (by rfl) hxb hlb) ?_)) <;> ((try clear hXx); try exact gF))
    exact rqq3 (rC ty24) (rC ty24) rT
  · exact absurd rfl hc

theorem sgnd_len {b : Bool} {v w : Int} (h0 : 0 ≤ v) (h : v ≤ w) : (dig ((sgnd b v).natAbs : Int)).length ≤ (dig w).length := dig_le (by omega) (by unfold sgnd; split <;> omega)
theorem divmod_c {ba : Bool} {na : Nat} {xa : List Int} {za : Int} {bb : Bool} {nb : Nat} {xb : List Int} {zb : Int} (hba : ba = decide (za < 0)) (hna : na = xa.length) (hxa : xa = dig (za.natAbs : Int)) (hla : xa.length ≤ 100000) (hbb : bb = decide (zb < 0)) (hnb : nb = xb.length) (hxb : xb = dig (zb.natAbs : Int)) (hlb : xb.length ≤ 100000) (hz : zb ≠ 0) : HCallsD Tryz.prog 59 [] [.agg [.raw (.bool ba), .sl na false (ints .u32 xa)], .agg [.raw (.bool bb), .sl nb false (ints .u32 xb)]] (.tup [aI (fq za zb), aI (fr za zb), .raw (.int .i64 0)]) [] := by
  have hw : 0 < (zb.natAbs : Int) := by omega
  have hlb0 : 0 < xb.length := by rw [hxb]; exact dig_len_pos hw
  obtain ⟨qs, rs, lq, lr, vq, vr, nq, nr, hdiv⟩ := divide_c (n := xa.length) (m := xb.length) rfl rfl hxa hxb (ab_nn za) hw (by omega) (by omega)
  have Q0 := div_nonneg' (ab_nn za) (Int.le_of_lt hw)
  have R0 := Int.emod_nonneg (za.natAbs : Int) (show (zb.natAbs : Int) ≠ 0 by omega)
  have R1 := Int.emod_lt_of_pos (za.natAbs : Int) hw
  have Q1 : (za.natAbs : Int) / (zb.natAbs : Int) ≤ za.natAbs := Int.ediv_le_self _ (ab_nn za)
  have R2 : (za.natAbs : Int) % (zb.natAbs : Int) ≤ za.natAbs := by
    rcases Int.lt_or_le (za.natAbs : Int) (zb.natAbs : Int) with k | k
    · rw [Int.emod_eq_of_lt (ab_nn za) k]; omega
    · omega
  rw [hxa] at hla
  have lenQ : ∀ b, (dig ((sgnd b ((za.natAbs : Int) / (zb.natAbs : Int))).natAbs : Int)).length ≤ 100000 := fun b => Nat.le_trans (sgnd_len Q0 Q1) hla
  have lenR : ∀ b, (dig ((sgnd b ((za.natAbs : Int) % (zb.natAbs : Int))).natAbs : Int)).length ≤ 100000 := fun b => Nat.le_trans (sgnd_len R0 R2) hla
  rw [← hxa] at hla
  have A := fun h => dmA_c hba hna hxa hla hbb hnb hxb hlb hlb0 lq lr vq vr (by omega) (by omega) R0 hdiv rfl rfl (lenQ _) (lenR _) h
  have B := fun h0 h => dmB_c hba hna hxa hla hbb hnb hxb hlb hlb0 lq lr vq vr (by omega) (by omega) h0 hdiv rfl rfl (lenQ _) (lenR _) h
  obtain ⟨ha, ka⟩ | ⟨ha, ka⟩ := sgn_cases hba
  all_goals obtain ⟨hb, kb⟩ | ⟨hb, kb⟩ := sgn_cases hbb
  all_goals rw [ha, hb] at A B ⊢
  · obtain ⟨f1, f2⟩ := fq_nn ka kb
    rw [f1, f2]
    rw [ab_neg ka, ab_neg kb] at A
    exact A (.inr rfl)
  · obtain ⟨f1, f2⟩ := fq_np ka (show 0 < zb by omega)
    rw [f1, f2]
    rw [ab_neg ka, ab_pos kb] at A B R0
    rcases Int.lt_or_le 0 (-za % zb) with k | k
    · rw [if_neg (by omega), if_neg (by omega)]
      have := B k (by simp)
      rw [show zb - -za % zb = -(-za % zb) + zb by omega]
      exact this
    · have e : -za % zb = 0 := by omega
      rw [if_pos e, if_pos e]
      have := A (.inl e)
      rw [e] at this
      exact this
  · obtain ⟨f1, f2⟩ := fq_pn ka kb
    rw [f1, f2]
    rw [ab_pos ka, ab_neg kb] at A B R0
    rcases Int.lt_or_le 0 (za % -zb) with k | k
    · rw [if_neg (by omega), if_neg (by omega)]
      exact B k (by simp)
    · have e : za % -zb = 0 := by omega
      rw [if_pos e, if_pos e]
      have := A (.inl e)
      rw [e] at this
      exact this
  · obtain ⟨f1, f2⟩ := fq_pp ka (show 0 < zb by omega)
    rw [f1, f2]
    rw [ab_pos ka, ab_pos kb] at A
    exact A (.inr rfl)
end Go.Proofs.YtfmebdmgnmogaaaGreatDoor
