/- Rational numbers: the basic functions. No statement of its own. -/
import Derived.Test.YtfmebdmgnmogaaaGreatDoorQQ2
set_option linter.unusedVariables false
set_option linter.unusedSimpArgs false
set_option linter.unusedSimpArgs false
set_option linter.unusedVariables false
set_option maxRecDepth 100000
set_option maxHeartbeats 8000000
namespace Go.Proofs.YtfmebdmgnmogaaaGreatDoor
open Go Go.RowKit Hv

theorem ty26 : tyT Tryz.prog 26 = some (true, 4) := by kernel_rfl
theorem fl26_0 : fdT Tryz.prog 26 0 = some (0, 2, true) := by kernel_rfl
theorem fl26_1 : fdT Tryz.prog 26 1 = some (2, 2, true) := by kernel_rfl
theorem fs26 : fsT Tryz.prog 26 = some [(0, 2), (2, 2)] := by kernel_rfl
theorem zero26 : zrT Tryz.prog 26 = some [.bool false, .slice none 0 0, .bool false, .slice none 0 0] := by kernel_rfl
attribute [push_cast] ty26 fl26_0 fl26_1 fs26 zero26
theorem aR_cells (p q : Int) : (aR p q).cellsOf = [.raw (.bool (decide (p < 0))), .sl (dig (p.natAbs : Int)).length false (ints .u32 (dig (p.natAbs : Int))), .raw (.bool (decide (q < 0))), .sl (dig (q.natAbs : Int)).length false (ints .u32 (dig (q.natAbs : Int)))] := rfl
attribute [push_cast] aR

theorem unit_w {w : Int} (h : 1 = w) : HCallsD Tryz.prog 81 [] [] (aI w) [] := by
  refine cp0 (rs := [.cell 0 24]) (nt := 2) Tryz.func81 (fun C hP hn => ?_)
  ((repeat' (first | refine gW ?_ | (refine gIf ?_ ?_ <;> (intro hc; try exact gX)) | with_reducible refine br_intro ?_ ?_ | (with_reducible intro _; try exact gX) | with_reducible refine ands_intro ?_ ?_ | refine cx (from64_w h (by omega) (by omega)) ?_)) <;> (try exact gF))
  exact rqq1 (rC ty24)
theorem runit_w {w : Int} (h : 1 = w) : HCallsD Tryz.prog 61 [] [] (aI w) [] := by
  refine cp0 (rs := [.cell 0 24]) (nt := 2) Tryz.func61 (fun C hP hn => ?_)
  ((repeat' (first | refine gW ?_ | (refine gIf ?_ ?_ <;> (intro hc; try exact gX)) | with_reducible refine br_intro ?_ ?_ | (with_reducible intro _; try exact gX) | with_reducible refine ands_intro ?_ ?_ | refine cx (rfrom64_w h (by omega) (by omega)) ?_)) <;> (try exact gF))
  exact rqq1 (rC ty24)
theorem exact_e {a b q : Int} (la : (dig (a.natAbs : Int)).length ≤ 100000) (lb : (dig (b.natAbs : Int)).length ≤ 100000) (hb : b ≠ 0) (hq : fq a b = q) : HCallsD Tryz.prog 116 [] [.agg [.raw (.bool (decide (a < 0))), .sl (dig (a.natAbs : Int)).length false (ints .u32 (dig (a.natAbs : Int)))], .agg [.raw (.bool (decide (b < 0))), .sl (dig (b.natAbs : Int)).length false (ints .u32 (dig (b.natAbs : Int)))]] (aI q) [] := by
  obtain ⟨r, hr⟩ : ∃ r, fr a b = r := ⟨_, rfl⟩
  refine cp2 (rs := [.cell 4 24]) (nt := 16) Tryz.func116 (fun C hP hn => ?_)
  ((repeat' (first | refine gW ?_ | (refine gIf ?_ ?_ <;> (intro hc; try exact gX)) | with_reducible refine br_intro ?_ ?_ | (with_reducible intro _; try exact gX) | with_reducible refine ands_intro ?_ ?_ | refine cx (divmod_e (za := a) (zb := b) (by rfl) (by rfl) (by rfl) (by omega) (by rfl) (by rfl) (by rfl) (by omega) hb hq hr) ?_)) <;> (try exact gF))
  exact rqq1 (rC ty24)
theorem cmp_p {z : Int} (h : 0 < z) : cmpI z 0 = 1 := by unfold cmpI; rw [if_neg (by omega), if_pos h]
theorem cmp_n {z : Int} (h : z < 0) : cmpI z 0 = -1 := by unfold cmpI; rw [if_pos h]
theorem cmp_0 : cmpI 0 0 = 0 := rfl
theorem cmp_e (z : Int) : cmpI z z = 0 := by unfold cmpI; rw [if_neg (by omega), if_neg (by omega)]
theorem cmp_g {a b : Int} (h : b < a) : cmpI a b = 1 := by unfold cmpI; rw [if_neg (by omega), if_pos h]
theorem cmp_l {a b : Int} (h : a < b) : cmpI a b = -1 := by unfold cmpI; rw [if_pos h]
theorem gI_le_r {p q : Int} (hq : 0 < q) : gI p q ≤ q := by
  unfold gI
  exact Int.le_of_dvd hq (Int.gcd_dvd_right p q)
theorem fq_one (a : Int) : fq a 1 = a := by rw [(fq_pp' (show (0 : Int) < 1 by omega)).1, Int.ediv_one]
/-- A fraction with a positive denominator, in lowest terms. -/
theorem reduce_p {p q g n d : Int} (hq : 0 < q) (hg : gI p q = g) (hnn : fq p g = n) (hd : fq q g = d) (lp : (dig (p.natAbs : Int)).length ≤ 100000) (lq : (dig (q.natAbs : Int)).length ≤ 100000) : HCallsD Tryz.prog 89 [] [.agg [.raw (.bool (decide (p < 0))), .sl (dig (p.natAbs : Int)).length false (ints .u32 (dig (p.natAbs : Int)))], .agg [.raw (.bool (decide (q < 0))), .sl (dig (q.natAbs : Int)).length false (ints .u32 (dig (q.natAbs : Int)))]] (aR n d) [] := by
  obtain ⟨one, h1⟩ : ∃ z : Int, 1 = z := ⟨_, rfl⟩
  have b3 : (dig (one.natAbs : Int)).length ≤ 3 := dig_len64 (by omega)
  have g0 : 0 < g := hg ▸ gI_pos (by omega)
  have g1 : g ≤ q := hg ▸ gI_le_r hq
  have lg : (dig (g.natAbs : Int)).length ≤ 100000 := Nat.le_trans (dig_le (by omega) (by omega)) lq
  rcases Int.lt_or_le 1 g with h | h
  · refine cp2 (rs := [.cell 4 26]) (nt := 29) Tryz.func89 (fun C hP hn => ?_)
    ((repeat' (first | refine gW ?_ | (refine gIf ?_ ?_ <;> (intro hc; try exact gX)) | with_reducible refine br_intro ?_ ?_ | (with_reducible intro _; try exact gX) | with_reducible refine ands_intro ?_ ?_ | refine cx (isign_e (za := q) (by rfl) (by rfl) (by rfl) (by omega) (cmp_p hq)) ?_ | refine cx (igcd_e (za := p) (zb := q) (by rfl) (by rfl) (by rfl) (by omega) (by rfl) (by rfl) (by rfl) (by omega) hg) ?_ | refine cx (unit_w h1) ?_ | refine cx (icmp_e (za := g) (zb := one) (by rfl) (by rfl) (by rfl) (by omega) (by rfl) (by rfl) (by rfl) (by omega) (cmp_g (by omega))) ?_ | refine cx (exact_e (a := p) (b := g) (by omega) (by omega) (by omega) hnn) ?_ | refine cx (exact_e (a := q) (b := g) (by omega) (by omega) (by omega) hd) ?_)) <;> (try exact gF))
    exact rqq1 (rC ty26)
  · have e1 : g = one := by omega
    have e2 : p = n := by rw [← hnn, e1, ← h1, fq_one]
    have e3 : q = d := by rw [← hd, e1, ← h1, fq_one]
    rw [← e2, ← e3]
    refine cp2 (rs := [.cell 4 26]) (nt := 29) Tryz.func89 (fun C hP hn => ?_)
    ((repeat' (first | refine gW ?_ | (refine gIf ?_ ?_ <;> (intro hc; try exact gX)) | with_reducible refine br_intro ?_ ?_ | (with_reducible intro _; try exact gX) | with_reducible refine ands_intro ?_ ?_ | refine cx (isign_e (za := q) (by rfl) (by rfl) (by rfl) (by omega) (cmp_p hq)) ?_ | refine cx (igcd_e (za := p) (zb := q) (by rfl) (by rfl) (by rfl) (by omega) (by rfl) (by rfl) (by rfl) (by omega) hg) ?_ | refine cx (unit_w h1) ?_ | refine cx (icmp_e (za := g) (zb := one) (by rfl) (by rfl) (by rfl) (by omega) (by rfl) (by rfl) (by rfl) (by omega) (r := 0) (by rw [e1]; exact cmp_e _)) ?_)) <;> (try exact gF))
    exact rqq1 (rC ty26)
theorem reduce_n {p q p' q' g n d : Int} (hq : q < 0) (hp' : -p = p') (hq' : -q = q') (hg : gI p' q' = g) (hnn : fq p' g = n) (hd : fq q' g = d) (lp : (dig (p.natAbs : Int)).length ≤ 100000) (lq : (dig (q.natAbs : Int)).length ≤ 100000) : HCallsD Tryz.prog 89 [] [.agg [.raw (.bool (decide (p < 0))), .sl (dig (p.natAbs : Int)).length false (ints .u32 (dig (p.natAbs : Int)))], .agg [.raw (.bool (decide (q < 0))), .sl (dig (q.natAbs : Int)).length false (ints .u32 (dig (q.natAbs : Int)))]] (aR n d) [] := by
  obtain ⟨one, h1⟩ : ∃ z : Int, 1 = z := ⟨_, rfl⟩
  have b3 : (dig (one.natAbs : Int)).length ≤ 3 := dig_len64 (by omega)
  have g0 : 0 < g := hg ▸ gI_pos (by omega)
  have g1 : g ≤ q' := hg ▸ gI_le_r (by omega)
  have lp' : (dig (p'.natAbs : Int)).length ≤ 100000 := by rw [← hp', Int.natAbs_neg]; exact lp
  have lq' : (dig (q'.natAbs : Int)).length ≤ 100000 := by rw [← hq', Int.natAbs_neg]; exact lq
  have lg : (dig (g.natAbs : Int)).length ≤ 100000 := Nat.le_trans (dig_le (by omega) (by omega)) lq'
  rcases Int.lt_or_le 1 g with h | h
  · refine cp2 (rs := [.cell 4 26]) (nt := 29) Tryz.func89 (fun C hP hn => ?_)
    ((repeat' (first | refine gW ?_ | (refine gIf ?_ ?_ <;> (intro hc; try exact gX)) | with_reducible refine br_intro ?_ ?_ | (with_reducible intro _; try exact gX) | with_reducible refine ands_intro ?_ ?_ | refine cx (isign_e (za := q) (by rfl) (by rfl) (by rfl) (by omega) (cmp_n hq)) ?_ | refine cx (ineg_e (za := p) (by rfl) (by rfl) (by rfl) (by omega) hp') ?_ | refine cx (ineg_e (za := q) (by rfl) (by rfl) (by rfl) (by omega) hq') ?_ | refine cx (igcd_e (za := p') (zb := q') (by rfl) (by rfl) (by rfl) (by omega) (by rfl) (by rfl) (by rfl) (by omega) hg) ?_ | refine cx (unit_w h1) ?_ | refine cx (icmp_e (za := g) (zb := one) (by rfl) (by rfl) (by rfl) (by omega) (by rfl) (by rfl) (by rfl) (by omega) (cmp_g (by omega))) ?_ | refine cx (exact_e (a := p') (b := g) (by omega) (by omega) (by omega) hnn) ?_ | refine cx (exact_e (a := q') (b := g) (by omega) (by omega) (by omega) hd) ?_)) <;> (try exact gF))
    exact rqq1 (rC ty26)
  · have e1 : g = one := by omega
    have e2 : p' = n := by rw [← hnn, e1, ← h1, fq_one]
    have e3 : q' = d := by rw [← hd, e1, ← h1, fq_one]
    rw [← e2, ← e3]
    refine cp2 (rs := [.cell 4 26]) (nt := 29) Tryz.func89 (fun C hP hn => ?_)
    ((repeat' (first | refine gW ?_ | (refine gIf ?_ ?_ <;> (intro hc; try exact gX)) | with_reducible refine br_intro ?_ ?_ | (with_reducible intro _; try exact gX) | with_reducible refine ands_intro ?_ ?_ | refine cx (isign_e (za := q) (by rfl) (by rfl) (by rfl) (by omega) (cmp_n hq)) ?_ | refine cx (ineg_e (za := p) (by rfl) (by rfl) (by rfl) (by omega) hp') ?_ | refine cx (ineg_e (za := q) (by rfl) (by rfl) (by rfl) (by omega) hq') ?_ | refine cx (igcd_e (za := p') (zb := q') (by rfl) (by rfl) (by rfl) (by omega) (by rfl) (by rfl) (by rfl) (by omega) hg) ?_ | refine cx (unit_w h1) ?_ | refine cx (icmp_e (za := g) (zb := one) (by rfl) (by rfl) (by rfl) (by omega) (by rfl) (by rfl) (by rfl) (by omega) (r := 0) (by rw [e1]; exact cmp_e _)) ?_)) <;> (try exact gF))
    exact rqq1 (rC ty26)
theorem of_p {p q g n d : Int} (hq : 0 < q) (hg : gI p q = g) (hnn : fq p g = n) (hd : fq q g = d) (lp : (dig (p.natAbs : Int)).length ≤ 90000) (lq : (dig (q.natAbs : Int)).length ≤ 90000) : HCallsD Tryz.prog 34 [] [.agg [.raw (.bool (decide (p < 0))), .sl (dig (p.natAbs : Int)).length false (ints .u32 (dig (p.natAbs : Int)))], .agg [.raw (.bool (decide (q < 0))), .sl (dig (q.natAbs : Int)).length false (ints .u32 (dig (q.natAbs : Int)))]] (aR n d) [] := by
  have g0 : 0 < g := hg ▸ gI_pos (by omega)
  have g1 : g ≤ q := hg ▸ gI_le_r hq
  have lg : (dig (g.natAbs : Int)).length ≤ 90000 := Nat.le_trans (dig_le (by omega) (by omega)) lq
  obtain ⟨r1, hr1⟩ : ∃ r, fr p g = r := ⟨_, rfl⟩
  obtain ⟨r2, hr2⟩ : ∃ r, fr q g = r := ⟨_, rfl⟩
  refine cp2 (rs := [.cell 4 26]) (nt := 39) Tryz.func34 (fun C hP hn => ?_)
  ((repeat' (first | refine gW ?_ | (refine gIf ?_ ?_ <;> (intro hc; try exact gX)) | with_reducible refine br_intro ?_ ?_ | (with_reducible intro _; try exact gX) | with_reducible refine ands_intro ?_ ?_ | refine cx (rsign_e (za := q) (by rfl) (by rfl) (by rfl) (by omega) (cmp_p hq)) ?_ | refine cx (rgcd_e (za := p) (zb := q) (by rfl) (by rfl) (by rfl) (by omega) (by rfl) (by rfl) (by rfl) (by omega) hg) ?_ | refine cx (rdivmod_e (za := p) (zb := g) (by rfl) (by rfl) (by rfl) (by omega) (by rfl) (by rfl) (by rfl) (by omega) (by omega) (by omega) (by omega) hnn hr1) ?_ | refine cx (rdivmod_e (za := q) (zb := g) (by rfl) (by rfl) (by rfl) (by omega) (by rfl) (by rfl) (by rfl) (by omega) (by omega) (by omega) (by omega) hd hr2) ?_)) <;> (try exact gF))
  exact rqq1 (rC ty26)
theorem of_n {p q p' q' g n d : Int} (hq : q < 0) (hp' : -p = p') (hq' : -q = q') (hg : gI p' q' = g) (hnn : fq p' g = n) (hd : fq q' g = d) (lp : (dig (p.natAbs : Int)).length ≤ 90000) (lq : (dig (q.natAbs : Int)).length ≤ 90000) : HCallsD Tryz.prog 34 [] [.agg [.raw (.bool (decide (p < 0))), .sl (dig (p.natAbs : Int)).length false (ints .u32 (dig (p.natAbs : Int)))], .agg [.raw (.bool (decide (q < 0))), .sl (dig (q.natAbs : Int)).length false (ints .u32 (dig (q.natAbs : Int)))]] (aR n d) [] := by
  have g0 : 0 < g := hg ▸ gI_pos (by omega)
  have g1 : g ≤ q' := hg ▸ gI_le_r (by omega)
  have lp' : (dig (p'.natAbs : Int)).length ≤ 90000 := by rw [← hp', Int.natAbs_neg]; exact lp
  have lq' : (dig (q'.natAbs : Int)).length ≤ 90000 := by rw [← hq', Int.natAbs_neg]; exact lq
  have lg : (dig (g.natAbs : Int)).length ≤ 90000 := Nat.le_trans (dig_le (by omega) (by omega)) lq'
  obtain ⟨r1, hr1⟩ : ∃ r, fr p' g = r := ⟨_, rfl⟩
  obtain ⟨r2, hr2⟩ : ∃ r, fr q' g = r := ⟨_, rfl⟩
  refine cp2 (rs := [.cell 4 26]) (nt := 39) Tryz.func34 (fun C hP hn => ?_)
  ((repeat' (first | refine gW ?_ | (refine gIf ?_ ?_ <;> (intro hc; try exact gX)) | with_reducible refine br_intro ?_ ?_ | (with_reducible intro _; try exact gX) | with_reducible refine ands_intro ?_ ?_ | refine cx (rsign_e (za := q) (by rfl) (by rfl) (by rfl) (by omega) (cmp_n hq)) ?_ | refine cx (rneg_e (za := p) (by rfl) (by rfl) (by rfl) (by omega) hp') ?_ | refine cx (rneg_e (za := q) (by rfl) (by rfl) (by rfl) (by omega) hq') ?_ | refine cx (rgcd_e (za := p') (zb := q') (by rfl) (by rfl) (by rfl) (by omega) (by rfl) (by rfl) (by rfl) (by omega) hg) ?_ | refine cx (rdivmod_e (za := p') (zb := g) (by rfl) (by rfl) (by rfl) (by omega) (by rfl) (by rfl) (by rfl) (by omega) (by omega) (by omega) (by omega) hnn hr1) ?_ | refine cx (rdivmod_e (za := q') (zb := g) (by rfl) (by rfl) (by rfl) (by omega) (by rfl) (by rfl) (by rfl) (by omega) (by omega) (by omega) (by omega) hd hr2) ?_)) <;> (try exact gF))
  exact rqq1 (rC ty26)
theorem reduce_c {p q n d : Int} (hq : q ≠ 0) (hr : IsR n d (Rat.divInt p q)) (l : RL p q 90000) : HCallsD Tryz.prog 89 [] [.agg [.raw (.bool (decide (p < 0))), .sl (dig (p.natAbs : Int)).length false (ints .u32 (dig (p.natAbs : Int)))], .agg [.raw (.bool (decide (q < 0))), .sl (dig (q.natAbs : Int)).length false (ints .u32 (dig (q.natAbs : Int)))]] (aR n d) [] := by
  have hnn := red_num (p := p) hq
  have hd := red_den (p := p) hq
  rw [← hr.1] at hnn
  rw [← hr.2] at hd
  rcases Int.lt_or_le q 0 with h | h
  · rw [if_pos h] at hnn hd
    refine reduce_n h rfl rfl ?_ hnn hd (Nat.le_trans l.1 (by omega)) (Nat.le_trans l.2 (by omega))
    unfold gI
    rw [Int.gcd_neg, Int.neg_gcd]
  · rw [if_neg (by omega)] at hnn hd
    exact reduce_p (by omega) rfl hnn hd (Nat.le_trans l.1 (by omega)) (Nat.le_trans l.2 (by omega))
theorem of_c {p q n d : Int} (hq : q ≠ 0) (hr : IsR n d (Rat.divInt p q)) (l : RL p q 90000) : HCallsD Tryz.prog 34 [] [.agg [.raw (.bool (decide (p < 0))), .sl (dig (p.natAbs : Int)).length false (ints .u32 (dig (p.natAbs : Int)))], .agg [.raw (.bool (decide (q < 0))), .sl (dig (q.natAbs : Int)).length false (ints .u32 (dig (q.natAbs : Int)))]] (aR n d) [] := by
  have hnn := red_num (p := p) hq
  have hd := red_den (p := p) hq
  rw [← hr.1] at hnn
  rw [← hr.2] at hd
  rcases Int.lt_or_le q 0 with h | h
  · rw [if_pos h] at hnn hd
    refine of_n h rfl rfl ?_ hnn hd (Nat.le_trans l.1 (by omega)) (Nat.le_trans l.2 (by omega))
    unfold gI
    rw [Int.gcd_neg, Int.neg_gcd]
  · rw [if_neg (by omega)] at hnn hd
    exact of_p (by omega) rfl hnn hd (Nat.le_trans l.1 (by omega)) (Nat.le_trans l.2 (by omega))
end Go.Proofs.YtfmebdmgnmogaaaGreatDoor
