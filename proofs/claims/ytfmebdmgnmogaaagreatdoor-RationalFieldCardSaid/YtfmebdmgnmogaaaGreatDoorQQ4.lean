/- Rational numbers: sums, products, quotients, order. No statement of its own. -/
import Derived.Test.YtfmebdmgnmogaaaGreatDoorQQ3
set_option linter.unusedVariables false
set_option linter.unusedSimpArgs false
set_option linter.unusedSimpArgs false
set_option linter.unusedVariables false
set_option maxRecDepth 100000
set_option maxHeartbeats 8000000
namespace Go.Proofs.YtfmebdmgnmogaaaGreatDoor
open Go Go.RowKit Hv

theorem one_len {one : Int} (h : 1 = one) : (dig (one.natAbs : Int)).length ≤ 3 := dig_len64 (by omega)
theorem whole_c {z w : Int} (h : 1 = w) : HCallsD Tryz.prog 79 [] [.agg [.raw (.bool (decide (z < 0))), .sl (dig (z.natAbs : Int)).length false (ints .u32 (dig (z.natAbs : Int)))]] (aR z w) [] := by
  refine cp1 (rs := [.cell 2 26]) (nt := 6) Tryz.func79 (fun C hP hn => ?_)
  ((repeat' (first | refine gW ?_ | (refine gIf ?_ ?_ <;> (intro hc; try exact gX)) | with_reducible refine br_intro ?_ ?_ | (with_reducible intro _; try exact gX) | with_reducible refine ands_intro ?_ ?_ | refine cx (unit_w h) ?_)) <;> (try exact gF))
  exact rqq1 (rC ty26)
theorem rfromint_c {z w : Int} (h : 1 = w) : HCallsD Tryz.prog 17 [] [.agg [.raw (.bool (decide (z < 0))), .sl (dig (z.natAbs : Int)).length false (ints .u32 (dig (z.natAbs : Int)))]] (aR z w) [] := by
  refine cp1 (rs := [.cell 2 26]) (nt := 6) Tryz.func17 (fun C hP hn => ?_)
  ((repeat' (first | refine gW ?_ | (refine gIf ?_ ?_ <;> (intro hc; try exact gX)) | with_reducible refine br_intro ?_ ?_ | (with_reducible intro _; try exact gX) | with_reducible refine ands_intro ?_ ?_ | refine cx (runit_w h) ?_)) <;> (try exact gF))
  exact rqq1 (rC ty26)
theorem xfrom_c {n z w : Int} (h0 : -9223372036854775808 ≤ n) (h1 : n ≤ 9223372036854775807) (hz : n = z) (h : 1 = w) : HCallsD Tryz.prog 47 [] [.raw (.int .i64 n)] (aR z w) [] := by
  refine cp1 (rs := [.cell 2 26]) (nt := 6) Tryz.func47 (fun C hP hn => ?_)
  ((repeat' (first | refine gW ?_ | (refine gIf ?_ ?_ <;> (intro hc; try exact gX)) | with_reducible refine br_intro ?_ ?_ | (with_reducible intro _; try exact gX) | with_reducible refine ands_intro ?_ ?_ | refine cx (from64_w hz h0 h1) ?_ | refine cx (whole_c (z := z) h) ?_)) <;> (try exact gF))
  exact rqq1 (rC ty26)
theorem rxfrom_c {n z w : Int} (h0 : -9223372036854775808 ≤ n) (h1 : n ≤ 9223372036854775807) (hz : n = z) (h : 1 = w) : HCallsD Tryz.prog 20 [] [.raw (.int .i64 n)] (aR z w) [] := by
  refine cp1 (rs := [.cell 2 26]) (nt := 7) Tryz.func20 (fun C hP hn => ?_)
  ((repeat' (first | refine gW ?_ | (refine gIf ?_ ?_ <;> (intro hc; try exact gX)) | with_reducible refine br_intro ?_ ?_ | (with_reducible intro _; try exact gX) | with_reducible refine ands_intro ?_ ?_ | refine cx (rfrom64_w hz h0 h1) ?_ | refine cx (runit_w h) ?_)) <;> (try exact gF))
  exact rqq1 (rC ty26)
theorem cmp_zero {z : Int} (h : cmpI z 0 = 0) : z = 0 := by
  unfold cmpI at h; split at h
  · omega
  · split at h <;> omega
theorem cmp_ne {a b : Int} (h : a ≠ b) : cmpI a b ≠ 0 := by unfold cmpI; split <;> (try split) <;> omega
theorem cmp_rng (a b : Int) : -1 ≤ cmpI a b ∧ cmpI a b ≤ 1 := by unfold cmpI; split <;> (try split) <;> omega
theorem make_c {p q n d : Int} (hq : q ≠ 0) (hr : IsR n d (Rat.divInt p q)) (l : RL p q 90000) : HCallsD Tryz.prog 45 [] [.agg [.raw (.bool (decide (p < 0))), .sl (dig (p.natAbs : Int)).length false (ints .u32 (dig (p.natAbs : Int)))], .agg [.raw (.bool (decide (q < 0))), .sl (dig (q.natAbs : Int)).length false (ints .u32 (dig (q.natAbs : Int)))]] (.tup [aR n d, .raw (.int .i64 0)]) [] := by
  obtain ⟨l1, l2⟩ := l
  obtain ⟨c, hcc⟩ : ∃ c, cmpI q 0 = c := ⟨_, rfl⟩
  have hcn : c ≠ 0 := hcc ▸ cmp_ne hq
  refine cp2 (rs := [.cell 4 26, .tmp 5]) (nt := 13) Tryz.func45 (fun C hP hn => ?_)
  ((repeat' (first | refine gW ?_ | (refine gIf ?_ ?_ <;> (intro hc; try exact gX)) | with_reducible refine br_intro ?_ ?_ | (with_reducible intro _; try exact gX) | with_reducible refine ands_intro ?_ ?_ | refine cx (isign_e (za := q) (by rfl) (by rfl) (by rfl) (by omega) hcc) ?_ | refine cx (reduce_c (p := p) (q := q) hq hr ⟨l1, l2⟩) ?_)) <;> (try exact gF))
  exact rqq2 (rC ty26) rT
theorem make_0 {p q : Int} (hq : q = 0) (l : RL p q 90000) : HCallsD Tryz.prog 45 [] [.agg [.raw (.bool (decide (p < 0))), .sl (dig (p.natAbs : Int)).length false (ints .u32 (dig (p.natAbs : Int)))], .agg [.raw (.bool (decide (q < 0))), .sl (dig (q.natAbs : Int)).length false (ints .u32 (dig (q.natAbs : Int)))]] (.tup [aR 0 0, .raw (.int .i64 6)]) [] := by
  obtain ⟨l1, l2⟩ := l
  have hcc : cmpI q 0 = 0 := by rw [hq]; rfl
  refine cp2 (rs := [.cell 4 26, .tmp 5]) (nt := 13) Tryz.func45 (fun C hP hn => ?_)
  ((repeat' (first | refine gW ?_ | (refine gIf ?_ ?_ <;> (intro hc; try exact gX)) | with_reducible refine br_intro ?_ ?_ | (with_reducible intro _; try exact gX) | with_reducible refine ands_intro ?_ ?_ | refine cx (isign_e (za := q) (by rfl) (by rfl) (by rfl) (by omega) hcc) ?_)) <;> (try exact gF))
  exact rqq2 (rC ty26) rT
theorem rmake_c {p q n d : Int} (hq : q ≠ 0) (hr : IsR n d (Rat.divInt p q)) (l : RL p q 90000) : HCallsD Tryz.prog 46 [] [.agg [.raw (.bool (decide (p < 0))), .sl (dig (p.natAbs : Int)).length false (ints .u32 (dig (p.natAbs : Int)))], .agg [.raw (.bool (decide (q < 0))), .sl (dig (q.natAbs : Int)).length false (ints .u32 (dig (q.natAbs : Int)))]] (.tup [aR n d, .raw (.int .i64 0)]) [] := by
  obtain ⟨l1, l2⟩ := l
  obtain ⟨c, hcc⟩ : ∃ c, cmpI q 0 = c := ⟨_, rfl⟩
  have hcn : c ≠ 0 := hcc ▸ cmp_ne hq
  refine cp2 (rs := [.cell 4 26, .tmp 5]) (nt := 13) Tryz.func46 (fun C hP hn => ?_)
  ((repeat' (first | refine gW ?_ | (refine gIf ?_ ?_ <;> (intro hc; try exact gX)) | with_reducible refine br_intro ?_ ?_ | (with_reducible intro _; try exact gX) | with_reducible refine ands_intro ?_ ?_ | refine cx (rsign_e (za := q) (by rfl) (by rfl) (by rfl) (by omega) hcc) ?_ | refine cx (of_c (p := p) (q := q) hq hr ⟨l1, l2⟩) ?_)) <;> (try exact gF))
  exact rqq2 (rC ty26) rT
theorem rmake_0 {p q : Int} (hq : q = 0) (l : RL p q 90000) : HCallsD Tryz.prog 46 [] [.agg [.raw (.bool (decide (p < 0))), .sl (dig (p.natAbs : Int)).length false (ints .u32 (dig (p.natAbs : Int)))], .agg [.raw (.bool (decide (q < 0))), .sl (dig (q.natAbs : Int)).length false (ints .u32 (dig (q.natAbs : Int)))]] (.tup [aR 0 0, .raw (.int .i64 6)]) [] := by
  obtain ⟨l1, l2⟩ := l
  have hcc : cmpI q 0 = 0 := by rw [hq]; rfl
  refine cp2 (rs := [.cell 4 26, .tmp 5]) (nt := 13) Tryz.func46 (fun C hP hn => ?_)
  ((repeat' (first | refine gW ?_ | (refine gIf ?_ ?_ <;> (intro hc; try exact gX)) | with_reducible refine br_intro ?_ ?_ | (with_reducible intro _; try exact gX) | with_reducible refine ands_intro ?_ ?_ | refine cx (rsign_e (za := q) (by rfl) (by rfl) (by rfl) (by omega) hcc) ?_)) <;> (try exact gF))
  exact rqq2 (rC ty26) rT
theorem frac_c {p q z w n d : Int} (hp0 : -9223372036854775808 ≤ p) (hp1 : p ≤ 9223372036854775807) (hq0 : -9223372036854775808 ≤ q) (hq1 : q ≤ 9223372036854775807) (hz : p = z) (hw : q = w) (hq : w ≠ 0) (hr : IsR n d (Rat.divInt z w)) : HCallsD Tryz.prog 48 [] [.raw (.int .i64 p), .raw (.int .i64 q)] (aR n d) [] := by
  have l1 : (dig (z.natAbs : Int)).length ≤ 3 := dig_len64 (by omega)
  have l2 : (dig (w.natAbs : Int)).length ≤ 3 := dig_len64 (by omega)
  refine cp2 (rs := [.cell 4 26]) (nt := 13) Tryz.func48 (fun C hP hn => ?_)
  ((repeat' (first | refine gW ?_ | (refine gIf ?_ ?_ <;> (intro hc; try exact gX)) | with_reducible refine br_intro ?_ ?_ | (with_reducible intro _; try exact gX) | with_reducible refine ands_intro ?_ ?_ | refine cx (from64_w hz hp0 hp1) ?_ | refine cx (from64_w hw hq0 hq1) ?_ | refine cx (reduce_c (p := z) (q := w) hq hr ⟨by omega, by omega⟩) ?_)) <;> (try exact gF))
  exact rqq1 (rC ty26)
theorem rfrac_c {p q z w n d : Int} (hp0 : -9223372036854775808 ≤ p) (hp1 : p ≤ 9223372036854775807) (hq0 : -9223372036854775808 ≤ q) (hq1 : q ≤ 9223372036854775807) (hz : p = z) (hw : q = w) (hq : w ≠ 0) (hr : IsR n d (Rat.divInt z w)) : HCallsD Tryz.prog 49 [] [.raw (.int .i64 p), .raw (.int .i64 q)] (aR n d) [] := by
  have l1 : (dig (z.natAbs : Int)).length ≤ 3 := dig_len64 (by omega)
  have l2 : (dig (w.natAbs : Int)).length ≤ 3 := dig_len64 (by omega)
  refine cp2 (rs := [.cell 4 26]) (nt := 12) Tryz.func49 (fun C hP hn => ?_)
  ((repeat' (first | refine gW ?_ | (refine gIf ?_ ?_ <;> (intro hc; try exact gX)) | with_reducible refine br_intro ?_ ?_ | (with_reducible intro _; try exact gX) | with_reducible refine ands_intro ?_ ?_ | refine cx (rfrom64_w hz hp0 hp1) ?_ | refine cx (rfrom64_w hw hq0 hq1) ?_ | refine cx (of_c (p := z) (q := w) hq hr ⟨by omega, by omega⟩) ?_)) <;> (try exact gF))
  exact rqq1 (rC ty26)
theorem frac_0 {p z w : Int} (hz : 0 = z) (hw : 1 = w) : HCallsD Tryz.prog 48 [] [.raw (.int .i64 p), .raw (.int .i64 0)] (aR z w) [] := by
  refine cp2 (rs := [.cell 4 26]) (nt := 13) Tryz.func48 (fun C hP hn => ?_)
  ((repeat' (first | refine gW ?_ | (refine gIf ?_ ?_ <;> (intro hc; try exact gX)) | with_reducible refine br_intro ?_ ?_ | (with_reducible intro _; try exact gX) | with_reducible refine ands_intro ?_ ?_ | refine cx (xfrom_c (by omega) (by omega) hz hw) ?_)) <;> (try exact gF))
  exact rqq1 (rC ty26)
theorem rfrac_0 {p z w n d : Int} (hz : 0 = z) (hw : 1 = w) (hr : IsR n d (Rat.divInt z w)) : HCallsD Tryz.prog 49 [] [.raw (.int .i64 p), .raw (.int .i64 0)] (aR n d) [] := by
  have l1 : (dig (z.natAbs : Int)).length ≤ 3 := dig_len64 (by omega)
  have l2 : (dig (w.natAbs : Int)).length ≤ 3 := dig_len64 (by omega)
  refine cp2 (rs := [.cell 4 26]) (nt := 12) Tryz.func49 (fun C hP hn => ?_)
  ((repeat' (first | refine gW ?_ | (refine gIf ?_ ?_ <;> (intro hc; try exact gX)) | with_reducible refine br_intro ?_ ?_ | (with_reducible intro _; try exact gX) | with_reducible refine ands_intro ?_ ?_ | refine cx (rfrom64_w hz (by omega) (by omega)) ?_ | refine cx (rfrom64_w hw (by omega) (by omega)) ?_ | refine cx (of_c (p := z) (q := w) (by omega) hr ⟨by omega, by omega⟩) ?_)) <;> (try exact gF))
  exact rqq1 (rC ty26)
theorem xsign_c {p q c : Int} (l : RL p q 90000) (hcc : cmpI p 0 = c) : HCallsD Tryz.prog 41 [] [.agg [.raw (.bool (decide (p < 0))), .sl (dig (p.natAbs : Int)).length false (ints .u32 (dig (p.natAbs : Int))), .raw (.bool (decide (q < 0))), .sl (dig (q.natAbs : Int)).length false (ints .u32 (dig (q.natAbs : Int)))]] (.raw (.int .i64 c)) [] := by
  obtain ⟨l1, l2⟩ := l
  refine cp1 (rs := [.tmp 2]) (nt := 6) Tryz.func41 (fun C hP hn => ?_)
  ((repeat' (first | refine gW ?_ | (refine gIf ?_ ?_ <;> (intro hc; try exact gX)) | with_reducible refine br_intro ?_ ?_ | (with_reducible intro _; try exact gX) | with_reducible refine ands_intro ?_ ?_ | refine cx (isign_e (za := p) (by rfl) (by rfl) (by rfl) (by omega) hcc) ?_)) <;> (try exact gF))
  exact rqq1 rT
theorem rxsign_c {p q c : Int} (l : RL p q 90000) (hcc : cmpI p 0 = c) : HCallsD Tryz.prog 18 [] [.agg [.raw (.bool (decide (p < 0))), .sl (dig (p.natAbs : Int)).length false (ints .u32 (dig (p.natAbs : Int))), .raw (.bool (decide (q < 0))), .sl (dig (q.natAbs : Int)).length false (ints .u32 (dig (q.natAbs : Int)))]] (.raw (.int .i64 c)) [] := by
  obtain ⟨l1, l2⟩ := l
  refine cp1 (rs := [.tmp 2]) (nt := 6) Tryz.func18 (fun C hP hn => ?_)
  ((repeat' (first | refine gW ?_ | (refine gIf ?_ ?_ <;> (intro hc; try exact gX)) | with_reducible refine br_intro ?_ ?_ | (with_reducible intro _; try exact gX) | with_reducible refine ands_intro ?_ ?_ | refine cx (rsign_e (za := p) (by rfl) (by rfl) (by rfl) (by omega) hcc) ?_)) <;> (try exact gF))
  exact rqq1 rT
theorem xneg_c {p q z : Int} (l : RL p q 90000) (hz : -p = z) : HCallsD Tryz.prog 54 [] [.agg [.raw (.bool (decide (p < 0))), .sl (dig (p.natAbs : Int)).length false (ints .u32 (dig (p.natAbs : Int))), .raw (.bool (decide (q < 0))), .sl (dig (q.natAbs : Int)).length false (ints .u32 (dig (q.natAbs : Int)))]] (aR z q) [] := by
  obtain ⟨l1, l2⟩ := l
  refine cp1 (rs := [.cell 2 26]) (nt := 9) Tryz.func54 (fun C hP hn => ?_)
  ((repeat' (first | refine gW ?_ | (refine gIf ?_ ?_ <;> (intro hc; try exact gX)) | with_reducible refine br_intro ?_ ?_ | (with_reducible intro _; try exact gX) | with_reducible refine ands_intro ?_ ?_ | refine cx (ineg_e (za := p) (by rfl) (by rfl) (by rfl) (by omega) hz) ?_)) <;> (try exact gF))
  exact rqq1 (rC ty26)
theorem rxneg_c {p q z : Int} (l : RL p q 90000) (hz : -p = z) : HCallsD Tryz.prog 26 [] [.agg [.raw (.bool (decide (p < 0))), .sl (dig (p.natAbs : Int)).length false (ints .u32 (dig (p.natAbs : Int))), .raw (.bool (decide (q < 0))), .sl (dig (q.natAbs : Int)).length false (ints .u32 (dig (q.natAbs : Int)))]] (aR z q) [] := by
  obtain ⟨l1, l2⟩ := l
  refine cp1 (rs := [.cell 2 26]) (nt := 9) Tryz.func26 (fun C hP hn => ?_)
  ((repeat' (first | refine gW ?_ | (refine gIf ?_ ?_ <;> (intro hc; try exact gX)) | with_reducible refine br_intro ?_ ?_ | (with_reducible intro _; try exact gX) | with_reducible refine ands_intro ?_ ?_ | refine cx (rneg_e (za := p) (by rfl) (by rfl) (by rfl) (by omega) hz) ?_)) <;> (try exact gF))
  exact rqq1 (rC ty26)
theorem xadd_c {pa qa pb qb pc qc : Int} {a b : Rat} (ha : IsR pa qa a) (hb : IsR pb qb b) (hr : IsR pc qc (a + b)) (la : RL pa qa 30000) (lb : RL pb qb 30000) : HCallsD Tryz.prog 42 [] [.agg [.raw (.bool (decide (pa < 0))), .sl (dig (pa.natAbs : Int)).length false (ints .u32 (dig (pa.natAbs : Int))), .raw (.bool (decide (qa < 0))), .sl (dig (qa.natAbs : Int)).length false (ints .u32 (dig (qa.natAbs : Int)))], .agg [.raw (.bool (decide (pb < 0))), .sl (dig (pb.natAbs : Int)).length false (ints .u32 (dig (pb.natAbs : Int))), .raw (.bool (decide (qb < 0))), .sl (dig (qb.natAbs : Int)).length false (ints .u32 (dig (qb.natAbs : Int)))]] (aR pc qc) [] := by
  obtain ⟨la1, la2⟩ := la
  obtain ⟨lb1, lb2⟩ := lb
  have pa0 := ha.pos
  have pb0 := hb.pos
  rcases Decidable.em (qa = qb) with e | e
  · subst e
    obtain ⟨s, hs⟩ : ∃ s, pa + pb = s := ⟨_, rfl⟩
    have ls : (dig (s.natAbs : Int)).length ≤ 30001 := hs ▸ len_add la1 lb1
    rw [ha.add_same hb, hs] at hr
    refine cp2 (rs := [.cell 4 26]) (nt := 36) Tryz.func42 (fun C hP hn => ?_)
    ((repeat' (first | refine gW ?_ | (refine gIf ?_ ?_ <;> (intro hc; try exact gX)) | with_reducible refine br_intro ?_ ?_ | (with_reducible intro _; try exact gX) | with_reducible refine ands_intro ?_ ?_ | refine cx (icmp_e (za := qa) (zb := qa) (by rfl) (by rfl) (by rfl) (by omega) (by rfl) (by rfl) (by rfl) (by omega) (cmp_e qa)) ?_ | refine cx (iadd_e (za := pa) (zb := pb) (by rfl) (by rfl) (by rfl) (by omega) (by rfl) (by rfl) (by rfl) (by omega) hs) ?_ | refine cx (reduce_c (p := s) (q := qa) (by omega) hr ⟨by omega, by omega⟩) ?_)) <;> (try exact gF))
    exact rqq1 (rC ty26)
  · obtain ⟨c, hcc⟩ : ∃ c, cmpI qa qb = c := ⟨_, rfl⟩
    have hcn : c ≠ 0 := hcc ▸ cmp_ne e
    obtain ⟨m1, h1⟩ : ∃ s, pa * qb = s := ⟨_, rfl⟩
    obtain ⟨m2, h2⟩ : ∃ s, pb * qa = s := ⟨_, rfl⟩
    obtain ⟨s, hs⟩ : ∃ s, m1 + m2 = s := ⟨_, rfl⟩
    obtain ⟨m3, h3⟩ : ∃ s, qa * qb = s := ⟨_, rfl⟩
    have l1 := len_mul (x := pa) (y := qb)
    have l2 := len_mul (x := pb) (y := qa)
    have l3 := len_mul (x := qa) (y := qb)
    rw [h1] at l1
    rw [h2] at l2
    rw [h3] at l3
    have ls : (dig (s.natAbs : Int)).length ≤ 60001 := hs ▸ len_add (n := 60000) (by omega) (by omega)
    have h30 : m3 ≠ 0 := h3 ▸ qmul_ne pa0 pb0
    rw [ha.add hb, h1, h2, hs, h3] at hr
    refine cp2 (rs := [.cell 4 26]) (nt := 36) Tryz.func42 (fun C hP hn => ?_)
    ((repeat' (first | refine gW ?_ | (refine gIf ?_ ?_ <;> (intro hc; try exact gX)) | with_reducible refine br_intro ?_ ?_ | (with_reducible intro _; try exact gX) | with_reducible refine ands_intro ?_ ?_ | refine cx (icmp_e (za := qa) (zb := qb) (by rfl) (by rfl) (by rfl) (by omega) (by rfl) (by rfl) (by rfl) (by omega) hcc) ?_ | refine cx (imul_e (za := pa) (zb := qb) (by rfl) (by rfl) (by rfl) (by omega) (by rfl) (by rfl) (by rfl) (by omega) h1) ?_ | refine cx (imul_e (za := pb) (zb := qa) (by rfl) (by rfl) (by rfl) (by omega) (by rfl) (by rfl) (by rfl) (by omega) h2) ?_ | refine cx (imul_e (za := qa) (zb := qb) (by rfl) (by rfl) (by rfl) (by omega) (by rfl) (by rfl) (by rfl) (by omega) h3) ?_ | refine cx (iadd_e (za := m1) (zb := m2) (by rfl) (by rfl) (by rfl) (by omega) (by rfl) (by rfl) (by rfl) (by omega) hs) ?_ | refine cx (reduce_c (p := s) (q := m3) h30 hr ⟨by omega, by omega⟩) ?_)) <;> (try exact gF))
    exact rqq1 (rC ty26)
theorem rxadd_c {pa qa pb qb pc qc : Int} {a b : Rat} (ha : IsR pa qa a) (hb : IsR pb qb b) (hr : IsR pc qc (a + b)) (la : RL pa qa 30000) (lb : RL pb qb 30000) : HCallsD Tryz.prog 52 [] [.agg [.raw (.bool (decide (pa < 0))), .sl (dig (pa.natAbs : Int)).length false (ints .u32 (dig (pa.natAbs : Int))), .raw (.bool (decide (qa < 0))), .sl (dig (qa.natAbs : Int)).length false (ints .u32 (dig (qa.natAbs : Int)))], .agg [.raw (.bool (decide (pb < 0))), .sl (dig (pb.natAbs : Int)).length false (ints .u32 (dig (pb.natAbs : Int))), .raw (.bool (decide (qb < 0))), .sl (dig (qb.natAbs : Int)).length false (ints .u32 (dig (qb.natAbs : Int)))]] (aR pc qc) [] := by
  obtain ⟨la1, la2⟩ := la
  obtain ⟨lb1, lb2⟩ := lb
  have pa0 := ha.pos
  have pb0 := hb.pos
  obtain ⟨m1, h1⟩ : ∃ s, pa * qb = s := ⟨_, rfl⟩
  obtain ⟨m2, h2⟩ : ∃ s, pb * qa = s := ⟨_, rfl⟩
  obtain ⟨s, hs⟩ : ∃ s, m1 + m2 = s := ⟨_, rfl⟩
  obtain ⟨m3, h3⟩ : ∃ s, qa * qb = s := ⟨_, rfl⟩
  have l1 := len_mul (x := pa) (y := qb)
  have l2 := len_mul (x := pb) (y := qa)
  have l3 := len_mul (x := qa) (y := qb)
  rw [h1] at l1
  rw [h2] at l2
  rw [h3] at l3
  have ls : (dig (s.natAbs : Int)).length ≤ 60001 := hs ▸ len_add (n := 60000) (by omega) (by omega)
  have h30 : m3 ≠ 0 := h3 ▸ qmul_ne pa0 pb0
  rw [ha.add hb, h1, h2, hs, h3] at hr
  refine cp2 (rs := [.cell 4 26]) (nt := 26) Tryz.func52 (fun C hP hn => ?_)
  ((repeat' (first | refine gW ?_ | (refine gIf ?_ ?_ <;> (intro hc; try exact gX)) | with_reducible refine br_intro ?_ ?_ | (with_reducible intro _; try exact gX) | with_reducible refine ands_intro ?_ ?_ | refine cx (rmul_e (za := pa) (zb := qb) (by rfl) (by rfl) (by rfl) (by omega) (by rfl) (by rfl) (by rfl) (by omega) h1) ?_ | refine cx (rmul_e (za := pb) (zb := qa) (by rfl) (by rfl) (by rfl) (by omega) (by rfl) (by rfl) (by rfl) (by omega) h2) ?_ | refine cx (rmul_e (za := qa) (zb := qb) (by rfl) (by rfl) (by rfl) (by omega) (by rfl) (by rfl) (by rfl) (by omega) h3) ?_ | refine cx (radd_e (za := m1) (zb := m2) (by rfl) (by rfl) (by rfl) (by omega) (by rfl) (by rfl) (by rfl) (by omega) hs) ?_ | refine cx (of_c (p := s) (q := m3) h30 hr ⟨by omega, by omega⟩) ?_)) <;> (try exact gF))
  exact rqq1 (rC ty26)
theorem xmul_c {pa qa pb qb pc qc : Int} {a b : Rat} (ha : IsR pa qa a) (hb : IsR pb qb b) (hr : IsR pc qc (a * b)) (la : RL pa qa 30000) (lb : RL pb qb 30000) : HCallsD Tryz.prog 43 [] [.agg [.raw (.bool (decide (pa < 0))), .sl (dig (pa.natAbs : Int)).length false (ints .u32 (dig (pa.natAbs : Int))), .raw (.bool (decide (qa < 0))), .sl (dig (qa.natAbs : Int)).length false (ints .u32 (dig (qa.natAbs : Int)))], .agg [.raw (.bool (decide (pb < 0))), .sl (dig (pb.natAbs : Int)).length false (ints .u32 (dig (pb.natAbs : Int))), .raw (.bool (decide (qb < 0))), .sl (dig (qb.natAbs : Int)).length false (ints .u32 (dig (qb.natAbs : Int)))]] (aR pc qc) [] := by
  obtain ⟨la1, la2⟩ := la
  obtain ⟨lb1, lb2⟩ := lb
  have pa0 := ha.pos
  have pb0 := hb.pos
  obtain ⟨m1, h1⟩ : ∃ s, pa * pb = s := ⟨_, rfl⟩
  obtain ⟨m3, h3⟩ : ∃ s, qa * qb = s := ⟨_, rfl⟩
  have l1 := len_mul (x := pa) (y := pb)
  have l3 := len_mul (x := qa) (y := qb)
  rw [h1] at l1
  rw [h3] at l3
  have h30 : m3 ≠ 0 := h3 ▸ qmul_ne pa0 pb0
  rw [ha.mul hb, h1, h3] at hr
  refine cp2 (rs := [.cell 4 26]) (nt := 16) Tryz.func43 (fun C hP hn => ?_)
  ((repeat' (first | refine gW ?_ | (refine gIf ?_ ?_ <;> (intro hc; try exact gX)) | with_reducible refine br_intro ?_ ?_ | (with_reducible intro _; try exact gX) | with_reducible refine ands_intro ?_ ?_ | refine cx (imul_e (za := pa) (zb := pb) (by rfl) (by rfl) (by rfl) (by omega) (by rfl) (by rfl) (by rfl) (by omega) h1) ?_ | refine cx (imul_e (za := qa) (zb := qb) (by rfl) (by rfl) (by rfl) (by omega) (by rfl) (by rfl) (by rfl) (by omega) h3) ?_ | refine cx (reduce_c (p := m1) (q := m3) h30 hr ⟨by omega, by omega⟩) ?_)) <;> (try exact gF))
  exact rqq1 (rC ty26)
theorem rxmul_c {pa qa pb qb pc qc : Int} {a b : Rat} (ha : IsR pa qa a) (hb : IsR pb qb b) (hr : IsR pc qc (a * b)) (la : RL pa qa 30000) (lb : RL pb qb 30000) : HCallsD Tryz.prog 25 [] [.agg [.raw (.bool (decide (pa < 0))), .sl (dig (pa.natAbs : Int)).length false (ints .u32 (dig (pa.natAbs : Int))), .raw (.bool (decide (qa < 0))), .sl (dig (qa.natAbs : Int)).length false (ints .u32 (dig (qa.natAbs : Int)))], .agg [.raw (.bool (decide (pb < 0))), .sl (dig (pb.natAbs : Int)).length false (ints .u32 (dig (pb.natAbs : Int))), .raw (.bool (decide (qb < 0))), .sl (dig (qb.natAbs : Int)).length false (ints .u32 (dig (qb.natAbs : Int)))]] (aR pc qc) [] := by
  obtain ⟨la1, la2⟩ := la
  obtain ⟨lb1, lb2⟩ := lb
  have pa0 := ha.pos
  have pb0 := hb.pos
  obtain ⟨m1, h1⟩ : ∃ s, pa * pb = s := ⟨_, rfl⟩
  obtain ⟨m3, h3⟩ : ∃ s, qa * qb = s := ⟨_, rfl⟩
  have l1 := len_mul (x := pa) (y := pb)
  have l3 := len_mul (x := qa) (y := qb)
  rw [h1] at l1
  rw [h3] at l3
  have h30 : m3 ≠ 0 := h3 ▸ qmul_ne pa0 pb0
  rw [ha.mul hb, h1, h3] at hr
  refine cp2 (rs := [.cell 4 26]) (nt := 16) Tryz.func25 (fun C hP hn => ?_)
  ((repeat' (first | refine gW ?_ | (refine gIf ?_ ?_ <;> (intro hc; try exact gX)) | with_reducible refine br_intro ?_ ?_ | (with_reducible intro _; try exact gX) | with_reducible refine ands_intro ?_ ?_ | refine cx (rmul_e (za := pa) (zb := pb) (by rfl) (by rfl) (by rfl) (by omega) (by rfl) (by rfl) (by rfl) (by omega) h1) ?_ | refine cx (rmul_e (za := qa) (zb := qb) (by rfl) (by rfl) (by rfl) (by omega) (by rfl) (by rfl) (by rfl) (by omega) h3) ?_ | refine cx (of_c (p := m1) (q := m3) h30 hr ⟨by omega, by omega⟩) ?_)) <;> (try exact gF))
  exact rqq1 (rC ty26)
theorem xsub_c {pa qa pb qb pc qc : Int} {a b : Rat} (ha : IsR pa qa a) (hb : IsR pb qb b) (hr : IsR pc qc (a - b)) (la : RL pa qa 30000) (lb : RL pb qb 30000) : HCallsD Tryz.prog 53 [] [.agg [.raw (.bool (decide (pa < 0))), .sl (dig (pa.natAbs : Int)).length false (ints .u32 (dig (pa.natAbs : Int))), .raw (.bool (decide (qa < 0))), .sl (dig (qa.natAbs : Int)).length false (ints .u32 (dig (qa.natAbs : Int)))], .agg [.raw (.bool (decide (pb < 0))), .sl (dig (pb.natAbs : Int)).length false (ints .u32 (dig (pb.natAbs : Int))), .raw (.bool (decide (qb < 0))), .sl (dig (qb.natAbs : Int)).length false (ints .u32 (dig (qb.natAbs : Int)))]] (aR pc qc) [] := by
  obtain ⟨z, hz⟩ : ∃ z, -pb = z := ⟨_, rfl⟩
  have hbn : IsR z qb (-b) := hz ▸ hb.neg
  have lbn : RL z qb 30000 := hz ▸ lb.neg
  rw [Rat.sub_eq_add_neg] at hr
  refine cp2 (rs := [.cell 4 26]) (nt := 9) Tryz.func53 (fun C hP hn => ?_)
  ((repeat' (first | refine gW ?_ | (refine gIf ?_ ?_ <;> (intro hc; try exact gX)) | with_reducible refine br_intro ?_ ?_ | (with_reducible intro _; try exact gX) | with_reducible refine ands_intro ?_ ?_ | refine cx (xneg_c (p := pb) (q := qb) (lb.mono (by omega)) hz) ?_ | refine cx (xadd_c ha hbn hr la lbn) ?_)) <;> (try exact gF))
  exact rqq1 (rC ty26)
theorem rxsub_c {pa qa pb qb pc qc : Int} {a b : Rat} (ha : IsR pa qa a) (hb : IsR pb qb b) (hr : IsR pc qc (a - b)) (la : RL pa qa 30000) (lb : RL pb qb 30000) : HCallsD Tryz.prog 16 [] [.agg [.raw (.bool (decide (pa < 0))), .sl (dig (pa.natAbs : Int)).length false (ints .u32 (dig (pa.natAbs : Int))), .raw (.bool (decide (qa < 0))), .sl (dig (qa.natAbs : Int)).length false (ints .u32 (dig (qa.natAbs : Int)))], .agg [.raw (.bool (decide (pb < 0))), .sl (dig (pb.natAbs : Int)).length false (ints .u32 (dig (pb.natAbs : Int))), .raw (.bool (decide (qb < 0))), .sl (dig (qb.natAbs : Int)).length false (ints .u32 (dig (qb.natAbs : Int)))]] (aR pc qc) [] := by
  obtain ⟨z, hz⟩ : ∃ z, -pb = z := ⟨_, rfl⟩
  have hbn : IsR z qb (-b) := hz ▸ hb.neg
  have lbn : RL z qb 30000 := hz ▸ lb.neg
  rw [Rat.sub_eq_add_neg] at hr
  refine cp2 (rs := [.cell 4 26]) (nt := 9) Tryz.func16 (fun C hP hn => ?_)
  ((repeat' (first | refine gW ?_ | (refine gIf ?_ ?_ <;> (intro hc; try exact gX)) | with_reducible refine br_intro ?_ ?_ | (with_reducible intro _; try exact gX) | with_reducible refine ands_intro ?_ ?_ | refine cx (rxneg_c (p := pb) (q := qb) (lb.mono (by omega)) hz) ?_ | refine cx (rxadd_c ha hbn hr la lbn) ?_)) <;> (try exact gF))
  exact rqq1 (rC ty26)
theorem IsR.div {pa qa pb qb : Int} {a b : Rat} (ha : IsR pa qa a) (hb : IsR pb qb b) : a / b = Rat.divInt (pa * qb) (qa * pb) := by
  rw [Rat.div_def, Rat.inv_def, ← hb.1, ← hb.2, ← ha.eq, Rat.divInt_mul_divInt]
theorem xdiv_c {pa qa pb qb pc qc : Int} {a b : Rat} (ha : IsR pa qa a) (hb : IsR pb qb b) (hb0 : pb ≠ 0) (hr : IsR pc qc (a / b)) (la : RL pa qa 30000) (lb : RL pb qb 30000) : HCallsD Tryz.prog 50 [] [.agg [.raw (.bool (decide (pa < 0))), .sl (dig (pa.natAbs : Int)).length false (ints .u32 (dig (pa.natAbs : Int))), .raw (.bool (decide (qa < 0))), .sl (dig (qa.natAbs : Int)).length false (ints .u32 (dig (qa.natAbs : Int)))], .agg [.raw (.bool (decide (pb < 0))), .sl (dig (pb.natAbs : Int)).length false (ints .u32 (dig (pb.natAbs : Int))), .raw (.bool (decide (qb < 0))), .sl (dig (qb.natAbs : Int)).length false (ints .u32 (dig (qb.natAbs : Int)))]] (.tup [aR pc qc, .raw (.int .i64 0)]) [] := by
  obtain ⟨la1, la2⟩ := la
  obtain ⟨lb1, lb2⟩ := lb
  have pa0 := ha.pos
  obtain ⟨m1, h1⟩ : ∃ s, pa * qb = s := ⟨_, rfl⟩
  obtain ⟨m3, h3⟩ : ∃ s, qa * pb = s := ⟨_, rfl⟩
  have l1 := len_mul (x := pa) (y := qb)
  have l3 := len_mul (x := qa) (y := pb)
  rw [h1] at l1
  rw [h3] at l3
  have h30 : m3 ≠ 0 := h3 ▸ Int.mul_ne_zero (by omega) hb0
  rw [ha.div hb, h1, h3] at hr
  obtain ⟨c, hcc⟩ : ∃ c, cmpI pb 0 = c := ⟨_, rfl⟩
  have hcn : c ≠ 0 := hcc ▸ cmp_ne hb0
  refine cp2 (rs := [.cell 4 26, .tmp 5]) (nt := 21) Tryz.func50 (fun C hP hn => ?_)
  ((repeat' (first | refine gW ?_ | (refine gIf ?_ ?_ <;> (intro hc; try exact gX)) | with_reducible refine br_intro ?_ ?_ | (with_reducible intro _; try exact gX) | with_reducible refine ands_intro ?_ ?_ | refine cx (xsign_c (p := pb) (q := qb) ⟨by omega, by omega⟩ hcc) ?_ | refine cx (imul_e (za := pa) (zb := qb) (by rfl) (by rfl) (by rfl) (by omega) (by rfl) (by rfl) (by rfl) (by omega) h1) ?_ | refine cx (imul_e (za := qa) (zb := pb) (by rfl) (by rfl) (by rfl) (by omega) (by rfl) (by rfl) (by rfl) (by omega) h3) ?_ | refine cx (reduce_c (p := m1) (q := m3) h30 hr ⟨by omega, by omega⟩) ?_)) <;> (try exact gF))
  exact rqq2 (rC ty26) rT
theorem xdiv_0 {pa qa pb qb : Int} (hb0 : pb = 0) (lb : RL pb qb 30000) : HCallsD Tryz.prog 50 [] [.agg [.raw (.bool (decide (pa < 0))), .sl (dig (pa.natAbs : Int)).length false (ints .u32 (dig (pa.natAbs : Int))), .raw (.bool (decide (qa < 0))), .sl (dig (qa.natAbs : Int)).length false (ints .u32 (dig (qa.natAbs : Int)))], .agg [.raw (.bool (decide (pb < 0))), .sl (dig (pb.natAbs : Int)).length false (ints .u32 (dig (pb.natAbs : Int))), .raw (.bool (decide (qb < 0))), .sl (dig (qb.natAbs : Int)).length false (ints .u32 (dig (qb.natAbs : Int)))]] (.tup [aR 0 0, .raw (.int .i64 6)]) [] := by
  obtain ⟨lb1, lb2⟩ := lb
  have hcc : cmpI pb 0 = 0 := by rw [hb0]; rfl
  refine cp2 (rs := [.cell 4 26, .tmp 5]) (nt := 21) Tryz.func50 (fun C hP hn => ?_)
  ((repeat' (first | refine gW ?_ | (refine gIf ?_ ?_ <;> (intro hc; try exact gX)) | with_reducible refine br_intro ?_ ?_ | (with_reducible intro _; try exact gX) | with_reducible refine ands_intro ?_ ?_ | refine cx (xsign_c (p := pb) (q := qb) ⟨by omega, by omega⟩ hcc) ?_)) <;> (try exact gF))
  exact rqq2 (rC ty26) rT
theorem rxdiv_c {pa qa pb qb pc qc : Int} {a b : Rat} (ha : IsR pa qa a) (hb : IsR pb qb b) (hb0 : pb ≠ 0) (hr : IsR pc qc (a / b)) (la : RL pa qa 30000) (lb : RL pb qb 30000) : HCallsD Tryz.prog 51 [] [.agg [.raw (.bool (decide (pa < 0))), .sl (dig (pa.natAbs : Int)).length false (ints .u32 (dig (pa.natAbs : Int))), .raw (.bool (decide (qa < 0))), .sl (dig (qa.natAbs : Int)).length false (ints .u32 (dig (qa.natAbs : Int)))], .agg [.raw (.bool (decide (pb < 0))), .sl (dig (pb.natAbs : Int)).length false (ints .u32 (dig (pb.natAbs : Int))), .raw (.bool (decide (qb < 0))), .sl (dig (qb.natAbs : Int)).length false (ints .u32 (dig (qb.natAbs : Int)))]] (.tup [aR pc qc, .raw (.int .i64 0)]) [] := by
  obtain ⟨la1, la2⟩ := la
  obtain ⟨lb1, lb2⟩ := lb
  have pa0 := ha.pos
  obtain ⟨m1, h1⟩ : ∃ s, pa * qb = s := ⟨_, rfl⟩
  obtain ⟨m3, h3⟩ : ∃ s, qa * pb = s := ⟨_, rfl⟩
  have l1 := len_mul (x := pa) (y := qb)
  have l3 := len_mul (x := qa) (y := pb)
  rw [h1] at l1
  rw [h3] at l3
  have h30 : m3 ≠ 0 := h3 ▸ Int.mul_ne_zero (by omega) hb0
  rw [ha.div hb, h1, h3] at hr
  refine cp2 (rs := [.cell 4 26, .tmp 5]) (nt := 19) Tryz.func51 (fun C hP hn => ?_)
  ((repeat' (first | refine gW ?_ | (refine gIf ?_ ?_ <;> (intro hc; try exact gX)) | with_reducible refine br_intro ?_ ?_ | (with_reducible intro _; try exact gX) | with_reducible refine ands_intro ?_ ?_ | refine cx (rmul_e (za := pa) (zb := qb) (by rfl) (by rfl) (by rfl) (by omega) (by rfl) (by rfl) (by rfl) (by omega) h1) ?_ | refine cx (rmul_e (za := qa) (zb := pb) (by rfl) (by rfl) (by rfl) (by omega) (by rfl) (by rfl) (by rfl) (by omega) h3) ?_ | refine cx (rmake_c (p := m1) (q := m3) h30 hr ⟨by omega, by omega⟩) ?_)) <;> (try exact gF))
  exact rqq2 (rC ty26) rT
theorem rxdiv_0 {pa qa pb qb : Int} (hb0 : pb = 0) (la : RL pa qa 30000) (lb : RL pb qb 30000) : HCallsD Tryz.prog 51 [] [.agg [.raw (.bool (decide (pa < 0))), .sl (dig (pa.natAbs : Int)).length false (ints .u32 (dig (pa.natAbs : Int))), .raw (.bool (decide (qa < 0))), .sl (dig (qa.natAbs : Int)).length false (ints .u32 (dig (qa.natAbs : Int)))], .agg [.raw (.bool (decide (pb < 0))), .sl (dig (pb.natAbs : Int)).length false (ints .u32 (dig (pb.natAbs : Int))), .raw (.bool (decide (qb < 0))), .sl (dig (qb.natAbs : Int)).length false (ints .u32 (dig (qb.natAbs : Int)))]] (.tup [aR 0 0, .raw (.int .i64 6)]) [] := by
  obtain ⟨la1, la2⟩ := la
  obtain ⟨lb1, lb2⟩ := lb
  obtain ⟨m1, h1⟩ : ∃ s, pa * qb = s := ⟨_, rfl⟩
  obtain ⟨m3, h3⟩ : ∃ s, qa * pb = s := ⟨_, rfl⟩
  have l1 := len_mul (x := pa) (y := qb)
  have l3 := len_mul (x := qa) (y := pb)
  rw [h1] at l1
  rw [h3] at l3
  have h30 : m3 = 0 := by rw [← h3, hb0, Int.mul_zero]
  refine cp2 (rs := [.cell 4 26, .tmp 5]) (nt := 19) Tryz.func51 (fun C hP hn => ?_)
  ((repeat' (first | refine gW ?_ | (refine gIf ?_ ?_ <;> (intro hc; try exact gX)) | with_reducible refine br_intro ?_ ?_ | (with_reducible intro _; try exact gX) | with_reducible refine ands_intro ?_ ?_ | refine cx (rmul_e (za := pa) (zb := qb) (by rfl) (by rfl) (by rfl) (by omega) (by rfl) (by rfl) (by rfl) (by omega) h1) ?_ | refine cx (rmul_e (za := qa) (zb := pb) (by rfl) (by rfl) (by rfl) (by omega) (by rfl) (by rfl) (by rfl) (by omega) h3) ?_ | refine cx (rmake_0 (p := m1) (q := m3) h30 ⟨by omega, by omega⟩) ?_)) <;> (try exact gF))
  exact rqq2 (rC ty26) rT
end Go.Proofs.YtfmebdmgnmogaaaGreatDoor
