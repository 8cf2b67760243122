/- Laws of integers, second part. No statement of its own. -/
import Derived.Test.YtfmebdmgnmogaaaGreatDoorQI23
import Derived.Test.YtfmebdmgnmogaaaGreatDoorQQ4
set_option linter.unusedVariables false
set_option linter.unusedSimpArgs false
set_option linter.unusedSimpArgs false
set_option linter.unusedVariables false
set_option maxRecDepth 100000
set_option maxHeartbeats 8000000
namespace Go.Proofs.YtfmebdmgnmogaaaGreatDoor
open Go Go.RowKit Hv

theorem isqrt_nege {ba : Bool} {na : Nat} {xa : List Int} {za : Int} {z : Int} (hba : ba = decide (za < 0)) (hna : na = xa.length) (hxa : xa = dig (za.natAbs : Int)) (hla : xa.length ≤ 100000) (hz : za < 0) (h0 : 0 = z) : HCallsD Tryz.prog 98 [] [.agg [.raw (.bool ba), .sl na false (ints .u32 xa)]] (.tup [aI z, .raw (.int .i64 7)]) [] := by subst h0; exact isqrt_neg hba hna hxa hla hz

theorem valid_e {b : Bool} {n : Nat} {xs : List Int} {r : Bool} (hn : n = xs.length) (hu : U32 xs) (hl : xs.length ≤ 16) (hr : validB b xs = r) : HCallsD Tryz.prog 93 [] [.agg [.raw (.bool b), .sl n false (ints .u32 xs)]] (.raw (.bool r)) [] := by subst hr; exact valid_c hn hu (by omega)
theorem rvalid_v {b : Bool} {n : Nat} {xs : List Int} {r : Bool} (hn : n = xs.length) (hu : U32 xs) (hl : xs.length ≤ 16) (hr : validB b xs = r) : HCallsD Tryz.prog 15 [] [.agg [.raw (.bool b), .sl n false (ints .u32 xs)]] (.raw (.bool r)) [] := by subst hr; exact rvalid_c hn hu (by omega)
end Go.Proofs.YtfmebdmgnmogaaaGreatDoor
set_option linter.unusedSimpArgs false
set_option linter.unusedVariables false
set_option maxRecDepth 100000
set_option maxHeartbeats 8000000
namespace Go.Proofs.YtfmebdmgnmogaaaGreatDoor
open Go Go.RowKit Hv

theorem isnan_c {x : Int} : HCallsD Tryz.prog 114 [] [.raw (.int .i64 x)] (.raw (.bool false)) [] := by
  refine cp1 (rs := [.tmp 2]) (nt := 6) Tryz.func114 (fun C hP hn => ?_)
  (have hXx := And.intro @eq_self.{1} (And.intro @decide_true (@Bool.not_true)); (repeat' (first | refine gWx ?_ | (refine gIf ?_ ?_ <;> (intro hc; try exact gX)) | with_reducible refine br_intro ?_ ?_ | (with_reducible intro _; try exact gX) | with_reducible refine ands_intro ?_ ?_)) <;> ((try clear hXx); try exact gF))
  exact rqq1 rT
theorem gocmp_c {x y c : Int} (hcc : cmpI x y = c) : HCallsD Tryz.prog 86 [] [.raw (.int .i64 x), .raw (.int .i64 y)] (.raw (.int .i64 c)) [] := by
  rcases Int.lt_or_le x y with h | h
  · rw [cmp_l h] at hcc
    subst hcc
    refine cp2 (rs := [.tmp 4]) (nt := 20) Tryz.func86 (fun C hP hn => ?_)
    ((repeat' (first | refine gW ?_ | (refine gIf ?_ ?_ <;> (intro hc; try exact gX)) | with_reducible refine br_intro ?_ ?_ | (with_reducible intro _; try exact gX) | with_reducible refine ands_intro ?_ ?_ | refine cx (isnan_c) ?_)) <;> (try exact gF))
    exact rqq1 rT
  · rcases Int.lt_or_le y x with h2 | h2
    · rw [cmp_g h2] at hcc
      subst hcc
      refine cp2 (rs := [.tmp 4]) (nt := 20) Tryz.func86 (fun C hP hn => ?_)
      ((repeat' (first | refine gW ?_ | (refine gIf ?_ ?_ <;> (intro hc; try exact gX)) | with_reducible refine br_intro ?_ ?_ | (with_reducible intro _; try exact gX) | with_reducible refine ands_intro ?_ ?_ | refine cx (isnan_c) ?_)) <;> (try exact gF))
      exact rqq1 rT
    · have e : x = y := by omega
      subst e
      rw [cmp_e] at hcc
      subst hcc
      refine cp2 (rs := [.tmp 4]) (nt := 20) Tryz.func86 (fun C hP hn => ?_)
      ((repeat' (first | refine gW ?_ | (refine gIf ?_ ?_ <;> (intro hc; try exact gX)) | with_reducible refine br_intro ?_ ?_ | (with_reducible intro _; try exact gX) | with_reducible refine ands_intro ?_ ?_ | refine cx (isnan_c) ?_)) <;> (try exact gF))
      exact rqq1 rT
/-- The order of rational numbers. -/
def cR (a b : Rat) : Int := if a < b then -1 else if b < a then 1 else 0
theorem cR_cross {pa qa pb qb : Int} {a b : Rat} (ha : IsR pa qa a) (hb : IsR pb qb b) : cmpI (pa * qb) (pb * qa) = cR a b := by
  unfold cmpI cR
  simp only [Rat.lt_iff, ← ha.1, ← ha.2, ← hb.1, ← hb.2]
theorem mul_sign {p q : Int} (hq : 0 < q) : (p < 0 → p * q < 0) ∧ (p = 0 → p * q = 0) ∧ (0 < p → 0 < p * q) :=
  ⟨fun h => Int.mul_neg_of_neg_of_pos h hq, fun h => by rw [h, Int.zero_mul], fun h => Int.mul_pos h hq⟩
theorem cR_sign {pa qa pb qb : Int} {a b : Rat} (ha : IsR pa qa a) (hb : IsR pb qb b) (h : cmpI (cmpI pa 0) (cmpI pb 0) ≠ 0) : cmpI (cmpI pa 0) (cmpI pb 0) = cR a b := by
  rw [← cR_cross ha hb]
  obtain ⟨a1, a2, a3⟩ := mul_sign (p := pa) hb.pos
  obtain ⟨b1, b2, b3⟩ := mul_sign (p := pb) ha.pos
  generalize pa * qb = u at *
  generalize pb * qa = v at *
  unfold cmpI at *
  repeat' split at h
  all_goals (repeat' split) <;> omega
theorem cR_rng (a b : Rat) : -1 ≤ cR a b ∧ cR a b ≤ 1 := by unfold cR; split <;> (try split) <;> omega
theorem xcmp_c {pa qa pb qb c : Int} {a b : Rat} (ha : IsR pa qa a) (hb : IsR pb qb b) (hcc : cR a b = c) (la : RL pa qa 30000) (lb : RL pb qb 30000) : HCallsD Tryz.prog 40 [] [.agg [.raw (.bool (decide (pa < 0))), .sl (dig (pa.natAbs : Int)).length false (ints .u32 (dig (pa.natAbs : Int))), .raw (.bool (decide (qa < 0))), .sl (dig (qa.natAbs : Int)).length false (ints .u32 (dig (qa.natAbs : Int)))], .agg [.raw (.bool (decide (pb < 0))), .sl (dig (pb.natAbs : Int)).length false (ints .u32 (dig (pb.natAbs : Int))), .raw (.bool (decide (qb < 0))), .sl (dig (qb.natAbs : Int)).length false (ints .u32 (dig (qb.natAbs : Int)))]] (.raw (.int .i64 c)) [] := by
  obtain ⟨la1, la2⟩ := la
  obtain ⟨lb1, lb2⟩ := lb
  obtain ⟨m1, h1⟩ : ∃ s, pa * qb = s := ⟨_, rfl⟩
  obtain ⟨m2, h2⟩ : ∃ s, pb * qa = s := ⟨_, rfl⟩
  have l1 := len_mul (x := pa) (y := qb)
  have l2 := len_mul (x := pb) (y := qa)
  rw [h1] at l1
  rw [h2] at l2
  obtain ⟨s1, hs1⟩ : ∃ s, cmpI pa 0 = s := ⟨_, rfl⟩
  obtain ⟨s2, hs2⟩ : ∃ s, cmpI pb 0 = s := ⟨_, rfl⟩
  obtain ⟨n, hnn⟩ : ∃ s, cmpI s1 s2 = s := ⟨_, rfl⟩
  have hcross := cR_cross ha hb
  rw [h1, h2, hcc] at hcross
  have hsign := cR_sign ha hb
  rw [hs1, hs2, hnn, hcc] at hsign
  rcases Decidable.em (n = 0) with e | e
  · subst e
    refine cp2 (rs := [.tmp 4]) (nt := 25) Tryz.func40 (fun C hP hn => ?_)
    ((repeat' (first | refine gW ?_ | (refine gIf ?_ ?_ <;> (intro hc; try exact gX)) | with_reducible refine br_intro ?_ ?_ | (with_reducible intro _; try exact gX) | with_reducible refine ands_intro ?_ ?_ | refine cx (xsign_c (p := pa) (q := qa) ⟨by omega, by omega⟩ hs1) ?_ | refine cx (xsign_c (p := pb) (q := qb) ⟨by omega, by omega⟩ hs2) ?_ | refine cx (gocmp_c hnn) ?_ | refine cx (imul_e (za := pa) (zb := qb) (by rfl) (by rfl) (by rfl) (by omega) (by rfl) (by rfl) (by rfl) (by omega) h1) ?_ | refine cx (imul_e (za := pb) (zb := qa) (by rfl) (by rfl) (by rfl) (by omega) (by rfl) (by rfl) (by rfl) (by omega) h2) ?_ | refine cx (icmp_e (za := m1) (zb := m2) (by rfl) (by rfl) (by rfl) (by omega) (by rfl) (by rfl) (by rfl) (by omega) hcross) ?_)) <;> (try exact gF))
    exact rqq1 rT
  · rw [hsign e] at hnn e
    refine cp2 (rs := [.tmp 4]) (nt := 25) Tryz.func40 (fun C hP hn => ?_)
    ((repeat' (first | refine gW ?_ | (refine gIf ?_ ?_ <;> (intro hc; try exact gX)) | with_reducible refine br_intro ?_ ?_ | (with_reducible intro _; try exact gX) | with_reducible refine ands_intro ?_ ?_ | refine cx (xsign_c (p := pa) (q := qa) ⟨by omega, by omega⟩ hs1) ?_ | refine cx (xsign_c (p := pb) (q := qb) ⟨by omega, by omega⟩ hs2) ?_ | refine cx (gocmp_c hnn) ?_)) <;> (try exact gF))
    exact rqq1 rT
theorem rxcmp_c {pa qa pb qb c : Int} {a b : Rat} (ha : IsR pa qa a) (hb : IsR pb qb b) (hcc : cR a b = c) (la : RL pa qa 30000) (lb : RL pb qb 30000) : HCallsD Tryz.prog 19 [] [.agg [.raw (.bool (decide (pa < 0))), .sl (dig (pa.natAbs : Int)).length false (ints .u32 (dig (pa.natAbs : Int))), .raw (.bool (decide (qa < 0))), .sl (dig (qa.natAbs : Int)).length false (ints .u32 (dig (qa.natAbs : Int)))], .agg [.raw (.bool (decide (pb < 0))), .sl (dig (pb.natAbs : Int)).length false (ints .u32 (dig (pb.natAbs : Int))), .raw (.bool (decide (qb < 0))), .sl (dig (qb.natAbs : Int)).length false (ints .u32 (dig (qb.natAbs : Int)))]] (.raw (.int .i64 c)) [] := by
  obtain ⟨la1, la2⟩ := la
  obtain ⟨lb1, lb2⟩ := lb
  obtain ⟨m1, h1⟩ : ∃ s, pa * qb = s := ⟨_, rfl⟩
  obtain ⟨m2, h2⟩ : ∃ s, pb * qa = s := ⟨_, rfl⟩
  have l1 := len_mul (x := pa) (y := qb)
  have l2 := len_mul (x := pb) (y := qa)
  rw [h1] at l1
  rw [h2] at l2
  have hcross := cR_cross ha hb
  rw [h1, h2, hcc] at hcross
  refine cp2 (rs := [.tmp 4]) (nt := 16) Tryz.func19 (fun C hP hn => ?_)
  ((repeat' (first | refine gW ?_ | (refine gIf ?_ ?_ <;> (intro hc; try exact gX)) | with_reducible refine br_intro ?_ ?_ | (with_reducible intro _; try exact gX) | with_reducible refine ands_intro ?_ ?_ | refine cx (rmul_e (za := pa) (zb := qb) (by rfl) (by rfl) (by rfl) (by omega) (by rfl) (by rfl) (by rfl) (by omega) h1) ?_ | refine cx (rmul_e (za := pb) (zb := qa) (by rfl) (by rfl) (by rfl) (by omega) (by rfl) (by rfl) (by rfl) (by omega) h2) ?_ | refine cx (rcmp_e (za := m1) (zb := m2) (by rfl) (by rfl) (by rfl) (by omega) (by rfl) (by rfl) (by rfl) (by omega) hcross) ?_)) <;> (try exact gF))
  exact rqq1 rT
theorem xfloor_c {p q z : Int} (hq : q ≠ 0) (hz : fq p q = z) (l : RL p q 90000) : HCallsD Tryz.prog 14 [] [.agg [.raw (.bool (decide (p < 0))), .sl (dig (p.natAbs : Int)).length false (ints .u32 (dig (p.natAbs : Int))), .raw (.bool (decide (q < 0))), .sl (dig (q.natAbs : Int)).length false (ints .u32 (dig (q.natAbs : Int)))]] (aI z) [] := by
  obtain ⟨l1, l2⟩ := l
  obtain ⟨r, hr⟩ : ∃ r, fr p q = r := ⟨_, rfl⟩
  refine cp1 (rs := [.cell 2 24]) (nt := 16) Tryz.func14 (fun C hP hn => ?_)
  ((repeat' (first | refine gW ?_ | (refine gIf ?_ ?_ <;> (intro hc; try exact gX)) | with_reducible refine br_intro ?_ ?_ | (with_reducible intro _; try exact gX) | with_reducible refine ands_intro ?_ ?_ | refine cx (divmod_e (za := p) (zb := q) (by rfl) (by rfl) (by rfl) (by omega) (by rfl) (by rfl) (by rfl) (by omega)   hq hz hr) ?_)) <;> (try exact gF))
  exact rqq1 (rC ty24)
theorem rxfloor_c {p q z : Int} (hq : q ≠ 0) (hz : fq p q = z) (l : RL p q 90000) : HCallsD Tryz.prog 32 [] [.agg [.raw (.bool (decide (p < 0))), .sl (dig (p.natAbs : Int)).length false (ints .u32 (dig (p.natAbs : Int))), .raw (.bool (decide (q < 0))), .sl (dig (q.natAbs : Int)).length false (ints .u32 (dig (q.natAbs : Int)))]] (aI z) [] := by
  obtain ⟨l1, l2⟩ := l
  obtain ⟨r, hr⟩ : ∃ r, fr p q = r := ⟨_, rfl⟩
  refine cp1 (rs := [.cell 2 24]) (nt := 16) Tryz.func32 (fun C hP hn => ?_)
  ((repeat' (first | refine gW ?_ | (refine gIf ?_ ?_ <;> (intro hc; try exact gX)) | with_reducible refine br_intro ?_ ?_ | (with_reducible intro _; try exact gX) | with_reducible refine ands_intro ?_ ?_ | refine cx (rdivmod_e (za := p) (zb := q) (by rfl) (by rfl) (by rfl) (by omega) (by rfl) (by rfl) (by rfl) (by omega) (by omega) (by omega) hq hz hr) ?_)) <;> (try exact gF))
  exact rqq1 (rC ty24)
theorem rover_c {pa qa pb qb pc qc : Int} {a b : Rat} (ha : IsR pa qa a) (hb : IsR pb qb b) (hb0 : pb ≠ 0) (hr : IsR pc qc (a / b)) (la : RL pa qa 30000) (lb : RL pb qb 30000) : HCallsD Tryz.prog 101 [] [.agg [.raw (.bool (decide (pa < 0))), .sl (dig (pa.natAbs : Int)).length false (ints .u32 (dig (pa.natAbs : Int))), .raw (.bool (decide (qa < 0))), .sl (dig (qa.natAbs : Int)).length false (ints .u32 (dig (qa.natAbs : Int)))], .agg [.raw (.bool (decide (pb < 0))), .sl (dig (pb.natAbs : Int)).length false (ints .u32 (dig (pb.natAbs : Int))), .raw (.bool (decide (qb < 0))), .sl (dig (qb.natAbs : Int)).length false (ints .u32 (dig (qb.natAbs : Int)))]] (aR pc qc) [] := by
  refine cp2 (rs := [.cell 4 26]) (nt := 14) Tryz.func101 (fun C hP hn => ?_)
  ((repeat' (first | refine gW ?_ | (refine gIf ?_ ?_ <;> (intro hc; try exact gX)) | with_reducible refine br_intro ?_ ?_ | (with_reducible intro _; try exact gX) | with_reducible refine ands_intro ?_ ?_ | refine cx (rxdiv_c ha hb hb0 hr la lb) ?_)) <;> (try exact gF))
  exact rqq1 (rC ty26)
theorem rSame_e {a b : Int} {r : Bool} (la : (dig (a.natAbs : Int)).length ≤ 100000) (lb : (dig (b.natAbs : Int)).length ≤ 100000) (hr : decide (a = b) = r) : HCallsD Tryz.prog 57 [] [.agg [.raw (.bool (decide (a < 0))), .sl (dig (a.natAbs : Int)).length false (ints .u32 (dig (a.natAbs : Int)))], .agg [.raw (.bool (decide (b < 0))), .sl (dig (b.natAbs : Int)).length false (ints .u32 (dig (b.natAbs : Int)))]] (.raw (.bool r)) [] := by
  subst hr
  exact rSame_c (za := a) (zb := b) (by rfl) (by rfl) (by rfl) (by omega) (by rfl) (by rfl) (by rfl) (by omega)
theorem rxsame_c {pa qa pb qb : Int} {r : Bool} (la : RL pa qa 90000) (lb : RL pb qb 90000) (hr : decide (pa = pb ∧ qa = qb) = r) : HCallsD Tryz.prog 23 [] [.agg [.raw (.bool (decide (pa < 0))), .sl (dig (pa.natAbs : Int)).length false (ints .u32 (dig (pa.natAbs : Int))), .raw (.bool (decide (qa < 0))), .sl (dig (qa.natAbs : Int)).length false (ints .u32 (dig (qa.natAbs : Int)))], .agg [.raw (.bool (decide (pb < 0))), .sl (dig (pb.natAbs : Int)).length false (ints .u32 (dig (pb.natAbs : Int))), .raw (.bool (decide (qb < 0))), .sl (dig (qb.natAbs : Int)).length false (ints .u32 (dig (qb.natAbs : Int)))]] (.raw (.bool r)) [] := by
  obtain ⟨la1, la2⟩ := la
  obtain ⟨lb1, lb2⟩ := lb
  by_cases h1 : pa = pb
  · have hr2 : decide (qa = qb) = r := by rw [← hr]; simp [h1]
    refine cp2 (rs := [.tmp 4]) (nt := 17) Tryz.func23 (fun C hP hn => ?_)
    ((repeat' (first | refine gW ?_ | (refine gIf ?_ ?_ <;> (intro hc; try exact gX)) | with_reducible refine br_intro ?_ ?_ | (with_reducible intro _; try exact gX) | with_reducible refine ands_intro ?_ ?_ | refine cx (rSame_e (a := pa) (b := pb) (by omega) (by omega) (decide_eq_true h1)) ?_ | refine cx (rSame_e (a := qa) (b := qb) (by omega) (by omega) hr2) ?_)) <;> (try exact gF))
    exact rqq1 rT
  · have hr2 : r = false := by rw [← hr]; simp [h1]
    subst hr2
    refine cp2 (rs := [.tmp 4]) (nt := 17) Tryz.func23 (fun C hP hn => ?_)
    ((repeat' (first | refine gW ?_ | (refine gIf ?_ ?_ <;> (intro hc; try exact gX)) | with_reducible refine br_intro ?_ ?_ | (with_reducible intro _; try exact gX) | with_reducible refine ands_intro ?_ ?_ | refine cx (rSame_e (a := pa) (b := pb) (by omega) (by omega) (decide_eq_false h1)) ?_)) <;> (try exact gF))
    exact rqq1 rT
theorem rxsame_t {pa qa : Int} (la : RL pa qa 90000) : HCallsD Tryz.prog 23 [] [.agg [.raw (.bool (decide (pa < 0))), .sl (dig (pa.natAbs : Int)).length false (ints .u32 (dig (pa.natAbs : Int))), .raw (.bool (decide (qa < 0))), .sl (dig (qa.natAbs : Int)).length false (ints .u32 (dig (qa.natAbs : Int)))], .agg [.raw (.bool (decide (pa < 0))), .sl (dig (pa.natAbs : Int)).length false (ints .u32 (dig (pa.natAbs : Int))), .raw (.bool (decide (qa < 0))), .sl (dig (qa.natAbs : Int)).length false (ints .u32 (dig (qa.natAbs : Int)))]] (.raw (.bool true)) [] := rxsame_c la la (decide_eq_true ⟨rfl, rfl⟩)
theorem zero_t : HCallsD Tryz.prog 24 [] [.agg [.raw (.bool false), .sl 0 false (ints .u32 []), .raw (.bool false), .sl 0 false (ints .u32 [])]] (.raw (.bool true)) [] := by
  refine cp1 (rs := [.tmp 2]) (nt := 27) Tryz.func24 (fun C hP hn => ?_)
  ((repeat' (first | refine gW ?_ | (refine gIf ?_ ?_ <;> (intro hc; try exact gX)) | with_reducible refine br_intro ?_ ?_ | (with_reducible intro _; try exact gX) | with_reducible refine ands_intro ?_ ?_)) <;> (try exact gF))
  exact rqq1 rT
theorem zero_e : HCallsD Tryz.prog 24 [] [aR 0 0] (.raw (.bool true)) [] := zero_t
theorem between_c {pa qa px qx pb qb : Int} {a x b : Rat} {r : Bool} (ha : IsR pa qa a) (hx : IsR px qx x) (hb : IsR pb qb b) (la : RL pa qa 30000) (lx : RL px qx 30000) (lb : RL pb qb 30000) (hr : decide (a < x ∧ x < b) = r) : HCallsD Tryz.prog 30 [] [.agg [.raw (.bool (decide (pa < 0))), .sl (dig (pa.natAbs : Int)).length false (ints .u32 (dig (pa.natAbs : Int))), .raw (.bool (decide (qa < 0))), .sl (dig (qa.natAbs : Int)).length false (ints .u32 (dig (qa.natAbs : Int)))], .agg [.raw (.bool (decide (px < 0))), .sl (dig (px.natAbs : Int)).length false (ints .u32 (dig (px.natAbs : Int))), .raw (.bool (decide (qx < 0))), .sl (dig (qx.natAbs : Int)).length false (ints .u32 (dig (qx.natAbs : Int)))], .agg [.raw (.bool (decide (pb < 0))), .sl (dig (pb.natAbs : Int)).length false (ints .u32 (dig (pb.natAbs : Int))), .raw (.bool (decide (qb < 0))), .sl (dig (qb.natAbs : Int)).length false (ints .u32 (dig (qb.natAbs : Int)))]] (.raw (.bool r)) [] := by
  obtain ⟨c1, h1⟩ : ∃ c, cR a x = c := ⟨_, rfl⟩
  obtain ⟨c2, h2⟩ : ∃ c, cR x b = c := ⟨_, rfl⟩
  have k1 : (c1 < 0) = (a < x) := by rw [← h1]; unfold cR; split <;> rename_i h <;> simp [h]; split <;> omega
  have k2 : (c2 < 0) = (x < b) := by rw [← h2]; unfold cR; split <;> rename_i h <;> simp [h]; split <;> omega
  have hr2 : decide (c1 < 0 ∧ c2 < 0) = r := by rw [← hr]; simp only [k1, k2]
  rcases Int.lt_or_le c1 0 with h | h
  · have hr3 : decide (c2 < 0) = r := by rw [← hr2]; simp [h]
    refine cp3 (rs := [.tmp 6]) (nt := 17) Tryz.func30 (fun C hP hn => ?_)
    (have hXx := @hr3; (repeat' (first | refine gWx ?_ | (refine gIf ?_ ?_ <;> (intro hc; try exact gX)) | with_reducible refine br_intro ?_ ?_ | (with_reducible intro _; try exact gX) | with_reducible refine ands_intro ?_ ?_ | refine cx (rxcmp_c ha hx h1 la lx) ?_ | refine cx (rxcmp_c hx hb h2 lx lb) ?_)) <;> ((try clear hXx); try exact gF))
    all_goals exact rqq1 rT
  · have hr3 : r = false := by rw [← hr2]; exact decide_eq_false (by omega)
    subst hr3
    refine cp3 (rs := [.tmp 6]) (nt := 17) Tryz.func30 (fun C hP hn => ?_)
    ((repeat' (first | refine gW ?_ | (refine gIf ?_ ?_ <;> (intro hc; try exact gX)) | with_reducible refine br_intro ?_ ?_ | (with_reducible intro _; try exact gX) | with_reducible refine ands_intro ?_ ?_ | refine cx (rxcmp_c ha hx h1 la lx) ?_ | refine cx (rxcmp_c hx hb h2 lx lb) ?_)) <;> (try exact gF))
    all_goals exact rqq1 rT
end Go.Proofs.YtfmebdmgnmogaaaGreatDoor
