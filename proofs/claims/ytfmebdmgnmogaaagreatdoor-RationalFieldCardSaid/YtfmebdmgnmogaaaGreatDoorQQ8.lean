/- Square roots of rational numbers; inverses. No statement of its own. -/
import Derived.Test.YtfmebdmgnmogaaaGreatDoorQQ7
set_option linter.unusedVariables false
set_option linter.unusedSimpArgs false
set_option linter.unusedSimpArgs false
set_option linter.unusedVariables false
set_option maxRecDepth 100000
set_option maxHeartbeats 8000000
namespace Go.Proofs.YtfmebdmgnmogaaaGreatDoor
open Go Go.RowKit Hv

theorem sq_le {s z : Int} (hs : 0 ≤ s) (h : s * s ≤ z) : s ≤ z := by
  rcases Int.lt_or_le 0 s with h0 | h0
  · have : s * 1 ≤ s * s := Int.mul_le_mul_of_nonneg_left (by omega) hs
    omega
  · have : s = 0 := by omega
    subst this
    simpa using h
theorem sqn_lt (s : Int) (hs : 0 ≤ s) : s * s < (s + 1) * (s + 1) := by
  rw [Int.add_mul, Int.mul_add]; omega
theorem side_y {z s : Int} (hs : 0 ≤ s) (hz : s * s = z) (l : (dig (z.natAbs : Int)).length ≤ 50000) : HCallsD Tryz.prog 65 [] [.agg [.raw (.bool (decide (z < 0))), .sl (dig (z.natAbs : Int)).length false (ints .u32 (dig (z.natAbs : Int)))]] (.tup [aI s, .raw (.bool true)]) [] := by
  have h1 := sq_le hs (Int.le_of_eq hz)
  have ls : (dig (s.natAbs : Int)).length ≤ 50000 := Nat.le_trans (dig_le (by omega) (by omega)) l
  have h2 := sqn_lt s hs
  refine cp1 (rs := [.cell 2 24, .tmp 3]) (nt := 22) Tryz.func65 (fun C hP hn => ?_)
  ((repeat' (first | refine gW ?_ | (refine gIf ?_ ?_ <;> (intro hc; try exact gX)) | with_reducible refine br_intro ?_ ?_ | (with_reducible intro _; try exact gX) | with_reducible refine ands_intro ?_ ?_ | refine cx (isqrt_c (za := z) (s := s) (by rfl) (by rfl) (by rfl) (by omega) (by omega) (by omega) hs (Int.le_of_eq hz) (by omega)) ?_ | refine cx (imul_e (za := s) (zb := s) (by rfl) (by rfl) (by rfl) (by omega) (by rfl) (by rfl) (by rfl) (by omega) hz) ?_ | refine cx (icmp_e (za := z) (zb := z) (by rfl) (by rfl) (by rfl) (by omega) (by rfl) (by rfl) (by rfl) (by omega) (cmp_e z)) ?_ | refine cx (rSame_e (a := z) (b := z) (by omega) (by omega) (decide_eq_true rfl)) ?_)) <;> (try exact gF))
  exact rqq2 (rC ty24) rT
theorem side_n {z s : Int} (hz : 0 ≤ z) (hs : 0 ≤ s) (s1 : s * s < z) (s2 : z < (s + 1) * (s + 1)) (l : (dig (z.natAbs : Int)).length ≤ 50000) : HCallsD Tryz.prog 65 [] [.agg [.raw (.bool (decide (z < 0))), .sl (dig (z.natAbs : Int)).length false (ints .u32 (dig (z.natAbs : Int)))]] (.tup [aI s, .raw (.bool false)]) [] := by
  have h1 := sq_le hs (Int.le_of_lt s1)
  have ls : (dig (s.natAbs : Int)).length ≤ 50000 := Nat.le_trans (dig_le (by omega) (by omega)) l
  obtain ⟨m, hm⟩ : ∃ m, s * s = m := ⟨_, rfl⟩
  have m0 : 0 ≤ m := hm ▸ Int.mul_nonneg hs hs
  have lm : (dig (m.natAbs : Int)).length ≤ 50000 := Nat.le_trans (dig_le (by omega) (by omega)) l
  have hne : m ≠ z := by omega
  obtain ⟨c, hcc⟩ : ∃ c, cmpI m z = c := ⟨_, rfl⟩
  have hcn : c ≠ 0 := hcc ▸ cmp_ne hne
  refine cp1 (rs := [.cell 2 24, .tmp 3]) (nt := 22) Tryz.func65 (fun C hP hn => ?_)
  (have hXx := @hcn; (repeat' (first | refine gWx ?_ | (refine gIf ?_ ?_ <;> (intro hc; try exact gX)) | with_reducible refine br_intro ?_ ?_ | (with_reducible intro _; try exact gX) | with_reducible refine ands_intro ?_ ?_ | refine cx (isqrt_c (za := z) (s := s) (by rfl) (by rfl) (by rfl) (by omega) (by omega) hz hs (by omega) s2) ?_ | refine cx (imul_e (za := s) (zb := s) (by rfl) (by rfl) (by rfl) (by omega) (by rfl) (by rfl) (by rfl) (by omega) hm) ?_ | refine cx (icmp_e (za := m) (zb := z) (by rfl) (by rfl) (by rfl) (by omega) (by rfl) (by rfl) (by rfl) (by omega) hcc) ?_ | refine cx (rSame_e (a := m) (b := z) (by omega) (by omega) (decide_eq_false hne)) ?_)) <;> ((try clear hXx); try exact gF))
  exact rqq2 (rC ty24) rT
theorem perfect_y {z s : Int} (hs : 0 ≤ s) (hz : s * s = z) (l : (dig (z.natAbs : Int)).length ≤ 50000) : HCallsD Tryz.prog 66 [] [.agg [.raw (.bool (decide (z < 0))), .sl (dig (z.natAbs : Int)).length false (ints .u32 (dig (z.natAbs : Int)))]] (.tup [aI s, .raw (.bool true)]) [] := by
  have h1 := sq_le hs (Int.le_of_eq hz)
  have ls : (dig (s.natAbs : Int)).length ≤ 50000 := Nat.le_trans (dig_le (by omega) (by omega)) l
  have h2 := sqn_lt s hs
  refine cp1 (rs := [.cell 2 24, .tmp 3]) (nt := 21) Tryz.func66 (fun C hP hn => ?_)
  ((repeat' (first | refine gW ?_ | (refine gIf ?_ ?_ <;> (intro hc; try exact gX)) | with_reducible refine br_intro ?_ ?_ | (with_reducible intro _; try exact gX) | with_reducible refine ands_intro ?_ ?_ | refine cx (rsqrt_c (za := z) (s := s) (by rfl) (by rfl) (by rfl) (by omega) (by omega) (by omega) hs (Int.le_of_eq hz) (by omega)) ?_ | refine cx (rmul_e (za := s) (zb := s) (by rfl) (by rfl) (by rfl) (by omega) (by rfl) (by rfl) (by rfl) (by omega) hz) ?_ | refine cx (icmp_e (za := z) (zb := z) (by rfl) (by rfl) (by rfl) (by omega) (by rfl) (by rfl) (by rfl) (by omega) (cmp_e z)) ?_ | refine cx (rSame_e (a := z) (b := z) (by omega) (by omega) (decide_eq_true rfl)) ?_)) <;> (try exact gF))
  exact rqq2 (rC ty24) rT
theorem perfect_n {z s : Int} (hz : 0 ≤ z) (hs : 0 ≤ s) (s1 : s * s < z) (s2 : z < (s + 1) * (s + 1)) (l : (dig (z.natAbs : Int)).length ≤ 50000) : HCallsD Tryz.prog 66 [] [.agg [.raw (.bool (decide (z < 0))), .sl (dig (z.natAbs : Int)).length false (ints .u32 (dig (z.natAbs : Int)))]] (.tup [aI s, .raw (.bool false)]) [] := by
  have h1 := sq_le hs (Int.le_of_lt s1)
  have ls : (dig (s.natAbs : Int)).length ≤ 50000 := Nat.le_trans (dig_le (by omega) (by omega)) l
  obtain ⟨m, hm⟩ : ∃ m, s * s = m := ⟨_, rfl⟩
  have m0 : 0 ≤ m := hm ▸ Int.mul_nonneg hs hs
  have lm : (dig (m.natAbs : Int)).length ≤ 50000 := Nat.le_trans (dig_le (by omega) (by omega)) l
  have hne : m ≠ z := by omega
  obtain ⟨c, hcc⟩ : ∃ c, cmpI m z = c := ⟨_, rfl⟩
  have hcn : c ≠ 0 := hcc ▸ cmp_ne hne
  refine cp1 (rs := [.cell 2 24, .tmp 3]) (nt := 21) Tryz.func66 (fun C hP hn => ?_)
  (have hXx := @hcn; (repeat' (first | refine gWx ?_ | (refine gIf ?_ ?_ <;> (intro hc; try exact gX)) | with_reducible refine br_intro ?_ ?_ | (with_reducible intro _; try exact gX) | with_reducible refine ands_intro ?_ ?_ | refine cx (rsqrt_c (za := z) (s := s) (by rfl) (by rfl) (by rfl) (by omega) (by omega) hz hs (by omega) s2) ?_ | refine cx (rmul_e (za := s) (zb := s) (by rfl) (by rfl) (by rfl) (by omega) (by rfl) (by rfl) (by rfl) (by omega) hm) ?_ | refine cx (icmp_e (za := m) (zb := z) (by rfl) (by rfl) (by rfl) (by omega) (by rfl) (by rfl) (by rfl) (by omega) hcc) ?_ | refine cx (rSame_e (a := m) (b := z) (by omega) (by omega) (decide_eq_false hne)) ?_)) <;> ((try clear hXx); try exact gF))
  exact rqq2 (rC ty24) rT
theorem side_m {z : Int} (hz : z < 0) (l : (dig (z.natAbs : Int)).length ≤ 50000) : HCallsD Tryz.prog 65 [] [.agg [.raw (.bool (decide (z < 0))), .sl (dig (z.natAbs : Int)).length false (ints .u32 (dig (z.natAbs : Int)))]] (.tup [aI 0, .raw (.bool false)]) [] := by
  have h1 := isqrt_neg (za := z) (ba := decide (z < 0)) (na := (dig (z.natAbs : Int)).length) (xa := dig (z.natAbs : Int)) rfl rfl rfl (by omega) hz
  obtain ⟨z0, e0⟩ : ∃ z : Int, 0 = z := ⟨_, rfl⟩
  have e1 : aI 0 = aI z0 := by rw [e0]
  rw [e1] at h1 ⊢
  refine cp1 (rs := [.cell 2 24, .tmp 3]) (nt := 22) Tryz.func65 (fun C hP hn => ?_)
  ((repeat' (first | refine gW ?_ | (refine gIf ?_ ?_ <;> (intro hc; try exact gX)) | with_reducible refine br_intro ?_ ?_ | (with_reducible intro _; try exact gX) | with_reducible refine ands_intro ?_ ?_ | refine cx (h1) ?_)) <;> (try exact gF))
  exact rqq2 (rC ty24) rT
theorem perfect_m {z : Int} (hz : z < 0) (l : (dig (z.natAbs : Int)).length ≤ 50000) : HCallsD Tryz.prog 66 [] [.agg [.raw (.bool (decide (z < 0))), .sl (dig (z.natAbs : Int)).length false (ints .u32 (dig (z.natAbs : Int)))]] (.tup [aI 0, .raw (.bool false)]) [] := by
  have h1 := rsqrt_neg (za := z) (ba := decide (z < 0)) (na := (dig (z.natAbs : Int)).length) (xa := dig (z.natAbs : Int)) rfl rfl rfl (by omega) hz
  obtain ⟨z0, e0⟩ : ∃ z : Int, 0 = z := ⟨_, rfl⟩
  have e1 : aI 0 = aI z0 := by rw [e0]
  rw [e1] at h1 ⊢
  refine cp1 (rs := [.cell 2 24, .tmp 3]) (nt := 21) Tryz.func66 (fun C hP hn => ?_)
  ((repeat' (first | refine gW ?_ | (refine gIf ?_ ?_ <;> (intro hc; try exact gX)) | with_reducible refine br_intro ?_ ?_ | (with_reducible intro _; try exact gX) | with_reducible refine ands_intro ?_ ?_ | refine cx (h1) ?_)) <;> (try exact gF))
  exact rqq2 (rC ty24) rT
theorem root_ex (n : Nat) : ∃ s : Int, 0 ≤ s ∧ s * s ≤ (n : Int) ∧ (n : Int) < (s + 1) * (s + 1) := by
  induction n with
  | zero => exact ⟨0, by omega, by simp, by simp⟩
  | succ n ih =>
    obtain ⟨s, h0, h1, h2⟩ := ih
    rcases Int.lt_or_le ((n : Int) + 1) ((s + 1) * (s + 1)) with h | h
    · exact ⟨s, h0, by omega, by omega⟩
    · refine ⟨s + 1, by omega, by omega, ?_⟩
      have := sqn_lt (s + 1) (by omega)
      omega
/-- Both sides' answer: a root, or none. -/
theorem root_cases (z : Int) (l : (dig (z.natAbs : Int)).length ≤ 50000) : (∃ s, 0 ≤ s ∧ s * s = z ∧ HCallsD Tryz.prog 65 [] [.agg [.raw (.bool (decide (z < 0))), .sl (dig (z.natAbs : Int)).length false (ints .u32 (dig (z.natAbs : Int)))]] (.tup [aI s, .raw (.bool true)]) [] ∧ HCallsD Tryz.prog 66 [] [.agg [.raw (.bool (decide (z < 0))), .sl (dig (z.natAbs : Int)).length false (ints .u32 (dig (z.natAbs : Int)))]] (.tup [aI s, .raw (.bool true)]) []) ∨
    ((∀ s, s * s ≠ z) ∧ ∃ s, (dig (s.natAbs : Int)).length ≤ 50000 ∧ HCallsD Tryz.prog 65 [] [.agg [.raw (.bool (decide (z < 0))), .sl (dig (z.natAbs : Int)).length false (ints .u32 (dig (z.natAbs : Int)))]] (.tup [aI s, .raw (.bool false)]) [] ∧ HCallsD Tryz.prog 66 [] [.agg [.raw (.bool (decide (z < 0))), .sl (dig (z.natAbs : Int)).length false (ints .u32 (dig (z.natAbs : Int)))]] (.tup [aI s, .raw (.bool false)]) []) := by
  rcases Int.lt_or_le z 0 with h | h
  · refine .inr ⟨fun s hs => ?_, 0, by rw [dig_zero (by simp)]; simp, side_m h l, perfect_m h l⟩
    have : 0 ≤ s * s := by
      rcases Int.lt_or_le s 0 with k | k
      · exact Int.le_of_lt (Int.mul_pos_of_neg_of_neg k k)
      · exact Int.mul_nonneg k k
    omega
  · obtain ⟨s, h0, h1, h2⟩ := root_ex z.toNat
    rw [Int.toNat_of_nonneg h] at h1 h2
    rcases Int.lt_or_le (s * s) z with k | k
    · refine .inr ⟨fun t ht => ?_, s, Nat.le_trans (dig_le (by omega) ?_) l, side_n h h0 k h2 l, perfect_n h h0 k h2 l⟩
      · obtain ⟨u, hu0, hu⟩ : ∃ u : Int, 0 ≤ u ∧ u * u = z := by
          rcases Int.lt_or_le t 0 with q | q
          · exact ⟨-t, by omega, by rw [Int.neg_mul_neg]; exact ht⟩
          · exact ⟨t, q, ht⟩
        have e := root_unique h0 hu0 h1 h2 (Int.le_of_eq hu) (by have := sqn_lt u hu0; omega)
        subst e
        omega
      · have := sq_le h0 h1
        omega
    · have e : s * s = z := by omega
      exact .inl ⟨s, h0, e, side_y h0 e l, perfect_y h0 e l⟩
theorem sqrt_len {s z : Int} (hs : 0 ≤ s) (hz : s * s = z) : (dig (s.natAbs : Int)).length ≤ (dig (z.natAbs : Int)).length := by
  have h1 := sq_le hs (Int.le_of_eq hz)
  exact dig_le (by omega) (by omega)
/-- Sqrt, of both: a root, or none. -/
theorem xsqrt_y {p q s t : Int} (hs : 0 ≤ s) (hp : s * s = p) (ht : 0 ≤ t) (hq : t * t = q) (l : RL p q 50000) : HCallsD Tryz.prog 21 [] [.agg [.raw (.bool (decide (p < 0))), .sl (dig (p.natAbs : Int)).length false (ints .u32 (dig (p.natAbs : Int))), .raw (.bool (decide (q < 0))), .sl (dig (q.natAbs : Int)).length false (ints .u32 (dig (q.natAbs : Int)))]] (.tup [aR s t, .raw (.bool true)]) [] := by
  obtain ⟨l1, l2⟩ := l
  refine cp1 (rs := [.cell 2 26, .tmp 3]) (nt := 26) Tryz.func21 (fun C hP hn => ?_)
  ((repeat' (first | refine gW ?_ | (refine gIf ?_ ?_ <;> (intro hc; try exact gX)) | with_reducible refine br_intro ?_ ?_ | (with_reducible intro _; try exact gX) | with_reducible refine ands_intro ?_ ?_ | refine cx (side_y hs hp l1) ?_ | refine cx (side_y ht hq l2) ?_)) <;> (try exact gF))
  exact rqq2 (rC ty26) rT
theorem rxsqrt_y {p q s t : Int} (hs : 0 ≤ s) (hp : s * s = p) (ht : 0 ≤ t) (hq : t * t = q) (l : RL p q 50000) : HCallsD Tryz.prog 22 [] [.agg [.raw (.bool (decide (p < 0))), .sl (dig (p.natAbs : Int)).length false (ints .u32 (dig (p.natAbs : Int))), .raw (.bool (decide (q < 0))), .sl (dig (q.natAbs : Int)).length false (ints .u32 (dig (q.natAbs : Int)))]] (.tup [aR s t, .raw (.bool true)]) [] := by
  obtain ⟨l1, l2⟩ := l
  refine cp1 (rs := [.cell 2 26, .tmp 3]) (nt := 30) Tryz.func22 (fun C hP hn => ?_)
  ((repeat' (first | refine gW ?_ | (refine gIf ?_ ?_ <;> (intro hc; try exact gX)) | with_reducible refine br_intro ?_ ?_ | (with_reducible intro _; try exact gX) | with_reducible refine ands_intro ?_ ?_ | refine cx (perfect_y hs hp l1) ?_ | refine cx (perfect_y ht hq l2) ?_)) <;> (try exact gF))
  exact rqq2 (rC ty26) rT
theorem sqrt_cases {p q : Int} (l : RL p q 50000) : (∃ s t, 0 ≤ s ∧ s * s = p ∧ 0 ≤ t ∧ t * t = q) ∨ (HCallsD Tryz.prog 21 [] [.agg [.raw (.bool (decide (p < 0))), .sl (dig (p.natAbs : Int)).length false (ints .u32 (dig (p.natAbs : Int))), .raw (.bool (decide (q < 0))), .sl (dig (q.natAbs : Int)).length false (ints .u32 (dig (q.natAbs : Int)))]] (.tup [aR 0 0, .raw (.bool false)]) [] ∧ HCallsD Tryz.prog 22 [] [.agg [.raw (.bool (decide (p < 0))), .sl (dig (p.natAbs : Int)).length false (ints .u32 (dig (p.natAbs : Int))), .raw (.bool (decide (q < 0))), .sl (dig (q.natAbs : Int)).length false (ints .u32 (dig (q.natAbs : Int)))]] (.tup [aR 0 0, .raw (.bool false)]) []) := by
  obtain ⟨l1, l2⟩ := l
  rcases root_cases p l1 with ⟨s, s0, s1, a1, a2⟩ | ⟨_, s, ls, a1, a2⟩
  · rcases root_cases q l2 with ⟨t, t0, t1, b1, b2⟩ | ⟨_, t, lt, b1, b2⟩
    · exact .inl ⟨s, t, s0, s1, t0, t1⟩
    · refine .inr ⟨?_, ?_⟩
      · refine cp1 (rs := [.cell 2 26, .tmp 3]) (nt := 26) Tryz.func21 (fun C hP hn => ?_)
        ((repeat' (first | refine gW ?_ | (refine gIf ?_ ?_ <;> (intro hc; try exact gX)) | with_reducible refine br_intro ?_ ?_ | (with_reducible intro _; try exact gX) | with_reducible refine ands_intro ?_ ?_ | refine cx (a1) ?_ | refine cx (b1) ?_)) <;> (try exact gF))
        exact rqq2 (rC ty26) rT
      · refine cp1 (rs := [.cell 2 26, .tmp 3]) (nt := 30) Tryz.func22 (fun C hP hn => ?_)
        ((repeat' (first | refine gW ?_ | (refine gIf ?_ ?_ <;> (intro hc; try exact gX)) | with_reducible refine br_intro ?_ ?_ | (with_reducible intro _; try exact gX) | with_reducible refine ands_intro ?_ ?_ | refine cx (a2) ?_ | refine cx (b2) ?_)) <;> (try exact gF))
        exact rqq2 (rC ty26) rT
  · rcases root_cases q l2 with ⟨t, t0, t1, b1, b2⟩ | ⟨_, t, lt, b1, b2⟩
    · refine .inr ⟨?_, ?_⟩
      · refine cp1 (rs := [.cell 2 26, .tmp 3]) (nt := 26) Tryz.func21 (fun C hP hn => ?_)
        ((repeat' (first | refine gW ?_ | (refine gIf ?_ ?_ <;> (intro hc; try exact gX)) | with_reducible refine br_intro ?_ ?_ | (with_reducible intro _; try exact gX) | with_reducible refine ands_intro ?_ ?_ | refine cx (a1) ?_ | refine cx (b1) ?_)) <;> (try exact gF))
        exact rqq2 (rC ty26) rT
      · refine cp1 (rs := [.cell 2 26, .tmp 3]) (nt := 30) Tryz.func22 (fun C hP hn => ?_)
        ((repeat' (first | refine gW ?_ | (refine gIf ?_ ?_ <;> (intro hc; try exact gX)) | with_reducible refine br_intro ?_ ?_ | (with_reducible intro _; try exact gX) | with_reducible refine ands_intro ?_ ?_ | refine cx (a2) ?_ | refine cx (b2) ?_)) <;> (try exact gF))
        exact rqq2 (rC ty26) rT
    · refine .inr ⟨?_, ?_⟩
      · refine cp1 (rs := [.cell 2 26, .tmp 3]) (nt := 26) Tryz.func21 (fun C hP hn => ?_)
        ((repeat' (first | refine gW ?_ | (refine gIf ?_ ?_ <;> (intro hc; try exact gX)) | with_reducible refine br_intro ?_ ?_ | (with_reducible intro _; try exact gX) | with_reducible refine ands_intro ?_ ?_ | refine cx (a1) ?_ | refine cx (b1) ?_)) <;> (try exact gF))
        exact rqq2 (rC ty26) rT
      · refine cp1 (rs := [.cell 2 26, .tmp 3]) (nt := 30) Tryz.func22 (fun C hP hn => ?_)
        ((repeat' (first | refine gW ?_ | (refine gIf ?_ ?_ <;> (intro hc; try exact gX)) | with_reducible refine br_intro ?_ ?_ | (with_reducible intro _; try exact gX) | with_reducible refine ands_intro ?_ ?_ | refine cx (a2) ?_ | refine cx (b2) ?_)) <;> (try exact gF))
        exact rqq2 (rC ty26) rT
theorem inverse_c {p q n d : Int} {a : Rat} (ha : IsR p q a) (h0 : p ≠ 0) (hr : IsR n d a⁻¹) (l : RL p q 50000) : HCallsD Tryz.prog 100 [] [.agg [.raw (.bool (decide (p < 0))), .sl (dig (p.natAbs : Int)).length false (ints .u32 (dig (p.natAbs : Int))), .raw (.bool (decide (q < 0))), .sl (dig (q.natAbs : Int)).length false (ints .u32 (dig (q.natAbs : Int)))]] (aR n d) [] := by
  obtain ⟨l1, l2⟩ := l
  rw [Rat.inv_def, ← ha.1, ← ha.2] at hr
  refine cp1 (rs := [.cell 2 26]) (nt := 8) Tryz.func100 (fun C hP hn => ?_)
  ((repeat' (first | refine gW ?_ | (refine gIf ?_ ?_ <;> (intro hc; try exact gX)) | with_reducible refine br_intro ?_ ?_ | (with_reducible intro _; try exact gX) | with_reducible refine ands_intro ?_ ?_ | refine cx (reduce_c (p := q) (q := p) h0 hr ⟨by omega, by omega⟩) ?_)) <;> (try exact gF))
  exact rqq1 (rC ty26)
end Go.Proofs.YtfmebdmgnmogaaaGreatDoor
