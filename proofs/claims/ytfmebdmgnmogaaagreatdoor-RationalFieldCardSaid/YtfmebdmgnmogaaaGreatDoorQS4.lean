/- The reference's Parse: the contract. No statement of its own. -/
import Derived.Test.YtfmebdmgnmogaaaGreatDoorQS3
import Derived.Test.YtfmebdmgnmogaaaGreatDoorQI12
set_option linter.unusedVariables false
set_option linter.unusedSimpArgs false
set_option linter.unusedSimpArgs false
set_option linter.unusedVariables false
set_option maxRecDepth 100000
set_option maxHeartbeats 8000000
namespace Go.Proofs.YtfmebdmgnmogaaaGreatDoor
open Go Go.RowKit Hv

theorem take_drop1 (l : List UInt8) : (l.take l.length).drop 1 = l.drop 1 := by rw [List.take_of_length_le (Nat.le_refl _)]
theorem rbad_1 {l : List UInt8} (hl : l.length ≤ 1000) (h0 : 0 < l.length) (hm : ((l.getD 0 0).toNat : Int) = 45) (hlB : l.drop 1 = []) : HCallsD Tryz.prog 85 [] [.raw (.string (bs l))] (.tup [aI 0, .raw (.int .i64 2)]) [] := by
  refine cp1 (rs := [.cell 2 24, .tmp 3]) (nt := 95) Tryz.func85 (fun C hP hn => ?_)
  (have hXx := And.intro @hm (And.intro @take_drop1 (@hlB)); (repeat' (first | refine gWx ?_ | (refine gIf ?_ ?_ <;> (intro hc; try exact gX)) | with_reducible refine br_intro ?_ ?_ | (with_reducible intro _; try exact gX) | with_reducible refine ands_intro ?_ ?_)) <;> ((try clear hXx); try exact gF))
  exact rqq2 (rC ty24) rT
theorem rbad_2 {l B : List UInt8} (hl : l.length ≤ 1000) (h0 : 0 < l.length) (hm : ((l.getD 0 0).toNat : Int) = 45) (hlB : l.drop 1 = B) (hne : B ≠ []) (h1 : 0 < B.length) (hz : ((B.getD 0 0).toNat : Int) = 48) (hl1 : l ≠ [48]) : HCallsD Tryz.prog 85 [] [.raw (.string (bs l))] (.tup [aI 0, .raw (.int .i64 2)]) [] := by
  refine cp1 (rs := [.cell 2 24, .tmp 3]) (nt := 95) Tryz.func85 (fun C hP hn => ?_)
  (have hXx := And.intro @hm (And.intro @take_drop1 (And.intro @hlB (And.intro @hne (And.intro @hz (@hl1))))); (repeat' (first | refine gWx ?_ | (refine gIf ?_ ?_ <;> (intro hc; try exact gX)) | with_reducible refine br_intro ?_ ?_ | (with_reducible intro _; try exact gX) | with_reducible refine ands_intro ?_ ?_)) <;> ((try clear hXx); try exact gF))
  exact rqq2 (rC ty24) rT
theorem rbad_3 : HCallsD Tryz.prog 85 [] [.raw (.string (bs []))] (.tup [aI 0, .raw (.int .i64 2)]) [] := by
  refine cp1 (rs := [.cell 2 24, .tmp 3]) (nt := 95) Tryz.func85 (fun C hP hn => ?_)
  (have hXx := @List.length_nil.{0}; (repeat' (first | refine gWx ?_ | (refine gIf ?_ ?_ <;> (intro hc; try exact gX)) | with_reducible refine br_intro ?_ ?_ | (with_reducible intro _; try exact gX) | with_reducible refine ands_intro ?_ ?_)) <;> ((try clear hXx); try exact gF))
  exact rqq2 (rC ty24) rT
theorem rbad_4 {l : List UInt8} (hl : l.length ≤ 1000) (h0 : 0 < l.length) (hne : l ≠ []) (hz : ((l.getD 0 0).toNat : Int) = 48) (hl1 : l ≠ [48]) : HCallsD Tryz.prog 85 [] [.raw (.string (bs l))] (.tup [aI 0, .raw (.int .i64 2)]) [] := by
  refine cp1 (rs := [.cell 2 24, .tmp 3]) (nt := 95) Tryz.func85 (fun C hP hn => ?_)
  (have hXx := And.intro @hne (And.intro @hz (@hl1)); (repeat' (first | refine gWx ?_ | (refine gIf ?_ ?_ <;> (intro hc; try exact gX)) | with_reducible refine br_intro ?_ ?_ | (with_reducible intro _; try exact gX) | with_reducible refine ands_intro ?_ ?_)) <;> ((try clear hXx); try exact gF))
  exact rqq2 (rC ty24) rT

theorem P9_mul0 {q : Nat} {A Z : Int} (h0 : 0 ≤ A) (h1 : A < P9 q) (h : A = P9 q * Z) : Z = 0 := by
  have hp := P9_pos q
  rcases Int.lt_or_le 0 Z with hz | hz
  · have : P9 q * 1 ≤ P9 q * Z := Int.mul_le_mul_of_nonneg_left (by omega) (by omega)
    omega
  · rcases Int.lt_or_le Z 0 with h2 | h2
    · have : P9 q * Z ≤ P9 q * (-1) := Int.mul_le_mul_of_nonneg_left (by omega) (by omega)
      omega
    · omega
theorem limb_room {out : List Int} {q k : Nat} {v d : Int} (hL : Lim out) (hq : q < out.length) (hk : k ≤ 8) (hV : V out = v * p10 (9 * q + (k + 1))) (h0 : 0 ≤ d) (h9 : d ≤ 9) : 0 ≤ out.getD q 0 + d * p10 k ∧ out.getD q 0 + d * p10 k < 1000000000 := by
  have h1 := V_cut (xs := out) q hq
  have h2 := V_nonneg (hL.take q)
  have h3 := V_lt (hL.take q)
  rw [List.length_take, Nat.min_eq_left (by omega)] at h3
  have h4 := hL.getA q
  have h5 : V (out.take q) = P9 q * (v * p10 (k + 1) - (out.getD q 0 + 1000000000 * V (out.drop (q + 1)))) := by
    rw [Int.mul_sub, ← Int.mul_assoc, Int.mul_comm (P9 q) v, Int.mul_assoc v, ← p10_9, ← p10_add, p10_9]
    omega
  have h6 := P9_mul0 h2 h3 h5
  generalize V (out.drop (q + 1)) = D at h6
  generalize out.getD q 0 = x at *
  obtain rfl | rfl | rfl | rfl | rfl | rfl | rfl | rfl | rfl : k = 0 ∨ k = 1 ∨ k = 2 ∨ k = 3 ∨ k = 4 ∨ k = 5 ∨ k = 6 ∨ k = 7 ∨ k = 8 := by omega
  all_goals (simp only [p10, Nat.zero_add, Nat.reduceAdd] at h6 ⊢; omega)
theorem p10_small {k : Nat} (h : k < 8) : 0 < p10 k ∧ p10 k ≤ 10000000 := by
  refine ⟨p10_pos k, ?_⟩
  have : p10 k ≤ p10 7 := p10_le (by omega)
  have e : p10 7 = 10000000 := by decide
  omega
theorem p10_small9 {k : Nat} (h : k < 9) : 0 < p10 k ∧ p10 k ≤ 100000000 := by
  refine ⟨p10_pos k, ?_⟩
  have : p10 k ≤ p10 8 := p10_le (by omega)
  have e : p10 8 = 100000000 := by decide
  omega
theorem rparse_mainA {l B : List UInt8} (hl : l.length ≤ 1000) (h0 : 0 < B.length) (hle : B.length ≤ l.length) (hm :  ((l.getD 0 0).toNat : Int) = 45) (hok : okP l = allD B) (hy : okP l → pz l = sgnd true (vd B) ∧ pe l = 0) (hne : B ≠ []) (hz : ¬ ((B.getD 0 0).toNat : Int) = 48) (hlB : l.drop 1 = B) : HCallsD Tryz.prog 85 [] [.raw (.string (bs l))] (.tup [aI (pz l), .raw (.int .i64 (pe l))]) [] := by
  obtain ⟨K, hK⟩ : ∃ K, K = B.length / 9 + 1 := ⟨_, rfl⟩
  refine cp1 (rs := [.cell 2 24, .tmp 3]) (nt := 95) Tryz.func85 (fun C hP hn => ?_)
  have hKe : ((B.length : Int) / 9 + 1).toNat = K := by omega
  (have hXx := And.intro @hm (And.intro @take_drop1 (And.intro @hlB (And.intro @hne (And.intro @hz (@hKe))))); (repeat' (first | refine gWx ?_ | (refine gIf ?_ ?_ <;> (intro hc; try exact gX)) | with_reducible refine br_intro ?_ ?_ | (with_reducible intro _; try exact gX) | with_reducible refine ands_intro ?_ ?_)) <;> ((try clear hXx); try exact gF))
  refine hwp_loopS (fun x : Nat × List Int => ⟨lk [(0, .raw (.string (bs l))), (2, .ptr 0 0), (4, .raw (.string (bs B))), (5, .own 1 0 K true), (6, .raw (.int .i64 x.1))],
    hlk [(0, { al := true, live := true, wb := true, elem := 24, cells := [.raw (.bool false), .sl 0 true []] }), (1, { al := true, live := true, wb := true, grow := true, elem := 62, sz := 1, cells := ints .u32 x.2 })], 2, 95⟩)
    (fun x => x.1 ≤ B.length ∧ x.2.length = K ∧ Lim x.2 ∧ V x.2 = vd (B.take x.1) * p10 (B.length - x.1) ∧ allD (B.take x.1)) (fun x => B.length - x.1)
    ⟨(0, List.replicate K 0), ⟨Nat.zero_le _, by simp, Lim.zeros _, by simp [vd, V_zeros], by simp [allD]⟩, by exact cvS hn (.ptr 0 2 rfl (.own 1 5 rfl .nil))⟩ ?_
  rintro ⟨i, out⟩ ⟨g1, g2, g3, g4, g5⟩
  simp only at g1 g2 g3 g4 g5
  rcases Nat.lt_or_ge i B.length with hi | hi
  · obtain ⟨r, hr⟩ : ∃ r : Nat, B.length - 1 - i = r := ⟨_, rfl⟩
    ((repeat' (first | refine gW ?_ | (refine gIf ?_ ?_ <;> (intro hc; try exact gX)) | with_reducible refine br_intro ?_ ?_ | (with_reducible intro _; try exact gX) | with_reducible refine ands_intro ?_ ?_)) <;> (try exact gF))
    · rw [(no_digit hok hi (by omega)).1, (no_digit hok hi (by omega)).2]
      exact rqq2 (rC ty24) rT
    · have v4 : 48 ≤ ((B.getD i 0).toNat : Int) ∧ ((B.getD i 0).toNat : Int) ≤ 57 := by omega
      refine hwp_loopS (fun k : Nat => ⟨lk [(0, .raw (.string (bs l))), (2, .ptr 0 0), (4, .raw (.string (bs B))), (5, .own 1 0 K true), (6, .raw (.int .i64 i)), (7, .raw (.int .i64 r)), (8, .raw (.int .u32 (p10 k))), (9, .raw (.int .i64 k))],
        hlk [(0, { al := true, live := true, wb := true, elem := 24, cells := [.raw (.bool false), .sl 0 true []] }), (1, { al := true, live := true, wb := true, grow := true, elem := 62, sz := 1, cells := ints .u32 out })], 2, 95⟩)
        (fun k => k ≤ r % 9) (fun k => r % 9 - k) ⟨0, Nat.zero_le _, by exact cvS hn (.ptr 0 2 rfl (.own 1 5 rfl .nil))⟩ ?_
      intro k hk
      rcases Nat.lt_or_ge k (r % 9) with hk2 | hk2
      · have h8 := p10_small (k := k) (by omega)
        ((repeat' (first | refine gW ?_ | (refine gIf ?_ ?_ <;> (intro hc; try exact gX)) | with_reducible refine br_intro ?_ ?_ | (with_reducible intro _; try exact gX) | with_reducible refine ands_intro ?_ ?_)) <;> (try exact gF))
        refine ⟨k + 1, by omega, by omega, ?_⟩
        rw [show p10 (k + 1) = p10 k * 10 from Int.mul_comm _ _]
        exact cvS hn (.ptr 0 2 rfl (.own 1 5 rfl .nil))
      · have hkr : k = r % 9 := by omega
        have hq : r / 9 < K := by omega
        have h8 : 0 < p10 k ∧ p10 k ≤ 100000000 := p10_small9 (by omega)
        have hV2 : V out = vd (B.take i) * p10 (9 * (r / 9) + (k + 1)) := by rw [g4]; congr 2; omega
        have hrm := limb_room (d := ((B.getD i 0).toNat : Int) - 48) g3 (q := r / 9) (by omega) (by omega) hV2 (by omega) (by omega)
        have hpr : 0 ≤ (((B.getD i 0).toNat : Int) - 48) * p10 k := Int.mul_nonneg (by omega) (by omega)
        have hpr2 : (((B.getD i 0).toNat : Int) - 48) * p10 k ≤ 9 * 100000000 := Int.mul_le_mul (by omega) h8.2 (by omega) (by omega)
        have hcell := g3.getA (r / 9)
        have hn9 : ((r : Int) / 9).toNat = r / 9 := by omega
        (have hXx := @hn9; (repeat' (first | refine gWx ?_ | (refine gIf ?_ ?_ <;> (intro hc; try exact gX)) | with_reducible refine br_intro ?_ ?_ | (with_reducible intro _; try exact gX) | with_reducible refine ands_intro ?_ ?_)) <;> ((try clear hXx); try exact gF))
        refine ⟨(i + 1, out.set (r / 9) (out.getD (r / 9) 0 + (((B.getD i 0).toNat : Int) - 48) * p10 k)), by first | omega | (simp only; omega), ⟨by first | omega | (simp only; omega), by simp only [List.length_set]; exact g2, g3.set hrm.1 hrm.2, ?_, allD_step g5 hi (by omega) (by omega)⟩, ?_⟩
        · simp only
          rw [V_set (by omega), vd_take hi, hV2, show B.length - (i + 1) = r by omega, show 9 * (r / 9) + (k + 1) = r + 1 by omega]
          have e1 : P9 (r / 9) * (out.getD (r / 9) 0 + (((B.getD i 0).toNat : Int) - 48) * p10 k - out.getD (r / 9) 0) = (((B.getD i 0).toNat : Int) - 48) * p10 r := by
            rw [Int.add_comm, Int.add_sub_cancel, Int.mul_left_comm, ← p10_9, ← p10_add, show 9 * (r / 9) + k = r by omega]
          rw [e1]
          show _ * (10 * p10 r) + _ = _
          rw [Int.add_mul, Int.mul_assoc 10, Int.mul_left_comm]
        · exact cvS hn (.ptr 0 2 rfl (.own 1 5 rfl .nil))
    · rw [(no_digit hok hi (by omega)).1, (no_digit hok hi (by omega)).2]
      exact rqq2 (rC ty24) rT
  · have hall : allD B := by rw [List.take_of_length_le (by omega)] at g5; exact g5
    obtain ⟨y1, y2⟩ := hy (by rw [hok]; exact hall)
    rw [y1, y2]
    rw [List.take_of_length_le (by omega), show B.length - i = 0 by omega] at g4
    have g6 : V out = vd B := by rw [g4]; simp [p10]
    have hvd := vd_bound hall
    have g7 : List.take K out = out := List.take_of_length_le (by omega)
    (have hXx := And.intro @hm (@g7); (repeat' (first | refine gWx ?_ | (refine gIf ?_ ?_ <;> (intro hc; try exact gX)) | with_reducible refine br_intro ?_ ?_ | (with_reducible intro _; try exact gX) | with_reducible refine ands_intro ?_ ?_ | refine cx (rsigned_e (by omega) (by omega) g3 (z := sgnd true (vd B)) (by rw [g6])) ?_)) <;> ((try clear hXx); try exact gF))
    exact rqq2 (rC ty24) rT
theorem rparse_mainB {l : List UInt8} (hl : l.length ≤ 1000) (h0 : 0 < l.length) (hle : l.length ≤ l.length) (hm : ¬ ((l.getD 0 0).toNat : Int) = 45) (hok : okP l = allD l) (hy : okP l → pz l = sgnd false (vd l) ∧ pe l = 0) (hne : l ≠ []) (hz : ¬ ((l.getD 0 0).toNat : Int) = 48)   : HCallsD Tryz.prog 85 [] [.raw (.string (bs l))] (.tup [aI (pz l), .raw (.int .i64 (pe l))]) [] := by
  obtain ⟨K, hK⟩ : ∃ K, K = l.length / 9 + 1 := ⟨_, rfl⟩
  refine cp1 (rs := [.cell 2 24, .tmp 3]) (nt := 95) Tryz.func85 (fun C hP hn => ?_)
  have hKe : ((l.length : Int) / 9 + 1).toNat = K := by omega
  (have hXx := And.intro @hm (And.intro @hne (And.intro @hz (@hKe))); (repeat' (first | refine gWx ?_ | (refine gIf ?_ ?_ <;> (intro hc; try exact gX)) | with_reducible refine br_intro ?_ ?_ | (with_reducible intro _; try exact gX) | with_reducible refine ands_intro ?_ ?_)) <;> ((try clear hXx); try exact gF))
  refine hwp_loopS (fun x : Nat × List Int => ⟨lk [(0, .raw (.string (bs l))), (2, .ptr 0 0), (4, .raw (.string (bs l))), (5, .own 1 0 K true), (6, .raw (.int .i64 x.1))],
    hlk [(0, { al := true, live := true, wb := true, elem := 24, cells := [.raw (.bool false), .sl 0 true []] }), (1, { al := true, live := true, wb := true, grow := true, elem := 62, sz := 1, cells := ints .u32 x.2 })], 2, 95⟩)
    (fun x => x.1 ≤ l.length ∧ x.2.length = K ∧ Lim x.2 ∧ V x.2 = vd (l.take x.1) * p10 (l.length - x.1) ∧ allD (l.take x.1)) (fun x => l.length - x.1)
    ⟨(0, List.replicate K 0), ⟨Nat.zero_le _, by simp, Lim.zeros _, by simp [vd, V_zeros], by simp [allD]⟩, by exact cvS hn (.ptr 0 2 rfl (.own 1 5 rfl .nil))⟩ ?_
  rintro ⟨i, out⟩ ⟨g1, g2, g3, g4, g5⟩
  simp only at g1 g2 g3 g4 g5
  rcases Nat.lt_or_ge i l.length with hi | hi
  · obtain ⟨r, hr⟩ : ∃ r : Nat, l.length - 1 - i = r := ⟨_, rfl⟩
    ((repeat' (first | refine gW ?_ | (refine gIf ?_ ?_ <;> (intro hc; try exact gX)) | with_reducible refine br_intro ?_ ?_ | (with_reducible intro _; try exact gX) | with_reducible refine ands_intro ?_ ?_)) <;> (try exact gF))
    · rw [(no_digit hok hi (by omega)).1, (no_digit hok hi (by omega)).2]
      exact rqq2 (rC ty24) rT
    · have v4 : 48 ≤ ((l.getD i 0).toNat : Int) ∧ ((l.getD i 0).toNat : Int) ≤ 57 := by omega
      refine hwp_loopS (fun k : Nat => ⟨lk [(0, .raw (.string (bs l))), (2, .ptr 0 0), (4, .raw (.string (bs l))), (5, .own 1 0 K true), (6, .raw (.int .i64 i)), (7, .raw (.int .i64 r)), (8, .raw (.int .u32 (p10 k))), (9, .raw (.int .i64 k))],
        hlk [(0, { al := true, live := true, wb := true, elem := 24, cells := [.raw (.bool false), .sl 0 true []] }), (1, { al := true, live := true, wb := true, grow := true, elem := 62, sz := 1, cells := ints .u32 out })], 2, 95⟩)
        (fun k => k ≤ r % 9) (fun k => r % 9 - k) ⟨0, Nat.zero_le _, by exact cvS hn (.ptr 0 2 rfl (.own 1 5 rfl .nil))⟩ ?_
      intro k hk
      rcases Nat.lt_or_ge k (r % 9) with hk2 | hk2
      · have h8 := p10_small (k := k) (by omega)
        ((repeat' (first | refine gW ?_ | (refine gIf ?_ ?_ <;> (intro hc; try exact gX)) | with_reducible refine br_intro ?_ ?_ | (with_reducible intro _; try exact gX) | with_reducible refine ands_intro ?_ ?_)) <;> (try exact gF))
        refine ⟨k + 1, by omega, by omega, ?_⟩
        rw [show p10 (k + 1) = p10 k * 10 from Int.mul_comm _ _]
        exact cvS hn (.ptr 0 2 rfl (.own 1 5 rfl .nil))
      · have hkr : k = r % 9 := by omega
        have hq : r / 9 < K := by omega
        have h8 : 0 < p10 k ∧ p10 k ≤ 100000000 := p10_small9 (by omega)
        have hV2 : V out = vd (l.take i) * p10 (9 * (r / 9) + (k + 1)) := by rw [g4]; congr 2; omega
        have hrm := limb_room (d := ((l.getD i 0).toNat : Int) - 48) g3 (q := r / 9) (by omega) (by omega) hV2 (by omega) (by omega)
        have hpr : 0 ≤ (((l.getD i 0).toNat : Int) - 48) * p10 k := Int.mul_nonneg (by omega) (by omega)
        have hpr2 : (((l.getD i 0).toNat : Int) - 48) * p10 k ≤ 9 * 100000000 := Int.mul_le_mul (by omega) h8.2 (by omega) (by omega)
        have hcell := g3.getA (r / 9)
        have hn9 : ((r : Int) / 9).toNat = r / 9 := by omega
        (have hXx := @hn9; (repeat' (first | refine gWx ?_ | (refine gIf ?_ ?_ <;> (intro hc; try exact gX)) | with_reducible refine br_intro ?_ ?_ | (with_reducible intro _; try exact gX) | with_reducible refine ands_intro ?_ ?_)) <;> ((try clear hXx); try exact gF))
        refine ⟨(i + 1, out.set (r / 9) (out.getD (r / 9) 0 + (((l.getD i 0).toNat : Int) - 48) * p10 k)), by first | omega | (simp only; omega), ⟨by first | omega | (simp only; omega), by simp only [List.length_set]; exact g2, g3.set hrm.1 hrm.2, ?_, allD_step g5 hi (by omega) (by omega)⟩, ?_⟩
        · simp only
          rw [V_set (by omega), vd_take hi, hV2, show l.length - (i + 1) = r by omega, show 9 * (r / 9) + (k + 1) = r + 1 by omega]
          have e1 : P9 (r / 9) * (out.getD (r / 9) 0 + (((l.getD i 0).toNat : Int) - 48) * p10 k - out.getD (r / 9) 0) = (((l.getD i 0).toNat : Int) - 48) * p10 r := by
            rw [Int.add_comm, Int.add_sub_cancel, Int.mul_left_comm, ← p10_9, ← p10_add, show 9 * (r / 9) + k = r by omega]
          rw [e1]
          show _ * (10 * p10 r) + _ = _
          rw [Int.add_mul, Int.mul_assoc 10, Int.mul_left_comm]
        · exact cvS hn (.ptr 0 2 rfl (.own 1 5 rfl .nil))
    · rw [(no_digit hok hi (by omega)).1, (no_digit hok hi (by omega)).2]
      exact rqq2 (rC ty24) rT
  · have hall : allD l := by rw [List.take_of_length_le (by omega)] at g5; exact g5
    obtain ⟨y1, y2⟩ := hy (by rw [hok]; exact hall)
    rw [y1, y2]
    rw [List.take_of_length_le (by omega), show l.length - i = 0 by omega] at g4
    have g6 : V out = vd l := by rw [g4]; simp [p10]
    have hvd := vd_bound hall
    have g7 : List.take K out = out := List.take_of_length_le (by omega)
    (have hXx := And.intro @hm (@g7); (repeat' (first | refine gWx ?_ | (refine gIf ?_ ?_ <;> (intro hc; try exact gX)) | with_reducible refine br_intro ?_ ?_ | (with_reducible intro _; try exact gX) | with_reducible refine ands_intro ?_ ?_ | refine cx (rsigned_e (by omega) (by omega) g3 (z := sgnd false (vd l)) (by rw [g6])) ?_)) <;> ((try clear hXx); try exact gF))
    exact rqq2 (rC ty24) rT
theorem rparse_mainC {l : List UInt8} (hl : l.length ≤ 1000) (h0 : 0 < l.length) (hle : l.length ≤ l.length) (hm : ¬ ((l.getD 0 0).toNat : Int) = 45) (hok : okP l = allD l) (hy : okP l → pz l = sgnd false (vd l) ∧ pe l = 0) (hne : l ≠ []) (hz :  ((l.getD 0 0).toNat : Int) = 48) (hl1 : (l = [48]) = True) : HCallsD Tryz.prog 85 [] [.raw (.string (bs l))] (.tup [aI (pz l), .raw (.int .i64 (pe l))]) [] := by
  obtain ⟨K, hK⟩ : ∃ K, K = l.length / 9 + 1 := ⟨_, rfl⟩
  refine cp1 (rs := [.cell 2 24, .tmp 3]) (nt := 95) Tryz.func85 (fun C hP hn => ?_)
  have hKe : ((l.length : Int) / 9 + 1).toNat = K := by omega
  (have hXx := And.intro @hm (And.intro @hne (And.intro @hz (And.intro @hl1 (@hKe)))); (repeat' (first | refine gWx ?_ | (refine gIf ?_ ?_ <;> (intro hc; try exact gX)) | with_reducible refine br_intro ?_ ?_ | (with_reducible intro _; try exact gX) | with_reducible refine ands_intro ?_ ?_)) <;> ((try clear hXx); try exact gF))
  refine hwp_loopS (fun x : Nat × List Int => ⟨lk [(0, .raw (.string (bs l))), (2, .ptr 0 0), (4, .raw (.string (bs l))), (5, .own 1 0 K true), (6, .raw (.int .i64 x.1))],
    hlk [(0, { al := true, live := true, wb := true, elem := 24, cells := [.raw (.bool false), .sl 0 true []] }), (1, { al := true, live := true, wb := true, grow := true, elem := 62, sz := 1, cells := ints .u32 x.2 })], 2, 95⟩)
    (fun x => x.1 ≤ l.length ∧ x.2.length = K ∧ Lim x.2 ∧ V x.2 = vd (l.take x.1) * p10 (l.length - x.1) ∧ allD (l.take x.1)) (fun x => l.length - x.1)
    ⟨(0, List.replicate K 0), ⟨Nat.zero_le _, by simp, Lim.zeros _, by simp [vd, V_zeros], by simp [allD]⟩, by exact cvS hn (.ptr 0 2 rfl (.own 1 5 rfl .nil))⟩ ?_
  rintro ⟨i, out⟩ ⟨g1, g2, g3, g4, g5⟩
  simp only at g1 g2 g3 g4 g5
  rcases Nat.lt_or_ge i l.length with hi | hi
  · obtain ⟨r, hr⟩ : ∃ r : Nat, l.length - 1 - i = r := ⟨_, rfl⟩
    ((repeat' (first | refine gW ?_ | (refine gIf ?_ ?_ <;> (intro hc; try exact gX)) | with_reducible refine br_intro ?_ ?_ | (with_reducible intro _; try exact gX) | with_reducible refine ands_intro ?_ ?_)) <;> (try exact gF))
    · rw [(no_digit hok hi (by omega)).1, (no_digit hok hi (by omega)).2]
      exact rqq2 (rC ty24) rT
    · have v4 : 48 ≤ ((l.getD i 0).toNat : Int) ∧ ((l.getD i 0).toNat : Int) ≤ 57 := by omega
      refine hwp_loopS (fun k : Nat => ⟨lk [(0, .raw (.string (bs l))), (2, .ptr 0 0), (4, .raw (.string (bs l))), (5, .own 1 0 K true), (6, .raw (.int .i64 i)), (7, .raw (.int .i64 r)), (8, .raw (.int .u32 (p10 k))), (9, .raw (.int .i64 k))],
        hlk [(0, { al := true, live := true, wb := true, elem := 24, cells := [.raw (.bool false), .sl 0 true []] }), (1, { al := true, live := true, wb := true, grow := true, elem := 62, sz := 1, cells := ints .u32 out })], 2, 95⟩)
        (fun k => k ≤ r % 9) (fun k => r % 9 - k) ⟨0, Nat.zero_le _, by exact cvS hn (.ptr 0 2 rfl (.own 1 5 rfl .nil))⟩ ?_
      intro k hk
      rcases Nat.lt_or_ge k (r % 9) with hk2 | hk2
      · have h8 := p10_small (k := k) (by omega)
        ((repeat' (first | refine gW ?_ | (refine gIf ?_ ?_ <;> (intro hc; try exact gX)) | with_reducible refine br_intro ?_ ?_ | (with_reducible intro _; try exact gX) | with_reducible refine ands_intro ?_ ?_)) <;> (try exact gF))
        refine ⟨k + 1, by omega, by omega, ?_⟩
        rw [show p10 (k + 1) = p10 k * 10 from Int.mul_comm _ _]
        exact cvS hn (.ptr 0 2 rfl (.own 1 5 rfl .nil))
      · have hkr : k = r % 9 := by omega
        have hq : r / 9 < K := by omega
        have h8 : 0 < p10 k ∧ p10 k ≤ 100000000 := p10_small9 (by omega)
        have hV2 : V out = vd (l.take i) * p10 (9 * (r / 9) + (k + 1)) := by rw [g4]; congr 2; omega
        have hrm := limb_room (d := ((l.getD i 0).toNat : Int) - 48) g3 (q := r / 9) (by omega) (by omega) hV2 (by omega) (by omega)
        have hpr : 0 ≤ (((l.getD i 0).toNat : Int) - 48) * p10 k := Int.mul_nonneg (by omega) (by omega)
        have hpr2 : (((l.getD i 0).toNat : Int) - 48) * p10 k ≤ 9 * 100000000 := Int.mul_le_mul (by omega) h8.2 (by omega) (by omega)
        have hcell := g3.getA (r / 9)
        have hn9 : ((r : Int) / 9).toNat = r / 9 := by omega
        (have hXx := @hn9; (repeat' (first | refine gWx ?_ | (refine gIf ?_ ?_ <;> (intro hc; try exact gX)) | with_reducible refine br_intro ?_ ?_ | (with_reducible intro _; try exact gX) | with_reducible refine ands_intro ?_ ?_)) <;> ((try clear hXx); try exact gF))
        refine ⟨(i + 1, out.set (r / 9) (out.getD (r / 9) 0 + (((l.getD i 0).toNat : Int) - 48) * p10 k)), by first | omega | (simp only; omega), ⟨by first | omega | (simp only; omega), by simp only [List.length_set]; exact g2, g3.set hrm.1 hrm.2, ?_, allD_step g5 hi (by omega) (by omega)⟩, ?_⟩
        · simp only
          rw [V_set (by omega), vd_take hi, hV2, show l.length - (i + 1) = r by omega, show 9 * (r / 9) + (k + 1) = r + 1 by omega]
          have e1 : P9 (r / 9) * (out.getD (r / 9) 0 + (((l.getD i 0).toNat : Int) - 48) * p10 k - out.getD (r / 9) 0) = (((l.getD i 0).toNat : Int) - 48) * p10 r := by
            rw [Int.add_comm, Int.add_sub_cancel, Int.mul_left_comm, ← p10_9, ← p10_add, show 9 * (r / 9) + k = r by omega]
          rw [e1]
          show _ * (10 * p10 r) + _ = _
          rw [Int.add_mul, Int.mul_assoc 10, Int.mul_left_comm]
        · exact cvS hn (.ptr 0 2 rfl (.own 1 5 rfl .nil))
    · rw [(no_digit hok hi (by omega)).1, (no_digit hok hi (by omega)).2]
      exact rqq2 (rC ty24) rT
  · have hall : allD l := by rw [List.take_of_length_le (by omega)] at g5; exact g5
    obtain ⟨y1, y2⟩ := hy (by rw [hok]; exact hall)
    rw [y1, y2]
    rw [List.take_of_length_le (by omega), show l.length - i = 0 by omega] at g4
    have g6 : V out = vd l := by rw [g4]; simp [p10]
    have hvd := vd_bound hall
    have g7 : List.take K out = out := List.take_of_length_le (by omega)
    (have hXx := And.intro @hm (@g7); (repeat' (first | refine gWx ?_ | (refine gIf ?_ ?_ <;> (intro hc; try exact gX)) | with_reducible refine br_intro ?_ ?_ | (with_reducible intro _; try exact gX) | with_reducible refine ands_intro ?_ ?_ | refine cx (rsigned_e (by omega) (by omega) g3 (z := sgnd false (vd l)) (by rw [g6])) ?_)) <;> ((try clear hXx); try exact gF))
    exact rqq2 (rC ty24) rT
end Go.Proofs.YtfmebdmgnmogaaaGreatDoor
