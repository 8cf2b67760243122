/- Contracts of the tests of validity. No statement of its own. -/
import Derived.Test.YtfmebdmgnmogaaaGreatDoorQI4
set_option linter.unusedVariables false
set_option linter.unusedSimpArgs false
set_option linter.unusedSimpArgs false
set_option linter.unusedVariables false
set_option maxRecDepth 100000
set_option maxHeartbeats 1000000
namespace Go.Proofs.YtfmebdmgnmogaaaGreatDoor
open Go Go.RowKit Hv

def zOf (b : Bool) (xs : List Int) : Int := sgnd b (V xs)
def validB (b : Bool) (xs : List Int) : Bool := decide (xs = dig ((zOf b xs).natAbs : Int) ∧ b = decide (zOf b xs < 0))
theorem zOf_abs {b : Bool} {v : Int} (h : 0 ≤ v) : ((sgnd b v).natAbs : Int) = v := by unfold sgnd; split <;> omega
theorem valid_not {b : Bool} {xs : List Int} {i : Nat} (h : i < xs.length) (hx : 1000000000 ≤ xs.getD i 0) : validB b xs = false := by
  refine decide_eq_false (fun h1 => ?_)
  have hl : Lim xs := by rw [h1.1]; exact dig_lim _
  have := hl.get h
  omega
theorem valid_nil {b : Bool} {xs : List Int} (h : xs.length = 0) : validB b xs = !b := by
  rw [List.length_eq_zero_iff] at h
  subst h
  cases b <;> simp [validB, zOf, sgnd, V, dig_zero]
theorem valid_last {b : Bool} {xs : List Int} (hx : Lim xs) (h : 0 < xs.length) : validB b xs = decide (xs.getD (xs.length - 1) 0 ≠ 0) := by
  unfold validB
  rw [decide_eq_decide]
  have hv := V_nonneg hx
  unfold zOf
  rw [zOf_abs hv]
  constructor
  · intro h1 h2
    have := dig_get_last (v := V xs) (by rw [← h1.1]; exact h)
    rw [← h1.1] at this
    exact this h2
  · intro h1
    have hl := lastOk_of (xs := xs) (fun _ => h1)
    have hp := lastOk_pos hx (List.length_pos_iff.1 h) hl
    refine ⟨(dig_of hx hl).symm, ?_⟩
    cases b
    · simp [sgnd]; omega
    · simp [sgnd]; omega
theorem valid_len {b : Bool} {xs : List Int} (hx : Lim xs) : validB b xs = (decide ((dig (V xs)).length = xs.length) && (!b || decide (0 < xs.length))) := by
  rcases Nat.eq_zero_or_pos xs.length with h | h
  · rw [valid_nil h, h]
    have : xs = [] := List.length_eq_zero_iff.1 h
    subst this
    simp [V, dig_zero]
  · rw [valid_last hx h]
    have e : (xs.getD (xs.length - 1) 0 ≠ 0) ↔ ((dig (V xs)).length = xs.length) := by
      constructor
      · intro h1; rw [dig_of hx (lastOk_of fun _ => h1)]
      · intro h1 h2
        have h3 := V_lt (hx.take (xs.length - 1))
        rw [V_take_last h h2, List.length_take, Nat.min_eq_left (by omega)] at h3
        have := dig_len h3
        omega
    have e2 : decide (xs.getD (xs.length - 1) 0 ≠ 0) = decide ((dig (V xs)).length = xs.length) := decide_eq_decide.2 e
    rw [e2]
    simp [h]
theorem valid_spec {b : Bool} {xs : List Int} (h : validB b xs = true) : xs = dig ((zOf b xs).natAbs : Int) ∧ b = decide (zOf b xs < 0) := of_decide_eq_true h

theorem lim_take {xs : List Int} {i : Nat} (h : Lim (xs.take i)) (hi : i < xs.length) (hu : ∀ x ∈ xs, 0 ≤ x ∧ x < 4294967296) (hx : xs.getD i 0 < 1000000000) : Lim (xs.take (i + 1)) := by
  rw [List.take_succ_eq_append_getElem hi]
  refine h.app (.cons ?_ ?_ .nil)
  · exact (hu _ (List.getElem_mem hi)).1
  · simpa [List.getD, hi] using hx

theorem valid_c {b : Bool} {n : Nat} {xs : List Int} (hn : n = xs.length) (hu : ∀ x ∈ xs, 0 ≤ x ∧ x < 4294967296) (hl : xs.length ≤ 4611686018427387904) : HCallsD Tryz.prog 93 [] [.agg [.raw (.bool b), .sl n false (ints .u32 xs)]] (.raw (.bool (validB b xs))) [] := by
  subst hn
  refine cp1 (rs := [.tmp 2]) (nt := 31) Tryz.func93 (fun C hP hn => ?_)
  ((repeat' (first | refine gW ?_ | (refine gIf ?_ ?_ <;> (intro hc; try exact gX)) | with_reducible refine br_intro ?_ ?_ | (with_reducible intro _; try exact gX) | with_reducible refine ands_intro ?_ ?_)) <;> (try exact gF))
  refine hwp_loopS (fun i : Nat => ⟨lk [(1, .ptr 0 0), (7, .sl xs.length false (ints .u32 xs)), (8, .raw (.int .i64 xs.length)), (9, .raw (.int .i64 i))],
    hlk [(0, { al := true, live := true, wb := true, elem := 24, cells := [.raw (.bool b), .sl xs.length false (ints .u32 xs)] })], 1, 31⟩)
    (fun i => i ≤ xs.length ∧ Lim (xs.take i)) (fun i => xs.length - i) ⟨0, ⟨Nat.zero_le _, by simp [Lim]⟩, by exact cvG hn [(0, 0)]⟩ ?_
  rintro i ⟨h1, h2⟩
  have hpos : 0 < xs.length ∨ xs.length = 0 := by omega
  ((repeat' (first | refine gW ?_ | (refine gIf ?_ ?_ <;> (intro hc; try exact gX)) | with_reducible refine br_intro ?_ ?_ | (with_reducible intro _; try exact gX) | with_reducible refine ands_intro ?_ ?_)) <;> (try exact gF))
  · rw [valid_not (by omega) hc]
    exact rqq1 rT
  · refine ⟨i + 1, by omega, ⟨by omega, ?_⟩, ?_⟩
    · exact lim_take h2 (by omega) hu (by omega)
    · exact cvG hn [(0, 0)]
  · have hx : Lim xs := by rw [List.take_of_length_le (by omega)] at h2; exact h2
    rw [valid_last hx (by omega), decide_not]
    exact rqq1 rT
  · rw [valid_nil (by omega)]
    exact rqq1 rT

theorem rvalid_c {b : Bool} {n : Nat} {xs : List Int} (hn : n = xs.length) (hu : ∀ x ∈ xs, 0 ≤ x ∧ x < 4294967296) (hl : xs.length ≤ 1000000) : HCallsD Tryz.prog 15 [] [.agg [.raw (.bool b), .sl n false (ints .u32 xs)]] (.raw (.bool (validB b xs))) [] := by
  subst hn
  refine cp1 (rs := [.tmp 2]) (nt := 36) Tryz.func15 (fun C hP hn => ?_)
  ((repeat' (first | refine gW ?_ | (refine gIf ?_ ?_ <;> (intro hc; try exact gX)) | with_reducible refine br_intro ?_ ?_ | (with_reducible intro _; try exact gX) | with_reducible refine ands_intro ?_ ?_)) <;> (try exact gF))
  refine hwp_loopS (fun i : Nat => ⟨lk [(1, .ptr 0 0), (3, .raw (.int .i64 i))],
    hlk [(0, { al := true, live := true, wb := true, elem := 24, cells := [.raw (.bool b), .sl xs.length false (ints .u32 xs)] })], 1, 36⟩)
    (fun i => i ≤ xs.length ∧ Lim (xs.take i)) (fun i => xs.length - i) ⟨0, ⟨Nat.zero_le _, by simp [Lim]⟩, by exact cvG hn [(0, 0)]⟩ ?_
  rintro i ⟨h1, h2⟩
  rcases Nat.lt_or_ge i xs.length with hi | hi
  · ((repeat' (first | refine gW ?_ | (refine gIf ?_ ?_ <;> (intro hc; try exact gX)) | with_reducible refine br_intro ?_ ?_ | (with_reducible intro _; try exact gX) | with_reducible refine ands_intro ?_ ?_)) <;> (try exact gF))
    · rw [valid_not (by omega) hc]
      exact rqq1 rT
    · refine ⟨i + 1, by omega, ⟨by omega, ?_⟩, ?_⟩
      · exact lim_take h2 (by omega) hu (by omega)
      · exact cvG hn [(0, 0)]
  · have hx : Lim xs := by rw [List.take_of_length_le (by omega)] at h2; exact h2
    have hlen : (dig (V xs)).length ≤ 1000000 := Nat.le_trans (dig_len (n := xs.length) (V_lt hx)) hl
    cases b
    all_goals ((repeat' (first | refine gW ?_ | (refine gIf ?_ ?_ <;> (intro hc; try exact gX)) | with_reducible refine br_intro ?_ ?_ | (with_reducible intro _; try exact gX) | with_reducible refine ands_intro ?_ ?_ | refine cx (rtrim_c (by rfl) hl hx) ?_)) <;> (try exact gF))
    · rw [valid_len hx, decide_eq_true (by omega)]
      exact rqq1 rT
    · rw [valid_len hx, decide_eq_false (by omega)]
      exact rqq1 rT
    · rw [valid_len hx, decide_eq_true (by omega)]
      exact rqq1 rT
    · rw [valid_len hx, decide_eq_false (by omega)]
      exact rqq1 rT

theorem rsmall_c {b : Bool} {n : Nat} {xs : List Int} {k : Int} (hn : n = xs.length) (hu : ∀ x ∈ xs, 0 ≤ x ∧ x < 4294967296) (h0 : 0 ≤ k) (hk : k ≤ 1000000) : HCallsD Tryz.prog 44 [] [.agg [.raw (.bool b), .sl n false (ints .u32 xs)], .raw (.int .i64 k)] (.raw (.bool (decide ((xs.length : Int) ≤ k) && validB b xs))) [] := by
  subst hn
  refine cp2 (rs := [.tmp 4]) (nt := 14) Tryz.func44 (fun C hP hn => ?_)
  rcases Int.lt_or_le k xs.length with h | h
  · rw [decide_eq_false (by omega)]
    ((repeat' (first | refine gW ?_ | (refine gIf ?_ ?_ <;> (intro hc; try exact gX)) | with_reducible refine br_intro ?_ ?_ | (with_reducible intro _; try exact gX) | with_reducible refine ands_intro ?_ ?_)) <;> (try exact gF))
    exact rqq1 rT
  · rw [decide_eq_true (by omega)]
    ((repeat' (first | refine gW ?_ | (refine gIf ?_ ?_ <;> (intro hc; try exact gX)) | with_reducible refine br_intro ?_ ?_ | (with_reducible intro _; try exact gX) | with_reducible refine ands_intro ?_ ?_ | refine cx (rvalid_c (by rfl) hu (by omega)) ?_)) <;> (try exact gF))
    exact rqq1 rT

def smallB (b : Bool) (xs : List Int) : Bool := decide ((xs.length : Int) ≤ 16) && validB b xs
end Go.Proofs.YtfmebdmgnmogaaaGreatDoor
set_option linter.unusedSimpArgs false
set_option linter.unusedVariables false
set_option maxRecDepth 100000
set_option maxHeartbeats 2000000
namespace Go.Proofs.YtfmebdmgnmogaaaGreatDoor
open Go Go.RowKit Hv

theorem V_take_succ (xs : List Int) (i : Nat) : V (xs.take (i + 1)) = V (xs.take i) + P9 i * xs.getD i 0 := by
  rcases Nat.lt_or_ge i xs.length with h | h
  · rw [List.take_succ_eq_append_getElem h, V_snoc, List.length_take, Nat.min_eq_left (by omega)]
    simp [List.getD, h]
  · rw [List.take_of_length_le (by omega), List.take_of_length_le h]
    simp [List.getD, h]
theorem carry_step {out : List Int} {i : Nat} {c x' c' A s : Int} (hl : out.length = i) (hV : V out + P9 i * c = A) (hx : x' + 1000000000 * c' = s + c) : V (out ++ [x']) + P9 (i + 1) * c' = A + P9 i * s := by
  rw [V_snoc, hl]
  have e : P9 (i + 1) * c' = P9 i * (1000000000 * c') := by simp only [P9]; rw [Int.mul_comm 1000000000 (P9 i), Int.mul_assoc]
  rw [e, Int.add_assoc, ← Int.mul_add, hx, Int.mul_add, ← hV]
  omega
theorem Lim.snoc {xs : List Int} {x : Int} (h : Lim xs) (h0 : 0 ≤ x) (h1 : x < 1000000000) : Lim (xs ++ [x]) := h.app (.cons h0 h1 .nil)

theorem plus_end {xs ys out : List Int} {c : Int} (hle : ys.length ≤ xs.length) (hl : out.length = xs.length) (hL : Lim out) (h0 : 0 ≤ c) (h1 : c ≤ 1) (hV : V out + P9 xs.length * c = V (xs.take xs.length) + V (ys.take xs.length)) :
    out ++ [c] = limbsN (max xs.length ys.length + 1) (V xs + V ys) := by
  rw [List.take_of_length_le (Nat.le_refl _), List.take_of_length_le hle] at hV
  exact limbsN_eq (hL.snoc h0 (by omega)) (by simp; omega) (by rw [V_snoc, hl, hV])
theorem plus_step {xs ys out : List Int} {i : Nat} {c x' c' : Int} (hl : out.length = i) (hV : V out + P9 i * c = V (xs.take i) + V (ys.take i)) (hx : x' + 1000000000 * c' = xs.getD i 0 + ys.getD i 0 + c) :
    V (out ++ [x']) + P9 (i + 1) * c' = V (xs.take (i + 1)) + V (ys.take (i + 1)) := by
  rw [carry_step hl hV hx, V_take_succ, V_take_succ, Int.mul_add]; omega

theorem plus_c {n m : Nat} {xs ys : List Int} (hn : n = xs.length) (hm : m = ys.length) (hx : Lim xs) (hy : Lim ys) (hlx : xs.length ≤ 1000000) (hly : ys.length ≤ 1000000) :
    HCallsD Tryz.prog 117 [] [.sl n false (ints .u32 xs), .sl m false (ints .u32 ys)] (.sl (max xs.length ys.length + 1) false (ints .u32 (limbsN (max xs.length ys.length + 1) (V xs + V ys)))) [] := by
  subst hn hm
  refine cp2 (rs := [.tmp 4]) (nt := 53) Tryz.func117 (fun C hP hn => ?_)
  rcases Nat.lt_or_ge xs.length ys.length with hle | hle
  · ((repeat' (first | refine gW ?_ | (refine gIf ?_ ?_ <;> (intro hc; try exact gX)) | with_reducible refine br_intro ?_ ?_ | (with_reducible intro _; try exact gX) | with_reducible refine ands_intro ?_ ?_)) <;> (try exact gF))
    refine hwp_loopS (fun x : Nat × Int × List Int => ⟨lk [(0, .sl ys.length false (ints .u32 ys)), (1, .sl xs.length false (ints .u32 xs)), (5, .own 0 0 x.2.2.length false), (6, .raw (.int .u32 x.2.1)), (20, .sl ys.length false (ints .u32 ys)), (21, .raw (.int .i64 ys.length)), (22, .raw (.int .i64 x.1))],
      hlk [(0, { al := true, live := true, wb := true, grow := true, elem := 62, sz := 1, cells := ints .u32 x.2.2 })], 1, 53⟩)
      (fun x => x.1 ≤ ys.length ∧ x.2.2.length = x.1 ∧ Lim x.2.2 ∧ 0 ≤ x.2.1 ∧ x.2.1 ≤ 1 ∧ V x.2.2 + P9 x.1 * x.2.1 = V (ys.take x.1) + V (xs.take x.1)) (fun x => ys.length - x.1)
      ⟨(0, 0, []), ⟨Nat.zero_le _, rfl, .nil, Int.le_refl _, by simp, by simp [V]⟩, by exact cvS hn (.own 0 5 rfl .nil)⟩ ?_
    rintro ⟨i, c, out⟩ ⟨h1, h2, h3, h4, h5, h6⟩
    simp only at h1 h2 h3 h4 h5 h6
    have hb1 := hy.getA i
    have hb2 := hx.getA i
    have hz : xs.length ≤ i → xs.getD i 0 = 0 := fun h => by simp [List.getD, h]
    ((repeat' (first | refine gW ?_ | (refine gIf ?_ ?_ <;> (intro hc; try exact gX)) | with_reducible refine br_intro ?_ ?_ | (with_reducible intro _; try exact gX) | with_reducible refine ands_intro ?_ ?_)) <;> (try exact gF))
    · refine ⟨(i + 1, 1, out ++ [ys.getD i 0 + c + xs.getD i 0 - 1000000000]), by simp only; omega, ⟨by simp only; omega, by simp [h2], h3.snoc (by omega) (by omega), by simp, by simp, plus_step h2 h6 (by simp only; omega)⟩, ?_⟩
      exact cvS hn (.own 0 5 rfl .nil)
    · refine ⟨(i + 1, 0, out ++ [ys.getD i 0 + c + xs.getD i 0]), by simp only; omega, ⟨by simp only; omega, by simp [h2], h3.snoc (by omega) (by omega), by simp, by simp, plus_step h2 h6 (by simp only; omega)⟩, ?_⟩
      exact cvS hn (.own 0 5 rfl .nil)
    · have := hz (by omega)
      refine ⟨(i + 1, 1, out ++ [ys.getD i 0 + c - 1000000000]), by simp only; omega, ⟨by simp only; omega, by simp [h2], h3.snoc (by omega) (by omega), by simp, by simp, plus_step h2 h6 (by simp only; omega)⟩, ?_⟩
      exact cvS hn (.own 0 5 rfl .nil)
    · have := hz (by omega)
      refine ⟨(i + 1, 0, out ++ [ys.getD i 0 + c]), by simp only; omega, ⟨by simp only; omega, by simp [h2], h3.snoc (by omega) (by omega), by simp, by simp, plus_step h2 h6 (by simp only; omega)⟩, ?_⟩
      exact cvS hn (.own 0 5 rfl .nil)
    · have hi : i = ys.length := by omega
      subst hi
      have e := plus_end (by omega) h2 h3 h4 h5 h6
      rw [Nat.max_comm, Int.add_comm (V xs)]; rw [← e]
      exact rqq1 rT
  · ((repeat' (first | refine gW ?_ | (refine gIf ?_ ?_ <;> (intro hc; try exact gX)) | with_reducible refine br_intro ?_ ?_ | (with_reducible intro _; try exact gX) | with_reducible refine ands_intro ?_ ?_)) <;> (try exact gF))
    refine hwp_loopS (fun x : Nat × Int × List Int => ⟨lk [(0, .sl xs.length false (ints .u32 xs)), (1, .sl ys.length false (ints .u32 ys)), (5, .own 0 0 x.2.2.length false), (6, .raw (.int .u32 x.2.1)), (20, .sl xs.length false (ints .u32 xs)), (21, .raw (.int .i64 xs.length)), (22, .raw (.int .i64 x.1))],
      hlk [(0, { al := true, live := true, wb := true, grow := true, elem := 62, sz := 1, cells := ints .u32 x.2.2 })], 1, 53⟩)
      (fun x => x.1 ≤ xs.length ∧ x.2.2.length = x.1 ∧ Lim x.2.2 ∧ 0 ≤ x.2.1 ∧ x.2.1 ≤ 1 ∧ V x.2.2 + P9 x.1 * x.2.1 = V (xs.take x.1) + V (ys.take x.1)) (fun x => xs.length - x.1)
      ⟨(0, 0, []), ⟨Nat.zero_le _, rfl, .nil, Int.le_refl _, by simp, by simp [V]⟩, by exact cvS hn (.own 0 5 rfl .nil)⟩ ?_
    rintro ⟨i, c, out⟩ ⟨h1, h2, h3, h4, h5, h6⟩
    simp only at h1 h2 h3 h4 h5 h6
    have hb1 := hx.getA i
    have hb2 := hy.getA i
    have hz : ys.length ≤ i → ys.getD i 0 = 0 := fun h => by simp [List.getD, h]
    ((repeat' (first | refine gW ?_ | (refine gIf ?_ ?_ <;> (intro hc; try exact gX)) | with_reducible refine br_intro ?_ ?_ | (with_reducible intro _; try exact gX) | with_reducible refine ands_intro ?_ ?_)) <;> (try exact gF))
    · refine ⟨(i + 1, 1, out ++ [xs.getD i 0 + c + ys.getD i 0 - 1000000000]), by simp only; omega, ⟨by simp only; omega, by simp [h2], h3.snoc (by omega) (by omega), by simp, by simp, plus_step h2 h6 (by simp only; omega)⟩, ?_⟩
      exact cvS hn (.own 0 5 rfl .nil)
    · refine ⟨(i + 1, 0, out ++ [xs.getD i 0 + c + ys.getD i 0]), by simp only; omega, ⟨by simp only; omega, by simp [h2], h3.snoc (by omega) (by omega), by simp, by simp, plus_step h2 h6 (by simp only; omega)⟩, ?_⟩
      exact cvS hn (.own 0 5 rfl .nil)
    · have := hz (by omega)
      refine ⟨(i + 1, 1, out ++ [xs.getD i 0 + c - 1000000000]), by simp only; omega, ⟨by simp only; omega, by simp [h2], h3.snoc (by omega) (by omega), by simp, by simp, plus_step h2 h6 (by simp only; omega)⟩, ?_⟩
      exact cvS hn (.own 0 5 rfl .nil)
    · have := hz (by omega)
      refine ⟨(i + 1, 0, out ++ [xs.getD i 0 + c]), by simp only; omega, ⟨by simp only; omega, by simp [h2], h3.snoc (by omega) (by omega), by simp, by simp, plus_step h2 h6 (by simp only; omega)⟩, ?_⟩
      exact cvS hn (.own 0 5 rfl .nil)
    · have hi : i = xs.length := by omega
      subst hi
      have e := plus_end (by omega) h2 h3 h4 h5 h6
      rw [← e]
      exact rqq1 rT
end Go.Proofs.YtfmebdmgnmogaaaGreatDoor
