/- Contracts of the differences of limbs, and of the sums of the reference. No statement of its own. -/
import Derived.Test.YtfmebdmgnmogaaaGreatDoorQI5
set_option linter.unusedVariables false
set_option linter.unusedSimpArgs false
set_option linter.unusedSimpArgs false
set_option linter.unusedVariables false
set_option maxRecDepth 100000
set_option maxHeartbeats 2000000
namespace Go.Proofs.YtfmebdmgnmogaaaGreatDoor
open Go Go.RowKit Hv

theorem set_take {out : List Int} {i : Nat} {x : Int} (h : i < out.length) : (out.set i x).take (i + 1) = out.take i ++ [x] := by
  rw [List.take_succ_eq_append_getElem (by simpa using h), List.take_set_of_le (Nat.le_refl i)]
  simp
theorem set_lim {out : List Int} {i : Nat} {x : Int} (h : i < out.length) (hl : Lim (out.take i)) (h0 : 0 ≤ x) (h1 : x < 1000000000) : Lim ((out.set i x).take (i + 1)) := by
  rw [set_take h]; exact hl.snoc h0 h1
theorem take_len {out : List Int} {i : Nat} (h : i < out.length) : (out.take i).length = i := by rw [List.length_take]; omega
theorem set_step {out xs ys : List Int} {i : Nat} {c x' c' : Int} (h : i < out.length) (hV : V (out.take i) + P9 i * c = V (xs.take i) + V (ys.take i)) (hx : x' + 1000000000 * c' = xs.getD i 0 + ys.getD i 0 + c) :
    V ((out.set i x').take (i + 1)) + P9 (i + 1) * c' = V (xs.take (i + 1)) + V (ys.take (i + 1)) := by
  rw [set_take h]; exact plus_step (take_len h) hV hx
theorem sub_step {out xs ys : List Int} {i : Nat} {c x' c' : Int} (h : i < out.length) (hV : V (out.take i) + P9 i * -c = V (xs.take i) - V (ys.take i)) (hx : x' - 1000000000 * c' = xs.getD i 0 - ys.getD i 0 - c) :
    V ((out.set i x').take (i + 1)) + P9 (i + 1) * -c' = V (xs.take (i + 1)) - V (ys.take (i + 1)) := by
  rw [set_take h, carry_step (c := -c) (c' := -c') (s := xs.getD i 0 - ys.getD i 0) (take_len h) hV (by omega), V_take_succ, V_take_succ, Int.mul_sub]; omega
theorem sub_end {out xs ys : List Int} {c : Int} (hl : out.length = xs.length) (hle : ys.length ≤ xs.length) (hL : Lim (out.take xs.length)) (h0 : 0 ≤ c) (h1 : c ≤ 1) (hge : V ys ≤ V xs)
    (hV : V (out.take xs.length) + P9 xs.length * -c = V (xs.take xs.length) - V (ys.take xs.length)) : out = limbsN xs.length (V xs - V ys) := by
  rw [List.take_of_length_le (Nat.le_refl _), List.take_of_length_le hle] at hV
  rw [List.take_of_length_le (by omega)] at hV hL
  have h3 := V_lt hL
  rw [hl] at h3
  have hc : c = 0 := by
    rcases Int.lt_or_le 0 c with k | k
    · have : c = 1 := by omega
      subst this
      rw [Int.mul_neg, Int.mul_one] at hV; omega
    · omega
  subst hc
  exact limbsN_eq hL hl (by rw [Int.neg_zero, Int.mul_zero] at hV; omega)

theorem rplus_end {xs ys out : List Int} {c : Int} (hle : ys.length ≤ xs.length) (hl : out.length = xs.length + 1) (hL : Lim (out.take xs.length)) (h0 : 0 ≤ c) (h1 : c ≤ 1) (hV : V (out.take xs.length) + P9 xs.length * c = V (xs.take xs.length) + V (ys.take xs.length)) :
    Lim (out.set xs.length c) ∧ V (out.set xs.length c) = V xs + V ys := by
  have e : out.set xs.length c = out.take xs.length ++ [c] := by
    have := set_take (out := out) (i := xs.length) (x := c) (by omega)
    rw [List.take_of_length_le (by simp [hl])] at this; exact this
  rw [List.take_of_length_le (Nat.le_refl _), List.take_of_length_le hle] at hV
  rw [e]
  exact ⟨hL.snoc h0 (by omega), by rw [V_snoc, List.length_take, Nat.min_eq_left (by omega), hV]⟩
theorem minus_c {n m : Nat} {xs ys : List Int} (hn : n = xs.length) (hm : m = ys.length) (hx : Lim xs) (hy : Lim ys) (hlx : xs.length ≤ 1000000) (hle : ys.length ≤ xs.length) (hge : V ys ≤ V xs) :
    HCallsD Tryz.prog 118 [] [.sl n false (ints .u32 xs), .sl m false (ints .u32 ys)] (.sl xs.length false (ints .u32 (limbsN xs.length (V xs - V ys)))) [] := by
  subst hn hm
  refine cp2 (rs := [.tmp 4]) (nt := 44) Tryz.func118 (fun C hP hn => ?_)
  ((repeat' (first | refine gW ?_ | (refine gIf ?_ ?_ <;> (intro hc; try exact gX)) | with_reducible refine br_intro ?_ ?_ | (with_reducible intro _; try exact gX) | with_reducible refine ands_intro ?_ ?_)) <;> (try exact gF))
  refine hwp_loopS (fun x : Nat × Int × List Int => ⟨lk [(1, .sl ys.length false (ints .u32 ys)), (5, .own 0 0 xs.length true), (6, .raw (.int .u32 x.2.1)), (13, .sl xs.length false (ints .u32 xs)), (14, .raw (.int .i64 xs.length)), (15, .raw (.int .i64 x.1))],
      hlk [(0, { al := true, live := true, wb := true, grow := true, elem := 62, sz := 1, cells := ints .u32 x.2.2 })], 1, 44⟩)
      (fun x => x.1 ≤ xs.length ∧ x.2.2.length = xs.length ∧ Lim (x.2.2.take x.1) ∧ 0 ≤ x.2.1 ∧ x.2.1 ≤ 1 ∧ V (x.2.2.take x.1) + P9 x.1 * -x.2.1 = V (xs.take x.1) - V (ys.take x.1)) (fun x => xs.length - x.1)
      ⟨(0, 0, List.replicate xs.length 0), ⟨Nat.zero_le _, by simp, by simp [Lim], Int.le_refl _, by simp, by simp [V]⟩, by exact cvS hn (.own 0 5 rfl .nil)⟩ ?_
  rintro ⟨i, c, out⟩ ⟨h1, h2, h3, h4, h5, h6⟩
  simp only at h1 h2 h3 h4 h5 h6
  have hb1 := hx.getA i
  have hb2 := hy.getA i
  have hz : ys.length ≤ i → ys.getD i 0 = 0 := fun h => by simp [List.getD, h]
  ((repeat' (first | refine gW ?_ | (refine gIf ?_ ?_ <;> (intro hc; try exact gX)) | with_reducible refine br_intro ?_ ?_ | (with_reducible intro _; try exact gX) | with_reducible refine ands_intro ?_ ?_)) <;> (try exact gF))
  · refine ⟨(i + 1, 1, out.set i (xs.getD i 0 + 1000000000 - (c + ys.getD i 0))), by simp only; omega, ⟨by simp only; omega, by simp [h2], set_lim (by omega) h3 (by omega) (by omega), by simp, by simp, sub_step (by omega) h6 (by simp only; omega)⟩, ?_⟩
    exact cvS hn (.own 0 5 rfl .nil)
  · refine ⟨(i + 1, 0, out.set i (xs.getD i 0 - (c + ys.getD i 0))), by simp only; omega, ⟨by simp only; omega, by simp [h2], set_lim (by omega) h3 (by omega) (by omega), by simp, by simp, sub_step (by omega) h6 (by simp only; omega)⟩, ?_⟩
    exact cvS hn (.own 0 5 rfl .nil)
  · have := hz (by omega)
    refine ⟨(i + 1, 1, out.set i (xs.getD i 0 + 1000000000 - c)), by simp only; omega, ⟨by simp only; omega, by simp [h2], set_lim (by omega) h3 (by omega) (by omega), by simp, by simp, sub_step (by omega) h6 (by simp only; omega)⟩, ?_⟩
    exact cvS hn (.own 0 5 rfl .nil)
  · have := hz (by omega)
    refine ⟨(i + 1, 0, out.set i (xs.getD i 0 - c)), by simp only; omega, ⟨by simp only; omega, by simp [h2], set_lim (by omega) h3 (by omega) (by omega), by simp, by simp, sub_step (by omega) h6 (by simp only; omega)⟩, ?_⟩
    exact cvS hn (.own 0 5 rfl .nil)
  · have hi : i = xs.length := by omega
    subst hi
    rw [← sub_end h2 hle h3 h4 h5 hge h6]
    exact rqq1 rT

theorem rplus_c {n m : Nat} {xs ys : List Int} (hn : n = xs.length) (hm : m = ys.length) (hx : Lim xs) (hy : Lim ys) (hlx : xs.length ≤ 1000000 - 1) (hly : ys.length ≤ 1000000 - 1) :
    HCallsD Tryz.prog 72 [] [.sl n false (ints .u32 xs), .sl m false (ints .u32 ys)] (.sl (dig (V xs + V ys)).length false (ints .u32 (dig (V xs + V ys)))) [] := by
  subst hn hm
  refine cp2 (rs := [.tmp 4]) (nt := 55) Tryz.func72 (fun C hP hn => ?_)
  rcases Nat.lt_or_ge xs.length ys.length with hle | hle
  · ((repeat' (first | refine gW ?_ | (refine gIf ?_ ?_ <;> (intro hc; try exact gX)) | with_reducible refine br_intro ?_ ?_ | (with_reducible intro _; try exact gX) | with_reducible refine ands_intro ?_ ?_)) <;> (try exact gF))
    refine hwp_loopS (fun x : Nat × Int × List Int => ⟨lk [(0, .sl ys.length false (ints .u32 ys)), (1, .sl xs.length false (ints .u32 xs)), (5, .own 0 0 (ys.length + 1) true), (6, .raw (.int .u32 x.2.1)), (7, .raw (.int .i64 x.1))],
      hlk [(0, { al := true, live := true, wb := true, grow := true, elem := 62, sz := 1, cells := ints .u32 x.2.2 })], 1, 55⟩)
      (fun x => x.1 ≤ ys.length ∧ x.2.2.length = ys.length + 1 ∧ Lim (x.2.2.take x.1) ∧ 0 ≤ x.2.1 ∧ x.2.1 ≤ 1 ∧ V (x.2.2.take x.1) + P9 x.1 * x.2.1 = V (ys.take x.1) + V (xs.take x.1)) (fun x => ys.length - x.1)
      ⟨(0, 0, List.replicate (ys.length + 1) 0), ⟨Nat.zero_le _, by simp, by simp [Lim], Int.le_refl _, by simp, by simp [V]⟩, by exact cvS hn (.own 0 5 rfl .nil)⟩ ?_
    rintro ⟨i, c, out⟩ ⟨h1, h2, h3, h4, h5, h6⟩
    simp only at h1 h2 h3 h4 h5 h6
    have hb1 := hy.getA i
    have hb2 := hx.getA i
    have hz : xs.length ≤ i → xs.getD i 0 = 0 := fun h => by simp [List.getD, h]
    rcases Nat.lt_or_ge i ys.length with hi | hi
    · ((repeat' (first | refine gW ?_ | (refine gIf ?_ ?_ <;> (intro hc; try exact gX)) | with_reducible refine br_intro ?_ ?_ | (with_reducible intro _; try exact gX) | with_reducible refine ands_intro ?_ ?_)) <;> (try exact gF))
      · refine ⟨(i + 1, (c + ys.getD i 0 + xs.getD i 0) / 1000000000, out.set i ((c + ys.getD i 0 + xs.getD i 0) % 1000000000)), by simp only; omega, ⟨by simp only; omega, by simp [h2], set_lim (by omega) h3 (by omega) (by omega), by simp only; omega, by simp only; omega, set_step (by omega) h6 (by simp only; omega)⟩, ?_⟩
        exact cvS hn (.own 0 5 rfl .nil)
      · have := hz (by omega)
        refine ⟨(i + 1, (c + ys.getD i 0) / 1000000000, out.set i ((c + ys.getD i 0) % 1000000000)), by simp only; omega, ⟨by simp only; omega, by simp [h2], set_lim (by omega) h3 (by omega) (by omega), by simp only; omega, by simp only; omega, set_step (by omega) h6 (by simp only; omega)⟩, ?_⟩
        exact cvS hn (.own 0 5 rfl .nil)
    · have hi : i = ys.length := by omega
      subst hi
      have e := rplus_end (by omega) h2 h3 h4 h5 h6
      have e1 : Lim (out.set ys.length c) := e.1
      have e0 : List.take (ys.length + 1) (out.set ys.length c) = out.set ys.length c := List.take_of_length_le (by simp [h2])
      (have hXx := @e0; (repeat' (first | refine gWx ?_ | (refine gIf ?_ ?_ <;> (intro hc; try exact gX)) | with_reducible refine br_intro ?_ ?_ | (with_reducible intro _; try exact gX) | with_reducible refine ands_intro ?_ ?_ | refine cx (rtrim_c (xs := out.set ys.length c) (by simp [h2]) (by simp [h2]; omega) e1) ?_)) <;> ((try clear hXx); try exact gF))
      rw [Int.add_comm (V xs)]; rw [← e.2]
      exact rqq1 rT
  · ((repeat' (first | refine gW ?_ | (refine gIf ?_ ?_ <;> (intro hc; try exact gX)) | with_reducible refine br_intro ?_ ?_ | (with_reducible intro _; try exact gX) | with_reducible refine ands_intro ?_ ?_)) <;> (try exact gF))
    refine hwp_loopS (fun x : Nat × Int × List Int => ⟨lk [(0, .sl xs.length false (ints .u32 xs)), (1, .sl ys.length false (ints .u32 ys)), (5, .own 0 0 (xs.length + 1) true), (6, .raw (.int .u32 x.2.1)), (7, .raw (.int .i64 x.1))],
      hlk [(0, { al := true, live := true, wb := true, grow := true, elem := 62, sz := 1, cells := ints .u32 x.2.2 })], 1, 55⟩)
      (fun x => x.1 ≤ xs.length ∧ x.2.2.length = xs.length + 1 ∧ Lim (x.2.2.take x.1) ∧ 0 ≤ x.2.1 ∧ x.2.1 ≤ 1 ∧ V (x.2.2.take x.1) + P9 x.1 * x.2.1 = V (xs.take x.1) + V (ys.take x.1)) (fun x => xs.length - x.1)
      ⟨(0, 0, List.replicate (xs.length + 1) 0), ⟨Nat.zero_le _, by simp, by simp [Lim], Int.le_refl _, by simp, by simp [V]⟩, by exact cvS hn (.own 0 5 rfl .nil)⟩ ?_
    rintro ⟨i, c, out⟩ ⟨h1, h2, h3, h4, h5, h6⟩
    simp only at h1 h2 h3 h4 h5 h6
    have hb1 := hx.getA i
    have hb2 := hy.getA i
    have hz : ys.length ≤ i → ys.getD i 0 = 0 := fun h => by simp [List.getD, h]
    rcases Nat.lt_or_ge i xs.length with hi | hi
    · ((repeat' (first | refine gW ?_ | (refine gIf ?_ ?_ <;> (intro hc; try exact gX)) | with_reducible refine br_intro ?_ ?_ | (with_reducible intro _; try exact gX) | with_reducible refine ands_intro ?_ ?_)) <;> (try exact gF))
      · refine ⟨(i + 1, (c + xs.getD i 0 + ys.getD i 0) / 1000000000, out.set i ((c + xs.getD i 0 + ys.getD i 0) % 1000000000)), by simp only; omega, ⟨by simp only; omega, by simp [h2], set_lim (by omega) h3 (by omega) (by omega), by simp only; omega, by simp only; omega, set_step (by omega) h6 (by simp only; omega)⟩, ?_⟩
        exact cvS hn (.own 0 5 rfl .nil)
      · have := hz (by omega)
        refine ⟨(i + 1, (c + xs.getD i 0) / 1000000000, out.set i ((c + xs.getD i 0) % 1000000000)), by simp only; omega, ⟨by simp only; omega, by simp [h2], set_lim (by omega) h3 (by omega) (by omega), by simp only; omega, by simp only; omega, set_step (by omega) h6 (by simp only; omega)⟩, ?_⟩
        exact cvS hn (.own 0 5 rfl .nil)
    · have hi : i = xs.length := by omega
      subst hi
      have e := rplus_end (by omega) h2 h3 h4 h5 h6
      have e1 : Lim (out.set xs.length c) := e.1
      have e0 : List.take (xs.length + 1) (out.set xs.length c) = out.set xs.length c := List.take_of_length_le (by simp [h2])
      (have hXx := @e0; (repeat' (first | refine gWx ?_ | (refine gIf ?_ ?_ <;> (intro hc; try exact gX)) | with_reducible refine br_intro ?_ ?_ | (with_reducible intro _; try exact gX) | with_reducible refine ands_intro ?_ ?_ | refine cx (rtrim_c (xs := out.set xs.length c) (by simp [h2]) (by simp [h2]; omega) e1) ?_)) <;> ((try clear hXx); try exact gF))
      rw [← e.2]
      exact rqq1 rT
end Go.Proofs.YtfmebdmgnmogaaaGreatDoor
set_option linter.unusedSimpArgs false
set_option linter.unusedVariables false
set_option maxRecDepth 100000
set_option maxHeartbeats 2000000
namespace Go.Proofs.YtfmebdmgnmogaaaGreatDoor
open Go Go.RowKit Hv

theorem rminus_c {n m : Nat} {xs ys : List Int} (hn : n = xs.length) (hm : m = ys.length) (hx : Lim xs) (hy : Lim ys) (hlx : xs.length ≤ 1000000) (hle : ys.length ≤ xs.length) (hge : V ys ≤ V xs) :
    HCallsD Tryz.prog 74 [] [.sl n false (ints .u32 xs), .sl m false (ints .u32 ys)] (.sl (dig (V xs - V ys)).length false (ints .u32 (dig (V xs - V ys)))) [] := by
  subst hn hm
  refine cp2 (rs := [.tmp 4]) (nt := 45) Tryz.func74 (fun C hP hn => ?_)
  ((repeat' (first | refine gW ?_ | (refine gIf ?_ ?_ <;> (intro hc; try exact gX)) | with_reducible refine br_intro ?_ ?_ | (with_reducible intro _; try exact gX) | with_reducible refine ands_intro ?_ ?_)) <;> (try exact gF))
  refine hwp_loopS (fun x : Nat × Int × List Int => ⟨lk [(0, .sl xs.length false (ints .u32 xs)), (1, .sl ys.length false (ints .u32 ys)), (5, .own 0 0 xs.length true), (6, .raw (.int .u32 x.2.1)), (7, .raw (.int .i64 x.1))],
      hlk [(0, { al := true, live := true, wb := true, grow := true, elem := 62, sz := 1, cells := ints .u32 x.2.2 })], 1, 45⟩)
      (fun x => x.1 ≤ xs.length ∧ x.2.2.length = xs.length ∧ Lim (x.2.2.take x.1) ∧ 0 ≤ x.2.1 ∧ x.2.1 ≤ 1 ∧ V (x.2.2.take x.1) + P9 x.1 * -x.2.1 = V (xs.take x.1) - V (ys.take x.1)) (fun x => xs.length - x.1)
      ⟨(0, 0, List.replicate xs.length 0), ⟨Nat.zero_le _, by simp, by simp [Lim], Int.le_refl _, by simp, by simp [V]⟩, by exact cvS hn (.own 0 5 rfl .nil)⟩ ?_
  rintro ⟨i, c, out⟩ ⟨h1, h2, h3, h4, h5, h6⟩
  simp only at h1 h2 h3 h4 h5 h6
  have hb1 := hx.getA i
  have hb2 := hy.getA i
  have hz : ys.length ≤ i → ys.getD i 0 = 0 := fun h => by simp [List.getD, h]
  rcases Nat.lt_or_ge i xs.length with hi | hi
  · ((repeat' (first | refine gW ?_ | (refine gIf ?_ ?_ <;> (intro hc; try exact gX)) | with_reducible refine br_intro ?_ ?_ | (with_reducible intro _; try exact gX) | with_reducible refine ands_intro ?_ ?_)) <;> (try exact gF))
    · refine ⟨(i + 1, 0, out.set i (xs.getD i 0 + 1000000000 - c - ys.getD i 0 - 1000000000)), by simp only; omega, ⟨by simp only; omega, by simp [h2], set_lim (by omega) h3 (by omega) (by omega), by simp, by simp, sub_step (by omega) h6 (by simp only; omega)⟩, ?_⟩
      exact cvS hn (.own 0 5 rfl .nil)
    · refine ⟨(i + 1, 1, out.set i (xs.getD i 0 + 1000000000 - c - ys.getD i 0)), by simp only; omega, ⟨by simp only; omega, by simp [h2], set_lim (by omega) h3 (by omega) (by omega), by simp, by simp, sub_step (by omega) h6 (by simp only; omega)⟩, ?_⟩
      exact cvS hn (.own 0 5 rfl .nil)
    · have := hz (by omega)
      refine ⟨(i + 1, 0, out.set i (xs.getD i 0 + 1000000000 - c - 1000000000)), by simp only; omega, ⟨by simp only; omega, by simp [h2], set_lim (by omega) h3 (by omega) (by omega), by simp, by simp, sub_step (by omega) h6 (by simp only; omega)⟩, ?_⟩
      exact cvS hn (.own 0 5 rfl .nil)
    · have := hz (by omega)
      refine ⟨(i + 1, 1, out.set i (xs.getD i 0 + 1000000000 - c)), by simp only; omega, ⟨by simp only; omega, by simp [h2], set_lim (by omega) h3 (by omega) (by omega), by simp, by simp, sub_step (by omega) h6 (by simp only; omega)⟩, ?_⟩
      exact cvS hn (.own 0 5 rfl .nil)
  · have hi : i = xs.length := by omega
    subst hi
    have e := sub_end h2 hle h3 h4 h5 hge h6
    have eL : Lim out := by rw [e]; exact limbsN_lim _ _
    have eV : V out = V xs - V ys := by
      rw [e, limbsN_V (by omega)]
      have := V_lt hx
      have := V_nonneg hy
      omega
    have e0 : List.take xs.length out = out := List.take_of_length_le (by omega)
    (have hXx := @e0; (repeat' (first | refine gWx ?_ | (refine gIf ?_ ?_ <;> (intro hc; try exact gX)) | with_reducible refine br_intro ?_ ?_ | (with_reducible intro _; try exact gX) | with_reducible refine ands_intro ?_ ?_ | refine cx (rtrim_c (xs := out) (by omega) (by omega) eL) ?_)) <;> ((try clear hXx); try exact gF))
    rw [← eV]
    exact rqq1 rT
end Go.Proofs.YtfmebdmgnmogaaaGreatDoor
