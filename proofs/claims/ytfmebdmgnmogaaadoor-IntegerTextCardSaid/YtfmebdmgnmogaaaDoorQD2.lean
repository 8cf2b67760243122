/- Rounded quotients, greatest common divisors and roots of whole numbers, the plain law. No statement of its own. -/
import Derived.Test.YtfmebdmgnmogaaaDoorQD1
set_option linter.unusedVariables false
namespace Go.Proofs.YtfmebdmgnmogaaaDoor
open Go Go.RowKit Hv

/-- The quotient, rounded down, and the remainder. -/
def fq (a b : Int) : Int := if 0 < b then a / b else (-a) / (-b)
def fr (a b : Int) : Int := if 0 < b then a % b else -((-a) % (-b))
theorem neg_div {n b : Int} (hb : 0 < b) : (-n) / b = if n % b = 0 then -(n / b) else -(n / b) - 1 := by
  have e := Int.emod_add_mul_ediv n b
  have h0 := Int.emod_nonneg n (show b ≠ 0 by omega)
  have h1 := Int.emod_lt_of_pos n hb
  have c : b * (n / b) = n / b * b := Int.mul_comm _ _
  split
  · refine div_eq ?_ ?_ hb
    · rw [Int.neg_mul]; omega
    · rw [Int.add_mul, Int.one_mul, Int.neg_mul]; omega
  · refine div_eq ?_ ?_ hb
    · rw [Int.sub_mul, Int.one_mul, Int.neg_mul]; omega
    · rw [Int.sub_add_cancel, Int.neg_mul]; omega
theorem neg_mod {n b : Int} (hb : 0 < b) : (-n) % b = if n % b = 0 then 0 else b - n % b := by
  have e := Int.emod_add_mul_ediv n b
  have c : b * (n / b) = n / b * b := Int.mul_comm _ _
  rw [Int.emod_def, neg_div hb]
  split
  · rw [Int.mul_neg]; omega
  · rw [Int.mul_sub, Int.mul_neg, Int.mul_one]; omega
theorem fr_eq (a b : Int) : fr a b = a - b * fq a b := by
  unfold fr fq
  split
  · rw [Int.emod_def]
  · rw [Int.emod_def, Int.neg_mul]; omega
theorem fq_pp {a b : Int} (ha : 0 ≤ a) (hb : 0 < b) : fq a b = a / b ∧ fr a b = a % b := by
  unfold fq fr; rw [if_pos hb, if_pos hb]; exact ⟨rfl, rfl⟩
theorem fq_nn {a b : Int} (ha : a < 0) (hb : b < 0) : fq a b = (-a) / (-b) ∧ fr a b = -((-a) % (-b)) := by
  unfold fq fr; rw [if_neg (by omega), if_neg (by omega)]; exact ⟨rfl, rfl⟩
theorem fq_np {a b : Int} (ha : a < 0) (hb : 0 < b) : fq a b = (if (-a) % b = 0 then -((-a) / b) else -((-a) / b) - 1) ∧ fr a b = if (-a) % b = 0 then 0 else b - (-a) % b := by
  unfold fq fr; rw [if_pos hb, if_pos hb]
  have e1 := neg_div (n := -a) hb
  have e2 := neg_mod (n := -a) hb
  rw [Int.neg_neg] at e1 e2
  exact ⟨e1, e2⟩
theorem fq_pn {a b : Int} (ha : 0 ≤ a) (hb : b < 0) : fq a b = (if a % (-b) = 0 then -(a / (-b)) else -(a / (-b)) - 1) ∧ fr a b = if a % (-b) = 0 then 0 else a % (-b) + b := by
  have f1 : fq a b = (-a) / (-b) := by unfold fq; rw [if_neg (by omega)]
  have f2 : fr a b = -((-a) % (-b)) := by unfold fr; rw [if_neg (by omega)]
  have e1 := neg_div (n := a) (b := -b) (by omega)
  have e2 := neg_mod (n := a) (b := -b) (by omega)
  rw [f1, f2]
  refine ⟨e1, ?_⟩
  rw [e2]; split <;> omega
theorem fr_bounds {a b : Int} (hb : b ≠ 0) : (0 < b → 0 ≤ fr a b ∧ fr a b < b) ∧ (b < 0 → b < fr a b ∧ fr a b ≤ 0) := by
  unfold fr
  constructor
  · intro h
    rw [if_pos h]
    exact ⟨Int.emod_nonneg _ hb, Int.emod_lt_of_pos _ h⟩
  · intro h
    rw [if_neg (by omega)]
    have h0 := Int.emod_nonneg (-a) (show -b ≠ 0 by omega)
    have h1 := Int.emod_lt_of_pos (-a) (show 0 < -b by omega)
    omega

/-- The greatest common divisor. -/
def gI (a b : Int) : Int := (Int.gcd a b : Int)
theorem gI_step (a b : Int) : gI b (a % b) = gI a b := by
  unfold gI; rw [Int.gcd_comm, Int.emod_def, Int.gcd_sub_mul_left_left]
theorem gI_zero {a : Int} (h : 0 ≤ a) : gI a 0 = a := by
  unfold gI; rw [Int.gcd_zero_right]; omega
theorem gI_abs (a b : Int) : gI (a.natAbs : Int) (b.natAbs : Int) = gI a b := by
  unfold gI; simp [Int.gcd]
theorem gI_nn (a b : Int) : 0 ≤ gI a b := by unfold gI; omega

/-- Newton's step for a root. -/
theorem sq4 (x y : Int) : 4 * (x * y) ≤ (x + y) * (x + y) := by
  have h : 0 ≤ (x - y) * (x - y) := by
    rcases Int.le_total 0 (x - y) with k | k
    · exact Int.mul_nonneg k k
    · exact Int.mul_nonneg_of_nonpos_of_nonpos k k
  have e1 : (x - y) * (x - y) = x * x - 2 * (x * y) + y * y := by rw [Int.sub_mul, Int.mul_sub, Int.mul_sub, Int.mul_comm y x]; omega
  have e2 : (x + y) * (x + y) = x * x + 2 * (x * y) + y * y := by rw [Int.add_mul, Int.mul_add, Int.mul_add, Int.mul_comm y x]; omega
  rw [e2]; omega
theorem newton {a x : Int} (hx : 0 < x) (ha : 0 ≤ a) : a < ((x + a / x) / 2 + 1) * ((x + a / x) / 2 + 1) := by
  obtain ⟨d1, d2⟩ := div_le a hx
  have q0 := div_nonneg' ha (Int.le_of_lt hx)
  generalize hq : a / x = q at *
  generalize hn : (x + q) / 2 = n
  have h1 : x + q + 1 ≤ 2 * (n + 1) := by omega
  have h2 := sq4 x (q + 1)
  have h3 : (x + (q + 1)) * (x + (q + 1)) ≤ (2 * (n + 1)) * (2 * (n + 1)) := Int.mul_le_mul (by omega) (by omega) (by omega) (by omega)
  have e : (2 * (n + 1)) * (2 * (n + 1)) = 4 * ((n + 1) * (n + 1)) := by rw [Int.mul_assoc, Int.mul_left_comm (n + 1)]; omega
  rw [Int.mul_comm (q + 1)] at d2
  omega
theorem sq_lt {x y : Int} (hx : 0 ≤ x) (hy : 0 ≤ y) (h : x * x < y * y) : x < y := by
  rcases Int.lt_or_le x y with k | k
  · exact k
  · have : y * y ≤ x * x := Int.mul_le_mul k k hy hx
    omega
theorem root_unique {a s t : Int} (hs : 0 ≤ s) (ht : 0 ≤ t) (s1 : s * s ≤ a) (s2 : a < (s + 1) * (s + 1)) (t1 : t * t ≤ a) (t2 : a < (t + 1) * (t + 1)) : s = t := by
  have h1 := sq_lt hs (show 0 ≤ t + 1 by omega) (by omega)
  have h2 := sq_lt ht (show 0 ≤ s + 1 by omega) (by omega)
  omega
theorem newton_end {a x : Int} (hx : 0 < x) (ha : 0 ≤ a) (h : x ≤ (x + a / x) / 2) : x * x ≤ a := by
  obtain ⟨d1, d2⟩ := div_le a hx
  have : x ≤ a / x := by omega
  have := Int.mul_le_mul_of_nonneg_right this (Int.le_of_lt hx)
  omega
theorem root_exists {a : Int} (ha : 0 ≤ a) : ∃ s : Int, 0 ≤ s ∧ s * s ≤ a ∧ a < (s + 1) * (s + 1) := by
  have key : ∀ n : Nat, ∃ s : Int, 0 ≤ s ∧ s * s ≤ n ∧ (n : Int) < (s + 1) * (s + 1) := by
    intro n
    induction n with
    | zero => exact ⟨0, by simp⟩
    | succ n ih =>
      obtain ⟨s, h0, h1, h2⟩ := ih
      rcases Int.lt_or_le ((n : Int) + 1) ((s + 1) * (s + 1)) with k | k
      · exact ⟨s, h0, by push_cast; omega, by push_cast; exact k⟩
      · refine ⟨s + 1, by omega, by push_cast; exact k, ?_⟩
        have e : (s + 1 + 1) * (s + 1 + 1) = (s + 1) * (s + 1) + 2 * (s + 1) + 1 := by
          rw [Int.add_mul (s + 1), Int.mul_add (s + 1), Int.mul_one, Int.one_mul]; omega
        push_cast
        rw [e]; omega
  obtain ⟨s, h⟩ := key a.toNat
  rw [Int.toNat_of_nonneg ha] at h
  exact ⟨s, h⟩
end Go.Proofs.YtfmebdmgnmogaaaDoor
