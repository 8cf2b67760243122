/- Numbers in base 1000000000: lists of limbs, their value, the canonical list of a number. No statement of its own. -/
import Derived.Test.YtfmebdmgnmogaaaDoorQHvWalk
set_option linter.unusedVariables false
namespace Go.Proofs.YtfmebdmgnmogaaaDoor
open Go Go.RowKit Hv

def V : List Int → Int
  | [] => 0
  | x :: xs => x + 1000000000 * V xs
def Lim (xs : List Int) : Prop := ∀ x ∈ xs, 0 ≤ x ∧ x < 1000000000
def lastOk (xs : List Int) : Prop := ∀ x, xs.getLast? = some x → x ≠ 0

theorem Lim.nil : Lim [] := by simp [Lim]
theorem Lim.cons {x : Int} {xs : List Int} (h0 : 0 ≤ x) (h1 : x < 1000000000) (h : Lim xs) : Lim (x :: xs) := by
  intro y hy; rcases List.mem_cons.1 hy with rfl | hy
  · exact ⟨h0, h1⟩
  · exact h y hy
theorem Lim.head {x : Int} {xs : List Int} (h : Lim (x :: xs)) : 0 ≤ x ∧ x < 1000000000 := h x (by simp)
theorem Lim.tail {x : Int} {xs : List Int} (h : Lim (x :: xs)) : Lim xs := fun y hy => h y (by simp [hy])
theorem Lim.app {xs ys : List Int} (h : Lim xs) (h' : Lim ys) : Lim (xs ++ ys) := by
  intro y hy; rcases List.mem_append.1 hy with hy | hy
  · exact h y hy
  · exact h' y hy
theorem Lim.left {xs ys : List Int} (h : Lim (xs ++ ys)) : Lim xs := fun y hy => h y (by simp [hy])
theorem Lim.right {xs ys : List Int} (h : Lim (xs ++ ys)) : Lim ys := fun y hy => h y (by simp [hy])
theorem Lim.take {xs : List Int} (h : Lim xs) (n : Nat) : Lim (xs.take n) := fun y hy => h y (List.mem_of_mem_take hy)
theorem Lim.drop {xs : List Int} (h : Lim xs) (n : Nat) : Lim (xs.drop n) := fun y hy => h y (List.mem_of_mem_drop hy)
theorem Lim.get {xs : List Int} (h : Lim xs) {n : Nat} (hn : n < xs.length) : 0 ≤ xs.getD n 0 ∧ xs.getD n 0 < 1000000000 := by
  have e : xs.getD n 0 = xs[n] := by simp [List.getD, hn]
  rw [e]; exact h _ (List.getElem_mem hn)
theorem Lim.getA {xs : List Int} (h : Lim xs) (n : Nat) : 0 ≤ xs.getD n 0 ∧ xs.getD n 0 < 1000000000 := by
  rcases Nat.lt_or_ge n xs.length with hn | hn
  · exact h.get hn
  · have : xs.getD n 0 = 0 := by simp [List.getD, hn]
    omega
theorem V_nonneg {xs : List Int} (h : Lim xs) : 0 ≤ V xs := by
  induction xs with
  | nil => simp [V]
  | cons x xs ih => have := ih h.tail; have := h.head; simp only [V]; omega
def P9 : Nat → Int
  | 0 => 1
  | n + 1 => 1000000000 * P9 n
theorem P9_pos (n : Nat) : 0 < P9 n := by
  induction n with
  | zero => simp [P9]
  | succ n ih => simp only [P9]; omega
theorem P9_add (m n : Nat) : P9 (m + n) = P9 m * P9 n := by
  induction m with
  | zero => simp [P9]
  | succ m ih => rw [Nat.succ_add]; simp only [P9]; rw [ih, Int.mul_assoc]
theorem V_lt {xs : List Int} (h : Lim xs) : V xs < P9 xs.length := by
  induction xs with
  | nil => simp [V, P9]
  | cons x xs ih => have := ih h.tail; have := h.head; simp only [V, P9, List.length_cons]; omega
theorem V_append (xs ys : List Int) : V (xs ++ ys) = V xs + P9 xs.length * V ys := by
  induction xs with
  | nil => simp [V, P9]
  | cons x xs ih =>
    simp only [List.cons_append, V, P9, List.length_cons, ih]
    rw [Int.mul_add, Int.mul_assoc]; omega
theorem V_zeros (n : Nat) : V (List.replicate n 0) = 0 := by
  induction n with
  | zero => rfl
  | succ n ih => simp [List.replicate_succ, V, ih]
theorem Lim.zeros (n : Nat) : Lim (List.replicate n 0) := by
  intro x hx; rw [(List.mem_replicate.1 hx).2]; omega
/-- Lists of one length and one value are the same. -/
theorem V_inj {xs ys : List Int} (hx : Lim xs) (hy : Lim ys) (hl : xs.length = ys.length) (h : V xs = V ys) : xs = ys := by
  induction xs generalizing ys with
  | nil => cases ys with
    | nil => rfl
    | cons => cases hl
  | cons x xs ih => cases ys with
    | nil => cases hl
    | cons y ys =>
      have h1 := hx.head; have h2 := hy.head
      simp only [V] at h
      have e : x = y := by omega
      have e2 : V xs = V ys := by omega
      rw [e, ih hx.tail hy.tail (by simpa using hl) e2]

/-- The limbs of a number: exactly n of them. -/
def limbsN : Nat → Int → List Int
  | 0, _ => []
  | n + 1, v => v % 1000000000 :: limbsN n (v / 1000000000)
theorem limbsN_length (n : Nat) (v : Int) : (limbsN n v).length = n := by
  induction n generalizing v with
  | zero => rfl
  | succ n ih => simp [limbsN, ih]
theorem limbsN_lim (n : Nat) (v : Int) : Lim (limbsN n v) := by
  induction n generalizing v with
  | zero => exact Lim.nil
  | succ n ih => exact Lim.cons (by omega) (by omega) (ih _)
theorem limbsN_V {n : Nat} {v : Int} (h0 : 0 ≤ v) (h : v < P9 n) : V (limbsN n v) = v := by
  induction n generalizing v with
  | zero => simp only [P9] at h; simp only [limbsN, V]; omega
  | succ n ih =>
    simp only [P9] at h
    simp only [limbsN, V]
    rw [ih (by omega) (by omega)]; omega
theorem limbsN_of {xs : List Int} (h : Lim xs) : limbsN xs.length (V xs) = xs :=
  V_inj (limbsN_lim _ _) h (limbsN_length _ _) (limbsN_V (V_nonneg h) (V_lt h))
theorem limbsN_eq {xs : List Int} (h : Lim xs) {n : Nat} {v : Int} (hn : xs.length = n) (hv : V xs = v) : xs = limbsN n v := by
  subst hn hv; exact (limbsN_of h).symm

/-- The limbs of a number, with none above the greatest that is not zero. -/
def digF : Nat → Int → List Int
  | 0, _ => []
  | n + 1, v => if v ≤ 0 then [] else v % 1000000000 :: digF n (v / 1000000000)
def dig (v : Int) : List Int := digF v.toNat v
theorem digF_enough : ∀ (n m : Nat) (v : Int), v.toNat ≤ n → v.toNat ≤ m → digF n v = digF m v
  | 0, 0, v, _, _ => rfl
  | 0, m + 1, v, h, _ => by simp only [digF]; rw [if_pos (by omega)]
  | n + 1, 0, v, _, h => by simp only [digF]; rw [if_pos (by omega)]
  | n + 1, m + 1, v, h, h' => by
    simp only [digF]
    split
    · rfl
    · rw [digF_enough n m _ (by omega) (by omega)]
theorem dig_zero {v : Int} (h : v ≤ 0) : dig v = [] := by
  unfold dig; rw [show v.toNat = 0 by omega]; rfl
theorem dig_pos {v : Int} (h : 0 < v) : dig v = v % 1000000000 :: dig (v / 1000000000) := by
  unfold dig
  rw [show v.toNat = (v.toNat - 1) + 1 by omega]
  simp only [digF]
  rw [if_neg (by omega), digF_enough (v.toNat - 1) (v / 1000000000).toNat _ (by omega) (by omega)]
theorem dig_ind {M : Int → Prop} (h0 : ∀ v, v ≤ 0 → M v) (h1 : ∀ v, 0 < v → M (v / 1000000000) → M v) (v : Int) : M v := by
  have key : ∀ n : Nat, ∀ v : Int, v.toNat ≤ n → M v := by
    intro n
    induction n with
    | zero => exact fun v h => h0 v (by omega)
    | succ n ih =>
      intro v h
      rcases Int.lt_or_le 0 v with k | k
      · exact h1 v k (ih _ (by omega))
      · exact h0 v k
  exact key _ v (Nat.le_refl _)
theorem dig_lim (v : Int) : Lim (dig v) := by
  refine dig_ind (M := fun v => Lim (dig v)) (fun v h => by rw [dig_zero h]; exact Lim.nil) (fun v h ih => ?_) v
  rw [dig_pos h]; exact Lim.cons (by omega) (by omega) ih
theorem dig_V {v : Int} (h0 : 0 ≤ v) : V (dig v) = v := by
  revert h0
  refine dig_ind (M := fun v => 0 ≤ v → V (dig v) = v) (fun v h h0 => by rw [dig_zero h]; simp only [V]; omega) (fun v h ih h0 => ?_) v
  rw [dig_pos h]; simp only [V]; rw [ih (by omega)]; omega
theorem dig_ne {v : Int} (h : 0 < v) : dig v ≠ [] := by rw [dig_pos h]; simp
theorem dig_last (v : Int) : lastOk (dig v) := by
  refine dig_ind (M := fun v => lastOk (dig v)) (fun v h => by rw [dig_zero h]; intro x hx; simp at hx) (fun v h ih => ?_) v
  rw [dig_pos h]
  intro x hx
  rcases Int.lt_or_le 0 (v / 1000000000) with k | k
  · have hne := dig_ne k
    rw [List.getLast?_cons] at hx
    obtain ⟨y, hy⟩ : ∃ y, (dig (v / 1000000000)).getLast? = some y := by
      cases e : (dig (v / 1000000000)).getLast? with
      | none => exact absurd (List.getLast?_eq_none_iff.1 e) hne
      | some y => exact ⟨y, rfl⟩
    rw [hy] at hx
    simp only [Option.getD_some, Option.some.injEq] at hx
    subst hx; exact ih _ hy
  · rw [dig_zero k] at hx
    simp at hx; omega
/-- What a list's zeros at its end do not change. -/
theorem V_snoc (xs : List Int) (x : Int) : V (xs ++ [x]) = V xs + P9 xs.length * x := by rw [V_append]; simp [V]
theorem lastOk_pos {xs : List Int} (h : Lim xs) (hne : xs ≠ []) (hl : lastOk xs) : 0 < V xs := by
  induction xs with
  | nil => exact absurd rfl hne
  | cons x xs ih =>
    have h1 := h.head
    simp only [V]
    cases xs with
    | nil => have := hl x (by simp); simp only [V]; omega
    | cons y ys =>
      have := ih h.tail (by simp) (fun z hz => hl z (by rw [List.getLast?_cons_cons]; exact hz))
      omega
theorem dig_of {xs : List Int} (h : Lim xs) (hl : lastOk xs) : dig (V xs) = xs := by
  induction xs with
  | nil => exact dig_zero (by simp [V])
  | cons x xs ih =>
    have h1 := h.head
    have hp := lastOk_pos h (by simp) hl
    rw [dig_pos hp]
    simp only [V]
    rw [show (x + 1000000000 * V xs) % 1000000000 = x by omega, show (x + 1000000000 * V xs) / 1000000000 = V xs by omega]
    rw [ih h.tail ?_]
    intro z hz
    refine hl z ?_
    rw [List.getLast?_cons, hz]; rfl
theorem V_take_last {xs : List Int} (hne : 0 < xs.length) (h : xs.getD (xs.length - 1) 0 = 0) : V (xs.take (xs.length - 1)) = V xs := by
  obtain ⟨ys, y, rfl⟩ : ∃ ys y, xs = ys ++ [y] := ⟨xs.dropLast, xs.getLast (by intro e; simp [e] at hne), (List.dropLast_concat_getLast _).symm⟩
  simp [List.getD] at h
  subst h
  simp [V_append, V]
theorem lastOk_of {xs : List Int} (h : 0 < xs.length → xs.getD (xs.length - 1) 0 ≠ 0) : lastOk xs := by
  intro x hx
  have hne : xs ≠ [] := by rintro rfl; simp at hx
  have hp : 0 < xs.length := List.length_pos_iff.2 hne
  have := h hp
  rw [List.getLast?_eq_getElem?] at hx
  simp [List.getD, hx] at this
  exact this
theorem dig_len {v : Int} {n : Nat} (h : v < P9 n) : (dig v).length ≤ n := by
  induction n generalizing v with
  | zero => rw [dig_zero (by simp only [P9] at h; omega)]; simp
  | succ n ih =>
    rcases Int.lt_or_le 0 v with k | k
    · rw [dig_pos k, List.length_cons]
      have := ih (v := v / 1000000000) (by simp only [P9] at h; omega)
      omega
    · rw [dig_zero k]; simp
theorem dig_len64 {v : Int} (h : v < 18446744073709551616) : (dig v).length ≤ 3 := dig_len (n := 3) (by simp only [P9]; omega)
theorem dig_get_last {v : Int} (h : 0 < (dig v).length) : (dig v).getD ((dig v).length - 1) 0 ≠ 0 := by
  have := dig_last v ((dig v).getD ((dig v).length - 1) 0) (by rw [List.getLast?_eq_getElem?, List.getD, List.getElem?_eq_getElem (by omega)]; rfl)
  exact this
end Go.Proofs.YtfmebdmgnmogaaaDoor
