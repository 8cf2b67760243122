/- Decimal texts, in plain Lean. No statement of its own. -/
import Derived.Test.YtfmebdmgnmogaaaDoorQE3
import Derived.Test.YtfmebdmgnmogaaaDoorQI12
set_option linter.unusedSimpArgs false
set_option linter.unusedVariables false
set_option maxRecDepth 100000
set_option maxHeartbeats 4000000
namespace Go.Proofs.YtfmebdmgnmogaaaDoor
open Go Go.RowKit Hv

theorem und21 : Tryd.prog.underlying 21 = some (.int .i32) := by kernel_rfl
theorem ty9 : tyT Tryd.prog 9 = some (false, 1) := by kernel_rfl
theorem ty5 : tyT Tryd.prog 5 = some (false, 1) := by kernel_rfl
theorem el44 : elT Tryd.prog 44 = some (5, 1, 1) := by kernel_rfl
theorem und44 : Tryd.prog.underlying 44 = some (.slice 5) := by kernel_rfl
attribute [push_cast] und21 ty9 ty5 el44 und44
attribute [push_cast] Go.IntWalk.u8_in Go.IntWalk.i32_in

def p10 : Nat → Int
  | 0 => 1
  | k + 1 => 10 * p10 k
theorem p10_pos (k : Nat) : 0 < p10 k := by
  induction k with
  | zero => decide
  | succ k ih => simp only [p10]; omega
theorem p10_add (a b : Nat) : p10 (a + b) = p10 a * p10 b := by
  induction b with
  | zero => simp [p10]
  | succ b ih => rw [← Nat.add_assoc]; simp only [p10]; rw [ih, Int.mul_left_comm]
theorem p10_9 (k : Nat) : p10 (9 * k) = P9 k := by
  induction k with
  | zero => rfl
  | succ k ih => rw [Nat.mul_succ, p10_add, ih]; simp only [P9, p10]; omega
theorem p10_le {a b : Nat} (h : a ≤ b) : p10 a ≤ p10 b := by
  obtain ⟨c, rfl⟩ := Nat.le.dest h
  rw [p10_add]
  have := p10_pos a; have := p10_pos c
  have h1 : p10 a * 1 ≤ p10 a * p10 c := Int.mul_le_mul_of_nonneg_left (by omega) (by omega)
  omega

/-- A digit's letter. -/
def ch (d : Int) : UInt8 := UInt8.ofNat (48 + d).toNat
theorem ch_nat {d : Int} (h0 : 0 ≤ d) (h1 : d < 10) : ((ch d).toNat : Int) = 48 + d := by
  obtain rfl | rfl | rfl | rfl | rfl | rfl | rfl | rfl | rfl | rfl : d = 0 ∨ d = 1 ∨ d = 2 ∨ d = 3 ∨ d = 4 ∨ d = 5 ∨ d = 6 ∨ d = 7 ∨ d = 8 ∨ d = 9 := by omega
  all_goals rfl
theorem enc_ch {d : Int} (h0 : 0 ≤ d) (h1 : d < 10) : Utf8.encode (48 + d) = bs [ch d] := by
  obtain rfl | rfl | rfl | rfl | rfl | rfl | rfl | rfl | rfl | rfl : d = 0 ∨ d = 1 ∨ d = 2 ∨ d = 3 ∨ d = 4 ∨ d = 5 ∨ d = 6 ∨ d = 7 ∨ d = 8 ∨ d = 9 := by omega
  all_goals rfl
theorem bs_app (a b : List UInt8) : bs a ++ bs b = bs (a ++ b) := by
  apply ByteArray.ext
  simp [bs]
/-- The last k digits. -/
def dgs : Nat → Int → List UInt8
  | 0, _ => []
  | k + 1, d => dgs k (d / 10) ++ [ch (d % 10)]
theorem dgs_length (k : Nat) (d : Int) : (dgs k d).length = k := by
  induction k generalizing d with
  | zero => rfl
  | succ k ih => simp [dgs, ih]
/-- The limbs n-1 .. 0, nine digits each. -/
def tl9 (xs : List Int) : Nat → List UInt8
  | 0 => []
  | k + 1 => dgs 9 (xs.getD k 0) ++ tl9 xs k
theorem tl9_length (xs : List Int) (k : Nat) : (tl9 xs k).length = 9 * k := by
  induction k with
  | zero => rfl
  | succ k ih => simp only [tl9, List.length_append, dgs_length, ih]; omega

def strip0 : List UInt8 → List UInt8
  | [] => []
  | c :: l => if c = 48 then strip0 l else c :: l
def rtxt (b : Bool) (xs : List Int) : List UInt8 := if xs.length = 0 then [48] else sgnD b ++ strip0 (tl9 xs xs.length)

/-- The value of a text of digits. -/
def vd (l : List UInt8) : Int := l.foldl (fun a c => 10 * a + ((c.toNat : Int) - 48)) 0
theorem vd_snoc (l : List UInt8) (c : UInt8) : vd (l ++ [c]) = 10 * vd l + ((c.toNat : Int) - 48) := by simp [vd]
theorem rev_ind {α : Type} {M : List α → Prop} (h0 : M []) (h1 : ∀ l c, M l → M (l ++ [c])) (l : List α) : M l := by
  have : ∀ l : List α, M l.reverse := fun l => by
    induction l with
    | nil => exact h0
    | cons c l ih => rw [List.reverse_cons]; exact h1 _ _ ih
  have := this l.reverse
  rwa [List.reverse_reverse] at this
theorem vd_app (a b : List UInt8) : vd (a ++ b) = vd a * p10 b.length + vd b := by
  refine rev_ind (M := fun b => vd (a ++ b) = vd a * p10 b.length + vd b) ?_ ?_ b
  · simp [vd, p10]
  · intro b c ih
    rw [← List.append_assoc, vd_snoc, vd_snoc, ih, List.length_append]
    simp only [List.length_cons, List.length_nil, p10, Nat.zero_add]
    rw [Int.mul_add, Int.mul_left_comm 10, Int.add_assoc]
def isD (c : UInt8) : Bool := decide (48 ≤ c.toNat ∧ c.toNat ≤ 57)
def allD (l : List UInt8) : Prop := ∀ c ∈ l, 48 ≤ c.toNat ∧ c.toNat ≤ 57
theorem vd_bound {l : List UInt8} (h : allD l) : 0 ≤ vd l ∧ vd l < p10 l.length := by
  revert h
  refine rev_ind (M := fun l => allD l → 0 ≤ vd l ∧ vd l < p10 l.length) (fun _ => by decide) ?_ l
  · intro l c ih h
    have h1 := ih (fun x hx => h x (by simp [hx]))
    have h2 := h c (by simp)
    rw [vd_snoc, List.length_append]
    simp only [List.length_cons, List.length_nil, p10, Nat.zero_add]
    omega
theorem allD_take {l : List UInt8} (h : allD l) (n : Nat) : allD (l.take n) := fun c hc => h c (List.mem_of_mem_take hc)
theorem allD_drop {l : List UInt8} (h : allD l) (n : Nat) : allD (l.drop n) := fun c hc => h c (List.mem_of_mem_drop hc)
theorem vd_take {l : List UInt8} {j : Nat} (h : j < l.length) : vd (l.take (j + 1)) = 10 * vd (l.take j) + (((l.getD j 0).toNat : Int) - 48) := by
  rw [List.take_add_one, List.getElem?_eq_getElem h, Option.toList_some, vd_snoc]
  simp [List.getD, h]

/-- What a text stands for. -/
def okP (l : List UInt8) : Prop := cutP 45 l ≠ [] ∧ ¬ ((cutP 45 l).head? = some 48 ∧ l ≠ [48]) ∧ allD (cutP 45 l)
open Classical in
noncomputable def pz (l : List UInt8) : Int := if okP l then sgnd (pre 45 l) (vd (cutP 45 l)) else 0
open Classical in
noncomputable def pe (l : List UInt8) : Int := if okP l then 0 else 2
theorem pz_no {l : List UInt8} (h : ¬ okP l) : pz l = 0 ∧ pe l = 2 := by unfold pz pe; rw [if_neg h, if_neg h]; exact ⟨rfl, rfl⟩
theorem pz_yes {l : List UInt8} (h : okP l) : pz l = sgnd (pre 45 l) (vd (cutP 45 l)) ∧ pe l = 0 := by unfold pz pe; rw [if_pos h, if_pos h]; exact ⟨rfl, rfl⟩
end Go.Proofs.YtfmebdmgnmogaaaDoor
