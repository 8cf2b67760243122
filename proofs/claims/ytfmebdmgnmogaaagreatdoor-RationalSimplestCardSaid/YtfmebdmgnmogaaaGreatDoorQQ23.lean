/- The simplest rational number between two others, plain. No statement of its own. -/
import Derived.Test.YtfmebdmgnmogaaaGreatDoorQQ19
set_option linter.unusedVariables false
set_option linter.unusedSimpArgs false
set_option linter.unusedSimpArgs false
set_option linter.unusedVariables false
set_option maxRecDepth 100000
set_option maxHeartbeats 4000000
namespace Go.Proofs.YtfmebdmgnmogaaaGreatDoor
open Go Go.RowKit Hv

theorem IsR.inv' {p q : Int} {z : Rat} (h : IsR p q z) (hp : 0 < p) : IsR q p z⁻¹ := by
  have hg := isR_gcd h
  rw [Rat.inv_def, ← h.1, ← h.2]
  refine isR_cop hp ?_
  unfold gI at hg ⊢
  rw [Int.gcd_comm]; exact hg
theorem IsR.addInt {p q : Int} {z : Rat} (h : IsR p q z) (n : Int) : IsR (n * q + p) q ((n : Rat) + z) := by
  have hg := isR_gcd h
  have e : (n : Rat) + z = Rat.divInt (n * q + p) q := by
    rw [(isR_int n).add h, Int.mul_one, Int.one_mul]
  rw [e]
  refine isR_cop h.pos ?_
  unfold gI at hg ⊢
  rw [Int.gcd_mul_right_add_left]; exact hg
theorem IsR.lt {pa qa pb qb : Int} {a b : Rat} (ha : IsR pa qa a) (hb : IsR pb qb b) : a < b ↔ pa * qb < pb * qa := by
  rw [Rat.lt_iff, ← ha.1, ← ha.2, ← hb.1, ← hb.2]
theorem IsR.num_pos {p q : Int} {a : Rat} (h : IsR p q a) (h0 : 0 < a) : 0 < p := by rw [← sgn_gt h]; exact h0
theorem inv_lt {x y : Rat} (hx : 0 < x) (h : x < y) : y⁻¹ < x⁻¹ := by
  have hy : 0 < y := by grind
  have ix := isR_self x
  have iy := isR_self y
  rw [(iy.inv' (iy.num_pos hy)).lt (ix.inv' (ix.num_pos hx))]
  have := (ix.lt iy).1 h
  rw [Int.mul_comm (y.den : Int), Int.mul_comm (x.den : Int)]; exact this
/-- x is the simplest number between a and b, which are not negative. -/
def Mn (a b x : Rat) : Prop := a < x ∧ x < b ∧ ∀ y : Rat, a < y → y < b → x.den ≤ y.den ∧ x.num ≤ y.num
theorem fl_lt (a : Rat) : a < (a.floor : Rat) + 1 := by
  have := Rat.lt_floor_add_one a
  rwa [Rat.intCast_add] at this
theorem fl_nn {a : Rat} (h : 0 ≤ a) : 0 ≤ a.floor := by
  rw [Rat.le_floor_iff]; exact h
/-- A number above a whole one has at least the next one's numerator. -/
theorem num_next {n : Int} {y : Rat} (hn : 0 ≤ n) (h : (n : Rat) < y) : n + 1 ≤ y.num ∧ n * (y.den : Int) + 1 ≤ y.num := by
  have h1 := ((isR_int n).lt (isR_self y)).1 h
  have h2 := y.den_pos
  rw [Int.mul_one] at h1
  have h3 : n * 1 ≤ n * (y.den : Int) := Int.mul_le_mul_of_nonneg_left (by omega) hn
  omega
theorem mn_next {a b : Rat} (h0 : 0 ≤ a) (h : (a.floor : Rat) + 1 < b) : Mn a b ((a.floor : Rat) + 1) := by
  refine ⟨fl_lt a, h, fun y hy _ => ?_⟩
  have h1 := Rat.floor_le a
  have h2 := num_next (y := y) (fl_nn h0) (by grind)
  have e : IsR (a.floor + 1) 1 ((a.floor : Rat) + 1) := by
    have := isR_int (a.floor + 1)
    rwa [Rat.intCast_add] at this
  have := y.den_pos
  have e1 := e.1
  have e2 := e.2
  omega
/-- The numbers above n, by what is above them. -/
theorem above {n : Int} {y : Rat} (h : (n : Rat) < y) : ∃ z : Rat, 0 < z ∧ z = (y - n)⁻¹ ∧ y = n + z⁻¹ ∧ (y.den : Int) = z.num ∧ y.num = n * z.num + z.den := by
  have h0 : 0 < y - n := by grind
  have hz : 0 < (y - n)⁻¹ := Rat.inv_pos.2 h0
  have e : y = n + ((y - n)⁻¹)⁻¹ := by rw [Rat.inv_inv]; grind
  refine ⟨(y - n)⁻¹, hz, rfl, e, ?_, ?_⟩
  · have i := ((isR_self (y - n)⁻¹).inv' ((isR_self _).num_pos hz)).addInt n
    rw [← e] at i
    exact i.2.symm
  · have i := ((isR_self (y - n)⁻¹).inv' ((isR_self _).num_pos hz)).addInt n
    rw [← e] at i
    exact i.1.symm
theorem of_above {n : Int} {w : Rat} (hw : 0 < w) : IsR (n * w.num + w.den) w.num ((n : Rat) + w⁻¹) := ((isR_self w).inv' ((isR_self w).num_pos hw)).addInt n
theorem mn_whole {a b : Rat} (h0 : 0 ≤ a) (he : a = (a.floor : Rat)) (hab : a < b) : Mn a b ((a.floor : Rat) + ((((b - (a.floor : Rat))⁻¹).floor : Rat) + 1)⁻¹) := by
  have hbf : 0 < b - (a.floor : Rat) := by grind
  have hl := Rat.inv_pos.2 hbf
  have hk := fl_nn (a := (b - (a.floor : Rat))⁻¹) (by grind)
  have hlt := fl_lt (b - (a.floor : Rat))⁻¹
  have hle := Rat.floor_le (b - (a.floor : Rat))⁻¹
  generalize hkk : ((b - (a.floor : Rat))⁻¹).floor = k at *
  have hk1 : ((k + 1 : Int) : Rat) = (k : Rat) + 1 := by rw [Rat.intCast_add]; rfl
  have hw : (0 : Rat) < (k : Rat) + 1 := by grind
  have hx := of_above (n := a.floor) hw
  have e1 : ((k : Rat) + 1).num = k + 1 := by rw [← hk1]; rfl
  have e2 : ((k : Rat) + 1).den = 1 := by rw [← hk1]; rfl
  rw [e1, e2] at hx
  refine ⟨?_, ?_, fun y hy hyb => ?_⟩
  · have := Rat.inv_pos.2 hw; grind
  · have := inv_lt hl hlt
    rw [Rat.inv_inv] at this
    grind
  · obtain ⟨z, z0, hz, ey, hd, hnm⟩ := above (n := a.floor) (y := y) (by grind)
    have hz1 : (b - (a.floor : Rat))⁻¹ < z := by rw [hz]; exact inv_lt (by grind) (by grind)
    have hz2 := num_next (n := k) (y := z) hk (by grind)
    have hz3 := z.den_pos
    have m1 : a.floor * (k + 1) ≤ a.floor * z.num := Int.mul_le_mul_of_nonneg_left hz2.1 (fl_nn h0)
    have g1 := hx.1
    have g2 := hx.2
    omega
theorem mn_step {a b w : Rat} (h0 : 0 ≤ a) (hfa : (a.floor : Rat) < a) (hab : a < b) (hw : Mn (b - (a.floor : Rat))⁻¹ (a - (a.floor : Rat))⁻¹ w) : Mn a b ((a.floor : Rat) + w⁻¹) := by
  have hbf : 0 < b - (a.floor : Rat) := by grind
  have haf : 0 < a - (a.floor : Rat) := by grind
  have hl := Rat.inv_pos.2 hbf
  have w0 : 0 < w := by have := hw.1; grind
  have hx := of_above (n := a.floor) w0
  refine ⟨?_, ?_, fun y hy hyb => ?_⟩
  · have := inv_lt w0 hw.2.1
    rw [Rat.inv_inv] at this
    grind
  · have := inv_lt hl hw.1
    rw [Rat.inv_inv] at this
    grind
  · obtain ⟨z, z0, hz, ey, hd, hnm⟩ := above (n := a.floor) (y := y) (by grind)
    have hz1 : (b - (a.floor : Rat))⁻¹ < z := by rw [hz]; exact inv_lt (by grind) (by grind)
    have hz2 : z < (a - (a.floor : Rat))⁻¹ := by rw [hz]; exact inv_lt haf (by grind)
    have hm := hw.2.2 z hz1 hz2
    have m1 : a.floor * w.num ≤ a.floor * z.num := Int.mul_le_mul_of_nonneg_left hm.2 (fl_nn h0)
    have g1 := hx.1
    have g2 := hx.2
    omega
theorem mn_bnd {pa qa pb qb : Int} {a b x : Rat} (ha : IsR pa qa a) (hb : IsR pb qb b) (h0 : 0 ≤ a) (hab : a < b) (h : Mn a b x) : x.num ≤ pa + pb ∧ (x.den : Int) ≤ qa + qb := by
  have qa0 := ha.pos
  have qb0 := hb.pos
  have pa0 : 0 ≤ pa := by have := sgn_lt ha; rcases Int.lt_or_le pa 0 with k | k; (rw [← this] at k; grind); exact k
  have pb0 : 0 < pb := hb.num_pos (by grind)
  have hl := divInt_le (p := pa + pb) (q := qa + qb) (by omega)
  have key : a < Rat.divInt (pa + pb) (qa + qb) ∧ Rat.divInt (pa + pb) (qa + qb) < b := by
    have e1 : a * (qa : Rat) = (pa : Rat) := by
      have : a = Rat.divInt pa qa := ha.eq.symm
      rw [this, Rat.divInt_eq_div]
      exact Rat.div_mul_cancel (by intro k; rw [show (0 : Rat) = ((0 : Int) : Rat) from rfl, Rat.intCast_inj] at k; omega)
    have e2 : b * (qb : Rat) = (pb : Rat) := by
      have : b = Rat.divInt pb qb := hb.eq.symm
      rw [this, Rat.divInt_eq_div]
      exact Rat.div_mul_cancel (by intro k; rw [show (0 : Rat) = ((0 : Int) : Rat) from rfl, Rat.intCast_inj] at k; omega)
    have A0 : (0 : Rat) < (qa : Rat) := by rw [show (0 : Rat) = ((0 : Int) : Rat) from rfl, Rat.intCast_lt_intCast]; exact qa0
    have B0 : (0 : Rat) < (qb : Rat) := by rw [show (0 : Rat) = ((0 : Int) : Rat) from rfl, Rat.intCast_lt_intCast]; exact qb0
    rw [Rat.divInt_eq_div, Rat.intCast_add, Rat.intCast_add]
    have AB : (0 : Rat) < (qa : Rat) + (qb : Rat) := by grind
    have k1 : a * (qb : Rat) < b * (qb : Rat) := (Rat.mul_lt_mul_right B0).2 hab
    have k2 : a * (qa : Rat) < b * (qa : Rat) := (Rat.mul_lt_mul_right A0).2 hab
    rw [Rat.lt_div_iff AB, Rat.div_lt_iff AB]
    grind
  have := h.2.2 _ key.1 key.2
  omega
theorem len_le {z r : Int} {L : Nat} (h0 : 0 ≤ z) (h : z ≤ r) (l : (dig (r.natAbs : Int)).length ≤ L) : (dig (z.natAbs : Int)).length ≤ L := Nat.le_trans (dig_le (by omega) (by omega)) l
end Go.Proofs.YtfmebdmgnmogaaaGreatDoor
