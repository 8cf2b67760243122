/- Rational numbers as pairs of integers. No statement of its own. -/
import Derived.Test.YtfmebdmgnmogaaaGreatDoorQQ1
set_option linter.unusedVariables false
set_option linter.unusedSimpArgs false
set_option linter.unusedSimpArgs false
set_option linter.unusedVariables false
set_option maxRecDepth 100000
set_option maxHeartbeats 4000000
namespace Go.Proofs.YtfmebdmgnmogaaaGreatDoor
open Go Go.RowKit Hv

/-- A fraction's two integers, as the program holds them. -/
def aR (p q : Int) : HV := .agg [.raw (.bool (decide (p < 0))), .sl (dig (p.natAbs : Int)).length false (ints .u32 (dig (p.natAbs : Int))), .raw (.bool (decide (q < 0))), .sl (dig (q.natAbs : Int)).length false (ints .u32 (dig (q.natAbs : Int)))]
def IsR (p q : Int) (r : Rat) : Prop := p = r.num ∧ q = (r.den : Int)
def RL (p q : Int) (L : Nat) : Prop := (dig (p.natAbs : Int)).length ≤ L ∧ (dig (q.natAbs : Int)).length ≤ L
theorem IsR.pos {p q : Int} {r : Rat} (h : IsR p q r) : 0 < q := by
  have := r.den_pos
  rw [h.2]; omega
theorem IsR.eq {p q : Int} {r : Rat} (h : IsR p q r) : Rat.divInt p q = r := by rw [h.1, h.2, Rat.num_divInt_den]
theorem IsR.inj {p q p' q' : Int} {r : Rat} (h : IsR p q r) (h' : IsR p' q' r) : p = p' ∧ q = q' := ⟨h.1.trans h'.1.symm, h.2.trans h'.2.symm⟩
theorem isR_self (r : Rat) : IsR r.num r.den r := ⟨rfl, rfl⟩
theorem gI_pos {p q : Int} (hq : q ≠ 0) : 0 < gI p q := by
  unfold gI
  have : 0 < Int.gcd p q := Int.gcd_pos_of_ne_zero_right p hq
  omega
theorem red_num {p q : Int} (hq : q ≠ 0) : fq (if q < 0 then -p else p) (gI p q) = (Rat.divInt p q).num := by
  rw [(fq_pp' (gI_pos hq)).1, Rat.num_divInt, Int.gcd_comm q p]
  show _ / ((Int.gcd p q : Nat) : Int) = _
  rcases Int.lt_or_le q 0 with h | h
  · rw [if_pos h, Int.sign_eq_neg_one_of_neg h, Int.neg_one_mul]
  · rw [if_neg (by omega), Int.sign_eq_one_of_pos (by omega), Int.one_mul]
theorem red_den {p q : Int} (hq : q ≠ 0) : fq (if q < 0 then -q else q) (gI p q) = ((Rat.divInt p q).den : Int) := by
  rw [(fq_pp' (gI_pos hq)).1, Rat.den_divInt, if_neg hq, Int.gcd_comm q p]
  show _ / ((Int.gcd p q : Nat) : Int) = _
  rw [Int.natCast_ediv]
  congr 1
  split <;> omega
theorem divInt_le {p q : Int} (hq : q ≠ 0) : (Rat.divInt p q).num.natAbs ≤ p.natAbs ∧ (Rat.divInt p q).den ≤ q.natAbs := by
  rw [← red_num hq]
  have h2 := red_den (p := p) hq
  have hg := gI_pos (p := p) hq
  have h3 := fq_le (a := if q < 0 then -p else p) (b := gI p q) (by omega)
  have h4 := fq_le (a := if q < 0 then -q else q) (b := gI p q) (by omega)
  constructor
  · refine Nat.le_trans h3 ?_
    split <;> omega
  · rw [h2] at h4
    have : (if q < 0 then -q else q).natAbs = q.natAbs := by split <;> omega
    rw [this] at h4
    omega
theorem RL.div {p q n d : Int} {L : Nat} (h : RL p q L) (hq : q ≠ 0) (hr : IsR n d (Rat.divInt p q)) : RL n d L := by
  obtain ⟨h1, h2⟩ := divInt_le (p := p) hq
  rw [hr.1, hr.2]
  exact ⟨Nat.le_trans (dig_le (by omega) (by omega)) h.1, Nat.le_trans (dig_le (by omega) (by omega)) h.2⟩
theorem RL.mono {p q : Int} {L M : Nat} (h : RL p q L) (hm : L ≤ M) : RL p q M := ⟨Nat.le_trans h.1 hm, Nat.le_trans h.2 hm⟩
theorem IsR.add {pa qa pb qb : Int} {a b : Rat} (ha : IsR pa qa a) (hb : IsR pb qb b) : a + b = Rat.divInt (pa * qb + pb * qa) (qa * qb) := by
  rw [← ha.eq, ← hb.eq, Rat.divInt_add_divInt _ _ (by have := ha.pos; omega) (by have := hb.pos; omega)]
theorem IsR.mul {pa qa pb qb : Int} {a b : Rat} (ha : IsR pa qa a) (hb : IsR pb qb b) : a * b = Rat.divInt (pa * pb) (qa * qb) := by
  rw [← ha.eq, ← hb.eq, Rat.divInt_mul_divInt]
theorem qmul_ne {qa qb : Int} (ha : 0 < qa) (hb : 0 < qb) : qa * qb ≠ 0 := by
  have := Int.mul_pos ha hb; omega
theorem RL.add {pa qa pb qb pc qc : Int} {a b : Rat} {L M : Nat} (ha : IsR pa qa a) (hb : IsR pb qb b) (la : RL pa qa L) (lb : RL pb qb M) (hc : IsR pc qc (a + b)) : RL pc qc (L + M + 1) := by
  rw [ha.add hb] at hc
  refine RL.div ⟨?_, ?_⟩ (qmul_ne ha.pos hb.pos) hc
  · have h1 := len_mul (x := pa) (y := qb)
    have h2 := len_mul (x := pb) (y := qa)
    have := la.1; have := la.2; have := lb.1; have := lb.2
    exact len_add (n := L + M) (by omega) (by omega)
  · have h1 := len_mul (x := qa) (y := qb)
    have := la.2; have := lb.2
    omega
theorem RL.mul {pa qa pb qb pc qc : Int} {a b : Rat} {L M : Nat} (ha : IsR pa qa a) (hb : IsR pb qb b) (la : RL pa qa L) (lb : RL pb qb M) (hc : IsR pc qc (a * b)) : RL pc qc (L + M) := by
  rw [ha.mul hb] at hc
  refine RL.div ⟨?_, ?_⟩ (qmul_ne ha.pos hb.pos) hc
  · have h1 := len_mul (x := pa) (y := pb)
    have := la.1; have := lb.1
    omega
  · have h1 := len_mul (x := qa) (y := qb)
    have := la.2; have := lb.2
    omega
theorem IsR.neg {pa qa : Int} {a : Rat} (ha : IsR pa qa a) : IsR (-pa) qa (-a) := ⟨by rw [ha.1]; rfl, by rw [ha.2]; rfl⟩
theorem RL.neg {p q : Int} {L : Nat} (h : RL p q L) : RL (-p) q L := ⟨by rw [Int.natAbs_neg]; exact h.1, h.2⟩
theorem IsR.sub {pa qa pb qb : Int} {a b : Rat} (ha : IsR pa qa a) (hb : IsR pb qb b) : a - b = a + -b := Rat.sub_eq_add_neg _ _
/-- Equal denominators. -/
theorem IsR.add_same {pa q pb : Int} {a b : Rat} (ha : IsR pa q a) (hb : IsR pb q b) : a + b = Rat.divInt (pa + pb) q := by
  rw [ha.add hb]
  have := ha.pos
  rw [Rat.divInt_eq_divInt_iff (qmul_ne this this) (by omega), ← Int.add_mul, Int.mul_assoc]
theorem isR_int (z : Int) : IsR z 1 (z : Rat) := ⟨rfl, rfl⟩
end Go.Proofs.YtfmebdmgnmogaaaGreatDoor
