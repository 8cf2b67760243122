/- Simplest, the program's and the reference's, and what the law asks of it. No statement of its own. -/
import Derived.Test.YtfmebdmgnmogaaaGreatDoorQQ24
set_option linter.unusedVariables false
set_option linter.unusedSimpArgs false
set_option linter.unusedSimpArgs false
set_option linter.unusedVariables false
set_option maxRecDepth 100000
set_option maxHeartbeats 8000000
namespace Go.Proofs.YtfmebdmgnmogaaaGreatDoor
open Go Go.RowKit Hv

/-- No number between has a lesser denominator, or the same one and a lesser absolute value. -/
def MD (a b x : Rat) : Prop := a < x ∧ x < b ∧ ∀ y : Rat, a < y → y < b → x.den ≤ y.den ∧ x.num.natAbs ≤ y.num.natAbs
theorem md_of {a b x : Rat} (h0 : 0 ≤ a) (h : Mn a b x) : MD a b x := by
  refine ⟨h.1, h.2.1, fun y h1 h2 => ?_⟩
  have k := h.2.2 y h1 h2
  have e1 := (isR_self x).num_pos (by have := h.1; grind)
  have e2 := (isR_self y).num_pos (by grind)
  omega
theorem md_neg {a b x : Rat} (h : MD (-b) (-a) x) : MD a b (-x) := by
  refine ⟨by have := h.2.1; grind, by have := h.1; grind, fun y h1 h2 => ?_⟩
  have k := h.2.2 (-y) (by grind) (by grind)
  simp only [Rat.neg_den, Rat.neg_num, Int.natAbs_neg] at k ⊢
  exact k
theorem md_zero {a b : Rat} (h1 : a < 0) (h2 : 0 < b) : MD a b 0 := ⟨h1, h2, fun y _ _ => ⟨y.den_pos, Nat.zero_le _⟩⟩
theorem md_less {a b x : Rat} {d : Int} (h : MD a b x) (h0 : 0 < d) (hd : d < (x.den : Int)) : ¬ Rat.divInt ((a * (d : Rat)).floor + 1) d < b := by
  intro hb
  have h1 := fl_lt (a * (d : Rat))
  have d0 : (0 : Rat) < (d : Rat) := by rw [show (0 : Rat) = ((0 : Int) : Rat) from rfl, Rat.intCast_lt_intCast]; exact h0
  have ha : a < Rat.divInt ((a * (d : Rat)).floor + 1) d := by
    rw [Rat.divInt_eq_div, Rat.lt_div_iff d0, Rat.intCast_add]
    exact h1
  have k := (h.2.2 _ ha hb).1
  have l := (divInt_le (p := (a * (d : Rat)).floor + 1) (q := d) (by omega)).2
  omega
theorem md_near {a b x : Rat} {p q s : Int} (h : MD a b x) (hx : IsR p q x) (hp : p ≠ 0) (hs : cmpI p 0 = s) : decide (a < Rat.divInt (p - s) q ∧ Rat.divInt (p - s) q < b) = false := by
  refine decide_eq_false (fun ⟨h1, h2⟩ => ?_)
  have k := (h.2.2 _ h1 h2).2
  have q0 := hx.pos
  have l := (divInt_le (p := p - s) (q := q) (by omega)).1
  have e := hx.1
  have : (p - s).natAbs < p.natAbs := by
    unfold cmpI at hs
    repeat' split at hs
    all_goals omega
  omega
theorem rsimp_ge {pa qa pb qb : Int} {a b : Rat} (ha : IsR pa qa a) (hb : IsR pb qb b) (h1 : ¬ a < 0) (hab : a < b) (la : RL pa qa 10000) (lb : RL pb qb 10000) {px qx : Int} (hx : HCallsD Tryz.prog 69 [] [.agg [.raw (.bool (decide (pa < 0))), .sl (dig (pa.natAbs : Int)).length false (ints .u32 (dig (pa.natAbs : Int))), .raw (.bool (decide (qa < 0))), .sl (dig (qa.natAbs : Int)).length false (ints .u32 (dig (qa.natAbs : Int)))], .agg [.raw (.bool (decide (pb < 0))), .sl (dig (pb.natAbs : Int)).length false (ints .u32 (dig (pb.natAbs : Int))), .raw (.bool (decide (qb < 0))), .sl (dig (qb.natAbs : Int)).length false (ints .u32 (dig (qb.natAbs : Int)))]] (aR px qx) []) : HCallsD Tryz.prog 28 [] [.agg [.raw (.bool (decide (pa < 0))), .sl (dig (pa.natAbs : Int)).length false (ints .u32 (dig (pa.natAbs : Int))), .raw (.bool (decide (qa < 0))), .sl (dig (qa.natAbs : Int)).length false (ints .u32 (dig (qa.natAbs : Int)))], .agg [.raw (.bool (decide (pb < 0))), .sl (dig (pb.natAbs : Int)).length false (ints .u32 (dig (pb.natAbs : Int))), .raw (.bool (decide (qb < 0))), .sl (dig (qb.natAbs : Int)).length false (ints .u32 (dig (qb.natAbs : Int)))]] (.tup [aR px qx, .raw (.int .i64 0)]) [] := by
  obtain ⟨c, hcc, c0⟩ := cmp_nn (p := pa) ((sgn_lt ha) ▸ h1)
  have hpb : 0 < pb := hb.num_pos (by grind)
  refine cp2 (rs := [.cell 4 26, .tmp 5]) (nt := 39) Tryz.func28 (fun C hP hn => ?_)
  ((repeat' (first | refine gW ?_ | (refine gIf ?_ ?_ <;> (intro hc; try exact gX)) | with_reducible refine br_intro ?_ ?_ | (with_reducible intro _; try exact gX) | with_reducible refine ands_intro ?_ ?_ | refine cx (rxcmp_c ha hb (cR_lt hab) (la.mono (by omega)) (lb.mono (by omega))) ?_ | refine cx (rxsign_c (p := pa) (q := qa) (la.mono (by omega)) hcc) ?_ | refine cx (rxsign_c (p := pb) (q := qb) (lb.mono (by omega)) (cmp_p hpb)) ?_ | refine cx (hx) ?_)) <;> (try exact gF))
  exact rqq2 (rC ty26) rT
theorem rsimp_0 {pa qa pb qb zero one : Int} {a b : Rat} (ha : IsR pa qa a) (hb : IsR pb qb b) (h1 : a < 0) (h2 : 0 < b) (h0 : 0 = zero) (ho : 1 = one) (la : RL pa qa 10000) (lb : RL pb qb 10000) : HCallsD Tryz.prog 28 [] [.agg [.raw (.bool (decide (pa < 0))), .sl (dig (pa.natAbs : Int)).length false (ints .u32 (dig (pa.natAbs : Int))), .raw (.bool (decide (qa < 0))), .sl (dig (qa.natAbs : Int)).length false (ints .u32 (dig (qa.natAbs : Int)))], .agg [.raw (.bool (decide (pb < 0))), .sl (dig (pb.natAbs : Int)).length false (ints .u32 (dig (pb.natAbs : Int))), .raw (.bool (decide (qb < 0))), .sl (dig (qb.natAbs : Int)).length false (ints .u32 (dig (qb.natAbs : Int)))]] (.tup [aR zero one, .raw (.int .i64 0)]) [] := by
  have hpa : pa < 0 := (sgn_lt ha) ▸ h1
  have hpb : 0 < pb := hb.num_pos h2
  refine cp2 (rs := [.cell 4 26, .tmp 5]) (nt := 39) Tryz.func28 (fun C hP hn => ?_)
  ((repeat' (first | refine gW ?_ | (refine gIf ?_ ?_ <;> (intro hc; try exact gX)) | with_reducible refine br_intro ?_ ?_ | (with_reducible intro _; try exact gX) | with_reducible refine ands_intro ?_ ?_ | refine cx (rxcmp_c ha hb (cR_lt (by grind)) (la.mono (by omega)) (lb.mono (by omega))) ?_ | refine cx (rxsign_c (p := pa) (q := qa) (la.mono (by omega)) (cmp_n hpa)) ?_ | refine cx (rxsign_c (p := pb) (q := qb) (lb.mono (by omega)) (cmp_p hpb)) ?_ | refine cx (rxfrom_c (by omega) (by omega) h0 ho) ?_)) <;> (try exact gF))
  exact rqq2 (rC ty26) rT
theorem cmp_np' {p : Int} (h : ¬ 0 < p) : ∃ c, cmpI p 0 = c ∧ c ≤ 0 := ⟨_, rfl, by unfold cmpI; split <;> (try split) <;> omega⟩
theorem rsimp_n {pa qa pb qb px qx na nb nx : Int} {a b : Rat} (ha : IsR pa qa a) (hb : IsR pb qb b) (h1 : a < 0) (h2 : ¬ 0 < b) (hab : a < b) (la : RL pa qa 10000) (lb : RL pb qb 10000) (ea : -pa = na) (eb : -pb = nb) (hx : HCallsD Tryz.prog 28 [] [.agg [.raw (.bool (decide (nb < 0))), .sl (dig (nb.natAbs : Int)).length false (ints .u32 (dig (nb.natAbs : Int))), .raw (.bool (decide (qb < 0))), .sl (dig (qb.natAbs : Int)).length false (ints .u32 (dig (qb.natAbs : Int)))], .agg [.raw (.bool (decide (na < 0))), .sl (dig (na.natAbs : Int)).length false (ints .u32 (dig (na.natAbs : Int))), .raw (.bool (decide (qa < 0))), .sl (dig (qa.natAbs : Int)).length false (ints .u32 (dig (qa.natAbs : Int)))]] (.tup [aR px qx, .raw (.int .i64 0)]) []) (lx : RL px qx 30000) (ex : -px = nx) : HCallsD Tryz.prog 28 [] [.agg [.raw (.bool (decide (pa < 0))), .sl (dig (pa.natAbs : Int)).length false (ints .u32 (dig (pa.natAbs : Int))), .raw (.bool (decide (qa < 0))), .sl (dig (qa.natAbs : Int)).length false (ints .u32 (dig (qa.natAbs : Int)))], .agg [.raw (.bool (decide (pb < 0))), .sl (dig (pb.natAbs : Int)).length false (ints .u32 (dig (pb.natAbs : Int))), .raw (.bool (decide (qb < 0))), .sl (dig (qb.natAbs : Int)).length false (ints .u32 (dig (qb.natAbs : Int)))]] (.tup [aR nx qx, .raw (.int .i64 0)]) [] := by
  have hpa : pa < 0 := (sgn_lt ha) ▸ h1
  obtain ⟨c, hcc, c0⟩ := cmp_np' (p := pb) ((sgn_gt hb) ▸ h2)
  refine cp2 (rs := [.cell 4 26, .tmp 5]) (nt := 39) Tryz.func28 (fun C hP hn => ?_)
  ((repeat' (first | refine gW ?_ | (refine gIf ?_ ?_ <;> (intro hc; try exact gX)) | with_reducible refine br_intro ?_ ?_ | (with_reducible intro _; try exact gX) | with_reducible refine ands_intro ?_ ?_ | refine cx (rxcmp_c ha hb (cR_lt hab) (la.mono (by omega)) (lb.mono (by omega))) ?_ | refine cx (rxsign_c (p := pa) (q := qa) (la.mono (by omega)) (cmp_n hpa)) ?_ | refine cx (rxsign_c (p := pb) (q := qb) (lb.mono (by omega)) hcc) ?_ | refine cx (rxneg_c (la.mono (by omega)) ea) ?_ | refine cx (rxneg_c (lb.mono (by omega)) eb) ?_ | refine cx (hx) ?_ | refine cx (rxneg_c (lx.mono (by omega)) ex) ?_)) <;> (try exact gF))
  exact rqq2 (rC ty26) rT
theorem simp_ex {pa qa pb qb : Int} {a b : Rat} (ha : IsR pa qa a) (hb : IsR pb qb b) (hab : a < b) (la : RL pa qa 6) (lb : RL pb qb 6) :
    ∃ (x : Rat) (px qx : Int), IsR px qx x ∧ MD a b x ∧ RL px qx 7 ∧ HCallsD Tryz.prog 27 [] [.agg [.raw (.bool (decide (pa < 0))), .sl (dig (pa.natAbs : Int)).length false (ints .u32 (dig (pa.natAbs : Int))), .raw (.bool (decide (qa < 0))), .sl (dig (qa.natAbs : Int)).length false (ints .u32 (dig (qa.natAbs : Int)))], .agg [.raw (.bool (decide (pb < 0))), .sl (dig (pb.natAbs : Int)).length false (ints .u32 (dig (pb.natAbs : Int))), .raw (.bool (decide (qb < 0))), .sl (dig (qb.natAbs : Int)).length false (ints .u32 (dig (qb.natAbs : Int)))]] (.tup [aR px qx, .raw (.int .i64 0)]) [] ∧ HCallsD Tryz.prog 28 [] [.agg [.raw (.bool (decide (pa < 0))), .sl (dig (pa.natAbs : Int)).length false (ints .u32 (dig (pa.natAbs : Int))), .raw (.bool (decide (qa < 0))), .sl (dig (qa.natAbs : Int)).length false (ints .u32 (dig (qa.natAbs : Int)))], .agg [.raw (.bool (decide (pb < 0))), .sl (dig (pb.natAbs : Int)).length false (ints .u32 (dig (pb.natAbs : Int))), .raw (.bool (decide (qb < 0))), .sl (dig (qb.natAbs : Int)).length false (ints .u32 (dig (qb.natAbs : Int)))]] (.tup [aR px qx, .raw (.int .i64 0)]) [] := by
  have la' := la.mono (M := 10000) (by omega)
  have lb' := lb.mono (M := 10000) (by omega)
  have bnd : ∀ {pa qa pb qb : Int} {a b x : Rat}, IsR pa qa a → IsR pb qb b → 0 ≤ a → a < b → RL pa qa 6 → RL pb qb 6 → Mn a b x → ∀ {px qx : Int}, IsR px qx x → RL px qx 7 := by
    intro pa qa pb qb a b x ha hb h0 hab la lb hm px qx hx
    have k := mn_bnd ha hb h0 hab hm
    have x0 : 0 < x := by have := hm.1; grind
    have e1 := hx.num_pos x0
    have e2 := hx.pos
    rw [← hx.1, ← hx.2] at k
    exact ⟨len_le (by omega) k.1 (len_add la.1 lb.1), len_le (by omega) k.2 (len_add la.2 lb.2)⟩
  by_cases h1 : a < 0
  · by_cases h2 : 0 < b
    · obtain ⟨zero, hz⟩ : ∃ z : Int, 0 = z := ⟨_, rfl⟩
      obtain ⟨one, ho⟩ : ∃ z : Int, 1 = z := ⟨_, rfl⟩
      refine ⟨0, zero, one, ⟨hz.symm, ho.symm⟩, md_zero h1 h2, ?_, simp_0 ha hb h1 h2 hz ho la' lb', rsimp_0 ha hb h1 h2 hz ho la' lb'⟩
      exact (show RL zero one 3 from ⟨dig_len64 (by omega), dig_len64 (by omega)⟩).mono (by omega)
    · have hna := ha.neg
      have hnb := hb.neg
      obtain ⟨w, px, qx, hx, hm, r1, r2⟩ := sim_ex (qb + qa).toNat _ _ _ _ _ _ hnb hna (by grind) (by grind) lb'.neg la'.neg (by have := ha.pos; have := hb.pos; omega)
      have lx := bnd hnb hna (by grind) (by grind) lb.neg la.neg hm hx
      exact ⟨-w, -px, qx, hx.neg, md_neg (md_of (by grind) hm), lx.neg, simp_n ha hb h1 h2 hab la' lb' rfl rfl r1 (lx.mono (by omega)) rfl, rsimp_n ha hb h1 h2 hab la' lb' rfl rfl (rsimp_ge hnb hna (by grind) (by grind) lb'.neg la'.neg r2) (lx.mono (by omega)) rfl⟩
  · obtain ⟨x, px, qx, hx, hm, r1, r2⟩ := sim_ex (qa + qb).toNat _ _ _ _ _ _ ha hb (by grind) hab la' lb' (by have := ha.pos; have := hb.pos; omega)
    exact ⟨x, px, qx, hx, md_of (by grind) hm, bnd ha hb (by grind) hab la lb hm hx, simp_p ha hb h1 hab la' lb' r1, rsimp_ge ha hb h1 hab la' lb' r2⟩
end Go.Proofs.YtfmebdmgnmogaaaGreatDoor
