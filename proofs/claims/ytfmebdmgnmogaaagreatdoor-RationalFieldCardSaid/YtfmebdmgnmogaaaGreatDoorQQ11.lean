/- The simplest rational number between two others: the program's recursion. No statement of its own. -/
import Derived.Test.YtfmebdmgnmogaaaGreatDoorQQ10
set_option linter.unusedVariables false
set_option linter.unusedSimpArgs false
set_option linter.unusedSimpArgs false
set_option linter.unusedVariables false
set_option maxRecDepth 100000
set_option maxHeartbeats 8000000
namespace Go.Proofs.YtfmebdmgnmogaaaGreatDoor
open Go Go.RowKit Hv

theorem IsR.floor {p q z : Int} {a : Rat} (ha : IsR p q a) (hz : fq p q = z) : a.floor = z := by
  have := ha.pos
  rw [Rat.floor_def, ← ha.1, ← ha.2, ← hz, (fq_pp' this).1]
theorem isR_one {z one : Int} (h : 1 = one) : IsR z one (z : Rat) := ⟨rfl, h.symm⟩
theorem isR_11 {one : Int} (h : 1 = one) : IsR one one (1 : Rat) := by subst h; exact ⟨rfl, rfl⟩
theorem RL.inv {p q n d : Int} {a : Rat} {L : Nat} (ha : IsR p q a) (l : RL p q L) (h0 : p ≠ 0) (hr : IsR n d a⁻¹) : RL n d L := by
  rw [Rat.inv_def, ← ha.1, ← ha.2] at hr
  exact RL.div ⟨l.2, l.1⟩ h0 hr
theorem fq_len {p q z : Int} {L : Nat} (hq : q ≠ 0) (hz : fq p q = z) (l : (dig (p.natAbs : Int)).length ≤ L) : (dig (z.natAbs : Int)).length ≤ L := by
  have := fq_le (a := p) hq
  rw [hz] at this
  exact Nat.le_trans (dig_le (by omega) (by omega)) l
theorem num_ne {p q : Int} {a : Rat} (ha : IsR p q a) (h : a ≠ 0) : p ≠ 0 := by
  rw [ha.1]; intro e; exact h (Rat.num_eq_zero.1 e)
theorem RL.sub {pa qa pb qb pc qc : Int} {a b : Rat} {L M : Nat} (ha : IsR pa qa a) (hb : IsR pb qb b) (la : RL pa qa L) (lb : RL pb qb M) (hc : IsR pc qc (a - b)) : RL pc qc (L + M + 1) := by
  rw [Rat.sub_eq_add_neg] at hc
  exact RL.add ha hb.neg la lb.neg hc
theorem btw_f {pa qa pb qb pn qn : Int} {a : Rat} (ha : IsR pa qa a) (la : RL pa qa 25000) (hr : IsR pn qn ((a.floor : Rat) + 1)) : HCallsD Tryz.prog 68 [] [.agg [.raw (.bool (decide (pa < 0))), .sl (dig (pa.natAbs : Int)).length false (ints .u32 (dig (pa.natAbs : Int))), .raw (.bool (decide (qa < 0))), .sl (dig (qa.natAbs : Int)).length false (ints .u32 (dig (qa.natAbs : Int)))], .agg [.raw (.bool (decide (pb < 0))), .sl (dig (pb.natAbs : Int)).length false (ints .u32 (dig (pb.natAbs : Int))), .raw (.bool (decide (qb < 0))), .sl (dig (qb.natAbs : Int)).length false (ints .u32 (dig (qb.natAbs : Int)))], .raw (.bool false)] (aR pn qn) [] := by
  obtain ⟨one, h1⟩ : ∃ z : Int, 1 = z := ⟨_, rfl⟩
  have b3 := one_len h1
  obtain ⟨z, hz⟩ : ∃ z, fq pa qa = z := ⟨_, rfl⟩
  have q0 := ha.pos
  have lz := fq_len (by omega) hz la.1
  rw [ha.floor hz] at hr
  refine cp3 (rs := [.cell 6 26]) (nt := 49) Tryz.func68 (fun C hP hn => ?_)
  ((repeat' (first | refine gW ?_ | (refine gIf ?_ ?_ <;> (intro hc; try exact gX)) | with_reducible refine br_intro ?_ ?_ | (with_reducible intro _; try exact gX) | with_reducible refine ands_intro ?_ ?_ | refine cx (xfloor_c (by omega) hz (la.mono (by omega))) ?_ | refine cx (whole_c (z := z) h1) ?_ | refine cx (xfrom_c (by omega) (by omega) h1 h1) ?_ | refine cx (xadd_c (isR_one (z := z) h1) (isR_11 h1) hr ⟨by omega, by omega⟩ ⟨by omega, by omega⟩) ?_)) <;> (try exact gF))
  exact rqq1 (rC ty26)
theorem btw_next {pa qa pb qb pn qn : Int} {a b : Rat} (ha : IsR pa qa a) (hb : IsR pb qb b) (la : RL pa qa 11000) (lb : RL pb qb 11000) (hr : IsR pn qn ((a.floor : Rat) + 1)) (hlt : (a.floor : Rat) + 1 < b) : HCallsD Tryz.prog 68 [] [.agg [.raw (.bool (decide (pa < 0))), .sl (dig (pa.natAbs : Int)).length false (ints .u32 (dig (pa.natAbs : Int))), .raw (.bool (decide (qa < 0))), .sl (dig (qa.natAbs : Int)).length false (ints .u32 (dig (qa.natAbs : Int)))], .agg [.raw (.bool (decide (pb < 0))), .sl (dig (pb.natAbs : Int)).length false (ints .u32 (dig (pb.natAbs : Int))), .raw (.bool (decide (qb < 0))), .sl (dig (qb.natAbs : Int)).length false (ints .u32 (dig (qb.natAbs : Int)))], .raw (.bool true)] (aR pn qn) [] := by
  obtain ⟨one, h1⟩ : ∃ z : Int, 1 = z := ⟨_, rfl⟩
  have b3 := one_len h1
  obtain ⟨z, hz⟩ : ∃ z, fq pa qa = z := ⟨_, rfl⟩
  have q0 := ha.pos
  have lz := fq_len (by omega) hz la.1
  rw [ha.floor hz] at hr hlt
  have ln := RL.add (isR_one (z := z) h1) (isR_11 h1) (L := 11000) (M := 3) ⟨by omega, by omega⟩ ⟨by omega, by omega⟩ hr
  have hcc : cR ((z : Rat) + 1) b = -1 := by unfold cR; rw [if_pos hlt]
  refine cp3 (rs := [.cell 6 26]) (nt := 49) Tryz.func68 (fun C hP hn => ?_)
  ((repeat' (first | refine gW ?_ | (refine gIf ?_ ?_ <;> (intro hc; try exact gX)) | with_reducible refine br_intro ?_ ?_ | (with_reducible intro _; try exact gX) | with_reducible refine ands_intro ?_ ?_ | refine cx (xfloor_c (by omega) hz (la.mono (by omega))) ?_ | refine cx (whole_c (z := z) h1) ?_ | refine cx (xfrom_c (by omega) (by omega) h1 h1) ?_ | refine cx (xadd_c (isR_one (z := z) h1) (isR_11 h1) hr ⟨by omega, by omega⟩ ⟨by omega, by omega⟩) ?_ | refine cx (xcmp_c hr hb hcc (ln.mono (by omega)) (lb.mono (by omega))) ?_)) <;> (try exact gF))
  exact rqq1 (rC ty26)
theorem cR_ge {a b : Rat} (h : ¬ a < b) : ∃ c, cR a b = c ∧ 0 ≤ c := ⟨_, rfl, by unfold cR; rw [if_neg h]; split <;> omega⟩
theorem sub_ne {a b : Rat} (h : b < a) : a - b ≠ 0 := by grind
theorem btw_whole {pa qa pb qb py qy px qx : Int} {a b : Rat} (ha : IsR pa qa a) (hb : IsR pb qb b) (la : RL pa qa 11000) (lb : RL pb qb 11000) (hge : ¬ (a.floor : Rat) + 1 < b) (hab : a < b) (he : a = (a.floor : Rat))
    (hy : IsR py qy ((((b - (a.floor : Rat))⁻¹).floor : Rat) + 1)) (ly : RL py qy 12000) (hy0 : py ≠ 0) (hx : IsR px qx ((a.floor : Rat) + ((((b - (a.floor : Rat))⁻¹).floor : Rat) + 1)⁻¹)) : HCallsD Tryz.prog 68 [] [.agg [.raw (.bool (decide (pa < 0))), .sl (dig (pa.natAbs : Int)).length false (ints .u32 (dig (pa.natAbs : Int))), .raw (.bool (decide (qa < 0))), .sl (dig (qa.natAbs : Int)).length false (ints .u32 (dig (qa.natAbs : Int)))], .agg [.raw (.bool (decide (pb < 0))), .sl (dig (pb.natAbs : Int)).length false (ints .u32 (dig (pb.natAbs : Int))), .raw (.bool (decide (qb < 0))), .sl (dig (qb.natAbs : Int)).length false (ints .u32 (dig (qb.natAbs : Int)))], .raw (.bool true)] (aR px qx) [] := by
  obtain ⟨one, h1⟩ : ∃ z : Int, 1 = z := ⟨_, rfl⟩
  have b3 := one_len h1
  obtain ⟨z, hz⟩ : ∃ z, fq pa qa = z := ⟨_, rfl⟩
  have q0 := ha.pos
  have lz := fq_len (by omega) hz la.1
  rw [ha.floor hz] at hge he hy hx
  have lzz : RL z one 11000 := ⟨by omega, by omega⟩
  obtain ⟨pn, qn, hnn⟩ : ∃ p q, IsR p q ((z : Rat) + 1) := ⟨_, _, isR_self _⟩
  have ln := RL.add (isR_one (z := z) h1) (isR_11 h1) (L := 11000) (M := 3) lzz ⟨by omega, by omega⟩ hnn
  obtain ⟨c, hcc, c0⟩ := cR_ge hge
  obtain ⟨pu, qu, hu⟩ : ∃ p q, IsR p q (b - (z : Rat)) := ⟨_, _, isR_self _⟩
  have lu := RL.sub hb (isR_one (z := z) h1) lb lzz hu
  have hu0 : pu ≠ 0 := num_ne hu (sub_ne (by rw [← he]; exact hab))
  obtain ⟨pl, ql, hl⟩ : ∃ p q, IsR p q (b - (z : Rat))⁻¹ := ⟨_, _, isR_self _⟩
  have ll := RL.inv hu lu hu0 hl
  have hv : IsR 0 1 (a - (z : Rat)) := by
    have : a - (z : Rat) = 0 := by rw [← he]; exact Rat.sub_self
    rw [this]; exact ⟨rfl, rfl⟩
  obtain ⟨zero, hzz⟩ : ∃ v : Int, 0 = v := ⟨_, rfl⟩
  have hv2 : IsR zero one (a - (z : Rat)) := by rw [← hzz, ← h1]; exact hv
  have lz0 : (dig (zero.natAbs : Int)).length ≤ 3 := dig_len64 (by omega)
  have hs0 : cmpI zero 0 = 0 := by rw [← hzz]; rfl
  obtain ⟨pi, qi, hi⟩ : ∃ p q, IsR p q ((((b - (z : Rat))⁻¹).floor : Rat) + 1)⁻¹ := ⟨_, _, isR_self _⟩
  have li := RL.inv hy ly hy0 hi
  refine cp3 (rs := [.cell 6 26]) (nt := 49) Tryz.func68 (fun C hP hn => ?_)
  ((repeat' (first | refine gW ?_ | (refine gIf ?_ ?_ <;> (intro hc; try exact gX)) | with_reducible refine br_intro ?_ ?_ | (with_reducible intro _; try exact gX) | with_reducible refine ands_intro ?_ ?_ | refine cx (xfloor_c (by omega) hz (la.mono (by omega))) ?_ | refine cx (whole_c (z := z) h1) ?_ | refine cx (xfrom_c (by omega) (by omega) h1 h1) ?_ | refine cx (xadd_c (isR_one (z := z) h1) (isR_11 h1) hnn ⟨by omega, by omega⟩ ⟨by omega, by omega⟩) ?_ | refine cx (xcmp_c hnn hb hcc (ln.mono (by omega)) (lb.mono (by omega))) ?_ | refine cx (xsub_c hb (isR_one (z := z) h1) hu (lb.mono (by omega)) (lzz.mono (by omega))) ?_ | refine cx (inverse_c hu hu0 hl (lu.mono (by omega))) ?_ | refine cx (xsub_c ha (isR_one (z := z) h1) hv2 (la.mono (by omega)) (lzz.mono (by omega))) ?_ | refine cx (xsign_c (p := zero) (q := one) ⟨by omega, by omega⟩ hs0) ?_ | refine cx (btw_f (pb := pb) (qb := qb) hl (ll.mono (by omega)) hy) ?_ | refine cx (inverse_c hy hy0 hi (ly.mono (by omega))) ?_ | refine cx (xadd_c (isR_one (z := z) h1) hi hx (lzz.mono (by omega)) (li.mono (by omega))) ?_)) <;> (try exact gF))
  exact rqq1 (rC ty26)
theorem btw_step {pa qa pb qb py qy px qx pl ql pi qi : Int} {a b y : Rat} (ha : IsR pa qa a) (hb : IsR pb qb b) (la : RL pa qa 11000) (lb : RL pb qb 11000) (hge : ¬ (a.floor : Rat) + 1 < b) (hfa : (a.floor : Rat) < a) (hab : a < b)
    (hl : IsR pl ql (b - (a.floor : Rat))⁻¹) (hi : IsR pi qi (a - (a.floor : Rat))⁻¹) (hrec : HCallsD Tryz.prog 68 [] [.agg [.raw (.bool (decide (pl < 0))), .sl (dig (pl.natAbs : Int)).length false (ints .u32 (dig (pl.natAbs : Int))), .raw (.bool (decide (ql < 0))), .sl (dig (ql.natAbs : Int)).length false (ints .u32 (dig (ql.natAbs : Int)))], .agg [.raw (.bool (decide (pi < 0))), .sl (dig (pi.natAbs : Int)).length false (ints .u32 (dig (pi.natAbs : Int))), .raw (.bool (decide (qi < 0))), .sl (dig (qi.natAbs : Int)).length false (ints .u32 (dig (qi.natAbs : Int)))], .raw (.bool true)] (aR py qy) []) (hy : IsR py qy y) (ly : RL py qy 12000) (hy0 : py ≠ 0) (hx : IsR px qx ((a.floor : Rat) + y⁻¹)) : HCallsD Tryz.prog 68 [] [.agg [.raw (.bool (decide (pa < 0))), .sl (dig (pa.natAbs : Int)).length false (ints .u32 (dig (pa.natAbs : Int))), .raw (.bool (decide (qa < 0))), .sl (dig (qa.natAbs : Int)).length false (ints .u32 (dig (qa.natAbs : Int)))], .agg [.raw (.bool (decide (pb < 0))), .sl (dig (pb.natAbs : Int)).length false (ints .u32 (dig (pb.natAbs : Int))), .raw (.bool (decide (qb < 0))), .sl (dig (qb.natAbs : Int)).length false (ints .u32 (dig (qb.natAbs : Int)))], .raw (.bool true)] (aR px qx) [] := by
  obtain ⟨one, h1⟩ : ∃ z : Int, 1 = z := ⟨_, rfl⟩
  have b3 := one_len h1
  obtain ⟨z, hz⟩ : ∃ z, fq pa qa = z := ⟨_, rfl⟩
  have q0 := ha.pos
  have lz := fq_len (by omega) hz la.1
  rw [ha.floor hz] at hge hfa hl hi hx
  have lzz : RL z one 11000 := ⟨by omega, by omega⟩
  obtain ⟨pn, qn, hnn⟩ : ∃ p q, IsR p q ((z : Rat) + 1) := ⟨_, _, isR_self _⟩
  have ln := RL.add (isR_one (z := z) h1) (isR_11 h1) (L := 11000) (M := 3) lzz ⟨by omega, by omega⟩ hnn
  obtain ⟨c, hcc, c0⟩ := cR_ge hge
  obtain ⟨pu, qu, hu⟩ : ∃ p q, IsR p q (b - (z : Rat)) := ⟨_, _, isR_self _⟩
  have lu := RL.sub hb (isR_one (z := z) h1) lb lzz hu
  have hzb : (z : Rat) < b := by grind
  have hu0 : pu ≠ 0 := num_ne hu (sub_ne hzb)
  have ll := RL.inv hu lu hu0 hl
  obtain ⟨pv, qv, hv⟩ : ∃ p q, IsR p q (a - (z : Rat)) := ⟨_, _, isR_self _⟩
  have lv := RL.sub ha (isR_one (z := z) h1) la lzz hv
  have hv0 : pv ≠ 0 := num_ne hv (sub_ne hfa)
  obtain ⟨s, hs⟩ : ∃ s, cmpI pv 0 = s := ⟨_, rfl⟩
  have hs0 : s ≠ 0 := hs ▸ cmp_ne hv0
  have li := RL.inv hv lv hv0 hi
  obtain ⟨pw, qw, hw⟩ : ∃ p q, IsR p q y⁻¹ := ⟨_, _, isR_self _⟩
  have lw := RL.inv hy ly hy0 hw
  refine cp3 (rs := [.cell 6 26]) (nt := 49) Tryz.func68 (fun C hP hn => ?_)
  ((repeat' (first | refine gW ?_ | (refine gIf ?_ ?_ <;> (intro hc; try exact gX)) | with_reducible refine br_intro ?_ ?_ | (with_reducible intro _; try exact gX) | with_reducible refine ands_intro ?_ ?_ | refine cx (xfloor_c (by omega) hz (la.mono (by omega))) ?_ | refine cx (whole_c (z := z) h1) ?_ | refine cx (xfrom_c (by omega) (by omega) h1 h1) ?_ | refine cx (xadd_c (isR_one (z := z) h1) (isR_11 h1) hnn ⟨by omega, by omega⟩ ⟨by omega, by omega⟩) ?_ | refine cx (xcmp_c hnn hb hcc (ln.mono (by omega)) (lb.mono (by omega))) ?_ | refine cx (xsub_c hb (isR_one (z := z) h1) hu (lb.mono (by omega)) (lzz.mono (by omega))) ?_ | refine cx (inverse_c hu hu0 hl (lu.mono (by omega))) ?_ | refine cx (xsub_c ha (isR_one (z := z) h1) hv (la.mono (by omega)) (lzz.mono (by omega))) ?_ | refine cx (xsign_c (p := pv) (q := qv) (lv.mono (by omega)) hs) ?_ | refine cx (inverse_c hv hv0 hi (lv.mono (by omega))) ?_ | refine cx (hrec) ?_ | refine cx (inverse_c hy hy0 hw (ly.mono (by omega))) ?_ | refine cx (xadd_c (isR_one (z := z) h1) hw hx (lzz.mono (by omega)) (lw.mono (by omega))) ?_)) <;> (try exact gF))
  exact rqq1 (rC ty26)
end Go.Proofs.YtfmebdmgnmogaaaGreatDoor
