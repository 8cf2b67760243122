/- The simplest rational number between two others: the program's function and the reference's. No statement of its own. -/
import Derived.Test.YtfmebdmgnmogaaaGreatDoorQQ23
set_option linter.unusedVariables false
set_option linter.unusedSimpArgs false
set_option linter.unusedSimpArgs false
set_option linter.unusedVariables false
set_option maxRecDepth 100000
set_option maxHeartbeats 8000000
namespace Go.Proofs.YtfmebdmgnmogaaaGreatDoor
open Go Go.RowKit Hv

theorem one_over (b : Rat) : (1 : Rat) / b = b⁻¹ := by rw [Rat.div_def, Rat.one_mul]
theorem over1_c {pb qb pc qc one : Int} {b : Rat} (h1 : 1 = one) (hb : IsR pb qb b) (hb0 : pb ≠ 0) (hr : IsR pc qc b⁻¹) (lb : RL pb qb 30000) : HCallsD Tryz.prog 101 [] [.agg [.raw (.bool (decide (one < 0))), .sl (dig (one.natAbs : Int)).length false (ints .u32 (dig (one.natAbs : Int))), .raw (.bool (decide (one < 0))), .sl (dig (one.natAbs : Int)).length false (ints .u32 (dig (one.natAbs : Int)))], .agg [.raw (.bool (decide (pb < 0))), .sl (dig (pb.natAbs : Int)).length false (ints .u32 (dig (pb.natAbs : Int))), .raw (.bool (decide (qb < 0))), .sl (dig (qb.natAbs : Int)).length false (ints .u32 (dig (qb.natAbs : Int)))]] (aR pc qc) [] :=
  rover_c (isR_11 h1) hb hb0 (by rw [one_over]; exact hr) ⟨by have := one_len h1; omega, by have := one_len h1; omega⟩ lb
theorem rs_next {pa qa pb qb pn qn : Int} {a b : Rat} (ha : IsR pa qa a) (hb : IsR pb qb b) (la : RL pa qa 11000) (lb : RL pb qb 11000) (hr : IsR pn qn ((a.floor : Rat) + 1)) (hlt : (a.floor : Rat) + 1 < b) : HCallsD Tryz.prog 69 [] [.agg [.raw (.bool (decide (pa < 0))), .sl (dig (pa.natAbs : Int)).length false (ints .u32 (dig (pa.natAbs : Int))), .raw (.bool (decide (qa < 0))), .sl (dig (qa.natAbs : Int)).length false (ints .u32 (dig (qa.natAbs : Int)))], .agg [.raw (.bool (decide (pb < 0))), .sl (dig (pb.natAbs : Int)).length false (ints .u32 (dig (pb.natAbs : Int))), .raw (.bool (decide (qb < 0))), .sl (dig (qb.natAbs : Int)).length false (ints .u32 (dig (qb.natAbs : Int)))]] (aR pn qn) [] := by
  obtain ⟨one, h1⟩ : ∃ z : Int, 1 = z := ⟨_, rfl⟩
  have b3 := one_len h1
  obtain ⟨z, hz⟩ : ∃ z, fq pa qa = z := ⟨_, rfl⟩
  have q0 := ha.pos
  have lz := fq_len (by omega) hz la.1
  rw [ha.floor hz] at hr hlt
  have ln := RL.add (isR_one (z := z) h1) (isR_11 h1) (L := 11000) (M := 3) ⟨by omega, by omega⟩ ⟨by omega, by omega⟩ hr
  have hcc : cR ((z : Rat) + 1) b = -1 := by unfold cR; rw [if_pos hlt]
  refine cp2 (rs := [.cell 4 26]) (nt := 49) Tryz.func69 (fun C hP hn => ?_)
  ((repeat' (first | refine gW ?_ | (refine gIf ?_ ?_ <;> (intro hc; try exact gX)) | with_reducible refine br_intro ?_ ?_ | (with_reducible intro _; try exact gX) | with_reducible refine ands_intro ?_ ?_ | refine cx (rxfloor_c (by omega) hz (la.mono (by omega))) ?_ | refine cx (rfromint_c (z := z) h1) ?_ | refine cx (rxfrom_c (by omega) (by omega) h1 h1) ?_ | refine cx (rxadd_c (isR_one (z := z) h1) (isR_11 h1) hr ⟨by omega, by omega⟩ ⟨by omega, by omega⟩) ?_ | refine cx (rxcmp_c hr hb hcc (ln.mono (by omega)) (lb.mono (by omega))) ?_)) <;> (try exact gF))
  exact rqq1 (rC ty26)
theorem rs_whole {pa qa pb qb py qy px qx : Int} {a b : Rat} (ha : IsR pa qa a) (hb : IsR pb qb b) (la : RL pa qa 11000) (lb : RL pb qb 11000) (hge : ¬ (a.floor : Rat) + 1 < b) (hab : a < b) (he : a = (a.floor : Rat))
    (hy : IsR py qy ((((b - (a.floor : Rat))⁻¹).floor : Rat) + 1)) (ly : RL py qy 12000) (hy0 : py ≠ 0) (hx : IsR px qx ((a.floor : Rat) + ((((b - (a.floor : Rat))⁻¹).floor : Rat) + 1)⁻¹)) : HCallsD Tryz.prog 69 [] [.agg [.raw (.bool (decide (pa < 0))), .sl (dig (pa.natAbs : Int)).length false (ints .u32 (dig (pa.natAbs : Int))), .raw (.bool (decide (qa < 0))), .sl (dig (qa.natAbs : Int)).length false (ints .u32 (dig (qa.natAbs : Int)))], .agg [.raw (.bool (decide (pb < 0))), .sl (dig (pb.natAbs : Int)).length false (ints .u32 (dig (pb.natAbs : Int))), .raw (.bool (decide (qb < 0))), .sl (dig (qb.natAbs : Int)).length false (ints .u32 (dig (qb.natAbs : Int)))]] (aR px qx) [] := by
  obtain ⟨one, h1⟩ : ∃ z : Int, 1 = z := ⟨_, rfl⟩
  have b3 := one_len h1
  obtain ⟨z, hz⟩ : ∃ z, fq pa qa = z := ⟨_, rfl⟩
  have q0 := ha.pos
  have lz := fq_len (by omega) hz la.1
  rw [ha.floor hz] at hge he hy hx
  have lzz : RL z one 11000 := ⟨by omega, by omega⟩
  obtain ⟨pn, qn, hnn⟩ : ∃ p q, IsR p q ((z : Rat) + 1) := ⟨_, _, isR_self _⟩
  have ln := RL.add (isR_one (z := z) h1) (isR_11 h1) (L := 11000) (M := 3) lzz ⟨by omega, by omega⟩ hnn
  obtain ⟨c, hcc, c0⟩ := cR_ge hge
  obtain ⟨pu, qu, hu⟩ : ∃ p q, IsR p q (b - (z : Rat)) := ⟨_, _, isR_self _⟩
  have lu := RL.sub hb (isR_one (z := z) h1) lb lzz hu
  have hu0 : pu ≠ 0 := num_ne hu (sub_ne (by rw [← he]; exact hab))
  obtain ⟨pl, ql, hl⟩ : ∃ p q, IsR p q (b - (z : Rat))⁻¹ := ⟨_, _, isR_self _⟩
  have ll := RL.inv hu lu hu0 hl
  obtain ⟨k, hk⟩ : ∃ k, fq pl ql = k := ⟨_, rfl⟩
  have lk0 := fq_len (by have := hl.pos; omega) hk ll.1
  have hy' := hy
  rw [hl.floor hk] at hy'
  have hs := (isR_one (z := z) h1).inj ⟨ha.1.trans (by rw [← he]), ha.2.trans (by rw [← he])⟩
  obtain ⟨pi, qi, hi⟩ : ∃ p q, IsR p q ((((b - (z : Rat))⁻¹).floor : Rat) + 1)⁻¹ := ⟨_, _, isR_self _⟩
  have li := RL.inv hy ly hy0 hi
  obtain ⟨rfl, rfl⟩ := hs
  refine cp2 (rs := [.cell 4 26]) (nt := 49) Tryz.func69 (fun C hP hn => ?_)
  ((repeat' (first | refine gW ?_ | (refine gIf ?_ ?_ <;> (intro hc; try exact gX)) | with_reducible refine br_intro ?_ ?_ | (with_reducible intro _; try exact gX) | with_reducible refine ands_intro ?_ ?_ | refine cx (rxfloor_c (by omega) hz (la.mono (by omega))) ?_ | refine cx (rfromint_c (z := z) h1) ?_ | refine cx (rxfrom_c (by omega) (by omega) h1 h1) ?_ | refine cx (rxadd_c (isR_one (z := z) h1) (isR_11 h1) hnn ⟨by omega, by omega⟩ ⟨by omega, by omega⟩) ?_ | refine cx (rxcmp_c hnn hb hcc (ln.mono (by omega)) (lb.mono (by omega))) ?_ | refine cx (rxsub_c hb (isR_one (z := z) h1) hu (lb.mono (by omega)) (lzz.mono (by omega))) ?_ | refine cx (over1_c h1 hu hu0 hl (lu.mono (by omega))) ?_ | refine cx (rxsame_t (pa := z) (qa := one) ⟨by omega, by omega⟩) ?_ | refine cx (rxfloor_c (p := pl) (q := ql) (by have := hl.pos; omega) hk (ll.mono (by omega))) ?_ | refine cx (rfromint_c (z := k) h1) ?_ | refine cx (rxadd_c (isR_one (z := k) h1) (isR_11 h1) hy' ⟨by omega, by omega⟩ ⟨by omega, by omega⟩) ?_ | refine cx (over1_c h1 hy hy0 hi (ly.mono (by omega))) ?_ | refine cx (rxadd_c (isR_one (z := z) h1) hi hx (lzz.mono (by omega)) (li.mono (by omega))) ?_)) <;> (try exact gF))
  exact rqq1 (rC ty26)
theorem rs_step {pa qa pb qb py qy px qx pl ql pi qi : Int} {a b y : Rat} (ha : IsR pa qa a) (hb : IsR pb qb b) (la : RL pa qa 11000) (lb : RL pb qb 11000) (hge : ¬ (a.floor : Rat) + 1 < b) (hfa : (a.floor : Rat) < a) (hab : a < b)
    (hl : IsR pl ql (b - (a.floor : Rat))⁻¹) (hi : IsR pi qi (a - (a.floor : Rat))⁻¹) (hrec : HCallsD Tryz.prog 69 [] [.agg [.raw (.bool (decide (pl < 0))), .sl (dig (pl.natAbs : Int)).length false (ints .u32 (dig (pl.natAbs : Int))), .raw (.bool (decide (ql < 0))), .sl (dig (ql.natAbs : Int)).length false (ints .u32 (dig (ql.natAbs : Int)))], .agg [.raw (.bool (decide (pi < 0))), .sl (dig (pi.natAbs : Int)).length false (ints .u32 (dig (pi.natAbs : Int))), .raw (.bool (decide (qi < 0))), .sl (dig (qi.natAbs : Int)).length false (ints .u32 (dig (qi.natAbs : Int)))]] (aR py qy) []) (hy : IsR py qy y) (ly : RL py qy 12000) (hy0 : py ≠ 0) (hx : IsR px qx ((a.floor : Rat) + y⁻¹)) : HCallsD Tryz.prog 69 [] [.agg [.raw (.bool (decide (pa < 0))), .sl (dig (pa.natAbs : Int)).length false (ints .u32 (dig (pa.natAbs : Int))), .raw (.bool (decide (qa < 0))), .sl (dig (qa.natAbs : Int)).length false (ints .u32 (dig (qa.natAbs : Int)))], .agg [.raw (.bool (decide (pb < 0))), .sl (dig (pb.natAbs : Int)).length false (ints .u32 (dig (pb.natAbs : Int))), .raw (.bool (decide (qb < 0))), .sl (dig (qb.natAbs : Int)).length false (ints .u32 (dig (qb.natAbs : Int)))]] (aR px qx) [] := by
  obtain ⟨one, h1⟩ : ∃ z : Int, 1 = z := ⟨_, rfl⟩
  have b3 := one_len h1
  obtain ⟨z, hz⟩ : ∃ z, fq pa qa = z := ⟨_, rfl⟩
  have q0 := ha.pos
  have lz := fq_len (by omega) hz la.1
  rw [ha.floor hz] at hge hfa hl hi hx
  have lzz : RL z one 11000 := ⟨by omega, by omega⟩
  obtain ⟨pn, qn, hnn⟩ : ∃ p q, IsR p q ((z : Rat) + 1) := ⟨_, _, isR_self _⟩
  have ln := RL.add (isR_one (z := z) h1) (isR_11 h1) (L := 11000) (M := 3) lzz ⟨by omega, by omega⟩ hnn
  obtain ⟨c, hcc, c0⟩ := cR_ge hge
  obtain ⟨pu, qu, hu⟩ : ∃ p q, IsR p q (b - (z : Rat)) := ⟨_, _, isR_self _⟩
  have lu := RL.sub hb (isR_one (z := z) h1) lb lzz hu
  have hzb : (z : Rat) < b := by grind
  have hu0 : pu ≠ 0 := num_ne hu (sub_ne hzb)
  have ll := RL.inv hu lu hu0 hl
  obtain ⟨pv, qv, hv⟩ : ∃ p q, IsR p q (a - (z : Rat)) := ⟨_, _, isR_self _⟩
  have lv := RL.sub ha (isR_one (z := z) h1) la lzz hv
  have hv0 : pv ≠ 0 := num_ne hv (sub_ne hfa)
  have li := RL.inv hv lv hv0 hi
  have hsm : decide (pa = z ∧ qa = one) = false := decide_eq_false (fun k => by
    have e1 := ha.eq
    have e2 := (isR_one (z := z) h1).eq
    rw [k.1, k.2, e2] at e1
    rw [e1] at hfa
    exact Rat.lt_irrefl hfa)
  obtain ⟨pw, qw, hw⟩ : ∃ p q, IsR p q y⁻¹ := ⟨_, _, isR_self _⟩
  have lw := RL.inv hy ly hy0 hw
  refine cp2 (rs := [.cell 4 26]) (nt := 49) Tryz.func69 (fun C hP hn => ?_)
  ((repeat' (first | refine gW ?_ | (refine gIf ?_ ?_ <;> (intro hc; try exact gX)) | with_reducible refine br_intro ?_ ?_ | (with_reducible intro _; try exact gX) | with_reducible refine ands_intro ?_ ?_ | refine cx (rxfloor_c (by omega) hz (la.mono (by omega))) ?_ | refine cx (rfromint_c (z := z) h1) ?_ | refine cx (rxfrom_c (by omega) (by omega) h1 h1) ?_ | refine cx (rxadd_c (isR_one (z := z) h1) (isR_11 h1) hnn ⟨by omega, by omega⟩ ⟨by omega, by omega⟩) ?_ | refine cx (rxcmp_c hnn hb hcc (ln.mono (by omega)) (lb.mono (by omega))) ?_ | refine cx (rxsub_c hb (isR_one (z := z) h1) hu (lb.mono (by omega)) (lzz.mono (by omega))) ?_ | refine cx (over1_c h1 hu hu0 hl (lu.mono (by omega))) ?_ | refine cx (rxsame_c (pa := pa) (qa := qa) (pb := z) (qb := one) (la.mono (by omega)) (lzz.mono (by omega)) hsm) ?_ | refine cx (rxsub_c ha (isR_one (z := z) h1) hv (la.mono (by omega)) (lzz.mono (by omega))) ?_ | refine cx (over1_c h1 hv hv0 hi (lv.mono (by omega))) ?_ | refine cx (hrec) ?_ | refine cx (over1_c h1 hy hy0 hw (ly.mono (by omega))) ?_ | refine cx (rxadd_c (isR_one (z := z) h1) hw hx (lzz.mono (by omega)) (lw.mono (by omega))) ?_)) <;> (try exact gF))
  exact rqq1 (rC ty26)
/-- Both functions find the simplest number. -/
theorem sim_ex : ∀ (N : Nat) (pa qa pb qb : Int) (a b : Rat), IsR pa qa a → IsR pb qb b → 0 ≤ a → a < b → RL pa qa 10000 → RL pb qb 10000 → qa + qb ≤ N →
    ∃ (x : Rat) (px qx : Int), IsR px qx x ∧ Mn a b x ∧ HCallsD Tryz.prog 68 [] [.agg [.raw (.bool (decide (pa < 0))), .sl (dig (pa.natAbs : Int)).length false (ints .u32 (dig (pa.natAbs : Int))), .raw (.bool (decide (qa < 0))), .sl (dig (qa.natAbs : Int)).length false (ints .u32 (dig (qa.natAbs : Int)))], .agg [.raw (.bool (decide (pb < 0))), .sl (dig (pb.natAbs : Int)).length false (ints .u32 (dig (pb.natAbs : Int))), .raw (.bool (decide (qb < 0))), .sl (dig (qb.natAbs : Int)).length false (ints .u32 (dig (qb.natAbs : Int)))], .raw (.bool true)] (aR px qx) [] ∧ HCallsD Tryz.prog 69 [] [.agg [.raw (.bool (decide (pa < 0))), .sl (dig (pa.natAbs : Int)).length false (ints .u32 (dig (pa.natAbs : Int))), .raw (.bool (decide (qa < 0))), .sl (dig (qa.natAbs : Int)).length false (ints .u32 (dig (qa.natAbs : Int)))], .agg [.raw (.bool (decide (pb < 0))), .sl (dig (pb.natAbs : Int)).length false (ints .u32 (dig (pb.natAbs : Int))), .raw (.bool (decide (qb < 0))), .sl (dig (qb.natAbs : Int)).length false (ints .u32 (dig (qb.natAbs : Int)))]] (aR px qx) [] := by
  intro N
  induction N with
  | zero => intro pa qa pb qb a b ha hb _ _ _ _ h; have := ha.pos; have := hb.pos; omega
  | succ N ih =>
    intro pa qa pb qb a b ha hb h0 hab la lb hN
    have la' := la.mono (M := 11000) (by omega)
    have lb' := lb.mono (M := 11000) (by omega)
    by_cases hn : (a.floor : Rat) + 1 < b
    · exact ⟨_, _, _, isR_self _, mn_next h0 hn, btw_next ha hb la' lb' (isR_self _) hn, rs_next ha hb la' lb' (isR_self _) hn⟩
    · have hfl := Rat.floor_le a
      have f0 := fl_nn h0
      have hbf : 0 < b - (a.floor : Rat) := by grind
      have iu : IsR (pb - a.floor * qb) qb (b - (a.floor : Rat)) := by
        have := hb.addInt (-a.floor)
        rw [Rat.intCast_neg, Int.neg_mul] at this
        rw [show b - (a.floor : Rat) = -(a.floor : Rat) + b by grind, show pb - a.floor * qb = -(a.floor * qb) + pb by omega]
        exact this
      have iv : IsR (pa - a.floor * qa) qa (a - (a.floor : Rat)) := by
        have := ha.addInt (-a.floor)
        rw [Rat.intCast_neg, Int.neg_mul] at this
        rw [show a - (a.floor : Rat) = -(a.floor : Rat) + a by grind, show pa - a.floor * qa = -(a.floor * qa) + pa by omega]
        exact this
      have u0 := iu.num_pos hbf
      have il := iu.inv' u0
      have ul : pb - a.floor * qb ≤ qb := by
        have h1 : ¬ ((a.floor : Rat) + 1 < b) := hn
        have e1 : IsR (a.floor + 1) 1 ((a.floor : Rat) + 1) := by
          have := isR_int (a.floor + 1)
          rwa [Rat.intCast_add] at this
        rw [e1.lt hb, Int.add_mul, Int.one_mul, Int.mul_one] at h1
        omega
      have ql := hb.pos
      have ll : RL qb (pb - a.floor * qb) 10000 := ⟨lb.2, len_le (by omega) ul lb.2⟩
      by_cases he : a = (a.floor : Rat)
      · have hm := mn_whole h0 he hab
        obtain ⟨py, qy, hy⟩ : ∃ p q, IsR p q ((((b - (a.floor : Rat))⁻¹).floor : Rat) + 1) := ⟨_, _, isR_self _⟩
        have k0 := fl_nn (a := (b - (a.floor : Rat))⁻¹) (by have := Rat.inv_pos.2 hbf; grind)
        have lk : (dig ((((b - (a.floor : Rat))⁻¹).floor).natAbs : Int)).length ≤ 10000 := by
          have := fq_len (p := qb) (q := pb - a.floor * qb) (by omega) rfl lb.2
          rwa [← il.floor rfl] at this
        obtain ⟨one, h1⟩ : ∃ z : Int, 1 = z := ⟨_, rfl⟩
        have b3 := one_len h1
        have ly := RL.add (isR_one (z := ((b - (a.floor : Rat))⁻¹).floor) h1) (isR_11 h1) (L := 10000) (M := 3) ⟨by omega, by omega⟩ ⟨by omega, by omega⟩ hy
        have hy0 : py ≠ 0 := num_ne hy (by
          have : (0 : Rat) ≤ (((b - (a.floor : Rat))⁻¹).floor : Rat) := by rw [show (0 : Rat) = ((0 : Int) : Rat) from rfl, Rat.intCast_le_intCast]; exact k0
          grind)
        exact ⟨_, _, _, isR_self _, hm, btw_whole ha hb la' lb' hn hab he hy (ly.mono (by omega)) hy0 (isR_self _), rs_whole ha hb la' lb' hn hab he hy (ly.mono (by omega)) hy0 (isR_self _)⟩
      · have hfa : (a.floor : Rat) < a := by grind
        have haf : 0 < a - (a.floor : Rat) := by grind
        have v0 := iv.num_pos haf
        have ii := iv.inv' v0
        have qa0 := ha.pos
        have vl : pa - a.floor * qa < qa := by
          have h1 := fl_lt a
          have e1 : IsR (a.floor + 1) 1 ((a.floor : Rat) + 1) := by
            have := isR_int (a.floor + 1)
            rwa [Rat.intCast_add] at this
          rw [ha.lt e1, Int.add_mul, Int.one_mul, Int.mul_one] at h1
          omega
        have li : RL qa (pa - a.floor * qa) 10000 := ⟨la.2, len_le (by omega) (Int.le_of_lt vl) la.2⟩
        have l0 := Rat.inv_pos.2 hbf
        have hlt : (b - (a.floor : Rat))⁻¹ < (a - (a.floor : Rat))⁻¹ := inv_lt haf (by grind)
        obtain ⟨y, py, qy, hy, hm, r1, r2⟩ := ih _ _ _ _ _ _ il ii (by grind) hlt ll li (by omega)
        have y0 : 0 < y := by have := hm.1; grind
        have hb1 := mn_bnd il ii (by grind) hlt hm
        have hyp := hy.num_pos y0
        have hyq := hy.pos
        have ly : RL py qy 12000 := by
          have e1 := hy.1
          have e2 := hy.2
          have k1 := len_add (x := qb) (y := qa) (n := 10000) lb.2 la.2
          have k2 := len_add (x := pb - a.floor * qb) (y := pa - a.floor * qa) (n := 10000) ll.2 li.2
          exact ⟨Nat.le_trans (len_le (by omega) (by omega) k1) (by omega), Nat.le_trans (len_le (by omega) (by omega) k2) (by omega)⟩
        exact ⟨_, _, _, isR_self _, mn_step h0 hfa hab hm, btw_step ha hb la' lb' hn hfa hab il ii r1 hy ly (by omega) (isR_self _), rs_step ha hb la' lb' hn hfa hab il ii r2 hy ly (by omega) (isR_self _)⟩
end Go.Proofs.YtfmebdmgnmogaaaGreatDoor
