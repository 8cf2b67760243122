/- Simplest: the contract, case by case. No statement of its own. -/
import Derived.Test.YtfmebdmgnmogaaaGreatDoorQQ11
set_option linter.unusedVariables false
set_option linter.unusedSimpArgs false
set_option linter.unusedSimpArgs false
set_option linter.unusedVariables false
set_option maxRecDepth 100000
set_option maxHeartbeats 8000000
namespace Go.Proofs.YtfmebdmgnmogaaaGreatDoor
open Go Go.RowKit Hv

theorem sgn_lt {p q : Int} {a : Rat} (ha : IsR p q a) : (a < 0) = (p < 0) := by
  rw [Rat.lt_iff, ← ha.1, ← ha.2]
  show (p * 1 < 0 * q) = _
  rw [Int.mul_one, Int.zero_mul]
theorem sgn_gt {p q : Int} {a : Rat} (ha : IsR p q a) : (0 < a) = (0 < p) := by
  rw [Rat.lt_iff, ← ha.1, ← ha.2]
  show (0 * q < p * 1) = _
  rw [Int.mul_one, Int.zero_mul]
theorem cR_lt {a b : Rat} (h : a < b) : cR a b = -1 := by unfold cR; rw [if_pos h]
theorem simp_ge {pa qa pb qb : Int} {a b : Rat} (ha : IsR pa qa a) (hb : IsR pb qb b) (h : ¬ a < b) (la : RL pa qa 10000) (lb : RL pb qb 10000) : HCallsD Tryz.prog 27 [] [.agg [.raw (.bool (decide (pa < 0))), .sl (dig (pa.natAbs : Int)).length false (ints .u32 (dig (pa.natAbs : Int))), .raw (.bool (decide (qa < 0))), .sl (dig (qa.natAbs : Int)).length false (ints .u32 (dig (qa.natAbs : Int)))], .agg [.raw (.bool (decide (pb < 0))), .sl (dig (pb.natAbs : Int)).length false (ints .u32 (dig (pb.natAbs : Int))), .raw (.bool (decide (qb < 0))), .sl (dig (qb.natAbs : Int)).length false (ints .u32 (dig (qb.natAbs : Int)))]] (.tup [aR 0 0, .raw (.int .i64 1)]) [] := by
  obtain ⟨c, hcc, c0⟩ := cR_ge h
  refine cp2 (rs := [.cell 4 26, .tmp 5]) (nt := 35) Tryz.func27 (fun C hP hn => ?_)
  ((repeat' (first | refine gW ?_ | (refine gIf ?_ ?_ <;> (intro hc; try exact gX)) | with_reducible refine br_intro ?_ ?_ | (with_reducible intro _; try exact gX) | with_reducible refine ands_intro ?_ ?_ | refine cx (xcmp_c ha hb hcc (la.mono (by omega)) (lb.mono (by omega))) ?_)) <;> (try exact gF))
  exact rqq2 (rC ty26) rT
theorem simp_0 {pa qa pb qb zero one : Int} {a b : Rat} (ha : IsR pa qa a) (hb : IsR pb qb b) (h1 : a < 0) (h2 : 0 < b) (h0 : 0 = zero) (ho : 1 = one) (la : RL pa qa 10000) (lb : RL pb qb 10000) : HCallsD Tryz.prog 27 [] [.agg [.raw (.bool (decide (pa < 0))), .sl (dig (pa.natAbs : Int)).length false (ints .u32 (dig (pa.natAbs : Int))), .raw (.bool (decide (qa < 0))), .sl (dig (qa.natAbs : Int)).length false (ints .u32 (dig (qa.natAbs : Int)))], .agg [.raw (.bool (decide (pb < 0))), .sl (dig (pb.natAbs : Int)).length false (ints .u32 (dig (pb.natAbs : Int))), .raw (.bool (decide (qb < 0))), .sl (dig (qb.natAbs : Int)).length false (ints .u32 (dig (qb.natAbs : Int)))]] (.tup [aR zero one, .raw (.int .i64 0)]) [] := by
  have hab : a < b := by grind
  have k1 : pa < 0 := (sgn_lt ha) ▸ h1
  have k2 : 0 < pb := (sgn_gt hb) ▸ h2
  refine cp2 (rs := [.cell 4 26, .tmp 5]) (nt := 35) Tryz.func27 (fun C hP hn => ?_)
  ((repeat' (first | refine gW ?_ | (refine gIf ?_ ?_ <;> (intro hc; try exact gX)) | with_reducible refine br_intro ?_ ?_ | (with_reducible intro _; try exact gX) | with_reducible refine ands_intro ?_ ?_ | refine cx (xcmp_c ha hb (cR_lt hab) (la.mono (by omega)) (lb.mono (by omega))) ?_ | refine cx (xsign_c (p := pa) (q := qa) (la.mono (by omega)) (cmp_n k1)) ?_ | refine cx (xsign_c (p := pb) (q := qb) (lb.mono (by omega)) (cmp_p k2)) ?_ | refine cx (xfrom_c (by omega) (by omega) h0 ho) ?_)) <;> (try exact gF))
  exact rqq2 (rC ty26) rT
theorem cmp_nn {p : Int} (h : ¬ p < 0) : ∃ c, cmpI p 0 = c ∧ 0 ≤ c := ⟨_, rfl, by unfold cmpI; split <;> (try split) <;> omega⟩
theorem simp_p {pa qa pb qb px qx : Int} {a b : Rat} (ha : IsR pa qa a) (hb : IsR pb qb b) (h1 : ¬ a < 0) (hab : a < b) (la : RL pa qa 10000) (lb : RL pb qb 10000) (hx : HCallsD Tryz.prog 68 [] [.agg [.raw (.bool (decide (pa < 0))), .sl (dig (pa.natAbs : Int)).length false (ints .u32 (dig (pa.natAbs : Int))), .raw (.bool (decide (qa < 0))), .sl (dig (qa.natAbs : Int)).length false (ints .u32 (dig (qa.natAbs : Int)))], .agg [.raw (.bool (decide (pb < 0))), .sl (dig (pb.natAbs : Int)).length false (ints .u32 (dig (pb.natAbs : Int))), .raw (.bool (decide (qb < 0))), .sl (dig (qb.natAbs : Int)).length false (ints .u32 (dig (qb.natAbs : Int)))], .raw (.bool true)] (aR px qx) []) : HCallsD Tryz.prog 27 [] [.agg [.raw (.bool (decide (pa < 0))), .sl (dig (pa.natAbs : Int)).length false (ints .u32 (dig (pa.natAbs : Int))), .raw (.bool (decide (qa < 0))), .sl (dig (qa.natAbs : Int)).length false (ints .u32 (dig (qa.natAbs : Int)))], .agg [.raw (.bool (decide (pb < 0))), .sl (dig (pb.natAbs : Int)).length false (ints .u32 (dig (pb.natAbs : Int))), .raw (.bool (decide (qb < 0))), .sl (dig (qb.natAbs : Int)).length false (ints .u32 (dig (qb.natAbs : Int)))]] (.tup [aR px qx, .raw (.int .i64 0)]) [] := by
  have k1 : ¬ pa < 0 := (sgn_lt ha) ▸ h1
  obtain ⟨c, hcc, c0⟩ := cmp_nn k1
  refine cp2 (rs := [.cell 4 26, .tmp 5]) (nt := 35) Tryz.func27 (fun C hP hn => ?_)
  ((repeat' (first | refine gW ?_ | (refine gIf ?_ ?_ <;> (intro hc; try exact gX)) | with_reducible refine br_intro ?_ ?_ | (with_reducible intro _; try exact gX) | with_reducible refine ands_intro ?_ ?_ | refine cx (xcmp_c ha hb (cR_lt hab) (la.mono (by omega)) (lb.mono (by omega))) ?_ | refine cx (xsign_c (p := pa) (q := qa) (la.mono (by omega)) hcc) ?_ | refine cx (hx) ?_)) <;> (try exact gF))
  exact rqq2 (rC ty26) rT
theorem simp_n {pa qa pb qb px qx na nb nx : Int} {a b : Rat} (ha : IsR pa qa a) (hb : IsR pb qb b) (h1 : a < 0) (h2 : ¬ 0 < b) (hab : a < b) (la : RL pa qa 10000) (lb : RL pb qb 10000) (ea : -pa = na) (eb : -pb = nb) (hx : HCallsD Tryz.prog 68 [] [.agg [.raw (.bool (decide (nb < 0))), .sl (dig (nb.natAbs : Int)).length false (ints .u32 (dig (nb.natAbs : Int))), .raw (.bool (decide (qb < 0))), .sl (dig (qb.natAbs : Int)).length false (ints .u32 (dig (qb.natAbs : Int)))], .agg [.raw (.bool (decide (na < 0))), .sl (dig (na.natAbs : Int)).length false (ints .u32 (dig (na.natAbs : Int))), .raw (.bool (decide (qa < 0))), .sl (dig (qa.natAbs : Int)).length false (ints .u32 (dig (qa.natAbs : Int)))], .raw (.bool true)] (aR px qx) []) (lx : RL px qx 30000) (ex : -px = nx) : HCallsD Tryz.prog 27 [] [.agg [.raw (.bool (decide (pa < 0))), .sl (dig (pa.natAbs : Int)).length false (ints .u32 (dig (pa.natAbs : Int))), .raw (.bool (decide (qa < 0))), .sl (dig (qa.natAbs : Int)).length false (ints .u32 (dig (qa.natAbs : Int)))], .agg [.raw (.bool (decide (pb < 0))), .sl (dig (pb.natAbs : Int)).length false (ints .u32 (dig (pb.natAbs : Int))), .raw (.bool (decide (qb < 0))), .sl (dig (qb.natAbs : Int)).length false (ints .u32 (dig (qb.natAbs : Int)))]] (.tup [aR nx qx, .raw (.int .i64 0)]) [] := by
  have k1 : pa < 0 := (sgn_lt ha) ▸ h1
  have k2 : ¬ 0 < pb := (sgn_gt hb) ▸ h2
  obtain ⟨c, hcc⟩ : ∃ c, cmpI pb 0 = c := ⟨_, rfl⟩
  have c0 := cmp_np k2 hcc
  refine cp2 (rs := [.cell 4 26, .tmp 5]) (nt := 35) Tryz.func27 (fun C hP hn => ?_)
  ((repeat' (first | refine gW ?_ | (refine gIf ?_ ?_ <;> (intro hc; try exact gX)) | with_reducible refine br_intro ?_ ?_ | (with_reducible intro _; try exact gX) | with_reducible refine ands_intro ?_ ?_ | refine cx (xcmp_c ha hb (cR_lt hab) (la.mono (by omega)) (lb.mono (by omega))) ?_ | refine cx (xsign_c (p := pa) (q := qa) (la.mono (by omega)) (cmp_n k1)) ?_ | refine cx (xsign_c (p := pb) (q := qb) (lb.mono (by omega)) hcc) ?_ | refine cx (xneg_c (p := pb) (q := qb) (lb.mono (by omega)) eb) ?_ | refine cx (xneg_c (p := pa) (q := qa) (la.mono (by omega)) ea) ?_ | refine cx (hx) ?_ | refine cx (xneg_c (p := px) (q := qx) (lx.mono (by omega)) ex) ?_)) <;> (try exact gF))
  exact rqq2 (rC ty26) rT
theorem xsqrt_n {p q s : Int} (hz : 0 ≤ p) (hs : 0 ≤ s) (s1 : s * s < p) (s2 : p < (s + 1) * (s + 1)) (l : RL p q 50000) : HCallsD Tryz.prog 21 [] [.agg [.raw (.bool (decide (p < 0))), .sl (dig (p.natAbs : Int)).length false (ints .u32 (dig (p.natAbs : Int))), .raw (.bool (decide (q < 0))), .sl (dig (q.natAbs : Int)).length false (ints .u32 (dig (q.natAbs : Int)))]] (.tup [aR 0 0, .raw (.bool false)]) [] := by
  obtain ⟨l1, l2⟩ := l
  refine cp1 (rs := [.cell 2 26, .tmp 3]) (nt := 26) Tryz.func21 (fun C hP hn => ?_)
  ((repeat' (first | refine gW ?_ | (refine gIf ?_ ?_ <;> (intro hc; try exact gX)) | with_reducible refine br_intro ?_ ?_ | (with_reducible intro _; try exact gX) | with_reducible refine ands_intro ?_ ?_ | refine cx (side_n hz hs s1 s2 l1) ?_)) <;> (try exact gF))
  exact rqq2 (rC ty26) rT
end Go.Proofs.YtfmebdmgnmogaaaGreatDoor
set_option linter.unusedSimpArgs false
set_option linter.unusedVariables false
set_option maxRecDepth 100000
set_option maxHeartbeats 8000000
namespace Go.Proofs.YtfmebdmgnmogaaaGreatDoor
open Go Go.RowKit Hv

theorem pz_of {l : List UInt8} {v : Int} (h : okP l) (hv : sgnd (pre 45 l) (vd (cutP 45 l)) = v) : pz l = v ∧ pe l = 0 := ⟨(pz_yes h).1.trans hv, (pz_yes h).2⟩
theorem text1 {l : List UInt8} {p one : Int} (h : (47 : UInt8) ∉ l) (hl : l.length ≤ 1000) (h1 : 1 = one) (hok : okP l) (hp : sgnd (pre 45 l) (vd (cutP 45 l)) = p) : HCallsD Tryz.prog 56 [] [.raw (.string (bs l))] (aR p one) [] :=
  text_c (xparse_1 h hl h1 (pz_of hok hp).1 (pz_of hok hp).2)
theorem text2 {l f g : List UInt8} {p q : Int} (e : l = f ++ 47 :: g) (h : (47 : UInt8) ∉ f) (hl : l.length ≤ 1000) (okf : okP f) (okg : okP g) (hp : sgnd (pre 45 f) (vd (cutP 45 f)) = p) (hq : sgnd (pre 45 g) (vd (cutP 45 g)) = q) (hq1 : 1 < q) (hg1 : gI p q = 1) : HCallsD Tryz.prog 56 [] [.raw (.string (bs l))] (aR p q) [] :=
  text_c (xparse_7 e h hl (pz_of okf hp).2 (pz_of okg hq).2 (pz_of okf hp).1 (pz_of okg hq).1 hq1 hg1)
theorem dig_one {z : Int} (h0 : 0 < z) (h1 : z < 1000000000) : dig z = [z] := by
  rw [dig_pos h0, dig_zero (by omega), Int.emod_eq_of_lt (by omega) h1]
theorem tI_p {z : Int} (h0 : 0 < z) (h1 : z < 10) : tI z = [UInt8.ofNat (48 + z.toNat)] := by
  unfold tI
  rw [show ((z.natAbs : Nat) : Int) = z by omega, dig_one h0 (by omega), decide_eq_false (by omega)]
  show sgnD false ++ Lib.decDigits (([z].getD 0 0).toNat) ++ [] = _
  rw [List.getD_cons_zero, dec_small (by omega), List.append_nil]
  rfl
theorem tI_n {z : Int} (h0 : z < 0) (h1 : -10 < z) : tI z = [45, UInt8.ofNat (48 + z.natAbs)] := by
  unfold tI
  rw [dig_one (by omega) (by omega), decide_eq_true h0]
  show sgnD true ++ Lib.decDigits (([((z.natAbs : Nat) : Int)].getD 0 0).toNat) ++ [] = _
  rw [List.getD_cons_zero, dec_small (by omega), List.append_nil, Int.toNat_natCast]
  rfl
theorem tI_0 : tI 0 = [48] := rfl
theorem small_RL {p q : Int} (h1 : p.natAbs < 1000) (h2 : q.natAbs < 1000) : RL p q 3 := ⟨dig_len64 (by omega), dig_len64 (by omega)⟩
/-- Simplest of the three examples. -/
theorem ex_1 {n1 n2 n3 n5 n10 : Int} (e1 : 1 = n1) (e2 : 2 = n2) (e3 : 3 = n3) (e5 : 5 = n5) (e10 : 10 = n10) : HCallsD Tryz.prog 27 [] [.agg [.raw (.bool (decide (n3 < 0))), .sl (dig (n3.natAbs : Int)).length false (ints .u32 (dig (n3.natAbs : Int))), .raw (.bool (decide (n10 < 0))), .sl (dig (n10.natAbs : Int)).length false (ints .u32 (dig (n10.natAbs : Int)))], .agg [.raw (.bool (decide (n2 < 0))), .sl (dig (n2.natAbs : Int)).length false (ints .u32 (dig (n2.natAbs : Int))), .raw (.bool (decide (n5 < 0))), .sl (dig (n5.natAbs : Int)).length false (ints .u32 (dig (n5.natAbs : Int)))]] (.tup [aR n1 n3, .raw (.int .i64 0)]) [] := by
  have la := small_RL (p := n3) (q := n10) (by omega) (by omega)
  have lb := small_RL (p := n2) (q := n5) (by omega) (by omega)
  have ll := small_RL (p := n5) (q := n2) (by omega) (by omega)
  have li := small_RL (p := n10) (q := n3) (by omega) (by omega)
  have ly := small_RL (p := n3) (q := n1) (by omega) (by omega)
  have ha : IsR n3 n10 (3/10 : Rat) := by subst e3 e10; exact ⟨by kernel_rfl, by kernel_rfl⟩
  have hb : IsR n2 n5 (2/5 : Rat) := by subst e2 e5; exact ⟨by kernel_rfl, by kernel_rfl⟩
  have hl : IsR n5 n2 (5/2 : Rat) := by subst e2 e5; exact ⟨by kernel_rfl, by kernel_rfl⟩
  have hi : IsR n10 n3 (10/3 : Rat) := by subst e3 e10; exact ⟨by kernel_rfl, by kernel_rfl⟩
  have hy : IsR n3 n1 (((5/2 : Rat).floor : Rat) + 1) := by subst e1 e3; exact ⟨by kernel_rfl, by kernel_rfl⟩
  have inner := btw_next hl hi (ll.mono (by omega)) (li.mono (by omega)) hy (by decide +kernel)
  refine simp_p ha hb (by decide +kernel) (by decide +kernel) (la.mono (by omega)) (lb.mono (by omega)) ?_
  refine btw_step ha hb (la.mono (by omega)) (lb.mono (by omega)) (by decide +kernel) (by decide +kernel) (by decide +kernel) (hl := ?_) (hi := ?_) inner hy (ly.mono (by omega)) (by omega) ?_
  · subst e2 e5; exact ⟨by kernel_rfl, by kernel_rfl⟩
  · subst e3 e10; exact ⟨by kernel_rfl, by kernel_rfl⟩
  · subst e1 e3; exact ⟨by kernel_rfl, by kernel_rfl⟩
theorem ex_2 {n1 n0 n2 m5 n7 : Int} (e1 : 1 = n1) (e0 : 0 = n0) (e2 : 2 = n2) (e5 : -5 = m5) (e7 : 7 = n7) : HCallsD Tryz.prog 27 [] [.agg [.raw (.bool (decide (m5 < 0))), .sl (dig (m5.natAbs : Int)).length false (ints .u32 (dig (m5.natAbs : Int))), .raw (.bool (decide (n2 < 0))), .sl (dig (n2.natAbs : Int)).length false (ints .u32 (dig (n2.natAbs : Int)))], .agg [.raw (.bool (decide (n7 < 0))), .sl (dig (n7.natAbs : Int)).length false (ints .u32 (dig (n7.natAbs : Int))), .raw (.bool (decide (n2 < 0))), .sl (dig (n2.natAbs : Int)).length false (ints .u32 (dig (n2.natAbs : Int)))]] (.tup [aR n0 n1, .raw (.int .i64 0)]) [] := by
  have la := small_RL (p := m5) (q := n2) (by omega) (by omega)
  have lb := small_RL (p := n7) (q := n2) (by omega) (by omega)
  have ha : IsR m5 n2 (-5/2 : Rat) := by subst e2 e5; exact ⟨by kernel_rfl, by kernel_rfl⟩
  have hb : IsR n7 n2 (7/2 : Rat) := by subst e2 e7; exact ⟨by kernel_rfl, by kernel_rfl⟩
  exact simp_0 ha hb (by decide +kernel) (by decide +kernel) e0 e1 (la.mono (by omega)) (lb.mono (by omega))
theorem ex_3 {n1 n2 n3 n5 : Int} (e1 : 1 = n1) (e2 : 2 = n2) (e3 : 3 = n3) (e5 : 5 = n5) : HCallsD Tryz.prog 27 [] [.agg [.raw (.bool (decide (n2 < 0))), .sl (dig (n2.natAbs : Int)).length false (ints .u32 (dig (n2.natAbs : Int))), .raw (.bool (decide (n1 < 0))), .sl (dig (n1.natAbs : Int)).length false (ints .u32 (dig (n1.natAbs : Int)))], .agg [.raw (.bool (decide (n3 < 0))), .sl (dig (n3.natAbs : Int)).length false (ints .u32 (dig (n3.natAbs : Int))), .raw (.bool (decide (n1 < 0))), .sl (dig (n1.natAbs : Int)).length false (ints .u32 (dig (n1.natAbs : Int)))]] (.tup [aR n5 n2, .raw (.int .i64 0)]) [] := by
  have la := small_RL (p := n2) (q := n1) (by omega) (by omega)
  have lb := small_RL (p := n3) (q := n1) (by omega) (by omega)
  have ha : IsR n2 n1 (2 : Rat) := by subst e2 e1; exact ⟨by kernel_rfl, by kernel_rfl⟩
  have hb : IsR n3 n1 (3 : Rat) := by subst e3 e1; exact ⟨by kernel_rfl, by kernel_rfl⟩
  refine simp_p ha hb (by decide +kernel) (by decide +kernel) (la.mono (by omega)) (lb.mono (by omega)) ?_
  refine btw_whole (py := n2) (qy := n1) ha hb (la.mono (by omega)) (lb.mono (by omega)) (by decide +kernel) (by decide +kernel) (by decide +kernel) ?_ (la.mono (by omega)) (by omega) ?_
  · subst e2 e1; exact ⟨by kernel_rfl, by kernel_rfl⟩
  · subst e5 e2; exact ⟨by kernel_rfl, by kernel_rfl⟩
end Go.Proofs.YtfmebdmgnmogaaaGreatDoor
