/- The law of the simplest rational number. No statement of its own. -/
import Derived.Test.YtfmebdmgnmogaaaGreatDoorQQ25
set_option linter.unusedVariables false
set_option linter.unusedSimpArgs false
set_option linter.unusedSimpArgs false
set_option linter.unusedVariables false
set_option maxRecDepth 100000
set_option maxHeartbeats 8000000
namespace Go.Proofs.YtfmebdmgnmogaaaGreatDoor
open Go Go.RowKit Hv

theorem zOf_aI (z : Int) : zOf (decide (z < 0)) (dig (z.natAbs : Int)) = z := by
  unfold zOf; rw [dig_V (ab_nn z)]; exact sgnd_dec (fun h => ab_neg h) (fun h => ab_pos h)
theorem dig_u32 (v : Int) : U32 (dig v) := fun x hx => by have := dig_lim v x hx; omega
theorem validR_of {p q : Int} {a : Rat} (h : IsR p q a) : validR (decide (p < 0)) (dig (p.natAbs : Int)) (decide (q < 0)) (dig (q.natAbs : Int)) = true := by
  unfold validR
  rw [valid_aI, valid_aI, zOf_aI, zOf_aI, decide_eq_true h.pos, decide_eq_true (isR_gcd h)]; rfl
theorem cR_int {d q w one v : Int} (h1 : 1 = one) : ∃ c, cR (d : Rat) (q : Rat) = c ∧ (c < 0 ↔ d < q) := by
  refine ⟨_, rfl, ?_⟩
  simp only [cR, Rat.intCast_lt_intCast]
  split
  · exact ⟨fun _ => by assumption, fun _ => by decide⟩
  · split <;> exact ⟨fun h => absurd h (by decide), fun h => by contradiction⟩
theorem len_sub' {x y : Int} {n : Nat} (hx : (dig (x.natAbs : Int)).length ≤ n) (hy : (dig (y.natAbs : Int)).length ≤ n) : (dig ((x - y).natAbs : Int)).length ≤ n + 1 := by
  rw [Int.sub_eq_add_neg]; exact len_add hx (by rw [Int.natAbs_neg]; exact hy)
theorem lawXSimp_c {ba ca bb cb : Bool} {xa ya xb yb : List Int} (hua : U32 xa) (hva : U32 ya) (hub : U32 xb) (hvb : U32 yb) : HCallsD Tryz.prog 5 [] [.agg [.raw (.bool ba), .sl xa.length false (ints .u32 xa), .raw (.bool ca), .sl ya.length false (ints .u32 ya)], .agg [.raw (.bool bb), .sl xb.length false (ints .u32 xb), .raw (.bool cb), .sl yb.length false (ints .u32 yb)]] (.raw (.bool true)) [] := by
  obtain ⟨r, hr⟩ : ∃ r, smallR ba xa ca ya = r := ⟨_, rfl⟩
  obtain ⟨s, hs⟩ : ∃ r, smallR bb xb cb yb = r := ⟨_, rfl⟩
  have sm := small2R hua hva hub hvb hr hs
  cases hrs : (r && s)
  · rw [hrs] at sm
    refine cp2 (rs := [.tmp 4]) (nt := 110) Tryz.func5 (fun C hP hn => ?_)
    ((repeat' (first | refine gW ?_ | (refine gIf ?_ ?_ <;> (intro hc; try exact gX)) | with_reducible refine br_intro ?_ ?_ | (with_reducible intro _; try exact gX) | with_reducible refine ands_intro ?_ ?_ | refine cx (xawake_c) ?_ | refine cx (sm) ?_)) <;> (try exact gF))
    exact rqq1 rT
  rw [hrs] at sm
  rw [Bool.and_eq_true] at hrs
  rw [hrs.1] at hr
  rw [hrs.2] at hs
  obtain ⟨pa, qa, a, ha, rfl, rfl, rfl, rfl, la⟩ := smallR_spec hr
  obtain ⟨pb, qb, b, hb, rfl, rfl, rfl, rfl, lb⟩ := smallR_spec hs
  have la3 := la.mono (M := 30000) (by omega)
  have lb3 := lb.mono (M := 30000) (by omega)
  by_cases hab : a < b
  case neg =>
    obtain ⟨c, hc, c0⟩ := cR_ge hab
    refine cp2 (rs := [.tmp 4]) (nt := 110) Tryz.func5 (fun C hP hn => ?_)
    ((repeat' (first | refine gW ?_ | (refine gIf ?_ ?_ <;> (intro hc; try exact gX)) | with_reducible refine br_intro ?_ ?_ | (with_reducible intro _; try exact gX) | with_reducible refine ands_intro ?_ ?_ | refine cx (xawake_c) ?_ | refine cx (sm) ?_ | refine cx (simp_ge ha hb hab (la.mono (by omega)) (lb.mono (by omega))) ?_ | refine cx (rxcmp_c ha hb hc la3 lb3) ?_ | refine cx (zero_e) ?_)) <;> (try exact gF))
    exact rqq1 rT
  obtain ⟨x, px, qx, hx, hm, lx, s1, s2⟩ := simp_ex ha hb hab la lb
  have lx3 := lx.mono (M := 30000) (by omega)
  have qx0 := hx.pos
  have hvx : validR (decide (px < 0)) (dig (px.natAbs : Int)) (decide (qx < 0)) (dig (qx.natAbs : Int)) = true := validR_of hx
  have hbt : decide (a < x ∧ x < b) = true := decide_eq_true ⟨hm.1, hm.2.1⟩
  obtain ⟨one, h1⟩ : ∃ z : Int, 1 = z := ⟨_, rfl⟩
  have b3 := one_len h1
  obtain ⟨sg, hsg⟩ : ∃ s, cmpI px 0 = s := ⟨_, rfl⟩
  have sr := cmp_rng px 0
  rw [hsg] at sr
  obtain ⟨sw, hsw⟩ : ∃ w, sg = w := ⟨_, rfl⟩
  have lsw : (dig (sw.natAbs : Int)).length ≤ 3 := dig_len64 (by omega)
  obtain ⟨pn, hpn⟩ : ∃ z, px - sw = z := ⟨_, rfl⟩
  have lpn : (dig (pn.natAbs : Int)).length ≤ 8 := hpn ▸ len_sub' (n := 7) lx.1 (by omega)
  obtain ⟨pm, qm, hmm⟩ : ∃ p q, IsR p q (Rat.divInt pn qx) := ⟨_, _, isR_self _⟩
  have lpx := lx.1
  have lm := RL.div (L := 8) ⟨lpn, by have := lx.2; omega⟩ (by omega) hmm
  refine cp2 (rs := [.tmp 4]) (nt := 110) Tryz.func5 (fun C hP hn => ?_)
  ((repeat' (first | refine gW ?_ | (refine gIf ?_ ?_ <;> (intro hc; try exact gX)) | with_reducible refine br_intro ?_ ?_ | (with_reducible intro _; try exact gX) | with_reducible refine ands_intro ?_ ?_ | refine cx (xawake_c) ?_ | refine cx (sm) ?_ | refine cx (s1) ?_ | refine cx (s2) ?_ | refine cx (rxcmp_c ha hb (cR_lt hab) la3 lb3) ?_ | refine cx (rxvalid_c (dig_u32 _) (dig_u32 _) (by have := lx.1; omega) (by have := lx.2; omega) hvx) ?_ | refine cx (between_c ha hx hb la3 lx3 lb3 hbt) ?_ | refine cx (rxsame_t (lx.mono (by omega))) ?_)) <;> (try exact gF))
  refine hwp_loop_cut (fun s' => s' = ⟨lk [(2, .ptr 0 0), (3, .ptr 1 0), (5, .ptr 2 0)], hlk [(0, { al := true, live := true, wb := true, elem := 26, cells := (aR pa qa).cellsOf }), (1, { al := true, live := true, wb := true, elem := 26, cells := (aR pb qb).cellsOf }), (2, { al := true, live := true, wb := true, elem := 26, cells := (aR px qx).cellsOf })], 3, 110⟩) (fun s h => exit_in (normal_then h)) ?_ ?_
  · refine hwp_loopS (fun d : Int => ⟨lk [(2, .ptr 0 0), (3, .ptr 1 0), (5, .ptr 2 0), (9, .raw (.int .i64 d))], hlk [(0, { al := true, live := true, wb := true, elem := 26, cells := (aR pa qa).cellsOf }), (1, { al := true, live := true, wb := true, elem := 26, cells := (aR pb qb).cellsOf }), (2, { al := true, live := true, wb := true, elem := 26, cells := (aR px qx).cellsOf })], 3, 110⟩)
      (fun d => 1 ≤ d ∧ d ≤ 300) (fun d => (300 - d).toNat) ⟨1, by omega, by exact cvS hn (.ptr 0 2 rfl (.ptr 1 3 rfl (.ptr 2 5 rfl .nil)))⟩ ?_
    rintro d ⟨d1, d2⟩
    obtain ⟨w, hw⟩ : ∃ w, d = w := ⟨_, rfl⟩
    have lw : (dig (w.natAbs : Int)).length ≤ 3 := dig_len64 (by omega)
    obtain ⟨c, hc, hcd⟩ := cR_int (d := w) (q := qx) (w := 0) (v := 0) h1
    have lqx := lx.2
    by_cases hd : d < 300 ∧ d < qx
    · obtain ⟨pp, pq, hp⟩ : ∃ p q, IsR p q (a * (w : Rat)) := ⟨_, _, isR_self _⟩
      have lp := RL.mul ha (isR_one (z := w) h1) (L := 6) (M := 3) la ⟨by omega, by omega⟩ hp
      obtain ⟨z, hz⟩ : ∃ z, fq pp pq = z := ⟨_, rfl⟩
      have lz := fq_len (by have := hp.pos; omega) hz lp.1
      obtain ⟨n, hnn⟩ : ∃ n, z + one = n := ⟨_, rfl⟩
      have ln : (dig (n.natAbs : Int)).length ≤ 10 := hnn ▸ len_add (n := 9) lz (by omega)
      obtain ⟨pu, pv, hu⟩ : ∃ p q, IsR p q (Rat.divInt n w) := ⟨_, _, isR_self _⟩
      have lu := RL.div (L := 10) ⟨ln, by omega⟩ (by omega) hu
      have hno := md_less (d := w) hm (by omega) (by rw [← hx.2]; omega)
      rw [hp.floor hz, show z + 1 = n by omega] at hno
      obtain ⟨c2, hc2, c20⟩ := cR_ge hno
      ((repeat' (first | refine gW ?_ | (refine gIf ?_ ?_ <;> (intro hc; try exact gX)) | with_reducible refine br_intro ?_ ?_ | (with_reducible intro _; try exact gX) | with_reducible refine ands_intro ?_ ?_ | refine cx (rxfrom_c (by omega) (by omega) hw h1) ?_ | refine cx (rfromint_c (z := qx) h1) ?_ | refine cx (rxcmp_c (isR_one (z := w) h1) (isR_one (z := qx) h1) hc ⟨by omega, by omega⟩ ⟨by omega, by omega⟩) ?_ | refine cx (rxmul_c ha (isR_one (z := w) h1) hp la3 ⟨by omega, by omega⟩) ?_ | refine cx (rxfloor_c (p := pp) (q := pq) (by have := hp.pos; omega) hz (lp.mono (by omega))) ?_ | refine cx (rfrom64_w h1 (by omega) (by omega)) ?_ | refine cx (radd_e (za := z) (zb := one) (by rfl) (by rfl) (by rfl) (by omega) (by rfl) (by rfl) (by rfl) (by omega) hnn) ?_ | refine cx (rfrom64_w hw (by omega) (by omega)) ?_ | refine cx (of_c (p := n) (q := w) (by omega) hu ⟨by omega, by omega⟩) ?_ | refine cx (rxcmp_c hu hb hc2 (lu.mono (by omega)) lb3) ?_)) <;> (try exact gF))
      exact ⟨d + 1, by omega, by omega, by exact cvS hn (.ptr 0 2 rfl (.ptr 1 3 rfl (.ptr 2 5 rfl .nil)))⟩
    · ((repeat' (first | refine gW ?_ | (refine gIf ?_ ?_ <;> (intro hc; try exact gX)) | with_reducible refine br_intro ?_ ?_ | (with_reducible intro _; try exact gX) | with_reducible refine ands_intro ?_ ?_ | refine cx (rxfrom_c (by omega) (by omega) hw h1) ?_ | refine cx (rfromint_c (z := qx) h1) ?_ | refine cx (rxcmp_c (isR_one (z := w) h1) (isR_one (z := qx) h1) hc ⟨by omega, by omega⟩ ⟨by omega, by omega⟩) ?_)) <;> (try exact gF))
      all_goals exact ⟨rfl, _, by exact cvS hn (.ptr 0 2 rfl (.ptr 1 3 rfl (.ptr 2 5 rfl .nil))), rfl⟩
  rintro _ rfl
  by_cases h0 : px = 0
  · have hs0 : sg = 0 := by rw [← hsg, h0]; rfl
    ((repeat' (first | refine gW ?_ | (refine gIf ?_ ?_ <;> (intro hc; try exact gX)) | with_reducible refine br_intro ?_ ?_ | (with_reducible intro _; try exact gX) | with_reducible refine ands_intro ?_ ?_ | refine cx (rxsign_c (p := px) (q := qx) (lx.mono (by omega)) hsg) ?_ | refine cx (rfrom64_w hsw (by omega) (by omega)) ?_ | refine cx (rsub_e (za := px) (zb := sw) (by rfl) (by rfl) (by rfl) (by omega) (by rfl) (by rfl) (by rfl) (by omega) hpn) ?_ | refine cx (of_c (p := pn) (q := qx) (by omega) hmm ⟨by omega, by have := lx.2; omega⟩) ?_)) <;> (try exact gF))
    all_goals exact rqq1 rT
  · have hs0 : sg ≠ 0 := hsg ▸ cmp_ne h0
    have hnear := md_near hm hx h0 hsg
    rw [hsw, hpn] at hnear
    ((repeat' (first | refine gW ?_ | (refine gIf ?_ ?_ <;> (intro hc; try exact gX)) | with_reducible refine br_intro ?_ ?_ | (with_reducible intro _; try exact gX) | with_reducible refine ands_intro ?_ ?_ | refine cx (rxsign_c (p := px) (q := qx) (lx.mono (by omega)) hsg) ?_ | refine cx (rfrom64_w hsw (by omega) (by omega)) ?_ | refine cx (rsub_e (za := px) (zb := sw) (by rfl) (by rfl) (by rfl) (by omega) (by rfl) (by rfl) (by rfl) (by omega) hpn) ?_ | refine cx (of_c (p := pn) (q := qx) (by omega) hmm ⟨by omega, by have := lx.2; omega⟩) ?_ | refine cx (between_c ha hmm hb la3 (lm.mono (by omega)) lb3 hnear) ?_)) <;> (try exact gF))
    all_goals exact rqq1 rT
end Go.Proofs.YtfmebdmgnmogaaaGreatDoor
