/- The contract of the square root. No statement of its own. -/
import Derived.Test.YtfmebdmgnmogaaaGreatDoorQI20
set_option linter.unusedVariables false
set_option linter.unusedSimpArgs false
set_option linter.unusedSimpArgs false
set_option linter.unusedVariables false
set_option maxRecDepth 100000
set_option maxHeartbeats 4000000
namespace Go.Proofs.YtfmebdmgnmogaaaGreatDoor
open Go Go.RowKit Hv

theorem from64_w {z w : Int} (h : z = w) (h0 : -9223372036854775808 ≤ z) (h1 : z ≤ 9223372036854775807) : HCallsD Tryz.prog 91 [] [.raw (.int .i64 z)] (aI w) [] := h ▸ from64_c h0 h1
theorem divmod_e {ba : Bool} {na : Nat} {xa : List Int} {za : Int} {bb : Bool} {nb : Nat} {xb : List Int} {zb : Int} {q r : Int} (hba : ba = decide (za < 0)) (hna : na = xa.length) (hxa : xa = dig (za.natAbs : Int)) (hla : xa.length ≤ 100000) (hbb : bb = decide (zb < 0)) (hnb : nb = xb.length) (hxb : xb = dig (zb.natAbs : Int)) (hlb : xb.length ≤ 100000) (hz : zb ≠ 0) (hq : fq za zb = q) (hr : fr za zb = r) : HCallsD Tryz.prog 59 [] [.agg [.raw (.bool ba), .sl na false (ints .u32 xa)], .agg [.raw (.bool bb), .sl nb false (ints .u32 xb)]] (.tup [aI q, aI r, .raw (.int .i64 0)]) [] := by
  subst hq hr; exact divmod_c hba hna hxa hla hbb hnb hxb hlb hz
theorem iadd_e {ba : Bool} {na : Nat} {xa : List Int} {za : Int} {bb : Bool} {nb : Nat} {xb : List Int} {zb : Int} {r : Int} (hba : ba = decide (za < 0)) (hna : na = xa.length) (hxa : xa = dig (za.natAbs : Int)) (hla : xa.length ≤ 100000) (hbb : bb = decide (zb < 0)) (hnb : nb = xb.length) (hxb : xb = dig (zb.natAbs : Int)) (hlb : xb.length ≤ 100000) (hr : za + zb = r) : HCallsD Tryz.prog 90 [] [.agg [.raw (.bool ba), .sl na false (ints .u32 xa)], .agg [.raw (.bool bb), .sl nb false (ints .u32 xb)]] (aI r) [] := by subst hr; exact iadd_c hba hna hxa hla hbb hnb hxb hlb
theorem isub_e {ba : Bool} {na : Nat} {xa : List Int} {za : Int} {bb : Bool} {nb : Nat} {xb : List Int} {zb : Int} {r : Int} (hba : ba = decide (za < 0)) (hna : na = xa.length) (hxa : xa = dig (za.natAbs : Int)) (hla : xa.length ≤ 100000) (hbb : bb = decide (zb < 0)) (hnb : nb = xb.length) (hxb : xb = dig (zb.natAbs : Int)) (hlb : xb.length ≤ 100000) (hr : za - zb = r) : HCallsD Tryz.prog 96 [] [.agg [.raw (.bool ba), .sl na false (ints .u32 xa)], .agg [.raw (.bool bb), .sl nb false (ints .u32 xb)]] (aI r) [] := by subst hr; exact isub_c hba hna hxa hla hbb hnb hxb hlb
theorem imul_e {ba : Bool} {na : Nat} {xa : List Int} {za : Int} {bb : Bool} {nb : Nat} {xb : List Int} {zb : Int} {r : Int} (hba : ba = decide (za < 0)) (hna : na = xa.length) (hxa : xa = dig (za.natAbs : Int)) (hla : xa.length ≤ 100000) (hbb : bb = decide (zb < 0)) (hnb : nb = xb.length) (hxb : xb = dig (zb.natAbs : Int)) (hlb : xb.length ≤ 100000) (hr : za * zb = r) : HCallsD Tryz.prog 87 [] [.agg [.raw (.bool ba), .sl na false (ints .u32 xa)], .agg [.raw (.bool bb), .sl nb false (ints .u32 xb)]] (aI r) [] := by subst hr; exact imul_c hba hna hxa hla hbb hnb hxb hlb

theorem isqrt_neg {ba : Bool} {na : Nat} {xa : List Int} {za : Int} (hba : ba = decide (za < 0)) (hna : na = xa.length) (hxa : xa = dig (za.natAbs : Int)) (hla : xa.length ≤ 100000) (hz : za < 0) : HCallsD Tryz.prog 98 [] [.agg [.raw (.bool ba), .sl na false (ints .u32 xa)]] (.tup [aI 0, .raw (.int .i64 7)]) [] := by
  subst hna
  have e : ba = true := hba.trans (decide_eq_true hz)
  subst e
  refine cp1 (rs := [.cell 2 24, .tmp 3]) (nt := 54) Tryz.func98 (fun C hP hn => ?_)
  ((repeat' (first | refine gW ?_ | (refine gIf ?_ ?_ <;> (intro hc; try exact gX)) | with_reducible refine br_intro ?_ ?_ | (with_reducible intro _; try exact gX) | with_reducible refine ands_intro ?_ ?_)) <;> (try exact gF))
  exact rqq2 (rC ty24) rT
theorem isqrt_c {ba : Bool} {na : Nat} {xa : List Int} {za : Int} {s : Int} (hba : ba = decide (za < 0)) (hna : na = xa.length) (hxa : xa = dig (za.natAbs : Int)) (hla : xa.length ≤ 100000) (hl5 : xa.length ≤ 50000) (hz : 0 ≤ za) (hs : 0 ≤ s) (s1 : s * s ≤ za) (s2 : za < (s + 1) * (s + 1)) : HCallsD Tryz.prog 98 [] [.agg [.raw (.bool ba), .sl na false (ints .u32 xa)]] (.tup [aI s, .raw (.int .i64 0)]) [] := by
  subst hna
  have e : ba = false := hba.trans (decide_eq_false (by omega))
  subst e
  rcases Int.lt_or_le 0 za with hp | hp
  · have lx : Lim xa := hxa ▸ dig_lim _
    have vx : V xa = za := by rw [hxa, dig_V (ab_nn _)]; exact ab_pos hz
    have hl0 : 0 < xa.length := by rw [hxa]; exact dig_len_pos (by omega)
    obtain ⟨Kn, hKn⟩ : ∃ Kn, (((xa.length : Int) + 1) / 2).toNat = Kn := ⟨_, rfl⟩
    obtain ⟨two, h2⟩ : ∃ two : Int, 2 = two := ⟨_, rfl⟩
    have l2 : (dig (two.natAbs : Int)).length ≤ 3 := dig_len64 (by omega)
    have lK : Lim (List.replicate Kn 0 ++ [1]) := (Lim.zeros Kn).snoc (by omega) (by omega)
    have vK : V (List.replicate Kn 0 ++ [1]) = P9 Kn := by rw [V_snoc, V_zeros, List.length_replicate]; omega
    have eT : List.take (Kn + 1) (List.replicate Kn (0 : Int) ++ [1]) = List.replicate Kn 0 ++ [1] := List.take_of_length_le (by simp)
    have pK := P9_pos Kn
    have zlt := V_lt lx
    rw [vx] at zlt
    have pm := P9_mono (show Kn ≤ xa.length by omega)
    have bnd : ∀ v : Int, 0 ≤ v → v ≤ P9 Kn + za → (dig (v.natAbs : Int)).length ≤ 60000 := fun v h0 h1 => by
      have : (v.natAbs : Int) < P9 (xa.length + 1) := by simp only [P9]; omega
      have := dig_len this
      omega
    have kb := bnd (P9 Kn) (by omega) (by omega)
    have kk : za < (P9 Kn + 1) * (P9 Kn + 1) := by
      have a1 : P9 xa.length ≤ P9 (Kn + Kn) := P9_mono (by omega)
      rw [P9_add] at a1
      rw [Int.add_mul, Int.mul_add]; omega
    refine cp1 (rs := [.cell 2 24, .tmp 3]) (nt := 54) Tryz.func98 (fun C hP hn => ?_)
    (have hXx := And.intro @hKn (@eT); (repeat' (first | refine gWx ?_ | (refine gIf ?_ ?_ <;> (intro hc; try exact gX)) | with_reducible refine br_intro ?_ ?_ | (with_reducible intro _; try exact gX) | with_reducible refine ands_intro ?_ ?_ | refine cx (signed_f (xs := List.replicate Kn 0 ++ [1]) (z := P9 Kn) (by simp) (by simp; omega) lK vK rfl) ?_ | refine cx (from64_w h2 (by omega) (by omega)) ?_)) <;> ((try clear hXx); try exact gF))
    refine hwp_loopS (fun x : Int => ⟨lk [(1, .ptr 0 0), (2, .ptr 1 0), (5, .ptr 2 0), (6, .ptr 3 0)],
        hlk [(0, { al := true, live := true, wb := true, elem := 24, sz := 1, cells := [.raw (.bool false), .sl xa.length false (ints .u32 xa)] }), (1, { al := true, live := true, wb := true, elem := 24, sz := 1, cells := [.raw (.bool false), .sl 0 true []] }),
          (2, { al := true, live := true, wb := true, elem := 24, sz := 1, cells := [.raw (.bool (decide (x < 0))), .sl (dig x.natAbs).length false (ints .u32 (dig x.natAbs))] }),
          (3, { al := true, live := true, wb := true, elem := 24, sz := 1, cells := [.raw (.bool (decide (two < 0))), .sl (dig two.natAbs).length false (ints .u32 (dig two.natAbs))] })], 4, 54⟩)
      (fun x => 0 < x ∧ x ≤ P9 Kn ∧ za < (x + 1) * (x + 1)) (fun x => x.toNat) ⟨P9 Kn, ⟨pK, Int.le_refl _, kk⟩, by exact cvS hn (.ptr 0 1 rfl (.ptr 1 2 rfl (.ptr 2 5 rfl (.ptr 3 6 rfl .nil))))⟩ ?_
    rintro x ⟨g1, g2, g3⟩
    have nw := newton g1 hz
    obtain ⟨q1, q2⟩ := div_le za g1
    have q0 := div_nonneg' hz (Int.le_of_lt g1)
    have q3 : za / x ≤ za := Int.ediv_le_self _ hz
    obtain ⟨f1, f2⟩ := fq_pp hz g1
    obtain ⟨q, hq⟩ : ∃ q, za / x = q := ⟨_, rfl⟩
    have ne := newton_end g1 hz
    rw [hq] at nw q0 q3 f1 ne
    obtain ⟨r, hr⟩ : ∃ r, fr za x = r := ⟨_, rfl⟩
    obtain ⟨t, ht⟩ : ∃ t, x + q = t := ⟨_, rfl⟩
    rw [ht] at nw ne
    have t0 : 0 ≤ t := by omega
    obtain ⟨f3, f4⟩ := fq_pp t0 (show 0 < two by omega)
    obtain ⟨y, hy⟩ : ∃ y, t / 2 = y := ⟨_, rfl⟩
    rw [← h2, hy] at f3
    rw [hy] at nw ne
    obtain ⟨r', hr'⟩ : ∃ r', fr t two = r' := ⟨_, rfl⟩
    have y0 : 0 ≤ y := by omega
    have bx := bnd x (by omega) (by omega)
    have bq := bnd q (by omega) (by omega)
    have bt := bnd t (by omega) (by omega)
    have byy := bnd y (by omega) (by omega)
    rcases Int.lt_or_le y x with hc | hc
    · have y1 : 0 < y := by
        rcases Int.lt_or_le 0 y with k | k
        · exact k
        · have : y = 0 := by omega
          rw [this] at nw; omega
      ((repeat' (first | refine gW ?_ | (refine gIf ?_ ?_ <;> (intro hc; try exact gX)) | with_reducible refine br_intro ?_ ?_ | (with_reducible intro _; try exact gX) | with_reducible refine ands_intro ?_ ?_ | refine cx (divmod_e (za := za) (zb := x) hba (by rfl) hxa hla (by rfl) (by rfl) (by rfl) (by omega) (by omega) f1 hr) ?_ | refine cx (iadd_e (za := x) (zb := q) (by rfl) (by rfl) (by rfl) (by omega) (by rfl) (by rfl) (by rfl) (by omega) ht) ?_ | refine cx (divmod_e (za := t) (zb := two) (by rfl) (by rfl) (by rfl) (by omega) (by rfl) (by rfl) (by rfl) (by omega) (by omega) (h2 ▸ f3) hr') ?_ | refine cx (icmp_e (za := y) (zb := x) (by rfl) (by rfl) (by rfl) (by omega) (by rfl) (by rfl) (by rfl) (by omega) (cmpI_lt hc)) ?_)) <;> (try exact gF))
      exact ⟨y, by omega, ⟨y1, by omega, nw⟩, by exact cvS hn (.ptr 0 1 rfl (.ptr 1 2 rfl (.ptr 2 5 rfl (.ptr 3 6 rfl .nil))))⟩
    · obtain ⟨c, hcc, c0, c1⟩ := cmpI_ge0 hc
      have es := root_unique hs (by omega) s1 s2 (ne hc) g3
      subst es
      ((repeat' (first | refine gW ?_ | (refine gIf ?_ ?_ <;> (intro hc; try exact gX)) | with_reducible refine br_intro ?_ ?_ | (with_reducible intro _; try exact gX) | with_reducible refine ands_intro ?_ ?_ | refine cx (divmod_e (za := za) (zb := s) hba (by rfl) hxa hla (by rfl) (by rfl) (by rfl) (by omega) (by omega) f1 hr) ?_ | refine cx (iadd_e (za := s) (zb := q) (by rfl) (by rfl) (by rfl) (by omega) (by rfl) (by rfl) (by rfl) (by omega) ht) ?_ | refine cx (divmod_e (za := t) (zb := two) (by rfl) (by rfl) (by rfl) (by omega) (by rfl) (by rfl) (by rfl) (by omega) (by omega) (h2 ▸ f3) hr') ?_ | refine cx (icmp_e (za := y) (zb := s) (by rfl) (by rfl) (by rfl) (by omega) (by rfl) (by rfl) (by rfl) (by omega) hcc) ?_)) <;> (try exact gF))
      exact rqq2 (rC ty24) rT
  · have hz0 : za = 0 := by omega
    have hl0 : xa.length = 0 := by rw [hxa]; exact dig_len_zero (by omega)
    have es : s = 0 := root_unique hs (by omega) s1 s2 (by omega) (by omega)
    subst es
    refine cp1 (rs := [.cell 2 24, .tmp 3]) (nt := 54) Tryz.func98 (fun C hP hn => ?_)
    ((repeat' (first | refine gW ?_ | (refine gIf ?_ ?_ <;> (intro hc; try exact gX)) | with_reducible refine br_intro ?_ ?_ | (with_reducible intro _; try exact gX) | with_reducible refine ands_intro ?_ ?_)) <;> (try exact gF))
    exact rqq2 (rC ty24) rT
end Go.Proofs.YtfmebdmgnmogaaaGreatDoor
