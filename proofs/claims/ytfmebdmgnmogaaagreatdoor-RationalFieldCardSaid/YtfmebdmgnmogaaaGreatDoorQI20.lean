/- The contract of the greatest common divisor. No statement of its own. -/
import Derived.Test.YtfmebdmgnmogaaaGreatDoorQI19
set_option linter.unusedVariables false
set_option linter.unusedSimpArgs false
set_option linter.unusedSimpArgs false
set_option linter.unusedVariables false
set_option maxRecDepth 100000
set_option maxHeartbeats 4000000
namespace Go.Proofs.YtfmebdmgnmogaaaGreatDoor
open Go Go.RowKit Hv

theorem word_e {b r : Bool} {n : Nat} {xs : List Int} {w : Int} (hn : n = xs.length) (hx : Lim xs) (hl : xs.length ≤ 1000000) (hw : wordV xs = w) (hr : decide (xs.length ≤ 2) = r) : HCallsD Tryz.prog 107 [] [.agg [.raw (.bool b), .sl n false (ints .u32 xs)]] (.tup [.raw (.int .u64 w), .raw (.bool r)]) [] := by
  subst hw hr; exact word_c hn hx hl
theorem wordV_le {v : Int} (h0 : 0 ≤ v) (h : (dig v).length ≤ 2) : wordV (dig v) = v ∧ v < 1000000000000000000 := by
  have h1 := V_lt (dig_lim v)
  rw [dig_V h0] at h1
  have h2 := P9_mono h
  have h3 : P9 2 = 1000000000000000000 := by simp [P9]
  exact ⟨by unfold wordV; rw [if_pos h, dig_V h0], by omega⟩
theorem split_f {u : Int} {n : Nat} {b : Bool} {z : Int} (hn : n = 3) (h0 : 0 ≤ u) (h1 : u < 18446744073709551616) (hz : sgnd b u = z) : HCallsD Tryz.prog 95 [] [.raw (.bool b), .sl n false (ints .u32 [u % 1000000000, u / 1000000000 % 1000000000, u / 1000000000 / 1000000000])] (aI z) [] :=
  signed_e hn (by simp) (split_lim h0 h1) (by rw [split_V, hz])
theorem gI_le {x y : Int} (hx : 0 ≤ x) (hy : 0 ≤ y) : gI x y ≤ x ∨ gI x y ≤ y := by
  unfold gI
  rcases Int.lt_or_le 0 x with k | k
  · exact .inl (Int.le_of_dvd k (Int.gcd_dvd_left ..))
  · right
    have : x = 0 := by omega
    subst this
    rw [Int.gcd_zero_left]; omega

theorem igcd_c {ba : Bool} {na : Nat} {xa : List Int} {za : Int} {bb : Bool} {nb : Nat} {xb : List Int} {zb : Int} (hba : ba = decide (za < 0)) (hna : na = xa.length) (hxa : xa = dig (za.natAbs : Int)) (hla : xa.length ≤ 100000) (hbb : bb = decide (zb < 0)) (hnb : nb = xb.length) (hxb : xb = dig (zb.natAbs : Int)) (hlb : xb.length ≤ 100000) : HCallsD Tryz.prog 82 [] [.agg [.raw (.bool ba), .sl na false (ints .u32 xa)], .agg [.raw (.bool bb), .sl nb false (ints .u32 xb)]] (aI (gI za zb)) [] := by
  subst hna hnb
  have lx : Lim xa := hxa ▸ dig_lim _
  have ly : Lim xb := hxb ▸ dig_lim _
  have vx : V xa = za.natAbs := by rw [hxa, dig_V (ab_nn _)]
  have vy : V xb = zb.natAbs := by rw [hxb, dig_V (ab_nn _)]
  have hg := gI_abs za zb
  rw [hxa] at hla
  rw [hxb] at hlb
  obtain ⟨A, hA⟩ : ∃ A, (za.natAbs : Int) = A := ⟨_, rfl⟩
  obtain ⟨B, hB⟩ : ∃ B, (zb.natAbs : Int) = B := ⟨_, rfl⟩
  have A0 : 0 ≤ A := by omega
  have B0 : 0 ≤ B := by omega
  rw [hA] at vx hla hg
  rw [hB] at vy hlb hg
  obtain ⟨G, hG⟩ : ∃ G, gI za zb = G := ⟨_, rfl⟩
  rw [hG] at hg ⊢
  have nx : xa.length = (dig A).length := by rw [hxa, hA]
  have ny : xb.length = (dig B).length := by rw [hxb, hB]
  clear hba hbb hxa hxb hA hB hG
  refine cp2 (rs := [.cell 4 24]) (nt := 61) Tryz.func82 (fun C hP hn => ?_)
  ((repeat' (first | refine gW ?_ | (refine gIf ?_ ?_ <;> (intro hc; try exact gX)) | with_reducible refine br_intro ?_ ?_ | (with_reducible intro _; try exact gX) | with_reducible refine ands_intro ?_ ?_ | refine cx (signed_f (xs := xa) (z := A) (by rfl) (by omega) lx vx rfl) ?_ | refine cx (signed_f (xs := xb) (z := B) (by rfl) (by omega) ly vy rfl) ?_)) <;> (try exact gF))
  refine hwp_loopS (fun p : Int × Int => ⟨lk [(4, .ptr 0 0), (5, .ptr 1 0), (6, .ptr 2 0)],
      hlk [(0, { al := true, live := true, wb := true, elem := 24, sz := 1, cells := [.raw (.bool false), .sl 0 true []] }), (1, { al := true, live := true, wb := true, elem := 24, sz := 1, cells := [.raw (.bool (decide (p.1 < 0))), .sl (dig p.1.natAbs).length false (ints .u32 (dig p.1.natAbs))] }),
        (2, { al := true, live := true, wb := true, elem := 24, sz := 1, cells := [.raw (.bool (decide (p.2 < 0))), .sl (dig p.2.natAbs).length false (ints .u32 (dig p.2.natAbs))] })], 3, 61⟩)
    (fun p => 0 ≤ p.1 ∧ 0 ≤ p.2 ∧ gI p.1 p.2 = G ∧ (dig p.1.natAbs).length ≤ 100000 ∧ (dig p.2.natAbs).length ≤ 100000) (fun p => p.2.toNat)
    ⟨(A, B), ⟨A0, B0, hg, by simp only; rw [ab_pos A0]; exact hla, by simp only; rw [ab_pos B0]; exact hlb⟩, by exact cvS hn (.ptr 0 4 rfl (.ptr 1 5 rfl (.ptr 2 6 rfl .nil)))⟩ ?_
  rintro ⟨x, y⟩ ⟨h1, h2, h3, h4, h5⟩
  simp only at h1 h2 h3 h4 h5
  have ax := ab_pos h1
  have ay := ab_pos h2
  rcases Int.lt_or_le 0 y with hy | hy
  · have hly : 0 < (dig (y.natAbs : Int)).length := dig_len_pos (by omega)
    obtain ⟨qs, rs, lq, lr, vq, vr, nq, nr, hdiv⟩ := divide_c (n := (dig (x.natAbs : Int)).length) (m := (dig (y.natAbs : Int)).length) (u := (x.natAbs : Int)) (v := (y.natAbs : Int)) rfl rfl rfl rfl (by omega) (by omega) (by omega) (by omega)
    rw [ax, ay] at vr
    have r0 := Int.emod_nonneg x (show y ≠ 0 by omega)
    have r1 := Int.emod_lt_of_pos x hy
    have hr : (dig ((x % y).natAbs : Int)).length ≤ 100000 := Nat.le_trans (dig_le (by omega) (by omega)) h5
    rcases Nat.lt_or_ge 2 (dig (x.natAbs : Int)).length with kx | kx
    · ((repeat' (first | refine gW ?_ | (refine gIf ?_ ?_ <;> (intro hc; try exact gX)) | with_reducible refine br_intro ?_ ?_ | (with_reducible intro _; try exact gX) | with_reducible refine ands_intro ?_ ?_ | refine cx (word_e (xs := dig (x.natAbs : Int)) (r := false) (by rfl) (dig_lim _) (by omega) rfl (decide_eq_false (by omega))) ?_ | refine cx (word_e (xs := dig (y.natAbs : Int)) (by rfl) (dig_lim _) (by omega) rfl rfl) ?_ | refine cx (hdiv) ?_ | refine cx (signed_f (xs := rs) (z := x % y) (by rfl) (by omega) lr vr rfl) ?_)) <;> (try exact gF))
      exact ⟨(y, x % y), by simp only; omega, ⟨h2, r0, by simp only; rw [gI_step]; exact h3, h5, hr⟩, by exact cvS hn (.ptr 0 4 rfl (.ptr 1 5 rfl (.ptr 2 6 rfl .nil)))⟩
    · obtain ⟨w1, w2⟩ := wordV_le (by omega) kx
      rw [ax] at w2
      rcases Nat.lt_or_ge 2 (dig (y.natAbs : Int)).length with ky | ky
      · ((repeat' (first | refine gW ?_ | (refine gIf ?_ ?_ <;> (intro hc; try exact gX)) | with_reducible refine br_intro ?_ ?_ | (with_reducible intro _; try exact gX) | with_reducible refine ands_intro ?_ ?_ | refine cx (word_e (xs := dig (x.natAbs : Int)) (r := true) (by rfl) (dig_lim _) (by omega) rfl (decide_eq_true kx)) ?_ | refine cx (word_e (xs := dig (y.natAbs : Int)) (r := false) (by rfl) (dig_lim _) (by omega) rfl (decide_eq_false (by omega))) ?_ | refine cx (hdiv) ?_ | refine cx (signed_f (xs := rs) (z := x % y) (by rfl) (by omega) lr vr rfl) ?_)) <;> (try exact gF))
        exact ⟨(y, x % y), by simp only; omega, ⟨h2, r0, by simp only; rw [gI_step]; exact h3, h5, hr⟩, by exact cvS hn (.ptr 0 4 rfl (.ptr 1 5 rfl (.ptr 2 6 rfl .nil)))⟩
      · obtain ⟨w3, w4⟩ := wordV_le (by omega) ky
        rw [ay] at w4
        ((repeat' (first | refine gW ?_ | (refine gIf ?_ ?_ <;> (intro hc; try exact gX)) | with_reducible refine br_intro ?_ ?_ | (with_reducible intro _; try exact gX) | with_reducible refine ands_intro ?_ ?_ | refine cx (word_e (xs := dig (x.natAbs : Int)) (w := x) (r := true) (by rfl) (dig_lim _) (by omega) (by rw [w1, ax]) (decide_eq_true kx)) ?_ | refine cx (word_e (xs := dig (y.natAbs : Int)) (w := y) (r := true) (by rfl) (dig_lim _) (by omega) (by rw [w3, ay]) (decide_eq_true ky)) ?_)) <;> (try exact gF))
        refine hwp_loopS (fun p : Int × Int => ⟨lk [(4, .ptr 0 0), (7, .raw (.int .u64 p.1)), (9, .raw (.int .u64 p.2))], hlk [(0, { al := true, live := true, wb := true, elem := 24, sz := 1, cells := [.raw (.bool false), .sl 0 true []] })], 1, 61⟩)
          (fun p => 0 ≤ p.1 ∧ 0 ≤ p.2 ∧ gI p.1 p.2 = G ∧ p.1 < 18446744073709551616 ∧ p.2 < 18446744073709551616) (fun p => p.2.toNat)
          ⟨(x, y), ⟨h1, h2, h3, by simp only; omega, by simp only; omega⟩, by exact cvS hn (.ptr 0 4 rfl .nil)⟩ ?_
        clear h1 h2 h3 h4 h5 ax ay hy hly hdiv vr r0 r1 hr kx w1 w2 ky w3 w4
        rintro ⟨u, v⟩ ⟨h1, h2, h3, h4, h5⟩
        simp only at h1 h2 h3 h4 h5
        rcases Int.lt_or_le 0 v with hv | hv
        · have r0 := Int.emod_nonneg u (show v ≠ 0 by omega)
          have r1 := Int.emod_lt_of_pos u hv
          ((repeat' (first | refine gW ?_ | (refine gIf ?_ ?_ <;> (intro hc; try exact gX)) | with_reducible refine br_intro ?_ ?_ | (with_reducible intro _; try exact gX) | with_reducible refine ands_intro ?_ ?_)) <;> (try exact gF))
          exact ⟨(v, u % v), by simp only; omega, ⟨h2, r0, by simp only; rw [gI_step]; exact h3, h5, by simp only; omega⟩, by exact cvS hn (.ptr 0 4 rfl .nil)⟩
        · have : v = 0 := by omega
          subst this
          rw [gI_zero h1] at h3
          subst h3
          ((repeat' (first | refine gW ?_ | (refine gIf ?_ ?_ <;> (intro hc; try exact gX)) | with_reducible refine br_intro ?_ ?_ | (with_reducible intro _; try exact gX) | with_reducible refine ands_intro ?_ ?_ | refine cx (split_c h1 h4) ?_ | refine cx (split_f (z := u) rfl h1 h4 rfl) ?_)) <;> (try exact gF))
          exact rqq1 (rC ty24)
  · have : y = 0 := by omega
    subst this
    rw [gI_zero h1] at h3
    subst h3
    have hly : (dig ((0 : Int).natAbs : Int)).length = 0 := dig_len_zero (by omega)
    have hpos : 0 < (dig (x.natAbs : Int)).length ∨ (dig (x.natAbs : Int)).length = 0 := by omega
    ((repeat' (first | refine gW ?_ | (refine gIf ?_ ?_ <;> (intro hc; try exact gX)) | with_reducible refine br_intro ?_ ?_ | (with_reducible intro _; try exact gX) | with_reducible refine ands_intro ?_ ?_ | refine cx (signed_f (xs := dig (x.natAbs : Int)) (z := x) (by rfl) (by omega) (dig_lim _) (by rw [dig_V (ab_nn _), ax]) rfl) ?_)) <;> (try exact gF))
    exact rqq1 (rC ty24)
end Go.Proofs.YtfmebdmgnmogaaaGreatDoor
