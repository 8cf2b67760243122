/- Division of limbs by the reference. No statement of its own. -/
import Derived.Test.YtfmebdmgnmogaaaGreatDoorQSb
set_option linter.unusedVariables false
set_option linter.unusedSimpArgs false
set_option linter.unusedSimpArgs false
set_option linter.unusedVariables false
set_option maxRecDepth 100000
set_option maxHeartbeats 8000000
namespace Go.Proofs.YtfmebdmgnmogaaaGreatDoor
open Go Go.RowKit Hv

theorem ints_cons (k : IntKind) (x : Int) (xs : List Int) : HV.raw (.int k x) :: ints k xs = ints k (x :: xs) := rfl
theorem short_e {n : Nat} {xs : List Int} {v : Int} (hn : n = xs.length) (hx : Lim xs) (hv : V xs = v) (hb : v < 18446744073709551616) (hl : xs.length ≤ 1000000) : HCallsD Tryz.prog 103 [] [.sl n false (ints .u32 xs)] (.raw (.int .u64 v)) [] := by subst hv; exact short_c hn hx hb hl
theorem rby_e {n : Nat} {xs ys : List Int} {d : Int} (hn : n = xs.length) (hx : Lim xs) (h0 : 0 ≤ d) (h1 : d < 1000000000) (hl : xs.length ≤ 400000) (hy : dig (V xs * d) = ys) : HCallsD Tryz.prog 123 [] [.sl n false (ints .u32 xs), .raw (.int .u32 d)] (.sl ys.length false (ints .u32 ys)) [] := by subst hy; exact rby_c hn hx h0 h1 hl
theorem rminus_e {n m : Nat} {xs ys zs : List Int} {u v w : Int} (hn : n = xs.length) (hm : m = ys.length) (hx : xs = dig u) (hy : ys = dig v) (hv : 0 ≤ v) (hlx : xs.length ≤ 1000000) (hle : v ≤ u) (hw : u - v = w) (hz : zs = dig w) :
    HCallsD Tryz.prog 74 [] [.sl n false (ints .u32 xs), .sl m false (ints .u32 ys)] (.sl zs.length false (ints .u32 zs)) [] := by
  subst hz hw
  have vx : V xs = u := by rw [hx, dig_V (by omega)]
  have vy : V ys = v := by rw [hy, dig_V hv]
  have h := rminus_c (n := n) (m := m) hn hm (hx ▸ dig_lim _) (hy ▸ dig_lim _) hlx (by rw [hx, hy]; exact dig_le hv hle) (by rw [vx, vy]; exact hle)
  rw [vx, vy] at h
  exact h

theorem est_top {t D q : Int} {ts vs : List Int} {n : Nat} (hn : 0 < n) (hts : Lim ts) (hvs : Lim vs) (hvl : vs.length = n) (htl : ts.length ≤ n + 1) (ht : V ts = t) (hD : V vs = D) (hq : 0 ≤ q) (hqd : q * D ≤ t) (hv : 0 < vs.getD (n - 1) 0) :
    q ≤ (ts.getD n 0 * 1000000000 + ts.getD (n - 1) 0) / vs.getD (n - 1) 0 := by
  have hP := P9_pos (n - 1)
  have eD := top_limb (ys := vs) (n := n - 1) (by omega)
  have d0 := V_nonneg (hvs.take (n - 1))
  have eT : V ts = V (ts.take (n - 1)) + P9 (n - 1) * (ts.getD (n - 1) 0 + 1000000000 * ts.getD n 0) := by
    rcases Nat.lt_or_ge ts.length (n - 1) with k | k
    · rw [List.take_of_length_le (by omega)]
      have z1 : ts.getD (n - 1) 0 = 0 := by simp [List.getD, show ts.length ≤ n - 1 by omega]
      have z2 : ts.getD n 0 = 0 := by simp [List.getD, show ts.length ≤ n by omega]
      rw [z1, z2]; simp
    · rw [V_split ts (n - 1) k, V_drop ts (n - 1), show n - 1 + 1 = n by omega, V_drop ts n, List.drop_of_length_le (by omega)]
      simp [V]
  have w1 : V (ts.take (n - 1)) < P9 (n - 1) := by
    have := V_lt (hts.take (n - 1))
    have h2 := P9_mono (show (ts.take (n - 1)).length ≤ n - 1 by rw [List.length_take]; omega)
    omega
  have h := est_ge (W := t) (D := D) (q := q) (t := ts.getD n 0 * 1000000000 + ts.getD (n - 1) 0) (v := vs.getD (n - 1) 0) (P := P9 (n - 1)) (wl := V (ts.take (n - 1))) (dl := V (vs.take (n - 1))) hP
    (by rw [← ht, eT, Int.mul_comm (P9 _)]; rw [show ts.getD (n - 1) 0 + 1000000000 * ts.getD n 0 = ts.getD n 0 * 1000000000 + ts.getD (n - 1) 0 by omega]; omega) (by rw [← hD, eD, Int.mul_comm (P9 _)]; omega) w1 d0 hq hqd
  exact (Int.le_ediv_iff_mul_le hv).2 h

theorem hwp_cov_all {C : Ctx} {st : HS} {c : Code} {Q : Exit → HS → Prop} {S : Int → HS} {ok : Int → Prop} (g : Int) (h1 : ok g) (h2 : Cov C.n0 st (S g)) (h : ∀ g, ok g → hwp C c Q (S g)) : hwp C c Q st := hwp_cov h2 (h g h1)
theorem parts_c {n m : Nat} {xs ys : List Int} {u v : Int} (hn : n = xs.length) (hm : m = ys.length) (hx : xs = dig u) (hy : ys = dig v) (hu : 0 ≤ u) (hv : 0 < v) (hlx : xs.length ≤ 100000) (hly : ys.length ≤ 100000) :
      HCallsD Tryz.prog 102 [] [.sl n false (ints .u32 xs), .sl m false (ints .u32 ys)] (.tup [.sl (dig (u / v)).length false (ints .u32 (dig (u / v))), .sl (dig (u % v)).length false (ints .u32 (dig (u % v)))]) [] := by
  subst hn hm
  have lx : Lim xs := hx ▸ dig_lim u
  have ly : Lim ys := hy ▸ dig_lim v
  have vx : V xs = u := by rw [hx, dig_V hu]
  have vy : V ys = v := by rw [hy, dig_V (by omega)]
  have hyp : 0 < ys.length := by rw [hy]; exact dig_len_pos hv
  have q0 := div_nonneg' hu (Int.le_of_lt hv)
  have r0 := Int.emod_nonneg u (show v ≠ 0 by omega)
  have r1 := Int.emod_lt_of_pos u hv
  have hdm := Int.emod_add_mul_ediv u v
  have qle : u / v ≤ u := Int.ediv_le_self v hu
  have ux := V_lt lx
  have uy := V_lt ly
  rw [vx] at ux
  rw [vy] at uy
  have P2 : P9 2 = 1000000000000000000 := by simp [P9]
  rcases Decidable.em (xs.length ≤ 2 ∧ ys.length ≤ 2) with h2 | h2
  · have a1 := P9_mono h2.1
    have a2 := P9_mono h2.2
    refine cp2 (rs := [.tmp 4, .tmp 5]) (nt := 173) Tryz.func102 (fun C hP hn => ?_)
    ((repeat' (first | refine gW ?_ | (refine gIf ?_ ?_ <;> (intro hc; try exact gX)) | with_reducible refine br_intro ?_ ?_ | (with_reducible intro _; try exact gX) | with_reducible refine ands_intro ?_ ?_ | refine cx (short_e (xs := xs) (by rfl) lx vx (by omega) (by omega)) ?_ | refine cx (short_e (xs := ys) (by rfl) ly vy (by omega) (by omega)) ?_ | refine cx (rlimbs_c (u := u / v) q0 (by omega)) ?_ | refine cx (rlimbs_c (u := u % v) r0 (by omega)) ?_)) <;> (try exact gF))
    exact rqq2 rT rT
  · have ylast : lastOk ys := hy ▸ dig_last v
    obtain ⟨s, hs⟩ : ∃ s, 1000000000 / (ys.getD (ys.length - 1) 0 + 1) = s := ⟨_, rfl⟩
    obtain ⟨s1, s2, hvl, hv5, hvV, _⟩ := scaled (n := ys.length - 1) ly ylast (by omega) hs.symm
    rw [vy] at hvl hv5 hvV
    rw [show ys.length - 1 + 1 = ys.length by omega] at hvl
    have b1 := ly.getA (ys.length - 1)
    obtain ⟨D, hDe⟩ : ∃ D, v * s = D := ⟨_, rfl⟩
    rw [hDe] at hvl hv5 hvV
    obtain ⟨vs, hvs⟩ : ∃ vs, dig D = vs := ⟨_, rfl⟩
    rw [hvs] at hvl hv5 hvV
    have lv : Lim vs := hvs ▸ dig_lim _
    have hD : 0 < D := by rw [← hDe]; exact Int.mul_pos hv (by omega)
    have vs1 := lv.getA (ys.length - 1)
    obtain ⟨U, hU⟩ : ∃ U, u * s = U := ⟨_, rfl⟩
    have hU0 : 0 ≤ U := by rw [← hU]; exact Int.mul_nonneg hu (by omega)
    obtain ⟨us, hus⟩ : ∃ us, dig U = us := ⟨_, rfl⟩
    have lu : Lim us := hus ▸ dig_lim _
    have uV : V us = U := by rw [← hus, dig_V hU0]
    have ul : us.length ≤ xs.length + 1 := by
      rw [← hus]
      refine dig_len ?_
      have a1 : u * s ≤ P9 xs.length * s := Int.mul_le_mul_of_nonneg_right (by omega) (by omega)
      have a2 : P9 xs.length * s ≤ P9 xs.length * 500000000 := Int.mul_le_mul_of_nonneg_left s2 (Int.le_of_lt (P9_pos _))
      have := P9_pos xs.length
      simp only [P9]; omega
    have vD : V vs = D := hvV
    have vlt := V_lt lv
    rw [vD, hvl] at vlt
    have c1 := rby_e (n := ys.length) (xs := ys) (ys := vs) (d := s) (by rfl) ly (by omega) (by omega) (by omega) (by rw [vy, hDe, hvs])
    have c2 := rby_e (n := xs.length) (xs := xs) (ys := us) (d := s) (by rfl) lx (by omega) (by omega) (by omega) (by rw [vx, hU, hus])
    obtain ⟨M, n1⟩ : ∃ M, ((xs.length : Int) + 1).toNat = M := ⟨_, rfl⟩
    have hM : M = xs.length + 1 := by omega
    obtain ⟨fl, hfl⟩ : ∃ b, decide ((us.length : Int) = (M : Int)) = b := ⟨_, rfl⟩
    have hfl2 : decide ((us.length : Int) = (xs.length : Int) + 1) = fl := by rw [← hfl, hM]; rfl
    refine cp2 (rs := [.tmp 4, .tmp 5]) (nt := 173) Tryz.func102 (fun C hP hn => ?_)
    refine hwp_cut (fun s => s = ⟨lk [(0, .sl xs.length false (ints .u32 xs)), (1, .sl ys.length false (ints .u32 ys))], hlk [], 0, 173⟩) ?_ ?_
    · ((repeat' (first | refine gW ?_ | (refine gIf ?_ ?_ <;> (intro hc; try exact gX)) | with_reducible refine br_intro ?_ ?_ | (with_reducible intro _; try exact gX) | with_reducible refine ands_intro ?_ ?_)) <;> (try exact gF))
      exact ⟨_, by exact cvG hn [], rfl⟩
    rintro _ rfl
    refine hwp_cut (fun s => s = ⟨lk [(0, .sl xs.length false (ints .u32 xs)), (1, .sl ys.length false (ints .u32 ys))], hlk [], 0, 173⟩) ?_ ?_
    · ((repeat' (first | refine gW ?_ | (refine gIf ?_ ?_ <;> (intro hc; try exact gX)) | with_reducible refine br_intro ?_ ?_ | (with_reducible intro _; try exact gX) | with_reducible refine ands_intro ?_ ?_)) <;> (try exact gF))
      all_goals exact ⟨_, by exact cvG hn [], rfl⟩
    rintro _ rfl
    (have hXx := And.intro @hs (And.intro @hfl (And.intro @hfl2 (And.intro @hvl (@n1)))); (repeat' (first | refine gWx ?_ | (refine gIf ?_ ?_ <;> (intro hc; try exact gX)) | with_reducible refine br_intro ?_ ?_ | (with_reducible intro _; try exact gX) | with_reducible refine ands_intro ?_ ?_ | refine cx (c1) ?_ | refine cx (c2) ?_)) <;> ((try clear hXx); try exact gF))
    refine hwp_loopS (fun x : Nat × Bool × Int × List Int => ⟨lk [(8, .raw (.int .u32 s)), (9, .sl vs.length false (ints .u32 vs)), (10, .raw (.int .u64 (vs.getD (ys.length - 1) 0))), (11, .sl (dig x.2.2.1).length x.2.1 (ints .u32 (dig x.2.2.1))), (12, .own 0 0 us.length fl), (13, .sl us.length false (ints .u32 us)), (14, .raw (.int .i64 (x.1 - 1)))],
          hlk [(0, { al := true, live := true, wb := true, grow := true, elem := 62, sz := 1, cells := ints .u32 x.2.2.2 })], 1, 173⟩)
      (fun x => x.1 ≤ us.length ∧ x.2.2.2.length = xs.length + 1 ∧ Lim ((x.2.2.2.take us.length).drop x.1) ∧ 0 ≤ x.2.2.1 ∧ x.2.2.1 < D ∧ V (us.drop x.1) = V ((x.2.2.2.take us.length).drop x.1) * D + x.2.2.1) (fun x => x.1)
      ⟨(us.length, true, 0, List.replicate M 0), ⟨Nat.le_refl _, by simp [hM], by simp only; rw [List.drop_of_length_le (by rw [List.length_take, List.length_replicate]; omega)]; exact .nil, Int.le_refl _, hD, by simp only; rw [List.drop_length, List.drop_of_length_le (by rw [List.length_take, List.length_replicate]; omega)]; simp [V]⟩, ?_⟩ ?_
    · rw [dig_zero (Int.le_refl _)]
      exact cvS hn (.own 0 12 rfl .nil)
    rintro ⟨k', fl2, r, out⟩ ⟨g1, g2, g3, g4, g5, g6⟩
    simp only at g1 g2 g3 g4 g5 g6
    have rl := dig_len (v := r) (n := ys.length) (by omega)
    rcases Nat.eq_zero_or_pos k' with hk | hk
    · subst hk
      rw [List.drop_zero] at g6
      rw [List.drop_zero] at g3 g6
      rw [uV] at g6
      have uq : U / D = u / v := by rw [← hU, ← hDe]; exact scale_div (by omega) hv
      have ur : U % D = (u % v) * s := by rw [← hU, ← hDe]; exact scale_mod (by omega) hv
      have d1 : U / D = V (out.take us.length) := div_eq (by omega) (by rw [Int.add_mul, Int.one_mul]; omega) hD
      have d2 : r = u % v * s := by rw [← ur, Int.emod_def, d1, Int.mul_comm]; omega
      have d3 : V (out.take us.length) = u / v := by rw [← d1, uq]
      have otl : (out.take us.length).length = us.length := by rw [List.length_take]; omega
      have t1 := rtrim_e (n := us.length) (xs := out.take us.length) (ys := dig (u / v)) (by omega) (by omega) g3 (by rw [d3])
      have rV : V (dig r) = r := dig_V g4
      have lr : Lim (dig r) := dig_lim _
      obtain ⟨L, hL⟩ : ∃ L, (dig r).length = L := ⟨_, rfl⟩
      obtain ⟨rs, hrs⟩ : ∃ rs, dig r = rs := ⟨_, rfl⟩
      rw [hrs] at rV lr hL ⊢
      have hLb : L ≤ ys.length := by rw [← hL, ← hrs]; exact rl
      have rd : r / s = u % v := by rw [d2]; exact Int.mul_ediv_cancel _ (by omega)
      rw [hL]
      (have hXx := @hL; (repeat' (first | refine gWx ?_ | (refine gIf ?_ ?_ <;> (intro hc; try exact gX)) | with_reducible refine br_intro ?_ ?_ | (with_reducible intro _; try exact gX) | with_reducible refine ands_intro ?_ ?_)) <;> ((try clear hXx); try exact gF))
      refine hwp_loopS (fun x : Nat × Int × List Int => ⟨lk [(8, .raw (.int .u32 s)), (11, .sl L fl2 (ints .u32 rs)), (12, .own 0 0 us.length fl), (18, .raw (.int .u64 x.2.1)), (19, .own 1 0 L true), (20, .raw (.int .i64 (x.1 - 1)))],
          hlk [(0, { al := true, live := true, wb := true, grow := true, elem := 62, sz := 1, cells := ints .u32 out }), (1, { al := true, live := true, wb := true, grow := true, elem := 62, sz := 1, cells := ints .u32 x.2.2 })], 2, 173⟩)
        (fun x => x.1 ≤ L ∧ x.2.2.length = L ∧ Lim (x.2.2.drop x.1) ∧ 0 ≤ x.2.1 ∧ x.2.1 < s ∧ V (rs.drop x.1) = V (x.2.2.drop x.1) * s + x.2.1) (fun x => x.1)
        ⟨(L, 0, List.replicate L 0), ⟨Nat.le_refl _, by simp, by simp [Lim], Int.le_refl _, by simp only; omega, by simp [V, ← hL]⟩, by exact cvS hn (.own 0 12 rfl (.own 1 19 rfl .nil))⟩ ?_
      rintro ⟨m, c, last⟩ ⟨j1, j2, j3, j4, j5, j6⟩
      simp only at j1 j2 j3 j4 j5 j6
      have hb := lr.getA (m - 1)
      rcases Nat.eq_zero_or_pos m with hm | hm
      · subst hm
        rw [List.drop_zero, List.drop_zero, rV] at j6
        rw [List.drop_zero] at j3
        have k1 : r / s = V last := div_eq (by omega) (by rw [Int.add_mul, Int.one_mul]; omega) (by omega)
        have k2 : V last = u % v := by rw [← k1, rd]
        have i5 : List.take L last = last := List.take_of_length_le (by omega)
        have t2 := rtrim_e (n := L) (xs := last) (ys := dig (u % v)) (by omega) (by omega) j3 (by rw [k2])
        (have hXx := @i5; (repeat' (first | refine gWx ?_ | (refine gIf ?_ ?_ <;> (intro hc; try exact gX)) | with_reducible refine br_intro ?_ ?_ | (with_reducible intro _; try exact gX) | with_reducible refine ands_intro ?_ ?_ | refine cx (t1) ?_ | refine cx (t2) ?_)) <;> ((try clear hXx); try exact gF))
        exact rqq2 rT rT
      · have hs0 : 0 < s := by omega
        have ht := byWord_bnd hs0 j4 j5 hb.1 hb.2 rfl
        have hq0 := div_nonneg' ht.1 (Int.le_of_lt hs0)
        have hr0 := Int.emod_nonneg (c * 1000000000 + rs.getD (m - 1) 0) (show s ≠ 0 by omega)
        have hr1 := Int.emod_lt_of_pos (c * 1000000000 + rs.getD (m - 1) 0) hs0
        have e := Int.emod_add_mul_ediv (c * 1000000000 + rs.getD (m - 1) 0) s
        have em : m - 1 + 1 = m := by omega
        ((repeat' (first | refine gW ?_ | (refine gIf ?_ ?_ <;> (intro hc; try exact gX)) | with_reducible refine br_intro ?_ ?_ | (with_reducible intro _; try exact gX) | with_reducible refine ands_intro ?_ ?_)) <;> (try exact gF))
        refine ⟨(m - 1, (c * 1000000000 + rs.getD (m - 1) 0) % s, last.set (m - 1) ((c * 1000000000 + rs.getD (m - 1) 0) / s)), by simp only; omega, ⟨by simp only; omega, by simp [j2], byWord_lim (by omega) (by rw [em]; exact j3) hq0 ht.2, hr0, hr1, by simp only; exact byWord_step (by omega) (by rw [em]; exact j6) rfl _ _ (by rw [Int.mul_comm]; omega)⟩, ?_⟩
        exact cvS hn (.own 0 12 rfl (.own 1 19 rfl .nil))
    · obtain ⟨k, rfl⟩ : ∃ k, k' = k + 1 := ⟨k' - 1, by omega⟩
      have ek : ((k + 1 : Nat) : Int) - 1 = (k : Int) := by omega
      simp only [ek]
      have hb := lu.getA k
      obtain ⟨t, ht⟩ : ∃ t, r * 1000000000 + us.getD k 0 = t := ⟨_, rfl⟩
      have t0 : 0 ≤ t := by omega
      have tB : t < 1000000000 * D := by omega
      obtain ⟨ts, hts⟩ : ∃ ts, dig t = ts := ⟨_, rfl⟩
      have lt : Lim ts := hts ▸ dig_lim _
      have tV : V ts = t := by rw [← hts, dig_V t0]
      have tl : ts.length ≤ ys.length + 1 := by rw [← hts]; exact dig_len (by simp only [P9]; omega)
      have hqn := div_nonneg' t0 (Int.le_of_lt hD)
      have hqB := div_lt_base hD tB
      obtain ⟨q1, q2⟩ := div_le t hD
      obtain ⟨q, hq⟩ : ∃ q, t / D = q := ⟨_, rfl⟩
      rw [hq] at hqn hqB q1 q2
      have est := est_top (t := t) (D := D) (q := q) (ts := ts) (vs := vs) (n := ys.length) hyp lt lv hvl tl tV vD hqn q1 (by omega)
      have est0 : 0 ≤ (ts.getD ys.length 0 * 1000000000 + ts.getD (ys.length - 1) 0) / vs.getD (ys.length - 1) 0 := by omega
      have est9 : (ts.getD ys.length 0 * 1000000000 + ts.getD (ys.length - 1) 0) / vs.getD (ys.length - 1) 0 ≤ ts.getD ys.length 0 * 1000000000 + ts.getD (ys.length - 1) 0 := Int.ediv_le_self _ (by have := lt.getA ys.length; have := lt.getA (ys.length - 1); omega)
      have x1 := lt.getA ys.length
      have x2 := lt.getA (ys.length - 1)
      have z1 : ts.length ≤ ys.length → ts.getD ys.length 0 = 0 := fun h => by simp [List.getD, h]
      have z2 : ts.length ≤ ys.length - 1 → ts.getD (ys.length - 1) 0 = 0 := fun h => by simp [List.getD, h]
      have lrs : Lim (us.getD k 0 :: dig r) := .cons hb.1 hb.2 (dig_lim _)
      have vrs : V (us.getD k 0 :: dig r) = t := by simp only [V]; rw [dig_V g4]; omega
      have t1 := rtrim_e (n := 1 + (dig r).length) (xs := us.getD k 0 :: dig r) (ys := ts) (by simp; omega) (by simp; omega) lrs (by rw [vrs, hts])
      have i9 : List.take (1 + (dig r).length) (us.getD k 0 :: dig r) = us.getD k 0 :: dig r := List.take_of_length_le (by simp; omega)
      refine hwp_cut (fun s' => s' = ⟨lk [(8, .raw (.int .u32 s)), (9, .sl vs.length false (ints .u32 vs)), (10, .raw (.int .u64 (vs.getD (ys.length - 1) 0))), (12, .own 0 0 us.length fl), (13, .sl us.length false (ints .u32 us)), (14, .raw (.int .i64 k)), (11, .sl (dig r).length fl2 (ints .u32 (dig r)))],
          hlk [(0, { al := true, live := true, wb := true, grow := true, elem := 62, sz := 1, cells := ints .u32 out })], 1, 173⟩) ?_ ?_
      · ((repeat' (first | refine gW ?_ | (refine gIf ?_ ?_ <;> (intro hc; try exact gX)) | with_reducible refine br_intro ?_ ?_ | (with_reducible intro _; try exact gX) | with_reducible refine ands_intro ?_ ?_)) <;> (try exact gF))
        exact ⟨_, by exact cvS hn (.own 0 12 rfl .nil), rfl⟩
      rintro _ rfl
      refine hwp_seq ?_
      refine hwp_block ?_
      refine hwp_cut (fun s' => s' = ⟨lk [(8, .raw (.int .u32 s)), (9, .sl vs.length false (ints .u32 vs)), (10, .raw (.int .u64 (vs.getD (ys.length - 1) 0))), (12, .own 0 0 us.length fl), (13, .sl us.length false (ints .u32 us)), (14, .raw (.int .i64 k)), (11, .sl ts.length false (ints .u32 ts))],
          hlk [(0, { al := true, live := true, wb := true, grow := true, elem := 62, sz := 1, cells := ints .u32 out })], 1, 173⟩) ?_ ?_
      · (have hXx := And.intro @hvl (And.intro @ints_cons (@i9)); (repeat' (first | refine gWx ?_ | (refine gIf ?_ ?_ <;> (intro hc; try exact gX)) | with_reducible refine br_intro ?_ ?_ | (with_reducible intro _; try exact gX) | with_reducible refine ands_intro ?_ ?_ | refine cx (t1) ?_)) <;> ((try clear hXx); try exact gF))
        exact ⟨_, by exact cvS hn (.own 0 12 rfl .nil), rfl⟩
      rintro _ rfl
      refine hwp_cut (fun s' => s' = ⟨lk [(8, .raw (.int .u32 s)), (9, .sl vs.length false (ints .u32 vs)), (10, .raw (.int .u64 (vs.getD (ys.length - 1) 0))), (12, .own 0 0 us.length fl), (13, .sl us.length false (ints .u32 us)), (14, .raw (.int .i64 k)), (11, .sl ts.length false (ints .u32 ts)), (15, .raw (.int .u64 0))],
          hlk [(0, { al := true, live := true, wb := true, grow := true, elem := 62, sz := 1, cells := ints .u32 out })], 1, 173⟩) ?_ ?_
      · ((repeat' (first | refine gW ?_ | (refine gIf ?_ ?_ <;> (intro hc; try exact gX)) | with_reducible refine br_intro ?_ ?_ | (with_reducible intro _; try exact gX) | with_reducible refine ands_intro ?_ ?_)) <;> (try exact gF))
        exact ⟨_, by exact cvS hn (.own 0 12 rfl .nil), rfl⟩
      rintro _ rfl
      refine hwp_cut (fun s' => s' = ⟨lk [(8, .raw (.int .u32 s)), (9, .sl vs.length false (ints .u32 vs)), (10, .raw (.int .u64 (vs.getD (ys.length - 1) 0))), (12, .own 0 0 us.length fl), (13, .sl us.length false (ints .u32 us)), (14, .raw (.int .i64 k)), (11, .sl ts.length false (ints .u32 ts)), (15, .raw (.int .u64 (ts.getD ys.length 0 * 1000000000)))],
          hlk [(0, { al := true, live := true, wb := true, grow := true, elem := 62, sz := 1, cells := ints .u32 out })], 1, 173⟩) ?_ ?_
      · (have hXx := @hvl; (repeat' (first | refine gWx ?_ | (refine gIf ?_ ?_ <;> (intro hc; try exact gX)) | with_reducible refine br_intro ?_ ?_ | (with_reducible intro _; try exact gX) | with_reducible refine ands_intro ?_ ?_)) <;> ((try clear hXx); try exact gF))
        all_goals exact ⟨_, by exact cvS hn (.own 0 12 rfl .nil), rfl⟩
      rintro _ rfl
      refine hwp_cut (fun s' => s' = ⟨lk [(8, .raw (.int .u32 s)), (9, .sl vs.length false (ints .u32 vs)), (10, .raw (.int .u64 (vs.getD (ys.length - 1) 0))), (12, .own 0 0 us.length fl), (13, .sl us.length false (ints .u32 us)), (14, .raw (.int .i64 k)), (11, .sl ts.length false (ints .u32 ts)), (15, .raw (.int .u64 (ts.getD ys.length 0 * 1000000000 + ts.getD (ys.length - 1) 0)))],
          hlk [(0, { al := true, live := true, wb := true, grow := true, elem := 62, sz := 1, cells := ints .u32 out })], 1, 173⟩) ?_ ?_
      · (have hXx := @hvl; (repeat' (first | refine gWx ?_ | (refine gIf ?_ ?_ <;> (intro hc; try exact gX)) | with_reducible refine br_intro ?_ ?_ | (with_reducible intro _; try exact gX) | with_reducible refine ands_intro ?_ ?_)) <;> ((try clear hXx); try exact gF))
        all_goals exact ⟨_, by exact cvS hn (.own 0 12 rfl .nil), rfl⟩
      rintro _ rfl
      refine hwp_cut (fun s' => s' = ⟨lk [(8, .raw (.int .u32 s)), (9, .sl vs.length false (ints .u32 vs)), (10, .raw (.int .u64 (vs.getD (ys.length - 1) 0))), (12, .own 0 0 us.length fl), (13, .sl us.length false (ints .u32 us)), (14, .raw (.int .i64 k)), (11, .sl ts.length false (ints .u32 ts)), (16, .raw (.int .u64 ((ts.getD ys.length 0 * 1000000000 + ts.getD (ys.length - 1) 0) / vs.getD (ys.length - 1) 0)))],
          hlk [(0, { al := true, live := true, wb := true, grow := true, elem := 62, sz := 1, cells := ints .u32 out })], 1, 173⟩) ?_ ?_
      · (have hXx := @hvl; (repeat' (first | refine gWx ?_ | (refine gIf ?_ ?_ <;> (intro hc; try exact gX)) | with_reducible refine br_intro ?_ ?_ | (with_reducible intro _; try exact gX) | with_reducible refine ands_intro ?_ ?_)) <;> ((try clear hXx); try exact gF))
        all_goals exact ⟨_, by exact cvS hn (.own 0 12 rfl .nil), rfl⟩
      rintro _ rfl
      refine hwp_cut (fun s' => ∃ g : Int, q ≤ g ∧ g ≤ 999999999 ∧ s' = ⟨lk [(8, .raw (.int .u32 s)), (9, .sl vs.length false (ints .u32 vs)), (10, .raw (.int .u64 (vs.getD (ys.length - 1) 0))), (12, .own 0 0 us.length fl), (13, .sl us.length false (ints .u32 us)), (14, .raw (.int .i64 k)), (11, .sl ts.length false (ints .u32 ts)), (16, .raw (.int .u64 g))],
          hlk [(0, { al := true, live := true, wb := true, grow := true, elem := 62, sz := 1, cells := ints .u32 out })], 1, 173⟩) ?_ ?_
      · (have hXx := @hvl; (repeat' (first | refine gWx ?_ | (refine gIf ?_ ?_ <;> (intro hc; try exact gX)) | with_reducible refine br_intro ?_ ?_ | (with_reducible intro _; try exact gX) | with_reducible refine ands_intro ?_ ?_)) <;> ((try clear hXx); try exact gF))
        · exact ⟨_, by exact cvS hn (.own 0 12 rfl .nil), 999999999, by omega, by omega, rfl⟩
        · exact ⟨_, by exact cvS hn (.own 0 12 rfl .nil), (ts.getD ys.length 0 * 1000000000 + ts.getD (ys.length - 1) 0) / vs.getD (ys.length - 1) 0, by omega, by omega, rfl⟩
      rintro _ ⟨g0, hg1, hg2, rfl⟩
      have pl : ∀ g : Int, 0 ≤ g → g ≤ 999999999 → (dig (D * g)).length ≤ ys.length + 1 := fun g h0 h9 => dig_len (by
        have a1 : D * g ≤ D * 1000000000 := Int.mul_le_mul_of_nonneg_left (by omega) (by omega)
        simp only [P9]; omega)
      have tk : us.length ≤ out.length := by omega
      have c3 := rby_e (n := vs.length) (xs := vs) (ys := dig (D * g0)) (d := g0) (by rfl) lv (by omega) (by omega) (by omega) (by rw [vD])
      refine hwp_cut (fun s' => s' = ⟨lk [(8, .raw (.int .u32 s)), (9, .sl vs.length false (ints .u32 vs)), (10, .raw (.int .u64 (vs.getD (ys.length - 1) 0))), (12, .own 0 0 us.length fl), (13, .sl us.length false (ints .u32 us)), (14, .raw (.int .i64 k)), (11, .sl ts.length false (ints .u32 ts)), (16, .raw (.int .u64 g0)), (17, .sl (dig (D * g0)).length false (ints .u32 (dig (D * g0))))], hlk [(0, { al := true, live := true, wb := true, grow := true, elem := 62, sz := 1, cells := ints .u32 out })], 1, 173⟩) ?_ ?_
      · ((repeat' (first | refine gW ?_ | (refine gIf ?_ ?_ <;> (intro hc; try exact gX)) | with_reducible refine br_intro ?_ ?_ | (with_reducible intro _; try exact gX) | with_reducible refine ands_intro ?_ ?_ | refine cx (c3) ?_)) <;> (try exact gF))
        exact ⟨_, by exact cvS hn (.own 0 12 rfl .nil), rfl⟩
      rintro _ rfl
      refine hwp_seq ?_
      refine hwp_block ?_
      refine hwp_loop_cut (fun s' => s' = ⟨lk [(8, .raw (.int .u32 s)), (9, .sl vs.length false (ints .u32 vs)), (10, .raw (.int .u64 (vs.getD (ys.length - 1) 0))), (12, .own 0 0 us.length fl), (13, .sl us.length false (ints .u32 us)), (14, .raw (.int .i64 k)), (11, .sl ts.length false (ints .u32 ts)), (16, .raw (.int .u64 q)), (17, .sl (dig (D * q)).length false (ints .u32 (dig (D * q))))], hlk [(0, { al := true, live := true, wb := true, grow := true, elem := 62, sz := 1, cells := ints .u32 out })], 1, 173⟩) (fun s h => exit_in (normal_then h)) ?_ ?_
      · refine hwp_loopS (fun g : Int => ⟨lk [(8, .raw (.int .u32 s)), (9, .sl vs.length false (ints .u32 vs)), (10, .raw (.int .u64 (vs.getD (ys.length - 1) 0))), (12, .own 0 0 us.length fl), (13, .sl us.length false (ints .u32 us)), (14, .raw (.int .i64 k)), (11, .sl ts.length false (ints .u32 ts)), (16, .raw (.int .u64 g)), (17, .sl (dig (D * g)).length false (ints .u32 (dig (D * g))))], hlk [(0, { al := true, live := true, wb := true, grow := true, elem := 62, sz := 1, cells := ints .u32 out })], 1, 173⟩)
          (fun g => q ≤ g ∧ g ≤ 999999999) (fun g => g.toNat) ⟨g0, ⟨hg1, hg2⟩, by exact cvS hn (.own 0 12 rfl .nil)⟩ ?_
        rintro g ⟨f1, f2⟩
        have f3 : 0 ≤ D * g := Int.mul_nonneg (by omega) (by omega)
        have f4 := pl g (by omega) f2
        rcases Int.lt_or_le t (D * g) with f5 | f5
        · have f6 : q ≤ g - 1 := by
            rcases Int.lt_or_le q g with f7 | f7
            · omega
            · have : g = q := by omega
              subst this
              rw [Int.mul_comm] at f5; omega
          have f8 : D ≤ D * g := by
            have : D * 1 ≤ D * g := Int.mul_le_mul_of_nonneg_left (by omega) (by omega)
            omega
          have f9 : D * g - D = D * (g - 1) := by rw [Int.mul_sub, Int.mul_one]
          ((repeat' (first | refine gW ?_ | (refine gIf ?_ ?_ <;> (intro hc; try exact gX)) | with_reducible refine br_intro ?_ ?_ | (with_reducible intro _; try exact gX) | with_reducible refine ands_intro ?_ ?_ | refine cx (rcompare_e (r := 1) (u := D * g) (v := t) (by rfl) (by rfl) rfl hts.symm f3 t0 (by omega) (by omega) (cmpI_gt f5)) ?_ | refine cx (rminus_e (u := D * g) (v := D) (w := D * (g - 1)) (zs := dig (D * (g - 1))) (by rfl) (by rfl) rfl hvs.symm (by omega) (by omega) f8 f9 rfl) ?_)) <;> (try exact gF))
          exact ⟨g - 1, by omega, ⟨f6, by omega⟩, by exact cvS hn (.own 0 12 rfl .nil)⟩
        · obtain ⟨c, hcc, hc0, hc1⟩ := cmpI_le0 f5
          have f6 : g = q := by
            have : g ≤ q := by
              have h1 : g * D < (q + 1) * D := by rw [Int.mul_comm g]; omega
              have := Int.lt_of_mul_lt_mul_right h1 (by omega)
              omega
            omega
          subst f6
          ((repeat' (first | refine gW ?_ | (refine gIf ?_ ?_ <;> (intro hc; try exact gX)) | with_reducible refine br_intro ?_ ?_ | (with_reducible intro _; try exact gX) | with_reducible refine ands_intro ?_ ?_ | refine cx (rcompare_e (u := D * g) (v := t) (by rfl) (by rfl) rfl hts.symm f3 t0 (by omega) (by omega) hcc) ?_)) <;> (try exact gF))
          exact ⟨rfl, _, by exact cvS hn (.own 0 12 rfl .nil), rfl⟩
      · rintro _ rfl
        have f4 := pl q hqn (by omega)
        have f5 : 0 ≤ D * q := Int.mul_nonneg (by omega) hqn
        have f6 : D * q ≤ t := by rw [Int.mul_comm]; exact q1
        have f7 : 0 ≤ t - D * q := by omega
        have f8 : t - D * q < D := by rw [Int.add_mul, Int.one_mul, Int.mul_comm] at q2; omega
        ((repeat' (first | refine gW ?_ | (refine gIf ?_ ?_ <;> (intro hc; try exact gX)) | with_reducible refine br_intro ?_ ?_ | (with_reducible intro _; try exact gX) | with_reducible refine ands_intro ?_ ?_ | refine cx (rminus_e (u := t) (v := D * q) (w := t - D * q) (zs := dig (t - D * q)) (by rfl) (by rfl) hts.symm rfl f5 (by omega) f6 rfl rfl) ?_)) <;> (try exact gF))
        have e1 : (out.set k q).take us.length = (out.take us.length).set k q := List.take_set
        have e2 : (out.take us.length).length = us.length := by rw [List.length_take]; omega
        exact ⟨(k, false, t - D * q, out.set k q), by simp only; omega, ⟨by simp only; omega, by simp [g2], by simp only; rw [e1]; exact byWord_lim (by omega) g3 hqn hqB, f7, f8, by simp only; rw [e1]; exact byWord_step (by omega) g6 rfl q _ (by rw [ht, Int.mul_comm]; omega)⟩, by exact cvS hn (.own 0 12 rfl .nil)⟩
end Go.Proofs.YtfmebdmgnmogaaaGreatDoor
