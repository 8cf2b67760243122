/- The contract of division of limbs. No statement of its own. -/
import Derived.Test.YtfmebdmgnmogaaaGreatDoorQI17
set_option linter.unusedVariables false
set_option linter.unusedSimpArgs false
set_option linter.unusedSimpArgs false
set_option linter.unusedVariables false
set_option maxRecDepth 100000
set_option maxHeartbeats 8000000
namespace Go.Proofs.YtfmebdmgnmogaaaGreatDoor
open Go Go.RowKit Hv

/-- A loop left by one way alone, with what holds there. -/
theorem hwp_loop_cut {C : Ctx} {st : HS} {c rest : Code} {Q Q2 : Exit → HS → Prop} {id : Nat} (M : HS → Prop) (hQ : ∀ s, hwp C rest Q2 s → Q (.exit id) s)
    (hx : hwp C (.loop c) (fun e s => e = .exit id ∧ ∃ s', Cov C.n0 s s' ∧ M s') st) (hy : ∀ s, M s → hwp C rest Q2 s) : hwp C (.loop c) Q st :=
  hwp_mono hx (fun e s ⟨h1, s', h2, h3⟩ => by subst h1; exact hQ s (hwp_cov h2 (hy s' h3)))

theorem kn_at {us vs : List Int} {k n : Nat} (h2 : 2 ≤ n) (hus : Lim us) (hvs : Lim vs) (hvl : vs.length = n) (hk : k + n < us.length) (hR : V (us.drop (k + 1)) < V vs) (hv : 500000000 ≤ vs.getD (n - 1) 0) :
    Kn (V (us.drop k)) (V vs) (V (us.drop k) / V vs) (us.getD (k + n) 0) (us.getD (k + n - 1) 0) (us.getD (k + n - 2) 0) (vs.getD (n - 1) 0) (vs.getD (n - 2) 0) ∧ V (us.drop (k + n + 1)) = 0 ∧ V (us.drop k) < 1000000000 * V vs := by
  obtain ⟨m, rfl⟩ : ∃ m, n = m + 2 := ⟨n - 2, by omega⟩
  exact kn_of hus hvs hvl hk hR hv
theorem subtract_e {n m : Nat} {us vs cs : List Int} {d : Int} {r : Bool} (hn : n = us.length) (hm : m = vs.length) (hu : Lim us) (hv : Lim vs) (hle : vs.length ≤ us.length) (h0 : 0 ≤ d) (h1 : d ≤ 1000000000) (hl : us.length ≤ 1000000)
    (hr : decide (V us < V vs * d) = r) (hc : limbsN us.length ((V us - V vs * d) % P9 us.length) = cs) :
    HCallsD Tryz.prog 121 [rowB us] [.own 0 0 n false, .sl m false (ints .u32 vs), .raw (.int .u64 d)] (.raw (.bool r)) [rowB cs] := by
  subst hr hc; exact subtract_c hn hm hu hv hle h0 h1 hl
theorem restore_e {n m : Nat} {us vs cs : List Int} (hn : n = us.length) (hm : m = vs.length) (hu : Lim us) (hv : Lim vs) (hle : vs.length ≤ us.length) (hl : us.length ≤ 1000000)
    (hc : limbsN us.length ((V us + V vs) % P9 us.length) = cs) :
    HCallsD Tryz.prog 122 [rowB us] [.own 0 0 n false, .sl m false (ints .u32 vs)] .any [rowB cs] := by
  subst hc
  have h := restore_c hn hm hu hv hle hl
  exact ⟨h.1, fun X m w vs h1 h2 h3 h4 h5 => (h.2 X m w vs h1 h2 h3 h4 h5).mono fun e w' ⟨v, m', k1, k2, k3, k4, k5⟩ => ⟨v, m', k1, k2, k3, .any v, k5⟩⟩
theorem times_eT {n m : Nat} {xs ys cs : List Int} {k : Nat} (hn : n = xs.length) (hm : m = ys.length) (hx : Lim xs) (hy : Lim ys) (hlx : xs.length ≤ 400000) (hly : ys.length ≤ 400000) (hk : xs.length + ys.length = k) (hc : limbsN (xs.length + ys.length) (V xs * V ys) = cs) :
    HCallsD Tryz.prog 115 [] [.sl n false (ints .u32 xs), .sl m false (ints .u32 ys)] (.sl k true (ints .u32 cs)) [] := by subst hk hc; exact times_cT hn hm hx hy hlx hly
theorem byWord_e {n k : Nat} {xs qs : List Int} {d r : Int} (hn : n = xs.length) (hx : Lim xs) (h0 : 0 < d) (h1 : d < 1000000000) (hl : xs.length ≤ 1000000) (hk : xs.length = k) (hq : limbsN xs.length (V xs / d) = qs) (hr : V xs % d = r) : HCallsD Tryz.prog 120 [] [.sl n false (ints .u32 xs), .raw (.int .u32 d)]
    (.tup [.sl k false (ints .u32 qs), .sl 1 false (ints .u32 [r])]) [] := by subst hk hq hr; exact byWord_c hn hx h0 h1 hl

/-- The window behind the change of one round. -/
theorem window {us cs : List Int} {k n : Nat} (hk : k + n + 1 ≤ us.length) (hz : V (us.drop (k + n + 1)) = 0) (hcl : cs.length = n + 1) :
    (splice us k cs).length = us.length ∧ (splice us k cs).take k = us.take k ∧ V ((splice us k cs).drop k) = V cs ∧ V ((us.drop k).take (n + 1)) = V (us.drop k) := by
  unfold splice
  have hl : (us.take k).length = k := by rw [List.length_take]; omega
  refine ⟨?_, ?_, ?_, ?_⟩
  · simp only [List.length_append, List.length_take, List.length_drop]; omega
  · rw [List.append_assoc, List.take_append_of_le_length (by omega), List.take_of_length_le (by omega)]
  · rw [List.append_assoc, List.drop_append_of_le_length (by omega), List.drop_of_length_le (by omega), List.nil_append, V_append, hcl, show k + (n + 1) = k + n + 1 by omega, hz, Int.mul_zero, Int.add_zero]
  · rw [V_split (us.drop k) (n + 1) (by rw [List.length_drop]; omega), List.drop_drop, show k + (n + 1) = k + n + 1 by omega, hz, Int.mul_zero, Int.add_zero]
theorem splice_lim {us cs : List Int} {k : Nat} (hu : Lim us) (hc : Lim cs) : Lim (splice us k cs) := by
  unfold splice; exact ((hu.take k).app hc).app (hu.drop _)

theorem divide_c {n m : Nat} {xs ys : List Int} {u v : Int} (hn : n = xs.length) (hm : m = ys.length) (hx : xs = dig u) (hy : ys = dig v) (hu : 0 ≤ u) (hv : 0 < v) (hlx : xs.length ≤ 200000) (hly : ys.length ≤ 200000) :
    ∃ qs rs : List Int, Lim qs ∧ Lim rs ∧ V qs = u / v ∧ V rs = u % v ∧ qs.length ≤ xs.length + 2 ∧ rs.length ≤ xs.length + ys.length + 1 ∧
      HCallsD Tryz.prog 94 [] [.sl n false (ints .u32 xs), .sl m false (ints .u32 ys)] (.tup [.sl qs.length false (ints .u32 qs), .sl rs.length false (ints .u32 rs)]) [] := by
  subst hn hm
  have lx : Lim xs := hx ▸ dig_lim u
  have ly : Lim ys := hy ▸ dig_lim v
  have vx : V xs = u := by rw [hx, dig_V hu]
  have vy : V ys = v := by rw [hy, dig_V (by omega)]
  have hyp : 0 < ys.length := by rw [hy]; exact dig_len_pos hv
  have tx := trim_e (n := xs.length) (ys := xs) (by rfl) (by omega) lx (by rw [vx, ← hx])
  have ty := trim_e (n := ys.length) (ys := ys) (by rfl) (by omega) ly (by rw [vy, ← hy])
  have q0 := div_nonneg' hu (Int.le_of_lt hv)
  have r0 := Int.emod_nonneg u (show v ≠ 0 by omega)
  have r1 := Int.emod_lt_of_pos u hv
  have hdm := Int.emod_add_mul_ediv u v
  rcases Nat.lt_or_ge 1 ys.length with h1 | h1
  · rcases Int.lt_or_le u v with huv | huv
    · have d0 : u / v = 0 := Int.ediv_eq_zero_of_lt hu huv
      have d1 : u % v = u := Int.emod_eq_of_lt hu huv
      refine ⟨[], xs, .nil, lx, by rw [d0]; rfl, by rw [d1, vx], by simp, by omega, ?_⟩
      have hpos : 0 < xs.length ∨ xs.length = 0 := by omega
      refine cp2 (rs := [.tmp 4, .tmp 5]) (nt := 179) Tryz.func94 (fun C hP hn => ?_)
      ((repeat' (first | refine gW ?_ | (refine gIf ?_ ?_ <;> (intro hc; try exact gX)) | with_reducible refine br_intro ?_ ?_ | (with_reducible intro _; try exact gX) | with_reducible refine ands_intro ?_ ?_ | refine cx (tx) ?_ | refine cx (ty) ?_ | refine cx (compare_e (r := -1) (u := u) (v := v) (by rfl) (by rfl) hx hy hu (by omega) (by omega) (by omega) (cmpI_lt huv)) ?_)) <;> (try exact gF))
      exact rqq2 rT rT
    · have ylast : lastOk ys := hy ▸ dig_last v
      obtain ⟨s, hs⟩ : ∃ s, 1000000000 / (ys.getD (ys.length - 1) 0 + 1) = s := ⟨_, rfl⟩
      obtain ⟨s1, s2, hvl, hv5, hvV, _⟩ := scaled (n := ys.length - 1) ly ylast (by omega) hs.symm
      rw [vy] at hvl hv5 hvV
      rw [show ys.length - 1 + 1 = ys.length by omega] at hvl
      have b1 := ly.getA (ys.length - 1)
      obtain ⟨vs, hvs⟩ : ∃ vs, dig (v * s) = vs := ⟨_, rfl⟩
      rw [hvs] at hvl hv5 hvV
      have lv : Lim vs := hvs ▸ dig_lim _
      have hD : 0 < v * s := Int.mul_pos hv (by omega)
      have e1 : V [s] = s := by simp [V]
      have l1 : Lim [s] := .cons (by omega) (by omega) .nil
      have us0 : 0 ≤ u * s := Int.mul_nonneg hu (by omega)
      have usl : u * s < P9 (xs.length + 1) := by
        have := (mul_lt lx l1).2
        rw [vx, e1] at this; exact this
      have vsl : v * s < P9 (ys.length + 1) := by
        have := (mul_lt ly l1).2
        rw [vy, e1] at this; exact this
      have t1 := times_eT (n := xs.length) (m := 1) (ys := [s]) (k := xs.length + 1) (cs := limbsN (xs.length + 1) (u * s)) rfl rfl lx l1 (by omega) (by simp) rfl (by rw [vx, e1]; rfl)
      have t2 := times_eT (n := ys.length) (m := 1) (ys := [s]) (k := ys.length + 1) (cs := limbsN (ys.length + 1) (v * s)) rfl rfl ly l1 (by omega) (by simp) rfl (by rw [vy, e1]; rfl)
      have t3 := trim_e (n := ys.length + 1) (xs := limbsN (ys.length + 1) (v * s)) (ys := vs) (by rw [limbsN_length]) (by rw [limbsN_length]; omega) (limbsN_lim _ _) (by rw [limbsN_V (by omega) vsl, hvs])
      have uu := limbsN_V us0 usl
      have ul := limbsN_lim (xs.length + 1) (u * s)
      have hle : ys.length ≤ xs.length := by rw [hx, hy]; exact dig_le (by omega) huv
      obtain ⟨N, hN⟩ : ∃ N, xs.length + 2 = N + ys.length := ⟨xs.length + 2 - ys.length, by omega⟩
      have hN' : ((xs.length : Int) + 1 + 1 - (ys.length : Int)).toNat = N := by omega
      have uq : u * s / (v * s) = u / v := scale_div (by omega) hv
      have ur : u * s % (v * s) = (u % v) * s := scale_mod (by omega) hv
      have vlt := V_lt lv
      rw [hvV, hvl] at vlt
      have a2 : P9 (ys.length - 1) ≤ v * s := by
        have t := top_limb (ys := vs) (n := ys.length - 1) (by omega)
        have z := V_nonneg (lv.take (ys.length - 1))
        have z2 : P9 (ys.length - 1) * 1 ≤ P9 (ys.length - 1) * vs.getD (ys.length - 1) 0 := Int.mul_le_mul_of_nonneg_left (by omega) (Int.le_of_lt (P9_pos _))
        omega
      have hqN : V (limbsN N (u / v)) = u / v := limbsN_V q0 (by
        have a1 : P9 (xs.length + 1) ≤ P9 N * P9 (ys.length - 1) := by rw [← P9_add, show N + (ys.length - 1) = xs.length + 1 by omega]; exact Int.le_refl _
        rw [← uq]
        refine Int.ediv_lt_of_lt_mul hD ?_
        have a3 : P9 N * P9 (ys.length - 1) ≤ P9 N * (v * s) := Int.mul_le_mul_of_nonneg_left a2 (Int.le_of_lt (P9_pos _))
        omega)
      have rs0 : 0 ≤ u % v * s := Int.mul_nonneg r0 (by omega)
      have rs1 : u % v * s < v * s := Int.mul_lt_mul_of_pos_right r1 (by omega)
      have rle : u % v ≤ u % v * s := by
        have : u % v * 1 ≤ u % v * s := Int.mul_le_mul_of_nonneg_left s1 r0
        omega
      have rlen := dig_len (v := u % v * s) (n := ys.length) (by omega)
      have hrN : V (limbsN (dig (u % v * s)).length (u % v)) = u % v := limbsN_V r0 (by
        have := V_lt (dig_lim (u % v * s))
        rw [dig_V rs0] at this
        omega)
      refine ⟨limbsN N (u / v), limbsN (dig (u % v * s)).length (u % v), limbsN_lim _ _, limbsN_lim _ _, hqN, hrN, by rw [limbsN_length]; omega, by rw [limbsN_length]; omega, ?_⟩
      rw [limbsN_length, limbsN_length]
      have c3 := compare_c (n := xs.length) (m := ys.length) (by rfl) (by rfl) hx hy hu (by omega) (by omega) (by omega)
      obtain ⟨r, hr, hr0, hr1⟩ := cmpI_ge0 huv
      rw [hr] at c3
      refine cp2 (rs := [.tmp 4, .tmp 5]) (nt := 179) Tryz.func94 (fun C hP hn => ?_)
      (have hXx := And.intro @hs (And.intro @limbsN_length (@hN')); (repeat' (first | refine gWx ?_ | (refine gIf ?_ ?_ <;> (intro hc; try exact gX)) | with_reducible refine br_intro ?_ ?_ | (with_reducible intro _; try exact gX) | with_reducible refine ands_intro ?_ ?_ | refine cx (tx) ?_ | refine cx (ty) ?_ | refine cx (c3) ?_ | refine cx (t1) ?_ | refine cx (t2) ?_ | refine cx (t3) ?_)) <;> ((try clear hXx); try exact gF))
      clear tx ty c3 t1 t2 t3
      refine hwp_loopS (fun x : Nat × List Int × List Int => ⟨lk [(6, .raw (.int .i64 ys.length)), (7, .raw (.int .u32 s)), (8, .own 0 0 (xs.length + 2) false), (9, .sl vs.length false (ints .u32 vs)), (10, .own 1 0 N true), (11, .raw (.int .i64 (x.1 - 1)))],
          hlk [(0, { al := true, live := true, wb := true, grow := true, elem := 62, sz := 1, cells := ints .u32 x.2.1 }), (1, { al := true, live := true, wb := true, grow := true, elem := 62, sz := 1, cells := ints .u32 x.2.2 })], 2, 179⟩)
        (fun x => x.1 ≤ N ∧ x.2.1.length = xs.length + 2 ∧ x.2.2.length = N ∧ Lim x.2.1 ∧ Lim x.2.2 ∧ V x.2.1 + V vs * V x.2.2 = u * s ∧ V (x.2.1.drop x.1) < V vs ∧ ∀ j, j < x.1 → x.2.2.getD j 0 = 0) (fun x => x.1)
        ⟨(N, limbsN (xs.length + 1) (u * s) ++ [0], List.replicate N 0), ⟨Nat.le_refl _, by simp [limbsN_length], by simp, ul.snoc (by omega) (by omega), Lim.zeros _, ?_, ?_, ?_⟩, by exact cvS hn (.own 0 8 rfl (.own 1 10 rfl .nil))⟩ ?_
      · simp only; rw [V_snoc, V_zeros, uu]; omega
      · simp only
        rw [hvV, List.drop_append_of_le_length (by rw [limbsN_length]; omega), V_snoc, Int.mul_zero, Int.add_zero]
        have q1 := V_lt (ul.drop N)
        rw [List.length_drop, limbsN_length, show xs.length + 1 - N = ys.length - 1 by omega] at q1
        omega
      · intro j hj
        simp only at hj ⊢
        simp [List.getD, List.getElem?_replicate, hj]
      rintro ⟨k', us, qs⟩ ⟨g1, g2, g3, g4, g5, g6, g7, g8⟩
      simp only at g1 g2 g3 g4 g5 g6 g7 g8
      rcases Nat.eq_zero_or_pos k' with hk | hk
      · subst hk
        rw [List.drop_zero] at g7
        have u0 := V_nonneg g4
        rw [hvV] at g6 g7
        have d1 : V qs = u / v := by
          rw [← uq]; exact (div_eq (by rw [Int.mul_comm (V qs)]; omega) (by rw [Int.add_mul, Int.one_mul, Int.mul_comm (V qs)]; omega) hD).symm
        have d2 : V us = u % v * s := by
          rw [← ur, Int.emod_def, uq, ← d1]; omega
        have d3 := limbsN_eq g5 g3 d1
        have d4 := (high_zero (us := us) (m := ys.length) g4 (by omega) (by omega)).2
        have t4 := trim_e (n := ys.length) (xs := us.take ys.length) (ys := dig (u % v * s)) (by rw [List.length_take]; omega) (by rw [List.length_take]; omega) (g4.take _) (by rw [d4, d2])
        have b5 := byWord_e (n := (dig (u % v * s)).length) (k := (dig (u % v * s)).length) (xs := dig (u % v * s)) (d := s) (qs := limbsN (dig (u % v * s)).length (u % v)) (r := 0) rfl (dig_lim _) (by omega) (by omega) (by omega) rfl (by rw [dig_V rs0, Int.mul_ediv_cancel _ (by omega)]) (by rw [dig_V rs0, Int.mul_emod_left])
        rw [← d3]
        ((repeat' (first | refine gW ?_ | (refine gIf ?_ ?_ <;> (intro hc; try exact gX)) | with_reducible refine br_intro ?_ ?_ | (with_reducible intro _; try exact gX) | with_reducible refine ands_intro ?_ ?_ | refine cx (t4) ?_ | refine cx (b5) ?_)) <;> (try exact gF))
        exact rqq2 rT rT
      · obtain ⟨k, rfl⟩ : ∃ k, k' = k + 1 := ⟨k' - 1, by omega⟩
        have ek : ((k + 1 : Nat) : Int) - 1 = (k : Int) := by omega
        simp only [ek]
        obtain ⟨K, z1, z2⟩ := kn_at (us := us) (vs := vs) (k := k) (n := ys.length) (by omega) g4 lv hvl (by omega) g7 hv5
        have i1 : ((k : Int) + (ys.length : Int)).toNat = k + ys.length := by omega
        have i2 : ((k : Int) + (ys.length : Int) - 1).toNat = k + ys.length - 1 := by omega
        have i3 : ((k : Int) + (ys.length : Int) - 2).toNat = k + ys.length - 2 := by omega
        have i4 : ((ys.length : Int) - 2).toNat = ys.length - 2 := by omega
        have k1 := K.bu1
        have k2 := K.bu2
        have k3 := K.bu3
        have k4 := K.bv1
        have k5 := K.bv2
        obtain ⟨f1, f2, f3, f4, f5⟩ := K.first rfl rfl rfl
        have k6 := K.q0
        have k7 := K.qB
        obtain ⟨q, hq⟩ : ∃ q, V (us.drop k) / V vs = q := ⟨_, rfl⟩
        rw [hq] at K k6 k7 f1
        (have hXx := And.intro @i1 (And.intro @i2 (And.intro @i3 (@i4))); (repeat' (first | refine gWx ?_ | (refine gIf ?_ ?_ <;> (intro hc; try exact gX)) | with_reducible refine br_intro ?_ ?_ | (with_reducible intro _; try exact gX) | with_reducible refine ands_intro ?_ ?_)) <;> ((try clear hXx); try exact gF))
        refine hwp_loop_cut (fun s' => ∃ g : Int, q ≤ g ∧ g ≤ q + 1 ∧ s' = ⟨lk [(6, .raw (.int .i64 ys.length)), (7, .raw (.int .u32 s)), (8, .own 0 0 (xs.length + 2) false), (9, .sl vs.length false (ints .u32 vs)), (10, .own 1 0 N true), (11, .raw (.int .i64 k)), (13, .raw (.int .u64 g))],
          hlk [(0, { al := true, live := true, wb := true, grow := true, elem := 62, sz := 1, cells := ints .u32 us }), (1, { al := true, live := true, wb := true, grow := true, elem := 62, sz := 1, cells := ints .u32 qs })], 2, 179⟩)
          (fun s h => exit_in (normal_then h)) ?_ ?_
        · refine hwp_loopS (fun x : Int × Int => ⟨lk [(6, .raw (.int .i64 ys.length)), (7, .raw (.int .u32 s)), (8, .own 0 0 (xs.length + 2) false), (9, .sl vs.length false (ints .u32 vs)), (10, .own 1 0 N true), (11, .raw (.int .i64 k)), (13, .raw (.int .u64 x.1)), (14, .raw (.int .u64 x.2))],
            hlk [(0, { al := true, live := true, wb := true, grow := true, elem := 62, sz := 1, cells := ints .u32 us }), (1, { al := true, live := true, wb := true, grow := true, elem := 62, sz := 1, cells := ints .u32 qs })], 2, 179⟩)
            (fun x => q ≤ x.1 ∧ x.1 ≤ 1000000001 ∧ x.1 * vs.getD (ys.length - 1) 0 + x.2 = us.getD (k + ys.length) 0 * 1000000000 + us.getD (k + ys.length - 1) 0 ∧ 0 ≤ x.2 ∧ x.2 < 1000000000) (fun x => x.1.toNat)
            ⟨(_, _), ⟨f1, f2, f3, f4, f5⟩, by exact cvS hn (.own 0 8 rfl (.own 1 10 rfl .nil))⟩ ?_
          clear f1 f2 f3 f4 f5
          rintro ⟨g, r⟩ ⟨f1, f2, f3, f4, f5⟩
          simp only at f1 f2 f3 f4 f5
          have p0 : 0 ≤ g * vs.getD (ys.length - 2) 0 := Int.mul_nonneg (by omega) k5.1
          have p1 : g * vs.getD (ys.length - 2) 0 ≤ 1000000001 * 999999999 := Int.mul_le_mul f2 (by omega) k5.1 (by omega)
          (have hXx := And.intro @i1 (And.intro @i2 (And.intro @i3 (@i4))); (repeat' (first | refine gWx ?_ | (refine gIf ?_ ?_ <;> (intro hc; try exact gX)) | with_reducible refine br_intro ?_ ?_ | (with_reducible intro _; try exact gX) | with_reducible refine ands_intro ?_ ?_)) <;> ((try clear hXx); try exact gF))
          · have c0 := K.step rfl f3 (by omega)
            have c1 : (g - 1) * vs.getD (ys.length - 1) 0 + (r + vs.getD (ys.length - 1) 0) = us.getD (k + ys.length) 0 * 1000000000 + us.getD (k + ys.length - 1) 0 := by rw [Int.sub_mul, Int.one_mul]; omega
            exact ⟨rfl, _, by exact cvS hn (.own 0 8 rfl (.own 1 10 rfl .nil)), g - 1, c0, K.brk rfl c1 (by omega) (by omega) (by omega), rfl⟩
          · have c0 := K.step rfl f3 (by omega)
            have c1 : (g - 1) * vs.getD (ys.length - 1) 0 + (r + vs.getD (ys.length - 1) 0) = us.getD (k + ys.length) 0 * 1000000000 + us.getD (k + ys.length - 1) 0 := by rw [Int.sub_mul, Int.one_mul]; omega
            exact ⟨(g - 1, r + vs.getD (ys.length - 1) 0), by simp only; omega, ⟨c0, by simp only; omega, c1, by simp only; omega, by simp only; omega⟩, by exact cvS hn (.own 0 8 rfl (.own 1 10 rfl .nil))⟩
          · exact ⟨rfl, _, by exact cvS hn (.own 0 8 rfl (.own 1 10 rfl .nil)), g, f1, K.done rfl f3 (by omega) (by omega), rfl⟩
          · have c0 := K.step rfl f3 (by omega)
            have c1 : (g - 1) * vs.getD (ys.length - 1) 0 + (r + vs.getD (ys.length - 1) 0) = us.getD (k + ys.length) 0 * 1000000000 + us.getD (k + ys.length - 1) 0 := by rw [Int.sub_mul, Int.one_mul]; omega
            exact ⟨rfl, _, by exact cvS hn (.own 0 8 rfl (.own 1 10 rfl .nil)), g - 1, c0, K.brk rfl c1 (by omega) (by omega) (by omega), rfl⟩
          · have c0 := K.step rfl f3 (by omega)
            have c1 : (g - 1) * vs.getD (ys.length - 1) 0 + (r + vs.getD (ys.length - 1) 0) = us.getD (k + ys.length) 0 * 1000000000 + us.getD (k + ys.length - 1) 0 := by rw [Int.sub_mul, Int.one_mul]; omega
            exact ⟨(g - 1, r + vs.getD (ys.length - 1) 0), by simp only; omega, ⟨c0, by simp only; omega, c1, by simp only; omega, by simp only; omega⟩, by exact cvS hn (.own 0 8 rfl (.own 1 10 rfl .nil))⟩
        · rintro s' ⟨g, hg1, hg2, rfl⟩
          have hWl := K.lo
          have hWh := K.hi
          have hP9 := P9_pos (ys.length + 1)
          have hwl : ((us.drop k).take (ys.length + 1)).length = ys.length + 1 := by rw [List.length_take, List.length_drop]; omega
          obtain ⟨cs, hcs⟩ : ∃ cs, limbsN (ys.length + 1) (V (us.drop k) - V vs * q) = cs := ⟨_, rfl⟩
          have w0 : 0 ≤ V (us.drop k) - V vs * q := by rw [Int.mul_comm]; omega
          have w1 : V (us.drop k) - V vs * q < V vs := by rw [Int.add_mul, Int.one_mul, Int.mul_comm] at hWh; omega
          have w2 : V (us.drop k) - V vs * q < P9 (ys.length + 1) := by simp only [P9]; omega
          have hcl : cs.length = ys.length + 1 := by rw [← hcs, limbsN_length]
          have hcL : Lim cs := hcs ▸ limbsN_lim _ _
          have hcV : V cs = V (us.drop k) - V vs * q := by rw [← hcs]; exact limbsN_V w0 w2
          obtain ⟨n1, n2, n3, n4⟩ := window (us := us) (cs := cs) (k := k) (n := ys.length) (by omega) z1 hcl
          have i5 : ((k : Int) + (ys.length : Int) + 1 - (k : Int)).toNat = ys.length + 1 := by omega
          have i6 : List.take (ys.length + 1) cs = cs := List.take_of_length_le (by omega)
          have fin : Lim (splice us k cs) ∧ V (splice us k cs) + V vs * V (qs.set k q) = u * s ∧ V ((splice us k cs).drop k) < V vs := by
            refine ⟨splice_lim g4 hcL, ?_, by rw [n3, hcV]; exact w1⟩
            exact round_V g6 (by omega) (by omega) (g8 k (by omega)) n1 n2 (by rw [n3, hcV])
          have hqz : ∀ j, j < k → (qs.set k q).getD j 0 = 0 := fun j hj => by
            have := g8 j (by omega)
            simp only [List.getD] at this ⊢
            rw [List.getElem?_set_ne (by omega)]; exact this
          rcases Int.lt_or_le q g with hgq | hgq
          · have hgq' : g = q + 1 := by omega
            subst hgq'
            have em : V vs * (q + 1) = V vs * q + V vs := by rw [Int.mul_add, Int.mul_one]
            have hng : (V (us.drop k) - V vs * (q + 1)) % P9 (ys.length + 1) = V (us.drop k) - V vs * q - V vs + P9 (ys.length + 1) := by
              rw [← Int.add_mul_emod_self_left _ _ 1, Int.mul_one, em, Int.emod_eq_of_lt (by simp only [P9]; omega) (by omega)]; omega
            obtain ⟨ds, hds⟩ : ∃ ds, limbsN (ys.length + 1) (V (us.drop k) - V vs * q - V vs + P9 (ys.length + 1)) = ds := ⟨_, rfl⟩
            have hdl : ds.length = ys.length + 1 := by rw [← hds, limbsN_length]
            have hdL : Lim ds := hds ▸ limbsN_lim _ _
            have hdV : V ds = V (us.drop k) - V vs * q - V vs + P9 (ys.length + 1) := by rw [← hds]; exact limbsN_V (by simp only [P9]; omega) (by omega)
            have hmd : (V ds + V vs) % P9 ds.length = V (us.drop k) - V vs * q := by
              rw [hdV, hdl, show V (us.drop k) - V vs * q - V vs + P9 (ys.length + 1) + V vs = V (us.drop k) - V vs * q + P9 (ys.length + 1) * 1 by omega, Int.add_mul_emod_self_left, Int.emod_eq_of_lt w0 w2]
            have sb := subtract_e (n := ys.length + 1) (m := vs.length) (us := (us.drop k).take (ys.length + 1)) (vs := vs) (cs := ds) (d := q + 1) (r := true) hwl.symm rfl ((g4.drop _).take _) lv (by omega) (by omega) (by omega) (by omega) (decide_eq_true (by rw [n4]; omega)) (by rw [hwl, n4, hng, hds])
            have rb := restore_e (n := ys.length + 1) (m := vs.length) (us := ds) (vs := vs) (cs := cs) hdl.symm rfl hdL lv (by omega) (by omega) (by rw [hmd, hdl, hcs])
            unfold rowB at sb rb
            obtain ⟨p1, p2, p3, p4⟩ := window (us := us) (cs := ds) (k := k) (n := ys.length) (by omega) z1 hdl
            have i7 : ((splice us k ds).drop k).take (ys.length + 1) = ds := by
              unfold splice
              rw [List.append_assoc, List.drop_append_of_le_length (by rw [List.length_take]; omega), List.drop_of_length_le (by rw [List.length_take]; omega), List.nil_append, List.take_append_of_le_length (by omega), List.take_of_length_le (by omega)]
            have i8 : splice (splice us k ds) k cs = splice us k cs := by
              have hkl : (us.take k).length = k := by rw [List.length_take]; omega
              have e : splice (splice us k ds) k cs = (splice us k ds).take k ++ cs ++ (splice us k ds).drop (k + cs.length) := rfl
              rw [e, p2]
              unfold splice
              rw [hcl, hdl]
              congr 1
              rw [List.append_assoc, List.drop_append, hkl, List.drop_of_length_le (by omega), List.nil_append, show k + (ys.length + 1) - k = ys.length + 1 by omega, List.drop_append, hdl, List.drop_of_length_le (by omega), List.nil_append, Nat.sub_self, List.drop_zero]
            have p5 : (splice us k ds).length = us.length := p1
            (have hXx := And.intro @i5 (And.intro @i6 (And.intro @i7 (And.intro @i8 (And.intro @p5 (And.intro @ints_splice_all (And.intro @List.set_cons_zero.{0} (And.intro @List.set_cons_succ.{0} (@Int.add_sub_cancel)))))))); (repeat' (first | refine gWBx ?_ | (refine gIf ?_ ?_ <;> (intro hc; try exact gX)) | with_reducible refine br_intro ?_ ?_ | (with_reducible intro _; try exact gX) | with_reducible refine ands_intro ?_ ?_ | refine cxB (sb) ?_ | refine cxB (rb) ?_)) <;> ((try clear hXx); try exact gF))
            exact ⟨(k, splice us k cs, qs.set k q), by simp only; omega, ⟨by simp only; omega, by simp only; omega, by simp [g3], fin.1, g5.set k6 k7, fin.2.1, fin.2.2, hqz⟩, by exact cvS hn (.own 0 8 rfl (.own 1 10 rfl .nil))⟩
          · have hgq' : g = q := by omega
            subst hgq'
            have sb := subtract_e (n := ys.length + 1) (m := vs.length) (us := (us.drop k).take (ys.length + 1)) (vs := vs) (cs := cs) (d := g) (r := false) hwl.symm rfl ((g4.drop _).take _) lv (by omega) (by omega) (by omega) (by omega) (decide_eq_false (by rw [n4]; omega)) (by rw [hwl, n4, Int.emod_eq_of_lt w0 w2, hcs])
            unfold rowB at sb
            (have hXx := And.intro @i5 (And.intro @i6 (And.intro @ints_splice_all (And.intro @List.set_cons_zero.{0} (@List.set_cons_succ.{0})))); (repeat' (first | refine gWBx ?_ | (refine gIf ?_ ?_ <;> (intro hc; try exact gX)) | with_reducible refine br_intro ?_ ?_ | (with_reducible intro _; try exact gX) | with_reducible refine ands_intro ?_ ?_ | refine cxB (sb) ?_)) <;> ((try clear hXx); try exact gF))
            exact ⟨(k, splice us k cs, qs.set k g), by simp only; omega, ⟨by simp only; omega, by simp only; omega, by simp [g3], fin.1, g5.set k6 k7, fin.2.1, fin.2.2, hqz⟩, by exact cvS hn (.own 0 8 rfl (.own 1 10 rfl .nil))⟩
  · have hl1 : ys.length = 1 := by omega
    have e1 : ys.getD 0 0 = v := by rw [← V_one hl1, vy]
    have b1 := ly.getA 0
    rw [e1] at b1
    have hq : V (limbsN xs.length (u / v)) = u / v := limbsN_V q0 (by
      have := V_lt lx
      have : u / v ≤ u := Int.ediv_le_self v hu
      omega)
    refine ⟨limbsN xs.length (u / v), [u % v], limbsN_lim _ _, .cons r0 (by omega) .nil, hq, by simp [V], by rw [limbsN_length]; omega, by simp, ?_⟩
    rw [limbsN_length]
    refine cp2 (rs := [.tmp 4, .tmp 5]) (nt := 179) Tryz.func94 (fun C hP hn => ?_)
    (have hXx := @e1; (repeat' (first | refine gWx ?_ | (refine gIf ?_ ?_ <;> (intro hc; try exact gX)) | with_reducible refine br_intro ?_ ?_ | (with_reducible intro _; try exact gX) | with_reducible refine ands_intro ?_ ?_ | refine cx (tx) ?_ | refine cx (ty) ?_ | refine cx (byWord_e (xs := xs) (by rfl) lx hv (by omega) (by omega) (by rfl) (by rw [vx]) (by rw [vx])) ?_)) <;> ((try clear hXx); try exact gF))
    exact rqq2 rT rT
end Go.Proofs.YtfmebdmgnmogaaaGreatDoor
