/- Square roots: the reference's, of integers; of rational numbers. No statement of its own. -/
import Derived.Test.YtfmebdmgnmogaaaGreatDoorQQ6
set_option linter.unusedVariables false
set_option linter.unusedSimpArgs false
set_option linter.unusedSimpArgs false
set_option linter.unusedVariables false
set_option maxRecDepth 100000
set_option maxHeartbeats 8000000
namespace Go.Proofs.YtfmebdmgnmogaaaGreatDoor
open Go Go.RowKit Hv

theorem rsqrt_neg {ba : Bool} {na : Nat} {xa : List Int} {za : Int} (hba : ba = decide (za < 0)) (hna : na = xa.length) (hxa : xa = dig (za.natAbs : Int)) (hla : xa.length ≤ 100000) (hz : za < 0) : HCallsD Tryz.prog 99 [] [.agg [.raw (.bool ba), .sl na false (ints .u32 xa)]] (.tup [aI 0, .raw (.int .i64 7)]) [] := by
  subst hna
  have e : ba = true := hba.trans (decide_eq_true hz)
  subst e
  refine cp1 (rs := [.cell 2 24, .tmp 3]) (nt := 52) Tryz.func99 (fun C hP hn => ?_)
  ((repeat' (first | refine gW ?_ | (refine gIf ?_ ?_ <;> (intro hc; try exact gX)) | with_reducible refine br_intro ?_ ?_ | (with_reducible intro _; try exact gX) | with_reducible refine ands_intro ?_ ?_)) <;> (try exact gF))
  exact rqq2 (rC ty24) rT
theorem rsqrt_c {ba : Bool} {na : Nat} {xa : List Int} {za : Int} {s : Int} (hba : ba = decide (za < 0)) (hna : na = xa.length) (hxa : xa = dig (za.natAbs : Int)) (hla : xa.length ≤ 100000) (hl5 : xa.length ≤ 50000) (hz : 0 ≤ za) (hs : 0 ≤ s) (s1 : s * s ≤ za) (s2 : za < (s + 1) * (s + 1)) : HCallsD Tryz.prog 99 [] [.agg [.raw (.bool ba), .sl na false (ints .u32 xa)]] (.tup [aI s, .raw (.int .i64 0)]) [] := by
  subst hna
  have e : ba = false := hba.trans (decide_eq_false (by omega))
  subst e
  rcases Int.lt_or_le 0 za with hp | hp
  · have lx : Lim xa := hxa ▸ dig_lim _
    have vx : V xa = za := by rw [hxa, dig_V (ab_nn _)]; exact ab_pos hz
    have hl0 : 0 < xa.length := by rw [hxa]; exact dig_len_pos (by omega)
    obtain ⟨Kn, hKn⟩ : ∃ Kn, (((xa.length : Int) + 1) / 2).toNat = Kn := ⟨_, rfl⟩
    obtain ⟨two, h2⟩ : ∃ two : Int, 2 = two := ⟨_, rfl⟩
    have l2 : (dig (two.natAbs : Int)).length ≤ 3 := dig_len64 (by omega)
    have lK : Lim (List.replicate Kn 0 ++ [1]) := (Lim.zeros Kn).snoc (by omega) (by omega)
    have vK : V (List.replicate Kn 0 ++ [1]) = P9 Kn := by rw [V_snoc, V_zeros, List.length_replicate]; omega
    have eT : List.take (Kn + 1) (List.replicate Kn (0 : Int) ++ [1]) = List.replicate Kn 0 ++ [1] := List.take_of_length_le (by simp)
    have pK := P9_pos Kn
    have eD : List.replicate Kn (0 : Int) ++ [1] = dig ((P9 Kn).natAbs : Int) := by
      rw [show ((P9 Kn).natAbs : Int) = P9 Kn by omega, ← vK]
      refine (dig_of lK ?_).symm
      intro y hy
      simp at hy
      omega
    have eL : Kn + 1 = (dig ((P9 Kn).natAbs : Int)).length := by rw [← eD]; simp
    have eB : false = decide (P9 Kn < 0) := (decide_eq_false (by omega)).symm
    have zlt := V_lt lx
    rw [vx] at zlt
    have pm := P9_mono (show Kn ≤ xa.length by omega)
    have bnd : ∀ v : Int, 0 ≤ v → v ≤ P9 Kn + za → (dig (v.natAbs : Int)).length ≤ 60000 := fun v h0 h1 => by
      have : (v.natAbs : Int) < P9 (xa.length + 1) := by simp only [P9]; omega
      have := dig_len this
      omega
    have kb := bnd (P9 Kn) (by omega) (by omega)
    have kk : za < (P9 Kn + 1) * (P9 Kn + 1) := by
      have a1 : P9 xa.length ≤ P9 (Kn + Kn) := P9_mono (by omega)
      rw [P9_add] at a1
      rw [Int.add_mul, Int.mul_add]; omega
    refine cp1 (rs := [.cell 2 24, .tmp 3]) (nt := 52) Tryz.func99 (fun C hP hn => ?_)
    (have hXx := And.intro @hKn (@eT); (repeat' (first | refine gWx ?_ | (refine gIf ?_ ?_ <;> (intro hc; try exact gX)) | with_reducible refine br_intro ?_ ?_ | (with_reducible intro _; try exact gX) | with_reducible refine ands_intro ?_ ?_ | refine cx (rfrom64_w h2 (by omega) (by omega)) ?_)) <;> ((try clear hXx); try exact gF))
    refine hwp_loopS (fun x : Unit ⊕ Int => match x with
      | .inl _ => ⟨lk [(1, .ptr 0 0), (2, .ptr 1 0), (4, .ptr 2 0), (5, .ptr 3 0)],
        hlk [(0, { al := true, live := true, wb := true, elem := 24, sz := 1, cells := [.raw (.bool false), .sl xa.length false (ints .u32 xa)] }), (1, { al := true, live := true, wb := true, elem := 24, sz := 1, cells := [.raw (.bool false), .sl 0 true []] }),
          (2, { al := true, live := true, wb := true, elem := 24, sz := 1, cells := [.raw (.bool false), .own 4 0 (Kn + 1) false] }),
          (3, { al := true, live := true, wb := true, elem := 24, sz := 1, cells := [.raw (.bool (decide (two < 0))), .sl (dig two.natAbs).length false (ints .u32 (dig two.natAbs))] }),
          (4, { al := true, live := true, wb := true, grow := true, elem := 62, sz := 1, cells := ints .u32 (List.replicate Kn 0 ++ [1]) })], 5, 52⟩
      | .inr x => ⟨lk [(1, .ptr 0 0), (2, .ptr 1 0), (4, .ptr 2 0), (5, .ptr 3 0)],
        hlk [(0, { al := true, live := true, wb := true, elem := 24, sz := 1, cells := [.raw (.bool false), .sl xa.length false (ints .u32 xa)] }), (1, { al := true, live := true, wb := true, elem := 24, sz := 1, cells := [.raw (.bool false), .sl 0 true []] }),
          (2, { al := true, live := true, wb := true, elem := 24, sz := 1, cells := [.raw (.bool (decide (x < 0))), .sl (dig x.natAbs).length false (ints .u32 (dig x.natAbs))] }),
          (3, { al := true, live := true, wb := true, elem := 24, sz := 1, cells := [.raw (.bool (decide (two < 0))), .sl (dig two.natAbs).length false (ints .u32 (dig two.natAbs))] })], 4, 52⟩)
      (fun x => match x with | .inl _ => True | .inr x => 0 < x ∧ x ≤ P9 Kn ∧ za < (x + 1) * (x + 1)) (fun x => match x with | .inl _ => (P9 Kn).toNat + 1 | .inr x => x.toNat) ⟨.inl (), trivial, by exact cvG hn [(0, 0), (1, 4), (2, 72), (3, 84), (4, 64)]⟩ ?_
    have main : ∀ x : Int, 0 < x → x ≤ P9 Kn → za < (x + 1) * (x + 1) → ∃ q r t y r' : Int, fq za x = q ∧ fr za x = r ∧ x + q = t ∧ fq t two = y ∧ fr t two = r' ∧ (dig (x.natAbs : Int)).length ≤ 60000 ∧ (dig (q.natAbs : Int)).length ≤ 60000 ∧ (dig (t.natAbs : Int)).length ≤ 60000 ∧ (dig (y.natAbs : Int)).length ≤ 60000 ∧ (y < x → 0 < y ∧ za < (y + 1) * (y + 1)) ∧ (x ≤ y → x * x ≤ za) := by
      intro x g1 g2 g3
      have nw := newton g1 hz
      obtain ⟨q1, q2⟩ := div_le za g1
      have q0 := div_nonneg' hz (Int.le_of_lt g1)
      have q3 : za / x ≤ za := Int.ediv_le_self _ hz
      obtain ⟨f1, f2⟩ := fq_pp hz g1
      have ne := newton_end g1 hz
      have t0 : 0 ≤ x + za / x := by omega
      obtain ⟨f3, f4⟩ := fq_pp t0 (show 0 < two by omega)
      rw [← h2] at f3
      refine ⟨za / x, _, _, (x + za / x) / 2, _, f1, rfl, rfl, h2 ▸ f3, rfl, bnd x (by omega) (by omega), bnd _ (by omega) (by omega), bnd _ (by omega) (by omega), bnd _ (by omega) (by omega), fun hlt => ⟨?_, nw⟩, ne⟩
      rcases Int.lt_or_le 0 ((x + za / x) / 2) with k | k
      · exact k
      · have : (x + za / x) / 2 = 0 := by omega
        rw [this] at nw; omega
    have l2a : (dig (two.natAbs : Int)).length ≤ 100000 := by omega
    rintro (_ | x) hI
    · obtain ⟨q, r, t, y, r', m1, m2, m3, m4, m5, m6, m7, m8, m9, m10, m11⟩ := main (P9 Kn) pK (Int.le_refl _) kk
      have hc : y < P9 Kn := by
        refine Int.lt_of_not_ge fun h => ?_
        have := m11 h
        have a1 : P9 xa.length ≤ P9 (Kn + Kn) := P9_mono (by omega)
        rw [P9_add] at a1
        omega
      obtain ⟨y1, y2⟩ := m10 hc
      have c4 : HCallsD Tryz.prog 63 [] [.agg [.raw (.bool (decide (y < 0))), .sl (dig (y.natAbs : Int)).length false (ints .u32 (dig (y.natAbs : Int)))], .agg [.raw (.bool false), .sl (Kn + 1) false (ints .u32 (List.replicate Kn 0 ++ [1]))]] (.raw (.int .i64 (-1))) [] := rcmp_e (za := y) (zb := P9 Kn) (by rfl) (by rfl) (by rfl) (by omega) eB (by simp) eD (by simp; omega) (cmpI_lt hc)
      (have hXx := @eT; (repeat' (first | refine gWx ?_ | (refine gIf ?_ ?_ <;> (intro hc; try exact gX)) | with_reducible refine br_intro ?_ ?_ | (with_reducible intro _; try exact gX) | with_reducible refine ands_intro ?_ ?_ | refine cx (rdivmod_e (za := za) (zb := P9 Kn) hba (by rfl) hxa hla eB (by simp) eD (by simp; omega) (by omega) (by simp; omega) (by omega) m1 m2) ?_ | refine cx (radd_e (za := P9 Kn) (zb := q) eB (by simp) eD (by simp; omega) (by rfl) (by rfl) (by rfl) (by omega) m3) ?_ | refine cx (rdivmod_e (za := t) (zb := two) (by rfl) (by rfl) (by rfl) (by omega) (by rfl) (by rfl) (by rfl) (by omega) (by omega) (by omega) (by omega) m4 m5) ?_)) <;> ((try clear hXx); try exact gF))
      refine hwp_cov (st' := ⟨lk [(1, .ptr 0 0), (2, .ptr 1 0), (4, .ptr 2 0), (5, .ptr 3 0), (9, .ptr 5 0)],
        hlk [(0, { al := true, live := true, wb := true, elem := 24, sz := 1, cells := [.raw (.bool false), .sl xa.length false (ints .u32 xa)] }), (1, { al := true, live := true, wb := true, elem := 24, sz := 1, cells := [.raw (.bool false), .sl 0 true []] }), (2, { al := true, live := true, wb := true, elem := 24, sz := 1, cells := [.raw (.bool false), .own 4 0 (Kn + 1) false] }), (3, { al := true, live := true, wb := true, elem := 24, sz := 1, cells := [.raw (.bool (decide (two < 0))), .sl (dig two.natAbs).length false (ints .u32 (dig two.natAbs))] }),
          (4, { al := true, live := true, grow := true, elem := 62, sz := 1, cells := ints .u32 (List.replicate Kn 0 ++ [1]) }),
          (5, { al := true, live := true, wb := true, elem := 24, sz := 1, cells := [.raw (.bool (decide (y < 0))), .sl (dig y.natAbs).length false (ints .u32 (dig y.natAbs))] })], 6, 52⟩) (by exact cvG hn [(0, 0), (1, 1), (2, 2), (3, 3), (4, 4), (5, 89)]) ?_
      (have hXx := @eT; (repeat' (first | refine gWx ?_ | (refine gIf ?_ ?_ <;> (intro hc; try exact gX)) | with_reducible refine br_intro ?_ ?_ | (with_reducible intro _; try exact gX) | with_reducible refine ands_intro ?_ ?_ | refine cx (c4) ?_)) <;> ((try clear hXx); try exact gF))
      exact ⟨.inr y, by first | omega | (simp only; omega), ⟨y1, by omega, y2⟩, by exact cvS hn (.ptr 0 1 rfl (.ptr 1 2 rfl (.ptr 2 4 rfl (.ptr 3 5 rfl .nil))))⟩
    · obtain ⟨g1, g2, g3⟩ := hI
      obtain ⟨q, r, t, y, r', m1, m2, m3, m4, m5, m6, m7, m8, m9, m10, m11⟩ := main x g1 g2 g3
      rcases Int.lt_or_le y x with hc | hc
      · obtain ⟨y1, y2⟩ := m10 hc
        ((repeat' (first | refine gW ?_ | (refine gIf ?_ ?_ <;> (intro hc; try exact gX)) | with_reducible refine br_intro ?_ ?_ | (with_reducible intro _; try exact gX) | with_reducible refine ands_intro ?_ ?_ | refine cx (rdivmod_e (za := za) (zb := x) hba (by rfl) hxa hla (by rfl) (by rfl) (by rfl) (by omega) (by omega) (by omega) (by omega) m1 m2) ?_ | refine cx (radd_e (za := x) (zb := q) (by rfl) (by rfl) (by rfl) (by omega) (by rfl) (by rfl) (by rfl) (by omega) m3) ?_ | refine cx (rdivmod_e (za := t) (zb := two) (by rfl) (by rfl) (by rfl) (by omega) (by rfl) (by rfl) (by rfl) (by omega) (by omega) (by omega) (by omega) m4 m5) ?_ | refine cx (rcmp_e (za := y) (zb := x) (by rfl) (by rfl) (by rfl) (by omega) (by rfl) (by rfl) (by rfl) (by omega) (cmpI_lt hc)) ?_)) <;> (try exact gF))
        exact ⟨.inr y, by first | omega | (simp only; omega), ⟨y1, by omega, y2⟩, by exact cvS hn (.ptr 0 1 rfl (.ptr 1 2 rfl (.ptr 2 4 rfl (.ptr 3 5 rfl .nil))))⟩
      · obtain ⟨c, hcc, c0, c1⟩ := cmpI_ge0 hc
        have es := root_unique hs (by omega) s1 s2 (m11 hc) g3
        subst es
        ((repeat' (first | refine gW ?_ | (refine gIf ?_ ?_ <;> (intro hc; try exact gX)) | with_reducible refine br_intro ?_ ?_ | (with_reducible intro _; try exact gX) | with_reducible refine ands_intro ?_ ?_ | refine cx (rdivmod_e (za := za) (zb := s) hba (by rfl) hxa hla (by rfl) (by rfl) (by rfl) (by omega) (by omega) (by omega) (by omega) m1 m2) ?_ | refine cx (radd_e (za := s) (zb := q) (by rfl) (by rfl) (by rfl) (by omega) (by rfl) (by rfl) (by rfl) (by omega) m3) ?_ | refine cx (rdivmod_e (za := t) (zb := two) (by rfl) (by rfl) (by rfl) (by omega) (by rfl) (by rfl) (by rfl) (by omega) (by omega) (by omega) (by omega) m4 m5) ?_ | refine cx (rcmp_e (za := y) (zb := s) (by rfl) (by rfl) (by rfl) (by omega) (by rfl) (by rfl) (by rfl) (by omega) hcc) ?_)) <;> (try exact gF))
        exact rqq2 (rC ty24) rT
  · have hz0 : za = 0 := by omega
    have hl0 : xa.length = 0 := by rw [hxa]; exact dig_len_zero (by omega)
    have es : s = 0 := root_unique hs (by omega) s1 s2 (by omega) (by omega)
    subst es
    refine cp1 (rs := [.cell 2 24, .tmp 3]) (nt := 52) Tryz.func99 (fun C hP hn => ?_)
    ((repeat' (first | refine gW ?_ | (refine gIf ?_ ?_ <;> (intro hc; try exact gX)) | with_reducible refine br_intro ?_ ?_ | (with_reducible intro _; try exact gX) | with_reducible refine ands_intro ?_ ?_)) <;> (try exact gF))
    exact rqq2 (rC ty24) rT
end Go.Proofs.YtfmebdmgnmogaaaGreatDoor
