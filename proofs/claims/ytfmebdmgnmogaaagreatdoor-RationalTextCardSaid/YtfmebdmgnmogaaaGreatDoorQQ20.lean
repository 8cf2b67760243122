/- The reference's Parse of rational numbers, and the law of texts. No statement of its own. -/
import Derived.Test.YtfmebdmgnmogaaaGreatDoorQQ19
set_option linter.unusedVariables false
set_option linter.unusedSimpArgs false
set_option linter.unusedSimpArgs false
set_option linter.unusedVariables false
set_option maxRecDepth 100000
set_option maxHeartbeats 8000000
namespace Go.Proofs.YtfmebdmgnmogaaaGreatDoor
open Go Go.RowKit Hv

/-- What a text is, as a fraction. -/
def PR (l : List UInt8) (r : HV) : Prop :=
  ((47 : UInt8) ∉ l ∧ pe l = 2 ∧ r = .tup [aR 0 0, .raw (.int .i64 2)]) ∨ (∃ p one : Int, (47 : UInt8) ∉ l ∧ pe l = 0 ∧ pz l = p ∧ 1 = one ∧ r = .tup [aR p one, .raw (.int .i64 0)]) ∨
  (∃ f g, (47 : UInt8) ∉ f ∧ l = f ++ 47 :: g ∧ (pe f = 2 ∨ (pe f = 0 ∧ pe g = 2) ∨ (pe f = 0 ∧ pe g = 0 ∧ pz g ≤ 0) ∨ (pe f = 0 ∧ pe g = 0 ∧ 0 < pz g ∧ (pz g ≤ 1 ∨ gI (pz f) (pz g) ≠ 1))) ∧ r = .tup [aR 0 0, .raw (.int .i64 2)]) ∨
  (∃ f g p q, (47 : UInt8) ∉ f ∧ l = f ++ 47 :: g ∧ pe f = 0 ∧ pe g = 0 ∧ pz f = p ∧ pz g = q ∧ 1 < q ∧ gI p q = 1 ∧ r = .tup [aR p q, .raw (.int .i64 0)])
theorem pr_ex (l : List UInt8) : ∃ r, PR l r := by
  rcases split_slash l with h | ⟨f, g, hf, e⟩
  · rcases pe_cases l with k | k
    · exact ⟨_, .inr (.inl ⟨_, _, h, k, rfl, rfl, rfl⟩)⟩
    · exact ⟨_, .inl ⟨h, k, rfl⟩⟩
  · by_cases k : pe f = 0 ∧ pe g = 0 ∧ 1 < pz g ∧ gI (pz f) (pz g) = 1
    · exact ⟨_, .inr (.inr (.inr ⟨f, g, _, _, hf, e, k.1, k.2.1, rfl, rfl, k.2.2.1, k.2.2.2, rfl⟩))⟩
    · refine ⟨_, .inr (.inr (.inl ⟨f, g, hf, e, ?_, rfl⟩))⟩
      rcases pe_cases f with a | a
      · rcases pe_cases g with b | b
        · rcases Int.lt_or_le 0 (pz g) with c | c
          · refine .inr (.inr (.inr ⟨a, b, c, ?_⟩))
            rcases Int.lt_or_le 1 (pz g) with d | d
            · exact .inr fun q => k ⟨a, b, d, q⟩
            · exact .inl d
          · exact .inr (.inr (.inl ⟨a, b, c⟩))
        · exact .inr (.inl ⟨a, b⟩)
      · exact .inl a
theorem xparse_c {l : List UInt8} {r : HV} (hl : l.length ≤ 1000) (hr : PR l r) : HCallsD Tryz.prog 36 [] [.raw (.string (bs l))] r [] := by
  rcases hr with ⟨h, he, rfl⟩ | ⟨p, one, h, he, hp, h1, rfl⟩ | ⟨f, g, hf, e, k, rfl⟩ | ⟨f, g, p, q, hf, e, he, he2, hp, hq, h1, hg, rfl⟩
  · exact xparse_2 h hl he
  · exact xparse_1 h hl h1 hp he
  · rcases k with k | ⟨a, b⟩ | ⟨a, b, c⟩ | ⟨a, b, c, d⟩
    · exact xparse_3 e hf hl k
    · exact xparse_4 e hf hl a b
    · exact xparse_5 e hf hl a b rfl (by omega)
    · rcases Int.lt_or_le 1 (pz g) with q | q
      · exact xparse_6 e hf hl a b rfl rfl q (by rcases d with d | d; omega; exact d)
      · exact xparse_5 e hf hl a b rfl q
  · exact xparse_7 e hf hl he he2 hp hq h1 hg
theorem sgn_np {z : Int} (h : z ≤ 0) : ∃ c, cmpI z 0 = c ∧ c ≠ 1 := ⟨_, rfl, by unfold cmpI; split <;> (try split) <;> omega⟩
theorem rxparse_c {l : List UInt8} {r : HV} (hl : l.length ≤ 1000) (hr : PR l r) : HCallsD Tryz.prog 39 [] [.raw (.string (bs l))] r [] := by
  obtain ⟨n, hn0⟩ : ∃ n, sx l = n := ⟨_, rfl⟩
  obtain ⟨one, h1⟩ : ∃ z : Int, 1 = z := ⟨_, rfl⟩
  have b3 := one_len h1
  have hxl : l.drop l.length = [] := List.drop_of_length_le (Nat.le_refl _)
  have sx0 : sx ([] : List UInt8) = 0 := rfl
  refine cp1 (rs := [.cell 2 26, .tmp 3]) (nt := 66) Tryz.func39 (fun C hP hn => ?_)
  ((repeat' (first | refine gW ?_ | (refine gIf ?_ ?_ <;> (intro hc; try exact gX)) | with_reducible refine br_intro ?_ ?_ | (with_reducible intro _; try exact gX) | with_reducible refine ands_intro ?_ ?_)) <;> (try exact gF))
  refine hwp_loop_cut (fun s' => s' = ⟨lk [(0, .raw (.string (bs l))), (2, .ptr 0 0), (3, .raw (.int .i64 0)), (4, .raw (.int .i64 n))], hlk [(0, { al := true, live := true, wb := true, elem := 26, cells := [.raw (.bool false), .sl 0 true [], .raw (.bool false), .sl 0 true []] })], 1, 66⟩) (fun s h => exit_in (normal_then h)) ?_ ?_
  · refine hwp_loopS (fun k : Nat => ⟨lk [(0, .raw (.string (bs l))), (2, .ptr 0 0), (3, .raw (.int .i64 0)), (4, .raw (.int .i64 ((k : Int) + (sx (l.drop k) : Int)))), (5, .raw (.int .i64 ((k : Int) - 1)))], hlk [(0, { al := true, live := true, wb := true, elem := 26, cells := [.raw (.bool false), .sl 0 true [], .raw (.bool false), .sl 0 true []] })], 1, 66⟩)
      (fun k => k ≤ l.length) (fun k => k) ⟨l.length, Nat.le_refl _, by rw [hxl, sx0]; exact cvS hn (.ptr 0 2 rfl .nil)⟩ ?_
    intro k hk
    rcases Nat.eq_zero_or_pos k with h0 | h0
    · subst h0
      rw [List.drop_zero, hn0]
      ((repeat' (first | refine gW ?_ | (refine gIf ?_ ?_ <;> (intro hc; try exact gX)) | with_reducible refine br_intro ?_ ?_ | (with_reducible intro _; try exact gX) | with_reducible refine ands_intro ?_ ?_)) <;> (try exact gF))
      exact ⟨rfl, _, by exact cvS hn (.ptr 0 2 rfl .nil), rfl⟩
    · have hsx := sx_at h0 hk
      ((repeat' (first | refine gW ?_ | (refine gIf ?_ ?_ <;> (intro hc; try exact gX)) | with_reducible refine br_intro ?_ ?_ | (with_reducible intro _; try exact gX) | with_reducible refine ands_intro ?_ ?_)) <;> (try exact gF))
      · rw [if_pos hc] at hsx
        exact ⟨k - 1, by omega, by omega, by exact cvS hn (.ptr 0 2 rfl .nil)⟩
      · rw [if_neg hc] at hsx
        exact ⟨k - 1, by omega, by omega, by exact cvS hn (.ptr 0 2 rfl .nil)⟩
  rintro _ rfl
  rcases hr with ⟨h, he, rfl⟩ | ⟨p, on, h, he, hp, h1', rfl⟩ | ⟨f, g, hf, e, k, rfl⟩ | ⟨f, g, p, q, hf, e, he, he2, hp, hq, hq1, hg, rfl⟩
  · rw [sx_n h] at hn0
    subst hn0
    obtain ⟨p, hp⟩ : ∃ p, pz l = p := ⟨_, rfl⟩
    ((repeat' (first | refine gW ?_ | (refine gIf ?_ ?_ <;> (intro hc; try exact gX)) | with_reducible refine br_intro ?_ ?_ | (with_reducible intro _; try exact gX) | with_reducible refine ands_intro ?_ ?_ | refine cx (rparse_e hl hp he) ?_ | refine cx (runit_w h1) ?_)) <;> (try exact gF))
    exact rqq2 (rC ty26) rT
  · rw [sx_n h] at hn0
    subst hn0
    obtain rfl : one = on := by omega
    have lp : (dig (p.natAbs : Int)).length ≤ l.length := hp ▸ pz_len l
    have hr : IsR p one (Rat.divInt p one) := isR_cop (by omega) (by rw [← h1]; unfold gI; rw [Int.gcd_one]; rfl)
    have ht : tR p one = l := by unfold tR; rw [if_pos h1.symm, ← hp, tI_pz he]
    (have hXx := And.intro @eq_self.{1} (And.intro @decide_true (@Bool.not_true)); (repeat' (first | refine gWx ?_ | (refine gIf ?_ ?_ <;> (intro hc; try exact gX)) | with_reducible refine br_intro ?_ ?_ | (with_reducible intro _; try exact gX) | with_reducible refine ands_intro ?_ ?_ | refine cx (rparse_e hl hp he) ?_ | refine cx (runit_w h1) ?_ | refine cx (rsign_e (za := one) (by rfl) (by rfl) (by rfl) (by omega) (cmp_p (by omega))) ?_ | refine cx (of_c (by omega) hr ⟨by omega, by omega⟩) ?_ | refine cx (rxformat_c (p := p) (q := one) ⟨by omega, by omega⟩ ht) ?_)) <;> ((try clear hXx); try exact gF))
    exact rqq2 (rC ty26) rT
  all_goals
    have hlen : l.length = f.length + (g.length + 1) := by rw [e, List.length_append, List.length_cons]
    have hn1 : n = f.length := by rw [← hn0, e, sx_y hf]
    have t1 : l.take n = f := by rw [e, hn1, List.take_left]
    have t2 : l.drop (n + 1) = g := by rw [e, hn1, ← List.drop_drop, List.drop_left]; rfl
    have lf := pz_len f
    have lg := pz_len g
  · obtain ⟨p, hp⟩ : ∃ p, pz f = p := ⟨_, rfl⟩
    obtain ⟨q, hq⟩ : ∃ q, pz g = q := ⟨_, rfl⟩
    rcases k with k | ⟨a, b⟩ | ⟨a, b, c⟩ | ⟨a, b, c, d⟩
    · obtain ⟨v, hv⟩ : ∃ v, pe g = v := ⟨_, rfl⟩
      (have hXx := And.intro @t1 (@t2); (repeat' (first | refine gWx ?_ | (refine gIf ?_ ?_ <;> (intro hc; try exact gX)) | with_reducible refine br_intro ?_ ?_ | (with_reducible intro _; try exact gX) | with_reducible refine ands_intro ?_ ?_ | refine cx (rparse_e (l := f) (by omega) hp k) ?_ | refine cx (rparse_e (l := g) (by omega) hq hv) ?_ | refine cx (runit_w h1) ?_)) <;> ((try clear hXx); try exact gF))
      exact rqq2 (rC ty26) rT
    · (have hXx := And.intro @t1 (@t2); (repeat' (first | refine gWx ?_ | (refine gIf ?_ ?_ <;> (intro hc; try exact gX)) | with_reducible refine br_intro ?_ ?_ | (with_reducible intro _; try exact gX) | with_reducible refine ands_intro ?_ ?_ | refine cx (rparse_e (l := f) (by omega) hp a) ?_ | refine cx (rparse_e (l := g) (by omega) hq b) ?_ | refine cx (runit_w h1) ?_)) <;> ((try clear hXx); try exact gF))
      exact rqq2 (rC ty26) rT
    · rw [hq] at c lg
      obtain ⟨v, hv, v1⟩ := sgn_np c
      (have hXx := And.intro @t1 (@t2); (repeat' (first | refine gWx ?_ | (refine gIf ?_ ?_ <;> (intro hc; try exact gX)) | with_reducible refine br_intro ?_ ?_ | (with_reducible intro _; try exact gX) | with_reducible refine ands_intro ?_ ?_ | refine cx (rparse_e (l := f) (by omega) hp a) ?_ | refine cx (rparse_e (l := g) (by omega) hq b) ?_ | refine cx (runit_w h1) ?_ | refine cx (rsign_e (za := q) (by rfl) (by rfl) (by rfl) (by omega) hv) ?_)) <;> ((try clear hXx); try exact gF))
      exact rqq2 (rC ty26) rT
    · rw [hp] at lf d
      rw [hq] at c lg d
      obtain ⟨u, w, hr⟩ : ∃ u w, IsR u w (Rat.divInt p q) := ⟨_, _, isR_self _⟩
      have lu := RL.div (L := 1000) (p := p) (q := q) ⟨by omega, by omega⟩ (by omega) hr
      obtain ⟨t, ht⟩ : ∃ t, tR u w = t := ⟨_, rfl⟩
      have hne : (t = l) = False := by rw [← ht, e]; exact eq_false (tR_no hf hp hq c hr d)
      (have hXx := And.intro @t1 (And.intro @t2 (And.intro @hne (And.intro @decide_false (@Bool.not_false)))); (repeat' (first | refine gWx ?_ | (refine gIf ?_ ?_ <;> (intro hc; try exact gX)) | with_reducible refine br_intro ?_ ?_ | (with_reducible intro _; try exact gX) | with_reducible refine ands_intro ?_ ?_ | refine cx (rparse_e (l := f) (by omega) hp a) ?_ | refine cx (rparse_e (l := g) (by omega) hq b) ?_ | refine cx (runit_w h1) ?_ | refine cx (rsign_e (za := q) (by rfl) (by rfl) (by rfl) (by omega) (cmp_p (by omega))) ?_ | refine cx (of_c (by omega) hr ⟨by omega, by omega⟩) ?_ | refine cx (rxformat_c (p := u) (q := w) lu ht) ?_)) <;> ((try clear hXx); try exact gF))
      exact rqq2 (rC ty26) rT
  · rw [hp] at lf
    rw [hq] at lg
    have hr := isR_cop (p := p) (q := q) (by omega) hg
    have ht : tR p q = l := by rw [e]; exact tR_yes he he2 hp hq hq1
    (have hXx := And.intro @t1 (And.intro @t2 (And.intro @eq_self.{1} (And.intro @decide_true (@Bool.not_true)))); (repeat' (first | refine gWx ?_ | (refine gIf ?_ ?_ <;> (intro hc; try exact gX)) | with_reducible refine br_intro ?_ ?_ | (with_reducible intro _; try exact gX) | with_reducible refine ands_intro ?_ ?_ | refine cx (rparse_e (l := f) (by omega) hp he) ?_ | refine cx (rparse_e (l := g) (by omega) hq he2) ?_ | refine cx (runit_w h1) ?_ | refine cx (rsign_e (za := q) (by rfl) (by rfl) (by rfl) (by omega) (cmp_p (by omega))) ?_ | refine cx (of_c (by omega) hr ⟨by omega, by omega⟩) ?_ | refine cx (rxformat_c (p := p) (q := q) ⟨by omega, by omega⟩ ht) ?_)) <;> ((try clear hXx); try exact gF))
    exact rqq2 (rC ty26) rT
end Go.Proofs.YtfmebdmgnmogaaaGreatDoor
