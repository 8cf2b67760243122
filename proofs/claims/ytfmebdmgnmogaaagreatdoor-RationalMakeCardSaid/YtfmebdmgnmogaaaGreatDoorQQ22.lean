/- The law of making rational numbers. No statement of its own. -/
import Derived.Test.YtfmebdmgnmogaaaGreatDoorQQ14
set_option linter.unusedVariables false
set_option linter.unusedSimpArgs false
set_option linter.unusedSimpArgs false
set_option linter.unusedVariables false
set_option maxRecDepth 100000
set_option maxHeartbeats 8000000
namespace Go.Proofs.YtfmebdmgnmogaaaGreatDoor
open Go Go.RowKit Hv

theorem ar51 : arT Tryz.prog 51 = some (2, 1) := by kernel_rfl
theorem ty51 : tyT Tryz.prog 51 = some (true, 2) := by kernel_rfl
theorem ty2X : tyT Tryz.prog 2 = some (false, 1) := by kernel_rfl
attribute [push_cast] ar51 ty51 ty2X
def s6 (b : Bool) (xs : List Int) : Bool := decide ((xs.length : Int) ≤ 6) && validB b xs
theorem s6_z {b : Bool} {xs : List Int} (h : s6 b xs = true) : ∃ z : Int, b = decide (z < 0) ∧ xs = dig (z.natAbs : Int) ∧ xs.length ≤ 6 := by
  unfold s6 at h
  rw [Bool.and_eq_true, decide_eq_true_eq] at h
  have := valid_spec h.2
  exact ⟨_, this.2, this.1, by omega⟩
theorem s6_c {b r : Bool} {xs : List Int} (hu : U32 xs) (hr : s6 b xs = r) : HCallsD Tryz.prog 44 [] [.agg [.raw (.bool b), .sl xs.length false (ints .u32 xs)], .raw (.int .i64 6)] (.raw (.bool r)) [] := by
  subst hr; exact rsmall_c rfl hu (by omega) (by omega)
theorem fracs {m n : Int} (h0 : -9223372036854775808 ≤ m) (h1 : m ≤ 9223372036854775807) (h2 : -9223372036854775808 ≤ n) (h3 : n ≤ 9223372036854775807) :
    ∃ p q, RL p q 90000 ∧ HCallsD Tryz.prog 48 [] [.raw (.int .i64 m), .raw (.int .i64 n)] (aR p q) [] ∧ HCallsD Tryz.prog 49 [] [.raw (.int .i64 m), .raw (.int .i64 n)] (aR p q) [] := by
  by_cases hn : n = 0
  · subst hn
    have hr : IsR 0 1 (Rat.divInt 0 1) := ⟨rfl, rfl⟩
    exact ⟨0, 1, small_RL (by decide) (by decide) |>.mono (by omega), frac_0 rfl rfl, rfrac_0 rfl rfl hr⟩
  · have hr := isR_self (Rat.divInt m n)
    have l : RL m n 3 := ⟨dig_len64 (by omega), dig_len64 (by omega)⟩
    exact ⟨_, _, RL.div (l.mono (by omega)) hn hr, frac_c h0 h1 h2 h3 rfl rfl hn hr, rfrac_c h0 h1 h2 h3 rfl rfl hn hr⟩
theorem lawXMake_c {ba bb : Bool} {xa xb : List Int} {m n : Int} (hua : U32 xa) (hub : U32 xb) (h0 : -9223372036854775808 ≤ m) (h1 : m ≤ 9223372036854775807) (h2 : -9223372036854775808 ≤ n) (h3 : n ≤ 9223372036854775807) :
    HCallsD Tryz.prog 8 [] [.agg [.raw (.bool ba), .sl xa.length false (ints .u32 xa)], .agg [.raw (.bool bb), .sl xb.length false (ints .u32 xb)], .agg [.raw (.int .i64 m), .raw (.int .i64 n)]] (.raw (.bool true)) [] := by
  obtain ⟨r, hr⟩ : ∃ r, s6 ba xa = r := ⟨_, rfl⟩
  obtain ⟨s, hs⟩ : ∃ r, s6 bb xb = r := ⟨_, rfl⟩
  cases r
  · refine cp3 (rs := [.tmp 6]) (nt := 78) Tryz.func8 (fun C hP hn => ?_)
    ((repeat' (first | refine gW ?_ | (refine gIf ?_ ?_ <;> (intro hc; try exact gX)) | with_reducible refine br_intro ?_ ?_ | (with_reducible intro _; try exact gX) | with_reducible refine ands_intro ?_ ?_ | refine cx (xawake_c) ?_ | refine cx (s6_c hua hr) ?_)) <;> (try exact gF))
    exact rqq1 rT
  cases s
  · refine cp3 (rs := [.tmp 6]) (nt := 78) Tryz.func8 (fun C hP hn => ?_)
    ((repeat' (first | refine gW ?_ | (refine gIf ?_ ?_ <;> (intro hc; try exact gX)) | with_reducible refine br_intro ?_ ?_ | (with_reducible intro _; try exact gX) | with_reducible refine ands_intro ?_ ?_ | refine cx (xawake_c) ?_ | refine cx (s6_c hua hr) ?_ | refine cx (s6_c hub hs) ?_)) <;> (try exact gF))
    exact rqq1 rT
  obtain ⟨za, hba, hxa, hla⟩ := s6_z hr
  obtain ⟨zb, hbb, hxb, hlb⟩ := s6_z hs
  obtain ⟨p, q, lpq, f1, f2⟩ := fracs h0 h1 h2 h3
  obtain ⟨one, ho⟩ : ∃ z : Int, 1 = z := ⟨_, rfl⟩
  have b3 := one_len ho
  subst hba hbb hxa hxb
  have l : RL za zb 6 := ⟨hla, hlb⟩
  obtain ⟨w, hw⟩ : ∃ w, m = w := ⟨_, rfl⟩
  have lw : (dig (w.natAbs : Int)).length ≤ 3 := dig_len64 (by omega)
  by_cases hz : zb = 0
  · refine cp3 (rs := [.tmp 6]) (nt := 78) Tryz.func8 (fun C hP hn => ?_)
    ((repeat' (first | refine gW ?_ | (refine gIf ?_ ?_ <;> (intro hc; try exact gX)) | with_reducible refine br_intro ?_ ?_ | (with_reducible intro _; try exact gX) | with_reducible refine ands_intro ?_ ?_ | refine cx (xawake_c) ?_ | refine cx (s6_c hua hr) ?_ | refine cx (s6_c hub hs) ?_ | refine cx (make_0 hz (l.mono (by omega))) ?_ | refine cx (rmake_0 hz (l.mono (by omega))) ?_ | refine cx (zero_e) ?_ | refine cx (xfrom_c h0 h1 hw ho) ?_ | refine cx (rxfrom_c h0 h1 hw ho) ?_ | refine cx (rxsame_t (pa := w) (qa := one) ⟨by omega, by omega⟩) ?_ | refine cx (f1) ?_ | refine cx (f2) ?_ | refine cx (rxsame_t lpq) ?_)) <;> (try exact gF))
    exact rqq1 rT
  · have hd := isR_self (Rat.divInt za zb)
    obtain ⟨u, hu⟩ : ∃ u, (Rat.divInt za zb).num = u := ⟨_, rfl⟩
    obtain ⟨v, hv⟩ : ∃ u : Int, ((Rat.divInt za zb).den : Int) = u := ⟨_, rfl⟩
    rw [hu, hv] at hd
    have luv := RL.div l hz hd
    refine cp3 (rs := [.tmp 6]) (nt := 78) Tryz.func8 (fun C hP hn => ?_)
    ((repeat' (first | refine gW ?_ | (refine gIf ?_ ?_ <;> (intro hc; try exact gX)) | with_reducible refine br_intro ?_ ?_ | (with_reducible intro _; try exact gX) | with_reducible refine ands_intro ?_ ?_ | refine cx (xawake_c) ?_ | refine cx (s6_c hua hr) ?_ | refine cx (s6_c hub hs) ?_ | refine cx (make_c hz hd (l.mono (by omega))) ?_ | refine cx (rmake_c hz hd (l.mono (by omega))) ?_ | refine cx (xfrom_c h0 h1 hw ho) ?_ | refine cx (rxfrom_c h0 h1 hw ho) ?_ | refine cx (rxsame_t (pa := w) (qa := one) ⟨by omega, by omega⟩) ?_ | refine cx (rxsame_t (pa := u) (qa := v) (luv.mono (by omega))) ?_ | refine cx (f1) ?_ | refine cx (f2) ?_ | refine cx (rxsame_t lpq) ?_)) <;> (try exact gF))
    exact rqq1 rT
end Go.Proofs.YtfmebdmgnmogaaaGreatDoor
