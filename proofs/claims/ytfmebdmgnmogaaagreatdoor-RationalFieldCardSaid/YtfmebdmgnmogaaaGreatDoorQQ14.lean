/- The examples of the document. No statement of its own. -/
import Derived.Test.YtfmebdmgnmogaaaGreatDoorQQ12
set_option linter.unusedVariables false
set_option linter.unusedSimpArgs false
set_option linter.unusedSimpArgs false
set_option linter.unusedVariables false
set_option maxRecDepth 100000
set_option maxHeartbeats 8000000
namespace Go.Proofs.YtfmebdmgnmogaaaGreatDoor
open Go Go.RowKit Hv

theorem xawake_c : HCallsD Tryz.prog 12 [] [] (.raw (.bool true)) [] := by
  obtain ⟨n0, e0⟩ : ∃ z : Int, 0 = z := ⟨_, rfl⟩
  obtain ⟨n1, e1⟩ : ∃ z : Int, 1 = z := ⟨_, rfl⟩
  obtain ⟨n2, e2⟩ : ∃ z : Int, 2 = z := ⟨_, rfl⟩
  obtain ⟨n3, e3⟩ : ∃ z : Int, 3 = z := ⟨_, rfl⟩
  obtain ⟨n4, e4⟩ : ∃ z : Int, 4 = z := ⟨_, rfl⟩
  obtain ⟨n5, e5⟩ : ∃ z : Int, 5 = z := ⟨_, rfl⟩
  obtain ⟨n6, e6⟩ : ∃ z : Int, 6 = z := ⟨_, rfl⟩
  obtain ⟨n7, e7⟩ : ∃ z : Int, 7 = z := ⟨_, rfl⟩
  obtain ⟨n9, e9⟩ : ∃ z : Int, 9 = z := ⟨_, rfl⟩
  obtain ⟨n10, e10⟩ : ∃ z : Int, 10 = z := ⟨_, rfl⟩
  obtain ⟨m2, d2⟩ : ∃ z : Int, -2 = z := ⟨_, rfl⟩
  obtain ⟨m3, d3⟩ : ∃ z : Int, -3 = z := ⟨_, rfl⟩
  obtain ⟨m4, d4⟩ : ∃ z : Int, -4 = z := ⟨_, rfl⟩
  obtain ⟨m5, d5⟩ : ∃ z : Int, -5 = z := ⟨_, rfl⟩
  have t94 := text2 (l := [57, 47, 52]) (f := [57]) (g := [52]) (p := n9) (q := n4) rfl (by decide) (by decide) (by unfold okP allD; decide) (by unfold okP allD; decide) (by rw [← e9]; rfl) (by rw [← e4]; rfl) (by omega) (by rw [← e9, ← e4]; kernel_rfl)
  have t2 := text1 (l := [50]) (p := n2) (by decide) (by decide) e1 (by unfold okP allD; decide) (by rw [← e2]; rfl)
  have t3 := text1 (l := [51]) (p := n3) (by decide) (by decide) e1 (by unfold okP allD; decide) (by rw [← e3]; rfl)
  have t310 := text2 (l := [51, 47, 49, 48]) (f := [51]) (g := [49, 48]) (p := n3) (q := n10) rfl (by decide) (by decide) (by unfold okP allD; decide) (by unfold okP allD; decide) (by rw [← e3]; rfl) (by rw [← e10]; rfl) (by omega) (by rw [← e3, ← e10]; kernel_rfl)
  have t25 := text2 (l := [50, 47, 53]) (f := [50]) (g := [53]) (p := n2) (q := n5) rfl (by decide) (by decide) (by unfold okP allD; decide) (by unfold okP allD; decide) (by rw [← e2]; rfl) (by rw [← e5]; rfl) (by omega) (by rw [← e2, ← e5]; kernel_rfl)
  have t52 := text2 (l := [45, 53, 47, 50]) (f := [45, 53]) (g := [50]) (p := m5) (q := n2) rfl (by decide) (by decide) (by unfold okP allD; decide) (by unfold okP allD; decide) (by rw [← d5]; rfl) (by rw [← e2]; rfl) (by omega) (by rw [← d5, ← e2]; kernel_rfl)
  have t72 := text2 (l := [55, 47, 50]) (f := [55]) (g := [50]) (p := n7) (q := n2) rfl (by decide) (by decide) (by unfold okP allD; decide) (by unfold okP allD; decide) (by rw [← e7]; rfl) (by rw [← e2]; rfl) (by omega) (by rw [← e7, ← e2]; kernel_rfl)
  have t32 := text2 (l := [45, 51, 47, 50]) (f := [45, 51]) (g := [50]) (p := m3) (q := n2) rfl (by decide) (by decide) (by unfold okP allD; decide) (by unfold okP allD; decide) (by rw [← d3]; rfl) (by rw [← e2]; rfl) (by omega) (by rw [← d3, ← e2]; kernel_rfl)
  have s1 := xsqrt_y (p := n9) (q := n4) (s := n3) (t := n2) (by omega) (by rw [← e3, ← e9]; rfl) (by omega) (by rw [← e2, ← e4]; rfl) ((small_RL (by omega) (by omega)).mono (by omega))
  have s2 := xsqrt_n (p := n2) (q := n1) (s := n1) (by omega) (by omega) (by rw [← e1, ← e2]; decide) (by rw [← e1, ← e2]; decide) ((small_RL (by omega) (by omega)).mono (by omega))
  have x1 := ex_1 e1 e2 e3 e5 e10
  have x2 := ex_2 e1 e0 e2 d5 e7
  have x3 := ex_3 e1 e2 e3 e5
  have fr1 := frac_c (p := 6) (q := -4) (z := n6) (w := m4) (n := m3) (d := n2) (by omega) (by omega) (by omega) (by omega) e6 d4 (by omega) (by rw [← e6, ← d4, ← d3, ← e2]; exact ⟨by kernel_rfl, by kernel_rfl⟩)
  have g1 := xformat_c (p := m3) (q := n2) (t := [45, 51, 47, 50]) ((small_RL (by omega) (by omega)).mono (by omega)) (by unfold tR; rw [if_neg (by omega), tI_n (by omega) (by omega), tI_p (by omega) (by omega), ← d3, ← e2]; rfl)
  have g2 := xformat_c (p := n3) (q := n2) (t := [51, 47, 50]) ((small_RL (by omega) (by omega)).mono (by omega)) (by unfold tR; rw [if_neg (by omega), tI_p (by omega) (by omega), tI_p (by omega) (by omega), ← e3, ← e2]; rfl)
  have g3 := xformat_c (p := n1) (q := n3) (t := [49, 47, 51]) ((small_RL (by omega) (by omega)).mono (by omega)) (by unfold tR; rw [if_neg (by omega), tI_p (by omega) (by omega), tI_p (by omega) (by omega), ← e3, ← e1]; rfl)
  have g4 := xformat_c (p := n0) (q := n1) (t := [48]) ((small_RL (by omega) (by omega)).mono (by omega)) (by unfold tR; rw [if_pos (by omega), ← e0]; rfl)
  have g5 := xformat_c (p := n5) (q := n2) (t := [53, 47, 50]) ((small_RL (by omega) (by omega)).mono (by omega)) (by unfold tR; rw [if_neg (by omega), tI_p (by omega) (by omega), tI_p (by omega) (by omega), ← e5, ← e2]; rfl)
  have fl := xfloor_c (p := m3) (q := n2) (z := m2) (by omega) (by rw [← d3, ← e2, ← d2]; rfl) ((small_RL (by omega) (by omega)).mono (by omega))
  have lm2 : (dig (m2.natAbs : Int)).length ≤ 3 := dig_len64 (by omega)
  refine cp0 (rs := [.tmp 0]) (nt := 87) Tryz.func12 (fun C hP hn => ?_)
  (have hXx := @eq_self.{1}; (repeat' (first | refine gWx ?_ | (refine gIf ?_ ?_ <;> (intro hc; try exact gX)) | with_reducible refine br_intro ?_ ?_ | (with_reducible intro _; try exact gX) | with_reducible refine ands_intro ?_ ?_ | refine cx (t94) ?_ | refine cx (t2) ?_ | refine cx (t3) ?_ | refine cx (t310) ?_ | refine cx (t25) ?_ | refine cx (t52) ?_ | refine cx (t72) ?_ | refine cx (t32) ?_ | refine cx (s1) ?_ | refine cx (s2) ?_ | refine cx (x1) ?_ | refine cx (x2) ?_ | refine cx (x3) ?_ | refine cx (fr1) ?_ | refine cx (g1) ?_ | refine cx (g2) ?_ | refine cx (g3) ?_ | refine cx (g4) ?_ | refine cx (g5) ?_ | refine cx (fl) ?_ | refine cx (rfrom64_w d2 (by omega) (by omega)) ?_ | refine cx (rSame_e (a := m2) (b := m2) (by omega) (by omega) (decide_eq_true rfl)) ?_)) <;> ((try clear hXx); try exact gF))
  exact rqq1 rT
end Go.Proofs.YtfmebdmgnmogaaaGreatDoor
