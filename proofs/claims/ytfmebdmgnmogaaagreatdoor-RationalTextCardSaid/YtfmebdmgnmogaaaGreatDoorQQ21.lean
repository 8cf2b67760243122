/- The law of texts of rational numbers. No statement of its own. -/
import Derived.Test.YtfmebdmgnmogaaaGreatDoorQQ20
set_option linter.unusedVariables false
set_option linter.unusedSimpArgs false
set_option linter.unusedSimpArgs false
set_option linter.unusedVariables false
set_option maxRecDepth 100000
set_option maxHeartbeats 8000000
namespace Go.Proofs.YtfmebdmgnmogaaaGreatDoor
open Go Go.RowKit Hv

theorem pr_len {l : List UInt8} {r : HV} (hl : l.length ≤ 200) (hr : PR l r) : (∃ e : Int, e ≠ 0 ∧ r = .tup [aR 0 0, .raw (.int .i64 e)]) ∨ ∃ p q : Int, RL p q 300 ∧ r = .tup [aR p q, .raw (.int .i64 0)] := by
  rcases hr with ⟨h, he, rfl⟩ | ⟨p, one, h, he, hp, h1, rfl⟩ | ⟨f, g, hf, e, k, rfl⟩ | ⟨f, g, p, q, hf, e, he, he2, hp, hq, h1, hg, rfl⟩
  · exact .inl ⟨2, by decide, rfl⟩
  · have := hp ▸ pz_len l
    have := one_len h1
    exact .inr ⟨p, one, ⟨by omega, by omega⟩, rfl⟩
  · exact .inl ⟨2, by decide, rfl⟩
  · have hlen : l.length = f.length + (g.length + 1) := by rw [e, List.length_append, List.length_cons]
    have := hp ▸ pz_len f
    have := hq ▸ pz_len g
    exact .inr ⟨p, q, ⟨by omega, by omega⟩, rfl⟩
theorem pr_text {p q : Int} {a : Rat} (ha : IsR p q a) : PR (tR p q) (.tup [aR p q, .raw (.int .i64 0)]) := by
  have q0 := ha.pos
  unfold tR
  split
  · rename_i h
    exact .inr (.inl ⟨p, q, tI_slash p, (tI_ok p).2.1, (tI_ok p).1, h.symm, rfl⟩)
  · rename_i h
    exact .inr (.inr (.inr ⟨tI p, tI q, p, q, tI_slash p, by rw [List.append_assoc]; rfl, (tI_ok p).2.1, (tI_ok q).2.1, (tI_ok p).1, (tI_ok q).1, by omega, isR_gcd ha, rfl⟩))
theorem tR_len {p q : Int} {L : Nat} (l : RL p q L) : (tR p q).length ≤ 18 * L + 3 := by
  have h1 := (tI_ok p).2.2
  have h2 := (tI_ok q).2.2
  have := l.1
  have := l.2
  unfold tR
  split
  · omega
  · simp only [List.length_append, List.length_cons, List.length_nil]; omega
theorem lawXText_c {ba ca : Bool} {xa ya : List Int} {l : List UInt8} (hua : U32 xa) (hva : U32 ya) : HCallsD Tryz.prog 6 [] [.agg [.raw (.bool ba), .sl xa.length false (ints .u32 xa), .raw (.bool ca), .sl ya.length false (ints .u32 ya)], .raw (.string (bs l))] (.raw (.bool true)) [] := by
  cases hs : smallR ba xa ca ya
  · refine cp2 (rs := [.tmp 4]) (nt := 76) Tryz.func6 (fun C hP hn => ?_)
    ((repeat' (first | refine gW ?_ | (refine gIf ?_ ?_ <;> (intro hc; try exact gX)) | with_reducible refine br_intro ?_ ?_ | (with_reducible intro _; try exact gX) | with_reducible refine ands_intro ?_ ?_ | refine cx (xawake_c) ?_ | refine cx (small1R hua hva hs) ?_)) <;> (try exact gF))
    all_goals exact rqq1 rT
  · obtain ⟨p, q, a, ha, rfl, rfl, rfl, rfl, la⟩ := smallR_spec hs
    rcases Nat.lt_or_ge 200 l.length with hl | hl
    · refine cp2 (rs := [.tmp 4]) (nt := 76) Tryz.func6 (fun C hP hn => ?_)
      ((repeat' (first | refine gW ?_ | (refine gIf ?_ ?_ <;> (intro hc; try exact gX)) | with_reducible refine br_intro ?_ ?_ | (with_reducible intro _; try exact gX) | with_reducible refine ands_intro ?_ ?_ | refine cx (xawake_c) ?_ | refine cx (small1R hua hva hs) ?_)) <;> (try exact gF))
      all_goals exact rqq1 rT
    · obtain ⟨t, ht⟩ : ∃ t, tR p q = t := ⟨_, rfl⟩
      have tl := tR_len la
      have hp := pr_text ha
      rw [ht] at hp tl
      obtain ⟨r, hr⟩ := pr_ex l
      have l3 := la.mono (M := 1000) (by omega)
      rcases pr_len hl hr with ⟨e, e0, rfl⟩ | ⟨u, w, lu, rfl⟩
      · refine cp2 (rs := [.tmp 4]) (nt := 76) Tryz.func6 (fun C hP hn => ?_)
        (have hXx := And.intro @eq_self.{1} (And.intro @decide_true (@Bool.not_true)); (repeat' (first | refine gWx ?_ | (refine gIf ?_ ?_ <;> (intro hc; try exact gX)) | with_reducible refine br_intro ?_ ?_ | (with_reducible intro _; try exact gX) | with_reducible refine ands_intro ?_ ?_ | refine cx (xawake_c) ?_ | refine cx (small1R hua hva hs) ?_ | refine cx (xformat_c l3 ht) ?_ | refine cx (rxformat_c l3 ht) ?_ | refine cx (xparse_c (by omega) hp) ?_ | refine cx (xparse_c (by omega) hr) ?_ | refine cx (rxparse_c (by omega) hr) ?_ | refine cx (rxsame_t (la.mono (by omega))) ?_ | refine cx (zero_e) ?_)) <;> ((try clear hXx); try exact gF))
        all_goals exact rqq1 rT
      · refine cp2 (rs := [.tmp 4]) (nt := 76) Tryz.func6 (fun C hP hn => ?_)
        (have hXx := And.intro @eq_self.{1} (And.intro @decide_true (@Bool.not_true)); (repeat' (first | refine gWx ?_ | (refine gIf ?_ ?_ <;> (intro hc; try exact gX)) | with_reducible refine br_intro ?_ ?_ | (with_reducible intro _; try exact gX) | with_reducible refine ands_intro ?_ ?_ | refine cx (xawake_c) ?_ | refine cx (small1R hua hva hs) ?_ | refine cx (xformat_c l3 ht) ?_ | refine cx (rxformat_c l3 ht) ?_ | refine cx (xparse_c (by omega) hp) ?_ | refine cx (xparse_c (by omega) hr) ?_ | refine cx (rxparse_c (by omega) hr) ?_ | refine cx (rxsame_t (la.mono (by omega))) ?_ | refine cx (rxsame_t (lu.mono (by omega))) ?_ | refine cx (zero_e) ?_)) <;> ((try clear hXx); try exact gF))
        all_goals exact rqq1 rT
end Go.Proofs.YtfmebdmgnmogaaaGreatDoor
