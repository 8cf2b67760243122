/- Parse of rational numbers. No statement of its own. -/
import Derived.Test.YtfmebdmgnmogaaaGreatDoorQS5
set_option linter.unusedVariables false
set_option linter.unusedSimpArgs false
set_option linter.unusedSimpArgs false
set_option linter.unusedVariables false
set_option maxRecDepth 100000
set_option maxHeartbeats 8000000
namespace Go.Proofs.YtfmebdmgnmogaaaGreatDoor
open Go Go.RowKit Hv

theorem ix_n {l : List UInt8} (h : (47 : UInt8) ∉ l) : Lib.indexByte l 47 = -1 := by
  induction l with
  | nil => rfl
  | cons c l ih =>
    rw [List.mem_cons, not_or] at h
    have h1 : (c == 47) = false := by simpa using fun e => h.1 e.symm
    simp only [Lib.indexByte, h1, ih h.2]
    rfl
theorem ix_y {f g : List UInt8} (h : (47 : UInt8) ∉ f) : Lib.indexByte (f ++ 47 :: g) 47 = (f.length : Int) := by
  induction f with
  | nil => rfl
  | cons c f ih =>
    rw [List.mem_cons, not_or] at h
    have h1 : (c == 47) = false := by simpa using fun e => h.1 e.symm
    have ih2 := ih h.2
    have h2 : ((f.length : Int) == -1) = false := by
      rw [beq_eq_false_iff_ne]; omega
    rw [List.cons_append]
    simp only [Lib.indexByte, h1, ih2, h2]
    show (f.length : Int) + 1 = ((f.length + 1 : Nat) : Int)
    omega
theorem split_slash (l : List UInt8) : (47 : UInt8) ∉ l ∨ ∃ f g, (47 : UInt8) ∉ f ∧ l = f ++ 47 :: g := by
  induction l with
  | nil => exact .inl (by simp)
  | cons c l ih =>
    by_cases h : c = 47
    · subst h
      exact .inr ⟨[], l, by simp, rfl⟩
    · rcases ih with h1 | ⟨f, g, h1, rfl⟩
      · refine .inl ?_
        rw [List.mem_cons, not_or]
        exact ⟨fun e => h e.symm, h1⟩
      · refine .inr ⟨c :: f, g, ?_, rfl⟩
        rw [List.mem_cons, not_or]
        exact ⟨fun e => h e.symm, h1⟩
theorem scut_n {l : List UInt8} (h : (47 : UInt8) ∉ l) : HCallsD Tryz.prog 77 [] [.raw (.string (bs l)), .raw (.string (bs [47]))] (.tup [.raw (.string (bs l)), .raw (.string (bs [])), .raw (.bool false)]) [] := by
  refine cp2 (rs := [.tmp 4, .tmp 5, .tmp 6]) (nt := 13) Tryz.func77 (fun C hP hn => ?_)
  ((repeat' (first | refine gW ?_ | (refine gIf ?_ ?_ <;> (intro hc; try exact gX)) | with_reducible refine br_intro ?_ ?_ | (with_reducible intro _; try exact gX) | with_reducible refine ands_intro ?_ ?_ | refine cx (cut_n (ix_n h) (by omega)) ?_)) <;> (try exact gF))
  exact rqq3 rT rT rT
theorem scut_y {l f g : List UInt8} (e : l = f ++ 47 :: g) (h : (47 : UInt8) ∉ f) (hl : l.length ≤ 100000) : HCallsD Tryz.prog 77 [] [.raw (.string (bs l)), .raw (.string (bs [47]))] (.tup [.raw (.string (bs f)), .raw (.string (bs g)), .raw (.bool true)]) [] := by
  have c := cut_y (l := l) (i := f.length) hl (by rw [e]; exact ix_y h) (by rw [e, List.length_append, List.length_cons]; omega)
  have e1 : l.take f.length = f := by rw [e, List.take_left]
  have e2 : l.drop (f.length + 1) = g := by rw [e, ← List.drop_drop, List.drop_left]; rfl
  rw [e1, e2] at c
  refine cp2 (rs := [.tmp 4, .tmp 5, .tmp 6]) (nt := 13) Tryz.func77 (fun C hP hn => ?_)
  ((repeat' (first | refine gW ?_ | (refine gIf ?_ ?_ <;> (intro hc; try exact gX)) | with_reducible refine br_intro ?_ ?_ | (with_reducible intro _; try exact gX) | with_reducible refine ands_intro ?_ ?_ | refine cx (c) ?_)) <;> (try exact gF))
  exact rqq3 rT rT rT
theorem pe_cases (l : List UInt8) : pe l = 0 ∨ pe l = 2 := by
  by_cases h : okP l
  · exact .inl (pz_yes h).2
  · exact .inr (pz_no h).2
/-- No slash: an integer. -/
theorem xparse_1 {l : List UInt8} {p one : Int} (h : (47 : UInt8) ∉ l) (hl : l.length ≤ 1000) (h1 : 1 = one) (hp : pz l = p) (he : pe l = 0) : HCallsD Tryz.prog 36 [] [.raw (.string (bs l))] (.tup [aR p one, .raw (.int .i64 0)]) [] := by
  refine cp1 (rs := [.cell 2 26, .tmp 3]) (nt := 53) Tryz.func36 (fun C hP hn => ?_)
  ((repeat' (first | refine gW ?_ | (refine gIf ?_ ?_ <;> (intro hc; try exact gX)) | with_reducible refine br_intro ?_ ?_ | (with_reducible intro _; try exact gX) | with_reducible refine ands_intro ?_ ?_ | refine cx (scut_n h) ?_ | refine cx (parse_e hl hp he) ?_ | refine cx (whole_c (z := p) h1) ?_)) <;> (try exact gF))
  exact rqq2 (rC ty26) rT
theorem xparse_2 {l : List UInt8} (h : (47 : UInt8) ∉ l) (hl : l.length ≤ 1000) (he : pe l = 2) : HCallsD Tryz.prog 36 [] [.raw (.string (bs l))] (.tup [aR 0 0, .raw (.int .i64 2)]) [] := by
  obtain ⟨p, hp⟩ : ∃ p, pz l = p := ⟨_, rfl⟩
  refine cp1 (rs := [.cell 2 26, .tmp 3]) (nt := 53) Tryz.func36 (fun C hP hn => ?_)
  ((repeat' (first | refine gW ?_ | (refine gIf ?_ ?_ <;> (intro hc; try exact gX)) | with_reducible refine br_intro ?_ ?_ | (with_reducible intro _; try exact gX) | with_reducible refine ands_intro ?_ ?_ | refine cx (scut_n h) ?_ | refine cx (parse_e hl hp he) ?_)) <;> (try exact gF))
  exact rqq2 (rC ty26) rT
theorem xparse_3 {l f g : List UInt8} (e : l = f ++ 47 :: g) (h : (47 : UInt8) ∉ f) (hl : l.length ≤ 1000) (he : pe f = 2) : HCallsD Tryz.prog 36 [] [.raw (.string (bs l))] (.tup [aR 0 0, .raw (.int .i64 2)]) [] := by
  obtain ⟨p, hp⟩ : ∃ p, pz f = p := ⟨_, rfl⟩
  have hlen : l.length = f.length + (g.length + 1) := by rw [e, List.length_append, List.length_cons]
  refine cp1 (rs := [.cell 2 26, .tmp 3]) (nt := 53) Tryz.func36 (fun C hP hn => ?_)
  ((repeat' (first | refine gW ?_ | (refine gIf ?_ ?_ <;> (intro hc; try exact gX)) | with_reducible refine br_intro ?_ ?_ | (with_reducible intro _; try exact gX) | with_reducible refine ands_intro ?_ ?_ | refine cx (scut_y e h (by omega)) ?_ | refine cx (parse_e (l := f) (by omega) hp he) ?_)) <;> (try exact gF))
  exact rqq2 (rC ty26) rT
theorem xparse_4 {l f g : List UInt8} (e : l = f ++ 47 :: g) (h : (47 : UInt8) ∉ f) (hl : l.length ≤ 1000) (he : pe f = 0) (he2 : pe g = 2) : HCallsD Tryz.prog 36 [] [.raw (.string (bs l))] (.tup [aR 0 0, .raw (.int .i64 2)]) [] := by
  obtain ⟨p, hp⟩ : ∃ p, pz f = p := ⟨_, rfl⟩
  obtain ⟨q, hq⟩ : ∃ p, pz g = p := ⟨_, rfl⟩
  have hlen : l.length = f.length + (g.length + 1) := by rw [e, List.length_append, List.length_cons]
  refine cp1 (rs := [.cell 2 26, .tmp 3]) (nt := 53) Tryz.func36 (fun C hP hn => ?_)
  ((repeat' (first | refine gW ?_ | (refine gIf ?_ ?_ <;> (intro hc; try exact gX)) | with_reducible refine br_intro ?_ ?_ | (with_reducible intro _; try exact gX) | with_reducible refine ands_intro ?_ ?_ | refine cx (scut_y e h (by omega)) ?_ | refine cx (parse_e (l := f) (by omega) hp he) ?_ | refine cx (parse_e (l := g) (by omega) hq he2) ?_)) <;> (try exact gF))
  exact rqq2 (rC ty26) rT
theorem cmp_le {a b : Int} (h : a ≤ b) : ∃ c, cmpI a b = c ∧ c ≤ 0 := ⟨_, rfl, by unfold cmpI; split <;> (try split) <;> omega⟩
theorem xparse_5 {l f g : List UInt8} {q : Int} (e : l = f ++ 47 :: g) (h : (47 : UInt8) ∉ f) (hl : l.length ≤ 1000) (he : pe f = 0) (he2 : pe g = 0) (hq : pz g = q) (hq1 : q ≤ 1) : HCallsD Tryz.prog 36 [] [.raw (.string (bs l))] (.tup [aR 0 0, .raw (.int .i64 2)]) [] := by
  obtain ⟨p, hp⟩ : ∃ p, pz f = p := ⟨_, rfl⟩
  obtain ⟨one, h1⟩ : ∃ z : Int, 1 = z := ⟨_, rfl⟩
  have b3 := one_len h1
  obtain ⟨c, hcc, c0⟩ := cmp_le (a := q) (b := one) (by omega)
  have lp := pz_len f
  have lq := pz_len g
  rw [hp] at lp
  rw [hq] at lq
  have hlen : l.length = f.length + (g.length + 1) := by rw [e, List.length_append, List.length_cons]
  refine cp1 (rs := [.cell 2 26, .tmp 3]) (nt := 53) Tryz.func36 (fun C hP hn => ?_)
  ((repeat' (first | refine gW ?_ | (refine gIf ?_ ?_ <;> (intro hc; try exact gX)) | with_reducible refine br_intro ?_ ?_ | (with_reducible intro _; try exact gX) | with_reducible refine ands_intro ?_ ?_ | refine cx (scut_y e h (by omega)) ?_ | refine cx (parse_e (l := f) (by omega) hp he) ?_ | refine cx (parse_e (l := g) (by omega) hq he2) ?_ | refine cx (unit_w h1) ?_ | refine cx (icmp_e (za := q) (zb := one) (by rfl) (by rfl) (by rfl) (by omega) (by rfl) (by rfl) (by rfl) (by omega) hcc) ?_)) <;> (try exact gF))
  exact rqq2 (rC ty26) rT
theorem xparse_6 {l f g : List UInt8} {p q : Int} (e : l = f ++ 47 :: g) (h : (47 : UInt8) ∉ f) (hl : l.length ≤ 1000) (he : pe f = 0) (he2 : pe g = 0) (hp : pz f = p) (hq : pz g = q) (hq1 : 1 < q) (hgn : gI p q ≠ 1) : HCallsD Tryz.prog 36 [] [.raw (.string (bs l))] (.tup [aR 0 0, .raw (.int .i64 2)]) [] := by
  obtain ⟨one, h1⟩ : ∃ z : Int, 1 = z := ⟨_, rfl⟩
  obtain ⟨d, hd⟩ : ∃ z : Int, gI p q = z := ⟨_, rfl⟩
  have b3 := one_len h1
  have lp := pz_len f
  have lq := pz_len g
  rw [hp] at lp
  rw [hq] at lq
  have hlen : l.length = f.length + (g.length + 1) := by rw [e, List.length_append, List.length_cons]
  have d0 : 0 < d := hd ▸ gI_pos (by omega)
  have d1 : d ≤ q := hd ▸ gI_le_r (by omega)
  have ld : (dig (d.natAbs : Int)).length ≤ 1000 := Nat.le_trans (dig_le (by omega) (by omega)) (Nat.le_trans lq (by omega))
  refine cp1 (rs := [.cell 2 26, .tmp 3]) (nt := 53) Tryz.func36 (fun C hP hn => ?_)
  ((repeat' (first | refine gW ?_ | (refine gIf ?_ ?_ <;> (intro hc; try exact gX)) | with_reducible refine br_intro ?_ ?_ | (with_reducible intro _; try exact gX) | with_reducible refine ands_intro ?_ ?_ | refine cx (scut_y e h (by omega)) ?_ | refine cx (parse_e (l := f) (by omega) hp he) ?_ | refine cx (parse_e (l := g) (by omega) hq he2) ?_ | refine cx (unit_w h1) ?_ | refine cx (icmp_e (za := q) (zb := one) (by rfl) (by rfl) (by rfl) (by omega) (by rfl) (by rfl) (by rfl) (by omega) (cmp_g (by omega))) ?_ | refine cx (igcd_e (za := p) (zb := q) (by rfl) (by rfl) (by rfl) (by omega) (by rfl) (by rfl) (by rfl) (by omega) hd) ?_ | refine cx (icmp_e (za := d) (zb := one) (by rfl) (by rfl) (by rfl) (by omega) (by rfl) (by rfl) (by rfl) (by omega) (cmp_g (by omega))) ?_)) <;> (try exact gF))
  exact rqq2 (rC ty26) rT
theorem xparse_7 {l f g : List UInt8} {p q : Int} (e : l = f ++ 47 :: g) (h : (47 : UInt8) ∉ f) (hl : l.length ≤ 1000) (he : pe f = 0) (he2 : pe g = 0) (hp : pz f = p) (hq : pz g = q) (hq1 : 1 < q) (hg1 : gI p q = 1) : HCallsD Tryz.prog 36 [] [.raw (.string (bs l))] (.tup [aR p q, .raw (.int .i64 0)]) [] := by
  obtain ⟨one, h1⟩ : ∃ z : Int, 1 = z := ⟨_, rfl⟩
  have hd : gI p q = one := hg1.trans h1
  have b3 := one_len h1
  have lp := pz_len f
  have lq := pz_len g
  rw [hp] at lp
  rw [hq] at lq
  have hlen : l.length = f.length + (g.length + 1) := by rw [e, List.length_append, List.length_cons]
  refine cp1 (rs := [.cell 2 26, .tmp 3]) (nt := 53) Tryz.func36 (fun C hP hn => ?_)
  ((repeat' (first | refine gW ?_ | (refine gIf ?_ ?_ <;> (intro hc; try exact gX)) | with_reducible refine br_intro ?_ ?_ | (with_reducible intro _; try exact gX) | with_reducible refine ands_intro ?_ ?_ | refine cx (scut_y e h (by omega)) ?_ | refine cx (parse_e (l := f) (by omega) hp he) ?_ | refine cx (parse_e (l := g) (by omega) hq he2) ?_ | refine cx (unit_w h1) ?_ | refine cx (icmp_e (za := q) (zb := one) (by rfl) (by rfl) (by rfl) (by omega) (by rfl) (by rfl) (by rfl) (by omega) (cmp_g (by omega))) ?_ | refine cx (igcd_e (za := p) (zb := q) (by rfl) (by rfl) (by rfl) (by omega) (by rfl) (by rfl) (by rfl) (by omega) hd) ?_ | refine cx (icmp_e (za := one) (zb := one) (by rfl) (by rfl) (by rfl) (by omega) (by rfl) (by rfl) (by rfl) (by omega) (cmp_e one)) ?_)) <;> (try exact gF))
  exact rqq2 (rC ty26) rT
theorem text_c {l : List UInt8} {p q : Int} (h : HCallsD Tryz.prog 36 [] [.raw (.string (bs l))] (.tup [aR p q, .raw (.int .i64 0)]) []) : HCallsD Tryz.prog 56 [] [.raw (.string (bs l))] (aR p q) [] := by
  refine cp1 (rs := [.cell 2 26]) (nt := 11) Tryz.func56 (fun C hP hn => ?_)
  ((repeat' (first | refine gW ?_ | (refine gIf ?_ ?_ <;> (intro hc; try exact gX)) | with_reducible refine br_intro ?_ ?_ | (with_reducible intro _; try exact gX) | with_reducible refine ands_intro ?_ ?_ | refine cx (h) ?_)) <;> (try exact gF))
  exact rqq1 (rC ty26)
end Go.Proofs.YtfmebdmgnmogaaaGreatDoor
