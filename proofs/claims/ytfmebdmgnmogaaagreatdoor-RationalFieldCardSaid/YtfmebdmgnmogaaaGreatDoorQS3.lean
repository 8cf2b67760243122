/- Parse: the contract. No statement of its own. -/
import Derived.Test.YtfmebdmgnmogaaaGreatDoorQE3
set_option linter.unusedVariables false
set_option linter.unusedSimpArgs false
set_option linter.unusedSimpArgs false
set_option linter.unusedVariables false
set_option maxRecDepth 100000
set_option maxHeartbeats 8000000
namespace Go.Proofs.YtfmebdmgnmogaaaGreatDoor
open Go Go.RowKit Hv

theorem cut_len (l : List UInt8) : (cutP 45 l).length ≤ l.length ∧ (pre 45 l = true → l = 45 :: cutP 45 l) ∧ (pre 45 l = false → cutP 45 l = l) := by
  cases l with
  | nil => simp [cutP, pre]
  | cons c l =>
    by_cases h : c = 45
    · subst h
      simp [cutP, pre]
    · have : pre 45 (c :: l) = false := by simp [pre, h]
      simp [cutP, this]
theorem parse_nil {l : List UInt8} (hl : l.length ≤ 1000) (hB : cutP 45 l = []) : HCallsD Tryz.prog 78 [] [.raw (.string (bs l))] (.tup [aI (pz l), .raw (.int .i64 (pe l))]) [] := by
  obtain ⟨N, hN⟩ : ∃ N, pre 45 l = N := ⟨_, rfl⟩
  have hno : ¬ okP l := fun h => h.1 hB
  obtain ⟨e1, e2⟩ := pz_no hno
  rw [e1, e2]
  refine cp1 (rs := [.cell 2 24, .tmp 3]) (nt := 87) Tryz.func78 (fun C hP hn => ?_)
  ((repeat' (first | refine gW ?_ | (refine gIf ?_ ?_ <;> (intro hc; try exact gX)) | with_reducible refine br_intro ?_ ?_ | (with_reducible intro _; try exact gX) | with_reducible refine ands_intro ?_ ?_ | refine cx (str_e (p := 45) (l := l) (m := []) (r := N) (by omega) hB hN) ?_)) <;> (try exact gF))
  exact rqq2 (rC ty24) rT
theorem parse_zero {l B : List UInt8} (hl : l.length ≤ 1000) (hB : cutP 45 l = B) (h0 : 0 < B.length) (hno : ¬ okP l) (hz : ((B.getD 0 0).toNat : Int) = 48) (N : Bool) (hN : pre 45 l = N) (hc2 : 1 < B.length ∨ N = true) : HCallsD Tryz.prog 78 [] [.raw (.string (bs l))] (.tup [aI (pz l), .raw (.int .i64 (pe l))]) [] := by
  obtain ⟨e1, e2⟩ := pz_no hno
  rw [e1, e2]
  have hBl := hB ▸ (cut_len l).1
  have hne : B ≠ [] := by rintro rfl; exact absurd h0 (by decide)
  rcases Nat.lt_or_ge 1 B.length with h1 | h1
  · refine cp1 (rs := [.cell 2 24, .tmp 3]) (nt := 87) Tryz.func78 (fun C hP hn => ?_)
    (have hXx := And.intro @hne (@hz); (repeat' (first | refine gWx ?_ | (refine gIf ?_ ?_ <;> (intro hc; try exact gX)) | with_reducible refine br_intro ?_ ?_ | (with_reducible intro _; try exact gX) | with_reducible refine ands_intro ?_ ?_ | refine cx (str_e (p := 45) (l := l) (m := B) (r := N) (by omega) hB hN) ?_)) <;> ((try clear hXx); try exact gF))
    all_goals exact rqq2 (rC ty24) rT
  · obtain rfl : N = true := hc2.resolve_left (by omega)
    refine cp1 (rs := [.cell 2 24, .tmp 3]) (nt := 87) Tryz.func78 (fun C hP hn => ?_)
    (have hXx := And.intro @hne (@hz); (repeat' (first | refine gWx ?_ | (refine gIf ?_ ?_ <;> (intro hc; try exact gX)) | with_reducible refine br_intro ?_ ?_ | (with_reducible intro _; try exact gX) | with_reducible refine ands_intro ?_ ?_ | refine cx (str_e (p := 45) (l := l) (m := B) (r := true) (by omega) hB hN) ?_)) <;> ((try clear hXx); try exact gF))
    all_goals exact rqq2 (rC ty24) rT

theorem allD_step {B : List UInt8} {i : Nat} (h : allD (B.take i)) (hi : i < B.length) (h0 : ¬ ((B.getD i 0).toNat : Int) < 48) (h1 : ¬ ((B.getD i 0).toNat : Int) > 57) : allD (B.take (i + 1)) := by
  rw [List.take_add_one, List.getElem?_eq_getElem hi, Option.toList_some]
  intro c hc
  rcases List.mem_append.1 hc with h2 | h2
  · exact h c h2
  · rw [List.mem_singleton] at h2
    subst h2
    simp only [List.getD, List.getElem?_eq_getElem hi, Option.getD_some] at h0 h1
    omega
theorem allD_get {B : List UInt8} (h : allD B) {i : Nat} (hi : i < B.length) : 48 ≤ ((B.getD i 0).toNat : Int) ∧ ((B.getD i 0).toNat : Int) ≤ 57 := by
  have := h _ (List.getElem_mem hi)
  simp only [List.getD, List.getElem?_eq_getElem hi, Option.getD_some]
  omega
def un (l : List UInt8) : List Int := l.map fun c => (c.toNat : Int)
theorem un_c (l : List UInt8) : List.map (fun b : UInt8 => HV.raw (.int .u8 (b.toNat : Int))) (bs l).data.toList = ints .u8 (un l) := by simp [bs, un, ints]
theorem un_length (l : List UInt8) : (un l).length = l.length := by simp [un]
theorem un_getD (l : List UInt8) (j : Nat) : (un l).getD j 0 = ((l.getD j 0).toNat : Int) := by
  simp only [un, List.getD, List.getElem?_map]
  cases l[j]? <;> rfl
attribute [push_cast] un_c un_length un_getD
theorem p10_nine : p10 9 = 1000000000 := by decide
theorem chunk {B C : List UInt8} {e lo : Int} (he : 0 < e) (hB : e ≤ B.length) (h0 : 0 ≤ lo) (h1 : lo = 0 ∧ e ≤ 9 ∨ lo = e - 9) (hC : (B.take e.toNat).drop lo.toNat = C) (W S : Int) (n : Nat) (h : W = vd (B.take e.toNat) * P9 n + S) :
    W = vd (B.take (e - 9).toNat) * P9 (n + 1) + (S + P9 n * vd C) := by
  have e1 : B.take e.toNat = B.take lo.toNat ++ C := by
    rw [← hC]
    conv => lhs; rw [← List.take_append_drop lo.toNat (B.take e.toNat)]
    rw [List.take_take, Nat.min_eq_left (by omega)]
  have e2 : C.length = e.toNat - lo.toNat := by rw [← hC, List.length_drop, List.length_take]; omega
  rw [h, e1, vd_app]
  rcases h1 with ⟨rfl, h9⟩ | rfl
  · have e3 : (e - 9).toNat = 0 := by omega
    rw [e3]
    show (vd [] * _ + vd C) * P9 n + S = vd [] * _ + _
    rw [show vd [] = 0 from rfl, Int.zero_mul, Int.zero_mul, Int.zero_add, Int.zero_add, Int.mul_comm (vd C)]
    omega
  · rw [show C.length = 9 by omega, p10_nine]
    show _ = vd (B.take (e - 9).toNat) * (1000000000 * P9 n) + _
    rw [Int.add_mul, Int.mul_assoc, Int.mul_comm (vd C)]
    omega
def HZA (B : List UInt8) : Prop := ¬ ((B.getD 0 0).toNat : Int) = 48
def HZB (B : List UInt8) : Prop := ((B.getD 0 0).toNat : Int) = 48 ∧ B.length = 1
theorem no_digit {l B : List UInt8} (hok : okP l = allD B) {i : Nat} (hi : i < B.length) (h : ((B.getD i 0).toNat : Int) < 48 ∨ 57 < ((B.getD i 0).toNat : Int)) : pz l = 0 ∧ pe l = 2 := by
  refine pz_no fun ho => ?_
  have := allD_get (hok ▸ ho) hi
  omega
theorem chunk_len {B : List UInt8} {e lo : Int} (he : 0 < e) (hB : e ≤ B.length) (h0 : 0 ≤ lo) (h1 : lo ≤ e) : (((B.take e.toNat).drop lo.toNat).length : Int) = e - lo := by
  rw [List.length_drop, List.length_take]; omega
theorem vd_step {C : List UInt8} (h : allD C) {j : Nat} (hj : j < C.length) (h9 : C.length ≤ 9) : 0 ≤ vd (C.take j) ∧ vd (C.take j) < 100000000 ∧ vd (C.take (j + 1)) = 10 * vd (C.take j) + (((C.getD j 0).toNat : Int) - 48) := by
  have h1 := vd_bound (allD_take h j)
  have h2 : p10 (C.take j).length ≤ p10 8 := p10_le (by rw [List.length_take]; omega)
  have h3 : p10 8 = 100000000 := by decide
  exact ⟨h1.1, by omega, vd_take hj⟩
theorem vd_nine {C : List UInt8} (h : allD C) (h9 : C.length ≤ 9) : 0 ≤ vd C ∧ vd C < 1000000000 := by
  have h1 := vd_bound h
  have h2 : p10 C.length ≤ p10 9 := p10_le h9
  have h3 : p10 9 = 1000000000 := by decide
  exact ⟨h1.1, by omega⟩
theorem parse_mainA {l B : List UInt8} (hl : l.length ≤ 1000) (hB : cutP 45 l = B) (h0 : 0 < B.length) (N : Bool) (hN : pre 45 l = N) (hz : HZA B) (hok : okP l = allD B) : HCallsD Tryz.prog 78 [] [.raw (.string (bs l))] (.tup [aI (pz l), .raw (.int .i64 (pe l))]) [] := by
  have hBl := hB ▸ (cut_len l).1
  have hne : B ≠ [] := by rintro rfl; exact absurd h0 (by decide)
  unfold HZA at hz
  skip
  refine cp1 (rs := [.cell 2 24, .tmp 3]) (nt := 87) Tryz.func78 (fun C hP hn => ?_)
  (have hXx := And.intro @hne (@hz); (repeat' (first | refine gWx ?_ | (refine gIf ?_ ?_ <;> (intro hc; try exact gX)) | with_reducible refine br_intro ?_ ?_ | (with_reducible intro _; try exact gX) | with_reducible refine ands_intro ?_ ?_ | refine cx (str_e (p := 45) (l := l) (m := B) (by omega) hB hN) ?_)) <;> ((try clear hXx); try exact gF))
  refine hwp_loopS (fun i : Nat => ⟨lk [(2, .ptr 0 0), (4, .raw (.string (bs B))), (5, .raw (.bool N)), (39, .raw (.int .i64 B.length)), (40, .raw (.int .i64 i))],
    hlk [(0, { al := true, live := true, wb := true, elem := 24, cells := [.raw (.bool false), .sl 0 true []] })], 1, 87⟩)
    (fun i => i ≤ B.length ∧ allD (B.take i)) (fun i => B.length - i) ⟨0, ⟨Nat.zero_le _, by simp [allD]⟩, by exact cvG hn [(0, 0)]⟩ ?_
  rintro i ⟨g1, g2⟩
  rcases Nat.lt_or_ge i B.length with hi | hi
  · ((repeat' (first | refine gW ?_ | (refine gIf ?_ ?_ <;> (intro hc; try exact gX)) | with_reducible refine br_intro ?_ ?_ | (with_reducible intro _; try exact gX) | with_reducible refine ands_intro ?_ ?_)) <;> (try exact gF))
    · rw [(no_digit hok hi (by omega)).1, (no_digit hok hi (by omega)).2]
      exact rqq2 (rC ty24) rT
    · refine ⟨i + 1, by omega, ⟨by omega, allD_step g2 hi (by omega) (by omega)⟩, ?_⟩
      exact cvG hn [(0, 0)]
    · rw [(no_digit hok hi (by omega)).1, (no_digit hok hi (by omega)).2]
      exact rqq2 (rC ty24) rT
  · have hall : allD B := by rw [List.take_of_length_le (by omega)] at g2; exact g2
    have hyes := pz_yes (l := l) (by rw [hok]; exact hall)
    rw [hB, hN] at hyes
    have hvd := vd_bound hall
    rw [hyes.1, hyes.2]
    ((repeat' (first | refine gW ?_ | (refine gIf ?_ ?_ <;> (intro hc; try exact gX)) | with_reducible refine br_intro ?_ ?_ | (with_reducible intro _; try exact gX) | with_reducible refine ands_intro ?_ ?_)) <;> (try exact gF))
    refine hwp_loopS (fun x : Int ⊕ (List Int × Int) => match x with
      | .inl e => ⟨lk [(2, .ptr 0 0), (4, .raw (.string (bs B))), (5, .raw (.bool N)), (7, .sl 0 true []), (8, .raw (.int .i64 e))],
        hlk [(0, { al := true, live := true, wb := true, elem := 24, cells := [.raw (.bool false), .sl 0 true []] })], 1, 87⟩
      | .inr (out, e) => ⟨lk [(2, .ptr 0 0), (4, .raw (.string (bs B))), (5, .raw (.bool N)), (7, .own 1 0 out.length false), (8, .raw (.int .i64 e))],
        hlk [(0, { al := true, live := true, wb := true, elem := 24, cells := [.raw (.bool false), .sl 0 true []] }), (1, { al := true, live := true, wb := true, grow := true, elem := 62, sz := 1, cells := ints .u32 out })], 2, 87⟩)
      (fun x => match x with
        | .inl e => e = (B.length : Int)
        | .inr (out, e) => -9 ≤ e ∧ e ≤ B.length ∧ Lim out ∧ out.length + e ≤ 1000 ∧ vd B = vd (B.take e.toNat) * P9 out.length + V out)
      (fun x => match x with | .inl e => e.toNat + 10 | .inr (_, e) => (e + 9).toNat)
      ⟨.inl (B.length : Int), rfl, by exact cvG hn [(0, 0)]⟩ ?_
    rintro (e | ⟨out, e⟩) hI
    · have hI2 : e = (B.length : Int) := hI
      have hIe : vd B = vd (B.take e.toNat) * P9 0 + 0 := by rw [hI2, List.take_of_length_le (by omega)]; simp [P9]
      obtain ⟨lo, hlo⟩ : ∃ lo : Int, (if e - 9 > 0 then e - 9 else 0) = lo := ⟨_, rfl⟩
      have hlo2 : 0 ≤ lo ∧ (lo = 0 ∧ e ≤ 9 ∨ lo = e - 9) := by rw [← hlo]; split <;> omega
      obtain ⟨C, hC⟩ : ∃ C, (B.take e.toNat).drop lo.toNat = C := ⟨_, rfl⟩
      have hCl := chunk_len (B := B) (e := e) (lo := lo) (by omega) (by omega) hlo2.1 (by omega)
      rw [hC] at hCl
      have hC9 : C.length ≤ 9 := by omega
      have hul := un_length C
      have hCd : allD C := hC ▸ allD_drop (allD_take hall _) _
      have hck := chunk (by omega) (by omega) hlo2.1 hlo2.2 hC _ _ _ hIe
      (have hXx := And.intro @hlo (@hC); (repeat' (first | refine gWx ?_ | (refine gIf ?_ ?_ <;> (intro hc; try exact gX)) | with_reducible refine br_intro ?_ ?_ | (with_reducible intro _; try exact gX) | with_reducible refine ands_intro ?_ ?_)) <;> ((try clear hXx); try exact gF))
      refine hwp_loopS (fun j : Nat => ⟨lk [(2, .ptr 0 0), (4, .raw (.string (bs B))), (5, .raw (.bool N)), (7, .sl 0 true []), (8, .raw (.int .i64 e)), (9, .raw (.int .u32 (vd (C.take j)))), (67, .sl C.length false (ints .u8 (un C))), (68, .raw (.int .i64 C.length)), (69, .raw (.int .i64 j))],
        hlk [(0, { al := true, live := true, wb := true, elem := 24, cells := [.raw (.bool false), .sl 0 true []] })], 1, 87⟩)
        (fun j => j ≤ C.length) (fun j => C.length - j) ⟨0, Nat.zero_le _, by exact cvG hn [(0, 0)]⟩ ?_
      intro j hj
      rcases Nat.lt_or_ge j C.length with hj2 | hj2
      · obtain ⟨v1, v2, v3⟩ := vd_step hCd hj2 hC9
        have v4 := allD_get hCd hj2
        ((repeat' (first | refine gW ?_ | (refine gIf ?_ ?_ <;> (intro hc; try exact gX)) | with_reducible refine br_intro ?_ ?_ | (with_reducible intro _; try exact gX) | with_reducible refine ands_intro ?_ ?_)) <;> (try exact gF))
        refine ⟨j + 1, by omega, by omega, ?_⟩
        rw [v3]
        exact cvG hn [(0, 0)]
      · obtain rfl : j = C.length := by omega
        rw [List.take_of_length_le (Nat.le_refl _)]
        have v5 := vd_nine hCd hC9
        ((repeat' (first | refine gW ?_ | (refine gIf ?_ ?_ <;> (intro hc; try exact gX)) | with_reducible refine br_intro ?_ ?_ | (with_reducible intro _; try exact gX) | with_reducible refine ands_intro ?_ ?_)) <;> (try exact gF))
        refine ⟨.inr ([vd C], e - 9), by first | omega | (simp only; omega), ⟨by first | omega | (simp only; omega), by first | omega | (simp only; omega), .cons v5.1 v5.2 .nil, by simp only [List.length_cons, List.length_nil]; omega, ?_⟩, ?_⟩
        · show vd B = vd (B.take (e - 9).toNat) * P9 1 + (vd C + 1000000000 * 0)
          rw [hck]
          simp only [P9]
          omega
        · exact cvS hn (.own 1 7 rfl .nil)
    · obtain ⟨k1, k2, k3, k4, k5⟩ := hI
      have hnn := (V_nonneg k3)
      rcases Int.lt_or_le 0 e with he | he
      · obtain ⟨lo, hlo⟩ : ∃ lo : Int, (if e - 9 > 0 then e - 9 else 0) = lo := ⟨_, rfl⟩
        have hlo2 : 0 ≤ lo ∧ (lo = 0 ∧ e ≤ 9 ∨ lo = e - 9) := by rw [← hlo]; split <;> omega
        obtain ⟨C, hC⟩ : ∃ C, (B.take e.toNat).drop lo.toNat = C := ⟨_, rfl⟩
        have hCl := chunk_len (B := B) (e := e) (lo := lo) (by omega) (by omega) hlo2.1 (by omega)
        rw [hC] at hCl
        have hC9 : C.length ≤ 9 := by omega
        have hul := un_length C
        have hCd : allD C := hC ▸ allD_drop (allD_take hall _) _
        have hck := chunk (by omega) (by omega) hlo2.1 hlo2.2 hC _ _ _ k5
        (have hXx := And.intro @hlo (@hC); (repeat' (first | refine gWx ?_ | (refine gIf ?_ ?_ <;> (intro hc; try exact gX)) | with_reducible refine br_intro ?_ ?_ | (with_reducible intro _; try exact gX) | with_reducible refine ands_intro ?_ ?_)) <;> ((try clear hXx); try exact gF))
        refine hwp_loopS (fun j : Nat => ⟨lk [(2, .ptr 0 0), (4, .raw (.string (bs B))), (5, .raw (.bool N)), (7, .own 1 0 out.length false), (8, .raw (.int .i64 e)), (9, .raw (.int .u32 (vd (C.take j)))), (67, .sl C.length false (ints .u8 (un C))), (68, .raw (.int .i64 C.length)), (69, .raw (.int .i64 j))],
          hlk [(0, { al := true, live := true, wb := true, elem := 24, cells := [.raw (.bool false), .sl 0 true []] }), (1, { al := true, live := true, wb := true, grow := true, elem := 62, sz := 1, cells := ints .u32 out })], 2, 87⟩)
          (fun j => j ≤ C.length) (fun j => C.length - j) ⟨0, Nat.zero_le _, by exact cvS hn (.ptr 0 2 rfl (.own 1 7 rfl .nil))⟩ ?_
        intro j hj
        rcases Nat.lt_or_ge j C.length with hj2 | hj2
        · obtain ⟨v1, v2, v3⟩ := vd_step hCd hj2 hC9
          have v4 := allD_get hCd hj2
          ((repeat' (first | refine gW ?_ | (refine gIf ?_ ?_ <;> (intro hc; try exact gX)) | with_reducible refine br_intro ?_ ?_ | (with_reducible intro _; try exact gX) | with_reducible refine ands_intro ?_ ?_)) <;> (try exact gF))
          refine ⟨j + 1, by omega, by omega, ?_⟩
          rw [v3]
          exact cvS hn (.ptr 0 2 rfl (.own 1 7 rfl .nil))
        · obtain rfl : j = C.length := by omega
          rw [List.take_of_length_le (Nat.le_refl _)]
          have v5 := vd_nine hCd hC9
          ((repeat' (first | refine gW ?_ | (refine gIf ?_ ?_ <;> (intro hc; try exact gX)) | with_reducible refine br_intro ?_ ?_ | (with_reducible intro _; try exact gX) | with_reducible refine ands_intro ?_ ?_)) <;> (try exact gF))
          refine ⟨.inr (out ++ [vd C], e - 9), by first | omega | (simp only; omega), ⟨by first | omega | (simp only; omega), by first | omega | (simp only; omega), k3.app (.cons v5.1 v5.2 .nil), by simp only [List.length_append, List.length_cons, List.length_nil]; omega, ?_⟩, ?_⟩
          · simp only [List.length_append, List.length_cons, List.length_nil, Nat.zero_add]
            rw [V_snoc]
            exact hck
          · exact cvS hn (.ptr 0 2 rfl (.own 1 7 rfl .nil))
      · have e0 : e.toNat = 0 := by omega
        rw [e0] at k5
        have k6 : V out = vd B := by rw [k5]; show _ = vd [] * _ + _; rw [show vd [] = 0 from rfl]; omega
        ((repeat' (first | refine gW ?_ | (refine gIf ?_ ?_ <;> (intro hc; try exact gX)) | with_reducible refine br_intro ?_ ?_ | (with_reducible intro _; try exact gX) | with_reducible refine ands_intro ?_ ?_ | refine cx (signed_e (by rfl) (by omega) k3 (z := sgnd N (vd B)) (by rw [k6])) ?_)) <;> (try exact gF))
        exact rqq2 (rC ty24) rT
theorem parse_mainB {l B : List UInt8} (hl : l.length ≤ 1000) (hB : cutP 45 l = B) (h0 : 0 < B.length) (N : Bool) (hN : pre 45 l = false) (hz : HZB B) (hok : okP l = allD B) : HCallsD Tryz.prog 78 [] [.raw (.string (bs l))] (.tup [aI (pz l), .raw (.int .i64 (pe l))]) [] := by
  have hBl := hB ▸ (cut_len l).1
  have hne : B ≠ [] := by rintro rfl; exact absurd h0 (by decide)
  unfold HZB at hz
  obtain ⟨hz, h1⟩ := hz
  refine cp1 (rs := [.cell 2 24, .tmp 3]) (nt := 87) Tryz.func78 (fun C hP hn => ?_)
  (have hXx := And.intro @hne (@hz); (repeat' (first | refine gWx ?_ | (refine gIf ?_ ?_ <;> (intro hc; try exact gX)) | with_reducible refine br_intro ?_ ?_ | (with_reducible intro _; try exact gX) | with_reducible refine ands_intro ?_ ?_ | refine cx (str_e (p := 45) (l := l) (m := B) (by omega) hB hN) ?_)) <;> ((try clear hXx); try exact gF))
  refine hwp_loopS (fun i : Nat => ⟨lk [(2, .ptr 0 0), (4, .raw (.string (bs B))), (5, .raw (.bool false)), (39, .raw (.int .i64 B.length)), (40, .raw (.int .i64 i))],
    hlk [(0, { al := true, live := true, wb := true, elem := 24, cells := [.raw (.bool false), .sl 0 true []] })], 1, 87⟩)
    (fun i => i ≤ B.length ∧ allD (B.take i)) (fun i => B.length - i) ⟨0, ⟨Nat.zero_le _, by simp [allD]⟩, by exact cvG hn [(0, 0)]⟩ ?_
  rintro i ⟨g1, g2⟩
  rcases Nat.lt_or_ge i B.length with hi | hi
  · ((repeat' (first | refine gW ?_ | (refine gIf ?_ ?_ <;> (intro hc; try exact gX)) | with_reducible refine br_intro ?_ ?_ | (with_reducible intro _; try exact gX) | with_reducible refine ands_intro ?_ ?_)) <;> (try exact gF))
    · rw [(no_digit hok hi (by omega)).1, (no_digit hok hi (by omega)).2]
      exact rqq2 (rC ty24) rT
    · refine ⟨i + 1, by omega, ⟨by omega, allD_step g2 hi (by omega) (by omega)⟩, ?_⟩
      exact cvG hn [(0, 0)]
    · rw [(no_digit hok hi (by omega)).1, (no_digit hok hi (by omega)).2]
      exact rqq2 (rC ty24) rT
  · have hall : allD B := by rw [List.take_of_length_le (by omega)] at g2; exact g2
    have hyes := pz_yes (l := l) (by rw [hok]; exact hall)
    rw [hB, hN] at hyes
    have hvd := vd_bound hall
    rw [hyes.1, hyes.2]
    ((repeat' (first | refine gW ?_ | (refine gIf ?_ ?_ <;> (intro hc; try exact gX)) | with_reducible refine br_intro ?_ ?_ | (with_reducible intro _; try exact gX) | with_reducible refine ands_intro ?_ ?_)) <;> (try exact gF))
    refine hwp_loopS (fun x : Int ⊕ (List Int × Int) => match x with
      | .inl e => ⟨lk [(2, .ptr 0 0), (4, .raw (.string (bs B))), (5, .raw (.bool false)), (7, .sl 0 true []), (8, .raw (.int .i64 e))],
        hlk [(0, { al := true, live := true, wb := true, elem := 24, cells := [.raw (.bool false), .sl 0 true []] })], 1, 87⟩
      | .inr (out, e) => ⟨lk [(2, .ptr 0 0), (4, .raw (.string (bs B))), (5, .raw (.bool false)), (7, .own 1 0 out.length false), (8, .raw (.int .i64 e))],
        hlk [(0, { al := true, live := true, wb := true, elem := 24, cells := [.raw (.bool false), .sl 0 true []] }), (1, { al := true, live := true, wb := true, grow := true, elem := 62, sz := 1, cells := ints .u32 out })], 2, 87⟩)
      (fun x => match x with
        | .inl e => e = (B.length : Int)
        | .inr (out, e) => -9 ≤ e ∧ e ≤ B.length ∧ Lim out ∧ out.length + e ≤ 1000 ∧ vd B = vd (B.take e.toNat) * P9 out.length + V out)
      (fun x => match x with | .inl e => e.toNat + 10 | .inr (_, e) => (e + 9).toNat)
      ⟨.inl (B.length : Int), rfl, by exact cvG hn [(0, 0)]⟩ ?_
    rintro (e | ⟨out, e⟩) hI
    · have hI2 : e = (B.length : Int) := hI
      have hIe : vd B = vd (B.take e.toNat) * P9 0 + 0 := by rw [hI2, List.take_of_length_le (by omega)]; simp [P9]
      obtain ⟨lo, hlo⟩ : ∃ lo : Int, (if e - 9 > 0 then e - 9 else 0) = lo := ⟨_, rfl⟩
      have hlo2 : 0 ≤ lo ∧ (lo = 0 ∧ e ≤ 9 ∨ lo = e - 9) := by rw [← hlo]; split <;> omega
      obtain ⟨C, hC⟩ : ∃ C, (B.take e.toNat).drop lo.toNat = C := ⟨_, rfl⟩
      have hCl := chunk_len (B := B) (e := e) (lo := lo) (by omega) (by omega) hlo2.1 (by omega)
      rw [hC] at hCl
      have hC9 : C.length ≤ 9 := by omega
      have hul := un_length C
      have hCd : allD C := hC ▸ allD_drop (allD_take hall _) _
      have hck := chunk (by omega) (by omega) hlo2.1 hlo2.2 hC _ _ _ hIe
      (have hXx := And.intro @hlo (@hC); (repeat' (first | refine gWx ?_ | (refine gIf ?_ ?_ <;> (intro hc; try exact gX)) | with_reducible refine br_intro ?_ ?_ | (with_reducible intro _; try exact gX) | with_reducible refine ands_intro ?_ ?_)) <;> ((try clear hXx); try exact gF))
      refine hwp_loopS (fun j : Nat => ⟨lk [(2, .ptr 0 0), (4, .raw (.string (bs B))), (5, .raw (.bool false)), (7, .sl 0 true []), (8, .raw (.int .i64 e)), (9, .raw (.int .u32 (vd (C.take j)))), (67, .sl C.length false (ints .u8 (un C))), (68, .raw (.int .i64 C.length)), (69, .raw (.int .i64 j))],
        hlk [(0, { al := true, live := true, wb := true, elem := 24, cells := [.raw (.bool false), .sl 0 true []] })], 1, 87⟩)
        (fun j => j ≤ C.length) (fun j => C.length - j) ⟨0, Nat.zero_le _, by exact cvG hn [(0, 0)]⟩ ?_
      intro j hj
      rcases Nat.lt_or_ge j C.length with hj2 | hj2
      · obtain ⟨v1, v2, v3⟩ := vd_step hCd hj2 hC9
        have v4 := allD_get hCd hj2
        ((repeat' (first | refine gW ?_ | (refine gIf ?_ ?_ <;> (intro hc; try exact gX)) | with_reducible refine br_intro ?_ ?_ | (with_reducible intro _; try exact gX) | with_reducible refine ands_intro ?_ ?_)) <;> (try exact gF))
        refine ⟨j + 1, by omega, by omega, ?_⟩
        rw [v3]
        exact cvG hn [(0, 0)]
      · obtain rfl : j = C.length := by omega
        rw [List.take_of_length_le (Nat.le_refl _)]
        have v5 := vd_nine hCd hC9
        ((repeat' (first | refine gW ?_ | (refine gIf ?_ ?_ <;> (intro hc; try exact gX)) | with_reducible refine br_intro ?_ ?_ | (with_reducible intro _; try exact gX) | with_reducible refine ands_intro ?_ ?_)) <;> (try exact gF))
        refine ⟨.inr ([vd C], e - 9), by first | omega | (simp only; omega), ⟨by first | omega | (simp only; omega), by first | omega | (simp only; omega), .cons v5.1 v5.2 .nil, by simp only [List.length_cons, List.length_nil]; omega, ?_⟩, ?_⟩
        · show vd B = vd (B.take (e - 9).toNat) * P9 1 + (vd C + 1000000000 * 0)
          rw [hck]
          simp only [P9]
          omega
        · exact cvS hn (.own 1 7 rfl .nil)
    · obtain ⟨k1, k2, k3, k4, k5⟩ := hI
      have hnn := (V_nonneg k3)
      rcases Int.lt_or_le 0 e with he | he
      · obtain ⟨lo, hlo⟩ : ∃ lo : Int, (if e - 9 > 0 then e - 9 else 0) = lo := ⟨_, rfl⟩
        have hlo2 : 0 ≤ lo ∧ (lo = 0 ∧ e ≤ 9 ∨ lo = e - 9) := by rw [← hlo]; split <;> omega
        obtain ⟨C, hC⟩ : ∃ C, (B.take e.toNat).drop lo.toNat = C := ⟨_, rfl⟩
        have hCl := chunk_len (B := B) (e := e) (lo := lo) (by omega) (by omega) hlo2.1 (by omega)
        rw [hC] at hCl
        have hC9 : C.length ≤ 9 := by omega
        have hul := un_length C
        have hCd : allD C := hC ▸ allD_drop (allD_take hall _) _
        have hck := chunk (by omega) (by omega) hlo2.1 hlo2.2 hC _ _ _ k5
        (have hXx := And.intro @hlo (@hC); (repeat' (first | refine gWx ?_ | (refine gIf ?_ ?_ <;> (intro hc; try exact gX)) | with_reducible refine br_intro ?_ ?_ | (with_reducible intro _; try exact gX) | with_reducible refine ands_intro ?_ ?_)) <;> ((try clear hXx); try exact gF))
        refine hwp_loopS (fun j : Nat => ⟨lk [(2, .ptr 0 0), (4, .raw (.string (bs B))), (5, .raw (.bool false)), (7, .own 1 0 out.length false), (8, .raw (.int .i64 e)), (9, .raw (.int .u32 (vd (C.take j)))), (67, .sl C.length false (ints .u8 (un C))), (68, .raw (.int .i64 C.length)), (69, .raw (.int .i64 j))],
          hlk [(0, { al := true, live := true, wb := true, elem := 24, cells := [.raw (.bool false), .sl 0 true []] }), (1, { al := true, live := true, wb := true, grow := true, elem := 62, sz := 1, cells := ints .u32 out })], 2, 87⟩)
          (fun j => j ≤ C.length) (fun j => C.length - j) ⟨0, Nat.zero_le _, by exact cvS hn (.ptr 0 2 rfl (.own 1 7 rfl .nil))⟩ ?_
        intro j hj
        rcases Nat.lt_or_ge j C.length with hj2 | hj2
        · obtain ⟨v1, v2, v3⟩ := vd_step hCd hj2 hC9
          have v4 := allD_get hCd hj2
          ((repeat' (first | refine gW ?_ | (refine gIf ?_ ?_ <;> (intro hc; try exact gX)) | with_reducible refine br_intro ?_ ?_ | (with_reducible intro _; try exact gX) | with_reducible refine ands_intro ?_ ?_)) <;> (try exact gF))
          refine ⟨j + 1, by omega, by omega, ?_⟩
          rw [v3]
          exact cvS hn (.ptr 0 2 rfl (.own 1 7 rfl .nil))
        · obtain rfl : j = C.length := by omega
          rw [List.take_of_length_le (Nat.le_refl _)]
          have v5 := vd_nine hCd hC9
          ((repeat' (first | refine gW ?_ | (refine gIf ?_ ?_ <;> (intro hc; try exact gX)) | with_reducible refine br_intro ?_ ?_ | (with_reducible intro _; try exact gX) | with_reducible refine ands_intro ?_ ?_)) <;> (try exact gF))
          refine ⟨.inr (out ++ [vd C], e - 9), by first | omega | (simp only; omega), ⟨by first | omega | (simp only; omega), by first | omega | (simp only; omega), k3.app (.cons v5.1 v5.2 .nil), by simp only [List.length_append, List.length_cons, List.length_nil]; omega, ?_⟩, ?_⟩
          · simp only [List.length_append, List.length_cons, List.length_nil, Nat.zero_add]
            rw [V_snoc]
            exact hck
          · exact cvS hn (.ptr 0 2 rfl (.own 1 7 rfl .nil))
      · have e0 : e.toNat = 0 := by omega
        rw [e0] at k5
        have k6 : V out = vd B := by rw [k5]; show _ = vd [] * _ + _; rw [show vd [] = 0 from rfl]; omega
        ((repeat' (first | refine gW ?_ | (refine gIf ?_ ?_ <;> (intro hc; try exact gX)) | with_reducible refine br_intro ?_ ?_ | (with_reducible intro _; try exact gX) | with_reducible refine ands_intro ?_ ?_ | refine cx (signed_e (by rfl) (by omega) k3 (z := sgnd false (vd B)) (by rw [k6])) ?_)) <;> (try exact gF))
        exact rqq2 (rC ty24) rT
theorem head_getD {B : List UInt8} (h : B ≠ []) : (B.head? = some 48) = (((B.getD 0 0).toNat : Int) = 48) := by
  cases B with
  | nil => exact absurd rfl h
  | cons c B =>
    simp only [List.head?_cons, Option.some.injEq, List.getD_cons_zero, eq_iff_iff]
    constructor
    · rintro rfl; rfl
    · intro h
      apply UInt8.toNat_inj.1
      show c.toNat = 48
      omega
theorem one_zero {l : List UInt8} (hN : pre 45 l = false) (h1 : l.length = 1) (hz : ((l.getD 0 0).toNat : Int) = 48) : l = [48] := by
  match l, h1 with
  | [c], _ =>
    congr 1
    apply UInt8.toNat_inj.1
    have e : ((c.toNat : Nat) : Int) = 48 := hz
    show c.toNat = 48
    omega
theorem parse_c {l : List UInt8} (hl : l.length ≤ 1000) : HCallsD Tryz.prog 78 [] [.raw (.string (bs l))] (.tup [aI (pz l), .raw (.int .i64 (pe l))]) [] := by
  obtain ⟨B, hB⟩ : ∃ B, cutP 45 l = B := ⟨_, rfl⟩
  obtain ⟨N, hN⟩ : ∃ N, pre 45 l = N := ⟨_, rfl⟩
  obtain ⟨c1, c2, c3⟩ := cut_len l
  rw [hN, hB] at c2 c3
  by_cases hne : B = []
  · exact parse_nil hl (hB.trans hne)
  have h0 : 0 < B.length := by
    cases B with
    | nil => exact absurd rfl hne
    | cons c B => simp
  by_cases hz : ((B.getD 0 0).toNat : Int) = 48
  · by_cases hl1 : l = [48]
    · subst hl1
      have hN' : false = N := hN
      subst hN'
      have hB' : [48] = B := hB
      subst hB'
      refine parse_mainB hl hB h0 false hN ⟨hz, rfl⟩ ?_
      unfold okP
      rw [hB]
      simp [allD]
    · have hno : ¬ okP l := fun h => h.2.1 ⟨by rw [hB, head_getD hne]; exact hz, hl1⟩
      refine parse_zero hl hB h0 hno hz N hN ?_
      cases N with
      | true => exact .inr rfl
      | false =>
        refine .inl ?_
        rcases Nat.lt_or_ge 1 B.length with h | h
        · exact h
        · have e := c3 rfl
          subst e
          exact absurd (one_zero hN (by omega) hz) hl1
  · refine parse_mainA hl hB h0 N hN hz ?_
    unfold okP
    rw [hB, head_getD hne]
    exact propext ⟨fun h => h.2.2, fun h => ⟨hne, fun h' => hz h'.1, h⟩⟩
theorem parse_e {l : List UInt8} {z : Int} {e : Int} (hl : l.length ≤ 1000) (hz : pz l = z) (he : pe l = e) : HCallsD Tryz.prog 78 [] [.raw (.string (bs l))] (.tup [aI z, .raw (.int .i64 e)]) [] := hz ▸ he ▸ parse_c hl
end Go.Proofs.YtfmebdmgnmogaaaGreatDoor
