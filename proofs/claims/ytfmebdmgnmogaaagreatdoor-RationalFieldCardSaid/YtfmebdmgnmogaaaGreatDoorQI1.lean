/- Contracts of the functions that cut zeros at the end, give a sign, and make limbs of a word. No statement of its own. -/
import Derived.Test.YtfmebdmgnmogaaaGreatDoorQHvTac
set_option linter.unusedVariables false
set_option linter.unusedSimpArgs false
set_option linter.unusedSimpArgs false
set_option linter.unusedVariables false
set_option maxRecDepth 100000
namespace Go.Proofs.YtfmebdmgnmogaaaGreatDoor
open Go Go.RowKit Hv

theorem trim_c {n : Nat} {xs : List Int} (hn : n = xs.length) (hl : xs.length ≤ 1000000) (hx : Lim xs) : HCallsD Tryz.prog 119 [] [.sl n false (ints .u32 xs)] (.sl (dig (V xs)).length false (ints .u32 (dig (V xs)))) [] := by
  subst hn
  refine cp1 (rs := [.tmp 2]) (nt := 21) Tryz.func119 (fun C hP hn => ?_)
  ((repeat' (first | refine gW ?_ | (refine gIf ?_ ?_ <;> (intro hc; try exact gX)) | with_reducible refine br_intro ?_ ?_ | (with_reducible intro _; try exact gX) | with_reducible refine ands_intro ?_ ?_)) <;> (try exact gF))
  · refine hwp_loopS (fun ys : List Int => ⟨lk [(0, .sl ys.length false (ints .u32 ys))], hlk [], 0, 21⟩) (fun ys => ys.length ≤ 1000000 ∧ V ys = V xs ∧ Lim ys) List.length ⟨xs, ⟨hl, rfl, hx⟩, by exact cvG hn []⟩ ?_
    · rintro ys ⟨h1, h2, h3⟩
      ((repeat' (first | refine gW ?_ | (refine gIf ?_ ?_ <;> (intro hc; try exact gX)) | with_reducible refine br_intro ?_ ?_ | (with_reducible intro _; try exact gX) | with_reducible refine ands_intro ?_ ?_)) <;> (try exact gF))
      · refine ⟨ys.take (ys.length - 1), ?_, ⟨?_, ?_, h3.take _⟩, ?_⟩
        · simp only [List.length_take]; omega
        · simp only [List.length_take]; omega
        · rw [V_take_last (by omega) hc, h2]
        · exact cvG hn []
      · have e := dig_of h3 (lastOk_of fun _ => hc)
        rw [← h2, e]
        exact rqq1 rT
      · have e := dig_of h3 (lastOk_of fun h => by omega)
        rw [← h2, e]
        exact rqq1 rT
theorem rtrim_c {n : Nat} {xs : List Int} (hn : n = xs.length) (hl : xs.length ≤ 1000000) (hx : Lim xs) : HCallsD Tryz.prog 60 [] [.sl n false (ints .u32 xs)] (.sl (dig (V xs)).length false (ints .u32 (dig (V xs)))) [] := by
  subst hn
  refine cp1 (rs := [.tmp 2]) (nt := 21) Tryz.func60 (fun C hP hn => ?_)
  ((repeat' (first | refine gW ?_ | (refine gIf ?_ ?_ <;> (intro hc; try exact gX)) | with_reducible refine br_intro ?_ ?_ | (with_reducible intro _; try exact gX) | with_reducible refine ands_intro ?_ ?_)) <;> (try exact gF))
  · refine hwp_loopS (fun ys : List Int => ⟨lk [(0, .sl ys.length false (ints .u32 ys))], hlk [], 0, 21⟩) (fun ys => ys.length ≤ 1000000 ∧ V ys = V xs ∧ Lim ys) List.length ⟨xs, ⟨hl, rfl, hx⟩, by exact cvG hn []⟩ ?_
    · rintro ys ⟨h1, h2, h3⟩
      ((repeat' (first | refine gW ?_ | (refine gIf ?_ ?_ <;> (intro hc; try exact gX)) | with_reducible refine br_intro ?_ ?_ | (with_reducible intro _; try exact gX) | with_reducible refine ands_intro ?_ ?_)) <;> (try exact gF))
      · refine ⟨ys.take (ys.length - 1), ?_, ⟨?_, ?_, h3.take _⟩, ?_⟩
        · simp only [List.length_take]; omega
        · simp only [List.length_take]; omega
        · rw [V_take_last (by omega) hc, h2]
        · exact cvG hn []
      · have e := dig_of h3 (lastOk_of fun _ => hc)
        rw [← h2, e]
        exact rqq1 rT
      · have e := dig_of h3 (lastOk_of fun h => by omega)
        rw [← h2, e]
        exact rqq1 rT

/-- The integer z as the program holds it. -/
def aI (z : Int) : HV := .agg [.raw (.bool (decide (z < 0))), .sl (dig z.natAbs).length false (ints .u32 (dig z.natAbs))]
def IsI (b : Bool) (xs : List Int) (z : Int) : Prop := b = decide (z < 0) ∧ xs = dig z.natAbs
def sgnd (b : Bool) (v : Int) : Int := if b then -v else v

theorem signed_lit {b : Bool} {v : Int} (h : 0 ≤ v) : aI (sgnd b v) = .agg [.raw (.bool (b && decide (0 < (dig v).length))), .sl (dig v).length false (ints .u32 (dig v))] := by
  have e : ((sgnd b v).natAbs : Int) = v := by unfold sgnd; split <;> omega
  unfold aI
  rw [e]
  congr 3
  rcases Int.lt_or_le 0 v with k | k
  · have : 0 < (dig v).length := List.length_pos_iff.2 (dig_ne k)
    cases b <;> simp [sgnd, this] <;> omega
  · have e0 : v = 0 := by omega
    subst e0
    cases b <;> simp [sgnd, dig_zero]

theorem take_succ_zero {xs : List Int} {m : Nat} (h : m ≤ xs.length) (h0 : 0 < m) (hz : xs.getD (m - 1) 0 = 0) : V (xs.take (m - 1)) = V (xs.take m) := by
  have e : (xs.take m).take (m - 1) = xs.take (m - 1) := by rw [List.take_take]; congr 1; omega
  have hl : (xs.take m).length = m := by rw [List.length_take]; omega
  have := V_take_last (xs := xs.take m) (by omega) (by rw [hl]; simp only [List.getD] at hz ⊢; rw [List.getElem?_take]; rw [if_pos (by omega)]; exact hz)
  rw [hl, e] at this; exact this
theorem dig_take {xs : List Int} (hx : Lim xs) {m : Nat} (h : m ≤ xs.length) (hz : 0 < m → xs.getD (m - 1) 0 ≠ 0) (hv : V (xs.take m) = V xs) : dig (V xs) = xs.take m := by
  rw [← hv]
  have hl : (xs.take m).length = m := by rw [List.length_take]; omega
  refine dig_of (hx.take m) (lastOk_of fun h0 => ?_)
  rw [hl] at h0 ⊢
  have := hz h0
  simp only [List.getD] at this ⊢; rw [List.getElem?_take]; rw [if_pos (by omega)]; exact this

set_option maxHeartbeats 1000000 in
theorem signed_c {n : Nat} {b : Bool} {xs : List Int} (hn : n = xs.length) (hl : xs.length ≤ 1000000) (hx : Lim xs) : HCallsD Tryz.prog 95 [] [.raw (.bool b), .sl n false (ints .u32 xs)] (aI (sgnd b (V xs))) [] := by
  subst hn
  rw [signed_lit (V_nonneg hx)]
  refine cp2 (rs := [.cell 4 24]) (nt := 30) Tryz.func95 (fun C hP hn => ?_)
  ((repeat' (first | refine gW ?_ | (refine gIf ?_ ?_ <;> (intro hc; try exact gX)) | with_reducible refine br_intro ?_ ?_ | (with_reducible intro _; try exact gX) | with_reducible refine ands_intro ?_ ?_)) <;> (try exact gF))
  refine hwp_loopS (fun m : Nat => ⟨lk [(0, .raw (.bool b)), (1, .sl xs.length false (ints .u32 xs)), (4, .ptr 0 0), (5, .raw (.int .i64 m))], hlk [(0, { al := true, live := true, wb := true, elem := 24, sz := 1, cells := [.raw (.bool false), .sl 0 true []] })], 1, 30⟩)
    (fun m => m ≤ xs.length ∧ V (xs.take m) = V xs) id ⟨xs.length, ⟨Nat.le_refl _, by rw [List.take_length]⟩, by exact cvG hn [(0, 0)]⟩ ?_
  rintro m ⟨h1, h2⟩
  cases b
  all_goals ((repeat' (first | refine gW ?_ | (refine gIf ?_ ?_ <;> (intro hc; try exact gX)) | with_reducible refine br_intro ?_ ?_ | (with_reducible intro _; try exact gX) | with_reducible refine ands_intro ?_ ?_)) <;> (try exact gF))
  all_goals first
    | (refine ⟨m - 1, ?_, ⟨?_, ?_⟩, ?_⟩
       · simp only [id]; omega
       · omega
       · rw [take_succ_zero h1 (by omega) hc, h2]
       · exact cvG hn [(0, 0)])
    | (have e := dig_take hx h1 (fun _ => hc) h2
       rw [e]
       exact rqq1 (rC ty24))
    | (have e := dig_take hx h1 (fun h => by omega) h2
       rw [e]
       exact rqq1 (rC ty24))
theorem rsigned_c {n : Nat} {b : Bool} {xs : List Int} (hn : n = xs.length) (hl : xs.length ≤ 1000000) (hx : Lim xs) : HCallsD Tryz.prog 71 [] [.raw (.bool b), .sl n false (ints .u32 xs)] (aI (sgnd b (V xs))) [] := by
  subst hn
  rw [signed_lit (V_nonneg hx)]
  refine cp2 (rs := [.cell 4 24]) (nt := 15) Tryz.func71 (fun C hP hn => ?_)
  cases b
  all_goals ((repeat' (first | refine gW ?_ | (refine gIf ?_ ?_ <;> (intro hc; try exact gX)) | with_reducible refine br_intro ?_ ?_ | (with_reducible intro _; try exact gX) | with_reducible refine ands_intro ?_ ?_ | refine cx (rtrim_c (by rfl) hl hx) ?_)) <;> (try exact gF))
  all_goals exact rqq1 (rC ty24)
end Go.Proofs.YtfmebdmgnmogaaaGreatDoor
set_option linter.unusedSimpArgs false
set_option linter.unusedVariables false
set_option maxRecDepth 100000
set_option maxHeartbeats 1000000
namespace Go.Proofs.YtfmebdmgnmogaaaGreatDoor
open Go Go.RowKit Hv

theorem split_c {u : Int} (h0 : 0 ≤ u) (h1 : u < 18446744073709551616) : HCallsD Tryz.prog 108 [] [.raw (.int .u64 u)] (.sl 3 false (ints .u32 [u % 1000000000, u / 1000000000 % 1000000000, u / 1000000000 / 1000000000])) [] := by
  refine cp1 (rs := [.tmp 2]) (nt := 15) Tryz.func108 (fun C hP hn => ?_)
  ((repeat' (first | refine gW ?_ | (refine gIf ?_ ?_ <;> (intro hc; try exact gX)) | with_reducible refine br_intro ?_ ?_ | (with_reducible intro _; try exact gX) | with_reducible refine ands_intro ?_ ?_)) <;> (try exact gF))
  exact rqq1 rT

theorem rlimbs_c {u : Int} (h0 : 0 ≤ u) (h1 : u < 18446744073709551616) : HCallsD Tryz.prog 76 [] [.raw (.int .u64 u)] (.sl (dig u).length false (ints .u32 (dig u))) [] := by
  refine cp1 (rs := [.tmp 2]) (nt := 15) Tryz.func76 (fun C hP hn => ?_)
  ((repeat' (first | refine gW ?_ | (refine gIf ?_ ?_ <;> (intro hc; try exact gX)) | with_reducible refine br_intro ?_ ?_ | (with_reducible intro _; try exact gX) | with_reducible refine ands_intro ?_ ?_)) <;> (try exact gF))
  refine hwp_loopS (fun x : Int ⊕ (List Int × Int) => match x with
    | .inl u' => ⟨lk [(0, .raw (.int .u64 u')), (3, .sl 0 true [])], hlk [], 0, 15⟩
    | .inr (out, u') => ⟨lk [(0, .raw (.int .u64 u')), (3, .own 0 0 out.length false)], hlk [(0, { al := true, live := true, wb := true, grow := true, elem := 62, sz := 1, cells := ints .u32 out })], 1, 15⟩)
    (fun x => match x with
      | .inl u' => u' = u
      | .inr (out, u') => 0 ≤ u' ∧ u' < 18446744073709551616 ∧ out ++ dig u' = dig u ∧ out.length ≤ 100)
    (fun x => match x with | .inl u' => u'.toNat | .inr (_, u') => u'.toNat)
    ⟨.inl u, rfl, by exact cvG hn []⟩ ?_
  rintro (u' | ⟨out, u'⟩) hI
  · subst hI
    ((repeat' (first | refine gW ?_ | (refine gIf ?_ ?_ <;> (intro hc; try exact gX)) | with_reducible refine br_intro ?_ ?_ | (with_reducible intro _; try exact gX) | with_reducible refine ands_intro ?_ ?_)) <;> (try exact gF))
    · refine ⟨.inr ([u' % 1000000000], u' / 1000000000), ?_, ⟨?_, ?_, ?_, ?_⟩, ?_⟩
      · simp only; omega
      · omega
      · omega
      · rw [dig_pos hc]; rfl
      · simp
      · exact cvG hn [(0, 28)]
    · rw [dig_zero (by omega)]
      exact rqq1 rT
  · obtain ⟨k0, k1, k2, k3⟩ := hI
    ((repeat' (first | refine gW ?_ | (refine gIf ?_ ?_ <;> (intro hc; try exact gX)) | with_reducible refine br_intro ?_ ?_ | (with_reducible intro _; try exact gX) | with_reducible refine ands_intro ?_ ?_)) <;> (try exact gF))
    · refine ⟨.inr (out ++ [u' % 1000000000], u' / 1000000000), ?_, ⟨?_, ?_, ?_, ?_⟩, ?_⟩
      · simp only; omega
      · omega
      · omega
      · rw [← k2, dig_pos hc]; simp
      · have := dig_len64 h1
        rw [← k2, dig_pos hc] at this
        simp at this ⊢; omega
      · exact cvG hn [(0, 29)]
    · rw [dig_zero (by omega), List.append_nil] at k2
      subst k2
      exact rqq1 rT

theorem V3 (a b c : Int) : V [a, b, c] = a + 1000000000 * b + 1000000000000000000 * c := by simp only [V]; omega
theorem split_lim {u : Int} (h0 : 0 ≤ u) (h1 : u < 18446744073709551616) : Lim [u % 1000000000, u / 1000000000 % 1000000000, u / 1000000000 / 1000000000] :=
  .cons (by omega) (by omega) (.cons (by omega) (by omega) (.cons (by omega) (by omega) .nil))
theorem split_V (u : Int) : V [u % 1000000000, u / 1000000000 % 1000000000, u / 1000000000 / 1000000000] = u := by rw [V3]; omega

theorem signed_e {n : Nat} {b : Bool} {xs : List Int} {z : Int} (hn : n = xs.length) (hl : xs.length ≤ 1000000) (hx : Lim xs) (hz : sgnd b (V xs) = z) : HCallsD Tryz.prog 95 [] [.raw (.bool b), .sl n false (ints .u32 xs)] (aI z) [] := hz ▸ signed_c hn hl hx
theorem rsigned_e {n : Nat} {b : Bool} {xs : List Int} {z : Int} (hn : n = xs.length) (hl : xs.length ≤ 1000000) (hx : Lim xs) (hz : sgnd b (V xs) = z) : HCallsD Tryz.prog 71 [] [.raw (.bool b), .sl n false (ints .u32 xs)] (aI z) [] := hz ▸ rsigned_c hn hl hx
theorem aI_cells (z : Int) : (aI z).cellsOf = [.raw (.bool (decide (z < 0))), .sl (dig z.natAbs).length false (ints .u32 (dig z.natAbs))] := rfl
attribute [push_cast] aI
theorem sgnd_dec {z v : Int} (h : z < 0 → v = -z) (h' : 0 ≤ z → v = z) : sgnd (decide (z < 0)) v = z := by
  unfold sgnd
  rcases Int.lt_or_le z 0 with k | k
  · rw [if_pos (by simpa using k), h k]; omega
  · rw [if_neg (by simp; omega), h' k]
theorem sgnd_split {z v : Int} (h : z < 0 → v = -z) (h' : 0 ≤ z → v = z) : sgnd (decide (z < 0)) (V [v % 1000000000, v / 1000000000 % 1000000000, v / 1000000000 / 1000000000]) = z := by rw [split_V]; exact sgnd_dec h h'

theorem from64_c {z : Int} (h0 : -9223372036854775808 ≤ z) (h1 : z ≤ 9223372036854775807) : HCallsD Tryz.prog 91 [] [.raw (.int .i64 z)] (aI z) [] := by
  refine cp1 (rs := [.cell 2 24]) (nt := 15) Tryz.func91 (fun C hP hn => ?_)
  rcases Int.lt_or_le z 0 with hz | hz
  all_goals ((repeat' (first | refine gW ?_ | (refine gIf ?_ ?_ <;> (intro hc; try exact gX)) | with_reducible refine br_intro ?_ ?_ | (with_reducible intro _; try exact gX) | with_reducible refine ands_intro ?_ ?_ | refine cx (split_c (by omega) (by omega)) ?_ | refine cx (signed_e (z := z) (by rfl) (by simp) (split_lim (by omega) (by omega)) (sgnd_split (by omega) (by omega))) ?_)) <;> (try exact gF))
  all_goals exact rqq1 (rC ty24)

theorem rfrom64_c {z : Int} (h0 : -9223372036854775808 ≤ z) (h1 : z ≤ 9223372036854775807) : HCallsD Tryz.prog 33 [] [.raw (.int .i64 z)] (aI z) [] := by
  refine cp1 (rs := [.cell 2 24]) (nt := 14) Tryz.func33 (fun C hP hn => ?_)
  rcases Int.lt_or_le z 0 with hz | hz
  all_goals ((repeat' (first | refine gW ?_ | (refine gIf ?_ ?_ <;> (intro hc; try exact gX)) | with_reducible refine br_intro ?_ ?_ | (with_reducible intro _; try exact gX) | with_reducible refine ands_intro ?_ ?_ | refine cx (rlimbs_c (by omega) (by omega)) ?_ | refine cx (rsigned_e (z := z) (by rfl) (Nat.le_trans (dig_len64 (by omega)) (by omega)) (dig_lim _) (by rw [dig_V (by omega)]; simp only [sgnd]; first | omega | (simp; done) | (simp; omega))) ?_)) <;> (try exact gF))
  all_goals exact rqq1 (rC ty24)
end Go.Proofs.YtfmebdmgnmogaaaGreatDoor
set_option linter.unusedSimpArgs false
set_option linter.unusedVariables false
set_option maxRecDepth 100000
set_option maxHeartbeats 1000000
namespace Go.Proofs.YtfmebdmgnmogaaaGreatDoor
open Go Go.RowKit Hv

def cmpI (x y : Int) : Int := if x < y then -1 else if y < x then 1 else 0
theorem cmpI_lt {x y : Int} (h : x < y) : cmpI x y = -1 := if_pos h
theorem cmpI_gt {x y : Int} (h : y < x) : cmpI x y = 1 := by unfold cmpI; rw [if_neg (by omega), if_pos h]
theorem cmpI_eq {x y : Int} (h : x = y) : cmpI x y = 0 := by unfold cmpI; rw [if_neg (by omega), if_neg (by omega)]
theorem dig_len_lt {u v : Int} (hu : 0 ≤ u) (h : (dig u).length < (dig v).length) : u < v := by
  rcases Int.lt_or_le u v with k | k
  · exact k
  · have h1 := V_lt (dig_lim u)
    rw [dig_V hu] at h1
    have := dig_len (v := v) (n := (dig u).length) (by omega)
    omega
theorem V_cut {xs : List Int} (m : Nat) (h : m < xs.length) : V xs = V (xs.take m) + P9 m * (xs.getD m 0 + 1000000000 * V (xs.drop (m + 1))) := by
  have e : xs = xs.take m ++ (xs.getD m 0 :: xs.drop (m + 1)) := by
    rw [show xs.getD m 0 = xs[m] by simp [List.getD, h], List.getElem_cons_drop, List.take_append_drop]
  have h2 := V_append (xs.take m) (xs.getD m 0 :: xs.drop (m + 1))
  rw [← e, List.length_take, Nat.min_eq_left (by omega)] at h2
  rw [h2]; rfl
theorem cmp_top {xs ys : List Int} (hx : Lim xs) (hy : Lim ys) (hl : xs.length = ys.length) {m : Nat} (h : m < xs.length) (hd : xs.drop (m + 1) = ys.drop (m + 1)) (hlt : xs.getD m 0 < ys.getD m 0) : V xs < V ys := by
  have c1 := V_cut (xs := xs) m h
  have c2 := V_cut (xs := ys) m (by omega)
  rw [c1, c2, hd]
  clear c1 c2
  have h1 := V_lt (hx.take m)
  rw [List.length_take, Nat.min_eq_left (by omega)] at h1
  have h2 := V_nonneg (hy.take m)
  have h3 := P9_pos m
  have h4 : P9 m * (xs.getD m 0 + 1000000000 * V (ys.drop (m + 1)) + 1) ≤ P9 m * (ys.getD m 0 + 1000000000 * V (ys.drop (m + 1))) := Int.mul_le_mul_of_nonneg_left (by omega) (by omega)
  rw [Int.mul_add, Int.mul_one] at h4
  omega
theorem drop_eq {xs ys : List Int} (hl : xs.length = ys.length) {m : Nat} (h : m < xs.length) (hd : xs.drop (m + 1) = ys.drop (m + 1)) (he : xs.getD m 0 = ys.getD m 0) : xs.drop m = ys.drop m := by
  have h' : m < ys.length := by omega
  rw [← List.getElem_cons_drop h, ← List.getElem_cons_drop h', hd]
  simp [List.getD, h, h'] at he
  rw [he]

theorem trim_e {n : Nat} {xs ys : List Int} (hn : n = xs.length) (hl : xs.length ≤ 1000000) (hx : Lim xs) (hr : dig (V xs) = ys) : HCallsD Tryz.prog 119 [] [.sl n false (ints .u32 xs)] (.sl ys.length false (ints .u32 ys)) [] := hr ▸ trim_c hn hl hx
theorem rtrim_e {n : Nat} {xs ys : List Int} (hn : n = xs.length) (hl : xs.length ≤ 1000000) (hx : Lim xs) (hr : dig (V xs) = ys) : HCallsD Tryz.prog 60 [] [.sl n false (ints .u32 xs)] (.sl ys.length false (ints .u32 ys)) [] := hr ▸ rtrim_c hn hl hx

theorem rcompare_c {n m : Nat} {xs ys : List Int} {u v : Int} (hn : n = xs.length) (hm : m = ys.length) (hx : xs = dig u) (hy : ys = dig v) (hu : 0 ≤ u) (hv : 0 ≤ v) (hl : xs.length ≤ 1000000) (hl' : ys.length ≤ 1000000) :
    HCallsD Tryz.prog 73 [] [.sl n false (ints .u32 xs), .sl m false (ints .u32 ys)] (.raw (.int .i64 (cmpI u v))) [] := by
  subst hn hm
  have lx : Lim xs := hx ▸ dig_lim u
  have ly : Lim ys := hy ▸ dig_lim v
  have vx : V xs = u := by rw [hx, dig_V hu]
  have vy : V ys = v := by rw [hy, dig_V hv]
  refine cp2 (rs := [.tmp 4]) (nt := 41) Tryz.func73 (fun C hP hn => ?_)
  ((repeat' (first | refine gW ?_ | (refine gIf ?_ ?_ <;> (intro hc; try exact gX)) | with_reducible refine br_intro ?_ ?_ | (with_reducible intro _; try exact gX) | with_reducible refine ands_intro ?_ ?_)) <;> (try exact gF))
  · rw [cmpI_lt (dig_len_lt hu (by rw [← hx, ← hy]; omega))]
    exact rqq1 rT
  · rw [cmpI_gt (dig_len_lt hv (by rw [← hx, ← hy]; omega))]
    exact rqq1 rT
  · have hle : xs.length = ys.length := by omega
    refine hwp_loopS (fun m : Nat => ⟨lk [(0, .sl xs.length false (ints .u32 xs)), (1, .sl ys.length false (ints .u32 ys)), (5, .raw (.int .i64 (m - 1)))], hlk [], 0, 41⟩) (fun m => m ≤ xs.length ∧ xs.drop m = ys.drop m) id ⟨xs.length, ⟨Nat.le_refl _, by rw [List.drop_length, hle, List.drop_length]⟩, by exact cvG hn []⟩ ?_
    rintro m ⟨h1, h2⟩
    ((repeat' (first | refine gW ?_ | (refine gIf ?_ ?_ <;> (intro hc; try exact gX)) | with_reducible refine br_intro ?_ ?_ | (with_reducible intro _; try exact gX) | with_reducible refine ands_intro ?_ ?_)) <;> (try exact gF))
    · rw [cmpI_lt (by rw [← vx, ← vy]; exact cmp_top lx ly hle (m := m - 1) (by omega) (by rw [show m - 1 + 1 = m by omega]; exact h2) hc)]
      exact rqq1 rT
    · rw [cmpI_gt (by rw [← vx, ← vy]; exact cmp_top ly lx hle.symm (m := m - 1) (by omega) (by rw [show m - 1 + 1 = m by omega]; exact h2.symm) hc)]
      exact rqq1 rT
    · refine ⟨m - 1, ?_, ⟨?_, ?_⟩, ?_⟩
      · simp only [id]; omega
      · omega
      · exact drop_eq hle (by omega) (by rw [show m - 1 + 1 = m by omega]; exact h2) (by omega)
      · exact cvG hn []
    · have hm : m = 0 := by omega
      subst hm
      rw [cmpI_eq (by rw [← vx, ← vy, show xs = ys by simpa using h2])]
      exact rqq1 rT
theorem compare_c {n m : Nat} {xs ys : List Int} {u v : Int} (hn : n = xs.length) (hm : m = ys.length) (hx : xs = dig u) (hy : ys = dig v) (hu : 0 ≤ u) (hv : 0 ≤ v) (hl : xs.length ≤ 1000000) (hl' : ys.length ≤ 1000000) :
    HCallsD Tryz.prog 106 [] [.sl n false (ints .u32 xs), .sl m false (ints .u32 ys)] (.raw (.int .i64 (cmpI u v))) [] := by
  subst hn hm
  have lx : Lim xs := hx ▸ dig_lim u
  have ly : Lim ys := hy ▸ dig_lim v
  have vx : V xs = u := by rw [hx, dig_V hu]
  have vy : V ys = v := by rw [hy, dig_V hv]
  refine cp2 (rs := [.tmp 4]) (nt := 45) Tryz.func106 (fun C hP hn => ?_)
  ((repeat' (first | refine gW ?_ | (refine gIf ?_ ?_ <;> (intro hc; try exact gX)) | with_reducible refine br_intro ?_ ?_ | (with_reducible intro _; try exact gX) | with_reducible refine ands_intro ?_ ?_ | refine cx (trim_e (ys:=xs) (by rfl) hl lx (by rw [vx, hx])) ?_ | refine cx (trim_e (ys:=ys) (by rfl) hl' ly (by rw [vy, hy])) ?_)) <;> (try exact gF))
  · rw [cmpI_lt (dig_len_lt hu (by rw [← hx, ← hy]; omega))]
    exact rqq1 rT
  · rw [cmpI_gt (dig_len_lt hv (by rw [← hx, ← hy]; omega))]
    exact rqq1 rT
  · have hle : xs.length = ys.length := by omega
    refine hwp_loopS (fun m : Nat => ⟨lk [(0, .sl xs.length false (ints .u32 xs)), (1, .sl ys.length false (ints .u32 ys)), (5, .raw (.int .i64 (m - 1)))], hlk [], 0, 45⟩) (fun m => m ≤ xs.length ∧ xs.drop m = ys.drop m) id ⟨xs.length, ⟨Nat.le_refl _, by rw [List.drop_length, hle, List.drop_length]⟩, by exact cvG hn []⟩ ?_
    rintro m ⟨h1, h2⟩
    ((repeat' (first | refine gW ?_ | (refine gIf ?_ ?_ <;> (intro hc; try exact gX)) | with_reducible refine br_intro ?_ ?_ | (with_reducible intro _; try exact gX) | with_reducible refine ands_intro ?_ ?_)) <;> (try exact gF))
    · rw [cmpI_lt (by rw [← vx, ← vy]; exact cmp_top lx ly hle (m := m - 1) (by omega) (by rw [show m - 1 + 1 = m by omega]; exact h2) hc)]
      exact rqq1 rT
    · rw [cmpI_gt (by rw [← vx, ← vy]; exact cmp_top ly lx hle.symm (m := m - 1) (by omega) (by rw [show m - 1 + 1 = m by omega]; exact h2.symm) hc)]
      exact rqq1 rT
    · refine ⟨m - 1, ?_, ⟨?_, ?_⟩, ?_⟩
      · simp only [id]; omega
      · omega
      · exact drop_eq hle (by omega) (by rw [show m - 1 + 1 = m by omega]; exact h2) (by omega)
      · exact cvG hn []
    · have hm : m = 0 := by omega
      subst hm
      rw [cmpI_eq (by rw [← vx, ← vy, show xs = ys by simpa using h2])]
      exact rqq1 rT
end Go.Proofs.YtfmebdmgnmogaaaGreatDoor
