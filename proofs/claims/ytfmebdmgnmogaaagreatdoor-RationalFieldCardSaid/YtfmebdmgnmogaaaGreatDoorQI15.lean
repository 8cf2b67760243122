/- Contracts of words and of division by one limb. No statement of its own. -/
import Derived.Test.YtfmebdmgnmogaaaGreatDoorQI14
set_option linter.unusedVariables false
set_option linter.unusedSimpArgs false
set_option linter.unusedSimpArgs false
set_option linter.unusedVariables false
set_option maxRecDepth 100000
set_option maxHeartbeats 4000000
namespace Go.Proofs.YtfmebdmgnmogaaaGreatDoor
open Go Go.RowKit Hv

theorem V_two {xs : List Int} (h : xs.length = 2) : V xs = xs.getD 1 0 * 1000000000 + xs.getD 0 0 := by
  match xs, h with
  | [a, b], _ => simp [V, List.getD]; omega
theorem V_one {xs : List Int} (h : xs.length = 1) : V xs = xs.getD 0 0 := by
  match xs, h with
  | [a], _ => simp [V, List.getD]
theorem V_none {xs : List Int} (h : xs.length = 0) : V xs = 0 := by
  match xs, h with
  | [], _ => rfl
def wordV (xs : List Int) : Int := if xs.length ≤ 2 then V xs else 0
theorem word_c {b : Bool} {n : Nat} {xs : List Int} (hn : n = xs.length) (hx : Lim xs) (hl : xs.length ≤ 1000000) : HCallsD Tryz.prog 107 [] [.agg [.raw (.bool b), .sl n false (ints .u32 xs)]] (.tup [.raw (.int .u64 (wordV xs)), .raw (.bool (decide (xs.length ≤ 2)))]) [] := by
  subst hn
  have b0 := hx.getA 0
  have b1 := hx.getA 1
  refine cp1 (rs := [.tmp 2, .tmp 3]) (nt := 30) Tryz.func107 (fun C hP hn => ?_)
  rcases Nat.lt_or_ge 2 xs.length with h | h
  · have e : wordV xs = 0 := if_neg (by omega)
    rw [decide_eq_false (by omega), e]
    ((repeat' (first | refine gW ?_ | (refine gIf ?_ ?_ <;> (intro hc; try exact gX)) | with_reducible refine br_intro ?_ ?_ | (with_reducible intro _; try exact gX) | with_reducible refine ands_intro ?_ ?_)) <;> (try exact gF))
    exact rqq2 rT rT
  · have e : wordV xs = V xs := if_pos h
    rw [decide_eq_true h, e]
    obtain k | k | k : xs.length = 0 ∨ xs.length = 1 ∨ xs.length = 2 := by omega
    · rw [V_none k]
      ((repeat' (first | refine gW ?_ | (refine gIf ?_ ?_ <;> (intro hc; try exact gX)) | with_reducible refine br_intro ?_ ?_ | (with_reducible intro _; try exact gX) | with_reducible refine ands_intro ?_ ?_)) <;> (try exact gF))
      exact rqq2 rT rT
    · rw [V_one k]
      ((repeat' (first | refine gW ?_ | (refine gIf ?_ ?_ <;> (intro hc; try exact gX)) | with_reducible refine br_intro ?_ ?_ | (with_reducible intro _; try exact gX) | with_reducible refine ands_intro ?_ ?_)) <;> (try exact gF))
      exact rqq2 rT rT
    · rw [V_two k]
      ((repeat' (first | refine gW ?_ | (refine gIf ?_ ?_ <;> (intro hc; try exact gX)) | with_reducible refine br_intro ?_ ?_ | (with_reducible intro _; try exact gX) | with_reducible refine ands_intro ?_ ?_)) <;> (try exact gF))
      exact rqq2 rT rT

theorem V_drop_le {xs : List Int} (hx : Lim xs) (m : Nat) : V (xs.drop m) ≤ V xs := by
  induction m with
  | zero => simp
  | succ m ih =>
    have h1 := V_drop xs m
    have h2 := hx.getA m
    have h3 := V_nonneg (hx.drop (m + 1))
    omega
theorem short_c {n : Nat} {xs : List Int} (hn : n = xs.length) (hx : Lim xs) (hv : V xs < 18446744073709551616) (hl : xs.length ≤ 1000000) : HCallsD Tryz.prog 103 [] [.sl n false (ints .u32 xs)] (.raw (.int .u64 (V xs))) [] := by
  subst hn
  refine cp1 (rs := [.tmp 2]) (nt := 21) Tryz.func103 (fun C hP hn => ?_)
  ((repeat' (first | refine gW ?_ | (refine gIf ?_ ?_ <;> (intro hc; try exact gX)) | with_reducible refine br_intro ?_ ?_ | (with_reducible intro _; try exact gX) | with_reducible refine ands_intro ?_ ?_)) <;> (try exact gF))
  refine hwp_loopS (fun m : Nat => ⟨lk [(0, .sl xs.length false (ints .u32 xs)), (3, .raw (.int .u64 (V (xs.drop m)))), (4, .raw (.int .i64 (m - 1)))], hlk [], 0, 21⟩) (fun m => m ≤ xs.length) id ⟨xs.length, Nat.le_refl _, by rw [List.drop_length, V]; exact cvG hn []⟩ ?_
  intro m h1
  have h2 := V_drop xs (m - 1)
  have h3 := V_drop_le hx (m - 1)
  have h4 := V_nonneg (hx.drop m)
  have h5 := hx.getA (m - 1)
  rcases Nat.eq_zero_or_pos m with h0 | h0
  · subst h0
    ((repeat' (first | refine gW ?_ | (refine gIf ?_ ?_ <;> (intro hc; try exact gX)) | with_reducible refine br_intro ?_ ?_ | (with_reducible intro _; try exact gX) | with_reducible refine ands_intro ?_ ?_)) <;> (try exact gF))
    rw [List.drop_zero] at *
    exact rqq1 rT
  · rw [show m - 1 + 1 = m by omega] at h2
    ((repeat' (first | refine gW ?_ | (refine gIf ?_ ?_ <;> (intro hc; try exact gX)) | with_reducible refine br_intro ?_ ?_ | (with_reducible intro _; try exact gX) | with_reducible refine ands_intro ?_ ?_)) <;> (try exact gF))
    refine ⟨m - 1, by simp only [id]; omega, by omega, ?_⟩
    exact cvG hn []

theorem rby_c {n : Nat} {xs : List Int} {d : Int} (hn : n = xs.length) (hx : Lim xs) (h0 : 0 ≤ d) (h1 : d < 1000000000) (hl : xs.length ≤ 400000) : HCallsD Tryz.prog 123 [] [.sl n false (ints .u32 xs), .raw (.int .u32 d)] (.sl (dig (V xs * d)).length false (ints .u32 (dig (V xs * d)))) [] := by
  subst hn
  have e : V [d] = d := by simp [V]
  have l1 : Lim [d] := .cons h0 h1 .nil
  have e2 : V (dig d) = d := dig_V h0
  have l2 : (dig d).length ≤ 3 := dig_len64 (by omega)
  have key := rtimes_c (n := xs.length) (m := (dig d).length) rfl rfl hx (dig_lim d) hl (by omega)
  rw [e2] at key
  have key2 := rtrim_c (n := 1) (xs := [d]) rfl (by simp) l1
  rw [e] at key2
  refine cp2 (rs := [.tmp 4]) (nt := 10) Tryz.func123 (fun C hP hn => ?_)
  ((repeat' (first | refine gW ?_ | (refine gIf ?_ ?_ <;> (intro hc; try exact gX)) | with_reducible refine br_intro ?_ ?_ | (with_reducible intro _; try exact gX) | with_reducible refine ands_intro ?_ ?_ | refine cx (key2) ?_ | refine cx (key) ?_)) <;> (try exact gF))
  exact rqq1 rT

theorem byWord_c {n : Nat} {xs : List Int} {d : Int} (hn : n = xs.length) (hx : Lim xs) (h0 : 0 < d) (h1 : d < 1000000000) (hl : xs.length ≤ 1000000) : HCallsD Tryz.prog 120 [] [.sl n false (ints .u32 xs), .raw (.int .u32 d)]
    (.tup [.sl xs.length false (ints .u32 (limbsN xs.length (V xs / d))), .sl 1 false (ints .u32 [V xs % d])]) [] := by
  subst hn
  refine cp2 (rs := [.tmp 4, .tmp 5]) (nt := 44) Tryz.func120 (fun C hP hn => ?_)
  ((repeat' (first | refine gW ?_ | (refine gIf ?_ ?_ <;> (intro hc; try exact gX)) | with_reducible refine br_intro ?_ ?_ | (with_reducible intro _; try exact gX) | with_reducible refine ands_intro ?_ ?_)) <;> (try exact gF))
  refine hwp_loopS (fun x : Nat × Int × List Int => ⟨lk [(0, .sl xs.length false (ints .u32 xs)), (1, .raw (.int .u32 d)), (6, .own 0 0 xs.length true), (7, .raw (.int .u64 x.2.1)), (8, .raw (.int .i64 (x.1 - 1)))],
      hlk [(0, { al := true, live := true, wb := true, grow := true, elem := 62, sz := 1, cells := ints .u32 x.2.2 })], 1, 44⟩)
    (fun x => x.1 ≤ xs.length ∧ x.2.2.length = xs.length ∧ Lim (x.2.2.drop x.1) ∧ 0 ≤ x.2.1 ∧ x.2.1 < d ∧ V (xs.drop x.1) = V (x.2.2.drop x.1) * d + x.2.1) (fun x => x.1)
    ⟨(xs.length, 0, List.replicate xs.length 0), ⟨Nat.le_refl _, by simp, by simp [Lim], Int.le_refl _, h0, by simp [V]⟩, by exact cvS hn (.own 0 6 rfl .nil)⟩ ?_
  rintro ⟨m, r, out⟩ ⟨g1, g2, g3, g4, g5, g6⟩
  simp only at g1 g2 g3 g4 g5 g6
  have hb := hx.getA (m - 1)
  rcases Nat.eq_zero_or_pos m with hm | hm
  · subst hm
    rw [List.drop_zero, List.drop_zero] at g6
    rw [List.drop_zero] at g3
    have e1 : V xs / d = V out := div_eq (by omega) (by rw [Int.add_mul, Int.one_mul]; omega) h0
    have e2 : V xs % d = r := by rw [Int.emod_def, e1, Int.mul_comm]; omega
    have e3 := limbsN_eq g3 g2 rfl
    rw [e1, e2, ← e3]
    ((repeat' (first | refine gW ?_ | (refine gIf ?_ ?_ <;> (intro hc; try exact gX)) | with_reducible refine br_intro ?_ ?_ | (with_reducible intro _; try exact gX) | with_reducible refine ands_intro ?_ ?_)) <;> (try exact gF))
    exact rqq2 rT rT
  · have ht := byWord_bnd h0 g4 g5 hb.1 hb.2 rfl
    have hq0 := div_nonneg' ht.1 (Int.le_of_lt h0)
    have hr0 := Int.emod_nonneg (r * 1000000000 + xs.getD (m - 1) 0) (show d ≠ 0 by omega)
    have hr1 := Int.emod_lt_of_pos (r * 1000000000 + xs.getD (m - 1) 0) h0
    have e := Int.emod_add_mul_ediv (r * 1000000000 + xs.getD (m - 1) 0) d
    have em : m - 1 + 1 = m := by omega
    ((repeat' (first | refine gW ?_ | (refine gIf ?_ ?_ <;> (intro hc; try exact gX)) | with_reducible refine br_intro ?_ ?_ | (with_reducible intro _; try exact gX) | with_reducible refine ands_intro ?_ ?_)) <;> (try exact gF))
    refine ⟨(m - 1, (r * 1000000000 + xs.getD (m - 1) 0) % d, out.set (m - 1) ((r * 1000000000 + xs.getD (m - 1) 0) / d)), by simp only; omega, ⟨by simp only; omega, by simp [g2], byWord_lim (by omega) (by rw [em]; exact g3) hq0 ht.2, hr0, hr1, by simp only; exact byWord_step (by omega) (by rw [em]; exact g6) rfl _ _ (by rw [Int.mul_comm]; omega)⟩, ?_⟩
    exact cvS hn (.own 0 6 rfl .nil)
end Go.Proofs.YtfmebdmgnmogaaaGreatDoor
set_option linter.unusedSimpArgs false
set_option linter.unusedVariables false
set_option maxRecDepth 100000
set_option maxHeartbeats 4000000
namespace Go.Proofs.YtfmebdmgnmogaaaGreatDoor
open Go Go.RowKit Hv

def fits64 (z : Int) : Bool := decide (-9223372036854775808 ≤ z ∧ z ≤ 9223372036854775807)
def v64 (z : Int) : Int := if -9223372036854775808 ≤ z ∧ z ≤ 9223372036854775807 then z else 0
theorem icmp_e {ba : Bool} {na : Nat} {xa : List Int} {za : Int} {bb : Bool} {nb : Nat} {xb : List Int} {zb : Int} {r : Int} (hba : ba = decide (za < 0)) (hna : na = xa.length) (hxa : xa = dig (za.natAbs : Int)) (hla : xa.length ≤ 100000) (hbb : bb = decide (zb < 0)) (hnb : nb = xb.length) (hxb : xb = dig (zb.natAbs : Int)) (hlb : xb.length ≤ 100000) (hr : cmpI za zb = r) : HCallsD Tryz.prog 80 [] [.agg [.raw (.bool ba), .sl na false (ints .u32 xa)], .agg [.raw (.bool bb), .sl nb false (ints .u32 xb)]] (.raw (.int .i64 r)) [] := hr ▸ icmp_c hba hna hxa hla hbb hnb hxb hlb
theorem rcmp_e {ba : Bool} {na : Nat} {xa : List Int} {za : Int} {bb : Bool} {nb : Nat} {xb : List Int} {zb : Int} {r : Int} (hba : ba = decide (za < 0)) (hna : na = xa.length) (hxa : xa = dig (za.natAbs : Int)) (hla : xa.length ≤ 100000) (hbb : bb = decide (zb < 0)) (hnb : nb = xb.length) (hxb : xb = dig (zb.natAbs : Int)) (hlb : xb.length ≤ 100000) (hr : cmpI za zb = r) : HCallsD Tryz.prog 63 [] [.agg [.raw (.bool ba), .sl na false (ints .u32 xa)], .agg [.raw (.bool bb), .sl nb false (ints .u32 xb)]] (.raw (.int .i64 r)) [] := hr ▸ rcmp_c hba hna hxa hla hbb hnb hxb hlb
theorem cmpI_ge0 {x y : Int} (h : y ≤ x) : ∃ r, cmpI x y = r ∧ 0 ≤ r ∧ r ≤ 1 := by
  unfold cmpI; rw [if_neg (by omega)]; split <;> exact ⟨_, rfl, by omega⟩
theorem cmpI_le0 {x y : Int} (h : x ≤ y) : ∃ r, cmpI x y = r ∧ -1 ≤ r ∧ r ≤ 0 := by
  unfold cmpI
  rcases Int.lt_or_le x y with k | k
  · rw [if_pos k]; exact ⟨_, rfl, by omega⟩
  · rw [if_neg (by omega), if_neg (by omega)]; exact ⟨_, rfl, by omega⟩

end Go.Proofs.YtfmebdmgnmogaaaGreatDoor
