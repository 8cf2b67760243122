/- Contracts of the functions that change a row of limbs in place. No statement of its own. -/
import Derived.Test.YtfmebdmgnmogaaaGreatDoorQI15
set_option linter.unusedVariables false
set_option linter.unusedSimpArgs false
set_option linter.unusedSimpArgs false
set_option linter.unusedVariables false
set_option maxRecDepth 100000
set_option maxHeartbeats 4000000
namespace Go.Proofs.YtfmebdmgnmogaaaGreatDoor
open Go Go.RowKit Hv

theorem drop_getD {xs ys : List Int} {i : Nat} (h : xs.drop i = ys.drop i) : xs.getD i 0 = ys.getD i 0 := by
  have e : (xs.drop i)[0]? = (ys.drop i)[0]? := by rw [h]
  rw [List.getElem?_drop, List.getElem?_drop, Nat.add_zero] at e
  simp only [List.getD, e]
theorem drop_succ_eq {xs ys : List Int} {i : Nat} (h : xs.drop i = ys.drop i) : xs.drop (i + 1) = ys.drop (i + 1) := by
  rw [← List.drop_drop, ← List.drop_drop, h]
theorem subm_step {ws us vs : List Int} {i : Nat} {c b x' c' b' d : Int} (h : i < ws.length) (hV : V (ws.take i) + P9 i * -(c + b) = V (us.take i) - V (vs.take i) * d) (hx : x' - 1000000000 * (c' + b') = us.getD i 0 - vs.getD i 0 * d - (c + b)) :
    V ((ws.set i x').take (i + 1)) + P9 (i + 1) * -(c' + b') = V (us.take (i + 1)) - V (vs.take (i + 1)) * d := by
  rw [set_take h, carry_step (c := -(c + b)) (c' := -(c' + b')) (s := us.getD i 0 - vs.getD i 0 * d) (take_len h) hV (by omega), V_take_succ us, V_take_succ vs, Int.mul_sub, Int.add_mul, Int.mul_assoc]
  omega
theorem subm_end {ws us vs : List Int} {c b d : Int} {n : Nat} (hn : ws.length = n) (hu : us.length = n) (hv : vs.length ≤ n) (hL : Lim ws) (hc : 0 ≤ c) (hb : 0 ≤ b) (hV : V ws + P9 n * -(c + b) = V us - V vs * d) :
    ws = limbsN n ((V us - V vs * d) % P9 n) ∧ (V us < V vs * d ↔ 0 < c + b) := by
  have h0 := V_nonneg hL
  have h1 := V_lt hL
  rw [hn] at h1
  have hP := P9_pos n
  refine ⟨limbsN_eq hL hn ?_, ?_⟩
  · rw [← hV, Int.add_mul_emod_self_left, Int.emod_eq_of_lt h0 h1]
  · rcases Int.lt_or_le 0 (c + b) with k | k
    · have : P9 n * 1 ≤ P9 n * (c + b) := Int.mul_le_mul_of_nonneg_left (by omega) (by omega)
      rw [Int.mul_neg] at hV
      omega
    · have : c + b = 0 := by omega
      rw [this] at hV
      rw [Int.neg_zero, Int.mul_zero] at hV
      omega
def rowB (xs : List Int) : HBlk := { al := true, live := true, wb := true, grow := false, elem := 62, sz := 1, cells := ints .u32 xs }
theorem subtract_c {n m : Nat} {us vs : List Int} {d : Int} (hn : n = us.length) (hm : m = vs.length) (hu : Lim us) (hv : Lim vs) (hle : vs.length ≤ us.length) (h0 : 0 ≤ d) (h1 : d ≤ 1000000000) (hl : us.length ≤ 1000000) :
    HCallsD Tryz.prog 121 [rowB us] [.own 0 0 n false, .sl m false (ints .u32 vs), .raw (.int .u64 d)] (.raw (.bool (decide (V us < V vs * d)))) [rowB (limbsN us.length ((V us - V vs * d) % P9 us.length))] := by
  subst hn hm
  refine calls_bor (fn := Tryz.f121) Tryz.func121 (by decide) (c := _) rfl (rs := [.tmp 6]) rfl (nt := 62) rfl [(0, .own 0 0 us.length false), (1, .sl vs.length false (ints .u32 vs)), (2, .raw (.int .u64 d))] (args_three _ _ _) (Nat.le_of_ble_eq_true rfl) rfl (fun C hP hn => ?_)
  unfold rowB
  ((repeat' (first | refine gW ?_ | (refine gIf ?_ ?_ <;> (intro hc; try exact gX)) | with_reducible refine br_intro ?_ ?_ | (with_reducible intro _; try exact gX) | with_reducible refine ands_intro ?_ ?_)) <;> (try exact gF))
  refine hwp_loopS (fun x : Nat × Int × Int × List Int => ⟨lk [(0, .own 0 0 us.length false), (1, .sl vs.length false (ints .u32 vs)), (2, .raw (.int .u64 d)), (7, .raw (.int .u64 x.2.1)), (8, .raw (.int .u64 x.2.2.1)), (14, .raw (.int .i64 us.length)), (15, .raw (.int .i64 x.1))],
      hlk [(0, { al := true, live := true, wb := true, grow := false, elem := 62, sz := 1, cells := ints .u32 x.2.2.2 })], 1, 62⟩)
    (fun x => x.1 ≤ us.length ∧ x.2.2.2.length = us.length ∧ Lim (x.2.2.2.take x.1) ∧ x.2.2.2.drop x.1 = us.drop x.1 ∧ 0 ≤ x.2.1 ∧ x.2.1 ≤ 1000000000 ∧ 0 ≤ x.2.2.1 ∧ x.2.2.1 ≤ 1 ∧ V (x.2.2.2.take x.1) + P9 x.1 * -(x.2.1 + x.2.2.1) = V (us.take x.1) - V (vs.take x.1) * d) (fun x => us.length - x.1)
    ⟨(0, 0, 0, us), ⟨Nat.zero_le _, rfl, by simp [Lim], rfl, by simp, by simp, by simp, by simp, by simp [V]⟩, by exact cvB hn⟩ ?_
  rintro ⟨i, c, b, ws⟩ ⟨g1, g2, g3, g4, g5, g6, g7, g8, g9⟩
  simp only at g1 g2 g3 g4 g5 g6 g7 g8 g9
  have e1 := drop_getD g4
  have b1 := hu.getA i
  have b2 := hv.getA i
  have hz : vs.length ≤ i → vs.getD i 0 = 0 := fun h => by simp [List.getD, h]
  have m0 : 0 ≤ vs.getD i 0 * d := Int.mul_nonneg b2.1 h0
  have m1 : vs.getD i 0 * d ≤ 999999999 * 1000000000 := Int.mul_le_mul (by omega) h1 h0 (by omega)
  rw [← e1] at b1
  rcases Nat.lt_or_ge i us.length with hi | hi
  · have e2 := drop_succ_eq g4
    ((repeat' (first | refine gW ?_ | (refine gIf ?_ ?_ <;> (intro hc; try exact gX)) | with_reducible refine br_intro ?_ ?_ | (with_reducible intro _; try exact gX) | with_reducible refine ands_intro ?_ ?_)) <;> (try exact gF))
    · refine ⟨(i + 1, (c + vs.getD i 0 * d) / 1000000000, 1, ws.set i (ws.getD i 0 + 1000000000 - ((c + vs.getD i 0 * d) % 1000000000 + b))), by simp only; omega, ⟨by simp only; omega, by simp [g2], set_lim (by omega) g3 (by omega) (by omega), by simp only; rw [List.drop_set_of_lt (Nat.lt_succ_self i)]; exact e2, by simp only; omega, by simp only; omega, by simp, by simp, by simp only; exact subm_step (by omega) g9 (by omega)⟩, ?_⟩
      exact cvB hn
    · refine ⟨(i + 1, (c + vs.getD i 0 * d) / 1000000000, 0, ws.set i (ws.getD i 0 - ((c + vs.getD i 0 * d) % 1000000000 + b))), by simp only; omega, ⟨by simp only; omega, by simp [g2], set_lim (by omega) g3 (by omega) (by omega), by simp only; rw [List.drop_set_of_lt (Nat.lt_succ_self i)]; exact e2, by simp only; omega, by simp only; omega, by simp, by simp, by simp only; exact subm_step (by omega) g9 (by omega)⟩, ?_⟩
      exact cvB hn
    · have z := hz (by omega)
      refine ⟨(i + 1, c / 1000000000, 1, ws.set i (ws.getD i 0 + 1000000000 - (c % 1000000000 + b))), by simp only; omega, ⟨by simp only; omega, by simp [g2], set_lim (by omega) g3 (by omega) (by omega), by simp only; rw [List.drop_set_of_lt (Nat.lt_succ_self i)]; exact e2, by simp only; omega, by simp only; omega, by simp, by simp, by simp only; exact subm_step (by omega) g9 (by rw [z, Int.zero_mul]; omega)⟩, ?_⟩
      exact cvB hn
    · have z := hz (by omega)
      refine ⟨(i + 1, c / 1000000000, 0, ws.set i (ws.getD i 0 - (c % 1000000000 + b))), by simp only; omega, ⟨by simp only; omega, by simp [g2], set_lim (by omega) g3 (by omega) (by omega), by simp only; rw [List.drop_set_of_lt (Nat.lt_succ_self i)]; exact e2, by simp only; omega, by simp only; omega, by simp, by simp, by simp only; exact subm_step (by omega) g9 (by rw [z, Int.zero_mul]; omega)⟩, ?_⟩
      exact cvB hn
  · have hi' : i = us.length := by omega
    subst hi'
    rw [List.take_of_length_le (by omega), List.take_of_length_le (by omega), List.take_of_length_le hle] at g9
    rw [List.take_of_length_le (by omega)] at g3
    obtain ⟨k1, k2⟩ := subm_end g2 rfl hle g3 g5 g7 g9
    rw [← k1]
    rcases Int.lt_or_le 0 b with hb | hb
    · rw [decide_eq_true (k2.2 (by omega))]
      ((repeat' (first | refine gW ?_ | (refine gIf ?_ ?_ <;> (intro hc; try exact gX)) | with_reducible refine br_intro ?_ ?_ | (with_reducible intro _; try exact gX) | with_reducible refine ands_intro ?_ ?_)) <;> (try exact gF))
      exact rqb_raw trivial (by (simp (disch := omega) only [push_cast, reduceCtorEq, Nat.reduceAdd, Nat.reduceMul, Nat.reduceEqDiff, ↓reduceIte, Nat.reduceLT, Nat.reduceLeDiff, Int.reduceToNat, Int.reduceLT, Int.reduceLE, Int.reduceEq, Int.reduceNeg, Int.reduceAdd, Int.reduceSub, Int.reduceMul] <;> ((repeat' with_reducible apply And.intro) <;> (first | rfl | omega | (rw [List.take_of_length_le (by first | omega | (simp; done) | (simp; omega))]; done) | (rw [List.take_of_length_le]; simp only [List.length_take, List.length_drop, List.length_append, List.length_set, List.length_replicate, List.length_cons, List.length_nil, limbsN_length, Nat.le_refl]; done) | (simp only [List.length_take, List.length_drop, List.length_append, List.length_set, List.length_replicate, List.length_cons, List.length_nil, limbsN_length]; done) | (simp only [List.length_take, List.length_drop, List.length_append, List.length_set, List.length_replicate, List.length_cons, List.length_nil, limbsN_length]; omega) | (simp only [Value.bool.injEq, Value.int.injEq, decide_eq_decide, true_and, List.length_take, List.length_drop, List.length_append, List.length_set, List.length_replicate, List.length_cons, List.length_nil, limbsN_length]; omega) | skip)))) (by (simp (disch := omega) only [push_cast, reduceCtorEq, Nat.reduceAdd, Nat.reduceMul, Nat.reduceEqDiff, ↓reduceIte, Nat.reduceLT, Nat.reduceLeDiff, Int.reduceToNat, Int.reduceLT, Int.reduceLE, Int.reduceEq, Int.reduceNeg, Int.reduceAdd, Int.reduceSub, Int.reduceMul] <;> ((repeat' with_reducible apply And.intro) <;> (first | rfl | omega | (rw [List.take_of_length_le (by first | omega | (simp; done) | (simp; omega))]; done) | (rw [List.take_of_length_le]; simp only [List.length_take, List.length_drop, List.length_append, List.length_set, List.length_replicate, List.length_cons, List.length_nil, limbsN_length, Nat.le_refl]; done) | (simp only [List.length_take, List.length_drop, List.length_append, List.length_set, List.length_replicate, List.length_cons, List.length_nil, limbsN_length]; done) | (simp only [List.length_take, List.length_drop, List.length_append, List.length_set, List.length_replicate, List.length_cons, List.length_nil, limbsN_length]; omega) | (simp only [Value.bool.injEq, Value.int.injEq, decide_eq_decide, true_and, List.length_take, List.length_drop, List.length_append, List.length_set, List.length_replicate, List.length_cons, List.length_nil, limbsN_length]; omega) | skip)))) (ints_flat _ _)
    · have e : decide (V us < V vs * d) = decide (0 < c) := by rw [decide_eq_decide, k2]; omega
      rw [e]
      ((repeat' (first | refine gW ?_ | (refine gIf ?_ ?_ <;> (intro hc; try exact gX)) | with_reducible refine br_intro ?_ ?_ | (with_reducible intro _; try exact gX) | with_reducible refine ands_intro ?_ ?_)) <;> (try exact gF))
      exact rqb_raw trivial (by (simp (disch := omega) only [push_cast, reduceCtorEq, Nat.reduceAdd, Nat.reduceMul, Nat.reduceEqDiff, ↓reduceIte, Nat.reduceLT, Nat.reduceLeDiff, Int.reduceToNat, Int.reduceLT, Int.reduceLE, Int.reduceEq, Int.reduceNeg, Int.reduceAdd, Int.reduceSub, Int.reduceMul] <;> ((repeat' with_reducible apply And.intro) <;> (first | rfl | omega | (rw [List.take_of_length_le (by first | omega | (simp; done) | (simp; omega))]; done) | (rw [List.take_of_length_le]; simp only [List.length_take, List.length_drop, List.length_append, List.length_set, List.length_replicate, List.length_cons, List.length_nil, limbsN_length, Nat.le_refl]; done) | (simp only [List.length_take, List.length_drop, List.length_append, List.length_set, List.length_replicate, List.length_cons, List.length_nil, limbsN_length]; done) | (simp only [List.length_take, List.length_drop, List.length_append, List.length_set, List.length_replicate, List.length_cons, List.length_nil, limbsN_length]; omega) | (simp only [Value.bool.injEq, Value.int.injEq, decide_eq_decide, true_and, List.length_take, List.length_drop, List.length_append, List.length_set, List.length_replicate, List.length_cons, List.length_nil, limbsN_length]; omega) | skip)))) (by (simp (disch := omega) only [push_cast, reduceCtorEq, Nat.reduceAdd, Nat.reduceMul, Nat.reduceEqDiff, ↓reduceIte, Nat.reduceLT, Nat.reduceLeDiff, Int.reduceToNat, Int.reduceLT, Int.reduceLE, Int.reduceEq, Int.reduceNeg, Int.reduceAdd, Int.reduceSub, Int.reduceMul] <;> ((repeat' with_reducible apply And.intro) <;> (first | rfl | omega | (rw [List.take_of_length_le (by first | omega | (simp; done) | (simp; omega))]; done) | (rw [List.take_of_length_le]; simp only [List.length_take, List.length_drop, List.length_append, List.length_set, List.length_replicate, List.length_cons, List.length_nil, limbsN_length, Nat.le_refl]; done) | (simp only [List.length_take, List.length_drop, List.length_append, List.length_set, List.length_replicate, List.length_cons, List.length_nil, limbsN_length]; done) | (simp only [List.length_take, List.length_drop, List.length_append, List.length_set, List.length_replicate, List.length_cons, List.length_nil, limbsN_length]; omega) | (simp only [Value.bool.injEq, Value.int.injEq, decide_eq_decide, true_and, List.length_take, List.length_drop, List.length_append, List.length_set, List.length_replicate, List.length_cons, List.length_nil, limbsN_length]; omega) | skip)))) (ints_flat _ _)

theorem addm_end {ws us vs : List Int} {c : Int} {n : Nat} (hn : ws.length = n) (hu : us.length = n) (hL : Lim ws) (hV : V ws + P9 n * c = V us + V vs) : ws = limbsN n ((V us + V vs) % P9 n) := by
  have h0 := V_nonneg hL
  have h1 := V_lt hL
  rw [hn] at h1
  refine limbsN_eq hL hn ?_
  rw [← hV, Int.add_mul_emod_self_left, Int.emod_eq_of_lt h0 h1]
theorem restore_c {n m : Nat} {us vs : List Int} (hn : n = us.length) (hm : m = vs.length) (hu : Lim us) (hv : Lim vs) (hle : vs.length ≤ us.length) (hl : us.length ≤ 1000000) :
    HCallsD Tryz.prog 122 [rowB us] [.own 0 0 n false, .sl m false (ints .u32 vs)] (.tup []) [rowB (limbsN us.length ((V us + V vs) % P9 us.length))] := by
  subst hn hm
  refine calls_bor (fn := Tryz.f122) Tryz.func122 (by decide) (c := _) rfl (rs := []) rfl (nt := 37) rfl [(0, .own 0 0 us.length false), (1, .sl vs.length false (ints .u32 vs))] (args_two _ _) (Nat.le_of_ble_eq_true rfl) rfl (fun C hP hn => ?_)
  unfold rowB
  ((repeat' (first | refine gW ?_ | (refine gIf ?_ ?_ <;> (intro hc; try exact gX)) | with_reducible refine br_intro ?_ ?_ | (with_reducible intro _; try exact gX) | with_reducible refine ands_intro ?_ ?_)) <;> (try exact gF))
  refine hwp_loopS (fun x : Nat × Int × List Int => ⟨lk [(0, .own 0 0 us.length false), (1, .sl vs.length false (ints .u32 vs)), (4, .raw (.int .u32 x.2.1)), (8, .raw (.int .i64 us.length)), (9, .raw (.int .i64 x.1))],
      hlk [(0, { al := true, live := true, wb := true, grow := false, elem := 62, sz := 1, cells := ints .u32 x.2.2 })], 1, 37⟩)
    (fun x => x.1 ≤ us.length ∧ x.2.2.length = us.length ∧ Lim (x.2.2.take x.1) ∧ x.2.2.drop x.1 = us.drop x.1 ∧ 0 ≤ x.2.1 ∧ x.2.1 ≤ 1 ∧ V (x.2.2.take x.1) + P9 x.1 * x.2.1 = V (us.take x.1) + V (vs.take x.1)) (fun x => us.length - x.1)
    ⟨(0, 0, us), ⟨Nat.zero_le _, rfl, by simp [Lim], rfl, by simp, by simp, by simp [V]⟩, by exact cvB hn⟩ ?_
  rintro ⟨i, c, ws⟩ ⟨g1, g2, g3, g4, g5, g6, g7⟩
  simp only at g1 g2 g3 g4 g5 g6 g7
  have e1 := drop_getD g4
  have b1 := hu.getA i
  have b2 := hv.getA i
  have hz : vs.length ≤ i → vs.getD i 0 = 0 := fun h => by simp [List.getD, h]
  rw [← e1] at b1
  rcases Nat.lt_or_ge i us.length with hi | hi
  · have e2 := drop_succ_eq g4
    ((repeat' (first | refine gW ?_ | (refine gIf ?_ ?_ <;> (intro hc; try exact gX)) | with_reducible refine br_intro ?_ ?_ | (with_reducible intro _; try exact gX) | with_reducible refine ands_intro ?_ ?_)) <;> (try exact gF))
    · refine ⟨(i + 1, 1, ws.set i (ws.getD i 0 + c + vs.getD i 0 - 1000000000)), by simp only; omega, ⟨by simp only; omega, by simp [g2], set_lim (by omega) g3 (by omega) (by omega), by simp only; rw [List.drop_set_of_lt (Nat.lt_succ_self i)]; exact e2, by simp, by simp, by simp only; exact set_step (by omega) g7 (by omega)⟩, ?_⟩
      exact cvB hn
    · refine ⟨(i + 1, 0, ws.set i (ws.getD i 0 + c + vs.getD i 0)), by simp only; omega, ⟨by simp only; omega, by simp [g2], set_lim (by omega) g3 (by omega) (by omega), by simp only; rw [List.drop_set_of_lt (Nat.lt_succ_self i)]; exact e2, by simp, by simp, by simp only; exact set_step (by omega) g7 (by omega)⟩, ?_⟩
      exact cvB hn
    · have z := hz (by omega)
      refine ⟨(i + 1, 1, ws.set i (ws.getD i 0 + c - 1000000000)), by simp only; omega, ⟨by simp only; omega, by simp [g2], set_lim (by omega) g3 (by omega) (by omega), by simp only; rw [List.drop_set_of_lt (Nat.lt_succ_self i)]; exact e2, by simp, by simp, by simp only; exact set_step (by omega) g7 (by omega)⟩, ?_⟩
      exact cvB hn
    · have z := hz (by omega)
      refine ⟨(i + 1, 0, ws.set i (ws.getD i 0 + c)), by simp only; omega, ⟨by simp only; omega, by simp [g2], set_lim (by omega) g3 (by omega) (by omega), by simp only; rw [List.drop_set_of_lt (Nat.lt_succ_self i)]; exact e2, by simp, by simp, by simp only; exact set_step (by omega) g7 (by omega)⟩, ?_⟩
      exact cvB hn
  · have hi' : i = us.length := by omega
    subst hi'
    rw [List.take_of_length_le (by omega), List.take_of_length_le (by omega), List.take_of_length_le hle] at g7
    rw [List.take_of_length_le (by omega)] at g3
    rw [← addm_end g2 rfl g3 g7]
    ((repeat' (first | refine gW ?_ | (refine gIf ?_ ?_ <;> (intro hc; try exact gX)) | with_reducible refine br_intro ?_ ?_ | (with_reducible intro _; try exact gX) | with_reducible refine ands_intro ?_ ?_)) <;> (try exact gF))
    exact rqb_none trivial (by (simp (disch := omega) only [push_cast, reduceCtorEq, Nat.reduceAdd, Nat.reduceMul, Nat.reduceEqDiff, ↓reduceIte, Nat.reduceLT, Nat.reduceLeDiff, Int.reduceToNat, Int.reduceLT, Int.reduceLE, Int.reduceEq, Int.reduceNeg, Int.reduceAdd, Int.reduceSub, Int.reduceMul] <;> ((repeat' with_reducible apply And.intro) <;> (first | rfl | omega | (rw [List.take_of_length_le (by first | omega | (simp; done) | (simp; omega))]; done) | (rw [List.take_of_length_le]; simp only [List.length_take, List.length_drop, List.length_append, List.length_set, List.length_replicate, List.length_cons, List.length_nil, limbsN_length, Nat.le_refl]; done) | (simp only [List.length_take, List.length_drop, List.length_append, List.length_set, List.length_replicate, List.length_cons, List.length_nil, limbsN_length]; done) | (simp only [List.length_take, List.length_drop, List.length_append, List.length_set, List.length_replicate, List.length_cons, List.length_nil, limbsN_length]; omega) | (simp only [Value.bool.injEq, Value.int.injEq, decide_eq_decide, true_and, List.length_take, List.length_drop, List.length_append, List.length_set, List.length_replicate, List.length_cons, List.length_nil, limbsN_length]; omega) | skip)))) (ints_flat _ _)
end Go.Proofs.YtfmebdmgnmogaaaGreatDoor
