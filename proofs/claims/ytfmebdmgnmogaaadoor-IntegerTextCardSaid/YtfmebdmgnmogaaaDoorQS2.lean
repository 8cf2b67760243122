/- The decimal text of the reference: the contract. No statement of its own. -/
import Derived.Test.YtfmebdmgnmogaaaDoorQS1
set_option linter.unusedSimpArgs false
set_option linter.unusedVariables false
set_option maxRecDepth 100000
set_option maxHeartbeats 8000000
namespace Go.Proofs.YtfmebdmgnmogaaaDoor
open Go Go.RowKit Hv

theorem strip_step {s : List UInt8} (h : ((s.getD 0 0).toNat : Int) = 48) : strip0 s = strip0 (s.drop 1) := by
  cases s with
  | nil => rfl
  | cons c s =>
    have : c = 48 := by
      apply UInt8.toNat_inj.1
      have e : ((c.toNat : Nat) : Int) = 48 := h
      show c.toNat = 48
      omega
    simp only [strip0, this, if_true, List.drop_succ_cons, List.drop_zero]
theorem strip_stop {s : List UInt8} (h : ¬ ((s.getD 0 0).toNat : Int) = 48) : strip0 s = s := by
  cases s with
  | nil => rfl
  | cons c s =>
    have : ¬ c = 48 := by
      rintro rfl
      exact h rfl
    simp only [strip0, if_neg this]
theorem strip_pos {s : List UInt8} (h : strip0 s ≠ []) : 0 < s.length := by
  cases s with
  | nil => exact absurd rfl h
  | cons c s => simp
attribute [push_cast] bs_app
theorem dgs_zero (d : Int) : dgs 0 d = [] := rfl

theorem rformat_k {b : Bool} {xs : List Int} (hx : Lim xs) (hl : xs.length ≤ 1000) (h0 : 0 < xs.length) (hs : strip0 (tl9 xs xs.length) ≠ []) : HCallsD Tryd.prog 10 [] [.agg [.raw (.bool b), .sl xs.length false (ints .u32 xs)]] (.raw (.string (bs (sgnD b ++ strip0 (tl9 xs xs.length))))) [] := by
  refine calls_pure (fn := Tryd.f10) Tryd.func10 (by decide) (c := _) rfl (rs := [.tmp 2]) rfl (nt := 46) rfl [(0, .agg [.raw (.bool b), .sl xs.length false (ints .u32 xs)])] (args_one _) (Nat.le_of_ble_eq_true rfl) (fun C hP hn => ?_)
  repeat' (first | (with_reducible first | refine hwp_seq ?_ | refine un_succ ?_ | refine hwp_block ?_ | refine hwp_skip ?_ | refine hwp_exit ?_ | refine hwp_label ?_ | refine hwp_ret ?_ | refine normal_then ?_ | refine exit_then ?_ | refine ret_then ?_ | refine normal_in ?_ | refine ret_in ?_ | refine exit_in ?_ | refine exit_out rfl ?_) | ((with_reducible refine hwp_cond_pre ?_); refine hwp_cond_post rfl ?_ ?_; all_goals intro hc; all_goals (first | (exact absurd hc (by decide)) | (simp only [decide_eq_true_eq, decide_eq_false_iff_not, Bool.not_eq_true', Bool.not_eq_false', beq_iff_eq, beq_eq_false_iff_ne, ne_eq, Decidable.not_not, Bool.and_eq_true, Bool.or_eq_true, Bool.or_eq_false_iff] at hc; try (exfalso; omega)) | skip)) | ((with_reducible (first | refine region hP (fun _ => none) (fun K hK => ?_) | refine regionD hP (fun _ => none) follows_mixed (by kernel_rfl) (fun K hK => ?_))); simp +contextual (maxSteps := 1000000) (disch := omega) only [push_cast, reduceCtorEq, Nat.reduceAdd, Nat.reduceMul, Nat.reduceEqDiff, ↓reduceIte, Nat.reduceLT, Nat.reduceLeDiff, Int.reduceToNat, Int.reduceLT, Int.reduceLE, Int.reduceEq, Int.reduceNeg, Int.reduceAdd, Int.reduceSub, Int.reduceMul]; (repeat' (first | with_reducible apply And.intro | intro _)) <;> (first | (exfalso; clear hK; omega) | (refine hK _ ?_; clear hK K) | (clear hK K; first | omega | trivial | rfl | decide | kernel_rfl | skip))))
  refine hwp_loopS (fun i : Nat => ⟨lk [(1, .ptr 0 0), (3, .raw (.string (bs (tl9 xs i)))), (4, .raw (.int .i64 i))],
    hlk [(0, { al := true, live := true, wb := true, elem := 24, cells := [.raw (.bool b), .sl xs.length false (ints .u32 xs)] })], 1, 46⟩)
    (fun i => i ≤ xs.length) (fun i => xs.length - i) ⟨0, Nat.zero_le _, by (refine cov_go hn [(0, 0)] _ _ _ rfl ?_ ?_ ?_ <;> (simp (disch := omega) only [push_cast, reduceCtorEq, Nat.reduceAdd, Nat.reduceMul, Nat.reduceEqDiff, ↓reduceIte, Nat.reduceLT, Nat.reduceLeDiff, Int.reduceToNat, Int.reduceLT, Int.reduceLE, Int.reduceEq, Int.reduceNeg, Int.reduceAdd, Int.reduceSub, Int.reduceMul] <;> ((repeat' with_reducible apply And.intro) <;> (first | rfl | omega | (rw [List.take_of_length_le (by first | omega | (simp; done) | (simp; omega))]; done) | (rw [List.take_of_length_le]; simp only [List.length_take, List.length_drop, List.length_append, List.length_set, List.length_replicate, List.length_cons, List.length_nil, limbsN_length, Nat.le_refl]; done) | (simp only [List.length_take, List.length_drop, List.length_append, List.length_set, List.length_replicate, List.length_cons, List.length_nil, limbsN_length]; done) | (simp only [List.length_take, List.length_drop, List.length_append, List.length_set, List.length_replicate, List.length_cons, List.length_nil, limbsN_length]; omega) | (simp only [Value.bool.injEq, Value.int.injEq, decide_eq_decide, true_and, List.length_take, List.length_drop, List.length_append, List.length_set, List.length_replicate, List.length_cons, List.length_nil, limbsN_length]; omega) | skip))))⟩ ?_
  intro i h1
  rcases Nat.lt_or_ge i xs.length with hi | hi
  · have hb := hx.getA i
    have ht := tl9_length xs i
    repeat' (first | (with_reducible first | refine hwp_seq ?_ | refine un_succ ?_ | refine hwp_block ?_ | refine hwp_skip ?_ | refine hwp_exit ?_ | refine hwp_label ?_ | refine hwp_ret ?_ | refine normal_then ?_ | refine exit_then ?_ | refine ret_then ?_ | refine normal_in ?_ | refine ret_in ?_ | refine exit_in ?_ | refine exit_out rfl ?_) | ((with_reducible refine hwp_cond_pre ?_); refine hwp_cond_post rfl ?_ ?_; all_goals intro hc; all_goals (first | (exact absurd hc (by decide)) | (simp only [decide_eq_true_eq, decide_eq_false_iff_not, Bool.not_eq_true', Bool.not_eq_false', beq_iff_eq, beq_eq_false_iff_ne, ne_eq, Decidable.not_not, Bool.and_eq_true, Bool.or_eq_true, Bool.or_eq_false_iff] at hc; try (exfalso; omega)) | skip)) | ((with_reducible (first | refine region hP (fun _ => none) (fun K hK => ?_) | refine regionD hP (fun _ => none) follows_mixed (by kernel_rfl) (fun K hK => ?_))); simp +contextual (maxSteps := 1000000) (disch := omega) only [push_cast, reduceCtorEq, Nat.reduceAdd, Nat.reduceMul, Nat.reduceEqDiff, ↓reduceIte, Nat.reduceLT, Nat.reduceLeDiff, Int.reduceToNat, Int.reduceLT, Int.reduceLE, Int.reduceEq, Int.reduceNeg, Int.reduceAdd, Int.reduceSub, Int.reduceMul]; (repeat' (first | with_reducible apply And.intro | intro _)) <;> (first | (exfalso; clear hK; omega) | (refine hK _ ?_; clear hK K) | (clear hK K; first | omega | trivial | rfl | decide | kernel_rfl | skip))))
    refine hwp_loopS (fun x : Nat × Int × List UInt8 => ⟨lk [(1, .ptr 0 0), (3, .raw (.string (bs x.2.2))), (4, .raw (.int .i64 i)), (5, .raw (.int .u32 x.2.1)), (6, .raw (.int .i64 x.1))],
      hlk [(0, { al := true, live := true, wb := true, elem := 24, cells := [.raw (.bool b), .sl xs.length false (ints .u32 xs)] })], 1, 46⟩)
      (fun x => x.1 ≤ 9 ∧ 0 ≤ x.2.1 ∧ x.2.1 < 1000000000 ∧ x.2.2.length = 9 * i + x.1 ∧ dgs (9 - x.1) x.2.1 ++ x.2.2 = dgs 9 (xs.getD i 0) ++ tl9 xs i) (fun x => 9 - x.1)
      ⟨(0, xs.getD i 0, tl9 xs i), ⟨Nat.zero_le _, hb.1, hb.2, by simp only; omega, rfl⟩, by (refine cov_go hn [(0, 0)] _ _ _ rfl ?_ ?_ ?_ <;> (simp (disch := omega) only [push_cast, reduceCtorEq, Nat.reduceAdd, Nat.reduceMul, Nat.reduceEqDiff, ↓reduceIte, Nat.reduceLT, Nat.reduceLeDiff, Int.reduceToNat, Int.reduceLT, Int.reduceLE, Int.reduceEq, Int.reduceNeg, Int.reduceAdd, Int.reduceSub, Int.reduceMul] <;> ((repeat' with_reducible apply And.intro) <;> (first | rfl | omega | (rw [List.take_of_length_le (by first | omega | (simp; done) | (simp; omega))]; done) | (rw [List.take_of_length_le]; simp only [List.length_take, List.length_drop, List.length_append, List.length_set, List.length_replicate, List.length_cons, List.length_nil, limbsN_length, Nat.le_refl]; done) | (simp only [List.length_take, List.length_drop, List.length_append, List.length_set, List.length_replicate, List.length_cons, List.length_nil, limbsN_length]; done) | (simp only [List.length_take, List.length_drop, List.length_append, List.length_set, List.length_replicate, List.length_cons, List.length_nil, limbsN_length]; omega) | (simp only [Value.bool.injEq, Value.int.injEq, decide_eq_decide, true_and, List.length_take, List.length_drop, List.length_append, List.length_set, List.length_replicate, List.length_cons, List.length_nil, limbsN_length]; omega) | skip))))⟩ ?_
    rintro ⟨j, nn, l⟩ ⟨g1, g2, g3, g4, g5⟩
    simp only at g1 g2 g3 g4 g5
    rcases Nat.lt_or_ge j 9 with hj | hj
    · have e1 : Utf8.encode (48 + nn % 10) = bs [ch (nn % 10)] := enc_ch (by omega) (by omega)
      repeat' (first | (with_reducible first | refine hwp_seq ?_ | refine un_succ ?_ | refine hwp_block ?_ | refine hwp_skip ?_ | refine hwp_exit ?_ | refine hwp_label ?_ | refine hwp_ret ?_ | refine normal_then ?_ | refine exit_then ?_ | refine ret_then ?_ | refine normal_in ?_ | refine ret_in ?_ | refine exit_in ?_ | refine exit_out rfl ?_) | ((with_reducible refine hwp_cond_pre ?_); refine hwp_cond_post rfl ?_ ?_; all_goals intro hc; all_goals (first | (exact absurd hc (by decide)) | (simp only [decide_eq_true_eq, decide_eq_false_iff_not, Bool.not_eq_true', Bool.not_eq_false', beq_iff_eq, beq_eq_false_iff_ne, ne_eq, Decidable.not_not, Bool.and_eq_true, Bool.or_eq_true, Bool.or_eq_false_iff] at hc; try (exfalso; omega)) | skip)) | ((with_reducible (first | refine region hP (fun _ => none) (fun K hK => ?_) | refine regionD hP (fun _ => none) follows_mixed (by kernel_rfl) (fun K hK => ?_))); simp +contextual (maxSteps := 1000000) (disch := omega) only [push_cast, reduceCtorEq, Nat.reduceAdd, Nat.reduceMul, Nat.reduceEqDiff, ↓reduceIte, Nat.reduceLT, Nat.reduceLeDiff, Int.reduceToNat, Int.reduceLT, Int.reduceLE, Int.reduceEq, Int.reduceNeg, Int.reduceAdd, Int.reduceSub, Int.reduceMul, e1, List.length_cons, List.length_nil]; (repeat' (first | with_reducible apply And.intro | intro _)) <;> (first | (exfalso; clear hK; omega) | (refine hK _ ?_; clear hK K) | (clear hK K; first | omega | trivial | rfl | decide | kernel_rfl | skip))))
      refine ⟨(j + 1, nn / 10, [ch (nn % 10)] ++ l), by simp only; omega, ⟨by simp only; omega, by simp only; omega, by simp only; omega, by simp only [List.length_append, List.length_cons, List.length_nil]; omega, ?_⟩, ?_⟩
      · obtain ⟨k, hk⟩ : ∃ k, 9 - j = k + 1 := ⟨8 - j, by omega⟩
        have hk2 : 9 - (j + 1) = k := by omega
        rw [hk] at g5
        simp only [hk2]
        rw [← g5]
        simp only [dgs, List.append_assoc]
      · (refine cov_go hn [(0, 0)] _ _ _ rfl ?_ ?_ ?_ <;> (simp (disch := omega) only [push_cast, reduceCtorEq, Nat.reduceAdd, Nat.reduceMul, Nat.reduceEqDiff, ↓reduceIte, Nat.reduceLT, Nat.reduceLeDiff, Int.reduceToNat, Int.reduceLT, Int.reduceLE, Int.reduceEq, Int.reduceNeg, Int.reduceAdd, Int.reduceSub, Int.reduceMul] <;> ((repeat' with_reducible apply And.intro) <;> (first | rfl | omega | (rw [List.take_of_length_le (by first | omega | (simp; done) | (simp; omega))]; done) | (rw [List.take_of_length_le]; simp only [List.length_take, List.length_drop, List.length_append, List.length_set, List.length_replicate, List.length_cons, List.length_nil, limbsN_length, Nat.le_refl]; done) | (simp only [List.length_take, List.length_drop, List.length_append, List.length_set, List.length_replicate, List.length_cons, List.length_nil, limbsN_length]; done) | (simp only [List.length_take, List.length_drop, List.length_append, List.length_set, List.length_replicate, List.length_cons, List.length_nil, limbsN_length]; omega) | (simp only [Value.bool.injEq, Value.int.injEq, decide_eq_decide, true_and, List.length_take, List.length_drop, List.length_append, List.length_set, List.length_replicate, List.length_cons, List.length_nil, limbsN_length]; omega) | skip))))
    · obtain rfl : j = 9 := by omega
      rw [show 9 - 9 = 0 from rfl, dgs_zero, List.nil_append] at g5
      subst g5
      repeat' (first | (with_reducible first | refine hwp_seq ?_ | refine un_succ ?_ | refine hwp_block ?_ | refine hwp_skip ?_ | refine hwp_exit ?_ | refine hwp_label ?_ | refine hwp_ret ?_ | refine normal_then ?_ | refine exit_then ?_ | refine ret_then ?_ | refine normal_in ?_ | refine ret_in ?_ | refine exit_in ?_ | refine exit_out rfl ?_) | ((with_reducible refine hwp_cond_pre ?_); refine hwp_cond_post rfl ?_ ?_; all_goals intro hc; all_goals (first | (exact absurd hc (by decide)) | (simp only [decide_eq_true_eq, decide_eq_false_iff_not, Bool.not_eq_true', Bool.not_eq_false', beq_iff_eq, beq_eq_false_iff_ne, ne_eq, Decidable.not_not, Bool.and_eq_true, Bool.or_eq_true, Bool.or_eq_false_iff] at hc; try (exfalso; omega)) | skip)) | ((with_reducible (first | refine region hP (fun _ => none) (fun K hK => ?_) | refine regionD hP (fun _ => none) follows_mixed (by kernel_rfl) (fun K hK => ?_))); simp +contextual (maxSteps := 1000000) (disch := omega) only [push_cast, reduceCtorEq, Nat.reduceAdd, Nat.reduceMul, Nat.reduceEqDiff, ↓reduceIte, Nat.reduceLT, Nat.reduceLeDiff, Int.reduceToNat, Int.reduceLT, Int.reduceLE, Int.reduceEq, Int.reduceNeg, Int.reduceAdd, Int.reduceSub, Int.reduceMul]; (repeat' (first | with_reducible apply And.intro | intro _)) <;> (first | (exfalso; clear hK; omega) | (refine hK _ ?_; clear hK K) | (clear hK K; first | omega | trivial | rfl | decide | kernel_rfl | skip))))
      refine ⟨i + 1, by omega, by omega, ?_⟩
      (refine cov_go hn [(0, 0)] _ _ _ rfl ?_ ?_ ?_ <;> (simp (disch := omega) only [push_cast, reduceCtorEq, Nat.reduceAdd, Nat.reduceMul, Nat.reduceEqDiff, ↓reduceIte, Nat.reduceLT, Nat.reduceLeDiff, Int.reduceToNat, Int.reduceLT, Int.reduceLE, Int.reduceEq, Int.reduceNeg, Int.reduceAdd, Int.reduceSub, Int.reduceMul] <;> ((repeat' with_reducible apply And.intro) <;> (first | rfl | omega | (rw [List.take_of_length_le (by first | omega | (simp; done) | (simp; omega))]; done) | (rw [List.take_of_length_le]; simp only [List.length_take, List.length_drop, List.length_append, List.length_set, List.length_replicate, List.length_cons, List.length_nil, limbsN_length, Nat.le_refl]; done) | (simp only [List.length_take, List.length_drop, List.length_append, List.length_set, List.length_replicate, List.length_cons, List.length_nil, limbsN_length]; done) | (simp only [List.length_take, List.length_drop, List.length_append, List.length_set, List.length_replicate, List.length_cons, List.length_nil, limbsN_length]; omega) | (simp only [Value.bool.injEq, Value.int.injEq, decide_eq_decide, true_and, List.length_take, List.length_drop, List.length_append, List.length_set, List.length_replicate, List.length_cons, List.length_nil, limbsN_length]; omega) | skip))))
  · obtain rfl : i = xs.length := by omega
    have ht := tl9_length xs xs.length
    repeat' (first | (with_reducible first | refine hwp_seq ?_ | refine un_succ ?_ | refine hwp_block ?_ | refine hwp_skip ?_ | refine hwp_exit ?_ | refine hwp_label ?_ | refine hwp_ret ?_ | refine normal_then ?_ | refine exit_then ?_ | refine ret_then ?_ | refine normal_in ?_ | refine ret_in ?_ | refine exit_in ?_ | refine exit_out rfl ?_) | ((with_reducible refine hwp_cond_pre ?_); refine hwp_cond_post rfl ?_ ?_; all_goals intro hc; all_goals (first | (exact absurd hc (by decide)) | (simp only [decide_eq_true_eq, decide_eq_false_iff_not, Bool.not_eq_true', Bool.not_eq_false', beq_iff_eq, beq_eq_false_iff_ne, ne_eq, Decidable.not_not, Bool.and_eq_true, Bool.or_eq_true, Bool.or_eq_false_iff] at hc; try (exfalso; omega)) | skip)) | ((with_reducible (first | refine region hP (fun _ => none) (fun K hK => ?_) | refine regionD hP (fun _ => none) follows_mixed (by kernel_rfl) (fun K hK => ?_))); simp +contextual (maxSteps := 1000000) (disch := omega) only [push_cast, reduceCtorEq, Nat.reduceAdd, Nat.reduceMul, Nat.reduceEqDiff, ↓reduceIte, Nat.reduceLT, Nat.reduceLeDiff, Int.reduceToNat, Int.reduceLT, Int.reduceLE, Int.reduceEq, Int.reduceNeg, Int.reduceAdd, Int.reduceSub, Int.reduceMul]; (repeat' (first | with_reducible apply And.intro | intro _)) <;> (first | (exfalso; clear hK; omega) | (refine hK _ ?_; clear hK K) | (clear hK K; first | omega | trivial | rfl | decide | kernel_rfl | skip))))
    refine hwp_loopS (fun s : List UInt8 => ⟨lk [(1, .ptr 0 0), (3, .raw (.string (bs s)))],
      hlk [(0, { al := true, live := true, wb := true, elem := 24, cells := [.raw (.bool b), .sl xs.length false (ints .u32 xs)] })], 1, 46⟩)
      (fun s => strip0 s = strip0 (tl9 xs xs.length) ∧ s.length ≤ 9 * xs.length) (fun s => s.length)
      ⟨tl9 xs xs.length, ⟨rfl, by omega⟩, by (refine cov_go hn [(0, 0)] _ _ _ rfl ?_ ?_ ?_ <;> (simp (disch := omega) only [push_cast, reduceCtorEq, Nat.reduceAdd, Nat.reduceMul, Nat.reduceEqDiff, ↓reduceIte, Nat.reduceLT, Nat.reduceLeDiff, Int.reduceToNat, Int.reduceLT, Int.reduceLE, Int.reduceEq, Int.reduceNeg, Int.reduceAdd, Int.reduceSub, Int.reduceMul] <;> ((repeat' with_reducible apply And.intro) <;> (first | rfl | omega | (rw [List.take_of_length_le (by first | omega | (simp; done) | (simp; omega))]; done) | (rw [List.take_of_length_le]; simp only [List.length_take, List.length_drop, List.length_append, List.length_set, List.length_replicate, List.length_cons, List.length_nil, limbsN_length, Nat.le_refl]; done) | (simp only [List.length_take, List.length_drop, List.length_append, List.length_set, List.length_replicate, List.length_cons, List.length_nil, limbsN_length]; done) | (simp only [List.length_take, List.length_drop, List.length_append, List.length_set, List.length_replicate, List.length_cons, List.length_nil, limbsN_length]; omega) | (simp only [Value.bool.injEq, Value.int.injEq, decide_eq_decide, true_and, List.length_take, List.length_drop, List.length_append, List.length_set, List.length_replicate, List.length_cons, List.length_nil, limbsN_length]; omega) | skip))))⟩ ?_
    rintro s ⟨g1, g2⟩
    have g3 := strip_pos (g1 ▸ hs)
    cases b
    all_goals repeat' (first | (with_reducible first | refine hwp_seq ?_ | refine un_succ ?_ | refine hwp_block ?_ | refine hwp_skip ?_ | refine hwp_exit ?_ | refine hwp_label ?_ | refine hwp_ret ?_ | refine normal_then ?_ | refine exit_then ?_ | refine ret_then ?_ | refine normal_in ?_ | refine ret_in ?_ | refine exit_in ?_ | refine exit_out rfl ?_) | ((with_reducible refine hwp_cond_pre ?_); refine hwp_cond_post rfl ?_ ?_; all_goals intro hc; all_goals (first | (exact absurd hc (by decide)) | (simp only [decide_eq_true_eq, decide_eq_false_iff_not, Bool.not_eq_true', Bool.not_eq_false', beq_iff_eq, beq_eq_false_iff_ne, ne_eq, Decidable.not_not, Bool.and_eq_true, Bool.or_eq_true, Bool.or_eq_false_iff] at hc; try (exfalso; omega)) | skip)) | ((with_reducible (first | refine region hP (fun _ => none) (fun K hK => ?_) | refine regionD hP (fun _ => none) follows_mixed (by kernel_rfl) (fun K hK => ?_))); simp +contextual (maxSteps := 1000000) (disch := omega) only [push_cast, reduceCtorEq, Nat.reduceAdd, Nat.reduceMul, Nat.reduceEqDiff, ↓reduceIte, Nat.reduceLT, Nat.reduceLeDiff, Int.reduceToNat, Int.reduceLT, Int.reduceLE, Int.reduceEq, Int.reduceNeg, Int.reduceAdd, Int.reduceSub, Int.reduceMul, List.length_cons, List.length_nil]; (repeat' (first | with_reducible apply And.intro | intro _)) <;> (first | (exfalso; clear hK; omega) | (refine hK _ ?_; clear hK K) | (clear hK K; first | omega | trivial | rfl | decide | kernel_rfl | skip))))
    · refine ⟨s.drop 1, by simp; omega, ⟨by rw [← strip_step hc]; exact g1, by simp; omega⟩, ?_⟩
      (refine cov_go hn [(0, 0)] _ _ _ rfl ?_ ?_ ?_ <;> (simp (disch := omega) only [push_cast, reduceCtorEq, Nat.reduceAdd, Nat.reduceMul, Nat.reduceEqDiff, ↓reduceIte, Nat.reduceLT, Nat.reduceLeDiff, Int.reduceToNat, Int.reduceLT, Int.reduceLE, Int.reduceEq, Int.reduceNeg, Int.reduceAdd, Int.reduceSub, Int.reduceMul] <;> ((repeat' with_reducible apply And.intro) <;> (first | rfl | omega | (rw [List.take_of_length_le (by first | omega | (simp; done) | (simp; omega))]; done) | (rw [List.take_of_length_le]; simp only [List.length_take, List.length_drop, List.length_append, List.length_set, List.length_replicate, List.length_cons, List.length_nil, limbsN_length, Nat.le_refl]; done) | (simp only [List.length_take, List.length_drop, List.length_append, List.length_set, List.length_replicate, List.length_cons, List.length_nil, limbsN_length]; done) | (simp only [List.length_take, List.length_drop, List.length_append, List.length_set, List.length_replicate, List.length_cons, List.length_nil, limbsN_length]; omega) | (simp only [Value.bool.injEq, Value.int.injEq, decide_eq_decide, true_and, List.length_take, List.length_drop, List.length_append, List.length_set, List.length_replicate, List.length_cons, List.length_nil, limbsN_length]; omega) | skip))))
    · rw [← g1, strip_stop (by assumption)]
      (refine rq_one trivial ?_; (focus (refine res_tmp ?_ ?_ <;> (simp (disch := omega) only [push_cast, reduceCtorEq, Nat.reduceAdd, Nat.reduceMul, Nat.reduceEqDiff, ↓reduceIte, Nat.reduceLT, Nat.reduceLeDiff, Int.reduceToNat, Int.reduceLT, Int.reduceLE, Int.reduceEq, Int.reduceNeg, Int.reduceAdd, Int.reduceSub, Int.reduceMul] <;> ((repeat' with_reducible apply And.intro) <;> (first | rfl | omega | (rw [List.take_of_length_le (by first | omega | (simp; done) | (simp; omega))]; done) | (rw [List.take_of_length_le]; simp only [List.length_take, List.length_drop, List.length_append, List.length_set, List.length_replicate, List.length_cons, List.length_nil, limbsN_length, Nat.le_refl]; done) | (simp only [List.length_take, List.length_drop, List.length_append, List.length_set, List.length_replicate, List.length_cons, List.length_nil, limbsN_length]; done) | (simp only [List.length_take, List.length_drop, List.length_append, List.length_set, List.length_replicate, List.length_cons, List.length_nil, limbsN_length]; omega) | (simp only [Value.bool.injEq, Value.int.injEq, decide_eq_decide, true_and, List.length_take, List.length_drop, List.length_append, List.length_set, List.length_replicate, List.length_cons, List.length_nil, limbsN_length]; omega) | skip))))))
    · refine ⟨s.drop 1, by simp; omega, ⟨by rw [← strip_step hc]; exact g1, by simp; omega⟩, ?_⟩
      (refine cov_go hn [(0, 0)] _ _ _ rfl ?_ ?_ ?_ <;> (simp (disch := omega) only [push_cast, reduceCtorEq, Nat.reduceAdd, Nat.reduceMul, Nat.reduceEqDiff, ↓reduceIte, Nat.reduceLT, Nat.reduceLeDiff, Int.reduceToNat, Int.reduceLT, Int.reduceLE, Int.reduceEq, Int.reduceNeg, Int.reduceAdd, Int.reduceSub, Int.reduceMul] <;> ((repeat' with_reducible apply And.intro) <;> (first | rfl | omega | (rw [List.take_of_length_le (by first | omega | (simp; done) | (simp; omega))]; done) | (rw [List.take_of_length_le]; simp only [List.length_take, List.length_drop, List.length_append, List.length_set, List.length_replicate, List.length_cons, List.length_nil, limbsN_length, Nat.le_refl]; done) | (simp only [List.length_take, List.length_drop, List.length_append, List.length_set, List.length_replicate, List.length_cons, List.length_nil, limbsN_length]; done) | (simp only [List.length_take, List.length_drop, List.length_append, List.length_set, List.length_replicate, List.length_cons, List.length_nil, limbsN_length]; omega) | (simp only [Value.bool.injEq, Value.int.injEq, decide_eq_decide, true_and, List.length_take, List.length_drop, List.length_append, List.length_set, List.length_replicate, List.length_cons, List.length_nil, limbsN_length]; omega) | skip))))
    · rw [← g1, strip_stop (by assumption)]
      (refine rq_one trivial ?_; (focus (refine res_tmp ?_ ?_ <;> (simp (disch := omega) only [push_cast, reduceCtorEq, Nat.reduceAdd, Nat.reduceMul, Nat.reduceEqDiff, ↓reduceIte, Nat.reduceLT, Nat.reduceLeDiff, Int.reduceToNat, Int.reduceLT, Int.reduceLE, Int.reduceEq, Int.reduceNeg, Int.reduceAdd, Int.reduceSub, Int.reduceMul] <;> ((repeat' with_reducible apply And.intro) <;> (first | rfl | omega | (rw [List.take_of_length_le (by first | omega | (simp; done) | (simp; omega))]; done) | (rw [List.take_of_length_le]; simp only [List.length_take, List.length_drop, List.length_append, List.length_set, List.length_replicate, List.length_cons, List.length_nil, limbsN_length, Nat.le_refl]; done) | (simp only [List.length_take, List.length_drop, List.length_append, List.length_set, List.length_replicate, List.length_cons, List.length_nil, limbsN_length]; done) | (simp only [List.length_take, List.length_drop, List.length_append, List.length_set, List.length_replicate, List.length_cons, List.length_nil, limbsN_length]; omega) | (simp only [Value.bool.injEq, Value.int.injEq, decide_eq_decide, true_and, List.length_take, List.length_drop, List.length_append, List.length_set, List.length_replicate, List.length_cons, List.length_nil, limbsN_length]; omega) | skip))))))
theorem rformat_k0 {b : Bool} : HCallsD Tryd.prog 10 [] [.agg [.raw (.bool b), .sl 0 false (ints .u32 [])]] (.raw (.string (bs [48]))) [] := by
  refine calls_pure (fn := Tryd.f10) Tryd.func10 (by decide) (c := _) rfl (rs := [.tmp 2]) rfl (nt := 46) rfl [(0, .agg [.raw (.bool b), .sl 0 false (ints .u32 [])])] (args_one _) (Nat.le_of_ble_eq_true rfl) (fun C hP hn => ?_)
  repeat' (first | (with_reducible first | refine hwp_seq ?_ | refine un_succ ?_ | refine hwp_block ?_ | refine hwp_skip ?_ | refine hwp_exit ?_ | refine hwp_label ?_ | refine hwp_ret ?_ | refine normal_then ?_ | refine exit_then ?_ | refine ret_then ?_ | refine normal_in ?_ | refine ret_in ?_ | refine exit_in ?_ | refine exit_out rfl ?_) | ((with_reducible refine hwp_cond_pre ?_); refine hwp_cond_post rfl ?_ ?_; all_goals intro hc; all_goals (first | (exact absurd hc (by decide)) | (simp only [decide_eq_true_eq, decide_eq_false_iff_not, Bool.not_eq_true', Bool.not_eq_false', beq_iff_eq, beq_eq_false_iff_ne, ne_eq, Decidable.not_not, Bool.and_eq_true, Bool.or_eq_true, Bool.or_eq_false_iff] at hc; try (exfalso; omega)) | skip)) | ((with_reducible (first | refine region hP (fun _ => none) (fun K hK => ?_) | refine regionD hP (fun _ => none) follows_mixed (by kernel_rfl) (fun K hK => ?_))); simp +contextual (maxSteps := 1000000) (disch := omega) only [push_cast, reduceCtorEq, Nat.reduceAdd, Nat.reduceMul, Nat.reduceEqDiff, ↓reduceIte, Nat.reduceLT, Nat.reduceLeDiff, Int.reduceToNat, Int.reduceLT, Int.reduceLE, Int.reduceEq, Int.reduceNeg, Int.reduceAdd, Int.reduceSub, Int.reduceMul]; (repeat' (first | with_reducible apply And.intro | intro _)) <;> (first | (exfalso; clear hK; omega) | (refine hK _ ?_; clear hK K) | (clear hK K; first | omega | trivial | rfl | decide | kernel_rfl | skip))))
  (refine rq_one trivial ?_; (focus (refine res_tmp ?_ ?_ <;> (simp (disch := omega) only [push_cast, reduceCtorEq, Nat.reduceAdd, Nat.reduceMul, Nat.reduceEqDiff, ↓reduceIte, Nat.reduceLT, Nat.reduceLeDiff, Int.reduceToNat, Int.reduceLT, Int.reduceLE, Int.reduceEq, Int.reduceNeg, Int.reduceAdd, Int.reduceSub, Int.reduceMul] <;> ((repeat' with_reducible apply And.intro) <;> (first | rfl | omega | (rw [List.take_of_length_le (by first | omega | (simp; done) | (simp; omega))]; done) | (rw [List.take_of_length_le]; simp only [List.length_take, List.length_drop, List.length_append, List.length_set, List.length_replicate, List.length_cons, List.length_nil, limbsN_length, Nat.le_refl]; done) | (simp only [List.length_take, List.length_drop, List.length_append, List.length_set, List.length_replicate, List.length_cons, List.length_nil, limbsN_length]; done) | (simp only [List.length_take, List.length_drop, List.length_append, List.length_set, List.length_replicate, List.length_cons, List.length_nil, limbsN_length]; omega) | (simp only [Value.bool.injEq, Value.int.injEq, decide_eq_decide, true_and, List.length_take, List.length_drop, List.length_append, List.length_set, List.length_replicate, List.length_cons, List.length_nil, limbsN_length]; omega) | skip))))))
/-- A number below 10^9: its nine digits. -/
theorem strip_rep (n : Nat) (l : List UInt8) : strip0 (List.replicate n 48 ++ l) = strip0 l := by
  induction n with
  | zero => rfl
  | succ n ih => simp only [List.replicate_succ, List.cons_append, strip0, if_true, ih]
theorem dgs_z (k : Nat) : dgs k 0 = List.replicate k 48 := by
  induction k with
  | zero => rfl
  | succ k ih =>
    simp only [dgs, Int.zero_ediv, Int.zero_emod, ih]
    rw [List.replicate_succ']
    rfl
theorem ch_n (x : Nat) : ch ((x : Int) % 10) = UInt8.ofNat (48 + x % 10) := by
  unfold ch
  rw [show (48 + (x : Int) % 10).toNat = 48 + x % 10 by omega]
theorem dec_small {x : Nat} (h : x < 10) : Lib.decDigits x = [UInt8.ofNat (48 + x)] := by rw [Lib.decDigits, dif_pos h]
theorem dec_big {x : Nat} (h : ¬ x < 10) : Lib.decDigits x = Lib.decDigits (x / 10) ++ [UInt8.ofNat (48 + x % 10)] := by rw [Lib.decDigits, dif_neg h]
theorem dgs_dec (k : Nat) : ∀ x : Nat, 0 < k → x < 10 ^ k → (Lib.decDigits x).length ≤ k ∧ dgs k x = List.replicate (k - (Lib.decDigits x).length) 48 ++ Lib.decDigits x := by
  induction k with
  | zero => intro x h; omega
  | succ k ih =>
    intro x _ hx
    have e : ((x : Int) / 10) = ((x / 10 : Nat) : Int) := by omega
    by_cases h : x < 10
    · rw [dec_small h]
      refine ⟨by simp, ?_⟩
      simp only [dgs]
      rw [e, ch_n, show x / 10 = 0 by omega, show x % 10 = x by omega]
      show dgs k 0 ++ _ = _
      rw [dgs_z]
      rfl
    · have hk : 0 < k := by
        rcases Nat.eq_zero_or_pos k with rfl | h0
        · exact absurd hx (by simpa using h)
        · exact h0
      obtain ⟨h1, h2⟩ := ih (x / 10) hk (by rw [Nat.pow_succ] at hx; omega)
      rw [dec_big h]
      refine ⟨by simp; omega, ?_⟩
      simp only [dgs]
      rw [e, ch_n, h2, List.length_append, List.append_assoc]
      simp only [List.length_cons, List.length_nil, Nat.zero_add, Nat.add_sub_add_right]
theorem dec_head (x : Nat) (h : 0 < x) : (Lib.decDigits x).head? ≠ some 48 ∧ Lib.decDigits x ≠ [] := by
  induction x using Nat.strongRecOn with
  | _ x ih =>
    by_cases h1 : x < 10
    · rw [dec_small h1]
      refine ⟨?_, by simp⟩
      obtain rfl | rfl | rfl | rfl | rfl | rfl | rfl | rfl | rfl : x = 1 ∨ x = 2 ∨ x = 3 ∨ x = 4 ∨ x = 5 ∨ x = 6 ∨ x = 7 ∨ x = 8 ∨ x = 9 := by omega
      all_goals decide
    · obtain ⟨h2, h3⟩ := ih (x / 10) (by omega) (by omega)
      rw [dec_big h1]
      refine ⟨?_, by simp⟩
      cases hd : Lib.decDigits (x / 10) with
      | nil => exact absurd hd h3
      | cons c l => rw [hd] at h2; exact h2
theorem strip_dec {x : Nat} (h : 0 < x) (l : List UInt8) : strip0 (Lib.decDigits x ++ l) = Lib.decDigits x ++ l := by
  obtain ⟨h2, h3⟩ := dec_head x h
  cases hd : Lib.decDigits x with
  | nil => exact absurd hd h3
  | cons c m =>
    rw [hd] at h2
    have : ¬ c = 48 := fun e => h2 (by rw [e]; rfl)
    simp only [List.cons_append, strip0, if_neg this]
theorem pad9_dgs {x : Nat} (h : x < 1000000000) : pad9 x = dgs 9 x := ((dgs_dec 9 x (by omega) h).2).symm
theorem tail_tl9 {xs : List Int} (hx : Lim xs) (k : Nat) : tailD (fun i => (xs.getD i 0).toNat) k = tl9 xs k := by
  induction k with
  | zero => rfl
  | succ k ih =>
    have h1 := hx.getA k
    simp only [tailD, tl9]
    rw [ih, pad9_dgs (by omega), Int.toNat_of_nonneg h1.1]
/-- Both texts are one. -/
theorem rtxt_eq {b : Bool} {xs : List Int} (hx : Lim xs) (h : 0 < xs.length) (hlast : xs.getD (xs.length - 1) 0 ≠ 0) : strip0 (tl9 xs xs.length) = Lib.decDigits (xs.getD (xs.length - 1) 0).toNat ++ tl9 xs (xs.length - 1) ∧ txt b xs = sgnD b ++ strip0 (tl9 xs xs.length) := by
  obtain ⟨k, hk⟩ : ∃ k, xs.length = k + 1 := ⟨xs.length - 1, by omega⟩
  have h1 := hx.getA k
  have e : strip0 (tl9 xs xs.length) = Lib.decDigits (xs.getD k 0).toNat ++ tl9 xs k := by
    rw [hk]
    simp only [tl9]
    rw [← Int.toNat_of_nonneg h1.1, ← pad9_dgs (by omega)]
    unfold pad9
    rw [List.append_assoc, strip_rep, strip_dec]
    · rw [Int.toNat_of_nonneg h1.1]
    · rw [hk] at hlast
      have : xs.getD k 0 ≠ 0 := hlast
      omega
  rw [e, hk]
  refine ⟨rfl, ?_⟩
  unfold txt
  rw [if_neg (by omega), hk]
  show fmtD b _ k = _
  unfold fmtD
  rw [tail_tl9 hx, List.append_assoc]
theorem rformat_c {bx : Bool} {nx : Nat} {xx : List Int} {zx : Int} (hbx : bx = decide (zx < 0)) (hnx : nx = xx.length) (hxx : xx = dig (zx.natAbs : Int)) (hlx : xx.length ≤ 100000) (hlen : xx.length ≤ 1000) : HCallsD Tryd.prog 10 [] [.agg [.raw (.bool bx), .sl nx false (ints .u32 xx)]] (.raw (.string (bs (txt bx xx)))) [] := by
  have hlim : Lim xx := by rw [hxx]; exact dig_lim _
  subst hnx
  rcases Nat.eq_zero_or_pos xx.length with h0 | h0
  · obtain rfl : xx = [] := List.eq_nil_of_length_eq_zero h0
    exact rformat_k0
  · have hlast : xx.getD (xx.length - 1) 0 ≠ 0 := by rw [hxx] at h0 ⊢; exact dig_get_last h0
    obtain ⟨e1, e2⟩ := rtxt_eq (b := bx) hlim h0 hlast
    rw [e2]
    refine rformat_k hlim hlen h0 ?_
    rw [e1]
    intro h
    have := (dec_head (xx.getD (xx.length - 1) 0).toNat (by have := hlim.getA (xx.length - 1); omega)).2
    exact this (List.append_eq_nil_iff.1 h).1
end Go.Proofs.YtfmebdmgnmogaaaDoor
