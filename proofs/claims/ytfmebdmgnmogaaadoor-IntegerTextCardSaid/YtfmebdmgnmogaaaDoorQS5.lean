/- Texts and integers; the law of texts. No statement of its own. -/
import Derived.Test.YtfmebdmgnmogaaaDoorQS4
import Derived.Test.YtfmebdmgnmogaaaDoorQI23
set_option linter.unusedSimpArgs false
set_option linter.unusedVariables false
set_option maxRecDepth 100000
set_option maxHeartbeats 8000000
namespace Go.Proofs.YtfmebdmgnmogaaaDoor
open Go Go.RowKit Hv

theorem rparse_c {l : List UInt8} (hl : l.length ≤ 1000) : HCallsD Tryd.prog 9 [] [.raw (.string (bs l))] (.tup [aI (pz l), .raw (.int .i64 (pe l))]) [] := by
  obtain ⟨B, hB⟩ : ∃ B, cutP 45 l = B := ⟨_, rfl⟩
  obtain ⟨N, hN⟩ : ∃ N, pre 45 l = N := ⟨_, rfl⟩
  obtain ⟨c1, c2, c3⟩ := cut_len l
  rw [hN, hB] at c2 c3
  rw [hB] at c1
  have hm : N = false → l ≠ [] → ¬ ((l.getD 0 0).toNat : Int) = 45 := by
    rintro rfl hne h
    cases l with
    | nil => exact hne rfl
    | cons c l =>
      have : c = 45 := by
        apply UInt8.toNat_inj.1
        have e : ((c.toNat : Nat) : Int) = 45 := h
        show c.toNat = 45
        omega
      subst this
      cases hN
  have hy : okP l → pz l = sgnd N (vd B) ∧ pe l = 0 := fun h => by have := pz_yes h; rw [hB, hN] at this; exact this
  by_cases hne : B = []
  · have hno : ¬ okP l := fun h => h.1 (hB.trans hne)
    obtain ⟨e1, e2⟩ := pz_no hno
    rw [e1, e2]
    cases N with
    | true =>
      have e := c2 rfl
      subst hne
      subst e
      exact rbad_1 hl (by decide) rfl rfl
    | false =>
      have e := c3 rfl
      rw [hne] at e
      subst e
      exact rbad_3
  have h0 : 0 < B.length := by
    cases B with
    | nil => exact absurd rfl hne
    | cons c B => simp
  by_cases hz : ((B.getD 0 0).toNat : Int) = 48
  · by_cases hl1 : l = [48]
    · have e0 : cutP 45 [48] = [48] := rfl
      have hok : okP l = allD l := by
        subst hl1
        unfold okP
        rw [e0]
        simp [allD]
      have hNf : N = false := by subst hl1; exact hN.symm
      subst hNf
      have e := c3 rfl
      subst e
      exact rparse_mainC hl h0 c1 (hm rfl hne) hok hy hne hz (eq_true hl1)
    · have hno : ¬ okP l := fun h => h.2.1 ⟨by rw [hB, head_getD hne]; exact hz, hl1⟩
      obtain ⟨e1, e2⟩ := pz_no hno
      rw [e1, e2]
      cases N with
      | true =>
        have e := c2 rfl
        refine rbad_2 hl (by omega) ?_ ?_ hne h0 hz hl1
        · rw [e]; rfl
        · rw [e]; rfl
      | false =>
        have e := c3 rfl
        subst e
        exact rbad_4 hl h0 hne hz hl1
  · have hok : okP l = allD B := by
      unfold okP
      rw [hB, head_getD hne]
      exact propext ⟨fun h => h.2.2, fun h => ⟨hne, fun h' => hz h'.1, h⟩⟩
    cases N with
    | true =>
      have e := c2 rfl
      refine rparse_mainA hl h0 c1 ?_ hok hy hne hz ?_
      · rw [e]; rfl
      · rw [e]; rfl
    | false =>
      have e := c3 rfl
      subst e
      exact rparse_mainB hl h0 c1 (hm rfl hne) hok hy hne hz
theorem rparse_e {l : List UInt8} {z : Int} {e : Int} (hl : l.length ≤ 1000) (hz : pz l = z) (he : pe l = e) : HCallsD Tryd.prog 9 [] [.raw (.string (bs l))] (.tup [aI z, .raw (.int .i64 e)]) [] := hz ▸ he ▸ rparse_c hl

/- What a text says of the number that it was made of. -/
theorem vd_dgs (k : Nat) : ∀ d : Int, 0 ≤ d → d < p10 k → vd (dgs k d) = d := by
  induction k with
  | zero => intro d h0 h1; simp only [p10] at h1; show (0 : Int) = d; omega
  | succ k ih =>
    intro d h0 h1
    simp only [p10] at h1
    simp only [dgs]
    rw [vd_snoc, ih (d / 10) (by omega) (by omega), ch_nat (by omega) (by omega)]
    omega
theorem allD_app {a b : List UInt8} (ha : allD a) (hb : allD b) : allD (a ++ b) := fun c hc => (List.mem_append.1 hc).elim (ha c) (hb c)
theorem allD_dgs (k : Nat) : ∀ d : Int, 0 ≤ d → allD (dgs k d) := by
  induction k with
  | zero => intro d h0 c hc; simp [dgs] at hc
  | succ k ih =>
    intro d h0
    refine allD_app (ih _ (by omega)) fun c hc => ?_
    rw [List.mem_singleton] at hc
    subst hc
    have := ch_nat (d := d % 10) (by omega) (by omega)
    omega
theorem vd_rep (n : Nat) (l : List UInt8) : vd (List.replicate n 48 ++ l) = vd l := by
  rw [vd_app]
  have : vd (List.replicate n 48) = 0 := by
    induction n with
    | zero => rfl
    | succ n ih => rw [List.replicate_succ', vd_snoc, ih]; rfl
  rw [this]; omega
theorem vd_dec {x : Nat} (h : x < 1000000000) : vd (Lib.decDigits x) = x ∧ allD (Lib.decDigits x) := by
  have h1 := pad9_dgs h
  have h2 := vd_dgs 9 x (by omega) (by rw [p10_nine]; omega)
  have h3 := allD_dgs 9 x (by omega)
  rw [← h1] at h2 h3
  unfold pad9 at h2 h3
  rw [vd_rep] at h2
  exact ⟨h2, fun c hc => h3 c (List.mem_append.2 (.inr hc))⟩
theorem vd_tl9 {xs : List Int} (hx : Lim xs) : ∀ k, k ≤ xs.length → vd (tl9 xs k) = V (xs.take k) ∧ allD (tl9 xs k) := by
  intro k
  induction k with
  | zero => intro _; exact ⟨rfl, fun c hc => by simp [tl9] at hc⟩
  | succ k ih =>
    intro hk
    obtain ⟨i1, i2⟩ := ih (by omega)
    have h1 := hx.getA k
    simp only [tl9]
    refine ⟨?_, allD_app (allD_dgs 9 _ h1.1) i2⟩
    rw [vd_app, i1, vd_dgs 9 _ h1.1 (by rw [p10_nine]; exact h1.2), tl9_length, p10_9, V_take_succ, Int.mul_comm]
    omega
theorem txt_ok {b : Bool} {z : Int} (hb : b = decide (z < 0)) : pz (txt b (dig (z.natAbs : Int))) = z ∧ pe (txt b (dig (z.natAbs : Int))) = 0 ∧ (txt b (dig (z.natAbs : Int))).length ≤ 9 * (dig (z.natAbs : Int)).length + 1 := by
  obtain ⟨xs, hxs⟩ : ∃ xs, dig (z.natAbs : Int) = xs := ⟨_, rfl⟩
  have hlim : Lim xs := hxs ▸ dig_lim _
  have hV : V xs = (z.natAbs : Int) := by rw [← hxs]; exact dig_V (by omega)
  rw [hxs]
  rcases Nat.eq_zero_or_pos xs.length with h0 | h0
  · have e : xs = [] := List.eq_nil_of_length_eq_zero h0
    subst e
    have hz : z = 0 := by
      have : V [] = (z.natAbs : Int) := hV
      simp only [V] at this
      omega
    subst hz
    have e : txt b [] = [48] := rfl
    rw [e]
    have ho : okP [48] := ⟨by decide, fun h => h.2 rfl, fun c hc => by rw [show cutP 45 [48] = [48] from rfl, List.mem_singleton] at hc; subst hc; decide⟩
    obtain ⟨p1, p2⟩ := pz_yes ho
    exact ⟨by rw [p1]; rfl, p2, by simp⟩
  · have hlast : xs.getD (xs.length - 1) 0 ≠ 0 := by rw [← hxs] at h0 ⊢; exact dig_get_last h0
    obtain ⟨e1, e2⟩ := rtxt_eq (b := b) hlim h0 hlast
    rw [e1] at e2
    have hg := hlim.getA (xs.length - 1)
    obtain ⟨x, hx⟩ : ∃ x : Nat, (xs.getD (xs.length - 1) 0).toNat = x := ⟨_, rfl⟩
    rw [hx] at e2
    have hx0 : 0 < x := by omega
    have hx9 : x < 1000000000 := by omega
    obtain ⟨d1, d2⟩ := vd_dec hx9
    obtain ⟨t1, t2⟩ := vd_tl9 hlim (xs.length - 1) (by omega)
    obtain ⟨q1, q2⟩ := dec_head x hx0
    obtain ⟨D, hD⟩ : ∃ D, Lib.decDigits x ++ tl9 xs (xs.length - 1) = D := ⟨_, rfl⟩
    have hDd : allD D := hD ▸ allD_app d2 t2
    have hDv : vd D = (z.natAbs : Int) := by
      rw [← hD, vd_app, d1, t1, tl9_length, p10_9, ← hV]
      have := V_take_succ xs (xs.length - 1)
      rw [show xs.length - 1 + 1 = xs.length by omega, List.take_of_length_le (Nat.le_refl _)] at this
      rw [this, show ((x : Nat) : Int) = xs.getD (xs.length - 1) 0 by omega, Int.mul_comm]
      omega
    have hDl : D.length ≤ 9 * xs.length := by
      rw [← hD, List.length_append, tl9_length]
      have := (dd_len x hx9).2
      omega
    have hDh : D.head? ≠ some 48 ∧ D.head? ≠ some 45 ∧ D ≠ [] := by
      cases hd : Lib.decDigits x with
      | nil => exact absurd hd q2
      | cons c m =>
        rw [hd] at q1 hD
        subst hD
        have h5 := hDd c (by simp)
        refine ⟨q1, ?_, by simp⟩
        intro h
        simp only [List.cons_append, List.head?_cons, Option.some.injEq] at h
        subst h
        exact absurd h5.1 (by decide)
    rw [e2, hD]
    have hp : pre 45 (sgnD b ++ D) = b ∧ cutP 45 (sgnD b ++ D) = D := by
      cases b with
      | true => exact ⟨rfl, rfl⟩
      | false =>
        show pre 45 D = false ∧ cutP 45 D = D
        have : pre 45 D = false := decide_eq_false hDh.2.1
        exact ⟨this, by unfold cutP; rw [this]; rfl⟩
    have ho : okP (sgnD b ++ D) := by
      unfold okP
      rw [hp.2]
      exact ⟨hDh.2.2, fun h => hDh.1 h.1, hDd⟩
    obtain ⟨p1, p2⟩ := pz_yes ho
    refine ⟨?_, p2, ?_⟩
    · rw [p1, hp.1, hp.2, hDv, hb]
      exact sgnd_dec (by omega) (by omega)
    · rw [List.length_append]
      have : (sgnD b).length ≤ 1 := by cases b <;> decide
      omega
theorem pz_len (l : List UInt8) : (dig ((pz l).natAbs : Int)).length ≤ l.length := by
  by_cases h : okP l
  · rw [(pz_yes h).1]
    have h1 := vd_bound h.2.2
    have h2 := (cut_len l).1
    refine dig_len ?_
    have h3 : p10 (cutP 45 l).length ≤ p10 (9 * l.length) := p10_le (by omega)
    rw [p10_9] at h3
    unfold sgnd
    split <;> omega
  · rw [(pz_no h).1]
    rw [dig_zero (by simp)]
    simp
theorem lawText_c {ba : Bool} {na : Nat} {xa : List Int} {l : List UInt8} (hna : na = xa.length) (hua : U32 xa) : HCallsD Tryd.prog 3 [] [.agg [.raw (.bool ba), .sl na false (ints .u32 xa)], .raw (.string (bs l))] (.raw (.bool true)) [] := by
  subst hna
  cases hs : (smallB ba xa)
  · refine calls_pure (fn := Tryd.f3) Tryd.func3 (by decide) (c := _) rfl (rs := [.tmp 4]) rfl (nt := 67) rfl [(0, .agg [.raw (.bool ba), .sl xa.length false (ints .u32 xa)]), (1, .raw (.string (bs l)))] (args_two _ _) (Nat.le_of_ble_eq_true rfl) (fun C hP hn => ?_)
    repeat' (first | (with_reducible first | refine hwp_seq ?_ | refine un_succ ?_ | refine hwp_block ?_ | refine hwp_skip ?_ | refine hwp_exit ?_ | refine hwp_label ?_ | refine hwp_ret ?_ | refine normal_then ?_ | refine exit_then ?_ | refine ret_then ?_ | refine normal_in ?_ | refine ret_in ?_ | refine exit_in ?_ | refine exit_out rfl ?_) | ((with_reducible refine hwp_cond_pre ?_); refine hwp_cond_post rfl ?_ ?_; all_goals intro hc; all_goals (first | (exact absurd hc (by decide)) | (simp only [decide_eq_true_eq, decide_eq_false_iff_not, Bool.not_eq_true', Bool.not_eq_false', beq_iff_eq, beq_eq_false_iff_ne, ne_eq, Decidable.not_not, Bool.and_eq_true, Bool.or_eq_true, Bool.or_eq_false_iff] at hc; try (exfalso; omega)) | skip)) | ((with_reducible (first | refine region hP (fun _ => none) (fun K hK => ?_) | refine regionD hP (fun _ => none) follows_mixed (by kernel_rfl) (fun K hK => ?_))); simp +contextual (maxSteps := 1000000) (disch := omega) only [push_cast, reduceCtorEq, Nat.reduceAdd, Nat.reduceMul, Nat.reduceEqDiff, ↓reduceIte, Nat.reduceLT, Nat.reduceLeDiff, Int.reduceToNat, Int.reduceLT, Int.reduceLE, Int.reduceEq, Int.reduceNeg, Int.reduceAdd, Int.reduceSub, Int.reduceMul]; (repeat' (first | with_reducible apply And.intro | intro _ | ((first | refine hcall_ex (awake_c) ?_ | refine hcall_ex (small1_e (by rfl) hua hs) ?_); try simp +contextual (maxSteps := 1000000) (disch := omega) only [push_cast, reduceCtorEq, Nat.reduceAdd, Nat.reduceMul, Nat.reduceEqDiff, ↓reduceIte, Nat.reduceLT, Nat.reduceLeDiff, Int.reduceToNat, Int.reduceLT, Int.reduceLE, Int.reduceEq, Int.reduceNeg, Int.reduceAdd, Int.reduceSub, Int.reduceMul]))) <;> (first | (exfalso; clear hK; omega) | (refine hK _ ?_; clear hK K) | (clear hK K; first | omega | trivial | rfl | decide | kernel_rfl | skip))))
    (refine rq_one trivial ?_; (focus (refine res_tmp ?_ ?_ <;> (simp (disch := omega) only [push_cast, reduceCtorEq, Nat.reduceAdd, Nat.reduceMul, Nat.reduceEqDiff, ↓reduceIte, Nat.reduceLT, Nat.reduceLeDiff, Int.reduceToNat, Int.reduceLT, Int.reduceLE, Int.reduceEq, Int.reduceNeg, Int.reduceAdd, Int.reduceSub, Int.reduceMul] <;> ((repeat' with_reducible apply And.intro) <;> (first | rfl | omega | (rw [List.take_of_length_le (by first | omega | (simp; done) | (simp; omega))]; done) | (rw [List.take_of_length_le]; simp only [List.length_take, List.length_drop, List.length_append, List.length_set, List.length_replicate, List.length_cons, List.length_nil, limbsN_length, Nat.le_refl]; done) | (simp only [List.length_take, List.length_drop, List.length_append, List.length_set, List.length_replicate, List.length_cons, List.length_nil, limbsN_length]; done) | (simp only [List.length_take, List.length_drop, List.length_append, List.length_set, List.length_replicate, List.length_cons, List.length_nil, limbsN_length]; omega) | (simp only [Value.bool.injEq, Value.int.injEq, decide_eq_decide, true_and, List.length_take, List.length_drop, List.length_append, List.length_set, List.length_replicate, List.length_cons, List.length_nil, limbsN_length]; omega) | skip))))))
  · obtain ⟨za, hba, hxa, hla⟩ := small_z hs
    have hla2 : xa.length ≤ 100000 := by omega
    rcases Nat.lt_or_ge 200 l.length with h | h
    · refine calls_pure (fn := Tryd.f3) Tryd.func3 (by decide) (c := _) rfl (rs := [.tmp 4]) rfl (nt := 67) rfl [(0, .agg [.raw (.bool ba), .sl xa.length false (ints .u32 xa)]), (1, .raw (.string (bs l)))] (args_two _ _) (Nat.le_of_ble_eq_true rfl) (fun C hP hn => ?_)
      repeat' (first | (with_reducible first | refine hwp_seq ?_ | refine un_succ ?_ | refine hwp_block ?_ | refine hwp_skip ?_ | refine hwp_exit ?_ | refine hwp_label ?_ | refine hwp_ret ?_ | refine normal_then ?_ | refine exit_then ?_ | refine ret_then ?_ | refine normal_in ?_ | refine ret_in ?_ | refine exit_in ?_ | refine exit_out rfl ?_) | ((with_reducible refine hwp_cond_pre ?_); refine hwp_cond_post rfl ?_ ?_; all_goals intro hc; all_goals (first | (exact absurd hc (by decide)) | (simp only [decide_eq_true_eq, decide_eq_false_iff_not, Bool.not_eq_true', Bool.not_eq_false', beq_iff_eq, beq_eq_false_iff_ne, ne_eq, Decidable.not_not, Bool.and_eq_true, Bool.or_eq_true, Bool.or_eq_false_iff] at hc; try (exfalso; omega)) | skip)) | ((with_reducible (first | refine region hP (fun _ => none) (fun K hK => ?_) | refine regionD hP (fun _ => none) follows_mixed (by kernel_rfl) (fun K hK => ?_))); simp +contextual (maxSteps := 1000000) (disch := omega) only [push_cast, reduceCtorEq, Nat.reduceAdd, Nat.reduceMul, Nat.reduceEqDiff, ↓reduceIte, Nat.reduceLT, Nat.reduceLeDiff, Int.reduceToNat, Int.reduceLT, Int.reduceLE, Int.reduceEq, Int.reduceNeg, Int.reduceAdd, Int.reduceSub, Int.reduceMul]; (repeat' (first | with_reducible apply And.intro | intro _ | ((first | refine hcall_ex (awake_c) ?_ | refine hcall_ex (small1_e (by rfl) hua hs) ?_); try simp +contextual (maxSteps := 1000000) (disch := omega) only [push_cast, reduceCtorEq, Nat.reduceAdd, Nat.reduceMul, Nat.reduceEqDiff, ↓reduceIte, Nat.reduceLT, Nat.reduceLeDiff, Int.reduceToNat, Int.reduceLT, Int.reduceLE, Int.reduceEq, Int.reduceNeg, Int.reduceAdd, Int.reduceSub, Int.reduceMul]))) <;> (first | (exfalso; clear hK; omega) | (refine hK _ ?_; clear hK K) | (clear hK K; first | omega | trivial | rfl | decide | kernel_rfl | skip))))
      (refine rq_one trivial ?_; (focus (refine res_tmp ?_ ?_ <;> (simp (disch := omega) only [push_cast, reduceCtorEq, Nat.reduceAdd, Nat.reduceMul, Nat.reduceEqDiff, ↓reduceIte, Nat.reduceLT, Nat.reduceLeDiff, Int.reduceToNat, Int.reduceLT, Int.reduceLE, Int.reduceEq, Int.reduceNeg, Int.reduceAdd, Int.reduceSub, Int.reduceMul] <;> ((repeat' with_reducible apply And.intro) <;> (first | rfl | omega | (rw [List.take_of_length_le (by first | omega | (simp; done) | (simp; omega))]; done) | (rw [List.take_of_length_le]; simp only [List.length_take, List.length_drop, List.length_append, List.length_set, List.length_replicate, List.length_cons, List.length_nil, limbsN_length, Nat.le_refl]; done) | (simp only [List.length_take, List.length_drop, List.length_append, List.length_set, List.length_replicate, List.length_cons, List.length_nil, limbsN_length]; done) | (simp only [List.length_take, List.length_drop, List.length_append, List.length_set, List.length_replicate, List.length_cons, List.length_nil, limbsN_length]; omega) | (simp only [Value.bool.injEq, Value.int.injEq, decide_eq_decide, true_and, List.length_take, List.length_drop, List.length_append, List.length_set, List.length_replicate, List.length_cons, List.length_nil, limbsN_length]; omega) | skip))))))
    · have ca := cp_c (b := ba) (n := xa.length) (xs := xa) rfl hla2
      obtain ⟨T, hT⟩ : ∃ T, txt ba xa = T := ⟨_, rfl⟩
      have ht := txt_ok hba
      rw [← hxa, hT] at ht
      obtain ⟨t1, t2, t3⟩ := ht
      have f1 := format_c hba rfl hxa hla2
      have f2 := rformat_c hba rfl hxa hla2 (by omega)
      rw [hT] at f1 f2
      obtain ⟨zs, hzs⟩ : ∃ z, pz l = z := ⟨_, rfl⟩
      obtain ⟨es, hes⟩ : ∃ z, pe l = z := ⟨_, rfl⟩
      have hl1 := pz_len l
      rw [hzs] at hl1
      have hl2 : (dig (za.natAbs : Int)).length ≤ 100000 := by rw [← hxa]; exact hla2
      refine calls_pure (fn := Tryd.f3) Tryd.func3 (by decide) (c := _) rfl (rs := [.tmp 4]) rfl (nt := 67) rfl [(0, .agg [.raw (.bool ba), .sl xa.length false (ints .u32 xa)]), (1, .raw (.string (bs l)))] (args_two _ _) (Nat.le_of_ble_eq_true rfl) (fun C hP hn => ?_)
      repeat' (first | (with_reducible first | refine hwp_seq ?_ | refine un_succ ?_ | refine hwp_block ?_ | refine hwp_skip ?_ | refine hwp_exit ?_ | refine hwp_label ?_ | refine hwp_ret ?_ | refine normal_then ?_ | refine exit_then ?_ | refine ret_then ?_ | refine normal_in ?_ | refine ret_in ?_ | refine exit_in ?_ | refine exit_out rfl ?_) | ((with_reducible refine hwp_cond_pre ?_); refine hwp_cond_post rfl ?_ ?_; all_goals intro hc; all_goals (first | (exact absurd hc (by decide)) | (simp only [decide_eq_true_eq, decide_eq_false_iff_not, Bool.not_eq_true', Bool.not_eq_false', beq_iff_eq, beq_eq_false_iff_ne, ne_eq, Decidable.not_not, Bool.and_eq_true, Bool.or_eq_true, Bool.or_eq_false_iff] at hc; try (exfalso; omega)) | skip)) | ((with_reducible (first | refine region hP (fun _ => none) (fun K hK => ?_) | refine regionD hP (fun _ => none) follows_mixed (by kernel_rfl) (fun K hK => ?_))); simp +contextual (maxSteps := 1000000) (disch := omega) only [push_cast, reduceCtorEq, Nat.reduceAdd, Nat.reduceMul, Nat.reduceEqDiff, ↓reduceIte, Nat.reduceLT, Nat.reduceLeDiff, Int.reduceToNat, Int.reduceLT, Int.reduceLE, Int.reduceEq, Int.reduceNeg, Int.reduceAdd, Int.reduceSub, Int.reduceMul]; (repeat' (first | with_reducible apply And.intro | intro _ | ((first | refine hcall_ex (awake_c) ?_ | refine hcall_ex (small1_e (by rfl) hua hs) ?_ | refine hcall_ex (ca) ?_ | refine hcall_ex (f1) ?_ | refine hcall_ex (f2) ?_ | refine hcall_ex (parse_e (l := T) (by omega) t1 t2) ?_ | refine hcall_ex (parse_e (l := l) (by omega) hzs hes) ?_ | refine hcall_ex (rparse_e (l := l) (by omega) hzs hes) ?_ | refine hcall_ex (same_e (za := za) (zb := za) (r := true) (by rfl) (by rfl) (by rfl) (by omega) hba (by rfl) hxa hla2 (decide_eq_true rfl)) ?_ | refine hcall_ex (same_e (za := zs) (zb := zs) (r := true) (by rfl) (by rfl) (by rfl) (by omega) (by rfl) (by rfl) (by rfl) (by omega) (decide_eq_true rfl)) ?_); try simp +contextual (maxSteps := 1000000) (disch := omega) only [push_cast, reduceCtorEq, Nat.reduceAdd, Nat.reduceMul, Nat.reduceEqDiff, ↓reduceIte, Nat.reduceLT, Nat.reduceLeDiff, Int.reduceToNat, Int.reduceLT, Int.reduceLE, Int.reduceEq, Int.reduceNeg, Int.reduceAdd, Int.reduceSub, Int.reduceMul]))) <;> (first | (exfalso; clear hK; omega) | (refine hK _ ?_; clear hK K) | (clear hK K; first | omega | trivial | rfl | decide | kernel_rfl | skip))))
      (refine rq_one trivial ?_; (focus (refine res_tmp ?_ ?_ <;> (simp (disch := omega) only [push_cast, reduceCtorEq, Nat.reduceAdd, Nat.reduceMul, Nat.reduceEqDiff, ↓reduceIte, Nat.reduceLT, Nat.reduceLeDiff, Int.reduceToNat, Int.reduceLT, Int.reduceLE, Int.reduceEq, Int.reduceNeg, Int.reduceAdd, Int.reduceSub, Int.reduceMul] <;> ((repeat' with_reducible apply And.intro) <;> (first | rfl | omega | (rw [List.take_of_length_le (by first | omega | (simp; done) | (simp; omega))]; done) | (rw [List.take_of_length_le]; simp only [List.length_take, List.length_drop, List.length_append, List.length_set, List.length_replicate, List.length_cons, List.length_nil, limbsN_length, Nat.le_refl]; done) | (simp only [List.length_take, List.length_drop, List.length_append, List.length_set, List.length_replicate, List.length_cons, List.length_nil, limbsN_length]; done) | (simp only [List.length_take, List.length_drop, List.length_append, List.length_set, List.length_replicate, List.length_cons, List.length_nil, limbsN_length]; omega) | (simp only [Value.bool.injEq, Value.int.injEq, decide_eq_decide, true_and, List.length_take, List.length_drop, List.length_append, List.length_set, List.length_replicate, List.length_cons, List.length_nil, limbsN_length]; omega) | skip))))))
end Go.Proofs.YtfmebdmgnmogaaaDoor
