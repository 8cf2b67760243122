/- Contracts of the products of limbs. No statement of its own. -/
import Derived.Test.YtfmebdmgnmogaaaGreatDoorQI10
set_option linter.unusedVariables false
set_option linter.unusedSimpArgs false
set_option linter.unusedSimpArgs false
set_option linter.unusedVariables false
set_option maxRecDepth 100000
set_option maxHeartbeats 4000000
namespace Go.Proofs.YtfmebdmgnmogaaaGreatDoor
open Go Go.RowKit Hv

theorem V_set {out : List Int} {j : Nat} (h : j < out.length) (v : Int) : V (out.set j v) = V out + P9 j * (v - out.getD j 0) := by
  rw [V_cut (xs := out.set j v) j (by simpa using h), V_cut (xs := out) j h]
  rw [List.take_set_of_le (Nat.le_refl j), List.drop_set_of_lt (Nat.lt_succ_self j)]
  have e : (out.set j v).getD j 0 = v := by simp [List.getD, h]
  rw [e]
  have e2 : v + 1000000000 * V (out.drop (j + 1)) = (out.getD j 0 + 1000000000 * V (out.drop (j + 1))) + (v - out.getD j 0) := by omega
  rw [e2, Int.mul_add]
  omega
theorem Lim.set {out : List Int} (hl : Lim out) {j : Nat} {v : Int} (h0 : 0 ≤ v) (h1 : v < 1000000000) : Lim (out.set j v) := by
  intro y hy
  rcases List.mem_or_eq_of_mem_set hy with h | h
  · exact hl y h
  · subst h; exact ⟨h0, h1⟩
theorem times_step {out ys : List Int} {i k : Nat} {A x c t : Int} (h : i + k < out.length) (hV : V out + P9 (i + k) * c = A + P9 i * (x * V (ys.take k))) (ht : t = out.getD (i + k) 0 + x * ys.getD k 0 + c) :
    V (out.set (i + k) (t % 1000000000)) + P9 (i + (k + 1)) * (t / 1000000000) = A + P9 i * (x * V (ys.take (k + 1))) := by
  rw [V_set h, V_take_succ, Int.mul_add, Int.mul_add, ← Int.add_assoc, ← hV]
  have e1 : P9 (i + (k + 1)) * (t / 1000000000) = P9 (i + k) * (1000000000 * (t / 1000000000)) := by
    rw [← Nat.add_assoc]; simp only [P9]; rw [Int.mul_comm 1000000000, Int.mul_assoc]
  have e2 : P9 i * (x * (P9 k * ys.getD k 0)) = P9 (i + k) * (x * ys.getD k 0) := by
    rw [P9_add, Int.mul_assoc, Int.mul_left_comm x]
  rw [e1, e2, Int.add_assoc (V out), Int.add_assoc (V out), ← Int.mul_add, ← Int.mul_add]
  congr 2
  omega

theorem hcalls_nf {P : Program} {f : FuncId} {hp0 : List HBlk} {args : List HV} {r : HV} {hx : List HBlk} (h : HCallsD P f hp0 args r hx) : HCallsD P f hp0 args (nf r) hx :=
  ⟨h.1, fun X m w vs h1 h2 h3 h4 h5 => (h.2 X m w vs h1 h2 h3 h4 h5).mono fun e w' ⟨v, m', k1, k2, k3, k4, k5⟩ => ⟨v, m', k1, k2, k3, nf_rep k4, k5⟩⟩
theorem res_tmpF {P : Program} {st : HS} {t : Nat} {x : HV} (h : x = fz st.hp (st.fr t)) (hok : okz st.hp (st.fr t)) : Res1 P st (.tmp t) x := ⟨trivial, .inl h, hok, fun _ _ => Nat.zero_le _⟩
theorem times_cT {n m : Nat} {xs ys : List Int} (hn : n = xs.length) (hm : m = ys.length) (hx : Lim xs) (hy : Lim ys) (hlx : xs.length ≤ 400000) (hly : ys.length ≤ 400000) :
    HCallsD Tryz.prog 115 [] [.sl n false (ints .u32 xs), .sl m false (ints .u32 ys)] (.sl (xs.length + ys.length) true (ints .u32 (limbsN (xs.length + ys.length) (V xs * V ys)))) [] := by
  subst hn hm
  refine cp2 (rs := [.tmp 4]) (nt := 68) Tryz.func115 (fun C hP hn => ?_)
  ((repeat' (first | refine gW ?_ | (refine gIf ?_ ?_ <;> (intro hc; try exact gX)) | with_reducible refine br_intro ?_ ?_ | (with_reducible intro _; try exact gX) | with_reducible refine ands_intro ?_ ?_)) <;> (try exact gF))
  refine hwp_loopS (fun x : Nat × List Int => ⟨lk [(1, .sl ys.length false (ints .u32 ys)), (5, .own 0 0 (xs.length + ys.length) true), (18, .sl xs.length false (ints .u32 xs)), (19, .raw (.int .i64 xs.length)), (20, .raw (.int .i64 x.1))],
      hlk [(0, { al := true, live := true, wb := true, grow := true, elem := 62, sz := 1, cells := ints .u32 x.2 })], 1, 68⟩)
      (fun x => x.1 ≤ xs.length ∧ x.2.length = xs.length + ys.length ∧ Lim x.2 ∧ V x.2 = V (xs.take x.1) * V ys ∧ ∀ j, x.1 + ys.length ≤ j → x.2.getD j 0 = 0) (fun x => xs.length - x.1)
      ⟨(0, List.replicate (xs.length + ys.length) 0), ⟨Nat.zero_le _, by simp, Lim.zeros _, by simp [V, V_zeros], by intro j hj; simp [List.getD, List.getElem?_replicate]; split <;> rfl⟩, by exact cvS hn (.own 0 5 rfl .nil)⟩ ?_
  rintro ⟨i, out0⟩ ⟨h1, h2, h3, h4, h5⟩
  simp only at h1 h2 h3 h4 h5
  have hb1 := hx.getA i
  rcases Nat.lt_or_ge i xs.length with hi | hi
  · ((repeat' (first | refine gW ?_ | (refine gIf ?_ ?_ <;> (intro hc; try exact gX)) | with_reducible refine br_intro ?_ ?_ | (with_reducible intro _; try exact gX) | with_reducible refine ands_intro ?_ ?_)) <;> (try exact gF))
    refine hwp_loopS (fun x : Nat × Int × List Int => ⟨lk [(1, .sl ys.length false (ints .u32 ys)), (5, .own 0 0 (xs.length + ys.length) true), (6, .raw (.int .i64 i)), (7, .raw (.int .u32 (xs.getD i 0))), (8, .raw (.int .u64 x.2.1)), (18, .sl xs.length false (ints .u32 xs)), (19, .raw (.int .i64 xs.length)), (20, .raw (.int .i64 i)), (25, .sl ys.length false (ints .u32 ys)), (26, .raw (.int .i64 ys.length)), (27, .raw (.int .i64 x.1))],
      hlk [(0, { al := true, live := true, wb := true, grow := true, elem := 62, sz := 1, cells := ints .u32 x.2.2 })], 1, 68⟩)
      (fun x => x.1 ≤ ys.length ∧ x.2.2.length = xs.length + ys.length ∧ Lim x.2.2 ∧ 0 ≤ x.2.1 ∧ x.2.1 < 1000000000 ∧ V x.2.2 + P9 (i + x.1) * x.2.1 = V out0 + P9 i * (xs.getD i 0 * V (ys.take x.1)) ∧ ∀ j, i + ys.length ≤ j → x.2.2.getD j 0 = 0) (fun x => ys.length - x.1)
      ⟨(0, 0, out0), ⟨Nat.zero_le _, h2, h3, Int.le_refl _, by simp, by simp [V], h5⟩, by exact cvS hn (.own 0 5 rfl .nil)⟩ ?_
    rintro ⟨k, c, out⟩ ⟨g1, g2, g3, g4, g5, g6, g7⟩
    simp only at g1 g2 g3 g4 g5 g6 g7
    have hb2 := hy.getA k
    have hb3 := g3.getA (i + k)
    have hm0 : 0 ≤ xs.getD i 0 * ys.getD k 0 := Int.mul_nonneg hb1.1 hb2.1
    have hm1 : xs.getD i 0 * ys.getD k 0 ≤ 999999999 * 999999999 := Int.mul_le_mul (by omega) (by omega) hb2.1 (by omega)
    rcases Nat.lt_or_ge k ys.length with hk | hk
    · ((repeat' (first | refine gW ?_ | (refine gIf ?_ ?_ <;> (intro hc; try exact gX)) | with_reducible refine br_intro ?_ ?_ | (with_reducible intro _; try exact gX) | with_reducible refine ands_intro ?_ ?_)) <;> (try exact gF))
      refine ⟨(k + 1, (out.getD (i + k) 0 + xs.getD i 0 * ys.getD k 0 + c) / 1000000000, out.set (i + k) ((out.getD (i + k) 0 + xs.getD i 0 * ys.getD k 0 + c) % 1000000000)), by simp only; omega, ⟨by simp only; omega, by simp [g2], g3.set (by omega) (by omega), by simp only; omega, by simp only; omega, times_step (by omega) g6 rfl, ?_⟩, ?_⟩
      · intro j hj
        have := g7 j hj
        simp only [List.getD] at this ⊢
        rw [List.getElem?_set_ne (by omega)]; exact this
      · exact cvS hn (.own 0 5 rfl .nil)
    · have hk' : k = ys.length := by omega
      subst hk'
      have e0 := g7 (i + ys.length) (Nat.le_refl _)
      rw [List.take_of_length_le (Nat.le_refl _)] at g6
      ((repeat' (first | refine gW ?_ | (refine gIf ?_ ?_ <;> (intro hc; try exact gX)) | with_reducible refine br_intro ?_ ?_ | (with_reducible intro _; try exact gX) | with_reducible refine ands_intro ?_ ?_)) <;> (try exact gF))
      refine ⟨(i + 1, out.set (i + ys.length) c), by simp only; omega, ⟨by simp only; omega, by simp [g2], g3.set g4 g5, ?_, ?_⟩, ?_⟩
      · simp only
        rw [V_set (by omega), e0, Int.sub_zero, g6, h4, V_take_succ, Int.add_mul, Int.mul_assoc]
      · intro j hj
        have := g7 j (by omega)
        simp only [List.getD] at this ⊢
        rw [List.getElem?_set_ne (by omega)]; exact this
      · exact cvS hn (.own 0 5 rfl .nil)
  · have hi' : i = xs.length := by omega
    subst hi'
    rw [List.take_of_length_le (Nat.le_refl _)] at h4
    rw [← limbsN_eq h3 h2 h4]
    ((repeat' (first | refine gW ?_ | (refine gIf ?_ ?_ <;> (intro hc; try exact gX)) | with_reducible refine br_intro ?_ ?_ | (with_reducible intro _; try exact gX) | with_reducible refine ands_intro ?_ ?_)) <;> (try exact gF))
    refine rq_one trivial (res_tmpF ?_ ?_) <;> (simp (disch := omega) only [push_cast, reduceCtorEq, Nat.reduceAdd, Nat.reduceMul, Nat.reduceEqDiff, ↓reduceIte, Nat.reduceLT, Nat.reduceLeDiff, Int.reduceToNat, Int.reduceLT, Int.reduceLE, Int.reduceEq, Int.reduceNeg, Int.reduceAdd, Int.reduceSub, Int.reduceMul] <;> ((repeat' with_reducible apply And.intro) <;> (first | rfl | omega | (rw [List.take_of_length_le (by first | omega | (simp; done) | (simp; omega))]; done) | (rw [List.take_of_length_le]; simp only [List.length_take, List.length_drop, List.length_append, List.length_set, List.length_replicate, List.length_cons, List.length_nil, limbsN_length, Nat.le_refl]; done) | (simp only [List.length_take, List.length_drop, List.length_append, List.length_set, List.length_replicate, List.length_cons, List.length_nil, limbsN_length]; done) | (simp only [List.length_take, List.length_drop, List.length_append, List.length_set, List.length_replicate, List.length_cons, List.length_nil, limbsN_length]; omega) | (simp only [Value.bool.injEq, Value.int.injEq, decide_eq_decide, true_and, List.length_take, List.length_drop, List.length_append, List.length_set, List.length_replicate, List.length_cons, List.length_nil, limbsN_length]; omega) | skip)))
theorem times_c {n m : Nat} {xs ys : List Int} (hn : n = xs.length) (hm : m = ys.length) (hx : Lim xs) (hy : Lim ys) (hlx : xs.length ≤ 400000) (hly : ys.length ≤ 400000) :
    HCallsD Tryz.prog 115 [] [.sl n false (ints .u32 xs), .sl m false (ints .u32 ys)] (.sl (xs.length + ys.length) false (ints .u32 (limbsN (xs.length + ys.length) (V xs * V ys)))) [] := hcalls_nf (times_cT hn hm hx hy hlx hly)
end Go.Proofs.YtfmebdmgnmogaaaGreatDoor
set_option linter.unusedSimpArgs false
set_option linter.unusedVariables false
set_option maxRecDepth 100000
set_option maxHeartbeats 4000000
namespace Go.Proofs.YtfmebdmgnmogaaaGreatDoor
open Go Go.RowKit Hv

theorem rtimes_c {n m : Nat} {xs ys : List Int} (hn : n = xs.length) (hm : m = ys.length) (hx : Lim xs) (hy : Lim ys) (hlx : xs.length ≤ 400000) (hly : ys.length ≤ 400000) :
    HCallsD Tryz.prog 97 [] [.sl n false (ints .u32 xs), .sl m false (ints .u32 ys)] (.sl (dig (V xs * V ys)).length false (ints .u32 (dig (V xs * V ys)))) [] := by
  subst hn hm
  refine cp2 (rs := [.tmp 4]) (nt := 68) Tryz.func97 (fun C hP hn => ?_)
  ((repeat' (first | refine gW ?_ | (refine gIf ?_ ?_ <;> (intro hc; try exact gX)) | with_reducible refine br_intro ?_ ?_ | (with_reducible intro _; try exact gX) | with_reducible refine ands_intro ?_ ?_)) <;> (try exact gF))
  refine hwp_loopS (fun x : Nat × List Int => ⟨lk [(0, .sl xs.length false (ints .u32 xs)), (1, .sl ys.length false (ints .u32 ys)), (5, .own 0 0 (xs.length + ys.length) true), (6, .raw (.int .i64 x.1))],
      hlk [(0, { al := true, live := true, wb := true, grow := true, elem := 62, sz := 1, cells := ints .u32 x.2 })], 1, 68⟩)
      (fun x => x.1 ≤ xs.length ∧ x.2.length = xs.length + ys.length ∧ Lim x.2 ∧ V x.2 = V (xs.take x.1) * V ys ∧ ∀ j, x.1 + ys.length ≤ j → x.2.getD j 0 = 0) (fun x => xs.length - x.1)
      ⟨(0, List.replicate (xs.length + ys.length) 0), ⟨Nat.zero_le _, by simp, Lim.zeros _, by simp [V, V_zeros], by intro j hj; simp [List.getD, List.getElem?_replicate]; split <;> rfl⟩, by exact cvS hn (.own 0 5 rfl .nil)⟩ ?_
  rintro ⟨i, out0⟩ ⟨h1, h2, h3, h4, h5⟩
  simp only at h1 h2 h3 h4 h5
  have hb1 := hx.getA i
  rcases Nat.lt_or_ge i xs.length with hi | hi
  · ((repeat' (first | refine gW ?_ | (refine gIf ?_ ?_ <;> (intro hc; try exact gX)) | with_reducible refine br_intro ?_ ?_ | (with_reducible intro _; try exact gX) | with_reducible refine ands_intro ?_ ?_)) <;> (try exact gF))
    refine hwp_loopS (fun x : Nat × Int × List Int => ⟨lk [(0, .sl xs.length false (ints .u32 xs)), (1, .sl ys.length false (ints .u32 ys)), (5, .own 0 0 (xs.length + ys.length) true), (6, .raw (.int .i64 i)), (7, .raw (.int .u64 x.2.1)), (8, .raw (.int .i64 x.1))],
      hlk [(0, { al := true, live := true, wb := true, grow := true, elem := 62, sz := 1, cells := ints .u32 x.2.2 })], 1, 68⟩)
      (fun x => x.1 ≤ ys.length ∧ x.2.2.length = xs.length + ys.length ∧ Lim x.2.2 ∧ 0 ≤ x.2.1 ∧ x.2.1 < 1000000000 ∧ V x.2.2 + P9 (i + x.1) * x.2.1 = V out0 + P9 i * (xs.getD i 0 * V (ys.take x.1)) ∧ ∀ j, i + ys.length ≤ j → x.2.2.getD j 0 = 0) (fun x => ys.length - x.1)
      ⟨(0, 0, out0), ⟨Nat.zero_le _, h2, h3, Int.le_refl _, by simp, by simp [V], h5⟩, by exact cvS hn (.own 0 5 rfl .nil)⟩ ?_
    rintro ⟨k, c, out⟩ ⟨g1, g2, g3, g4, g5, g6, g7⟩
    simp only at g1 g2 g3 g4 g5 g6 g7
    have hb2 := hy.getA k
    have hb3 := g3.getA (i + k)
    have hm0 : 0 ≤ xs.getD i 0 * ys.getD k 0 := Int.mul_nonneg hb1.1 hb2.1
    have hm1 : xs.getD i 0 * ys.getD k 0 ≤ 999999999 * 999999999 := Int.mul_le_mul (by omega) (by omega) hb2.1 (by omega)
    rcases Nat.lt_or_ge k ys.length with hk | hk
    · ((repeat' (first | refine gW ?_ | (refine gIf ?_ ?_ <;> (intro hc; try exact gX)) | with_reducible refine br_intro ?_ ?_ | (with_reducible intro _; try exact gX) | with_reducible refine ands_intro ?_ ?_)) <;> (try exact gF))
      refine ⟨(k + 1, (c + out.getD (i + k) 0 + xs.getD i 0 * ys.getD k 0) / 1000000000, out.set (i + k) ((c + out.getD (i + k) 0 + xs.getD i 0 * ys.getD k 0) % 1000000000)), by simp only; omega, ⟨by simp only; omega, by simp [g2], g3.set (by omega) (by omega), by simp only; omega, by simp only; omega, times_step (by omega) g6 (by omega), ?_⟩, ?_⟩
      · intro j hj
        have := g7 j hj
        simp only [List.getD] at this ⊢
        rw [List.getElem?_set_ne (by omega)]; exact this
      · exact cvS hn (.own 0 5 rfl .nil)
    · have hk' : k = ys.length := by omega
      subst hk'
      have e0 := g7 (i + ys.length) (Nat.le_refl _)
      rw [List.take_of_length_le (Nat.le_refl _)] at g6
      ((repeat' (first | refine gW ?_ | (refine gIf ?_ ?_ <;> (intro hc; try exact gX)) | with_reducible refine br_intro ?_ ?_ | (with_reducible intro _; try exact gX) | with_reducible refine ands_intro ?_ ?_)) <;> (try exact gF))
      refine ⟨(i + 1, out.set (i + ys.length) c), by simp only; omega, ⟨by simp only; omega, by simp [g2], g3.set g4 g5, ?_, ?_⟩, ?_⟩
      · simp only
        rw [V_set (by omega), e0, Int.sub_zero, g6, h4, V_take_succ, Int.add_mul, Int.mul_assoc]
      · intro j hj
        have := g7 j (by omega)
        simp only [List.getD] at this ⊢
        rw [List.getElem?_set_ne (by omega)]; exact this
      · exact cvS hn (.own 0 5 rfl .nil)
  · have hi' : i = xs.length := by omega
    subst hi'
    rw [List.take_of_length_le (Nat.le_refl _)] at h4
    have e0 : List.take (xs.length + ys.length) out0 = out0 := List.take_of_length_le (by omega)
    rw [← h4]
    (have hXx := @e0; (repeat' (first | refine gWx ?_ | (refine gIf ?_ ?_ <;> (intro hc; try exact gX)) | with_reducible refine br_intro ?_ ?_ | (with_reducible intro _; try exact gX) | with_reducible refine ands_intro ?_ ?_ | refine cx (rtrim_c (xs := out0) (by omega) (by omega) h3) ?_)) <;> ((try clear hXx); try exact gF))
    exact rqq1 rT
end Go.Proofs.YtfmebdmgnmogaaaGreatDoor
