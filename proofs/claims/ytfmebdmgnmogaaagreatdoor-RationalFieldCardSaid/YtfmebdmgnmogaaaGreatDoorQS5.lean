/- Texts and integers; the law of texts. No statement of its own. -/
import Derived.Test.YtfmebdmgnmogaaaGreatDoorQS4
import Derived.Test.YtfmebdmgnmogaaaGreatDoorQI23
import Derived.Test.YtfmebdmgnmogaaaGreatDoorQQ8
set_option linter.unusedVariables false
set_option linter.unusedSimpArgs false
set_option linter.unusedSimpArgs false
set_option linter.unusedVariables false
set_option maxRecDepth 100000
set_option maxHeartbeats 8000000
namespace Go.Proofs.YtfmebdmgnmogaaaGreatDoor
open Go Go.RowKit Hv

theorem rparse_c {l : List UInt8} (hl : l.length ≤ 1000) : HCallsD Tryz.prog 85 [] [.raw (.string (bs l))] (.tup [aI (pz l), .raw (.int .i64 (pe l))]) [] := by
  obtain ⟨B, hB⟩ : ∃ B, cutP 45 l = B := ⟨_, rfl⟩
  obtain ⟨N, hN⟩ : ∃ N, pre 45 l = N := ⟨_, rfl⟩
  obtain ⟨c1, c2, c3⟩ := cut_len l
  rw [hN, hB] at c2 c3
  rw [hB] at c1
  have hm : N = false → l ≠ [] → ¬ ((l.getD 0 0).toNat : Int) = 45 := by
    rintro rfl hne h
    cases l with
    | nil => exact hne rfl
    | cons c l =>
      have : c = 45 := by
        apply UInt8.toNat_inj.1
        have e : ((c.toNat : Nat) : Int) = 45 := h
        show c.toNat = 45
        omega
      subst this
      cases hN
  have hy : okP l → pz l = sgnd N (vd B) ∧ pe l = 0 := fun h => by have := pz_yes h; rw [hB, hN] at this; exact this
  by_cases hne : B = []
  · have hno : ¬ okP l := fun h => h.1 (hB.trans hne)
    obtain ⟨e1, e2⟩ := pz_no hno
    rw [e1, e2]
    cases N with
    | true =>
      have e := c2 rfl
      subst hne
      subst e
      exact rbad_1 hl (by decide) rfl rfl
    | false =>
      have e := c3 rfl
      rw [hne] at e
      subst e
      exact rbad_3
  have h0 : 0 < B.length := by
    cases B with
    | nil => exact absurd rfl hne
    | cons c B => simp
  by_cases hz : ((B.getD 0 0).toNat : Int) = 48
  · by_cases hl1 : l = [48]
    · have e0 : cutP 45 [48] = [48] := rfl
      have hok : okP l = allD l := by
        subst hl1
        unfold okP
        rw [e0]
        simp [allD]
      have hNf : N = false := by subst hl1; exact hN.symm
      subst hNf
      have e := c3 rfl
      subst e
      exact rparse_mainC hl h0 c1 (hm rfl hne) hok hy hne hz (eq_true hl1)
    · have hno : ¬ okP l := fun h => h.2.1 ⟨by rw [hB, head_getD hne]; exact hz, hl1⟩
      obtain ⟨e1, e2⟩ := pz_no hno
      rw [e1, e2]
      cases N with
      | true =>
        have e := c2 rfl
        refine rbad_2 hl (by omega) ?_ ?_ hne h0 hz hl1
        · rw [e]; rfl
        · rw [e]; rfl
      | false =>
        have e := c3 rfl
        subst e
        exact rbad_4 hl h0 hne hz hl1
  · have hok : okP l = allD B := by
      unfold okP
      rw [hB, head_getD hne]
      exact propext ⟨fun h => h.2.2, fun h => ⟨hne, fun h' => hz h'.1, h⟩⟩
    cases N with
    | true =>
      have e := c2 rfl
      refine rparse_mainA hl h0 c1 ?_ hok hy hne hz ?_
      · rw [e]; rfl
      · rw [e]; rfl
    | false =>
      have e := c3 rfl
      subst e
      exact rparse_mainB hl h0 c1 (hm rfl hne) hok hy hne hz
theorem rparse_e {l : List UInt8} {z : Int} {e : Int} (hl : l.length ≤ 1000) (hz : pz l = z) (he : pe l = e) : HCallsD Tryz.prog 85 [] [.raw (.string (bs l))] (.tup [aI z, .raw (.int .i64 e)]) [] := hz ▸ he ▸ rparse_c hl

/- What a text says of the number that it was made of. -/
theorem vd_dgs (k : Nat) : ∀ d : Int, 0 ≤ d → d < p10 k → vd (dgs k d) = d := by
  induction k with
  | zero => intro d h0 h1; simp only [p10] at h1; show (0 : Int) = d; omega
  | succ k ih =>
    intro d h0 h1
    simp only [p10] at h1
    simp only [dgs]
    rw [vd_snoc, ih (d / 10) (by omega) (by omega), ch_nat (by omega) (by omega)]
    omega
theorem allD_app {a b : List UInt8} (ha : allD a) (hb : allD b) : allD (a ++ b) := fun c hc => (List.mem_append.1 hc).elim (ha c) (hb c)
theorem allD_dgs (k : Nat) : ∀ d : Int, 0 ≤ d → allD (dgs k d) := by
  induction k with
  | zero => intro d h0 c hc; simp [dgs] at hc
  | succ k ih =>
    intro d h0
    refine allD_app (ih _ (by omega)) fun c hc => ?_
    rw [List.mem_singleton] at hc
    subst hc
    have := ch_nat (d := d % 10) (by omega) (by omega)
    omega
theorem vd_rep (n : Nat) (l : List UInt8) : vd (List.replicate n 48 ++ l) = vd l := by
  rw [vd_app]
  have : vd (List.replicate n 48) = 0 := by
    induction n with
    | zero => rfl
    | succ n ih => rw [List.replicate_succ', vd_snoc, ih]; rfl
  rw [this]; omega
theorem vd_dec {x : Nat} (h : x < 1000000000) : vd (Lib.decDigits x) = x ∧ allD (Lib.decDigits x) := by
  have h1 := pad9_dgs h
  have h2 := vd_dgs 9 x (by omega) (by rw [p10_nine]; omega)
  have h3 := allD_dgs 9 x (by omega)
  rw [← h1] at h2 h3
  unfold pad9 at h2 h3
  rw [vd_rep] at h2
  exact ⟨h2, fun c hc => h3 c (List.mem_append.2 (.inr hc))⟩
theorem vd_tl9 {xs : List Int} (hx : Lim xs) : ∀ k, k ≤ xs.length → vd (tl9 xs k) = V (xs.take k) ∧ allD (tl9 xs k) := by
  intro k
  induction k with
  | zero => intro _; exact ⟨rfl, fun c hc => by simp [tl9] at hc⟩
  | succ k ih =>
    intro hk
    obtain ⟨i1, i2⟩ := ih (by omega)
    have h1 := hx.getA k
    simp only [tl9]
    refine ⟨?_, allD_app (allD_dgs 9 _ h1.1) i2⟩
    rw [vd_app, i1, vd_dgs 9 _ h1.1 (by rw [p10_nine]; exact h1.2), tl9_length, p10_9, V_take_succ, Int.mul_comm]
    omega
theorem txt_ok {b : Bool} {z : Int} (hb : b = decide (z < 0)) : pz (txt b (dig (z.natAbs : Int))) = z ∧ pe (txt b (dig (z.natAbs : Int))) = 0 ∧ (txt b (dig (z.natAbs : Int))).length ≤ 9 * (dig (z.natAbs : Int)).length + 1 := by
  obtain ⟨xs, hxs⟩ : ∃ xs, dig (z.natAbs : Int) = xs := ⟨_, rfl⟩
  have hlim : Lim xs := hxs ▸ dig_lim _
  have hV : V xs = (z.natAbs : Int) := by rw [← hxs]; exact dig_V (by omega)
  rw [hxs]
  rcases Nat.eq_zero_or_pos xs.length with h0 | h0
  · have e : xs = [] := List.eq_nil_of_length_eq_zero h0
    subst e
    have hz : z = 0 := by
      have : V [] = (z.natAbs : Int) := hV
      simp only [V] at this
      omega
    subst hz
    have e : txt b [] = [48] := rfl
    rw [e]
    have ho : okP [48] := ⟨by decide, fun h => h.2 rfl, fun c hc => by rw [show cutP 45 [48] = [48] from rfl, List.mem_singleton] at hc; subst hc; decide⟩
    obtain ⟨p1, p2⟩ := pz_yes ho
    exact ⟨by rw [p1]; rfl, p2, by simp⟩
  · have hlast : xs.getD (xs.length - 1) 0 ≠ 0 := by rw [← hxs] at h0 ⊢; exact dig_get_last h0
    obtain ⟨e1, e2⟩ := rtxt_eq (b := b) hlim h0 hlast
    rw [e1] at e2
    have hg := hlim.getA (xs.length - 1)
    obtain ⟨x, hx⟩ : ∃ x : Nat, (xs.getD (xs.length - 1) 0).toNat = x := ⟨_, rfl⟩
    rw [hx] at e2
    have hx0 : 0 < x := by omega
    have hx9 : x < 1000000000 := by omega
    obtain ⟨d1, d2⟩ := vd_dec hx9
    obtain ⟨t1, t2⟩ := vd_tl9 hlim (xs.length - 1) (by omega)
    obtain ⟨q1, q2⟩ := dec_head x hx0
    obtain ⟨D, hD⟩ : ∃ D, Lib.decDigits x ++ tl9 xs (xs.length - 1) = D := ⟨_, rfl⟩
    have hDd : allD D := hD ▸ allD_app d2 t2
    have hDv : vd D = (z.natAbs : Int) := by
      rw [← hD, vd_app, d1, t1, tl9_length, p10_9, ← hV]
      have := V_take_succ xs (xs.length - 1)
      rw [show xs.length - 1 + 1 = xs.length by omega, List.take_of_length_le (Nat.le_refl _)] at this
      rw [this, show ((x : Nat) : Int) = xs.getD (xs.length - 1) 0 by omega, Int.mul_comm]
      omega
    have hDl : D.length ≤ 9 * xs.length := by
      rw [← hD, List.length_append, tl9_length]
      have := (dd_len x hx9).2
      omega
    have hDh : D.head? ≠ some 48 ∧ D.head? ≠ some 45 ∧ D ≠ [] := by
      cases hd : Lib.decDigits x with
      | nil => exact absurd hd q2
      | cons c m =>
        rw [hd] at q1 hD
        subst hD
        have h5 := hDd c (by simp)
        refine ⟨q1, ?_, by simp⟩
        intro h
        simp only [List.cons_append, List.head?_cons, Option.some.injEq] at h
        subst h
        exact absurd h5.1 (by decide)
    rw [e2, hD]
    have hp : pre 45 (sgnD b ++ D) = b ∧ cutP 45 (sgnD b ++ D) = D := by
      cases b with
      | true => exact ⟨rfl, rfl⟩
      | false =>
        show pre 45 D = false ∧ cutP 45 D = D
        have : pre 45 D = false := decide_eq_false hDh.2.1
        exact ⟨this, by unfold cutP; rw [this]; rfl⟩
    have ho : okP (sgnD b ++ D) := by
      unfold okP
      rw [hp.2]
      exact ⟨hDh.2.2, fun h => hDh.1 h.1, hDd⟩
    obtain ⟨p1, p2⟩ := pz_yes ho
    refine ⟨?_, p2, ?_⟩
    · rw [p1, hp.1, hp.2, hDv, hb]
      exact sgnd_dec (by omega) (by omega)
    · rw [List.length_append]
      have : (sgnD b).length ≤ 1 := by cases b <;> decide
      omega
theorem pz_len (l : List UInt8) : (dig ((pz l).natAbs : Int)).length ≤ l.length := by
  by_cases h : okP l
  · rw [(pz_yes h).1]
    have h1 := vd_bound h.2.2
    have h2 := (cut_len l).1
    refine dig_len ?_
    have h3 : p10 (cutP 45 l).length ≤ p10 (9 * l.length) := p10_le (by omega)
    rw [p10_9] at h3
    unfold sgnd
    split <;> omega
  · rw [(pz_no h).1]
    rw [dig_zero (by simp)]
    simp
end Go.Proofs.YtfmebdmgnmogaaaGreatDoor
set_option linter.unusedSimpArgs false
set_option linter.unusedVariables false
set_option maxRecDepth 100000
set_option maxHeartbeats 8000000
namespace Go.Proofs.YtfmebdmgnmogaaaGreatDoor
open Go Go.RowKit Hv

/-- An integer's text, a rational number's text. -/
def tI (z : Int) : List UInt8 := txt (decide (z < 0)) (dig (z.natAbs : Int))
def tR (p q : Int) : List UInt8 := if q = 1 then tI p else tI p ++ [47] ++ tI q
theorem tI_ok (z : Int) : pz (tI z) = z ∧ pe (tI z) = 0 ∧ (tI z).length ≤ 9 * (dig (z.natAbs : Int)).length + 1 := txt_ok rfl
theorem iformat_e {z : Int} {t : List UInt8} (l : (dig (z.natAbs : Int)).length ≤ 1000) (ht : tI z = t) : HCallsD Tryz.prog 83 [] [.agg [.raw (.bool (decide (z < 0))), .sl (dig (z.natAbs : Int)).length false (ints .u32 (dig (z.natAbs : Int)))]] (.raw (.string (bs t))) [] := by
  subst ht
  exact format_c (zx := z) rfl rfl rfl (by omega)
theorem rformat_e {z : Int} {t : List UInt8} (l : (dig (z.natAbs : Int)).length ≤ 1000) (ht : tI z = t) : HCallsD Tryz.prog 84 [] [.agg [.raw (.bool (decide (z < 0))), .sl (dig (z.natAbs : Int)).length false (ints .u32 (dig (z.natAbs : Int)))]] (.raw (.string (bs t))) [] := by
  subst ht
  exact rformat_c (zx := z) rfl rfl rfl (by omega) (by omega)
theorem xformat_c {p q : Int} {t : List UInt8} (l : RL p q 1000) (ht : tR p q = t) : HCallsD Tryz.prog 37 [] [.agg [.raw (.bool (decide (p < 0))), .sl (dig (p.natAbs : Int)).length false (ints .u32 (dig (p.natAbs : Int))), .raw (.bool (decide (q < 0))), .sl (dig (q.natAbs : Int)).length false (ints .u32 (dig (q.natAbs : Int)))]] (.raw (.string (bs t))) [] := by
  obtain ⟨l1, l2⟩ := l
  obtain ⟨one, h1⟩ : ∃ z : Int, 1 = z := ⟨_, rfl⟩
  have b3 := one_len h1
  obtain ⟨tp, htp⟩ : ∃ t, tI p = t := ⟨_, rfl⟩
  obtain ⟨tq, htq⟩ : ∃ t, tI q = t := ⟨_, rfl⟩
  have k1 := (tI_ok p).2.2
  have k2 := (tI_ok q).2.2
  rw [htp] at k1
  rw [htq] at k2
  unfold tR at ht
  rw [htp, htq] at ht
  by_cases hq : q = one
  · rw [if_pos (by omega)] at ht
    subst ht
    refine cp1 (rs := [.tmp 2]) (nt := 19) Tryz.func37 (fun C hP hn => ?_)
    ((repeat' (first | refine gW ?_ | (refine gIf ?_ ?_ <;> (intro hc; try exact gX)) | with_reducible refine br_intro ?_ ?_ | (with_reducible intro _; try exact gX) | with_reducible refine ands_intro ?_ ?_ | refine cx (unit_w h1) ?_ | refine cx (runit_w h1) ?_ | refine cx (icmp_e (za := q) (zb := one) (by rfl) (by rfl) (by rfl) (by omega) (by rfl) (by rfl) (by rfl) (by omega) (r := 0) (by rw [hq]; exact cmp_e _)) ?_ | refine cx (rSame_e (a := q) (b := one) (by omega) (by omega) (decide_eq_true hq)) ?_ | refine cx (iformat_e (z := p) (by omega) htp) ?_)) <;> (try exact gF))
    exact rqq1 rT
  · rw [if_neg (by omega)] at ht
    subst ht
    obtain ⟨c, hcc⟩ : ∃ c, cmpI q one = c := ⟨_, rfl⟩
    have hcn : c ≠ 0 := hcc ▸ cmp_ne hq
    refine cp1 (rs := [.tmp 2]) (nt := 19) Tryz.func37 (fun C hP hn => ?_)
    (have hXx := And.intro @List.length_append.{0} (And.intro @List.length_cons.{0} (@List.length_nil.{0})); (repeat' (first | refine gWx ?_ | (refine gIf ?_ ?_ <;> (intro hc; try exact gX)) | with_reducible refine br_intro ?_ ?_ | (with_reducible intro _; try exact gX) | with_reducible refine ands_intro ?_ ?_ | refine cx (unit_w h1) ?_ | refine cx (runit_w h1) ?_ | refine cx (icmp_e (za := q) (zb := one) (by rfl) (by rfl) (by rfl) (by omega) (by rfl) (by rfl) (by rfl) (by omega) hcc) ?_ | refine cx (rSame_e (a := q) (b := one) (by omega) (by omega) (decide_eq_false hq)) ?_ | refine cx (iformat_e (z := p) (by omega) htp) ?_ | refine cx (iformat_e (z := q) (by omega) htq) ?_)) <;> ((try clear hXx); try exact gF))
    exact rqq1 rT
theorem rxformat_c {p q : Int} {t : List UInt8} (l : RL p q 1000) (ht : tR p q = t) : HCallsD Tryz.prog 38 [] [.agg [.raw (.bool (decide (p < 0))), .sl (dig (p.natAbs : Int)).length false (ints .u32 (dig (p.natAbs : Int))), .raw (.bool (decide (q < 0))), .sl (dig (q.natAbs : Int)).length false (ints .u32 (dig (q.natAbs : Int)))]] (.raw (.string (bs t))) [] := by
  obtain ⟨l1, l2⟩ := l
  obtain ⟨one, h1⟩ : ∃ z : Int, 1 = z := ⟨_, rfl⟩
  have b3 := one_len h1
  obtain ⟨tp, htp⟩ : ∃ t, tI p = t := ⟨_, rfl⟩
  obtain ⟨tq, htq⟩ : ∃ t, tI q = t := ⟨_, rfl⟩
  have k1 := (tI_ok p).2.2
  have k2 := (tI_ok q).2.2
  rw [htp] at k1
  rw [htq] at k2
  unfold tR at ht
  rw [htp, htq] at ht
  by_cases hq : q = one
  · rw [if_pos (by omega)] at ht
    subst ht
    refine cp1 (rs := [.tmp 2]) (nt := 18) Tryz.func38 (fun C hP hn => ?_)
    ((repeat' (first | refine gW ?_ | (refine gIf ?_ ?_ <;> (intro hc; try exact gX)) | with_reducible refine br_intro ?_ ?_ | (with_reducible intro _; try exact gX) | with_reducible refine ands_intro ?_ ?_ | refine cx (unit_w h1) ?_ | refine cx (runit_w h1) ?_ | refine cx (icmp_e (za := q) (zb := one) (by rfl) (by rfl) (by rfl) (by omega) (by rfl) (by rfl) (by rfl) (by omega) (r := 0) (by rw [hq]; exact cmp_e _)) ?_ | refine cx (rSame_e (a := q) (b := one) (by omega) (by omega) (decide_eq_true hq)) ?_ | refine cx (rformat_e (z := p) (by omega) htp) ?_)) <;> (try exact gF))
    exact rqq1 rT
  · rw [if_neg (by omega)] at ht
    subst ht
    obtain ⟨c, hcc⟩ : ∃ c, cmpI q one = c := ⟨_, rfl⟩
    have hcn : c ≠ 0 := hcc ▸ cmp_ne hq
    refine cp1 (rs := [.tmp 2]) (nt := 18) Tryz.func38 (fun C hP hn => ?_)
    (have hXx := And.intro @List.length_append.{0} (And.intro @List.length_cons.{0} (@List.length_nil.{0})); (repeat' (first | refine gWx ?_ | (refine gIf ?_ ?_ <;> (intro hc; try exact gX)) | with_reducible refine br_intro ?_ ?_ | (with_reducible intro _; try exact gX) | with_reducible refine ands_intro ?_ ?_ | refine cx (unit_w h1) ?_ | refine cx (runit_w h1) ?_ | refine cx (icmp_e (za := q) (zb := one) (by rfl) (by rfl) (by rfl) (by omega) (by rfl) (by rfl) (by rfl) (by omega) hcc) ?_ | refine cx (rSame_e (a := q) (b := one) (by omega) (by omega) (decide_eq_false hq)) ?_ | refine cx (rformat_e (z := p) (by omega) htp) ?_ | refine cx (rformat_e (z := q) (by omega) htq) ?_)) <;> ((try clear hXx); try exact gF))
    exact rqq1 rT
theorem index_c {l : List UInt8} {i : Int} (hi : Lib.indexByte l 47 = i) : HCallsD Tryz.prog 124 [] [.raw (.string (bs l)), .raw (.string (bs [47]))] (.raw (.int .i64 i)) [] := by
  subst hi
  refine hcalls_below ⟨_, Tryz.func124, by rfl, by rfl⟩ (fun X m w vs hl hG ha => ?_)
  obtain ⟨v, u, rfl⟩ : ∃ v u, vs = [v, u] := by
    match vs, hl with
    | [v, u], _ => exact ⟨v, u, rfl⟩
  have r0 := ha 0 _ _ rfl rfl
  have r1 := ha 1 _ _ rfl rfl
  cases r0
  cases r1
  refine (Tryz.stringslite_Index_one (bs l) 47 w).mono ?_
  rintro e w' ⟨rfl, rfl⟩
  exact ⟨rfl, Below.refl _ _⟩
theorem cut_y {l : List UInt8} {i : Nat} (hl : l.length ≤ 100000) (hi : Lib.indexByte l 47 = (i : Int)) (hil : i < l.length) : HCallsD Tryz.prog 104 [] [.raw (.string (bs l)), .raw (.string (bs [47]))] (.tup [.raw (.string (bs (l.take i))), .raw (.string (bs (l.drop (i + 1)))), .raw (.bool true)]) [] := by
  have e1 : (l.take i).drop 0 = l.take i := rfl
  have e2 : (l.take l.length).drop (i + 1) = l.drop (i + 1) := by rw [List.take_of_length_le (Nat.le_refl _)]
  refine cp2 (rs := [.tmp 4, .tmp 5, .tmp 6]) (nt := 23) Tryz.func104 (fun C hP hn => ?_)
  (have hXx := And.intro @e1 (And.intro @e2 (And.intro @List.length_cons.{0} (@List.length_nil.{0}))); (repeat' (first | refine gWx ?_ | (refine gIf ?_ ?_ <;> (intro hc; try exact gX)) | with_reducible refine br_intro ?_ ?_ | (with_reducible intro _; try exact gX) | with_reducible refine ands_intro ?_ ?_ | refine cx (index_c hi) ?_)) <;> ((try clear hXx); try exact gF))
  exact rqq3 rT rT rT
theorem cut_n {l : List UInt8} {i : Int} (hi : Lib.indexByte l 47 = i) (h0 : i < 0) : HCallsD Tryz.prog 104 [] [.raw (.string (bs l)), .raw (.string (bs [47]))] (.tup [.raw (.string (bs l)), .raw (.string (bs [])), .raw (.bool false)]) [] := by
  refine cp2 (rs := [.tmp 4, .tmp 5, .tmp 6]) (nt := 23) Tryz.func104 (fun C hP hn => ?_)
  ((repeat' (first | refine gW ?_ | (refine gIf ?_ ?_ <;> (intro hc; try exact gX)) | with_reducible refine br_intro ?_ ?_ | (with_reducible intro _; try exact gX) | with_reducible refine ands_intro ?_ ?_ | refine cx (index_c hi) ?_)) <;> (try exact gF))
  exact rqq3 rT rT rT
end Go.Proofs.YtfmebdmgnmogaaaGreatDoor
