/- Texts of rational numbers, plain: a canonical text is told by its number. No statement of its own. -/
import Derived.Test.YtfmebdmgnmogaaaGreatDoorQQ14
set_option linter.unusedVariables false
set_option linter.unusedSimpArgs false
set_option linter.unusedSimpArgs false
set_option linter.unusedVariables false
set_option maxRecDepth 100000
set_option maxHeartbeats 4000000
namespace Go.Proofs.YtfmebdmgnmogaaaGreatDoor
open Go Go.RowKit Hv

theorem snoc_of {α : Type} {n : Nat} {B : List α} (h : B.length = n + 1) : ∃ l c, B = l ++ [c] ∧ l.length = n := by
  have hne : B ≠ [] := by intro e; rw [e] at h; simp at h
  exact ⟨B.dropLast, B.getLast hne, (List.dropLast_concat_getLast hne).symm, by rw [List.length_dropLast]; omega⟩
theorem vd_inj : ∀ (n : Nat) (B C : List UInt8), B.length = n → C.length = n → allD B → allD C → vd B = vd C → B = C := by
  intro n
  induction n with
  | zero =>
    intro B C h1 h2 _ _ _
    rw [List.length_eq_zero_iff.1 h1, List.length_eq_zero_iff.1 h2]
  | succ n ih =>
    intro B C h1 h2 hB hC h
    obtain ⟨l, c, rfl, hl⟩ := snoc_of h1
    obtain ⟨m, d, rfl, hm⟩ := snoc_of h2
    rw [vd_snoc, vd_snoc] at h
    have c1 := hB c (by simp)
    have d1 := hC d (by simp)
    have e1 : vd l = vd m := by omega
    have e2 : c.toNat = d.toNat := by omega
    rw [ih l m hl hm (fun x hx => hB x (by simp [hx])) (fun x hx => hC x (by simp [hx])) e1, UInt8.toNat_inj.1 e2]
theorem vd_low {B : List UInt8} (hB : allD B) (nB : B ≠ []) (hz : B.head? ≠ some 48) : p10 (B.length - 1) ≤ vd B := by
  match B, nB with
  | c :: r, _ =>
    have h := vd_app [c] r
    have c1 := hB c (by simp)
    have e : vd [c] = (c.toNat : Int) - 48 := by simp [vd]
    have r0 := vd_bound (l := r) (fun x hx => hB x (by simp [hx]))
    have c2 : c.toNat ≠ 48 := by
      intro k
      exact hz (by simp only [List.head?_cons, Option.some.injEq]; exact UInt8.toNat_inj.1 k)
    have h1 : (1 : Int) * p10 r.length ≤ ((c.toNat : Int) - 48) * p10 r.length := Int.mul_le_mul_of_nonneg_right (by omega) (Int.le_of_lt (p10_pos _))
    rw [show [c] ++ r = c :: r from rfl, e] at h
    simp only [List.length_cons, Nat.add_sub_cancel]
    omega
theorem vd_canon {B C : List UInt8} (hB : allD B) (hC : allD C) (nB : B ≠ []) (nC : C ≠ []) (zB : B.head? = some 48 → B = [48]) (zC : C.head? = some 48 → C = [48]) (h : vd B = vd C) : B = C := by
  have e0 : vd [48] = 0 := by decide
  by_cases hb : B.head? = some 48
  · have eB := zB hb
    by_cases hc : C.head? = some 48
    · rw [eB, zC hc]
    · have k := vd_low hC nC hc
      have := p10_pos (C.length - 1)
      rw [eB, e0] at h
      omega
  · have k := vd_low hB nB hb
    have kp := p10_pos (B.length - 1)
    by_cases hc : C.head? = some 48
    · rw [zC hc, e0] at h
      omega
    · have k' := vd_low hC nC hc
      have b1 := vd_bound hB
      have b2 := vd_bound hC
      have l1 := List.length_pos_iff.2 nB
      have l2 := List.length_pos_iff.2 nC
      refine vd_inj _ B C rfl ?_ hB hC h
      rcases Nat.lt_trichotomy B.length C.length with q | q | q
      · have := p10_le (a := B.length) (b := C.length - 1) (by omega); omega
      · exact q.symm
      · have := p10_le (a := C.length) (b := B.length - 1) (by omega); omega
theorem ok_neg {l : List UInt8} (h : okP l) (hN : pre 45 l = true) : (cutP 45 l).head? ≠ some 48 ∧ pz l = -vd (cutP 45 l) ∧ pz l < 0 := by
  have e := (cut_len l).2.1 hN
  have h1 : (cutP 45 l).head? ≠ some 48 := by
    intro k
    refine h.2.1 ⟨k, ?_⟩
    intro e'
    rw [e'] at e
    injection e with e1 _
    exact absurd e1 (by decide)
  have k := vd_low h.2.2 h.1 h1
  have := p10_pos ((cutP 45 l).length - 1)
  have e2 : pz l = -vd (cutP 45 l) := by rw [(pz_yes h).1, hN]; rfl
  exact ⟨h1, e2, by omega⟩
theorem ok_pos {l : List UInt8} (h : okP l) (hN : pre 45 l = false) : cutP 45 l = l ∧ pz l = vd l ∧ 0 ≤ pz l := by
  have e := (cut_len l).2.2 hN
  have e2 : pz l = vd l := by rw [(pz_yes h).1, hN, e]; rfl
  have := vd_bound h.2.2
  rw [e] at this
  exact ⟨e, e2, by omega⟩
theorem okP_inj {l m : List UInt8} (hl : okP l) (hm : okP m) (h : pz l = pz m) : l = m := by
  cases hN : pre 45 l with
  | true =>
    obtain ⟨a1, a2, a3⟩ := ok_neg hl hN
    cases hM : pre 45 m with
    | true =>
      obtain ⟨b1, b2, b3⟩ := ok_neg hm hM
      rw [(cut_len l).2.1 hN, (cut_len m).2.1 hM, vd_canon hl.2.2 hm.2.2 hl.1 hm.1 (fun k => absurd k a1) (fun k => absurd k b1) (by omega)]
    | false =>
      have := (ok_pos hm hM).2.2
      omega
  | false =>
    obtain ⟨a1, a2, a3⟩ := ok_pos hl hN
    cases hM : pre 45 m with
    | true =>
      have := (ok_neg hm hM).2.2
      omega
    | false =>
      obtain ⟨b1, b2, b3⟩ := ok_pos hm hM
      have h1 := hl
      have h2 := hm
      unfold okP at h1 h2
      rw [a1] at h1
      rw [b1] at h2
      exact vd_canon h1.2.2 h2.2.2 h1.1 h2.1 (fun k => Classical.byContradiction fun q => h1.2.1 ⟨k, q⟩) (fun k => Classical.byContradiction fun q => h2.2.1 ⟨k, q⟩) (by omega)
theorem ok_of {l : List UInt8} (h : pe l = 0) : okP l := Classical.byContradiction fun k => by rw [(pz_no k).2] at h; exact absurd h (by decide)
theorem tI_pz {l : List UInt8} (h : pe l = 0) : tI (pz l) = l := okP_inj (ok_of (tI_ok _).2.1) (ok_of h) (tI_ok _).1
theorem ok_slash {l : List UInt8} (h : okP l) : (47 : UInt8) ∉ l := by
  intro k
  have key : ∀ x ∈ cutP 45 l, x ≠ 47 := fun x hx e => by
    have := h.2.2 x hx
    rw [e] at this
    exact absurd this.1 (by decide)
  cases hN : pre 45 l with
  | true =>
    rw [(cut_len l).2.1 hN] at k
    rcases List.mem_cons.1 k with e | e
    · exact absurd e (by decide)
    · exact key _ e rfl
  | false =>
    rw [← (cut_len l).2.2 hN] at k
    exact key _ k rfl
theorem tI_slash (z : Int) : (47 : UInt8) ∉ tI z := ok_slash (ok_of (tI_ok z).2.1)
theorem split_inj : ∀ {f f' g g' : List UInt8}, (47 : UInt8) ∉ f → (47 : UInt8) ∉ f' → f ++ 47 :: g = f' ++ 47 :: g' → f = f' ∧ g = g'
  | [], [], _, _, _, _, h => ⟨rfl, by simpa using h⟩
  | [], c :: f', _, _, _, h', h => by
    simp only [List.nil_append, List.cons_append, List.cons.injEq] at h
    exact absurd (by rw [h.1]; simp : (47 : UInt8) ∈ c :: f') h'
  | c :: f, [], _, _, h', _, h => by
    simp only [List.nil_append, List.cons_append, List.cons.injEq] at h
    exact absurd (by rw [← h.1]; simp : (47 : UInt8) ∈ c :: f) h'
  | c :: f, d :: f', _, _, h1, h2, h => by
    simp only [List.cons_append, List.cons.injEq] at h
    obtain ⟨e1, e2⟩ := split_inj (f := f) (f' := f') (fun k => h1 (by simp [k])) (fun k => h2 (by simp [k])) h.2
    exact ⟨by rw [h.1, e1], e2⟩
theorem isR_cop {p q : Int} (hq : 0 < q) (h : gI p q = 1) : IsR p q (Rat.divInt p q) := by
  have h1 := red_num (p := p) (q := q) (by omega)
  have h2 := red_den (p := p) (q := q) (by omega)
  rw [if_neg (by omega), h, fq_one] at h1 h2
  exact ⟨h1, h2⟩
theorem isR_gcd {p q : Int} {a : Rat} (ha : IsR p q a) : gI p q = 1 := by
  rw [ha.1, ha.2]
  unfold gI
  have := a.reduced
  have e : Int.gcd a.num (a.den : Int) = 1 := by
    show Nat.gcd a.num.natAbs (a.den : Int).natAbs = 1
    rw [Int.natAbs_natCast]; exact this
  rw [e]; rfl
theorem tR_yes {f g : List UInt8} {p q : Int} (he : pe f = 0) (he2 : pe g = 0) (hp : pz f = p) (hq : pz g = q) (h1 : 1 < q) : tR p q = f ++ 47 :: g := by
  unfold tR
  rw [if_neg (by omega), ← hp, ← hq, tI_pz he, tI_pz he2, List.append_assoc]; rfl
theorem tR_no {f g : List UInt8} {p q n d : Int} (hf : (47 : UInt8) ∉ f) (hp : pz f = p) (hq : pz g = q) (hq0 : 0 < q) (hr : IsR n d (Rat.divInt p q)) (hno : q ≤ 1 ∨ gI p q ≠ 1) : tR n d ≠ f ++ 47 :: g := by
  unfold tR
  split
  · intro e
    have := tI_slash n
    rw [e] at this
    simp at this
  · rename_i hd
    intro e
    rw [List.append_assoc, show [47] ++ tI d = 47 :: tI d from rfl] at e
    obtain ⟨e1, e2⟩ := split_inj (tI_slash n) hf e
    have n1 : n = p := by rw [← hp, ← e1, (tI_ok n).1]
    have d1 : d = q := by rw [← hq, ← e2, (tI_ok d).1]
    rw [n1, d1] at hr
    have := isR_gcd hr
    rcases hno with k | k
    · omega
    · exact k this
/-- The first slash, or the end. -/
def sx : List UInt8 → Nat
  | [] => 0
  | c :: r => if c = 47 then 0 else sx r + 1
theorem sx_n : ∀ {l : List UInt8}, (47 : UInt8) ∉ l → sx l = l.length
  | [], _ => rfl
  | c :: r, h => by
    have h1 : c ≠ 47 := fun e => h (by rw [e]; simp)
    have h2 := sx_n (l := r) (fun k => h (by simp [k]))
    simp only [sx, if_neg h1, h2, List.length_cons]
theorem sx_y {g : List UInt8} : ∀ {f : List UInt8}, (47 : UInt8) ∉ f → sx (f ++ 47 :: g) = f.length
  | [], _ => by simp [sx]
  | c :: r, h => by
    have h1 : c ≠ 47 := fun e => h (by rw [e]; simp)
    have h2 := sx_y (g := g) (f := r) (fun k => h (by simp [k]))
    simp only [List.cons_append, sx, if_neg h1, h2, List.length_cons]
theorem sx_at {l : List UInt8} {k : Nat} (h0 : 0 < k) (h1 : k ≤ l.length) : sx (l.drop (k - 1)) = if ((l.getD (k - 1) 0).toNat : Int) = 47 then 0 else sx (l.drop k) + 1 := by
  have h2 : k - 1 < l.length := by omega
  rw [List.drop_eq_getElem_cons h2, show k - 1 + 1 = k by omega]
  have e : l.getD (k - 1) 0 = l[k - 1] := by simp [List.getD, h2]
  rw [e]
  simp only [sx]
  by_cases c : l[k - 1] = 47
  · rw [if_pos c, if_pos (by rw [c]; rfl)]
  · rw [if_neg c, if_neg (fun q => c (UInt8.toNat_inj.1 (by have : (47 : UInt8).toNat = 47 := rfl; omega)))]
end Go.Proofs.YtfmebdmgnmogaaaGreatDoor
