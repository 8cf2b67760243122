/- Laws of integers: what they answer over lists of limbs. No statement of its own. -/
import Derived.Test.YtfmebdmgnmogaaaGreatDoorQSb
import Derived.Test.YtfmebdmgnmogaaaGreatDoorQI26
set_option linter.unusedVariables false
set_option linter.unusedSimpArgs false
set_option linter.unusedSimpArgs false
set_option linter.unusedVariables false
set_option maxRecDepth 100000
set_option maxHeartbeats 8000000
namespace Go.Proofs.YtfmebdmgnmogaaaGreatDoor
open Go Go.RowKit Hv

theorem valid_aI (z : Int) : validB (decide (z < 0)) (dig (z.natAbs : Int)) = true := by
  have e : zOf (decide (z < 0)) (dig (z.natAbs : Int)) = z := by
    unfold zOf; rw [dig_V (ab_nn z)]; exact sgnd_dec (fun h => ab_neg h) (fun h => ab_pos h)
  unfold validB
  rw [e]
  simp
theorem rvalid_e {b : Bool} {n : Nat} {xs : List Int} {z : Int} {r : Bool} (hb : b = decide (z < 0)) (hn : n = xs.length) (hx : xs = dig (z.natAbs : Int)) (hl : xs.length ≤ 100000) (hr : true = r) : HCallsD Tryz.prog 15 [] [.agg [.raw (.bool b), .sl n false (ints .u32 xs)]] (.raw (.bool r)) [] := by
  subst hr
  have h := rvalid_c (b := b) (n := n) (xs := xs) hn (fun x h => by have := (hx ▸ dig_lim _) x h; omega) (by omega)
  rw [hb, hx, valid_aI] at h
  rw [hb, hx]
  exact h
theorem isign_e {ba : Bool} {na : Nat} {xa : List Int} {za : Int} {r : Int} (hba : ba = decide (za < 0)) (hna : na = xa.length) (hxa : xa = dig (za.natAbs : Int)) (hla : xa.length ≤ 100000) (hr : cmpI za 0 = r) : HCallsD Tryz.prog 88 [] [.agg [.raw (.bool ba), .sl na false (ints .u32 xa)]] (.raw (.int .i64 r)) [] := by subst hr; exact isign_c hba hna hxa hla
theorem rsign_e {ba : Bool} {na : Nat} {xa : List Int} {za : Int} {r : Int} (hba : ba = decide (za < 0)) (hna : na = xa.length) (hxa : xa = dig (za.natAbs : Int)) (hla : xa.length ≤ 100000) (hr : cmpI za 0 = r) : HCallsD Tryz.prog 62 [] [.agg [.raw (.bool ba), .sl na false (ints .u32 xa)]] (.raw (.int .i64 r)) [] := by subst hr; exact rsign_c hba hna hxa hla
theorem rmul_e {ba : Bool} {na : Nat} {xa : List Int} {za : Int} {bb : Bool} {nb : Nat} {xb : List Int} {zb : Int} {r : Int} (hba : ba = decide (za < 0)) (hna : na = xa.length) (hxa : xa = dig (za.natAbs : Int)) (hla : xa.length ≤ 100000) (hbb : bb = decide (zb < 0)) (hnb : nb = xb.length) (hxb : xb = dig (zb.natAbs : Int)) (hlb : xb.length ≤ 100000) (hr : za * zb = r) : HCallsD Tryz.prog 64 [] [.agg [.raw (.bool ba), .sl na false (ints .u32 xa)], .agg [.raw (.bool bb), .sl nb false (ints .u32 xb)]] (aI r) [] := by subst hr; exact rmul_c hba hna hxa hla hbb hnb hxb hlb
theorem radd_e {ba : Bool} {na : Nat} {xa : List Int} {za : Int} {bb : Bool} {nb : Nat} {xb : List Int} {zb : Int} {r : Int} (hba : ba = decide (za < 0)) (hna : na = xa.length) (hxa : xa = dig (za.natAbs : Int)) (hla : xa.length ≤ 100000) (hbb : bb = decide (zb < 0)) (hnb : nb = xb.length) (hxb : xb = dig (zb.natAbs : Int)) (hlb : xb.length ≤ 100000) (hr : za + zb = r) : HCallsD Tryz.prog 31 [] [.agg [.raw (.bool ba), .sl na false (ints .u32 xa)], .agg [.raw (.bool bb), .sl nb false (ints .u32 xb)]] (aI r) [] := by subst hr; exact radd_c hba hna hxa hla hbb hnb hxb hlb
theorem rsub_e {ba : Bool} {na : Nat} {xa : List Int} {za : Int} {bb : Bool} {nb : Nat} {xb : List Int} {zb : Int} {r : Int} (hba : ba = decide (za < 0)) (hna : na = xa.length) (hxa : xa = dig (za.natAbs : Int)) (hla : xa.length ≤ 100000) (hbb : bb = decide (zb < 0)) (hnb : nb = xb.length) (hxb : xb = dig (zb.natAbs : Int)) (hlb : xb.length ≤ 100000) (hr : za - zb = r) : HCallsD Tryz.prog 35 [] [.agg [.raw (.bool ba), .sl na false (ints .u32 xa)], .agg [.raw (.bool bb), .sl nb false (ints .u32 xb)]] (aI r) [] := by subst hr; exact rsub_c hba hna hxa hla hbb hnb hxb hlb
theorem rneg_e {ba : Bool} {na : Nat} {xa : List Int} {za : Int} {r : Int} (hba : ba = decide (za < 0)) (hna : na = xa.length) (hxa : xa = dig (za.natAbs : Int)) (hla : xa.length ≤ 100000) (hr : -za = r) : HCallsD Tryz.prog 67 [] [.agg [.raw (.bool ba), .sl na false (ints .u32 xa)]] (aI r) [] := by subst hr; exact rneg_c hba hna hxa hla
theorem ineg_e {ba : Bool} {na : Nat} {xa : List Int} {za : Int} {r : Int} (hba : ba = decide (za < 0)) (hna : na = xa.length) (hxa : xa = dig (za.natAbs : Int)) (hla : xa.length ≤ 100000) (hr : -za = r) : HCallsD Tryz.prog 92 [] [.agg [.raw (.bool ba), .sl na false (ints .u32 xa)]] (aI r) [] := by subst hr; exact ineg_c hba hna hxa hla
theorem rfrom64_w {z w : Int} (h : z = w) (h0 : -9223372036854775808 ≤ z) (h1 : z ≤ 9223372036854775807) : HCallsD Tryz.prog 33 [] [.raw (.int .i64 z)] (aI w) [] := h ▸ rfrom64_c h0 h1
theorem divzero_e {ba : Bool} {na : Nat} {xa : List Int} {za : Int} {bb : Bool} {nb : Nat} {xb : List Int} {zb : Int} {z : Int} (hba : ba = decide (za < 0)) (hna : na = xa.length) (hxa : xa = dig (za.natAbs : Int)) (hla : xa.length ≤ 100000) (hbb : bb = decide (zb < 0)) (hnb : nb = xb.length) (hxb : xb = dig (zb.natAbs : Int)) (hlb : xb.length ≤ 100000) (hz : zb = 0) (h0 : 0 = z) : HCallsD Tryz.prog 59 [] [.agg [.raw (.bool ba), .sl na false (ints .u32 xa)], .agg [.raw (.bool bb), .sl nb false (ints .u32 xb)]] (.tup [aI z, aI z, .raw (.int .i64 6)]) [] := by subst h0; exact divzero_c hba hna hxa hla hbb hnb hxb hlb hz

def U32 (xs : List Int) : Prop := ∀ x ∈ xs, 0 ≤ x ∧ x < 4294967296
theorem small_z {b : Bool} {xs : List Int} (h : smallB b xs = true) : ∃ z : Int, b = decide (z < 0) ∧ xs = dig (z.natAbs : Int) ∧ xs.length ≤ 16 := by
  unfold smallB at h
  rw [Bool.and_eq_true, decide_eq_true_eq] at h
  have := valid_spec h.2
  exact ⟨zOf b xs, this.2, this.1, by omega⟩
theorem natAbs_le_len {z : Int} {w : Int} (h : z.natAbs ≤ w.natAbs) : (dig (z.natAbs : Int)).length ≤ (dig (w.natAbs : Int)).length := dig_le (by omega) (by omega)
theorem fq_le {a b : Int} (hb : b ≠ 0) : (fq a b).natAbs ≤ a.natAbs := by
  have e := fr_eq a b
  have h := fr_bounds (a := a) hb
  have key : ∀ a b : Int, 0 < b → (a / b).natAbs ≤ a.natAbs := by
    intro a b hb
    obtain ⟨h1, h2⟩ := div_le a hb
    rcases Int.lt_or_le a 0 with k | k
    · have k2 : a / b < 0 := Int.ediv_neg_of_neg_of_pos k hb
      have : a / b * b ≤ a / b * 1 := by
        have := Int.mul_le_mul_of_nonneg_left (show (1 : Int) ≤ b by omega) (show 0 ≤ -(a / b) by omega)
        rw [Int.neg_mul, Int.neg_mul] at this; omega
      have h3 : a < (a / b + 1) * b := h2
      have : (a / b + 1) * b ≤ (a / b + 1) * 1 := by
        have := Int.mul_le_mul_of_nonneg_left (show (1 : Int) ≤ b by omega) (show 0 ≤ -(a / b + 1) by omega)
        rw [Int.neg_mul, Int.neg_mul] at this; omega
      omega
    · have := div_nonneg' k (Int.le_of_lt hb)
      have := Int.ediv_le_self b k
      omega
  unfold fq
  split
  · exact key a b (by omega)
  · have := key (-a) (-b) (by omega); omega
theorem fr_le {a b : Int} (hb : b ≠ 0) : (fr a b).natAbs ≤ b.natAbs := by
  have h := fr_bounds (a := a) hb
  rcases Int.lt_or_le 0 b with k | k
  · have := h.1 k; omega
  · have := h.2 (by omega); omega
theorem len_mul {x y : Int} : (dig ((x * y).natAbs : Int)).length ≤ (dig (x.natAbs : Int)).length + (dig (y.natAbs : Int)).length := by
  refine dig_len ?_
  have h1 := V_lt (dig_lim (x.natAbs : Int))
  have h2 := V_lt (dig_lim (y.natAbs : Int))
  rw [dig_V (ab_nn _)] at h1 h2
  rw [P9_add, Int.natAbs_mul, Int.natCast_mul]
  have hp := P9_pos (dig (x.natAbs : Int)).length
  have hq := P9_pos (dig (y.natAbs : Int)).length
  have a1 : (x.natAbs : Int) * (y.natAbs : Int) ≤ (x.natAbs : Int) * P9 (dig (y.natAbs : Int)).length := Int.mul_le_mul_of_nonneg_left (by omega) (by omega)
  have a2 : (x.natAbs : Int) * P9 (dig (y.natAbs : Int)).length < P9 (dig (x.natAbs : Int)).length * P9 (dig (y.natAbs : Int)).length := Int.mul_lt_mul_of_pos_right h1 hq
  omega
theorem len_add {x y : Int} {n : Nat} (hx : (dig (x.natAbs : Int)).length ≤ n) (hy : (dig (y.natAbs : Int)).length ≤ n) : (dig ((x + y).natAbs : Int)).length ≤ n + 1 := by
  refine dig_len ?_
  have h1 := V_lt (dig_lim (x.natAbs : Int))
  have h2 := V_lt (dig_lim (y.natAbs : Int))
  rw [dig_V (ab_nn _)] at h1 h2
  have := P9_mono hx
  have := P9_mono hy
  simp only [P9]
  omega

end Go.Proofs.YtfmebdmgnmogaaaGreatDoor
set_option linter.unusedSimpArgs false
set_option linter.unusedVariables false
set_option maxRecDepth 100000
set_option maxHeartbeats 8000000
namespace Go.Proofs.YtfmebdmgnmogaaaGreatDoor
open Go Go.RowKit Hv

theorem fq_pp' {a b : Int} (hb : 0 < b) : fq a b = a / b ∧ fr a b = a % b := by
  unfold fq fr; rw [if_pos hb, if_pos hb]; exact ⟨rfl, rfl⟩
theorem rsigned_f {n : Nat} {b : Bool} {xs : List Int} {z v : Int} (hn : n = xs.length) (hl : xs.length ≤ 1000000) (hx : Lim xs) (hv : V xs = v) (hz : sgnd b v = z) : HCallsD Tryz.prog 71 [] [.raw (.bool b), .sl n false (ints .u32 xs)] (aI z) [] := rsigned_e hn hl hx (by rw [hv, hz])
theorem parts_e {n m : Nat} {xs ys qs rs : List Int} {u v : Int} (hn : n = xs.length) (hm : m = ys.length) (hx : xs = dig u) (hy : ys = dig v) (hu : 0 ≤ u) (hv : 0 < v) (hlx : xs.length ≤ 100000) (hly : ys.length ≤ 100000) (hq : dig (u / v) = qs) (hr : dig (u % v) = rs) :
    HCallsD Tryz.prog 102 [] [.sl n false (ints .u32 xs), .sl m false (ints .u32 ys)] (.tup [.sl qs.length false (ints .u32 qs), .sl rs.length false (ints .u32 rs)]) [] := by subst hq hr; exact parts_c hn hm hx hy hu hv hlx hly
theorem dig_small {v : Int} (h0 : 0 ≤ v) (h : (dig v).length ≤ 2) : v < 1000000000000000000 := (wordV_le h0 h).2

theorem rgcd_c {ba : Bool} {na : Nat} {xa : List Int} {za : Int} {bb : Bool} {nb : Nat} {xb : List Int} {zb : Int} (hba : ba = decide (za < 0)) (hna : na = xa.length) (hxa : xa = dig (za.natAbs : Int)) (hla : xa.length ≤ 100000) (hbb : bb = decide (zb < 0)) (hnb : nb = xb.length) (hxb : xb = dig (zb.natAbs : Int)) (hlb : xb.length ≤ 100000) : HCallsD Tryz.prog 70 [] [.agg [.raw (.bool ba), .sl na false (ints .u32 xa)], .agg [.raw (.bool bb), .sl nb false (ints .u32 xb)]] (aI (gI za zb)) [] := by
  subst hna hnb
  have hg := gI_abs za zb
  rw [hxa] at hla
  rw [hxb] at hlb
  obtain ⟨A, hA⟩ : ∃ A, (za.natAbs : Int) = A := ⟨_, rfl⟩
  obtain ⟨B, hB⟩ : ∃ B, (zb.natAbs : Int) = B := ⟨_, rfl⟩
  have A0 : 0 ≤ A := by omega
  have B0 : 0 ≤ B := by omega
  rw [hA] at hla hg hxa
  rw [hB] at hlb hg hxb
  obtain ⟨G, hG⟩ : ∃ G, gI za zb = G := ⟨_, rfl⟩
  rw [hG] at hg ⊢
  clear hba hbb hA hB hG
  subst hxa hxb
  refine cp2 (rs := [.cell 4 24]) (nt := 54) Tryz.func70 (fun C hP hn => ?_)
  ((repeat' (first | refine gW ?_ | (refine gIf ?_ ?_ <;> (intro hc; try exact gX)) | with_reducible refine br_intro ?_ ?_ | (with_reducible intro _; try exact gX) | with_reducible refine ands_intro ?_ ?_)) <;> (try exact gF))
  refine hwp_loopS (fun p : Int × Int => ⟨lk [(4, .ptr 0 0), (5, .sl (dig p.1).length false (ints .u32 (dig p.1))), (6, .sl (dig p.2).length false (ints .u32 (dig p.2)))],
      hlk [(0, { al := true, live := true, wb := true, elem := 24, sz := 1, cells := [.raw (.bool false), .sl 0 true []] })], 1, 54⟩)
    (fun p => 0 ≤ p.1 ∧ 0 ≤ p.2 ∧ gI p.1 p.2 = G ∧ (dig p.1).length ≤ 100000 ∧ (dig p.2).length ≤ 100000) (fun p => p.2.toNat)
    ⟨(A, B), ⟨A0, B0, hg, hla, hlb⟩, by exact cvS hn (.ptr 0 4 rfl .nil)⟩ ?_
  rintro ⟨x, y⟩ ⟨h1, h2, h3, h4, h5⟩
  simp only at h1 h2 h3 h4 h5
  rcases Int.lt_or_le 0 y with hy | hy
  · have hly : 0 < (dig y).length := dig_len_pos hy
    have r0 := Int.emod_nonneg x (show y ≠ 0 by omega)
    have r1 := Int.emod_lt_of_pos x hy
    have hr : (dig (x % y)).length ≤ 100000 := Nat.le_trans (dig_le (by omega) (by omega)) h5
    rcases Nat.lt_or_ge 2 (dig x).length with kx | kx
    · ((repeat' (first | refine gW ?_ | (refine gIf ?_ ?_ <;> (intro hc; try exact gX)) | with_reducible refine br_intro ?_ ?_ | (with_reducible intro _; try exact gX) | with_reducible refine ands_intro ?_ ?_ | refine cx (parts_e (xs := dig x) (ys := dig y) (by rfl) (by rfl) rfl rfl h1 hy h4 h5 rfl rfl) ?_)) <;> (try exact gF))
      exact ⟨(y, x % y), by simp only; omega, ⟨h2, r0, by simp only; rw [gI_step]; exact h3, h5, hr⟩, by exact cvS hn (.ptr 0 4 rfl .nil)⟩
    · rcases Nat.lt_or_ge 2 (dig y).length with ky | ky
      · ((repeat' (first | refine gW ?_ | (refine gIf ?_ ?_ <;> (intro hc; try exact gX)) | with_reducible refine br_intro ?_ ?_ | (with_reducible intro _; try exact gX) | with_reducible refine ands_intro ?_ ?_ | refine cx (parts_e (xs := dig x) (ys := dig y) (by rfl) (by rfl) rfl rfl h1 hy h4 h5 rfl rfl) ?_)) <;> (try exact gF))
        exact ⟨(y, x % y), by simp only; omega, ⟨h2, r0, by simp only; rw [gI_step]; exact h3, h5, hr⟩, by exact cvS hn (.ptr 0 4 rfl .nil)⟩
      · have w1 := dig_small h1 kx
        have w2 := dig_small h2 ky
        ((repeat' (first | refine gW ?_ | (refine gIf ?_ ?_ <;> (intro hc; try exact gX)) | with_reducible refine br_intro ?_ ?_ | (with_reducible intro _; try exact gX) | with_reducible refine ands_intro ?_ ?_ | refine cx (short_e (xs := dig x) (v := x) (by rfl) (dig_lim _) (dig_V h1) (by omega) (by omega)) ?_ | refine cx (short_e (xs := dig y) (v := y) (by rfl) (dig_lim _) (dig_V h2) (by omega) (by omega)) ?_)) <;> (try exact gF))
        refine hwp_loopS (fun p : Int × Int => ⟨lk [(4, .ptr 0 0), (9, .raw (.int .u64 p.1)), (10, .raw (.int .u64 p.2))], hlk [(0, { al := true, live := true, wb := true, elem := 24, sz := 1, cells := [.raw (.bool false), .sl 0 true []] })], 1, 54⟩)
          (fun p => 0 ≤ p.1 ∧ 0 ≤ p.2 ∧ gI p.1 p.2 = G ∧ p.1 < 18446744073709551616 ∧ p.2 < 18446744073709551616) (fun p => p.2.toNat)
          ⟨(x, y), ⟨h1, h2, h3, by simp only; omega, by simp only; omega⟩, by exact cvS hn (.ptr 0 4 rfl .nil)⟩ ?_
        clear h1 h2 h3 h4 h5 hy hly r0 r1 hr kx ky w1 w2
        rintro ⟨u, v⟩ ⟨h1, h2, h3, h4, h5⟩
        simp only at h1 h2 h3 h4 h5
        rcases Int.lt_or_le 0 v with hv | hv
        · have r0 := Int.emod_nonneg u (show v ≠ 0 by omega)
          have r1 := Int.emod_lt_of_pos u hv
          ((repeat' (first | refine gW ?_ | (refine gIf ?_ ?_ <;> (intro hc; try exact gX)) | with_reducible refine br_intro ?_ ?_ | (with_reducible intro _; try exact gX) | with_reducible refine ands_intro ?_ ?_)) <;> (try exact gF))
          exact ⟨(v, u % v), by simp only; omega, ⟨h2, r0, by simp only; rw [gI_step]; exact h3, h5, by simp only; omega⟩, by exact cvS hn (.ptr 0 4 rfl .nil)⟩
        · have : v = 0 := by omega
          subst this
          rw [gI_zero h1] at h3
          subst h3
          have l3 := dig_len64 h4
          ((repeat' (first | refine gW ?_ | (refine gIf ?_ ?_ <;> (intro hc; try exact gX)) | with_reducible refine br_intro ?_ ?_ | (with_reducible intro _; try exact gX) | with_reducible refine ands_intro ?_ ?_ | refine cx (rlimbs_c h1 h4) ?_ | refine cx (rsigned_f (xs := dig u) (z := u) (by rfl) (by omega) (dig_lim _) (dig_V h1) rfl) ?_)) <;> (try exact gF))
          exact rqq1 (rC ty24)
  · have : y = 0 := by omega
    subst this
    rw [gI_zero h1] at h3
    subst h3
    have hly : (dig 0).length = 0 := dig_len_zero (by omega)
    ((repeat' (first | refine gW ?_ | (refine gIf ?_ ?_ <;> (intro hc; try exact gX)) | with_reducible refine br_intro ?_ ?_ | (with_reducible intro _; try exact gX) | with_reducible refine ands_intro ?_ ?_ | refine cx (rsigned_f (xs := dig x) (z := x) (by rfl) (by omega) (dig_lim _) (dig_V h1) rfl) ?_)) <;> (try exact gF))
    exact rqq1 (rC ty24)
theorem rgcd_e {ba : Bool} {na : Nat} {xa : List Int} {za : Int} {bb : Bool} {nb : Nat} {xb : List Int} {zb : Int} {r : Int} (hba : ba = decide (za < 0)) (hna : na = xa.length) (hxa : xa = dig (za.natAbs : Int)) (hla : xa.length ≤ 100000) (hbb : bb = decide (zb < 0)) (hnb : nb = xb.length) (hxb : xb = dig (zb.natAbs : Int)) (hlb : xb.length ≤ 100000) (hr : gI za zb = r) : HCallsD Tryz.prog 70 [] [.agg [.raw (.bool ba), .sl na false (ints .u32 xa)], .agg [.raw (.bool bb), .sl nb false (ints .u32 xb)]] (aI r) [] := by subst hr; exact rgcd_c hba hna hxa hla hbb hnb hxb hlb

def smallN (k : Int) (b : Bool) (xs : List Int) : Bool := decide ((xs.length : Int) ≤ k) && validB b xs
theorem rsmall_e {b : Bool} {n : Nat} {xs : List Int} {k : Int} {r : Bool} (hn : n = xs.length) (hu : U32 xs) (h0 : 0 ≤ k) (hk : k ≤ 1000000) (hr : smallN k b xs = r) : HCallsD Tryz.prog 44 [] [.agg [.raw (.bool b), .sl n false (ints .u32 xs)], .raw (.int .i64 k)] (.raw (.bool r)) [] := by subst hr; exact rsmall_c hn hu h0 hk
theorem smallN_z {k : Int} {b : Bool} {xs : List Int} (h : smallN k b xs = true) : ∃ z : Int, b = decide (z < 0) ∧ xs = dig (z.natAbs : Int) ∧ (xs.length : Int) ≤ k := by
  unfold smallN at h
  rw [Bool.and_eq_true, decide_eq_true_eq] at h
  have := valid_spec h.2
  exact ⟨zOf b xs, this.2, this.1, h.1⟩
theorem len_gcd {x y : Int} {n : Nat} (hx : (dig (x.natAbs : Int)).length ≤ n) (hy : (dig (y.natAbs : Int)).length ≤ n) : (dig ((gI x y).natAbs : Int)).length ≤ n := by
  have g0 := gI_nn x y
  have e := gI_abs x y
  have h := gI_le (ab_nn x) (ab_nn y)
  rw [e] at h
  rcases h with h | h
  · exact Nat.le_trans (dig_le (by omega) (by omega)) hx
  · exact Nat.le_trans (dig_le (by omega) (by omega)) hy

end Go.Proofs.YtfmebdmgnmogaaaGreatDoor
