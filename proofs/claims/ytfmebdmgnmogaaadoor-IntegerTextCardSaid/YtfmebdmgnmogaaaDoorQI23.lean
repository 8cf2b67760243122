/- Laws of integers: what they answer over lists of limbs. No statement of its own. -/
import Derived.Test.YtfmebdmgnmogaaaDoorQI22
set_option linter.unusedSimpArgs false
set_option linter.unusedVariables false
set_option maxRecDepth 100000
set_option maxHeartbeats 8000000
namespace Go.Proofs.YtfmebdmgnmogaaaDoor
open Go Go.RowKit Hv

theorem valid_aI (z : Int) : validB (decide (z < 0)) (dig (z.natAbs : Int)) = true := by
  have e : zOf (decide (z < 0)) (dig (z.natAbs : Int)) = z := by
    unfold zOf; rw [dig_V (ab_nn z)]; exact sgnd_dec (fun h => ab_neg h) (fun h => ab_pos h)
  unfold validB
  rw [e]
  simp
theorem rvalid_e {b : Bool} {n : Nat} {xs : List Int} {z : Int} {r : Bool} (hb : b = decide (z < 0)) (hn : n = xs.length) (hx : xs = dig (z.natAbs : Int)) (hl : xs.length ≤ 100000) (hr : true = r) : HCallsD Tryd.prog 34 [] [.agg [.raw (.bool b), .sl n false (ints .u32 xs)]] (.raw (.bool r)) [] := by
  subst hr
  have h := rvalid_c (b := b) (n := n) (xs := xs) hn (fun x h => by have := (hx ▸ dig_lim _) x h; omega) (by omega)
  rw [hb, hx, valid_aI] at h
  rw [hb, hx]
  exact h
theorem rfrom64_w {z w : Int} (h : z = w) (h0 : -9223372036854775808 ≤ z) (h1 : z ≤ 9223372036854775807) : HCallsD Tryd.prog 32 [] [.raw (.int .i64 z)] (aI w) [] := h ▸ rfrom64_c h0 h1
theorem divzero_e {ba : Bool} {na : Nat} {xa : List Int} {za : Int} {bb : Bool} {nb : Nat} {xb : List Int} {zb : Int} {z : Int} (hba : ba = decide (za < 0)) (hna : na = xa.length) (hxa : xa = dig (za.natAbs : Int)) (hla : xa.length ≤ 100000) (hbb : bb = decide (zb < 0)) (hnb : nb = xb.length) (hxb : xb = dig (zb.natAbs : Int)) (hlb : xb.length ≤ 100000) (hz : zb = 0) (h0 : 0 = z) : HCallsD Tryd.prog 12 [] [.agg [.raw (.bool ba), .sl na false (ints .u32 xa)], .agg [.raw (.bool bb), .sl nb false (ints .u32 xb)]] (.tup [aI z, aI z, .raw (.int .i64 6)]) [] := by subst h0; exact divzero_c hba hna hxa hla hbb hnb hxb hlb hz

def U32 (xs : List Int) : Prop := ∀ x ∈ xs, 0 ≤ x ∧ x < 4294967296
theorem small1_e {b : Bool} {n : Nat} {xs : List Int} {r : Bool} (hn : n = xs.length) (hu : U32 xs) (hr : smallB b xs = r) : HCallsD Tryd.prog 5 [] [.sl 1 false [.raw (.bool b), .sl n false (ints .u32 xs)]] (.raw (.bool r)) [] := by subst hr; exact small1_c hn hu
theorem small2_e {b c : Bool} {n m : Nat} {xs ys : List Int} {r : Bool} (hn : n = xs.length) (hm : m = ys.length) (hu : U32 xs) (hv : U32 ys) (hr : (smallB b xs && smallB c ys) = r) :
    HCallsD Tryd.prog 5 [] [.sl 2 false [.raw (.bool b), .sl n false (ints .u32 xs), .raw (.bool c), .sl m false (ints .u32 ys)]] (.raw (.bool r)) [] := by subst hr; exact small2_c hn hm hu hv
theorem small3_e {b c d : Bool} {n m l : Nat} {xs ys zs : List Int} {r : Bool} (hn : n = xs.length) (hm : m = ys.length) (hl : l = zs.length) (hu : U32 xs) (hv : U32 ys) (hw : U32 zs) (hr : (smallB b xs && smallB c ys && smallB d zs) = r) :
    HCallsD Tryd.prog 5 [] [.sl 3 false [.raw (.bool b), .sl n false (ints .u32 xs), .raw (.bool c), .sl m false (ints .u32 ys), .raw (.bool d), .sl l false (ints .u32 zs)]] (.raw (.bool r)) [] := by subst hr; exact small3_c hn hm hl hu hv hw
theorem small_z {b : Bool} {xs : List Int} (h : smallB b xs = true) : ∃ z : Int, b = decide (z < 0) ∧ xs = dig (z.natAbs : Int) ∧ xs.length ≤ 16 := by
  unfold smallB at h
  rw [Bool.and_eq_true, decide_eq_true_eq] at h
  have := valid_spec h.2
  exact ⟨zOf b xs, this.2, this.1, by omega⟩
theorem natAbs_le_len {z : Int} {w : Int} (h : z.natAbs ≤ w.natAbs) : (dig (z.natAbs : Int)).length ≤ (dig (w.natAbs : Int)).length := dig_le (by omega) (by omega)
theorem fq_le {a b : Int} (hb : b ≠ 0) : (fq a b).natAbs ≤ a.natAbs := by
  have e := fr_eq a b
  have h := fr_bounds (a := a) hb
  have key : ∀ a b : Int, 0 < b → (a / b).natAbs ≤ a.natAbs := by
    intro a b hb
    obtain ⟨h1, h2⟩ := div_le a hb
    rcases Int.lt_or_le a 0 with k | k
    · have k2 : a / b < 0 := Int.ediv_neg_of_neg_of_pos k hb
      have : a / b * b ≤ a / b * 1 := by
        have := Int.mul_le_mul_of_nonneg_left (show (1 : Int) ≤ b by omega) (show 0 ≤ -(a / b) by omega)
        rw [Int.neg_mul, Int.neg_mul] at this; omega
      have h3 : a < (a / b + 1) * b := h2
      have : (a / b + 1) * b ≤ (a / b + 1) * 1 := by
        have := Int.mul_le_mul_of_nonneg_left (show (1 : Int) ≤ b by omega) (show 0 ≤ -(a / b + 1) by omega)
        rw [Int.neg_mul, Int.neg_mul] at this; omega
      omega
    · have := div_nonneg' k (Int.le_of_lt hb)
      have := Int.ediv_le_self b k
      omega
  unfold fq
  split
  · exact key a b (by omega)
  · have := key (-a) (-b) (by omega); omega
theorem fr_le {a b : Int} (hb : b ≠ 0) : (fr a b).natAbs ≤ b.natAbs := by
  have h := fr_bounds (a := a) hb
  rcases Int.lt_or_le 0 b with k | k
  · have := h.1 k; omega
  · have := h.2 (by omega); omega
theorem len_mul {x y : Int} : (dig ((x * y).natAbs : Int)).length ≤ (dig (x.natAbs : Int)).length + (dig (y.natAbs : Int)).length := by
  refine dig_len ?_
  have h1 := V_lt (dig_lim (x.natAbs : Int))
  have h2 := V_lt (dig_lim (y.natAbs : Int))
  rw [dig_V (ab_nn _)] at h1 h2
  rw [P9_add, Int.natAbs_mul, Int.natCast_mul]
  have hp := P9_pos (dig (x.natAbs : Int)).length
  have hq := P9_pos (dig (y.natAbs : Int)).length
  have a1 : (x.natAbs : Int) * (y.natAbs : Int) ≤ (x.natAbs : Int) * P9 (dig (y.natAbs : Int)).length := Int.mul_le_mul_of_nonneg_left (by omega) (by omega)
  have a2 : (x.natAbs : Int) * P9 (dig (y.natAbs : Int)).length < P9 (dig (x.natAbs : Int)).length * P9 (dig (y.natAbs : Int)).length := Int.mul_lt_mul_of_pos_right h1 hq
  omega
theorem len_add {x y : Int} {n : Nat} (hx : (dig (x.natAbs : Int)).length ≤ n) (hy : (dig (y.natAbs : Int)).length ≤ n) : (dig ((x + y).natAbs : Int)).length ≤ n + 1 := by
  refine dig_len ?_
  have h1 := V_lt (dig_lim (x.natAbs : Int))
  have h2 := V_lt (dig_lim (y.natAbs : Int))
  rw [dig_V (ab_nn _)] at h1 h2
  have := P9_mono hx
  have := P9_mono hy
  simp only [P9]
  omega

end Go.Proofs.YtfmebdmgnmogaaaDoor
