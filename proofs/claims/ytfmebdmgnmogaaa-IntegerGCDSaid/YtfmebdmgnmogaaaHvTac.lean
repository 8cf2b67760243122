/- The words that the walks rewrite with, laid once. No statement of its own. -/
import Derived.Test.YtfmebdmgnmogaaaHvWalkB
namespace Go.Proofs.Ytfmebdmgnmogaaa.Hv
open Go Go.RowKit
attribute [push_cast high] gK_tt gK_ff gK_tf gK_ft fm_cons fm_nil mapA_cons mapA_nil lk_cons hlk_cons lk_nil hlk_nil vcOps_nil vcOps_cons vcOps_consD vcG_free vcG_guard vcOp_def covL_cons covH_cons covL_nil covH_nil
attribute [push_cast] decide_eq_true_eq decide_eq_false_iff_not decide_true decide_false Nat.mul_one ints_getD_drop ints_getD Go.IntWalk.i64_in Go.IntWalk.u32_in Go.IntWalk.u64_in List.length_drop List.length_set List.length_append List.length_replicate
  toNat_sub1 toNat_add1 toNat_sub toNat_add Int.toNat_natCast Int.zero_add Int.add_zero Int.toNat_zero Nat.zero_mul Nat.zero_add Nat.add_zero List.drop_zero u64_low i64_high List.take_length Go.IntWalk.rem_in Go.IntWalk.u64_quo Go.IntWalk.u32_quo Go.IntWalk.i64_quo
  Int.tdiv_eq_ediv_of_nonneg Int.sub_zero Nat.sub_zero ints_splice1 ints_snoc ints_toNil List.getElem?_cons_zero List.getElem?_cons_succ ne_eq not_true_eq_false or_self Int.le_refl Nat.le_refl Int.natCast_nonneg gt_iff_lt ge_iff_le false_or or_false or_true true_or
  Bool.true_or Bool.false_or Bool.and_self Bool.or_false Bool.or_true
attribute [push_cast] ren_raw ren_any ren_sl ren_own ren_ptr ren_iptr ren_agg ren1_raw ren1_sl ren1_own ren1_ptr ref_raw ref_any ref_sl ref_own ref_ptr ref_iptr ref_agg ref1_raw ref1_sl ref1_own ref1_ptr ref1_ints sg_nil sg_cons HV.sl.injEq HV.own.injEq HV.raw.injEq not_false_eq_true List.nodup_cons List.nodup_nil HV.agg.injEq List.cons.injEq
end Go.Proofs.Ytfmebdmgnmogaaa.Hv
