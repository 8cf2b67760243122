/- The words that the walks rewrite with, laid once. No statement of its own. -/
import Derived.Test.YtfmebdmgnmogaaaGreatDoorQHvRules
import Derived.Test.YtfmebdmgnmogaaaGreatDoorProg
import Derived.KernelRfl
import Derived.WalkKit
import Derived.ProofKit
import Derived.OpenShut
import Derived.ShutString
import Derived.ChangeOld
import Derived.Below
import Derived.SizedLaws
import Derived.Lib.SmallJoins
import Derived.Lib.LaidTab
import Derived.Lib.ItoaNum
set_option linter.unusedVariables false
set_option linter.unusedSimpArgs false
namespace Go.Proofs.YtfmebdmgnmogaaaGreatDoor.Hv
open Go Go.RowKit
attribute [push_cast high] gK_tt gK_ff gK_tf gK_ft fm_cons fm_nil mapA_cons mapA_nil lk_cons hlk_cons lk_nil hlk_nil vcOps_nil vcOps_cons vcG_free covL_cons covH_cons covL_nil covH_nil
attribute [push_cast] decide_eq_true_eq decide_eq_false_iff_not decide_true decide_false Nat.mul_one ints_getD_drop ints_getD Go.IntWalk.i64_in Go.IntWalk.u32_in Go.IntWalk.u64_in List.length_drop List.length_set List.length_append List.length_replicate
  toNat_sub1 toNat_add1 toNat_sub toNat_add Int.toNat_natCast Int.zero_add Int.add_zero Int.toNat_zero Nat.zero_mul Nat.zero_add Nat.add_zero List.drop_zero u64_low i64_high List.take_length Go.IntWalk.rem_in Go.IntWalk.u64_quo Go.IntWalk.u32_quo Go.IntWalk.i64_quo
  Int.tdiv_eq_ediv_of_nonneg Int.sub_zero Nat.sub_zero ints_splice1 ints_snoc ints_toNil List.getElem?_cons_zero List.getElem?_cons_succ ne_eq not_true_eq_false or_self Int.le_refl Nat.le_refl Int.natCast_nonneg gt_iff_lt ge_iff_le false_or or_false or_true true_or
  Bool.true_or Bool.false_or Bool.and_self Bool.or_false Bool.or_true
attribute [push_cast] ren_raw ren_any ren_sl ren_own ren_ptr ren_iptr ren_agg ren1_raw ren1_sl ren1_own ren1_ptr ref_raw ref_any ref_sl ref_own ref_ptr ref_iptr ref_agg ref1_raw ref1_sl ref1_own ref1_ptr ref1_ints sg_nil sg_cons HV.sl.injEq HV.own.injEq HV.raw.injEq not_false_eq_true List.nodup_cons List.nodup_nil HV.agg.injEq List.cons.injEq
/-- What is asked of an operation, and what follows it. -/
def AndS (a b : Prop) : Prop := a ∧ b
def Br (a b : Prop) : Prop := a ∧ b
theorem ands_intro {a b : Prop} (h : a) (k : b) : AndS a b := ⟨h, k⟩
theorem br_intro {a b : Prop} (h : a) (k : b) : Br a b := ⟨h, k⟩
theorem br_true_l (b : Prop) : Br True b = b := by simp [Br]
theorem br_true_r (a : Prop) : Br a True = a := by simp [Br]
theorem ands_true (b : Prop) : AndS True b = b := by simp [AndS]
theorem br_dt (p : Prop) [Decidable p] (A B : Prop) (d : Dum2 A B) : gK (decide p) true A B d = Br (p → A) (¬ p → B) := gK_dt p A B d
theorem br_df (p : Prop) [Decidable p] (A B : Prop) (d : Dum2 A B) : gK (decide p) false A B d = Br (¬ p → A) (p → B) := gK_df p A B d
theorem br_ndt (p : Prop) [Decidable p] (A B : Prop) (d : Dum2 A B) : gK (!decide p) true A B d = Br (¬ p → A) (p → B) := gK_ndt p A B d
theorem br_ndf (p : Prop) [Decidable p] (A B : Prop) (d : Dum2 A B) : gK (!decide p) false A B d = Br (p → A) (¬ p → B) := gK_ndf p A B d
theorem vcOps_consS (P : Program) (Γ : FuncId → Option Nat) (ops : Array Oper) (base : Nat) (k : Nat) (o : Oper) (l : List Oper) (G : List (Nat × Option Tmp)) (L : List (Nat × Foot)) (st : HS) (Q : HS → Prop) :
    vcOps P Γ ops base true k (o :: l) G L st Q = vcG P Γ G (base + 4 * k) o st fun st' ft => AndS (chk ops k L ft = true) (vcOps P Γ ops base true (k + 1) l ((k, o.dst) :: G) ((k, ft) :: L) st' Q) := vcOps_consD P Γ ops base k o l G L st Q
theorem vcG_guardS (P : Program) (Γ : FuncId → Option Nat) (G : List (Nat × Option Tmp)) (i : Nat) (d : Option Tmp) (op : Op) (t : TypeId) (pos : String) (af : Array Edge) (j : Nat) (want : Bool) (st : HS) (K : HS → Foot → Prop) :
    vcG P Γ G i ⟨d, op, t, pos, af, some (j, want)⟩ st K = match lkD G j with
    | none => False
    | some d' =>
      match st.fr d' with
      | .raw (.bool b) => gK b want (vcOp P Γ i op d { st with fr := upd st.fr d' (.raw (.bool want)) } K) (AndS (dOK d st.nt) (K (({ st with fr := upd st.fr d' (.raw (.bool (!want))) } : HS).app d (.raw undef) []) ⟨[], []⟩)) (dum2 _ _)
      | .raw (.tuple _) => AndS (dOK d st.nt) (K (st.app d (.raw undef) []) ⟨[], []⟩)
      | _ => False := rfl
theorem vcOp_defS (P : Program) (Γ : FuncId → Option Nat) (i : Nat) (op : Op) (dst : Option Tmp) (st : HS) (K : HS → Foot → Prop) : vcOp P Γ i op dst st K =
  match opEff P Γ i op st.fr st.hp with
  | none => False
  | some E => AndS (dOK dst st.nt) (AndS E.side
    (match E.res with
    | .val x wr => K (st.app dst x wr) ⟨E.rd, E.wr⟩
    | .call f args wr => HCallEx P f args (fun x => K (st.app dst x wr) ⟨E.rd, E.wr⟩) (dum3 _)
    | .callB f bid boff b args wr => HCallExB P f b args (fun x cs => K (st.app dst x (wr ++ [backB st.hp bid boff cs])) ⟨E.rd, E.wr⟩) (dum3 _))) := rfl
attribute [push_cast high] vcOps_consS vcG_guardS vcOp_defS ands_true br_true_l br_true_r
attribute [push_cast] br_dt br_df br_ndt br_ndf
attribute [irreducible] AndS Br
/-- What follows a region. (The last argument keeps a rewriter out.) -/
def DumQ (Q : Exit → HS → Prop) : Type := Unit
def dumQ (Q : Exit → HS → Prop) : DumQ Q := ()
def Kp (Q : Exit → HS → Prop) (_ : DumQ Q) (s : HS) : Prop := Q .normal s
theorem kp_go {Q : Exit → HS → Prop} {d : DumQ Q} {s : HS} (h : Q .normal s) : Kp Q d s := h
theorem region0 {C : Ctx} {st : HS} {P : Program} {Γ : FuncId → Option Nat} (hP : C.P = P) {id : Nat} {ops : List Oper} {Q : Exit → HS → Prop}
    (h : vcOps P Γ ops.toArray st.nx false 0 ops [] [] (st.adv (4 * ops.length)) (Kp Q (dumQ Q))) : hwp C (.region id ops.toArray false) Q st := by
  subst hP
  have h' : vcOps C.P Γ ops.toArray st.nx false 0 ops [] [] (st.adv (4 * ops.length)) (fun s => Q .normal s) := h
  exact hwp_region (Γ := Γ) (by simp) (by simpa using h')
theorem region0D {C : Ctx} {st : HS} {P : Program} {Γ : FuncId → Option Nat} (hP : C.P = P) {id : Nat} {ops : List Oper} {Q : Exit → HS → Prop} (hm : P.follows .mixedOrders = true) (hB : Region.lexB .any ops.toArray = true)
    (h : vcOps P Γ ops.toArray st.nx true 0 ops [] [] (st.adv (4 * ops.length)) (Kp Q (dumQ Q))) : hwp C (.region id ops.toArray true) Q st := by
  subst hP
  have h' : vcOps C.P Γ ops.toArray st.nx true 0 ops [] [] (st.adv (4 * ops.length)) (fun s => Q .normal s) := h
  exact hwp_region (Γ := Γ) (fun _ => ⟨hm, hB⟩) (by simpa using h')
def hwpIf (C : Ctx) (t : Bool) (x y : Code) (Q : Exit → HS → Prop) (st : HS) : Prop := (t = true → hwp C x Q st) ∧ (t = false → hwp C y Q st)
theorem hwp_if {C : Ctx} {st : HS} {c : Operand} {x y : Code} {Q : Exit → HS → Prop} {t : Bool} (hc : ev st.fr c = .raw (.bool t)) (h : hwpIf C t x y Q st) : hwpCond C c x y Q st := hwp_cond hc h.1 h.2
theorem if_t {C : Ctx} {st : HS} {x y : Code} {Q : Exit → HS → Prop} (h : hwp C x Q st) : hwpIf C true x y Q st := ⟨fun _ => h, fun h => by cases h⟩
theorem if_f {C : Ctx} {st : HS} {x y : Code} {Q : Exit → HS → Prop} (h : hwp C y Q st) : hwpIf C false x y Q st := ⟨fun h => (by cases h), fun _ => h⟩
theorem vgo {P : Program} {Γ : FuncId → Option Nat} {ops : Array Oper} {base k : Nat} {draw : Bool} {l : List Oper} {G : List (Nat × Option Tmp)} {L : List (Nat × Foot)} {st : HS} {Q : HS → Prop} (h : vcOps P Γ ops base draw k l G L st Q) : vcOps P Γ ops base draw k l G L st Q := h
theorem vgoD {P : Program} {Γ : FuncId → Option Nat} {ops : Array Oper} {base k k' : Nat} {draw : Bool} {l : List Oper} {G : List (Nat × Option Tmp)} {L L' : List (Nat × Foot)} {ft : Foot} {ops' : Array Oper} {st : HS} {Q : HS → Prop} (h : AndS (chk ops' k' L' ft = true) (vcOps P Γ ops base draw k l G L st Q)) : AndS (chk ops' k' L' ft = true) (vcOps P Γ ops base draw k l G L st Q) := h
structure Hid (p : Prop) : Prop where
  out : p
/-- A walk as far as it goes by itself. -/
theorem gW {A B : Prop} (k : B) (h : Hid B → A := by
  intro hR
  (first | (with_reducible first | refine hwp_seq ?_ | refine kp_go ?_ | refine hwp_block ?_ | refine hwp_skip ?_ | refine hwp_exit ?_ | refine hwp_label ?_ | refine hwp_ret ?_ | refine normal_then ?_ | refine exit_then ?_ | refine ret_then ?_ | refine normal_in ?_ | refine ret_in ?_ | refine exit_in ?_ | refine exit_out rfl ?_ | refine un_succ ?_ | refine if_t ?_ | refine if_f ?_) | ((with_reducible first | refine region0 (Γ := fun _ => none) hP ?_ | refine region0D (Γ := fun _ => none) hP follows_mixed (by kernel_rfl) ?_ | refine vgo ?_ | refine vgoD ?_); simp +contextual (maxSteps := 1000000) (disch := omega) only [push_cast, reduceCtorEq, Nat.reduceAdd, Nat.reduceMul, Nat.reduceEqDiff, ↓reduceIte, Nat.reduceLT, Nat.reduceLeDiff, Int.reduceToNat, Int.reduceLT, Int.reduceLE, Int.reduceEq, Int.reduceNeg, Int.reduceAdd, Int.reduceSub, Int.reduceMul]) | ((with_reducible refine hwp_cond_pre ?_); refine hwp_if rfl ?_) | refine ands_intro (by first | omega | rfl | decide | kernel_rfl) ?_)
  repeat (first | (with_reducible first | refine hwp_seq ?_ | refine kp_go ?_ | refine hwp_block ?_ | refine hwp_skip ?_ | refine hwp_exit ?_ | refine hwp_label ?_ | refine hwp_ret ?_ | refine normal_then ?_ | refine exit_then ?_ | refine ret_then ?_ | refine normal_in ?_ | refine ret_in ?_ | refine exit_in ?_ | refine exit_out rfl ?_ | refine un_succ ?_ | refine if_t ?_ | refine if_f ?_) | ((with_reducible first | refine region0 (Γ := fun _ => none) hP ?_ | refine region0D (Γ := fun _ => none) hP follows_mixed (by kernel_rfl) ?_ | refine vgo ?_ | refine vgoD ?_); simp +contextual (maxSteps := 1000000) (disch := omega) only [push_cast, reduceCtorEq, Nat.reduceAdd, Nat.reduceMul, Nat.reduceEqDiff, ↓reduceIte, Nat.reduceLT, Nat.reduceLeDiff, Int.reduceToNat, Int.reduceLT, Int.reduceLE, Int.reduceEq, Int.reduceNeg, Int.reduceAdd, Int.reduceSub, Int.reduceMul]) | ((with_reducible refine hwp_cond_pre ?_); refine hwp_if rfl ?_) | refine ands_intro (by first | omega | rfl | decide | kernel_rfl) ?_)
  exact hR.out) : A := h ⟨k⟩
theorem gWB {A B : Prop} (k : B) (h : Hid B → A := by
  intro hR
  (first | (with_reducible first | refine hwp_seq ?_ | refine kp_go ?_ | refine hwp_block ?_ | refine hwp_skip ?_ | refine hwp_exit ?_ | refine hwp_label ?_ | refine hwp_ret ?_ | refine normal_then ?_ | refine exit_then ?_ | refine ret_then ?_ | refine normal_in ?_ | refine ret_in ?_ | refine exit_in ?_ | refine exit_out rfl ?_ | refine un_succ ?_ | refine if_t ?_ | refine if_f ?_) | ((with_reducible first | refine region0 (Γ := (fun f => if f = 121 then some 0 else if f = 122 then some 0 else none)) hP ?_ | refine region0D (Γ := (fun f => if f = 121 then some 0 else if f = 122 then some 0 else none)) hP follows_mixed (by kernel_rfl) ?_ | refine vgo ?_ | refine vgoD ?_); simp +contextual (maxSteps := 1000000) (disch := omega) only [push_cast, reduceCtorEq, Nat.reduceAdd, Nat.reduceMul, Nat.reduceEqDiff, ↓reduceIte, Nat.reduceLT, Nat.reduceLeDiff, Int.reduceToNat, Int.reduceLT, Int.reduceLE, Int.reduceEq, Int.reduceNeg, Int.reduceAdd, Int.reduceSub, Int.reduceMul]) | ((with_reducible refine hwp_cond_pre ?_); refine hwp_if rfl ?_) | refine ands_intro (by first | omega | rfl | decide | kernel_rfl) ?_)
  repeat (first | (with_reducible first | refine hwp_seq ?_ | refine kp_go ?_ | refine hwp_block ?_ | refine hwp_skip ?_ | refine hwp_exit ?_ | refine hwp_label ?_ | refine hwp_ret ?_ | refine normal_then ?_ | refine exit_then ?_ | refine ret_then ?_ | refine normal_in ?_ | refine ret_in ?_ | refine exit_in ?_ | refine exit_out rfl ?_ | refine un_succ ?_ | refine if_t ?_ | refine if_f ?_) | ((with_reducible first | refine region0 (Γ := (fun f => if f = 121 then some 0 else if f = 122 then some 0 else none)) hP ?_ | refine region0D (Γ := (fun f => if f = 121 then some 0 else if f = 122 then some 0 else none)) hP follows_mixed (by kernel_rfl) ?_ | refine vgo ?_ | refine vgoD ?_); simp +contextual (maxSteps := 1000000) (disch := omega) only [push_cast, reduceCtorEq, Nat.reduceAdd, Nat.reduceMul, Nat.reduceEqDiff, ↓reduceIte, Nat.reduceLT, Nat.reduceLeDiff, Int.reduceToNat, Int.reduceLT, Int.reduceLE, Int.reduceEq, Int.reduceNeg, Int.reduceAdd, Int.reduceSub, Int.reduceMul]) | ((with_reducible refine hwp_cond_pre ?_); refine hwp_if rfl ?_) | refine ands_intro (by first | omega | rfl | decide | kernel_rfl) ?_)
  exact hR.out) : A := h ⟨k⟩
theorem gWx {A B : Prop} (k : B) (h : Hid B → A := by
  intro hR
  (first | (with_reducible first | refine hwp_seq ?_ | refine kp_go ?_ | refine hwp_block ?_ | refine hwp_skip ?_ | refine hwp_exit ?_ | refine hwp_label ?_ | refine hwp_ret ?_ | refine normal_then ?_ | refine exit_then ?_ | refine ret_then ?_ | refine normal_in ?_ | refine ret_in ?_ | refine exit_in ?_ | refine exit_out rfl ?_ | refine un_succ ?_ | refine if_t ?_ | refine if_f ?_) | ((with_reducible first | refine region0 (Γ := fun _ => none) hP ?_ | refine region0D (Γ := fun _ => none) hP follows_mixed (by kernel_rfl) ?_ | refine vgo ?_ | refine vgoD ?_); simp +contextual (maxSteps := 1000000) (disch := omega) only [push_cast, reduceCtorEq, Nat.reduceAdd, Nat.reduceMul, Nat.reduceEqDiff, ↓reduceIte, Nat.reduceLT, Nat.reduceLeDiff, Int.reduceToNat, Int.reduceLT, Int.reduceLE, Int.reduceEq, Int.reduceNeg, Int.reduceAdd, Int.reduceSub, Int.reduceMul, hXx]) | ((with_reducible refine hwp_cond_pre ?_); refine hwp_if rfl ?_) | refine ands_intro (by first | omega | rfl | decide | kernel_rfl) ?_)
  repeat (first | (with_reducible first | refine hwp_seq ?_ | refine kp_go ?_ | refine hwp_block ?_ | refine hwp_skip ?_ | refine hwp_exit ?_ | refine hwp_label ?_ | refine hwp_ret ?_ | refine normal_then ?_ | refine exit_then ?_ | refine ret_then ?_ | refine normal_in ?_ | refine ret_in ?_ | refine exit_in ?_ | refine exit_out rfl ?_ | refine un_succ ?_ | refine if_t ?_ | refine if_f ?_) | ((with_reducible first | refine region0 (Γ := fun _ => none) hP ?_ | refine region0D (Γ := fun _ => none) hP follows_mixed (by kernel_rfl) ?_ | refine vgo ?_ | refine vgoD ?_); simp +contextual (maxSteps := 1000000) (disch := omega) only [push_cast, reduceCtorEq, Nat.reduceAdd, Nat.reduceMul, Nat.reduceEqDiff, ↓reduceIte, Nat.reduceLT, Nat.reduceLeDiff, Int.reduceToNat, Int.reduceLT, Int.reduceLE, Int.reduceEq, Int.reduceNeg, Int.reduceAdd, Int.reduceSub, Int.reduceMul, hXx]) | ((with_reducible refine hwp_cond_pre ?_); refine hwp_if rfl ?_) | refine ands_intro (by first | omega | rfl | decide | kernel_rfl) ?_)
  exact hR.out) : A := h ⟨k⟩
theorem gWBx {A B : Prop} (k : B) (h : Hid B → A := by
  intro hR
  (first | (with_reducible first | refine hwp_seq ?_ | refine kp_go ?_ | refine hwp_block ?_ | refine hwp_skip ?_ | refine hwp_exit ?_ | refine hwp_label ?_ | refine hwp_ret ?_ | refine normal_then ?_ | refine exit_then ?_ | refine ret_then ?_ | refine normal_in ?_ | refine ret_in ?_ | refine exit_in ?_ | refine exit_out rfl ?_ | refine un_succ ?_ | refine if_t ?_ | refine if_f ?_) | ((with_reducible first | refine region0 (Γ := (fun f => if f = 121 then some 0 else if f = 122 then some 0 else none)) hP ?_ | refine region0D (Γ := (fun f => if f = 121 then some 0 else if f = 122 then some 0 else none)) hP follows_mixed (by kernel_rfl) ?_ | refine vgo ?_ | refine vgoD ?_); simp +contextual (maxSteps := 1000000) (disch := omega) only [push_cast, reduceCtorEq, Nat.reduceAdd, Nat.reduceMul, Nat.reduceEqDiff, ↓reduceIte, Nat.reduceLT, Nat.reduceLeDiff, Int.reduceToNat, Int.reduceLT, Int.reduceLE, Int.reduceEq, Int.reduceNeg, Int.reduceAdd, Int.reduceSub, Int.reduceMul, hXx]) | ((with_reducible refine hwp_cond_pre ?_); refine hwp_if rfl ?_) | refine ands_intro (by first | omega | rfl | decide | kernel_rfl) ?_)
  repeat (first | (with_reducible first | refine hwp_seq ?_ | refine kp_go ?_ | refine hwp_block ?_ | refine hwp_skip ?_ | refine hwp_exit ?_ | refine hwp_label ?_ | refine hwp_ret ?_ | refine normal_then ?_ | refine exit_then ?_ | refine ret_then ?_ | refine normal_in ?_ | refine ret_in ?_ | refine exit_in ?_ | refine exit_out rfl ?_ | refine un_succ ?_ | refine if_t ?_ | refine if_f ?_) | ((with_reducible first | refine region0 (Γ := (fun f => if f = 121 then some 0 else if f = 122 then some 0 else none)) hP ?_ | refine region0D (Γ := (fun f => if f = 121 then some 0 else if f = 122 then some 0 else none)) hP follows_mixed (by kernel_rfl) ?_ | refine vgo ?_ | refine vgoD ?_); simp +contextual (maxSteps := 1000000) (disch := omega) only [push_cast, reduceCtorEq, Nat.reduceAdd, Nat.reduceMul, Nat.reduceEqDiff, ↓reduceIte, Nat.reduceLT, Nat.reduceLeDiff, Int.reduceToNat, Int.reduceLT, Int.reduceLE, Int.reduceEq, Int.reduceNeg, Int.reduceAdd, Int.reduceSub, Int.reduceMul, hXx]) | ((with_reducible refine hwp_cond_pre ?_); refine hwp_if rfl ?_) | refine ands_intro (by first | omega | rfl | decide | kernel_rfl) ?_)
  exact hR.out) : A := h ⟨k⟩
theorem gS {A B : Prop} (k : B) (h : A = B := by conv => lhs; simp +contextual (maxSteps := 1000000) (disch := omega) only [push_cast, reduceCtorEq, Nat.reduceAdd, Nat.reduceMul, Nat.reduceEqDiff, ↓reduceIte, Nat.reduceLT, Nat.reduceLeDiff, Int.reduceToNat, Int.reduceLT, Int.reduceLE, Int.reduceEq, Int.reduceNeg, Int.reduceAdd, Int.reduceSub, Int.reduceMul]) : A := h ▸ k
/-- Two ways. -/
theorem gIf {C : Ctx} {st : HS} {x y : Code} {Q : Exit → HS → Prop} {t : Bool} {p q : Prop} (hx : p → hwp C x Q st) (hy : q → hwp C y Q st)
    (h1 : (t = true) = p := by first | (conv => lhs; simp only [decide_eq_true_eq, decide_eq_false_iff_not, Bool.not_eq_true', Bool.not_eq_false', beq_iff_eq, beq_eq_false_iff_ne, ne_eq, Decidable.not_not, Bool.and_eq_true, Bool.or_eq_true, Bool.or_eq_false_iff]) | rfl) (h2 : (t = false) = q := by first | (conv => lhs; simp only [decide_eq_true_eq, decide_eq_false_iff_not, Bool.not_eq_true', Bool.not_eq_false', beq_iff_eq, beq_eq_false_iff_ne, ne_eq, Decidable.not_not, Bool.and_eq_true, Bool.or_eq_true, Bool.or_eq_false_iff]) | rfl) : hwpIf C t x y Q st := ⟨fun h => hx (h1 ▸ h), fun h => hy (h2 ▸ h)⟩
theorem gX {A : Prop} (h : A := by exfalso; omega) : A := h
theorem gF {A : Prop} (h : A := by (repeat' (first | with_reducible apply And.intro | intro _)) <;> first | omega | trivial | rfl | decide | kernel_rfl) : A := h
theorem cx {P : Program} {f : FuncId} {args : List HV} {r : HV} {K : HV → Prop} {d : Dum3 K} (h : HCallsD P f [] args r []) (k : K r) : HCallEx P f args K d := hcall_ex h k
theorem cxB {P : Program} {f : FuncId} {b b' : HBlk} {args : List HV} {r : HV} {cs : List HV} {K : HV → List HV → Prop} {d : Dum3 K} (h : HCallsD P f [b] args r [b']) (k : K r cs) (hb : b' = { b with cells := cs } := by rfl)
    (h1 : cs.length = b.cells.length := by simp only [ints_length, List.length_take, List.length_drop]; omega) (h2 : ∀ c ∈ cs, c.flat = true := by exact ints_flat _ _) (h3 : r.flat = true := by rfl) : HCallExB P f b args K d := hcall_exB h hb h1 h2 h3 k
/-- A cover: which block is told by slots. -/
theorem cvS {C : Ctx} (hn : C.n0 = 0) {st : HS} {s : List (Nat × Nat)} {L : List (Nat × HV)} {H : List (Nat × HBlk)} {nx : Nat} {nt : Nat} (hs : Slots st s) (h7 : nt = st.nt := by rfl)
    (h3 : (H.map fun p => sg s p.1).Nodup := by (simp (disch := omega) only [push_cast, reduceCtorEq, Nat.reduceAdd, Nat.reduceMul, Nat.reduceEqDiff, ↓reduceIte, Nat.reduceLT, Nat.reduceLeDiff, Int.reduceToNat, Int.reduceLT, Int.reduceLE, Int.reduceEq, Int.reduceNeg, Int.reduceAdd, Int.reduceSub, Int.reduceMul] <;> ((repeat' with_reducible apply And.intro) <;> (first | rfl | omega | (rw [List.take_of_length_le (by first | omega | (simp; done) | (simp; omega))]; done) | (rw [List.take_of_length_le]; simp only [List.length_take, List.length_drop, List.length_append, List.length_set, List.length_replicate, List.length_cons, List.length_nil, limbsN_length, Nat.le_refl]; done) | (simp only [List.length_take, List.length_drop, List.length_append, List.length_set, List.length_replicate, List.length_cons, List.length_nil, limbsN_length]; done) | (simp only [List.length_take, List.length_drop, List.length_append, List.length_set, List.length_replicate, List.length_cons, List.length_nil, limbsN_length]; omega) | (simp only [Value.bool.injEq, Value.int.injEq, decide_eq_decide, true_and, List.length_take, List.length_drop, List.length_append, List.length_set, List.length_replicate, List.length_cons, List.length_nil, limbsN_length]; omega) | skip)))) (h1 : CovL st (hlk H) (sg s) L := by (simp (disch := omega) only [push_cast, reduceCtorEq, Nat.reduceAdd, Nat.reduceMul, Nat.reduceEqDiff, ↓reduceIte, Nat.reduceLT, Nat.reduceLeDiff, Int.reduceToNat, Int.reduceLT, Int.reduceLE, Int.reduceEq, Int.reduceNeg, Int.reduceAdd, Int.reduceSub, Int.reduceMul] <;> ((repeat' with_reducible apply And.intro) <;> (first | rfl | omega | (rw [List.take_of_length_le (by first | omega | (simp; done) | (simp; omega))]; done) | (rw [List.take_of_length_le]; simp only [List.length_take, List.length_drop, List.length_append, List.length_set, List.length_replicate, List.length_cons, List.length_nil, limbsN_length, Nat.le_refl]; done) | (simp only [List.length_take, List.length_drop, List.length_append, List.length_set, List.length_replicate, List.length_cons, List.length_nil, limbsN_length]; done) | (simp only [List.length_take, List.length_drop, List.length_append, List.length_set, List.length_replicate, List.length_cons, List.length_nil, limbsN_length]; omega) | (simp only [Value.bool.injEq, Value.int.injEq, decide_eq_decide, true_and, List.length_take, List.length_drop, List.length_append, List.length_set, List.length_replicate, List.length_cons, List.length_nil, limbsN_length]; omega) | skip)))) (h2 : CovH st (hlk H) (sg s) H := by (simp (disch := omega) only [push_cast, reduceCtorEq, Nat.reduceAdd, Nat.reduceMul, Nat.reduceEqDiff, ↓reduceIte, Nat.reduceLT, Nat.reduceLeDiff, Int.reduceToNat, Int.reduceLT, Int.reduceLE, Int.reduceEq, Int.reduceNeg, Int.reduceAdd, Int.reduceSub, Int.reduceMul] <;> ((repeat' with_reducible apply And.intro) <;> (first | rfl | omega | (rw [List.take_of_length_le (by first | omega | (simp; done) | (simp; omega))]; done) | (rw [List.take_of_length_le]; simp only [List.length_take, List.length_drop, List.length_append, List.length_set, List.length_replicate, List.length_cons, List.length_nil, limbsN_length, Nat.le_refl]; done) | (simp only [List.length_take, List.length_drop, List.length_append, List.length_set, List.length_replicate, List.length_cons, List.length_nil, limbsN_length]; done) | (simp only [List.length_take, List.length_drop, List.length_append, List.length_set, List.length_replicate, List.length_cons, List.length_nil, limbsN_length]; omega) | (simp only [Value.bool.injEq, Value.int.injEq, decide_eq_decide, true_and, List.length_take, List.length_drop, List.length_append, List.length_set, List.length_replicate, List.length_cons, List.length_nil, limbsN_length]; omega) | skip)))) : Cov C.n0 st ⟨lk L, hlk H, nx, nt⟩ := cov_slots hn L H nx h7 hs h3 h1 h2
theorem cvG {C : Ctx} (hn : C.n0 = 0) {st : HS} (s : List (Nat × Nat)) {L : List (Nat × HV)} {H : List (Nat × HBlk)} {nx : Nat} {nt : Nat} (h7 : nt = st.nt := by rfl)
    (h3 : (H.map fun p => sg s p.1).Nodup := by (simp (disch := omega) only [push_cast, reduceCtorEq, Nat.reduceAdd, Nat.reduceMul, Nat.reduceEqDiff, ↓reduceIte, Nat.reduceLT, Nat.reduceLeDiff, Int.reduceToNat, Int.reduceLT, Int.reduceLE, Int.reduceEq, Int.reduceNeg, Int.reduceAdd, Int.reduceSub, Int.reduceMul] <;> ((repeat' with_reducible apply And.intro) <;> (first | rfl | omega | (rw [List.take_of_length_le (by first | omega | (simp; done) | (simp; omega))]; done) | (rw [List.take_of_length_le]; simp only [List.length_take, List.length_drop, List.length_append, List.length_set, List.length_replicate, List.length_cons, List.length_nil, limbsN_length, Nat.le_refl]; done) | (simp only [List.length_take, List.length_drop, List.length_append, List.length_set, List.length_replicate, List.length_cons, List.length_nil, limbsN_length]; done) | (simp only [List.length_take, List.length_drop, List.length_append, List.length_set, List.length_replicate, List.length_cons, List.length_nil, limbsN_length]; omega) | (simp only [Value.bool.injEq, Value.int.injEq, decide_eq_decide, true_and, List.length_take, List.length_drop, List.length_append, List.length_set, List.length_replicate, List.length_cons, List.length_nil, limbsN_length]; omega) | skip)))) (h1 : CovL st (hlk H) (sg s) L := by (simp (disch := omega) only [push_cast, reduceCtorEq, Nat.reduceAdd, Nat.reduceMul, Nat.reduceEqDiff, ↓reduceIte, Nat.reduceLT, Nat.reduceLeDiff, Int.reduceToNat, Int.reduceLT, Int.reduceLE, Int.reduceEq, Int.reduceNeg, Int.reduceAdd, Int.reduceSub, Int.reduceMul] <;> ((repeat' with_reducible apply And.intro) <;> (first | rfl | omega | (rw [List.take_of_length_le (by first | omega | (simp; done) | (simp; omega))]; done) | (rw [List.take_of_length_le]; simp only [List.length_take, List.length_drop, List.length_append, List.length_set, List.length_replicate, List.length_cons, List.length_nil, limbsN_length, Nat.le_refl]; done) | (simp only [List.length_take, List.length_drop, List.length_append, List.length_set, List.length_replicate, List.length_cons, List.length_nil, limbsN_length]; done) | (simp only [List.length_take, List.length_drop, List.length_append, List.length_set, List.length_replicate, List.length_cons, List.length_nil, limbsN_length]; omega) | (simp only [Value.bool.injEq, Value.int.injEq, decide_eq_decide, true_and, List.length_take, List.length_drop, List.length_append, List.length_set, List.length_replicate, List.length_cons, List.length_nil, limbsN_length]; omega) | skip)))) (h2 : CovH st (hlk H) (sg s) H := by (simp (disch := omega) only [push_cast, reduceCtorEq, Nat.reduceAdd, Nat.reduceMul, Nat.reduceEqDiff, ↓reduceIte, Nat.reduceLT, Nat.reduceLeDiff, Int.reduceToNat, Int.reduceLT, Int.reduceLE, Int.reduceEq, Int.reduceNeg, Int.reduceAdd, Int.reduceSub, Int.reduceMul] <;> ((repeat' with_reducible apply And.intro) <;> (first | rfl | omega | (rw [List.take_of_length_le (by first | omega | (simp; done) | (simp; omega))]; done) | (rw [List.take_of_length_le]; simp only [List.length_take, List.length_drop, List.length_append, List.length_set, List.length_replicate, List.length_cons, List.length_nil, limbsN_length, Nat.le_refl]; done) | (simp only [List.length_take, List.length_drop, List.length_append, List.length_set, List.length_replicate, List.length_cons, List.length_nil, limbsN_length]; done) | (simp only [List.length_take, List.length_drop, List.length_append, List.length_set, List.length_replicate, List.length_cons, List.length_nil, limbsN_length]; omega) | (simp only [Value.bool.injEq, Value.int.injEq, decide_eq_decide, true_and, List.length_take, List.length_drop, List.length_append, List.length_set, List.length_replicate, List.length_cons, List.length_nil, limbsN_length]; omega) | skip)))) : Cov C.n0 st ⟨lk L, hlk H, nx, nt⟩ := cov_go hn s L H nx h7 h3 h1 h2
theorem cvB {C : Ctx} (hn : C.n0 = 1) {st : HS} {L : List (Nat × HV)} {b : HBlk} {nt : Nat} (h7 : nt = st.nt := by rfl) (h1 : CovL st (hlk [(0, b)]) (sg []) L := by (simp (disch := omega) only [push_cast, reduceCtorEq, Nat.reduceAdd, Nat.reduceMul, Nat.reduceEqDiff, ↓reduceIte, Nat.reduceLT, Nat.reduceLeDiff, Int.reduceToNat, Int.reduceLT, Int.reduceLE, Int.reduceEq, Int.reduceNeg, Int.reduceAdd, Int.reduceSub, Int.reduceMul] <;> ((repeat' with_reducible apply And.intro) <;> (first | rfl | omega | (rw [List.take_of_length_le (by first | omega | (simp; done) | (simp; omega))]; done) | (rw [List.take_of_length_le]; simp only [List.length_take, List.length_drop, List.length_append, List.length_set, List.length_replicate, List.length_cons, List.length_nil, limbsN_length, Nat.le_refl]; done) | (simp only [List.length_take, List.length_drop, List.length_append, List.length_set, List.length_replicate, List.length_cons, List.length_nil, limbsN_length]; done) | (simp only [List.length_take, List.length_drop, List.length_append, List.length_set, List.length_replicate, List.length_cons, List.length_nil, limbsN_length]; omega) | (simp only [Value.bool.injEq, Value.int.injEq, decide_eq_decide, true_and, List.length_take, List.length_drop, List.length_append, List.length_set, List.length_replicate, List.length_cons, List.length_nil, limbsN_length]; omega) | skip)))) (h2 : CovH st (hlk [(0, b)]) (sg []) [(0, b)] := by (simp (disch := omega) only [push_cast, reduceCtorEq, Nat.reduceAdd, Nat.reduceMul, Nat.reduceEqDiff, ↓reduceIte, Nat.reduceLT, Nat.reduceLeDiff, Int.reduceToNat, Int.reduceLT, Int.reduceLE, Int.reduceEq, Int.reduceNeg, Int.reduceAdd, Int.reduceSub, Int.reduceMul] <;> ((repeat' with_reducible apply And.intro) <;> (first | rfl | omega | (rw [List.take_of_length_le (by first | omega | (simp; done) | (simp; omega))]; done) | (rw [List.take_of_length_le]; simp only [List.length_take, List.length_drop, List.length_append, List.length_set, List.length_replicate, List.length_cons, List.length_nil, limbsN_length, Nat.le_refl]; done) | (simp only [List.length_take, List.length_drop, List.length_append, List.length_set, List.length_replicate, List.length_cons, List.length_nil, limbsN_length]; done) | (simp only [List.length_take, List.length_drop, List.length_append, List.length_set, List.length_replicate, List.length_cons, List.length_nil, limbsN_length]; omega) | (simp only [Value.bool.injEq, Value.int.injEq, decide_eq_decide, true_and, List.length_take, List.length_drop, List.length_append, List.length_set, List.length_replicate, List.length_cons, List.length_nil, limbsN_length]; omega) | skip)))) : Cov C.n0 st ⟨lk L, hlk [(0, b)], 1, nt⟩ := cov_bor hn L b h7 h1 h2
theorem rT {P : Program} {st : HS} {t : Nat} {x : HV} (h : x = fzn st.hp (st.fr t) := by (simp (disch := omega) only [push_cast, reduceCtorEq, Nat.reduceAdd, Nat.reduceMul, Nat.reduceEqDiff, ↓reduceIte, Nat.reduceLT, Nat.reduceLeDiff, Int.reduceToNat, Int.reduceLT, Int.reduceLE, Int.reduceEq, Int.reduceNeg, Int.reduceAdd, Int.reduceSub, Int.reduceMul] <;> ((repeat' with_reducible apply And.intro) <;> (first | rfl | omega | (rw [List.take_of_length_le (by first | omega | (simp; done) | (simp; omega))]; done) | (rw [List.take_of_length_le]; simp only [List.length_take, List.length_drop, List.length_append, List.length_set, List.length_replicate, List.length_cons, List.length_nil, limbsN_length, Nat.le_refl]; done) | (simp only [List.length_take, List.length_drop, List.length_append, List.length_set, List.length_replicate, List.length_cons, List.length_nil, limbsN_length]; done) | (simp only [List.length_take, List.length_drop, List.length_append, List.length_set, List.length_replicate, List.length_cons, List.length_nil, limbsN_length]; omega) | (simp only [Value.bool.injEq, Value.int.injEq, decide_eq_decide, true_and, List.length_take, List.length_drop, List.length_append, List.length_set, List.length_replicate, List.length_cons, List.length_nil, limbsN_length]; omega) | skip)))) (hok : okz st.hp (st.fr t) := by (simp (disch := omega) only [push_cast, reduceCtorEq, Nat.reduceAdd, Nat.reduceMul, Nat.reduceEqDiff, ↓reduceIte, Nat.reduceLT, Nat.reduceLeDiff, Int.reduceToNat, Int.reduceLT, Int.reduceLE, Int.reduceEq, Int.reduceNeg, Int.reduceAdd, Int.reduceSub, Int.reduceMul] <;> ((repeat' with_reducible apply And.intro) <;> (first | rfl | omega | (rw [List.take_of_length_le (by first | omega | (simp; done) | (simp; omega))]; done) | (rw [List.take_of_length_le]; simp only [List.length_take, List.length_drop, List.length_append, List.length_set, List.length_replicate, List.length_cons, List.length_nil, limbsN_length, Nat.le_refl]; done) | (simp only [List.length_take, List.length_drop, List.length_append, List.length_set, List.length_replicate, List.length_cons, List.length_nil, limbsN_length]; done) | (simp only [List.length_take, List.length_drop, List.length_append, List.length_set, List.length_replicate, List.length_cons, List.length_nil, limbsN_length]; omega) | (simp only [Value.bool.injEq, Value.int.injEq, decide_eq_decide, true_and, List.length_take, List.length_drop, List.length_append, List.length_set, List.length_replicate, List.length_cons, List.length_nil, limbsN_length]; omega) | skip)))) : Res1 P st (.tmp t) x := res_tmp h hok
theorem rC {P : Program} {st : HS} {p t sz id : Nat} {x : HV} (ht : tyT P t = some (true, sz)) (hp : st.fr p = .ptr id 0 := by rfl) (hl : (st.hp id).live = true := by (simp (disch := omega) only [push_cast, reduceCtorEq, Nat.reduceAdd, Nat.reduceMul, Nat.reduceEqDiff, ↓reduceIte, Nat.reduceLT, Nat.reduceLeDiff, Int.reduceToNat, Int.reduceLT, Int.reduceLE, Int.reduceEq, Int.reduceNeg, Int.reduceAdd, Int.reduceSub, Int.reduceMul] <;> ((repeat' with_reducible apply And.intro) <;> (first | rfl | omega | (rw [List.take_of_length_le (by first | omega | (simp; done) | (simp; omega))]; done) | (rw [List.take_of_length_le]; simp only [List.length_take, List.length_drop, List.length_append, List.length_set, List.length_replicate, List.length_cons, List.length_nil, limbsN_length, Nat.le_refl]; done) | (simp only [List.length_take, List.length_drop, List.length_append, List.length_set, List.length_replicate, List.length_cons, List.length_nil, limbsN_length]; done) | (simp only [List.length_take, List.length_drop, List.length_append, List.length_set, List.length_replicate, List.length_cons, List.length_nil, limbsN_length]; omega) | (simp only [Value.bool.injEq, Value.int.injEq, decide_eq_decide, true_and, List.length_take, List.length_drop, List.length_append, List.length_set, List.length_replicate, List.length_cons, List.length_nil, limbsN_length]; omega) | skip)))) (hlen : sz ≤ (st.hp id).cells.length := by (simp (disch := omega) only [push_cast, reduceCtorEq, Nat.reduceAdd, Nat.reduceMul, Nat.reduceEqDiff, ↓reduceIte, Nat.reduceLT, Nat.reduceLeDiff, Int.reduceToNat, Int.reduceLT, Int.reduceLE, Int.reduceEq, Int.reduceNeg, Int.reduceAdd, Int.reduceSub, Int.reduceMul] <;> ((repeat' with_reducible apply And.intro) <;> (first | rfl | omega | (rw [List.take_of_length_le (by first | omega | (simp; done) | (simp; omega))]; done) | (rw [List.take_of_length_le]; simp only [List.length_take, List.length_drop, List.length_append, List.length_set, List.length_replicate, List.length_cons, List.length_nil, limbsN_length, Nat.le_refl]; done) | (simp only [List.length_take, List.length_drop, List.length_append, List.length_set, List.length_replicate, List.length_cons, List.length_nil, limbsN_length]; done) | (simp only [List.length_take, List.length_drop, List.length_append, List.length_set, List.length_replicate, List.length_cons, List.length_nil, limbsN_length]; omega) | (simp only [Value.bool.injEq, Value.int.injEq, decide_eq_decide, true_and, List.length_take, List.length_drop, List.length_append, List.length_set, List.length_replicate, List.length_cons, List.length_nil, limbsN_length]; omega) | skip))))
    (h : x = fzn st.hp (.agg ((st.hp id).cells.take sz)) := by (simp (disch := omega) only [push_cast, reduceCtorEq, Nat.reduceAdd, Nat.reduceMul, Nat.reduceEqDiff, ↓reduceIte, Nat.reduceLT, Nat.reduceLeDiff, Int.reduceToNat, Int.reduceLT, Int.reduceLE, Int.reduceEq, Int.reduceNeg, Int.reduceAdd, Int.reduceSub, Int.reduceMul] <;> ((repeat' with_reducible apply And.intro) <;> (first | rfl | omega | (rw [List.take_of_length_le (by first | omega | (simp; done) | (simp; omega))]; done) | (rw [List.take_of_length_le]; simp only [List.length_take, List.length_drop, List.length_append, List.length_set, List.length_replicate, List.length_cons, List.length_nil, limbsN_length, Nat.le_refl]; done) | (simp only [List.length_take, List.length_drop, List.length_append, List.length_set, List.length_replicate, List.length_cons, List.length_nil, limbsN_length]; done) | (simp only [List.length_take, List.length_drop, List.length_append, List.length_set, List.length_replicate, List.length_cons, List.length_nil, limbsN_length]; omega) | (simp only [Value.bool.injEq, Value.int.injEq, decide_eq_decide, true_and, List.length_take, List.length_drop, List.length_append, List.length_set, List.length_replicate, List.length_cons, List.length_nil, limbsN_length]; omega) | skip)))) (hok : okz st.hp (.agg ((st.hp id).cells.take sz)) := by (simp (disch := omega) only [push_cast, reduceCtorEq, Nat.reduceAdd, Nat.reduceMul, Nat.reduceEqDiff, ↓reduceIte, Nat.reduceLT, Nat.reduceLeDiff, Int.reduceToNat, Int.reduceLT, Int.reduceLE, Int.reduceEq, Int.reduceNeg, Int.reduceAdd, Int.reduceSub, Int.reduceMul] <;> ((repeat' with_reducible apply And.intro) <;> (first | rfl | omega | (rw [List.take_of_length_le (by first | omega | (simp; done) | (simp; omega))]; done) | (rw [List.take_of_length_le]; simp only [List.length_take, List.length_drop, List.length_append, List.length_set, List.length_replicate, List.length_cons, List.length_nil, limbsN_length, Nat.le_refl]; done) | (simp only [List.length_take, List.length_drop, List.length_append, List.length_set, List.length_replicate, List.length_cons, List.length_nil, limbsN_length]; done) | (simp only [List.length_take, List.length_drop, List.length_append, List.length_set, List.length_replicate, List.length_cons, List.length_nil, limbsN_length]; omega) | (simp only [Value.bool.injEq, Value.int.injEq, decide_eq_decide, true_and, List.length_take, List.length_drop, List.length_append, List.length_set, List.length_replicate, List.length_cons, List.length_nil, limbsN_length]; omega) | skip)))) : Res1 P st (.cell p t) x := res_cell ht hp hl hlen h hok
theorem cp0 {P : Program} {f : FuncId} {fn : Func} {c : Code} {r : HV} {rs : List ResultVar} {nt : Nat} (hf : P.funcs[f]? = some fn) (h : ∀ C : Ctx, C.P = P → C.n0 = 0 → hwp C c (RQ P rs r) ⟨lk [], hlk [], 0, nt⟩)
    (hname : (fn.name == "runtime.NumGoroutine") = false := by decide) (hb : fn.body = some c := by rfl) (hrs : fn.results.toList = rs := by rfl) (hnt : fn.ntmps = nt := by rfl) (hle : 0 ≤ nt := by exact Nat.le_of_ble_eq_true rfl) : HCallsD P f [] ([] : List HV) r [] :=
  calls_pure hf hname hb hrs hnt [] (fun t => by
    match t with
    | _ => exact .inl rfl) hle h
theorem cp1 {P : Program} {f : FuncId} {fn : Func} {c : Code} {x0 : HV} {r : HV} {rs : List ResultVar} {nt : Nat} (hf : P.funcs[f]? = some fn) (h : ∀ C : Ctx, C.P = P → C.n0 = 0 → hwp C c (RQ P rs r) ⟨lk [(0, x0)], hlk [], 0, nt⟩)
    (hname : (fn.name == "runtime.NumGoroutine") = false := by decide) (hb : fn.body = some c := by rfl) (hrs : fn.results.toList = rs := by rfl) (hnt : fn.ntmps = nt := by rfl) (hle : 1 ≤ nt := by exact Nat.le_of_ble_eq_true rfl) : HCallsD P f [] [x0] r [] :=
  calls_pure hf hname hb hrs hnt [(0, x0)] (fun t => by
    match t with
    | 0 => exact .inr rfl
    | t + 1 => exact .inl rfl) hle h
theorem cp2 {P : Program} {f : FuncId} {fn : Func} {c : Code} {x0 x1 : HV} {r : HV} {rs : List ResultVar} {nt : Nat} (hf : P.funcs[f]? = some fn) (h : ∀ C : Ctx, C.P = P → C.n0 = 0 → hwp C c (RQ P rs r) ⟨lk [(0, x0), (1, x1)], hlk [], 0, nt⟩)
    (hname : (fn.name == "runtime.NumGoroutine") = false := by decide) (hb : fn.body = some c := by rfl) (hrs : fn.results.toList = rs := by rfl) (hnt : fn.ntmps = nt := by rfl) (hle : 2 ≤ nt := by exact Nat.le_of_ble_eq_true rfl) : HCallsD P f [] [x0, x1] r [] :=
  calls_pure hf hname hb hrs hnt [(0, x0), (1, x1)] (fun t => by
    match t with
    | 0 => exact .inr rfl
    | 1 => exact .inr rfl
    | t + 2 => exact .inl rfl) hle h
theorem cp3 {P : Program} {f : FuncId} {fn : Func} {c : Code} {x0 x1 x2 : HV} {r : HV} {rs : List ResultVar} {nt : Nat} (hf : P.funcs[f]? = some fn) (h : ∀ C : Ctx, C.P = P → C.n0 = 0 → hwp C c (RQ P rs r) ⟨lk [(0, x0), (1, x1), (2, x2)], hlk [], 0, nt⟩)
    (hname : (fn.name == "runtime.NumGoroutine") = false := by decide) (hb : fn.body = some c := by rfl) (hrs : fn.results.toList = rs := by rfl) (hnt : fn.ntmps = nt := by rfl) (hle : 3 ≤ nt := by exact Nat.le_of_ble_eq_true rfl) : HCallsD P f [] [x0, x1, x2] r [] :=
  calls_pure hf hname hb hrs hnt [(0, x0), (1, x1), (2, x2)] (fun t => by
    match t with
    | 0 => exact .inr rfl
    | 1 => exact .inr rfl
    | 2 => exact .inr rfl
    | t + 3 => exact .inl rfl) hle h
theorem cp4 {P : Program} {f : FuncId} {fn : Func} {c : Code} {x0 x1 x2 x3 : HV} {r : HV} {rs : List ResultVar} {nt : Nat} (hf : P.funcs[f]? = some fn) (h : ∀ C : Ctx, C.P = P → C.n0 = 0 → hwp C c (RQ P rs r) ⟨lk [(0, x0), (1, x1), (2, x2), (3, x3)], hlk [], 0, nt⟩)
    (hname : (fn.name == "runtime.NumGoroutine") = false := by decide) (hb : fn.body = some c := by rfl) (hrs : fn.results.toList = rs := by rfl) (hnt : fn.ntmps = nt := by rfl) (hle : 4 ≤ nt := by exact Nat.le_of_ble_eq_true rfl) : HCallsD P f [] [x0, x1, x2, x3] r [] :=
  calls_pure hf hname hb hrs hnt [(0, x0), (1, x1), (2, x2), (3, x3)] (fun t => by
    match t with
    | 0 => exact .inr rfl
    | 1 => exact .inr rfl
    | 2 => exact .inr rfl
    | 3 => exact .inr rfl
    | t + 4 => exact .inl rfl) hle h
theorem cp5 {P : Program} {f : FuncId} {fn : Func} {c : Code} {x0 x1 x2 x3 x4 : HV} {r : HV} {rs : List ResultVar} {nt : Nat} (hf : P.funcs[f]? = some fn) (h : ∀ C : Ctx, C.P = P → C.n0 = 0 → hwp C c (RQ P rs r) ⟨lk [(0, x0), (1, x1), (2, x2), (3, x3), (4, x4)], hlk [], 0, nt⟩)
    (hname : (fn.name == "runtime.NumGoroutine") = false := by decide) (hb : fn.body = some c := by rfl) (hrs : fn.results.toList = rs := by rfl) (hnt : fn.ntmps = nt := by rfl) (hle : 5 ≤ nt := by exact Nat.le_of_ble_eq_true rfl) : HCallsD P f [] [x0, x1, x2, x3, x4] r [] :=
  calls_pure hf hname hb hrs hnt [(0, x0), (1, x1), (2, x2), (3, x3), (4, x4)] (fun t => by
    match t with
    | 0 => exact .inr rfl
    | 1 => exact .inr rfl
    | 2 => exact .inr rfl
    | 3 => exact .inr rfl
    | 4 => exact .inr rfl
    | t + 5 => exact .inl rfl) hle h
theorem cp6 {P : Program} {f : FuncId} {fn : Func} {c : Code} {x0 x1 x2 x3 x4 x5 : HV} {r : HV} {rs : List ResultVar} {nt : Nat} (hf : P.funcs[f]? = some fn) (h : ∀ C : Ctx, C.P = P → C.n0 = 0 → hwp C c (RQ P rs r) ⟨lk [(0, x0), (1, x1), (2, x2), (3, x3), (4, x4), (5, x5)], hlk [], 0, nt⟩)
    (hname : (fn.name == "runtime.NumGoroutine") = false := by decide) (hb : fn.body = some c := by rfl) (hrs : fn.results.toList = rs := by rfl) (hnt : fn.ntmps = nt := by rfl) (hle : 6 ≤ nt := by exact Nat.le_of_ble_eq_true rfl) : HCallsD P f [] [x0, x1, x2, x3, x4, x5] r [] :=
  calls_pure hf hname hb hrs hnt [(0, x0), (1, x1), (2, x2), (3, x3), (4, x4), (5, x5)] (fun t => by
    match t with
    | 0 => exact .inr rfl
    | 1 => exact .inr rfl
    | 2 => exact .inr rfl
    | 3 => exact .inr rfl
    | 4 => exact .inr rfl
    | 5 => exact .inr rfl
    | t + 6 => exact .inl rfl) hle h
theorem rqq0 {P : Program} {e : Exit} {st : HS}  (he : isRet e := by trivial) : RQ P [] (.tup []) e st := ⟨he, [], trivial, rfl⟩
theorem rqq1 {P : Program} {r1 : ResultVar} {x1 : HV} {e : Exit} {st : HS} (h1 : Res1 P st r1 x1) (he : isRet e := by trivial) : RQ P [r1] (x1) e st := ⟨he, [x1], ⟨h1, trivial⟩, rfl⟩
theorem rqq2 {P : Program} {r1 r2 : ResultVar} {x1 x2 : HV} {e : Exit} {st : HS} (h1 : Res1 P st r1 x1) (h2 : Res1 P st r2 x2) (he : isRet e := by trivial) : RQ P [r1, r2] (.tup [x1, x2]) e st := ⟨he, [x1, x2], ⟨h1, h2, trivial⟩, rfl⟩
theorem rqq3 {P : Program} {r1 r2 r3 : ResultVar} {x1 x2 x3 : HV} {e : Exit} {st : HS} (h1 : Res1 P st r1 x1) (h2 : Res1 P st r2 x2) (h3 : Res1 P st r3 x3) (he : isRet e := by trivial) : RQ P [r1, r2, r3] (.tup [x1, x2, x3]) e st := ⟨he, [x1, x2, x3], ⟨h1, h2, h3, trivial⟩, rfl⟩
theorem rqq4 {P : Program} {r1 r2 r3 r4 : ResultVar} {x1 x2 x3 x4 : HV} {e : Exit} {st : HS} (h1 : Res1 P st r1 x1) (h2 : Res1 P st r2 x2) (h3 : Res1 P st r3 x3) (h4 : Res1 P st r4 x4) (he : isRet e := by trivial) : RQ P [r1, r2, r3, r4] (.tup [x1, x2, x3, x4]) e st := ⟨he, [x1, x2, x3, x4], ⟨h1, h2, h3, h4, trivial⟩, rfl⟩
end Go.Proofs.YtfmebdmgnmogaaaGreatDoor.Hv
namespace Go.Proofs.YtfmebdmgnmogaaaGreatDoor
open Go Go.RowKit Hv

theorem el22 : elT Tryz.prog 22 = some (62, 1, 4) := by kernel_rfl
attribute [push_cast] el22
theorem ty46 : tyT Tryz.prog 62 = some (false, 1) := by kernel_rfl
attribute [push_cast] ty46
theorem ty22 : tyT Tryz.prog 22 = some (false, 1) := by kernel_rfl
attribute [push_cast] ty22
theorem ty24 : tyT Tryz.prog 24 = some (true, 2) := by kernel_rfl
attribute [push_cast] ty24
theorem ty4 : tyT Tryz.prog 4 = some (false, 1) := by kernel_rfl
attribute [push_cast] ty4
theorem ty3 : tyT Tryz.prog 3 = some (false, 1) := by kernel_rfl
attribute [push_cast] ty3
theorem ty54 : tyT Tryz.prog 75 = some (false, 1) := by kernel_rfl
attribute [push_cast] ty54
theorem zero24 : zrT Tryz.prog 24 = some [.bool false, .slice none 0 0] := by kernel_rfl
attribute [push_cast] zero24
theorem zero46 : zrT Tryz.prog 62 = some [.int .u32 0] := by kernel_rfl
attribute [push_cast] zero46
theorem fl24_0 : fdT Tryz.prog 24 0 = some (0, 1, false) := by kernel_rfl
attribute [push_cast] fl24_0
theorem fl24_1 : fdT Tryz.prog 24 1 = some (1, 1, false) := by kernel_rfl
attribute [push_cast] fl24_1
theorem fs24 : fsT Tryz.prog 24 = some [(0, 1), (1, 1)] := by kernel_rfl
attribute [push_cast] fs24
theorem und46 : Tryz.prog.underlying 62 = some (.int .u32) := by kernel_rfl
attribute [push_cast] und46
theorem und54 : Tryz.prog.underlying 75 = some (.int .u64) := by kernel_rfl
attribute [push_cast] und54
theorem und3 : Tryz.prog.underlying 3 = some (.int .i64) := by kernel_rfl
attribute [push_cast] und3
theorem und2 : Tryz.prog.underlying 2 = some (.int .i64) := by kernel_rfl
attribute [push_cast] und2
theorem und4 : Tryz.prog.underlying 4 = some .bool := by kernel_rfl
attribute [push_cast] und4
theorem und9 : Tryz.prog.underlying 9 = some .string := by kernel_rfl
attribute [push_cast] und9
theorem und5 : Tryz.prog.underlying 5 = some (.int .u8) := by kernel_rfl
attribute [push_cast] und5
theorem follows_mixed : Tryz.prog.follows .mixedOrders = true := by kernel_rfl

end Go.Proofs.YtfmebdmgnmogaaaGreatDoor
set_option linter.unusedVariables false
set_option maxRecDepth 100000
namespace Go.Proofs.YtfmebdmgnmogaaaGreatDoor
open Go Go.RowKit Hv
open Go.ChangeShapes Go.WideShapes Go.ChangeAt

theorem ownT : ownKnob Tryz.prog.godebug = none := by kernel_rfl
theorem laidT : laidOutB Tryz.prog = true := by kernel_rfl
theorem wf_u32 {n : Int} (h : (Lit.int .u32 n).wf = true) : 0 ≤ n ∧ n < 4294967296 := by
  simp [Lit.wf, IntKind.min, IntKind.max, IntKind.signed, IntKind.bits] at h; omega
theorem wf_i64 {n : Int} (h : (Lit.int .i64 n).wf = true) : -9223372036854775808 ≤ n ∧ n ≤ 9223372036854775807 := by
  simp [Lit.wf, IntKind.min, IntKind.max, IntKind.signed, IntKind.bits] at h; omega

/-- A value is read so, whatever else is written. -/
def Reads (w : World) (x : HV) (v : Value) : Prop := ∀ m, Rep w (Xt (fun _ => False) m (ofL [])) m (ofL []) x v
theorem noX {m : Mp} {p : Addr} : ¬ Xt (fun _ => False) m (ofL []) p := fun h => (Xt_nil p).1 h

section
variable {H : Type} {enc : TypeId × Value → H} {w : World}
theorem limbs_rep {fuel : Nat} {v : Value} {y : DataW H × List MemPlace} (h : DataW.trod enc Tryz.prog w 0 (fun _ => true) true fuel 22 [v] = some y) : ∃ xs : List Int, (∀ x ∈ xs, 0 ≤ x ∧ x < 4294967296) ∧ Reads w (.sl xs.length false (ints .u32 xs)) v := by
  rcases open_ints Tryz.underlying22 Tryz.underlying62 (by kernel_rfl) h with ⟨hcs, _⟩ | ⟨a, len, cap, zs, hcs, _, hl, hm, hz, _, hcell, hwz⟩
  · simp at hcs
    subst hcs
    exact ⟨[], by simp, fun m => .sl 0 false [] none 0 [] rfl (Nat.le_refl _) (by simp) (by simp) (by simp) (by simp) (by simp)⟩
  · simp at hcs
    subst hcs
    simp at hz
    refine ⟨zs.take len, fun x hx => wf_u32 (hwz x (List.mem_of_mem_take hx)), fun m => ?_⟩
    have hlen : (zs.take len).length = len := by rw [List.length_take]; omega
    rw [hlen]
    refine .sl len false (ints .u32 (zs.take len)) (some a) cap ((zs.take len).map (Value.int .u32)) (by simp [ints]) hl (by simp) (by simp [ints]; omega) (ints_flat _ _) (fun j u hj => ?_) (fun j x u hx hu => ?_)
    · rw [List.getElem?_map, Option.map_eq_some_iff] at hj
      obtain ⟨z, hz1, rfl⟩ := hj
      have hj1 : j < (zs.take len).length := (List.getElem?_eq_some_iff.1 hz1).1
      have hj2 : j < zs.length := by omega
      refine ⟨a, rfl, ?_, noX⟩
      rw [hcell j hj2]
      rw [List.getElem?_take] at hz1
      rw [if_pos (by omega)] at hz1
      simp [List.getD, hz1]
    · simp only [ints, List.getElem?_map, Option.map_eq_some_iff] at hx hu
      obtain ⟨z1, e1, rfl⟩ := hx
      obtain ⟨z2, e2, rfl⟩ := hu
      rw [e1] at e2
      injection e2 with e2
      subst e2
      exact .raw _
/-- An integer among the arguments. -/
theorem int_rep {b0 : Nat} {v : Value} {d : DataW H} {p : List MemPlace} (hv : Value.okWide Tryz.prog w .any b0 24 v) (h : DataW.Trod enc Tryz.prog w 0 (fun _ => true) true 24 v d p) :
    ∃ (b : Bool) (xs : List Int), (∀ x ∈ xs, 0 ≤ x ∧ x < 4294967296) ∧ Reads w (.agg [.raw (.bool b), .sl xs.length false (ints .u32 xs)]) v := by
  obtain ⟨v0, v1, y0, y1, n, rfl, _, _, h0, h1⟩ := Go.Joins.open_agg2 Tryz.underlying24 (by kernel_rfl) (by kernel_rfl) hv h
  obtain ⟨b, hb, _⟩ := DataW.trod_bool Tryz.underlying4 h0
  simp at hb
  subst hb
  obtain ⟨xs, hu, hr⟩ := limbs_rep h1
  refine ⟨b, xs, hu, fun m => .agg _ [.bool b, v1] rfl (fun j x u hx hu => ?_)⟩
  match j with
  | 0 => simp at hx hu; subst hx hu; exact .raw _
  | 1 => simp at hx hu; subst hx hu; exact hr m
  | j + 2 => simp at hx
end

/-- The table of powers of ten, out of what the row lists. -/
theorem gw_of_tab {w : World} (h : Lib.TabIs Tryz.prog w "internal/strconv.uint64pow10" .u64 Lib.pow10Tab) : GW w := by
  have hg : Tryz.prog.globalNamed "internal/strconv.uint64pow10" = some gB := by kernel_rfl
  have h2 : World.var? Tryz.prog w "internal/strconv.uint64pow10" = _ := h
  unfold World.var? at h2
  rw [hg] at h2
  have h3 : (match w.heap[gB]? with | some (.cells cs _ _) => some cs | _ => none) = some (Lib.pow10Tab.map fun z => Value.int .u64 z).toArray := h2
  split at h3
  · rename_i cs T fr e
    rw [Option.some.inj h3] at e
    exact ⟨T, fr, e⟩
  · cases h3
theorem calls_true {f : FuncId} {args : List HV} {w : World} {vs : List Value} (hg : GW w) (h : HCallsD Tryz.prog f [] args (.raw (.bool true)) []) (hl : vs.length = args.length) (hr : ∀ (j : Nat) (x : HV) (v : Value), args[j]? = some x → vs[j]? = some v → Reads w x v) :
    Calls Tryz.prog f vs.toArray w fun e w' => e = .returned (.bool true) ∧ Below w.heap.size w w' := by
  refine (h.2 (fun _ => False) (fun _ => none) w vs hl (by simp) (HeapOK.nil (by simp)) ⟨hg, fun id p hx => (by have := hx.1; rw [ofL_nil] at this; cases this)⟩ (fun j x v hx hv => hr j x v hx hv _)).mono ?_
  rintro e w' ⟨v, m', he, _, _, hrep, hch⟩
  cases hrep
  have hch' : Chg (fun _ => False) w w' := ⟨hch.os, hch.tape, hch.output, hch.size, hch.shp, fun p u hp _ => hch.cell p u hp (fun ⟨id, h⟩ => (by have := h.1; rw [ofL_nil] at this; cases this)),
    fun i hi _ => hch.blk i hi (fun off ⟨id, h⟩ => (by have := h.1; rw [ofL_nil] at this; cases this))⟩
  exact ⟨he, hch'.below⟩
theorem reads1 {w : World} {x0 : HV} {v0 : Value} (h0 : Reads w x0 v0) : ∀ (j : Nat) (x : HV) (v : Value), [x0][j]? = some x → [v0][j]? = some v → Reads w x v := by
  intro j x v hx hv
  match j with
  | 0 => simp at hx hv; subst hx hv; exact h0
  | j + 1 => simp at hx
theorem reads2 {w : World} {x0 x1 : HV} {v0 v1 : Value} (h0 : Reads w x0 v0) (h1 : Reads w x1 v1) : ∀ (j : Nat) (x : HV) (v : Value), [x0, x1][j]? = some x → [v0, v1][j]? = some v → Reads w x v := by
  intro j x v hx hv
  match j with
  | 0 => simp at hx hv; subst hx hv; exact h0
  | 1 => simp at hx hv; subst hx hv; exact h1
  | j + 2 => simp at hx
theorem reads3 {w : World} {x0 x1 x2 : HV} {v0 v1 v2 : Value} (h0 : Reads w x0 v0) (h1 : Reads w x1 v1) (h2 : Reads w x2 v2) : ∀ (j : Nat) (x : HV) (v : Value), [x0, x1, x2][j]? = some x → [v0, v1, v2][j]? = some v → Reads w x v := by
  intro j x v hx hv
  match j with
  | 0 => simp at hx hv; subst hx hv; exact h0
  | 1 => simp at hx hv; subst hx hv; exact h1
  | 2 => simp at hx hv; subst hx hv; exact h2
  | j + 3 => simp at hx
theorem reads_raw {w : World} (v : Value) : Reads w (.raw v) v := fun m => .raw v
end Go.Proofs.YtfmebdmgnmogaaaGreatDoor
set_option linter.unusedVariables false
namespace Go.Proofs.YtfmebdmgnmogaaaGreatDoor
open Go Go.RowKit Hv

def V : List Int → Int
  | [] => 0
  | x :: xs => x + 1000000000 * V xs
def Lim (xs : List Int) : Prop := ∀ x ∈ xs, 0 ≤ x ∧ x < 1000000000
def lastOk (xs : List Int) : Prop := ∀ x, xs.getLast? = some x → x ≠ 0

theorem Lim.nil : Lim [] := by simp [Lim]
theorem Lim.cons {x : Int} {xs : List Int} (h0 : 0 ≤ x) (h1 : x < 1000000000) (h : Lim xs) : Lim (x :: xs) := by
  intro y hy; rcases List.mem_cons.1 hy with rfl | hy
  · exact ⟨h0, h1⟩
  · exact h y hy
theorem Lim.head {x : Int} {xs : List Int} (h : Lim (x :: xs)) : 0 ≤ x ∧ x < 1000000000 := h x (by simp)
theorem Lim.tail {x : Int} {xs : List Int} (h : Lim (x :: xs)) : Lim xs := fun y hy => h y (by simp [hy])
theorem Lim.app {xs ys : List Int} (h : Lim xs) (h' : Lim ys) : Lim (xs ++ ys) := by
  intro y hy; rcases List.mem_append.1 hy with hy | hy
  · exact h y hy
  · exact h' y hy
theorem Lim.left {xs ys : List Int} (h : Lim (xs ++ ys)) : Lim xs := fun y hy => h y (by simp [hy])
theorem Lim.right {xs ys : List Int} (h : Lim (xs ++ ys)) : Lim ys := fun y hy => h y (by simp [hy])
theorem Lim.take {xs : List Int} (h : Lim xs) (n : Nat) : Lim (xs.take n) := fun y hy => h y (List.mem_of_mem_take hy)
theorem Lim.drop {xs : List Int} (h : Lim xs) (n : Nat) : Lim (xs.drop n) := fun y hy => h y (List.mem_of_mem_drop hy)
theorem Lim.get {xs : List Int} (h : Lim xs) {n : Nat} (hn : n < xs.length) : 0 ≤ xs.getD n 0 ∧ xs.getD n 0 < 1000000000 := by
  have e : xs.getD n 0 = xs[n] := by simp [List.getD, hn]
  rw [e]; exact h _ (List.getElem_mem hn)
theorem Lim.getA {xs : List Int} (h : Lim xs) (n : Nat) : 0 ≤ xs.getD n 0 ∧ xs.getD n 0 < 1000000000 := by
  rcases Nat.lt_or_ge n xs.length with hn | hn
  · exact h.get hn
  · have : xs.getD n 0 = 0 := by simp [List.getD, hn]
    omega
theorem V_nonneg {xs : List Int} (h : Lim xs) : 0 ≤ V xs := by
  induction xs with
  | nil => simp [V]
  | cons x xs ih => have := ih h.tail; have := h.head; simp only [V]; omega
def P9 : Nat → Int
  | 0 => 1
  | n + 1 => 1000000000 * P9 n
theorem P9_pos (n : Nat) : 0 < P9 n := by
  induction n with
  | zero => simp [P9]
  | succ n ih => simp only [P9]; omega
theorem P9_add (m n : Nat) : P9 (m + n) = P9 m * P9 n := by
  induction m with
  | zero => simp [P9]
  | succ m ih => rw [Nat.succ_add]; simp only [P9]; rw [ih, Int.mul_assoc]
theorem V_lt {xs : List Int} (h : Lim xs) : V xs < P9 xs.length := by
  induction xs with
  | nil => simp [V, P9]
  | cons x xs ih => have := ih h.tail; have := h.head; simp only [V, P9, List.length_cons]; omega
theorem V_append (xs ys : List Int) : V (xs ++ ys) = V xs + P9 xs.length * V ys := by
  induction xs with
  | nil => simp [V, P9]
  | cons x xs ih =>
    simp only [List.cons_append, V, P9, List.length_cons, ih]
    rw [Int.mul_add, Int.mul_assoc]; omega
theorem V_zeros (n : Nat) : V (List.replicate n 0) = 0 := by
  induction n with
  | zero => rfl
  | succ n ih => simp [List.replicate_succ, V, ih]
theorem Lim.zeros (n : Nat) : Lim (List.replicate n 0) := by
  intro x hx; rw [(List.mem_replicate.1 hx).2]; omega
/-- Lists of one length and one value are the same. -/
theorem V_inj {xs ys : List Int} (hx : Lim xs) (hy : Lim ys) (hl : xs.length = ys.length) (h : V xs = V ys) : xs = ys := by
  induction xs generalizing ys with
  | nil => cases ys with
    | nil => rfl
    | cons => cases hl
  | cons x xs ih => cases ys with
    | nil => cases hl
    | cons y ys =>
      have h1 := hx.head; have h2 := hy.head
      simp only [V] at h
      have e : x = y := by omega
      have e2 : V xs = V ys := by omega
      rw [e, ih hx.tail hy.tail (by simpa using hl) e2]

/-- The limbs of a number: exactly n of them. -/
def limbsN : Nat → Int → List Int
  | 0, _ => []
  | n + 1, v => v % 1000000000 :: limbsN n (v / 1000000000)
theorem limbsN_length (n : Nat) (v : Int) : (limbsN n v).length = n := by
  induction n generalizing v with
  | zero => rfl
  | succ n ih => simp [limbsN, ih]
theorem limbsN_lim (n : Nat) (v : Int) : Lim (limbsN n v) := by
  induction n generalizing v with
  | zero => exact Lim.nil
  | succ n ih => exact Lim.cons (by omega) (by omega) (ih _)
theorem limbsN_V {n : Nat} {v : Int} (h0 : 0 ≤ v) (h : v < P9 n) : V (limbsN n v) = v := by
  induction n generalizing v with
  | zero => simp only [P9] at h; simp only [limbsN, V]; omega
  | succ n ih =>
    simp only [P9] at h
    simp only [limbsN, V]
    rw [ih (by omega) (by omega)]; omega
theorem limbsN_of {xs : List Int} (h : Lim xs) : limbsN xs.length (V xs) = xs :=
  V_inj (limbsN_lim _ _) h (limbsN_length _ _) (limbsN_V (V_nonneg h) (V_lt h))
theorem limbsN_eq {xs : List Int} (h : Lim xs) {n : Nat} {v : Int} (hn : xs.length = n) (hv : V xs = v) : xs = limbsN n v := by
  subst hn hv; exact (limbsN_of h).symm

/-- The limbs of a number, with none above the greatest that is not zero. -/
def digF : Nat → Int → List Int
  | 0, _ => []
  | n + 1, v => if v ≤ 0 then [] else v % 1000000000 :: digF n (v / 1000000000)
def dig (v : Int) : List Int := digF v.toNat v
theorem digF_enough : ∀ (n m : Nat) (v : Int), v.toNat ≤ n → v.toNat ≤ m → digF n v = digF m v
  | 0, 0, v, _, _ => rfl
  | 0, m + 1, v, h, _ => by simp only [digF]; rw [if_pos (by omega)]
  | n + 1, 0, v, _, h => by simp only [digF]; rw [if_pos (by omega)]
  | n + 1, m + 1, v, h, h' => by
    simp only [digF]
    split
    · rfl
    · rw [digF_enough n m _ (by omega) (by omega)]
theorem dig_zero {v : Int} (h : v ≤ 0) : dig v = [] := by
  unfold dig; rw [show v.toNat = 0 by omega]; rfl
theorem dig_pos {v : Int} (h : 0 < v) : dig v = v % 1000000000 :: dig (v / 1000000000) := by
  unfold dig
  rw [show v.toNat = (v.toNat - 1) + 1 by omega]
  simp only [digF]
  rw [if_neg (by omega), digF_enough (v.toNat - 1) (v / 1000000000).toNat _ (by omega) (by omega)]
theorem dig_ind {M : Int → Prop} (h0 : ∀ v, v ≤ 0 → M v) (h1 : ∀ v, 0 < v → M (v / 1000000000) → M v) (v : Int) : M v := by
  have key : ∀ n : Nat, ∀ v : Int, v.toNat ≤ n → M v := by
    intro n
    induction n with
    | zero => exact fun v h => h0 v (by omega)
    | succ n ih =>
      intro v h
      rcases Int.lt_or_le 0 v with k | k
      · exact h1 v k (ih _ (by omega))
      · exact h0 v k
  exact key _ v (Nat.le_refl _)
theorem dig_lim (v : Int) : Lim (dig v) := by
  refine dig_ind (M := fun v => Lim (dig v)) (fun v h => by rw [dig_zero h]; exact Lim.nil) (fun v h ih => ?_) v
  rw [dig_pos h]; exact Lim.cons (by omega) (by omega) ih
theorem dig_V {v : Int} (h0 : 0 ≤ v) : V (dig v) = v := by
  revert h0
  refine dig_ind (M := fun v => 0 ≤ v → V (dig v) = v) (fun v h h0 => by rw [dig_zero h]; simp only [V]; omega) (fun v h ih h0 => ?_) v
  rw [dig_pos h]; simp only [V]; rw [ih (by omega)]; omega
theorem dig_ne {v : Int} (h : 0 < v) : dig v ≠ [] := by rw [dig_pos h]; simp
theorem dig_last (v : Int) : lastOk (dig v) := by
  refine dig_ind (M := fun v => lastOk (dig v)) (fun v h => by rw [dig_zero h]; intro x hx; simp at hx) (fun v h ih => ?_) v
  rw [dig_pos h]
  intro x hx
  rcases Int.lt_or_le 0 (v / 1000000000) with k | k
  · have hne := dig_ne k
    rw [List.getLast?_cons] at hx
    obtain ⟨y, hy⟩ : ∃ y, (dig (v / 1000000000)).getLast? = some y := by
      cases e : (dig (v / 1000000000)).getLast? with
      | none => exact absurd (List.getLast?_eq_none_iff.1 e) hne
      | some y => exact ⟨y, rfl⟩
    rw [hy] at hx
    simp only [Option.getD_some, Option.some.injEq] at hx
    subst hx; exact ih _ hy
  · rw [dig_zero k] at hx
    simp at hx; omega
/-- What a list's zeros at its end do not change. -/
theorem V_snoc (xs : List Int) (x : Int) : V (xs ++ [x]) = V xs + P9 xs.length * x := by rw [V_append]; simp [V]
theorem lastOk_pos {xs : List Int} (h : Lim xs) (hne : xs ≠ []) (hl : lastOk xs) : 0 < V xs := by
  induction xs with
  | nil => exact absurd rfl hne
  | cons x xs ih =>
    have h1 := h.head
    simp only [V]
    cases xs with
    | nil => have := hl x (by simp); simp only [V]; omega
    | cons y ys =>
      have := ih h.tail (by simp) (fun z hz => hl z (by rw [List.getLast?_cons_cons]; exact hz))
      omega
theorem dig_of {xs : List Int} (h : Lim xs) (hl : lastOk xs) : dig (V xs) = xs := by
  induction xs with
  | nil => exact dig_zero (by simp [V])
  | cons x xs ih =>
    have h1 := h.head
    have hp := lastOk_pos h (by simp) hl
    rw [dig_pos hp]
    simp only [V]
    rw [show (x + 1000000000 * V xs) % 1000000000 = x by omega, show (x + 1000000000 * V xs) / 1000000000 = V xs by omega]
    rw [ih h.tail ?_]
    intro z hz
    refine hl z ?_
    rw [List.getLast?_cons, hz]; rfl
theorem V_take_last {xs : List Int} (hne : 0 < xs.length) (h : xs.getD (xs.length - 1) 0 = 0) : V (xs.take (xs.length - 1)) = V xs := by
  obtain ⟨ys, y, rfl⟩ : ∃ ys y, xs = ys ++ [y] := ⟨xs.dropLast, xs.getLast (by intro e; simp [e] at hne), (List.dropLast_concat_getLast _).symm⟩
  simp [List.getD] at h
  subst h
  simp [V_append, V]
theorem lastOk_of {xs : List Int} (h : 0 < xs.length → xs.getD (xs.length - 1) 0 ≠ 0) : lastOk xs := by
  intro x hx
  have hne : xs ≠ [] := by rintro rfl; simp at hx
  have hp : 0 < xs.length := List.length_pos_iff.2 hne
  have := h hp
  rw [List.getLast?_eq_getElem?] at hx
  simp [List.getD, hx] at this
  exact this
theorem dig_len {v : Int} {n : Nat} (h : v < P9 n) : (dig v).length ≤ n := by
  induction n generalizing v with
  | zero => rw [dig_zero (by simp only [P9] at h; omega)]; simp
  | succ n ih =>
    rcases Int.lt_or_le 0 v with k | k
    · rw [dig_pos k, List.length_cons]
      have := ih (v := v / 1000000000) (by simp only [P9] at h; omega)
      omega
    · rw [dig_zero k]; simp
theorem dig_len64 {v : Int} (h : v < 18446744073709551616) : (dig v).length ≤ 3 := dig_len (n := 3) (by simp only [P9]; omega)
theorem dig_get_last {v : Int} (h : 0 < (dig v).length) : (dig v).getD ((dig v).length - 1) 0 ≠ 0 := by
  have := dig_last v ((dig v).getD ((dig v).length - 1) 0) (by rw [List.getLast?_eq_getElem?, List.getD, List.getElem?_eq_getElem (by omega)]; rfl)
  exact this
end Go.Proofs.YtfmebdmgnmogaaaGreatDoor
