/- Shorter rules for a walk through a body: loops with a state made of a parameter, results of a pure function. No statement of its own. -/
import Derived.Test.YtfmebdmgnmogaaaDoorQHvUse
set_option linter.unusedVariables false
namespace Go.Proofs.YtfmebdmgnmogaaaDoor.Hv
open Go Go.RowKit

theorem hwp_loopS {C : Ctx} {st : HS} {α : Type} (St : α → HS) (I : α → Prop) (μ : α → Nat) {c : Code} {Q : Exit → HS → Prop} (h0 : ∃ x, I x ∧ Cov C.n0 st (St x))
    (round : ∀ x, I x → hwp C c (thenH (fun s' => ∃ x', μ x' < μ x ∧ I x' ∧ Cov C.n0 s' (St x')) Q) (St x)) : hwp C (.loop c) Q st := by
  obtain ⟨x, hx, hc⟩ := h0
  refine hwp_loop (fun n s => ∃ x, n = μ x ∧ I x ∧ s = St x) ⟨μ x, St x, hc, x, rfl, hx, rfl⟩ ?_
  rintro n s ⟨x, rfl, hx, rfl⟩
  refine hwp_mono (round x hx) (fun e s h => ?_)
  cases e
  case normal => obtain ⟨x', h1, h2, h3⟩ := h; exact ⟨μ x', St x', h1, h3, x', rfl, h2, rfl⟩
  all_goals exact h

/-- A loop of at most n rounds, round by round. -/
def UN (C : Ctx) (c : Code) (Q : Exit → HS → Prop) : Nat → HS → Prop
  | 0, _ => False
  | n + 1, st => hwp C c (thenH (UN C c Q n) Q) st
theorem un_succ {C : Ctx} {c : Code} {Q : Exit → HS → Prop} {n : Nat} {st : HS} (h : hwp C c (thenH (UN C c Q n) Q) st) : UN C c Q (n + 1) st := h
theorem hwp_unroll {C : Ctx} {c : Code} {Q : Exit → HS → Prop} {st : HS} (n : Nat) (h : UN C c Q n st) : hwp C (.loop c) Q st := by
  intro m a w g b k cs
  have key : ∀ n s m a w, UN C c Q n s → Good C s m a w →
      ∃ e a' w', (∃ st' m', Q e st' ∧ Good C st' m' a' w') ∧ Arrives C.P (lone (b.at a (.code c :: .inLoop c :: k)) cs w) b k cs e a' w' := by
    intro n
    induction n with
    | zero => exact fun s m a w h _ => h.elim
    | succ n ih =>
      intro s m a w hI hg
      obtain ⟨e, a₁, w₁, ⟨s1, m1, hq, hg1⟩, harr⟩ := hI m a w hg b (.inLoop c :: k) cs
      cases e with
      | normal =>
        obtain ⟨e₂, a₂, w₂, hq₂, harr₂⟩ := ih s1 m1 a₁ w₁ hq hg1
        exact ⟨e₂, a₂, w₂, hq₂, .of_steps (Steps.trans harr (.one step_inLoop)) harr₂⟩
      | exit id => exact ⟨_, a₁, w₁, ⟨s1, m1, hq, hg1⟩, .pass (x := .inLoop c) rfl (fun _ _ => .inl (by simp)) harr⟩
      | goto l => exact ⟨_, a₁, w₁, ⟨s1, m1, hq, hg1⟩, .pass (x := .inLoop c) rfl (fun _ _ => .inl (by simp)) harr⟩
      | ret => exact ⟨_, a₁, w₁, ⟨s1, m1, hq, hg1⟩, .pass (x := .inLoop c) rfl (fun _ _ => .inl (by simp)) harr⟩
      | panic ch => exact ⟨_, a₁, w₁, ⟨s1, m1, hq, hg1⟩, .pass (x := .inLoop c) rfl (fun _ _ => .inl (by simp)) harr⟩
      | outgrown => exact ⟨_, a₁, w₁, ⟨s1, m1, hq, hg1⟩, .pass (x := .inLoop c) rfl (fun _ _ => .inl (by simp)) harr⟩
  obtain ⟨e, a', w', hq, harr⟩ := key n st m a w h g
  exact ⟨e, a', w', hq, .of_steps (.one step_loop) harr⟩

/-- What a body without borrowed rows has to show at its end. -/
def RQ (P : Program) (rs : List ResultVar) (r : HV) (e : Exit) (st : HS) : Prop := isRet e ∧ ∃ xs, ResL P 0 st rs xs ∧ r = oneOf xs

theorem calls_pure {P : Program} {f : FuncId} {fn : Func} {c : Code} {args : List HV} {r : HV} (hf : P.funcs[f]? = some fn) (hname : (fn.name == "runtime.NumGoroutine") = false) (hb : fn.body = some c) {rs : List ResultVar} (hrs : fn.results.toList = rs) {nt : Nat} (hnt : fn.ntmps = nt)
    (L : List (Nat × HV)) (hfr : ∀ t, lk L t = .any ∨ args[t]? = some (lk L t)) (hle : args.length ≤ nt)
    (h : ∀ C : Ctx, C.P = P → C.n0 = 0 → hwp C c (RQ P rs r) ⟨lk L, hlk [], 0, nt⟩) : HCallsD P f [] args r [] := by
  subst hrs hnt
  refine hcalls_intro hf hname hb [] (lk L) hfr hle (by simp) (fun C hP hn => ?_)
  rw [ofL_hlk0]
  exact hwp_mono (h C hP hn) (fun e st ⟨h1, xs, h2, h3⟩ => ⟨h1, xs, h2, h3, rfl, fun id h => absurd h (Nat.not_lt_zero _)⟩)

def CovL (st : HS) (H' : Hp) (σ : Nat → Nat) : List (Nat × HV) → Prop
  | [] => True
  | (t, x) :: L => (st.fr t = ren σ x ∧ ref st.hp H' σ x) ∧ CovL st H' σ L
def CovH (st : HS) (H' : Hp) (σ : Nat → Nat) : List (Nat × HBlk) → Prop
  | [] => True
  | (i, b) :: L => (b.al = true ∧ st.hp (σ i) = { b with cells := b.cells.map (ren1 σ) } ∧ (∀ c ∈ b.cells, ref1 st.hp H' σ c)) ∧ CovH st H' σ L
theorem covL_cons (st : HS) (H' : Hp) (σ : Nat → Nat) (t : Nat) (x : HV) (L : List (Nat × HV)) : CovL st H' σ ((t, x) :: L) = ((st.fr t = ren σ x ∧ ref st.hp H' σ x) ∧ CovL st H' σ L) := rfl
theorem covH_cons (st : HS) (H' : Hp) (σ : Nat → Nat) (t : Nat) (b : HBlk) (L : List (Nat × HBlk)) : CovH st H' σ ((t, b) :: L) = ((b.al = true ∧ st.hp (σ t) = { b with cells := b.cells.map (ren1 σ) } ∧ (∀ c ∈ b.cells, ref1 st.hp H' σ c)) ∧ CovH st H' σ L) := rfl
theorem covL_nil (st : HS) (H' : Hp) (σ : Nat → Nat) : CovL st H' σ [] = True := rfl
theorem covH_nil (st : HS) (H' : Hp) (σ : Nat → Nat) : CovH st H' σ [] = True := rfl
theorem covL_all {st : HS} {H' : Hp} {σ : Nat → Nat} : ∀ {L : List (Nat × HV)}, CovL st H' σ L → ∀ p ∈ L, covF st H' σ p
  | (t, x) :: L, h, p, hp => by
    rcases List.mem_cons.1 hp with rfl | hp
    · exact h.1
    · exact covL_all h.2 p hp
theorem covH_all {st : HS} {H' : Hp} {σ : Nat → Nat} : ∀ {L : List (Nat × HBlk)}, CovH st H' σ L → ∀ p ∈ L, covB st H' σ p
  | (t, x) :: L, h, p, hp => by
    rcases List.mem_cons.1 hp with rfl | hp
    · exact h.1
    · exact covH_all h.2 p hp
theorem cov_go {C : Ctx} (hn : C.n0 = 0) {st : HS} (s : List (Nat × Nat)) (L : List (Nat × HV)) (H : List (Nat × HBlk)) (nx : Nat) {nt : Nat} (h7 : nt = st.nt) (h3 : (H.map fun p => sg s p.1).Nodup) (h1 : CovL st (hlk H) (sg s) L) (h2 : CovH st (hlk H) (sg s) H) : Cov C.n0 st ⟨lk L, hlk H, nx, nt⟩ := by
  rw [hn]
  exact cov_lists s L H nx (covL_all h1) (covH_all h2) h3 (fun p _ _ => Nat.zero_le _) (fun id h => absurd h (Nat.not_lt_zero _)) (Nat.zero_le _) h7
/-- Which block of the new state is which of the old one: told by a slot. -/
inductive Slots (st : HS) : List (Nat × Nat) → Prop
  | nil : Slots st []
  | own (a t : Nat) {b o n : Nat} {f : Bool} {s : List (Nat × Nat)} (h : st.fr t = .own b o n f) (r : Slots st s) : Slots st ((a, b) :: s)
  | ptr (a t : Nat) {b o : Nat} {s : List (Nat × Nat)} (h : st.fr t = .ptr b o) (r : Slots st s) : Slots st ((a, b) :: s)
theorem cov_slots {C : Ctx} (hn : C.n0 = 0) {st : HS} {s : List (Nat × Nat)} (L : List (Nat × HV)) (H : List (Nat × HBlk)) (nx : Nat) {nt : Nat} (h7 : nt = st.nt) (hs : Slots st s)
    (h3 : (H.map fun p => sg s p.1).Nodup) (h1 : CovL st (hlk H) (sg s) L) (h2 : CovH st (hlk H) (sg s) H) : Cov C.n0 st ⟨lk L, hlk H, nx, nt⟩ := cov_go hn s L H nx h7 h3 h1 h2
theorem args_one (x : HV) : ∀ t, lk [(0, x)] t = .any ∨ [x][t]? = some (lk [(0, x)] t) := by
  intro t
  match t with
  | 0 => exact .inr rfl
  | t + 1 => exact .inl rfl
theorem args_two (x y : HV) : ∀ t, lk [(0, x), (1, y)] t = .any ∨ [x, y][t]? = some (lk [(0, x), (1, y)] t) := by
  intro t
  match t with
  | 0 => exact .inr rfl
  | 1 => exact .inr rfl
  | t + 2 => exact .inl rfl
theorem args_three (x y z : HV) : ∀ t, lk [(0, x), (1, y), (2, z)] t = .any ∨ [x, y, z][t]? = some (lk [(0, x), (1, y), (2, z)] t) := by
  intro t
  match t with
  | 0 => exact .inr rfl
  | 1 => exact .inr rfl
  | 2 => exact .inr rfl
  | t + 3 => exact .inl rfl
theorem args_none : ∀ t, lk [] t = .any ∨ ([] : List HV)[t]? = some (lk [] t) := fun t => .inl rfl

def Res1 (P : Program) (st : HS) (r : ResultVar) (x : HV) : Prop := match resOf P st r with | some (y, p) => p ∧ (x = fz st.hp y ∨ x = nf (fz st.hp y)) ∧ okz st.hp y ∧ ∀ id ∈ ids y, 0 ≤ id | none => False
theorem res_tmp {P : Program} {st : HS} {t : Nat} {x : HV} (h : x = fzn st.hp (st.fr t)) (hok : okz st.hp (st.fr t)) : Res1 P st (.tmp t) x := ⟨trivial, .inr h, hok, fun _ _ => Nat.zero_le _⟩
theorem res_cell {P : Program} {st : HS} {p t sz id : Nat} {x : HV} (ht : tyT P t = some (true, sz)) (hp : st.fr p = .ptr id 0) (hl : (st.hp id).live = true) (hlen : sz ≤ (st.hp id).cells.length)
    (h : x = fzn st.hp (.agg ((st.hp id).cells.take sz))) (hok : okz st.hp (.agg ((st.hp id).cells.take sz))) : Res1 P st (.cell p t) x := by
  simp only [Res1, resOf, hp, ht, if_true, List.drop_zero]
  exact ⟨⟨hl, by omega, by simp⟩, .inr h, hok, fun _ _ => Nat.zero_le _⟩
theorem rq_none {P : Program} {e : Exit} {st : HS} (he : isRet e) : RQ P [] (.tup []) e st := ⟨he, [], trivial, rfl⟩
theorem rq_one {P : Program} {r1 : ResultVar} {x1 : HV} {e : Exit} {st : HS} (he : isRet e) (h1 : Res1 P st r1 x1) : RQ P [r1] x1 e st := ⟨he, [x1], ⟨h1, trivial⟩, rfl⟩
theorem rq_two {P : Program} {r1 r2 : ResultVar} {x1 x2 : HV} {e : Exit} {st : HS} (he : isRet e) (h1 : Res1 P st r1 x1) (h2 : Res1 P st r2 x2) : RQ P [r1, r2] (.tup [x1, x2]) e st := ⟨he, [x1, x2], ⟨h1, h2, trivial⟩, rfl⟩
theorem rq_three {P : Program} {r1 r2 r3 : ResultVar} {x1 x2 x3 : HV} {e : Exit} {st : HS} (he : isRet e) (h1 : Res1 P st r1 x1) (h2 : Res1 P st r2 x2) (h3 : Res1 P st r3 x3) : RQ P [r1, r2, r3] (.tup [x1, x2, x3]) e st := ⟨he, [x1, x2, x3], ⟨h1, h2, h3, trivial⟩, rfl⟩
theorem toNat_sub1 (n : Nat) : ((n : Int) - 1).toNat = n - 1 := by omega
theorem toNat_add1 (n : Nat) : ((n : Int) + 1).toNat = n + 1 := by omega
theorem toNat_sub (n m : Nat) : ((n : Int) - (m : Int)).toNat = n - m := by omega
theorem toNat_add (n m : Nat) : ((n : Int) + (m : Int)).toNat = n + m := by omega

theorem normal_then {X : HS → Prop} {Q : Exit → HS → Prop} {st : HS} (h : X st) : thenH X Q .normal st := h
theorem exit_then {X : HS → Prop} {Q : Exit → HS → Prop} {st : HS} {id : Nat} (h : Q (.exit id) st) : thenH X Q (.exit id) st := h
theorem ret_then {X : HS → Prop} {Q : Exit → HS → Prop} {st : HS} (h : Q .ret st) : thenH X Q .ret st := h
theorem normal_in {Q : Exit → HS → Prop} {st : HS} {id : Nat} (h : Q .normal st) : inB id Q .normal st := h
theorem ret_in {Q : Exit → HS → Prop} {st : HS} {id : Nat} (h : Q .ret st) : inB id Q .ret st := h
theorem exit_in {Q : Exit → HS → Prop} {st : HS} {id : Nat} (h : Q .normal st) : inB id Q (.exit id) st := by simp only [inB, if_true]; exact h
theorem exit_out {Q : Exit → HS → Prop} {st : HS} {id id' : Nat} (hne : (id' == id) = false) (h : Q (.exit id') st) : inB id Q (.exit id') st := by
  simp only [inB]; rw [if_neg (by simpa using hne)]; exact h
def hwpCond (C : Ctx) (c : Operand) (x y : Code) (Q : Exit → HS → Prop) (st : HS) : Prop := hwp C (.cond c x y) Q st
theorem hwp_cond_pre {C : Ctx} {st : HS} {c : Operand} {x y : Code} {Q : Exit → HS → Prop} (h : hwpCond C c x y Q st) : hwp C (.cond c x y) Q st := h
theorem hwp_cond_post {C : Ctx} {st : HS} {c : Operand} {x y : Code} {Q : Exit → HS → Prop} {t : Bool} (hc : ev st.fr c = .raw (.bool t)) (hx : t = true → hwp C x Q st) (hy : t = false → hwp C y Q st) : hwpCond C c x y Q st := hwp_cond hc hx hy
theorem hwp_loop_round {C : Ctx} {st : HS} {α : Type} {St : α → HS} {I : α → Prop} {μ : α → Nat} {n : Nat} (x : α) (h1 : μ x < n) (h2 : I x) (h3 : Cov C.n0 st (St x)) : ∃ x', μ x' < n ∧ I x' ∧ Cov C.n0 st (St x') := ⟨x, h1, h2, h3⟩
end Go.Proofs.YtfmebdmgnmogaaaDoor.Hv
set_option linter.unusedVariables false
namespace Go.Proofs.YtfmebdmgnmogaaaDoor.Hv
open Go Go.RowKit

/-- What a body with one borrowed row has to show at its end. -/
def RQB (P : Program) (rs : List ResultVar) (r : HV) (b' : HBlk) (e : Exit) (st : HS) : Prop := isRet e ∧ (∃ xs, ResL P 1 st rs xs ∧ r = oneOf xs) ∧ st.hp 0 = b' ∧ ∀ c ∈ b'.cells, c.flat = true

theorem calls_bor {P : Program} {f : FuncId} {fn : Func} {c : Code} {args : List HV} {r : HV} {b b' : HBlk} (hf : P.funcs[f]? = some fn) (hname : (fn.name == "runtime.NumGoroutine") = false) (hb : fn.body = some c) {rs : List ResultVar} (hrs : fn.results.toList = rs) {nt : Nat} (hnt : fn.ntmps = nt)
    (L : List (Nat × HV)) (hfr : ∀ t, lk L t = .any ∨ args[t]? = some (lk L t)) (hle : args.length ≤ nt) (hg : b.grow = false)
    (h : ∀ C : Ctx, C.P = P → C.n0 = 1 → hwp C c (RQB P rs r b') ⟨lk L, hlk [(0, b)], 1, nt⟩) : HCallsD P f [b] args r [b'] := by
  subst hrs hnt
  refine hcalls_intro hf hname hb [] (lk L) hfr hle (by simpa using hg) (fun C hP hn => ?_)
  rw [ofL_hlk1]
  refine hwp_mono (h C hP hn) (fun e st ⟨h1, ⟨xs, h2, h3⟩, h4, h5⟩ => ⟨h1, xs, h2, h3, rfl, fun id hid => ?_⟩)
  have : id = 0 := by simp at hid; omega
  subst this
  rw [h4]
  exact ⟨rfl, h5⟩
theorem cov_bor {C : Ctx} (hn : C.n0 = 1) {st : HS} (L : List (Nat × HV)) (b : HBlk) {nt : Nat} (h7 : nt = st.nt) (h1 : CovL st (hlk [(0, b)]) (sg []) L) (h2 : CovH st (hlk [(0, b)]) (sg []) [(0, b)]) : Cov C.n0 st ⟨lk L, hlk [(0, b)], 1, nt⟩ := by
  rw [hn]
  exact cov_lists [] L [(0, b)] 1 (covL_all h1) (covH_all h2) (by simp) (fun p hp h => by simp at hp; subst hp; simp at h) (fun id h => rfl) (Nat.le_refl _) h7
theorem rqb_none {P : Program} {e : Exit} {st : HS} {b' : HBlk} (he : isRet e) (h : st.hp 0 = b') (hf : ∀ c ∈ b'.cells, c.flat = true) : RQB P [] (.tup []) b' e st := ⟨he, ⟨[], trivial, rfl⟩, h, hf⟩
theorem rqb_raw {P : Program} {t : Nat} {v : Value} {e : Exit} {st : HS} {b' : HBlk} (he : isRet e) (hv : st.fr t = .raw v) (h : st.hp 0 = b') (hf : ∀ c ∈ b'.cells, c.flat = true) : RQB P [.tmp t] (.raw v) b' e st := by
  refine ⟨he, ⟨[.raw v], ⟨?_, trivial⟩, rfl⟩, h, hf⟩
  show True ∧ _
  rw [hv]
  exact ⟨trivial, .inl rfl, trivial, by simp [ids, id1]⟩
end Go.Proofs.YtfmebdmgnmogaaaDoor.Hv
namespace Go.Proofs.YtfmebdmgnmogaaaDoor.Hv
open Go Go.RowKit
attribute [push_cast high] gK_tt gK_ff gK_tf gK_ft fm_cons fm_nil mapA_cons mapA_nil lk_cons hlk_cons lk_nil hlk_nil vcOps_nil vcOps_cons vcOps_consD vcG_free vcG_guard vcOp_def covL_cons covH_cons covL_nil covH_nil
attribute [push_cast] decide_eq_true_eq decide_eq_false_iff_not decide_true decide_false Nat.mul_one ints_getD_drop ints_getD Go.IntWalk.i64_in Go.IntWalk.u32_in Go.IntWalk.u64_in List.length_drop List.length_set List.length_append List.length_replicate
  toNat_sub1 toNat_add1 toNat_sub toNat_add Int.toNat_natCast Int.zero_add Int.add_zero Int.toNat_zero Nat.zero_mul Nat.zero_add Nat.add_zero List.drop_zero u64_low i64_high List.take_length Go.IntWalk.rem_in Go.IntWalk.u64_quo Go.IntWalk.u32_quo Go.IntWalk.i64_quo
  Int.tdiv_eq_ediv_of_nonneg Int.sub_zero Nat.sub_zero ints_splice1 ints_snoc ints_toNil List.getElem?_cons_zero List.getElem?_cons_succ ne_eq not_true_eq_false or_self Int.le_refl Nat.le_refl Int.natCast_nonneg gt_iff_lt ge_iff_le false_or or_false or_true true_or
  Bool.true_or Bool.false_or Bool.and_self Bool.or_false Bool.or_true
attribute [push_cast] ren_raw ren_any ren_sl ren_own ren_ptr ren_iptr ren_agg ren1_raw ren1_sl ren1_own ren1_ptr ref_raw ref_any ref_sl ref_own ref_ptr ref_iptr ref_agg ref1_raw ref1_sl ref1_own ref1_ptr ref1_ints sg_nil sg_cons HV.sl.injEq HV.own.injEq HV.raw.injEq not_false_eq_true List.nodup_cons List.nodup_nil HV.agg.injEq List.cons.injEq
end Go.Proofs.YtfmebdmgnmogaaaDoor.Hv
