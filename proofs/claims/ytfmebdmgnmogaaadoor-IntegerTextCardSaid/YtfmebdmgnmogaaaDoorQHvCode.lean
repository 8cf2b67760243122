/- Rules for code over abstract values: regions, branches, loops, calls of functions. No statement of its own. -/
import Derived.Test.YtfmebdmgnmogaaaDoorQHvBor
namespace Go.Proofs.YtfmebdmgnmogaaaDoor.Hv
open Go Go.RowKit

variable {C : Ctx} {st : HS} {m : Mp} {a : Act} {w : World}

theorem Pass.wanted (g : Good C st m a w) {ops : Array Oper} {o : Oper} {b : Bool} (h : Pass ops o st.fr b) : Region.wanted o (yielded ops a.tmps) = b := by
  have key : ∀ (d : Tmp) (v : Value), st.fr d = .raw v → a.tmps.getD d undef = v := fun d v e => by
    have := g.fr d
    rw [e] at this
    cases this
    rfl
  have ykey : ∀ (j : Nat) (d : Tmp) (v : Value), (ops[j]?).bind (·.dst) = some d → st.fr d = .raw v → yielded ops a.tmps j = match v with | .bool b => some b | _ => none := by
    intro j d v hd hv
    have := key d v hv
    unfold yielded
    rw [hd]
    simp only [Option.bind_some]
    cases hq : a.tmps[d]? with
    | none =>
      simp only [Array.getD_eq_getD_getElem?, hq, Option.getD_none] at this
      rw [← this]; rfl
    | some u =>
      simp only [Array.getD_eq_getD_getElem?, hq, Option.getD_some] at this
      subst this
      cases u <;> rfl
  unfold Region.wanted
  cases h with
  | free h => rw [h]
  | yes j want d h1 h2 h3 => rw [h1]; simp only; rw [ykey j d _ h2 h3]; simp
  | no j want d v h1 h2 h3 h4 =>
    rw [h1]; simp only; rw [ykey j d _ h2 h3]
    cases v <;> simp_all

theorem run_call {P : Program} {o : Oper} {c : Call} {f : FuncId} (hop : o.op = .call c) (hcal : c.callee = .value (.func f)) (hc : callable P f) (a : Act) (w : World) :
    (execOp a.eval o).run P w = .ok (.enter f (c.args.map a.eval)) w := by
  obtain ⟨fn, h1, h2, h3⟩ := hc
  have h2' : ¬ fn.name = "runtime.NumGoroutine" := by simpa using h2
  have h3' : ¬ fn.body = none := by intro e; rw [e] at h3; cases h3
  simp [execOp, hop, resolve, hcal, Act.eval, Deferred.ofValue, invoke, callFunc, h1, h2', h3']

/-- A step, on the machine. -/
theorem op_sound (g : Good C st m a w) {Γ : FuncId → Option Nat} {ops : Array Oper} {i : Nat} (hn : C.n0 ≤ i) {o : Oper} {x : HV} {wr : List (Nat × HBlk)} {ft : Foot} (hs : StepG C.P Γ ops i o st x wr ft) (hd : dOK o.dst st.nt)
    {K : Act → World → Prop} {Q : Exit → Act → World → Prop} (hK : ∀ m' a' w', Good C (st.app o.dst x wr) m' a' w' → K a' w') :
    if Region.wanted o (yielded ops a.tmps) then o.wp C.P a w K Q ∨ (o.asks C.P a w ∧ LetsOut Q) else K (a.put o.dst undef) w := by
  rcases hs with ⟨hp, E, h1, h2, rfl, h3⟩ | ⟨hp, rfl, rfl, rfl⟩
  · rw [hp.wanted g]
    simp only [if_true]
    refine .inl ?_
    unfold Oper.wp
    split at h3 <;> rename_i hres
    · obtain ⟨rfl, rfl⟩ := h3
      obtain ⟨v', w', m', hrun, hg, hrep⟩ := exec_sound g hn h1 h2 hres
      rcases hrun with hrun | ⟨hrun, rfl⟩
      · rw [hrun]
        exact hK m' _ _ (hg.put o.dst hd hrep)
      · rw [hrun]
        exact hK m' _ _ (hg.put o.dst hd hrep)
    · rename_i f args wr'
      obtain ⟨hc, rfl⟩ := h3
      rcases opEff_val h1 with ⟨y, wy, e⟩ | ⟨c, f', hop, hcal, heff⟩
      · rw [e] at hres; cases hres
      · unfold effCall at heff
        split at heff
        · rename_i hΓ
          simp only [Option.some.injEq] at heff
          subst heff
          simp only [Res.call.injEq] at hres
          obtain ⟨rfl, rfl, rfl⟩ := hres
          rw [run_call hop hcal hc.1, Oper.upon_enter]
          have hl : ((c.args.toList.map a.eval).length = (c.args.toList.map (ev st.fr)).length) := by simp
          have hr : ∀ (j : Nat) (x : HV) (v : Value), (c.args.toList.map (ev st.fr))[j]? = some x → (c.args.toList.map a.eval)[j]? = some v → R C st m w x v := fun j x v h1 h2 => by
            simp only [List.getElem?_map, Option.map_eq_some_iff] at h1 h2
            obtain ⟨y, hy, rfl⟩ := h1
            obtain ⟨y', hy', rfl⟩ := h2
            rw [hy] at hy'; injection hy' with hy'; subst hy'
            exact g.ev y
          have := call_sound g hl hr h2 hc
          have e : (c.args.toList.map a.eval).toArray = c.args.map a.eval := by simp [← Array.toList_map]
          rw [e] at this
          refine this.mono ?_
          rintro e w' ⟨v, rfl, hg, hrep⟩
          exact hK m _ _ (hg.put o.dst hd hrep)
        · split at heff
          · simp only [Option.some.injEq] at heff; subst heff; cases hres
          · cases heff
    · rename_i f bid boff b args wr'
      obtain ⟨cs, hc, ⟨hlen, hcf, hxf⟩, rfl⟩ := h3
      rcases opEff_val h1 with ⟨y, wy, e⟩ | ⟨c, f', hop, hcal, heff⟩
      · rw [e] at hres; cases hres
      · unfold effCall at heff
        split at heff
        · simp only [Option.some.injEq] at heff; subst heff; cases hres
        · rename_i j hΓ
          split at heff
          · rename_i id off n full hj
            simp only [Option.some.injEq] at heff
            subst heff
            simp only [Res.callB.injEq] at hres
            obtain ⟨rfl, rfl, rfl, rfl, rfl, rfl⟩ := hres
            obtain ⟨s1, s2, s3, s4, s5, s6⟩ := h2
            rw [run_call hop hcal hc.1, Oper.upon_enter]
            have hl : ((c.args.toList.map a.eval).length = (c.args.toList.map (ev st.fr)).length) := by simp
            have hr : ∀ (j : Nat) (x : HV) (v : Value), (c.args.toList.map (ev st.fr))[j]? = some x → (c.args.toList.map a.eval)[j]? = some v → R C st m w x v := fun j x v h1 h2 => by
              simp only [List.getElem?_map, Option.map_eq_some_iff] at h1 h2
              obtain ⟨y, hy, rfl⟩ := h1
              obtain ⟨y', hy', rfl⟩ := h2
              rw [hy] at hy'; injection hy' with hy'; subst hy'
              exact g.ev y
            have := callB_sound g hl hr hj s1 s2 s3 s4 s5 s6 hc hlen hcf
            have e : (c.args.toList.map a.eval).toArray = c.args.map a.eval := by simp [← Array.toList_map]
            rw [e] at this
            refine this.mono ?_
            rintro e w' ⟨v, rfl, hg, hrep⟩
            exact hK m _ _ (hg.put o.dst hd (hrep hxf))
          · cases heff
  · rw [hp.wanted g]
    simp only [Bool.false_eq_true, if_false]
    exact hK m _ _ (g.put o.dst hd (.raw undef))

/-! ### Regions -/
def hwp (C : Ctx) (c : Code) (Q : Exit → HS → Prop) (st : HS) : Prop :=
  ∀ m a w, Good C st m a w → c.wp C.P (fun e a' w' => ∃ st' m', Q e st' ∧ Good C st' m' a' w') a w

theorem Good.nxs (g : Good C st m a w) {n : Nat} (h : st.nx ≤ n) : Good C { st with nx := n } m a w :=
  ⟨g.defers, g.nt, g.fr, g.heap, g.chg, g.base, g.fresh, g.win, g.xo, g.bnd, Nat.le_trans g.nx h, g.g0⟩

theorem ops_sound {Γ : FuncId → Option Nat} {ops : Array Oper} {base : Nat} {Q : HS → Prop} {Q' : Exit → Act → World → Prop} (hn : C.n0 ≤ base) (hQ : ∀ st m a w, Q st → Good C st m a w → Q' .normal a w) :
    ∀ (l : List Oper) (k : Nat) (G : List (Nat × Option Tmp)) (L : List (Nat × Foot)) (st : HS) (m : Mp) (a : Act) (w : World), (∀ j, l[j]? = ops[k + j]?) → GOK ops G → vcOps C.P Γ ops base false k l G L st Q → Good C st m a w → wpOps C.P ops Q' (List.range' k l.length) a w
  | [], k, G, L, st, m, a, w, _, _, h, g => by simp only [List.length_nil, List.range'_zero, wpOps]; exact hQ st m a w h g
  | o :: l, k, G, L, st, m, a, w, hl, hG, h, g => by
    have h0 : ops[k]? = some o := by simpa using (hl 0).symm
    simp only [vcOps] at h
    obtain ⟨x, wr, ft, h1, h2, h3, h4⟩ := vcG_step hG h
    have := op_sound g (i := base + 4 * k) (by omega) h1 h2 (K := wpOps C.P ops Q' (List.range' (k + 1) l.length)) (Q := Q') (fun m' a' w' g' =>
      ops_sound hn hQ l (k + 1) _ _ _ m' a' w' (fun j => by have := hl (j + 1); simpa [Nat.add_assoc, Nat.add_comm 1 j] using this) (hG.step h0) h4 g')
    simp only [List.length_cons, List.range'_succ, wpOps, h0]
    exact this

theorem anyV_sound {Γ : FuncId → Option Nat} {ops : Array Oper} {base : Nat} {Q : HS → Prop} {Q' : Exit → Act → World → Prop} (hn : C.n0 ≤ base) (hQ : ∀ st m a w, Q st → Good C st m a w → Q' .normal a w) :
    ∀ (fuel : Nat) (listed : Array Bool) (L : Nat → Option Foot) (st : HS) (m : Mp) (a : Act) (w : World), anyV C.P Γ ops base Q fuel listed L st → Good C st m a w → wpAny C.P .any ops Q' fuel listed a w
  | 0, listed, L, st, m, a, w, h, g => ⟨h.1, hQ st m a w h.2 g⟩
  | fuel + 1, listed, L, st, m, a, w, h, g => by
    refine ⟨fun h0 => hQ st m a w (h.1 h0) g, fun j hj => ?_⟩
    obtain ⟨o, ho, x, wr, ft, h1, h2, _, h4⟩ := h.2 j hj
    have := op_sound g (i := base + 4 * j) (by omega) h1 h2 (K := wpAny C.P .any ops Q' fuel (listed.setIfInBounds j true)) (Q := Q') (fun m' a' w' g' => anyV_sound hn hQ fuel _ _ _ m' a' w' h4 g')
    unfold wpOp
    rw [ho]
    exact this

def HS.adv (st : HS) (n : Nat) : HS := { st with nx := st.nx + n }

theorem hwp_region {Γ : FuncId → Option Nat} {id : Nat} {ops : Array Oper} {draw : Bool} {Q : Exit → HS → Prop} (hm : draw = true → C.P.follows .mixedOrders = true ∧ Region.lexB .any ops = true)
    (h : vcOps C.P Γ ops st.nx draw 0 ops.toList [] [] (st.adv (4 * ops.size)) (fun st' => Q .normal st')) : hwp C (.region id ops draw) Q st := by
  intro m a w g
  have g' := g.nxs (n := st.nx + 4 * ops.size) (by omega)
  cases draw with
  | false =>
    refine wp_region ?_
    have := ops_sound (C := C) (Q := fun st' => Q .normal st') (Q' := fun e a' w' => ∃ st' m', Q e st' ∧ Good C st' m' a' w') g.nx (fun st m a w hq hg => ⟨st, m, hq, hg⟩) ops.toList 0 [] [] (st.adv (4 * ops.size)) m a w (by simp) (GOK.nil ops) h g'
    rw [Array.length_toList] at this
    rw [List.range_eq_range']
    exact this
  | true =>
    obtain ⟨h1, h2⟩ := hm rfl
    refine wp_region_any h1 ?_
    simp only [Region.lexB, Bool.and_eq_true] at h2
    have hlex := anyV_lex (P := C.P) (Γ := Γ) (ops := ops) (base := st.nx) (Q := fun st' => Q .normal st') ops.toList 0 (Array.replicate ops.size false) [] [] (st.adv (4 * ops.size)) (by simp) (by simpa using h2.2)
      (fun k hk n i _ => by
        simp only [Array.getD_eq_getD_getElem?] at hk
        by_cases hlt : k < ops.size
        · simp [hlt] at hk
        · simp [hlt] at hk) (GOK.nil ops) (by simp) h
    have hs := anyV_sound (C := C) (Q' := fun e a' w' => ∃ st' m', Q e st' ∧ Good C st' m' a' w') g.nx (fun st m a w hq hg => ⟨st, m, hq, hg⟩) _ _ _ _ m a w.drew hlex g'.drew
    rw [Array.length_toList] at hs
    exact hs

end Go.Proofs.YtfmebdmgnmogaaaDoor.Hv
