/- The operations' soundness, first part: what they compute and where they allocate, load and store. No statement of its own. -/
import Derived.Test.YtfmebdmgnmogaaaDoorQHvOp
namespace Go.Proofs.YtfmebdmgnmogaaaDoor.Hv
open Go Go.RowKit

def setAll (hp : Hp) (wr : List (Nat × HBlk)) : Hp := wr.foldl (fun h p => upd h p.1 p.2) hp

/-- What an operation leaves: the value read, the blocks set. -/
def Out (C : Ctx) (st : HS) (a : Act) (wr : List (Nat × HBlk)) (x : HV) (r : Result Next) : Prop :=
  ∃ v' w' m', (r = .ok (.value v') w' ∨ (r = .ok .skip w' ∧ v' = undef)) ∧ Good C { st with hp := setAll st.hp wr } m' a w' ∧
    Rep w' (Xt C.Xo m' (setAll st.hp wr)) m' (setAll st.hp wr) x v'

variable {C : Ctx} {st : HS} {m : Mp} {a : Act} {w : World}

abbrev R (C : Ctx) (st : HS) (m : Mp) (w : World) (x : HV) (v : Value) : Prop := Rep w (Xt C.Xo m st.hp) m st.hp x v

theorem Out.pure (g : Good C st m a w) {x : HV} {v : Value} (r : R C st m w x v) : Out C st a [] x (.ok (.value v) w) := ⟨v, w, m, .inl rfl, g, r⟩

theorem run_v {P : Program} {s : Sem Value} {w w' : World} {v : Value} (h : s.run P w = .ok v w') : (do let x ← s; Pure.pure (Next.value x) : Sem Next).run P w = .ok (.value v) w' := by
  simp [h]
theorem run_u {P : Program} {s : Sem Unit} {w w' : World} (h : s.run P w = .ok () w') : (do s; Pure.pure Next.skip : Sem Next).run P w = .ok .skip w' := by
  simp [h]

theorem ofConst_rep {X : AP} {h : Hp} (v : Value) : Rep w X m h (ofConst v) v := by
  unfold ofConst
  split
  · exact .sl 0 true [] none 0 [] rfl (Nat.le_refl _) (fun _ => rfl) (Nat.zero_le _) (by simp) (by simp) (by simp)
  · exact .raw _
theorem ofConst_one {v : Value} (h : v.oneCell' = true) : (ofConst v).one = true := by
  unfold ofConst
  split
  · rfl
  · exact h
theorem one_rep {X : AP} {h : Hp} {x : HV} {v : Value} (r : Rep w X m h x v) (ho : x.one = true) : v.oneCell' = true := by
  cases r <;> first | exact ho | rfl | simp [HV.one] at ho

theorem cells_rep {X : AP} {h : Hp} {x : HV} {v : Value} (r : Rep w X m h x v) (ho : ∀ c ∈ x.cellsOf, c.one = true) :
    v.cells.size = x.cellsOf.length ∧ ∀ (j : Nat) (c : HV), x.cellsOf[j]? = some c → ∃ u, v.cells[j]? = some u ∧ u.oneCell' = true ∧ Rep w X m h c u := by
  have base : ∀ {x : HV} {v : Value}, Rep w X m h x v → x.cellsOf = [x] → x.one = true → v.cells.size = x.cellsOf.length ∧
      ∀ (j : Nat) (c : HV), x.cellsOf[j]? = some c → ∃ u, v.cells[j]? = some u ∧ u.oneCell' = true ∧ Rep w X m h c u := by
    intro x v r e ho
    have h1 := one_rep r ho
    have hc : v.cells = #[v] := by cases v <;> first | rfl | simp [Value.oneCell'] at h1
    rw [hc, e]
    refine ⟨rfl, fun j c hj => ?_⟩
    cases j with
    | zero => simp at hj; subst hj; exact ⟨v, rfl, h1, r⟩
    | succ j => simp at hj
  cases x with
  | agg cs =>
    cases r with
    | agg _ vs hl hr =>
      refine ⟨by simpa [Value.cells, HV.cellsOf] using hl, fun j c hj => ?_⟩
      have hlt : j < vs.length := by have := (List.getElem?_eq_some_iff.1 hj).1; simp only [HV.cellsOf] at this; omega
      have hv : vs[j]? = some vs[j] := List.getElem?_eq_getElem hlt
      have rr := hr j c _ hj hv
      exact ⟨vs[j], by simp [Value.cells, hlt], one_rep rr (ho c (List.mem_of_getElem? hj)), rr⟩
  | any => exact base r rfl (ho _ (by simp [HV.cellsOf]))
  | raw v => exact base r rfl (ho _ (by simp [HV.cellsOf]))
  | sl _ _ _ => exact base r rfl (ho _ (by simp [HV.cellsOf]))
  | tup _ => exact base r rfl (ho _ (by simp [HV.cellsOf]))
  | own _ _ _ _ => exact base r rfl (ho _ (by simp [HV.cellsOf]))
  | ptr _ _ => exact base r rfl (ho _ (by simp [HV.cellsOf]))
  | iptr _ => exact base r rfl (ho _ (by simp [HV.cellsOf]))

theorem Good.ev (g : Good C st m a w) (x : Operand) : R C st m w (ev st.fr x) (a.eval x) := by
  cases x with
  | tmp t => exact g.fr t
  | const v => exact ofConst_rep v
  | global g' => exact .raw _
  | func f => exact .raw _

/-! ### A new block -/
theorem nb_out (g : Good C st m a w) {i : Nat} (hn : C.n0 ≤ i) (hi : (st.hp i).al = false) {x : HV} {b : HBlk} (hb : b.al = true ∧ b.live = true) (cs : Array Value) (hlen : b.cells.length ≤ cs.size)
    (hx : ∀ (j : Nat) (x : HV), b.cells[j]? = some x → ∃ v, cs[j]? = some v ∧ v.oneCell' = true ∧ R C st m w x v) {v : Value}
    (hv : ∀ (h' : Hp) (X : AP), h' i = b → Rep (w.alloc (.cells cs b.elem)) X (upd m i (some (w.heap.size, 0))) h' x v) : Out C st a [(i, b)] x (.ok (.value v) (w.alloc (.cells cs b.elem))) := by
  obtain ⟨al, live, wb, grow, elem, sz, cells⟩ := b
  obtain ⟨rfl, rfl⟩ := hb
  exact ⟨v, _, _, .inl rfl, g.alloc i hi hn wb grow elem sz cells cs hlen hx, hv _ _ (upd_same _ _ _)⟩

theorem snd_alloc (g : Good C st m a w) {i : Nat} (hn : C.n0 ≤ i) {t : TypeId} {E : Eff} {x : HV} {wr : List (Nat × HBlk)} (he : effAlloc C.P i st.hp t = some E) (hs : E.side) (hr : E.res = .val x wr) :
    Out C st a wr x ((do let v ← Instr.alloc t true (.tuple #[]); Pure.pure (Next.value v) : Sem Next).run C.P w) := by
  unfold effAlloc at he
  split at he
  · rename_i zs hz
    simp only [nb, Option.some.injEq] at he
    subst he
    simp only [Res.val.injEq] at hr
    obtain ⟨rfl, rfl⟩ := hr
    obtain ⟨h1, h2⟩ := hs
    unfold zrT at hz
    cases hi : C.P.info? t with
    | none => simp [hi] at hz
    | some info =>
      cases hzz : info.zero with
      | none => simp [hi, hzz] at hz
      | some z =>
        simp [hi, hzz] at hz
        subst hz
        have hrun : (Instr.alloc t true (.tuple #[])).run C.P w = .ok (.pointer (some ⟨w.heap.size, 0, none⟩)) (w.alloc (.cells z.cells t)) := by
          simp [Instr.alloc, zeroValue, typeInfo, hi, hzz, newVar, newRow]
        rw [run_v hrun]
        refine nb_out g hn h1 ⟨rfl, rfl⟩ z.cells (by simp) (fun j x hj => ?_) (fun h' X e => .ptr i 0 w.heap.size 0 (by rw [e]) (upd_same _ _ _))
        simp only [List.getElem?_map, Option.map_eq_some_iff] at hj
        obtain ⟨u, hu, rfl⟩ := hj
        exact ⟨u, by simpa using hu, h2 u (List.mem_of_getElem? hu), ofConst_rep u⟩
  · cases he

theorem snd_box (g : Good C st m a w) {i : Nat} (hn : C.n0 ≤ i) {t : TypeId} {y : HV} {u : Value} (hy : R C st m w y u) {E : Eff} {x : HV} {wr : List (Nat × HBlk)} (he : effBox i st.hp t y = some E) (hs : E.side) (hr : E.res = .val x wr) :
    Out C st a wr x ((do let v ← Instr.box t u; Pure.pure (Next.value v) : Sem Next).run C.P w) := by
  simp only [effBox, nb, Option.some.injEq] at he
  subst he
  simp only [Res.val.injEq] at hr
  obtain ⟨rfl, rfl⟩ := hr
  obtain ⟨h1, h2⟩ := hs
  have hrun : (Instr.box t u).run C.P w = .ok (.pointer (some ⟨w.heap.size, 0, none⟩)) (w.alloc (.cells u.cells t)) := by
    simp [Instr.box, newVar, newRow]
  rw [run_v hrun]
  obtain ⟨c1, c2⟩ := cells_rep hy h2
  exact nb_out g hn h1 ⟨rfl, rfl⟩ u.cells (by simp [c1]) c2 (fun h' X e => .ptr i 0 w.heap.size 0 (by rw [e]) (upd_same _ _ _))

/-! ### Rows and structs put together -/
theorem foldl_splice (cs : List Value) (o : Nat) (vs : List Value) (h : o + vs.length ≤ cs.length) :
    (vs.toArray.zipIdx.foldl (fun (acc : Array Value) (p : Value × Nat) => acc.setIfInBounds (o + p.2) p.1) cs.toArray) = (splice cs o vs).toArray := by
  have key : ∀ (vs : List Value) (cs : List Value) (o k : Nat), o + k + vs.length ≤ cs.length →
      ((vs.zipIdx k).foldl (fun (acc : Array Value) (p : Value × Nat) => acc.setIfInBounds (o + p.2) p.1) cs.toArray) = (splice cs (o + k) vs).toArray := by
    intro vs
    induction vs with
    | nil => intro cs o k _; simp [splice]
    | cons v vs ih =>
      intro cs o k hl
      simp only [List.zipIdx_cons, List.foldl_cons]
      have e1 : cs.toArray.setIfInBounds (o + k) v = (cs.set (o + k) v).toArray := by simp
      rw [e1, ih (cs.set (o + k) v) o (k + 1) (by simp at hl ⊢; omega)]
      congr 1
      apply List.ext_getElem?
      intro j
      rw [show o + (k + 1) = (o + k) + 1 by omega, splice_get _ _ _ (by simp at hl ⊢; omega), splice_get _ _ _ (by simp at hl ⊢; omega)]
      simp only [List.length_cons, List.getElem?_set]
      by_cases h1 : j < o + k
      · rw [if_pos (by omega), if_pos h1, if_neg (by omega)]
      · rw [if_neg h1]
        by_cases h2 : j = o + k
        · subst h2
          rw [if_pos (by omega)]
          simp at hl
          simp
          omega
        · rw [if_neg (by omega)]
          by_cases h3 : j < o + k + 1 + vs.length
          · rw [if_pos h3, if_pos (by omega)]
            have : j - (o + k) = (j - (o + k + 1)) + 1 := by omega
            rw [this]; simp
          · rw [if_neg h3, if_neg (by omega), if_neg (by omega)]
  have := key vs cs o 0 (by simpa using h)
  simpa using this

/-- A list of abstract values and one of values, read one by one. -/
def RL (C : Ctx) (st : HS) (m : Mp) (w : World) (xs : List HV) (vs : List Value) : Prop :=
  vs.length = xs.length ∧ ∀ (j : Nat) (x : HV) (v : Value), xs[j]? = some x → vs[j]? = some v → v.oneCell' = true ∧ R C st m w x v

theorem RL.splice {xs ys : List HV} {vs us : List Value} (h : RL C st m w xs vs) (k : RL C st m w ys us) {o : Nat} (hl : o + ys.length ≤ xs.length) : RL C st m w (splice xs o ys) (splice vs o us) := by
  have hl' : o + us.length ≤ vs.length := by rw [k.1, h.1]; exact hl
  refine ⟨by rw [splice_length _ _ _ hl', splice_length _ _ _ hl]; exact h.1, fun j x v hx hv => ?_⟩
  rw [splice_get _ _ _ hl] at hx
  rw [splice_get _ _ _ hl', k.1] at hv
  by_cases h1 : j < o
  · rw [if_pos h1] at hx hv; exact h.2 j x v hx hv
  · rw [if_neg h1] at hx hv
    by_cases h2 : j < o + ys.length
    · rw [if_pos h2] at hx hv; exact k.2 _ x v hx hv
    · rw [if_neg h2] at hx hv; exact h.2 j x v hx hv

theorem RL.of_cells {x : HV} {v : Value} (r : R C st m w x v) (ho : ∀ c ∈ x.cellsOf, c.one = true) : RL C st m w x.cellsOf v.cells.toList := by
  obtain ⟨h1, h2⟩ := cells_rep r ho
  refine ⟨by simpa using h1, fun j c u hc hu => ?_⟩
  obtain ⟨u', e, o1, rr⟩ := h2 j c hc
  have : u' = u := by simp at hu; rw [hu] at e; injection e with e; exact e.symm
  subst this
  exact ⟨o1, rr⟩

theorem fill_rep {place : Nat → Option (Nat × Nat)} : ∀ (parts : List (Nat × HV)) (us : List (Nat × Value)) (xs : List HV) (vs : List Value) (ys : List HV), RL C st m w xs vs →
    us.length = parts.length → (∀ (j : Nat) (p : Nat × HV) (u : Nat × Value), parts[j]? = some p → us[j]? = some u → u.1 = p.1 ∧ R C st m w p.2 u.2) → (∀ x ∈ parts, ∀ c ∈ x.2.cellsOf, c.one = true) →
    fillH place xs parts = some ys → ∃ ws, Instr.fill place vs.toArray us = some (ws : List Value).toArray ∧ RL C st m w ys ws
  | [], us, xs, vs, ys, h, hl, _, _, hf => by
    have : us = [] := List.eq_nil_of_length_eq_zero (by simpa using hl)
    subst this
    simp only [fillH, Option.some.injEq] at hf
    subst hf
    exact ⟨vs, rfl, h⟩
  | (i, x) :: parts, us, xs, vs, ys, h, hl, hr, ho, hf => by
    cases us with
    | nil => simp at hl
    | cons u us =>
      obtain ⟨i', u⟩ := u
      obtain ⟨e, rx⟩ := hr 0 (i, x) (i', u) rfl rfl
      simp only at e rx
      subst e
      simp only [fillH] at hf
      split at hf
      · cases hf
      · rename_i o s hp
        split at hf
        · cases hf
        · rename_i hc
          simp only [not_or, Decidable.not_not, Nat.not_lt] at hc
          have oc : ∀ c ∈ x.cellsOf, c.one = true := ho (i', x) (by simp)
          have k := RL.of_cells rx oc
          have hin : o + x.cellsOf.length ≤ xs.length := by omega
          have hin' : o + u.cells.toList.length ≤ vs.length := by rw [k.1, h.1]; exact hin
          obtain ⟨ws, e1, e2⟩ := fill_rep parts us _ _ ys (h.splice k hin) (by simpa using hl) (fun j p q h1 h2 => hr (j + 1) p q (by simpa using h1) (by simpa using h2)) (fun y hy => ho y (by simp [hy])) hf
          refine ⟨ws, ?_, e2⟩
          have hsz : u.cells.size = s := by have := k.1; simp at this; omega
          simp only [Instr.fill, hp]
          have hcond : ¬ ((u.cells.size ≠ s || o + u.cells.size > vs.toArray.size : Bool) = true) := by
            simp [hsz]; have := h.1; omega
          have hfold := foldl_splice vs o u.cells.toList hin'
          simp only [Array.toArray_toList] at hfold
          have hcond' : (decide (u.cells.size ≠ s) || decide (o + u.cells.size > vs.toArray.size)) = false := by simpa using hcond
          rw [if_neg (by simpa using hcond)]
          simpa using (congrArg (fun z => Instr.fill place z us) hfold).trans e1

end Go.Proofs.YtfmebdmgnmogaaaDoor.Hv
