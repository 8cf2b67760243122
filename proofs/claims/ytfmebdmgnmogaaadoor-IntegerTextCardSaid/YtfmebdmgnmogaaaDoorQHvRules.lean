/- Rules for code over abstract values, second part: sequences, branches, loops, renaming, and a function's contract out of its body. No statement of its own. -/
import Derived.Test.YtfmebdmgnmogaaaDoorQHvCode
set_option linter.unusedVariables false
namespace Go.Proofs.YtfmebdmgnmogaaaDoor.Hv
open Go Go.RowKit

variable {C : Ctx} {st : HS} {m : Mp} {a : Act} {w : World}

theorem hwp_mono {c : Code} {Q Q' : Exit → HS → Prop} (h : hwp C c Q st) (hq : ∀ e st, Q e st → Q' e st) : hwp C c Q' st := fun m a w g =>
  wp_mono (h m a w g) (fun e a' w' ⟨st', m', q, g'⟩ => ⟨st', m', hq e st' q, g'⟩)

def thenH (next : HS → Prop) (Q : Exit → HS → Prop) : Exit → HS → Prop
  | .normal, st => next st
  | e, st => Q e st
theorem hwp_seq {x y : Code} {Q : Exit → HS → Prop} (h : hwp C x (thenH (hwp C y Q) Q) st) : hwp C (.seq x y) Q st := by
  intro m a w g
  refine wp_seq (wp_mono (h m a w g) ?_)
  rintro e a' w' ⟨st', m', q, g'⟩
  cases e
  case normal => exact q m' a' w' g'
  all_goals exact ⟨st', m', q, g'⟩
theorem hwp_skip {Q : Exit → HS → Prop} (h : Q .normal st) : hwp C .skip Q st := fun m a w g => wp_skip ⟨st, m, h, g⟩
theorem hwp_exit {id : Nat} {Q : Exit → HS → Prop} (h : Q (.exit id) st) : hwp C (.exit id) Q st := fun m a w g => wp_exit ⟨st, m, h, g⟩
theorem hwp_ret {Q : Exit → HS → Prop} (h : Q .ret st) : hwp C .ret Q st := fun m a w g => wp_ret ⟨st, m, h, g⟩
theorem hwp_label {l : Nat} {Q : Exit → HS → Prop} (h : Q .normal st) : hwp C (.label l) Q st := fun m a w g => wp_label ⟨st, m, h, g⟩

def inB (id : Nat) (Q : Exit → HS → Prop) : Exit → HS → Prop
  | .exit id', st => if id' = id then Q .normal st else Q (.exit id') st
  | e, st => Q e st
theorem hwp_block {id : Nat} {c : Code} {Q : Exit → HS → Prop} (h : hwp C c (inB id Q) st) : hwp C (.block id c) Q st := by
  intro m a w g
  refine wp_block (wp_mono (h m a w g) ?_)
  rintro e a' w' ⟨st', m', q, g'⟩
  cases e
  case exit id' =>
    simp only [inB] at q
    simp only [Exit.inBlock]
    by_cases e : id' = id
    · rw [if_pos e] at q ⊢; exact ⟨st', m', q, g'⟩
    · rw [if_neg e] at q ⊢; exact ⟨st', m', q, g'⟩
  all_goals exact ⟨st', m', q, g'⟩

theorem hwp_cond {c : Operand} {x y : Code} {Q : Exit → HS → Prop} {t : Bool} (hc : ev st.fr c = .raw (.bool t)) (hx : t = true → hwp C x Q st) (hy : t = false → hwp C y Q st) : hwp C (.cond c x y) Q st := by
  intro m a w g
  have r := g.ev c
  rw [hc] at r
  have e : a.eval c = .bool t := by
    generalize a.eval c = u at r
    cases r; rfl
  exact wp_cond_split e (fun h => hx h m a w g) (fun h => hy h m a w g)

/-! ### Renaming of blocks; what is forgotten -/
def ren1 (σ : Nat → Nat) : HV → HV
  | .own id off n full => .own (σ id) off n full
  | .ptr id off => .ptr (σ id) off
  | x => x
def ren2 (σ : Nat → Nat) : HV → HV
  | .agg cs => .agg (cs.map (ren1 σ))
  | x => ren1 σ x
def ren (σ : Nat → Nat) : HV → HV
  | .tup vs => .tup (vs.map (ren2 σ))
  | x => ren2 σ x
/-- The blocks that a value names exist. -/
def ref1 (h h' : Hp) (σ : Nat → Nat) : HV → Prop
  | .own id _ _ _ => (h' id).al = true ∧ (h' id).sz = (h (σ id)).sz
  | .ptr id _ => (h' id).al = true
  | .agg _ | .tup _ => False
  | _ => True
def ref2 (h h' : Hp) (σ : Nat → Nat) : HV → Prop
  | .agg cs => ∀ c ∈ cs, ref1 h h' σ c
  | x => ref1 h h' σ x
def ref (h h' : Hp) (σ : Nat → Nat) : HV → Prop
  | .tup vs => ∀ c ∈ vs, ref2 h h' σ c
  | x => ref2 h h' σ x

theorem ren1_rep {X X' : AP} {h h' : Hp} {σ : Nat → Nat} (hX : ∀ p, X' p → X p) {x : HV} {v : Value} (r : Rep w X m h (ren1 σ x) v) (hr : ref1 h h' σ x) : Rep w X' (fun id => m (σ id)) h' x v := by
  have weak : ∀ {y u}, Rep w X m h y u → Rep w X' m h y u := fun r => r.mono (fun p u hp hx => ⟨hp, fun h => hx (hX p h)⟩) (Shp.refl w) (HpLe.refl _ _)
  cases x with
  | any => exact .any v
  | raw u => exact flat_fz (weak r) rfl
  | sl n full cells => exact flat_fz (weak r) rfl
  | agg cs => exact hr.elim
  | tup cs => exact hr.elim
  | own id off n full =>
    cases r with
    | own _ _ _ _ ad c ha hc hf hb =>
      refine .own id off n full ad c hr.1 hc hf (fun h0 => ?_)
      obtain ⟨b, o, cs, e, e1, e2, e3, e4⟩ := hb h0
      exact ⟨b, o, cs, e, e1, e2, e3, by rw [hr.2]; exact e4⟩
  | ptr id off =>
    cases r with
    | ptr _ _ b o ha hm => exact .ptr id off b o hr hm
  | iptr cells =>
    cases weak r with
    | iptr _ ad vs hl hfl hc hrep => exact .iptr cells ad vs hl hfl hc (fun j x v hx hv => flat_fz (hrep j x v hx hv) (hfl x (List.mem_of_getElem? hx)))

theorem ren2_rep {X X' : AP} {h h' : Hp} {σ : Nat → Nat} (hX : ∀ p, X' p → X p) {x : HV} {v : Value} (r : Rep w X m h (ren2 σ x) v) (hr : ref2 h h' σ x) : Rep w X' (fun id => m (σ id)) h' x v := by
  cases x
  case agg cs =>
    cases r with
    | agg _ vs hl hrep =>
      refine .agg cs vs (by simpa using hl) (fun j x v hx hv => ?_)
      exact ren1_rep hX (hrep j (ren1 σ x) v (by simp [hx]) hv) (hr x (List.mem_of_getElem? hx))
  all_goals exact ren1_rep hX r hr
theorem ren_rep {X X' : AP} {h h' : Hp} {σ : Nat → Nat} (hX : ∀ p, X' p → X p) {x : HV} {v : Value} (r : Rep w X m h (ren σ x) v) (hr : ref h h' σ x) : Rep w X' (fun id => m (σ id)) h' x v := by
  cases x
  case tup cs =>
    cases r with
    | tup _ vs hl hrep =>
      refine .tup cs vs (by simpa using hl) (fun j x v hx hv => ?_)
      exact ren2_rep hX (hrep j (ren2 σ x) v (by simp [hx]) hv) (hr x (List.mem_of_getElem? hx))
  all_goals exact ren2_rep hX r hr

/-- State st may be taken for st': blocks renamed by σ, the rest forgotten. -/
structure Cov (n0 : Nat) (st st' : HS) : Prop where
  σ : ∃ σ : Nat → Nat, (∀ t, st'.fr t = .any ∨ (st.fr t = ren σ (st'.fr t) ∧ ref st.hp st'.hp σ (st'.fr t))) ∧
    (∀ id, (st'.hp id).live = true → (st'.hp id).al = true ∧ st.hp (σ id) = { st'.hp id with cells := (st'.hp id).cells.map (ren1 σ) } ∧ (∀ c ∈ (st'.hp id).cells, ref1 st.hp st'.hp σ c) ∧ (n0 ≤ id → n0 ≤ σ id)) ∧
    (∀ i j, (st'.hp i).live = true → (st'.hp j).live = true → σ i = σ j → i = j) ∧ (∀ id, id < n0 → σ id = id)
  nt : st'.nt = st.nt
  nx : n0 ≤ st'.nx

theorem Good.cov (g : Good C st m a w) {st' : HS} (c : Cov C.n0 st st') : ∃ m', Good C st' m' a w := by
  obtain ⟨σ, h1, h2, h3, h4⟩ := c.σ
  have K := g.heap
  have hXid : ∀ id p, Xid (fun id => m (σ id)) st'.hp id p → Xid m st.hp (σ id) p := by
    rintro id p ⟨hl, b, o, hm, hb, hr⟩
    obtain ⟨_, e, _, _⟩ := h2 id hl
    refine ⟨by rw [e]; exact hl, b, o, hm, hb, ?_⟩
    rw [e]
    simpa using hr
  have hX : ∀ p, Xt C.Xo (fun id => m (σ id)) st'.hp p → Xt C.Xo m st.hp p := fun p h => h.imp (fun x => x) (fun ⟨k, h⟩ => ⟨σ k, hXid k p h⟩)
  refine ⟨fun id => m (σ id), g.defers, by rw [g.nt, c.nt], fun t => ?_, ⟨fun id hl => (h2 id hl).1, fun id hl => ?_, fun i j bi oi oj hij hi hj mi mj => ?_, fun id b o off hl hm hr => ?_, K.lt⟩, g.chg, fun id hid => ?_, fun id b o hid hl hm => ?_, fun id p hid hx => ?_, g.xo, g.bnd, c.nx, g.g0⟩
  · rcases h1 t with e | ⟨e, hr⟩
    · rw [e]; exact .any _
    · have r := g.fr t
      rw [e] at r
      exact ren_rep hX r hr
  · obtain ⟨_, e, hrf, _⟩ := h2 id hl
    have hl' : (st.hp (σ id)).live = true := by rw [e]; exact hl
    rcases K.real (σ id) hl' with ⟨q1, q2⟩ | ⟨b, o, cs, q1, q2, q3, q4⟩
    · refine .inl ⟨q1, ?_⟩
      rw [e] at q2
      simpa using q2
    · refine .inr ⟨b, o, cs, q1, ?_, ?_, fun j x hj => ?_⟩
      · rw [q2, e]
      · rw [e] at q3; simpa using q3
      · obtain ⟨v, v1, v2, v3⟩ := q4 j (ren1 σ x) (by rw [e]; simp [hj])
        exact ⟨v, v1, v2, ren1_rep hX v3 (hrf x (List.mem_of_getElem? hj))⟩
  · obtain ⟨_, ei, _, _⟩ := h2 i hi
    obtain ⟨_, ej, _, _⟩ := h2 j hj
    have := K.sep (σ i) (σ j) bi oi oj (fun e => hij (h3 i j hi hj e)) (by rw [ei]; exact hi) (by rw [ej]; exact hj) mi mj
    rw [ei, ej] at this
    simpa using this
  · obtain ⟨_, e, _, _⟩ := h2 id hl
    refine K.out (σ id) b o off (by rw [e]; exact hl) hm ?_
    rw [e]
    simpa using hr
  · rw [h4 id hid]; exact g.base id hid
  · obtain ⟨_, e, _, hn⟩ := h2 id hl
    exact g.fresh (σ id) b o (hn hid) (by rw [e]; exact hl) hm
  · have := hXid id p hx
    rw [h4 id hid] at this
    exact g.win id p hid this

theorem hwp_cov {c : Code} {Q : Exit → HS → Prop} {st' : HS} (hc : Cov C.n0 st st') (h : hwp C c Q st') : hwp C c Q st := fun m a w g => by
  obtain ⟨m', g'⟩ := g.cov hc
  exact h m' a w g'

/-- A cut: what follows is shown once, from M on. -/
theorem hwp_cut {x y : Code} {Q : Exit → HS → Prop} (M : HS → Prop) (hx : hwp C x (thenH (fun s => ∃ s', Cov C.n0 s s' ∧ M s') Q) st) (hy : ∀ s, M s → hwp C y Q s) : hwp C (.seq x y) Q st :=
  hwp_seq (hwp_mono hx (fun e s hs => by
    cases e
    case normal => obtain ⟨s', hc, hm⟩ := hs; exact hwp_cov hc (hy s' hm)
    all_goals exact hs))

theorem hwp_loop {c : Code} {Q : Exit → HS → Prop} (I : Nat → HS → Prop) (h0 : ∃ n s, Cov C.n0 st s ∧ I n s)
    (round : ∀ n s, I n s → hwp C c (thenH (fun s' => ∃ n' s'', n' < n ∧ Cov C.n0 s' s'' ∧ I n' s'') Q) s) : hwp C (.loop c) Q st := by
  intro m a w g b k cs
  have key : ∀ n s m a w, I n s → Good C s m a w →
      ∃ e a' w', (∃ st' m', Q e st' ∧ Good C st' m' a' w') ∧ Arrives C.P (lone (b.at a (.code c :: .inLoop c :: k)) cs w) b k cs e a' w' := by
    intro n
    induction n using Nat.strongRecOn with
    | _ n ih =>
      intro s m a w hI hg
      obtain ⟨e, a₁, w₁, ⟨s1, m1, hq, hg1⟩, harr⟩ := round n s hI m a w hg b (.inLoop c :: k) cs
      cases e with
      | normal =>
        obtain ⟨n', s2, hlt, hc, hI'⟩ := hq
        obtain ⟨m2, hg2⟩ := hg1.cov hc
        obtain ⟨e₂, a₂, w₂, hq₂, harr₂⟩ := ih n' hlt s2 m2 a₁ w₁ hI' hg2
        exact ⟨e₂, a₂, w₂, hq₂, .of_steps (Steps.trans harr (.one step_inLoop)) harr₂⟩
      | exit id => exact ⟨_, a₁, w₁, ⟨s1, m1, hq, hg1⟩, .pass (x := .inLoop c) rfl (fun _ _ => .inl (by simp)) harr⟩
      | goto l => exact ⟨_, a₁, w₁, ⟨s1, m1, hq, hg1⟩, .pass (x := .inLoop c) rfl (fun _ _ => .inl (by simp)) harr⟩
      | ret => exact ⟨_, a₁, w₁, ⟨s1, m1, hq, hg1⟩, .pass (x := .inLoop c) rfl (fun _ _ => .inl (by simp)) harr⟩
      | panic ch => exact ⟨_, a₁, w₁, ⟨s1, m1, hq, hg1⟩, .pass (x := .inLoop c) rfl (fun _ _ => .inl (by simp)) harr⟩
      | outgrown => exact ⟨_, a₁, w₁, ⟨s1, m1, hq, hg1⟩, .pass (x := .inLoop c) rfl (fun _ _ => .inl (by simp)) harr⟩
  obtain ⟨n, s, hc, hI⟩ := h0
  obtain ⟨m', g'⟩ := g.cov hc
  obtain ⟨e, a', w', hq, harr⟩ := key n s m' a w hI g'
  exact ⟨e, a', w', hq, .of_steps (.one step_loop) harr⟩

/-! ### A function's contract out of its body -/
def resOf (P : Program) (st : HS) : ResultVar → Option (HV × Prop)
  | .tmp t => some (st.fr t, True)
  | .cell p t =>
    match st.fr p, tyT P t with
    | .ptr id off, some (ag, sz) => some (if ag then .agg (((st.hp id).cells.drop off).take sz) else (st.hp id).cells.getD off .any, (st.hp id).live = true ∧ off + sz ≤ (st.hp id).cells.length ∧ (ag = false → sz = 1))
    | _, _ => none
/-- The results: each read, no row of it written any more. -/
def ResL (P : Program) (n0 : Nat) (st : HS) : List ResultVar → List HV → Prop
  | [], [] => True
  | r :: rs, x :: xs => (match resOf P st r with | some (y, p) => p ∧ (x = fz st.hp y ∨ x = nf (fz st.hp y)) ∧ okz st.hp y ∧ ∀ id ∈ ids y, n0 ≤ id | none => False) ∧ ResL P n0 st rs xs
  | _, _ => False
def oneOf : List HV → HV
  | [x] => x
  | xs => .tup xs
def isRet : Exit → Prop
  | .ret | .normal => True
  | _ => False
def RetQ (P : Program) (fn : Func) (n0 : Nat) (r : HV) (hx : List HBlk) (e : Exit) (st : HS) : Prop :=
  isRet e ∧ ∃ xs, ResL P n0 st fn.results.toList xs ∧ r = oneOf xs ∧ hx.length = n0 ∧ ∀ id, id < n0 → hx.getD id {} = st.hp id ∧ (∀ c ∈ (st.hp id).cells, c.flat = true)

theorem ok_own {hp : Hp} {y : HV} (hok : okz hp y) : ∀ id ∈ ids y, (hp id).live = true := by
  have key : ∀ z : HV, ok1 hp z → ∀ q ∈ id1 z, (hp q).live = true := fun z hz q hq => by
    cases z <;> simp [id1] at hq
    subst hq; exact hz.1
  intro id h
  cases y with
  | agg cs =>
    obtain ⟨c, hc, hq⟩ := List.mem_flatMap.1 h
    exact key c (hok c hc) id hq
  | any => exact key .any hok id h
  | raw v => exact key (.raw v) hok id h
  | sl n f cs => exact key (.sl n f cs) hok id h
  | own a b c d => exact key (.own a b c d) hok id h
  | tup vs => exact key (.tup vs) hok id h
  | ptr a b => exact key (.ptr a b) hok id h
  | iptr cs => exact key (.iptr cs) hok id h

theorem res_run (g : Good C st m a w) {rs : List ResultVar} : ∀ {xs : List HV}, ResL C.P C.n0 st rs xs → ∃ (vs : List Value) (l0 : List Nat), (rs.mapM fun r => (match r with | .tmp t => Pure.pure (a.tmps.getD t undef) | .cell p t => (do loadVar t (← asAddr (a.tmps.getD p undef))) : Sem Value)).run C.P w = .ok vs w ∧
    vs.length = xs.length ∧ (∀ id ∈ l0, C.n0 ≤ id) ∧ ∀ (l : List Nat) (m' : Mp) (h' : Hp), (∀ id ∈ l0, id ∈ l) → ∀ (j : Nat) (x : HV) (v : Value), xs[j]? = some x → vs[j]? = some v → Rep w (Xt C.Xo m (frz st.hp l)) m' h' x v := by
  induction rs with
  | nil =>
    intro xs h
    cases xs with
    | nil => exact ⟨[], [], by simp, rfl, by simp, fun _ _ _ _ j x v hx => by simp at hx⟩
    | cons _ _ => exact h.elim
  | cons r rs ih =>
    intro xs h
    cases xs with
    | nil => exact h.elim
    | cons x xs =>
      obtain ⟨h1, h2⟩ := h
      obtain ⟨vs, l0, k1, k2, k0, k3⟩ := ih h2
      have head : ∃ v, (match r with | .tmp t => Pure.pure (a.tmps.getD t undef) | .cell p t => (do loadVar t (← asAddr (a.tmps.getD p undef))) : Sem Value).run C.P w = .ok v w ∧ ∃ y, R C st m w y v ∧ (x = fz st.hp y ∨ x = nf (fz st.hp y)) ∧ okz st.hp y ∧ ∀ id ∈ ids y, C.n0 ≤ id := by
        cases r with
        | tmp t =>
          simp only [resOf] at h1
          exact ⟨_, by simp, st.fr t, g.fr t, h1.2⟩
        | cell p t =>
          simp only [resOf] at h1
          split at h1
          · rename_i y q he
            split at he
            · rename_i id off ag sz hfp hty
              simp only [Option.some.injEq, Prod.mk.injEq] at he
              obtain ⟨rfl, rfl⟩ := he
              obtain ⟨⟨q1, q2, q3⟩, q4⟩ := h1
              have hp := g.fr p
              rw [hfp] at hp
              show ∃ v, (do loadVar t (← asAddr (a.tmps.getD p undef)) : Sem Value).run C.P w = .ok v w ∧ _
              generalize a.tmps.getD p undef = pvv at hp ⊢
              cases hp with
              | ptr _ _ b o ha hm =>
                obtain ⟨us, u1, u2, u3⟩ := stretch g.heap q1 hm off sz q2
                have hrun := run_loadVar (w := w) hty ⟨b, o + off, none⟩ us u2 q3 (fun j u hu => by rw [add_lit]; exact u3 j u hu)
                refine ⟨_, by simpa [asAddr] using hrun, _, ?_, q4⟩
                cases ag with
                | true => exact RL.rep _ _ u1
                | false =>
                  have h31 := q3 rfl
                  subst h31
                  have hx : ((st.hp id).cells.drop off).take 1 = [(st.hp id).cells.getD off .any] := by
                    have hlt : off < (st.hp id).cells.length := by omega
                    rw [List.drop_eq_getElem_cons hlt, List.take_succ_cons, List.take_zero]
                    simp [List.getD, hlt]
                  rw [hx] at u1
                  have hu0 : us[0]? = some (us[0]?.getD undef) := by simp [List.getElem?_eq_getElem (show 0 < us.length by omega)]
                  exact (u1.2 0 _ _ rfl hu0).2
            · cases he
          · exact h1.elim
      obtain ⟨v, hv, y, ry, hxy, hok, hid⟩ := head
      refine ⟨v :: vs, ids y ++ l0, ?_, by simp [k2], fun id h => ?_, fun l m' h' hl j x' v' hx' hv' => ?_⟩
      · rw [List.mapM_cons]
        simp only [Sem.run_bind, hv, Result.andThen_ok, k1]
        simp
      · rcases List.mem_append.1 h with h | h
        · exact hid id h
        · exact k0 id h
      · cases j with
        | zero =>
          simp at hx' hv'
          subst hx' hv'
          have rr := fz_rep g l ry hok (fun id h => hl id (List.mem_append.2 (.inl h))) (m' := m') (h' := h')
          rcases hxy with rfl | rfl
          · exact rr
          · exact nf_rep rr
        | succ j => exact k3 l m' h' (fun id h => hl id (List.mem_append.2 (.inr h))) j x' v' (by simpa using hx') (by simpa using hv')

theorem bound_ids (m : Mp) (h : Hp) : ∀ n, ∃ B, ∀ id b o, id < n → m id = some (b, o) → o + (h id).cells.length ≤ B
  | 0 => ⟨0, fun _ _ _ h => absurd h (Nat.not_lt_zero _)⟩
  | n + 1 => by
    obtain ⟨B, hB⟩ := bound_ids m h n
    refine ⟨B + (match m n with | some p => p.2 | none => 0) + (h n).cells.length, fun id b o hid hm => ?_⟩
    by_cases e : id = n
    · subst e; rw [hm]; simp only; omega
    · have := hB id b o (by omega) hm; omega

theorem hcalls_intro {P : Program} {f : FuncId} {fn : Func} {c : Code} {hp0 : List HBlk} {args : List HV} {r : HV} {hx : List HBlk} (hf : P.funcs[f]? = some fn) (hname : (fn.name == "runtime.NumGoroutine") = false) (hb : fn.body = some c)
    (L : List (Nat × HV)) (fr : Nat → HV) (hfr : ∀ t, fr t = .any ∨ args[t]? = some (fr t)) (hnt : args.length ≤ fn.ntmps) (hgr : ∀ b ∈ hp0, b.grow = false)
    (h : ∀ C : Ctx, C.P = P → C.n0 = hp0.length → hwp C c (RetQ P fn hp0.length r hx) ⟨fr, ofL hp0, hp0.length, fn.ntmps⟩) : HCallsD P f hp0 args r hx := by
  refine ⟨⟨fn, hf, hname, by rw [hb]; rfl⟩, fun X m w vs hl hlt hheap hG hrep => ?_⟩
  let C : Ctx := ⟨P, X, fun p => ∃ id, Xid m (ofL hp0) id p, w, hp0.length, m⟩
  have hdead : ∀ id, hp0.length ≤ id → (ofL hp0 id) = {} := fun id hid => by simp [ofL, List.getElem?_eq_none hid]
  have hgrow : ∀ id, (ofL hp0 id).grow = false := fun id => by
    rcases Nat.lt_or_ge id hp0.length with hlt | hge
    · have e : ofL hp0 id = hp0[id] := by simp [ofL, hlt]
      rw [e]; exact hgr _ (List.getElem_mem hlt)
    · rw [hdead id hge]
  have g : Good C ⟨fr, ofL hp0, hp0.length, fn.ntmps⟩ m { tmps := vs.toArray ++ Array.replicate (fn.ntmps - vs.toArray.size) undef, defers := [] } w := by
    refine ⟨rfl, ?_, fun t => ?_, hheap, Chg.refl _ _, fun _ _ => rfl, fun id b o hid hlv => ?_, fun id p _ hp => ⟨id, hp⟩, hlt, fun b => ?_, Nat.le_refl _, hG.1, fun p v hgl ⟨id, hx⟩ => hG.2 id p hx v hgl⟩
    · simp; omega
    · rcases hfr t with e | e
      · simp only [e]; exact .any _
      · have hta : t < args.length := (List.getElem?_eq_some_iff.1 e).1
        have hv : vs[t]? = some (vs[t]'(by omega)) := List.getElem?_eq_getElem (by omega)
        have e2 : ((vs.toArray ++ Array.replicate (fn.ntmps - vs.toArray.size) undef).getD t undef) = vs[t]'(by omega) := by
          simp only [Array.getD_eq_getD_getElem?]
          rw [Array.getElem?_append_left (by simp; omega)]
          simp [hv]
        rw [e2]
        exact hrep t _ _ e hv
    · have hlv' : (ofL hp0 id).live = true := hlv
      rw [hdead id hid] at hlv'; cases hlv'
    · obtain ⟨B, hB⟩ := bound_ids m (ofL hp0) hp0.length
      refine ⟨B, fun off hx => ?_⟩
      obtain ⟨id, hlv, b', o, hm, hbb, hr⟩ := hx
      have hid : id < hp0.length := by
        rcases Nat.lt_or_ge id hp0.length with h | h
        · exact h
        · rw [hdead id h] at hlv; cases hlv
      have := hB id b' o hid hm
      rw [hgrow id] at hr
      simp only [Bool.false_eq_true, false_and, or_false] at hr
      omega
  refine calls_of_wp hf hb (wp_mono (h C rfl rfl m _ w g) ?_)
  rintro e a' w' ⟨st', m', ⟨hret, xs, hres, hr, hxl, hxs⟩, g'⟩
  have hpost : a'.defers = [] ∧ ∃ v, (results fn a'.tmps).run P w' = .ok v w' ∧ ∃ v1 m1, (Ending.returned v) = .returned v1 ∧ (∀ id, id < hp0.length → m1 id = m id) ∧ HeapOK w' X m1 (ofL hx) ∧ Rep w' (Xt X m1 (ofL hx)) m1 (ofL hx) r v1 ∧
      Chg (fun p => ∃ id, Xid m (ofL hp0) id p) w w' := by
    refine ⟨g'.defers, ?_⟩
    obtain ⟨vs', l0, k1, k2, k0, k3⟩ := res_run (C := C) g' hres
    have hrun : (results fn a'.tmps).run P w' = .ok (if h : vs'.toArray.size = 1 then vs'.toArray[0] else .tuple vs'.toArray) w' := by
      unfold results
      rw [Array.mapM_eq_mapM_toList, Sem.run_bind]
      have k1' : (List.toArray <$> fn.results.toList.mapM fun r => (match r with | .tmp t => Pure.pure (a'.tmps.getD t undef) | .cell p t => (do loadVar t (← asAddr (a'.tmps.getD p undef))) : Sem Value)).run P w' = .ok vs'.toArray w' := by
        rw [map_eq_pure_bind, Sem.run_bind]
        have k2' : (fn.results.toList.mapM fun r => (match r with | .tmp t => Pure.pure (a'.tmps.getD t undef) | .cell p t => (do loadVar t (← asAddr (a'.tmps.getD p undef))) : Sem Value)).run P w' = .ok vs' w' := k1
        rw [k2']
        rfl
      refine (congrArg (fun q => Result.andThen q _) k1').trans ?_
      rfl
    have K := g'.heap
    have hofL : ∀ id, id < hp0.length → ofL hx id = st'.hp id := fun id hid => (hxs id hid).1
    have hdead' : ∀ id, hp0.length ≤ id → (ofL hx id) = {} := fun id hid => by simp [ofL, List.getElem?_eq_none (show hx.length ≤ id by omega)]
    have hlive : ∀ id, (ofL hx id).live = true → id < hp0.length := fun id hl => by
      rcases Nat.lt_or_ge id hp0.length with h | h
      · exact h
      · rw [hdead' id h] at hl; cases hl
    have hXid : ∀ id p, Xid (fun id => if id < hp0.length then m' id else none) (ofL hx) id p → id < hp0.length ∧ Xid m' st'.hp id p := fun id p h => by
      have hid := hlive id h.1
      exact ⟨hid, (Xid_ext (by simp [hid]) (hofL id hid)).1 h⟩
    have hX : ∀ p, Xt X (fun id => if id < hp0.length then m' id else none) (ofL hx) p → Xt X m' (frz st'.hp l0) p := fun p h => h.imp (fun x => x) (fun ⟨k, h⟩ => by
      obtain ⟨h1, h2⟩ := hXid k p h
      have e : frz st'.hp l0 k = st'.hp k := by
        unfold frz
        rw [if_neg (fun hk => by have := k0 k hk; simp only [C] at this; omega)]
      exact ⟨k, (Xid_ext rfl e).2 h2⟩)
    have hX' : ∀ p, Xt X (fun id => if id < hp0.length then m' id else none) (ofL hx) p → Xt X m' st'.hp p := fun p h => h.imp (fun x => x) (fun ⟨k, h⟩ => ⟨k, (hXid k p h).2⟩)
    refine ⟨_, hrun, _, fun id => if id < hp0.length then m' id else none, rfl, fun id hid => ?_, ⟨fun id hl => ?_, fun id hl => ?_, fun i j bi oi oj hij hi hj mi mj => ?_, fun id b o off hl hm hr => ?_, K.lt⟩, ?_, g'.chg⟩
    · simp only [hid, if_true]; exact g'.base id hid
    · have := hlive id hl
      rw [hofL id this] at hl ⊢
      exact K.alive id hl
    · have hid := hlive id hl
      rw [hofL id hid] at hl ⊢
      simp only [hid, if_true]
      rcases K.real id hl with h1 | ⟨b, o, cs, q1, q2, q3, q4⟩
      · exact .inl h1
      · refine .inr ⟨b, o, cs, q1, q2, q3, fun j x hj => ?_⟩
        obtain ⟨v, v1, v2, v3⟩ := q4 j x hj
        exact ⟨v, v1, v2, flat_fz (v3.mono (fun p u hp hx => ⟨hp, fun h => hx (hX' p h)⟩) (Shp.refl _) (HpLe.refl _ _)) ((hxs id hid).2 x (List.mem_of_getElem? hj))⟩
    · have h1 := hlive i hi
      have h2 := hlive j hj
      rw [hofL i h1] at hi ⊢
      rw [hofL j h2] at hj ⊢
      simp only [h1, if_true] at mi
      simp only [h2, if_true] at mj
      exact K.sep i j bi oi oj hij hi hj mi mj
    · have h1 := hlive id hl
      rw [hofL id h1] at hl hr
      simp only [h1, if_true] at hm
      exact K.out id b o off hl hm hr
    · have kk := fun j x v hx1 hv => (k3 l0 (fun id => if id < hp0.length then m' id else none) (ofL hx) (fun _ h => h) j x v hx1 hv).mono (fun p u hp hq => ⟨hp, fun h => hq (hX p h)⟩) (Shp.refl _) (HpLe.refl _ _)
      subst hr
      cases xs with
      | nil =>
        have : vs' = [] := List.eq_nil_of_length_eq_zero (by simpa using k2)
        subst this
        exact .tup [] [] rfl (by simp)
      | cons x xs =>
        cases xs with
        | nil =>
          obtain ⟨v, rfl⟩ : ∃ v, vs' = [v] := by
            cases vs' with
            | nil => simp at k2
            | cons v r => cases r with
              | nil => exact ⟨v, rfl⟩
              | cons _ _ => simp at k2
          exact kk 0 x v rfl rfl
        | cons y ys =>
          have hne : ¬ vs'.toArray.size = 1 := by simp; simp at k2; omega
          rw [dif_neg hne]
          exact .tup (x :: y :: ys) vs' k2 kk
  cases e <;> first | exact hret.elim | exact hpost

end Go.Proofs.YtfmebdmgnmogaaaDoor.Hv
