/- Rules for code over abstract values, second part: sequences, branches, loops, renaming, and a function's contract out of its body. No statement of its own. -/
import Derived.Test.YtfmebdmgnmogaaaGreatDoorQHvStep
import Derived.IntWalk
set_option linter.unusedVariables false
set_option linter.unusedSimpArgs false
set_option linter.unusedVariables false
namespace Go.Proofs.YtfmebdmgnmogaaaGreatDoor.Hv
open Go Go.RowKit

variable {C : Ctx} {st : HS} {m : Mp} {a : Act} {w : World}

theorem hwp_mono {c : Code} {Q Q' : Exit → HS → Prop} (h : hwp C c Q st) (hq : ∀ e st, Q e st → Q' e st) : hwp C c Q' st := fun m a w g =>
  wp_mono (h m a w g) (fun e a' w' ⟨st', m', q, g'⟩ => ⟨st', m', hq e st' q, g'⟩)

def thenH (next : HS → Prop) (Q : Exit → HS → Prop) : Exit → HS → Prop
  | .normal, st => next st
  | e, st => Q e st
theorem hwp_seq {x y : Code} {Q : Exit → HS → Prop} (h : hwp C x (thenH (hwp C y Q) Q) st) : hwp C (.seq x y) Q st := by
  intro m a w g
  refine wp_seq (wp_mono (h m a w g) ?_)
  rintro e a' w' ⟨st', m', q, g'⟩
  cases e
  case normal => exact q m' a' w' g'
  all_goals exact ⟨st', m', q, g'⟩
theorem hwp_skip {Q : Exit → HS → Prop} (h : Q .normal st) : hwp C .skip Q st := fun m a w g => wp_skip ⟨st, m, h, g⟩
theorem hwp_exit {id : Nat} {Q : Exit → HS → Prop} (h : Q (.exit id) st) : hwp C (.exit id) Q st := fun m a w g => wp_exit ⟨st, m, h, g⟩
theorem hwp_ret {Q : Exit → HS → Prop} (h : Q .ret st) : hwp C .ret Q st := fun m a w g => wp_ret ⟨st, m, h, g⟩
theorem hwp_label {l : Nat} {Q : Exit → HS → Prop} (h : Q .normal st) : hwp C (.label l) Q st := fun m a w g => wp_label ⟨st, m, h, g⟩

def inB (id : Nat) (Q : Exit → HS → Prop) : Exit → HS → Prop
  | .exit id', st => if id' = id then Q .normal st else Q (.exit id') st
  | e, st => Q e st
theorem hwp_block {id : Nat} {c : Code} {Q : Exit → HS → Prop} (h : hwp C c (inB id Q) st) : hwp C (.block id c) Q st := by
  intro m a w g
  refine wp_block (wp_mono (h m a w g) ?_)
  rintro e a' w' ⟨st', m', q, g'⟩
  cases e
  case exit id' =>
    simp only [inB] at q
    simp only [Exit.inBlock]
    by_cases e : id' = id
    · rw [if_pos e] at q ⊢; exact ⟨st', m', q, g'⟩
    · rw [if_neg e] at q ⊢; exact ⟨st', m', q, g'⟩
  all_goals exact ⟨st', m', q, g'⟩

theorem hwp_cond {c : Operand} {x y : Code} {Q : Exit → HS → Prop} {t : Bool} (hc : ev st.fr c = .raw (.bool t)) (hx : t = true → hwp C x Q st) (hy : t = false → hwp C y Q st) : hwp C (.cond c x y) Q st := by
  intro m a w g
  have r := g.ev c
  rw [hc] at r
  have e : a.eval c = .bool t := by
    generalize a.eval c = u at r
    cases r; rfl
  exact wp_cond_split e (fun h => hx h m a w g) (fun h => hy h m a w g)

/-! ### Renaming of blocks; what is forgotten -/
def ren1 (σ : Nat → Nat) : HV → HV
  | .own id off n full => .own (σ id) off n full
  | .ptr id off => .ptr (σ id) off
  | x => x
def ren2 (σ : Nat → Nat) : HV → HV
  | .agg cs => .agg (cs.map (ren1 σ))
  | x => ren1 σ x
def ren (σ : Nat → Nat) : HV → HV
  | .tup vs => .tup (vs.map (ren2 σ))
  | x => ren2 σ x
/-- The blocks that a value names exist. -/
def ref1 (h h' : Hp) (σ : Nat → Nat) : HV → Prop
  | .own id _ _ _ => (h' id).al = true ∧ (h' id).sz = (h (σ id)).sz
  | .ptr id _ => (h' id).al = true
  | .agg _ | .tup _ => False
  | _ => True
def ref2 (h h' : Hp) (σ : Nat → Nat) : HV → Prop
  | .agg cs => ∀ c ∈ cs, ref1 h h' σ c
  | x => ref1 h h' σ x
def ref (h h' : Hp) (σ : Nat → Nat) : HV → Prop
  | .tup vs => ∀ c ∈ vs, ref2 h h' σ c
  | x => ref2 h h' σ x

theorem ren1_rep {X X' : AP} {h h' : Hp} {σ : Nat → Nat} (hX : ∀ p, X' p → X p) {x : HV} {v : Value} (r : Rep w X m h (ren1 σ x) v) (hr : ref1 h h' σ x) : Rep w X' (fun id => m (σ id)) h' x v := by
  have weak : ∀ {y u}, Rep w X m h y u → Rep w X' m h y u := fun r => r.mono (fun p u hp hx => ⟨hp, fun h => hx (hX p h)⟩) (Shp.refl w) (HpLe.refl _ _)
  cases x with
  | any => exact .any v
  | raw u => exact flat_fz (weak r) rfl
  | sl n full cells => exact flat_fz (weak r) rfl
  | agg cs => exact hr.elim
  | tup cs => exact hr.elim
  | own id off n full =>
    cases r with
    | own _ _ _ _ ad c ha hc hf hb =>
      refine .own id off n full ad c hr.1 hc hf (fun h0 => ?_)
      obtain ⟨b, o, cs, e, e1, e2, e3, e4⟩ := hb h0
      exact ⟨b, o, cs, e, e1, e2, e3, by rw [hr.2]; exact e4⟩
  | ptr id off =>
    cases r with
    | ptr _ _ b o ha hm => exact .ptr id off b o hr hm
  | iptr cells =>
    cases weak r with
    | iptr _ ad vs hl hfl hc hrep => exact .iptr cells ad vs hl hfl hc (fun j x v hx hv => flat_fz (hrep j x v hx hv) (hfl x (List.mem_of_getElem? hx)))

theorem ren2_rep {X X' : AP} {h h' : Hp} {σ : Nat → Nat} (hX : ∀ p, X' p → X p) {x : HV} {v : Value} (r : Rep w X m h (ren2 σ x) v) (hr : ref2 h h' σ x) : Rep w X' (fun id => m (σ id)) h' x v := by
  cases x
  case agg cs =>
    cases r with
    | agg _ vs hl hrep =>
      refine .agg cs vs (by simpa using hl) (fun j x v hx hv => ?_)
      exact ren1_rep hX (hrep j (ren1 σ x) v (by simp [hx]) hv) (hr x (List.mem_of_getElem? hx))
  all_goals exact ren1_rep hX r hr
theorem ren_rep {X X' : AP} {h h' : Hp} {σ : Nat → Nat} (hX : ∀ p, X' p → X p) {x : HV} {v : Value} (r : Rep w X m h (ren σ x) v) (hr : ref h h' σ x) : Rep w X' (fun id => m (σ id)) h' x v := by
  cases x
  case tup cs =>
    cases r with
    | tup _ vs hl hrep =>
      refine .tup cs vs (by simpa using hl) (fun j x v hx hv => ?_)
      exact ren2_rep hX (hrep j (ren2 σ x) v (by simp [hx]) hv) (hr x (List.mem_of_getElem? hx))
  all_goals exact ren2_rep hX r hr

/-- State st may be taken for st': blocks renamed by σ, the rest forgotten. -/
structure Cov (n0 : Nat) (st st' : HS) : Prop where
  σ : ∃ σ : Nat → Nat, (∀ t, st'.fr t = .any ∨ (st.fr t = ren σ (st'.fr t) ∧ ref st.hp st'.hp σ (st'.fr t))) ∧
    (∀ id, (st'.hp id).live = true → (st'.hp id).al = true ∧ st.hp (σ id) = { st'.hp id with cells := (st'.hp id).cells.map (ren1 σ) } ∧ (∀ c ∈ (st'.hp id).cells, ref1 st.hp st'.hp σ c) ∧ (n0 ≤ id → n0 ≤ σ id)) ∧
    (∀ i j, (st'.hp i).live = true → (st'.hp j).live = true → σ i = σ j → i = j) ∧ (∀ id, id < n0 → σ id = id)
  nt : st'.nt = st.nt
  nx : n0 ≤ st'.nx

theorem Good.cov (g : Good C st m a w) {st' : HS} (c : Cov C.n0 st st') : ∃ m', Good C st' m' a w := by
  obtain ⟨σ, h1, h2, h3, h4⟩ := c.σ
  have K := g.heap
  have hXid : ∀ id p, Xid (fun id => m (σ id)) st'.hp id p → Xid m st.hp (σ id) p := by
    rintro id p ⟨hl, b, o, hm, hb, hr⟩
    obtain ⟨_, e, _, _⟩ := h2 id hl
    refine ⟨by rw [e]; exact hl, b, o, hm, hb, ?_⟩
    rw [e]
    simpa using hr
  have hX : ∀ p, Xt C.Xo (fun id => m (σ id)) st'.hp p → Xt C.Xo m st.hp p := fun p h => h.imp (fun x => x) (fun ⟨k, h⟩ => ⟨σ k, hXid k p h⟩)
  refine ⟨fun id => m (σ id), g.defers, by rw [g.nt, c.nt], fun t => ?_, ⟨fun id hl => (h2 id hl).1, fun id hl => ?_, fun i j bi oi oj hij hi hj mi mj => ?_, fun id b o off hl hm hr => ?_, K.lt⟩, g.chg, fun id hid => ?_, fun id b o hid hl hm => ?_, fun id p hid hx => ?_, g.xo, g.bnd, c.nx, g.g0⟩
  · rcases h1 t with e | ⟨e, hr⟩
    · rw [e]; exact .any _
    · have r := g.fr t
      rw [e] at r
      exact ren_rep hX r hr
  · obtain ⟨_, e, hrf, _⟩ := h2 id hl
    have hl' : (st.hp (σ id)).live = true := by rw [e]; exact hl
    rcases K.real (σ id) hl' with ⟨q1, q2⟩ | ⟨b, o, cs, q1, q2, q3, q4⟩
    · refine .inl ⟨q1, ?_⟩
      rw [e] at q2
      simpa using q2
    · refine .inr ⟨b, o, cs, q1, ?_, ?_, fun j x hj => ?_⟩
      · rw [q2, e]
      · rw [e] at q3; simpa using q3
      · obtain ⟨v, v1, v2, v3⟩ := q4 j (ren1 σ x) (by rw [e]; simp [hj])
        exact ⟨v, v1, v2, ren1_rep hX v3 (hrf x (List.mem_of_getElem? hj))⟩
  · obtain ⟨_, ei, _, _⟩ := h2 i hi
    obtain ⟨_, ej, _, _⟩ := h2 j hj
    have := K.sep (σ i) (σ j) bi oi oj (fun e => hij (h3 i j hi hj e)) (by rw [ei]; exact hi) (by rw [ej]; exact hj) mi mj
    rw [ei, ej] at this
    simpa using this
  · obtain ⟨_, e, _, _⟩ := h2 id hl
    refine K.out (σ id) b o off (by rw [e]; exact hl) hm ?_
    rw [e]
    simpa using hr
  · rw [h4 id hid]; exact g.base id hid
  · obtain ⟨_, e, _, hn⟩ := h2 id hl
    exact g.fresh (σ id) b o (hn hid) (by rw [e]; exact hl) hm
  · have := hXid id p hx
    rw [h4 id hid] at this
    exact g.win id p hid this

theorem hwp_cov {c : Code} {Q : Exit → HS → Prop} {st' : HS} (hc : Cov C.n0 st st') (h : hwp C c Q st') : hwp C c Q st := fun m a w g => by
  obtain ⟨m', g'⟩ := g.cov hc
  exact h m' a w g'

/-- A cut: what follows is shown once, from M on. -/
theorem hwp_cut {x y : Code} {Q : Exit → HS → Prop} (M : HS → Prop) (hx : hwp C x (thenH (fun s => ∃ s', Cov C.n0 s s' ∧ M s') Q) st) (hy : ∀ s, M s → hwp C y Q s) : hwp C (.seq x y) Q st :=
  hwp_seq (hwp_mono hx (fun e s hs => by
    cases e
    case normal => obtain ⟨s', hc, hm⟩ := hs; exact hwp_cov hc (hy s' hm)
    all_goals exact hs))

theorem hwp_loop {c : Code} {Q : Exit → HS → Prop} (I : Nat → HS → Prop) (h0 : ∃ n s, Cov C.n0 st s ∧ I n s)
    (round : ∀ n s, I n s → hwp C c (thenH (fun s' => ∃ n' s'', n' < n ∧ Cov C.n0 s' s'' ∧ I n' s'') Q) s) : hwp C (.loop c) Q st := by
  intro m a w g b k cs
  have key : ∀ n s m a w, I n s → Good C s m a w →
      ∃ e a' w', (∃ st' m', Q e st' ∧ Good C st' m' a' w') ∧ Arrives C.P (lone (b.at a (.code c :: .inLoop c :: k)) cs w) b k cs e a' w' := by
    intro n
    induction n using Nat.strongRecOn with
    | _ n ih =>
      intro s m a w hI hg
      obtain ⟨e, a₁, w₁, ⟨s1, m1, hq, hg1⟩, harr⟩ := round n s hI m a w hg b (.inLoop c :: k) cs
      cases e with
      | normal =>
        obtain ⟨n', s2, hlt, hc, hI'⟩ := hq
        obtain ⟨m2, hg2⟩ := hg1.cov hc
        obtain ⟨e₂, a₂, w₂, hq₂, harr₂⟩ := ih n' hlt s2 m2 a₁ w₁ hI' hg2
        exact ⟨e₂, a₂, w₂, hq₂, .of_steps (Steps.trans harr (.one step_inLoop)) harr₂⟩
      | exit id => exact ⟨_, a₁, w₁, ⟨s1, m1, hq, hg1⟩, .pass (x := .inLoop c) rfl (fun _ _ => .inl (by simp)) harr⟩
      | goto l => exact ⟨_, a₁, w₁, ⟨s1, m1, hq, hg1⟩, .pass (x := .inLoop c) rfl (fun _ _ => .inl (by simp)) harr⟩
      | ret => exact ⟨_, a₁, w₁, ⟨s1, m1, hq, hg1⟩, .pass (x := .inLoop c) rfl (fun _ _ => .inl (by simp)) harr⟩
      | panic ch => exact ⟨_, a₁, w₁, ⟨s1, m1, hq, hg1⟩, .pass (x := .inLoop c) rfl (fun _ _ => .inl (by simp)) harr⟩
      | outgrown => exact ⟨_, a₁, w₁, ⟨s1, m1, hq, hg1⟩, .pass (x := .inLoop c) rfl (fun _ _ => .inl (by simp)) harr⟩
  obtain ⟨n, s, hc, hI⟩ := h0
  obtain ⟨m', g'⟩ := g.cov hc
  obtain ⟨e, a', w', hq, harr⟩ := key n s m' a w hI g'
  exact ⟨e, a', w', hq, .of_steps (.one step_loop) harr⟩

/-! ### A function's contract out of its body -/
def resOf (P : Program) (st : HS) : ResultVar → Option (HV × Prop)
  | .tmp t => some (st.fr t, True)
  | .cell p t =>
    match st.fr p, tyT P t with
    | .ptr id off, some (ag, sz) => some (if ag then .agg (((st.hp id).cells.drop off).take sz) else (st.hp id).cells.getD off .any, (st.hp id).live = true ∧ off + sz ≤ (st.hp id).cells.length ∧ (ag = false → sz = 1))
    | _, _ => none
/-- The results: each read, no row of it written any more. -/
def ResL (P : Program) (n0 : Nat) (st : HS) : List ResultVar → List HV → Prop
  | [], [] => True
  | r :: rs, x :: xs => (match resOf P st r with | some (y, p) => p ∧ (x = fz st.hp y ∨ x = nf (fz st.hp y)) ∧ okz st.hp y ∧ ∀ id ∈ ids y, n0 ≤ id | none => False) ∧ ResL P n0 st rs xs
  | _, _ => False
def oneOf : List HV → HV
  | [x] => x
  | xs => .tup xs
def isRet : Exit → Prop
  | .ret | .normal => True
  | _ => False
def RetQ (P : Program) (fn : Func) (n0 : Nat) (r : HV) (hx : List HBlk) (e : Exit) (st : HS) : Prop :=
  isRet e ∧ ∃ xs, ResL P n0 st fn.results.toList xs ∧ r = oneOf xs ∧ hx.length = n0 ∧ ∀ id, id < n0 → hx.getD id {} = st.hp id ∧ (∀ c ∈ (st.hp id).cells, c.flat = true)

theorem ok_own {hp : Hp} {y : HV} (hok : okz hp y) : ∀ id ∈ ids y, (hp id).live = true := by
  have key : ∀ z : HV, ok1 hp z → ∀ q ∈ id1 z, (hp q).live = true := fun z hz q hq => by
    cases z <;> simp [id1] at hq
    subst hq; exact hz.1
  intro id h
  cases y with
  | agg cs =>
    obtain ⟨c, hc, hq⟩ := List.mem_flatMap.1 h
    exact key c (hok c hc) id hq
  | any => exact key .any hok id h
  | raw v => exact key (.raw v) hok id h
  | sl n f cs => exact key (.sl n f cs) hok id h
  | own a b c d => exact key (.own a b c d) hok id h
  | tup vs => exact key (.tup vs) hok id h
  | ptr a b => exact key (.ptr a b) hok id h
  | iptr cs => exact key (.iptr cs) hok id h

theorem res_run (g : Good C st m a w) {rs : List ResultVar} : ∀ {xs : List HV}, ResL C.P C.n0 st rs xs → ∃ (vs : List Value) (l0 : List Nat), (rs.mapM fun r => (match r with | .tmp t => Pure.pure (a.tmps.getD t undef) | .cell p t => (do loadVar t (← asAddr (a.tmps.getD p undef))) : Sem Value)).run C.P w = .ok vs w ∧
    vs.length = xs.length ∧ (∀ id ∈ l0, C.n0 ≤ id) ∧ ∀ (l : List Nat) (m' : Mp) (h' : Hp), (∀ id ∈ l0, id ∈ l) → ∀ (j : Nat) (x : HV) (v : Value), xs[j]? = some x → vs[j]? = some v → Rep w (Xt C.Xo m (frz st.hp l)) m' h' x v := by
  induction rs with
  | nil =>
    intro xs h
    cases xs with
    | nil => exact ⟨[], [], by simp, rfl, by simp, fun _ _ _ _ j x v hx => by simp at hx⟩
    | cons _ _ => exact h.elim
  | cons r rs ih =>
    intro xs h
    cases xs with
    | nil => exact h.elim
    | cons x xs =>
      obtain ⟨h1, h2⟩ := h
      obtain ⟨vs, l0, k1, k2, k0, k3⟩ := ih h2
      have head : ∃ v, (match r with | .tmp t => Pure.pure (a.tmps.getD t undef) | .cell p t => (do loadVar t (← asAddr (a.tmps.getD p undef))) : Sem Value).run C.P w = .ok v w ∧ ∃ y, R C st m w y v ∧ (x = fz st.hp y ∨ x = nf (fz st.hp y)) ∧ okz st.hp y ∧ ∀ id ∈ ids y, C.n0 ≤ id := by
        cases r with
        | tmp t =>
          simp only [resOf] at h1
          exact ⟨_, by simp, st.fr t, g.fr t, h1.2⟩
        | cell p t =>
          simp only [resOf] at h1
          split at h1
          · rename_i y q he
            split at he
            · rename_i id off ag sz hfp hty
              simp only [Option.some.injEq, Prod.mk.injEq] at he
              obtain ⟨rfl, rfl⟩ := he
              obtain ⟨⟨q1, q2, q3⟩, q4⟩ := h1
              have hp := g.fr p
              rw [hfp] at hp
              show ∃ v, (do loadVar t (← asAddr (a.tmps.getD p undef)) : Sem Value).run C.P w = .ok v w ∧ _
              generalize a.tmps.getD p undef = pvv at hp ⊢
              cases hp with
              | ptr _ _ b o ha hm =>
                obtain ⟨us, u1, u2, u3⟩ := stretch g.heap q1 hm off sz q2
                have hrun := run_loadVar (w := w) hty ⟨b, o + off, none⟩ us u2 q3 (fun j u hu => by rw [add_lit]; exact u3 j u hu)
                refine ⟨_, by simpa [asAddr] using hrun, _, ?_, q4⟩
                cases ag with
                | true => exact RL.rep _ _ u1
                | false =>
                  have h31 := q3 rfl
                  subst h31
                  have hx : ((st.hp id).cells.drop off).take 1 = [(st.hp id).cells.getD off .any] := by
                    have hlt : off < (st.hp id).cells.length := by omega
                    rw [List.drop_eq_getElem_cons hlt, List.take_succ_cons, List.take_zero]
                    simp [List.getD, hlt]
                  rw [hx] at u1
                  have hu0 : us[0]? = some (us[0]?.getD undef) := by simp [List.getElem?_eq_getElem (show 0 < us.length by omega)]
                  exact (u1.2 0 _ _ rfl hu0).2
            · cases he
          · exact h1.elim
      obtain ⟨v, hv, y, ry, hxy, hok, hid⟩ := head
      refine ⟨v :: vs, ids y ++ l0, ?_, by simp [k2], fun id h => ?_, fun l m' h' hl j x' v' hx' hv' => ?_⟩
      · rw [List.mapM_cons]
        simp only [Sem.run_bind, hv, Result.andThen_ok, k1]
        simp
      · rcases List.mem_append.1 h with h | h
        · exact hid id h
        · exact k0 id h
      · cases j with
        | zero =>
          simp at hx' hv'
          subst hx' hv'
          have rr := fz_rep g l ry hok (fun id h => hl id (List.mem_append.2 (.inl h))) (m' := m') (h' := h')
          rcases hxy with rfl | rfl
          · exact rr
          · exact nf_rep rr
        | succ j => exact k3 l m' h' (fun id h => hl id (List.mem_append.2 (.inr h))) j x' v' (by simpa using hx') (by simpa using hv')

theorem bound_ids (m : Mp) (h : Hp) : ∀ n, ∃ B, ∀ id b o, id < n → m id = some (b, o) → o + (h id).cells.length ≤ B
  | 0 => ⟨0, fun _ _ _ h => absurd h (Nat.not_lt_zero _)⟩
  | n + 1 => by
    obtain ⟨B, hB⟩ := bound_ids m h n
    refine ⟨B + (match m n with | some p => p.2 | none => 0) + (h n).cells.length, fun id b o hid hm => ?_⟩
    by_cases e : id = n
    · subst e; rw [hm]; simp only; omega
    · have := hB id b o (by omega) hm; omega

theorem hcalls_intro {P : Program} {f : FuncId} {fn : Func} {c : Code} {hp0 : List HBlk} {args : List HV} {r : HV} {hx : List HBlk} (hf : P.funcs[f]? = some fn) (hname : (fn.name == "runtime.NumGoroutine") = false) (hb : fn.body = some c)
    (L : List (Nat × HV)) (fr : Nat → HV) (hfr : ∀ t, fr t = .any ∨ args[t]? = some (fr t)) (hnt : args.length ≤ fn.ntmps) (hgr : ∀ b ∈ hp0, b.grow = false)
    (h : ∀ C : Ctx, C.P = P → C.n0 = hp0.length → hwp C c (RetQ P fn hp0.length r hx) ⟨fr, ofL hp0, hp0.length, fn.ntmps⟩) : HCallsD P f hp0 args r hx := by
  refine ⟨⟨fn, hf, hname, by rw [hb]; rfl⟩, fun X m w vs hl hlt hheap hG hrep => ?_⟩
  let C : Ctx := ⟨P, X, fun p => ∃ id, Xid m (ofL hp0) id p, w, hp0.length, m⟩
  have hdead : ∀ id, hp0.length ≤ id → (ofL hp0 id) = {} := fun id hid => by simp [ofL, List.getElem?_eq_none hid]
  have hgrow : ∀ id, (ofL hp0 id).grow = false := fun id => by
    rcases Nat.lt_or_ge id hp0.length with hlt | hge
    · have e : ofL hp0 id = hp0[id] := by simp [ofL, hlt]
      rw [e]; exact hgr _ (List.getElem_mem hlt)
    · rw [hdead id hge]
  have g : Good C ⟨fr, ofL hp0, hp0.length, fn.ntmps⟩ m { tmps := vs.toArray ++ Array.replicate (fn.ntmps - vs.toArray.size) undef, defers := [] } w := by
    refine ⟨rfl, ?_, fun t => ?_, hheap, Chg.refl _ _, fun _ _ => rfl, fun id b o hid hlv => ?_, fun id p _ hp => ⟨id, hp⟩, hlt, fun b => ?_, Nat.le_refl _, hG.1, fun p v hgl ⟨id, hx⟩ => hG.2 id p hx v hgl⟩
    · simp; omega
    · rcases hfr t with e | e
      · simp only [e]; exact .any _
      · have hta : t < args.length := (List.getElem?_eq_some_iff.1 e).1
        have hv : vs[t]? = some (vs[t]'(by omega)) := List.getElem?_eq_getElem (by omega)
        have e2 : ((vs.toArray ++ Array.replicate (fn.ntmps - vs.toArray.size) undef).getD t undef) = vs[t]'(by omega) := by
          simp only [Array.getD_eq_getD_getElem?]
          rw [Array.getElem?_append_left (by simp; omega)]
          simp [hv]
        rw [e2]
        exact hrep t _ _ e hv
    · have hlv' : (ofL hp0 id).live = true := hlv
      rw [hdead id hid] at hlv'; cases hlv'
    · obtain ⟨B, hB⟩ := bound_ids m (ofL hp0) hp0.length
      refine ⟨B, fun off hx => ?_⟩
      obtain ⟨id, hlv, b', o, hm, hbb, hr⟩ := hx
      have hid : id < hp0.length := by
        rcases Nat.lt_or_ge id hp0.length with h | h
        · exact h
        · rw [hdead id h] at hlv; cases hlv
      have := hB id b' o hid hm
      rw [hgrow id] at hr
      simp only [Bool.false_eq_true, false_and, or_false] at hr
      omega
  refine calls_of_wp hf hb (wp_mono (h C rfl rfl m _ w g) ?_)
  rintro e a' w' ⟨st', m', ⟨hret, xs, hres, hr, hxl, hxs⟩, g'⟩
  have hpost : a'.defers = [] ∧ ∃ v, (results fn a'.tmps).run P w' = .ok v w' ∧ ∃ v1 m1, (Ending.returned v) = .returned v1 ∧ (∀ id, id < hp0.length → m1 id = m id) ∧ HeapOK w' X m1 (ofL hx) ∧ Rep w' (Xt X m1 (ofL hx)) m1 (ofL hx) r v1 ∧
      Chg (fun p => ∃ id, Xid m (ofL hp0) id p) w w' := by
    refine ⟨g'.defers, ?_⟩
    obtain ⟨vs', l0, k1, k2, k0, k3⟩ := res_run (C := C) g' hres
    have hrun : (results fn a'.tmps).run P w' = .ok (if h : vs'.toArray.size = 1 then vs'.toArray[0] else .tuple vs'.toArray) w' := by
      unfold results
      rw [Array.mapM_eq_mapM_toList, Sem.run_bind]
      have k1' : (List.toArray <$> fn.results.toList.mapM fun r => (match r with | .tmp t => Pure.pure (a'.tmps.getD t undef) | .cell p t => (do loadVar t (← asAddr (a'.tmps.getD p undef))) : Sem Value)).run P w' = .ok vs'.toArray w' := by
        rw [map_eq_pure_bind, Sem.run_bind]
        have k2' : (fn.results.toList.mapM fun r => (match r with | .tmp t => Pure.pure (a'.tmps.getD t undef) | .cell p t => (do loadVar t (← asAddr (a'.tmps.getD p undef))) : Sem Value)).run P w' = .ok vs' w' := k1
        rw [k2']
        rfl
      refine (congrArg (fun q => Result.andThen q _) k1').trans ?_
      rfl
    have K := g'.heap
    have hofL : ∀ id, id < hp0.length → ofL hx id = st'.hp id := fun id hid => (hxs id hid).1
    have hdead' : ∀ id, hp0.length ≤ id → (ofL hx id) = {} := fun id hid => by simp [ofL, List.getElem?_eq_none (show hx.length ≤ id by omega)]
    have hlive : ∀ id, (ofL hx id).live = true → id < hp0.length := fun id hl => by
      rcases Nat.lt_or_ge id hp0.length with h | h
      · exact h
      · rw [hdead' id h] at hl; cases hl
    have hXid : ∀ id p, Xid (fun id => if id < hp0.length then m' id else none) (ofL hx) id p → id < hp0.length ∧ Xid m' st'.hp id p := fun id p h => by
      have hid := hlive id h.1
      exact ⟨hid, (Xid_ext (by simp [hid]) (hofL id hid)).1 h⟩
    have hX : ∀ p, Xt X (fun id => if id < hp0.length then m' id else none) (ofL hx) p → Xt X m' (frz st'.hp l0) p := fun p h => h.imp (fun x => x) (fun ⟨k, h⟩ => by
      obtain ⟨h1, h2⟩ := hXid k p h
      have e : frz st'.hp l0 k = st'.hp k := by
        unfold frz
        rw [if_neg (fun hk => by have := k0 k hk; simp only [C] at this; omega)]
      exact ⟨k, (Xid_ext rfl e).2 h2⟩)
    have hX' : ∀ p, Xt X (fun id => if id < hp0.length then m' id else none) (ofL hx) p → Xt X m' st'.hp p := fun p h => h.imp (fun x => x) (fun ⟨k, h⟩ => ⟨k, (hXid k p h).2⟩)
    refine ⟨_, hrun, _, fun id => if id < hp0.length then m' id else none, rfl, fun id hid => ?_, ⟨fun id hl => ?_, fun id hl => ?_, fun i j bi oi oj hij hi hj mi mj => ?_, fun id b o off hl hm hr => ?_, K.lt⟩, ?_, g'.chg⟩
    · simp only [hid, if_true]; exact g'.base id hid
    · have := hlive id hl
      rw [hofL id this] at hl ⊢
      exact K.alive id hl
    · have hid := hlive id hl
      rw [hofL id hid] at hl ⊢
      simp only [hid, if_true]
      rcases K.real id hl with h1 | ⟨b, o, cs, q1, q2, q3, q4⟩
      · exact .inl h1
      · refine .inr ⟨b, o, cs, q1, q2, q3, fun j x hj => ?_⟩
        obtain ⟨v, v1, v2, v3⟩ := q4 j x hj
        exact ⟨v, v1, v2, flat_fz (v3.mono (fun p u hp hx => ⟨hp, fun h => hx (hX' p h)⟩) (Shp.refl _) (HpLe.refl _ _)) ((hxs id hid).2 x (List.mem_of_getElem? hj))⟩
    · have h1 := hlive i hi
      have h2 := hlive j hj
      rw [hofL i h1] at hi ⊢
      rw [hofL j h2] at hj ⊢
      simp only [h1, if_true] at mi
      simp only [h2, if_true] at mj
      exact K.sep i j bi oi oj hij hi hj mi mj
    · have h1 := hlive id hl
      rw [hofL id h1] at hl hr
      simp only [h1, if_true] at hm
      exact K.out id b o off hl hm hr
    · have kk := fun j x v hx1 hv => (k3 l0 (fun id => if id < hp0.length then m' id else none) (ofL hx) (fun _ h => h) j x v hx1 hv).mono (fun p u hp hq => ⟨hp, fun h => hq (hX p h)⟩) (Shp.refl _) (HpLe.refl _ _)
      subst hr
      cases xs with
      | nil =>
        have : vs' = [] := List.eq_nil_of_length_eq_zero (by simpa using k2)
        subst this
        exact .tup [] [] rfl (by simp)
      | cons x xs =>
        cases xs with
        | nil =>
          obtain ⟨v, rfl⟩ : ∃ v, vs' = [v] := by
            cases vs' with
            | nil => simp at k2
            | cons v r => cases r with
              | nil => exact ⟨v, rfl⟩
              | cons _ _ => simp at k2
          exact kk 0 x v rfl rfl
        | cons y ys =>
          have hne : ¬ vs'.toArray.size = 1 := by simp; simp at k2; omega
          rw [dif_neg hne]
          exact .tup (x :: y :: ys) vs' k2 kk
  cases e <;> first | exact hret.elim | exact hpost

end Go.Proofs.YtfmebdmgnmogaaaGreatDoor.Hv
set_option linter.unusedVariables false
namespace Go.Proofs.YtfmebdmgnmogaaaGreatDoor.Hv
open Go Go.RowKit

def lk : List (Nat × HV) → Nat → HV
  | [], _ => .any
  | (a, x) :: L, t => if t = a then x else lk L t
def hlk : List (Nat × HBlk) → Nat → HBlk
  | [], _ => {}
  | (a, x) :: L, t => if t = a then x else hlk L t
def sg : List (Nat × Nat) → Nat → Nat
  | [], id => id
  | (a, b) :: r, id => if id = a then b else sg r id

theorem upd_lk (L : List (Nat × HV)) (d : Nat) (x : HV) : upd (lk L) d x = lk ((d, x) :: L) := by funext t; simp [upd_at, lk]
theorem upd_hlk (H : List (Nat × HBlk)) (d : Nat) (x : HBlk) : upd (hlk H) d x = hlk ((d, x) :: H) := by funext t; simp [upd_at, hlk]
theorem lk_cons (a : Nat) (x : HV) (L : List (Nat × HV)) (t : Nat) : lk ((a, x) :: L) t = if t = a then x else lk L t := rfl
theorem hlk_cons (a : Nat) (x : HBlk) (L : List (Nat × HBlk)) (t : Nat) : hlk ((a, x) :: L) t = if t = a then x else hlk L t := rfl
theorem lk_nil (t : Nat) : lk [] t = .any := rfl
theorem hlk_nil (t : Nat) : hlk [] t = {} := rfl
theorem ofL_hlk0 : ofL [] = hlk [] := by funext t; rw [ofL_nil]; rfl
theorem ofL_hlk1 (b : HBlk) : ofL [b] = hlk [(0, b)] := by funext t; rw [ofL_one]; rfl

def ints (k : IntKind) (xs : List Int) : List HV := xs.map fun x => .raw (.int k x)
theorem ints_length (k : IntKind) (xs : List Int) : (ints k xs).length = xs.length := by simp [ints]
theorem ints_append (k : IntKind) (xs ys : List Int) : ints k xs ++ ints k ys = ints k (xs ++ ys) := by simp [ints]
theorem ints_take (k : IntKind) (xs : List Int) (n : Nat) : (ints k xs).take n = ints k (xs.take n) := by simp [ints]
theorem ints_drop (k : IntKind) (xs : List Int) (n : Nat) : (ints k xs).drop n = ints k (xs.drop n) := by simp [ints]
theorem ints_one (k : IntKind) (x : Int) : [HV.raw (.int k x)] = ints k [x] := rfl
theorem ints_nil (k : IntKind) : ([] : List HV) = ints k [] := rfl
theorem ints_getD (k : IntKind) (xs : List Int) (n : Nat) (h : n < xs.length) : (ints k xs).getD n .any = .raw (.int k (xs.getD n 0)) := by simp [ints, List.getD, h]
theorem ints_getD_drop (k : IntKind) (xs : List Int) (n : Nat) (h : n < xs.length) : (ints k (xs.drop n)).getD 0 .any = .raw (.int k (xs.getD n 0)) := by
  rw [ints_getD _ _ _ (by simp; omega)]; simp [List.getD]
theorem ints_splice (k : IntKind) (xs : List Int) (n : Nat) (v : Int) (h : n < xs.length) : splice (ints k xs) n (ints k [v]) = ints k (xs.set n v) := by
  unfold splice
  rw [ints_length, ints_take, ints_drop, ints_append, ints_append]
  congr 1
  rw [List.set_eq_take_append_cons_drop, if_pos h]
  simp
theorem ints_splice_all (k : IntKind) (xs ys : List Int) (n : Nat) : splice (ints k xs) n (ints k ys) = ints k (splice xs n ys) := by
  unfold splice
  rw [ints_length, ints_take, ints_drop, ints_append, ints_append]
theorem ints_reps (k : IntKind) (v : Int) (n : Nat) : reps [HV.raw (.int k v)] n = ints k (List.replicate n v) := by
  induction n with
  | zero => rfl
  | succ n ih => simp [reps, ih, ints, List.replicate_succ]
theorem ints_ones (k : IntKind) (xs : List Int) : ∀ c ∈ ints k xs, c.one = true := by
  intro c hc; simp only [ints, List.mem_map] at hc; obtain ⟨x, _, rfl⟩ := hc; rfl
theorem ints_flat (k : IntKind) (xs : List Int) : ∀ c ∈ ints k xs, c.flat = true := by
  intro c hc; simp only [ints, List.mem_map] at hc; obtain ⟨x, _, rfl⟩ := hc; rfl
theorem ints_ren (k : IntKind) (xs : List Int) (σ : Nat → Nat) : (ints k xs).map (ren1 σ) = ints k xs := by simp [ints, ren1]
theorem ints_ref (k : IntKind) (xs : List Int) (h h' : Hp) (σ : Nat → Nat) : ∀ c ∈ ints k xs, ref1 h h' σ c := by
  intro c hc; simp only [ints, List.mem_map] at hc; obtain ⟨x, _, rfl⟩ := hc; trivial

theorem inj_nodup {α β : Type} {f : α → β} : ∀ {l : List α}, (l.map f).Nodup → ∀ p ∈ l, ∀ q ∈ l, f p = f q → p = q
  | [], _, _, hp, _, _, _ => by cases hp
  | a :: l, h, p, hp, q, hq, e => by
    simp only [List.map_cons, List.nodup_cons, List.mem_map, not_exists, not_and] at h
    rcases List.mem_cons.1 hp with k1 | k1 <;> rcases List.mem_cons.1 hq with k2 | k2
    · rw [k1, k2]
    · subst k1; exact absurd e.symm (h.1 q k2)
    · subst k2; exact absurd e (h.1 p k1)
    · exact inj_nodup h.2 p k1 q k2 e

theorem lk_mem {L : List (Nat × HV)} {t : Nat} : lk L t = .any ∨ ∃ p ∈ L, p.1 = t ∧ p.2 = lk L t := by
  induction L with
  | nil => exact .inl rfl
  | cons q L ih =>
    obtain ⟨a, x⟩ := q
    rw [lk_cons]
    by_cases e : t = a
    · rw [if_pos e]; exact .inr ⟨(a, x), by simp, e.symm, rfl⟩
    · rw [if_neg e]
      rcases ih with h | ⟨p, h1, h2⟩
      · exact .inl h
      · exact .inr ⟨p, by simp [h1], h2⟩
theorem hlk_mem {H : List (Nat × HBlk)} {t : Nat} (h : (hlk H t).live = true) : ∃ p ∈ H, p.1 = t ∧ p.2 = hlk H t := by
  induction H with
  | nil => cases h
  | cons q L ih =>
    obtain ⟨a, x⟩ := q
    rw [hlk_cons] at h ⊢
    by_cases e : t = a
    · rw [if_pos e]; exact ⟨(a, x), by simp, e.symm, rfl⟩
    · rw [if_neg e] at h ⊢
      obtain ⟨p, h1, h2⟩ := ih h
      exact ⟨p, by simp [h1], h2⟩

def covF (st : HS) (H' : Hp) (σ : Nat → Nat) (p : Nat × HV) : Prop := st.fr p.1 = ren σ p.2 ∧ ref st.hp H' σ p.2
def covB (st : HS) (H' : Hp) (σ : Nat → Nat) (p : Nat × HBlk) : Prop :=
  p.2.al = true ∧ st.hp (σ p.1) = { p.2 with cells := p.2.cells.map (ren1 σ) } ∧ (∀ c ∈ p.2.cells, ref1 st.hp H' σ c)
theorem cov_lists {n0 : Nat} {st : HS} (s : List (Nat × Nat)) (L : List (Nat × HV)) (H : List (Nat × HBlk)) (nx : Nat) (h1 : ∀ p ∈ L, covF st (hlk H) (sg s) p) (h2 : ∀ p ∈ H, covB st (hlk H) (sg s) p)
    (h3 : (H.map fun p => sg s p.1).Nodup) (h4 : ∀ p ∈ H, n0 ≤ p.1 → n0 ≤ sg s p.1) (h5 : ∀ id, id < n0 → sg s id = id) (h6 : n0 ≤ nx) {nt : Nat} (h7 : nt = st.nt) : Cov n0 st ⟨lk L, hlk H, nx, nt⟩ := by
  refine ⟨⟨sg s, fun t => ?_, fun id hl => ?_, fun i j hi hj e => ?_, h5⟩, h7, h6⟩
  · rcases lk_mem (L := L) (t := t) with h | ⟨p, hp, rfl, e⟩
    · exact .inl h
    · obtain ⟨k1, k2⟩ := h1 p hp
      exact .inr ⟨by simp only; rw [← e]; exact k1, by simp only; rw [← e]; exact k2⟩
  · obtain ⟨p, hp, rfl, e⟩ := hlk_mem hl
    obtain ⟨k1, k2, k3⟩ := h2 p hp
    simp only at hl ⊢
    rw [← e]
    exact ⟨k1, k2, k3, h4 p hp⟩
  · obtain ⟨p, hp, rfl, _⟩ := hlk_mem hi
    obtain ⟨q, hq, rfl, _⟩ := hlk_mem hj
    exact congrArg (·.1) (inj_nodup h3 p hp q hq e)


theorem vcOps_nil (P : Program) (Γ : FuncId → Option Nat) (ops : Array Oper) (base : Nat) (draw : Bool) (k : Nat) (G : List (Nat × Option Tmp)) (L : List (Nat × Foot)) (st : HS) (Q : HS → Prop) : vcOps P Γ ops base draw k [] G L st Q = Q st := rfl
theorem vcOps_cons (P : Program) (Γ : FuncId → Option Nat) (ops : Array Oper) (base : Nat) (k : Nat) (o : Oper) (l : List Oper) (G : List (Nat × Option Tmp)) (L : List (Nat × Foot)) (st : HS) (Q : HS → Prop) :
    vcOps P Γ ops base false k (o :: l) G L st Q = vcG P Γ G (base + 4 * k) o st fun st' ft => vcOps P Γ ops base false (k + 1) l ((k, o.dst) :: G) L st' Q := by simp [vcOps]
theorem vcOps_consD (P : Program) (Γ : FuncId → Option Nat) (ops : Array Oper) (base : Nat) (k : Nat) (o : Oper) (l : List Oper) (G : List (Nat × Option Tmp)) (L : List (Nat × Foot)) (st : HS) (Q : HS → Prop) :
    vcOps P Γ ops base true k (o :: l) G L st Q = vcG P Γ G (base + 4 * k) o st fun st' ft => chk ops k L ft = true ∧ vcOps P Γ ops base true (k + 1) l ((k, o.dst) :: G) ((k, ft) :: L) st' Q := by simp [vcOps]
theorem vcG_free (P : Program) (Γ : FuncId → Option Nat) (G : List (Nat × Option Tmp)) (i : Nat) (d : Option Tmp) (op : Op) (t : TypeId) (pos : String) (af : Array Edge) (st : HS) (K : HS → Foot → Prop) :
    vcG P Γ G i ⟨d, op, t, pos, af, none⟩ st K = vcOp P Γ i op d st K := rfl
/-- A guard: two ways, of which a plain value leaves one. (The last argument keeps a rewriter out of both.) -/
def Dum2 (A B : Prop) : Type := Unit
def dum2 (A B : Prop) : Dum2 A B := ()
def gK (b want : Bool) (A B : Prop) (_ : Dum2 A B) : Prop := (b = want → A) ∧ (b = (!want) → B)
theorem gK_tt (A B : Prop) (d : Dum2 A B) : gK true true A B d = A := by simp [gK]
theorem gK_ff (A B : Prop) (d : Dum2 A B) : gK false false A B d = A := by simp [gK]
theorem gK_tf (A B : Prop) (d : Dum2 A B) : gK true false A B d = B := by simp [gK]
theorem gK_ft (A B : Prop) (d : Dum2 A B) : gK false true A B d = B := by simp [gK]
theorem gK_dt (p : Prop) [Decidable p] (A B : Prop) (d : Dum2 A B) : gK (decide p) true A B d = ((p → A) ∧ (¬ p → B)) := by simp [gK]
theorem gK_df (p : Prop) [Decidable p] (A B : Prop) (d : Dum2 A B) : gK (decide p) false A B d = ((¬ p → A) ∧ (p → B)) := by simp [gK]
theorem gK_ndt (p : Prop) [Decidable p] (A B : Prop) (d : Dum2 A B) : gK (!decide p) true A B d = ((¬ p → A) ∧ (p → B)) := by simp [gK]
theorem gK_ndf (p : Prop) [Decidable p] (A B : Prop) (d : Dum2 A B) : gK (!decide p) false A B d = ((p → A) ∧ (¬ p → B)) := by simp [gK]
theorem vcG_guard (P : Program) (Γ : FuncId → Option Nat) (G : List (Nat × Option Tmp)) (i : Nat) (d : Option Tmp) (op : Op) (t : TypeId) (pos : String) (af : Array Edge) (j : Nat) (want : Bool) (st : HS) (K : HS → Foot → Prop) :
    vcG P Γ G i ⟨d, op, t, pos, af, some (j, want)⟩ st K = match lkD G j with
    | none => False
    | some d' =>
      match st.fr d' with
      | .raw (.bool b) => gK b want (vcOp P Γ i op d { st with fr := upd st.fr d' (.raw (.bool want)) } K) (dOK d st.nt ∧ K (({ st with fr := upd st.fr d' (.raw (.bool (!want))) } : HS).app d (.raw undef) []) ⟨[], []⟩) (dum2 _ _)
      | .raw (.tuple _) => dOK d st.nt ∧ K (st.app d (.raw undef) []) ⟨[], []⟩
      | _ => False := rfl
theorem lkD_nil (j : Nat) : lkD [] j = none := rfl
theorem lkD_cons (a : Nat) (d : Option Tmp) (G : List (Nat × Option Tmp)) (j : Nat) : lkD ((a, d) :: G) j = if j = a then d else lkD G j := rfl
/-- A call, with what follows it. (The last argument keeps a rewriter out of what follows.) -/
def Dum3 {α : Type} (K : α) : Type := Unit
def dum3 {α : Type} (K : α) : Dum3 K := ()
def HCallEx (P : Program) (f : FuncId) (args : List HV) (K : HV → Prop) (_ : Dum3 K) : Prop := ∃ x, HCallsD P f [] args x [] ∧ K x
def HCallExB (P : Program) (f : FuncId) (b : HBlk) (args : List HV) (K : HV → List HV → Prop) (_ : Dum3 K) : Prop := ∃ x cs, HCallsD P f [b] args x [{ b with cells := cs }] ∧ (cs.length = b.cells.length ∧ (∀ c ∈ cs, c.flat = true) ∧ x.flat = true) ∧ K x cs
theorem hcall_ex {P : Program} {f : FuncId} {args : List HV} {r : HV} {K : HV → Prop} {d : Dum3 K} (h : HCallsD P f [] args r []) (k : K r) : HCallEx P f args K d := ⟨r, h, k⟩
theorem hcall_exB {P : Program} {f : FuncId} {b b' : HBlk} {args : List HV} {r : HV} {cs : List HV} {K : HV → List HV → Prop} {d : Dum3 K} (h : HCallsD P f [b] args r [b']) (hb : b' = { b with cells := cs }) (h1 : cs.length = b.cells.length) (h2 : ∀ c ∈ cs, c.flat = true) (h3 : r.flat = true) (k : K r cs) : HCallExB P f b args K d :=
  ⟨r, cs, hb ▸ h, ⟨h1, h2, h3⟩, k⟩
theorem vcOp_def (P : Program) (Γ : FuncId → Option Nat) (i : Nat) (op : Op) (dst : Option Tmp) (st : HS) (K : HS → Foot → Prop) : vcOp P Γ i op dst st K =
  match opEff P Γ i op st.fr st.hp with
  | none => False
  | some E => dOK dst st.nt ∧ E.side ∧
    match E.res with
    | .val x wr => K (st.app dst x wr) ⟨E.rd, E.wr⟩
    | .call f args wr => HCallEx P f args (fun x => K (st.app dst x wr) ⟨E.rd, E.wr⟩) (dum3 _)
    | .callB f bid boff b args wr => HCallExB P f b args (fun x cs => K (st.app dst x (wr ++ [backB st.hp bid boff cs])) ⟨E.rd, E.wr⟩) (dum3 _) := rfl

theorem fz_agg (hp : Hp) (cs : List HV) : fz hp (.agg cs) = .agg (cs.map (fz1 hp)) := rfl
theorem fz_raw (hp : Hp) (v : Value) : fz hp (.raw v) = .raw v := rfl
theorem fz_any (hp : Hp) : fz hp .any = .any := rfl
theorem fz_sl (hp : Hp) (n : Nat) (f : Bool) (cs : List HV) : fz hp (.sl n f cs) = .sl n f cs := rfl
theorem fz_own (hp : Hp) (id off n : Nat) (full : Bool) : fz hp (.own id off n full) = .sl n full (((hp id).cells.drop off).take (n * (hp id).sz)) := rfl
theorem fz1_raw (hp : Hp) (v : Value) : fz1 hp (.raw v) = .raw v := rfl
theorem fz1_sl (hp : Hp) (n : Nat) (f : Bool) (cs : List HV) : fz1 hp (.sl n f cs) = .sl n f cs := rfl
theorem fz1_own (hp : Hp) (id off n : Nat) (full : Bool) : fz1 hp (.own id off n full) = .sl n full (((hp id).cells.drop off).take (n * (hp id).sz)) := rfl
theorem nf_agg (cs : List HV) : nf (.agg cs) = .agg (cs.map nf1) := rfl
theorem nf_raw (v : Value) : nf (.raw v) = .raw v := rfl
theorem nf_any : nf .any = .any := rfl
theorem nf_sl (n : Nat) (f : Bool) (cs : List HV) : nf (.sl n f cs) = .sl n false cs := rfl
theorem nf1_raw (v : Value) : nf1 (.raw v) = .raw v := rfl
theorem nf1_sl (n : Nat) (f : Bool) (cs : List HV) : nf1 (.sl n f cs) = .sl n false cs := rfl
theorem okz_agg (hp : Hp) (cs : List HV) : okz hp (.agg cs) = ∀ c ∈ cs, ok1 hp c := rfl
theorem okz_raw (hp : Hp) (v : Value) : okz hp (.raw v) = True := rfl
theorem okz_any (hp : Hp) : okz hp .any = True := rfl
theorem okz_sl (hp : Hp) (n : Nat) (f : Bool) (cs : List HV) : okz hp (.sl n f cs) = True := rfl
theorem okz_own (hp : Hp) (id off n : Nat) (full : Bool) : okz hp (.own id off n full) = ((hp id).live = true ∧ off + n * (hp id).sz ≤ (hp id).cells.length ∧ 0 < (hp id).sz ∧ (∀ c ∈ (hp id).cells, c.flat = true)) := rfl
theorem ok1_raw (hp : Hp) (v : Value) : ok1 hp (.raw v) = True := rfl
theorem ok1_sl (hp : Hp) (n : Nat) (f : Bool) (cs : List HV) : ok1 hp (.sl n f cs) = True := rfl
theorem ok1_own (hp : Hp) (id off n : Nat) (full : Bool) : ok1 hp (.own id off n full) = ((hp id).live = true ∧ off + n * (hp id).sz ≤ (hp id).cells.length ∧ 0 < (hp id).sz ∧ (∀ c ∈ (hp id).cells, c.flat = true)) := rfl
theorem fm_cons {p : HV → Prop} (a : HV) (l : List HV) : (∀ x, x ∈ a :: l → p x) = (p a ∧ ∀ x, x ∈ l → p x) := by simp
theorem fm_nil {p : HV → Prop} : (∀ x, x ∈ ([] : List HV) → p x) = True := by simp
theorem ren_raw (σ : Nat → Nat) (v : Value) : ren σ (.raw v) = .raw v := rfl
theorem ren_any (σ : Nat → Nat) : ren σ .any = .any := rfl
theorem ren_sl (σ : Nat → Nat) (n : Nat) (f : Bool) (cs : List HV) : ren σ (.sl n f cs) = .sl n f cs := rfl
theorem ren_own (σ : Nat → Nat) (i o n : Nat) (f : Bool) : ren σ (.own i o n f) = .own (σ i) o n f := rfl
theorem ren_ptr (σ : Nat → Nat) (i o : Nat) : ren σ (.ptr i o) = .ptr (σ i) o := rfl
theorem ren_iptr (σ : Nat → Nat) (cs : List HV) : ren σ (.iptr cs) = .iptr cs := rfl
theorem ren_agg (σ : Nat → Nat) (cs : List HV) : ren σ (.agg cs) = .agg (cs.map (ren1 σ)) := rfl
theorem ren1_raw (σ : Nat → Nat) (v : Value) : ren1 σ (.raw v) = .raw v := rfl
theorem ren1_sl (σ : Nat → Nat) (n : Nat) (f : Bool) (cs : List HV) : ren1 σ (.sl n f cs) = .sl n f cs := rfl
theorem ren1_own (σ : Nat → Nat) (i o n : Nat) (f : Bool) : ren1 σ (.own i o n f) = .own (σ i) o n f := rfl
theorem ren1_ptr (σ : Nat → Nat) (i o : Nat) : ren1 σ (.ptr i o) = .ptr (σ i) o := rfl
theorem ref_raw (h h' : Hp) (σ : Nat → Nat) (v : Value) : ref h h' σ (.raw v) = True := rfl
theorem ref_any (h h' : Hp) (σ : Nat → Nat) : ref h h' σ .any = True := rfl
theorem ref_sl (h h' : Hp) (σ : Nat → Nat) (n : Nat) (f : Bool) (cs : List HV) : ref h h' σ (.sl n f cs) = True := rfl
theorem ref_own (h h' : Hp) (σ : Nat → Nat) (i o n : Nat) (f : Bool) : ref h h' σ (.own i o n f) = ((h' i).al = true ∧ (h' i).sz = (h (σ i)).sz) := rfl
theorem ref_ptr (h h' : Hp) (σ : Nat → Nat) (i o : Nat) : ref h h' σ (.ptr i o) = ((h' i).al = true) := rfl
theorem ref_iptr (h h' : Hp) (σ : Nat → Nat) (cs : List HV) : ref h h' σ (.iptr cs) = True := rfl
theorem ref_agg (h h' : Hp) (σ : Nat → Nat) (cs : List HV) : ref h h' σ (.agg cs) = ∀ c ∈ cs, ref1 h h' σ c := rfl
theorem ref1_raw (h h' : Hp) (σ : Nat → Nat) (v : Value) : ref1 h h' σ (.raw v) = True := rfl
theorem ref1_sl (h h' : Hp) (σ : Nat → Nat) (n : Nat) (f : Bool) (cs : List HV) : ref1 h h' σ (.sl n f cs) = True := rfl
theorem ref1_own (h h' : Hp) (σ : Nat → Nat) (i o n : Nat) (f : Bool) : ref1 h h' σ (.own i o n f) = ((h' i).al = true ∧ (h' i).sz = (h (σ i)).sz) := rfl
theorem ref1_ptr (h h' : Hp) (σ : Nat → Nat) (i o : Nat) : ref1 h h' σ (.ptr i o) = ((h' i).al = true) := rfl
theorem ref1_ints (k : IntKind) (xs : List Int) (h h' : Hp) (σ : Nat → Nat) : (∀ c, c ∈ ints k xs → ref1 h h' σ c) = True := by simp only [eq_iff_iff, iff_true]; exact ints_ref k xs h h' σ
theorem sg_nil (i : Nat) : sg [] i = i := rfl
theorem sg_cons (a b : Nat) (r : List (Nat × Nat)) (i : Nat) : sg ((a, b) :: r) i = if i = a then b else sg r i := rfl
theorem u64_low (z : Int) (h : -18446744073709551616 ≤ z ∧ z < 0) : IntKind.u64.wrap z = z + 18446744073709551616 := by simp [IntKind.wrap, IntKind.bits, IntKind.signed]; omega
theorem i64_high (z : Int) (h : 9223372036854775808 ≤ z ∧ z < 18446744073709551616) : IntKind.i64.wrap z = z - 18446744073709551616 := by rw [IntKind.wrap_i64]; omega
theorem bne_tt : (true != true) = false := rfl
theorem bne_ff : (false != false) = false := rfl
theorem bne_tf : (true != false) = true := rfl
theorem bne_ft : (false != true) = true := rfl
theorem beq_tt : (true == true) = true := rfl
theorem beq_ff : (false == false) = true := rfl
theorem beq_tf : (true == false) = false := rfl
theorem beq_ft : (false == true) = false := rfl
theorem mapA_cons {α β : Type} (f : α → β) (a : α) (l : List α) : List.map f (Array.toList (List.toArray (a :: l))) = f a :: List.map f (Array.toList (List.toArray l)) := rfl
theorem mapA_nil {α β : Type} (f : α → β) : List.map f (Array.toList (List.toArray ([] : List α))) = [] := rfl
theorem splice_nil {α : Type} (l : List α) : splice l 0 [] = l := by simp [splice]
theorem splice_hd {α : Type} (a x : α) (l ys : List α) : splice (a :: l) 0 (x :: ys) = x :: splice l 0 ys := by simp [splice]
theorem splice_tl {α : Type} (a : α) (l ys : List α) (n : Nat) : splice (a :: l) (n + 1) ys = a :: splice l n ys := by simp [splice, Nat.succ_add]
theorem ints_splice1 (k : IntKind) (xs : List Int) (n : Nat) (v : Int) (h : n < xs.length) : splice (ints k xs) n [.raw (.int k v)] = ints k (xs.set n v) := ints_splice k xs n v h
theorem ints_snoc (k : IntKind) (xs : List Int) (v : Int) : ints k xs ++ [.raw (.int k v)] = ints k (xs ++ [v]) := by simp [ints]
theorem ints_toNil (k : IntKind) (xs : List Int) : [] ++ ints k xs = ints k xs := rfl
theorem one_ints (k : IntKind) (xs : List Int) : (∀ c ∈ ints k xs, c.one = true) = True := by simp only [eq_iff_iff, iff_true]; exact ints_ones k xs
theorem flat_ints (k : IntKind) (xs : List Int) : (∀ c ∈ ints k xs, c.flat = true) = True := by simp only [eq_iff_iff, iff_true]; exact ints_flat k xs
theorem one_raw (v : Value) : (HV.raw v).one = v.oneCell' := rfl
theorem one_sl (n : Nat) (f : Bool) (cs : List HV) : (HV.sl n f cs).one = true := rfl
theorem one_own (i o n : Nat) (f : Bool) : (HV.own i o n f).one = true := rfl
theorem one_ptr (i o : Nat) : (HV.ptr i o).one = true := rfl
theorem flat_raw (v : Value) : (HV.raw v).flat = true := rfl
theorem flat_sl (n : Nat) (f : Bool) (cs : List HV) : (HV.sl n f cs).flat = true := rfl
theorem cellsOf_agg (cs : List HV) : (HV.agg cs).cellsOf = cs := rfl
theorem cellsOf_raw (v : Value) : (HV.raw v).cellsOf = [.raw v] := rfl
theorem cellsOf_sl (n : Nat) (f : Bool) (cs : List HV) : (HV.sl n f cs).cellsOf = [.sl n f cs] := rfl
theorem cellsOf_own (i o n : Nat) (f : Bool) : (HV.own i o n f).cellsOf = [.own i o n f] := rfl
theorem cellsOf_ptr (i o : Nat) : (HV.ptr i o).cellsOf = [.ptr i o] := rfl
attribute [push_cast] one_raw one_sl one_own one_ptr flat_raw flat_sl cellsOf_agg cellsOf_raw cellsOf_sl cellsOf_own cellsOf_ptr one_ints flat_ints
attribute [push_cast] splice_nil splice_hd splice_tl Value.oneCell' bne_tt bne_ff bne_tf bne_ft beq_tt beq_ff beq_tf beq_ft gK_tt gK_ff gK_tf gK_ft lkD_nil lkD_cons undef Option.isSome_some Option.isSome_none
attribute [push_cast] opEff ev ofConst pv pvs nb HV.pick effPick effAlloc effBox fillH effBuild reps effBuildSlice effMake effLoad effStore effNil arith effBin binSide effUn effConv
  effFieldAddr effField effIndexAddr effIndex effExtract intH effSlice effLen newsOf effAppend fz_agg fz_raw fz_any fz_sl fz_own fz1_raw fz1_sl fz1_own nf_agg nf_raw nf_any nf_sl nf1_raw nf1_sl fzn List.take_succ_cons List.take_zero List.take_nil List.drop_succ_cons List.drop_zero List.drop_nil id1 ids okz_agg okz_raw okz_any okz_sl okz_own ok1_raw ok1_sl ok1_own fm_cons fm_nil offs effCall effBuiltin dOK HS.app HS.adv updO setAll backB
  upd_lk upd_hlk lk_cons hlk_cons lk_nil hlk_nil List.foldl_cons List.foldl_nil List.map_cons List.map_nil List.length_cons List.length_nil thenH inB
  ints_length ints_append ints_take ints_drop ints_ren ints_reps List.getD_cons_zero List.getD_cons_succ List.flatMap_cons List.flatMap_nil List.append_nil List.nil_append List.cons_append
  Bool.not_true Bool.not_false Bool.false_eq_true Bool.true_eq_false Bool.true_and Bool.and_true Bool.false_and Bool.and_false cond_true cond_false false_and and_false if_true if_false ite_true ite_false Option.map_some Option.map_none Option.bind_some Option.bind_none
  true_and and_true forall_const imp_self List.mem_cons List.not_mem_nil false_implies implies_true or_false forall_eq_or_imp forall_eq

/-- A region; what follows behind a letter. -/
theorem region {C : Ctx} {st : HS} {P : Program} (hP : C.P = P) (Γ : FuncId → Option Nat) {id : Nat} {ops : List Oper} {Q : Exit → HS → Prop}
    (h : ∀ K : HS → Prop, (∀ s, Q .normal s → K s) → vcOps P Γ ops.toArray st.nx false 0 ops [] [] (st.adv (4 * ops.length)) K) : hwp C (.region id ops.toArray false) Q st := by
  subst hP
  exact hwp_region (Γ := Γ) (by simp) (by simpa using h (fun s => Q .normal s) (fun _ h => h))
theorem regionD {C : Ctx} {st : HS} {P : Program} (hP : C.P = P) (Γ : FuncId → Option Nat) {id : Nat} {ops : List Oper} {Q : Exit → HS → Prop} (hm : P.follows .mixedOrders = true) (hB : Region.lexB .any ops.toArray = true)
    (h : ∀ K : HS → Prop, (∀ s, Q .normal s → K s) → vcOps P Γ ops.toArray st.nx true 0 ops [] [] (st.adv (4 * ops.length)) K) : hwp C (.region id ops.toArray true) Q st := by
  subst hP
  exact hwp_region (Γ := Γ) (fun _ => ⟨hm, hB⟩) (by simpa using h (fun s => Q .normal s) (fun _ h => h))

end Go.Proofs.YtfmebdmgnmogaaaGreatDoor.Hv
set_option linter.unusedVariables false
namespace Go.Proofs.YtfmebdmgnmogaaaGreatDoor.Hv
open Go Go.RowKit

theorem hwp_loopS {C : Ctx} {st : HS} {α : Type} (St : α → HS) (I : α → Prop) (μ : α → Nat) {c : Code} {Q : Exit → HS → Prop} (h0 : ∃ x, I x ∧ Cov C.n0 st (St x))
    (round : ∀ x, I x → hwp C c (thenH (fun s' => ∃ x', μ x' < μ x ∧ I x' ∧ Cov C.n0 s' (St x')) Q) (St x)) : hwp C (.loop c) Q st := by
  obtain ⟨x, hx, hc⟩ := h0
  refine hwp_loop (fun n s => ∃ x, n = μ x ∧ I x ∧ s = St x) ⟨μ x, St x, hc, x, rfl, hx, rfl⟩ ?_
  rintro n s ⟨x, rfl, hx, rfl⟩
  refine hwp_mono (round x hx) (fun e s h => ?_)
  cases e
  case normal => obtain ⟨x', h1, h2, h3⟩ := h; exact ⟨μ x', St x', h1, h3, x', rfl, h2, rfl⟩
  all_goals exact h

/-- A loop of at most n rounds, round by round. -/
def UN (C : Ctx) (c : Code) (Q : Exit → HS → Prop) : Nat → HS → Prop
  | 0, _ => False
  | n + 1, st => hwp C c (thenH (UN C c Q n) Q) st
theorem un_succ {C : Ctx} {c : Code} {Q : Exit → HS → Prop} {n : Nat} {st : HS} (h : hwp C c (thenH (UN C c Q n) Q) st) : UN C c Q (n + 1) st := h
theorem hwp_unroll {C : Ctx} {c : Code} {Q : Exit → HS → Prop} {st : HS} (n : Nat) (h : UN C c Q n st) : hwp C (.loop c) Q st := by
  intro m a w g b k cs
  have key : ∀ n s m a w, UN C c Q n s → Good C s m a w →
      ∃ e a' w', (∃ st' m', Q e st' ∧ Good C st' m' a' w') ∧ Arrives C.P (lone (b.at a (.code c :: .inLoop c :: k)) cs w) b k cs e a' w' := by
    intro n
    induction n with
    | zero => exact fun s m a w h _ => h.elim
    | succ n ih =>
      intro s m a w hI hg
      obtain ⟨e, a₁, w₁, ⟨s1, m1, hq, hg1⟩, harr⟩ := hI m a w hg b (.inLoop c :: k) cs
      cases e with
      | normal =>
        obtain ⟨e₂, a₂, w₂, hq₂, harr₂⟩ := ih s1 m1 a₁ w₁ hq hg1
        exact ⟨e₂, a₂, w₂, hq₂, .of_steps (Steps.trans harr (.one step_inLoop)) harr₂⟩
      | exit id => exact ⟨_, a₁, w₁, ⟨s1, m1, hq, hg1⟩, .pass (x := .inLoop c) rfl (fun _ _ => .inl (by simp)) harr⟩
      | goto l => exact ⟨_, a₁, w₁, ⟨s1, m1, hq, hg1⟩, .pass (x := .inLoop c) rfl (fun _ _ => .inl (by simp)) harr⟩
      | ret => exact ⟨_, a₁, w₁, ⟨s1, m1, hq, hg1⟩, .pass (x := .inLoop c) rfl (fun _ _ => .inl (by simp)) harr⟩
      | panic ch => exact ⟨_, a₁, w₁, ⟨s1, m1, hq, hg1⟩, .pass (x := .inLoop c) rfl (fun _ _ => .inl (by simp)) harr⟩
      | outgrown => exact ⟨_, a₁, w₁, ⟨s1, m1, hq, hg1⟩, .pass (x := .inLoop c) rfl (fun _ _ => .inl (by simp)) harr⟩
  obtain ⟨e, a', w', hq, harr⟩ := key n st m a w h g
  exact ⟨e, a', w', hq, .of_steps (.one step_loop) harr⟩

/-- What a body without borrowed rows has to show at its end. -/
def RQ (P : Program) (rs : List ResultVar) (r : HV) (e : Exit) (st : HS) : Prop := isRet e ∧ ∃ xs, ResL P 0 st rs xs ∧ r = oneOf xs

theorem calls_pure {P : Program} {f : FuncId} {fn : Func} {c : Code} {args : List HV} {r : HV} (hf : P.funcs[f]? = some fn) (hname : (fn.name == "runtime.NumGoroutine") = false) (hb : fn.body = some c) {rs : List ResultVar} (hrs : fn.results.toList = rs) {nt : Nat} (hnt : fn.ntmps = nt)
    (L : List (Nat × HV)) (hfr : ∀ t, lk L t = .any ∨ args[t]? = some (lk L t)) (hle : args.length ≤ nt)
    (h : ∀ C : Ctx, C.P = P → C.n0 = 0 → hwp C c (RQ P rs r) ⟨lk L, hlk [], 0, nt⟩) : HCallsD P f [] args r [] := by
  subst hrs hnt
  refine hcalls_intro hf hname hb [] (lk L) hfr hle (by simp) (fun C hP hn => ?_)
  rw [ofL_hlk0]
  exact hwp_mono (h C hP hn) (fun e st ⟨h1, xs, h2, h3⟩ => ⟨h1, xs, h2, h3, rfl, fun id h => absurd h (Nat.not_lt_zero _)⟩)

def CovL (st : HS) (H' : Hp) (σ : Nat → Nat) : List (Nat × HV) → Prop
  | [] => True
  | (t, x) :: L => (st.fr t = ren σ x ∧ ref st.hp H' σ x) ∧ CovL st H' σ L
def CovH (st : HS) (H' : Hp) (σ : Nat → Nat) : List (Nat × HBlk) → Prop
  | [] => True
  | (i, b) :: L => (b.al = true ∧ st.hp (σ i) = { b with cells := b.cells.map (ren1 σ) } ∧ (∀ c ∈ b.cells, ref1 st.hp H' σ c)) ∧ CovH st H' σ L
theorem covL_cons (st : HS) (H' : Hp) (σ : Nat → Nat) (t : Nat) (x : HV) (L : List (Nat × HV)) : CovL st H' σ ((t, x) :: L) = ((st.fr t = ren σ x ∧ ref st.hp H' σ x) ∧ CovL st H' σ L) := rfl
theorem covH_cons (st : HS) (H' : Hp) (σ : Nat → Nat) (t : Nat) (b : HBlk) (L : List (Nat × HBlk)) : CovH st H' σ ((t, b) :: L) = ((b.al = true ∧ st.hp (σ t) = { b with cells := b.cells.map (ren1 σ) } ∧ (∀ c ∈ b.cells, ref1 st.hp H' σ c)) ∧ CovH st H' σ L) := rfl
theorem covL_nil (st : HS) (H' : Hp) (σ : Nat → Nat) : CovL st H' σ [] = True := rfl
theorem covH_nil (st : HS) (H' : Hp) (σ : Nat → Nat) : CovH st H' σ [] = True := rfl
theorem covL_all {st : HS} {H' : Hp} {σ : Nat → Nat} : ∀ {L : List (Nat × HV)}, CovL st H' σ L → ∀ p ∈ L, covF st H' σ p
  | (t, x) :: L, h, p, hp => by
    rcases List.mem_cons.1 hp with rfl | hp
    · exact h.1
    · exact covL_all h.2 p hp
theorem covH_all {st : HS} {H' : Hp} {σ : Nat → Nat} : ∀ {L : List (Nat × HBlk)}, CovH st H' σ L → ∀ p ∈ L, covB st H' σ p
  | (t, x) :: L, h, p, hp => by
    rcases List.mem_cons.1 hp with rfl | hp
    · exact h.1
    · exact covH_all h.2 p hp
theorem cov_go {C : Ctx} (hn : C.n0 = 0) {st : HS} (s : List (Nat × Nat)) (L : List (Nat × HV)) (H : List (Nat × HBlk)) (nx : Nat) {nt : Nat} (h7 : nt = st.nt) (h3 : (H.map fun p => sg s p.1).Nodup) (h1 : CovL st (hlk H) (sg s) L) (h2 : CovH st (hlk H) (sg s) H) : Cov C.n0 st ⟨lk L, hlk H, nx, nt⟩ := by
  rw [hn]
  exact cov_lists s L H nx (covL_all h1) (covH_all h2) h3 (fun p _ _ => Nat.zero_le _) (fun id h => absurd h (Nat.not_lt_zero _)) (Nat.zero_le _) h7
/-- Which block of the new state is which of the old one: told by a slot. -/
inductive Slots (st : HS) : List (Nat × Nat) → Prop
  | nil : Slots st []
  | own (a t : Nat) {b o n : Nat} {f : Bool} {s : List (Nat × Nat)} (h : st.fr t = .own b o n f) (r : Slots st s) : Slots st ((a, b) :: s)
  | ptr (a t : Nat) {b o : Nat} {s : List (Nat × Nat)} (h : st.fr t = .ptr b o) (r : Slots st s) : Slots st ((a, b) :: s)
theorem cov_slots {C : Ctx} (hn : C.n0 = 0) {st : HS} {s : List (Nat × Nat)} (L : List (Nat × HV)) (H : List (Nat × HBlk)) (nx : Nat) {nt : Nat} (h7 : nt = st.nt) (hs : Slots st s)
    (h3 : (H.map fun p => sg s p.1).Nodup) (h1 : CovL st (hlk H) (sg s) L) (h2 : CovH st (hlk H) (sg s) H) : Cov C.n0 st ⟨lk L, hlk H, nx, nt⟩ := cov_go hn s L H nx h7 h3 h1 h2
theorem args_one (x : HV) : ∀ t, lk [(0, x)] t = .any ∨ [x][t]? = some (lk [(0, x)] t) := by
  intro t
  match t with
  | 0 => exact .inr rfl
  | t + 1 => exact .inl rfl
theorem args_two (x y : HV) : ∀ t, lk [(0, x), (1, y)] t = .any ∨ [x, y][t]? = some (lk [(0, x), (1, y)] t) := by
  intro t
  match t with
  | 0 => exact .inr rfl
  | 1 => exact .inr rfl
  | t + 2 => exact .inl rfl
theorem args_three (x y z : HV) : ∀ t, lk [(0, x), (1, y), (2, z)] t = .any ∨ [x, y, z][t]? = some (lk [(0, x), (1, y), (2, z)] t) := by
  intro t
  match t with
  | 0 => exact .inr rfl
  | 1 => exact .inr rfl
  | 2 => exact .inr rfl
  | t + 3 => exact .inl rfl
theorem args_none : ∀ t, lk [] t = .any ∨ ([] : List HV)[t]? = some (lk [] t) := fun t => .inl rfl

def Res1 (P : Program) (st : HS) (r : ResultVar) (x : HV) : Prop := match resOf P st r with | some (y, p) => p ∧ (x = fz st.hp y ∨ x = nf (fz st.hp y)) ∧ okz st.hp y ∧ ∀ id ∈ ids y, 0 ≤ id | none => False
theorem res_tmp {P : Program} {st : HS} {t : Nat} {x : HV} (h : x = fzn st.hp (st.fr t)) (hok : okz st.hp (st.fr t)) : Res1 P st (.tmp t) x := ⟨trivial, .inr h, hok, fun _ _ => Nat.zero_le _⟩
theorem res_cell {P : Program} {st : HS} {p t sz id : Nat} {x : HV} (ht : tyT P t = some (true, sz)) (hp : st.fr p = .ptr id 0) (hl : (st.hp id).live = true) (hlen : sz ≤ (st.hp id).cells.length)
    (h : x = fzn st.hp (.agg ((st.hp id).cells.take sz))) (hok : okz st.hp (.agg ((st.hp id).cells.take sz))) : Res1 P st (.cell p t) x := by
  simp only [Res1, resOf, hp, ht, if_true, List.drop_zero]
  exact ⟨⟨hl, by omega, by simp⟩, .inr h, hok, fun _ _ => Nat.zero_le _⟩
theorem rq_none {P : Program} {e : Exit} {st : HS} (he : isRet e) : RQ P [] (.tup []) e st := ⟨he, [], trivial, rfl⟩
theorem rq_one {P : Program} {r1 : ResultVar} {x1 : HV} {e : Exit} {st : HS} (he : isRet e) (h1 : Res1 P st r1 x1) : RQ P [r1] x1 e st := ⟨he, [x1], ⟨h1, trivial⟩, rfl⟩
theorem rq_two {P : Program} {r1 r2 : ResultVar} {x1 x2 : HV} {e : Exit} {st : HS} (he : isRet e) (h1 : Res1 P st r1 x1) (h2 : Res1 P st r2 x2) : RQ P [r1, r2] (.tup [x1, x2]) e st := ⟨he, [x1, x2], ⟨h1, h2, trivial⟩, rfl⟩
theorem rq_three {P : Program} {r1 r2 r3 : ResultVar} {x1 x2 x3 : HV} {e : Exit} {st : HS} (he : isRet e) (h1 : Res1 P st r1 x1) (h2 : Res1 P st r2 x2) (h3 : Res1 P st r3 x3) : RQ P [r1, r2, r3] (.tup [x1, x2, x3]) e st := ⟨he, [x1, x2, x3], ⟨h1, h2, h3, trivial⟩, rfl⟩
theorem toNat_sub1 (n : Nat) : ((n : Int) - 1).toNat = n - 1 := by omega
theorem toNat_add1 (n : Nat) : ((n : Int) + 1).toNat = n + 1 := by omega
theorem toNat_sub (n m : Nat) : ((n : Int) - (m : Int)).toNat = n - m := by omega
theorem toNat_add (n m : Nat) : ((n : Int) + (m : Int)).toNat = n + m := by omega

theorem normal_then {X : HS → Prop} {Q : Exit → HS → Prop} {st : HS} (h : X st) : thenH X Q .normal st := h
theorem exit_then {X : HS → Prop} {Q : Exit → HS → Prop} {st : HS} {id : Nat} (h : Q (.exit id) st) : thenH X Q (.exit id) st := h
theorem ret_then {X : HS → Prop} {Q : Exit → HS → Prop} {st : HS} (h : Q .ret st) : thenH X Q .ret st := h
theorem normal_in {Q : Exit → HS → Prop} {st : HS} {id : Nat} (h : Q .normal st) : inB id Q .normal st := h
theorem ret_in {Q : Exit → HS → Prop} {st : HS} {id : Nat} (h : Q .ret st) : inB id Q .ret st := h
theorem exit_in {Q : Exit → HS → Prop} {st : HS} {id : Nat} (h : Q .normal st) : inB id Q (.exit id) st := by simp only [inB, if_true]; exact h
theorem exit_out {Q : Exit → HS → Prop} {st : HS} {id id' : Nat} (hne : (id' == id) = false) (h : Q (.exit id') st) : inB id Q (.exit id') st := by
  simp only [inB]; rw [if_neg (by simpa using hne)]; exact h
def hwpCond (C : Ctx) (c : Operand) (x y : Code) (Q : Exit → HS → Prop) (st : HS) : Prop := hwp C (.cond c x y) Q st
theorem hwp_cond_pre {C : Ctx} {st : HS} {c : Operand} {x y : Code} {Q : Exit → HS → Prop} (h : hwpCond C c x y Q st) : hwp C (.cond c x y) Q st := h
theorem hwp_cond_post {C : Ctx} {st : HS} {c : Operand} {x y : Code} {Q : Exit → HS → Prop} {t : Bool} (hc : ev st.fr c = .raw (.bool t)) (hx : t = true → hwp C x Q st) (hy : t = false → hwp C y Q st) : hwpCond C c x y Q st := hwp_cond hc hx hy
theorem hwp_loop_round {C : Ctx} {st : HS} {α : Type} {St : α → HS} {I : α → Prop} {μ : α → Nat} {n : Nat} (x : α) (h1 : μ x < n) (h2 : I x) (h3 : Cov C.n0 st (St x)) : ∃ x', μ x' < n ∧ I x' ∧ Cov C.n0 st (St x') := ⟨x, h1, h2, h3⟩
end Go.Proofs.YtfmebdmgnmogaaaGreatDoor.Hv
set_option linter.unusedVariables false
namespace Go.Proofs.YtfmebdmgnmogaaaGreatDoor.Hv
open Go Go.RowKit

/-- What a body with one borrowed row has to show at its end. -/
def RQB (P : Program) (rs : List ResultVar) (r : HV) (b' : HBlk) (e : Exit) (st : HS) : Prop := isRet e ∧ (∃ xs, ResL P 1 st rs xs ∧ r = oneOf xs) ∧ st.hp 0 = b' ∧ ∀ c ∈ b'.cells, c.flat = true

theorem calls_bor {P : Program} {f : FuncId} {fn : Func} {c : Code} {args : List HV} {r : HV} {b b' : HBlk} (hf : P.funcs[f]? = some fn) (hname : (fn.name == "runtime.NumGoroutine") = false) (hb : fn.body = some c) {rs : List ResultVar} (hrs : fn.results.toList = rs) {nt : Nat} (hnt : fn.ntmps = nt)
    (L : List (Nat × HV)) (hfr : ∀ t, lk L t = .any ∨ args[t]? = some (lk L t)) (hle : args.length ≤ nt) (hg : b.grow = false)
    (h : ∀ C : Ctx, C.P = P → C.n0 = 1 → hwp C c (RQB P rs r b') ⟨lk L, hlk [(0, b)], 1, nt⟩) : HCallsD P f [b] args r [b'] := by
  subst hrs hnt
  refine hcalls_intro hf hname hb [] (lk L) hfr hle (by simpa using hg) (fun C hP hn => ?_)
  rw [ofL_hlk1]
  refine hwp_mono (h C hP hn) (fun e st ⟨h1, ⟨xs, h2, h3⟩, h4, h5⟩ => ⟨h1, xs, h2, h3, rfl, fun id hid => ?_⟩)
  have : id = 0 := by simp at hid; omega
  subst this
  rw [h4]
  exact ⟨rfl, h5⟩
theorem cov_bor {C : Ctx} (hn : C.n0 = 1) {st : HS} (L : List (Nat × HV)) (b : HBlk) {nt : Nat} (h7 : nt = st.nt) (h1 : CovL st (hlk [(0, b)]) (sg []) L) (h2 : CovH st (hlk [(0, b)]) (sg []) [(0, b)]) : Cov C.n0 st ⟨lk L, hlk [(0, b)], 1, nt⟩ := by
  rw [hn]
  exact cov_lists [] L [(0, b)] 1 (covL_all h1) (covH_all h2) (by simp) (fun p hp h => by simp at hp; subst hp; simp at h) (fun id h => rfl) (Nat.le_refl _) h7
theorem rqb_none {P : Program} {e : Exit} {st : HS} {b' : HBlk} (he : isRet e) (h : st.hp 0 = b') (hf : ∀ c ∈ b'.cells, c.flat = true) : RQB P [] (.tup []) b' e st := ⟨he, ⟨[], trivial, rfl⟩, h, hf⟩
theorem rqb_raw {P : Program} {t : Nat} {v : Value} {e : Exit} {st : HS} {b' : HBlk} (he : isRet e) (hv : st.fr t = .raw v) (h : st.hp 0 = b') (hf : ∀ c ∈ b'.cells, c.flat = true) : RQB P [.tmp t] (.raw v) b' e st := by
  refine ⟨he, ⟨[.raw v], ⟨?_, trivial⟩, rfl⟩, h, hf⟩
  show True ∧ _
  rw [hv]
  exact ⟨trivial, .inl rfl, trivial, by simp [ids, id1]⟩
end Go.Proofs.YtfmebdmgnmogaaaGreatDoor.Hv
