/- A region whose order is open: one walk of the text's order serves every order, where steps that no edge orders touch different blocks. No statement of its own. -/
import Derived.Test.YtfmebdmgnmogaaaDoorQHvStep
namespace Go.Proofs.YtfmebdmgnmogaaaDoor.Hv
open Go Go.RowKit

theorem setAll_not {hp : Hp} {wr : List (Nat × HBlk)} {id : Nat} (h : ∀ p ∈ wr, p.1 ≠ id) : setAll hp wr id = hp id := by
  unfold setAll
  induction wr generalizing hp with
  | nil => rfl
  | cons p wr ih =>
    simp only [List.foldl_cons]
    rw [ih (fun q hq => h q (by simp [hq])), upd_ne _ _ (Ne.symm (h p (by simp)))]
theorem setAll_mem {hp hp' : Hp} {wr : List (Nat × HBlk)} {id : Nat} (h : ∃ p ∈ wr, p.1 = id) : setAll hp wr id = setAll hp' wr id := by
  induction wr generalizing hp hp' with
  | nil => obtain ⟨p, hp, _⟩ := h; cases hp
  | cons p wr ih =>
    unfold setAll
    simp only [List.foldl_cons]
    by_cases hw : ∃ q ∈ wr, q.1 = id
    · exact ih hw
    · have hne : ∀ q ∈ wr, q.1 ≠ id := fun q hq e => hw ⟨q, hq, e⟩
      have e1 := setAll_not (hp := upd hp p.1 p.2) hne
      have e2 := setAll_not (hp := upd hp' p.1 p.2) hne
      have hpid : p.1 = id := by
        obtain ⟨q, hq, e⟩ := h
        rcases List.mem_cons.1 hq with rfl | hq
        · exact e
        · exact absurd e (hne q hq)
      unfold setAll at e1 e2
      rw [e1, e2, hpid, upd_same, upd_same]
theorem setAll_comm {hp : Hp} {u v : List (Nat × HBlk)} (h : ∀ p ∈ u, ∀ q ∈ v, p.1 ≠ q.1) : setAll (setAll hp u) v = setAll (setAll hp v) u := by
  funext id
  by_cases hv : ∃ q ∈ v, q.1 = id
  · have hu : ∀ p ∈ u, p.1 ≠ id := fun p hp e => by
      obtain ⟨q, hq, e'⟩ := hv
      exact h p hp q hq (e.trans e'.symm)
    rw [setAll_not (hp := setAll hp v) hu]
    exact setAll_mem hv
  · have hv' : ∀ q ∈ v, q.1 ≠ id := fun q hq e => hv ⟨q, hq, e⟩
    rw [setAll_not hv']
    by_cases hu : ∃ p ∈ u, p.1 = id
    · exact setAll_mem hu
    · have hu' : ∀ p ∈ u, p.1 ≠ id := fun p hp e => hu ⟨p, hp, e⟩
      rw [setAll_not hu', setAll_not hu', setAll_not hv']

def wrIn (E : Eff) : Prop :=
  match E.res with
  | .val _ wr => ∀ p ∈ wr, p.1 ∈ E.wr
  | .call _ _ wr => ∀ p ∈ wr, p.1 ∈ E.wr
  | .callB _ bid _ _ _ wr => bid ∈ E.wr ∧ bid ∈ E.rd ∧ ∀ p ∈ wr, p.1 ∈ E.wr

theorem nb_wr {i : Nat} {hp : Hp} {p : Prop} {v : HV} {b : HBlk} {E : Eff} (h : nb i hp p v b = some E) : wrIn E := by
  simp only [nb, Option.some.injEq] at h
  subst h
  intro p hp
  simp at hp ⊢
  rw [hp]
theorem pv_wr {x : HV} {E : Eff} (h : pv x = some E) : wrIn E := by
  simp only [pv, Option.some.injEq] at h
  subst h
  intro p hp; cases hp
theorem pvs_wr {q : Prop} {x : HV} {E : Eff} (h : pvs q x = some E) : wrIn E := by
  simp only [pvs, Option.some.injEq] at h
  subst h
  intro p hp; cases hp

theorem opEff_wr {P : Program} {Γ : FuncId → Option Nat} {i : Nat} {op : Op} {fr : Nat → HV} {hp : Hp} {E : Eff} (h : opEff P Γ i op fr hp = some E) : wrIn E := by
  cases op
  case move x => exact pv_wr h
  case assign x => exact pv_wr h
  case pick c a b => simp only [opEff] at h; unfold effPick at h; split at h <;> first | exact pv_wr h | cases h
  case alloc t => simp only [opEff] at h; unfold effAlloc at h; split at h <;> first | exact nb_wr h | cases h
  case box t x => exact nb_wr h
  case build t parts =>
    simp only [opEff] at h; unfold effBuild at h
    split at h
    · split at h
      · exact pvs_wr h
      · cases h
    · cases h
  case buildSlice t n parts =>
    simp only [opEff] at h; unfold effBuildSlice at h
    split at h
    · split at h
      · split at h
        · exact nb_wr h
        · cases h
      · cases h
    · cases h
  case load t x =>
    simp only [opEff] at h; unfold effLoad at h
    split at h
    · simp only [Option.some.injEq] at h; subst h; intro p hp; cases hp
    · exact pvs_wr h
    · cases h
  case store t x y =>
    simp only [opEff] at h; unfold effStore at h
    split at h
    · simp only [Option.some.injEq] at h; subst h; intro p hp; simp at hp ⊢; rw [hp]
    · cases h
  case nilCheck x =>
    simp only [opEff] at h; unfold effNil at h
    split at h
    · exact pv_wr h
    · exact pv_wr h
    · cases h
  case binOp op t x y t' =>
    simp only [opEff, Option.map_eq_some_iff] at h
    obtain ⟨E', h, rfl⟩ := h
    have : wrIn E' := by
      unfold effBin at h
      split at h
      · split at h
        · exact pvs_wr h
        · cases h
      · split at h
        · exact pv_wr h
        · exact pv_wr h
        · cases h
      · split at h
        · exact pv_wr h
        · exact pv_wr h
        · exact pvs_wr h
        · cases h
      · cases h
    exact this
  case unOp op t x =>
    simp only [opEff] at h; unfold effUn at h
    split at h
    · exact pv_wr h
    · exact pv_wr h
    · cases h
  case convert s t x =>
    simp only [opEff] at h; unfold effConv at h
    split at h
    · exact pvs_wr h
    · exact pvs_wr h
    · exact pvs_wr h
    · exact pvs_wr h
    · cases h
  case makeSlice t l c =>
    simp only [opEff] at h; unfold effMake at h
    split at h
    · split at h
      · exact nb_wr h
      · cases h
    · cases h
  case slice t x lo hi mx =>
    simp only [opEff] at h; unfold effSlice at h
    split at h
    · split at h
      · simp only [Option.some.injEq] at h; subst h; intro p hp; cases hp
      · cases h
    · split at h
      · exact pvs_wr h
      · cases h
    · split at h
      · exact pvs_wr h
      · cases h
    · cases h
  case fieldAddr s x f =>
    simp only [opEff] at h; unfold effFieldAddr at h
    split at h
    · exact pv_wr h
    · exact pvs_wr h
    · cases h
  case field s x f => simp only [opEff] at h; unfold effField at h; split at h <;> first | exact pvs_wr h | cases h
  case indexAddr t x ix =>
    simp only [opEff] at h; unfold effIndexAddr at h
    split at h
    · exact pvs_wr h
    · exact pvs_wr h
    · cases h
  case index t x ix => simp only [opEff] at h; unfold effIndex at h; split at h <;> first | exact pvs_wr h | cases h
  case extract x k => simp only [opEff] at h; unfold effExtract at h; split at h <;> first | exact pvs_wr h | cases h
  case call c =>
    simp only [opEff] at h
    split at h
    · unfold effBuiltin at h
      split at h
      · unfold effLen at h
        split at h
        · exact pvs_wr h
        · exact pvs_wr h
        · exact pvs_wr h
        · cases h
      · unfold effAppend at h
        split at h
        · split at h
          · simp only [Option.some.injEq] at h; subst h; intro p hp; simp at hp ⊢; rcases hp with rfl | rfl <;> simp
          · simp only [Option.some.injEq] at h; subst h; intro p hp; simp at hp ⊢; rw [hp]
          · cases h
        · cases h
      · exact pv_wr h
      · cases h
    · unfold effCall at h
      split at h
      · simp only [Option.some.injEq] at h; subst h
        intro p hp
        simp only [offs, List.mem_map] at hp
        obtain ⟨id, hid, rfl⟩ := hp
        exact hid
      · split at h
        · simp only [Option.some.injEq] at h; subst h
          refine ⟨by simp, by simp, fun p hp => ?_⟩
          simp only [offs, List.mem_map] at hp
          obtain ⟨id, hid, rfl⟩ := hp
          exact List.mem_cons_of_mem _ hid
        · cases h
    · cases h
  all_goals (simp only [opEff] at h; cases h)

def IsVal (E : Eff) : Prop := ∃ x wr, E.res = .val x wr
theorem nb_val {i : Nat} {hp : Hp} {p : Prop} {v : HV} {b : HBlk} {E : Eff} (h : nb i hp p v b = some E) : IsVal E := by
  simp only [nb, Option.some.injEq] at h
  subst h
  exact ⟨_, _, rfl⟩
theorem pv_val {x : HV} {E : Eff} (h : pv x = some E) : IsVal E := by
  simp only [pv, Option.some.injEq] at h
  subst h
  exact ⟨_, _, rfl⟩
theorem pvs_val {q : Prop} {x : HV} {E : Eff} (h : pvs q x = some E) : IsVal E := by
  simp only [pvs, Option.some.injEq] at h
  subst h
  exact ⟨_, _, rfl⟩

theorem opEff_val {P : Program} {Γ : FuncId → Option Nat} {i : Nat} {op : Op} {fr : Nat → HV} {hp : Hp} {E : Eff} (h : opEff P Γ i op fr hp = some E) : IsVal E ∨ ∃ c f, op = .call c ∧ c.callee = .value (.func f) ∧ effCall Γ f (c.args.toList.map (ev fr)) hp = some E := by
  cases op
  case move x => refine .inl ?_; exact pv_val h
  case assign x => refine .inl ?_; exact pv_val h
  case pick c a b => refine .inl ?_; simp only [opEff] at h; unfold effPick at h; split at h <;> first | exact pv_val h | cases h
  case alloc t => refine .inl ?_; simp only [opEff] at h; unfold effAlloc at h; split at h <;> first | exact nb_val h | cases h
  case box t x => refine .inl ?_; exact nb_val h
  case build t parts =>
    refine .inl ?_
    simp only [opEff] at h; unfold effBuild at h
    split at h
    · split at h
      · exact pvs_val h
      · cases h
    · cases h
  case buildSlice t n parts =>
    refine .inl ?_
    simp only [opEff] at h; unfold effBuildSlice at h
    split at h
    · split at h
      · split at h
        · exact nb_val h
        · cases h
      · cases h
    · cases h
  case load t x =>
    refine .inl ?_
    simp only [opEff] at h; unfold effLoad at h
    split at h
    · simp only [Option.some.injEq] at h; subst h; exact ⟨_, _, rfl⟩
    · exact pvs_val h
    · cases h
  case store t x y =>
    refine .inl ?_
    simp only [opEff] at h; unfold effStore at h
    split at h
    · simp only [Option.some.injEq] at h; subst h; exact ⟨_, _, rfl⟩
    · cases h
  case nilCheck x =>
    refine .inl ?_
    simp only [opEff] at h; unfold effNil at h
    split at h
    · exact pv_val h
    · exact pv_val h
    · cases h
  case binOp op t x y t' =>
    refine .inl ?_
    simp only [opEff, Option.map_eq_some_iff] at h
    obtain ⟨E', h, rfl⟩ := h
    have : IsVal E' := by
      unfold effBin at h
      split at h
      · split at h
        · exact pvs_val h
        · cases h
      · split at h
        · exact pv_val h
        · exact pv_val h
        · cases h
      · split at h
        · exact pv_val h
        · exact pv_val h
        · exact pvs_val h
        · cases h
      · cases h
    exact this
  case unOp op t x =>
    refine .inl ?_
    simp only [opEff] at h; unfold effUn at h
    split at h
    · exact pv_val h
    · exact pv_val h
    · cases h
  case convert s t x =>
    refine .inl ?_
    simp only [opEff] at h; unfold effConv at h
    split at h
    · exact pvs_val h
    · exact pvs_val h
    · exact pvs_val h
    · exact pvs_val h
    · cases h
  case makeSlice t l c =>
    refine .inl ?_
    simp only [opEff] at h; unfold effMake at h
    split at h
    · split at h
      · exact nb_val h
      · cases h
    · cases h
  case slice t x lo hi mx =>
    refine .inl ?_
    simp only [opEff] at h; unfold effSlice at h
    split at h
    · split at h
      · simp only [Option.some.injEq] at h; subst h; exact ⟨_, _, rfl⟩
      · cases h
    · split at h
      · exact pvs_val h
      · cases h
    · split at h
      · exact pvs_val h
      · cases h
    · cases h
  case fieldAddr s x f =>
    refine .inl ?_
    simp only [opEff] at h; unfold effFieldAddr at h
    split at h
    · exact pv_val h
    · exact pvs_val h
    · cases h
  case field s x f => refine .inl ?_; simp only [opEff] at h; unfold effField at h; split at h <;> first | exact pvs_val h | cases h
  case indexAddr t x ix =>
    refine .inl ?_
    simp only [opEff] at h; unfold effIndexAddr at h
    split at h
    · exact pvs_val h
    · exact pvs_val h
    · cases h
  case index t x ix => refine .inl ?_; simp only [opEff] at h; unfold effIndex at h; split at h <;> first | exact pvs_val h | cases h
  case extract x k => refine .inl ?_; simp only [opEff] at h; unfold effExtract at h; split at h <;> first | exact pvs_val h | cases h
  case call c =>
    simp only [opEff] at h
    split at h
    · refine .inl ?_
      unfold effBuiltin at h
      split at h
      · unfold effLen at h
        split at h
        · exact pvs_val h
        · exact pvs_val h
        · exact pvs_val h
        · cases h
      · unfold effAppend at h
        split at h
        · split at h
          · simp only [Option.some.injEq] at h; subst h; exact ⟨_, _, rfl⟩
          · simp only [Option.some.injEq] at h; subst h; exact ⟨_, _, rfl⟩
          · cases h
        · cases h
      · exact pv_val h
      · cases h
    · rename_i f hcal
      exact .inr ⟨c, f, rfl, hcal, h⟩
    · cases h
  all_goals (simp only [opEff] at h; cases h)

theorem Does.wr {P : Program} {Γ : FuncId → Option Nat} {i : Nat} {op : Op} {fr : Nat → HV} {hp : Hp} {x : HV} {wr : List (Nat × HBlk)} {ft : Foot} (h : Does P Γ i op fr hp x wr ft) : ∀ p ∈ wr, p.1 ∈ ft.wr := by
  obtain ⟨E, h1, h2, rfl, h3⟩ := h
  have k := opEff_wr h1
  unfold wrIn at k
  split at h3 <;> rename_i e <;> simp only [e] at k
  · rw [h3.2]; exact k
  · rw [h3.2]; exact k
  · obtain ⟨b', _, _, rfl⟩ := h3
    intro p hp
    rcases List.mem_append.1 hp with hp | hp
    · exact k.2.2 p hp
    · simp only [List.mem_singleton] at hp
      subst hp
      exact k.1

theorem Does.far {P : Program} {Γ : FuncId → Option Nat} {i : Nat} {op : Op} {fr fr' : Nat → HV} {hp hp' : Hp} {x : HV} {wr : List (Nat × HBlk)} {ft : Foot} (h : Does P Γ i op fr hp x wr ft)
    (hf : ∀ x ∈ op.operands, ev fr' x = ev fr x) (hr : ∀ id ∈ ft.rd, hp' id = hp id) : Does P Γ i op fr' hp' x wr ft := by
  refine h.local hf hr ?_
  rintro f bid boff b args wr' ⟨E, h1, h2⟩
  obtain ⟨E', h1', _, rfl, _⟩ := h
  have : E' = E := by rw [h1] at h1'; injection h1' with h1'; exact h1'.symm
  subst this
  have k := opEff_wr h1
  unfold wrIn at k
  rw [h2] at k
  exact k.2.1

/-! ### A step under its guard -/
def gslot (ops : Array Oper) (o : Oper) : Option (Option Tmp × Bool) := o.guard.map fun g => ((ops[g.1]?).bind (·.dst), g.2)

/-- Does the guard let it pass? -/
inductive Pass (ops : Array Oper) (o : Oper) (fr : Nat → HV) : Bool → Prop
  | free : o.guard = none → Pass ops o fr true
  | yes (j : Nat) (want : Bool) (d : Tmp) : o.guard = some (j, want) → (ops[j]?).bind (·.dst) = some d → fr d = .raw (.bool want) → Pass ops o fr true
  | no (j : Nat) (want : Bool) (d : Tmp) (v : Value) : o.guard = some (j, want) → (ops[j]?).bind (·.dst) = some d → fr d = .raw v → v ≠ .bool want → Pass ops o fr false

def StepG (P : Program) (Γ : FuncId → Option Nat) (ops : Array Oper) (i : Nat) (o : Oper) (st : HS) (x : HV) (wr : List (Nat × HBlk)) (ft : Foot) : Prop :=
  (Pass ops o st.fr true ∧ Does P Γ i o.op st.fr st.hp x wr ft) ∨ (Pass ops o st.fr false ∧ x = .raw undef ∧ wr = [] ∧ ft = ⟨[], []⟩)

theorem StepG.wr {P : Program} {Γ : FuncId → Option Nat} {ops : Array Oper} {i : Nat} {o : Oper} {st : HS} {x : HV} {wr : List (Nat × HBlk)} {ft : Foot} (h : StepG P Γ ops i o st x wr ft) : ∀ p ∈ wr, p.1 ∈ ft.wr := by
  rcases h with ⟨_, h⟩ | ⟨_, _, rfl, _⟩
  · exact h.wr
  · intro p hp; cases hp

theorem Pass.far {ops : Array Oper} {o : Oper} {fr fr' : Nat → HV} {b : Bool} (h : Pass ops o fr b) (hl : ∀ t ∈ o.looksAt ops, fr' t = fr t) : Pass ops o fr' b := by
  have hd : ∀ j want d, o.guard = some (j, want) → (ops[j]?).bind (·.dst) = some d → fr' d = fr d := fun j want d h1 h2 => hl d (by
    unfold Oper.looksAt
    rw [h1]
    simp [h2])
  cases h with
  | free h => exact .free h
  | yes j want d h1 h2 h3 => exact .yes j want d h1 h2 (by rw [hd j want d h1 h2, h3])
  | no j want d v h1 h2 h3 h4 => exact .no j want d v h1 h2 (by rw [hd j want d h1 h2, h3]) h4

theorem StepG.far {P : Program} {Γ : FuncId → Option Nat} {ops : Array Oper} {i : Nat} {o : Oper} {st st' : HS} {x : HV} {wr : List (Nat × HBlk)} {ft : Foot} (h : StepG P Γ ops i o st x wr ft)
    (hl : ∀ t ∈ o.looksAt ops, st'.fr t = st.fr t) (hr : ∀ id ∈ ft.rd, st'.hp id = st.hp id) : StepG P Γ ops i o st' x wr ft := by
  rcases h with ⟨h1, h2⟩ | ⟨h1, h2⟩
  · refine .inl ⟨h1.far hl, h2.far (fun x hx => ?_) hr⟩
    cases x with
    | tmp t =>
      refine hl t ?_
      unfold Oper.looksAt
      refine List.mem_append.2 (.inl (List.mem_filterMap.2 ⟨.tmp t, by simpa using hx, rfl⟩))
    | _ => rfl
  · exact .inr ⟨h1.far hl, h2⟩

theorem Foot.apart_spec {f g : Foot} (h : f.apart g = true) : (∀ i ∈ f.wr, i ∉ g.rd ∧ i ∉ g.wr) ∧ (∀ i ∈ g.wr, i ∉ f.rd) := by
  simp only [Foot.apart, Bool.and_eq_true, List.all_eq_true, Bool.not_eq_true', List.contains_eq_mem, decide_eq_false_iff_not] at h
  exact ⟨fun i hi => h.1 i hi, fun i hi => h.2 i hi⟩
theorem Foot.apart_symm {f g : Foot} (h : f.apart g = true) : g.apart f = true := by
  obtain ⟨h1, h2⟩ := Foot.apart_spec h
  simp only [Foot.apart, Bool.and_eq_true, List.all_eq_true, Bool.not_eq_true', List.contains_eq_mem, decide_eq_false_iff_not]
  exact ⟨fun i hi => ⟨h2 i hi, fun h => (h1 i h).2 hi⟩, fun i hi => (h1 i hi).1⟩

theorem updO_ne {f : Nat → HV} {d : Option Nat} {x : HV} {t : Nat} (h : d ≠ some t) : updO f d x t = f t := by
  cases d with
  | none => rfl
  | some i => exact upd_ne _ _ (fun e => h (by rw [e]))

/-- Two steps apart, exchanged. -/
theorem swap {P : Program} {Γ : FuncId → Option Nat} {ops : Array Oper} {i j : Nat} {oi oj : Oper} {st : HS} {xi xj : HV} {wi wj : List (Nat × HBlk)} {fi fj : Foot}
    (hap : oi.apart ops oj = true) (hi : StepG P Γ ops i oi st xi wi fi) (hj : StepG P Γ ops j oj (st.app oi.dst xi wi) xj wj fj) (hft : fi.apart fj = true) :
    StepG P Γ ops j oj st xj wj fj ∧ StepG P Γ ops i oi (st.app oj.dst xj wj) xi wi fi ∧ (st.app oi.dst xi wi).app oj.dst xj wj = (st.app oj.dst xj wj).app oi.dst xi wi := by
  obtain ⟨h1, h2, h3⟩ := Oper.apart_spec hap
  obtain ⟨k1, k2⟩ := Foot.apart_spec hft
  have w1 := hi.wr
  have w2 := hj.wr
  refine ⟨hj.far (fun t ht => ?_) (fun id hid => ?_), hi.far (fun t ht => ?_) (fun id hid => ?_), ?_⟩
  · exact (updO_ne (fun e => h1 t e ht)).symm
  · exact (setAll_not (fun p hp e => (k1 p.1 (w1 p hp)).1 (by rw [e]; exact hid))).symm
  · exact updO_ne (fun e => h3 t e ht)
  · exact setAll_not (fun p hp e => k2 p.1 (w2 p hp) (by rw [e]; exact hid))
  · unfold HS.app
    simp only
    congr 1
    · funext t
      cases hdi : oi.dst with
      | none => rfl
      | some a =>
        cases hdj : oj.dst with
        | none => rfl
        | some b =>
          have hab : a ≠ b := fun e => h2 a hdi (by rw [hdj, e])
          simp only [updO, upd_at]
          by_cases e1 : t = b
          · simp [e1, Ne.symm hab]
          · by_cases e2 : t = a
            · simp [e2, hab]
            · simp [e1, e2]
    · exact setAll_comm (fun p hp q hq e => (k1 p.1 (w1 p hp)).2 (by rw [e]; exact w2 q hq))

/-! ### Which operations wait for which -/
def dep (ops : Array Oper) : Nat → Nat → Nat → Bool
  | 0, _, _ => false
  | n + 1, i, k => match ops[i]? with
    | some o => o.after.any fun e => Region.binds .any e && (e.on == k || dep ops n e.on k)
    | none => false

def CL (ops : Array Oper) (listed : Array Bool) : Prop := ∀ k, listed.getD k false = true → ∀ n i, dep ops n k i = true → listed.getD i false = true

theorem dep_ready {ops : Array Oper} {listed : Array Bool} (hc : CL ops listed) {j : Nat} {oj : Oper} (hj : ops[j]? = some oj) (hall : ∀ e ∈ oj.after, Region.binds .any e = true → listed.getD e.on false = true) :
    ∀ n i, dep ops n j i = true → listed.getD i false = true := by
  intro n i h
  cases n with
  | zero => simp [dep] at h
  | succ n =>
    simp only [dep, hj, Array.any_eq_true] at h
    obtain ⟨q, hq, h⟩ := h
    simp only [Bool.and_eq_true, Bool.or_eq_true, beq_iff_eq] at h
    have hl := hall _ (Array.getElem_mem hq) h.1
    rcases h.2 with e | e
    · rw [← e]; exact hl
    · exact hc _ hl n i e

theorem CL.set {ops : Array Oper} {listed : Array Bool} (hc : CL ops listed) {j : Nat} {oj : Oper} (hj : ops[j]? = some oj) (hall : ∀ e ∈ oj.after, Region.binds .any e = true → listed.getD e.on false = true) : CL ops (listed.setIfInBounds j true) := by
  have mono : ∀ i, listed.getD i false = true → (listed.setIfInBounds j true).getD i false = true := fun i hi => by
    simp only [Array.getD_eq_getD_getElem?, Array.getElem?_setIfInBounds] at hi ⊢
    by_cases h : j = i
    · subst h
      by_cases hlt : j < listed.size
      · simp [hlt]
      · simp [hlt] at hi
    · rw [if_neg h]; exact hi
  intro k hk n i hd
  by_cases hkj : k = j
  · subst hkj
    exact mono i (dep_ready hc hj hall n i hd)
  · refine mono i (hc k ?_ n i hd)
    simp only [Array.getD_eq_getD_getElem?, Array.getElem?_setIfInBounds] at hk ⊢
    rw [if_neg (fun e => hkj e.symm)] at hk
    exact hk

/-! ### Whatever order is picked -/
def qV (P : Program) (Γ : FuncId → Option Nat) (ops : Array Oper) (base : Nat) (j : Nat) (K : HS → Foot → Prop) (L : Nat → Option Foot) (st : HS) : Prop :=
  ∃ o, ops[j]? = some o ∧ ∃ x wr ft, StepG P Γ ops (base + 4 * j) o st x wr ft ∧ dOK o.dst st.nt ∧ (∀ k fk, L k = some fk → dep ops 6 j k = true ∨ fk.apart ft = true) ∧ K (st.app o.dst x wr) ft

def anyV (P : Program) (Γ : FuncId → Option Nat) (ops : Array Oper) (base : Nat) (Q : HS → Prop) : Nat → Array Bool → (Nat → Option Foot) → HS → Prop
  | 0, listed, _, st => Region.ready .any ops listed = [] ∧ Q st
  | fuel + 1, listed, L, st => (Region.ready .any ops listed = [] → Q st) ∧
    ∀ j ∈ Region.ready .any ops listed, qV P Γ ops base j (fun st' ft => anyV P Γ ops base Q fuel (listed.setIfInBounds j true) (upd L j (some ft)) st') L st

theorem listed_getD {listed : Array Bool} {i : Nat} (h : listed.getD i true = false) : listed.getD i false = false := by
  simp only [Array.getD_eq_getD_getElem?] at h ⊢
  cases hq : listed[i]? with
  | none => rfl
  | some b => rw [hq] at h; simpa using h

theorem anyV_first {P : Program} {Γ : FuncId → Option Nat} {ops : Array Oper} {base : Nat} {Q : HS → Prop} {i : Nat} {oi : Oper} {x : HV} {wr : List (Nat × HBlk)} {ft : Foot} (hi : ops[i]? = some oi) :
    ∀ (fuel : Nat) (listed : Array Bool) (L : Nat → Option Foot) (st : HS),
      (∀ j oj, ops[j]? = some oj → j ≠ i → listed.getD j true = false → (∀ e ∈ oj.after, Region.binds .any e = true → e.on ≠ i) → oi.apart ops oj = true) →
      i ∈ Region.ready .any ops listed → CL ops listed → StepG P Γ ops (base + 4 * i) oi st x wr ft → dOK oi.dst st.nt → (∀ k fk, L k = some fk → dep ops 6 i k = true ∨ fk.apart ft = true) → L i = none →
      anyV P Γ ops base Q fuel (listed.setIfInBounds i true) (upd L i (some ft)) (st.app oi.dst x wr) → anyV P Γ ops base Q (fuel + 1) listed L st := by
  intro fuel
  induction fuel with
  | zero =>
    intro listed L st _ hr _ hs hd hL _ H
    refine ⟨fun h => (by rw [h] at hr; cases hr), fun j hj => ?_⟩
    by_cases hji : j = i
    · subst hji; exact ⟨oi, hi, x, wr, ft, hs, hd, hL, H⟩
    · have := ready_mono hj hji
      rw [H.1] at this
      cases this
  | succ fuel ih =>
    intro listed L st hfree hr hc hs hd hL hLi H
    refine ⟨fun h => (by rw [h] at hr; cases hr), fun j hj => ?_⟩
    by_cases hji : j = i
    · subst hji; exact ⟨oi, hi, x, wr, ft, hs, hd, hL, H⟩
    · obtain ⟨oj, hoj, xj, wj, fj, hsj, hdj, hLj, HK⟩ := H.2 j (ready_mono hj hji)
      obtain ⟨hjun, oj', hoj', hall⟩ := mem_ready.1 hj
      have : oj' = oj := by rw [hoj] at hoj'; injection hoj' with e; exact e.symm
      subst this
      have hiun := (mem_ready.1 hr).1
      have hiunf := listed_getD hiun
      have hnot : ∀ e ∈ oj'.after, Region.binds .any e = true → e.on ≠ i := fun e he hb heq => by
        have h1 := hall e he hb
        rw [heq, hiunf] at h1
        cases h1
      have hnd : dep ops 6 j i = false := by
        cases hq : dep ops 6 j i with
        | false => rfl
        | true =>
          have := dep_ready hc hoj hall 6 i hq
          rw [hiunf] at this; cases this
      have hap := hfree j oj' hoj hji hjun hnot
      have hft : ft.apart fj = true := by
        rcases hLj i ft (upd_same _ _ _) with h | h
        · rw [hnd] at h; cases h
        · exact h
      obtain ⟨g1, g2, g3⟩ := swap hap hs hsj hft
      have hfree' : ∀ k ok, ops[k]? = some ok → k ≠ i → (listed.setIfInBounds j true).getD k true = false →
          (∀ e ∈ ok.after, Region.binds .any e = true → e.on ≠ i) → oi.apart ops ok = true := fun k ok hk hki hun hno => by
        refine hfree k ok hk hki ?_ hno
        by_cases hjk : j = k
        · subst hjk; exact hjun
        · rw [getD_set_ne true hjk] at hun; exact hun
      refine ⟨oj', hoj, xj, wj, fj, g1, hdj, fun k fk hk => ?_, ?_⟩
      · refine hLj k fk ?_
        by_cases e : k = i
        · subst e; rw [hLi] at hk; cases hk
        · rw [upd_ne _ _ e]; exact hk
      · refine ih (listed.setIfInBounds j true) (upd L j (some fj)) (st.app oj'.dst xj wj) hfree' (ready_mono hr (Ne.symm hji)) (hc.set hoj hall) g2 hd (fun k fk hk => ?_) ?_ ?_
        · by_cases e : k = j
          · subst e
            rw [upd_same] at hk
            injection hk with hk; subst hk
            exact .inr (Foot.apart_symm hft)
          · rw [upd_ne _ _ e] at hk; exact hL k fk hk
        · rw [upd_ne _ _ (Ne.symm hji)]; exact hLi
        · rw [Array.setIfInBounds_comm _ _ hji, ← g3]
          have hLL : upd (upd L j (some fj)) i (some ft) = upd (upd L i (some ft)) j (some fj) := by
            funext k
            simp only [upd_at]
            by_cases e1 : k = i
            · have : k ≠ j := fun e => hji (e ▸ e1)
              simp [e1, Ne.symm hji]
            · by_cases e2 : k = j
              · simp [e2, hji]
              · simp [e1, e2]
          rw [hLL]
          exact HK

/-! ### The text's order -/
def lkD : List (Nat × Option Tmp) → Nat → Option Tmp
  | [], _ => none
  | (a, d) :: G, j => if j = a then d else lkD G j
def vcG (P : Program) (Γ : FuncId → Option Nat) (G : List (Nat × Option Tmp)) (i : Nat) (o : Oper) (st : HS) (K : HS → Foot → Prop) : Prop :=
  match o.guard with
  | none => vcOp P Γ i o.op o.dst st K
  | some (j, want) =>
    match lkD G j with
    | none => False
    | some d =>
      match st.fr d with
      | .raw (.bool b) => (b = want → vcOp P Γ i o.op o.dst { st with fr := upd st.fr d (.raw (.bool want)) } K) ∧ (b = (!want) → dOK o.dst st.nt ∧ K (({ st with fr := upd st.fr d (.raw (.bool (!want))) } : HS).app o.dst (.raw undef) []) ⟨[], []⟩)
      | .raw (.tuple _) => dOK o.dst st.nt ∧ K (st.app o.dst (.raw undef) []) ⟨[], []⟩
      | _ => False

theorem upd_self {α : Type} (f : Nat → α) (i : Nat) (x : α) (h : f i = x) : upd f i x = f := by
  funext j
  rw [upd_at]
  by_cases e : j = i
  · rw [if_pos e, e, h]
  · rw [if_neg e]

def GOK (ops : Array Oper) (G : List (Nat × Option Tmp)) : Prop := ∀ j d, lkD G j = some d → (ops[j]?).bind (·.dst) = some d

theorem vcG_step {P : Program} {Γ : FuncId → Option Nat} {ops : Array Oper} {G : List (Nat × Option Tmp)} (hG : GOK ops G) {i : Nat} {o : Oper} {st : HS} {K : HS → Foot → Prop} (h : vcG P Γ G i o st K) :
    ∃ x wr ft, StepG P Γ ops i o st x wr ft ∧ dOK o.dst st.nt ∧ K (st.app o.dst x wr) ft := by
  unfold vcG at h
  split at h
  · rename_i hg
    obtain ⟨x, wr, ft, h1, h2, h3⟩ := vcOp_does h
    exact ⟨x, wr, ft, .inl ⟨.free hg, h1⟩, h2, h3⟩
  · rename_i j want hg
    split at h
    · exact h.elim
    · rename_i d hd0
      have hd := hG j d hd0
      split at h
      · rename_i b hb
        by_cases e : b = want
        · subst e
          have h1 := h.1 rfl
          rw [upd_self _ _ _ hb] at h1
          obtain ⟨x, wr, ft, h1, h2, h3⟩ := vcOp_does h1
          exact ⟨x, wr, ft, .inl ⟨.yes j b d hg hd hb, h1⟩, h2, h3⟩
        · have e' : b = !want := by cases b <;> cases want <;> simp_all
          have h2 := h.2 e'
          rw [upd_self _ _ _ (by rw [hb, e'])] at h2
          exact ⟨_, _, _, .inr ⟨.no j want d (.bool b) hg hd hb (fun q => e (by injection q)), rfl, rfl, rfl⟩, h2.1, h2.2⟩
      · rename_i vs hb
        exact ⟨_, _, _, .inr ⟨.no j want d _ hg hd hb (fun q => by cases q), rfl, rfl, rfl⟩, h.1, h.2⟩
      · exact h.elim

/-- What no edge orders is apart. -/
def chk (ops : Array Oper) (k : Nat) (L : List (Nat × Foot)) (ft : Foot) : Bool := L.all fun p => p.2.apart ft || dep ops 6 k p.1

/-- The operations in the text's order; draw: what no edge orders must be apart. -/
def vcOps (P : Program) (Γ : FuncId → Option Nat) (ops : Array Oper) (base : Nat) (draw : Bool) : Nat → List Oper → List (Nat × Option Tmp) → List (Nat × Foot) → HS → (HS → Prop) → Prop
  | _, [], _, _, st, Q => Q st
  | k, o :: l, G, L, st, Q => vcG P Γ G (base + 4 * k) o st fun st' ft => (draw = true → chk ops k L ft = true) ∧ vcOps P Γ ops base draw (k + 1) l ((k, o.dst) :: G) (bif draw then (k, ft) :: L else L) st' Q

theorem GOK.step {ops : Array Oper} {G : List (Nat × Option Tmp)} (h : GOK ops G) {k : Nat} {o : Oper} (h0 : ops[k]? = some o) : GOK ops ((k, o.dst) :: G) := by
  intro j d hj
  simp only [lkD] at hj
  by_cases e : j = k
  · rw [if_pos e] at hj; rw [e, h0]; exact hj
  · rw [if_neg e] at hj; exact h j d hj
theorem GOK.nil (ops : Array Oper) : GOK ops [] := fun j d h => by cases h

def logF (L : List (Nat × Foot)) : Nat → Option Foot := fun k => (L.find? (·.1 == k)).map (·.2)

theorem anyV_lex {P : Program} {Γ : FuncId → Option Nat} {ops : Array Oper} {base : Nat} {Q : HS → Prop} : ∀ (l : List Oper) (k : Nat) (listed : Array Bool) (G : List (Nat × Option Tmp)) (L : List (Nat × Foot)) (st : HS), (∀ j, l[j]? = ops[k + j]?) →
    Region.lexFrom .any ops l.length k listed = true → CL ops listed → GOK ops G → (∀ p ∈ L, p.1 < k) → vcOps P Γ ops base true k l G L st Q → anyV P Γ ops base Q l.length listed (logF L) st
  | [], _, _, _, _, _, _, hB, _, _, _, h => ⟨by simpa [Region.lexFrom] using hB, h⟩
  | o :: l, k, listed, G, L, st, hl, hB, hc, hG, hL, h => by
    have h0 : ops[k]? = some o := by simpa using (hl 0).symm
    simp only [List.length_cons, Region.lexFrom, Bool.and_eq_true] at hB
    obtain ⟨⟨hr, hf⟩, hB'⟩ := hB
    simp only [vcOps] at h
    obtain ⟨x, wr, ft, h1, h2, h3, h4⟩ := vcG_step hG h
    have hrk : k ∈ Region.ready .any ops listed := by simpa using hr
    obtain ⟨_, oj, hoj, hall⟩ := mem_ready.1 hrk
    have hlog : logF ((k, ft) :: L) = upd (logF L) k (some ft) := by
      funext q
      simp only [logF, upd_at, List.find?_cons]
      by_cases e : q = k
      · subst e; simp
      · have : (k == q) = false := by simpa using fun h => e h.symm
        simp [this, e]
    refine anyV_first h0 l.length listed (logF L) st (Region.free_spec h0 hf) hrk hc h1 h2 (fun q fq hq => ?_) ?_ ?_
    · simp only [logF, Option.map_eq_some_iff] at hq
      obtain ⟨p, hp, rfl⟩ := hq
      have hmem := List.mem_of_find?_eq_some hp
      have hkey : p.1 = q := by have := List.find?_some hp; simpa using this
      have := h3 trivial
      unfold chk at this
      have := List.all_eq_true.1 this p hmem
      simp only [Bool.or_eq_true] at this
      rw [hkey] at this
      exact this.symm
    · simp only [logF, Option.map_eq_none_iff, List.find?_eq_none]
      intro p hp
      have := hL p hp
      simp; omega
    · rw [← hlog]
      exact anyV_lex l (k + 1) _ _ _ _ (fun j => by have := hl (j + 1); simpa [Nat.add_assoc, Nat.add_comm 1 j] using this) hB' (hc.set hoj hall) (hG.step h0)
        (fun p hp => by
          rcases List.mem_cons.1 hp with rfl | hp
          · simp
          · have := hL p hp; omega) h4

end Go.Proofs.YtfmebdmgnmogaaaDoor.Hv
