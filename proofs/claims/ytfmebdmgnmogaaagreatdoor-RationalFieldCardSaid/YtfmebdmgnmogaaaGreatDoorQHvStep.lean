/- One step over abstract values: what it needs and what it touches; two steps apart may be exchanged. No statement of its own. -/
import Derived.Test.YtfmebdmgnmogaaaGreatDoorQHvSnd4
set_option linter.unusedVariables false
set_option linter.unusedSimpArgs false
namespace Go.Proofs.YtfmebdmgnmogaaaGreatDoor.Hv
open Go Go.RowKit

def ofL (l : List HBlk) : Hp := fun id => l.getD id {}

/-- A function with a body. -/
def callable (P : Program) (f : FuncId) : Prop := ∃ fn, P.funcs[f]? = some fn ∧ (fn.name == "runtime.NumGoroutine") = false ∧ fn.body.isNone = false

/-- A call of function f at arguments that read as args (blocks hp0 being handed over for writing) returns what reads as r; the blocks then hold hx. -/
def HCallsD (P : Program) (f : FuncId) (hp0 : List HBlk) (args : List HV) (r : HV) (hx : List HBlk) : Prop := callable P f ∧
  ∀ (X : AP) (m : Mp) (w : World) (vs : List Value), vs.length = args.length → (∀ p, X p → p.block < w.heap.size) → HeapOK w X m (ofL hp0) →
    (GW w ∧ ∀ id p, Xid m (ofL hp0) id p → ∀ v, ¬ gl p v) →
    (∀ (j : Nat) (x : HV) (v : Value), args[j]? = some x → vs[j]? = some v → Rep w (Xt X m (ofL hp0)) m (ofL hp0) x v) →
    Calls P f vs.toArray w fun e w' => ∃ v m', e = .returned v ∧ (∀ id, id < hp0.length → m' id = m id) ∧ HeapOK w' X m' (ofL hx) ∧ Rep w' (Xt X m' (ofL hx)) m' (ofL hx) r v ∧
      Chg (fun p => ∃ id, Xid m (ofL hp0) id p) w w'

structure Foot where
  rd : List Nat
  wr : List Nat
def Foot.apart (f g : Foot) : Bool := f.wr.all (fun i => !g.rd.contains i && !g.wr.contains i) && g.wr.all (fun i => !f.rd.contains i)

def HS.app (st : HS) (d : Option Tmp) (x : HV) (wr : List (Nat × HBlk)) : HS := { st with fr := updO st.fr d x, hp := setAll st.hp wr }

def backB (hp : Hp) (bid boff : Nat) (cs : List HV) : Nat × HBlk := (bid, { hp bid with cells := splice (hp bid).cells boff cs })

/-- What one operation does. -/
def Does (P : Program) (Γ : FuncId → Option Nat) (i : Nat) (op : Op) (fr : Nat → HV) (hp : Hp) (x : HV) (wr : List (Nat × HBlk)) (ft : Foot) : Prop :=
  ∃ E, opEff P Γ i op fr hp = some E ∧ E.side ∧ ft = ⟨E.rd, E.wr⟩ ∧
    match E.res with
    | .val x' wr' => x = x' ∧ wr = wr'
    | .call f args wr' => HCallsD P f [] args x [] ∧ wr = wr'
    | .callB f bid boff b args wr' => ∃ cs, HCallsD P f [b] args x [{ b with cells := cs }] ∧ (cs.length = b.cells.length ∧ (∀ c ∈ cs, c.flat = true) ∧ x.flat = true) ∧ wr = wr' ++ [backB hp bid boff cs]

def vcOp (P : Program) (Γ : FuncId → Option Nat) (i : Nat) (op : Op) (dst : Option Tmp) (st : HS) (K : HS → Foot → Prop) : Prop :=
  match opEff P Γ i op st.fr st.hp with
  | none => False
  | some E => dOK dst st.nt ∧ E.side ∧
    match E.res with
    | .val x wr => K (st.app dst x wr) ⟨E.rd, E.wr⟩
    | .call f args wr => ∃ x, HCallsD P f [] args x [] ∧ K (st.app dst x wr) ⟨E.rd, E.wr⟩
    | .callB f bid boff b args wr => ∃ x cs, HCallsD P f [b] args x [{ b with cells := cs }] ∧ (cs.length = b.cells.length ∧ (∀ c ∈ cs, c.flat = true) ∧ x.flat = true) ∧ K (st.app dst x (wr ++ [backB st.hp bid boff cs])) ⟨E.rd, E.wr⟩

theorem vcOp_does {P : Program} {Γ : FuncId → Option Nat} {i : Nat} {op : Op} {dst : Option Tmp} {st : HS} {K : HS → Foot → Prop} (h : vcOp P Γ i op dst st K) :
    ∃ x wr ft, Does P Γ i op st.fr st.hp x wr ft ∧ dOK dst st.nt ∧ K (st.app dst x wr) ft := by
  unfold vcOp at h
  split at h
  · exact h.elim
  · rename_i E he
    obtain ⟨hd, hs, h⟩ := h
    split at h
    · rename_i x wr hr
      exact ⟨x, wr, _, ⟨E, he, hs, rfl, by rw [hr]; exact ⟨rfl, rfl⟩⟩, hd, h⟩
    · rename_i f args wr hr
      obtain ⟨x, hc, h⟩ := h
      exact ⟨x, wr, _, ⟨E, he, hs, rfl, by rw [hr]; exact ⟨hc, rfl⟩⟩, hd, h⟩
    · rename_i f bid boff b args wr hr
      obtain ⟨x, b', hc, hl, h⟩ := h
      exact ⟨x, _, _, ⟨E, he, hs, rfl, by rw [hr]; exact ⟨b', hc, hl, rfl⟩⟩, hd, h⟩

/-! ### An operation sees its operands and the blocks that it names -/
theorem nb_local {i : Nat} {hp hp' : Hp} {p : Prop} {v : HV} {b : HBlk} {E : Eff} (h : nb i hp p v b = some E) (hr : ∀ id ∈ E.rd, hp' id = hp id) : nb i hp' p v b = some E := by
  simp only [nb, Option.some.injEq] at h ⊢
  subst h
  rw [hr i (by simp)]

theorem load_local {P : Program} {t : TypeId} {x : HV} {hp hp' : Hp} {E : Eff} (h : effLoad P t x hp = some E) (hr : ∀ id ∈ E.rd, hp' id = hp id) : effLoad P t x hp' = some E := by
  unfold effLoad at h ⊢
  split at h
  · rename_i ag sz id off _ 
    simp only [Option.some.injEq] at h ⊢
    subst h
    rw [hr id (by simp)]
  · exact h
  · cases h
theorem store_local {P : Program} {t : TypeId} {x y : HV} {hp hp' : Hp} {E : Eff} (h : effStore P t x y hp = some E) (hr : ∀ id ∈ E.rd, hp' id = hp id) : effStore P t x y hp' = some E := by
  unfold effStore at h ⊢
  split at h
  · rename_i ag sz id off _
    simp only [Option.some.injEq] at h ⊢
    subst h
    rw [hr id (by simp)]
  · cases h
theorem slice_local {P : Program} {t : TypeId} {x : HV} {lo hi mx : Option HV} {hp hp' : Hp} {E : Eff} (h : effSlice P t x lo hi mx hp = some E) (hr : ∀ id ∈ E.rd, hp' id = hp id) : effSlice P t x lo hi mx hp' = some E := by
  unfold effSlice at h ⊢
  split at h
  · rename_i id off n full
    split at h
    · simp only [Option.some.injEq] at h ⊢
      subst h
      rw [hr id (by simp)]
    · cases h
  · exact h
  · exact h
  · cases h
theorem news_local {hp hp' : Hp} {y : HV} {rd : List Nat} {k : Nat} {p : Prop} {news : List HV} (h : newsOf hp y = some (rd, k, p, news)) (hr : ∀ id ∈ rd, hp' id = hp id) : newsOf hp' y = some (rd, k, p, news) := by
  unfold newsOf at h ⊢
  split at h
  · exact h
  · rename_i id off k' full
    simp only [Option.some.injEq, Prod.mk.injEq] at h ⊢
    obtain ⟨rfl, rfl, rfl, rfl⟩ := h
    rw [hr id (by simp)]
    exact ⟨rfl, rfl, rfl, rfl⟩
  · cases h
theorem append_local {P : Program} {i : Nat} {t t' : TypeId} {x y : HV} {hp hp' : Hp} {E : Eff} (h : effAppend P i hp t t' x y = some E) (hr : ∀ id ∈ E.rd, hp' id = hp id) : effAppend P i hp' t t' x y = some E := by
  unfold effAppend at h
  split at h
  · rename_i e sz by_ rd k p news hel hn
    unfold effAppend
    split at h
    · rename_i id off n full
      simp only [Option.some.injEq] at h
      subst h
      simp only [List.mem_cons] at hr
      rw [hel, news_local hn (fun q hq => hr q (.inr (.inr hq)))]
      simp only [Option.some.injEq]
      rw [hr i (.inl rfl), hr id (.inr (.inl rfl))]
    · rename_i n full cells
      simp only [Option.some.injEq] at h
      subst h
      simp only [List.mem_cons] at hr
      rw [hel, news_local hn (fun q hq => hr q (.inr hq))]
      simp only [Option.some.injEq]
      rw [hr i (.inl rfl)]
    · cases h
  · cases h
theorem fz1_local {hp hp' : Hp} {x : HV} (h : ∀ id ∈ id1 x, hp' id = hp id) : fz1 hp' x = fz1 hp x ∧ (ok1 hp' x ↔ ok1 hp x) := by
  cases x with
  | own id off n full => have := h id (by simp [id1]); simp [fz1, ok1, this]
  | _ => exact ⟨rfl, Iff.rfl⟩
theorem fz_local {hp hp' : Hp} {x : HV} (h : ∀ id ∈ ids x, hp' id = hp id) : fz hp' x = fz hp x ∧ (okz hp' x ↔ okz hp x) := by
  cases x with
  | agg cs =>
    simp only [ids, List.mem_flatMap] at h
    refine ⟨?_, ?_⟩
    · simp only [fz]
      congr 1
      exact List.map_congr_left fun c hc => (fz1_local fun id hid => h id ⟨c, hc, hid⟩).1
    · simp only [okz]
      constructor <;> intro k c hc
      · exact (fz1_local fun id hid => h id ⟨c, hc, hid⟩).2.1 (k c hc)
      · exact (fz1_local fun id hid => h id ⟨c, hc, hid⟩).2.2 (k c hc)
  | own id off n full => have := fz1_local (x := .own id off n full) h; exact this
  | _ => exact ⟨rfl, Iff.rfl⟩
theorem offs_local {hp hp' : Hp} {l : List Nat} (h : ∀ id ∈ l, hp' id = hp id) : offs hp' l = offs hp l := by
  unfold offs
  exact List.map_congr_left fun id hid => by rw [h id hid]
theorem call_local {Γ : FuncId → Option Nat} {f : FuncId} {args : List HV} {hp hp' : Hp} {E : Eff} (h : effCall Γ f args hp = some E) (hr : ∀ id ∈ E.rd, hp' id = hp id) : effCall Γ f args hp' = some E := by
  unfold effCall at h
  split at h
  · rename_i hΓ
    unfold effCall
    rw [hΓ]
    simp only [Option.some.injEq] at h ⊢
    subst h
    simp only [List.mem_flatMap] at hr
    have e1 : args.map (fzn hp') = args.map (fzn hp) := List.map_congr_left fun x hx => congrArg nf (fz_local fun id hid => hr id ⟨x, hx, hid⟩).1
    have e2 : (∀ x ∈ args, okz hp' x) = (∀ x ∈ args, okz hp x) := propext ⟨fun k x hx => (fz_local fun id hid => hr id ⟨x, hx, hid⟩).2.1 (k x hx), fun k x hx => (fz_local fun id hid => hr id ⟨x, hx, hid⟩).2.2 (k x hx)⟩
    have e3 : offs hp' (args.flatMap ids) = offs hp (args.flatMap ids) := offs_local fun id hid => hr id (by simpa using hid)
    rw [e1, e2, e3]
  · rename_i j hΓ
    unfold effCall
    rw [hΓ]
    simp only
    split at h
    · rename_i id off n full ha
      simp only [Option.some.injEq] at h
      subst h
      simp only [List.mem_cons] at hr
      have hr' : ∀ q ∈ (args.set j (.raw (.bool true))).flatMap ids, hp' q = hp q := fun q hq => hr q (.inr hq)
      simp only [List.mem_flatMap] at hr'
      have e0 := hr id (.inl rfl)
      have e1 : (args.set j (.raw (.bool true))).map (fzn hp') = (args.set j (.raw (.bool true))).map (fzn hp) := List.map_congr_left fun x hx => congrArg nf (fz_local fun id hid => hr' id ⟨x, hx, hid⟩).1
      have e2 : (∀ x ∈ args.set j (.raw (.bool true)), okz hp' x) = (∀ x ∈ args.set j (.raw (.bool true)), okz hp x) :=
        propext ⟨fun k x hx => (fz_local fun id hid => hr' id ⟨x, hx, hid⟩).2.1 (k x hx), fun k x hx => (fz_local fun id hid => hr' id ⟨x, hx, hid⟩).2.2 (k x hx)⟩
      have e3 : offs hp' ((args.set j (.raw (.bool true))).flatMap ids) = offs hp ((args.set j (.raw (.bool true))).flatMap ids) := offs_local fun id hid => hr id (.inr hid)
      simp only [e0, e1, e2, e3]
    · cases h

theorem opEff_local {P : Program} {Γ : FuncId → Option Nat} {i : Nat} {op : Op} {fr fr' : Nat → HV} {hp hp' : Hp} {E : Eff} (h : opEff P Γ i op fr hp = some E)
    (hf : ∀ x ∈ op.operands, ev fr' x = ev fr x) (hr : ∀ id ∈ E.rd, hp' id = hp id) : opEff P Γ i op fr' hp' = some E := by
  cases op
  case move x => simpa [opEff, hf x (by simp [Op.operands])] using h
  case assign x => simpa [opEff, hf x (by simp [Op.operands])] using h
  case pick c a b => simpa [opEff, hf c (by simp [Op.operands]), hf a (by simp [Op.operands]), hf b (by simp [Op.operands])] using h
  case alloc t =>
    simp only [opEff] at h ⊢
    unfold effAlloc at h ⊢
    split at h
    · exact nb_local h hr
    · cases h
  case box t x =>
    simp only [opEff, effBox, hf x (by simp [Op.operands])] at h ⊢
    exact nb_local h hr
  case build t parts =>
    have e : (parts.toList.map fun p => (p.1, ev fr' p.2)) = parts.toList.map fun p => (p.1, ev fr p.2) := List.map_congr_left fun p hp => by
      rw [hf p.2 (by simp only [Op.operands, List.mem_toArray, List.mem_map]; exact ⟨p, hp, rfl⟩)]
    simpa [opEff, e] using h
  case buildSlice t n parts =>
    have e : (parts.toList.map fun p => (p.1, ev fr' p.2)) = parts.toList.map fun p => (p.1, ev fr p.2) := List.map_congr_left fun p hp => by
      rw [hf p.2 (by simp only [Op.operands, List.mem_toArray, List.mem_map]; exact ⟨p, hp, rfl⟩)]
    simp only [opEff, e] at h ⊢
    unfold effBuildSlice at h ⊢
    split at h
    · split at h
      · split at h
        · exact nb_local h hr
        · cases h
      · cases h
    · cases h
  case load t x =>
    simp only [opEff, hf x (by simp [Op.operands])] at h ⊢
    exact load_local h hr
  case store t x y =>
    simp only [opEff, hf x (by simp [Op.operands]), hf y (by simp [Op.operands])] at h ⊢
    exact store_local h hr
  case nilCheck x => simpa [opEff, hf x (by simp [Op.operands])] using h
  case binOp op t x y t' => simpa [opEff, hf x (by simp [Op.operands]), hf y (by simp [Op.operands])] using h
  case unOp op t x => simpa [opEff, hf x (by simp [Op.operands])] using h
  case convert s t x => simpa [opEff, hf x (by simp [Op.operands])] using h
  case makeSlice t l c =>
    simp only [opEff, hf l (by simp [Op.operands]), hf c (by simp [Op.operands])] at h ⊢
    unfold effMake at h ⊢
    split at h
    · split at h
      · exact nb_local h hr
      · cases h
    · cases h
  case slice t x lo hi mx =>
    have el : ∀ (o : Option Operand), (∀ y, o = some y → ev fr' y = ev fr y) → o.map (ev fr') = o.map (ev fr) := fun o ho => by cases o with
      | none => rfl
      | some y => simp [ho y rfl]
    simp only [opEff, hf x (by simp [Op.operands]), el lo (fun y hy => hf y (by subst hy; simp [Op.operands])), el hi (fun y hy => hf y (by subst hy; simp [Op.operands])), el mx (fun y hy => hf y (by subst hy; simp [Op.operands]))] at h ⊢
    exact slice_local h hr
  case fieldAddr s x f => simpa [opEff, hf x (by simp [Op.operands])] using h
  case field s x f => simpa [opEff, hf x (by simp [Op.operands])] using h
  case indexAddr t x ix => simpa [opEff, hf x (by simp [Op.operands]), hf ix (by simp [Op.operands])] using h
  case index t x ix => simpa [opEff, hf x (by simp [Op.operands]), hf ix (by simp [Op.operands])] using h
  case extract x k => simpa [opEff, hf x (by simp [Op.operands])] using h
  case call c =>
    have e : c.args.toList.map (ev fr') = c.args.toList.map (ev fr) := List.map_congr_left fun x hx => hf x (by
      simp only [Op.operands, Call.operands, Array.mem_append]
      exact .inr (by simpa using hx))
    simp only [opEff, e] at h ⊢
    split at h
    · unfold effBuiltin at h ⊢
      split at h
      · exact h
      · exact append_local h hr
      · exact h
      · cases h
    · exact call_local h hr
    · cases h
  all_goals (simp only [opEff] at h; cases h)

theorem Does.local {P : Program} {Γ : FuncId → Option Nat} {i : Nat} {op : Op} {fr fr' : Nat → HV} {hp hp' : Hp} {x : HV} {wr : List (Nat × HBlk)} {ft : Foot} (h : Does P Γ i op fr hp x wr ft)
    (hf : ∀ x ∈ op.operands, ev fr' x = ev fr x) (hr : ∀ id ∈ ft.rd, hp' id = hp id) (hb : ∀ f bid boff b args wr', (∃ E, opEff P Γ i op fr hp = some E ∧ E.res = .callB f bid boff b args wr') → bid ∈ ft.rd) : Does P Γ i op fr' hp' x wr ft := by
  obtain ⟨E, h1, h2, rfl, h3⟩ := h
  refine ⟨E, opEff_local h1 hf hr, h2, rfl, ?_⟩
  split at h3
  · exact h3
  · exact h3
  · rename_i f bid boff b args wr' e
    obtain ⟨b', k1, k2, k3⟩ := h3
    refine ⟨b', k1, k2, ?_⟩
    have := hr bid (hb f bid boff b args wr' ⟨E, h1, e⟩)
    rw [k3]
    unfold backB
    rw [this]

end Go.Proofs.YtfmebdmgnmogaaaGreatDoor.Hv
namespace Go.Proofs.YtfmebdmgnmogaaaGreatDoor.Hv
open Go Go.RowKit

theorem setAll_not {hp : Hp} {wr : List (Nat × HBlk)} {id : Nat} (h : ∀ p ∈ wr, p.1 ≠ id) : setAll hp wr id = hp id := by
  unfold setAll
  induction wr generalizing hp with
  | nil => rfl
  | cons p wr ih =>
    simp only [List.foldl_cons]
    rw [ih (fun q hq => h q (by simp [hq])), upd_ne _ _ (Ne.symm (h p (by simp)))]
theorem setAll_mem {hp hp' : Hp} {wr : List (Nat × HBlk)} {id : Nat} (h : ∃ p ∈ wr, p.1 = id) : setAll hp wr id = setAll hp' wr id := by
  induction wr generalizing hp hp' with
  | nil => obtain ⟨p, hp, _⟩ := h; cases hp
  | cons p wr ih =>
    unfold setAll
    simp only [List.foldl_cons]
    by_cases hw : ∃ q ∈ wr, q.1 = id
    · exact ih hw
    · have hne : ∀ q ∈ wr, q.1 ≠ id := fun q hq e => hw ⟨q, hq, e⟩
      have e1 := setAll_not (hp := upd hp p.1 p.2) hne
      have e2 := setAll_not (hp := upd hp' p.1 p.2) hne
      have hpid : p.1 = id := by
        obtain ⟨q, hq, e⟩ := h
        rcases List.mem_cons.1 hq with rfl | hq
        · exact e
        · exact absurd e (hne q hq)
      unfold setAll at e1 e2
      rw [e1, e2, hpid, upd_same, upd_same]
theorem setAll_comm {hp : Hp} {u v : List (Nat × HBlk)} (h : ∀ p ∈ u, ∀ q ∈ v, p.1 ≠ q.1) : setAll (setAll hp u) v = setAll (setAll hp v) u := by
  funext id
  by_cases hv : ∃ q ∈ v, q.1 = id
  · have hu : ∀ p ∈ u, p.1 ≠ id := fun p hp e => by
      obtain ⟨q, hq, e'⟩ := hv
      exact h p hp q hq (e.trans e'.symm)
    rw [setAll_not (hp := setAll hp v) hu]
    exact setAll_mem hv
  · have hv' : ∀ q ∈ v, q.1 ≠ id := fun q hq e => hv ⟨q, hq, e⟩
    rw [setAll_not hv']
    by_cases hu : ∃ p ∈ u, p.1 = id
    · exact setAll_mem hu
    · have hu' : ∀ p ∈ u, p.1 ≠ id := fun p hp e => hu ⟨p, hp, e⟩
      rw [setAll_not hu', setAll_not hu', setAll_not hv']

def wrIn (E : Eff) : Prop :=
  match E.res with
  | .val _ wr => ∀ p ∈ wr, p.1 ∈ E.wr
  | .call _ _ wr => ∀ p ∈ wr, p.1 ∈ E.wr
  | .callB _ bid _ _ _ wr => bid ∈ E.wr ∧ bid ∈ E.rd ∧ ∀ p ∈ wr, p.1 ∈ E.wr

theorem nb_wr {i : Nat} {hp : Hp} {p : Prop} {v : HV} {b : HBlk} {E : Eff} (h : nb i hp p v b = some E) : wrIn E := by
  simp only [nb, Option.some.injEq] at h
  subst h
  intro p hp
  simp at hp ⊢
  rw [hp]
theorem pv_wr {x : HV} {E : Eff} (h : pv x = some E) : wrIn E := by
  simp only [pv, Option.some.injEq] at h
  subst h
  intro p hp; cases hp
theorem pvs_wr {q : Prop} {x : HV} {E : Eff} (h : pvs q x = some E) : wrIn E := by
  simp only [pvs, Option.some.injEq] at h
  subst h
  intro p hp; cases hp

theorem opEff_wr {P : Program} {Γ : FuncId → Option Nat} {i : Nat} {op : Op} {fr : Nat → HV} {hp : Hp} {E : Eff} (h : opEff P Γ i op fr hp = some E) : wrIn E := by
  cases op
  case move x => exact pv_wr h
  case assign x => exact pv_wr h
  case pick c a b => simp only [opEff] at h; unfold effPick at h; split at h <;> first | exact pv_wr h | cases h
  case alloc t => simp only [opEff] at h; unfold effAlloc at h; split at h <;> first | exact nb_wr h | cases h
  case box t x => exact nb_wr h
  case build t parts =>
    simp only [opEff] at h; unfold effBuild at h
    split at h
    · split at h
      · exact pvs_wr h
      · cases h
    · cases h
  case buildSlice t n parts =>
    simp only [opEff] at h; unfold effBuildSlice at h
    split at h
    · split at h
      · split at h
        · exact nb_wr h
        · cases h
      · cases h
    · cases h
  case load t x =>
    simp only [opEff] at h; unfold effLoad at h
    split at h
    · simp only [Option.some.injEq] at h; subst h; intro p hp; cases hp
    · exact pvs_wr h
    · cases h
  case store t x y =>
    simp only [opEff] at h; unfold effStore at h
    split at h
    · simp only [Option.some.injEq] at h; subst h; intro p hp; simp at hp ⊢; rw [hp]
    · cases h
  case nilCheck x =>
    simp only [opEff] at h; unfold effNil at h
    split at h
    · exact pv_wr h
    · exact pv_wr h
    · cases h
  case binOp op t x y t' =>
    simp only [opEff, Option.map_eq_some_iff] at h
    obtain ⟨E', h, rfl⟩ := h
    have : wrIn E' := by
      unfold effBin at h
      split at h
      · split at h
        · exact pvs_wr h
        · cases h
      · split at h
        · exact pv_wr h
        · exact pv_wr h
        · cases h
      · split at h
        · exact pv_wr h
        · exact pv_wr h
        · exact pvs_wr h
        · cases h
      · cases h
    exact this
  case unOp op t x =>
    simp only [opEff] at h; unfold effUn at h
    split at h
    · exact pv_wr h
    · exact pv_wr h
    · cases h
  case convert s t x =>
    simp only [opEff] at h; unfold effConv at h
    split at h
    · exact pvs_wr h
    · exact pvs_wr h
    · exact pvs_wr h
    · exact pvs_wr h
    · cases h
  case makeSlice t l c =>
    simp only [opEff] at h; unfold effMake at h
    split at h
    · split at h
      · exact nb_wr h
      · cases h
    · cases h
  case slice t x lo hi mx =>
    simp only [opEff] at h; unfold effSlice at h
    split at h
    · split at h
      · simp only [Option.some.injEq] at h; subst h; intro p hp; cases hp
      · cases h
    · split at h
      · exact pvs_wr h
      · cases h
    · split at h
      · exact pvs_wr h
      · cases h
    · cases h
  case fieldAddr s x f =>
    simp only [opEff] at h; unfold effFieldAddr at h
    split at h
    · exact pv_wr h
    · exact pvs_wr h
    · cases h
  case field s x f => simp only [opEff] at h; unfold effField at h; split at h <;> first | exact pvs_wr h | cases h
  case indexAddr t x ix =>
    simp only [opEff] at h; unfold effIndexAddr at h
    split at h <;> (try split at h) <;> first | exact pvs_wr h | cases h
  case index t x ix => simp only [opEff] at h; unfold effIndex at h; split at h <;> first | exact pvs_wr h | cases h
  case extract x k => simp only [opEff] at h; unfold effExtract at h; split at h <;> first | exact pvs_wr h | cases h
  case call c =>
    simp only [opEff] at h
    split at h
    · unfold effBuiltin at h
      split at h
      · unfold effLen at h
        split at h
        · exact pvs_wr h
        · exact pvs_wr h
        · exact pvs_wr h
        · cases h
      · unfold effAppend at h
        split at h
        · split at h
          · simp only [Option.some.injEq] at h; subst h; intro p hp; simp at hp ⊢; rcases hp with rfl | rfl <;> simp
          · simp only [Option.some.injEq] at h; subst h; intro p hp; simp at hp ⊢; rw [hp]
          · cases h
        · cases h
      · exact pv_wr h
      · cases h
    · unfold effCall at h
      split at h
      · simp only [Option.some.injEq] at h; subst h
        intro p hp
        simp only [offs, List.mem_map] at hp
        obtain ⟨id, hid, rfl⟩ := hp
        exact hid
      · split at h
        · simp only [Option.some.injEq] at h; subst h
          refine ⟨by simp, by simp, fun p hp => ?_⟩
          simp only [offs, List.mem_map] at hp
          obtain ⟨id, hid, rfl⟩ := hp
          exact List.mem_cons_of_mem _ hid
        · cases h
    · cases h
  all_goals (simp only [opEff] at h; cases h)

def IsVal (E : Eff) : Prop := ∃ x wr, E.res = .val x wr
theorem nb_val {i : Nat} {hp : Hp} {p : Prop} {v : HV} {b : HBlk} {E : Eff} (h : nb i hp p v b = some E) : IsVal E := by
  simp only [nb, Option.some.injEq] at h
  subst h
  exact ⟨_, _, rfl⟩
theorem pv_val {x : HV} {E : Eff} (h : pv x = some E) : IsVal E := by
  simp only [pv, Option.some.injEq] at h
  subst h
  exact ⟨_, _, rfl⟩
theorem pvs_val {q : Prop} {x : HV} {E : Eff} (h : pvs q x = some E) : IsVal E := by
  simp only [pvs, Option.some.injEq] at h
  subst h
  exact ⟨_, _, rfl⟩

theorem opEff_val {P : Program} {Γ : FuncId → Option Nat} {i : Nat} {op : Op} {fr : Nat → HV} {hp : Hp} {E : Eff} (h : opEff P Γ i op fr hp = some E) : IsVal E ∨ ∃ c f, op = .call c ∧ c.callee = .value (.func f) ∧ effCall Γ f (c.args.toList.map (ev fr)) hp = some E := by
  cases op
  case move x => refine .inl ?_; exact pv_val h
  case assign x => refine .inl ?_; exact pv_val h
  case pick c a b => refine .inl ?_; simp only [opEff] at h; unfold effPick at h; split at h <;> first | exact pv_val h | cases h
  case alloc t => refine .inl ?_; simp only [opEff] at h; unfold effAlloc at h; split at h <;> first | exact nb_val h | cases h
  case box t x => refine .inl ?_; exact nb_val h
  case build t parts =>
    refine .inl ?_
    simp only [opEff] at h; unfold effBuild at h
    split at h
    · split at h
      · exact pvs_val h
      · cases h
    · cases h
  case buildSlice t n parts =>
    refine .inl ?_
    simp only [opEff] at h; unfold effBuildSlice at h
    split at h
    · split at h
      · split at h
        · exact nb_val h
        · cases h
      · cases h
    · cases h
  case load t x =>
    refine .inl ?_
    simp only [opEff] at h; unfold effLoad at h
    split at h
    · simp only [Option.some.injEq] at h; subst h; exact ⟨_, _, rfl⟩
    · exact pvs_val h
    · cases h
  case store t x y =>
    refine .inl ?_
    simp only [opEff] at h; unfold effStore at h
    split at h
    · simp only [Option.some.injEq] at h; subst h; exact ⟨_, _, rfl⟩
    · cases h
  case nilCheck x =>
    refine .inl ?_
    simp only [opEff] at h; unfold effNil at h
    split at h
    · exact pv_val h
    · exact pv_val h
    · cases h
  case binOp op t x y t' =>
    refine .inl ?_
    simp only [opEff, Option.map_eq_some_iff] at h
    obtain ⟨E', h, rfl⟩ := h
    have : IsVal E' := by
      unfold effBin at h
      split at h
      · split at h
        · exact pvs_val h
        · cases h
      · split at h
        · exact pv_val h
        · exact pv_val h
        · cases h
      · split at h
        · exact pv_val h
        · exact pv_val h
        · exact pvs_val h
        · cases h
      · cases h
    exact this
  case unOp op t x =>
    refine .inl ?_
    simp only [opEff] at h; unfold effUn at h
    split at h
    · exact pv_val h
    · exact pv_val h
    · cases h
  case convert s t x =>
    refine .inl ?_
    simp only [opEff] at h; unfold effConv at h
    split at h
    · exact pvs_val h
    · exact pvs_val h
    · exact pvs_val h
    · exact pvs_val h
    · cases h
  case makeSlice t l c =>
    refine .inl ?_
    simp only [opEff] at h; unfold effMake at h
    split at h
    · split at h
      · exact nb_val h
      · cases h
    · cases h
  case slice t x lo hi mx =>
    refine .inl ?_
    simp only [opEff] at h; unfold effSlice at h
    split at h
    · split at h
      · simp only [Option.some.injEq] at h; subst h; exact ⟨_, _, rfl⟩
      · cases h
    · split at h
      · exact pvs_val h
      · cases h
    · split at h
      · exact pvs_val h
      · cases h
    · cases h
  case fieldAddr s x f =>
    refine .inl ?_
    simp only [opEff] at h; unfold effFieldAddr at h
    split at h
    · exact pv_val h
    · exact pvs_val h
    · cases h
  case field s x f => refine .inl ?_; simp only [opEff] at h; unfold effField at h; split at h <;> first | exact pvs_val h | cases h
  case indexAddr t x ix =>
    refine .inl ?_
    simp only [opEff] at h; unfold effIndexAddr at h
    split at h <;> (try split at h) <;> first | exact pvs_val h | cases h
  case index t x ix => refine .inl ?_; simp only [opEff] at h; unfold effIndex at h; split at h <;> first | exact pvs_val h | cases h
  case extract x k => refine .inl ?_; simp only [opEff] at h; unfold effExtract at h; split at h <;> first | exact pvs_val h | cases h
  case call c =>
    simp only [opEff] at h
    split at h
    · refine .inl ?_
      unfold effBuiltin at h
      split at h
      · unfold effLen at h
        split at h
        · exact pvs_val h
        · exact pvs_val h
        · exact pvs_val h
        · cases h
      · unfold effAppend at h
        split at h
        · split at h
          · simp only [Option.some.injEq] at h; subst h; exact ⟨_, _, rfl⟩
          · simp only [Option.some.injEq] at h; subst h; exact ⟨_, _, rfl⟩
          · cases h
        · cases h
      · exact pv_val h
      · cases h
    · rename_i f hcal
      exact .inr ⟨c, f, rfl, hcal, h⟩
    · cases h
  all_goals (simp only [opEff] at h; cases h)

theorem Does.wr {P : Program} {Γ : FuncId → Option Nat} {i : Nat} {op : Op} {fr : Nat → HV} {hp : Hp} {x : HV} {wr : List (Nat × HBlk)} {ft : Foot} (h : Does P Γ i op fr hp x wr ft) : ∀ p ∈ wr, p.1 ∈ ft.wr := by
  obtain ⟨E, h1, h2, rfl, h3⟩ := h
  have k := opEff_wr h1
  unfold wrIn at k
  split at h3 <;> rename_i e <;> simp only [e] at k
  · rw [h3.2]; exact k
  · rw [h3.2]; exact k
  · obtain ⟨b', _, _, rfl⟩ := h3
    intro p hp
    rcases List.mem_append.1 hp with hp | hp
    · exact k.2.2 p hp
    · simp only [List.mem_singleton] at hp
      subst hp
      exact k.1

theorem Does.far {P : Program} {Γ : FuncId → Option Nat} {i : Nat} {op : Op} {fr fr' : Nat → HV} {hp hp' : Hp} {x : HV} {wr : List (Nat × HBlk)} {ft : Foot} (h : Does P Γ i op fr hp x wr ft)
    (hf : ∀ x ∈ op.operands, ev fr' x = ev fr x) (hr : ∀ id ∈ ft.rd, hp' id = hp id) : Does P Γ i op fr' hp' x wr ft := by
  refine h.local hf hr ?_
  rintro f bid boff b args wr' ⟨E, h1, h2⟩
  obtain ⟨E', h1', _, rfl, _⟩ := h
  have : E' = E := by rw [h1] at h1'; injection h1' with h1'; exact h1'.symm
  subst this
  have k := opEff_wr h1
  unfold wrIn at k
  rw [h2] at k
  exact k.2.1

/-! ### A step under its guard -/
def gslot (ops : Array Oper) (o : Oper) : Option (Option Tmp × Bool) := o.guard.map fun g => ((ops[g.1]?).bind (·.dst), g.2)

/-- Does the guard let it pass? -/
inductive Pass (ops : Array Oper) (o : Oper) (fr : Nat → HV) : Bool → Prop
  | free : o.guard = none → Pass ops o fr true
  | yes (j : Nat) (want : Bool) (d : Tmp) : o.guard = some (j, want) → (ops[j]?).bind (·.dst) = some d → fr d = .raw (.bool want) → Pass ops o fr true
  | no (j : Nat) (want : Bool) (d : Tmp) (v : Value) : o.guard = some (j, want) → (ops[j]?).bind (·.dst) = some d → fr d = .raw v → v ≠ .bool want → Pass ops o fr false

def StepG (P : Program) (Γ : FuncId → Option Nat) (ops : Array Oper) (i : Nat) (o : Oper) (st : HS) (x : HV) (wr : List (Nat × HBlk)) (ft : Foot) : Prop :=
  (Pass ops o st.fr true ∧ Does P Γ i o.op st.fr st.hp x wr ft) ∨ (Pass ops o st.fr false ∧ x = .raw undef ∧ wr = [] ∧ ft = ⟨[], []⟩)

theorem StepG.wr {P : Program} {Γ : FuncId → Option Nat} {ops : Array Oper} {i : Nat} {o : Oper} {st : HS} {x : HV} {wr : List (Nat × HBlk)} {ft : Foot} (h : StepG P Γ ops i o st x wr ft) : ∀ p ∈ wr, p.1 ∈ ft.wr := by
  rcases h with ⟨_, h⟩ | ⟨_, _, rfl, _⟩
  · exact h.wr
  · intro p hp; cases hp

theorem Pass.far {ops : Array Oper} {o : Oper} {fr fr' : Nat → HV} {b : Bool} (h : Pass ops o fr b) (hl : ∀ t ∈ o.looksAt ops, fr' t = fr t) : Pass ops o fr' b := by
  have hd : ∀ j want d, o.guard = some (j, want) → (ops[j]?).bind (·.dst) = some d → fr' d = fr d := fun j want d h1 h2 => hl d (by
    unfold Oper.looksAt
    rw [h1]
    simp [h2])
  cases h with
  | free h => exact .free h
  | yes j want d h1 h2 h3 => exact .yes j want d h1 h2 (by rw [hd j want d h1 h2, h3])
  | no j want d v h1 h2 h3 h4 => exact .no j want d v h1 h2 (by rw [hd j want d h1 h2, h3]) h4

theorem StepG.far {P : Program} {Γ : FuncId → Option Nat} {ops : Array Oper} {i : Nat} {o : Oper} {st st' : HS} {x : HV} {wr : List (Nat × HBlk)} {ft : Foot} (h : StepG P Γ ops i o st x wr ft)
    (hl : ∀ t ∈ o.looksAt ops, st'.fr t = st.fr t) (hr : ∀ id ∈ ft.rd, st'.hp id = st.hp id) : StepG P Γ ops i o st' x wr ft := by
  rcases h with ⟨h1, h2⟩ | ⟨h1, h2⟩
  · refine .inl ⟨h1.far hl, h2.far (fun x hx => ?_) hr⟩
    cases x with
    | tmp t =>
      refine hl t ?_
      unfold Oper.looksAt
      refine List.mem_append.2 (.inl (List.mem_filterMap.2 ⟨.tmp t, by simpa using hx, rfl⟩))
    | _ => rfl
  · exact .inr ⟨h1.far hl, h2⟩

theorem Foot.apart_spec {f g : Foot} (h : f.apart g = true) : (∀ i ∈ f.wr, i ∉ g.rd ∧ i ∉ g.wr) ∧ (∀ i ∈ g.wr, i ∉ f.rd) := by
  simp only [Foot.apart, Bool.and_eq_true, List.all_eq_true, Bool.not_eq_true', List.contains_eq_mem, decide_eq_false_iff_not] at h
  exact ⟨fun i hi => h.1 i hi, fun i hi => h.2 i hi⟩
theorem Foot.apart_symm {f g : Foot} (h : f.apart g = true) : g.apart f = true := by
  obtain ⟨h1, h2⟩ := Foot.apart_spec h
  simp only [Foot.apart, Bool.and_eq_true, List.all_eq_true, Bool.not_eq_true', List.contains_eq_mem, decide_eq_false_iff_not]
  exact ⟨fun i hi => ⟨h2 i hi, fun h => (h1 i h).2 hi⟩, fun i hi => (h1 i hi).1⟩

theorem updO_ne {f : Nat → HV} {d : Option Nat} {x : HV} {t : Nat} (h : d ≠ some t) : updO f d x t = f t := by
  cases d with
  | none => rfl
  | some i => exact upd_ne _ _ (fun e => h (by rw [e]))

/-- Two steps apart, exchanged. -/
theorem swap {P : Program} {Γ : FuncId → Option Nat} {ops : Array Oper} {i j : Nat} {oi oj : Oper} {st : HS} {xi xj : HV} {wi wj : List (Nat × HBlk)} {fi fj : Foot}
    (hap : oi.apart ops oj = true) (hi : StepG P Γ ops i oi st xi wi fi) (hj : StepG P Γ ops j oj (st.app oi.dst xi wi) xj wj fj) (hft : fi.apart fj = true) :
    StepG P Γ ops j oj st xj wj fj ∧ StepG P Γ ops i oi (st.app oj.dst xj wj) xi wi fi ∧ (st.app oi.dst xi wi).app oj.dst xj wj = (st.app oj.dst xj wj).app oi.dst xi wi := by
  obtain ⟨h1, h2, h3⟩ := Oper.apart_spec hap
  obtain ⟨k1, k2⟩ := Foot.apart_spec hft
  have w1 := hi.wr
  have w2 := hj.wr
  refine ⟨hj.far (fun t ht => ?_) (fun id hid => ?_), hi.far (fun t ht => ?_) (fun id hid => ?_), ?_⟩
  · exact (updO_ne (fun e => h1 t e ht)).symm
  · exact (setAll_not (fun p hp e => (k1 p.1 (w1 p hp)).1 (by rw [e]; exact hid))).symm
  · exact updO_ne (fun e => h3 t e ht)
  · exact setAll_not (fun p hp e => k2 p.1 (w2 p hp) (by rw [e]; exact hid))
  · unfold HS.app
    simp only
    congr 1
    · funext t
      cases hdi : oi.dst with
      | none => rfl
      | some a =>
        cases hdj : oj.dst with
        | none => rfl
        | some b =>
          have hab : a ≠ b := fun e => h2 a hdi (by rw [hdj, e])
          simp only [updO, upd_at]
          by_cases e1 : t = b
          · simp [e1, Ne.symm hab]
          · by_cases e2 : t = a
            · simp [e2, hab]
            · simp [e1, e2]
    · exact setAll_comm (fun p hp q hq e => (k1 p.1 (w1 p hp)).2 (by rw [e]; exact w2 q hq))

/-! ### Which operations wait for which -/
def dep (ops : Array Oper) : Nat → Nat → Nat → Bool
  | 0, _, _ => false
  | n + 1, i, k => match ops[i]? with
    | some o => o.after.any fun e => Region.binds .any e && (e.on == k || dep ops n e.on k)
    | none => false

def CL (ops : Array Oper) (listed : Array Bool) : Prop := ∀ k, listed.getD k false = true → ∀ n i, dep ops n k i = true → listed.getD i false = true

theorem dep_ready {ops : Array Oper} {listed : Array Bool} (hc : CL ops listed) {j : Nat} {oj : Oper} (hj : ops[j]? = some oj) (hall : ∀ e ∈ oj.after, Region.binds .any e = true → listed.getD e.on false = true) :
    ∀ n i, dep ops n j i = true → listed.getD i false = true := by
  intro n i h
  cases n with
  | zero => simp [dep] at h
  | succ n =>
    simp only [dep, hj, Array.any_eq_true] at h
    obtain ⟨q, hq, h⟩ := h
    simp only [Bool.and_eq_true, Bool.or_eq_true, beq_iff_eq] at h
    have hl := hall _ (Array.getElem_mem hq) h.1
    rcases h.2 with e | e
    · rw [← e]; exact hl
    · exact hc _ hl n i e

theorem CL.set {ops : Array Oper} {listed : Array Bool} (hc : CL ops listed) {j : Nat} {oj : Oper} (hj : ops[j]? = some oj) (hall : ∀ e ∈ oj.after, Region.binds .any e = true → listed.getD e.on false = true) : CL ops (listed.setIfInBounds j true) := by
  have mono : ∀ i, listed.getD i false = true → (listed.setIfInBounds j true).getD i false = true := fun i hi => by
    simp only [Array.getD_eq_getD_getElem?, Array.getElem?_setIfInBounds] at hi ⊢
    by_cases h : j = i
    · subst h
      by_cases hlt : j < listed.size
      · simp [hlt]
      · simp [hlt] at hi
    · rw [if_neg h]; exact hi
  intro k hk n i hd
  by_cases hkj : k = j
  · subst hkj
    exact mono i (dep_ready hc hj hall n i hd)
  · refine mono i (hc k ?_ n i hd)
    simp only [Array.getD_eq_getD_getElem?, Array.getElem?_setIfInBounds] at hk ⊢
    rw [if_neg (fun e => hkj e.symm)] at hk
    exact hk

/-! ### Whatever order is picked -/
def qV (P : Program) (Γ : FuncId → Option Nat) (ops : Array Oper) (base : Nat) (j : Nat) (K : HS → Foot → Prop) (L : Nat → Option Foot) (st : HS) : Prop :=
  ∃ o, ops[j]? = some o ∧ ∃ x wr ft, StepG P Γ ops (base + 4 * j) o st x wr ft ∧ dOK o.dst st.nt ∧ (∀ k fk, L k = some fk → dep ops 6 j k = true ∨ fk.apart ft = true) ∧ K (st.app o.dst x wr) ft

def anyV (P : Program) (Γ : FuncId → Option Nat) (ops : Array Oper) (base : Nat) (Q : HS → Prop) : Nat → Array Bool → (Nat → Option Foot) → HS → Prop
  | 0, listed, _, st => Region.ready .any ops listed = [] ∧ Q st
  | fuel + 1, listed, L, st => (Region.ready .any ops listed = [] → Q st) ∧
    ∀ j ∈ Region.ready .any ops listed, qV P Γ ops base j (fun st' ft => anyV P Γ ops base Q fuel (listed.setIfInBounds j true) (upd L j (some ft)) st') L st

theorem listed_getD {listed : Array Bool} {i : Nat} (h : listed.getD i true = false) : listed.getD i false = false := by
  simp only [Array.getD_eq_getD_getElem?] at h ⊢
  cases hq : listed[i]? with
  | none => rfl
  | some b => rw [hq] at h; simpa using h

theorem anyV_first {P : Program} {Γ : FuncId → Option Nat} {ops : Array Oper} {base : Nat} {Q : HS → Prop} {i : Nat} {oi : Oper} {x : HV} {wr : List (Nat × HBlk)} {ft : Foot} (hi : ops[i]? = some oi) :
    ∀ (fuel : Nat) (listed : Array Bool) (L : Nat → Option Foot) (st : HS),
      (∀ j oj, ops[j]? = some oj → j ≠ i → listed.getD j true = false → (∀ e ∈ oj.after, Region.binds .any e = true → e.on ≠ i) → oi.apart ops oj = true) →
      i ∈ Region.ready .any ops listed → CL ops listed → StepG P Γ ops (base + 4 * i) oi st x wr ft → dOK oi.dst st.nt → (∀ k fk, L k = some fk → dep ops 6 i k = true ∨ fk.apart ft = true) → L i = none →
      anyV P Γ ops base Q fuel (listed.setIfInBounds i true) (upd L i (some ft)) (st.app oi.dst x wr) → anyV P Γ ops base Q (fuel + 1) listed L st := by
  intro fuel
  induction fuel with
  | zero =>
    intro listed L st _ hr _ hs hd hL _ H
    refine ⟨fun h => (by rw [h] at hr; cases hr), fun j hj => ?_⟩
    by_cases hji : j = i
    · subst hji; exact ⟨oi, hi, x, wr, ft, hs, hd, hL, H⟩
    · have := ready_mono hj hji
      rw [H.1] at this
      cases this
  | succ fuel ih =>
    intro listed L st hfree hr hc hs hd hL hLi H
    refine ⟨fun h => (by rw [h] at hr; cases hr), fun j hj => ?_⟩
    by_cases hji : j = i
    · subst hji; exact ⟨oi, hi, x, wr, ft, hs, hd, hL, H⟩
    · obtain ⟨oj, hoj, xj, wj, fj, hsj, hdj, hLj, HK⟩ := H.2 j (ready_mono hj hji)
      obtain ⟨hjun, oj', hoj', hall⟩ := mem_ready.1 hj
      have : oj' = oj := by rw [hoj] at hoj'; injection hoj' with e; exact e.symm
      subst this
      have hiun := (mem_ready.1 hr).1
      have hiunf := listed_getD hiun
      have hnot : ∀ e ∈ oj'.after, Region.binds .any e = true → e.on ≠ i := fun e he hb heq => by
        have h1 := hall e he hb
        rw [heq, hiunf] at h1
        cases h1
      have hnd : dep ops 6 j i = false := by
        cases hq : dep ops 6 j i with
        | false => rfl
        | true =>
          have := dep_ready hc hoj hall 6 i hq
          rw [hiunf] at this; cases this
      have hap := hfree j oj' hoj hji hjun hnot
      have hft : ft.apart fj = true := by
        rcases hLj i ft (upd_same _ _ _) with h | h
        · rw [hnd] at h; cases h
        · exact h
      obtain ⟨g1, g2, g3⟩ := swap hap hs hsj hft
      have hfree' : ∀ k ok, ops[k]? = some ok → k ≠ i → (listed.setIfInBounds j true).getD k true = false →
          (∀ e ∈ ok.after, Region.binds .any e = true → e.on ≠ i) → oi.apart ops ok = true := fun k ok hk hki hun hno => by
        refine hfree k ok hk hki ?_ hno
        by_cases hjk : j = k
        · subst hjk; exact hjun
        · rw [getD_set_ne true hjk] at hun; exact hun
      refine ⟨oj', hoj, xj, wj, fj, g1, hdj, fun k fk hk => ?_, ?_⟩
      · refine hLj k fk ?_
        by_cases e : k = i
        · subst e; rw [hLi] at hk; cases hk
        · rw [upd_ne _ _ e]; exact hk
      · refine ih (listed.setIfInBounds j true) (upd L j (some fj)) (st.app oj'.dst xj wj) hfree' (ready_mono hr (Ne.symm hji)) (hc.set hoj hall) g2 hd (fun k fk hk => ?_) ?_ ?_
        · by_cases e : k = j
          · subst e
            rw [upd_same] at hk
            injection hk with hk; subst hk
            exact .inr (Foot.apart_symm hft)
          · rw [upd_ne _ _ e] at hk; exact hL k fk hk
        · rw [upd_ne _ _ (Ne.symm hji)]; exact hLi
        · rw [Array.setIfInBounds_comm _ _ hji, ← g3]
          have hLL : upd (upd L j (some fj)) i (some ft) = upd (upd L i (some ft)) j (some fj) := by
            funext k
            simp only [upd_at]
            by_cases e1 : k = i
            · have : k ≠ j := fun e => hji (e ▸ e1)
              simp [e1, Ne.symm hji]
            · by_cases e2 : k = j
              · simp [e2, hji]
              · simp [e1, e2]
          rw [hLL]
          exact HK

/-! ### The text's order -/
def lkD : List (Nat × Option Tmp) → Nat → Option Tmp
  | [], _ => none
  | (a, d) :: G, j => if j = a then d else lkD G j
def vcG (P : Program) (Γ : FuncId → Option Nat) (G : List (Nat × Option Tmp)) (i : Nat) (o : Oper) (st : HS) (K : HS → Foot → Prop) : Prop :=
  match o.guard with
  | none => vcOp P Γ i o.op o.dst st K
  | some (j, want) =>
    match lkD G j with
    | none => False
    | some d =>
      match st.fr d with
      | .raw (.bool b) => (b = want → vcOp P Γ i o.op o.dst { st with fr := upd st.fr d (.raw (.bool want)) } K) ∧ (b = (!want) → dOK o.dst st.nt ∧ K (({ st with fr := upd st.fr d (.raw (.bool (!want))) } : HS).app o.dst (.raw undef) []) ⟨[], []⟩)
      | .raw (.tuple _) => dOK o.dst st.nt ∧ K (st.app o.dst (.raw undef) []) ⟨[], []⟩
      | _ => False

theorem upd_self {α : Type} (f : Nat → α) (i : Nat) (x : α) (h : f i = x) : upd f i x = f := by
  funext j
  rw [upd_at]
  by_cases e : j = i
  · rw [if_pos e, e, h]
  · rw [if_neg e]

def GOK (ops : Array Oper) (G : List (Nat × Option Tmp)) : Prop := ∀ j d, lkD G j = some d → (ops[j]?).bind (·.dst) = some d

theorem vcG_step {P : Program} {Γ : FuncId → Option Nat} {ops : Array Oper} {G : List (Nat × Option Tmp)} (hG : GOK ops G) {i : Nat} {o : Oper} {st : HS} {K : HS → Foot → Prop} (h : vcG P Γ G i o st K) :
    ∃ x wr ft, StepG P Γ ops i o st x wr ft ∧ dOK o.dst st.nt ∧ K (st.app o.dst x wr) ft := by
  unfold vcG at h
  split at h
  · rename_i hg
    obtain ⟨x, wr, ft, h1, h2, h3⟩ := vcOp_does h
    exact ⟨x, wr, ft, .inl ⟨.free hg, h1⟩, h2, h3⟩
  · rename_i j want hg
    split at h
    · exact h.elim
    · rename_i d hd0
      have hd := hG j d hd0
      split at h
      · rename_i b hb
        by_cases e : b = want
        · subst e
          have h1 := h.1 rfl
          rw [upd_self _ _ _ hb] at h1
          obtain ⟨x, wr, ft, h1, h2, h3⟩ := vcOp_does h1
          exact ⟨x, wr, ft, .inl ⟨.yes j b d hg hd hb, h1⟩, h2, h3⟩
        · have e' : b = !want := by cases b <;> cases want <;> simp_all
          have h2 := h.2 e'
          rw [upd_self _ _ _ (by rw [hb, e'])] at h2
          exact ⟨_, _, _, .inr ⟨.no j want d (.bool b) hg hd hb (fun q => e (by injection q)), rfl, rfl, rfl⟩, h2.1, h2.2⟩
      · rename_i vs hb
        exact ⟨_, _, _, .inr ⟨.no j want d _ hg hd hb (fun q => by cases q), rfl, rfl, rfl⟩, h.1, h.2⟩
      · exact h.elim

/-- What no edge orders is apart. -/
def chk (ops : Array Oper) (k : Nat) (L : List (Nat × Foot)) (ft : Foot) : Bool := L.all fun p => p.2.apart ft || dep ops 6 k p.1

/-- The operations in the text's order; draw: what no edge orders must be apart. -/
def vcOps (P : Program) (Γ : FuncId → Option Nat) (ops : Array Oper) (base : Nat) (draw : Bool) : Nat → List Oper → List (Nat × Option Tmp) → List (Nat × Foot) → HS → (HS → Prop) → Prop
  | _, [], _, _, st, Q => Q st
  | k, o :: l, G, L, st, Q => vcG P Γ G (base + 4 * k) o st fun st' ft => (draw = true → chk ops k L ft = true) ∧ vcOps P Γ ops base draw (k + 1) l ((k, o.dst) :: G) (bif draw then (k, ft) :: L else L) st' Q

theorem GOK.step {ops : Array Oper} {G : List (Nat × Option Tmp)} (h : GOK ops G) {k : Nat} {o : Oper} (h0 : ops[k]? = some o) : GOK ops ((k, o.dst) :: G) := by
  intro j d hj
  simp only [lkD] at hj
  by_cases e : j = k
  · rw [if_pos e] at hj; rw [e, h0]; exact hj
  · rw [if_neg e] at hj; exact h j d hj
theorem GOK.nil (ops : Array Oper) : GOK ops [] := fun j d h => by cases h

def logF (L : List (Nat × Foot)) : Nat → Option Foot := fun k => (L.find? (·.1 == k)).map (·.2)

theorem anyV_lex {P : Program} {Γ : FuncId → Option Nat} {ops : Array Oper} {base : Nat} {Q : HS → Prop} : ∀ (l : List Oper) (k : Nat) (listed : Array Bool) (G : List (Nat × Option Tmp)) (L : List (Nat × Foot)) (st : HS), (∀ j, l[j]? = ops[k + j]?) →
    Region.lexFrom .any ops l.length k listed = true → CL ops listed → GOK ops G → (∀ p ∈ L, p.1 < k) → vcOps P Γ ops base true k l G L st Q → anyV P Γ ops base Q l.length listed (logF L) st
  | [], _, _, _, _, _, _, hB, _, _, _, h => ⟨by simpa [Region.lexFrom] using hB, h⟩
  | o :: l, k, listed, G, L, st, hl, hB, hc, hG, hL, h => by
    have h0 : ops[k]? = some o := by simpa using (hl 0).symm
    simp only [List.length_cons, Region.lexFrom, Bool.and_eq_true] at hB
    obtain ⟨⟨hr, hf⟩, hB'⟩ := hB
    simp only [vcOps] at h
    obtain ⟨x, wr, ft, h1, h2, h3, h4⟩ := vcG_step hG h
    have hrk : k ∈ Region.ready .any ops listed := by simpa using hr
    obtain ⟨_, oj, hoj, hall⟩ := mem_ready.1 hrk
    have hlog : logF ((k, ft) :: L) = upd (logF L) k (some ft) := by
      funext q
      simp only [logF, upd_at, List.find?_cons]
      by_cases e : q = k
      · subst e; simp
      · have : (k == q) = false := by simpa using fun h => e h.symm
        simp [this, e]
    refine anyV_first h0 l.length listed (logF L) st (Region.free_spec h0 hf) hrk hc h1 h2 (fun q fq hq => ?_) ?_ ?_
    · simp only [logF, Option.map_eq_some_iff] at hq
      obtain ⟨p, hp, rfl⟩ := hq
      have hmem := List.mem_of_find?_eq_some hp
      have hkey : p.1 = q := by have := List.find?_some hp; simpa using this
      have := h3 trivial
      unfold chk at this
      have := List.all_eq_true.1 this p hmem
      simp only [Bool.or_eq_true] at this
      rw [hkey] at this
      exact this.symm
    · simp only [logF, Option.map_eq_none_iff, List.find?_eq_none]
      intro p hp
      have := hL p hp
      simp; omega
    · rw [← hlog]
      exact anyV_lex l (k + 1) _ _ _ _ (fun j => by have := hl (j + 1); simpa [Nat.add_assoc, Nat.add_comm 1 j] using this) hB' (hc.set hoj hall) (hG.step h0)
        (fun p hp => by
          rcases List.mem_cons.1 hp with rfl | hp
          · simp
          · have := hL p hp; omega) h4

end Go.Proofs.YtfmebdmgnmogaaaGreatDoor.Hv
namespace Go.Proofs.YtfmebdmgnmogaaaGreatDoor.Hv
open Go Go.RowKit

variable {C : Ctx} {st : HS} {m : Mp} {a : Act} {w : World}

theorem bop_list (g : Good C st m a w) (parts : Array (Nat × Operand)) : (parts.map fun p => (p.1, a.eval p.2)).toList.length = (parts.toList.map fun p => (p.1, ev st.fr p.2)).length ∧
    ∀ (j : Nat) (p : Nat × HV) (u : Nat × Value), (parts.toList.map fun p => (p.1, ev st.fr p.2))[j]? = some p → (parts.map fun p => (p.1, a.eval p.2)).toList[j]? = some u → u.1 = p.1 ∧ R C st m w p.2 u.2 := by
  refine ⟨by simp, fun j p u h1 h2 => ?_⟩
  simp only [List.getElem?_map, Option.map_eq_some_iff] at h1
  obtain ⟨q, hq, rfl⟩ := h1
  simp only [Array.toList_map, List.getElem?_map, hq, Option.map_some, Option.some.injEq] at h2
  subst h2
  exact ⟨rfl, g.ev q.2⟩

theorem opt_rel (g : Good C st m a w) (o : Option Operand) : RO C st m w (o.map (ev st.fr)) (o.map a.eval) := by
  cases o with
  | none => trivial
  | some x => exact g.ev x

theorem exec_sound (g : Good C st m a w) {Γ : FuncId → Option Nat} {i : Nat} (hn : C.n0 ≤ i) {o : Oper} {E : Eff} {x : HV} {wr : List (Nat × HBlk)} (he : opEff C.P Γ i o.op st.fr st.hp = some E) (hs : E.side) (hr : E.res = .val x wr) :
    Out C st a wr x ((execOp a.eval o).run C.P w) := by
  have pure_case : ∀ (y : Operand), pv (ev st.fr y) = some E → Out C st a wr x (.ok (.value (a.eval y)) w) := fun y h => by
    simp only [pv, Option.some.injEq] at h
    subst h
    simp only [Res.val.injEq] at hr
    obtain ⟨rfl, rfl⟩ := hr
    exact Out.pure g (g.ev y)
  cases hop : o.op
  case move y => rw [hop] at he; simp only [execOp, hop]; exact pure_case y he
  case assign y => rw [hop] at he; simp only [execOp, hop]; exact pure_case y he
  case pick c p q => rw [hop] at he; simp only [execOp, hop]; exact snd_pick g (g.ev c) (g.ev p) (g.ev q) he hr
  case alloc t => rw [hop] at he; simp only [execOp, hop]; exact snd_alloc g hn he hs hr
  case box t y => rw [hop] at he; simp only [execOp, hop]; exact snd_box g hn (g.ev y) he hs hr
  case build t parts =>
    rw [hop] at he; simp only [execOp, hop]
    obtain ⟨h1, h2⟩ := bop_list g parts
    exact snd_build g h1 h2 he hs hr
  case buildSlice t n parts =>
    rw [hop] at he; simp only [execOp, hop]
    obtain ⟨h1, h2⟩ := bop_list g parts
    exact snd_buildSlice g hn h1 h2 he hs hr
  case load t y => rw [hop] at he; simp only [execOp, hop]; exact snd_load g (g.ev y) he hs hr
  case store t p y => rw [hop] at he; simp only [execOp, hop]; exact snd_store g (g.ev p) (g.ev y) he hs hr
  case nilCheck y =>
    rw [hop] at he; simp only [execOp, hop]
    obtain ⟨p, e, h⟩ := snd_nil g (g.ev y) he hr
    rw [e] at h ⊢
    exact h
  case binOp op t p q t' =>
    rw [hop] at he
    simp only [opEff, Option.map_eq_some_iff] at he
    obtain ⟨E', h1, rfl⟩ := he
    simp only [execOp, hop]
    exact snd_bin g (g.ev p) (g.ev q) h1 hs.1 hs.2 hr
  case unOp op t y => rw [hop] at he; simp only [execOp, hop]; exact snd_un g (g.ev y) he hr
  case convert s t y => rw [hop] at he; simp only [execOp, hop]; exact snd_conv g (g.ev y) he hs hr
  case makeSlice t l c => rw [hop] at he; simp only [execOp, hop]; exact snd_make g hn (g.ev l) (g.ev c) he hs hr
  case slice t y lo hi mx => rw [hop] at he; simp only [execOp, hop]; exact snd_slice g (g.ev y) (opt_rel g lo) (opt_rel g hi) (opt_rel g mx) he hs hr
  case fieldAddr s y f => rw [hop] at he; simp only [execOp, hop]; exact snd_fieldAddr g (g.ev y) he hr
  case field s y f => rw [hop] at he; simp only [execOp, hop]; exact snd_field g (g.ev y) he hs hr
  case indexAddr t y ix => rw [hop] at he; simp only [execOp, hop]; exact snd_indexAddr g (g.ev y) (g.ev ix) he hs hr
  case index t y ix => rw [hop] at he; simp only [execOp, hop]; exact snd_index g (g.ev y) (g.ev ix) he hs hr
  case extract y k => rw [hop] at he; simp only [execOp, hop]; exact snd_extract g (g.ev y) he hs hr
  case call c =>
    rw [hop] at he
    simp only [opEff] at he
    split at he
    · rename_i b hcal
      have hres : (execOp a.eval o) = builtin b c.argTypes o.type (c.args.map fun | .const _ => true | _ => false) (c.args.map a.eval) := by
        simp only [execOp, hop, resolve, hcal]
        rfl
      rw [hres]
      unfold effBuiltin at he
      split at he
      · rename_i t y ht hy
        have e1 : c.argTypes = #[t] := by rw [← Array.toArray_toList (xs := c.argTypes), ht]
        obtain ⟨y', hy'⟩ : ∃ y', c.args.toList = [y'] := by
          cases hq : c.args.toList with
          | nil => rw [hq] at hy; cases hy
          | cons p r => cases r with
            | nil => exact ⟨p, rfl⟩
            | cons _ _ => rw [hq] at hy; cases hy
        rw [hy'] at hy
        simp only [List.map_cons, List.map_nil, List.cons.injEq, and_true] at hy
        subst hy
        have e2 : c.args.map a.eval = #[a.eval y'] := by rw [← Array.toArray_toList (xs := c.args), hy']; simp
        simp only [builtin, e1, e2]
        exact snd_len g (g.ev y') he hs hr
      · rename_i t t' y z ht hy
        have e1 : c.argTypes = #[t, t'] := by rw [← Array.toArray_toList (xs := c.argTypes), ht]
        obtain ⟨y', z', hy'⟩ : ∃ y' z', c.args.toList = [y', z'] := by
          cases hq : c.args.toList with
          | nil => rw [hq] at hy; cases hy
          | cons p r => cases r with
            | nil => rw [hq] at hy; cases hy
            | cons p' r => cases r with
              | nil => exact ⟨p, p', rfl⟩
              | cons _ _ => rw [hq] at hy; cases hy
        rw [hy'] at hy
        simp only [List.map_cons, List.map_nil, List.cons.injEq, and_true] at hy
        obtain ⟨rfl, rfl⟩ := hy
        have e2 : c.args.map a.eval = #[a.eval y', a.eval z'] := by rw [← Array.toArray_toList (xs := c.args), hy']; simp
        simp only [builtin, e1, e2]
        exact snd_append g hn (g.ev y') (g.ev z') he hs hr
      · rename_i t t' k y k' z ht hy
        obtain ⟨y', z', hy'⟩ : ∃ y' z', c.args.toList = [y', z'] := by
          cases hq : c.args.toList with
          | nil => rw [hq] at hy; exact absurd hy (by simp)
          | cons p r => cases r with
            | nil => rw [hq] at hy; exact absurd hy (by simp)
            | cons p' r => cases r with
              | nil => exact ⟨p, p', rfl⟩
              | cons _ _ => rw [hq] at hy; exact absurd hy (by simp)
        rw [hy'] at hy
        simp only [List.map_cons, List.map_nil, List.cons.injEq, and_true] at hy
        have e2 : c.args.map a.eval = #[a.eval y', a.eval z'] := by rw [← Array.toArray_toList (xs := c.args), hy']; simp
        have r1 := g.ev y'
        have r2 := g.ev z'
        rw [hy.1] at r1
        rw [hy.2] at r2
        simp only [pv, Option.some.injEq] at he
        subst he
        simp only [Res.val.injEq] at hr
        obtain ⟨rfl, rfl⟩ := hr
        generalize a.eval y' = u1 at r1 e2
        generalize a.eval z' = u2 at r2 e2
        cases r1
        cases r2
        simp only [builtin, e2]
        rw [run_v (run_max_int2 _ _ _ _ _ _ _)]
        exact Out.pure g (.raw _)
      · cases he
    · unfold effCall at he
      split at he
      · simp only [Option.some.injEq] at he; subst he; cases hr
      · split at he
        · simp only [Option.some.injEq] at he; subst he; cases hr
        · cases he
    · cases he
  all_goals (rw [hop] at he; simp only [opEff] at he; cases he)

/-! ### Rights given up before a call -/
def frz (hp : Hp) (l : List Nat) : Hp := fun id => if id ∈ l then { hp id with wb := false } else hp id
theorem frz_offs (hp : Hp) (l : List Nat) : setAll hp (offs hp l) = frz hp l := by
  funext id
  unfold frz
  by_cases h : id ∈ l
  · rw [if_pos h]
    have key : ∀ (l : List Nat) (h0 : Hp), id ∈ l → setAll h0 (offs hp l) id = { hp id with wb := false } := by
      intro l
      induction l with
      | nil => intro _ h; cases h
      | cons k l ih =>
        intro h0 hk
        by_cases hl : id ∈ l
        · exact ih _ hl
        · have hkk : id = k := (List.mem_cons.1 hk).elim (fun e => e) (fun e => absurd e hl)
          subst hkk
          have := setAll_not (hp := upd h0 id { hp id with wb := false }) (wr := offs hp l) (id := id) (fun p hp' e => by
            simp only [offs, List.mem_map] at hp'
            obtain ⟨q, hq, rfl⟩ := hp'
            exact hl (e ▸ hq))
          show setAll (upd h0 id { hp id with wb := false }) (offs hp l) id = _
          rw [this, upd_same]
    exact key l hp h
  · rw [if_neg h]
    exact setAll_not (fun p hp' e => by
      simp only [offs, List.mem_map] at hp'
      obtain ⟨q, hq, rfl⟩ := hp'
      exact h (e ▸ hq))

theorem Good.frz (g : Good C st m a w) (l : List Nat) : Good C { st with hp := frz st.hp l } m a w := by
  induction l with
  | nil =>
    have : Hv.frz st.hp [] = st.hp := by funext id; simp [Hv.frz]
    rw [this]; exact g
  | cons k l ih =>
    have := ih.freeze k
    have e : upd (Hv.frz st.hp l) k { Hv.frz st.hp l k with wb := false } = Hv.frz st.hp (k :: l) := by
      funext id
      simp only [upd_at, Hv.frz, List.mem_cons]
      by_cases h : id = k
      · subst h
        by_cases h2 : id ∈ l <;> simp [h2]
      · simp [h]
    rw [e] at this
    exact this

theorem frz_spec (hp : Hp) (l : List Nat) (id : Nat) : (frz hp l id).live = (hp id).live ∧ (frz hp l id).grow = (hp id).grow ∧ (frz hp l id).cells = (hp id).cells ∧ (frz hp l id).sz = (hp id).sz ∧ (frz hp l id).elem = (hp id).elem ∧ (frz hp l id).al = (hp id).al ∧
    ((frz hp l id).wb = true → (hp id).wb = true ∧ id ∉ l) := by
  unfold frz
  by_cases h : id ∈ l
  · simp [h]
  · simp [h]

/-- What lies in a block that is not written any more is kept. -/
theorem not_X {hp : Hp} (K : HeapOK w C.Xo m hp) {id b o off : Nat} (hl : (hp id).live = true) (hw : (hp id).wb = false) (hm : m id = some (b, o)) (h1 : o ≤ off) (h2 : off < o + (hp id).cells.length) : ¬ Xt C.Xo m hp ⟨b, off, none⟩ := by
  rintro (h | ⟨k, hk, b', o', hmk, hb', hr⟩)
  · exact K.out id b o off hl hm (.inl ⟨h1, h2⟩) h
  · simp only at hb' hr
    subst hb'
    by_cases e : k = id
    · subst e
      rw [hm] at hmk; injection hmk with hmk; injection hmk with e1 e2; subst e2
      rcases hr with ⟨h, _⟩ | ⟨_, h⟩
      · rw [hw] at h; cases h
      · omega
    · obtain ⟨s1, s2, s3, s4⟩ := K.sep k id b o' o e hk hl hmk hm
      rcases hr with ⟨h, _⟩ | ⟨h, h'⟩
      · rw [s1] at h; cases h
      · have := s4 h; omega

theorem flat_fz {X : AP} {m' : Mp} {h h' : Hp} {x : HV} {v : Value} (r : Rep w X m h x v) (hf : x.flat = true) : Rep w X m' h' x v := by
  have key : ∀ {x v}, Rep w X m h x v → x.flat = true → Rep w X m' h' x v := by
    intro x v r
    induction r with
    | any v => intro _; exact .any v
    | raw v => intro _; exact .raw v
    | sl n full cells a c vs h1 h2 h3 h3' h4 h5 _ ih =>
      intro _
      exact .sl n full cells a c vs h1 h2 h3 h3' h4 h5 (fun j x v hx hv => ih j x v hx hv (h4 x (List.mem_of_getElem? hx)))
    | agg => intro h; cases h
    | tup => intro h; cases h
    | own => intro h; cases h
    | ptr => intro h; cases h
    | iptr => intro h; cases h
  exact key r hf

theorem fz1_rep (g : Good C st m a w) (l : List Nat) {x : HV} {v : Value} (r : R C st m w x v) (hok : ok1 st.hp x) (hid : ∀ id ∈ id1 x, id ∈ l) {m' : Mp} {h' : Hp} :
    Rep w (Xt C.Xo m (frz st.hp l)) m' h' (fz1 st.hp x) v ∧ (fz1 st.hp x).flat = true := by
  have gf := g.frz l
  have r' : Rep w (Xt C.Xo m (frz st.hp l)) m (frz st.hp l) x v := by
    refine r.mono (fun p u hp hx => ⟨hp, fun h => hx ?_⟩) (Shp.refl w) (fun q hq => ⟨by rw [(frz_spec st.hp l q).2.2.2.2.2.1]; exact hq, rfl, (frz_spec st.hp l q).2.2.2.1⟩)
    refine h.imp (fun x => x) (fun ⟨k, hk, b, o, hm, hb, hr⟩ => ?_)
    obtain ⟨e1, e2, e3, _, _, _, e7⟩ := frz_spec st.hp l k
    rw [e1] at hk
    rw [e2, e3] at hr
    exact ⟨k, hk, b, o, hm, hb, hr.imp (fun h => ⟨(e7 h.1).1, h.2⟩) (fun h => h)⟩
  cases x with
  | own id off n full =>
    obtain ⟨h1, h2, h3, h4⟩ := hok
    have hidl := hid id (by simp [id1])
    obtain ⟨f1, f2, f3, f4, f5, f6, f7⟩ := frz_spec st.hp l id
    have hwb : (frz st.hp l id).wb = false := by
      cases hq : (frz st.hp l id).wb with
      | false => rfl
      | true => exact absurd hidl (f7 hq).2
    cases r' with
    | own _ _ _ _ ad c ha hc hf hb =>
      refine ⟨?_, rfl⟩
      have hnl : n ≤ n * (st.hp id).sz := Nat.le_mul_of_pos_right _ h3
      rcases g.heap.real id h1 with ⟨_, hcl⟩ | ⟨b, o, cs, hm, k2, k3, k4⟩
      · have hn0 : n * (st.hp id).sz = 0 := by rw [hcl] at h2; simp at h2; omega
        have hn : n = 0 := by omega
        subst hn
        refine .sl 0 full _ ad c [] (by simp) (Nat.zero_le _) hf (by simp) (by simp) (by simp) (by simp)
      · obtain ⟨us, q1, q2, q3⟩ := stretch gf.heap (by rw [f1]; exact h1) hm off (n * (st.hp id).sz) (by rw [f3]; exact h2)
        rw [f3] at q1
        refine .sl n full _ ad c us q1.1 hc hf (by simp; omega) (fun x hx => h4 x (List.mem_of_mem_drop (List.mem_of_mem_take hx))) (fun j u hj => ?_) (fun j x u hx hu => ?_)
        · have hj' : j < us.length := (List.getElem?_eq_some_iff.1 hj).1
          have hc0 : 0 < c := by
            rcases Nat.eq_zero_or_pos c with e0 | e0
            · have : n = 0 := by omega
              rw [q2, this, Nat.zero_mul] at hj'; omega
            · exact e0
          obtain ⟨b', o', cs', e', g1, g2, g3, g4⟩ := hb hc0
          rw [hm] at g1; injection g1 with g1; injection g1 with e1 e2; subst e1 e2
          refine ⟨_, g2, by rw [add_lit]; exact q3 j u hj, ?_⟩
          rw [add_lit]
          exact not_X gf.heap (by rw [f1]; exact h1) hwb hm (by omega) (by rw [f3]; omega)
        · exact flat_fz (q1.2 j x u hx hu).2 (h4 x (List.mem_of_mem_drop (List.mem_of_mem_take (List.mem_of_getElem? hx))))
  | any => exact ⟨.any v, rfl⟩
  | raw u => exact ⟨flat_fz r' rfl, rfl⟩
  | sl n full cells => exact ⟨flat_fz r' rfl, rfl⟩
  | agg cs => exact hok.elim
  | tup cs => exact hok.elim
  | ptr _ _ => exact hok.elim
  | iptr _ => exact hok.elim

theorem fz_rep (g : Good C st m a w) (l : List Nat) {x : HV} {v : Value} (r : R C st m w x v) (hok : okz st.hp x) (hid : ∀ id ∈ ids x, id ∈ l) {m' : Mp} {h' : Hp} :
    Rep w (Xt C.Xo m (frz st.hp l)) m' h' (fz st.hp x) v := by
  cases x with
  | agg cs =>
    cases r with
    | agg _ vs hl hrep =>
      refine .agg _ vs (by simp [hl]) (fun j x u hx hu => ?_)
      simp only [List.getElem?_map, Option.map_eq_some_iff] at hx
      obtain ⟨y, hy, rfl⟩ := hx
      exact (fz1_rep g l (hrep j y u hy hu) (hok y (List.mem_of_getElem? hy)) (fun id h => hid id (List.mem_flatMap.2 ⟨y, List.mem_of_getElem? hy, h⟩))).1
  | any => exact (fz1_rep g l r hok hid).1
  | raw u => exact (fz1_rep g l r hok hid).1
  | sl n full cells => exact (fz1_rep g l r hok hid).1
  | own _ _ _ _ => exact (fz1_rep g l r hok hid).1
  | tup cs => exact (hok : False).elim
  | ptr _ _ => exact (hok : False).elim
  | iptr _ => exact (hok : False).elim

theorem nf1_rep {X : AP} {h : Hp} {x : HV} {v : Value} (r : Rep w X m h x v) : Rep w X m h (nf1 x) v := by
  cases r with
  | sl n full cells a c vs h1 h2 h3 h3' h4 h5 h6 => exact .sl n false cells a c vs h1 h2 (by simp) h3' h4 h5 h6
  | any v => exact .any v
  | raw v => exact .raw v
  | agg cells vs h1 h2 => exact .agg cells vs h1 h2
  | tup cells vs h1 h2 => exact .tup cells vs h1 h2
  | own id off n full a c h1 h2 h3 h4 => exact .own id off n full a c h1 h2 h3 h4
  | ptr id off b o h1 h2 => exact .ptr id off b o h1 h2
  | iptr cells ad vs h1 h2 h3 h4 => exact .iptr cells ad vs h1 h2 h3 h4
theorem nf_rep {X : AP} {h : Hp} {x : HV} {v : Value} (r : Rep w X m h x v) : Rep w X m h (nf x) v := by
  cases x
  case agg cs =>
    cases r with
    | agg _ vs hl hrep =>
      refine .agg _ vs (by simpa using hl) (fun j x v hx hv => ?_)
      simp only [List.getElem?_map, Option.map_eq_some_iff] at hx
      obtain ⟨y, hy, rfl⟩ := hx
      exact nf1_rep (hrep j y v hy hv)
  all_goals exact nf1_rep r

theorem ofL_nil (id : Nat) : ofL [] id = {} := by simp [ofL]
theorem Xt_nil {X : AP} {m : Mp} (p : Addr) : Xt X m (ofL []) p ↔ X p := by
  constructor
  · rintro (h | ⟨id, hl, _⟩)
    · exact h
    · rw [ofL_nil] at hl; cases hl
  · exact .inl

theorem HeapOK.nil {X : AP} {m : Mp} (h : ∀ p, X p → p.block < w.heap.size) : HeapOK w X m (ofL []) :=
  ⟨fun id hl => (by rw [ofL_nil] at hl; cases hl), fun id hl => (by rw [ofL_nil] at hl; cases hl), fun i _ _ _ _ _ hl => (by rw [ofL_nil] at hl; cases hl), fun id _ _ _ hl => (by rw [ofL_nil] at hl; cases hl), h⟩

/-- A call whose arguments are given up for writing. -/
theorem call_sound (g : Good C st m a w) {f : FuncId} {args : List HV} {vs : List Value} (hl : vs.length = args.length) (hr : ∀ (j : Nat) (x : HV) (v : Value), args[j]? = some x → vs[j]? = some v → R C st m w x v)
    (hok : ∀ x ∈ args, okz st.hp x) {x : HV} (hc : HCallsD C.P f [] (args.map (fzn st.hp)) x []) :
    Calls C.P f vs.toArray w fun e w' => ∃ v, e = .returned v ∧ Good C { st with hp := setAll st.hp (offs st.hp (args.flatMap ids)) } m a w' ∧
      Rep w' (Xt C.Xo m (setAll st.hp (offs st.hp (args.flatMap ids)))) m (setAll st.hp (offs st.hp (args.flatMap ids))) x v := by
  rw [frz_offs]
  have gf := g.frz (args.flatMap ids)
  have hlt : ∀ p, Xt C.Xo m (frz st.hp (args.flatMap ids)) p → p.block < w.heap.size := fun p hp => by
    rcases hp with h | ⟨id, h⟩
    · exact gf.heap.lt p h
    · exact Xid_lt gf.heap h
  refine (hc.2 (Xt C.Xo m (frz st.hp (args.flatMap ids))) m w vs (by simpa using hl) hlt (HeapOK.nil hlt) ⟨g.gw, fun id p h => (by have := h.1; rw [ofL_nil] at this; cases this)⟩ (fun j y v hy hv => ?_)).mono ?_
  · simp only [List.getElem?_map, Option.map_eq_some_iff] at hy
    obtain ⟨y', hy', rfl⟩ := hy
    have hmem := List.mem_of_getElem? hy'
    refine (nf_rep (fz_rep g (args.flatMap ids) (hr j y' v hy' hv) (hok y' hmem) (fun id h => List.mem_flatMap.2 ⟨y', hmem, h⟩) (m' := m) (h' := ofL []))).mono (fun p u hp hx => ⟨hp, fun h => hx ((Xt_nil p).1 h)⟩) (Shp.refl w) (HpLe.refl _ _)
  · rintro e w' ⟨v, m', he, _, _, hrep, hch⟩
    have hch' : Chg (fun _ => False) w w' := ⟨hch.os, hch.tape, hch.output, hch.size, hch.shp, fun p u hp _ => hch.cell p u hp (fun ⟨id, h⟩ => (by have := h.1; rw [ofL_nil] at this; cases this)),
      fun i hi _ => hch.blk i hi (fun off ⟨id, h⟩ => (by have := h.1; rw [ofL_nil] at this; cases this))⟩
    refine ⟨v, he, gf.world hch', hrep.mono (fun p u hp hx => ⟨hp, fun h => hx ((Xt_nil p).2 h)⟩) (Shp.refl _) (fun id hid => by rw [ofL_nil] at hid; cases hid)⟩

end Go.Proofs.YtfmebdmgnmogaaaGreatDoor.Hv
namespace Go.Proofs.YtfmebdmgnmogaaaGreatDoor.Hv
open Go Go.RowKit

variable {C : Ctx} {st : HS} {m : Mp} {a : Act} {w : World}

theorem ofL_one (b : HBlk) (id : Nat) : ofL [b] id = if id = 0 then b else {} := by
  cases id with
  | zero => rfl
  | succ id => rfl

def m0 (m : Mp) (id off : Nat) : Mp := fun k => if k = 0 then (m id).map fun p => (p.1, p.2 + off) else none
theorem m0_some {m : Mp} {id b o : Nat} (off : Nat) (h : m id = some (b, o)) : m0 m id off 0 = some (b, o + off) := by simp [m0, h]

theorem callB_sound (g : Good C st m a w) {f : FuncId} {args : List HV} {vs : List Value} {j id off n : Nat} {full : Bool} (hl : vs.length = args.length) (hr : ∀ (j : Nat) (x : HV) (v : Value), args[j]? = some x → vs[j]? = some v → R C st m w x v)
    (hj : args[j]? = some (.own id off n full)) (hok : ∀ x ∈ args.set j (.raw (.bool true)), okz st.hp x) (hlive : (st.hp id).live = true) (hwb : (st.hp id).wb = true)
    (hwin : off + n * (st.hp id).sz ≤ (st.hp id).cells.length) (hnot : id ∉ (args.set j (.raw (.bool true))).flatMap ids) (hflat : ∀ c ∈ (st.hp id).cells, c.flat = true) {x : HV} {cs : List HV}
    (hc : HCallsD C.P f [{ st.hp id with grow := false, cells := ((st.hp id).cells.drop off).take (n * (st.hp id).sz) }] (((args.set j (.raw (.bool true))).map (fzn st.hp)).set j (.own 0 0 n full)) x
      [{ ({ st.hp id with grow := false, cells := ((st.hp id).cells.drop off).take (n * (st.hp id).sz) } : HBlk) with cells := cs }])
    (hlen : cs.length = (((st.hp id).cells.drop off).take (n * (st.hp id).sz)).length) (hcf : ∀ c ∈ cs, c.flat = true) :
    Calls C.P f vs.toArray w fun e w' => ∃ v, e = .returned v ∧ Good C { st with hp := setAll st.hp (offs st.hp ((args.set j (.raw (.bool true))).flatMap ids) ++ [backB st.hp id off cs]) } m a w' ∧
      (x.flat = true → Rep w' (Xt C.Xo m (setAll st.hp (offs st.hp ((args.set j (.raw (.bool true))).flatMap ids) ++ [backB st.hp id off cs]))) m (setAll st.hp (offs st.hp ((args.set j (.raw (.bool true))).flatMap ids) ++ [backB st.hp id off cs])) x v) := by
  have hset : setAll st.hp (offs st.hp ((args.set j (.raw (.bool true))).flatMap ids) ++ [backB st.hp id off cs]) =
      upd (frz st.hp ((args.set j (.raw (.bool true))).flatMap ids)) id { st.hp id with cells := splice (st.hp id).cells off cs } := by
    have := frz_offs st.hp ((args.set j (.raw (.bool true))).flatMap ids)
    unfold setAll at this ⊢
    rw [List.foldl_append, this]
    rfl
  rw [hset]
  clear hset
  have gf := g.frz ((args.set j (.raw (.bool true))).flatMap ids)
  have hfz : ∀ y ∈ args.set j (.raw (.bool true)), ∀ q ∈ ids y, q ∈ (args.set j (.raw (.bool true))).flatMap ids := fun y hy q hq => List.mem_flatMap.2 ⟨y, hy, hq⟩
  generalize hL : (args.set j (.raw (.bool true))).flatMap ids = L at *
  have hid1 : frz st.hp L id = st.hp id := by unfold frz; rw [if_neg hnot]
  generalize hH1 : frz st.hp L = h1 at *
  have K := gf.heap
  simp only at K
  have hlive1 : (h1 id).live = true := by rw [hid1]; exact hlive
  have hwb1 : (h1 id).wb = true := by rw [hid1]; exact hwb
  generalize hB : ({ st.hp id with grow := false, cells := ((st.hp id).cells.drop off).take (n * (st.hp id).sz) } : HBlk) = B at *
  have Bl : B.live = true := by subst hB; exact hlive
  have Bw : B.wb = true := by subst hB; exact hwb
  have Bg : B.grow = false := by subst hB; rfl
  have Be : B.elem = (st.hp id).elem := by subst hB; rfl
  have Bs : B.sz = (st.hp id).sz := by subst hB; rfl
  have Ba : B.al = true := by subst hB; exact g.heap.alive id hlive
  have Bc : B.cells = ((st.hp id).cells.drop off).take (n * (st.hp id).sz) := by subst hB; rfl
  rw [← Bc] at hlen
  have Bn : B.cells.length = n * (st.hp id).sz := by rw [Bc]; simp; omega
  -- the window
  let Win : AP := fun p => ∃ b o, m id = some (b, o) ∧ p.block = b ∧ o + off ≤ p.off ∧ p.off < o + off + B.cells.length
  have WinX : ∀ p, Win p → Xid m h1 id p := fun p ⟨b, o, e1, e2, e3, e4⟩ => ⟨hlive1, b, o, e1, e2, .inl ⟨hwb1, by omega, by rw [hid1]; omega⟩⟩
  have XofB : ∀ (D : HBlk), D.live = true → D.wb = true → D.grow = false → D.cells.length = B.cells.length → ∀ (m' : Mp), m' 0 = m0 m id off 0 → ∀ p, (∃ q, Xid m' (ofL [D]) q p) ↔ Win p := by
    intro D d1 d2 d3 d4 m' hm' p
    constructor
    · rintro ⟨q, hq, b, o, e1, e2, hr⟩
      rw [ofL_one] at hq hr
      by_cases hq0 : q = 0
      · subst hq0
        simp only [if_true, d3, d4, Bool.false_eq_true, false_and, or_false] at hr
        rw [hm'] at e1
        simp only [m0, if_true, Option.map_eq_some_iff] at e1
        obtain ⟨⟨b', o'⟩, e3, e4⟩ := e1
        simp only [Prod.mk.injEq] at e4
        obtain ⟨rfl, rfl⟩ := e4
        exact ⟨b', o', e3, e2, hr.2.1, hr.2.2⟩
      · rw [if_neg hq0] at hq; cases hq
    · rintro ⟨b, o, e1, e2, e3, e4⟩
      refine ⟨0, by rw [ofL_one]; exact d1, b, o + off, by rw [hm']; exact m0_some off e1, e2, .inl ⟨by rw [ofL_one]; exact d2, e3, ?_⟩⟩
      rw [ofL_one, if_pos rfl, d4]; exact e4
  have XofB0 := XofB B Bl Bw Bg rfl (m0 m id off) rfl
  let X : AP := fun p => Xt C.Xo m h1 p ∧ ¬ Win p
  have XtLe : ∀ p, Xt X (m0 m id off) (ofL [B]) p → Xt C.Xo m h1 p := fun p h => by
    rcases h with h | h
    · exact h.1
    · exact .inr ⟨id, WinX p ((XofB0 p).1 h)⟩
  have hlt : ∀ p, X p → p.block < w.heap.size := fun p hp => by
    rcases hp.1 with h | ⟨q, h⟩
    · exact K.lt p h
    · exact Xid_lt K h
  have heapB : HeapOK w X (m0 m id off) (ofL [B]) := by
    refine ⟨fun q hq => ?_, fun q hq => ?_, fun q r bi oi oj hqr hq hr => ?_, fun q b o off' hq hm hrg => ?_, hlt⟩
    · rw [ofL_one] at hq ⊢
      by_cases h0 : q = 0
      · rw [if_pos h0]; exact Ba
      · rw [if_neg h0] at hq; cases hq
    · rw [ofL_one] at hq
      by_cases h0 : q = 0
      · subst h0
        rcases K.real id hlive1 with ⟨e1, e2⟩ | ⟨b, o, cs0, e1, e2, e3, e4⟩
        · refine .inl ⟨by simp [m0, e1], ?_⟩
          rw [ofL_one, if_pos rfl, Bc]
          rw [hid1] at e2
          rw [e2]; simp
        · refine .inr ⟨b, o + off, cs0, m0_some off e1, ?_, ?_, fun k y hy => ?_⟩
          · rw [ofL_one, if_pos rfl, Be, ← hid1]; exact e2
          · rw [ofL_one, if_pos rfl, Bn]; rw [hid1] at e3; omega
          · rw [ofL_one, if_pos rfl, Bc] at hy
            simp only [List.getElem?_take, List.getElem?_drop] at hy
            split at hy
            · rename_i hk
              have hy' : (h1 id).cells[off + k]? = some y := by rw [hid1]; exact hy
              obtain ⟨v, v1, v2, v3⟩ := e4 _ y hy'
              exact ⟨v, by rw [show o + off + k = o + (off + k) by omega]; exact v1, v2, flat_fz (v3.mono (fun p u hp hx => ⟨hp, fun h => hx (XtLe p h)⟩) (Shp.refl w) (HpLe.refl _ _)) (hflat y (List.mem_of_getElem? hy))⟩
            · cases hy
      · rw [if_neg h0] at hq; cases hq
    · rw [ofL_one] at hq hr
      by_cases h0 : q = 0
      · by_cases h1' : r = 0
        · omega
        · rw [if_neg h1'] at hr; cases hr
      · rw [if_neg h0] at hq; cases hq
    · rw [ofL_one] at hq
      by_cases h0 : q = 0
      · subst h0
        rw [ofL_one, if_pos rfl] at hrg
        simp only [Bg, Bool.false_eq_true, false_and, or_false] at hrg
        simp only [m0, if_true, Option.map_eq_some_iff] at hm
        obtain ⟨⟨b', o'⟩, e3, e4⟩ := hm
        simp only [Prod.mk.injEq] at e4
        obtain ⟨rfl, rfl⟩ := e4
        exact fun h => h.2 ⟨b', o', e3, rfl, hrg.1, hrg.2⟩
      · rw [if_neg h0] at hq; cases hq
  have hjl : j < args.length := (List.getElem?_eq_some_iff.1 hj).1
  have hG : GW w ∧ ∀ q p, Xid (m0 m id off) (ofL [B]) q p → ∀ v, ¬ gl p v := by
    refine ⟨gf.gw, fun q p h v hgl => ?_⟩
    have hw := (XofB0 p).1 ⟨q, h⟩
    rcases Nat.lt_or_ge id C.n0 with hid | hid
    · exact gf.g0.2 p v hgl (gf.win id p hid (WinX p hw))
    · obtain ⟨b, o, w1, w2, _, _⟩ := hw
      have h1 := gf.fresh id b o hid hlive1 w1
      have h2 : p.block < C.w0.heap.size := by rw [show p.block = gB from hgl]; exact gf.g0.1.lt
      omega
  refine (hc.2 X (m0 m id off) w vs (by simpa using hl) hlt heapB hG (fun k y v hy hv => ?_)).mono ?_
  · by_cases hkj : k = j
    · subst hkj
      rw [List.getElem?_set_self (by simpa using hjl)] at hy
      injection hy with hy; subst hy
      have r0 := hr k _ v hj hv
      cases r0 with
      | own _ _ _ _ ad c ha hc' hf hb =>
        refine .own 0 0 n full ad c (by rw [ofL_one]; exact Ba) hc' hf (fun h0 => ?_)
        obtain ⟨b, o, cs0, e, e1, e2, e3, e4⟩ := hb h0
        exact ⟨b, o + off, cs0, e, m0_some off e1, e2, e3, by rw [ofL_one, if_pos rfl, Bs]; exact e4⟩
    · rw [List.getElem?_set_ne (fun e => hkj e.symm)] at hy
      simp only [List.getElem?_map, Option.map_eq_some_iff] at hy
      obtain ⟨y', hy', rfl⟩ := hy
      have hmem := List.mem_of_getElem? hy'
      have hya : args[k]? = some y' := by rw [List.getElem?_set_ne (fun e => hkj e.symm)] at hy'; exact hy'
      have r0 := fz_rep g L (hr k y' v hya hv) (hok y' hmem) (hfz y' hmem) (m' := m0 m id off) (h' := ofL [B])
      rw [hH1] at r0
      exact (nf_rep r0).mono (fun p u hp hx => ⟨hp, fun h => hx (XtLe p h)⟩) (Shp.refl w) (HpLe.refl _ _)
  · rintro e w' ⟨v, m', he, hm', hheap, hrep, hch⟩
    have hm0 := hm' 0 (by simp)
    have hcell : ∀ p u, w.cell? p = some u → ¬ Win p → w'.cell? p = some u := fun p u hp hx => hch.cell p u hp (fun h => hx ((XofB0 p).1 h))
    have hblk : ∀ i, i < w.heap.size → (∀ o', ¬ Win ⟨i, o', none⟩) → w'.heap[i]? = w.heap[i]? := fun i hi hx => hch.blk i hi (fun o' h => hx o' ((XofB0 _).1 h))
    have XofB1 := XofB { B with cells := cs } Bl Bw Bg hlen m' hm0
    have hsl : (splice (st.hp id).cells off cs).length = (st.hp id).cells.length := splice_length _ _ _ (by rw [hlen, Bn]; exact hwin)
    have hXid : ∀ k p, Xid m (upd h1 id { st.hp id with cells := splice (st.hp id).cells off cs }) k p ↔ Xid m h1 k p := by
      intro k p
      by_cases hk : k = id
      · subst hk; unfold Xid; rw [upd_same]; simp only [hsl, hid1]
      · exact Xid_ext rfl (upd_ne _ _ hk)
    have hXt : ∀ p, Xt C.Xo m (upd h1 id { st.hp id with cells := splice (st.hp id).cells off cs }) p ↔ Xt C.Xo m h1 p := fun p =>
      ⟨fun h => h.imp (fun x => x) (fun ⟨k, h⟩ => ⟨k, (hXid k p).1 h⟩), fun h => h.imp (fun x => x) (fun ⟨k, h⟩ => ⟨k, (hXid k p).2 h⟩)⟩
    have hle : HpLe m m h1 (upd h1 id { st.hp id with cells := splice (st.hp id).cells off cs }) := fun k hk => by
      by_cases h : k = id
      · subst h; rw [upd_same, hid1]; rw [hid1] at hk; exact ⟨hk, rfl, rfl⟩
      · rw [upd_ne _ _ h]; exact ⟨hk, rfl, rfl⟩
    have hkeep : ∀ p u, w.cell? p = some u → ¬ Xt C.Xo m h1 p → w'.cell? p = some u := fun p u hp hx => hcell p u hp (fun h => hx (.inr ⟨id, WinX p h⟩))
    have hmono : ∀ {y u}, Rep w (Xt C.Xo m h1) m h1 y u → Rep w' (Xt C.Xo m (upd h1 id { st.hp id with cells := splice (st.hp id).cells off cs })) m (upd h1 id { st.hp id with cells := splice (st.hp id).cells off cs }) y u := fun r =>
      r.mono (fun p u hp hx => ⟨hkeep p u hp hx, fun h => hx ((hXt p).1 h)⟩) hch.shp hle
    have XtBack : ∀ p, Xt C.Xo m h1 p → Xt X m' (ofL [{ B with cells := cs }]) p := fun p hp => by
      by_cases hw : Win p
      · exact .inr ((XofB1 p).2 hw)
      · exact .inl ⟨hp, hw⟩
    have hback : ∀ {y : HV} {u : Value}, y.flat = true → Rep w' (Xt X m' (ofL [{ B with cells := cs }])) m' (ofL [{ B with cells := cs }]) y u →
        Rep w' (Xt C.Xo m (upd h1 id { st.hp id with cells := splice (st.hp id).cells off cs })) m (upd h1 id { st.hp id with cells := splice (st.hp id).cells off cs }) y u := fun hf r =>
      flat_fz (r.mono (fun p u hp hx => ⟨hp, fun h => hx (XtBack p ((hXt p).1 h))⟩) (Shp.refl _) (HpLe.refl _ _)) hf
    refine ⟨v, he, ?_, fun hf => hback hf hrep⟩
    have halone : ∀ k b ok o, k ≠ id → (h1 k).live = true → m id = some (b, o) → m k ≠ some (b, ok) := fun k b ok o hk hkl hmi hmk => by
      have := (K.sep id k b o ok (Ne.symm hk) hlive1 hkl hmi hmk).1
      rw [hwb1] at this; cases this
    have e : ∀ q, (upd h1 id { st.hp id with cells := splice (st.hp id).cells off cs } q).live = (h1 q).live ∧ (upd h1 id { st.hp id with cells := splice (st.hp id).cells off cs } q).wb = (h1 q).wb ∧
        (upd h1 id { st.hp id with cells := splice (st.hp id).cells off cs } q).grow = (h1 q).grow ∧ (upd h1 id { st.hp id with cells := splice (st.hp id).cells off cs } q).cells.length = (h1 q).cells.length ∧
        (upd h1 id { st.hp id with cells := splice (st.hp id).cells off cs } q).al = (h1 q).al ∧ (upd h1 id { st.hp id with cells := splice (st.hp id).cells off cs } q).elem = (h1 q).elem := fun q => by
      by_cases h : q = id
      · subst h; rw [upd_same, hid1]; exact ⟨rfl, rfl, rfl, hsl, rfl, rfl⟩
      · rw [upd_ne _ _ h]; exact ⟨rfl, rfl, rfl, rfl, rfl, rfl⟩
    refine gf.step (m' := m) (fun p u hp hx => ⟨hkeep p u hp hx, fun h => hx ((hXt p).1 h)⟩) hch.shp hle ⟨fun k hk => ?_, fun k hk => ?_, fun k q bi oi oj hkj hk hq mk mj => ?_, fun k b' o' off' hk hmk hr => ?_, fun p hp => Nat.lt_of_lt_of_le (K.lt p hp) hch.size⟩ ?_ (fun _ _ => rfl)
      (fun k b' o' hk hkl hmk => gf.fresh k b' o' hk (by rw [(e k).1] at hkl; exact hkl) hmk) (fun k p hk hx' => gf.win k p hk ((hXid k p).1 hx'))
    · rw [(e k).2.2.2.2.1]; rw [(e k).1] at hk; exact K.alive k hk
    · rw [(e k).1] at hk
      by_cases hki : k = id
      · subst hki
        rcases K.real k hlive1 with ⟨q1, q2⟩ | ⟨b, o, cs0, q1, q2, q3, q4⟩
        · refine .inl ⟨q1, ?_⟩
          have : (upd h1 k { st.hp k with cells := splice (st.hp k).cells off cs } k).cells.length = 0 := by rw [(e k).2.2.2.1, q2]; rfl
          exact List.eq_nil_of_length_eq_zero this
        · obtain ⟨cs1, r1, r2⟩ := hch.shp b cs0 _ _ q2
          refine .inr ⟨b, o, cs1, q1, by rw [(e k).2.2.2.2.2]; exact r1, by rw [(e k).2.2.2.1, r2]; exact q3, fun i y hy => ?_⟩
          rw [upd_same] at hy
          simp only at hy
          rw [splice_get _ _ _ (by rw [hlen, Bn]; exact hwin)] at hy
          by_cases c1 : off ≤ i ∧ i < off + cs.length
          · rw [if_neg (by omega), if_pos c1.2] at hy
            rcases hheap.real 0 (by rw [ofL_one]; exact Bl) with ⟨z1, _⟩ | ⟨b2, o2, cs2, z1, z2, z3, z4⟩
            · rw [hm0, m0_some off q1] at z1; cases z1
            · rw [hm0, m0_some off q1] at z1
              injection z1 with z1; injection z1 with z5 z6; subst z5 z6
              have : cs2 = cs1 := by rw [r1] at z2; injection z2 with z2; injection z2 with z7; exact z7.symm
              subst this
              obtain ⟨u, u1, u2, u3⟩ := z4 (i - off) y (by rw [ofL_one, if_pos rfl]; exact hy)
              exact ⟨u, by rw [show o + i = o + off + (i - off) by omega]; exact u1, u2, hback (hcf y (List.mem_of_getElem? hy)) u3⟩
          · have hy' : (h1 k).cells[i]? = some y := by
              rw [hid1]
              by_cases c2 : i < off
              · rw [if_pos c2] at hy; exact hy
              · rw [if_neg c2, if_neg (by omega)] at hy; exact hy
            obtain ⟨u, u1, u2, u3⟩ := q4 i y hy'
            refine ⟨u, ?_, u2, hmono u3⟩
            have hc' := hcell ⟨b, o + i, none⟩ u (by rw [cell_row q2]; exact u1) (fun ⟨b', o', w1, w2, w3, w4⟩ => by
              rw [q1] at w1; injection w1 with w1; injection w1 with w5 w6; subst w5 w6
              simp only at w3 w4
              omega)
            rw [cell_row r1] at hc'
            exact hc'
      · rw [upd_ne _ _ hki]
        rcases K.real k hk with q1 | ⟨b, o, cs0, q1, q2, q3, q4⟩
        · exact .inl q1
        · refine .inr ⟨b, o, cs0, q1, ?_, q3, fun i y hy => ?_⟩
          · rw [hblk b (Array.getElem?_eq_some_iff.1 q2).1 (fun o' ⟨b', o2, w1, w2, _, _⟩ => by
              simp only at w2; subst w2
              exact halone k b o o2 hki hk w1 q1)]
            exact q2
          · obtain ⟨u, u1, u2, u3⟩ := q4 i y hy
            exact ⟨u, u1, u2, hmono u3⟩
    · rw [(e k).1] at hk; rw [(e q).1] at hq
      rw [(e k).2.1, (e q).2.1, (e k).2.2.1, (e q).2.2.1, (e k).2.2.2.1, (e q).2.2.2.1]
      exact K.sep k q bi oi oj hkj hk hq mk mj
    · rw [(e k).1] at hk
      rw [(e k).2.2.1, (e k).2.2.2.1] at hr
      exact K.out k b' o' off' hk hmk hr
    · have c := gf.chg
      by_cases hid : id < C.n0
      · refine ⟨hch.os.trans c.os, hch.tape.trans c.tape, hch.output.trans c.output, Nat.le_trans c.size hch.size, c.shp.trans hch.shp, fun p u hp hx => ?_, fun i hi hx => ?_⟩
        · exact hcell p u (c.cell p u hp hx) (fun h => hx (gf.win id p hid (WinX p h)))
        · exact (hblk i (Nat.lt_of_lt_of_le hi c.size) (fun o' h => hx o' (gf.win id _ hid (WinX _ h)))).trans (c.blk i hi hx)
      · have hbig : ∀ p, Win p → C.w0.heap.size ≤ p.block := fun p ⟨b, o, w1, w2, _, _⟩ => by rw [w2]; exact gf.fresh id b o (by omega) hlive1 w1
        refine ⟨hch.os.trans c.os, hch.tape.trans c.tape, hch.output.trans c.output, Nat.le_trans c.size hch.size, c.shp.trans hch.shp, fun p u hp hx => ?_, fun i hi hx => ?_⟩
        · exact hcell p u (c.cell p u hp hx) (fun h => by have := hbig p h; have := World.block_lt_of_cell? _ _ hp; omega)
        · exact (hblk i (Nat.lt_of_lt_of_le hi c.size) (fun o' h => by have := hbig _ h; simp only at this; omega)).trans (c.blk i hi hx)

end Go.Proofs.YtfmebdmgnmogaaaGreatDoor.Hv
namespace Go.Proofs.YtfmebdmgnmogaaaGreatDoor.Hv
open Go Go.RowKit

variable {C : Ctx} {st : HS} {m : Mp} {a : Act} {w : World}

theorem Pass.wanted (g : Good C st m a w) {ops : Array Oper} {o : Oper} {b : Bool} (h : Pass ops o st.fr b) : Region.wanted o (yielded ops a.tmps) = b := by
  have key : ∀ (d : Tmp) (v : Value), st.fr d = .raw v → a.tmps.getD d undef = v := fun d v e => by
    have := g.fr d
    rw [e] at this
    cases this
    rfl
  have ykey : ∀ (j : Nat) (d : Tmp) (v : Value), (ops[j]?).bind (·.dst) = some d → st.fr d = .raw v → yielded ops a.tmps j = match v with | .bool b => some b | _ => none := by
    intro j d v hd hv
    have := key d v hv
    unfold yielded
    rw [hd]
    simp only [Option.bind_some]
    cases hq : a.tmps[d]? with
    | none =>
      simp only [Array.getD_eq_getD_getElem?, hq, Option.getD_none] at this
      rw [← this]; rfl
    | some u =>
      simp only [Array.getD_eq_getD_getElem?, hq, Option.getD_some] at this
      subst this
      cases u <;> rfl
  unfold Region.wanted
  cases h with
  | free h => rw [h]
  | yes j want d h1 h2 h3 => rw [h1]; simp only; rw [ykey j d _ h2 h3]; simp
  | no j want d v h1 h2 h3 h4 =>
    rw [h1]; simp only; rw [ykey j d _ h2 h3]
    cases v <;> simp_all

theorem run_call {P : Program} {o : Oper} {c : Call} {f : FuncId} (hop : o.op = .call c) (hcal : c.callee = .value (.func f)) (hc : callable P f) (a : Act) (w : World) :
    (execOp a.eval o).run P w = .ok (.enter f (c.args.map a.eval)) w := by
  obtain ⟨fn, h1, h2, h3⟩ := hc
  have h2' : ¬ fn.name = "runtime.NumGoroutine" := by simpa using h2
  have h3' : ¬ fn.body = none := by intro e; rw [e] at h3; cases h3
  simp [execOp, hop, resolve, hcal, Act.eval, Deferred.ofValue, invoke, callFunc, h1, h2', h3']

/-- A step, on the machine. -/
theorem op_sound (g : Good C st m a w) {Γ : FuncId → Option Nat} {ops : Array Oper} {i : Nat} (hn : C.n0 ≤ i) {o : Oper} {x : HV} {wr : List (Nat × HBlk)} {ft : Foot} (hs : StepG C.P Γ ops i o st x wr ft) (hd : dOK o.dst st.nt)
    {K : Act → World → Prop} {Q : Exit → Act → World → Prop} (hK : ∀ m' a' w', Good C (st.app o.dst x wr) m' a' w' → K a' w') :
    if Region.wanted o (yielded ops a.tmps) then o.wp C.P a w K Q ∨ (o.asks C.P a w ∧ LetsOut Q) else K (a.put o.dst undef) w := by
  rcases hs with ⟨hp, E, h1, h2, rfl, h3⟩ | ⟨hp, rfl, rfl, rfl⟩
  · rw [hp.wanted g]
    simp only [if_true]
    refine .inl ?_
    unfold Oper.wp
    split at h3 <;> rename_i hres
    · obtain ⟨rfl, rfl⟩ := h3
      obtain ⟨v', w', m', hrun, hg, hrep⟩ := exec_sound g hn h1 h2 hres
      rcases hrun with hrun | ⟨hrun, rfl⟩
      · rw [hrun]
        exact hK m' _ _ (hg.put o.dst hd hrep)
      · rw [hrun]
        exact hK m' _ _ (hg.put o.dst hd hrep)
    · rename_i f args wr'
      obtain ⟨hc, rfl⟩ := h3
      rcases opEff_val h1 with ⟨y, wy, e⟩ | ⟨c, f', hop, hcal, heff⟩
      · rw [e] at hres; cases hres
      · unfold effCall at heff
        split at heff
        · rename_i hΓ
          simp only [Option.some.injEq] at heff
          subst heff
          simp only [Res.call.injEq] at hres
          obtain ⟨rfl, rfl, rfl⟩ := hres
          rw [run_call hop hcal hc.1, Oper.upon_enter]
          have hl : ((c.args.toList.map a.eval).length = (c.args.toList.map (ev st.fr)).length) := by simp
          have hr : ∀ (j : Nat) (x : HV) (v : Value), (c.args.toList.map (ev st.fr))[j]? = some x → (c.args.toList.map a.eval)[j]? = some v → R C st m w x v := fun j x v h1 h2 => by
            simp only [List.getElem?_map, Option.map_eq_some_iff] at h1 h2
            obtain ⟨y, hy, rfl⟩ := h1
            obtain ⟨y', hy', rfl⟩ := h2
            rw [hy] at hy'; injection hy' with hy'; subst hy'
            exact g.ev y
          have := call_sound g hl hr h2 hc
          have e : (c.args.toList.map a.eval).toArray = c.args.map a.eval := by simp [← Array.toList_map]
          rw [e] at this
          refine this.mono ?_
          rintro e w' ⟨v, rfl, hg, hrep⟩
          exact hK m _ _ (hg.put o.dst hd hrep)
        · split at heff
          · simp only [Option.some.injEq] at heff; subst heff; cases hres
          · cases heff
    · rename_i f bid boff b args wr'
      obtain ⟨cs, hc, ⟨hlen, hcf, hxf⟩, rfl⟩ := h3
      rcases opEff_val h1 with ⟨y, wy, e⟩ | ⟨c, f', hop, hcal, heff⟩
      · rw [e] at hres; cases hres
      · unfold effCall at heff
        split at heff
        · simp only [Option.some.injEq] at heff; subst heff; cases hres
        · rename_i j hΓ
          split at heff
          · rename_i id off n full hj
            simp only [Option.some.injEq] at heff
            subst heff
            simp only [Res.callB.injEq] at hres
            obtain ⟨rfl, rfl, rfl, rfl, rfl, rfl⟩ := hres
            obtain ⟨s1, s2, s3, s4, s5, s6⟩ := h2
            rw [run_call hop hcal hc.1, Oper.upon_enter]
            have hl : ((c.args.toList.map a.eval).length = (c.args.toList.map (ev st.fr)).length) := by simp
            have hr : ∀ (j : Nat) (x : HV) (v : Value), (c.args.toList.map (ev st.fr))[j]? = some x → (c.args.toList.map a.eval)[j]? = some v → R C st m w x v := fun j x v h1 h2 => by
              simp only [List.getElem?_map, Option.map_eq_some_iff] at h1 h2
              obtain ⟨y, hy, rfl⟩ := h1
              obtain ⟨y', hy', rfl⟩ := h2
              rw [hy] at hy'; injection hy' with hy'; subst hy'
              exact g.ev y
            have := callB_sound g hl hr hj s1 s2 s3 s4 s5 s6 hc hlen hcf
            have e : (c.args.toList.map a.eval).toArray = c.args.map a.eval := by simp [← Array.toList_map]
            rw [e] at this
            refine this.mono ?_
            rintro e w' ⟨v, rfl, hg, hrep⟩
            exact hK m _ _ (hg.put o.dst hd (hrep hxf))
          · cases heff
  · rw [hp.wanted g]
    simp only [Bool.false_eq_true, if_false]
    exact hK m _ _ (g.put o.dst hd (.raw undef))

/-! ### Regions -/
def hwp (C : Ctx) (c : Code) (Q : Exit → HS → Prop) (st : HS) : Prop :=
  ∀ m a w, Good C st m a w → c.wp C.P (fun e a' w' => ∃ st' m', Q e st' ∧ Good C st' m' a' w') a w

theorem Good.nxs (g : Good C st m a w) {n : Nat} (h : st.nx ≤ n) : Good C { st with nx := n } m a w :=
  ⟨g.defers, g.nt, g.fr, g.heap, g.chg, g.base, g.fresh, g.win, g.xo, g.bnd, Nat.le_trans g.nx h, g.g0⟩

theorem ops_sound {Γ : FuncId → Option Nat} {ops : Array Oper} {base : Nat} {Q : HS → Prop} {Q' : Exit → Act → World → Prop} (hn : C.n0 ≤ base) (hQ : ∀ st m a w, Q st → Good C st m a w → Q' .normal a w) :
    ∀ (l : List Oper) (k : Nat) (G : List (Nat × Option Tmp)) (L : List (Nat × Foot)) (st : HS) (m : Mp) (a : Act) (w : World), (∀ j, l[j]? = ops[k + j]?) → GOK ops G → vcOps C.P Γ ops base false k l G L st Q → Good C st m a w → wpOps C.P ops Q' (List.range' k l.length) a w
  | [], k, G, L, st, m, a, w, _, _, h, g => by simp only [List.length_nil, List.range'_zero, wpOps]; exact hQ st m a w h g
  | o :: l, k, G, L, st, m, a, w, hl, hG, h, g => by
    have h0 : ops[k]? = some o := by simpa using (hl 0).symm
    simp only [vcOps] at h
    obtain ⟨x, wr, ft, h1, h2, h3, h4⟩ := vcG_step hG h
    have := op_sound g (i := base + 4 * k) (by omega) h1 h2 (K := wpOps C.P ops Q' (List.range' (k + 1) l.length)) (Q := Q') (fun m' a' w' g' =>
      ops_sound hn hQ l (k + 1) _ _ _ m' a' w' (fun j => by have := hl (j + 1); simpa [Nat.add_assoc, Nat.add_comm 1 j] using this) (hG.step h0) h4 g')
    simp only [List.length_cons, List.range'_succ, wpOps, h0]
    exact this

theorem anyV_sound {Γ : FuncId → Option Nat} {ops : Array Oper} {base : Nat} {Q : HS → Prop} {Q' : Exit → Act → World → Prop} (hn : C.n0 ≤ base) (hQ : ∀ st m a w, Q st → Good C st m a w → Q' .normal a w) :
    ∀ (fuel : Nat) (listed : Array Bool) (L : Nat → Option Foot) (st : HS) (m : Mp) (a : Act) (w : World), anyV C.P Γ ops base Q fuel listed L st → Good C st m a w → wpAny C.P .any ops Q' fuel listed a w
  | 0, listed, L, st, m, a, w, h, g => ⟨h.1, hQ st m a w h.2 g⟩
  | fuel + 1, listed, L, st, m, a, w, h, g => by
    refine ⟨fun h0 => hQ st m a w (h.1 h0) g, fun j hj => ?_⟩
    obtain ⟨o, ho, x, wr, ft, h1, h2, _, h4⟩ := h.2 j hj
    have := op_sound g (i := base + 4 * j) (by omega) h1 h2 (K := wpAny C.P .any ops Q' fuel (listed.setIfInBounds j true)) (Q := Q') (fun m' a' w' g' => anyV_sound hn hQ fuel _ _ _ m' a' w' h4 g')
    unfold wpOp
    rw [ho]
    exact this

def HS.adv (st : HS) (n : Nat) : HS := { st with nx := st.nx + n }

theorem hwp_region {Γ : FuncId → Option Nat} {id : Nat} {ops : Array Oper} {draw : Bool} {Q : Exit → HS → Prop} (hm : draw = true → C.P.follows .mixedOrders = true ∧ Region.lexB .any ops = true)
    (h : vcOps C.P Γ ops st.nx draw 0 ops.toList [] [] (st.adv (4 * ops.size)) (fun st' => Q .normal st')) : hwp C (.region id ops draw) Q st := by
  intro m a w g
  have g' := g.nxs (n := st.nx + 4 * ops.size) (by omega)
  cases draw with
  | false =>
    refine wp_region ?_
    have := ops_sound (C := C) (Q := fun st' => Q .normal st') (Q' := fun e a' w' => ∃ st' m', Q e st' ∧ Good C st' m' a' w') g.nx (fun st m a w hq hg => ⟨st, m, hq, hg⟩) ops.toList 0 [] [] (st.adv (4 * ops.size)) m a w (by simp) (GOK.nil ops) h g'
    rw [Array.length_toList] at this
    rw [List.range_eq_range']
    exact this
  | true =>
    obtain ⟨h1, h2⟩ := hm rfl
    refine wp_region_any h1 ?_
    simp only [Region.lexB, Bool.and_eq_true] at h2
    have hlex := anyV_lex (P := C.P) (Γ := Γ) (ops := ops) (base := st.nx) (Q := fun st' => Q .normal st') ops.toList 0 (Array.replicate ops.size false) [] [] (st.adv (4 * ops.size)) (by simp) (by simpa using h2.2)
      (fun k hk n i _ => by
        simp only [Array.getD_eq_getD_getElem?] at hk
        by_cases hlt : k < ops.size
        · simp [hlt] at hk
        · simp [hlt] at hk) (GOK.nil ops) (by simp) h
    have hs := anyV_sound (C := C) (Q' := fun e a' w' => ∃ st' m', Q e st' ∧ Good C st' m' a' w') g.nx (fun st m a w hq hg => ⟨st, m, hq, hg⟩) _ _ _ _ m a w.drew hlex g'.drew
    rw [Array.length_toList] at hs
    exact hs

end Go.Proofs.YtfmebdmgnmogaaaGreatDoor.Hv
