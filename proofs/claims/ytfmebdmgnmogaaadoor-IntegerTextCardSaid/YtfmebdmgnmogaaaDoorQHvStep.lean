/- One step over abstract values: what it needs and what it touches; two steps apart may be exchanged. No statement of its own. -/
import Derived.Test.YtfmebdmgnmogaaaDoorQHvSnd5
namespace Go.Proofs.YtfmebdmgnmogaaaDoor.Hv
open Go Go.RowKit

def ofL (l : List HBlk) : Hp := fun id => l.getD id {}

/-- A function with a body. -/
def callable (P : Program) (f : FuncId) : Prop := ∃ fn, P.funcs[f]? = some fn ∧ (fn.name == "runtime.NumGoroutine") = false ∧ fn.body.isNone = false

/-- A call of function f at arguments that read as args (blocks hp0 being handed over for writing) returns what reads as r; the blocks then hold hx. -/
def HCallsD (P : Program) (f : FuncId) (hp0 : List HBlk) (args : List HV) (r : HV) (hx : List HBlk) : Prop := callable P f ∧
  ∀ (X : AP) (m : Mp) (w : World) (vs : List Value), vs.length = args.length → (∀ p, X p → p.block < w.heap.size) → HeapOK w X m (ofL hp0) →
    (GW w ∧ ∀ id p, Xid m (ofL hp0) id p → ∀ v, ¬ gl p v) →
    (∀ (j : Nat) (x : HV) (v : Value), args[j]? = some x → vs[j]? = some v → Rep w (Xt X m (ofL hp0)) m (ofL hp0) x v) →
    Calls P f vs.toArray w fun e w' => ∃ v m', e = .returned v ∧ (∀ id, id < hp0.length → m' id = m id) ∧ HeapOK w' X m' (ofL hx) ∧ Rep w' (Xt X m' (ofL hx)) m' (ofL hx) r v ∧
      Chg (fun p => ∃ id, Xid m (ofL hp0) id p) w w'

structure Foot where
  rd : List Nat
  wr : List Nat
def Foot.apart (f g : Foot) : Bool := f.wr.all (fun i => !g.rd.contains i && !g.wr.contains i) && g.wr.all (fun i => !f.rd.contains i)

def HS.app (st : HS) (d : Option Tmp) (x : HV) (wr : List (Nat × HBlk)) : HS := { st with fr := updO st.fr d x, hp := setAll st.hp wr }

def backB (hp : Hp) (bid boff : Nat) (cs : List HV) : Nat × HBlk := (bid, { hp bid with cells := splice (hp bid).cells boff cs })

/-- What one operation does. -/
def Does (P : Program) (Γ : FuncId → Option Nat) (i : Nat) (op : Op) (fr : Nat → HV) (hp : Hp) (x : HV) (wr : List (Nat × HBlk)) (ft : Foot) : Prop :=
  ∃ E, opEff P Γ i op fr hp = some E ∧ E.side ∧ ft = ⟨E.rd, E.wr⟩ ∧
    match E.res with
    | .val x' wr' => x = x' ∧ wr = wr'
    | .call f args wr' => HCallsD P f [] args x [] ∧ wr = wr'
    | .callB f bid boff b args wr' => ∃ cs, HCallsD P f [b] args x [{ b with cells := cs }] ∧ (cs.length = b.cells.length ∧ (∀ c ∈ cs, c.flat = true) ∧ x.flat = true) ∧ wr = wr' ++ [backB hp bid boff cs]

def vcOp (P : Program) (Γ : FuncId → Option Nat) (i : Nat) (op : Op) (dst : Option Tmp) (st : HS) (K : HS → Foot → Prop) : Prop :=
  match opEff P Γ i op st.fr st.hp with
  | none => False
  | some E => dOK dst st.nt ∧ E.side ∧
    match E.res with
    | .val x wr => K (st.app dst x wr) ⟨E.rd, E.wr⟩
    | .call f args wr => ∃ x, HCallsD P f [] args x [] ∧ K (st.app dst x wr) ⟨E.rd, E.wr⟩
    | .callB f bid boff b args wr => ∃ x cs, HCallsD P f [b] args x [{ b with cells := cs }] ∧ (cs.length = b.cells.length ∧ (∀ c ∈ cs, c.flat = true) ∧ x.flat = true) ∧ K (st.app dst x (wr ++ [backB st.hp bid boff cs])) ⟨E.rd, E.wr⟩

theorem vcOp_does {P : Program} {Γ : FuncId → Option Nat} {i : Nat} {op : Op} {dst : Option Tmp} {st : HS} {K : HS → Foot → Prop} (h : vcOp P Γ i op dst st K) :
    ∃ x wr ft, Does P Γ i op st.fr st.hp x wr ft ∧ dOK dst st.nt ∧ K (st.app dst x wr) ft := by
  unfold vcOp at h
  split at h
  · exact h.elim
  · rename_i E he
    obtain ⟨hd, hs, h⟩ := h
    split at h
    · rename_i x wr hr
      exact ⟨x, wr, _, ⟨E, he, hs, rfl, by rw [hr]; exact ⟨rfl, rfl⟩⟩, hd, h⟩
    · rename_i f args wr hr
      obtain ⟨x, hc, h⟩ := h
      exact ⟨x, wr, _, ⟨E, he, hs, rfl, by rw [hr]; exact ⟨hc, rfl⟩⟩, hd, h⟩
    · rename_i f bid boff b args wr hr
      obtain ⟨x, b', hc, hl, h⟩ := h
      exact ⟨x, _, _, ⟨E, he, hs, rfl, by rw [hr]; exact ⟨b', hc, hl, rfl⟩⟩, hd, h⟩

/-! ### An operation sees its operands and the blocks that it names -/
theorem nb_local {i : Nat} {hp hp' : Hp} {p : Prop} {v : HV} {b : HBlk} {E : Eff} (h : nb i hp p v b = some E) (hr : ∀ id ∈ E.rd, hp' id = hp id) : nb i hp' p v b = some E := by
  simp only [nb, Option.some.injEq] at h ⊢
  subst h
  rw [hr i (by simp)]

theorem load_local {P : Program} {t : TypeId} {x : HV} {hp hp' : Hp} {E : Eff} (h : effLoad P t x hp = some E) (hr : ∀ id ∈ E.rd, hp' id = hp id) : effLoad P t x hp' = some E := by
  unfold effLoad at h ⊢
  split at h
  · rename_i ag sz id off _ 
    simp only [Option.some.injEq] at h ⊢
    subst h
    rw [hr id (by simp)]
  · exact h
  · cases h
theorem store_local {P : Program} {t : TypeId} {x y : HV} {hp hp' : Hp} {E : Eff} (h : effStore P t x y hp = some E) (hr : ∀ id ∈ E.rd, hp' id = hp id) : effStore P t x y hp' = some E := by
  unfold effStore at h ⊢
  split at h
  · rename_i ag sz id off _
    simp only [Option.some.injEq] at h ⊢
    subst h
    rw [hr id (by simp)]
  · cases h
theorem slice_local {P : Program} {t : TypeId} {x : HV} {lo hi mx : Option HV} {hp hp' : Hp} {E : Eff} (h : effSlice P t x lo hi mx hp = some E) (hr : ∀ id ∈ E.rd, hp' id = hp id) : effSlice P t x lo hi mx hp' = some E := by
  unfold effSlice at h ⊢
  split at h
  · rename_i id off n full
    split at h
    · simp only [Option.some.injEq] at h ⊢
      subst h
      rw [hr id (by simp)]
    · cases h
  · exact h
  · exact h
  · cases h
theorem news_local {hp hp' : Hp} {y : HV} {rd : List Nat} {k : Nat} {p : Prop} {news : List HV} (h : newsOf hp y = some (rd, k, p, news)) (hr : ∀ id ∈ rd, hp' id = hp id) : newsOf hp' y = some (rd, k, p, news) := by
  unfold newsOf at h ⊢
  split at h
  · exact h
  · rename_i id off k' full
    simp only [Option.some.injEq, Prod.mk.injEq] at h ⊢
    obtain ⟨rfl, rfl, rfl, rfl⟩ := h
    rw [hr id (by simp)]
    exact ⟨rfl, rfl, rfl, rfl⟩
  · cases h
theorem append_local {P : Program} {i : Nat} {t t' : TypeId} {x y : HV} {hp hp' : Hp} {E : Eff} (h : effAppend P i hp t t' x y = some E) (hr : ∀ id ∈ E.rd, hp' id = hp id) : effAppend P i hp' t t' x y = some E := by
  unfold effAppend at h
  split at h
  · rename_i e sz by_ rd k p news hel hn
    unfold effAppend
    split at h
    · rename_i id off n full
      simp only [Option.some.injEq] at h
      subst h
      simp only [List.mem_cons] at hr
      rw [hel, news_local hn (fun q hq => hr q (.inr (.inr hq)))]
      simp only [Option.some.injEq]
      rw [hr i (.inl rfl), hr id (.inr (.inl rfl))]
    · rename_i n full cells
      simp only [Option.some.injEq] at h
      subst h
      simp only [List.mem_cons] at hr
      rw [hel, news_local hn (fun q hq => hr q (.inr hq))]
      simp only [Option.some.injEq]
      rw [hr i (.inl rfl)]
    · cases h
  · cases h
theorem fz1_local {hp hp' : Hp} {x : HV} (h : ∀ id ∈ id1 x, hp' id = hp id) : fz1 hp' x = fz1 hp x ∧ (ok1 hp' x ↔ ok1 hp x) := by
  cases x with
  | own id off n full => have := h id (by simp [id1]); simp [fz1, ok1, this]
  | _ => exact ⟨rfl, Iff.rfl⟩
theorem fz_local {hp hp' : Hp} {x : HV} (h : ∀ id ∈ ids x, hp' id = hp id) : fz hp' x = fz hp x ∧ (okz hp' x ↔ okz hp x) := by
  cases x with
  | agg cs =>
    simp only [ids, List.mem_flatMap] at h
    refine ⟨?_, ?_⟩
    · simp only [fz]
      congr 1
      exact List.map_congr_left fun c hc => (fz1_local fun id hid => h id ⟨c, hc, hid⟩).1
    · simp only [okz]
      constructor <;> intro k c hc
      · exact (fz1_local fun id hid => h id ⟨c, hc, hid⟩).2.1 (k c hc)
      · exact (fz1_local fun id hid => h id ⟨c, hc, hid⟩).2.2 (k c hc)
  | own id off n full => have := fz1_local (x := .own id off n full) h; exact this
  | _ => exact ⟨rfl, Iff.rfl⟩
theorem offs_local {hp hp' : Hp} {l : List Nat} (h : ∀ id ∈ l, hp' id = hp id) : offs hp' l = offs hp l := by
  unfold offs
  exact List.map_congr_left fun id hid => by rw [h id hid]
theorem call_local {Γ : FuncId → Option Nat} {f : FuncId} {args : List HV} {hp hp' : Hp} {E : Eff} (h : effCall Γ f args hp = some E) (hr : ∀ id ∈ E.rd, hp' id = hp id) : effCall Γ f args hp' = some E := by
  unfold effCall at h
  split at h
  · rename_i hΓ
    unfold effCall
    rw [hΓ]
    simp only [Option.some.injEq] at h ⊢
    subst h
    simp only [List.mem_flatMap] at hr
    have e1 : args.map (fzn hp') = args.map (fzn hp) := List.map_congr_left fun x hx => congrArg nf (fz_local fun id hid => hr id ⟨x, hx, hid⟩).1
    have e2 : (∀ x ∈ args, okz hp' x) = (∀ x ∈ args, okz hp x) := propext ⟨fun k x hx => (fz_local fun id hid => hr id ⟨x, hx, hid⟩).2.1 (k x hx), fun k x hx => (fz_local fun id hid => hr id ⟨x, hx, hid⟩).2.2 (k x hx)⟩
    have e3 : offs hp' (args.flatMap ids) = offs hp (args.flatMap ids) := offs_local fun id hid => hr id (by simpa using hid)
    rw [e1, e2, e3]
  · rename_i j hΓ
    unfold effCall
    rw [hΓ]
    simp only
    split at h
    · rename_i id off n full ha
      simp only [Option.some.injEq] at h
      subst h
      simp only [List.mem_cons] at hr
      have hr' : ∀ q ∈ (args.set j (.raw (.bool true))).flatMap ids, hp' q = hp q := fun q hq => hr q (.inr hq)
      simp only [List.mem_flatMap] at hr'
      have e0 := hr id (.inl rfl)
      have e1 : (args.set j (.raw (.bool true))).map (fzn hp') = (args.set j (.raw (.bool true))).map (fzn hp) := List.map_congr_left fun x hx => congrArg nf (fz_local fun id hid => hr' id ⟨x, hx, hid⟩).1
      have e2 : (∀ x ∈ args.set j (.raw (.bool true)), okz hp' x) = (∀ x ∈ args.set j (.raw (.bool true)), okz hp x) :=
        propext ⟨fun k x hx => (fz_local fun id hid => hr' id ⟨x, hx, hid⟩).2.1 (k x hx), fun k x hx => (fz_local fun id hid => hr' id ⟨x, hx, hid⟩).2.2 (k x hx)⟩
      have e3 : offs hp' ((args.set j (.raw (.bool true))).flatMap ids) = offs hp ((args.set j (.raw (.bool true))).flatMap ids) := offs_local fun id hid => hr id (.inr hid)
      simp only [e0, e1, e2, e3]
    · cases h

theorem opEff_local {P : Program} {Γ : FuncId → Option Nat} {i : Nat} {op : Op} {fr fr' : Nat → HV} {hp hp' : Hp} {E : Eff} (h : opEff P Γ i op fr hp = some E)
    (hf : ∀ x ∈ op.operands, ev fr' x = ev fr x) (hr : ∀ id ∈ E.rd, hp' id = hp id) : opEff P Γ i op fr' hp' = some E := by
  cases op
  case move x => simpa [opEff, hf x (by simp [Op.operands])] using h
  case assign x => simpa [opEff, hf x (by simp [Op.operands])] using h
  case pick c a b => simpa [opEff, hf c (by simp [Op.operands]), hf a (by simp [Op.operands]), hf b (by simp [Op.operands])] using h
  case alloc t =>
    simp only [opEff] at h ⊢
    unfold effAlloc at h ⊢
    split at h
    · exact nb_local h hr
    · cases h
  case box t x =>
    simp only [opEff, effBox, hf x (by simp [Op.operands])] at h ⊢
    exact nb_local h hr
  case build t parts =>
    have e : (parts.toList.map fun p => (p.1, ev fr' p.2)) = parts.toList.map fun p => (p.1, ev fr p.2) := List.map_congr_left fun p hp => by
      rw [hf p.2 (by simp only [Op.operands, List.mem_toArray, List.mem_map]; exact ⟨p, hp, rfl⟩)]
    simpa [opEff, e] using h
  case buildSlice t n parts =>
    have e : (parts.toList.map fun p => (p.1, ev fr' p.2)) = parts.toList.map fun p => (p.1, ev fr p.2) := List.map_congr_left fun p hp => by
      rw [hf p.2 (by simp only [Op.operands, List.mem_toArray, List.mem_map]; exact ⟨p, hp, rfl⟩)]
    simp only [opEff, e] at h ⊢
    unfold effBuildSlice at h ⊢
    split at h
    · split at h
      · split at h
        · exact nb_local h hr
        · cases h
      · cases h
    · cases h
  case load t x =>
    simp only [opEff, hf x (by simp [Op.operands])] at h ⊢
    exact load_local h hr
  case store t x y =>
    simp only [opEff, hf x (by simp [Op.operands]), hf y (by simp [Op.operands])] at h ⊢
    exact store_local h hr
  case nilCheck x => simpa [opEff, hf x (by simp [Op.operands])] using h
  case binOp op t x y t' => simpa [opEff, hf x (by simp [Op.operands]), hf y (by simp [Op.operands])] using h
  case unOp op t x => simpa [opEff, hf x (by simp [Op.operands])] using h
  case convert s t x => simpa [opEff, hf x (by simp [Op.operands])] using h
  case makeSlice t l c =>
    simp only [opEff, hf l (by simp [Op.operands]), hf c (by simp [Op.operands])] at h ⊢
    unfold effMake at h ⊢
    split at h
    · split at h
      · exact nb_local h hr
      · cases h
    · cases h
  case slice t x lo hi mx =>
    have el : ∀ (o : Option Operand), (∀ y, o = some y → ev fr' y = ev fr y) → o.map (ev fr') = o.map (ev fr) := fun o ho => by cases o with
      | none => rfl
      | some y => simp [ho y rfl]
    simp only [opEff, hf x (by simp [Op.operands]), el lo (fun y hy => hf y (by subst hy; simp [Op.operands])), el hi (fun y hy => hf y (by subst hy; simp [Op.operands])), el mx (fun y hy => hf y (by subst hy; simp [Op.operands]))] at h ⊢
    exact slice_local h hr
  case fieldAddr s x f => simpa [opEff, hf x (by simp [Op.operands])] using h
  case field s x f => simpa [opEff, hf x (by simp [Op.operands])] using h
  case indexAddr t x ix => simpa [opEff, hf x (by simp [Op.operands]), hf ix (by simp [Op.operands])] using h
  case index t x ix => simpa [opEff, hf x (by simp [Op.operands]), hf ix (by simp [Op.operands])] using h
  case extract x k => simpa [opEff, hf x (by simp [Op.operands])] using h
  case call c =>
    have e : c.args.toList.map (ev fr') = c.args.toList.map (ev fr) := List.map_congr_left fun x hx => hf x (by
      simp only [Op.operands, Call.operands, Array.mem_append]
      exact .inr (by simpa using hx))
    simp only [opEff, e] at h ⊢
    split at h
    · unfold effBuiltin at h ⊢
      split at h
      · exact h
      · exact append_local h hr
      · exact h
      · cases h
    · exact call_local h hr
    · cases h
  all_goals (simp only [opEff] at h; cases h)

theorem Does.local {P : Program} {Γ : FuncId → Option Nat} {i : Nat} {op : Op} {fr fr' : Nat → HV} {hp hp' : Hp} {x : HV} {wr : List (Nat × HBlk)} {ft : Foot} (h : Does P Γ i op fr hp x wr ft)
    (hf : ∀ x ∈ op.operands, ev fr' x = ev fr x) (hr : ∀ id ∈ ft.rd, hp' id = hp id) (hb : ∀ f bid boff b args wr', (∃ E, opEff P Γ i op fr hp = some E ∧ E.res = .callB f bid boff b args wr') → bid ∈ ft.rd) : Does P Γ i op fr' hp' x wr ft := by
  obtain ⟨E, h1, h2, rfl, h3⟩ := h
  refine ⟨E, opEff_local h1 hf hr, h2, rfl, ?_⟩
  split at h3
  · exact h3
  · exact h3
  · rename_i f bid boff b args wr' e
    obtain ⟨b', k1, k2, k3⟩ := h3
    refine ⟨b', k1, k2, ?_⟩
    have := hr bid (hb f bid boff b args wr' ⟨E, h1, e⟩)
    rw [k3]
    unfold backB
    rw [this]

end Go.Proofs.YtfmebdmgnmogaaaDoor.Hv
