/- The machine does what a step over abstract values says. No statement of its own. -/
import Derived.Test.YtfmebdmgnmogaaaDoorQHvSwap
namespace Go.Proofs.YtfmebdmgnmogaaaDoor.Hv
open Go Go.RowKit

variable {C : Ctx} {st : HS} {m : Mp} {a : Act} {w : World}

theorem bop_list (g : Good C st m a w) (parts : Array (Nat × Operand)) : (parts.map fun p => (p.1, a.eval p.2)).toList.length = (parts.toList.map fun p => (p.1, ev st.fr p.2)).length ∧
    ∀ (j : Nat) (p : Nat × HV) (u : Nat × Value), (parts.toList.map fun p => (p.1, ev st.fr p.2))[j]? = some p → (parts.map fun p => (p.1, a.eval p.2)).toList[j]? = some u → u.1 = p.1 ∧ R C st m w p.2 u.2 := by
  refine ⟨by simp, fun j p u h1 h2 => ?_⟩
  simp only [List.getElem?_map, Option.map_eq_some_iff] at h1
  obtain ⟨q, hq, rfl⟩ := h1
  simp only [Array.toList_map, List.getElem?_map, hq, Option.map_some, Option.some.injEq] at h2
  subst h2
  exact ⟨rfl, g.ev q.2⟩

theorem opt_rel (g : Good C st m a w) (o : Option Operand) : RO C st m w (o.map (ev st.fr)) (o.map a.eval) := by
  cases o with
  | none => trivial
  | some x => exact g.ev x

theorem exec_sound (g : Good C st m a w) {Γ : FuncId → Option Nat} {i : Nat} (hn : C.n0 ≤ i) {o : Oper} {E : Eff} {x : HV} {wr : List (Nat × HBlk)} (he : opEff C.P Γ i o.op st.fr st.hp = some E) (hs : E.side) (hr : E.res = .val x wr) :
    Out C st a wr x ((execOp a.eval o).run C.P w) := by
  have pure_case : ∀ (y : Operand), pv (ev st.fr y) = some E → Out C st a wr x (.ok (.value (a.eval y)) w) := fun y h => by
    simp only [pv, Option.some.injEq] at h
    subst h
    simp only [Res.val.injEq] at hr
    obtain ⟨rfl, rfl⟩ := hr
    exact Out.pure g (g.ev y)
  cases hop : o.op
  case move y => rw [hop] at he; simp only [execOp, hop]; exact pure_case y he
  case assign y => rw [hop] at he; simp only [execOp, hop]; exact pure_case y he
  case pick c p q => rw [hop] at he; simp only [execOp, hop]; exact snd_pick g (g.ev c) (g.ev p) (g.ev q) he hr
  case alloc t => rw [hop] at he; simp only [execOp, hop]; exact snd_alloc g hn he hs hr
  case box t y => rw [hop] at he; simp only [execOp, hop]; exact snd_box g hn (g.ev y) he hs hr
  case build t parts =>
    rw [hop] at he; simp only [execOp, hop]
    obtain ⟨h1, h2⟩ := bop_list g parts
    exact snd_build g h1 h2 he hs hr
  case buildSlice t n parts =>
    rw [hop] at he; simp only [execOp, hop]
    obtain ⟨h1, h2⟩ := bop_list g parts
    exact snd_buildSlice g hn h1 h2 he hs hr
  case load t y => rw [hop] at he; simp only [execOp, hop]; exact snd_load g (g.ev y) he hs hr
  case store t p y => rw [hop] at he; simp only [execOp, hop]; exact snd_store g (g.ev p) (g.ev y) he hs hr
  case nilCheck y =>
    rw [hop] at he; simp only [execOp, hop]
    obtain ⟨p, e, h⟩ := snd_nil g (g.ev y) he hr
    rw [e] at h ⊢
    exact h
  case binOp op t p q t' =>
    rw [hop] at he
    simp only [opEff, Option.map_eq_some_iff] at he
    obtain ⟨E', h1, rfl⟩ := he
    simp only [execOp, hop]
    exact snd_bin g (g.ev p) (g.ev q) h1 hs.1 hs.2 hr
  case unOp op t y => rw [hop] at he; simp only [execOp, hop]; exact snd_un g (g.ev y) he hr
  case convert s t y => rw [hop] at he; simp only [execOp, hop]; exact snd_conv g (g.ev y) he hs hr
  case makeSlice t l c => rw [hop] at he; simp only [execOp, hop]; exact snd_make g hn (g.ev l) (g.ev c) he hs hr
  case slice t y lo hi mx => rw [hop] at he; simp only [execOp, hop]; exact snd_slice g (g.ev y) (opt_rel g lo) (opt_rel g hi) (opt_rel g mx) he hs hr
  case fieldAddr s y f => rw [hop] at he; simp only [execOp, hop]; exact snd_fieldAddr g (g.ev y) he hr
  case field s y f => rw [hop] at he; simp only [execOp, hop]; exact snd_field g (g.ev y) he hs hr
  case indexAddr t y ix => rw [hop] at he; simp only [execOp, hop]; exact snd_indexAddr g (g.ev y) (g.ev ix) he hs hr
  case index t y ix => rw [hop] at he; simp only [execOp, hop]; exact snd_index g (g.ev y) (g.ev ix) he hs hr
  case extract y k => rw [hop] at he; simp only [execOp, hop]; exact snd_extract g (g.ev y) he hs hr
  case call c =>
    rw [hop] at he
    simp only [opEff] at he
    split at he
    · rename_i b hcal
      have hres : (execOp a.eval o) = builtin b c.argTypes o.type (c.args.map fun | .const _ => true | _ => false) (c.args.map a.eval) := by
        simp only [execOp, hop, resolve, hcal]
        rfl
      rw [hres]
      unfold effBuiltin at he
      split at he
      · rename_i t y ht hy
        have e1 : c.argTypes = #[t] := by rw [← Array.toArray_toList (xs := c.argTypes), ht]
        obtain ⟨y', hy'⟩ : ∃ y', c.args.toList = [y'] := by
          cases hq : c.args.toList with
          | nil => rw [hq] at hy; cases hy
          | cons p r => cases r with
            | nil => exact ⟨p, rfl⟩
            | cons _ _ => rw [hq] at hy; cases hy
        rw [hy'] at hy
        simp only [List.map_cons, List.map_nil, List.cons.injEq, and_true] at hy
        subst hy
        have e2 : c.args.map a.eval = #[a.eval y'] := by rw [← Array.toArray_toList (xs := c.args), hy']; simp
        simp only [builtin, e1, e2]
        exact snd_len g (g.ev y') he hs hr
      · rename_i t t' y z ht hy
        have e1 : c.argTypes = #[t, t'] := by rw [← Array.toArray_toList (xs := c.argTypes), ht]
        obtain ⟨y', z', hy'⟩ : ∃ y' z', c.args.toList = [y', z'] := by
          cases hq : c.args.toList with
          | nil => rw [hq] at hy; cases hy
          | cons p r => cases r with
            | nil => rw [hq] at hy; cases hy
            | cons p' r => cases r with
              | nil => exact ⟨p, p', rfl⟩
              | cons _ _ => rw [hq] at hy; cases hy
        rw [hy'] at hy
        simp only [List.map_cons, List.map_nil, List.cons.injEq, and_true] at hy
        obtain ⟨rfl, rfl⟩ := hy
        have e2 : c.args.map a.eval = #[a.eval y', a.eval z'] := by rw [← Array.toArray_toList (xs := c.args), hy']; simp
        simp only [builtin, e1, e2]
        exact snd_append g hn (g.ev y') (g.ev z') he hs hr
      · rename_i t t' k y k' z ht hy
        obtain ⟨y', z', hy'⟩ : ∃ y' z', c.args.toList = [y', z'] := by
          cases hq : c.args.toList with
          | nil => rw [hq] at hy; exact absurd hy (by simp)
          | cons p r => cases r with
            | nil => rw [hq] at hy; exact absurd hy (by simp)
            | cons p' r => cases r with
              | nil => exact ⟨p, p', rfl⟩
              | cons _ _ => rw [hq] at hy; exact absurd hy (by simp)
        rw [hy'] at hy
        simp only [List.map_cons, List.map_nil, List.cons.injEq, and_true] at hy
        have e2 : c.args.map a.eval = #[a.eval y', a.eval z'] := by rw [← Array.toArray_toList (xs := c.args), hy']; simp
        have r1 := g.ev y'
        have r2 := g.ev z'
        rw [hy.1] at r1
        rw [hy.2] at r2
        simp only [pv, Option.some.injEq] at he
        subst he
        simp only [Res.val.injEq] at hr
        obtain ⟨rfl, rfl⟩ := hr
        generalize a.eval y' = u1 at r1 e2
        generalize a.eval z' = u2 at r2 e2
        cases r1
        cases r2
        simp only [builtin, e2]
        rw [run_v (run_max_int2 _ _ _ _ _ _ _)]
        exact Out.pure g (.raw _)
      · cases he
    · unfold effCall at he
      split at he
      · simp only [Option.some.injEq] at he; subst he; cases hr
      · split at he
        · simp only [Option.some.injEq] at he; subst he; cases hr
        · cases he
    · cases he
  all_goals (rw [hop] at he; simp only [opEff] at he; cases he)

/-! ### Rights given up before a call -/
def frz (hp : Hp) (l : List Nat) : Hp := fun id => if id ∈ l then { hp id with wb := false } else hp id
theorem frz_offs (hp : Hp) (l : List Nat) : setAll hp (offs hp l) = frz hp l := by
  funext id
  unfold frz
  by_cases h : id ∈ l
  · rw [if_pos h]
    have key : ∀ (l : List Nat) (h0 : Hp), id ∈ l → setAll h0 (offs hp l) id = { hp id with wb := false } := by
      intro l
      induction l with
      | nil => intro _ h; cases h
      | cons k l ih =>
        intro h0 hk
        by_cases hl : id ∈ l
        · exact ih _ hl
        · have hkk : id = k := (List.mem_cons.1 hk).elim (fun e => e) (fun e => absurd e hl)
          subst hkk
          have := setAll_not (hp := upd h0 id { hp id with wb := false }) (wr := offs hp l) (id := id) (fun p hp' e => by
            simp only [offs, List.mem_map] at hp'
            obtain ⟨q, hq, rfl⟩ := hp'
            exact hl (e ▸ hq))
          show setAll (upd h0 id { hp id with wb := false }) (offs hp l) id = _
          rw [this, upd_same]
    exact key l hp h
  · rw [if_neg h]
    exact setAll_not (fun p hp' e => by
      simp only [offs, List.mem_map] at hp'
      obtain ⟨q, hq, rfl⟩ := hp'
      exact h (e ▸ hq))

theorem Good.frz (g : Good C st m a w) (l : List Nat) : Good C { st with hp := frz st.hp l } m a w := by
  induction l with
  | nil =>
    have : Hv.frz st.hp [] = st.hp := by funext id; simp [Hv.frz]
    rw [this]; exact g
  | cons k l ih =>
    have := ih.freeze k
    have e : upd (Hv.frz st.hp l) k { Hv.frz st.hp l k with wb := false } = Hv.frz st.hp (k :: l) := by
      funext id
      simp only [upd_at, Hv.frz, List.mem_cons]
      by_cases h : id = k
      · subst h
        by_cases h2 : id ∈ l <;> simp [h2]
      · simp [h]
    rw [e] at this
    exact this

theorem frz_spec (hp : Hp) (l : List Nat) (id : Nat) : (frz hp l id).live = (hp id).live ∧ (frz hp l id).grow = (hp id).grow ∧ (frz hp l id).cells = (hp id).cells ∧ (frz hp l id).sz = (hp id).sz ∧ (frz hp l id).elem = (hp id).elem ∧ (frz hp l id).al = (hp id).al ∧
    ((frz hp l id).wb = true → (hp id).wb = true ∧ id ∉ l) := by
  unfold frz
  by_cases h : id ∈ l
  · simp [h]
  · simp [h]

/-- What lies in a block that is not written any more is kept. -/
theorem not_X {hp : Hp} (K : HeapOK w C.Xo m hp) {id b o off : Nat} (hl : (hp id).live = true) (hw : (hp id).wb = false) (hm : m id = some (b, o)) (h1 : o ≤ off) (h2 : off < o + (hp id).cells.length) : ¬ Xt C.Xo m hp ⟨b, off, none⟩ := by
  rintro (h | ⟨k, hk, b', o', hmk, hb', hr⟩)
  · exact K.out id b o off hl hm (.inl ⟨h1, h2⟩) h
  · simp only at hb' hr
    subst hb'
    by_cases e : k = id
    · subst e
      rw [hm] at hmk; injection hmk with hmk; injection hmk with e1 e2; subst e2
      rcases hr with ⟨h, _⟩ | ⟨_, h⟩
      · rw [hw] at h; cases h
      · omega
    · obtain ⟨s1, s2, s3, s4⟩ := K.sep k id b o' o e hk hl hmk hm
      rcases hr with ⟨h, _⟩ | ⟨h, h'⟩
      · rw [s1] at h; cases h
      · have := s4 h; omega

theorem flat_fz {X : AP} {m' : Mp} {h h' : Hp} {x : HV} {v : Value} (r : Rep w X m h x v) (hf : x.flat = true) : Rep w X m' h' x v := by
  have key : ∀ {x v}, Rep w X m h x v → x.flat = true → Rep w X m' h' x v := by
    intro x v r
    induction r with
    | any v => intro _; exact .any v
    | raw v => intro _; exact .raw v
    | sl n full cells a c vs h1 h2 h3 h3' h4 h5 _ ih =>
      intro _
      exact .sl n full cells a c vs h1 h2 h3 h3' h4 h5 (fun j x v hx hv => ih j x v hx hv (h4 x (List.mem_of_getElem? hx)))
    | agg => intro h; cases h
    | tup => intro h; cases h
    | own => intro h; cases h
    | ptr => intro h; cases h
    | iptr => intro h; cases h
  exact key r hf

theorem fz1_rep (g : Good C st m a w) (l : List Nat) {x : HV} {v : Value} (r : R C st m w x v) (hok : ok1 st.hp x) (hid : ∀ id ∈ id1 x, id ∈ l) {m' : Mp} {h' : Hp} :
    Rep w (Xt C.Xo m (frz st.hp l)) m' h' (fz1 st.hp x) v ∧ (fz1 st.hp x).flat = true := by
  have gf := g.frz l
  have r' : Rep w (Xt C.Xo m (frz st.hp l)) m (frz st.hp l) x v := by
    refine r.mono (fun p u hp hx => ⟨hp, fun h => hx ?_⟩) (Shp.refl w) (fun q hq => ⟨by rw [(frz_spec st.hp l q).2.2.2.2.2.1]; exact hq, rfl, (frz_spec st.hp l q).2.2.2.1⟩)
    refine h.imp (fun x => x) (fun ⟨k, hk, b, o, hm, hb, hr⟩ => ?_)
    obtain ⟨e1, e2, e3, _, _, _, e7⟩ := frz_spec st.hp l k
    rw [e1] at hk
    rw [e2, e3] at hr
    exact ⟨k, hk, b, o, hm, hb, hr.imp (fun h => ⟨(e7 h.1).1, h.2⟩) (fun h => h)⟩
  cases x with
  | own id off n full =>
    obtain ⟨h1, h2, h3, h4⟩ := hok
    have hidl := hid id (by simp [id1])
    obtain ⟨f1, f2, f3, f4, f5, f6, f7⟩ := frz_spec st.hp l id
    have hwb : (frz st.hp l id).wb = false := by
      cases hq : (frz st.hp l id).wb with
      | false => rfl
      | true => exact absurd hidl (f7 hq).2
    cases r' with
    | own _ _ _ _ ad c ha hc hf hb =>
      refine ⟨?_, rfl⟩
      have hnl : n ≤ n * (st.hp id).sz := Nat.le_mul_of_pos_right _ h3
      rcases g.heap.real id h1 with ⟨_, hcl⟩ | ⟨b, o, cs, hm, k2, k3, k4⟩
      · have hn0 : n * (st.hp id).sz = 0 := by rw [hcl] at h2; simp at h2; omega
        have hn : n = 0 := by omega
        subst hn
        refine .sl 0 full _ ad c [] (by simp) (Nat.zero_le _) hf (by simp) (by simp) (by simp) (by simp)
      · obtain ⟨us, q1, q2, q3⟩ := stretch gf.heap (by rw [f1]; exact h1) hm off (n * (st.hp id).sz) (by rw [f3]; exact h2)
        rw [f3] at q1
        refine .sl n full _ ad c us q1.1 hc hf (by simp; omega) (fun x hx => h4 x (List.mem_of_mem_drop (List.mem_of_mem_take hx))) (fun j u hj => ?_) (fun j x u hx hu => ?_)
        · have hj' : j < us.length := (List.getElem?_eq_some_iff.1 hj).1
          have hc0 : 0 < c := by
            rcases Nat.eq_zero_or_pos c with e0 | e0
            · have : n = 0 := by omega
              rw [q2, this, Nat.zero_mul] at hj'; omega
            · exact e0
          obtain ⟨b', o', cs', e', g1, g2, g3, g4⟩ := hb hc0
          rw [hm] at g1; injection g1 with g1; injection g1 with e1 e2; subst e1 e2
          refine ⟨_, g2, by rw [add_lit]; exact q3 j u hj, ?_⟩
          rw [add_lit]
          exact not_X gf.heap (by rw [f1]; exact h1) hwb hm (by omega) (by rw [f3]; omega)
        · exact flat_fz (q1.2 j x u hx hu).2 (h4 x (List.mem_of_mem_drop (List.mem_of_mem_take (List.mem_of_getElem? hx))))
  | any => exact ⟨.any v, rfl⟩
  | raw u => exact ⟨flat_fz r' rfl, rfl⟩
  | sl n full cells => exact ⟨flat_fz r' rfl, rfl⟩
  | agg cs => exact hok.elim
  | tup cs => exact hok.elim
  | ptr _ _ => exact hok.elim
  | iptr _ => exact hok.elim

theorem fz_rep (g : Good C st m a w) (l : List Nat) {x : HV} {v : Value} (r : R C st m w x v) (hok : okz st.hp x) (hid : ∀ id ∈ ids x, id ∈ l) {m' : Mp} {h' : Hp} :
    Rep w (Xt C.Xo m (frz st.hp l)) m' h' (fz st.hp x) v := by
  cases x with
  | agg cs =>
    cases r with
    | agg _ vs hl hrep =>
      refine .agg _ vs (by simp [hl]) (fun j x u hx hu => ?_)
      simp only [List.getElem?_map, Option.map_eq_some_iff] at hx
      obtain ⟨y, hy, rfl⟩ := hx
      exact (fz1_rep g l (hrep j y u hy hu) (hok y (List.mem_of_getElem? hy)) (fun id h => hid id (List.mem_flatMap.2 ⟨y, List.mem_of_getElem? hy, h⟩))).1
  | any => exact (fz1_rep g l r hok hid).1
  | raw u => exact (fz1_rep g l r hok hid).1
  | sl n full cells => exact (fz1_rep g l r hok hid).1
  | own _ _ _ _ => exact (fz1_rep g l r hok hid).1
  | tup cs => exact (hok : False).elim
  | ptr _ _ => exact (hok : False).elim
  | iptr _ => exact (hok : False).elim

theorem nf1_rep {X : AP} {h : Hp} {x : HV} {v : Value} (r : Rep w X m h x v) : Rep w X m h (nf1 x) v := by
  cases r with
  | sl n full cells a c vs h1 h2 h3 h3' h4 h5 h6 => exact .sl n false cells a c vs h1 h2 (by simp) h3' h4 h5 h6
  | any v => exact .any v
  | raw v => exact .raw v
  | agg cells vs h1 h2 => exact .agg cells vs h1 h2
  | tup cells vs h1 h2 => exact .tup cells vs h1 h2
  | own id off n full a c h1 h2 h3 h4 => exact .own id off n full a c h1 h2 h3 h4
  | ptr id off b o h1 h2 => exact .ptr id off b o h1 h2
  | iptr cells ad vs h1 h2 h3 h4 => exact .iptr cells ad vs h1 h2 h3 h4
theorem nf_rep {X : AP} {h : Hp} {x : HV} {v : Value} (r : Rep w X m h x v) : Rep w X m h (nf x) v := by
  cases x
  case agg cs =>
    cases r with
    | agg _ vs hl hrep =>
      refine .agg _ vs (by simpa using hl) (fun j x v hx hv => ?_)
      simp only [List.getElem?_map, Option.map_eq_some_iff] at hx
      obtain ⟨y, hy, rfl⟩ := hx
      exact nf1_rep (hrep j y v hy hv)
  all_goals exact nf1_rep r

theorem ofL_nil (id : Nat) : ofL [] id = {} := by simp [ofL]
theorem Xt_nil {X : AP} {m : Mp} (p : Addr) : Xt X m (ofL []) p ↔ X p := by
  constructor
  · rintro (h | ⟨id, hl, _⟩)
    · exact h
    · rw [ofL_nil] at hl; cases hl
  · exact .inl

theorem HeapOK.nil {X : AP} {m : Mp} (h : ∀ p, X p → p.block < w.heap.size) : HeapOK w X m (ofL []) :=
  ⟨fun id hl => (by rw [ofL_nil] at hl; cases hl), fun id hl => (by rw [ofL_nil] at hl; cases hl), fun i _ _ _ _ _ hl => (by rw [ofL_nil] at hl; cases hl), fun id _ _ _ hl => (by rw [ofL_nil] at hl; cases hl), h⟩

/-- A call whose arguments are given up for writing. -/
theorem call_sound (g : Good C st m a w) {f : FuncId} {args : List HV} {vs : List Value} (hl : vs.length = args.length) (hr : ∀ (j : Nat) (x : HV) (v : Value), args[j]? = some x → vs[j]? = some v → R C st m w x v)
    (hok : ∀ x ∈ args, okz st.hp x) {x : HV} (hc : HCallsD C.P f [] (args.map (fzn st.hp)) x []) :
    Calls C.P f vs.toArray w fun e w' => ∃ v, e = .returned v ∧ Good C { st with hp := setAll st.hp (offs st.hp (args.flatMap ids)) } m a w' ∧
      Rep w' (Xt C.Xo m (setAll st.hp (offs st.hp (args.flatMap ids)))) m (setAll st.hp (offs st.hp (args.flatMap ids))) x v := by
  rw [frz_offs]
  have gf := g.frz (args.flatMap ids)
  have hlt : ∀ p, Xt C.Xo m (frz st.hp (args.flatMap ids)) p → p.block < w.heap.size := fun p hp => by
    rcases hp with h | ⟨id, h⟩
    · exact gf.heap.lt p h
    · exact Xid_lt gf.heap h
  refine (hc.2 (Xt C.Xo m (frz st.hp (args.flatMap ids))) m w vs (by simpa using hl) hlt (HeapOK.nil hlt) ⟨g.gw, fun id p h => (by have := h.1; rw [ofL_nil] at this; cases this)⟩ (fun j y v hy hv => ?_)).mono ?_
  · simp only [List.getElem?_map, Option.map_eq_some_iff] at hy
    obtain ⟨y', hy', rfl⟩ := hy
    have hmem := List.mem_of_getElem? hy'
    refine (nf_rep (fz_rep g (args.flatMap ids) (hr j y' v hy' hv) (hok y' hmem) (fun id h => List.mem_flatMap.2 ⟨y', hmem, h⟩) (m' := m) (h' := ofL []))).mono (fun p u hp hx => ⟨hp, fun h => hx ((Xt_nil p).1 h)⟩) (Shp.refl w) (HpLe.refl _ _)
  · rintro e w' ⟨v, m', he, _, _, hrep, hch⟩
    have hch' : Chg (fun _ => False) w w' := ⟨hch.os, hch.tape, hch.output, hch.size, hch.shp, fun p u hp _ => hch.cell p u hp (fun ⟨id, h⟩ => (by have := h.1; rw [ofL_nil] at this; cases this)),
      fun i hi _ => hch.blk i hi (fun off ⟨id, h⟩ => (by have := h.1; rw [ofL_nil] at this; cases this))⟩
    refine ⟨v, he, gf.world hch', hrep.mono (fun p u hp hx => ⟨hp, fun h => hx ((Xt_nil p).2 h)⟩) (Shp.refl _) (fun id hid => by rw [ofL_nil] at hid; cases hid)⟩

end Go.Proofs.YtfmebdmgnmogaaaDoor.Hv
