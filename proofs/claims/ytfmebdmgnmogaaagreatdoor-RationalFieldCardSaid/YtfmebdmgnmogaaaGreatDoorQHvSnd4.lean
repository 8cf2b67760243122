/- The operations' soundness, fourth part: cuts and appends. No statement of its own. -/
import Derived.Test.YtfmebdmgnmogaaaGreatDoorQHvSnd3
set_option linter.unusedVariables false
set_option linter.unusedSimpArgs false
namespace Go.Proofs.YtfmebdmgnmogaaaGreatDoor.Hv
open Go Go.RowKit

variable {C : Ctx} {st : HS} {m : Mp} {a : Act} {w : World}

theorem run_bound {P : Program} (k : IntKind) (i : Int) (y : Nat) (code : BoundsCode) (h : 0 ≤ i ∧ i ≤ y) (w : World) : (Instr.sliceBound (.int k i) y code).run P w = .ok i.toNat w := by
  simp only [Instr.sliceBound, asIntOf, Sem.run_bind, Sem.run_pure, Result.andThen_ok, if_pos h]

/-- An optional bound: the abstract one and the value. -/
def RO (C : Ctx) (st : HS) (m : Mp) (w : World) (x : Option HV) (v : Option Value) : Prop :=
  match x, v with
  | none, none => True
  | some x, some v => R C st m w x v
  | _, _ => False

theorem run_bounds {P : Program} {b : Bool} {n c : Nat} {lo hi mx : Option HV} {lv hv mv : Option Value} (rl : RO C st m w lo lv) (rh : RO C st m w hi hv) (rm : RO C st m w mx mv) {l h q : Int}
    (el : intH lo 0 = some l) (eh : intH hi n = some h) (eq : intH mx 0 = some q) (hnc : n ≤ c) (h1 : 0 ≤ l) (h2 : l ≤ h) (h3 : h ≤ n) (h4 : mx.isSome = true → hi.isSome = true ∧ h ≤ q ∧ q ≤ n) :
    (Instr.sliceBounds b n c lv hv mv).run P w = .ok (l.toNat, h.toNat, if mx.isSome = true then q.toNat else c) w := by
  have key : ∀ {x : Option HV} {v : Option Value} {d r : Int}, RO C st m w x v → intH x d = some r → (x = none ∧ v = none ∧ r = d) ∨ ∃ k, x = some (.raw (.int k r)) ∧ v = some (.int k r) := by
    intro x v d r hr hx
    cases x with
    | none => cases v with
      | none => simp [intH] at hx; exact .inl ⟨rfl, rfl, hx.symm⟩
      | some v => exact hr.elim
    | some x =>
      cases v with
      | none => exact hr.elim
      | some v =>
        unfold intH at hx
        split at hx
        · rename_i e; cases e
        · rename_i k n' e
          injection e with e; subst e
          injection hx with hx; subst hx
          cases (show Rep _ _ _ _ _ _ from hr)
          exact .inr ⟨k, rfl, rfl⟩
        · cases hx
  rcases key rl el with ⟨rfl, rfl, rfl⟩ | ⟨kl, rfl, rfl⟩ <;> rcases key rh eh with ⟨rfl, rfl, rfl⟩ | ⟨kh, rfl, rfl⟩ <;> rcases key rm eq with ⟨rfl, rfl, rfl⟩ | ⟨km, rfl, rfl⟩
  all_goals simp only [Option.isSome_some, Option.isSome_none, Bool.false_eq_true, false_implies, true_implies, if_true, if_false, false_and] at h4 ⊢
  · simp [Instr.sliceBounds]
  · simp [Instr.sliceBounds, run_bound (P := P) kh h c _ ⟨by omega, by omega⟩ w]
  · obtain ⟨_, h5, h6⟩ := h4
    simp [Instr.sliceBounds, run_bound (P := P) km q c _ ⟨by omega, by omega⟩ w, run_bound (P := P) kh h q.toNat _ ⟨by omega, by omega⟩ w]
  · have e : (n : Int).toNat = n := by omega
    simp [Instr.sliceBounds, run_bound (P := P) kl l n _ ⟨by omega, by omega⟩ w]
  · simp [Instr.sliceBounds, run_bound (P := P) kh h c _ ⟨by omega, by omega⟩ w, run_bound (P := P) kl l h.toNat _ ⟨by omega, by omega⟩ w]
  · obtain ⟨_, h5, h6⟩ := h4
    simp [Instr.sliceBounds, run_bound (P := P) km q c _ ⟨by omega, by omega⟩ w, run_bound (P := P) kh h q.toNat _ ⟨by omega, by omega⟩ w, run_bound (P := P) kl l h.toNat _ ⟨by omega, by omega⟩ w]

theorem run_cut {P : Program} {t e : TypeId} {sz by_ : Nat} (hel : elT P t = some (e, sz, by_)) {ad : Option Addr} {n c l h q : Nat} {lv hv mv : Option Value}
    (hb : (Instr.sliceBounds true n c lv hv mv).run P w = .ok (l, h, q) w) :
    (Instr.sliceAt t (.slice ad n c) lv hv mv).run P w = .ok (.slice (if q = l then ad else ad.map (·.add (l * sz))) (h - l) (q - l)) w := by
  obtain ⟨hu, i, hi, hsz, _, _⟩ := elT_spec hel
  simp [Instr.sliceAt, Instr.slice, run_underlying hu, hb, sizeOf, typeInfo, hi, hsz]

theorem snd_slice (g : Good C st m a w) {t : TypeId} {px : HV} {v : Value} {lo hi mx : Option HV} {lv hv mv : Option Value} (hp : R C st m w px v) (rl : RO C st m w lo lv) (rh : RO C st m w hi hv) (rm : RO C st m w mx mv)
    {E : Eff} {x : HV} {wr : List (Nat × HBlk)} (he : effSlice C.P t px lo hi mx st.hp = some E) (hs : E.side) (hr : E.res = .val x wr) :
    Out C st a wr x ((do let z ← Instr.sliceAt t v lv hv mv; Pure.pure (Next.value z) : Sem Next).run C.P w) := by
  unfold effSlice at he
  split at he
  · rename_i id off n full
    split at he
    · rename_i e sz by_ l h q hel el eh eq
      simp only [Option.some.injEq] at he
      subst he
      simp only [Res.val.injEq] at hr
      obtain ⟨rfl, rfl⟩ := hr
      obtain ⟨h1, h2, h3, h4, h5⟩ := hs
      cases hp with
      | own _ _ _ _ ad c ha hc hf hb =>
        have hbd := run_bounds (P := C.P) (b := true) rl rh rm el eh eq hc h1 h2 h3 h4
        rw [run_v (run_cut hel hbd)]
        refine Out.pure g ?_
        have hq : h.toNat ≤ (if mx.isSome = true then q.toNat else c) ∧ (if mx.isSome = true then q.toNat else c) ≤ c := by
          split
          · rename_i hm; have := h4 hm; omega
          · omega
        have hfull : (if mx.isSome = true then decide (q = h) else full && decide (h = n)) = true → (if mx.isSome = true then q.toNat else c) = h.toNat := by
          split
          · intro hd; have : q = h := by simpa using hd
            rw [this]
          · intro hd
            simp only [Bool.and_eq_true, decide_eq_true_eq] at hd
            have := hf hd.1; omega
        generalize (if mx.isSome = true then q.toNat else c) = M at *
        have e : (h - l).toNat = h.toNat - l.toNat := by omega
        rw [e]
        refine .own id _ _ _ _ _ ha (by omega) (fun hd => by have := hfull hd; omega) (fun h0 => ?_)
        obtain ⟨b, o, cs, e', k1, k2, k3, k4⟩ := hb (by omega)
        refine ⟨b, o, cs, e', k1, ?_, k3, ?_⟩
        · rw [if_neg (by omega), k2]
          simp only [Option.map_some, add_lit, Option.some.injEq, Addr.mk.injEq, true_and, and_true]
          omega
        · rw [← h5]
          have : l.toNat * (st.hp id).sz + (M - l.toNat) * (st.hp id).sz ≤ c * (st.hp id).sz := by rw [← Nat.add_mul]; exact Nat.mul_le_mul_right _ (by omega)
          show o + (off + l.toNat * (st.hp id).sz) + (M - l.toNat) * (st.hp id).sz ≤ cs.size
          omega
    · cases he
  · rename_i n full cells
    split at he
    · rename_i e sz by_ l h q hel el eh eq
      simp only [pvs, Option.some.injEq] at he
      subst he
      simp only [Res.val.injEq] at hr
      obtain ⟨rfl, rfl⟩ := hr
      obtain ⟨h1, h2, h3, h4, h5⟩ := hs
      obtain ⟨_, _, _, _, _, hpos⟩ := elT_spec hel
      cases hp with
      | sl _ _ _ ad c vs hl hc hf hn hfl hcell hrep =>
        have hbd := run_bounds (P := C.P) (b := true) rl rh rm el eh eq hc h1 h2 h3 h4
        rw [run_v (run_cut hel hbd)]
        refine Out.pure g ?_
        have hq : h.toNat ≤ (if mx.isSome = true then q.toNat else c) ∧ (if mx.isSome = true then q.toNat else c) ≤ c := by
          split
          · rename_i hm; have := h4 hm; omega
          · omega
        have hfull : (if mx.isSome = true then decide (q = h) else full && decide (h = n)) = true → (if mx.isSome = true then q.toNat else c) = h.toNat := by
          split
          · intro hd; have : q = h := by simpa using hd
            rw [this]
          · intro hd
            simp only [Bool.and_eq_true, decide_eq_true_eq] at hd
            have := hf hd.1; omega
        generalize (if mx.isSome = true then q.toNat else c) = M at *
        have e : (h - l).toNat = h.toNat - l.toNat := by omega
        rw [e]
        have hlen : l.toNat * sz + (h.toNat - l.toNat) * sz ≤ cells.length := by
          rw [h5, ← Nat.add_mul]; exact Nat.mul_le_mul_right _ (by omega)
        have hone : h.toNat - l.toNat ≤ (h.toNat - l.toNat) * sz := Nat.le_mul_of_pos_right _ hpos
        refine .sl _ _ _ _ _ ((vs.drop (l.toNat * sz)).take ((h.toNat - l.toNat) * sz)) (by simp; omega) (by omega) (fun hd => by have := hfull hd; omega) (by simp; omega)
          (fun x hx => hfl x (List.mem_of_mem_drop (List.mem_of_mem_take hx))) (fun j v hj => ?_) (fun j x v hx hv => ?_)
        · simp only [List.getElem?_take, List.getElem?_drop] at hj
          split at hj
          · rename_i hjl
            obtain ⟨p, rfl, k1, k2⟩ := hcell _ v hj
            have hne : ¬ M = l.toNat := by
              intro e0
              have : h.toNat - l.toNat = 0 := by omega
              rw [this, Nat.zero_mul] at hjl
              omega
            refine ⟨p.add (l.toNat * sz), by rw [if_neg hne]; rfl, ?_, ?_⟩
            · rw [add_add]; exact k1
            · rw [add_add]; exact k2
          · cases hj
        · simp only [List.getElem?_take, List.getElem?_drop] at hx hv
          split at hx
          · rename_i hjl
            rw [if_pos hjl] at hv
            exact hrep _ x v hx hv
          · cases hx
    · cases he
  · rename_i s
    split at he
    · rename_i l h el eh
      simp only [pvs, Option.some.injEq] at he
      subst he
      simp only [Res.val.injEq] at hr
      obtain ⟨rfl, rfl⟩ := hr
      obtain ⟨h1, h2, h3, h4, h5⟩ := hs
      cases hp
      have hmn : mx = none := by cases mx <;> simp_all
      subst hmn
      have hmv : mv = none := by cases mv with
        | none => rfl
        | some v => exact rm.elim
      subst hmv
      have hbd := run_bounds (P := C.P) (C := C) (st := st) (m := m) (w := w) (b := false) (n := s.size) (c := s.size) (mx := none) (mv := none) (q := 0) rl rh rm el eh rfl (Nat.le_refl _) h3 h4 h5 (by simp)
      rw [run_v (v := .string (s.extract l.toNat h.toNat)) (w' := w) (by simp [Instr.sliceAt, Instr.slice, run_underlying h1, hbd])]
      exact Out.pure g (.raw _)
    · cases he
  · cases he

end Go.Proofs.YtfmebdmgnmogaaaGreatDoor.Hv
namespace Go.Proofs.YtfmebdmgnmogaaaGreatDoor.Hv
open Go Go.RowKit

variable {C : Ctx} {st : HS} {m : Mp} {a : Act} {w : World}

/-- Rights given up. -/
theorem Good.weaken (g : Good C st m a w) (id : Nat) (gr' lv' : Bool) (hgr : gr' = true → (st.hp id).grow = true) (hlv : lv' = true → (st.hp id).live = true) (hw : (st.hp id).wb = false ∨ lv' = false ∨ True) :
    Good C { st with hp := upd st.hp id { st.hp id with grow := gr', live := lv' } } m a w := by
  have K := g.heap
  generalize hH : upd st.hp id { st.hp id with grow := gr', live := lv' } = H
  have Hid : H id = { st.hp id with grow := gr', live := lv' } := by subst hH; exact upd_same _ _ _
  have Ho : ∀ k, k ≠ id → H k = st.hp k := fun k h => by subst hH; exact upd_ne _ _ h
  clear hH
  have e : ∀ q, ((H q).live = true → (st.hp q).live = true) ∧ ((H q).grow = true → (st.hp q).grow = true) ∧ (H q).wb = (st.hp q).wb ∧ (H q).al = (st.hp q).al ∧ (H q).elem = (st.hp q).elem ∧ (H q).cells = (st.hp q).cells ∧ (H q).sz = (st.hp q).sz := fun q => by
    by_cases h : q = id
    · subst h; rw [Hid]; exact ⟨hlv, hgr, rfl, rfl, rfl, rfl, rfl⟩
    · rw [Ho q h]; exact ⟨fun h => h, fun h => h, rfl, rfl, rfl, rfl, rfl⟩
  have hXid : ∀ k p, Xid m H k p → Xid m st.hp k p := by
    intro k p ⟨hl, b, o, hm, hb, hr⟩
    obtain ⟨e1, e2, e3, _, _, e6, _⟩ := e k
    refine ⟨e1 hl, b, o, hm, hb, ?_⟩
    rw [e3, e6] at hr
    exact hr.imp (fun h => h) (fun h => ⟨e2 h.1, h.2⟩)
  have hXt : ∀ p, Xt C.Xo m H p → Xt C.Xo m st.hp p := fun p h => h.imp (fun x => x) (fun ⟨k, h⟩ => ⟨k, hXid k p h⟩)
  have hle : HpLe m m st.hp H := fun k hk => ⟨by rw [(e k).2.2.2.1]; exact hk, rfl, (e k).2.2.2.2.2.2⟩
  have hmono : ∀ {x v}, Rep w (Xt C.Xo m st.hp) m st.hp x v → Rep w (Xt C.Xo m H) m H x v := fun r =>
    r.mono (fun p u hp hx' => ⟨hp, fun h => hx' (hXt p h)⟩) (Shp.refl w) hle
  refine g.step (fun p u hp hx' => ⟨hp, fun h => hx' (hXt p h)⟩) (Shp.refl w) hle ⟨fun k hk => ?_, fun k hk => ?_, fun k j bi oi oj hkj hk hj mk mj => ?_, fun k b' o' off' hk hmk hr => ?_, K.lt⟩ g.chg (fun _ _ => rfl)
    (fun k b' o' hk hkl hmk => g.fresh k b' o' hk ((e k).1 hkl) hmk) (fun k p hk hx' => g.win k p hk (hXid k p hx'))
  · rw [(e k).2.2.2.1]; exact K.alive k ((e k).1 hk)
  · rw [(e k).2.2.2.2.1, (e k).2.2.2.2.2.1]
    rcases K.real k ((e k).1 hk) with h1 | ⟨b', o', cs', h1, h2, h3, h4⟩
    · exact .inl h1
    · exact .inr ⟨b', o', cs', h1, h2, h3, fun j x hj => by obtain ⟨v, v1, v2, v3⟩ := h4 j x hj; exact ⟨v, v1, v2, hmono v3⟩⟩
  · obtain ⟨s1, s2, s3, s4⟩ := K.sep k j bi oi oj hkj ((e k).1 hk) ((e j).1 hj) mk mj
    rw [(e k).2.2.1, (e j).2.2.1, (e k).2.2.2.2.2.1, (e j).2.2.2.2.2.1]
    exact ⟨s1, s2, fun h => s3 ⟨(e k).2.1 h.1, (e j).2.1 h.2⟩, fun h => s4 ((e k).2.1 h)⟩
  · rw [(e k).2.2.2.2.2.1] at hr
    exact K.out k b' o' off' ((e k).1 hk) hmk (hr.imp (fun h => h) (fun h => ⟨(e k).2.1 h.1, h.2⟩))

/-- A block without cells and without a place. -/
theorem Good.phantom (g : Good C st m a w) (i : Nat) (hi : (st.hp i).al = false) (hn : C.n0 ≤ i) (b : HBlk) (hb : b.al = true) (hc : b.cells = []) : Good C { st with hp := upd st.hp i b } (upd m i none) a w := by
  have K := g.heap
  generalize hH : upd st.hp i b = H
  have Hi : H i = b := by subst hH; exact upd_same _ _ _
  have Ho : ∀ k, k ≠ i → H k = st.hp k := fun k h => by subst hH; exact upd_ne _ _ h
  clear hH
  have Mi : upd m i none i = none := upd_same _ _ _
  have Mo : ∀ k, k ≠ i → upd m i none k = m k := fun k h => upd_ne _ _ h
  have hXid : ∀ k p, Xid (upd m i none) H k p → k ≠ i ∧ Xid m st.hp k p := by
    intro k p h
    by_cases hk : k = i
    · subst hk
      obtain ⟨_, b', o, hm, _⟩ := h
      rw [Mi] at hm; cases hm
    · exact ⟨hk, (Xid_ext (Mo k hk) (Ho k hk)).1 h⟩
  have hXt : ∀ p, Xt C.Xo (upd m i none) H p → Xt C.Xo m st.hp p := fun p h => h.imp (fun x => x) (fun ⟨k, h⟩ => ⟨k, (hXid k p h).2⟩)
  have hle : HpLe m (upd m i none) st.hp H := fun k hk => by
    have h : k ≠ i := fun e => by subst e; rw [hi] at hk; cases hk
    rw [Mo k h, Ho k h]; exact ⟨hk, rfl, rfl⟩
  have hmono : ∀ {x v}, Rep w (Xt C.Xo m st.hp) m st.hp x v → Rep w (Xt C.Xo (upd m i none) H) (upd m i none) H x v := fun r =>
    r.mono (fun p u hp hx' => ⟨hp, fun h => hx' (hXt p h)⟩) (Shp.refl w) hle
  refine g.step (fun p u hp hx' => ⟨hp, fun h => hx' (hXt p h)⟩) (Shp.refl w) hle ⟨fun k hk => ?_, fun k hk => ?_, fun k j bi oi oj hkj hk hj mk mj => ?_, fun k b' o' off' hk hmk hr => ?_, K.lt⟩ g.chg (fun k hk => Mo k (by omega))
    (fun k b' o' hk hkl hmk => ?_) (fun k p hk hx' => g.win k p hk (hXid k p hx').2)
  · by_cases h : k = i
    · subst h; rw [Hi]; exact hb
    · rw [Ho k h] at hk ⊢; exact K.alive k hk
  · by_cases h : k = i
    · subst h; exact .inl ⟨Mi, by rw [Hi]; exact hc⟩
    · rw [Ho k h] at hk ⊢; rw [Mo k h]
      rcases K.real k hk with h1 | ⟨b', o', cs', h1, h2, h3, h4⟩
      · exact .inl h1
      · exact .inr ⟨b', o', cs', h1, h2, h3, fun j x hj => by obtain ⟨v, v1, v2, v3⟩ := h4 j x hj; exact ⟨v, v1, v2, hmono v3⟩⟩
  · have hki : k ≠ i := fun e => by subst e; rw [Mi] at mk; cases mk
    have hji : j ≠ i := fun e => by subst e; rw [Mi] at mj; cases mj
    rw [Mo k hki] at mk; rw [Mo j hji] at mj; rw [Ho k hki] at hk ⊢; rw [Ho j hji] at hj ⊢
    exact K.sep k j bi oi oj hkj hk hj mk mj
  · have hki : k ≠ i := fun e => by subst e; rw [Mi] at hmk; cases hmk
    rw [Mo k hki] at hmk; rw [Ho k hki] at hk hr
    exact K.out k b' o' off' hk hmk hr
  · have hki : k ≠ i := fun e => by subst e; rw [Mi] at hmk; cases hmk
    rw [Mo k hki] at hmk; rw [Ho k hki] at hkl
    exact g.fresh k b' o' hk hkl hmk

/-- What a slice value's cells are. -/
def Holds (w : World) (v : Value) (k : Nat) (us : List Value) : Prop :=
  ∃ ad c, v = .slice ad k c ∧ ∀ j u, us[j]? = some u → ∃ p, ad = some p ∧ w.cell? (p.add j) = some u

theorem Holds.heap {w w' : World} {v : Value} {k : Nat} {us : List Value} (h : Holds w v k us) (e : w'.heap = w.heap) : Holds w' v k us := by
  obtain ⟨ad, c, rfl, h⟩ := h
  exact ⟨ad, c, rfl, fun j u hj => by obtain ⟨p, e1, e2⟩ := h j u hj; exact ⟨p, e1, (cell_of_heap e _).trans e2⟩⟩
theorem Holds.first {P : Program} {v : Value} {k sz : Nat} {us : List Value} (h : Holds w v k us) (hl : us.length = k * sz) : (Builtin.firstCells sz k v).run P w = .ok us.toArray w := by
  obtain ⟨ad, c, rfl, h⟩ := h
  cases ad with
  | none =>
    have : us = [] := by
      cases us with
      | nil => rfl
      | cons u us => obtain ⟨p, e, _⟩ := h 0 u rfl; cases e
    subst this
    simp [Builtin.firstCells]
  | some p =>
    exact run_firstCells_some w sz k p k c us hl (fun j u hj => by obtain ⟨q, e, hq⟩ := h j u hj; injection e with e; subst e; exact hq)

theorem news_holds (g : Good C st m a w) {y : HV} {v : Value} (r : R C st m w y v) {rd : List Nat} {k : Nat} {p : Prop} {news : List HV} (hn : newsOf st.hp y = some (rd, k, p, news)) (hp : p) (ho : ∀ c ∈ news, c.one = true) :
    ∃ us, Holds w v k us ∧ RL C st m w news us := by
  unfold newsOf at hn
  split at hn
  · simp only [Option.some.injEq, Prod.mk.injEq] at hn
    obtain ⟨rfl, rfl, rfl, rfl⟩ := hn
    cases r with
    | sl n full cells ad c vs hl hc hf hnn hfl hcell hrep =>
      refine ⟨vs, ⟨ad, c, rfl, fun j u hj => ?_⟩, hl, fun j x v hx hv => ?_⟩
      · obtain ⟨q, e1, e2, _⟩ := hcell j u hj; exact ⟨q, e1, e2⟩
      · have rr := hrep j x v hx hv
        exact ⟨one_rep rr (ho x (List.mem_of_getElem? hx)), rr⟩
  · rename_i id off k' full
    simp only [Option.some.injEq, Prod.mk.injEq] at hn
    obtain ⟨rfl, rfl, rfl, rfl⟩ := hn
    obtain ⟨h1, h2⟩ := hp
    cases r with
    | own _ _ _ _ ad c ha hc hf hb =>
      rcases g.heap.real id h1 with ⟨_, h3⟩ | ⟨b, o, cs, h3, h4, h5, h6⟩
      · refine ⟨[], ⟨ad, c, rfl, by simp⟩, by simp [h3], by simp⟩
      · obtain ⟨us, k1, k2, k3⟩ := stretch g.heap h1 h3 off (k' * (st.hp id).sz) h2
        refine ⟨us, ⟨ad, c, rfl, fun j u hj => ?_⟩, k1⟩
        have hj' : j < us.length := (List.getElem?_eq_some_iff.1 hj).1
        have hc0 : 0 < c := by
          rcases Nat.eq_zero_or_pos c with e | e
          · have : k' = 0 := by omega
            rw [k2, this, Nat.zero_mul] at hj'; omega
          · exact e
        obtain ⟨b', o', cs', e', g1, g2, g3, g4⟩ := hb hc0
        rw [h3] at g1; injection g1 with g1; injection g1 with e1 e2; subst e1 e2
        exact ⟨_, g2, by rw [add_lit]; exact k3 j u hj⟩
  · cases hn

theorem run_app_room {P : Program} {t e ty : TypeId} {i : TypeInfo} (ht : P.underlying t = some (.slice e)) (hi : P.info? e = some i) {b : Option Addr} {n c k : Nat} {y : Value} {us : List Value} (hy : Holds w y k us) (hl : us.length = k * i.size)
    (hfit : n + k ≤ c) {w' : World} (hst : ∀ p, b = some p → (storeCells (p.add (n * i.size)) us).run P w = .ok () w') (hnone : b = none → w' = w) :
    (Builtin.append_ #[t, t] ty #[.slice b n c, y]).run P w = .ok (.slice b (n + k) c) w' := by
  have hf := hy.first (P := P) hl
  obtain ⟨ad, c', rfl, _⟩ := hy
  cases b with
  | none =>
    have := hnone rfl; subst this
    simp [Builtin.append_, run_underlying ht, sizeOf, typeInfo, hi, Builtin.lenOf, hfit, hf]
  | some p =>
    have := hst p rfl
    simp [Builtin.append_, run_underlying ht, sizeOf, typeInfo, hi, Builtin.lenOf, hfit, hf, this]

theorem run_app_new {P : Program} {t e ty : TypeId} {i : TypeInfo} {z : Value} (ht : P.underlying t = some (.slice e)) (hi : P.info? e = some i) (hz : i.zero = some z) {b : Option Addr} {n c k : Nat} {y : Value} {os us : List Value}
    (hx : Holds w (.slice b n c) n os) (hlo : os.length = n * i.size) (hy : Holds w y k us) (hl : us.length = k * i.size) (hfit : c < n + k) (h63 : n + k ≤ 9223372036854775807) (hby : (n + k) * i.bytes ≤ 140737488355328) :
    (Builtin.append_ #[t, t] ty #[.slice b n c, y]).run P w = .ok (.slice (some ⟨w.heap.size, 0, none⟩) (n + k) (grownCap w (n + k) c e))
      (w.drew.alloc (.cells ((os ++ us).toArray ++ Builtin.zeroCells z.cells (grownCap w (n + k) c e - (n + k))) e)) := by
  have hn : ¬ (n + k ≤ c) := by omega
  have h63' : ¬ (9223372036854775807 < ((n : Int) + (k : Int))) := by omega
  have h48 := growslice_fits (bytes := i.bytes) hfit hby
  have h48' : ¬ (281474976710656 < Builtin.nextslicecap (n + k) c * i.bytes) := by omega
  have hfx := (hx.heap (w' := w.drew) rfl).first (P := P) hlo
  have hfy := (hy.heap (w' := w.drew) rfl).first (P := P) hl
  obtain ⟨ad, c', rfl, _⟩ := hy
  simp [Builtin.append_, run_underlying ht, sizeOf, typeInfo, zeroValue, hi, hz, Builtin.lenOf, hn, h63', h48', Question.forced, hfx, hfy, newRow, grownCap]
  congr 2
  apply Array.ext'
  simp

theorem RL.append {xs ys : List HV} {vs us : List Value} (h : RL C st m w xs vs) (k : RL C st m w ys us) : RL C st m w (xs ++ ys) (vs ++ us) := by
  refine ⟨by simp [h.1, k.1], fun j x v hx hv => ?_⟩
  by_cases hj : j < xs.length
  · rw [List.getElem?_append_left hj] at hx
    rw [List.getElem?_append_left (by rw [h.1]; exact hj)] at hv
    exact h.2 j x v hx hv
  · rw [List.getElem?_append_right (by omega)] at hx
    rw [List.getElem?_append_right (by rw [h.1]; omega), h.1] at hv
    exact k.2 _ x v hx hv

theorem RL.mono {st' : HS} {m' : Mp} {w' : World} {xs : List HV} {vs : List Value} (h : RL C st m w xs vs) (f : ∀ x v, R C st m w x v → R C st' m' w' x v) : RL C st' m' w' xs vs :=
  ⟨h.1, fun j x v hx hv => ⟨(h.2 j x v hx hv).1, f x v (h.2 j x v hx hv).2⟩⟩

/-- A new row that an append makes. -/
theorem append_new (g : Good C st m a w) {i : Nat} (hn : C.n0 ≤ i) (hi : (st.hp i).al = false) (wb gr : Bool) (e : TypeId) (sz : Nat) {xs : List HV} {vs : List Value} (rl : RL C st m w xs vs) (n cap : Nat) (hnc : n ≤ cap) (hl : vs.length = n * sz) (z : Array Value) (hz : z.size = sz) :
    ∃ m', Good C { st with hp := upd st.hp i ⟨true, true, wb, gr, e, sz, xs⟩ } m' a (w.drew.alloc (.cells (vs.toArray ++ Builtin.zeroCells z (cap - n)) e)) ∧
      R C { st with hp := upd st.hp i ⟨true, true, wb, gr, e, sz, xs⟩ } m' (w.drew.alloc (.cells (vs.toArray ++ Builtin.zeroCells z (cap - n)) e)) (.own i 0 n false) (.slice (some ⟨w.heap.size, 0, none⟩) n cap) := by
  have g1 := g.drew
  have hs : (vs.toArray ++ Builtin.zeroCells z (cap - n)).size = cap * sz := by
    simp [size_zeroCells, hz, hl, ← Nat.add_mul]
    congr 1; omega
  refine ⟨_, g1.alloc i hi hn wb gr e sz xs _ ?_ (fun j x hj => ?_), ?_⟩
  · rw [hs]; have := rl.1; rw [← this, hl]; exact Nat.mul_le_mul_right _ hnc
  · obtain ⟨v, v1, v2, v3⟩ := RL.ex rl j x hj
    refine ⟨v, ?_, v2, v3.mono (fun p u hp hx => ⟨hp, hx⟩) (shp_of_heap rfl) (HpLe.refl _ _)⟩
    have hjl : j < vs.toArray.size := (Array.getElem?_eq_some_iff.1 v1).1
    rw [Array.getElem?_append_left hjl]; exact v1
  · refine .own i 0 n false _ cap ?_ hnc (by simp) (fun _ => ⟨w.heap.size, 0, _, e, upd_same _ _ _, rfl, heap_new _ _, ?_⟩)
    · show (upd st.hp i _ i).al = true
      rw [upd_same]
    · show 0 + 0 + cap * (upd st.hp i _ i).sz ≤ _
      rw [upd_same, hs]; simp

theorem blk_eq {B : HBlk} {e : TypeId} {sz : Nat} {xs : List HV} (h1 : B.al = true) (h2 : B.live = true) (h3 : B.elem = e) (h4 : B.sz = sz) : ({ B with cells := xs } : HBlk) = ⟨true, true, B.wb, B.grow, e, sz, xs⟩ := by
  cases B
  simp only at h1 h2 h3 h4
  subst h1 h2 h3 h4
  rfl

theorem snd_append (g : Good C st m a w) {i : Nat} (hn0 : C.n0 ≤ i) {t t' ty : TypeId} {xx yy : HV} {u v : Value} (hx : R C st m w xx u) (hy : R C st m w yy v) {E : Eff} {x : HV} {wr : List (Nat × HBlk)}
    (he : effAppend C.P i st.hp t t' xx yy = some E) (hs : E.side) (hr : E.res = .val x wr) :
    Out C st a wr x ((do let z ← Builtin.append_ #[t, t'] ty #[u, v]; Pure.pure (Next.value z) : Sem Next).run C.P w) := by
  unfold effAppend at he
  split at he
  · rename_i e sz by_ rd k p news hel hnews
    obtain ⟨hu, info, hinf, hsz, hby, hpos⟩ := elT_spec hel
    split at he
    · rename_i id off n full
      simp only [Option.some.injEq] at he
      subst he
      simp only [Res.val.injEq] at hr
      obtain ⟨rfl, rfl⟩ := hr
      obtain ⟨s1, s2, s3, rfl, s5, s6, rfl, s8, s9, s10, s11, s12, s13, s14, s15⟩ := hs
      obtain ⟨us, hv, rl⟩ := news_holds g hy hnews s2 s14
      have hul : us.length = k * sz := by rw [rl.1]; exact s9
      obtain ⟨zs, hzs, hzl⟩ : ∃ zs, zrT C.P e = some zs ∧ zs.length = sz := by
        cases hq : zrT C.P e with
        | none => rw [hq] at s15; cases s15
        | some zs => rw [hq] at s15; simp at s15; exact ⟨zs, rfl, s15⟩
      obtain ⟨z, hzz, hzc⟩ := zrT_spec hzs hinf
      have hzsz : z.cells.size = sz := by rw [← hzl, ← hzc]; simp
      have hx' := hx
      cases hx with
      | own _ _ _ _ ad c ha hc hf hb =>
        have olds : ∃ os, Holds w (.slice ad n c) n os ∧ RL C st m w (st.hp id).cells os := by
          have hnw : newsOf st.hp (.own id 0 n full) = some ([id], n, (st.hp id).live = true ∧ 0 + n * (st.hp id).sz ≤ (st.hp id).cells.length, ((st.hp id).cells.drop 0).take (n * (st.hp id).sz)) := rfl
          have e1 : ((st.hp id).cells.drop 0).take (n * (st.hp id).sz) = (st.hp id).cells := by rw [s11, List.drop_zero, ← s8, List.take_length]
          rcases g.heap.real id s5 with ⟨_, h3⟩ | ⟨b, o, cs, h3, h4, h5, h6⟩
          · have hn0' : n = 0 := by
              rw [h3] at s8
              rcases Nat.eq_zero_or_pos n with h | h
              · exact h
              · have := Nat.mul_pos h hpos
                simp only [List.length_nil] at s8; omega
            subst hn0'
            exact ⟨[], ⟨ad, c, rfl, by simp⟩, by simp [h3], by simp⟩
          · obtain ⟨us', k1, k2, k3⟩ := stretch g.heap s5 h3 0 (n * sz) (by omega)
            have e1' : ((st.hp id).cells.drop 0).take (n * sz) = (st.hp id).cells := by rw [List.drop_zero, ← s8, List.take_length]
            rw [e1'] at k1
            refine ⟨us', ⟨ad, c, rfl, fun j u hj => ?_⟩, k1⟩
            have hj' : j < us'.length := (List.getElem?_eq_some_iff.1 hj).1
            have hc0 : 0 < c := by
              rcases Nat.eq_zero_or_pos c with e0 | e0
              · have : n = 0 := by omega
                rw [k2, this, Nat.zero_mul] at hj'; omega
              · exact e0
            obtain ⟨b', o', cs', e', g1, g2, g3, g4⟩ := hb hc0
            rw [h3] at g1; injection g1 with g1; injection g1 with e1 e2; subst e1 e2
            exact ⟨_, g2, by rw [add_lit]; exact k3 j u hj⟩
        by_cases hfit : n + k ≤ c
        · rcases Nat.eq_zero_or_pos c with hc0 | hc0
          · -- nothing is there and nothing comes
            have hn' : n = 0 := by omega
            have hk' : k = 0 := by omega
            subst hn' hk'
            have hnl : news = [] := List.eq_nil_of_length_eq_zero (by simpa using s9)
            have hul0 : us = [] := List.eq_nil_of_length_eq_zero (by simpa using hul)
            have hcl : (st.hp id).cells = [] := List.eq_nil_of_length_eq_zero (by simpa using s8)
            subst hnl hul0
            have hrun := run_app_room (w := w) (w' := w) (ty := ty) hu hinf (b := ad) (n := 0) (c := c) (k := 0) hv (by simp) hfit (fun p _ => by simp [storeCells]) (fun _ => rfl)
            rw [run_v hrun]
            have gw := g.weaken id false (!(st.hp id).wb) (by simp) (fun _ => s5) (.inr (.inr trivial))
            have hii : i ≠ id := s3
            have gp := gw.phantom i (by show (upd st.hp id _ i).al = false; rw [upd_ne _ _ hii]; exact s1) hn0 { st.hp id with cells := (st.hp id).cells ++ [] } (g.heap.alive id s5) (by rw [hcl]; rfl)
            refine ⟨_, _, _, .inl rfl, gp, .own i 0 0 false ad c ?_ (Nat.zero_le _) (by simp) (by omega)⟩
            show (upd (upd st.hp id _) i _ i).al = true
            rw [upd_same]; exact g.heap.alive id s5
          · obtain ⟨b, o, cs, e', g1, rfl, g3, g4⟩ := hb hc0
            obtain ⟨cs', k1, k2, k3⟩ := HeapOK.cells g.heap s5 g1
            have : cs' = cs := by rw [g3] at k1; injection k1 with k1; injection k1 with q1 q2; exact q1.symm
            subst this
            have hend : o + (st.hp id).cells.length + us.length ≤ cs'.size := by
              have h1 : (n + k) * sz ≤ c * sz := Nat.mul_le_mul_right _ hfit
              rw [s11] at g4
              rw [Nat.add_mul] at h1
              omega
            have h1c : ∀ v ∈ us, v.oneCell' = true := fun v hv => by
              obtain ⟨j, hj⟩ := List.getElem?_of_mem hv
              have hlt : j < news.length := by have := (List.getElem?_eq_some_iff.1 hj).1; rw [← rl.1]; exact this
              exact (rl.2 j _ v (List.getElem?_eq_getElem hlt) hj).1
            have hst := run_storeCells_at C.P b (o + (st.hp id).cells.length) (st.hp id).elem us 0 cs' w k1 (by simpa using hend) h1c
            have hrun := run_app_room (w := w) (w' := w.setRow b (splice cs'.toList (o + (st.hp id).cells.length) us).toArray) (ty := ty) hu hinf (b := some ⟨b, o + 0, none⟩) (n := n) (c := c) (k := k) hv (by rw [hsz]; exact hul) hfit
              (fun p hp => by
                injection hp with hp; subst hp
                rw [add_lit, hsz, Nat.add_zero, ← s8]
                simpa [splice] using hst) (by simp)
            rw [run_v hrun]
            have hn1 : C.n0 ≤ id := by
              rcases Nat.lt_or_ge id C.n0 with hlt | hge
              · obtain ⟨B, hB⟩ := g.bnd b
                have := hB (o + (st.hp id).cells.length + B) (g.win id _ hlt ⟨s5, b, o, g1, rfl, .inr ⟨s6, by simp only; omega⟩⟩)
                omega
              · exact hge
            have gg := g.grow s5 s6 hn1 s1 hn0 g1 k1 news us rl.1 hend rl.2
            refine ⟨_, _, _, .inl rfl, gg, .own i 0 (n + k) false _ c ?_ hfit (by simp) (fun _ => ⟨b, o, _, _, upd_same _ _ _, rfl, setRow_heap w b cs' _ _ _ k1, ?_⟩)⟩
            · show (upd (upd st.hp id _) i _ i).al = true
              rw [upd_same]; exact g.heap.alive id s5
            · show o + 0 + c * (upd (upd st.hp id _) i _ i).sz ≤ _
              rw [upd_same]
              have hq := splice_length cs'.toList (o + (st.hp id).cells.length) us (by simpa using hend)
              simp only [List.size_toArray, hq, Array.length_toList]
              exact g4
        · obtain ⟨os, ho, rlo⟩ := olds
          have hol : os.length = n * sz := by rw [rlo.1]; exact s8
          have hrun := run_app_new (w := w) (ty := ty) hu hinf hzz ho (by rw [hsz]; exact hol) hv (by rw [hsz]; exact hul) (by omega) s13 (by rw [hby]; exact s12)
          rw [run_v hrun]
          have gw := g.weaken id false (!(st.hp id).wb) (by simp) (fun _ => s5) (.inr (.inr trivial))
          have hle : ∀ x v, R C st m w x v → R C { st with hp := upd st.hp id { st.hp id with grow := false, live := !(st.hp id).wb } } m w x v := fun x v r => by
            refine r.mono (fun p u hp hx' => ⟨hp, fun h => hx' ?_⟩) (Shp.refl w) (fun q hq => ?_)
            · refine h.imp (fun x => x) (fun ⟨q, hl, b, o, hm, hb, hrr⟩ => ?_)
              by_cases hqi : q = id
              · subst hqi
                simp only [upd_same] at hl hrr
                simp only [Bool.not_eq_true'] at hl
                simp [hl] at hrr
              · simp only [upd_ne _ _ hqi] at hl hrr
                exact ⟨q, hl, b, o, hm, hb, hrr⟩
            · by_cases hqi : q = id
              · subst hqi; simp only [upd_same]; exact ⟨hq, by simp⟩
              · simp only [upd_ne _ _ hqi]; exact ⟨hq, by simp⟩
          have rl2 := (rlo.append rl).mono hle
          obtain ⟨m', h1, h2⟩ := append_new gw (i := i) hn0 (by show (upd st.hp id _ i).al = false; rw [upd_ne _ _ s3]; exact s1) (st.hp id).wb (st.hp id).grow e sz rl2 (n + k) (grownCap w (n + k) c e) (grownCap_ge _ _ _ _) (by simp [hol, hul, Nat.add_mul]) z.cells hzsz
          refine ⟨_, _, m', .inl rfl, ?_, ?_⟩
          · have hb' : ({ st.hp id with cells := (st.hp id).cells ++ news } : HBlk) = ⟨true, true, (st.hp id).wb, (st.hp id).grow, e, sz, (st.hp id).cells ++ news⟩ := blk_eq (g.heap.alive id s5) s5 s10 s11
            simp only [setAll, List.foldl_cons, List.foldl_nil, hb']
            exact h1
          · have hb' : ({ st.hp id with cells := (st.hp id).cells ++ news } : HBlk) = ⟨true, true, (st.hp id).wb, (st.hp id).grow, e, sz, (st.hp id).cells ++ news⟩ := blk_eq (g.heap.alive id s5) s5 s10 s11
            simp only [setAll, List.foldl_cons, List.foldl_nil, hb']
            exact h2
    · rename_i n full cells
      simp only [Option.some.injEq] at he
      subst he
      simp only [Res.val.injEq] at hr
      obtain ⟨rfl, rfl⟩ := hr
      obtain ⟨s1, s2, rfl, rfl, s5, s6, s7, s8, s9, s10, s11, s12⟩ := hs
      obtain ⟨us, hv, rl⟩ := news_holds g hy hnews s2 s10
      have hul : us.length = k * sz := by rw [rl.1]; exact s7
      obtain ⟨zs, hzs, hzl⟩ : ∃ zs, zrT C.P e = some zs ∧ zs.length = sz := by
        cases hq : zrT C.P e with
        | none => rw [hq] at s12; cases s12
        | some zs => rw [hq] at s12; simp at s12; exact ⟨zs, rfl, s12⟩
      obtain ⟨z, hzz, hzc⟩ := zrT_spec hzs hinf
      have hzsz : z.cells.size = sz := by rw [← hzl, ← hzc]; simp
      obtain ⟨os, ho, rlo⟩ := news_holds g hx (rd := []) (k := n) (p := True) (news := cells) rfl trivial s11
      have hol : os.length = n * sz := by rw [rlo.1]; exact s6
      cases hx with
      | sl _ _ _ ad c vs hl hc hf hnn hfl hcell hrep =>
        have hcn := hf rfl
        subst hcn
        rcases s5 with hk | hn'
        · have hrun := run_app_new (w := w) (ty := ty) hu hinf hzz ho (by rw [hsz]; exact hol) hv (by rw [hsz]; exact hul) (by omega) s9 (by rw [hby]; exact s8)
          rw [run_v hrun]
          obtain ⟨m', h1, h2⟩ := append_new g (i := i) hn0 s1 true true e sz (rlo.append rl) (c + k) (grownCap w (c + k) c e) (grownCap_ge _ _ _ _) (by simp [hol, hul, Nat.add_mul]) z.cells hzsz
          exact ⟨_, _, m', .inl rfl, h1, h2⟩
        · subst hn'
          rcases Nat.eq_zero_or_pos k with hk' | hk
          · subst hk'
            have hnl : news = [] := List.eq_nil_of_length_eq_zero (by simpa using s7)
            have hul0 : us = [] := List.eq_nil_of_length_eq_zero (by simpa using hul)
            have hcl : cells = [] := List.eq_nil_of_length_eq_zero (by simpa using s6)
            subst hnl hul0 hcl
            have hrun := run_app_room (w := w) (w' := w) (ty := ty) hu hinf (b := ad) (n := 0) (c := 0) (k := 0) hv (by simp) (Nat.le_refl _) (fun p _ => by simp [storeCells]) (fun _ => rfl)
            rw [run_v hrun]
            refine ⟨_, _, _, .inl rfl, g.phantom i s1 hn0 _ rfl rfl, .own i 0 0 false ad 0 ?_ (Nat.zero_le _) (by simp) (by omega)⟩
            show (upd st.hp i _ i).al = true
            rw [upd_same]
          · have hrun := run_app_new (w := w) (ty := ty) hu hinf hzz ho (by rw [hsz]; exact hol) hv (by rw [hsz]; exact hul) (by omega) s9 (by rw [hby]; exact s8)
            rw [run_v hrun]
            obtain ⟨m', h1, h2⟩ := append_new g (i := i) hn0 s1 true true e sz (rlo.append rl) (0 + k) (grownCap w (0 + k) 0 e) (grownCap_ge _ _ _ _) (by simp [hol, hul]) z.cells hzsz
            exact ⟨_, _, m', .inl rfl, h1, h2⟩
    · cases he
  · cases he

end Go.Proofs.YtfmebdmgnmogaaaGreatDoor.Hv
