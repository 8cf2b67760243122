/- The operations' soundness, second part: structs and rows put together, loads, stores, numbers, indices. No statement of its own. -/
import Derived.Test.YtfmebdmgnmogaaaDoorQHvSnd1
namespace Go.Proofs.YtfmebdmgnmogaaaDoor.Hv
open Go Go.RowKit

variable {C : Ctx} {st : HS} {m : Mp} {a : Act} {w : World}

theorem add_add (a : Addr) (i j : Nat) : (a.add i).add j = a.add (i + j) := by
  unfold Addr.add
  by_cases hi : i = 0 <;> by_cases hj : j = 0 <;> simp [hi, hj, Nat.add_assoc]

theorem RL.consts (zs : List Value) (h : ∀ z ∈ zs, z.oneCell' = true) : RL C st m w (zs.map ofConst) zs := by
  refine ⟨by simp, fun j x v hx hv => ?_⟩
  simp only [List.getElem?_map, hv, Option.map_some, Option.some.injEq] at hx
  subst hx
  exact ⟨h v (List.mem_of_getElem? hv), ofConst_rep v⟩

theorem RL.rep (xs : List HV) (vs : List Value) (h : RL C st m w xs vs) : R C st m w (.agg xs) (.agg vs.toArray) :=
  .agg xs vs h.1 (fun j x v hx hv => (h.2 j x v hx hv).2)

theorem RL.ex {xs : List HV} {vs : List Value} (h : RL C st m w xs vs) (j : Nat) (x : HV) (hx : xs[j]? = some x) : ∃ v, vs.toArray[j]? = some v ∧ v.oneCell' = true ∧ R C st m w x v := by
  have hlt : j < vs.length := by have := (List.getElem?_eq_some_iff.1 hx).1; have := h.1; omega
  have hv : vs[j]? = some vs[j] := List.getElem?_eq_getElem hlt
  obtain ⟨h1, h2⟩ := h.2 j x _ hx hv
  exact ⟨vs[j], by simp [hlt], h1, h2⟩

theorem snd_build (g : Good C st m a w) {t : TypeId} {parts : List (Nat × HV)} {us : Array (Nat × Value)} (hl : us.toList.length = parts.length)
    (hp : ∀ (j : Nat) (p : Nat × HV) (u : Nat × Value), parts[j]? = some p → us.toList[j]? = some u → u.1 = p.1 ∧ R C st m w p.2 u.2)
    {E : Eff} {x : HV} {wr : List (Nat × HBlk)} (he : effBuild C.P t parts = some E) (hs : E.side) (hr : E.res = .val x wr) :
    Out C st a wr x ((do let v ← Instr.build t us; Pure.pure (Next.value v) : Sem Next).run C.P w) := by
  unfold effBuild at he
  split at he
  · rename_i zs fs hz' hf
    split at he
    · rename_i cs hfill
      simp only [pvs, Option.some.injEq] at he
      subst he
      simp only [Res.val.injEq] at hr
      obtain ⟨rfl, rfl⟩ := hr
      obtain ⟨ws, e1, e2⟩ := fill_rep (C := C) (st := st) (m := m) (w := w) parts us.toList (zs.map ofConst) zs cs (RL.consts zs hs.1) hl hp hs.2 hfill
      have hb : C.P.built t us.toList = some ws.toArray := by
        unfold Program.built
        unfold zrT at hz'
        unfold fsT at hf
        cases hi : C.P.info? t with
        | none => simp [hi] at hz'
        | some info =>
          cases hzz : info.zero with
          | none => simp [hi, hzz] at hz'
          | some z =>
            simp only [hi, hzz, Option.bind_some, Option.map_some, Option.some.injEq] at hz'
            subst hz'
            cases hu : C.P.underlying t with
            | none => simp [hu] at hf
            | some d =>
              cases d <;> simp only [hu] at hf <;> try (cases hf; done)
              rename_i fields
              simp only [hzz, hf]
              simpa using e1
      rw [run_v (run_build w t us _ hb)]
      exact Out.pure g (RL.rep cs ws e2)
    · cases he
  · cases he

theorem reps_length {α : Type} (zs : List α) (n : Nat) : (reps zs n).length = n * zs.length := by
  induction n with
  | zero => simp [reps]
  | succ n ih => simp [reps, ih, Nat.add_mul]; omega
theorem reps_get {α : Type} (zs : List α) : ∀ (n j : Nat), j < n * zs.length → (reps zs n)[j]? = zs[j % zs.length]?
  | 0, j, h => by simp at h
  | n + 1, j, h => by
    simp only [reps]
    rw [Nat.add_mul] at h
    by_cases hj : j < zs.length
    · rw [List.getElem?_append_left hj, Nat.mod_eq_of_lt hj]
    · rw [List.getElem?_append_right (by omega), reps_get zs n _ (by omega)]
      congr 1
      exact (Nat.mod_eq_sub_mod (by omega)).symm
theorem made_reps (z : Array Value) (n k : Nat) (h : k = n * z.size) : madeCells z k = (reps z.toList n).toArray := by
  subst h
  apply Array.ext
  · simp [size_madeCells, reps_length]
  · intro j h1 h2
    have hj : j < n * z.toList.length := by simpa [size_madeCells] using h1
    have h0 : 0 < z.size := by
      rcases Nat.eq_zero_or_pos z.size with e | e
      · rw [show z.toList.length = z.size from by simp, e] at hj; omega
      · exact e
    have e := reps_get z.toList n j hj
    have hm : j % z.size < z.size := Nat.mod_lt _ h0
    have e' : (reps z.toList n)[j]? = some z[j % z.size] := by rw [e]; simp [hm]
    have e3 : (reps z.toList n)[j]'(by simpa [reps_length] using hj) = z[j % z.size] := by
      have := (List.getElem?_eq_some_iff.1 e').2
      exact this
    simp [madeCells, e3, hm, getElem!_pos]
theorem RL.reps {zs : List Value} (h : ∀ z ∈ zs, z.oneCell' = true) (n : Nat) : RL C st m w (reps (zs.map ofConst) n) (reps zs n) := by
  induction n with
  | zero => exact ⟨rfl, by simp [Hv.reps]⟩
  | succ n ih =>
    have k := RL.consts (C := C) (st := st) (m := m) (w := w) zs h
    refine ⟨by simp [reps_length], fun j x v hx hv => ?_⟩
    simp only [Hv.reps] at hx hv
    by_cases hj : j < zs.length
    · rw [List.getElem?_append_left (by simpa using hj)] at hx
      rw [List.getElem?_append_left hj] at hv
      exact k.2 j x v hx hv
    · rw [List.getElem?_append_right (by simpa using Nat.le_of_not_lt hj)] at hx
      rw [List.getElem?_append_right (by omega)] at hv
      simp only [List.length_map] at hx
      exact ih.2 _ x v hx hv

theorem elT_spec {P : Program} {t e : TypeId} {sz by_ : Nat} (h : elT P t = some (e, sz, by_)) : P.underlying t = some (.slice e) ∧ ∃ i, P.info? e = some i ∧ i.size = sz ∧ i.bytes = by_ ∧ 0 < sz := by
  unfold elT at h
  split at h
  · rename_i e' hu
    cases hi : P.info? e' with
    | none => simp [hi] at h
    | some i =>
      simp only [hi, Option.bind_some] at h
      split at h
      · cases h
      · rename_i h0
        simp only [Option.some.injEq, Prod.mk.injEq] at h
        obtain ⟨rfl, rfl, rfl⟩ := h
        exact ⟨hu, i, hi, rfl, rfl, Nat.pos_of_ne_zero h0⟩
  · cases h
theorem zrT_spec {P : Program} {e : TypeId} {zs : List Value} {i : TypeInfo} (h : zrT P e = some zs) (hi : P.info? e = some i) : ∃ z, i.zero = some z ∧ z.cells.toList = zs := by
  unfold zrT at h
  cases hz : i.zero with
  | none => simp [hi, hz] at h
  | some z => simp [hi, hz] at h; exact ⟨z, rfl, h⟩

theorem snd_buildSlice (g : Good C st m a w) {i : Nat} (hn : C.n0 ≤ i) {t : TypeId} {n : Nat} {parts : List (Nat × HV)} {us : Array (Nat × Value)} (hl : us.toList.length = parts.length)
    (hp : ∀ (j : Nat) (p : Nat × HV) (u : Nat × Value), parts[j]? = some p → us.toList[j]? = some u → u.1 = p.1 ∧ R C st m w p.2 u.2)
    {E : Eff} {x : HV} {wr : List (Nat × HBlk)} (he : effBuildSlice C.P i st.hp t n parts = some E) (hs : E.side) (hr : E.res = .val x wr) :
    Out C st a wr x ((do let v ← Instr.buildSlice t n us; Pure.pure (Next.value v) : Sem Next).run C.P w) := by
  unfold effBuildSlice at he
  split at he
  · rename_i e sz by_ hel
    obtain ⟨hu, info, hi, hsz, hby, hpos⟩ := elT_spec hel
    split at he
    · rename_i zs hz
      split at he
      · rename_i cs hfill
        simp only [nb, Option.some.injEq] at he
        subst he
        simp only [Res.val.injEq] at hr
        obtain ⟨rfl, rfl⟩ := hr
        obtain ⟨h1, h2, h3, h4, h5⟩ := hs
        obtain ⟨z, hzz, hzl⟩ := zrT_spec hz hi
        obtain ⟨ws, e1, e2⟩ := fill_rep (C := C) (st := st) (m := m) (w := w) parts us.toList _ _ cs (RL.reps h4 n) hl hp h5 hfill
        have hzs : z.cells.size = sz := by have : z.cells.toList.length = sz := by rw [hzl]; exact h3
                                           simpa using this
        have hmk : madeCells z.cells (n * sz) = (reps zs n).toArray := by rw [made_reps z.cells n _ (by rw [hzs]), hzl]
        have hrun : (Instr.buildSlice t n us).run C.P w = .ok (.slice (some ⟨w.heap.size, 0, none⟩) n n) (w.alloc (.cells ws.toArray e)) := by
          have hno : ¬ (n * sz > 16777216) := by omega
          by_cases h0 : n * sz = 0
          · have hmk' : (reps zs n).toArray = #[] := by rw [← hmk, h0]; simp [madeCells]
            rw [hmk'] at e1
            simp [Instr.buildSlice, run_underlying hu, sizeOf, typeInfo, hi, hsz, h0, Array.range_zero', e1, newRow]
          · have e1' : Instr.fill (fun j => some (j * sz, sz)) (madeCells z.cells (n * sz)) us.toList = some ws.toArray := by rw [hmk]; exact e1
            unfold madeCells at e1'
            simp [Instr.buildSlice, run_underlying hu, sizeOf, typeInfo, hi, hsz, h0, hno, zeroValue, hzz, e1', newRow]
        rw [run_v hrun]
        refine nb_out g hn h1 (b := { al := true, live := true, wb := true, grow := true, elem := e, sz := sz, cells := cs }) ⟨rfl, rfl⟩ ws.toArray (by simp [e2.1]) (fun j x hj => RL.ex e2 j x hj) (fun h' X eq => ?_)
        refine .own i 0 n true _ n (by rw [eq]) (Nat.le_refl _) (fun _ => rfl) (fun _ => ⟨w.heap.size, 0, ws.toArray, e, upd_same _ _ _, rfl, heap_new _ _, ?_⟩)
        rw [eq]
        simp only
        have h8 : ∀ (ps : List (Nat × HV)) (a b : List HV), fillH (fun j => some (j * sz, sz)) a ps = some b → b.length = a.length := by
          intro ps
          induction ps with
          | nil => intro a b h; simp [fillH] at h; rw [h]
          | cons p ps ih =>
            intro a b h
            obtain ⟨k, y⟩ := p
            simp only [fillH] at h
            split at h
            · cases h
            · rename_i hcc
              rw [not_or] at hcc
              rw [ih _ _ h, splice_length _ _ _ (by omega)]
        have := h8 parts _ _ hfill
        have h9 := e2.1
        rw [reps_length] at this
        simp only [List.length_map, h3] at this
        simp [h9, this]
      · cases he
    · cases he
  · cases he

theorem reps_add {α : Type} (zs : List α) (a b : Nat) : reps zs (a + b) = reps zs a ++ reps zs b := by
  induction a with
  | zero => simp [reps]
  | succ a ih => rw [Nat.succ_add]; simp [reps, ih]
theorem snd_make (g : Good C st m a w) {i : Nat} (hn : C.n0 ≤ i) {t : TypeId} {lx cx : HV} {lv cv : Value} (hlr : R C st m w lx lv) (hcr : R C st m w cx cv)
    {E : Eff} {x : HV} {wr : List (Nat × HBlk)} (he : effMake C.P i st.hp t lx cx = some E) (hs : E.side) (hr : E.res = .val x wr) :
    Out C st a wr x ((do let v ← Instr.makeSlice t lv cv; Pure.pure (Next.value v) : Sem Next).run C.P w) := by
  unfold effMake at he
  split at he
  · rename_i e sz by_ kl n kc n' hel
    obtain ⟨hu, info, hi, hsz, hby, hpos⟩ := elT_spec hel
    split at he
    · rename_i zs hz
      simp only [nb, Option.some.injEq] at he
      subst he
      simp only [Res.val.injEq] at hr
      obtain ⟨rfl, rfl⟩ := hr
      obtain ⟨h1, h2, hle, h3, h4, h5, h6⟩ := hs
      cases hlr; cases hcr
      obtain ⟨z, hzz, hzl⟩ := zrT_spec hz hi
      have hzs : z.cells.size = sz := by have : z.cells.toList.length = sz := by rw [hzl]; exact h5
                                         simpa using this
      have hmk : madeCells z.cells (n'.toNat * info.size) = (reps zs n'.toNat).toArray := by rw [hsz, made_reps z.cells n'.toNat _ (by rw [hzs]), hzl]
      have hrun := run_make (P := C.P) w t e info z hu hi hzz kl kc n n' h2 hle (by rw [hby]; exact h4) h3
      rw [hmk] at hrun
      rw [run_v hrun]
      refine nb_out g hn h1 (b := { al := true, live := true, wb := true, grow := true, elem := e, sz := sz, cells := reps (zs.map ofConst) n.toNat }) ⟨rfl, rfl⟩ (reps zs n'.toNat).toArray (by simp [reps_length]; exact Nat.mul_le_mul_right _ (by omega))
        (fun j x hj => RL.ex (RL.reps h6 n'.toNat) j x (by rw [show n'.toNat = n.toNat + (n'.toNat - n.toNat) by omega, reps_add, List.getElem?_append_left (List.getElem?_eq_some_iff.1 hj).1]; exact hj)) (fun h' X eq => ?_)
      refine .own i 0 n.toNat _ _ n'.toNat (by rw [eq]) (by omega) (fun h => by have := of_decide_eq_true h; rw [this]) (fun _ => ⟨w.heap.size, 0, (reps zs n'.toNat).toArray, e, upd_same _ _ _, rfl, heap_new _ _, ?_⟩)
      rw [eq]
      simp [reps_length, h5]
    · cases he
  · cases he

/-! ### Loads and stores -/
theorem tyT_spec {P : Program} {t : TypeId} {ag : Bool} {sz : Nat} (h : tyT P t = some (ag, sz)) : ∃ d i, P.underlying t = some d ∧ P.info? t = some i ∧ isAggD d = ag ∧ i.size = sz := by
  unfold tyT at h
  cases hd : P.underlying t with
  | none => simp [hd] at h
  | some d =>
    cases hi : P.info? t with
    | none => simp [hd, hi] at h
    | some i => simp [hd, hi] at h; exact ⟨d, i, rfl, rfl, h.1, h.2⟩
theorem run_isAgg {P : Program} {t : TypeId} {d : TypeDesc} (h : P.underlying t = some d) (w : World) : (isAgg t).run P w = .ok (isAggD d) w := by
  unfold isAgg
  rw [Sem.run_bind, run_underlying h w]
  cases d <;> rfl
theorem run_loadVar {P : Program} {t : TypeId} {ag : Bool} {sz : Nat} (h : tyT P t = some (ag, sz)) (p : Addr) (us : List Value) (hl : us.length = sz) (h1 : ag = false → sz = 1)
    (hc : ∀ j u, us[j]? = some u → w.cell? (p.add j) = some u) : (loadVar t p).run P w = .ok (if ag then .agg us.toArray else us.getD 0 undef) w := by
  obtain ⟨d, i, hd, hi, rfl, rfl⟩ := tyT_spec h
  cases hb : isAggD d with
  | true =>
    have hload := run_loadCells_list (P := P) w p us hc
    rw [hl] at hload
    simp [loadVar, run_isAgg hd, hb, sizeOf, typeInfo, hi, hload]
  | false =>
    have := h1 hb
    have h0 : us[0]? = some us[0] := List.getElem?_eq_getElem (by omega)
    have hcell := hc 0 _ h0
    have hp0 : p.add 0 = p := by unfold Addr.add; simp
    rw [hp0] at hcell
    have hlt : 0 < us.length := by omega
    simp [loadVar, run_isAgg hd, hb, run_load, hcell, List.getD, hlt]

theorem HeapOK.cells (K : HeapOK w C.Xo m st.hp) {id b o : Nat} (hl : (st.hp id).live = true) (hm : m id = some (b, o)) : ∃ cs, w.heap[b]? = some (.cells cs (st.hp id).elem (0, 0)) ∧ o + (st.hp id).cells.length ≤ cs.size ∧
    ∀ (j : Nat) (x : HV), (st.hp id).cells[j]? = some x → ∃ v, cs[o + j]? = some v ∧ v.oneCell' = true ∧ R C st m w x v := by
  rcases K.real id hl with ⟨h1, _⟩ | ⟨b', o', cs, h1, h2, h3, h4⟩
  · rw [hm] at h1; cases h1
  · rw [hm] at h1; injection h1 with h1; injection h1 with e1 e2; subst e1 e2
    exact ⟨cs, h2, h3, h4⟩

/-- The values of a stretch of a block. -/
theorem stretch (K : HeapOK w C.Xo m st.hp) {id b o : Nat} (hl : (st.hp id).live = true) (hm : m id = some (b, o)) (off k : Nat) (hf : off + k ≤ (st.hp id).cells.length) :
    ∃ us, RL C st m w (((st.hp id).cells.drop off).take k) us ∧ us.length = k ∧ ∀ j u, us[j]? = some u → w.cell? ⟨b, o + off + j, none⟩ = some u := by
  obtain ⟨cs, h1, h2, h3⟩ := HeapOK.cells K hl hm
  refine ⟨(cs.toList.drop (o + off)).take k, ⟨?_, fun j x v hx hv => ?_⟩, ?_, fun j u hu => ?_⟩
  · simp; omega
  · simp only [List.getElem?_take, List.getElem?_drop] at hx hv
    split at hx
    · rename_i hj
      rw [if_pos hj] at hv
      obtain ⟨v', e, o1, r⟩ := h3 _ x hx
      have : v' = v := by rw [show o + (off + j) = o + off + j by omega] at e; simp at hv; rw [hv] at e; injection e with e; exact e.symm
      subst this
      exact ⟨o1, r⟩
    · cases hx
  · simp; omega
  · simp only [List.getElem?_take, List.getElem?_drop] at hu
    split at hu
    · rw [cell_row h1]; simpa using hu
    · cases hu

theorem snd_load (g : Good C st m a w) {t : TypeId} {px : HV} {pv' : Value} (hp : R C st m w px pv') {E : Eff} {x : HV} {wr : List (Nat × HBlk)} (he : effLoad C.P t px st.hp = some E) (hs : E.side) (hr : E.res = .val x wr) :
    Out C st a wr x ((do let v ← Instr.loadAt t pv'; Pure.pure (Next.value v) : Sem Next).run C.P w) := by
  unfold effLoad at he
  split at he
  · rename_i ag sz id off ht
    simp only [Option.some.injEq] at he
    subst he
    simp only [Res.val.injEq] at hr
    obtain ⟨rfl, rfl⟩ := hr
    obtain ⟨h1, h2, h3⟩ := hs
    cases hp with
    | ptr _ _ b o ha hm =>
      obtain ⟨us, k1, k2, k3⟩ := stretch g.heap h1 hm off sz h2
      have hrun := run_loadVar (w := w) ht ⟨b, o + off, none⟩ us k2 h3 (fun j u hu => by rw [add_lit]; exact k3 j u hu)
      rw [run_v (s := Instr.loadAt t _) (by simpa [Instr.loadAt, Instr.sureAddr] using hrun)]
      refine Out.pure g ?_
      cases ag with
      | true => exact RL.rep _ _ k1
      | false =>
        have h31 := h3 rfl
        subst h31
        have hx : ((st.hp id).cells.drop off).take 1 = [(st.hp id).cells.getD off .any] := by
          have hlt : off < (st.hp id).cells.length := by omega
          rw [List.drop_eq_getElem_cons hlt, List.take_succ_cons, List.take_zero]
          simp [List.getD, hlt]
        rw [hx] at k1
        have hu0 : us[0]? = some (us.getD 0 undef) := by simp [List.getD, List.getElem?_eq_getElem (show 0 < us.length by omega)]
        exact (k1.2 0 _ _ rfl hu0).2
  · rename_i ag sz cells ht
    simp only [pvs, Option.some.injEq] at he
    subst he
    simp only [Res.val.injEq] at hr
    obtain ⟨rfl, rfl⟩ := hr
    obtain ⟨h1, h2⟩ := hs
    cases hp with
    | iptr _ ad vs hl hfl hc hrep =>
      have hrun := run_loadVar (w := w) ht ad (vs.take sz) (by simp; omega) h2 (fun j u hu => by
        simp only [List.getElem?_take] at hu
        split at hu
        · exact (hc j u hu).1
        · cases hu)
      rw [run_v (s := Instr.loadAt t _) (by simpa [Instr.loadAt, Instr.sureAddr] using hrun)]
      refine Out.pure g ?_
      cases ag with
      | true =>
        refine .agg _ _ (by simp; omega) (fun j x v hx hv => ?_)
        simp only [List.getElem?_take] at hx hv
        split at hx
        · rename_i hj
          rw [if_pos hj] at hv
          exact hrep j x v hx hv
        · cases hx
      | false =>
        have h31 := h2 rfl
        subst h31
        have hc0 : cells[0]? = some (cells.getD 0 .any) := by simp [List.getD, List.getElem?_eq_getElem (show 0 < cells.length by omega)]
        have hv0 : vs[0]? = some ((vs.take 1).getD 0 undef) := by simp [List.getD, List.getElem?_eq_getElem (show 0 < vs.length by omega)]
        exact hrep 0 _ _ hc0 hv0
  · cases he

theorem snd_store (g : Good C st m a w) {t : TypeId} {px y : HV} {pv' u : Value} (hp : R C st m w px pv') (hy : R C st m w y u) {E : Eff} {x : HV} {wr : List (Nat × HBlk)} (he : effStore C.P t px y st.hp = some E) (hs : E.side) (hr : E.res = .val x wr) :
    Out C st a wr x ((do Instr.storeAt t pv' u; Pure.pure Next.skip : Sem Next).run C.P w) := by
  unfold effStore at he
  split at he
  · rename_i ag sz id off ht
    simp only [Option.some.injEq] at he
    subst he
    simp only [Res.val.injEq] at hr
    obtain ⟨rfl, rfl⟩ := hr
    obtain ⟨h1, h2, h3, h4, h5, h6⟩ := hs
    obtain ⟨d, info, hd, hi, _, hsz⟩ := tyT_spec ht
    cases hp with
    | ptr _ _ b o ha hm =>
      obtain ⟨cs, k1, k2, k3⟩ := HeapOK.cells g.heap h1 hm
      have rl := RL.of_cells hy h6
      have hsz' : u.cells.size = sz := by have := rl.1; simp at this; omega
      have h1c : ∀ v ∈ u.cells.toList, v.oneCell' = true := fun v hv => by
        obtain ⟨j, hj⟩ := List.getElem?_of_mem hv
        have hlt : j < y.cellsOf.length := by have := (List.getElem?_eq_some_iff.1 hj).1; rw [← rl.1]; exact this
        exact (rl.2 j _ v (List.getElem?_eq_getElem hlt) hj).1
      have hst := run_storeCells_at C.P b (o + off) (st.hp id).elem u.cells.toList 0 cs w k1 (by simp; omega) h1c
      have hrun : (Instr.storeAt t (.pointer (some ⟨b, o + off, none⟩)) u).run C.P w = .ok () (w.setRow b (splice cs.toList (o + off) u.cells.toList).toArray) := by
        simp only [Instr.storeAt, Instr.sureAddr, storeVar]
        simp [sizeOf, typeInfo, hi, hsz, hsz']
        simpa [splice] using hst
      rw [run_u hrun]
      refine ⟨undef, _, m, .inr ⟨rfl, rfl⟩, ?_, .any _⟩
      exact g.store h1 h2 hm k1 y.cellsOf u.cells.toList rl.1 (by omega) (by omega) rl.2
  · cases he

end Go.Proofs.YtfmebdmgnmogaaaDoor.Hv
