/- The operations' soundness, fourth part: cuts and appends. No statement of its own. -/
import Derived.Test.YtfmebdmgnmogaaaDoorQHvSnd3
namespace Go.Proofs.YtfmebdmgnmogaaaDoor.Hv
open Go Go.RowKit

variable {C : Ctx} {st : HS} {m : Mp} {a : Act} {w : World}

theorem run_bound {P : Program} (k : IntKind) (i : Int) (y : Nat) (code : BoundsCode) (h : 0 ≤ i ∧ i ≤ y) (w : World) : (Instr.sliceBound (.int k i) y code).run P w = .ok i.toNat w := by
  simp only [Instr.sliceBound, asIntOf, Sem.run_bind, Sem.run_pure, Result.andThen_ok, if_pos h]

/-- An optional bound: the abstract one and the value. -/
def RO (C : Ctx) (st : HS) (m : Mp) (w : World) (x : Option HV) (v : Option Value) : Prop :=
  match x, v with
  | none, none => True
  | some x, some v => R C st m w x v
  | _, _ => False

theorem run_bounds {P : Program} {b : Bool} {n c : Nat} {lo hi mx : Option HV} {lv hv mv : Option Value} (rl : RO C st m w lo lv) (rh : RO C st m w hi hv) (rm : RO C st m w mx mv) {l h q : Int}
    (el : intH lo 0 = some l) (eh : intH hi n = some h) (eq : intH mx 0 = some q) (hnc : n ≤ c) (h1 : 0 ≤ l) (h2 : l ≤ h) (h3 : h ≤ n) (h4 : mx.isSome = true → hi.isSome = true ∧ h ≤ q ∧ q ≤ n) :
    (Instr.sliceBounds b n c lv hv mv).run P w = .ok (l.toNat, h.toNat, if mx.isSome = true then q.toNat else c) w := by
  have key : ∀ {x : Option HV} {v : Option Value} {d r : Int}, RO C st m w x v → intH x d = some r → (x = none ∧ v = none ∧ r = d) ∨ ∃ k, x = some (.raw (.int k r)) ∧ v = some (.int k r) := by
    intro x v d r hr hx
    cases x with
    | none => cases v with
      | none => simp [intH] at hx; exact .inl ⟨rfl, rfl, hx.symm⟩
      | some v => exact hr.elim
    | some x =>
      cases v with
      | none => exact hr.elim
      | some v =>
        unfold intH at hx
        split at hx
        · rename_i e; cases e
        · rename_i k n' e
          injection e with e; subst e
          injection hx with hx; subst hx
          cases (show Rep _ _ _ _ _ _ from hr)
          exact .inr ⟨k, rfl, rfl⟩
        · cases hx
  rcases key rl el with ⟨rfl, rfl, rfl⟩ | ⟨kl, rfl, rfl⟩ <;> rcases key rh eh with ⟨rfl, rfl, rfl⟩ | ⟨kh, rfl, rfl⟩ <;> rcases key rm eq with ⟨rfl, rfl, rfl⟩ | ⟨km, rfl, rfl⟩
  all_goals simp only [Option.isSome_some, Option.isSome_none, Bool.false_eq_true, false_implies, true_implies, if_true, if_false, false_and] at h4 ⊢
  · simp [Instr.sliceBounds]
  · simp [Instr.sliceBounds, run_bound (P := P) kh h c _ ⟨by omega, by omega⟩ w]
  · obtain ⟨_, h5, h6⟩ := h4
    simp [Instr.sliceBounds, run_bound (P := P) km q c _ ⟨by omega, by omega⟩ w, run_bound (P := P) kh h q.toNat _ ⟨by omega, by omega⟩ w]
  · have e : (n : Int).toNat = n := by omega
    simp [Instr.sliceBounds, run_bound (P := P) kl l n _ ⟨by omega, by omega⟩ w]
  · simp [Instr.sliceBounds, run_bound (P := P) kh h c _ ⟨by omega, by omega⟩ w, run_bound (P := P) kl l h.toNat _ ⟨by omega, by omega⟩ w]
  · obtain ⟨_, h5, h6⟩ := h4
    simp [Instr.sliceBounds, run_bound (P := P) km q c _ ⟨by omega, by omega⟩ w, run_bound (P := P) kh h q.toNat _ ⟨by omega, by omega⟩ w, run_bound (P := P) kl l h.toNat _ ⟨by omega, by omega⟩ w]

theorem run_cut {P : Program} {t e : TypeId} {sz by_ : Nat} (hel : elT P t = some (e, sz, by_)) {ad : Option Addr} {n c l h q : Nat} {lv hv mv : Option Value}
    (hb : (Instr.sliceBounds true n c lv hv mv).run P w = .ok (l, h, q) w) :
    (Instr.sliceAt t (.slice ad n c) lv hv mv).run P w = .ok (.slice (if q = l then ad else ad.map (·.add (l * sz))) (h - l) (q - l)) w := by
  obtain ⟨hu, i, hi, hsz, _, _⟩ := elT_spec hel
  simp [Instr.sliceAt, Instr.slice, run_underlying hu, hb, sizeOf, typeInfo, hi, hsz]

theorem snd_slice (g : Good C st m a w) {t : TypeId} {px : HV} {v : Value} {lo hi mx : Option HV} {lv hv mv : Option Value} (hp : R C st m w px v) (rl : RO C st m w lo lv) (rh : RO C st m w hi hv) (rm : RO C st m w mx mv)
    {E : Eff} {x : HV} {wr : List (Nat × HBlk)} (he : effSlice C.P t px lo hi mx st.hp = some E) (hs : E.side) (hr : E.res = .val x wr) :
    Out C st a wr x ((do let z ← Instr.sliceAt t v lv hv mv; Pure.pure (Next.value z) : Sem Next).run C.P w) := by
  unfold effSlice at he
  split at he
  · rename_i id off n full
    split at he
    · rename_i e sz by_ l h q hel el eh eq
      simp only [Option.some.injEq] at he
      subst he
      simp only [Res.val.injEq] at hr
      obtain ⟨rfl, rfl⟩ := hr
      obtain ⟨h1, h2, h3, h4, h5⟩ := hs
      cases hp with
      | own _ _ _ _ ad c ha hc hf hb =>
        have hbd := run_bounds (P := C.P) (b := true) rl rh rm el eh eq hc h1 h2 h3 h4
        rw [run_v (run_cut hel hbd)]
        refine Out.pure g ?_
        have hq : h.toNat ≤ (if mx.isSome = true then q.toNat else c) ∧ (if mx.isSome = true then q.toNat else c) ≤ c := by
          split
          · rename_i hm; have := h4 hm; omega
          · omega
        have hfull : (if mx.isSome = true then decide (q = h) else full && decide (h = n)) = true → (if mx.isSome = true then q.toNat else c) = h.toNat := by
          split
          · intro hd; have : q = h := by simpa using hd
            rw [this]
          · intro hd
            simp only [Bool.and_eq_true, decide_eq_true_eq] at hd
            have := hf hd.1; omega
        generalize (if mx.isSome = true then q.toNat else c) = M at *
        have e : (h - l).toNat = h.toNat - l.toNat := by omega
        rw [e]
        refine .own id _ _ _ _ _ ha (by omega) (fun hd => by have := hfull hd; omega) (fun h0 => ?_)
        obtain ⟨b, o, cs, e', k1, k2, k3, k4⟩ := hb (by omega)
        refine ⟨b, o, cs, e', k1, ?_, k3, ?_⟩
        · rw [if_neg (by omega), k2]
          simp only [Option.map_some, add_lit, Option.some.injEq, Addr.mk.injEq, true_and, and_true]
          omega
        · rw [← h5]
          have : l.toNat * (st.hp id).sz + (M - l.toNat) * (st.hp id).sz ≤ c * (st.hp id).sz := by rw [← Nat.add_mul]; exact Nat.mul_le_mul_right _ (by omega)
          show o + (off + l.toNat * (st.hp id).sz) + (M - l.toNat) * (st.hp id).sz ≤ cs.size
          omega
    · cases he
  · rename_i n full cells
    split at he
    · rename_i e sz by_ l h q hel el eh eq
      simp only [pvs, Option.some.injEq] at he
      subst he
      simp only [Res.val.injEq] at hr
      obtain ⟨rfl, rfl⟩ := hr
      obtain ⟨h1, h2, h3, h4, h5⟩ := hs
      obtain ⟨_, _, _, _, _, hpos⟩ := elT_spec hel
      cases hp with
      | sl _ _ _ ad c vs hl hc hf hn hfl hcell hrep =>
        have hbd := run_bounds (P := C.P) (b := true) rl rh rm el eh eq hc h1 h2 h3 h4
        rw [run_v (run_cut hel hbd)]
        refine Out.pure g ?_
        have hq : h.toNat ≤ (if mx.isSome = true then q.toNat else c) ∧ (if mx.isSome = true then q.toNat else c) ≤ c := by
          split
          · rename_i hm; have := h4 hm; omega
          · omega
        have hfull : (if mx.isSome = true then decide (q = h) else full && decide (h = n)) = true → (if mx.isSome = true then q.toNat else c) = h.toNat := by
          split
          · intro hd; have : q = h := by simpa using hd
            rw [this]
          · intro hd
            simp only [Bool.and_eq_true, decide_eq_true_eq] at hd
            have := hf hd.1; omega
        generalize (if mx.isSome = true then q.toNat else c) = M at *
        have e : (h - l).toNat = h.toNat - l.toNat := by omega
        rw [e]
        have hlen : l.toNat * sz + (h.toNat - l.toNat) * sz ≤ cells.length := by
          rw [h5, ← Nat.add_mul]; exact Nat.mul_le_mul_right _ (by omega)
        have hone : h.toNat - l.toNat ≤ (h.toNat - l.toNat) * sz := Nat.le_mul_of_pos_right _ hpos
        refine .sl _ _ _ _ _ ((vs.drop (l.toNat * sz)).take ((h.toNat - l.toNat) * sz)) (by simp; omega) (by omega) (fun hd => by have := hfull hd; omega) (by simp; omega)
          (fun x hx => hfl x (List.mem_of_mem_drop (List.mem_of_mem_take hx))) (fun j v hj => ?_) (fun j x v hx hv => ?_)
        · simp only [List.getElem?_take, List.getElem?_drop] at hj
          split at hj
          · rename_i hjl
            obtain ⟨p, rfl, k1, k2⟩ := hcell _ v hj
            have hne : ¬ M = l.toNat := by
              intro e0
              have : h.toNat - l.toNat = 0 := by omega
              rw [this, Nat.zero_mul] at hjl
              omega
            refine ⟨p.add (l.toNat * sz), by rw [if_neg hne]; rfl, ?_, ?_⟩
            · rw [add_add]; exact k1
            · rw [add_add]; exact k2
          · cases hj
        · simp only [List.getElem?_take, List.getElem?_drop] at hx hv
          split at hx
          · rename_i hjl
            rw [if_pos hjl] at hv
            exact hrep _ x v hx hv
          · cases hx
    · cases he
  · rename_i s
    split at he
    · rename_i l h el eh
      simp only [pvs, Option.some.injEq] at he
      subst he
      simp only [Res.val.injEq] at hr
      obtain ⟨rfl, rfl⟩ := hr
      obtain ⟨h1, h2, h3, h4, h5⟩ := hs
      cases hp
      have hmn : mx = none := by cases mx <;> simp_all
      subst hmn
      have hmv : mv = none := by cases mv with
        | none => rfl
        | some v => exact rm.elim
      subst hmv
      have hbd := run_bounds (P := C.P) (C := C) (st := st) (m := m) (w := w) (b := false) (n := s.size) (c := s.size) (mx := none) (mv := none) (q := 0) rl rh rm el eh rfl (Nat.le_refl _) h3 h4 h5 (by simp)
      rw [run_v (v := .string (s.extract l.toNat h.toNat)) (w' := w) (by simp [Instr.sliceAt, Instr.slice, run_underlying h1, hbd])]
      exact Out.pure g (.raw _)
    · cases he
  · cases he

end Go.Proofs.YtfmebdmgnmogaaaDoor.Hv
