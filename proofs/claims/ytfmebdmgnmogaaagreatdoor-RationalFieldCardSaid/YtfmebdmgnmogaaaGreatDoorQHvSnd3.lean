/- The operations' soundness, third part: numbers, fields, indices, cuts, lengths, appends. No statement of its own. -/
import Derived.Test.YtfmebdmgnmogaaaGreatDoorQHvOp
set_option linter.unusedVariables false
set_option linter.unusedSimpArgs false
namespace Go.Proofs.YtfmebdmgnmogaaaGreatDoor.Hv
open Go Go.RowKit

variable {C : Ctx} {st : HS} {m : Mp} {a : Act} {w : World}

theorem snd_pick (g : Good C st m a w) {cx ax bx : HV} {cv av bv : Value} (hc : R C st m w cx cv) (ha : R C st m w ax av) (hb : R C st m w bx bv) {E : Eff} {x : HV} {wr : List (Nat × HBlk)}
    (he : effPick cx ax bx = some E) (hr : E.res = .val x wr) :
    Out C st a wr x ((do Pure.pure (Next.value (if ← asBool cv then av else bv)) : Sem Next).run C.P w) := by
  unfold effPick at he
  split at he
  · rename_i t
    simp only [pv, Option.some.injEq] at he
    subst he
    simp only [Res.val.injEq] at hr
    obtain ⟨rfl, rfl⟩ := hr
    cases hc
    have hrun : (do Pure.pure (Next.value (if ← asBool (.bool t) then av else bv)) : Sem Next).run C.P w = .ok (.value (if t then av else bv)) w := by simp [asBool]
    rw [hrun]
    refine Out.pure g ?_
    unfold HV.pick
    split
    · cases ha; cases hb; cases t <;> exact .raw _
    · cases t
      · exact hb
      · exact ha
  · cases he

theorem snd_nil (g : Good C st m a w) {px : HV} {v : Value} (hp : R C st m w px v) {E : Eff} {x : HV} {wr : List (Nat × HBlk)} (he : effNil px = some E) (hr : E.res = .val x wr) :
    ∃ p, v = .pointer (some p) ∧ Out C st a wr x (.ok (.value v) w) := by
  unfold effNil at he
  split at he
  · simp only [pv, Option.some.injEq] at he
    subst he
    simp only [Res.val.injEq] at hr
    obtain ⟨rfl, rfl⟩ := hr
    have := Out.pure g hp
    cases hp with
    | ptr _ _ b o _ _ => exact ⟨_, rfl, this⟩
  · simp only [pv, Option.some.injEq] at he
    subst he
    simp only [Res.val.injEq] at hr
    obtain ⟨rfl, rfl⟩ := hr
    have := Out.pure g hp
    cases hp with
    | iptr _ ad vs _ _ _ _ => exact ⟨_, rfl, this⟩
  · cases he

theorem bytes_toList_loop (s : ByteArray) : ∀ (i : Nat) (r : List UInt8), ByteArray.toList.loop s i r = r.reverse ++ s.data.toList.drop i := by
  intro i r
  rw [ByteArray.toList.loop]
  split
  · rename_i h
    have hlt : i < s.data.toList.length := by simpa using h
    rw [bytes_toList_loop s (i + 1), List.drop_eq_getElem_cons hlt]
    simp [ByteArray.get!, h]
  · rename_i h
    have : s.data.toList.drop i = [] := List.drop_eq_nil_of_le (by simpa using h)
    simp [this]
termination_by i => s.size - i
theorem bytes_toList (s : ByteArray) : s.toList = s.data.toList := by rw [ByteArray.toList, bytes_toList_loop]; simp
theorem bytes_beq (s t : ByteArray) : (s.toList == t.toList) = decide (s = t) := by
  rw [bytes_toList, bytes_toList, Bool.eq_iff_iff]
  simp only [beq_iff_eq, decide_eq_true_eq]
  constructor
  · intro h; cases s; cases t; simp only at h; congr 1; exact Array.toList_inj.1 h
  · rintro rfl; rfl

theorem eqGuard_none {P : Program} {op : BinOp} {t : TypeId} {x y : Operand} {u v : Value} (h : ∀ a b, ¬ (u = .agg a ∧ v = .agg b)) (h' : ¬ (u = .nilIface ∧ v = .nilIface)) (w : World) :
    (eqGuard op t x y u v).run P w = .ok () w := by
  unfold eqGuard
  cases u <;> cases v <;> simp_all

theorem int_beq (a b : Int) : (a == b) = decide (a = b) := by rw [Bool.eq_iff_iff]; simp
theorem equalIn_bool {P : Program} {t : TypeId} (h : P.underlying t = some .bool) (d : Nat) (p q : Bool) (w : World) : (Op.equalIn (d + 1) t (.bool p) (.bool q)).run P w = .ok (p == q) w := by
  simp [Op.equalIn, run_underlying h]

theorem snd_bin (g : Good C st m a w) {op : BinOp} {t : TypeId} {xo yo : Operand} {xx yy : HV} {u v : Value} (hx : R C st m w xx u) (hy : R C st m w yy v) {E : Eff} {x : HV} {wr : List (Nat × HBlk)}
    (he : effBin op xx yy = some E) (hs : E.side) (hb : binSide C.P t xx yy) (hr : E.res = .val x wr) :
    Out C st a wr x ((do let z ← (do eqGuard op t xo yo u v; binOp op t u v); Pure.pure (Next.value z) : Sem Next).run C.P w) := by
  unfold effBin at he
  split at he
  · rename_i k n k' n'
    cases hx; cases hy
    split at he
    · rename_i p r hp
      simp only [pvs, Option.some.injEq] at he
      subst he
      simp only [Res.val.injEq] at hr
      obtain ⟨rfl, rfl⟩ := hr
      obtain ⟨rfl, hs⟩ := hs
      have hg : (eqGuard op t xo yo (.int k n) (.int k n')).run C.P w = .ok () w := eqGuard_none (by rintro _ _ ⟨h, _⟩; cases h) (by rintro ⟨h, _⟩; cases h) w
      have hrun : (binOp op t (.int k n) (.int k n')).run C.P w = .ok r w := by
        cases op <;> simp only [arith, Option.some.injEq, Prod.mk.injEq, reduceCtorEq] at hp <;> (obtain ⟨h1, rfl⟩ := hp) <;>
          first
          | (simp [binOp, Op.intArith]; done)
          | (rw [← h1] at hs; simp [binOp, Op.intDiv, hs]; done)
          | (simp [binOp, Op.intCmp]; done)
          | (simp [binOp, Op.intCmp, int_beq]; done)
          | (simp [binOp, Op.intCmp, bne, int_beq]; done)
      rw [run_v (v := r) (w' := w) (by rw [Sem.run_bind, hg]; exact hrun)]
      exact Out.pure g (.raw _)
    · cases he
  · rename_i p q
    cases hx; cases hy
    have hu : C.P.underlying t = some .bool := hb
    have hg : (eqGuard op t xo yo (.bool p) (.bool q)).run C.P w = .ok () w := eqGuard_none (by rintro _ _ ⟨h, _⟩; cases h) (by rintro ⟨h, _⟩; cases h) w
    have heq : (Op.equal t (.bool p) (.bool q)).run C.P w = .ok (p == q) w := equalIn_bool hu 9999 p q w
    split at he
    · simp only [pv, Option.some.injEq] at he
      subst he
      simp only [Res.val.injEq] at hr
      obtain ⟨rfl, rfl⟩ := hr
      rw [run_v (v := .bool (p == q)) (w' := w) (by rw [Sem.run_bind, hg]; simp [binOp, heq])]
      exact Out.pure g (.raw _)
    · simp only [pv, Option.some.injEq] at he
      subst he
      simp only [Res.val.injEq] at hr
      obtain ⟨rfl, rfl⟩ := hr
      rw [run_v (v := .bool (p != q)) (w' := w) (by rw [Sem.run_bind, hg]; simp [binOp, heq, bne])]
      exact Out.pure g (.raw _)
    · cases he
  · rename_i p q
    cases hx; cases hy
    have hg : (eqGuard op t xo yo (.string p) (.string q)).run C.P w = .ok () w := eqGuard_none (by rintro _ _ ⟨h, _⟩; cases h) (by rintro ⟨h, _⟩; cases h) w
    split at he
    · simp only [pv, Option.some.injEq] at he
      subst he
      simp only [Res.val.injEq] at hr
      obtain ⟨rfl, rfl⟩ := hr
      rw [run_v (v := .bool (decide (p = q))) (w' := w) (by rw [Sem.run_bind, hg]; simp [binOp, Op.stringOp, bytes_beq])]
      exact Out.pure g (.raw _)
    · simp only [pv, Option.some.injEq] at he
      subst he
      simp only [Res.val.injEq] at hr
      obtain ⟨rfl, rfl⟩ := hr
      rw [run_v (v := .bool (!decide (p = q))) (w' := w) (by rw [Sem.run_bind, hg]; simp [binOp, Op.stringOp, bytes_beq])]
      exact Out.pure g (.raw _)
    · simp only [pvs, Option.some.injEq] at he
      subst he
      simp only [Res.val.injEq] at hr
      obtain ⟨rfl, rfl⟩ := hr
      have hsum := run_string_add_sum (P := C.P) w p q hs
      rw [run_v (v := .string (p ++ q)) (w' := w) (by rw [Sem.run_bind, hg]; simpa [binOp] using hsum)]
      exact Out.pure g (.raw _)
    · cases he
  · cases he

theorem snd_un (g : Good C st m a w) {op : UnOp} {xx : HV} {u : Value} (hx : R C st m w xx u) {E : Eff} {x : HV} {wr : List (Nat × HBlk)} (he : effUn op xx = some E) (hr : E.res = .val x wr) :
    Out C st a wr x ((do let z ← Op.unary op u; Pure.pure (Next.value z) : Sem Next).run C.P w) := by
  unfold effUn at he
  split at he
  · simp only [pv, Option.some.injEq] at he
    subst he
    simp only [Res.val.injEq] at hr
    obtain ⟨rfl, rfl⟩ := hr
    cases hx
    rename_i b
    rw [run_v (v := .bool (!b)) (w' := w) (by simp [Op.unary])]
    exact Out.pure g (.raw _)
  · simp only [pv, Option.some.injEq] at he
    subst he
    simp only [Res.val.injEq] at hr
    obtain ⟨rfl, rfl⟩ := hr
    cases hx
    rw [run_v (by simp only [Op.unary, Op.intArith]; rfl)]
    exact Out.pure g (.raw _)
  · cases he

theorem snd_conv (g : Good C st m a w) {s t : TypeId} {xx : HV} {u : Value} (hx : R C st m w xx u) {E : Eff} {x : HV} {wr : List (Nat × HBlk)} (he : effConv C.P s t xx = some E) (hs : E.side) (hr : E.res = .val x wr) :
    Out C st a wr x ((do let z ← convert s t u; Pure.pure (Next.value z) : Sem Next).run C.P w) := by
  unfold effConv at he
  split at he
  · rename_i k' n k hd
    simp only [pvs, Option.some.injEq] at he
    subst he
    simp only [Res.val.injEq] at hr
    obtain ⟨rfl, rfl⟩ := hr
    cases hx
    obtain ⟨d, hd'⟩ := Option.isSome_iff_exists.1 hs
    rw [run_v (v := .int k (k.wrap n)) (w' := w) (by
      simp only [convert, Sem.run_bind, run_underlying hd', run_underlying hd, Result.andThen_ok]
      cases d <;> simp [Conv.intToInt])]
    exact Out.pure g (.raw _)
  · rename_i b hd
    simp only [pvs, Option.some.injEq] at he
    subst he
    simp only [Res.val.injEq] at hr
    obtain ⟨rfl, rfl⟩ := hr
    cases hx
    rw [run_v (v := .string b) (w' := w) (by
      simp only [convert, Sem.run_bind, run_underlying hs, run_underlying hd, Result.andThen_ok]
      simp)]
    exact Out.pure g (.raw _)
  · rename_i k' n hd
    simp only [pvs, Option.some.injEq] at he
    subst he
    simp only [Res.val.injEq] at hr
    obtain ⟨rfl, rfl⟩ := hr
    cases hx
    rw [run_v (run_convert_int_string w s t k' n hs hd)]
    exact Out.pure g (.raw _)
  · rename_i b e hd
    simp only [pvs, Option.some.injEq] at he
    subst he
    simp only [Res.val.injEq] at hr
    obtain ⟨rfl, rfl⟩ := hr
    cases hx
    rw [run_v (run_bytes_of_string w s t e b hs.1 hd hs.2)]
    generalize hcap : grownCap w b.size 0 e = cap
    have hge : b.size ≤ cap := hcap ▸ grownCap_ge w b.size 0 e
    have hold : ∀ i, i < w.heap.size → (w.drew.alloc (.cells (bytesRow b cap) e ((bytesRow b cap).size, (bytesRow b cap).size + 1))).heap[i]? = w.heap[i]? := fun i hi => by
      show (w.heap.push _)[i]? = _
      rw [Array.getElem?_push]
      rw [if_neg (by omega)]
    have hnew : (w.drew.alloc (.cells (bytesRow b cap) e ((bytesRow b cap).size, (bytesRow b cap).size + 1))).heap[w.heap.size]? = some (.cells (bytesRow b cap) e ((bytesRow b cap).size, (bytesRow b cap).size + 1)) := by
      show (w.heap.push _)[w.heap.size]? = _
      simp
    have hchg : Chg (fun _ => False) w (w.drew.alloc (.cells (bytesRow b cap) e ((bytesRow b cap).size, (bytesRow b cap).size + 1))) :=
      ⟨rfl, rfl, rfl, (by show w.heap.size ≤ (w.heap.push _).size; simp), fun i cs e' fz h => ⟨cs, (by rw [hold i (Array.getElem?_eq_some_iff.1 h).1]; exact h), rfl⟩,
        fun p v hp _ => by
          have hlt := World.block_lt_of_cell? _ _ hp
          unfold World.cell? at hp ⊢
          rw [hold p.block hlt]; exact hp, fun i hi _ => hold i hi⟩
    refine ⟨_, _, m, .inl rfl, g.world hchg, ?_⟩
    refine .sl b.size false (b.data.toList.map fun x => .raw (.int .u8 x.toNat)) (some ⟨w.heap.size, 0, none⟩) cap (b.data.toList.map fun x => Value.int .u8 x.toNat) (by rw [List.length_map, List.length_map]) hge (by simp) (by rw [List.length_map, Array.length_toList]; exact Nat.le_refl _) ?_ (fun j v hj => ?_) (fun j x v hx hv => ?_)
    · intro x hx
      simp only [List.mem_map] at hx
      obtain ⟨y, _, rfl⟩ := hx
      rfl
    · rw [List.getElem?_map, Option.map_eq_some_iff] at hj
      obtain ⟨y, hy, rfl⟩ := hj
      refine ⟨_, rfl, ?_, fun hx => ?_⟩
      · rw [add_lit]
        have hjl : j < b.data.size := by
          have := (List.getElem?_eq_some_iff.1 hy).1
          simpa using this
        simp only [World.cell?, hnew, Nat.zero_add]
        simp only [bytesRow]
        rw [Array.getElem?_append_left (by simpa using hjl)]
        simp only [Array.getElem?_map]
        rw [← Array.getElem?_toList, hy]; rfl
      · rw [add_lit] at hx
        rcases hx with hx | ⟨id, hx⟩
        · have := g.heap.lt _ hx; simp at this
        · have := Xid_lt g.heap hx; simp at this
    · simp only [List.getElem?_map, Option.map_eq_some_iff] at hx hv
      obtain ⟨z1, e1, rfl⟩ := hx
      obtain ⟨z2, e2, rfl⟩ := hv
      rw [e1] at e2
      injection e2 with e2
      subst e2
      exact .raw _
  · cases he

theorem fdT_spec {P : Program} {s : TypeId} {f o sz : Nat} {ag : Bool} (h : fdT P s f = some (o, sz, ag)) :
    ∃ fs fd i, P.underlying s = some (.struct fs) ∧ fs[f]? = some fd ∧ fd.offset = o ∧ tyT P fd.type = some (ag, sz) ∧ P.info? fd.type = some i ∧ i.size = sz ∧ sz ≠ 0 := by
  unfold fdT at h
  split at h
  · rename_i fs hu
    cases hf : fs[f]? with
    | none => simp [hf] at h
    | some fd =>
      simp only [hf, Option.bind_some] at h
      cases ht : tyT P fd.type with
      | none => simp [ht] at h
      | some ty =>
        simp only [ht, Option.bind_some] at h
        split at h
        · cases h
        · rename_i h0
          simp only [Option.some.injEq, Prod.mk.injEq] at h
          obtain ⟨rfl, rfl, rfl⟩ := h
          obtain ⟨d, i, _, hi, _, hsz⟩ := tyT_spec (ag := ty.1) (sz := ty.2) ht
          exact ⟨fs, fd, i, hu, hf, rfl, ht, hi, hsz, h0⟩
  · cases h

theorem iptr_drop {X : AP} {h : Hp} {cells : List HV} {ad : Addr} (r : Rep w X m h (.iptr cells) (.pointer (some ad))) (k : Nat) : Rep w X m h (.iptr (cells.drop k)) (.pointer (some (ad.add k))) := by
  cases r with
  | iptr _ _ vs hl hf hc hr =>
    refine .iptr _ _ (vs.drop k) (by simp [hl]) (fun x hx => hf x (List.mem_of_mem_drop hx)) (fun j v hj => ?_) (fun j x v h1 h2 => ?_)
    · rw [List.getElem?_drop] at hj
      rw [add_add]; exact hc _ v hj
    · rw [List.getElem?_drop] at h1 h2
      exact hr _ x v h1 h2

theorem snd_fieldAddr (g : Good C st m a w) {s : TypeId} {f : Nat} {px : HV} {v : Value} (hp : R C st m w px v) {E : Eff} {x : HV} {wr : List (Nat × HBlk)} (he : effFieldAddr C.P s px f = some E) (hr : E.res = .val x wr) :
    Out C st a wr x ((do let z ← Instr.fieldAt s v f; Pure.pure (Next.value z) : Sem Next).run C.P w) := by
  have run : ∀ {o sz : Nat} {ag : Bool} (p : Addr), fdT C.P s f = some (o, sz, ag) → (Instr.fieldAt s (.pointer (some p)) f).run C.P w = .ok (.pointer (some (p.add o))) w := by
    intro o sz ag p hf
    obtain ⟨fs, fd, i, hu, hfd, rfl, _, hi, hsz, h0⟩ := fdT_spec hf
    have h0' : ¬ i.size = 0 := by rw [hsz]; exact h0
    simp [Instr.fieldAt, run_underlying hu, hfd, Instr.sureAddr, fieldPlace, sizeOf, typeInfo, hi, h0']
  unfold effFieldAddr at he
  split at he
  · rename_i o sz ag id off hf
    simp only [pv, Option.some.injEq] at he
    subst he
    simp only [Res.val.injEq] at hr
    obtain ⟨rfl, rfl⟩ := hr
    cases hp with
    | ptr _ _ b oo ha hm =>
      rw [run_v (run ⟨b, oo + off, none⟩ hf), add_lit, Nat.add_assoc]
      exact Out.pure g (.ptr id (off + o) b oo ha hm)
  · rename_i o sz ag cells hf
    simp only [pvs, Option.some.injEq] at he
    subst he
    simp only [Res.val.injEq] at hr
    obtain ⟨rfl, rfl⟩ := hr
    have hp' := hp
    cases hp' with
    | iptr _ ad vs _ _ _ _ =>
      rw [run_v (run ad hf)]
      exact Out.pure g (iptr_drop hp o)
  · cases he

theorem snd_field (g : Good C st m a w) {s : TypeId} {f : Nat} {px : HV} {v : Value} (hp : R C st m w px v) {E : Eff} {x : HV} {wr : List (Nat × HBlk)} (he : effField C.P s px f = some E) (hs : E.side) (hr : E.res = .val x wr) :
    Out C st a wr x ((do let z ← Instr.field s v f; Pure.pure (Next.value z) : Sem Next).run C.P w) := by
  unfold effField at he
  split at he
  · rename_i o sz ag cs hf
    simp only [pvs, Option.some.injEq] at he
    subst he
    simp only [Res.val.injEq] at hr
    obtain ⟨rfl, rfl⟩ := hr
    obtain ⟨h1, h2⟩ := hs
    obtain ⟨fs, fd, i, hu, hfd, rfl, hty, hi, hsz, h0⟩ := fdT_spec hf
    obtain ⟨d, i', hd, hi', hag, _⟩ := tyT_spec hty
    cases hp with
    | agg _ vs hl hrep =>
      cases ag with
      | true =>
        have hrun : (Instr.field s (.agg vs.toArray) f).run C.P w = .ok (.agg ((vs.drop fd.offset).take sz).toArray) w := by
          simp [Instr.field, run_underlying hu, hfd, asAgg, part, run_isAgg hd, hag, sizeOf, typeInfo, hi, hsz]
        rw [run_v hrun]
        refine Out.pure g (.agg _ _ (by simp; omega) (fun j x v h3 h4 => ?_))
        simp only [List.getElem?_take, List.getElem?_drop] at h3 h4
        split at h3
        · rename_i hj
          rw [if_pos hj] at h4
          exact hrep _ x v h3 h4
        · cases h3
      | false =>
        have := h2 rfl
        subst this
        have hlt : fd.offset < vs.length := by omega
        have hlt' : fd.offset < cs.length := by omega
        have hrun : (Instr.field s (.agg vs.toArray) f).run C.P w = .ok vs[fd.offset] w := by
          simp [Instr.field, run_underlying hu, hfd, asAgg, part, run_isAgg hd, hag, hlt]
        rw [run_v hrun]
        refine Out.pure g ?_
        have e : cs.getD fd.offset .any = cs[fd.offset] := by simp [List.getD, hlt']
        rw [if_neg (by simp), e]
        exact hrep fd.offset _ _ (List.getElem?_eq_getElem hlt') (List.getElem?_eq_getElem hlt)
  · cases he

theorem snd_indexAddr (g : Good C st m a w) {t : TypeId} {px ix : HV} {v u : Value} (hp : R C st m w px v) (hi : R C st m w ix u) {E : Eff} {x : HV} {wr : List (Nat × HBlk)}
    (he : effIndexAddr C.P t px ix = some E) (hs : E.side) (hr : E.res = .val x wr) :
    Out C st a wr x ((do let z ← Instr.indexAt t v u; Pure.pure (Next.value z) : Sem Next).run C.P w) := by
  have run : ∀ {e : TypeId} {sz by_ : Nat} (p : Addr) (n c : Nat) (k : IntKind) (i : Int), elT C.P t = some (e, sz, by_) → 0 ≤ i ∧ i < n →
      (Instr.indexAt t (.slice (some p) n c) (.int k i)).run C.P w = .ok (.pointer (some (p.add (i.toNat * sz)))) w := by
    intro e sz by_ p n c k i hel hi
    obtain ⟨hu, info, hinf, hsz, _, _⟩ := elT_spec hel
    simp [Instr.indexAt, asIntOf, run_underlying hu, hi.1, hi.2, sizeOf, typeInfo, hinf, hsz]
  have runA : ∀ {n sz : Nat} (p : Addr) (k : IntKind) (i : Int), arT C.P t = some (n, sz) → 0 ≤ i ∧ i < n →
      (Instr.indexAt t (.pointer (some p)) (.int k i)).run C.P w = .ok (.pointer (some (p.add (i.toNat * sz)))) w := by
    intro n sz p k i hel hi
    unfold arT at hel
    split at hel
    · rename_i n' e hu
      cases hinf : C.P.info? e with
      | none => simp [hinf] at hel
      | some info =>
        simp only [hinf, Option.bind_some, Option.some.injEq, Prod.mk.injEq] at hel
        obtain ⟨rfl, rfl⟩ := hel
        simp [Instr.indexAt, asIntOf, run_underlying hu, hi.1, hi.2, sizeOf, typeInfo, hinf, Instr.sureAddr]
    · cases hel
  unfold effIndexAddr at he
  split at he
  · rename_i id off n full
    split at he
    · rename_i e sz by_ k i hel
      simp only [pvs, Option.some.injEq] at he
      subst he
      simp only [Res.val.injEq] at hr
      obtain ⟨rfl, rfl⟩ := hr
      cases hi
      cases hp with
      | own _ _ _ _ ad c ha hc hf hb =>
        obtain ⟨b, o, cs, e', h1, rfl, h3, h4⟩ := hb (by omega)
        rw [run_v (run _ n c k i hel hs), add_lit]
        exact Out.pure g (by rw [Nat.add_assoc]; exact .ptr id _ b o ha h1)
    · cases he
  · rename_i n full cells
    split at he
    · rename_i e sz by_ k i hel
      simp only [pvs, Option.some.injEq] at he
      subst he
      simp only [Res.val.injEq] at hr
      obtain ⟨rfl, rfl⟩ := hr
      cases hi
      cases hp with
      | sl _ _ _ ad c vs hl hc hf hn hfl hcell hrep =>
        have hlt : 0 < vs.length := by omega
        obtain ⟨p, rfl, _, _⟩ := hcell 0 _ (List.getElem?_eq_getElem hlt)
        rw [run_v (run p n c k i hel hs)]
        refine Out.pure g (iptr_drop (.iptr cells p vs hl hfl (fun j v hj => ?_) hrep) _)
        obtain ⟨p', e1, e2, e3⟩ := hcell j v hj
        injection e1 with e1; subst e1
        exact ⟨e2, e3⟩
    · cases he
  · rename_i id off
    split at he
    · rename_i n sz k i hel
      simp only [pvs, Option.some.injEq] at he
      subst he
      simp only [Res.val.injEq] at hr
      obtain ⟨rfl, rfl⟩ := hr
      cases hi
      cases hp with
      | ptr _ _ b o ha h1 =>
        rw [run_v (runA _ k i hel hs), add_lit]
        exact Out.pure g (by rw [Nat.add_assoc]; exact .ptr id _ b o ha h1)
    · cases he
  · rename_i cells
    split at he
    · rename_i n sz k i hel
      simp only [pvs, Option.some.injEq] at he
      subst he
      simp only [Res.val.injEq] at hr
      obtain ⟨rfl, rfl⟩ := hr
      cases hi
      have hp' := hp
      cases hp' with
      | iptr _ ad vs hl hf hc hrep =>
        rw [run_v (runA ad k i hel hs)]
        exact Out.pure g (iptr_drop hp _)
    · cases he
  · cases he

theorem snd_index (g : Good C st m a w) {t : TypeId} {px ix : HV} {v u : Value} (hp : R C st m w px v) (hi : R C st m w ix u) {E : Eff} {x : HV} {wr : List (Nat × HBlk)}
    (he : effIndex C.P t px ix = some E) (hs : E.side) (hr : E.res = .val x wr) :
    Out C st a wr x ((do let z ← Instr.index t v u; Pure.pure (Next.value z) : Sem Next).run C.P w) := by
  unfold effIndex at he
  split at he
  · rename_i s k i
    simp only [pvs, Option.some.injEq] at he
    subst he
    simp only [Res.val.injEq] at hr
    obtain ⟨rfl, rfl⟩ := hr
    cases hp; cases hi
    obtain ⟨h1, h2, h3⟩ := hs
    have hlt : i.toNat < s.size := by omega
    have hlt' : i.toNat < s.data.size := hlt
    have e : s[i.toNat]? = some (s.data.getD i.toNat 0) := by
      rw [getElem?_pos s i.toNat hlt]
      simp only [Array.getD, Option.some.injEq]
      rw [dif_pos hlt']
      rfl
    rw [run_v (v := .int .u8 ((s.data.getD i.toNat 0).toNat : Int)) (w' := w) (by simp only [Instr.index, asIntOf, Sem.run_bind, Sem.run_pure, Result.andThen_ok, run_underlying h1, if_pos h2, e])]
    exact Out.pure g (.raw _)
  · cases he

theorem snd_extract (g : Good C st m a w) {k : Nat} {px : HV} {v : Value} (hp : R C st m w px v) {E : Eff} {x : HV} {wr : List (Nat × HBlk)} (he : effExtract px k = some E) (hs : E.side) (hr : E.res = .val x wr) :
    Out C st a wr x ((do let z ← Instr.extract v k; Pure.pure (Next.value z) : Sem Next).run C.P w) := by
  unfold effExtract at he
  split at he
  · rename_i xs
    simp only [pvs, Option.some.injEq] at he
    subst he
    simp only [Res.val.injEq] at hr
    obtain ⟨rfl, rfl⟩ := hr
    cases hp with
    | tup _ vs hl hrep =>
      have hlt : k < vs.length := by have : k < xs.length := hs; omega
      have hlt' : k < xs.length := hs
      rw [run_v (v := vs[k]) (w' := w) (by simp [Instr.extract, hlt])]
      refine Out.pure g ?_
      have e : xs.getD k .any = xs[k] := by simp [List.getD, hlt']
      rw [e]
      exact hrep k _ _ (List.getElem?_eq_getElem hlt') (List.getElem?_eq_getElem hlt)
  · cases he

theorem snd_len (g : Good C st m a w) {t ty : TypeId} {px : HV} {v : Value} (hp : R C st m w px v) {E : Eff} {x : HV} {wr : List (Nat × HBlk)} (he : effLen C.P t px = some E) (hs : E.side) (hr : E.res = .val x wr) :
    Out C st a wr x ((do let z ← Builtin.len_ #[t] ty #[v]; Pure.pure (Next.value z) : Sem Next).run C.P w) := by
  have slen : ∀ (ad : Option Addr) (n c : Nat), (elT C.P t).isSome = true → (Builtin.len_ #[t] ty #[.slice ad n c]).run C.P w = .ok (goInt n) w := by
    intro ad n c h
    obtain ⟨⟨e, sz, by_⟩, h⟩ := Option.isSome_iff_exists.1 h
    obtain ⟨hu, _⟩ := elT_spec h
    simp [Builtin.len_, run_underlying hu]
  unfold effLen at he
  split at he
  · simp only [pvs, Option.some.injEq] at he
    subst he
    simp only [Res.val.injEq] at hr
    obtain ⟨rfl, rfl⟩ := hr
    cases hp
    rw [run_v (slen _ _ _ hs)]
    exact Out.pure g (.raw _)
  · simp only [pvs, Option.some.injEq] at he
    subst he
    simp only [Res.val.injEq] at hr
    obtain ⟨rfl, rfl⟩ := hr
    cases hp
    rw [run_v (slen _ _ _ hs)]
    exact Out.pure g (.raw _)
  · simp only [pvs, Option.some.injEq] at he
    subst he
    simp only [Res.val.injEq] at hr
    obtain ⟨rfl, rfl⟩ := hr
    cases hp
    rename_i s
    rw [run_v (v := goInt s.size) (w' := w) (by have hs' : C.P.underlying t = some .string := hs; simp [Builtin.len_, run_underlying hs'])]
    exact Out.pure g (.raw _)
  · cases he

end Go.Proofs.YtfmebdmgnmogaaaGreatDoor.Hv
