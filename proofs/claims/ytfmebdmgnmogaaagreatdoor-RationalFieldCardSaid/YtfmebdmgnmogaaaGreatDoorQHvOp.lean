/- What each operation of the code does to abstract values: definitions. No statement of its own. -/
import Derived.Test.YtfmebdmgnmogaaaGreatDoorQHvGl
set_option linter.unusedVariables false
set_option linter.unusedSimpArgs false
namespace Go.Proofs.YtfmebdmgnmogaaaGreatDoor.Hv
open Go Go.RowKit

def ofConst : Value → HV
  | .slice none 0 0 => .sl 0 true []
  | v => .raw v

def ev (fr : Nat → HV) : Operand → HV
  | .tmp t => fr t
  | .const v => ofConst v
  | .global g => .raw (.pointer (some ⟨g, 0, none⟩))
  | .func f => .raw (.func (.func f) #[] #[])

def HV.one : HV → Bool
  | .raw v => v.oneCell'
  | .sl .. | .own .. | .ptr .. => true
  | _ => false
def HV.cellsOf : HV → List HV
  | .agg cs => cs
  | x => [x]

def isAggD : TypeDesc → Bool
  | .struct _ | .array _ _ => true
  | _ => false
def tyT (P : Program) (t : TypeId) : Option (Bool × Nat) := (P.underlying t).bind fun d => (P.info? t).map fun i => (isAggD d, i.size)
def zrT (P : Program) (t : TypeId) : Option (List Value) := ((P.info? t).bind (·.zero)).map fun z => z.cells.toList
def fdT (P : Program) (s : TypeId) (f : Nat) : Option (Nat × Nat × Bool) :=
  match P.underlying s with
  | some (.struct fs) => (fs[f]?).bind fun fd => (tyT P fd.type).bind fun ty => if ty.2 = 0 then none else some (fd.offset, ty.2, ty.1)
  | _ => none
def elT (P : Program) (t : TypeId) : Option (TypeId × Nat × Nat) :=
  match P.underlying t with
  | some (.slice e) => (P.info? e).bind fun i => if i.size = 0 then none else some (e, i.size, i.bytes)
  | _ => none

inductive Res where
  | val (v : HV) (wr : List (Nat × HBlk))
  | call (f : FuncId) (args : List HV) (wr : List (Nat × HBlk))
  | callB (f : FuncId) (bid boff : Nat) (b : HBlk) (args : List HV) (wr : List (Nat × HBlk))
structure Eff where
  rd : List Nat
  wr : List Nat
  side : Prop
  res : Res

def pv (v : HV) : Option Eff := some ⟨[], [], True, .val v []⟩
def pvs (p : Prop) (v : HV) : Option Eff := some ⟨[], [], p, .val v []⟩
def nb (i : Nat) (hp : Hp) (p : Prop) (v : HV) (b : HBlk) : Option Eff := some ⟨[i], [i], (hp i).al = false ∧ p, .val v [(i, b)]⟩

def HV.pick : Bool → HV → HV → HV
  | t, .raw (.bool u), .raw (.bool v) => .raw (.bool (bif t then u else v))
  | t, a, b => bif t then a else b
def effPick (c a b : HV) : Option Eff :=
  match c with
  | .raw (.bool t) => pv (.pick t a b)
  | _ => none

def effAlloc (P : Program) (i : Nat) (hp : Hp) (t : TypeId) : Option Eff :=
  match zrT P t with
  | some zs => nb i hp (∀ z ∈ zs, z.oneCell' = true) (.ptr i 0) { al := true, live := true, wb := true, elem := t, cells := zs.map ofConst }
  | none => none
def effBox (i : Nat) (hp : Hp) (t : TypeId) (x : HV) : Option Eff :=
  nb i hp (∀ c ∈ x.cellsOf, c.one = true) (.ptr i 0) { al := true, live := true, wb := true, elem := t, cells := x.cellsOf }

def fillH (place : Nat → Option (Nat × Nat)) : List HV → List (Nat × HV) → Option (List HV)
  | cs, [] => some cs
  | cs, (i, x) :: r =>
    match place i with
    | none => none
    | some (o, s) => if x.cellsOf.length ≠ s ∨ o + s > cs.length then none else fillH place (splice cs o x.cellsOf) r
def fsT (P : Program) (t : TypeId) : Option (List (Nat × Nat)) :=
  match P.underlying t with
  | some (.struct fs) => fs.toList.mapM fun f => (P.info? f.type).map fun i => (f.offset, i.size)
  | _ => none
def effBuild (P : Program) (t : TypeId) (parts : List (Nat × HV)) : Option Eff :=
  match zrT P t, fsT P t with
  | some zs, some fs =>
    match fillH (fun i => fs[i]?) (zs.map ofConst) parts with
    | some cs => pvs ((∀ z ∈ zs, z.oneCell' = true) ∧ (∀ x ∈ parts, ∀ c ∈ x.2.cellsOf, c.one = true)) (.agg cs)
    | none => none
  | _, _ => none
def reps {α : Type} (zs : List α) : Nat → List α
  | 0 => []
  | n + 1 => zs ++ reps zs n
def effBuildSlice (P : Program) (i : Nat) (hp : Hp) (t : TypeId) (n : Nat) (parts : List (Nat × HV)) : Option Eff :=
  match elT P t with
  | some (e, sz, _) =>
    match zrT P e with
    | some zs =>
      match fillH (fun j => some (j * sz, sz)) (reps (zs.map ofConst) n) parts with
      | some cs => nb i hp (n * sz ≤ 16777216 ∧ zs.length = sz ∧ (∀ z ∈ zs, z.oneCell' = true) ∧ (∀ x ∈ parts, ∀ c ∈ x.2.cellsOf, c.one = true)) (.own i 0 n true)
          { al := true, live := true, wb := true, grow := true, elem := e, sz := sz, cells := cs }
      | none => none
    | none => none
  | none => none
def effMake (P : Program) (i : Nat) (hp : Hp) (t : TypeId) (l c : HV) : Option Eff :=
  match elT P t, l, c with
  | some (e, sz, by_), .raw (.int _ n), .raw (.int _ n') =>
    match zrT P e with
    | some zs => nb i hp (0 ≤ n ∧ n ≤ n' ∧ n' ≤ 9223372036854775807 ∧ (by_ : Int) * n' ≤ 281474976710656 ∧ zs.length = sz ∧ (∀ z ∈ zs, z.oneCell' = true)) (.own i 0 n.toNat (decide (n' = n)))
        { al := true, live := true, wb := true, grow := true, elem := e, sz := sz, cells := reps (zs.map ofConst) n.toNat }
    | none => none
  | _, _, _ => none

def effLoad (P : Program) (t : TypeId) (x : HV) (hp : Hp) : Option Eff :=
  match tyT P t, x with
  | some (ag, sz), .ptr id off =>
    some ⟨[id], [], (hp id).live = true ∧ off + sz ≤ (hp id).cells.length ∧ (ag = false → sz = 1),
      .val (if ag then .agg (((hp id).cells.drop off).take sz) else (hp id).cells.getD off .any) []⟩
  | some (ag, sz), .iptr cells => pvs (sz ≤ cells.length ∧ (ag = false → sz = 1)) (if ag then .agg (cells.take sz) else cells.getD 0 .any)
  | _, _ => none
def effStore (P : Program) (t : TypeId) (x y : HV) (hp : Hp) : Option Eff :=
  match tyT P t, x with
  | some (_, sz), .ptr id off =>
    some ⟨[id], [id], (hp id).live = true ∧ (hp id).wb = true ∧ y.cellsOf.length = sz ∧ 0 < sz ∧ off + sz ≤ (hp id).cells.length ∧ (∀ c ∈ y.cellsOf, c.one = true),
      .val .any [(id, { hp id with cells := splice (hp id).cells off y.cellsOf })]⟩
  | _, _ => none
def effNil (x : HV) : Option Eff :=
  match x with
  | .ptr id off => pv (.ptr id off)
  | .iptr cells => pv (.iptr cells)
  | _ => none

def arith (op : BinOp) (k : IntKind) (a b : Int) : Option (Prop × Value) :=
  match op with
  | .add => some (True, .int k (k.wrap (a + b)))
  | .sub => some (True, .int k (k.wrap (a - b)))
  | .mul => some (True, .int k (k.wrap (a * b)))
  | .quo => some (b ≠ 0, .int k (k.wrap (a.tdiv b)))
  | .rem => some (b ≠ 0, .int k (a.tmod b))
  | .eql => some (True, .bool (decide (a = b)))
  | .neq => some (True, .bool (!decide (a = b)))
  | .lss => some (True, .bool (decide (a < b)))
  | .leq => some (True, .bool (decide (a ≤ b)))
  | .gtr => some (True, .bool (decide (b < a)))
  | .geq => some (True, .bool (decide (b ≤ a)))
  | _ => none
def effBin (op : BinOp) (x y : HV) : Option Eff :=
  match x, y with
  | .raw (.int k a), .raw (.int k' b) =>
    match arith op k a b with
    | some (p, v) => pvs (k = k' ∧ p) (.raw v)
    | none => none
  | .raw (.bool a), .raw (.bool b) =>
    match op with
    | .eql => pv (.raw (.bool (a == b)))
    | .neq => pv (.raw (.bool (a != b)))
    | _ => none
  | .raw (.string a), .raw (.string b) =>
    match op with
    | .eql => pv (.raw (.bool (decide (a = b))))
    | .neq => pv (.raw (.bool (!decide (a = b))))
    | .add => pvs (a.size + b.size ≤ 9223372036854775807) (.raw (.string (a ++ b)))
    | _ => none
  | _, _ => none
/-- '==' of bools asks the type. -/
def binSide (P : Program) (t : TypeId) (x y : HV) : Prop :=
  match x, y with
  | .raw (.bool _), .raw (.bool _) => P.underlying t = some .bool
  | _, _ => True
def effUn (op : UnOp) (x : HV) : Option Eff :=
  match op, x with
  | .not, .raw (.bool b) => pv (.raw (.bool (!b)))
  | .neg, .raw (.int k n) => pv (.raw (.int k (k.wrap (0 - n))))
  | _, _ => none
def effConv (P : Program) (src dst : TypeId) (x : HV) : Option Eff :=
  match x, P.underlying dst with
  | .raw (.int _ n), some (.int k) => pvs ((P.underlying src).isSome = true) (.raw (.int k (k.wrap n)))
  | .raw (.string s), some .string => pvs (P.underlying src = some .string) (.raw (.string s))
  | .raw (.int _ n), some .string => pvs ((P.underlying src).isSome = true) (.raw (.string (Utf8.encode n)))
  | .raw (.string s), some (.slice e) => pvs (P.underlying src = some .string ∧ P.underlying e = some (.int .u8)) (.sl s.size false (s.data.toList.map fun b => .raw (.int .u8 b.toNat)))
  | _, _ => none

def effFieldAddr (P : Program) (s : TypeId) (x : HV) (f : Nat) : Option Eff :=
  match fdT P s f, x with
  | some (o, _, _), .ptr id off => pv (.ptr id (off + o))
  | some (o, sz, _), .iptr cells => pvs (o + sz ≤ cells.length) (.iptr (cells.drop o))
  | _, _ => none
def effField (P : Program) (s : TypeId) (x : HV) (f : Nat) : Option Eff :=
  match fdT P s f, x with
  | some (o, sz, ag), .agg cs => pvs (o + sz ≤ cs.length ∧ (ag = false → sz = 1)) (if ag then .agg ((cs.drop o).take sz) else cs.getD o .any)
  | _, _ => none
/-- An array's length, and the cells of an element. -/
def arT (P : Program) (t : TypeId) : Option (Nat × Nat) :=
  match P.underlying t with
  | some (.array n e) => (P.info? e).bind fun i => some (n, i.size)
  | _ => none
def effIndexAddr (P : Program) (t : TypeId) (x ix : HV) : Option Eff :=
  match x with
  | .own id off n _ => match elT P t, ix with
    | some (_, sz, _), .raw (.int _ i) => pvs (0 ≤ i ∧ i < n) (.ptr id (off + i.toNat * sz))
    | _, _ => none
  | .sl n _ cells => match elT P t, ix with
    | some (_, sz, _), .raw (.int _ i) => pvs (0 ≤ i ∧ i < n) (.iptr (cells.drop (i.toNat * sz)))
    | _, _ => none
  | .ptr id off => match arT P t, ix with
    | some (n, sz), .raw (.int _ i) => pvs (0 ≤ i ∧ i < n) (.ptr id (off + i.toNat * sz))
    | _, _ => none
  | .iptr cells => match arT P t, ix with
    | some (n, sz), .raw (.int _ i) => pvs (0 ≤ i ∧ i < n) (.iptr (cells.drop (i.toNat * sz)))
    | _, _ => none
  | _ => none
def effIndex (P : Program) (t : TypeId) (x ix : HV) : Option Eff :=
  match x, ix with
  | .raw (.string s), .raw (.int _ i) => pvs (P.underlying t = some .string ∧ 0 ≤ i ∧ i < s.size) (.raw (.int .u8 ((s.data.getD i.toNat 0).toNat : Int)))
  | _, _ => none
def effExtract (x : HV) (k : Nat) : Option Eff :=
  match x with
  | .tup vs => pvs (k < vs.length) (vs.getD k .any)
  | _ => none

def intH : Option HV → Int → Option Int
  | none, d => some d
  | some (.raw (.int _ n)), _ => some n
  | _, _ => none
def effSlice (P : Program) (t : TypeId) (x : HV) (lo hi mx : Option HV) (hp : Hp) : Option Eff :=
  match x with
  | .own id off n full =>
    match elT P t, intH lo 0, intH hi n, intH mx 0 with
    | some (_, sz, _), some l, some h, some q =>
      some ⟨[id], [], 0 ≤ l ∧ l ≤ h ∧ h ≤ n ∧ (mx.isSome = true → hi.isSome = true ∧ h ≤ q ∧ q ≤ n) ∧ (hp id).sz = sz,
        .val (.own id (off + l.toNat * sz) (h - l).toNat (if mx.isSome = true then decide (q = h) else full && decide (h = n))) []⟩
    | _, _, _, _ => none
  | .sl n full cells =>
    match elT P t, intH lo 0, intH hi n, intH mx 0 with
    | some (_, sz, _), some l, some h, some q =>
      pvs (0 ≤ l ∧ l ≤ h ∧ h ≤ n ∧ (mx.isSome = true → hi.isSome = true ∧ h ≤ q ∧ q ≤ n) ∧ cells.length = n * sz)
        (.sl (h - l).toNat (if mx.isSome = true then decide (q = h) else full && decide (h = n)) ((cells.drop (l.toNat * sz)).take ((h - l).toNat * sz)))
    | _, _, _, _ => none
  | .raw (.string s) =>
    match intH lo 0, intH hi s.size with
    | some l, some h => pvs (P.underlying t = some .string ∧ mx.isSome = false ∧ 0 ≤ l ∧ l ≤ h ∧ h ≤ s.size) (.raw (.string (s.extract l.toNat h.toNat)))
    | _, _ => none
  | _ => none

def effLen (P : Program) (t : TypeId) (x : HV) : Option Eff :=
  match x with
  | .own _ _ n _ => pvs ((elT P t).isSome = true) (.raw (.int .i64 n))
  | .sl n _ _ => pvs ((elT P t).isSome = true) (.raw (.int .i64 n))
  | .raw (.string s) => pvs (P.underlying t = some .string) (.raw (.int .i64 s.size))
  | _ => none

/-- The cells that a slice value holds. -/
def newsOf (hp : Hp) : HV → Option (List Nat × Nat × Prop × List HV)
  | .sl k _ cells => some ([], k, True, cells)
  | .own id off k _ => some ([id], k, (hp id).live = true ∧ off + k * (hp id).sz ≤ (hp id).cells.length, ((hp id).cells.drop off).take (k * (hp id).sz))
  | _ => none
def effAppend (P : Program) (i : Nat) (hp : Hp) (ty ty' : TypeId) (x y : HV) : Option Eff :=
  match elT P ty, newsOf hp y with
  | some (e, sz, by_), some (rd, k, p, news) =>
    match x with
    | .own id off n _ => some ⟨i :: id :: rd, [i, id], (hp i).al = false ∧ p ∧ i ≠ id ∧ ty' = ty ∧ (hp id).live = true ∧ (hp id).grow = true ∧ off = 0 ∧ (hp id).cells.length = n * sz ∧ news.length = k * sz ∧
        (hp id).elem = e ∧ (hp id).sz = sz ∧ (n + k) * by_ ≤ 140737488355328 ∧ (n + k) ≤ 9223372036854775807 ∧ (∀ c ∈ news, c.one = true) ∧ (zrT P e).map List.length = some sz,
        .val (.own i 0 (n + k) false) [(id, { hp id with grow := false, live := !(hp id).wb }), (i, { hp id with cells := (hp id).cells ++ news })]⟩
    | .sl n full cells => some ⟨i :: rd, [i], (hp i).al = false ∧ p ∧ ty' = ty ∧ full = true ∧ (0 < k ∨ n = 0) ∧ cells.length = n * sz ∧ news.length = k * sz ∧ (n + k) * by_ ≤ 140737488355328 ∧ (n + k) ≤ 9223372036854775807 ∧
        (∀ c ∈ news, c.one = true) ∧ (∀ c ∈ cells, c.one = true) ∧ (zrT P e).map List.length = some sz,
        .val (.own i 0 (n + k) false) [(i, { al := true, live := true, wb := true, grow := true, elem := e, sz := sz, cells := cells ++ news })]⟩
    | _ => none
  | _, _ => none

/-! Arguments of a call: a row of the call's own is handed over as it reads, and not written any more. -/
def fz1 (hp : Hp) : HV → HV
  | .own id off n full => .sl n full (((hp id).cells.drop off).take (n * (hp id).sz))
  | x => x
def fz (hp : Hp) : HV → HV
  | .agg cs => .agg (cs.map (fz1 hp))
  | x => fz1 hp x
/-- The capacity is forgotten. -/
def nf1 : HV → HV
  | .sl n _ cs => .sl n false cs
  | x => x
def nf : HV → HV
  | .agg cs => .agg (cs.map nf1)
  | x => nf1 x
def fzn (hp : Hp) (x : HV) : HV := nf (fz hp x)
def id1 : HV → List Nat
  | .own id _ _ _ => [id]
  | _ => []
def ids : HV → List Nat
  | .agg cs => cs.flatMap id1
  | x => id1 x
def ok1 (hp : Hp) : HV → Prop
  | .own id off n _ => (hp id).live = true ∧ off + n * (hp id).sz ≤ (hp id).cells.length ∧ 0 < (hp id).sz ∧ (∀ c ∈ (hp id).cells, c.flat = true)
  | .raw _ | .sl .. | .any => True
  | _ => False
def okz (hp : Hp) : HV → Prop
  | .agg cs => ∀ c ∈ cs, ok1 hp c
  | x => ok1 hp x
def offs (hp : Hp) (l : List Nat) : List (Nat × HBlk) := l.map fun id => (id, { hp id with wb := false })
def effCall (Γ : FuncId → Option Nat) (f : FuncId) (args : List HV) (hp : Hp) : Option Eff :=
  match Γ f with
  | none => some ⟨args.flatMap ids, args.flatMap ids, ∀ x ∈ args, okz hp x, .call f (args.map (fzn hp)) (offs hp (args.flatMap ids))⟩
  | some j =>
    match args[j]? with
    | some (.own id off n full) =>
      let rest := (args.set j (.raw (.bool true)))
      some ⟨id :: rest.flatMap ids, id :: rest.flatMap ids, (∀ x ∈ rest, okz hp x) ∧ (hp id).live = true ∧ (hp id).wb = true ∧ off + n * (hp id).sz ≤ (hp id).cells.length ∧ id ∉ rest.flatMap ids ∧ (∀ c ∈ (hp id).cells, c.flat = true),
        .callB f id off { hp id with grow := false, cells := ((hp id).cells.drop off).take (n * (hp id).sz) } ((rest.map (fzn hp)).set j (.own 0 0 n full)) (offs hp (rest.flatMap ids))⟩
    | _ => none

def effBuiltin (P : Program) (i : Nat) (hp : Hp) (b : Builtin) (tys : List TypeId) (args : List HV) : Option Eff :=
  match b, tys, args with
  | .len, [t], [x] => effLen P t x
  | .append, [t, t'], [x, y] => effAppend P i hp t t' x y
  | .max, [_, _], [.raw (.int k x), .raw (.int k' y)] => pv (.raw (.int k (if y > x then y else x)))
  | _, _, _ => none

def opEff (P : Program) (Γ : FuncId → Option Nat) (i : Nat) (op : Op) (fr : Nat → HV) (hp : Hp) : Option Eff :=
  match op with
  | .move x => pv (ev fr x)
  | .assign x => pv (ev fr x)
  | .pick c a b => effPick (ev fr c) (ev fr a) (ev fr b)
  | .alloc t => effAlloc P i hp t
  | .box t x => effBox i hp t (ev fr x)
  | .build t parts => effBuild P t (parts.toList.map fun p => (p.1, ev fr p.2))
  | .buildSlice t n parts => effBuildSlice P i hp t n (parts.toList.map fun p => (p.1, ev fr p.2))
  | .load t x => effLoad P t (ev fr x) hp
  | .store t x y => effStore P t (ev fr x) (ev fr y) hp
  | .nilCheck x => effNil (ev fr x)
  | .binOp op t x y _ => (effBin op (ev fr x) (ev fr y)).map fun E => { E with side := E.side ∧ binSide P t (ev fr x) (ev fr y) }
  | .unOp op _ x => effUn op (ev fr x)
  | .convert s t x => effConv P s t (ev fr x)
  | .makeSlice t l c => effMake P i hp t (ev fr l) (ev fr c)
  | .slice t x lo hi mx => effSlice P t (ev fr x) (lo.map (ev fr)) (hi.map (ev fr)) (mx.map (ev fr)) hp
  | .fieldAddr s x f => effFieldAddr P s (ev fr x) f
  | .field s x f => effField P s (ev fr x) f
  | .indexAddr t x ix => effIndexAddr P t (ev fr x) (ev fr ix)
  | .index t x ix => effIndex P t (ev fr x) (ev fr ix)
  | .extract x k => effExtract (ev fr x) k
  | .call c =>
    match c.callee with
    | .builtin b => effBuiltin P i hp b c.argTypes.toList (c.args.toList.map (ev fr))
    | .value (.func f) => effCall Γ f (c.args.toList.map (ev fr)) hp
    | _ => none
  | _ => none

end Go.Proofs.YtfmebdmgnmogaaaGreatDoor.Hv
namespace Go.Proofs.YtfmebdmgnmogaaaGreatDoor.Hv
open Go Go.RowKit

def setAll (hp : Hp) (wr : List (Nat × HBlk)) : Hp := wr.foldl (fun h p => upd h p.1 p.2) hp

/-- What an operation leaves: the value read, the blocks set. -/
def Out (C : Ctx) (st : HS) (a : Act) (wr : List (Nat × HBlk)) (x : HV) (r : Result Next) : Prop :=
  ∃ v' w' m', (r = .ok (.value v') w' ∨ (r = .ok .skip w' ∧ v' = undef)) ∧ Good C { st with hp := setAll st.hp wr } m' a w' ∧
    Rep w' (Xt C.Xo m' (setAll st.hp wr)) m' (setAll st.hp wr) x v'

variable {C : Ctx} {st : HS} {m : Mp} {a : Act} {w : World}

abbrev R (C : Ctx) (st : HS) (m : Mp) (w : World) (x : HV) (v : Value) : Prop := Rep w (Xt C.Xo m st.hp) m st.hp x v

theorem Out.pure (g : Good C st m a w) {x : HV} {v : Value} (r : R C st m w x v) : Out C st a [] x (.ok (.value v) w) := ⟨v, w, m, .inl rfl, g, r⟩

theorem run_v {P : Program} {s : Sem Value} {w w' : World} {v : Value} (h : s.run P w = .ok v w') : (do let x ← s; Pure.pure (Next.value x) : Sem Next).run P w = .ok (.value v) w' := by
  simp [h]
theorem run_u {P : Program} {s : Sem Unit} {w w' : World} (h : s.run P w = .ok () w') : (do s; Pure.pure Next.skip : Sem Next).run P w = .ok .skip w' := by
  simp [h]

theorem ofConst_rep {X : AP} {h : Hp} (v : Value) : Rep w X m h (ofConst v) v := by
  unfold ofConst
  split
  · exact .sl 0 true [] none 0 [] rfl (Nat.le_refl _) (fun _ => rfl) (Nat.zero_le _) (by simp) (by simp) (by simp)
  · exact .raw _
theorem ofConst_one {v : Value} (h : v.oneCell' = true) : (ofConst v).one = true := by
  unfold ofConst
  split
  · rfl
  · exact h
theorem one_rep {X : AP} {h : Hp} {x : HV} {v : Value} (r : Rep w X m h x v) (ho : x.one = true) : v.oneCell' = true := by
  cases r <;> first | exact ho | rfl | simp [HV.one] at ho

theorem cells_rep {X : AP} {h : Hp} {x : HV} {v : Value} (r : Rep w X m h x v) (ho : ∀ c ∈ x.cellsOf, c.one = true) :
    v.cells.size = x.cellsOf.length ∧ ∀ (j : Nat) (c : HV), x.cellsOf[j]? = some c → ∃ u, v.cells[j]? = some u ∧ u.oneCell' = true ∧ Rep w X m h c u := by
  have base : ∀ {x : HV} {v : Value}, Rep w X m h x v → x.cellsOf = [x] → x.one = true → v.cells.size = x.cellsOf.length ∧
      ∀ (j : Nat) (c : HV), x.cellsOf[j]? = some c → ∃ u, v.cells[j]? = some u ∧ u.oneCell' = true ∧ Rep w X m h c u := by
    intro x v r e ho
    have h1 := one_rep r ho
    have hc : v.cells = #[v] := by cases v <;> first | rfl | simp [Value.oneCell'] at h1
    rw [hc, e]
    refine ⟨rfl, fun j c hj => ?_⟩
    cases j with
    | zero => simp at hj; subst hj; exact ⟨v, rfl, h1, r⟩
    | succ j => simp at hj
  cases x with
  | agg cs =>
    cases r with
    | agg _ vs hl hr =>
      refine ⟨by simpa [Value.cells, HV.cellsOf] using hl, fun j c hj => ?_⟩
      have hlt : j < vs.length := by have := (List.getElem?_eq_some_iff.1 hj).1; simp only [HV.cellsOf] at this; omega
      have hv : vs[j]? = some vs[j] := List.getElem?_eq_getElem hlt
      have rr := hr j c _ hj hv
      exact ⟨vs[j], by simp [Value.cells, hlt], one_rep rr (ho c (List.mem_of_getElem? hj)), rr⟩
  | any => exact base r rfl (ho _ (by simp [HV.cellsOf]))
  | raw v => exact base r rfl (ho _ (by simp [HV.cellsOf]))
  | sl _ _ _ => exact base r rfl (ho _ (by simp [HV.cellsOf]))
  | tup _ => exact base r rfl (ho _ (by simp [HV.cellsOf]))
  | own _ _ _ _ => exact base r rfl (ho _ (by simp [HV.cellsOf]))
  | ptr _ _ => exact base r rfl (ho _ (by simp [HV.cellsOf]))
  | iptr _ => exact base r rfl (ho _ (by simp [HV.cellsOf]))

theorem Good.ev (g : Good C st m a w) (x : Operand) : R C st m w (ev st.fr x) (a.eval x) := by
  cases x with
  | tmp t => exact g.fr t
  | const v => exact ofConst_rep v
  | global g' => exact .raw _
  | func f => exact .raw _

/-! ### A new block -/
theorem nb_out (g : Good C st m a w) {i : Nat} (hn : C.n0 ≤ i) (hi : (st.hp i).al = false) {x : HV} {b : HBlk} (hb : b.al = true ∧ b.live = true) (cs : Array Value) (hlen : b.cells.length ≤ cs.size)
    (hx : ∀ (j : Nat) (x : HV), b.cells[j]? = some x → ∃ v, cs[j]? = some v ∧ v.oneCell' = true ∧ R C st m w x v) {v : Value}
    (hv : ∀ (h' : Hp) (X : AP), h' i = b → Rep (w.alloc (.cells cs b.elem)) X (upd m i (some (w.heap.size, 0))) h' x v) : Out C st a [(i, b)] x (.ok (.value v) (w.alloc (.cells cs b.elem))) := by
  obtain ⟨al, live, wb, grow, elem, sz, cells⟩ := b
  obtain ⟨rfl, rfl⟩ := hb
  exact ⟨v, _, _, .inl rfl, g.alloc i hi hn wb grow elem sz cells cs hlen hx, hv _ _ (upd_same _ _ _)⟩

theorem snd_alloc (g : Good C st m a w) {i : Nat} (hn : C.n0 ≤ i) {t : TypeId} {E : Eff} {x : HV} {wr : List (Nat × HBlk)} (he : effAlloc C.P i st.hp t = some E) (hs : E.side) (hr : E.res = .val x wr) :
    Out C st a wr x ((do let v ← Instr.alloc t true (.tuple #[]); Pure.pure (Next.value v) : Sem Next).run C.P w) := by
  unfold effAlloc at he
  split at he
  · rename_i zs hz
    simp only [nb, Option.some.injEq] at he
    subst he
    simp only [Res.val.injEq] at hr
    obtain ⟨rfl, rfl⟩ := hr
    obtain ⟨h1, h2⟩ := hs
    unfold zrT at hz
    cases hi : C.P.info? t with
    | none => simp [hi] at hz
    | some info =>
      cases hzz : info.zero with
      | none => simp [hi, hzz] at hz
      | some z =>
        simp [hi, hzz] at hz
        subst hz
        have hrun : (Instr.alloc t true (.tuple #[])).run C.P w = .ok (.pointer (some ⟨w.heap.size, 0, none⟩)) (w.alloc (.cells z.cells t)) := by
          simp [Instr.alloc, zeroValue, typeInfo, hi, hzz, newVar, newRow]
        rw [run_v hrun]
        refine nb_out g hn h1 ⟨rfl, rfl⟩ z.cells (by simp) (fun j x hj => ?_) (fun h' X e => .ptr i 0 w.heap.size 0 (by rw [e]) (upd_same _ _ _))
        simp only [List.getElem?_map, Option.map_eq_some_iff] at hj
        obtain ⟨u, hu, rfl⟩ := hj
        exact ⟨u, by simpa using hu, h2 u (List.mem_of_getElem? hu), ofConst_rep u⟩
  · cases he

theorem snd_box (g : Good C st m a w) {i : Nat} (hn : C.n0 ≤ i) {t : TypeId} {y : HV} {u : Value} (hy : R C st m w y u) {E : Eff} {x : HV} {wr : List (Nat × HBlk)} (he : effBox i st.hp t y = some E) (hs : E.side) (hr : E.res = .val x wr) :
    Out C st a wr x ((do let v ← Instr.box t u; Pure.pure (Next.value v) : Sem Next).run C.P w) := by
  simp only [effBox, nb, Option.some.injEq] at he
  subst he
  simp only [Res.val.injEq] at hr
  obtain ⟨rfl, rfl⟩ := hr
  obtain ⟨h1, h2⟩ := hs
  have hrun : (Instr.box t u).run C.P w = .ok (.pointer (some ⟨w.heap.size, 0, none⟩)) (w.alloc (.cells u.cells t)) := by
    simp [Instr.box, newVar, newRow]
  rw [run_v hrun]
  obtain ⟨c1, c2⟩ := cells_rep hy h2
  exact nb_out g hn h1 ⟨rfl, rfl⟩ u.cells (by simp [c1]) c2 (fun h' X e => .ptr i 0 w.heap.size 0 (by rw [e]) (upd_same _ _ _))

/-! ### Rows and structs put together -/
theorem foldl_splice (cs : List Value) (o : Nat) (vs : List Value) (h : o + vs.length ≤ cs.length) :
    (vs.toArray.zipIdx.foldl (fun (acc : Array Value) (p : Value × Nat) => acc.setIfInBounds (o + p.2) p.1) cs.toArray) = (splice cs o vs).toArray := by
  have key : ∀ (vs : List Value) (cs : List Value) (o k : Nat), o + k + vs.length ≤ cs.length →
      ((vs.zipIdx k).foldl (fun (acc : Array Value) (p : Value × Nat) => acc.setIfInBounds (o + p.2) p.1) cs.toArray) = (splice cs (o + k) vs).toArray := by
    intro vs
    induction vs with
    | nil => intro cs o k _; simp [splice]
    | cons v vs ih =>
      intro cs o k hl
      simp only [List.zipIdx_cons, List.foldl_cons]
      have e1 : cs.toArray.setIfInBounds (o + k) v = (cs.set (o + k) v).toArray := by simp
      rw [e1, ih (cs.set (o + k) v) o (k + 1) (by simp at hl ⊢; omega)]
      congr 1
      apply List.ext_getElem?
      intro j
      rw [show o + (k + 1) = (o + k) + 1 by omega, splice_get _ _ _ (by simp at hl ⊢; omega), splice_get _ _ _ (by simp at hl ⊢; omega)]
      simp only [List.length_cons, List.getElem?_set]
      by_cases h1 : j < o + k
      · rw [if_pos (by omega), if_pos h1, if_neg (by omega)]
      · rw [if_neg h1]
        by_cases h2 : j = o + k
        · subst h2
          rw [if_pos (by omega)]
          simp at hl
          simp
          omega
        · rw [if_neg (by omega)]
          by_cases h3 : j < o + k + 1 + vs.length
          · rw [if_pos h3, if_pos (by omega)]
            have : j - (o + k) = (j - (o + k + 1)) + 1 := by omega
            rw [this]; simp
          · rw [if_neg h3, if_neg (by omega), if_neg (by omega)]
  have := key vs cs o 0 (by simpa using h)
  simpa using this

/-- A list of abstract values and one of values, read one by one. -/
def RL (C : Ctx) (st : HS) (m : Mp) (w : World) (xs : List HV) (vs : List Value) : Prop :=
  vs.length = xs.length ∧ ∀ (j : Nat) (x : HV) (v : Value), xs[j]? = some x → vs[j]? = some v → v.oneCell' = true ∧ R C st m w x v

theorem RL.splice {xs ys : List HV} {vs us : List Value} (h : RL C st m w xs vs) (k : RL C st m w ys us) {o : Nat} (hl : o + ys.length ≤ xs.length) : RL C st m w (splice xs o ys) (splice vs o us) := by
  have hl' : o + us.length ≤ vs.length := by rw [k.1, h.1]; exact hl
  refine ⟨by rw [splice_length _ _ _ hl', splice_length _ _ _ hl]; exact h.1, fun j x v hx hv => ?_⟩
  rw [splice_get _ _ _ hl] at hx
  rw [splice_get _ _ _ hl', k.1] at hv
  by_cases h1 : j < o
  · rw [if_pos h1] at hx hv; exact h.2 j x v hx hv
  · rw [if_neg h1] at hx hv
    by_cases h2 : j < o + ys.length
    · rw [if_pos h2] at hx hv; exact k.2 _ x v hx hv
    · rw [if_neg h2] at hx hv; exact h.2 j x v hx hv

theorem RL.of_cells {x : HV} {v : Value} (r : R C st m w x v) (ho : ∀ c ∈ x.cellsOf, c.one = true) : RL C st m w x.cellsOf v.cells.toList := by
  obtain ⟨h1, h2⟩ := cells_rep r ho
  refine ⟨by simpa using h1, fun j c u hc hu => ?_⟩
  obtain ⟨u', e, o1, rr⟩ := h2 j c hc
  have : u' = u := by simp at hu; rw [hu] at e; injection e with e; exact e.symm
  subst this
  exact ⟨o1, rr⟩

theorem fill_rep {place : Nat → Option (Nat × Nat)} : ∀ (parts : List (Nat × HV)) (us : List (Nat × Value)) (xs : List HV) (vs : List Value) (ys : List HV), RL C st m w xs vs →
    us.length = parts.length → (∀ (j : Nat) (p : Nat × HV) (u : Nat × Value), parts[j]? = some p → us[j]? = some u → u.1 = p.1 ∧ R C st m w p.2 u.2) → (∀ x ∈ parts, ∀ c ∈ x.2.cellsOf, c.one = true) →
    fillH place xs parts = some ys → ∃ ws, Instr.fill place vs.toArray us = some (ws : List Value).toArray ∧ RL C st m w ys ws
  | [], us, xs, vs, ys, h, hl, _, _, hf => by
    have : us = [] := List.eq_nil_of_length_eq_zero (by simpa using hl)
    subst this
    simp only [fillH, Option.some.injEq] at hf
    subst hf
    exact ⟨vs, rfl, h⟩
  | (i, x) :: parts, us, xs, vs, ys, h, hl, hr, ho, hf => by
    cases us with
    | nil => simp at hl
    | cons u us =>
      obtain ⟨i', u⟩ := u
      obtain ⟨e, rx⟩ := hr 0 (i, x) (i', u) rfl rfl
      simp only at e rx
      subst e
      simp only [fillH] at hf
      split at hf
      · cases hf
      · rename_i o s hp
        split at hf
        · cases hf
        · rename_i hc
          simp only [not_or, Decidable.not_not, Nat.not_lt] at hc
          have oc : ∀ c ∈ x.cellsOf, c.one = true := ho (i', x) (by simp)
          have k := RL.of_cells rx oc
          have hin : o + x.cellsOf.length ≤ xs.length := by omega
          have hin' : o + u.cells.toList.length ≤ vs.length := by rw [k.1, h.1]; exact hin
          obtain ⟨ws, e1, e2⟩ := fill_rep parts us _ _ ys (h.splice k hin) (by simpa using hl) (fun j p q h1 h2 => hr (j + 1) p q (by simpa using h1) (by simpa using h2)) (fun y hy => ho y (by simp [hy])) hf
          refine ⟨ws, ?_, e2⟩
          have hsz : u.cells.size = s := by have := k.1; simp at this; omega
          simp only [Instr.fill, hp]
          have hcond : ¬ ((u.cells.size ≠ s || o + u.cells.size > vs.toArray.size : Bool) = true) := by
            simp [hsz]; have := h.1; omega
          have hfold := foldl_splice vs o u.cells.toList hin'
          simp only [Array.toArray_toList] at hfold
          have hcond' : (decide (u.cells.size ≠ s) || decide (o + u.cells.size > vs.toArray.size)) = false := by simpa using hcond
          rw [if_neg (by simpa using hcond)]
          simpa using (congrArg (fun z => Instr.fill place z us) hfold).trans e1

end Go.Proofs.YtfmebdmgnmogaaaGreatDoor.Hv
namespace Go.Proofs.YtfmebdmgnmogaaaGreatDoor.Hv
open Go Go.RowKit

variable {C : Ctx} {st : HS} {m : Mp} {a : Act} {w : World}

theorem add_add (a : Addr) (i j : Nat) : (a.add i).add j = a.add (i + j) := by
  unfold Addr.add
  by_cases hi : i = 0 <;> by_cases hj : j = 0 <;> simp [hi, hj, Nat.add_assoc]

theorem RL.consts (zs : List Value) (h : ∀ z ∈ zs, z.oneCell' = true) : RL C st m w (zs.map ofConst) zs := by
  refine ⟨by simp, fun j x v hx hv => ?_⟩
  simp only [List.getElem?_map, hv, Option.map_some, Option.some.injEq] at hx
  subst hx
  exact ⟨h v (List.mem_of_getElem? hv), ofConst_rep v⟩

theorem RL.rep (xs : List HV) (vs : List Value) (h : RL C st m w xs vs) : R C st m w (.agg xs) (.agg vs.toArray) :=
  .agg xs vs h.1 (fun j x v hx hv => (h.2 j x v hx hv).2)

theorem RL.ex {xs : List HV} {vs : List Value} (h : RL C st m w xs vs) (j : Nat) (x : HV) (hx : xs[j]? = some x) : ∃ v, vs.toArray[j]? = some v ∧ v.oneCell' = true ∧ R C st m w x v := by
  have hlt : j < vs.length := by have := (List.getElem?_eq_some_iff.1 hx).1; have := h.1; omega
  have hv : vs[j]? = some vs[j] := List.getElem?_eq_getElem hlt
  obtain ⟨h1, h2⟩ := h.2 j x _ hx hv
  exact ⟨vs[j], by simp [hlt], h1, h2⟩

theorem snd_build (g : Good C st m a w) {t : TypeId} {parts : List (Nat × HV)} {us : Array (Nat × Value)} (hl : us.toList.length = parts.length)
    (hp : ∀ (j : Nat) (p : Nat × HV) (u : Nat × Value), parts[j]? = some p → us.toList[j]? = some u → u.1 = p.1 ∧ R C st m w p.2 u.2)
    {E : Eff} {x : HV} {wr : List (Nat × HBlk)} (he : effBuild C.P t parts = some E) (hs : E.side) (hr : E.res = .val x wr) :
    Out C st a wr x ((do let v ← Instr.build t us; Pure.pure (Next.value v) : Sem Next).run C.P w) := by
  unfold effBuild at he
  split at he
  · rename_i zs fs hz' hf
    split at he
    · rename_i cs hfill
      simp only [pvs, Option.some.injEq] at he
      subst he
      simp only [Res.val.injEq] at hr
      obtain ⟨rfl, rfl⟩ := hr
      obtain ⟨ws, e1, e2⟩ := fill_rep (C := C) (st := st) (m := m) (w := w) parts us.toList (zs.map ofConst) zs cs (RL.consts zs hs.1) hl hp hs.2 hfill
      have hb : C.P.built t us.toList = some ws.toArray := by
        unfold Program.built
        unfold zrT at hz'
        unfold fsT at hf
        cases hi : C.P.info? t with
        | none => simp [hi] at hz'
        | some info =>
          cases hzz : info.zero with
          | none => simp [hi, hzz] at hz'
          | some z =>
            simp only [hi, hzz, Option.bind_some, Option.map_some, Option.some.injEq] at hz'
            subst hz'
            cases hu : C.P.underlying t with
            | none => simp [hu] at hf
            | some d =>
              cases d <;> simp only [hu] at hf <;> try (cases hf; done)
              rename_i fields
              simp only [hzz, hf]
              simpa using e1
      rw [run_v (run_build w t us _ hb)]
      exact Out.pure g (RL.rep cs ws e2)
    · cases he
  · cases he

theorem reps_length {α : Type} (zs : List α) (n : Nat) : (reps zs n).length = n * zs.length := by
  induction n with
  | zero => simp [reps]
  | succ n ih => simp [reps, ih, Nat.add_mul]; omega
theorem reps_get {α : Type} (zs : List α) : ∀ (n j : Nat), j < n * zs.length → (reps zs n)[j]? = zs[j % zs.length]?
  | 0, j, h => by simp at h
  | n + 1, j, h => by
    simp only [reps]
    rw [Nat.add_mul] at h
    by_cases hj : j < zs.length
    · rw [List.getElem?_append_left hj, Nat.mod_eq_of_lt hj]
    · rw [List.getElem?_append_right (by omega), reps_get zs n _ (by omega)]
      congr 1
      exact (Nat.mod_eq_sub_mod (by omega)).symm
theorem made_reps (z : Array Value) (n k : Nat) (h : k = n * z.size) : madeCells z k = (reps z.toList n).toArray := by
  subst h
  apply Array.ext
  · simp [size_madeCells, reps_length]
  · intro j h1 h2
    have hj : j < n * z.toList.length := by simpa [size_madeCells] using h1
    have h0 : 0 < z.size := by
      rcases Nat.eq_zero_or_pos z.size with e | e
      · rw [show z.toList.length = z.size from by simp, e] at hj; omega
      · exact e
    have e := reps_get z.toList n j hj
    have hm : j % z.size < z.size := Nat.mod_lt _ h0
    have e' : (reps z.toList n)[j]? = some z[j % z.size] := by rw [e]; simp [hm]
    have e3 : (reps z.toList n)[j]'(by simpa [reps_length] using hj) = z[j % z.size] := by
      have := (List.getElem?_eq_some_iff.1 e').2
      exact this
    simp [madeCells, e3, hm, getElem!_pos]
theorem RL.reps {zs : List Value} (h : ∀ z ∈ zs, z.oneCell' = true) (n : Nat) : RL C st m w (reps (zs.map ofConst) n) (reps zs n) := by
  induction n with
  | zero => exact ⟨rfl, by simp [Hv.reps]⟩
  | succ n ih =>
    have k := RL.consts (C := C) (st := st) (m := m) (w := w) zs h
    refine ⟨by simp [reps_length], fun j x v hx hv => ?_⟩
    simp only [Hv.reps] at hx hv
    by_cases hj : j < zs.length
    · rw [List.getElem?_append_left (by simpa using hj)] at hx
      rw [List.getElem?_append_left hj] at hv
      exact k.2 j x v hx hv
    · rw [List.getElem?_append_right (by simpa using Nat.le_of_not_lt hj)] at hx
      rw [List.getElem?_append_right (by omega)] at hv
      simp only [List.length_map] at hx
      exact ih.2 _ x v hx hv

theorem elT_spec {P : Program} {t e : TypeId} {sz by_ : Nat} (h : elT P t = some (e, sz, by_)) : P.underlying t = some (.slice e) ∧ ∃ i, P.info? e = some i ∧ i.size = sz ∧ i.bytes = by_ ∧ 0 < sz := by
  unfold elT at h
  split at h
  · rename_i e' hu
    cases hi : P.info? e' with
    | none => simp [hi] at h
    | some i =>
      simp only [hi, Option.bind_some] at h
      split at h
      · cases h
      · rename_i h0
        simp only [Option.some.injEq, Prod.mk.injEq] at h
        obtain ⟨rfl, rfl, rfl⟩ := h
        exact ⟨hu, i, hi, rfl, rfl, Nat.pos_of_ne_zero h0⟩
  · cases h
theorem zrT_spec {P : Program} {e : TypeId} {zs : List Value} {i : TypeInfo} (h : zrT P e = some zs) (hi : P.info? e = some i) : ∃ z, i.zero = some z ∧ z.cells.toList = zs := by
  unfold zrT at h
  cases hz : i.zero with
  | none => simp [hi, hz] at h
  | some z => simp [hi, hz] at h; exact ⟨z, rfl, h⟩

theorem snd_buildSlice (g : Good C st m a w) {i : Nat} (hn : C.n0 ≤ i) {t : TypeId} {n : Nat} {parts : List (Nat × HV)} {us : Array (Nat × Value)} (hl : us.toList.length = parts.length)
    (hp : ∀ (j : Nat) (p : Nat × HV) (u : Nat × Value), parts[j]? = some p → us.toList[j]? = some u → u.1 = p.1 ∧ R C st m w p.2 u.2)
    {E : Eff} {x : HV} {wr : List (Nat × HBlk)} (he : effBuildSlice C.P i st.hp t n parts = some E) (hs : E.side) (hr : E.res = .val x wr) :
    Out C st a wr x ((do let v ← Instr.buildSlice t n us; Pure.pure (Next.value v) : Sem Next).run C.P w) := by
  unfold effBuildSlice at he
  split at he
  · rename_i e sz by_ hel
    obtain ⟨hu, info, hi, hsz, hby, hpos⟩ := elT_spec hel
    split at he
    · rename_i zs hz
      split at he
      · rename_i cs hfill
        simp only [nb, Option.some.injEq] at he
        subst he
        simp only [Res.val.injEq] at hr
        obtain ⟨rfl, rfl⟩ := hr
        obtain ⟨h1, h2, h3, h4, h5⟩ := hs
        obtain ⟨z, hzz, hzl⟩ := zrT_spec hz hi
        obtain ⟨ws, e1, e2⟩ := fill_rep (C := C) (st := st) (m := m) (w := w) parts us.toList _ _ cs (RL.reps h4 n) hl hp h5 hfill
        have hzs : z.cells.size = sz := by have : z.cells.toList.length = sz := by rw [hzl]; exact h3
                                           simpa using this
        have hmk : madeCells z.cells (n * sz) = (reps zs n).toArray := by rw [made_reps z.cells n _ (by rw [hzs]), hzl]
        have hrun : (Instr.buildSlice t n us).run C.P w = .ok (.slice (some ⟨w.heap.size, 0, none⟩) n n) (w.alloc (.cells ws.toArray e)) := by
          have hno : ¬ (n * sz > 16777216) := by omega
          by_cases h0 : n * sz = 0
          · have hmk' : (reps zs n).toArray = #[] := by rw [← hmk, h0]; simp [madeCells]
            rw [hmk'] at e1
            simp [Instr.buildSlice, run_underlying hu, sizeOf, typeInfo, hi, hsz, h0, Array.range_zero', e1, newRow]
          · have e1' : Instr.fill (fun j => some (j * sz, sz)) (madeCells z.cells (n * sz)) us.toList = some ws.toArray := by rw [hmk]; exact e1
            unfold madeCells at e1'
            simp [Instr.buildSlice, run_underlying hu, sizeOf, typeInfo, hi, hsz, h0, hno, zeroValue, hzz, e1', newRow]
        rw [run_v hrun]
        refine nb_out g hn h1 (b := { al := true, live := true, wb := true, grow := true, elem := e, sz := sz, cells := cs }) ⟨rfl, rfl⟩ ws.toArray (by simp [e2.1]) (fun j x hj => RL.ex e2 j x hj) (fun h' X eq => ?_)
        refine .own i 0 n true _ n (by rw [eq]) (Nat.le_refl _) (fun _ => rfl) (fun _ => ⟨w.heap.size, 0, ws.toArray, e, upd_same _ _ _, rfl, heap_new _ _, ?_⟩)
        rw [eq]
        simp only
        have h8 : ∀ (ps : List (Nat × HV)) (a b : List HV), fillH (fun j => some (j * sz, sz)) a ps = some b → b.length = a.length := by
          intro ps
          induction ps with
          | nil => intro a b h; simp [fillH] at h; rw [h]
          | cons p ps ih =>
            intro a b h
            obtain ⟨k, y⟩ := p
            simp only [fillH] at h
            split at h
            · cases h
            · rename_i hcc
              rw [not_or] at hcc
              rw [ih _ _ h, splice_length _ _ _ (by omega)]
        have := h8 parts _ _ hfill
        have h9 := e2.1
        rw [reps_length] at this
        simp only [List.length_map, h3] at this
        simp [h9, this]
      · cases he
    · cases he
  · cases he

theorem reps_add {α : Type} (zs : List α) (a b : Nat) : reps zs (a + b) = reps zs a ++ reps zs b := by
  induction a with
  | zero => simp [reps]
  | succ a ih => rw [Nat.succ_add]; simp [reps, ih]
theorem snd_make (g : Good C st m a w) {i : Nat} (hn : C.n0 ≤ i) {t : TypeId} {lx cx : HV} {lv cv : Value} (hlr : R C st m w lx lv) (hcr : R C st m w cx cv)
    {E : Eff} {x : HV} {wr : List (Nat × HBlk)} (he : effMake C.P i st.hp t lx cx = some E) (hs : E.side) (hr : E.res = .val x wr) :
    Out C st a wr x ((do let v ← Instr.makeSlice t lv cv; Pure.pure (Next.value v) : Sem Next).run C.P w) := by
  unfold effMake at he
  split at he
  · rename_i e sz by_ kl n kc n' hel
    obtain ⟨hu, info, hi, hsz, hby, hpos⟩ := elT_spec hel
    split at he
    · rename_i zs hz
      simp only [nb, Option.some.injEq] at he
      subst he
      simp only [Res.val.injEq] at hr
      obtain ⟨rfl, rfl⟩ := hr
      obtain ⟨h1, h2, hle, h3, h4, h5, h6⟩ := hs
      cases hlr; cases hcr
      obtain ⟨z, hzz, hzl⟩ := zrT_spec hz hi
      have hzs : z.cells.size = sz := by have : z.cells.toList.length = sz := by rw [hzl]; exact h5
                                         simpa using this
      have hmk : madeCells z.cells (n'.toNat * info.size) = (reps zs n'.toNat).toArray := by rw [hsz, made_reps z.cells n'.toNat _ (by rw [hzs]), hzl]
      have hrun := run_make (P := C.P) w t e info z hu hi hzz kl kc n n' h2 hle (by rw [hby]; exact h4) h3
      rw [hmk] at hrun
      rw [run_v hrun]
      refine nb_out g hn h1 (b := { al := true, live := true, wb := true, grow := true, elem := e, sz := sz, cells := reps (zs.map ofConst) n.toNat }) ⟨rfl, rfl⟩ (reps zs n'.toNat).toArray (by simp [reps_length]; exact Nat.mul_le_mul_right _ (by omega))
        (fun j x hj => RL.ex (RL.reps h6 n'.toNat) j x (by rw [show n'.toNat = n.toNat + (n'.toNat - n.toNat) by omega, reps_add, List.getElem?_append_left (List.getElem?_eq_some_iff.1 hj).1]; exact hj)) (fun h' X eq => ?_)
      refine .own i 0 n.toNat _ _ n'.toNat (by rw [eq]) (by omega) (fun h => by have := of_decide_eq_true h; rw [this]) (fun _ => ⟨w.heap.size, 0, (reps zs n'.toNat).toArray, e, upd_same _ _ _, rfl, heap_new _ _, ?_⟩)
      rw [eq]
      simp [reps_length, h5]
    · cases he
  · cases he

/-! ### Loads and stores -/
theorem tyT_spec {P : Program} {t : TypeId} {ag : Bool} {sz : Nat} (h : tyT P t = some (ag, sz)) : ∃ d i, P.underlying t = some d ∧ P.info? t = some i ∧ isAggD d = ag ∧ i.size = sz := by
  unfold tyT at h
  cases hd : P.underlying t with
  | none => simp [hd] at h
  | some d =>
    cases hi : P.info? t with
    | none => simp [hd, hi] at h
    | some i => simp [hd, hi] at h; exact ⟨d, i, rfl, rfl, h.1, h.2⟩
theorem run_isAgg {P : Program} {t : TypeId} {d : TypeDesc} (h : P.underlying t = some d) (w : World) : (isAgg t).run P w = .ok (isAggD d) w := by
  unfold isAgg
  rw [Sem.run_bind, run_underlying h w]
  cases d <;> rfl
theorem run_loadVar {P : Program} {t : TypeId} {ag : Bool} {sz : Nat} (h : tyT P t = some (ag, sz)) (p : Addr) (us : List Value) (hl : us.length = sz) (h1 : ag = false → sz = 1)
    (hc : ∀ j u, us[j]? = some u → w.cell? (p.add j) = some u) : (loadVar t p).run P w = .ok (if ag then .agg us.toArray else us.getD 0 undef) w := by
  obtain ⟨d, i, hd, hi, rfl, rfl⟩ := tyT_spec h
  cases hb : isAggD d with
  | true =>
    have hload := run_loadCells_list (P := P) w p us hc
    rw [hl] at hload
    simp [loadVar, run_isAgg hd, hb, sizeOf, typeInfo, hi, hload]
  | false =>
    have := h1 hb
    have h0 : us[0]? = some us[0] := List.getElem?_eq_getElem (by omega)
    have hcell := hc 0 _ h0
    have hp0 : p.add 0 = p := by unfold Addr.add; simp
    rw [hp0] at hcell
    have hlt : 0 < us.length := by omega
    simp [loadVar, run_isAgg hd, hb, run_load, hcell, List.getD, hlt]

theorem HeapOK.cells (K : HeapOK w C.Xo m st.hp) {id b o : Nat} (hl : (st.hp id).live = true) (hm : m id = some (b, o)) : ∃ cs, w.heap[b]? = some (.cells cs (st.hp id).elem (0, 0)) ∧ o + (st.hp id).cells.length ≤ cs.size ∧
    ∀ (j : Nat) (x : HV), (st.hp id).cells[j]? = some x → ∃ v, cs[o + j]? = some v ∧ v.oneCell' = true ∧ R C st m w x v := by
  rcases K.real id hl with ⟨h1, _⟩ | ⟨b', o', cs, h1, h2, h3, h4⟩
  · rw [hm] at h1; cases h1
  · rw [hm] at h1; injection h1 with h1; injection h1 with e1 e2; subst e1 e2
    exact ⟨cs, h2, h3, h4⟩

/-- The values of a stretch of a block. -/
theorem stretch (K : HeapOK w C.Xo m st.hp) {id b o : Nat} (hl : (st.hp id).live = true) (hm : m id = some (b, o)) (off k : Nat) (hf : off + k ≤ (st.hp id).cells.length) :
    ∃ us, RL C st m w (((st.hp id).cells.drop off).take k) us ∧ us.length = k ∧ ∀ j u, us[j]? = some u → w.cell? ⟨b, o + off + j, none⟩ = some u := by
  obtain ⟨cs, h1, h2, h3⟩ := HeapOK.cells K hl hm
  refine ⟨(cs.toList.drop (o + off)).take k, ⟨?_, fun j x v hx hv => ?_⟩, ?_, fun j u hu => ?_⟩
  · simp; omega
  · simp only [List.getElem?_take, List.getElem?_drop] at hx hv
    split at hx
    · rename_i hj
      rw [if_pos hj] at hv
      obtain ⟨v', e, o1, r⟩ := h3 _ x hx
      have : v' = v := by rw [show o + (off + j) = o + off + j by omega] at e; simp at hv; rw [hv] at e; injection e with e; exact e.symm
      subst this
      exact ⟨o1, r⟩
    · cases hx
  · simp; omega
  · simp only [List.getElem?_take, List.getElem?_drop] at hu
    split at hu
    · rw [cell_row h1]; simpa using hu
    · cases hu

theorem snd_load (g : Good C st m a w) {t : TypeId} {px : HV} {pv' : Value} (hp : R C st m w px pv') {E : Eff} {x : HV} {wr : List (Nat × HBlk)} (he : effLoad C.P t px st.hp = some E) (hs : E.side) (hr : E.res = .val x wr) :
    Out C st a wr x ((do let v ← Instr.loadAt t pv'; Pure.pure (Next.value v) : Sem Next).run C.P w) := by
  unfold effLoad at he
  split at he
  · rename_i ag sz id off ht
    simp only [Option.some.injEq] at he
    subst he
    simp only [Res.val.injEq] at hr
    obtain ⟨rfl, rfl⟩ := hr
    obtain ⟨h1, h2, h3⟩ := hs
    cases hp with
    | ptr _ _ b o ha hm =>
      obtain ⟨us, k1, k2, k3⟩ := stretch g.heap h1 hm off sz h2
      have hrun := run_loadVar (w := w) ht ⟨b, o + off, none⟩ us k2 h3 (fun j u hu => by rw [add_lit]; exact k3 j u hu)
      rw [run_v (s := Instr.loadAt t _) (by simpa [Instr.loadAt, Instr.sureAddr] using hrun)]
      refine Out.pure g ?_
      cases ag with
      | true => exact RL.rep _ _ k1
      | false =>
        have h31 := h3 rfl
        subst h31
        have hx : ((st.hp id).cells.drop off).take 1 = [(st.hp id).cells.getD off .any] := by
          have hlt : off < (st.hp id).cells.length := by omega
          rw [List.drop_eq_getElem_cons hlt, List.take_succ_cons, List.take_zero]
          simp [List.getD, hlt]
        rw [hx] at k1
        have hu0 : us[0]? = some (us.getD 0 undef) := by simp [List.getD, List.getElem?_eq_getElem (show 0 < us.length by omega)]
        exact (k1.2 0 _ _ rfl hu0).2
  · rename_i ag sz cells ht
    simp only [pvs, Option.some.injEq] at he
    subst he
    simp only [Res.val.injEq] at hr
    obtain ⟨rfl, rfl⟩ := hr
    obtain ⟨h1, h2⟩ := hs
    cases hp with
    | iptr _ ad vs hl hfl hc hrep =>
      have hrun := run_loadVar (w := w) ht ad (vs.take sz) (by simp; omega) h2 (fun j u hu => by
        simp only [List.getElem?_take] at hu
        split at hu
        · exact (hc j u hu).1
        · cases hu)
      rw [run_v (s := Instr.loadAt t _) (by simpa [Instr.loadAt, Instr.sureAddr] using hrun)]
      refine Out.pure g ?_
      cases ag with
      | true =>
        refine .agg _ _ (by simp; omega) (fun j x v hx hv => ?_)
        simp only [List.getElem?_take] at hx hv
        split at hx
        · rename_i hj
          rw [if_pos hj] at hv
          exact hrep j x v hx hv
        · cases hx
      | false =>
        have h31 := h2 rfl
        subst h31
        have hc0 : cells[0]? = some (cells.getD 0 .any) := by simp [List.getD, List.getElem?_eq_getElem (show 0 < cells.length by omega)]
        have hv0 : vs[0]? = some ((vs.take 1).getD 0 undef) := by simp [List.getD, List.getElem?_eq_getElem (show 0 < vs.length by omega)]
        exact hrep 0 _ _ hc0 hv0
  · cases he

theorem snd_store (g : Good C st m a w) {t : TypeId} {px y : HV} {pv' u : Value} (hp : R C st m w px pv') (hy : R C st m w y u) {E : Eff} {x : HV} {wr : List (Nat × HBlk)} (he : effStore C.P t px y st.hp = some E) (hs : E.side) (hr : E.res = .val x wr) :
    Out C st a wr x ((do Instr.storeAt t pv' u; Pure.pure Next.skip : Sem Next).run C.P w) := by
  unfold effStore at he
  split at he
  · rename_i ag sz id off ht
    simp only [Option.some.injEq] at he
    subst he
    simp only [Res.val.injEq] at hr
    obtain ⟨rfl, rfl⟩ := hr
    obtain ⟨h1, h2, h3, h4, h5, h6⟩ := hs
    obtain ⟨d, info, hd, hi, _, hsz⟩ := tyT_spec ht
    cases hp with
    | ptr _ _ b o ha hm =>
      obtain ⟨cs, k1, k2, k3⟩ := HeapOK.cells g.heap h1 hm
      have rl := RL.of_cells hy h6
      have hsz' : u.cells.size = sz := by have := rl.1; simp at this; omega
      have h1c : ∀ v ∈ u.cells.toList, v.oneCell' = true := fun v hv => by
        obtain ⟨j, hj⟩ := List.getElem?_of_mem hv
        have hlt : j < y.cellsOf.length := by have := (List.getElem?_eq_some_iff.1 hj).1; rw [← rl.1]; exact this
        exact (rl.2 j _ v (List.getElem?_eq_getElem hlt) hj).1
      have hst := run_storeCells_at C.P b (o + off) (st.hp id).elem u.cells.toList 0 cs w k1 (by simp; omega) h1c
      have hrun : (Instr.storeAt t (.pointer (some ⟨b, o + off, none⟩)) u).run C.P w = .ok () (w.setRow b (splice cs.toList (o + off) u.cells.toList).toArray) := by
        simp only [Instr.storeAt, Instr.sureAddr, storeVar]
        simp [sizeOf, typeInfo, hi, hsz, hsz']
        simpa [splice] using hst
      rw [run_u hrun]
      refine ⟨undef, _, m, .inr ⟨rfl, rfl⟩, ?_, .any _⟩
      exact g.store h1 h2 hm k1 y.cellsOf u.cells.toList rl.1 (by omega) (by omega) rl.2
  · cases he

end Go.Proofs.YtfmebdmgnmogaaaGreatDoor.Hv
