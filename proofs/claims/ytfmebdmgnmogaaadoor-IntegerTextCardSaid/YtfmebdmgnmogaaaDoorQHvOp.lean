/- What each operation of the code does to abstract values: definitions. No statement of its own. -/
import Derived.Test.YtfmebdmgnmogaaaDoorQHvMem
namespace Go.Proofs.YtfmebdmgnmogaaaDoor.Hv
open Go Go.RowKit

def ofConst : Value → HV
  | .slice none 0 0 => .sl 0 true []
  | v => .raw v

def ev (fr : Nat → HV) : Operand → HV
  | .tmp t => fr t
  | .const v => ofConst v
  | .global g => .raw (.pointer (some ⟨g, 0, none⟩))
  | .func f => .raw (.func (.func f) #[] #[])

def HV.one : HV → Bool
  | .raw v => v.oneCell'
  | .sl .. | .own .. | .ptr .. => true
  | _ => false
def HV.cellsOf : HV → List HV
  | .agg cs => cs
  | x => [x]

def isAggD : TypeDesc → Bool
  | .struct _ | .array _ _ => true
  | _ => false
def tyT (P : Program) (t : TypeId) : Option (Bool × Nat) := (P.underlying t).bind fun d => (P.info? t).map fun i => (isAggD d, i.size)
def zrT (P : Program) (t : TypeId) : Option (List Value) := ((P.info? t).bind (·.zero)).map fun z => z.cells.toList
def fdT (P : Program) (s : TypeId) (f : Nat) : Option (Nat × Nat × Bool) :=
  match P.underlying s with
  | some (.struct fs) => (fs[f]?).bind fun fd => (tyT P fd.type).bind fun ty => if ty.2 = 0 then none else some (fd.offset, ty.2, ty.1)
  | _ => none
def elT (P : Program) (t : TypeId) : Option (TypeId × Nat × Nat) :=
  match P.underlying t with
  | some (.slice e) => (P.info? e).bind fun i => if i.size = 0 then none else some (e, i.size, i.bytes)
  | _ => none

inductive Res where
  | val (v : HV) (wr : List (Nat × HBlk))
  | call (f : FuncId) (args : List HV) (wr : List (Nat × HBlk))
  | callB (f : FuncId) (bid boff : Nat) (b : HBlk) (args : List HV) (wr : List (Nat × HBlk))
structure Eff where
  rd : List Nat
  wr : List Nat
  side : Prop
  res : Res

def pv (v : HV) : Option Eff := some ⟨[], [], True, .val v []⟩
def pvs (p : Prop) (v : HV) : Option Eff := some ⟨[], [], p, .val v []⟩
def nb (i : Nat) (hp : Hp) (p : Prop) (v : HV) (b : HBlk) : Option Eff := some ⟨[i], [i], (hp i).al = false ∧ p, .val v [(i, b)]⟩

def HV.pick : Bool → HV → HV → HV
  | t, .raw (.bool u), .raw (.bool v) => .raw (.bool (bif t then u else v))
  | t, a, b => bif t then a else b
def effPick (c a b : HV) : Option Eff :=
  match c with
  | .raw (.bool t) => pv (.pick t a b)
  | _ => none

def effAlloc (P : Program) (i : Nat) (hp : Hp) (t : TypeId) : Option Eff :=
  match zrT P t with
  | some zs => nb i hp (∀ z ∈ zs, z.oneCell' = true) (.ptr i 0) { al := true, live := true, wb := true, elem := t, cells := zs.map ofConst }
  | none => none
def effBox (i : Nat) (hp : Hp) (t : TypeId) (x : HV) : Option Eff :=
  nb i hp (∀ c ∈ x.cellsOf, c.one = true) (.ptr i 0) { al := true, live := true, wb := true, elem := t, cells := x.cellsOf }

def fillH (place : Nat → Option (Nat × Nat)) : List HV → List (Nat × HV) → Option (List HV)
  | cs, [] => some cs
  | cs, (i, x) :: r =>
    match place i with
    | none => none
    | some (o, s) => if x.cellsOf.length ≠ s ∨ o + s > cs.length then none else fillH place (splice cs o x.cellsOf) r
def fsT (P : Program) (t : TypeId) : Option (List (Nat × Nat)) :=
  match P.underlying t with
  | some (.struct fs) => fs.toList.mapM fun f => (P.info? f.type).map fun i => (f.offset, i.size)
  | _ => none
def effBuild (P : Program) (t : TypeId) (parts : List (Nat × HV)) : Option Eff :=
  match zrT P t, fsT P t with
  | some zs, some fs =>
    match fillH (fun i => fs[i]?) (zs.map ofConst) parts with
    | some cs => pvs ((∀ z ∈ zs, z.oneCell' = true) ∧ (∀ x ∈ parts, ∀ c ∈ x.2.cellsOf, c.one = true)) (.agg cs)
    | none => none
  | _, _ => none
def reps {α : Type} (zs : List α) : Nat → List α
  | 0 => []
  | n + 1 => zs ++ reps zs n
def effBuildSlice (P : Program) (i : Nat) (hp : Hp) (t : TypeId) (n : Nat) (parts : List (Nat × HV)) : Option Eff :=
  match elT P t with
  | some (e, sz, _) =>
    match zrT P e with
    | some zs =>
      match fillH (fun j => some (j * sz, sz)) (reps (zs.map ofConst) n) parts with
      | some cs => nb i hp (n * sz ≤ 16777216 ∧ zs.length = sz ∧ (∀ z ∈ zs, z.oneCell' = true) ∧ (∀ x ∈ parts, ∀ c ∈ x.2.cellsOf, c.one = true)) (.own i 0 n true)
          { al := true, live := true, wb := true, grow := true, elem := e, sz := sz, cells := cs }
      | none => none
    | none => none
  | none => none
def effMake (P : Program) (i : Nat) (hp : Hp) (t : TypeId) (l c : HV) : Option Eff :=
  match elT P t, l, c with
  | some (e, sz, by_), .raw (.int _ n), .raw (.int _ n') =>
    match zrT P e with
    | some zs => nb i hp (0 ≤ n ∧ n ≤ n' ∧ n' ≤ 9223372036854775807 ∧ (by_ : Int) * n' ≤ 281474976710656 ∧ zs.length = sz ∧ (∀ z ∈ zs, z.oneCell' = true)) (.own i 0 n.toNat (decide (n' = n)))
        { al := true, live := true, wb := true, grow := true, elem := e, sz := sz, cells := reps (zs.map ofConst) n.toNat }
    | none => none
  | _, _, _ => none

def effLoad (P : Program) (t : TypeId) (x : HV) (hp : Hp) : Option Eff :=
  match tyT P t, x with
  | some (ag, sz), .ptr id off =>
    some ⟨[id], [], (hp id).live = true ∧ off + sz ≤ (hp id).cells.length ∧ (ag = false → sz = 1),
      .val (if ag then .agg (((hp id).cells.drop off).take sz) else (hp id).cells.getD off .any) []⟩
  | some (ag, sz), .iptr cells => pvs (sz ≤ cells.length ∧ (ag = false → sz = 1)) (if ag then .agg (cells.take sz) else cells.getD 0 .any)
  | _, _ => none
def effStore (P : Program) (t : TypeId) (x y : HV) (hp : Hp) : Option Eff :=
  match tyT P t, x with
  | some (_, sz), .ptr id off =>
    some ⟨[id], [id], (hp id).live = true ∧ (hp id).wb = true ∧ y.cellsOf.length = sz ∧ 0 < sz ∧ off + sz ≤ (hp id).cells.length ∧ (∀ c ∈ y.cellsOf, c.one = true),
      .val .any [(id, { hp id with cells := splice (hp id).cells off y.cellsOf })]⟩
  | _, _ => none
def effNil (x : HV) : Option Eff :=
  match x with
  | .ptr id off => pv (.ptr id off)
  | .iptr cells => pv (.iptr cells)
  | _ => none

def arith (op : BinOp) (k : IntKind) (a b : Int) : Option (Prop × Value) :=
  match op with
  | .add => some (True, .int k (k.wrap (a + b)))
  | .sub => some (True, .int k (k.wrap (a - b)))
  | .mul => some (True, .int k (k.wrap (a * b)))
  | .quo => some (b ≠ 0, .int k (k.wrap (a.tdiv b)))
  | .rem => some (b ≠ 0, .int k (a.tmod b))
  | .eql => some (True, .bool (decide (a = b)))
  | .neq => some (True, .bool (!decide (a = b)))
  | .lss => some (True, .bool (decide (a < b)))
  | .leq => some (True, .bool (decide (a ≤ b)))
  | .gtr => some (True, .bool (decide (b < a)))
  | .geq => some (True, .bool (decide (b ≤ a)))
  | _ => none
def effBin (op : BinOp) (x y : HV) : Option Eff :=
  match x, y with
  | .raw (.int k a), .raw (.int k' b) =>
    match arith op k a b with
    | some (p, v) => pvs (k = k' ∧ p) (.raw v)
    | none => none
  | .raw (.bool a), .raw (.bool b) =>
    match op with
    | .eql => pv (.raw (.bool (a == b)))
    | .neq => pv (.raw (.bool (a != b)))
    | _ => none
  | .raw (.string a), .raw (.string b) =>
    match op with
    | .eql => pv (.raw (.bool (decide (a = b))))
    | .neq => pv (.raw (.bool (!decide (a = b))))
    | .add => pvs (a.size + b.size ≤ 9223372036854775807) (.raw (.string (a ++ b)))
    | _ => none
  | _, _ => none
/-- '==' of bools asks the type. -/
def binSide (P : Program) (t : TypeId) (x y : HV) : Prop :=
  match x, y with
  | .raw (.bool _), .raw (.bool _) => P.underlying t = some .bool
  | _, _ => True
def effUn (op : UnOp) (x : HV) : Option Eff :=
  match op, x with
  | .not, .raw (.bool b) => pv (.raw (.bool (!b)))
  | .neg, .raw (.int k n) => pv (.raw (.int k (k.wrap (0 - n))))
  | _, _ => none
def effConv (P : Program) (src dst : TypeId) (x : HV) : Option Eff :=
  match x, P.underlying dst with
  | .raw (.int _ n), some (.int k) => pvs ((P.underlying src).isSome = true) (.raw (.int k (k.wrap n)))
  | .raw (.string s), some .string => pvs (P.underlying src = some .string) (.raw (.string s))
  | .raw (.int _ n), some .string => pvs ((P.underlying src).isSome = true) (.raw (.string (Utf8.encode n)))
  | .raw (.string s), some (.slice e) => pvs (P.underlying src = some .string ∧ P.underlying e = some (.int .u8)) (.sl s.size false (s.data.toList.map fun b => .raw (.int .u8 b.toNat)))
  | _, _ => none

def effFieldAddr (P : Program) (s : TypeId) (x : HV) (f : Nat) : Option Eff :=
  match fdT P s f, x with
  | some (o, _, _), .ptr id off => pv (.ptr id (off + o))
  | some (o, sz, _), .iptr cells => pvs (o + sz ≤ cells.length) (.iptr (cells.drop o))
  | _, _ => none
def effField (P : Program) (s : TypeId) (x : HV) (f : Nat) : Option Eff :=
  match fdT P s f, x with
  | some (o, sz, ag), .agg cs => pvs (o + sz ≤ cs.length ∧ (ag = false → sz = 1)) (if ag then .agg ((cs.drop o).take sz) else cs.getD o .any)
  | _, _ => none
def effIndexAddr (P : Program) (t : TypeId) (x ix : HV) : Option Eff :=
  match elT P t, x, ix with
  | some (_, sz, _), .own id off n _, .raw (.int _ i) => pvs (0 ≤ i ∧ i < n) (.ptr id (off + i.toNat * sz))
  | some (_, sz, _), .sl n _ cells, .raw (.int _ i) => pvs (0 ≤ i ∧ i < n) (.iptr (cells.drop (i.toNat * sz)))
  | _, _, _ => none
def effIndex (P : Program) (t : TypeId) (x ix : HV) : Option Eff :=
  match x, ix with
  | .raw (.string s), .raw (.int _ i) => pvs (P.underlying t = some .string ∧ 0 ≤ i ∧ i < s.size) (.raw (.int .u8 ((s.data.getD i.toNat 0).toNat : Int)))
  | _, _ => none
def effExtract (x : HV) (k : Nat) : Option Eff :=
  match x with
  | .tup vs => pvs (k < vs.length) (vs.getD k .any)
  | _ => none

def intH : Option HV → Int → Option Int
  | none, d => some d
  | some (.raw (.int _ n)), _ => some n
  | _, _ => none
def effSlice (P : Program) (t : TypeId) (x : HV) (lo hi mx : Option HV) (hp : Hp) : Option Eff :=
  match x with
  | .own id off n full =>
    match elT P t, intH lo 0, intH hi n, intH mx 0 with
    | some (_, sz, _), some l, some h, some q =>
      some ⟨[id], [], 0 ≤ l ∧ l ≤ h ∧ h ≤ n ∧ (mx.isSome = true → hi.isSome = true ∧ h ≤ q ∧ q ≤ n) ∧ (hp id).sz = sz,
        .val (.own id (off + l.toNat * sz) (h - l).toNat (if mx.isSome = true then decide (q = h) else full && decide (h = n))) []⟩
    | _, _, _, _ => none
  | .sl n full cells =>
    match elT P t, intH lo 0, intH hi n, intH mx 0 with
    | some (_, sz, _), some l, some h, some q =>
      pvs (0 ≤ l ∧ l ≤ h ∧ h ≤ n ∧ (mx.isSome = true → hi.isSome = true ∧ h ≤ q ∧ q ≤ n) ∧ cells.length = n * sz)
        (.sl (h - l).toNat (if mx.isSome = true then decide (q = h) else full && decide (h = n)) ((cells.drop (l.toNat * sz)).take ((h - l).toNat * sz)))
    | _, _, _, _ => none
  | .raw (.string s) =>
    match intH lo 0, intH hi s.size with
    | some l, some h => pvs (P.underlying t = some .string ∧ mx.isSome = false ∧ 0 ≤ l ∧ l ≤ h ∧ h ≤ s.size) (.raw (.string (s.extract l.toNat h.toNat)))
    | _, _ => none
  | _ => none

def effLen (P : Program) (t : TypeId) (x : HV) : Option Eff :=
  match x with
  | .own _ _ n _ => pvs ((elT P t).isSome = true) (.raw (.int .i64 n))
  | .sl n _ _ => pvs ((elT P t).isSome = true) (.raw (.int .i64 n))
  | .raw (.string s) => pvs (P.underlying t = some .string) (.raw (.int .i64 s.size))
  | _ => none

/-- The cells that a slice value holds. -/
def newsOf (hp : Hp) : HV → Option (List Nat × Nat × Prop × List HV)
  | .sl k _ cells => some ([], k, True, cells)
  | .own id off k _ => some ([id], k, (hp id).live = true ∧ off + k * (hp id).sz ≤ (hp id).cells.length, ((hp id).cells.drop off).take (k * (hp id).sz))
  | _ => none
def effAppend (P : Program) (i : Nat) (hp : Hp) (ty ty' : TypeId) (x y : HV) : Option Eff :=
  match elT P ty, newsOf hp y with
  | some (e, sz, by_), some (rd, k, p, news) =>
    match x with
    | .own id off n _ => some ⟨i :: id :: rd, [i, id], (hp i).al = false ∧ p ∧ i ≠ id ∧ ty' = ty ∧ (hp id).live = true ∧ (hp id).grow = true ∧ off = 0 ∧ (hp id).cells.length = n * sz ∧ news.length = k * sz ∧
        (hp id).elem = e ∧ (hp id).sz = sz ∧ (n + k) * by_ ≤ 140737488355328 ∧ (n + k) ≤ 9223372036854775807 ∧ (∀ c ∈ news, c.one = true) ∧ (zrT P e).map List.length = some sz,
        .val (.own i 0 (n + k) false) [(id, { hp id with grow := false, live := !(hp id).wb }), (i, { hp id with cells := (hp id).cells ++ news })]⟩
    | .sl n full cells => some ⟨i :: rd, [i], (hp i).al = false ∧ p ∧ ty' = ty ∧ full = true ∧ (0 < k ∨ n = 0) ∧ cells.length = n * sz ∧ news.length = k * sz ∧ (n + k) * by_ ≤ 140737488355328 ∧ (n + k) ≤ 9223372036854775807 ∧
        (∀ c ∈ news, c.one = true) ∧ (∀ c ∈ cells, c.one = true) ∧ (zrT P e).map List.length = some sz,
        .val (.own i 0 (n + k) false) [(i, { al := true, live := true, wb := true, grow := true, elem := e, sz := sz, cells := cells ++ news })]⟩
    | _ => none
  | _, _ => none

/-! Arguments of a call: a row of the call's own is handed over as it reads, and not written any more. -/
def fz1 (hp : Hp) : HV → HV
  | .own id off n full => .sl n full (((hp id).cells.drop off).take (n * (hp id).sz))
  | x => x
def fz (hp : Hp) : HV → HV
  | .agg cs => .agg (cs.map (fz1 hp))
  | x => fz1 hp x
/-- The capacity is forgotten. -/
def nf1 : HV → HV
  | .sl n _ cs => .sl n false cs
  | x => x
def nf : HV → HV
  | .agg cs => .agg (cs.map nf1)
  | x => nf1 x
def fzn (hp : Hp) (x : HV) : HV := nf (fz hp x)
def id1 : HV → List Nat
  | .own id _ _ _ => [id]
  | _ => []
def ids : HV → List Nat
  | .agg cs => cs.flatMap id1
  | x => id1 x
def ok1 (hp : Hp) : HV → Prop
  | .own id off n _ => (hp id).live = true ∧ off + n * (hp id).sz ≤ (hp id).cells.length ∧ 0 < (hp id).sz ∧ (∀ c ∈ (hp id).cells, c.flat = true)
  | .raw _ | .sl .. | .any => True
  | _ => False
def okz (hp : Hp) : HV → Prop
  | .agg cs => ∀ c ∈ cs, ok1 hp c
  | x => ok1 hp x
def offs (hp : Hp) (l : List Nat) : List (Nat × HBlk) := l.map fun id => (id, { hp id with wb := false })
def effCall (Γ : FuncId → Option Nat) (f : FuncId) (args : List HV) (hp : Hp) : Option Eff :=
  match Γ f with
  | none => some ⟨args.flatMap ids, args.flatMap ids, ∀ x ∈ args, okz hp x, .call f (args.map (fzn hp)) (offs hp (args.flatMap ids))⟩
  | some j =>
    match args[j]? with
    | some (.own id off n full) =>
      let rest := (args.set j (.raw (.bool true)))
      some ⟨id :: rest.flatMap ids, id :: rest.flatMap ids, (∀ x ∈ rest, okz hp x) ∧ (hp id).live = true ∧ (hp id).wb = true ∧ off + n * (hp id).sz ≤ (hp id).cells.length ∧ id ∉ rest.flatMap ids ∧ (∀ c ∈ (hp id).cells, c.flat = true),
        .callB f id off { hp id with grow := false, cells := ((hp id).cells.drop off).take (n * (hp id).sz) } ((rest.map (fzn hp)).set j (.own 0 0 n full)) (offs hp (rest.flatMap ids))⟩
    | _ => none

def effBuiltin (P : Program) (i : Nat) (hp : Hp) (b : Builtin) (tys : List TypeId) (args : List HV) : Option Eff :=
  match b, tys, args with
  | .len, [t], [x] => effLen P t x
  | .append, [t, t'], [x, y] => effAppend P i hp t t' x y
  | .max, [_, _], [.raw (.int k x), .raw (.int k' y)] => pv (.raw (.int k (if y > x then y else x)))
  | _, _, _ => none

def opEff (P : Program) (Γ : FuncId → Option Nat) (i : Nat) (op : Op) (fr : Nat → HV) (hp : Hp) : Option Eff :=
  match op with
  | .move x => pv (ev fr x)
  | .assign x => pv (ev fr x)
  | .pick c a b => effPick (ev fr c) (ev fr a) (ev fr b)
  | .alloc t => effAlloc P i hp t
  | .box t x => effBox i hp t (ev fr x)
  | .build t parts => effBuild P t (parts.toList.map fun p => (p.1, ev fr p.2))
  | .buildSlice t n parts => effBuildSlice P i hp t n (parts.toList.map fun p => (p.1, ev fr p.2))
  | .load t x => effLoad P t (ev fr x) hp
  | .store t x y => effStore P t (ev fr x) (ev fr y) hp
  | .nilCheck x => effNil (ev fr x)
  | .binOp op t x y _ => (effBin op (ev fr x) (ev fr y)).map fun E => { E with side := E.side ∧ binSide P t (ev fr x) (ev fr y) }
  | .unOp op _ x => effUn op (ev fr x)
  | .convert s t x => effConv P s t (ev fr x)
  | .makeSlice t l c => effMake P i hp t (ev fr l) (ev fr c)
  | .slice t x lo hi mx => effSlice P t (ev fr x) (lo.map (ev fr)) (hi.map (ev fr)) (mx.map (ev fr)) hp
  | .fieldAddr s x f => effFieldAddr P s (ev fr x) f
  | .field s x f => effField P s (ev fr x) f
  | .indexAddr t x ix => effIndexAddr P t (ev fr x) (ev fr ix)
  | .index t x ix => effIndex P t (ev fr x) (ev fr ix)
  | .extract x k => effExtract (ev fr x) k
  | .call c =>
    match c.callee with
    | .builtin b => effBuiltin P i hp b c.argTypes.toList (c.args.toList.map (ev fr))
    | .value (.func f) => effCall Γ f (c.args.toList.map (ev fr)) hp
    | _ => none
  | _ => none

end Go.Proofs.YtfmebdmgnmogaaaDoor.Hv
