/- What package-level variables of the library hold, as far as the walks ask. No statement of its own. -/
import Derived.WalkKit
import Derived.Lib.LaidTab
import Derived.Lib.ItoaNum
import Derived.Laws.CopyRow
import Derived.Laws.MakeOwn
import Derived.Laws.Append
import Derived.Still
import Derived.Below
namespace Go.Proofs.YtfmebdmgnmogaaaDoor.Hv
open Go Go.RowKit
/-- The block of the table of powers of ten. -/
def gB : Nat := 0
def gl (p : Addr) (_ : Value) : Prop := p.block = gB
def GW (w : World) : Prop := ∃ T fr, w.heap[gB]? = some (.cells (Lib.pow10Tab.map fun z => Value.int .u64 z).toArray T fr)
theorem GW.lt {w : World} (h : GW w) : gB < w.heap.size := by
  obtain ⟨T, fr, h⟩ := h
  rcases Nat.lt_or_ge gB w.heap.size with h1 | h1
  · exact h1
  · rw [Array.getElem?_eq_none h1] at h; cases h
theorem GW.below {w w' : World} (h : GW w) (b : Below w.heap.size w w') : GW w' := by
  have := h.lt
  obtain ⟨T, fr, h⟩ := h
  exact ⟨T, fr, by rw [b.block _ this]; exact h⟩
end Go.Proofs.YtfmebdmgnmogaaaDoor.Hv
namespace Go.Proofs.YtfmebdmgnmogaaaDoor.Hv
open Go Go.RowKit

inductive HV where
  | any
  | raw (v : Value)
  | sl (n : Nat) (full : Bool) (cells : List HV)
  | agg (cells : List HV)
  | tup (vs : List HV)
  | own (id off n : Nat) (full : Bool)
  | ptr (id off : Nat)
  | iptr (cells : List HV)

structure HBlk where
  al : Bool := false
  live : Bool := false
  wb : Bool := false
  grow : Bool := false
  elem : TypeId := 0
  sz : Nat := 1
  cells : List HV := []

abbrev Hp := Nat → HBlk
abbrev Mp := Nat → Option (Nat × Nat)
abbrev AP := Addr → Prop

def HV.flat : HV → Bool
  | .any | .raw _ | .sl .. => true
  | _ => false

/-- What a value reads as: w: memory; X: what may still be written; m: where the blocks of the call's own lie. -/
inductive Rep (w : World) (X : AP) (m : Mp) (h : Hp) : HV → Value → Prop
  | any (v : Value) : Rep w X m h .any v
  | raw (v : Value) : Rep w X m h (.raw v) v
  | sl (n : Nat) (full : Bool) (cells : List HV) (a : Option Addr) (c : Nat) (vs : List Value) : vs.length = cells.length → n ≤ c → (full = true → c = n) → n ≤ cells.length →
      (∀ x ∈ cells, x.flat = true) →
      (∀ (j : Nat) (v : Value), vs[j]? = some v → ∃ ad, a = some ad ∧ w.cell? (ad.add j) = some v ∧ ¬ X (ad.add j)) →
      (∀ (j : Nat) (x : HV) (v : Value), cells[j]? = some x → vs[j]? = some v → Rep w X m h x v) → Rep w X m h (.sl n full cells) (.slice a n c)
  | agg (cells : List HV) (vs : List Value) : vs.length = cells.length →
      (∀ (j : Nat) (x : HV) (v : Value), cells[j]? = some x → vs[j]? = some v → Rep w X m h x v) → Rep w X m h (.agg cells) (.agg vs.toArray)
  | tup (cells : List HV) (vs : List Value) : vs.length = cells.length →
      (∀ (j : Nat) (x : HV) (v : Value), cells[j]? = some x → vs[j]? = some v → Rep w X m h x v) → Rep w X m h (.tup cells) (.tuple vs.toArray)
  | own (id off n : Nat) (full : Bool) (a : Option Addr) (c : Nat) : (h id).al = true → n ≤ c → (full = true → c = n) →
      (0 < c → ∃ (b o : Nat) (cs : Array Value) (e : TypeId), m id = some (b, o) ∧ a = some ⟨b, o + off, none⟩ ∧ w.heap[b]? = some (Obj.cells cs e (0, 0)) ∧ o + off + c * (h id).sz ≤ cs.size) →
      Rep w X m h (.own id off n full) (.slice a n c)
  | ptr (id off b o : Nat) : (h id).al = true → m id = some (b, o) → Rep w X m h (.ptr id off) (.pointer (some ⟨b, o + off, none⟩))
  | iptr (cells : List HV) (ad : Addr) (vs : List Value) : vs.length = cells.length → (∀ x ∈ cells, x.flat = true) →
      (∀ (j : Nat) (v : Value), vs[j]? = some v → w.cell? (ad.add j) = some v ∧ ¬ X (ad.add j)) →
      (∀ (j : Nat) (x : HV) (v : Value), cells[j]? = some x → vs[j]? = some v → Rep w X m h x v) → Rep w X m h (.iptr cells) (.pointer (some ad))

/-- Blocks keep their sizes. -/
def Shp (w w' : World) : Prop := ∀ (b : Nat) (cs : Array Value) (e : TypeId) (fz : Nat × Nat), w.heap[b]? = some (Obj.cells cs e fz) → ∃ cs' : Array Value, w'.heap[b]? = some (Obj.cells cs' e fz) ∧ cs'.size = cs.size
theorem Shp.refl (w : World) : Shp w w := fun _ cs _ _ h => ⟨cs, h, rfl⟩
theorem Shp.trans {a b c : World} (h : Shp a b) (k : Shp b c) : Shp a c := fun i cs e fz hi => by
  obtain ⟨c1, h1, e1⟩ := h i cs e fz hi
  obtain ⟨c2, h2, e2⟩ := k i c1 e fz h1
  exact ⟨c2, h2, e2.trans e1⟩

def HpLe (m m' : Mp) (h h' : Hp) : Prop := ∀ id, (h id).al = true → (h' id).al = true ∧ m' id = m id ∧ (h' id).sz = (h id).sz
theorem HpLe.refl (m : Mp) (h : Hp) : HpLe m m h h := fun _ ha => ⟨ha, rfl, rfl⟩

theorem Rep.mono {w w' : World} {X X' : AP} {m m' : Mp} {h h' : Hp} {x : HV} {v : Value} (r : Rep w X m h x v)
    (hc : ∀ p u, w.cell? p = some u → ¬ X p → w'.cell? p = some u ∧ ¬ X' p) (hs : Shp w w') (hm : HpLe m m' h h') : Rep w' X' m' h' x v := by
  induction r with
  | any v => exact .any v
  | raw v => exact .raw v
  | sl n full cells a c vs h1 h2 h3 h3' h4 h5 _ ih =>
    exact .sl n full cells a c vs h1 h2 h3 h3' h4 (fun j v hj => by
      obtain ⟨ad, e, hcell, hx⟩ := h5 j v hj
      exact ⟨ad, e, (hc _ _ hcell hx).1, (hc _ _ hcell hx).2⟩) ih
  | agg cells vs h1 _ ih => exact .agg cells vs h1 ih
  | tup cells vs h1 _ ih => exact .tup cells vs h1 ih
  | own id off n full a c h1 h2 h3 h4 =>
    obtain ⟨k1, k2, k3⟩ := hm id h1
    refine .own id off n full a c k1 h2 h3 (fun h0 => ?_)
    obtain ⟨b, o, cs, e, e1, e2, e3, e4⟩ := h4 h0
    obtain ⟨cs', f1, f2⟩ := hs b cs e _ e3
    exact ⟨b, o, cs', e, by rw [k2, e1], e2, f1, by rw [k3, f2]; exact e4⟩
  | ptr id off b o h1 h2 =>
    obtain ⟨k1, k2, _⟩ := hm id h1
    exact .ptr id off b o k1 (by rw [k2, h2])
  | iptr cells ad vs h1 h2 h3 _ ih => exact .iptr cells ad vs h1 h2 (fun j v hj => hc _ _ (h3 j v hj).1 (h3 j v hj).2) ih

/-- What block id may still change. -/
def Xid (m : Mp) (h : Hp) (id : Nat) : AP := fun p => (h id).live = true ∧ ∃ b o : Nat, m id = some (b, o) ∧ p.block = b ∧
  (((h id).wb = true ∧ o ≤ p.off ∧ p.off < o + (h id).cells.length) ∨ ((h id).grow = true ∧ o + (h id).cells.length ≤ p.off))
def Xt (Xo : AP) (m : Mp) (h : Hp) : AP := fun p => Xo p ∨ ∃ id, Xid m h id p

structure HeapOK (w : World) (Xo : AP) (m : Mp) (h : Hp) : Prop where
  alive : ∀ id, (h id).live = true → (h id).al = true
  real : ∀ id, (h id).live = true → (m id = none ∧ (h id).cells = []) ∨ ∃ (b o : Nat) (cs : Array Value), m id = some (b, o) ∧ w.heap[b]? = some (Obj.cells cs (h id).elem (0, 0)) ∧ o + (h id).cells.length ≤ cs.size ∧
    ∀ (j : Nat) (x : HV), (h id).cells[j]? = some x → ∃ v, cs[o + j]? = some v ∧ v.oneCell' = true ∧ Rep w (Xt Xo m h) m h x v
  sep : ∀ i j bi oi oj, i ≠ j → (h i).live = true → (h j).live = true → m i = some (bi, oi) → m j = some (bi, oj) →
    (h i).wb = false ∧ (h j).wb = false ∧ ¬ ((h i).grow = true ∧ (h j).grow = true) ∧ ((h i).grow = true → oj + (h j).cells.length ≤ oi + (h i).cells.length)
  out : ∀ id b o off, (h id).live = true → m id = some (b, o) → ((o ≤ off ∧ off < o + (h id).cells.length) ∨ ((h id).grow = true ∧ o + (h id).cells.length ≤ off)) → ¬ Xo ⟨b, off, none⟩
  lt : ∀ p, Xo p → p.block < w.heap.size

/-- What has changed of old memory: at most what Xw says. -/
structure Chg (Xw : AP) (w0 w : World) : Prop where
  os : w.os = w0.os
  tape : w.tape = w0.tape
  output : w.output = w0.output
  size : w0.heap.size ≤ w.heap.size
  shp : Shp w0 w
  cell : ∀ p v, w0.cell? p = some v → ¬ Xw p → w.cell? p = some v
  blk : ∀ i, i < w0.heap.size → (∀ off, ¬ Xw ⟨i, off, none⟩) → w.heap[i]? = w0.heap[i]?

theorem Chg.refl (Xw : AP) (w : World) : Chg Xw w w := ⟨rfl, rfl, rfl, Nat.le_refl _, Shp.refl w, fun _ _ h _ => h, fun _ _ _ => rfl⟩
theorem Chg.trans {X : AP} {a b c : World} (h : Chg X a b) (k : Chg X b c) : Chg X a c :=
  ⟨k.os.trans h.os, k.tape.trans h.tape, k.output.trans h.output, Nat.le_trans h.size k.size, h.shp.trans k.shp,
    fun p v hp hx => k.cell p v (h.cell p v hp hx) hx, fun i hi hx => (k.blk i (Nat.lt_of_lt_of_le hi h.size) hx).trans (h.blk i hi hx)⟩
theorem Chg.below {w w' : World} (h : Chg (fun _ => False) w w') : Below w.heap.size w w' := ⟨h.os, h.tape, h.output, h.size, fun k hk => h.blk k hk (fun _ h => h)⟩

structure HS where
  fr : Nat → HV
  hp : Hp
  nx : Nat
  nt : Nat

structure Ctx where
  P : Program
  Xo : AP
  Xw : AP
  w0 : World
  n0 : Nat
  m0 : Mp

structure Good (C : Ctx) (st : HS) (m : Mp) (a : Act) (w : World) : Prop where
  defers : a.defers = []
  nt : a.tmps.size = st.nt
  fr : ∀ t, Rep w (Xt C.Xo m st.hp) m st.hp (st.fr t) (a.tmps.getD t undef)
  heap : HeapOK w C.Xo m st.hp
  chg : Chg C.Xw C.w0 w
  base : ∀ id, id < C.n0 → m id = C.m0 id
  fresh : ∀ id b o, C.n0 ≤ id → (st.hp id).live = true → m id = some (b, o) → C.w0.heap.size ≤ b
  win : ∀ id p, id < C.n0 → Xid m st.hp id p → C.Xw p
  xo : ∀ p, C.Xo p → p.block < C.w0.heap.size
  bnd : ∀ b, ∃ B, ∀ off, C.Xw ⟨b, off, none⟩ → off < B
  nx : C.n0 ≤ st.nx
  g0 : GW C.w0 ∧ ∀ p v, gl p v → ¬ C.Xw p

theorem GW.chgX {X : AP} {w w' : World} (h : GW w) (c : Chg X w w') (hx : ∀ p v, gl p v → ¬ X p) : GW w' := by
  have hl := h.lt
  obtain ⟨T, fr, h⟩ := h
  exact ⟨T, fr, by rw [c.blk gB hl (fun off hh => hx ⟨gB, off, none⟩ (.int .u64 0) rfl hh)]; exact h⟩
theorem Good.gw {C : Ctx} {st : HS} {m : Mp} {a : Act} {w : World} (g : Good C st m a w) : GW w := g.g0.1.chgX g.chg g.g0.2
theorem GW.chg {w w' : World} (h : GW w) (c : Chg (fun _ => False) w w') : GW w' := h.chgX c (fun _ _ _ h => h)
end Go.Proofs.YtfmebdmgnmogaaaDoor.Hv
