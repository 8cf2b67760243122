/- Words for using the rules: states written as lists, lists of whole numbers, the simp set. No statement of its own. -/
import Derived.Test.YtfmebdmgnmogaaaDoorQHvRules
import Derived.IntWalk
set_option linter.unusedVariables false
namespace Go.Proofs.YtfmebdmgnmogaaaDoor.Hv
open Go Go.RowKit

def lk : List (Nat × HV) → Nat → HV
  | [], _ => .any
  | (a, x) :: L, t => if t = a then x else lk L t
def hlk : List (Nat × HBlk) → Nat → HBlk
  | [], _ => {}
  | (a, x) :: L, t => if t = a then x else hlk L t
def sg : List (Nat × Nat) → Nat → Nat
  | [], id => id
  | (a, b) :: r, id => if id = a then b else sg r id

theorem upd_lk (L : List (Nat × HV)) (d : Nat) (x : HV) : upd (lk L) d x = lk ((d, x) :: L) := by funext t; simp [upd_at, lk]
theorem upd_hlk (H : List (Nat × HBlk)) (d : Nat) (x : HBlk) : upd (hlk H) d x = hlk ((d, x) :: H) := by funext t; simp [upd_at, hlk]
theorem lk_cons (a : Nat) (x : HV) (L : List (Nat × HV)) (t : Nat) : lk ((a, x) :: L) t = if t = a then x else lk L t := rfl
theorem hlk_cons (a : Nat) (x : HBlk) (L : List (Nat × HBlk)) (t : Nat) : hlk ((a, x) :: L) t = if t = a then x else hlk L t := rfl
theorem lk_nil (t : Nat) : lk [] t = .any := rfl
theorem hlk_nil (t : Nat) : hlk [] t = {} := rfl
theorem ofL_hlk0 : ofL [] = hlk [] := by funext t; rw [ofL_nil]; rfl
theorem ofL_hlk1 (b : HBlk) : ofL [b] = hlk [(0, b)] := by funext t; rw [ofL_one]; rfl

def ints (k : IntKind) (xs : List Int) : List HV := xs.map fun x => .raw (.int k x)
theorem ints_length (k : IntKind) (xs : List Int) : (ints k xs).length = xs.length := by simp [ints]
theorem ints_append (k : IntKind) (xs ys : List Int) : ints k xs ++ ints k ys = ints k (xs ++ ys) := by simp [ints]
theorem ints_take (k : IntKind) (xs : List Int) (n : Nat) : (ints k xs).take n = ints k (xs.take n) := by simp [ints]
theorem ints_drop (k : IntKind) (xs : List Int) (n : Nat) : (ints k xs).drop n = ints k (xs.drop n) := by simp [ints]
theorem ints_one (k : IntKind) (x : Int) : [HV.raw (.int k x)] = ints k [x] := rfl
theorem ints_nil (k : IntKind) : ([] : List HV) = ints k [] := rfl
theorem ints_getD (k : IntKind) (xs : List Int) (n : Nat) (h : n < xs.length) : (ints k xs).getD n .any = .raw (.int k (xs.getD n 0)) := by simp [ints, List.getD, h]
theorem ints_getD_drop (k : IntKind) (xs : List Int) (n : Nat) (h : n < xs.length) : (ints k (xs.drop n)).getD 0 .any = .raw (.int k (xs.getD n 0)) := by
  rw [ints_getD _ _ _ (by simp; omega)]; simp [List.getD]
theorem ints_splice (k : IntKind) (xs : List Int) (n : Nat) (v : Int) (h : n < xs.length) : splice (ints k xs) n (ints k [v]) = ints k (xs.set n v) := by
  unfold splice
  rw [ints_length, ints_take, ints_drop, ints_append, ints_append]
  congr 1
  rw [List.set_eq_take_append_cons_drop, if_pos h]
  simp
theorem ints_splice_all (k : IntKind) (xs ys : List Int) (n : Nat) : splice (ints k xs) n (ints k ys) = ints k (splice xs n ys) := by
  unfold splice
  rw [ints_length, ints_take, ints_drop, ints_append, ints_append]
theorem ints_reps (k : IntKind) (v : Int) (n : Nat) : reps [HV.raw (.int k v)] n = ints k (List.replicate n v) := by
  induction n with
  | zero => rfl
  | succ n ih => simp [reps, ih, ints, List.replicate_succ]
theorem ints_ones (k : IntKind) (xs : List Int) : ∀ c ∈ ints k xs, c.one = true := by
  intro c hc; simp only [ints, List.mem_map] at hc; obtain ⟨x, _, rfl⟩ := hc; rfl
theorem ints_flat (k : IntKind) (xs : List Int) : ∀ c ∈ ints k xs, c.flat = true := by
  intro c hc; simp only [ints, List.mem_map] at hc; obtain ⟨x, _, rfl⟩ := hc; rfl
theorem ints_ren (k : IntKind) (xs : List Int) (σ : Nat → Nat) : (ints k xs).map (ren1 σ) = ints k xs := by simp [ints, ren1]
theorem ints_ref (k : IntKind) (xs : List Int) (h h' : Hp) (σ : Nat → Nat) : ∀ c ∈ ints k xs, ref1 h h' σ c := by
  intro c hc; simp only [ints, List.mem_map] at hc; obtain ⟨x, _, rfl⟩ := hc; trivial

theorem inj_nodup {α β : Type} {f : α → β} : ∀ {l : List α}, (l.map f).Nodup → ∀ p ∈ l, ∀ q ∈ l, f p = f q → p = q
  | [], _, _, hp, _, _, _ => by cases hp
  | a :: l, h, p, hp, q, hq, e => by
    simp only [List.map_cons, List.nodup_cons, List.mem_map, not_exists, not_and] at h
    rcases List.mem_cons.1 hp with k1 | k1 <;> rcases List.mem_cons.1 hq with k2 | k2
    · rw [k1, k2]
    · subst k1; exact absurd e.symm (h.1 q k2)
    · subst k2; exact absurd e (h.1 p k1)
    · exact inj_nodup h.2 p k1 q k2 e

theorem lk_mem {L : List (Nat × HV)} {t : Nat} : lk L t = .any ∨ ∃ p ∈ L, p.1 = t ∧ p.2 = lk L t := by
  induction L with
  | nil => exact .inl rfl
  | cons q L ih =>
    obtain ⟨a, x⟩ := q
    rw [lk_cons]
    by_cases e : t = a
    · rw [if_pos e]; exact .inr ⟨(a, x), by simp, e.symm, rfl⟩
    · rw [if_neg e]
      rcases ih with h | ⟨p, h1, h2⟩
      · exact .inl h
      · exact .inr ⟨p, by simp [h1], h2⟩
theorem hlk_mem {H : List (Nat × HBlk)} {t : Nat} (h : (hlk H t).live = true) : ∃ p ∈ H, p.1 = t ∧ p.2 = hlk H t := by
  induction H with
  | nil => cases h
  | cons q L ih =>
    obtain ⟨a, x⟩ := q
    rw [hlk_cons] at h ⊢
    by_cases e : t = a
    · rw [if_pos e]; exact ⟨(a, x), by simp, e.symm, rfl⟩
    · rw [if_neg e] at h ⊢
      obtain ⟨p, h1, h2⟩ := ih h
      exact ⟨p, by simp [h1], h2⟩

def covF (st : HS) (H' : Hp) (σ : Nat → Nat) (p : Nat × HV) : Prop := st.fr p.1 = ren σ p.2 ∧ ref st.hp H' σ p.2
def covB (st : HS) (H' : Hp) (σ : Nat → Nat) (p : Nat × HBlk) : Prop :=
  p.2.al = true ∧ st.hp (σ p.1) = { p.2 with cells := p.2.cells.map (ren1 σ) } ∧ (∀ c ∈ p.2.cells, ref1 st.hp H' σ c)
theorem cov_lists {n0 : Nat} {st : HS} (s : List (Nat × Nat)) (L : List (Nat × HV)) (H : List (Nat × HBlk)) (nx : Nat) (h1 : ∀ p ∈ L, covF st (hlk H) (sg s) p) (h2 : ∀ p ∈ H, covB st (hlk H) (sg s) p)
    (h3 : (H.map fun p => sg s p.1).Nodup) (h4 : ∀ p ∈ H, n0 ≤ p.1 → n0 ≤ sg s p.1) (h5 : ∀ id, id < n0 → sg s id = id) (h6 : n0 ≤ nx) {nt : Nat} (h7 : nt = st.nt) : Cov n0 st ⟨lk L, hlk H, nx, nt⟩ := by
  refine ⟨⟨sg s, fun t => ?_, fun id hl => ?_, fun i j hi hj e => ?_, h5⟩, h7, h6⟩
  · rcases lk_mem (L := L) (t := t) with h | ⟨p, hp, rfl, e⟩
    · exact .inl h
    · obtain ⟨k1, k2⟩ := h1 p hp
      exact .inr ⟨by simp only; rw [← e]; exact k1, by simp only; rw [← e]; exact k2⟩
  · obtain ⟨p, hp, rfl, e⟩ := hlk_mem hl
    obtain ⟨k1, k2, k3⟩ := h2 p hp
    simp only at hl ⊢
    rw [← e]
    exact ⟨k1, k2, k3, h4 p hp⟩
  · obtain ⟨p, hp, rfl, _⟩ := hlk_mem hi
    obtain ⟨q, hq, rfl, _⟩ := hlk_mem hj
    exact congrArg (·.1) (inj_nodup h3 p hp q hq e)


theorem vcOps_nil (P : Program) (Γ : FuncId → Option Nat) (ops : Array Oper) (base : Nat) (draw : Bool) (k : Nat) (G : List (Nat × Option Tmp)) (L : List (Nat × Foot)) (st : HS) (Q : HS → Prop) : vcOps P Γ ops base draw k [] G L st Q = Q st := rfl
theorem vcOps_cons (P : Program) (Γ : FuncId → Option Nat) (ops : Array Oper) (base : Nat) (k : Nat) (o : Oper) (l : List Oper) (G : List (Nat × Option Tmp)) (L : List (Nat × Foot)) (st : HS) (Q : HS → Prop) :
    vcOps P Γ ops base false k (o :: l) G L st Q = vcG P Γ G (base + 4 * k) o st fun st' ft => vcOps P Γ ops base false (k + 1) l ((k, o.dst) :: G) L st' Q := by simp [vcOps]
theorem vcOps_consD (P : Program) (Γ : FuncId → Option Nat) (ops : Array Oper) (base : Nat) (k : Nat) (o : Oper) (l : List Oper) (G : List (Nat × Option Tmp)) (L : List (Nat × Foot)) (st : HS) (Q : HS → Prop) :
    vcOps P Γ ops base true k (o :: l) G L st Q = vcG P Γ G (base + 4 * k) o st fun st' ft => chk ops k L ft = true ∧ vcOps P Γ ops base true (k + 1) l ((k, o.dst) :: G) ((k, ft) :: L) st' Q := by simp [vcOps]
theorem vcG_free (P : Program) (Γ : FuncId → Option Nat) (G : List (Nat × Option Tmp)) (i : Nat) (d : Option Tmp) (op : Op) (t : TypeId) (pos : String) (af : Array Edge) (st : HS) (K : HS → Foot → Prop) :
    vcG P Γ G i ⟨d, op, t, pos, af, none⟩ st K = vcOp P Γ i op d st K := rfl
/-- A guard: two ways, of which a plain value leaves one. (The last argument keeps a rewriter out of both.) -/
def Dum2 (A B : Prop) : Type := Unit
def dum2 (A B : Prop) : Dum2 A B := ()
def gK (b want : Bool) (A B : Prop) (_ : Dum2 A B) : Prop := (b = want → A) ∧ (b = (!want) → B)
theorem gK_tt (A B : Prop) (d : Dum2 A B) : gK true true A B d = A := by simp [gK]
theorem gK_ff (A B : Prop) (d : Dum2 A B) : gK false false A B d = A := by simp [gK]
theorem gK_tf (A B : Prop) (d : Dum2 A B) : gK true false A B d = B := by simp [gK]
theorem gK_ft (A B : Prop) (d : Dum2 A B) : gK false true A B d = B := by simp [gK]
theorem gK_dt (p : Prop) [Decidable p] (A B : Prop) (d : Dum2 A B) : gK (decide p) true A B d = ((p → A) ∧ (¬ p → B)) := by simp [gK]
theorem gK_df (p : Prop) [Decidable p] (A B : Prop) (d : Dum2 A B) : gK (decide p) false A B d = ((¬ p → A) ∧ (p → B)) := by simp [gK]
theorem gK_ndt (p : Prop) [Decidable p] (A B : Prop) (d : Dum2 A B) : gK (!decide p) true A B d = ((¬ p → A) ∧ (p → B)) := by simp [gK]
theorem gK_ndf (p : Prop) [Decidable p] (A B : Prop) (d : Dum2 A B) : gK (!decide p) false A B d = ((p → A) ∧ (¬ p → B)) := by simp [gK]
theorem vcG_guard (P : Program) (Γ : FuncId → Option Nat) (G : List (Nat × Option Tmp)) (i : Nat) (d : Option Tmp) (op : Op) (t : TypeId) (pos : String) (af : Array Edge) (j : Nat) (want : Bool) (st : HS) (K : HS → Foot → Prop) :
    vcG P Γ G i ⟨d, op, t, pos, af, some (j, want)⟩ st K = match lkD G j with
    | none => False
    | some d' =>
      match st.fr d' with
      | .raw (.bool b) => gK b want (vcOp P Γ i op d { st with fr := upd st.fr d' (.raw (.bool want)) } K) (dOK d st.nt ∧ K (({ st with fr := upd st.fr d' (.raw (.bool (!want))) } : HS).app d (.raw undef) []) ⟨[], []⟩) (dum2 _ _)
      | .raw (.tuple _) => dOK d st.nt ∧ K (st.app d (.raw undef) []) ⟨[], []⟩
      | _ => False := rfl
theorem lkD_nil (j : Nat) : lkD [] j = none := rfl
theorem lkD_cons (a : Nat) (d : Option Tmp) (G : List (Nat × Option Tmp)) (j : Nat) : lkD ((a, d) :: G) j = if j = a then d else lkD G j := rfl
/-- A call, with what follows it. (The last argument keeps a rewriter out of what follows.) -/
def Dum3 {α : Type} (K : α) : Type := Unit
def dum3 {α : Type} (K : α) : Dum3 K := ()
def HCallEx (P : Program) (f : FuncId) (args : List HV) (K : HV → Prop) (_ : Dum3 K) : Prop := ∃ x, HCallsD P f [] args x [] ∧ K x
def HCallExB (P : Program) (f : FuncId) (b : HBlk) (args : List HV) (K : HV → List HV → Prop) (_ : Dum3 K) : Prop := ∃ x cs, HCallsD P f [b] args x [{ b with cells := cs }] ∧ (cs.length = b.cells.length ∧ (∀ c ∈ cs, c.flat = true) ∧ x.flat = true) ∧ K x cs
theorem hcall_ex {P : Program} {f : FuncId} {args : List HV} {r : HV} {K : HV → Prop} {d : Dum3 K} (h : HCallsD P f [] args r []) (k : K r) : HCallEx P f args K d := ⟨r, h, k⟩
theorem hcall_exB {P : Program} {f : FuncId} {b b' : HBlk} {args : List HV} {r : HV} {cs : List HV} {K : HV → List HV → Prop} {d : Dum3 K} (h : HCallsD P f [b] args r [b']) (hb : b' = { b with cells := cs }) (h1 : cs.length = b.cells.length) (h2 : ∀ c ∈ cs, c.flat = true) (h3 : r.flat = true) (k : K r cs) : HCallExB P f b args K d :=
  ⟨r, cs, hb ▸ h, ⟨h1, h2, h3⟩, k⟩
theorem vcOp_def (P : Program) (Γ : FuncId → Option Nat) (i : Nat) (op : Op) (dst : Option Tmp) (st : HS) (K : HS → Foot → Prop) : vcOp P Γ i op dst st K =
  match opEff P Γ i op st.fr st.hp with
  | none => False
  | some E => dOK dst st.nt ∧ E.side ∧
    match E.res with
    | .val x wr => K (st.app dst x wr) ⟨E.rd, E.wr⟩
    | .call f args wr => HCallEx P f args (fun x => K (st.app dst x wr) ⟨E.rd, E.wr⟩) (dum3 _)
    | .callB f bid boff b args wr => HCallExB P f b args (fun x cs => K (st.app dst x (wr ++ [backB st.hp bid boff cs])) ⟨E.rd, E.wr⟩) (dum3 _) := rfl

theorem fz_agg (hp : Hp) (cs : List HV) : fz hp (.agg cs) = .agg (cs.map (fz1 hp)) := rfl
theorem fz_raw (hp : Hp) (v : Value) : fz hp (.raw v) = .raw v := rfl
theorem fz_any (hp : Hp) : fz hp .any = .any := rfl
theorem fz_sl (hp : Hp) (n : Nat) (f : Bool) (cs : List HV) : fz hp (.sl n f cs) = .sl n f cs := rfl
theorem fz_own (hp : Hp) (id off n : Nat) (full : Bool) : fz hp (.own id off n full) = .sl n full (((hp id).cells.drop off).take (n * (hp id).sz)) := rfl
theorem fz1_raw (hp : Hp) (v : Value) : fz1 hp (.raw v) = .raw v := rfl
theorem fz1_sl (hp : Hp) (n : Nat) (f : Bool) (cs : List HV) : fz1 hp (.sl n f cs) = .sl n f cs := rfl
theorem fz1_own (hp : Hp) (id off n : Nat) (full : Bool) : fz1 hp (.own id off n full) = .sl n full (((hp id).cells.drop off).take (n * (hp id).sz)) := rfl
theorem nf_agg (cs : List HV) : nf (.agg cs) = .agg (cs.map nf1) := rfl
theorem nf_raw (v : Value) : nf (.raw v) = .raw v := rfl
theorem nf_any : nf .any = .any := rfl
theorem nf_sl (n : Nat) (f : Bool) (cs : List HV) : nf (.sl n f cs) = .sl n false cs := rfl
theorem nf1_raw (v : Value) : nf1 (.raw v) = .raw v := rfl
theorem nf1_sl (n : Nat) (f : Bool) (cs : List HV) : nf1 (.sl n f cs) = .sl n false cs := rfl
theorem okz_agg (hp : Hp) (cs : List HV) : okz hp (.agg cs) = ∀ c ∈ cs, ok1 hp c := rfl
theorem okz_raw (hp : Hp) (v : Value) : okz hp (.raw v) = True := rfl
theorem okz_any (hp : Hp) : okz hp .any = True := rfl
theorem okz_sl (hp : Hp) (n : Nat) (f : Bool) (cs : List HV) : okz hp (.sl n f cs) = True := rfl
theorem okz_own (hp : Hp) (id off n : Nat) (full : Bool) : okz hp (.own id off n full) = ((hp id).live = true ∧ off + n * (hp id).sz ≤ (hp id).cells.length ∧ 0 < (hp id).sz ∧ (∀ c ∈ (hp id).cells, c.flat = true)) := rfl
theorem ok1_raw (hp : Hp) (v : Value) : ok1 hp (.raw v) = True := rfl
theorem ok1_sl (hp : Hp) (n : Nat) (f : Bool) (cs : List HV) : ok1 hp (.sl n f cs) = True := rfl
theorem ok1_own (hp : Hp) (id off n : Nat) (full : Bool) : ok1 hp (.own id off n full) = ((hp id).live = true ∧ off + n * (hp id).sz ≤ (hp id).cells.length ∧ 0 < (hp id).sz ∧ (∀ c ∈ (hp id).cells, c.flat = true)) := rfl
theorem fm_cons {p : HV → Prop} (a : HV) (l : List HV) : (∀ x, x ∈ a :: l → p x) = (p a ∧ ∀ x, x ∈ l → p x) := by simp
theorem fm_nil {p : HV → Prop} : (∀ x, x ∈ ([] : List HV) → p x) = True := by simp
theorem ren_raw (σ : Nat → Nat) (v : Value) : ren σ (.raw v) = .raw v := rfl
theorem ren_any (σ : Nat → Nat) : ren σ .any = .any := rfl
theorem ren_sl (σ : Nat → Nat) (n : Nat) (f : Bool) (cs : List HV) : ren σ (.sl n f cs) = .sl n f cs := rfl
theorem ren_own (σ : Nat → Nat) (i o n : Nat) (f : Bool) : ren σ (.own i o n f) = .own (σ i) o n f := rfl
theorem ren_ptr (σ : Nat → Nat) (i o : Nat) : ren σ (.ptr i o) = .ptr (σ i) o := rfl
theorem ren_iptr (σ : Nat → Nat) (cs : List HV) : ren σ (.iptr cs) = .iptr cs := rfl
theorem ren_agg (σ : Nat → Nat) (cs : List HV) : ren σ (.agg cs) = .agg (cs.map (ren1 σ)) := rfl
theorem ren1_raw (σ : Nat → Nat) (v : Value) : ren1 σ (.raw v) = .raw v := rfl
theorem ren1_sl (σ : Nat → Nat) (n : Nat) (f : Bool) (cs : List HV) : ren1 σ (.sl n f cs) = .sl n f cs := rfl
theorem ren1_own (σ : Nat → Nat) (i o n : Nat) (f : Bool) : ren1 σ (.own i o n f) = .own (σ i) o n f := rfl
theorem ren1_ptr (σ : Nat → Nat) (i o : Nat) : ren1 σ (.ptr i o) = .ptr (σ i) o := rfl
theorem ref_raw (h h' : Hp) (σ : Nat → Nat) (v : Value) : ref h h' σ (.raw v) = True := rfl
theorem ref_any (h h' : Hp) (σ : Nat → Nat) : ref h h' σ .any = True := rfl
theorem ref_sl (h h' : Hp) (σ : Nat → Nat) (n : Nat) (f : Bool) (cs : List HV) : ref h h' σ (.sl n f cs) = True := rfl
theorem ref_own (h h' : Hp) (σ : Nat → Nat) (i o n : Nat) (f : Bool) : ref h h' σ (.own i o n f) = ((h' i).al = true ∧ (h' i).sz = (h (σ i)).sz) := rfl
theorem ref_ptr (h h' : Hp) (σ : Nat → Nat) (i o : Nat) : ref h h' σ (.ptr i o) = ((h' i).al = true) := rfl
theorem ref_iptr (h h' : Hp) (σ : Nat → Nat) (cs : List HV) : ref h h' σ (.iptr cs) = True := rfl
theorem ref_agg (h h' : Hp) (σ : Nat → Nat) (cs : List HV) : ref h h' σ (.agg cs) = ∀ c ∈ cs, ref1 h h' σ c := rfl
theorem ref1_raw (h h' : Hp) (σ : Nat → Nat) (v : Value) : ref1 h h' σ (.raw v) = True := rfl
theorem ref1_sl (h h' : Hp) (σ : Nat → Nat) (n : Nat) (f : Bool) (cs : List HV) : ref1 h h' σ (.sl n f cs) = True := rfl
theorem ref1_own (h h' : Hp) (σ : Nat → Nat) (i o n : Nat) (f : Bool) : ref1 h h' σ (.own i o n f) = ((h' i).al = true ∧ (h' i).sz = (h (σ i)).sz) := rfl
theorem ref1_ptr (h h' : Hp) (σ : Nat → Nat) (i o : Nat) : ref1 h h' σ (.ptr i o) = ((h' i).al = true) := rfl
theorem ref1_ints (k : IntKind) (xs : List Int) (h h' : Hp) (σ : Nat → Nat) : (∀ c, c ∈ ints k xs → ref1 h h' σ c) = True := by simp only [eq_iff_iff, iff_true]; exact ints_ref k xs h h' σ
theorem sg_nil (i : Nat) : sg [] i = i := rfl
theorem sg_cons (a b : Nat) (r : List (Nat × Nat)) (i : Nat) : sg ((a, b) :: r) i = if i = a then b else sg r i := rfl
theorem u64_low (z : Int) (h : -18446744073709551616 ≤ z ∧ z < 0) : IntKind.u64.wrap z = z + 18446744073709551616 := by simp [IntKind.wrap, IntKind.bits, IntKind.signed]; omega
theorem i64_high (z : Int) (h : 9223372036854775808 ≤ z ∧ z < 18446744073709551616) : IntKind.i64.wrap z = z - 18446744073709551616 := by rw [IntKind.wrap_i64]; omega
theorem bne_tt : (true != true) = false := rfl
theorem bne_ff : (false != false) = false := rfl
theorem bne_tf : (true != false) = true := rfl
theorem bne_ft : (false != true) = true := rfl
theorem beq_tt : (true == true) = true := rfl
theorem beq_ff : (false == false) = true := rfl
theorem beq_tf : (true == false) = false := rfl
theorem beq_ft : (false == true) = false := rfl
theorem mapA_cons {α β : Type} (f : α → β) (a : α) (l : List α) : List.map f (Array.toList (List.toArray (a :: l))) = f a :: List.map f (Array.toList (List.toArray l)) := rfl
theorem mapA_nil {α β : Type} (f : α → β) : List.map f (Array.toList (List.toArray ([] : List α))) = [] := rfl
theorem splice_nil {α : Type} (l : List α) : splice l 0 [] = l := by simp [splice]
theorem splice_hd {α : Type} (a x : α) (l ys : List α) : splice (a :: l) 0 (x :: ys) = x :: splice l 0 ys := by simp [splice]
theorem splice_tl {α : Type} (a : α) (l ys : List α) (n : Nat) : splice (a :: l) (n + 1) ys = a :: splice l n ys := by simp [splice, Nat.succ_add]
theorem ints_splice1 (k : IntKind) (xs : List Int) (n : Nat) (v : Int) (h : n < xs.length) : splice (ints k xs) n [.raw (.int k v)] = ints k (xs.set n v) := ints_splice k xs n v h
theorem ints_snoc (k : IntKind) (xs : List Int) (v : Int) : ints k xs ++ [.raw (.int k v)] = ints k (xs ++ [v]) := by simp [ints]
theorem ints_toNil (k : IntKind) (xs : List Int) : [] ++ ints k xs = ints k xs := rfl
theorem one_ints (k : IntKind) (xs : List Int) : (∀ c ∈ ints k xs, c.one = true) = True := by simp only [eq_iff_iff, iff_true]; exact ints_ones k xs
theorem flat_ints (k : IntKind) (xs : List Int) : (∀ c ∈ ints k xs, c.flat = true) = True := by simp only [eq_iff_iff, iff_true]; exact ints_flat k xs
theorem one_raw (v : Value) : (HV.raw v).one = v.oneCell' := rfl
theorem one_sl (n : Nat) (f : Bool) (cs : List HV) : (HV.sl n f cs).one = true := rfl
theorem one_own (i o n : Nat) (f : Bool) : (HV.own i o n f).one = true := rfl
theorem one_ptr (i o : Nat) : (HV.ptr i o).one = true := rfl
theorem flat_raw (v : Value) : (HV.raw v).flat = true := rfl
theorem flat_sl (n : Nat) (f : Bool) (cs : List HV) : (HV.sl n f cs).flat = true := rfl
theorem cellsOf_agg (cs : List HV) : (HV.agg cs).cellsOf = cs := rfl
theorem cellsOf_raw (v : Value) : (HV.raw v).cellsOf = [.raw v] := rfl
theorem cellsOf_sl (n : Nat) (f : Bool) (cs : List HV) : (HV.sl n f cs).cellsOf = [.sl n f cs] := rfl
theorem cellsOf_own (i o n : Nat) (f : Bool) : (HV.own i o n f).cellsOf = [.own i o n f] := rfl
theorem cellsOf_ptr (i o : Nat) : (HV.ptr i o).cellsOf = [.ptr i o] := rfl
attribute [push_cast] one_raw one_sl one_own one_ptr flat_raw flat_sl cellsOf_agg cellsOf_raw cellsOf_sl cellsOf_own cellsOf_ptr one_ints flat_ints
attribute [push_cast] splice_nil splice_hd splice_tl Value.oneCell' bne_tt bne_ff bne_tf bne_ft beq_tt beq_ff beq_tf beq_ft gK_tt gK_ff gK_tf gK_ft gK_dt gK_df gK_ndt gK_ndf lkD_nil lkD_cons undef Option.isSome_some Option.isSome_none
attribute [push_cast] opEff ev ofConst pv pvs nb HV.pick effPick effAlloc effBox fillH effBuild reps effBuildSlice effMake effLoad effStore effNil arith effBin binSide effUn effConv
  effFieldAddr effField effIndexAddr effIndex effExtract intH effSlice effLen newsOf effAppend fz_agg fz_raw fz_any fz_sl fz_own fz1_raw fz1_sl fz1_own nf_agg nf_raw nf_any nf_sl nf1_raw nf1_sl fzn List.take_succ_cons List.take_zero List.take_nil List.drop_succ_cons List.drop_zero List.drop_nil id1 ids okz_agg okz_raw okz_any okz_sl okz_own ok1_raw ok1_sl ok1_own fm_cons fm_nil offs effCall effBuiltin dOK HS.app HS.adv updO setAll backB
  upd_lk upd_hlk lk_cons hlk_cons lk_nil hlk_nil List.foldl_cons List.foldl_nil List.map_cons List.map_nil List.length_cons List.length_nil thenH inB
  ints_length ints_append ints_take ints_drop ints_ren ints_reps List.getD_cons_zero List.getD_cons_succ List.flatMap_cons List.flatMap_nil List.append_nil List.nil_append List.cons_append
  Bool.not_true Bool.not_false Bool.false_eq_true Bool.true_eq_false Bool.true_and Bool.and_true Bool.false_and Bool.and_false cond_true cond_false false_and and_false if_true if_false ite_true ite_false Option.map_some Option.map_none Option.bind_some Option.bind_none
  true_and and_true forall_const imp_self List.mem_cons List.not_mem_nil false_implies implies_true or_false forall_eq_or_imp forall_eq

/-- A region; what follows behind a letter. -/
theorem region {C : Ctx} {st : HS} {P : Program} (hP : C.P = P) (Γ : FuncId → Option Nat) {id : Nat} {ops : List Oper} {Q : Exit → HS → Prop}
    (h : ∀ K : HS → Prop, (∀ s, Q .normal s → K s) → vcOps P Γ ops.toArray st.nx false 0 ops [] [] (st.adv (4 * ops.length)) K) : hwp C (.region id ops.toArray false) Q st := by
  subst hP
  exact hwp_region (Γ := Γ) (by simp) (by simpa using h (fun s => Q .normal s) (fun _ h => h))
theorem regionD {C : Ctx} {st : HS} {P : Program} (hP : C.P = P) (Γ : FuncId → Option Nat) {id : Nat} {ops : List Oper} {Q : Exit → HS → Prop} (hm : P.follows .mixedOrders = true) (hB : Region.lexB .any ops.toArray = true)
    (h : ∀ K : HS → Prop, (∀ s, Q .normal s → K s) → vcOps P Γ ops.toArray st.nx true 0 ops [] [] (st.adv (4 * ops.length)) K) : hwp C (.region id ops.toArray true) Q st := by
  subst hP
  exact hwp_region (Γ := Γ) (fun _ => ⟨hm, hB⟩) (by simpa using h (fun s => Q .normal s) (fun _ h => h))

end Go.Proofs.YtfmebdmgnmogaaaDoor.Hv
