/- From a contract over abstract values to a given row: arguments opened, the world behind the call. No statement of its own. -/
import Derived.Test.YtfmebdmgnmogaaaDoorQT1
import Derived.WalkKit
import Derived.ProofKit
import Derived.OpenShut
import Derived.ShutString
import Derived.ChangeOld
import Derived.Below
import Derived.SizedLaws
import Derived.Lib.SmallJoins
import Derived.Lib.LaidTab
import Derived.Lib.ItoaNum
set_option linter.unusedVariables false
namespace Go.Proofs.YtfmebdmgnmogaaaDoor
open Go Go.RowKit Hv
open Go.ChangeShapes Go.WideShapes Go.ChangeAt

theorem ownT : ownKnob Tryd.prog.godebug = none := by kernel_rfl
theorem laidT : laidOutB Tryd.prog = true := by kernel_rfl
theorem wf_u32 {n : Int} (h : (Lit.int .u32 n).wf = true) : 0 ≤ n ∧ n < 4294967296 := by
  simp [Lit.wf, IntKind.min, IntKind.max, IntKind.signed, IntKind.bits] at h; omega
theorem wf_i64 {n : Int} (h : (Lit.int .i64 n).wf = true) : -9223372036854775808 ≤ n ∧ n ≤ 9223372036854775807 := by
  simp [Lit.wf, IntKind.min, IntKind.max, IntKind.signed, IntKind.bits] at h; omega

/-- A value is read so, whatever else is written. -/
def Reads (w : World) (x : HV) (v : Value) : Prop := ∀ m, Rep w (Xt (fun _ => False) m (ofL [])) m (ofL []) x v
theorem noX {m : Mp} {p : Addr} : ¬ Xt (fun _ => False) m (ofL []) p := fun h => (Xt_nil p).1 h

section
variable {H : Type} {enc : TypeId × Value → H} {w : World}
theorem limbs_rep {fuel : Nat} {v : Value} {y : DataW H × List MemPlace} (h : DataW.trod enc Tryd.prog w 0 (fun _ => true) true fuel 22 [v] = some y) : ∃ xs : List Int, (∀ x ∈ xs, 0 ≤ x ∧ x < 4294967296) ∧ Reads w (.sl xs.length false (ints .u32 xs)) v := by
  rcases open_ints Tryd.underlying22 Tryd.underlying38 (by kernel_rfl) h with ⟨hcs, _⟩ | ⟨a, len, cap, zs, hcs, _, hl, hm, hz, _, hcell, hwz⟩
  · simp at hcs
    subst hcs
    exact ⟨[], by simp, fun m => .sl 0 false [] none 0 [] rfl (Nat.le_refl _) (by simp) (by simp) (by simp) (by simp) (by simp)⟩
  · simp at hcs
    subst hcs
    simp at hz
    refine ⟨zs.take len, fun x hx => wf_u32 (hwz x (List.mem_of_mem_take hx)), fun m => ?_⟩
    have hlen : (zs.take len).length = len := by rw [List.length_take]; omega
    rw [hlen]
    refine .sl len false (ints .u32 (zs.take len)) (some a) cap ((zs.take len).map (Value.int .u32)) (by simp [ints]) hl (by simp) (by simp [ints]; omega) (ints_flat _ _) (fun j u hj => ?_) (fun j x u hx hu => ?_)
    · rw [List.getElem?_map, Option.map_eq_some_iff] at hj
      obtain ⟨z, hz1, rfl⟩ := hj
      have hj1 : j < (zs.take len).length := (List.getElem?_eq_some_iff.1 hz1).1
      have hj2 : j < zs.length := by omega
      refine ⟨a, rfl, ?_, noX⟩
      rw [hcell j hj2]
      rw [List.getElem?_take] at hz1
      rw [if_pos (by omega)] at hz1
      simp [List.getD, hz1]
    · simp only [ints, List.getElem?_map, Option.map_eq_some_iff] at hx hu
      obtain ⟨z1, e1, rfl⟩ := hx
      obtain ⟨z2, e2, rfl⟩ := hu
      rw [e1] at e2
      injection e2 with e2
      subst e2
      exact .raw _
/-- An integer among the arguments. -/
theorem int_rep {b0 : Nat} {v : Value} {d : DataW H} {p : List MemPlace} (hv : Value.okWide Tryd.prog w .any b0 24 v) (h : DataW.Trod enc Tryd.prog w 0 (fun _ => true) true 24 v d p) :
    ∃ (b : Bool) (xs : List Int), (∀ x ∈ xs, 0 ≤ x ∧ x < 4294967296) ∧ Reads w (.agg [.raw (.bool b), .sl xs.length false (ints .u32 xs)]) v := by
  obtain ⟨v0, v1, y0, y1, n, rfl, _, _, h0, h1⟩ := Go.Joins.open_agg2 Tryd.underlying24 (by kernel_rfl) (by kernel_rfl) hv h
  obtain ⟨b, hb, _⟩ := DataW.trod_bool Tryd.underlying4 h0
  simp at hb
  subst hb
  obtain ⟨xs, hu, hr⟩ := limbs_rep h1
  refine ⟨b, xs, hu, fun m => .agg _ [.bool b, v1] rfl (fun j x u hx hu => ?_)⟩
  match j with
  | 0 => simp at hx hu; subst hx hu; exact .raw _
  | 1 => simp at hx hu; subst hx hu; exact hr m
  | j + 2 => simp at hx
end

/-- The table of powers of ten, out of what the row lists. -/
theorem gw_of_tab {w : World} (h : Lib.TabIs Tryd.prog w "internal/strconv.uint64pow10" .u64 Lib.pow10Tab) : GW w := by
  have hg : Tryd.prog.globalNamed "internal/strconv.uint64pow10" = some gB := by kernel_rfl
  have h2 : World.var? Tryd.prog w "internal/strconv.uint64pow10" = _ := h
  unfold World.var? at h2
  rw [hg] at h2
  have h3 : (match w.heap[gB]? with | some (.cells cs _ _) => some cs | _ => none) = some (Lib.pow10Tab.map fun z => Value.int .u64 z).toArray := h2
  split at h3
  · rename_i cs T fr e
    rw [Option.some.inj h3] at e
    exact ⟨T, fr, e⟩
  · cases h3
theorem calls_true {f : FuncId} {args : List HV} {w : World} {vs : List Value} (hg : GW w) (h : HCallsD Tryd.prog f [] args (.raw (.bool true)) []) (hl : vs.length = args.length) (hr : ∀ (j : Nat) (x : HV) (v : Value), args[j]? = some x → vs[j]? = some v → Reads w x v) :
    Calls Tryd.prog f vs.toArray w fun e w' => e = .returned (.bool true) ∧ Below w.heap.size w w' := by
  refine (h.2 (fun _ => False) (fun _ => none) w vs hl (by simp) (HeapOK.nil (by simp)) ⟨hg, fun id p hx => (by have := hx.1; rw [ofL_nil] at this; cases this)⟩ (fun j x v hx hv => hr j x v hx hv _)).mono ?_
  rintro e w' ⟨v, m', he, _, _, hrep, hch⟩
  cases hrep
  have hch' : Chg (fun _ => False) w w' := ⟨hch.os, hch.tape, hch.output, hch.size, hch.shp, fun p u hp _ => hch.cell p u hp (fun ⟨id, h⟩ => (by have := h.1; rw [ofL_nil] at this; cases this)),
    fun i hi _ => hch.blk i hi (fun off ⟨id, h⟩ => (by have := h.1; rw [ofL_nil] at this; cases this))⟩
  exact ⟨he, hch'.below⟩
theorem reads1 {w : World} {x0 : HV} {v0 : Value} (h0 : Reads w x0 v0) : ∀ (j : Nat) (x : HV) (v : Value), [x0][j]? = some x → [v0][j]? = some v → Reads w x v := by
  intro j x v hx hv
  match j with
  | 0 => simp at hx hv; subst hx hv; exact h0
  | j + 1 => simp at hx
theorem reads2 {w : World} {x0 x1 : HV} {v0 v1 : Value} (h0 : Reads w x0 v0) (h1 : Reads w x1 v1) : ∀ (j : Nat) (x : HV) (v : Value), [x0, x1][j]? = some x → [v0, v1][j]? = some v → Reads w x v := by
  intro j x v hx hv
  match j with
  | 0 => simp at hx hv; subst hx hv; exact h0
  | 1 => simp at hx hv; subst hx hv; exact h1
  | j + 2 => simp at hx
theorem reads3 {w : World} {x0 x1 x2 : HV} {v0 v1 v2 : Value} (h0 : Reads w x0 v0) (h1 : Reads w x1 v1) (h2 : Reads w x2 v2) : ∀ (j : Nat) (x : HV) (v : Value), [x0, x1, x2][j]? = some x → [v0, v1, v2][j]? = some v → Reads w x v := by
  intro j x v hx hv
  match j with
  | 0 => simp at hx hv; subst hx hv; exact h0
  | 1 => simp at hx hv; subst hx hv; exact h1
  | 2 => simp at hx hv; subst hx hv; exact h2
  | j + 3 => simp at hx
theorem reads_raw {w : World} (v : Value) : Reads w (.raw v) v := fun m => .raw v
end Go.Proofs.YtfmebdmgnmogaaaDoor
