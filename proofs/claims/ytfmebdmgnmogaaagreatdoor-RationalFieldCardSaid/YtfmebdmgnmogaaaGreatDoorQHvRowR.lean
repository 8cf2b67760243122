/- Rational numbers, rows of two numbers and strings among a law's arguments. No statement of its own. -/
import Derived.Test.YtfmebdmgnmogaaaGreatDoorQHvTac
import Derived.Test.YtfmebdmgnmogaaaGreatDoorQQ3
import Derived.ChangeMaps5
import Derived.LaidMore
import Derived.Lay
import Derived.LaidSub
set_option linter.unusedVariables false
set_option linter.unusedSimpArgs false
set_option linter.unusedVariables false
set_option maxRecDepth 100000
namespace Go.Proofs.YtfmebdmgnmogaaaGreatDoor
open Go Go.RowKit Hv
open Go.ChangeShapes Go.WideShapes Go.ChangeAt
theorem okWide_array {P : Program} {w : World} {r : Reach} {base : Nat} {t : TypeId} {v : Value} {n : Nat} {e : TypeId} (ht : P.underlying t = some (.array n e)) (h : Value.okWide P w r base t v) : ∃ cs, v = .agg cs ∧ cs.size = P.cellsOf t := by
  simp only [Value.okWide, ht] at h
  obtain ⟨cs, h1, h2, _⟩ := h
  exact ⟨cs, h1, h2⟩
section
variable {H : Type} {enc : TypeId × Value → H} {w : World}
theorem c4 : Tryz.prog.cellsOf 4 = 1 := by kernel_rfl
theorem c22 : Tryz.prog.cellsOf 22 = 1 := by kernel_rfl
theorem c24 : Tryz.prog.cellsOf 24 = 2 := by kernel_rfl
theorem c26 : Tryz.prog.cellsOf 26 = 4 := by kernel_rfl
theorem int_cells {fuel : Nat} {cs : List Value} {y : DataW H × List MemPlace} (h : DataW.trod enc Tryz.prog w 0 (fun _ => true) true fuel 24 cs = some y) :
    ∃ (b : Bool) (v1 : Value) (xs : List Int), cs = [.bool b, v1] ∧ (∀ x ∈ xs, 0 ≤ x ∧ x < 4294967296) ∧ Reads w (.sl xs.length false (ints .u32 xs)) v1 := by
  obtain ⟨y0, y1, n, _, hl, h0, h1⟩ := trod_struct2 Tryz.underlying24 h
  match cs, hl.trans c24 with
  | [a0, a1], _ =>
    simp only [c4, c22, List.drop_zero, List.drop_succ_cons, List.take_succ_cons, List.take_zero] at h0 h1
    obtain ⟨b, hb, _⟩ := DataW.trod_bool Tryz.underlying4 h0
    simp only [List.cons.injEq, and_true] at hb
    subst hb
    obtain ⟨xs, hu, hr⟩ := limbs_rep h1
    exact ⟨b, a1, xs, rfl, hu, hr⟩
/-- A rational number among the arguments. -/
theorem rat_rep {b0 : Nat} {v : Value} {d : DataW H} {p : List MemPlace} (hv : Value.okWide Tryz.prog w .any b0 26 v) (h : DataW.Trod enc Tryz.prog w 0 (fun _ => true) true 26 v d p) :
    ∃ (b c : Bool) (xs ys : List Int), (∀ x ∈ xs, 0 ≤ x ∧ x < 4294967296) ∧ (∀ x ∈ ys, 0 ≤ x ∧ x < 4294967296) ∧ Reads w (.agg [.raw (.bool b), .sl xs.length false (ints .u32 xs), .raw (.bool c), .sl ys.length false (ints .u32 ys)]) v := by
  obtain ⟨cs, rfl, hsz⟩ := okWide_struct Tryz.underlying26 hv
  obtain ⟨fuel, hf⟩ := h
  obtain ⟨y0, y1, n, _, hl, h0, h1⟩ := trod_struct2 Tryz.underlying26 hf
  have hl' : cs.toList.length = 4 := by simpa [Value.cells] using hl.trans c26
  obtain ⟨l⟩ := cs
  match l, hl' with
  | [a0, a1, a2, a3], _ =>
    simp only [Value.cells, c24, List.drop_zero, List.drop_succ_cons, List.take_succ_cons, List.take_zero, List.drop_nil] at h0 h1
    obtain ⟨b, v1, xs, e0, hu, hr⟩ := int_cells h0
    obtain ⟨c, v2, ys, e1, hu', hr'⟩ := int_cells h1
    simp only [List.cons.injEq, and_true] at e0 e1
    obtain ⟨rfl, rfl⟩ := e0
    obtain ⟨rfl, rfl⟩ := e1
    refine ⟨b, c, xs, ys, hu, hu', fun m => .agg _ [.bool b, a1, .bool c, a3] rfl (fun j x u hx hu => ?_)⟩
    match j with
    | 0 => simp at hx hu; subst hx hu; exact .raw _
    | 1 => simp at hx hu; subst hx hu; exact hr m
    | 2 => simp at hx hu; subst hx hu; exact .raw _
    | 3 => simp at hx hu; subst hx hu; exact hr' m
    | j + 4 => simp at hx
theorem c2 : Tryz.prog.cellsOf 2 = 1 := by kernel_rfl
theorem c51 : Tryz.prog.cellsOf 51 = 2 := by kernel_rfl
/-- A row of two numbers among the arguments. -/
theorem arr_rep {b0 : Nat} {v : Value} {d : DataW H} {p : List MemPlace} (hv : Value.okWide Tryz.prog w .any b0 51 v) (h : DataW.Trod enc Tryz.prog w 0 (fun _ => true) true 51 v d p) :
    ∃ m n : Int, (-9223372036854775808 ≤ m ∧ m ≤ 9223372036854775807) ∧ (-9223372036854775808 ≤ n ∧ n ≤ 9223372036854775807) ∧ Reads w (.agg [.raw (.int .i64 m), .raw (.int .i64 n)]) v := by
  obtain ⟨cs, rfl, hsz⟩ := okWide_array Tryz.underlying51 hv
  obtain ⟨fuel, hf⟩ := h
  obtain ⟨xs, n, _, _, hl, hlen, hg⟩ := DataW.trod_array Tryz.underlying51 hf
  have hl' : cs.toList.length = 2 := by simpa [Value.cells] using hl.trans c51
  obtain ⟨l⟩ := cs
  match l, hl', xs, hlen with
  | [a0, a1], _, [y0, y1], _ =>
    have g0 := hg 0 (by decide)
    have g1 := hg 1 (by decide)
    simp only [Value.cells, c2, Nat.mul_one, List.drop_zero, List.drop_succ_cons, List.take_succ_cons, List.take_zero, List.getElem?_cons_zero, List.getElem?_cons_succ] at g0 g1
    obtain ⟨m, e0, _, w0⟩ := DataW.trod_int Tryz.underlying2 g0
    obtain ⟨k, e1, _, w1⟩ := DataW.trod_int Tryz.underlying2 g1
    simp only [List.cons.injEq, and_true] at e0 e1
    subst e0 e1
    refine ⟨m, k, wf_i64 w0, wf_i64 w1, fun q => .agg _ [.int .i64 m, .int .i64 k] rfl (fun j x u hx hu => ?_)⟩
    match j with
    | 0 => simp at hx hu; subst hx hu; exact .raw _
    | 1 => simp at hx hu; subst hx hu; exact .raw _
    | j + 2 => simp at hx
end
end Go.Proofs.YtfmebdmgnmogaaaGreatDoor
