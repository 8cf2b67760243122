/- Strings as lists of bytes; contracts of the words of strings. No statement of its own. -/
import Derived.Test.YtfmebdmgnmogaaaGreatDoorQI1
import Derived.Test.YtfmebdmgnmogaaaGreatDoorQI21
set_option linter.unusedVariables false
set_option linter.unusedSimpArgs false
set_option linter.unusedSimpArgs false
set_option linter.unusedVariables false
set_option maxRecDepth 100000
set_option maxHeartbeats 8000000
namespace Go.Proofs.YtfmebdmgnmogaaaGreatDoor
open Go Go.RowKit Hv

/-- A string, of its bytes. -/
def bs (l : List UInt8) : ByteArray := ⟨l.toArray⟩
theorem bs_size (l : List UInt8) : (bs l).size = l.length := by simp [bs, ByteArray.size]
theorem bs_inj (l m : List UInt8) : (bs l = bs m) = (l = m) := by
  simp only [bs, ByteArray.mk.injEq, eq_iff_iff]
  constructor
  · intro h; simpa using h
  · rintro rfl; rfl
theorem bs_extract (l : List UInt8) (i j : Nat) : (bs l).extract i j = bs ((l.take j).drop i) := by
  apply ByteArray.ext
  rw [ByteArray.data_extract]
  simp [bs, List.extract_toArray, List.extract_eq_take_drop, List.drop_take]
theorem bs_data (l : List UInt8) (i : Nat) : (bs l).data.getD i 0 = l.getD i 0 := by simp [bs, List.getD]
theorem bs_mk (l : List UInt8) : (⟨l.toArray⟩ : ByteArray) = bs l := rfl
theorem len_one : ∀ (a : UInt8) (l : List UInt8), (a :: l).length = l.length + 1 := fun _ _ => rfl
attribute [push_cast] bs_size bs_extract bs_inj bs_data bs_mk

def pre (p : UInt8) (l : List UInt8) : Bool := decide (l.head? = some p)
theorem hasPrefix_c {p : UInt8} {l : List UInt8} (hl : l.length ≤ 1000000) : HCallsD Tryz.prog 136 [] [.raw (.string (bs l)), .raw (.string (bs [p]))] (.raw (.bool (pre p l))) [] := by
  cases l with
  | nil =>
    have e : pre p [] = false := rfl
    rw [e]
    refine cp2 (rs := [.tmp 4]) (nt := 18) Tryz.func136 (fun C hP hn => ?_)
    ((repeat' (first | refine gW ?_ | (refine gIf ?_ ?_ <;> (intro hc; try exact gX)) | with_reducible refine br_intro ?_ ?_ | (with_reducible intro _; try exact gX) | with_reducible refine ands_intro ?_ ?_)) <;> (try exact gF))
    exact rqq1 rT
  | cons a l =>
    have e : pre p (a :: l) = decide ([a] = [p]) := by simp [pre]
    have hl' : l.length + 1 ≤ 1000000 := hl
    rw [e]
    refine cp2 (rs := [.tmp 4]) (nt := 18) Tryz.func136 (fun C hP hn => ?_)
    (have hXx := @List.length_cons.{0}; (repeat' (first | refine gWx ?_ | (refine gIf ?_ ?_ <;> (intro hc; try exact gX)) | with_reducible refine br_intro ?_ ?_ | (with_reducible intro _; try exact gX) | with_reducible refine ands_intro ?_ ?_)) <;> ((try clear hXx); try exact gF))
    exact rqq1 rT
theorem hasPrefix_e {p : UInt8} {l : List UInt8} {r : Bool} (hl : l.length ≤ 1000000) (hr : pre p l = r) : HCallsD Tryz.prog 136 [] [.raw (.string (bs l)), .raw (.string (bs [p]))] (.raw (.bool r)) [] := hr ▸ hasPrefix_c hl
def cutP (p : UInt8) (l : List UInt8) : List UInt8 := if pre p l then l.tail else l
theorem lite_c {p : UInt8} {l : List UInt8} (hl : l.length ≤ 1000000) : HCallsD Tryz.prog 125 [] [.raw (.string (bs l)), .raw (.string (bs [p]))] (.tup [.raw (.string (bs (cutP p l))), .raw (.bool (pre p l))]) [] := by
  rcases Bool.eq_false_or_eq_true (pre p l) with e | e
  · have e2 : cutP p l = l.drop 1 := by unfold cutP; rw [e]; simp
    have hp : 1 ≤ l.length := by
      cases l with
      | nil => simp [pre] at e
      | cons a l => simp
    rw [e, e2]
    refine cp2 (rs := [.tmp 4, .tmp 5]) (nt := 15) Tryz.func125 (fun C hP hn => ?_)
    (have hXx := And.intro @List.length_cons.{0} (@List.length_nil.{0}); (repeat' (first | refine gWx ?_ | (refine gIf ?_ ?_ <;> (intro hc; try exact gX)) | with_reducible refine br_intro ?_ ?_ | (with_reducible intro _; try exact gX) | with_reducible refine ands_intro ?_ ?_ | refine cx (hasPrefix_e hl e) ?_)) <;> ((try clear hXx); try exact gF))
    exact rqq2 rT rT
  · have e2 : cutP p l = l := by unfold cutP; rw [e]; rfl
    rw [e, e2]
    refine cp2 (rs := [.tmp 4, .tmp 5]) (nt := 15) Tryz.func125 (fun C hP hn => ?_)
    ((repeat' (first | refine gW ?_ | (refine gIf ?_ ?_ <;> (intro hc; try exact gX)) | with_reducible refine br_intro ?_ ?_ | (with_reducible intro _; try exact gX) | with_reducible refine ands_intro ?_ ?_ | refine cx (hasPrefix_e hl e) ?_)) <;> (try exact gF))
    exact rqq2 rT rT
theorem lite_e {p : UInt8} {l m : List UInt8} {r : Bool} (hl : l.length ≤ 1000000) (hm : cutP p l = m) (hr : pre p l = r) : HCallsD Tryz.prog 125 [] [.raw (.string (bs l)), .raw (.string (bs [p]))] (.tup [.raw (.string (bs m)), .raw (.bool r)]) [] := by
  subst hm hr; exact lite_c hl
theorem str_c {p : UInt8} {l : List UInt8} (hl : l.length ≤ 1000000) : HCallsD Tryz.prog 105 [] [.raw (.string (bs l)), .raw (.string (bs [p]))] (.tup [.raw (.string (bs (cutP p l))), .raw (.bool (pre p l))]) [] := by
  rcases Bool.eq_false_or_eq_true (pre p l) with e | e
  · have e2 : cutP p l = l.drop 1 := by unfold cutP; rw [e]; simp
    have hp : 1 ≤ l.length := by
      cases l with
      | nil => simp [pre] at e
      | cons a l => simp
    rw [e, e2]
    refine cp2 (rs := [.tmp 4, .tmp 5]) (nt := 11) Tryz.func105 (fun C hP hn => ?_)
    (have hXx := And.intro @List.length_cons.{0} (@List.length_nil.{0}); (repeat' (first | refine gWx ?_ | (refine gIf ?_ ?_ <;> (intro hc; try exact gX)) | with_reducible refine br_intro ?_ ?_ | (with_reducible intro _; try exact gX) | with_reducible refine ands_intro ?_ ?_ | refine cx (lite_e hl e2 e) ?_)) <;> ((try clear hXx); try exact gF))
    exact rqq2 rT rT
  · have e2 : cutP p l = l := by unfold cutP; rw [e]; rfl
    rw [e, e2]
    refine cp2 (rs := [.tmp 4, .tmp 5]) (nt := 11) Tryz.func105 (fun C hP hn => ?_)
    ((repeat' (first | refine gW ?_ | (refine gIf ?_ ?_ <;> (intro hc; try exact gX)) | with_reducible refine br_intro ?_ ?_ | (with_reducible intro _; try exact gX) | with_reducible refine ands_intro ?_ ?_ | refine cx (lite_e hl e2 e) ?_)) <;> (try exact gF))
    exact rqq2 rT rT
theorem str_e {p : UInt8} {l m : List UInt8} {r : Bool} (hl : l.length ≤ 1000000) (hm : cutP p l = m) (hr : pre p l = r) : HCallsD Tryz.prog 105 [] [.raw (.string (bs l)), .raw (.string (bs [p]))] (.tup [.raw (.string (bs m)), .raw (.bool r)]) [] := by
  subst hm hr; exact str_c hl
end Go.Proofs.YtfmebdmgnmogaaaGreatDoor
set_option linter.unusedSimpArgs false
set_option linter.unusedVariables false
set_option maxRecDepth 100000
set_option maxHeartbeats 8000000
namespace Go.Proofs.YtfmebdmgnmogaaaGreatDoor
open Go Go.RowKit Hv

theorem parse0_c : HCallsD Tryz.prog 78 [] [.raw (.string (bs [45, 48]))] (.tup [aI 0, .raw (.int .i64 2)]) [] := by
  have e1 : ([48] : List UInt8) ≠ [] := by simp
  have e2 : ((48 : UInt8).toNat : Int) = 48 := rfl
  refine cp1 (rs := [.cell 2 24, .tmp 3]) (nt := 87) Tryz.func78 (fun C hP hn => ?_)
  (have hXx := And.intro @e1 (And.intro @e2 (And.intro @List.length_cons.{0} (And.intro @List.length_nil.{0} (@List.getD_cons_zero.{0})))); (repeat' (first | refine gWx ?_ | (refine gIf ?_ ?_ <;> (intro hc; try exact gX)) | with_reducible refine br_intro ?_ ?_ | (with_reducible intro _; try exact gX) | with_reducible refine ands_intro ?_ ?_ | refine cx (str_e (p := 45) (l := [45, 48]) (m := [48]) (r := true) (by simp) rfl rfl) ?_)) <;> ((try clear hXx); try exact gF))
  exact rqq2 (rC ty24) rT
theorem parse1_c : HCallsD Tryz.prog 78 [] [.raw (.string (bs [48, 49]))] (.tup [aI 0, .raw (.int .i64 2)]) [] := by
  have e1 : ([48, 49] : List UInt8) ≠ [] := by simp
  have e2 : ((48 : UInt8).toNat : Int) = 48 := rfl
  refine cp1 (rs := [.cell 2 24, .tmp 3]) (nt := 87) Tryz.func78 (fun C hP hn => ?_)
  (have hXx := And.intro @e1 (And.intro @e2 (And.intro @List.length_cons.{0} (And.intro @List.length_nil.{0} (@List.getD_cons_zero.{0})))); (repeat' (first | refine gWx ?_ | (refine gIf ?_ ?_ <;> (intro hc; try exact gX)) | with_reducible refine br_intro ?_ ?_ | (with_reducible intro _; try exact gX) | with_reducible refine ands_intro ?_ ?_ | refine cx (str_e (p := 45) (l := [48, 49]) (m := [48, 49]) (r := false) (by simp) rfl rfl) ?_)) <;> ((try clear hXx); try exact gF))
  exact rqq2 (rC ty24) rT

theorem igcd_e {ba : Bool} {na : Nat} {xa : List Int} {za : Int} {bb : Bool} {nb : Nat} {xb : List Int} {zb : Int} {r : Int} (hba : ba = decide (za < 0)) (hna : na = xa.length) (hxa : xa = dig (za.natAbs : Int)) (hla : xa.length ≤ 100000) (hbb : bb = decide (zb < 0)) (hnb : nb = xb.length) (hxb : xb = dig (zb.natAbs : Int)) (hlb : xb.length ≤ 100000) (hr : gI za zb = r) : HCallsD Tryz.prog 82 [] [.agg [.raw (.bool ba), .sl na false (ints .u32 xa)], .agg [.raw (.bool bb), .sl nb false (ints .u32 xb)]] (aI r) [] := by subst hr; exact igcd_c hba hna hxa hla hbb hnb hxb hlb
theorem small_len {z : Int} (h : z.natAbs < 1000000000000000000) : (dig (z.natAbs : Int)).length ≤ 2 := dig_len (n := 2) (by simp only [P9]; omega)

end Go.Proofs.YtfmebdmgnmogaaaGreatDoor
