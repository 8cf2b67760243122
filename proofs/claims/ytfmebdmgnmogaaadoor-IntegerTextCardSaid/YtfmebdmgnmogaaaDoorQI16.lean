/- Contracts of the functions that make words out of integers. No statement of its own. -/
import Derived.Test.YtfmebdmgnmogaaaDoorQI15
set_option linter.unusedSimpArgs false
set_option linter.unusedVariables false
set_option maxRecDepth 100000
set_option maxHeartbeats 4000000
namespace Go.Proofs.YtfmebdmgnmogaaaDoor
open Go Go.RowKit Hv

def fits64 (z : Int) : Bool := decide (-9223372036854775808 ≤ z ∧ z ≤ 9223372036854775807)
def v64 (z : Int) : Int := if -9223372036854775808 ≤ z ∧ z ≤ 9223372036854775807 then z else 0
theorem icmp_e {ba : Bool} {na : Nat} {xa : List Int} {za : Int} {bb : Bool} {nb : Nat} {xb : List Int} {zb : Int} {r : Int} (hba : ba = decide (za < 0)) (hna : na = xa.length) (hxa : xa = dig (za.natAbs : Int)) (hla : xa.length ≤ 100000) (hbb : bb = decide (zb < 0)) (hnb : nb = xb.length) (hxb : xb = dig (zb.natAbs : Int)) (hlb : xb.length ≤ 100000) (hr : cmpI za zb = r) : HCallsD Tryd.prog 31 [] [.agg [.raw (.bool ba), .sl na false (ints .u32 xa)], .agg [.raw (.bool bb), .sl nb false (ints .u32 xb)]] (.raw (.int .i64 r)) [] := hr ▸ icmp_c hba hna hxa hla hbb hnb hxb hlb
theorem cmpI_ge0 {x y : Int} (h : y ≤ x) : ∃ r, cmpI x y = r ∧ 0 ≤ r ∧ r ≤ 1 := by
  unfold cmpI; rw [if_neg (by omega)]; split <;> exact ⟨_, rfl, by omega⟩
theorem cmpI_le0 {x y : Int} (h : x ≤ y) : ∃ r, cmpI x y = r ∧ -1 ≤ r ∧ r ≤ 0 := by
  unfold cmpI
  rcases Int.lt_or_le x y with k | k
  · rw [if_pos k]; exact ⟨_, rfl, by omega⟩
  · rw [if_neg (by omega), if_neg (by omega)]; exact ⟨_, rfl, by omega⟩

end Go.Proofs.YtfmebdmgnmogaaaDoor
