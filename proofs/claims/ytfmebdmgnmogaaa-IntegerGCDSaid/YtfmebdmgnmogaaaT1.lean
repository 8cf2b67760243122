/- What the program's types are. No statement of its own. -/
import Derived.Test.YtfmebdmgnmogaaaHvTac
import Derived.Test.YtfmebdmgnmogaaaProg
import Derived.KernelRfl
namespace Go.Proofs.Ytfmebdmgnmogaaa
open Go Go.RowKit Hv

theorem el22 : elT Try.prog 22 = some (46, 1, 4) := by kernel_rfl
theorem ty46 : tyT Try.prog 46 = some (false, 1) := by kernel_rfl
theorem ty22 : tyT Try.prog 22 = some (false, 1) := by kernel_rfl
theorem ty24 : tyT Try.prog 24 = some (true, 2) := by kernel_rfl
theorem ty4 : tyT Try.prog 4 = some (false, 1) := by kernel_rfl
theorem ty3 : tyT Try.prog 3 = some (false, 1) := by kernel_rfl
theorem ty54 : tyT Try.prog 54 = some (false, 1) := by kernel_rfl
theorem zero24 : zrT Try.prog 24 = some [.bool false, .slice none 0 0] := by kernel_rfl
theorem zero46 : zrT Try.prog 46 = some [.int .u32 0] := by kernel_rfl
theorem fl24_0 : fdT Try.prog 24 0 = some (0, 1, false) := by kernel_rfl
theorem fl24_1 : fdT Try.prog 24 1 = some (1, 1, false) := by kernel_rfl
theorem fs24 : fsT Try.prog 24 = some [(0, 1), (1, 1)] := by kernel_rfl
theorem el47 : elT Try.prog 47 = some (24, 2, 32) := by kernel_rfl
theorem und46 : Try.prog.underlying 46 = some (.int .u32) := by kernel_rfl
theorem und54 : Try.prog.underlying 54 = some (.int .u64) := by kernel_rfl
theorem und3 : Try.prog.underlying 3 = some (.int .i64) := by kernel_rfl
theorem und2 : Try.prog.underlying 2 = some (.int .i64) := by kernel_rfl
theorem und4 : Try.prog.underlying 4 = some .bool := by kernel_rfl
theorem und9 : Try.prog.underlying 9 = some .string := by kernel_rfl
attribute [push_cast] el22 ty46 ty22 ty24 ty4 ty3 ty54 zero24 zero46 fl24_0 fl24_1 fs24 el47 und46 und54 und3 und2 und4 und9
theorem follows_mixed : Try.prog.follows .mixedOrders = true := by kernel_rfl

end Go.Proofs.Ytfmebdmgnmogaaa
