/- What the program's types are. No statement of its own. -/
import Derived.Test.YtfmebdmgnmogaaaDoorQHvWalk
import Derived.Test.YtfmebdmgnmogaaaDoorProg
import Derived.KernelRfl
namespace Go.Proofs.YtfmebdmgnmogaaaDoor
open Go Go.RowKit Hv

theorem el22 : elT Tryd.prog 22 = some (38, 1, 4) := by kernel_rfl
attribute [push_cast] el22
theorem ty46 : tyT Tryd.prog 38 = some (false, 1) := by kernel_rfl
attribute [push_cast] ty46
theorem ty22 : tyT Tryd.prog 22 = some (false, 1) := by kernel_rfl
attribute [push_cast] ty22
theorem ty24 : tyT Tryd.prog 24 = some (true, 2) := by kernel_rfl
attribute [push_cast] ty24
theorem ty4 : tyT Tryd.prog 4 = some (false, 1) := by kernel_rfl
attribute [push_cast] ty4
theorem ty3 : tyT Tryd.prog 3 = some (false, 1) := by kernel_rfl
attribute [push_cast] ty3
theorem ty54 : tyT Tryd.prog 53 = some (false, 1) := by kernel_rfl
attribute [push_cast] ty54
theorem zero24 : zrT Tryd.prog 24 = some [.bool false, .slice none 0 0] := by kernel_rfl
attribute [push_cast] zero24
theorem zero46 : zrT Tryd.prog 38 = some [.int .u32 0] := by kernel_rfl
attribute [push_cast] zero46
theorem fl24_0 : fdT Tryd.prog 24 0 = some (0, 1, false) := by kernel_rfl
attribute [push_cast] fl24_0
theorem fl24_1 : fdT Tryd.prog 24 1 = some (1, 1, false) := by kernel_rfl
attribute [push_cast] fl24_1
theorem fs24 : fsT Tryd.prog 24 = some [(0, 1), (1, 1)] := by kernel_rfl
attribute [push_cast] fs24
theorem el47 : elT Tryd.prog 41 = some (24, 2, 32) := by kernel_rfl
attribute [push_cast] el47
theorem und46 : Tryd.prog.underlying 38 = some (.int .u32) := by kernel_rfl
attribute [push_cast] und46
theorem und54 : Tryd.prog.underlying 53 = some (.int .u64) := by kernel_rfl
attribute [push_cast] und54
theorem und3 : Tryd.prog.underlying 3 = some (.int .i64) := by kernel_rfl
attribute [push_cast] und3
theorem und2 : Tryd.prog.underlying 2 = some (.int .i64) := by kernel_rfl
attribute [push_cast] und2
theorem und4 : Tryd.prog.underlying 4 = some .bool := by kernel_rfl
attribute [push_cast] und4
theorem und9 : Tryd.prog.underlying 9 = some .string := by kernel_rfl
attribute [push_cast] und9
theorem und5 : Tryd.prog.underlying 5 = some (.int .u8) := by kernel_rfl
attribute [push_cast] und5
theorem follows_mixed : Tryd.prog.follows .mixedOrders = true := by kernel_rfl

end Go.Proofs.YtfmebdmgnmogaaaDoor
