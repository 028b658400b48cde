/-
  CmdNames: the commands 1 to 5, by the kernel.
-/
import Derived.Test.YtgjfedaoffgiaaaGreatDoorE35
import Derived.KernelRfl
namespace Go.Eng.Tryz
theorem rem1 (c : Int) : remOf 1 c = some ((IntKind.i64.wrap c).tmod 7) := by kernel_rfl
theorem good1 (c : Int) : ((List.range 7).all fun r => goodAt 1 c (r : Int)) = true := by kernel_rfl
theorem rem2 (c : Int) : remOf 2 c = some ((IntKind.i64.wrap c).tmod 10) := by kernel_rfl
theorem good2 (c : Int) : ((List.range 10).all fun r => goodAt 2 c (r : Int)) = true := by kernel_rfl
theorem rem3 (c : Int) : remOf 3 c = some ((IntKind.i64.wrap c).tmod 8) := by kernel_rfl
theorem good3 (c : Int) : ((List.range 8).all fun r => goodAt 3 c (r : Int)) = true := by kernel_rfl
theorem rem4 (c : Int) : remOf 4 c = some ((IntKind.i64.wrap c).tmod 6) := by kernel_rfl
theorem good4 (c : Int) : ((List.range 6).all fun r => goodAt 4 c (r : Int)) = true := by kernel_rfl
theorem rem5 (c : Int) : remOf 5 c = some ((IntKind.i64.wrap c).tmod 7) := by kernel_rfl
theorem good5 (c : Int) : ((List.range 7).all fun r => goodAt 5 c (r : Int)) = true := by kernel_rfl
end Go.Eng.Tryz
