/-
  CmdNames: the commands 6 to 10, by the kernel.
-/
import Derived.Test.YtgjfedaoffgiaaaGreatDoorE35
import Derived.KernelRfl
namespace Go.Eng.Tryz
theorem rem6 (c : Int) : remOf 6 c = some ((IntKind.i64.wrap c).tmod 6) := by kernel_rfl
theorem good6 (c : Int) : ((List.range 6).all fun r => goodAt 6 c (r : Int)) = true := by kernel_rfl
theorem rem7 (c : Int) : remOf 7 c = some ((IntKind.i64.wrap c).tmod 6) := by kernel_rfl
theorem good7 (c : Int) : ((List.range 6).all fun r => goodAt 7 c (r : Int)) = true := by kernel_rfl
theorem rem8 (c : Int) : remOf 8 c = some ((IntKind.i64.wrap c).tmod 6) := by kernel_rfl
theorem good8 (c : Int) : ((List.range 6).all fun r => goodAt 8 c (r : Int)) = true := by kernel_rfl
theorem rem9 (c : Int) : remOf 9 c = some ((IntKind.i64.wrap c).tmod 6) := by kernel_rfl
theorem good9 (c : Int) : ((List.range 6).all fun r => goodAt 9 c (r : Int)) = true := by kernel_rfl
theorem rem10 (c : Int) : remOf 10 c = some ((IntKind.i64.wrap c).tmod 8) := by kernel_rfl
theorem good10 (c : Int) : ((List.range 8).all fun r => goodAt 10 c (r : Int)) = true := by kernel_rfl
end Go.Eng.Tryz
