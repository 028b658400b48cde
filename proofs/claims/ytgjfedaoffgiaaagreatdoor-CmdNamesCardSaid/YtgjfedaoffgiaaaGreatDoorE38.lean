/-
  CmdNames: the commands 11 to 15, by the kernel.
-/
import Derived.Test.YtgjfedaoffgiaaaGreatDoorE35
import Derived.KernelRfl
namespace Go.Eng.Tryz
theorem rem11 (c : Int) : remOf 11 c = some ((IntKind.i64.wrap c).tmod 5) := by kernel_rfl
theorem good11 (c : Int) : ((List.range 5).all fun r => goodAt 11 c (r : Int)) = true := by kernel_rfl
theorem rem12 (c : Int) : remOf 12 c = some ((IntKind.i64.wrap c).tmod 5) := by kernel_rfl
theorem good12 (c : Int) : ((List.range 5).all fun r => goodAt 12 c (r : Int)) = true := by kernel_rfl
theorem rem13 (c : Int) : remOf 13 c = some ((IntKind.i64.wrap c).tmod 4) := by kernel_rfl
theorem good13 (c : Int) : ((List.range 4).all fun r => goodAt 13 c (r : Int)) = true := by kernel_rfl
theorem rem14 (c : Int) : remOf 14 c = some ((IntKind.i64.wrap c).tmod 4) := by kernel_rfl
theorem good14 (c : Int) : ((List.range 4).all fun r => goodAt 14 c (r : Int)) = true := by kernel_rfl
theorem rem15 (c : Int) : remOf 15 c = some ((IntKind.i64.wrap c).tmod 4) := by kernel_rfl
theorem good15 (c : Int) : ((List.range 4).all fun r => goodAt 15 c (r : Int)) = true := by kernel_rfl
end Go.Eng.Tryz
