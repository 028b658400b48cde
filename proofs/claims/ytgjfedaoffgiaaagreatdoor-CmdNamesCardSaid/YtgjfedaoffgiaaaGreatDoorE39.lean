/-
  CmdNames: the commands 16 to 20, by the kernel.
-/
import Derived.Test.YtgjfedaoffgiaaaGreatDoorE35
import Derived.KernelRfl
namespace Go.Eng.Tryz
theorem rem16 (c : Int) : remOf 16 c = some ((IntKind.i64.wrap c).tmod 4) := by kernel_rfl
theorem good16 (c : Int) : ((List.range 4).all fun r => goodAt 16 c (r : Int)) = true := by kernel_rfl
theorem rem17 (c : Int) : remOf 17 c = some ((IntKind.i64.wrap c).tmod 7) := by kernel_rfl
theorem good17 (c : Int) : ((List.range 7).all fun r => goodAt 17 c (r : Int)) = true := by kernel_rfl
theorem rem18 (c : Int) : remOf 18 c = some ((IntKind.i64.wrap c).tmod 6) := by kernel_rfl
theorem good18 (c : Int) : ((List.range 6).all fun r => goodAt 18 c (r : Int)) = true := by kernel_rfl
theorem rem19 (c : Int) : remOf 19 c = some ((IntKind.i64.wrap c).tmod 5) := by kernel_rfl
theorem good19 (c : Int) : ((List.range 5).all fun r => goodAt 19 c (r : Int)) = true := by kernel_rfl
theorem rem20 (c : Int) : remOf 20 c = some ((IntKind.i64.wrap c).tmod 6) := by kernel_rfl
theorem good20 (c : Int) : ((List.range 6).all fun r => goodAt 20 c (r : Int)) = true := by kernel_rfl
end Go.Eng.Tryz
