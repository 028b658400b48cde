/-
  Closed facts of a row, one by one.
-/
import Derived.Test.YtgjfedaoffgiaaaGreatDoorRows
import Derived.JoinedOf
import Derived.KernelRfl
namespace Go.Proofs.YtgjfedaoffgiaaaGreatDoor
namespace CN
theorem fact0 : (Rows.cmdNamesRow.wf (OpenSpec.ofChange Rows.cmdNamesSpec)) = true := by kernel_rfl
theorem fact1 : (laidOutB Tryz.prog) = true := by kernel_rfl
theorem fact2 : (mapsRowed Tryz.prog) = true := by kernel_rfl
theorem fact3 : (Tryz.f3.params.all (Tryz.prog.readableRec ·)) = true := by kernel_rfl
theorem fact4 : (namedTie Tryz.prog Rows.cmdNamesRow.named Rows.cmdNamesSpec.vars) = true := by kernel_rfl
theorem fact5 : ((Rows.cmdNamesRow.stops == [])) = true := by kernel_rfl
theorem fact6 : ((Tryz.prog.stops == [])) = true := by kernel_rfl
theorem fact7 : ((Rows.cmdNamesRow.knobs == [])) = true := by kernel_rfl
theorem fact8 : ((Tryz.prog.stopKnobs == [])) = true := by kernel_rfl
theorem fact9 : ((Rows.cmdNamesRow.inPlace == Tryz.prog.inPlace 3)) = true := by kernel_rfl
theorem fact10 : ((Rows.cmdNamesRow.unfollowed == Tryz.prog.unfollowed 3)) = true := by kernel_rfl
theorem fact11 : ((Rows.cmdNamesRow.recurses == Tryz.prog.recurses 3)) = true := by kernel_rfl
end CN
end Go.Proofs.YtgjfedaoffgiaaaGreatDoor
