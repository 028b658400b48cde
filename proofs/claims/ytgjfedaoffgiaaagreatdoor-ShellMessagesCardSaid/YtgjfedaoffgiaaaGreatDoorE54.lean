/-
  Closed facts of a row, one by one.
-/
import Derived.Test.YtgjfedaoffgiaaaGreatDoorRows
import Derived.JoinedOf
import Derived.KernelRfl
namespace Go.Proofs.YtgjfedaoffgiaaaGreatDoor
namespace SM
theorem fact0 : (Rows.shellMessagesRow.wf (OpenSpec.ofChange Rows.shellMessagesSpec)) = true := by kernel_rfl
theorem fact1 : (laidOutB Tryz.prog) = true := by kernel_rfl
theorem fact2 : (mapsRowed Tryz.prog) = true := by kernel_rfl
theorem fact3 : (Tryz.f8.params.all (Tryz.prog.readableRec ·)) = true := by kernel_rfl
theorem fact4 : (namedTie Tryz.prog Rows.shellMessagesRow.named Rows.shellMessagesSpec.vars) = true := by kernel_rfl
theorem fact5 : ((Rows.shellMessagesRow.stops == [])) = true := by kernel_rfl
theorem fact6 : ((Tryz.prog.stops == [])) = true := by kernel_rfl
theorem fact7 : ((Rows.shellMessagesRow.knobs == [])) = true := by kernel_rfl
theorem fact8 : ((Tryz.prog.stopKnobs == [])) = true := by kernel_rfl
theorem fact9 : ((Rows.shellMessagesRow.inPlace == Tryz.prog.inPlace 8)) = true := by kernel_rfl
theorem fact10 : ((Rows.shellMessagesRow.unfollowed == Tryz.prog.unfollowed 8)) = true := by kernel_rfl
theorem fact11 : ((Rows.shellMessagesRow.recurses == Tryz.prog.recurses 8)) = true := by kernel_rfl
end SM
end Go.Proofs.YtgjfedaoffgiaaaGreatDoor
