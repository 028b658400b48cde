/-
  CmdNames: closed facts of the card.
-/
import Derived.Test.YtgjfedaoffgiaaaGreatDoorRows
import Derived.Test.YtgjfedaoffgiaaaGreatDoorCards
import Derived.SevenTiedAt
namespace Go.Proofs.YtgjfedaoffgiaaaGreatDoor
namespace CN
theorem wfText : Rows.cmdNamesRow.wfByText (OpenSpec.ofChange Rows.cmdNamesSpec) = true := by kernel_rfl
theorem looksNone : true = Tryz.pinned.checked.prog.looks [] := by kernel_rfl
theorem goesNot : false = Rows.cmdNamesRow.goesBy Tryz.pinned.checked.prog := by kernel_rfl
theorem mainOf : Tryz.pinned.checked.prog.mainIs = some (Rows.cmdNamesCard.stood.harness.1, Rows.cmdNamesCard.stood.harness.2.toList) := by kernel_rfl
theorem wants : ([3, 5].all fun u => !Tryz.prog.wantsStandIn u) = true := by kernel_rfl
theorem named3 : Tryz.prog.funcNamed "squelch/squelchlaw25.CmdNames" = some 3 := by kernel_rfl
end CN
end Go.Proofs.YtgjfedaoffgiaaaGreatDoor
