/-
  ShellMessages: closed facts of the card.
-/
import Derived.Test.YtgjfedaoffgiaaaGreatDoorRows
import Derived.Test.YtgjfedaoffgiaaaGreatDoorCards
import Derived.SevenTiedAt
namespace Go.Proofs.YtgjfedaoffgiaaaGreatDoor
namespace SM
theorem wfText : Rows.shellMessagesRow.wfByText (OpenSpec.ofChange Rows.shellMessagesSpec) = true := by kernel_rfl
theorem looksNone : true = Tryz.pinned.checked.prog.looks [] := by kernel_rfl
theorem goesNot : false = Rows.shellMessagesRow.goesBy Tryz.pinned.checked.prog := by kernel_rfl
theorem mainOf : Tryz.pinned.checked.prog.mainIs = some (Rows.shellMessagesCard.stood.harness.1, Rows.shellMessagesCard.stood.harness.2.toList) := by kernel_rfl
theorem wants : ([33].all fun u => !Tryz.prog.wantsStandIn u) = true := by kernel_rfl
theorem named8 : Tryz.prog.funcNamed "squelch/squelchlaw26.ShellMessages" = some 8 := by kernel_rfl
end SM
end Go.Proofs.YtgjfedaoffgiaaaGreatDoor
