/-
  The witness of the rows whose lists hold nine tables: the tables read as listed.
-/
import Derived.Test.YtgjfedaoffgiaaaGreatDoorRows
import Derived.ProofKit
import Derived.LaidMore
import Derived.Lay
import Derived.MakeChecks
namespace Go.Proofs.YtgjfedaoffgiaaaGreatDoor
open Go.ChangeShapes Go.WideShapes Go.ChangeAt Go.RowKit
namespace SM
theorem fits (os : Os) : (World.holding Tryz.prog os ⟨#[], #[], []⟩).layFits Tryz.prog Rows.shellMessagesRow.laid [] = true := by kernel_rfl
theorem ifaces (os : Os) : (World.holding Tryz.prog os ⟨#[], #[], []⟩).layIfaces Tryz.prog Rows.shellMessagesRow.laid (World.laidAll Tryz.prog os Rows.shellMessagesRow.laid) = true := by kernel_rfl
theorem met (os : Os) (args : Array Value) : laidMetH Tryz.prog Rows.shellMessagesRow.laid ((World.laidAll Tryz.prog os Rows.shellMessagesRow.laid).forCall (fun _ _ => 0) ⟨#[], args, []⟩).memory := by
  rw [MakeChecks.laidMetH_plain _ _ _ (by kernel_rfl)]; exact laidMet_laidAll _ (fits os) (ifaces os)
end SM
end Go.Proofs.YtgjfedaoffgiaaaGreatDoor
