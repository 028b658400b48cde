/-
  The witness of the rows whose lists hold nine tables: the settled world with the tables laid.
-/
import Derived.Test.YtgjfedaoffgiaaaGreatDoorRows
import Derived.ProofKit
import Derived.LaidMore
import Derived.Lay
import Derived.MakeChecks
namespace Go.Proofs.YtgjfedaoffgiaaaGreatDoor
open Go.ChangeShapes Go.WideShapes Go.ChangeAt Go.RowKit
namespace SM
theorem zip (os : Os) (args : Array Value) : ((World.laidAll Tryz.prog os Rows.shellMessagesRow.laid).forCall (fun _ _ => 0) ⟨#[], args, []⟩).variablesZipB Tryz.prog = true := by kernel_rfl
theorem rest (os : Os) (args : Array Value) : (((World.laidAll Tryz.prog os Rows.shellMessagesRow.laid).forCall (fun _ _ => 0) ⟨#[], args, []⟩).heap.toList.drop Tryz.prog.globals.size).take ((begin Tryz.prog (fun _ _ => 0) default).world.heap.size - Tryz.prog.globals.size) = (begin Tryz.prog (fun _ _ => 0) default).world.heap.toList.drop Tryz.prog.globals.size := by kernel_rfl
theorem shaped (os : Os) (args : Array Value) : ((World.laidAll Tryz.prog os Rows.shellMessagesRow.laid).forCall (fun _ _ => 0) ⟨#[], args, []⟩).Shaped Tryz.prog := World.shaped_of_ZipB (zip os args) (rest os args)
end SM
end Go.Proofs.YtgjfedaoffgiaaaGreatDoor
