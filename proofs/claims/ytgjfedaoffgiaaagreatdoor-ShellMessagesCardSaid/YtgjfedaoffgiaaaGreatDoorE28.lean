/-
  The seat's tables are the program's.
-/
import Derived.Test.YtgjfedaoffgiaaaGreatDoorE4
import Derived.Test.YtgjfedaoffgiaaaGreatDoorE27
import Derived.KernelRfl
namespace Go.Eng.Tryz
theorem tab_tb : Tr.keysLt 428 tiTr 1 0 = true := by kernel_rfl
theorem tab_te : (List.range 428).map (Tr.get tiTr) = (List.range 428).map (tiOf Go.Proofs.Tryz.prog) := by kernel_rfl
theorem tab_fb : Tr.keysLt 367 fnTr 1 0 = true := by kernel_rfl
theorem tab_fe : (List.range 367).map (Tr.get fnTr) = (List.range 367).map (fun f => Go.Proofs.Tryz.prog.funcs[f]?) := by kernel_rfl
theorem tab_nm : nmOK Go.Proofs.Tryz.prog 367 = true := by kernel_rfl
theorem tab_mixed : Go.Proofs.Tryz.prog.follows .mixedOrders = true := by kernel_rfl
theorem tab : TabOK Go.Proofs.Tryz.prog tiTr fnTr 428 367 := ⟨tab_tb, tab_te, tab_fb, tab_fe, tab_nm, tab_mixed⟩
end Go.Eng.Tryz
