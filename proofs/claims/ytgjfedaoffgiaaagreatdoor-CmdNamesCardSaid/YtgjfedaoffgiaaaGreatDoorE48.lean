/-
  CmdNames holds: whatever number, whatever 'cut', the law returns true. Conditions: those of the given row alone (the package variables hold what the program's text lays; the given tie).
-/
import Derived.Test.YtgjfedaoffgiaaaGreatDoorE43
import Derived.Test.YtgjfedaoffgiaaaGreatDoorE49
import Derived.Test.YtgjfedaoffgiaaaGreatDoorTie
import Derived.Test.YtgjfedaoffgiaaaGreatDoorCards
import Derived.SevenTiedAt
namespace Go.Proofs.YtgjfedaoffgiaaaGreatDoor
open Go.ChangeShapes Go.WideShapes Go.ChangeAt Go.RowKit Go.Lib
namespace CN
theorem plain (f : FuncId) (fn : Func) (hf : Tryz.pinned.checked.prog.funcNamed "squelch/squelchlaw25.CmdNames" = some f) (hfn : Tryz.pinned.checked.prog.funcs[f]? = some fn) :
    true = Tryz.pinned.checked.prog.looks [] ∧ ∀ (j : Nat) t, fn.params[j]? = some t → Tryz.pinned.checked.prog.wantsStandIn t = false := by
  obtain rfl : f = 3 := Option.some.inj (named3.symm.trans hf) |>.symm
  obtain rfl : fn = Tryz.f3 := (Option.some.inj (Tryz.func3.symm.trans hfn)).symm
  refine ⟨looksNone, fun j t ht => ?_⟩
  rw [Tryz.params3] at ht
  have hm : t ∈ [3, 5] := by simpa using Array.mem_of_getElem? ht
  have hall := wants
  exact (show Tryz.prog.wantsStandIn t = false by simpa using List.all_eq_true.1 hall t hm)
end CN
theorem cmdNames_card_holds : Rows.CmdNamesCardSaid :=
  Claim7.holds_tied_plain_at .later [] _ _ _ _ CN.said (fun _ h => by cases h) CN.wfText (fun _ h => by cases h) cmdNames_row_tie rfl ⟨rfl, rfl⟩ CN.mainOf rfl CN.plain CN.goesNot
#print axioms cmdNames_card_holds
end Go.Proofs.YtgjfedaoffgiaaaGreatDoor
