/-
  ShellMessages holds: whatever number an error has, the law returns true. Conditions: those of the given row alone (the package variables hold what the program's text lays; the given tie).
-/
import Derived.Test.YtgjfedaoffgiaaaGreatDoorE58
import Derived.Test.YtgjfedaoffgiaaaGreatDoorE59
import Derived.Test.YtgjfedaoffgiaaaGreatDoorTie
import Derived.Test.YtgjfedaoffgiaaaGreatDoorCards
import Derived.SevenTiedAt
namespace Go.Proofs.YtgjfedaoffgiaaaGreatDoor
open Go.ChangeShapes Go.WideShapes Go.ChangeAt Go.RowKit Go.Lib
namespace SM
theorem plain (f : FuncId) (fn : Func) (hf : Tryz.pinned.checked.prog.funcNamed "squelch/squelchlaw26.ShellMessages" = some f) (hfn : Tryz.pinned.checked.prog.funcs[f]? = some fn) :
    true = Tryz.pinned.checked.prog.looks [] ∧ ∀ (j : Nat) t, fn.params[j]? = some t → Tryz.pinned.checked.prog.wantsStandIn t = false := by
  obtain rfl : f = 8 := Option.some.inj (named8.symm.trans hf) |>.symm
  obtain rfl : fn = Tryz.f8 := (Option.some.inj (Tryz.func8.symm.trans hfn)).symm
  refine ⟨looksNone, fun j t ht => ?_⟩
  rw [Tryz.params8] at ht
  have hm : t ∈ [33] := by simpa using Array.mem_of_getElem? ht
  have hall := wants
  exact (show Tryz.prog.wantsStandIn t = false by simpa using List.all_eq_true.1 hall t hm)
end SM
theorem shellMessages_card_holds : Rows.ShellMessagesCardSaid :=
  Claim7.holds_tied_plain_at .later [] _ _ _ _ SM.said (fun _ h => by cases h) SM.wfText (fun _ h => by cases h) shellMessages_row_tie rfl ⟨rfl, rfl⟩ SM.mainOf rfl SM.plain SM.goesNot
#print axioms shellMessages_card_holds
end Go.Proofs.YtgjfedaoffgiaaaGreatDoor
