/-
  Locality of each operation.
-/
import Derived.Test.YtgjfedaoffgiaaaGreatDoorE20
namespace Go.Eng
section
variable {C : Cfg}
theorem Local.with1 {T : Tm} {x : Operand} {f : Value → M R} (h : ∀ v, Local (f v)) : Local (Go.Eng.with1 T x f) := by
  unfold Go.Eng.with1
  split
  · exact h _
  · exact Local.fail
theorem Local.with2 {T : Tm} {x y : Operand} {f : Value → Value → M R} (h : ∀ v u, Local (f v u)) : Local (Go.Eng.with2 T x y f) := by
  unfold Go.Eng.with2
  split
  · split
    · exact h _ _
    · exact Local.fail
  · exact Local.fail

theorem Local.cellsAt : ∀ x0, Local (Go.Eng.cellsAt x0) := by
  intro x0
  unfold Go.Eng.cellsAt
  repeat' first | exact Local.fail | exact Local.val _ | exact Local.valO _ | exact Local.ret _ | exact Local.rd _ | exact Local.wr _ _ | exact Local.nw _ | exact Local.lift _ | refine Local.bind ?_ fun _ => ?_ | refine Local.cond ?_ ?_ | split
theorem Local.aLoad : ∀ x0 x1 x2, Local (Go.Eng.aLoad x0 x1 x2) := by
  intro x0 x1 x2
  unfold Go.Eng.aLoad
  repeat' first | exact Local.fail | exact Local.val _ | exact Local.valO _ | exact Local.ret _ | exact Local.rd _ | exact Local.wr _ _ | exact Local.nw _ | exact Local.lift _ | exact Local.cellsAt _ | refine Local.bind ?_ fun _ => ?_ | refine Local.cond ?_ ?_ | split
theorem Local.putCells : ∀ x0 x1 x2 x3 x4, Local (Go.Eng.putCells x0 x1 x2 x3 x4) := by
  intro x0 x1 x2 x3 x4
  unfold Go.Eng.putCells
  repeat' first | exact Local.fail | exact Local.val _ | exact Local.valO _ | exact Local.ret _ | exact Local.rd _ | exact Local.wr _ _ | exact Local.nw _ | exact Local.lift _ | exact Local.cellsAt _ | exact Local.aLoad _ _ _ | refine Local.bind ?_ fun _ => ?_ | refine Local.cond ?_ ?_ | split
theorem Local.aStore : ∀ x0 x1 x2 x3, Local (Go.Eng.aStore x0 x1 x2 x3) := by
  intro x0 x1 x2 x3
  unfold Go.Eng.aStore
  repeat' first | exact Local.fail | exact Local.val _ | exact Local.valO _ | exact Local.ret _ | exact Local.rd _ | exact Local.wr _ _ | exact Local.nw _ | exact Local.lift _ | exact Local.cellsAt _ | exact Local.aLoad _ _ _ | exact Local.putCells _ _ _ _ _ | refine Local.bind ?_ fun _ => ?_ | refine Local.cond ?_ ?_ | split
theorem Local.aNew : ∀ x0, Local (Go.Eng.aNew x0) := by
  intro x0
  unfold Go.Eng.aNew
  repeat' first | exact Local.fail | exact Local.val _ | exact Local.valO _ | exact Local.ret _ | exact Local.rd _ | exact Local.wr _ _ | exact Local.nw _ | exact Local.lift _ | exact Local.cellsAt _ | exact Local.aLoad _ _ _ | exact Local.putCells _ _ _ _ _ | exact Local.aStore _ _ _ _ | refine Local.bind ?_ fun _ => ?_ | refine Local.cond ?_ ?_ | split
theorem Local.aFieldAddr : ∀ x0 x1 x2 x3, Local (Go.Eng.aFieldAddr x0 x1 x2 x3) := by
  intro x0 x1 x2 x3
  unfold Go.Eng.aFieldAddr
  repeat' first | exact Local.fail | exact Local.val _ | exact Local.valO _ | exact Local.ret _ | exact Local.rd _ | exact Local.wr _ _ | exact Local.nw _ | exact Local.lift _ | exact Local.cellsAt _ | exact Local.aLoad _ _ _ | exact Local.putCells _ _ _ _ _ | exact Local.aStore _ _ _ _ | exact Local.aNew _ | refine Local.bind ?_ fun _ => ?_ | refine Local.cond ?_ ?_ | split
theorem Local.aField : ∀ x0 x1 x2 x3, Local (Go.Eng.aField x0 x1 x2 x3) := by
  intro x0 x1 x2 x3
  unfold Go.Eng.aField
  repeat' first | exact Local.fail | exact Local.val _ | exact Local.valO _ | exact Local.ret _ | exact Local.rd _ | exact Local.wr _ _ | exact Local.nw _ | exact Local.lift _ | exact Local.cellsAt _ | exact Local.aLoad _ _ _ | exact Local.putCells _ _ _ _ _ | exact Local.aStore _ _ _ _ | exact Local.aNew _ | exact Local.aFieldAddr _ _ _ _ | refine Local.bind ?_ fun _ => ?_ | refine Local.cond ?_ ?_ | split
theorem Local.aIndexAddr : ∀ x0 x1 x2 x3, Local (Go.Eng.aIndexAddr x0 x1 x2 x3) := by
  intro x0 x1 x2 x3
  unfold Go.Eng.aIndexAddr
  repeat' first | exact Local.fail | exact Local.val _ | exact Local.valO _ | exact Local.ret _ | exact Local.rd _ | exact Local.wr _ _ | exact Local.nw _ | exact Local.lift _ | exact Local.cellsAt _ | exact Local.aLoad _ _ _ | exact Local.putCells _ _ _ _ _ | exact Local.aStore _ _ _ _ | exact Local.aNew _ | exact Local.aFieldAddr _ _ _ _ | exact Local.aField _ _ _ _ | refine Local.bind ?_ fun _ => ?_ | refine Local.cond ?_ ?_ | split
theorem Local.aIndex : ∀ x0 x1 x2 x3, Local (Go.Eng.aIndex x0 x1 x2 x3) := by
  intro x0 x1 x2 x3
  unfold Go.Eng.aIndex
  repeat' first | exact Local.fail | exact Local.val _ | exact Local.valO _ | exact Local.ret _ | exact Local.rd _ | exact Local.wr _ _ | exact Local.nw _ | exact Local.lift _ | exact Local.cellsAt _ | exact Local.aLoad _ _ _ | exact Local.putCells _ _ _ _ _ | exact Local.aStore _ _ _ _ | exact Local.aNew _ | exact Local.aFieldAddr _ _ _ _ | exact Local.aField _ _ _ _ | exact Local.aIndexAddr _ _ _ _ | refine Local.bind ?_ fun _ => ?_ | refine Local.cond ?_ ?_ | split
theorem Local.aSlice : ∀ x0 x1 x2 x3 x4, Local (Go.Eng.aSlice x0 x1 x2 x3 x4) := by
  intro x0 x1 x2 x3 x4
  unfold Go.Eng.aSlice
  repeat' first | exact Local.fail | exact Local.val _ | exact Local.valO _ | exact Local.ret _ | exact Local.rd _ | exact Local.wr _ _ | exact Local.nw _ | exact Local.lift _ | exact Local.cellsAt _ | exact Local.aLoad _ _ _ | exact Local.putCells _ _ _ _ _ | exact Local.aStore _ _ _ _ | exact Local.aNew _ | exact Local.aFieldAddr _ _ _ _ | exact Local.aField _ _ _ _ | exact Local.aIndexAddr _ _ _ _ | exact Local.aIndex _ _ _ _ | refine Local.bind ?_ fun _ => ?_ | refine Local.cond ?_ ?_ | split
theorem Local.aBuild : ∀ x0 x1 x2, Local (Go.Eng.aBuild x0 x1 x2) := by
  intro x0 x1 x2
  unfold Go.Eng.aBuild
  repeat' first | exact Local.fail | exact Local.val _ | exact Local.valO _ | exact Local.ret _ | exact Local.rd _ | exact Local.wr _ _ | exact Local.nw _ | exact Local.lift _ | exact Local.cellsAt _ | exact Local.aLoad _ _ _ | exact Local.putCells _ _ _ _ _ | exact Local.aStore _ _ _ _ | exact Local.aNew _ | exact Local.aFieldAddr _ _ _ _ | exact Local.aField _ _ _ _ | exact Local.aIndexAddr _ _ _ _ | exact Local.aIndex _ _ _ _ | exact Local.aSlice _ _ _ _ _ | refine Local.bind ?_ fun _ => ?_ | refine Local.cond ?_ ?_ | split
theorem Local.aBuildSlice : ∀ x0 x1 x2 x3, Local (Go.Eng.aBuildSlice x0 x1 x2 x3) := by
  intro x0 x1 x2 x3
  unfold Go.Eng.aBuildSlice
  repeat' first | exact Local.fail | exact Local.val _ | exact Local.valO _ | exact Local.ret _ | exact Local.rd _ | exact Local.wr _ _ | exact Local.nw _ | exact Local.lift _ | exact Local.cellsAt _ | exact Local.aLoad _ _ _ | exact Local.putCells _ _ _ _ _ | exact Local.aStore _ _ _ _ | exact Local.aNew _ | exact Local.aFieldAddr _ _ _ _ | exact Local.aField _ _ _ _ | exact Local.aIndexAddr _ _ _ _ | exact Local.aIndex _ _ _ _ | exact Local.aSlice _ _ _ _ _ | exact Local.aBuild _ _ _ | refine Local.bind ?_ fun _ => ?_ | refine Local.cond ?_ ?_ | split
theorem Local.aMakeSlice : ∀ x0 x1 x2 x3, Local (Go.Eng.aMakeSlice x0 x1 x2 x3) := by
  intro x0 x1 x2 x3
  unfold Go.Eng.aMakeSlice
  repeat' first | exact Local.fail | exact Local.val _ | exact Local.valO _ | exact Local.ret _ | exact Local.rd _ | exact Local.wr _ _ | exact Local.nw _ | exact Local.lift _ | exact Local.cellsAt _ | exact Local.aLoad _ _ _ | exact Local.putCells _ _ _ _ _ | exact Local.aStore _ _ _ _ | exact Local.aNew _ | exact Local.aFieldAddr _ _ _ _ | exact Local.aField _ _ _ _ | exact Local.aIndexAddr _ _ _ _ | exact Local.aIndex _ _ _ _ | exact Local.aSlice _ _ _ _ _ | exact Local.aBuild _ _ _ | exact Local.aBuildSlice _ _ _ _ | refine Local.bind ?_ fun _ => ?_ | refine Local.cond ?_ ?_ | split
theorem Local.aConvert : ∀ x0 x1 x2 x3, Local (Go.Eng.aConvert x0 x1 x2 x3) := by
  intro x0 x1 x2 x3
  unfold Go.Eng.aConvert
  repeat' first | exact Local.fail | exact Local.val _ | exact Local.valO _ | exact Local.ret _ | exact Local.rd _ | exact Local.wr _ _ | exact Local.nw _ | exact Local.lift _ | exact Local.cellsAt _ | exact Local.aLoad _ _ _ | exact Local.putCells _ _ _ _ _ | exact Local.aStore _ _ _ _ | exact Local.aNew _ | exact Local.aFieldAddr _ _ _ _ | exact Local.aField _ _ _ _ | exact Local.aIndexAddr _ _ _ _ | exact Local.aIndex _ _ _ _ | exact Local.aSlice _ _ _ _ _ | exact Local.aBuild _ _ _ | exact Local.aBuildSlice _ _ _ _ | exact Local.aMakeSlice _ _ _ _ | refine Local.bind ?_ fun _ => ?_ | refine Local.cond ?_ ?_ | split
theorem Local.aMakeIface : ∀ x0 x1 x2, Local (Go.Eng.aMakeIface x0 x1 x2) := by
  intro x0 x1 x2
  unfold Go.Eng.aMakeIface
  repeat' first | exact Local.fail | exact Local.val _ | exact Local.valO _ | exact Local.ret _ | exact Local.rd _ | exact Local.wr _ _ | exact Local.nw _ | exact Local.lift _ | exact Local.cellsAt _ | exact Local.aLoad _ _ _ | exact Local.putCells _ _ _ _ _ | exact Local.aStore _ _ _ _ | exact Local.aNew _ | exact Local.aFieldAddr _ _ _ _ | exact Local.aField _ _ _ _ | exact Local.aIndexAddr _ _ _ _ | exact Local.aIndex _ _ _ _ | exact Local.aSlice _ _ _ _ _ | exact Local.aBuild _ _ _ | exact Local.aBuildSlice _ _ _ _ | exact Local.aMakeSlice _ _ _ _ | exact Local.aConvert _ _ _ _ | refine Local.bind ?_ fun _ => ?_ | refine Local.cond ?_ ?_ | split
theorem Local.aAssert : ∀ x0 x1 x2 x3, Local (Go.Eng.aAssert x0 x1 x2 x3) := by
  intro x0 x1 x2 x3
  unfold Go.Eng.aAssert
  repeat' first | exact Local.fail | exact Local.val _ | exact Local.valO _ | exact Local.ret _ | exact Local.rd _ | exact Local.wr _ _ | exact Local.nw _ | exact Local.lift _ | exact Local.cellsAt _ | exact Local.aLoad _ _ _ | exact Local.putCells _ _ _ _ _ | exact Local.aStore _ _ _ _ | exact Local.aNew _ | exact Local.aFieldAddr _ _ _ _ | exact Local.aField _ _ _ _ | exact Local.aIndexAddr _ _ _ _ | exact Local.aIndex _ _ _ _ | exact Local.aSlice _ _ _ _ _ | exact Local.aBuild _ _ _ | exact Local.aBuildSlice _ _ _ _ | exact Local.aMakeSlice _ _ _ _ | exact Local.aConvert _ _ _ _ | exact Local.aMakeIface _ _ _ | refine Local.bind ?_ fun _ => ?_ | refine Local.cond ?_ ?_ | split
theorem Local.mapAt : ∀ x0, Local (Go.Eng.mapAt x0) := by
  intro x0
  unfold Go.Eng.mapAt
  repeat' first | exact Local.fail | exact Local.val _ | exact Local.valO _ | exact Local.ret _ | exact Local.rd _ | exact Local.wr _ _ | exact Local.nw _ | exact Local.lift _ | exact Local.cellsAt _ | exact Local.aLoad _ _ _ | exact Local.putCells _ _ _ _ _ | exact Local.aStore _ _ _ _ | exact Local.aNew _ | exact Local.aFieldAddr _ _ _ _ | exact Local.aField _ _ _ _ | exact Local.aIndexAddr _ _ _ _ | exact Local.aIndex _ _ _ _ | exact Local.aSlice _ _ _ _ _ | exact Local.aBuild _ _ _ | exact Local.aBuildSlice _ _ _ _ | exact Local.aMakeSlice _ _ _ _ | exact Local.aConvert _ _ _ _ | exact Local.aMakeIface _ _ _ | exact Local.aAssert _ _ _ _ | refine Local.bind ?_ fun _ => ?_ | refine Local.cond ?_ ?_ | split
theorem Local.aLookup : ∀ x0 x1 x2 x3 x4, Local (Go.Eng.aLookup x0 x1 x2 x3 x4) := by
  intro x0 x1 x2 x3 x4
  unfold Go.Eng.aLookup
  repeat' first | exact Local.fail | exact Local.val _ | exact Local.valO _ | exact Local.ret _ | exact Local.rd _ | exact Local.wr _ _ | exact Local.nw _ | exact Local.lift _ | exact Local.cellsAt _ | exact Local.aLoad _ _ _ | exact Local.putCells _ _ _ _ _ | exact Local.aStore _ _ _ _ | exact Local.aNew _ | exact Local.aFieldAddr _ _ _ _ | exact Local.aField _ _ _ _ | exact Local.aIndexAddr _ _ _ _ | exact Local.aIndex _ _ _ _ | exact Local.aSlice _ _ _ _ _ | exact Local.aBuild _ _ _ | exact Local.aBuildSlice _ _ _ _ | exact Local.aMakeSlice _ _ _ _ | exact Local.aConvert _ _ _ _ | exact Local.aMakeIface _ _ _ | exact Local.aAssert _ _ _ _ | exact Local.mapAt _ | refine Local.bind ?_ fun _ => ?_ | refine Local.cond ?_ ?_ | split
theorem Local.aUpdate : ∀ x0 x1 x2 x3 x4, Local (Go.Eng.aUpdate x0 x1 x2 x3 x4) := by
  intro x0 x1 x2 x3 x4
  unfold Go.Eng.aUpdate
  repeat' first | exact Local.fail | exact Local.val _ | exact Local.valO _ | exact Local.ret _ | exact Local.rd _ | exact Local.wr _ _ | exact Local.nw _ | exact Local.lift _ | exact Local.cellsAt _ | exact Local.aLoad _ _ _ | exact Local.putCells _ _ _ _ _ | exact Local.aStore _ _ _ _ | exact Local.aNew _ | exact Local.aFieldAddr _ _ _ _ | exact Local.aField _ _ _ _ | exact Local.aIndexAddr _ _ _ _ | exact Local.aIndex _ _ _ _ | exact Local.aSlice _ _ _ _ _ | exact Local.aBuild _ _ _ | exact Local.aBuildSlice _ _ _ _ | exact Local.aMakeSlice _ _ _ _ | exact Local.aConvert _ _ _ _ | exact Local.aMakeIface _ _ _ | exact Local.aAssert _ _ _ _ | exact Local.mapAt _ | exact Local.aLookup _ _ _ _ _ | refine Local.bind ?_ fun _ => ?_ | refine Local.cond ?_ ?_ | split
theorem Local.aDelete : ∀ x0 x1 x2 x3, Local (Go.Eng.aDelete x0 x1 x2 x3) := by
  intro x0 x1 x2 x3
  unfold Go.Eng.aDelete
  repeat' first | exact Local.fail | exact Local.val _ | exact Local.valO _ | exact Local.ret _ | exact Local.rd _ | exact Local.wr _ _ | exact Local.nw _ | exact Local.lift _ | exact Local.cellsAt _ | exact Local.aLoad _ _ _ | exact Local.putCells _ _ _ _ _ | exact Local.aStore _ _ _ _ | exact Local.aNew _ | exact Local.aFieldAddr _ _ _ _ | exact Local.aField _ _ _ _ | exact Local.aIndexAddr _ _ _ _ | exact Local.aIndex _ _ _ _ | exact Local.aSlice _ _ _ _ _ | exact Local.aBuild _ _ _ | exact Local.aBuildSlice _ _ _ _ | exact Local.aMakeSlice _ _ _ _ | exact Local.aConvert _ _ _ _ | exact Local.aMakeIface _ _ _ | exact Local.aAssert _ _ _ _ | exact Local.mapAt _ | exact Local.aLookup _ _ _ _ _ | exact Local.aUpdate _ _ _ _ _ | refine Local.bind ?_ fun _ => ?_ | refine Local.cond ?_ ?_ | split
theorem Local.aRange : ∀ x0 x1 x2, Local (Go.Eng.aRange x0 x1 x2) := by
  intro x0 x1 x2
  unfold Go.Eng.aRange
  repeat' first | exact Local.fail | exact Local.val _ | exact Local.valO _ | exact Local.ret _ | exact Local.rd _ | exact Local.wr _ _ | exact Local.nw _ | exact Local.lift _ | exact Local.cellsAt _ | exact Local.aLoad _ _ _ | exact Local.putCells _ _ _ _ _ | exact Local.aStore _ _ _ _ | exact Local.aNew _ | exact Local.aFieldAddr _ _ _ _ | exact Local.aField _ _ _ _ | exact Local.aIndexAddr _ _ _ _ | exact Local.aIndex _ _ _ _ | exact Local.aSlice _ _ _ _ _ | exact Local.aBuild _ _ _ | exact Local.aBuildSlice _ _ _ _ | exact Local.aMakeSlice _ _ _ _ | exact Local.aConvert _ _ _ _ | exact Local.aMakeIface _ _ _ | exact Local.aAssert _ _ _ _ | exact Local.mapAt _ | exact Local.aLookup _ _ _ _ _ | exact Local.aUpdate _ _ _ _ _ | exact Local.aDelete _ _ _ _ | refine Local.bind ?_ fun _ => ?_ | refine Local.cond ?_ ?_ | split
theorem Local.aNext : ∀ x0 x1, Local (Go.Eng.aNext x0 x1) := by
  intro x0 x1
  unfold Go.Eng.aNext
  repeat' first | exact Local.fail | exact Local.val _ | exact Local.valO _ | exact Local.ret _ | exact Local.rd _ | exact Local.wr _ _ | exact Local.nw _ | exact Local.lift _ | exact Local.cellsAt _ | exact Local.aLoad _ _ _ | exact Local.putCells _ _ _ _ _ | exact Local.aStore _ _ _ _ | exact Local.aNew _ | exact Local.aFieldAddr _ _ _ _ | exact Local.aField _ _ _ _ | exact Local.aIndexAddr _ _ _ _ | exact Local.aIndex _ _ _ _ | exact Local.aSlice _ _ _ _ _ | exact Local.aBuild _ _ _ | exact Local.aBuildSlice _ _ _ _ | exact Local.aMakeSlice _ _ _ _ | exact Local.aConvert _ _ _ _ | exact Local.aMakeIface _ _ _ | exact Local.aAssert _ _ _ _ | exact Local.mapAt _ | exact Local.aLookup _ _ _ _ _ | exact Local.aUpdate _ _ _ _ _ | exact Local.aDelete _ _ _ _ | exact Local.aRange _ _ _ | refine Local.bind ?_ fun _ => ?_ | refine Local.cond ?_ ?_ | split
theorem Local.aLen : ∀ x0 x1 x2, Local (Go.Eng.aLen x0 x1 x2) := by
  intro x0 x1 x2
  unfold Go.Eng.aLen
  repeat' first | exact Local.fail | exact Local.val _ | exact Local.valO _ | exact Local.ret _ | exact Local.rd _ | exact Local.wr _ _ | exact Local.nw _ | exact Local.lift _ | exact Local.cellsAt _ | exact Local.aLoad _ _ _ | exact Local.putCells _ _ _ _ _ | exact Local.aStore _ _ _ _ | exact Local.aNew _ | exact Local.aFieldAddr _ _ _ _ | exact Local.aField _ _ _ _ | exact Local.aIndexAddr _ _ _ _ | exact Local.aIndex _ _ _ _ | exact Local.aSlice _ _ _ _ _ | exact Local.aBuild _ _ _ | exact Local.aBuildSlice _ _ _ _ | exact Local.aMakeSlice _ _ _ _ | exact Local.aConvert _ _ _ _ | exact Local.aMakeIface _ _ _ | exact Local.aAssert _ _ _ _ | exact Local.mapAt _ | exact Local.aLookup _ _ _ _ _ | exact Local.aUpdate _ _ _ _ _ | exact Local.aDelete _ _ _ _ | exact Local.aRange _ _ _ | exact Local.aNext _ _ | refine Local.bind ?_ fun _ => ?_ | refine Local.cond ?_ ?_ | split
theorem Local.srcCells : ∀ x0 x1 x2, Local (Go.Eng.srcCells x0 x1 x2) := by
  intro x0 x1 x2
  unfold Go.Eng.srcCells
  repeat' first | exact Local.fail | exact Local.val _ | exact Local.valO _ | exact Local.ret _ | exact Local.rd _ | exact Local.wr _ _ | exact Local.nw _ | exact Local.lift _ | exact Local.cellsAt _ | exact Local.aLoad _ _ _ | exact Local.putCells _ _ _ _ _ | exact Local.aStore _ _ _ _ | exact Local.aNew _ | exact Local.aFieldAddr _ _ _ _ | exact Local.aField _ _ _ _ | exact Local.aIndexAddr _ _ _ _ | exact Local.aIndex _ _ _ _ | exact Local.aSlice _ _ _ _ _ | exact Local.aBuild _ _ _ | exact Local.aBuildSlice _ _ _ _ | exact Local.aMakeSlice _ _ _ _ | exact Local.aConvert _ _ _ _ | exact Local.aMakeIface _ _ _ | exact Local.aAssert _ _ _ _ | exact Local.mapAt _ | exact Local.aLookup _ _ _ _ _ | exact Local.aUpdate _ _ _ _ _ | exact Local.aDelete _ _ _ _ | exact Local.aRange _ _ _ | exact Local.aNext _ _ | exact Local.aLen _ _ _ | refine Local.bind ?_ fun _ => ?_ | refine Local.cond ?_ ?_ | split
theorem Local.grow : ∀ x0 x1 x2, Local (Go.Eng.grow x0 x1 x2) := by
  intro x0 x1 x2
  unfold Go.Eng.grow
  repeat' first | exact Local.fail | exact Local.val _ | exact Local.valO _ | exact Local.ret _ | exact Local.rd _ | exact Local.wr _ _ | exact Local.nw _ | exact Local.lift _ | exact Local.cellsAt _ | exact Local.aLoad _ _ _ | exact Local.putCells _ _ _ _ _ | exact Local.aStore _ _ _ _ | exact Local.aNew _ | exact Local.aFieldAddr _ _ _ _ | exact Local.aField _ _ _ _ | exact Local.aIndexAddr _ _ _ _ | exact Local.aIndex _ _ _ _ | exact Local.aSlice _ _ _ _ _ | exact Local.aBuild _ _ _ | exact Local.aBuildSlice _ _ _ _ | exact Local.aMakeSlice _ _ _ _ | exact Local.aConvert _ _ _ _ | exact Local.aMakeIface _ _ _ | exact Local.aAssert _ _ _ _ | exact Local.mapAt _ | exact Local.aLookup _ _ _ _ _ | exact Local.aUpdate _ _ _ _ _ | exact Local.aDelete _ _ _ _ | exact Local.aRange _ _ _ | exact Local.aNext _ _ | exact Local.aLen _ _ _ | exact Local.srcCells _ _ _ | refine Local.bind ?_ fun _ => ?_ | refine Local.cond ?_ ?_ | split
theorem Local.aAppendTo : ∀ x0 x1 x2 x3, Local (Go.Eng.aAppendTo x0 x1 x2 x3) := by
  intro x0 x1 x2 x3
  unfold Go.Eng.aAppendTo
  repeat' first | exact Local.fail | exact Local.val _ | exact Local.valO _ | exact Local.ret _ | exact Local.rd _ | exact Local.wr _ _ | exact Local.nw _ | exact Local.lift _ | exact Local.cellsAt _ | exact Local.aLoad _ _ _ | exact Local.putCells _ _ _ _ _ | exact Local.aStore _ _ _ _ | exact Local.aNew _ | exact Local.aFieldAddr _ _ _ _ | exact Local.aField _ _ _ _ | exact Local.aIndexAddr _ _ _ _ | exact Local.aIndex _ _ _ _ | exact Local.aSlice _ _ _ _ _ | exact Local.aBuild _ _ _ | exact Local.aBuildSlice _ _ _ _ | exact Local.aMakeSlice _ _ _ _ | exact Local.aConvert _ _ _ _ | exact Local.aMakeIface _ _ _ | exact Local.aAssert _ _ _ _ | exact Local.mapAt _ | exact Local.aLookup _ _ _ _ _ | exact Local.aUpdate _ _ _ _ _ | exact Local.aDelete _ _ _ _ | exact Local.aRange _ _ _ | exact Local.aNext _ _ | exact Local.aLen _ _ _ | exact Local.srcCells _ _ _ | exact Local.grow _ _ _ | refine Local.bind ?_ fun _ => ?_ | refine Local.cond ?_ ?_ | split
theorem Local.aAppend : ∀ x0 x1 x2 x3 x4, Local (Go.Eng.aAppend x0 x1 x2 x3 x4) := by
  intro x0 x1 x2 x3 x4
  unfold Go.Eng.aAppend
  repeat' first | exact Local.fail | exact Local.val _ | exact Local.valO _ | exact Local.ret _ | exact Local.rd _ | exact Local.wr _ _ | exact Local.nw _ | exact Local.lift _ | exact Local.cellsAt _ | exact Local.aLoad _ _ _ | exact Local.putCells _ _ _ _ _ | exact Local.aStore _ _ _ _ | exact Local.aNew _ | exact Local.aFieldAddr _ _ _ _ | exact Local.aField _ _ _ _ | exact Local.aIndexAddr _ _ _ _ | exact Local.aIndex _ _ _ _ | exact Local.aSlice _ _ _ _ _ | exact Local.aBuild _ _ _ | exact Local.aBuildSlice _ _ _ _ | exact Local.aMakeSlice _ _ _ _ | exact Local.aConvert _ _ _ _ | exact Local.aMakeIface _ _ _ | exact Local.aAssert _ _ _ _ | exact Local.mapAt _ | exact Local.aLookup _ _ _ _ _ | exact Local.aUpdate _ _ _ _ _ | exact Local.aDelete _ _ _ _ | exact Local.aRange _ _ _ | exact Local.aNext _ _ | exact Local.aLen _ _ _ | exact Local.srcCells _ _ _ | exact Local.grow _ _ _ | exact Local.aAppendTo _ _ _ _ | refine Local.bind ?_ fun _ => ?_ | refine Local.cond ?_ ?_ | split
theorem Local.aBuiltin : ∀ x0 x1 x2 x3, Local (Go.Eng.aBuiltin x0 x1 x2 x3) := by
  intro x0 x1 x2 x3
  unfold Go.Eng.aBuiltin
  repeat' first | exact Local.fail | exact Local.val _ | exact Local.valO _ | exact Local.ret _ | exact Local.rd _ | exact Local.wr _ _ | exact Local.nw _ | exact Local.lift _ | exact Local.cellsAt _ | exact Local.aLoad _ _ _ | exact Local.putCells _ _ _ _ _ | exact Local.aStore _ _ _ _ | exact Local.aNew _ | exact Local.aFieldAddr _ _ _ _ | exact Local.aField _ _ _ _ | exact Local.aIndexAddr _ _ _ _ | exact Local.aIndex _ _ _ _ | exact Local.aSlice _ _ _ _ _ | exact Local.aBuild _ _ _ | exact Local.aBuildSlice _ _ _ _ | exact Local.aMakeSlice _ _ _ _ | exact Local.aConvert _ _ _ _ | exact Local.aMakeIface _ _ _ | exact Local.aAssert _ _ _ _ | exact Local.mapAt _ | exact Local.aLookup _ _ _ _ _ | exact Local.aUpdate _ _ _ _ _ | exact Local.aDelete _ _ _ _ | exact Local.aRange _ _ _ | exact Local.aNext _ _ | exact Local.aLen _ _ _ | exact Local.srcCells _ _ _ | exact Local.grow _ _ _ | exact Local.aAppendTo _ _ _ _ | exact Local.aAppend _ _ _ _ _ | refine Local.bind ?_ fun _ => ?_ | refine Local.cond ?_ ?_ | split
theorem Local.aPtrEq : ∀ x0 x1 x2 x3 x4 x5, Local (Go.Eng.aPtrEq x0 x1 x2 x3 x4 x5) := by
  intro x0 x1 x2 x3 x4 x5
  unfold Go.Eng.aPtrEq
  repeat' first | exact Local.fail | exact Local.val _ | exact Local.valO _ | exact Local.ret _ | exact Local.rd _ | exact Local.wr _ _ | exact Local.nw _ | exact Local.lift _ | exact Local.cellsAt _ | exact Local.aLoad _ _ _ | exact Local.putCells _ _ _ _ _ | exact Local.aStore _ _ _ _ | exact Local.aNew _ | exact Local.aFieldAddr _ _ _ _ | exact Local.aField _ _ _ _ | exact Local.aIndexAddr _ _ _ _ | exact Local.aIndex _ _ _ _ | exact Local.aSlice _ _ _ _ _ | exact Local.aBuild _ _ _ | exact Local.aBuildSlice _ _ _ _ | exact Local.aMakeSlice _ _ _ _ | exact Local.aConvert _ _ _ _ | exact Local.aMakeIface _ _ _ | exact Local.aAssert _ _ _ _ | exact Local.mapAt _ | exact Local.aLookup _ _ _ _ _ | exact Local.aUpdate _ _ _ _ _ | exact Local.aDelete _ _ _ _ | exact Local.aRange _ _ _ | exact Local.aNext _ _ | exact Local.aLen _ _ _ | exact Local.srcCells _ _ _ | exact Local.grow _ _ _ | exact Local.aAppendTo _ _ _ _ | exact Local.aAppend _ _ _ _ _ | exact Local.aBuiltin _ _ _ _ | refine Local.bind ?_ fun _ => ?_ | refine Local.cond ?_ ?_ | split
theorem Local.aEq : ∀ x0 x1 x2 x3, Local (Go.Eng.aEq x0 x1 x2 x3) := by
  intro x0 x1 x2 x3
  unfold Go.Eng.aEq
  repeat' first | exact Local.fail | exact Local.val _ | exact Local.valO _ | exact Local.ret _ | exact Local.rd _ | exact Local.wr _ _ | exact Local.nw _ | exact Local.lift _ | exact Local.cellsAt _ | exact Local.aLoad _ _ _ | exact Local.putCells _ _ _ _ _ | exact Local.aStore _ _ _ _ | exact Local.aNew _ | exact Local.aFieldAddr _ _ _ _ | exact Local.aField _ _ _ _ | exact Local.aIndexAddr _ _ _ _ | exact Local.aIndex _ _ _ _ | exact Local.aSlice _ _ _ _ _ | exact Local.aBuild _ _ _ | exact Local.aBuildSlice _ _ _ _ | exact Local.aMakeSlice _ _ _ _ | exact Local.aConvert _ _ _ _ | exact Local.aMakeIface _ _ _ | exact Local.aAssert _ _ _ _ | exact Local.mapAt _ | exact Local.aLookup _ _ _ _ _ | exact Local.aUpdate _ _ _ _ _ | exact Local.aDelete _ _ _ _ | exact Local.aRange _ _ _ | exact Local.aNext _ _ | exact Local.aLen _ _ _ | exact Local.srcCells _ _ _ | exact Local.grow _ _ _ | exact Local.aAppendTo _ _ _ _ | exact Local.aAppend _ _ _ _ _ | exact Local.aBuiltin _ _ _ _ | exact Local.aPtrEq _ _ _ _ _ _ | refine Local.bind ?_ fun _ => ?_ | refine Local.cond ?_ ?_ | split
theorem Local.aEqOp : ∀ x0 x1 x2 x3 x4, Local (Go.Eng.aEqOp x0 x1 x2 x3 x4) := by
  intro x0 x1 x2 x3 x4
  unfold Go.Eng.aEqOp
  repeat' first | exact Local.fail | exact Local.val _ | exact Local.valO _ | exact Local.ret _ | exact Local.rd _ | exact Local.wr _ _ | exact Local.nw _ | exact Local.lift _ | exact Local.cellsAt _ | exact Local.aLoad _ _ _ | exact Local.putCells _ _ _ _ _ | exact Local.aStore _ _ _ _ | exact Local.aNew _ | exact Local.aFieldAddr _ _ _ _ | exact Local.aField _ _ _ _ | exact Local.aIndexAddr _ _ _ _ | exact Local.aIndex _ _ _ _ | exact Local.aSlice _ _ _ _ _ | exact Local.aBuild _ _ _ | exact Local.aBuildSlice _ _ _ _ | exact Local.aMakeSlice _ _ _ _ | exact Local.aConvert _ _ _ _ | exact Local.aMakeIface _ _ _ | exact Local.aAssert _ _ _ _ | exact Local.mapAt _ | exact Local.aLookup _ _ _ _ _ | exact Local.aUpdate _ _ _ _ _ | exact Local.aDelete _ _ _ _ | exact Local.aRange _ _ _ | exact Local.aNext _ _ | exact Local.aLen _ _ _ | exact Local.srcCells _ _ _ | exact Local.grow _ _ _ | exact Local.aAppendTo _ _ _ _ | exact Local.aAppend _ _ _ _ _ | exact Local.aBuiltin _ _ _ _ | exact Local.aPtrEq _ _ _ _ _ _ | exact Local.aEq _ _ _ _ | refine Local.bind ?_ fun _ => ?_ | refine Local.cond ?_ ?_ | split
theorem Local.aBin : ∀ x0 x1 x2 x3 x4 x5, Local (Go.Eng.aBin x0 x1 x2 x3 x4 x5) := by
  intro x0 x1 x2 x3 x4 x5
  unfold Go.Eng.aBin
  repeat' first | exact Local.fail | exact Local.val _ | exact Local.valO _ | exact Local.ret _ | exact Local.rd _ | exact Local.wr _ _ | exact Local.nw _ | exact Local.lift _ | exact Local.cellsAt _ | exact Local.aLoad _ _ _ | exact Local.putCells _ _ _ _ _ | exact Local.aStore _ _ _ _ | exact Local.aNew _ | exact Local.aFieldAddr _ _ _ _ | exact Local.aField _ _ _ _ | exact Local.aIndexAddr _ _ _ _ | exact Local.aIndex _ _ _ _ | exact Local.aSlice _ _ _ _ _ | exact Local.aBuild _ _ _ | exact Local.aBuildSlice _ _ _ _ | exact Local.aMakeSlice _ _ _ _ | exact Local.aConvert _ _ _ _ | exact Local.aMakeIface _ _ _ | exact Local.aAssert _ _ _ _ | exact Local.mapAt _ | exact Local.aLookup _ _ _ _ _ | exact Local.aUpdate _ _ _ _ _ | exact Local.aDelete _ _ _ _ | exact Local.aRange _ _ _ | exact Local.aNext _ _ | exact Local.aLen _ _ _ | exact Local.srcCells _ _ _ | exact Local.grow _ _ _ | exact Local.aAppendTo _ _ _ _ | exact Local.aAppend _ _ _ _ _ | exact Local.aBuiltin _ _ _ _ | exact Local.aPtrEq _ _ _ _ _ _ | exact Local.aEq _ _ _ _ | exact Local.aEqOp _ _ _ _ _ | refine Local.bind ?_ fun _ => ?_ | refine Local.cond ?_ ?_ | split
theorem Local.aCallOp : ∀ x0 x1 x2, Local (Go.Eng.aCallOp x0 x1 x2) := by
  intro x0 x1 x2
  unfold Go.Eng.aCallOp
  repeat' first | exact Local.fail | exact Local.val _ | exact Local.valO _ | exact Local.ret _ | exact Local.rd _ | exact Local.wr _ _ | exact Local.nw _ | exact Local.lift _ | exact Local.cellsAt _ | exact Local.aLoad _ _ _ | exact Local.putCells _ _ _ _ _ | exact Local.aStore _ _ _ _ | exact Local.aNew _ | exact Local.aFieldAddr _ _ _ _ | exact Local.aField _ _ _ _ | exact Local.aIndexAddr _ _ _ _ | exact Local.aIndex _ _ _ _ | exact Local.aSlice _ _ _ _ _ | exact Local.aBuild _ _ _ | exact Local.aBuildSlice _ _ _ _ | exact Local.aMakeSlice _ _ _ _ | exact Local.aConvert _ _ _ _ | exact Local.aMakeIface _ _ _ | exact Local.aAssert _ _ _ _ | exact Local.mapAt _ | exact Local.aLookup _ _ _ _ _ | exact Local.aUpdate _ _ _ _ _ | exact Local.aDelete _ _ _ _ | exact Local.aRange _ _ _ | exact Local.aNext _ _ | exact Local.aLen _ _ _ | exact Local.srcCells _ _ _ | exact Local.grow _ _ _ | exact Local.aAppendTo _ _ _ _ | exact Local.aAppend _ _ _ _ _ | exact Local.aBuiltin _ _ _ _ | exact Local.aPtrEq _ _ _ _ _ _ | exact Local.aEq _ _ _ _ | exact Local.aEqOp _ _ _ _ _ | exact Local.aBin _ _ _ _ _ _ | refine Local.bind ?_ fun _ => ?_ | refine Local.cond ?_ ?_ | split
theorem Local.aOp (C : Cfg) (T : Tm) (o : Op) : Local (Go.Eng.aOp C T o) := by
  unfold Go.Eng.aOp
  repeat' first | exact Local.fail | exact Local.val _ | exact Local.valO _ | exact Local.ret _ | exact Local.rd _ | exact Local.wr _ _ | exact Local.nw _ | exact Local.lift _ | exact Local.cellsAt _ | exact Local.aLoad _ _ _ | exact Local.putCells _ _ _ _ _ | exact Local.aStore _ _ _ _ | exact Local.aNew _ | exact Local.aFieldAddr _ _ _ _ | exact Local.aField _ _ _ _ | exact Local.aIndexAddr _ _ _ _ | exact Local.aIndex _ _ _ _ | exact Local.aSlice _ _ _ _ _ | exact Local.aBuild _ _ _ | exact Local.aBuildSlice _ _ _ _ | exact Local.aMakeSlice _ _ _ _ | exact Local.aConvert _ _ _ _ | exact Local.aMakeIface _ _ _ | exact Local.aAssert _ _ _ _ | exact Local.mapAt _ | exact Local.aLookup _ _ _ _ _ | exact Local.aUpdate _ _ _ _ _ | exact Local.aDelete _ _ _ _ | exact Local.aRange _ _ _ | exact Local.aNext _ _ | exact Local.aLen _ _ _ | exact Local.srcCells _ _ _ | exact Local.grow _ _ _ | exact Local.aAppendTo _ _ _ _ | exact Local.aAppend _ _ _ _ _ | exact Local.aBuiltin _ _ _ _ | exact Local.aPtrEq _ _ _ _ _ _ | exact Local.aEq _ _ _ _ | exact Local.aEqOp _ _ _ _ _ | exact Local.aBin _ _ _ _ _ _ | exact Local.aCallOp _ _ _ | (refine Local.with1 fun _ => ?_) | (refine Local.with2 fun _ _ => ?_) | refine Local.bind ?_ fun _ => ?_ | refine Local.cond ?_ ?_ | split
end
end Go.Eng
