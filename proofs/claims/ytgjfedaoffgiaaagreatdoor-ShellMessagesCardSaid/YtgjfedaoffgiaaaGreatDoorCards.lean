/-
  DERIVED. GIVEN WITH THE SEED: THE CARDS: each row of YtgjfedaoffgiaaaGreatDoorRows.lean that lists a variable, with what it lists TIED to the program's text (the seventh form; the later family's looks); each row that meets fmt, with fmt's text TOLD by the authors' own Lean function (tested against real Go, not proved from fmt's source: count such statements apart). THE CARD IS WHAT COUNTS. Prove the row's statement (the work); the ties are given (YtgjfedaoffgiaaaGreatDoorTie.lean); close each card by the builder's one call (the guide's Derived/Test/ToyasCard.lean, 'card_holds'). Laid BY PROGRAM, IN A SANDBOX (cutbox-door.mjs). By AI agents, Wed Nov 11 2026. No macro, syntax, notation, axiom, sorry.
-/
import Derived.Test.YtgjfedaoffgiaaaGreatDoorRows
import GoSem.ClaimSeven
namespace Go.Proofs.YtgjfedaoffgiaaaGreatDoor
namespace Rows

/-- THE TIED CARD OF 'squelchlaw25.CmdNames'. -/
def cmdNamesCard : Claim7 := { stood := { row := cmdNamesRow, standIns := [], harness := (true, "4b4f7a869884628f600d9b8819a00efa111ef404cf6a3fe31799dbbbf598de36"), looks := true }, kinds := [], alts := [], laidByText := true, laidKinds := [.data, .data, .data, .data, .sentinel, .sentinel, .listed, .data, .pinned, .pinned], laidTests := true, laidLooks := .later }
def CmdNamesCardSaid : Prop := Claim7.holds Tryz.pinned (.plain (OpenSpec.ofChange cmdNamesSpec)) cmdNamesCard

/-- THE TIED CARD OF 'squelchlaw21.LinksTalk'. -/
def linksTalkCard : Claim7 := { stood := { row := linksTalkRow, standIns := [], harness := (true, "4b4f7a869884628f600d9b8819a00efa111ef404cf6a3fe31799dbbbf598de36"), looks := true }, kinds := [], alts := [], laidByText := true, laidKinds := [.data, .pinned], laidTests := true, laidLooks := .later }
def LinksTalkCardSaid : Prop := Claim7.holds Tryz.pinned (.plain (OpenSpec.ofChange linksTalkSpec)) linksTalkCard

/-- THE TIED CARD OF 'squelchlaw21.LinksErrors'. -/
def linksErrorsCard : Claim7 := { stood := { row := linksErrorsRow, standIns := [], harness := (true, "4b4f7a869884628f600d9b8819a00efa111ef404cf6a3fe31799dbbbf598de36"), looks := true }, kinds := [], alts := [], laidByText := true, laidKinds := [.data, .pinned], laidTests := true, laidLooks := .later }
def LinksErrorsCardSaid : Prop := Claim7.holds Tryz.pinned (.plain (OpenSpec.ofChange linksErrorsSpec)) linksErrorsCard

/-- THE TIED CARD OF 'squelchlaw25.CmdBlanks'. -/
def cmdBlanksCard : Claim7 := { stood := { row := cmdBlanksRow, standIns := [], harness := (true, "4b4f7a869884628f600d9b8819a00efa111ef404cf6a3fe31799dbbbf598de36"), looks := true }, kinds := [], alts := [], laidByText := true, laidKinds := [.data, .data, .data, .data, .sentinel, .sentinel, .listed, .data, .pinned, .pinned], laidTests := true, laidLooks := .later }
def CmdBlanksCardSaid : Prop := Claim7.holds Tryz.pinned (.plain (OpenSpec.ofChange cmdBlanksSpec)) cmdBlanksCard

/-- THE TIED CARD OF 'squelchlaw26.ShellData'. -/
def shellDataCard : Claim7 := { stood := { row := shellDataRow, standIns := [], harness := (true, "4b4f7a869884628f600d9b8819a00efa111ef404cf6a3fe31799dbbbf598de36"), looks := true }, kinds := [], alts := [], laidByText := true, laidKinds := [.data, .data, .data, .data, .sentinel, .sentinel, .listed, .data, .pinned], laidTests := true, laidLooks := .later }
def ShellDataCardSaid : Prop := Claim7.holds Tryz.pinned (.plain (OpenSpec.ofChange shellDataSpec)) shellDataCard

/-- THE TIED CARD OF 'squelchlaw26.ShellMessages'. -/
def shellMessagesCard : Claim7 := { stood := { row := shellMessagesRow, standIns := [], harness := (true, "4b4f7a869884628f600d9b8819a00efa111ef404cf6a3fe31799dbbbf598de36"), looks := true }, kinds := [], alts := [], laidByText := true, laidKinds := [.data, .data, .data, .data, .sentinel, .sentinel, .listed, .data, .pinned], laidTests := true, laidLooks := .later }
def ShellMessagesCardSaid : Prop := Claim7.holds Tryz.pinned (.plain (OpenSpec.ofChange shellMessagesSpec)) shellMessagesCard

/-- THE SECOND FORM's CARD OF 'squelchlaw25.CmdNames'. -/
def cmdNamesUptoCard : Claim7 := { stood := { row := cmdNamesUptoRow, standIns := [], harness := (true, "4b4f7a869884628f600d9b8819a00efa111ef404cf6a3fe31799dbbbf598de36"), looks := true }, kinds := [], alts := [], laidByText := true, laidKinds := [.data, .data, .data, .data, .sentinel, .sentinel, .listed, .data, .pinned, .pinned], laidTests := true, laidLooks := .later }
def CmdNamesUptoCardSaid : Prop := Claim7.holds Tryz.pinned (.plain (OpenSpec.upto cmdNamesSpec)) cmdNamesUptoCard

/-- THE SECOND FORM's CARD OF 'squelchlaw21.LinksTalk'. -/
def linksTalkUptoCard : Claim7 := { stood := { row := linksTalkUptoRow, standIns := [], harness := (true, "4b4f7a869884628f600d9b8819a00efa111ef404cf6a3fe31799dbbbf598de36"), looks := true }, kinds := [], alts := [], laidByText := true, laidKinds := [.data, .pinned], laidTests := true, laidLooks := .later }
def LinksTalkUptoCardSaid : Prop := Claim7.holds Tryz.pinned (.plain (OpenSpec.upto linksTalkSpec)) linksTalkUptoCard

/-- THE SECOND FORM's CARD OF 'squelchlaw21.LinksErrors'. -/
def linksErrorsUptoCard : Claim7 := { stood := { row := linksErrorsUptoRow, standIns := [], harness := (true, "4b4f7a869884628f600d9b8819a00efa111ef404cf6a3fe31799dbbbf598de36"), looks := true }, kinds := [], alts := [], laidByText := true, laidKinds := [.data, .pinned], laidTests := true, laidLooks := .later }
def LinksErrorsUptoCardSaid : Prop := Claim7.holds Tryz.pinned (.plain (OpenSpec.upto linksErrorsSpec)) linksErrorsUptoCard

/-- THE SECOND FORM's CARD OF 'squelchlaw25.CmdBlanks'. -/
def cmdBlanksUptoCard : Claim7 := { stood := { row := cmdBlanksUptoRow, standIns := [], harness := (true, "4b4f7a869884628f600d9b8819a00efa111ef404cf6a3fe31799dbbbf598de36"), looks := true }, kinds := [], alts := [], laidByText := true, laidKinds := [.data, .data, .data, .data, .sentinel, .sentinel, .listed, .data, .pinned, .pinned], laidTests := true, laidLooks := .later }
def CmdBlanksUptoCardSaid : Prop := Claim7.holds Tryz.pinned (.plain (OpenSpec.upto cmdBlanksSpec)) cmdBlanksUptoCard

/-- THE SECOND FORM's CARD OF 'squelchlaw26.ShellData'. -/
def shellDataUptoCard : Claim7 := { stood := { row := shellDataUptoRow, standIns := [], harness := (true, "4b4f7a869884628f600d9b8819a00efa111ef404cf6a3fe31799dbbbf598de36"), looks := true }, kinds := [], alts := [], laidByText := true, laidKinds := [.data, .data, .data, .data, .sentinel, .sentinel, .listed, .data, .pinned], laidTests := true, laidLooks := .later }
def ShellDataUptoCardSaid : Prop := Claim7.holds Tryz.pinned (.plain (OpenSpec.upto shellDataSpec)) shellDataUptoCard

/-- THE SECOND FORM's CARD OF 'squelchlaw26.ShellMessages'. -/
def shellMessagesUptoCard : Claim7 := { stood := { row := shellMessagesUptoRow, standIns := [], harness := (true, "4b4f7a869884628f600d9b8819a00efa111ef404cf6a3fe31799dbbbf598de36"), looks := true }, kinds := [], alts := [], laidByText := true, laidKinds := [.data, .data, .data, .data, .sentinel, .sentinel, .listed, .data, .pinned], laidTests := true, laidLooks := .later }
def ShellMessagesUptoCardSaid : Prop := Claim7.holds Tryz.pinned (.plain (OpenSpec.upto shellMessagesSpec)) shellMessagesUptoCard
end Rows
end Go.Proofs.YtgjfedaoffgiaaaGreatDoor
