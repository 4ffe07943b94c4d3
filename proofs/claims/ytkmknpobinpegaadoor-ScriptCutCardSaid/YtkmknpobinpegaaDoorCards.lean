/-
  DERIVED. GIVEN WITH THE SEED: THE CARDS: each row of YtkmknpobinpegaaDoorRows.lean that lists a variable, with what it lists TIED to the program's text (the seventh form; the later family's looks); each row that meets fmt, with fmt's text TOLD by the authors' own Lean function (tested against real Go, not proved from fmt's source: count such statements apart). THE CARD IS WHAT COUNTS. Prove the row's statement (the work); the ties are given (YtkmknpobinpegaaDoorTie.lean); close each card by the builder's one call (the guide's Derived/Test/ToyasCard.lean, 'card_holds'). Laid BY PROGRAM, IN A SANDBOX (cutbox-door.mjs). By AI agents, Wed Nov 11 2026. No macro, syntax, notation, axiom, sorry.
-/
import Derived.Test.YtkmknpobinpegaaDoorRows
import GoSem.ClaimSeven
namespace Go.Proofs.YtkmknpobinpegaaDoor
namespace Rows

/-- THE TIED CARD OF 'shuttlelaw29.ScriptWrites'. -/
def scriptWritesCard : Claim7 := { stood := { row := scriptWritesRow, standIns := [], harness := (true, "ec05fd5f731ebd7d1e46496f07822e0db22b1045f7033bb78cb12fe632a82f4e"), looks := true }, kinds := [], alts := [], laidByText := true, laidKinds := [.handle], laidTests := true, laidLooks := .later }
def ScriptWritesCardSaid : Prop := Claim7.holds Tryd.pinned (.plain (OpenSpec.ofChange scriptWritesSpec)) scriptWritesCard

/-- THE TIED CARD OF 'shuttlelaw29.ScriptCut'. -/
def scriptCutCard : Claim7 := { stood := { row := scriptCutRow, standIns := [], harness := (true, "ec05fd5f731ebd7d1e46496f07822e0db22b1045f7033bb78cb12fe632a82f4e"), looks := true }, kinds := [], alts := [], laidByText := true, laidKinds := [.handle], laidTests := true, laidLooks := .later }
def ScriptCutCardSaid : Prop := Claim7.holds Tryd.pinned (.plain (OpenSpec.ofChange scriptCutSpec)) scriptCutCard

/-- THE SECOND FORM's CARD OF 'shuttlelaw29.ScriptWrites'. -/
def scriptWritesUptoCard : Claim7 := { stood := { row := scriptWritesUptoRow, standIns := [], harness := (true, "ec05fd5f731ebd7d1e46496f07822e0db22b1045f7033bb78cb12fe632a82f4e"), looks := true }, kinds := [], alts := [], laidByText := true, laidKinds := [.handle], laidTests := true, laidLooks := .later }
def ScriptWritesUptoCardSaid : Prop := Claim7.holds Tryd.pinned (.plain (OpenSpec.upto scriptWritesSpec)) scriptWritesUptoCard

/-- THE SECOND FORM's CARD OF 'shuttlelaw29.ScriptCut'. -/
def scriptCutUptoCard : Claim7 := { stood := { row := scriptCutUptoRow, standIns := [], harness := (true, "ec05fd5f731ebd7d1e46496f07822e0db22b1045f7033bb78cb12fe632a82f4e"), looks := true }, kinds := [], alts := [], laidByText := true, laidKinds := [.handle], laidTests := true, laidLooks := .later }
def ScriptCutUptoCardSaid : Prop := Claim7.holds Tryd.pinned (.plain (OpenSpec.upto scriptCutSpec)) scriptCutUptoCard
end Rows
end Go.Proofs.YtkmknpobinpegaaDoor
