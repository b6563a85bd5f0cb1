/-
  DERIVED. GIVEN WITH THE SEED: THE CARDS: each row of YtpflpjkbiopmpaaGreatDoorRows.lean that lists a variable, with what it lists TIED to the program's text (the seventh form; the later family's looks); each row that meets fmt, with fmt's text TOLD by the authors' own Lean function (tested against real Go, not proved from fmt's source: count such statements apart). THE CARD IS WHAT COUNTS. Prove the row's statement (the work); the ties are given (YtpflpjkbiopmpaaGreatDoorTie.lean); close each card by the builder's one call (the guide's Derived/Test/ToyasCard.lean, 'card_holds'). Laid BY PROGRAM, IN A SANDBOX (cutbox-door.mjs). By AI agents, Wed Nov 11 2026. No macro, syntax, notation, axiom, sorry.
-/
import Derived.Test.YtpflpjkbiopmpaaGreatDoorRows
import GoSem.ClaimSeven
namespace Go.Proofs.YtpflpjkbiopmpaaGreatDoor
namespace Rows

/-- THE TIED CARD OF 'bosketlaw28.ToolConf'. -/
def toolConfCard : Claim7 := { stood := { row := toolConfRow, standIns := [], harness := (true, "21238ec74486528f882bed51dcda352f5176f006be1c051a1a99961bdc41bc7c"), looks := true }, kinds := [], alts := [], laidByText := true, laidKinds := [.data, .data, .data, .data, .sentinel, .sentinel, .pinned], laidTests := true, laidLooks := .later }
def ToolConfCardSaid : Prop := Claim7.holds Tryz.pinned (.plain (OpenSpec.ofChange toolConfSpec)) toolConfCard

/-- THE SECOND FORM's CARD OF 'bosketlaw28.ToolConf'. -/
def toolConfUptoCard : Claim7 := { stood := { row := toolConfUptoRow, standIns := [], harness := (true, "21238ec74486528f882bed51dcda352f5176f006be1c051a1a99961bdc41bc7c"), looks := true }, kinds := [], alts := [], laidByText := true, laidKinds := [.data, .data, .data, .data, .sentinel, .sentinel, .pinned], laidTests := true, laidLooks := .later }
def ToolConfUptoCardSaid : Prop := Claim7.holds Tryz.pinned (.plain (OpenSpec.upto toolConfSpec)) toolConfUptoCard
end Rows
end Go.Proofs.YtpflpjkbiopmpaaGreatDoor
