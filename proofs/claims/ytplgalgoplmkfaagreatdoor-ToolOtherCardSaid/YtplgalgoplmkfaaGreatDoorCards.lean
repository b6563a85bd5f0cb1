/-
  DERIVED. GIVEN WITH THE SEED: THE CARDS: each row of YtplgalgoplmkfaaGreatDoorRows.lean that lists a variable, with what it lists TIED to the program's text (the seventh form; the later family's looks); each row that meets fmt, with fmt's text TOLD by the authors' own Lean function (tested against real Go, not proved from fmt's source: count such statements apart). THE CARD IS WHAT COUNTS. Prove the row's statement (the work); the ties are given (YtplgalgoplmkfaaGreatDoorTie.lean); close each card by the builder's one call (the guide's Derived/Test/ToyasCard.lean, 'card_holds'). Laid BY PROGRAM, IN A SANDBOX (cutbox-door.mjs). By AI agents, Wed Nov 11 2026. No macro, syntax, notation, axiom, sorry.
-/
import Derived.Test.YtplgalgoplmkfaaGreatDoorRows
import GoSem.ClaimSeven
namespace Go.Proofs.YtplgalgoplmkfaaGreatDoor
namespace Rows

/-- THE TIED CARD OF 'bosketlaw28.ToolWord'. -/
def toolWordCard : Claim7 := { stood := { row := toolWordRow, standIns := [], harness := (true, "6c052d91cc693822bf12a5c524a448cc0cf44b0632b6106d8fe114ee74877ebf"), looks := true }, kinds := [], alts := [], laidByText := true, laidKinds := [.data, .data, .data, .data, .sentinel, .sentinel, .pinned], laidTests := true, laidLooks := .later }
def ToolWordCardSaid : Prop := Claim7.holds Tryz.pinned (.plain (OpenSpec.ofChange toolWordSpec)) toolWordCard

/-- THE TIED CARD OF 'bosketlaw28.ToolOther'. -/
def toolOtherCard : Claim7 := { stood := { row := toolOtherRow, standIns := [], harness := (true, "6c052d91cc693822bf12a5c524a448cc0cf44b0632b6106d8fe114ee74877ebf"), looks := true }, kinds := [], alts := [], laidByText := true, laidKinds := [.data, .data, .data, .data, .sentinel, .sentinel, .pinned], laidTests := true, laidLooks := .later }
def ToolOtherCardSaid : Prop := Claim7.holds Tryz.pinned (.plain (OpenSpec.ofChange toolOtherSpec)) toolOtherCard

/-- THE SECOND FORM's CARD OF 'bosketlaw28.ToolWord'. -/
def toolWordUptoCard : Claim7 := { stood := { row := toolWordUptoRow, standIns := [], harness := (true, "6c052d91cc693822bf12a5c524a448cc0cf44b0632b6106d8fe114ee74877ebf"), looks := true }, kinds := [], alts := [], laidByText := true, laidKinds := [.data, .data, .data, .data, .sentinel, .sentinel, .pinned], laidTests := true, laidLooks := .later }
def ToolWordUptoCardSaid : Prop := Claim7.holds Tryz.pinned (.plain (OpenSpec.upto toolWordSpec)) toolWordUptoCard

/-- THE SECOND FORM's CARD OF 'bosketlaw28.ToolOther'. -/
def toolOtherUptoCard : Claim7 := { stood := { row := toolOtherUptoRow, standIns := [], harness := (true, "6c052d91cc693822bf12a5c524a448cc0cf44b0632b6106d8fe114ee74877ebf"), looks := true }, kinds := [], alts := [], laidByText := true, laidKinds := [.data, .data, .data, .data, .sentinel, .sentinel, .pinned], laidTests := true, laidLooks := .later }
def ToolOtherUptoCardSaid : Prop := Claim7.holds Tryz.pinned (.plain (OpenSpec.upto toolOtherSpec)) toolOtherUptoCard
end Rows
end Go.Proofs.YtplgalgoplmkfaaGreatDoor
