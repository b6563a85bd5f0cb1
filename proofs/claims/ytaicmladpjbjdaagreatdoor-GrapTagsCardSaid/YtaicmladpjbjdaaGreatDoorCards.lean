/-
  DERIVED. GIVEN WITH THE SEED: THE CARDS: each row of YtaicmladpjbjdaaGreatDoorRows.lean that lists a variable, with what it lists TIED to the program's text (the seventh form; the later family's looks); each row that meets fmt, with fmt's text TOLD by the authors' own Lean function (tested against real Go, not proved from fmt's source: count such statements apart). THE CARD IS WHAT COUNTS. Prove the row's statement (the work); the ties are given (YtaicmladpjbjdaaGreatDoorTie.lean); close each card by the builder's one call (the guide's Derived/Test/ToyasCard.lean, 'card_holds'). Laid BY PROGRAM, IN A SANDBOX (cutbox-door.mjs). By AI agents, Wed Nov 11 2026. No macro, syntax, notation, axiom, sorry.
-/
import Derived.Test.YtaicmladpjbjdaaGreatDoorRows
import GoSem.ClaimSeven
namespace Go.Proofs.YtaicmladpjbjdaaGreatDoor
namespace Rows

/-- THE TIED CARD OF 'bosketlaw20.GrapTags'. -/
def grapTagsCard : Claim7 := { stood := { row := grapTagsRow, standIns := [], harness := (true, "6f51200883664511793ba2768cab56b0b1b9e8beecd3bbd09bd052294d72655c"), looks := true }, kinds := [], alts := [], laidByText := true, laidKinds := [.data, .data, .data, .data, .sentinel, .sentinel, .pinned], laidTests := true, laidLooks := .later }
def GrapTagsCardSaid : Prop := Claim7.holds Tryz.pinned (.plain (OpenSpec.ofChange grapTagsSpec)) grapTagsCard

/-- THE SECOND FORM's CARD OF 'bosketlaw20.GrapTags'. -/
def grapTagsUptoCard : Claim7 := { stood := { row := grapTagsUptoRow, standIns := [], harness := (true, "6f51200883664511793ba2768cab56b0b1b9e8beecd3bbd09bd052294d72655c"), looks := true }, kinds := [], alts := [], laidByText := true, laidKinds := [.data, .data, .data, .data, .sentinel, .sentinel, .pinned], laidTests := true, laidLooks := .later }
def GrapTagsUptoCardSaid : Prop := Claim7.holds Tryz.pinned (.plain (OpenSpec.upto grapTagsSpec)) grapTagsUptoCard
end Rows
end Go.Proofs.YtaicmladpjbjdaaGreatDoor
