/-
  DERIVED. GIVEN WITH THE SEED: THE CARDS: each row of YtkpclmpikhgbpaaGreatDoorRows.lean that lists a variable, with what it lists TIED to the program's text (the seventh form; the later family's looks); each row that meets fmt, with fmt's text TOLD by the authors' own Lean function (tested against real Go, not proved from fmt's source: count such statements apart). THE CARD IS WHAT COUNTS. Prove the row's statement (the work); the ties are given (YtkpclmpikhgbpaaGreatDoorTie.lean); close each card by the builder's one call (the guide's Derived/Test/ToyasCard.lean, 'card_holds'). Laid BY PROGRAM, IN A SANDBOX (cutbox-door.mjs). By AI agents, Wed Nov 11 2026. No macro, syntax, notation, axiom, sorry.
-/
import Derived.Test.YtkpclmpikhgbpaaGreatDoorRows
import GoSem.ClaimSeven
namespace Go.Proofs.YtkpclmpikhgbpaaGreatDoor
namespace Rows

/-- THE TIED CARD OF 'bosketlaw21.ConfBounds'. -/
def confBoundsCard : Claim7 := { stood := { row := confBoundsRow, standIns := [], harness := (true, "404ef6931cc811305e14b77c54b479c78fa55d2e141f656e9d95e9a77b2aba0b"), looks := true }, kinds := [], alts := [], laidByText := true, laidKinds := [.data, .data, .data, .data, .sentinel, .sentinel, .pinned], laidTests := true, laidLooks := .later }
def ConfBoundsCardSaid : Prop := Claim7.holds Tryz.pinned (.plain (OpenSpec.ofChange confBoundsSpec)) confBoundsCard

/-- THE SECOND FORM's CARD OF 'bosketlaw21.ConfBounds'. -/
def confBoundsUptoCard : Claim7 := { stood := { row := confBoundsUptoRow, standIns := [], harness := (true, "404ef6931cc811305e14b77c54b479c78fa55d2e141f656e9d95e9a77b2aba0b"), looks := true }, kinds := [], alts := [], laidByText := true, laidKinds := [.data, .data, .data, .data, .sentinel, .sentinel, .pinned], laidTests := true, laidLooks := .later }
def ConfBoundsUptoCardSaid : Prop := Claim7.holds Tryz.pinned (.plain (OpenSpec.upto confBoundsSpec)) confBoundsUptoCard
end Rows
end Go.Proofs.YtkpclmpikhgbpaaGreatDoor
