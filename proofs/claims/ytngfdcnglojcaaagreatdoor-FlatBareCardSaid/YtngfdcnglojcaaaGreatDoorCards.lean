/-
  DERIVED. GIVEN WITH THE SEED: THE CARDS: each row of YtngfdcnglojcaaaGreatDoorRows.lean that lists a variable, with what it lists TIED to the program's text (the seventh form; the later family's looks); each row that meets fmt, with fmt's text TOLD by the authors' own Lean function (tested against real Go, not proved from fmt's source: count such statements apart). THE CARD IS WHAT COUNTS. Prove the row's statement (the work); the ties are given (YtngfdcnglojcaaaGreatDoorTie.lean); close each card by the builder's one call (the guide's Derived/Test/ToyasCard.lean, 'card_holds'). Laid BY PROGRAM, IN A SANDBOX (cutbox-door.mjs). By AI agents, Wed Nov 11 2026. No macro, syntax, notation, axiom, sorry.
-/
import Derived.Test.YtngfdcnglojcaaaGreatDoorRows
import GoSem.ClaimSeven
namespace Go.Proofs.YtngfdcnglojcaaaGreatDoor
namespace Rows

/-- THE TIED CARD OF 'bosketlaw24.FlatBare'. -/
def flatBareCard : Claim7 := { stood := { row := flatBareRow, standIns := [], harness := (true, "c59ef85242a0819385ece96a9fd1e98becd4c20233f2a90be57ded0d2b367bfe"), looks := true }, kinds := [], alts := [], laidByText := true, laidKinds := [.data, .data, .data, .data, .pinned], laidTests := true, laidLooks := .later }
def FlatBareCardSaid : Prop := Claim7.holds Tryz.pinned (.plain (OpenSpec.ofChange flatBareSpec)) flatBareCard

/-- THE SECOND FORM's CARD OF 'bosketlaw24.FlatBare'. -/
def flatBareUptoCard : Claim7 := { stood := { row := flatBareUptoRow, standIns := [], harness := (true, "c59ef85242a0819385ece96a9fd1e98becd4c20233f2a90be57ded0d2b367bfe"), looks := true }, kinds := [], alts := [], laidByText := true, laidKinds := [.data, .data, .data, .data, .pinned], laidTests := true, laidLooks := .later }
def FlatBareUptoCardSaid : Prop := Claim7.holds Tryz.pinned (.plain (OpenSpec.upto flatBareSpec)) flatBareUptoCard
end Rows
end Go.Proofs.YtngfdcnglojcaaaGreatDoor
