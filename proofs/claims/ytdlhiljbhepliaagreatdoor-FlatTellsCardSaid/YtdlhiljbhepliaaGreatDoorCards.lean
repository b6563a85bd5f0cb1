/-
  DERIVED. GIVEN WITH THE SEED: THE CARDS: each row of YtdlhiljbhepliaaGreatDoorRows.lean that lists a variable, with what it lists TIED to the program's text (the seventh form; the later family's looks); each row that meets fmt, with fmt's text TOLD by the authors' own Lean function (tested against real Go, not proved from fmt's source: count such statements apart). THE CARD IS WHAT COUNTS. Prove the row's statement (the work); the ties are given (YtdlhiljbhepliaaGreatDoorTie.lean); close each card by the builder's one call (the guide's Derived/Test/ToyasCard.lean, 'card_holds'). Laid BY PROGRAM, IN A SANDBOX (cutbox-door.mjs). By AI agents, Wed Nov 11 2026. No macro, syntax, notation, axiom, sorry.
-/
import Derived.Test.YtdlhiljbhepliaaGreatDoorRows
import GoSem.ClaimSeven
namespace Go.Proofs.YtdlhiljbhepliaaGreatDoor
namespace Rows

/-- THE TIED CARD OF 'bosketlaw24.FlatTells'. -/
def flatTellsCard : Claim7 := { stood := { row := flatTellsRow, standIns := [], harness := (true, "3c0d9cbd735aeec471f57a6badcede1abbe96ad10ae952555ea59993a170b233"), looks := true }, kinds := [], alts := [], laidByText := true, laidKinds := [.data, .data, .data, .data, .pinned], laidTests := true, laidLooks := .later }
def FlatTellsCardSaid : Prop := Claim7.holds Tryz.pinned (.plain (OpenSpec.ofChange flatTellsSpec)) flatTellsCard

/-- THE SECOND FORM's CARD OF 'bosketlaw24.FlatTells'. -/
def flatTellsUptoCard : Claim7 := { stood := { row := flatTellsUptoRow, standIns := [], harness := (true, "3c0d9cbd735aeec471f57a6badcede1abbe96ad10ae952555ea59993a170b233"), looks := true }, kinds := [], alts := [], laidByText := true, laidKinds := [.data, .data, .data, .data, .pinned], laidTests := true, laidLooks := .later }
def FlatTellsUptoCardSaid : Prop := Claim7.holds Tryz.pinned (.plain (OpenSpec.upto flatTellsSpec)) flatTellsUptoCard
end Rows
end Go.Proofs.YtdlhiljbhepliaaGreatDoor
