/-
  DERIVED. GIVEN WITH THE SEED: THE CARDS: each row of YtkhikbkgiachkaaGreatDoorRows.lean that lists a variable, with what it lists TIED to the program's text (the seventh form; the later family's looks); each row that meets fmt, with fmt's text TOLD by the authors' own Lean function (tested against real Go, not proved from fmt's source: count such statements apart). THE CARD IS WHAT COUNTS. Prove the row's statement (the work); the ties are given (YtkhikbkgiachkaaGreatDoorTie.lean); close each card by the builder's one call (the guide's Derived/Test/ToyasCard.lean, 'card_holds'). Laid BY PROGRAM, IN A SANDBOX (cutbox-door.mjs). By AI agents, Wed Nov 11 2026. No macro, syntax, notation, axiom, sorry.
-/
import Derived.Test.YtkhikbkgiachkaaGreatDoorRows
import GoSem.ClaimSeven
namespace Go.Proofs.YtkhikbkgiachkaaGreatDoor
namespace Rows

/-- THE TIED CARD OF 'bosketlaw17.TreeBeside'. -/
def treeBesideCard : Claim7 := { stood := { row := treeBesideRow, standIns := [], harness := (true, "cb3671a4d6be773a4fbc79af9a4eeb4d1b2b59c937f3cd8c3d98273d5a13490f"), looks := true }, kinds := [], alts := [], laidByText := true, laidKinds := [.data, .pinned], laidTests := true, laidLooks := .later }
def TreeBesideCardSaid : Prop := Claim7.holds Tryz.pinned (.plain (OpenSpec.ofChange treeBesideSpec)) treeBesideCard

/-- THE TIED CARD OF 'bosketlaw17.TreeLeft'. -/
def treeLeftCard : Claim7 := { stood := { row := treeLeftRow, standIns := [], harness := (true, "cb3671a4d6be773a4fbc79af9a4eeb4d1b2b59c937f3cd8c3d98273d5a13490f"), looks := true }, kinds := [], alts := [], laidByText := true, laidKinds := [.data, .pinned], laidTests := true, laidLooks := .later }
def TreeLeftCardSaid : Prop := Claim7.holds Tryz.pinned (.plain (OpenSpec.ofChange treeLeftSpec)) treeLeftCard

/-- THE SECOND FORM's CARD OF 'bosketlaw17.TreeBeside'. -/
def treeBesideUptoCard : Claim7 := { stood := { row := treeBesideUptoRow, standIns := [], harness := (true, "cb3671a4d6be773a4fbc79af9a4eeb4d1b2b59c937f3cd8c3d98273d5a13490f"), looks := true }, kinds := [], alts := [], laidByText := true, laidKinds := [.data, .pinned], laidTests := true, laidLooks := .later }
def TreeBesideUptoCardSaid : Prop := Claim7.holds Tryz.pinned (.plain (OpenSpec.upto treeBesideSpec)) treeBesideUptoCard

/-- THE SECOND FORM's CARD OF 'bosketlaw17.TreeLeft'. -/
def treeLeftUptoCard : Claim7 := { stood := { row := treeLeftUptoRow, standIns := [], harness := (true, "cb3671a4d6be773a4fbc79af9a4eeb4d1b2b59c937f3cd8c3d98273d5a13490f"), looks := true }, kinds := [], alts := [], laidByText := true, laidKinds := [.data, .pinned], laidTests := true, laidLooks := .later }
def TreeLeftUptoCardSaid : Prop := Claim7.holds Tryz.pinned (.plain (OpenSpec.upto treeLeftSpec)) treeLeftUptoCard
end Rows
end Go.Proofs.YtkhikbkgiachkaaGreatDoor
