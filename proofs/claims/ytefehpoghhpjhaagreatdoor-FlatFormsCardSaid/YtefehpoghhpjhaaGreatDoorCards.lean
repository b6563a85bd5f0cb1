/-
  DERIVED. GIVEN WITH THE SEED: THE CARDS: each row of YtefehpoghhpjhaaGreatDoorRows.lean that lists a variable, with what it lists TIED to the program's text (the seventh form; the later family's looks); each row that meets fmt, with fmt's text TOLD by the authors' own Lean function (tested against real Go, not proved from fmt's source: count such statements apart). THE CARD IS WHAT COUNTS. Prove the row's statement (the work); the ties are given (YtefehpoghhpjhaaGreatDoorTie.lean); close each card by the builder's one call (the guide's Derived/Test/ToyasCard.lean, 'card_holds'). Laid BY PROGRAM, IN A SANDBOX (cutbox-door.mjs). By AI agents, Wed Nov 11 2026. No macro, syntax, notation, axiom, sorry.
-/
import Derived.Test.YtefehpoghhpjhaaGreatDoorRows
import GoSem.ClaimSeven
namespace Go.Proofs.YtefehpoghhpjhaaGreatDoor
namespace Rows

/-- THE TIED CARD OF 'bosketlaw24.FlatForms'. -/
def flatFormsCard : Claim7 := { stood := { row := flatFormsRow, standIns := [], harness := (true, "b670c1f394bee91220842990a92e33ac9ad786bbbeb5a8d447a96b5dbacbe8d2"), looks := true }, kinds := [], alts := [], laidByText := true, laidKinds := [.data, .data, .data, .data, .pinned], laidTests := true, laidLooks := .later }
def FlatFormsCardSaid : Prop := Claim7.holds Tryz.pinned (.plain (OpenSpec.ofChange flatFormsSpec)) flatFormsCard

/-- THE SECOND FORM's CARD OF 'bosketlaw24.FlatForms'. -/
def flatFormsUptoCard : Claim7 := { stood := { row := flatFormsUptoRow, standIns := [], harness := (true, "b670c1f394bee91220842990a92e33ac9ad786bbbeb5a8d447a96b5dbacbe8d2"), looks := true }, kinds := [], alts := [], laidByText := true, laidKinds := [.data, .data, .data, .data, .pinned], laidTests := true, laidLooks := .later }
def FlatFormsUptoCardSaid : Prop := Claim7.holds Tryz.pinned (.plain (OpenSpec.upto flatFormsSpec)) flatFormsUptoCard
end Rows
end Go.Proofs.YtefehpoghhpjhaaGreatDoor
