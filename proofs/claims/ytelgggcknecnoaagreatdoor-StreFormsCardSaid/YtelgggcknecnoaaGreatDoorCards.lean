/-
  DERIVED. GIVEN WITH THE SEED: THE CARDS: each row of YtelgggcknecnoaaGreatDoorRows.lean that lists a variable, with what it lists TIED to the program's text (the seventh form; the later family's looks); each row that meets fmt, with fmt's text TOLD by the authors' own Lean function (tested against real Go, not proved from fmt's source: count such statements apart). THE CARD IS WHAT COUNTS. Prove the row's statement (the work); the ties are given (YtelgggcknecnoaaGreatDoorTie.lean); close each card by the builder's one call (the guide's Derived/Test/ToyasCard.lean, 'card_holds'). Laid BY PROGRAM, IN A SANDBOX (cutbox-door.mjs). By AI agents, Wed Nov 11 2026. No macro, syntax, notation, axiom, sorry.
-/
import Derived.Test.YtelgggcknecnoaaGreatDoorRows
import GoSem.ClaimSeven
namespace Go.Proofs.YtelgggcknecnoaaGreatDoor
namespace Rows

/-- THE TIED CARD OF 'bosketlaw18.StreForms'. -/
def streFormsCard : Claim7 := { stood := { row := streFormsRow, standIns := [], harness := (true, "9f5bb256f9f6b36f0cd61efec9c3c57a37fb1adba5d19dc6491a22614278f0f8"), looks := true }, kinds := [], alts := [], laidByText := true, laidKinds := [.data, .pinned], laidTests := true, laidLooks := .later }
def StreFormsCardSaid : Prop := Claim7.holds Tryz.pinned (.plain (OpenSpec.ofChange streFormsSpec)) streFormsCard

/-- THE TIED CARD OF 'bosketlaw19.LeafInner'. -/
def leafInnerCard : Claim7 := { stood := { row := leafInnerRow, standIns := [], harness := (true, "9f5bb256f9f6b36f0cd61efec9c3c57a37fb1adba5d19dc6491a22614278f0f8"), looks := true }, kinds := [], alts := [], laidByText := true, laidKinds := [.data, .pinned], laidTests := true, laidLooks := .later }
def LeafInnerCardSaid : Prop := Claim7.holds Tryz.pinned (.plain (OpenSpec.ofChange leafInnerSpec)) leafInnerCard

/-- THE SECOND FORM's CARD OF 'bosketlaw18.StreForms'. -/
def streFormsUptoCard : Claim7 := { stood := { row := streFormsUptoRow, standIns := [], harness := (true, "9f5bb256f9f6b36f0cd61efec9c3c57a37fb1adba5d19dc6491a22614278f0f8"), looks := true }, kinds := [], alts := [], laidByText := true, laidKinds := [.data, .pinned], laidTests := true, laidLooks := .later }
def StreFormsUptoCardSaid : Prop := Claim7.holds Tryz.pinned (.plain (OpenSpec.upto streFormsSpec)) streFormsUptoCard

/-- THE SECOND FORM's CARD OF 'bosketlaw19.LeafInner'. -/
def leafInnerUptoCard : Claim7 := { stood := { row := leafInnerUptoRow, standIns := [], harness := (true, "9f5bb256f9f6b36f0cd61efec9c3c57a37fb1adba5d19dc6491a22614278f0f8"), looks := true }, kinds := [], alts := [], laidByText := true, laidKinds := [.data, .pinned], laidTests := true, laidLooks := .later }
def LeafInnerUptoCardSaid : Prop := Claim7.holds Tryz.pinned (.plain (OpenSpec.upto leafInnerSpec)) leafInnerUptoCard
end Rows
end Go.Proofs.YtelgggcknecnoaaGreatDoor
