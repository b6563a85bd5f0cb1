/-
  DERIVED. GIVEN WITH THE SEED: THE CARDS: each row of YtabdhfpohodohaaDoorRows.lean that lists a variable, with what it lists TIED to the program's text (the seventh form; the later family's looks); each row that meets fmt, with fmt's text TOLD by the authors' own Lean function (tested against real Go, not proved from fmt's source: count such statements apart). THE CARD IS WHAT COUNTS. Prove the row's statement (the work); the ties are given (YtabdhfpohodohaaDoorTie.lean); close each card by the builder's one call (the guide's Derived/Test/ToyasCard.lean, 'card_holds'). Laid BY PROGRAM, IN A SANDBOX (cutbox-door.mjs). By AI agents, Wed Nov 11 2026. No macro, syntax, notation, axiom, sorry.
-/
import Derived.Test.YtabdhfpohodohaaDoorRows
import GoSem.ClaimSeven
namespace Go.Proofs.YtabdhfpohodohaaDoor
namespace Rows

/-- THE TIED CARD OF 'bosketlaw9.HandTells'. -/
def handTellsCard : Claim7 := { stood := { row := handTellsRow, standIns := [], harness := (true, "e76a9482eac3a2c48fc910629b7785e10e82df5affe9c609b6ce11ae64131892"), looks := true }, kinds := [], alts := [], laidByText := true, laidKinds := [.data, .data, .data, .data, .sentinel, .sentinel, .pinned], laidTests := true, laidLooks := .later }
def HandTellsCardSaid : Prop := Claim7.holds Tryd.pinned (.plain (OpenSpec.ofChange handTellsSpec)) handTellsCard

/-- THE TIED CARD OF 'bosketlaw9.HandWhole'. -/
def handWholeCard : Claim7 := { stood := { row := handWholeRow, standIns := [], harness := (true, "e76a9482eac3a2c48fc910629b7785e10e82df5affe9c609b6ce11ae64131892"), looks := true }, kinds := [], alts := [], laidByText := true, laidKinds := [.data, .data, .data, .data, .sentinel, .sentinel, .pinned], laidTests := true, laidLooks := .later }
def HandWholeCardSaid : Prop := Claim7.holds Tryd.pinned (.plain (OpenSpec.ofChange handWholeSpec)) handWholeCard

/-- THE TIED CARD OF 'bosketlaw9.HandPrefix'. -/
def handPrefixCard : Claim7 := { stood := { row := handPrefixRow, standIns := [], harness := (true, "e76a9482eac3a2c48fc910629b7785e10e82df5affe9c609b6ce11ae64131892"), looks := true }, kinds := [], alts := [], laidByText := true, laidKinds := [.data, .data, .data, .data, .sentinel, .sentinel, .pinned], laidTests := true, laidLooks := .later }
def HandPrefixCardSaid : Prop := Claim7.holds Tryd.pinned (.plain (OpenSpec.ofChange handPrefixSpec)) handPrefixCard

/-- THE TIED CARD OF 'bosketlaw9.HandBytes'. -/
def handBytesCard : Claim7 := { stood := { row := handBytesRow, standIns := [], harness := (true, "e76a9482eac3a2c48fc910629b7785e10e82df5affe9c609b6ce11ae64131892"), looks := true }, kinds := [], alts := [], laidByText := true, laidKinds := [.data, .data, .data, .data, .sentinel, .sentinel, .pinned], laidTests := true, laidLooks := .later }
def HandBytesCardSaid : Prop := Claim7.holds Tryd.pinned (.plain (OpenSpec.ofChange handBytesSpec)) handBytesCard

/-- THE SECOND FORM's CARD OF 'bosketlaw9.HandTells'. -/
def handTellsUptoCard : Claim7 := { stood := { row := handTellsUptoRow, standIns := [], harness := (true, "e76a9482eac3a2c48fc910629b7785e10e82df5affe9c609b6ce11ae64131892"), looks := true }, kinds := [], alts := [], laidByText := true, laidKinds := [.data, .data, .data, .data, .sentinel, .sentinel, .pinned], laidTests := true, laidLooks := .later }
def HandTellsUptoCardSaid : Prop := Claim7.holds Tryd.pinned (.plain (OpenSpec.upto handTellsSpec)) handTellsUptoCard

/-- THE SECOND FORM's CARD OF 'bosketlaw9.HandWhole'. -/
def handWholeUptoCard : Claim7 := { stood := { row := handWholeUptoRow, standIns := [], harness := (true, "e76a9482eac3a2c48fc910629b7785e10e82df5affe9c609b6ce11ae64131892"), looks := true }, kinds := [], alts := [], laidByText := true, laidKinds := [.data, .data, .data, .data, .sentinel, .sentinel, .pinned], laidTests := true, laidLooks := .later }
def HandWholeUptoCardSaid : Prop := Claim7.holds Tryd.pinned (.plain (OpenSpec.upto handWholeSpec)) handWholeUptoCard

/-- THE SECOND FORM's CARD OF 'bosketlaw9.HandPrefix'. -/
def handPrefixUptoCard : Claim7 := { stood := { row := handPrefixUptoRow, standIns := [], harness := (true, "e76a9482eac3a2c48fc910629b7785e10e82df5affe9c609b6ce11ae64131892"), looks := true }, kinds := [], alts := [], laidByText := true, laidKinds := [.data, .data, .data, .data, .sentinel, .sentinel, .pinned], laidTests := true, laidLooks := .later }
def HandPrefixUptoCardSaid : Prop := Claim7.holds Tryd.pinned (.plain (OpenSpec.upto handPrefixSpec)) handPrefixUptoCard

/-- THE SECOND FORM's CARD OF 'bosketlaw9.HandBytes'. -/
def handBytesUptoCard : Claim7 := { stood := { row := handBytesUptoRow, standIns := [], harness := (true, "e76a9482eac3a2c48fc910629b7785e10e82df5affe9c609b6ce11ae64131892"), looks := true }, kinds := [], alts := [], laidByText := true, laidKinds := [.data, .data, .data, .data, .sentinel, .sentinel, .pinned], laidTests := true, laidLooks := .later }
def HandBytesUptoCardSaid : Prop := Claim7.holds Tryd.pinned (.plain (OpenSpec.upto handBytesSpec)) handBytesUptoCard
end Rows
end Go.Proofs.YtabdhfpohodohaaDoor
