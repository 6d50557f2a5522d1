/-
  DERIVED. GIVEN WITH THE SEED: THE CARDS: each row of YtofjbigojbnmfaaGreatDoorRows.lean that lists a variable, with what it lists TIED to the program's text (the seventh form; the later family's looks); each row that meets fmt, with fmt's text TOLD by the authors' own Lean function (tested against real Go, not proved from fmt's source: count such statements apart). THE CARD IS WHAT COUNTS. Prove the row's statement (the work); the ties are given (YtofjbigojbnmfaaGreatDoorTie.lean); close each card by the builder's one call (the guide's Derived/Test/ToyasCard.lean, 'card_holds'). Laid BY PROGRAM, IN A SANDBOX (cutbox-door.mjs). By AI agents, Wed Nov 11 2026. No macro, syntax, notation, axiom, sorry.
-/
import Derived.Test.YtofjbigojbnmfaaGreatDoorRows
import GoSem.ClaimSeven
namespace Go.Proofs.YtofjbigojbnmfaaGreatDoor
namespace Rows

/-- THE TIED CARD OF 'ligaturelaw11.StoreNumbers'. -/
def storeNumbersCard : Claim7 := { stood := { row := storeNumbersRow, standIns := [], harness := (true, "c937addd36af239f3e9dc3c4c0a0a94c73ce5fba97885a8718bde02377108a7b"), looks := false }, kinds := [], alts := [], laidByText := true, laidKinds := [.data, .pinned], laidTests := true, laidLooks := .later }
def StoreNumbersCardSaid : Prop := Claim7.holds Tryz.pinned (.plain (OpenSpec.ofChange storeNumbersSpec)) storeNumbersCard

/-- THE TIED CARD OF 'ligaturelaw11.StoreOfNothing'. -/
def storeOfNothingCard : Claim7 := { stood := { row := storeOfNothingRow, standIns := [], harness := (true, "c937addd36af239f3e9dc3c4c0a0a94c73ce5fba97885a8718bde02377108a7b"), looks := false }, kinds := [], alts := [], laidByText := true, laidKinds := [.data, .pinned], laidTests := true, laidLooks := .later }
def StoreOfNothingCardSaid : Prop := Claim7.holds Tryz.pinned (.plain (OpenSpec.ofChange storeOfNothingSpec)) storeOfNothingCard

/-- THE SECOND FORM's CARD OF 'ligaturelaw11.StoreNumbers'. -/
def storeNumbersUptoCard : Claim7 := { stood := { row := storeNumbersUptoRow, standIns := [], harness := (true, "c937addd36af239f3e9dc3c4c0a0a94c73ce5fba97885a8718bde02377108a7b"), looks := false }, kinds := [], alts := [], laidByText := true, laidKinds := [.data, .pinned], laidTests := true, laidLooks := .later }
def StoreNumbersUptoCardSaid : Prop := Claim7.holds Tryz.pinned (.plain (OpenSpec.upto storeNumbersSpec)) storeNumbersUptoCard

/-- THE SECOND FORM's CARD OF 'ligaturelaw11.StoreOfNothing'. -/
def storeOfNothingUptoCard : Claim7 := { stood := { row := storeOfNothingUptoRow, standIns := [], harness := (true, "c937addd36af239f3e9dc3c4c0a0a94c73ce5fba97885a8718bde02377108a7b"), looks := false }, kinds := [], alts := [], laidByText := true, laidKinds := [.data, .pinned], laidTests := true, laidLooks := .later }
def StoreOfNothingUptoCardSaid : Prop := Claim7.holds Tryz.pinned (.plain (OpenSpec.upto storeOfNothingSpec)) storeOfNothingUptoCard
end Rows
end Go.Proofs.YtofjbigojbnmfaaGreatDoor
