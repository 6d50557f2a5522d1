/-
  DERIVED. GIVEN WITH THE SEED: THE CARDS: each row of YtibfpkfpmkghhaaGreatDoorRows.lean that lists a variable, with what it lists TIED to the program's text (the seventh form; the later family's looks); each row that meets fmt, with fmt's text TOLD by the authors' own Lean function (tested against real Go, not proved from fmt's source: count such statements apart). THE CARD IS WHAT COUNTS. Prove the row's statement (the work); the ties are given (YtibfpkfpmkghhaaGreatDoorTie.lean); close each card by the builder's one call (the guide's Derived/Test/ToyasCard.lean, 'card_holds'). Laid BY PROGRAM, IN A SANDBOX (cutbox-door.mjs). By AI agents, Wed Nov 11 2026. No macro, syntax, notation, axiom, sorry.
-/
import Derived.Test.YtibfpkfpmkghhaaGreatDoorRows
import GoSem.ClaimSeven
namespace Go.Proofs.YtibfpkfpmkghhaaGreatDoor
namespace Rows

/-- THE TIED CARD OF 'ligaturelaw11.StoreApart'. -/
def storeApartCard : Claim7 := { stood := { row := storeApartRow, standIns := [], harness := (true, "72ad10b043d475b4f1c4b673b8cdf42ef13fcb291dbf76efefbd39158a38bedd"), looks := false }, kinds := [], alts := [], laidByText := true, laidKinds := [.data, .pinned], laidTests := true, laidLooks := .later }
def StoreApartCardSaid : Prop := Claim7.holds Tryz.pinned (.plain (OpenSpec.ofChange storeApartSpec)) storeApartCard

/-- THE TIED CARD OF 'ligaturelaw11.StoreJoined'. -/
def storeJoinedCard : Claim7 := { stood := { row := storeJoinedRow, standIns := [], harness := (true, "72ad10b043d475b4f1c4b673b8cdf42ef13fcb291dbf76efefbd39158a38bedd"), looks := false }, kinds := [], alts := [], laidByText := true, laidKinds := [.data, .pinned], laidTests := true, laidLooks := .later }
def StoreJoinedCardSaid : Prop := Claim7.holds Tryz.pinned (.plain (OpenSpec.ofChange storeJoinedSpec)) storeJoinedCard

/-- THE TIED CARD OF 'ligaturelaw11.StoreStays'. -/
def storeStaysCard : Claim7 := { stood := { row := storeStaysRow, standIns := [], harness := (true, "72ad10b043d475b4f1c4b673b8cdf42ef13fcb291dbf76efefbd39158a38bedd"), looks := false }, kinds := [], alts := [], laidByText := true, laidKinds := [.data, .pinned], laidTests := true, laidLooks := .later }
def StoreStaysCardSaid : Prop := Claim7.holds Tryz.pinned (.plain (OpenSpec.ofChange storeStaysSpec)) storeStaysCard

/-- THE TIED CARD OF 'ligaturelaw11.StorePlays'. -/
def storePlaysCard : Claim7 := { stood := { row := storePlaysRow, standIns := [], harness := (true, "72ad10b043d475b4f1c4b673b8cdf42ef13fcb291dbf76efefbd39158a38bedd"), looks := false }, kinds := [], alts := [], laidByText := true, laidKinds := [.data, .pinned], laidTests := true, laidLooks := .later }
def StorePlaysCardSaid : Prop := Claim7.holds Tryz.pinned (.plain (OpenSpec.ofChange storePlaysSpec)) storePlaysCard

/-- THE TIED CARD OF 'ligaturelaw11.StoreFinds'. -/
def storeFindsCard : Claim7 := { stood := { row := storeFindsRow, standIns := [], harness := (true, "72ad10b043d475b4f1c4b673b8cdf42ef13fcb291dbf76efefbd39158a38bedd"), looks := false }, kinds := [], alts := [], laidByText := true, laidKinds := [.data, .pinned], laidTests := true, laidLooks := .later }
def StoreFindsCardSaid : Prop := Claim7.holds Tryz.pinned (.plain (OpenSpec.ofChange storeFindsSpec)) storeFindsCard

/-- THE TIED CARD OF 'ligaturelaw11.StoreEnds'. -/
def storeEndsCard : Claim7 := { stood := { row := storeEndsRow, standIns := [], harness := (true, "72ad10b043d475b4f1c4b673b8cdf42ef13fcb291dbf76efefbd39158a38bedd"), looks := false }, kinds := [], alts := [], laidByText := true, laidKinds := [.data, .pinned], laidTests := true, laidLooks := .later }
def StoreEndsCardSaid : Prop := Claim7.holds Tryz.pinned (.plain (OpenSpec.ofChange storeEndsSpec)) storeEndsCard

/-- THE SECOND FORM's CARD OF 'ligaturelaw11.StoreApart'. -/
def storeApartUptoCard : Claim7 := { stood := { row := storeApartUptoRow, standIns := [], harness := (true, "72ad10b043d475b4f1c4b673b8cdf42ef13fcb291dbf76efefbd39158a38bedd"), looks := false }, kinds := [], alts := [], laidByText := true, laidKinds := [.data, .pinned], laidTests := true, laidLooks := .later }
def StoreApartUptoCardSaid : Prop := Claim7.holds Tryz.pinned (.plain (OpenSpec.upto storeApartSpec)) storeApartUptoCard

/-- THE SECOND FORM's CARD OF 'ligaturelaw11.StoreJoined'. -/
def storeJoinedUptoCard : Claim7 := { stood := { row := storeJoinedUptoRow, standIns := [], harness := (true, "72ad10b043d475b4f1c4b673b8cdf42ef13fcb291dbf76efefbd39158a38bedd"), looks := false }, kinds := [], alts := [], laidByText := true, laidKinds := [.data, .pinned], laidTests := true, laidLooks := .later }
def StoreJoinedUptoCardSaid : Prop := Claim7.holds Tryz.pinned (.plain (OpenSpec.upto storeJoinedSpec)) storeJoinedUptoCard

/-- THE SECOND FORM's CARD OF 'ligaturelaw11.StoreStays'. -/
def storeStaysUptoCard : Claim7 := { stood := { row := storeStaysUptoRow, standIns := [], harness := (true, "72ad10b043d475b4f1c4b673b8cdf42ef13fcb291dbf76efefbd39158a38bedd"), looks := false }, kinds := [], alts := [], laidByText := true, laidKinds := [.data, .pinned], laidTests := true, laidLooks := .later }
def StoreStaysUptoCardSaid : Prop := Claim7.holds Tryz.pinned (.plain (OpenSpec.upto storeStaysSpec)) storeStaysUptoCard

/-- THE SECOND FORM's CARD OF 'ligaturelaw11.StorePlays'. -/
def storePlaysUptoCard : Claim7 := { stood := { row := storePlaysUptoRow, standIns := [], harness := (true, "72ad10b043d475b4f1c4b673b8cdf42ef13fcb291dbf76efefbd39158a38bedd"), looks := false }, kinds := [], alts := [], laidByText := true, laidKinds := [.data, .pinned], laidTests := true, laidLooks := .later }
def StorePlaysUptoCardSaid : Prop := Claim7.holds Tryz.pinned (.plain (OpenSpec.upto storePlaysSpec)) storePlaysUptoCard

/-- THE SECOND FORM's CARD OF 'ligaturelaw11.StoreFinds'. -/
def storeFindsUptoCard : Claim7 := { stood := { row := storeFindsUptoRow, standIns := [], harness := (true, "72ad10b043d475b4f1c4b673b8cdf42ef13fcb291dbf76efefbd39158a38bedd"), looks := false }, kinds := [], alts := [], laidByText := true, laidKinds := [.data, .pinned], laidTests := true, laidLooks := .later }
def StoreFindsUptoCardSaid : Prop := Claim7.holds Tryz.pinned (.plain (OpenSpec.upto storeFindsSpec)) storeFindsUptoCard

/-- THE SECOND FORM's CARD OF 'ligaturelaw11.StoreEnds'. -/
def storeEndsUptoCard : Claim7 := { stood := { row := storeEndsUptoRow, standIns := [], harness := (true, "72ad10b043d475b4f1c4b673b8cdf42ef13fcb291dbf76efefbd39158a38bedd"), looks := false }, kinds := [], alts := [], laidByText := true, laidKinds := [.data, .pinned], laidTests := true, laidLooks := .later }
def StoreEndsUptoCardSaid : Prop := Claim7.holds Tryz.pinned (.plain (OpenSpec.upto storeEndsSpec)) storeEndsUptoCard
end Rows
end Go.Proofs.YtibfpkfpmkghhaaGreatDoor
