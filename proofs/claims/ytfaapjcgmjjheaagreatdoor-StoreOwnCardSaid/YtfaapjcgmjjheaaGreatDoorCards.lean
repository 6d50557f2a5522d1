/-
  DERIVED. GIVEN WITH THE SEED: THE CARDS: each row of YtfaapjcgmjjheaaGreatDoorRows.lean that lists a variable, with what it lists TIED to the program's text (the seventh form; the later family's looks); each row that meets fmt, with fmt's text TOLD by the authors' own Lean function (tested against real Go, not proved from fmt's source: count such statements apart). THE CARD IS WHAT COUNTS. Prove the row's statement (the work); the ties are given (YtfaapjcgmjjheaaGreatDoorTie.lean); close each card by the builder's one call (the guide's Derived/Test/ToyasCard.lean, 'card_holds'). Laid BY PROGRAM, IN A SANDBOX (cutbox-door.mjs). By AI agents, Wed Nov 11 2026. No macro, syntax, notation, axiom, sorry.
-/
import Derived.Test.YtfaapjcgmjjheaaGreatDoorRows
import GoSem.ClaimSeven
namespace Go.Proofs.YtfaapjcgmjjheaaGreatDoor
namespace Rows

/-- THE TIED CARD OF 'ligaturelaw11.StoreHeld'. -/
def storeHeldCard : Claim7 := { stood := { row := storeHeldRow, standIns := [], harness := (true, "9061f02c71141c27d423fdde556ac05122603db56e443672f7f25a4246094ec7"), looks := false }, kinds := [], alts := [], laidByText := true, laidKinds := [.data, .pinned], laidTests := true, laidLooks := .later }
def StoreHeldCardSaid : Prop := Claim7.holds Tryz.pinned (.plain (OpenSpec.ofChange storeHeldSpec)) storeHeldCard

/-- THE TIED CARD OF 'ligaturelaw11.StoreOwn'. -/
def storeOwnCard : Claim7 := { stood := { row := storeOwnRow, standIns := [], harness := (true, "9061f02c71141c27d423fdde556ac05122603db56e443672f7f25a4246094ec7"), looks := false }, kinds := [], alts := [], laidByText := true, laidKinds := [.data, .pinned], laidTests := true, laidLooks := .later }
def StoreOwnCardSaid : Prop := Claim7.holds Tryz.pinned (.plain (OpenSpec.ofChange storeOwnSpec)) storeOwnCard

/-- THE TIED CARD OF 'ligaturelaw11.StoreApart'. -/
def storeApartCard : Claim7 := { stood := { row := storeApartRow, standIns := [], harness := (true, "9061f02c71141c27d423fdde556ac05122603db56e443672f7f25a4246094ec7"), looks := false }, kinds := [], alts := [], laidByText := true, laidKinds := [.data, .pinned], laidTests := true, laidLooks := .later }
def StoreApartCardSaid : Prop := Claim7.holds Tryz.pinned (.plain (OpenSpec.ofChange storeApartSpec)) storeApartCard

/-- THE TIED CARD OF 'ligaturelaw11.StoreTouches'. -/
def storeTouchesCard : Claim7 := { stood := { row := storeTouchesRow, standIns := [], harness := (true, "9061f02c71141c27d423fdde556ac05122603db56e443672f7f25a4246094ec7"), looks := false }, kinds := [], alts := [], laidByText := true, laidKinds := [.data, .pinned], laidTests := true, laidLooks := .later }
def StoreTouchesCardSaid : Prop := Claim7.holds Tryz.pinned (.plain (OpenSpec.ofChange storeTouchesSpec)) storeTouchesCard

/-- THE TIED CARD OF 'ligaturelaw11.StoreJoined'. -/
def storeJoinedCard : Claim7 := { stood := { row := storeJoinedRow, standIns := [], harness := (true, "9061f02c71141c27d423fdde556ac05122603db56e443672f7f25a4246094ec7"), looks := false }, kinds := [], alts := [], laidByText := true, laidKinds := [.data, .pinned], laidTests := true, laidLooks := .later }
def StoreJoinedCardSaid : Prop := Claim7.holds Tryz.pinned (.plain (OpenSpec.ofChange storeJoinedSpec)) storeJoinedCard

/-- THE TIED CARD OF 'ligaturelaw11.StoreStays'. -/
def storeStaysCard : Claim7 := { stood := { row := storeStaysRow, standIns := [], harness := (true, "9061f02c71141c27d423fdde556ac05122603db56e443672f7f25a4246094ec7"), looks := false }, kinds := [], alts := [], laidByText := true, laidKinds := [.data, .pinned], laidTests := true, laidLooks := .later }
def StoreStaysCardSaid : Prop := Claim7.holds Tryz.pinned (.plain (OpenSpec.ofChange storeStaysSpec)) storeStaysCard

/-- THE SECOND FORM's CARD OF 'ligaturelaw11.StoreHeld'. -/
def storeHeldUptoCard : Claim7 := { stood := { row := storeHeldUptoRow, standIns := [], harness := (true, "9061f02c71141c27d423fdde556ac05122603db56e443672f7f25a4246094ec7"), looks := false }, kinds := [], alts := [], laidByText := true, laidKinds := [.data, .pinned], laidTests := true, laidLooks := .later }
def StoreHeldUptoCardSaid : Prop := Claim7.holds Tryz.pinned (.plain (OpenSpec.upto storeHeldSpec)) storeHeldUptoCard

/-- THE SECOND FORM's CARD OF 'ligaturelaw11.StoreOwn'. -/
def storeOwnUptoCard : Claim7 := { stood := { row := storeOwnUptoRow, standIns := [], harness := (true, "9061f02c71141c27d423fdde556ac05122603db56e443672f7f25a4246094ec7"), looks := false }, kinds := [], alts := [], laidByText := true, laidKinds := [.data, .pinned], laidTests := true, laidLooks := .later }
def StoreOwnUptoCardSaid : Prop := Claim7.holds Tryz.pinned (.plain (OpenSpec.upto storeOwnSpec)) storeOwnUptoCard

/-- THE SECOND FORM's CARD OF 'ligaturelaw11.StoreApart'. -/
def storeApartUptoCard : Claim7 := { stood := { row := storeApartUptoRow, standIns := [], harness := (true, "9061f02c71141c27d423fdde556ac05122603db56e443672f7f25a4246094ec7"), looks := false }, kinds := [], alts := [], laidByText := true, laidKinds := [.data, .pinned], laidTests := true, laidLooks := .later }
def StoreApartUptoCardSaid : Prop := Claim7.holds Tryz.pinned (.plain (OpenSpec.upto storeApartSpec)) storeApartUptoCard

/-- THE SECOND FORM's CARD OF 'ligaturelaw11.StoreTouches'. -/
def storeTouchesUptoCard : Claim7 := { stood := { row := storeTouchesUptoRow, standIns := [], harness := (true, "9061f02c71141c27d423fdde556ac05122603db56e443672f7f25a4246094ec7"), looks := false }, kinds := [], alts := [], laidByText := true, laidKinds := [.data, .pinned], laidTests := true, laidLooks := .later }
def StoreTouchesUptoCardSaid : Prop := Claim7.holds Tryz.pinned (.plain (OpenSpec.upto storeTouchesSpec)) storeTouchesUptoCard

/-- THE SECOND FORM's CARD OF 'ligaturelaw11.StoreJoined'. -/
def storeJoinedUptoCard : Claim7 := { stood := { row := storeJoinedUptoRow, standIns := [], harness := (true, "9061f02c71141c27d423fdde556ac05122603db56e443672f7f25a4246094ec7"), looks := false }, kinds := [], alts := [], laidByText := true, laidKinds := [.data, .pinned], laidTests := true, laidLooks := .later }
def StoreJoinedUptoCardSaid : Prop := Claim7.holds Tryz.pinned (.plain (OpenSpec.upto storeJoinedSpec)) storeJoinedUptoCard

/-- THE SECOND FORM's CARD OF 'ligaturelaw11.StoreStays'. -/
def storeStaysUptoCard : Claim7 := { stood := { row := storeStaysUptoRow, standIns := [], harness := (true, "9061f02c71141c27d423fdde556ac05122603db56e443672f7f25a4246094ec7"), looks := false }, kinds := [], alts := [], laidByText := true, laidKinds := [.data, .pinned], laidTests := true, laidLooks := .later }
def StoreStaysUptoCardSaid : Prop := Claim7.holds Tryz.pinned (.plain (OpenSpec.upto storeStaysSpec)) storeStaysUptoCard
end Rows
end Go.Proofs.YtfaapjcgmjjheaaGreatDoor
