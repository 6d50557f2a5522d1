/-
  DERIVED. GIVEN WITH THE SEED: THE CARDS: each row of YthadcdoepoglkaaGreatDoorRows.lean that lists a variable, with what it lists TIED to the program's text (the seventh form; the later family's looks); each row that meets fmt, with fmt's text TOLD by the authors' own Lean function (tested against real Go, not proved from fmt's source: count such statements apart). THE CARD IS WHAT COUNTS. Prove the row's statement (the work); the ties are given (YthadcdoepoglkaaGreatDoorTie.lean); close each card by the builder's one call (the guide's Derived/Test/ToyasCard.lean, 'card_holds'). Laid BY PROGRAM, IN A SANDBOX (cutbox-door.mjs). By AI agents, Wed Nov 11 2026. No macro, syntax, notation, axiom, sorry.
-/
import Derived.Test.YthadcdoepoglkaaGreatDoorRows
import GoSem.ClaimSeven
namespace Go.Proofs.YthadcdoepoglkaaGreatDoor
namespace Rows

/-- THE TIED CARD OF 'ligaturelaw16.AuditLeast'. -/
def auditLeastCard : Claim7 := { stood := { row := auditLeastRow, standIns := [], harness := (true, "e869f6bd2eda8d4846b85248a323fb98ca00c50528b1c8f901663cd24a2cae0c"), looks := false }, kinds := [], alts := [], laidByText := true, laidKinds := [.data, .pinned], laidTests := true, laidLooks := .later }
def AuditLeastCardSaid : Prop := Claim7.holds Tryz.pinned (.plain (OpenSpec.ofChange auditLeastSpec)) auditLeastCard

/-- THE TIED CARD OF 'ligaturelaw16.AuditAborts'. -/
def auditAbortsCard : Claim7 := { stood := { row := auditAbortsRow, standIns := [], harness := (true, "e869f6bd2eda8d4846b85248a323fb98ca00c50528b1c8f901663cd24a2cae0c"), looks := false }, kinds := [], alts := [], laidByText := true, laidKinds := [.data, .pinned], laidTests := true, laidLooks := .later }
def AuditAbortsCardSaid : Prop := Claim7.holds Tryz.pinned (.plain (OpenSpec.ofChange auditAbortsSpec)) auditAbortsCard

/-- THE TIED CARD OF 'ligaturelaw13.MatchOne'. -/
def matchOneCard : Claim7 := { stood := { row := matchOneRow, standIns := [], harness := (true, "e869f6bd2eda8d4846b85248a323fb98ca00c50528b1c8f901663cd24a2cae0c"), looks := false }, kinds := [], alts := [], laidByText := true, laidKinds := [.data, .pinned], laidTests := true, laidLooks := .later }
def MatchOneCardSaid : Prop := Claim7.holds Tryz.pinned (.plain (OpenSpec.ofChange matchOneSpec)) matchOneCard

/-- THE TIED CARD OF 'ligaturelaw13.MatchFull'. -/
def matchFullCard : Claim7 := { stood := { row := matchFullRow, standIns := [], harness := (true, "e869f6bd2eda8d4846b85248a323fb98ca00c50528b1c8f901663cd24a2cae0c"), looks := false }, kinds := [], alts := [], laidByText := true, laidKinds := [.data, .pinned], laidTests := true, laidLooks := .later }
def MatchFullCardSaid : Prop := Claim7.holds Tryz.pinned (.plain (OpenSpec.ofChange matchFullSpec)) matchFullCard

/-- THE TIED CARD OF 'ligaturelaw13.MatchRounds'. -/
def matchRoundsCard : Claim7 := { stood := { row := matchRoundsRow, standIns := [], harness := (true, "e869f6bd2eda8d4846b85248a323fb98ca00c50528b1c8f901663cd24a2cae0c"), looks := false }, kinds := [], alts := [], laidByText := true, laidKinds := [.data, .pinned], laidTests := true, laidLooks := .later }
def MatchRoundsCardSaid : Prop := Claim7.holds Tryz.pinned (.plain (OpenSpec.ofChange matchRoundsSpec)) matchRoundsCard

/-- THE TIED CARD OF 'ligaturelaw13.MatchLoops'. -/
def matchLoopsCard : Claim7 := { stood := { row := matchLoopsRow, standIns := [], harness := (true, "e869f6bd2eda8d4846b85248a323fb98ca00c50528b1c8f901663cd24a2cae0c"), looks := false }, kinds := [], alts := [], laidByText := true, laidKinds := [.data, .pinned], laidTests := true, laidLooks := .later }
def MatchLoopsCardSaid : Prop := Claim7.holds Tryz.pinned (.plain (OpenSpec.ofChange matchLoopsSpec)) matchLoopsCard

/-- THE TIED CARD OF 'ligaturelaw13.MatchOwn'. -/
def matchOwnCard : Claim7 := { stood := { row := matchOwnRow, standIns := [], harness := (true, "e869f6bd2eda8d4846b85248a323fb98ca00c50528b1c8f901663cd24a2cae0c"), looks := false }, kinds := [], alts := [], laidByText := true, laidKinds := [.data, .pinned], laidTests := true, laidLooks := .later }
def MatchOwnCardSaid : Prop := Claim7.holds Tryz.pinned (.plain (OpenSpec.ofChange matchOwnSpec)) matchOwnCard

/-- THE SECOND FORM's CARD OF 'ligaturelaw16.AuditLeast'. -/
def auditLeastUptoCard : Claim7 := { stood := { row := auditLeastUptoRow, standIns := [], harness := (true, "e869f6bd2eda8d4846b85248a323fb98ca00c50528b1c8f901663cd24a2cae0c"), looks := false }, kinds := [], alts := [], laidByText := true, laidKinds := [.data, .pinned], laidTests := true, laidLooks := .later }
def AuditLeastUptoCardSaid : Prop := Claim7.holds Tryz.pinned (.plain (OpenSpec.upto auditLeastSpec)) auditLeastUptoCard

/-- THE SECOND FORM's CARD OF 'ligaturelaw16.AuditAborts'. -/
def auditAbortsUptoCard : Claim7 := { stood := { row := auditAbortsUptoRow, standIns := [], harness := (true, "e869f6bd2eda8d4846b85248a323fb98ca00c50528b1c8f901663cd24a2cae0c"), looks := false }, kinds := [], alts := [], laidByText := true, laidKinds := [.data, .pinned], laidTests := true, laidLooks := .later }
def AuditAbortsUptoCardSaid : Prop := Claim7.holds Tryz.pinned (.plain (OpenSpec.upto auditAbortsSpec)) auditAbortsUptoCard

/-- THE SECOND FORM's CARD OF 'ligaturelaw13.MatchOne'. -/
def matchOneUptoCard : Claim7 := { stood := { row := matchOneUptoRow, standIns := [], harness := (true, "e869f6bd2eda8d4846b85248a323fb98ca00c50528b1c8f901663cd24a2cae0c"), looks := false }, kinds := [], alts := [], laidByText := true, laidKinds := [.data, .pinned], laidTests := true, laidLooks := .later }
def MatchOneUptoCardSaid : Prop := Claim7.holds Tryz.pinned (.plain (OpenSpec.upto matchOneSpec)) matchOneUptoCard

/-- THE SECOND FORM's CARD OF 'ligaturelaw13.MatchFull'. -/
def matchFullUptoCard : Claim7 := { stood := { row := matchFullUptoRow, standIns := [], harness := (true, "e869f6bd2eda8d4846b85248a323fb98ca00c50528b1c8f901663cd24a2cae0c"), looks := false }, kinds := [], alts := [], laidByText := true, laidKinds := [.data, .pinned], laidTests := true, laidLooks := .later }
def MatchFullUptoCardSaid : Prop := Claim7.holds Tryz.pinned (.plain (OpenSpec.upto matchFullSpec)) matchFullUptoCard

/-- THE SECOND FORM's CARD OF 'ligaturelaw13.MatchRounds'. -/
def matchRoundsUptoCard : Claim7 := { stood := { row := matchRoundsUptoRow, standIns := [], harness := (true, "e869f6bd2eda8d4846b85248a323fb98ca00c50528b1c8f901663cd24a2cae0c"), looks := false }, kinds := [], alts := [], laidByText := true, laidKinds := [.data, .pinned], laidTests := true, laidLooks := .later }
def MatchRoundsUptoCardSaid : Prop := Claim7.holds Tryz.pinned (.plain (OpenSpec.upto matchRoundsSpec)) matchRoundsUptoCard

/-- THE SECOND FORM's CARD OF 'ligaturelaw13.MatchLoops'. -/
def matchLoopsUptoCard : Claim7 := { stood := { row := matchLoopsUptoRow, standIns := [], harness := (true, "e869f6bd2eda8d4846b85248a323fb98ca00c50528b1c8f901663cd24a2cae0c"), looks := false }, kinds := [], alts := [], laidByText := true, laidKinds := [.data, .pinned], laidTests := true, laidLooks := .later }
def MatchLoopsUptoCardSaid : Prop := Claim7.holds Tryz.pinned (.plain (OpenSpec.upto matchLoopsSpec)) matchLoopsUptoCard

/-- THE SECOND FORM's CARD OF 'ligaturelaw13.MatchOwn'. -/
def matchOwnUptoCard : Claim7 := { stood := { row := matchOwnUptoRow, standIns := [], harness := (true, "e869f6bd2eda8d4846b85248a323fb98ca00c50528b1c8f901663cd24a2cae0c"), looks := false }, kinds := [], alts := [], laidByText := true, laidKinds := [.data, .pinned], laidTests := true, laidLooks := .later }
def MatchOwnUptoCardSaid : Prop := Claim7.holds Tryz.pinned (.plain (OpenSpec.upto matchOwnSpec)) matchOwnUptoCard
end Rows
end Go.Proofs.YthadcdoepoglkaaGreatDoor
