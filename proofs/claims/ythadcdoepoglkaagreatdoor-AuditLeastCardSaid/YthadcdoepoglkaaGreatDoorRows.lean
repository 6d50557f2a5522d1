/-
  NARROWER THAN 'FOR EVERY INPUT', by the rows' own cells (each row's printed sentence says how): AuditLeast: laid · AuditAborts: laid · MatchOne: laid · MatchFull: laid · MatchRounds: laid · MatchLoops: laid · MatchOwn: laid.
  DERIVED. THE GIVEN ROWS OF THIS SEAT. 7 by the template 'for every input the law returns true; each argument reads behind the call as it read before'; 0 by the template 'total and deterministic' (their statements: YthadcdoepoglkaaGreatDoorTotals.lean).
  GIVEN WITH THE SEED: the statements are not yours to turn. If you find one false, say at which input.
  Laid BY PROGRAM, IN A SANDBOX (cutbox-rows.mjs): the forced cells as the released guide's own fill.sh prints them over the translation c78f660b56ec61bb… (all of the seat's roots in one cut). By AI agents, Wed Nov 11 2026. No macro, syntax, notation, axiom, sorry.
-/
import Derived.Test.YthadcdoepoglkaaGreatDoorChecked
import GoSem.PinnedTables
import GoSem.Claim
import GoSem.ClaimJoined
import GoSem.ClaimMapViews
import Derived.JoinedTies
import Derived.KernelRfl
namespace Go.Proofs.YthadcdoepoglkaaGreatDoor
/- THE CELL 'sum', in the pinned program and in every row, IS THE sha256 OF THE DUMP (.gsa) THAT YthadcdoepoglkaaGreatDoorProg.lean LOADS. Nothing in Lean hashes anything: it is a label: what it is worth is what the hold of that sum in a sandbox is worth. -/
noncomputable def Tryz.pinned : Pinned := { name := "ythadcdoepoglkaagreatdoor", sum := "c78f660b56ec61bb4373ff3ec1dbcfc81c7f6b2d1f9e2f6b623a3d5a65a09df1", checked := Tryz.checked }
namespace Rows
def none {H : Type} : Left H := { results := [], args := [] }

/- WHAT THE LISTED PACKAGE-LEVEL VARIABLES READ AS WHEN THE CALL BEGINS. Each datum BY PROGRAM (the guide's laid-datum.mjs) off the statement by which the dump's own 'gosem.cut.vars' lays the variable. In a bare row this is a premise. The card (YthadcdoepoglkaaGreatDoorCards.lean) ties it to the program's text. -/
def laid_unicode_utf8_acceptRanges {H : Type} : DataW H := .agg [.agg [.lit (.int .u8 128), .lit (.int .u8 191)], .agg [.lit (.int .u8 160), .lit (.int .u8 191)], .agg [.lit (.int .u8 128), .lit (.int .u8 159)], .agg [.lit (.int .u8 144), .lit (.int .u8 191)], .agg [.lit (.int .u8 128), .lit (.int .u8 143)], .agg [.lit (.int .u8 0), .lit (.int .u8 0)], .agg [.lit (.int .u8 0), .lit (.int .u8 0)], .agg [.lit (.int .u8 0), .lit (.int .u8 0)], .agg [.lit (.int .u8 0), .lit (.int .u8 0)], .agg [.lit (.int .u8 0), .lit (.int .u8 0)], .agg [.lit (.int .u8 0), .lit (.int .u8 0)], .agg [.lit (.int .u8 0), .lit (.int .u8 0)], .agg [.lit (.int .u8 0), .lit (.int .u8 0)], .agg [.lit (.int .u8 0), .lit (.int .u8 0)], .agg [.lit (.int .u8 0), .lit (.int .u8 0)], .agg [.lit (.int .u8 0), .lit (.int .u8 0)]]
/-- One of Go's own tables, pinned by name: the form's constant. -/
def laid_unicode_utf8_first : DataW Unit := Go.Pinned.utf8First

/-- 'ligaturelaw16.AuditLeast': WHATEVER THE INPUT: true; the input reads as it did. -/
def auditLeastSpec : ChangeSpec := { name := "auditLeast", fn := fun _ => fun
  | [d1, d2] => { results := [.lit (.bool true)], args := [d1, d2] }
  | _ => none }
def auditLeastRow : OpenClaim := { program := "ythadcdoepoglkaagreatdoor", sum := "c78f660b56ec61bb4373ff3ec1dbcfc81c7f6b2d1f9e2f6b623a3d5a65a09df1", func := "ligature/ligaturelaw16.AuditLeast", spec := "auditLeast", inPlace := ["math.Float64bits", "math.Float64frombits", "internal/bytealg.IndexByteString", "internal/bytealg.IndexString", "slices.overlaps[ligature/api.Entry]"], unfollowed := true, recurses := true, named := ["unicode/utf8.first", "unicode/utf8.acceptRanges", "internal/bytealg.MaxLen"], apart := false, laid := [("unicode/utf8.acceptRanges", laid_unicode_utf8_acceptRanges), ("unicode/utf8.first", laid_unicode_utf8_first)] }
def AuditLeastSaid : Prop := auditLeastRow.holds Tryz.pinned (OpenSpec.ofChange auditLeastSpec)

/-- ITS FALSE NEIGHBOUR: 'it returns false'. Refute it at one input. -/
def auditLeastWrong : ChangeSpec := { name := "auditLeast", fn := fun _ => fun
  | [d1, d2] => { results := [.lit (.bool false)], args := [d1, d2] }
  | _ => none }
def AuditLeastWrongFalsely : Prop := auditLeastRow.holds Tryz.pinned (OpenSpec.ofChange auditLeastWrong)

/-- 'ligaturelaw16.AuditAborts': WHATEVER THE INPUT: true; the input reads as it did. -/
def auditAbortsSpec : ChangeSpec := { name := "auditAborts", fn := fun _ => fun
  | [d1, d2, d3] => { results := [.lit (.bool true)], args := [d1, d2, d3] }
  | _ => none }
def auditAbortsRow : OpenClaim := { program := "ythadcdoepoglkaagreatdoor", sum := "c78f660b56ec61bb4373ff3ec1dbcfc81c7f6b2d1f9e2f6b623a3d5a65a09df1", func := "ligature/ligaturelaw16.AuditAborts", spec := "auditAborts", inPlace := ["math.Float64bits", "math.Float64frombits", "internal/bytealg.IndexByteString", "internal/bytealg.IndexString", "slices.overlaps[ligature/api.Entry]"], unfollowed := true, recurses := true, named := ["unicode/utf8.first", "unicode/utf8.acceptRanges", "internal/bytealg.MaxLen"], apart := false, laid := [("unicode/utf8.acceptRanges", laid_unicode_utf8_acceptRanges), ("unicode/utf8.first", laid_unicode_utf8_first)] }
def AuditAbortsSaid : Prop := auditAbortsRow.holds Tryz.pinned (OpenSpec.ofChange auditAbortsSpec)

/-- ITS FALSE NEIGHBOUR: 'it returns false'. Refute it at one input. -/
def auditAbortsWrong : ChangeSpec := { name := "auditAborts", fn := fun _ => fun
  | [d1, d2, d3] => { results := [.lit (.bool false)], args := [d1, d2, d3] }
  | _ => none }
def AuditAbortsWrongFalsely : Prop := auditAbortsRow.holds Tryz.pinned (OpenSpec.ofChange auditAbortsWrong)

/-- 'ligaturelaw13.MatchOne': WHATEVER THE INPUT: true; the input reads as it did. -/
def matchOneSpec : ChangeSpec := { name := "matchOne", fn := fun _ => fun
  | [d] => { results := [.lit (.bool true)], args := [d] }
  | _ => none }
def matchOneRow : OpenClaim := { program := "ythadcdoepoglkaagreatdoor", sum := "c78f660b56ec61bb4373ff3ec1dbcfc81c7f6b2d1f9e2f6b623a3d5a65a09df1", func := "ligature/ligaturelaw13.MatchOne", spec := "matchOne", inPlace := ["math.Float64bits", "math.Float64frombits", "internal/bytealg.IndexByteString", "internal/bytealg.IndexString", "slices.overlaps[ligature/api.Entry]"], unfollowed := true, recurses := true, named := ["unicode/utf8.first", "unicode/utf8.acceptRanges", "internal/bytealg.MaxLen"], apart := false, laid := [("unicode/utf8.acceptRanges", laid_unicode_utf8_acceptRanges), ("unicode/utf8.first", laid_unicode_utf8_first)] }
def MatchOneSaid : Prop := matchOneRow.holds Tryz.pinned (OpenSpec.ofChange matchOneSpec)

/-- ITS FALSE NEIGHBOUR: 'it returns false'. Refute it at one input. -/
def matchOneWrong : ChangeSpec := { name := "matchOne", fn := fun _ => fun
  | [d] => { results := [.lit (.bool false)], args := [d] }
  | _ => none }
def MatchOneWrongFalsely : Prop := matchOneRow.holds Tryz.pinned (OpenSpec.ofChange matchOneWrong)

/-- 'ligaturelaw13.MatchFull': WHATEVER THE INPUT: true; the input reads as it did. -/
def matchFullSpec : ChangeSpec := { name := "matchFull", fn := fun _ => fun
  | [d1, d2] => { results := [.lit (.bool true)], args := [d1, d2] }
  | _ => none }
def matchFullRow : OpenClaim := { program := "ythadcdoepoglkaagreatdoor", sum := "c78f660b56ec61bb4373ff3ec1dbcfc81c7f6b2d1f9e2f6b623a3d5a65a09df1", func := "ligature/ligaturelaw13.MatchFull", spec := "matchFull", inPlace := ["math.Float64bits", "math.Float64frombits", "internal/bytealg.IndexByteString", "internal/bytealg.IndexString", "slices.overlaps[ligature/api.Entry]"], unfollowed := true, recurses := true, named := ["unicode/utf8.first", "unicode/utf8.acceptRanges", "internal/bytealg.MaxLen"], apart := false, laid := [("unicode/utf8.acceptRanges", laid_unicode_utf8_acceptRanges), ("unicode/utf8.first", laid_unicode_utf8_first)] }
def MatchFullSaid : Prop := matchFullRow.holds Tryz.pinned (OpenSpec.ofChange matchFullSpec)

/-- ITS FALSE NEIGHBOUR: 'it returns false'. Refute it at one input. -/
def matchFullWrong : ChangeSpec := { name := "matchFull", fn := fun _ => fun
  | [d1, d2] => { results := [.lit (.bool false)], args := [d1, d2] }
  | _ => none }
def MatchFullWrongFalsely : Prop := matchFullRow.holds Tryz.pinned (OpenSpec.ofChange matchFullWrong)

/-- 'ligaturelaw13.MatchRounds': WHATEVER THE INPUT: true; the input reads as it did. -/
def matchRoundsSpec : ChangeSpec := { name := "matchRounds", fn := fun _ => fun
  | [d1, d2] => { results := [.lit (.bool true)], args := [d1, d2] }
  | _ => none }
def matchRoundsRow : OpenClaim := { program := "ythadcdoepoglkaagreatdoor", sum := "c78f660b56ec61bb4373ff3ec1dbcfc81c7f6b2d1f9e2f6b623a3d5a65a09df1", func := "ligature/ligaturelaw13.MatchRounds", spec := "matchRounds", inPlace := ["math.Float64bits", "math.Float64frombits", "internal/bytealg.IndexByteString", "internal/bytealg.IndexString", "slices.overlaps[ligature/api.Entry]"], unfollowed := true, recurses := true, named := ["unicode/utf8.first", "unicode/utf8.acceptRanges", "internal/bytealg.MaxLen"], apart := false, laid := [("unicode/utf8.acceptRanges", laid_unicode_utf8_acceptRanges), ("unicode/utf8.first", laid_unicode_utf8_first)] }
def MatchRoundsSaid : Prop := matchRoundsRow.holds Tryz.pinned (OpenSpec.ofChange matchRoundsSpec)

/-- ITS FALSE NEIGHBOUR: 'it returns false'. Refute it at one input. -/
def matchRoundsWrong : ChangeSpec := { name := "matchRounds", fn := fun _ => fun
  | [d1, d2] => { results := [.lit (.bool false)], args := [d1, d2] }
  | _ => none }
def MatchRoundsWrongFalsely : Prop := matchRoundsRow.holds Tryz.pinned (OpenSpec.ofChange matchRoundsWrong)

/-- 'ligaturelaw13.MatchLoops': WHATEVER THE INPUT: true; the input reads as it did. -/
def matchLoopsSpec : ChangeSpec := { name := "matchLoops", fn := fun _ => fun
  | [d1, d2] => { results := [.lit (.bool true)], args := [d1, d2] }
  | _ => none }
def matchLoopsRow : OpenClaim := { program := "ythadcdoepoglkaagreatdoor", sum := "c78f660b56ec61bb4373ff3ec1dbcfc81c7f6b2d1f9e2f6b623a3d5a65a09df1", func := "ligature/ligaturelaw13.MatchLoops", spec := "matchLoops", inPlace := ["math.Float64bits", "math.Float64frombits", "internal/bytealg.IndexByteString", "internal/bytealg.IndexString", "slices.overlaps[ligature/api.Entry]"], unfollowed := true, recurses := true, named := ["unicode/utf8.first", "unicode/utf8.acceptRanges", "internal/bytealg.MaxLen"], apart := false, laid := [("unicode/utf8.acceptRanges", laid_unicode_utf8_acceptRanges), ("unicode/utf8.first", laid_unicode_utf8_first)] }
def MatchLoopsSaid : Prop := matchLoopsRow.holds Tryz.pinned (OpenSpec.ofChange matchLoopsSpec)

/-- ITS FALSE NEIGHBOUR: 'it returns false'. Refute it at one input. -/
def matchLoopsWrong : ChangeSpec := { name := "matchLoops", fn := fun _ => fun
  | [d1, d2] => { results := [.lit (.bool false)], args := [d1, d2] }
  | _ => none }
def MatchLoopsWrongFalsely : Prop := matchLoopsRow.holds Tryz.pinned (OpenSpec.ofChange matchLoopsWrong)

/-- 'ligaturelaw13.MatchOwn': WHATEVER THE INPUT: true; the input reads as it did. -/
def matchOwnSpec : ChangeSpec := { name := "matchOwn", fn := fun _ => fun
  | [d1, d2] => { results := [.lit (.bool true)], args := [d1, d2] }
  | _ => none }
def matchOwnRow : OpenClaim := { program := "ythadcdoepoglkaagreatdoor", sum := "c78f660b56ec61bb4373ff3ec1dbcfc81c7f6b2d1f9e2f6b623a3d5a65a09df1", func := "ligature/ligaturelaw13.MatchOwn", spec := "matchOwn", inPlace := ["math.Float64bits", "math.Float64frombits", "internal/bytealg.IndexByteString", "internal/bytealg.IndexString", "slices.overlaps[ligature/api.Entry]"], unfollowed := true, recurses := true, named := ["unicode/utf8.first", "unicode/utf8.acceptRanges", "internal/bytealg.MaxLen"], apart := false, laid := [("unicode/utf8.acceptRanges", laid_unicode_utf8_acceptRanges), ("unicode/utf8.first", laid_unicode_utf8_first)] }
def MatchOwnSaid : Prop := matchOwnRow.holds Tryz.pinned (OpenSpec.ofChange matchOwnSpec)

/-- ITS FALSE NEIGHBOUR: 'it returns false'. Refute it at one input. -/
def matchOwnWrong : ChangeSpec := { name := "matchOwn", fn := fun _ => fun
  | [d1, d2] => { results := [.lit (.bool false)], args := [d1, d2] }
  | _ => none }
def MatchOwnWrongFalsely : Prop := matchOwnRow.holds Tryz.pinned (OpenSpec.ofChange matchOwnWrong)

/- THE SECOND FORM. 'bulk': how many values and letters a reading holds, each counted each time it is reached (what is shared counts as often as it is met; a slice's spare places count too). A statement '..UptoSaid' is the law's where the arguments, and the package variables that the reading takes, are together of bulk at most 1048576: NARROWER than '..Said'. Prove '..Said' where nothing that the law and all that it calls make is longer than what came in: it says more and counts as full. Else prove '..UptoSaid'. A law counts once. -/
mutual
def uptoBulk {H : Type} : DataW H → Nat
  | .lit (.string bytes) => bytes.length + 1
  | .lit _ => 1
  | .nil => 1
  | .ptr d => uptoBulk d + 1
  | .slice elems spare => uptoBulkAll elems + uptoBulkAll spare + 1
  | .agg parts => uptoBulkAll parts + 1
  | .iface _ d => uptoBulk d + 1
  | .map entries => uptoBulkEntries entries + 1
  | .held _ => 1
def uptoBulkAll {H : Type} : List (DataW H) → Nat
  | [] => 0
  | d :: r => uptoBulk d + uptoBulkAll r
def uptoBulkEntries {H : Type} : List (Lit × DataW H) → Nat
  | [] => 0
  | x :: r => uptoBulkEntry x + uptoBulkEntries r
def uptoBulkEntry {H : Type} : Lit × DataW H → Nat
  | (.string bytes, d) => bytes.length + uptoBulk d + 1
  | (_, d) => uptoBulk d + 1
 end
def uptoSmall : (H : Type) → List (DataW H) → Bool := fun _ ds => decide (uptoBulkAll ds ≤ 1048576)
def OpenSpec.upto (s : _root_.Go.ChangeSpec) : _root_.Go.OpenSpec := { _root_.Go.OpenSpec.ofChange s with cond := some uptoSmall }

/-- 'ligaturelaw16.AuditLeast', WHERE WHAT IT READS IS OF BULK AT MOST 1048576: true; the input reads as it did. -/
def auditLeastUptoRow : OpenClaim := { program := "ythadcdoepoglkaagreatdoor", sum := "c78f660b56ec61bb4373ff3ec1dbcfc81c7f6b2d1f9e2f6b623a3d5a65a09df1", func := "ligature/ligaturelaw16.AuditLeast", spec := "auditLeast", inPlace := ["math.Float64bits", "math.Float64frombits", "internal/bytealg.IndexByteString", "internal/bytealg.IndexString", "slices.overlaps[ligature/api.Entry]"], unfollowed := true, recurses := true, named := ["unicode/utf8.first", "unicode/utf8.acceptRanges", "internal/bytealg.MaxLen"], apart := false, laid := [("unicode/utf8.acceptRanges", laid_unicode_utf8_acceptRanges), ("unicode/utf8.first", laid_unicode_utf8_first)], narrowed := true }
def AuditLeastUptoSaid : Prop := auditLeastUptoRow.holds Tryz.pinned (OpenSpec.upto auditLeastSpec)

/-- 'ligaturelaw16.AuditAborts', WHERE WHAT IT READS IS OF BULK AT MOST 1048576: true; the input reads as it did. -/
def auditAbortsUptoRow : OpenClaim := { program := "ythadcdoepoglkaagreatdoor", sum := "c78f660b56ec61bb4373ff3ec1dbcfc81c7f6b2d1f9e2f6b623a3d5a65a09df1", func := "ligature/ligaturelaw16.AuditAborts", spec := "auditAborts", inPlace := ["math.Float64bits", "math.Float64frombits", "internal/bytealg.IndexByteString", "internal/bytealg.IndexString", "slices.overlaps[ligature/api.Entry]"], unfollowed := true, recurses := true, named := ["unicode/utf8.first", "unicode/utf8.acceptRanges", "internal/bytealg.MaxLen"], apart := false, laid := [("unicode/utf8.acceptRanges", laid_unicode_utf8_acceptRanges), ("unicode/utf8.first", laid_unicode_utf8_first)], narrowed := true }
def AuditAbortsUptoSaid : Prop := auditAbortsUptoRow.holds Tryz.pinned (OpenSpec.upto auditAbortsSpec)

/-- 'ligaturelaw13.MatchOne', WHERE WHAT IT READS IS OF BULK AT MOST 1048576: true; the input reads as it did. -/
def matchOneUptoRow : OpenClaim := { program := "ythadcdoepoglkaagreatdoor", sum := "c78f660b56ec61bb4373ff3ec1dbcfc81c7f6b2d1f9e2f6b623a3d5a65a09df1", func := "ligature/ligaturelaw13.MatchOne", spec := "matchOne", inPlace := ["math.Float64bits", "math.Float64frombits", "internal/bytealg.IndexByteString", "internal/bytealg.IndexString", "slices.overlaps[ligature/api.Entry]"], unfollowed := true, recurses := true, named := ["unicode/utf8.first", "unicode/utf8.acceptRanges", "internal/bytealg.MaxLen"], apart := false, laid := [("unicode/utf8.acceptRanges", laid_unicode_utf8_acceptRanges), ("unicode/utf8.first", laid_unicode_utf8_first)], narrowed := true }
def MatchOneUptoSaid : Prop := matchOneUptoRow.holds Tryz.pinned (OpenSpec.upto matchOneSpec)

/-- 'ligaturelaw13.MatchFull', WHERE WHAT IT READS IS OF BULK AT MOST 1048576: true; the input reads as it did. -/
def matchFullUptoRow : OpenClaim := { program := "ythadcdoepoglkaagreatdoor", sum := "c78f660b56ec61bb4373ff3ec1dbcfc81c7f6b2d1f9e2f6b623a3d5a65a09df1", func := "ligature/ligaturelaw13.MatchFull", spec := "matchFull", inPlace := ["math.Float64bits", "math.Float64frombits", "internal/bytealg.IndexByteString", "internal/bytealg.IndexString", "slices.overlaps[ligature/api.Entry]"], unfollowed := true, recurses := true, named := ["unicode/utf8.first", "unicode/utf8.acceptRanges", "internal/bytealg.MaxLen"], apart := false, laid := [("unicode/utf8.acceptRanges", laid_unicode_utf8_acceptRanges), ("unicode/utf8.first", laid_unicode_utf8_first)], narrowed := true }
def MatchFullUptoSaid : Prop := matchFullUptoRow.holds Tryz.pinned (OpenSpec.upto matchFullSpec)

/-- 'ligaturelaw13.MatchRounds', WHERE WHAT IT READS IS OF BULK AT MOST 1048576: true; the input reads as it did. -/
def matchRoundsUptoRow : OpenClaim := { program := "ythadcdoepoglkaagreatdoor", sum := "c78f660b56ec61bb4373ff3ec1dbcfc81c7f6b2d1f9e2f6b623a3d5a65a09df1", func := "ligature/ligaturelaw13.MatchRounds", spec := "matchRounds", inPlace := ["math.Float64bits", "math.Float64frombits", "internal/bytealg.IndexByteString", "internal/bytealg.IndexString", "slices.overlaps[ligature/api.Entry]"], unfollowed := true, recurses := true, named := ["unicode/utf8.first", "unicode/utf8.acceptRanges", "internal/bytealg.MaxLen"], apart := false, laid := [("unicode/utf8.acceptRanges", laid_unicode_utf8_acceptRanges), ("unicode/utf8.first", laid_unicode_utf8_first)], narrowed := true }
def MatchRoundsUptoSaid : Prop := matchRoundsUptoRow.holds Tryz.pinned (OpenSpec.upto matchRoundsSpec)

/-- 'ligaturelaw13.MatchLoops', WHERE WHAT IT READS IS OF BULK AT MOST 1048576: true; the input reads as it did. -/
def matchLoopsUptoRow : OpenClaim := { program := "ythadcdoepoglkaagreatdoor", sum := "c78f660b56ec61bb4373ff3ec1dbcfc81c7f6b2d1f9e2f6b623a3d5a65a09df1", func := "ligature/ligaturelaw13.MatchLoops", spec := "matchLoops", inPlace := ["math.Float64bits", "math.Float64frombits", "internal/bytealg.IndexByteString", "internal/bytealg.IndexString", "slices.overlaps[ligature/api.Entry]"], unfollowed := true, recurses := true, named := ["unicode/utf8.first", "unicode/utf8.acceptRanges", "internal/bytealg.MaxLen"], apart := false, laid := [("unicode/utf8.acceptRanges", laid_unicode_utf8_acceptRanges), ("unicode/utf8.first", laid_unicode_utf8_first)], narrowed := true }
def MatchLoopsUptoSaid : Prop := matchLoopsUptoRow.holds Tryz.pinned (OpenSpec.upto matchLoopsSpec)

/-- 'ligaturelaw13.MatchOwn', WHERE WHAT IT READS IS OF BULK AT MOST 1048576: true; the input reads as it did. -/
def matchOwnUptoRow : OpenClaim := { program := "ythadcdoepoglkaagreatdoor", sum := "c78f660b56ec61bb4373ff3ec1dbcfc81c7f6b2d1f9e2f6b623a3d5a65a09df1", func := "ligature/ligaturelaw13.MatchOwn", spec := "matchOwn", inPlace := ["math.Float64bits", "math.Float64frombits", "internal/bytealg.IndexByteString", "internal/bytealg.IndexString", "slices.overlaps[ligature/api.Entry]"], unfollowed := true, recurses := true, named := ["unicode/utf8.first", "unicode/utf8.acceptRanges", "internal/bytealg.MaxLen"], apart := false, laid := [("unicode/utf8.acceptRanges", laid_unicode_utf8_acceptRanges), ("unicode/utf8.first", laid_unicode_utf8_first)], narrowed := true }
def MatchOwnUptoSaid : Prop := matchOwnUptoRow.holds Tryz.pinned (OpenSpec.upto matchOwnSpec)

end Rows
end Go.Proofs.YthadcdoepoglkaaGreatDoor
