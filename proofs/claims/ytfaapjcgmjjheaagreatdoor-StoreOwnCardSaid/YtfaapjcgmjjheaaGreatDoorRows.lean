/-
  NARROWER THAN 'FOR EVERY INPUT', by the rows' own cells (each row's printed sentence says how): StoreHeld: laid · StoreOwn: laid · StoreApart: laid · StoreTouches: laid · StoreJoined: laid · StoreStays: laid.
  DERIVED. THE GIVEN ROWS OF THIS SEAT. 6 by the template 'for every input the law returns true; each argument reads behind the call as it read before'; 0 by the template 'total and deterministic' (their statements: YtfaapjcgmjjheaaGreatDoorTotals.lean).
  GIVEN WITH THE SEED: the statements are not yours to turn. If you find one false, say at which input.
  Laid BY PROGRAM, IN A SANDBOX (cutbox-rows.mjs): the forced cells as the released guide's own fill.sh prints them over the translation 13621abf33748d89… (all of the seat's roots in one cut). By AI agents, Wed Nov 11 2026. No macro, syntax, notation, axiom, sorry.
-/
import Derived.Test.YtfaapjcgmjjheaaGreatDoorChecked
import GoSem.PinnedTables
import GoSem.Claim
import GoSem.ClaimJoined
import GoSem.ClaimMapViews
import Derived.JoinedTies
import Derived.KernelRfl
namespace Go.Proofs.YtfaapjcgmjjheaaGreatDoor
/- THE CELL 'sum', in the pinned program and in every row, IS THE sha256 OF THE DUMP (.gsa) THAT YtfaapjcgmjjheaaGreatDoorProg.lean LOADS. Nothing in Lean hashes anything: it is a label: what it is worth is what the hold of that sum in a sandbox is worth. -/
noncomputable def Tryz.pinned : Pinned := { name := "ytfaapjcgmjjheaagreatdoor", sum := "13621abf33748d8912c0890d95b0aa4b5afc6c7494ccb4aeaa73272333838eef", checked := Tryz.checked }
namespace Rows
def none {H : Type} : Left H := { results := [], args := [] }

/- WHAT THE LISTED PACKAGE-LEVEL VARIABLES READ AS WHEN THE CALL BEGINS. Each datum BY PROGRAM (the guide's laid-datum.mjs) off the statement by which the dump's own 'gosem.cut.vars' lays the variable. In a bare row this is a premise. The card (YtfaapjcgmjjheaaGreatDoorCards.lean) ties it to the program's text. -/
def laid_unicode_utf8_acceptRanges {H : Type} : DataW H := .agg [.agg [.lit (.int .u8 128), .lit (.int .u8 191)], .agg [.lit (.int .u8 160), .lit (.int .u8 191)], .agg [.lit (.int .u8 128), .lit (.int .u8 159)], .agg [.lit (.int .u8 144), .lit (.int .u8 191)], .agg [.lit (.int .u8 128), .lit (.int .u8 143)], .agg [.lit (.int .u8 0), .lit (.int .u8 0)], .agg [.lit (.int .u8 0), .lit (.int .u8 0)], .agg [.lit (.int .u8 0), .lit (.int .u8 0)], .agg [.lit (.int .u8 0), .lit (.int .u8 0)], .agg [.lit (.int .u8 0), .lit (.int .u8 0)], .agg [.lit (.int .u8 0), .lit (.int .u8 0)], .agg [.lit (.int .u8 0), .lit (.int .u8 0)], .agg [.lit (.int .u8 0), .lit (.int .u8 0)], .agg [.lit (.int .u8 0), .lit (.int .u8 0)], .agg [.lit (.int .u8 0), .lit (.int .u8 0)], .agg [.lit (.int .u8 0), .lit (.int .u8 0)]]
/-- One of Go's own tables, pinned by name: the form's constant. -/
def laid_unicode_utf8_first : DataW Unit := Go.Pinned.utf8First

/-- 'ligaturelaw11.StoreHeld': WHATEVER THE INPUT: true; the input reads as it did. -/
def storeHeldSpec : ChangeSpec := { name := "storeHeld", fn := fun _ => fun
  | [d1, d2] => { results := [.lit (.bool true)], args := [d1, d2] }
  | _ => none }
def storeHeldRow : OpenClaim := { program := "ytfaapjcgmjjheaagreatdoor", sum := "13621abf33748d8912c0890d95b0aa4b5afc6c7494ccb4aeaa73272333838eef", func := "ligature/ligaturelaw11.StoreHeld", spec := "storeHeld", inPlace := ["math.Float64frombits", "math.Float64bits", "internal/bytealg.IndexByteString", "internal/bytealg.IndexString", "slices.overlaps[ligature/api.Entry]"], unfollowed := true, recurses := true, named := ["unicode/utf8.first", "unicode/utf8.acceptRanges", "internal/bytealg.MaxLen"], apart := false, laid := [("unicode/utf8.acceptRanges", laid_unicode_utf8_acceptRanges), ("unicode/utf8.first", laid_unicode_utf8_first)] }
def StoreHeldSaid : Prop := storeHeldRow.holds Tryz.pinned (OpenSpec.ofChange storeHeldSpec)

/-- ITS FALSE NEIGHBOUR: 'it returns false'. Refute it at one input. -/
def storeHeldWrong : ChangeSpec := { name := "storeHeld", fn := fun _ => fun
  | [d1, d2] => { results := [.lit (.bool false)], args := [d1, d2] }
  | _ => none }
def StoreHeldWrongFalsely : Prop := storeHeldRow.holds Tryz.pinned (OpenSpec.ofChange storeHeldWrong)

/-- 'ligaturelaw11.StoreOwn': WHATEVER THE INPUT: true; the input reads as it did. -/
def storeOwnSpec : ChangeSpec := { name := "storeOwn", fn := fun _ => fun
  | [d] => { results := [.lit (.bool true)], args := [d] }
  | _ => none }
def storeOwnRow : OpenClaim := { program := "ytfaapjcgmjjheaagreatdoor", sum := "13621abf33748d8912c0890d95b0aa4b5afc6c7494ccb4aeaa73272333838eef", func := "ligature/ligaturelaw11.StoreOwn", spec := "storeOwn", inPlace := ["math.Float64frombits", "math.Float64bits", "internal/bytealg.IndexByteString", "internal/bytealg.IndexString", "slices.overlaps[ligature/api.Entry]"], unfollowed := true, recurses := true, named := ["unicode/utf8.first", "unicode/utf8.acceptRanges", "internal/bytealg.MaxLen"], apart := false, laid := [("unicode/utf8.acceptRanges", laid_unicode_utf8_acceptRanges), ("unicode/utf8.first", laid_unicode_utf8_first)] }
def StoreOwnSaid : Prop := storeOwnRow.holds Tryz.pinned (OpenSpec.ofChange storeOwnSpec)

/-- ITS FALSE NEIGHBOUR: 'it returns false'. Refute it at one input. -/
def storeOwnWrong : ChangeSpec := { name := "storeOwn", fn := fun _ => fun
  | [d] => { results := [.lit (.bool false)], args := [d] }
  | _ => none }
def StoreOwnWrongFalsely : Prop := storeOwnRow.holds Tryz.pinned (OpenSpec.ofChange storeOwnWrong)

/-- 'ligaturelaw11.StoreApart': WHATEVER THE INPUT: true; the input reads as it did. -/
def storeApartSpec : ChangeSpec := { name := "storeApart", fn := fun _ => fun
  | [d1, d2, d3] => { results := [.lit (.bool true)], args := [d1, d2, d3] }
  | _ => none }
def storeApartRow : OpenClaim := { program := "ytfaapjcgmjjheaagreatdoor", sum := "13621abf33748d8912c0890d95b0aa4b5afc6c7494ccb4aeaa73272333838eef", func := "ligature/ligaturelaw11.StoreApart", spec := "storeApart", inPlace := ["math.Float64frombits", "math.Float64bits", "internal/bytealg.IndexByteString", "internal/bytealg.IndexString", "slices.overlaps[ligature/api.Entry]"], unfollowed := true, recurses := true, named := ["unicode/utf8.first", "unicode/utf8.acceptRanges", "internal/bytealg.MaxLen"], apart := false, laid := [("unicode/utf8.acceptRanges", laid_unicode_utf8_acceptRanges), ("unicode/utf8.first", laid_unicode_utf8_first)] }
def StoreApartSaid : Prop := storeApartRow.holds Tryz.pinned (OpenSpec.ofChange storeApartSpec)

/-- ITS FALSE NEIGHBOUR: 'it returns false'. Refute it at one input. -/
def storeApartWrong : ChangeSpec := { name := "storeApart", fn := fun _ => fun
  | [d1, d2, d3] => { results := [.lit (.bool false)], args := [d1, d2, d3] }
  | _ => none }
def StoreApartWrongFalsely : Prop := storeApartRow.holds Tryz.pinned (OpenSpec.ofChange storeApartWrong)

/-- 'ligaturelaw11.StoreTouches': WHATEVER THE INPUT: true; the input reads as it did. -/
def storeTouchesSpec : ChangeSpec := { name := "storeTouches", fn := fun _ => fun
  | [d] => { results := [.lit (.bool true)], args := [d] }
  | _ => none }
def storeTouchesRow : OpenClaim := { program := "ytfaapjcgmjjheaagreatdoor", sum := "13621abf33748d8912c0890d95b0aa4b5afc6c7494ccb4aeaa73272333838eef", func := "ligature/ligaturelaw11.StoreTouches", spec := "storeTouches", inPlace := ["math.Float64frombits", "math.Float64bits", "internal/bytealg.IndexByteString", "internal/bytealg.IndexString", "slices.overlaps[ligature/api.Entry]"], unfollowed := true, recurses := true, named := ["unicode/utf8.first", "unicode/utf8.acceptRanges", "internal/bytealg.MaxLen"], apart := false, laid := [("unicode/utf8.acceptRanges", laid_unicode_utf8_acceptRanges), ("unicode/utf8.first", laid_unicode_utf8_first)] }
def StoreTouchesSaid : Prop := storeTouchesRow.holds Tryz.pinned (OpenSpec.ofChange storeTouchesSpec)

/-- ITS FALSE NEIGHBOUR: 'it returns false'. Refute it at one input. -/
def storeTouchesWrong : ChangeSpec := { name := "storeTouches", fn := fun _ => fun
  | [d] => { results := [.lit (.bool false)], args := [d] }
  | _ => none }
def StoreTouchesWrongFalsely : Prop := storeTouchesRow.holds Tryz.pinned (OpenSpec.ofChange storeTouchesWrong)

/-- 'ligaturelaw11.StoreJoined': WHATEVER THE INPUT: true; the input reads as it did. -/
def storeJoinedSpec : ChangeSpec := { name := "storeJoined", fn := fun _ => fun
  | [d] => { results := [.lit (.bool true)], args := [d] }
  | _ => none }
def storeJoinedRow : OpenClaim := { program := "ytfaapjcgmjjheaagreatdoor", sum := "13621abf33748d8912c0890d95b0aa4b5afc6c7494ccb4aeaa73272333838eef", func := "ligature/ligaturelaw11.StoreJoined", spec := "storeJoined", inPlace := ["math.Float64frombits", "math.Float64bits", "slices.overlaps[ligature/api.Entry]", "internal/bytealg.IndexByteString", "internal/bytealg.IndexString"], unfollowed := true, recurses := true, named := ["unicode/utf8.first", "unicode/utf8.acceptRanges", "internal/bytealg.MaxLen"], apart := false, laid := [("unicode/utf8.acceptRanges", laid_unicode_utf8_acceptRanges), ("unicode/utf8.first", laid_unicode_utf8_first)] }
def StoreJoinedSaid : Prop := storeJoinedRow.holds Tryz.pinned (OpenSpec.ofChange storeJoinedSpec)

/-- ITS FALSE NEIGHBOUR: 'it returns false'. Refute it at one input. -/
def storeJoinedWrong : ChangeSpec := { name := "storeJoined", fn := fun _ => fun
  | [d] => { results := [.lit (.bool false)], args := [d] }
  | _ => none }
def StoreJoinedWrongFalsely : Prop := storeJoinedRow.holds Tryz.pinned (OpenSpec.ofChange storeJoinedWrong)

/-- 'ligaturelaw11.StoreStays': WHATEVER THE INPUT: true; the input reads as it did. -/
def storeStaysSpec : ChangeSpec := { name := "storeStays", fn := fun _ => fun
  | [d1, d2] => { results := [.lit (.bool true)], args := [d1, d2] }
  | _ => none }
def storeStaysRow : OpenClaim := { program := "ytfaapjcgmjjheaagreatdoor", sum := "13621abf33748d8912c0890d95b0aa4b5afc6c7494ccb4aeaa73272333838eef", func := "ligature/ligaturelaw11.StoreStays", spec := "storeStays", inPlace := ["math.Float64frombits", "math.Float64bits", "internal/bytealg.IndexByteString", "internal/bytealg.IndexString", "slices.overlaps[ligature/api.Entry]"], unfollowed := true, recurses := true, named := ["unicode/utf8.first", "unicode/utf8.acceptRanges", "internal/bytealg.MaxLen"], apart := false, laid := [("unicode/utf8.acceptRanges", laid_unicode_utf8_acceptRanges), ("unicode/utf8.first", laid_unicode_utf8_first)] }
def StoreStaysSaid : Prop := storeStaysRow.holds Tryz.pinned (OpenSpec.ofChange storeStaysSpec)

/-- ITS FALSE NEIGHBOUR: 'it returns false'. Refute it at one input. -/
def storeStaysWrong : ChangeSpec := { name := "storeStays", fn := fun _ => fun
  | [d1, d2] => { results := [.lit (.bool false)], args := [d1, d2] }
  | _ => none }
def StoreStaysWrongFalsely : Prop := storeStaysRow.holds Tryz.pinned (OpenSpec.ofChange storeStaysWrong)

/- THE SECOND FORM. 'bulk': how many values and letters a reading holds, each counted each time it is reached (what is shared counts as often as it is met; a slice's spare places count too). A statement '..UptoSaid' is the law's where the arguments, and the package variables that the reading takes, are together of bulk at most 1048576: NARROWER than '..Said'. Prove '..Said' where nothing that the law and all that it calls make is longer than what came in: it says more and counts as full. Else prove '..UptoSaid'. A law counts once. -/
mutual
def uptoBulk {H : Type} : DataW H → Nat
  | .lit (.string bytes) => bytes.length + 1
  | .lit _ => 1
  | .nil => 1
  | .ptr d => uptoBulk d + 1
  | .slice elems spare => uptoBulkAll elems + uptoBulkAll spare + 1
  | .agg parts => uptoBulkAll parts + 1
  | .iface _ d => uptoBulk d + 1
  | .map entries => uptoBulkEntries entries + 1
  | .held _ => 1
def uptoBulkAll {H : Type} : List (DataW H) → Nat
  | [] => 0
  | d :: r => uptoBulk d + uptoBulkAll r
def uptoBulkEntries {H : Type} : List (Lit × DataW H) → Nat
  | [] => 0
  | x :: r => uptoBulkEntry x + uptoBulkEntries r
def uptoBulkEntry {H : Type} : Lit × DataW H → Nat
  | (.string bytes, d) => bytes.length + uptoBulk d + 1
  | (_, d) => uptoBulk d + 1
 end
def uptoSmall : (H : Type) → List (DataW H) → Bool := fun _ ds => decide (uptoBulkAll ds ≤ 1048576)
def OpenSpec.upto (s : _root_.Go.ChangeSpec) : _root_.Go.OpenSpec := { _root_.Go.OpenSpec.ofChange s with cond := some uptoSmall }

/-- 'ligaturelaw11.StoreHeld', WHERE WHAT IT READS IS OF BULK AT MOST 1048576: true; the input reads as it did. -/
def storeHeldUptoRow : OpenClaim := { program := "ytfaapjcgmjjheaagreatdoor", sum := "13621abf33748d8912c0890d95b0aa4b5afc6c7494ccb4aeaa73272333838eef", func := "ligature/ligaturelaw11.StoreHeld", spec := "storeHeld", inPlace := ["math.Float64frombits", "math.Float64bits", "internal/bytealg.IndexByteString", "internal/bytealg.IndexString", "slices.overlaps[ligature/api.Entry]"], unfollowed := true, recurses := true, named := ["unicode/utf8.first", "unicode/utf8.acceptRanges", "internal/bytealg.MaxLen"], apart := false, laid := [("unicode/utf8.acceptRanges", laid_unicode_utf8_acceptRanges), ("unicode/utf8.first", laid_unicode_utf8_first)], narrowed := true }
def StoreHeldUptoSaid : Prop := storeHeldUptoRow.holds Tryz.pinned (OpenSpec.upto storeHeldSpec)

/-- 'ligaturelaw11.StoreOwn', WHERE WHAT IT READS IS OF BULK AT MOST 1048576: true; the input reads as it did. -/
def storeOwnUptoRow : OpenClaim := { program := "ytfaapjcgmjjheaagreatdoor", sum := "13621abf33748d8912c0890d95b0aa4b5afc6c7494ccb4aeaa73272333838eef", func := "ligature/ligaturelaw11.StoreOwn", spec := "storeOwn", inPlace := ["math.Float64frombits", "math.Float64bits", "internal/bytealg.IndexByteString", "internal/bytealg.IndexString", "slices.overlaps[ligature/api.Entry]"], unfollowed := true, recurses := true, named := ["unicode/utf8.first", "unicode/utf8.acceptRanges", "internal/bytealg.MaxLen"], apart := false, laid := [("unicode/utf8.acceptRanges", laid_unicode_utf8_acceptRanges), ("unicode/utf8.first", laid_unicode_utf8_first)], narrowed := true }
def StoreOwnUptoSaid : Prop := storeOwnUptoRow.holds Tryz.pinned (OpenSpec.upto storeOwnSpec)

/-- 'ligaturelaw11.StoreApart', WHERE WHAT IT READS IS OF BULK AT MOST 1048576: true; the input reads as it did. -/
def storeApartUptoRow : OpenClaim := { program := "ytfaapjcgmjjheaagreatdoor", sum := "13621abf33748d8912c0890d95b0aa4b5afc6c7494ccb4aeaa73272333838eef", func := "ligature/ligaturelaw11.StoreApart", spec := "storeApart", inPlace := ["math.Float64frombits", "math.Float64bits", "internal/bytealg.IndexByteString", "internal/bytealg.IndexString", "slices.overlaps[ligature/api.Entry]"], unfollowed := true, recurses := true, named := ["unicode/utf8.first", "unicode/utf8.acceptRanges", "internal/bytealg.MaxLen"], apart := false, laid := [("unicode/utf8.acceptRanges", laid_unicode_utf8_acceptRanges), ("unicode/utf8.first", laid_unicode_utf8_first)], narrowed := true }
def StoreApartUptoSaid : Prop := storeApartUptoRow.holds Tryz.pinned (OpenSpec.upto storeApartSpec)

/-- 'ligaturelaw11.StoreTouches', WHERE WHAT IT READS IS OF BULK AT MOST 1048576: true; the input reads as it did. -/
def storeTouchesUptoRow : OpenClaim := { program := "ytfaapjcgmjjheaagreatdoor", sum := "13621abf33748d8912c0890d95b0aa4b5afc6c7494ccb4aeaa73272333838eef", func := "ligature/ligaturelaw11.StoreTouches", spec := "storeTouches", inPlace := ["math.Float64frombits", "math.Float64bits", "internal/bytealg.IndexByteString", "internal/bytealg.IndexString", "slices.overlaps[ligature/api.Entry]"], unfollowed := true, recurses := true, named := ["unicode/utf8.first", "unicode/utf8.acceptRanges", "internal/bytealg.MaxLen"], apart := false, laid := [("unicode/utf8.acceptRanges", laid_unicode_utf8_acceptRanges), ("unicode/utf8.first", laid_unicode_utf8_first)], narrowed := true }
def StoreTouchesUptoSaid : Prop := storeTouchesUptoRow.holds Tryz.pinned (OpenSpec.upto storeTouchesSpec)

/-- 'ligaturelaw11.StoreJoined', WHERE WHAT IT READS IS OF BULK AT MOST 1048576: true; the input reads as it did. -/
def storeJoinedUptoRow : OpenClaim := { program := "ytfaapjcgmjjheaagreatdoor", sum := "13621abf33748d8912c0890d95b0aa4b5afc6c7494ccb4aeaa73272333838eef", func := "ligature/ligaturelaw11.StoreJoined", spec := "storeJoined", inPlace := ["math.Float64frombits", "math.Float64bits", "slices.overlaps[ligature/api.Entry]", "internal/bytealg.IndexByteString", "internal/bytealg.IndexString"], unfollowed := true, recurses := true, named := ["unicode/utf8.first", "unicode/utf8.acceptRanges", "internal/bytealg.MaxLen"], apart := false, laid := [("unicode/utf8.acceptRanges", laid_unicode_utf8_acceptRanges), ("unicode/utf8.first", laid_unicode_utf8_first)], narrowed := true }
def StoreJoinedUptoSaid : Prop := storeJoinedUptoRow.holds Tryz.pinned (OpenSpec.upto storeJoinedSpec)

/-- 'ligaturelaw11.StoreStays', WHERE WHAT IT READS IS OF BULK AT MOST 1048576: true; the input reads as it did. -/
def storeStaysUptoRow : OpenClaim := { program := "ytfaapjcgmjjheaagreatdoor", sum := "13621abf33748d8912c0890d95b0aa4b5afc6c7494ccb4aeaa73272333838eef", func := "ligature/ligaturelaw11.StoreStays", spec := "storeStays", inPlace := ["math.Float64frombits", "math.Float64bits", "internal/bytealg.IndexByteString", "internal/bytealg.IndexString", "slices.overlaps[ligature/api.Entry]"], unfollowed := true, recurses := true, named := ["unicode/utf8.first", "unicode/utf8.acceptRanges", "internal/bytealg.MaxLen"], apart := false, laid := [("unicode/utf8.acceptRanges", laid_unicode_utf8_acceptRanges), ("unicode/utf8.first", laid_unicode_utf8_first)], narrowed := true }
def StoreStaysUptoSaid : Prop := storeStaysUptoRow.holds Tryz.pinned (OpenSpec.upto storeStaysSpec)

end Rows
end Go.Proofs.YtfaapjcgmjjheaaGreatDoor
