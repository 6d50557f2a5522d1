/-
  No cell of these rows narrows 'for every input' (looked for: loops, veiled, ifaces, maps, wideKeys, modest, calm, conditions, laid).
  DERIVED. THE GIVEN ROWS OF THIS SEAT. 7 by the template 'for every input the law returns true; each argument reads behind the call as it read before'; 0 by the template 'total and deterministic' (their statements: YtggahnipmlihlaaTotals.lean).
  GIVEN WITH THE SEED: the statements are not yours to turn. If you find one false, say at which input.
  Laid BY PROGRAM, IN A SANDBOX (cutbox-rows.mjs): the forced cells as the released guide's own fill.sh prints them over the translation 8888ffef18b08c16… (all of the seat's roots in one cut). By AI agents, Wed Nov 11 2026. No macro, syntax, notation, axiom, sorry.
-/
import Derived.Test.YtggahnipmlihlaaChecked
import GoSem.Claim
import GoSem.ClaimJoined
import GoSem.ClaimMapViews
import Derived.JoinedTies
import Derived.KernelRfl
namespace Go.Proofs.Ytggahnipmlihlaa
/- THE CELL 'sum', in the pinned program and in every row, IS THE sha256 OF THE DUMP (.gsa) THAT YtggahnipmlihlaaProg.lean LOADS. Nothing in Lean hashes anything: it is a label: what it is worth is what the hold of that sum in a sandbox is worth. -/
noncomputable def Try.pinned : Pinned := { name := "ytggahnipmlihlaa", sum := "8888ffef18b08c1682f5ca486a0d994f639c6673c52a75d0da8110f934c40f60", checked := Try.checked }
namespace Rows
def none {H : Type} : Left H := { results := [], args := [] }

/-- 'ligaturelaw4.DrumCrashes': WHATEVER THE INPUT: true; the input reads as it did. -/
def drumCrashesSpec : ChangeSpec := { name := "drumCrashes", fn := fun _ => fun
  | [d1, d2, d3] => { results := [.lit (.bool true)], args := [d1, d2, d3] }
  | _ => none }
def drumCrashesRow : OpenClaim := { program := "ytggahnipmlihlaa", sum := "8888ffef18b08c1682f5ca486a0d994f639c6673c52a75d0da8110f934c40f60", func := "ligature/ligaturelaw4.DrumCrashes", spec := "drumCrashes", apart := false }
def DrumCrashesSaid : Prop := drumCrashesRow.holds Try.pinned (OpenSpec.ofChange drumCrashesSpec)

/-- ITS FALSE NEIGHBOUR: 'it returns false'. Refute it at one input. -/
def drumCrashesWrong : ChangeSpec := { name := "drumCrashes", fn := fun _ => fun
  | [d1, d2, d3] => { results := [.lit (.bool false)], args := [d1, d2, d3] }
  | _ => none }
def DrumCrashesWrongFalsely : Prop := drumCrashesRow.holds Try.pinned (OpenSpec.ofChange drumCrashesWrong)

/-- 'ligaturelaw4.DrumBounds': WHATEVER THE INPUT: true; the input reads as it did. -/
def drumBoundsSpec : ChangeSpec := { name := "drumBounds", fn := fun _ => fun
  | [d1, d2, d3] => { results := [.lit (.bool true)], args := [d1, d2, d3] }
  | _ => none }
def drumBoundsRow : OpenClaim := { program := "ytggahnipmlihlaa", sum := "8888ffef18b08c1682f5ca486a0d994f639c6673c52a75d0da8110f934c40f60", func := "ligature/ligaturelaw4.DrumBounds", spec := "drumBounds", apart := false }
def DrumBoundsSaid : Prop := drumBoundsRow.holds Try.pinned (OpenSpec.ofChange drumBoundsSpec)

/-- ITS FALSE NEIGHBOUR: 'it returns false'. Refute it at one input. -/
def drumBoundsWrong : ChangeSpec := { name := "drumBounds", fn := fun _ => fun
  | [d1, d2, d3] => { results := [.lit (.bool false)], args := [d1, d2, d3] }
  | _ => none }
def DrumBoundsWrongFalsely : Prop := drumBoundsRow.holds Try.pinned (OpenSpec.ofChange drumBoundsWrong)

/-- 'ligaturelaw4.DrumOrder': WHATEVER THE INPUT: true; the input reads as it did. -/
def drumOrderSpec : ChangeSpec := { name := "drumOrder", fn := fun _ => fun
  | [d1, d2] => { results := [.lit (.bool true)], args := [d1, d2] }
  | _ => none }
def drumOrderRow : OpenClaim := { program := "ytggahnipmlihlaa", sum := "8888ffef18b08c1682f5ca486a0d994f639c6673c52a75d0da8110f934c40f60", func := "ligature/ligaturelaw4.DrumOrder", spec := "drumOrder", apart := false }
def DrumOrderSaid : Prop := drumOrderRow.holds Try.pinned (OpenSpec.ofChange drumOrderSpec)

/-- ITS FALSE NEIGHBOUR: 'it returns false'. Refute it at one input. -/
def drumOrderWrong : ChangeSpec := { name := "drumOrder", fn := fun _ => fun
  | [d1, d2] => { results := [.lit (.bool false)], args := [d1, d2] }
  | _ => none }
def DrumOrderWrongFalsely : Prop := drumOrderRow.holds Try.pinned (OpenSpec.ofChange drumOrderWrong)

/-- 'ligaturelaw4.DrumSyncs': WHATEVER THE INPUT: true; the input reads as it did. -/
def drumSyncsSpec : ChangeSpec := { name := "drumSyncs", fn := fun _ => fun
  | [d1, d2] => { results := [.lit (.bool true)], args := [d1, d2] }
  | _ => none }
def drumSyncsRow : OpenClaim := { program := "ytggahnipmlihlaa", sum := "8888ffef18b08c1682f5ca486a0d994f639c6673c52a75d0da8110f934c40f60", func := "ligature/ligaturelaw4.DrumSyncs", spec := "drumSyncs", apart := false }
def DrumSyncsSaid : Prop := drumSyncsRow.holds Try.pinned (OpenSpec.ofChange drumSyncsSpec)

/-- ITS FALSE NEIGHBOUR: 'it returns false'. Refute it at one input. -/
def drumSyncsWrong : ChangeSpec := { name := "drumSyncs", fn := fun _ => fun
  | [d1, d2] => { results := [.lit (.bool false)], args := [d1, d2] }
  | _ => none }
def DrumSyncsWrongFalsely : Prop := drumSyncsRow.holds Try.pinned (OpenSpec.ofChange drumSyncsWrong)

/-- 'ligaturelaw4.DrumPlays': WHATEVER THE INPUT: true; the input reads as it did. -/
def drumPlaysSpec : ChangeSpec := { name := "drumPlays", fn := fun _ => fun
  | [d1, d2] => { results := [.lit (.bool true)], args := [d1, d2] }
  | _ => none }
def drumPlaysRow : OpenClaim := { program := "ytggahnipmlihlaa", sum := "8888ffef18b08c1682f5ca486a0d994f639c6673c52a75d0da8110f934c40f60", func := "ligature/ligaturelaw4.DrumPlays", spec := "drumPlays", apart := false }
def DrumPlaysSaid : Prop := drumPlaysRow.holds Try.pinned (OpenSpec.ofChange drumPlaysSpec)

/-- ITS FALSE NEIGHBOUR: 'it returns false'. Refute it at one input. -/
def drumPlaysWrong : ChangeSpec := { name := "drumPlays", fn := fun _ => fun
  | [d1, d2] => { results := [.lit (.bool false)], args := [d1, d2] }
  | _ => none }
def DrumPlaysWrongFalsely : Prop := drumPlaysRow.holds Try.pinned (OpenSpec.ofChange drumPlaysWrong)

/-- 'ligaturelaw4.DrumFuses': WHATEVER THE INPUT: true; the input reads as it did. -/
def drumFusesSpec : ChangeSpec := { name := "drumFuses", fn := fun _ => fun
  | [d1, d2] => { results := [.lit (.bool true)], args := [d1, d2] }
  | _ => none }
def drumFusesRow : OpenClaim := { program := "ytggahnipmlihlaa", sum := "8888ffef18b08c1682f5ca486a0d994f639c6673c52a75d0da8110f934c40f60", func := "ligature/ligaturelaw4.DrumFuses", spec := "drumFuses", apart := false }
def DrumFusesSaid : Prop := drumFusesRow.holds Try.pinned (OpenSpec.ofChange drumFusesSpec)

/-- ITS FALSE NEIGHBOUR: 'it returns false'. Refute it at one input. -/
def drumFusesWrong : ChangeSpec := { name := "drumFuses", fn := fun _ => fun
  | [d1, d2] => { results := [.lit (.bool false)], args := [d1, d2] }
  | _ => none }
def DrumFusesWrongFalsely : Prop := drumFusesRow.holds Try.pinned (OpenSpec.ofChange drumFusesWrong)

/-- 'ligaturelaw4.DrumOwn': WHATEVER THE INPUT: true; the input reads as it did. -/
def drumOwnSpec : ChangeSpec := { name := "drumOwn", fn := fun _ => fun
  | [d] => { results := [.lit (.bool true)], args := [d] }
  | _ => none }
def drumOwnRow : OpenClaim := { program := "ytggahnipmlihlaa", sum := "8888ffef18b08c1682f5ca486a0d994f639c6673c52a75d0da8110f934c40f60", func := "ligature/ligaturelaw4.DrumOwn", spec := "drumOwn", apart := false }
def DrumOwnSaid : Prop := drumOwnRow.holds Try.pinned (OpenSpec.ofChange drumOwnSpec)

/-- ITS FALSE NEIGHBOUR: 'it returns false'. Refute it at one input. -/
def drumOwnWrong : ChangeSpec := { name := "drumOwn", fn := fun _ => fun
  | [d] => { results := [.lit (.bool false)], args := [d] }
  | _ => none }
def DrumOwnWrongFalsely : Prop := drumOwnRow.holds Try.pinned (OpenSpec.ofChange drumOwnWrong)

/- THE SECOND FORM. 'bulk': how many values and letters a reading holds, each counted each time it is reached (what is shared counts as often as it is met; a slice's spare places count too). A statement '..UptoSaid' is the law's where the arguments, and the package variables that the reading takes, are together of bulk at most 1048576: NARROWER than '..Said'. Prove '..Said' where nothing that the law and all that it calls make is longer than what came in: it says more and counts as full. Else prove '..UptoSaid'. A law counts once. -/
mutual
def uptoBulk {H : Type} : DataW H → Nat
  | .lit (.string bytes) => bytes.length + 1
  | .lit _ => 1
  | .nil => 1
  | .ptr d => uptoBulk d + 1
  | .slice elems spare => uptoBulkAll elems + uptoBulkAll spare + 1
  | .agg parts => uptoBulkAll parts + 1
  | .iface _ d => uptoBulk d + 1
  | .map entries => uptoBulkEntries entries + 1
  | .held _ => 1
def uptoBulkAll {H : Type} : List (DataW H) → Nat
  | [] => 0
  | d :: r => uptoBulk d + uptoBulkAll r
def uptoBulkEntries {H : Type} : List (Lit × DataW H) → Nat
  | [] => 0
  | x :: r => uptoBulkEntry x + uptoBulkEntries r
def uptoBulkEntry {H : Type} : Lit × DataW H → Nat
  | (.string bytes, d) => bytes.length + uptoBulk d + 1
  | (_, d) => uptoBulk d + 1
 end
def uptoSmall : (H : Type) → List (DataW H) → Bool := fun _ ds => decide (uptoBulkAll ds ≤ 1048576)
def OpenSpec.upto (s : _root_.Go.ChangeSpec) : _root_.Go.OpenSpec := { _root_.Go.OpenSpec.ofChange s with cond := some uptoSmall }

/-- 'ligaturelaw4.DrumCrashes', WHERE WHAT IT READS IS OF BULK AT MOST 1048576: true; the input reads as it did. -/
def drumCrashesUptoRow : OpenClaim := { program := "ytggahnipmlihlaa", sum := "8888ffef18b08c1682f5ca486a0d994f639c6673c52a75d0da8110f934c40f60", func := "ligature/ligaturelaw4.DrumCrashes", spec := "drumCrashes", apart := false, narrowed := true }
def DrumCrashesUptoSaid : Prop := drumCrashesUptoRow.holds Try.pinned (OpenSpec.upto drumCrashesSpec)

/-- 'ligaturelaw4.DrumBounds', WHERE WHAT IT READS IS OF BULK AT MOST 1048576: true; the input reads as it did. -/
def drumBoundsUptoRow : OpenClaim := { program := "ytggahnipmlihlaa", sum := "8888ffef18b08c1682f5ca486a0d994f639c6673c52a75d0da8110f934c40f60", func := "ligature/ligaturelaw4.DrumBounds", spec := "drumBounds", apart := false, narrowed := true }
def DrumBoundsUptoSaid : Prop := drumBoundsUptoRow.holds Try.pinned (OpenSpec.upto drumBoundsSpec)

/-- 'ligaturelaw4.DrumOrder', WHERE WHAT IT READS IS OF BULK AT MOST 1048576: true; the input reads as it did. -/
def drumOrderUptoRow : OpenClaim := { program := "ytggahnipmlihlaa", sum := "8888ffef18b08c1682f5ca486a0d994f639c6673c52a75d0da8110f934c40f60", func := "ligature/ligaturelaw4.DrumOrder", spec := "drumOrder", apart := false, narrowed := true }
def DrumOrderUptoSaid : Prop := drumOrderUptoRow.holds Try.pinned (OpenSpec.upto drumOrderSpec)

/-- 'ligaturelaw4.DrumSyncs', WHERE WHAT IT READS IS OF BULK AT MOST 1048576: true; the input reads as it did. -/
def drumSyncsUptoRow : OpenClaim := { program := "ytggahnipmlihlaa", sum := "8888ffef18b08c1682f5ca486a0d994f639c6673c52a75d0da8110f934c40f60", func := "ligature/ligaturelaw4.DrumSyncs", spec := "drumSyncs", apart := false, narrowed := true }
def DrumSyncsUptoSaid : Prop := drumSyncsUptoRow.holds Try.pinned (OpenSpec.upto drumSyncsSpec)

/-- 'ligaturelaw4.DrumPlays', WHERE WHAT IT READS IS OF BULK AT MOST 1048576: true; the input reads as it did. -/
def drumPlaysUptoRow : OpenClaim := { program := "ytggahnipmlihlaa", sum := "8888ffef18b08c1682f5ca486a0d994f639c6673c52a75d0da8110f934c40f60", func := "ligature/ligaturelaw4.DrumPlays", spec := "drumPlays", apart := false, narrowed := true }
def DrumPlaysUptoSaid : Prop := drumPlaysUptoRow.holds Try.pinned (OpenSpec.upto drumPlaysSpec)

/-- 'ligaturelaw4.DrumFuses', WHERE WHAT IT READS IS OF BULK AT MOST 1048576: true; the input reads as it did. -/
def drumFusesUptoRow : OpenClaim := { program := "ytggahnipmlihlaa", sum := "8888ffef18b08c1682f5ca486a0d994f639c6673c52a75d0da8110f934c40f60", func := "ligature/ligaturelaw4.DrumFuses", spec := "drumFuses", apart := false, narrowed := true }
def DrumFusesUptoSaid : Prop := drumFusesUptoRow.holds Try.pinned (OpenSpec.upto drumFusesSpec)

/-- 'ligaturelaw4.DrumOwn', WHERE WHAT IT READS IS OF BULK AT MOST 1048576: true; the input reads as it did. -/
def drumOwnUptoRow : OpenClaim := { program := "ytggahnipmlihlaa", sum := "8888ffef18b08c1682f5ca486a0d994f639c6673c52a75d0da8110f934c40f60", func := "ligature/ligaturelaw4.DrumOwn", spec := "drumOwn", apart := false, narrowed := true }
def DrumOwnUptoSaid : Prop := drumOwnUptoRow.holds Try.pinned (OpenSpec.upto drumOwnSpec)

end Rows
end Go.Proofs.Ytggahnipmlihlaa
