/-
  No cell of these rows narrows 'for every input' (looked for: loops, veiled, ifaces, maps, wideKeys, modest, calm, conditions, laid).
  DERIVED. THE GIVEN ROWS OF THIS SEAT. 6 by the template 'for every input the law returns true; each argument reads behind the call as it read before'; 0 by the template 'total and deterministic' (their statements: YtdoapfgcjmkfhaaTotals.lean).
  GIVEN WITH THE SEED: the statements are not yours to turn. If you find one false, say at which input.
  Laid BY PROGRAM, IN A SANDBOX (cutbox-rows.mjs): the forced cells as the released guide's own fill.sh prints them over the translation 259f59b25947b2ab… (all of the seat's roots in one cut). By AI agents, Wed Nov 11 2026. No macro, syntax, notation, axiom, sorry.
-/
import Derived.Test.YtdoapfgcjmkfhaaChecked
import GoSem.Claim
import GoSem.ClaimJoined
import GoSem.ClaimMapViews
import Derived.JoinedTies
import Derived.KernelRfl
namespace Go.Proofs.Ytdoapfgcjmkfhaa
/- THE CELL 'sum', in the pinned program and in every row, IS THE sha256 OF THE DUMP (.gsa) THAT YtdoapfgcjmkfhaaProg.lean LOADS. Nothing in Lean hashes anything: it is a label: what it is worth is what the hold of that sum in a sandbox is worth. -/
noncomputable def Try.pinned : Pinned := { name := "ytdoapfgcjmkfhaa", sum := "259f59b25947b2abc1da84ba523cc51312839de381429c3993b7cf52c3dc25d9", checked := Try.checked }
namespace Rows
def none {H : Type} : Left H := { results := [], args := [] }

/-- 'ligaturelaw8.ChainMiddle': WHATEVER THE INPUT: true; the input reads as it did. -/
def chainMiddleSpec : ChangeSpec := { name := "chainMiddle", fn := fun _ => fun
  | [d1, d2] => { results := [.lit (.bool true)], args := [d1, d2] }
  | _ => none }
def chainMiddleRow : OpenClaim := { program := "ytdoapfgcjmkfhaa", sum := "259f59b25947b2abc1da84ba523cc51312839de381429c3993b7cf52c3dc25d9", func := "ligature/ligaturelaw8.ChainMiddle", spec := "chainMiddle", apart := false }
def ChainMiddleSaid : Prop := chainMiddleRow.holds Try.pinned (OpenSpec.ofChange chainMiddleSpec)

/-- ITS FALSE NEIGHBOUR: 'it returns false'. Refute it at one input. -/
def chainMiddleWrong : ChangeSpec := { name := "chainMiddle", fn := fun _ => fun
  | [d1, d2] => { results := [.lit (.bool false)], args := [d1, d2] }
  | _ => none }
def ChainMiddleWrongFalsely : Prop := chainMiddleRow.holds Try.pinned (OpenSpec.ofChange chainMiddleWrong)

/-- 'ligaturelaw8.ChainPlays': WHATEVER THE INPUT: true; the input reads as it did. -/
def chainPlaysSpec : ChangeSpec := { name := "chainPlays", fn := fun _ => fun
  | [d] => { results := [.lit (.bool true)], args := [d] }
  | _ => none }
def chainPlaysRow : OpenClaim := { program := "ytdoapfgcjmkfhaa", sum := "259f59b25947b2abc1da84ba523cc51312839de381429c3993b7cf52c3dc25d9", func := "ligature/ligaturelaw8.ChainPlays", spec := "chainPlays", apart := false }
def ChainPlaysSaid : Prop := chainPlaysRow.holds Try.pinned (OpenSpec.ofChange chainPlaysSpec)

/-- ITS FALSE NEIGHBOUR: 'it returns false'. Refute it at one input. -/
def chainPlaysWrong : ChangeSpec := { name := "chainPlays", fn := fun _ => fun
  | [d] => { results := [.lit (.bool false)], args := [d] }
  | _ => none }
def ChainPlaysWrongFalsely : Prop := chainPlaysRow.holds Try.pinned (OpenSpec.ofChange chainPlaysWrong)

/-- 'ligaturelaw8.ChainApart': WHATEVER THE INPUT: true; the input reads as it did. -/
def chainApartSpec : ChangeSpec := { name := "chainApart", fn := fun _ => fun
  | [d1, d2, d3] => { results := [.lit (.bool true)], args := [d1, d2, d3] }
  | _ => none }
def chainApartRow : OpenClaim := { program := "ytdoapfgcjmkfhaa", sum := "259f59b25947b2abc1da84ba523cc51312839de381429c3993b7cf52c3dc25d9", func := "ligature/ligaturelaw8.ChainApart", spec := "chainApart", apart := false }
def ChainApartSaid : Prop := chainApartRow.holds Try.pinned (OpenSpec.ofChange chainApartSpec)

/-- ITS FALSE NEIGHBOUR: 'it returns false'. Refute it at one input. -/
def chainApartWrong : ChangeSpec := { name := "chainApart", fn := fun _ => fun
  | [d1, d2, d3] => { results := [.lit (.bool false)], args := [d1, d2, d3] }
  | _ => none }
def ChainApartWrongFalsely : Prop := chainApartRow.holds Try.pinned (OpenSpec.ofChange chainApartWrong)

/-- 'ligaturelaw8.ChainOfNothing': WHATEVER THE INPUT: true; the input reads as it did. -/
def chainOfNothingSpec : ChangeSpec := { name := "chainOfNothing", fn := fun _ => fun
  | [d1, d2] => { results := [.lit (.bool true)], args := [d1, d2] }
  | _ => none }
def chainOfNothingRow : OpenClaim := { program := "ytdoapfgcjmkfhaa", sum := "259f59b25947b2abc1da84ba523cc51312839de381429c3993b7cf52c3dc25d9", func := "ligature/ligaturelaw8.ChainOfNothing", spec := "chainOfNothing", apart := false }
def ChainOfNothingSaid : Prop := chainOfNothingRow.holds Try.pinned (OpenSpec.ofChange chainOfNothingSpec)

/-- ITS FALSE NEIGHBOUR: 'it returns false'. Refute it at one input. -/
def chainOfNothingWrong : ChangeSpec := { name := "chainOfNothing", fn := fun _ => fun
  | [d1, d2] => { results := [.lit (.bool false)], args := [d1, d2] }
  | _ => none }
def ChainOfNothingWrongFalsely : Prop := chainOfNothingRow.holds Try.pinned (OpenSpec.ofChange chainOfNothingWrong)

/-- 'ligaturelaw8.ChainMany': WHATEVER THE INPUT: true; the input reads as it did. -/
def chainManySpec : ChangeSpec := { name := "chainMany", fn := fun _ => fun
  | [d1, d2] => { results := [.lit (.bool true)], args := [d1, d2] }
  | _ => none }
def chainManyRow : OpenClaim := { program := "ytdoapfgcjmkfhaa", sum := "259f59b25947b2abc1da84ba523cc51312839de381429c3993b7cf52c3dc25d9", func := "ligature/ligaturelaw8.ChainMany", spec := "chainMany", apart := false }
def ChainManySaid : Prop := chainManyRow.holds Try.pinned (OpenSpec.ofChange chainManySpec)

/-- ITS FALSE NEIGHBOUR: 'it returns false'. Refute it at one input. -/
def chainManyWrong : ChangeSpec := { name := "chainMany", fn := fun _ => fun
  | [d1, d2] => { results := [.lit (.bool false)], args := [d1, d2] }
  | _ => none }
def ChainManyWrongFalsely : Prop := chainManyRow.holds Try.pinned (OpenSpec.ofChange chainManyWrong)

/-- 'ligaturelaw8.ChainAgain': WHATEVER THE INPUT: true; the input reads as it did. -/
def chainAgainSpec : ChangeSpec := { name := "chainAgain", fn := fun _ => fun
  | [d] => { results := [.lit (.bool true)], args := [d] }
  | _ => none }
def chainAgainRow : OpenClaim := { program := "ytdoapfgcjmkfhaa", sum := "259f59b25947b2abc1da84ba523cc51312839de381429c3993b7cf52c3dc25d9", func := "ligature/ligaturelaw8.ChainAgain", spec := "chainAgain", apart := false }
def ChainAgainSaid : Prop := chainAgainRow.holds Try.pinned (OpenSpec.ofChange chainAgainSpec)

/-- ITS FALSE NEIGHBOUR: 'it returns false'. Refute it at one input. -/
def chainAgainWrong : ChangeSpec := { name := "chainAgain", fn := fun _ => fun
  | [d] => { results := [.lit (.bool false)], args := [d] }
  | _ => none }
def ChainAgainWrongFalsely : Prop := chainAgainRow.holds Try.pinned (OpenSpec.ofChange chainAgainWrong)

/- THE SECOND FORM. 'bulk': how many values and letters a reading holds, each counted each time it is reached (what is shared counts as often as it is met; a slice's spare places count too). A statement '..UptoSaid' is the law's where the arguments, and the package variables that the reading takes, are together of bulk at most 1048576: NARROWER than '..Said'. Prove '..Said' where nothing that the law and all that it calls make is longer than what came in: it says more and counts as full. Else prove '..UptoSaid'. A law counts once. -/
mutual
def uptoBulk {H : Type} : DataW H → Nat
  | .lit (.string bytes) => bytes.length + 1
  | .lit _ => 1
  | .nil => 1
  | .ptr d => uptoBulk d + 1
  | .slice elems spare => uptoBulkAll elems + uptoBulkAll spare + 1
  | .agg parts => uptoBulkAll parts + 1
  | .iface _ d => uptoBulk d + 1
  | .map entries => uptoBulkEntries entries + 1
  | .held _ => 1
def uptoBulkAll {H : Type} : List (DataW H) → Nat
  | [] => 0
  | d :: r => uptoBulk d + uptoBulkAll r
def uptoBulkEntries {H : Type} : List (Lit × DataW H) → Nat
  | [] => 0
  | x :: r => uptoBulkEntry x + uptoBulkEntries r
def uptoBulkEntry {H : Type} : Lit × DataW H → Nat
  | (.string bytes, d) => bytes.length + uptoBulk d + 1
  | (_, d) => uptoBulk d + 1
 end
def uptoSmall : (H : Type) → List (DataW H) → Bool := fun _ ds => decide (uptoBulkAll ds ≤ 1048576)
def OpenSpec.upto (s : _root_.Go.ChangeSpec) : _root_.Go.OpenSpec := { _root_.Go.OpenSpec.ofChange s with cond := some uptoSmall }

/-- 'ligaturelaw8.ChainMiddle', WHERE WHAT IT READS IS OF BULK AT MOST 1048576: true; the input reads as it did. -/
def chainMiddleUptoRow : OpenClaim := { program := "ytdoapfgcjmkfhaa", sum := "259f59b25947b2abc1da84ba523cc51312839de381429c3993b7cf52c3dc25d9", func := "ligature/ligaturelaw8.ChainMiddle", spec := "chainMiddle", apart := false, narrowed := true }
def ChainMiddleUptoSaid : Prop := chainMiddleUptoRow.holds Try.pinned (OpenSpec.upto chainMiddleSpec)

/-- 'ligaturelaw8.ChainPlays', WHERE WHAT IT READS IS OF BULK AT MOST 1048576: true; the input reads as it did. -/
def chainPlaysUptoRow : OpenClaim := { program := "ytdoapfgcjmkfhaa", sum := "259f59b25947b2abc1da84ba523cc51312839de381429c3993b7cf52c3dc25d9", func := "ligature/ligaturelaw8.ChainPlays", spec := "chainPlays", apart := false, narrowed := true }
def ChainPlaysUptoSaid : Prop := chainPlaysUptoRow.holds Try.pinned (OpenSpec.upto chainPlaysSpec)

/-- 'ligaturelaw8.ChainApart', WHERE WHAT IT READS IS OF BULK AT MOST 1048576: true; the input reads as it did. -/
def chainApartUptoRow : OpenClaim := { program := "ytdoapfgcjmkfhaa", sum := "259f59b25947b2abc1da84ba523cc51312839de381429c3993b7cf52c3dc25d9", func := "ligature/ligaturelaw8.ChainApart", spec := "chainApart", apart := false, narrowed := true }
def ChainApartUptoSaid : Prop := chainApartUptoRow.holds Try.pinned (OpenSpec.upto chainApartSpec)

/-- 'ligaturelaw8.ChainOfNothing', WHERE WHAT IT READS IS OF BULK AT MOST 1048576: true; the input reads as it did. -/
def chainOfNothingUptoRow : OpenClaim := { program := "ytdoapfgcjmkfhaa", sum := "259f59b25947b2abc1da84ba523cc51312839de381429c3993b7cf52c3dc25d9", func := "ligature/ligaturelaw8.ChainOfNothing", spec := "chainOfNothing", apart := false, narrowed := true }
def ChainOfNothingUptoSaid : Prop := chainOfNothingUptoRow.holds Try.pinned (OpenSpec.upto chainOfNothingSpec)

/-- 'ligaturelaw8.ChainMany', WHERE WHAT IT READS IS OF BULK AT MOST 1048576: true; the input reads as it did. -/
def chainManyUptoRow : OpenClaim := { program := "ytdoapfgcjmkfhaa", sum := "259f59b25947b2abc1da84ba523cc51312839de381429c3993b7cf52c3dc25d9", func := "ligature/ligaturelaw8.ChainMany", spec := "chainMany", apart := false, narrowed := true }
def ChainManyUptoSaid : Prop := chainManyUptoRow.holds Try.pinned (OpenSpec.upto chainManySpec)

/-- 'ligaturelaw8.ChainAgain', WHERE WHAT IT READS IS OF BULK AT MOST 1048576: true; the input reads as it did. -/
def chainAgainUptoRow : OpenClaim := { program := "ytdoapfgcjmkfhaa", sum := "259f59b25947b2abc1da84ba523cc51312839de381429c3993b7cf52c3dc25d9", func := "ligature/ligaturelaw8.ChainAgain", spec := "chainAgain", apart := false, narrowed := true }
def ChainAgainUptoSaid : Prop := chainAgainUptoRow.holds Try.pinned (OpenSpec.upto chainAgainSpec)

end Rows
end Go.Proofs.Ytdoapfgcjmkfhaa
