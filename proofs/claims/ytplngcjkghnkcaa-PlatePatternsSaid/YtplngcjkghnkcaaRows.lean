/-
  No cell of these rows narrows 'for every input' (looked for: loops, veiled, ifaces, maps, wideKeys, modest, calm, conditions, laid).
  DERIVED. THE GIVEN ROWS OF THIS SEAT. 7 by the template 'for every input the law returns true; each argument reads behind the call as it read before'; 0 by the template 'total and deterministic' (their statements: YtplngcjkghnkcaaTotals.lean).
  GIVEN WITH THE SEED: the statements are not yours to turn. If you find one false, say at which input.
  Laid BY PROGRAM, IN A SANDBOX (cutbox-rows.mjs): the forced cells as the released guide's own fill.sh prints them over the translation b8284595de7b93da… (all of the seat's roots in one cut). By AI agents, Wed Nov 11 2026. No macro, syntax, notation, axiom, sorry.
-/
import Derived.Test.YtplngcjkghnkcaaChecked
import GoSem.Claim
import GoSem.ClaimJoined
import GoSem.ClaimMapViews
import Derived.JoinedTies
import Derived.KernelRfl
namespace Go.Proofs.Ytplngcjkghnkcaa
/- THE CELL 'sum', in the pinned program and in every row, IS THE sha256 OF THE DUMP (.gsa) THAT YtplngcjkghnkcaaProg.lean LOADS. Nothing in Lean hashes anything: it is a label: what it is worth is what the hold of that sum in a sandbox is worth. -/
noncomputable def Try.pinned : Pinned := { name := "ytplngcjkghnkcaa", sum := "b8284595de7b93da38333e4a39c3f8638ebe0128c92772bc7f7c597d3d6c39fb", checked := Try.checked }
namespace Rows
def none {H : Type} : Left H := { results := [], args := [] }

/-- 'baggagelaw01.PlateBack': WHATEVER THE INPUT: true; the input reads as it did. -/
def plateBackSpec : ChangeSpec := { name := "plateBack", fn := fun _ => fun
  | [d1, d2] => { results := [.lit (.bool true)], args := [d1, d2] }
  | _ => none }
def plateBackRow : OpenClaim := { program := "ytplngcjkghnkcaa", sum := "b8284595de7b93da38333e4a39c3f8638ebe0128c92772bc7f7c597d3d6c39fb", func := "baggage/baggagelaw01.PlateBack", spec := "plateBack", apart := false }
def PlateBackSaid : Prop := plateBackRow.holds Try.pinned (OpenSpec.ofChange plateBackSpec)

/-- ITS FALSE NEIGHBOUR: 'it returns false'. Refute it at one input. -/
def plateBackWrong : ChangeSpec := { name := "plateBack", fn := fun _ => fun
  | [d1, d2] => { results := [.lit (.bool false)], args := [d1, d2] }
  | _ => none }
def PlateBackWrongFalsely : Prop := plateBackRow.holds Try.pinned (OpenSpec.ofChange plateBackWrong)

/-- 'baggagelaw01.PlateTexts': WHATEVER THE INPUT: true; the input reads as it did. -/
def plateTextsSpec : ChangeSpec := { name := "plateTexts", fn := fun _ => fun
  | [d1, d2] => { results := [.lit (.bool true)], args := [d1, d2] }
  | _ => none }
def plateTextsRow : OpenClaim := { program := "ytplngcjkghnkcaa", sum := "b8284595de7b93da38333e4a39c3f8638ebe0128c92772bc7f7c597d3d6c39fb", func := "baggage/baggagelaw01.PlateTexts", spec := "plateTexts", apart := false }
def PlateTextsSaid : Prop := plateTextsRow.holds Try.pinned (OpenSpec.ofChange plateTextsSpec)

/-- ITS FALSE NEIGHBOUR: 'it returns false'. Refute it at one input. -/
def plateTextsWrong : ChangeSpec := { name := "plateTexts", fn := fun _ => fun
  | [d1, d2] => { results := [.lit (.bool false)], args := [d1, d2] }
  | _ => none }
def PlateTextsWrongFalsely : Prop := plateTextsRow.holds Try.pinned (OpenSpec.ofChange plateTextsWrong)

/-- 'baggagelaw01.PlateRuns': WHATEVER THE INPUT: true; the input reads as it did. -/
def plateRunsSpec : ChangeSpec := { name := "plateRuns", fn := fun _ => fun
  | [d1, d2] => { results := [.lit (.bool true)], args := [d1, d2] }
  | _ => none }
def plateRunsRow : OpenClaim := { program := "ytplngcjkghnkcaa", sum := "b8284595de7b93da38333e4a39c3f8638ebe0128c92772bc7f7c597d3d6c39fb", func := "baggage/baggagelaw01.PlateRuns", spec := "plateRuns", apart := false }
def PlateRunsSaid : Prop := plateRunsRow.holds Try.pinned (OpenSpec.ofChange plateRunsSpec)

/-- ITS FALSE NEIGHBOUR: 'it returns false'. Refute it at one input. -/
def plateRunsWrong : ChangeSpec := { name := "plateRuns", fn := fun _ => fun
  | [d1, d2] => { results := [.lit (.bool false)], args := [d1, d2] }
  | _ => none }
def PlateRunsWrongFalsely : Prop := plateRunsRow.holds Try.pinned (OpenSpec.ofChange plateRunsWrong)

/-- 'baggagelaw01.PlateDistinct': WHATEVER THE INPUT: true; the input reads as it did. -/
def plateDistinctSpec : ChangeSpec := { name := "plateDistinct", fn := fun _ => fun
  | [d1, d2, d3, d4] => { results := [.lit (.bool true)], args := [d1, d2, d3, d4] }
  | _ => none }
def plateDistinctRow : OpenClaim := { program := "ytplngcjkghnkcaa", sum := "b8284595de7b93da38333e4a39c3f8638ebe0128c92772bc7f7c597d3d6c39fb", func := "baggage/baggagelaw01.PlateDistinct", spec := "plateDistinct", apart := false }
def PlateDistinctSaid : Prop := plateDistinctRow.holds Try.pinned (OpenSpec.ofChange plateDistinctSpec)

/-- ITS FALSE NEIGHBOUR: 'it returns false'. Refute it at one input. -/
def plateDistinctWrong : ChangeSpec := { name := "plateDistinct", fn := fun _ => fun
  | [d1, d2, d3, d4] => { results := [.lit (.bool false)], args := [d1, d2, d3, d4] }
  | _ => none }
def PlateDistinctWrongFalsely : Prop := plateDistinctRow.holds Try.pinned (OpenSpec.ofChange plateDistinctWrong)

/-- 'baggagelaw01.PlateReads': WHATEVER THE INPUT: true; the input reads as it did. -/
def plateReadsSpec : ChangeSpec := { name := "plateReads", fn := fun _ => fun
  | [d1, d2, d3] => { results := [.lit (.bool true)], args := [d1, d2, d3] }
  | _ => none }
def plateReadsRow : OpenClaim := { program := "ytplngcjkghnkcaa", sum := "b8284595de7b93da38333e4a39c3f8638ebe0128c92772bc7f7c597d3d6c39fb", func := "baggage/baggagelaw01.PlateReads", spec := "plateReads", apart := false }
def PlateReadsSaid : Prop := plateReadsRow.holds Try.pinned (OpenSpec.ofChange plateReadsSpec)

/-- ITS FALSE NEIGHBOUR: 'it returns false'. Refute it at one input. -/
def plateReadsWrong : ChangeSpec := { name := "plateReads", fn := fun _ => fun
  | [d1, d2, d3] => { results := [.lit (.bool false)], args := [d1, d2, d3] }
  | _ => none }
def PlateReadsWrongFalsely : Prop := plateReadsRow.holds Try.pinned (OpenSpec.ofChange plateReadsWrong)

/-- 'baggagelaw01.PlatePatterns': WHATEVER THE INPUT: true; the input reads as it did. -/
def platePatternsSpec : ChangeSpec := { name := "platePatterns", fn := fun _ => fun
  | [d1, d2, d3, d4] => { results := [.lit (.bool true)], args := [d1, d2, d3, d4] }
  | _ => none }
def platePatternsRow : OpenClaim := { program := "ytplngcjkghnkcaa", sum := "b8284595de7b93da38333e4a39c3f8638ebe0128c92772bc7f7c597d3d6c39fb", func := "baggage/baggagelaw01.PlatePatterns", spec := "platePatterns", apart := false }
def PlatePatternsSaid : Prop := platePatternsRow.holds Try.pinned (OpenSpec.ofChange platePatternsSpec)

/-- ITS FALSE NEIGHBOUR: 'it returns false'. Refute it at one input. -/
def platePatternsWrong : ChangeSpec := { name := "platePatterns", fn := fun _ => fun
  | [d1, d2, d3, d4] => { results := [.lit (.bool false)], args := [d1, d2, d3, d4] }
  | _ => none }
def PlatePatternsWrongFalsely : Prop := platePatternsRow.holds Try.pinned (OpenSpec.ofChange platePatternsWrong)

/-- 'baggagelaw01.PlateOrder': WHATEVER THE INPUT: true; the input reads as it did. -/
def plateOrderSpec : ChangeSpec := { name := "plateOrder", fn := fun _ => fun
  | [d1, d2] => { results := [.lit (.bool true)], args := [d1, d2] }
  | _ => none }
def plateOrderRow : OpenClaim := { program := "ytplngcjkghnkcaa", sum := "b8284595de7b93da38333e4a39c3f8638ebe0128c92772bc7f7c597d3d6c39fb", func := "baggage/baggagelaw01.PlateOrder", spec := "plateOrder", apart := false }
def PlateOrderSaid : Prop := plateOrderRow.holds Try.pinned (OpenSpec.ofChange plateOrderSpec)

/-- ITS FALSE NEIGHBOUR: 'it returns false'. Refute it at one input. -/
def plateOrderWrong : ChangeSpec := { name := "plateOrder", fn := fun _ => fun
  | [d1, d2] => { results := [.lit (.bool false)], args := [d1, d2] }
  | _ => none }
def PlateOrderWrongFalsely : Prop := plateOrderRow.holds Try.pinned (OpenSpec.ofChange plateOrderWrong)

/- THE SECOND FORM. 'bulk': how many values and letters a reading holds, each counted each time it is reached (what is shared counts as often as it is met; a slice's spare places count too). A statement '..UptoSaid' is the law's where the arguments, and the package variables that the reading takes, are together of bulk at most 1048576: NARROWER than '..Said'. Prove '..Said' where nothing that the law and all that it calls make is longer than what came in: it says more and counts as full. Else prove '..UptoSaid'. A law counts once. -/
mutual
def uptoBulk {H : Type} : DataW H → Nat
  | .lit (.string bytes) => bytes.length + 1
  | .lit _ => 1
  | .nil => 1
  | .ptr d => uptoBulk d + 1
  | .slice elems spare => uptoBulkAll elems + uptoBulkAll spare + 1
  | .agg parts => uptoBulkAll parts + 1
  | .iface _ d => uptoBulk d + 1
  | .map entries => uptoBulkEntries entries + 1
  | .held _ => 1
def uptoBulkAll {H : Type} : List (DataW H) → Nat
  | [] => 0
  | d :: r => uptoBulk d + uptoBulkAll r
def uptoBulkEntries {H : Type} : List (Lit × DataW H) → Nat
  | [] => 0
  | x :: r => uptoBulkEntry x + uptoBulkEntries r
def uptoBulkEntry {H : Type} : Lit × DataW H → Nat
  | (.string bytes, d) => bytes.length + uptoBulk d + 1
  | (_, d) => uptoBulk d + 1
 end
def uptoSmall : (H : Type) → List (DataW H) → Bool := fun _ ds => decide (uptoBulkAll ds ≤ 1048576)
def OpenSpec.upto (s : _root_.Go.ChangeSpec) : _root_.Go.OpenSpec := { _root_.Go.OpenSpec.ofChange s with cond := some uptoSmall }

/-- 'baggagelaw01.PlateBack', WHERE WHAT IT READS IS OF BULK AT MOST 1048576: true; the input reads as it did. -/
def plateBackUptoRow : OpenClaim := { program := "ytplngcjkghnkcaa", sum := "b8284595de7b93da38333e4a39c3f8638ebe0128c92772bc7f7c597d3d6c39fb", func := "baggage/baggagelaw01.PlateBack", spec := "plateBack", apart := false, narrowed := true }
def PlateBackUptoSaid : Prop := plateBackUptoRow.holds Try.pinned (OpenSpec.upto plateBackSpec)

/-- 'baggagelaw01.PlateTexts', WHERE WHAT IT READS IS OF BULK AT MOST 1048576: true; the input reads as it did. -/
def plateTextsUptoRow : OpenClaim := { program := "ytplngcjkghnkcaa", sum := "b8284595de7b93da38333e4a39c3f8638ebe0128c92772bc7f7c597d3d6c39fb", func := "baggage/baggagelaw01.PlateTexts", spec := "plateTexts", apart := false, narrowed := true }
def PlateTextsUptoSaid : Prop := plateTextsUptoRow.holds Try.pinned (OpenSpec.upto plateTextsSpec)

/-- 'baggagelaw01.PlateRuns', WHERE WHAT IT READS IS OF BULK AT MOST 1048576: true; the input reads as it did. -/
def plateRunsUptoRow : OpenClaim := { program := "ytplngcjkghnkcaa", sum := "b8284595de7b93da38333e4a39c3f8638ebe0128c92772bc7f7c597d3d6c39fb", func := "baggage/baggagelaw01.PlateRuns", spec := "plateRuns", apart := false, narrowed := true }
def PlateRunsUptoSaid : Prop := plateRunsUptoRow.holds Try.pinned (OpenSpec.upto plateRunsSpec)

/-- 'baggagelaw01.PlateDistinct', WHERE WHAT IT READS IS OF BULK AT MOST 1048576: true; the input reads as it did. -/
def plateDistinctUptoRow : OpenClaim := { program := "ytplngcjkghnkcaa", sum := "b8284595de7b93da38333e4a39c3f8638ebe0128c92772bc7f7c597d3d6c39fb", func := "baggage/baggagelaw01.PlateDistinct", spec := "plateDistinct", apart := false, narrowed := true }
def PlateDistinctUptoSaid : Prop := plateDistinctUptoRow.holds Try.pinned (OpenSpec.upto plateDistinctSpec)

/-- 'baggagelaw01.PlateReads', WHERE WHAT IT READS IS OF BULK AT MOST 1048576: true; the input reads as it did. -/
def plateReadsUptoRow : OpenClaim := { program := "ytplngcjkghnkcaa", sum := "b8284595de7b93da38333e4a39c3f8638ebe0128c92772bc7f7c597d3d6c39fb", func := "baggage/baggagelaw01.PlateReads", spec := "plateReads", apart := false, narrowed := true }
def PlateReadsUptoSaid : Prop := plateReadsUptoRow.holds Try.pinned (OpenSpec.upto plateReadsSpec)

/-- 'baggagelaw01.PlatePatterns', WHERE WHAT IT READS IS OF BULK AT MOST 1048576: true; the input reads as it did. -/
def platePatternsUptoRow : OpenClaim := { program := "ytplngcjkghnkcaa", sum := "b8284595de7b93da38333e4a39c3f8638ebe0128c92772bc7f7c597d3d6c39fb", func := "baggage/baggagelaw01.PlatePatterns", spec := "platePatterns", apart := false, narrowed := true }
def PlatePatternsUptoSaid : Prop := platePatternsUptoRow.holds Try.pinned (OpenSpec.upto platePatternsSpec)

/-- 'baggagelaw01.PlateOrder', WHERE WHAT IT READS IS OF BULK AT MOST 1048576: true; the input reads as it did. -/
def plateOrderUptoRow : OpenClaim := { program := "ytplngcjkghnkcaa", sum := "b8284595de7b93da38333e4a39c3f8638ebe0128c92772bc7f7c597d3d6c39fb", func := "baggage/baggagelaw01.PlateOrder", spec := "plateOrder", apart := false, narrowed := true }
def PlateOrderUptoSaid : Prop := plateOrderUptoRow.holds Try.pinned (OpenSpec.upto plateOrderSpec)

end Rows
end Go.Proofs.Ytplngcjkghnkcaa
