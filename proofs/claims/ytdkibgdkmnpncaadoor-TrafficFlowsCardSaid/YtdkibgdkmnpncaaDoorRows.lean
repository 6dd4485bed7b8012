/-
  NARROWER THAN 'FOR EVERY INPUT', by the rows' own cells (each row's printed sentence says how): TrafficConsistent: laid · TrafficLoops: laid · TrafficFlows: laid · TrafficGreedy: laid.
  DERIVED. THE GIVEN ROWS OF THIS SEAT. 4 by the template 'for every input the law returns true; each argument reads behind the call as it read before'; 0 by the template 'total and deterministic' (their statements: YtdkibgdkmnpncaaDoorTotals.lean).
  GIVEN WITH THE SEED: the statements are not yours to turn. If you find one false, say at which input.
  Laid BY PROGRAM, IN A SANDBOX (cutbox-rows.mjs): the forced cells as the released guide's own fill.sh prints them over the translation 9de14b94126ec7e7… (all of the seat's roots in one cut). By AI agents, Wed Nov 11 2026. No macro, syntax, notation, axiom, sorry.
-/
import Derived.Test.YtdkibgdkmnpncaaDoorChecked
import GoSem.Claim
import GoSem.ClaimJoined
import GoSem.ClaimMapViews
import Derived.JoinedTies
import Derived.KernelRfl
namespace Go.Proofs.YtdkibgdkmnpncaaDoor
/- THE CELL 'sum', in the pinned program and in every row, IS THE sha256 OF THE DUMP (.gsa) THAT YtdkibgdkmnpncaaDoorProg.lean LOADS. Nothing in Lean hashes anything: it is a label: what it is worth is what the hold of that sum in a sandbox is worth. -/
noncomputable def Tryd.pinned : Pinned := { name := "ytdkibgdkmnpncaadoor", sum := "9de14b94126ec7e744a0190f3f74a00501686c24bd81451240fd11107b9ac6f8", checked := Tryd.checked }
namespace Rows
def none {H : Type} : Left H := { results := [], args := [] }

/- WHAT THE LISTED PACKAGE-LEVEL VARIABLES READ AS WHEN THE CALL BEGINS. Each datum BY PROGRAM (the guide's laid-datum.mjs) off the statement by which the dump's own 'gosem.cut.vars' lays the variable. In a bare row this is a premise. The card (YtdkibgdkmnpncaaDoorCards.lean) ties it to the program's text. -/
def laid_baggage_baggageref07_words {H : Type} : DataW H := .slice [.lit (.string []), .lit (.string [101, 110, 116, 114, 121]), .lit (.string [98, 101, 108, 116]), .lit (.string [115, 99, 114, 101, 101, 110]), .lit (.string [100, 105, 118, 101, 114, 116, 101, 114]), .lit (.string [108, 111, 111, 112]), .lit (.string [103, 97, 116, 101]), .lit (.string [115, 116, 111, 114, 101]), .lit (.string [99, 104, 117, 116, 101]), .lit (.string [109, 97, 110, 117, 97, 108])] []
def laid_math_bits_deBruijn32tab {H : Type} : DataW H := .agg [.lit (.int .u8 0), .lit (.int .u8 1), .lit (.int .u8 28), .lit (.int .u8 2), .lit (.int .u8 29), .lit (.int .u8 14), .lit (.int .u8 24), .lit (.int .u8 3), .lit (.int .u8 30), .lit (.int .u8 22), .lit (.int .u8 20), .lit (.int .u8 15), .lit (.int .u8 25), .lit (.int .u8 17), .lit (.int .u8 4), .lit (.int .u8 8), .lit (.int .u8 31), .lit (.int .u8 27), .lit (.int .u8 13), .lit (.int .u8 23), .lit (.int .u8 21), .lit (.int .u8 19), .lit (.int .u8 16), .lit (.int .u8 7), .lit (.int .u8 26), .lit (.int .u8 12), .lit (.int .u8 18), .lit (.int .u8 6), .lit (.int .u8 11), .lit (.int .u8 5), .lit (.int .u8 10), .lit (.int .u8 9)]
def laid_math_bits_deBruijn64tab {H : Type} : DataW H := .agg [.lit (.int .u8 0), .lit (.int .u8 1), .lit (.int .u8 56), .lit (.int .u8 2), .lit (.int .u8 57), .lit (.int .u8 49), .lit (.int .u8 28), .lit (.int .u8 3), .lit (.int .u8 61), .lit (.int .u8 58), .lit (.int .u8 42), .lit (.int .u8 50), .lit (.int .u8 38), .lit (.int .u8 29), .lit (.int .u8 17), .lit (.int .u8 4), .lit (.int .u8 62), .lit (.int .u8 47), .lit (.int .u8 59), .lit (.int .u8 36), .lit (.int .u8 45), .lit (.int .u8 43), .lit (.int .u8 51), .lit (.int .u8 22), .lit (.int .u8 53), .lit (.int .u8 39), .lit (.int .u8 33), .lit (.int .u8 30), .lit (.int .u8 24), .lit (.int .u8 18), .lit (.int .u8 12), .lit (.int .u8 5), .lit (.int .u8 63), .lit (.int .u8 55), .lit (.int .u8 48), .lit (.int .u8 27), .lit (.int .u8 60), .lit (.int .u8 41), .lit (.int .u8 37), .lit (.int .u8 16), .lit (.int .u8 46), .lit (.int .u8 35), .lit (.int .u8 44), .lit (.int .u8 21), .lit (.int .u8 52), .lit (.int .u8 32), .lit (.int .u8 23), .lit (.int .u8 11), .lit (.int .u8 54), .lit (.int .u8 26), .lit (.int .u8 40), .lit (.int .u8 15), .lit (.int .u8 34), .lit (.int .u8 20), .lit (.int .u8 31), .lit (.int .u8 10), .lit (.int .u8 25), .lit (.int .u8 14), .lit (.int .u8 19), .lit (.int .u8 9), .lit (.int .u8 13), .lit (.int .u8 8), .lit (.int .u8 7), .lit (.int .u8 6)]

/-- 'baggagelaw10.TrafficConsistent': WHATEVER THE INPUT: true; the input reads as it did. -/
def trafficConsistentSpec : ChangeSpec := { name := "trafficConsistent", fn := fun _ => fun
  | [d] => { results := [.lit (.bool true)], args := [d] }
  | _ => none }
def trafficConsistentRow : OpenClaim := { program := "ytdkibgdkmnpncaadoor", sum := "9de14b94126ec7e744a0190f3f74a00501686c24bd81451240fd11107b9ac6f8", func := "baggage/baggagelaw10.TrafficConsistent", spec := "trafficConsistent", unfollowed := true, recurses := true, named := ["math/bits.deBruijn32tab", "math/bits.deBruijn64tab", "baggage/baggageref07.words"], apart := false, laid := [("baggage/baggageref07.words", laid_baggage_baggageref07_words), ("math/bits.deBruijn32tab", laid_math_bits_deBruijn32tab), ("math/bits.deBruijn64tab", laid_math_bits_deBruijn64tab)] }
def TrafficConsistentSaid : Prop := trafficConsistentRow.holds Tryd.pinned (OpenSpec.ofChange trafficConsistentSpec)

/-- ITS FALSE NEIGHBOUR: 'it returns false'. Refute it at one input. -/
def trafficConsistentWrong : ChangeSpec := { name := "trafficConsistent", fn := fun _ => fun
  | [d] => { results := [.lit (.bool false)], args := [d] }
  | _ => none }
def TrafficConsistentWrongFalsely : Prop := trafficConsistentRow.holds Tryd.pinned (OpenSpec.ofChange trafficConsistentWrong)

/-- 'baggagelaw10.TrafficLoops': WHATEVER THE INPUT: true; the input reads as it did. -/
def trafficLoopsSpec : ChangeSpec := { name := "trafficLoops", fn := fun _ => fun
  | [d] => { results := [.lit (.bool true)], args := [d] }
  | _ => none }
def trafficLoopsRow : OpenClaim := { program := "ytdkibgdkmnpncaadoor", sum := "9de14b94126ec7e744a0190f3f74a00501686c24bd81451240fd11107b9ac6f8", func := "baggage/baggagelaw10.TrafficLoops", spec := "trafficLoops", unfollowed := true, recurses := true, named := ["math/bits.deBruijn32tab", "math/bits.deBruijn64tab", "baggage/baggageref07.words"], apart := false, laid := [("baggage/baggageref07.words", laid_baggage_baggageref07_words), ("math/bits.deBruijn32tab", laid_math_bits_deBruijn32tab), ("math/bits.deBruijn64tab", laid_math_bits_deBruijn64tab)] }
def TrafficLoopsSaid : Prop := trafficLoopsRow.holds Tryd.pinned (OpenSpec.ofChange trafficLoopsSpec)

/-- ITS FALSE NEIGHBOUR: 'it returns false'. Refute it at one input. -/
def trafficLoopsWrong : ChangeSpec := { name := "trafficLoops", fn := fun _ => fun
  | [d] => { results := [.lit (.bool false)], args := [d] }
  | _ => none }
def TrafficLoopsWrongFalsely : Prop := trafficLoopsRow.holds Tryd.pinned (OpenSpec.ofChange trafficLoopsWrong)

/-- 'baggagelaw10.TrafficFlows': WHATEVER THE INPUT: true; the input reads as it did. -/
def trafficFlowsSpec : ChangeSpec := { name := "trafficFlows", fn := fun _ => fun
  | [d1, d2, d3] => { results := [.lit (.bool true)], args := [d1, d2, d3] }
  | _ => none }
def trafficFlowsRow : OpenClaim := { program := "ytdkibgdkmnpncaadoor", sum := "9de14b94126ec7e744a0190f3f74a00501686c24bd81451240fd11107b9ac6f8", func := "baggage/baggagelaw10.TrafficFlows", spec := "trafficFlows", unfollowed := true, recurses := true, named := ["baggage/baggageref07.words", "math/bits.deBruijn32tab", "math/bits.deBruijn64tab"], apart := false, laid := [("baggage/baggageref07.words", laid_baggage_baggageref07_words), ("math/bits.deBruijn32tab", laid_math_bits_deBruijn32tab), ("math/bits.deBruijn64tab", laid_math_bits_deBruijn64tab)] }
def TrafficFlowsSaid : Prop := trafficFlowsRow.holds Tryd.pinned (OpenSpec.ofChange trafficFlowsSpec)

/-- ITS FALSE NEIGHBOUR: 'it returns false'. Refute it at one input. -/
def trafficFlowsWrong : ChangeSpec := { name := "trafficFlows", fn := fun _ => fun
  | [d1, d2, d3] => { results := [.lit (.bool false)], args := [d1, d2, d3] }
  | _ => none }
def TrafficFlowsWrongFalsely : Prop := trafficFlowsRow.holds Tryd.pinned (OpenSpec.ofChange trafficFlowsWrong)

/-- 'baggagelaw10.TrafficGreedy': WHATEVER THE INPUT: true; the input reads as it did. -/
def trafficGreedySpec : ChangeSpec := { name := "trafficGreedy", fn := fun _ => fun
  | [d] => { results := [.lit (.bool true)], args := [d] }
  | _ => none }
def trafficGreedyRow : OpenClaim := { program := "ytdkibgdkmnpncaadoor", sum := "9de14b94126ec7e744a0190f3f74a00501686c24bd81451240fd11107b9ac6f8", func := "baggage/baggagelaw10.TrafficGreedy", spec := "trafficGreedy", unfollowed := true, recurses := true, named := ["math/bits.deBruijn32tab", "math/bits.deBruijn64tab", "baggage/baggageref07.words"], apart := false, laid := [("baggage/baggageref07.words", laid_baggage_baggageref07_words), ("math/bits.deBruijn32tab", laid_math_bits_deBruijn32tab), ("math/bits.deBruijn64tab", laid_math_bits_deBruijn64tab)] }
def TrafficGreedySaid : Prop := trafficGreedyRow.holds Tryd.pinned (OpenSpec.ofChange trafficGreedySpec)

/-- ITS FALSE NEIGHBOUR: 'it returns false'. Refute it at one input. -/
def trafficGreedyWrong : ChangeSpec := { name := "trafficGreedy", fn := fun _ => fun
  | [d] => { results := [.lit (.bool false)], args := [d] }
  | _ => none }
def TrafficGreedyWrongFalsely : Prop := trafficGreedyRow.holds Tryd.pinned (OpenSpec.ofChange trafficGreedyWrong)

/- THE SECOND FORM. 'bulk': how many values and letters a reading holds, each counted each time it is reached (what is shared counts as often as it is met; a slice's spare places count too). A statement '..UptoSaid' is the law's where the arguments, and the package variables that the reading takes, are together of bulk at most 1048576: NARROWER than '..Said'. Prove '..Said' where nothing that the law and all that it calls make is longer than what came in: it says more and counts as full. Else prove '..UptoSaid'. A law counts once. -/
mutual
def uptoBulk {H : Type} : DataW H → Nat
  | .lit (.string bytes) => bytes.length + 1
  | .lit _ => 1
  | .nil => 1
  | .ptr d => uptoBulk d + 1
  | .slice elems spare => uptoBulkAll elems + uptoBulkAll spare + 1
  | .agg parts => uptoBulkAll parts + 1
  | .iface _ d => uptoBulk d + 1
  | .map entries => uptoBulkEntries entries + 1
  | .held _ => 1
def uptoBulkAll {H : Type} : List (DataW H) → Nat
  | [] => 0
  | d :: r => uptoBulk d + uptoBulkAll r
def uptoBulkEntries {H : Type} : List (Lit × DataW H) → Nat
  | [] => 0
  | x :: r => uptoBulkEntry x + uptoBulkEntries r
def uptoBulkEntry {H : Type} : Lit × DataW H → Nat
  | (.string bytes, d) => bytes.length + uptoBulk d + 1
  | (_, d) => uptoBulk d + 1
 end
def uptoSmall : (H : Type) → List (DataW H) → Bool := fun _ ds => decide (uptoBulkAll ds ≤ 1048576)
def OpenSpec.upto (s : _root_.Go.ChangeSpec) : _root_.Go.OpenSpec := { _root_.Go.OpenSpec.ofChange s with cond := some uptoSmall }

/-- 'baggagelaw10.TrafficConsistent', WHERE WHAT IT READS IS OF BULK AT MOST 1048576: true; the input reads as it did. -/
def trafficConsistentUptoRow : OpenClaim := { program := "ytdkibgdkmnpncaadoor", sum := "9de14b94126ec7e744a0190f3f74a00501686c24bd81451240fd11107b9ac6f8", func := "baggage/baggagelaw10.TrafficConsistent", spec := "trafficConsistent", unfollowed := true, recurses := true, named := ["math/bits.deBruijn32tab", "math/bits.deBruijn64tab", "baggage/baggageref07.words"], apart := false, laid := [("baggage/baggageref07.words", laid_baggage_baggageref07_words), ("math/bits.deBruijn32tab", laid_math_bits_deBruijn32tab), ("math/bits.deBruijn64tab", laid_math_bits_deBruijn64tab)], narrowed := true }
def TrafficConsistentUptoSaid : Prop := trafficConsistentUptoRow.holds Tryd.pinned (OpenSpec.upto trafficConsistentSpec)

/-- 'baggagelaw10.TrafficLoops', WHERE WHAT IT READS IS OF BULK AT MOST 1048576: true; the input reads as it did. -/
def trafficLoopsUptoRow : OpenClaim := { program := "ytdkibgdkmnpncaadoor", sum := "9de14b94126ec7e744a0190f3f74a00501686c24bd81451240fd11107b9ac6f8", func := "baggage/baggagelaw10.TrafficLoops", spec := "trafficLoops", unfollowed := true, recurses := true, named := ["math/bits.deBruijn32tab", "math/bits.deBruijn64tab", "baggage/baggageref07.words"], apart := false, laid := [("baggage/baggageref07.words", laid_baggage_baggageref07_words), ("math/bits.deBruijn32tab", laid_math_bits_deBruijn32tab), ("math/bits.deBruijn64tab", laid_math_bits_deBruijn64tab)], narrowed := true }
def TrafficLoopsUptoSaid : Prop := trafficLoopsUptoRow.holds Tryd.pinned (OpenSpec.upto trafficLoopsSpec)

/-- 'baggagelaw10.TrafficFlows', WHERE WHAT IT READS IS OF BULK AT MOST 1048576: true; the input reads as it did. -/
def trafficFlowsUptoRow : OpenClaim := { program := "ytdkibgdkmnpncaadoor", sum := "9de14b94126ec7e744a0190f3f74a00501686c24bd81451240fd11107b9ac6f8", func := "baggage/baggagelaw10.TrafficFlows", spec := "trafficFlows", unfollowed := true, recurses := true, named := ["baggage/baggageref07.words", "math/bits.deBruijn32tab", "math/bits.deBruijn64tab"], apart := false, laid := [("baggage/baggageref07.words", laid_baggage_baggageref07_words), ("math/bits.deBruijn32tab", laid_math_bits_deBruijn32tab), ("math/bits.deBruijn64tab", laid_math_bits_deBruijn64tab)], narrowed := true }
def TrafficFlowsUptoSaid : Prop := trafficFlowsUptoRow.holds Tryd.pinned (OpenSpec.upto trafficFlowsSpec)

/-- 'baggagelaw10.TrafficGreedy', WHERE WHAT IT READS IS OF BULK AT MOST 1048576: true; the input reads as it did. -/
def trafficGreedyUptoRow : OpenClaim := { program := "ytdkibgdkmnpncaadoor", sum := "9de14b94126ec7e744a0190f3f74a00501686c24bd81451240fd11107b9ac6f8", func := "baggage/baggagelaw10.TrafficGreedy", spec := "trafficGreedy", unfollowed := true, recurses := true, named := ["math/bits.deBruijn32tab", "math/bits.deBruijn64tab", "baggage/baggageref07.words"], apart := false, laid := [("baggage/baggageref07.words", laid_baggage_baggageref07_words), ("math/bits.deBruijn32tab", laid_math_bits_deBruijn32tab), ("math/bits.deBruijn64tab", laid_math_bits_deBruijn64tab)], narrowed := true }
def TrafficGreedyUptoSaid : Prop := trafficGreedyUptoRow.holds Tryd.pinned (OpenSpec.upto trafficGreedySpec)

end Rows
end Go.Proofs.YtdkibgdkmnpncaaDoor
