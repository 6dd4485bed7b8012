/-
  NARROWER THAN 'FOR EVERY INPUT', by the rows' own cells (each row's printed sentence says how): SensorObserves: laid · SensorCosts: laid · SensorExplains: laid · SensorIdentifies: laid.
  DERIVED. THE GIVEN ROWS OF THIS SEAT. 4 by the template 'for every input the law returns true; each argument reads behind the call as it read before'; 0 by the template 'total and deterministic' (their statements: YtjpikgfknnamjaaDoorTotals.lean).
  GIVEN WITH THE SEED: the statements are not yours to turn. If you find one false, say at which input.
  Laid BY PROGRAM, IN A SANDBOX (cutbox-rows.mjs): the forced cells as the released guide's own fill.sh prints them over the translation 3eaeab090e9932f3… (all of the seat's roots in one cut). By AI agents, Wed Nov 11 2026. No macro, syntax, notation, axiom, sorry.
-/
import Derived.Test.YtjpikgfknnamjaaDoorChecked
import GoSem.Claim
import GoSem.ClaimJoined
import GoSem.ClaimMapViews
import Derived.JoinedTies
import Derived.KernelRfl
namespace Go.Proofs.YtjpikgfknnamjaaDoor
/- THE CELL 'sum', in the pinned program and in every row, IS THE sha256 OF THE DUMP (.gsa) THAT YtjpikgfknnamjaaDoorProg.lean LOADS. Nothing in Lean hashes anything: it is a label: what it is worth is what the hold of that sum in a sandbox is worth. -/
noncomputable def Tryd.pinned : Pinned := { name := "ytjpikgfknnamjaadoor", sum := "3eaeab090e9932f3cc06e89ef3500e034a7422c5499c5e8e5d3398593bee531c", checked := Tryd.checked }
namespace Rows
def none {H : Type} : Left H := { results := [], args := [] }

/- WHAT THE LISTED PACKAGE-LEVEL VARIABLES READ AS WHEN THE CALL BEGINS. Each datum BY PROGRAM (the guide's laid-datum.mjs) off the statement by which the dump's own 'gosem.cut.vars' lays the variable. In a bare row this is a premise. The card (YtjpikgfknnamjaaDoorCards.lean) ties it to the program's text. -/
def laid_baggage_baggageref07_words {H : Type} : DataW H := .slice [.lit (.string []), .lit (.string [101, 110, 116, 114, 121]), .lit (.string [98, 101, 108, 116]), .lit (.string [115, 99, 114, 101, 101, 110]), .lit (.string [100, 105, 118, 101, 114, 116, 101, 114]), .lit (.string [108, 111, 111, 112]), .lit (.string [103, 97, 116, 101]), .lit (.string [115, 116, 111, 114, 101]), .lit (.string [99, 104, 117, 116, 101]), .lit (.string [109, 97, 110, 117, 97, 108])] []

/-- 'baggagelaw12.SensorObserves': WHATEVER THE INPUT: true; the input reads as it did. -/
def sensorObservesSpec : ChangeSpec := { name := "sensorObserves", fn := fun _ => fun
  | [d1, d2, d3] => { results := [.lit (.bool true)], args := [d1, d2, d3] }
  | _ => none }
def sensorObservesRow : OpenClaim := { program := "ytjpikgfknnamjaadoor", sum := "3eaeab090e9932f3cc06e89ef3500e034a7422c5499c5e8e5d3398593bee531c", func := "baggage/baggagelaw12.SensorObserves", spec := "sensorObserves", unfollowed := true, recurses := true, named := ["baggage/baggageref07.words"], apart := false, laid := [("baggage/baggageref07.words", laid_baggage_baggageref07_words)] }
def SensorObservesSaid : Prop := sensorObservesRow.holds Tryd.pinned (OpenSpec.ofChange sensorObservesSpec)

/-- ITS FALSE NEIGHBOUR: 'it returns false'. Refute it at one input. -/
def sensorObservesWrong : ChangeSpec := { name := "sensorObserves", fn := fun _ => fun
  | [d1, d2, d3] => { results := [.lit (.bool false)], args := [d1, d2, d3] }
  | _ => none }
def SensorObservesWrongFalsely : Prop := sensorObservesRow.holds Tryd.pinned (OpenSpec.ofChange sensorObservesWrong)

/-- 'baggagelaw12.SensorCosts': WHATEVER THE INPUT: true; the input reads as it did. -/
def sensorCostsSpec : ChangeSpec := { name := "sensorCosts", fn := fun _ => fun
  | [d1, d2, d3, d4] => { results := [.lit (.bool true)], args := [d1, d2, d3, d4] }
  | _ => none }
def sensorCostsRow : OpenClaim := { program := "ytjpikgfknnamjaadoor", sum := "3eaeab090e9932f3cc06e89ef3500e034a7422c5499c5e8e5d3398593bee531c", func := "baggage/baggagelaw12.SensorCosts", spec := "sensorCosts", unfollowed := true, recurses := true, named := ["baggage/baggageref07.words"], apart := false, laid := [("baggage/baggageref07.words", laid_baggage_baggageref07_words)] }
def SensorCostsSaid : Prop := sensorCostsRow.holds Tryd.pinned (OpenSpec.ofChange sensorCostsSpec)

/-- ITS FALSE NEIGHBOUR: 'it returns false'. Refute it at one input. -/
def sensorCostsWrong : ChangeSpec := { name := "sensorCosts", fn := fun _ => fun
  | [d1, d2, d3, d4] => { results := [.lit (.bool false)], args := [d1, d2, d3, d4] }
  | _ => none }
def SensorCostsWrongFalsely : Prop := sensorCostsRow.holds Tryd.pinned (OpenSpec.ofChange sensorCostsWrong)

/-- 'baggagelaw12.SensorExplains': WHATEVER THE INPUT: true; the input reads as it did. -/
def sensorExplainsSpec : ChangeSpec := { name := "sensorExplains", fn := fun _ => fun
  | [d] => { results := [.lit (.bool true)], args := [d] }
  | _ => none }
def sensorExplainsRow : OpenClaim := { program := "ytjpikgfknnamjaadoor", sum := "3eaeab090e9932f3cc06e89ef3500e034a7422c5499c5e8e5d3398593bee531c", func := "baggage/baggagelaw12.SensorExplains", spec := "sensorExplains", unfollowed := true, recurses := true, named := ["baggage/baggageref07.words"], apart := false, laid := [("baggage/baggageref07.words", laid_baggage_baggageref07_words)] }
def SensorExplainsSaid : Prop := sensorExplainsRow.holds Tryd.pinned (OpenSpec.ofChange sensorExplainsSpec)

/-- ITS FALSE NEIGHBOUR: 'it returns false'. Refute it at one input. -/
def sensorExplainsWrong : ChangeSpec := { name := "sensorExplains", fn := fun _ => fun
  | [d] => { results := [.lit (.bool false)], args := [d] }
  | _ => none }
def SensorExplainsWrongFalsely : Prop := sensorExplainsRow.holds Tryd.pinned (OpenSpec.ofChange sensorExplainsWrong)

/-- 'baggagelaw12.SensorIdentifies': WHATEVER THE INPUT: true; the input reads as it did. -/
def sensorIdentifiesSpec : ChangeSpec := { name := "sensorIdentifies", fn := fun _ => fun
  | [d1, d2] => { results := [.lit (.bool true)], args := [d1, d2] }
  | _ => none }
def sensorIdentifiesRow : OpenClaim := { program := "ytjpikgfknnamjaadoor", sum := "3eaeab090e9932f3cc06e89ef3500e034a7422c5499c5e8e5d3398593bee531c", func := "baggage/baggagelaw12.SensorIdentifies", spec := "sensorIdentifies", unfollowed := true, recurses := true, named := ["baggage/baggageref07.words"], apart := false, laid := [("baggage/baggageref07.words", laid_baggage_baggageref07_words)] }
def SensorIdentifiesSaid : Prop := sensorIdentifiesRow.holds Tryd.pinned (OpenSpec.ofChange sensorIdentifiesSpec)

/-- ITS FALSE NEIGHBOUR: 'it returns false'. Refute it at one input. -/
def sensorIdentifiesWrong : ChangeSpec := { name := "sensorIdentifies", fn := fun _ => fun
  | [d1, d2] => { results := [.lit (.bool false)], args := [d1, d2] }
  | _ => none }
def SensorIdentifiesWrongFalsely : Prop := sensorIdentifiesRow.holds Tryd.pinned (OpenSpec.ofChange sensorIdentifiesWrong)

/- THE SECOND FORM. 'bulk': how many values and letters a reading holds, each counted each time it is reached (what is shared counts as often as it is met; a slice's spare places count too). A statement '..UptoSaid' is the law's where the arguments, and the package variables that the reading takes, are together of bulk at most 1048576: NARROWER than '..Said'. Prove '..Said' where nothing that the law and all that it calls make is longer than what came in: it says more and counts as full. Else prove '..UptoSaid'. A law counts once. -/
mutual
def uptoBulk {H : Type} : DataW H → Nat
  | .lit (.string bytes) => bytes.length + 1
  | .lit _ => 1
  | .nil => 1
  | .ptr d => uptoBulk d + 1
  | .slice elems spare => uptoBulkAll elems + uptoBulkAll spare + 1
  | .agg parts => uptoBulkAll parts + 1
  | .iface _ d => uptoBulk d + 1
  | .map entries => uptoBulkEntries entries + 1
  | .held _ => 1
def uptoBulkAll {H : Type} : List (DataW H) → Nat
  | [] => 0
  | d :: r => uptoBulk d + uptoBulkAll r
def uptoBulkEntries {H : Type} : List (Lit × DataW H) → Nat
  | [] => 0
  | x :: r => uptoBulkEntry x + uptoBulkEntries r
def uptoBulkEntry {H : Type} : Lit × DataW H → Nat
  | (.string bytes, d) => bytes.length + uptoBulk d + 1
  | (_, d) => uptoBulk d + 1
 end
def uptoSmall : (H : Type) → List (DataW H) → Bool := fun _ ds => decide (uptoBulkAll ds ≤ 1048576)
def OpenSpec.upto (s : _root_.Go.ChangeSpec) : _root_.Go.OpenSpec := { _root_.Go.OpenSpec.ofChange s with cond := some uptoSmall }

/-- 'baggagelaw12.SensorObserves', WHERE WHAT IT READS IS OF BULK AT MOST 1048576: true; the input reads as it did. -/
def sensorObservesUptoRow : OpenClaim := { program := "ytjpikgfknnamjaadoor", sum := "3eaeab090e9932f3cc06e89ef3500e034a7422c5499c5e8e5d3398593bee531c", func := "baggage/baggagelaw12.SensorObserves", spec := "sensorObserves", unfollowed := true, recurses := true, named := ["baggage/baggageref07.words"], apart := false, laid := [("baggage/baggageref07.words", laid_baggage_baggageref07_words)], narrowed := true }
def SensorObservesUptoSaid : Prop := sensorObservesUptoRow.holds Tryd.pinned (OpenSpec.upto sensorObservesSpec)

/-- 'baggagelaw12.SensorCosts', WHERE WHAT IT READS IS OF BULK AT MOST 1048576: true; the input reads as it did. -/
def sensorCostsUptoRow : OpenClaim := { program := "ytjpikgfknnamjaadoor", sum := "3eaeab090e9932f3cc06e89ef3500e034a7422c5499c5e8e5d3398593bee531c", func := "baggage/baggagelaw12.SensorCosts", spec := "sensorCosts", unfollowed := true, recurses := true, named := ["baggage/baggageref07.words"], apart := false, laid := [("baggage/baggageref07.words", laid_baggage_baggageref07_words)], narrowed := true }
def SensorCostsUptoSaid : Prop := sensorCostsUptoRow.holds Tryd.pinned (OpenSpec.upto sensorCostsSpec)

/-- 'baggagelaw12.SensorExplains', WHERE WHAT IT READS IS OF BULK AT MOST 1048576: true; the input reads as it did. -/
def sensorExplainsUptoRow : OpenClaim := { program := "ytjpikgfknnamjaadoor", sum := "3eaeab090e9932f3cc06e89ef3500e034a7422c5499c5e8e5d3398593bee531c", func := "baggage/baggagelaw12.SensorExplains", spec := "sensorExplains", unfollowed := true, recurses := true, named := ["baggage/baggageref07.words"], apart := false, laid := [("baggage/baggageref07.words", laid_baggage_baggageref07_words)], narrowed := true }
def SensorExplainsUptoSaid : Prop := sensorExplainsUptoRow.holds Tryd.pinned (OpenSpec.upto sensorExplainsSpec)

/-- 'baggagelaw12.SensorIdentifies', WHERE WHAT IT READS IS OF BULK AT MOST 1048576: true; the input reads as it did. -/
def sensorIdentifiesUptoRow : OpenClaim := { program := "ytjpikgfknnamjaadoor", sum := "3eaeab090e9932f3cc06e89ef3500e034a7422c5499c5e8e5d3398593bee531c", func := "baggage/baggagelaw12.SensorIdentifies", spec := "sensorIdentifies", unfollowed := true, recurses := true, named := ["baggage/baggageref07.words"], apart := false, laid := [("baggage/baggageref07.words", laid_baggage_baggageref07_words)], narrowed := true }
def SensorIdentifiesUptoSaid : Prop := sensorIdentifiesUptoRow.holds Tryd.pinned (OpenSpec.upto sensorIdentifiesSpec)

end Rows
end Go.Proofs.YtjpikgfknnamjaaDoor
