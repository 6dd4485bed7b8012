/-
  NARROWER THAN 'FOR EVERY INPUT', by the rows' own cells (each row's printed sentence says how): RouteTables: laid · RouteFollows: laid · RouteLeast: laid · RouteRepairs: laid.
  DERIVED. THE GIVEN ROWS OF THIS SEAT. 4 by the template 'for every input the law returns true; each argument reads behind the call as it read before'; 0 by the template 'total and deterministic' (their statements: YtjficagemeiecaaDoorTotals.lean).
  GIVEN WITH THE SEED: the statements are not yours to turn. If you find one false, say at which input.
  Laid BY PROGRAM, IN A SANDBOX (cutbox-rows.mjs): the forced cells as the released guide's own fill.sh prints them over the translation be0a60634795f8d3… (all of the seat's roots in one cut). By AI agents, Wed Nov 11 2026. No macro, syntax, notation, axiom, sorry.
-/
import Derived.Test.YtjficagemeiecaaDoorChecked
import GoSem.Claim
import GoSem.ClaimJoined
import GoSem.ClaimMapViews
import Derived.JoinedTies
import Derived.KernelRfl
namespace Go.Proofs.YtjficagemeiecaaDoor
/- THE CELL 'sum', in the pinned program and in every row, IS THE sha256 OF THE DUMP (.gsa) THAT YtjficagemeiecaaDoorProg.lean LOADS. Nothing in Lean hashes anything: it is a label: what it is worth is what the hold of that sum in a sandbox is worth. -/
noncomputable def Tryd.pinned : Pinned := { name := "ytjficagemeiecaadoor", sum := "be0a60634795f8d3722c3418200924bd7f27b5c503f9566ec2995d29089ed9a1", checked := Tryd.checked }
namespace Rows
def none {H : Type} : Left H := { results := [], args := [] }

/- WHAT THE LISTED PACKAGE-LEVEL VARIABLES READ AS WHEN THE CALL BEGINS. Each datum BY PROGRAM (the guide's laid-datum.mjs) off the statement by which the dump's own 'gosem.cut.vars' lays the variable. In a bare row this is a premise. The card (YtjficagemeiecaaDoorCards.lean) ties it to the program's text. -/
def laid_baggage_baggageref07_words {H : Type} : DataW H := .slice [.lit (.string []), .lit (.string [101, 110, 116, 114, 121]), .lit (.string [98, 101, 108, 116]), .lit (.string [115, 99, 114, 101, 101, 110]), .lit (.string [100, 105, 118, 101, 114, 116, 101, 114]), .lit (.string [108, 111, 111, 112]), .lit (.string [103, 97, 116, 101]), .lit (.string [115, 116, 111, 114, 101]), .lit (.string [99, 104, 117, 116, 101]), .lit (.string [109, 97, 110, 117, 97, 108])] []

/-- 'baggagelaw08.RouteTables': WHATEVER THE INPUT: true; the input reads as it did. -/
def routeTablesSpec : ChangeSpec := { name := "routeTables", fn := fun _ => fun
  | [d1, d2, d3, d4, d5, d6] => { results := [.lit (.bool true)], args := [d1, d2, d3, d4, d5, d6] }
  | _ => none }
def routeTablesRow : OpenClaim := { program := "ytjficagemeiecaadoor", sum := "be0a60634795f8d3722c3418200924bd7f27b5c503f9566ec2995d29089ed9a1", func := "baggage/baggagelaw08.RouteTables", spec := "routeTables", unfollowed := true, recurses := true, named := ["baggage/baggageref07.words"], apart := false, laid := [("baggage/baggageref07.words", laid_baggage_baggageref07_words)] }
def RouteTablesSaid : Prop := routeTablesRow.holds Tryd.pinned (OpenSpec.ofChange routeTablesSpec)

/-- ITS FALSE NEIGHBOUR: 'it returns false'. Refute it at one input. -/
def routeTablesWrong : ChangeSpec := { name := "routeTables", fn := fun _ => fun
  | [d1, d2, d3, d4, d5, d6] => { results := [.lit (.bool false)], args := [d1, d2, d3, d4, d5, d6] }
  | _ => none }
def RouteTablesWrongFalsely : Prop := routeTablesRow.holds Tryd.pinned (OpenSpec.ofChange routeTablesWrong)

/-- 'baggagelaw08.RouteFollows': WHATEVER THE INPUT: true; the input reads as it did. -/
def routeFollowsSpec : ChangeSpec := { name := "routeFollows", fn := fun _ => fun
  | [d1, d2, d3, d4] => { results := [.lit (.bool true)], args := [d1, d2, d3, d4] }
  | _ => none }
def routeFollowsRow : OpenClaim := { program := "ytjficagemeiecaadoor", sum := "be0a60634795f8d3722c3418200924bd7f27b5c503f9566ec2995d29089ed9a1", func := "baggage/baggagelaw08.RouteFollows", spec := "routeFollows", unfollowed := true, recurses := true, named := ["baggage/baggageref07.words"], apart := false, laid := [("baggage/baggageref07.words", laid_baggage_baggageref07_words)] }
def RouteFollowsSaid : Prop := routeFollowsRow.holds Tryd.pinned (OpenSpec.ofChange routeFollowsSpec)

/-- ITS FALSE NEIGHBOUR: 'it returns false'. Refute it at one input. -/
def routeFollowsWrong : ChangeSpec := { name := "routeFollows", fn := fun _ => fun
  | [d1, d2, d3, d4] => { results := [.lit (.bool false)], args := [d1, d2, d3, d4] }
  | _ => none }
def RouteFollowsWrongFalsely : Prop := routeFollowsRow.holds Tryd.pinned (OpenSpec.ofChange routeFollowsWrong)

/-- 'baggagelaw08.RouteLeast': WHATEVER THE INPUT: true; the input reads as it did. -/
def routeLeastSpec : ChangeSpec := { name := "routeLeast", fn := fun _ => fun
  | [d1, d2, d3, d4] => { results := [.lit (.bool true)], args := [d1, d2, d3, d4] }
  | _ => none }
def routeLeastRow : OpenClaim := { program := "ytjficagemeiecaadoor", sum := "be0a60634795f8d3722c3418200924bd7f27b5c503f9566ec2995d29089ed9a1", func := "baggage/baggagelaw08.RouteLeast", spec := "routeLeast", unfollowed := true, recurses := true, named := ["baggage/baggageref07.words"], apart := false, laid := [("baggage/baggageref07.words", laid_baggage_baggageref07_words)] }
def RouteLeastSaid : Prop := routeLeastRow.holds Tryd.pinned (OpenSpec.ofChange routeLeastSpec)

/-- ITS FALSE NEIGHBOUR: 'it returns false'. Refute it at one input. -/
def routeLeastWrong : ChangeSpec := { name := "routeLeast", fn := fun _ => fun
  | [d1, d2, d3, d4] => { results := [.lit (.bool false)], args := [d1, d2, d3, d4] }
  | _ => none }
def RouteLeastWrongFalsely : Prop := routeLeastRow.holds Tryd.pinned (OpenSpec.ofChange routeLeastWrong)

/-- 'baggagelaw08.RouteRepairs': WHATEVER THE INPUT: true; the input reads as it did. -/
def routeRepairsSpec : ChangeSpec := { name := "routeRepairs", fn := fun _ => fun
  | [d1, d2, d3, d4, d5] => { results := [.lit (.bool true)], args := [d1, d2, d3, d4, d5] }
  | _ => none }
def routeRepairsRow : OpenClaim := { program := "ytjficagemeiecaadoor", sum := "be0a60634795f8d3722c3418200924bd7f27b5c503f9566ec2995d29089ed9a1", func := "baggage/baggagelaw08.RouteRepairs", spec := "routeRepairs", unfollowed := true, recurses := true, named := ["baggage/baggageref07.words"], apart := false, laid := [("baggage/baggageref07.words", laid_baggage_baggageref07_words)] }
def RouteRepairsSaid : Prop := routeRepairsRow.holds Tryd.pinned (OpenSpec.ofChange routeRepairsSpec)

/-- ITS FALSE NEIGHBOUR: 'it returns false'. Refute it at one input. -/
def routeRepairsWrong : ChangeSpec := { name := "routeRepairs", fn := fun _ => fun
  | [d1, d2, d3, d4, d5] => { results := [.lit (.bool false)], args := [d1, d2, d3, d4, d5] }
  | _ => none }
def RouteRepairsWrongFalsely : Prop := routeRepairsRow.holds Tryd.pinned (OpenSpec.ofChange routeRepairsWrong)

/- THE SECOND FORM. 'bulk': how many values and letters a reading holds, each counted each time it is reached (what is shared counts as often as it is met; a slice's spare places count too). A statement '..UptoSaid' is the law's where the arguments, and the package variables that the reading takes, are together of bulk at most 1048576: NARROWER than '..Said'. Prove '..Said' where nothing that the law and all that it calls make is longer than what came in: it says more and counts as full. Else prove '..UptoSaid'. A law counts once. -/
mutual
def uptoBulk {H : Type} : DataW H → Nat
  | .lit (.string bytes) => bytes.length + 1
  | .lit _ => 1
  | .nil => 1
  | .ptr d => uptoBulk d + 1
  | .slice elems spare => uptoBulkAll elems + uptoBulkAll spare + 1
  | .agg parts => uptoBulkAll parts + 1
  | .iface _ d => uptoBulk d + 1
  | .map entries => uptoBulkEntries entries + 1
  | .held _ => 1
def uptoBulkAll {H : Type} : List (DataW H) → Nat
  | [] => 0
  | d :: r => uptoBulk d + uptoBulkAll r
def uptoBulkEntries {H : Type} : List (Lit × DataW H) → Nat
  | [] => 0
  | x :: r => uptoBulkEntry x + uptoBulkEntries r
def uptoBulkEntry {H : Type} : Lit × DataW H → Nat
  | (.string bytes, d) => bytes.length + uptoBulk d + 1
  | (_, d) => uptoBulk d + 1
 end
def uptoSmall : (H : Type) → List (DataW H) → Bool := fun _ ds => decide (uptoBulkAll ds ≤ 1048576)
def OpenSpec.upto (s : _root_.Go.ChangeSpec) : _root_.Go.OpenSpec := { _root_.Go.OpenSpec.ofChange s with cond := some uptoSmall }

/-- 'baggagelaw08.RouteTables', WHERE WHAT IT READS IS OF BULK AT MOST 1048576: true; the input reads as it did. -/
def routeTablesUptoRow : OpenClaim := { program := "ytjficagemeiecaadoor", sum := "be0a60634795f8d3722c3418200924bd7f27b5c503f9566ec2995d29089ed9a1", func := "baggage/baggagelaw08.RouteTables", spec := "routeTables", unfollowed := true, recurses := true, named := ["baggage/baggageref07.words"], apart := false, laid := [("baggage/baggageref07.words", laid_baggage_baggageref07_words)], narrowed := true }
def RouteTablesUptoSaid : Prop := routeTablesUptoRow.holds Tryd.pinned (OpenSpec.upto routeTablesSpec)

/-- 'baggagelaw08.RouteFollows', WHERE WHAT IT READS IS OF BULK AT MOST 1048576: true; the input reads as it did. -/
def routeFollowsUptoRow : OpenClaim := { program := "ytjficagemeiecaadoor", sum := "be0a60634795f8d3722c3418200924bd7f27b5c503f9566ec2995d29089ed9a1", func := "baggage/baggagelaw08.RouteFollows", spec := "routeFollows", unfollowed := true, recurses := true, named := ["baggage/baggageref07.words"], apart := false, laid := [("baggage/baggageref07.words", laid_baggage_baggageref07_words)], narrowed := true }
def RouteFollowsUptoSaid : Prop := routeFollowsUptoRow.holds Tryd.pinned (OpenSpec.upto routeFollowsSpec)

/-- 'baggagelaw08.RouteLeast', WHERE WHAT IT READS IS OF BULK AT MOST 1048576: true; the input reads as it did. -/
def routeLeastUptoRow : OpenClaim := { program := "ytjficagemeiecaadoor", sum := "be0a60634795f8d3722c3418200924bd7f27b5c503f9566ec2995d29089ed9a1", func := "baggage/baggagelaw08.RouteLeast", spec := "routeLeast", unfollowed := true, recurses := true, named := ["baggage/baggageref07.words"], apart := false, laid := [("baggage/baggageref07.words", laid_baggage_baggageref07_words)], narrowed := true }
def RouteLeastUptoSaid : Prop := routeLeastUptoRow.holds Tryd.pinned (OpenSpec.upto routeLeastSpec)

/-- 'baggagelaw08.RouteRepairs', WHERE WHAT IT READS IS OF BULK AT MOST 1048576: true; the input reads as it did. -/
def routeRepairsUptoRow : OpenClaim := { program := "ytjficagemeiecaadoor", sum := "be0a60634795f8d3722c3418200924bd7f27b5c503f9566ec2995d29089ed9a1", func := "baggage/baggagelaw08.RouteRepairs", spec := "routeRepairs", unfollowed := true, recurses := true, named := ["baggage/baggageref07.words"], apart := false, laid := [("baggage/baggageref07.words", laid_baggage_baggageref07_words)], narrowed := true }
def RouteRepairsUptoSaid : Prop := routeRepairsUptoRow.holds Tryd.pinned (OpenSpec.upto routeRepairsSpec)

end Rows
end Go.Proofs.YtjficagemeiecaaDoor
