/-
  DERIVED. GIVEN WITH THE SEED: THE CARDS: each row of YtdkibgdkmnpncaaDoorRows.lean that lists a variable, with what it lists TIED to the program's text (the seventh form; the later family's looks); each row that meets fmt, with fmt's text TOLD by the authors' own Lean function (tested against real Go, not proved from fmt's source: count such statements apart). THE CARD IS WHAT COUNTS. Prove the row's statement (the work); the ties are given (YtdkibgdkmnpncaaDoorTie.lean); close each card by the builder's one call (the guide's Derived/Test/ToyasCard.lean, 'card_holds'). Laid BY PROGRAM, IN A SANDBOX (cutbox-door.mjs). By AI agents, Wed Nov 11 2026. No macro, syntax, notation, axiom, sorry.
-/
import Derived.Test.YtdkibgdkmnpncaaDoorRows
import GoSem.ClaimSeven
namespace Go.Proofs.YtdkibgdkmnpncaaDoor
namespace Rows

/-- THE TIED CARD OF 'baggagelaw10.TrafficConsistent'. -/
def trafficConsistentCard : Claim7 := { stood := { row := trafficConsistentRow, standIns := [], harness := (true, "d0a81315b5f8763a9d04904c00d27c56f44954d40999c4cef7ef7012f79f6c1c"), looks := false }, kinds := [], alts := [], laidByText := true, laidKinds := [.data, .data, .data], laidTests := true, laidLooks := .later }
def TrafficConsistentCardSaid : Prop := Claim7.holds Tryd.pinned (.plain (OpenSpec.ofChange trafficConsistentSpec)) trafficConsistentCard

/-- THE TIED CARD OF 'baggagelaw10.TrafficLoops'. -/
def trafficLoopsCard : Claim7 := { stood := { row := trafficLoopsRow, standIns := [], harness := (true, "d0a81315b5f8763a9d04904c00d27c56f44954d40999c4cef7ef7012f79f6c1c"), looks := false }, kinds := [], alts := [], laidByText := true, laidKinds := [.data, .data, .data], laidTests := true, laidLooks := .later }
def TrafficLoopsCardSaid : Prop := Claim7.holds Tryd.pinned (.plain (OpenSpec.ofChange trafficLoopsSpec)) trafficLoopsCard

/-- THE TIED CARD OF 'baggagelaw10.TrafficFlows'. -/
def trafficFlowsCard : Claim7 := { stood := { row := trafficFlowsRow, standIns := [], harness := (true, "d0a81315b5f8763a9d04904c00d27c56f44954d40999c4cef7ef7012f79f6c1c"), looks := false }, kinds := [], alts := [], laidByText := true, laidKinds := [.data, .data, .data], laidTests := true, laidLooks := .later }
def TrafficFlowsCardSaid : Prop := Claim7.holds Tryd.pinned (.plain (OpenSpec.ofChange trafficFlowsSpec)) trafficFlowsCard

/-- THE TIED CARD OF 'baggagelaw10.TrafficGreedy'. -/
def trafficGreedyCard : Claim7 := { stood := { row := trafficGreedyRow, standIns := [], harness := (true, "d0a81315b5f8763a9d04904c00d27c56f44954d40999c4cef7ef7012f79f6c1c"), looks := false }, kinds := [], alts := [], laidByText := true, laidKinds := [.data, .data, .data], laidTests := true, laidLooks := .later }
def TrafficGreedyCardSaid : Prop := Claim7.holds Tryd.pinned (.plain (OpenSpec.ofChange trafficGreedySpec)) trafficGreedyCard

/-- THE SECOND FORM's CARD OF 'baggagelaw10.TrafficConsistent'. -/
def trafficConsistentUptoCard : Claim7 := { stood := { row := trafficConsistentUptoRow, standIns := [], harness := (true, "d0a81315b5f8763a9d04904c00d27c56f44954d40999c4cef7ef7012f79f6c1c"), looks := false }, kinds := [], alts := [], laidByText := true, laidKinds := [.data, .data, .data], laidTests := true, laidLooks := .later }
def TrafficConsistentUptoCardSaid : Prop := Claim7.holds Tryd.pinned (.plain (OpenSpec.upto trafficConsistentSpec)) trafficConsistentUptoCard

/-- THE SECOND FORM's CARD OF 'baggagelaw10.TrafficLoops'. -/
def trafficLoopsUptoCard : Claim7 := { stood := { row := trafficLoopsUptoRow, standIns := [], harness := (true, "d0a81315b5f8763a9d04904c00d27c56f44954d40999c4cef7ef7012f79f6c1c"), looks := false }, kinds := [], alts := [], laidByText := true, laidKinds := [.data, .data, .data], laidTests := true, laidLooks := .later }
def TrafficLoopsUptoCardSaid : Prop := Claim7.holds Tryd.pinned (.plain (OpenSpec.upto trafficLoopsSpec)) trafficLoopsUptoCard

/-- THE SECOND FORM's CARD OF 'baggagelaw10.TrafficFlows'. -/
def trafficFlowsUptoCard : Claim7 := { stood := { row := trafficFlowsUptoRow, standIns := [], harness := (true, "d0a81315b5f8763a9d04904c00d27c56f44954d40999c4cef7ef7012f79f6c1c"), looks := false }, kinds := [], alts := [], laidByText := true, laidKinds := [.data, .data, .data], laidTests := true, laidLooks := .later }
def TrafficFlowsUptoCardSaid : Prop := Claim7.holds Tryd.pinned (.plain (OpenSpec.upto trafficFlowsSpec)) trafficFlowsUptoCard

/-- THE SECOND FORM's CARD OF 'baggagelaw10.TrafficGreedy'. -/
def trafficGreedyUptoCard : Claim7 := { stood := { row := trafficGreedyUptoRow, standIns := [], harness := (true, "d0a81315b5f8763a9d04904c00d27c56f44954d40999c4cef7ef7012f79f6c1c"), looks := false }, kinds := [], alts := [], laidByText := true, laidKinds := [.data, .data, .data], laidTests := true, laidLooks := .later }
def TrafficGreedyUptoCardSaid : Prop := Claim7.holds Tryd.pinned (.plain (OpenSpec.upto trafficGreedySpec)) trafficGreedyUptoCard
end Rows
end Go.Proofs.YtdkibgdkmnpncaaDoor
