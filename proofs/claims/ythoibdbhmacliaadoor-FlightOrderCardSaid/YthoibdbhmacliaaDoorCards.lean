/-
  DERIVED. GIVEN WITH THE SEED: THE CARDS: each row of YthoibdbhmacliaaDoorRows.lean that lists a variable, with what it lists TIED to the program's text (the seventh form; the later family's looks); each row that meets fmt, with fmt's text TOLD by the authors' own Lean function (tested against real Go, not proved from fmt's source: count such statements apart). THE CARD IS WHAT COUNTS. Prove the row's statement (the work); the ties are given (YthoibdbhmacliaaDoorTie.lean); close each card by the builder's one call (the guide's Derived/Test/ToyasCard.lean, 'card_holds'). Laid BY PROGRAM, IN A SANDBOX (cutbox-door.mjs). By AI agents, Wed Nov 11 2026. No macro, syntax, notation, axiom, sorry.
-/
import Derived.Test.YthoibdbhmacliaaDoorRows
import GoSem.ClaimSeven
namespace Go.Proofs.YthoibdbhmacliaaDoor
namespace Rows

/-- THE TIED CARD OF 'baggagelaw02.FlightTexts'. -/
def flightTextsCard : Claim7 := { stood := { row := flightTextsRow, standIns := [], harness := (true, "4d05d389cf3578a2fe5fcee02f9c34318b05d7c2522a655aaf136e7beb28b174"), looks := true }, kinds := [], alts := [], laidByText := true, laidKinds := [.data, .data, .data, .sentinel, .sentinel], laidTests := true, laidLooks := .later }
def FlightTextsCardSaid : Prop := Claim7.holds Tryd.pinned (.plain (OpenSpec.ofChange flightTextsSpec)) flightTextsCard

/-- THE TIED CARD OF 'baggagelaw02.FlightNear'. -/
def flightNearCard : Claim7 := { stood := { row := flightNearRow, standIns := [], harness := (true, "4d05d389cf3578a2fe5fcee02f9c34318b05d7c2522a655aaf136e7beb28b174"), looks := true }, kinds := [], alts := [], laidByText := true, laidKinds := [.data, .data, .data, .sentinel, .sentinel], laidTests := true, laidLooks := .later }
def FlightNearCardSaid : Prop := Claim7.holds Tryd.pinned (.plain (OpenSpec.ofChange flightNearSpec)) flightNearCard

/-- THE TIED CARD OF 'baggagelaw02.FlightBack'. -/
def flightBackCard : Claim7 := { stood := { row := flightBackRow, standIns := [], harness := (true, "4d05d389cf3578a2fe5fcee02f9c34318b05d7c2522a655aaf136e7beb28b174"), looks := true }, kinds := [], alts := [], laidByText := true, laidKinds := [.data, .data, .data, .sentinel, .sentinel], laidTests := true, laidLooks := .later }
def FlightBackCardSaid : Prop := Claim7.holds Tryd.pinned (.plain (OpenSpec.ofChange flightBackSpec)) flightBackCard

/-- THE TIED CARD OF 'baggagelaw02.FlightLegs'. -/
def flightLegsCard : Claim7 := { stood := { row := flightLegsRow, standIns := [], harness := (true, "4d05d389cf3578a2fe5fcee02f9c34318b05d7c2522a655aaf136e7beb28b174"), looks := true }, kinds := [], alts := [], laidByText := true, laidKinds := [.data, .data, .data, .sentinel, .sentinel], laidTests := true, laidLooks := .later }
def FlightLegsCardSaid : Prop := Claim7.holds Tryd.pinned (.plain (OpenSpec.ofChange flightLegsSpec)) flightLegsCard

/-- THE TIED CARD OF 'baggagelaw02.FlightOrder'. -/
def flightOrderCard : Claim7 := { stood := { row := flightOrderRow, standIns := [], harness := (true, "4d05d389cf3578a2fe5fcee02f9c34318b05d7c2522a655aaf136e7beb28b174"), looks := true }, kinds := [], alts := [], laidByText := true, laidKinds := [.data, .data, .data, .sentinel, .sentinel], laidTests := true, laidLooks := .later }
def FlightOrderCardSaid : Prop := Claim7.holds Tryd.pinned (.plain (OpenSpec.ofChange flightOrderSpec)) flightOrderCard

/-- THE TIED CARD OF 'baggagelaw02.FlightDays'. -/
def flightDaysCard : Claim7 := { stood := { row := flightDaysRow, standIns := [], harness := (true, "4d05d389cf3578a2fe5fcee02f9c34318b05d7c2522a655aaf136e7beb28b174"), looks := true }, kinds := [], alts := [], laidByText := true, laidKinds := [.data, .data, .data, .sentinel, .sentinel], laidTests := true, laidLooks := .later }
def FlightDaysCardSaid : Prop := Claim7.holds Tryd.pinned (.plain (OpenSpec.ofChange flightDaysSpec)) flightDaysCard

/-- THE SECOND FORM's CARD OF 'baggagelaw02.FlightTexts'. -/
def flightTextsUptoCard : Claim7 := { stood := { row := flightTextsUptoRow, standIns := [], harness := (true, "4d05d389cf3578a2fe5fcee02f9c34318b05d7c2522a655aaf136e7beb28b174"), looks := true }, kinds := [], alts := [], laidByText := true, laidKinds := [.data, .data, .data, .sentinel, .sentinel], laidTests := true, laidLooks := .later }
def FlightTextsUptoCardSaid : Prop := Claim7.holds Tryd.pinned (.plain (OpenSpec.upto flightTextsSpec)) flightTextsUptoCard

/-- THE SECOND FORM's CARD OF 'baggagelaw02.FlightNear'. -/
def flightNearUptoCard : Claim7 := { stood := { row := flightNearUptoRow, standIns := [], harness := (true, "4d05d389cf3578a2fe5fcee02f9c34318b05d7c2522a655aaf136e7beb28b174"), looks := true }, kinds := [], alts := [], laidByText := true, laidKinds := [.data, .data, .data, .sentinel, .sentinel], laidTests := true, laidLooks := .later }
def FlightNearUptoCardSaid : Prop := Claim7.holds Tryd.pinned (.plain (OpenSpec.upto flightNearSpec)) flightNearUptoCard

/-- THE SECOND FORM's CARD OF 'baggagelaw02.FlightBack'. -/
def flightBackUptoCard : Claim7 := { stood := { row := flightBackUptoRow, standIns := [], harness := (true, "4d05d389cf3578a2fe5fcee02f9c34318b05d7c2522a655aaf136e7beb28b174"), looks := true }, kinds := [], alts := [], laidByText := true, laidKinds := [.data, .data, .data, .sentinel, .sentinel], laidTests := true, laidLooks := .later }
def FlightBackUptoCardSaid : Prop := Claim7.holds Tryd.pinned (.plain (OpenSpec.upto flightBackSpec)) flightBackUptoCard

/-- THE SECOND FORM's CARD OF 'baggagelaw02.FlightLegs'. -/
def flightLegsUptoCard : Claim7 := { stood := { row := flightLegsUptoRow, standIns := [], harness := (true, "4d05d389cf3578a2fe5fcee02f9c34318b05d7c2522a655aaf136e7beb28b174"), looks := true }, kinds := [], alts := [], laidByText := true, laidKinds := [.data, .data, .data, .sentinel, .sentinel], laidTests := true, laidLooks := .later }
def FlightLegsUptoCardSaid : Prop := Claim7.holds Tryd.pinned (.plain (OpenSpec.upto flightLegsSpec)) flightLegsUptoCard

/-- THE SECOND FORM's CARD OF 'baggagelaw02.FlightOrder'. -/
def flightOrderUptoCard : Claim7 := { stood := { row := flightOrderUptoRow, standIns := [], harness := (true, "4d05d389cf3578a2fe5fcee02f9c34318b05d7c2522a655aaf136e7beb28b174"), looks := true }, kinds := [], alts := [], laidByText := true, laidKinds := [.data, .data, .data, .sentinel, .sentinel], laidTests := true, laidLooks := .later }
def FlightOrderUptoCardSaid : Prop := Claim7.holds Tryd.pinned (.plain (OpenSpec.upto flightOrderSpec)) flightOrderUptoCard

/-- THE SECOND FORM's CARD OF 'baggagelaw02.FlightDays'. -/
def flightDaysUptoCard : Claim7 := { stood := { row := flightDaysUptoRow, standIns := [], harness := (true, "4d05d389cf3578a2fe5fcee02f9c34318b05d7c2522a655aaf136e7beb28b174"), looks := true }, kinds := [], alts := [], laidByText := true, laidKinds := [.data, .data, .data, .sentinel, .sentinel], laidTests := true, laidLooks := .later }
def FlightDaysUptoCardSaid : Prop := Claim7.holds Tryd.pinned (.plain (OpenSpec.upto flightDaysSpec)) flightDaysUptoCard
end Rows
end Go.Proofs.YthoibdbhmacliaaDoor
