/-
  DERIVED. GIVEN WITH THE SEED: THE CARDS: each row of YtjpikgfknnamjaaDoorRows.lean that lists a variable, with what it lists TIED to the program's text (the seventh form; the later family's looks); each row that meets fmt, with fmt's text TOLD by the authors' own Lean function (tested against real Go, not proved from fmt's source: count such statements apart). THE CARD IS WHAT COUNTS. Prove the row's statement (the work); the ties are given (YtjpikgfknnamjaaDoorTie.lean); close each card by the builder's one call (the guide's Derived/Test/ToyasCard.lean, 'card_holds'). Laid BY PROGRAM, IN A SANDBOX (cutbox-door.mjs). By AI agents, Wed Nov 11 2026. No macro, syntax, notation, axiom, sorry.
-/
import Derived.Test.YtjpikgfknnamjaaDoorRows
import GoSem.ClaimSeven
namespace Go.Proofs.YtjpikgfknnamjaaDoor
namespace Rows

/-- THE TIED CARD OF 'baggagelaw12.SensorObserves'. -/
def sensorObservesCard : Claim7 := { stood := { row := sensorObservesRow, standIns := [], harness := (true, "17af916dd11fee599e9afdd506c5abbe217789b8fdd029abdf9a60e455a0bf8d"), looks := false }, kinds := [], alts := [], laidByText := true, laidKinds := [.data], laidTests := true, laidLooks := .later }
def SensorObservesCardSaid : Prop := Claim7.holds Tryd.pinned (.plain (OpenSpec.ofChange sensorObservesSpec)) sensorObservesCard

/-- THE TIED CARD OF 'baggagelaw12.SensorCosts'. -/
def sensorCostsCard : Claim7 := { stood := { row := sensorCostsRow, standIns := [], harness := (true, "17af916dd11fee599e9afdd506c5abbe217789b8fdd029abdf9a60e455a0bf8d"), looks := false }, kinds := [], alts := [], laidByText := true, laidKinds := [.data], laidTests := true, laidLooks := .later }
def SensorCostsCardSaid : Prop := Claim7.holds Tryd.pinned (.plain (OpenSpec.ofChange sensorCostsSpec)) sensorCostsCard

/-- THE TIED CARD OF 'baggagelaw12.SensorExplains'. -/
def sensorExplainsCard : Claim7 := { stood := { row := sensorExplainsRow, standIns := [], harness := (true, "17af916dd11fee599e9afdd506c5abbe217789b8fdd029abdf9a60e455a0bf8d"), looks := false }, kinds := [], alts := [], laidByText := true, laidKinds := [.data], laidTests := true, laidLooks := .later }
def SensorExplainsCardSaid : Prop := Claim7.holds Tryd.pinned (.plain (OpenSpec.ofChange sensorExplainsSpec)) sensorExplainsCard

/-- THE TIED CARD OF 'baggagelaw12.SensorIdentifies'. -/
def sensorIdentifiesCard : Claim7 := { stood := { row := sensorIdentifiesRow, standIns := [], harness := (true, "17af916dd11fee599e9afdd506c5abbe217789b8fdd029abdf9a60e455a0bf8d"), looks := false }, kinds := [], alts := [], laidByText := true, laidKinds := [.data], laidTests := true, laidLooks := .later }
def SensorIdentifiesCardSaid : Prop := Claim7.holds Tryd.pinned (.plain (OpenSpec.ofChange sensorIdentifiesSpec)) sensorIdentifiesCard

/-- THE SECOND FORM's CARD OF 'baggagelaw12.SensorObserves'. -/
def sensorObservesUptoCard : Claim7 := { stood := { row := sensorObservesUptoRow, standIns := [], harness := (true, "17af916dd11fee599e9afdd506c5abbe217789b8fdd029abdf9a60e455a0bf8d"), looks := false }, kinds := [], alts := [], laidByText := true, laidKinds := [.data], laidTests := true, laidLooks := .later }
def SensorObservesUptoCardSaid : Prop := Claim7.holds Tryd.pinned (.plain (OpenSpec.upto sensorObservesSpec)) sensorObservesUptoCard

/-- THE SECOND FORM's CARD OF 'baggagelaw12.SensorCosts'. -/
def sensorCostsUptoCard : Claim7 := { stood := { row := sensorCostsUptoRow, standIns := [], harness := (true, "17af916dd11fee599e9afdd506c5abbe217789b8fdd029abdf9a60e455a0bf8d"), looks := false }, kinds := [], alts := [], laidByText := true, laidKinds := [.data], laidTests := true, laidLooks := .later }
def SensorCostsUptoCardSaid : Prop := Claim7.holds Tryd.pinned (.plain (OpenSpec.upto sensorCostsSpec)) sensorCostsUptoCard

/-- THE SECOND FORM's CARD OF 'baggagelaw12.SensorExplains'. -/
def sensorExplainsUptoCard : Claim7 := { stood := { row := sensorExplainsUptoRow, standIns := [], harness := (true, "17af916dd11fee599e9afdd506c5abbe217789b8fdd029abdf9a60e455a0bf8d"), looks := false }, kinds := [], alts := [], laidByText := true, laidKinds := [.data], laidTests := true, laidLooks := .later }
def SensorExplainsUptoCardSaid : Prop := Claim7.holds Tryd.pinned (.plain (OpenSpec.upto sensorExplainsSpec)) sensorExplainsUptoCard

/-- THE SECOND FORM's CARD OF 'baggagelaw12.SensorIdentifies'. -/
def sensorIdentifiesUptoCard : Claim7 := { stood := { row := sensorIdentifiesUptoRow, standIns := [], harness := (true, "17af916dd11fee599e9afdd506c5abbe217789b8fdd029abdf9a60e455a0bf8d"), looks := false }, kinds := [], alts := [], laidByText := true, laidKinds := [.data], laidTests := true, laidLooks := .later }
def SensorIdentifiesUptoCardSaid : Prop := Claim7.holds Tryd.pinned (.plain (OpenSpec.upto sensorIdentifiesSpec)) sensorIdentifiesUptoCard
end Rows
end Go.Proofs.YtjpikgfknnamjaaDoor
