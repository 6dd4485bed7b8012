/-
  DERIVED. GIVEN WITH THE SEED: THE CARDS: each row of YtjficagemeiecaaDoorRows.lean that lists a variable, with what it lists TIED to the program's text (the seventh form; the later family's looks); each row that meets fmt, with fmt's text TOLD by the authors' own Lean function (tested against real Go, not proved from fmt's source: count such statements apart). THE CARD IS WHAT COUNTS. Prove the row's statement (the work); the ties are given (YtjficagemeiecaaDoorTie.lean); close each card by the builder's one call (the guide's Derived/Test/ToyasCard.lean, 'card_holds'). Laid BY PROGRAM, IN A SANDBOX (cutbox-door.mjs). By AI agents, Wed Nov 11 2026. No macro, syntax, notation, axiom, sorry.
-/
import Derived.Test.YtjficagemeiecaaDoorRows
import GoSem.ClaimSeven
namespace Go.Proofs.YtjficagemeiecaaDoor
namespace Rows

/-- THE TIED CARD OF 'baggagelaw08.RouteTables'. -/
def routeTablesCard : Claim7 := { stood := { row := routeTablesRow, standIns := [], harness := (true, "9a83f4e7995e79b4b4c68b7145acc763d7c090c40d857d591345183b40fd4983"), looks := false }, kinds := [], alts := [], laidByText := true, laidKinds := [.data], laidTests := true, laidLooks := .later }
def RouteTablesCardSaid : Prop := Claim7.holds Tryd.pinned (.plain (OpenSpec.ofChange routeTablesSpec)) routeTablesCard

/-- THE TIED CARD OF 'baggagelaw08.RouteFollows'. -/
def routeFollowsCard : Claim7 := { stood := { row := routeFollowsRow, standIns := [], harness := (true, "9a83f4e7995e79b4b4c68b7145acc763d7c090c40d857d591345183b40fd4983"), looks := false }, kinds := [], alts := [], laidByText := true, laidKinds := [.data], laidTests := true, laidLooks := .later }
def RouteFollowsCardSaid : Prop := Claim7.holds Tryd.pinned (.plain (OpenSpec.ofChange routeFollowsSpec)) routeFollowsCard

/-- THE TIED CARD OF 'baggagelaw08.RouteLeast'. -/
def routeLeastCard : Claim7 := { stood := { row := routeLeastRow, standIns := [], harness := (true, "9a83f4e7995e79b4b4c68b7145acc763d7c090c40d857d591345183b40fd4983"), looks := false }, kinds := [], alts := [], laidByText := true, laidKinds := [.data], laidTests := true, laidLooks := .later }
def RouteLeastCardSaid : Prop := Claim7.holds Tryd.pinned (.plain (OpenSpec.ofChange routeLeastSpec)) routeLeastCard

/-- THE TIED CARD OF 'baggagelaw08.RouteRepairs'. -/
def routeRepairsCard : Claim7 := { stood := { row := routeRepairsRow, standIns := [], harness := (true, "9a83f4e7995e79b4b4c68b7145acc763d7c090c40d857d591345183b40fd4983"), looks := false }, kinds := [], alts := [], laidByText := true, laidKinds := [.data], laidTests := true, laidLooks := .later }
def RouteRepairsCardSaid : Prop := Claim7.holds Tryd.pinned (.plain (OpenSpec.ofChange routeRepairsSpec)) routeRepairsCard

/-- THE SECOND FORM's CARD OF 'baggagelaw08.RouteTables'. -/
def routeTablesUptoCard : Claim7 := { stood := { row := routeTablesUptoRow, standIns := [], harness := (true, "9a83f4e7995e79b4b4c68b7145acc763d7c090c40d857d591345183b40fd4983"), looks := false }, kinds := [], alts := [], laidByText := true, laidKinds := [.data], laidTests := true, laidLooks := .later }
def RouteTablesUptoCardSaid : Prop := Claim7.holds Tryd.pinned (.plain (OpenSpec.upto routeTablesSpec)) routeTablesUptoCard

/-- THE SECOND FORM's CARD OF 'baggagelaw08.RouteFollows'. -/
def routeFollowsUptoCard : Claim7 := { stood := { row := routeFollowsUptoRow, standIns := [], harness := (true, "9a83f4e7995e79b4b4c68b7145acc763d7c090c40d857d591345183b40fd4983"), looks := false }, kinds := [], alts := [], laidByText := true, laidKinds := [.data], laidTests := true, laidLooks := .later }
def RouteFollowsUptoCardSaid : Prop := Claim7.holds Tryd.pinned (.plain (OpenSpec.upto routeFollowsSpec)) routeFollowsUptoCard

/-- THE SECOND FORM's CARD OF 'baggagelaw08.RouteLeast'. -/
def routeLeastUptoCard : Claim7 := { stood := { row := routeLeastUptoRow, standIns := [], harness := (true, "9a83f4e7995e79b4b4c68b7145acc763d7c090c40d857d591345183b40fd4983"), looks := false }, kinds := [], alts := [], laidByText := true, laidKinds := [.data], laidTests := true, laidLooks := .later }
def RouteLeastUptoCardSaid : Prop := Claim7.holds Tryd.pinned (.plain (OpenSpec.upto routeLeastSpec)) routeLeastUptoCard

/-- THE SECOND FORM's CARD OF 'baggagelaw08.RouteRepairs'. -/
def routeRepairsUptoCard : Claim7 := { stood := { row := routeRepairsUptoRow, standIns := [], harness := (true, "9a83f4e7995e79b4b4c68b7145acc763d7c090c40d857d591345183b40fd4983"), looks := false }, kinds := [], alts := [], laidByText := true, laidKinds := [.data], laidTests := true, laidLooks := .later }
def RouteRepairsUptoCardSaid : Prop := Claim7.holds Tryd.pinned (.plain (OpenSpec.upto routeRepairsSpec)) routeRepairsUptoCard
end Rows
end Go.Proofs.YtjficagemeiecaaDoor
