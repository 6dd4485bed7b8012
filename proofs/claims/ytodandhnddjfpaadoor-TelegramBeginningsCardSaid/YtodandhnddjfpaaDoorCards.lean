/-
  DERIVED. GIVEN WITH THE SEED: THE CARDS: each row of YtodandhnddjfpaaDoorRows.lean that lists a variable, with what it lists TIED to the program's text (the seventh form; the later family's looks); each row that meets fmt, with fmt's text TOLD by the authors' own Lean function (tested against real Go, not proved from fmt's source: count such statements apart). THE CARD IS WHAT COUNTS. Prove the row's statement (the work); the ties are given (YtodandhnddjfpaaDoorTie.lean); close each card by the builder's one call (the guide's Derived/Test/ToyasCard.lean, 'card_holds'). Laid BY PROGRAM, IN A SANDBOX (cutbox-door.mjs). By AI agents, Wed Nov 11 2026. No macro, syntax, notation, axiom, sorry.
-/
import Derived.Test.YtodandhnddjfpaaDoorRows
import GoSem.ClaimSeven
namespace Go.Proofs.YtodandhnddjfpaaDoor
namespace Rows

/-- THE TIED CARD OF 'baggagelaw03.TelegramFormats'. -/
def telegramFormatsCard : Claim7 := { stood := { row := telegramFormatsRow, standIns := [], harness := (true, "d3893e0ecb96f21b66a6f04915045ad0ca7e4758504503c83e65cc6f5c85bc7f"), looks := false }, kinds := [], alts := [], laidByText := true, laidKinds := [.data, .pinned], laidTests := true, laidLooks := .later }
def TelegramFormatsCardSaid : Prop := Claim7.holds Tryd.pinned (.plain (OpenSpec.ofChange telegramFormatsSpec)) telegramFormatsCard

/-- THE TIED CARD OF 'baggagelaw03.TelegramBeginnings'. -/
def telegramBeginningsCard : Claim7 := { stood := { row := telegramBeginningsRow, standIns := [], harness := (true, "d3893e0ecb96f21b66a6f04915045ad0ca7e4758504503c83e65cc6f5c85bc7f"), looks := false }, kinds := [], alts := [], laidByText := true, laidKinds := [.data, .pinned], laidTests := true, laidLooks := .later }
def TelegramBeginningsCardSaid : Prop := Claim7.holds Tryd.pinned (.plain (OpenSpec.ofChange telegramBeginningsSpec)) telegramBeginningsCard

/-- THE TIED CARD OF 'baggagelaw03.TelegramLimits'. -/
def telegramLimitsCard : Claim7 := { stood := { row := telegramLimitsRow, standIns := [], harness := (true, "d3893e0ecb96f21b66a6f04915045ad0ca7e4758504503c83e65cc6f5c85bc7f"), looks := false }, kinds := [], alts := [], laidByText := true, laidKinds := [.data, .pinned], laidTests := true, laidLooks := .later }
def TelegramLimitsCardSaid : Prop := Claim7.holds Tryd.pinned (.plain (OpenSpec.ofChange telegramLimitsSpec)) telegramLimitsCard

/-- THE TIED CARD OF 'baggagelaw03.TelegramBack'. -/
def telegramBackCard : Claim7 := { stood := { row := telegramBackRow, standIns := [], harness := (true, "d3893e0ecb96f21b66a6f04915045ad0ca7e4758504503c83e65cc6f5c85bc7f"), looks := false }, kinds := [], alts := [], laidByText := true, laidKinds := [.data, .pinned], laidTests := true, laidLooks := .later }
def TelegramBackCardSaid : Prop := Claim7.holds Tryd.pinned (.plain (OpenSpec.ofChange telegramBackSpec)) telegramBackCard

/-- THE TIED CARD OF 'baggagelaw03.TelegramSame'. -/
def telegramSameCard : Claim7 := { stood := { row := telegramSameRow, standIns := [], harness := (true, "d3893e0ecb96f21b66a6f04915045ad0ca7e4758504503c83e65cc6f5c85bc7f"), looks := false }, kinds := [], alts := [], laidByText := true, laidKinds := [.data, .pinned], laidTests := true, laidLooks := .later }
def TelegramSameCardSaid : Prop := Claim7.holds Tryd.pinned (.plain (OpenSpec.ofChange telegramSameSpec)) telegramSameCard

/-- THE SECOND FORM's CARD OF 'baggagelaw03.TelegramFormats'. -/
def telegramFormatsUptoCard : Claim7 := { stood := { row := telegramFormatsUptoRow, standIns := [], harness := (true, "d3893e0ecb96f21b66a6f04915045ad0ca7e4758504503c83e65cc6f5c85bc7f"), looks := false }, kinds := [], alts := [], laidByText := true, laidKinds := [.data, .pinned], laidTests := true, laidLooks := .later }
def TelegramFormatsUptoCardSaid : Prop := Claim7.holds Tryd.pinned (.plain (OpenSpec.upto telegramFormatsSpec)) telegramFormatsUptoCard

/-- THE SECOND FORM's CARD OF 'baggagelaw03.TelegramBeginnings'. -/
def telegramBeginningsUptoCard : Claim7 := { stood := { row := telegramBeginningsUptoRow, standIns := [], harness := (true, "d3893e0ecb96f21b66a6f04915045ad0ca7e4758504503c83e65cc6f5c85bc7f"), looks := false }, kinds := [], alts := [], laidByText := true, laidKinds := [.data, .pinned], laidTests := true, laidLooks := .later }
def TelegramBeginningsUptoCardSaid : Prop := Claim7.holds Tryd.pinned (.plain (OpenSpec.upto telegramBeginningsSpec)) telegramBeginningsUptoCard

/-- THE SECOND FORM's CARD OF 'baggagelaw03.TelegramLimits'. -/
def telegramLimitsUptoCard : Claim7 := { stood := { row := telegramLimitsUptoRow, standIns := [], harness := (true, "d3893e0ecb96f21b66a6f04915045ad0ca7e4758504503c83e65cc6f5c85bc7f"), looks := false }, kinds := [], alts := [], laidByText := true, laidKinds := [.data, .pinned], laidTests := true, laidLooks := .later }
def TelegramLimitsUptoCardSaid : Prop := Claim7.holds Tryd.pinned (.plain (OpenSpec.upto telegramLimitsSpec)) telegramLimitsUptoCard

/-- THE SECOND FORM's CARD OF 'baggagelaw03.TelegramBack'. -/
def telegramBackUptoCard : Claim7 := { stood := { row := telegramBackUptoRow, standIns := [], harness := (true, "d3893e0ecb96f21b66a6f04915045ad0ca7e4758504503c83e65cc6f5c85bc7f"), looks := false }, kinds := [], alts := [], laidByText := true, laidKinds := [.data, .pinned], laidTests := true, laidLooks := .later }
def TelegramBackUptoCardSaid : Prop := Claim7.holds Tryd.pinned (.plain (OpenSpec.upto telegramBackSpec)) telegramBackUptoCard

/-- THE SECOND FORM's CARD OF 'baggagelaw03.TelegramSame'. -/
def telegramSameUptoCard : Claim7 := { stood := { row := telegramSameUptoRow, standIns := [], harness := (true, "d3893e0ecb96f21b66a6f04915045ad0ca7e4758504503c83e65cc6f5c85bc7f"), looks := false }, kinds := [], alts := [], laidByText := true, laidKinds := [.data, .pinned], laidTests := true, laidLooks := .later }
def TelegramSameUptoCardSaid : Prop := Claim7.holds Tryd.pinned (.plain (OpenSpec.upto telegramSameSpec)) telegramSameUptoCard
end Rows
end Go.Proofs.YtodandhnddjfpaaDoor
