/-
  NARROWER THAN 'FOR EVERY INPUT', by the rows' own cells (each row's printed sentence says how): TelegramFormats: laid · TelegramBeginnings: laid · TelegramLimits: laid · TelegramBack: laid · TelegramSame: laid.
  DERIVED. THE GIVEN ROWS OF THIS SEAT. 5 by the template 'for every input the law returns true; each argument reads behind the call as it read before'; 0 by the template 'total and deterministic' (their statements: YtodandhnddjfpaaDoorTotals.lean).
  GIVEN WITH THE SEED: the statements are not yours to turn. If you find one false, say at which input.
  Laid BY PROGRAM, IN A SANDBOX (cutbox-rows.mjs): the forced cells as the released guide's own fill.sh prints them over the translation 4a6d45e85e37c7a7… (all of the seat's roots in one cut). By AI agents, Wed Nov 11 2026. No macro, syntax, notation, axiom, sorry.
-/
import Derived.Test.YtodandhnddjfpaaDoorChecked
import GoSem.PinnedTables
import GoSem.Claim
import GoSem.ClaimJoined
import GoSem.ClaimMapViews
import Derived.JoinedTies
import Derived.KernelRfl
namespace Go.Proofs.YtodandhnddjfpaaDoor
/- THE CELL 'sum', in the pinned program and in every row, IS THE sha256 OF THE DUMP (.gsa) THAT YtodandhnddjfpaaDoorProg.lean LOADS. Nothing in Lean hashes anything: it is a label: what it is worth is what the hold of that sum in a sandbox is worth. -/
noncomputable def Tryd.pinned : Pinned := { name := "ytodandhnddjfpaadoor", sum := "4a6d45e85e37c7a7a02cd74d6b99b2480370ef44951d671c4bf1ec5b8799e21a", checked := Tryd.checked }
namespace Rows
def none {H : Type} : Left H := { results := [], args := [] }

/- WHAT THE LISTED PACKAGE-LEVEL VARIABLES READ AS WHEN THE CALL BEGINS. Each datum BY PROGRAM (the guide's laid-datum.mjs) off the statement by which the dump's own 'gosem.cut.vars' lays the variable. In a bare row this is a premise. The card (YtodandhnddjfpaaDoorCards.lean) ties it to the program's text. -/
def laid_unicode_utf8_acceptRanges {H : Type} : DataW H := .agg [.agg [.lit (.int .u8 128), .lit (.int .u8 191)], .agg [.lit (.int .u8 160), .lit (.int .u8 191)], .agg [.lit (.int .u8 128), .lit (.int .u8 159)], .agg [.lit (.int .u8 144), .lit (.int .u8 191)], .agg [.lit (.int .u8 128), .lit (.int .u8 143)], .agg [.lit (.int .u8 0), .lit (.int .u8 0)], .agg [.lit (.int .u8 0), .lit (.int .u8 0)], .agg [.lit (.int .u8 0), .lit (.int .u8 0)], .agg [.lit (.int .u8 0), .lit (.int .u8 0)], .agg [.lit (.int .u8 0), .lit (.int .u8 0)], .agg [.lit (.int .u8 0), .lit (.int .u8 0)], .agg [.lit (.int .u8 0), .lit (.int .u8 0)], .agg [.lit (.int .u8 0), .lit (.int .u8 0)], .agg [.lit (.int .u8 0), .lit (.int .u8 0)], .agg [.lit (.int .u8 0), .lit (.int .u8 0)], .agg [.lit (.int .u8 0), .lit (.int .u8 0)]]
/-- One of Go's own tables, pinned by name: the form's constant. -/
def laid_unicode_utf8_first : DataW Unit := Go.Pinned.utf8First

/-- 'baggagelaw03.TelegramFormats': WHATEVER THE INPUT: true; the input reads as it did. -/
def telegramFormatsSpec : ChangeSpec := { name := "telegramFormats", fn := fun _ => fun
  | [d1, d2, d3] => { results := [.lit (.bool true)], args := [d1, d2, d3] }
  | _ => none }
def telegramFormatsRow : OpenClaim := { program := "ytodandhnddjfpaadoor", sum := "4a6d45e85e37c7a7a02cd74d6b99b2480370ef44951d671c4bf1ec5b8799e21a", func := "baggage/baggagelaw03.TelegramFormats", spec := "telegramFormats", inPlace := ["internal/abi.NoEscape", "internal/bytealg.MakeNoZero", "internal/bytealg.IndexByteString", "internal/bytealg.IndexString", "internal/bytealg.CountString"], unfollowed := true, recurses := true, named := ["internal/bytealg.MaxLen", "unicode/utf8.first", "unicode/utf8.acceptRanges"], apart := false, laid := [("unicode/utf8.acceptRanges", laid_unicode_utf8_acceptRanges), ("unicode/utf8.first", laid_unicode_utf8_first)] }
def TelegramFormatsSaid : Prop := telegramFormatsRow.holds Tryd.pinned (OpenSpec.ofChange telegramFormatsSpec)

/-- ITS FALSE NEIGHBOUR: 'it returns false'. Refute it at one input. -/
def telegramFormatsWrong : ChangeSpec := { name := "telegramFormats", fn := fun _ => fun
  | [d1, d2, d3] => { results := [.lit (.bool false)], args := [d1, d2, d3] }
  | _ => none }
def TelegramFormatsWrongFalsely : Prop := telegramFormatsRow.holds Tryd.pinned (OpenSpec.ofChange telegramFormatsWrong)

/-- 'baggagelaw03.TelegramBeginnings': WHATEVER THE INPUT: true; the input reads as it did. -/
def telegramBeginningsSpec : ChangeSpec := { name := "telegramBeginnings", fn := fun _ => fun
  | [d] => { results := [.lit (.bool true)], args := [d] }
  | _ => none }
def telegramBeginningsRow : OpenClaim := { program := "ytodandhnddjfpaadoor", sum := "4a6d45e85e37c7a7a02cd74d6b99b2480370ef44951d671c4bf1ec5b8799e21a", func := "baggage/baggagelaw03.TelegramBeginnings", spec := "telegramBeginnings", inPlace := ["internal/bytealg.IndexByteString", "internal/bytealg.IndexString", "internal/bytealg.CountString", "internal/abi.NoEscape", "internal/bytealg.MakeNoZero"], unfollowed := true, recurses := true, named := ["internal/bytealg.MaxLen", "unicode/utf8.first", "unicode/utf8.acceptRanges"], apart := false, laid := [("unicode/utf8.acceptRanges", laid_unicode_utf8_acceptRanges), ("unicode/utf8.first", laid_unicode_utf8_first)] }
def TelegramBeginningsSaid : Prop := telegramBeginningsRow.holds Tryd.pinned (OpenSpec.ofChange telegramBeginningsSpec)

/-- ITS FALSE NEIGHBOUR: 'it returns false'. Refute it at one input. -/
def telegramBeginningsWrong : ChangeSpec := { name := "telegramBeginnings", fn := fun _ => fun
  | [d] => { results := [.lit (.bool false)], args := [d] }
  | _ => none }
def TelegramBeginningsWrongFalsely : Prop := telegramBeginningsRow.holds Tryd.pinned (OpenSpec.ofChange telegramBeginningsWrong)

/-- 'baggagelaw03.TelegramLimits': WHATEVER THE INPUT: true; the input reads as it did. -/
def telegramLimitsSpec : ChangeSpec := { name := "telegramLimits", fn := fun _ => fun
  | [d] => { results := [.lit (.bool true)], args := [d] }
  | _ => none }
def telegramLimitsRow : OpenClaim := { program := "ytodandhnddjfpaadoor", sum := "4a6d45e85e37c7a7a02cd74d6b99b2480370ef44951d671c4bf1ec5b8799e21a", func := "baggage/baggagelaw03.TelegramLimits", spec := "telegramLimits", inPlace := ["internal/abi.NoEscape", "internal/bytealg.MakeNoZero", "internal/bytealg.IndexByteString", "internal/bytealg.IndexString", "internal/bytealg.CountString"], unfollowed := true, recurses := true, named := ["internal/bytealg.MaxLen", "unicode/utf8.first", "unicode/utf8.acceptRanges"], apart := false, laid := [("unicode/utf8.acceptRanges", laid_unicode_utf8_acceptRanges), ("unicode/utf8.first", laid_unicode_utf8_first)] }
def TelegramLimitsSaid : Prop := telegramLimitsRow.holds Tryd.pinned (OpenSpec.ofChange telegramLimitsSpec)

/-- ITS FALSE NEIGHBOUR: 'it returns false'. Refute it at one input. -/
def telegramLimitsWrong : ChangeSpec := { name := "telegramLimits", fn := fun _ => fun
  | [d] => { results := [.lit (.bool false)], args := [d] }
  | _ => none }
def TelegramLimitsWrongFalsely : Prop := telegramLimitsRow.holds Tryd.pinned (OpenSpec.ofChange telegramLimitsWrong)

/-- 'baggagelaw03.TelegramBack': WHATEVER THE INPUT: true; the input reads as it did. -/
def telegramBackSpec : ChangeSpec := { name := "telegramBack", fn := fun _ => fun
  | [d1, d2] => { results := [.lit (.bool true)], args := [d1, d2] }
  | _ => none }
def telegramBackRow : OpenClaim := { program := "ytodandhnddjfpaadoor", sum := "4a6d45e85e37c7a7a02cd74d6b99b2480370ef44951d671c4bf1ec5b8799e21a", func := "baggage/baggagelaw03.TelegramBack", spec := "telegramBack", inPlace := ["internal/abi.NoEscape", "internal/bytealg.MakeNoZero", "internal/bytealg.IndexByteString", "internal/bytealg.IndexString", "internal/bytealg.CountString"], unfollowed := true, recurses := true, named := ["internal/bytealg.MaxLen", "unicode/utf8.first", "unicode/utf8.acceptRanges"], apart := false, laid := [("unicode/utf8.acceptRanges", laid_unicode_utf8_acceptRanges), ("unicode/utf8.first", laid_unicode_utf8_first)] }
def TelegramBackSaid : Prop := telegramBackRow.holds Tryd.pinned (OpenSpec.ofChange telegramBackSpec)

/-- ITS FALSE NEIGHBOUR: 'it returns false'. Refute it at one input. -/
def telegramBackWrong : ChangeSpec := { name := "telegramBack", fn := fun _ => fun
  | [d1, d2] => { results := [.lit (.bool false)], args := [d1, d2] }
  | _ => none }
def TelegramBackWrongFalsely : Prop := telegramBackRow.holds Tryd.pinned (OpenSpec.ofChange telegramBackWrong)

/-- 'baggagelaw03.TelegramSame': WHATEVER THE INPUT: true; the input reads as it did. -/
def telegramSameSpec : ChangeSpec := { name := "telegramSame", fn := fun _ => fun
  | [d1, d2, d3, d4] => { results := [.lit (.bool true)], args := [d1, d2, d3, d4] }
  | _ => none }
def telegramSameRow : OpenClaim := { program := "ytodandhnddjfpaadoor", sum := "4a6d45e85e37c7a7a02cd74d6b99b2480370ef44951d671c4bf1ec5b8799e21a", func := "baggage/baggagelaw03.TelegramSame", spec := "telegramSame", inPlace := ["internal/abi.NoEscape", "internal/bytealg.MakeNoZero", "internal/bytealg.IndexByteString", "internal/bytealg.IndexString", "internal/bytealg.CountString"], unfollowed := true, recurses := true, named := ["internal/bytealg.MaxLen", "unicode/utf8.first", "unicode/utf8.acceptRanges"], apart := false, laid := [("unicode/utf8.acceptRanges", laid_unicode_utf8_acceptRanges), ("unicode/utf8.first", laid_unicode_utf8_first)] }
def TelegramSameSaid : Prop := telegramSameRow.holds Tryd.pinned (OpenSpec.ofChange telegramSameSpec)

/-- ITS FALSE NEIGHBOUR: 'it returns false'. Refute it at one input. -/
def telegramSameWrong : ChangeSpec := { name := "telegramSame", fn := fun _ => fun
  | [d1, d2, d3, d4] => { results := [.lit (.bool false)], args := [d1, d2, d3, d4] }
  | _ => none }
def TelegramSameWrongFalsely : Prop := telegramSameRow.holds Tryd.pinned (OpenSpec.ofChange telegramSameWrong)

/- THE SECOND FORM. 'bulk': how many values and letters a reading holds, each counted each time it is reached (what is shared counts as often as it is met; a slice's spare places count too). A statement '..UptoSaid' is the law's where the arguments, and the package variables that the reading takes, are together of bulk at most 1048576: NARROWER than '..Said'. Prove '..Said' where nothing that the law and all that it calls make is longer than what came in: it says more and counts as full. Else prove '..UptoSaid'. A law counts once. -/
mutual
def uptoBulk {H : Type} : DataW H → Nat
  | .lit (.string bytes) => bytes.length + 1
  | .lit _ => 1
  | .nil => 1
  | .ptr d => uptoBulk d + 1
  | .slice elems spare => uptoBulkAll elems + uptoBulkAll spare + 1
  | .agg parts => uptoBulkAll parts + 1
  | .iface _ d => uptoBulk d + 1
  | .map entries => uptoBulkEntries entries + 1
  | .held _ => 1
def uptoBulkAll {H : Type} : List (DataW H) → Nat
  | [] => 0
  | d :: r => uptoBulk d + uptoBulkAll r
def uptoBulkEntries {H : Type} : List (Lit × DataW H) → Nat
  | [] => 0
  | x :: r => uptoBulkEntry x + uptoBulkEntries r
def uptoBulkEntry {H : Type} : Lit × DataW H → Nat
  | (.string bytes, d) => bytes.length + uptoBulk d + 1
  | (_, d) => uptoBulk d + 1
 end
def uptoSmall : (H : Type) → List (DataW H) → Bool := fun _ ds => decide (uptoBulkAll ds ≤ 1048576)
def OpenSpec.upto (s : _root_.Go.ChangeSpec) : _root_.Go.OpenSpec := { _root_.Go.OpenSpec.ofChange s with cond := some uptoSmall }

/-- 'baggagelaw03.TelegramFormats', WHERE WHAT IT READS IS OF BULK AT MOST 1048576: true; the input reads as it did. -/
def telegramFormatsUptoRow : OpenClaim := { program := "ytodandhnddjfpaadoor", sum := "4a6d45e85e37c7a7a02cd74d6b99b2480370ef44951d671c4bf1ec5b8799e21a", func := "baggage/baggagelaw03.TelegramFormats", spec := "telegramFormats", inPlace := ["internal/abi.NoEscape", "internal/bytealg.MakeNoZero", "internal/bytealg.IndexByteString", "internal/bytealg.IndexString", "internal/bytealg.CountString"], unfollowed := true, recurses := true, named := ["internal/bytealg.MaxLen", "unicode/utf8.first", "unicode/utf8.acceptRanges"], apart := false, laid := [("unicode/utf8.acceptRanges", laid_unicode_utf8_acceptRanges), ("unicode/utf8.first", laid_unicode_utf8_first)], narrowed := true }
def TelegramFormatsUptoSaid : Prop := telegramFormatsUptoRow.holds Tryd.pinned (OpenSpec.upto telegramFormatsSpec)

/-- 'baggagelaw03.TelegramBeginnings', WHERE WHAT IT READS IS OF BULK AT MOST 1048576: true; the input reads as it did. -/
def telegramBeginningsUptoRow : OpenClaim := { program := "ytodandhnddjfpaadoor", sum := "4a6d45e85e37c7a7a02cd74d6b99b2480370ef44951d671c4bf1ec5b8799e21a", func := "baggage/baggagelaw03.TelegramBeginnings", spec := "telegramBeginnings", inPlace := ["internal/bytealg.IndexByteString", "internal/bytealg.IndexString", "internal/bytealg.CountString", "internal/abi.NoEscape", "internal/bytealg.MakeNoZero"], unfollowed := true, recurses := true, named := ["internal/bytealg.MaxLen", "unicode/utf8.first", "unicode/utf8.acceptRanges"], apart := false, laid := [("unicode/utf8.acceptRanges", laid_unicode_utf8_acceptRanges), ("unicode/utf8.first", laid_unicode_utf8_first)], narrowed := true }
def TelegramBeginningsUptoSaid : Prop := telegramBeginningsUptoRow.holds Tryd.pinned (OpenSpec.upto telegramBeginningsSpec)

/-- 'baggagelaw03.TelegramLimits', WHERE WHAT IT READS IS OF BULK AT MOST 1048576: true; the input reads as it did. -/
def telegramLimitsUptoRow : OpenClaim := { program := "ytodandhnddjfpaadoor", sum := "4a6d45e85e37c7a7a02cd74d6b99b2480370ef44951d671c4bf1ec5b8799e21a", func := "baggage/baggagelaw03.TelegramLimits", spec := "telegramLimits", inPlace := ["internal/abi.NoEscape", "internal/bytealg.MakeNoZero", "internal/bytealg.IndexByteString", "internal/bytealg.IndexString", "internal/bytealg.CountString"], unfollowed := true, recurses := true, named := ["internal/bytealg.MaxLen", "unicode/utf8.first", "unicode/utf8.acceptRanges"], apart := false, laid := [("unicode/utf8.acceptRanges", laid_unicode_utf8_acceptRanges), ("unicode/utf8.first", laid_unicode_utf8_first)], narrowed := true }
def TelegramLimitsUptoSaid : Prop := telegramLimitsUptoRow.holds Tryd.pinned (OpenSpec.upto telegramLimitsSpec)

/-- 'baggagelaw03.TelegramBack', WHERE WHAT IT READS IS OF BULK AT MOST 1048576: true; the input reads as it did. -/
def telegramBackUptoRow : OpenClaim := { program := "ytodandhnddjfpaadoor", sum := "4a6d45e85e37c7a7a02cd74d6b99b2480370ef44951d671c4bf1ec5b8799e21a", func := "baggage/baggagelaw03.TelegramBack", spec := "telegramBack", inPlace := ["internal/abi.NoEscape", "internal/bytealg.MakeNoZero", "internal/bytealg.IndexByteString", "internal/bytealg.IndexString", "internal/bytealg.CountString"], unfollowed := true, recurses := true, named := ["internal/bytealg.MaxLen", "unicode/utf8.first", "unicode/utf8.acceptRanges"], apart := false, laid := [("unicode/utf8.acceptRanges", laid_unicode_utf8_acceptRanges), ("unicode/utf8.first", laid_unicode_utf8_first)], narrowed := true }
def TelegramBackUptoSaid : Prop := telegramBackUptoRow.holds Tryd.pinned (OpenSpec.upto telegramBackSpec)

/-- 'baggagelaw03.TelegramSame', WHERE WHAT IT READS IS OF BULK AT MOST 1048576: true; the input reads as it did. -/
def telegramSameUptoRow : OpenClaim := { program := "ytodandhnddjfpaadoor", sum := "4a6d45e85e37c7a7a02cd74d6b99b2480370ef44951d671c4bf1ec5b8799e21a", func := "baggage/baggagelaw03.TelegramSame", spec := "telegramSame", inPlace := ["internal/abi.NoEscape", "internal/bytealg.MakeNoZero", "internal/bytealg.IndexByteString", "internal/bytealg.IndexString", "internal/bytealg.CountString"], unfollowed := true, recurses := true, named := ["internal/bytealg.MaxLen", "unicode/utf8.first", "unicode/utf8.acceptRanges"], apart := false, laid := [("unicode/utf8.acceptRanges", laid_unicode_utf8_acceptRanges), ("unicode/utf8.first", laid_unicode_utf8_first)], narrowed := true }
def TelegramSameUptoSaid : Prop := telegramSameUptoRow.holds Tryd.pinned (OpenSpec.upto telegramSameSpec)

end Rows
end Go.Proofs.YtodandhnddjfpaaDoor
