/- PROVED: the Go function 'baggage/baggagelaw19.EarlyDecides' answers true for every input that the row admits, and its arguments read afterwards as before. Conditions: those of the row and nothing else. -/
import Derived.Test.YtkppmjplkjakkaaRows
import Derived.Test.YtkppmjplkjakkaaWc
open Go Go.Proofs Go.Abs
set_option maxRecDepth 100000
namespace Go.Proofs.Ytkppmjplkjakkaa
open Go.ChangeShapes Go.WideShapes Go.ChangeAt Go.RowKit
theorem earlyDecides_holds : Rows.EarlyDecidesSaid :=
  OpenClaim.holds_of_wide 3 Try.f3 rfl rfl rfl rfl rfl rfl rfl ⟨rfl, rfl, rfl, rfl, rfl⟩ rfl rfl rfl rfl rfl (by kernel_rfl) Try.func3 (by kernel_rfl)
    (of_decide_eq_true (by kernel_rfl)) (by unfold Func.isWrapper; first | (rw [if_pos (by decide +kernel)]; kernel_rfl) | (rw [if_neg (by decide +kernel)]; exact ⟨rfl, rfl⟩))
    (fun os started H enc _ => law_lifted (C := Try.checked) (s := Rows.earlyDecidesSpec) (cts := [.ty (.int .i64), .ty (.int .i64), .ty (.int .i64), .ty (.int .i64), .ty (.sl (.cons (.int .i64) (.cons (.int .i64) .nil))), .ty (.sl (.cons (.int .i64) .nil))]) (tb := 4) (F := sp3) (by kernel_rfl) started (by kernel_rfl) Try.func3
      (ChangeSpec.witness6 (enc := enc) (C := Try.checked) false ⟨#[], #[.int .i64 0, .int .i64 0, .int .i64 0, .int .i64 0, .slice none 0 0, .slice none 0 0], []⟩ 8 (by kernel_rfl) (by kernel_rfl) (by kernel_rfl) (by kernel_rfl))
      rfl (fun ds h => by
        match ds, h with
        | [_, _, _, _, _, _], _ => rfl) (by kernel_rfl) (by kernel_rfl) (by kernel_rfl) (by kernel_rfl) (by kernel_rfl) tc3 (fun x h => ⟨(), law3 x⟩))
end Go.Proofs.Ytkppmjplkjakkaa
