/- PROVED: the Go function 'baggage/baggagelaw19.EarlyMargin' answers true for every input that the row admits, and its arguments read afterwards as before. Conditions: those of the row and nothing else. -/
import Derived.Test.YtkppmjplkjakkaaRows
import Derived.Test.YtkppmjplkjakkaaWc
open Go Go.Proofs Go.Abs
set_option maxRecDepth 100000
namespace Go.Proofs.Ytkppmjplkjakkaa
open Go.ChangeShapes Go.WideShapes Go.ChangeAt Go.RowKit
theorem earlyMargin_holds : Rows.EarlyMarginSaid :=
  OpenClaim.holds_of_wide 5 Try.f5 rfl rfl rfl rfl rfl rfl rfl ⟨rfl, rfl, rfl, rfl, rfl⟩ rfl rfl rfl rfl rfl (by kernel_rfl) Try.func5 (by kernel_rfl)
    (of_decide_eq_true (by kernel_rfl)) (by unfold Func.isWrapper; first | (rw [if_pos (by decide +kernel)]; kernel_rfl) | (rw [if_neg (by decide +kernel)]; exact ⟨rfl, rfl⟩))
    (fun os started H enc _ => law_lifted (C := Try.checked) (s := Rows.earlyMarginSpec) (cts := [.ty (.int .i64), .ty (.int .i64), .ty (.int .i64), .ty (.int .i64)]) (tb := 4) (F := sp5) (by kernel_rfl) started (by kernel_rfl) Try.func5
      (ChangeSpec.witness6 (enc := enc) (C := Try.checked) false ⟨#[], #[.int .i64 0, .int .i64 0, .int .i64 0, .int .i64 0], []⟩ 8 (by kernel_rfl) (by kernel_rfl) (by kernel_rfl) (by kernel_rfl))
      rfl (fun ds h => by
        match ds, h with
        | [_, _, _, _], _ => rfl) (by kernel_rfl) (by kernel_rfl) (by kernel_rfl) (by kernel_rfl) (by kernel_rfl) tc5 (fun x h => ⟨(), law5 x⟩))
end Go.Proofs.Ytkppmjplkjakkaa
