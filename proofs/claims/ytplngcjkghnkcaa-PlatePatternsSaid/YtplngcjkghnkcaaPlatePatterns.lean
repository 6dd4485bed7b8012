/- PROVED: the Go function 'baggage/baggagelaw01.PlatePatterns' answers true for every input that the row admits, and its arguments read afterwards as before. Conditions: those of the row and nothing else. -/
import Derived.Test.YtplngcjkghnkcaaRows
import Derived.Test.YtplngcjkghnkcaaWb
open Go Go.Proofs Go.Abs
set_option maxRecDepth 100000
namespace Go.Proofs.Ytplngcjkghnkcaa
open Go.ChangeShapes Go.WideShapes Go.ChangeAt Go.RowKit
theorem platePatterns_holds : Rows.PlatePatternsSaid :=
  OpenClaim.holds_of_wide 8 Try.f8 rfl rfl rfl rfl rfl rfl rfl ⟨rfl, rfl, rfl, rfl, rfl⟩ rfl rfl rfl rfl rfl (by kernel_rfl) Try.func8 (by kernel_rfl)
    (of_decide_eq_true (by kernel_rfl)) (by unfold Func.isWrapper; first | (rw [if_pos (by decide +kernel)]; kernel_rfl) | (rw [if_neg (by decide +kernel)]; exact ⟨rfl, rfl⟩))
    (fun os started H enc _ => law_lifted (C := Try.checked) (s := Rows.platePatternsSpec) (cts := [.ty .str, .ag (.cons (.int .i64) (.cons (.int .i64) (.cons (.int .i64) .nil))), .ag (.cons (.int .i64) (.cons (.int .i64) (.cons (.int .i64) .nil))), .ty (.sl (.cons (.int .i64) (.cons (.int .i64) (.cons (.int .i64) .nil))))]) (tb := 4) (F := sp8) (by kernel_rfl) started (by kernel_rfl) Try.func8
      (ChangeSpec.witness6 (enc := enc) (C := Try.checked) false ⟨#[], #[.string ⟨#[]⟩, .agg #[.int .i64 0, .int .i64 0, .int .i64 0], .agg #[.int .i64 0, .int .i64 0, .int .i64 0], .slice none 0 0], []⟩ 8 (by kernel_rfl) (by kernel_rfl) (by kernel_rfl) (by kernel_rfl))
      rfl (fun ds h => by
        match ds, h with
        | [_, _, _, _], _ => rfl) (by kernel_rfl) (by kernel_rfl) (by kernel_rfl) (by kernel_rfl) (by kernel_rfl) tc8 (fun x h => law8 x))
end Go.Proofs.Ytplngcjkghnkcaa
