/- PROVED: the Go function 'baggage/baggagelaw19.EarlyReleases' answers true for every input that the row admits, and its arguments read afterwards as before. Conditions: those of the row and nothing else. -/
import Derived.Test.YtkppmjplkjakkaaRows
import Derived.Test.YtkppmjplkjakkaaWc
open Go Go.Proofs Go.Abs
set_option maxRecDepth 100000
namespace Go.Proofs.Ytkppmjplkjakkaa
open Go.ChangeShapes Go.WideShapes Go.ChangeAt Go.RowKit
theorem earlyReleases_holds : Rows.EarlyReleasesSaid :=
  OpenClaim.holds_of_wide 4 Try.f4 rfl rfl rfl rfl rfl rfl rfl ⟨rfl, rfl, rfl, rfl, rfl⟩ rfl rfl rfl rfl rfl (by kernel_rfl) Try.func4 (by kernel_rfl)
    (of_decide_eq_true (by kernel_rfl)) (by unfold Func.isWrapper; first | (rw [if_pos (by decide +kernel)]; kernel_rfl) | (rw [if_neg (by decide +kernel)]; exact ⟨rfl, rfl⟩))
    (fun os started H enc _ => law_lifted (C := Try.checked) (s := Rows.earlyReleasesSpec) (cts := [.ty (.sl (.cons (.int .i64) .nil))]) (tb := 4) (F := sp4) (by kernel_rfl) started (by kernel_rfl) Try.func4
      (ChangeSpec.witness6 (enc := enc) (C := Try.checked) false ⟨#[], #[.slice none 0 0], []⟩ 8 (by kernel_rfl) (by kernel_rfl) (by kernel_rfl) (by kernel_rfl))
      rfl (fun ds h => by
        match ds, h with
        | [_], _ => rfl) (by kernel_rfl) (by kernel_rfl) (by kernel_rfl) (by kernel_rfl) (by kernel_rfl) tc4 (fun x h => ⟨(), law4 x⟩))
end Go.Proofs.Ytkppmjplkjakkaa
