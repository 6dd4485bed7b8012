/- PROVED: the Go function 'baggage/baggagelaw10.TrafficFlows' answers true for every input that the row admits, and its arguments read afterwards as before. Conditions: those of the row and nothing else. -/
import Derived.Test.YtdkibgdkmnpncaaDoorWd
import Derived.Test.YtdkibgdkmnpncaaDoorWc
import Derived.Test.YtdkibgdkmnpncaaDoorWo
open Go Go.Proofs Go.Abs
set_option maxRecDepth 100000
namespace Go.Proofs.YtdkibgdkmnpncaaDoor
open Go.ChangeShapes Go.WideShapes Go.ChangeAt Go.RowKit
theorem oo (os : Os) {H : Type} (enc : TypeId × Value → H) : ∃ places, DataW.whole enc Tryd.prog ((World.laidAll Tryd.prog os Rows.trafficFlowsRow.laid).forCall (fun _ _ => 0) ⟨#[], #[.slice none 0 0, .slice none 0 0, .slice none 0 0], []⟩).memory Tryd.f5.params.toList Rows.trafficFlowsSpec.vars false (#[.slice none 0 0, .slice none 0 0, .slice none 0 0] : Array Value).toList 8 = some ([.nil, .nil, .nil], [], places) :=
  ⟨[], by kernel_rfl⟩
theorem nC (os : Os) (started : os.Started) (H : Type) (enc : TypeId × Value → H) (F : Stop.Interp) :
    ReturnsInHanded {} Tryd.checked os 5 .any ((OpenSpec.ofChange Rows.trafficFlowsSpec).preRow enc Tryd.prog Tryd.f5 Rows.trafficFlowsRow.domain false Rows.trafficFlowsRow.laid) (((OpenSpec.ofChange Rows.trafficFlowsSpec).at F).post enc Tryd.prog Tryd.f5 false true false false) := by
  obtain ⟨places, hx⟩ := oo os enc
  refine returnsInHanded_of_row (C := Tryd.checked) (s := OpenSpec.ofChange Rows.trafficFlowsSpec) own started (by kernel_rfl) Tryd.func5
    (H8 (enc := enc) (World.laidAll Tryd.prog os Rows.trafficFlowsRow.laid) #[.slice none 0 0, .slice none 0 0, .slice none 0 0] rfl (by kernel_rfl) (by kernel_rfl) (by kernel_rfl)
      (OpenSpec.preRow_of_cond 8 hx (by kernel_rfl) (fun k hk => by cases hk) (by kernel_rfl) (H7 os _))) ?_
  intro W base args ds gs before hval hW _ _ hsz hL _ _
  exact GU (C := Tryd.checked) (s := Rows.trafficFlowsSpec) (cts := [.ty (.sl (.cons (.int .i64) .nil)), .ty (.sl (.cons (.int .i64) .nil)), .ty (.sl (.cons (.int .i64) (.cons (.int .i64) (.cons (.int .i64) .nil))))]) (tb := 4) (F := VU) rfl (fun ds h => by
        match ds, h with
        | [_, _, _], _ => rfl) (by kernel_rfl) (by kernel_rfl) (by kernel_rfl) (by kernel_rfl) (by kernel_rfl) tc5 (fun x h => ⟨(), Vz x SU⟩) (bq hL) hval hW hsz
theorem trafficFlows_holds : Rows.TrafficFlowsSaid :=
  OpenClaim.holds_of_cond 5 Tryd.f5 rfl rfl rfl rfl rfl rfl rfl ⟨rfl, rfl, rfl, rfl, rfl⟩ rfl rfl rfl rfl rfl (by kernel_rfl) Tryd.func5 (by kernel_rfl)
    (of_decide_eq_true (by kernel_rfl)) (by unfold Func.isWrapper; first | (rw [if_pos (by decide +kernel)]; kernel_rfl) | (rw [if_neg (by decide +kernel)]; exact ⟨rfl, rfl⟩))
    (fun os started H enc _ F => by rw [OpenClaim.pre_eq_preRow]; exact nC os started H enc F)
theorem om (f : FuncId) (fn : Func) (hf : Tryd.pinned.checked.prog.funcNamed "baggage/baggagelaw10.TrafficFlows" = some f) (hfn : Tryd.pinned.checked.prog.funcs[f]? = some fn) :
    false = Tryd.pinned.checked.prog.looks [] ∧ ∀ (j : Nat) t, fn.params[j]? = some t → Tryd.pinned.checked.prog.wantsStandIn t = false := by
  obtain rfl : f = 5 := Option.some.inj ((show Tryd.prog.funcNamed "baggage/baggagelaw10.TrafficFlows" = some 5 by kernel_rfl).symm.trans hf) |>.symm
  obtain rfl : fn = Tryd.f5 := (Option.some.inj (Tryd.func5.symm.trans hfn)).symm
  refine ⟨by kernel_rfl, fun j t ht => ?_⟩
  rw [Tryd.params5] at ht
  have hm : t ∈ [22, 22, 40] := by simpa using Array.mem_of_getElem? ht
  have hall : ([22, 22, 40].all fun u => !Tryd.prog.wantsStandIn u) = true := by kernel_rfl
  exact (show Tryd.prog.wantsStandIn t = false by simpa using List.all_eq_true.1 hall t hm)
theorem trafficFlows_card : Rows.TrafficFlowsCardSaid :=
  Claim7.holds_tied_plain_at .later [] _ _ _ _ trafficFlows_holds (fun _ h => by cases h) (by kernel_rfl) (fun _ h => by cases h) trafficFlows_row_tie rfl ⟨rfl, rfl⟩ (by kernel_rfl) rfl om (by kernel_rfl)
end Go.Proofs.YtdkibgdkmnpncaaDoor
