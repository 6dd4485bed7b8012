/- PROVED: the Go function 'baggage/baggagelaw10.TrafficLoops' answers true for every input that the row admits, and its arguments read afterwards as before. Conditions: those of the row and nothing else. -/
import Derived.Test.YtdkibgdkmnpncaaDoorWd
import Derived.Test.YtdkibgdkmnpncaaDoorWc
import Derived.Test.YtdkibgdkmnpncaaDoorWb
open Go Go.Proofs Go.Abs
set_option maxRecDepth 100000
namespace Go.Proofs.YtdkibgdkmnpncaaDoor
open Go.ChangeShapes Go.WideShapes Go.ChangeAt Go.RowKit
theorem trafficLoops_reads (os : Os) {H : Type} (enc : TypeId × Value → H) : ∃ places, DataW.whole enc Tryd.prog ((World.laidAll Tryd.prog os Rows.trafficFlowsRow.laid).forCall (fun _ _ => 0) ⟨#[], #[.slice none 0 0], []⟩).memory Tryd.f4.params.toList Rows.trafficLoopsSpec.vars false (#[.slice none 0 0] : Array Value).toList 8 = some ([.nil], [], places) :=
  ⟨[], by kernel_rfl⟩
theorem trafficLoops_lifted (os : Os) (started : os.Started) (H : Type) (enc : TypeId × Value → H) (F : Stop.Interp) :
    ReturnsInHanded {} Tryd.checked os 4 .any ((OpenSpec.ofChange Rows.trafficLoopsSpec).preRow enc Tryd.prog Tryd.f4 Rows.trafficLoopsRow.domain false Rows.trafficLoopsRow.laid) (((OpenSpec.ofChange Rows.trafficLoopsSpec).at F).post enc Tryd.prog Tryd.f4 false true false false) := by
  obtain ⟨places, hx⟩ := trafficLoops_reads os enc
  refine returnsInHanded_of_row (C := Tryd.checked) (s := OpenSpec.ofChange Rows.trafficLoopsSpec) own started (by kernel_rfl) Tryd.func4
    (door_row (enc := enc) (World.laidAll Tryd.prog os Rows.trafficFlowsRow.laid) #[.slice none 0 0] rfl (by kernel_rfl) (by kernel_rfl) (by kernel_rfl)
      (OpenSpec.preRow_of_cond 8 hx (by kernel_rfl) (fun k hk => by cases hk) (by kernel_rfl) (door_met os _))) ?_
  intro W base args ds gs before hval hW _ _ hsz hL _ _
  exact law_calls (C := Tryd.checked) (s := Rows.trafficLoopsSpec) (cts := [.ty (.sl (.cons (.int .i64) .nil))]) (tb := 4) (F := sp4) rfl (fun ds h => by
        match ds, h with
        | [_], _ => rfl) (by kernel_rfl) (by kernel_rfl) (by kernel_rfl) (by kernel_rfl) (by kernel_rfl) tc4 (fun x h => ⟨(), law4 x e14⟩) (glob hL) hval hW hsz
theorem trafficLoops_holds : Rows.TrafficLoopsSaid :=
  OpenClaim.holds_of_cond 4 Tryd.f4 rfl rfl rfl rfl rfl rfl rfl ⟨rfl, rfl, rfl, rfl, rfl⟩ rfl rfl rfl rfl rfl (by kernel_rfl) Tryd.func4 (by kernel_rfl)
    (of_decide_eq_true (by kernel_rfl)) (by unfold Func.isWrapper; first | (rw [if_pos (by decide +kernel)]; kernel_rfl) | (rw [if_neg (by decide +kernel)]; exact ⟨rfl, rfl⟩))
    (fun os started H enc _ F => by rw [OpenClaim.pre_eq_preRow]; exact trafficLoops_lifted os started H enc F)
theorem trafficLoops_plain (f : FuncId) (fn : Func) (hf : Tryd.pinned.checked.prog.funcNamed "baggage/baggagelaw10.TrafficLoops" = some f) (hfn : Tryd.pinned.checked.prog.funcs[f]? = some fn) :
    false = Tryd.pinned.checked.prog.looks [] ∧ ∀ (j : Nat) t, fn.params[j]? = some t → Tryd.pinned.checked.prog.wantsStandIn t = false := by
  obtain rfl : f = 4 := Option.some.inj ((show Tryd.prog.funcNamed "baggage/baggagelaw10.TrafficLoops" = some 4 by kernel_rfl).symm.trans hf) |>.symm
  obtain rfl : fn = Tryd.f4 := (Option.some.inj (Tryd.func4.symm.trans hfn)).symm
  refine ⟨by kernel_rfl, fun j t ht => ?_⟩
  rw [Tryd.params4] at ht
  have hm : t ∈ [22] := by simpa using Array.mem_of_getElem? ht
  have hall : ([22].all fun u => !Tryd.prog.wantsStandIn u) = true := by kernel_rfl
  exact (show Tryd.prog.wantsStandIn t = false by simpa using List.all_eq_true.1 hall t hm)
theorem trafficLoops_card : Rows.TrafficLoopsCardSaid :=
  Claim7.holds_tied_plain_at .later [] _ _ _ _ trafficLoops_holds (fun _ h => by cases h) (by kernel_rfl) (fun _ h => by cases h) trafficLoops_row_tie rfl ⟨rfl, rfl⟩ (by kernel_rfl) rfl trafficLoops_plain (by kernel_rfl)
end Go.Proofs.YtdkibgdkmnpncaaDoor
