/- PROVED: the Go function 'baggage/baggagelaw10.TrafficGreedy' answers true for every input that the row admits, and its arguments read afterwards as before. Conditions: those of the row and nothing else. -/
import Derived.Test.YtdkibgdkmnpncaaDoorWd
import Derived.Test.YtdkibgdkmnpncaaDoorWc
import Derived.Test.YtdkibgdkmnpncaaDoorWo
open Go Go.Proofs Go.Abs
set_option maxRecDepth 100000
namespace Go.Proofs.YtdkibgdkmnpncaaDoor
open Go.ChangeShapes Go.WideShapes Go.ChangeAt Go.RowKit
theorem trafficGreedy_reads (os : Os) {H : Type} (enc : TypeId × Value → H) : ∃ places, DataW.whole enc Tryd.prog ((World.laidAll Tryd.prog os Rows.trafficFlowsRow.laid).forCall (fun _ _ => 0) ⟨#[], #[.slice none 0 0], []⟩).memory Tryd.f6.params.toList Rows.trafficGreedySpec.vars false (#[.slice none 0 0] : Array Value).toList 8 = some ([.nil], [], places) :=
  ⟨[], by kernel_rfl⟩
theorem trafficGreedy_lifted (os : Os) (started : os.Started) (H : Type) (enc : TypeId × Value → H) (F : Stop.Interp) :
    ReturnsInHanded {} Tryd.checked os 6 .any ((OpenSpec.ofChange Rows.trafficGreedySpec).preRow enc Tryd.prog Tryd.f6 Rows.trafficGreedyRow.domain false Rows.trafficGreedyRow.laid) (((OpenSpec.ofChange Rows.trafficGreedySpec).at F).post enc Tryd.prog Tryd.f6 false true false false) := by
  obtain ⟨places, hx⟩ := trafficGreedy_reads os enc
  refine returnsInHanded_of_row (C := Tryd.checked) (s := OpenSpec.ofChange Rows.trafficGreedySpec) own started (by kernel_rfl) Tryd.func6
    (door_row (enc := enc) (World.laidAll Tryd.prog os Rows.trafficFlowsRow.laid) #[.slice none 0 0] rfl (by kernel_rfl) (by kernel_rfl) (by kernel_rfl)
      (OpenSpec.preRow_of_cond 8 hx (by kernel_rfl) (fun k hk => by cases hk) (by kernel_rfl) (door_met os _))) ?_
  intro W base args ds gs before hval hW _ _ hsz hL _ _
  exact law_calls (C := Tryd.checked) (s := Rows.trafficGreedySpec) (cts := [.ty (.sl (.cons (.int .i64) .nil))]) (tb := 4) (F := sp6) rfl (fun ds h => by
        match ds, h with
        | [_], _ => rfl) (by kernel_rfl) (by kernel_rfl) (by kernel_rfl) (by kernel_rfl) (by kernel_rfl) tc6 (fun x h => ⟨(), law6 x e14⟩) (glob hL) hval hW hsz
theorem trafficGreedy_holds : Rows.TrafficGreedySaid :=
  OpenClaim.holds_of_cond 6 Tryd.f6 rfl rfl rfl rfl rfl rfl rfl ⟨rfl, rfl, rfl, rfl, rfl⟩ rfl rfl rfl rfl rfl (by kernel_rfl) Tryd.func6 (by kernel_rfl)
    (of_decide_eq_true (by kernel_rfl)) (by unfold Func.isWrapper; first | (rw [if_pos (by decide +kernel)]; kernel_rfl) | (rw [if_neg (by decide +kernel)]; exact ⟨rfl, rfl⟩))
    (fun os started H enc _ F => by rw [OpenClaim.pre_eq_preRow]; exact trafficGreedy_lifted os started H enc F)
theorem trafficGreedy_plain (f : FuncId) (fn : Func) (hf : Tryd.pinned.checked.prog.funcNamed "baggage/baggagelaw10.TrafficGreedy" = some f) (hfn : Tryd.pinned.checked.prog.funcs[f]? = some fn) :
    false = Tryd.pinned.checked.prog.looks [] ∧ ∀ (j : Nat) t, fn.params[j]? = some t → Tryd.pinned.checked.prog.wantsStandIn t = false := by
  obtain rfl : f = 6 := Option.some.inj ((show Tryd.prog.funcNamed "baggage/baggagelaw10.TrafficGreedy" = some 6 by kernel_rfl).symm.trans hf) |>.symm
  obtain rfl : fn = Tryd.f6 := (Option.some.inj (Tryd.func6.symm.trans hfn)).symm
  refine ⟨by kernel_rfl, fun j t ht => ?_⟩
  rw [Tryd.params6] at ht
  have hm : t ∈ [22] := by simpa using Array.mem_of_getElem? ht
  have hall : ([22].all fun u => !Tryd.prog.wantsStandIn u) = true := by kernel_rfl
  exact (show Tryd.prog.wantsStandIn t = false by simpa using List.all_eq_true.1 hall t hm)
theorem trafficGreedy_card : Rows.TrafficGreedyCardSaid :=
  Claim7.holds_tied_plain_at .later [] _ _ _ _ trafficGreedy_holds (fun _ h => by cases h) (by kernel_rfl) (fun _ h => by cases h) trafficGreedy_row_tie rfl ⟨rfl, rfl⟩ (by kernel_rfl) rfl trafficGreedy_plain (by kernel_rfl)
end Go.Proofs.YtdkibgdkmnpncaaDoor
