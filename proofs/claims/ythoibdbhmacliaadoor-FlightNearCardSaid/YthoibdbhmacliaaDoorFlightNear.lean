/- PROVED: the Go function 'baggage/baggagelaw02.FlightNear' answers true for every input that the row admits, and its arguments read afterwards as before. Conditions: those of the row and nothing else. -/
import Derived.Test.YthoibdbhmacliaaDoorWd
import Derived.Test.YthoibdbhmacliaaDoorWc
open Go Go.Proofs Go.Abs
set_option maxRecDepth 100000
namespace Go.Proofs.YthoibdbhmacliaaDoor
open Go.ChangeShapes Go.WideShapes Go.ChangeAt Go.RowKit
theorem flightNear_reads (os : Os) {H : Type} (enc : TypeId × Value → H) : ∃ places, DataW.whole enc Tryd.prog ((World.doorLaid Tryd.prog 400 os).forCall (fun _ _ => 0) ⟨#[], #[.slice none 0 0, .int .i64 0, .int .u8 0, .string ⟨#[]⟩], []⟩).memory Tryd.f4.params.toList Rows.flightNearSpec.vars false (#[.slice none 0 0, .int .i64 0, .int .u8 0, .string ⟨#[]⟩] : Array Value).toList 8 = some ([.nil, .lit (.int .i64 0), .lit (.int .u8 0), .lit (.string [])], [], places) :=
  ⟨[], by kernel_rfl⟩
theorem flightNear_lifted (os : Os) (started : os.Started) (H : Type) (enc : TypeId × Value → H) (F : Stop.Interp) :
    ReturnsInHanded {} Tryd.checked os 4 .any ((OpenSpec.ofChange Rows.flightNearSpec).preRow enc Tryd.prog Tryd.f4 Rows.flightNearRow.domain false Rows.flightNearRow.laid) (((OpenSpec.ofChange Rows.flightNearSpec).at F).post enc Tryd.prog Tryd.f4 false true false false) := by
  obtain ⟨places, hx⟩ := flightNear_reads os enc
  refine returnsInHanded_of_row (C := Tryd.checked) (s := OpenSpec.ofChange Rows.flightNearSpec) own started (by kernel_rfl) Tryd.func4
    (door_row (enc := enc) (World.doorLaid Tryd.prog 400 os) #[.slice none 0 0, .int .i64 0, .int .u8 0, .string ⟨#[]⟩] rfl (by kernel_rfl) (by kernel_rfl) (by kernel_rfl)
      (OpenSpec.preRow_of_cond 8 hx (by kernel_rfl) (fun k hk => by cases hk) (by kernel_rfl) (door_met os _))) ?_
  intro W base args ds gs before hval hW _ _ hsz hL _ _
  exact law_calls (C := Tryd.checked) (s := Rows.flightNearSpec) (cts := [.ty (.sl (.cons (.int .i64) .nil)), .ty (.int .i64), .ty (.int .u8), .ty .str]) (tb := 4) (F := sp4) rfl (fun ds h => by
        match ds, h with
        | [_, _, _, _], _ => rfl) (by kernel_rfl) (by kernel_rfl) (by kernel_rfl) (by kernel_rfl) (by kernel_rfl) tc4 (fun x h => ⟨(), law4 x⟩) (glob hL) hval hW hsz
theorem flightNear_holds : Rows.FlightNearSaid :=
  OpenClaim.holds_of_cond 4 Tryd.f4 rfl rfl rfl rfl rfl rfl rfl ⟨rfl, rfl, rfl, rfl, rfl⟩ rfl rfl rfl rfl rfl (by kernel_rfl) Tryd.func4 (by kernel_rfl)
    (of_decide_eq_true (by kernel_rfl)) (by unfold Func.isWrapper; first | (rw [if_pos (by decide +kernel)]; kernel_rfl) | (rw [if_neg (by decide +kernel)]; exact ⟨rfl, rfl⟩))
    (fun os started H enc _ F => by rw [OpenClaim.pre_eq_preRow]; exact flightNear_lifted os started H enc F)
theorem flightNear_plain (f : FuncId) (fn : Func) (hf : Tryd.pinned.checked.prog.funcNamed "baggage/baggagelaw02.FlightNear" = some f) (hfn : Tryd.pinned.checked.prog.funcs[f]? = some fn) :
    true = Tryd.pinned.checked.prog.looks [] ∧ ∀ (j : Nat) t, fn.params[j]? = some t → Tryd.pinned.checked.prog.wantsStandIn t = false := by
  obtain rfl : f = 4 := Option.some.inj ((show Tryd.prog.funcNamed "baggage/baggagelaw02.FlightNear" = some 4 by kernel_rfl).symm.trans hf) |>.symm
  obtain rfl : fn = Tryd.f4 := (Option.some.inj (Tryd.func4.symm.trans hfn)).symm
  refine ⟨by kernel_rfl, fun j t ht => ?_⟩
  rw [Tryd.params4] at ht
  have hm : t ∈ [31, 3, 5, 9] := by simpa using Array.mem_of_getElem? ht
  have hall : ([31, 3, 5, 9].all fun u => !Tryd.prog.wantsStandIn u) = true := by kernel_rfl
  exact (show Tryd.prog.wantsStandIn t = false by simpa using List.all_eq_true.1 hall t hm)
theorem flightNear_card : Rows.FlightNearCardSaid :=
  Claim7.holds_tied_plain_at .later [] _ _ _ _ flightNear_holds (fun _ h => by cases h) (by kernel_rfl) (fun _ h => by cases h) flightNear_row_tie rfl ⟨rfl, rfl⟩ (by kernel_rfl) rfl flightNear_plain (by kernel_rfl)
end Go.Proofs.YthoibdbhmacliaaDoor
