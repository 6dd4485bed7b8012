/- PROVED: the Go function 'baggage/baggagelaw08.RouteTables' answers true for every input that the row admits, and its arguments read afterwards as before. Conditions: those of the row and nothing else. -/
import Derived.Test.YtjficagemeiecaaDoorWd
import Derived.Test.YtjficagemeiecaaDoorWc
import Derived.Test.YtjficagemeiecaaDoorWo
open Go Go.Proofs Go.Abs
set_option maxRecDepth 100000
namespace Go.Proofs.YtjficagemeiecaaDoor
open Go.ChangeShapes Go.WideShapes Go.ChangeAt Go.RowKit
theorem routeTables_reads (os : Os) {H : Type} (enc : TypeId × Value → H) : ∃ places, DataW.whole enc Tryd.prog ((World.laidAll Tryd.prog os Rows.routeTablesRow.laid).forCall (fun _ _ => 0) ⟨#[], #[.agg #[.slice none 0 0, .slice none 0 0], .slice none 0 0, .int .i64 0, .int .i64 0, .int .i64 0, .slice none 0 0], []⟩).memory Tryd.f3.params.toList Rows.routeTablesSpec.vars false (#[.agg #[.slice none 0 0, .slice none 0 0], .slice none 0 0, .int .i64 0, .int .i64 0, .int .i64 0, .slice none 0 0] : Array Value).toList 8 = some ([.agg [.nil, .nil], .nil, .lit (.int .i64 0), .lit (.int .i64 0), .lit (.int .i64 0), .nil], [], places) :=
  ⟨[], by kernel_rfl⟩
theorem routeTables_lifted (os : Os) (started : os.Started) (H : Type) (enc : TypeId × Value → H) (F : Stop.Interp) :
    ReturnsInHanded {} Tryd.checked os 3 .any ((OpenSpec.ofChange Rows.routeTablesSpec).preRow enc Tryd.prog Tryd.f3 Rows.routeTablesRow.domain false Rows.routeTablesRow.laid) (((OpenSpec.ofChange Rows.routeTablesSpec).at F).post enc Tryd.prog Tryd.f3 false true false false) := by
  obtain ⟨places, hx⟩ := routeTables_reads os enc
  refine returnsInHanded_of_row (C := Tryd.checked) (s := OpenSpec.ofChange Rows.routeTablesSpec) own started (by kernel_rfl) Tryd.func3
    (door_row (enc := enc) (World.laidAll Tryd.prog os Rows.routeTablesRow.laid) #[.agg #[.slice none 0 0, .slice none 0 0], .slice none 0 0, .int .i64 0, .int .i64 0, .int .i64 0, .slice none 0 0] rfl (by kernel_rfl) (by kernel_rfl) (by kernel_rfl)
      (OpenSpec.preRow_of_cond 8 hx (by kernel_rfl) (fun k hk => by cases hk) (by kernel_rfl) (door_met os _))) ?_
  intro W base args ds gs before hval hW _ _ hsz hL _ _
  exact law_calls (C := Tryd.checked) (s := Rows.routeTablesSpec) (cts := [.ag ty4, .ty (.sl (.cons (.int .i64) .nil)), .ty (.int .i64), .ty (.int .i64), .ty (.int .i64), .ty (.sl (.cons .bool .nil))]) (tb := 4) (F := sp3) rfl (fun ds h => by
        match ds, h with
        | [_, _, _, _, _, _], _ => rfl) (by kernel_rfl) (by kernel_rfl) (by kernel_rfl) (by kernel_rfl) (by kernel_rfl) tc3 (fun x h => ⟨(), law3 x h.1.1.1 e8⟩) (glob hL) hval hW hsz
theorem routeTables_holds : Rows.RouteTablesSaid :=
  OpenClaim.holds_of_cond 3 Tryd.f3 rfl rfl rfl rfl rfl rfl rfl ⟨rfl, rfl, rfl, rfl, rfl⟩ rfl rfl rfl rfl rfl (by kernel_rfl) Tryd.func3 (by kernel_rfl)
    (of_decide_eq_true (by kernel_rfl)) (by unfold Func.isWrapper; first | (rw [if_pos (by decide +kernel)]; kernel_rfl) | (rw [if_neg (by decide +kernel)]; exact ⟨rfl, rfl⟩))
    (fun os started H enc _ F => by rw [OpenClaim.pre_eq_preRow]; exact routeTables_lifted os started H enc F)
theorem routeTables_plain (f : FuncId) (fn : Func) (hf : Tryd.pinned.checked.prog.funcNamed "baggage/baggagelaw08.RouteTables" = some f) (hfn : Tryd.pinned.checked.prog.funcs[f]? = some fn) :
    false = Tryd.pinned.checked.prog.looks [] ∧ ∀ (j : Nat) t, fn.params[j]? = some t → Tryd.pinned.checked.prog.wantsStandIn t = false := by
  obtain rfl : f = 3 := Option.some.inj ((show Tryd.prog.funcNamed "baggage/baggagelaw08.RouteTables" = some 3 by kernel_rfl).symm.trans hf) |>.symm
  obtain rfl : fn = Tryd.f3 := (Option.some.inj (Tryd.func3.symm.trans hfn)).symm
  refine ⟨by kernel_rfl, fun j t ht => ?_⟩
  rw [Tryd.params3] at ht
  have hm : t ∈ [25, 26, 3, 3, 3, 27] := by simpa using Array.mem_of_getElem? ht
  have hall : ([25, 26, 3, 3, 3, 27].all fun u => !Tryd.prog.wantsStandIn u) = true := by kernel_rfl
  exact (show Tryd.prog.wantsStandIn t = false by simpa using List.all_eq_true.1 hall t hm)
theorem routeTables_card : Rows.RouteTablesCardSaid :=
  Claim7.holds_tied_plain_at .later [] _ _ _ _ routeTables_holds (fun _ h => by cases h) (by kernel_rfl) (fun _ h => by cases h) routeTables_row_tie rfl ⟨rfl, rfl⟩ (by kernel_rfl) rfl routeTables_plain (by kernel_rfl)
end Go.Proofs.YtjficagemeiecaaDoor
