/- PROVED: the Go function 'baggage/baggagelaw08.RouteLeast' answers true for every input that the row admits, and its arguments read afterwards as before. Conditions: those of the row and nothing else. -/
import Derived.Test.YtjficagemeiecaaDoorWd
import Derived.Test.YtjficagemeiecaaDoorWc
import Derived.Test.YtjficagemeiecaaDoorWb
open Go Go.Proofs Go.Abs
set_option maxRecDepth 100000
namespace Go.Proofs.YtjficagemeiecaaDoor
open Go.ChangeShapes Go.WideShapes Go.ChangeAt Go.RowKit
theorem routeLeast_reads (os : Os) {H : Type} (enc : TypeId × Value → H) : ∃ places, DataW.whole enc Tryd.prog ((World.laidAll Tryd.prog os Rows.routeTablesRow.laid).forCall (fun _ _ => 0) ⟨#[], #[.slice none 0 0, .int .i64 0, .slice none 0 0, .int .i64 0], []⟩).memory Tryd.f5.params.toList Rows.routeLeastSpec.vars false (#[.slice none 0 0, .int .i64 0, .slice none 0 0, .int .i64 0] : Array Value).toList 8 = some ([.nil, .lit (.int .i64 0), .nil, .lit (.int .i64 0)], [], places) :=
  ⟨[], by kernel_rfl⟩
theorem routeLeast_lifted (os : Os) (started : os.Started) (H : Type) (enc : TypeId × Value → H) (F : Stop.Interp) :
    ReturnsInHanded {} Tryd.checked os 5 .any ((OpenSpec.ofChange Rows.routeLeastSpec).preRow enc Tryd.prog Tryd.f5 Rows.routeLeastRow.domain false Rows.routeLeastRow.laid) (((OpenSpec.ofChange Rows.routeLeastSpec).at F).post enc Tryd.prog Tryd.f5 false true false false) := by
  obtain ⟨places, hx⟩ := routeLeast_reads os enc
  refine returnsInHanded_of_row (C := Tryd.checked) (s := OpenSpec.ofChange Rows.routeLeastSpec) own started (by kernel_rfl) Tryd.func5
    (door_row (enc := enc) (World.laidAll Tryd.prog os Rows.routeTablesRow.laid) #[.slice none 0 0, .int .i64 0, .slice none 0 0, .int .i64 0] rfl (by kernel_rfl) (by kernel_rfl) (by kernel_rfl)
      (OpenSpec.preRow_of_cond 8 hx (by kernel_rfl) (fun k hk => by cases hk) (by kernel_rfl) (door_met os _))) ?_
  intro W base args ds gs before hval hW _ _ hsz hL _ _
  exact law_calls (C := Tryd.checked) (s := Rows.routeLeastSpec) (cts := [.ty (.sl (.cons (.int .i64) .nil)), .ty (.int .i64), .ty (.sl (.cons (.int .i64) .nil)), .ty (.int .i64)]) (tb := 4) (F := sp5) rfl (fun ds h => by
        match ds, h with
        | [_, _, _, _], _ => rfl) (by kernel_rfl) (by kernel_rfl) (by kernel_rfl) (by kernel_rfl) (by kernel_rfl) tc5 (fun x h => ⟨(), law5 x e8⟩) (glob hL) hval hW hsz
theorem routeLeast_holds : Rows.RouteLeastSaid :=
  OpenClaim.holds_of_cond 5 Tryd.f5 rfl rfl rfl rfl rfl rfl rfl ⟨rfl, rfl, rfl, rfl, rfl⟩ rfl rfl rfl rfl rfl (by kernel_rfl) Tryd.func5 (by kernel_rfl)
    (of_decide_eq_true (by kernel_rfl)) (by unfold Func.isWrapper; first | (rw [if_pos (by decide +kernel)]; kernel_rfl) | (rw [if_neg (by decide +kernel)]; exact ⟨rfl, rfl⟩))
    (fun os started H enc _ F => by rw [OpenClaim.pre_eq_preRow]; exact routeLeast_lifted os started H enc F)
theorem routeLeast_plain (f : FuncId) (fn : Func) (hf : Tryd.pinned.checked.prog.funcNamed "baggage/baggagelaw08.RouteLeast" = some f) (hfn : Tryd.pinned.checked.prog.funcs[f]? = some fn) :
    false = Tryd.pinned.checked.prog.looks [] ∧ ∀ (j : Nat) t, fn.params[j]? = some t → Tryd.pinned.checked.prog.wantsStandIn t = false := by
  obtain rfl : f = 5 := Option.some.inj ((show Tryd.prog.funcNamed "baggage/baggagelaw08.RouteLeast" = some 5 by kernel_rfl).symm.trans hf) |>.symm
  obtain rfl : fn = Tryd.f5 := (Option.some.inj (Tryd.func5.symm.trans hfn)).symm
  refine ⟨by kernel_rfl, fun j t ht => ?_⟩
  rw [Tryd.params5] at ht
  have hm : t ∈ [26, 3, 26, 3] := by simpa using Array.mem_of_getElem? ht
  have hall : ([26, 3, 26, 3].all fun u => !Tryd.prog.wantsStandIn u) = true := by kernel_rfl
  exact (show Tryd.prog.wantsStandIn t = false by simpa using List.all_eq_true.1 hall t hm)
theorem routeLeast_card : Rows.RouteLeastCardSaid :=
  Claim7.holds_tied_plain_at .later [] _ _ _ _ routeLeast_holds (fun _ h => by cases h) (by kernel_rfl) (fun _ h => by cases h) routeLeast_row_tie rfl ⟨rfl, rfl⟩ (by kernel_rfl) rfl routeLeast_plain (by kernel_rfl)
end Go.Proofs.YtjficagemeiecaaDoor
