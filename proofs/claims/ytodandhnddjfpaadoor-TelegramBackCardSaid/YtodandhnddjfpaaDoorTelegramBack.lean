/- PROVED: the Go function 'baggage/baggagelaw03.TelegramBack' answers true for every input that the row admits, and its arguments read afterwards as before. Conditions: those of the row and nothing else. -/
import Derived.Test.YtodandhnddjfpaaDoorWd
import Derived.Test.YtodandhnddjfpaaDoorWc
open Go Go.Proofs Go.Abs
set_option maxRecDepth 100000
namespace Go.Proofs.YtodandhnddjfpaaDoor
open Go.ChangeShapes Go.WideShapes Go.ChangeAt Go.RowKit
theorem telegramBack_reads (os : Os) {H : Type} (enc : TypeId × Value → H) : ∃ places, DataW.whole enc Tryd.prog ((World.laidAll Tryd.prog os Rows.telegramSameRow.laid).forCall (fun _ _ => 0) ⟨#[], #[.slice none 0 0, .string ⟨#[]⟩], []⟩).memory Tryd.f6.params.toList Rows.telegramBackSpec.vars false (#[.slice none 0 0, .string ⟨#[]⟩] : Array Value).toList 8 = some ([.nil, .lit (.string [])], [], places) :=
  ⟨[], by kernel_rfl⟩
theorem telegramBack_lifted (os : Os) (started : os.Started) (H : Type) (enc : TypeId × Value → H) (F : Stop.Interp) :
    ReturnsInHanded {} Tryd.checked os 6 .any ((OpenSpec.ofChange Rows.telegramBackSpec).preRow enc Tryd.prog Tryd.f6 Rows.telegramBackRow.domain false Rows.telegramBackRow.laid) (((OpenSpec.ofChange Rows.telegramBackSpec).at F).post enc Tryd.prog Tryd.f6 false true false false) := by
  obtain ⟨places, hx⟩ := telegramBack_reads os enc
  refine returnsInHanded_of_row (C := Tryd.checked) (s := OpenSpec.ofChange Rows.telegramBackSpec) own started (by kernel_rfl) Tryd.func6
    (door_row (enc := enc) (World.laidAll Tryd.prog os Rows.telegramSameRow.laid) #[.slice none 0 0, .string ⟨#[]⟩] rfl (by kernel_rfl) (by kernel_rfl) (by kernel_rfl)
      (OpenSpec.preRow_of_cond 8 hx (by kernel_rfl) (fun k hk => by cases hk) (by kernel_rfl) (door_met os _))) ?_
  intro W base args ds gs before hval hW _ _ hsz hL _ _
  exact law_calls (C := Tryd.checked) (s := Rows.telegramBackSpec) (cts := [.ty (.sl (.cons (.int .i64) .nil)), .ty .str]) (tb := 4) (F := sp6) rfl (fun ds h => by
        match ds, h with
        | [_, _], _ => rfl) (by kernel_rfl) (by kernel_rfl) (by kernel_rfl) (by kernel_rfl) (by kernel_rfl) tc6 (fun x h => ⟨(), law6 x⟩) (glob hL) hval hW hsz
theorem telegramBack_holds : Rows.TelegramBackSaid :=
  OpenClaim.holds_of_cond 6 Tryd.f6 rfl rfl rfl rfl rfl rfl rfl ⟨rfl, rfl, rfl, rfl, rfl⟩ rfl rfl rfl rfl rfl (by kernel_rfl) Tryd.func6 (by kernel_rfl)
    (of_decide_eq_true (by kernel_rfl)) (by unfold Func.isWrapper; first | (rw [if_pos (by decide +kernel)]; kernel_rfl) | (rw [if_neg (by decide +kernel)]; exact ⟨rfl, rfl⟩))
    (fun os started H enc _ F => by rw [OpenClaim.pre_eq_preRow]; exact telegramBack_lifted os started H enc F)
theorem telegramBack_plain (f : FuncId) (fn : Func) (hf : Tryd.pinned.checked.prog.funcNamed "baggage/baggagelaw03.TelegramBack" = some f) (hfn : Tryd.pinned.checked.prog.funcs[f]? = some fn) :
    false = Tryd.pinned.checked.prog.looks [] ∧ ∀ (j : Nat) t, fn.params[j]? = some t → Tryd.pinned.checked.prog.wantsStandIn t = false := by
  obtain rfl : f = 6 := Option.some.inj ((show Tryd.prog.funcNamed "baggage/baggagelaw03.TelegramBack" = some 6 by kernel_rfl).symm.trans hf) |>.symm
  obtain rfl : fn = Tryd.f6 := (Option.some.inj (Tryd.func6.symm.trans hfn)).symm
  refine ⟨by kernel_rfl, fun j t ht => ?_⟩
  rw [Tryd.params6] at ht
  have hm : t ∈ [25, 9] := by simpa using Array.mem_of_getElem? ht
  have hall : ([25, 9].all fun u => !Tryd.prog.wantsStandIn u) = true := by kernel_rfl
  exact (show Tryd.prog.wantsStandIn t = false by simpa using List.all_eq_true.1 hall t hm)
theorem telegramBack_card : Rows.TelegramBackCardSaid :=
  Claim7.holds_tied_plain_at .later [] _ _ _ _ telegramBack_holds (fun _ h => by cases h) (by kernel_rfl) (fun _ h => by cases h) telegramBack_row_tie rfl ⟨rfl, rfl⟩ (by kernel_rfl) rfl telegramBack_plain (by kernel_rfl)
end Go.Proofs.YtodandhnddjfpaaDoor
