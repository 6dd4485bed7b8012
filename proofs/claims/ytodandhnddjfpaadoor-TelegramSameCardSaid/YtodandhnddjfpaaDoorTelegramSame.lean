/- PROVED: the Go function 'baggage/baggagelaw03.TelegramSame' answers true for every input that the row admits, and its arguments read afterwards as before. Conditions: those of the row and nothing else. -/
import Derived.Test.YtodandhnddjfpaaDoorWd
import Derived.Test.YtodandhnddjfpaaDoorWc
open Go Go.Proofs Go.Abs
set_option maxRecDepth 100000
namespace Go.Proofs.YtodandhnddjfpaaDoor
open Go.ChangeShapes Go.WideShapes Go.ChangeAt Go.RowKit
theorem telegramSame_reads (os : Os) {H : Type} (enc : TypeId × Value → H) : ∃ places, DataW.whole enc Tryd.prog ((World.laidAll Tryd.prog os Rows.telegramSameRow.laid).forCall (fun _ _ => 0) ⟨#[], #[.slice none 0 0, .slice none 0 0, .agg #[.string ⟨#[]⟩, .string ⟨#[]⟩, .slice none 0 0], .agg #[.string ⟨#[]⟩, .string ⟨#[]⟩, .slice none 0 0]], []⟩).memory Tryd.f7.params.toList Rows.telegramSameSpec.vars false (#[.slice none 0 0, .slice none 0 0, .agg #[.string ⟨#[]⟩, .string ⟨#[]⟩, .slice none 0 0], .agg #[.string ⟨#[]⟩, .string ⟨#[]⟩, .slice none 0 0]] : Array Value).toList 8 = some ([.nil, .nil, .agg [.lit (.string []), .lit (.string []), .nil], .agg [.lit (.string []), .lit (.string []), .nil]], [], places) :=
  ⟨[], by kernel_rfl⟩
theorem telegramSame_lifted (os : Os) (started : os.Started) (H : Type) (enc : TypeId × Value → H) (F : Stop.Interp) :
    ReturnsInHanded {} Tryd.checked os 7 .any ((OpenSpec.ofChange Rows.telegramSameSpec).preRow enc Tryd.prog Tryd.f7 Rows.telegramSameRow.domain false Rows.telegramSameRow.laid) (((OpenSpec.ofChange Rows.telegramSameSpec).at F).post enc Tryd.prog Tryd.f7 false true false false) := by
  obtain ⟨places, hx⟩ := telegramSame_reads os enc
  refine returnsInHanded_of_row (C := Tryd.checked) (s := OpenSpec.ofChange Rows.telegramSameSpec) own started (by kernel_rfl) Tryd.func7
    (door_row (enc := enc) (World.laidAll Tryd.prog os Rows.telegramSameRow.laid) #[.slice none 0 0, .slice none 0 0, .agg #[.string ⟨#[]⟩, .string ⟨#[]⟩, .slice none 0 0], .agg #[.string ⟨#[]⟩, .string ⟨#[]⟩, .slice none 0 0]] rfl (by kernel_rfl) (by kernel_rfl) (by kernel_rfl)
      (OpenSpec.preRow_of_cond 8 hx (by kernel_rfl) (fun k hk => by cases hk) (by kernel_rfl) (door_met os _))) ?_
  intro W base args ds gs before hval hW _ _ hsz hL _ _
  exact law_calls (C := Tryd.checked) (s := Rows.telegramSameSpec) (cts := [.ty (.sl (.cons (.int .i64) .nil)), .ty (.sl (.cons (.int .i64) .nil)), .ag (.cons .str (.cons .str (.cons (.sl (.cons .str (.cons (.sl (.cons .str .nil)) .nil))) .nil))), .ag (.cons .str (.cons .str (.cons (.sl (.cons .str (.cons (.sl (.cons .str .nil)) .nil))) .nil)))]) (tb := 4) (F := sp7) rfl (fun ds h => by
        match ds, h with
        | [_, _, _, _], _ => rfl) (by kernel_rfl) (by kernel_rfl) (by kernel_rfl) (by kernel_rfl) (by kernel_rfl) tc7 (fun x h => ⟨(), law7 x⟩) (glob hL) hval hW hsz
theorem telegramSame_holds : Rows.TelegramSameSaid :=
  OpenClaim.holds_of_cond 7 Tryd.f7 rfl rfl rfl rfl rfl rfl rfl ⟨rfl, rfl, rfl, rfl, rfl⟩ rfl rfl rfl rfl rfl (by kernel_rfl) Tryd.func7 (by kernel_rfl)
    (of_decide_eq_true (by kernel_rfl)) (by unfold Func.isWrapper; first | (rw [if_pos (by decide +kernel)]; kernel_rfl) | (rw [if_neg (by decide +kernel)]; exact ⟨rfl, rfl⟩))
    (fun os started H enc _ F => by rw [OpenClaim.pre_eq_preRow]; exact telegramSame_lifted os started H enc F)
theorem telegramSame_plain (f : FuncId) (fn : Func) (hf : Tryd.pinned.checked.prog.funcNamed "baggage/baggagelaw03.TelegramSame" = some f) (hfn : Tryd.pinned.checked.prog.funcs[f]? = some fn) :
    false = Tryd.pinned.checked.prog.looks [] ∧ ∀ (j : Nat) t, fn.params[j]? = some t → Tryd.pinned.checked.prog.wantsStandIn t = false := by
  obtain rfl : f = 7 := Option.some.inj ((show Tryd.prog.funcNamed "baggage/baggagelaw03.TelegramSame" = some 7 by kernel_rfl).symm.trans hf) |>.symm
  obtain rfl : fn = Tryd.f7 := (Option.some.inj (Tryd.func7.symm.trans hfn)).symm
  refine ⟨by kernel_rfl, fun j t ht => ?_⟩
  rw [Tryd.params7] at ht
  have hm : t ∈ [25, 24] := by simpa using Array.mem_of_getElem? ht
  have hall : ([25, 24].all fun u => !Tryd.prog.wantsStandIn u) = true := by kernel_rfl
  exact (show Tryd.prog.wantsStandIn t = false by simpa using List.all_eq_true.1 hall t hm)
theorem telegramSame_card : Rows.TelegramSameCardSaid :=
  Claim7.holds_tied_plain_at .later [] _ _ _ _ telegramSame_holds (fun _ h => by cases h) (by kernel_rfl) (fun _ h => by cases h) telegramSame_row_tie rfl ⟨rfl, rfl⟩ (by kernel_rfl) rfl telegramSame_plain (by kernel_rfl)
end Go.Proofs.YtodandhnddjfpaaDoor
