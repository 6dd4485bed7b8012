/- Walks: the functions of the program, each as a typed contract. -/
import Derived.Test.YtodandhnddjfpaaDoorWb
import Derived.Test.YtodandhnddjfpaaDoorWh
import Derived.KernelRfl
open Go Go.Proofs Go.Abs
set_option linter.unusedVariables false
set_option maxRecDepth 100000
namespace Go.Proofs.YtodandhnddjfpaaDoor
theorem wide : Tryd.prog.follows .mixedOrders = true := by kernel_rfl
theorem good : Go.Abs.Good Tryd.prog G := good_of (by kernel_rfl)
theorem ex8 (fuel : Nat) (x0 : (g8.args.getD 0 (.v (.ty .bool))).T) : call G MT8 FT8 IT8 8 g8 68 [.tmp 2] c8 h8 fuel (x0, ()) = sh8 fuel x0 := by kernel_rfl
theorem fo8 : funOk Tryd.prog 8 = true := by kernel_rfl
theorem it8 : ITok Tryd.prog IT8 := ITok_nil
theorem mt8 : MtOk Tryd.prog MT8 := MtOk_nil
theorem ft8 : FTok Tryd.prog FT8 := FTok_nil
theorem tc8 : TC Tryd.prog 8 ⟨g8, sp8⟩ := tc_of (N := 68) (rv := [.tmp 2]) (c := c8) (h := h8) good mt8 it8 ft8 wide Tryd.func8 (by kernel_rfl) rfl (by kernel_rfl) (by decide) (by kernel_rfl) (by kernel_rfl) fun x r h => ⟨100000, (ex8 100000 x.1).trans h⟩
theorem ex52 (fuel : Nat) (x0 : (g52.args.getD 0 (.v (.ty .bool))).T) : call G MT52 FT52 IT52 8 g52 9 [.tmp 2] c52 h52 fuel (x0, ()) = sh52 fuel x0 := by kernel_rfl
theorem fo52 : funOk Tryd.prog 52 = true := by kernel_rfl
theorem it52 : ITok Tryd.prog IT52 := ITok_nil
theorem mt52 : MtOk Tryd.prog MT52 := MtOk_nil
theorem ft52 : FTok Tryd.prog FT52 := FTok_nil
theorem tc52 : TC Tryd.prog 52 ⟨g52, sp52⟩ := tc_of (N := 9) (rv := [.tmp 2]) (c := c52) (h := h52) good mt52 it52 ft52 wide Tryd.func52 (by kernel_rfl) rfl (by kernel_rfl) (by decide) (by kernel_rfl) (by kernel_rfl) fun x r h => ⟨0, (ex52 0 x.1).trans h⟩
theorem ex40 (fuel : Nat) (x0 : (g40.args.getD 0 (.v (.ty .bool))).T) (x1 : (g40.args.getD 1 (.v (.ty .bool))).T) (x2 : (g40.args.getD 2 (.v (.ty .bool))).T) : call G MT40 FT40 IT40 8 g40 21 [.tmp 6] c40 h40 fuel (x0, x1, x2, ()) = sh40 fuel x0 x1 x2 := by kernel_rfl
theorem fo40 : funOk Tryd.prog 40 = true := by kernel_rfl
theorem fo42 : funOk Tryd.prog 42 = true := by kernel_rfl
theorem it40 : ITok Tryd.prog IT40 := ITok_cons fo42 Tryd.func42 (by kernel_rfl) rfl (by kernel_rfl) (ITok_cons fo52 Tryd.func52 (by kernel_rfl) rfl (by kernel_rfl) (ITok_nil))
theorem mt40 : MtOk Tryd.prog MT40 := MtOk_nil
theorem ft40 : FTok Tryd.prog FT40 := FTok_nil
theorem tc40 : TC Tryd.prog 40 ⟨g40, sp40⟩ := tc_of (N := 21) (rv := [.tmp 6]) (c := c40) (h := h40) good mt40 it40 ft40 wide Tryd.func40 (by kernel_rfl) rfl (by kernel_rfl) (by decide) (by kernel_rfl) (by kernel_rfl) fun x r h => ⟨100000, (ex40 100000 x.1 x.2.1 x.2.2.1).trans h⟩
theorem ex41 (fuel : Nat) (x0 : (g41.args.getD 0 (.v (.ty .bool))).T) : call G MT41 FT41 IT41 8 g41 9 [.tmp 2] c41 h41 fuel (x0, ()) = sh41 fuel x0 := by kernel_rfl
theorem fo41 : funOk Tryd.prog 41 = true := by kernel_rfl
theorem it41 : ITok Tryd.prog IT41 := ITok_nil
theorem mt41 : MtOk Tryd.prog MT41 := MtOk_nil
theorem ft41 : FTok Tryd.prog FT41 := FTok_nil
theorem tc41 : TC Tryd.prog 41 ⟨g41, sp41⟩ := tc_of (N := 9) (rv := [.tmp 2]) (c := c41) (h := h41) good mt41 it41 ft41 wide Tryd.func41 (by kernel_rfl) rfl (by kernel_rfl) (by decide) (by kernel_rfl) (by kernel_rfl) fun x r h => ⟨0, (ex41 0 x.1).trans h⟩
theorem ex53 (fuel : Nat) (x0 : (g53.args.getD 0 (.v (.ty .bool))).T) : call G MT53 FT53 IT53 8 g53 9 [.tmp 2] c53 h53 fuel (x0, ()) = sh53 fuel x0 := by kernel_rfl
theorem fo53 : funOk Tryd.prog 53 = true := by kernel_rfl
theorem it53 : ITok Tryd.prog IT53 := ITok_nil
theorem mt53 : MtOk Tryd.prog MT53 := MtOk_nil
theorem ft53 : FTok Tryd.prog FT53 := FTok_nil
theorem tc53 : TC Tryd.prog 53 ⟨g53, sp53⟩ := tc_of (N := 9) (rv := [.tmp 2]) (c := c53) (h := h53) good mt53 it53 ft53 wide Tryd.func53 (by kernel_rfl) rfl (by kernel_rfl) (by decide) (by kernel_rfl) (by kernel_rfl) fun x r h => ⟨0, (ex53 0 x.1).trans h⟩
theorem ex27 (fuel : Nat) (x0 : (g27.args.getD 0 (.v (.ty .bool))).T) : call G MT27 FT27 IT27 8 g27 51 [.tmp 2] c27 h27 fuel (x0, ()) = sh27 fuel x0 := by kernel_rfl
theorem fo27 : funOk Tryd.prog 27 = true := by kernel_rfl
theorem fo43 : funOk Tryd.prog 43 = true := by kernel_rfl
theorem it27 : ITok Tryd.prog IT27 := ITok_cons fo42 Tryd.func42 (by kernel_rfl) rfl (by kernel_rfl) (ITok_cons fo43 Tryd.func43 (by kernel_rfl) rfl (by kernel_rfl) (ITok_nil))
theorem mt27 : MtOk Tryd.prog MT27 := MtOk_nil
theorem ft27 : FTok Tryd.prog FT27 := FTok_cons fo40 tc40 (FTok_cons fo41 tc41 (FTok_cons fo52 tc52 (FTok_cons fo53 tc53 (FTok_nil))))
theorem tc27 : TC Tryd.prog 27 ⟨g27, sp27⟩ := tc_of (N := 51) (rv := [.tmp 2]) (c := c27) (h := h27) good mt27 it27 ft27 wide Tryd.func27 (by kernel_rfl) rfl (by kernel_rfl) (by decide) (by kernel_rfl) (by kernel_rfl) fun x r h => ⟨100000, (ex27 100000 x.1).trans h⟩
theorem ex28 (fuel : Nat) (x0 : (g28.args.getD 0 (.v (.ty .bool))).T) : call G MT28 FT28 IT28 8 g28 10 [.tmp 2] c28 h28 fuel (x0, ()) = sh28 fuel x0 := by kernel_rfl
theorem fo28 : funOk Tryd.prog 28 = true := by kernel_rfl
theorem fo44 : funOk Tryd.prog 44 = true := by kernel_rfl
theorem fo54 : funOk Tryd.prog 54 = true := by kernel_rfl
theorem fo45 : funOk Tryd.prog 45 = true := by kernel_rfl
theorem it28 : ITok Tryd.prog IT28 := ITok_cons fo44 Tryd.func44 (by kernel_rfl) rfl (by kernel_rfl) (ITok_cons fo54 Tryd.func54 (by kernel_rfl) rfl (by kernel_rfl) (ITok_cons fo45 Tryd.func45 (by kernel_rfl) rfl (by kernel_rfl) (ITok_nil)))
theorem mt28 : MtOk Tryd.prog MT28 := MtOk_nil
theorem ft28 : FTok Tryd.prog FT28 := FTok_nil
theorem tc28 : TC Tryd.prog 28 ⟨g28, sp28⟩ := tc_of (N := 10) (rv := [.tmp 2]) (c := c28) (h := h28) good mt28 it28 ft28 wide Tryd.func28 (by kernel_rfl) rfl (by kernel_rfl) (by decide) (by kernel_rfl) (by kernel_rfl) fun x r h => ⟨100000, (ex28 100000 x.1).trans h⟩
theorem fo25 : funOk Tryd.prog 25 = true := by kernel_rfl
theorem ex16 (fuel : Nat) (x0 : (g16.args.getD 0 (.v (.ty .bool))).T) : call G MT16 FT16 IT16 8 g16 29 [.tmp 2] c16 h16 fuel (x0, ()) = sh16 fuel x0 := by kernel_rfl
theorem fo16 : funOk Tryd.prog 16 = true := by kernel_rfl
theorem it16 : ITok Tryd.prog IT16 := ITok_nil
theorem mt16 : MtOk Tryd.prog MT16 := MtOk_nil
theorem ft16 : FTok Tryd.prog FT16 := FTok_cons fo27 tc27 (FTok_cons fo28 tc28 (FTok_cons fo25 tc25 (FTok_nil)))
theorem tc16 : TC Tryd.prog 16 ⟨g16, sp16⟩ := tc_of (N := 29) (rv := [.tmp 2]) (c := c16) (h := h16) good mt16 it16 ft16 wide Tryd.func16 (by kernel_rfl) rfl (by kernel_rfl) (by decide) (by kernel_rfl) (by kernel_rfl) fun x r h => ⟨100000, (ex16 100000 x.1).trans h⟩
theorem ex14 (fuel : Nat) (x0 : (g14.args.getD 0 (.v (.ty .bool))).T) : call G MT14 FT14 IT14 8 g14 12 [.tmp 2, .tmp 3] c14 h14 fuel (x0, ()) = sh14 fuel x0 := by kernel_rfl
theorem fo14 : funOk Tryd.prog 14 = true := by kernel_rfl
theorem it14 : ITok Tryd.prog IT14 := ITok_nil
theorem mt14 : MtOk Tryd.prog MT14 := MtOk_nil
theorem ft14 : FTok Tryd.prog FT14 := FTok_cons fo16 tc16 (FTok_cons fo25 tc25 (FTok_nil))
theorem tc14 : TC Tryd.prog 14 ⟨g14, sp14⟩ := tc_of (N := 12) (rv := [.tmp 2, .tmp 3]) (c := c14) (h := h14) good mt14 it14 ft14 wide Tryd.func14 (by kernel_rfl) rfl (by kernel_rfl) (by decide) (by kernel_rfl) (by kernel_rfl) fun x r h => ⟨0, (ex14 0 x.1).trans h⟩
theorem fo31 : funOk Tryd.prog 31 = true := by kernel_rfl
theorem fo56 : funOk Tryd.prog 56 = true := by kernel_rfl
theorem ex49 (fuel : Nat) (x0 : (g49.args.getD 0 (.v (.ty .bool))).T) : call G MT49 FT49 IT49 8 g49 46 [.cell 2 34, .tmp 3] c49 h49 fuel (x0, ()) = sh49 fuel x0 := by kernel_rfl
theorem fo49 : funOk Tryd.prog 49 = true := by kernel_rfl
theorem it49 : ITok Tryd.prog IT49 := ITok_cons fo42 Tryd.func42 (by kernel_rfl) rfl (by kernel_rfl) (ITok_cons fo43 Tryd.func43 (by kernel_rfl) rfl (by kernel_rfl) (ITok_nil))
theorem mt49 : MtOk Tryd.prog MT49 := MtOk_nil
theorem ft49 : FTok Tryd.prog FT49 := FTok_cons fo52 tc52 (FTok_cons fo56 tc56 (FTok_cons fo53 tc53 (FTok_nil)))
theorem tc49 : TC Tryd.prog 49 ⟨g49, sp49⟩ := tc_of (N := 46) (rv := [.cell 2 34, .tmp 3]) (c := c49) (h := h49) good mt49 it49 ft49 wide Tryd.func49 (by kernel_rfl) rfl (by kernel_rfl) (by decide) (by kernel_rfl) (by kernel_rfl) fun x r h => ⟨100000, (ex49 100000 x.1).trans h⟩
theorem ex18 (fuel : Nat) (x0 : (g18.args.getD 0 (.v (.ty .bool))).T) : call G MT18 FT18 IT18 8 g18 55 [.cell 2 24, .tmp 3, .tmp 4] c18 h18 fuel (x0, ()) = sh18 fuel x0 := by kernel_rfl
theorem fo18 : funOk Tryd.prog 18 = true := by kernel_rfl
theorem fo32 : funOk Tryd.prog 32 = true := by kernel_rfl
theorem it18 : ITok Tryd.prog IT18 := ITok_cons fo32 Tryd.func32 (by kernel_rfl) rfl (by kernel_rfl) (ITok_nil)
theorem mt18 : MtOk Tryd.prog MT18 := MtOk_nil
theorem ft18 : FTok Tryd.prog FT18 := FTok_cons fo31 tc31 (FTok_cons fo40 tc40 (FTok_cons fo41 tc41 (FTok_cons fo49 tc49 (FTok_cons fo28 tc28 (FTok_nil)))))
theorem tc18 : TC Tryd.prog 18 ⟨g18, sp18⟩ := tc_of (N := 55) (rv := [.cell 2 24, .tmp 3, .tmp 4]) (c := c18) (h := h18) good mt18 it18 ft18 wide Tryd.func18 (by kernel_rfl) rfl (by kernel_rfl) (by decide) (by kernel_rfl) (by kernel_rfl) fun x r h => ⟨100000, (ex18 100000 x.1).trans h⟩
theorem ex9 (fuel : Nat)  : call G MT9 FT9 IT9 8 g9 49 [.tmp 0] c9 h9 fuel (()) = sh9 fuel  := by kernel_rfl
theorem fo9 : funOk Tryd.prog 9 = true := by kernel_rfl
theorem it9 : ITok Tryd.prog IT9 := ITok_nil
theorem mt9 : MtOk Tryd.prog MT9 := MtOk_nil
theorem ft9 : FTok Tryd.prog FT9 := FTok_cons fo14 tc14 (FTok_cons fo18 tc18 (FTok_nil))
theorem tc9 : TC Tryd.prog 9 ⟨g9, sp9⟩ := tc_of (N := 49) (rv := [.tmp 0]) (c := c9) (h := h9) good mt9 it9 ft9 wide Tryd.func9 (by kernel_rfl) rfl (by kernel_rfl) (by decide) (by kernel_rfl) (by kernel_rfl) fun x r h => ⟨0, (ex9 0 ).trans h⟩
theorem ex10 (fuel : Nat) (x0 : (g10.args.getD 0 (.v (.ty .bool))).T) : call G MT10 FT10 IT10 8 g10 11 [.tmp 2] c10 h10 fuel (x0, ()) = sh10 fuel x0 := by kernel_rfl
theorem fo10 : funOk Tryd.prog 10 = true := by kernel_rfl
theorem it10 : ITok Tryd.prog IT10 := ITok_nil
theorem mt10 : MtOk Tryd.prog MT10 := MtOk_nil
theorem ft10 : FTok Tryd.prog FT10 := FTok_nil
theorem tc10 : TC Tryd.prog 10 ⟨g10, sp10⟩ := tc_of (N := 11) (rv := [.tmp 2]) (c := c10) (h := h10) good mt10 it10 ft10 wide Tryd.func10 (by kernel_rfl) rfl (by kernel_rfl) (by decide) (by kernel_rfl) (by kernel_rfl) fun x r h => ⟨0, (ex10 0 x.1).trans h⟩
theorem ex24 (fuel : Nat) (x0 : (g24.args.getD 0 (.v (.ty .bool))).T) : call G MT24 FT24 IT24 8 g24 31 [.tmp 2] c24 h24 fuel (x0, ()) = sh24 fuel x0 := by kernel_rfl
theorem fo24 : funOk Tryd.prog 24 = true := by kernel_rfl
theorem it24 : ITok Tryd.prog IT24 := ITok_nil
theorem mt24 : MtOk Tryd.prog MT24 := MtOk_nil
theorem ft24 : FTok Tryd.prog FT24 := FTok_nil
theorem tc24 : TC Tryd.prog 24 ⟨g24, sp24⟩ := tc_of (N := 31) (rv := [.tmp 2]) (c := c24) (h := h24) good mt24 it24 ft24 wide Tryd.func24 (by kernel_rfl) rfl (by kernel_rfl) (by decide) (by kernel_rfl) (by kernel_rfl) fun x r h => ⟨0, (ex24 0 x.1).trans h⟩
theorem ex19 (fuel : Nat) (x0 : (g19.args.getD 0 (.v (.ty .bool))).T) (x1 : (g19.args.getD 1 (.v (.ty .bool))).T) : call G MT19 FT19 IT19 8 g19 16 [.tmp 4] c19 h19 fuel (x0, x1, ()) = sh19 fuel x0 x1 := by kernel_rfl
theorem fo19 : funOk Tryd.prog 19 = true := by kernel_rfl
theorem it19 : ITok Tryd.prog IT19 := ITok_nil
theorem mt19 : MtOk Tryd.prog MT19 := MtOk_nil
theorem ft19 : FTok Tryd.prog FT19 := FTok_nil
theorem tc19 : TC Tryd.prog 19 ⟨g19, sp19⟩ := tc_of (N := 16) (rv := [.tmp 4]) (c := c19) (h := h19) good mt19 it19 ft19 wide Tryd.func19 (by kernel_rfl) rfl (by kernel_rfl) (by decide) (by kernel_rfl) (by kernel_rfl) fun x r h => ⟨0, (ex19 0 x.1 x.2.1).trans h⟩
theorem ex12 (fuel : Nat) (x0 : (g12.args.getD 0 (.v (.ty .bool))).T) (x1 : (g12.args.getD 1 (.v (.ty .bool))).T) : call G MT12 FT12 IT12 8 g12 9 [.tmp 4] c12 h12 fuel (x0, x1, ()) = sh12 fuel x0 x1 := by kernel_rfl
theorem fo12 : funOk Tryd.prog 12 = true := by kernel_rfl
theorem it12 : ITok Tryd.prog IT12 := ITok_nil
theorem mt12 : MtOk Tryd.prog MT12 := MtOk_nil
theorem ft12 : FTok Tryd.prog FT12 := FTok_cons fo24 tc24 (FTok_cons fo19 tc19 (FTok_nil))
theorem tc12 : TC Tryd.prog 12 ⟨g12, sp12⟩ := tc_of (N := 9) (rv := [.tmp 4]) (c := c12) (h := h12) good mt12 it12 ft12 wide Tryd.func12 (by kernel_rfl) rfl (by kernel_rfl) (by decide) (by kernel_rfl) (by kernel_rfl) fun x r h => ⟨0, (ex12 0 x.1 x.2.1).trans h⟩
theorem ex22 (fuel : Nat) (x0 : (g22.args.getD 0 (.v (.ty .bool))).T) (x1 : (g22.args.getD 1 (.v (.ty .bool))).T) : call G MT22 FT22 IT22 8 g22 12 [.tmp 4] c22 h22 fuel (x0, x1, ()) = sh22 fuel x0 x1 := by kernel_rfl
theorem fo22 : funOk Tryd.prog 22 = true := by kernel_rfl
theorem it22 : ITok Tryd.prog IT22 := ITok_nil
theorem mt22 : MtOk Tryd.prog MT22 := MtOk_nil
theorem ft22 : FTok Tryd.prog FT22 := FTok_cons fo12 tc12 (FTok_nil)
theorem tc22 : TC Tryd.prog 22 ⟨g22, sp22⟩ := tc_of (N := 12) (rv := [.tmp 4]) (c := c22) (h := h22) good mt22 it22 ft22 wide Tryd.func22 (by kernel_rfl) rfl (by kernel_rfl) (by decide) (by kernel_rfl) (by kernel_rfl) fun x r h => ⟨0, (ex22 0 x.1 x.2.1).trans h⟩
theorem ex13 (fuel : Nat) (x0 : (g13.args.getD 0 (.v (.ty .bool))).T) (x1 : (g13.args.getD 1 (.v (.ty .bool))).T) (x2 : (g13.args.getD 2 (.v (.ty .bool))).T) : call G MT13 FT13 IT13 8 g13 15 [.tmp 6] c13 h13 fuel (x0, x1, x2, ()) = sh13 fuel x0 x1 x2 := by kernel_rfl
theorem fo13 : funOk Tryd.prog 13 = true := by kernel_rfl
theorem it13 : ITok Tryd.prog IT13 := ITok_nil
theorem mt13 : MtOk Tryd.prog MT13 := MtOk_nil
theorem ft13 : FTok Tryd.prog FT13 := FTok_cons fo12 tc12 (FTok_nil)
theorem tc13 : TC Tryd.prog 13 ⟨g13, sp13⟩ := tc_of (N := 15) (rv := [.tmp 6]) (c := c13) (h := h13) good mt13 it13 ft13 wide Tryd.func13 (by kernel_rfl) rfl (by kernel_rfl) (by decide) (by kernel_rfl) (by kernel_rfl) fun x r h => ⟨0, (ex13 0 x.1 x.2.1 x.2.2.1).trans h⟩
theorem ex23 (fuel : Nat) (x0 : (g23.args.getD 0 (.v (.ty .bool))).T) (x1 : (g23.args.getD 1 (.v (.ty .bool))).T) (x2 : (g23.args.getD 2 (.v (.ty .bool))).T) : call G MT23 FT23 IT23 8 g23 29 [.tmp 6] c23 h23 fuel (x0, x1, x2, ()) = sh23 fuel x0 x1 x2 := by kernel_rfl
theorem fo23 : funOk Tryd.prog 23 = true := by kernel_rfl
theorem it23 : ITok Tryd.prog IT23 := ITok_nil
theorem mt23 : MtOk Tryd.prog MT23 := MtOk_nil
theorem ft23 : FTok Tryd.prog FT23 := FTok_cons fo13 tc13 (FTok_cons fo12 tc12 (FTok_nil))
theorem tc23 : TC Tryd.prog 23 ⟨g23, sp23⟩ := tc_of (N := 29) (rv := [.tmp 6]) (c := c23) (h := h23) good mt23 it23 ft23 wide Tryd.func23 (by kernel_rfl) rfl (by kernel_rfl) (by decide) (by kernel_rfl) (by kernel_rfl) fun x r h => ⟨100000, (ex23 100000 x.1 x.2.1 x.2.2.1).trans h⟩
theorem ex11 (fuel : Nat) (x0 : (g11.args.getD 0 (.v (.ty .bool))).T) : call G MT11 FT11 IT11 8 g11 44 [.cell 2 24] c11 h11 fuel (x0, ()) = sh11 fuel x0 := by kernel_rfl
theorem fo11 : funOk Tryd.prog 11 = true := by kernel_rfl
theorem it11 : ITok Tryd.prog IT11 := ITok_nil
theorem mt11 : MtOk Tryd.prog MT11 := MtOk_nil
theorem ft11 : FTok Tryd.prog FT11 := FTok_cons fo22 tc22 (FTok_cons fo12 tc12 (FTok_cons fo23 tc23 (FTok_cons fo13 tc13 (FTok_nil))))
theorem tc11 : TC Tryd.prog 11 ⟨g11, sp11⟩ := tc_of (N := 44) (rv := [.cell 2 24]) (c := c11) (h := h11) good mt11 it11 ft11 wide Tryd.func11 (by kernel_rfl) rfl (by kernel_rfl) (by decide) (by kernel_rfl) (by kernel_rfl) fun x r h => ⟨100000, (ex11 100000 x.1).trans h⟩
theorem ex46 (fuel : Nat) (x0 : (g46.args.getD 0 (.v (.ty .bool))).T) (x1 : (g46.args.getD 1 (.v (.ty .bool))).T) : call G MT46 FT46 IT46 8 g46 26 [.tmp 4] c46 h46 fuel (x0, x1, ()) = sh46 fuel x0 x1 := by kernel_rfl
theorem fo46 : funOk Tryd.prog 46 = true := by kernel_rfl
theorem it46 : ITok Tryd.prog IT46 := ITok_nil
theorem mt46 : MtOk Tryd.prog MT46 := MtOk_nil
theorem ft46 : FTok Tryd.prog FT46 := FTok_nil
theorem tc46 : TC Tryd.prog 46 ⟨g46, sp46⟩ := tc_of (N := 26) (rv := [.tmp 4]) (c := c46) (h := h46) good mt46 it46 ft46 wide Tryd.func46 (by kernel_rfl) rfl (by kernel_rfl) (by decide) (by kernel_rfl) (by kernel_rfl) fun x r h => ⟨100000, (ex46 100000 x.1 x.2.1).trans h⟩
theorem ex47 (fuel : Nat) (x0 : (g47.args.getD 0 (.v (.ty .bool))).T) : call G MT47 FT47 IT47 8 g47 41 [.tmp 2] c47 h47 fuel (x0, ()) = sh47 fuel x0 := by kernel_rfl
theorem fo47 : funOk Tryd.prog 47 = true := by kernel_rfl
theorem it47 : ITok Tryd.prog IT47 := ITok_nil
theorem mt47 : MtOk Tryd.prog MT47 := MtOk_nil
theorem ft47 : FTok Tryd.prog FT47 := FTok_nil
theorem tc47 : TC Tryd.prog 47 ⟨g47, sp47⟩ := tc_of (N := 41) (rv := [.tmp 2]) (c := c47) (h := h47) good mt47 it47 ft47 wide Tryd.func47 (by kernel_rfl) rfl (by kernel_rfl) (by decide) (by kernel_rfl) (by kernel_rfl) fun x r h => ⟨100000, (ex47 100000 x.1).trans h⟩
theorem ex29 (fuel : Nat) (x0 : (g29.args.getD 0 (.v (.ty .bool))).T) : call G MT29 FT29 IT29 8 g29 71 [.tmp 2] c29 h29 fuel (x0, ()) = sh29 fuel x0 := by kernel_rfl
theorem fo29 : funOk Tryd.prog 29 = true := by kernel_rfl
theorem it29 : ITok Tryd.prog IT29 := ITok_nil
theorem mt29 : MtOk Tryd.prog MT29 := MtOk_nil
theorem ft29 : FTok Tryd.prog FT29 := FTok_cons fo46 tc46 (FTok_cons fo47 tc47 (FTok_nil))
theorem tc29 : TC Tryd.prog 29 ⟨g29, sp29⟩ := tc_of (N := 71) (rv := [.tmp 2]) (c := c29) (h := h29) good mt29 it29 ft29 wide Tryd.func29 (by kernel_rfl) rfl (by kernel_rfl) (by decide) (by kernel_rfl) (by kernel_rfl) fun x r h => ⟨100000, (ex29 100000 x.1).trans h⟩
theorem ex30 (fuel : Nat) (x0 : (g30.args.getD 0 (.v (.ty .bool))).T) : call G MT30 FT30 IT30 8 g30 22 [.tmp 2] c30 h30 fuel (x0, ()) = sh30 fuel x0 := by kernel_rfl
theorem fo30 : funOk Tryd.prog 30 = true := by kernel_rfl
theorem it30 : ITok Tryd.prog IT30 := ITok_nil
theorem mt30 : MtOk Tryd.prog MT30 := MtOk_nil
theorem ft30 : FTok Tryd.prog FT30 := FTok_nil
theorem tc30 : TC Tryd.prog 30 ⟨g30, sp30⟩ := tc_of (N := 22) (rv := [.tmp 2]) (c := c30) (h := h30) good mt30 it30 ft30 wide Tryd.func30 (by kernel_rfl) rfl (by kernel_rfl) (by decide) (by kernel_rfl) (by kernel_rfl) fun x r h => ⟨100000, (ex30 100000 x.1).trans h⟩
theorem ex26 (fuel : Nat) (x0 : (g26.args.getD 0 (.v (.ty .bool))).T) : call G MT26 FT26 IT26 8 g26 64 [.tmp 2] c26 h26 fuel (x0, ()) = sh26 fuel x0 := by kernel_rfl
theorem fo26 : funOk Tryd.prog 26 = true := by kernel_rfl
theorem it26 : ITok Tryd.prog IT26 := ITok_nil
theorem mt26 : MtOk Tryd.prog MT26 := MtOk_nil
theorem ft26 : FTok Tryd.prog FT26 := FTok_nil
theorem tc26 : TC Tryd.prog 26 ⟨g26, sp26⟩ := tc_of (N := 64) (rv := [.tmp 2]) (c := c26) (h := h26) good mt26 it26 ft26 wide Tryd.func26 (by kernel_rfl) rfl (by kernel_rfl) (by decide) (by kernel_rfl) (by kernel_rfl) fun x r h => ⟨100000, (ex26 100000 x.1).trans h⟩
theorem ex17 (fuel : Nat) (x0 : (g17.args.getD 0 (.v (.ty .bool))).T) : call G MT17 FT17 IT17 8 g17 29 [.tmp 2] c17 h17 fuel (x0, ()) = sh17 fuel x0 := by kernel_rfl
theorem fo17 : funOk Tryd.prog 17 = true := by kernel_rfl
theorem it17 : ITok Tryd.prog IT17 := ITok_nil
theorem mt17 : MtOk Tryd.prog MT17 := MtOk_nil
theorem ft17 : FTok Tryd.prog FT17 := FTok_cons fo29 tc29 (FTok_cons fo30 tc30 (FTok_cons fo26 tc26 (FTok_nil)))
theorem tc17 : TC Tryd.prog 17 ⟨g17, sp17⟩ := tc_of (N := 29) (rv := [.tmp 2]) (c := c17) (h := h17) good mt17 it17 ft17 wide Tryd.func17 (by kernel_rfl) rfl (by kernel_rfl) (by decide) (by kernel_rfl) (by kernel_rfl) fun x r h => ⟨100000, (ex17 100000 x.1).trans h⟩
theorem ex15 (fuel : Nat) (x0 : (g15.args.getD 0 (.v (.ty .bool))).T) : call G MT15 FT15 IT15 8 g15 12 [.tmp 2, .tmp 3] c15 h15 fuel (x0, ()) = sh15 fuel x0 := by kernel_rfl
theorem fo15 : funOk Tryd.prog 15 = true := by kernel_rfl
theorem it15 : ITok Tryd.prog IT15 := ITok_nil
theorem mt15 : MtOk Tryd.prog MT15 := MtOk_nil
theorem ft15 : FTok Tryd.prog FT15 := FTok_cons fo17 tc17 (FTok_cons fo26 tc26 (FTok_nil))
theorem tc15 : TC Tryd.prog 15 ⟨g15, sp15⟩ := tc_of (N := 12) (rv := [.tmp 2, .tmp 3]) (c := c15) (h := h15) good mt15 it15 ft15 wide Tryd.func15 (by kernel_rfl) rfl (by kernel_rfl) (by decide) (by kernel_rfl) (by kernel_rfl) fun x r h => ⟨0, (ex15 0 x.1).trans h⟩
theorem ex3 (fuel : Nat) (x0 : (g3.args.getD 0 (.v (.ty .bool))).T) (x1 : (g3.args.getD 1 (.v (.ty .bool))).T) (x2 : (g3.args.getD 2 (.v (.ty .bool))).T) : call G MT3 FT3 IT3 8 g3 127 [.tmp 6] c3 h3 fuel (x0, x1, x2, ()) = sh3 fuel x0 x1 x2 := by kernel_rfl
theorem fo3 : funOk Tryd.prog 3 = true := by kernel_rfl
theorem it3 : ITok Tryd.prog IT3 := ITok_nil
theorem mt3 : MtOk Tryd.prog MT3 := MtOk_nil
theorem ft3 : FTok Tryd.prog FT3 := FTok_cons fo8 tc8 (FTok_cons fo9 tc9 (FTok_cons fo10 tc10 (FTok_cons fo11 tc11 (FTok_cons fo12 tc12 (FTok_cons fo13 tc13 (FTok_cons fo14 tc14 (FTok_cons fo15 tc15 (FTok_cons fo16 tc16 (FTok_cons fo17 tc17 (FTok_nil))))))))))
theorem tc3 : TC Tryd.prog 3 ⟨g3, sp3⟩ := tc_of (N := 127) (rv := [.tmp 6]) (c := c3) (h := h3) good mt3 it3 ft3 wide Tryd.func3 (by kernel_rfl) rfl (by kernel_rfl) (by decide) (by kernel_rfl) (by kernel_rfl) fun x r h => ⟨100000, (ex3 100000 x.1 x.2.1 x.2.2.1).trans h⟩
theorem ex4 (fuel : Nat) (x0 : (g4.args.getD 0 (.v (.ty .bool))).T) : call G MT4 FT4 IT4 8 g4 50 [.tmp 2] c4 h4 fuel (x0, ()) = sh4 fuel x0 := by kernel_rfl
theorem fo4 : funOk Tryd.prog 4 = true := by kernel_rfl
theorem it4 : ITok Tryd.prog IT4 := ITok_nil
theorem mt4 : MtOk Tryd.prog MT4 := MtOk_nil
theorem ft4 : FTok Tryd.prog FT4 := FTok_cons fo10 tc10 (FTok_cons fo11 tc11 (FTok_cons fo15 tc15 (FTok_cons fo18 tc18 (FTok_cons fo9 tc9 (FTok_nil)))))
theorem tc4 : TC Tryd.prog 4 ⟨g4, sp4⟩ := tc_of (N := 50) (rv := [.tmp 2]) (c := c4) (h := h4) good mt4 it4 ft4 wide Tryd.func4 (by kernel_rfl) rfl (by kernel_rfl) (by decide) (by kernel_rfl) (by kernel_rfl) fun x r h => ⟨100000, (ex4 100000 x.1).trans h⟩
theorem ex5 (fuel : Nat) (x0 : (g5.args.getD 0 (.v (.ty .bool))).T) : call G MT5 FT5 IT5 8 g5 118 [.tmp 2] c5 h5 fuel (x0, ()) = sh5 fuel x0 := by kernel_rfl
theorem fo5 : funOk Tryd.prog 5 = true := by kernel_rfl
theorem it5 : ITok Tryd.prog IT5 := ITok_nil
theorem mt5 : MtOk Tryd.prog MT5 := MtOk_nil
theorem ft5 : FTok Tryd.prog FT5 := FTok_cons fo19 tc19 (FTok_cons fo14 tc14 (FTok_cons fo18 tc18 (FTok_cons fo9 tc9 (FTok_nil))))
theorem tc5 : TC Tryd.prog 5 ⟨g5, sp5⟩ := tc_of (N := 118) (rv := [.tmp 2]) (c := c5) (h := h5) good mt5 it5 ft5 wide Tryd.func5 (by kernel_rfl) rfl (by kernel_rfl) (by decide) (by kernel_rfl) (by kernel_rfl) fun x r h => ⟨100000, (ex5 100000 x.1).trans h⟩
theorem ex33 (fuel : Nat) (x0 : (g33.args.getD 0 (.v (.ty .bool))).T) (x1 : (g33.args.getD 1 (.v (.ty .bool))).T) : call G MT33 FT33 IT33 8 g33 26 [.tmp 4] c33 h33 fuel (x0, x1, ()) = sh33 fuel x0 x1 := by kernel_rfl
theorem fo33 : funOk Tryd.prog 33 = true := by kernel_rfl
theorem it33 : ITok Tryd.prog IT33 := ITok_nil
theorem mt33 : MtOk Tryd.prog MT33 := MtOk_nil
theorem ft33 : FTok Tryd.prog FT33 := FTok_nil
theorem tc33 : TC Tryd.prog 33 ⟨g33, sp33⟩ := tc_of (N := 26) (rv := [.tmp 4]) (c := c33) (h := h33) good mt33 it33 ft33 wide Tryd.func33 (by kernel_rfl) rfl (by kernel_rfl) (by decide) (by kernel_rfl) (by kernel_rfl) fun x r h => ⟨100000, (ex33 100000 x.1 x.2.1).trans h⟩
theorem ex20 (fuel : Nat) (x0 : (g20.args.getD 0 (.v (.ty .bool))).T) (x1 : (g20.args.getD 1 (.v (.ty .bool))).T) : call G MT20 FT20 IT20 8 g20 63 [.tmp 4] c20 h20 fuel (x0, x1, ()) = sh20 fuel x0 x1 := by kernel_rfl
theorem fo20 : funOk Tryd.prog 20 = true := by kernel_rfl
theorem it20 : ITok Tryd.prog IT20 := ITok_nil
theorem mt20 : MtOk Tryd.prog MT20 := MtOk_nil
theorem ft20 : FTok Tryd.prog FT20 := FTok_cons fo33 tc33 (FTok_nil)
theorem tc20 : TC Tryd.prog 20 ⟨g20, sp20⟩ := tc_of (N := 63) (rv := [.tmp 4]) (c := c20) (h := h20) good mt20 it20 ft20 wide Tryd.func20 (by kernel_rfl) rfl (by kernel_rfl) (by decide) (by kernel_rfl) (by kernel_rfl) fun x r h => ⟨100000, (ex20 100000 x.1 x.2.1).trans h⟩
theorem ex36 (fuel : Nat) (x0 : (g36.args.getD 0 (.v (.ty .bool))).T) (x1 : (g36.args.getD 1 (.v (.ty .bool))).T) : call G MT36 FT36 IT36 8 g36 26 [.tmp 4] c36 h36 fuel (x0, x1, ()) = sh36 fuel x0 x1 := by kernel_rfl
theorem fo36 : funOk Tryd.prog 36 = true := by kernel_rfl
theorem it36 : ITok Tryd.prog IT36 := ITok_nil
theorem mt36 : MtOk Tryd.prog MT36 := MtOk_nil
theorem ft36 : FTok Tryd.prog FT36 := FTok_nil
theorem tc36 : TC Tryd.prog 36 ⟨g36, sp36⟩ := tc_of (N := 26) (rv := [.tmp 4]) (c := c36) (h := h36) good mt36 it36 ft36 wide Tryd.func36 (by kernel_rfl) rfl (by kernel_rfl) (by decide) (by kernel_rfl) (by kernel_rfl) fun x r h => ⟨100000, (ex36 100000 x.1 x.2.1).trans h⟩
theorem ex21 (fuel : Nat) (x0 : (g21.args.getD 0 (.v (.ty .bool))).T) (x1 : (g21.args.getD 1 (.v (.ty .bool))).T) : call G MT21 FT21 IT21 8 g21 24 [.tmp 4] c21 h21 fuel (x0, x1, ()) = sh21 fuel x0 x1 := by kernel_rfl
theorem fo21 : funOk Tryd.prog 21 = true := by kernel_rfl
theorem fo34 : funOk Tryd.prog 34 = true := by kernel_rfl
theorem fo35 : funOk Tryd.prog 35 = true := by kernel_rfl
theorem it21 : ITok Tryd.prog IT21 := ITok_cons fo34 Tryd.func34 (by kernel_rfl) rfl (by kernel_rfl) (ITok_cons fo35 Tryd.func35 (by kernel_rfl) rfl (by kernel_rfl) (ITok_nil))
theorem mt21 : MtOk Tryd.prog MT21 := MtOk_nil
theorem ft21 : FTok Tryd.prog FT21 := FTok_cons fo36 tc36 (FTok_nil)
theorem tc21 : TC Tryd.prog 21 ⟨g21, sp21⟩ := tc_of (N := 24) (rv := [.tmp 4]) (c := c21) (h := h21) good mt21 it21 ft21 wide Tryd.func21 (by kernel_rfl) rfl (by kernel_rfl) (by decide) (by kernel_rfl) (by kernel_rfl) fun x r h => ⟨100000, (ex21 100000 x.1 x.2.1).trans h⟩
theorem ex6 (fuel : Nat) (x0 : (g6.args.getD 0 (.v (.ty .bool))).T) (x1 : (g6.args.getD 1 (.v (.ty .bool))).T) : call G MT6 FT6 IT6 8 g6 81 [.tmp 4] c6 h6 fuel (x0, x1, ()) = sh6 fuel x0 x1 := by kernel_rfl
theorem fo6 : funOk Tryd.prog 6 = true := by kernel_rfl
theorem it6 : ITok Tryd.prog IT6 := ITok_nil
theorem mt6 : MtOk Tryd.prog MT6 := MtOk_nil
theorem ft6 : FTok Tryd.prog FT6 := FTok_cons fo10 tc10 (FTok_cons fo11 tc11 (FTok_cons fo14 tc14 (FTok_cons fo18 tc18 (FTok_cons fo20 tc20 (FTok_cons fo21 tc21 (FTok_cons fo9 tc9 (FTok_nil)))))))
theorem tc6 : TC Tryd.prog 6 ⟨g6, sp6⟩ := tc_of (N := 81) (rv := [.tmp 4]) (c := c6) (h := h6) good mt6 it6 ft6 wide Tryd.func6 (by kernel_rfl) rfl (by kernel_rfl) (by decide) (by kernel_rfl) (by kernel_rfl) fun x r h => ⟨0, (ex6 0 x.1 x.2.1).trans h⟩
theorem ex7 (fuel : Nat) (x0 : (g7.args.getD 0 (.v (.ty .bool))).T) (x1 : (g7.args.getD 1 (.v (.ty .bool))).T) (x2 : (g7.args.getD 2 (.v (.ty .bool))).T) (x3 : (g7.args.getD 3 (.v (.ty .bool))).T) : call G MT7 FT7 IT7 8 g7 55 [.tmp 8] c7 h7 fuel (x0, x1, x2, x3, ()) = sh7 fuel x0 x1 x2 x3 := by kernel_rfl
theorem fo7 : funOk Tryd.prog 7 = true := by kernel_rfl
theorem it7 : ITok Tryd.prog IT7 := ITok_nil
theorem mt7 : MtOk Tryd.prog MT7 := MtOk_nil
theorem ft7 : FTok Tryd.prog FT7 := FTok_cons fo8 tc8 (FTok_cons fo9 tc9 (FTok_cons fo10 tc10 (FTok_cons fo11 tc11 (FTok_cons fo21 tc21 (FTok_cons fo20 tc20 (FTok_nil))))))
theorem tc7 : TC Tryd.prog 7 ⟨g7, sp7⟩ := tc_of (N := 55) (rv := [.tmp 8]) (c := c7) (h := h7) good mt7 it7 ft7 wide Tryd.func7 (by kernel_rfl) rfl (by kernel_rfl) (by decide) (by kernel_rfl) (by kernel_rfl) fun x r h => ⟨0, (ex7 0 x.1 x.2.1 x.2.2.1 x.2.2.2.1).trans h⟩
end Go.Proofs.YtodandhnddjfpaaDoor
