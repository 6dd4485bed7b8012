/- Walks: the functions of the program, each as a typed contract. -/
import Derived.Test.YthoibdbhmacliaaDoorWb
import Derived.KernelRfl
open Go Go.Proofs Go.Abs
set_option linter.unusedVariables false
set_option maxRecDepth 100000
namespace Go.Proofs.YthoibdbhmacliaaDoor
theorem wide : Tryd.prog.follows .mixedOrders = true := by kernel_rfl
theorem good : Go.Abs.Good Tryd.prog G := good_of (by kernel_rfl)
theorem ex47 (fuel : Nat) (x0 : (g47.args.getD 0 (.v (.ty .bool))).T) : call G MT47 FT47 IT47 8 g47 9 [.tmp 2] c47 h47 fuel (x0, ()) = sh47 fuel x0 := by kernel_rfl
theorem fo47 : funOk Tryd.prog 47 = true := by kernel_rfl
theorem it47 : ITok Tryd.prog IT47 := ITok_nil
theorem mt47 : MtOk Tryd.prog MT47 := MtOk_nil
theorem ft47 : FTok Tryd.prog FT47 := FTok_nil
theorem tc47 : TC Tryd.prog 47 ⟨g47, sp47⟩ := tc_of (N := 9) (rv := [.tmp 2]) (c := c47) (h := h47) good mt47 it47 ft47 wide Tryd.func47 (by kernel_rfl) rfl (by kernel_rfl) (by decide) (by kernel_rfl) (by kernel_rfl) fun x r h => ⟨0, (ex47 0 x.1).trans h⟩
theorem ex84 (fuel : Nat) (x0 : (g84.args.getD 0 (.v (.ty .bool))).T) : call G MT84 FT84 IT84 8 g84 5 [.tmp 2] c84 h84 fuel (x0, ()) = sh84 fuel x0 := by kernel_rfl
theorem fo84 : funOk Tryd.prog 84 = true := by kernel_rfl
theorem it84 : ITok Tryd.prog IT84 := ITok_nil
theorem mt84 : MtOk Tryd.prog MT84 := MtOk_nil
theorem ft84 : FTok Tryd.prog FT84 := FTok_nil
theorem tc84 : TC Tryd.prog 84 ⟨g84, sp84⟩ := tc_of (N := 5) (rv := [.tmp 2]) (c := c84) (h := h84) good mt84 it84 ft84 wide Tryd.func84 (by kernel_rfl) rfl (by kernel_rfl) (by decide) (by kernel_rfl) (by kernel_rfl) fun x r h => ⟨0, (ex84 0 x.1).trans h⟩
theorem fo85 : funOk Tryd.prog 85 = true := by kernel_rfl
theorem tc85 : TC Tryd.prog 85 ⟨g85, sp85⟩ := fun _ _ h => nomatch h
theorem ex78 (fuel : Nat) (x0 : (g78.args.getD 0 (.v (.ty .bool))).T) : call G MT78 FT78 IT78 8 g78 15 [.tmp 2] c78 h78 fuel (x0, ()) = sh78 fuel x0 := by kernel_rfl
theorem fo78 : funOk Tryd.prog 78 = true := by kernel_rfl
theorem it78 : ITok Tryd.prog IT78 := ITok_nil
theorem mt78 : MtOk Tryd.prog MT78 := MtOk_nil
theorem ft78 : FTok Tryd.prog FT78 := FTok_nil
theorem tc78 : TC Tryd.prog 78 ⟨g78, sp78⟩ := tc_of (N := 15) (rv := [.tmp 2]) (c := c78) (h := h78) good mt78 it78 ft78 wide Tryd.func78 (by kernel_rfl) rfl (by kernel_rfl) (by decide) (by kernel_rfl) (by kernel_rfl) fun x r h => ⟨0, (ex78 0 x.1).trans h⟩
theorem ex87 (fuel : Nat) (x0 : (g87.args.getD 0 (.v (.ty .bool))).T) : call G MT87 FT87 IT87 8 g87 25 [.tmp 2] c87 h87 fuel (x0, ()) = sh87 fuel x0 := by kernel_rfl
theorem fo87 : funOk Tryd.prog 87 = true := by kernel_rfl
theorem it87 : ITok Tryd.prog IT87 := ITok_nil
theorem mt87 : MtOk Tryd.prog MT87 := MtOk_nil
theorem ft87 : FTok Tryd.prog FT87 := FTok_nil
theorem tc87 : TC Tryd.prog 87 ⟨g87, sp87⟩ := tc_of (N := 25) (rv := [.tmp 2]) (c := c87) (h := h87) good mt87 it87 ft87 wide Tryd.func87 (by kernel_rfl) rfl (by kernel_rfl) (by decide) (by kernel_rfl) (by kernel_rfl) fun x r h => ⟨0, (ex87 0 x.1).trans h⟩
theorem ex86 (fuel : Nat) (x0 : (g86.args.getD 0 (.v (.ty .bool))).T) : call G MT86 FT86 IT86 8 g86 6 [.tmp 2] c86 h86 fuel (x0, ()) = sh86 fuel x0 := by kernel_rfl
theorem fo86 : funOk Tryd.prog 86 = true := by kernel_rfl
theorem it86 : ITok Tryd.prog IT86 := ITok_nil
theorem mt86 : MtOk Tryd.prog MT86 := MtOk_nil
theorem ft86 : FTok Tryd.prog FT86 := FTok_nil
theorem tc86 : TC Tryd.prog 86 ⟨g86, sp86⟩ := tc_of (N := 6) (rv := [.tmp 2]) (c := c86) (h := h86) good mt86 it86 ft86 wide Tryd.func86 (by kernel_rfl) rfl (by kernel_rfl) (by decide) (by kernel_rfl) (by kernel_rfl) fun x r h => ⟨0, (ex86 0 x.1).trans h⟩
theorem ex88 (fuel : Nat) (x0 : (g88.args.getD 0 (.v (.ty .bool))).T) : call G MT88 FT88 IT88 8 g88 4 [.tmp 2] c88 h88 fuel (x0, ()) = sh88 fuel x0 := by kernel_rfl
theorem fo88 : funOk Tryd.prog 88 = true := by kernel_rfl
theorem it88 : ITok Tryd.prog IT88 := ITok_nil
theorem mt88 : MtOk Tryd.prog MT88 := MtOk_nil
theorem ft88 : FTok Tryd.prog FT88 := FTok_nil
theorem tc88 : TC Tryd.prog 88 ⟨g88, sp88⟩ := tc_of (N := 4) (rv := [.tmp 2]) (c := c88) (h := h88) good mt88 it88 ft88 wide Tryd.func88 (by kernel_rfl) rfl (by kernel_rfl) (by decide) (by kernel_rfl) (by kernel_rfl) fun x r h => ⟨0, (ex88 0 x.1).trans h⟩
theorem ex79 (fuel : Nat) (x0 : (g79.args.getD 0 (.v (.ty .bool))).T) : call G MT79 FT79 IT79 8 g79 15 [.tmp 2] c79 h79 fuel (x0, ()) = sh79 fuel x0 := by kernel_rfl
theorem fo79 : funOk Tryd.prog 79 = true := by kernel_rfl
theorem it79 : ITok Tryd.prog IT79 := ITok_nil
theorem mt79 : MtOk Tryd.prog MT79 := MtOk_nil
theorem ft79 : FTok Tryd.prog FT79 := FTok_cons fo87 tc87 (FTok_cons fo86 tc86 (FTok_cons fo88 tc88 (FTok_nil)))
theorem tc79 : TC Tryd.prog 79 ⟨g79, sp79⟩ := tc_of (N := 15) (rv := [.tmp 2]) (c := c79) (h := h79) good mt79 it79 ft79 wide Tryd.func79 (by kernel_rfl) rfl (by kernel_rfl) (by decide) (by kernel_rfl) (by kernel_rfl) fun x r h => ⟨0, (ex79 0 x.1).trans h⟩
theorem fo81 : funOk Tryd.prog 81 = true := by kernel_rfl
theorem tc81 : TC Tryd.prog 81 ⟨g81, sp81⟩ := fun _ _ h => nomatch h
theorem ex69 (fuel : Nat) (x0 : (g69.args.getD 0 (.v (.ty .bool))).T) (x1 : (g69.args.getD 1 (.v (.ty .bool))).T) : call G MT69 FT69 IT69 8 g69 54 [.tmp 4] c69 h69 fuel (x0, x1, ()) = sh69 fuel x0 x1 := by kernel_rfl
theorem fo69 : funOk Tryd.prog 69 = true := by kernel_rfl
theorem fo80 : funOk Tryd.prog 80 = true := by kernel_rfl
theorem it69 : ITok Tryd.prog IT69 := ITok_cons fo80 Tryd.func80 (by kernel_rfl) rfl (by kernel_rfl) (ITok_nil)
theorem mt69 : MtOk Tryd.prog MT69 := MtOk_nil
theorem ft69 : FTok Tryd.prog FT69 := FTok_cons fo78 tc78 (FTok_cons fo79 tc79 (FTok_cons fo81 tc81 (FTok_nil)))
theorem tc69 : TC Tryd.prog 69 ⟨g69, sp69⟩ := tc_of (N := 54) (rv := [.tmp 4]) (c := c69) (h := h69) good mt69 it69 ft69 wide Tryd.func69 (by kernel_rfl) rfl (by kernel_rfl) (by decide) (by kernel_rfl) (by kernel_rfl) fun x r h => ⟨16, (ex69 16 x.1 x.2.1).trans h⟩
theorem ex57 (fuel : Nat) (x0 : (g57.args.getD 0 (.v (.ty .bool))).T) : call G MT57 FT57 IT57 8 g57 5 [.tmp 2] c57 h57 fuel (x0, ()) = sh57 fuel x0 := by kernel_rfl
theorem fo57 : funOk Tryd.prog 57 = true := by kernel_rfl
theorem it57 : ITok Tryd.prog IT57 := ITok_nil
theorem mt57 : MtOk Tryd.prog MT57 := MtOk_nil
theorem ft57 : FTok Tryd.prog FT57 := FTok_cons fo69 tc69 (FTok_nil)
theorem tc57 : TC Tryd.prog 57 ⟨g57, sp57⟩ := tc_of (N := 5) (rv := [.tmp 2]) (c := c57) (h := h57) good mt57 it57 ft57 wide Tryd.func57 (by kernel_rfl) rfl (by kernel_rfl) (by decide) (by kernel_rfl) (by kernel_rfl) fun x r h => ⟨0, (ex57 0 x.1).trans h⟩
theorem ex51 (fuel : Nat) (x0 : (g51.args.getD 0 (.v (.ty .bool))).T) : call G MT51 FT51 IT51 8 g51 5 [.tmp 2] c51 h51 fuel (x0, ()) = sh51 fuel x0 := by kernel_rfl
theorem fo51 : funOk Tryd.prog 51 = true := by kernel_rfl
theorem it51 : ITok Tryd.prog IT51 := ITok_nil
theorem mt51 : MtOk Tryd.prog MT51 := MtOk_nil
theorem ft51 : FTok Tryd.prog FT51 := FTok_cons fo57 tc57 (FTok_nil)
theorem tc51 : TC Tryd.prog 51 ⟨g51, sp51⟩ := tc_of (N := 5) (rv := [.tmp 2]) (c := c51) (h := h51) good mt51 it51 ft51 wide Tryd.func51 (by kernel_rfl) rfl (by kernel_rfl) (by decide) (by kernel_rfl) (by kernel_rfl) fun x r h => ⟨0, (ex51 0 x.1).trans h⟩
theorem ex29 (fuel : Nat) (x0 : (g29.args.getD 0 (.v (.ty .bool))).T) (x1 : (g29.args.getD 1 (.v (.ty .bool))).T) : call G MT29 FT29 IT29 8 g29 29 [.tmp 4, .tmp 5] c29 h29 fuel (x0, x1, ()) = sh29 fuel x0 x1 := by kernel_rfl
theorem fo29 : funOk Tryd.prog 29 = true := by kernel_rfl
theorem fo46 : funOk Tryd.prog 46 = true := by kernel_rfl
theorem fo48 : funOk Tryd.prog 48 = true := by kernel_rfl
theorem fo55 : funOk Tryd.prog 55 = true := by kernel_rfl
theorem fo64 : funOk Tryd.prog 64 = true := by kernel_rfl
theorem fo75 : funOk Tryd.prog 75 = true := by kernel_rfl
theorem fo56 : funOk Tryd.prog 56 = true := by kernel_rfl
theorem fo65 : funOk Tryd.prog 65 = true := by kernel_rfl
theorem fo66 : funOk Tryd.prog 66 = true := by kernel_rfl
theorem fo67 : funOk Tryd.prog 67 = true := by kernel_rfl
theorem fo68 : funOk Tryd.prog 68 = true := by kernel_rfl
theorem it29 : ITok Tryd.prog IT29 := ITok_cons fo46 Tryd.func46 (by kernel_rfl) rfl (by kernel_rfl) (ITok_cons fo47 Tryd.func47 (by kernel_rfl) rfl (by kernel_rfl) (ITok_cons fo48 Tryd.func48 (by kernel_rfl) rfl (by kernel_rfl) (ITok_cons fo55 Tryd.func55 (by kernel_rfl) rfl (by kernel_rfl) (ITok_cons fo64 Tryd.func64 (by kernel_rfl) rfl (by kernel_rfl) (ITok_cons fo75 Tryd.func75 (by kernel_rfl) rfl (by kernel_rfl) (ITok_cons fo56 Tryd.func56 (by kernel_rfl) rfl (by kernel_rfl) (ITok_cons fo65 Tryd.func65 (by kernel_rfl) rfl (by kernel_rfl) (ITok_cons fo66 Tryd.func66 (by kernel_rfl) rfl (by kernel_rfl) (ITok_cons fo67 Tryd.func67 (by kernel_rfl) rfl (by kernel_rfl) (ITok_cons fo68 Tryd.func68 (by kernel_rfl) rfl (by kernel_rfl) (ITok_nil)))))))))))
theorem mt29 : MtOk Tryd.prog MT29 := MtOk_nil
theorem ft29 : FTok Tryd.prog FT29 := FTok_cons fo84 tc84 (FTok_cons fo85 tc85 (FTok_nil))
theorem tc29 : TC Tryd.prog 29 ⟨g29, sp29⟩ := tc_of (N := 29) (rv := [.tmp 4, .tmp 5]) (c := c29) (h := h29) good mt29 it29 ft29 wide Tryd.func29 (by kernel_rfl) rfl (by kernel_rfl) (by decide) (by kernel_rfl) (by kernel_rfl) fun x r h => ⟨16, (ex29 16 x.1 x.2.1).trans h⟩
theorem ex49 (fuel : Nat) (x0 : (g49.args.getD 0 (.v (.ty .bool))).T) : call G MT49 FT49 IT49 8 g49 9 [.tmp 2] c49 h49 fuel (x0, ()) = sh49 fuel x0 := by kernel_rfl
theorem fo49 : funOk Tryd.prog 49 = true := by kernel_rfl
theorem it49 : ITok Tryd.prog IT49 := ITok_nil
theorem mt49 : MtOk Tryd.prog MT49 := MtOk_nil
theorem ft49 : FTok Tryd.prog FT49 := FTok_nil
theorem tc49 : TC Tryd.prog 49 ⟨g49, sp49⟩ := tc_of (N := 9) (rv := [.tmp 2]) (c := c49) (h := h49) good mt49 it49 ft49 wide Tryd.func49 (by kernel_rfl) rfl (by kernel_rfl) (by decide) (by kernel_rfl) (by kernel_rfl) fun x r h => ⟨0, (ex49 0 x.1).trans h⟩
theorem ex30 (fuel : Nat) (x0 : (g30.args.getD 0 (.v (.ty .bool))).T) : call G MT30 FT30 IT30 8 g30 29 [.tmp 2] c30 h30 fuel (x0, ()) = sh30 fuel x0 := by kernel_rfl
theorem fo30 : funOk Tryd.prog 30 = true := by kernel_rfl
theorem it30 : ITok Tryd.prog IT30 := ITok_nil
theorem mt30 : MtOk Tryd.prog MT30 := MtOk_nil
theorem ft30 : FTok Tryd.prog FT30 := FTok_cons fo49 tc49 (FTok_cons fo47 tc47 (FTok_nil))
theorem tc30 : TC Tryd.prog 30 ⟨g30, sp30⟩ := tc_of (N := 29) (rv := [.tmp 2]) (c := c30) (h := h30) good mt30 it30 ft30 wide Tryd.func30 (by kernel_rfl) rfl (by kernel_rfl) (by decide) (by kernel_rfl) (by kernel_rfl) fun x r h => ⟨16, (ex30 16 x.1).trans h⟩
theorem ex31 (fuel : Nat) (x0 : (g31.args.getD 0 (.v (.ty .bool))).T) (x1 : (g31.args.getD 1 (.v (.ty .bool))).T) (x2 : (g31.args.getD 2 (.v (.ty .bool))).T) : call G MT31 FT31 IT31 8 g31 21 [.tmp 6] c31 h31 fuel (x0, x1, x2, ()) = sh31 fuel x0 x1 x2 := by kernel_rfl
theorem fo31 : funOk Tryd.prog 31 = true := by kernel_rfl
theorem it31 : ITok Tryd.prog IT31 := ITok_cons fo46 Tryd.func46 (by kernel_rfl) rfl (by kernel_rfl) (ITok_cons fo49 Tryd.func49 (by kernel_rfl) rfl (by kernel_rfl) (ITok_nil))
theorem mt31 : MtOk Tryd.prog MT31 := MtOk_nil
theorem ft31 : FTok Tryd.prog FT31 := FTok_nil
theorem tc31 : TC Tryd.prog 31 ⟨g31, sp31⟩ := tc_of (N := 21) (rv := [.tmp 6]) (c := c31) (h := h31) good mt31 it31 ft31 wide Tryd.func31 (by kernel_rfl) rfl (by kernel_rfl) (by decide) (by kernel_rfl) (by kernel_rfl) fun x r h => ⟨16, (ex31 16 x.1 x.2.1 x.2.2.1).trans h⟩
theorem ex10 (fuel : Nat) (x0 : (g10.args.getD 0 (.v (.ty .bool))).T) : call G MT10 FT10 IT10 8 g10 66 [.cell 2 23, .tmp 3] c10 h10 fuel (x0, ()) = sh10 fuel x0 := by kernel_rfl
theorem fo10 : funOk Tryd.prog 10 = true := by kernel_rfl
theorem it10 : ITok Tryd.prog IT10 := ITok_nil
theorem mt10 : MtOk Tryd.prog MT10 := MtOk_nil
theorem ft10 : FTok Tryd.prog FT10 := FTok_cons fo29 tc29 (FTok_cons fo30 tc30 (FTok_cons fo31 tc31 (FTok_nil)))
theorem tc10 : TC Tryd.prog 10 ⟨g10, sp10⟩ := tc_of (N := 66) (rv := [.cell 2 23, .tmp 3]) (c := c10) (h := h10) good mt10 it10 ft10 wide Tryd.func10 (by kernel_rfl) rfl (by kernel_rfl) (by decide) (by kernel_rfl) (by kernel_rfl) fun x r h => ⟨0, (ex10 0 x.1).trans h⟩
theorem ex12 (fuel : Nat) (x0 : (g12.args.getD 0 (.v (.ty .bool))).T) : call G MT12 FT12 IT12 8 g12 31 [.tmp 2] c12 h12 fuel (x0, ()) = sh12 fuel x0 := by kernel_rfl
theorem fo12 : funOk Tryd.prog 12 = true := by kernel_rfl
theorem it12 : ITok Tryd.prog IT12 := ITok_nil
theorem mt12 : MtOk Tryd.prog MT12 := MtOk_nil
theorem ft12 : FTok Tryd.prog FT12 := FTok_cons fo30 tc30 (FTok_cons fo31 tc31 (FTok_nil))
theorem tc12 : TC Tryd.prog 12 ⟨g12, sp12⟩ := tc_of (N := 31) (rv := [.tmp 2]) (c := c12) (h := h12) good mt12 it12 ft12 wide Tryd.func12 (by kernel_rfl) rfl (by kernel_rfl) (by decide) (by kernel_rfl) (by kernel_rfl) fun x r h => ⟨0, (ex12 0 x.1).trans h⟩
theorem ex70 (fuel : Nat) (x0 : (g70.args.getD 0 (.v (.ty .bool))).T) (x1 : (g70.args.getD 1 (.v (.ty .bool))).T) : call G MT70 FT70 IT70 8 g70 17 [.tmp 4, .tmp 5] c70 h70 fuel (x0, x1, ()) = sh70 fuel x0 x1 := by kernel_rfl
theorem fo70 : funOk Tryd.prog 70 = true := by kernel_rfl
theorem it70 : ITok Tryd.prog IT70 := ITok_nil
theorem mt70 : MtOk Tryd.prog MT70 := MtOk_nil
theorem ft70 : FTok Tryd.prog FT70 := FTok_nil
theorem tc70 : TC Tryd.prog 70 ⟨g70, sp70⟩ := tc_of (N := 17) (rv := [.tmp 4, .tmp 5]) (c := c70) (h := h70) good mt70 it70 ft70 wide Tryd.func70 (by kernel_rfl) rfl (by kernel_rfl) (by decide) (by kernel_rfl) (by kernel_rfl) fun x r h => ⟨0, (ex70 0 x.1 x.2.1).trans h⟩
theorem ex71 (fuel : Nat) (x0 : (g71.args.getD 0 (.v (.ty .bool))).T) (x1 : (g71.args.getD 1 (.v (.ty .bool))).T) : call G MT71 FT71 IT71 8 g71 51 [.tmp 4, .tmp 5] c71 h71 fuel (x0, x1, ()) = sh71 fuel x0 x1 := by kernel_rfl
theorem fo71 : funOk Tryd.prog 71 = true := by kernel_rfl
theorem it71 : ITok Tryd.prog IT71 := ITok_nil
theorem mt71 : MtOk Tryd.prog MT71 := MtOk_nil
theorem ft71 : FTok Tryd.prog FT71 := FTok_nil
theorem tc71 : TC Tryd.prog 71 ⟨g71, sp71⟩ := tc_of (N := 51) (rv := [.tmp 4, .tmp 5]) (c := c71) (h := h71) good mt71 it71 ft71 wide Tryd.func71 (by kernel_rfl) rfl (by kernel_rfl) (by decide) (by kernel_rfl) (by kernel_rfl) fun x r h => ⟨0, (ex71 0 x.1 x.2.1).trans h⟩
theorem ex58 (fuel : Nat) (x0 : (g58.args.getD 0 (.v (.ty .bool))).T) (x1 : (g58.args.getD 1 (.v (.ty .bool))).T) : call G MT58 FT58 IT58 8 g58 30 [.tmp 4, .tmp 5] c58 h58 fuel (x0, x1, ()) = sh58 fuel x0 x1 := by kernel_rfl
theorem fo58 : funOk Tryd.prog 58 = true := by kernel_rfl
theorem it58 : ITok Tryd.prog IT58 := ITok_nil
theorem mt58 : MtOk Tryd.prog MT58 := MtOk_nil
theorem ft58 : FTok Tryd.prog FT58 := FTok_cons fo70 tc70 (FTok_cons fo71 tc71 (FTok_nil))
theorem tc58 : TC Tryd.prog 58 ⟨g58, sp58⟩ := tc_of (N := 30) (rv := [.tmp 4, .tmp 5]) (c := c58) (h := h58) good mt58 it58 ft58 wide Tryd.func58 (by kernel_rfl) rfl (by kernel_rfl) (by decide) (by kernel_rfl) (by kernel_rfl) fun x r h => ⟨0, (ex58 0 x.1 x.2.1).trans h⟩
theorem ex72 (fuel : Nat) (x0 : (g72.args.getD 0 (.v (.ty .bool))).T) (x1 : (g72.args.getD 1 (.v (.ty .bool))).T) : call G MT72 FT72 IT72 8 g72 18 [.tmp 4] c72 h72 fuel (x0, x1, ()) = sh72 fuel x0 x1 := by kernel_rfl
theorem fo72 : funOk Tryd.prog 72 = true := by kernel_rfl
theorem it72 : ITok Tryd.prog IT72 := ITok_nil
theorem mt72 : MtOk Tryd.prog MT72 := MtOk_nil
theorem ft72 : FTok Tryd.prog FT72 := FTok_nil
theorem tc72 : TC Tryd.prog 72 ⟨g72, sp72⟩ := tc_of (N := 18) (rv := [.tmp 4]) (c := c72) (h := h72) good mt72 it72 ft72 wide Tryd.func72 (by kernel_rfl) rfl (by kernel_rfl) (by decide) (by kernel_rfl) (by kernel_rfl) fun x r h => ⟨0, (ex72 0 x.1 x.2.1).trans h⟩
theorem ex59 (fuel : Nat) (x0 : (g59.args.getD 0 (.v (.ty .bool))).T) (x1 : (g59.args.getD 1 (.v (.ty .bool))).T) : call G MT59 FT59 IT59 8 g59 8 [.tmp 4] c59 h59 fuel (x0, x1, ()) = sh59 fuel x0 x1 := by kernel_rfl
theorem fo59 : funOk Tryd.prog 59 = true := by kernel_rfl
theorem it59 : ITok Tryd.prog IT59 := ITok_nil
theorem mt59 : MtOk Tryd.prog MT59 := MtOk_nil
theorem ft59 : FTok Tryd.prog FT59 := FTok_cons fo72 tc72 (FTok_nil)
theorem tc59 : TC Tryd.prog 59 ⟨g59, sp59⟩ := tc_of (N := 8) (rv := [.tmp 4]) (c := c59) (h := h59) good mt59 it59 ft59 wide Tryd.func59 (by kernel_rfl) rfl (by kernel_rfl) (by decide) (by kernel_rfl) (by kernel_rfl) fun x r h => ⟨0, (ex59 0 x.1 x.2.1).trans h⟩
theorem ex52 (fuel : Nat) (x0 : (g52.args.getD 0 (.v (.ty .bool))).T) (x1 : (g52.args.getD 1 (.v (.ty .bool))).T) : call G MT52 FT52 IT52 8 g52 125 [.tmp 4] c52 h52 fuel (x0, x1, ()) = sh52 fuel x0 x1 := by kernel_rfl
theorem fo52 : funOk Tryd.prog 52 = true := by kernel_rfl
theorem it52 : ITok Tryd.prog IT52 := ITok_nil
theorem mt52 : MtOk Tryd.prog MT52 := MtOk_nil
theorem ft52 : FTok Tryd.prog FT52 := FTok_cons fo58 tc58 (FTok_cons fo59 tc59 (FTok_nil))
theorem tc52 : TC Tryd.prog 52 ⟨g52, sp52⟩ := tc_of (N := 125) (rv := [.tmp 4]) (c := c52) (h := h52) good mt52 it52 ft52 wide Tryd.func52 (by kernel_rfl) rfl (by kernel_rfl) (by decide) (by kernel_rfl) (by kernel_rfl) fun x r h => ⟨0, (ex52 0 x.1 x.2.1).trans h⟩
theorem ex36 (fuel : Nat) (x0 : (g36.args.getD 0 (.v (.ty .bool))).T) (x1 : (g36.args.getD 1 (.v (.ty .bool))).T) : call G MT36 FT36 IT36 8 g36 16 [.tmp 4] c36 h36 fuel (x0, x1, ()) = sh36 fuel x0 x1 := by kernel_rfl
theorem fo36 : funOk Tryd.prog 36 = true := by kernel_rfl
theorem it36 : ITok Tryd.prog IT36 := ITok_nil
theorem mt36 : MtOk Tryd.prog MT36 := MtOk_nil
theorem ft36 : FTok Tryd.prog FT36 := FTok_cons fo51 tc51 (FTok_cons fo52 tc52 (FTok_nil))
theorem tc36 : TC Tryd.prog 36 ⟨g36, sp36⟩ := tc_of (N := 16) (rv := [.tmp 4]) (c := c36) (h := h36) good mt36 it36 ft36 wide Tryd.func36 (by kernel_rfl) rfl (by kernel_rfl) (by decide) (by kernel_rfl) (by kernel_rfl) fun x r h => ⟨0, (ex36 0 x.1 x.2.1).trans h⟩
theorem ex14 (fuel : Nat) (x0 : (g14.args.getD 0 (.v (.ty .bool))).T) : call G MT14 FT14 IT14 8 g14 15 [.tmp 2] c14 h14 fuel (x0, ()) = sh14 fuel x0 := by kernel_rfl
theorem fo14 : funOk Tryd.prog 14 = true := by kernel_rfl
theorem it14 : ITok Tryd.prog IT14 := ITok_nil
theorem mt14 : MtOk Tryd.prog MT14 := MtOk_nil
theorem ft14 : FTok Tryd.prog FT14 := FTok_cons fo12 tc12 (FTok_cons fo36 tc36 (FTok_nil))
theorem tc14 : TC Tryd.prog 14 ⟨g14, sp14⟩ := tc_of (N := 15) (rv := [.tmp 2]) (c := c14) (h := h14) good mt14 it14 ft14 wide Tryd.func14 (by kernel_rfl) rfl (by kernel_rfl) (by decide) (by kernel_rfl) (by kernel_rfl) fun x r h => ⟨0, (ex14 0 x.1).trans h⟩
theorem ex16 (fuel : Nat) (x0 : (g16.args.getD 0 (.v (.ty .bool))).T) : call G MT16 FT16 IT16 8 g16 13 [.tmp 2] c16 h16 fuel (x0, ()) = sh16 fuel x0 := by kernel_rfl
theorem fo16 : funOk Tryd.prog 16 = true := by kernel_rfl
theorem it16 : ITok Tryd.prog IT16 := ITok_nil
theorem mt16 : MtOk Tryd.prog MT16 := MtOk_nil
theorem ft16 : FTok Tryd.prog FT16 := FTok_cons fo12 tc12 (FTok_cons fo14 tc14 (FTok_cons fo36 tc36 (FTok_nil)))
theorem tc16 : TC Tryd.prog 16 ⟨g16, sp16⟩ := tc_of (N := 13) (rv := [.tmp 2]) (c := c16) (h := h16) good mt16 it16 ft16 wide Tryd.func16 (by kernel_rfl) rfl (by kernel_rfl) (by decide) (by kernel_rfl) (by kernel_rfl) fun x r h => ⟨0, (ex16 0 x.1).trans h⟩
theorem ex23 (fuel : Nat) (x0 : (g23.args.getD 0 (.v (.ty .bool))).T) : call G MT23 FT23 IT23 8 g23 5 [.tmp 2] c23 h23 fuel (x0, ()) = sh23 fuel x0 := by kernel_rfl
theorem fo23 : funOk Tryd.prog 23 = true := by kernel_rfl
theorem it23 : ITok Tryd.prog IT23 := ITok_nil
theorem mt23 : MtOk Tryd.prog MT23 := MtOk_nil
theorem ft23 : FTok Tryd.prog FT23 := FTok_cons fo31 tc31 (FTok_nil)
theorem tc23 : TC Tryd.prog 23 ⟨g23, sp23⟩ := tc_of (N := 5) (rv := [.tmp 2]) (c := c23) (h := h23) good mt23 it23 ft23 wide Tryd.func23 (by kernel_rfl) rfl (by kernel_rfl) (by decide) (by kernel_rfl) (by kernel_rfl) fun x r h => ⟨0, (ex23 0 x.1).trans h⟩
theorem ex9 (fuel : Nat)  : call G MT9 FT9 IT9 8 g9 22 [.tmp 0] c9 h9 fuel (()) = sh9 fuel  := by kernel_rfl
theorem fo9 : funOk Tryd.prog 9 = true := by kernel_rfl
theorem it9 : ITok Tryd.prog IT9 := ITok_nil
theorem mt9 : MtOk Tryd.prog MT9 := MtOk_nil
theorem ft9 : FTok Tryd.prog FT9 := FTok_cons fo10 tc10 (FTok_cons fo16 tc16 (FTok_cons fo23 tc23 (FTok_nil)))
theorem tc9 : TC Tryd.prog 9 ⟨g9, sp9⟩ := tc_of (N := 22) (rv := [.tmp 0]) (c := c9) (h := h9) good mt9 it9 ft9 wide Tryd.func9 (by kernel_rfl) rfl (by kernel_rfl) (by decide) (by kernel_rfl) (by kernel_rfl) fun x r h => ⟨0, (ex9 0 ).trans h⟩
theorem ex41 (fuel : Nat) (x0 : (g41.args.getD 0 (.v (.ty .bool))).T) : call G MT41 FT41 IT41 8 g41 9 [.tmp 2] c41 h41 fuel (x0, ()) = sh41 fuel x0 := by kernel_rfl
theorem fo41 : funOk Tryd.prog 41 = true := by kernel_rfl
theorem it41 : ITok Tryd.prog IT41 := ITok_nil
theorem mt41 : MtOk Tryd.prog MT41 := MtOk_nil
theorem ft41 : FTok Tryd.prog FT41 := FTok_nil
theorem tc41 : TC Tryd.prog 41 ⟨g41, sp41⟩ := tc_of (N := 9) (rv := [.tmp 2]) (c := c41) (h := h41) good mt41 it41 ft41 wide Tryd.func41 (by kernel_rfl) rfl (by kernel_rfl) (by decide) (by kernel_rfl) (by kernel_rfl) fun x r h => ⟨0, (ex41 0 x.1).trans h⟩
theorem ex50 (fuel : Nat) (x0 : (g50.args.getD 0 (.v (.ty .bool))).T) : call G MT50 FT50 IT50 8 g50 9 [.tmp 2] c50 h50 fuel (x0, ()) = sh50 fuel x0 := by kernel_rfl
theorem fo50 : funOk Tryd.prog 50 = true := by kernel_rfl
theorem it50 : ITok Tryd.prog IT50 := ITok_nil
theorem mt50 : MtOk Tryd.prog MT50 := MtOk_nil
theorem ft50 : FTok Tryd.prog FT50 := FTok_nil
theorem tc50 : TC Tryd.prog 50 ⟨g50, sp50⟩ := tc_of (N := 9) (rv := [.tmp 2]) (c := c50) (h := h50) good mt50 it50 ft50 wide Tryd.func50 (by kernel_rfl) rfl (by kernel_rfl) (by decide) (by kernel_rfl) (by kernel_rfl) fun x r h => ⟨0, (ex50 0 x.1).trans h⟩
theorem ex32 (fuel : Nat) (x0 : (g32.args.getD 0 (.v (.ty .bool))).T) : call G MT32 FT32 IT32 8 g32 34 [.tmp 2] c32 h32 fuel (x0, ()) = sh32 fuel x0 := by kernel_rfl
theorem fo32 : funOk Tryd.prog 32 = true := by kernel_rfl
theorem it32 : ITok Tryd.prog IT32 := ITok_nil
theorem mt32 : MtOk Tryd.prog MT32 := MtOk_nil
theorem ft32 : FTok Tryd.prog FT32 := FTok_cons fo41 tc41 (FTok_cons fo50 tc50 (FTok_nil))
theorem tc32 : TC Tryd.prog 32 ⟨g32, sp32⟩ := tc_of (N := 34) (rv := [.tmp 2]) (c := c32) (h := h32) good mt32 it32 ft32 wide Tryd.func32 (by kernel_rfl) rfl (by kernel_rfl) (by decide) (by kernel_rfl) (by kernel_rfl) fun x r h => ⟨0, (ex32 0 x.1).trans h⟩
theorem ex33 (fuel : Nat) (x0 : (g33.args.getD 0 (.v (.ty .bool))).T) : call G MT33 FT33 IT33 8 g33 20 [.tmp 2] c33 h33 fuel (x0, ()) = sh33 fuel x0 := by kernel_rfl
theorem fo33 : funOk Tryd.prog 33 = true := by kernel_rfl
theorem it33 : ITok Tryd.prog IT33 := ITok_nil
theorem mt33 : MtOk Tryd.prog MT33 := MtOk_nil
theorem ft33 : FTok Tryd.prog FT33 := FTok_nil
theorem tc33 : TC Tryd.prog 33 ⟨g33, sp33⟩ := tc_of (N := 20) (rv := [.tmp 2]) (c := c33) (h := h33) good mt33 it33 ft33 wide Tryd.func33 (by kernel_rfl) rfl (by kernel_rfl) (by decide) (by kernel_rfl) (by kernel_rfl) fun x r h => ⟨16, (ex33 16 x.1).trans h⟩
theorem ex34 (fuel : Nat) (x0 : (g34.args.getD 0 (.v (.ty .bool))).T) : call G MT34 FT34 IT34 8 g34 15 [.tmp 2] c34 h34 fuel (x0, ()) = sh34 fuel x0 := by kernel_rfl
theorem fo34 : funOk Tryd.prog 34 = true := by kernel_rfl
theorem it34 : ITok Tryd.prog IT34 := ITok_nil
theorem mt34 : MtOk Tryd.prog MT34 := MtOk_nil
theorem ft34 : FTok Tryd.prog FT34 := FTok_cons fo41 tc41 (FTok_nil)
theorem tc34 : TC Tryd.prog 34 ⟨g34, sp34⟩ := tc_of (N := 15) (rv := [.tmp 2]) (c := c34) (h := h34) good mt34 it34 ft34 wide Tryd.func34 (by kernel_rfl) rfl (by kernel_rfl) (by decide) (by kernel_rfl) (by kernel_rfl) fun x r h => ⟨0, (ex34 0 x.1).trans h⟩
theorem ex35 (fuel : Nat) (x0 : (g35.args.getD 0 (.v (.ty .bool))).T) : call G MT35 FT35 IT35 8 g35 20 [.tmp 2] c35 h35 fuel (x0, ()) = sh35 fuel x0 := by kernel_rfl
theorem fo35 : funOk Tryd.prog 35 = true := by kernel_rfl
theorem it35 : ITok Tryd.prog IT35 := ITok_nil
theorem mt35 : MtOk Tryd.prog MT35 := MtOk_nil
theorem ft35 : FTok Tryd.prog FT35 := FTok_nil
theorem tc35 : TC Tryd.prog 35 ⟨g35, sp35⟩ := tc_of (N := 20) (rv := [.tmp 2]) (c := c35) (h := h35) good mt35 it35 ft35 wide Tryd.func35 (by kernel_rfl) rfl (by kernel_rfl) (by decide) (by kernel_rfl) (by kernel_rfl) fun x r h => ⟨16, (ex35 16 x.1).trans h⟩
theorem ex11 (fuel : Nat) (x0 : (g11.args.getD 0 (.v (.ty .bool))).T) : call G MT11 FT11 IT11 8 g11 70 [.cell 2 23, .tmp 3] c11 h11 fuel (x0, ()) = sh11 fuel x0 := by kernel_rfl
theorem fo11 : funOk Tryd.prog 11 = true := by kernel_rfl
theorem it11 : ITok Tryd.prog IT11 := ITok_nil
theorem mt11 : MtOk Tryd.prog MT11 := MtOk_nil
theorem ft11 : FTok Tryd.prog FT11 := FTok_cons fo32 tc32 (FTok_cons fo33 tc33 (FTok_cons fo34 tc34 (FTok_cons fo35 tc35 (FTok_nil))))
theorem tc11 : TC Tryd.prog 11 ⟨g11, sp11⟩ := tc_of (N := 70) (rv := [.cell 2 23, .tmp 3]) (c := c11) (h := h11) good mt11 it11 ft11 wide Tryd.func11 (by kernel_rfl) rfl (by kernel_rfl) (by decide) (by kernel_rfl) (by kernel_rfl) fun x r h => ⟨0, (ex11 0 x.1).trans h⟩
theorem ex13 (fuel : Nat) (x0 : (g13.args.getD 0 (.v (.ty .bool))).T) : call G MT13 FT13 IT13 8 g13 31 [.tmp 2] c13 h13 fuel (x0, ()) = sh13 fuel x0 := by kernel_rfl
theorem fo13 : funOk Tryd.prog 13 = true := by kernel_rfl
theorem it13 : ITok Tryd.prog IT13 := ITok_nil
theorem mt13 : MtOk Tryd.prog MT13 := MtOk_nil
theorem ft13 : FTok Tryd.prog FT13 := FTok_cons fo32 tc32 (FTok_cons fo34 tc34 (FTok_nil))
theorem tc13 : TC Tryd.prog 13 ⟨g13, sp13⟩ := tc_of (N := 31) (rv := [.tmp 2]) (c := c13) (h := h13) good mt13 it13 ft13 wide Tryd.func13 (by kernel_rfl) rfl (by kernel_rfl) (by decide) (by kernel_rfl) (by kernel_rfl) fun x r h => ⟨0, (ex13 0 x.1).trans h⟩
theorem ex37 (fuel : Nat) (x0 : (g37.args.getD 0 (.v (.ty .bool))).T) (x1 : (g37.args.getD 1 (.v (.ty .bool))).T) : call G MT37 FT37 IT37 8 g37 26 [.tmp 4] c37 h37 fuel (x0, x1, ()) = sh37 fuel x0 x1 := by kernel_rfl
theorem fo37 : funOk Tryd.prog 37 = true := by kernel_rfl
theorem it37 : ITok Tryd.prog IT37 := ITok_nil
theorem mt37 : MtOk Tryd.prog MT37 := MtOk_nil
theorem ft37 : FTok Tryd.prog FT37 := FTok_nil
theorem tc37 : TC Tryd.prog 37 ⟨g37, sp37⟩ := tc_of (N := 26) (rv := [.tmp 4]) (c := c37) (h := h37) good mt37 it37 ft37 wide Tryd.func37 (by kernel_rfl) rfl (by kernel_rfl) (by decide) (by kernel_rfl) (by kernel_rfl) fun x r h => ⟨16, (ex37 16 x.1 x.2.1).trans h⟩
theorem ex15 (fuel : Nat) (x0 : (g15.args.getD 0 (.v (.ty .bool))).T) : call G MT15 FT15 IT15 8 g15 15 [.tmp 2] c15 h15 fuel (x0, ()) = sh15 fuel x0 := by kernel_rfl
theorem fo15 : funOk Tryd.prog 15 = true := by kernel_rfl
theorem it15 : ITok Tryd.prog IT15 := ITok_nil
theorem mt15 : MtOk Tryd.prog MT15 := MtOk_nil
theorem ft15 : FTok Tryd.prog FT15 := FTok_cons fo13 tc13 (FTok_cons fo37 tc37 (FTok_nil))
theorem tc15 : TC Tryd.prog 15 ⟨g15, sp15⟩ := tc_of (N := 15) (rv := [.tmp 2]) (c := c15) (h := h15) good mt15 it15 ft15 wide Tryd.func15 (by kernel_rfl) rfl (by kernel_rfl) (by decide) (by kernel_rfl) (by kernel_rfl) fun x r h => ⟨0, (ex15 0 x.1).trans h⟩
theorem ex17 (fuel : Nat) (x0 : (g17.args.getD 0 (.v (.ty .bool))).T) : call G MT17 FT17 IT17 8 g17 13 [.tmp 2] c17 h17 fuel (x0, ()) = sh17 fuel x0 := by kernel_rfl
theorem fo17 : funOk Tryd.prog 17 = true := by kernel_rfl
theorem it17 : ITok Tryd.prog IT17 := ITok_nil
theorem mt17 : MtOk Tryd.prog MT17 := MtOk_nil
theorem ft17 : FTok Tryd.prog FT17 := FTok_cons fo13 tc13 (FTok_cons fo15 tc15 (FTok_cons fo37 tc37 (FTok_nil)))
theorem tc17 : TC Tryd.prog 17 ⟨g17, sp17⟩ := tc_of (N := 13) (rv := [.tmp 2]) (c := c17) (h := h17) good mt17 it17 ft17 wide Tryd.func17 (by kernel_rfl) rfl (by kernel_rfl) (by decide) (by kernel_rfl) (by kernel_rfl) fun x r h => ⟨0, (ex17 0 x.1).trans h⟩
theorem ex3 (fuel : Nat) (x0 : (g3.args.getD 0 (.v (.ty .bool))).T) (x1 : (g3.args.getD 1 (.v (.ty .bool))).T) : call G MT3 FT3 IT3 8 g3 55 [.tmp 4] c3 h3 fuel (x0, x1, ()) = sh3 fuel x0 x1 := by kernel_rfl
theorem fo3 : funOk Tryd.prog 3 = true := by kernel_rfl
theorem it3 : ITok Tryd.prog IT3 := ITok_nil
theorem mt3 : MtOk Tryd.prog MT3 := MtOk_nil
theorem ft3 : FTok Tryd.prog FT3 := FTok_cons fo9 tc9 (FTok_cons fo10 tc10 (FTok_cons fo11 tc11 (FTok_cons fo12 tc12 (FTok_cons fo13 tc13 (FTok_cons fo14 tc14 (FTok_cons fo15 tc15 (FTok_cons fo16 tc16 (FTok_cons fo17 tc17 (FTok_nil)))))))))
theorem tc3 : TC Tryd.prog 3 ⟨g3, sp3⟩ := tc_of (N := 55) (rv := [.tmp 4]) (c := c3) (h := h3) good mt3 it3 ft3 wide Tryd.func3 (by kernel_rfl) rfl (by kernel_rfl) (by decide) (by kernel_rfl) (by kernel_rfl) fun x r h => ⟨0, (ex3 0 x.1 x.2.1).trans h⟩
theorem ex18 (fuel : Nat) (x0 : (g18.args.getD 0 (.v (.ty .bool))).T) : call G MT18 FT18 IT18 8 g18 11 [.tmp 2] c18 h18 fuel (x0, ()) = sh18 fuel x0 := by kernel_rfl
theorem fo18 : funOk Tryd.prog 18 = true := by kernel_rfl
theorem it18 : ITok Tryd.prog IT18 := ITok_nil
theorem mt18 : MtOk Tryd.prog MT18 := MtOk_nil
theorem ft18 : FTok Tryd.prog FT18 := FTok_nil
theorem tc18 : TC Tryd.prog 18 ⟨g18, sp18⟩ := tc_of (N := 11) (rv := [.tmp 2]) (c := c18) (h := h18) good mt18 it18 ft18 wide Tryd.func18 (by kernel_rfl) rfl (by kernel_rfl) (by decide) (by kernel_rfl) (by kernel_rfl) fun x r h => ⟨0, (ex18 0 x.1).trans h⟩
theorem ex40 (fuel : Nat) (x0 : (g40.args.getD 0 (.v (.ty .bool))).T) : call G MT40 FT40 IT40 8 g40 31 [.tmp 2] c40 h40 fuel (x0, ()) = sh40 fuel x0 := by kernel_rfl
theorem fo40 : funOk Tryd.prog 40 = true := by kernel_rfl
theorem it40 : ITok Tryd.prog IT40 := ITok_nil
theorem mt40 : MtOk Tryd.prog MT40 := MtOk_nil
theorem ft40 : FTok Tryd.prog FT40 := FTok_nil
theorem tc40 : TC Tryd.prog 40 ⟨g40, sp40⟩ := tc_of (N := 31) (rv := [.tmp 2]) (c := c40) (h := h40) good mt40 it40 ft40 wide Tryd.func40 (by kernel_rfl) rfl (by kernel_rfl) (by decide) (by kernel_rfl) (by kernel_rfl) fun x r h => ⟨0, (ex40 0 x.1).trans h⟩
theorem ex20 (fuel : Nat) (x0 : (g20.args.getD 0 (.v (.ty .bool))).T) (x1 : (g20.args.getD 1 (.v (.ty .bool))).T) : call G MT20 FT20 IT20 8 g20 16 [.tmp 4] c20 h20 fuel (x0, x1, ()) = sh20 fuel x0 x1 := by kernel_rfl
theorem fo20 : funOk Tryd.prog 20 = true := by kernel_rfl
theorem it20 : ITok Tryd.prog IT20 := ITok_nil
theorem mt20 : MtOk Tryd.prog MT20 := MtOk_nil
theorem ft20 : FTok Tryd.prog FT20 := FTok_nil
theorem tc20 : TC Tryd.prog 20 ⟨g20, sp20⟩ := tc_of (N := 16) (rv := [.tmp 4]) (c := c20) (h := h20) good mt20 it20 ft20 wide Tryd.func20 (by kernel_rfl) rfl (by kernel_rfl) (by decide) (by kernel_rfl) (by kernel_rfl) fun x r h => ⟨0, (ex20 0 x.1 x.2.1).trans h⟩
theorem ex22 (fuel : Nat) (x0 : (g22.args.getD 0 (.v (.ty .bool))).T) (x1 : (g22.args.getD 1 (.v (.ty .bool))).T) : call G MT22 FT22 IT22 8 g22 9 [.tmp 4] c22 h22 fuel (x0, x1, ()) = sh22 fuel x0 x1 := by kernel_rfl
theorem fo22 : funOk Tryd.prog 22 = true := by kernel_rfl
theorem it22 : ITok Tryd.prog IT22 := ITok_nil
theorem mt22 : MtOk Tryd.prog MT22 := MtOk_nil
theorem ft22 : FTok Tryd.prog FT22 := FTok_cons fo40 tc40 (FTok_cons fo20 tc20 (FTok_nil))
theorem tc22 : TC Tryd.prog 22 ⟨g22, sp22⟩ := tc_of (N := 9) (rv := [.tmp 4]) (c := c22) (h := h22) good mt22 it22 ft22 wide Tryd.func22 (by kernel_rfl) rfl (by kernel_rfl) (by decide) (by kernel_rfl) (by kernel_rfl) fun x r h => ⟨0, (ex22 0 x.1 x.2.1).trans h⟩
theorem ex38 (fuel : Nat) (x0 : (g38.args.getD 0 (.v (.ty .bool))).T) (x1 : (g38.args.getD 1 (.v (.ty .bool))).T) : call G MT38 FT38 IT38 8 g38 12 [.tmp 4] c38 h38 fuel (x0, x1, ()) = sh38 fuel x0 x1 := by kernel_rfl
theorem fo38 : funOk Tryd.prog 38 = true := by kernel_rfl
theorem it38 : ITok Tryd.prog IT38 := ITok_nil
theorem mt38 : MtOk Tryd.prog MT38 := MtOk_nil
theorem ft38 : FTok Tryd.prog FT38 := FTok_cons fo22 tc22 (FTok_nil)
theorem tc38 : TC Tryd.prog 38 ⟨g38, sp38⟩ := tc_of (N := 12) (rv := [.tmp 4]) (c := c38) (h := h38) good mt38 it38 ft38 wide Tryd.func38 (by kernel_rfl) rfl (by kernel_rfl) (by decide) (by kernel_rfl) (by kernel_rfl) fun x r h => ⟨0, (ex38 0 x.1 x.2.1).trans h⟩
theorem ex39 (fuel : Nat) (x0 : (g39.args.getD 0 (.v (.ty .bool))).T) (x1 : (g39.args.getD 1 (.v (.ty .bool))).T) : call G MT39 FT39 IT39 8 g39 12 [.tmp 4] c39 h39 fuel (x0, x1, ()) = sh39 fuel x0 x1 := by kernel_rfl
theorem fo39 : funOk Tryd.prog 39 = true := by kernel_rfl
theorem it39 : ITok Tryd.prog IT39 := ITok_nil
theorem mt39 : MtOk Tryd.prog MT39 := MtOk_nil
theorem ft39 : FTok Tryd.prog FT39 := FTok_cons fo22 tc22 (FTok_nil)
theorem tc39 : TC Tryd.prog 39 ⟨g39, sp39⟩ := tc_of (N := 12) (rv := [.tmp 4]) (c := c39) (h := h39) good mt39 it39 ft39 wide Tryd.func39 (by kernel_rfl) rfl (by kernel_rfl) (by decide) (by kernel_rfl) (by kernel_rfl) fun x r h => ⟨0, (ex39 0 x.1 x.2.1).trans h⟩
theorem ex19 (fuel : Nat) (x0 : (g19.args.getD 0 (.v (.ty .bool))).T) : call G MT19 FT19 IT19 8 g19 16 [.cell 2 23] c19 h19 fuel (x0, ()) = sh19 fuel x0 := by kernel_rfl
theorem fo19 : funOk Tryd.prog 19 = true := by kernel_rfl
theorem it19 : ITok Tryd.prog IT19 := ITok_nil
theorem mt19 : MtOk Tryd.prog MT19 := MtOk_nil
theorem ft19 : FTok Tryd.prog FT19 := FTok_cons fo38 tc38 (FTok_cons fo39 tc39 (FTok_nil))
theorem tc19 : TC Tryd.prog 19 ⟨g19, sp19⟩ := tc_of (N := 16) (rv := [.cell 2 23]) (c := c19) (h := h19) good mt19 it19 ft19 wide Tryd.func19 (by kernel_rfl) rfl (by kernel_rfl) (by decide) (by kernel_rfl) (by kernel_rfl) fun x r h => ⟨0, (ex19 0 x.1).trans h⟩
theorem ex4 (fuel : Nat) (x0 : (g4.args.getD 0 (.v (.ty .bool))).T) (x1 : (g4.args.getD 1 (.v (.ty .bool))).T) (x2 : (g4.args.getD 2 (.v (.ty .bool))).T) (x3 : (g4.args.getD 3 (.v (.ty .bool))).T) : call G MT4 FT4 IT4 8 g4 77 [.tmp 8] c4 h4 fuel (x0, x1, x2, x3, ()) = sh4 fuel x0 x1 x2 x3 := by kernel_rfl
theorem fo4 : funOk Tryd.prog 4 = true := by kernel_rfl
theorem it4 : ITok Tryd.prog IT4 := ITok_nil
theorem mt4 : MtOk Tryd.prog MT4 := MtOk_nil
theorem ft4 : FTok Tryd.prog FT4 := FTok_cons fo9 tc9 (FTok_cons fo18 tc18 (FTok_cons fo19 tc19 (FTok_cons fo17 tc17 (FTok_cons fo20 tc20 (FTok_cons fo10 tc10 (FTok_cons fo11 tc11 (FTok_nil)))))))
theorem tc4 : TC Tryd.prog 4 ⟨g4, sp4⟩ := tc_of (N := 77) (rv := [.tmp 8]) (c := c4) (h := h4) good mt4 it4 ft4 wide Tryd.func4 (by kernel_rfl) rfl (by kernel_rfl) (by decide) (by kernel_rfl) (by kernel_rfl) fun x r h => ⟨16, (ex4 16 x.1 x.2.1 x.2.2.1 x.2.2.2.1).trans h⟩
theorem ex5 (fuel : Nat) (x0 : (g5.args.getD 0 (.v (.ty .bool))).T) (x1 : (g5.args.getD 1 (.v (.ty .bool))).T) : call G MT5 FT5 IT5 8 g5 47 [.tmp 4] c5 h5 fuel (x0, x1, ()) = sh5 fuel x0 x1 := by kernel_rfl
theorem fo5 : funOk Tryd.prog 5 = true := by kernel_rfl
theorem it5 : ITok Tryd.prog IT5 := ITok_nil
theorem mt5 : MtOk Tryd.prog MT5 := MtOk_nil
theorem ft5 : FTok Tryd.prog FT5 := FTok_cons fo18 tc18 (FTok_cons fo19 tc19 (FTok_cons fo16 tc16 (FTok_cons fo10 tc10 (FTok_cons fo12 tc12 (FTok_cons fo9 tc9 (FTok_nil))))))
theorem tc5 : TC Tryd.prog 5 ⟨g5, sp5⟩ := tc_of (N := 47) (rv := [.tmp 4]) (c := c5) (h := h5) good mt5 it5 ft5 wide Tryd.func5 (by kernel_rfl) rfl (by kernel_rfl) (by decide) (by kernel_rfl) (by kernel_rfl) fun x r h => ⟨0, (ex5 0 x.1 x.2.1).trans h⟩
theorem ex21 (fuel : Nat) (x0 : (g21.args.getD 0 (.v (.ty .bool))).T) : call G MT21 FT21 IT21 8 g21 12 [.cell 2 41] c21 h21 fuel (x0, ()) = sh21 fuel x0 := by kernel_rfl
theorem fo21 : funOk Tryd.prog 21 = true := by kernel_rfl
theorem it21 : ITok Tryd.prog IT21 := ITok_nil
theorem mt21 : MtOk Tryd.prog MT21 := MtOk_nil
theorem ft21 : FTok Tryd.prog FT21 := FTok_cons fo19 tc19 (FTok_cons fo38 tc38 (FTok_nil))
theorem tc21 : TC Tryd.prog 21 ⟨g21, sp21⟩ := tc_of (N := 12) (rv := [.cell 2 41]) (c := c21) (h := h21) good mt21 it21 ft21 wide Tryd.func21 (by kernel_rfl) rfl (by kernel_rfl) (by decide) (by kernel_rfl) (by kernel_rfl) fun x r h => ⟨0, (ex21 0 x.1).trans h⟩
theorem ex24 (fuel : Nat) (x0 : (g24.args.getD 0 (.v (.ty .bool))).T) : call G MT24 FT24 IT24 8 g24 21 [.tmp 2] c24 h24 fuel (x0, ()) = sh24 fuel x0 := by kernel_rfl
theorem fo24 : funOk Tryd.prog 24 = true := by kernel_rfl
theorem it24 : ITok Tryd.prog IT24 := ITok_nil
theorem mt24 : MtOk Tryd.prog MT24 := MtOk_nil
theorem ft24 : FTok Tryd.prog FT24 := FTok_cons fo41 tc41 (FTok_nil)
theorem tc24 : TC Tryd.prog 24 ⟨g24, sp24⟩ := tc_of (N := 21) (rv := [.tmp 2]) (c := c24) (h := h24) good mt24 it24 ft24 wide Tryd.func24 (by kernel_rfl) rfl (by kernel_rfl) (by decide) (by kernel_rfl) (by kernel_rfl) fun x r h => ⟨0, (ex24 0 x.1).trans h⟩
theorem ex25 (fuel : Nat) (x0 : (g25.args.getD 0 (.v (.ty .bool))).T) : call G MT25 FT25 IT25 8 g25 26 [.tmp 2] c25 h25 fuel (x0, ()) = sh25 fuel x0 := by kernel_rfl
theorem fo25 : funOk Tryd.prog 25 = true := by kernel_rfl
theorem it25 : ITok Tryd.prog IT25 := ITok_nil
theorem mt25 : MtOk Tryd.prog MT25 := MtOk_nil
theorem ft25 : FTok Tryd.prog FT25 := FTok_cons fo12 tc12 (FTok_cons fo23 tc23 (FTok_nil))
theorem tc25 : TC Tryd.prog 25 ⟨g25, sp25⟩ := tc_of (N := 26) (rv := [.tmp 2]) (c := c25) (h := h25) good mt25 it25 ft25 wide Tryd.func25 (by kernel_rfl) rfl (by kernel_rfl) (by decide) (by kernel_rfl) (by kernel_rfl) fun x r h => ⟨0, (ex25 0 x.1).trans h⟩
theorem ex42 (fuel : Nat) (x0 : (g42.args.getD 0 (.v (.ty .bool))).T) : call G MT42 FT42 IT42 8 g42 13 [.tmp 2] c42 h42 fuel (x0, ()) = sh42 fuel x0 := by kernel_rfl
theorem fo42 : funOk Tryd.prog 42 = true := by kernel_rfl
theorem it42 : ITok Tryd.prog IT42 := ITok_nil
theorem mt42 : MtOk Tryd.prog MT42 := MtOk_nil
theorem ft42 : FTok Tryd.prog FT42 := FTok_nil
theorem tc42 : TC Tryd.prog 42 ⟨g42, sp42⟩ := tc_of (N := 13) (rv := [.tmp 2]) (c := c42) (h := h42) good mt42 it42 ft42 wide Tryd.func42 (by kernel_rfl) rfl (by kernel_rfl) (by decide) (by kernel_rfl) (by kernel_rfl) fun x r h => ⟨0, (ex42 0 x.1).trans h⟩
theorem ex26 (fuel : Nat) (x0 : (g26.args.getD 0 (.v (.ty .bool))).T) : call G MT26 FT26 IT26 8 g26 16 [.tmp 2] c26 h26 fuel (x0, ()) = sh26 fuel x0 := by kernel_rfl
theorem fo26 : funOk Tryd.prog 26 = true := by kernel_rfl
theorem it26 : ITok Tryd.prog IT26 := ITok_nil
theorem mt26 : MtOk Tryd.prog MT26 := MtOk_nil
theorem ft26 : FTok Tryd.prog FT26 := FTok_cons fo13 tc13 (FTok_cons fo24 tc24 (FTok_cons fo42 tc42 (FTok_nil)))
theorem tc26 : TC Tryd.prog 26 ⟨g26, sp26⟩ := tc_of (N := 16) (rv := [.tmp 2]) (c := c26) (h := h26) good mt26 it26 ft26 wide Tryd.func26 (by kernel_rfl) rfl (by kernel_rfl) (by decide) (by kernel_rfl) (by kernel_rfl) fun x r h => ⟨0, (ex26 0 x.1).trans h⟩
theorem ex6 (fuel : Nat) (x0 : (g6.args.getD 0 (.v (.ty .bool))).T) (x1 : (g6.args.getD 1 (.v (.ty .bool))).T) (x2 : (g6.args.getD 2 (.v (.ty .bool))).T) (x3 : (g6.args.getD 3 (.v (.ty .bool))).T) : call G MT6 FT6 IT6 8 g6 56 [.tmp 8] c6 h6 fuel (x0, x1, x2, x3, ()) = sh6 fuel x0 x1 x2 x3 := by kernel_rfl
theorem fo6 : funOk Tryd.prog 6 = true := by kernel_rfl
theorem it6 : ITok Tryd.prog IT6 := ITok_nil
theorem mt6 : MtOk Tryd.prog MT6 := MtOk_nil
theorem ft6 : FTok Tryd.prog FT6 := FTok_cons fo18 tc18 (FTok_cons fo21 tc21 (FTok_cons fo22 tc22 (FTok_cons fo23 tc23 (FTok_cons fo24 tc24 (FTok_cons fo25 tc25 (FTok_cons fo26 tc26 (FTok_cons fo9 tc9 (FTok_nil))))))))
theorem tc6 : TC Tryd.prog 6 ⟨g6, sp6⟩ := tc_of (N := 56) (rv := [.tmp 8]) (c := c6) (h := h6) good mt6 it6 ft6 wide Tryd.func6 (by kernel_rfl) rfl (by kernel_rfl) (by decide) (by kernel_rfl) (by kernel_rfl) fun x r h => ⟨0, (ex6 0 x.1 x.2.1 x.2.2.1 x.2.2.2.1).trans h⟩
theorem ex53 (fuel : Nat) (x0 : (g53.args.getD 0 (.v (.ty .bool))).T) : call G MT53 FT53 IT53 8 g53 6 [.tmp 2] c53 h53 fuel (x0, ()) = sh53 fuel x0 := by kernel_rfl
theorem fo53 : funOk Tryd.prog 53 = true := by kernel_rfl
theorem it53 : ITok Tryd.prog IT53 := ITok_nil
theorem mt53 : MtOk Tryd.prog MT53 := MtOk_nil
theorem ft53 : FTok Tryd.prog FT53 := FTok_nil
theorem tc53 : TC Tryd.prog 53 ⟨g53, sp53⟩ := tc_of (N := 6) (rv := [.tmp 2]) (c := c53) (h := h53) good mt53 it53 ft53 wide Tryd.func53 (by kernel_rfl) rfl (by kernel_rfl) (by decide) (by kernel_rfl) (by kernel_rfl) fun x r h => ⟨0, (ex53 0 x.1).trans h⟩
theorem ex44 (fuel : Nat) (x0 : (g44.args.getD 0 (.v (.ty .bool))).T) (x1 : (g44.args.getD 1 (.v (.ty .bool))).T) : call G MT44 FT44 IT44 8 g44 20 [.tmp 4] c44 h44 fuel (x0, x1, ()) = sh44 fuel x0 x1 := by kernel_rfl
theorem fo44 : funOk Tryd.prog 44 = true := by kernel_rfl
theorem it44 : ITok Tryd.prog IT44 := ITok_nil
theorem mt44 : MtOk Tryd.prog MT44 := MtOk_nil
theorem ft44 : FTok Tryd.prog FT44 := FTok_cons fo53 tc53 (FTok_nil)
theorem tc44 : TC Tryd.prog 44 ⟨g44, sp44⟩ := tc_of (N := 20) (rv := [.tmp 4]) (c := c44) (h := h44) good mt44 it44 ft44 wide Tryd.func44 (by kernel_rfl) rfl (by kernel_rfl) (by decide) (by kernel_rfl) (by kernel_rfl) fun x r h => ⟨0, (ex44 0 x.1 x.2.1).trans h⟩
theorem ex54 (fuel : Nat) (x0 : (g54.args.getD 0 (.v (.ty .bool))).T) : call G MT54 FT54 IT54 8 g54 6 [.tmp 2] c54 h54 fuel (x0, ()) = sh54 fuel x0 := by kernel_rfl
theorem fo54 : funOk Tryd.prog 54 = true := by kernel_rfl
theorem it54 : ITok Tryd.prog IT54 := ITok_nil
theorem mt54 : MtOk Tryd.prog MT54 := MtOk_nil
theorem ft54 : FTok Tryd.prog FT54 := FTok_nil
theorem tc54 : TC Tryd.prog 54 ⟨g54, sp54⟩ := tc_of (N := 6) (rv := [.tmp 2]) (c := c54) (h := h54) good mt54 it54 ft54 wide Tryd.func54 (by kernel_rfl) rfl (by kernel_rfl) (by decide) (by kernel_rfl) (by kernel_rfl) fun x r h => ⟨0, (ex54 0 x.1).trans h⟩
theorem ex45 (fuel : Nat) (x0 : (g45.args.getD 0 (.v (.ty .bool))).T) (x1 : (g45.args.getD 1 (.v (.ty .bool))).T) : call G MT45 FT45 IT45 8 g45 20 [.tmp 4] c45 h45 fuel (x0, x1, ()) = sh45 fuel x0 x1 := by kernel_rfl
theorem fo45 : funOk Tryd.prog 45 = true := by kernel_rfl
theorem it45 : ITok Tryd.prog IT45 := ITok_nil
theorem mt45 : MtOk Tryd.prog MT45 := MtOk_nil
theorem ft45 : FTok Tryd.prog FT45 := FTok_cons fo54 tc54 (FTok_nil)
theorem tc45 : TC Tryd.prog 45 ⟨g45, sp45⟩ := tc_of (N := 20) (rv := [.tmp 4]) (c := c45) (h := h45) good mt45 it45 ft45 wide Tryd.func45 (by kernel_rfl) rfl (by kernel_rfl) (by decide) (by kernel_rfl) (by kernel_rfl) fun x r h => ⟨0, (ex45 0 x.1 x.2.1).trans h⟩
theorem ex43 (fuel : Nat) (x0 : (g43.args.getD 0 (.v (.ty .bool))).T) : call G MT43 FT43 IT43 8 g43 18 [.tmp 2] c43 h43 fuel (x0, ()) = sh43 fuel x0 := by kernel_rfl
theorem fo43 : funOk Tryd.prog 43 = true := by kernel_rfl
theorem it43 : ITok Tryd.prog IT43 := ITok_nil
theorem mt43 : MtOk Tryd.prog MT43 := MtOk_nil
theorem ft43 : FTok Tryd.prog FT43 := FTok_nil
theorem tc43 : TC Tryd.prog 43 ⟨g43, sp43⟩ := tc_of (N := 18) (rv := [.tmp 2]) (c := c43) (h := h43) good mt43 it43 ft43 wide Tryd.func43 (by kernel_rfl) rfl (by kernel_rfl) (by decide) (by kernel_rfl) (by kernel_rfl) fun x r h => ⟨16, (ex43 16 x.1).trans h⟩
theorem ex27 (fuel : Nat) (x0 : (g27.args.getD 0 (.v (.ty .bool))).T) (x1 : (g27.args.getD 1 (.v (.ty .bool))).T) : call G MT27 FT27 IT27 8 g27 27 [.tmp 4] c27 h27 fuel (x0, x1, ()) = sh27 fuel x0 x1 := by kernel_rfl
theorem fo27 : funOk Tryd.prog 27 = true := by kernel_rfl
theorem it27 : ITok Tryd.prog IT27 := ITok_nil
theorem mt27 : MtOk Tryd.prog MT27 := MtOk_nil
theorem ft27 : FTok Tryd.prog FT27 := FTok_cons fo44 tc44 (FTok_cons fo45 tc45 (FTok_cons fo43 tc43 (FTok_nil)))
theorem tc27 : TC Tryd.prog 27 ⟨g27, sp27⟩ := tc_of (N := 27) (rv := [.tmp 4]) (c := c27) (h := h27) good mt27 it27 ft27 wide Tryd.func27 (by kernel_rfl) rfl (by kernel_rfl) (by decide) (by kernel_rfl) (by kernel_rfl) fun x r h => ⟨0, (ex27 0 x.1 x.2.1).trans h⟩
theorem ex28 (fuel : Nat) (x0 : (g28.args.getD 0 (.v (.ty .bool))).T) (x1 : (g28.args.getD 1 (.v (.ty .bool))).T) : call G MT28 FT28 IT28 8 g28 48 [.tmp 4] c28 h28 fuel (x0, x1, ()) = sh28 fuel x0 x1 := by kernel_rfl
theorem fo28 : funOk Tryd.prog 28 = true := by kernel_rfl
theorem it28 : ITok Tryd.prog IT28 := ITok_nil
theorem mt28 : MtOk Tryd.prog MT28 := MtOk_nil
theorem ft28 : FTok Tryd.prog FT28 := FTok_nil
theorem tc28 : TC Tryd.prog 28 ⟨g28, sp28⟩ := tc_of (N := 48) (rv := [.tmp 4]) (c := c28) (h := h28) good mt28 it28 ft28 wide Tryd.func28 (by kernel_rfl) rfl (by kernel_rfl) (by decide) (by kernel_rfl) (by kernel_rfl) fun x r h => ⟨0, (ex28 0 x.1 x.2.1).trans h⟩
theorem ex7 (fuel : Nat) (x0 : (g7.args.getD 0 (.v (.ty .bool))).T) (x1 : (g7.args.getD 1 (.v (.ty .bool))).T) (x2 : (g7.args.getD 2 (.v (.ty .bool))).T) : call G MT7 FT7 IT7 8 g7 74 [.tmp 6] c7 h7 fuel (x0, x1, x2, ()) = sh7 fuel x0 x1 x2 := by kernel_rfl
theorem fo7 : funOk Tryd.prog 7 = true := by kernel_rfl
theorem it7 : ITok Tryd.prog IT7 := ITok_nil
theorem mt7 : MtOk Tryd.prog MT7 := MtOk_nil
theorem ft7 : FTok Tryd.prog FT7 := FTok_cons fo18 tc18 (FTok_cons fo19 tc19 (FTok_cons fo27 tc27 (FTok_cons fo28 tc28 (FTok_cons fo9 tc9 (FTok_nil)))))
theorem tc7 : TC Tryd.prog 7 ⟨g7, sp7⟩ := tc_of (N := 74) (rv := [.tmp 6]) (c := c7) (h := h7) good mt7 it7 ft7 wide Tryd.func7 (by kernel_rfl) rfl (by kernel_rfl) (by decide) (by kernel_rfl) (by kernel_rfl) fun x r h => ⟨0, (ex7 0 x.1 x.2.1 x.2.2.1).trans h⟩
theorem ex8 (fuel : Nat) (x0 : (g8.args.getD 0 (.v (.ty .bool))).T) (x1 : (g8.args.getD 1 (.v (.ty .bool))).T) (x2 : (g8.args.getD 2 (.v (.ty .bool))).T) : call G MT8 FT8 IT8 8 g8 58 [.tmp 6] c8 h8 fuel (x0, x1, x2, ()) = sh8 fuel x0 x1 x2 := by kernel_rfl
theorem fo8 : funOk Tryd.prog 8 = true := by kernel_rfl
theorem it8 : ITok Tryd.prog IT8 := ITok_nil
theorem mt8 : MtOk Tryd.prog MT8 := MtOk_nil
theorem ft8 : FTok Tryd.prog FT8 := FTok_cons fo18 tc18 (FTok_cons fo19 tc19 (FTok_cons fo20 tc20 (FTok_cons fo14 tc14 (FTok_cons fo16 tc16 (FTok_cons fo27 tc27 (FTok_cons fo9 tc9 (FTok_nil)))))))
theorem tc8 : TC Tryd.prog 8 ⟨g8, sp8⟩ := tc_of (N := 58) (rv := [.tmp 6]) (c := c8) (h := h8) good mt8 it8 ft8 wide Tryd.func8 (by kernel_rfl) rfl (by kernel_rfl) (by decide) (by kernel_rfl) (by kernel_rfl) fun x r h => ⟨0, (ex8 0 x.1 x.2.1 x.2.2.1).trans h⟩
end Go.Proofs.YthoibdbhmacliaaDoor
