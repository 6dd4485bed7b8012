/- Walks: the functions of the program, each as a typed contract. -/
import Derived.Test.YtkppmjplkjakkaaWb
import Derived.KernelRfl
open Go Go.Proofs Go.Abs
set_option linter.unusedVariables false
set_option maxRecDepth 100000
namespace Go.Proofs.Ytkppmjplkjakkaa
theorem ex9 (fuel : Nat) (x0 : (g9.args.getD 0 (.v (.ty .bool))).T) (x1 : (g9.args.getD 1 (.v (.ty .bool))).T) (x2 : (g9.args.getD 2 (.v (.ty .bool))).T) (x3 : (g9.args.getD 3 (.v (.ty .bool))).T) : call G MT9 FT9 IT9 8 g9 35 [.tmp 8] c9 h9 fuel (x0, x1, x2, x3, ()) = sh9 fuel x0 x1 x2 x3 := by kernel_rfl
theorem fo9 : funOk Try.prog 9 = true := by kernel_rfl
theorem it9 : ITok Try.prog IT9 := ITok_nil
theorem mt9 : MtOk Try.prog MT9 := MtOk_nil
theorem ft9 : FTok Try.prog FT9 := FTok_nil
theorem tc9 : TC Try.prog 9 ⟨g9, sp9⟩ := tc_of (N := 35) (rv := [.tmp 8]) (c := c9) (h := h9) good mt9 it9 ft9 wide Try.func9 (by kernel_rfl) rfl (by kernel_rfl) (by decide) (by kernel_rfl) (by kernel_rfl) fun x r h => (lo9 x r h).imp fun fuel hf => (ex9 fuel x.1 x.2.1 x.2.2.1 x.2.2.2.1).trans hf
theorem ex21 (fuel : Nat) (x0 : (g21.args.getD 0 (.v (.ty .bool))).T) : call G MT21 FT21 IT21 8 g21 5 [.tmp 2] c21 h21 fuel (x0, ()) = sh21 fuel x0 := by kernel_rfl
theorem fo21 : funOk Try.prog 21 = true := by kernel_rfl
theorem it21 : ITok Try.prog IT21 := ITok_nil
theorem mt21 : MtOk Try.prog MT21 := MtOk_nil
theorem ft21 : FTok Try.prog FT21 := FTok_nil
theorem tc21 : TC Try.prog 21 ⟨g21, sp21⟩ := tc_of (N := 5) (rv := [.tmp 2]) (c := c21) (h := h21) good mt21 it21 ft21 wide Try.func21 (by kernel_rfl) rfl (by kernel_rfl) (by decide) (by kernel_rfl) (by kernel_rfl) fun x r h => ⟨0, (ex21 0 x.1).trans h⟩
theorem ex51 (fuel : Nat) (x0 : (g51.args.getD 0 (.v (.ty .bool))).T) : call G MT51 FT51 IT51 8 g51 6 [.tmp 2] c51 h51 fuel (x0, ()) = sh51 fuel x0 := by kernel_rfl
theorem fo51 : funOk Try.prog 51 = true := by kernel_rfl
theorem it51 : ITok Try.prog IT51 := ITok_nil
theorem mt51 : MtOk Try.prog MT51 := MtOk_nil
theorem ft51 : FTok Try.prog FT51 := FTok_nil
theorem tc51 : TC Try.prog 51 ⟨g51, sp51⟩ := tc_of (N := 6) (rv := [.tmp 2]) (c := c51) (h := h51) good mt51 it51 ft51 wide Try.func51 (by kernel_rfl) rfl (by kernel_rfl) (by decide) (by kernel_rfl) (by kernel_rfl) fun x r h => ⟨0, (ex51 0 x.1).trans h⟩
theorem ex50 (fuel : Nat) (x0 : (g50.args.getD 0 (.v (.ty .bool))).T) (x1 : (g50.args.getD 1 (.v (.ty .bool))).T) : call G MT50 FT50 IT50 8 g50 20 [.tmp 4] c50 h50 fuel (x0, x1, ()) = sh50 fuel x0 x1 := by kernel_rfl
theorem fo50 : funOk Try.prog 50 = true := by kernel_rfl
theorem it50 : ITok Try.prog IT50 := ITok_nil
theorem mt50 : MtOk Try.prog MT50 := MtOk_nil
theorem ft50 : FTok Try.prog FT50 := FTok_cons fo51 tc51 (FTok_nil)
theorem tc50 : TC Try.prog 50 ⟨g50, sp50⟩ := tc_of (N := 20) (rv := [.tmp 4]) (c := c50) (h := h50) good mt50 it50 ft50 wide Try.func50 (by kernel_rfl) rfl (by kernel_rfl) (by decide) (by kernel_rfl) (by kernel_rfl) fun x r h => ⟨0, (ex50 0 x.1 x.2.1).trans h⟩
theorem ex49 (fuel : Nat) (x0 : (g49.args.getD 0 (.v (.ty .bool))).T) : call G MT49 FT49 IT49 8 g49 18 [.tmp 2] c49 h49 fuel (x0, ()) = sh49 fuel x0 := by kernel_rfl
theorem fo49 : funOk Try.prog 49 = true := by kernel_rfl
theorem it49 : ITok Try.prog IT49 := ITok_nil
theorem mt49 : MtOk Try.prog MT49 := MtOk_nil
theorem ft49 : FTok Try.prog FT49 := FTok_nil
theorem tc49 : TC Try.prog 49 ⟨g49, sp49⟩ := tc_of (N := 18) (rv := [.tmp 2]) (c := c49) (h := h49) good mt49 it49 ft49 wide Try.func49 (by kernel_rfl) rfl (by kernel_rfl) (by decide) (by kernel_rfl) (by kernel_rfl) fun x r h => (lo49 x r h).imp fun fuel hf => (ex49 fuel x.1).trans hf
theorem ex14 (fuel : Nat) (x0 : (g14.args.getD 0 (.v (.ty .bool))).T) (x1 : (g14.args.getD 1 (.v (.ty .bool))).T) : call G MT14 FT14 IT14 8 g14 29 [.tmp 4] c14 h14 fuel (x0, x1, ()) = sh14 fuel x0 x1 := by kernel_rfl
theorem fo14 : funOk Try.prog 14 = true := by kernel_rfl
theorem fo20 : funOk Try.prog 20 = true := by kernel_rfl
theorem fo25 : funOk Try.prog 25 = true := by kernel_rfl
theorem fo47 : funOk Try.prog 47 = true := by kernel_rfl
theorem fo27 : funOk Try.prog 27 = true := by kernel_rfl
theorem fo45 : funOk Try.prog 45 = true := by kernel_rfl
theorem fo48 : funOk Try.prog 48 = true := by kernel_rfl
theorem it14 : ITok Try.prog IT14 := ITok_cons fo20 Try.func20 (by kernel_rfl) rfl (by kernel_rfl) (ITok_cons fo25 Try.func25 (by kernel_rfl) rfl (by kernel_rfl) (ITok_cons fo47 Try.func47 (by kernel_rfl) rfl (by kernel_rfl) (ITok_cons fo21 Try.func21 (by kernel_rfl) rfl (by kernel_rfl) (ITok_cons fo27 Try.func27 (by kernel_rfl) rfl (by kernel_rfl) (ITok_cons fo45 Try.func45 (by kernel_rfl) rfl (by kernel_rfl) (ITok_cons fo48 Try.func48 (by kernel_rfl) rfl (by kernel_rfl) (ITok_nil)))))))
theorem mt14 : MtOk Try.prog MT14 := MtOk_cons (by kernel_rfl) (MtOk_cons (by kernel_rfl) (MtOk_cons (by kernel_rfl) (MtOk_cons (by kernel_rfl) (MtOk_nil))))
theorem ft14 : FTok Try.prog FT14 := FTok_cons fo50 tc50 (FTok_cons fo49 tc49 (FTok_cons fo21 tc21 (FTok_nil)))
theorem tc14 : TC Try.prog 14 ⟨g14, sp14⟩ := tc_of (N := 29) (rv := [.tmp 4]) (c := c14) (h := h14) good mt14 it14 ft14 wide Try.func14 (by kernel_rfl) rfl (by kernel_rfl) (by decide) (by kernel_rfl) (by kernel_rfl) fun x r h => (lo14 x r h).imp fun fuel hf => (ex14 fuel x.1 x.2.1).trans hf
theorem ex12 (fuel : Nat) (x0 : (g12.args.getD 0 (.v (.ty .bool))).T) : call G MT12 FT12 IT12 8 g12 25 [.tmp 2] c12 h12 fuel (x0, ()) = sh12 fuel x0 := by kernel_rfl
theorem fo12 : funOk Try.prog 12 = true := by kernel_rfl
theorem fo22 : funOk Try.prog 22 = true := by kernel_rfl
theorem fo26 : funOk Try.prog 26 = true := by kernel_rfl
theorem fo46 : funOk Try.prog 46 = true := by kernel_rfl
theorem it12 : ITok Try.prog IT12 := ITok_cons fo20 Try.func20 (by kernel_rfl) rfl (by kernel_rfl) (ITok_cons fo25 Try.func25 (by kernel_rfl) rfl (by kernel_rfl) (ITok_cons fo47 Try.func47 (by kernel_rfl) rfl (by kernel_rfl) (ITok_cons fo21 Try.func21 (by kernel_rfl) rfl (by kernel_rfl) (ITok_cons fo27 Try.func27 (by kernel_rfl) rfl (by kernel_rfl) (ITok_cons fo45 Try.func45 (by kernel_rfl) rfl (by kernel_rfl) (ITok_cons fo48 Try.func48 (by kernel_rfl) rfl (by kernel_rfl) (ITok_cons fo22 Try.func22 (by kernel_rfl) rfl (by kernel_rfl) (ITok_cons fo26 Try.func26 (by kernel_rfl) rfl (by kernel_rfl) (ITok_cons fo46 Try.func46 (by kernel_rfl) rfl (by kernel_rfl) (ITok_nil))))))))))
theorem mt12 : MtOk Try.prog MT12 := MtOk_cons (by kernel_rfl) (MtOk_cons (by kernel_rfl) (MtOk_cons (by kernel_rfl) (MtOk_cons (by kernel_rfl) (MtOk_cons (by kernel_rfl) (MtOk_nil)))))
theorem ft12 : FTok Try.prog FT12 := FTok_cons fo50 tc50 (FTok_cons fo49 tc49 (FTok_cons fo21 tc21 (FTok_nil)))
theorem tc12 : TC Try.prog 12 ⟨g12, sp12⟩ := tc_of (N := 25) (rv := [.tmp 2]) (c := c12) (h := h12) good mt12 it12 ft12 wide Try.func12 (by kernel_rfl) rfl (by kernel_rfl) (by decide) (by kernel_rfl) (by kernel_rfl) fun x r h => (lo12 x r h).imp fun fuel hf => (ex12 fuel x.1).trans hf
theorem ex11 (fuel : Nat) (x0 : (g11.args.getD 0 (.v (.ty .bool))).T) (x1 : (g11.args.getD 1 (.v (.ty .bool))).T) : call G MT11 FT11 IT11 8 g11 26 [.tmp 4] c11 h11 fuel (x0, x1, ()) = sh11 fuel x0 x1 := by kernel_rfl
theorem fo11 : funOk Try.prog 11 = true := by kernel_rfl
theorem it11 : ITok Try.prog IT11 := ITok_nil
theorem mt11 : MtOk Try.prog MT11 := MtOk_nil
theorem ft11 : FTok Try.prog FT11 := FTok_nil
theorem tc11 : TC Try.prog 11 ⟨g11, sp11⟩ := tc_of (N := 26) (rv := [.tmp 4]) (c := c11) (h := h11) good mt11 it11 ft11 wide Try.func11 (by kernel_rfl) rfl (by kernel_rfl) (by decide) (by kernel_rfl) (by kernel_rfl) fun x r h => (lo11 x r h).imp fun fuel hf => (ex11 fuel x.1 x.2.1).trans hf
theorem ex6 (fuel : Nat)  : call G MT6 FT6 IT6 8 g6 27 [.tmp 0] c6 h6 fuel (()) = sh6 fuel  := by kernel_rfl
theorem fo6 : funOk Try.prog 6 = true := by kernel_rfl
theorem it6 : ITok Try.prog IT6 := ITok_nil
theorem mt6 : MtOk Try.prog MT6 := MtOk_nil
theorem ft6 : FTok Try.prog FT6 := FTok_cons fo9 tc9 (FTok_cons fo14 tc14 (FTok_cons fo12 tc12 (FTok_cons fo11 tc11 (FTok_nil))))
theorem tc6 : TC Try.prog 6 ⟨g6, sp6⟩ := tc_of (N := 27) (rv := [.tmp 0]) (c := c6) (h := h6) good mt6 it6 ft6 wide Try.func6 (by kernel_rfl) rfl (by kernel_rfl) (by decide) (by kernel_rfl) (by kernel_rfl) fun x r h => ⟨0, (ex6 0 ).trans h⟩
theorem ex16 (fuel : Nat) (x0 : (g16.args.getD 0 (.v (.ty .bool))).T) : call G MT16 FT16 IT16 8 g16 11 [.tmp 2] c16 h16 fuel (x0, ()) = sh16 fuel x0 := by kernel_rfl
theorem fo16 : funOk Try.prog 16 = true := by kernel_rfl
theorem it16 : ITok Try.prog IT16 := ITok_nil
theorem mt16 : MtOk Try.prog MT16 := MtOk_nil
theorem ft16 : FTok Try.prog FT16 := FTok_nil
theorem tc16 : TC Try.prog 16 ⟨g16, sp16⟩ := tc_of (N := 11) (rv := [.tmp 2]) (c := c16) (h := h16) good mt16 it16 ft16 wide Try.func16 (by kernel_rfl) rfl (by kernel_rfl) (by decide) (by kernel_rfl) (by kernel_rfl) fun x r h => ⟨0, (ex16 0 x.1).trans h⟩
theorem ex24 (fuel : Nat) (x0 : (g24.args.getD 0 (.v (.ty .bool))).T) : call G MT24 FT24 IT24 8 g24 31 [.tmp 2] c24 h24 fuel (x0, ()) = sh24 fuel x0 := by kernel_rfl
theorem fo24 : funOk Try.prog 24 = true := by kernel_rfl
theorem it24 : ITok Try.prog IT24 := ITok_nil
theorem mt24 : MtOk Try.prog MT24 := MtOk_nil
theorem ft24 : FTok Try.prog FT24 := FTok_nil
theorem tc24 : TC Try.prog 24 ⟨g24, sp24⟩ := tc_of (N := 31) (rv := [.tmp 2]) (c := c24) (h := h24) good mt24 it24 ft24 wide Try.func24 (by kernel_rfl) rfl (by kernel_rfl) (by decide) (by kernel_rfl) (by kernel_rfl) fun x r h => ⟨0, (ex24 0 x.1).trans h⟩
theorem ex8 (fuel : Nat) (x0 : (g8.args.getD 0 (.v (.ty .bool))).T) (x1 : (g8.args.getD 1 (.v (.ty .bool))).T) : call G MT8 FT8 IT8 8 g8 16 [.tmp 4] c8 h8 fuel (x0, x1, ()) = sh8 fuel x0 x1 := by kernel_rfl
theorem fo8 : funOk Try.prog 8 = true := by kernel_rfl
theorem it8 : ITok Try.prog IT8 := ITok_nil
theorem mt8 : MtOk Try.prog MT8 := MtOk_nil
theorem ft8 : FTok Try.prog FT8 := FTok_nil
theorem tc8 : TC Try.prog 8 ⟨g8, sp8⟩ := tc_of (N := 16) (rv := [.tmp 4]) (c := c8) (h := h8) good mt8 it8 ft8 wide Try.func8 (by kernel_rfl) rfl (by kernel_rfl) (by decide) (by kernel_rfl) (by kernel_rfl) fun x r h => ⟨0, (ex8 0 x.1 x.2.1).trans h⟩
theorem ex17 (fuel : Nat) (x0 : (g17.args.getD 0 (.v (.ty .bool))).T) (x1 : (g17.args.getD 1 (.v (.ty .bool))).T) : call G MT17 FT17 IT17 8 g17 9 [.tmp 4] c17 h17 fuel (x0, x1, ()) = sh17 fuel x0 x1 := by kernel_rfl
theorem fo17 : funOk Try.prog 17 = true := by kernel_rfl
theorem it17 : ITok Try.prog IT17 := ITok_nil
theorem mt17 : MtOk Try.prog MT17 := MtOk_nil
theorem ft17 : FTok Try.prog FT17 := FTok_cons fo24 tc24 (FTok_cons fo8 tc8 (FTok_nil))
theorem tc17 : TC Try.prog 17 ⟨g17, sp17⟩ := tc_of (N := 9) (rv := [.tmp 4]) (c := c17) (h := h17) good mt17 it17 ft17 wide Try.func17 (by kernel_rfl) rfl (by kernel_rfl) (by decide) (by kernel_rfl) (by kernel_rfl) fun x r h => ⟨0, (ex17 0 x.1 x.2.1).trans h⟩
theorem ex18 (fuel : Nat) (x0 : (g18.args.getD 0 (.v (.ty .bool))).T) (x1 : (g18.args.getD 1 (.v (.ty .bool))).T) (x2 : (g18.args.getD 2 (.v (.ty .bool))).T) : call G MT18 FT18 IT18 8 g18 15 [.tmp 6] c18 h18 fuel (x0, x1, x2, ()) = sh18 fuel x0 x1 x2 := by kernel_rfl
theorem fo18 : funOk Try.prog 18 = true := by kernel_rfl
theorem it18 : ITok Try.prog IT18 := ITok_nil
theorem mt18 : MtOk Try.prog MT18 := MtOk_nil
theorem ft18 : FTok Try.prog FT18 := FTok_cons fo17 tc17 (FTok_nil)
theorem tc18 : TC Try.prog 18 ⟨g18, sp18⟩ := tc_of (N := 15) (rv := [.tmp 6]) (c := c18) (h := h18) good mt18 it18 ft18 wide Try.func18 (by kernel_rfl) rfl (by kernel_rfl) (by decide) (by kernel_rfl) (by kernel_rfl) fun x r h => ⟨0, (ex18 0 x.1 x.2.1 x.2.2.1).trans h⟩
theorem ex7 (fuel : Nat) (x0 : (g7.args.getD 0 (.v (.ty .bool))).T) : call G MT7 FT7 IT7 8 g7 23 [.tmp 2] c7 h7 fuel (x0, ()) = sh7 fuel x0 := by kernel_rfl
theorem fo7 : funOk Try.prog 7 = true := by kernel_rfl
theorem it7 : ITok Try.prog IT7 := ITok_nil
theorem mt7 : MtOk Try.prog MT7 := MtOk_nil
theorem ft7 : FTok Try.prog FT7 := FTok_cons fo16 tc16 (FTok_cons fo17 tc17 (FTok_cons fo18 tc18 (FTok_nil)))
theorem tc7 : TC Try.prog 7 ⟨g7, sp7⟩ := tc_of (N := 23) (rv := [.tmp 2]) (c := c7) (h := h7) good mt7 it7 ft7 wide Try.func7 (by kernel_rfl) rfl (by kernel_rfl) (by decide) (by kernel_rfl) (by kernel_rfl) fun x r h => (lo7 x r h).imp fun fuel hf => (ex7 fuel x.1).trans hf
theorem ex19 (fuel : Nat) (x0 : (g19.args.getD 0 (.v (.ty .bool))).T) : call G MT19 FT19 IT19 8 g19 9 [.tmp 2] c19 h19 fuel (x0, ()) = sh19 fuel x0 := by kernel_rfl
theorem fo19 : funOk Try.prog 19 = true := by kernel_rfl
theorem it19 : ITok Try.prog IT19 := ITok_nil
theorem mt19 : MtOk Try.prog MT19 := MtOk_nil
theorem ft19 : FTok Try.prog FT19 := FTok_nil
theorem tc19 : TC Try.prog 19 ⟨g19, sp19⟩ := tc_of (N := 9) (rv := [.tmp 2]) (c := c19) (h := h19) good mt19 it19 ft19 wide Try.func19 (by kernel_rfl) rfl (by kernel_rfl) (by decide) (by kernel_rfl) (by kernel_rfl) fun x r h => ⟨0, (ex19 0 x.1).trans h⟩
theorem ex10 (fuel : Nat) (x0 : (g10.args.getD 0 (.v (.ty .bool))).T) (x1 : (g10.args.getD 1 (.v (.ty .bool))).T) (x2 : (g10.args.getD 2 (.v (.ty .bool))).T) (x3 : (g10.args.getD 3 (.v (.ty .bool))).T) : call G MT10 FT10 IT10 8 g10 32 [.tmp 8] c10 h10 fuel (x0, x1, x2, x3, ()) = sh10 fuel x0 x1 x2 x3 := by kernel_rfl
theorem fo10 : funOk Try.prog 10 = true := by kernel_rfl
theorem it10 : ITok Try.prog IT10 := ITok_nil
theorem mt10 : MtOk Try.prog MT10 := MtOk_nil
theorem ft10 : FTok Try.prog FT10 := FTok_cons fo19 tc19 (FTok_nil)
theorem tc10 : TC Try.prog 10 ⟨g10, sp10⟩ := tc_of (N := 32) (rv := [.tmp 8]) (c := c10) (h := h10) good mt10 it10 ft10 wide Try.func10 (by kernel_rfl) rfl (by kernel_rfl) (by decide) (by kernel_rfl) (by kernel_rfl) fun x r h => ⟨0, (ex10 0 x.1 x.2.1 x.2.2.1 x.2.2.2.1).trans h⟩
theorem ex23 (fuel : Nat) (x0 : (g23.args.getD 0 (.v (.ty .bool))).T) : call G MT23 FT23 IT23 8 g23 93 [.tmp 2] c23 h23 fuel (x0, ()) = sh23 fuel x0 := by kernel_rfl
theorem fo23 : funOk Try.prog 23 = true := by kernel_rfl
theorem it23 : ITok Try.prog IT23 := ITok_nil
theorem mt23 : MtOk Try.prog MT23 := MtOk_nil
theorem ft23 : FTok Try.prog FT23 := FTok_nil
theorem tc23 : TC Try.prog 23 ⟨g23, sp23⟩ := tc_of (N := 93) (rv := [.tmp 2]) (c := c23) (h := h23) good mt23 it23 ft23 wide Try.func23 (by kernel_rfl) rfl (by kernel_rfl) (by decide) (by kernel_rfl) (by kernel_rfl) fun x r h => (lo23 x r h).imp fun fuel hf => (ex23 fuel x.1).trans hf
theorem ex13 (fuel : Nat) (x0 : (g13.args.getD 0 (.v (.ty .bool))).T) : call G MT13 FT13 IT13 8 g13 23 [.tmp 2] c13 h13 fuel (x0, ()) = sh13 fuel x0 := by kernel_rfl
theorem fo13 : funOk Try.prog 13 = true := by kernel_rfl
theorem it13 : ITok Try.prog IT13 := ITok_nil
theorem mt13 : MtOk Try.prog MT13 := MtOk_nil
theorem ft13 : FTok Try.prog FT13 := FTok_cons fo23 tc23 (FTok_nil)
theorem tc13 : TC Try.prog 13 ⟨g13, sp13⟩ := tc_of (N := 23) (rv := [.tmp 2]) (c := c13) (h := h13) good mt13 it13 ft13 wide Try.func13 (by kernel_rfl) rfl (by kernel_rfl) (by decide) (by kernel_rfl) (by kernel_rfl) fun x r h => (lo13 x r h).imp fun fuel hf => (ex13 fuel x.1).trans hf
theorem ex15 (fuel : Nat) (x0 : (g15.args.getD 0 (.v (.ty .bool))).T) (x1 : (g15.args.getD 1 (.v (.ty .bool))).T) : call G MT15 FT15 IT15 8 g15 23 [.tmp 4] c15 h15 fuel (x0, x1, ()) = sh15 fuel x0 x1 := by kernel_rfl
theorem fo15 : funOk Try.prog 15 = true := by kernel_rfl
theorem it15 : ITok Try.prog IT15 := ITok_nil
theorem mt15 : MtOk Try.prog MT15 := MtOk_nil
theorem ft15 : FTok Try.prog FT15 := FTok_cons fo23 tc23 (FTok_nil)
theorem tc15 : TC Try.prog 15 ⟨g15, sp15⟩ := tc_of (N := 23) (rv := [.tmp 4]) (c := c15) (h := h15) good mt15 it15 ft15 wide Try.func15 (by kernel_rfl) rfl (by kernel_rfl) (by decide) (by kernel_rfl) (by kernel_rfl) fun x r h => ⟨0, (ex15 0 x.1 x.2.1).trans h⟩
theorem ex3 (fuel : Nat) (x0 : (g3.args.getD 0 (.v (.ty .bool))).T) (x1 : (g3.args.getD 1 (.v (.ty .bool))).T) (x2 : (g3.args.getD 2 (.v (.ty .bool))).T) (x3 : (g3.args.getD 3 (.v (.ty .bool))).T) (x4 : (g3.args.getD 4 (.v (.ty .bool))).T) (x5 : (g3.args.getD 5 (.v (.ty .bool))).T) : call G MT3 FT3 IT3 8 g3 93 [.tmp 12] c3 h3 fuel (x0, x1, x2, x3, x4, x5, ()) = sh3 fuel x0 x1 x2 x3 x4 x5 := by kernel_rfl
theorem fo3 : funOk Try.prog 3 = true := by kernel_rfl
theorem it3 : ITok Try.prog IT3 := ITok_nil
theorem mt3 : MtOk Try.prog MT3 := MtOk_nil
theorem ft3 : FTok Try.prog FT3 := FTok_cons fo6 tc6 (FTok_cons fo7 tc7 (FTok_cons fo8 tc8 (FTok_cons fo9 tc9 (FTok_cons fo10 tc10 (FTok_cons fo12 tc12 (FTok_cons fo13 tc13 (FTok_cons fo11 tc11 (FTok_cons fo14 tc14 (FTok_cons fo15 tc15 (FTok_nil))))))))))
theorem tc3 : TC Try.prog 3 ⟨g3, sp3⟩ := tc_of (N := 93) (rv := [.tmp 12]) (c := c3) (h := h3) good mt3 it3 ft3 wide Try.func3 (by kernel_rfl) rfl (by kernel_rfl) (by decide) (by kernel_rfl) (by kernel_rfl) fun x r h => ⟨0, (ex3 0 x.1 x.2.1 x.2.2.1 x.2.2.2.1 x.2.2.2.2.1 x.2.2.2.2.2.1).trans h⟩
theorem ex4 (fuel : Nat) (x0 : (g4.args.getD 0 (.v (.ty .bool))).T) : call G MT4 FT4 IT4 8 g4 111 [.tmp 2] c4 h4 fuel (x0, ()) = sh4 fuel x0 := by kernel_rfl
theorem fo4 : funOk Try.prog 4 = true := by kernel_rfl
theorem it4 : ITok Try.prog IT4 := ITok_nil
theorem mt4 : MtOk Try.prog MT4 := MtOk_nil
theorem ft4 : FTok Try.prog FT4 := FTok_cons fo7 tc7 (FTok_cons fo12 tc12 (FTok_cons fo14 tc14 (FTok_cons fo6 tc6 (FTok_nil))))
theorem tc4 : TC Try.prog 4 ⟨g4, sp4⟩ := tc_of (N := 111) (rv := [.tmp 2]) (c := c4) (h := h4) good mt4 it4 ft4 wide Try.func4 (by kernel_rfl) rfl (by kernel_rfl) (by decide) (by kernel_rfl) (by kernel_rfl) fun x r h => (lo4 x r h).imp fun fuel hf => (ex4 fuel x.1).trans hf
theorem ex5 (fuel : Nat) (x0 : (g5.args.getD 0 (.v (.ty .bool))).T) (x1 : (g5.args.getD 1 (.v (.ty .bool))).T) (x2 : (g5.args.getD 2 (.v (.ty .bool))).T) (x3 : (g5.args.getD 3 (.v (.ty .bool))).T) : call G MT5 FT5 IT5 8 g5 63 [.tmp 8] c5 h5 fuel (x0, x1, x2, x3, ()) = sh5 fuel x0 x1 x2 x3 := by kernel_rfl
theorem fo5 : funOk Try.prog 5 = true := by kernel_rfl
theorem it5 : ITok Try.prog IT5 := ITok_nil
theorem mt5 : MtOk Try.prog MT5 := MtOk_nil
theorem ft5 : FTok Try.prog FT5 := FTok_cons fo8 tc8 (FTok_cons fo9 tc9 (FTok_cons fo6 tc6 (FTok_nil)))
theorem tc5 : TC Try.prog 5 ⟨g5, sp5⟩ := tc_of (N := 63) (rv := [.tmp 8]) (c := c5) (h := h5) good mt5 it5 ft5 wide Try.func5 (by kernel_rfl) rfl (by kernel_rfl) (by decide) (by kernel_rfl) (by kernel_rfl) fun x r h => ⟨0, (ex5 0 x.1 x.2.1 x.2.2.1 x.2.2.2.1).trans h⟩
end Go.Proofs.Ytkppmjplkjakkaa
