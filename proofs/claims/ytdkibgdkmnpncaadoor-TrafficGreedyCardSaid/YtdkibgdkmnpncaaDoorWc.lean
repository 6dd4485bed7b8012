/- Walks: the functions of the program, each as a typed contract. -/
import Derived.Test.YtdkibgdkmnpncaaDoorH6
import Derived.Test.YtdkibgdkmnpncaaDoorH11
import Derived.KernelRfl
open Go Go.Proofs Go.Abs
set_option linter.unusedVariables false
set_option maxRecDepth 100000
namespace Go.Proofs.YtdkibgdkmnpncaaDoor
theorem fo7 : funOk Tryd.prog 7 = true := by kernel_rfl
theorem tc7 : TC Tryd.prog 7 ⟨g7, sp7⟩ := tk 0 h7 (FTok_nil) Tryd.func7 (by kernel_rfl) (by kernel_rfl) fun x => by kernel_rfl
theorem fo34 : funOk Tryd.prog 34 = true := by kernel_rfl
theorem tc34 : TC Tryd.prog 34 ⟨g34, sp34⟩ := tk 0 h34 (FTok_nil) Tryd.func34 (by kernel_rfl) (by kernel_rfl) fun x => by kernel_rfl
theorem fo33 : funOk Tryd.prog 33 = true := by kernel_rfl
theorem tc33 : TC Tryd.prog 33 ⟨g33, sp33⟩ := tk 0 h33 (FTok_nil) Tryd.func33 (by kernel_rfl) (by kernel_rfl) fun x => by kernel_rfl
theorem fo18 : funOk Tryd.prog 18 = true := by kernel_rfl
theorem tc18 : TC Tryd.prog 18 ⟨g18, sp18⟩ := tk 0 h18 (FTok_cons fo34 tc34 (FTok_cons fo33 tc33 (FTok_nil))) Tryd.func18 (by kernel_rfl) (by kernel_rfl) fun x => by kernel_rfl
theorem fo17 : funOk Tryd.prog 17 = true := by kernel_rfl
theorem tc17 : TC Tryd.prog 17 ⟨g17, sp17⟩ := tk 0 h17 (FTok_cons fo18 tc18 (FTok_nil)) Tryd.func17 (by kernel_rfl) (by kernel_rfl) fun x => by kernel_rfl
theorem fo25 : funOk Tryd.prog 25 = true := by kernel_rfl
theorem tc25 : TC Tryd.prog 25 ⟨g25, sp25⟩ := tk 0 h25 (FTok_cons fo18 tc18 (FTok_nil)) Tryd.func25 (by kernel_rfl) (by kernel_rfl) fun x => by kernel_rfl
theorem fo39 : funOk Tryd.prog 39 = true := by kernel_rfl
theorem tc39 : TC Tryd.prog 39 ⟨g39, sp39⟩ := tk 100000 h39 (FTok_cons fo18 tc18 (FTok_nil)) Tryd.func39 (by kernel_rfl) (by kernel_rfl) fun x => (show ∀ n, call G [] _ [] 8 g39 Tryd.f39.ntmps Tryd.f39.results.toList (bd Tryd.f39) h39 n x = sh39 n x.1 x.2.1 x.2.2.1 from fun n => by kernel_rfl) 100000
theorem fo22 : funOk Tryd.prog 22 = true := by kernel_rfl
theorem tc22 : TC Tryd.prog 22 ⟨g22, sp22⟩ := tk 0 h22 (FTok_cons fo25 tc25 (FTok_cons fo17 tc17 (FTok_cons fo39 tc39 (FTok_nil)))) Tryd.func22 (by kernel_rfl) (by kernel_rfl) fun x => by kernel_rfl
theorem fo24 : funOk Tryd.prog 24 = true := by kernel_rfl
theorem tc24 : TC Tryd.prog 24 ⟨g24, sp24⟩ := tk 100000 h24 (FTok_cons fo18 tc18 (FTok_nil)) Tryd.func24 (by kernel_rfl) (by kernel_rfl) fun x => (show ∀ n, call G [] _ [] 8 g24 Tryd.f24.ntmps Tryd.f24.results.toList (bd Tryd.f24) h24 n x = sh24 n x.1 x.2.1 from fun n => by kernel_rfl) 100000
theorem fo8 : funOk Tryd.prog 8 = true := by kernel_rfl
theorem tc8 : TC Tryd.prog 8 ⟨g8, sp8⟩ := tk 100000 h8 (FTok_cons fo17 tc17 (FTok_cons fo22 tc22 (FTok_cons fo18 tc18 (FTok_cons fo23 tc23 (FTok_cons fo24 tc24 (FTok_nil)))))) Tryd.func8 (by kernel_rfl) (by kernel_rfl) fun x => (show ∀ n, call G [] _ [] 8 g8 Tryd.f8.ntmps Tryd.f8.results.toList (bd Tryd.f8) h8 n x = sh8 n x.1 from fun n => by kernel_rfl) 100000
theorem fo9 : funOk Tryd.prog 9 = true := by kernel_rfl
theorem tc9 : TC Tryd.prog 9 ⟨g9, sp9⟩ := tk 100000 h9 (FTok_cons fo18 tc18 (FTok_nil)) Tryd.func9 (by kernel_rfl) (by kernel_rfl) fun x => (show ∀ n, call G [] _ [] 8 g9 Tryd.f9.ntmps Tryd.f9.results.toList (bd Tryd.f9) h9 n x = sh9 n x.1 x.2.1 x.2.2.1 from fun n => by kernel_rfl) 100000
theorem fo10 : funOk Tryd.prog 10 = true := by kernel_rfl
theorem tc10 : TC Tryd.prog 10 ⟨g10, sp10⟩ := tk 100000 h10 (FTok_cons fo18 tc18 (FTok_cons fo25 tc25 (FTok_nil))) Tryd.func10 (by kernel_rfl) (by kernel_rfl) fun x => (show ∀ n, call G [] _ [] 8 g10 Tryd.f10.ntmps Tryd.f10.results.toList (bd Tryd.f10) h10 n x = sh10 n x.1 x.2.1 from fun n => by kernel_rfl) 100000
theorem fo12 : funOk Tryd.prog 12 = true := by kernel_rfl
theorem tc12 : TC Tryd.prog 12 ⟨g12, sp12⟩ := tk 100000 h12 (FTok_cons fo18 tc18 (FTok_cons fo17 tc17 (FTok_nil))) Tryd.func12 (by kernel_rfl) (by kernel_rfl) fun x => (show ∀ n, call G [] _ [] 8 g12 Tryd.f12.ntmps Tryd.f12.results.toList (bd Tryd.f12) h12 n x = sh12 n x.1 x.2.1 x.2.2.1 from fun n => by kernel_rfl) 100000
theorem fo91 : funOk Tryd.prog 91 = true := by kernel_rfl
theorem tc91 : TC Tryd.prog 91 ⟨g91, sp91⟩ := tk 0 h91 (FTok_nil) Tryd.func91 (by kernel_rfl) (by kernel_rfl) fun x => by kernel_rfl
theorem fo94 : funOk Tryd.prog 94 = true := by kernel_rfl
theorem tc94 : TC Tryd.prog 94 ⟨g94, sp94⟩ := tk 0 h94 (FTok_nil) Tryd.func94 (by kernel_rfl) (by kernel_rfl) fun x => by kernel_rfl
theorem ex79 (fuel : Nat) (x0 : (g79.args.getD 0 (.v (.ty .bool))).T) (x1 : (g79.args.getD 1 (.v (.ty .bool))).T) : call G MT79 FT79 IT79 8 g79 22 [.tmp 4] c79 h79 fuel (x0, x1, ()) = sh79 fuel x0 x1 := by kernel_rfl
theorem fo79 : funOk Tryd.prog 79 = true := by kernel_rfl
theorem fo92 : funOk Tryd.prog 92 = true := by kernel_rfl
theorem fo93 : funOk Tryd.prog 93 = true := by kernel_rfl
theorem it79 : ITok Tryd.prog IT79 := ITok_cons fo92 Tryd.func92 (by kernel_rfl) rfl (by kernel_rfl) (ITok_cons fo93 Tryd.func93 (by kernel_rfl) rfl (by kernel_rfl) (ITok_nil))
theorem mt79 : MtOk Tryd.prog MT79 := MtOk_nil
theorem ft79 : FTok Tryd.prog FT79 := FTok_cons fo91 tc91 (FTok_cons fo94 tc94 (FTok_nil))
theorem tc79 : TC Tryd.prog 79 ⟨g79, sp79⟩ := tc_of (N := 22) (rv := [.tmp 4]) (c := c79) (h := h79) good mt79 it79 ft79 wide Tryd.func79 (by kernel_rfl) rfl (by kernel_rfl) (by decide) (by kernel_rfl) (by kernel_rfl) fun x r h => ⟨100000, (ex79 100000 x.1 x.2.1).trans h⟩
theorem fo80 : funOk Tryd.prog 80 = true := by kernel_rfl
theorem tc80 : TC Tryd.prog 80 ⟨g80, sp80⟩ := tk 0 h80 (FTok_cons fo48 tc48 (FTok_nil)) Tryd.func80 (by kernel_rfl) (by kernel_rfl) fun x => by kernel_rfl
theorem fo95 : funOk Tryd.prog 95 = true := by kernel_rfl
theorem tc95 : TC Tryd.prog 95 ⟨g95, sp95⟩ := tk 0 h95 (FTok_nil) Tryd.func95 (by kernel_rfl) (by kernel_rfl) fun x => by kernel_rfl
theorem fo81 : funOk Tryd.prog 81 = true := by kernel_rfl
theorem tc81 : TC Tryd.prog 81 ⟨g81, sp81⟩ := tk 100000 h81 (FTok_cons fo95 tc95 (FTok_cons fo66 tc66 (FTok_nil))) Tryd.func81 (by kernel_rfl) (by kernel_rfl) fun x => (show ∀ n, call G [] _ [] 8 g81 Tryd.f81.ntmps Tryd.f81.results.toList (bd Tryd.f81) h81 n x = sh81 n x.1 x.2.1 from fun n => by kernel_rfl) 100000
theorem fo57 : funOk Tryd.prog 57 = true := by kernel_rfl
theorem tc57 : TC Tryd.prog 57 ⟨g57, sp57⟩ := tk 0 h57 (FTok_cons fo79 tc79 (FTok_cons fo80 tc80 (FTok_cons fo81 tc81 (FTok_nil)))) Tryd.func57 (by kernel_rfl) (by kernel_rfl) fun x => by kernel_rfl
theorem fo58 : funOk Tryd.prog 58 = true := by kernel_rfl
theorem tc58 : TC Tryd.prog 58 ⟨g58, sp58⟩ := tk 100000 h58 (FTok_nil) Tryd.func58 (by kernel_rfl) (by kernel_rfl) fun x => (show ∀ n, call G [] _ [] 8 g58 Tryd.f58.ntmps Tryd.f58.results.toList (bd Tryd.f58) h58 n x = sh58 n x.1 from fun n => by kernel_rfl) 100000
theorem ex82 (fuel : Nat) (x0 : (g82.args.getD 0 (.v (.ty .bool))).T) (x1 : (g82.args.getD 1 (.v (.ty .bool))).T) : call G MT82 FT82 IT82 8 g82 9 [.tmp 4] c82 h82 fuel (x0, x1, ()) = sh82 fuel x0 x1 := by kernel_rfl
theorem fo82 : funOk Tryd.prog 82 = true := by kernel_rfl
theorem fo84 : funOk Tryd.prog 84 = true := by kernel_rfl
theorem fo96 : funOk Tryd.prog 96 = true := by kernel_rfl
theorem it82 : ITok Tryd.prog IT82 := ITok_cons fo84 Tryd.func84 (by kernel_rfl) rfl (by kernel_rfl) (ITok_cons fo96 Tryd.func96 (by kernel_rfl) rfl (by kernel_rfl) (ITok_nil))
theorem mt82 : MtOk Tryd.prog MT82 := MtOk_nil
theorem ft82 : FTok Tryd.prog FT82 := FTok_nil
theorem tc82 : TC Tryd.prog 82 ⟨g82, sp82⟩ := tc_of (N := 9) (rv := [.tmp 4]) (c := c82) (h := h82) good mt82 it82 ft82 wide Tryd.func82 (by kernel_rfl) rfl (by kernel_rfl) (by decide) (by kernel_rfl) (by kernel_rfl) fun x r h => ⟨100000, (ex82 100000 x.1 x.2.1).trans h⟩
theorem fo59 : funOk Tryd.prog 59 = true := by kernel_rfl
theorem tc59 : TC Tryd.prog 59 ⟨g59, sp59⟩ := tk 100000 h59 (FTok_cons fo82 tc82 (FTok_nil)) Tryd.func59 (by kernel_rfl) (by kernel_rfl) fun x => (show ∀ n, call G [] _ [] 8 g59 Tryd.f59.ntmps Tryd.f59.results.toList (bd Tryd.f59) h59 n x = sh59 n x.1 from fun n => by kernel_rfl) 100000
theorem fo60 : funOk Tryd.prog 60 = true := by kernel_rfl
theorem tc60 : TC Tryd.prog 60 ⟨g60, sp60⟩ := tk 100000 h60 (FTok_nil) Tryd.func60 (by kernel_rfl) (by kernel_rfl) fun x => (show ∀ n, call G [] _ [] 8 g60 Tryd.f60.ntmps Tryd.f60.results.toList (bd Tryd.f60) h60 n x = sh60 n x.1 x.2.1 from fun n => by kernel_rfl) 100000
theorem fo61 : funOk Tryd.prog 61 = true := by kernel_rfl
theorem tc61 : TC Tryd.prog 61 ⟨g61, sp61⟩ := tk 100000 h61 (FTok_nil) Tryd.func61 (by kernel_rfl) (by kernel_rfl) fun x => (show ∀ n, call G [] _ [] 8 g61 Tryd.f61.ntmps Tryd.f61.results.toList (bd Tryd.f61) h61 n x = sh61 n x.1 from fun n => by kernel_rfl) 100000
theorem fo97 : funOk Tryd.prog 97 = true := by kernel_rfl
theorem tc97 : TC Tryd.prog 97 ⟨g97, sp97⟩ := tk 100000 h97 (FTok_nil) Tryd.func97 (by kernel_rfl) (by kernel_rfl) fun x => (show ∀ n, call G [] _ [] 8 g97 Tryd.f97.ntmps Tryd.f97.results.toList (bd Tryd.f97) h97 n x = sh97 n x.1 x.2.1 from fun n => by kernel_rfl) 100000
theorem fo83 : funOk Tryd.prog 83 = true := by kernel_rfl
theorem tc83 : TC Tryd.prog 83 ⟨g83, sp83⟩ := tk 0 h83 (FTok_cons fo97 tc97 (FTok_nil)) Tryd.func83 (by kernel_rfl) (by kernel_rfl) fun x => by kernel_rfl
theorem fo62 : funOk Tryd.prog 62 = true := by kernel_rfl
theorem tc62 : TC Tryd.prog 62 ⟨g62, sp62⟩ := tk 100000 h62 (FTok_cons fo83 tc83 (FTok_nil)) Tryd.func62 (by kernel_rfl) (by kernel_rfl) fun x => (show ∀ n, call G [] _ [] 8 g62 Tryd.f62.ntmps Tryd.f62.results.toList (bd Tryd.f62) h62 n x = sh62 n x.1 from fun n => by kernel_rfl) 100000
theorem ex40 (fuel : Nat) (x0 : (g40.args.getD 0 (.v (.ty .bool))).T) : call G MT40 FT40 IT40 8 g40 65 [.tmp 2] c40 h40 fuel (x0, ()) = sh40 fuel x0 := by kernel_rfl
theorem fo40 : funOk Tryd.prog 40 = true := by kernel_rfl
theorem fo63 : funOk Tryd.prog 63 = true := by kernel_rfl
theorem fo64 : funOk Tryd.prog 64 = true := by kernel_rfl
theorem it40 : ITok Tryd.prog IT40 := ITok_cons fo63 Tryd.func63 (by kernel_rfl) rfl (by kernel_rfl) (ITok_cons fo84 Tryd.func84 (by kernel_rfl) rfl (by kernel_rfl) (ITok_cons fo64 Tryd.func64 (by kernel_rfl) rfl (by kernel_rfl) (ITok_nil)))
theorem mt40 : MtOk Tryd.prog MT40 := MtOk_nil
theorem ft40 : FTok Tryd.prog FT40 := FTok_cons fo57 tc57 (FTok_cons fo58 tc58 (FTok_cons fo59 tc59 (FTok_cons fo60 tc60 (FTok_cons fo61 tc61 (FTok_cons fo62 tc62 (FTok_nil))))))
theorem tc40 : TC Tryd.prog 40 ⟨g40, sp40⟩ := tc_of (N := 65) (rv := [.tmp 2]) (c := c40) (h := h40) good mt40 it40 ft40 wide Tryd.func40 (by kernel_rfl) rfl (by kernel_rfl) (by decide) (by kernel_rfl) (by kernel_rfl) fun x r h => ⟨100000, (ex40 100000 x.1).trans h⟩
theorem fo41 : funOk Tryd.prog 41 = true := by kernel_rfl
theorem tc41 : TC Tryd.prog 41 ⟨g41, sp41⟩ := tk 0 h41 (FTok_cons fo40 tc40 (FTok_cons fo61 tc61 (FTok_nil))) Tryd.func41 (by kernel_rfl) (by kernel_rfl) fun x => by kernel_rfl
theorem fo27 : funOk Tryd.prog 27 = true := by kernel_rfl
theorem tc27 : TC Tryd.prog 27 ⟨g27, sp27⟩ := tk 100000 h27 (FTok_nil) Tryd.func27 (by kernel_rfl) (by kernel_rfl) fun x => (show ∀ n, call G [] _ [] 8 g27 Tryd.f27.ntmps Tryd.f27.results.toList (bd Tryd.f27) h27 n x = sh27 n x.1 x.2.1 from fun n => by kernel_rfl) 100000
theorem fo42 : funOk Tryd.prog 42 = true := by kernel_rfl
theorem tc42 : TC Tryd.prog 42 ⟨g42, sp42⟩ := tk 0 h42 (FTok_cons fo48 tc48 (FTok_nil)) Tryd.func42 (by kernel_rfl) (by kernel_rfl) fun x => by kernel_rfl
theorem ex28 (fuel : Nat) (x0 : (g28.args.getD 0 (.v (.ty .bool))).T) (x1 : (g28.args.getD 1 (.v (.ty .bool))).T) (x2 : (g28.args.getD 2 (.v (.ty .bool))).T) : call G MT28 FT28 IT28 8 g28 108 [.tmp 6] c28 h28 fuel (x0, x1, x2, ()) = sh28 fuel x0 x1 x2 := by kernel_rfl
theorem fo28 : funOk Tryd.prog 28 = true := by kernel_rfl
theorem fo43 : funOk Tryd.prog 43 = true := by kernel_rfl
theorem fo65 : funOk Tryd.prog 65 = true := by kernel_rfl
theorem fo44 : funOk Tryd.prog 44 = true := by kernel_rfl
theorem it28 : ITok Tryd.prog IT28 := ITok_cons fo43 Tryd.func43 (by kernel_rfl) rfl (by kernel_rfl) (ITok_cons fo65 Tryd.func65 (by kernel_rfl) rfl (by kernel_rfl) (ITok_cons fo44 Tryd.func44 (by kernel_rfl) rfl (by kernel_rfl) (ITok_nil)))
theorem mt28 : MtOk Tryd.prog MT28 := MtOk_nil
theorem ft28 : FTok Tryd.prog FT28 := FTok_cons fo42 tc42 (FTok_nil)
theorem tc28 : TC Tryd.prog 28 ⟨g28, sp28⟩ := tc_of (N := 108) (rv := [.tmp 6]) (c := c28) (h := h28) good mt28 it28 ft28 wide Tryd.func28 (by kernel_rfl) rfl (by kernel_rfl) (by decide) (by kernel_rfl) (by kernel_rfl) fun x r h => ⟨100000, (ex28 100000 x.1 x.2.1 x.2.2.1).trans h⟩
theorem ex11 (fuel : Nat) (x0 : (g11.args.getD 0 (.v (.ty .bool))).T) (x1 : (g11.args.getD 1 (.v (.ty .bool))).T) (x2 : (g11.args.getD 2 (.v (.ty .bool))).T) (x3 : (g11.args.getD 3 (.v (.ty .bool))).T) : call G MT11 FT11 IT11 8 g11 40 [.cell 8 36, .tmp 9] c11 h11 fuel (x0, x1, x2, x3, ()) = sh11 fuel x0 x1 x2 x3 := by kernel_rfl
theorem fo11 : funOk Tryd.prog 11 = true := by kernel_rfl
theorem fo26 : funOk Tryd.prog 26 = true := by kernel_rfl
theorem it11 : ITok Tryd.prog IT11 := ITok_cons fo26 Tryd.func26 (by kernel_rfl) rfl (by kernel_rfl) (ITok_nil)
theorem mt11 : MtOk Tryd.prog MT11 := MtOk_nil
theorem ft11 : FTok Tryd.prog FT11 := FTok_cons fo40 tc40 (FTok_cons fo41 tc41 (FTok_cons fo27 tc27 (FTok_cons fo28 tc28 (FTok_cons fo29 tc29 (FTok_nil)))))
theorem tc11 : TC Tryd.prog 11 ⟨g11, sp11⟩ := tc_of (N := 40) (rv := [.cell 8 36, .tmp 9]) (c := c11) (h := h11) good mt11 it11 ft11 wide Tryd.func11 (by kernel_rfl) rfl (by kernel_rfl) (by decide) (by kernel_rfl) (by kernel_rfl) fun x r h => ⟨0, (ex11 0 x.1 x.2.1 x.2.2.1 x.2.2.2.1).trans h⟩
theorem fo50 : funOk Tryd.prog 50 = true := by kernel_rfl
theorem tc50 : TC Tryd.prog 50 ⟨g50, sp50⟩ := tk 100000 h50 (FTok_nil) Tryd.func50 (by kernel_rfl) (by kernel_rfl) fun x => (show ∀ n, call G [] _ [] 8 g50 Tryd.f50.ntmps Tryd.f50.results.toList (bd Tryd.f50) h50 n x = sh50 n x.1 x.2.1 from fun n => by kernel_rfl) 100000
theorem fo87 : funOk Tryd.prog 87 = true := by kernel_rfl
theorem tc87 : TC Tryd.prog 87 ⟨g87, sp87⟩ := tk 100000 h87 (FTok_nil) Tryd.func87 (by kernel_rfl) (by kernel_rfl) fun x => (show ∀ n, call G [] _ [] 8 g87 Tryd.f87.ntmps Tryd.f87.results.toList (bd Tryd.f87) h87 n x = sh87 n x.1 from fun n => by kernel_rfl) 100000
theorem fo88 : funOk Tryd.prog 88 = true := by kernel_rfl
theorem tc88 : TC Tryd.prog 88 ⟨g88, sp88⟩ := tk 100000 h88 (FTok_nil) Tryd.func88 (by kernel_rfl) (by kernel_rfl) fun x => (show ∀ n, call G [] _ [] 8 g88 Tryd.f88.ntmps Tryd.f88.results.toList (bd Tryd.f88) h88 n x = sh88 n x.1 from fun n => by kernel_rfl) 100000
theorem fo71 : funOk Tryd.prog 71 = true := by kernel_rfl
theorem tc71 : TC Tryd.prog 71 ⟨g71, sp71⟩ := tk 0 h71 (FTok_cons fo87 tc87 (FTok_cons fo88 tc88 (FTok_nil))) Tryd.func71 (by kernel_rfl) (by kernel_rfl) fun x => by kernel_rfl
theorem fo89 : funOk Tryd.prog 89 = true := by kernel_rfl
theorem tc89 : TC Tryd.prog 89 ⟨g89, sp89⟩ := tk 0 h89 (FTok_nil) Tryd.func89 (by kernel_rfl) (by kernel_rfl) fun x => by kernel_rfl
theorem fo90 : funOk Tryd.prog 90 = true := by kernel_rfl
theorem tc90 : TC Tryd.prog 90 ⟨g90, sp90⟩ := tk 0 h90 (FTok_nil) Tryd.func90 (by kernel_rfl) (by kernel_rfl) fun x => by kernel_rfl
theorem fo72 : funOk Tryd.prog 72 = true := by kernel_rfl
theorem tc72 : TC Tryd.prog 72 ⟨g72, sp72⟩ := tk 100000 h72 (FTok_cons fo89 tc89 (FTok_cons fo90 tc90 (FTok_nil))) Tryd.func72 (by kernel_rfl) (by kernel_rfl) fun x => (show ∀ n, call G [] _ [] 8 g72 Tryd.f72.ntmps Tryd.f72.results.toList (bd Tryd.f72) h72 n x = sh72 n x.1 from fun n => by kernel_rfl) 100000
theorem fo73 : funOk Tryd.prog 73 = true := by kernel_rfl
theorem tc73 : TC Tryd.prog 73 ⟨g73, sp73⟩ := tk 0 h73 (FTok_nil) Tryd.func73 (by kernel_rfl) (by kernel_rfl) fun x => by kernel_rfl
theorem fo51 : funOk Tryd.prog 51 = true := by kernel_rfl
theorem tc51 : TC Tryd.prog 51 ⟨g51, sp51⟩ := tk 100000 h51 (FTok_cons fo50 tc50 (FTok_cons fo71 tc71 (FTok_cons fo72 tc72 (FTok_cons fo73 tc73 (FTok_cons fo13 tc13 (FTok_nil)))))) Tryd.func51 (by kernel_rfl) (by kernel_rfl) fun x => (show ∀ n, call G [] _ [] 8 g51 Tryd.f51.ntmps Tryd.f51.results.toList (bd Tryd.f51) h51 n x = sh51 n x.1 from fun n => by kernel_rfl) 100000
theorem fo52 : funOk Tryd.prog 52 = true := by kernel_rfl
theorem tc52 : TC Tryd.prog 52 ⟨g52, sp52⟩ := tk 100000 h52 (FTok_nil) Tryd.func52 (by kernel_rfl) (by kernel_rfl) fun x => (show ∀ n, call G [] _ [] 8 g52 Tryd.f52.ntmps Tryd.f52.results.toList (bd Tryd.f52) h52 n x = sh52 n x.1 x.2.1 from fun n => by kernel_rfl) 100000
theorem fo77 : funOk Tryd.prog 77 = true := by kernel_rfl
theorem tc77 : TC Tryd.prog 77 ⟨g77, sp77⟩ := tk 0 h77 (FTok_nil) Tryd.func77 (by kernel_rfl) (by kernel_rfl) fun x => by kernel_rfl
theorem fo74 : funOk Tryd.prog 74 = true := by kernel_rfl
theorem tc74 : TC Tryd.prog 74 ⟨g74, sp74⟩ := tk 100000 h74 (FTok_cons fo72 tc72 (FTok_cons fo77 tc77 (FTok_cons fo13 tc13 (FTok_cons fo73 tc73 (FTok_nil))))) Tryd.func74 (by kernel_rfl) (by kernel_rfl) fun x => (show ∀ n, call G [] _ [] 8 g74 Tryd.f74.ntmps Tryd.f74.results.toList (bd Tryd.f74) h74 n x = sh74 n x.1 x.2.1 from fun n => by kernel_rfl) 100000
theorem fo75 : funOk Tryd.prog 75 = true := by kernel_rfl
theorem tc75 : TC Tryd.prog 75 ⟨g75, sp75⟩ := tk 100000 h75 (FTok_nil) Tryd.func75 (by kernel_rfl) (by kernel_rfl) fun x => (show ∀ n, call G [] _ [] 8 g75 Tryd.f75.ntmps Tryd.f75.results.toList (bd Tryd.f75) h75 n x = sh75 n x.1 from fun n => by kernel_rfl) 100000
theorem fo76 : funOk Tryd.prog 76 = true := by kernel_rfl
theorem tc76 : TC Tryd.prog 76 ⟨g76, sp76⟩ := tk 100000 h76 (FTok_nil) Tryd.func76 (by kernel_rfl) (by kernel_rfl) fun x => (show ∀ n, call G [] _ [] 8 g76 Tryd.f76.ntmps Tryd.f76.results.toList (bd Tryd.f76) h76 n x = sh76 n x.1 from fun n => by kernel_rfl) 100000
theorem fo78 : funOk Tryd.prog 78 = true := by kernel_rfl
theorem tc78 : TC Tryd.prog 78 ⟨g78, sp78⟩ := tk 0 h78 (FTok_cons fo23 tc23 (FTok_nil)) Tryd.func78 (by kernel_rfl) (by kernel_rfl) fun x => by kernel_rfl
theorem fo56 : funOk Tryd.prog 56 = true := by kernel_rfl
theorem tc56 : TC Tryd.prog 56 ⟨g56, sp56⟩ := tk 100000 h56 (FTok_cons fo23 tc23 (FTok_cons fo78 tc78 (FTok_nil))) Tryd.func56 (by kernel_rfl) (by kernel_rfl) fun x => (show ∀ n, call G [] _ [] 8 g56 Tryd.f56.ntmps Tryd.f56.results.toList (bd Tryd.f56) h56 n x = sh56 n x.1 from fun n => by kernel_rfl) 100000
theorem fo53 : funOk Tryd.prog 53 = true := by kernel_rfl
theorem tc53 : TC Tryd.prog 53 ⟨g53, sp53⟩ := tk 100000 h53 (FTok_cons fo74 tc74 (FTok_cons fo75 tc75 (FTok_cons fo52 tc52 (FTok_cons fo76 tc76 (FTok_cons fo56 tc56 (FTok_cons fo77 tc77 (FTok_nil))))))) Tryd.func53 (by kernel_rfl) (by kernel_rfl) fun x => (show ∀ n, call G [] _ [] 8 g53 Tryd.f53.ntmps Tryd.f53.results.toList (bd Tryd.f53) h53 n x = sh53 n x.1 from fun n => by kernel_rfl) 100000
theorem fo30 : funOk Tryd.prog 30 = true := by kernel_rfl
theorem tc30 : TC Tryd.prog 30 ⟨g30, sp30⟩ := tk 100000 h30 (FTok_cons fo50 tc50 (FTok_cons fo51 tc51 (FTok_cons fo52 tc52 (FTok_cons fo53 tc53 (FTok_nil))))) Tryd.func30 (by kernel_rfl) (by kernel_rfl) fun x => (show ∀ n, call G [] _ [] 8 g30 Tryd.f30.ntmps Tryd.f30.results.toList (bd Tryd.f30) h30 n x = sh30 n x.1 from fun n => by kernel_rfl) 100000
theorem fo20 : funOk Tryd.prog 20 = true := by kernel_rfl
theorem tc20 : TC Tryd.prog 20 ⟨g20, sp20⟩ := tk 100000 h20 (FTok_nil) Tryd.func20 (by kernel_rfl) (by kernel_rfl) fun x => (show ∀ n, call G [] _ [] 8 g20 Tryd.f20.ntmps Tryd.f20.results.toList (bd Tryd.f20) h20 n x = sh20 n x.1 x.2.1 from fun n => by kernel_rfl) 100000
theorem fo14 : funOk Tryd.prog 14 = true := by kernel_rfl
theorem tc14 : TC Tryd.prog 14 ⟨g14, sp14⟩ := tk 0 h14 (FTok_cons fo30 tc30 (FTok_cons fo11 tc11 (FTok_cons fo20 tc20 (FTok_nil)))) Tryd.func14 (by kernel_rfl) (by kernel_rfl) fun x => by kernel_rfl
theorem ex15 (fuel : Nat) (x0 : (g15.args.getD 0 (.v (.ty .bool))).T) (x1 : (g15.args.getD 1 (.v (.ty .bool))).T) : call G MT15 FT15 IT15 8 g15 37 [.tmp 4] c15 h15 fuel (x0, x1, ()) = sh15 fuel x0 x1 := by kernel_rfl
theorem fo15 : funOk Tryd.prog 15 = true := by kernel_rfl
theorem it15 : ITok Tryd.prog IT15 := ITok_cons fo26 Tryd.func26 (by kernel_rfl) rfl (by kernel_rfl) (ITok_nil)
theorem mt15 : MtOk Tryd.prog MT15 := MtOk_nil
theorem ft15 : FTok Tryd.prog FT15 := FTok_cons fo40 tc40 (FTok_cons fo41 tc41 (FTok_cons fo27 tc27 (FTok_cons fo31 tc31 (FTok_nil))))
theorem tc15 : TC Tryd.prog 15 ⟨g15, sp15⟩ := tc_of (N := 37) (rv := [.tmp 4]) (c := c15) (h := h15) good mt15 it15 ft15 wide Tryd.func15 (by kernel_rfl) rfl (by kernel_rfl) (by decide) (by kernel_rfl) (by kernel_rfl) fun x r h => ⟨100000, (ex15 100000 x.1 x.2.1).trans h⟩
theorem fo6 : funOk Tryd.prog 6 = true := by kernel_rfl
theorem tc6 : TC Tryd.prog 6 ⟨g6, sp6⟩ := tk 100000 h6 (FTok_cons fo7 tc7 (FTok_cons fo8 tc8 (FTok_cons fo9 tc9 (FTok_cons fo10 tc10 (FTok_cons fo12 tc12 (FTok_cons fo11 tc11 (FTok_cons fo15 tc15 (FTok_cons fo21 tc21 (FTok_cons fo14 tc14 (FTok_nil)))))))))) Tryd.func6 (by kernel_rfl) (by kernel_rfl) fun x => (show ∀ n, call G [] _ [] 8 g6 Tryd.f6.ntmps Tryd.f6.results.toList (bd Tryd.f6) h6 n x = sh6 n x.1 from fun n => by kernel_rfl) 100000
end Go.Proofs.YtdkibgdkmnpncaaDoor
