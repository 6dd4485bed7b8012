/- Walks: the functions of the program, each as a typed contract. -/
import Derived.Test.YtjpikgfknnamjaaDoorWh
import Derived.KernelRfl
open Go Go.Proofs Go.Abs
set_option linter.unusedVariables false
set_option maxRecDepth 100000
namespace Go.Proofs.YtjpikgfknnamjaaDoor
theorem fo45 : funOk Tryd.prog 45 = true := by kernel_rfl
theorem tc45 : TC Tryd.prog 45 ⟨g45, sp45⟩ := tk 100000 h45 (FTok_nil) Tryd.func45 (by kernel_rfl) (by kernel_rfl) fun x => (show ∀ n, call G [] _ [] 8 g45 Tryd.f45.ntmps Tryd.f45.results.toList (bd Tryd.f45) h45 n x = sh45 n x.1 x.2.1 from fun n => by kernel_rfl) 100000
theorem fo75 : funOk Tryd.prog 75 = true := by kernel_rfl
theorem tc75 : TC Tryd.prog 75 ⟨g75, sp75⟩ := tk 100000 h75 (FTok_nil) Tryd.func75 (by kernel_rfl) (by kernel_rfl) fun x => (show ∀ n, call G [] _ [] 8 g75 Tryd.f75.ntmps Tryd.f75.results.toList (bd Tryd.f75) h75 n x = sh75 n x.1 from fun n => by kernel_rfl) 100000
theorem fo76 : funOk Tryd.prog 76 = true := by kernel_rfl
theorem tc76 : TC Tryd.prog 76 ⟨g76, sp76⟩ := tk 100000 h76 (FTok_nil) Tryd.func76 (by kernel_rfl) (by kernel_rfl) fun x => (show ∀ n, call G [] _ [] 8 g76 Tryd.f76.ntmps Tryd.f76.results.toList (bd Tryd.f76) h76 n x = sh76 n x.1 from fun n => by kernel_rfl) 100000
theorem fo56 : funOk Tryd.prog 56 = true := by kernel_rfl
theorem tc56 : TC Tryd.prog 56 ⟨g56, sp56⟩ := tk 0 h56 (FTok_cons fo75 tc75 (FTok_cons fo76 tc76 (FTok_nil))) Tryd.func56 (by kernel_rfl) (by kernel_rfl) fun x => by kernel_rfl
theorem fo77 : funOk Tryd.prog 77 = true := by kernel_rfl
theorem tc77 : TC Tryd.prog 77 ⟨g77, sp77⟩ := tk 0 h77 (FTok_nil) Tryd.func77 (by kernel_rfl) (by kernel_rfl) fun x => by kernel_rfl
theorem fo78 : funOk Tryd.prog 78 = true := by kernel_rfl
theorem tc78 : TC Tryd.prog 78 ⟨g78, sp78⟩ := tk 0 h78 (FTok_nil) Tryd.func78 (by kernel_rfl) (by kernel_rfl) fun x => by kernel_rfl
theorem fo57 : funOk Tryd.prog 57 = true := by kernel_rfl
theorem tc57 : TC Tryd.prog 57 ⟨g57, sp57⟩ := tk 100000 h57 (FTok_cons fo77 tc77 (FTok_cons fo78 tc78 (FTok_nil))) Tryd.func57 (by kernel_rfl) (by kernel_rfl) fun x => (show ∀ n, call G [] _ [] 8 g57 Tryd.f57.ntmps Tryd.f57.results.toList (bd Tryd.f57) h57 n x = sh57 n x.1 from fun n => by kernel_rfl) 100000
theorem fo58 : funOk Tryd.prog 58 = true := by kernel_rfl
theorem tc58 : TC Tryd.prog 58 ⟨g58, sp58⟩ := tk 0 h58 (FTok_nil) Tryd.func58 (by kernel_rfl) (by kernel_rfl) fun x => by kernel_rfl
theorem fo59 : funOk Tryd.prog 59 = true := by kernel_rfl
theorem tc59 : TC Tryd.prog 59 ⟨g59, sp59⟩ := tk 0 h59 (FTok_nil) Tryd.func59 (by kernel_rfl) (by kernel_rfl) fun x => by kernel_rfl
theorem fo46 : funOk Tryd.prog 46 = true := by kernel_rfl
theorem tc46 : TC Tryd.prog 46 ⟨g46, sp46⟩ := tk 100000 h46 (FTok_cons fo45 tc45 (FTok_cons fo56 tc56 (FTok_cons fo57 tc57 (FTok_cons fo58 tc58 (FTok_cons fo59 tc59 (FTok_nil)))))) Tryd.func46 (by kernel_rfl) (by kernel_rfl) fun x => (show ∀ n, call G [] _ [] 8 g46 Tryd.f46.ntmps Tryd.f46.results.toList (bd Tryd.f46) h46 n x = sh46 n x.1 from fun n => by kernel_rfl) 100000
theorem fo47 : funOk Tryd.prog 47 = true := by kernel_rfl
theorem tc47 : TC Tryd.prog 47 ⟨g47, sp47⟩ := tk 100000 h47 (FTok_nil) Tryd.func47 (by kernel_rfl) (by kernel_rfl) fun x => (show ∀ n, call G [] _ [] 8 g47 Tryd.f47.ntmps Tryd.f47.results.toList (bd Tryd.f47) h47 n x = sh47 n x.1 x.2.1 from fun n => by kernel_rfl) 100000
theorem fo64 : funOk Tryd.prog 64 = true := by kernel_rfl
theorem tc64 : TC Tryd.prog 64 ⟨g64, sp64⟩ := tk 0 h64 (FTok_nil) Tryd.func64 (by kernel_rfl) (by kernel_rfl) fun x => by kernel_rfl
theorem fo60 : funOk Tryd.prog 60 = true := by kernel_rfl
theorem tc60 : TC Tryd.prog 60 ⟨g60, sp60⟩ := tk 100000 h60 (FTok_cons fo57 tc57 (FTok_cons fo64 tc64 (FTok_cons fo59 tc59 (FTok_cons fo58 tc58 (FTok_nil))))) Tryd.func60 (by kernel_rfl) (by kernel_rfl) fun x => (show ∀ n, call G [] _ [] 8 g60 Tryd.f60.ntmps Tryd.f60.results.toList (bd Tryd.f60) h60 n x = sh60 n x.1 x.2.1 from fun n => by kernel_rfl) 100000
theorem fo61 : funOk Tryd.prog 61 = true := by kernel_rfl
theorem tc61 : TC Tryd.prog 61 ⟨g61, sp61⟩ := tk 100000 h61 (FTok_nil) Tryd.func61 (by kernel_rfl) (by kernel_rfl) fun x => (show ∀ n, call G [] _ [] 8 g61 Tryd.f61.ntmps Tryd.f61.results.toList (bd Tryd.f61) h61 n x = sh61 n x.1 from fun n => by kernel_rfl) 100000
theorem fo62 : funOk Tryd.prog 62 = true := by kernel_rfl
theorem tc62 : TC Tryd.prog 62 ⟨g62, sp62⟩ := tk 100000 h62 (FTok_nil) Tryd.func62 (by kernel_rfl) (by kernel_rfl) fun x => (show ∀ n, call G [] _ [] 8 g62 Tryd.f62.ntmps Tryd.f62.results.toList (bd Tryd.f62) h62 n x = sh62 n x.1 from fun n => by kernel_rfl) 100000
theorem fo24 : funOk Tryd.prog 24 = true := by kernel_rfl
theorem tc24 : TC Tryd.prog 24 ⟨g24, sp24⟩ := tk 100000 h24 (FTok_nil) Tryd.func24 (by kernel_rfl) (by kernel_rfl) fun x => (show ∀ n, call G [] _ [] 8 g24 Tryd.f24.ntmps Tryd.f24.results.toList (bd Tryd.f24) h24 n x = sh24 n x.1 x.2.1 from fun n => by kernel_rfl) 100000
theorem fo79 : funOk Tryd.prog 79 = true := by kernel_rfl
theorem tc79 : TC Tryd.prog 79 ⟨g79, sp79⟩ := tk 0 h79 (FTok_cons fo24 tc24 (FTok_nil)) Tryd.func79 (by kernel_rfl) (by kernel_rfl) fun x => by kernel_rfl
theorem fo63 : funOk Tryd.prog 63 = true := by kernel_rfl
theorem tc63 : TC Tryd.prog 63 ⟨g63, sp63⟩ := tk 100000 h63 (FTok_cons fo24 tc24 (FTok_cons fo79 tc79 (FTok_nil))) Tryd.func63 (by kernel_rfl) (by kernel_rfl) fun x => (show ∀ n, call G [] _ [] 8 g63 Tryd.f63.ntmps Tryd.f63.results.toList (bd Tryd.f63) h63 n x = sh63 n x.1 from fun n => by kernel_rfl) 100000
theorem fo48 : funOk Tryd.prog 48 = true := by kernel_rfl
theorem tc48 : TC Tryd.prog 48 ⟨g48, sp48⟩ := tk 100000 h48 (FTok_cons fo60 tc60 (FTok_cons fo61 tc61 (FTok_cons fo47 tc47 (FTok_cons fo62 tc62 (FTok_cons fo63 tc63 (FTok_cons fo64 tc64 (FTok_nil))))))) Tryd.func48 (by kernel_rfl) (by kernel_rfl) fun x => (show ∀ n, call G [] _ [] 8 g48 Tryd.f48.ntmps Tryd.f48.results.toList (bd Tryd.f48) h48 n x = sh48 n x.1 from fun n => by kernel_rfl) 100000
theorem fo22 : funOk Tryd.prog 22 = true := by kernel_rfl
theorem tc22 : TC Tryd.prog 22 ⟨g22, sp22⟩ := tk 100000 h22 (FTok_cons fo45 tc45 (FTok_cons fo46 tc46 (FTok_cons fo47 tc47 (FTok_cons fo48 tc48 (FTok_nil))))) Tryd.func22 (by kernel_rfl) (by kernel_rfl) fun x => (show ∀ n, call G [] _ [] 8 g22 Tryd.f22.ntmps Tryd.f22.results.toList (bd Tryd.f22) h22 n x = sh22 n x.1 from fun n => by kernel_rfl) 100000
theorem fo86 : funOk Tryd.prog 86 = true := by kernel_rfl
theorem tc86 : TC Tryd.prog 86 ⟨g86, sp86⟩ := tk 0 h86 (FTok_nil) Tryd.func86 (by kernel_rfl) (by kernel_rfl) fun x => by kernel_rfl
theorem fo89 : funOk Tryd.prog 89 = true := by kernel_rfl
theorem tc89 : TC Tryd.prog 89 ⟨g89, sp89⟩ := tk 0 h89 (FTok_nil) Tryd.func89 (by kernel_rfl) (by kernel_rfl) fun x => by kernel_rfl
theorem ex80 (fuel : Nat) (x0 : (g80.args.getD 0 (.v (.ty .bool))).T) (x1 : (g80.args.getD 1 (.v (.ty .bool))).T) : call G MT80 FT80 IT80 8 g80 22 [.tmp 4] c80 h80 fuel (x0, x1, ()) = sh80 fuel x0 x1 := by kernel_rfl
theorem fo80 : funOk Tryd.prog 80 = true := by kernel_rfl
theorem fo87 : funOk Tryd.prog 87 = true := by kernel_rfl
theorem fo88 : funOk Tryd.prog 88 = true := by kernel_rfl
theorem it80 : ITok Tryd.prog IT80 := ITok_cons fo87 Tryd.func87 (by kernel_rfl) rfl (by kernel_rfl) (ITok_cons fo88 Tryd.func88 (by kernel_rfl) rfl (by kernel_rfl) (ITok_nil))
theorem mt80 : MtOk Tryd.prog MT80 := MtOk_nil
theorem ft80 : FTok Tryd.prog FT80 := FTok_cons fo86 tc86 (FTok_cons fo89 tc89 (FTok_nil))
theorem tc80 : TC Tryd.prog 80 ⟨g80, sp80⟩ := tc_of (N := 22) (rv := [.tmp 4]) (c := c80) (h := h80) good mt80 it80 ft80 wide Tryd.func80 (by kernel_rfl) rfl (by kernel_rfl) (by decide) (by kernel_rfl) (by kernel_rfl) fun x r h => ⟨100000, (ex80 100000 x.1 x.2.1).trans h⟩
theorem fo90 : funOk Tryd.prog 90 = true := by kernel_rfl
theorem tc90 : TC Tryd.prog 90 ⟨g90, sp90⟩ := tk 0 h90 (FTok_nil) Tryd.func90 (by kernel_rfl) (by kernel_rfl) fun x => by kernel_rfl
theorem fo81 : funOk Tryd.prog 81 = true := by kernel_rfl
theorem tc81 : TC Tryd.prog 81 ⟨g81, sp81⟩ := tk 0 h81 (FTok_cons fo90 tc90 (FTok_nil)) Tryd.func81 (by kernel_rfl) (by kernel_rfl) fun x => by kernel_rfl
theorem fo91 : funOk Tryd.prog 91 = true := by kernel_rfl
theorem tc91 : TC Tryd.prog 91 ⟨g91, sp91⟩ := tk 0 h91 (FTok_nil) Tryd.func91 (by kernel_rfl) (by kernel_rfl) fun x => by kernel_rfl
theorem fo95 : funOk Tryd.prog 95 = true := by kernel_rfl
theorem tc95 : TC Tryd.prog 95 ⟨g95, sp95⟩ := tk 100000 h95 (FTok_nil) Tryd.func95 (by kernel_rfl) (by kernel_rfl) fun x => (show ∀ n, call G [] _ [] 8 g95 Tryd.f95.ntmps Tryd.f95.results.toList (bd Tryd.f95) h95 n x = sh95 n x.1 x.2.1 from fun n => by kernel_rfl) 100000
theorem fo92 : funOk Tryd.prog 92 = true := by kernel_rfl
theorem tc92 : TC Tryd.prog 92 ⟨g92, sp92⟩ := tk 0 h92 (FTok_cons fo95 tc95 (FTok_nil)) Tryd.func92 (by kernel_rfl) (by kernel_rfl) fun x => by kernel_rfl
theorem fo82 : funOk Tryd.prog 82 = true := by kernel_rfl
theorem tc82 : TC Tryd.prog 82 ⟨g82, sp82⟩ := tk 100000 h82 (FTok_cons fo91 tc91 (FTok_cons fo92 tc92 (FTok_nil))) Tryd.func82 (by kernel_rfl) (by kernel_rfl) fun x => (show ∀ n, call G [] _ [] 8 g82 Tryd.f82.ntmps Tryd.f82.results.toList (bd Tryd.f82) h82 n x = sh82 n x.1 x.2.1 from fun n => by kernel_rfl) 100000
theorem fo65 : funOk Tryd.prog 65 = true := by kernel_rfl
theorem tc65 : TC Tryd.prog 65 ⟨g65, sp65⟩ := tk 0 h65 (FTok_cons fo80 tc80 (FTok_cons fo81 tc81 (FTok_cons fo82 tc82 (FTok_nil)))) Tryd.func65 (by kernel_rfl) (by kernel_rfl) fun x => by kernel_rfl
theorem fo66 : funOk Tryd.prog 66 = true := by kernel_rfl
theorem tc66 : TC Tryd.prog 66 ⟨g66, sp66⟩ := tk 100000 h66 (FTok_nil) Tryd.func66 (by kernel_rfl) (by kernel_rfl) fun x => (show ∀ n, call G [] _ [] 8 g66 Tryd.f66.ntmps Tryd.f66.results.toList (bd Tryd.f66) h66 n x = sh66 n x.1 from fun n => by kernel_rfl) 100000
theorem ex83 (fuel : Nat) (x0 : (g83.args.getD 0 (.v (.ty .bool))).T) (x1 : (g83.args.getD 1 (.v (.ty .bool))).T) : call G MT83 FT83 IT83 8 g83 9 [.tmp 4] c83 h83 fuel (x0, x1, ()) = sh83 fuel x0 x1 := by kernel_rfl
theorem fo83 : funOk Tryd.prog 83 = true := by kernel_rfl
theorem fo85 : funOk Tryd.prog 85 = true := by kernel_rfl
theorem fo93 : funOk Tryd.prog 93 = true := by kernel_rfl
theorem it83 : ITok Tryd.prog IT83 := ITok_cons fo85 Tryd.func85 (by kernel_rfl) rfl (by kernel_rfl) (ITok_cons fo93 Tryd.func93 (by kernel_rfl) rfl (by kernel_rfl) (ITok_nil))
theorem mt83 : MtOk Tryd.prog MT83 := MtOk_nil
theorem ft83 : FTok Tryd.prog FT83 := FTok_nil
theorem tc83 : TC Tryd.prog 83 ⟨g83, sp83⟩ := tc_of (N := 9) (rv := [.tmp 4]) (c := c83) (h := h83) good mt83 it83 ft83 wide Tryd.func83 (by kernel_rfl) rfl (by kernel_rfl) (by decide) (by kernel_rfl) (by kernel_rfl) fun x r h => ⟨100000, (ex83 100000 x.1 x.2.1).trans h⟩
theorem fo67 : funOk Tryd.prog 67 = true := by kernel_rfl
theorem tc67 : TC Tryd.prog 67 ⟨g67, sp67⟩ := tk 100000 h67 (FTok_cons fo83 tc83 (FTok_nil)) Tryd.func67 (by kernel_rfl) (by kernel_rfl) fun x => (show ∀ n, call G [] _ [] 8 g67 Tryd.f67.ntmps Tryd.f67.results.toList (bd Tryd.f67) h67 n x = sh67 n x.1 from fun n => by kernel_rfl) 100000
theorem fo68 : funOk Tryd.prog 68 = true := by kernel_rfl
theorem tc68 : TC Tryd.prog 68 ⟨g68, sp68⟩ := tk 100000 h68 (FTok_nil) Tryd.func68 (by kernel_rfl) (by kernel_rfl) fun x => (show ∀ n, call G [] _ [] 8 g68 Tryd.f68.ntmps Tryd.f68.results.toList (bd Tryd.f68) h68 n x = sh68 n x.1 x.2.1 from fun n => by kernel_rfl) 100000
theorem fo69 : funOk Tryd.prog 69 = true := by kernel_rfl
theorem tc69 : TC Tryd.prog 69 ⟨g69, sp69⟩ := tk 100000 h69 (FTok_nil) Tryd.func69 (by kernel_rfl) (by kernel_rfl) fun x => (show ∀ n, call G [] _ [] 8 g69 Tryd.f69.ntmps Tryd.f69.results.toList (bd Tryd.f69) h69 n x = sh69 n x.1 from fun n => by kernel_rfl) 100000
theorem fo94 : funOk Tryd.prog 94 = true := by kernel_rfl
theorem tc94 : TC Tryd.prog 94 ⟨g94, sp94⟩ := tk 100000 h94 (FTok_nil) Tryd.func94 (by kernel_rfl) (by kernel_rfl) fun x => (show ∀ n, call G [] _ [] 8 g94 Tryd.f94.ntmps Tryd.f94.results.toList (bd Tryd.f94) h94 n x = sh94 n x.1 x.2.1 from fun n => by kernel_rfl) 100000
theorem fo84 : funOk Tryd.prog 84 = true := by kernel_rfl
theorem tc84 : TC Tryd.prog 84 ⟨g84, sp84⟩ := tk 0 h84 (FTok_cons fo94 tc94 (FTok_nil)) Tryd.func84 (by kernel_rfl) (by kernel_rfl) fun x => by kernel_rfl
theorem fo70 : funOk Tryd.prog 70 = true := by kernel_rfl
theorem tc70 : TC Tryd.prog 70 ⟨g70, sp70⟩ := tk 100000 h70 (FTok_cons fo84 tc84 (FTok_nil)) Tryd.func70 (by kernel_rfl) (by kernel_rfl) fun x => (show ∀ n, call G [] _ [] 8 g70 Tryd.f70.ntmps Tryd.f70.results.toList (bd Tryd.f70) h70 n x = sh70 n x.1 from fun n => by kernel_rfl) 100000
theorem ex50 (fuel : Nat) (x0 : (g50.args.getD 0 (.v (.ty .bool))).T) : call G MT50 FT50 IT50 8 g50 65 [.tmp 2] c50 h50 fuel (x0, ()) = sh50 fuel x0 := by kernel_rfl
theorem fo50 : funOk Tryd.prog 50 = true := by kernel_rfl
theorem fo71 : funOk Tryd.prog 71 = true := by kernel_rfl
theorem fo72 : funOk Tryd.prog 72 = true := by kernel_rfl
theorem it50 : ITok Tryd.prog IT50 := ITok_cons fo71 Tryd.func71 (by kernel_rfl) rfl (by kernel_rfl) (ITok_cons fo85 Tryd.func85 (by kernel_rfl) rfl (by kernel_rfl) (ITok_cons fo72 Tryd.func72 (by kernel_rfl) rfl (by kernel_rfl) (ITok_nil)))
theorem mt50 : MtOk Tryd.prog MT50 := MtOk_nil
theorem ft50 : FTok Tryd.prog FT50 := FTok_cons fo65 tc65 (FTok_cons fo66 tc66 (FTok_cons fo67 tc67 (FTok_cons fo68 tc68 (FTok_cons fo69 tc69 (FTok_cons fo70 tc70 (FTok_nil))))))
theorem tc50 : TC Tryd.prog 50 ⟨g50, sp50⟩ := tc_of (N := 65) (rv := [.tmp 2]) (c := c50) (h := h50) good mt50 it50 ft50 wide Tryd.func50 (by kernel_rfl) rfl (by kernel_rfl) (by decide) (by kernel_rfl) (by kernel_rfl) fun x r h => ⟨100000, (ex50 100000 x.1).trans h⟩
theorem fo51 : funOk Tryd.prog 51 = true := by kernel_rfl
theorem tc51 : TC Tryd.prog 51 ⟨g51, sp51⟩ := tk 0 h51 (FTok_cons fo50 tc50 (FTok_cons fo69 tc69 (FTok_nil))) Tryd.func51 (by kernel_rfl) (by kernel_rfl) fun x => by kernel_rfl
theorem fo28 : funOk Tryd.prog 28 = true := by kernel_rfl
theorem tc28 : TC Tryd.prog 28 ⟨g28, sp28⟩ := tk 100000 h28 (FTok_nil) Tryd.func28 (by kernel_rfl) (by kernel_rfl) fun x => (show ∀ n, call G [] _ [] 8 g28 Tryd.f28.ntmps Tryd.f28.results.toList (bd Tryd.f28) h28 n x = sh28 n x.1 x.2.1 from fun n => by kernel_rfl) 100000
theorem ex14 (fuel : Nat) (x0 : (g14.args.getD 0 (.v (.ty .bool))).T) (x1 : (g14.args.getD 1 (.v (.ty .bool))).T) (x2 : (g14.args.getD 2 (.v (.ty .bool))).T) (x3 : (g14.args.getD 3 (.v (.ty .bool))).T) : call G MT14 FT14 IT14 8 g14 142 [.tmp 8, .tmp 9] c14 h14 fuel (x0, x1, x2, x3, ()) = sh14 fuel x0 x1 x2 x3 := by kernel_rfl
theorem fo14 : funOk Tryd.prog 14 = true := by kernel_rfl
theorem fo27 : funOk Tryd.prog 27 = true := by kernel_rfl
theorem fo32 : funOk Tryd.prog 32 = true := by kernel_rfl
theorem fo53 : funOk Tryd.prog 53 = true := by kernel_rfl
theorem fo33 : funOk Tryd.prog 33 = true := by kernel_rfl
theorem it14 : ITok Tryd.prog IT14 := ITok_cons fo27 Tryd.func27 (by kernel_rfl) rfl (by kernel_rfl) (ITok_cons fo32 Tryd.func32 (by kernel_rfl) rfl (by kernel_rfl) (ITok_cons fo53 Tryd.func53 (by kernel_rfl) rfl (by kernel_rfl) (ITok_cons fo33 Tryd.func33 (by kernel_rfl) rfl (by kernel_rfl) (ITok_nil))))
theorem mt14 : MtOk Tryd.prog MT14 := MtOk_nil
theorem ft14 : FTok Tryd.prog FT14 := FTok_cons fo50 tc50 (FTok_cons fo51 tc51 (FTok_cons fo28 tc28 (FTok_cons fo29 tc29 (FTok_cons fo30 tc30 (FTok_cons fo31 tc31 (FTok_cons fo34 tc34 (FTok_cons fo35 tc35 (FTok_nil))))))))
theorem tc14 : TC Tryd.prog 14 ⟨g14, sp14⟩ := tc_of (N := 142) (rv := [.tmp 8, .tmp 9]) (c := c14) (h := h14) good mt14 it14 ft14 wide Tryd.func14 (by kernel_rfl) rfl (by kernel_rfl) (by decide) (by kernel_rfl) (by kernel_rfl) fun x r h => ⟨100000, (ex14 100000 x.1 x.2.1 x.2.2.1 x.2.2.2.1).trans h⟩
theorem fo20 : funOk Tryd.prog 20 = true := by kernel_rfl
theorem fo7 : funOk Tryd.prog 7 = true := by kernel_rfl
theorem tc7 : TC Tryd.prog 7 ⟨g7, sp7⟩ := tk 0 h7 (FTok_cons fo22 tc22 (FTok_cons fo14 tc14 (FTok_cons fo20 tc20 (FTok_nil)))) Tryd.func7 (by kernel_rfl) (by kernel_rfl) fun x => by kernel_rfl
theorem fo8 : funOk Tryd.prog 8 = true := by kernel_rfl
theorem tc8 : TC Tryd.prog 8 ⟨g8, sp8⟩ := tk 0 h8 (FTok_nil) Tryd.func8 (by kernel_rfl) (by kernel_rfl) fun x => by kernel_rfl
theorem fo43 : funOk Tryd.prog 43 = true := by kernel_rfl
theorem tc43 : TC Tryd.prog 43 ⟨g43, sp43⟩ := tk 0 h43 (FTok_nil) Tryd.func43 (by kernel_rfl) (by kernel_rfl) fun x => by kernel_rfl
theorem fo19 : funOk Tryd.prog 19 = true := by kernel_rfl
theorem tc19 : TC Tryd.prog 19 ⟨g19, sp19⟩ := tk 0 h19 (FTok_nil) Tryd.func19 (by kernel_rfl) (by kernel_rfl) fun x => by kernel_rfl
theorem fo18 : funOk Tryd.prog 18 = true := by kernel_rfl
theorem tc18 : TC Tryd.prog 18 ⟨g18, sp18⟩ := tk 0 h18 (FTok_cons fo43 tc43 (FTok_cons fo19 tc19 (FTok_nil))) Tryd.func18 (by kernel_rfl) (by kernel_rfl) fun x => by kernel_rfl
theorem fo13 : funOk Tryd.prog 13 = true := by kernel_rfl
theorem tc13 : TC Tryd.prog 13 ⟨g13, sp13⟩ := tk 0 h13 (FTok_cons fo18 tc18 (FTok_nil)) Tryd.func13 (by kernel_rfl) (by kernel_rfl) fun x => by kernel_rfl
theorem fo26 : funOk Tryd.prog 26 = true := by kernel_rfl
theorem tc26 : TC Tryd.prog 26 ⟨g26, sp26⟩ := tk 0 h26 (FTok_cons fo18 tc18 (FTok_nil)) Tryd.func26 (by kernel_rfl) (by kernel_rfl) fun x => by kernel_rfl
theorem fo49 : funOk Tryd.prog 49 = true := by kernel_rfl
theorem tc49 : TC Tryd.prog 49 ⟨g49, sp49⟩ := tk 100000 h49 (FTok_cons fo18 tc18 (FTok_nil)) Tryd.func49 (by kernel_rfl) (by kernel_rfl) fun x => (show ∀ n, call G [] _ [] 8 g49 Tryd.f49.ntmps Tryd.f49.results.toList (bd Tryd.f49) h49 n x = sh49 n x.1 x.2.1 x.2.2.1 from fun n => by kernel_rfl) 100000
theorem fo23 : funOk Tryd.prog 23 = true := by kernel_rfl
theorem tc23 : TC Tryd.prog 23 ⟨g23, sp23⟩ := tk 0 h23 (FTok_cons fo26 tc26 (FTok_cons fo13 tc13 (FTok_cons fo49 tc49 (FTok_nil)))) Tryd.func23 (by kernel_rfl) (by kernel_rfl) fun x => by kernel_rfl
theorem fo25 : funOk Tryd.prog 25 = true := by kernel_rfl
theorem tc25 : TC Tryd.prog 25 ⟨g25, sp25⟩ := tk 100000 h25 (FTok_cons fo18 tc18 (FTok_nil)) Tryd.func25 (by kernel_rfl) (by kernel_rfl) fun x => (show ∀ n, call G [] _ [] 8 g25 Tryd.f25.ntmps Tryd.f25.results.toList (bd Tryd.f25) h25 n x = sh25 n x.1 x.2.1 from fun n => by kernel_rfl) 100000
theorem fo9 : funOk Tryd.prog 9 = true := by kernel_rfl
theorem tc9 : TC Tryd.prog 9 ⟨g9, sp9⟩ := tk 100000 h9 (FTok_cons fo13 tc13 (FTok_cons fo23 tc23 (FTok_cons fo18 tc18 (FTok_cons fo24 tc24 (FTok_cons fo25 tc25 (FTok_nil)))))) Tryd.func9 (by kernel_rfl) (by kernel_rfl) fun x => (show ∀ n, call G [] _ [] 8 g9 Tryd.f9.ntmps Tryd.f9.results.toList (bd Tryd.f9) h9 n x = sh9 n x.1 from fun n => by kernel_rfl) 100000
theorem fo10 : funOk Tryd.prog 10 = true := by kernel_rfl
theorem tc10 : TC Tryd.prog 10 ⟨g10, sp10⟩ := tk 100000 h10 (FTok_cons fo18 tc18 (FTok_nil)) Tryd.func10 (by kernel_rfl) (by kernel_rfl) fun x => (show ∀ n, call G [] _ [] 8 g10 Tryd.f10.ntmps Tryd.f10.results.toList (bd Tryd.f10) h10 n x = sh10 n x.1 x.2.1 x.2.2.1 from fun n => by kernel_rfl) 100000
theorem fo11 : funOk Tryd.prog 11 = true := by kernel_rfl
theorem tc11 : TC Tryd.prog 11 ⟨g11, sp11⟩ := tk 100000 h11 (FTok_cons fo18 tc18 (FTok_nil)) Tryd.func11 (by kernel_rfl) (by kernel_rfl) fun x => (show ∀ n, call G [] _ [] 8 g11 Tryd.f11.ntmps Tryd.f11.results.toList (bd Tryd.f11) h11 n x = sh11 n x.1 from fun n => by kernel_rfl) 100000
theorem fo12 : funOk Tryd.prog 12 = true := by kernel_rfl
theorem tc12 : TC Tryd.prog 12 ⟨g12, sp12⟩ := tk 100000 h12 (FTok_cons fo18 tc18 (FTok_cons fo26 tc26 (FTok_nil))) Tryd.func12 (by kernel_rfl) (by kernel_rfl) fun x => (show ∀ n, call G [] _ [] 8 g12 Tryd.f12.ntmps Tryd.f12.results.toList (bd Tryd.f12) h12 n x = sh12 n x.1 x.2.1 x.2.2.1 x.2.2.2.1 from fun n => by kernel_rfl) 100000
theorem fo36 : funOk Tryd.prog 36 = true := by kernel_rfl
theorem tc36 : TC Tryd.prog 36 ⟨g36, sp36⟩ := tk 0 h36 (FTok_nil) Tryd.func36 (by kernel_rfl) (by kernel_rfl) fun x => by kernel_rfl
theorem fo54 : funOk Tryd.prog 54 = true := by kernel_rfl
theorem tc54 : TC Tryd.prog 54 ⟨g54, sp54⟩ := tk 0 h54 (FTok_nil) Tryd.func54 (by kernel_rfl) (by kernel_rfl) fun x => by kernel_rfl
theorem fo37 : funOk Tryd.prog 37 = true := by kernel_rfl
theorem tc37 : TC Tryd.prog 37 ⟨g37, sp37⟩ := tk 0 h37 (FTok_cons fo54 tc54 (FTok_nil)) Tryd.func37 (by kernel_rfl) (by kernel_rfl) fun x => by kernel_rfl
theorem fo40 : funOk Tryd.prog 40 = true := by kernel_rfl
theorem tc40 : TC Tryd.prog 40 ⟨g40, sp40⟩ := tk 0 h40 (FTok_nil) Tryd.func40 (by kernel_rfl) (by kernel_rfl) fun x => by kernel_rfl
theorem fo42 : funOk Tryd.prog 42 = true := by kernel_rfl
theorem tc42 : TC Tryd.prog 42 ⟨g42, sp42⟩ := tk 0 h42 (FTok_nil) Tryd.func42 (by kernel_rfl) (by kernel_rfl) fun x => by kernel_rfl
theorem fo41 : funOk Tryd.prog 41 = true := by kernel_rfl
theorem tc41 : TC Tryd.prog 41 ⟨g41, sp41⟩ := tk 100000 h41 (FTok_nil) Tryd.func41 (by kernel_rfl) (by kernel_rfl) fun x => (show ∀ n, call G [] _ [] 8 g41 Tryd.f41.ntmps Tryd.f41.results.toList (bd Tryd.f41) h41 n x = sh41 n x.1 x.2.1 from fun n => by kernel_rfl) 100000
theorem fo17 : funOk Tryd.prog 17 = true := by kernel_rfl
theorem tc17 : TC Tryd.prog 17 ⟨g17, sp17⟩ := tk 0 h17 (FTok_cons fo40 tc40 (FTok_cons fo42 tc42 (FTok_cons fo41 tc41 (FTok_nil)))) Tryd.func17 (by kernel_rfl) (by kernel_rfl) fun x => by kernel_rfl
theorem fo38 : funOk Tryd.prog 38 = true := by kernel_rfl
theorem tc38 : TC Tryd.prog 38 ⟨g38, sp38⟩ := tk 0 h38 (FTok_cons fo54 tc54 (FTok_cons fo17 tc17 (FTok_nil))) Tryd.func38 (by kernel_rfl) (by kernel_rfl) fun x => by kernel_rfl
theorem fo39 : funOk Tryd.prog 39 = true := by kernel_rfl
theorem tc39 : TC Tryd.prog 39 ⟨g39, sp39⟩ := tk 0 h39 (FTok_nil) Tryd.func39 (by kernel_rfl) (by kernel_rfl) fun x => by kernel_rfl
theorem fo15 : funOk Tryd.prog 15 = true := by kernel_rfl
theorem tc15 : TC Tryd.prog 15 ⟨g15, sp15⟩ := tk 100000 h15 (FTok_cons fo36 tc36 (FTok_cons fo37 tc37 (FTok_cons fo38 tc38 (FTok_cons fo39 tc39 (FTok_nil))))) Tryd.func15 (by kernel_rfl) (by kernel_rfl) fun x => (show ∀ n, call G [] _ [] 8 g15 Tryd.f15.ntmps Tryd.f15.results.toList (bd Tryd.f15) h15 n x = sh15 n x.1 x.2.1 x.2.2.1 x.2.2.2.1 from fun n => by kernel_rfl) 100000
theorem fo16 : funOk Tryd.prog 16 = true := by kernel_rfl
theorem tc16 : TC Tryd.prog 16 ⟨g16, sp16⟩ := tk 100000 h16 (FTok_nil) Tryd.func16 (by kernel_rfl) (by kernel_rfl) fun x => (show ∀ n, call G [] _ [] 8 g16 Tryd.f16.ntmps Tryd.f16.results.toList (bd Tryd.f16) h16 n x = sh16 n x.1 x.2.1 from fun n => by kernel_rfl) 100000
theorem fo3 : funOk Tryd.prog 3 = true := by kernel_rfl
theorem tc3 : TC Tryd.prog 3 ⟨g3, sp3⟩ := tk 100000 h3 (FTok_cons fo7 tc7 (FTok_cons fo8 tc8 (FTok_cons fo9 tc9 (FTok_cons fo10 tc10 (FTok_cons fo11 tc11 (FTok_cons fo12 tc12 (FTok_cons fo13 tc13 (FTok_cons fo14 tc14 (FTok_cons fo15 tc15 (FTok_cons fo16 tc16 (FTok_nil))))))))))) Tryd.func3 (by kernel_rfl) (by kernel_rfl) fun x => (show ∀ n, call G [] _ [] 8 g3 Tryd.f3.ntmps Tryd.f3.results.toList (bd Tryd.f3) h3 n x = sh3 n x.1 x.2.1 x.2.2.1 from fun n => by kernel_rfl) 100000
theorem fo21 : funOk Tryd.prog 21 = true := by kernel_rfl
theorem tc21 : TC Tryd.prog 21 ⟨g21, sp21⟩ := tk 100000 h21 (FTok_cons fo38 tc38 (FTok_cons fo36 tc36 (FTok_cons fo37 tc37 (FTok_cons fo39 tc39 (FTok_nil))))) Tryd.func21 (by kernel_rfl) (by kernel_rfl) fun x => (show ∀ n, call G [] _ [] 8 g21 Tryd.f21.ntmps Tryd.f21.results.toList (bd Tryd.f21) h21 n x = sh21 n x.1 x.2.1 x.2.2.1 x.2.2.2.1 from fun n => by kernel_rfl) 100000
theorem fo4 : funOk Tryd.prog 4 = true := by kernel_rfl
theorem tc4 : TC Tryd.prog 4 ⟨g4, sp4⟩ := tk 100000 h4 (FTok_cons fo7 tc7 (FTok_cons fo8 tc8 (FTok_cons fo9 tc9 (FTok_cons fo10 tc10 (FTok_cons fo11 tc11 (FTok_cons fo18 tc18 (FTok_cons fo17 tc17 (FTok_cons fo19 tc19 (FTok_cons fo20 tc20 (FTok_cons fo21 tc21 (FTok_nil))))))))))) Tryd.func4 (by kernel_rfl) (by kernel_rfl) fun x => (show ∀ n, call G [] _ [] 8 g4 Tryd.f4.ntmps Tryd.f4.results.toList (bd Tryd.f4) h4 n x = sh4 n x.1 x.2.1 x.2.2.1 x.2.2.2.1 from fun n => by kernel_rfl) 100000
theorem fo5 : funOk Tryd.prog 5 = true := by kernel_rfl
theorem tc5 : TC Tryd.prog 5 ⟨g5, sp5⟩ := tk 100000 h5 (FTok_cons fo8 tc8 (FTok_cons fo9 tc9 (FTok_cons fo10 tc10 (FTok_cons fo11 tc11 (FTok_cons fo12 tc12 (FTok_cons fo14 tc14 (FTok_cons fo20 tc20 (FTok_cons fo7 tc7 (FTok_nil))))))))) Tryd.func5 (by kernel_rfl) (by kernel_rfl) fun x => (show ∀ n, call G [] _ [] 8 g5 Tryd.f5.ntmps Tryd.f5.results.toList (bd Tryd.f5) h5 n x = sh5 n x.1 from fun n => by kernel_rfl) 100000
theorem fo6 : funOk Tryd.prog 6 = true := by kernel_rfl
theorem tc6 : TC Tryd.prog 6 ⟨g6, sp6⟩ := tk 100000 h6 (FTok_cons fo8 tc8 (FTok_cons fo9 tc9 (FTok_cons fo10 tc10 (FTok_cons fo11 tc11 (FTok_cons fo19 tc19 (FTok_cons fo17 tc17 (FTok_cons fo20 tc20 (FTok_cons fo7 tc7 (FTok_nil))))))))) Tryd.func6 (by kernel_rfl) (by kernel_rfl) fun x => (show ∀ n, call G [] _ [] 8 g6 Tryd.f6.ntmps Tryd.f6.results.toList (bd Tryd.f6) h6 n x = sh6 n x.1 x.2.1 from fun n => by kernel_rfl) 100000
end Go.Proofs.YtjpikgfknnamjaaDoor
