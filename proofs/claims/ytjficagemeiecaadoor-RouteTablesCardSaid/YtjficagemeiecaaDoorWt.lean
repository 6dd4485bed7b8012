/- Walks: the functions of the program, each as a typed contract. -/
import Derived.Test.YtjficagemeiecaaDoorWa
import Derived.KernelRfl
open Go Go.Proofs Go.Abs
set_option linter.unusedVariables false
set_option maxRecDepth 100000
namespace Go.Proofs.YtjficagemeiecaaDoor
theorem wide : Tryd.prog.follows .mixedOrders = true := by kernel_rfl
theorem good : Go.Abs.Good Tryd.prog G := good_of (by kernel_rfl)
theorem tk (n : Nat) {FT : List (Nat × Entry)} {f : FuncId} {fn : Func} {e : Entry} (h : HT) (hFT : FTok Tryd.prog FT) (hf : Tryd.prog.funcs[f]? = some fn) (hb : fn.body = some (bd fn))
  (hk : (Nat.ble e.sig.args.length fn.ntmps && (okC (bd fn) h && okR e.sig fn.results.toList)) = true) (hF : ∀ x, call G [] FT [] 8 e.sig fn.ntmps fn.results.toList (bd fn) h n x = e.F x) : TC Tryd.prog f e := by
 simp only [Bool.and_eq_true] at hk
 exact tc_of good MtOk_nil ITok_nil hFT wide hf hb rfl rfl (Nat.le_of_ble_eq_true hk.1) hk.2.1 hk.2.2 fun x r h => ⟨n, (hF x).trans h⟩
theorem fo44 : funOk Tryd.prog 44 = true := by kernel_rfl
theorem tc44 : TC Tryd.prog 44 ⟨g44, sp44⟩ := tk 0 h44 (FTok_nil) Tryd.func44 (by kernel_rfl) (by kernel_rfl) fun x => by kernel_rfl
theorem fo33 : funOk Tryd.prog 33 = true := by kernel_rfl
theorem tc33 : TC Tryd.prog 33 ⟨g33, sp33⟩ := tk 0 h33 (FTok_cons fo44 tc44 (FTok_nil)) Tryd.func33 (by kernel_rfl) (by kernel_rfl) fun x => by kernel_rfl
theorem fo72 : funOk Tryd.prog 72 = true := by kernel_rfl
theorem tc72 : TC Tryd.prog 72 ⟨g72, sp72⟩ := tk 0 h72 (FTok_nil) Tryd.func72 (by kernel_rfl) (by kernel_rfl) fun x => by kernel_rfl
theorem fo75 : funOk Tryd.prog 75 = true := by kernel_rfl
theorem tc75 : TC Tryd.prog 75 ⟨g75, sp75⟩ := tk 0 h75 (FTok_nil) Tryd.func75 (by kernel_rfl) (by kernel_rfl) fun x => by kernel_rfl
theorem ex61 (fuel : Nat) (x0 : (g61.args.getD 0 (.v (.ty .bool))).T) (x1 : (g61.args.getD 1 (.v (.ty .bool))).T) : call G MT61 FT61 IT61 8 g61 22 [.tmp 4] c61 h61 fuel (x0, x1, ()) = sh61 fuel x0 x1 := by kernel_rfl
theorem fo61 : funOk Tryd.prog 61 = true := by kernel_rfl
theorem fo73 : funOk Tryd.prog 73 = true := by kernel_rfl
theorem fo74 : funOk Tryd.prog 74 = true := by kernel_rfl
theorem it61 : ITok Tryd.prog IT61 := ITok_cons fo73 Tryd.func73 (by kernel_rfl) rfl (by kernel_rfl) (ITok_cons fo74 Tryd.func74 (by kernel_rfl) rfl (by kernel_rfl) (ITok_nil))
theorem mt61 : MtOk Tryd.prog MT61 := MtOk_nil
theorem ft61 : FTok Tryd.prog FT61 := FTok_cons fo72 tc72 (FTok_cons fo75 tc75 (FTok_nil))
theorem tc61 : TC Tryd.prog 61 ⟨g61, sp61⟩ := tc_of (N := 22) (rv := [.tmp 4]) (c := c61) (h := h61) good mt61 it61 ft61 wide Tryd.func61 (by kernel_rfl) rfl (by kernel_rfl) (by decide) (by kernel_rfl) (by kernel_rfl) fun x r h => ⟨100000, (ex61 100000 x.1 x.2.1).trans h⟩
theorem fo62 : funOk Tryd.prog 62 = true := by kernel_rfl
theorem tc62 : TC Tryd.prog 62 ⟨g62, sp62⟩ := tk 0 h62 (FTok_cons fo44 tc44 (FTok_nil)) Tryd.func62 (by kernel_rfl) (by kernel_rfl) fun x => by kernel_rfl
theorem fo76 : funOk Tryd.prog 76 = true := by kernel_rfl
theorem tc76 : TC Tryd.prog 76 ⟨g76, sp76⟩ := tk 0 h76 (FTok_nil) Tryd.func76 (by kernel_rfl) (by kernel_rfl) fun x => by kernel_rfl
theorem fo80 : funOk Tryd.prog 80 = true := by kernel_rfl
theorem tc80 : TC Tryd.prog 80 ⟨g80, sp80⟩ := tk 100000 h80 (FTok_nil) Tryd.func80 (by kernel_rfl) (by kernel_rfl) fun x => (show ∀ n, call G [] _ [] 8 g80 Tryd.f80.ntmps Tryd.f80.results.toList (bd Tryd.f80) h80 n x = sh80 n x.1 x.2.1 from fun n => by kernel_rfl) 100000
theorem fo77 : funOk Tryd.prog 77 = true := by kernel_rfl
theorem tc77 : TC Tryd.prog 77 ⟨g77, sp77⟩ := tk 0 h77 (FTok_cons fo80 tc80 (FTok_nil)) Tryd.func77 (by kernel_rfl) (by kernel_rfl) fun x => by kernel_rfl
theorem fo63 : funOk Tryd.prog 63 = true := by kernel_rfl
theorem tc63 : TC Tryd.prog 63 ⟨g63, sp63⟩ := tk 100000 h63 (FTok_cons fo76 tc76 (FTok_cons fo77 tc77 (FTok_nil))) Tryd.func63 (by kernel_rfl) (by kernel_rfl) fun x => (show ∀ n, call G [] _ [] 8 g63 Tryd.f63.ntmps Tryd.f63.results.toList (bd Tryd.f63) h63 n x = sh63 n x.1 x.2.1 from fun n => by kernel_rfl) 100000
theorem fo45 : funOk Tryd.prog 45 = true := by kernel_rfl
theorem tc45 : TC Tryd.prog 45 ⟨g45, sp45⟩ := tk 0 h45 (FTok_cons fo61 tc61 (FTok_cons fo62 tc62 (FTok_cons fo63 tc63 (FTok_nil)))) Tryd.func45 (by kernel_rfl) (by kernel_rfl) fun x => by kernel_rfl
theorem fo46 : funOk Tryd.prog 46 = true := by kernel_rfl
theorem tc46 : TC Tryd.prog 46 ⟨g46, sp46⟩ := tk 100000 h46 (FTok_nil) Tryd.func46 (by kernel_rfl) (by kernel_rfl) fun x => (show ∀ n, call G [] _ [] 8 g46 Tryd.f46.ntmps Tryd.f46.results.toList (bd Tryd.f46) h46 n x = sh46 n x.1 from fun n => by kernel_rfl) 100000
theorem ex64 (fuel : Nat) (x0 : (g64.args.getD 0 (.v (.ty .bool))).T) (x1 : (g64.args.getD 1 (.v (.ty .bool))).T) : call G MT64 FT64 IT64 8 g64 9 [.tmp 4] c64 h64 fuel (x0, x1, ()) = sh64 fuel x0 x1 := by kernel_rfl
theorem fo64 : funOk Tryd.prog 64 = true := by kernel_rfl
theorem fo66 : funOk Tryd.prog 66 = true := by kernel_rfl
theorem fo78 : funOk Tryd.prog 78 = true := by kernel_rfl
theorem it64 : ITok Tryd.prog IT64 := ITok_cons fo66 Tryd.func66 (by kernel_rfl) rfl (by kernel_rfl) (ITok_cons fo78 Tryd.func78 (by kernel_rfl) rfl (by kernel_rfl) (ITok_nil))
theorem mt64 : MtOk Tryd.prog MT64 := MtOk_nil
theorem ft64 : FTok Tryd.prog FT64 := FTok_nil
theorem tc64 : TC Tryd.prog 64 ⟨g64, sp64⟩ := tc_of (N := 9) (rv := [.tmp 4]) (c := c64) (h := h64) good mt64 it64 ft64 wide Tryd.func64 (by kernel_rfl) rfl (by kernel_rfl) (by decide) (by kernel_rfl) (by kernel_rfl) fun x r h => ⟨100000, (ex64 100000 x.1 x.2.1).trans h⟩
theorem fo47 : funOk Tryd.prog 47 = true := by kernel_rfl
theorem tc47 : TC Tryd.prog 47 ⟨g47, sp47⟩ := tk 100000 h47 (FTok_cons fo64 tc64 (FTok_nil)) Tryd.func47 (by kernel_rfl) (by kernel_rfl) fun x => (show ∀ n, call G [] _ [] 8 g47 Tryd.f47.ntmps Tryd.f47.results.toList (bd Tryd.f47) h47 n x = sh47 n x.1 from fun n => by kernel_rfl) 100000
theorem fo48 : funOk Tryd.prog 48 = true := by kernel_rfl
theorem tc48 : TC Tryd.prog 48 ⟨g48, sp48⟩ := tk 100000 h48 (FTok_nil) Tryd.func48 (by kernel_rfl) (by kernel_rfl) fun x => (show ∀ n, call G [] _ [] 8 g48 Tryd.f48.ntmps Tryd.f48.results.toList (bd Tryd.f48) h48 n x = sh48 n x.1 x.2.1 from fun n => by kernel_rfl) 100000
theorem fo49 : funOk Tryd.prog 49 = true := by kernel_rfl
theorem tc49 : TC Tryd.prog 49 ⟨g49, sp49⟩ := tk 100000 h49 (FTok_nil) Tryd.func49 (by kernel_rfl) (by kernel_rfl) fun x => (show ∀ n, call G [] _ [] 8 g49 Tryd.f49.ntmps Tryd.f49.results.toList (bd Tryd.f49) h49 n x = sh49 n x.1 from fun n => by kernel_rfl) 100000
theorem fo79 : funOk Tryd.prog 79 = true := by kernel_rfl
theorem tc79 : TC Tryd.prog 79 ⟨g79, sp79⟩ := tk 100000 h79 (FTok_nil) Tryd.func79 (by kernel_rfl) (by kernel_rfl) fun x => (show ∀ n, call G [] _ [] 8 g79 Tryd.f79.ntmps Tryd.f79.results.toList (bd Tryd.f79) h79 n x = sh79 n x.1 x.2.1 from fun n => by kernel_rfl) 100000
theorem fo65 : funOk Tryd.prog 65 = true := by kernel_rfl
theorem tc65 : TC Tryd.prog 65 ⟨g65, sp65⟩ := tk 0 h65 (FTok_cons fo79 tc79 (FTok_nil)) Tryd.func65 (by kernel_rfl) (by kernel_rfl) fun x => by kernel_rfl
theorem fo50 : funOk Tryd.prog 50 = true := by kernel_rfl
theorem tc50 : TC Tryd.prog 50 ⟨g50, sp50⟩ := tk 100000 h50 (FTok_cons fo65 tc65 (FTok_nil)) Tryd.func50 (by kernel_rfl) (by kernel_rfl) fun x => (show ∀ n, call G [] _ [] 8 g50 Tryd.f50.ntmps Tryd.f50.results.toList (bd Tryd.f50) h50 n x = sh50 n x.1 from fun n => by kernel_rfl) 100000
theorem ex32 (fuel : Nat) (x0 : (g32.args.getD 0 (.v (.ty .bool))).T) : call G MT32 FT32 IT32 8 g32 65 [.tmp 2] c32 h32 fuel (x0, ()) = sh32 fuel x0 := by kernel_rfl
theorem fo32 : funOk Tryd.prog 32 = true := by kernel_rfl
theorem fo51 : funOk Tryd.prog 51 = true := by kernel_rfl
theorem fo52 : funOk Tryd.prog 52 = true := by kernel_rfl
theorem it32 : ITok Tryd.prog IT32 := ITok_cons fo51 Tryd.func51 (by kernel_rfl) rfl (by kernel_rfl) (ITok_cons fo66 Tryd.func66 (by kernel_rfl) rfl (by kernel_rfl) (ITok_cons fo52 Tryd.func52 (by kernel_rfl) rfl (by kernel_rfl) (ITok_nil)))
theorem mt32 : MtOk Tryd.prog MT32 := MtOk_nil
theorem ft32 : FTok Tryd.prog FT32 := FTok_cons fo45 tc45 (FTok_cons fo46 tc46 (FTok_cons fo47 tc47 (FTok_cons fo48 tc48 (FTok_cons fo49 tc49 (FTok_cons fo50 tc50 (FTok_nil))))))
theorem tc32 : TC Tryd.prog 32 ⟨g32, sp32⟩ := tc_of (N := 65) (rv := [.tmp 2]) (c := c32) (h := h32) good mt32 it32 ft32 wide Tryd.func32 (by kernel_rfl) rfl (by kernel_rfl) (by decide) (by kernel_rfl) (by kernel_rfl) fun x r h => ⟨100000, (ex32 100000 x.1).trans h⟩
theorem tc27 : TC Tryd.prog 27 ⟨g27, sp27⟩ := tk 0 h27 (FTok_cons fo33 tc33 (FTok_cons fo32 tc32 (FTok_nil))) Tryd.func27 (by kernel_rfl) (by kernel_rfl) fun x => by kernel_rfl
theorem tc31 : TC Tryd.prog 31 ⟨g31, sp31⟩ := tk 0 h31 (FTok_cons fo44 tc44 (FTok_nil)) Tryd.func31 (by kernel_rfl) (by kernel_rfl) fun x => by kernel_rfl
theorem fo12 : funOk Tryd.prog 12 = true := by kernel_rfl
theorem fo14 : funOk Tryd.prog 14 = true := by kernel_rfl
theorem fo17 : funOk Tryd.prog 17 = true := by kernel_rfl
end Go.Proofs.YtjficagemeiecaaDoor
