/- Walks: the functions of the program, each as a typed contract. -/
import Derived.Test.YtdkibgdkmnpncaaDoorWa
import Derived.KernelRfl
open Go Go.Proofs Go.Abs
set_option linter.unusedVariables false
set_option maxRecDepth 100000
namespace Go.Proofs.YtdkibgdkmnpncaaDoor
theorem wide : Tryd.prog.follows .mixedOrders = true := by kernel_rfl
theorem good : Go.Abs.Good Tryd.prog G := good_of (by kernel_rfl)
theorem tk (n : Nat) {FT : List (Nat × Entry)} {f : FuncId} {fn : Func} {e : Entry} (h : HT) (hFT : FTok Tryd.prog FT) (hf : Tryd.prog.funcs[f]? = some fn) (hb : fn.body = some (bd fn))
  (hk : (Nat.ble e.sig.args.length fn.ntmps && (okC (bd fn) h && okR e.sig fn.results.toList)) = true) (hF : ∀ x, call G [] FT [] 8 e.sig fn.ntmps fn.results.toList (bd fn) h n x = e.F x) : TC Tryd.prog f e := by
 simp only [Bool.and_eq_true] at hk
 exact tc_of good MtOk_nil ITok_nil hFT wide hf hb rfl rfl (Nat.le_of_ble_eq_true hk.1) hk.2.1 hk.2.2 fun x r h => ⟨n, (hF x).trans h⟩
theorem fo85 : funOk Tryd.prog 85 = true := by kernel_rfl
theorem tc85 : TC Tryd.prog 85 ⟨g85, sp85⟩ := tk 100000 h85 (FTok_nil) Tryd.func85 (by kernel_rfl) (by kernel_rfl) fun x => (show ∀ n, call G [] _ [] 8 g85 Tryd.f85.ntmps Tryd.f85.results.toList (bd Tryd.f85) h85 n x = sh85 n x.1 x.2.1 from fun n => by kernel_rfl) 100000
theorem fo66 : funOk Tryd.prog 66 = true := by kernel_rfl
theorem tc66 : TC Tryd.prog 66 ⟨g66, sp66⟩ := tk 0 h66 (FTok_cons fo85 tc85 (FTok_nil)) Tryd.func66 (by kernel_rfl) (by kernel_rfl) fun x => by kernel_rfl
theorem fo48 : funOk Tryd.prog 48 = true := by kernel_rfl
theorem tc48 : TC Tryd.prog 48 ⟨g48, sp48⟩ := tk 0 h48 (FTok_nil) Tryd.func48 (by kernel_rfl) (by kernel_rfl) fun x => by kernel_rfl
theorem fo86 : funOk Tryd.prog 86 = true := by kernel_rfl
theorem tc86 : TC Tryd.prog 86 ⟨g86, sp86⟩ := tk 100000 h86 (FTok_nil) Tryd.func86 (by kernel_rfl) (by kernel_rfl) fun x => (show ∀ n, call G [] _ [] 8 g86 Tryd.f86.ntmps Tryd.f86.results.toList (bd Tryd.f86) h86 n x = sh86 n x.1 x.2.1 from fun n => by kernel_rfl) 100000
theorem fo67 : funOk Tryd.prog 67 = true := by kernel_rfl
theorem tc67 : TC Tryd.prog 67 ⟨g67, sp67⟩ := tk 0 h67 (FTok_cons fo86 tc86 (FTok_nil)) Tryd.func67 (by kernel_rfl) (by kernel_rfl) fun x => by kernel_rfl
theorem fo45 : funOk Tryd.prog 45 = true := by kernel_rfl
theorem tc45 : TC Tryd.prog 45 ⟨g45, sp45⟩ := tk 0 h45 (FTok_cons fo66 tc66 (FTok_cons fo48 tc48 (FTok_cons fo67 tc67 (FTok_nil)))) Tryd.func45 (by kernel_rfl) (by kernel_rfl) fun x => by kernel_rfl
theorem fo47 : funOk Tryd.prog 47 = true := by kernel_rfl
theorem tc47 : TC Tryd.prog 47 ⟨g47, sp47⟩ := tk 100000 h47 (FTok_nil) Tryd.func47 (by kernel_rfl) (by kernel_rfl) fun x => (show ∀ n, call G [] _ [] 8 g47 Tryd.f47.ntmps Tryd.f47.results.toList (bd Tryd.f47) h47 n x = sh47 n x.1 x.2.1 x.2.2.1 from fun n => by kernel_rfl) 100000
theorem fo69 : funOk Tryd.prog 69 = true := by kernel_rfl
theorem tc69 : TC Tryd.prog 69 ⟨g69, sp69⟩ := tk 0 h69 (FTok_nil) Tryd.func69 (by kernel_rfl) (by kernel_rfl) fun x => by kernel_rfl
theorem fo70 : funOk Tryd.prog 70 = true := by kernel_rfl
theorem tc70 : TC Tryd.prog 70 ⟨g70, sp70⟩ := tk 0 h70 (FTok_nil) Tryd.func70 (by kernel_rfl) (by kernel_rfl) fun x => by kernel_rfl
theorem fo49 : funOk Tryd.prog 49 = true := by kernel_rfl
theorem tc49 : TC Tryd.prog 49 ⟨g49, sp49⟩ := tk 0 h49 (FTok_cons fo69 tc69 (FTok_cons fo70 tc70 (FTok_nil))) Tryd.func49 (by kernel_rfl) (by kernel_rfl) fun x => by kernel_rfl
theorem fo54 : funOk Tryd.prog 54 = true := by kernel_rfl
theorem tc54 : TC Tryd.prog 54 ⟨g54, sp54⟩ := tk 100000 h54 (FTok_nil) Tryd.func54 (by kernel_rfl) (by kernel_rfl) fun x => (show ∀ n, call G [] _ [] 8 g54 Tryd.f54.ntmps Tryd.f54.results.toList (bd Tryd.f54) h54 n x = sh54 n x.1 from fun n => by kernel_rfl) 100000
theorem fo31 : funOk Tryd.prog 31 = true := by kernel_rfl
theorem tc31 : TC Tryd.prog 31 ⟨g31, sp31⟩ := tk 0 h31 (FTok_cons fo48 tc48 (FTok_cons fo54 tc54 (FTok_nil))) Tryd.func31 (by kernel_rfl) (by kernel_rfl) fun x => by kernel_rfl
theorem fo38 : funOk Tryd.prog 38 = true := by kernel_rfl
theorem tc38 : TC Tryd.prog 38 ⟨g38, sp38⟩ := tk 100000 h38 (FTok_nil) Tryd.func38 (by kernel_rfl) (by kernel_rfl) fun x => (show ∀ n, call G [] _ [] 8 g38 Tryd.f38.ntmps Tryd.f38.results.toList (bd Tryd.f38) h38 n x = sh38 n x.1 x.2.1 x.2.2.1 from fun n => by kernel_rfl) 100000
theorem fo23 : funOk Tryd.prog 23 = true := by kernel_rfl
theorem tc23 : TC Tryd.prog 23 ⟨g23, sp23⟩ := tk 100000 h23 (FTok_nil) Tryd.func23 (by kernel_rfl) (by kernel_rfl) fun x => (show ∀ n, call G [] _ [] 8 g23 Tryd.f23.ntmps Tryd.f23.results.toList (bd Tryd.f23) h23 n x = sh23 n x.1 x.2.1 from fun n => by kernel_rfl) 100000
theorem fo29 : funOk Tryd.prog 29 = true := by kernel_rfl
theorem fo13 : funOk Tryd.prog 13 = true := by kernel_rfl
theorem tc13 : TC Tryd.prog 13 ⟨g13, sp13⟩ := tk 0 h13 (FTok_nil) Tryd.func13 (by kernel_rfl) (by kernel_rfl) fun x => by kernel_rfl
theorem fo21 : funOk Tryd.prog 21 = true := by kernel_rfl
end Go.Proofs.YtdkibgdkmnpncaaDoor
