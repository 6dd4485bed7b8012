/- Walks: the functions of the program, each as a typed contract. -/
import Derived.Test.YtjpikgfknnamjaaDoorWa
import Derived.KernelRfl
open Go Go.Proofs Go.Abs
set_option linter.unusedVariables false
set_option maxRecDepth 100000
namespace Go.Proofs.YtjpikgfknnamjaaDoor
theorem wide : Tryd.prog.follows .mixedOrders = true := by kernel_rfl
theorem good : Go.Abs.Good Tryd.prog G := good_of (by kernel_rfl)
theorem tk (n : Nat) {FT : List (Nat × Entry)} {f : FuncId} {fn : Func} {e : Entry} (h : HT) (hFT : FTok Tryd.prog FT) (hf : Tryd.prog.funcs[f]? = some fn) (hb : fn.body = some (bd fn))
  (hk : (Nat.ble e.sig.args.length fn.ntmps && (okC (bd fn) h && okR e.sig fn.results.toList)) = true) (hF : ∀ x, call G [] FT [] 8 e.sig fn.ntmps fn.results.toList (bd fn) h n x = e.F x) : TC Tryd.prog f e := by
 simp only [Bool.and_eq_true] at hk
 exact tc_of good MtOk_nil ITok_nil hFT wide hf hb rfl rfl (Nat.le_of_ble_eq_true hk.1) hk.2.1 hk.2.2 fun x r h => ⟨n, (hF x).trans h⟩
theorem fo29 : funOk Tryd.prog 29 = true := by kernel_rfl
theorem tc29 : TC Tryd.prog 29 ⟨g29, sp29⟩ := tk 0 h29 (FTok_nil) Tryd.func29 (by kernel_rfl) (by kernel_rfl) fun x => by kernel_rfl
theorem fo73 : funOk Tryd.prog 73 = true := by kernel_rfl
theorem tc73 : TC Tryd.prog 73 ⟨g73, sp73⟩ := tk 0 h73 (FTok_nil) Tryd.func73 (by kernel_rfl) (by kernel_rfl) fun x => by kernel_rfl
theorem fo74 : funOk Tryd.prog 74 = true := by kernel_rfl
theorem tc74 : TC Tryd.prog 74 ⟨g74, sp74⟩ := tk 0 h74 (FTok_nil) Tryd.func74 (by kernel_rfl) (by kernel_rfl) fun x => by kernel_rfl
theorem fo52 : funOk Tryd.prog 52 = true := by kernel_rfl
theorem tc52 : TC Tryd.prog 52 ⟨g52, sp52⟩ := tk 100000 h52 (FTok_cons fo73 tc73 (FTok_cons fo74 tc74 (FTok_nil))) Tryd.func52 (by kernel_rfl) (by kernel_rfl) fun x => (show ∀ n, call G [] _ [] 8 g52 Tryd.f52.ntmps Tryd.f52.results.toList (bd Tryd.f52) h52 n x = sh52 n x.1 from fun n => by kernel_rfl) 100000
theorem fo30 : funOk Tryd.prog 30 = true := by kernel_rfl
theorem tc30 : TC Tryd.prog 30 ⟨g30, sp30⟩ := tk 0 h30 (FTok_cons fo52 tc52 (FTok_nil)) Tryd.func30 (by kernel_rfl) (by kernel_rfl) fun x => by kernel_rfl
theorem fo31 : funOk Tryd.prog 31 = true := by kernel_rfl
theorem tc31 : TC Tryd.prog 31 ⟨g31, sp31⟩ := tk 0 h31 (FTok_nil) Tryd.func31 (by kernel_rfl) (by kernel_rfl) fun x => by kernel_rfl
theorem fo34 : funOk Tryd.prog 34 = true := by kernel_rfl
theorem tc34 : TC Tryd.prog 34 ⟨g34, sp34⟩ := tk 0 h34 (FTok_nil) Tryd.func34 (by kernel_rfl) (by kernel_rfl) fun x => by kernel_rfl
theorem fo35 : funOk Tryd.prog 35 = true := by kernel_rfl
theorem tc35 : TC Tryd.prog 35 ⟨g35, sp35⟩ := tk 0 h35 (FTok_cons fo34 tc34 (FTok_nil)) Tryd.func35 (by kernel_rfl) (by kernel_rfl) fun x => by kernel_rfl
end Go.Proofs.YtjpikgfknnamjaaDoor
