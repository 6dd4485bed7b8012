/- Walks: the functions of the program, each as a typed contract. -/
import Derived.Test.YtdkibgdkmnpncaaDoorWa
import Derived.KernelRfl
open Go Go.Proofs Go.Abs
set_option linter.unusedVariables false
set_option maxRecDepth 100000
namespace Go.Proofs.YtdkibgdkmnpncaaDoor
theorem wide : Tryd.prog.follows .mixedOrders = true := by kernel_rfl
theorem vL : Go.Abs.Good Tryd.prog G := KU (by kernel_rfl)
theorem tk (n : Nat) {FT : List (Nat × Entry)} {f : FuncId} {fn : Func} {e : Entry} (h : HT) (hFT : gv Tryd.prog FT) (hf : Tryd.prog.funcs[f]? = some fn) (hb : fn.body = some (bd fn))
  (hk : (Nat.ble e.sig.args.length fn.ntmps && (uK (bd fn) h && Kx e.sig fn.results.toList)) = true) (hF : ∀ x, call G [] FT [] 8 e.sig fn.ntmps fn.results.toList (bd fn) h n x = e.F x) : TC Tryd.prog f e := by
 simp only [Bool.and_eq_true] at hk
 exact vw vL gw ic hFT wide hf hb rfl rfl (Nat.le_of_ble_eq_true hk.1) hk.2.1 hk.2.2 fun x r h => ⟨n, (hF x).trans h⟩
theorem UQ : au Tryd.prog 85 = true := by kernel_rfl
theorem WL : TC Tryd.prog 85 ⟨XZ, MZ⟩ := tk 100000 Yz (af) Tryd.func85 (by kernel_rfl) (by kernel_rfl) fun x => (show ∀ n, call G [] _ [] 8 XZ Tryd.f85.ntmps Tryd.f85.results.toList (bd Tryd.f85) Yz n x = Hl n x.1 x.2.1 from fun n => by kernel_rfl) 100000
theorem QZ : au Tryd.prog 66 = true := by kernel_rfl
theorem SB : TC Tryd.prog 66 ⟨ZP, JV⟩ := tk 0 h66 (ab UQ WL (af)) Tryd.func66 (by kernel_rfl) (by kernel_rfl) fun x => by kernel_rfl
theorem Ip : au Tryd.prog 48 = true := by kernel_rfl
theorem J4 : TC Tryd.prog 48 ⟨XK, yJ⟩ := tk 0 h48 (af) Tryd.func48 (by kernel_rfl) (by kernel_rfl) fun x => by kernel_rfl
theorem UR : au Tryd.prog 86 = true := by kernel_rfl
theorem WN : TC Tryd.prog 86 ⟨X0, M1⟩ := tk 100000 Rc (af) Tryd.func86 (by kernel_rfl) (by kernel_rfl) fun x => (show ∀ n, call G [] _ [] 8 X0 Tryd.f86.ntmps Tryd.f86.results.toList (bd Tryd.f86) Rc n x = Hm n x.1 x.2.1 from fun n => by kernel_rfl) 100000
theorem UD : au Tryd.prog 67 = true := by kernel_rfl
theorem Wx : TC Tryd.prog 67 ⟨ZQ, Pv⟩ := tk 0 h67 (ab UR WN (af)) Tryd.func67 (by kernel_rfl) (by kernel_rfl) fun x => by kernel_rfl
theorem Un : au Tryd.prog 45 = true := by kernel_rfl
theorem Wm : TC Tryd.prog 45 ⟨XJ, MM⟩ := tk 0 h45 (ab QZ SB (ab Ip J4 (ab UD Wx (af)))) Tryd.func45 (by kernel_rfl) (by kernel_rfl) fun x => by kernel_rfl
theorem Uq : au Tryd.prog 47 = true := by kernel_rfl
theorem Wn : TC Tryd.prog 47 ⟨Vc, MN⟩ := tk 100000 Yi (af) Tryd.func47 (by kernel_rfl) (by kernel_rfl) fun x => (show ∀ n, call G [] _ [] 8 Vc Tryd.f47.ntmps Tryd.f47.results.toList (bd Tryd.f47) Yi n x = L4 n x.1 x.2.1 x.2.2.1 from fun n => by kernel_rfl) 100000
theorem UE : au Tryd.prog 69 = true := by kernel_rfl
theorem Wy : TC Tryd.prog 69 ⟨ZR, VW⟩ := tk 0 h69 (af) Tryd.func69 (by kernel_rfl) (by kernel_rfl) fun x => by kernel_rfl
theorem UF : au Tryd.prog 70 = true := by kernel_rfl
theorem Wz : TC Tryd.prog 70 ⟨ZS, Sf⟩ := tk 0 h70 (af) Tryd.func70 (by kernel_rfl) (by kernel_rfl) fun x => by kernel_rfl
theorem Ur : au Tryd.prog 49 = true := by kernel_rfl
theorem Wo : TC Tryd.prog 49 ⟨XM, Hw⟩ := tk 0 h49 (ab UE Wy (ab UF Wz (af))) Tryd.func49 (by kernel_rfl) (by kernel_rfl) fun x => by kernel_rfl
theorem Ut : au Tryd.prog 54 = true := by kernel_rfl
theorem Wq : TC Tryd.prog 54 ⟨XR, Pt⟩ := tk 100000 S7 (af) Tryd.func54 (by kernel_rfl) (by kernel_rfl) fun x => (show ∀ n, call G [] _ [] 8 XR Tryd.f54.ntmps Tryd.f54.results.toList (bd Tryd.f54) S7 n x = Mh n x.1 from fun n => by kernel_rfl) 100000
theorem QS : au Tryd.prog 31 = true := by kernel_rfl
theorem Su : TC Tryd.prog 31 ⟨Va, Hu⟩ := tk 0 Z8 (ab Ip J4 (ab Ut Wq (af))) Tryd.func31 (by kernel_rfl) (by kernel_rfl) fun x => by kernel_rfl
theorem Wj : TC Tryd.prog 38 ⟨XF, Hv⟩ := tk 100000 Yg (af) Tryd.func38 (by kernel_rfl) (by kernel_rfl) fun x => (show ∀ n, call G [] _ [] 8 XF Tryd.f38.ntmps Tryd.f38.results.toList (bd Tryd.f38) Yg n x = LX n x.1 x.2.1 x.2.2.1 from fun n => by kernel_rfl) 100000
theorem N4 : au Tryd.prog 23 = true := by kernel_rfl
theorem M9 : TC Tryd.prog 23 ⟨Xz, yI⟩ := tk 100000 Ya (af) Tryd.func23 (by kernel_rfl) (by kernel_rfl) fun x => (show ∀ n, call G [] _ [] 8 Xz Tryd.f23.ntmps Tryd.f23.results.toList (bd Tryd.f23) Ya n x = LJ n x.1 x.2.1 from fun n => by kernel_rfl) 100000
theorem Ub : au Tryd.prog 29 = true := by kernel_rfl
theorem Io : au Tryd.prog 13 = true := by kernel_rfl
theorem J3 : TC Tryd.prog 13 ⟨ZD, yH⟩ := tk 0 Z2 (af) Tryd.func13 (by kernel_rfl) (by kernel_rfl) fun x => by kernel_rfl
theorem T7 : au Tryd.prog 21 = true := by kernel_rfl
end Go.Proofs.YtdkibgdkmnpncaaDoor
