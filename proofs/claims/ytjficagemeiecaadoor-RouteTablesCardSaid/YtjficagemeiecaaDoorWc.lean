/- Walks: the functions of the program, each as a typed contract. -/
import Derived.Test.YtjficagemeiecaaDoorH6
import Derived.KernelRfl
open Go Go.Proofs Go.Abs
set_option linter.unusedVariables false
set_option maxRecDepth 100000
namespace Go.Proofs.YtjficagemeiecaaDoor
theorem fo7 : funOk Tryd.prog 7 = true := by kernel_rfl
theorem tc7 : TC Tryd.prog 7 ⟨g7, sp7⟩ := by
  have hk : (Nat.ble g7.args.length Tryd.f7.ntmps && (okC (bd Tryd.f7) h7 && okR g7 Tryd.f7.results.toList)) = true := by kernel_rfl
  simp only [Bool.and_eq_true] at hk
  exact tc_of good MtOk_nil ITok_nil FTok_nil wide Tryd.func7 (by kernel_rfl) rfl rfl (Nat.le_of_ble_eq_true hk.1) hk.2.1 hk.2.2 fun x r h => ⟨x.1.1.length + 1, ((show ∀ n, call G [] [] [] 8 g7 Tryd.f7.ntmps Tryd.f7.results.toList (bd Tryd.f7) h7 n x = sh7 n x.1 from fun n => by kernel_rfl) (x.1.1.length + 1)).trans h⟩
theorem fo35 : funOk Tryd.prog 35 = true := by kernel_rfl
theorem tc35 : TC Tryd.prog 35 ⟨g35, sp35⟩ := tk 100000 h35 (FTok_nil) Tryd.func35 (by kernel_rfl) (by kernel_rfl) fun x => (show ∀ n, call G [] _ [] 8 g35 Tryd.f35.ntmps Tryd.f35.results.toList (bd Tryd.f35) h35 n x = sh35 n x.1 x.2.1 from fun n => by kernel_rfl) 100000
theorem fo67 : funOk Tryd.prog 67 = true := by kernel_rfl
theorem tc67 : TC Tryd.prog 67 ⟨g67, sp67⟩ := tk 100000 h67 (FTok_nil) Tryd.func67 (by kernel_rfl) (by kernel_rfl) fun x => (show ∀ n, call G [] _ [] 8 g67 Tryd.f67.ntmps Tryd.f67.results.toList (bd Tryd.f67) h67 n x = sh67 n x.1 from fun n => by kernel_rfl) 100000
theorem fo68 : funOk Tryd.prog 68 = true := by kernel_rfl
theorem tc68 : TC Tryd.prog 68 ⟨g68, sp68⟩ := tk 100000 h68 (FTok_nil) Tryd.func68 (by kernel_rfl) (by kernel_rfl) fun x => (show ∀ n, call G [] _ [] 8 g68 Tryd.f68.ntmps Tryd.f68.results.toList (bd Tryd.f68) h68 n x = sh68 n x.1 from fun n => by kernel_rfl) 100000
theorem fo53 : funOk Tryd.prog 53 = true := by kernel_rfl
theorem tc53 : TC Tryd.prog 53 ⟨g53, sp53⟩ := tk 0 h53 (FTok_cons fo67 tc67 (FTok_cons fo68 tc68 (FTok_nil))) Tryd.func53 (by kernel_rfl) (by kernel_rfl) fun x => by kernel_rfl
theorem fo69 : funOk Tryd.prog 69 = true := by kernel_rfl
theorem tc69 : TC Tryd.prog 69 ⟨g69, sp69⟩ := tk 0 h69 (FTok_nil) Tryd.func69 (by kernel_rfl) (by kernel_rfl) fun x => by kernel_rfl
theorem fo70 : funOk Tryd.prog 70 = true := by kernel_rfl
theorem tc70 : TC Tryd.prog 70 ⟨g70, sp70⟩ := tk 0 h70 (FTok_nil) Tryd.func70 (by kernel_rfl) (by kernel_rfl) fun x => by kernel_rfl
theorem fo54 : funOk Tryd.prog 54 = true := by kernel_rfl
theorem tc54 : TC Tryd.prog 54 ⟨g54, sp54⟩ := tk 100000 h54 (FTok_cons fo69 tc69 (FTok_cons fo70 tc70 (FTok_nil))) Tryd.func54 (by kernel_rfl) (by kernel_rfl) fun x => (show ∀ n, call G [] _ [] 8 g54 Tryd.f54.ntmps Tryd.f54.results.toList (bd Tryd.f54) h54 n x = sh54 n x.1 from fun n => by kernel_rfl) 100000
theorem fo55 : funOk Tryd.prog 55 = true := by kernel_rfl
theorem tc55 : TC Tryd.prog 55 ⟨g55, sp55⟩ := tk 0 h55 (FTok_nil) Tryd.func55 (by kernel_rfl) (by kernel_rfl) fun x => by kernel_rfl
theorem fo20 : funOk Tryd.prog 20 = true := by kernel_rfl
theorem tc20 : TC Tryd.prog 20 ⟨g20, sp20⟩ := tk 0 h20 (FTok_nil) Tryd.func20 (by kernel_rfl) (by kernel_rfl) fun x => by kernel_rfl
theorem fo36 : funOk Tryd.prog 36 = true := by kernel_rfl
theorem tc36 : TC Tryd.prog 36 ⟨g36, sp36⟩ := tk 100000 h36 (FTok_cons fo35 tc35 (FTok_cons fo53 tc53 (FTok_cons fo54 tc54 (FTok_cons fo55 tc55 (FTok_cons fo20 tc20 (FTok_nil)))))) Tryd.func36 (by kernel_rfl) (by kernel_rfl) fun x => (show ∀ n, call G [] _ [] 8 g36 Tryd.f36.ntmps Tryd.f36.results.toList (bd Tryd.f36) h36 n x = sh36 n x.1 from fun n => by kernel_rfl) 100000
theorem fo37 : funOk Tryd.prog 37 = true := by kernel_rfl
theorem tc37 : TC Tryd.prog 37 ⟨g37, sp37⟩ := tk 100000 h37 (FTok_nil) Tryd.func37 (by kernel_rfl) (by kernel_rfl) fun x => (show ∀ n, call G [] _ [] 8 g37 Tryd.f37.ntmps Tryd.f37.results.toList (bd Tryd.f37) h37 n x = sh37 n x.1 x.2.1 from fun n => by kernel_rfl) 100000
theorem fo60 : funOk Tryd.prog 60 = true := by kernel_rfl
theorem tc60 : TC Tryd.prog 60 ⟨g60, sp60⟩ := tk 0 h60 (FTok_nil) Tryd.func60 (by kernel_rfl) (by kernel_rfl) fun x => by kernel_rfl
theorem fo56 : funOk Tryd.prog 56 = true := by kernel_rfl
theorem tc56 : TC Tryd.prog 56 ⟨g56, sp56⟩ := tk 100000 h56 (FTok_cons fo54 tc54 (FTok_cons fo60 tc60 (FTok_cons fo20 tc20 (FTok_cons fo55 tc55 (FTok_nil))))) Tryd.func56 (by kernel_rfl) (by kernel_rfl) fun x => (show ∀ n, call G [] _ [] 8 g56 Tryd.f56.ntmps Tryd.f56.results.toList (bd Tryd.f56) h56 n x = sh56 n x.1 x.2.1 from fun n => by kernel_rfl) 100000
theorem fo57 : funOk Tryd.prog 57 = true := by kernel_rfl
theorem tc57 : TC Tryd.prog 57 ⟨g57, sp57⟩ := tk 100000 h57 (FTok_nil) Tryd.func57 (by kernel_rfl) (by kernel_rfl) fun x => (show ∀ n, call G [] _ [] 8 g57 Tryd.f57.ntmps Tryd.f57.results.toList (bd Tryd.f57) h57 n x = sh57 n x.1 from fun n => by kernel_rfl) 100000
theorem fo58 : funOk Tryd.prog 58 = true := by kernel_rfl
theorem tc58 : TC Tryd.prog 58 ⟨g58, sp58⟩ := tk 100000 h58 (FTok_nil) Tryd.func58 (by kernel_rfl) (by kernel_rfl) fun x => (show ∀ n, call G [] _ [] 8 g58 Tryd.f58.ntmps Tryd.f58.results.toList (bd Tryd.f58) h58 n x = sh58 n x.1 from fun n => by kernel_rfl) 100000
theorem fo21 : funOk Tryd.prog 21 = true := by kernel_rfl
theorem tc21 : TC Tryd.prog 21 ⟨g21, sp21⟩ := tk 100000 h21 (FTok_nil) Tryd.func21 (by kernel_rfl) (by kernel_rfl) fun x => (show ∀ n, call G [] _ [] 8 g21 Tryd.f21.ntmps Tryd.f21.results.toList (bd Tryd.f21) h21 n x = sh21 n x.1 x.2.1 from fun n => by kernel_rfl) 100000
theorem fo71 : funOk Tryd.prog 71 = true := by kernel_rfl
theorem tc71 : TC Tryd.prog 71 ⟨g71, sp71⟩ := tk 0 h71 (FTok_cons fo21 tc21 (FTok_nil)) Tryd.func71 (by kernel_rfl) (by kernel_rfl) fun x => by kernel_rfl
theorem fo59 : funOk Tryd.prog 59 = true := by kernel_rfl
theorem tc59 : TC Tryd.prog 59 ⟨g59, sp59⟩ := tk 100000 h59 (FTok_cons fo21 tc21 (FTok_cons fo71 tc71 (FTok_nil))) Tryd.func59 (by kernel_rfl) (by kernel_rfl) fun x => (show ∀ n, call G [] _ [] 8 g59 Tryd.f59.ntmps Tryd.f59.results.toList (bd Tryd.f59) h59 n x = sh59 n x.1 from fun n => by kernel_rfl) 100000
theorem fo38 : funOk Tryd.prog 38 = true := by kernel_rfl
theorem tc38 : TC Tryd.prog 38 ⟨g38, sp38⟩ := tk 100000 h38 (FTok_cons fo56 tc56 (FTok_cons fo57 tc57 (FTok_cons fo37 tc37 (FTok_cons fo58 tc58 (FTok_cons fo59 tc59 (FTok_cons fo60 tc60 (FTok_nil))))))) Tryd.func38 (by kernel_rfl) (by kernel_rfl) fun x => (show ∀ n, call G [] _ [] 8 g38 Tryd.f38.ntmps Tryd.f38.results.toList (bd Tryd.f38) h38 n x = sh38 n x.1 from fun n => by kernel_rfl) 100000
theorem fo23 : funOk Tryd.prog 23 = true := by kernel_rfl
theorem tc23 : TC Tryd.prog 23 ⟨g23, sp23⟩ := tk 100000 h23 (FTok_cons fo35 tc35 (FTok_cons fo36 tc36 (FTok_cons fo37 tc37 (FTok_cons fo38 tc38 (FTok_nil))))) Tryd.func23 (by kernel_rfl) (by kernel_rfl) fun x => (show ∀ n, call G [] _ [] 8 g23 Tryd.f23.ntmps Tryd.f23.results.toList (bd Tryd.f23) h23 n x = sh23 n x.1 from fun n => by kernel_rfl) 100000
theorem fo16 : funOk Tryd.prog 16 = true := by kernel_rfl
theorem tc16 : TC Tryd.prog 16 ⟨g16, sp16⟩ := tk 100000 h16 (FTok_nil) Tryd.func16 (by kernel_rfl) (by kernel_rfl) fun x => (show ∀ n, call G [] _ [] 8 g16 Tryd.f16.ntmps Tryd.f16.results.toList (bd Tryd.f16) h16 n x = sh16 n x.1 x.2.1 from fun n => by kernel_rfl) 100000
theorem fo8 : funOk Tryd.prog 8 = true := by kernel_rfl
theorem tc8 : TC Tryd.prog 8 ⟨g8, sp8⟩ := tk 0 h8 (FTok_cons fo23 tc23 (FTok_cons fo12 tc12 (FTok_cons fo14 tc14 (FTok_cons fo17 tc17 (FTok_cons fo16 tc16 (FTok_nil)))))) Tryd.func8 (by kernel_rfl) (by kernel_rfl) fun x => by kernel_rfl
theorem fo9 : funOk Tryd.prog 9 = true := by kernel_rfl
theorem tc9 : TC Tryd.prog 9 ⟨g9, sp9⟩ := tk 0 h9 (FTok_nil) Tryd.func9 (by kernel_rfl) (by kernel_rfl) fun x => by kernel_rfl
theorem fo34 : funOk Tryd.prog 34 = true := by kernel_rfl
theorem tc34 : TC Tryd.prog 34 ⟨g34, sp34⟩ := tk 0 h34 (FTok_nil) Tryd.func34 (by kernel_rfl) (by kernel_rfl) fun x => by kernel_rfl
theorem fo19 : funOk Tryd.prog 19 = true := by kernel_rfl
theorem tc19 : TC Tryd.prog 19 ⟨g19, sp19⟩ := tk 0 h19 (FTok_nil) Tryd.func19 (by kernel_rfl) (by kernel_rfl) fun x => by kernel_rfl
theorem fo22 : funOk Tryd.prog 22 = true := by kernel_rfl
theorem tc22 : TC Tryd.prog 22 ⟨g22, sp22⟩ := tk 0 h22 (FTok_cons fo34 tc34 (FTok_cons fo19 tc19 (FTok_nil))) Tryd.func22 (by kernel_rfl) (by kernel_rfl) fun x => by kernel_rfl
theorem fo24 : funOk Tryd.prog 24 = true := by kernel_rfl
theorem tc24 : TC Tryd.prog 24 ⟨g24, sp24⟩ := tk 0 h24 (FTok_cons fo22 tc22 (FTok_nil)) Tryd.func24 (by kernel_rfl) (by kernel_rfl) fun x => by kernel_rfl
theorem fo39 : funOk Tryd.prog 39 = true := by kernel_rfl
theorem tc39 : TC Tryd.prog 39 ⟨g39, sp39⟩ := tk 0 h39 (FTok_cons fo22 tc22 (FTok_nil)) Tryd.func39 (by kernel_rfl) (by kernel_rfl) fun x => by kernel_rfl
theorem fo40 : funOk Tryd.prog 40 = true := by kernel_rfl
theorem tc40 : TC Tryd.prog 40 ⟨g40, sp40⟩ := tk 100000 h40 (FTok_cons fo22 tc22 (FTok_nil)) Tryd.func40 (by kernel_rfl) (by kernel_rfl) fun x => (show ∀ n, call G [] _ [] 8 g40 Tryd.f40.ntmps Tryd.f40.results.toList (bd Tryd.f40) h40 n x = sh40 n x.1 x.2.1 x.2.2.1 from fun n => by kernel_rfl) 100000
theorem fo25 : funOk Tryd.prog 25 = true := by kernel_rfl
theorem tc25 : TC Tryd.prog 25 ⟨g25, sp25⟩ := tk 0 h25 (FTok_cons fo39 tc39 (FTok_cons fo24 tc24 (FTok_cons fo40 tc40 (FTok_nil)))) Tryd.func25 (by kernel_rfl) (by kernel_rfl) fun x => by kernel_rfl
theorem fo26 : funOk Tryd.prog 26 = true := by kernel_rfl
theorem tc26 : TC Tryd.prog 26 ⟨g26, sp26⟩ := tk 100000 h26 (FTok_cons fo22 tc22 (FTok_nil)) Tryd.func26 (by kernel_rfl) (by kernel_rfl) fun x => (show ∀ n, call G [] _ [] 8 g26 Tryd.f26.ntmps Tryd.f26.results.toList (bd Tryd.f26) h26 n x = sh26 n x.1 x.2.1 from fun n => by kernel_rfl) 100000
theorem fo10 : funOk Tryd.prog 10 = true := by kernel_rfl
theorem tc10 : TC Tryd.prog 10 ⟨g10, sp10⟩ := tk 100000 h10 (FTok_cons fo24 tc24 (FTok_cons fo25 tc25 (FTok_cons fo22 tc22 (FTok_cons fo21 tc21 (FTok_cons fo26 tc26 (FTok_nil)))))) Tryd.func10 (by kernel_rfl) (by kernel_rfl) fun x => (show ∀ n, call G [] _ [] 8 g10 Tryd.f10.ntmps Tryd.f10.results.toList (bd Tryd.f10) h10 n x = sh10 n x.1 from fun n => by kernel_rfl) 100000
theorem fo11 : funOk Tryd.prog 11 = true := by kernel_rfl
theorem tc11 : TC Tryd.prog 11 ⟨g11, sp11⟩ := tk 100000 h11 (FTok_nil) Tryd.func11 (by kernel_rfl) (by kernel_rfl) fun x => (show ∀ n, call G [] _ [] 8 g11 Tryd.f11.ntmps Tryd.f11.results.toList (bd Tryd.f11) h11 n x = sh11 n x.1 x.2.1 from fun n => by kernel_rfl) 100000
theorem fo29 : funOk Tryd.prog 29 = true := by kernel_rfl
theorem tc29 : TC Tryd.prog 29 ⟨g29, sp29⟩ := tk 0 h29 (FTok_cons fo20 tc20 (FTok_cons fo38 tc38 (FTok_nil))) Tryd.func29 (by kernel_rfl) (by kernel_rfl) fun x => by kernel_rfl
theorem fo42 : funOk Tryd.prog 42 = true := by kernel_rfl
theorem tc42 : TC Tryd.prog 42 ⟨g42, sp42⟩ := tk 0 h42 (FTok_cons fo38 tc38 (FTok_cons fo59 tc59 (FTok_nil))) Tryd.func42 (by kernel_rfl) (by kernel_rfl) fun x => by kernel_rfl
theorem fo43 : funOk Tryd.prog 43 = true := by kernel_rfl
theorem tc43 : TC Tryd.prog 43 ⟨g43, sp43⟩ := tk 0 h43 (FTok_nil) Tryd.func43 (by kernel_rfl) (by kernel_rfl) fun x => by kernel_rfl
theorem fo30 : funOk Tryd.prog 30 = true := by kernel_rfl
theorem tc30 : TC Tryd.prog 30 ⟨g30, sp30⟩ := tk 100000 h30 (FTok_cons fo42 tc42 (FTok_cons fo43 tc43 (FTok_cons fo20 tc20 (FTok_nil)))) Tryd.func30 (by kernel_rfl) (by kernel_rfl) fun x => (show ∀ n, call G [] _ [] 8 g30 Tryd.f30.ntmps Tryd.f30.results.toList (bd Tryd.f30) h30 n x = sh30 n x.1 x.2.1 x.2.2.1 from fun n => by kernel_rfl) 100000
theorem fo13 : funOk Tryd.prog 13 = true := by kernel_rfl
theorem tc13 : TC Tryd.prog 13 ⟨g13, sp13⟩ := tk 0 h13 (FTok_cons fo29 tc29 (FTok_cons fo30 tc30 (FTok_nil))) Tryd.func13 (by kernel_rfl) (by kernel_rfl) fun x => by kernel_rfl
theorem fo15 : funOk Tryd.prog 15 = true := by kernel_rfl
theorem tc15 : TC Tryd.prog 15 ⟨g15, sp15⟩ := tk 100000 h15 (FTok_cons fo13 tc13 (FTok_cons fo30 tc30 (FTok_cons fo20 tc20 (FTok_nil)))) Tryd.func15 (by kernel_rfl) (by kernel_rfl) fun x => (show ∀ n, call G [] _ [] 8 g15 Tryd.f15.ntmps Tryd.f15.results.toList (bd Tryd.f15) h15 n x = sh15 n x.1 x.2.1 x.2.2.1 x.2.2.2.1 from fun n => by kernel_rfl) 100000
theorem fo18 : funOk Tryd.prog 18 = true := by kernel_rfl
theorem tc18 : TC Tryd.prog 18 ⟨g18, sp18⟩ := tk 100000 h18 (FTok_cons fo13 tc13 (FTok_nil)) Tryd.func18 (by kernel_rfl) (by kernel_rfl) fun x => (show ∀ n, call G [] _ [] 8 g18 Tryd.f18.ntmps Tryd.f18.results.toList (bd Tryd.f18) h18 n x = sh18 n x.1 x.2.1 x.2.2.1 from fun n => by kernel_rfl) 100000
theorem tc3 : TC Tryd.prog 3 ⟨g3, sp3⟩ := tk 100000 h3 (FTok_cons fo7 tc7 (FTok_cons fo8 tc8 (FTok_cons fo9 tc9 (FTok_cons fo10 tc10 (FTok_cons fo11 tc11 (FTok_cons fo12 tc12 (FTok_cons fo13 tc13 (FTok_cons fo14 tc14 (FTok_cons fo15 tc15 (FTok_cons fo17 tc17 (FTok_cons fo18 tc18 (FTok_cons fo16 tc16 (FTok_nil))))))))))))) Tryd.func3 (by kernel_rfl) (by kernel_rfl) fun x => (show ∀ n, call G [] _ [] 8 g3 Tryd.f3.ntmps Tryd.f3.results.toList (bd Tryd.f3) h3 n x = sh3 n x.1 x.2.1 x.2.2.1 x.2.2.2.1 x.2.2.2.2.1 x.2.2.2.2.2.1 from fun n => by kernel_rfl) 100000
end Go.Proofs.YtjficagemeiecaaDoor
