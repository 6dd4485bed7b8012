/- Walks: the functions of the program, each as a typed contract. -/
import Derived.Test.YtdkibgdkmnpncaaDoorH6
import Derived.Test.YtdkibgdkmnpncaaDoorH11
import Derived.KernelRfl
open Go Go.Proofs Go.Abs
set_option linter.unusedVariables false
set_option maxRecDepth 100000
namespace Go.Proofs.YtdkibgdkmnpncaaDoor
theorem ZA : au Tryd.prog 7 = true := by kernel_rfl
theorem tc7 : TC Tryd.prog 7 ⟨g7, VX⟩ := tk 0 h7 (af) Tryd.func7 (by kernel_rfl) (by kernel_rfl) fun x => by kernel_rfl
theorem Uf : au Tryd.prog 34 = true := by kernel_rfl
theorem Wf : TC Tryd.prog 34 ⟨ZL, Pq⟩ := tk 0 h34 (af) Tryd.func34 (by kernel_rfl) (by kernel_rfl) fun x => by kernel_rfl
theorem Ue : au Tryd.prog 33 = true := by kernel_rfl
theorem We : TC Tryd.prog 33 ⟨ZK, Pp⟩ := tk 0 Z9 (af) Tryd.func33 (by kernel_rfl) (by kernel_rfl) fun x => by kernel_rfl
theorem xo : au Tryd.prog 18 = true := by kernel_rfl
theorem yK : TC Tryd.prog 18 ⟨ZG, oh⟩ := tk 0 Z5 (ab Uf Wf (ab Ue We (af))) Tryd.func18 (by kernel_rfl) (by kernel_rfl) fun x => by kernel_rfl
theorem KO : au Tryd.prog 17 = true := by kernel_rfl
theorem M8 : TC Tryd.prog 17 ⟨ZF, rO⟩ := tk 0 Z4 (ab xo yK (af)) Tryd.func17 (by kernel_rfl) (by kernel_rfl) fun x => by kernel_rfl
theorem QP : au Tryd.prog 25 = true := by kernel_rfl
theorem Sq : TC Tryd.prog 25 ⟨ZJ, DQ⟩ := tk 0 Z7 (ab xo yK (af)) Tryd.func25 (by kernel_rfl) (by kernel_rfl) fun x => by kernel_rfl
theorem Uj : au Tryd.prog 39 = true := by kernel_rfl
theorem Wk : TC Tryd.prog 39 ⟨XG, MK⟩ := tk 100000 Yh (ab xo yK (af)) Tryd.func39 (by kernel_rfl) (by kernel_rfl) fun x => (show ∀ n, call G [] _ [] 8 XG Tryd.f39.ntmps Tryd.f39.results.toList (bd Tryd.f39) Yh n x = LY n x.1 x.2.1 x.2.2.1 from fun n => by kernel_rfl) 100000
theorem T8 : au Tryd.prog 22 = true := by kernel_rfl
theorem V8 : TC Tryd.prog 22 ⟨ZI, Ht⟩ := tk 0 Z6 (ab QP Sq (ab KO M8 (ab Uj Wk (af)))) Tryd.func22 (by kernel_rfl) (by kernel_rfl) fun x => by kernel_rfl
theorem T9 : au Tryd.prog 24 = true := by kernel_rfl
theorem V9 : TC Tryd.prog 24 ⟨XA, Pm⟩ := tk 100000 Yb (ab xo yK (af)) Tryd.func24 (by kernel_rfl) (by kernel_rfl) fun x => (show ∀ n, call G [] _ [] 8 XA Tryd.f24.ntmps Tryd.f24.results.toList (bd Tryd.f24) Yb n x = LK n x.1 x.2.1 from fun n => by kernel_rfl) 100000
theorem ZB : au Tryd.prog 8 = true := by kernel_rfl
theorem tc8 : TC Tryd.prog 8 ⟨g8, Th⟩ := tk 100000 h8 (ab KO M8 (ab T8 V8 (ab xo yK (ab N4 M9 (ab T9 V9 (af)))))) Tryd.func8 (by kernel_rfl) (by kernel_rfl) fun x => (show ∀ n, call G [] _ [] 8 g8 Tryd.f8.ntmps Tryd.f8.results.toList (bd Tryd.f8) h8 n x = Tf n x.1 from fun n => by kernel_rfl) 100000
theorem ZC : au Tryd.prog 9 = true := by kernel_rfl
theorem tc9 : TC Tryd.prog 9 ⟨g9, VY⟩ := tk 100000 h9 (ab xo yK (af)) Tryd.func9 (by kernel_rfl) (by kernel_rfl) fun x => (show ∀ n, call G [] _ [] 8 g9 Tryd.f9.ntmps Tryd.f9.results.toList (bd Tryd.f9) h9 n x = Tg n x.1 x.2.1 x.2.2.1 from fun n => by kernel_rfl) 100000
theorem T0 : au Tryd.prog 10 = true := by kernel_rfl
theorem V2 : TC Tryd.prog 10 ⟨Xu, Pj⟩ := tk 100000 Rb (ab xo yK (ab QP Sq (af))) Tryd.func10 (by kernel_rfl) (by kernel_rfl) fun x => (show ∀ n, call G [] _ [] 8 Xu Tryd.f10.ntmps Tryd.f10.results.toList (bd Tryd.f10) Rb n x = LC n x.1 x.2.1 from fun n => by kernel_rfl) 100000
theorem T3 : au Tryd.prog 12 = true := by kernel_rfl
theorem V3 : TC Tryd.prog 12 ⟨Xv, Pk⟩ := tk 100000 Vj (ab xo yK (ab KO M8 (af))) Tryd.func12 (by kernel_rfl) (by kernel_rfl) fun x => (show ∀ n, call G [] _ [] 8 Xv Tryd.f12.ntmps Tryd.f12.results.toList (bd Tryd.f12) Vj n x = LD n x.1 x.2.1 x.2.2.1 from fun n => by kernel_rfl) 100000
theorem UX : au Tryd.prog 91 = true := by kernel_rfl
theorem WT : TC Tryd.prog 91 ⟨X3, Hz⟩ := tk 0 h91 (af) Tryd.func91 (by kernel_rfl) (by kernel_rfl) fun x => by kernel_rfl
theorem U0 : au Tryd.prog 94 = true := by kernel_rfl
theorem WU : TC Tryd.prog 94 ⟨X4, PF⟩ := tk 0 h94 (af) Tryd.func94 (by kernel_rfl) (by kernel_rfl) fun x => by kernel_rfl
theorem TV (fuel : Nat) (x0 : (S1.args.getD 0 (.v (.ty .bool))).T) (x1 : (S1.args.getD 1 (.v (.ty .bool))).T) : call G Qv Qj Qp 8 S1 22 [.tmp 4] Xe Yx fuel (x0, x1, ()) = Mw fuel x0 x1 := by kernel_rfl
theorem UL : au Tryd.prog 79 = true := by kernel_rfl
theorem UY : au Tryd.prog 92 = true := by kernel_rfl
theorem UZ : au Tryd.prog 93 = true := by kernel_rfl
theorem Vt : ow Tryd.prog Qp := dZ UY Tryd.func92 (by kernel_rfl) rfl (by kernel_rfl) (dZ UZ Tryd.func93 (by kernel_rfl) rfl (by kernel_rfl) (ic))
theorem VG : oy Tryd.prog Qv := gw
theorem U8 : gv Tryd.prog Qj := ab UX WT (ab U0 WU (af))
theorem WG : TC Tryd.prog 79 ⟨S1, PA⟩ := vw (N := 22) (rv := [.tmp 4]) (c := Xe) (h := Yx) vL VG Vt U8 wide Tryd.func79 (by kernel_rfl) rfl (by kernel_rfl) (by decide) (by kernel_rfl) (by kernel_rfl) fun x r h => ⟨100000, (TV 100000 x.1 x.2.1).trans h⟩
theorem UM : au Tryd.prog 80 = true := by kernel_rfl
theorem WH : TC Tryd.prog 80 ⟨ZX, PB⟩ := tk 0 h80 (ab Ip J4 (af)) Tryd.func80 (by kernel_rfl) (by kernel_rfl) fun x => by kernel_rfl
theorem U1 : au Tryd.prog 95 = true := by kernel_rfl
theorem WV : TC Tryd.prog 95 ⟨Z1, PG⟩ := tk 0 h95 (af) Tryd.func95 (by kernel_rfl) (by kernel_rfl) fun x => by kernel_rfl
theorem UN : au Tryd.prog 81 = true := by kernel_rfl
theorem WI : TC Tryd.prog 81 ⟨XY, MY⟩ := tk 100000 Yy (ab U1 WV (ab QZ SB (af))) Tryd.func81 (by kernel_rfl) (by kernel_rfl) fun x => (show ∀ n, call G [] _ [] 8 XY Tryd.f81.ntmps Tryd.f81.results.toList (bd Tryd.f81) Yy n x = Mz n x.1 x.2.1 from fun n => by kernel_rfl) 100000
theorem Uv : au Tryd.prog 57 = true := by kernel_rfl
theorem Ws : TC Tryd.prog 57 ⟨XT, MR⟩ := tk 0 h57 (ab UL WG (ab UM WH (ab UN WI (af)))) Tryd.func57 (by kernel_rfl) (by kernel_rfl) fun x => by kernel_rfl
theorem Uw : au Tryd.prog 58 = true := by kernel_rfl
theorem Wt : TC Tryd.prog 58 ⟨Vd, MS⟩ := tk 100000 Yo (af) Tryd.func58 (by kernel_rfl) (by kernel_rfl) fun x => (show ∀ n, call G [] _ [] 8 Vd Tryd.f58.ntmps Tryd.f58.results.toList (bd Tryd.f58) Yo n x = Ml n x.1 from fun n => by kernel_rfl) 100000
theorem TW (fuel : Nat) (x0 : (S2.args.getD 0 (.v (.ty .bool))).T) (x1 : (S2.args.getD 1 (.v (.ty .bool))).T) : call G Qw Qk Qq 8 S2 9 [.tmp 4] Xf S8 fuel (x0, x1, ()) = MA fuel x0 x1 := by kernel_rfl
theorem UO : au Tryd.prog 82 = true := by kernel_rfl
theorem Q3 : au Tryd.prog 84 = true := by kernel_rfl
theorem U2 : au Tryd.prog 96 = true := by kernel_rfl
theorem Vu : ow Tryd.prog Qq := dZ Q3 Tryd.func84 (by kernel_rfl) rfl (by kernel_rfl) (dZ U2 Tryd.func96 (by kernel_rfl) rfl (by kernel_rfl) (ic))
theorem VH : oy Tryd.prog Qw := gw
theorem U9 : gv Tryd.prog Qk := af
theorem WJ : TC Tryd.prog 82 ⟨S2, PD⟩ := vw (N := 9) (rv := [.tmp 4]) (c := Xf) (h := S8) vL VH Vu U9 wide Tryd.func82 (by kernel_rfl) rfl (by kernel_rfl) (by decide) (by kernel_rfl) (by kernel_rfl) fun x r h => ⟨100000, (TW 100000 x.1 x.2.1).trans h⟩
theorem Ux : au Tryd.prog 59 = true := by kernel_rfl
theorem Wu : TC Tryd.prog 59 ⟨Ve, MT⟩ := tk 100000 Yp (ab UO WJ (af)) Tryd.func59 (by kernel_rfl) (by kernel_rfl) fun x => (show ∀ n, call G [] _ [] 8 Ve Tryd.f59.ntmps Tryd.f59.results.toList (bd Tryd.f59) Yp n x = Mm n x.1 from fun n => by kernel_rfl) 100000
theorem Uy : au Tryd.prog 60 = true := by kernel_rfl
theorem Wv : TC Tryd.prog 60 ⟨Vf, MU⟩ := tk 100000 Yq (af) Tryd.func60 (by kernel_rfl) (by kernel_rfl) fun x => (show ∀ n, call G [] _ [] 8 Vf Tryd.f60.ntmps Tryd.f60.results.toList (bd Tryd.f60) Yq n x = Mn n x.1 x.2.1 from fun n => by kernel_rfl) 100000
theorem QY : au Tryd.prog 61 = true := by kernel_rfl
theorem SA : TC Tryd.prog 61 ⟨Vg, Hx⟩ := tk 100000 Yr (af) Tryd.func61 (by kernel_rfl) (by kernel_rfl) fun x => (show ∀ n, call G [] _ [] 8 Vg Tryd.f61.ntmps Tryd.f61.results.toList (bd Tryd.f61) Yr n x = Mo n x.1 from fun n => by kernel_rfl) 100000
theorem U3 : au Tryd.prog 97 = true := by kernel_rfl
theorem WW : TC Tryd.prog 97 ⟨X5, PH⟩ := tk 100000 YC (af) Tryd.func97 (by kernel_rfl) (by kernel_rfl) fun x => (show ∀ n, call G [] _ [] 8 X5 Tryd.f97.ntmps Tryd.f97.results.toList (bd Tryd.f97) YC n x = MI n x.1 x.2.1 from fun n => by kernel_rfl) 100000
theorem UP : au Tryd.prog 83 = true := by kernel_rfl
theorem WK : TC Tryd.prog 83 ⟨ZY, PE⟩ := tk 0 h83 (ab U3 WW (af)) Tryd.func83 (by kernel_rfl) (by kernel_rfl) fun x => by kernel_rfl
theorem Uz : au Tryd.prog 62 = true := by kernel_rfl
theorem Ww : TC Tryd.prog 62 ⟨Vh, MV⟩ := tk 100000 Ys (ab UP WK (af)) Tryd.func62 (by kernel_rfl) (by kernel_rfl) fun x => (show ∀ n, call G [] _ [] 8 Vh Tryd.f62.ntmps Tryd.f62.results.toList (bd Tryd.f62) Ys n x = Mp n x.1 from fun n => by kernel_rfl) 100000
theorem TU (fuel : Nat) (x0 : (Q5.args.getD 0 (.v (.ty .bool))).T) : call G Qu Qi Qo 8 Q5 65 [.tmp 2] Xd Vk fuel (x0, ()) = LZ fuel x0 := by kernel_rfl
theorem N5 : au Tryd.prog 40 = true := by kernel_rfl
theorem UA : au Tryd.prog 63 = true := by kernel_rfl
theorem UB : au Tryd.prog 64 = true := by kernel_rfl
theorem Vs : ow Tryd.prog Qo := dZ UA Tryd.func63 (by kernel_rfl) rfl (by kernel_rfl) (dZ Q3 Tryd.func84 (by kernel_rfl) rfl (by kernel_rfl) (dZ UB Tryd.func64 (by kernel_rfl) rfl (by kernel_rfl) (ic)))
theorem VF : oy Tryd.prog Qu := gw
theorem U7 : gv Tryd.prog Qi := ab Uv Ws (ab Uw Wt (ab Ux Wu (ab Uy Wv (ab QY SA (ab Uz Ww (af))))))
theorem PN : TC Tryd.prog 40 ⟨Q5, BC⟩ := vw (N := 65) (rv := [.tmp 2]) (c := Xd) (h := Vk) vL VF Vs U7 wide Tryd.func40 (by kernel_rfl) rfl (by kernel_rfl) (by decide) (by kernel_rfl) (by kernel_rfl) fun x r h => ⟨100000, (TU 100000 x.1).trans h⟩
theorem QT : au Tryd.prog 41 = true := by kernel_rfl
theorem Sv : TC Tryd.prog 41 ⟨Vb, DU⟩ := tk 0 h41 (ab N5 PN (ab QY SA (af))) Tryd.func41 (by kernel_rfl) (by kernel_rfl) fun x => by kernel_rfl
theorem QR : au Tryd.prog 27 = true := by kernel_rfl
theorem Ss : TC Tryd.prog 27 ⟨S0, DR⟩ := tk 100000 Yc (af) Tryd.func27 (by kernel_rfl) (by kernel_rfl) fun x => (show ∀ n, call G [] _ [] 8 S0 Tryd.f27.ntmps Tryd.f27.results.toList (bd Tryd.f27) Yc n x = LM n x.1 x.2.1 from fun n => by kernel_rfl) 100000
theorem Uk : au Tryd.prog 42 = true := by kernel_rfl
theorem Wl : TC Tryd.prog 42 ⟨XH, ML⟩ := tk 0 h42 (ab Ip J4 (af)) Tryd.func42 (by kernel_rfl) (by kernel_rfl) fun x => by kernel_rfl
theorem TT (fuel : Nat) (x0 : (P0.args.getD 0 (.v (.ty .bool))).T) (x1 : (P0.args.getD 1 (.v (.ty .bool))).T) (x2 : (P0.args.getD 2 (.v (.ty .bool))).T) : call G Qt Qh Qn 8 P0 108 [.tmp 6] Xc P3 fuel (x0, x1, x2, ()) = LN fuel x0 x1 x2 := by kernel_rfl
theorem Ua : au Tryd.prog 28 = true := by kernel_rfl
theorem Ul : au Tryd.prog 43 = true := by kernel_rfl
theorem UC : au Tryd.prog 65 = true := by kernel_rfl
theorem Um : au Tryd.prog 44 = true := by kernel_rfl
theorem Vr : ow Tryd.prog Qn := dZ Ul Tryd.func43 (by kernel_rfl) rfl (by kernel_rfl) (dZ UC Tryd.func65 (by kernel_rfl) rfl (by kernel_rfl) (dZ Um Tryd.func44 (by kernel_rfl) rfl (by kernel_rfl) (ic)))
theorem VE : oy Tryd.prog Qt := gw
theorem U6 : gv Tryd.prog Qh := ab Uk Wl (af)
theorem Wa : TC Tryd.prog 28 ⟨P0, DS⟩ := vw (N := 108) (rv := [.tmp 6]) (c := Xc) (h := P3) vL VE Vr U6 wide Tryd.func28 (by kernel_rfl) rfl (by kernel_rfl) (by decide) (by kernel_rfl) (by kernel_rfl) fun x r h => ⟨100000, (TT 100000 x.1 x.2.1 x.2.2.1).trans h⟩
theorem TQ (fuel : Nat) (x0 : (PZ.args.getD 0 (.v (.ty .bool))).T) (x1 : (PZ.args.getD 1 (.v (.ty .bool))).T) (x2 : (PZ.args.getD 2 (.v (.ty .bool))).T) (x3 : (PZ.args.getD 3 (.v (.ty .bool))).T) : call G Qr Qf Ql 8 PZ 40 [.cell 8 36, .tmp 9] W9 ll fuel (x0, x1, x2, x3, ()) = AL fuel x0 x1 x2 x3 := by kernel_rfl
theorem QM : au Tryd.prog 11 = true := by kernel_rfl
theorem QQ : au Tryd.prog 26 = true := by kernel_rfl
theorem Vp : ow Tryd.prog Ql := dZ QQ Tryd.func26 (by kernel_rfl) rfl (by kernel_rfl) (ic)
theorem VC : oy Tryd.prog Qr := gw
theorem U4 : gv Tryd.prog Qf := ab N5 PN (ab QT Sv (ab QR Ss (ab Ua Wa (ab Ub Wb (af)))))
theorem Sn : TC Tryd.prog 11 ⟨PZ, BB⟩ := vw (N := 40) (rv := [.cell 8 36, .tmp 9]) (c := W9) (h := ll) vL VC Vp U4 wide Tryd.func11 (by kernel_rfl) rfl (by kernel_rfl) (by decide) (by kernel_rfl) (by kernel_rfl) fun x r h => ⟨0, (TQ 0 x.1 x.2.1 x.2.2.1 x.2.2.2.1).trans h⟩
theorem QU : au Tryd.prog 50 = true := by kernel_rfl
theorem Sw : TC Tryd.prog 50 ⟨XN, Ps⟩ := tk 100000 Yj (af) Tryd.func50 (by kernel_rfl) (by kernel_rfl) fun x => (show ∀ n, call G [] _ [] 8 XN Tryd.f50.ntmps Tryd.f50.results.toList (bd Tryd.f50) Yj n x = R6 n x.1 x.2.1 from fun n => by kernel_rfl) 100000
theorem US : au Tryd.prog 87 = true := by kernel_rfl
theorem WO : TC Tryd.prog 87 ⟨X1, Sg⟩ := tk 100000 YA (af) Tryd.func87 (by kernel_rfl) (by kernel_rfl) fun x => (show ∀ n, call G [] _ [] 8 X1 Tryd.f87.ntmps Tryd.f87.results.toList (bd Tryd.f87) YA n x = R8 n x.1 from fun n => by kernel_rfl) 100000
theorem UT : au Tryd.prog 88 = true := by kernel_rfl
theorem WQ : TC Tryd.prog 88 ⟨X2, Sh⟩ := tk 100000 YB (af) Tryd.func88 (by kernel_rfl) (by kernel_rfl) fun x => (show ∀ n, call G [] _ [] 8 X2 Tryd.f88.ntmps Tryd.f88.results.toList (bd Tryd.f88) YB n x = Sa n x.1 from fun n => by kernel_rfl) 100000
theorem UG : au Tryd.prog 71 = true := by kernel_rfl
theorem WA : TC Tryd.prog 71 ⟨ZT, MW⟩ := tk 0 h71 (ab US WO (ab UT WQ (af))) Tryd.func71 (by kernel_rfl) (by kernel_rfl) fun x => by kernel_rfl
theorem UU : au Tryd.prog 89 = true := by kernel_rfl
theorem WR : TC Tryd.prog 89 ⟨ZZ, JW⟩ := tk 0 Re (af) Tryd.func89 (by kernel_rfl) (by kernel_rfl) fun x => by kernel_rfl
theorem UW : au Tryd.prog 90 = true := by kernel_rfl
theorem WS : TC Tryd.prog 90 ⟨Z0, Si⟩ := tk 0 h90 (af) Tryd.func90 (by kernel_rfl) (by kernel_rfl) fun x => by kernel_rfl
theorem Q0 : au Tryd.prog 72 = true := by kernel_rfl
theorem SC : TC Tryd.prog 72 ⟨XU, Hy⟩ := tk 100000 Yt (ab UU WR (ab UW WS (af))) Tryd.func72 (by kernel_rfl) (by kernel_rfl) fun x => (show ∀ n, call G [] _ [] 8 XU Tryd.f72.ntmps Tryd.f72.results.toList (bd Tryd.f72) Yt n x = Mr n x.1 from fun n => by kernel_rfl) 100000
theorem Q1 : au Tryd.prog 73 = true := by kernel_rfl
theorem SD : TC Tryd.prog 73 ⟨ZU, MX⟩ := tk 0 h73 (af) Tryd.func73 (by kernel_rfl) (by kernel_rfl) fun x => by kernel_rfl
theorem Us : au Tryd.prog 51 = true := by kernel_rfl
theorem Wp : TC Tryd.prog 51 ⟨XO, Se⟩ := tk 100000 Yk (ab QU Sw (ab UG WA (ab Q0 SC (ab Q1 SD (ab Io J3 (af)))))) Tryd.func51 (by kernel_rfl) (by kernel_rfl) fun x => (show ∀ n, call G [] _ [] 8 XO Tryd.f51.ntmps Tryd.f51.results.toList (bd Tryd.f51) Yk n x = R7 n x.1 from fun n => by kernel_rfl) 100000
theorem QV : au Tryd.prog 52 = true := by kernel_rfl
theorem Sx : TC Tryd.prog 52 ⟨XP, MO⟩ := tk 100000 Yl (af) Tryd.func52 (by kernel_rfl) (by kernel_rfl) fun x => (show ∀ n, call G [] _ [] 8 XP Tryd.f52.ntmps Tryd.f52.results.toList (bd Tryd.f52) Yl n x = Mf n x.1 x.2.1 from fun n => by kernel_rfl) 100000
theorem Q2 : au Tryd.prog 77 = true := by kernel_rfl
theorem SE : TC Tryd.prog 77 ⟨ZV, BD⟩ := tk 0 h77 (af) Tryd.func77 (by kernel_rfl) (by kernel_rfl) fun x => by kernel_rfl
theorem UH : au Tryd.prog 74 = true := by kernel_rfl
theorem WB : TC Tryd.prog 74 ⟨XV, Pw⟩ := tk 100000 Yu (ab Q0 SC (ab Q2 SE (ab Io J3 (ab Q1 SD (af))))) Tryd.func74 (by kernel_rfl) (by kernel_rfl) fun x => (show ∀ n, call G [] _ [] 8 XV Tryd.f74.ntmps Tryd.f74.results.toList (bd Tryd.f74) Yu n x = Mt n x.1 x.2.1 from fun n => by kernel_rfl) 100000
theorem UI : au Tryd.prog 75 = true := by kernel_rfl
theorem WC : TC Tryd.prog 75 ⟨XW, Px⟩ := tk 100000 Yv (af) Tryd.func75 (by kernel_rfl) (by kernel_rfl) fun x => (show ∀ n, call G [] _ [] 8 XW Tryd.f75.ntmps Tryd.f75.results.toList (bd Tryd.f75) Yv n x = Mu n x.1 from fun n => by kernel_rfl) 100000
theorem UJ : au Tryd.prog 76 = true := by kernel_rfl
theorem WD : TC Tryd.prog 76 ⟨XX, Py⟩ := tk 100000 Yw (af) Tryd.func76 (by kernel_rfl) (by kernel_rfl) fun x => (show ∀ n, call G [] _ [] 8 XX Tryd.f76.ntmps Tryd.f76.results.toList (bd Tryd.f76) Yw n x = Mv n x.1 from fun n => by kernel_rfl) 100000
theorem UK : au Tryd.prog 78 = true := by kernel_rfl
theorem WE : TC Tryd.prog 78 ⟨ZW, Pz⟩ := tk 0 h78 (ab N4 M9 (af)) Tryd.func78 (by kernel_rfl) (by kernel_rfl) fun x => by kernel_rfl
theorem QX : au Tryd.prog 56 = true := by kernel_rfl
theorem Sz : TC Tryd.prog 56 ⟨XS, MQ⟩ := tk 100000 Yn (ab N4 M9 (ab UK WE (af))) Tryd.func56 (by kernel_rfl) (by kernel_rfl) fun x => (show ∀ n, call G [] _ [] 8 XS Tryd.f56.ntmps Tryd.f56.results.toList (bd Tryd.f56) Yn n x = Mk n x.1 from fun n => by kernel_rfl) 100000
theorem QW : au Tryd.prog 53 = true := by kernel_rfl
theorem Sy : TC Tryd.prog 53 ⟨XQ, MP⟩ := tk 100000 Ym (ab UH WB (ab UI WC (ab QV Sx (ab UJ WD (ab QX Sz (ab Q2 SE (af))))))) Tryd.func53 (by kernel_rfl) (by kernel_rfl) fun x => (show ∀ n, call G [] _ [] 8 XQ Tryd.f53.ntmps Tryd.f53.results.toList (bd Tryd.f53) Ym n x = Mg n x.1 from fun n => by kernel_rfl) 100000
theorem Uc : au Tryd.prog 30 = true := by kernel_rfl
theorem Wc : TC Tryd.prog 30 ⟨XC, Pn⟩ := tk 100000 Ye (ab QU Sw (ab Us Wp (ab QV Sx (ab QW Sy (af))))) Tryd.func30 (by kernel_rfl) (by kernel_rfl) fun x => (show ∀ n, call G [] _ [] 8 XC Tryd.f30.ntmps Tryd.f30.results.toList (bd Tryd.f30) Ye n x = R5 n x.1 from fun n => by kernel_rfl) 100000
theorem QO : au Tryd.prog 20 = true := by kernel_rfl
theorem Sp : TC Tryd.prog 20 ⟨Xy, Hs⟩ := tk 100000 S6 (af) Tryd.func20 (by kernel_rfl) (by kernel_rfl) fun x => (show ∀ n, call G [] _ [] 8 Xy Tryd.f20.ntmps Tryd.f20.results.toList (bd Tryd.f20) S6 n x = LI n x.1 x.2.1 from fun n => by kernel_rfl) 100000
theorem T4 : au Tryd.prog 14 = true := by kernel_rfl
theorem V4 : TC Tryd.prog 14 ⟨ZE, JP⟩ := tk 0 Z3 (ab Uc Wc (ab QM Sn (ab QO Sp (af)))) Tryd.func14 (by kernel_rfl) (by kernel_rfl) fun x => by kernel_rfl
theorem TR (fuel : Nat) (x0 : (SZ.args.getD 0 (.v (.ty .bool))).T) (x1 : (SZ.args.getD 1 (.v (.ty .bool))).T) : call G Qs Qg Qm 8 SZ 37 [.tmp 4] Xa X7 fuel (x0, x1, ()) = LG fuel x0 x1 := by kernel_rfl
theorem T5 : au Tryd.prog 15 = true := by kernel_rfl
theorem Vq : ow Tryd.prog Qm := dZ QQ Tryd.func26 (by kernel_rfl) rfl (by kernel_rfl) (ic)
theorem VD : oy Tryd.prog Qs := gw
theorem U5 : gv Tryd.prog Qg := ab N5 PN (ab QT Sv (ab QR Ss (ab QS Su (af))))
theorem V5 : TC Tryd.prog 15 ⟨SZ, Pl⟩ := vw (N := 37) (rv := [.tmp 4]) (c := Xa) (h := X7) vL VD Vq U5 wide Tryd.func15 (by kernel_rfl) rfl (by kernel_rfl) (by decide) (by kernel_rfl) (by kernel_rfl) fun x r h => ⟨100000, (TR 100000 x.1 x.2.1).trans h⟩
theorem Ud : au Tryd.prog 32 = true := by kernel_rfl
theorem Wd : TC Tryd.prog 32 ⟨XD, Po⟩ := tk 100000 Yf (af) Tryd.func32 (by kernel_rfl) (by kernel_rfl) fun x => (show ∀ n, call G [] _ [] 8 XD Tryd.f32.ntmps Tryd.f32.results.toList (bd Tryd.f32) Yf n x = LV n x.1 from fun n => by kernel_rfl) 100000
theorem QN : au Tryd.prog 16 = true := by kernel_rfl
theorem So : TC Tryd.prog 16 ⟨Xw, MJ⟩ := tk 100000 X8 (ab Io J3 (ab Ud Wd (af))) Tryd.func16 (by kernel_rfl) (by kernel_rfl) fun x => (show ∀ n, call G [] _ [] 8 Xw Tryd.f16.ntmps Tryd.f16.results.toList (bd Tryd.f16) X8 n x = LH n x.1 x.2.1 from fun n => by kernel_rfl) 100000
theorem Uu : au Tryd.prog 55 = true := by kernel_rfl
theorem Wr : TC Tryd.prog 55 ⟨ZO, Pu⟩ := tk 0 h55 (ab Io J3 (af)) Tryd.func55 (by kernel_rfl) (by kernel_rfl) fun x => by kernel_rfl
theorem Ug : au Tryd.prog 35 = true := by kernel_rfl
theorem Wg : TC Tryd.prog 35 ⟨XE, JS⟩ := tk 100000 P4 (ab Uu Wr (af)) Tryd.func35 (by kernel_rfl) (by kernel_rfl) fun x => (show ∀ n, call G [] _ [] 8 XE Tryd.f35.ntmps Tryd.f35.results.toList (bd Tryd.f35) P4 n x = LW n x.1 x.2.1 x.2.2.1 from fun n => by kernel_rfl) 100000
theorem Uh : au Tryd.prog 36 = true := by kernel_rfl
theorem Wh : TC Tryd.prog 36 ⟨ZM, Pr⟩ := tk 0 h36 (ab QW Sy (ab QX Sz (af))) Tryd.func36 (by kernel_rfl) (by kernel_rfl) fun x => by kernel_rfl
theorem Ui : au Tryd.prog 37 = true := by kernel_rfl
theorem Wi : TC Tryd.prog 37 ⟨ZN, JU⟩ := tk 0 h37 (af) Tryd.func37 (by kernel_rfl) (by kernel_rfl) fun x => by kernel_rfl
theorem T6 : au Tryd.prog 19 = true := by kernel_rfl
theorem V6 : TC Tryd.prog 19 ⟨Xx, JQ⟩ := tk 100000 X9 (ab Ug Wg (ab QN So (ab Uh Wh (ab T7 V7 (ab Ui Wi (ab Io J3 (af))))))) Tryd.func19 (by kernel_rfl) (by kernel_rfl) fun x => (show ∀ n, call G [] _ [] 8 Xx Tryd.f19.ntmps Tryd.f19.results.toList (bd Tryd.f19) X9 n x = Hk n x.1 x.2.1 x.2.2.1 x.2.2.2.1 from fun n => by kernel_rfl) 100000
theorem tc5 : TC Tryd.prog 5 ⟨g5, VU⟩ := tk 100000 h5 (ab T4 V4 (ab ZA tc7 (ab ZB tc8 (ab ZC tc9 (ab T5 V5 (ab QN So (ab T0 V2 (ab T3 V3 (ab xo yK (ab KO M8 (ab QM Sn (ab T6 V6 (ab QO Sp (af)))))))))))))) Tryd.func5 (by kernel_rfl) (by kernel_rfl) fun x => (show ∀ n, call G [] _ [] 8 g5 Tryd.f5.ntmps Tryd.f5.results.toList (bd Tryd.f5) h5 n x = Td n x.1 x.2.1 x.2.2.1 from fun n => by kernel_rfl) 100000
end Go.Proofs.YtdkibgdkmnpncaaDoor
