/- What the functions of the program come to. -/
import Derived.Test.YtdkibgdkmnpncaaDoorLibG
import Derived.Test.YtdkibgdkmnpncaaDoorProg
import Derived.KernelRfl
open Go Go.Proofs Go.Abs
set_option linter.unusedVariables false
set_option maxRecDepth 100000
namespace Go.Proofs.YtdkibgdkmnpncaaDoor
def HG : cf := .cons (.sl (.cons (.int .i64) .nil)) (.cons (.int .i64) .nil)
abbrev gP : Type := List (Int × Unit) × Int × Unit
def lT : cf := .cons (.int .i64) (.cons (.int .i64) (.cons (.int .i64) .nil))
abbrev rG : Type := Int × Int × Int × Unit
def Ti : cf := .cons (.sl (.cons (.int .i64) .nil)) (.cons (.sl (.cons (.int .i64) .nil)) .nil)
abbrev To : Type := List (Int × Unit) × List (Int × Unit) × Unit
def BF : cf := .cons .str (.cons (.int .i64) (.cons (.int .i64) (.cons (.int .i64) (.cons (.sl (.cons (.int .i64) .nil)) .nil))))
abbrev tF : Type := List UInt8 × Int × Int × Int × List (Int × Unit) × Unit
def HH : cf := .cons (.sl (.cons (.sl (.cons (.int .i64) .nil)) .nil)) (.cons (.sl (.cons (.sl (.cons (.int .i64) .nil)) .nil)) .nil)
abbrev jv : Type := List (List (Int × Unit) × Unit) × List (List (Int × Unit) × Unit) × Unit
def Tj : cf := .cons .str (.cons (.int .i64) (.cons (.int .i64) (.cons (.int .i64) (.cons (.sl (.cons (.int .i64) .nil)) (.cons (.int .i64) (.cons (.int .i64) (.cons (.int .i64) (.cons (.sl (.cons .str .nil)) .nil))))))))
abbrev QA : Type := List UInt8 × Int × Int × Int × List (Int × Unit) × Int × Int × Int × List (List UInt8 × Unit) × Unit
def ka : cf := .cons (.sl BF) (.cons (.sl lT) .nil)
abbrev ez : Type := List tF × List rG × Unit
def PO : cf := .cons (.sl BF) (.cons (.sl lT) (.cons (.sl (.cons (.int .i64) .nil)) .nil))
abbrev nO : Type := List tF × List rG × List (Int × Unit) × Unit
abbrev XI : Type := List (Int × Unit)
abbrev XL : Type := List (XI × Unit)
abbrev XB : Type := Option (Bool × Unit)
abbrev bu : Type := Option (Int × Unit)
abbrev fN : Type := Option (XI × Unit)
abbrev jZ : Type := Option (Int × nO × Unit)
abbrev mT : Type := Option (List rG × gP × Unit)
def dI : cp := .d (.ty (.int .i64))
def dS : cp := .d (.ty .str)
def dB : cp := .d (.ty .bool)
def dL : cp := .d (.ty (.sl (.cons (.int .i64) .nil)))
def nx (a : HT) : HT := .n (.r .x) a
abbrev W7 : Type := List UInt8 × Int × Int × Int × Int × Int × Int × Unit
abbrev SP : Type := List UInt8 × Unit
abbrev Aa : Type := List tF × List rG × List tF × List rG × Unit
abbrev Ab : Type := Bool × Unit
abbrev Ac : Type := Int × Unit
abbrev Ad : Type := List rG
abbrev Ae : Type := W7 × W7 × XI × List SP × XI × List SP × Unit
abbrev Af : Type := ez × jv × Unit × Unit × tF × List Ab × XI × XI × XI × XI × XI × Unit
abbrev Ag : Type := Int × Int × ez × List (Int × Int) × XI × List Ab × Unit
abbrev Ah : Type := Option ((To × Ac) × Unit)
abbrev Ai : Type := Int × ez × Unit
abbrev Aj : Type := gP × Unit
abbrev Ak : Type := XI × Ad × Int × ez × jv × Unit × Unit × List Ab × XI × XI × XI × XI × XI × Unit
abbrev Al : Type := Int × Int × Int × gP × ez × Unit × Unit × tF × XI × XI × XL × XL × XL × XL × Unit
abbrev Am : Type := Option ((ez × Int × Ac) × Unit)
abbrev An : Type := Option ((QA × Ab) × Unit)
abbrev Ao : Type := Int × Int × ez × tF × Unit
abbrev Ap : Type := Int × gP × ez × Ad × Unit
abbrev Aq : Type := Int × Int × Int × Int × Int × gP × Unit × Unit × XI × XI × Aa
abbrev Ar : Type := XI × Unit
abbrev As : Type := Int × Int × Int × gP × ez × Unit × Unit × XL × XL × XL × XL × Unit
abbrev Au : Type := List UInt8
abbrev Av : Type := Int × Unit × Unit × List QA × Aa
abbrev Aw : Type := Option (ez × Aj)
abbrev Ax : Type := nO × Unit
abbrev Ay : Type := Int × Int × gP × Unit × Unit × Aa
abbrev Az : Type := List Ab × Unit
abbrev A0 : Type := Option (jv × Aj)
abbrev A1 : Type := Int × Int × ez × List (Int × Int) × Unit
abbrev A2 : Type := Int × Bool × ez × tF × Unit
abbrev A3 : Type := List SP
abbrev A4 : Type := Option (Int × Aj)
abbrev A5 : Type := ez × Unit
abbrev A6 : Type := Ad × Ad × Ad × Int × Int × ez × jv × XL × Unit
abbrev A7 : Type := Int × Int × Ax
abbrev A8 : Type := Int × Ai
abbrev A9 : Type := Int × Ac
abbrev Ba : Type := Ad × Unit
abbrev Bb : Type := ez × Ar
abbrev Bc : Type := Unit × Unit × XI × XI × XI × Ar
abbrev Bd : Type := Ad × Ad × Ad × XI × Int × Int × Int × Int × ez × jv × XL × List Ba × Unit
abbrev Be : Type := Option (XI × Aj)
abbrev Bf : Type := XI × Ad × Int × Int × Int × Af
abbrev Bg : Type := Option (Bool × Ax)
abbrev Bh : Type := Int × Int × Bool × Int × gP × ez × rG × Ba
abbrev Bi : Type := Ad × Ad × Int × Int × Bool × Ax
abbrev Bj : Type := rG × Unit
abbrev Bk : Type := XL × XL × XL × XL × Unit
abbrev Bl : Type := Int × Int × Int × Ay
abbrev Bm : Type := Option (A3 × Unit)
abbrev Bn : Type := Int × List tF × Int × Int × XI × A1
abbrev Bo : Type := Int × Int × Bool × Int × Bb
abbrev Bp : Type := Ad × Ad × Int × Int × Ad × Int × Int × nO × Bj
abbrev Bq : Type := Option Az
abbrev Br : Type := Au × Int × Au × Int × A3 × Unit
abbrev Bs : Type := Unit × Unit × Aa
abbrev Bt : Type := Ad × Ad × A7
abbrev Bu : Type := A3 × Int × Ae
abbrev Bv : Type := jv × Unit
abbrev Bw : Type := tF × Unit
abbrev Bx : Type := Int × Ap
abbrev Bz : Type := List tF
abbrev B0 : Type := A3 × Int × Int × Bool × Ae
abbrev B1 : Type := XI × Int × Int × gP × Ar
abbrev B2 : Type := Int × Int × Int × XI × Ag
abbrev B3 : Type := A3 × Int × Int × Int × Ae
abbrev B4 : Type := Int × Int × XI × A7
abbrev B5 : Type := XI × Ad × Int × Int × Af
abbrev B6 : Type := Int × gP × Bb
abbrev B7 : Type := Int × Int × Bool × Af
abbrev B8 : Type := Int × XI × Ao
abbrev B9 : Type := Int × Int × Int × XI × XI × gP × ez × Unit × Unit × Bk
abbrev Ca : Type := Ad × Int × Int × Bj
abbrev Cb : Type := Ad × Int × Int × Ar
abbrev Cc : Type := Int × Int × Al
abbrev Cd : Type := Int × Ab
abbrev Ce : Type := Au × Unit
abbrev Cf : Type := Int × Int × Bb
abbrev Cg : Type := XI × A9
abbrev Ch : Type := XI × Ad × gP × ez × Bv
abbrev Ci : Type := XI × Ad × Int × gP × ez × jv × List Ab × Az
abbrev Cj : Type := A3 × Au × Av
abbrev Ck : Type := Int × Bool × ez × Bj
abbrev Cm : Type := Int × Int × Bool × gP × ez × rG × Ba
abbrev Cn : Type := XI × Ac
abbrev Co : Type := Au × Ac
abbrev Cp : Type := Int × Int × Int × Ag
abbrev Cq : Type := Int × ez × jv × Az
abbrev Cr : Type := ez × jv × Bc
abbrev Cs : Type := A3 × Au × Unit × Unit × List QA × Aa
abbrev Ct : Type := Ad × Ac
abbrev Cu : Type := Int × Int × Bool × gP × ez × Ba
abbrev Cv : Type := ez × Ac
abbrev Cw : Type := Int × A2
abbrev Cx : Type := Int × Int × Int × ez × tF × Bw
abbrev Cy : Type := Option (Cd × Unit)
abbrev Cz : Type := Option (tF × Aj)
abbrev C0 : Type := Bool × A5
abbrev C1 : Type := List (Int × Int)
abbrev C2 : Type := Ad × A8
abbrev C3 : Type := XI × Ba
abbrev C4 : Type := Int × Bool × Bb
abbrev C5 : Type := Ad × Ai
abbrev C6 : Type := Bz × Int × Int × SP × Unit
abbrev C7 : Type := Int × Int × Bool × nO × Bj
def b0 : List PC := [.d (.sl BF), .d (.sl lT)]
def b1 : List PC := [.d (.sl (.cons (.int .i64) .nil)), .d (.int .i64)]
def b2 : List PC := [.d .str, .d (.int .i64), .d (.int .i64), .d (.int .i64), .d (.sl (.cons (.int .i64) .nil))]
def b3 : List PC := [.d (.sl (.cons (.sl (.cons (.int .i64) .nil)) .nil)), .d (.sl (.cons (.sl (.cons (.int .i64) .nil)) .nil))]
def b4 : List PC := [.d (.sl BF), .d (.sl lT), .d (.sl (.cons (.int .i64) .nil))]
def b5 : List PC := [.d (.int .i64), .d (.int .i64), .d (.int .i64)]
def aA : cf := .cons (.int .i64) .nil
def aB : Ty := .int .i64
def aC : HT := .n (nx .e) .e
def aD : cf := .cons (.sl aA) .nil
def aE : cf := .cons .str .nil
def aF : HT := .n .e .e
def aG : HT := nx .e
def aH : Ty := .sl lT
def aI : cf := .cons .bool .nil
def aJ : HT := .j ⟨[(2, dB)], [], []⟩ (.r .x) .e
def aK : HT := nx aF
def aL : HT := nx aC
def aM : HT := nx (.j ⟨[], [], []⟩ (nx (.u (.l ⟨[(0, .d (.ty aH)), (3, .ref 1000 3), (7, dI), (8, dI)], [(1000, .box b5)], []⟩ (nx (.n aF (.n (.u (nx (.n (.r .q) aC))) (.r .x))))))) aG)
def aN : HT := .n aK (.n (.u (.n (.r .q) aC)) (.r .x))
def aO : HT := nx aG
def aP : HT := nx (.n .e (.r .x))
def aQ : HT := .j ⟨[(4, dB)], [], []⟩ (.r .x) .e
def aR : HT := nx (.n aF (.n (.u (nx aL)) (.r .x)))
def aS : Ty := .sl aE
def aT : HT := nx (.r .x)
def aU : HT := .n aK (.n (.u (.r .x)) (.r .x))
def aV : HT := .n (.r (.w 6 [(0, 0), (0, 3), (0, 4), (0, 5), (2, 1), (0, 2)])) aC
def aW : HT := .n aL aG
def aX : Ty := .sl BF
def aY : HT := nx (.n aL (.n (.r (.w 3 [(0, 0), (0, 1), (2, 2)])) .e))
def aZ : HT := nx (.n aF (.n (.u (nx (.n (.r .q) aC))) (.r .x)))
def a9 : HT := nx (.j ⟨[(6, dB)], [], []⟩ (.r .x) .e)
def bA : HT := nx (.n aF (.n (.u aT) (.r .x)))
def bB : Ty := .int .u64
def bC : HT := .n aK (.n (.u aL) (.r .x))
def bD : HT := nx (.n .e aP)
def bE : HT := nx aJ
def bF : HT := nx aL
def bG : eO := .arr aA
def bH : cp := .d (.ty aH)
def bI : eO := .box b0
def bJ : cp := .ref 900000 2
def bK : eO := .arr lT
def bL : eO := .arr BF
def bM : eO := .box b1
def bO : cp := .ref 1000 2
def bP : eO := .arr aD
def bQ : eO := .box b2
def bR : eO := .arr aE
def bS : eO := .box b3
def bT : cp := .d (.ty aS)
def bU : eO := .box b4
def bV : cp := .ref 1002 2
def bW : eO := .arr aI
def bX : cp := .ref 1004 2
def bY : cp := .ref 1001 2
def bZ : cp := .ref 1006 2
def b8 : cp := .ref 900000 3
def b9 : cp := .d (.ty aX)
def dA : cp := .ref 1008 2
def dC : cp := .ref 1003 2
def dD : cp := .own 1003
def dE : cp := .own 1001
def dF : cp := .ref 1014 2
def dG : eO := .arr Tj
def dH : eO := .box b5
def dJ : cp := .ref 1001 5
def dK : cp := .ref 1007 2
def dM : cp := .ref 1017 2
def dN : cp := .ref 1018 2
def dO : cp := .ref 1005 2
def dP : cp := .ref 1012 2
def dQ : cp := .d (.ty bB)
def dR : cp := .ref 1010 2
def dT : cp := .ref 1009 2
def dU : cp := .ref 1019 2
def dV : cp := .ref 1015 2
noncomputable def bd (f : Func) : Code := f.body.getD .skip
def G : List (Nat × TD) := [(3, .int .i64), (4, .bool), (5, .int .u8), (9, .str), (22, .slice (.cons (.int .i64) .nil) 8), (23, .nl .rJ), (25, .slice BF 64), (26, .slice lT 24), (28, .struct ka [(0, false, 1), (1, false, 1)] false), (30, .slice (.cons (.sl (.cons (.int .i64) .nil)) .nil) 24), (32, .struct HH [(0, false, 1), (1, false, 1)] false), (36, .struct Ti [(0, false, 1), (1, false, 1)] false), (37, .int .i64), (40, .slice lT 24), (43, .struct BF [(0, false, 1), (1, false, 1), (2, false, 1), (3, false, 1), (4, false, 1)] false), (47, .slice (.cons .bool .nil) 1), (52, .struct lT [(0, false, 1), (1, false, 1), (2, false, 1)] true), (53, .slice (.cons (.sl lT) .nil) 24), (58, .struct HG [(0, false, 1), (1, false, 1)] false), (60, .slice (.cons (.int .u8) .nil) 1), (64, .nl .rJ), (78, .struct lT [(0, false, 1), (1, false, 1), (2, false, 1)] true), (81, .struct PO [(0, true, 2), (2, false, 1)] false), (84, .nl .xD), (87, .nl .xD), (89, .int .u64), (92, .slice (.cons .str .nil) 16), (94, .slice Tj 112), (96, .struct Tj [(0, true, 5), (5, true, 3), (8, false, 1)] false), (105, .nl .xD), (110, .int .u32), (112, .int .u64), (119, .map .i64 .i64), (123, .arr 32 (.cons (.int .u8) .nil)), (124, .arr 64 (.cons (.int .u8) .nil)), (126, .nl .xD)]
def Rv : List UInt8 := [101, 110, 116, 114, 121, 32, 65, 32, 49, 32, 48, 32, 62, 32, 68, 10, 98, 101, 108, 116, 32, 66, 32, 49, 32, 48, 32, 62, 32, 68, 10, 98, 101, 108, 116, 32, 67, 32, 49, 32, 48, 32, 62, 32, 68, 10, 98, 101, 108, 116, 32, 68, 32, 49, 32, 48, 32, 62, 32, 77, 10, 109, 97, 110, 117, 97, 108, 32, 77, 32, 48, 10]
/-! 85 slices.Index[[]int,int] -/
def XZ : ee := ⟨[.v (.ty (.sl (.cons (.int .i64) .nil))), .v (.ty (.int .i64))], .v (.ty (.int .i64))⟩
def Yz : HT := (nx (.j ⟨[], [], []⟩ (nx (.u (.l ⟨[(0, dL), (1, dI), (7, dI), (8, dI)], [], []⟩ aR))) aG))
noncomputable def yw (z0 : Unit) : bu :=
 some (-1, ())
noncomputable def ni (j1 : Unit → bu) (rc2 : XI × Int × A9 → bu) (z2 : XI × Int × A9) : bu :=
 if decide (z2.2.2.2.1 < z2.2.2.1) = true then
 if bt z2.2.2.2.1 z2.1.length = true then
 if (z2.2.1 == (bg (0, ()) z2.1 z2.2.2.2.1).1) = true then some z2.2.2.2 else rc2 (z2.1, z2.2.1, z2.2.2.1, IntKind.i64.wrap (z2.2.2.2.1 + 1), ())
 else none
 else j1 ()
noncomputable def Hl (fuel : Nat) (x0 : XI) (x1 : Int) : bu :=
 aa yw fun j1 => iter fuel (ni j1) (x0, x1, (↑x0.length : Int), 0, ())
noncomputable def MZ (x : Cn) : bu := Hl 100000 x.1 x.2.1
/-! 66 slices.Contains[[]int,int] -/
def ZP : ee := ⟨[.v (.ty (.sl (.cons (.int .i64) .nil))), .v (.ty (.int .i64))], .v (.ty .bool)⟩
def h66 : HT := aO
noncomputable def JH (fuel : Nat) (x0 : XI) (x1 : Int) : XB :=
 (MZ (x0, x1, ())).bind fun r0 => some (decide (0 ≤ r0.1), ())
noncomputable def JV (x : Cn) : XB := JH 0 x.1 x.2.1
/-! 48 baggage/fields.Strip -/
def XK : ee := ⟨[.v (.ty (.int .i64))], .v (.ty .bool)⟩
def h48 : HT := bE
noncomputable def Fx (z0 : Ab) : XB :=
 some z0
noncomputable def O5 (fuel : Nat) (x0 : Int) : XB :=
 aa Fx fun j1 => if decide (1 ≤ x0) = true then j1 (decide (x0 ≤ 6), ()) else j1 (false, ())
noncomputable def yJ (x : Ac) : XB := O5 0 x.1
/-! 86 slices.Index[[]baggage/api.Fault,baggage/api.Fault] -/
def X0 : ee := ⟨[.v (.ty (.sl lT)), .v (.ag lT)], .v (.ty (.int .i64))⟩
def Rc : HT := aM
noncomputable def yx (z0 : Unit) : bu :=
 some (-1, ())
noncomputable def nj (j1 : Unit → bu) (rc2 : Ca → bu) (z2 : Ca) : bu :=
 if decide (z2.2.2.1 < z2.2.1) = true then
 if bt z2.2.2.1 z2.1.length = true then
 if
 (z2.2.2.2.1.1 == (bg (0, 0, 0, ()) z2.1 z2.2.2.1).1 &&
 (z2.2.2.2.1.2.1 == (bg (0, 0, 0, ()) z2.1 z2.2.2.1).2.1 && (z2.2.2.2.1.2.2.1 == (bg (0, 0, 0, ()) z2.1 z2.2.2.1).2.2.1 && true))) =
 true then
 some (z2.2.2.1, ())
 else rc2 (z2.1, z2.2.1, IntKind.i64.wrap (z2.2.2.1 + 1), z2.2.2.2)
 else none
 else j1 ()
noncomputable def Hm (fuel : Nat) (x0 : Ad) (x1 : rG) : bu :=
 aa yx fun j1 => iter fuel (nj j1) (x0, (↑x0.length : Int), 0, x1, ())
noncomputable def M1 (x : Ad × Bj) : bu := Hm 100000 x.1 x.2.1
/-! 67 slices.Contains[[]baggage/api.Fault,baggage/api.Fault] -/
def ZQ : ee := ⟨[.v (.ty (.sl lT)), .v (.ag lT)], .v (.ty .bool)⟩
def h67 : HT := aO
noncomputable def JI (fuel : Nat) (x0 : Ad) (x1 : rG) : XB :=
 (M1 (x0, x1, ())).bind fun r0 => some (decide (0 ≤ r0.1), ())
noncomputable def Pv (x : Ad × Bj) : XB := JI 0 x.1 x.2.1
/-! 45 (*baggage/engine.Plan).wanted -/
def XJ : ee := ⟨[.bx PO, .v (.ag HH), .v (.ty (.int .i64)), .v (.ty (.int .i64)), .v (.ty (.sl lT))], .v (.ty (.int .i64))⟩
def h45 : HT := (nx (nx (.n (.u (nx (.n aW aL))) (nx (.n (.j ⟨[(3, dI), (55, dB)], [(900000, bU)], []⟩ (.r .x) aC) aG)))))
noncomputable def Fv (z2 : Int × Bool × Ax) : jZ :=
 if z2.2.1 = true then some (-1, z2.2.2) else some (z2.1, z2.2.2)
noncomputable def O4 (fuel : Nat) (x0 : nO) (x1 : jv) (x2 : Int) (x3 : Int) (x4 : Ad) : jZ :=
 if bt x2 x0.1.length = true then
 if ((bg ([], 0, 0, 0, [], ()) x0.1 x2).2.1 == 7) = true then
 if bt x2 x1.2.1.length = true then
 (JV ((bg ([], ()) x1.2.1 x2).1, x3, ())).bind fun r0 => if r0.1 = true then some (0, x0, ()) else some (-1, x0, ())
 else none
 else
 (yJ ((bg ([], 0, 0, 0, [], ()) x0.1 x2).2.1, ())).bind fun r1 =>
 if (!r1.1) = true then some (-1, x0, ())
 else
 aa Fv fun j3 =>
 if bt x2 x1.1.length = true then
 if bt (IntKind.i64.wrap ((bg ([], 0, 0, 0, [], ()) x0.1 x2).2.2.1 - 1)) (List.length (bg ([], ()) x1.1 x2).1) = true then
 if ((bg (0, ()) (bg ([], ()) x1.1 x2).1 (IntKind.i64.wrap ((bg ([], 0, 0, 0, [], ()) x0.1 x2).2.2.1 - 1))).1 == 0) = true then
 j3 (x3, true, x0, ())
 else (Pv (x4, (1, x2, IntKind.i64.wrap ((bg ([], 0, 0, 0, [], ()) x0.1 x2).2.2.1 - 1), ()), ())).bind fun r4 => j3 (x3, r4.1, x0, ())
 else none
 else none
 else none
noncomputable def MM (x : nO × jv × Int × Int × Ba) : jZ := O4 0 x.1 x.2.1 x.2.2.1 x.2.2.2.1 x.2.2.2.2.1
/-! 47 (*baggage/engine.Plan).comers -/
def Vc : ee := ⟨[.bx PO, .v (.ty (.sl (.cons (.int .i64) .nil))), .v (.ty (.int .i64))], .v (.ty (.int .u64))⟩
def Yi : HT := (nx (nx (.j ⟨[(7, dQ)], [(900000, bU)], []⟩ (nx (.u (.l ⟨[(0, b8), (2, dI), (7, dQ), (10, dL), (11, dI), (12, dI)], [(900000, bU)], []⟩ (nx (.n aF (.j ⟨[(0, b8), (2, dI), (7, dQ), (10, dL), (11, dI), (12, dI)], [(900000, bU)], []⟩ (.u (nx (.j ⟨[(0, b8), (2, dI), (7, dQ), (8, dI), (10, dL), (11, dI), (12, dI), (39, dB)], [(900000, bU)], []⟩ (.r .x) aG))) (.r .x))))))) aG)))
noncomputable def Fw (z0 : Int × Ax) : jZ :=
 some z0
noncomputable def sG (rc2 : B4 → jZ) (z3 : B4) : jZ :=
 rc2 (z3.1, z3.2.1, z3.2.2.1, z3.2.2.2.1, IntKind.i64.wrap (z3.2.2.2.2.1 + 1), z3.2.2.2.2.2)
noncomputable def sI (j4 : B4 → jZ) (z5 : Int × Int × Int × XI × Int × Int × Bool × Ax) : jZ :=
 if z5.2.2.2.2.2.2.1 = true then
 if decide (0 ≤ z5.2.2.1) = true then
 j4
 (z5.1,
 IntKind.u64.wrap
 (↑(BitVec.ofInt IntKind.u64.bits z5.2.1 |||
 BitVec.ofInt IntKind.u64.bits (IntKind.u64.wrap (1 * 2 ^ min z5.2.2.1.toNat IntKind.u64.bits))).toNat :
 Int),
 z5.2.2.2.1, z5.2.2.2.2.1, z5.2.2.2.2.2.1, z5.2.2.2.2.2.2.2)
 else none
 else j4 (z5.1, z5.2.1, z5.2.2.2.1, z5.2.2.2.2.1, z5.2.2.2.2.2.1, z5.2.2.2.2.2.2.2)
noncomputable def sJ (j1 : Int × Ax → jZ) (rc2 : B4 → jZ) (z2 : B4) : jZ :=
 if decide (z2.2.2.2.2.1 < z2.2.2.2.1) = true then
 aa (sG rc2) fun j4 =>
 if bt z2.2.2.2.2.1 z2.2.2.1.length = true then
 aa (sI j4) fun j6 =>
 if (z2.2.2.2.2.1 != z2.1) = true then
 if decide (0 ≤ (bg (0, ()) z2.2.2.1 z2.2.2.2.2.1).1) = true then
 if bt z2.2.2.2.2.1 z2.2.2.2.2.2.1.1.length = true then
 if
 bt (bg (0, ()) z2.2.2.1 z2.2.2.2.2.1).1 (List.length (bg ([], 0, 0, 0, [], ()) z2.2.2.2.2.2.1.1 z2.2.2.2.2.1).2.2.2.2.1) =
 true then
 j6
 (z2.1, z2.2.1, z2.2.2.2.2.1, z2.2.2.1, z2.2.2.2.1, z2.2.2.2.2.1,
 (bg (0, ()) (bg ([], 0, 0, 0, [], ()) z2.2.2.2.2.2.1.1 z2.2.2.2.2.1).2.2.2.2.1 (bg (0, ()) z2.2.2.1 z2.2.2.2.2.1).1).1 == z2.1,
 z2.2.2.2.2.2)
 else none
 else none
 else j6 (z2.1, z2.2.1, z2.2.2.2.2.1, z2.2.2.1, z2.2.2.2.1, z2.2.2.2.2.1, false, z2.2.2.2.2.2)
 else j6 (z2.1, z2.2.1, z2.2.2.2.2.1, z2.2.2.1, z2.2.2.2.1, z2.2.2.2.2.1, false, z2.2.2.2.2.2)
 else none
 else j1 (z2.2.1, z2.2.2.2.2.2)
noncomputable def L4 (fuel : Nat) (x0 : nO) (x1 : XI) (x2 : Int) : jZ :=
 aa Fw fun j1 => iter fuel (sJ j1) (x2, 0, x1, (↑x1.length : Int), 0, x0, ())
noncomputable def MN (x : nO × Cn) : jZ := L4 100000 x.1 x.2.1 x.2.2.1
/-! 69 math/bits.TrailingZeros32 -/
def ZR : ee := ⟨[.v (.ty (.int .u32))], .v (.ty (.int .i64))⟩
def h69 : HT := (nx aW)
noncomputable def VN (fuel : Nat) (x0 : Int) : bu :=
 if (x0 == 0) = true then some (32, ())
 else
 if decide (0 ≤ 27) = true then
 if
 bt
 ((IntKind.u32.wrap
 (IntKind.u32.wrap (↑(BitVec.ofInt IntKind.u32.bits x0 &&& BitVec.ofInt IntKind.u32.bits (IntKind.u32.wrap (0 - x0))).toNat : Int) *
 125613361)).fdiv
 (2 ^ min (Int.toNat 27) IntKind.u32.bits))
 32 =
 true then
 if
 bt
 ((IntKind.u32.wrap
 (IntKind.u32.wrap
 (↑(BitVec.ofInt IntKind.u32.bits x0 &&& BitVec.ofInt IntKind.u32.bits (IntKind.u32.wrap (0 - x0))).toNat : Int) *
 125613361)).fdiv
 (2 ^ min (Int.toNat 27) IntKind.u32.bits))
 [(0, ()), (1, ()), (28, ()), (2, ()), (29, ()), (14, ()), (24, ()), (3, ()), (30, ()), (22, ()), (20, ()), (15, ()), (25, ()), (17, ()),
 (4, ()), (8, ()), (31, ()), (27, ()), (13, ()), (23, ()), (21, ()), (19, ()), (16, ()), (7, ()), (26, ()), (12, ()), (18, ()),
 (6, ()), (11, ()), (5, ()), (10, ()), (9, ())].length =
 true then
 some
 (IntKind.i64.wrap
 (bg (0, ())
 [(0, ()), (1, ()), (28, ()), (2, ()), (29, ()), (14, ()), (24, ()), (3, ()), (30, ()), (22, ()), (20, ()), (15, ()), (25, ()),
 (17, ()), (4, ()), (8, ()), (31, ()), (27, ()), (13, ()), (23, ()), (21, ()), (19, ()), (16, ()), (7, ()), (26, ()), (12, ()),
 (18, ()), (6, ()), (11, ()), (5, ()), (10, ()), (9, ())]
 ((IntKind.u32.wrap
 (IntKind.u32.wrap
 (↑(BitVec.ofInt IntKind.u32.bits x0 &&& BitVec.ofInt IntKind.u32.bits (IntKind.u32.wrap (0 - x0))).toNat : Int) *
 125613361)).fdiv
 (2 ^ min (Int.toNat 27) IntKind.u32.bits))).1,
 ())
 else none
 else none
 else none
noncomputable def VW (x : Ac) : bu := VN 0 x.1
/-! 70 math/bits.TrailingZeros64 -/
def ZS : ee := ⟨[.v (.ty (.int .u64))], .v (.ty (.int .i64))⟩
def h70 : HT := (nx aW)
noncomputable def VP (fuel : Nat) (x0 : Int) : bu :=
 if (x0 == 0) = true then some (64, ())
 else
 if decide (0 ≤ 58) = true then
 if
 bt
 ((IntKind.u64.wrap
 (IntKind.u64.wrap (↑(BitVec.ofInt IntKind.u64.bits x0 &&& BitVec.ofInt IntKind.u64.bits (IntKind.u64.wrap (0 - x0))).toNat : Int) *
 285870213051353865)).fdiv
 (2 ^ min (Int.toNat 58) IntKind.u64.bits))
 64 =
 true then
 if
 bt
 ((IntKind.u64.wrap
 (IntKind.u64.wrap
 (↑(BitVec.ofInt IntKind.u64.bits x0 &&& BitVec.ofInt IntKind.u64.bits (IntKind.u64.wrap (0 - x0))).toNat : Int) *
 285870213051353865)).fdiv
 (2 ^ min (Int.toNat 58) IntKind.u64.bits))
 [(0, ()), (1, ()), (56, ()), (2, ()), (57, ()), (49, ()), (28, ()), (3, ()), (61, ()), (58, ()), (42, ()), (50, ()), (38, ()), (29, ()),
 (17, ()), (4, ()), (62, ()), (47, ()), (59, ()), (36, ()), (45, ()), (43, ()), (51, ()), (22, ()), (53, ()), (39, ()), (33, ()),
 (30, ()), (24, ()), (18, ()), (12, ()), (5, ()), (63, ()), (55, ()), (48, ()), (27, ()), (60, ()), (41, ()), (37, ()), (16, ()),
 (46, ()), (35, ()), (44, ()), (21, ()), (52, ()), (32, ()), (23, ()), (11, ()), (54, ()), (26, ()), (40, ()), (15, ()), (34, ()),
 (20, ()), (31, ()), (10, ()), (25, ()), (14, ()), (19, ()), (9, ()), (13, ()), (8, ()), (7, ()), (6, ())].length =
 true then
 some
 (IntKind.i64.wrap
 (bg (0, ())
 [(0, ()), (1, ()), (56, ()), (2, ()), (57, ()), (49, ()), (28, ()), (3, ()), (61, ()), (58, ()), (42, ()), (50, ()), (38, ()),
 (29, ()), (17, ()), (4, ()), (62, ()), (47, ()), (59, ()), (36, ()), (45, ()), (43, ()), (51, ()), (22, ()), (53, ()), (39, ()),
 (33, ()), (30, ()), (24, ()), (18, ()), (12, ()), (5, ()), (63, ()), (55, ()), (48, ()), (27, ()), (60, ()), (41, ()), (37, ()),
 (16, ()), (46, ()), (35, ()), (44, ()), (21, ()), (52, ()), (32, ()), (23, ()), (11, ()), (54, ()), (26, ()), (40, ()), (15, ()),
 (34, ()), (20, ()), (31, ()), (10, ()), (25, ()), (14, ()), (19, ()), (9, ()), (13, ()), (8, ()), (7, ()), (6, ())]
 ((IntKind.u64.wrap
 (IntKind.u64.wrap
 (↑(BitVec.ofInt IntKind.u64.bits x0 &&& BitVec.ofInt IntKind.u64.bits (IntKind.u64.wrap (0 - x0))).toNat : Int) *
 285870213051353865)).fdiv
 (2 ^ min (Int.toNat 58) IntKind.u64.bits))).1,
 ())
 else none
 else none
 else none
noncomputable def Sf (x : Ac) : bu := VP 0 x.1
/-! 49 math/bits.TrailingZeros -/
def XM : ee := ⟨[.v (.ty (.int .u64))], .v (.ty (.int .i64))⟩
def h49 : HT := (nx (.n aC aG))
noncomputable def VM (fuel : Nat) (x0 : Int) : bu :=
 (Sf (x0, ())).bind fun r0 => some r0
noncomputable def Hw (x : Ac) : bu := VM 0 x.1
/-! 54 baggage/strip.Free -/
def XR : ee := ⟨[.v (.ty (.sl (.cons (.int .i64) .nil)))], .v (.ty (.int .i64))⟩
def S7 : HT := (nx (nx (.j ⟨[(3, dI)], [], []⟩ (nx (.u (.l ⟨[(3, dI), (6, dL), (7, dI), (8, dI)], [], []⟩ (nx (.n aF (.j ⟨[(3, dI), (6, dL), (7, dI), (8, dI)], [], []⟩ (.u (nx aO)) (.r .x))))))) aG)))
noncomputable def FA (z0 : Ac) : bu :=
 some z0
noncomputable def FB (rc2 : Int × Cg → bu) (z3 : Int × Cg) : bu :=
 rc2 (z3.1, z3.2.1, z3.2.2.1, IntKind.i64.wrap (z3.2.2.2.1 + 1), ())
noncomputable def sO (j1 : Ac → bu) (rc2 : Int × Cg → bu) (z2 : Int × Cg) : bu :=
 if decide (z2.2.2.2.1 < z2.2.2.1) = true then
 aa (FB rc2) fun j4 =>
 if bt z2.2.2.2.1 z2.2.1.length = true then
 if ((bg (0, ()) z2.2.1 z2.2.2.2.1).1 == 0) = true then j4 (IntKind.i64.wrap (z2.1 + 1), z2.2) else j4 z2
 else none
 else j1 (z2.1, ())
noncomputable def Mh (fuel : Nat) (x0 : XI) : bu :=
 aa FA fun j1 => iter fuel (sO j1) (0, x0, (↑x0.length : Int), 0, ())
noncomputable def Pt (x : Ar) : bu := Mh 100000 x.1
/-! 31 (*baggage/engine.Plan).Open -/
def Va : ee := ⟨[.bx PO, .v (.ag HH), .v (.ty (.int .i64))], .v (.ty .bool)⟩
def Z8 : HT := (nx (.n (.u (nx (.n aG (.j ⟨[(2, dI), (4, bO), (19, dB)], [(900000, bU), (1000, bS)], []⟩ (.r .x) aC)))) aG))
noncomputable def x8 (z1 : Int × Bool × nO × Bv) : Bg :=
 if z1.2.1 = true then some (false, z1.2.2.1, ())
 else
 if bt z1.1 z1.2.2.2.1.1.length = true then
 if bt 0 (List.length (bg ([], ()) z1.2.2.2.1.1 z1.1).1) = true then
 some ((bg (0, ()) (bg ([], ()) z1.2.2.2.1.1 z1.1).1 0).1 == 0, z1.2.2.1, ())
 else none
 else none
noncomputable def OU (fuel : Nat) (x0 : nO) (x1 : jv) (x2 : Int) : Bg :=
 if bt x2 x0.1.length = true then
 (yJ ((bg ([], 0, 0, 0, [], ()) x0.1 x2).2.1, ())).bind fun r0 =>
 if (!r0.1) = true then some (true, x0, ())
 else
 aa x8 fun j2 =>
 if bt x2 x0.1.length = true then
 if ((bg ([], 0, 0, 0, [], ()) x0.1 x2).2.1 == 5) = true then
 if bt x2 x1.1.length = true then (Pt (bg ([], ()) x1.1 x2)).bind fun r3 => j2 (x2, decide (r3.1 < 2), x0, x1, ()) else none
 else j2 (x2, false, x0, x1, ())
 else none
 else none
noncomputable def Hu (x : nO × jv × Ac) : Bg := OU 0 x.1 x.2.1 x.2.2.1
/-! 38 baggage/baggageref10.At -/
def XF : ee := ⟨[.v (.ag ka), .v (.ty (.sl lT)), .v (.ty (.int .i64))], .own (.cons (.int .i64) .nil)⟩
def Yg : HT := (nx (nx (.j ⟨[(7, dD)], [(1003, bG)], []⟩ (nx (.u (.l ⟨[(1, bH), (2, dI), (7, .own 1000), (8, dI)], [(1000, bG)], []⟩ (.n aK (.j ⟨[(1, bH), (2, dI), (7, dE), (8, dI)], [(1001, bG)], []⟩ (.u (nx (.n (.r (.qt 12)) .e))) (.r .x)))))) aG)))
noncomputable def yb (z0 : Ar) : fN :=
 some z0
noncomputable def yc (rc2 : Cb → fN) (z3 : Cb) : fN :=
 rc2 (z3.1, z3.2.1, IntKind.i64.wrap (z3.2.2.1 + 1), z3.2.2.2)
noncomputable def sD (j1 : Ar → fN) (rc2 : Cb → fN) (z2 : Cb) : fN :=
 if decide (z2.2.2.1 < (↑z2.1.length : Int)) = true then
 aa (yc rc2) fun j4 =>
 if bt z2.2.2.1 z2.1.length = true then
 if ((bg (0, 0, 0, ()) z2.1 z2.2.2.1).2.1 == z2.2.1) = true then
 if bt z2.2.2.1 z2.1.length = true then
 if bt z2.2.2.1 z2.1.length = true then
 if bt (bg (0, 0, 0, ()) z2.1 z2.2.2.1).2.2.1 z2.2.2.2.1.length = true then
 if decide (Int.toNat (bg (0, 0, 0, ()) z2.1 z2.2.2.1).2.2.1 + 1 ≤ z2.2.2.2.1.length) = true then
 j4
 (z2.1, z2.2.1, z2.2.2.1,
 z2.2.2.2.1.set (Int.toNat (bg (0, 0, 0, ()) z2.1 z2.2.2.1).2.2.1) ((bg (0, 0, 0, ()) z2.1 z2.2.2.1).1, ()), ())
 else none
 else none
 else none
 else none
 else j4 z2
 else none
 else j1 z2.2.2.2
noncomputable def LX (fuel : Nat) (x0 : ez) (x1 : Ad) (x2 : Int) : fN :=
 if bt x2 x0.1.length = true then
 if decide (0 ≤ (bg ([], 0, 0, 0, [], ()) x0.1 x2).2.2.1) = true then
 if decide ((bg ([], 0, 0, 0, [], ()) x0.1 x2).2.2.1 ≤ (bg ([], 0, 0, 0, [], ()) x0.1 x2).2.2.1) = true then
 if decide ((bg ([], 0, 0, 0, [], ()) x0.1 x2).2.2.1 ≤ (↑Abs.cj : Int)) = true then
 if decide ((↑8 : Int) * (bg ([], 0, 0, 0, [], ()) x0.1 x2).2.2.1 ≤ (↑Abs.cj : Int)) = true then
 aa yb fun j1 => iter fuel (sD j1) (x1, x2, 0, List.replicate (Int.toNat (bg ([], 0, 0, 0, [], ()) x0.1 x2).2.2.1) (0, ()), ())
 else none
 else none
 else none
 else none
 else none
noncomputable def Hv (x : ez × Ct) : fN := LX 100000 x.1 x.2.1 x.2.2.1
/-! 23 baggage/baggagekeep.In -/
def Xz : ee := ⟨[.v (.ty (.sl (.cons (.int .i64) .nil))), .v (.ty (.int .i64))], .v (.ty .bool)⟩
def Ya : HT := (nx (.j ⟨[], [], []⟩ (nx (.u (.l ⟨[(0, dL), (1, dI), (5, dI)], [], []⟩ bC))) aG))
noncomputable def Fg (z0 : Unit) : XB :=
 some (false, ())
noncomputable def sn (j1 : Unit → XB) (rc2 : Cg → XB) (z2 : Cg) : XB :=
 if decide (z2.2.2.1 < (↑z2.1.length : Int)) = true then
 if bt z2.2.2.1 z2.1.length = true then
 if ((bg (0, ()) z2.1 z2.2.2.1).1 == z2.2.1) = true then some (true, ()) else rc2 (z2.1, z2.2.1, IntKind.i64.wrap (z2.2.2.1 + 1), ())
 else none
 else j1 ()
noncomputable def LJ (fuel : Nat) (x0 : XI) (x1 : Int) : XB :=
 aa Fg fun j1 => iter fuel (sn j1) (x0, x1, 0, ())
noncomputable def yI (x : Cn) : XB := LJ 100000 x.1 x.2.1
/-! 7 baggage/baggagekeep.New -/
def g7 : ee := ⟨[.v (.ty (.sl (.cons (.int .i64) .nil)))], .box HG⟩
def h7 : HT := (nx (.j ⟨[(0, dL)], [], []⟩ aO aG))
noncomputable def JJ (z0 : Ar) : Option Aj :=
 some ((z0.1, 0, ()), ())
noncomputable def VO (fuel : Nat) (x0 : XI) : Option Aj :=
 aa JJ fun j1 =>
 if decide (2000 < (↑x0.length : Int)) = true then if fa 0 2000 x0.length = true then j1 (ig x0 0 2000, ()) else none else j1 (x0, ())
noncomputable def VX (x : Ar) : Option Aj := VO 0 x.1
/-! 34 (*baggage/baggagekeep.Src).Raw -/
def ZL : ee := ⟨[.bx HG], .v (.ty (.int .i64))⟩
def h34 : HT := (nx (.n (.n (.r .q) aC) (nx (.n (.r .q) .e))))
noncomputable def OW (fuel : Nat) (x0 : gP) : A4 :=
 if decide ((↑x0.1.length : Int) ≤ x0.2.1) = true then some (0, x0, ())
 else
 if bt (IntKind.i64.wrap (IntKind.i64.wrap (x0.2.1 + 1) - 1)) x0.1.length = true then
 some ((bg (0, ()) x0.1 (IntKind.i64.wrap (IntKind.i64.wrap (x0.2.1 + 1) - 1))).1, (x0.1, IntKind.i64.wrap (x0.2.1 + 1), ()), ())
 else none
noncomputable def Pq (x : Aj) : A4 := OW 0 x.1
/-! 33 baggage/baggagekeep.Mod -/
def ZK : ee := ⟨[.v (.ty (.int .i64)), .v (.ty (.int .i64))], .v (.ty (.int .i64))⟩
def Z9 : HT := (nx (.n aL (nx (.j ⟨[(0, dI)], [], []⟩ aO aG))))
noncomputable def Fq (z0 : Ac) : bu :=
 some z0
noncomputable def OV (fuel : Nat) (x0 : Int) (x1 : Int) : bu :=
 if decide (x1 < 1) = true then some (0, ())
 else
 if (x1 != 0) = true then
 aa Fq fun j1 => if decide (x0.tmod x1 < 0) = true then j1 (IntKind.i64.wrap (x0.tmod x1 + x1), ()) else j1 (x0.tmod x1, ())
 else none
noncomputable def Pp (x : A9) : bu := OV 0 x.1 x.2.1
/-! 18 (*baggage/baggagekeep.Src).N -/
def ZG : ee := ⟨[.bx HG, .v (.ty (.int .i64))], .v (.ty (.int .i64))⟩
def Z5 : HT := aO
noncomputable def OR (fuel : Nat) (x0 : gP) (x1 : Int) : A4 :=
 (Pq (x0, ())).bind fun r0 => (Pp (r0.1, x1, ())).bind fun r1 => some (r1.1, r0.2)
noncomputable def oh (x : gP × Ac) : A4 := OR 0 x.1 x.2.1
/-! 17 (*baggage/baggagekeep.Src).Range -/
def ZF : ee := ⟨[.bx HG, .v (.ty (.int .i64)), .v (.ty (.int .i64))], .v (.ty (.int .i64))⟩
def Z4 : HT := aO
noncomputable def OQ (fuel : Nat) (x0 : gP) (x1 : Int) (x2 : Int) : A4 :=
 (oh (x0, IntKind.i64.wrap (IntKind.i64.wrap (x2 - x1) + 1), ())).bind fun r0 => some (IntKind.i64.wrap (x1 + r0.1), r0.2)
noncomputable def rO (x : gP × A9) : A4 := OQ 0 x.1 x.2.1 x.2.2.1
/-! 25 (*baggage/baggagekeep.Src).Pick -/
def ZJ : ee := ⟨[.bx HG, .v (.ty (.sl (.cons (.int .i64) .nil)))], .v (.ty (.int .i64))⟩
def Z7 : HT := aO
noncomputable def OT (fuel : Nat) (x0 : gP) (x1 : XI) : A4 :=
 (oh (x0, (↑x1.length : Int), ())).bind fun r0 => if bt r0.1 x1.length = true then some ((bg (0, ()) x1 r0.1).1, r0.2) else none
noncomputable def DQ (x : gP × Ar) : A4 := OT 0 x.1 x.2.1
/-! 39 (*baggage/baggagekeep.Src).other -/
def XG : ee := ⟨[.bx HG, .v (.ty (.sl (.cons (.int .i64) .nil))), .v (.ty (.int .i64))], .v (.ty (.int .i64))⟩
def Yh : HT := (nx (nx (.j ⟨[(0, bJ), (7, dD)], [(900000, bM), (1003, bG)], []⟩ (nx (.u (.l ⟨[(0, bJ), (1, dL), (2, dI), (7, .own 1000), (8, dI)], [(900000, bM), (1000, bG)], []⟩ (.n aK (.j ⟨[(0, bJ), (1, dL), (2, dI), (7, dE), (8, dI)], [(900000, bM), (1001, bG)], []⟩ (.u aO) (.r .x)))))) aW)))
noncomputable def yd (z0 : gP × Ar) : A4 :=
 if ((↑z0.2.1.length : Int) == 0) = true then some (-1, z0.1, ())
 else
 (oh (z0.1, (↑z0.2.1.length : Int), ())).bind fun r1 =>
 if bt r1.1 z0.2.1.length = true then
 if decide (r1.1.toNat + 1 ≤ z0.2.1.length) = true then some ((z0.2.1.getD r1.1.toNat (0, ())).1, r1.2) else none
 else none
noncomputable def Ft (rc3 : B1 → A4) (z4 : B1) : A4 :=
 rc3 (z4.1, z4.2.1, IntKind.i64.wrap (z4.2.2.1 + 1), z4.2.2.2)
noncomputable def sF (j2 : gP × Ar → A4) (rc3 : B1 → A4) (z3 : B1) : A4 :=
 if decide (z3.2.2.1 < (↑z3.1.length : Int)) = true then
 aa (Ft rc3) fun j5 =>
 if bt z3.2.2.1 z3.1.length = true then
 if ((bg (0, ()) z3.1 z3.2.2.1).1 != z3.2.1) = true then
 if bt z3.2.2.1 z3.1.length = true then
 if decide (z3.2.2.2.2.1.length + 1 ≤ Abs.cj) = true then
 if decide ((z3.2.2.2.2.1.length + 1) * 8 ≤ Abs.cj) = true then
 j5 (z3.1, z3.2.1, z3.2.2.1, z3.2.2.2.1, z3.2.2.2.2.1 ++ [bg (0, ()) z3.1 z3.2.2.1], ())
 else none
 else none
 else none
 else j5 z3
 else none
 else j2 z3.2.2.2
noncomputable def LY (fuel : Nat) (x0 : gP) (x1 : XI) (x2 : Int) : A4 :=
 aa yd fun j2 => iter fuel (sF j2) (x1, x2, 0, x0, [], ())
noncomputable def MK (x : gP × Cn) : A4 := LY 100000 x.1 x.2.1 x.2.2.1
/-! 22 (*baggage/baggagekeep.Src).strip -/
def ZI : ee := ⟨[.bx HG, .v (.ty (.int .i64)), .v (.ty (.int .i64)), .v (.ty (.sl (.cons (.int .i64) .nil))), .v (.ty (.sl (.cons (.int .i64) .nil)))], .v (.ag BF)⟩
def Z6 : HT := (nx (nx (nx (.j ⟨[(10, .ref 1000 5), (11, dJ)], [(900000, bM), (1000, .box [.d .str, .d aB, .d aB, .d aB, .own 1002]), (1001, .box [.d .str, .d aB, .d aB, .d aB, .own 1003]), (1002, bG), (1003, bG)], []⟩ (nx (.u (nx (.n aT (nx (.n (nx (nx aT)) (.r .x))))))) aG))))
noncomputable def Ff (z3 : gP × (Au × Int × A9) × (Au × Int × A9) × XI × Ar) : Cz :=
 some ((z3.2.2.1.1, z3.2.2.1.2.1, z3.2.2.1.2.2.1, z3.2.2.1.2.2.2.1, z3.2.2.2.2), z3.1, ())
noncomputable def OS (fuel : Nat) (x0 : gP) (x1 : Int) (x2 : Int) (x3 : XI) (x4 : XI) : Cz :=
 (DQ (x0, x3, ())).bind fun r0 =>
 (rO (r0.2.1, 1, 3, ())).bind fun r1 =>
 (MK (r1.2.1, x4, -1, ())).bind fun r2 =>
 aa Ff fun j4 =>
 if (r0.1 == 5) = true then j4 (r2.2.1, ([], 0, 0, 0, ()), ([], r0.1, IntKind.i64.wrap (r1.1 + 1), x2, ()), [], [(x1, ()), (r2.1, ())], ())
 else
 if (r0.1 == 4) = true then
 (MK (r2.2.1, x4, r2.1, ())).bind fun r5 =>
 if decide (r5.1 < 0) = true then j4 (r5.2.1, ([], 0, 0, 0, ()), ([], 2, r1.1, x2, ()), [], [(r2.1, ())], ())
 else j4 (r5.2.1, ([], 0, 0, 0, ()), ([], r0.1, r1.1, x2, ()), [], [(r2.1, ()), (r5.1, ())], ())
 else j4 (r2.2.1, ([], 0, 0, 0, ()), ([], r0.1, r1.1, x2, ()), [], [(r2.1, ())], ())
noncomputable def Ht (x : gP × Int × Int × XI × Ar) : Cz := OS 0 x.1 x.2.1 x.2.2.1 x.2.2.2.1 x.2.2.2.2.1
/-! 24 (*baggage/baggagekeep.Src).devices -/
def XA : ee := ⟨[.bx HG, .v (.ag ka)], .own lT⟩
def Yb : HT := (nx (nx (.j ⟨[(5, .own 1018)], [(900000, bM), (1018, bK)], []⟩ (nx (.u (.l ⟨[(0, bJ), (3, bO), (5, dE), (6, dI)], [(900000, bM), (1000, bI), (1001, bK)], []⟩ (.n aK (.j ⟨[(0, bJ), (3, dF), (5, .own 1015), (6, dI)], [(900000, bM), (1014, bI), (1015, bK)], []⟩ (.u (nx (.u (.l ⟨[(0, bJ), (3, bV), (5, dD), (6, dI), (7, dI)], [(900000, bM), (1002, bI), (1003, bK)], []⟩ (.n aK (.j ⟨[(0, bJ), (3, dR), (5, .own 1011), (6, dI), (7, dI)], [(900000, bM), (1010, bI), (1011, bK)], []⟩ (.u (nx (.j ⟨[(0, bJ), (3, bZ), (5, .own 1007), (6, dI), (7, dI)], [(900000, bM), (1006, bI), (1007, bK)], []⟩ (.j ⟨[(0, bJ), (3, bX), (5, .own 1005), (6, dI), (7, dI), (54, dB)], [(900000, bM), (1004, bI), (1005, bK)], []⟩ (.r .x) aG) (.j ⟨[(0, bJ), (3, dA), (5, .own 1009), (6, dI), (7, dI), (68, dB)], [(900000, bM), (1008, bI), (1009, bK)], []⟩ (.r .x) aG)))) (.r .x))))))) (.r .x)))))) aG)))
noncomputable def Fh (z0 : gP × Ba) : mT :=
 some (z0.2.1, z0.1, ())
noncomputable def Fi (rc2 : Ap → mT) (z3 : Ap) : mT :=
 rc2 (IntKind.i64.wrap (z3.1 + 1), z3.2)
noncomputable def pr (rc5 : Bx → mT) (z6 : Bx) : mT :=
 rc5 (z6.1, IntKind.i64.wrap (z6.2.1 + 1), z6.2.2)
noncomputable def x6 (j7 : Bx → mT) (z9 : Cu) : mT :=
 if z9.2.2.1 = true then
 if decide (z9.2.2.2.2.2.1.length + 1 ≤ Abs.cj) = true then
 if decide ((z9.2.2.2.2.2.1.length + 1) * 24 ≤ Abs.cj) = true then
 j7 (z9.1, z9.2.1, z9.2.2.2.1, z9.2.2.2.2.1, z9.2.2.2.2.2.1 ++ [(1, z9.1, z9.2.1, ())], ())
 else none
 else none
 else j7 (z9.1, z9.2.1, z9.2.2.2)
noncomputable def sq (j7 : Bx → mT) (z8 : Bx) : mT :=
 aa (x6 j7) fun j10 =>
 if decide ((↑z8.2.2.2.2.1.length : Int) < 24) = true then (oh (z8.2.2.1, 2, ())).bind fun r11 => j10 (z8.1, z8.2.1, r11.1 == 0, r11.2.1, z8.2.2.2)
 else j10 (z8.1, z8.2.1, false, z8.2.2)
noncomputable def pq (j12 : Bx → mT) (z13 : Cu) : mT :=
 if z13.2.2.1 = true then
 if decide (z13.2.2.2.2.2.1.length + 1 ≤ Abs.cj) = true then
 if decide ((z13.2.2.2.2.2.1.length + 1) * 24 ≤ Abs.cj) = true then
 j12 (z13.1, z13.2.1, z13.2.2.2.1, z13.2.2.2.2.1, z13.2.2.2.2.2.1 ++ [(2, z13.1, z13.2.1, ())], ())
 else none
 else none
 else j12 (z13.1, z13.2.1, z13.2.2.2)
noncomputable def pt (j4 : Ap → mT) (rc5 : Bx → mT) (z5 : Bx) : mT :=
 if bt z5.1 z5.2.2.2.1.1.length = true then
 if decide (z5.2.1 < (bg ([], 0, 0, 0, [], ()) z5.2.2.2.1.1 z5.1).2.2.1) = true then
 aa (pr rc5) fun j7 =>
 if bt z5.1 z5.2.2.2.1.1.length = true then
 aa (sq j7) fun j12 =>
 aa (pq j12) fun j14 =>
 if decide ((↑z5.2.2.2.2.1.length : Int) < 24) = true then
 (oh (z5.2.2.1, 3, ())).bind fun r15 =>
 if (r15.1 == 0) = true then j14 (z5.1, z5.2.1, true, r15.2.1, z5.2.2.2)
 else
 if (z5.2.1 == IntKind.i64.wrap ((bg ([], 0, 0, 0, [], ()) z5.2.2.2.1.1 z5.1).2.2.1 - 1)) = true then
 if bt z5.1 z5.2.2.2.1.1.length = true then
 j14 (z5.1, z5.2.1, (bg ([], 0, 0, 0, [], ()) z5.2.2.2.1.1 z5.1).2.1 == 6, r15.2.1, z5.2.2.2)
 else none
 else j14 (z5.1, z5.2.1, false, r15.2.1, z5.2.2.2)
 else j14 (z5.1, z5.2.1, false, z5.2.2)
 else none
 else j4 (z5.1, z5.2.2)
 else none
noncomputable def sr (fuel : Nat) (j1 : gP × Ba → mT) (rc2 : Ap → mT) (z2 : Ap) : mT :=
 if decide (z2.1 < (↑z2.2.2.1.1.length : Int)) = true then aa (Fi rc2) fun j4 => iter fuel (pt j4) (z2.1, 0, z2.2)
 else j1 (z2.2.1, z2.2.2.2)
noncomputable def LK (fuel : Nat) (x0 : gP) (x1 : ez) : mT :=
 aa Fh fun j1 => iter fuel (sr fuel j1) (0, x0, x1, [], ())
noncomputable def Pm (x : gP × A5) : mT := LK 100000 x.1 x.2.1
/-! 8 (*baggage/baggagekeep.Src).Layout -/
def g8 : ee := ⟨[.bx HG], .v (.ag ka)⟩
def h8 : HT := (nx (nx (nx (nx (nx (.j ⟨[(0, bJ), (2, .ref 1073 2), (7, dI), (9, .ref 1074 2)], [(900000, bM), (1073, .box [.own 1075, .own 1076]), (1074, .box [.own 1077, .own 1078]), (1075, bL), (1076, bK), (1077, bL), (1078, bK)], []⟩ (nx (.u (.l ⟨[(0, bJ), (2, bO), (4, dI), (6, dI), (7, dI), (8, dI), (9, bY), (10, dI)], [(900000, bM), (1000, .box [.own 1002, .own 1003]), (1001, .box [.own 1004, .own 1005]), (1002, bL), (1003, bK), (1004, bL), (1005, bK)], []⟩ (.n aK (.j ⟨[(0, bJ), (2, .ref 1061 2), (4, dI), (6, dI), (7, dI), (8, dI), (9, .ref 1062 2), (10, dI)], [(900000, bM), (1061, .box [.own 1063, .own 1064]), (1062, .box [.own 1065, .own 1066]), (1063, bL), (1064, bK), (1065, bL), (1066, bK)], []⟩ (.u (nx (.j ⟨[(0, bJ), (2, .ref 1022 2), (4, dI), (6, dI), (7, dI), (8, dI), (9, .ref 1023 2), (10, dI), (11, .own 1024), (12, .own 1025)], [(900000, bM), (1022, .box [.own 1026, .own 1027]), (1023, .box [.own 1028, .own 1029]), (1024, bG), (1025, bG), (1026, bL), (1027, bK), (1028, bL), (1029, bK)], []⟩ (nx (.u (.l ⟨[(0, bJ), (2, bZ), (4, dI), (6, dI), (7, dI), (8, dI), (9, dK), (10, dI), (11, .own 1008), (12, .own 1009), (13, dI)], [(900000, bM), (1006, .box [.own 1010, .own 1011]), (1007, .box [.own 1012, .own 1013]), (1008, bG), (1009, bG), (1010, bL), (1011, bK), (1012, bL), (1013, bK)], []⟩ aU))) (nx (.j ⟨[(0, bJ), (2, .ref 1046 2), (4, dI), (6, dI), (7, dI), (8, dI), (9, .ref 1047 2), (10, dI), (11, .own 1048), (12, .own 1049)], [(900000, bM), (1046, .box [.own 1050, .own 1051]), (1047, .box [.own 1052, .own 1053]), (1048, bG), (1049, bG), (1050, bL), (1051, bK), (1052, bL), (1053, bK)], []⟩ (nx (.u (.l ⟨[(0, bJ), (2, .ref 1030 2), (4, dI), (6, dI), (7, dI), (8, dI), (9, .ref 1031 2), (10, dI), (11, .own 1032), (12, .own 1033), (14, dI)], [(900000, bM), (1030, .box [.own 1034, .own 1035]), (1031, .box [.own 1036, .own 1037]), (1032, bG), (1033, bG), (1034, bL), (1035, bK), (1036, bL), (1037, bK)], []⟩ aU))) (nx (nx (.j ⟨[(0, bJ), (2, .ref 1054 2), (4, dI), (6, dI), (7, dI), (8, dI), (9, .ref 1055 2), (10, dI), (15, .ref 1056 5)], [(900000, bM), (1054, .box [.own 1057, .own 1058]), (1055, .box [.own 1059, .own 1060]), (1056, bQ), (1057, bL), (1058, bK), (1059, bL), (1060, bK)], []⟩ (.u (nx (nx (nx (nx (nx (nx (nx (.n (nx aO) (nx aT)))))))))) aT)))))))) (.r .x)))))) (.j ⟨[(0, bJ), (2, .ref 1103 2), (9, .ref 1104 2)], [(900000, bM), (1103, .box [.own 1105, .own 1106]), (1104, .box [.own 1107, .own 1108]), (1105, bL), (1106, bK), (1107, bL), (1108, bK)], []⟩ (nx (.n (nx (.u (.l ⟨[(0, bJ), (2, .ref 1079 2), (7, dI), (9, .ref 1080 2), (16, dI)], [(900000, bM), (1079, .box [.own 1081, .own 1082]), (1080, .box [.own 1083, .own 1084]), (1081, bL), (1082, bK), (1083, bL), (1084, bK)], []⟩ (.n aK (.j ⟨[(0, bJ), (2, .ref 1091 2), (7, dI), (9, .ref 1092 2), (16, dI)], [(900000, bM), (1091, .box [.own 1093, .own 1094]), (1092, .box [.own 1095, .own 1096]), (1093, bL), (1094, bK), (1095, bL), (1096, bK)], []⟩ (.u (.j ⟨[(0, bJ), (2, .ref 1085 2), (7, dI), (9, .ref 1086 2), (16, dI), (167, dB)], [(900000, bM), (1085, .box [.own 1087, .own 1088]), (1086, .box [.own 1089, .own 1090]), (1087, bL), (1088, bK), (1089, bL), (1090, bK)], []⟩ (.r .x) (.n (.r (.w 14 [(0, 0), (0, 1), (1, 2), (1, 3), (1, 4), (0, 6), (0, 7), (1, 8), (0, 9), (0, 10), (0, 11), (1, 12), (3, 5), (2, 13)])) .e))) (.r .x)))))) .e)) aO)))))))
noncomputable def yC (z4 : gP × Bs) : Aw :=
 (Pm (z4.1, z4.2.2.2.2.2, ())).bind fun r5 => some ((z4.2.2.2.2.2.1, r5.1, ()), r5.2)
noncomputable def DI (rc8 : Ay → Aw) (z9 : Ay) : Aw :=
 rc8 (z9.1, IntKind.i64.wrap (z9.2.1 + 1), z9.2.2.1, (), (), z9.2.2.2.2.2)
noncomputable def yy (j10 : Ay → Aw) (z11 : Int × Int × Bool × gP × Bs) : Aw :=
 if z11.2.2.1 = true then
 if bt z11.2.1 z11.2.2.2.2.2.2.2.2.1.length = true then
 if decide (z11.2.1.toNat + 1 ≤ z11.2.2.2.2.2.2.2.2.1.length) = true then
 if
 fa 1 (↑(List.length (z11.2.2.2.2.2.2.2.2.1.getD z11.2.1.toNat ([], 0, 0, 0, [], ())).2.2.2.2.1) : Int)
 (List.length (z11.2.2.2.2.2.2.2.2.1.getD z11.2.1.toNat ([], 0, 0, 0, [], ())).2.2.2.2.1) =
 true then
 if
 decide
 ([(IntKind.i64.wrap (z11.2.1 + 1), ())].length +
 (ig (z11.2.2.2.2.2.2.2.2.1.getD z11.2.1.toNat ([], 0, 0, 0, [], ())).2.2.2.2.1 1
 (↑(List.length (z11.2.2.2.2.2.2.2.2.1.getD z11.2.1.toNat ([], 0, 0, 0, [], ())).2.2.2.2.1) : Int)).length ≤
 Abs.cj) =
 true then
 if
 decide
 (([(IntKind.i64.wrap (z11.2.1 + 1), ())].length +
 (ig (z11.2.2.2.2.2.2.2.2.1.getD z11.2.1.toNat ([], 0, 0, 0, [], ())).2.2.2.2.1 1
 (↑(List.length (z11.2.2.2.2.2.2.2.2.1.getD z11.2.1.toNat ([], 0, 0, 0, [], ())).2.2.2.2.1) : Int)).length) *
 8 ≤
 Abs.cj) =
 true then
 if bt z11.2.1 z11.2.2.2.2.2.2.2.2.1.length = true then
 if decide (z11.2.1.toNat + 1 ≤ z11.2.2.2.2.2.2.2.2.1.length) = true then
 j10
 (z11.1, z11.2.1, z11.2.2.2.1, (), (), z11.2.2.2.2.2.2.1, z11.2.2.2.2.2.2.2.1,
 z11.2.2.2.2.2.2.2.2.1.set z11.2.1.toNat
 ((z11.2.2.2.2.2.2.2.2.1.getD z11.2.1.toNat ([], 0, 0, 0, [], ())).1,
 (z11.2.2.2.2.2.2.2.2.1.getD z11.2.1.toNat ([], 0, 0, 0, [], ())).2.1,
 (z11.2.2.2.2.2.2.2.2.1.getD z11.2.1.toNat ([], 0, 0, 0, [], ())).2.2.1,
 (z11.2.2.2.2.2.2.2.2.1.getD z11.2.1.toNat ([], 0, 0, 0, [], ())).2.2.2.1,
 [(IntKind.i64.wrap (z11.2.1 + 1), ())] ++
 ig (z11.2.2.2.2.2.2.2.2.1.getD z11.2.1.toNat ([], 0, 0, 0, [], ())).2.2.2.2.1 1
 (↑(List.length (z11.2.2.2.2.2.2.2.2.1.getD z11.2.1.toNat ([], 0, 0, 0, [], ())).2.2.2.2.1) : Int),
 ()),
 z11.2.2.2.2.2.2.2.2.2)
 else none
 else none
 else none
 else none
 else none
 else none
 else none
 else j10 (z11.1, z11.2.1, z11.2.2.2.1, (), (), z11.2.2.2.2.2.2)
noncomputable def vn (j6 : gP × Bs → Aw) (rc8 : Ay → Aw) (z8 : Ay) : Aw :=
 if decide (z8.2.1 < z8.1) = true then
 aa (DI rc8) fun j10 =>
 aa (yy j10) fun j12 =>
 if bt z8.2.1 z8.2.2.2.2.2.2.2.1.length = true then
 if decide (z8.2.1.toNat + 1 ≤ z8.2.2.2.2.2.2.2.1.length) = true then
 if ((z8.2.2.2.2.2.2.2.1.getD z8.2.1.toNat ([], 0, 0, 0, [], ())).2.1 != 5) = true then
 if bt z8.2.1 z8.2.2.2.2.2.2.2.1.length = true then
 if decide (z8.2.1.toNat + 1 ≤ z8.2.2.2.2.2.2.2.1.length) = true then
 (yI ((z8.2.2.2.2.2.2.2.1.getD z8.2.1.toNat ([], 0, 0, 0, [], ())).2.2.2.2.1, IntKind.i64.wrap (z8.2.1 + 1), ())).bind fun r13 =>
 j12 (z8.1, z8.2.1, !r13.1, z8.2.2.1, (), (), z8.2.2.2.2.2)
 else none
 else none
 else j12 (z8.1, z8.2.1, false, z8.2.2.1, (), (), z8.2.2.2.2.2)
 else none
 else none
 else j6 (z8.2.2.1, (), (), z8.2.2.2.2.2)
noncomputable def yB (fuel : Nat) (z3 : Int × gP × Bs) : Aw :=
 aa yC fun j6 =>
 (oh (z3.2.1, 4, ())).bind fun r7 =>
 if decide (0 < r7.1) = true then iter fuel (vn j6) (z3.1, 0, r7.2.1, (), (), z3.2.2.2.2) else j6 (r7.2.1, (), (), z3.2.2.2.2)
noncomputable def yz (rc15 : Bl → Aw) (z16 : Bl) : Aw :=
 rc15 (z16.1, z16.2.1, z16.2.2.1, z16.2.2.2.1, IntKind.i64.wrap (z16.2.2.2.2.1 + 1), z16.2.2.2.2.2.1, (), (), z16.2.2.2.2.2.2.2.2)
noncomputable def yA (j17 : Bl → Aw) (z20 : Int × Int × Int × Int × Int × gP × Unit × Unit × tF × Aa) : Aw :=
 if
 decide
 (z20.2.2.2.2.2.2.2.2.2.2.2.1.length +
 [(toBytes [(IntKind.u8.wrap (IntKind.i64.wrap (65 + z20.2.2.2.2.1)), ())], z20.2.2.2.2.2.2.2.2.1.2)].length ≤
 Abs.cj) =
 true then
 if
 decide
 ((z20.2.2.2.2.2.2.2.2.2.2.2.1.length +
 [(toBytes [(IntKind.u8.wrap (IntKind.i64.wrap (65 + z20.2.2.2.2.1)), ())], z20.2.2.2.2.2.2.2.2.1.2)].length) *
 64 ≤
 Abs.cj) =
 true then
 j17
 (z20.1, z20.2.1, z20.2.2.1, z20.2.2.2.1, z20.2.2.2.2.1, z20.2.2.2.2.2.1, (), (), z20.2.2.2.2.2.2.2.2.2.1, z20.2.2.2.2.2.2.2.2.2.2.1,
 z20.2.2.2.2.2.2.2.2.2.2.2.1 ++ [(toBytes [(IntKind.u8.wrap (IntKind.i64.wrap (65 + z20.2.2.2.2.1)), ())], z20.2.2.2.2.2.2.2.2.1.2)],
 z20.2.2.2.2.2.2.2.2.2.2.2.2)
 else none
 else none
noncomputable def Gc (j17 : Bl → Aw) (z19 : Aq) : Aw :=
 if decide (z19.2.2.2.2.2.2.2.2.2.1.length + 1 ≤ Abs.cj) = true then
 if decide ((z19.2.2.2.2.2.2.2.2.2.1.length + 1) * 8 ≤ Abs.cj) = true then
 aa (yA j17) fun j21 =>
 if (z19.2.2.2.2.1 == 0) = true then
 (Ht (z19.2.2.2.2.2.1, z19.2.2.2.2.1, 0, [(1, ())], z19.2.2.2.2.2.2.2.2.1, ())).bind fun r22 =>
 j21 (z19.1, z19.2.1, z19.2.2.1, z19.2.2.2.1, z19.2.2.2.2.1, r22.2.1, (), (), r22.1, z19.2.2.2.2.2.2.2.2.2.2)
 else
 if decide (z19.2.2.2.2.1 < z19.2.2.1) = true then
 (Ht (z19.2.2.2.2.2.1, z19.2.2.2.2.1, 0, [(2, ()), (3, ()), (4, ()), (5, ()), (3, ())], z19.2.2.2.2.2.2.2.2.1, ())).bind fun r23 =>
 j21 (z19.1, z19.2.1, z19.2.2.1, z19.2.2.2.1, z19.2.2.2.2.1, r23.2.1, (), (), r23.1, z19.2.2.2.2.2.2.2.2.2.2)
 else
 if (z19.2.2.2.2.1 == z19.2.2.1) = true then
 (rO (z19.2.2.2.2.2.1, 1, 3, ())).bind fun r24 =>
 (oh (r24.2.1, (↑(z19.2.2.2.2.2.2.2.2.2.1 ++ [(IntKind.i64.wrap (z19.2.1 - 1), ())]).length : Int), ())).bind fun r25 =>
 if bt r25.1 (z19.2.2.2.2.2.2.2.2.2.1 ++ [(IntKind.i64.wrap (z19.2.1 - 1), ())]).length = true then
 if decide (r25.1.toNat + 1 ≤ (z19.2.2.2.2.2.2.2.2.2.1 ++ [(IntKind.i64.wrap (z19.2.1 - 1), ())]).length) = true then
 j21
 (z19.1, z19.2.1, z19.2.2.1, z19.2.2.2.1, z19.2.2.2.2.1, r25.2.1, (), (),
 ([], 6, r24.1, 0,
 [(z19.2.2.2.1, ()), (z19.2.2.2.2.2.2.2.2.2.1 ++ [(IntKind.i64.wrap (z19.2.1 - 1), ())]).getD r25.1.toNat (0, ())], ()),
 z19.2.2.2.2.2.2.2.2.2.2)
 else none
 else none
 else
 if decide (z19.2.2.2.2.1 < IntKind.i64.wrap (IntKind.i64.wrap (z19.2.2.1 + 1) + z19.1)) = true then
 (Ht
 (z19.2.2.2.2.2.1, z19.2.2.2.2.1, 1, [(2, ()), (4, ()), (5, ()), (7, ())],
 z19.2.2.2.2.2.2.2.2.2.1 ++ [(IntKind.i64.wrap (z19.2.1 - 1), ())], ())).bind
 fun r26 =>
 if (r26.1.2.1 == 7) = true then
 j21
 (z19.1, z19.2.1, z19.2.2.1, z19.2.2.2.1, z19.2.2.2.2.1, r26.2.1, (), (), (r26.1.1, r26.1.2.1, 0, r26.1.2.2.2),
 z19.2.2.2.2.2.2.2.2.2.2)
 else j21 (z19.1, z19.2.1, z19.2.2.1, z19.2.2.2.1, z19.2.2.2.2.1, r26.2.1, (), (), r26.1, z19.2.2.2.2.2.2.2.2.2.2)
 else
 if decide (z19.2.2.2.2.1 < z19.2.2.2.1) = true then
 j21 (z19.1, z19.2.1, z19.2.2.1, z19.2.2.2.1, z19.2.2.2.2.1, z19.2.2.2.2.2.1, (), (), ([], 8, 0, 1, [], ()), z19.2.2.2.2.2.2.2.2.2.2)
 else
 j21
 (z19.1, z19.2.1, z19.2.2.1, z19.2.2.2.1, z19.2.2.2.2.1, z19.2.2.2.2.2.1, (), (),
 ([], 9, 0, IntKind.i64.wrap (z19.2.2.2.2.1 - z19.2.2.2.1), [], ()), z19.2.2.2.2.2.2.2.2.2.2)
 else none
 else none
noncomputable def pV (j27 : Aq → Aw) (rc28 : Int × Aq → Aw) (z28 : Int × Aq) : Aw :=
 if decide (z28.2.2.2.2.2.1 < z28.2.2.2.1) = true then
 if decide (z28.2.2.2.2.2.2.2.2.2.2.1.length + 1 ≤ Abs.cj) = true then
 if decide ((z28.2.2.2.2.2.2.2.2.2.2.1.length + 1) * 8 ≤ Abs.cj) = true then
 rc28
 (z28.1, z28.2.1, z28.2.2.1, z28.2.2.2.1, z28.2.2.2.2.1, IntKind.i64.wrap (z28.2.2.2.2.2.1 + 1), z28.2.2.2.2.2.2.1, (), (),
 z28.2.2.2.2.2.2.2.2.2.1, z28.2.2.2.2.2.2.2.2.2.2.1 ++ [(z28.2.2.2.2.2.1, ())], z28.2.2.2.2.2.2.2.2.2.2.2)
 else none
 else none
 else j27 (z28.1, z28.2.1, z28.2.2.1, z28.2.2.2.1, z28.2.2.2.2.1, z28.2.2.2.2.2.2.1, (), (), z28.2.2.2.2.2.2.2.2.2)
noncomputable def Gb (fuel : Nat) (j17 : Bl → Aw) (z18 : Aq) : Aw :=
 if decide (z18.2.2.2.2.2.2.2.2.1.length + 1 ≤ Abs.cj) = true then
 if decide ((z18.2.2.2.2.2.2.2.2.1.length + 1) * 8 ≤ Abs.cj) = true then
 aa (Gc j17) fun j27 =>
 iter fuel (pV j27)
 (z18.1, z18.2.1, z18.2.2.1, z18.2.2.2.1, z18.2.2.2.2.1,
 IntKind.i64.wrap ((if z18.2.2.1 > z18.2.2.2.2.1 then z18.2.2.1 else z18.2.2.2.2.1) + 1), z18.2.2.2.2.2.1, (), (),
 z18.2.2.2.2.2.2.2.2.1 ++ [(z18.2.2.2.1, ())], z18.2.2.2.2.2.2.2.2.2)
 else none
 else none
noncomputable def pW (j29 : Aq → Aw) (rc30 : Int × Aq → Aw) (z30 : Int × Aq) : Aw :=
 if decide (z30.2.2.2.2.2.1 ≤ z30.2.2.1) = true then
 if decide (z30.2.2.2.2.2.2.2.2.2.1.length + 1 ≤ Abs.cj) = true then
 if decide ((z30.2.2.2.2.2.2.2.2.2.1.length + 1) * 8 ≤ Abs.cj) = true then
 rc30
 (z30.1, z30.2.1, z30.2.2.1, z30.2.2.2.1, z30.2.2.2.2.1, IntKind.i64.wrap (z30.2.2.2.2.2.1 + 1), z30.2.2.2.2.2.2.1, (), (),
 z30.2.2.2.2.2.2.2.2.2.1 ++ [(z30.2.2.2.2.2.1, ())], z30.2.2.2.2.2.2.2.2.2.2)
 else none
 else none
 else j29 (z30.1, z30.2.1, z30.2.2.1, z30.2.2.2.1, z30.2.2.2.2.1, z30.2.2.2.2.2.2.1, (), (), z30.2.2.2.2.2.2.2.2.2)
noncomputable def pU (fuel : Nat) (j14 : Int × gP × Bs → Aw) (rc15 : Bl → Aw) (z15 : Bl) : Aw :=
 if decide (z15.2.2.2.2.1 < z15.2.1) = true then
 aa (yz rc15) fun j17 =>
 aa (Gb fuel j17) fun j29 =>
 iter fuel (pW j29)
 (z15.1, z15.2.1, z15.2.2.1, z15.2.2.2.1, z15.2.2.2.2.1, IntKind.i64.wrap (z15.2.2.2.2.1 + 1), z15.2.2.2.2.2.1, (), (), [], [],
 z15.2.2.2.2.2.2.2.2)
 else j14 (z15.2.2.1, z15.2.2.2.2.2.1, (), (), z15.2.2.2.2.2.2.2.2)
noncomputable def Tf (fuel : Nat) (x0 : gP) : Aw :=
 (rO (x0, 1, 3, ())).bind fun r0 =>
 (rO (r0.2.1, 0, 3, ())).bind fun r1 =>
 (rO (r1.2.1, 1, 2, ())).bind fun r2 =>
 aa (yB fuel) fun j14 =>
 iter fuel (pU fuel j14)
 (r1.1, IntKind.i64.wrap (IntKind.i64.wrap (IntKind.i64.wrap (IntKind.i64.wrap (r0.1 + 1) + r1.1) + r2.1) + 2), r0.1,
 IntKind.i64.wrap (IntKind.i64.wrap (IntKind.i64.wrap (IntKind.i64.wrap (IntKind.i64.wrap (r0.1 + 1) + r1.1) + r2.1) + 2) - 2), 0, r2.2.1,
 (), (), [], [], [], [], ())
noncomputable def Th (x : Aj) : Aw := Tf 100000 x.1
/-! 9 (*baggage/baggagekeep.Src).Plant -/
def g9 : ee := ⟨[.bx HG, .v (.ag ka), .v (.ty (.int .i64))], .v (.ag HH)⟩
def h9 : HT := (nx (nx (nx (.j ⟨[(6, .ref 1097 2), (7, .ref 1098 2)], [(900000, bM), (1097, .box [.own 1099, .own 1100]), (1098, .box [.own 1101, .own 1102]), (1099, bP), (1100, bP), (1101, bP), (1102, bP)], []⟩ (nx (.u (.l ⟨[(0, bJ), (2, dI), (4, bO), (6, bY), (7, bV), (8, dI), (9, dI)], [(900000, bM), (1000, bI), (1001, .box [.own 1003, .own 1004]), (1002, .box [.own 1005, .own 1006]), (1003, bP), (1004, bP), (1005, bP), (1006, bP)], []⟩ (.n aK (.j ⟨[(0, bJ), (2, dI), (4, .ref 1083 2), (6, .ref 1084 2), (7, .ref 1085 2), (8, dI), (9, dI)], [(900000, bM), (1083, bI), (1084, .box [.own 1086, .own 1087]), (1085, .box [.own 1088, .own 1089]), (1086, bP), (1087, bP), (1088, bP), (1089, bP)], []⟩ (.u (nx (nx (nx (nx (.j ⟨[(0, bJ), (2, dI), (4, dK), (6, dA), (7, dT), (8, dI), (9, dI), (10, .ref 1010 5), (11, .own 1011), (12, .own 1012), (13, dI)], [(900000, bM), (1007, bI), (1008, .box [.own 1013, .own 1014]), (1009, .box [.own 1015, .own 1016]), (1010, bQ), (1011, bG), (1012, bG), (1013, bP), (1014, bP), (1015, bP), (1016, bP)], []⟩ aO (.j ⟨[(0, bJ), (2, dI), (4, .ref 1057 2), (6, .ref 1058 2), (7, .ref 1059 2), (8, dI), (9, dI), (10, .ref 1060 5), (11, .own 1061), (12, .own 1062)], [(900000, bM), (1057, bI), (1058, .box [.own 1063, .own 1064]), (1059, .box [.own 1065, .own 1066]), (1060, bQ), (1061, bG), (1062, bG), (1063, bP), (1064, bP), (1065, bP), (1066, bP)], []⟩ (nx (.u (.l ⟨[(0, bJ), (2, dI), (4, dM), (6, dN), (7, dU), (8, dI), (9, dI), (10, .ref 1020 5), (11, .own 1021), (12, .own 1022), (13, dI), (14, dI)], [(900000, bM), (1017, bI), (1018, .box [.own 1023, .own 1024]), (1019, .box [.own 1025, .own 1026]), (1020, bQ), (1021, bG), (1022, bG), (1023, bP), (1024, bP), (1025, bP), (1026, bP)], []⟩ (.n aK (.j ⟨[(0, bJ), (2, dI), (4, .ref 1037 2), (6, .ref 1038 2), (7, .ref 1039 2), (8, dI), (9, dI), (10, .ref 1040 5), (11, .own 1041), (12, .own 1042), (13, dI), (14, dI)], [(900000, bM), (1037, bI), (1038, .box [.own 1043, .own 1044]), (1039, .box [.own 1045, .own 1046]), (1040, bQ), (1041, bG), (1042, bG), (1043, bP), (1044, bP), (1045, bP), (1046, bP)], []⟩ (.u (.j ⟨[(0, bJ), (2, dI), (4, .ref 1027 2), (6, .ref 1028 2), (7, .ref 1029 2), (8, dI), (9, dI), (10, .ref 1030 5), (11, .own 1031), (12, .own 1032), (13, dI), (14, dI), (53, dB)], [(900000, bM), (1027, bI), (1028, .box [.own 1033, .own 1034]), (1029, .box [.own 1035, .own 1036]), (1030, bQ), (1031, bG), (1032, bG), (1033, bP), (1034, bP), (1035, bP), (1036, bP)], []⟩ (.r .x) (.n aT .e))) (.r .x)))))) (.j ⟨[(0, bJ), (2, dI), (4, .ref 1076 2), (6, .ref 1077 2), (7, .ref 1078 2), (8, dI), (9, dI), (11, dL), (12, dL)], [(900000, bM), (1076, bI), (1077, .box [.own 1079, .own 1080]), (1078, .box [.own 1081, .own 1082]), (1079, bP), (1080, bP), (1081, bP), (1082, bP)], []⟩ (.j ⟨[(0, bJ), (2, dI), (4, .ref 1067 2), (6, .ref 1068 2), (7, .ref 1069 2), (8, dI), (9, dI), (11, .own 1070), (12, .own 1071), (75, dB)], [(900000, bM), (1067, bI), (1068, .box [.own 1072, .own 1073]), (1069, .box [.own 1074, .own 1075]), (1070, bG), (1071, bG), (1072, bP), (1073, bP), (1074, bP), (1075, bP)], []⟩ (.r .x) (.n aT .e)) (.r (.w 11 [(0, 0), (0, 1), (1, 2), (0, 5), (0, 6), (1, 7), (3, 3), (2, 4), (0, 10), (5, 8), (2, 9)])))))))))) (.r .x)))))) aG))))
noncomputable def DJ (z0 : gP × Unit × Unit × Bk) : A0 :=
 some (z0.2.2.2.2.2, z0.1, ())
noncomputable def og (rc2 : As → A0) (z3 : As) : A0 :=
 rc2 (z3.1, z3.2.1, IntKind.i64.wrap (z3.2.2.1 + 1), z3.2.2.2.1, z3.2.2.2.2.1, (), (), z3.2.2.2.2.2.2.2)
noncomputable def yG (j4 : As → A0) (z7 : B9) : A0 :=
 if decide (z7.2.2.2.2.2.2.2.2.2.2.2.1.length + 1 ≤ Abs.cj) = true then
 if decide ((z7.2.2.2.2.2.2.2.2.2.2.2.1.length + 1) * 24 ≤ Abs.cj) = true then
 if decide (z7.2.2.2.2.2.2.2.2.2.2.2.2.1.length + 1 ≤ Abs.cj) = true then
 if decide ((z7.2.2.2.2.2.2.2.2.2.2.2.2.1.length + 1) * 24 ≤ Abs.cj) = true then
 j4
 (z7.1, z7.2.1, z7.2.2.1, z7.2.2.2.2.2.1, z7.2.2.2.2.2.2.1, (), (), z7.2.2.2.2.2.2.2.2.2.1, z7.2.2.2.2.2.2.2.2.2.2.1,
 z7.2.2.2.2.2.2.2.2.2.2.2.1 ++ [(z7.2.2.2.1, ())], z7.2.2.2.2.2.2.2.2.2.2.2.2.1 ++ [(z7.2.2.2.2.1, ())], ())
 else none
 else none
 else none
 else none
noncomputable def DL (j8 : B9 → A0) (z9 : Int × Int × Int × Bool × gP × ez × Unit × Unit × XI × XI × Bk) : A0 :=
 if z9.2.2.2.1 = true then
 if decide (z9.2.2.2.2.2.2.2.2.2.1.length + 1 ≤ Abs.cj) = true then
 if decide ((z9.2.2.2.2.2.2.2.2.2.1.length + 1) * 8 ≤ Abs.cj) = true then
 j8
 (IntKind.i64.wrap (z9.1 - 1), IntKind.i64.wrap (z9.2.1 + 1), z9.2.2.1, z9.2.2.2.2.2.2.2.2.1, z9.2.2.2.2.2.2.2.2.2.1 ++ [(z9.2.1, ())],
 z9.2.2.2.2.1, z9.2.2.2.2.2.1, (), (), z9.2.2.2.2.2.2.2.2.2.2)
 else none
 else none
 else j8 (z9.1, z9.2.1, z9.2.2.1, z9.2.2.2.2.2.2.2.2.1, z9.2.2.2.2.2.2.2.2.2.1, z9.2.2.2.2.1, z9.2.2.2.2.2.1, (), (), z9.2.2.2.2.2.2.2.2.2.2)
noncomputable def yF (j4 : As → A0) (z6 : Al) : A0 :=
 aa (yG j4) fun j8 =>
 aa (DL j8) fun j10 =>
 if (z6.2.2.2.2.2.2.2.1.2.2.1 == 0) = true then
 if decide (0 < z6.1) = true then
 (oh (z6.2.2.2.1, 3, ())).bind fun r11 => j10 (z6.1, z6.2.1, z6.2.2.1, r11.1 == 0, r11.2.1, z6.2.2.2.2.1, (), (), z6.2.2.2.2.2.2.2.2)
 else j10 (z6.1, z6.2.1, z6.2.2.1, false, z6.2.2.2.1, z6.2.2.2.2.1, (), (), z6.2.2.2.2.2.2.2.2)
 else j10 (z6.1, z6.2.1, z6.2.2.1, false, z6.2.2.2.1, z6.2.2.2.2.1, (), (), z6.2.2.2.2.2.2.2.2)
noncomputable def yD (rc13 : Cc → A0) (z14 : Cc) : A0 :=
 rc13 (z14.1, z14.2.1, z14.2.2.1, z14.2.2.2.1, IntKind.i64.wrap (z14.2.2.2.2.1 + 1), z14.2.2.2.2.2.1, z14.2.2.2.2.2.2.1, (), (), z14.2.2.2.2.2.2.2.2.2)
noncomputable def yE (j15 : Cc → A0) (z16 : Int × Int × Int × Int × Int × Bool × gP × ez × Unit × Unit × tF × XI × XI × Bk) : A0 :=
 if z16.2.2.2.2.2.1 = true then
 if bt z16.2.2.2.2.1 z16.2.2.2.2.2.2.2.2.2.2.2.1.length = true then
 if decide (z16.2.2.2.2.1.toNat + 1 ≤ z16.2.2.2.2.2.2.2.2.2.2.2.1.length) = true then
 j15
 (IntKind.i64.wrap (z16.1 - 1), IntKind.i64.wrap (z16.2.1 + 1), z16.2.2.1, IntKind.i64.wrap (z16.2.2.2.1 - 1), z16.2.2.2.2.1,
 z16.2.2.2.2.2.2.1, z16.2.2.2.2.2.2.2.1, (), (), z16.2.2.2.2.2.2.2.2.2.2.1,
 z16.2.2.2.2.2.2.2.2.2.2.2.1.set z16.2.2.2.2.1.toNat (z16.2.1, ()), z16.2.2.2.2.2.2.2.2.2.2.2.2)
 else none
 else none
 else j15 (z16.1, z16.2.1, z16.2.2.1, z16.2.2.2.1, z16.2.2.2.2.1, z16.2.2.2.2.2.2.1, z16.2.2.2.2.2.2.2.1, (), (), z16.2.2.2.2.2.2.2.2.2.2)
noncomputable def tw (j12 : Al → A0) (rc13 : Cc → A0) (z13 : Cc) : A0 :=
 if decide (z13.2.2.2.2.1 < z13.2.2.2.2.2.2.2.2.2.1.2.2.1) = true then
 aa (yD rc13) fun j15 =>
 aa (yE j15) fun j17 =>
 if decide (0 < z13.1) = true then
 if decide (0 < z13.2.2.2.1) = true then
 (oh (z13.2.2.2.2.2.1, 2, ())).bind fun r18 =>
 j17 (z13.1, z13.2.1, z13.2.2.1, z13.2.2.2.1, z13.2.2.2.2.1, r18.1 == 0, r18.2.1, z13.2.2.2.2.2.2.1, (), (), z13.2.2.2.2.2.2.2.2.2)
 else j17 (z13.1, z13.2.1, z13.2.2.1, z13.2.2.2.1, z13.2.2.2.2.1, false, z13.2.2.2.2.2.1, z13.2.2.2.2.2.2.1, (), (), z13.2.2.2.2.2.2.2.2.2)
 else j17 (z13.1, z13.2.1, z13.2.2.1, z13.2.2.2.1, z13.2.2.2.2.1, false, z13.2.2.2.2.2.1, z13.2.2.2.2.2.2.1, (), (), z13.2.2.2.2.2.2.2.2.2)
 else j12 (z13.1, z13.2.1, z13.2.2.1, z13.2.2.2.2.2.1, z13.2.2.2.2.2.2.1, (), (), z13.2.2.2.2.2.2.2.2.2)
noncomputable def DK (fuel : Nat) (j4 : As → A0) (z5 : Int × Al) : A0 :=
 aa (yF j4) fun j12 => iter fuel (tw j12) (z5.1, z5.2.1, z5.2.2.1, z5.2.2.2.1, 0, z5.2.2.2.2.1, z5.2.2.2.2.2.1, (), (), z5.2.2.2.2.2.2.2.2)
noncomputable def vo (fuel : Nat) (j1 : gP × Unit × Unit × Bk → A0) (rc2 : As → A0) (z2 : As) : A0 :=
 if decide (z2.2.2.1 < (↑z2.2.2.2.2.1.1.length : Int)) = true then
 aa (og rc2) fun j4 =>
 if bt z2.2.2.1 z2.2.2.2.2.1.1.length = true then
 if decide (0 ≤ (bg ([], 0, 0, 0, [], ()) z2.2.2.2.2.1.1 z2.2.2.1).2.2.1) = true then
 if decide ((bg ([], 0, 0, 0, [], ()) z2.2.2.2.2.1.1 z2.2.2.1).2.2.1 ≤ (bg ([], 0, 0, 0, [], ()) z2.2.2.2.2.1.1 z2.2.2.1).2.2.1) = true then
 if decide ((bg ([], 0, 0, 0, [], ()) z2.2.2.2.2.1.1 z2.2.2.1).2.2.1 ≤ (↑Abs.cj : Int)) = true then
 if decide ((↑8 : Int) * (bg ([], 0, 0, 0, [], ()) z2.2.2.2.2.1.1 z2.2.2.1).2.2.1 ≤ (↑Abs.cj : Int)) = true then
 aa (DK fuel j4) fun j19 =>
 if ((bg ([], 0, 0, 0, [], ()) z2.2.2.2.2.1.1 z2.2.2.1).2.1 == 5) = true then
 j19
 (z2.1, z2.2.1, z2.2.2.1, IntKind.i64.wrap ((bg ([], 0, 0, 0, [], ()) z2.2.2.2.2.1.1 z2.2.2.1).2.2.1 - 1), z2.2.2.2.1,
 z2.2.2.2.2.1, (), (), bg ([], 0, 0, 0, [], ()) z2.2.2.2.2.1.1 z2.2.2.1,
 List.replicate (Int.toNat (bg ([], 0, 0, 0, [], ()) z2.2.2.2.2.1.1 z2.2.2.1).2.2.1) (0, ()), [], z2.2.2.2.2.2.2.2)
 else
 j19
 (z2.1, z2.2.1, z2.2.2.1, (bg ([], 0, 0, 0, [], ()) z2.2.2.2.2.1.1 z2.2.2.1).2.2.1, z2.2.2.2.1, z2.2.2.2.2.1, (), (),
 bg ([], 0, 0, 0, [], ()) z2.2.2.2.2.1.1 z2.2.2.1,
 List.replicate (Int.toNat (bg ([], 0, 0, 0, [], ()) z2.2.2.2.2.1.1 z2.2.2.1).2.2.1) (0, ()), [], z2.2.2.2.2.2.2.2)
 else none
 else none
 else none
 else none
 else none
 else j1 (z2.2.2.2.1, (), (), z2.2.2.2.2.2.2.2)
noncomputable def Tg (fuel : Nat) (x0 : gP) (x1 : ez) (x2 : Int) : A0 :=
 aa DJ fun j1 => iter fuel (vo fuel j1) (x2, 1, 0, x0, x1, (), (), [], [], [], [], ())
noncomputable def VY (x : gP × Cv) : A0 := Tg 100000 x.1 x.2.1 x.2.2.1
/-! 10 (*baggage/baggagekeep.Src).Commands -/
def Xu : ee := ⟨[.bx HG, .v (.ag ka)], .own (.cons (.int .i64) .nil)⟩
def Rb : HT := (nx (nx (.j ⟨[(5, .own 1010)], [(900000, bM), (1010, bG)], []⟩ (nx (.u (.l ⟨[(0, bJ), (3, bO), (5, dE), (6, dI)], [(900000, bM), (1000, bI), (1001, bG)], []⟩ (.n aK (.n (.u (nx (.j ⟨[(0, bJ), (3, bZ), (5, .own 1007), (6, dI), (7, dI)], [(900000, bM), (1006, bI), (1007, bG)], []⟩ (nx (.u (nx (nx (.j ⟨[(0, bJ), (3, bV), (5, dD), (6, dI), (7, dI), (20, dI), (28, dB)], [(900000, bM), (1002, bI), (1003, bG)], []⟩ aP (.n .e (nx (nx (.j ⟨[(0, bJ), (3, bX), (5, .own 1005), (6, dI), (36, dB)], [(900000, bM), (1004, bI), (1005, bG)], []⟩ aP aT))))))))) (.r .x)))) (.r .x)))))) aG)))
noncomputable def xW (z0 : gP × Ar) : Be :=
 some (z0.2.1, z0.1, ())
noncomputable def jG (rc2 : B6 → Be) (z3 : Int × B6) : Be :=
 if decide (z3.2.2.2.2.1.length + 1 ≤ Abs.cj) = true then
 if decide ((z3.2.2.2.2.1.length + 1) * 8 ≤ Abs.cj) = true then
 rc2 (IntKind.i64.wrap (z3.1 + 1), z3.2.2.1, z3.2.2.2.1, z3.2.2.2.2.1 ++ [(z3.2.1, ())], ())
 else none
 else none
noncomputable def xX (j4 : Int × B6 → Be) (z8 : Int × Bool × gP × Bb) : Be :=
 if z8.2.1 = true then (DQ (z8.2.2.1, [(1, ()), (0, ()), (1, ()), (0, ()), (-1, ())], ())).bind fun r9 => j4 (z8.1, r9.1, r9.2.1, z8.2.2.2)
 else (DQ (z8.2.2.1, [(0, ()), (0, ()), (0, ()), (0, ()), (-1, ())], ())).bind fun r10 => j4 (z8.1, r10.1, r10.2.1, z8.2.2.2)
noncomputable def pc (j4 : Int × B6 → Be) (z6 : Int × Int × Int × Bool × gP × Bb) : Be :=
 if z6.2.2.2.1 = true then j4 (z6.1, z6.2.1, z6.2.2.2.2)
 else
 if (z6.2.2.1 == 5) = true then (DQ (z6.2.2.2.2.1, [(1, ()), (1, ()), (0, ())], ())).bind fun r7 => j4 (z6.1, r7.1, r7.2.1, z6.2.2.2.2.2)
 else aa (xX j4) fun j11 => if (z6.2.2.1 == 4) = true then j11 (z6.1, z6.2.2.1 == 4, z6.2.2.2.2) else j11 (z6.1, z6.2.2.1 == 6, z6.2.2.2.2)
noncomputable def sd (j1 : gP × Ar → Be) (rc2 : B6 → Be) (z2 : B6) : Be :=
 if decide (z2.1 < (↑z2.2.2.1.1.length : Int)) = true then
 aa (jG rc2) fun j4 =>
 if bt z2.1 z2.2.2.1.1.length = true then
 if ((bg ([], 0, 0, 0, [], ()) z2.2.2.1.1 z2.1).2.1 == 7) = true then (oh (z2.2.1, 8, ())).bind fun r5 => j4 (z2.1, r5.1, r5.2.1, z2.2.2)
 else
 aa (pc j4) fun j12 =>
 if ((bg ([], 0, 0, 0, [], ()) z2.2.2.1.1 z2.1).2.1 == 8) = true then
 j12 (z2.1, 0, (bg ([], 0, 0, 0, [], ()) z2.2.2.1.1 z2.1).2.1, (bg ([], 0, 0, 0, [], ()) z2.2.2.1.1 z2.1).2.1 == 8, z2.2)
 else j12 (z2.1, 0, (bg ([], 0, 0, 0, [], ()) z2.2.2.1.1 z2.1).2.1, (bg ([], 0, 0, 0, [], ()) z2.2.2.1.1 z2.1).2.1 == 9, z2.2)
 else none
 else j1 (z2.2.1, z2.2.2.2)
noncomputable def LC (fuel : Nat) (x0 : gP) (x1 : ez) : Be :=
 aa xW fun j1 => iter fuel (sd j1) (0, x0, x1, [], ())
noncomputable def Pj (x : gP × A5) : Be := LC 100000 x.1 x.2.1
/-! 12 (*baggage/baggagekeep.Src).Moves -/
def Xv : ee := ⟨[.bx HG, .v (.ag ka), .v (.ty (.int .i64))], .own lT⟩
def Vj : HT := (nx (nx (.j ⟨[(7, .own 1018)], [(900000, bM), (1018, bK)], []⟩ (nx (.u (.l ⟨[(0, bJ), (2, dI), (4, bO), (7, dE), (8, dI)], [(900000, bM), (1000, bI), (1001, bK)], []⟩ (.n aK (.j ⟨[(0, bJ), (2, dI), (4, dF), (7, .own 1015), (8, dI)], [(900000, bM), (1014, bI), (1015, bK)], []⟩ (.u (nx (.n aK (.n (.r (.w 13 [(1, 0), (1, 2), (1, 3), (0, 4), (0, 5), (1, 6), (0, 7), (0, 8), (0, 9), (2, 1), (2, 10), (0, 11), (4, 12)])) (nx (.j ⟨[(0, bJ), (2, dI), (4, .ref 1011 2), (7, .own 1012), (8, dI), (10, .ref 1013 3), (11, dB)], [(900000, bM), (1011, bI), (1013, dH), (1012, bK)], []⟩ (nx (.u (.l ⟨[(0, bJ), (2, dI), (4, bV), (7, dD), (8, dI), (10, .ref 1004 3), (11, dB), (12, dI)], [(900000, bM), (1002, bI), (1004, dH), (1003, bK)], []⟩ (.n aK (.j ⟨[(0, bJ), (2, dI), (4, dO), (7, .own 1006), (8, dI), (10, .ref 1007 3), (11, dB), (12, dI)], [(900000, bM), (1005, bI), (1007, dH), (1006, bK)], []⟩ (.u (.r .q)) (.r .x)))))) aO)))))) (.r .x)))))) aG)))
noncomputable def xY (z0 : gP × Ba) : mT :=
 some (z0.2.1, z0.1, ())
noncomputable def m9 (rc2 : Bx → mT) (z3 : Bx) : mT :=
 rc2 (z3.1, IntKind.i64.wrap (z3.2.1 + 1), z3.2.2)
noncomputable def pe (j4 : Bx → mT) (z8 : Cm) : mT :=
 if (!z8.2.2.1) = true then
 if decide (z8.2.2.2.2.2.2.1.length + 1 ≤ Abs.cj) = true then
 if decide ((z8.2.2.2.2.2.2.1.length + 1) * 24 ≤ Abs.cj) = true then
 j4 (z8.1, z8.2.1, z8.2.2.2.1, z8.2.2.2.2.1, z8.2.2.2.2.2.2.1 ++ [z8.2.2.2.2.2.1], ())
 else none
 else none
 else j4 (z8.1, z8.2.1, z8.2.2.2.1, z8.2.2.2.2.1, z8.2.2.2.2.2.2)
noncomputable def u5 (rc10 : Bh → mT) (z11 : Bh) : mT :=
 rc10 (z11.1, z11.2.1, z11.2.2.1, IntKind.i64.wrap (z11.2.2.2.1 + 1), z11.2.2.2.2)
noncomputable def pf (j9 : Cm → mT) (rc10 : Bh → mT) (z10 : Bh) : mT :=
 if decide (z10.2.2.2.1 < (↑z10.2.2.2.2.2.2.2.1.length : Int)) = true then
 aa (u5 rc10) fun j12 =>
 if z10.2.2.1 = true then j12 (z10.1, z10.2.1, true, z10.2.2.2)
 else
 if bt z10.2.2.2.1 z10.2.2.2.2.2.2.2.1.length = true then
 if decide (z10.2.2.2.1.toNat + 1 ≤ z10.2.2.2.2.2.2.2.1.length) = true then
 if ((z10.2.2.2.2.2.2.2.1.getD z10.2.2.2.1.toNat (0, 0, 0, ())).2.1 == z10.2.2.2.2.2.2.1.2.1) = true then
 if bt z10.2.2.2.1 z10.2.2.2.2.2.2.2.1.length = true then
 if decide (z10.2.2.2.1.toNat + 1 ≤ z10.2.2.2.2.2.2.2.1.length) = true then
 j12 (z10.1, z10.2.1, (z10.2.2.2.2.2.2.2.1.getD z10.2.2.2.1.toNat (0, 0, 0, ())).2.2.1 == z10.2.2.2.2.2.2.1.2.2.1, z10.2.2.2)
 else none
 else none
 else j12 (z10.1, z10.2.1, false, z10.2.2.2)
 else none
 else none
 else j9 (z10.1, z10.2.1, z10.2.2.1, z10.2.2.2.2)
noncomputable def sg (fuel : Nat) (j1 : gP × Ba → mT) (rc2 : Bx → mT) (z2 : Bx) : mT :=
 if decide (z2.2.1 < z2.1) = true then
 aa (m9 rc2) fun j4 =>
 (oh (z2.2.2.1, (↑z2.2.2.2.1.1.length : Int), ())).bind fun r5 =>
 if bt r5.1 z2.2.2.2.1.1.length = true then
 if ((bg ([], 0, 0, 0, [], ()) z2.2.2.2.1.1 r5.1).2.2.1 == 0) = true then j4 (z2.1, z2.2.1, r5.2.1, z2.2.2.2)
 else
 if bt r5.1 z2.2.2.2.1.1.length = true then
 (rO (r5.2.1, 1, 2, ())).bind fun r6 =>
 (oh (r6.2.1, (bg ([], 0, 0, 0, [], ()) z2.2.2.2.1.1 r5.1).2.2.1, ())).bind fun r7 =>
 aa (pe j4) fun j9 => iter fuel (pf j9) (z2.1, z2.2.1, false, 0, r7.2.1, z2.2.2.2.1, (r6.1, r5.1, r7.1, ()), z2.2.2.2.2)
 else none
 else none
 else j1 (z2.2.2.1, z2.2.2.2.2)
noncomputable def LD (fuel : Nat) (x0 : gP) (x1 : ez) (x2 : Int) : mT :=
 aa xY fun j1 => iter fuel (sg fuel j1) (x2, 0, x0, x1, [], ())
noncomputable def Pk (x : gP × Cv) : mT := LD 100000 x.1 x.2.1 x.2.2.1
/-! 91 baggage/fields.Letter -/
def X3 : ee := ⟨[.v (.ty (.int .u8))], .v (.ty .bool)⟩
def h91 : HT := bE
noncomputable def Gd (z0 : Ab) : XB :=
 some z0
noncomputable def Pe (fuel : Nat) (x0 : Int) : XB :=
 aa Gd fun j1 => if decide (65 ≤ x0) = true then j1 (decide (x0 ≤ 90), ()) else j1 (false, ())
noncomputable def Hz (x : Ac) : XB := Pe 0 x.1
noncomputable def YU : Code := bd Tryd.f92
/-! 94 baggage/fields.Digit -/
def X4 : ee := ⟨[.v (.ty (.int .u8))], .v (.ty .bool)⟩
def h94 : HT := bE
noncomputable def MH (z0 : Ab) : XB :=
 some z0
noncomputable def VS (fuel : Nat) (x0 : Int) : XB :=
 aa MH fun j1 => if decide (48 ≤ x0) = true then j1 (decide (x0 ≤ 57), ()) else j1 (false, ())
noncomputable def PF (x : Ac) : XB := VS 0 x.1
noncomputable def YV : Code := bd Tryd.f93
/-! 79 baggage/fields.Name -/
noncomputable def Xe : Code := bd Tryd.f79
def S1 : ee := ⟨[.v (.ty .str), .v (.ty (.int .i64))], .v (.ty .bool)⟩
def Yx : HT := (nx (.j ⟨[(4, dB)], [], []⟩ (.ri .x [(20, 0, (nx (.j ⟨[(18, dB)], [], []⟩ (nx (.u (.l ⟨[(18, dB), (22, dS), (23, .cW (.fn 93)), (29, dI), (30, dI)], [], []⟩ (nx (.n aF (.n (.u (nx (.n (.ri .x [(37, 0, (nx (.j ⟨[(18, dB), (22, dS), (23, .cW (.fn 93)), (29, dI), (30, dI), (42, dB)], [], []⟩ (.r .x) .e)))]) aC))) (.r .x))))))) aG)))]) .e))
noncomputable def Qj : List (Nat × Entry) := [(91, ⟨X3, Hz⟩), (94, ⟨X4, PF⟩)]
noncomputable def Qp : List (Nat × yO) := [(92, ⟨18, [.tmp 4], YU⟩), (93, ⟨9, [.tmp 2], YV⟩)]
def Qv : qe := []
noncomputable def Mx (z0 : Ab) : XB :=
 some z0
noncomputable def My (j1 : Ab → XB) (z3 : Ab) : XB :=
 if z3.1 = true then j1 (true, ()) else j1 (false, ())
noncomputable def F4 (j1 : Ab → XB) (rc5 : Bool × Au × A9 → XB) (z6 : Bool × Au × Int × Cd) : XB :=
 if (!z6.2.2.2.2.1) = true then if z6.1 = true then j1 (false, ()) else j1 (false, ())
 else rc5 (z6.1, z6.2.1, z6.2.2.1, IntKind.i64.wrap (z6.2.2.2.1 + 1), ())
noncomputable def yt (j1 : Ab → XB) (j4 : Ab → XB) (rc5 : Bool × Au × A9 → XB) (z5 : Bool × Au × A9) : XB :=
 if decide (z5.2.2.2.1 < z5.2.2.1) = true then
 if bt z5.2.2.2.1 z5.2.1.length = true then
 aa (F4 j1 rc5) fun j7 =>
 (Hz (EZ z5.2.1 z5.2.2.2.1, ())).bind fun r8 =>
 if r8.1 = true then j7 (z5.1, z5.2.1, z5.2.2.1, z5.2.2.2.1, true, ())
 else (PF (EZ z5.2.1 z5.2.2.2.1, ())).bind fun r9 => j7 (z5.1, z5.2.1, z5.2.2.1, z5.2.2.2.1, r9)
 else none
 else j4 (z5.1, ())
noncomputable def Mw (fuel : Nat) (x0 : Au) (x1 : Int) : XB :=
 aa Mx fun j1 =>
 if (!x0 == []) = true then
 if decide ((↑x0.length : Int) ≤ x1) = true then
 if bt 0 x0.length = true then
 (Hz (EZ x0 0, ())).bind fun r2 =>
 if r2.1 = true then aa (My j1) fun j4 => iter fuel (yt j1 j4) (true, x0, (↑x0.length : Int), 0, ()) else j1 (false, ())
 else none
 else j1 (false, ())
 else j1 (false, ())
noncomputable def PA (x : Co) : XB := Mw 100000 x.1 x.2.1
/-! 80 baggage/layout.length -/
def ZX : ee := ⟨[.v (.ag BF)], .v (.ty .bool)⟩
def h80 : HT := (nx (.n (.u (nx (.n aG (nx (.n aJ .e))))) aJ))
noncomputable def F5 (z1 : Ab) : XB :=
 some z1
noncomputable def F6 (z3 : Ab) : XB :=
 some z3
noncomputable def Pb (fuel : Nat) (x0 : tF) : XB :=
 (yJ (x0.2.1, ())).bind fun r0 =>
 if (!r0.1) = true then some (x0.2.2.1 == 0, ())
 else
 if (x0.2.1 == 5) = true then aa F5 fun j2 => if decide (2 ≤ x0.2.2.1) = true then j2 (decide (x0.2.2.1 ≤ 8), ()) else j2 (false, ())
 else aa F6 fun j4 => if decide (1 ≤ x0.2.2.1) = true then j4 (decide (x0.2.2.1 ≤ 8), ()) else j4 (false, ())
noncomputable def PB (x : Bw) : XB := Pb 0 x.1
/-! 95 baggage/layout.exits -/
def Z1 : ee := ⟨[.v (.ty (.int .i64))], .v (.ty (.int .i64))⟩
def h95 : HT := (nx (.n (nx (.u (.j ⟨[(3, dI), (4, dB)], [], []⟩ aP (.n aG (.j ⟨[(7, dB)], [], []⟩ bD aC))))) aG))
noncomputable def Gf (z1 : Ab) : bu :=
 if z1.1 = true then some (2, ()) else some (1, ())
noncomputable def Ge (z0 : Cd) : bu :=
 if z0.2.1 = true then some (0, ())
 else aa Gf fun j2 => if (z0.1 == 4) = true then j2 (z0.1 == 4, ()) else if (z0.1 == 5) = true then j2 (z0.1 == 5, ()) else j2 (z0.1 == 6, ())
noncomputable def Pf (fuel : Nat) (x0 : Int) : bu :=
 aa Ge fun j3 => if (x0 == 8) = true then j3 (x0, x0 == 8, ()) else j3 (x0, x0 == 9, ())
noncomputable def PG (x : Ac) : bu := Pf 0 x.1
/-! 81 baggage/layout.leads -/
def XY : ee := ⟨[.v (.ag ka), .v (.ty (.int .i64))], .v (.ty .bool)⟩
def Yy : HT := (nx (nx (.n (.n (.r .q) aC) (.j ⟨[], [], []⟩ (nx (.u (.l ⟨[(1, dI), (2, bO), (5, dJ), (22, dL), (23, dI), (24, dI)], [(1000, bI), (1001, bQ)], []⟩ (nx (.n aF (.n (.u (nx (.j ⟨[(1, dI), (2, bV), (5, .ref 1003 5), (6, dI), (7, dI), (8, dB), (22, dL), (23, dI), (24, dI)], [(1002, bI), (1003, bQ)], []⟩ (.r .x) (.j ⟨[(1, dI), (2, bX), (5, .ref 1005 5), (22, dL), (23, dI), (24, dI), (59, dB)], [(1004, bI), (1005, bQ)], []⟩ (.r .x) aC)))) (.r .x))))))) aG))))
noncomputable def F7 (z1 : Unit) : XB :=
 some (true, ())
noncomputable def F8 (rc3 : B8 → XB) (z5 : Int × XI × Cw) : XB :=
 if z5.2.2.2.2.1 = true then some (false, ()) else rc3 (z5.1, z5.2.1, z5.2.2.1, IntKind.i64.wrap (z5.2.2.2.1 + 1), z5.2.2.2.2.2)
noncomputable def yu (rc3 : B8 → XB) (z4 : Int × Int × Int × Bool × XI × Ao) : XB :=
 aa (F8 rc3) fun j6 =>
 if decide (z4.2.2.1 < 0) = true then j6 (z4.1, z4.2.2.2.2.1, z4.2.2.2.2.2.1, z4.2.2.2.2.2.2.1, true, z4.2.2.2.2.2.2.2)
 else
 if decide ((↑z4.2.2.2.2.2.2.2.1.1.length : Int) ≤ z4.2.2.1) = true then
 j6 (z4.1, z4.2.2.2.2.1, z4.2.2.2.2.2.1, z4.2.2.2.2.2.2.1, true, z4.2.2.2.2.2.2.2)
 else
 if (!(z4.2.2.1 == z4.1) == z4.2.2.2.1) = true then j6 (z4.1, z4.2.2.2.2.1, z4.2.2.2.2.2.1, z4.2.2.2.2.2.2.1, true, z4.2.2.2.2.2.2.2)
 else
 if fa 0 z4.2.1 z4.2.2.2.2.2.2.2.2.1.2.2.2.2.1.length = true then
 (JV (ig z4.2.2.2.2.2.2.2.2.1.2.2.2.2.1 0 z4.2.1, z4.2.2.1, ())).bind fun r7 =>
 j6 (z4.1, z4.2.2.2.2.1, z4.2.2.2.2.2.1, z4.2.2.2.2.2.2.1, r7.1, z4.2.2.2.2.2.2.2)
 else none
noncomputable def tn (j2 : Unit → XB) (rc3 : B8 → XB) (z3 : B8) : XB :=
 if decide (z3.2.2.2.1 < z3.2.2.1) = true then
 if bt z3.2.2.2.1 z3.2.1.length = true then
 aa (yu rc3) fun j8 =>
 if (z3.2.2.2.2.2.1.2.1 == 5) = true then j8 (z3.1, z3.2.2.2.1, (bg (0, ()) z3.2.1 z3.2.2.2.1).1, z3.2.2.2.1 == 0, z3.2)
 else j8 (z3.1, z3.2.2.2.1, (bg (0, ()) z3.2.1 z3.2.2.2.1).1, false, z3.2)
 else none
 else j2 ()
noncomputable def Mz (fuel : Nat) (x0 : ez) (x1 : Int) : XB :=
 if bt x1 x0.1.length = true then
 (PG ((bg ([], 0, 0, 0, [], ()) x0.1 x1).2.1, ())).bind fun r0 =>
 if ((↑(List.length (bg ([], 0, 0, 0, [], ()) x0.1 x1).2.2.2.2.1) : Int) != r0.1) = true then some (false, ())
 else
 aa F7 fun j2 =>
 iter fuel (tn j2)
 (x1, (bg ([], 0, 0, 0, [], ()) x0.1 x1).2.2.2.2.1, (↑(List.length (bg ([], 0, 0, 0, [], ()) x0.1 x1).2.2.2.2.1) : Int), 0, x0,
 bg ([], 0, 0, 0, [], ()) x0.1 x1, ())
 else none
noncomputable def MY (x : Cv) : XB := Mz 100000 x.1 x.2.1
/-! 57 baggage/layout.node -/
def XT : ee := ⟨[.v (.ag ka), .v (.ty (.int .i64))], .v (.ty (.int .i64))⟩
def h57 : HT := (nx (nx (.n (.u (nx (.n aG (.j ⟨[(1, dI), (2, bO), (5, dJ), (16, dB)], [(1000, bI), (1001, bQ)], []⟩ (.r .x) (.n aG (.j ⟨[(25, dB)], [], []⟩ (.r .x) aC)))))) aG)))
noncomputable def FE (z2 : Ab) : bu :=
 if z2.1 = true then some (1, ()) else some (0, ())
noncomputable def FD (z1 : A2) : bu :=
 if z1.2.1 = true then some (4, ())
 else
 aa FE fun j3 =>
 (PB z1.2.2.2).bind fun r4 =>
 if (!r4.1) = true then j3 (true, ())
 else
 if (z1.2.2.2.1.2.2.2.1 != 0) = true then
 if (z1.2.2.2.1.2.2.2.1 != 1) = true then j3 (true, ()) else (MY (z1.2.2.1, z1.1, ())).bind fun r5 => j3 (!r5.1, ())
 else (MY (z1.2.2.1, z1.1, ())).bind fun r6 => j3 (!r6.1, ())
noncomputable def O7 (fuel : Nat) (x0 : ez) (x1 : Int) : bu :=
 if bt x1 x0.1.length = true then
 (PA ((bg ([], 0, 0, 0, [], ()) x0.1 x1).1, 12, ())).bind fun r0 =>
 if (!r0.1) = true then some (3, ())
 else
 aa FD fun j7 =>
 if decide ((bg ([], 0, 0, 0, [], ()) x0.1 x1).2.1 < 1) = true then j7 (x1, true, x0, bg ([], 0, 0, 0, [], ()) x0.1 x1, ())
 else j7 (x1, decide (9 < (bg ([], 0, 0, 0, [], ()) x0.1 x1).2.1), x0, bg ([], 0, 0, 0, [], ()) x0.1 x1, ())
 else none
noncomputable def MR (x : Cv) : bu := O7 0 x.1 x.2.1
/-! 58 baggage/layout.total -/
def Vd : ee := ⟨[.v (.ag ka)], .v (.ty (.int .i64))⟩
def Yo : HT := (nx (nx (.j ⟨[(3, dI)], [], []⟩ (nx (.u (.l ⟨[(3, dI), (7, b9), (8, dI), (9, dI)], [], []⟩ bA))) aG)))
noncomputable def FF (z0 : Ac) : bu :=
 some z0
noncomputable def sU (j1 : Ac → bu) (rc2 : Int × Bz × A9 → bu) (z2 : Int × Bz × A9) : bu :=
 if decide (z2.2.2.2.1 < z2.2.2.1) = true then
 if bt z2.2.2.2.1 z2.2.1.length = true then
 rc2 (IntKind.i64.wrap (z2.1 + (bg ([], 0, 0, 0, [], ()) z2.2.1 z2.2.2.2.1).2.2.1), z2.2.1, z2.2.2.1, IntKind.i64.wrap (z2.2.2.2.1 + 1), ())
 else none
 else j1 (z2.1, ())
noncomputable def Ml (fuel : Nat) (x0 : ez) : bu :=
 aa FF fun j1 => iter fuel (sU j1) (0, x0.1, (↑x0.1.length : Int), 0, ())
noncomputable def MS (x : A5) : bu := Ml 100000 x.1
noncomputable def YW : Code := bd Tryd.f96
noncomputable def Xg : Code := bd Tryd.f84
/-! 82 baggage/layout.Find -/
noncomputable def Xf : Code := bd Tryd.f82
def S2 : ee := ⟨[.v (.ag ka), .v (.ty .str)], .v (.ty (.int .i64))⟩
def S8 : HT := (nx (.j ⟨[(4, dI)], [], []⟩ (.ri .x [(8, 0, (nx (.j ⟨[], [], []⟩ (nx (.u (.l ⟨[(9, b9), (10, .cm (some 96, 0) [(1000, 1)]), (16, dI), (17, dI)], [(1000, .box [.d .str])], []⟩ (nx (.n aF (.n (.u (nx (.n (.ri .x [(25, 0, aO)]) aC))) (.r .x))))))) aG)))]) .e))
noncomputable def Qk : List (Nat × Entry) := []
noncomputable def Qq : List (Nat × yO) := [(84, ⟨19, [.tmp 4], Xg⟩), (96, ⟨8, [.tmp 3], YW⟩)]
def Qw : qe := []
noncomputable def yv (z0 : Ac) : bu :=
 some z0
noncomputable def F9 (j1 : Ac → bu) (z2 : Unit) : bu :=
 j1 (-1, ())
noncomputable def tt (j1 : Ac → bu) (j3 : Unit → bu) (rc4 : C6 → bu) (z4 : C6) : bu :=
 if decide (z4.2.2.1 < z4.2.1) = true then
 if bt z4.2.2.1 z4.1.length = true then
 if ((bg ([], 0, 0, 0, [], ()) z4.1 z4.2.2.1).1 == z4.2.2.2.1.1) = true then j1 (z4.2.2.1, ())
 else rc4 (z4.1, z4.2.1, IntKind.i64.wrap (z4.2.2.1 + 1), z4.2.2.2)
 else none
 else j3 ()
noncomputable def MA (fuel : Nat) (x0 : ez) (x1 : Au) : bu :=
 aa yv fun j1 => aa (F9 j1) fun j3 => iter fuel (tt j1 j3) (x0.1, (↑x0.1.length : Int), 0, (x1, ()), ())
noncomputable def PD (x : ez × Ce) : bu := MA 100000 x.1 x.2.1
/-! 59 baggage/layout.named -/
def Ve : ee := ⟨[.v (.ag ka)], .v (.ty .bool)⟩
def Yp : HT := (nx (.j ⟨[], [], []⟩ (nx (.u (.l ⟨[(1, bO), (6, b9), (7, dI), (8, dI)], [(1000, bI)], []⟩ aR))) aG))
noncomputable def FG (z0 : Unit) : XB :=
 some (true, ())
noncomputable def sV (j1 : Unit → XB) (rc2 : Bz × A8 → XB) (z2 : Bz × A8) : XB :=
 if decide (z2.2.2.1 < z2.2.1) = true then
 if bt z2.2.2.1 z2.1.length = true then
 (PD (z2.2.2.2.1, (bg ([], 0, 0, 0, [], ()) z2.1 z2.2.2.1).1, ())).bind fun r3 =>
 if (r3.1 != z2.2.2.1) = true then some (false, ()) else rc2 (z2.1, z2.2.1, IntKind.i64.wrap (z2.2.2.1 + 1), z2.2.2.2)
 else none
 else j1 ()
noncomputable def Mm (fuel : Nat) (x0 : ez) : XB :=
 aa FG fun j1 => iter fuel (sV j1) (x0.1, (↑x0.1.length : Int), 0, x0, ())
noncomputable def MT (x : A5) : XB := Mm 100000 x.1
/-! 60 baggage/layout.zoned -/
def Vf : ee := ⟨[.v (.ag ka), .v (.ty (.int .i64))], .v (.ty .bool)⟩
def Yq : HT := (nx (nx (.j ⟨[(2, bX), (5, .ref 1005 5)], [(1004, bI), (1005, bQ)], []⟩ (nx (.u (.j ⟨[(2, bO), (5, dJ), (15, dI), (16, dB)], [(1000, bI), (1001, bQ)], []⟩ bD (.n aL (.j ⟨[(2, bV), (5, .ref 1003 5), (23, dB)], [(1002, bI), (1003, bQ)], []⟩ aP (.n aL .e)))))) (.j ⟨[], [], []⟩ (nx (.u (.l ⟨[(2, bZ), (5, .ref 1007 5), (30, dL), (31, dI), (32, dI)], [(1006, bI), (1007, bQ)], []⟩ (nx (.n aF (.n (.u (nx (nx (.j ⟨[(2, dR), (5, .ref 1011 5), (7, dI), (8, dI), (30, dL), (31, dI), (32, dI)], [(1010, bI), (1011, bQ)], []⟩ (.j ⟨[(2, dA), (5, .ref 1009 5), (7, dI), (8, dI), (30, dL), (31, dI), (32, dI), (45, dB)], [(1008, bI), (1009, bQ)], []⟩ (.r .x) aG) (.j ⟨[(2, dP), (5, .ref 1013 5), (30, dL), (31, dI), (32, dI), (62, dB)], [(1012, bI), (1013, bQ)], []⟩ (.r .x) aC))))) (.r .x))))))) aG))))
noncomputable def FL (z1 : Unit) : XB :=
 some (true, ())
noncomputable def FM (rc3 : XI × Ao → XB) (z5 : XI × Cw) : XB :=
 if z5.2.2.2.1 = true then some (false, ()) else rc3 (z5.1, z5.2.1, IntKind.i64.wrap (z5.2.2.1 + 1), z5.2.2.2.2)
noncomputable def yj (rc3 : XI × Ao → XB) (z4 : Int × B8) : XB :=
 aa (FM rc3) fun j6 =>
 if bt z4.1 z4.2.2.2.2.2.1.1.length = true then
 if ((bg ([], 0, 0, 0, [], ()) z4.2.2.2.2.2.1.1 z4.1).2.1 == 1) = true then j6 (z4.2.2.1, z4.2.2.2.1, z4.2.2.2.2.1, true, z4.2.2.2.2.2)
 else
 if bt z4.1 z4.2.2.2.2.2.1.1.length = true then
 j6 (z4.2.2.1, z4.2.2.2.1, z4.2.2.2.2.1, (bg ([], 0, 0, 0, [], ()) z4.2.2.2.2.2.1.1 z4.1).2.2.2.1 != z4.2.1, z4.2.2.2.2.2)
 else none
 else none
noncomputable def FN (j7 : Int × B8 → XB) (z8 : Int × Int × XI × Cw) : XB :=
 if z8.2.2.2.2.2.1 = true then j7 (z8.1, 1, z8.2.2.1, z8.2.2.2.1, z8.2.2.2.2.1, z8.2.2.2.2.2.2)
 else j7 (z8.1, z8.2.1, z8.2.2.1, z8.2.2.2.1, z8.2.2.2.2.1, z8.2.2.2.2.2.2)
noncomputable def sX (j2 : Unit → XB) (rc3 : XI × Ao → XB) (z3 : XI × Ao) : XB :=
 if decide (z3.2.2.1 < z3.2.1) = true then
 if bt z3.2.2.1 z3.1.length = true then
 aa (yj rc3) fun j7 =>
 aa (FN j7) fun j9 =>
 if (z3.2.2.2.2.1.2.1 == 6) = true then
 j9 ((bg (0, ()) z3.1 z3.2.2.1).1, z3.2.2.2.2.1.2.2.2.1, z3.1, z3.2.1, z3.2.2.1, z3.2.2.1 == 1, z3.2.2.2)
 else j9 ((bg (0, ()) z3.1 z3.2.2.1).1, z3.2.2.2.2.1.2.2.2.1, z3.1, z3.2.1, z3.2.2.1, false, z3.2.2.2)
 else none
 else j2 ()
noncomputable def pN (fuel : Nat) (z0 : ez × Bw) : XB :=
 aa FL fun j2 => iter fuel (sX j2) (z0.2.1.2.2.2.2.1, (↑z0.2.1.2.2.2.2.1.length : Int), 0, z0)
noncomputable def vi (j10 : ez × Bw → XB) (z12 : Bool × ez × Bw) : XB :=
 if z12.1 = true then if (z12.2.2.1.2.2.2.1 != 1) = true then some (false, ()) else j10 z12.2 else j10 z12.2
noncomputable def vh (j10 : ez × Bw → XB) (z11 : A2) : XB :=
 if z11.2.1 = true then if (z11.2.2.2.1.2.2.2.1 != 0) = true then some (false, ()) else j10 z11.2.2
 else aa (vi j10) fun j13 => if (z11.1 == 7) = true then j13 (z11.1 == 7, z11.2.2) else j13 (z11.1 == 8, z11.2.2)
noncomputable def Mn (fuel : Nat) (x0 : ez) (x1 : Int) : XB :=
 if bt x1 x0.1.length = true then
 aa (pN fuel) fun j10 =>
 aa (vh j10) fun j14 =>
 if ((bg ([], 0, 0, 0, [], ()) x0.1 x1).2.1 == 1) = true then
 j14 ((bg ([], 0, 0, 0, [], ()) x0.1 x1).2.1, (bg ([], 0, 0, 0, [], ()) x0.1 x1).2.1 == 1, x0, bg ([], 0, 0, 0, [], ()) x0.1 x1, ())
 else
 if ((bg ([], 0, 0, 0, [], ()) x0.1 x1).2.1 == 3) = true then
 j14 ((bg ([], 0, 0, 0, [], ()) x0.1 x1).2.1, (bg ([], 0, 0, 0, [], ()) x0.1 x1).2.1 == 3, x0, bg ([], 0, 0, 0, [], ()) x0.1 x1, ())
 else j14 ((bg ([], 0, 0, 0, [], ()) x0.1 x1).2.1, (bg ([], 0, 0, 0, [], ()) x0.1 x1).2.1 == 6, x0, bg ([], 0, 0, 0, [], ()) x0.1 x1, ())
 else none
noncomputable def MU (x : Cv) : XB := Mn 100000 x.1 x.2.1
/-! 61 baggage/layout.sorted -/
def Vg : ee := ⟨[.v (.ag ka)], .own (.cons (.int .i64) .nil)⟩
def Yr : HT := (nx (nx (.j ⟨[(1, dP), (3, .cm (some 0, 1) [(1013, 0)])], [(1012, bI), (1013, .mp .i64 .i64)], []⟩ (nx (.u (.l ⟨[(1, bO), (3, .cm (some 0, 1) [(1001, 0)]), (16, b9), (17, dI), (18, dI)], [(1000, bI), (1001, .mp .i64 .i64)], []⟩ (nx (.n aF (.j ⟨[(1, dA), (3, .cm (some 0, 1) [(1009, 0)]), (16, b9), (17, dI), (18, dI)], [(1008, bI), (1009, .mp .i64 .i64)], []⟩ (.u (nx (nx (.u (.l ⟨[(1, bV), (3, .cm (some 0, 1) [(1003, 0)]), (4, dI), (16, b9), (17, dI), (18, dI), (24, dL), (25, dI), (26, dI)], [(1002, bI), (1003, .mp .i64 .i64)], []⟩ (nx (.n aF (.j ⟨[(1, bX), (3, .cm (some 0, 1) [(1005, 0)]), (4, dI), (16, b9), (17, dI), (18, dI), (24, dL), (25, dI), (26, dI)], [(1004, bI), (1005, .mp .i64 .i64)], []⟩ (.u (nx aO)) (.r .x))))))))) (.r .x))))))) (nx (nx (.j ⟨[(8, .own 1054)], [(1054, bG)], []⟩ (nx (.u (.l ⟨[(1, dF), (3, .cm (some 0, 1) [(1015, 0)]), (8, .own 1016), (9, .own 1017), (45, dI), (46, dI)], [(1014, bI), (1015, .mp .i64 .i64), (1016, bG), (1017, bW)], []⟩ (nx (.n aF (.j ⟨[(1, .ref 1046 2), (3, .cm (some 0, 1) [(1047, 0)]), (8, .own 1048), (9, .own 1049), (45, dI), (46, dI)], [(1046, bI), (1047, .mp .i64 .i64), (1048, bG), (1049, bW)], []⟩ (.u (nx (.j ⟨[(1, .ref 1030 2), (3, .cm (some 0, 1) [(1031, 0)]), (8, .own 1032), (9, .own 1033), (10, dI), (45, dI), (46, dI)], [(1030, bI), (1031, .mp .i64 .i64), (1032, bG), (1033, bW)], []⟩ (nx (.u (.l ⟨[(1, dN), (3, .cm (some 0, 1) [(1019, 0)]), (8, .own 1020), (9, .own 1021), (10, dI), (45, dI), (46, dI), (50, dI), (51, dI)], [(1018, bI), (1019, .mp .i64 .i64), (1020, bG), (1021, bW)], []⟩ (nx (.n aF (.n (.u (nx (.j ⟨[(1, .ref 1022 2), (3, .cm (some 0, 1) [(1023, 0)]), (8, .own 1024), (9, .own 1025), (10, dI), (11, dI), (45, dI), (46, dI), (50, dI), (51, dI), (64, dB)], [(1022, bI), (1023, .mp .i64 .i64), (1024, bG), (1025, bW)], []⟩ (.r .x) aC))) (.r .x))))))) (.n aK (nx (nx (nx (.u (.l ⟨[(1, .ref 1034 2), (3, .cm (some 0, 1) [(1035, 0)]), (8, .own 1036), (9, .own 1037), (10, dI), (45, dI), (46, dI), (81, dL), (82, dI), (83, dI)], [(1034, bI), (1035, .mp .i64 .i64), (1036, bG), (1037, bW)], []⟩ (nx (.n aF (.j ⟨[(1, .ref 1038 2), (3, .cm (some 0, 1) [(1039, 0)]), (8, .own 1040), (9, .own 1041), (10, dI), (45, dI), (46, dI), (81, dL), (82, dI), (83, dI)], [(1038, bI), (1039, .mp .i64 .i64), (1040, bG), (1041, bW)], []⟩ (.u (nx aO)) (.r .x))))))))))))) (.r .x))))))) aG))))))
noncomputable def pP (z1 : Ar) : fN :=
 some z1
noncomputable def nh (rc3 : Ag → fN) (z4 : Ag) : fN :=
 rc3 (z4.1, IntKind.i64.wrap (z4.2.1 + 1), z4.2.2)
noncomputable def FO (rc7 : B2 → fN) (z8 : B2) : fN :=
 rc7 (z8.1, z8.2.1, z8.2.2.1, z8.2.2.2.1, z8.2.2.2.2.1, IntKind.i64.wrap (z8.2.2.2.2.2.1 + 1), z8.2.2.2.2.2.2)
noncomputable def pS (j5 : Ag → fN) (rc7 : B2 → fN) (z7 : B2) : fN :=
 if decide (z7.2.2.2.2.2.1 < z7.2.2.2.2.1) = true then
 aa (FO rc7) fun j9 =>
 if bt z7.2.2.2.2.2.1 z7.2.2.2.1.length = true then
 if ((bg (0, ()) z7.2.2.2.1 z7.2.2.2.2.2.1).1 != z7.1) = true then
 j9
 (z7.1, z7.2.1, z7.2.2.1, z7.2.2.2.1, z7.2.2.2.2.1, z7.2.2.2.2.2.1, z7.2.2.2.2.2.2.1,
 Abs.nz z7.2.2.2.2.2.2.2.1 (bg (0, ()) z7.2.2.2.1 z7.2.2.2.2.2.1).1
 (IntKind.i64.wrap (Abs.gL z7.2.2.2.2.2.2.2.1 (bg (0, ()) z7.2.2.2.1 z7.2.2.2.2.2.1).1 - 1)),
 z7.2.2.2.2.2.2.2.2)
 else j9 z7
 else none
 else j5 (z7.2.1, z7.2.2.1, z7.2.2.2.2.2.2)
noncomputable def pR (fuel : Nat) (j2 : Ar → fN) (j5 : Ag → fN) (z6 : Int × Ag) : fN :=
 if decide (z6.1 < 0) = true then j2 (z6.2.2.2.2.2.1, ())
 else
 if bt z6.1 z6.2.2.2.2.2.2.1.length = true then
 if decide (z6.1.toNat + 1 ≤ z6.2.2.2.2.2.2.1.length) = true then
 if decide (z6.2.2.2.2.2.1.length + 1 ≤ Abs.cj) = true then
 if decide ((z6.2.2.2.2.2.1.length + 1) * 8 ≤ Abs.cj) = true then
 if bt z6.1 z6.2.2.2.1.1.length = true then
 iter fuel (pS j5)
 (z6.1, z6.2.1, z6.2.2.1, (bg ([], 0, 0, 0, [], ()) z6.2.2.2.1.1 z6.1).2.2.2.2.1,
 (↑(List.length (bg ([], 0, 0, 0, [], ()) z6.2.2.2.1.1 z6.1).2.2.2.2.1) : Int), 0, z6.2.2.2.1, z6.2.2.2.2.1,
 z6.2.2.2.2.2.1 ++ [(z6.1, ())], z6.2.2.2.2.2.2.1.set z6.1.toNat (true, ()), ())
 else none
 else none
 else none
 else none
 else none
noncomputable def vj (j10 : Int × Ag → fN) (rc11 : Cp → fN) (z12 : Int × Int × Int × Int × Int × Int × Bool × ez × C1 × XI × Az) : fN :=
 if z12.2.2.2.2.2.2.1 = true then j10 (z12.2.1, z12.2.2.1, z12.2.2.2.1, z12.2.2.2.2.2.2.2)
 else rc11 (z12.1, z12.2.2.1, z12.2.2.2.1, z12.2.2.2.2.1, IntKind.i64.wrap (z12.2.2.2.2.2.1 + 1), z12.2.2.2.2.2.2.2)
noncomputable def mI (j10 : Int × Ag → fN) (rc11 : Cp → fN) (z11 : Cp) : fN :=
 if decide (z11.2.2.2.2.1 < z11.2.2.2.1) = true then
 aa (vj j10 rc11) fun j13 =>
 if bt z11.2.2.2.2.1 z11.2.2.2.2.2.2.2.2.1.length = true then
 if decide (z11.2.2.2.2.1.toNat + 1 ≤ z11.2.2.2.2.2.2.2.2.1.length) = true then
 if (!(z11.2.2.2.2.2.2.2.2.1.getD z11.2.2.2.2.1.toNat (false, ())).1) = true then
 j13 (z11.1, z11.2.2.2.2.1, z11.2.1, z11.2.2.1, z11.2.2.2.1, z11.2.2.2.2.1, Abs.gL z11.2.2.2.2.2.2.1 z11.2.2.2.2.1 == 0, z11.2.2.2.2.2)
 else j13 (z11.1, z11.2.2.2.2.1, z11.2.1, z11.2.2.1, z11.2.2.2.1, z11.2.2.2.2.1, false, z11.2.2.2.2.2)
 else none
 else none
 else j10 (z11.1, z11.2.1, z11.2.2.1, z11.2.2.2.2.2)
noncomputable def sY (fuel : Nat) (j2 : Ar → fN) (rc3 : Ag → fN) (z3 : Ag) : fN :=
 if decide (z3.2.1 < z3.1) = true then
 aa (nh rc3) fun j5 =>
 aa (pR fuel j2 j5) fun j10 => iter fuel (mI j10) (-1, z3.1, z3.2.1, (↑z3.2.2.1.1.length : Int), 0, z3.2.2)
 else j2 (z3.2.2.2.2.1, ())
noncomputable def pO (fuel : Nat) (z0 : ez × C1 × Unit) : fN :=
 if decide (0 ≤ (↑z0.1.1.length : Int)) = true then
 if decide ((↑z0.1.1.length : Int) ≤ (↑z0.1.1.length : Int)) = true then
 if decide ((↑z0.1.1.length : Int) ≤ (↑Abs.cj : Int)) = true then
 if decide ((↑1 : Int) * (↑z0.1.1.length : Int) ≤ (↑Abs.cj : Int)) = true then
 aa pP fun j2 =>
 iter fuel (sY fuel j2) ((↑z0.1.1.length : Int), 0, z0.1, z0.2.1, [], List.replicate (↑z0.1.1.length : Int).toNat (false, ()), ())
 else none
 else none
 else none
 else none
noncomputable def pQ (rc15 : Bz × A1 → fN) (z16 : Bz × A1) : fN :=
 rc15 (z16.1, z16.2.1, IntKind.i64.wrap (z16.2.2.1 + 1), z16.2.2.2)
noncomputable def AR (rc18 : Bn → fN) (z19 : Bn) : fN :=
 rc18 (z19.1, z19.2.1, z19.2.2.1, z19.2.2.2.1, z19.2.2.2.2.1, z19.2.2.2.2.2.1, IntKind.i64.wrap (z19.2.2.2.2.2.2.1 + 1), z19.2.2.2.2.2.2.2)
noncomputable def mK (j17 : Bz × A1 → fN) (rc18 : Bn → fN) (z18 : Bn) : fN :=
 if decide (z18.2.2.2.2.2.2.1 < z18.2.2.2.2.2.1) = true then
 aa (AR rc18) fun j20 =>
 if bt z18.2.2.2.2.2.2.1 z18.2.2.2.2.1.length = true then
 if ((bg (0, ()) z18.2.2.2.2.1 z18.2.2.2.2.2.2.1).1 != z18.1) = true then
 j20
 (z18.1, z18.2.1, z18.2.2.1, z18.2.2.2.1, z18.2.2.2.2.1, z18.2.2.2.2.2.1, z18.2.2.2.2.2.2.1, z18.2.2.2.2.2.2.2.1,
 Abs.nz z18.2.2.2.2.2.2.2.2.1 (bg (0, ()) z18.2.2.2.2.1 z18.2.2.2.2.2.2.1).1
 (IntKind.i64.wrap (Abs.gL z18.2.2.2.2.2.2.2.2.1 (bg (0, ()) z18.2.2.2.2.1 z18.2.2.2.2.2.2.1).1 + 1)),
 ())
 else j20 z18
 else none
 else j17 (z18.2.1, z18.2.2.1, z18.2.2.2.1, z18.2.2.2.2.2.2.2)
noncomputable def mJ (fuel : Nat) (j14 : ez × C1 × Unit → fN) (rc15 : Bz × A1 → fN) (z15 : Bz × A1) : fN :=
 if decide (z15.2.2.1 < z15.2.1) = true then
 aa (pQ rc15) fun j17 =>
 if bt z15.2.2.1 z15.1.length = true then
 iter fuel (mK j17)
 (z15.2.2.1, z15.1, z15.2.1, z15.2.2.1, (bg ([], 0, 0, 0, [], ()) z15.1 z15.2.2.1).2.2.2.2.1,
 (↑(List.length (bg ([], 0, 0, 0, [], ()) z15.1 z15.2.2.1).2.2.2.2.1) : Int), 0, z15.2.2.2)
 else none
 else j14 z15.2.2.2
noncomputable def Mo (fuel : Nat) (x0 : ez) : fN :=
 aa (pO fuel) fun j14 => iter fuel (mJ fuel j14) (x0.1, (↑x0.1.length : Int), 0, x0, [], ())
noncomputable def Hx (x : A5) : fN := Mo 100000 x.1
/-! 97 slices.Index[[]baggage/api.Device,baggage/api.Device] -/
def X5 : ee := ⟨[.v (.ty (.sl lT)), .v (.ag lT)], .v (.ty (.int .i64))⟩
def YC : HT := aM
noncomputable def Gg (z0 : Unit) : bu :=
 some (-1, ())
noncomputable def tu (j1 : Unit → bu) (rc2 : Ca → bu) (z2 : Ca) : bu :=
 if decide (z2.2.2.1 < z2.2.1) = true then
 if bt z2.2.2.1 z2.1.length = true then
 if
 (z2.2.2.2.1.1 == (bg (0, 0, 0, ()) z2.1 z2.2.2.1).1 &&
 (z2.2.2.2.1.2.1 == (bg (0, 0, 0, ()) z2.1 z2.2.2.1).2.1 && (z2.2.2.2.1.2.2.1 == (bg (0, 0, 0, ()) z2.1 z2.2.2.1).2.2.1 && true))) =
 true then
 some (z2.2.2.1, ())
 else rc2 (z2.1, z2.2.1, IntKind.i64.wrap (z2.2.2.1 + 1), z2.2.2.2)
 else none
 else j1 ()
noncomputable def MI (fuel : Nat) (x0 : Ad) (x1 : rG) : bu :=
 aa Gg fun j1 => iter fuel (tu j1) (x0, (↑x0.length : Int), 0, x1, ())
noncomputable def PH (x : Ad × Bj) : bu := MI 100000 x.1 x.2.1
/-! 83 slices.Contains[[]baggage/api.Device,baggage/api.Device] -/
def ZY : ee := ⟨[.v (.ty (.sl lT)), .v (.ag lT)], .v (.ty .bool)⟩
def h83 : HT := aO
noncomputable def Pc (fuel : Nat) (x0 : Ad) (x1 : rG) : XB :=
 (PH (x0, x1, ())).bind fun r0 => some (decide (0 ≤ r0.1), ())
noncomputable def PE (x : Ad × Bj) : XB := Pc 0 x.1 x.2.1
/-! 62 baggage/layout.devices -/
def Vh : ee := ⟨[.v (.ag ka)], .v (.ty (.int .i64))⟩
def Ys : HT := (nx (.j ⟨[(1, dO)], [(1005, bI)], []⟩ (nx (.u (.l ⟨[(1, bO), (8, bH), (9, dI), (10, dI)], [(1000, bI)], []⟩ (nx (.n aF (.n (.u (nx (.u (.j ⟨[(1, bY), (4, .ref 1002 3), (8, bH), (9, dI), (10, dI), (14, dB)], [(1001, bI), (1002, dH)], []⟩ (.r .x) (.n aG (.j ⟨[(1, dC), (8, bH), (9, dI), (10, dI), (23, dB)], [(1003, bI)], []⟩ (.r .q) aC)))))) (.r .x))))))) (.j ⟨[], [], []⟩ (nx (.u (.l ⟨[(1, bZ), (54, bH), (55, dI), (56, dI)], [(1006, bI)], []⟩ aZ))) aG)))
noncomputable def FP (z1 : Unit) : bu :=
 some (0, ())
noncomputable def td (j2 : Unit → bu) (rc3 : C2 → bu) (z3 : C2) : bu :=
 if decide (z3.2.2.1 < z3.2.1) = true then
 if bt z3.2.2.1 z3.1.length = true then
 if fa 0 z3.2.2.1 z3.2.2.2.1.2.1.length = true then
 (PE (ig z3.2.2.2.1.2.1 0 z3.2.2.1, bg (0, 0, 0, ()) z3.1 z3.2.2.1, ())).bind fun r4 =>
 if r4.1 = true then some (5, ()) else rc3 (z3.1, z3.2.1, IntKind.i64.wrap (z3.2.2.1 + 1), z3.2.2.2)
 else none
 else none
 else j2 ()
noncomputable def sZ (fuel : Nat) (z0 : A5) : bu :=
 aa FP fun j2 => iter fuel (td j2) (z0.1.2.1, (↑z0.1.2.1.length : Int), 0, z0)
noncomputable def FQ (rc6 : C2 → bu) (z8 : Ad × Int × Int × C0) : bu :=
 if z8.2.2.2.1 = true then some (1, ()) else rc6 (z8.1, z8.2.1, IntKind.i64.wrap (z8.2.2.1 + 1), z8.2.2.2.2)
noncomputable def yk (rc6 : C2 → bu) (z7 : Ad × Int × Ck) : bu :=
 if z7.2.2.2.1 = true then some (4, ())
 else
 aa (FQ rc6) fun j9 =>
 if decide (z7.2.2.2.2.2.1.2.1 < 0) = true then j9 (z7.1, z7.2.1, z7.2.2.1, true, z7.2.2.2.2.1, ())
 else
 if decide ((↑z7.2.2.2.2.1.1.length : Int) ≤ z7.2.2.2.2.2.1.2.1) = true then j9 (z7.1, z7.2.1, z7.2.2.1, true, z7.2.2.2.2.1, ())
 else
 if decide (z7.2.2.2.2.2.1.2.2.1 < 0) = true then j9 (z7.1, z7.2.1, z7.2.2.1, true, z7.2.2.2.2.1, ())
 else
 if bt z7.2.2.2.2.2.1.2.1 z7.2.2.2.2.1.1.length = true then
 j9
 (z7.1, z7.2.1, z7.2.2.1, decide ((bg ([], 0, 0, 0, [], ()) z7.2.2.2.2.1.1 z7.2.2.2.2.2.1.2.1).2.2.1 ≤ z7.2.2.2.2.2.1.2.2.1),
 z7.2.2.2.2.1, ())
 else none
noncomputable def te (j5 : A5 → bu) (rc6 : C2 → bu) (z6 : C2) : bu :=
 if decide (z6.2.2.1 < z6.2.1) = true then
 if bt z6.2.2.1 z6.1.length = true then
 aa (yk rc6) fun j10 =>
 if ((bg (0, 0, 0, ()) z6.1 z6.2.2.1).1 != 1) = true then
 j10 (z6.1, z6.2.1, z6.2.2.1, (bg (0, 0, 0, ()) z6.1 z6.2.2.1).1 != 2, z6.2.2.2.1, bg (0, 0, 0, ()) z6.1 z6.2.2.1, ())
 else j10 (z6.1, z6.2.1, z6.2.2.1, false, z6.2.2.2.1, bg (0, 0, 0, ()) z6.1 z6.2.2.1, ())
 else none
 else j5 z6.2.2.2
noncomputable def Mp (fuel : Nat) (x0 : ez) : bu :=
 aa (sZ fuel) fun j5 => iter fuel (te j5) (x0.2.1, (↑x0.2.1.length : Int), 0, x0, ())
noncomputable def MV (x : A5) : bu := Mp 100000 x.1
noncomputable def YR : Code := bd Tryd.f63
noncomputable def YS : Code := bd Tryd.f64
/-! 40 baggage/layout.Validate -/
noncomputable def Xd : Code := bd Tryd.f40
def Q5 : ee := ⟨[.v (.ag ka)], .v (.ty (.int .i64))⟩
def Vk : HT := (nx (.n (.j ⟨[(1, bO), (16, dB)], [(1000, bI)], []⟩ (.r .x) aC) (.j ⟨[(1, dC)], [(1003, bI)], []⟩ (nx (.u (.l ⟨[(1, bY), (19, dI), (20, dI)], [(1001, bI)], []⟩ (nx (.n aF (.n (.u (nx bF)) (.r .x))))))) (.n (.u (nx (.n aG aL))) (.j ⟨[(1, bZ)], [(1006, bI)], []⟩ (nx (.u (.l ⟨[(1, bX), (40, dI), (41, dI)], [(1004, bI)], []⟩ aR))) (.n aV (.n bF (.n (.n (.ri .x [(63, 0, (nx (.j ⟨[(69, dB)], [], []⟩ (.ri .x [(72, 0, (nx (.j ⟨[], [], []⟩ (nx (.u (.l ⟨[(74, b9), (75, .cW (.fn 64)), (81, dI), (82, dI)], [], []⟩ (nx (.n aF (.n (.u (nx (.n (.ri .x [(90, 0, aO)]) aC))) (.r .x))))))) aG)))]) .e)))]) aC) aG))))))))
noncomputable def Qi : List (Nat × Entry) := [(57, ⟨XT, MR⟩), (58, ⟨Vd, MS⟩), (59, ⟨Ve, MT⟩), (60, ⟨Vf, MU⟩), (61, ⟨Vg, Hx⟩), (62, ⟨Vh, MV⟩)]
noncomputable def Qo : List (Nat × yO) := [(63, ⟨9, [.tmp 4], YR⟩), (84, ⟨19, [.tmp 4], Xg⟩), (64, ⟨6, [.tmp 2], YS⟩)]
def Qu : qe := []
noncomputable def L0 (z7 : Ab) : bu :=
 if (!z7.1) = true then some (6, ()) else some (0, ())
noncomputable def L1 (j8 : Ab → bu) (z9 : Unit) : bu :=
 j8 (decide (0 ≤ -1), ())
noncomputable def AO (j8 : Ab → bu) (j10 : Unit → bu) (rc11 : Bz × A9 → bu) (z11 : Bz × A9) : bu :=
 if decide (z11.2.2.1 < z11.2.1) = true then
 if bt z11.2.2.1 z11.1.length = true then
 if ((bg ([], 0, 0, 0, [], ()) z11.1 z11.2.2.1).2.1 == 1) = true then j8 (decide (0 ≤ z11.2.2.1), ())
 else rc11 (z11.1, z11.2.1, IntKind.i64.wrap (z11.2.2.1 + 1), ())
 else none
 else j10 ()
noncomputable def yf (fuel : Nat) (z4 : A5) : bu :=
 (Hx z4).bind fun r5 =>
 if decide ((↑r5.1.length : Int) < (↑z4.1.1.length : Int)) = true then some (9, ())
 else
 (MV z4).bind fun r6 =>
 if (r6.1 != 0) = true then some r6
 else aa L0 fun j8 => aa (L1 j8) fun j10 => iter fuel (AO j8 j10) (z4.1.1, (↑z4.1.1.length : Int), 0, ())
noncomputable def pC (j12 : A5 → bu) (rc13 : A8 → bu) (z13 : A8) : bu :=
 if decide (z13.2.1 < z13.1) = true then
 (MU (z13.2.2.1, z13.2.1, ())).bind fun r14 => if (!r14.1) = true then some (7, ()) else rc13 (z13.1, IntKind.i64.wrap (z13.2.1 + 1), z13.2.2)
 else j12 z13.2.2
noncomputable def ye (fuel : Nat) (z1 : A5) : bu :=
 (MS z1).bind fun r2 =>
 if decide (80 < r2.1) = true then some (2, ())
 else
 (MT z1).bind fun r3 =>
 if (!r3.1) = true then some (5, ()) else aa (yf fuel) fun j12 => iter fuel (pC j12) ((↑z1.1.1.length : Int), 0, z1)
noncomputable def pD (j15 : A5 → bu) (rc16 : A8 → bu) (z16 : A8) : bu :=
 if decide (z16.2.1 < z16.1) = true then
 (MR (z16.2.2.1, z16.2.1, ())).bind fun r17 => if (r17.1 != 0) = true then some r17 else rc16 (z16.1, IntKind.i64.wrap (z16.2.1 + 1), z16.2.2)
 else j15 z16.2.2
noncomputable def Fu (fuel : Nat) (z0 : C0) : bu :=
 if z0.1 = true then some (2, ()) else aa (ye fuel) fun j15 => iter fuel (pD j15) ((↑z0.2.1.1.length : Int), 0, z0.2)
noncomputable def LZ (fuel : Nat) (x0 : ez) : bu :=
 aa (Fu fuel) fun j18 =>
 if decide (24 < (↑x0.1.length : Int)) = true then j18 (true, x0, ()) else j18 (decide (24 < (↑x0.2.1.length : Int)), x0, ())
noncomputable def BC (x : A5) : bu := LZ 100000 x.1
/-! 41 baggage/layout.Order -/
def Vb : ee := ⟨[.v (.ag ka)], .own (.cons (.int .i64) .nil)⟩
def h41 : HT := (nx aW)
noncomputable def OZ (fuel : Nat) (x0 : ez) : fN :=
 (BC (x0, ())).bind fun r0 => if (r0.1 != 0) = true then some ([], ()) else (Hx (x0, ())).bind fun r1 => some r1
noncomputable def DU (x : A5) : fN := OZ 0 x.1
noncomputable def Xb : Code := bd Tryd.f26
/-! 27 (*baggage/engine.Plan).Fits -/
def S0 : ee := ⟨[.bx PO, .v (.ag HH)], .v (.ty .bool)⟩
def Yc : HT := (nx (.n (.j ⟨[(0, b8), (3, bO), (28, dB)], [(900000, bU), (1000, bS)], []⟩ (.r .q) aC) (.j ⟨[], [(900000, bU)], []⟩ (nx (.u (.l ⟨[(3, bY), (33, b9), (34, dI), (35, dI)], [(900000, bU), (1001, bS)], []⟩ aZ))) aG)))
noncomputable def Fk (z1 : Ax) : Bg :=
 some (true, z1)
noncomputable def ss (j2 : Ax → Bg) (rc3 : Bz × Int × Int × nO × Bv → Bg) (z3 : Bz × Int × Int × nO × Bv) : Bg :=
 if decide (z3.2.2.1 < z3.2.1) = true then
 if bt z3.2.2.1 z3.1.length = true then
 if bt z3.2.2.1 z3.2.2.2.2.1.1.length = true then
 if ((↑(List.length (bg ([], ()) z3.2.2.2.2.1.1 z3.2.2.1).1) : Int) != (bg ([], 0, 0, 0, [], ()) z3.1 z3.2.2.1).2.2.1) = true then
 some (false, z3.2.2.2.1, ())
 else rc3 (z3.1, z3.2.1, IntKind.i64.wrap (z3.2.2.1 + 1), z3.2.2.2)
 else none
 else none
 else j2 (z3.2.2.2.1, ())
noncomputable def Fj (fuel : Nat) (z0 : Bool × nO × Bv) : Bg :=
 if z0.1 = true then some (false, z0.2.1, ()) else aa Fk fun j2 => iter fuel (ss j2) (z0.2.1.1, (↑z0.2.1.1.length : Int), 0, z0.2)
noncomputable def LM (fuel : Nat) (x0 : nO) (x1 : jv) : Bg :=
 aa (Fj fuel) fun j4 =>
 if ((↑x1.1.length : Int) != (↑x0.1.length : Int)) = true then j4 (true, x0, x1, ())
 else j4 ((↑x1.2.1.length : Int) != (↑x0.1.length : Int), x0, x1, ())
noncomputable def DR (x : nO × Bv) : Bg := LM 100000 x.1 x.2.1
/-! 42 baggage/engine.known -/
def XH : ee := ⟨[.v (.ag BF), .v (.ty (.int .i64))], .v (.ty .bool)⟩
def h42 : HT := (nx (.n (.u (nx (.n aQ (nx (.n aQ .e))))) aG))
noncomputable def L2 (z1 : Ab) : XB :=
 some z1
noncomputable def L3 (z3 : Ab) : XB :=
 some z3
noncomputable def O2 (fuel : Nat) (x0 : tF) (x1 : Int) : XB :=
 (yJ (x0.2.1, ())).bind fun r0 =>
 if r0.1 = true then
 aa L2 fun j2 =>
 if decide (0 ≤ x1) = true then
 if decide (x1 < (↑x0.2.2.2.2.1.length : Int)) = true then j2 (true, ())
 else if (x1 == -1) = true then j2 (x0.2.1 != 5, ()) else j2 (false, ())
 else if (x1 == -1) = true then j2 (x0.2.1 != 5, ()) else j2 (false, ())
 else
 if (x0.2.1 == 7) = true then aa L3 fun j4 => if decide (0 ≤ x1) = true then j4 (decide (x1 ≤ 40), ()) else j4 (false, ())
 else some (x1 == 0, ())
noncomputable def ML (x : tF × Ac) : XB := O2 0 x.1 x.2.1
noncomputable def YP : Code := bd Tryd.f44
noncomputable def YT : Code := bd Tryd.f65
noncomputable def YO : Code := bd Tryd.f43
/-! 28 (*baggage/engine.Plan).Refused -/
noncomputable def Xc : Code := bd Tryd.f28
def P0 : ee := ⟨[.bx PO, .v (.ty (.sl (.cons (.int .i64) .nil))), .v (.ty (.sl lT))], .v (.ty (.int .i64))⟩
def P3 : HT := (nx (.n aL (.j ⟨[(0, b8), (2, bH)], [(900000, bU)], []⟩ (nx (.u (.l ⟨[(0, b8), (2, bH), (22, dL), (23, dI), (24, dI)], [(900000, bU)], []⟩ aR))) (.n aL (.j ⟨[(2, bH)], [(900000, bU)], []⟩ (nx (.u (.l ⟨[(0, b8), (2, bH), (44, bH), (45, dI), (46, dI)], [(900000, bU)], []⟩ (nx (.n aF (.n (.u (nx (.u (.j ⟨[(0, b8), (2, bH), (10, .ref 1000 3), (44, bH), (45, dI), (46, dI), (50, dB)], [(900000, bU), (1000, dH)], []⟩ (.r .x) (.n aG (.j ⟨[(0, b8), (2, bH), (44, bH), (45, dI), (46, dI), (59, dB)], [(900000, bU)], []⟩ (.r .q) aC)))))) (.r .x))))))) (.j ⟨[], [(900000, bU)], []⟩ (nx (.u (.l ⟨[(2, bH), (95, bH), (96, dI), (97, dI)], [(900000, bU)], []⟩ (nx (.n aF (.n (.u (nx (.n (.ri .x [(106, 0, (nx (.j ⟨[(2, bH), (95, bH), (96, dI), (97, dI), (112, dB)], [(900000, bU)], []⟩ (.ri .x [(115, 0, (nx (.j ⟨[(2, bH), (95, bH), (96, dI), (97, dI)], [(900000, bU)], []⟩ (nx (.u (.l ⟨[(2, bH), (95, bH), (96, dI), (97, dI), (117, bH), (118, .cm (some 44, 0) [(1001, 3)]), (124, dI), (125, dI)], [(900000, bU), (1001, dH)], []⟩ (nx (.n aF (.n (.u (nx (.n (.ri .x [(133, 0, (nx (.j ⟨[(2, bH), (95, bH), (96, dI), (97, dI), (117, bH), (118, .cm (some 44, 0) [(1002, 3)]), (122, dI), (124, dI), (125, dI), (139, dB)], [(900000, bU), (1002, dH)], []⟩ (.r .x) .e)))]) aC))) (.r .x))))))) aG)))]) .e)))]) aC))) (.r .x))))))) aG))))))
noncomputable def Qh : List (Nat × Entry) := [(42, ⟨XH, ML⟩)]
noncomputable def Qn : List (Nat × yO) := [(43, ⟨9, [.tmp 4], YO⟩), (65, ⟨19, [.tmp 4], YT⟩), (44, ⟨16, [.tmp 3], YP⟩)]
def Qt : qe := []
noncomputable def Fl (z2 : Ax) : jZ :=
 some (0, z2)
noncomputable def ng (rc4 : Bt → jZ) (z5 : Bi) : jZ :=
 if z5.2.2.2.2.1 = true then some (5, z5.2.2.2.2.2) else rc4 (z5.1, z5.2.1, z5.2.2.1, IntKind.i64.wrap (z5.2.2.2.1 + 1), z5.2.2.2.2.2)
noncomputable def x7 (j6 : Bi → jZ) (z7 : Bt) : jZ :=
 j6 (z7.1, z7.2.1, z7.2.2.1, z7.2.2.2.1, decide (0 ≤ -1), z7.2.2.2.2)
noncomputable def u9 (j6 : Bi → jZ) (rc9 : Bp → jZ) (z10 : Ad × Ad × Int × Int × Ad × Int × C7) : jZ :=
 if z10.2.2.2.2.2.2.2.2.1 = true then j6 (z10.1, z10.2.1, z10.2.2.1, z10.2.2.2.1, decide (0 ≤ z10.2.2.2.2.2.1), z10.2.2.2.2.2.2.2.2.2.1, ())
 else rc9 (z10.1, z10.2.1, z10.2.2.1, z10.2.2.2.1, z10.2.2.2.2.1, z10.2.2.2.2.2.2.1, IntKind.i64.wrap (z10.2.2.2.2.2.2.2.1 + 1), z10.2.2.2.2.2.2.2.2.2)
noncomputable def sx (j6 : Bi → jZ) (j8 : Bt → jZ) (rc9 : Bp → jZ) (z9 : Bp) : jZ :=
 if decide (z9.2.2.2.2.2.2.1 < z9.2.2.2.2.2.1) = true then
 if bt z9.2.2.2.2.2.2.1 z9.2.2.2.2.1.length = true then
 aa (u9 j6 rc9) fun j11 =>
 if (z9.2.2.2.2.2.2.2.2.1.2.1 == (bg (0, 0, 0, ()) z9.2.2.2.2.1 z9.2.2.2.2.2.2.1).2.1) = true then
 j11
 (z9.1, z9.2.1, z9.2.2.1, z9.2.2.2.1, z9.2.2.2.2.1, z9.2.2.2.2.2.2.1, z9.2.2.2.2.2.1, z9.2.2.2.2.2.2.1,
 z9.2.2.2.2.2.2.2.2.1.2.2.1 == (bg (0, 0, 0, ()) z9.2.2.2.2.1 z9.2.2.2.2.2.2.1).2.2.1, z9.2.2.2.2.2.2.2)
 else j11 (z9.1, z9.2.1, z9.2.2.1, z9.2.2.2.1, z9.2.2.2.2.1, z9.2.2.2.2.2.2.1, z9.2.2.2.2.2.1, z9.2.2.2.2.2.2.1, false, z9.2.2.2.2.2.2.2)
 else none
 else j8 (z9.1, z9.2.1, z9.2.2.1, z9.2.2.2.1, z9.2.2.2.2.2.2.2.1, ())
noncomputable def sw (fuel : Nat) (j3 : Ax → jZ) (rc4 : Bt → jZ) (z4 : Bt) : jZ :=
 if decide (z4.2.2.2.1 < z4.2.2.1) = true then
 if bt z4.2.2.2.1 z4.2.1.length = true then
 if fa 0 z4.2.2.2.1 z4.1.length = true then
 aa (ng rc4) fun j6 =>
 aa (x7 j6) fun j8 =>
 iter fuel (sx j6 j8)
 (z4.1, z4.2.1, z4.2.2.1, z4.2.2.2.1, ig z4.1 0 z4.2.2.2.1, (↑(ig z4.1 0 z4.2.2.2.1).length : Int), 0, z4.2.2.2.2.1,
 bg (0, 0, 0, ()) z4.2.1 z4.2.2.2.1, ())
 else none
 else none
 else j3 z4.2.2.2.2
noncomputable def su (fuel : Nat) (z1 : Ad × Ax) : jZ :=
 aa Fl fun j3 => iter fuel (sw fuel j3) (z1.1, z1.1, (↑z1.1.length : Int), 0, z1.2)
noncomputable def AM (rc13 : Bt → jZ) (z15 : Bi) : jZ :=
 if z15.2.2.2.2.1 = true then some (1, z15.2.2.2.2.2) else rc13 (z15.1, z15.2.1, z15.2.2.1, IntKind.i64.wrap (z15.2.2.2.1 + 1), z15.2.2.2.2.2)
noncomputable def vb (rc13 : Bt → jZ) (z14 : Ad × Ad × C7) : jZ :=
 if z14.2.2.2.2.1 = true then some (4, z14.2.2.2.2.2.1, ())
 else
 aa (AM rc13) fun j16 =>
 if decide (z14.2.2.2.2.2.2.1.2.1 < 0) = true then j16 (z14.1, z14.2.1, z14.2.2.1, z14.2.2.2.1, true, z14.2.2.2.2.2.1, ())
 else
 if decide ((↑z14.2.2.2.2.2.1.1.length : Int) ≤ z14.2.2.2.2.2.2.1.2.1) = true then
 j16 (z14.1, z14.2.1, z14.2.2.1, z14.2.2.2.1, true, z14.2.2.2.2.2.1, ())
 else
 if decide (z14.2.2.2.2.2.2.1.2.2.1 < 0) = true then j16 (z14.1, z14.2.1, z14.2.2.1, z14.2.2.2.1, true, z14.2.2.2.2.2.1, ())
 else
 if bt z14.2.2.2.2.2.2.1.2.1 z14.2.2.2.2.2.1.1.length = true then
 j16
 (z14.1, z14.2.1, z14.2.2.1, z14.2.2.2.1,
 decide ((bg ([], 0, 0, 0, [], ()) z14.2.2.2.2.2.1.1 z14.2.2.2.2.2.2.1.2.1).2.2.1 ≤ z14.2.2.2.2.2.2.1.2.2.1), z14.2.2.2.2.2.1, ())
 else none
noncomputable def pw (j12 : Ad × Ax → jZ) (rc13 : Bt → jZ) (z13 : Bt) : jZ :=
 if decide (z13.2.2.2.1 < z13.2.2.1) = true then
 if bt z13.2.2.2.1 z13.2.1.length = true then
 aa (vb rc13) fun j17 =>
 if ((bg (0, 0, 0, ()) z13.2.1 z13.2.2.2.1).1 != 1) = true then
 j17
 (z13.1, z13.2.1, z13.2.2.1, z13.2.2.2.1, (bg (0, 0, 0, ()) z13.2.1 z13.2.2.2.1).1 != 2, z13.2.2.2.2.1,
 bg (0, 0, 0, ()) z13.2.1 z13.2.2.2.1, ())
 else j17 (z13.1, z13.2.1, z13.2.2.1, z13.2.2.2.1, false, z13.2.2.2.2.1, bg (0, 0, 0, ()) z13.2.1 z13.2.2.2.1, ())
 else none
 else j12 (z13.1, z13.2.2.2.2)
noncomputable def pv (fuel : Nat) (z0 : Ad × Ax) : jZ :=
 if decide (4 < (↑z0.1.length : Int)) = true then some (2, z0.2)
 else aa (su fuel) fun j12 => iter fuel (pw j12) (z0.1, z0.1, (↑z0.1.length : Int), 0, z0.2)
noncomputable def px (j18 : Ad × Ax → jZ) (rc19 : Ad × XI × A7 → jZ) (z19 : Ad × XI × A7) : jZ :=
 if decide (z19.2.2.2.1 < z19.2.2.1) = true then
 if bt z19.2.2.2.1 z19.2.1.length = true then
 if bt z19.2.2.2.1 z19.2.2.2.2.1.1.length = true then
 (ML (bg ([], 0, 0, 0, [], ()) z19.2.2.2.2.1.1 z19.2.2.2.1, bg (0, ()) z19.2.1 z19.2.2.2.1)).bind fun r20 =>
 if (!r20.1) = true then some (1, z19.2.2.2.2) else rc19 (z19.1, z19.2.1, z19.2.2.1, IntKind.i64.wrap (z19.2.2.2.1 + 1), z19.2.2.2.2)
 else none
 else none
 else j18 (z19.1, z19.2.2.2.2)
noncomputable def LN (fuel : Nat) (x0 : nO) (x1 : XI) (x2 : Ad) : jZ :=
 if ((↑x1.length : Int) != (↑x0.1.length : Int)) = true then some (1, x0, ())
 else aa (pv fuel) fun j18 => iter fuel (px j18) (x2, x1, (↑x1.length : Int), 0, x0, ())
noncomputable def DS (x : nO × C3) : jZ := LN 100000 x.1 x.2.1 x.2.2.1
def Q4 : ee := ⟨[.bx PO, .v (.ag HH), .v (.ty (.sl (.cons (.int .i64) .nil))), .v (.ty (.sl lT))], .v (.ag Ti)⟩
abbrev ft : Type := XI
abbrev W6 : Type := nO × Unit × jv × Unit × Unit × (ft × Unit) × (ft × Unit) × ft × ft × ft × ft × Unit
abbrev vX : Type := Int × Bool × W6
noncomputable def xM {R : Type} (rc3 : vX → Option R) (rc8 : Int × vX → Option R) (z8 : Int × vX) : Option R :=
 if (z8.1 != 0) = true then
 (Hw (z8.1, ())).bind fun r9 =>
 if bt r9.1 z8.2.2.2.2.2.2.2.2.1.1.length = true then
 if bt r9.1 z8.2.2.2.2.2.2.2.2.2.2.2.2.1.length = true then
 if decide (r9.1.toNat + 1 ≤ z8.2.2.2.2.2.2.2.2.2.2.2.2.1.length) = true then
 rc8
 (IntKind.u64.wrap (↑(BitVec.ofInt IntKind.u64.bits z8.1 &&& BitVec.ofInt IntKind.u64.bits (IntKind.u64.wrap (z8.1 - 1))).toNat : Int),
 z8.2.1, z8.2.2.1, z8.2.2.2.1, (), z8.2.2.2.2.2.1, (), (), z8.2.2.2.2.2.2.2.2.1, z8.2.2.2.2.2.2.2.2.2.1, z8.2.2.2.2.2.2.2.2.2.2.1,
 z8.2.2.2.2.2.2.2.2.2.2.2.1, z8.2.2.2.2.2.2.2.2.2.2.2.2.1.set r9.1.toNat (bg (0, ()) z8.2.2.2.2.2.2.2.2.1.1 r9.1),
 z8.2.2.2.2.2.2.2.2.2.2.2.2.2)
 else none
 else none
 else none
 else rc3 (z8.2.1, z8.2.2.1, z8.2.2.2.1, (), z8.2.2.2.2.2.1, (), (), z8.2.2.2.2.2.2.2.2)
noncomputable def rY {R : Type} (rc3 : vX → Option R) (z10 : Int × Int × Int × Bool × Bool × W6) : Option R :=
 if z10.2.2.2.2.1 = true then
 (Hw (z10.2.1, ())).bind fun r11 =>
 if bt r11.1 z10.2.2.2.2.2.2.2.2.2.2.1.1.length = true then
 if bt r11.1 z10.2.2.2.2.2.2.2.2.2.2.2.2.2.2.1.length = true then
 if decide (r11.1.toNat + 1 ≤ z10.2.2.2.2.2.2.2.2.2.2.2.2.2.2.1.length) = true then
 if bt z10.1 z10.2.2.2.2.2.2.2.2.2.2.2.2.2.2.2.1.length = true then
 if decide (z10.1.toNat + 1 ≤ z10.2.2.2.2.2.2.2.2.2.2.2.2.2.2.2.1.length) = true then
 rc3
 (z10.2.2.1, z10.2.2.2.1, z10.2.2.2.2.2.1, (), z10.2.2.2.2.2.2.2.1, (), (), z10.2.2.2.2.2.2.2.2.2.2.1, z10.2.2.2.2.2.2.2.2.2.2.2.1,
 z10.2.2.2.2.2.2.2.2.2.2.2.2.1, z10.2.2.2.2.2.2.2.2.2.2.2.2.2.1,
 z10.2.2.2.2.2.2.2.2.2.2.2.2.2.2.1.set r11.1.toNat (bg (0, ()) z10.2.2.2.2.2.2.2.2.2.2.1.1 r11.1),
 z10.2.2.2.2.2.2.2.2.2.2.2.2.2.2.2.1.set z10.1.toNat r11, ())
 else none
 else none
 else none
 else none
 else none
 else rc3 (z10.2.2.1, z10.2.2.2.1, z10.2.2.2.2.2.1, (), z10.2.2.2.2.2.2.2.1, (), (), z10.2.2.2.2.2.2.2.2.2.2)
noncomputable def Dy {R : Type} (fuel : Nat) (rc3 : vX → Option R) (z5 : Int × Bool × vX) : Option R :=
 (MN (z5.2.2.2.2.1, z5.2.2.2.2.2.2.2.2.2.1.1, z5.1, ())).bind fun r6 =>
 if bt z5.1 r6.2.1.1.length = true then
 (yJ ((bg ([], 0, 0, 0, [], ()) r6.2.1.1 z5.1).2.1, ())).bind fun r7 =>
 if (!r7.1) = true then iter fuel (xM rc3) (r6.1, z5.2.2.1, z5.2.2.2.1, r6.2.1, (), z5.2.2.2.2.2.2.1, (), (), z5.2.2.2.2.2.2.2.2.2)
 else
 aa (rY rc3) fun j12 =>
 if (r6.1 != 0) = true then
 (Hu (r6.2.1, z5.2.2.2.2.2.2.1, z5.1, ())).bind fun r13 =>
 if r13.1 = true then j12 (z5.1, r6.1, z5.2.2.1, z5.2.2.2.1, !z5.2.1, r13.2.1, (), z5.2.2.2.2.2.2.1, (), (), z5.2.2.2.2.2.2.2.2.2)
 else j12 (z5.1, r6.1, z5.2.2.1, z5.2.2.2.1, false, r13.2.1, (), z5.2.2.2.2.2.2.1, (), (), z5.2.2.2.2.2.2.2.2.2)
 else j12 (z5.1, r6.1, z5.2.2.1, z5.2.2.2.1, false, r6.2.1, (), z5.2.2.2.2.2.2.1, (), (), z5.2.2.2.2.2.2.2.2.2)
 else none
noncomputable def Dx {R : Type} (fuel : Nat) (rc3 : vX → Option R) (z4 : Int × Bool × vX) : Option R :=
 aa (Dy fuel rc3) fun j14 =>
 if z4.2.1 = true then
 if bt z4.1 z4.2.2.2.2.2.2.2.2.2.2.2.2.2.1.length = true then
 if decide (z4.1.toNat + 1 ≤ z4.2.2.2.2.2.2.2.2.2.2.2.2.2.1.length) = true then
 j14
 (z4.1, z4.2.1, z4.2.2.1, z4.2.2.2.1, z4.2.2.2.2.1, (), z4.2.2.2.2.2.2.1, (), (), z4.2.2.2.2.2.2.2.2.2.1, z4.2.2.2.2.2.2.2.2.2.2.1,
 z4.2.2.2.2.2.2.2.2.2.2.2.1, z4.2.2.2.2.2.2.2.2.2.2.2.2.1, z4.2.2.2.2.2.2.2.2.2.2.2.2.2.1.set z4.1.toNat (0, ()),
 z4.2.2.2.2.2.2.2.2.2.2.2.2.2.2)
 else none
 else none
 else j14 (z4.1, z4.2.1, z4.2.2.1, z4.2.2.2.1, z4.2.2.2.2.1, (), z4.2.2.2.2.2.2.1, (), (), z4.2.2.2.2.2.2.2.2.2)
/-- one round -/
noncomputable def RO {R : Type} (fuel : Nat) (rc3 : vX → Option R) (z3 : vX) (x : Int) : Option R :=
 aa (Dx fuel rc3) fun j15 =>
 if bt x z3.2.2.1.1.length = true then
 if ((bg ([], 0, 0, 0, [], ()) z3.2.2.1.1 x).2.1 == 5) = true then
 if bt x z3.2.2.2.2.2.2.2.1.1.length = true then
 if decide (0 ≤ (bg (0, ()) z3.2.2.2.2.2.2.2.1.1 x).1) = true then
 if bt x z3.2.2.2.2.2.2.2.2.2.2.2.1.length = true then
 if decide (x.toNat + 1 ≤ z3.2.2.2.2.2.2.2.2.2.2.2.1.length) = true then
 if decide ((z3.2.2.2.2.2.2.2.2.2.2.2.1.getD x.toNat (0, ())).1 < 0) = true then
 if bt x z3.2.2.2.2.1.1.length = true then
 if bt 0 (List.length (bg ([], ()) z3.2.2.2.2.1.1 x).1) = true then
 j15 (x, (bg (0, ()) (bg ([], ()) z3.2.2.2.2.1.1 x).1 0).1 == 0, z3.1, z3.2.1, z3.2.2.1, (), z3.2.2.2.2.1, (), (),
 z3.2.2.2.2.2.2.2)
 else none
 else none
 else j15 (x, false, z3.1, z3.2.1, z3.2.2.1, (), z3.2.2.2.2.1, (), (), z3.2.2.2.2.2.2.2)
 else none
 else none
 else j15 (x, false, z3.1, z3.2.1, z3.2.2.1, (), z3.2.2.2.2.1, (), (), z3.2.2.2.2.2.2.2)
 else none
 else j15 (x, false, z3.1, z3.2.1, z3.2.2.1, (), z3.2.2.2.2.1, (), (), z3.2.2.2.2.2.2.2)
 else none
noncomputable def rZ {R : Type} (j16 : Int × Bool × nO × Unit × jv × Unit × Unit × Unit × ft × ft × ft × ft × ft × Unit → Option R) (rc17 : ft × List rG × Int × Int × nO × Unit × jv × Unit × Unit × Unit × ft × ft × ft × ft × ft × Unit → Option R) (z17 : ft × List rG × Int × Int × nO × Unit × jv × Unit × Unit × Unit × ft × ft × ft × ft × ft × Unit) : Option R :=
 if decide (z17.2.2.2.1 < z17.2.2.1) = true then
 if decide (z17.2.2.2.2.2.2.2.2.2.2.2.2.1.length + 1 ≤ Abs.cj) = true then
 if decide ((z17.2.2.2.2.2.2.2.2.2.2.2.2.1.length + 1) * 8 ≤ Abs.cj) = true then
 if decide (z17.2.2.2.2.2.2.2.2.2.2.2.2.2.1.length + 1 ≤ Abs.cj) = true then
 if decide ((z17.2.2.2.2.2.2.2.2.2.2.2.2.2.1.length + 1) * 8 ≤ Abs.cj) = true then
 if bt z17.2.2.2.1 z17.1.length = true then
 (MM (z17.2.2.2.2.1, z17.2.2.2.2.2.2.1, z17.2.2.2.1, (bg (0, ()) z17.1 z17.2.2.2.1).1, z17.2.1, ())).bind fun r18 =>
 if decide (z17.2.2.2.2.2.2.2.2.2.2.2.2.2.2.1.length + 1 ≤ Abs.cj) = true then
 if decide ((z17.2.2.2.2.2.2.2.2.2.2.2.2.2.2.1.length + 1) * 8 ≤ Abs.cj) = true then
 rc17
 (z17.1, z17.2.1, z17.2.2.1, IntKind.i64.wrap (z17.2.2.2.1 + 1), r18.2.1, (), z17.2.2.2.2.2.2.1, (), (), (),
 z17.2.2.2.2.2.2.2.2.2.2.1, z17.2.2.2.2.2.2.2.2.2.2.2.1, z17.2.2.2.2.2.2.2.2.2.2.2.2.1 ++ [(-1, ())],
 z17.2.2.2.2.2.2.2.2.2.2.2.2.2.1 ++ [(-1, ())], z17.2.2.2.2.2.2.2.2.2.2.2.2.2.2.1 ++ [(r18.1, ())], ())
 else none
 else none
 else none
 else none
 else none
 else none
 else none
 else j16 (z17.2.2.1, decide (z17.2.2.2.1 < z17.2.2.1), z17.2.2.2.2.1, (), z17.2.2.2.2.2.2.1, (), (), (), z17.2.2.2.2.2.2.2.2.2.2)
/-- the state ahead of the loop -/
noncomputable def P9 (fuel : Nat) (x0 : nO) (x1 : jv) (x2 : ft) (x3 : List rG) : Option vX :=
 aa (fun z0 : Int × Bool × nO × Unit × jv × Unit × Unit × Unit × ft × ft × ft × ft × ft × Unit => some (z0.1, z0.2.1, z0.2.2.1, (), z0.2.2.2.2.1, (), (), z0.2.2.2.2.2.2.2.2.2.2.2.2, z0.2.2.1.2.2, z0.2.2.2.2.2.2.2.2.1, z0.2.2.2.2.2.2.2.2.2.1, z0.2.2.2.2.2.2.2.2.2.2.1, z0.2.2.2.2.2.2.2.2.2.2.2.1, ())) fun j16 =>
 iter fuel (rZ j16) (x2, x3, (↑x0.1.length : Int), 0, x0, (), x1, (), (), (), [], [], [], [], [], ())
noncomputable def lg (z : vX) (l : List Int) : Option vX := l.foldlM (fun z n => RO 100000 some z n) z
abbrev gq (z : vX) : List Int := z.2.2.2.2.2.2.2.2.1.1.map (·.1)
/-- whatever nodes come, in whatever order: the round is defined -/
def HM (z : vX) : Prop := ∀ pre : List Int, (∀ n ∈ pre, n ∈ gq z) → pre.length ≤ (gq z).length → ∃ z', lg z pre = some z' ∧ z'.1 = z.1 ∧ z'.2.1 = z.2.1 ∧ z'.2.2.2.2.2.2.2.2.1 = z.2.2.2.2.2.2.2.2.1
open Classical in
noncomputable def DT (x : nO × jv × C3) : Option (To × Ax) :=
 (P9 100000 x.1 x.2.1 x.2.2.1 x.2.2.2.1).bind fun z => if HM z ∧ (gq z).length ≤ 100000 then (lg z (gq z).reverse).map fun z' => ((z'.2.2.2.2.2.2.2.2.2.2.2.1, z'.2.2.2.2.2.2.2.2.2.2.2.2.1, ()), z'.2.2.1, ()) else none
/-! 11 baggage/traffic.Flows -/
noncomputable def W9 : Code := bd Tryd.f11
def PZ : ee := ⟨[.v (.ag ka), .v (.ag HH), .v (.ty (.sl (.cons (.int .i64) .nil))), .v (.ty (.sl lT))], .cI [(.ag Ti), (.ty (.int .i64))]⟩
def ll : HT := (nx (.j ⟨[(2, dL), (3, bH), (5, bO), (8, bY), (10, .ref 1002 3), (11, dB)], [(1000, bS), (1001, .box [.own 1003, .own 1004]), (1002, bU), (1003, bG), (1004, bG)], []⟩ (.ri .x [(15, 0, aY)]) (.n (.j ⟨[(2, dL), (3, bH), (5, dO), (8, bZ), (10, .ref 1007 3), (25, dB)], [(1005, bS), (1006, .box [.d (.sl aA), .d (.sl aA)]), (1007, bU)], []⟩ (.r .x) aC) (.n bF aG))))
noncomputable def Qf : List (Nat × Entry) := [(40, ⟨Q5, BC⟩), (41, ⟨Vb, DU⟩), (27, ⟨S0, DR⟩), (28, ⟨P0, DS⟩), (29, ⟨Q4, DT⟩)]
noncomputable def Ql : List (Nat × yO) := [(26, ⟨12, [.tmp 2, .tmp 3], Xb⟩)]
def Qr : qe := []
noncomputable def sf (z1 : XI × Ad × Bool × jv × To × Ax) : Ah :=
 if z1.2.2.1 = true then some ((([], [], ()), 7, ()), ())
 else
 (DS (z1.2.2.2.2.2.1, z1.1, z1.2.1, ())).bind fun r2 =>
 if (r2.1 != 0) = true then some ((([], [], ()), r2.1, ()), ())
 else (DT (r2.2.1, z1.2.2.2.1, z1.1, z1.2.1, ())).bind fun r3 => some ((r3.1, 0, ()), ())
noncomputable def se (z0 : XI × Ad × Bool × jv × Unit × nO × XI × Ar) : Ah :=
 aa sf fun j4 =>
 if (!z0.2.2.1) = true then j4 (z0.1, z0.2.1, true, z0.2.2.2.1, z0.2.2.2.2.2.2, z0.2.2.2.2.2.1, ())
 else (DR (z0.2.2.2.2.2.1, z0.2.2.2.1, ())).bind fun r5 => j4 (z0.1, z0.2.1, !r5.1, z0.2.2.2.1, z0.2.2.2.2.2.2, r5.2)
noncomputable def AL (fuel : Nat) (x0 : ez) (x1 : jv) (x2 : XI) (x3 : Ad) : Ah :=
 aa se fun j6 =>
 (BC (x0, ())).bind fun r7 =>
 if (r7.1 != 0) = true then none else (DU (x0, ())).bind fun r8 => j6 (x2, x3, true, x1, (), (x0.1, x0.2.1, r8), [], [], ())
noncomputable def BB (x : ez × jv × C3) : Ah := AL 0 x.1 x.2.1 x.2.2.1 x.2.2.2.1
/-! 13 baggage/baggageref07.Strip -/
def ZD : ee := ⟨[.v (.ty (.int .i64))], .v (.ty .bool)⟩
def Z2 : HT := bE
noncomputable def E8 (z0 : Ab) : XB :=
 some z0
noncomputable def OO (fuel : Nat) (x0 : Int) : XB :=
 aa E8 fun j1 => if decide (1 ≤ x0) = true then j1 (decide (x0 ≤ 6), ()) else j1 (false, ())
noncomputable def yH (x : Ac) : XB := OO 0 x.1
/-! 50 baggage/baggageref07.split -/
def XN : ee := ⟨[.v (.ty .str), .v (.ty (.int .u8))], .v (.ty (.sl (.cons .str .nil)))⟩
def Yj : HT := (nx (nx (nx (.j ⟨[(5, dD), (6, dS)], [(1003, bR)], []⟩ (nx (.u (.l ⟨[(0, dS), (1, .d (.ty (.int .u8))), (5, .own 1000), (6, dS), (7, dI)], [(1000, bR)], []⟩ (.n aK (.j ⟨[(0, dS), (1, .d (.ty (.int .u8))), (5, dE), (6, dS), (7, dI)], [(1001, bR)], []⟩ (.u (.n (nx (.n aO .e)) (.r .x))) (.r .x)))))) aG))))
noncomputable def L5 (z0 : Au × A3 × Unit) : Bm :=
 if decide (z0.2.1.length + 1 ≤ Abs.cj) = true then
 if decide ((z0.2.1.length + 1) * 16 ≤ Abs.cj) = true then some (z0.2.1 ++ [(z0.1, ())], ()) else none
 else none
noncomputable def L6 (rc2 : Br → Bm) (z3 : Br) : Bm :=
 rc2 (z3.1, z3.2.1, z3.2.2.1, IntKind.i64.wrap (z3.2.2.2.1 + 1), z3.2.2.2.2)
noncomputable def L7 (j1 : Au × A3 × Unit → Bm) (rc2 : Br → Bm) (z2 : Br) : Bm :=
 if decide (z2.2.2.2.1 < (↑z2.1.length : Int)) = true then
 aa (L6 rc2) fun j4 =>
 if bt z2.2.2.2.1 z2.1.length = true then
 if (EZ z2.1 z2.2.2.2.1 == z2.2.1) = true then
 if decide (z2.2.2.2.2.1.length + 1 ≤ Abs.cj) = true then
 if decide ((z2.2.2.2.2.1.length + 1) * 16 ≤ Abs.cj) = true then
 j4 (z2.1, z2.2.1, [], z2.2.2.2.1, z2.2.2.2.2.1 ++ [(z2.2.2.1, ())], ())
 else none
 else none
 else
 if fa z2.2.2.2.1 (IntKind.i64.wrap (z2.2.2.2.1 + 1)) z2.1.length = true then
 if decide (z2.2.2.1.length + (ig z2.1 z2.2.2.2.1 (IntKind.i64.wrap (z2.2.2.2.1 + 1))).length ≤ Abs.cj) = true then
 j4 (z2.1, z2.2.1, z2.2.2.1 ++ ig z2.1 z2.2.2.2.1 (IntKind.i64.wrap (z2.2.2.2.1 + 1)), z2.2.2.2)
 else none
 else none
 else none
 else j1 (z2.2.2.1, z2.2.2.2.2)
noncomputable def R6 (fuel : Nat) (x0 : Au) (x1 : Int) : Bm :=
 aa L5 fun j1 => iter fuel (L7 j1) (x0, x1, [], 0, [], ())
noncomputable def Ps (x : Co) : Bm := R6 100000 x.1 x.2.1
/-! 87 baggage/baggageref01.All -/
def X1 : ee := ⟨[.v (.ty .str)], .v (.ty .bool)⟩
def YA : HT := (nx (.j ⟨[], [], []⟩ (nx (.u (.l ⟨[(0, dS), (3, dI)], [], []⟩ (.n aK (.n (.u (.j ⟨[(0, dS), (3, dI), (19, dB)], [], []⟩ (.r .x) aC)) (.r .x)))))) aG))
noncomputable def MB (z0 : Unit) : XB :=
 some (true, ())
noncomputable def MC (rc2 : Co → XB) (z3 : Au × Cd) : XB :=
 if z3.2.2.1 = true then some (false, ()) else rc2 (z3.1, IntKind.i64.wrap (z3.2.1 + 1), ())
noncomputable def MD (j1 : Unit → XB) (rc2 : Co → XB) (z2 : Co) : XB :=
 if decide (z2.2.1 < (↑z2.1.length : Int)) = true then
 aa (MC rc2) fun j4 =>
 if bt z2.2.1 z2.1.length = true then
 if decide (EZ z2.1 z2.2.1 < 48) = true then j4 (z2.1, z2.2.1, true, ())
 else if bt z2.2.1 z2.1.length = true then j4 (z2.1, z2.2.1, decide (57 < EZ z2.1 z2.2.1), ()) else none
 else none
 else j1 ()
noncomputable def R8 (fuel : Nat) (x0 : Au) : XB :=
 aa MB fun j1 => iter fuel (MD j1) (x0, 0, ())
noncomputable def Sg (x : Ce) : XB := R8 100000 x.1
/-! 88 baggage/baggageref01.Value -/
def X2 : ee := ⟨[.v (.ty .str)], .v (.ty (.int .i64))⟩
def YB : HT := (nx (nx (.j ⟨[(3, dI)], [], []⟩ (nx (.u (.l ⟨[(0, dS), (3, dI), (4, dI)], [], []⟩ aU))) aG)))
noncomputable def ME (z0 : Ac) : bu :=
 some z0
noncomputable def MF (j1 : Ac → bu) (rc2 : Au × A9 → bu) (z2 : Au × A9) : bu :=
 if decide (z2.2.2.1 < (↑z2.1.length : Int)) = true then
 if bt z2.2.2.1 z2.1.length = true then
 rc2
 (z2.1, IntKind.i64.wrap (IntKind.i64.wrap (z2.2.1 * 10) + IntKind.i64.wrap (IntKind.u8.wrap (EZ z2.1 z2.2.2.1 - 48))),
 IntKind.i64.wrap (z2.2.2.1 + 1), ())
 else none
 else j1 (z2.2.1, ())
noncomputable def Sa (fuel : Nat) (x0 : Au) : bu :=
 aa ME fun j1 => iter fuel (MF j1) (x0, 0, 0, ())
noncomputable def Sh (x : Ce) : bu := Sa 100000 x.1
/-! 71 baggage/baggageref07.number -/
def ZT : ee := ⟨[.v (.ty .str)], .cI [(.ty (.int .i64)), (.ty .bool)]⟩
def h71 : HT := (nx (.n (.j ⟨[(0, dS), (26, dB)], [], []⟩ (.r .x) aC) aG))
noncomputable def Mq (z0 : Au × Ab) : Cy :=
 if z0.2.1 = true then some ((0, false, ()), ()) else (Sh (z0.1, ())).bind fun r1 => some ((r1.1, true, ()), ())
noncomputable def VQ (fuel : Nat) (x0 : Au) : Cy :=
 aa Mq fun j2 =>
 if decide ((↑x0.length : Int) < 1) = true then j2 (x0, true, ())
 else
 if decide (3 < (↑x0.length : Int)) = true then j2 (x0, true, ())
 else
 (Sg (x0, ())).bind fun r3 =>
 if (!r3.1) = true then j2 (x0, true, ())
 else
 if decide (1 < (↑x0.length : Int)) = true then if bt 0 x0.length = true then j2 (x0, EZ x0 0 == 48, ()) else none else j2 (x0, false, ())
noncomputable def MW (x : Ce) : Cy := VQ 0 x.1
/-! 89 baggage/baggageref02.Letter -/
def ZZ : ee := ⟨[.v (.ty (.int .u8))], .v (.ty .bool)⟩
def Re : HT := bE
noncomputable def Ga (z0 : Ab) : XB :=
 some z0
noncomputable def Pd (fuel : Nat) (x0 : Int) : XB :=
 aa Ga fun j1 => if decide (65 ≤ x0) = true then j1 (decide (x0 ≤ 90), ()) else j1 (false, ())
noncomputable def JW (x : Ac) : XB := Pd 0 x.1
/-! 90 baggage/baggageref02.Digit -/
def Z0 : ee := ⟨[.v (.ty (.int .u8))], .v (.ty .bool)⟩
def h90 : HT := bE
noncomputable def MG (z0 : Ab) : XB :=
 some z0
noncomputable def VR (fuel : Nat) (x0 : Int) : XB :=
 aa MG fun j1 => if decide (48 ≤ x0) = true then j1 (decide (x0 ≤ 57), ()) else j1 (false, ())
noncomputable def Si (x : Ac) : XB := VR 0 x.1
/-! 72 baggage/baggageref04.Name -/
def XU : ee := ⟨[.v (.ty .str)], .v (.ty .bool)⟩
def Yt : HT := (nx (.n (.j ⟨[(0, dS), (17, dB)], [], []⟩ (.r .x) aC) (.j ⟨[], [], []⟩ (nx (.u (.l ⟨[(0, dS), (3, dI)], [], []⟩ (.n aK (.n (.u (.j ⟨[(0, dS), (3, dI), (35, dB)], [], []⟩ (.r .x) aC)) (.r .x)))))) aG)))
noncomputable def Ms (z1 : Unit) : XB :=
 some (true, ())
noncomputable def FV (rc3 : Co → XB) (z4 : Au × Cd) : XB :=
 if z4.2.2.1 = true then some (false, ()) else rc3 (z4.1, IntKind.i64.wrap (z4.2.1 + 1), ())
noncomputable def yl (j2 : Unit → XB) (rc3 : Co → XB) (z3 : Co) : XB :=
 if decide (z3.2.1 < (↑z3.1.length : Int)) = true then
 aa (FV rc3) fun j5 =>
 if bt z3.2.1 z3.1.length = true then
 (JW (EZ z3.1 z3.2.1, ())).bind fun r6 =>
 if (!r6.1) = true then
 if bt z3.2.1 z3.1.length = true then (Si (EZ z3.1 z3.2.1, ())).bind fun r7 => j5 (z3.1, z3.2.1, !r7.1, ()) else none
 else j5 (z3.1, z3.2.1, false, ())
 else none
 else j2 ()
noncomputable def FU (fuel : Nat) (z0 : Au × Ab) : XB :=
 if z0.2.1 = true then some (false, ()) else aa Ms fun j2 => iter fuel (yl j2) (z0.1, 0, ())
noncomputable def Mr (fuel : Nat) (x0 : Au) : XB :=
 aa (FU fuel) fun j8 =>
 if decide ((↑x0.length : Int) < 1) = true then j8 (x0, true, ())
 else
 if decide (12 < (↑x0.length : Int)) = true then j8 (x0, true, ())
 else if bt 0 x0.length = true then (JW (EZ x0 0, ())).bind fun r9 => j8 (x0, !r9.1, ()) else none
noncomputable def Hy (x : Ce) : XB := Mr 100000 x.1
/-! 73 baggage/baggageref07.Exits -/
def ZU : ee := ⟨[.v (.ty (.int .i64))], .v (.ty (.int .i64))⟩
def h73 : HT := (nx (.n (nx (.u (.j ⟨[(3, dI), (4, dB)], [], []⟩ bD (.n aG (.j ⟨[(8, dB)], [], []⟩ aP aC))))) aG))
noncomputable def FX (z1 : Ab) : bu :=
 if z1.1 = true then some (0, ()) else some (1, ())
noncomputable def FW (z0 : Cd) : bu :=
 if z0.2.1 = true then some (2, ()) else aa FX fun j2 => if (z0.1 == 8) = true then j2 (z0.1 == 8, ()) else j2 (z0.1 == 9, ())
noncomputable def O8 (fuel : Nat) (x0 : Int) : bu :=
 aa FW fun j3 => if (x0 == 4) = true then j3 (x0, x0 == 4, ()) else if (x0 == 5) = true then j3 (x0, x0 == 5, ()) else j3 (x0, x0 == 6, ())
noncomputable def MX (x : Ac) : bu := O8 0 x.1
/-! 51 baggage/baggageref07.read -/
def XO : ee := ⟨[.v (.ty .str)], .cI [(.ag Tj), (.ty .bool)]⟩
def Yk : HT := (nx (nx (nx (.j ⟨[(2, .ref 1024 9), (4, bT), (5, .ref 1025 9)], [(1024, .box [.d .str, .d aB, .d aB, .d aB, .own 1026, .d aB, .d aB, .d aB, .own 1027]), (1025, .box [.d .str, .d aB, .d aB, .d aB, .own 1028, .d aB, .d aB, .d aB, .own 1029]), (1026, bG), (1027, bR), (1028, bG), (1029, bR)], []⟩ (nx (.u (.l ⟨[(2, .ref 1000 9), (4, bT), (5, .ref 1001 9), (6, dI)], [(1000, .box [.d .str, .d aB, .d aB, .d aB, .own 1002, .d aB, .d aB, .d aB, .own 1003]), (1001, .box [.d .str, .d aB, .d aB, .d aB, .own 1004, .d aB, .d aB, .d aB, .own 1005]), (1002, bG), (1003, bR), (1004, bG), (1005, bR)], []⟩ (.n (.j ⟨[(2, .ref 1006 9), (4, bT), (5, .ref 1007 9), (6, dI), (25, dB)], [(1006, .box [.d .str, .d aB, .d aB, .d aB, .own 1008, .d aB, .d aB, .d aB, .own 1009]), (1007, .box [.d .str, .d aB, .d aB, .d aB, .own 1010, .d aB, .d aB, .d aB, .own 1011]), (1008, bG), (1009, bR), (1010, bG), (1011, bR)], []⟩ (.r .x) aF) (.n (.u (nx (.j ⟨[(2, .ref 1012 9), (4, bT), (5, .ref 1013 9), (6, dI), (7, dI), (51, dB)], [(1012, .box [.d .str, .d aB, .d aB, .d aB, .own 1014, .d aB, .d aB, .d aB, .own 1015]), (1013, .box [.d .str, .d aB, .d aB, .d aB, .own 1016, .d aB, .d aB, .d aB, .own 1017]), (1014, bG), (1015, bR), (1016, bG), (1017, bR)], []⟩ (.r (.w 7 [(1, 0), (0, 1), (0, 2), (1, 4), (3, 3), (0, 5), (0, 6)])) (.n (.n (.r (.w 7 [(1, 0), (1, 1), (0, 2), (1, 3), (1, 4), (0, 5), (2, 6)])) aG) .e)))) (.r .x)))))) (.j ⟨[(2, .ref 1048 9), (4, bT), (5, .ref 1049 9)], [(1048, .box [.d .str, .d aB, .d aB, .d aB, .own 1050, .d aB, .d aB, .d aB, .own 1051]), (1049, .box [.d .str, .d aB, .d aB, .d aB, .own 1052, .d aB, .d aB, .d aB, .own 1053]), (1050, bG), (1051, bR), (1052, bG), (1053, bR)], []⟩ (nx (.u (.l ⟨[(2, .ref 1030 9), (4, bT), (5, .ref 1031 9), (9, dI)], [(1030, .box [.d .str, .d aB, .d aB, .d aB, .own 1032, .d aB, .d aB, .d aB, .own 1033]), (1031, .box [.d .str, .d aB, .d aB, .d aB, .own 1034, .d aB, .d aB, .d aB, .own 1035]), (1032, bG), (1033, bR), (1034, bG), (1035, bR)], []⟩ (.n aK (.j ⟨[(2, .ref 1036 9), (4, bT), (5, .ref 1037 9), (9, dI)], [(1036, .box [.d .str, .d aB, .d aB, .d aB, .own 1038, .d aB, .d aB, .d aB, .own 1039]), (1037, .box [.d .str, .d aB, .d aB, .d aB, .own 1040, .d aB, .d aB, .d aB, .own 1041]), (1038, bG), (1039, bR), (1040, bG), (1041, bR)], []⟩ (.u (.n (.r .q) aG)) (.r .x)))))) (nx (nx (.j ⟨[(2, .ref 1054 9), (4, bT), (5, .ref 1055 9), (10, dI), (11, dI), (12, dI)], [(1054, .box [.d .str, .d aB, .d aB, .d aB, .own 1056, .d aB, .d aB, .d aB, .own 1057]), (1055, .box [.d .str, .d aB, .d aB, .d aB, .own 1058, .d aB, .d aB, .d aB, .own 1059]), (1056, bG), (1057, bR), (1058, bG), (1059, bR)], []⟩ aO (.j ⟨[(2, .ref 1060 9), (4, bT), (5, .ref 1061 9), (10, dI), (11, dI), (12, dI)], [(1060, .box [.d .str, .d aB, .d aB, .d aB, .own 1062, .d aB, .d aB, .d aB, .own 1063]), (1061, .box [.d .str, .d aB, .d aB, .d aB, .own 1064, .d aB, .d aB, .d aB, .own 1065]), (1062, bG), (1063, bR), (1064, bG), (1065, bR)], []⟩ aO (.n (.j ⟨[(2, .ref 1066 9), (4, bT), (5, .ref 1067 9), (10, dI), (11, dI), (105, dB)], [(1066, .box [.d .str, .d aB, .d aB, .d aB, .own 1068, .d aB, .d aB, .d aB, .own 1069]), (1067, .box [.d .str, .d aB, .d aB, .d aB, .own 1070, .d aB, .d aB, .d aB, .own 1071]), (1068, bG), (1069, bR), (1070, bG), (1071, bR)], []⟩ (.r .x) aC) (nx (nx (.j ⟨[(2, .ref 1072 9), (4, bT), (5, .ref 1073 9), (10, dI), (11, dI), (13, dB)], [(1072, .box [.d .str, .d aB, .d aB, .d aB, .own 1074, .d aB, .d aB, .d aB, .own 1075]), (1073, .box [.d .str, .d aB, .d aB, .d aB, .own 1076, .d aB, .d aB, .d aB, .own 1077]), (1074, bG), (1075, bR), (1076, bG), (1077, bR)], []⟩ (nx (.n aT .e)) (nx (nx (.n (.j ⟨[(2, .ref 1078 9), (4, bT), (5, .ref 1079 9), (10, dI), (11, dI), (153, dB)], [(1078, .box [.d .str, .d aB, .d aB, .d aB, .own 1080, .d aB, .d aB, .d aB, .own 1081]), (1079, .box [.d .str, .d aB, .d aB, .d aB, .own 1082, .d aB, .d aB, .d aB, .own 1083]), (1080, bG), (1081, bR), (1082, bG), (1083, bR)], []⟩ (.r .x) aC) (.j ⟨[(2, .ref 1096 9), (5, .ref 1097 9)], [(1096, .box [.d .str, .d aB, .d aB, .d aB, .own 1098, .d aB, .d aB, .d aB, .own 1099]), (1097, .box [.d .str, .d aB, .d aB, .d aB, .own 1100, .d aB, .d aB, .d aB, .own 1101]), (1098, bG), (1099, bR), (1100, bG), (1101, bR)], []⟩ (nx (.u (.l ⟨[(2, .ref 1084 9), (4, bT), (5, .ref 1085 9), (10, dI), (11, dI), (16, dI)], [(1084, .box [.d .str, .d aB, .d aB, .d aB, .own 1086, .d aB, .d aB, .d aB, .own 1087]), (1085, .box [.d .str, .d aB, .d aB, .d aB, .own 1088, .d aB, .d aB, .d aB, .own 1089]), (1086, bG), (1087, bR), (1088, bG), (1089, bR)], []⟩ (.n aK (.n (.u (.n aL (.r (.w 10 [(0, 0), (0, 1), (1, 2), (1, 3), (1, 4), (1, 5), (1, 6), (0, 7), (0, 8), (3, 9)])))) (.r .x)))))) aG)))))))))))))))))
noncomputable def Jz (z10 : Ae) : An :=
 some
 (((z10.2.1.1, z10.2.1.2.1, z10.2.1.2.2.1, z10.2.1.2.2.2.1, z10.2.2.2.2.1, z10.2.1.2.2.2.2.1, z10.2.1.2.2.2.2.2.1, z10.2.1.2.2.2.2.2.2.1,
 z10.2.2.2.2.2),
 true, ()),
 ())
noncomputable def JD (j11 : Ae → An) (rc12 : B3 → An) (z12 : B3) : An :=
 if decide (z12.2.2.2.1 < z12.2.1) = true then
 if bt (IntKind.i64.wrap (IntKind.i64.wrap (z12.2.2.1 + 2) + z12.2.2.2.1)) z12.1.length = true then
 (Hy (bg ([], ()) z12.1 (IntKind.i64.wrap (IntKind.i64.wrap (z12.2.2.1 + 2) + z12.2.2.2.1)))).bind fun r13 =>
 if (!r13.1) = true then some ((([], 0, 0, 0, [], 0, 0, 0, [], ()), false, ()), ())
 else
 if bt (IntKind.i64.wrap (IntKind.i64.wrap (z12.2.2.1 + 2) + z12.2.2.2.1)) z12.1.length = true then
 if
 decide
 (z12.2.2.2.2.2.2.2.2.2.1.length + 1 ≤
 Abs.cj) =
 true then
 if
 decide
 ((z12.2.2.2.2.2.2.2.2.2.1.length +
 [bg ([], ()) z12.1 (IntKind.i64.wrap (IntKind.i64.wrap (z12.2.2.1 + 2) + z12.2.2.2.1))].length) *
 16 ≤
 Abs.cj) =
 true then
 rc12
 (z12.1, z12.2.1, z12.2.2.1, IntKind.i64.wrap (z12.2.2.2.1 + 1), z12.2.2.2.2.1, z12.2.2.2.2.2.1, z12.2.2.2.2.2.2.1,
 z12.2.2.2.2.2.2.2.1, z12.2.2.2.2.2.2.2.2.1,
 z12.2.2.2.2.2.2.2.2.2.1 ++ [bg ([], ()) z12.1 (IntKind.i64.wrap (IntKind.i64.wrap (z12.2.2.1 + 2) + z12.2.2.2.1))], ())
 else none
 else none
 else none
 else none
 else j11 z12.2.2.2.2
noncomputable def Me (fuel : Nat) (z9 : B0) : An :=
 if z9.2.2.2.1 = true then some ((([], 0, 0, 0, [], 0, 0, 0, [], ()), false, ()), ())
 else aa Jz fun j11 => iter fuel (JD j11) (z9.1, z9.2.1, z9.2.2.1, 0, z9.2.2.2.2)
noncomputable def Md (fuel : Nat) (z7 : B0) : An :=
 if bt z7.2.2.1 z7.1.length = true then
 (MW (bg ([], ()) z7.1 z7.2.2.1)).bind fun r8 =>
 aa (Me fuel) fun j14 =>
 if (!r8.1.2.1) = true then
 j14
 (z7.1, z7.2.1, z7.2.2.1, true, z7.2.2.2.2.1, (z7.2.2.2.2.2.1.1, z7.2.2.2.2.2.1.2.1, z7.2.2.2.2.2.1.2.2.1, r8.1.1, z7.2.2.2.2.2.1.2.2.2.2),
 z7.2.2.2.2.2.2)
 else
 if (!z7.2.2.2.1) = true then
 j14
 (z7.1, z7.2.1, z7.2.2.1, true, z7.2.2.2.2.1, (z7.2.2.2.2.2.1.1, z7.2.2.2.2.2.1.2.1, z7.2.2.2.2.2.1.2.2.1, r8.1.1, z7.2.2.2.2.2.1.2.2.2.2),
 z7.2.2.2.2.2.2)
 else
 if decide (0 < z7.2.1) = true then
 if bt (IntKind.i64.wrap (z7.2.2.1 + 1)) z7.1.length = true then
 j14
 (z7.1, z7.2.1, z7.2.2.1, !(bg ([], ()) z7.1 (IntKind.i64.wrap (z7.2.2.1 + 1))).1 == [62], z7.2.2.2.2.1,
 (z7.2.2.2.2.2.1.1, z7.2.2.2.2.2.1.2.1, z7.2.2.2.2.2.1.2.2.1, r8.1.1, z7.2.2.2.2.2.1.2.2.2.2), z7.2.2.2.2.2.2)
 else none
 else
 j14
 (z7.1, z7.2.1, z7.2.2.1, false, z7.2.2.2.2.1,
 (z7.2.2.2.2.2.1.1, z7.2.2.2.2.2.1.2.1, z7.2.2.2.2.2.1.2.2.1, r8.1.1, z7.2.2.2.2.2.1.2.2.2.2), z7.2.2.2.2.2.2)
 else none
noncomputable def Mc (fuel : Nat) (z6 : B0) : An :=
 if z6.2.2.2.1 = true then some ((([], 0, 0, 0, [], 0, 0, 0, [], ()), false, ()), ())
 else
 if bt 1 z6.1.length = true then
 aa (Md fuel) fun j15 =>
 (yH (z6.2.2.2.2.2.1.2.1, ())).bind fun r16 =>
 if r16.1 = true then
 if bt 2 z6.1.length = true then
 (MW (bg ([], ()) z6.1 2)).bind fun r17 =>
 j15
 (z6.1, z6.2.1, 3, r17.1.2.1, z6.2.2.2.2.1, ((bg ([], ()) z6.1 1).1, z6.2.2.2.2.2.1.2.1, r17.1.1, z6.2.2.2.2.2.1.2.2.2),
 z6.2.2.2.2.2.2)
 else none
 else j15 (z6.1, z6.2.1, z6.2.2.1, true, z6.2.2.2.2.1, ((bg ([], ()) z6.1 1).1, z6.2.2.2.2.2.1.2), z6.2.2.2.2.2.2)
 else none
noncomputable def Mb (fuel : Nat) (z5 : B3) : An :=
 aa (Mc fuel) fun j18 =>
 if (z5.2.2.2.2.2.1.2.1 == 0) = true then j18 (z5.1, z5.2.1, z5.2.2.1, true, z5.2.2.2.2)
 else
 if ((↑z5.1.length : Int) != z5.2.2.2.1) = true then j18 (z5.1, z5.2.1, z5.2.2.1, true, z5.2.2.2.2)
 else if bt 1 z5.1.length = true then (Hy (bg ([], ()) z5.1 1)).bind fun r19 => j18 (z5.1, z5.2.1, z5.2.2.1, !r19.1, z5.2.2.2.2) else none
noncomputable def Ma (fuel : Nat) (z4 : B3) : An :=
 aa (Mb fuel) fun j20 =>
 if decide (0 < z4.2.1) = true then j20 (z4.1, z4.2.1, z4.2.2.1, IntKind.i64.wrap (z4.2.2.2.1 + IntKind.i64.wrap (1 + z4.2.1)), z4.2.2.2.2)
 else j20 z4
noncomputable def L9 (fuel : Nat) (z2 : A3 × Ae) : An :=
 (MX (z2.2.2.1.2.1, ())).bind fun r3 =>
 aa (Ma fuel) fun j21 =>
 (yH (z2.2.2.1.2.1, ())).bind fun r22 => if r22.1 = true then j21 (z2.1, r3.1, 2, 4, z2.2) else j21 (z2.1, r3.1, 2, 3, z2.2)
noncomputable def JA (rc24 : Bu → An) (z25 : Bu) : An :=
 rc24 (z25.1, IntKind.i64.wrap (z25.2.1 + 1), z25.2.2)
noncomputable def JE (j23 : A3 × Ae → An) (rc24 : Bu → An) (z24 : Bu) : An :=
 if decide (z24.2.1 ≤ 9) = true then
 aa (JA rc24) fun j26 =>
 if
 bt z24.2.1
 [([], ()), ([101, 110, 116, 114, 121], ()), ([98, 101, 108, 116], ()), ([115, 99, 114, 101, 101, 110], ()),
 ([100, 105, 118, 101, 114, 116, 101, 114], ()), ([108, 111, 111, 112], ()), ([103, 97, 116, 101], ()),
 ([115, 116, 111, 114, 101], ()), ([99, 104, 117, 116, 101], ()), ([109, 97, 110, 117, 97, 108], ())].length =
 true then
 if bt 0 z24.1.length = true then
 if
 ((bg ([], ())
 [([], ()), ([101, 110, 116, 114, 121], ()), ([98, 101, 108, 116], ()), ([115, 99, 114, 101, 101, 110], ()),
 ([100, 105, 118, 101, 114, 116, 101, 114], ()), ([108, 111, 111, 112], ()), ([103, 97, 116, 101], ()),
 ([115, 116, 111, 114, 101], ()), ([99, 104, 117, 116, 101], ()), ([109, 97, 110, 117, 97, 108], ())]
 z24.2.1).1 ==
 (bg ([], ()) z24.1 0).1) =
 true then
 j26 (z24.1, z24.2.1, z24.2.2.1, (z24.2.2.2.1.1, z24.2.1, z24.2.2.2.1.2.2), z24.2.2.2.2)
 else j26 z24
 else none
 else none
 else j23 (z24.1, z24.2.2)
noncomputable def L8 (fuel : Nat) (z1 : A3 × Ae) : An :=
 aa (L9 fuel) fun j23 => iter fuel (JE j23) (z1.1, 1, z1.2)
noncomputable def JC (rc28 : Bu → An) (z31 : B0) : An :=
 if z31.2.2.2.1 = true then
 if fa 1 2 z31.1.length = true then
 some
 (((z31.2.2.2.2.2.1.1, z31.2.2.2.2.2.1.2.1, z31.2.2.2.2.2.1.2.2.1, z31.2.2.2.2.2.1.2.2.2.1, z31.2.2.2.2.2.2.2.2.1, z31.2.1, 0, z31.2.2.1,
 ig z31.1 1 2, ()),
 true, ()),
 ())
 else none
 else rc28 (z31.1, IntKind.i64.wrap (z31.2.1 + 1), z31.2.2.2.2)
noncomputable def JB (j27 : A3 × Ae → An) (rc28 : Bu → An) (z29 : A3 × Int × Bool × Ae) : An :=
 if z29.2.2.1 = true then
 if bt 2 z29.1.length = true then
 (MW (bg ([], ()) z29.1 2)).bind fun r30 =>
 aa (JC rc28) fun j32 =>
 if bt 0 z29.1.length = true then
 if bt z29.2.1 [([], ()), ([112, 104, 111, 116, 111, 99, 101, 108, 108], ()), ([115, 99, 97, 110, 110, 101, 114], ())].length = true then
 if
 decide
 (z29.2.1.toNat + 1 ≤
 [([], ()), ([112, 104, 111, 116, 111, 99, 101, 108, 108], ()), ([115, 99, 97, 110, 110, 101, 114], ())].length) =
 true then
 if
 ((bg ([], ()) z29.1 0).1 ==
 ([([], ()), ([112, 104, 111, 116, 111, 99, 101, 108, 108], ()), ([115, 99, 97, 110, 110, 101, 114], ())].getD z29.2.1.toNat
 ([], ())).1) =
 true then
 if r30.1.2.1 = true then
 if bt 1 z29.1.length = true then (Hy (bg ([], ()) z29.1 1)).bind fun r33 => j32 (z29.1, z29.2.1, r30.1.1, r33.1, z29.2.2.2)
 else none
 else j32 (z29.1, z29.2.1, r30.1.1, false, z29.2.2.2)
 else j32 (z29.1, z29.2.1, r30.1.1, false, z29.2.2.2)
 else none
 else none
 else none
 else none
 else j27 (z29.1, z29.2.2.2)
noncomputable def JF (j27 : A3 × Ae → An) (rc28 : Bu → An) (z28 : Bu) : An :=
 aa (JB j27 rc28) fun j34 =>
 if decide (z28.2.1 ≤ 2) = true then j34 (z28.1, z28.2.1, (↑z28.1.length : Int) == 3, z28.2.2) else j34 (z28.1, z28.2.1, false, z28.2.2)
noncomputable def R7 (fuel : Nat) (x0 : Au) : An :=
 (Ps (x0, 32, ())).bind fun r0 =>
 aa (L8 fuel) fun j27 => iter fuel (JF j27) (r0.1, 1, ([], 0, 0, 0, 0, 0, 0, ()), ([], 0, 0, 0, 0, 0, 0, ()), [], [], [], [], ())
noncomputable def Se (x : Ce) : An := R7 100000 x.1
/-! 52 baggage/baggageref07.Find -/
def XP : ee := ⟨[.v (.ag ka), .v (.ty .str)], .v (.ty (.int .i64))⟩
def Yl : HT := (nx (.j ⟨[], [], []⟩ (nx (.u (.l ⟨[(1, dS), (2, bO), (5, dI)], [(1000, bI)], []⟩ bC))) aG))
noncomputable def Fy (z0 : Unit) : bu :=
 some (-1, ())
noncomputable def sK (j1 : Unit → bu) (rc2 : Au × Ai → bu) (z2 : Au × Ai) : bu :=
 if decide (z2.2.1 < (↑z2.2.2.1.1.length : Int)) = true then
 if bt z2.2.1 z2.2.2.1.1.length = true then
 if ((bg ([], 0, 0, 0, [], ()) z2.2.2.1.1 z2.2.1).1 == z2.1) = true then some (z2.2.1, ()) else rc2 (z2.1, IntKind.i64.wrap (z2.2.1 + 1), z2.2.2)
 else none
 else j1 ()
noncomputable def Mf (fuel : Nat) (x0 : ez) (x1 : Au) : bu :=
 aa Fy fun j1 => iter fuel (sK j1) (x1, 0, x0, ())
noncomputable def MO (x : ez × Ce) : bu := Mf 100000 x.1 x.2.1
/-! 77 baggage/baggageref07.in -/
def ZV : ee := ⟨[.v (.ty (.int .i64)), .v (.ty (.int .i64)), .v (.ty (.int .i64))], .v (.ty .bool)⟩
def h77 : HT := a9
noncomputable def F2 (z0 : Ab) : XB :=
 some z0
noncomputable def O9 (fuel : Nat) (x0 : Int) (x1 : Int) (x2 : Int) : XB :=
 aa F2 fun j1 => if decide (x1 ≤ x0) = true then j1 (decide (x0 ≤ x2), ()) else j1 (false, ())
noncomputable def BD (x : Int × A9) : XB := O9 0 x.1 x.2.1 x.2.2.1
/-! 74 baggage/baggageref07.node -/
def XV : ee := ⟨[.v (.ag ka), .v (.ty (.int .i64))], .v (.ty (.int .i64))⟩
def Yu : HT := (nx (nx (.n aL (.n aL (nx (.j ⟨[(1, dI), (2, bO), (5, dJ), (6, dI), (7, dI)], [(1000, bI), (1001, bQ)], []⟩ aO (.j ⟨[(1, dI), (2, bV), (5, .ref 1003 5), (6, dI), (7, dI)], [(1002, bI), (1003, bQ)], []⟩ aO (.n (.j ⟨[(1, dI), (2, bX), (5, .ref 1005 5), (49, dB)], [(1004, bI), (1005, bQ)], []⟩ (.r .q) aC) (.j ⟨[(5, .ref 1014 5)], [(1014, bQ)], []⟩ (nx (.u (.l ⟨[(1, dI), (2, bZ), (5, .ref 1007 5), (8, dI)], [(1006, bI), (1007, bQ)], []⟩ (.n aK (.n (.u (.j ⟨[(1, dI), (2, dA), (5, .ref 1009 5), (8, dI), (9, dB)], [(1008, bI), (1009, bQ)], []⟩ (.r .x) (.j ⟨[(1, dI), (2, dR), (5, .ref 1011 5), (8, dI), (85, dB)], [(1010, bI), (1011, bQ)], []⟩ (.r .q) aC))) (.r .x)))))) (.n (.j ⟨[(100, dB)], [], []⟩ (.r .q) aC) aG))))))))))
noncomputable def FY (z6 : Ab) : bu :=
 if z6.1 = true then some (1, ()) else some (0, ())
noncomputable def tf (z5 : Bw) : bu :=
 aa FY fun j7 =>
 if ((↑z5.1.2.2.2.2.1.length : Int) == 2) = true then
 if bt 0 z5.1.2.2.2.2.1.length = true then
 if bt 1 z5.1.2.2.2.2.1.length = true then j7 ((bg (0, ()) z5.1.2.2.2.2.1 0).1 == (bg (0, ()) z5.1.2.2.2.2.1 1).1, ()) else none
 else none
 else j7 (false, ())
noncomputable def AS (rc9 : Ao → bu) (z11 : Cw) : bu :=
 if z11.2.2.1 = true then some (1, ()) else rc9 (z11.1, IntKind.i64.wrap (z11.2.1 + 1), z11.2.2.2)
noncomputable def vk (rc9 : Ao → bu) (z10 : Cw) : bu :=
 aa (AS rc9) fun j12 =>
 if bt z10.2.1 z10.2.2.2.2.1.2.2.2.2.1.length = true then
 (BD ((bg (0, ()) z10.2.2.2.2.1.2.2.2.2.1 z10.2.1).1, 0, IntKind.i64.wrap ((↑z10.2.2.2.1.1.length : Int) - 1), ())).bind fun r13 =>
 if (!r13.1) = true then j12 (z10.1, z10.2.1, true, z10.2.2.2)
 else
 if bt z10.2.1 z10.2.2.2.2.1.2.2.2.2.1.length = true then
 j12 (z10.1, z10.2.1, !((bg (0, ()) z10.2.2.2.2.1.2.2.2.2.1 z10.2.1).1 == z10.1) == z10.2.2.1, z10.2.2.2)
 else none
 else none
noncomputable def tg (j8 : Bw → bu) (rc9 : Ao → bu) (z9 : Ao) : bu :=
 if decide (z9.2.1 < (↑z9.2.2.2.1.2.2.2.2.1.length : Int)) = true then
 aa (vk rc9) fun j14 => if (z9.2.2.2.1.2.1 == 5) = true then j14 (z9.1, z9.2.1, z9.2.1 == 0, z9.2.2) else j14 (z9.1, z9.2.1, false, z9.2.2)
 else j8 z9.2.2.2
noncomputable def yo (fuel : Nat) (z4 : A2) : bu :=
 if z4.2.1 = true then some (1, ()) else aa tf fun j8 => iter fuel (tg j8) (z4.1, 0, z4.2.2)
noncomputable def yn (fuel : Nat) (z3 : Int × Ao) : bu :=
 aa (yo fuel) fun j15 =>
 (BD (z3.2.2.2.2.1.2.2.1, z3.2.1, z3.2.2.1, ())).bind fun r16 =>
 if (!r16.1) = true then j15 (z3.1, true, z3.2.2.2)
 else
 (BD (z3.2.2.2.2.1.2.2.2.1, 0, 1, ())).bind fun r17 =>
 if (!r17.1) = true then j15 (z3.1, true, z3.2.2.2)
 else (MX (z3.2.2.2.2.1.2.1, ())).bind fun r18 => j15 (z3.1, (↑z3.2.2.2.2.1.2.2.2.2.1.length : Int) != r18.1, z3.2.2.2)
noncomputable def ym (fuel : Nat) (z2 : Int × Ao) : bu :=
 aa (yn fuel) fun j19 => if (z2.2.2.2.2.1.2.1 == 5) = true then j19 (z2.1, 2, z2.2.2) else j19 z2
noncomputable def Mt (fuel : Nat) (x0 : ez) (x1 : Int) : bu :=
 if bt x1 x0.1.length = true then
 (Hy ((bg ([], 0, 0, 0, [], ()) x0.1 x1).1, ())).bind fun r0 =>
 if (!r0.1) = true then some (3, ())
 else
 (BD ((bg ([], 0, 0, 0, [], ()) x0.1 x1).2.1, 1, 9, ())).bind fun r1 =>
 if (!r1.1) = true then some (4, ())
 else
 aa (ym fuel) fun j20 =>
 (yH ((bg ([], 0, 0, 0, [], ()) x0.1 x1).2.1, ())).bind fun r21 =>
 if r21.1 = true then j20 (x1, 1, 8, x0, bg ([], 0, 0, 0, [], ()) x0.1 x1, ())
 else j20 (x1, 0, 0, x0, bg ([], 0, 0, 0, [], ()) x0.1 x1, ())
 else none
noncomputable def Pw (x : Cv) : bu := Mt 100000 x.1 x.2.1
/-! 75 baggage/baggageref07.total -/
def XW : ee := ⟨[.v (.ag ka)], .v (.ty (.int .i64))⟩
def Yv : HT := (nx (nx (.j ⟨[(3, dI)], [], []⟩ (nx (.u (.l ⟨[(1, bO), (3, dI), (4, dI)], [(1000, bI)], []⟩ aU))) aG)))
noncomputable def FZ (z0 : Ac) : bu :=
 some z0
noncomputable def th (j1 : Ac → bu) (rc2 : A8 → bu) (z2 : A8) : bu :=
 if decide (z2.2.1 < (↑z2.2.2.1.1.length : Int)) = true then
 if bt z2.2.1 z2.2.2.1.1.length = true then
 rc2 (IntKind.i64.wrap (z2.1 + (bg ([], 0, 0, 0, [], ()) z2.2.2.1.1 z2.2.1).2.2.1), IntKind.i64.wrap (z2.2.1 + 1), z2.2.2)
 else none
 else j1 (z2.1, ())
noncomputable def Mu (fuel : Nat) (x0 : ez) : bu :=
 aa FZ fun j1 => iter fuel (th j1) (0, 0, x0, ())
noncomputable def Px (x : A5) : bu := Mu 100000 x.1
/-! 76 baggage/baggageref07.zoned -/
def XX : ee := ⟨[.v (.ag ka)], .v (.ty .bool)⟩
def Yw : HT := (nx (.j ⟨[], [], []⟩ (nx (.u (.l ⟨[(1, bO), (3, dI)], [(1000, bI)], []⟩ (.n aK (.j ⟨[(1, dU), (3, dI)], [(1019, bI)], []⟩ (.u (nx (.j ⟨[(1, bY), (3, dI), (4, .ref 1002 5), (5, dB)], [(1001, bI), (1002, bQ)], []⟩ (.r .x) (.j ⟨[(1, dC), (3, dI), (4, .ref 1004 5), (5, dB), (6, dB)], [(1003, bI), (1004, bQ)], []⟩ (.r .x) (.n (.j ⟨[(1, dO), (3, dI), (4, .ref 1006 5), (56, dB)], [(1005, bI), (1006, bQ)], []⟩ (.r .x) aC) (nx (.u (.l ⟨[(1, dK), (3, dI), (4, .ref 1008 5), (7, dI)], [(1007, bI), (1008, bQ)], []⟩ (.n aK (.n (.u (.n (.r (.da 9)) (nx (.j ⟨[(1, dP), (3, dI), (4, .ref 1013 5), (7, dI), (8, .ref 1014 5), (9, dI)], [(1012, bI), (1013, bQ), (1014, bQ)], []⟩ (.j ⟨[(1, dT), (3, dI), (4, .ref 1010 5), (7, dI), (8, .ref 1011 5), (9, dI), (81, dB)], [(1009, bI), (1010, bQ), (1011, bQ)], []⟩ (.r .x) aG) (.j ⟨[(1, dV), (3, dI), (4, .ref 1016 5), (7, dI), (90, dB)], [(1015, bI), (1016, bQ)], []⟩ (.r .x) aC))))) (.r .x))))))))))) (.r .x)))))) aG))
noncomputable def F0 (z0 : Unit) : XB :=
 some (true, ())
noncomputable def jH (rc2 : Ai → XB) (z3 : Ai) : XB :=
 rc2 (IntKind.i64.wrap (z3.1 + 1), z3.2)
noncomputable def AU (rc8 : Ao → XB) (z10 : Cw) : XB :=
 if z10.2.2.1 = true then some (false, ()) else rc8 (z10.1, IntKind.i64.wrap (z10.2.1 + 1), z10.2.2.2)
noncomputable def yr (rc8 : Ao → XB) (z9 : Cx) : XB :=
 aa (AU rc8) fun j11 =>
 if (z9.2.2.2.2.2.1.2.1 == 1) = true then j11 (z9.1, z9.2.1, true, z9.2.2.2.1, z9.2.2.2.2.1, ())
 else j11 (z9.1, z9.2.1, z9.2.2.2.2.2.1.2.2.2.1 != z9.2.2.1, z9.2.2.2.1, z9.2.2.2.2.1, ())
noncomputable def AW (j12 : Cx → XB) (z13 : Int × Int × Int × Bool × ez × tF × Bw) : XB :=
 if z13.2.2.2.1 = true then j12 (z13.1, z13.2.1, 1, z13.2.2.2.2) else j12 (z13.1, z13.2.1, z13.2.2.1, z13.2.2.2.2)
noncomputable def tm (j4 : Ai → XB) (rc8 : Ao → XB) (z8 : Ao) : XB :=
 if decide (z8.2.1 < (↑z8.2.2.2.1.2.2.2.2.1.length : Int)) = true then
 if bt z8.2.1 z8.2.2.2.1.2.2.2.2.1.length = true then
 if bt (bg (0, ()) z8.2.2.2.1.2.2.2.2.1 z8.2.1).1 z8.2.2.1.1.length = true then
 aa (yr rc8) fun j12 =>
 aa (AW j12) fun j14 =>
 if (z8.2.2.2.1.2.1 == 6) = true then
 j14
 (z8.1, z8.2.1, z8.2.2.2.1.2.2.2.1, z8.2.1 == 1, z8.2.2.1, z8.2.2.2.1,
 bg ([], 0, 0, 0, [], ()) z8.2.2.1.1 (bg (0, ()) z8.2.2.2.1.2.2.2.2.1 z8.2.1).1, ())
 else
 j14
 (z8.1, z8.2.1, z8.2.2.2.1.2.2.2.1, false, z8.2.2.1, z8.2.2.2.1,
 bg ([], 0, 0, 0, [], ()) z8.2.2.1.1 (bg (0, ()) z8.2.2.2.1.2.2.2.2.1 z8.2.1).1, ())
 else none
 else none
 else j4 (z8.1, z8.2.2.1, ())
noncomputable def pT (fuel : Nat) (j4 : Ai → XB) (z7 : A2) : XB :=
 if z7.2.1 = true then some (false, ()) else iter fuel (tm j4) (z7.1, 0, z7.2.2)
noncomputable def yq (fuel : Nat) (j4 : Ai → XB) (z6 : Int × Bool × Bool × ez × Bw) : XB :=
 aa (pT fuel j4) fun j15 =>
 if z6.2.1 = true then
 if (z6.2.2.2.2.1.2.2.2.1 != 0) = true then j15 (z6.1, true, z6.2.2.2)
 else if z6.2.2.1 = true then j15 (z6.1, z6.2.2.2.2.1.2.2.2.1 != 1, z6.2.2.2) else j15 (z6.1, false, z6.2.2.2)
 else if z6.2.2.1 = true then j15 (z6.1, z6.2.2.2.2.1.2.2.2.1 != 1, z6.2.2.2) else j15 (z6.1, false, z6.2.2.2)
noncomputable def yp (fuel : Nat) (j4 : Ai → XB) (z5 : A2) : XB :=
 aa (yq fuel j4) fun j16 =>
 if (z5.2.2.2.1.2.1 == 7) = true then j16 (z5.1, z5.2.1, true, z5.2.2) else j16 (z5.1, z5.2.1, z5.2.2.2.1.2.1 == 8, z5.2.2)
noncomputable def ti (fuel : Nat) (j1 : Unit → XB) (rc2 : Ai → XB) (z2 : Ai) : XB :=
 if decide (z2.1 < (↑z2.2.1.1.length : Int)) = true then
 aa (jH rc2) fun j4 =>
 if bt z2.1 z2.2.1.1.length = true then
 aa (yp fuel j4) fun j17 =>
 if ((bg ([], 0, 0, 0, [], ()) z2.2.1.1 z2.1).2.1 == 1) = true then j17 (z2.1, true, z2.2.1, bg ([], 0, 0, 0, [], ()) z2.2.1.1 z2.1, ())
 else
 if ((bg ([], 0, 0, 0, [], ()) z2.2.1.1 z2.1).2.1 == 3) = true then j17 (z2.1, true, z2.2.1, bg ([], 0, 0, 0, [], ()) z2.2.1.1 z2.1, ())
 else j17 (z2.1, (bg ([], 0, 0, 0, [], ()) z2.2.1.1 z2.1).2.1 == 6, z2.2.1, bg ([], 0, 0, 0, [], ()) z2.2.1.1 z2.1, ())
 else none
 else j1 ()
noncomputable def Mv (fuel : Nat) (x0 : ez) : XB :=
 aa F0 fun j1 => iter fuel (ti fuel j1) (0, x0, ())
noncomputable def Py (x : A5) : XB := Mv 100000 x.1
/-! 78 baggage/baggageref07.Leads -/
def ZW : ee := ⟨[.v (.ag ka), .v (.ty (.int .i64)), .v (.ty (.int .i64))], .v (.ty .bool)⟩
def h78 : HT := a9
noncomputable def F3 (z0 : Ab) : XB :=
 some z0
noncomputable def Pa (fuel : Nat) (x0 : ez) (x1 : Int) (x2 : Int) : XB :=
 aa F3 fun j1 =>
 if (x1 != x2) = true then
 if bt x1 x0.1.length = true then (yI ((bg ([], 0, 0, 0, [], ()) x0.1 x1).2.2.2.2.1, x2, ())).bind fun r2 => j1 r2 else none
 else j1 (false, ())
noncomputable def Pz (x : ez × A9) : XB := Pa 0 x.1 x.2.1 x.2.2.1
/-! 56 baggage/baggageref07.order -/
def XS : ee := ⟨[.v (.ag ka)], .own (.cons (.int .i64) .nil)⟩
def Yn : HT := (nx (nx (.j ⟨[(3, .own 1022)], [(1022, bG)], []⟩ (.u (.l ⟨[(1, bO), (3, dE)], [(1000, bI), (1001, bG)], []⟩ (.n aK (.u (nx (.j ⟨[(1, dN), (3, .own 1019), (4, dI)], [(1018, bI), (1019, bG)], []⟩ (nx (.u (.l ⟨[(1, bV), (3, dD), (4, dI), (5, dI)], [(1002, bI), (1003, bG)], []⟩ (.n aK (.j ⟨[(1, dF), (3, .own 1015), (4, dI), (5, dI)], [(1014, bI), (1015, bG)], []⟩ (.u (nx (.j ⟨[(1, dP), (3, .own 1013), (4, dI), (5, dI), (6, dB)], [(1012, bI), (1013, bG)], []⟩ (nx (.u (.l ⟨[(1, bX), (3, .own 1005), (4, dI), (5, dI), (6, dB), (7, dI)], [(1004, bI), (1005, bG)], []⟩ (.n aK (.j ⟨[(1, dA), (3, .own 1009), (4, dI), (5, dI), (6, dB), (7, dI)], [(1008, bI), (1009, bG)], []⟩ (.u (.j ⟨[(1, bZ), (3, .own 1007), (4, dI), (5, dI), (6, dB), (7, dI), (42, dB)], [(1006, bI), (1007, bG)], []⟩ (.r .x) aG)) (.r .x)))))) aO))) (.r .x)))))) (.n aL (.r .x)))))))) aG)))
noncomputable def FC (z0 : Ar) : fN :=
 some z0
noncomputable def pJ (rc2 : Bb → fN) (z3 : Int × Bb) : fN :=
 if decide (z3.1 < 0) = true then some z3.2.2
 else
 if decide (z3.2.2.1.length + 1 ≤ Abs.cj) = true then
 if decide ((z3.2.2.1.length + 1) * 8 ≤ Abs.cj) = true then rc2 (z3.2.1, z3.2.2.1 ++ [(z3.1, ())], ()) else none
 else none
noncomputable def sP (rc5 : Cf → fN) (z6 : Cf) : fN :=
 rc5 (z6.1, IntKind.i64.wrap (z6.2.1 - 1), z6.2.2)
noncomputable def sQ (j7 : Cf → fN) (z9 : Int × C4) : fN :=
 if z9.2.2.1 = true then j7 (z9.2.1, z9.2.1, z9.2.2.2) else j7 (z9.1, z9.2.1, z9.2.2.2)
noncomputable def pI (rc11 : Bo → fN) (z12 : Bo) : fN :=
 rc11 (z12.1, z12.2.1, z12.2.2.1, IntKind.i64.wrap (z12.2.2.2.1 + 1), z12.2.2.2.2)
noncomputable def vg (j13 : Bo → fN) (z14 : Int × Int × Bool × C4) : fN :=
 if z14.2.2.2.2.1 = true then j13 (z14.1, z14.2.1, false, z14.2.2.2.1, z14.2.2.2.2.2) else j13 (z14.1, z14.2.1, z14.2.2.1, z14.2.2.2.1, z14.2.2.2.2.2)
noncomputable def pK (j10 : Int × C4 → fN) (rc11 : Bo → fN) (z11 : Bo) : fN :=
 if decide (z11.2.2.2.1 < (↑z11.2.2.2.2.1.1.length : Int)) = true then
 aa (pI rc11) fun j13 =>
 aa (vg j13) fun j15 =>
 (Pz (z11.2.2.2.2.1, z11.2.2.2.1, z11.2.1, ())).bind fun r16 =>
 if r16.1 = true then
 (yI (z11.2.2.2.2.2.1, z11.2.2.2.1, ())).bind fun r17 => j15 (z11.1, z11.2.1, z11.2.2.1, z11.2.2.2.1, !r17.1, z11.2.2.2.2)
 else j15 (z11.1, z11.2.1, z11.2.2.1, z11.2.2.2.1, false, z11.2.2.2.2)
 else j10 (z11.1, z11.2.1, z11.2.2.1, z11.2.2.2.2)
noncomputable def sT (fuel : Nat) (j4 : Int × Bb → fN) (rc5 : Cf → fN) (z5 : Cf) : fN :=
 if decide (0 ≤ z5.2.1) = true then
 aa (sP rc5) fun j7 =>
 (yI (z5.2.2.2.1, z5.2.1, ())).bind fun r8 => aa (sQ j7) fun j10 => iter fuel (pK j10) (z5.1, z5.2.1, !r8.1, 0, z5.2.2)
 else j4 (z5.1, z5.2.2)
noncomputable def sS (fuel : Nat) (j1 : Ar → fN) (rc2 : Bb → fN) (z2 : Bb) : fN :=
 if decide ((↑z2.2.1.length : Int) < (↑z2.1.1.length : Int)) = true then
 aa (pJ rc2) fun j4 => iter fuel (sT fuel j4) (-1, IntKind.i64.wrap ((↑z2.1.1.length : Int) - 1), z2)
 else j1 z2.2
noncomputable def Mk (fuel : Nat) (x0 : ez) : fN :=
 aa FC fun j1 => iter fuel (sS fuel j1) (x0, [], ())
noncomputable def MQ (x : A5) : fN := Mk 100000 x.1
/-! 53 baggage/baggageref07.Validate -/
def XQ : ee := ⟨[.v (.ag ka)], .v (.ty (.int .i64))⟩
def Ym : HT := (nx (.n (.j ⟨[(1, bO), (20, dB)], [(1000, bI)], []⟩ (.r .x) aC) (nx (.j ⟨[(1, bX), (3, dI)], [(1004, bI)], []⟩ (nx (.u (.l ⟨[(1, bY), (3, dI), (4, dI)], [(1001, bI)], []⟩ (.n aK (.j ⟨[(1, bV), (3, dI), (4, dI)], [(1002, bI)], []⟩ (.u (.n bF aO)) (.r .x)))))) (.n aL (.j ⟨[(1, dK), (3, dI)], [(1007, bI)], []⟩ (nx (.u (.l ⟨[(1, dO), (3, dI), (6, dI)], [(1005, bI)], []⟩ aN))) (.n aL (.n aV (.j ⟨[(1, .ref 1013 2), (3, dI)], [(1013, bI)], []⟩ (nx (.u (.l ⟨[(1, dA), (3, dI), (7, dI)], [(1008, bI)], []⟩ (.n aK (.n (.u (nx (.n (.j ⟨[(1, dT), (3, dI), (7, dI), (8, .ref 1010 3), (92, dB)], [(1009, bI), (1010, dH)], []⟩ (.r .x) aC) (.j ⟨[(1, .ref 1011 2), (3, dI), (7, dI), (114, dB)], [(1011, bI)], []⟩ (.r .q) aC)))) (.r .x)))))) (.j ⟨[(3, dI)], [], []⟩ (nx (.u (.l ⟨[(1, dF), (3, dI), (9, dI)], [(1014, bI)], []⟩ (.n aK (.j ⟨[(1, dM), (3, dI), (9, dI)], [(1017, bI)], []⟩ (.u (nx (.u (.l ⟨[(1, dV), (3, dI), (9, dI), (10, dI)], [(1015, bI)], []⟩ aN)))) (.r .x)))))) aW))))))))))
noncomputable def yh (z7 : Ac) : bu :=
 if (z7.1 == 0) = true then some (6, ()) else some (0, ())
noncomputable def ve (rc9 : A8 → bu) (z10 : A8) : bu :=
 rc9 (z10.1, IntKind.i64.wrap (z10.2.1 + 1), z10.2.2)
noncomputable def pE (j11 : A8 → bu) (rc12 : Int × A8 → bu) (z12 : Int × A8) : bu :=
 if decide (z12.2.2.1 < z12.2.1) = true then
 if bt z12.2.1 z12.2.2.2.1.2.1.length = true then
 if bt z12.2.2.1 z12.2.2.2.1.2.1.length = true then
 if
 ((bg (0, 0, 0, ()) z12.2.2.2.1.2.1 z12.2.1).1 == (bg (0, 0, 0, ()) z12.2.2.2.1.2.1 z12.2.2.1).1 &&
 ((bg (0, 0, 0, ()) z12.2.2.2.1.2.1 z12.2.1).2.1 == (bg (0, 0, 0, ()) z12.2.2.2.1.2.1 z12.2.2.1).2.1 &&
 ((bg (0, 0, 0, ()) z12.2.2.2.1.2.1 z12.2.1).2.2.1 == (bg (0, 0, 0, ()) z12.2.2.2.1.2.1 z12.2.2.1).2.2.1 && true))) =
 true then
 some (5, ())
 else rc12 (z12.1, z12.2.1, IntKind.i64.wrap (z12.2.2.1 + 1), z12.2.2.2)
 else none
 else none
 else j11 (z12.1, z12.2.1, z12.2.2.2)
noncomputable def sN (fuel : Nat) (j8 : Ac → bu) (rc9 : A8 → bu) (z9 : A8) : bu :=
 if decide (z9.2.1 < (↑z9.2.2.1.2.1.length : Int)) = true then aa (ve rc9) fun j11 => iter fuel (pE j11) (z9.1, z9.2.1, 0, z9.2.2)
 else j8 (z9.1, ())
noncomputable def sM (fuel : Nat) (z6 : Ai) : bu :=
 aa yh fun j8 => iter fuel (sN fuel j8) (z6.1, 0, z6.2)
noncomputable def AP (rc14 : A8 → bu) (z16 : Int × Int × C0) : bu :=
 if z16.2.2.1 = true then some (1, ()) else rc14 (z16.1, IntKind.i64.wrap (z16.2.1 + 1), z16.2.2.2)
noncomputable def vf (rc14 : A8 → bu) (z15 : Int × Ck) : bu :=
 if z15.2.2.1 = true then some (4, ())
 else
 aa (AP rc14) fun j17 =>
 (BD (z15.2.2.2.2.1.2.1, 0, IntKind.i64.wrap ((↑z15.2.2.2.1.1.length : Int) - 1), ())).bind fun r18 =>
 if (!r18.1) = true then j17 (z15.1, z15.2.1, true, z15.2.2.2.1, ())
 else
 if bt z15.2.2.2.2.1.2.1 z15.2.2.2.1.1.length = true then
 (BD (z15.2.2.2.2.1.2.2.1, 0, IntKind.i64.wrap ((bg ([], 0, 0, 0, [], ()) z15.2.2.2.1.1 z15.2.2.2.2.1.2.1).2.2.1 - 1), ())).bind
 fun r19 => j17 (z15.1, z15.2.1, !r19.1, z15.2.2.2.1, ())
 else none
noncomputable def pF (j13 : Ai → bu) (rc14 : A8 → bu) (z14 : A8) : bu :=
 if decide (z14.2.1 < (↑z14.2.2.1.2.1.length : Int)) = true then
 if bt z14.2.1 z14.2.2.1.2.1.length = true then
 aa (vf rc14) fun j20 =>
 if ((bg (0, 0, 0, ()) z14.2.2.1.2.1 z14.2.1).1 != 1) = true then
 j20 (z14.1, z14.2.1, (bg (0, 0, 0, ()) z14.2.2.1.2.1 z14.2.1).1 != 2, z14.2.2.1, bg (0, 0, 0, ()) z14.2.2.1.2.1 z14.2.1, ())
 else j20 (z14.1, z14.2.1, false, z14.2.2.1, bg (0, 0, 0, ()) z14.2.2.1.2.1 z14.2.1, ())
 else none
 else j13 (z14.1, z14.2.2)
noncomputable def sL (fuel : Nat) (z3 : Ai) : bu :=
 (Py z3.2).bind fun r4 =>
 if (!r4.1) = true then some (7, ())
 else
 (MQ z3.2).bind fun r5 =>
 if decide ((↑r5.1.length : Int) < (↑z3.2.1.1.length : Int)) = true then some (9, ())
 else aa (sM fuel) fun j13 => iter fuel (pF j13) (z3.1, 0, z3.2)
noncomputable def pG (j21 : Ai → bu) (rc22 : A8 → bu) (z22 : A8) : bu :=
 if decide (z22.2.1 < (↑z22.2.2.1.1.length : Int)) = true then
 if bt z22.2.1 z22.2.2.1.1.length = true then
 (MO (z22.2.2.1, (bg ([], 0, 0, 0, [], ()) z22.2.2.1.1 z22.2.1).1, ())).bind fun r23 =>
 if (r23.1 != z22.2.1) = true then some (5, ()) else rc22 (z22.1, IntKind.i64.wrap (z22.2.1 + 1), z22.2.2)
 else none
 else j21 (z22.1, z22.2.2)
noncomputable def yg (fuel : Nat) (z1 : Ai) : bu :=
 (Px z1.2).bind fun r2 =>
 if decide (80 < r2.1) = true then some (2, ()) else aa (sL fuel) fun j21 => iter fuel (pG j21) (z1.1, 0, z1.2)
noncomputable def AQ (rc25 : A8 → bu) (z26 : A8) : bu :=
 rc25 (z26.1, IntKind.i64.wrap (z26.2.1 + 1), z26.2.2)
noncomputable def pH (j24 : Ai → bu) (rc25 : A8 → bu) (z25 : A8) : bu :=
 if decide (z25.2.1 < (↑z25.2.2.1.1.length : Int)) = true then
 aa (AQ rc25) fun j27 =>
 (Pw (z25.2.2.1, z25.2.1, ())).bind fun r28 =>
 if (r28.1 != 0) = true then some r28
 else
 if bt z25.2.1 z25.2.2.1.1.length = true then
 if ((bg ([], 0, 0, 0, [], ()) z25.2.2.1.1 z25.2.1).2.1 == 1) = true then j27 (IntKind.i64.wrap (z25.1 + 1), z25.2) else j27 z25
 else none
 else j24 (z25.1, z25.2.2)
noncomputable def Fz (fuel : Nat) (z0 : C0) : bu :=
 if z0.1 = true then some (2, ()) else aa (yg fuel) fun j24 => iter fuel (pH j24) (0, 0, z0.2)
noncomputable def Mg (fuel : Nat) (x0 : ez) : bu :=
 aa (Fz fuel) fun j29 =>
 if decide (24 < (↑x0.1.length : Int)) = true then j29 (true, x0, ()) else j29 (decide (24 < (↑x0.2.1.length : Int)), x0, ())
noncomputable def MP (x : A5) : bu := Mg 100000 x.1
/-! 30 baggage/baggageref07.Parse -/
def XC : ee := ⟨[.v (.ty .str)], .cI [(.ag ka), (.ty (.int .i64)), (.ty (.int .i64))]⟩
def Ye : HT := (nx (.n aL (nx (nx (nx (nx (nx (.j ⟨[(2, .ref 1029 2), (5, bT), (6, dS), (7, .own 1030), (8, .ref 1031 2)], [(1029, .box [.own 1032, .own 1033]), (1031, .box [.own 1034, .own 1035]), (1030, dG), (1032, bL), (1033, bK), (1034, bL), (1035, bK)], []⟩ (nx (.u (.l ⟨[(2, bO), (5, bT), (6, dS), (7, dE), (8, bV), (9, dI)], [(1000, .box [.own 1003, .own 1004]), (1002, .box [.own 1005, .own 1006]), (1001, dG), (1003, bL), (1004, bK), (1005, bL), (1006, bK)], []⟩ (.n aK (.j ⟨[(2, dV), (5, bT), (6, dS), (7, .own 1016), (8, dM), (9, dI)], [(1015, .box [.own 1018, .own 1019]), (1017, .box [.own 1020, .own 1021]), (1016, dG), (1018, bL), (1019, bK), (1020, bL), (1021, bK)], []⟩ (.u (nx (.n (.j ⟨[(2, dK), (5, bT), (6, dS), (7, .own 1008), (8, dT), (9, dI), (10, .ref 1010 9), (60, dB)], [(1007, .box [.own 1011, .own 1012]), (1009, .box [.own 1013, .own 1014]), (1010, .box [.d .str, .d aB, .d aB, .d aB, .d (.sl aA), .d aB, .d aB, .d aB, .d aS]), (1008, dG), (1011, bL), (1012, bK), (1013, bL), (1014, bK)], []⟩ (.r .x) aC) (nx (nx aT))))) (.r .x)))))) (.n aL (.j ⟨[(2, .ref 1078 2), (8, .ref 1079 2)], [(1078, .box [.own 1080, .own 1081]), (1079, .box [.own 1082, .own 1083]), (1080, bL), (1081, bK), (1082, bL), (1083, bK)], []⟩ (nx (.u (.l ⟨[(2, .ref 1036 2), (7, .own 1037), (8, .ref 1038 2), (12, dI)], [(1036, .box [.own 1039, .own 1040]), (1038, .box [.own 1041, .own 1042]), (1037, dG), (1039, bL), (1040, bK), (1041, bL), (1042, bK)], []⟩ (.n aK (.j ⟨[(2, .ref 1064 2), (7, .own 1065), (8, .ref 1066 2), (12, dI)], [(1064, .box [.own 1067, .own 1068]), (1066, .box [.own 1069, .own 1070]), (1065, dG), (1067, bL), (1068, bK), (1069, bL), (1070, bK)], []⟩ (.u (nx (.u (.l ⟨[(2, .ref 1043 2), (7, .own 1044), (8, .ref 1045 2), (12, dI), (13, dI)], [(1043, .box [.own 1046, .own 1047]), (1045, .box [.own 1048, .own 1049]), (1044, dG), (1046, bL), (1047, bK), (1048, bL), (1049, bK)], []⟩ (.n aK (.j ⟨[(2, .ref 1050 2), (7, .own 1051), (8, .ref 1052 2), (12, dI), (13, dI)], [(1050, .box [.own 1053, .own 1054]), (1052, .box [.own 1055, .own 1056]), (1051, dG), (1053, bL), (1054, bK), (1055, bL), (1056, bK)], []⟩ (.u (.n (.r .q) (.n aL (nx (.n (.r (.w 13 [(0, 0), (0, 1), (1, 2), (0, 3), (0, 4), (1, 5), (0, 6), (0, 7), (0, 8), (1, 10), (2, 9), (5, 11), (2, 12)])) (.r .x)))))) (.r .x))))))) (.r .x)))))) (.n bF aG)))))))))))
noncomputable def LP (z2 : Bs) : Am :=
 (MP (z2.2.2.2.2, ())).bind fun r3 => if (r3.1 != 0) = true then some ((([], [], ()), 0, r3), ()) else some ((z2.2.2.2.2, 0, 0, ()), ())
noncomputable def LQ (rc5 : Av → Am) (z6 : Av) : Am :=
 rc5 (IntKind.i64.wrap (z6.1 + 1), (), (), z6.2.2.2)
noncomputable def LR (rc8 : Int × Av → Am) (z9 : Int × Av) : Am :=
 rc8 (z9.1, IntKind.i64.wrap (z9.2.1 + 1), (), (), z9.2.2.2.2)
noncomputable def LU (j7 : Av → Am) (rc8 : Int × Av → Am) (z8 : Int × Av) : Am :=
 if bt z8.1 z8.2.2.2.2.1.length = true then
 if decide (z8.1.toNat + 1 ≤ z8.2.2.2.2.1.length) = true then
 if decide (z8.2.1 < (↑(List.length (z8.2.2.2.2.1.getD z8.1.toNat ([], 0, 0, 0, [], 0, 0, 0, [], ())).2.2.2.2.2.2.2.2.1) : Int)) = true then
 aa (LR rc8) fun j10 =>
 if bt z8.1 z8.2.2.2.2.1.length = true then
 if decide (z8.1.toNat + 1 ≤ z8.2.2.2.2.1.length) = true then
 if bt z8.2.1 (List.length (z8.2.2.2.2.1.getD z8.1.toNat ([], 0, 0, 0, [], 0, 0, 0, [], ())).2.2.2.2.2.2.2.2.1) = true then
 (MO (z8.2.2.2.2.2.2.2, bg ([], ()) (z8.2.2.2.2.1.getD z8.1.toNat ([], 0, 0, 0, [], 0, 0, 0, [], ())).2.2.2.2.2.2.2.2.1 z8.2.1)).bind
 fun r11 =>
 if decide (r11.1 < 0) = true then some ((([], [], ()), IntKind.i64.wrap (z8.1 + 1), 6, ()), ())
 else
 if decide (z8.1 < (↑z8.2.2.2.2.2.2.2.1.length : Int)) = true then
 if bt z8.1 z8.2.2.2.2.2.2.2.1.length = true then
 if decide (z8.1.toNat + 1 ≤ z8.2.2.2.2.2.2.2.1.length) = true then
 if decide (List.length (z8.2.2.2.2.2.2.2.1.getD z8.1.toNat ([], 0, 0, 0, [], ())).2.2.2.2.1 ≤ Abs.cj) = true then
 if decide (List.length (z8.2.2.2.2.2.2.2.1.getD z8.1.toNat ([], 0, 0, 0, [], ())).2.2.2.2.1 * 8 ≤ Abs.cj) = true then
 if
 decide (List.length (z8.2.2.2.2.2.2.2.1.getD z8.1.toNat ([], 0, 0, 0, [], ())).2.2.2.2.1 + 1 ≤ Abs.cj) =
 true then
 if
 decide
 ((List.length (z8.2.2.2.2.2.2.2.1.getD z8.1.toNat ([], 0, 0, 0, [], ())).2.2.2.2.1 + 1) * 8 ≤
 Abs.cj) =
 true then
 if bt z8.1 z8.2.2.2.2.2.2.2.1.length = true then
 if decide (z8.1.toNat + 1 ≤ z8.2.2.2.2.2.2.2.1.length) = true then
 j10
 (z8.1, z8.2.1, (), (), z8.2.2.2.2.1, z8.2.2.2.2.2.1, z8.2.2.2.2.2.2.1,
 z8.2.2.2.2.2.2.2.1.set z8.1.toNat
 ((z8.2.2.2.2.2.2.2.1.getD z8.1.toNat ([], 0, 0, 0, [], ())).1,
 (z8.2.2.2.2.2.2.2.1.getD z8.1.toNat ([], 0, 0, 0, [], ())).2.1,
 (z8.2.2.2.2.2.2.2.1.getD z8.1.toNat ([], 0, 0, 0, [], ())).2.2.1,
 (z8.2.2.2.2.2.2.2.1.getD z8.1.toNat ([], 0, 0, 0, [], ())).2.2.2.1,
 (z8.2.2.2.2.2.2.2.1.getD z8.1.toNat ([], 0, 0, 0, [], ())).2.2.2.2.1 ++ [r11], ()),
 z8.2.2.2.2.2.2.2.2)
 else none
 else none
 else none
 else none
 else none
 else none
 else none
 else none
 else
 if bt (IntKind.i64.wrap (z8.1 - (↑z8.2.2.2.2.2.2.2.1.length : Int))) z8.2.2.2.2.2.2.2.2.1.length = true then
 if decide ((IntKind.i64.wrap (z8.1 - (↑z8.2.2.2.2.2.2.2.1.length : Int))).toNat + 1 ≤ z8.2.2.2.2.2.2.2.2.1.length) = true then
 j10
 (z8.1, z8.2.1, (), (), z8.2.2.2.2.1, z8.2.2.2.2.2.1, z8.2.2.2.2.2.2.1, z8.2.2.2.2.2.2.2.1,
 z8.2.2.2.2.2.2.2.2.1.set (IntKind.i64.wrap (z8.1 - (↑z8.2.2.2.2.2.2.2.1.length : Int))).toNat
 ((z8.2.2.2.2.2.2.2.2.1.getD (IntKind.i64.wrap (z8.1 - (↑z8.2.2.2.2.2.2.2.1.length : Int))).toNat (0, 0, 0, ())).1,
 r11.1,
 (z8.2.2.2.2.2.2.2.2.1.getD (IntKind.i64.wrap (z8.1 - (↑z8.2.2.2.2.2.2.2.1.length : Int))).toNat (0, 0, 0, ())).2.2),
 ())
 else none
 else none
 else none
 else none
 else none
 else j7 (z8.1, (), (), z8.2.2.2.2)
 else none
 else none
noncomputable def LS (fuel : Nat) (j4 : Bs → Am) (rc5 : Av → Am) (z5 : Av) : Am :=
 if decide (z5.1 < (↑z5.2.2.2.1.length : Int)) = true then aa (LQ rc5) fun j7 => iter fuel (LU j7) (z5.1, 0, (), (), z5.2.2.2)
 else j4 ((), (), z5.2.2.2.2)
noncomputable def LO (fuel : Nat) (z1 : Cs) : Am :=
 if (!z1.2.1 == []) = true then some ((([], [], ()), IntKind.i64.wrap ((↑z1.1.length : Int) + 1), 3, ()), ())
 else aa LP fun j4 => iter fuel (LS fuel j4) (0, (), (), z1.2.2.2.2)
noncomputable def Jv (rc13 : Cj → Am) (z14 : Cj) : Am :=
 rc13 (z14.1, z14.2.1, IntKind.i64.wrap (z14.2.2.1 + 1), (), (), z14.2.2.2.2.2)
noncomputable def Jw (j15 : Cj → Am) (z17 : A3 × Au × Int × Bool × Unit × Unit × QA × List QA × Aa) : Am :=
 if z17.2.2.2.1 = true then some ((([], [], ()), IntKind.i64.wrap (z17.2.2.1 + 1), 3, ()), ())
 else
 if decide (z17.2.2.2.2.2.2.2.1.length + 1 ≤ Abs.cj) = true then
 if decide ((z17.2.2.2.2.2.2.2.1.length + 1) * 112 ≤ Abs.cj) = true then
 if (z17.2.2.2.2.2.2.1.2.1 != 0) = true then
 if
 decide
 (z17.2.2.2.2.2.2.2.2.2.2.1.length +
 [(z17.2.2.2.2.2.2.1.1, z17.2.2.2.2.2.2.1.2.1, z17.2.2.2.2.2.2.1.2.2.1, z17.2.2.2.2.2.2.1.2.2.2.1, z17.2.2.2.2.2.2.1.2.2.2.2.1,
 ())].length ≤
 Abs.cj) =
 true then
 if
 decide
 ((z17.2.2.2.2.2.2.2.2.2.2.1.length +
 [(z17.2.2.2.2.2.2.1.1, z17.2.2.2.2.2.2.1.2.1, z17.2.2.2.2.2.2.1.2.2.1, z17.2.2.2.2.2.2.1.2.2.2.1, z17.2.2.2.2.2.2.1.2.2.2.2.1,
 ())].length) *
 64 ≤
 Abs.cj) =
 true then
 j15
 (z17.1, z17.2.1, z17.2.2.1, (), (), z17.2.2.2.2.2.2.2.1 ++ [z17.2.2.2.2.2.2.1], z17.2.2.2.2.2.2.2.2.1, z17.2.2.2.2.2.2.2.2.2.1,
 z17.2.2.2.2.2.2.2.2.2.2.1 ++
 [(z17.2.2.2.2.2.2.1.1, z17.2.2.2.2.2.2.1.2.1, z17.2.2.2.2.2.2.1.2.2.1, z17.2.2.2.2.2.2.1.2.2.2.1, z17.2.2.2.2.2.2.1.2.2.2.2.1, ())],
 z17.2.2.2.2.2.2.2.2.2.2.2)
 else none
 else none
 else
 if
 decide
 (z17.2.2.2.2.2.2.2.2.2.2.2.1.length +
 [(z17.2.2.2.2.2.2.1.2.2.2.2.2.1, z17.2.2.2.2.2.2.1.2.2.2.2.2.2.1, z17.2.2.2.2.2.2.1.2.2.2.2.2.2.2.1, ())].length ≤
 Abs.cj) =
 true then
 if
 decide
 ((z17.2.2.2.2.2.2.2.2.2.2.2.1.length +
 [(z17.2.2.2.2.2.2.1.2.2.2.2.2.1, z17.2.2.2.2.2.2.1.2.2.2.2.2.2.1, z17.2.2.2.2.2.2.1.2.2.2.2.2.2.2.1, ())].length) *
 24 ≤
 Abs.cj) =
 true then
 j15
 (z17.1, z17.2.1, z17.2.2.1, (), (), z17.2.2.2.2.2.2.2.1 ++ [z17.2.2.2.2.2.2.1], z17.2.2.2.2.2.2.2.2.1, z17.2.2.2.2.2.2.2.2.2.1,
 z17.2.2.2.2.2.2.2.2.2.2.1,
 z17.2.2.2.2.2.2.2.2.2.2.2.1 ++
 [(z17.2.2.2.2.2.2.1.2.2.2.2.2.1, z17.2.2.2.2.2.2.1.2.2.2.2.2.2.1, z17.2.2.2.2.2.2.1.2.2.2.2.2.2.2.1, ())],
 ())
 else none
 else none
 else none
 else none
noncomputable def Jy (j12 : Cs → Am) (rc13 : Cj → Am) (z13 : Cj) : Am :=
 if decide (z13.2.2.1 < (↑z13.1.length : Int)) = true then
 aa (Jv rc13) fun j15 =>
 if bt z13.2.2.1 z13.1.length = true then
 (Se (bg ([], ()) z13.1 z13.2.2.1)).bind fun r16 =>
 aa (Jw j15) fun j18 =>
 if (!r16.1.2.1) = true then j18 (z13.1, z13.2.1, z13.2.2.1, true, (), (), r16.1.1, z13.2.2.2.2.2)
 else
 if (r16.1.1.2.1 != 0) = true then
 j18 (z13.1, z13.2.1, z13.2.2.1, decide (0 < (↑z13.2.2.2.2.2.2.2.2.2.1.length : Int)), (), (), r16.1.1, z13.2.2.2.2.2)
 else j18 (z13.1, z13.2.1, z13.2.2.1, false, (), (), r16.1.1, z13.2.2.2.2.2)
 else none
 else j12 (z13.1, z13.2.1, (), (), z13.2.2.2.2.2)
noncomputable def R5 (fuel : Nat) (x0 : Au) : Am :=
 if decide (4096 < (↑x0.length : Int)) = true then some ((([], [], ()), 0, 2, ()), ())
 else
 (Ps (x0, 10, ())).bind fun r0 =>
 if bt (IntKind.i64.wrap ((↑r0.1.length : Int) - 1)) r0.1.length = true then
 if fa 0 (IntKind.i64.wrap ((↑r0.1.length : Int) - 1)) r0.1.length = true then
 aa (LO fuel) fun j12 =>
 iter fuel (Jy j12)
 (ig r0.1 0 (IntKind.i64.wrap ((↑r0.1.length : Int) - 1)), (bg ([], ()) r0.1 (IntKind.i64.wrap ((↑r0.1.length : Int) - 1))).1, 0, (),
 (), [], [], [], [], [], ())
 else none
 else none
noncomputable def Pn (x : Ce) : Am := R5 100000 x.1
/-! 20 baggage/baggagekeep.Ints -/
def Xy : ee := ⟨[.v (.ty (.sl (.cons (.int .i64) .nil))), .v (.ty (.sl (.cons (.int .i64) .nil)))], .v (.ty .bool)⟩
def S6 : HT := (nx (.n aL (.j ⟨[], [], []⟩ (nx (.u (.l ⟨[(0, dL), (1, dL), (5, dI)], [], []⟩ aN))) aG)))
noncomputable def Fe (z0 : Unit) : XB :=
 some (true, ())
noncomputable def sm (j1 : Unit → XB) (rc2 : XI × Cn → XB) (z2 : XI × Cn) : XB :=
 if decide (z2.2.2.1 < (↑z2.1.length : Int)) = true then
 if bt z2.2.2.1 z2.1.length = true then
 if bt z2.2.2.1 z2.2.1.length = true then
 if ((bg (0, ()) z2.1 z2.2.2.1).1 != (bg (0, ()) z2.2.1 z2.2.2.1).1) = true then some (false, ())
 else rc2 (z2.1, z2.2.1, IntKind.i64.wrap (z2.2.2.1 + 1), ())
 else none
 else none
 else j1 ()
noncomputable def LI (fuel : Nat) (x0 : XI) (x1 : XI) : XB :=
 if ((↑x0.length : Int) != (↑x1.length : Int)) = true then some (false, ()) else aa Fe fun j1 => iter fuel (sm j1) (x0, x1, 0, ())
noncomputable def Hs (x : XI × Ar) : XB := LI 100000 x.1 x.2.1
/-! 14 baggage/baggagelaw10.awake -/
def ZE : ee := ⟨[], .v (.ty .bool)⟩
def Z3 : HT := (nx (nx (.n (.r (.w 15 [(0, 0), (3, 4), (5, 1), (5, 2), (5, 3), (3, 5), (4, 6), (0, 7), (4, 8), (2, 9), (1, 10), (1, 11), (1, 12), (4, 13), (2, 14)])) (.j ⟨[(0, dB)], [], []⟩ (.r .x) .e))))
noncomputable def LF (z2 : Ab) : XB :=
 some z2
noncomputable def OP (fuel : Nat) : XB :=
 (Pn
 (Rv,
 ())).bind
 fun r0 =>
 if decide (0 ≤ 5) = true then
 if decide (5 ≤ 5) = true then
 if decide (5 ≤ (↑Abs.cj : Int)) = true then
 if decide ((↑24 : Int) * 5 ≤ (↑Abs.cj : Int)) = true then
 if decide (0 ≤ 5) = true then
 if decide (5 ≤ 5) = true then
 if decide (5 ≤ (↑Abs.cj : Int)) = true then
 if decide ((↑8 : Int) * 5 ≤ (↑Abs.cj : Int)) = true then
 (BB
 (r0.1.1,
 ([([(0, ())], ()), ([(5, ())], ()), ([(6, ())], ()), ([(0, ())], ()), ([], ())], List.replicate (Int.toNat 5) ([], ()), ()),
 List.replicate (Int.toNat 5) (0, ()), [], ())).bind
 fun r1 =>
 aa LF fun j3 =>
 if (r0.1.2.2.1 == 0) = true then
 if (r1.1.2.1 == 0) = true then
 (Hs (r1.1.1.1, [(-1, ()), (0, ()), (-1, ()), (-1, ()), (-1, ())], ())).bind fun r4 =>
 if r4.1 = true then (Hs (r1.1.1.2.1, [(-1, ()), (-1, ()), (-1, ()), (1, ()), (-1, ())], ())).bind fun r5 => j3 r5
 else j3 (false, ())
 else j3 (false, ())
 else j3 (false, ())
 else none
 else none
 else none
 else none
 else none
 else none
 else none
 else none
noncomputable def JP (x : Unit) : XB := OP 0 
/-! 15 baggage/traffic.Entrances -/
noncomputable def Xa : Code := bd Tryd.f15
def SZ : ee := ⟨[.v (.ag ka), .v (.ag HH)], .own (.cons .bool .nil)⟩
def X7 : HT := (nx (.j ⟨[(2, bO), (3, bY), (5, .ref 1002 3), (6, dB)], [(1000, bI), (1001, bS), (1002, bU)], []⟩ (.ri .x [(11, 0, aY)]) (.n (.j ⟨[(2, dC), (3, bX), (5, .ref 1005 3), (21, dB)], [(1003, bI), (1004, bS), (1005, bU)], []⟩ (.r .x) aC) (nx (.j ⟨[(7, .own 1012)], [(1012, bW)], []⟩ (nx (.u (.l ⟨[(3, bZ), (5, .ref 1007 3), (7, .own 1008), (24, dI), (25, dI)], [(1006, bS), (1007, bU), (1008, bW)], []⟩ bA))) aG)))))
noncomputable def Qg : List (Nat × Entry) := [(40, ⟨Q5, BC⟩), (41, ⟨Vb, DU⟩), (27, ⟨S0, DR⟩), (31, ⟨Va, Hu⟩)]
noncomputable def Qm : List (Nat × yO) := [(26, ⟨12, [.tmp 2, .tmp 3], Xb⟩)]
def Qs : qe := []
noncomputable def Fb (z2 : Az) : Bq :=
 some z2
noncomputable def sh (j3 : Az → Bq) (rc4 : Int × Int × jv × nO × Az → Bq) (z4 : Int × Int × jv × nO × Az) : Bq :=
 if decide (z4.2.1 < z4.1) = true then
 (Hu (z4.2.2.2.1, z4.2.2.1, z4.2.1, ())).bind fun r5 =>
 if decide (z4.2.2.2.2.1.length + 1 ≤ Abs.cj) = true then
 if decide ((z4.2.2.2.2.1.length + 1) * 1 ≤ Abs.cj) = true then
 rc4 (z4.1, IntKind.i64.wrap (z4.2.1 + 1), z4.2.2.1, r5.2.1, z4.2.2.2.2.1 ++ [(r5.1, ())], ())
 else none
 else none
 else j3 z4.2.2.2.2
noncomputable def Fa (fuel : Nat) (z1 : Bool × ez × jv × Ax) : Bq :=
 if z1.1 = true then some ([], ()) else aa Fb fun j3 => iter fuel (sh j3) ((↑z1.2.1.1.length : Int), 0, z1.2.2.1, z1.2.2.2.1, [], ())
noncomputable def E9 (fuel : Nat) (z0 : Bool × ez × jv × Ax) : Bq :=
 aa (Fa fuel) fun j6 =>
 if (!z0.1) = true then j6 (true, z0.2) else (DR (z0.2.2.2.1, z0.2.2.1, ())).bind fun r7 => j6 (!r7.1, z0.2.1, z0.2.2.1, r7.2)
noncomputable def LG (fuel : Nat) (x0 : ez) (x1 : jv) : Bq :=
 aa (E9 fuel) fun j8 =>
 (BC (x0, ())).bind fun r9 => if (r9.1 != 0) = true then none else (DU (x0, ())).bind fun r10 => j8 (true, x0, x1, (x0.1, x0.2.1, r10), ())
noncomputable def Pl (x : ez × Bv) : Bq := LG 100000 x.1 x.2.1
/-! 32 baggage/baggageref09.Free -/
def XD : ee := ⟨[.v (.ty (.sl (.cons (.int .i64) .nil)))], .v (.ty (.int .i64))⟩
def Yf : HT := (nx (nx (.j ⟨[(3, dI)], [], []⟩ (nx (.u (.l ⟨[(0, dL), (3, dI), (4, dI)], [], []⟩ (.n aK (.j ⟨[(0, dL), (3, dI), (4, dI)], [], []⟩ (.u aO) (.r .x)))))) aG)))
noncomputable def Fm (z0 : Ac) : bu :=
 some z0
noncomputable def Fo (rc2 : Cg → bu) (z3 : Cg) : bu :=
 rc2 (z3.1, z3.2.1, IntKind.i64.wrap (z3.2.2.1 + 1), ())
noncomputable def sy (j1 : Ac → bu) (rc2 : Cg → bu) (z2 : Cg) : bu :=
 if decide (z2.2.2.1 < (↑z2.1.length : Int)) = true then
 aa (Fo rc2) fun j4 =>
 if bt z2.2.2.1 z2.1.length = true then
 if ((bg (0, ()) z2.1 z2.2.2.1).1 == 0) = true then j4 (z2.1, IntKind.i64.wrap (z2.2.1 + 1), z2.2.2) else j4 z2
 else none
 else j1 (z2.2.1, ())
noncomputable def LV (fuel : Nat) (x0 : XI) : bu :=
 aa Fm fun j1 => iter fuel (sy j1) (x0, 0, 0, ())
noncomputable def Po (x : Ar) : bu := LV 100000 x.1
/-! 16 baggage/baggageref10.Entrances -/
def Xw : ee := ⟨[.v (.ag ka), .v (.ag HH)], .own (.cons .bool .nil)⟩
def X8 : HT := (nx (nx (.j ⟨[(5, .own 1009)], [(1009, bW)], []⟩ (nx (.u (.l ⟨[(2, bO), (3, bY), (5, .own 1002), (6, dI)], [(1000, bI), (1001, bS), (1002, bW)], []⟩ (.n aK (.n (.u (nx (.j ⟨[(2, dC), (3, bX), (5, .own 1005), (6, dI), (7, dB)], [(1003, bI), (1004, bS), (1005, bW)], []⟩ aO (.r .x)))) (.r .x)))))) aG)))
noncomputable def Fc (z0 : Az) : Bq :=
 some z0
noncomputable def xZ (rc2 : Cq → Bq) (z3 : Int × Bool × ez × jv × Az) : Bq :=
 if decide (z3.2.2.2.2.1.length + 1 ≤ Abs.cj) = true then
 if decide ((z3.2.2.2.2.1.length + 1) * 1 ≤ Abs.cj) = true then
 rc2 (IntKind.i64.wrap (z3.1 + 1), z3.2.2.1, z3.2.2.2.1, z3.2.2.2.2.1 ++ [(z3.2.1, ())], ())
 else none
 else none
noncomputable def si (j1 : Az → Bq) (rc2 : Cq → Bq) (z2 : Cq) : Bq :=
 if decide (z2.1 < (↑z2.2.1.1.length : Int)) = true then
 aa (xZ rc2) fun j4 =>
 if bt z2.1 z2.2.1.1.length = true then
 (yH ((bg ([], 0, 0, 0, [], ()) z2.2.1.1 z2.1).2.1, ())).bind fun r5 =>
 if r5.1 = true then
 if bt z2.1 z2.2.2.1.1.length = true then
 if bt 0 (List.length (bg ([], ()) z2.2.2.1.1 z2.1).1) = true then
 if ((bg (0, ()) (bg ([], ()) z2.2.2.1.1 z2.1).1 0).1 == 0) = true then
 if bt z2.1 z2.2.1.1.length = true then
 if ((bg ([], 0, 0, 0, [], ()) z2.2.1.1 z2.1).2.1 != 5) = true then j4 (z2.1, true, z2.2)
 else
 if bt z2.1 z2.2.2.1.1.length = true then (Po (bg ([], ()) z2.2.2.1.1 z2.1)).bind fun r6 => j4 (z2.1, decide (2 ≤ r6.1), z2.2)
 else none
 else none
 else j4 (z2.1, false, z2.2)
 else none
 else none
 else j4 (z2.1, true, z2.2)
 else none
 else j1 z2.2.2.2
noncomputable def LH (fuel : Nat) (x0 : ez) (x1 : jv) : Bq :=
 aa Fc fun j1 => iter fuel (si j1) (0, x0, x1, [], ())
noncomputable def MJ (x : ez × Bv) : Bq := LH 100000 x.1 x.2.1
/-! 55 baggage/baggageref10.command -/
def ZO : ee := ⟨[.v (.ag BF), .v (.ty (.int .i64))], .v (.ty .bool)⟩
def h55 : HT := (nx (.n (.u (nx (.n aQ (nx (.n aG aL))))) aQ))
noncomputable def Mi (z0 : Ab) : XB :=
 some z0
noncomputable def Mj (z3 : Ab) : XB :=
 some z3
noncomputable def O6 (fuel : Nat) (x0 : tF) (x1 : Int) : XB :=
 if (x0.2.1 == 7) = true then aa Mi fun j1 => if decide (0 ≤ x1) = true then j1 (decide (x1 ≤ 40), ()) else j1 (false, ())
 else
 (yH (x0.2.1, ())).bind fun r2 =>
 if (!r2.1) = true then some (x1 == 0, ())
 else
 if (x1 == -1) = true then some (x0.2.1 != 5, ())
 else aa Mj fun j4 => if decide (0 ≤ x1) = true then j4 (decide (x1 < (↑x0.2.2.2.2.1.length : Int)), ()) else j4 (false, ())
noncomputable def Pu (x : tF × Ac) : XB := O6 0 x.1 x.2.1
/-! 35 baggage/baggageref10.Possible -/
def XE : ee := ⟨[.v (.ag ka), .v (.ty (.sl (.cons (.int .i64) .nil))), .v (.ty (.sl lT))], .v (.ty (.int .i64))⟩
def P4 : HT := (nx (.n aL (.j ⟨[(2, bH), (3, bV)], [(1002, bI)], []⟩ (nx (.u (.l ⟨[(1, dL), (2, bH), (3, bO), (7, dI)], [(1000, bI)], []⟩ aN))) (.n aL (.j ⟨[(2, bH)], [], []⟩ (nx (.u (.l ⟨[(2, bH), (3, dC), (8, dI)], [(1003, bI)], []⟩ (.n aK (.n (.u (nx (.n (.j ⟨[(2, bH), (3, bX), (8, dI), (9, .ref 1005 3), (55, dB)], [(1004, bI), (1005, dH)], []⟩ (.r .x) aC) (.j ⟨[(2, bH), (3, bZ), (8, dI), (83, dB)], [(1006, bI)], []⟩ (.r .q) aC)))) (.r .x)))))) (.j ⟨[], [], []⟩ (nx (.u (.l ⟨[(2, bH), (10, dI)], [], []⟩ (.n aK (.j ⟨[(2, bH), (10, dI)], [], []⟩ (.u (nx (.u (.l ⟨[(2, bH), (10, dI), (11, dI)], [], []⟩ (.n aK (.n (.u (.j ⟨[(2, bH), (10, dI), (11, dI), (118, dB)], [], []⟩ (.r .q) aC)) (.r .x))))))) (.r .x)))))) aG))))))
noncomputable def Fs (z2 : Unit) : bu :=
 some (0, ())
noncomputable def x9 (rc4 : Ct → bu) (z5 : Ct) : bu :=
 rc4 (z5.1, IntKind.i64.wrap (z5.2.1 + 1), ())
noncomputable def ya (rc7 : Ad × A9 → bu) (z8 : Ad × Int × Cd) : bu :=
 if z8.2.2.2.1 = true then some (5, ()) else rc7 (z8.1, z8.2.1, IntKind.i64.wrap (z8.2.2.1 + 1), ())
noncomputable def sC (j6 : Ct → bu) (rc7 : Ad × A9 → bu) (z7 : Ad × A9) : bu :=
 if decide (z7.2.2.1 < z7.2.1) = true then
 aa (ya rc7) fun j9 =>
 if bt z7.2.1 z7.1.length = true then
 if bt z7.2.2.1 z7.1.length = true then
 if ((bg (0, 0, 0, ()) z7.1 z7.2.1).2.1 == (bg (0, 0, 0, ()) z7.1 z7.2.2.1).2.1) = true then
 if bt z7.2.1 z7.1.length = true then
 if bt z7.2.2.1 z7.1.length = true then
 j9 (z7.1, z7.2.1, z7.2.2.1, (bg (0, 0, 0, ()) z7.1 z7.2.1).2.2.1 == (bg (0, 0, 0, ()) z7.1 z7.2.2.1).2.2.1, ())
 else none
 else none
 else j9 (z7.1, z7.2.1, z7.2.2.1, false, ())
 else none
 else none
 else j6 (z7.1, z7.2.1, ())
noncomputable def sB (fuel : Nat) (j3 : Unit → bu) (rc4 : Ct → bu) (z4 : Ct) : bu :=
 if decide (z4.2.1 < (↑z4.1.length : Int)) = true then aa (x9 rc4) fun j6 => iter fuel (sC j6) (z4.1, z4.2.1, 0, ()) else j3 ()
noncomputable def sA (fuel : Nat) (z1 : Ba) : bu :=
 aa Fs fun j3 => iter fuel (sB fuel j3) (z1.1, 0, ())
noncomputable def AN (rc11 : C5 → bu) (z13 : Ad × Int × C0) : bu :=
 if z13.2.2.1 = true then some (1, ()) else rc11 (z13.1, IntKind.i64.wrap (z13.2.1 + 1), z13.2.2.2)
noncomputable def vd (rc11 : C5 → bu) (z12 : Ad × Ck) : bu :=
 if z12.2.2.1 = true then some (4, ())
 else
 aa (AN rc11) fun j14 =>
 if decide (z12.2.2.2.2.1.2.1 < 0) = true then j14 (z12.1, z12.2.1, true, z12.2.2.2.1, ())
 else
 if decide ((↑z12.2.2.2.1.1.length : Int) ≤ z12.2.2.2.2.1.2.1) = true then j14 (z12.1, z12.2.1, true, z12.2.2.2.1, ())
 else
 if decide (z12.2.2.2.2.1.2.2.1 < 0) = true then j14 (z12.1, z12.2.1, true, z12.2.2.2.1, ())
 else
 if bt z12.2.2.2.2.1.2.1 z12.2.2.2.1.1.length = true then
 j14 (z12.1, z12.2.1, decide ((bg ([], 0, 0, 0, [], ()) z12.2.2.2.1.1 z12.2.2.2.2.1.2.1).2.2.1 ≤ z12.2.2.2.2.1.2.2.1), z12.2.2.2.1, ())
 else none
noncomputable def pA (j10 : Ba → bu) (rc11 : C5 → bu) (z11 : C5) : bu :=
 if decide (z11.2.1 < (↑z11.1.length : Int)) = true then
 if bt z11.2.1 z11.1.length = true then
 aa (vd rc11) fun j15 =>
 if ((bg (0, 0, 0, ()) z11.1 z11.2.1).1 != 1) = true then
 j15 (z11.1, z11.2.1, (bg (0, 0, 0, ()) z11.1 z11.2.1).1 != 2, z11.2.2.1, bg (0, 0, 0, ()) z11.1 z11.2.1, ())
 else j15 (z11.1, z11.2.1, false, z11.2.2.1, bg (0, 0, 0, ()) z11.1 z11.2.1, ())
 else none
 else j10 (z11.1, ())
noncomputable def py (fuel : Nat) (z0 : Ad × A5) : bu :=
 if decide (4 < (↑z0.1.length : Int)) = true then some (2, ()) else aa (sA fuel) fun j10 => iter fuel (pA j10) (z0.1, 0, z0.2)
noncomputable def pB (j16 : Ad × A5 → bu) (rc17 : XI × C5 → bu) (z17 : XI × C5) : bu :=
 if decide (z17.2.2.1 < (↑z17.1.length : Int)) = true then
 if bt z17.2.2.1 z17.2.2.2.1.1.length = true then
 if bt z17.2.2.1 z17.1.length = true then
 (Pu (bg ([], 0, 0, 0, [], ()) z17.2.2.2.1.1 z17.2.2.1, bg (0, ()) z17.1 z17.2.2.1)).bind fun r18 =>
 if (!r18.1) = true then some (1, ()) else rc17 (z17.1, z17.2.1, IntKind.i64.wrap (z17.2.2.1 + 1), z17.2.2.2)
 else none
 else none
 else j16 (z17.2.1, z17.2.2.2)
noncomputable def LW (fuel : Nat) (x0 : ez) (x1 : XI) (x2 : Ad) : bu :=
 if ((↑x1.length : Int) != (↑x0.1.length : Int)) = true then some (1, ())
 else aa (py fuel) fun j16 => iter fuel (pB j16) (x1, x2, 0, x0, ())
noncomputable def JS (x : ez × C3) : bu := LW 100000 x.1 x.2.1 x.2.2.1
/-! 36 baggage/baggageref07.Order -/
def ZM : ee := ⟨[.v (.ag ka)], .own (.cons (.int .i64) .nil)⟩
def h36 : HT := (nx aW)
noncomputable def OX (fuel : Nat) (x0 : ez) : fN :=
 (MP (x0, ())).bind fun r0 => if (r0.1 != 0) = true then some ([], ()) else (MQ (x0, ())).bind fun r1 => some r1
noncomputable def Pr (x : A5) : fN := OX 0 x.1
def ZH : ee := ⟨[.v (.ag ka), .v (.ag HH), .v (.ty (.sl (.cons (.int .i64) .nil))), .v (.ty (.sl lT)), .v (.ty (.int .i64))], .v (.ty (.int .i64))⟩
noncomputable def SF (L : ez) (P : jv) (c : ft) (fs : List rG) (n : Int) : bu :=
 if 0 ≤ n ∧ n.toNat < L.1.length then
 let nd : tF := L.1.getD n.toNat ([], 0, 0, 0, [], ())
 let cn : Int := (c.getD n.toNat (0, ())).1
 let sl : ft := (P.1.getD n.toNat ([], ())).1
 if n.toNat < c.length ∧ n.toNat < P.1.length ∧ n.toNat < P.2.1.length then
 if nd.2.1 = 7 then (yI ((P.2.1.getD n.toNat ([], ())).1, cn, ())).bind fun r => some (if r.1 = true then cn else 0, ())
 else if (decide (1 ≤ nd.2.1) && decide (nd.2.1 ≤ 6)) = false then some (0, ())
 else if cn = -1 then some (0, ())
 else if 1 ≤ nd.2.2.1 ∧ nd.2.2.1 ≤ sl.length ∧ nd.2.2.1 ≤ 1000 then
 (Hv (L, fs, n, ())).bind fun A =>
 if A.1.length = nd.2.2.1.toNat then
 some (if (A.1.getD (nd.2.2.1.toNat - 1) (0, ())).1 = 1 then 0 else (sl.getD (nd.2.2.1.toNat - 1) (0, ())).1, ())
 else none
 else none
 else none
 else none
noncomputable def JR (x : ez × jv × ft × Ct) : bu := SF x.1 x.2.1 x.2.2.1 x.2.2.2.1 x.2.2.2.2.1
/-! 37 baggage/baggageref10.wants -/
def ZN : ee := ⟨[.v (.ag ka), .v (.ty (.sl (.cons (.int .i64) .nil))), .v (.ty (.int .i64))], .v (.ty (.int .i64))⟩
def h37 : HT := (nx aW)
noncomputable def OY (fuel : Nat) (x0 : ez) (x1 : XI) (x2 : Int) : bu :=
 if bt x2 x0.1.length = true then
 if ((bg ([], 0, 0, 0, [], ()) x0.1 x2).2.1 == 7) = true then some (0, ()) else if bt x2 x1.length = true then some (bg (0, ()) x1 x2) else none
 else none
noncomputable def JU (x : ez × Cn) : bu := OY 0 x.1 x.2.1 x.2.2.1
/-! 19 baggage/baggageref10.Flows -/
def Xx : ee := ⟨[.v (.ag ka), .v (.ag HH), .v (.ty (.sl (.cons (.int .i64) .nil))), .v (.ty (.sl lT))], .cI [(.ag Ti), (.ty (.int .i64))]⟩
def X9 : HT := (nx (.n bF (nx (.j ⟨[(2, dL), (3, bH), (4, .ref 1016 2), (5, dM), (8, dN), (11, dU)], [(1016, bI), (1017, bS), (1018, .box [.own 1020, .own 1021]), (1019, .box [.own 1022, .own 1023]), (1020, bG), (1021, bG), (1022, bG), (1023, bG)], []⟩ (nx (.u (.l ⟨[(2, dL), (3, bH), (4, bO), (5, bY), (8, bV), (11, dC), (12, dI)], [(1000, bI), (1001, bS), (1002, .box [.own 1004, .own 1005]), (1003, .box [.own 1006, .own 1007]), (1004, bG), (1005, bG), (1006, bG), (1007, bG)], []⟩ (.n aK (.n (.u (.r (.w 9 [(0, 0), (0, 1), (0, 4), (0, 5), (3, 2), (2, 3), (0, 8), (5, 6), (2, 7)]))) (.r .x)))))) (nx (nx (.j ⟨[(8, .ref 1153 2), (11, .ref 1154 2)], [(1153, .box [.own 1155, .own 1156]), (1154, .box [.own 1157, .own 1158]), (1155, bG), (1156, bG), (1157, bG), (1158, bG)], []⟩ (nx (.u (.l ⟨[(2, dL), (3, bH), (4, .ref 1024 2), (5, .ref 1025 2), (8, .ref 1026 2), (11, .ref 1027 2), (13, .own 1028), (14, .own 1029), (15, dI)], [(1024, bI), (1025, bS), (1026, .box [.own 1030, .own 1031]), (1027, .box [.own 1032, .own 1033]), (1028, bW), (1029, bG), (1030, bG), (1031, bG), (1032, bG), (1033, bG)], []⟩ (.n aK (.j ⟨[(2, dL), (3, bH), (4, .ref 1133 2), (5, .ref 1134 2), (8, .ref 1135 2), (11, .ref 1136 2), (13, .own 1137), (14, .own 1138), (15, dI)], [(1133, bI), (1134, bS), (1135, .box [.own 1139, .own 1140]), (1136, .box [.own 1141, .own 1142]), (1137, bW), (1138, bG), (1139, bG), (1140, bG), (1141, bG), (1142, bG)], []⟩ (.u (nx (nx (.j ⟨[(2, dL), (3, bH), (4, .ref 1045 2), (5, .ref 1046 2), (8, .ref 1047 2), (11, .ref 1048 2), (13, .own 1049), (14, .own 1050), (15, dI), (16, dI), (17, .ref 1051 5)], [(1045, bI), (1046, bS), (1047, .box [.own 1052, .own 1053]), (1048, .box [.own 1054, .own 1055]), (1051, bQ), (1049, bW), (1050, bG), (1052, bG), (1053, bG), (1054, bG), (1055, bG)], []⟩ (.j ⟨[(2, dL), (3, bH), (4, .ref 1034 2), (5, .ref 1035 2), (8, .ref 1036 2), (11, .ref 1037 2), (13, .own 1038), (14, .own 1039), (15, dI), (16, dI), (17, .ref 1040 5), (94, dB)], [(1034, bI), (1035, bS), (1036, .box [.own 1041, .own 1042]), (1037, .box [.own 1043, .own 1044]), (1040, bQ), (1038, bW), (1039, bG), (1041, bG), (1042, bG), (1043, bG), (1044, bG)], []⟩ (.r .x) aG) (.j ⟨[(2, dL), (3, bH), (4, .ref 1067 2), (5, .ref 1068 2), (8, .ref 1069 2), (11, .ref 1070 2), (13, .own 1071), (14, .own 1072), (15, dI), (16, dI), (17, .ref 1073 5)], [(1067, bI), (1068, bS), (1069, .box [.own 1074, .own 1075]), (1070, .box [.own 1076, .own 1077]), (1073, bQ), (1071, bW), (1072, bG), (1074, bG), (1075, bG), (1076, bG), (1077, bG)], []⟩ (.j ⟨[(2, dL), (3, bH), (4, .ref 1056 2), (5, .ref 1057 2), (8, .ref 1058 2), (11, .ref 1059 2), (13, .own 1060), (14, .own 1061), (15, dI), (16, dI), (17, .ref 1062 5), (109, dB)], [(1056, bI), (1057, bS), (1058, .box [.own 1063, .own 1064]), (1059, .box [.own 1065, .own 1066]), (1062, bQ), (1060, bW), (1061, bG), (1063, bG), (1064, bG), (1065, bG), (1066, bG)], []⟩ (.r .x) aG) (nx (.u (.l ⟨[(2, dL), (3, bH), (4, .ref 1078 2), (5, .ref 1079 2), (8, .ref 1080 2), (11, .ref 1081 2), (13, .own 1082), (14, .own 1083), (15, dI), (16, dI), (17, .ref 1084 5), (18, dI)], [(1078, bI), (1079, bS), (1080, .box [.own 1085, .own 1086]), (1081, .box [.own 1087, .own 1088]), (1084, bQ), (1082, bW), (1083, bG), (1085, bG), (1086, bG), (1087, bG), (1088, bG)], []⟩ (.n (.j ⟨[(2, dL), (3, bH), (4, .ref 1089 2), (5, .ref 1090 2), (8, .ref 1091 2), (11, .ref 1092 2), (13, .own 1093), (14, .own 1094), (15, dI), (16, dI), (17, .ref 1095 5), (18, dI), (123, dB)], [(1089, bI), (1090, bS), (1091, .box [.own 1096, .own 1097]), (1092, .box [.own 1098, .own 1099]), (1095, bQ), (1093, bW), (1094, bG), (1096, bG), (1097, bG), (1098, bG), (1099, bG)], []⟩ (.r .x) aF) (.j ⟨[(2, dL), (3, bH), (4, .ref 1111 2), (5, .ref 1112 2), (8, .ref 1113 2), (11, .ref 1114 2), (13, .own 1115), (14, .own 1116), (15, dI), (16, dI), (17, .ref 1117 5), (18, dI)], [(1111, bI), (1112, bS), (1113, .box [.own 1118, .own 1119]), (1114, .box [.own 1120, .own 1121]), (1117, bQ), (1115, bW), (1116, bG), (1118, bG), (1119, bG), (1120, bG), (1121, bG)], []⟩ (.u (.n (.j ⟨[(2, dL), (3, bH), (4, .ref 1100 2), (5, .ref 1101 2), (8, .ref 1102 2), (11, .ref 1103 2), (13, .own 1104), (14, .own 1105), (15, dI), (16, dI), (17, .ref 1106 5), (18, dI), (153, dB)], [(1100, bI), (1101, bS), (1102, .box [.own 1107, .own 1108]), (1103, .box [.own 1109, .own 1110]), (1106, bQ), (1104, bW), (1105, bG), (1107, bG), (1108, bG), (1109, bG), (1110, bG)], []⟩ (.r .q) aF) (.n (.r (.qt 8)) aL))) (.r .x))))))))))) (.r .x)))))) aG)))))))
noncomputable def sj (z4 : Bc) : Ah :=
 some ((z4.2.2.2.2, 0, ()), ())
noncomputable def lM (rc6 : Ak → Ah) (z7 : Ak) : Ah :=
 rc6 (z7.1, z7.2.1, IntKind.i64.wrap (z7.2.2.1 - 1), z7.2.2.2.1, z7.2.2.2.2.1, (), (), z7.2.2.2.2.2.2.2)
noncomputable def ph (rc11 : Bf → Ah) (z13 : Bf) : Ah :=
 rc11 (z13.1, z13.2.1, z13.2.2.1, z13.2.2.2.1, IntKind.i64.wrap (z13.2.2.2.2.1 + 1), z13.2.2.2.2.2.1, z13.2.2.2.2.2.2.1, (), (), z13.2.2.2.2.2.2.2.2.2)
noncomputable def pj (j8 : Ak → Ah) (j14 : Bf → Ah) (z15 : XI × Ad × Int × B7) : Ah :=
 if z15.2.2.2.2.2.1 = true then
 j14 (z15.1, z15.2.1, z15.2.2.1, z15.2.2.2.1, z15.2.2.2.2.1, z15.2.2.2.2.2.2.1, z15.2.2.2.2.2.2.2.1, (), (), z15.2.2.2.2.2.2.2.2.2.2)
 else
 (JU (z15.2.2.2.2.2.2.1, z15.1, z15.2.2.2.2.1, ())).bind fun r16 =>
 if bt z15.2.2.2.2.1 z15.2.2.2.2.2.2.2.2.2.2.2.2.2.2.2.1.length = true then
 if decide (z15.2.2.2.2.1.toNat + 1 ≤ z15.2.2.2.2.2.2.2.2.2.2.2.2.2.2.2.1.length) = true then
 (yH (z15.2.2.2.2.2.2.2.2.2.2.1.2.1, ())).bind fun r17 =>
 if r17.1 = true then
 if bt z15.2.2.2.1 z15.2.2.2.2.2.2.2.2.2.2.2.2.2.2.2.2.1.length = true then
 if decide (z15.2.2.2.1.toNat + 1 ≤ z15.2.2.2.2.2.2.2.2.2.2.2.2.2.2.2.2.1.length) = true then
 j8
 (z15.1, z15.2.1, z15.2.2.1, z15.2.2.2.2.2.2.1, z15.2.2.2.2.2.2.2.1, (), (), z15.2.2.2.2.2.2.2.2.2.2.2.1,
 z15.2.2.2.2.2.2.2.2.2.2.2.2.1, z15.2.2.2.2.2.2.2.2.2.2.2.2.2.1, z15.2.2.2.2.2.2.2.2.2.2.2.2.2.2.1,
 z15.2.2.2.2.2.2.2.2.2.2.2.2.2.2.2.1.set z15.2.2.2.2.1.toNat r16,
 z15.2.2.2.2.2.2.2.2.2.2.2.2.2.2.2.2.1.set z15.2.2.2.1.toNat (z15.2.2.2.2.1, ()), ())
 else none
 else none
 else
 j14
 (z15.1, z15.2.1, z15.2.2.1, z15.2.2.2.1, z15.2.2.2.2.1, z15.2.2.2.2.2.2.1, z15.2.2.2.2.2.2.2.1, (), (), z15.2.2.2.2.2.2.2.2.2.2.1,
 z15.2.2.2.2.2.2.2.2.2.2.2.1, z15.2.2.2.2.2.2.2.2.2.2.2.2.1, z15.2.2.2.2.2.2.2.2.2.2.2.2.2.1, z15.2.2.2.2.2.2.2.2.2.2.2.2.2.2.1,
 z15.2.2.2.2.2.2.2.2.2.2.2.2.2.2.2.1.set z15.2.2.2.2.1.toNat r16, z15.2.2.2.2.2.2.2.2.2.2.2.2.2.2.2.2)
 else none
 else none
noncomputable def pg (j8 : Ak → Ah) (rc11 : Bf → Ah) (z12 : XI × Ad × Int × B7) : Ah :=
 if z12.2.2.2.2.2.1 = true then
 aa (ph rc11) fun j14 =>
 aa (pj j8 j14) fun j18 =>
 if (z12.2.2.2.2.1 == z12.2.2.2.1) = true then
 j18 (z12.1, z12.2.1, z12.2.2.1, z12.2.2.2.1, z12.2.2.2.2.1, true, z12.2.2.2.2.2.2.1, z12.2.2.2.2.2.2.2.1, (), (), z12.2.2.2.2.2.2.2.2.2.2)
 else
 (JR (z12.2.2.2.2.2.2.1, z12.2.2.2.2.2.2.2.1, z12.1, z12.2.1, z12.2.2.2.2.1, ())).bind fun r19 =>
 if (r19.1 == 0) = true then
 j18 (z12.1, z12.2.1, z12.2.2.1, z12.2.2.2.1, z12.2.2.2.2.1, true, z12.2.2.2.2.2.2.1, z12.2.2.2.2.2.2.2.1, (), (), z12.2.2.2.2.2.2.2.2.2.2)
 else
 if bt z12.2.2.2.2.1 z12.2.2.2.2.2.2.1.1.length = true then
 (JU (z12.2.2.2.2.2.2.1, z12.1, z12.2.2.2.2.1, ())).bind fun r20 =>
 if bt r20.1 (List.length (bg ([], 0, 0, 0, [], ()) z12.2.2.2.2.2.2.1.1 z12.2.2.2.2.1).2.2.2.2.1) = true then
 j18
 (z12.1, z12.2.1, z12.2.2.1, z12.2.2.2.1, z12.2.2.2.2.1,
 (bg (0, ()) (bg ([], 0, 0, 0, [], ()) z12.2.2.2.2.2.2.1.1 z12.2.2.2.2.1).2.2.2.2.1 r20.1).1 != z12.2.2.2.1, z12.2.2.2.2.2.2.1,
 z12.2.2.2.2.2.2.2.1, (), (), z12.2.2.2.2.2.2.2.2.2.2)
 else none
 else none
 else j8 (z12.1, z12.2.1, z12.2.2.1, z12.2.2.2.2.2.2.1, z12.2.2.2.2.2.2.2.1, (), (), z12.2.2.2.2.2.2.2.2.2.2.2)
noncomputable def fb (j8 : Ak → Ah) (rc11 : Bf → Ah) (z11 : Bf) : Ah :=
 aa (pg j8 rc11) fun j21 =>
 if decide (z11.2.2.2.2.1 < (↑z11.2.2.2.2.2.1.1.length : Int)) = true then
 if bt z11.2.2.2.1 z11.2.2.2.2.2.2.2.2.2.2.1.length = true then
 if decide (z11.2.2.2.1.toNat + 1 ≤ z11.2.2.2.2.2.2.2.2.2.2.1.length) = true then
 j21
 (z11.1, z11.2.1, z11.2.2.1, z11.2.2.2.1, z11.2.2.2.2.1, (z11.2.2.2.2.2.2.2.2.2.2.1.getD z11.2.2.2.1.toNat (false, ())).1, z11.2.2.2.2.2.1,
 z11.2.2.2.2.2.2.1, (), (), z11.2.2.2.2.2.2.2.2.2)
 else none
 else none
 else j21 (z11.1, z11.2.1, z11.2.2.1, z11.2.2.2.1, z11.2.2.2.2.1, false, z11.2.2.2.2.2.1, z11.2.2.2.2.2.2.1, (), (), z11.2.2.2.2.2.2.2.2.2)
noncomputable def mH (fuel : Nat) (j8 : Ak → Ah) (z10 : B5) : Ah :=
 iter fuel (fb j8) (z10.1, z10.2.1, z10.2.2.1, z10.2.2.2.1, 0, z10.2.2.2.2.1, z10.2.2.2.2.2.1, (), (), z10.2.2.2.2.2.2.2.2)
noncomputable def u6 (j22 : B5 → Ah) (z23 : XI × Ad × B7) : Ah :=
 if z23.2.2.2.2.1 = true then
 if bt z23.2.2.2.1 z23.2.2.2.2.2.2.2.2.2.2.1.length = true then
 if decide (z23.2.2.2.1.toNat + 1 ≤ z23.2.2.2.2.2.2.2.2.2.2.1.length) = true then
 j22
 (z23.1, z23.2.1, z23.2.2.1, z23.2.2.2.1, z23.2.2.2.2.2.1, z23.2.2.2.2.2.2.1, (), (), z23.2.2.2.2.2.2.2.2.2.1,
 z23.2.2.2.2.2.2.2.2.2.2.1.set z23.2.2.2.1.toNat (false, ()), z23.2.2.2.2.2.2.2.2.2.2.2)
 else none
 else none
 else j22 (z23.1, z23.2.1, z23.2.2.1, z23.2.2.2.1, z23.2.2.2.2.2.1, z23.2.2.2.2.2.2.1, (), (), z23.2.2.2.2.2.2.2.2.2)
noncomputable def sk (fuel : Nat) (j8 : Ak → Ah) (z9 : B5) : Ah :=
 aa (mH fuel j8) fun j22 =>
 aa (u6 j22) fun j24 =>
 if (z9.2.2.2.2.2.2.2.2.1.2.1 == 5) = true then
 if bt z9.2.2.2.1 z9.2.2.2.2.2.2.2.2.2.2.2.2.2.1.length = true then
 if decide (z9.2.2.2.1.toNat + 1 ≤ z9.2.2.2.2.2.2.2.2.2.2.2.2.2.1.length) = true then
 j24
 (z9.1, z9.2.1, z9.2.2.1, z9.2.2.2.1, (z9.2.2.2.2.2.2.2.2.2.2.2.2.2.1.getD z9.2.2.2.1.toNat (0, ())).1 == 0, z9.2.2.2.2.1, z9.2.2.2.2.2.1,
 (), (), z9.2.2.2.2.2.2.2.2)
 else none
 else none
 else j24 (z9.1, z9.2.1, z9.2.2.1, z9.2.2.2.1, false, z9.2.2.2.2.1, z9.2.2.2.2.2.1, (), (), z9.2.2.2.2.2.2.2.2)
noncomputable def u7 (j25 : B5 → Ah) (z26 : XI × Ad × B7) : Ah :=
 if z26.2.2.2.2.1 = true then
 if bt z26.2.2.2.1 z26.2.2.2.2.2.2.2.2.2.2.2.2.2.2.1.length = true then
 if decide (z26.2.2.2.1.toNat + 1 ≤ z26.2.2.2.2.2.2.2.2.2.2.2.2.2.2.1.length) = true then
 j25
 (z26.1, z26.2.1, z26.2.2.1, z26.2.2.2.1, z26.2.2.2.2.2.1, z26.2.2.2.2.2.2.1, (), (), z26.2.2.2.2.2.2.2.2.2.1, z26.2.2.2.2.2.2.2.2.2.2.1,
 z26.2.2.2.2.2.2.2.2.2.2.2.1, z26.2.2.2.2.2.2.2.2.2.2.2.2.1, z26.2.2.2.2.2.2.2.2.2.2.2.2.2.1,
 z26.2.2.2.2.2.2.2.2.2.2.2.2.2.2.1.set z26.2.2.2.1.toNat (0, ()), z26.2.2.2.2.2.2.2.2.2.2.2.2.2.2.2)
 else none
 else none
 else j25 (z26.1, z26.2.1, z26.2.2.1, z26.2.2.2.1, z26.2.2.2.2.2.1, z26.2.2.2.2.2.2.1, (), (), z26.2.2.2.2.2.2.2.2.2)
noncomputable def pn (fuel : Nat) (j5 : Bc → Ah) (rc6 : Ak → Ah) (z6 : Ak) : Ah :=
 if decide (0 ≤ z6.2.2.1) = true then
 aa (lM rc6) fun j8 =>
 if bt z6.2.2.1 z6.2.2.2.2.2.2.2.2.1.length = true then
 if decide (z6.2.2.1.toNat + 1 ≤ z6.2.2.2.2.2.2.2.2.1.length) = true then
 if bt (z6.2.2.2.2.2.2.2.2.1.getD z6.2.2.1.toNat (0, ())).1 z6.2.2.2.1.1.length = true then
 aa (sk fuel j8) fun j25 =>
 aa (u7 j25) fun j27 =>
 if ((bg ([], 0, 0, 0, [], ()) z6.2.2.2.1.1 (z6.2.2.2.2.2.2.2.2.1.getD z6.2.2.1.toNat (0, ())).1).2.1 == 5) = true then
 (JR (z6.2.2.2.1, z6.2.2.2.2.1, z6.1, z6.2.1, z6.2.2.2.2.2.2.2.2.1.getD z6.2.2.1.toNat (0, ()))).bind fun r28 =>
 if (r28.1 != 0) = true then
 if bt (z6.2.2.2.2.2.2.2.2.1.getD z6.2.2.1.toNat (0, ())).1 z6.2.2.2.2.2.2.2.2.2.2.2.1.length = true then
 if decide (Int.toNat (z6.2.2.2.2.2.2.2.2.1.getD z6.2.2.1.toNat (0, ())).1 + 1 ≤ z6.2.2.2.2.2.2.2.2.2.2.2.1.length) = true then
 if
 ((z6.2.2.2.2.2.2.2.2.2.2.2.1.getD (Int.toNat (z6.2.2.2.2.2.2.2.2.1.getD z6.2.2.1.toNat (0, ())).1) (0, ())).1 == -1) =
 true then
 if bt (z6.2.2.2.2.2.2.2.2.1.getD z6.2.2.1.toNat (0, ())).1 z6.2.2.2.2.1.1.length = true then
 if bt 0 (List.length (bg ([], ()) z6.2.2.2.2.1.1 (z6.2.2.2.2.2.2.2.2.1.getD z6.2.2.1.toNat (0, ())).1).1) = true then
 j27
 (z6.1, z6.2.1, z6.2.2.1, (z6.2.2.2.2.2.2.2.2.1.getD z6.2.2.1.toNat (0, ())).1,
 (bg (0, ()) (bg ([], ()) z6.2.2.2.2.1.1 (z6.2.2.2.2.2.2.2.2.1.getD z6.2.2.1.toNat (0, ())).1).1 0).1 == 0,
 z6.2.2.2.1, z6.2.2.2.2.1, (), (),
 bg ([], 0, 0, 0, [], ()) z6.2.2.2.1.1 (z6.2.2.2.2.2.2.2.2.1.getD z6.2.2.1.toNat (0, ())).1, z6.2.2.2.2.2.2.2)
 else none
 else none
 else
 j27
 (z6.1, z6.2.1, z6.2.2.1, (z6.2.2.2.2.2.2.2.2.1.getD z6.2.2.1.toNat (0, ())).1, false, z6.2.2.2.1, z6.2.2.2.2.1, (), (),
 bg ([], 0, 0, 0, [], ()) z6.2.2.2.1.1 (z6.2.2.2.2.2.2.2.2.1.getD z6.2.2.1.toNat (0, ())).1, z6.2.2.2.2.2.2.2)
 else none
 else none
 else
 j27
 (z6.1, z6.2.1, z6.2.2.1, (z6.2.2.2.2.2.2.2.2.1.getD z6.2.2.1.toNat (0, ())).1, false, z6.2.2.2.1, z6.2.2.2.2.1, (), (),
 bg ([], 0, 0, 0, [], ()) z6.2.2.2.1.1 (z6.2.2.2.2.2.2.2.2.1.getD z6.2.2.1.toNat (0, ())).1, z6.2.2.2.2.2.2.2)
 else
 j27
 (z6.1, z6.2.1, z6.2.2.1, (z6.2.2.2.2.2.2.2.2.1.getD z6.2.2.1.toNat (0, ())).1, false, z6.2.2.2.1, z6.2.2.2.2.1, (), (),
 bg ([], 0, 0, 0, [], ()) z6.2.2.2.1.1 (z6.2.2.2.2.2.2.2.2.1.getD z6.2.2.1.toNat (0, ())).1, z6.2.2.2.2.2.2.2)
 else none
 else none
 else none
 else j5 ((), (), z6.2.2.2.2.2.2.2.2.2)
noncomputable def x5 (fuel : Nat) (z1 : XI × Ad × Cr) : Ah :=
 (MJ (z1.2.2.1, z1.2.2.2.1, ())).bind fun r2 =>
 (Pr (z1.2.2.1, ())).bind fun r3 =>
 aa sj fun j5 =>
 iter fuel (pn fuel j5)
 (z1.1, z1.2.1, IntKind.i64.wrap ((↑r3.1.length : Int) - 1), z1.2.2.1, z1.2.2.2.1, (), (), r2.1, r3.1, z1.2.2.2.2.2.2)
noncomputable def pk (j29 : XI × Ad × Cr → Ah) (rc30 : XI × Ad × Int × Cr → Ah) (z30 : XI × Ad × Int × Cr) : Ah :=
 if decide (z30.2.2.1 < (↑z30.2.2.2.1.1.length : Int)) = true then
 if decide (z30.2.2.2.2.2.2.2.2.2.1.length + 1 ≤ Abs.cj) = true then
 if decide ((z30.2.2.2.2.2.2.2.2.2.1.length + 1) * 8 ≤ Abs.cj) = true then
 if decide (z30.2.2.2.2.2.2.2.2.2.2.1.length + 1 ≤ Abs.cj) = true then
 if decide ((z30.2.2.2.2.2.2.2.2.2.2.1.length + 1) * 8 ≤ Abs.cj) = true then
 rc30
 (z30.1, z30.2.1, IntKind.i64.wrap (z30.2.2.1 + 1), z30.2.2.2.1, z30.2.2.2.2.1, (), (), z30.2.2.2.2.2.2.2.1, z30.2.2.2.2.2.2.2.2.1,
 z30.2.2.2.2.2.2.2.2.2.1 ++ [(-1, ())], z30.2.2.2.2.2.2.2.2.2.2.1 ++ [(-1, ())], ())
 else none
 else none
 else none
 else none
 else j29 (z30.1, z30.2.1, z30.2.2.2.1, z30.2.2.2.2.1, (), (), z30.2.2.2.2.2.2.2)
noncomputable def Hk (fuel : Nat) (x0 : ez) (x1 : jv) (x2 : XI) (x3 : Ad) : Ah :=
 (JS (x0, x2, x3, ())).bind fun r0 =>
 if (r0.1 != 0) = true then some ((([], [], ()), r0), ())
 else aa (x5 fuel) fun j29 => iter fuel (pk j29) (x2, x3, 0, x0, x1, (), (), [], [], [], [], ())
noncomputable def JQ (x : ez × jv × C3) : Ah := Hk 100000 x.1 x.2.1 x.2.2.1 x.2.2.2.1
/-! 5 baggage/baggagelaw10.TrafficFlows -/
def g5 : ee := ⟨[.v (.ty (.sl (.cons (.int .i64) .nil))), .v (.ty (.sl (.cons (.int .i64) .nil))), .v (.ty (.sl lT))], .v (.ty .bool)⟩
def h5 : HT := (nx (.n (.j ⟨[(0, dL), (1, dL), (2, bH), (32, dB)], [], []⟩ (.r .x) aC) (nx (nx (nx (.n (.r (.w 5 [(0, 0), (0, 1), (0, 3), (0, 4), (2, 2)])) (.n aL (.j ⟨[(1, dL), (2, bH), (7, dR), (8, .ref 1011 2), (9, dP)], [(1010, bM), (1011, bI), (1012, bS)], []⟩ (nx (.u (.l ⟨[(1, dL), (2, bH), (7, bO), (8, bY), (9, bV), (10, dD), (11, .own 1004), (12, dI)], [(1000, bM), (1001, bI), (1002, bS), (1003, bW), (1004, bW)], []⟩ aN))) (.j ⟨[(1, dL), (2, bH), (7, .ref 1013 2), (8, dF), (9, dV), (13, dL), (14, bH)], [(1013, bM), (1014, bI), (1015, bS)], []⟩ (.r (.w 5 [(1, 0), (0, 1), (1, 3), (0, 4), (2, 2)])) (nx (nx (.j ⟨[(1, dL), (2, bH), (8, .ref 1016 2), (9, dM), (13, dL), (14, bH), (15, dL), (16, bH)], [(1016, bI), (1017, bS)], []⟩ (.r (.w 11 [(1, 1), (1, 3), (1, 5), (0, 6), (0, 7), (0, 8), (1, 10), (3, 0), (2, 2), (2, 4), (2, 9)])) (.j ⟨[], [], []⟩ (nx (.u (.l ⟨[(2, bH), (8, dN), (9, dU), (14, bH), (16, bH), (107, .own 1020), (108, dI), (109, dI)], [(1018, bI), (1019, bS), (1020, bP)], []⟩ (nx (.n aF (.j ⟨[(2, bH), (8, .ref 1033 2), (9, .ref 1034 2), (14, bH), (16, bH), (107, .own 1035), (108, dI), (109, dI)], [(1033, bI), (1034, bS), (1035, bP)], []⟩ (.u (nx (nx (.u (.l ⟨[(2, bH), (8, .ref 1021 2), (9, .ref 1022 2), (14, bH), (16, bH), (18, dL), (107, .own 1023), (108, dI), (109, dI), (116, .own 1024), (117, dI), (118, dI)], [(1021, bI), (1022, bS), (1023, bP), (1024, .arr (.cons aH .nil))], []⟩ (nx (.n aF (.n (.u (nx (nx (nx (.j ⟨[(2, bH), (8, .ref 1025 2), (9, .ref 1026 2), (14, bH), (16, bH), (18, dL), (107, .own 1027), (108, dI), (109, dI), (116, .own 1028), (117, dI), (118, dI), (156, dB)], [(1025, bI), (1026, bS), (1027, bP), (1028, .arr (.cons aH .nil))], []⟩ (.r .x) aC))))) (.r .x))))))))) (.r .x))))))) aG)))))))))))))
noncomputable def FI (z12 : Unit) : XB :=
 (JP ()).bind fun r13 => some r13
noncomputable def FJ (rc15 : A6 → XB) (z16 : A6) : XB :=
 rc15 (z16.1, z16.2.1, z16.2.2.1, z16.2.2.2.1, IntKind.i64.wrap (z16.2.2.2.2.1 + 1), z16.2.2.2.2.2)
noncomputable def FK (rc18 : Bd → XB) (z21 : Ad × Ad × Ad × XI × Int × Int × Int × Int × Bool × ez × jv × XL × List Ba × Unit) : XB :=
 if z21.2.2.2.2.2.2.2.2.1 = true then some (false, ())
 else
 rc18
 (z21.1, z21.2.1, z21.2.2.1, z21.2.2.2.1, z21.2.2.2.2.1, z21.2.2.2.2.2.1, z21.2.2.2.2.2.2.1, IntKind.i64.wrap (z21.2.2.2.2.2.2.2.1 + 1),
 z21.2.2.2.2.2.2.2.2.2)
noncomputable def pM (j17 : A6 → XB) (rc18 : Bd → XB) (z18 : Bd) : XB :=
 if decide (z18.2.2.2.2.2.2.2.1 < z18.2.2.2.2.2.2.1) = true then
 if bt z18.2.2.2.2.2.2.2.1 z18.2.2.2.2.2.2.2.2.2.2.2.1.length = true then
 if decide (z18.2.2.2.2.2.2.2.1.toNat + 1 ≤ z18.2.2.2.2.2.2.2.2.2.2.2.1.length) = true then
 (BB (z18.2.2.2.2.2.2.2.2.1, z18.2.2.2.2.2.2.2.2.2.1, z18.2.2.2.1, z18.2.2.2.2.2.2.2.2.2.2.2.1.getD z18.2.2.2.2.2.2.2.1.toNat ([], ()))).bind
 fun r19 =>
 (JQ (z18.2.2.2.2.2.2.2.2.1, z18.2.2.2.2.2.2.2.2.2.1, z18.2.2.2.1, z18.2.2.2.2.2.2.2.2.2.2.2.1.getD z18.2.2.2.2.2.2.2.1.toNat ([], ()))).bind
 fun r20 =>
 aa (FK rc18) fun j22 =>
 if (r19.1.2.1 != r20.1.2.1) = true then
 j22
 (z18.1, z18.2.1, z18.2.2.1, z18.2.2.2.1, z18.2.2.2.2.1, z18.2.2.2.2.2.1, z18.2.2.2.2.2.2.1, z18.2.2.2.2.2.2.2.1, true,
 z18.2.2.2.2.2.2.2.2)
 else
 (Hs (r19.1.1.1, r20.1.1.1, ())).bind fun r23 =>
 if (!r23.1) = true then
 j22
 (z18.1, z18.2.1, z18.2.2.1, z18.2.2.2.1, z18.2.2.2.2.1, z18.2.2.2.2.2.1, z18.2.2.2.2.2.2.1, z18.2.2.2.2.2.2.2.1, true,
 z18.2.2.2.2.2.2.2.2)
 else
 (Hs (r19.1.1.2.1, r20.1.1.2)).bind fun r24 =>
 j22
 (z18.1, z18.2.1, z18.2.2.1, z18.2.2.2.1, z18.2.2.2.2.1, z18.2.2.2.2.2.1, z18.2.2.2.2.2.2.1, z18.2.2.2.2.2.2.2.1, !r24.1,
 z18.2.2.2.2.2.2.2.2)
 else none
 else none
 else j17 (z18.1, z18.2.1, z18.2.2.1, z18.2.2.2.2.1, z18.2.2.2.2.2.1, z18.2.2.2.2.2.2.2.2.1, z18.2.2.2.2.2.2.2.2.2.1, z18.2.2.2.2.2.2.2.2.2.2.1, ())
noncomputable def pL (fuel : Nat) (j14 : Unit → XB) (rc15 : A6 → XB) (z15 : A6) : XB :=
 if decide (z15.2.2.2.2.1 < z15.2.2.2.1) = true then
 aa (FJ rc15) fun j17 =>
 if bt z15.2.2.2.2.1 z15.2.2.2.2.2.2.2.1.length = true then
 if decide (z15.2.2.2.2.1.toNat + 1 ≤ z15.2.2.2.2.2.2.2.1.length) = true then
 iter fuel (pM j17)
 (z15.1, z15.2.1, z15.2.2.1, (z15.2.2.2.2.2.2.2.1.getD z15.2.2.2.2.1.toNat ([], ())).1, z15.2.2.2.1, z15.2.2.2.2.1,
 (↑[(z15.2.1, ()), (z15.1, ()), (z15.2.2.1, ())].length : Int), 0, z15.2.2.2.2.2.1, z15.2.2.2.2.2.2.1, z15.2.2.2.2.2.2.2.1,
 [(z15.2.1, ()), (z15.1, ()), (z15.2.2.1, ())], ())
 else none
 else none
 else j14 ()
noncomputable def FH (fuel : Nat) (z11 : XI × Ad × XI × Ad × XI × Ad × ez × Bv) : XB :=
 aa FI fun j14 =>
 if fa 0 (IntKind.i64.wrap ((↑z11.2.2.1.length : Int) - 1)) z11.2.2.1.length = true then
 iter fuel (pL fuel j14)
 (z11.2.1, z11.2.2.2.1, z11.2.2.2.2.2.1,
 (↑[(z11.2.2.1, ()), (z11.1, ()), (z11.2.2.2.2.1, ()), (ig z11.2.2.1 0 (IntKind.i64.wrap ((↑z11.2.2.1.length : Int) - 1)), ())].length :
 Int),
 0, z11.2.2.2.2.2.2.1, z11.2.2.2.2.2.2.2.1,
 [(z11.2.2.1, ()), (z11.1, ()), (z11.2.2.2.2.1, ()), (ig z11.2.2.1 0 (IntKind.i64.wrap ((↑z11.2.2.1.length : Int) - 1)), ())], ())
 else none
noncomputable def JG (fuel : Nat) (z8 : XI × Ad × Ch) : XB :=
 if decide (0 + z8.2.2.1.length ≤ Abs.cj) = true then
 if decide ((0 + z8.2.2.1.length) * 8 ≤ Abs.cj) = true then
 (oh (z8.2.2.2.2.1, (↑z8.2.2.1.length : Int), ())).bind fun r9 =>
 (rO (r9.2.1, -2, 3, ())).bind fun r10 =>
 if bt r9.1 z8.2.2.1.length = true then
 if decide (r9.1.toNat + 1 ≤ z8.2.2.1.length) = true then
 aa (FH fuel) fun j25 =>
 if decide (0 + z8.2.2.2.1.length ≤ Abs.cj) = true then
 if decide ((0 + z8.2.2.2.1.length) * 24 ≤ Abs.cj) = true then
 (rO (r10.2.1, 0, 3, ())).bind fun r26 =>
 (rO (r26.2.1, -1, (↑z8.2.2.2.2.2.1.1.length : Int), ())).bind fun r27 =>
 (rO (r27.2.1, -1, 3, ())).bind fun r28 =>
 if decide (z8.2.2.2.1.length + 1 ≤ Abs.cj) = true then
 if decide ((z8.2.2.2.1.length + 1) * 24 ≤ Abs.cj) = true then
 j25
 (z8.1, z8.2.1, z8.2.2.1, z8.2.2.2.1, z8.2.2.1.set r9.1.toNat (r10.1, ()), z8.2.2.2.1 ++ [(r26.1, r27.1, r28.1, ())],
 z8.2.2.2.2.2)
 else none
 else none
 else none
 else none
 else none
 else none
 else none
 else none
noncomputable def DH (fuel : Nat) (z7 : Ch) : XB :=
 aa (JG fuel) fun j29 =>
 (Pj (z7.2.2.1, z7.2.2.2.1, ())).bind fun r30 =>
 (Pk (r30.2.1, z7.2.2.2.1, 3, ())).bind fun r31 => j29 (z7.1, z7.2.1, r30.1, r31.1, r31.2.1, z7.2.2.2)
noncomputable def sW (j32 : Ch → XB) (rc33 : Ci → XB) (z33 : Ci) : XB :=
 if decide (z33.2.2.1 < (↑z33.2.2.2.2.2.2.1.length : Int)) = true then
 if bt z33.2.2.1 z33.2.2.2.2.2.2.1.length = true then
 if decide (z33.2.2.1.toNat + 1 ≤ z33.2.2.2.2.2.2.1.length) = true then
 if bt z33.2.2.1 z33.2.2.2.2.2.2.2.1.length = true then
 if decide (z33.2.2.1.toNat + 1 ≤ z33.2.2.2.2.2.2.2.1.length) = true then
 if (!(z33.2.2.2.2.2.2.1.getD z33.2.2.1.toNat (false, ())).1 == (z33.2.2.2.2.2.2.2.1.getD z33.2.2.1.toNat (false, ())).1) = true then
 some (false, ())
 else rc33 (z33.1, z33.2.1, IntKind.i64.wrap (z33.2.2.1 + 1), z33.2.2.2)
 else none
 else none
 else none
 else none
 else j32 (z33.1, z33.2.1, z33.2.2.2.1, z33.2.2.2.2.1, z33.2.2.2.2.2.1, ())
noncomputable def yi (fuel : Nat) (z0 : XI × XI × Ad × Ab) : XB :=
 if z0.2.2.2.1 = true then (JP ()).bind fun r1 => some r1
 else
 (VX (z0.1, ())).bind fun r2 =>
 (Th r2).bind fun r3 =>
 (VY (r3.2.1, r3.1, 12, ())).bind fun r4 =>
 (Pl (r3.1, r4.1, ())).bind fun r5 =>
 (MJ (r3.1, r4.1, ())).bind fun r6 =>
 if ((↑r5.1.length : Int) != (↑r6.1.length : Int)) = true then some (false, ())
 else aa (DH fuel) fun j32 => iter fuel (sW j32) (z0.2.1, z0.2.2.1, 0, r4.2.1, r3.1, r4.1, r5.1, r6)
noncomputable def Td (fuel : Nat) (x0 : XI) (x1 : XI) (x2 : Ad) : XB :=
 aa (yi fuel) fun j34 =>
 if decide (40 < (↑x1.length : Int)) = true then j34 (x0, x1, x2, true, ()) else j34 (x0, x1, x2, decide (12 < (↑x2.length : Int)), ())
noncomputable def VU (x : XI × C3) : XB := Td 100000 x.1 x.2.1 x.2.2.1
end Go.Proofs.YtdkibgdkmnpncaaDoor
