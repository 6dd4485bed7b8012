/- What the functions of the program come to. -/
import Derived.Test.YtjficagemeiecaaDoorLibG
import Derived.Test.YtjficagemeiecaaDoorProg
import Derived.KernelRfl
open Go Go.Proofs Go.Abs
set_option linter.unusedVariables false
set_option maxRecDepth 100000
namespace Go.Proofs.YtjficagemeiecaaDoor
def ty0 : Tys := .cons (.sl (.cons (.int .i64) .nil)) (.cons (.int .i64) .nil)
abbrev Ty0 : Type := List (Int × Unit) × Int × Unit
def ty1 : Tys := .cons (.int .i64) (.cons (.int .i64) (.cons (.int .i64) .nil))
abbrev Ty1 : Type := Int × Int × Int × Unit
def ty2 : Tys := .cons .str (.cons (.int .i64) (.cons (.int .i64) (.cons (.int .i64) (.cons (.sl (.cons (.int .i64) .nil)) .nil))))
abbrev Ty2 : Type := List UInt8 × Int × Int × Int × List (Int × Unit) × Unit
def ty3 : Tys := .cons .str (.cons (.int .i64) (.cons (.int .i64) (.cons (.int .i64) (.cons (.sl (.cons (.int .i64) .nil)) (.cons (.int .i64) (.cons (.int .i64) (.cons (.int .i64) (.cons (.sl (.cons .str .nil)) .nil))))))))
abbrev Ty3 : Type := List UInt8 × Int × Int × Int × List (Int × Unit) × Int × Int × Int × List (List UInt8 × Unit) × Unit
def ty4 : Tys := .cons (.sl ty2) (.cons (.sl ty1) .nil)
abbrev Ty4 : Type := List Ty2 × List Ty1 × Unit
abbrev XI : Type := List (Int × Unit)
abbrev XL : Type := List (XI × Unit)
abbrev XB : Type := Option (Bool × Unit)
abbrev XO0 : Type := Option (Int × Unit)
abbrev XO1 : Type := Option (XI × Unit)
abbrev XO2 : Type := Option (List Ty1 × Ty0 × Unit)
abbrev XO3 : Type := Option (Int × Ty0 × Unit)
def dI : PSlot := .d (.ty (.int .i64))
def dS : PSlot := .d (.ty .str)
def dB : PSlot := .d (.ty .bool)
def dL : PSlot := .d (.ty (.sl (.cons (.int .i64) .nil)))
def nx (a : HT) : HT := .n (.r .x) a
abbrev Tz0 : Type := List UInt8 × Int × Int × Int × Int × Int × Int × Unit
abbrev Tz1 : Type := List UInt8 × Unit
abbrev Aa : Type := List Ty2 × List Ty1 × List Ty2 × List Ty1 × Unit
abbrev Ab : Type := Bool × Unit
abbrev Ac : Type := Tz0 × Tz0 × XI × List Tz1 × XI × List Tz1 × Unit
abbrev Ad : Type := Int × Int × Ty4 × List (Int × Int) × XI × List Ab × Unit
abbrev Ae : Type := Option ((Ty4 × Int × Int × Unit) × Unit)
abbrev Af : Type := Ty4 × Unit
abbrev Ag : Type := Option (Ty4 × Ty0 × Unit)
abbrev Ah : Type := Option ((Ty3 × Ab) × Unit)
abbrev Ai : Type := Int × Unit
abbrev Aj : Type := Int × Int × Ty4 × Ty2 × Unit
abbrev Ak : Type := Int × Int × Int × Int × Int × Ty0 × Unit × Unit × XI × XI × Aa
abbrev Al : Type := XI × Unit
abbrev Am : Type := List UInt8
abbrev An : Type := Int × Unit × Unit × List Ty3 × Aa
abbrev Ao : Type := Int × Int × Af
abbrev Ap : Type := Int × Ty0 × Ty4 × List Ty1 × Unit
abbrev Aq : Type := Int × Int × Ty0 × Unit × Unit × Aa
abbrev Ar : Type := Int × Int × Ty4 × List (Int × Int) × Unit
abbrev As : Type := List Ab
abbrev Au : Type := Int × Bool × Ty4 × Ty2 × Unit
abbrev Av : Type := Int × Int × Ty4 × XI × Al
abbrev Aw : Type := List Tz1
abbrev Ax : Type := Int × Ty4 × Al
abbrev Ay : Type := Int × Int × As × As × Int × Ty4 × Af
abbrev Az : Type := Int × Ai
abbrev A0 : Type := Int × Af
abbrev A1 : Type := Int × Int × Int × Aq
abbrev A2 : Type := Option (Aw × Unit)
abbrev A3 : Type := Int × List Ty2 × Int × Int × XI × Ar
abbrev A4 : Type := List Ty1
abbrev A5 : Type := Am × Int × Am × Int × Aw × Unit
abbrev A6 : Type := As × Int × Int × Av
abbrev A7 : Type := Unit × Unit × Aa
abbrev A8 : Type := Int × Int × As × As × Int × Int × Ty4 × Af
abbrev A9 : Type := Aw × Int × Ac
abbrev Ba : Type := Ty2 × Unit
abbrev Bb : Type := As × Unit
abbrev Bc : Type := Int × Int × Bool × Ax
abbrev Bd : Type := Aw × Int × Int × Bool × Ac
abbrev Be : Type := Int × Int × Int × XI × Ad
abbrev Bf : Type := Aw × Int × Int × Int × Ac
abbrev Bg : Type := XI × Int × Int × Ty0 × Al
abbrev Bh : Type := Int × Ax
abbrev Bi : Type := List Ty2
abbrev Bj : Type := Int × Bool × Ty4 × Al
abbrev Bk : Type := Int × XI × Aj
abbrev Bl : Type := Ty0 × Unit
abbrev Bm : Type := As × Int × Int × Int × Int × Int × Bool × Ty4 × XI × Al
abbrev Bn : Type := Am × Unit
abbrev Bo : Type := Option ((Int × Ab) × Unit)
abbrev Bp : Type := Int × Ap
abbrev Bq : Type := Bool × Af
abbrev Br : Type := Aw × Am × An
abbrev Bs : Type := Ty1 × Unit
abbrev Bt : Type := Int × Int × Bool × Ty0 × Ty4 × A4 × Unit
abbrev Bu : Type := Am × Ai
abbrev Bv : Type := Int × Int × Int × Ad
abbrev Bw : Type := Int × Int × Int × Bb
abbrev Bz : Type := Aw × Am × Unit × Unit × List Ty3 × Aa
abbrev B1 : Type := Int × Az
abbrev B2 : Type := Int × Au
abbrev B3 : Type := Int × Int × Int × Ty4 × Ty2 × Ba
abbrev B4 : Type := Option Bb
abbrev B5 : Type := Option (Ty2 × Bl)
abbrev B6 : Type := XI × Ai
abbrev B7 : Type := List (Int × Int)
abbrev B8 : Type := A4 × Ao
abbrev B9 : Type := Bi × Int × Int × Tz1 × Unit
abbrev Ca : Type := Int × Int × Bool × Ty4 × Bs
def b0 : List PC := [.d (.sl ty2), .d (.sl ty1)]
def b1 : List PC := [.d .str, .d (.int .i64), .d (.int .i64), .d (.int .i64), .d (.sl (.cons (.int .i64) .nil))]
def b2 : List PC := [.d (.sl (.cons (.int .i64) .nil)), .d (.int .i64)]
def b3 : List PC := [.d (.int .i64), .d (.int .i64), .d (.int .i64)]
def aA : Ty := .int .i64
def aB : Tys := .cons aA .nil
def aC : HT := .n (nx .e) .e
def aD : Tys := .cons .str .nil
def aE : HT := nx (.n .e .e)
def aF : Tys := .cons .bool .nil
def aG : HT := nx .e
def aH : HT := .j ⟨[(2, dB)], [], []⟩ (.r .x) .e
def aI : HT := .n .e .e
def aJ : HT := nx aC
def aK : HT := nx (.j ⟨[(6, dB)], [], []⟩ (.r .x) .e)
def aL : HT := .n aE (.n (.u (.r .x)) (.r .x))
def aM : Ty := .sl aF
def aN : HT := nx aG
def aO : Ty := .sl aD
def aP : HT := nx (.n .e (.r .x))
def aQ : HT := .n (.r .q) aC
def aR : HT := nx (.n aI (.n (.u (nx aJ)) (.r .x)))
def aS : HT := .n (.r (.w 6 [(0, 0), (0, 3), (0, 4), (0, 5), (2, 1), (0, 2)])) aC
def aT : HT := nx (.r .x)
def aU : HT := .n aE (.n (.u aQ) (.r .x))
def aV : Ty := .sl ty2
def aW : HT := nx (.j ⟨[(4, dB)], [], []⟩ (.r .x) .e)
def aX : HT := nx (.n aI (.n (.u (nx aQ)) (.r .x)))
def aY : Ty := .sl ty1
def aZ : HT := nx (.n .e aP)
def a0 : HT := .n aE (.n (.u aJ) (.r .x))
def a7 : HT := nx aH
def a8 : PObj := .box b0
def a9 : PObj := .arr aB
def bA : PObj := .arr ty1
def bB : PObj := .arr ty2
def bC : PSlot := .ref 900000 2
def bD : PSlot := .ref 1000 2
def bE : PSlot := .d (.ty aM)
def bF : PObj := .arr aD
def bG : PSlot := .d (.ty aO)
def bH : PObj := .box b1
def bI : PObj := .box b2
def bJ : PSlot := .ref 1002 2
def bK : PSlot := .ref 1004 2
def bL : PSlot := .d (.ty aV)
def bM : PSlot := .ref 1006 2
def bN : PSlot := .ref 1001 2
def bO : PSlot := .ref 1008 2
def bP : PSlot := .ref 1003 2
def bQ : PObj := .arr ty3
def bR : PSlot := .own 1001
def bS : PObj := .arr aF
def bT : PSlot := .ref 1001 5
def bU : PSlot := .ref 1012 2
def bV : PSlot := .d (.ty aY)
def bW : PSlot := .own 1003
def bX : PSlot := .ref 1014 2
def bY : PSlot := .ref 1007 2
def bZ : PSlot := .ref 1009 2
noncomputable def bd (f : Func) : Code := f.body.getD .skip
def G : List (Nat × TD) := [(3, .int .i64), (4, .bool), (5, .int .u8), (9, .str), (22, .slice ty2 64), (23, .slice ty1 24), (25, .struct ty4 [(0, false, 1), (1, false, 1)] false), (26, .slice (.cons (.int .i64) .nil) 8), (27, .slice (.cons .bool .nil) 1), (30, .nl .nilP), (38, .nl .nilF), (40, .struct ty2 [(0, false, 1), (1, false, 1), (2, false, 1), (3, false, 1), (4, false, 1)] false), (47, .int .i64), (51, .struct ty0 [(0, false, 1), (1, false, 1)] false), (53, .slice (.cons (.int .u8) .nil) 1), (55, .int .u64), (62, .slice (.cons .str .nil) 16), (64, .slice ty3 112), (66, .struct ty1 [(0, false, 1), (1, false, 1), (2, false, 1)] true), (68, .struct ty3 [(0, true, 5), (5, true, 3), (8, false, 1)] false), (80, .nl .nilF), (86, .map .i64 .i64), (90, .nl .nilF)]
def lit0 : List UInt8 := [101, 110, 116, 114, 121, 32, 65, 32, 50, 32, 48, 32, 62, 32, 71, 10, 103, 97, 116, 101, 32, 71, 32, 49, 32, 48, 32, 62, 32, 77, 32, 67, 10, 99, 104, 117, 116, 101, 32, 67, 32, 49, 10, 109, 97, 110, 117, 97, 108, 32, 77, 32, 48, 10, 115, 99, 97, 110, 110, 101, 114, 32, 71, 32, 48, 10]
/-! 44 baggage/fields.Strip -/
def g44 : Sig := ⟨[.v (.ty (.int .i64))], .v (.ty .bool)⟩
def h44 : HT := a7
noncomputable def sh44_K0 (z0 : Ab) : XB :=
 some z0
noncomputable def sh44 (fuel : Nat) (x0 : Int) : XB :=
 joinK sh44_K0 fun j1 => if decide (1 ≤ x0) = true then j1 (decide (x0 ≤ 6), ()) else j1 (false, ())
noncomputable def sp44 (x : Ai) : XB := sh44 0 x.1
/-! 33 baggage/route.bin -/
def g33 : Sig := ⟨[.v (.ag ty4), .v (.ty (.int .i64))], .v (.ty .bool)⟩
def h33 : HT := aW
noncomputable def sh33_K0 (z0 : Ab) : XB :=
 some z0
noncomputable def sh33 (fuel : Nat) (x0 : Ty4) (x1 : Int) : XB :=
 joinK sh33_K0 fun j1 =>
 if decide (0 ≤ x1) = true then
 if decide (x1 < (↑x0.1.length : Int)) = true then
 if inR x1 x0.1.length = true then (sp44 ((lAt ([], 0, 0, 0, [], ()) x0.1 x1).2.1, ())).bind fun r2 => j1 (!r2.1, ()) else none
 else j1 (false, ())
 else j1 (false, ())
noncomputable def sp33 (x : Ty4 × Ai) : XB := sh33 0 x.1 x.2.1
/-! 72 baggage/fields.Letter -/
def g72 : Sig := ⟨[.v (.ty (.int .u8))], .v (.ty .bool)⟩
def h72 : HT := a7
noncomputable def sh72_K0 (z0 : Ab) : XB :=
 some z0
noncomputable def sh72 (fuel : Nat) (x0 : Int) : XB :=
 joinK sh72_K0 fun j1 => if decide (65 ≤ x0) = true then j1 (decide (x0 ≤ 90), ()) else j1 (false, ())
noncomputable def sp72 (x : Ai) : XB := sh72 0 x.1
noncomputable def c73 : Code := bd Tryd.f73
/-! 75 baggage/fields.Digit -/
def g75 : Sig := ⟨[.v (.ty (.int .u8))], .v (.ty .bool)⟩
def h75 : HT := a7
noncomputable def sh75_K0 (z0 : Ab) : XB :=
 some z0
noncomputable def sh75 (fuel : Nat) (x0 : Int) : XB :=
 joinK sh75_K0 fun j1 => if decide (48 ≤ x0) = true then j1 (decide (x0 ≤ 57), ()) else j1 (false, ())
noncomputable def sp75 (x : Ai) : XB := sh75 0 x.1
noncomputable def c74 : Code := bd Tryd.f74
/-! 61 baggage/fields.Name -/
noncomputable def c61 : Code := bd Tryd.f61
def g61 : Sig := ⟨[.v (.ty .str), .v (.ty (.int .i64))], .v (.ty .bool)⟩
def h61 : HT := (nx (.j ⟨[(4, dB)], [], []⟩ (.ri .x [(20, 0, (nx (.j ⟨[(18, dB)], [], []⟩ (nx (.u (.l ⟨[(18, dB), (22, dS), (23, .cst (.fn 74)), (29, dI), (30, dI)], [], []⟩ (nx (.n aI (.n (.u (nx (.n (.ri .x [(37, 0, (nx (.j ⟨[(18, dB), (22, dS), (23, .cst (.fn 74)), (29, dI), (30, dI), (42, dB)], [], []⟩ (.r .x) .e)))]) aC))) (.r .x))))))) aG)))]) .e))
noncomputable def FT61 : List (Nat × Entry) := [(72, ⟨g72, sp72⟩), (75, ⟨g75, sp75⟩)]
noncomputable def IT61 : List (Nat × Inl) := [(73, ⟨18, [.tmp 4], c73⟩), (74, ⟨9, [.tmp 2], c74⟩)]
def MT61 : MTab := []
noncomputable def sh61_K0 (z0 : Ab) : XB :=
 some z0
noncomputable def sh61_K3 (j1 : Ab → XB) (z3 : Ab) : XB :=
 if z3.1 = true then j1 (true, ()) else j1 (false, ())
noncomputable def sh61_K6 (j1 : Ab → XB) (rc5 : Bool × Am × Az → XB) (z6 : Bool × Am × Int × Int × Ab) : XB :=
 if (!z6.2.2.2.2.1) = true then if z6.1 = true then j1 (false, ()) else j1 (false, ())
 else rc5 (z6.1, z6.2.1, z6.2.2.1, IntKind.i64.wrap (z6.2.2.2.1 + 1), ())
noncomputable def sh61_L5 (j1 : Ab → XB) (j4 : Ab → XB) (rc5 : Bool × Am × Az → XB) (z5 : Bool × Am × Az) : XB :=
 if decide (z5.2.2.2.1 < z5.2.2.1) = true then
 if inR z5.2.2.2.1 z5.2.1.length = true then
 joinK (sh61_K6 j1 rc5) fun j7 =>
 (sp72 (sAt z5.2.1 z5.2.2.2.1, ())).bind fun r8 =>
 if r8.1 = true then j7 (z5.1, z5.2.1, z5.2.2.1, z5.2.2.2.1, true, ())
 else (sp75 (sAt z5.2.1 z5.2.2.2.1, ())).bind fun r9 => j7 (z5.1, z5.2.1, z5.2.2.1, z5.2.2.2.1, r9)
 else none
 else j4 (z5.1, ())
noncomputable def sh61 (fuel : Nat) (x0 : Am) (x1 : Int) : XB :=
 joinK sh61_K0 fun j1 =>
 if (!x0 == []) = true then
 if decide ((↑x0.length : Int) ≤ x1) = true then
 if inR 0 x0.length = true then
 (sp72 (sAt x0 0, ())).bind fun r2 =>
 if r2.1 = true then joinK (sh61_K3 j1) fun j4 => iter fuel (sh61_L5 j1 j4) (true, x0, (↑x0.length : Int), 0, ()) else j1 (false, ())
 else none
 else j1 (false, ())
 else j1 (false, ())
noncomputable def sp61 (x : Bu) : XB := sh61 100000 x.1 x.2.1
/-! 62 baggage/layout.length -/
def g62 : Sig := ⟨[.v (.ag ty2)], .v (.ty .bool)⟩
def h62 : HT := (nx (.n (.u (nx (.n aG (nx (.n aH .e))))) aH))
noncomputable def sh62_K1 (z1 : Ab) : XB :=
 some z1
noncomputable def sh62_K3 (z3 : Ab) : XB :=
 some z3
noncomputable def sh62 (fuel : Nat) (x0 : Ty2) : XB :=
 (sp44 (x0.2.1, ())).bind fun r0 =>
 if (!r0.1) = true then some (x0.2.2.1 == 0, ())
 else
 if (x0.2.1 == 5) = true then joinK sh62_K1 fun j2 => if decide (2 ≤ x0.2.2.1) = true then j2 (decide (x0.2.2.1 ≤ 8), ()) else j2 (false, ())
 else joinK sh62_K3 fun j4 => if decide (1 ≤ x0.2.2.1) = true then j4 (decide (x0.2.2.1 ≤ 8), ()) else j4 (false, ())
noncomputable def sp62 (x : Ba) : XB := sh62 0 x.1
/-! 76 baggage/layout.exits -/
def g76 : Sig := ⟨[.v (.ty (.int .i64))], .v (.ty (.int .i64))⟩
def h76 : HT := (nx (.n (nx (.u (.j ⟨[(3, dI), (4, dB)], [], []⟩ aP (.n aG (.j ⟨[(7, dB)], [], []⟩ aZ aC))))) aG))
noncomputable def sh76_K1 (z1 : Ab) : XO0 :=
 if z1.1 = true then some (2, ()) else some (1, ())
noncomputable def sh76_K0 (z0 : Int × Ab) : XO0 :=
 if z0.2.1 = true then some (0, ())
 else joinK sh76_K1 fun j2 => if (z0.1 == 4) = true then j2 (z0.1 == 4, ()) else if (z0.1 == 5) = true then j2 (z0.1 == 5, ()) else j2 (z0.1 == 6, ())
noncomputable def sh76 (fuel : Nat) (x0 : Int) : XO0 :=
 joinK sh76_K0 fun j3 => if (x0 == 8) = true then j3 (x0, x0 == 8, ()) else j3 (x0, x0 == 9, ())
noncomputable def sp76 (x : Ai) : XO0 := sh76 0 x.1
/-! 80 slices.Index[[]int,int] -/
def g80 : Sig := ⟨[.v (.ty (.sl (.cons (.int .i64) .nil))), .v (.ty (.int .i64))], .v (.ty (.int .i64))⟩
def h80 : HT := (nx (.j ⟨[], [], []⟩ (nx (.u (.l ⟨[(0, dL), (1, dI), (7, dI), (8, dI)], [], []⟩ aR))) aG))
noncomputable def sh80_K0 (z0 : Unit) : XO0 :=
 some (-1, ())
noncomputable def sh80_L2 (j1 : Unit → XO0) (rc2 : XI × B1 → XO0) (z2 : XI × B1) : XO0 :=
 if decide (z2.2.2.2.1 < z2.2.2.1) = true then
 if inR z2.2.2.2.1 z2.1.length = true then
 if (z2.2.1 == (lAt (0, ()) z2.1 z2.2.2.2.1).1) = true then some z2.2.2.2 else rc2 (z2.1, z2.2.1, z2.2.2.1, IntKind.i64.wrap (z2.2.2.2.1 + 1), ())
 else none
 else j1 ()
noncomputable def sh80 (fuel : Nat) (x0 : XI) (x1 : Int) : XO0 :=
 joinK sh80_K0 fun j1 => iter fuel (sh80_L2 j1) (x0, x1, (↑x0.length : Int), 0, ())
noncomputable def sp80 (x : B6) : XO0 := sh80 100000 x.1 x.2.1
/-! 77 slices.Contains[[]int,int] -/
def g77 : Sig := ⟨[.v (.ty (.sl (.cons (.int .i64) .nil))), .v (.ty (.int .i64))], .v (.ty .bool)⟩
def h77 : HT := aN
noncomputable def sh77 (fuel : Nat) (x0 : XI) (x1 : Int) : XB :=
 (sp80 (x0, x1, ())).bind fun r0 => some (decide (0 ≤ r0.1), ())
noncomputable def sp77 (x : B6) : XB := sh77 0 x.1 x.2.1
/-! 63 baggage/layout.leads -/
def g63 : Sig := ⟨[.v (.ag ty4), .v (.ty (.int .i64))], .v (.ty .bool)⟩
def h63 : HT := (nx (nx (.n aQ (.j ⟨[], [], []⟩ (nx (.u (.l ⟨[(1, dI), (2, bD), (5, bT), (22, dL), (23, dI), (24, dI)], [(1000, a8), (1001, bH)], []⟩ (nx (.n aI (.n (.u (nx (.j ⟨[(1, dI), (2, bJ), (5, .ref 1003 5), (6, dI), (7, dI), (8, dB), (22, dL), (23, dI), (24, dI)], [(1002, a8), (1003, bH)], []⟩ (.r .x) (.j ⟨[(1, dI), (2, bK), (5, .ref 1005 5), (22, dL), (23, dI), (24, dI), (59, dB)], [(1004, a8), (1005, bH)], []⟩ (.r .x) aC)))) (.r .x))))))) aG))))
noncomputable def sh63_K1 (z1 : Unit) : XB :=
 some (true, ())
noncomputable def sh63_K5 (rc3 : Bk → XB) (z5 : Int × XI × B2) : XB :=
 if z5.2.2.2.2.1 = true then some (false, ()) else rc3 (z5.1, z5.2.1, z5.2.2.1, IntKind.i64.wrap (z5.2.2.2.1 + 1), z5.2.2.2.2.2)
noncomputable def sh63_K4 (rc3 : Bk → XB) (z4 : Int × Int × Int × Bool × XI × Aj) : XB :=
 joinK (sh63_K5 rc3) fun j6 =>
 if decide (z4.2.2.1 < 0) = true then j6 (z4.1, z4.2.2.2.2.1, z4.2.2.2.2.2.1, z4.2.2.2.2.2.2.1, true, z4.2.2.2.2.2.2.2)
 else
 if decide ((↑z4.2.2.2.2.2.2.2.1.1.length : Int) ≤ z4.2.2.1) = true then
 j6 (z4.1, z4.2.2.2.2.1, z4.2.2.2.2.2.1, z4.2.2.2.2.2.2.1, true, z4.2.2.2.2.2.2.2)
 else
 if (!(z4.2.2.1 == z4.1) == z4.2.2.2.1) = true then j6 (z4.1, z4.2.2.2.2.1, z4.2.2.2.2.2.1, z4.2.2.2.2.2.2.1, true, z4.2.2.2.2.2.2.2)
 else
 if inCut 0 z4.2.1 z4.2.2.2.2.2.2.2.2.1.2.2.2.2.1.length = true then
 (sp77 (cutL z4.2.2.2.2.2.2.2.2.1.2.2.2.2.1 0 z4.2.1, z4.2.2.1, ())).bind fun r7 =>
 j6 (z4.1, z4.2.2.2.2.1, z4.2.2.2.2.2.1, z4.2.2.2.2.2.2.1, r7.1, z4.2.2.2.2.2.2.2)
 else none
noncomputable def sh63_L3 (j2 : Unit → XB) (rc3 : Bk → XB) (z3 : Bk) : XB :=
 if decide (z3.2.2.2.1 < z3.2.2.1) = true then
 if inR z3.2.2.2.1 z3.2.1.length = true then
 joinK (sh63_K4 rc3) fun j8 =>
 if (z3.2.2.2.2.2.1.2.1 == 5) = true then j8 (z3.1, z3.2.2.2.1, (lAt (0, ()) z3.2.1 z3.2.2.2.1).1, z3.2.2.2.1 == 0, z3.2)
 else j8 (z3.1, z3.2.2.2.1, (lAt (0, ()) z3.2.1 z3.2.2.2.1).1, false, z3.2)
 else none
 else j2 ()
noncomputable def sh63 (fuel : Nat) (x0 : Ty4) (x1 : Int) : XB :=
 if inR x1 x0.1.length = true then
 (sp76 ((lAt ([], 0, 0, 0, [], ()) x0.1 x1).2.1, ())).bind fun r0 =>
 if ((↑(List.length (lAt ([], 0, 0, 0, [], ()) x0.1 x1).2.2.2.2.1) : Int) != r0.1) = true then some (false, ())
 else
 joinK sh63_K1 fun j2 =>
 iter fuel (sh63_L3 j2)
 (x1, (lAt ([], 0, 0, 0, [], ()) x0.1 x1).2.2.2.2.1, (↑(List.length (lAt ([], 0, 0, 0, [], ()) x0.1 x1).2.2.2.2.1) : Int), 0, x0,
 lAt ([], 0, 0, 0, [], ()) x0.1 x1, ())
 else none
noncomputable def sp63 (x : Ty4 × Ai) : XB := sh63 100000 x.1 x.2.1
/-! 45 baggage/layout.node -/
def g45 : Sig := ⟨[.v (.ag ty4), .v (.ty (.int .i64))], .v (.ty (.int .i64))⟩
def h45 : HT := (nx (nx (.n (.u (nx (.n aG (.j ⟨[(1, dI), (2, bD), (5, bT), (16, dB)], [(1000, a8), (1001, bH)], []⟩ (.r .x) (.n aG (.j ⟨[(25, dB)], [], []⟩ (.r .x) aC)))))) aG)))
noncomputable def sh45_K2 (z2 : Ab) : XO0 :=
 if z2.1 = true then some (1, ()) else some (0, ())
noncomputable def sh45_K1 (z1 : Au) : XO0 :=
 if z1.2.1 = true then some (4, ())
 else
 joinK sh45_K2 fun j3 =>
 (sp62 z1.2.2.2).bind fun r4 =>
 if (!r4.1) = true then j3 (true, ())
 else
 if (z1.2.2.2.1.2.2.2.1 != 0) = true then
 if (z1.2.2.2.1.2.2.2.1 != 1) = true then j3 (true, ()) else (sp63 (z1.2.2.1, z1.1, ())).bind fun r5 => j3 (!r5.1, ())
 else (sp63 (z1.2.2.1, z1.1, ())).bind fun r6 => j3 (!r6.1, ())
noncomputable def sh45 (fuel : Nat) (x0 : Ty4) (x1 : Int) : XO0 :=
 if inR x1 x0.1.length = true then
 (sp61 ((lAt ([], 0, 0, 0, [], ()) x0.1 x1).1, 12, ())).bind fun r0 =>
 if (!r0.1) = true then some (3, ())
 else
 joinK sh45_K1 fun j7 =>
 if decide ((lAt ([], 0, 0, 0, [], ()) x0.1 x1).2.1 < 1) = true then j7 (x1, true, x0, lAt ([], 0, 0, 0, [], ()) x0.1 x1, ())
 else j7 (x1, decide (9 < (lAt ([], 0, 0, 0, [], ()) x0.1 x1).2.1), x0, lAt ([], 0, 0, 0, [], ()) x0.1 x1, ())
 else none
noncomputable def sp45 (x : Ty4 × Ai) : XO0 := sh45 0 x.1 x.2.1
/-! 46 baggage/layout.total -/
def g46 : Sig := ⟨[.v (.ag ty4)], .v (.ty (.int .i64))⟩
def h46 : HT := (nx (nx (.j ⟨[(3, dI)], [], []⟩ (nx (.u (.l ⟨[(3, dI), (7, bL), (8, dI), (9, dI)], [], []⟩ (nx (.n aI (.n (.u aT) (.r .x))))))) aG)))
noncomputable def sh46_K0 (z0 : Ai) : XO0 :=
 some z0
noncomputable def sh46_L2 (j1 : Ai → XO0) (rc2 : Int × Bi × Az → XO0) (z2 : Int × Bi × Az) : XO0 :=
 if decide (z2.2.2.2.1 < z2.2.2.1) = true then
 if inR z2.2.2.2.1 z2.2.1.length = true then
 rc2 (IntKind.i64.wrap (z2.1 + (lAt ([], 0, 0, 0, [], ()) z2.2.1 z2.2.2.2.1).2.2.1), z2.2.1, z2.2.2.1, IntKind.i64.wrap (z2.2.2.2.1 + 1), ())
 else none
 else j1 (z2.1, ())
noncomputable def sh46 (fuel : Nat) (x0 : Ty4) : XO0 :=
 joinK sh46_K0 fun j1 => iter fuel (sh46_L2 j1) (0, x0.1, (↑x0.1.length : Int), 0, ())
noncomputable def sp46 (x : Af) : XO0 := sh46 100000 x.1
noncomputable def c78 : Code := bd Tryd.f78
noncomputable def c66 : Code := bd Tryd.f66
/-! 64 baggage/layout.Find -/
noncomputable def c64 : Code := bd Tryd.f64
def g64 : Sig := ⟨[.v (.ag ty4), .v (.ty .str)], .v (.ty (.int .i64))⟩
def h64 : HT := (nx (.j ⟨[(4, dI)], [], []⟩ (.ri .x [(8, 0, (nx (.j ⟨[], [], []⟩ (nx (.u (.l ⟨[(9, bL), (10, .wrp (some 78, 0) [(1000, 1)]), (16, dI), (17, dI)], [(1000, .box [.d .str])], []⟩ (nx (.n aI (.n (.u (nx (.n (.ri .x [(25, 0, aN)]) aC))) (.r .x))))))) aG)))]) .e))
noncomputable def FT64 : List (Nat × Entry) := []
noncomputable def IT64 : List (Nat × Inl) := [(66, ⟨19, [.tmp 4], c66⟩), (78, ⟨8, [.tmp 3], c78⟩)]
def MT64 : MTab := []
noncomputable def sh64_K0 (z0 : Ai) : XO0 :=
 some z0
noncomputable def sh64_K2 (j1 : Ai → XO0) (z2 : Unit) : XO0 :=
 j1 (-1, ())
noncomputable def sh64_L4 (j1 : Ai → XO0) (j3 : Unit → XO0) (rc4 : B9 → XO0) (z4 : B9) : XO0 :=
 if decide (z4.2.2.1 < z4.2.1) = true then
 if inR z4.2.2.1 z4.1.length = true then
 if ((lAt ([], 0, 0, 0, [], ()) z4.1 z4.2.2.1).1 == z4.2.2.2.1.1) = true then j1 (z4.2.2.1, ())
 else rc4 (z4.1, z4.2.1, IntKind.i64.wrap (z4.2.2.1 + 1), z4.2.2.2)
 else none
 else j3 ()
noncomputable def sh64 (fuel : Nat) (x0 : Ty4) (x1 : Am) : XO0 :=
 joinK sh64_K0 fun j1 => joinK (sh64_K2 j1) fun j3 => iter fuel (sh64_L4 j1 j3) (x0.1, (↑x0.1.length : Int), 0, (x1, ()), ())
noncomputable def sp64 (x : Ty4 × Bn) : XO0 := sh64 100000 x.1 x.2.1
/-! 47 baggage/layout.named -/
def g47 : Sig := ⟨[.v (.ag ty4)], .v (.ty .bool)⟩
def h47 : HT := (nx (.j ⟨[], [], []⟩ (nx (.u (.l ⟨[(1, bD), (6, bL), (7, dI), (8, dI)], [(1000, a8)], []⟩ aR))) aG))
noncomputable def sh47_K0 (z0 : Unit) : XB :=
 some (true, ())
noncomputable def sh47_L2 (j1 : Unit → XB) (rc2 : Bi × Ao → XB) (z2 : Bi × Ao) : XB :=
 if decide (z2.2.2.1 < z2.2.1) = true then
 if inR z2.2.2.1 z2.1.length = true then
 (sp64 (z2.2.2.2.1, (lAt ([], 0, 0, 0, [], ()) z2.1 z2.2.2.1).1, ())).bind fun r3 =>
 if (r3.1 != z2.2.2.1) = true then some (false, ()) else rc2 (z2.1, z2.2.1, IntKind.i64.wrap (z2.2.2.1 + 1), z2.2.2.2)
 else none
 else j1 ()
noncomputable def sh47 (fuel : Nat) (x0 : Ty4) : XB :=
 joinK sh47_K0 fun j1 => iter fuel (sh47_L2 j1) (x0.1, (↑x0.1.length : Int), 0, x0, ())
noncomputable def sp47 (x : Af) : XB := sh47 100000 x.1
/-! 48 baggage/layout.zoned -/
def g48 : Sig := ⟨[.v (.ag ty4), .v (.ty (.int .i64))], .v (.ty .bool)⟩
def h48 : HT := (nx (nx (.j ⟨[(2, bK), (5, .ref 1005 5)], [(1004, a8), (1005, bH)], []⟩ (nx (.u (.j ⟨[(2, bD), (5, bT), (15, dI), (16, dB)], [(1000, a8), (1001, bH)], []⟩ aZ (.n aJ (.j ⟨[(2, bJ), (5, .ref 1003 5), (23, dB)], [(1002, a8), (1003, bH)], []⟩ aP (.n aJ .e)))))) (.j ⟨[], [], []⟩ (nx (.u (.l ⟨[(2, bM), (5, .ref 1007 5), (30, dL), (31, dI), (32, dI)], [(1006, a8), (1007, bH)], []⟩ (nx (.n aI (.n (.u (nx (nx (.j ⟨[(2, .ref 1010 2), (5, .ref 1011 5), (7, dI), (8, dI), (30, dL), (31, dI), (32, dI)], [(1010, a8), (1011, bH)], []⟩ (.j ⟨[(2, bO), (5, .ref 1009 5), (7, dI), (8, dI), (30, dL), (31, dI), (32, dI), (45, dB)], [(1008, a8), (1009, bH)], []⟩ (.r .x) aG) (.j ⟨[(2, bU), (5, .ref 1013 5), (30, dL), (31, dI), (32, dI), (62, dB)], [(1012, a8), (1013, bH)], []⟩ (.r .x) aC))))) (.r .x))))))) aG))))
noncomputable def sh48_K1 (z1 : Unit) : XB :=
 some (true, ())
noncomputable def sh48_K5 (rc3 : XI × Aj → XB) (z5 : XI × B2) : XB :=
 if z5.2.2.2.1 = true then some (false, ()) else rc3 (z5.1, z5.2.1, IntKind.i64.wrap (z5.2.2.1 + 1), z5.2.2.2.2)
noncomputable def sh48_K4 (rc3 : XI × Aj → XB) (z4 : Int × Bk) : XB :=
 joinK (sh48_K5 rc3) fun j6 =>
 if inR z4.1 z4.2.2.2.2.2.1.1.length = true then
 if ((lAt ([], 0, 0, 0, [], ()) z4.2.2.2.2.2.1.1 z4.1).2.1 == 1) = true then j6 (z4.2.2.1, z4.2.2.2.1, z4.2.2.2.2.1, true, z4.2.2.2.2.2)
 else
 if inR z4.1 z4.2.2.2.2.2.1.1.length = true then
 j6 (z4.2.2.1, z4.2.2.2.1, z4.2.2.2.2.1, (lAt ([], 0, 0, 0, [], ()) z4.2.2.2.2.2.1.1 z4.1).2.2.2.1 != z4.2.1, z4.2.2.2.2.2)
 else none
 else none
noncomputable def sh48_K8 (j7 : Int × Bk → XB) (z8 : Int × Int × XI × B2) : XB :=
 if z8.2.2.2.2.2.1 = true then j7 (z8.1, 1, z8.2.2.1, z8.2.2.2.1, z8.2.2.2.2.1, z8.2.2.2.2.2.2)
 else j7 (z8.1, z8.2.1, z8.2.2.1, z8.2.2.2.1, z8.2.2.2.2.1, z8.2.2.2.2.2.2)
noncomputable def sh48_L3 (j2 : Unit → XB) (rc3 : XI × Aj → XB) (z3 : XI × Aj) : XB :=
 if decide (z3.2.2.1 < z3.2.1) = true then
 if inR z3.2.2.1 z3.1.length = true then
 joinK (sh48_K4 rc3) fun j7 =>
 joinK (sh48_K8 j7) fun j9 =>
 if (z3.2.2.2.2.1.2.1 == 6) = true then
 j9 ((lAt (0, ()) z3.1 z3.2.2.1).1, z3.2.2.2.2.1.2.2.2.1, z3.1, z3.2.1, z3.2.2.1, z3.2.2.1 == 1, z3.2.2.2)
 else j9 ((lAt (0, ()) z3.1 z3.2.2.1).1, z3.2.2.2.2.1.2.2.2.1, z3.1, z3.2.1, z3.2.2.1, false, z3.2.2.2)
 else none
 else j2 ()
noncomputable def sh48_K0 (fuel : Nat) (z0 : Ty4 × Ba) : XB :=
 joinK sh48_K1 fun j2 => iter fuel (sh48_L3 j2) (z0.2.1.2.2.2.2.1, (↑z0.2.1.2.2.2.2.1.length : Int), 0, z0)
noncomputable def sh48_K12 (j10 : Ty4 × Ba → XB) (z12 : Bool × Ty4 × Ba) : XB :=
 if z12.1 = true then if (z12.2.2.1.2.2.2.1 != 1) = true then some (false, ()) else j10 z12.2 else j10 z12.2
noncomputable def sh48_K11 (j10 : Ty4 × Ba → XB) (z11 : Au) : XB :=
 if z11.2.1 = true then if (z11.2.2.2.1.2.2.2.1 != 0) = true then some (false, ()) else j10 z11.2.2
 else joinK (sh48_K12 j10) fun j13 => if (z11.1 == 7) = true then j13 (z11.1 == 7, z11.2.2) else j13 (z11.1 == 8, z11.2.2)
noncomputable def sh48 (fuel : Nat) (x0 : Ty4) (x1 : Int) : XB :=
 if inR x1 x0.1.length = true then
 joinK (sh48_K0 fuel) fun j10 =>
 joinK (sh48_K11 j10) fun j14 =>
 if ((lAt ([], 0, 0, 0, [], ()) x0.1 x1).2.1 == 1) = true then
 j14 ((lAt ([], 0, 0, 0, [], ()) x0.1 x1).2.1, (lAt ([], 0, 0, 0, [], ()) x0.1 x1).2.1 == 1, x0, lAt ([], 0, 0, 0, [], ()) x0.1 x1, ())
 else
 if ((lAt ([], 0, 0, 0, [], ()) x0.1 x1).2.1 == 3) = true then
 j14 ((lAt ([], 0, 0, 0, [], ()) x0.1 x1).2.1, (lAt ([], 0, 0, 0, [], ()) x0.1 x1).2.1 == 3, x0, lAt ([], 0, 0, 0, [], ()) x0.1 x1, ())
 else j14 ((lAt ([], 0, 0, 0, [], ()) x0.1 x1).2.1, (lAt ([], 0, 0, 0, [], ()) x0.1 x1).2.1 == 6, x0, lAt ([], 0, 0, 0, [], ()) x0.1 x1, ())
 else none
noncomputable def sp48 (x : Ty4 × Ai) : XB := sh48 100000 x.1 x.2.1
/-! 49 baggage/layout.sorted -/
def g49 : Sig := ⟨[.v (.ag ty4)], .own (.cons (.int .i64) .nil)⟩
def h49 : HT := (nx (nx (.j ⟨[(1, bU), (3, .wrp (some 0, 1) [(1013, 0)])], [(1012, a8), (1013, .mp .i64 .i64)], []⟩ (nx (.u (.l ⟨[(1, bD), (3, .wrp (some 0, 1) [(1001, 0)]), (16, bL), (17, dI), (18, dI)], [(1000, a8), (1001, .mp .i64 .i64)], []⟩ (nx (.n aI (.j ⟨[(1, bO), (3, .wrp (some 0, 1) [(1009, 0)]), (16, bL), (17, dI), (18, dI)], [(1008, a8), (1009, .mp .i64 .i64)], []⟩ (.u (nx (nx (.u (.l ⟨[(1, bJ), (3, .wrp (some 0, 1) [(1003, 0)]), (4, dI), (16, bL), (17, dI), (18, dI), (24, dL), (25, dI), (26, dI)], [(1002, a8), (1003, .mp .i64 .i64)], []⟩ (nx (.n aI (.j ⟨[(1, bK), (3, .wrp (some 0, 1) [(1005, 0)]), (4, dI), (16, bL), (17, dI), (18, dI), (24, dL), (25, dI), (26, dI)], [(1004, a8), (1005, .mp .i64 .i64)], []⟩ (.u (nx aN)) (.r .x))))))))) (.r .x))))))) (nx (nx (.j ⟨[(8, .own 1054)], [(1054, a9)], []⟩ (nx (.u (.l ⟨[(1, bX), (3, .wrp (some 0, 1) [(1015, 0)]), (8, .own 1016), (9, .own 1017), (45, dI), (46, dI)], [(1014, a8), (1015, .mp .i64 .i64), (1016, a9), (1017, bS)], []⟩ (nx (.n aI (.j ⟨[(1, .ref 1046 2), (3, .wrp (some 0, 1) [(1047, 0)]), (8, .own 1048), (9, .own 1049), (45, dI), (46, dI)], [(1046, a8), (1047, .mp .i64 .i64), (1048, a9), (1049, bS)], []⟩ (.u (nx (.j ⟨[(1, .ref 1030 2), (3, .wrp (some 0, 1) [(1031, 0)]), (8, .own 1032), (9, .own 1033), (10, dI), (45, dI), (46, dI)], [(1030, a8), (1031, .mp .i64 .i64), (1032, a9), (1033, bS)], []⟩ (nx (.u (.l ⟨[(1, .ref 1018 2), (3, .wrp (some 0, 1) [(1019, 0)]), (8, .own 1020), (9, .own 1021), (10, dI), (45, dI), (46, dI), (50, dI), (51, dI)], [(1018, a8), (1019, .mp .i64 .i64), (1020, a9), (1021, bS)], []⟩ (nx (.n aI (.n (.u (nx (.j ⟨[(1, .ref 1022 2), (3, .wrp (some 0, 1) [(1023, 0)]), (8, .own 1024), (9, .own 1025), (10, dI), (11, dI), (45, dI), (46, dI), (50, dI), (51, dI), (64, dB)], [(1022, a8), (1023, .mp .i64 .i64), (1024, a9), (1025, bS)], []⟩ (.r .x) aC))) (.r .x))))))) (.n aE (nx (nx (nx (.u (.l ⟨[(1, .ref 1034 2), (3, .wrp (some 0, 1) [(1035, 0)]), (8, .own 1036), (9, .own 1037), (10, dI), (45, dI), (46, dI), (81, dL), (82, dI), (83, dI)], [(1034, a8), (1035, .mp .i64 .i64), (1036, a9), (1037, bS)], []⟩ (nx (.n aI (.j ⟨[(1, .ref 1038 2), (3, .wrp (some 0, 1) [(1039, 0)]), (8, .own 1040), (9, .own 1041), (10, dI), (45, dI), (46, dI), (81, dL), (82, dI), (83, dI)], [(1038, a8), (1039, .mp .i64 .i64), (1040, a9), (1041, bS)], []⟩ (.u (nx aN)) (.r .x))))))))))))) (.r .x))))))) aG))))))
noncomputable def sh49_K1 (z1 : Al) : XO1 :=
 some z1
noncomputable def sh49_K4 (rc3 : Ad → XO1) (z4 : Ad) : XO1 :=
 rc3 (z4.1, IntKind.i64.wrap (z4.2.1 + 1), z4.2.2)
noncomputable def sh49_K8 (rc7 : Be → XO1) (z8 : Be) : XO1 :=
 rc7 (z8.1, z8.2.1, z8.2.2.1, z8.2.2.2.1, z8.2.2.2.2.1, IntKind.i64.wrap (z8.2.2.2.2.2.1 + 1), z8.2.2.2.2.2.2)
noncomputable def sh49_L7 (j5 : Ad → XO1) (rc7 : Be → XO1) (z7 : Be) : XO1 :=
 if decide (z7.2.2.2.2.2.1 < z7.2.2.2.2.1) = true then
 joinK (sh49_K8 rc7) fun j9 =>
 if inR z7.2.2.2.2.2.1 z7.2.2.2.1.length = true then
 if ((lAt (0, ()) z7.2.2.2.1 z7.2.2.2.2.2.1).1 != z7.1) = true then
 j9
 (z7.1, z7.2.1, z7.2.2.1, z7.2.2.2.1, z7.2.2.2.2.1, z7.2.2.2.2.2.1, z7.2.2.2.2.2.2.1,
 Abs.mSet z7.2.2.2.2.2.2.2.1 (lAt (0, ()) z7.2.2.2.1 z7.2.2.2.2.2.1).1
 (IntKind.i64.wrap (Abs.mGet z7.2.2.2.2.2.2.2.1 (lAt (0, ()) z7.2.2.2.1 z7.2.2.2.2.2.1).1 - 1)),
 z7.2.2.2.2.2.2.2.2)
 else j9 z7
 else none
 else j5 (z7.2.1, z7.2.2.1, z7.2.2.2.2.2.2)
noncomputable def sh49_K6 (fuel : Nat) (j2 : Al → XO1) (j5 : Ad → XO1) (z6 : Int × Ad) : XO1 :=
 if decide (z6.1 < 0) = true then j2 (z6.2.2.2.2.2.1, ())
 else
 if inR z6.1 z6.2.2.2.2.2.2.1.length = true then
 if decide (z6.1.toNat + 1 ≤ z6.2.2.2.2.2.2.1.length) = true then
 if decide (z6.2.2.2.2.2.1.length + 1 ≤ Abs.lim) = true then
 if decide ((z6.2.2.2.2.2.1.length + 1) * 8 ≤ Abs.lim) = true then
 if inR z6.1 z6.2.2.2.1.1.length = true then
 iter fuel (sh49_L7 j5)
 (z6.1, z6.2.1, z6.2.2.1, (lAt ([], 0, 0, 0, [], ()) z6.2.2.2.1.1 z6.1).2.2.2.2.1,
 (↑(List.length (lAt ([], 0, 0, 0, [], ()) z6.2.2.2.1.1 z6.1).2.2.2.2.1) : Int), 0, z6.2.2.2.1, z6.2.2.2.2.1,
 z6.2.2.2.2.2.1 ++ [(z6.1, ())], z6.2.2.2.2.2.2.1.set z6.1.toNat (true, ()), ())
 else none
 else none
 else none
 else none
 else none
noncomputable def sh49_K12 (j10 : Int × Ad → XO1) (rc11 : Bv → XO1) (z12 : Int × Int × Int × Int × Int × Int × Bool × Ty4 × B7 × XI × Bb) : XO1 :=
 if z12.2.2.2.2.2.2.1 = true then j10 (z12.2.1, z12.2.2.1, z12.2.2.2.1, z12.2.2.2.2.2.2.2)
 else rc11 (z12.1, z12.2.2.1, z12.2.2.2.1, z12.2.2.2.2.1, IntKind.i64.wrap (z12.2.2.2.2.2.1 + 1), z12.2.2.2.2.2.2.2)
noncomputable def sh49_L11 (j10 : Int × Ad → XO1) (rc11 : Bv → XO1) (z11 : Bv) : XO1 :=
 if decide (z11.2.2.2.2.1 < z11.2.2.2.1) = true then
 joinK (sh49_K12 j10 rc11) fun j13 =>
 if inR z11.2.2.2.2.1 z11.2.2.2.2.2.2.2.2.1.length = true then
 if decide (z11.2.2.2.2.1.toNat + 1 ≤ z11.2.2.2.2.2.2.2.2.1.length) = true then
 if (!(z11.2.2.2.2.2.2.2.2.1.getD z11.2.2.2.2.1.toNat (false, ())).1) = true then
 j13 (z11.1, z11.2.2.2.2.1, z11.2.1, z11.2.2.1, z11.2.2.2.1, z11.2.2.2.2.1, Abs.mGet z11.2.2.2.2.2.2.1 z11.2.2.2.2.1 == 0, z11.2.2.2.2.2)
 else j13 (z11.1, z11.2.2.2.2.1, z11.2.1, z11.2.2.1, z11.2.2.2.1, z11.2.2.2.2.1, false, z11.2.2.2.2.2)
 else none
 else none
 else j10 (z11.1, z11.2.1, z11.2.2.1, z11.2.2.2.2.2)
noncomputable def sh49_L3 (fuel : Nat) (j2 : Al → XO1) (rc3 : Ad → XO1) (z3 : Ad) : XO1 :=
 if decide (z3.2.1 < z3.1) = true then
 joinK (sh49_K4 rc3) fun j5 =>
 joinK (sh49_K6 fuel j2 j5) fun j10 => iter fuel (sh49_L11 j10) (-1, z3.1, z3.2.1, (↑z3.2.2.1.1.length : Int), 0, z3.2.2)
 else j2 (z3.2.2.2.2.1, ())
noncomputable def sh49_K0 (fuel : Nat) (z0 : Ty4 × B7 × Unit) : XO1 :=
 if decide (0 ≤ (↑z0.1.1.length : Int)) = true then
 if decide ((↑z0.1.1.length : Int) ≤ (↑z0.1.1.length : Int)) = true then
 if decide ((↑z0.1.1.length : Int) ≤ (↑Abs.lim : Int)) = true then
 if decide ((↑1 : Int) * (↑z0.1.1.length : Int) ≤ (↑Abs.lim : Int)) = true then
 joinK sh49_K1 fun j2 =>
 iter fuel (sh49_L3 fuel j2) ((↑z0.1.1.length : Int), 0, z0.1, z0.2.1, [], List.replicate (↑z0.1.1.length : Int).toNat (false, ()), ())
 else none
 else none
 else none
 else none
noncomputable def sh49_K16 (rc15 : Bi × Ar → XO1) (z16 : Bi × Ar) : XO1 :=
 rc15 (z16.1, z16.2.1, IntKind.i64.wrap (z16.2.2.1 + 1), z16.2.2.2)
noncomputable def sh49_K19 (rc18 : A3 → XO1) (z19 : A3) : XO1 :=
 rc18 (z19.1, z19.2.1, z19.2.2.1, z19.2.2.2.1, z19.2.2.2.2.1, z19.2.2.2.2.2.1, IntKind.i64.wrap (z19.2.2.2.2.2.2.1 + 1), z19.2.2.2.2.2.2.2)
noncomputable def sh49_L18 (j17 : Bi × Ar → XO1) (rc18 : A3 → XO1) (z18 : A3) : XO1 :=
 if decide (z18.2.2.2.2.2.2.1 < z18.2.2.2.2.2.1) = true then
 joinK (sh49_K19 rc18) fun j20 =>
 if inR z18.2.2.2.2.2.2.1 z18.2.2.2.2.1.length = true then
 if ((lAt (0, ()) z18.2.2.2.2.1 z18.2.2.2.2.2.2.1).1 != z18.1) = true then
 j20
 (z18.1, z18.2.1, z18.2.2.1, z18.2.2.2.1, z18.2.2.2.2.1, z18.2.2.2.2.2.1, z18.2.2.2.2.2.2.1, z18.2.2.2.2.2.2.2.1,
 Abs.mSet z18.2.2.2.2.2.2.2.2.1 (lAt (0, ()) z18.2.2.2.2.1 z18.2.2.2.2.2.2.1).1
 (IntKind.i64.wrap (Abs.mGet z18.2.2.2.2.2.2.2.2.1 (lAt (0, ()) z18.2.2.2.2.1 z18.2.2.2.2.2.2.1).1 + 1)),
 ())
 else j20 z18
 else none
 else j17 (z18.2.1, z18.2.2.1, z18.2.2.2.1, z18.2.2.2.2.2.2.2)
noncomputable def sh49_L15 (fuel : Nat) (j14 : Ty4 × B7 × Unit → XO1) (rc15 : Bi × Ar → XO1) (z15 : Bi × Ar) : XO1 :=
 if decide (z15.2.2.1 < z15.2.1) = true then
 joinK (sh49_K16 rc15) fun j17 =>
 if inR z15.2.2.1 z15.1.length = true then
 iter fuel (sh49_L18 j17)
 (z15.2.2.1, z15.1, z15.2.1, z15.2.2.1, (lAt ([], 0, 0, 0, [], ()) z15.1 z15.2.2.1).2.2.2.2.1,
 (↑(List.length (lAt ([], 0, 0, 0, [], ()) z15.1 z15.2.2.1).2.2.2.2.1) : Int), 0, z15.2.2.2)
 else none
 else j14 z15.2.2.2
noncomputable def sh49 (fuel : Nat) (x0 : Ty4) : XO1 :=
 joinK (sh49_K0 fuel) fun j14 => iter fuel (sh49_L15 fuel j14) (x0.1, (↑x0.1.length : Int), 0, x0, [], ())
noncomputable def sp49 (x : Af) : XO1 := sh49 100000 x.1
/-! 79 slices.Index[[]baggage/api.Device,baggage/api.Device] -/
def g79 : Sig := ⟨[.v (.ty (.sl ty1)), .v (.ag ty1)], .v (.ty (.int .i64))⟩
def h79 : HT := (nx (.j ⟨[], [], []⟩ (nx (.u (.l ⟨[(0, bV), (3, .ref 1000 3), (7, dI), (8, dI)], [(1000, .box b3)], []⟩ aX))) aG))
noncomputable def sh79_K0 (z0 : Unit) : XO0 :=
 some (-1, ())
noncomputable def sh79_L2 (j1 : Unit → XO0) (rc2 : A4 × Int × Int × Bs → XO0) (z2 : A4 × Int × Int × Bs) : XO0 :=
 if decide (z2.2.2.1 < z2.2.1) = true then
 if inR z2.2.2.1 z2.1.length = true then
 if
 (z2.2.2.2.1.1 == (lAt (0, 0, 0, ()) z2.1 z2.2.2.1).1 &&
 (z2.2.2.2.1.2.1 == (lAt (0, 0, 0, ()) z2.1 z2.2.2.1).2.1 && (z2.2.2.2.1.2.2.1 == (lAt (0, 0, 0, ()) z2.1 z2.2.2.1).2.2.1 && true))) =
 true then
 some (z2.2.2.1, ())
 else rc2 (z2.1, z2.2.1, IntKind.i64.wrap (z2.2.2.1 + 1), z2.2.2.2)
 else none
 else j1 ()
noncomputable def sh79 (fuel : Nat) (x0 : A4) (x1 : Ty1) : XO0 :=
 joinK sh79_K0 fun j1 => iter fuel (sh79_L2 j1) (x0, (↑x0.length : Int), 0, x1, ())
noncomputable def sp79 (x : A4 × Bs) : XO0 := sh79 100000 x.1 x.2.1
/-! 65 slices.Contains[[]baggage/api.Device,baggage/api.Device] -/
def g65 : Sig := ⟨[.v (.ty (.sl ty1)), .v (.ag ty1)], .v (.ty .bool)⟩
def h65 : HT := aN
noncomputable def sh65 (fuel : Nat) (x0 : A4) (x1 : Ty1) : XB :=
 (sp79 (x0, x1, ())).bind fun r0 => some (decide (0 ≤ r0.1), ())
noncomputable def sp65 (x : A4 × Bs) : XB := sh65 0 x.1 x.2.1
/-! 50 baggage/layout.devices -/
def g50 : Sig := ⟨[.v (.ag ty4)], .v (.ty (.int .i64))⟩
def h50 : HT := (nx (.j ⟨[(1, .ref 1005 2)], [(1005, a8)], []⟩ (nx (.u (.l ⟨[(1, bD), (8, bV), (9, dI), (10, dI)], [(1000, a8)], []⟩ (nx (.n aI (.n (.u (nx (.u (.j ⟨[(1, bN), (4, .ref 1002 3), (8, bV), (9, dI), (10, dI), (14, dB)], [(1001, a8), (1002, .box b3)], []⟩ (.r .x) (.n aG (.j ⟨[(1, bP), (8, bV), (9, dI), (10, dI), (23, dB)], [(1003, a8)], []⟩ (.r .q) aC)))))) (.r .x))))))) (.j ⟨[], [], []⟩ (nx (.u (.l ⟨[(1, bM), (54, bV), (55, dI), (56, dI)], [(1006, a8)], []⟩ aX))) aG)))
noncomputable def sh50_K1 (z1 : Unit) : XO0 :=
 some (0, ())
noncomputable def sh50_L3 (j2 : Unit → XO0) (rc3 : B8 → XO0) (z3 : B8) : XO0 :=
 if decide (z3.2.2.1 < z3.2.1) = true then
 if inR z3.2.2.1 z3.1.length = true then
 if inCut 0 z3.2.2.1 z3.2.2.2.1.2.1.length = true then
 (sp65 (cutL z3.2.2.2.1.2.1 0 z3.2.2.1, lAt (0, 0, 0, ()) z3.1 z3.2.2.1, ())).bind fun r4 =>
 if r4.1 = true then some (5, ()) else rc3 (z3.1, z3.2.1, IntKind.i64.wrap (z3.2.2.1 + 1), z3.2.2.2)
 else none
 else none
 else j2 ()
noncomputable def sh50_K0 (fuel : Nat) (z0 : Af) : XO0 :=
 joinK sh50_K1 fun j2 => iter fuel (sh50_L3 j2) (z0.1.2.1, (↑z0.1.2.1.length : Int), 0, z0)
noncomputable def sh50_K8 (rc6 : B8 → XO0) (z8 : A4 × Int × Int × Bq) : XO0 :=
 if z8.2.2.2.1 = true then some (1, ()) else rc6 (z8.1, z8.2.1, IntKind.i64.wrap (z8.2.2.1 + 1), z8.2.2.2.2)
noncomputable def sh50_K7 (rc6 : B8 → XO0) (z7 : A4 × Ca) : XO0 :=
 if z7.2.2.2.1 = true then some (4, ())
 else
 joinK (sh50_K8 rc6) fun j9 =>
 if decide (z7.2.2.2.2.2.1.2.1 < 0) = true then j9 (z7.1, z7.2.1, z7.2.2.1, true, z7.2.2.2.2.1, ())
 else
 if decide ((↑z7.2.2.2.2.1.1.length : Int) ≤ z7.2.2.2.2.2.1.2.1) = true then j9 (z7.1, z7.2.1, z7.2.2.1, true, z7.2.2.2.2.1, ())
 else
 if decide (z7.2.2.2.2.2.1.2.2.1 < 0) = true then j9 (z7.1, z7.2.1, z7.2.2.1, true, z7.2.2.2.2.1, ())
 else
 if inR z7.2.2.2.2.2.1.2.1 z7.2.2.2.2.1.1.length = true then
 j9
 (z7.1, z7.2.1, z7.2.2.1, decide ((lAt ([], 0, 0, 0, [], ()) z7.2.2.2.2.1.1 z7.2.2.2.2.2.1.2.1).2.2.1 ≤ z7.2.2.2.2.2.1.2.2.1),
 z7.2.2.2.2.1, ())
 else none
noncomputable def sh50_L6 (j5 : Af → XO0) (rc6 : B8 → XO0) (z6 : B8) : XO0 :=
 if decide (z6.2.2.1 < z6.2.1) = true then
 if inR z6.2.2.1 z6.1.length = true then
 joinK (sh50_K7 rc6) fun j10 =>
 if ((lAt (0, 0, 0, ()) z6.1 z6.2.2.1).1 != 1) = true then
 j10 (z6.1, z6.2.1, z6.2.2.1, (lAt (0, 0, 0, ()) z6.1 z6.2.2.1).1 != 2, z6.2.2.2.1, lAt (0, 0, 0, ()) z6.1 z6.2.2.1, ())
 else j10 (z6.1, z6.2.1, z6.2.2.1, false, z6.2.2.2.1, lAt (0, 0, 0, ()) z6.1 z6.2.2.1, ())
 else none
 else j5 z6.2.2.2
noncomputable def sh50 (fuel : Nat) (x0 : Ty4) : XO0 :=
 joinK (sh50_K0 fuel) fun j5 => iter fuel (sh50_L6 j5) (x0.2.1, (↑x0.2.1.length : Int), 0, x0, ())
noncomputable def sp50 (x : Af) : XO0 := sh50 100000 x.1
noncomputable def c51 : Code := bd Tryd.f51
noncomputable def c52 : Code := bd Tryd.f52
/-! 32 baggage/layout.Validate -/
noncomputable def c32 : Code := bd Tryd.f32
def g32 : Sig := ⟨[.v (.ag ty4)], .v (.ty (.int .i64))⟩
def h32 : HT := (nx (.n (.j ⟨[(1, bD), (16, dB)], [(1000, a8)], []⟩ (.r .x) aC) (.j ⟨[(1, bP)], [(1003, a8)], []⟩ (nx (.u (.l ⟨[(1, bN), (19, dI), (20, dI)], [(1001, a8)], []⟩ (nx (.n aI (.n (.u (nx (nx aJ))) (.r .x))))))) (.n (.u (nx (.n aG aJ))) (.j ⟨[(1, bM)], [(1006, a8)], []⟩ (nx (.u (.l ⟨[(1, bK), (40, dI), (41, dI)], [(1004, a8)], []⟩ aR))) (.n aS (.n (nx aJ) (.n (.n (.ri .x [(63, 0, (nx (.j ⟨[(69, dB)], [], []⟩ (.ri .x [(72, 0, (nx (.j ⟨[], [], []⟩ (nx (.u (.l ⟨[(74, bL), (75, .cst (.fn 52)), (81, dI), (82, dI)], [], []⟩ (nx (.n aI (.n (.u (nx (.n (.ri .x [(90, 0, aN)]) aC))) (.r .x))))))) aG)))]) .e)))]) aC) aG))))))))
noncomputable def FT32 : List (Nat × Entry) := [(45, ⟨g45, sp45⟩), (46, ⟨g46, sp46⟩), (47, ⟨g47, sp47⟩), (48, ⟨g48, sp48⟩), (49, ⟨g49, sp49⟩), (50, ⟨g50, sp50⟩)]
noncomputable def IT32 : List (Nat × Inl) := [(51, ⟨9, [.tmp 4], c51⟩), (66, ⟨19, [.tmp 4], c66⟩), (52, ⟨6, [.tmp 2], c52⟩)]
def MT32 : MTab := []
noncomputable def sh32_K7 (z7 : Ab) : XO0 :=
 if (!z7.1) = true then some (6, ()) else some (0, ())
noncomputable def sh32_K9 (j8 : Ab → XO0) (z9 : Unit) : XO0 :=
 j8 (decide (0 ≤ -1), ())
noncomputable def sh32_L11 (j8 : Ab → XO0) (j10 : Unit → XO0) (rc11 : Bi × Az → XO0) (z11 : Bi × Az) : XO0 :=
 if decide (z11.2.2.1 < z11.2.1) = true then
 if inR z11.2.2.1 z11.1.length = true then
 if ((lAt ([], 0, 0, 0, [], ()) z11.1 z11.2.2.1).2.1 == 1) = true then j8 (decide (0 ≤ z11.2.2.1), ())
 else rc11 (z11.1, z11.2.1, IntKind.i64.wrap (z11.2.2.1 + 1), ())
 else none
 else j10 ()
noncomputable def sh32_K4 (fuel : Nat) (z4 : Af) : XO0 :=
 (sp49 z4).bind fun r5 =>
 if decide ((↑r5.1.length : Int) < (↑z4.1.1.length : Int)) = true then some (9, ())
 else
 (sp50 z4).bind fun r6 =>
 if (r6.1 != 0) = true then some r6
 else joinK sh32_K7 fun j8 => joinK (sh32_K9 j8) fun j10 => iter fuel (sh32_L11 j8 j10) (z4.1.1, (↑z4.1.1.length : Int), 0, ())
noncomputable def sh32_L13 (j12 : Af → XO0) (rc13 : Ao → XO0) (z13 : Ao) : XO0 :=
 if decide (z13.2.1 < z13.1) = true then
 (sp48 (z13.2.2.1, z13.2.1, ())).bind fun r14 => if (!r14.1) = true then some (7, ()) else rc13 (z13.1, IntKind.i64.wrap (z13.2.1 + 1), z13.2.2)
 else j12 z13.2.2
noncomputable def sh32_K1 (fuel : Nat) (z1 : Af) : XO0 :=
 (sp46 z1).bind fun r2 =>
 if decide (80 < r2.1) = true then some (2, ())
 else
 (sp47 z1).bind fun r3 =>
 if (!r3.1) = true then some (5, ()) else joinK (sh32_K4 fuel) fun j12 => iter fuel (sh32_L13 j12) ((↑z1.1.1.length : Int), 0, z1)
noncomputable def sh32_L16 (j15 : Af → XO0) (rc16 : Ao → XO0) (z16 : Ao) : XO0 :=
 if decide (z16.2.1 < z16.1) = true then
 (sp45 (z16.2.2.1, z16.2.1, ())).bind fun r17 => if (r17.1 != 0) = true then some r17 else rc16 (z16.1, IntKind.i64.wrap (z16.2.1 + 1), z16.2.2)
 else j15 z16.2.2
noncomputable def sh32_K0 (fuel : Nat) (z0 : Bq) : XO0 :=
 if z0.1 = true then some (2, ()) else joinK (sh32_K1 fuel) fun j15 => iter fuel (sh32_L16 j15) ((↑z0.2.1.1.length : Int), 0, z0.2)
noncomputable def sh32 (fuel : Nat) (x0 : Ty4) : XO0 :=
 joinK (sh32_K0 fuel) fun j18 =>
 if decide (24 < (↑x0.1.length : Int)) = true then j18 (true, x0, ()) else j18 (decide (24 < (↑x0.2.1.length : Int)), x0, ())
noncomputable def sp32 (x : Af) : XO0 := sh32 100000 x.1
/-! 27 baggage/route.asked -/
def g27 : Sig := ⟨[.v (.ag ty4), .v (.ty (.int .i64)), .v (.ty (.int .i64))], .v (.ty .bool)⟩
def h27 : HT := aK
noncomputable def sh27_K0 (z0 : Ab) : XB :=
 some z0
noncomputable def sh27 (fuel : Nat) (x0 : Ty4) (x1 : Int) (x2 : Int) : XB :=
 joinK sh27_K0 fun j1 =>
 if decide (0 ≤ x1) = true then
 if decide (x1 < (↑x0.1.length : Int)) = true then
 (sp33 (x0, x2, ())).bind fun r2 => if r2.1 = true then (sp32 (x0, ())).bind fun r3 => j1 (r3.1 == 0, ()) else j1 (false, ())
 else j1 (false, ())
 else j1 (false, ())
noncomputable def sp27 (x : Ty4 × Az) : XB := sh27 0 x.1 x.2.1 x.2.2.1
/-! 31 baggage/route.goes -/
def g31 : Sig := ⟨[.v (.ag ty4), .v (.ty (.int .i64)), .v (.ty (.int .i64)), .v (.ty (.int .i64))], .v (.ty .bool)⟩
def h31 : HT := (nx (.j ⟨[(8, dB)], [], []⟩ (.r .x) .e))
noncomputable def sh31_K0 (z0 : Ab) : XB :=
 some z0
noncomputable def sh31 (fuel : Nat) (x0 : Ty4) (x1 : Int) (x2 : Int) (x3 : Int) : XB :=
 joinK sh31_K0 fun j1 =>
 if (x2 != x1) = true then
 if (x2 == x3) = true then j1 (true, ())
 else if inR x2 x0.1.length = true then (sp44 ((lAt ([], 0, 0, 0, [], ()) x0.1 x2).2.1, ())).bind fun r2 => j1 r2 else none
 else j1 (false, ())
noncomputable def sp31 (x : Ty4 × B1) : XB := sh31 0 x.1 x.2.1 x.2.2.1 x.2.2.2.1
/-! 7 baggage/baggagelaw08.light -/
def g7 : Sig := ⟨[.v (.ag ty4)], .v (.ty .bool)⟩
def h7 : HT := (nx (.j ⟨[(1, bP)], [(1003, a8)], []⟩ (nx (.u (.l ⟨[(1, bD), (3, dI)], [(1000, a8)], []⟩ (.n aE (.n (.u (.j ⟨[(1, bN), (3, dI), (28, dB)], [(1001, a8)], []⟩ (.r .x) aC)) (.r .x)))))) aH))
noncomputable def sh7_K1 (z1 : Ab) : XB :=
 some z1
noncomputable def sh7_K0 (z0 : Af) : XB :=
 joinK sh7_K1 fun j2 => if decide ((↑z0.1.1.length : Int) ≤ 40) = true then j2 (decide ((↑z0.1.2.1.length : Int) ≤ 60), ()) else j2 (false, ())
noncomputable def sh7_K5 (rc4 : A0 → XB) (z5 : Int × Bq) : XB :=
 if z5.2.1 = true then some (false, ()) else rc4 (IntKind.i64.wrap (z5.1 + 1), z5.2.2)
noncomputable def sh7_L4 (j3 : Af → XB) (rc4 : A0 → XB) (z4 : A0) : XB :=
 if decide (z4.1 < (↑z4.2.1.1.length : Int)) = true then
 joinK (sh7_K5 rc4) fun j6 =>
 if inR z4.1 z4.2.1.1.length = true then
 if decide (20 < (↑(List.length (lAt ([], 0, 0, 0, [], ()) z4.2.1.1 z4.1).2.2.2.2.1) : Int)) = true then j6 (z4.1, true, z4.2)
 else
 if inR z4.1 z4.2.1.1.length = true then j6 (z4.1, decide (60 < (↑(List.length (lAt ([], 0, 0, 0, [], ()) z4.2.1.1 z4.1).1) : Int)), z4.2)
 else none
 else none
 else j3 z4.2
noncomputable def sh7 (fuel : Nat) (x0 : Ty4) : XB :=
 joinK sh7_K0 fun j3 => iter fuel (sh7_L4 j3) (0, x0, ())
noncomputable def sp7 (x : Af) : XB := sh7 (x.1.1.length + 1) x.1
/-! 35 baggage/baggageref07.split -/
def g35 : Sig := ⟨[.v (.ty .str), .v (.ty (.int .u8))], .v (.ty (.sl (.cons .str .nil)))⟩
def h35 : HT := (nx (nx (nx (.j ⟨[(5, bW), (6, dS)], [(1003, bF)], []⟩ (nx (.u (.l ⟨[(0, dS), (1, .d (.ty (.int .u8))), (5, .own 1000), (6, dS), (7, dI)], [(1000, bF)], []⟩ (.n aE (.j ⟨[(0, dS), (1, .d (.ty (.int .u8))), (5, bR), (6, dS), (7, dI)], [(1001, bF)], []⟩ (.u (.n (nx (.n aN .e)) (.r .x))) (.r .x)))))) aG))))
noncomputable def sh35_K0 (z0 : Am × Aw × Unit) : A2 :=
 if decide (z0.2.1.length + 1 ≤ Abs.lim) = true then
 if decide ((z0.2.1.length + 1) * 16 ≤ Abs.lim) = true then some (z0.2.1 ++ [(z0.1, ())], ()) else none
 else none
noncomputable def sh35_K3 (rc2 : A5 → A2) (z3 : A5) : A2 :=
 rc2 (z3.1, z3.2.1, z3.2.2.1, IntKind.i64.wrap (z3.2.2.2.1 + 1), z3.2.2.2.2)
noncomputable def sh35_L2 (j1 : Am × Aw × Unit → A2) (rc2 : A5 → A2) (z2 : A5) : A2 :=
 if decide (z2.2.2.2.1 < (↑z2.1.length : Int)) = true then
 joinK (sh35_K3 rc2) fun j4 =>
 if inR z2.2.2.2.1 z2.1.length = true then
 if (sAt z2.1 z2.2.2.2.1 == z2.2.1) = true then
 if decide (z2.2.2.2.2.1.length + 1 ≤ Abs.lim) = true then
 if decide ((z2.2.2.2.2.1.length + 1) * 16 ≤ Abs.lim) = true then
 j4 (z2.1, z2.2.1, [], z2.2.2.2.1, z2.2.2.2.2.1 ++ [(z2.2.2.1, ())], ())
 else none
 else none
 else
 if inCut z2.2.2.2.1 (IntKind.i64.wrap (z2.2.2.2.1 + 1)) z2.1.length = true then
 if decide (z2.2.2.1.length + (cutL z2.1 z2.2.2.2.1 (IntKind.i64.wrap (z2.2.2.2.1 + 1))).length ≤ Abs.lim) = true then
 j4 (z2.1, z2.2.1, z2.2.2.1 ++ cutL z2.1 z2.2.2.2.1 (IntKind.i64.wrap (z2.2.2.2.1 + 1)), z2.2.2.2)
 else none
 else none
 else none
 else j1 (z2.2.2.1, z2.2.2.2.2)
noncomputable def sh35 (fuel : Nat) (x0 : Am) (x1 : Int) : A2 :=
 joinK sh35_K0 fun j1 => iter fuel (sh35_L2 j1) (x0, x1, [], 0, [], ())
noncomputable def sp35 (x : Bu) : A2 := sh35 100000 x.1 x.2.1
/-! 67 baggage/baggageref01.All -/
def g67 : Sig := ⟨[.v (.ty .str)], .v (.ty .bool)⟩
def h67 : HT := (nx (.j ⟨[], [], []⟩ (nx (.u (.l ⟨[(0, dS), (3, dI)], [], []⟩ (.n aE (.n (.u (.j ⟨[(0, dS), (3, dI), (19, dB)], [], []⟩ (.r .x) aC)) (.r .x)))))) aG))
noncomputable def sh67_K0 (z0 : Unit) : XB :=
 some (true, ())
noncomputable def sh67_K3 (rc2 : Bu → XB) (z3 : Am × Int × Ab) : XB :=
 if z3.2.2.1 = true then some (false, ()) else rc2 (z3.1, IntKind.i64.wrap (z3.2.1 + 1), ())
noncomputable def sh67_L2 (j1 : Unit → XB) (rc2 : Bu → XB) (z2 : Bu) : XB :=
 if decide (z2.2.1 < (↑z2.1.length : Int)) = true then
 joinK (sh67_K3 rc2) fun j4 =>
 if inR z2.2.1 z2.1.length = true then
 if decide (sAt z2.1 z2.2.1 < 48) = true then j4 (z2.1, z2.2.1, true, ())
 else if inR z2.2.1 z2.1.length = true then j4 (z2.1, z2.2.1, decide (57 < sAt z2.1 z2.2.1), ()) else none
 else none
 else j1 ()
noncomputable def sh67 (fuel : Nat) (x0 : Am) : XB :=
 joinK sh67_K0 fun j1 => iter fuel (sh67_L2 j1) (x0, 0, ())
noncomputable def sp67 (x : Bn) : XB := sh67 100000 x.1
/-! 68 baggage/baggageref01.Value -/
def g68 : Sig := ⟨[.v (.ty .str)], .v (.ty (.int .i64))⟩
def h68 : HT := (nx (nx (.j ⟨[(3, dI)], [], []⟩ (nx (.u (.l ⟨[(0, dS), (3, dI), (4, dI)], [], []⟩ aL))) aG)))
noncomputable def sh68_K0 (z0 : Ai) : XO0 :=
 some z0
noncomputable def sh68_L2 (j1 : Ai → XO0) (rc2 : Am × Az → XO0) (z2 : Am × Az) : XO0 :=
 if decide (z2.2.2.1 < (↑z2.1.length : Int)) = true then
 if inR z2.2.2.1 z2.1.length = true then
 rc2
 (z2.1, IntKind.i64.wrap (IntKind.i64.wrap (z2.2.1 * 10) + IntKind.i64.wrap (IntKind.u8.wrap (sAt z2.1 z2.2.2.1 - 48))),
 IntKind.i64.wrap (z2.2.2.1 + 1), ())
 else none
 else j1 (z2.2.1, ())
noncomputable def sh68 (fuel : Nat) (x0 : Am) : XO0 :=
 joinK sh68_K0 fun j1 => iter fuel (sh68_L2 j1) (x0, 0, 0, ())
noncomputable def sp68 (x : Bn) : XO0 := sh68 100000 x.1
/-! 53 baggage/baggageref07.number -/
def g53 : Sig := ⟨[.v (.ty .str)], .tup [(.ty (.int .i64)), (.ty .bool)]⟩
def h53 : HT := (nx (.n (.j ⟨[(0, dS), (26, dB)], [], []⟩ (.r .x) aC) aG))
noncomputable def sh53_K0 (z0 : Am × Ab) : Bo :=
 if z0.2.1 = true then some ((0, false, ()), ()) else (sp68 (z0.1, ())).bind fun r1 => some ((r1.1, true, ()), ())
noncomputable def sh53 (fuel : Nat) (x0 : Am) : Bo :=
 joinK sh53_K0 fun j2 =>
 if decide ((↑x0.length : Int) < 1) = true then j2 (x0, true, ())
 else
 if decide (3 < (↑x0.length : Int)) = true then j2 (x0, true, ())
 else
 (sp67 (x0, ())).bind fun r3 =>
 if (!r3.1) = true then j2 (x0, true, ())
 else
 if decide (1 < (↑x0.length : Int)) = true then if inR 0 x0.length = true then j2 (x0, sAt x0 0 == 48, ()) else none else j2 (x0, false, ())
noncomputable def sp53 (x : Bn) : Bo := sh53 0 x.1
/-! 69 baggage/baggageref02.Letter -/
def g69 : Sig := ⟨[.v (.ty (.int .u8))], .v (.ty .bool)⟩
def h69 : HT := a7
noncomputable def sh69_K0 (z0 : Ab) : XB :=
 some z0
noncomputable def sh69 (fuel : Nat) (x0 : Int) : XB :=
 joinK sh69_K0 fun j1 => if decide (65 ≤ x0) = true then j1 (decide (x0 ≤ 90), ()) else j1 (false, ())
noncomputable def sp69 (x : Ai) : XB := sh69 0 x.1
/-! 70 baggage/baggageref02.Digit -/
def g70 : Sig := ⟨[.v (.ty (.int .u8))], .v (.ty .bool)⟩
def h70 : HT := a7
noncomputable def sh70_K0 (z0 : Ab) : XB :=
 some z0
noncomputable def sh70 (fuel : Nat) (x0 : Int) : XB :=
 joinK sh70_K0 fun j1 => if decide (48 ≤ x0) = true then j1 (decide (x0 ≤ 57), ()) else j1 (false, ())
noncomputable def sp70 (x : Ai) : XB := sh70 0 x.1
/-! 54 baggage/baggageref04.Name -/
def g54 : Sig := ⟨[.v (.ty .str)], .v (.ty .bool)⟩
def h54 : HT := (nx (.n (.j ⟨[(0, dS), (17, dB)], [], []⟩ (.r .x) aC) (.j ⟨[], [], []⟩ (nx (.u (.l ⟨[(0, dS), (3, dI)], [], []⟩ (.n aE (.n (.u (.j ⟨[(0, dS), (3, dI), (35, dB)], [], []⟩ (.r .x) aC)) (.r .x)))))) aG)))
noncomputable def sh54_K1 (z1 : Unit) : XB :=
 some (true, ())
noncomputable def sh54_K4 (rc3 : Bu → XB) (z4 : Am × Int × Ab) : XB :=
 if z4.2.2.1 = true then some (false, ()) else rc3 (z4.1, IntKind.i64.wrap (z4.2.1 + 1), ())
noncomputable def sh54_L3 (j2 : Unit → XB) (rc3 : Bu → XB) (z3 : Bu) : XB :=
 if decide (z3.2.1 < (↑z3.1.length : Int)) = true then
 joinK (sh54_K4 rc3) fun j5 =>
 if inR z3.2.1 z3.1.length = true then
 (sp69 (sAt z3.1 z3.2.1, ())).bind fun r6 =>
 if (!r6.1) = true then
 if inR z3.2.1 z3.1.length = true then (sp70 (sAt z3.1 z3.2.1, ())).bind fun r7 => j5 (z3.1, z3.2.1, !r7.1, ()) else none
 else j5 (z3.1, z3.2.1, false, ())
 else none
 else j2 ()
noncomputable def sh54_K0 (fuel : Nat) (z0 : Am × Ab) : XB :=
 if z0.2.1 = true then some (false, ()) else joinK sh54_K1 fun j2 => iter fuel (sh54_L3 j2) (z0.1, 0, ())
noncomputable def sh54 (fuel : Nat) (x0 : Am) : XB :=
 joinK (sh54_K0 fuel) fun j8 =>
 if decide ((↑x0.length : Int) < 1) = true then j8 (x0, true, ())
 else
 if decide (12 < (↑x0.length : Int)) = true then j8 (x0, true, ())
 else if inR 0 x0.length = true then (sp69 (sAt x0 0, ())).bind fun r9 => j8 (x0, !r9.1, ()) else none
noncomputable def sp54 (x : Bn) : XB := sh54 100000 x.1
/-! 55 baggage/baggageref07.Exits -/
def g55 : Sig := ⟨[.v (.ty (.int .i64))], .v (.ty (.int .i64))⟩
def h55 : HT := (nx (.n (nx (.u (.j ⟨[(3, dI), (4, dB)], [], []⟩ aZ (.n aG (.j ⟨[(8, dB)], [], []⟩ aP aC))))) aG))
noncomputable def sh55_K1 (z1 : Ab) : XO0 :=
 if z1.1 = true then some (0, ()) else some (1, ())
noncomputable def sh55_K0 (z0 : Int × Ab) : XO0 :=
 if z0.2.1 = true then some (2, ()) else joinK sh55_K1 fun j2 => if (z0.1 == 8) = true then j2 (z0.1 == 8, ()) else j2 (z0.1 == 9, ())
noncomputable def sh55 (fuel : Nat) (x0 : Int) : XO0 :=
 joinK sh55_K0 fun j3 => if (x0 == 4) = true then j3 (x0, x0 == 4, ()) else if (x0 == 5) = true then j3 (x0, x0 == 5, ()) else j3 (x0, x0 == 6, ())
noncomputable def sp55 (x : Ai) : XO0 := sh55 0 x.1
/-! 20 baggage/baggageref07.Strip -/
def g20 : Sig := ⟨[.v (.ty (.int .i64))], .v (.ty .bool)⟩
def h20 : HT := a7
noncomputable def sh20_K0 (z0 : Ab) : XB :=
 some z0
noncomputable def sh20 (fuel : Nat) (x0 : Int) : XB :=
 joinK sh20_K0 fun j1 => if decide (1 ≤ x0) = true then j1 (decide (x0 ≤ 6), ()) else j1 (false, ())
noncomputable def sp20 (x : Ai) : XB := sh20 0 x.1
/-! 36 baggage/baggageref07.read -/
def g36 : Sig := ⟨[.v (.ty .str)], .tup [(.ag ty3), (.ty .bool)]⟩
def h36 : HT := (nx (nx (nx (.j ⟨[(2, .ref 1024 9), (4, bG), (5, .ref 1025 9)], [(1024, .box [.d .str, .d aA, .d aA, .d aA, .own 1026, .d aA, .d aA, .d aA, .own 1027]), (1025, .box [.d .str, .d aA, .d aA, .d aA, .own 1028, .d aA, .d aA, .d aA, .own 1029]), (1026, a9), (1027, bF), (1028, a9), (1029, bF)], []⟩ (nx (.u (.l ⟨[(2, .ref 1000 9), (4, bG), (5, .ref 1001 9), (6, dI)], [(1000, .box [.d .str, .d aA, .d aA, .d aA, .own 1002, .d aA, .d aA, .d aA, .own 1003]), (1001, .box [.d .str, .d aA, .d aA, .d aA, .own 1004, .d aA, .d aA, .d aA, .own 1005]), (1002, a9), (1003, bF), (1004, a9), (1005, bF)], []⟩ (.n (.j ⟨[(2, .ref 1006 9), (4, bG), (5, .ref 1007 9), (6, dI), (25, dB)], [(1006, .box [.d .str, .d aA, .d aA, .d aA, .own 1008, .d aA, .d aA, .d aA, .own 1009]), (1007, .box [.d .str, .d aA, .d aA, .d aA, .own 1010, .d aA, .d aA, .d aA, .own 1011]), (1008, a9), (1009, bF), (1010, a9), (1011, bF)], []⟩ (.r .x) aI) (.n (.u (nx (.j ⟨[(2, .ref 1012 9), (4, bG), (5, .ref 1013 9), (6, dI), (7, dI), (51, dB)], [(1012, .box [.d .str, .d aA, .d aA, .d aA, .own 1014, .d aA, .d aA, .d aA, .own 1015]), (1013, .box [.d .str, .d aA, .d aA, .d aA, .own 1016, .d aA, .d aA, .d aA, .own 1017]), (1014, a9), (1015, bF), (1016, a9), (1017, bF)], []⟩ (.r (.w 7 [(1, 0), (0, 1), (0, 2), (1, 4), (3, 3), (0, 5), (0, 6)])) (.n (.n (.r (.w 7 [(1, 0), (1, 1), (0, 2), (1, 3), (1, 4), (0, 5), (2, 6)])) aG) .e)))) (.r .x)))))) (.j ⟨[(2, .ref 1048 9), (4, bG), (5, .ref 1049 9)], [(1048, .box [.d .str, .d aA, .d aA, .d aA, .own 1050, .d aA, .d aA, .d aA, .own 1051]), (1049, .box [.d .str, .d aA, .d aA, .d aA, .own 1052, .d aA, .d aA, .d aA, .own 1053]), (1050, a9), (1051, bF), (1052, a9), (1053, bF)], []⟩ (nx (.u (.l ⟨[(2, .ref 1030 9), (4, bG), (5, .ref 1031 9), (9, dI)], [(1030, .box [.d .str, .d aA, .d aA, .d aA, .own 1032, .d aA, .d aA, .d aA, .own 1033]), (1031, .box [.d .str, .d aA, .d aA, .d aA, .own 1034, .d aA, .d aA, .d aA, .own 1035]), (1032, a9), (1033, bF), (1034, a9), (1035, bF)], []⟩ (.n aE (.j ⟨[(2, .ref 1036 9), (4, bG), (5, .ref 1037 9), (9, dI)], [(1036, .box [.d .str, .d aA, .d aA, .d aA, .own 1038, .d aA, .d aA, .d aA, .own 1039]), (1037, .box [.d .str, .d aA, .d aA, .d aA, .own 1040, .d aA, .d aA, .d aA, .own 1041]), (1038, a9), (1039, bF), (1040, a9), (1041, bF)], []⟩ (.u (.n (.r .q) aG)) (.r .x)))))) (nx (nx (.j ⟨[(2, .ref 1054 9), (4, bG), (5, .ref 1055 9), (10, dI), (11, dI), (12, dI)], [(1054, .box [.d .str, .d aA, .d aA, .d aA, .own 1056, .d aA, .d aA, .d aA, .own 1057]), (1055, .box [.d .str, .d aA, .d aA, .d aA, .own 1058, .d aA, .d aA, .d aA, .own 1059]), (1056, a9), (1057, bF), (1058, a9), (1059, bF)], []⟩ aN (.j ⟨[(2, .ref 1060 9), (4, bG), (5, .ref 1061 9), (10, dI), (11, dI), (12, dI)], [(1060, .box [.d .str, .d aA, .d aA, .d aA, .own 1062, .d aA, .d aA, .d aA, .own 1063]), (1061, .box [.d .str, .d aA, .d aA, .d aA, .own 1064, .d aA, .d aA, .d aA, .own 1065]), (1062, a9), (1063, bF), (1064, a9), (1065, bF)], []⟩ aN (.n (.j ⟨[(2, .ref 1066 9), (4, bG), (5, .ref 1067 9), (10, dI), (11, dI), (105, dB)], [(1066, .box [.d .str, .d aA, .d aA, .d aA, .own 1068, .d aA, .d aA, .d aA, .own 1069]), (1067, .box [.d .str, .d aA, .d aA, .d aA, .own 1070, .d aA, .d aA, .d aA, .own 1071]), (1068, a9), (1069, bF), (1070, a9), (1071, bF)], []⟩ (.r .x) aC) (nx (nx (.j ⟨[(2, .ref 1072 9), (4, bG), (5, .ref 1073 9), (10, dI), (11, dI), (13, dB)], [(1072, .box [.d .str, .d aA, .d aA, .d aA, .own 1074, .d aA, .d aA, .d aA, .own 1075]), (1073, .box [.d .str, .d aA, .d aA, .d aA, .own 1076, .d aA, .d aA, .d aA, .own 1077]), (1074, a9), (1075, bF), (1076, a9), (1077, bF)], []⟩ (nx (.n aT .e)) (nx (nx (.n (.j ⟨[(2, .ref 1078 9), (4, bG), (5, .ref 1079 9), (10, dI), (11, dI), (153, dB)], [(1078, .box [.d .str, .d aA, .d aA, .d aA, .own 1080, .d aA, .d aA, .d aA, .own 1081]), (1079, .box [.d .str, .d aA, .d aA, .d aA, .own 1082, .d aA, .d aA, .d aA, .own 1083]), (1080, a9), (1081, bF), (1082, a9), (1083, bF)], []⟩ (.r .x) aC) (.j ⟨[(2, .ref 1096 9), (5, .ref 1097 9)], [(1096, .box [.d .str, .d aA, .d aA, .d aA, .own 1098, .d aA, .d aA, .d aA, .own 1099]), (1097, .box [.d .str, .d aA, .d aA, .d aA, .own 1100, .d aA, .d aA, .d aA, .own 1101]), (1098, a9), (1099, bF), (1100, a9), (1101, bF)], []⟩ (nx (.u (.l ⟨[(2, .ref 1084 9), (4, bG), (5, .ref 1085 9), (10, dI), (11, dI), (16, dI)], [(1084, .box [.d .str, .d aA, .d aA, .d aA, .own 1086, .d aA, .d aA, .d aA, .own 1087]), (1085, .box [.d .str, .d aA, .d aA, .d aA, .own 1088, .d aA, .d aA, .d aA, .own 1089]), (1086, a9), (1087, bF), (1088, a9), (1089, bF)], []⟩ (.n aE (.n (.u (.n aJ (.r (.w 10 [(0, 0), (0, 1), (1, 2), (1, 3), (1, 4), (1, 5), (1, 6), (0, 7), (0, 8), (3, 9)])))) (.r .x)))))) aG)))))))))))))))))
noncomputable def sh36_K10 (z10 : Ac) : Ah :=
 some
 (((z10.2.1.1, z10.2.1.2.1, z10.2.1.2.2.1, z10.2.1.2.2.2.1, z10.2.2.2.2.1, z10.2.1.2.2.2.2.1, z10.2.1.2.2.2.2.2.1, z10.2.1.2.2.2.2.2.2.1,
 z10.2.2.2.2.2),
 true, ()),
 ())
noncomputable def sh36_L12 (j11 : Ac → Ah) (rc12 : Bf → Ah) (z12 : Bf) : Ah :=
 if decide (z12.2.2.2.1 < z12.2.1) = true then
 if inR (IntKind.i64.wrap (IntKind.i64.wrap (z12.2.2.1 + 2) + z12.2.2.2.1)) z12.1.length = true then
 (sp54 (lAt ([], ()) z12.1 (IntKind.i64.wrap (IntKind.i64.wrap (z12.2.2.1 + 2) + z12.2.2.2.1)))).bind fun r13 =>
 if (!r13.1) = true then some ((([], 0, 0, 0, [], 0, 0, 0, [], ()), false, ()), ())
 else
 if inR (IntKind.i64.wrap (IntKind.i64.wrap (z12.2.2.1 + 2) + z12.2.2.2.1)) z12.1.length = true then
 if
 decide
 (z12.2.2.2.2.2.2.2.2.2.1.length + 1 ≤
 Abs.lim) =
 true then
 if
 decide
 ((z12.2.2.2.2.2.2.2.2.2.1.length +
 [lAt ([], ()) z12.1 (IntKind.i64.wrap (IntKind.i64.wrap (z12.2.2.1 + 2) + z12.2.2.2.1))].length) *
 16 ≤
 Abs.lim) =
 true then
 rc12
 (z12.1, z12.2.1, z12.2.2.1, IntKind.i64.wrap (z12.2.2.2.1 + 1), z12.2.2.2.2.1, z12.2.2.2.2.2.1, z12.2.2.2.2.2.2.1,
 z12.2.2.2.2.2.2.2.1, z12.2.2.2.2.2.2.2.2.1,
 z12.2.2.2.2.2.2.2.2.2.1 ++ [lAt ([], ()) z12.1 (IntKind.i64.wrap (IntKind.i64.wrap (z12.2.2.1 + 2) + z12.2.2.2.1))], ())
 else none
 else none
 else none
 else none
 else j11 z12.2.2.2.2
noncomputable def sh36_K9 (fuel : Nat) (z9 : Bd) : Ah :=
 if z9.2.2.2.1 = true then some ((([], 0, 0, 0, [], 0, 0, 0, [], ()), false, ()), ())
 else joinK sh36_K10 fun j11 => iter fuel (sh36_L12 j11) (z9.1, z9.2.1, z9.2.2.1, 0, z9.2.2.2.2)
noncomputable def sh36_K7 (fuel : Nat) (z7 : Bd) : Ah :=
 if inR z7.2.2.1 z7.1.length = true then
 (sp53 (lAt ([], ()) z7.1 z7.2.2.1)).bind fun r8 =>
 joinK (sh36_K9 fuel) fun j14 =>
 if (!r8.1.2.1) = true then
 j14
 (z7.1, z7.2.1, z7.2.2.1, true, z7.2.2.2.2.1, (z7.2.2.2.2.2.1.1, z7.2.2.2.2.2.1.2.1, z7.2.2.2.2.2.1.2.2.1, r8.1.1, z7.2.2.2.2.2.1.2.2.2.2),
 z7.2.2.2.2.2.2)
 else
 if (!z7.2.2.2.1) = true then
 j14
 (z7.1, z7.2.1, z7.2.2.1, true, z7.2.2.2.2.1, (z7.2.2.2.2.2.1.1, z7.2.2.2.2.2.1.2.1, z7.2.2.2.2.2.1.2.2.1, r8.1.1, z7.2.2.2.2.2.1.2.2.2.2),
 z7.2.2.2.2.2.2)
 else
 if decide (0 < z7.2.1) = true then
 if inR (IntKind.i64.wrap (z7.2.2.1 + 1)) z7.1.length = true then
 j14
 (z7.1, z7.2.1, z7.2.2.1, !(lAt ([], ()) z7.1 (IntKind.i64.wrap (z7.2.2.1 + 1))).1 == [62], z7.2.2.2.2.1,
 (z7.2.2.2.2.2.1.1, z7.2.2.2.2.2.1.2.1, z7.2.2.2.2.2.1.2.2.1, r8.1.1, z7.2.2.2.2.2.1.2.2.2.2), z7.2.2.2.2.2.2)
 else none
 else
 j14
 (z7.1, z7.2.1, z7.2.2.1, false, z7.2.2.2.2.1,
 (z7.2.2.2.2.2.1.1, z7.2.2.2.2.2.1.2.1, z7.2.2.2.2.2.1.2.2.1, r8.1.1, z7.2.2.2.2.2.1.2.2.2.2), z7.2.2.2.2.2.2)
 else none
noncomputable def sh36_K6 (fuel : Nat) (z6 : Bd) : Ah :=
 if z6.2.2.2.1 = true then some ((([], 0, 0, 0, [], 0, 0, 0, [], ()), false, ()), ())
 else
 if inR 1 z6.1.length = true then
 joinK (sh36_K7 fuel) fun j15 =>
 (sp20 (z6.2.2.2.2.2.1.2.1, ())).bind fun r16 =>
 if r16.1 = true then
 if inR 2 z6.1.length = true then
 (sp53 (lAt ([], ()) z6.1 2)).bind fun r17 =>
 j15
 (z6.1, z6.2.1, 3, r17.1.2.1, z6.2.2.2.2.1, ((lAt ([], ()) z6.1 1).1, z6.2.2.2.2.2.1.2.1, r17.1.1, z6.2.2.2.2.2.1.2.2.2),
 z6.2.2.2.2.2.2)
 else none
 else j15 (z6.1, z6.2.1, z6.2.2.1, true, z6.2.2.2.2.1, ((lAt ([], ()) z6.1 1).1, z6.2.2.2.2.2.1.2), z6.2.2.2.2.2.2)
 else none
noncomputable def sh36_K5 (fuel : Nat) (z5 : Bf) : Ah :=
 joinK (sh36_K6 fuel) fun j18 =>
 if (z5.2.2.2.2.2.1.2.1 == 0) = true then j18 (z5.1, z5.2.1, z5.2.2.1, true, z5.2.2.2.2)
 else
 if ((↑z5.1.length : Int) != z5.2.2.2.1) = true then j18 (z5.1, z5.2.1, z5.2.2.1, true, z5.2.2.2.2)
 else if inR 1 z5.1.length = true then (sp54 (lAt ([], ()) z5.1 1)).bind fun r19 => j18 (z5.1, z5.2.1, z5.2.2.1, !r19.1, z5.2.2.2.2) else none
noncomputable def sh36_K4 (fuel : Nat) (z4 : Bf) : Ah :=
 joinK (sh36_K5 fuel) fun j20 =>
 if decide (0 < z4.2.1) = true then j20 (z4.1, z4.2.1, z4.2.2.1, IntKind.i64.wrap (z4.2.2.2.1 + IntKind.i64.wrap (1 + z4.2.1)), z4.2.2.2.2)
 else j20 z4
noncomputable def sh36_K2 (fuel : Nat) (z2 : Aw × Ac) : Ah :=
 (sp55 (z2.2.2.1.2.1, ())).bind fun r3 =>
 joinK (sh36_K4 fuel) fun j21 =>
 (sp20 (z2.2.2.1.2.1, ())).bind fun r22 => if r22.1 = true then j21 (z2.1, r3.1, 2, 4, z2.2) else j21 (z2.1, r3.1, 2, 3, z2.2)
noncomputable def sh36_K25 (rc24 : A9 → Ah) (z25 : A9) : Ah :=
 rc24 (z25.1, IntKind.i64.wrap (z25.2.1 + 1), z25.2.2)
noncomputable def sh36_L24 (j23 : Aw × Ac → Ah) (rc24 : A9 → Ah) (z24 : A9) : Ah :=
 if decide (z24.2.1 ≤ 9) = true then
 joinK (sh36_K25 rc24) fun j26 =>
 if
 inR z24.2.1
 [([], ()), ([101, 110, 116, 114, 121], ()), ([98, 101, 108, 116], ()), ([115, 99, 114, 101, 101, 110], ()),
 ([100, 105, 118, 101, 114, 116, 101, 114], ()), ([108, 111, 111, 112], ()), ([103, 97, 116, 101], ()),
 ([115, 116, 111, 114, 101], ()), ([99, 104, 117, 116, 101], ()), ([109, 97, 110, 117, 97, 108], ())].length =
 true then
 if inR 0 z24.1.length = true then
 if
 ((lAt ([], ())
 [([], ()), ([101, 110, 116, 114, 121], ()), ([98, 101, 108, 116], ()), ([115, 99, 114, 101, 101, 110], ()),
 ([100, 105, 118, 101, 114, 116, 101, 114], ()), ([108, 111, 111, 112], ()), ([103, 97, 116, 101], ()),
 ([115, 116, 111, 114, 101], ()), ([99, 104, 117, 116, 101], ()), ([109, 97, 110, 117, 97, 108], ())]
 z24.2.1).1 ==
 (lAt ([], ()) z24.1 0).1) =
 true then
 j26 (z24.1, z24.2.1, z24.2.2.1, (z24.2.2.2.1.1, z24.2.1, z24.2.2.2.1.2.2), z24.2.2.2.2)
 else j26 z24
 else none
 else none
 else j23 (z24.1, z24.2.2)
noncomputable def sh36_K1 (fuel : Nat) (z1 : Aw × Ac) : Ah :=
 joinK (sh36_K2 fuel) fun j23 => iter fuel (sh36_L24 j23) (z1.1, 1, z1.2)
noncomputable def sh36_K31 (rc28 : A9 → Ah) (z31 : Bd) : Ah :=
 if z31.2.2.2.1 = true then
 if inCut 1 2 z31.1.length = true then
 some
 (((z31.2.2.2.2.2.1.1, z31.2.2.2.2.2.1.2.1, z31.2.2.2.2.2.1.2.2.1, z31.2.2.2.2.2.1.2.2.2.1, z31.2.2.2.2.2.2.2.2.1, z31.2.1, 0, z31.2.2.1,
 cutL z31.1 1 2, ()),
 true, ()),
 ())
 else none
 else rc28 (z31.1, IntKind.i64.wrap (z31.2.1 + 1), z31.2.2.2.2)
noncomputable def sh36_K29 (j27 : Aw × Ac → Ah) (rc28 : A9 → Ah) (z29 : Aw × Int × Bool × Ac) : Ah :=
 if z29.2.2.1 = true then
 if inR 2 z29.1.length = true then
 (sp53 (lAt ([], ()) z29.1 2)).bind fun r30 =>
 joinK (sh36_K31 rc28) fun j32 =>
 if inR 0 z29.1.length = true then
 if inR z29.2.1 [([], ()), ([112, 104, 111, 116, 111, 99, 101, 108, 108], ()), ([115, 99, 97, 110, 110, 101, 114], ())].length = true then
 if
 decide
 (z29.2.1.toNat + 1 ≤
 [([], ()), ([112, 104, 111, 116, 111, 99, 101, 108, 108], ()), ([115, 99, 97, 110, 110, 101, 114], ())].length) =
 true then
 if
 ((lAt ([], ()) z29.1 0).1 ==
 ([([], ()), ([112, 104, 111, 116, 111, 99, 101, 108, 108], ()), ([115, 99, 97, 110, 110, 101, 114], ())].getD z29.2.1.toNat
 ([], ())).1) =
 true then
 if r30.1.2.1 = true then
 if inR 1 z29.1.length = true then (sp54 (lAt ([], ()) z29.1 1)).bind fun r33 => j32 (z29.1, z29.2.1, r30.1.1, r33.1, z29.2.2.2)
 else none
 else j32 (z29.1, z29.2.1, r30.1.1, false, z29.2.2.2)
 else j32 (z29.1, z29.2.1, r30.1.1, false, z29.2.2.2)
 else none
 else none
 else none
 else none
 else j27 (z29.1, z29.2.2.2)
noncomputable def sh36_L28 (j27 : Aw × Ac → Ah) (rc28 : A9 → Ah) (z28 : A9) : Ah :=
 joinK (sh36_K29 j27 rc28) fun j34 =>
 if decide (z28.2.1 ≤ 2) = true then j34 (z28.1, z28.2.1, (↑z28.1.length : Int) == 3, z28.2.2) else j34 (z28.1, z28.2.1, false, z28.2.2)
noncomputable def sh36 (fuel : Nat) (x0 : Am) : Ah :=
 (sp35 (x0, 32, ())).bind fun r0 =>
 joinK (sh36_K1 fuel) fun j27 => iter fuel (sh36_L28 j27) (r0.1, 1, ([], 0, 0, 0, 0, 0, 0, ()), ([], 0, 0, 0, 0, 0, 0, ()), [], [], [], [], ())
noncomputable def sp36 (x : Bn) : Ah := sh36 100000 x.1
/-! 37 baggage/baggageref07.Find -/
def g37 : Sig := ⟨[.v (.ag ty4), .v (.ty .str)], .v (.ty (.int .i64))⟩
def h37 : HT := (nx (.j ⟨[], [], []⟩ (nx (.u (.l ⟨[(1, dS), (2, bD), (5, dI)], [(1000, a8)], []⟩ a0))) aG))
noncomputable def sh37_K0 (z0 : Unit) : XO0 :=
 some (-1, ())
noncomputable def sh37_L2 (j1 : Unit → XO0) (rc2 : Am × A0 → XO0) (z2 : Am × A0) : XO0 :=
 if decide (z2.2.1 < (↑z2.2.2.1.1.length : Int)) = true then
 if inR z2.2.1 z2.2.2.1.1.length = true then
 if ((lAt ([], 0, 0, 0, [], ()) z2.2.2.1.1 z2.2.1).1 == z2.1) = true then some (z2.2.1, ()) else rc2 (z2.1, IntKind.i64.wrap (z2.2.1 + 1), z2.2.2)
 else none
 else j1 ()
noncomputable def sh37 (fuel : Nat) (x0 : Ty4) (x1 : Am) : XO0 :=
 joinK sh37_K0 fun j1 => iter fuel (sh37_L2 j1) (x1, 0, x0, ())
noncomputable def sp37 (x : Ty4 × Bn) : XO0 := sh37 100000 x.1 x.2.1
/-! 60 baggage/baggageref07.in -/
def g60 : Sig := ⟨[.v (.ty (.int .i64)), .v (.ty (.int .i64)), .v (.ty (.int .i64))], .v (.ty .bool)⟩
def h60 : HT := aK
noncomputable def sh60_K0 (z0 : Ab) : XB :=
 some z0
noncomputable def sh60 (fuel : Nat) (x0 : Int) (x1 : Int) (x2 : Int) : XB :=
 joinK sh60_K0 fun j1 => if decide (x1 ≤ x0) = true then j1 (decide (x0 ≤ x2), ()) else j1 (false, ())
noncomputable def sp60 (x : B1) : XB := sh60 0 x.1 x.2.1 x.2.2.1
/-! 56 baggage/baggageref07.node -/
def g56 : Sig := ⟨[.v (.ag ty4), .v (.ty (.int .i64))], .v (.ty (.int .i64))⟩
def h56 : HT := (nx (nx (.n aJ (.n aJ (nx (.j ⟨[(1, dI), (2, bD), (5, bT), (6, dI), (7, dI)], [(1000, a8), (1001, bH)], []⟩ aN (.j ⟨[(1, dI), (2, bJ), (5, .ref 1003 5), (6, dI), (7, dI)], [(1002, a8), (1003, bH)], []⟩ aN (.n (.j ⟨[(1, dI), (2, bK), (5, .ref 1005 5), (49, dB)], [(1004, a8), (1005, bH)], []⟩ (.r .q) aC) (.j ⟨[(5, .ref 1014 5)], [(1014, bH)], []⟩ (nx (.u (.l ⟨[(1, dI), (2, bM), (5, .ref 1007 5), (8, dI)], [(1006, a8), (1007, bH)], []⟩ (.n aE (.n (.u (.j ⟨[(1, dI), (2, bO), (5, .ref 1009 5), (8, dI), (9, dB)], [(1008, a8), (1009, bH)], []⟩ (.r .x) (.j ⟨[(1, dI), (2, .ref 1010 2), (5, .ref 1011 5), (8, dI), (85, dB)], [(1010, a8), (1011, bH)], []⟩ (.r .q) aC))) (.r .x)))))) (.n (.j ⟨[(100, dB)], [], []⟩ (.r .q) aC) aG))))))))))
noncomputable def sh56_K6 (z6 : Ab) : XO0 :=
 if z6.1 = true then some (1, ()) else some (0, ())
noncomputable def sh56_K5 (z5 : Ba) : XO0 :=
 joinK sh56_K6 fun j7 =>
 if ((↑z5.1.2.2.2.2.1.length : Int) == 2) = true then
 if inR 0 z5.1.2.2.2.2.1.length = true then
 if inR 1 z5.1.2.2.2.2.1.length = true then j7 ((lAt (0, ()) z5.1.2.2.2.2.1 0).1 == (lAt (0, ()) z5.1.2.2.2.2.1 1).1, ()) else none
 else none
 else j7 (false, ())
noncomputable def sh56_K11 (rc9 : Aj → XO0) (z11 : B2) : XO0 :=
 if z11.2.2.1 = true then some (1, ()) else rc9 (z11.1, IntKind.i64.wrap (z11.2.1 + 1), z11.2.2.2)
noncomputable def sh56_K10 (rc9 : Aj → XO0) (z10 : B2) : XO0 :=
 joinK (sh56_K11 rc9) fun j12 =>
 if inR z10.2.1 z10.2.2.2.2.1.2.2.2.2.1.length = true then
 (sp60 ((lAt (0, ()) z10.2.2.2.2.1.2.2.2.2.1 z10.2.1).1, 0, IntKind.i64.wrap ((↑z10.2.2.2.1.1.length : Int) - 1), ())).bind fun r13 =>
 if (!r13.1) = true then j12 (z10.1, z10.2.1, true, z10.2.2.2)
 else
 if inR z10.2.1 z10.2.2.2.2.1.2.2.2.2.1.length = true then
 j12 (z10.1, z10.2.1, !((lAt (0, ()) z10.2.2.2.2.1.2.2.2.2.1 z10.2.1).1 == z10.1) == z10.2.2.1, z10.2.2.2)
 else none
 else none
noncomputable def sh56_L9 (j8 : Ba → XO0) (rc9 : Aj → XO0) (z9 : Aj) : XO0 :=
 if decide (z9.2.1 < (↑z9.2.2.2.1.2.2.2.2.1.length : Int)) = true then
 joinK (sh56_K10 rc9) fun j14 => if (z9.2.2.2.1.2.1 == 5) = true then j14 (z9.1, z9.2.1, z9.2.1 == 0, z9.2.2) else j14 (z9.1, z9.2.1, false, z9.2.2)
 else j8 z9.2.2.2
noncomputable def sh56_K4 (fuel : Nat) (z4 : Au) : XO0 :=
 if z4.2.1 = true then some (1, ()) else joinK sh56_K5 fun j8 => iter fuel (sh56_L9 j8) (z4.1, 0, z4.2.2)
noncomputable def sh56_K3 (fuel : Nat) (z3 : Int × Aj) : XO0 :=
 joinK (sh56_K4 fuel) fun j15 =>
 (sp60 (z3.2.2.2.2.1.2.2.1, z3.2.1, z3.2.2.1, ())).bind fun r16 =>
 if (!r16.1) = true then j15 (z3.1, true, z3.2.2.2)
 else
 (sp60 (z3.2.2.2.2.1.2.2.2.1, 0, 1, ())).bind fun r17 =>
 if (!r17.1) = true then j15 (z3.1, true, z3.2.2.2)
 else (sp55 (z3.2.2.2.2.1.2.1, ())).bind fun r18 => j15 (z3.1, (↑z3.2.2.2.2.1.2.2.2.2.1.length : Int) != r18.1, z3.2.2.2)
noncomputable def sh56_K2 (fuel : Nat) (z2 : Int × Aj) : XO0 :=
 joinK (sh56_K3 fuel) fun j19 => if (z2.2.2.2.2.1.2.1 == 5) = true then j19 (z2.1, 2, z2.2.2) else j19 z2
noncomputable def sh56 (fuel : Nat) (x0 : Ty4) (x1 : Int) : XO0 :=
 if inR x1 x0.1.length = true then
 (sp54 ((lAt ([], 0, 0, 0, [], ()) x0.1 x1).1, ())).bind fun r0 =>
 if (!r0.1) = true then some (3, ())
 else
 (sp60 ((lAt ([], 0, 0, 0, [], ()) x0.1 x1).2.1, 1, 9, ())).bind fun r1 =>
 if (!r1.1) = true then some (4, ())
 else
 joinK (sh56_K2 fuel) fun j20 =>
 (sp20 ((lAt ([], 0, 0, 0, [], ()) x0.1 x1).2.1, ())).bind fun r21 =>
 if r21.1 = true then j20 (x1, 1, 8, x0, lAt ([], 0, 0, 0, [], ()) x0.1 x1, ())
 else j20 (x1, 0, 0, x0, lAt ([], 0, 0, 0, [], ()) x0.1 x1, ())
 else none
noncomputable def sp56 (x : Ty4 × Ai) : XO0 := sh56 100000 x.1 x.2.1
/-! 57 baggage/baggageref07.total -/
def g57 : Sig := ⟨[.v (.ag ty4)], .v (.ty (.int .i64))⟩
def h57 : HT := (nx (nx (.j ⟨[(3, dI)], [], []⟩ (nx (.u (.l ⟨[(1, bD), (3, dI), (4, dI)], [(1000, a8)], []⟩ aL))) aG)))
noncomputable def sh57_K0 (z0 : Ai) : XO0 :=
 some z0
noncomputable def sh57_L2 (j1 : Ai → XO0) (rc2 : Ao → XO0) (z2 : Ao) : XO0 :=
 if decide (z2.2.1 < (↑z2.2.2.1.1.length : Int)) = true then
 if inR z2.2.1 z2.2.2.1.1.length = true then
 rc2 (IntKind.i64.wrap (z2.1 + (lAt ([], 0, 0, 0, [], ()) z2.2.2.1.1 z2.2.1).2.2.1), IntKind.i64.wrap (z2.2.1 + 1), z2.2.2)
 else none
 else j1 (z2.1, ())
noncomputable def sh57 (fuel : Nat) (x0 : Ty4) : XO0 :=
 joinK sh57_K0 fun j1 => iter fuel (sh57_L2 j1) (0, 0, x0, ())
noncomputable def sp57 (x : Af) : XO0 := sh57 100000 x.1
/-! 58 baggage/baggageref07.zoned -/
def g58 : Sig := ⟨[.v (.ag ty4)], .v (.ty .bool)⟩
def h58 : HT := (nx (.j ⟨[], [], []⟩ (nx (.u (.l ⟨[(1, bD), (3, dI)], [(1000, a8)], []⟩ (.n aE (.j ⟨[(1, .ref 1019 2), (3, dI)], [(1019, a8)], []⟩ (.u (nx (.j ⟨[(1, bN), (3, dI), (4, .ref 1002 5), (5, dB)], [(1001, a8), (1002, bH)], []⟩ (.r .x) (.j ⟨[(1, bP), (3, dI), (4, .ref 1004 5), (5, dB), (6, dB)], [(1003, a8), (1004, bH)], []⟩ (.r .x) (.n (.j ⟨[(1, .ref 1005 2), (3, dI), (4, .ref 1006 5), (56, dB)], [(1005, a8), (1006, bH)], []⟩ (.r .x) aC) (nx (.u (.l ⟨[(1, bY), (3, dI), (4, .ref 1008 5), (7, dI)], [(1007, a8), (1008, bH)], []⟩ (.n aE (.n (.u (.n (.r (.da 9)) (nx (.j ⟨[(1, bU), (3, dI), (4, .ref 1013 5), (7, dI), (8, .ref 1014 5), (9, dI)], [(1012, a8), (1013, bH), (1014, bH)], []⟩ (.j ⟨[(1, bZ), (3, dI), (4, .ref 1010 5), (7, dI), (8, .ref 1011 5), (9, dI), (81, dB)], [(1009, a8), (1010, bH), (1011, bH)], []⟩ (.r .x) aG) (.j ⟨[(1, .ref 1015 2), (3, dI), (4, .ref 1016 5), (7, dI), (90, dB)], [(1015, a8), (1016, bH)], []⟩ (.r .x) aC))))) (.r .x))))))))))) (.r .x)))))) aG))
noncomputable def sh58_K0 (z0 : Unit) : XB :=
 some (true, ())
noncomputable def sh58_K3 (rc2 : A0 → XB) (z3 : A0) : XB :=
 rc2 (IntKind.i64.wrap (z3.1 + 1), z3.2)
noncomputable def sh58_K10 (rc8 : Aj → XB) (z10 : B2) : XB :=
 if z10.2.2.1 = true then some (false, ()) else rc8 (z10.1, IntKind.i64.wrap (z10.2.1 + 1), z10.2.2.2)
noncomputable def sh58_K9 (rc8 : Aj → XB) (z9 : B3) : XB :=
 joinK (sh58_K10 rc8) fun j11 =>
 if (z9.2.2.2.2.2.1.2.1 == 1) = true then j11 (z9.1, z9.2.1, true, z9.2.2.2.1, z9.2.2.2.2.1, ())
 else j11 (z9.1, z9.2.1, z9.2.2.2.2.2.1.2.2.2.1 != z9.2.2.1, z9.2.2.2.1, z9.2.2.2.2.1, ())
noncomputable def sh58_K13 (j12 : B3 → XB) (z13 : Int × Int × Int × Bool × Ty4 × Ty2 × Ba) : XB :=
 if z13.2.2.2.1 = true then j12 (z13.1, z13.2.1, 1, z13.2.2.2.2) else j12 (z13.1, z13.2.1, z13.2.2.1, z13.2.2.2.2)
noncomputable def sh58_L8 (j4 : A0 → XB) (rc8 : Aj → XB) (z8 : Aj) : XB :=
 if decide (z8.2.1 < (↑z8.2.2.2.1.2.2.2.2.1.length : Int)) = true then
 if inR z8.2.1 z8.2.2.2.1.2.2.2.2.1.length = true then
 if inR (lAt (0, ()) z8.2.2.2.1.2.2.2.2.1 z8.2.1).1 z8.2.2.1.1.length = true then
 joinK (sh58_K9 rc8) fun j12 =>
 joinK (sh58_K13 j12) fun j14 =>
 if (z8.2.2.2.1.2.1 == 6) = true then
 j14
 (z8.1, z8.2.1, z8.2.2.2.1.2.2.2.1, z8.2.1 == 1, z8.2.2.1, z8.2.2.2.1,
 lAt ([], 0, 0, 0, [], ()) z8.2.2.1.1 (lAt (0, ()) z8.2.2.2.1.2.2.2.2.1 z8.2.1).1, ())
 else
 j14
 (z8.1, z8.2.1, z8.2.2.2.1.2.2.2.1, false, z8.2.2.1, z8.2.2.2.1,
 lAt ([], 0, 0, 0, [], ()) z8.2.2.1.1 (lAt (0, ()) z8.2.2.2.1.2.2.2.2.1 z8.2.1).1, ())
 else none
 else none
 else j4 (z8.1, z8.2.2.1, ())
noncomputable def sh58_K7 (fuel : Nat) (j4 : A0 → XB) (z7 : Au) : XB :=
 if z7.2.1 = true then some (false, ()) else iter fuel (sh58_L8 j4) (z7.1, 0, z7.2.2)
noncomputable def sh58_K6 (fuel : Nat) (j4 : A0 → XB) (z6 : Int × Bool × Bool × Ty4 × Ba) : XB :=
 joinK (sh58_K7 fuel j4) fun j15 =>
 if z6.2.1 = true then
 if (z6.2.2.2.2.1.2.2.2.1 != 0) = true then j15 (z6.1, true, z6.2.2.2)
 else if z6.2.2.1 = true then j15 (z6.1, z6.2.2.2.2.1.2.2.2.1 != 1, z6.2.2.2) else j15 (z6.1, false, z6.2.2.2)
 else if z6.2.2.1 = true then j15 (z6.1, z6.2.2.2.2.1.2.2.2.1 != 1, z6.2.2.2) else j15 (z6.1, false, z6.2.2.2)
noncomputable def sh58_K5 (fuel : Nat) (j4 : A0 → XB) (z5 : Au) : XB :=
 joinK (sh58_K6 fuel j4) fun j16 =>
 if (z5.2.2.2.1.2.1 == 7) = true then j16 (z5.1, z5.2.1, true, z5.2.2) else j16 (z5.1, z5.2.1, z5.2.2.2.1.2.1 == 8, z5.2.2)
noncomputable def sh58_L2 (fuel : Nat) (j1 : Unit → XB) (rc2 : A0 → XB) (z2 : A0) : XB :=
 if decide (z2.1 < (↑z2.2.1.1.length : Int)) = true then
 joinK (sh58_K3 rc2) fun j4 =>
 if inR z2.1 z2.2.1.1.length = true then
 joinK (sh58_K5 fuel j4) fun j17 =>
 if ((lAt ([], 0, 0, 0, [], ()) z2.2.1.1 z2.1).2.1 == 1) = true then j17 (z2.1, true, z2.2.1, lAt ([], 0, 0, 0, [], ()) z2.2.1.1 z2.1, ())
 else
 if ((lAt ([], 0, 0, 0, [], ()) z2.2.1.1 z2.1).2.1 == 3) = true then j17 (z2.1, true, z2.2.1, lAt ([], 0, 0, 0, [], ()) z2.2.1.1 z2.1, ())
 else j17 (z2.1, (lAt ([], 0, 0, 0, [], ()) z2.2.1.1 z2.1).2.1 == 6, z2.2.1, lAt ([], 0, 0, 0, [], ()) z2.2.1.1 z2.1, ())
 else none
 else j1 ()
noncomputable def sh58 (fuel : Nat) (x0 : Ty4) : XB :=
 joinK sh58_K0 fun j1 => iter fuel (sh58_L2 fuel j1) (0, x0, ())
noncomputable def sp58 (x : Af) : XB := sh58 100000 x.1
/-! 21 baggage/baggagekeep.In -/
def g21 : Sig := ⟨[.v (.ty (.sl (.cons (.int .i64) .nil))), .v (.ty (.int .i64))], .v (.ty .bool)⟩
def h21 : HT := (nx (.j ⟨[], [], []⟩ (nx (.u (.l ⟨[(0, dL), (1, dI), (5, dI)], [], []⟩ a0))) aG))
noncomputable def sh21_K0 (z0 : Unit) : XB :=
 some (false, ())
noncomputable def sh21_L2 (j1 : Unit → XB) (rc2 : XI × Az → XB) (z2 : XI × Az) : XB :=
 if decide (z2.2.2.1 < (↑z2.1.length : Int)) = true then
 if inR z2.2.2.1 z2.1.length = true then
 if ((lAt (0, ()) z2.1 z2.2.2.1).1 == z2.2.1) = true then some (true, ()) else rc2 (z2.1, z2.2.1, IntKind.i64.wrap (z2.2.2.1 + 1), ())
 else none
 else j1 ()
noncomputable def sh21 (fuel : Nat) (x0 : XI) (x1 : Int) : XB :=
 joinK sh21_K0 fun j1 => iter fuel (sh21_L2 j1) (x0, x1, 0, ())
noncomputable def sp21 (x : B6) : XB := sh21 100000 x.1 x.2.1
/-! 71 baggage/baggageref07.Leads -/
def g71 : Sig := ⟨[.v (.ag ty4), .v (.ty (.int .i64)), .v (.ty (.int .i64))], .v (.ty .bool)⟩
def h71 : HT := aK
noncomputable def sh71_K0 (z0 : Ab) : XB :=
 some z0
noncomputable def sh71 (fuel : Nat) (x0 : Ty4) (x1 : Int) (x2 : Int) : XB :=
 joinK sh71_K0 fun j1 =>
 if (x1 != x2) = true then
 if inR x1 x0.1.length = true then (sp21 ((lAt ([], 0, 0, 0, [], ()) x0.1 x1).2.2.2.2.1, x2, ())).bind fun r2 => j1 r2 else none
 else j1 (false, ())
noncomputable def sp71 (x : Ty4 × Az) : XB := sh71 0 x.1 x.2.1 x.2.2.1
/-! 59 baggage/baggageref07.order -/
def g59 : Sig := ⟨[.v (.ag ty4)], .own (.cons (.int .i64) .nil)⟩
def h59 : HT := (nx (nx (.j ⟨[(3, .own 1022)], [(1022, a9)], []⟩ (.u (.l ⟨[(1, bD), (3, bR)], [(1000, a8), (1001, a9)], []⟩ (.n aE (.u (nx (.j ⟨[(1, .ref 1018 2), (3, .own 1019), (4, dI)], [(1018, a8), (1019, a9)], []⟩ (nx (.u (.l ⟨[(1, bJ), (3, bW), (4, dI), (5, dI)], [(1002, a8), (1003, a9)], []⟩ (.n aE (.j ⟨[(1, bX), (3, .own 1015), (4, dI), (5, dI)], [(1014, a8), (1015, a9)], []⟩ (.u (nx (.j ⟨[(1, bU), (3, .own 1013), (4, dI), (5, dI), (6, dB)], [(1012, a8), (1013, a9)], []⟩ (nx (.u (.l ⟨[(1, bK), (3, .own 1005), (4, dI), (5, dI), (6, dB), (7, dI)], [(1004, a8), (1005, a9)], []⟩ (.n aE (.j ⟨[(1, bO), (3, .own 1009), (4, dI), (5, dI), (6, dB), (7, dI)], [(1008, a8), (1009, a9)], []⟩ (.u (.j ⟨[(1, bM), (3, .own 1007), (4, dI), (5, dI), (6, dB), (7, dI), (42, dB)], [(1006, a8), (1007, a9)], []⟩ (.r .x) aG)) (.r .x)))))) aN))) (.r .x)))))) (.n aJ (.r .x)))))))) aG)))
noncomputable def sh59_K0 (z0 : Al) : XO1 :=
 some z0
noncomputable def sh59_K3 (rc2 : Ty4 × Al → XO1) (z3 : Ax) : XO1 :=
 if decide (z3.1 < 0) = true then some z3.2.2
 else
 if decide (z3.2.2.1.length + 1 ≤ Abs.lim) = true then
 if decide ((z3.2.2.1.length + 1) * 8 ≤ Abs.lim) = true then rc2 (z3.2.1, z3.2.2.1 ++ [(z3.1, ())], ()) else none
 else none
noncomputable def sh59_K6 (rc5 : Bh → XO1) (z6 : Bh) : XO1 :=
 rc5 (z6.1, IntKind.i64.wrap (z6.2.1 - 1), z6.2.2)
noncomputable def sh59_K9 (j7 : Bh → XO1) (z9 : Int × Bj) : XO1 :=
 if z9.2.2.1 = true then j7 (z9.2.1, z9.2.1, z9.2.2.2) else j7 (z9.1, z9.2.1, z9.2.2.2)
noncomputable def sh59_K12 (rc11 : Bc → XO1) (z12 : Bc) : XO1 :=
 rc11 (z12.1, z12.2.1, z12.2.2.1, IntKind.i64.wrap (z12.2.2.2.1 + 1), z12.2.2.2.2)
noncomputable def sh59_K14 (j13 : Bc → XO1) (z14 : Int × Int × Bool × Bj) : XO1 :=
 if z14.2.2.2.2.1 = true then j13 (z14.1, z14.2.1, false, z14.2.2.2.1, z14.2.2.2.2.2) else j13 (z14.1, z14.2.1, z14.2.2.1, z14.2.2.2.1, z14.2.2.2.2.2)
noncomputable def sh59_L11 (j10 : Int × Bj → XO1) (rc11 : Bc → XO1) (z11 : Bc) : XO1 :=
 if decide (z11.2.2.2.1 < (↑z11.2.2.2.2.1.1.length : Int)) = true then
 joinK (sh59_K12 rc11) fun j13 =>
 joinK (sh59_K14 j13) fun j15 =>
 (sp71 (z11.2.2.2.2.1, z11.2.2.2.1, z11.2.1, ())).bind fun r16 =>
 if r16.1 = true then
 (sp21 (z11.2.2.2.2.2.1, z11.2.2.2.1, ())).bind fun r17 => j15 (z11.1, z11.2.1, z11.2.2.1, z11.2.2.2.1, !r17.1, z11.2.2.2.2)
 else j15 (z11.1, z11.2.1, z11.2.2.1, z11.2.2.2.1, false, z11.2.2.2.2)
 else j10 (z11.1, z11.2.1, z11.2.2.1, z11.2.2.2.2)
noncomputable def sh59_L5 (fuel : Nat) (j4 : Ax → XO1) (rc5 : Bh → XO1) (z5 : Bh) : XO1 :=
 if decide (0 ≤ z5.2.1) = true then
 joinK (sh59_K6 rc5) fun j7 =>
 (sp21 (z5.2.2.2.1, z5.2.1, ())).bind fun r8 => joinK (sh59_K9 j7) fun j10 => iter fuel (sh59_L11 j10) (z5.1, z5.2.1, !r8.1, 0, z5.2.2)
 else j4 (z5.1, z5.2.2)
noncomputable def sh59_L2 (fuel : Nat) (j1 : Al → XO1) (rc2 : Ty4 × Al → XO1) (z2 : Ty4 × Al) : XO1 :=
 if decide ((↑z2.2.1.length : Int) < (↑z2.1.1.length : Int)) = true then
 joinK (sh59_K3 rc2) fun j4 => iter fuel (sh59_L5 fuel j4) (-1, IntKind.i64.wrap ((↑z2.1.1.length : Int) - 1), z2)
 else j1 z2.2
noncomputable def sh59 (fuel : Nat) (x0 : Ty4) : XO1 :=
 joinK sh59_K0 fun j1 => iter fuel (sh59_L2 fuel j1) (x0, [], ())
noncomputable def sp59 (x : Af) : XO1 := sh59 100000 x.1
/-! 38 baggage/baggageref07.Validate -/
def g38 : Sig := ⟨[.v (.ag ty4)], .v (.ty (.int .i64))⟩
def h38 : HT := (nx (.n (.j ⟨[(1, bD), (20, dB)], [(1000, a8)], []⟩ (.r .x) aC) (nx (.j ⟨[(1, bK), (3, dI)], [(1004, a8)], []⟩ (nx (.u (.l ⟨[(1, bN), (3, dI), (4, dI)], [(1001, a8)], []⟩ (.n aE (.j ⟨[(1, bJ), (3, dI), (4, dI)], [(1002, a8)], []⟩ (.u (.n (nx aJ) aN)) (.r .x)))))) (.n aJ (.j ⟨[(1, bY), (3, dI)], [(1007, a8)], []⟩ (nx (.u (.l ⟨[(1, .ref 1005 2), (3, dI), (6, dI)], [(1005, a8)], []⟩ aU))) (.n aJ (.n aS (.j ⟨[(1, .ref 1013 2), (3, dI)], [(1013, a8)], []⟩ (nx (.u (.l ⟨[(1, bO), (3, dI), (7, dI)], [(1008, a8)], []⟩ (.n aE (.n (.u (nx (.n (.j ⟨[(1, bZ), (3, dI), (7, dI), (8, .ref 1010 3), (92, dB)], [(1009, a8), (1010, .box b3)], []⟩ (.r .x) aC) (.j ⟨[(1, .ref 1011 2), (3, dI), (7, dI), (114, dB)], [(1011, a8)], []⟩ (.r .q) aC)))) (.r .x)))))) (.j ⟨[(3, dI)], [], []⟩ (nx (.u (.l ⟨[(1, bX), (3, dI), (9, dI)], [(1014, a8)], []⟩ (.n aE (.j ⟨[(1, .ref 1017 2), (3, dI), (9, dI)], [(1017, a8)], []⟩ (.u (nx (.u (.l ⟨[(1, .ref 1015 2), (3, dI), (9, dI), (10, dI)], [(1015, a8)], []⟩ aU)))) (.r .x)))))) (.n aJ aG)))))))))))
noncomputable def sh38_K7 (z7 : Ai) : XO0 :=
 if (z7.1 == 0) = true then some (6, ()) else some (0, ())
noncomputable def sh38_K10 (rc9 : Ao → XO0) (z10 : Ao) : XO0 :=
 rc9 (z10.1, IntKind.i64.wrap (z10.2.1 + 1), z10.2.2)
noncomputable def sh38_L12 (j11 : Ao → XO0) (rc12 : Int × Ao → XO0) (z12 : Int × Ao) : XO0 :=
 if decide (z12.2.2.1 < z12.2.1) = true then
 if inR z12.2.1 z12.2.2.2.1.2.1.length = true then
 if inR z12.2.2.1 z12.2.2.2.1.2.1.length = true then
 if
 ((lAt (0, 0, 0, ()) z12.2.2.2.1.2.1 z12.2.1).1 == (lAt (0, 0, 0, ()) z12.2.2.2.1.2.1 z12.2.2.1).1 &&
 ((lAt (0, 0, 0, ()) z12.2.2.2.1.2.1 z12.2.1).2.1 == (lAt (0, 0, 0, ()) z12.2.2.2.1.2.1 z12.2.2.1).2.1 &&
 ((lAt (0, 0, 0, ()) z12.2.2.2.1.2.1 z12.2.1).2.2.1 == (lAt (0, 0, 0, ()) z12.2.2.2.1.2.1 z12.2.2.1).2.2.1 && true))) =
 true then
 some (5, ())
 else rc12 (z12.1, z12.2.1, IntKind.i64.wrap (z12.2.2.1 + 1), z12.2.2.2)
 else none
 else none
 else j11 (z12.1, z12.2.1, z12.2.2.2)
noncomputable def sh38_L9 (fuel : Nat) (j8 : Ai → XO0) (rc9 : Ao → XO0) (z9 : Ao) : XO0 :=
 if decide (z9.2.1 < (↑z9.2.2.1.2.1.length : Int)) = true then joinK (sh38_K10 rc9) fun j11 => iter fuel (sh38_L12 j11) (z9.1, z9.2.1, 0, z9.2.2)
 else j8 (z9.1, ())
noncomputable def sh38_K6 (fuel : Nat) (z6 : A0) : XO0 :=
 joinK sh38_K7 fun j8 => iter fuel (sh38_L9 fuel j8) (z6.1, 0, z6.2)
noncomputable def sh38_K16 (rc14 : Ao → XO0) (z16 : Int × Int × Bq) : XO0 :=
 if z16.2.2.1 = true then some (1, ()) else rc14 (z16.1, IntKind.i64.wrap (z16.2.1 + 1), z16.2.2.2)
noncomputable def sh38_K15 (rc14 : Ao → XO0) (z15 : Ca) : XO0 :=
 if z15.2.2.1 = true then some (4, ())
 else
 joinK (sh38_K16 rc14) fun j17 =>
 (sp60 (z15.2.2.2.2.1.2.1, 0, IntKind.i64.wrap ((↑z15.2.2.2.1.1.length : Int) - 1), ())).bind fun r18 =>
 if (!r18.1) = true then j17 (z15.1, z15.2.1, true, z15.2.2.2.1, ())
 else
 if inR z15.2.2.2.2.1.2.1 z15.2.2.2.1.1.length = true then
 (sp60 (z15.2.2.2.2.1.2.2.1, 0, IntKind.i64.wrap ((lAt ([], 0, 0, 0, [], ()) z15.2.2.2.1.1 z15.2.2.2.2.1.2.1).2.2.1 - 1), ())).bind
 fun r19 => j17 (z15.1, z15.2.1, !r19.1, z15.2.2.2.1, ())
 else none
noncomputable def sh38_L14 (j13 : A0 → XO0) (rc14 : Ao → XO0) (z14 : Ao) : XO0 :=
 if decide (z14.2.1 < (↑z14.2.2.1.2.1.length : Int)) = true then
 if inR z14.2.1 z14.2.2.1.2.1.length = true then
 joinK (sh38_K15 rc14) fun j20 =>
 if ((lAt (0, 0, 0, ()) z14.2.2.1.2.1 z14.2.1).1 != 1) = true then
 j20 (z14.1, z14.2.1, (lAt (0, 0, 0, ()) z14.2.2.1.2.1 z14.2.1).1 != 2, z14.2.2.1, lAt (0, 0, 0, ()) z14.2.2.1.2.1 z14.2.1, ())
 else j20 (z14.1, z14.2.1, false, z14.2.2.1, lAt (0, 0, 0, ()) z14.2.2.1.2.1 z14.2.1, ())
 else none
 else j13 (z14.1, z14.2.2)
noncomputable def sh38_K3 (fuel : Nat) (z3 : A0) : XO0 :=
 (sp58 z3.2).bind fun r4 =>
 if (!r4.1) = true then some (7, ())
 else
 (sp59 z3.2).bind fun r5 =>
 if decide ((↑r5.1.length : Int) < (↑z3.2.1.1.length : Int)) = true then some (9, ())
 else joinK (sh38_K6 fuel) fun j13 => iter fuel (sh38_L14 j13) (z3.1, 0, z3.2)
noncomputable def sh38_L22 (j21 : A0 → XO0) (rc22 : Ao → XO0) (z22 : Ao) : XO0 :=
 if decide (z22.2.1 < (↑z22.2.2.1.1.length : Int)) = true then
 if inR z22.2.1 z22.2.2.1.1.length = true then
 (sp37 (z22.2.2.1, (lAt ([], 0, 0, 0, [], ()) z22.2.2.1.1 z22.2.1).1, ())).bind fun r23 =>
 if (r23.1 != z22.2.1) = true then some (5, ()) else rc22 (z22.1, IntKind.i64.wrap (z22.2.1 + 1), z22.2.2)
 else none
 else j21 (z22.1, z22.2.2)
noncomputable def sh38_K1 (fuel : Nat) (z1 : A0) : XO0 :=
 (sp57 z1.2).bind fun r2 =>
 if decide (80 < r2.1) = true then some (2, ()) else joinK (sh38_K3 fuel) fun j21 => iter fuel (sh38_L22 j21) (z1.1, 0, z1.2)
noncomputable def sh38_K26 (rc25 : Ao → XO0) (z26 : Ao) : XO0 :=
 rc25 (z26.1, IntKind.i64.wrap (z26.2.1 + 1), z26.2.2)
noncomputable def sh38_L25 (j24 : A0 → XO0) (rc25 : Ao → XO0) (z25 : Ao) : XO0 :=
 if decide (z25.2.1 < (↑z25.2.2.1.1.length : Int)) = true then
 joinK (sh38_K26 rc25) fun j27 =>
 (sp56 (z25.2.2.1, z25.2.1, ())).bind fun r28 =>
 if (r28.1 != 0) = true then some r28
 else
 if inR z25.2.1 z25.2.2.1.1.length = true then
 if ((lAt ([], 0, 0, 0, [], ()) z25.2.2.1.1 z25.2.1).2.1 == 1) = true then j27 (IntKind.i64.wrap (z25.1 + 1), z25.2) else j27 z25
 else none
 else j24 (z25.1, z25.2.2)
noncomputable def sh38_K0 (fuel : Nat) (z0 : Bq) : XO0 :=
 if z0.1 = true then some (2, ()) else joinK (sh38_K1 fuel) fun j24 => iter fuel (sh38_L25 j24) (0, 0, z0.2)
noncomputable def sh38 (fuel : Nat) (x0 : Ty4) : XO0 :=
 joinK (sh38_K0 fuel) fun j29 =>
 if decide (24 < (↑x0.1.length : Int)) = true then j29 (true, x0, ()) else j29 (decide (24 < (↑x0.2.1.length : Int)), x0, ())
noncomputable def sp38 (x : Af) : XO0 := sh38 100000 x.1
/-! 23 baggage/baggageref07.Parse -/
def g23 : Sig := ⟨[.v (.ty .str)], .tup [(.ag ty4), (.ty (.int .i64)), (.ty (.int .i64))]⟩
def h23 : HT := (nx (.n aJ (nx (nx (nx (nx (nx (.j ⟨[(2, .ref 1029 2), (5, bG), (6, dS), (7, .own 1030), (8, .ref 1031 2)], [(1029, .box [.own 1032, .own 1033]), (1031, .box [.own 1034, .own 1035]), (1030, bQ), (1032, bB), (1033, bA), (1034, bB), (1035, bA)], []⟩ (nx (.u (.l ⟨[(2, bD), (5, bG), (6, dS), (7, bR), (8, bJ), (9, dI)], [(1000, .box [.own 1003, .own 1004]), (1002, .box [.own 1005, .own 1006]), (1001, bQ), (1003, bB), (1004, bA), (1005, bB), (1006, bA)], []⟩ (.n aE (.j ⟨[(2, .ref 1015 2), (5, bG), (6, dS), (7, .own 1016), (8, .ref 1017 2), (9, dI)], [(1015, .box [.own 1018, .own 1019]), (1017, .box [.own 1020, .own 1021]), (1016, bQ), (1018, bB), (1019, bA), (1020, bB), (1021, bA)], []⟩ (.u (nx (.n (.j ⟨[(2, bY), (5, bG), (6, dS), (7, .own 1008), (8, bZ), (9, dI), (10, .ref 1010 9), (60, dB)], [(1007, .box [.own 1011, .own 1012]), (1009, .box [.own 1013, .own 1014]), (1010, .box [.d .str, .d aA, .d aA, .d aA, .d (.sl aB), .d aA, .d aA, .d aA, .d aO]), (1008, bQ), (1011, bB), (1012, bA), (1013, bB), (1014, bA)], []⟩ (.r .x) aC) (nx (nx aT))))) (.r .x)))))) (.n aJ (.j ⟨[(2, .ref 1078 2), (8, .ref 1079 2)], [(1078, .box [.own 1080, .own 1081]), (1079, .box [.own 1082, .own 1083]), (1080, bB), (1081, bA), (1082, bB), (1083, bA)], []⟩ (nx (.u (.l ⟨[(2, .ref 1036 2), (7, .own 1037), (8, .ref 1038 2), (12, dI)], [(1036, .box [.own 1039, .own 1040]), (1038, .box [.own 1041, .own 1042]), (1037, bQ), (1039, bB), (1040, bA), (1041, bB), (1042, bA)], []⟩ (.n aE (.j ⟨[(2, .ref 1064 2), (7, .own 1065), (8, .ref 1066 2), (12, dI)], [(1064, .box [.own 1067, .own 1068]), (1066, .box [.own 1069, .own 1070]), (1065, bQ), (1067, bB), (1068, bA), (1069, bB), (1070, bA)], []⟩ (.u (nx (.u (.l ⟨[(2, .ref 1043 2), (7, .own 1044), (8, .ref 1045 2), (12, dI), (13, dI)], [(1043, .box [.own 1046, .own 1047]), (1045, .box [.own 1048, .own 1049]), (1044, bQ), (1046, bB), (1047, bA), (1048, bB), (1049, bA)], []⟩ (.n aE (.j ⟨[(2, .ref 1050 2), (7, .own 1051), (8, .ref 1052 2), (12, dI), (13, dI)], [(1050, .box [.own 1053, .own 1054]), (1052, .box [.own 1055, .own 1056]), (1051, bQ), (1053, bB), (1054, bA), (1055, bB), (1056, bA)], []⟩ (.u (.n (.r .q) (.n aJ (nx (.n (.r (.w 13 [(0, 0), (0, 1), (1, 2), (0, 3), (0, 4), (1, 5), (0, 6), (0, 7), (0, 8), (1, 10), (2, 9), (5, 11), (2, 12)])) (.r .x)))))) (.r .x))))))) (.r .x)))))) (.n (nx aJ) aG)))))))))))
noncomputable def sh23_K2 (z2 : A7) : Ae :=
 (sp38 (z2.2.2.2.2, ())).bind fun r3 => if (r3.1 != 0) = true then some ((([], [], ()), 0, r3), ()) else some ((z2.2.2.2.2, 0, 0, ()), ())
noncomputable def sh23_K6 (rc5 : An → Ae) (z6 : An) : Ae :=
 rc5 (IntKind.i64.wrap (z6.1 + 1), (), (), z6.2.2.2)
noncomputable def sh23_K9 (rc8 : Int × An → Ae) (z9 : Int × An) : Ae :=
 rc8 (z9.1, IntKind.i64.wrap (z9.2.1 + 1), (), (), z9.2.2.2.2)
noncomputable def sh23_L8 (j7 : An → Ae) (rc8 : Int × An → Ae) (z8 : Int × An) : Ae :=
 if inR z8.1 z8.2.2.2.2.1.length = true then
 if decide (z8.1.toNat + 1 ≤ z8.2.2.2.2.1.length) = true then
 if decide (z8.2.1 < (↑(List.length (z8.2.2.2.2.1.getD z8.1.toNat ([], 0, 0, 0, [], 0, 0, 0, [], ())).2.2.2.2.2.2.2.2.1) : Int)) = true then
 joinK (sh23_K9 rc8) fun j10 =>
 if inR z8.1 z8.2.2.2.2.1.length = true then
 if decide (z8.1.toNat + 1 ≤ z8.2.2.2.2.1.length) = true then
 if inR z8.2.1 (List.length (z8.2.2.2.2.1.getD z8.1.toNat ([], 0, 0, 0, [], 0, 0, 0, [], ())).2.2.2.2.2.2.2.2.1) = true then
 (sp37 (z8.2.2.2.2.2.2.2, lAt ([], ()) (z8.2.2.2.2.1.getD z8.1.toNat ([], 0, 0, 0, [], 0, 0, 0, [], ())).2.2.2.2.2.2.2.2.1 z8.2.1)).bind
 fun r11 =>
 if decide (r11.1 < 0) = true then some ((([], [], ()), IntKind.i64.wrap (z8.1 + 1), 6, ()), ())
 else
 if decide (z8.1 < (↑z8.2.2.2.2.2.2.2.1.length : Int)) = true then
 if inR z8.1 z8.2.2.2.2.2.2.2.1.length = true then
 if decide (z8.1.toNat + 1 ≤ z8.2.2.2.2.2.2.2.1.length) = true then
 if decide (List.length (z8.2.2.2.2.2.2.2.1.getD z8.1.toNat ([], 0, 0, 0, [], ())).2.2.2.2.1 ≤ Abs.lim) = true then
 if decide (List.length (z8.2.2.2.2.2.2.2.1.getD z8.1.toNat ([], 0, 0, 0, [], ())).2.2.2.2.1 * 8 ≤ Abs.lim) = true then
 if
 decide (List.length (z8.2.2.2.2.2.2.2.1.getD z8.1.toNat ([], 0, 0, 0, [], ())).2.2.2.2.1 + 1 ≤ Abs.lim) =
 true then
 if
 decide
 ((List.length (z8.2.2.2.2.2.2.2.1.getD z8.1.toNat ([], 0, 0, 0, [], ())).2.2.2.2.1 + 1) * 8 ≤
 Abs.lim) =
 true then
 if inR z8.1 z8.2.2.2.2.2.2.2.1.length = true then
 if decide (z8.1.toNat + 1 ≤ z8.2.2.2.2.2.2.2.1.length) = true then
 j10
 (z8.1, z8.2.1, (), (), z8.2.2.2.2.1, z8.2.2.2.2.2.1, z8.2.2.2.2.2.2.1,
 z8.2.2.2.2.2.2.2.1.set z8.1.toNat
 ((z8.2.2.2.2.2.2.2.1.getD z8.1.toNat ([], 0, 0, 0, [], ())).1,
 (z8.2.2.2.2.2.2.2.1.getD z8.1.toNat ([], 0, 0, 0, [], ())).2.1,
 (z8.2.2.2.2.2.2.2.1.getD z8.1.toNat ([], 0, 0, 0, [], ())).2.2.1,
 (z8.2.2.2.2.2.2.2.1.getD z8.1.toNat ([], 0, 0, 0, [], ())).2.2.2.1,
 (z8.2.2.2.2.2.2.2.1.getD z8.1.toNat ([], 0, 0, 0, [], ())).2.2.2.2.1 ++ [r11], ()),
 z8.2.2.2.2.2.2.2.2)
 else none
 else none
 else none
 else none
 else none
 else none
 else none
 else none
 else
 if inR (IntKind.i64.wrap (z8.1 - (↑z8.2.2.2.2.2.2.2.1.length : Int))) z8.2.2.2.2.2.2.2.2.1.length = true then
 if decide ((IntKind.i64.wrap (z8.1 - (↑z8.2.2.2.2.2.2.2.1.length : Int))).toNat + 1 ≤ z8.2.2.2.2.2.2.2.2.1.length) = true then
 j10
 (z8.1, z8.2.1, (), (), z8.2.2.2.2.1, z8.2.2.2.2.2.1, z8.2.2.2.2.2.2.1, z8.2.2.2.2.2.2.2.1,
 z8.2.2.2.2.2.2.2.2.1.set (IntKind.i64.wrap (z8.1 - (↑z8.2.2.2.2.2.2.2.1.length : Int))).toNat
 ((z8.2.2.2.2.2.2.2.2.1.getD (IntKind.i64.wrap (z8.1 - (↑z8.2.2.2.2.2.2.2.1.length : Int))).toNat (0, 0, 0, ())).1,
 r11.1,
 (z8.2.2.2.2.2.2.2.2.1.getD (IntKind.i64.wrap (z8.1 - (↑z8.2.2.2.2.2.2.2.1.length : Int))).toNat (0, 0, 0, ())).2.2),
 ())
 else none
 else none
 else none
 else none
 else none
 else j7 (z8.1, (), (), z8.2.2.2.2)
 else none
 else none
noncomputable def sh23_L5 (fuel : Nat) (j4 : A7 → Ae) (rc5 : An → Ae) (z5 : An) : Ae :=
 if decide (z5.1 < (↑z5.2.2.2.1.length : Int)) = true then joinK (sh23_K6 rc5) fun j7 => iter fuel (sh23_L8 j7) (z5.1, 0, (), (), z5.2.2.2)
 else j4 ((), (), z5.2.2.2.2)
noncomputable def sh23_K1 (fuel : Nat) (z1 : Bz) : Ae :=
 if (!z1.2.1 == []) = true then some ((([], [], ()), IntKind.i64.wrap ((↑z1.1.length : Int) + 1), 3, ()), ())
 else joinK sh23_K2 fun j4 => iter fuel (sh23_L5 fuel j4) (0, (), (), z1.2.2.2.2)
noncomputable def sh23_K14 (rc13 : Br → Ae) (z14 : Br) : Ae :=
 rc13 (z14.1, z14.2.1, IntKind.i64.wrap (z14.2.2.1 + 1), (), (), z14.2.2.2.2.2)
noncomputable def sh23_K17 (j15 : Br → Ae) (z17 : Aw × Am × Int × Bool × Unit × Unit × Ty3 × List Ty3 × Aa) : Ae :=
 if z17.2.2.2.1 = true then some ((([], [], ()), IntKind.i64.wrap (z17.2.2.1 + 1), 3, ()), ())
 else
 if decide (z17.2.2.2.2.2.2.2.1.length + 1 ≤ Abs.lim) = true then
 if decide ((z17.2.2.2.2.2.2.2.1.length + 1) * 112 ≤ Abs.lim) = true then
 if (z17.2.2.2.2.2.2.1.2.1 != 0) = true then
 if
 decide
 (z17.2.2.2.2.2.2.2.2.2.2.1.length +
 [(z17.2.2.2.2.2.2.1.1, z17.2.2.2.2.2.2.1.2.1, z17.2.2.2.2.2.2.1.2.2.1, z17.2.2.2.2.2.2.1.2.2.2.1, z17.2.2.2.2.2.2.1.2.2.2.2.1,
 ())].length ≤
 Abs.lim) =
 true then
 if
 decide
 ((z17.2.2.2.2.2.2.2.2.2.2.1.length +
 [(z17.2.2.2.2.2.2.1.1, z17.2.2.2.2.2.2.1.2.1, z17.2.2.2.2.2.2.1.2.2.1, z17.2.2.2.2.2.2.1.2.2.2.1, z17.2.2.2.2.2.2.1.2.2.2.2.1,
 ())].length) *
 64 ≤
 Abs.lim) =
 true then
 j15
 (z17.1, z17.2.1, z17.2.2.1, (), (), z17.2.2.2.2.2.2.2.1 ++ [z17.2.2.2.2.2.2.1], z17.2.2.2.2.2.2.2.2.1, z17.2.2.2.2.2.2.2.2.2.1,
 z17.2.2.2.2.2.2.2.2.2.2.1 ++
 [(z17.2.2.2.2.2.2.1.1, z17.2.2.2.2.2.2.1.2.1, z17.2.2.2.2.2.2.1.2.2.1, z17.2.2.2.2.2.2.1.2.2.2.1, z17.2.2.2.2.2.2.1.2.2.2.2.1, ())],
 z17.2.2.2.2.2.2.2.2.2.2.2)
 else none
 else none
 else
 if
 decide
 (z17.2.2.2.2.2.2.2.2.2.2.2.1.length +
 [(z17.2.2.2.2.2.2.1.2.2.2.2.2.1, z17.2.2.2.2.2.2.1.2.2.2.2.2.2.1, z17.2.2.2.2.2.2.1.2.2.2.2.2.2.2.1, ())].length ≤
 Abs.lim) =
 true then
 if
 decide
 ((z17.2.2.2.2.2.2.2.2.2.2.2.1.length +
 [(z17.2.2.2.2.2.2.1.2.2.2.2.2.1, z17.2.2.2.2.2.2.1.2.2.2.2.2.2.1, z17.2.2.2.2.2.2.1.2.2.2.2.2.2.2.1, ())].length) *
 24 ≤
 Abs.lim) =
 true then
 j15
 (z17.1, z17.2.1, z17.2.2.1, (), (), z17.2.2.2.2.2.2.2.1 ++ [z17.2.2.2.2.2.2.1], z17.2.2.2.2.2.2.2.2.1, z17.2.2.2.2.2.2.2.2.2.1,
 z17.2.2.2.2.2.2.2.2.2.2.1,
 z17.2.2.2.2.2.2.2.2.2.2.2.1 ++
 [(z17.2.2.2.2.2.2.1.2.2.2.2.2.1, z17.2.2.2.2.2.2.1.2.2.2.2.2.2.1, z17.2.2.2.2.2.2.1.2.2.2.2.2.2.2.1, ())],
 ())
 else none
 else none
 else none
 else none
noncomputable def sh23_L13 (j12 : Bz → Ae) (rc13 : Br → Ae) (z13 : Br) : Ae :=
 if decide (z13.2.2.1 < (↑z13.1.length : Int)) = true then
 joinK (sh23_K14 rc13) fun j15 =>
 if inR z13.2.2.1 z13.1.length = true then
 (sp36 (lAt ([], ()) z13.1 z13.2.2.1)).bind fun r16 =>
 joinK (sh23_K17 j15) fun j18 =>
 if (!r16.1.2.1) = true then j18 (z13.1, z13.2.1, z13.2.2.1, true, (), (), r16.1.1, z13.2.2.2.2.2)
 else
 if (r16.1.1.2.1 != 0) = true then
 j18 (z13.1, z13.2.1, z13.2.2.1, decide (0 < (↑z13.2.2.2.2.2.2.2.2.2.1.length : Int)), (), (), r16.1.1, z13.2.2.2.2.2)
 else j18 (z13.1, z13.2.1, z13.2.2.1, false, (), (), r16.1.1, z13.2.2.2.2.2)
 else none
 else j12 (z13.1, z13.2.1, (), (), z13.2.2.2.2.2)
noncomputable def sh23 (fuel : Nat) (x0 : Am) : Ae :=
 if decide (4096 < (↑x0.length : Int)) = true then some ((([], [], ()), 0, 2, ()), ())
 else
 (sp35 (x0, 10, ())).bind fun r0 =>
 if inR (IntKind.i64.wrap ((↑r0.1.length : Int) - 1)) r0.1.length = true then
 if inCut 0 (IntKind.i64.wrap ((↑r0.1.length : Int) - 1)) r0.1.length = true then
 joinK (sh23_K1 fuel) fun j12 =>
 iter fuel (sh23_L13 j12)
 (cutL r0.1 0 (IntKind.i64.wrap ((↑r0.1.length : Int) - 1)), (lAt ([], ()) r0.1 (IntKind.i64.wrap ((↑r0.1.length : Int) - 1))).1, 0, (),
 (), [], [], [], [], [], ())
 else none
 else none
noncomputable def sp23 (x : Bn) : Ae := sh23 100000 x.1
def g12 : Sig := ⟨[.v (.ag ty4), .v (.ty (.sl (.cons .bool .nil))), .v (.ty (.int .i64)), .v (.ty (.int .i64))], .v (.ty (.int .i64))⟩
abbrev BrV := List (Bool × Unit)
def ndV (l : Ty4) (i : Nat) : Ty2 := l.1.getD i ([], 0, 0, 0, [], ())
def brkV (b : BrV) (i : Nat) : Bool := (b.getD i (false, ())).1
def stripK (k : Int) : Bool := decide (1 ≤ k) && decide (k ≤ 6)
def goV (l : Ty4) (i j t : Nat) : Bool := j != i && (j == t || stripK (ndV l j).2.1)
def relV (d n best : Int) : Int := if 0 ≤ d ∧ (best < 0 ∨ d + n < best) then d + n else best
def distW (l : Ty4) (b : BrV) (t : Nat) : Nat → Nat → Int
 | 0, _ => -1
 | f + 1, i => if brkV b i = true then -1 else if i = t then (ndV l i).2.2.1 else
 (ndV l i).2.2.2.2.1.foldl (fun best x => if goV l i x.1.toNat t = true then relV (distW l b t f x.1.toNat) (ndV l i).2.2.1 best else best) (-1)
def distV (l : Ty4) (b : BrV) (t i : Nat) : Int := distW l b t (l.1.length + 1) i
structure LenV (l : Ty4) : Prop where
 n : l.1.length ≤ 1000
 len : ∀ i, i < l.1.length → 0 ≤ (ndV l i).2.2.1 ∧ (ndV l i).2.2.1 ≤ 1000
 ex : ∀ i, i < l.1.length → ∀ x ∈ (ndV l i).2.2.2.2.1, 0 ≤ x.1 ∧ x.1 < l.1.length
def RkV (l : Ty4) (t : Nat) : Prop := ∃ rk : Nat → Nat, (∀ i, rk i ≤ l.1.length) ∧ ∀ i, i < l.1.length → i ≠ t → ∀ x ∈ (ndV l i).2.2.2.2.1, goV l i x.1.toNat t = true → rk x.1.toNat < rk i
def WayV (l : Ty4) (f t : Int) : Prop := LenV l ∧ RkV l t.toNat ∧ 0 ≤ f ∧ f < l.1.length ∧ 0 ≤ t ∧ t < l.1.length
open Classical in
noncomputable def sp12 (x : Ty4 × BrV × Az) : XO0 :=
 (sp27 (x.1, x.2.2.1, x.2.2.2.1, ())).bind fun a =>
 if a.1 = false then some (-1, ()) else if WayV x.1 x.2.2.1 x.2.2.2.1 then some (distV x.1 x.2.1 x.2.2.2.1.toNat x.2.2.1.toNat, ()) else none
def g14 : Sig := ⟨[.v (.ag ty4), .v (.ty (.sl (.cons .bool .nil))), .v (.ty (.int .i64)), .v (.ty (.int .i64))], .v (.ty (.int .i64))⟩
def exitV (l : Ty4) (b : BrV) (t f : Nat) : Int :=
 match (ndV l f).2.2.2.2.1.findIdx? fun x => goV l f x.1.toNat t && (decide (0 ≤ distV l b t f) && (decide (0 ≤ distV l b t x.1.toNat) && decide (distV l b t x.1.toNat + (ndV l f).2.2.1 = distV l b t f))) with
 | some k => k
 | none => -1
open Classical in
noncomputable def sp14 (x : Ty4 × BrV × Az) : XO0 :=
 (sp27 (x.1, x.2.2.1, x.2.2.2.1, ())).bind fun a =>
 if a.1 = false then some (-1, ()) else if x.2.2.1 = x.2.2.2.1 then some (-1, ()) else if WayV x.1 x.2.2.1 x.2.2.2.1 then some (exitV x.1 x.2.1 x.2.2.2.1.toNat x.2.2.1.toNat, ()) else none
def g17 : Sig := ⟨[.v (.ag ty4), .v (.ty (.sl (.cons .bool .nil))), .v (.ty (.int .i64))], .v (.ty (.sl (.cons (.int .i64) .nil)))⟩
def reachV (l : Ty4) (b : BrV) (f : Nat) : XI :=
 ((List.range l.1.length).filter fun i => !stripK (ndV l i).2.1 && decide (0 ≤ distV l b i f)).map fun i : Nat => ((i : Int), ())
open Classical in
noncomputable def sp17 (x : Ty4 × BrV × Ai) : XO1 :=
 if x.2.2.1 < 0 ∨ (x.1.1.length : Int) ≤ x.2.2.1 then some ([], ()) else
 (sp32 (x.1, ())).bind fun a =>
 if a.1 ≠ 0 then some ([], ()) else if LenV x.1 ∧ ∀ t, t < x.1.1.length → RkV x.1 t then some (reachV x.1 x.2.1 x.2.2.1.toNat, ()) else none
/-! 16 baggage/baggagekeep.Ints -/
def g16 : Sig := ⟨[.v (.ty (.sl (.cons (.int .i64) .nil))), .v (.ty (.sl (.cons (.int .i64) .nil)))], .v (.ty .bool)⟩
def h16 : HT := (nx (.n aJ (.j ⟨[], [], []⟩ (nx (.u (.l ⟨[(0, dL), (1, dL), (5, dI)], [], []⟩ aU))) aG)))
noncomputable def sh16_K0 (z0 : Unit) : XB :=
 some (true, ())
noncomputable def sh16_L2 (j1 : Unit → XB) (rc2 : XI × B6 → XB) (z2 : XI × B6) : XB :=
 if decide (z2.2.2.1 < (↑z2.1.length : Int)) = true then
 if inR z2.2.2.1 z2.1.length = true then
 if inR z2.2.2.1 z2.2.1.length = true then
 if ((lAt (0, ()) z2.1 z2.2.2.1).1 != (lAt (0, ()) z2.2.1 z2.2.2.1).1) = true then some (false, ())
 else rc2 (z2.1, z2.2.1, IntKind.i64.wrap (z2.2.2.1 + 1), ())
 else none
 else none
 else j1 ()
noncomputable def sh16 (fuel : Nat) (x0 : XI) (x1 : XI) : XB :=
 if ((↑x0.length : Int) != (↑x1.length : Int)) = true then some (false, ()) else joinK sh16_K0 fun j1 => iter fuel (sh16_L2 j1) (x0, x1, 0, ())
noncomputable def sp16 (x : XI × Al) : XB := sh16 100000 x.1 x.2.1
/-! 8 baggage/baggagelaw08.awake -/
def g8 : Sig := ⟨[], .v (.ty .bool)⟩
def h8 : HT := (nx (nx (.j ⟨[(0, dB)], [], []⟩ (.r .x) .e)))
noncomputable def sh8_K1 (z1 : Ab) : XB :=
 some z1
noncomputable def sh8 (fuel : Nat) : XB :=
 (sp23
 (lit0,
 ())).bind
 fun r0 =>
 joinK sh8_K1 fun j2 =>
 (sp12 (r0.1.1, [], 0, 2, ())).bind fun r3 =>
 if (r3.1 == 3) = true then
 (sp14 (r0.1.1, [], 1, 2, ())).bind fun r4 =>
 if (r4.1 == 1) = true then
 (sp17 (r0.1.1, [], 0, ())).bind fun r5 =>
 (sp16 (r5.1, [(2, ()), (3, ())], ())).bind fun r6 =>
 if r6.1 = true then (sp12 (r0.1.1, [(false, ()), (true, ())], 0, 2, ())).bind fun r7 => j2 (r7.1 == -1, ()) else j2 (false, ())
 else j2 (false, ())
 else j2 (false, ())
noncomputable def sp8 (x : Unit) : XB := sh8 0 
/-! 9 baggage/baggagekeep.New -/
def g9 : Sig := ⟨[.v (.ty (.sl (.cons (.int .i64) .nil)))], .box ty0⟩
def h9 : HT := (nx (.j ⟨[(0, dL)], [], []⟩ aN aG))
noncomputable def sh9_K0 (z0 : Al) : Option Bl :=
 some ((z0.1, 0, ()), ())
noncomputable def sh9 (fuel : Nat) (x0 : XI) : Option Bl :=
 joinK sh9_K0 fun j1 =>
 if decide (2000 < (↑x0.length : Int)) = true then if inCut 0 2000 x0.length = true then j1 (cutL x0 0 2000, ()) else none else j1 (x0, ())
noncomputable def sp9 (x : Al) : Option Bl := sh9 0 x.1
/-! 34 (*baggage/baggagekeep.Src).Raw -/
def g34 : Sig := ⟨[.bx ty0], .v (.ty (.int .i64))⟩
def h34 : HT := (nx (.n aQ (nx (.n (.r .q) .e))))
noncomputable def sh34 (fuel : Nat) (x0 : Ty0) : XO3 :=
 if decide ((↑x0.1.length : Int) ≤ x0.2.1) = true then some (0, x0, ())
 else
 if inR (IntKind.i64.wrap (IntKind.i64.wrap (x0.2.1 + 1) - 1)) x0.1.length = true then
 some ((lAt (0, ()) x0.1 (IntKind.i64.wrap (IntKind.i64.wrap (x0.2.1 + 1) - 1))).1, (x0.1, IntKind.i64.wrap (x0.2.1 + 1), ()), ())
 else none
noncomputable def sp34 (x : Bl) : XO3 := sh34 0 x.1
/-! 19 baggage/baggagekeep.Mod -/
def g19 : Sig := ⟨[.v (.ty (.int .i64)), .v (.ty (.int .i64))], .v (.ty (.int .i64))⟩
def h19 : HT := (nx (.n aJ (nx (.j ⟨[(0, dI)], [], []⟩ aN aG))))
noncomputable def sh19_K0 (z0 : Ai) : XO0 :=
 some z0
noncomputable def sh19 (fuel : Nat) (x0 : Int) (x1 : Int) : XO0 :=
 if decide (x1 < 1) = true then some (0, ())
 else
 if (x1 != 0) = true then
 joinK sh19_K0 fun j1 => if decide (x0.tmod x1 < 0) = true then j1 (IntKind.i64.wrap (x0.tmod x1 + x1), ()) else j1 (x0.tmod x1, ())
 else none
noncomputable def sp19 (x : Az) : XO0 := sh19 0 x.1 x.2.1
/-! 22 (*baggage/baggagekeep.Src).N -/
def g22 : Sig := ⟨[.bx ty0, .v (.ty (.int .i64))], .v (.ty (.int .i64))⟩
def h22 : HT := aN
noncomputable def sh22 (fuel : Nat) (x0 : Ty0) (x1 : Int) : XO3 :=
 (sp34 (x0, ())).bind fun r0 => (sp19 (r0.1, x1, ())).bind fun r1 => some (r1.1, r0.2)
noncomputable def sp22 (x : Ty0 × Ai) : XO3 := sh22 0 x.1 x.2.1
/-! 24 (*baggage/baggagekeep.Src).Range -/
def g24 : Sig := ⟨[.bx ty0, .v (.ty (.int .i64)), .v (.ty (.int .i64))], .v (.ty (.int .i64))⟩
def h24 : HT := aN
noncomputable def sh24 (fuel : Nat) (x0 : Ty0) (x1 : Int) (x2 : Int) : XO3 :=
 (sp22 (x0, IntKind.i64.wrap (IntKind.i64.wrap (x2 - x1) + 1), ())).bind fun r0 => some (IntKind.i64.wrap (x1 + r0.1), r0.2)
noncomputable def sp24 (x : Ty0 × Az) : XO3 := sh24 0 x.1 x.2.1 x.2.2.1
/-! 39 (*baggage/baggagekeep.Src).Pick -/
def g39 : Sig := ⟨[.bx ty0, .v (.ty (.sl (.cons (.int .i64) .nil)))], .v (.ty (.int .i64))⟩
def h39 : HT := aN
noncomputable def sh39 (fuel : Nat) (x0 : Ty0) (x1 : XI) : XO3 :=
 (sp22 (x0, (↑x1.length : Int), ())).bind fun r0 => if inR r0.1 x1.length = true then some ((lAt (0, ()) x1 r0.1).1, r0.2) else none
noncomputable def sp39 (x : Ty0 × Al) : XO3 := sh39 0 x.1 x.2.1
/-! 40 (*baggage/baggagekeep.Src).other -/
def g40 : Sig := ⟨[.bx ty0, .v (.ty (.sl (.cons (.int .i64) .nil))), .v (.ty (.int .i64))], .v (.ty (.int .i64))⟩
def h40 : HT := (nx (nx (.j ⟨[(0, bC), (7, bW)], [(900000, bI), (1003, a9)], []⟩ (nx (.u (.l ⟨[(0, bC), (1, dL), (2, dI), (7, .own 1000), (8, dI)], [(900000, bI), (1000, a9)], []⟩ (.n aE (.j ⟨[(0, bC), (1, dL), (2, dI), (7, bR), (8, dI)], [(900000, bI), (1001, a9)], []⟩ (.u aN) (.r .x)))))) (.n aJ aG))))
noncomputable def sh40_K0 (z0 : Ty0 × Al) : XO3 :=
 if ((↑z0.2.1.length : Int) == 0) = true then some (-1, z0.1, ())
 else
 (sp22 (z0.1, (↑z0.2.1.length : Int), ())).bind fun r1 =>
 if inR r1.1 z0.2.1.length = true then
 if decide (r1.1.toNat + 1 ≤ z0.2.1.length) = true then some ((z0.2.1.getD r1.1.toNat (0, ())).1, r1.2) else none
 else none
noncomputable def sh40_K4 (rc3 : Bg → XO3) (z4 : Bg) : XO3 :=
 rc3 (z4.1, z4.2.1, IntKind.i64.wrap (z4.2.2.1 + 1), z4.2.2.2)
noncomputable def sh40_L3 (j2 : Ty0 × Al → XO3) (rc3 : Bg → XO3) (z3 : Bg) : XO3 :=
 if decide (z3.2.2.1 < (↑z3.1.length : Int)) = true then
 joinK (sh40_K4 rc3) fun j5 =>
 if inR z3.2.2.1 z3.1.length = true then
 if ((lAt (0, ()) z3.1 z3.2.2.1).1 != z3.2.1) = true then
 if inR z3.2.2.1 z3.1.length = true then
 if decide (z3.2.2.2.2.1.length + 1 ≤ Abs.lim) = true then
 if decide ((z3.2.2.2.2.1.length + 1) * 8 ≤ Abs.lim) = true then
 j5 (z3.1, z3.2.1, z3.2.2.1, z3.2.2.2.1, z3.2.2.2.2.1 ++ [lAt (0, ()) z3.1 z3.2.2.1], ())
 else none
 else none
 else none
 else j5 z3
 else none
 else j2 z3.2.2.2
noncomputable def sh40 (fuel : Nat) (x0 : Ty0) (x1 : XI) (x2 : Int) : XO3 :=
 joinK sh40_K0 fun j2 => iter fuel (sh40_L3 j2) (x1, x2, 0, x0, [], ())
noncomputable def sp40 (x : Ty0 × B6) : XO3 := sh40 100000 x.1 x.2.1 x.2.2.1
/-! 25 (*baggage/baggagekeep.Src).strip -/
def g25 : Sig := ⟨[.bx ty0, .v (.ty (.int .i64)), .v (.ty (.int .i64)), .v (.ty (.sl (.cons (.int .i64) .nil))), .v (.ty (.sl (.cons (.int .i64) .nil)))], .v (.ag ty2)⟩
def h25 : HT := (nx (nx (nx (.j ⟨[(10, .ref 1000 5), (11, bT)], [(900000, bI), (1000, .box [.d .str, .d aA, .d aA, .d aA, .own 1002]), (1001, .box [.d .str, .d aA, .d aA, .d aA, .own 1003]), (1002, a9), (1003, a9)], []⟩ (nx (.u (nx (.n aT (nx (.n (nx (nx aT)) (.r .x))))))) aG))))
noncomputable def sh25_K3 (z3 : Ty0 × (Am × B1) × (Am × B1) × XI × Al) : B5 :=
 some ((z3.2.2.1.1, z3.2.2.1.2.1, z3.2.2.1.2.2.1, z3.2.2.1.2.2.2.1, z3.2.2.2.2), z3.1, ())
noncomputable def sh25 (fuel : Nat) (x0 : Ty0) (x1 : Int) (x2 : Int) (x3 : XI) (x4 : XI) : B5 :=
 (sp39 (x0, x3, ())).bind fun r0 =>
 (sp24 (r0.2.1, 1, 3, ())).bind fun r1 =>
 (sp40 (r1.2.1, x4, -1, ())).bind fun r2 =>
 joinK sh25_K3 fun j4 =>
 if (r0.1 == 5) = true then j4 (r2.2.1, ([], 0, 0, 0, ()), ([], r0.1, IntKind.i64.wrap (r1.1 + 1), x2, ()), [], [(x1, ()), (r2.1, ())], ())
 else
 if (r0.1 == 4) = true then
 (sp40 (r2.2.1, x4, r2.1, ())).bind fun r5 =>
 if decide (r5.1 < 0) = true then j4 (r5.2.1, ([], 0, 0, 0, ()), ([], 2, r1.1, x2, ()), [], [(r2.1, ())], ())
 else j4 (r5.2.1, ([], 0, 0, 0, ()), ([], r0.1, r1.1, x2, ()), [], [(r2.1, ()), (r5.1, ())], ())
 else j4 (r2.2.1, ([], 0, 0, 0, ()), ([], r0.1, r1.1, x2, ()), [], [(r2.1, ())], ())
noncomputable def sp25 (x : Ty0 × Int × Int × XI × Al) : B5 := sh25 0 x.1 x.2.1 x.2.2.1 x.2.2.2.1 x.2.2.2.2.1
/-! 26 (*baggage/baggagekeep.Src).devices -/
def g26 : Sig := ⟨[.bx ty0, .v (.ag ty4)], .own ty1⟩
def h26 : HT := (nx (nx (.j ⟨[(5, .own 1018)], [(900000, bI), (1018, bA)], []⟩ (nx (.u (.l ⟨[(0, bC), (3, bD), (5, bR), (6, dI)], [(900000, bI), (1000, a8), (1001, bA)], []⟩ (.n aE (.j ⟨[(0, bC), (3, bX), (5, .own 1015), (6, dI)], [(900000, bI), (1014, a8), (1015, bA)], []⟩ (.u (nx (.u (.l ⟨[(0, bC), (3, bJ), (5, bW), (6, dI), (7, dI)], [(900000, bI), (1002, a8), (1003, bA)], []⟩ (.n aE (.j ⟨[(0, bC), (3, .ref 1010 2), (5, .own 1011), (6, dI), (7, dI)], [(900000, bI), (1010, a8), (1011, bA)], []⟩ (.u (nx (.j ⟨[(0, bC), (3, bM), (5, .own 1007), (6, dI), (7, dI)], [(900000, bI), (1006, a8), (1007, bA)], []⟩ (.j ⟨[(0, bC), (3, bK), (5, .own 1005), (6, dI), (7, dI), (54, dB)], [(900000, bI), (1004, a8), (1005, bA)], []⟩ (.r .x) aG) (.j ⟨[(0, bC), (3, bO), (5, .own 1009), (6, dI), (7, dI), (68, dB)], [(900000, bI), (1008, a8), (1009, bA)], []⟩ (.r .x) aG)))) (.r .x))))))) (.r .x)))))) aG)))
noncomputable def sh26_K0 (z0 : Ty0 × A4 × Unit) : XO2 :=
 some (z0.2.1, z0.1, ())
noncomputable def sh26_K3 (rc2 : Ap → XO2) (z3 : Ap) : XO2 :=
 rc2 (IntKind.i64.wrap (z3.1 + 1), z3.2)
noncomputable def sh26_K6 (rc5 : Bp → XO2) (z6 : Bp) : XO2 :=
 rc5 (z6.1, IntKind.i64.wrap (z6.2.1 + 1), z6.2.2)
noncomputable def sh26_K9 (j7 : Bp → XO2) (z9 : Bt) : XO2 :=
 if z9.2.2.1 = true then
 if decide (z9.2.2.2.2.2.1.length + 1 ≤ Abs.lim) = true then
 if decide ((z9.2.2.2.2.2.1.length + 1) * 24 ≤ Abs.lim) = true then
 j7 (z9.1, z9.2.1, z9.2.2.2.1, z9.2.2.2.2.1, z9.2.2.2.2.2.1 ++ [(1, z9.1, z9.2.1, ())], ())
 else none
 else none
 else j7 (z9.1, z9.2.1, z9.2.2.2)
noncomputable def sh26_K8 (j7 : Bp → XO2) (z8 : Bp) : XO2 :=
 joinK (sh26_K9 j7) fun j10 =>
 if decide ((↑z8.2.2.2.2.1.length : Int) < 24) = true then (sp22 (z8.2.2.1, 2, ())).bind fun r11 => j10 (z8.1, z8.2.1, r11.1 == 0, r11.2.1, z8.2.2.2)
 else j10 (z8.1, z8.2.1, false, z8.2.2)
noncomputable def sh26_K13 (j12 : Bp → XO2) (z13 : Bt) : XO2 :=
 if z13.2.2.1 = true then
 if decide (z13.2.2.2.2.2.1.length + 1 ≤ Abs.lim) = true then
 if decide ((z13.2.2.2.2.2.1.length + 1) * 24 ≤ Abs.lim) = true then
 j12 (z13.1, z13.2.1, z13.2.2.2.1, z13.2.2.2.2.1, z13.2.2.2.2.2.1 ++ [(2, z13.1, z13.2.1, ())], ())
 else none
 else none
 else j12 (z13.1, z13.2.1, z13.2.2.2)
noncomputable def sh26_L5 (j4 : Ap → XO2) (rc5 : Bp → XO2) (z5 : Bp) : XO2 :=
 if inR z5.1 z5.2.2.2.1.1.length = true then
 if decide (z5.2.1 < (lAt ([], 0, 0, 0, [], ()) z5.2.2.2.1.1 z5.1).2.2.1) = true then
 joinK (sh26_K6 rc5) fun j7 =>
 if inR z5.1 z5.2.2.2.1.1.length = true then
 joinK (sh26_K8 j7) fun j12 =>
 joinK (sh26_K13 j12) fun j14 =>
 if decide ((↑z5.2.2.2.2.1.length : Int) < 24) = true then
 (sp22 (z5.2.2.1, 3, ())).bind fun r15 =>
 if (r15.1 == 0) = true then j14 (z5.1, z5.2.1, true, r15.2.1, z5.2.2.2)
 else
 if (z5.2.1 == IntKind.i64.wrap ((lAt ([], 0, 0, 0, [], ()) z5.2.2.2.1.1 z5.1).2.2.1 - 1)) = true then
 if inR z5.1 z5.2.2.2.1.1.length = true then
 j14 (z5.1, z5.2.1, (lAt ([], 0, 0, 0, [], ()) z5.2.2.2.1.1 z5.1).2.1 == 6, r15.2.1, z5.2.2.2)
 else none
 else j14 (z5.1, z5.2.1, false, r15.2.1, z5.2.2.2)
 else j14 (z5.1, z5.2.1, false, z5.2.2)
 else none
 else j4 (z5.1, z5.2.2)
 else none
noncomputable def sh26_L2 (fuel : Nat) (j1 : Ty0 × A4 × Unit → XO2) (rc2 : Ap → XO2) (z2 : Ap) : XO2 :=
 if decide (z2.1 < (↑z2.2.2.1.1.length : Int)) = true then joinK (sh26_K3 rc2) fun j4 => iter fuel (sh26_L5 j4) (z2.1, 0, z2.2)
 else j1 (z2.2.1, z2.2.2.2)
noncomputable def sh26 (fuel : Nat) (x0 : Ty0) (x1 : Ty4) : XO2 :=
 joinK sh26_K0 fun j1 => iter fuel (sh26_L2 fuel j1) (0, x0, x1, [], ())
noncomputable def sp26 (x : Ty0 × Af) : XO2 := sh26 100000 x.1 x.2.1
/-! 10 (*baggage/baggagekeep.Src).Layout -/
def g10 : Sig := ⟨[.bx ty0], .v (.ag ty4)⟩
def h10 : HT := (nx (nx (nx (nx (nx (.j ⟨[(0, bC), (2, .ref 1073 2), (7, dI), (9, .ref 1074 2)], [(900000, bI), (1073, .box [.own 1075, .own 1076]), (1074, .box [.own 1077, .own 1078]), (1075, bB), (1076, bA), (1077, bB), (1078, bA)], []⟩ (nx (.u (.l ⟨[(0, bC), (2, bD), (4, dI), (6, dI), (7, dI), (8, dI), (9, bN), (10, dI)], [(900000, bI), (1000, .box [.own 1002, .own 1003]), (1001, .box [.own 1004, .own 1005]), (1002, bB), (1003, bA), (1004, bB), (1005, bA)], []⟩ (.n aE (.j ⟨[(0, bC), (2, .ref 1061 2), (4, dI), (6, dI), (7, dI), (8, dI), (9, .ref 1062 2), (10, dI)], [(900000, bI), (1061, .box [.own 1063, .own 1064]), (1062, .box [.own 1065, .own 1066]), (1063, bB), (1064, bA), (1065, bB), (1066, bA)], []⟩ (.u (nx (.j ⟨[(0, bC), (2, .ref 1022 2), (4, dI), (6, dI), (7, dI), (8, dI), (9, .ref 1023 2), (10, dI), (11, .own 1024), (12, .own 1025)], [(900000, bI), (1022, .box [.own 1026, .own 1027]), (1023, .box [.own 1028, .own 1029]), (1024, a9), (1025, a9), (1026, bB), (1027, bA), (1028, bB), (1029, bA)], []⟩ (nx (.u (.l ⟨[(0, bC), (2, bM), (4, dI), (6, dI), (7, dI), (8, dI), (9, bY), (10, dI), (11, .own 1008), (12, .own 1009), (13, dI)], [(900000, bI), (1006, .box [.own 1010, .own 1011]), (1007, .box [.own 1012, .own 1013]), (1008, a9), (1009, a9), (1010, bB), (1011, bA), (1012, bB), (1013, bA)], []⟩ aL))) (nx (.j ⟨[(0, bC), (2, .ref 1046 2), (4, dI), (6, dI), (7, dI), (8, dI), (9, .ref 1047 2), (10, dI), (11, .own 1048), (12, .own 1049)], [(900000, bI), (1046, .box [.own 1050, .own 1051]), (1047, .box [.own 1052, .own 1053]), (1048, a9), (1049, a9), (1050, bB), (1051, bA), (1052, bB), (1053, bA)], []⟩ (nx (.u (.l ⟨[(0, bC), (2, .ref 1030 2), (4, dI), (6, dI), (7, dI), (8, dI), (9, .ref 1031 2), (10, dI), (11, .own 1032), (12, .own 1033), (14, dI)], [(900000, bI), (1030, .box [.own 1034, .own 1035]), (1031, .box [.own 1036, .own 1037]), (1032, a9), (1033, a9), (1034, bB), (1035, bA), (1036, bB), (1037, bA)], []⟩ aL))) (nx (nx (.j ⟨[(0, bC), (2, .ref 1054 2), (4, dI), (6, dI), (7, dI), (8, dI), (9, .ref 1055 2), (10, dI), (15, .ref 1056 5)], [(900000, bI), (1054, .box [.own 1057, .own 1058]), (1055, .box [.own 1059, .own 1060]), (1056, bH), (1057, bB), (1058, bA), (1059, bB), (1060, bA)], []⟩ (.u (nx (nx (nx (nx (nx (nx (nx (.n (nx aN) (nx aT)))))))))) aT)))))))) (.r .x)))))) (.j ⟨[(0, bC), (2, .ref 1103 2), (9, .ref 1104 2)], [(900000, bI), (1103, .box [.own 1105, .own 1106]), (1104, .box [.own 1107, .own 1108]), (1105, bB), (1106, bA), (1107, bB), (1108, bA)], []⟩ (nx (.n (nx (.u (.l ⟨[(0, bC), (2, .ref 1079 2), (7, dI), (9, .ref 1080 2), (16, dI)], [(900000, bI), (1079, .box [.own 1081, .own 1082]), (1080, .box [.own 1083, .own 1084]), (1081, bB), (1082, bA), (1083, bB), (1084, bA)], []⟩ (.n aE (.j ⟨[(0, bC), (2, .ref 1091 2), (7, dI), (9, .ref 1092 2), (16, dI)], [(900000, bI), (1091, .box [.own 1093, .own 1094]), (1092, .box [.own 1095, .own 1096]), (1093, bB), (1094, bA), (1095, bB), (1096, bA)], []⟩ (.u (.j ⟨[(0, bC), (2, .ref 1085 2), (7, dI), (9, .ref 1086 2), (16, dI), (167, dB)], [(900000, bI), (1085, .box [.own 1087, .own 1088]), (1086, .box [.own 1089, .own 1090]), (1087, bB), (1088, bA), (1089, bB), (1090, bA)], []⟩ (.r .x) (.n (.r (.w 14 [(0, 0), (0, 1), (1, 2), (1, 3), (1, 4), (0, 6), (0, 7), (1, 8), (0, 9), (0, 10), (0, 11), (1, 12), (3, 5), (2, 13)])) .e))) (.r .x)))))) .e)) aN)))))))
noncomputable def sh10_K4 (z4 : Ty0 × A7) : Ag :=
 (sp26 (z4.1, z4.2.2.2.2.2, ())).bind fun r5 => some ((z4.2.2.2.2.2.1, r5.1, ()), r5.2)
noncomputable def sh10_K9 (rc8 : Aq → Ag) (z9 : Aq) : Ag :=
 rc8 (z9.1, IntKind.i64.wrap (z9.2.1 + 1), z9.2.2.1, (), (), z9.2.2.2.2.2)
noncomputable def sh10_K11 (j10 : Aq → Ag) (z11 : Int × Int × Bool × Ty0 × A7) : Ag :=
 if z11.2.2.1 = true then
 if inR z11.2.1 z11.2.2.2.2.2.2.2.2.1.length = true then
 if decide (z11.2.1.toNat + 1 ≤ z11.2.2.2.2.2.2.2.2.1.length) = true then
 if
 inCut 1 (↑(List.length (z11.2.2.2.2.2.2.2.2.1.getD z11.2.1.toNat ([], 0, 0, 0, [], ())).2.2.2.2.1) : Int)
 (List.length (z11.2.2.2.2.2.2.2.2.1.getD z11.2.1.toNat ([], 0, 0, 0, [], ())).2.2.2.2.1) =
 true then
 if
 decide
 ([(IntKind.i64.wrap (z11.2.1 + 1), ())].length +
 (cutL (z11.2.2.2.2.2.2.2.2.1.getD z11.2.1.toNat ([], 0, 0, 0, [], ())).2.2.2.2.1 1
 (↑(List.length (z11.2.2.2.2.2.2.2.2.1.getD z11.2.1.toNat ([], 0, 0, 0, [], ())).2.2.2.2.1) : Int)).length ≤
 Abs.lim) =
 true then
 if
 decide
 (([(IntKind.i64.wrap (z11.2.1 + 1), ())].length +
 (cutL (z11.2.2.2.2.2.2.2.2.1.getD z11.2.1.toNat ([], 0, 0, 0, [], ())).2.2.2.2.1 1
 (↑(List.length (z11.2.2.2.2.2.2.2.2.1.getD z11.2.1.toNat ([], 0, 0, 0, [], ())).2.2.2.2.1) : Int)).length) *
 8 ≤
 Abs.lim) =
 true then
 if inR z11.2.1 z11.2.2.2.2.2.2.2.2.1.length = true then
 if decide (z11.2.1.toNat + 1 ≤ z11.2.2.2.2.2.2.2.2.1.length) = true then
 j10
 (z11.1, z11.2.1, z11.2.2.2.1, (), (), z11.2.2.2.2.2.2.1, z11.2.2.2.2.2.2.2.1,
 z11.2.2.2.2.2.2.2.2.1.set z11.2.1.toNat
 ((z11.2.2.2.2.2.2.2.2.1.getD z11.2.1.toNat ([], 0, 0, 0, [], ())).1,
 (z11.2.2.2.2.2.2.2.2.1.getD z11.2.1.toNat ([], 0, 0, 0, [], ())).2.1,
 (z11.2.2.2.2.2.2.2.2.1.getD z11.2.1.toNat ([], 0, 0, 0, [], ())).2.2.1,
 (z11.2.2.2.2.2.2.2.2.1.getD z11.2.1.toNat ([], 0, 0, 0, [], ())).2.2.2.1,
 [(IntKind.i64.wrap (z11.2.1 + 1), ())] ++
 cutL (z11.2.2.2.2.2.2.2.2.1.getD z11.2.1.toNat ([], 0, 0, 0, [], ())).2.2.2.2.1 1
 (↑(List.length (z11.2.2.2.2.2.2.2.2.1.getD z11.2.1.toNat ([], 0, 0, 0, [], ())).2.2.2.2.1) : Int),
 ()),
 z11.2.2.2.2.2.2.2.2.2)
 else none
 else none
 else none
 else none
 else none
 else none
 else none
 else j10 (z11.1, z11.2.1, z11.2.2.2.1, (), (), z11.2.2.2.2.2.2)
noncomputable def sh10_L8 (j6 : Ty0 × A7 → Ag) (rc8 : Aq → Ag) (z8 : Aq) : Ag :=
 if decide (z8.2.1 < z8.1) = true then
 joinK (sh10_K9 rc8) fun j10 =>
 joinK (sh10_K11 j10) fun j12 =>
 if inR z8.2.1 z8.2.2.2.2.2.2.2.1.length = true then
 if decide (z8.2.1.toNat + 1 ≤ z8.2.2.2.2.2.2.2.1.length) = true then
 if ((z8.2.2.2.2.2.2.2.1.getD z8.2.1.toNat ([], 0, 0, 0, [], ())).2.1 != 5) = true then
 if inR z8.2.1 z8.2.2.2.2.2.2.2.1.length = true then
 if decide (z8.2.1.toNat + 1 ≤ z8.2.2.2.2.2.2.2.1.length) = true then
 (sp21 ((z8.2.2.2.2.2.2.2.1.getD z8.2.1.toNat ([], 0, 0, 0, [], ())).2.2.2.2.1, IntKind.i64.wrap (z8.2.1 + 1), ())).bind fun r13 =>
 j12 (z8.1, z8.2.1, !r13.1, z8.2.2.1, (), (), z8.2.2.2.2.2)
 else none
 else none
 else j12 (z8.1, z8.2.1, false, z8.2.2.1, (), (), z8.2.2.2.2.2)
 else none
 else none
 else j6 (z8.2.2.1, (), (), z8.2.2.2.2.2)
noncomputable def sh10_K3 (fuel : Nat) (z3 : Int × Ty0 × A7) : Ag :=
 joinK sh10_K4 fun j6 =>
 (sp22 (z3.2.1, 4, ())).bind fun r7 =>
 if decide (0 < r7.1) = true then iter fuel (sh10_L8 j6) (z3.1, 0, r7.2.1, (), (), z3.2.2.2.2) else j6 (r7.2.1, (), (), z3.2.2.2.2)
noncomputable def sh10_K16 (rc15 : A1 → Ag) (z16 : A1) : Ag :=
 rc15 (z16.1, z16.2.1, z16.2.2.1, z16.2.2.2.1, IntKind.i64.wrap (z16.2.2.2.2.1 + 1), z16.2.2.2.2.2.1, (), (), z16.2.2.2.2.2.2.2.2)
noncomputable def sh10_K20 (j17 : A1 → Ag) (z20 : Int × Int × Int × Int × Int × Ty0 × Unit × Unit × Ty2 × Aa) : Ag :=
 if
 decide
 (z20.2.2.2.2.2.2.2.2.2.2.2.1.length +
 [(toBytes [(IntKind.u8.wrap (IntKind.i64.wrap (65 + z20.2.2.2.2.1)), ())], z20.2.2.2.2.2.2.2.2.1.2)].length ≤
 Abs.lim) =
 true then
 if
 decide
 ((z20.2.2.2.2.2.2.2.2.2.2.2.1.length +
 [(toBytes [(IntKind.u8.wrap (IntKind.i64.wrap (65 + z20.2.2.2.2.1)), ())], z20.2.2.2.2.2.2.2.2.1.2)].length) *
 64 ≤
 Abs.lim) =
 true then
 j17
 (z20.1, z20.2.1, z20.2.2.1, z20.2.2.2.1, z20.2.2.2.2.1, z20.2.2.2.2.2.1, (), (), z20.2.2.2.2.2.2.2.2.2.1, z20.2.2.2.2.2.2.2.2.2.2.1,
 z20.2.2.2.2.2.2.2.2.2.2.2.1 ++ [(toBytes [(IntKind.u8.wrap (IntKind.i64.wrap (65 + z20.2.2.2.2.1)), ())], z20.2.2.2.2.2.2.2.2.1.2)],
 z20.2.2.2.2.2.2.2.2.2.2.2.2)
 else none
 else none
noncomputable def sh10_K19 (j17 : A1 → Ag) (z19 : Ak) : Ag :=
 if decide (z19.2.2.2.2.2.2.2.2.2.1.length + 1 ≤ Abs.lim) = true then
 if decide ((z19.2.2.2.2.2.2.2.2.2.1.length + 1) * 8 ≤ Abs.lim) = true then
 joinK (sh10_K20 j17) fun j21 =>
 if (z19.2.2.2.2.1 == 0) = true then
 (sp25 (z19.2.2.2.2.2.1, z19.2.2.2.2.1, 0, [(1, ())], z19.2.2.2.2.2.2.2.2.1, ())).bind fun r22 =>
 j21 (z19.1, z19.2.1, z19.2.2.1, z19.2.2.2.1, z19.2.2.2.2.1, r22.2.1, (), (), r22.1, z19.2.2.2.2.2.2.2.2.2.2)
 else
 if decide (z19.2.2.2.2.1 < z19.2.2.1) = true then
 (sp25 (z19.2.2.2.2.2.1, z19.2.2.2.2.1, 0, [(2, ()), (3, ()), (4, ()), (5, ()), (3, ())], z19.2.2.2.2.2.2.2.2.1, ())).bind fun r23 =>
 j21 (z19.1, z19.2.1, z19.2.2.1, z19.2.2.2.1, z19.2.2.2.2.1, r23.2.1, (), (), r23.1, z19.2.2.2.2.2.2.2.2.2.2)
 else
 if (z19.2.2.2.2.1 == z19.2.2.1) = true then
 (sp24 (z19.2.2.2.2.2.1, 1, 3, ())).bind fun r24 =>
 (sp22 (r24.2.1, (↑(z19.2.2.2.2.2.2.2.2.2.1 ++ [(IntKind.i64.wrap (z19.2.1 - 1), ())]).length : Int), ())).bind fun r25 =>
 if inR r25.1 (z19.2.2.2.2.2.2.2.2.2.1 ++ [(IntKind.i64.wrap (z19.2.1 - 1), ())]).length = true then
 if decide (r25.1.toNat + 1 ≤ (z19.2.2.2.2.2.2.2.2.2.1 ++ [(IntKind.i64.wrap (z19.2.1 - 1), ())]).length) = true then
 j21
 (z19.1, z19.2.1, z19.2.2.1, z19.2.2.2.1, z19.2.2.2.2.1, r25.2.1, (), (),
 ([], 6, r24.1, 0,
 [(z19.2.2.2.1, ()), (z19.2.2.2.2.2.2.2.2.2.1 ++ [(IntKind.i64.wrap (z19.2.1 - 1), ())]).getD r25.1.toNat (0, ())], ()),
 z19.2.2.2.2.2.2.2.2.2.2)
 else none
 else none
 else
 if decide (z19.2.2.2.2.1 < IntKind.i64.wrap (IntKind.i64.wrap (z19.2.2.1 + 1) + z19.1)) = true then
 (sp25
 (z19.2.2.2.2.2.1, z19.2.2.2.2.1, 1, [(2, ()), (4, ()), (5, ()), (7, ())],
 z19.2.2.2.2.2.2.2.2.2.1 ++ [(IntKind.i64.wrap (z19.2.1 - 1), ())], ())).bind
 fun r26 =>
 if (r26.1.2.1 == 7) = true then
 j21
 (z19.1, z19.2.1, z19.2.2.1, z19.2.2.2.1, z19.2.2.2.2.1, r26.2.1, (), (), (r26.1.1, r26.1.2.1, 0, r26.1.2.2.2),
 z19.2.2.2.2.2.2.2.2.2.2)
 else j21 (z19.1, z19.2.1, z19.2.2.1, z19.2.2.2.1, z19.2.2.2.2.1, r26.2.1, (), (), r26.1, z19.2.2.2.2.2.2.2.2.2.2)
 else
 if decide (z19.2.2.2.2.1 < z19.2.2.2.1) = true then
 j21 (z19.1, z19.2.1, z19.2.2.1, z19.2.2.2.1, z19.2.2.2.2.1, z19.2.2.2.2.2.1, (), (), ([], 8, 0, 1, [], ()), z19.2.2.2.2.2.2.2.2.2.2)
 else
 j21
 (z19.1, z19.2.1, z19.2.2.1, z19.2.2.2.1, z19.2.2.2.2.1, z19.2.2.2.2.2.1, (), (),
 ([], 9, 0, IntKind.i64.wrap (z19.2.2.2.2.1 - z19.2.2.2.1), [], ()), z19.2.2.2.2.2.2.2.2.2.2)
 else none
 else none
noncomputable def sh10_L28 (j27 : Ak → Ag) (rc28 : Int × Ak → Ag) (z28 : Int × Ak) : Ag :=
 if decide (z28.2.2.2.2.2.1 < z28.2.2.2.1) = true then
 if decide (z28.2.2.2.2.2.2.2.2.2.2.1.length + 1 ≤ Abs.lim) = true then
 if decide ((z28.2.2.2.2.2.2.2.2.2.2.1.length + 1) * 8 ≤ Abs.lim) = true then
 rc28
 (z28.1, z28.2.1, z28.2.2.1, z28.2.2.2.1, z28.2.2.2.2.1, IntKind.i64.wrap (z28.2.2.2.2.2.1 + 1), z28.2.2.2.2.2.2.1, (), (),
 z28.2.2.2.2.2.2.2.2.2.1, z28.2.2.2.2.2.2.2.2.2.2.1 ++ [(z28.2.2.2.2.2.1, ())], z28.2.2.2.2.2.2.2.2.2.2.2)
 else none
 else none
 else j27 (z28.1, z28.2.1, z28.2.2.1, z28.2.2.2.1, z28.2.2.2.2.1, z28.2.2.2.2.2.2.1, (), (), z28.2.2.2.2.2.2.2.2.2)
noncomputable def sh10_K18 (fuel : Nat) (j17 : A1 → Ag) (z18 : Ak) : Ag :=
 if decide (z18.2.2.2.2.2.2.2.2.1.length + 1 ≤ Abs.lim) = true then
 if decide ((z18.2.2.2.2.2.2.2.2.1.length + 1) * 8 ≤ Abs.lim) = true then
 joinK (sh10_K19 j17) fun j27 =>
 iter fuel (sh10_L28 j27)
 (z18.1, z18.2.1, z18.2.2.1, z18.2.2.2.1, z18.2.2.2.2.1,
 IntKind.i64.wrap ((if z18.2.2.1 > z18.2.2.2.2.1 then z18.2.2.1 else z18.2.2.2.2.1) + 1), z18.2.2.2.2.2.1, (), (),
 z18.2.2.2.2.2.2.2.2.1 ++ [(z18.2.2.2.1, ())], z18.2.2.2.2.2.2.2.2.2)
 else none
 else none
noncomputable def sh10_L30 (j29 : Ak → Ag) (rc30 : Int × Ak → Ag) (z30 : Int × Ak) : Ag :=
 if decide (z30.2.2.2.2.2.1 ≤ z30.2.2.1) = true then
 if decide (z30.2.2.2.2.2.2.2.2.2.1.length + 1 ≤ Abs.lim) = true then
 if decide ((z30.2.2.2.2.2.2.2.2.2.1.length + 1) * 8 ≤ Abs.lim) = true then
 rc30
 (z30.1, z30.2.1, z30.2.2.1, z30.2.2.2.1, z30.2.2.2.2.1, IntKind.i64.wrap (z30.2.2.2.2.2.1 + 1), z30.2.2.2.2.2.2.1, (), (),
 z30.2.2.2.2.2.2.2.2.2.1 ++ [(z30.2.2.2.2.2.1, ())], z30.2.2.2.2.2.2.2.2.2.2)
 else none
 else none
 else j29 (z30.1, z30.2.1, z30.2.2.1, z30.2.2.2.1, z30.2.2.2.2.1, z30.2.2.2.2.2.2.1, (), (), z30.2.2.2.2.2.2.2.2.2)
noncomputable def sh10_L15 (fuel : Nat) (j14 : Int × Ty0 × A7 → Ag) (rc15 : A1 → Ag) (z15 : A1) : Ag :=
 if decide (z15.2.2.2.2.1 < z15.2.1) = true then
 joinK (sh10_K16 rc15) fun j17 =>
 joinK (sh10_K18 fuel j17) fun j29 =>
 iter fuel (sh10_L30 j29)
 (z15.1, z15.2.1, z15.2.2.1, z15.2.2.2.1, z15.2.2.2.2.1, IntKind.i64.wrap (z15.2.2.2.2.1 + 1), z15.2.2.2.2.2.1, (), (), [], [],
 z15.2.2.2.2.2.2.2.2)
 else j14 (z15.2.2.1, z15.2.2.2.2.2.1, (), (), z15.2.2.2.2.2.2.2.2)
noncomputable def sh10 (fuel : Nat) (x0 : Ty0) : Ag :=
 (sp24 (x0, 1, 3, ())).bind fun r0 =>
 (sp24 (r0.2.1, 0, 3, ())).bind fun r1 =>
 (sp24 (r1.2.1, 1, 2, ())).bind fun r2 =>
 joinK (sh10_K3 fuel) fun j14 =>
 iter fuel (sh10_L15 fuel j14)
 (r1.1, IntKind.i64.wrap (IntKind.i64.wrap (IntKind.i64.wrap (IntKind.i64.wrap (r0.1 + 1) + r1.1) + r2.1) + 2), r0.1,
 IntKind.i64.wrap (IntKind.i64.wrap (IntKind.i64.wrap (IntKind.i64.wrap (IntKind.i64.wrap (r0.1 + 1) + r1.1) + r2.1) + 2) - 2), 0, r2.2.1,
 (), (), [], [], [], [], ())
noncomputable def sp10 (x : Bl) : Ag := sh10 100000 x.1
/-! 11 baggage/baggagelaw08.broken -/
def g11 : Sig := ⟨[.v (.ty (.int .i64)), .v (.ty (.int .i64))], .own (.cons .bool .nil)⟩
def h11 : HT := (nx (nx (.j ⟨[(5, .own 1002)], [(1002, bS)], []⟩ (nx (.u (.l ⟨[(0, dI), (1, dI), (5, .own 1000), (6, dI)], [(1000, bS)], []⟩ aL))) aG)))
noncomputable def sh11_K0 (z0 : Bb) : B4 :=
 some z0
noncomputable def sh11_L2 (j1 : Bb → B4) (rc2 : Bw → B4) (z2 : Bw) : B4 :=
 if decide (z2.2.2.1 < z2.2.1) = true then
 if decide (0 ≤ IntKind.u64.wrap z2.2.2.1) = true then
 if
 decide
 (z2.2.2.2.1.length +
 [(IntKind.i64.wrap
 (↑(BitVec.ofInt IntKind.i64.bits (z2.1.fdiv (2 ^ min (IntKind.u64.wrap z2.2.2.1).toNat IntKind.i64.bits)) &&&
 BitVec.ofInt IntKind.i64.bits 1).toNat :
 Int) ==
 1,
 ())].length ≤
 Abs.lim) =
 true then
 if
 decide
 ((z2.2.2.2.1.length +
 [(IntKind.i64.wrap
 (↑(BitVec.ofInt IntKind.i64.bits (z2.1.fdiv (2 ^ min (IntKind.u64.wrap z2.2.2.1).toNat IntKind.i64.bits)) &&&
 BitVec.ofInt IntKind.i64.bits 1).toNat :
 Int) ==
 1,
 ())].length) *
 1 ≤
 Abs.lim) =
 true then
 rc2
 (z2.1, z2.2.1, IntKind.i64.wrap (z2.2.2.1 + 1),
 z2.2.2.2.1 ++
 [(IntKind.i64.wrap
 (↑(BitVec.ofInt IntKind.i64.bits (z2.1.fdiv (2 ^ min (IntKind.u64.wrap z2.2.2.1).toNat IntKind.i64.bits)) &&&
 BitVec.ofInt IntKind.i64.bits 1).toNat :
 Int) ==
 1,
 ())],
 ())
 else none
 else none
 else none
 else j1 z2.2.2.2
noncomputable def sh11 (fuel : Nat) (x0 : Int) (x1 : Int) : B4 :=
 joinK sh11_K0 fun j1 => iter fuel (sh11_L2 j1) (x0, x1, 0, [], ())
noncomputable def sp11 (x : Az) : B4 := sh11 100000 x.1 x.2.1
/-! 29 baggage/baggageref08.ask -/
def g29 : Sig := ⟨[.v (.ag ty4), .v (.ty (.int .i64)), .v (.ty (.int .i64))], .v (.ty .bool)⟩
def h29 : HT := (nx aK)
noncomputable def sh29_K0 (z0 : Ab) : XB :=
 some z0
noncomputable def sh29 (fuel : Nat) (x0 : Ty4) (x1 : Int) (x2 : Int) : XB :=
 joinK sh29_K0 fun j1 =>
 if decide (0 ≤ x1) = true then
 if decide (x1 < (↑x0.1.length : Int)) = true then
 if decide (0 ≤ x2) = true then
 if decide (x2 < (↑x0.1.length : Int)) = true then
 if inR x2 x0.1.length = true then
 (sp20 ((lAt ([], 0, 0, 0, [], ()) x0.1 x2).2.1, ())).bind fun r2 =>
 if (!r2.1) = true then (sp38 (x0, ())).bind fun r3 => j1 (r3.1 == 0, ()) else j1 (false, ())
 else none
 else j1 (false, ())
 else j1 (false, ())
 else j1 (false, ())
 else j1 (false, ())
noncomputable def sp29 (x : Ty4 × Az) : XB := sh29 0 x.1 x.2.1 x.2.2.1
/-! 42 baggage/baggageref07.Order -/
def g42 : Sig := ⟨[.v (.ag ty4)], .own (.cons (.int .i64) .nil)⟩
def h42 : HT := (nx (.n aJ aG))
noncomputable def sh42 (fuel : Nat) (x0 : Ty4) : XO1 :=
 (sp38 (x0, ())).bind fun r0 => if (r0.1 != 0) = true then some ([], ()) else (sp59 (x0, ())).bind fun r1 => some r1
noncomputable def sp42 (x : Af) : XO1 := sh42 0 x.1
/-! 43 baggage/baggageref08.Broken -/
def g43 : Sig := ⟨[.v (.ty (.sl (.cons .bool .nil))), .v (.ty (.int .i64))], .v (.ty .bool)⟩
def h43 : HT := aW
noncomputable def sh43_K0 (z0 : Ab) : XB :=
 some z0
noncomputable def sh43 (fuel : Nat) (x0 : As) (x1 : Int) : XB :=
 joinK sh43_K0 fun j1 =>
 if decide (x1 < (↑x0.length : Int)) = true then if inR x1 x0.length = true then j1 (lAt (false, ()) x0 x1) else none else j1 (false, ())
noncomputable def sp43 (x : As × Ai) : XB := sh43 0 x.1 x.2.1
/-! 30 baggage/baggageref08.distances -/
def g30 : Sig := ⟨[.v (.ag ty4), .v (.ty (.sl (.cons .bool .nil))), .v (.ty (.int .i64))], .own (.cons (.int .i64) .nil)⟩
def h30 : HT := (nx (nx (nx (.j ⟨[(7, .own 1024)], [(1024, a9)], []⟩ (nx (.u (.l ⟨[(1, bE), (2, dI), (3, bD), (7, bR), (8, .own 1002), (9, dI)], [(1000, a8), (1001, a9), (1002, a9)], []⟩ (.n aE (.j ⟨[(1, bE), (2, dI), (3, .ref 1018 2), (7, .own 1019), (8, .own 1020), (9, dI)], [(1018, a8), (1019, a9), (1020, a9)], []⟩ (.u (nx (nx (.n aE (.n aJ (nx (.u (.l ⟨[(1, bE), (2, dI), (3, bP), (7, .own 1004), (8, .own 1005), (9, dI), (10, dI), (11, dI)], [(1003, a8), (1004, a9), (1005, a9)], []⟩ (.n aE (.j ⟨[(1, bE), (2, dI), (3, bU), (7, .own 1013), (8, .own 1014), (9, dI), (10, dI), (11, dI)], [(1012, a8), (1013, a9), (1014, a9)], []⟩ (.u (nx (.n (.j ⟨[(1, bE), (2, dI), (3, bM), (7, .own 1007), (8, .own 1008), (9, dI), (10, dI), (11, dI), (12, dI), (87, dB)], [(1006, a8), (1007, a9), (1008, a9)], []⟩ (.r .x) aI) (.n (.r .q) (.j ⟨[(1, bE), (2, dI), (3, bZ), (7, .own 1010), (8, .own 1011), (9, dI), (10, dI), (11, dI), (13, dI), (111, dB)], [(1009, a8), (1010, a9), (1011, a9)], []⟩ (.r .x) aG))))) (.r .x))))))))))) (.r .x)))))) aG))))
noncomputable def sh30_K1 (z1 : Al) : XO1 :=
 some z1
noncomputable def sh30_K4 (rc3 : As × Av → XO1) (z4 : As × Av) : XO1 :=
 rc3 (z4.1, z4.2.1, IntKind.i64.wrap (z4.2.2.1 - 1), z4.2.2.2)
noncomputable def sh30_K8 (rc7 : A6 → XO1) (z8 : A6) : XO1 :=
 rc7 (z8.1, z8.2.1, z8.2.2.1, z8.2.2.2.1, IntKind.i64.wrap (z8.2.2.2.2.1 + 1), z8.2.2.2.2.2)
noncomputable def sh30_K11 (j9 : A6 → XO1) (z11 : Bm) : XO1 :=
 if z11.2.2.2.2.2.2.1 = true then
 if inR z11.2.2.2.1 z11.2.2.2.2.2.2.2.2.1.length = true then
 if decide (z11.2.2.2.1.toNat + 1 ≤ z11.2.2.2.2.2.2.2.2.1.length) = true then
 j9
 (z11.1, z11.2.1, z11.2.2.1, z11.2.2.2.1, z11.2.2.2.2.1, z11.2.2.2.2.2.2.2.1,
 z11.2.2.2.2.2.2.2.2.1.set z11.2.2.2.1.toNat (z11.2.2.2.2.2.1, ()), z11.2.2.2.2.2.2.2.2.2)
 else none
 else none
 else j9 (z11.1, z11.2.1, z11.2.2.1, z11.2.2.2.1, z11.2.2.2.2.1, z11.2.2.2.2.2.2.2)
noncomputable def sh30_K10 (j9 : A6 → XO1) (z10 : Bm) : XO1 :=
 if z10.2.2.2.2.2.2.1 = true then j9 (z10.1, z10.2.1, z10.2.2.1, z10.2.2.2.1, z10.2.2.2.2.1, z10.2.2.2.2.2.2.2)
 else
 if inR z10.2.2.2.2.2.1 z10.2.2.2.2.2.2.2.2.1.length = true then
 if decide (z10.2.2.2.2.2.1.toNat + 1 ≤ z10.2.2.2.2.2.2.2.2.1.length) = true then
 if inR z10.2.2.2.1 z10.2.2.2.2.2.2.2.1.1.length = true then
 joinK (sh30_K11 j9) fun j12 =>
 if inR z10.2.2.2.1 z10.2.2.2.2.2.2.2.2.1.length = true then
 if decide (z10.2.2.2.1.toNat + 1 ≤ z10.2.2.2.2.2.2.2.2.1.length) = true then
 if decide ((z10.2.2.2.2.2.2.2.2.1.getD z10.2.2.2.1.toNat (0, ())).1 < 0) = true then
 j12
 (z10.1, z10.2.1, z10.2.2.1, z10.2.2.2.1, z10.2.2.2.2.1,
 IntKind.i64.wrap
 ((z10.2.2.2.2.2.2.2.2.1.getD z10.2.2.2.2.2.1.toNat (0, ())).1 +
 (lAt ([], 0, 0, 0, [], ()) z10.2.2.2.2.2.2.2.1.1 z10.2.2.2.1).2.2.1),
 true, z10.2.2.2.2.2.2.2)
 else
 if inR z10.2.2.2.1 z10.2.2.2.2.2.2.2.2.1.length = true then
 if decide (z10.2.2.2.1.toNat + 1 ≤ z10.2.2.2.2.2.2.2.2.1.length) = true then
 j12
 (z10.1, z10.2.1, z10.2.2.1, z10.2.2.2.1, z10.2.2.2.2.1,
 IntKind.i64.wrap
 ((z10.2.2.2.2.2.2.2.2.1.getD z10.2.2.2.2.2.1.toNat (0, ())).1 +
 (lAt ([], 0, 0, 0, [], ()) z10.2.2.2.2.2.2.2.1.1 z10.2.2.2.1).2.2.1),
 decide
 (IntKind.i64.wrap
 ((z10.2.2.2.2.2.2.2.2.1.getD z10.2.2.2.2.2.1.toNat (0, ())).1 +
 (lAt ([], 0, 0, 0, [], ()) z10.2.2.2.2.2.2.2.1.1 z10.2.2.2.1).2.2.1) <
 (z10.2.2.2.2.2.2.2.2.1.getD z10.2.2.2.1.toNat (0, ())).1),
 z10.2.2.2.2.2.2.2)
 else none
 else none
 else none
 else none
 else none
 else none
 else none
noncomputable def sh30_L7 (j5 : As × Av → XO1) (rc7 : A6 → XO1) (z7 : A6) : XO1 :=
 if inR z7.2.2.2.1 z7.2.2.2.2.2.1.1.length = true then
 if decide (z7.2.2.2.2.1 < (↑(List.length (lAt ([], 0, 0, 0, [], ()) z7.2.2.2.2.2.1.1 z7.2.2.2.1).2.2.2.2.1) : Int)) = true then
 joinK (sh30_K8 rc7) fun j9 =>
 if inR z7.2.2.2.1 z7.2.2.2.2.2.1.1.length = true then
 if inR z7.2.2.2.2.1 (List.length (lAt ([], 0, 0, 0, [], ()) z7.2.2.2.2.2.1.1 z7.2.2.2.1).2.2.2.2.1) = true then
 joinK (sh30_K10 j9) fun j13 =>
 if ((lAt (0, ()) (lAt ([], 0, 0, 0, [], ()) z7.2.2.2.2.2.1.1 z7.2.2.2.1).2.2.2.2.1 z7.2.2.2.2.1).1 == z7.2.2.2.1) = true then
 j13
 (z7.1, z7.2.1, z7.2.2.1, z7.2.2.2.1, z7.2.2.2.2.1,
 (lAt (0, ()) (lAt ([], 0, 0, 0, [], ()) z7.2.2.2.2.2.1.1 z7.2.2.2.1).2.2.2.2.1 z7.2.2.2.2.1).1, true, z7.2.2.2.2.2)
 else
 if
 inR (lAt (0, ()) (lAt ([], 0, 0, 0, [], ()) z7.2.2.2.2.2.1.1 z7.2.2.2.1).2.2.2.2.1 z7.2.2.2.2.1).1 z7.2.2.2.2.2.2.1.length =
 true then
 if
 decide
 (Int.toNat (lAt (0, ()) (lAt ([], 0, 0, 0, [], ()) z7.2.2.2.2.2.1.1 z7.2.2.2.1).2.2.2.2.1 z7.2.2.2.2.1).1 + 1 ≤
 z7.2.2.2.2.2.2.1.length) =
 true then
 if
 decide
 ((z7.2.2.2.2.2.2.1.getD
 (Int.toNat (lAt (0, ()) (lAt ([], 0, 0, 0, [], ()) z7.2.2.2.2.2.1.1 z7.2.2.2.1).2.2.2.2.1 z7.2.2.2.2.1).1)
 (0, ())).1 <
 0) =
 true then
 j13
 (z7.1, z7.2.1, z7.2.2.1, z7.2.2.2.1, z7.2.2.2.2.1,
 (lAt (0, ()) (lAt ([], 0, 0, 0, [], ()) z7.2.2.2.2.2.1.1 z7.2.2.2.1).2.2.2.2.1 z7.2.2.2.2.1).1, true, z7.2.2.2.2.2)
 else
 if ((lAt (0, ()) (lAt ([], 0, 0, 0, [], ()) z7.2.2.2.2.2.1.1 z7.2.2.2.1).2.2.2.2.1 z7.2.2.2.2.1).1 != z7.2.1) = true then
 if
 inR (lAt (0, ()) (lAt ([], 0, 0, 0, [], ()) z7.2.2.2.2.2.1.1 z7.2.2.2.1).2.2.2.2.1 z7.2.2.2.2.1).1 z7.2.2.2.2.2.1.1.length =
 true then
 (sp20
 ((lAt ([], 0, 0, 0, [], ()) z7.2.2.2.2.2.1.1
 (lAt (0, ()) (lAt ([], 0, 0, 0, [], ()) z7.2.2.2.2.2.1.1 z7.2.2.2.1).2.2.2.2.1 z7.2.2.2.2.1).1).2.1,
 ())).bind
 fun r14 =>
 j13
 (z7.1, z7.2.1, z7.2.2.1, z7.2.2.2.1, z7.2.2.2.2.1,
 (lAt (0, ()) (lAt ([], 0, 0, 0, [], ()) z7.2.2.2.2.2.1.1 z7.2.2.2.1).2.2.2.2.1 z7.2.2.2.2.1).1, !r14.1, z7.2.2.2.2.2)
 else none
 else
 j13
 (z7.1, z7.2.1, z7.2.2.1, z7.2.2.2.1, z7.2.2.2.2.1,
 (lAt (0, ()) (lAt ([], 0, 0, 0, [], ()) z7.2.2.2.2.2.1.1 z7.2.2.2.1).2.2.2.2.1 z7.2.2.2.2.1).1, false, z7.2.2.2.2.2)
 else none
 else none
 else none
 else none
 else j5 (z7.1, z7.2.1, z7.2.2.1, z7.2.2.2.2.2)
 else none
noncomputable def sh30_L3 (fuel : Nat) (j2 : Al → XO1) (rc3 : As × Av → XO1) (z3 : As × Av) : XO1 :=
 if decide (0 ≤ z3.2.2.1) = true then
 joinK (sh30_K4 rc3) fun j5 =>
 if inR z3.2.2.1 z3.2.2.2.2.2.1.length = true then
 if decide (z3.2.2.1.toNat + 1 ≤ z3.2.2.2.2.2.1.length) = true then
 if inR (z3.2.2.2.2.2.1.getD z3.2.2.1.toNat (0, ())).1 z3.2.2.2.2.1.length = true then
 if decide (Int.toNat (z3.2.2.2.2.2.1.getD z3.2.2.1.toNat (0, ())).1 + 1 ≤ z3.2.2.2.2.1.length) = true then
 (sp43 (z3.1, z3.2.2.2.2.2.1.getD z3.2.2.1.toNat (0, ()))).bind fun r6 =>
 if r6.1 = true then
 j5
 (z3.1, z3.2.1, z3.2.2.1, z3.2.2.2.1, z3.2.2.2.2.1.set (Int.toNat (z3.2.2.2.2.2.1.getD z3.2.2.1.toNat (0, ())).1) (-1, ()),
 z3.2.2.2.2.2)
 else
 if ((z3.2.2.2.2.2.1.getD z3.2.2.1.toNat (0, ())).1 == z3.2.1) = true then
 if
 inR (z3.2.2.2.2.2.1.getD z3.2.2.1.toNat (0, ())).1
 (z3.2.2.2.2.1.set (Int.toNat (z3.2.2.2.2.2.1.getD z3.2.2.1.toNat (0, ())).1) (-1, ())).length =
 true then
 if
 decide
 (Int.toNat (z3.2.2.2.2.2.1.getD z3.2.2.1.toNat (0, ())).1 + 1 ≤
 (z3.2.2.2.2.1.set (Int.toNat (z3.2.2.2.2.2.1.getD z3.2.2.1.toNat (0, ())).1) (-1, ())).length) =
 true then
 j5
 (z3.1, z3.2.1, z3.2.2.1, z3.2.2.2.1,
 (z3.2.2.2.2.1.set (Int.toNat (z3.2.2.2.2.2.1.getD z3.2.2.1.toNat (0, ())).1) (-1, ())).set
 (Int.toNat (z3.2.2.2.2.2.1.getD z3.2.2.1.toNat (0, ())).1) (0, ()),
 z3.2.2.2.2.2)
 else none
 else none
 else
 iter fuel (sh30_L7 j5)
 (z3.1, z3.2.1, z3.2.2.1, (z3.2.2.2.2.2.1.getD z3.2.2.1.toNat (0, ())).1, 0, z3.2.2.2.1,
 z3.2.2.2.2.1.set (Int.toNat (z3.2.2.2.2.2.1.getD z3.2.2.1.toNat (0, ())).1) (-1, ()), z3.2.2.2.2.2)
 else none
 else none
 else none
 else none
 else j2 (z3.2.2.2.2.1, ())
noncomputable def sh30 (fuel : Nat) (x0 : Ty4) (x1 : As) (x2 : Int) : XO1 :=
 if decide (0 ≤ (↑x0.1.length : Int)) = true then
 if decide ((↑x0.1.length : Int) ≤ (↑x0.1.length : Int)) = true then
 if decide ((↑x0.1.length : Int) ≤ (↑Abs.lim : Int)) = true then
 if decide ((↑8 : Int) * (↑x0.1.length : Int) ≤ (↑Abs.lim : Int)) = true then
 (sp42 (x0, ())).bind fun r0 =>
 joinK sh30_K1 fun j2 =>
 iter fuel (sh30_L3 fuel j2)
 (x1, x2, IntKind.i64.wrap ((↑r0.1.length : Int) - 1), x0, List.replicate (↑x0.1.length : Int).toNat (0, ()), r0)
 else none
 else none
 else none
 else none
noncomputable def sp30 (x : Ty4 × As × Ai) : XO1 := sh30 100000 x.1 x.2.1 x.2.2.1
/-! 13 baggage/baggageref08.Distance -/
def g13 : Sig := ⟨[.v (.ag ty4), .v (.ty (.sl (.cons .bool .nil))), .v (.ty (.int .i64)), .v (.ty (.int .i64))], .v (.ty (.int .i64))⟩
def h13 : HT := (nx (.n aJ aG))
noncomputable def sh13 (fuel : Nat) (x0 : Ty4) (x1 : As) (x2 : Int) (x3 : Int) : XO0 :=
 (sp29 (x0, x2, x3, ())).bind fun r0 =>
 if (!r0.1) = true then some (-1, ())
 else
 (sp30 (x0, x1, x3, ())).bind fun r1 =>
 if inR x2 r1.1.length = true then if decide (x2.toNat + 1 ≤ r1.1.length) = true then some (r1.1.getD x2.toNat (0, ())) else none else none
noncomputable def sp13 (x : Ty4 × As × Az) : XO0 := sh13 0 x.1 x.2.1 x.2.2.1 x.2.2.2.1
/-! 15 baggage/baggageref08.Exit -/
def g15 : Sig := ⟨[.v (.ag ty4), .v (.ty (.sl (.cons .bool .nil))), .v (.ty (.int .i64)), .v (.ty (.int .i64))], .v (.ty (.int .i64))⟩
def h15 : HT := (nx (nx (.n (.j ⟨[(1, bE), (2, dI), (3, dI), (4, bD), (9, dI), (24, dB)], [(1000, a8)], []⟩ (.r .x) aC) (nx (.j ⟨[], [], []⟩ (nx (.u (.l ⟨[(2, dI), (3, dI), (4, bN), (9, dI), (10, .own 1002), (11, dI)], [(1001, a8), (1002, a9)], []⟩ (.n aE (.n (.u (nx (.j ⟨[(2, dI), (3, dI), (4, bP), (9, dI), (10, .own 1004), (11, dI), (80, dB)], [(1003, a8), (1004, a9)], []⟩ (.r .q) aC))) (.r .x)))))) aG)))))
noncomputable def sh15_K3 (z3 : Unit) : XO0 :=
 some (-1, ())
noncomputable def sh15_K6 (rc5 : Int × Int × Bh → XO0) (z6 : Int × Int × Int × Bj) : XO0 :=
 if z6.2.2.2.2.1 = true then some (z6.2.2.2.1, ()) else rc5 (z6.1, z6.2.1, z6.2.2.1, IntKind.i64.wrap (z6.2.2.2.1 + 1), z6.2.2.2.2.2)
noncomputable def sh15_L5 (j4 : Unit → XO0) (rc5 : Int × Int × Bh → XO0) (z5 : Int × Int × Bh) : XO0 :=
 if inR z5.1 z5.2.2.2.2.1.1.length = true then
 if decide (z5.2.2.2.1 < (↑(List.length (lAt ([], 0, 0, 0, [], ()) z5.2.2.2.2.1.1 z5.1).2.2.2.2.1) : Int)) = true then
 if inR z5.1 z5.2.2.2.2.1.1.length = true then
 if inR z5.2.2.2.1 (List.length (lAt ([], 0, 0, 0, [], ()) z5.2.2.2.2.1.1 z5.1).2.2.2.2.1) = true then
 joinK (sh15_K6 rc5) fun j7 =>
 if ((lAt (0, ()) (lAt ([], 0, 0, 0, [], ()) z5.2.2.2.2.1.1 z5.1).2.2.2.2.1 z5.2.2.2.1).1 != z5.1) = true then
 if inR (lAt (0, ()) (lAt ([], 0, 0, 0, [], ()) z5.2.2.2.2.1.1 z5.1).2.2.2.2.1 z5.2.2.2.1).1 z5.2.2.2.2.2.1.length = true then
 if
 decide
 (Int.toNat (lAt (0, ()) (lAt ([], 0, 0, 0, [], ()) z5.2.2.2.2.1.1 z5.1).2.2.2.2.1 z5.2.2.2.1).1 + 1 ≤ z5.2.2.2.2.2.1.length) =
 true then
 if inR z5.1 z5.2.2.2.2.1.1.length = true then
 if
 ((z5.2.2.2.2.2.1.getD (Int.toNat (lAt (0, ()) (lAt ([], 0, 0, 0, [], ()) z5.2.2.2.2.1.1 z5.1).2.2.2.2.1 z5.2.2.2.1).1)
 (0, ())).1 ==
 IntKind.i64.wrap (z5.2.2.1 - (lAt ([], 0, 0, 0, [], ()) z5.2.2.2.2.1.1 z5.1).2.2.1)) =
 true then
 if ((lAt (0, ()) (lAt ([], 0, 0, 0, [], ()) z5.2.2.2.2.1.1 z5.1).2.2.2.2.1 z5.2.2.2.1).1 == z5.2.1) = true then
 j7 (z5.1, z5.2.1, z5.2.2.1, z5.2.2.2.1, true, z5.2.2.2.2)
 else
 if inR (lAt (0, ()) (lAt ([], 0, 0, 0, [], ()) z5.2.2.2.2.1.1 z5.1).2.2.2.2.1 z5.2.2.2.1).1 z5.2.2.2.2.1.1.length = true then
 (sp20
 ((lAt ([], 0, 0, 0, [], ()) z5.2.2.2.2.1.1
 (lAt (0, ()) (lAt ([], 0, 0, 0, [], ()) z5.2.2.2.2.1.1 z5.1).2.2.2.2.1 z5.2.2.2.1).1).2.1,
 ())).bind
 fun r8 => j7 (z5.1, z5.2.1, z5.2.2.1, z5.2.2.2.1, r8.1, z5.2.2.2.2)
 else none
 else j7 (z5.1, z5.2.1, z5.2.2.1, z5.2.2.2.1, false, z5.2.2.2.2)
 else none
 else none
 else none
 else j7 (z5.1, z5.2.1, z5.2.2.1, z5.2.2.2.1, false, z5.2.2.2.2)
 else none
 else none
 else j4 ()
 else none
noncomputable def sh15_K1 (fuel : Nat) (z1 : As × Int × Int × Int × Bq) : XO0 :=
 if z1.2.2.2.2.1 = true then some (-1, ())
 else
 (sp30 (z1.2.2.2.2.2.1, z1.1, z1.2.2.1, ())).bind fun r2 =>
 joinK sh15_K3 fun j4 => iter fuel (sh15_L5 j4) (z1.2.1, z1.2.2.1, z1.2.2.2.1, 0, z1.2.2.2.2.2.1, r2)
noncomputable def sh15 (fuel : Nat) (x0 : Ty4) (x1 : As) (x2 : Int) (x3 : Int) : XO0 :=
 (sp13 (x0, x1, x2, x3, ())).bind fun r0 =>
 joinK (sh15_K1 fuel) fun j9 => if decide (r0.1 < 0) = true then j9 (x1, x2, x3, r0.1, true, x0, ()) else j9 (x1, x2, x3, r0.1, x2 == x3, x0, ())
noncomputable def sp15 (x : Ty4 × As × Az) : XO0 := sh15 100000 x.1 x.2.1 x.2.2.1 x.2.2.2.1
/-! 18 baggage/baggageref08.Reach -/
def g18 : Sig := ⟨[.v (.ag ty4), .v (.ty (.sl (.cons .bool .nil))), .v (.ty (.int .i64))], .own (.cons (.int .i64) .nil)⟩
def h18 : HT := (nx (nx (.j ⟨[(7, .own 1006)], [(1006, a9)], []⟩ (nx (.u (.l ⟨[(1, bE), (2, dI), (3, bD), (7, bR), (8, dI)], [(1000, a8), (1001, a9)], []⟩ (.n aE (.j ⟨[(1, bE), (2, dI), (3, bJ), (7, bW), (8, dI)], [(1002, a8), (1003, a9)], []⟩ (.u aN) (.r .x)))))) aG)))
noncomputable def sh18_K0 (z0 : Al) : XO1 :=
 some z0
noncomputable def sh18_K3 (rc2 : As × Bh → XO1) (z3 : As × Bh) : XO1 :=
 rc2 (z3.1, z3.2.1, IntKind.i64.wrap (z3.2.2.1 + 1), z3.2.2.2)
noncomputable def sh18_L2 (j1 : Al → XO1) (rc2 : As × Bh → XO1) (z2 : As × Bh) : XO1 :=
 if decide (z2.2.2.1 < (↑z2.2.2.2.1.1.length : Int)) = true then
 joinK (sh18_K3 rc2) fun j4 =>
 (sp13 (z2.2.2.2.1, z2.1, z2.2.1, z2.2.2.1, ())).bind fun r5 =>
 if decide (0 ≤ r5.1) = true then
 if decide (z2.2.2.2.2.1.length + 1 ≤ Abs.lim) = true then
 if decide ((z2.2.2.2.2.1.length + 1) * 8 ≤ Abs.lim) = true then
 j4 (z2.1, z2.2.1, z2.2.2.1, z2.2.2.2.1, z2.2.2.2.2.1 ++ [(z2.2.2.1, ())], ())
 else none
 else none
 else j4 z2
 else j1 z2.2.2.2.2
noncomputable def sh18 (fuel : Nat) (x0 : Ty4) (x1 : As) (x2 : Int) : XO1 :=
 joinK sh18_K0 fun j1 => iter fuel (sh18_L2 j1) (x1, x2, 0, x0, [], ())
noncomputable def sp18 (x : Ty4 × As × Ai) : XO1 := sh18 100000 x.1 x.2.1 x.2.2.1
/-! 3 baggage/baggagelaw08.RouteTables -/
def g3 : Sig := ⟨[.v (.ag ty4), .v (.ty (.sl (.cons (.int .i64) .nil))), .v (.ty (.int .i64)), .v (.ty (.int .i64)), .v (.ty (.int .i64)), .v (.ty (.sl (.cons .bool .nil)))], .v (.ty .bool)⟩
def h3 : HT := (nx (.n (.j ⟨[(1, dL), (2, dI), (3, dI), (4, dI), (5, bE), (6, bD), (24, dB)], [(1000, a8)], []⟩ (.r .x) aC) (nx (nx (.j ⟨[(3, dI), (4, dI), (5, bE), (6, .ref 1034 2), (13, .ref 1035 2)], [(1034, a8), (1035, a8)], []⟩ (nx (.u (.l ⟨[(3, dI), (4, dI), (5, bE), (6, .ref 1020 2), (13, .ref 1021 2), (14, bE), (15, dI)], [(1020, a8), (1021, a8)], []⟩ (.n aE (.j ⟨[(3, dI), (4, dI), (5, bE), (6, .ref 1030 2), (13, .ref 1031 2), (14, bE), (15, dI)], [(1030, a8), (1031, a8)], []⟩ (.u (.j ⟨[(3, dI), (4, dI), (5, bE), (6, .ref 1028 2), (13, .ref 1029 2), (14, bE), (15, dI)], [(1028, a8), (1029, a8)], []⟩ (nx (.u (.l ⟨[(3, dI), (4, dI), (5, bE), (6, .ref 1022 2), (13, .ref 1023 2), (14, bE), (15, dI), (16, dI)], [(1022, a8), (1023, a8)], []⟩ (.n aE (.n (.u (.j ⟨[(3, dI), (4, dI), (5, bE), (6, .ref 1024 2), (13, .ref 1025 2), (14, bE), (15, dI), (16, dI), (71, dB)], [(1024, a8), (1025, a8)], []⟩ (.r .q) aC)) (.r .x)))))) (.n (.r (.c 11 10 82 false [(0, 0), (1, 1), (1, 2), (0, 4), (1, 5), (1, 6), (2, 3), (2, 7), (2, 8), (0, 9), (1, 10)] (.w 11 [(0, 0), (1, 1), (1, 2), (0, 4), (1, 5), (1, 6), (2, 3), (2, 7), (2, 8), (0, 9), (1, 10)]))) aC))) (.r .x)))))) (.n (.r (.c 12 11 105 true [(0, 0), (1, 1), (1, 2), (1, 3), (0, 5), (1, 6), (1, 7), (1, 8), (2, 4), (2, 9), (1, 10), (1, 11)] (.c 13 12 118 true [(0, 0), (1, 1), (1, 2), (1, 3), (0, 5), (1, 6), (1, 7), (1, 8), (2, 4), (2, 9), (1, 10), (1, 11), (1, 12)] (.c 11 10 129 true [(0, 0), (1, 1), (1, 2), (0, 4), (1, 5), (1, 6), (2, 3), (2, 7), (2, 8), (1, 9), (1, 10)] (.c 13 12 142 true [(0, 0), (1, 1), (1, 2), (1, 3), (0, 5), (1, 6), (1, 7), (1, 8), (2, 4), (2, 9), (1, 10), (1, 11), (1, 12)] (.w 3 [(2, 0), (1, 1), (1, 2)])))))) .e))))))
noncomputable def sh3_K5 (z5 : Int × Int × As × Ty4 × Af) : XB :=
 (sp12 (z5.2.2.2.1, z5.2.2.1, z5.1, z5.2.1, ())).bind fun r6 =>
 (sp13 (z5.2.2.2.1, z5.2.2.1, z5.1, z5.2.1, ())).bind fun r7 =>
 if (r6.1 == r7.1) = true then
 (sp14 (z5.2.2.2.1, z5.2.2.1, z5.1, z5.2.1, ())).bind fun r8 =>
 (sp15 (z5.2.2.2.1, z5.2.2.1, z5.1, z5.2.1, ())).bind fun r9 =>
 if (r8.1 == r9.1) = true then
 (sp17 (z5.2.2.2.1, z5.2.2.1, z5.1, ())).bind fun r10 =>
 (sp18 (z5.2.2.2.1, z5.2.2.1, z5.1, ())).bind fun r11 =>
 (sp16 (r10.1, r11)).bind fun r12 =>
 if r12.1 = true then
 (sp12 (z5.2.2.2.2.1, z5.2.2.1, z5.1, z5.2.1, ())).bind fun r13 =>
 (sp13 (z5.2.2.2.2.1, z5.2.2.1, z5.1, z5.2.1, ())).bind fun r14 =>
 if (r13.1 == r14.1) = true then (sp8 ()).bind fun r15 => some r15 else none
 else none
 else none
 else none
noncomputable def sh3_K18 (rc17 : Ay → XB) (z18 : Ay) : XB :=
 rc17 (z18.1, z18.2.1, z18.2.2.1, z18.2.2.2.1, IntKind.i64.wrap (z18.2.2.2.2.1 + 1), z18.2.2.2.2.2)
noncomputable def sh3_K20 (j19 : Ay → XB) (z20 : Ay) : XB :=
 (sp17 (z20.2.2.2.2.2.2.1, z20.2.2.2.1, z20.2.2.2.2.1, ())).bind fun r21 =>
 (sp18 (z20.2.2.2.2.2.2.1, z20.2.2.2.1, z20.2.2.2.2.1, ())).bind fun r22 =>
 (sp16 (r21.1, r22)).bind fun r23 =>
 if (!!r23.1) = true then
 (sp17 (z20.2.2.2.2.2.2.1, z20.2.2.1, z20.2.2.2.2.1, ())).bind fun r24 =>
 (sp18 (z20.2.2.2.2.2.2.1, z20.2.2.1, z20.2.2.2.2.1, ())).bind fun r25 =>
 (sp16 (r24.1, r25)).bind fun r26 => if (!r26.1) = true then some (false, ()) else j19 z20
 else none
noncomputable def sh3_K29 (rc28 : A8 → XB) (z29 : Int × Int × As × As × Int × Int × Bool × Ty4 × Af) : XB :=
 if z29.2.2.2.2.2.2.1 = true then some (false, ())
 else rc28 (z29.1, z29.2.1, z29.2.2.1, z29.2.2.2.1, z29.2.2.2.2.1, IntKind.i64.wrap (z29.2.2.2.2.2.1 + 1), z29.2.2.2.2.2.2.2)
noncomputable def sh3_L28 (j27 : Ay → XB) (rc28 : A8 → XB) (z28 : A8) : XB :=
 if decide (z28.2.2.2.2.2.1 ≤ (↑z28.2.2.2.2.2.2.2.1.1.length : Int)) = true then
 joinK (sh3_K29 rc28) fun j30 =>
 (sp12 (z28.2.2.2.2.2.2.2.1, z28.2.2.2.1, z28.2.2.2.2.1, z28.2.2.2.2.2.1, ())).bind fun r31 =>
 (sp13 (z28.2.2.2.2.2.2.2.1, z28.2.2.2.1, z28.2.2.2.2.1, z28.2.2.2.2.2.1, ())).bind fun r32 =>
 if (r31.1 != r32.1) = true then j30 (z28.1, z28.2.1, z28.2.2.1, z28.2.2.2.1, z28.2.2.2.2.1, z28.2.2.2.2.2.1, true, z28.2.2.2.2.2.2)
 else
 (sp14 (z28.2.2.2.2.2.2.2.1, z28.2.2.2.1, z28.2.2.2.2.1, z28.2.2.2.2.2.1, ())).bind fun r33 =>
 (sp15 (z28.2.2.2.2.2.2.2.1, z28.2.2.2.1, z28.2.2.2.2.1, z28.2.2.2.2.2.1, ())).bind fun r34 =>
 j30 (z28.1, z28.2.1, z28.2.2.1, z28.2.2.2.1, z28.2.2.2.2.1, z28.2.2.2.2.2.1, r33.1 != r34.1, z28.2.2.2.2.2.2)
 else j27 (z28.1, z28.2.1, z28.2.2.1, z28.2.2.2.1, z28.2.2.2.2.1, z28.2.2.2.2.2.2)
noncomputable def sh3_L17 (fuel : Nat) (j16 : Int × Int × As × Ty4 × Af → XB) (rc17 : Ay → XB) (z17 : Ay) : XB :=
 if decide (z17.2.2.2.2.1 ≤ (↑z17.2.2.2.2.2.2.1.1.length : Int)) = true then
 joinK (sh3_K18 rc17) fun j19 =>
 joinK (sh3_K20 j19) fun j27 => iter fuel (sh3_L28 j27) (z17.1, z17.2.1, z17.2.2.1, z17.2.2.2.1, z17.2.2.2.2.1, -1, z17.2.2.2.2.2)
 else j16 (z17.1, z17.2.1, z17.2.2.1, z17.2.2.2.2.2)
noncomputable def sh3_K0 (fuel : Nat) (z0 : XI × Int × Int × Int × As × Bq) : XB :=
 if z0.2.2.2.2.2.1 = true then (sp8 ()).bind fun r1 => some r1
 else
 (sp9 (z0.1, ())).bind fun r2 =>
 (sp10 r2).bind fun r3 =>
 (sp11 (z0.2.1, (↑r3.1.1.length : Int), ())).bind fun r4 =>
 joinK sh3_K5 fun j16 => iter fuel (sh3_L17 fuel j16) (z0.2.2.1, z0.2.2.2.1, z0.2.2.2.2.1, r4.1, -1, z0.2.2.2.2.2.2.1, r3.1, ())
noncomputable def sh3 (fuel : Nat) (x0 : Ty4) (x1 : XI) (x2 : Int) (x3 : Int) (x4 : Int) (x5 : As) : XB :=
 joinK (sh3_K0 fuel) fun j35 =>
 (sp7 (x0, ())).bind fun r36 =>
 if (!r36.1) = true then j35 (x1, x2, x3, x4, x5, true, x0, ()) else j35 (x1, x2, x3, x4, x5, decide (60 < (↑x5.length : Int)), x0, ())
noncomputable def sp3 (x : Ty4 × XI × Bw) : XB := sh3 100000 x.1 x.2.1 x.2.2.1 x.2.2.2.1 x.2.2.2.2.1 x.2.2.2.2.2.1
end Go.Proofs.YtjficagemeiecaaDoor
