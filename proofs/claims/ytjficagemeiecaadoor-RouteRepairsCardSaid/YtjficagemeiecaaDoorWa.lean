/- What the functions of the program come to. -/
import Derived.Test.YtjficagemeiecaaDoorLibG
import Derived.Test.YtjficagemeiecaaDoorProg
import Derived.KernelRfl
open Go Go.Proofs Go.Abs
set_option linter.unusedVariables false
set_option maxRecDepth 100000
namespace Go.Proofs.YtjficagemeiecaaDoor
def ty0 : Tys := .cons (.sl (.cons (.int .i64) .nil)) (.cons (.int .i64) .nil)
abbrev Ty0 : Type := List (Int × Unit) × Int × Unit
def ty1 : Tys := .cons (.int .i64) (.cons (.int .i64) (.cons (.int .i64) .nil))
abbrev Ty1 : Type := Int × Int × Int × Unit
def ty2 : Tys := .cons .str (.cons (.int .i64) (.cons (.int .i64) (.cons (.int .i64) (.cons (.sl (.cons (.int .i64) .nil)) .nil))))
abbrev Ty2 : Type := List UInt8 × Int × Int × Int × List (Int × Unit) × Unit
def ty3 : Tys := .cons .str (.cons (.int .i64) (.cons (.int .i64) (.cons (.int .i64) (.cons (.sl (.cons (.int .i64) .nil)) (.cons (.int .i64) (.cons (.int .i64) (.cons (.int .i64) (.cons (.sl (.cons .str .nil)) .nil))))))))
abbrev Ty3 : Type := List UInt8 × Int × Int × Int × List (Int × Unit) × Int × Int × Int × List (List UInt8 × Unit) × Unit
def ty4 : Tys := .cons (.sl ty2) (.cons (.sl ty1) .nil)
abbrev Ty4 : Type := List Ty2 × List Ty1 × Unit
def dI : PSlot := .d (.ty (.int .i64))
def dS : PSlot := .d (.ty .str)
def dB : PSlot := .d (.ty .bool)
def dL : PSlot := .d (.ty (.sl (.cons (.int .i64) .nil)))
def nx (a : HT) : HT := .n (.r .x) a
abbrev Tz0 : Type := List UInt8 × Int × Int × Int × Int × Int × Int × Unit
abbrev Tz1 : Type := List UInt8 × Unit
abbrev Tz2 : Type := List Ty0 × Int × Unit
abbrev Tz3 : Type := List Ty2 × Ty1 × Unit
def b0 : List PC := [.d (.sl ty2), .d (.sl ty1)]
def b1 : List PC := [.d .str, .d (.int .i64), .d (.int .i64), .d (.int .i64), .d (.sl (.cons (.int .i64) .nil))]
def b2 : List PC := [.d (.sl (.cons (.int .i64) .nil)), .d (.int .i64)]
def b3 : List PC := [.d (.int .i64), .d (.int .i64), .d (.int .i64)]
noncomputable def bd (f : Func) : Code := f.body.getD .skip
def G : List (Nat × TD) := [(3, .int .i64), (4, .bool), (5, .int .u8), (9, .str), (22, .slice ty2 64), (23, .slice ty1 24), (25, .struct ty4 [(0, false, 1), (1, false, 1)] false), (26, .slice (.cons (.int .i64) .nil) 8), (27, .slice (.cons .bool .nil) 1), (30, .nl .nilP), (38, .nl .nilF), (40, .struct ty2 [(0, false, 1), (1, false, 1), (2, false, 1), (3, false, 1), (4, false, 1)] false), (47, .int .i64), (51, .struct ty0 [(0, false, 1), (1, false, 1)] false), (53, .slice (.cons (.int .u8) .nil) 1), (55, .int .u64), (62, .slice (.cons .str .nil) 16), (64, .slice ty3 112), (66, .struct ty1 [(0, false, 1), (1, false, 1), (2, false, 1)] true), (68, .struct ty3 [(0, true, 5), (5, true, 3), (8, false, 1)] false), (80, .nl .nilF), (86, .map .i64 .i64), (90, .nl .nilF)]
def lit0 : List UInt8 := [101, 110, 116, 114, 121, 32, 65, 32, 50, 32, 48, 32, 62, 32, 71, 10, 103, 97, 116, 101, 32, 71, 32, 49, 32, 48, 32, 62, 32, 77, 32, 67, 10, 99, 104, 117, 116, 101, 32, 67, 32, 49, 10, 109, 97, 110, 117, 97, 108, 32, 77, 32, 48, 10, 115, 99, 97, 110, 110, 101, 114, 32, 71, 32, 48, 10]
/-! 44 baggage/fields.Strip -/
def g44 : Sig := ⟨[.v (.ty (.int .i64))], .v (.ty .bool)⟩
def h44 : HT := (nx (.j ⟨[(2, dB)], [], []⟩ (.r .x) .e))
noncomputable def sh44_K0 (z0 : Bool × Unit) : Option (Bool × Unit) :=
 some z0
noncomputable def sh44 (fuel : Nat) (x0 : Int) : Option (Bool × Unit) :=
 joinK sh44_K0 fun j1 => if decide (1 ≤ x0) = true then j1 (decide (x0 ≤ 6), ()) else j1 (false, ())
noncomputable def sp44 (x : (Int) × Unit) : Option (Bool × Unit) := sh44 0 x.1
/-! 33 baggage/route.bin -/
def g33 : Sig := ⟨[.v (.ag ty4), .v (.ty (.int .i64))], .v (.ty .bool)⟩
def h33 : HT := (nx (.j ⟨[(4, dB)], [], []⟩ (.r .x) .e))
noncomputable def sh33_K0 (z0 : Bool × Unit) : Option (Bool × Unit) :=
 some z0
noncomputable def sh33 (fuel : Nat) (x0 : Ty4) (x1 : Int) : Option (Bool × Unit) :=
 joinK sh33_K0 fun j1 =>
 if decide (0 ≤ x1) = true then
 if decide (x1 < (↑x0.1.length : Int)) = true then
 if inR x1 x0.1.length = true then (sp44 ((lAt ([], 0, 0, 0, [], ()) x0.1 x1).2.1, ())).bind fun r2 => j1 (!r2.1, ()) else none
 else j1 (false, ())
 else j1 (false, ())
noncomputable def sp33 (x : Ty4 × (Int) × Unit) : Option (Bool × Unit) := sh33 0 x.1 x.2.1
/-! 72 baggage/fields.Letter -/
def g72 : Sig := ⟨[.v (.ty (.int .u8))], .v (.ty .bool)⟩
def h72 : HT := (nx (.j ⟨[(2, dB)], [], []⟩ (.r .x) .e))
noncomputable def sh72_K0 (z0 : Bool × Unit) : Option (Bool × Unit) :=
 some z0
noncomputable def sh72 (fuel : Nat) (x0 : Int) : Option (Bool × Unit) :=
 joinK sh72_K0 fun j1 => if decide (65 ≤ x0) = true then j1 (decide (x0 ≤ 90), ()) else j1 (false, ())
noncomputable def sp72 (x : (Int) × Unit) : Option (Bool × Unit) := sh72 0 x.1
noncomputable def c73 : Code := bd Tryd.f73
/-! 75 baggage/fields.Digit -/
def g75 : Sig := ⟨[.v (.ty (.int .u8))], .v (.ty .bool)⟩
def h75 : HT := (nx (.j ⟨[(2, dB)], [], []⟩ (.r .x) .e))
noncomputable def sh75_K0 (z0 : Bool × Unit) : Option (Bool × Unit) :=
 some z0
noncomputable def sh75 (fuel : Nat) (x0 : Int) : Option (Bool × Unit) :=
 joinK sh75_K0 fun j1 => if decide (48 ≤ x0) = true then j1 (decide (x0 ≤ 57), ()) else j1 (false, ())
noncomputable def sp75 (x : (Int) × Unit) : Option (Bool × Unit) := sh75 0 x.1
noncomputable def c74 : Code := bd Tryd.f74
/-! 61 baggage/fields.Name -/
noncomputable def c61 : Code := bd Tryd.f61
def g61 : Sig := ⟨[.v (.ty .str), .v (.ty (.int .i64))], .v (.ty .bool)⟩
def h61 : HT := (nx (.j ⟨[(4, dB)], [], []⟩ (.ri .x [(20, 0, (nx (.j ⟨[(18, dB)], [], []⟩ (nx (.u (.l ⟨[(18, dB), (22, dS), (23, .cst (.fn 74)), (29, dI), (30, dI)], [], []⟩ (nx (.n (.n .e .e) (.n (.u (nx (.n (.ri .x [(37, 0, (nx (.j ⟨[(18, dB), (22, dS), (23, .cst (.fn 74)), (29, dI), (30, dI), (42, dB)], [], []⟩ (.r .x) .e)))]) (.n (nx .e) .e)))) (.r .x))))))) (nx .e))))]) .e))
noncomputable def FT61 : List (Nat × Entry) := [(72, ⟨g72, sp72⟩), (75, ⟨g75, sp75⟩)]
noncomputable def IT61 : List (Nat × Inl) := [(73, ⟨18, [.tmp 4], c73⟩), (74, ⟨9, [.tmp 2], c74⟩)]
def MT61 : MTab := []
noncomputable def sh61_K0 (z0 : Bool × Unit) : Option (Bool × Unit) :=
 some z0
noncomputable def sh61_K3 (j1 : Bool × Unit → Option (Bool × Unit)) (z3 : Bool × Unit) : Option (Bool × Unit) :=
 if z3.1 = true then j1 (true, ()) else j1 (false, ())
noncomputable def sh61_K6 (j1 : Bool × Unit → Option (Bool × Unit)) (rc5 : Bool × List UInt8 × Int × Int × Unit → Option (Bool × Unit)) (z6 : Bool × List UInt8 × Int × Int × Bool × Unit) : Option (Bool × Unit) :=
 if (!z6.2.2.2.2.1) = true then if z6.1 = true then j1 (false, ()) else j1 (false, ())
 else rc5 (z6.1, z6.2.1, z6.2.2.1, IntKind.i64.wrap (z6.2.2.2.1 + 1), ())
noncomputable def sh61_L5 (j1 : Bool × Unit → Option (Bool × Unit)) (j4 : Bool × Unit → Option (Bool × Unit)) (rc5 : Bool × List UInt8 × Int × Int × Unit → Option (Bool × Unit)) (z5 : Bool × List UInt8 × Int × Int × Unit) : Option (Bool × Unit) :=
 if decide (z5.2.2.2.1 < z5.2.2.1) = true then
 if inR z5.2.2.2.1 z5.2.1.length = true then
 joinK (sh61_K6 j1 rc5) fun j7 =>
 (sp72 (sAt z5.2.1 z5.2.2.2.1, ())).bind fun r8 =>
 if r8.1 = true then j7 (z5.1, z5.2.1, z5.2.2.1, z5.2.2.2.1, true, ())
 else (sp75 (sAt z5.2.1 z5.2.2.2.1, ())).bind fun r9 => j7 (z5.1, z5.2.1, z5.2.2.1, z5.2.2.2.1, r9)
 else none
 else j4 (z5.1, ())
noncomputable def sh61 (fuel : Nat) (x0 : List UInt8) (x1 : Int) : Option (Bool × Unit) :=
 joinK sh61_K0 fun j1 =>
 if (!x0 == []) = true then
 if decide ((↑x0.length : Int) ≤ x1) = true then
 if inR 0 x0.length = true then
 (sp72 (sAt x0 0, ())).bind fun r2 =>
 if r2.1 = true then joinK (sh61_K3 j1) fun j4 => iter fuel (sh61_L5 j1 j4) (true, x0, (↑x0.length : Int), 0, ()) else j1 (false, ())
 else none
 else j1 (false, ())
 else j1 (false, ())
noncomputable def sp61 (x : (List UInt8) × (Int) × Unit) : Option (Bool × Unit) := sh61 100000 x.1 x.2.1
/-! 62 baggage/layout.length -/
def g62 : Sig := ⟨[.v (.ag ty2)], .v (.ty .bool)⟩
def h62 : HT := (nx (.n (.u (nx (.n (nx .e) (nx (.n (.j ⟨[(2, dB)], [], []⟩ (.r .x) .e) .e))))) (.j ⟨[(2, dB)], [], []⟩ (.r .x) .e)))
noncomputable def sh62_K1 (z1 : Bool × Unit) : Option (Bool × Unit) :=
 some z1
noncomputable def sh62_K3 (z3 : Bool × Unit) : Option (Bool × Unit) :=
 some z3
noncomputable def sh62 (fuel : Nat) (x0 : Ty2) : Option (Bool × Unit) :=
 (sp44 (x0.2.1, ())).bind fun r0 =>
 if (!r0.1) = true then some (x0.2.2.1 == 0, ())
 else
 if (x0.2.1 == 5) = true then joinK sh62_K1 fun j2 => if decide (2 ≤ x0.2.2.1) = true then j2 (decide (x0.2.2.1 ≤ 8), ()) else j2 (false, ())
 else joinK sh62_K3 fun j4 => if decide (1 ≤ x0.2.2.1) = true then j4 (decide (x0.2.2.1 ≤ 8), ()) else j4 (false, ())
noncomputable def sp62 (x : Ty2 × Unit) : Option (Bool × Unit) := sh62 0 x.1
/-! 76 baggage/layout.exits -/
def g76 : Sig := ⟨[.v (.ty (.int .i64))], .v (.ty (.int .i64))⟩
def h76 : HT := (nx (.n (nx (.u (.j ⟨[(3, dI), (4, dB)], [], []⟩ (nx (.n .e (.r .x))) (.n (nx .e) (.j ⟨[(7, dB)], [], []⟩ (nx (.n .e (nx (.n .e (.r .x))))) (.n (nx .e) .e)))))) (nx .e)))
noncomputable def sh76_K1 (z1 : Bool × Unit) : Option (Int × Unit) :=
 if z1.1 = true then some (2, ()) else some (1, ())
noncomputable def sh76_K0 (z0 : Int × Bool × Unit) : Option (Int × Unit) :=
 if z0.2.1 = true then some (0, ())
 else joinK sh76_K1 fun j2 => if (z0.1 == 4) = true then j2 (z0.1 == 4, ()) else if (z0.1 == 5) = true then j2 (z0.1 == 5, ()) else j2 (z0.1 == 6, ())
noncomputable def sh76 (fuel : Nat) (x0 : Int) : Option (Int × Unit) :=
 joinK sh76_K0 fun j3 => if (x0 == 8) = true then j3 (x0, x0 == 8, ()) else j3 (x0, x0 == 9, ())
noncomputable def sp76 (x : (Int) × Unit) : Option (Int × Unit) := sh76 0 x.1
/-! 80 slices.Index[[]int,int] -/
def g80 : Sig := ⟨[.v (.ty (.sl (.cons (.int .i64) .nil))), .v (.ty (.int .i64))], .v (.ty (.int .i64))⟩
def h80 : HT := (nx (.j ⟨[], [], []⟩ (nx (.u (.l ⟨[(0, dL), (1, dI), (7, dI), (8, dI)], [], []⟩ (nx (.n (.n .e .e) (.n (.u (nx (nx (.n (nx .e) .e)))) (.r .x))))))) (nx .e)))
noncomputable def sh80_K0 (z0 : Unit) : Option (Int × Unit) :=
 some (-1, ())
noncomputable def sh80_L2 (j1 : Unit → Option (Int × Unit)) (rc2 : List (Int × Unit) × Int × Int × Int × Unit → Option (Int × Unit)) (z2 : List (Int × Unit) × Int × Int × Int × Unit) : Option (Int × Unit) :=
 if decide (z2.2.2.2.1 < z2.2.2.1) = true then
 if inR z2.2.2.2.1 z2.1.length = true then
 if (z2.2.1 == (lAt (0, ()) z2.1 z2.2.2.2.1).1) = true then some z2.2.2.2 else rc2 (z2.1, z2.2.1, z2.2.2.1, IntKind.i64.wrap (z2.2.2.2.1 + 1), ())
 else none
 else j1 ()
noncomputable def sh80 (fuel : Nat) (x0 : List (Int × Unit)) (x1 : Int) : Option (Int × Unit) :=
 joinK sh80_K0 fun j1 => iter fuel (sh80_L2 j1) (x0, x1, (↑x0.length : Int), 0, ())
noncomputable def sp80 (x : (List (Int × Unit)) × (Int) × Unit) : Option (Int × Unit) := sh80 100000 x.1 x.2.1
/-! 77 slices.Contains[[]int,int] -/
def g77 : Sig := ⟨[.v (.ty (.sl (.cons (.int .i64) .nil))), .v (.ty (.int .i64))], .v (.ty .bool)⟩
def h77 : HT := (nx (nx .e))
noncomputable def sh77 (fuel : Nat) (x0 : List (Int × Unit)) (x1 : Int) : Option (Bool × Unit) :=
 (sp80 (x0, x1, ())).bind fun r0 => some (decide (0 ≤ r0.1), ())
noncomputable def sp77 (x : (List (Int × Unit)) × (Int) × Unit) : Option (Bool × Unit) := sh77 0 x.1 x.2.1
/-! 63 baggage/layout.leads -/
def g63 : Sig := ⟨[.v (.ag ty4), .v (.ty (.int .i64))], .v (.ty .bool)⟩
def h63 : HT := (nx (nx (.n (.n (.r .q) (.n (nx .e) .e)) (.j ⟨[], [], []⟩ (nx (.u (.l ⟨[(1, dI), (2, .ref 1000 2), (5, .ref 1001 5), (22, dL), (23, dI), (24, dI)], [(1000, .box b0), (1001, .box b1)], []⟩ (nx (.n (.n .e .e) (.n (.u (nx (.j ⟨[(1, dI), (2, .ref 1002 2), (5, .ref 1003 5), (6, dI), (7, dI), (8, dB), (22, dL), (23, dI), (24, dI)], [(1002, .box b0), (1003, .box b1)], []⟩ (.r .x) (.j ⟨[(1, dI), (2, .ref 1004 2), (5, .ref 1005 5), (22, dL), (23, dI), (24, dI), (59, dB)], [(1004, .box b0), (1005, .box b1)], []⟩ (.r .x) (.n (nx .e) .e))))) (.r .x))))))) (nx .e)))))
noncomputable def sh63_K1 (z1 : Unit) : Option (Bool × Unit) :=
 some (true, ())
noncomputable def sh63_K5 (rc3 : Int × List (Int × Unit) × Int × Int × Ty4 × Ty2 × Unit → Option (Bool × Unit)) (z5 : Int × List (Int × Unit) × Int × Int × Bool × Ty4 × Ty2 × Unit) : Option (Bool × Unit) :=
 if z5.2.2.2.2.1 = true then some (false, ()) else rc3 (z5.1, z5.2.1, z5.2.2.1, IntKind.i64.wrap (z5.2.2.2.1 + 1), z5.2.2.2.2.2)
noncomputable def sh63_K4 (rc3 : Int × List (Int × Unit) × Int × Int × Ty4 × Ty2 × Unit → Option (Bool × Unit)) (z4 : Int × Int × Int × Bool × List (Int × Unit) × Int × Int × Ty4 × Ty2 × Unit) : Option (Bool × Unit) :=
 joinK (sh63_K5 rc3) fun j6 =>
 if decide (z4.2.2.1 < 0) = true then j6 (z4.1, z4.2.2.2.2.1, z4.2.2.2.2.2.1, z4.2.2.2.2.2.2.1, true, z4.2.2.2.2.2.2.2)
 else
 if decide ((↑z4.2.2.2.2.2.2.2.1.1.length : Int) ≤ z4.2.2.1) = true then
 j6 (z4.1, z4.2.2.2.2.1, z4.2.2.2.2.2.1, z4.2.2.2.2.2.2.1, true, z4.2.2.2.2.2.2.2)
 else
 if (!(z4.2.2.1 == z4.1) == z4.2.2.2.1) = true then j6 (z4.1, z4.2.2.2.2.1, z4.2.2.2.2.2.1, z4.2.2.2.2.2.2.1, true, z4.2.2.2.2.2.2.2)
 else
 if inCut 0 z4.2.1 z4.2.2.2.2.2.2.2.2.1.2.2.2.2.1.length = true then
 (sp77 (cutL z4.2.2.2.2.2.2.2.2.1.2.2.2.2.1 0 z4.2.1, z4.2.2.1, ())).bind fun r7 =>
 j6 (z4.1, z4.2.2.2.2.1, z4.2.2.2.2.2.1, z4.2.2.2.2.2.2.1, r7.1, z4.2.2.2.2.2.2.2)
 else none
noncomputable def sh63_L3 (j2 : Unit → Option (Bool × Unit)) (rc3 : Int × List (Int × Unit) × Int × Int × Ty4 × Ty2 × Unit → Option (Bool × Unit)) (z3 : Int × List (Int × Unit) × Int × Int × Ty4 × Ty2 × Unit) : Option (Bool × Unit) :=
 if decide (z3.2.2.2.1 < z3.2.2.1) = true then
 if inR z3.2.2.2.1 z3.2.1.length = true then
 joinK (sh63_K4 rc3) fun j8 =>
 if (z3.2.2.2.2.2.1.2.1 == 5) = true then j8 (z3.1, z3.2.2.2.1, (lAt (0, ()) z3.2.1 z3.2.2.2.1).1, z3.2.2.2.1 == 0, z3.2)
 else j8 (z3.1, z3.2.2.2.1, (lAt (0, ()) z3.2.1 z3.2.2.2.1).1, false, z3.2)
 else none
 else j2 ()
noncomputable def sh63 (fuel : Nat) (x0 : Ty4) (x1 : Int) : Option (Bool × Unit) :=
 if inR x1 x0.1.length = true then
 (sp76 ((lAt ([], 0, 0, 0, [], ()) x0.1 x1).2.1, ())).bind fun r0 =>
 if ((↑(List.length (lAt ([], 0, 0, 0, [], ()) x0.1 x1).2.2.2.2.1) : Int) != r0.1) = true then some (false, ())
 else
 joinK sh63_K1 fun j2 =>
 iter fuel (sh63_L3 j2)
 (x1, (lAt ([], 0, 0, 0, [], ()) x0.1 x1).2.2.2.2.1, (↑(List.length (lAt ([], 0, 0, 0, [], ()) x0.1 x1).2.2.2.2.1) : Int), 0, x0,
 lAt ([], 0, 0, 0, [], ()) x0.1 x1, ())
 else none
noncomputable def sp63 (x : Ty4 × (Int) × Unit) : Option (Bool × Unit) := sh63 100000 x.1 x.2.1
/-! 45 baggage/layout.node -/
def g45 : Sig := ⟨[.v (.ag ty4), .v (.ty (.int .i64))], .v (.ty (.int .i64))⟩
def h45 : HT := (nx (nx (.n (.u (nx (.n (nx .e) (.j ⟨[(1, dI), (2, .ref 1000 2), (5, .ref 1001 5), (16, dB)], [(1000, .box b0), (1001, .box b1)], []⟩ (.r .x) (.n (nx .e) (.j ⟨[(25, dB)], [], []⟩ (.r .x) (.n (nx .e) .e))))))) (nx .e))))
noncomputable def sh45_K2 (z2 : Bool × Unit) : Option (Int × Unit) :=
 if z2.1 = true then some (1, ()) else some (0, ())
noncomputable def sh45_K1 (z1 : Int × Bool × Ty4 × Ty2 × Unit) : Option (Int × Unit) :=
 if z1.2.1 = true then some (4, ())
 else
 joinK sh45_K2 fun j3 =>
 (sp62 z1.2.2.2).bind fun r4 =>
 if (!r4.1) = true then j3 (true, ())
 else
 if (z1.2.2.2.1.2.2.2.1 != 0) = true then
 if (z1.2.2.2.1.2.2.2.1 != 1) = true then j3 (true, ()) else (sp63 (z1.2.2.1, z1.1, ())).bind fun r5 => j3 (!r5.1, ())
 else (sp63 (z1.2.2.1, z1.1, ())).bind fun r6 => j3 (!r6.1, ())
noncomputable def sh45 (fuel : Nat) (x0 : Ty4) (x1 : Int) : Option (Int × Unit) :=
 if inR x1 x0.1.length = true then
 (sp61 ((lAt ([], 0, 0, 0, [], ()) x0.1 x1).1, 12, ())).bind fun r0 =>
 if (!r0.1) = true then some (3, ())
 else
 joinK sh45_K1 fun j7 =>
 if decide ((lAt ([], 0, 0, 0, [], ()) x0.1 x1).2.1 < 1) = true then j7 (x1, true, x0, lAt ([], 0, 0, 0, [], ()) x0.1 x1, ())
 else j7 (x1, decide (9 < (lAt ([], 0, 0, 0, [], ()) x0.1 x1).2.1), x0, lAt ([], 0, 0, 0, [], ()) x0.1 x1, ())
 else none
noncomputable def sp45 (x : Ty4 × (Int) × Unit) : Option (Int × Unit) := sh45 0 x.1 x.2.1
/-! 46 baggage/layout.total -/
def g46 : Sig := ⟨[.v (.ag ty4)], .v (.ty (.int .i64))⟩
def h46 : HT := (nx (nx (.j ⟨[(3, dI)], [], []⟩ (nx (.u (.l ⟨[(3, dI), (7, .d (.ty (.sl ty2))), (8, dI), (9, dI)], [], []⟩ (nx (.n (.n .e .e) (.n (.u (nx (.r .x))) (.r .x))))))) (nx .e))))
noncomputable def sh46_K0 (z0 : Int × Unit) : Option (Int × Unit) :=
 some z0
noncomputable def sh46_L2 (j1 : Int × Unit → Option (Int × Unit)) (rc2 : Int × List Ty2 × Int × Int × Unit → Option (Int × Unit)) (z2 : Int × List Ty2 × Int × Int × Unit) : Option (Int × Unit) :=
 if decide (z2.2.2.2.1 < z2.2.2.1) = true then
 if inR z2.2.2.2.1 z2.2.1.length = true then
 rc2 (IntKind.i64.wrap (z2.1 + (lAt ([], 0, 0, 0, [], ()) z2.2.1 z2.2.2.2.1).2.2.1), z2.2.1, z2.2.2.1, IntKind.i64.wrap (z2.2.2.2.1 + 1), ())
 else none
 else j1 (z2.1, ())
noncomputable def sh46 (fuel : Nat) (x0 : Ty4) : Option (Int × Unit) :=
 joinK sh46_K0 fun j1 => iter fuel (sh46_L2 j1) (0, x0.1, (↑x0.1.length : Int), 0, ())
noncomputable def sp46 (x : Ty4 × Unit) : Option (Int × Unit) := sh46 100000 x.1
noncomputable def c78 : Code := bd Tryd.f78
noncomputable def c66 : Code := bd Tryd.f66
/-! 64 baggage/layout.Find -/
noncomputable def c64 : Code := bd Tryd.f64
def g64 : Sig := ⟨[.v (.ag ty4), .v (.ty .str)], .v (.ty (.int .i64))⟩
def h64 : HT := (nx (.j ⟨[(4, dI)], [], []⟩ (.ri .x [(8, 0, (nx (.j ⟨[], [], []⟩ (nx (.u (.l ⟨[(9, .d (.ty (.sl ty2))), (10, .wrp (some 78, 0) [(1000, 1)]), (16, dI), (17, dI)], [(1000, .box [.d .str])], []⟩ (nx (.n (.n .e .e) (.n (.u (nx (.n (.ri .x [(25, 0, (nx (nx .e)))]) (.n (nx .e) .e)))) (.r .x))))))) (nx .e))))]) .e))
noncomputable def FT64 : List (Nat × Entry) := []
noncomputable def IT64 : List (Nat × Inl) := [(66, ⟨19, [.tmp 4], c66⟩), (78, ⟨8, [.tmp 3], c78⟩)]
def MT64 : MTab := []
noncomputable def sh64_K0 (z0 : Int × Unit) : Option (Int × Unit) :=
 some z0
noncomputable def sh64_K2 (j1 : Int × Unit → Option (Int × Unit)) (z2 : Unit) : Option (Int × Unit) :=
 j1 (-1, ())
noncomputable def sh64_L4 (j1 : Int × Unit → Option (Int × Unit)) (j3 : Unit → Option (Int × Unit)) (rc4 : List Ty2 × Int × Int × Tz1 × Unit → Option (Int × Unit)) (z4 : List Ty2 × Int × Int × Tz1 × Unit) : Option (Int × Unit) :=
 if decide (z4.2.2.1 < z4.2.1) = true then
 if inR z4.2.2.1 z4.1.length = true then
 if ((lAt ([], 0, 0, 0, [], ()) z4.1 z4.2.2.1).1 == z4.2.2.2.1.1) = true then j1 (z4.2.2.1, ())
 else rc4 (z4.1, z4.2.1, IntKind.i64.wrap (z4.2.2.1 + 1), z4.2.2.2)
 else none
 else j3 ()
noncomputable def sh64 (fuel : Nat) (x0 : Ty4) (x1 : List UInt8) : Option (Int × Unit) :=
 joinK sh64_K0 fun j1 => joinK (sh64_K2 j1) fun j3 => iter fuel (sh64_L4 j1 j3) (x0.1, (↑x0.1.length : Int), 0, (x1, ()), ())
noncomputable def sp64 (x : Ty4 × (List UInt8) × Unit) : Option (Int × Unit) := sh64 100000 x.1 x.2.1
/-! 47 baggage/layout.named -/
def g47 : Sig := ⟨[.v (.ag ty4)], .v (.ty .bool)⟩
def h47 : HT := (nx (.j ⟨[], [], []⟩ (nx (.u (.l ⟨[(1, .ref 1000 2), (6, .d (.ty (.sl ty2))), (7, dI), (8, dI)], [(1000, .box b0)], []⟩ (nx (.n (.n .e .e) (.n (.u (nx (nx (.n (nx .e) .e)))) (.r .x))))))) (nx .e)))
noncomputable def sh47_K0 (z0 : Unit) : Option (Bool × Unit) :=
 some (true, ())
noncomputable def sh47_L2 (j1 : Unit → Option (Bool × Unit)) (rc2 : List Ty2 × Int × Int × Ty4 × Unit → Option (Bool × Unit)) (z2 : List Ty2 × Int × Int × Ty4 × Unit) : Option (Bool × Unit) :=
 if decide (z2.2.2.1 < z2.2.1) = true then
 if inR z2.2.2.1 z2.1.length = true then
 (sp64 (z2.2.2.2.1, (lAt ([], 0, 0, 0, [], ()) z2.1 z2.2.2.1).1, ())).bind fun r3 =>
 if (r3.1 != z2.2.2.1) = true then some (false, ()) else rc2 (z2.1, z2.2.1, IntKind.i64.wrap (z2.2.2.1 + 1), z2.2.2.2)
 else none
 else j1 ()
noncomputable def sh47 (fuel : Nat) (x0 : Ty4) : Option (Bool × Unit) :=
 joinK sh47_K0 fun j1 => iter fuel (sh47_L2 j1) (x0.1, (↑x0.1.length : Int), 0, x0, ())
noncomputable def sp47 (x : Ty4 × Unit) : Option (Bool × Unit) := sh47 100000 x.1
/-! 48 baggage/layout.zoned -/
def g48 : Sig := ⟨[.v (.ag ty4), .v (.ty (.int .i64))], .v (.ty .bool)⟩
def h48 : HT := (nx (nx (.j ⟨[(2, .ref 1004 2), (5, .ref 1005 5)], [(1004, .box b0), (1005, .box b1)], []⟩ (nx (.u (.j ⟨[(2, .ref 1000 2), (5, .ref 1001 5), (15, dI), (16, dB)], [(1000, .box b0), (1001, .box b1)], []⟩ (nx (.n .e (nx (.n .e (.r .x))))) (.n (nx (.n (nx .e) .e)) (.j ⟨[(2, .ref 1002 2), (5, .ref 1003 5), (23, dB)], [(1002, .box b0), (1003, .box b1)], []⟩ (nx (.n .e (.r .x))) (.n (nx (.n (nx .e) .e)) .e)))))) (.j ⟨[], [], []⟩ (nx (.u (.l ⟨[(2, .ref 1006 2), (5, .ref 1007 5), (30, dL), (31, dI), (32, dI)], [(1006, .box b0), (1007, .box b1)], []⟩ (nx (.n (.n .e .e) (.n (.u (nx (nx (.j ⟨[(2, .ref 1010 2), (5, .ref 1011 5), (7, dI), (8, dI), (30, dL), (31, dI), (32, dI)], [(1010, .box b0), (1011, .box b1)], []⟩ (.j ⟨[(2, .ref 1008 2), (5, .ref 1009 5), (7, dI), (8, dI), (30, dL), (31, dI), (32, dI), (45, dB)], [(1008, .box b0), (1009, .box b1)], []⟩ (.r .x) (nx .e)) (.j ⟨[(2, .ref 1012 2), (5, .ref 1013 5), (30, dL), (31, dI), (32, dI), (62, dB)], [(1012, .box b0), (1013, .box b1)], []⟩ (.r .x) (.n (nx .e) .e)))))) (.r .x))))))) (nx .e)))))
noncomputable def sh48_K1 (z1 : Unit) : Option (Bool × Unit) :=
 some (true, ())
noncomputable def sh48_K5 (rc3 : List (Int × Unit) × Int × Int × Ty4 × Ty2 × Unit → Option (Bool × Unit)) (z5 : List (Int × Unit) × Int × Int × Bool × Ty4 × Ty2 × Unit) : Option (Bool × Unit) :=
 if z5.2.2.2.1 = true then some (false, ()) else rc3 (z5.1, z5.2.1, IntKind.i64.wrap (z5.2.2.1 + 1), z5.2.2.2.2)
noncomputable def sh48_K4 (rc3 : List (Int × Unit) × Int × Int × Ty4 × Ty2 × Unit → Option (Bool × Unit)) (z4 : Int × Int × List (Int × Unit) × Int × Int × Ty4 × Ty2 × Unit) : Option (Bool × Unit) :=
 joinK (sh48_K5 rc3) fun j6 =>
 if inR z4.1 z4.2.2.2.2.2.1.1.length = true then
 if ((lAt ([], 0, 0, 0, [], ()) z4.2.2.2.2.2.1.1 z4.1).2.1 == 1) = true then j6 (z4.2.2.1, z4.2.2.2.1, z4.2.2.2.2.1, true, z4.2.2.2.2.2)
 else
 if inR z4.1 z4.2.2.2.2.2.1.1.length = true then
 j6 (z4.2.2.1, z4.2.2.2.1, z4.2.2.2.2.1, (lAt ([], 0, 0, 0, [], ()) z4.2.2.2.2.2.1.1 z4.1).2.2.2.1 != z4.2.1, z4.2.2.2.2.2)
 else none
 else none
noncomputable def sh48_K8 (j7 : Int × Int × List (Int × Unit) × Int × Int × Ty4 × Ty2 × Unit → Option (Bool × Unit)) (z8 : Int × Int × List (Int × Unit) × Int × Int × Bool × Ty4 × Ty2 × Unit) : Option (Bool × Unit) :=
 if z8.2.2.2.2.2.1 = true then j7 (z8.1, 1, z8.2.2.1, z8.2.2.2.1, z8.2.2.2.2.1, z8.2.2.2.2.2.2)
 else j7 (z8.1, z8.2.1, z8.2.2.1, z8.2.2.2.1, z8.2.2.2.2.1, z8.2.2.2.2.2.2)
noncomputable def sh48_L3 (j2 : Unit → Option (Bool × Unit)) (rc3 : List (Int × Unit) × Int × Int × Ty4 × Ty2 × Unit → Option (Bool × Unit)) (z3 : List (Int × Unit) × Int × Int × Ty4 × Ty2 × Unit) : Option (Bool × Unit) :=
 if decide (z3.2.2.1 < z3.2.1) = true then
 if inR z3.2.2.1 z3.1.length = true then
 joinK (sh48_K4 rc3) fun j7 =>
 joinK (sh48_K8 j7) fun j9 =>
 if (z3.2.2.2.2.1.2.1 == 6) = true then
 j9 ((lAt (0, ()) z3.1 z3.2.2.1).1, z3.2.2.2.2.1.2.2.2.1, z3.1, z3.2.1, z3.2.2.1, z3.2.2.1 == 1, z3.2.2.2)
 else j9 ((lAt (0, ()) z3.1 z3.2.2.1).1, z3.2.2.2.2.1.2.2.2.1, z3.1, z3.2.1, z3.2.2.1, false, z3.2.2.2)
 else none
 else j2 ()
noncomputable def sh48_K0 (fuel : Nat) (z0 : Ty4 × Ty2 × Unit) : Option (Bool × Unit) :=
 joinK sh48_K1 fun j2 => iter fuel (sh48_L3 j2) (z0.2.1.2.2.2.2.1, (↑z0.2.1.2.2.2.2.1.length : Int), 0, z0)
noncomputable def sh48_K12 (j10 : Ty4 × Ty2 × Unit → Option (Bool × Unit)) (z12 : Bool × Ty4 × Ty2 × Unit) : Option (Bool × Unit) :=
 if z12.1 = true then if (z12.2.2.1.2.2.2.1 != 1) = true then some (false, ()) else j10 z12.2 else j10 z12.2
noncomputable def sh48_K11 (j10 : Ty4 × Ty2 × Unit → Option (Bool × Unit)) (z11 : Int × Bool × Ty4 × Ty2 × Unit) : Option (Bool × Unit) :=
 if z11.2.1 = true then if (z11.2.2.2.1.2.2.2.1 != 0) = true then some (false, ()) else j10 z11.2.2
 else joinK (sh48_K12 j10) fun j13 => if (z11.1 == 7) = true then j13 (z11.1 == 7, z11.2.2) else j13 (z11.1 == 8, z11.2.2)
noncomputable def sh48 (fuel : Nat) (x0 : Ty4) (x1 : Int) : Option (Bool × Unit) :=
 if inR x1 x0.1.length = true then
 joinK (sh48_K0 fuel) fun j10 =>
 joinK (sh48_K11 j10) fun j14 =>
 if ((lAt ([], 0, 0, 0, [], ()) x0.1 x1).2.1 == 1) = true then
 j14 ((lAt ([], 0, 0, 0, [], ()) x0.1 x1).2.1, (lAt ([], 0, 0, 0, [], ()) x0.1 x1).2.1 == 1, x0, lAt ([], 0, 0, 0, [], ()) x0.1 x1, ())
 else
 if ((lAt ([], 0, 0, 0, [], ()) x0.1 x1).2.1 == 3) = true then
 j14 ((lAt ([], 0, 0, 0, [], ()) x0.1 x1).2.1, (lAt ([], 0, 0, 0, [], ()) x0.1 x1).2.1 == 3, x0, lAt ([], 0, 0, 0, [], ()) x0.1 x1, ())
 else j14 ((lAt ([], 0, 0, 0, [], ()) x0.1 x1).2.1, (lAt ([], 0, 0, 0, [], ()) x0.1 x1).2.1 == 6, x0, lAt ([], 0, 0, 0, [], ()) x0.1 x1, ())
 else none
noncomputable def sp48 (x : Ty4 × (Int) × Unit) : Option (Bool × Unit) := sh48 100000 x.1 x.2.1
/-! 49 baggage/layout.sorted -/
def g49 : Sig := ⟨[.v (.ag ty4)], .own (.cons (.int .i64) .nil)⟩
def h49 : HT := (nx (nx (.j ⟨[(1, .ref 1012 2), (3, .wrp (some 0, 1) [(1013, 0)])], [(1012, .box b0), (1013, .mp .i64 .i64)], []⟩ (nx (.u (.l ⟨[(1, .ref 1000 2), (3, .wrp (some 0, 1) [(1001, 0)]), (16, .d (.ty (.sl ty2))), (17, dI), (18, dI)], [(1000, .box b0), (1001, .mp .i64 .i64)], []⟩ (nx (.n (.n .e .e) (.j ⟨[(1, .ref 1008 2), (3, .wrp (some 0, 1) [(1009, 0)]), (16, .d (.ty (.sl ty2))), (17, dI), (18, dI)], [(1008, .box b0), (1009, .mp .i64 .i64)], []⟩ (.u (nx (nx (.u (.l ⟨[(1, .ref 1002 2), (3, .wrp (some 0, 1) [(1003, 0)]), (4, dI), (16, .d (.ty (.sl ty2))), (17, dI), (18, dI), (24, dL), (25, dI), (26, dI)], [(1002, .box b0), (1003, .mp .i64 .i64)], []⟩ (nx (.n (.n .e .e) (.j ⟨[(1, .ref 1004 2), (3, .wrp (some 0, 1) [(1005, 0)]), (4, dI), (16, .d (.ty (.sl ty2))), (17, dI), (18, dI), (24, dL), (25, dI), (26, dI)], [(1004, .box b0), (1005, .mp .i64 .i64)], []⟩ (.u (nx (nx (nx .e)))) (.r .x))))))))) (.r .x))))))) (nx (nx (.j ⟨[(8, .own 1054)], [(1054, .arr (.cons (.int .i64) .nil))], []⟩ (nx (.u (.l ⟨[(1, .ref 1014 2), (3, .wrp (some 0, 1) [(1015, 0)]), (8, .own 1016), (9, .own 1017), (45, dI), (46, dI)], [(1014, .box b0), (1015, .mp .i64 .i64), (1016, .arr (.cons (.int .i64) .nil)), (1017, .arr (.cons .bool .nil))], []⟩ (nx (.n (.n .e .e) (.j ⟨[(1, .ref 1046 2), (3, .wrp (some 0, 1) [(1047, 0)]), (8, .own 1048), (9, .own 1049), (45, dI), (46, dI)], [(1046, .box b0), (1047, .mp .i64 .i64), (1048, .arr (.cons (.int .i64) .nil)), (1049, .arr (.cons .bool .nil))], []⟩ (.u (nx (.j ⟨[(1, .ref 1030 2), (3, .wrp (some 0, 1) [(1031, 0)]), (8, .own 1032), (9, .own 1033), (10, dI), (45, dI), (46, dI)], [(1030, .box b0), (1031, .mp .i64 .i64), (1032, .arr (.cons (.int .i64) .nil)), (1033, .arr (.cons .bool .nil))], []⟩ (nx (.u (.l ⟨[(1, .ref 1018 2), (3, .wrp (some 0, 1) [(1019, 0)]), (8, .own 1020), (9, .own 1021), (10, dI), (45, dI), (46, dI), (50, dI), (51, dI)], [(1018, .box b0), (1019, .mp .i64 .i64), (1020, .arr (.cons (.int .i64) .nil)), (1021, .arr (.cons .bool .nil))], []⟩ (nx (.n (.n .e .e) (.n (.u (nx (.j ⟨[(1, .ref 1022 2), (3, .wrp (some 0, 1) [(1023, 0)]), (8, .own 1024), (9, .own 1025), (10, dI), (11, dI), (45, dI), (46, dI), (50, dI), (51, dI), (64, dB)], [(1022, .box b0), (1023, .mp .i64 .i64), (1024, .arr (.cons (.int .i64) .nil)), (1025, .arr (.cons .bool .nil))], []⟩ (.r .x) (.n (nx .e) .e)))) (.r .x))))))) (.n (nx (.n .e .e)) (nx (nx (nx (.u (.l ⟨[(1, .ref 1034 2), (3, .wrp (some 0, 1) [(1035, 0)]), (8, .own 1036), (9, .own 1037), (10, dI), (45, dI), (46, dI), (81, dL), (82, dI), (83, dI)], [(1034, .box b0), (1035, .mp .i64 .i64), (1036, .arr (.cons (.int .i64) .nil)), (1037, .arr (.cons .bool .nil))], []⟩ (nx (.n (.n .e .e) (.j ⟨[(1, .ref 1038 2), (3, .wrp (some 0, 1) [(1039, 0)]), (8, .own 1040), (9, .own 1041), (10, dI), (45, dI), (46, dI), (81, dL), (82, dI), (83, dI)], [(1038, .box b0), (1039, .mp .i64 .i64), (1040, .arr (.cons (.int .i64) .nil)), (1041, .arr (.cons .bool .nil))], []⟩ (.u (nx (nx (nx .e)))) (.r .x))))))))))))) (.r .x))))))) (nx .e)))))))
noncomputable def sh49_K1 (z1 : List (Int × Unit) × Unit) : Option (List (Int × Unit) × Unit) :=
 some z1
noncomputable def sh49_K4 (rc3 : Int × Int × Ty4 × List (Int × Int) × List (Int × Unit) × List (Bool × Unit) × Unit → Option (List (Int × Unit) × Unit)) (z4 : Int × Int × Ty4 × List (Int × Int) × List (Int × Unit) × List (Bool × Unit) × Unit) : Option (List (Int × Unit) × Unit) :=
 rc3 (z4.1, IntKind.i64.wrap (z4.2.1 + 1), z4.2.2)
noncomputable def sh49_K8 (rc7 : Int × Int × Int × List (Int × Unit) × Int × Int × Ty4 × List (Int × Int) × List (Int × Unit) × List (Bool × Unit) × Unit → Option (List (Int × Unit) × Unit)) (z8 : Int × Int × Int × List (Int × Unit) × Int × Int × Ty4 × List (Int × Int) × List (Int × Unit) × List (Bool × Unit) × Unit) : Option (List (Int × Unit) × Unit) :=
 rc7 (z8.1, z8.2.1, z8.2.2.1, z8.2.2.2.1, z8.2.2.2.2.1, IntKind.i64.wrap (z8.2.2.2.2.2.1 + 1), z8.2.2.2.2.2.2)
noncomputable def sh49_L7 (j5 : Int × Int × Ty4 × List (Int × Int) × List (Int × Unit) × List (Bool × Unit) × Unit → Option (List (Int × Unit) × Unit)) (rc7 : Int × Int × Int × List (Int × Unit) × Int × Int × Ty4 × List (Int × Int) × List (Int × Unit) × List (Bool × Unit) × Unit → Option (List (Int × Unit) × Unit)) (z7 : Int × Int × Int × List (Int × Unit) × Int × Int × Ty4 × List (Int × Int) × List (Int × Unit) × List (Bool × Unit) × Unit) : Option (List (Int × Unit) × Unit) :=
 if decide (z7.2.2.2.2.2.1 < z7.2.2.2.2.1) = true then
 joinK (sh49_K8 rc7) fun j9 =>
 if inR z7.2.2.2.2.2.1 z7.2.2.2.1.length = true then
 if ((lAt (0, ()) z7.2.2.2.1 z7.2.2.2.2.2.1).1 != z7.1) = true then
 j9
 (z7.1, z7.2.1, z7.2.2.1, z7.2.2.2.1, z7.2.2.2.2.1, z7.2.2.2.2.2.1, z7.2.2.2.2.2.2.1,
 Abs.mSet z7.2.2.2.2.2.2.2.1 (lAt (0, ()) z7.2.2.2.1 z7.2.2.2.2.2.1).1
 (IntKind.i64.wrap (Abs.mGet z7.2.2.2.2.2.2.2.1 (lAt (0, ()) z7.2.2.2.1 z7.2.2.2.2.2.1).1 - 1)),
 z7.2.2.2.2.2.2.2.2)
 else j9 z7
 else none
 else j5 (z7.2.1, z7.2.2.1, z7.2.2.2.2.2.2)
noncomputable def sh49_K6 (fuel : Nat) (j2 : List (Int × Unit) × Unit → Option (List (Int × Unit) × Unit)) (j5 : Int × Int × Ty4 × List (Int × Int) × List (Int × Unit) × List (Bool × Unit) × Unit → Option (List (Int × Unit) × Unit)) (z6 : Int × Int × Int × Ty4 × List (Int × Int) × List (Int × Unit) × List (Bool × Unit) × Unit) : Option (List (Int × Unit) × Unit) :=
 if decide (z6.1 < 0) = true then j2 (z6.2.2.2.2.2.1, ())
 else
 if inR z6.1 z6.2.2.2.2.2.2.1.length = true then
 if decide (z6.1.toNat + 1 ≤ z6.2.2.2.2.2.2.1.length) = true then
 if decide (z6.2.2.2.2.2.1.length + 1 ≤ Abs.lim) = true then
 if decide ((z6.2.2.2.2.2.1.length + 1) * 8 ≤ Abs.lim) = true then
 if inR z6.1 z6.2.2.2.1.1.length = true then
 iter fuel (sh49_L7 j5)
 (z6.1, z6.2.1, z6.2.2.1, (lAt ([], 0, 0, 0, [], ()) z6.2.2.2.1.1 z6.1).2.2.2.2.1,
 (↑(List.length (lAt ([], 0, 0, 0, [], ()) z6.2.2.2.1.1 z6.1).2.2.2.2.1) : Int), 0, z6.2.2.2.1, z6.2.2.2.2.1,
 z6.2.2.2.2.2.1 ++ [(z6.1, ())], z6.2.2.2.2.2.2.1.set z6.1.toNat (true, ()), ())
 else none
 else none
 else none
 else none
 else none
noncomputable def sh49_K12 (j10 : Int × Int × Int × Ty4 × List (Int × Int) × List (Int × Unit) × List (Bool × Unit) × Unit → Option (List (Int × Unit) × Unit)) (rc11 : Int × Int × Int × Int × Int × Ty4 × List (Int × Int) × List (Int × Unit) × List (Bool × Unit) × Unit → Option (List (Int × Unit) × Unit)) (z12 : Int × Int × Int × Int × Int × Int × Bool × Ty4 × List (Int × Int) × List (Int × Unit) × List (Bool × Unit) × Unit) : Option (List (Int × Unit) × Unit) :=
 if z12.2.2.2.2.2.2.1 = true then j10 (z12.2.1, z12.2.2.1, z12.2.2.2.1, z12.2.2.2.2.2.2.2)
 else rc11 (z12.1, z12.2.2.1, z12.2.2.2.1, z12.2.2.2.2.1, IntKind.i64.wrap (z12.2.2.2.2.2.1 + 1), z12.2.2.2.2.2.2.2)
noncomputable def sh49_L11 (j10 : Int × Int × Int × Ty4 × List (Int × Int) × List (Int × Unit) × List (Bool × Unit) × Unit → Option (List (Int × Unit) × Unit)) (rc11 : Int × Int × Int × Int × Int × Ty4 × List (Int × Int) × List (Int × Unit) × List (Bool × Unit) × Unit → Option (List (Int × Unit) × Unit)) (z11 : Int × Int × Int × Int × Int × Ty4 × List (Int × Int) × List (Int × Unit) × List (Bool × Unit) × Unit) : Option (List (Int × Unit) × Unit) :=
 if decide (z11.2.2.2.2.1 < z11.2.2.2.1) = true then
 joinK (sh49_K12 j10 rc11) fun j13 =>
 if inR z11.2.2.2.2.1 z11.2.2.2.2.2.2.2.2.1.length = true then
 if decide (z11.2.2.2.2.1.toNat + 1 ≤ z11.2.2.2.2.2.2.2.2.1.length) = true then
 if (!(z11.2.2.2.2.2.2.2.2.1.getD z11.2.2.2.2.1.toNat (false, ())).1) = true then
 j13 (z11.1, z11.2.2.2.2.1, z11.2.1, z11.2.2.1, z11.2.2.2.1, z11.2.2.2.2.1, Abs.mGet z11.2.2.2.2.2.2.1 z11.2.2.2.2.1 == 0, z11.2.2.2.2.2)
 else j13 (z11.1, z11.2.2.2.2.1, z11.2.1, z11.2.2.1, z11.2.2.2.1, z11.2.2.2.2.1, false, z11.2.2.2.2.2)
 else none
 else none
 else j10 (z11.1, z11.2.1, z11.2.2.1, z11.2.2.2.2.2)
noncomputable def sh49_L3 (fuel : Nat) (j2 : List (Int × Unit) × Unit → Option (List (Int × Unit) × Unit)) (rc3 : Int × Int × Ty4 × List (Int × Int) × List (Int × Unit) × List (Bool × Unit) × Unit → Option (List (Int × Unit) × Unit)) (z3 : Int × Int × Ty4 × List (Int × Int) × List (Int × Unit) × List (Bool × Unit) × Unit) : Option (List (Int × Unit) × Unit) :=
 if decide (z3.2.1 < z3.1) = true then
 joinK (sh49_K4 rc3) fun j5 =>
 joinK (sh49_K6 fuel j2 j5) fun j10 => iter fuel (sh49_L11 j10) (-1, z3.1, z3.2.1, (↑z3.2.2.1.1.length : Int), 0, z3.2.2)
 else j2 (z3.2.2.2.2.1, ())
noncomputable def sh49_K0 (fuel : Nat) (z0 : Ty4 × List (Int × Int) × Unit) : Option (List (Int × Unit) × Unit) :=
 if decide (0 ≤ (↑z0.1.1.length : Int)) = true then
 if decide ((↑z0.1.1.length : Int) ≤ (↑z0.1.1.length : Int)) = true then
 if decide ((↑z0.1.1.length : Int) ≤ (↑Abs.lim : Int)) = true then
 if decide ((↑1 : Int) * (↑z0.1.1.length : Int) ≤ (↑Abs.lim : Int)) = true then
 joinK sh49_K1 fun j2 =>
 iter fuel (sh49_L3 fuel j2) ((↑z0.1.1.length : Int), 0, z0.1, z0.2.1, [], List.replicate (↑z0.1.1.length : Int).toNat (false, ()), ())
 else none
 else none
 else none
 else none
noncomputable def sh49_K16 (rc15 : List Ty2 × Int × Int × Ty4 × List (Int × Int) × Unit → Option (List (Int × Unit) × Unit)) (z16 : List Ty2 × Int × Int × Ty4 × List (Int × Int) × Unit) : Option (List (Int × Unit) × Unit) :=
 rc15 (z16.1, z16.2.1, IntKind.i64.wrap (z16.2.2.1 + 1), z16.2.2.2)
noncomputable def sh49_K19 (rc18 : Int × List Ty2 × Int × Int × List (Int × Unit) × Int × Int × Ty4 × List (Int × Int) × Unit → Option (List (Int × Unit) × Unit)) (z19 : Int × List Ty2 × Int × Int × List (Int × Unit) × Int × Int × Ty4 × List (Int × Int) × Unit) : Option (List (Int × Unit) × Unit) :=
 rc18 (z19.1, z19.2.1, z19.2.2.1, z19.2.2.2.1, z19.2.2.2.2.1, z19.2.2.2.2.2.1, IntKind.i64.wrap (z19.2.2.2.2.2.2.1 + 1), z19.2.2.2.2.2.2.2)
noncomputable def sh49_L18 (j17 : List Ty2 × Int × Int × Ty4 × List (Int × Int) × Unit → Option (List (Int × Unit) × Unit)) (rc18 : Int × List Ty2 × Int × Int × List (Int × Unit) × Int × Int × Ty4 × List (Int × Int) × Unit → Option (List (Int × Unit) × Unit)) (z18 : Int × List Ty2 × Int × Int × List (Int × Unit) × Int × Int × Ty4 × List (Int × Int) × Unit) : Option (List (Int × Unit) × Unit) :=
 if decide (z18.2.2.2.2.2.2.1 < z18.2.2.2.2.2.1) = true then
 joinK (sh49_K19 rc18) fun j20 =>
 if inR z18.2.2.2.2.2.2.1 z18.2.2.2.2.1.length = true then
 if ((lAt (0, ()) z18.2.2.2.2.1 z18.2.2.2.2.2.2.1).1 != z18.1) = true then
 j20
 (z18.1, z18.2.1, z18.2.2.1, z18.2.2.2.1, z18.2.2.2.2.1, z18.2.2.2.2.2.1, z18.2.2.2.2.2.2.1, z18.2.2.2.2.2.2.2.1,
 Abs.mSet z18.2.2.2.2.2.2.2.2.1 (lAt (0, ()) z18.2.2.2.2.1 z18.2.2.2.2.2.2.1).1
 (IntKind.i64.wrap (Abs.mGet z18.2.2.2.2.2.2.2.2.1 (lAt (0, ()) z18.2.2.2.2.1 z18.2.2.2.2.2.2.1).1 + 1)),
 ())
 else j20 z18
 else none
 else j17 (z18.2.1, z18.2.2.1, z18.2.2.2.1, z18.2.2.2.2.2.2.2)
noncomputable def sh49_L15 (fuel : Nat) (j14 : Ty4 × List (Int × Int) × Unit → Option (List (Int × Unit) × Unit)) (rc15 : List Ty2 × Int × Int × Ty4 × List (Int × Int) × Unit → Option (List (Int × Unit) × Unit)) (z15 : List Ty2 × Int × Int × Ty4 × List (Int × Int) × Unit) : Option (List (Int × Unit) × Unit) :=
 if decide (z15.2.2.1 < z15.2.1) = true then
 joinK (sh49_K16 rc15) fun j17 =>
 if inR z15.2.2.1 z15.1.length = true then
 iter fuel (sh49_L18 j17)
 (z15.2.2.1, z15.1, z15.2.1, z15.2.2.1, (lAt ([], 0, 0, 0, [], ()) z15.1 z15.2.2.1).2.2.2.2.1,
 (↑(List.length (lAt ([], 0, 0, 0, [], ()) z15.1 z15.2.2.1).2.2.2.2.1) : Int), 0, z15.2.2.2)
 else none
 else j14 z15.2.2.2
noncomputable def sh49 (fuel : Nat) (x0 : Ty4) : Option (List (Int × Unit) × Unit) :=
 joinK (sh49_K0 fuel) fun j14 => iter fuel (sh49_L15 fuel j14) (x0.1, (↑x0.1.length : Int), 0, x0, [], ())
noncomputable def sp49 (x : Ty4 × Unit) : Option (List (Int × Unit) × Unit) := sh49 100000 x.1
/-! 79 slices.Index[[]baggage/api.Device,baggage/api.Device] -/
def g79 : Sig := ⟨[.v (.ty (.sl ty1)), .v (.ag ty1)], .v (.ty (.int .i64))⟩
def h79 : HT := (nx (.j ⟨[], [], []⟩ (nx (.u (.l ⟨[(0, .d (.ty (.sl ty1))), (3, .ref 1000 3), (7, dI), (8, dI)], [(1000, .box b3)], []⟩ (nx (.n (.n .e .e) (.n (.u (nx (.n (.r .q) (.n (nx .e) .e)))) (.r .x))))))) (nx .e)))
noncomputable def sh79_K0 (z0 : Unit) : Option (Int × Unit) :=
 some (-1, ())
noncomputable def sh79_L2 (j1 : Unit → Option (Int × Unit)) (rc2 : List Ty1 × Int × Int × Ty1 × Unit → Option (Int × Unit)) (z2 : List Ty1 × Int × Int × Ty1 × Unit) : Option (Int × Unit) :=
 if decide (z2.2.2.1 < z2.2.1) = true then
 if inR z2.2.2.1 z2.1.length = true then
 if
 (z2.2.2.2.1.1 == (lAt (0, 0, 0, ()) z2.1 z2.2.2.1).1 &&
 (z2.2.2.2.1.2.1 == (lAt (0, 0, 0, ()) z2.1 z2.2.2.1).2.1 && (z2.2.2.2.1.2.2.1 == (lAt (0, 0, 0, ()) z2.1 z2.2.2.1).2.2.1 && true))) =
 true then
 some (z2.2.2.1, ())
 else rc2 (z2.1, z2.2.1, IntKind.i64.wrap (z2.2.2.1 + 1), z2.2.2.2)
 else none
 else j1 ()
noncomputable def sh79 (fuel : Nat) (x0 : List Ty1) (x1 : Ty1) : Option (Int × Unit) :=
 joinK sh79_K0 fun j1 => iter fuel (sh79_L2 j1) (x0, (↑x0.length : Int), 0, x1, ())
noncomputable def sp79 (x : (List Ty1) × Ty1 × Unit) : Option (Int × Unit) := sh79 100000 x.1 x.2.1
/-! 65 slices.Contains[[]baggage/api.Device,baggage/api.Device] -/
def g65 : Sig := ⟨[.v (.ty (.sl ty1)), .v (.ag ty1)], .v (.ty .bool)⟩
def h65 : HT := (nx (nx .e))
noncomputable def sh65 (fuel : Nat) (x0 : List Ty1) (x1 : Ty1) : Option (Bool × Unit) :=
 (sp79 (x0, x1, ())).bind fun r0 => some (decide (0 ≤ r0.1), ())
noncomputable def sp65 (x : (List Ty1) × Ty1 × Unit) : Option (Bool × Unit) := sh65 0 x.1 x.2.1
/-! 50 baggage/layout.devices -/
def g50 : Sig := ⟨[.v (.ag ty4)], .v (.ty (.int .i64))⟩
def h50 : HT := (nx (.j ⟨[(1, .ref 1005 2)], [(1005, .box b0)], []⟩ (nx (.u (.l ⟨[(1, .ref 1000 2), (8, .d (.ty (.sl ty1))), (9, dI), (10, dI)], [(1000, .box b0)], []⟩ (nx (.n (.n .e .e) (.n (.u (nx (.u (.j ⟨[(1, .ref 1001 2), (4, .ref 1002 3), (8, .d (.ty (.sl ty1))), (9, dI), (10, dI), (14, dB)], [(1001, .box b0), (1002, .box b3)], []⟩ (.r .x) (.n (nx .e) (.j ⟨[(1, .ref 1003 2), (8, .d (.ty (.sl ty1))), (9, dI), (10, dI), (23, dB)], [(1003, .box b0)], []⟩ (.r .q) (.n (nx .e) .e))))))) (.r .x))))))) (.j ⟨[], [], []⟩ (nx (.u (.l ⟨[(1, .ref 1006 2), (54, .d (.ty (.sl ty1))), (55, dI), (56, dI)], [(1006, .box b0)], []⟩ (nx (.n (.n .e .e) (.n (.u (nx (.n (.r .q) (.n (nx .e) .e)))) (.r .x))))))) (nx .e))))
noncomputable def sh50_K1 (z1 : Unit) : Option (Int × Unit) :=
 some (0, ())
noncomputable def sh50_L3 (j2 : Unit → Option (Int × Unit)) (rc3 : List Ty1 × Int × Int × Ty4 × Unit → Option (Int × Unit)) (z3 : List Ty1 × Int × Int × Ty4 × Unit) : Option (Int × Unit) :=
 if decide (z3.2.2.1 < z3.2.1) = true then
 if inR z3.2.2.1 z3.1.length = true then
 if inCut 0 z3.2.2.1 z3.2.2.2.1.2.1.length = true then
 (sp65 (cutL z3.2.2.2.1.2.1 0 z3.2.2.1, lAt (0, 0, 0, ()) z3.1 z3.2.2.1, ())).bind fun r4 =>
 if r4.1 = true then some (5, ()) else rc3 (z3.1, z3.2.1, IntKind.i64.wrap (z3.2.2.1 + 1), z3.2.2.2)
 else none
 else none
 else j2 ()
noncomputable def sh50_K0 (fuel : Nat) (z0 : Ty4 × Unit) : Option (Int × Unit) :=
 joinK sh50_K1 fun j2 => iter fuel (sh50_L3 j2) (z0.1.2.1, (↑z0.1.2.1.length : Int), 0, z0)
noncomputable def sh50_K8 (rc6 : List Ty1 × Int × Int × Ty4 × Unit → Option (Int × Unit)) (z8 : List Ty1 × Int × Int × Bool × Ty4 × Unit) : Option (Int × Unit) :=
 if z8.2.2.2.1 = true then some (1, ()) else rc6 (z8.1, z8.2.1, IntKind.i64.wrap (z8.2.2.1 + 1), z8.2.2.2.2)
noncomputable def sh50_K7 (rc6 : List Ty1 × Int × Int × Ty4 × Unit → Option (Int × Unit)) (z7 : List Ty1 × Int × Int × Bool × Ty4 × Ty1 × Unit) : Option (Int × Unit) :=
 if z7.2.2.2.1 = true then some (4, ())
 else
 joinK (sh50_K8 rc6) fun j9 =>
 if decide (z7.2.2.2.2.2.1.2.1 < 0) = true then j9 (z7.1, z7.2.1, z7.2.2.1, true, z7.2.2.2.2.1, ())
 else
 if decide ((↑z7.2.2.2.2.1.1.length : Int) ≤ z7.2.2.2.2.2.1.2.1) = true then j9 (z7.1, z7.2.1, z7.2.2.1, true, z7.2.2.2.2.1, ())
 else
 if decide (z7.2.2.2.2.2.1.2.2.1 < 0) = true then j9 (z7.1, z7.2.1, z7.2.2.1, true, z7.2.2.2.2.1, ())
 else
 if inR z7.2.2.2.2.2.1.2.1 z7.2.2.2.2.1.1.length = true then
 j9
 (z7.1, z7.2.1, z7.2.2.1, decide ((lAt ([], 0, 0, 0, [], ()) z7.2.2.2.2.1.1 z7.2.2.2.2.2.1.2.1).2.2.1 ≤ z7.2.2.2.2.2.1.2.2.1),
 z7.2.2.2.2.1, ())
 else none
noncomputable def sh50_L6 (j5 : Ty4 × Unit → Option (Int × Unit)) (rc6 : List Ty1 × Int × Int × Ty4 × Unit → Option (Int × Unit)) (z6 : List Ty1 × Int × Int × Ty4 × Unit) : Option (Int × Unit) :=
 if decide (z6.2.2.1 < z6.2.1) = true then
 if inR z6.2.2.1 z6.1.length = true then
 joinK (sh50_K7 rc6) fun j10 =>
 if ((lAt (0, 0, 0, ()) z6.1 z6.2.2.1).1 != 1) = true then
 j10 (z6.1, z6.2.1, z6.2.2.1, (lAt (0, 0, 0, ()) z6.1 z6.2.2.1).1 != 2, z6.2.2.2.1, lAt (0, 0, 0, ()) z6.1 z6.2.2.1, ())
 else j10 (z6.1, z6.2.1, z6.2.2.1, false, z6.2.2.2.1, lAt (0, 0, 0, ()) z6.1 z6.2.2.1, ())
 else none
 else j5 z6.2.2.2
noncomputable def sh50 (fuel : Nat) (x0 : Ty4) : Option (Int × Unit) :=
 joinK (sh50_K0 fuel) fun j5 => iter fuel (sh50_L6 j5) (x0.2.1, (↑x0.2.1.length : Int), 0, x0, ())
noncomputable def sp50 (x : Ty4 × Unit) : Option (Int × Unit) := sh50 100000 x.1
noncomputable def c51 : Code := bd Tryd.f51
noncomputable def c52 : Code := bd Tryd.f52
/-! 32 baggage/layout.Validate -/
noncomputable def c32 : Code := bd Tryd.f32
def g32 : Sig := ⟨[.v (.ag ty4)], .v (.ty (.int .i64))⟩
def h32 : HT := (nx (.n (.j ⟨[(1, .ref 1000 2), (16, dB)], [(1000, .box b0)], []⟩ (.r .x) (.n (nx .e) .e)) (.j ⟨[(1, .ref 1003 2)], [(1003, .box b0)], []⟩ (nx (.u (.l ⟨[(1, .ref 1001 2), (19, dI), (20, dI)], [(1001, .box b0)], []⟩ (nx (.n (.n .e .e) (.n (.u (nx (nx (nx (.n (nx .e) .e))))) (.r .x))))))) (.n (.u (nx (.n (nx .e) (nx (.n (nx .e) .e))))) (.j ⟨[(1, .ref 1006 2)], [(1006, .box b0)], []⟩ (nx (.u (.l ⟨[(1, .ref 1004 2), (40, dI), (41, dI)], [(1004, .box b0)], []⟩ (nx (.n (.n .e .e) (.n (.u (nx (nx (.n (nx .e) .e)))) (.r .x))))))) (.n (.n (.r (.w 6 [(0, 0), (0, 3), (0, 4), (0, 5), (2, 1), (0, 2)])) (.n (nx .e) .e)) (.n (nx (nx (.n (nx .e) .e))) (.n (.n (.ri .x [(63, 0, (nx (.j ⟨[(69, dB)], [], []⟩ (.ri .x [(72, 0, (nx (.j ⟨[], [], []⟩ (nx (.u (.l ⟨[(74, .d (.ty (.sl ty2))), (75, .cst (.fn 52)), (81, dI), (82, dI)], [], []⟩ (nx (.n (.n .e .e) (.n (.u (nx (.n (.ri .x [(90, 0, (nx (nx .e)))]) (.n (nx .e) .e)))) (.r .x))))))) (nx .e))))]) .e)))]) (.n (nx .e) .e)) (nx .e)))))))))
noncomputable def FT32 : List (Nat × Entry) := [(45, ⟨g45, sp45⟩), (46, ⟨g46, sp46⟩), (47, ⟨g47, sp47⟩), (48, ⟨g48, sp48⟩), (49, ⟨g49, sp49⟩), (50, ⟨g50, sp50⟩)]
noncomputable def IT32 : List (Nat × Inl) := [(51, ⟨9, [.tmp 4], c51⟩), (66, ⟨19, [.tmp 4], c66⟩), (52, ⟨6, [.tmp 2], c52⟩)]
def MT32 : MTab := []
noncomputable def sh32_K7 (z7 : Bool × Unit) : Option (Int × Unit) :=
 if (!z7.1) = true then some (6, ()) else some (0, ())
noncomputable def sh32_K9 (j8 : Bool × Unit → Option (Int × Unit)) (z9 : Unit) : Option (Int × Unit) :=
 j8 (decide (0 ≤ -1), ())
noncomputable def sh32_L11 (j8 : Bool × Unit → Option (Int × Unit)) (j10 : Unit → Option (Int × Unit)) (rc11 : List Ty2 × Int × Int × Unit → Option (Int × Unit)) (z11 : List Ty2 × Int × Int × Unit) : Option (Int × Unit) :=
 if decide (z11.2.2.1 < z11.2.1) = true then
 if inR z11.2.2.1 z11.1.length = true then
 if ((lAt ([], 0, 0, 0, [], ()) z11.1 z11.2.2.1).2.1 == 1) = true then j8 (decide (0 ≤ z11.2.2.1), ())
 else rc11 (z11.1, z11.2.1, IntKind.i64.wrap (z11.2.2.1 + 1), ())
 else none
 else j10 ()
noncomputable def sh32_K4 (fuel : Nat) (z4 : Ty4 × Unit) : Option (Int × Unit) :=
 (sp49 z4).bind fun r5 =>
 if decide ((↑r5.1.length : Int) < (↑z4.1.1.length : Int)) = true then some (9, ())
 else
 (sp50 z4).bind fun r6 =>
 if (r6.1 != 0) = true then some r6
 else joinK sh32_K7 fun j8 => joinK (sh32_K9 j8) fun j10 => iter fuel (sh32_L11 j8 j10) (z4.1.1, (↑z4.1.1.length : Int), 0, ())
noncomputable def sh32_L13 (j12 : Ty4 × Unit → Option (Int × Unit)) (rc13 : Int × Int × Ty4 × Unit → Option (Int × Unit)) (z13 : Int × Int × Ty4 × Unit) : Option (Int × Unit) :=
 if decide (z13.2.1 < z13.1) = true then
 (sp48 (z13.2.2.1, z13.2.1, ())).bind fun r14 => if (!r14.1) = true then some (7, ()) else rc13 (z13.1, IntKind.i64.wrap (z13.2.1 + 1), z13.2.2)
 else j12 z13.2.2
noncomputable def sh32_K1 (fuel : Nat) (z1 : Ty4 × Unit) : Option (Int × Unit) :=
 (sp46 z1).bind fun r2 =>
 if decide (80 < r2.1) = true then some (2, ())
 else
 (sp47 z1).bind fun r3 =>
 if (!r3.1) = true then some (5, ()) else joinK (sh32_K4 fuel) fun j12 => iter fuel (sh32_L13 j12) ((↑z1.1.1.length : Int), 0, z1)
noncomputable def sh32_L16 (j15 : Ty4 × Unit → Option (Int × Unit)) (rc16 : Int × Int × Ty4 × Unit → Option (Int × Unit)) (z16 : Int × Int × Ty4 × Unit) : Option (Int × Unit) :=
 if decide (z16.2.1 < z16.1) = true then
 (sp45 (z16.2.2.1, z16.2.1, ())).bind fun r17 => if (r17.1 != 0) = true then some r17 else rc16 (z16.1, IntKind.i64.wrap (z16.2.1 + 1), z16.2.2)
 else j15 z16.2.2
noncomputable def sh32_K0 (fuel : Nat) (z0 : Bool × Ty4 × Unit) : Option (Int × Unit) :=
 if z0.1 = true then some (2, ()) else joinK (sh32_K1 fuel) fun j15 => iter fuel (sh32_L16 j15) ((↑z0.2.1.1.length : Int), 0, z0.2)
noncomputable def sh32 (fuel : Nat) (x0 : Ty4) : Option (Int × Unit) :=
 joinK (sh32_K0 fuel) fun j18 =>
 if decide (24 < (↑x0.1.length : Int)) = true then j18 (true, x0, ()) else j18 (decide (24 < (↑x0.2.1.length : Int)), x0, ())
noncomputable def sp32 (x : Ty4 × Unit) : Option (Int × Unit) := sh32 100000 x.1
/-! 27 baggage/route.asked -/
def g27 : Sig := ⟨[.v (.ag ty4), .v (.ty (.int .i64)), .v (.ty (.int .i64))], .v (.ty .bool)⟩
def h27 : HT := (nx (.j ⟨[(6, dB)], [], []⟩ (.r .x) .e))
noncomputable def sh27_K0 (z0 : Bool × Unit) : Option (Bool × Unit) :=
 some z0
noncomputable def sh27 (fuel : Nat) (x0 : Ty4) (x1 : Int) (x2 : Int) : Option (Bool × Unit) :=
 joinK sh27_K0 fun j1 =>
 if decide (0 ≤ x1) = true then
 if decide (x1 < (↑x0.1.length : Int)) = true then
 (sp33 (x0, x2, ())).bind fun r2 => if r2.1 = true then (sp32 (x0, ())).bind fun r3 => j1 (r3.1 == 0, ()) else j1 (false, ())
 else j1 (false, ())
 else j1 (false, ())
noncomputable def sp27 (x : Ty4 × (Int) × (Int) × Unit) : Option (Bool × Unit) := sh27 0 x.1 x.2.1 x.2.2.1
/-! 31 baggage/route.goes -/
def g31 : Sig := ⟨[.v (.ag ty4), .v (.ty (.int .i64)), .v (.ty (.int .i64)), .v (.ty (.int .i64))], .v (.ty .bool)⟩
def h31 : HT := (nx (.j ⟨[(8, dB)], [], []⟩ (.r .x) .e))
noncomputable def sh31_K0 (z0 : Bool × Unit) : Option (Bool × Unit) :=
 some z0
noncomputable def sh31 (fuel : Nat) (x0 : Ty4) (x1 : Int) (x2 : Int) (x3 : Int) : Option (Bool × Unit) :=
 joinK sh31_K0 fun j1 =>
 if (x2 != x1) = true then
 if (x2 == x3) = true then j1 (true, ())
 else if inR x2 x0.1.length = true then (sp44 ((lAt ([], 0, 0, 0, [], ()) x0.1 x2).2.1, ())).bind fun r2 => j1 r2 else none
 else j1 (false, ())
noncomputable def sp31 (x : Ty4 × (Int) × (Int) × (Int) × Unit) : Option (Bool × Unit) := sh31 0 x.1 x.2.1 x.2.2.1 x.2.2.2.1
/-! 35 baggage/baggageref07.split -/
def g35 : Sig := ⟨[.v (.ty .str), .v (.ty (.int .u8))], .v (.ty (.sl (.cons .str .nil)))⟩
def h35 : HT := (nx (nx (nx (.j ⟨[(5, .own 1003), (6, dS)], [(1003, .arr (.cons .str .nil))], []⟩ (nx (.u (.l ⟨[(0, dS), (1, .d (.ty (.int .u8))), (5, .own 1000), (6, dS), (7, dI)], [(1000, .arr (.cons .str .nil))], []⟩ (.n (nx (.n .e .e)) (.j ⟨[(0, dS), (1, .d (.ty (.int .u8))), (5, .own 1001), (6, dS), (7, dI)], [(1001, .arr (.cons .str .nil))], []⟩ (.u (.n (nx (.n (nx (nx .e)) .e)) (.r .x))) (.r .x)))))) (nx .e)))))
noncomputable def sh35_K0 (z0 : List UInt8 × List Tz1 × Unit) : Option (List Tz1 × Unit) :=
 if decide (z0.2.1.length + 1 ≤ Abs.lim) = true then
 if decide ((z0.2.1.length + 1) * 16 ≤ Abs.lim) = true then some (z0.2.1 ++ [(z0.1, ())], ()) else none
 else none
noncomputable def sh35_K3 (rc2 : List UInt8 × Int × List UInt8 × Int × List Tz1 × Unit → Option (List Tz1 × Unit)) (z3 : List UInt8 × Int × List UInt8 × Int × List Tz1 × Unit) : Option (List Tz1 × Unit) :=
 rc2 (z3.1, z3.2.1, z3.2.2.1, IntKind.i64.wrap (z3.2.2.2.1 + 1), z3.2.2.2.2)
noncomputable def sh35_L2 (j1 : List UInt8 × List Tz1 × Unit → Option (List Tz1 × Unit)) (rc2 : List UInt8 × Int × List UInt8 × Int × List Tz1 × Unit → Option (List Tz1 × Unit)) (z2 : List UInt8 × Int × List UInt8 × Int × List Tz1 × Unit) : Option (List Tz1 × Unit) :=
 if decide (z2.2.2.2.1 < (↑z2.1.length : Int)) = true then
 joinK (sh35_K3 rc2) fun j4 =>
 if inR z2.2.2.2.1 z2.1.length = true then
 if (sAt z2.1 z2.2.2.2.1 == z2.2.1) = true then
 if decide (z2.2.2.2.2.1.length + 1 ≤ Abs.lim) = true then
 if decide ((z2.2.2.2.2.1.length + 1) * 16 ≤ Abs.lim) = true then
 j4 (z2.1, z2.2.1, [], z2.2.2.2.1, z2.2.2.2.2.1 ++ [(z2.2.2.1, ())], ())
 else none
 else none
 else
 if inCut z2.2.2.2.1 (IntKind.i64.wrap (z2.2.2.2.1 + 1)) z2.1.length = true then
 if decide (z2.2.2.1.length + (cutL z2.1 z2.2.2.2.1 (IntKind.i64.wrap (z2.2.2.2.1 + 1))).length ≤ Abs.lim) = true then
 j4 (z2.1, z2.2.1, z2.2.2.1 ++ cutL z2.1 z2.2.2.2.1 (IntKind.i64.wrap (z2.2.2.2.1 + 1)), z2.2.2.2)
 else none
 else none
 else none
 else j1 (z2.2.2.1, z2.2.2.2.2)
noncomputable def sh35 (fuel : Nat) (x0 : List UInt8) (x1 : Int) : Option (List Tz1 × Unit) :=
 joinK sh35_K0 fun j1 => iter fuel (sh35_L2 j1) (x0, x1, [], 0, [], ())
noncomputable def sp35 (x : (List UInt8) × (Int) × Unit) : Option (List Tz1 × Unit) := sh35 100000 x.1 x.2.1
/-! 67 baggage/baggageref01.All -/
def g67 : Sig := ⟨[.v (.ty .str)], .v (.ty .bool)⟩
def h67 : HT := (nx (.j ⟨[], [], []⟩ (nx (.u (.l ⟨[(0, dS), (3, dI)], [], []⟩ (.n (nx (.n .e .e)) (.n (.u (.j ⟨[(0, dS), (3, dI), (19, dB)], [], []⟩ (.r .x) (.n (nx .e) .e))) (.r .x)))))) (nx .e)))
noncomputable def sh67_K0 (z0 : Unit) : Option (Bool × Unit) :=
 some (true, ())
noncomputable def sh67_K3 (rc2 : List UInt8 × Int × Unit → Option (Bool × Unit)) (z3 : List UInt8 × Int × Bool × Unit) : Option (Bool × Unit) :=
 if z3.2.2.1 = true then some (false, ()) else rc2 (z3.1, IntKind.i64.wrap (z3.2.1 + 1), ())
noncomputable def sh67_L2 (j1 : Unit → Option (Bool × Unit)) (rc2 : List UInt8 × Int × Unit → Option (Bool × Unit)) (z2 : List UInt8 × Int × Unit) : Option (Bool × Unit) :=
 if decide (z2.2.1 < (↑z2.1.length : Int)) = true then
 joinK (sh67_K3 rc2) fun j4 =>
 if inR z2.2.1 z2.1.length = true then
 if decide (sAt z2.1 z2.2.1 < 48) = true then j4 (z2.1, z2.2.1, true, ())
 else if inR z2.2.1 z2.1.length = true then j4 (z2.1, z2.2.1, decide (57 < sAt z2.1 z2.2.1), ()) else none
 else none
 else j1 ()
noncomputable def sh67 (fuel : Nat) (x0 : List UInt8) : Option (Bool × Unit) :=
 joinK sh67_K0 fun j1 => iter fuel (sh67_L2 j1) (x0, 0, ())
noncomputable def sp67 (x : (List UInt8) × Unit) : Option (Bool × Unit) := sh67 100000 x.1
/-! 68 baggage/baggageref01.Value -/
def g68 : Sig := ⟨[.v (.ty .str)], .v (.ty (.int .i64))⟩
def h68 : HT := (nx (nx (.j ⟨[(3, dI)], [], []⟩ (nx (.u (.l ⟨[(0, dS), (3, dI), (4, dI)], [], []⟩ (.n (nx (.n .e .e)) (.n (.u (.r .x)) (.r .x)))))) (nx .e))))
noncomputable def sh68_K0 (z0 : Int × Unit) : Option (Int × Unit) :=
 some z0
noncomputable def sh68_L2 (j1 : Int × Unit → Option (Int × Unit)) (rc2 : List UInt8 × Int × Int × Unit → Option (Int × Unit)) (z2 : List UInt8 × Int × Int × Unit) : Option (Int × Unit) :=
 if decide (z2.2.2.1 < (↑z2.1.length : Int)) = true then
 if inR z2.2.2.1 z2.1.length = true then
 rc2
 (z2.1, IntKind.i64.wrap (IntKind.i64.wrap (z2.2.1 * 10) + IntKind.i64.wrap (IntKind.u8.wrap (sAt z2.1 z2.2.2.1 - 48))),
 IntKind.i64.wrap (z2.2.2.1 + 1), ())
 else none
 else j1 (z2.2.1, ())
noncomputable def sh68 (fuel : Nat) (x0 : List UInt8) : Option (Int × Unit) :=
 joinK sh68_K0 fun j1 => iter fuel (sh68_L2 j1) (x0, 0, 0, ())
noncomputable def sp68 (x : (List UInt8) × Unit) : Option (Int × Unit) := sh68 100000 x.1
/-! 53 baggage/baggageref07.number -/
def g53 : Sig := ⟨[.v (.ty .str)], .tup [(.ty (.int .i64)), (.ty .bool)]⟩
def h53 : HT := (nx (.n (.j ⟨[(0, dS), (26, dB)], [], []⟩ (.r .x) (.n (nx .e) .e)) (nx .e)))
noncomputable def sh53_K0 (z0 : List UInt8 × Bool × Unit) : Option ((Int × Bool × Unit) × Unit) :=
 if z0.2.1 = true then some ((0, false, ()), ()) else (sp68 (z0.1, ())).bind fun r1 => some ((r1.1, true, ()), ())
noncomputable def sh53 (fuel : Nat) (x0 : List UInt8) : Option ((Int × Bool × Unit) × Unit) :=
 joinK sh53_K0 fun j2 =>
 if decide ((↑x0.length : Int) < 1) = true then j2 (x0, true, ())
 else
 if decide (3 < (↑x0.length : Int)) = true then j2 (x0, true, ())
 else
 (sp67 (x0, ())).bind fun r3 =>
 if (!r3.1) = true then j2 (x0, true, ())
 else
 if decide (1 < (↑x0.length : Int)) = true then if inR 0 x0.length = true then j2 (x0, sAt x0 0 == 48, ()) else none else j2 (x0, false, ())
noncomputable def sp53 (x : (List UInt8) × Unit) : Option ((Int × Bool × Unit) × Unit) := sh53 0 x.1
/-! 69 baggage/baggageref02.Letter -/
def g69 : Sig := ⟨[.v (.ty (.int .u8))], .v (.ty .bool)⟩
def h69 : HT := (nx (.j ⟨[(2, dB)], [], []⟩ (.r .x) .e))
noncomputable def sh69_K0 (z0 : Bool × Unit) : Option (Bool × Unit) :=
 some z0
noncomputable def sh69 (fuel : Nat) (x0 : Int) : Option (Bool × Unit) :=
 joinK sh69_K0 fun j1 => if decide (65 ≤ x0) = true then j1 (decide (x0 ≤ 90), ()) else j1 (false, ())
noncomputable def sp69 (x : (Int) × Unit) : Option (Bool × Unit) := sh69 0 x.1
/-! 70 baggage/baggageref02.Digit -/
def g70 : Sig := ⟨[.v (.ty (.int .u8))], .v (.ty .bool)⟩
def h70 : HT := (nx (.j ⟨[(2, dB)], [], []⟩ (.r .x) .e))
noncomputable def sh70_K0 (z0 : Bool × Unit) : Option (Bool × Unit) :=
 some z0
noncomputable def sh70 (fuel : Nat) (x0 : Int) : Option (Bool × Unit) :=
 joinK sh70_K0 fun j1 => if decide (48 ≤ x0) = true then j1 (decide (x0 ≤ 57), ()) else j1 (false, ())
noncomputable def sp70 (x : (Int) × Unit) : Option (Bool × Unit) := sh70 0 x.1
/-! 54 baggage/baggageref04.Name -/
def g54 : Sig := ⟨[.v (.ty .str)], .v (.ty .bool)⟩
def h54 : HT := (nx (.n (.j ⟨[(0, dS), (17, dB)], [], []⟩ (.r .x) (.n (nx .e) .e)) (.j ⟨[], [], []⟩ (nx (.u (.l ⟨[(0, dS), (3, dI)], [], []⟩ (.n (nx (.n .e .e)) (.n (.u (.j ⟨[(0, dS), (3, dI), (35, dB)], [], []⟩ (.r .x) (.n (nx .e) .e))) (.r .x)))))) (nx .e))))
noncomputable def sh54_K1 (z1 : Unit) : Option (Bool × Unit) :=
 some (true, ())
noncomputable def sh54_K4 (rc3 : List UInt8 × Int × Unit → Option (Bool × Unit)) (z4 : List UInt8 × Int × Bool × Unit) : Option (Bool × Unit) :=
 if z4.2.2.1 = true then some (false, ()) else rc3 (z4.1, IntKind.i64.wrap (z4.2.1 + 1), ())
noncomputable def sh54_L3 (j2 : Unit → Option (Bool × Unit)) (rc3 : List UInt8 × Int × Unit → Option (Bool × Unit)) (z3 : List UInt8 × Int × Unit) : Option (Bool × Unit) :=
 if decide (z3.2.1 < (↑z3.1.length : Int)) = true then
 joinK (sh54_K4 rc3) fun j5 =>
 if inR z3.2.1 z3.1.length = true then
 (sp69 (sAt z3.1 z3.2.1, ())).bind fun r6 =>
 if (!r6.1) = true then
 if inR z3.2.1 z3.1.length = true then (sp70 (sAt z3.1 z3.2.1, ())).bind fun r7 => j5 (z3.1, z3.2.1, !r7.1, ()) else none
 else j5 (z3.1, z3.2.1, false, ())
 else none
 else j2 ()
noncomputable def sh54_K0 (fuel : Nat) (z0 : List UInt8 × Bool × Unit) : Option (Bool × Unit) :=
 if z0.2.1 = true then some (false, ()) else joinK sh54_K1 fun j2 => iter fuel (sh54_L3 j2) (z0.1, 0, ())
noncomputable def sh54 (fuel : Nat) (x0 : List UInt8) : Option (Bool × Unit) :=
 joinK (sh54_K0 fuel) fun j8 =>
 if decide ((↑x0.length : Int) < 1) = true then j8 (x0, true, ())
 else
 if decide (12 < (↑x0.length : Int)) = true then j8 (x0, true, ())
 else if inR 0 x0.length = true then (sp69 (sAt x0 0, ())).bind fun r9 => j8 (x0, !r9.1, ()) else none
noncomputable def sp54 (x : (List UInt8) × Unit) : Option (Bool × Unit) := sh54 100000 x.1
/-! 55 baggage/baggageref07.Exits -/
def g55 : Sig := ⟨[.v (.ty (.int .i64))], .v (.ty (.int .i64))⟩
def h55 : HT := (nx (.n (nx (.u (.j ⟨[(3, dI), (4, dB)], [], []⟩ (nx (.n .e (nx (.n .e (.r .x))))) (.n (nx .e) (.j ⟨[(8, dB)], [], []⟩ (nx (.n .e (.r .x))) (.n (nx .e) .e)))))) (nx .e)))
noncomputable def sh55_K1 (z1 : Bool × Unit) : Option (Int × Unit) :=
 if z1.1 = true then some (0, ()) else some (1, ())
noncomputable def sh55_K0 (z0 : Int × Bool × Unit) : Option (Int × Unit) :=
 if z0.2.1 = true then some (2, ()) else joinK sh55_K1 fun j2 => if (z0.1 == 8) = true then j2 (z0.1 == 8, ()) else j2 (z0.1 == 9, ())
noncomputable def sh55 (fuel : Nat) (x0 : Int) : Option (Int × Unit) :=
 joinK sh55_K0 fun j3 => if (x0 == 4) = true then j3 (x0, x0 == 4, ()) else if (x0 == 5) = true then j3 (x0, x0 == 5, ()) else j3 (x0, x0 == 6, ())
noncomputable def sp55 (x : (Int) × Unit) : Option (Int × Unit) := sh55 0 x.1
/-! 20 baggage/baggageref07.Strip -/
def g20 : Sig := ⟨[.v (.ty (.int .i64))], .v (.ty .bool)⟩
def h20 : HT := (nx (.j ⟨[(2, dB)], [], []⟩ (.r .x) .e))
noncomputable def sh20_K0 (z0 : Bool × Unit) : Option (Bool × Unit) :=
 some z0
noncomputable def sh20 (fuel : Nat) (x0 : Int) : Option (Bool × Unit) :=
 joinK sh20_K0 fun j1 => if decide (1 ≤ x0) = true then j1 (decide (x0 ≤ 6), ()) else j1 (false, ())
noncomputable def sp20 (x : (Int) × Unit) : Option (Bool × Unit) := sh20 0 x.1
/-! 36 baggage/baggageref07.read -/
def g36 : Sig := ⟨[.v (.ty .str)], .tup [(.ag ty3), (.ty .bool)]⟩
def h36 : HT := (nx (nx (nx (.j ⟨[(2, .ref 1024 9), (4, .d (.ty (.sl (.cons .str .nil)))), (5, .ref 1025 9)], [(1024, .box [.d .str, .d (.int .i64), .d (.int .i64), .d (.int .i64), .own 1026, .d (.int .i64), .d (.int .i64), .d (.int .i64), .own 1027]), (1025, .box [.d .str, .d (.int .i64), .d (.int .i64), .d (.int .i64), .own 1028, .d (.int .i64), .d (.int .i64), .d (.int .i64), .own 1029]), (1026, .arr (.cons (.int .i64) .nil)), (1027, .arr (.cons .str .nil)), (1028, .arr (.cons (.int .i64) .nil)), (1029, .arr (.cons .str .nil))], []⟩ (nx (.u (.l ⟨[(2, .ref 1000 9), (4, .d (.ty (.sl (.cons .str .nil)))), (5, .ref 1001 9), (6, dI)], [(1000, .box [.d .str, .d (.int .i64), .d (.int .i64), .d (.int .i64), .own 1002, .d (.int .i64), .d (.int .i64), .d (.int .i64), .own 1003]), (1001, .box [.d .str, .d (.int .i64), .d (.int .i64), .d (.int .i64), .own 1004, .d (.int .i64), .d (.int .i64), .d (.int .i64), .own 1005]), (1002, .arr (.cons (.int .i64) .nil)), (1003, .arr (.cons .str .nil)), (1004, .arr (.cons (.int .i64) .nil)), (1005, .arr (.cons .str .nil))], []⟩ (.n (.j ⟨[(2, .ref 1006 9), (4, .d (.ty (.sl (.cons .str .nil)))), (5, .ref 1007 9), (6, dI), (25, dB)], [(1006, .box [.d .str, .d (.int .i64), .d (.int .i64), .d (.int .i64), .own 1008, .d (.int .i64), .d (.int .i64), .d (.int .i64), .own 1009]), (1007, .box [.d .str, .d (.int .i64), .d (.int .i64), .d (.int .i64), .own 1010, .d (.int .i64), .d (.int .i64), .d (.int .i64), .own 1011]), (1008, .arr (.cons (.int .i64) .nil)), (1009, .arr (.cons .str .nil)), (1010, .arr (.cons (.int .i64) .nil)), (1011, .arr (.cons .str .nil))], []⟩ (.r .x) (.n .e .e)) (.n (.u (nx (.j ⟨[(2, .ref 1012 9), (4, .d (.ty (.sl (.cons .str .nil)))), (5, .ref 1013 9), (6, dI), (7, dI), (51, dB)], [(1012, .box [.d .str, .d (.int .i64), .d (.int .i64), .d (.int .i64), .own 1014, .d (.int .i64), .d (.int .i64), .d (.int .i64), .own 1015]), (1013, .box [.d .str, .d (.int .i64), .d (.int .i64), .d (.int .i64), .own 1016, .d (.int .i64), .d (.int .i64), .d (.int .i64), .own 1017]), (1014, .arr (.cons (.int .i64) .nil)), (1015, .arr (.cons .str .nil)), (1016, .arr (.cons (.int .i64) .nil)), (1017, .arr (.cons .str .nil))], []⟩ (.r (.w 7 [(1, 0), (0, 1), (0, 2), (1, 4), (3, 3), (0, 5), (0, 6)])) (.n (.n (.r (.w 7 [(1, 0), (1, 1), (0, 2), (1, 3), (1, 4), (0, 5), (2, 6)])) (nx .e)) .e)))) (.r .x)))))) (.j ⟨[(2, .ref 1048 9), (4, .d (.ty (.sl (.cons .str .nil)))), (5, .ref 1049 9)], [(1048, .box [.d .str, .d (.int .i64), .d (.int .i64), .d (.int .i64), .own 1050, .d (.int .i64), .d (.int .i64), .d (.int .i64), .own 1051]), (1049, .box [.d .str, .d (.int .i64), .d (.int .i64), .d (.int .i64), .own 1052, .d (.int .i64), .d (.int .i64), .d (.int .i64), .own 1053]), (1050, .arr (.cons (.int .i64) .nil)), (1051, .arr (.cons .str .nil)), (1052, .arr (.cons (.int .i64) .nil)), (1053, .arr (.cons .str .nil))], []⟩ (nx (.u (.l ⟨[(2, .ref 1030 9), (4, .d (.ty (.sl (.cons .str .nil)))), (5, .ref 1031 9), (9, dI)], [(1030, .box [.d .str, .d (.int .i64), .d (.int .i64), .d (.int .i64), .own 1032, .d (.int .i64), .d (.int .i64), .d (.int .i64), .own 1033]), (1031, .box [.d .str, .d (.int .i64), .d (.int .i64), .d (.int .i64), .own 1034, .d (.int .i64), .d (.int .i64), .d (.int .i64), .own 1035]), (1032, .arr (.cons (.int .i64) .nil)), (1033, .arr (.cons .str .nil)), (1034, .arr (.cons (.int .i64) .nil)), (1035, .arr (.cons .str .nil))], []⟩ (.n (nx (.n .e .e)) (.j ⟨[(2, .ref 1036 9), (4, .d (.ty (.sl (.cons .str .nil)))), (5, .ref 1037 9), (9, dI)], [(1036, .box [.d .str, .d (.int .i64), .d (.int .i64), .d (.int .i64), .own 1038, .d (.int .i64), .d (.int .i64), .d (.int .i64), .own 1039]), (1037, .box [.d .str, .d (.int .i64), .d (.int .i64), .d (.int .i64), .own 1040, .d (.int .i64), .d (.int .i64), .d (.int .i64), .own 1041]), (1038, .arr (.cons (.int .i64) .nil)), (1039, .arr (.cons .str .nil)), (1040, .arr (.cons (.int .i64) .nil)), (1041, .arr (.cons .str .nil))], []⟩ (.u (.n (.r .q) (nx .e))) (.r .x)))))) (nx (nx (.j ⟨[(2, .ref 1054 9), (4, .d (.ty (.sl (.cons .str .nil)))), (5, .ref 1055 9), (10, dI), (11, dI), (12, dI)], [(1054, .box [.d .str, .d (.int .i64), .d (.int .i64), .d (.int .i64), .own 1056, .d (.int .i64), .d (.int .i64), .d (.int .i64), .own 1057]), (1055, .box [.d .str, .d (.int .i64), .d (.int .i64), .d (.int .i64), .own 1058, .d (.int .i64), .d (.int .i64), .d (.int .i64), .own 1059]), (1056, .arr (.cons (.int .i64) .nil)), (1057, .arr (.cons .str .nil)), (1058, .arr (.cons (.int .i64) .nil)), (1059, .arr (.cons .str .nil))], []⟩ (nx (nx .e)) (.j ⟨[(2, .ref 1060 9), (4, .d (.ty (.sl (.cons .str .nil)))), (5, .ref 1061 9), (10, dI), (11, dI), (12, dI)], [(1060, .box [.d .str, .d (.int .i64), .d (.int .i64), .d (.int .i64), .own 1062, .d (.int .i64), .d (.int .i64), .d (.int .i64), .own 1063]), (1061, .box [.d .str, .d (.int .i64), .d (.int .i64), .d (.int .i64), .own 1064, .d (.int .i64), .d (.int .i64), .d (.int .i64), .own 1065]), (1062, .arr (.cons (.int .i64) .nil)), (1063, .arr (.cons .str .nil)), (1064, .arr (.cons (.int .i64) .nil)), (1065, .arr (.cons .str .nil))], []⟩ (nx (nx .e)) (.n (.j ⟨[(2, .ref 1066 9), (4, .d (.ty (.sl (.cons .str .nil)))), (5, .ref 1067 9), (10, dI), (11, dI), (105, dB)], [(1066, .box [.d .str, .d (.int .i64), .d (.int .i64), .d (.int .i64), .own 1068, .d (.int .i64), .d (.int .i64), .d (.int .i64), .own 1069]), (1067, .box [.d .str, .d (.int .i64), .d (.int .i64), .d (.int .i64), .own 1070, .d (.int .i64), .d (.int .i64), .d (.int .i64), .own 1071]), (1068, .arr (.cons (.int .i64) .nil)), (1069, .arr (.cons .str .nil)), (1070, .arr (.cons (.int .i64) .nil)), (1071, .arr (.cons .str .nil))], []⟩ (.r .x) (.n (nx .e) .e)) (nx (nx (.j ⟨[(2, .ref 1072 9), (4, .d (.ty (.sl (.cons .str .nil)))), (5, .ref 1073 9), (10, dI), (11, dI), (13, dB)], [(1072, .box [.d .str, .d (.int .i64), .d (.int .i64), .d (.int .i64), .own 1074, .d (.int .i64), .d (.int .i64), .d (.int .i64), .own 1075]), (1073, .box [.d .str, .d (.int .i64), .d (.int .i64), .d (.int .i64), .own 1076, .d (.int .i64), .d (.int .i64), .d (.int .i64), .own 1077]), (1074, .arr (.cons (.int .i64) .nil)), (1075, .arr (.cons .str .nil)), (1076, .arr (.cons (.int .i64) .nil)), (1077, .arr (.cons .str .nil))], []⟩ (nx (.n (nx (.r .x)) .e)) (nx (nx (.n (.j ⟨[(2, .ref 1078 9), (4, .d (.ty (.sl (.cons .str .nil)))), (5, .ref 1079 9), (10, dI), (11, dI), (153, dB)], [(1078, .box [.d .str, .d (.int .i64), .d (.int .i64), .d (.int .i64), .own 1080, .d (.int .i64), .d (.int .i64), .d (.int .i64), .own 1081]), (1079, .box [.d .str, .d (.int .i64), .d (.int .i64), .d (.int .i64), .own 1082, .d (.int .i64), .d (.int .i64), .d (.int .i64), .own 1083]), (1080, .arr (.cons (.int .i64) .nil)), (1081, .arr (.cons .str .nil)), (1082, .arr (.cons (.int .i64) .nil)), (1083, .arr (.cons .str .nil))], []⟩ (.r .x) (.n (nx .e) .e)) (.j ⟨[(2, .ref 1096 9), (5, .ref 1097 9)], [(1096, .box [.d .str, .d (.int .i64), .d (.int .i64), .d (.int .i64), .own 1098, .d (.int .i64), .d (.int .i64), .d (.int .i64), .own 1099]), (1097, .box [.d .str, .d (.int .i64), .d (.int .i64), .d (.int .i64), .own 1100, .d (.int .i64), .d (.int .i64), .d (.int .i64), .own 1101]), (1098, .arr (.cons (.int .i64) .nil)), (1099, .arr (.cons .str .nil)), (1100, .arr (.cons (.int .i64) .nil)), (1101, .arr (.cons .str .nil))], []⟩ (nx (.u (.l ⟨[(2, .ref 1084 9), (4, .d (.ty (.sl (.cons .str .nil)))), (5, .ref 1085 9), (10, dI), (11, dI), (16, dI)], [(1084, .box [.d .str, .d (.int .i64), .d (.int .i64), .d (.int .i64), .own 1086, .d (.int .i64), .d (.int .i64), .d (.int .i64), .own 1087]), (1085, .box [.d .str, .d (.int .i64), .d (.int .i64), .d (.int .i64), .own 1088, .d (.int .i64), .d (.int .i64), .d (.int .i64), .own 1089]), (1086, .arr (.cons (.int .i64) .nil)), (1087, .arr (.cons .str .nil)), (1088, .arr (.cons (.int .i64) .nil)), (1089, .arr (.cons .str .nil))], []⟩ (.n (nx (.n .e .e)) (.n (.u (.n (nx (.n (nx .e) .e)) (.r (.w 10 [(0, 0), (0, 1), (1, 2), (1, 3), (1, 4), (1, 5), (1, 6), (0, 7), (0, 8), (3, 9)])))) (.r .x)))))) (nx .e))))))))))))))))))
noncomputable def sh36_K10 (z10 : Tz0 × Tz0 × List (Int × Unit) × List Tz1 × List (Int × Unit) × List Tz1 × Unit) : Option ((Ty3 × Bool × Unit) × Unit) :=
 some
 (((z10.2.1.1, z10.2.1.2.1, z10.2.1.2.2.1, z10.2.1.2.2.2.1, z10.2.2.2.2.1, z10.2.1.2.2.2.2.1, z10.2.1.2.2.2.2.2.1, z10.2.1.2.2.2.2.2.2.1,
 z10.2.2.2.2.2),
 true, ()),
 ())
noncomputable def sh36_L12 (j11 : Tz0 × Tz0 × List (Int × Unit) × List Tz1 × List (Int × Unit) × List Tz1 × Unit → Option ((Ty3 × Bool × Unit) × Unit)) (rc12 : List Tz1 × Int × Int × Int × Tz0 × Tz0 × List (Int × Unit) × List Tz1 × List (Int × Unit) × List Tz1 × Unit → Option ((Ty3 × Bool × Unit) × Unit)) (z12 : List Tz1 × Int × Int × Int × Tz0 × Tz0 × List (Int × Unit) × List Tz1 × List (Int × Unit) × List Tz1 × Unit) : Option ((Ty3 × Bool × Unit) × Unit) :=
 if decide (z12.2.2.2.1 < z12.2.1) = true then
 if inR (IntKind.i64.wrap (IntKind.i64.wrap (z12.2.2.1 + 2) + z12.2.2.2.1)) z12.1.length = true then
 (sp54 (lAt ([], ()) z12.1 (IntKind.i64.wrap (IntKind.i64.wrap (z12.2.2.1 + 2) + z12.2.2.2.1)))).bind fun r13 =>
 if (!r13.1) = true then some ((([], 0, 0, 0, [], 0, 0, 0, [], ()), false, ()), ())
 else
 if inR (IntKind.i64.wrap (IntKind.i64.wrap (z12.2.2.1 + 2) + z12.2.2.2.1)) z12.1.length = true then
 if
 decide
 (z12.2.2.2.2.2.2.2.2.2.1.length + 1 ≤
 Abs.lim) =
 true then
 if
 decide
 ((z12.2.2.2.2.2.2.2.2.2.1.length +
 [lAt ([], ()) z12.1 (IntKind.i64.wrap (IntKind.i64.wrap (z12.2.2.1 + 2) + z12.2.2.2.1))].length) *
 16 ≤
 Abs.lim) =
 true then
 rc12
 (z12.1, z12.2.1, z12.2.2.1, IntKind.i64.wrap (z12.2.2.2.1 + 1), z12.2.2.2.2.1, z12.2.2.2.2.2.1, z12.2.2.2.2.2.2.1,
 z12.2.2.2.2.2.2.2.1, z12.2.2.2.2.2.2.2.2.1,
 z12.2.2.2.2.2.2.2.2.2.1 ++ [lAt ([], ()) z12.1 (IntKind.i64.wrap (IntKind.i64.wrap (z12.2.2.1 + 2) + z12.2.2.2.1))], ())
 else none
 else none
 else none
 else none
 else j11 z12.2.2.2.2
noncomputable def sh36_K9 (fuel : Nat) (z9 : List Tz1 × Int × Int × Bool × Tz0 × Tz0 × List (Int × Unit) × List Tz1 × List (Int × Unit) × List Tz1 × Unit) : Option ((Ty3 × Bool × Unit) × Unit) :=
 if z9.2.2.2.1 = true then some ((([], 0, 0, 0, [], 0, 0, 0, [], ()), false, ()), ())
 else joinK sh36_K10 fun j11 => iter fuel (sh36_L12 j11) (z9.1, z9.2.1, z9.2.2.1, 0, z9.2.2.2.2)
noncomputable def sh36_K7 (fuel : Nat) (z7 : List Tz1 × Int × Int × Bool × Tz0 × Tz0 × List (Int × Unit) × List Tz1 × List (Int × Unit) × List Tz1 × Unit) : Option ((Ty3 × Bool × Unit) × Unit) :=
 if inR z7.2.2.1 z7.1.length = true then
 (sp53 (lAt ([], ()) z7.1 z7.2.2.1)).bind fun r8 =>
 joinK (sh36_K9 fuel) fun j14 =>
 if (!r8.1.2.1) = true then
 j14
 (z7.1, z7.2.1, z7.2.2.1, true, z7.2.2.2.2.1, (z7.2.2.2.2.2.1.1, z7.2.2.2.2.2.1.2.1, z7.2.2.2.2.2.1.2.2.1, r8.1.1, z7.2.2.2.2.2.1.2.2.2.2),
 z7.2.2.2.2.2.2)
 else
 if (!z7.2.2.2.1) = true then
 j14
 (z7.1, z7.2.1, z7.2.2.1, true, z7.2.2.2.2.1, (z7.2.2.2.2.2.1.1, z7.2.2.2.2.2.1.2.1, z7.2.2.2.2.2.1.2.2.1, r8.1.1, z7.2.2.2.2.2.1.2.2.2.2),
 z7.2.2.2.2.2.2)
 else
 if decide (0 < z7.2.1) = true then
 if inR (IntKind.i64.wrap (z7.2.2.1 + 1)) z7.1.length = true then
 j14
 (z7.1, z7.2.1, z7.2.2.1, !(lAt ([], ()) z7.1 (IntKind.i64.wrap (z7.2.2.1 + 1))).1 == [62], z7.2.2.2.2.1,
 (z7.2.2.2.2.2.1.1, z7.2.2.2.2.2.1.2.1, z7.2.2.2.2.2.1.2.2.1, r8.1.1, z7.2.2.2.2.2.1.2.2.2.2), z7.2.2.2.2.2.2)
 else none
 else
 j14
 (z7.1, z7.2.1, z7.2.2.1, false, z7.2.2.2.2.1,
 (z7.2.2.2.2.2.1.1, z7.2.2.2.2.2.1.2.1, z7.2.2.2.2.2.1.2.2.1, r8.1.1, z7.2.2.2.2.2.1.2.2.2.2), z7.2.2.2.2.2.2)
 else none
noncomputable def sh36_K6 (fuel : Nat) (z6 : List Tz1 × Int × Int × Bool × Tz0 × Tz0 × List (Int × Unit) × List Tz1 × List (Int × Unit) × List Tz1 × Unit) : Option ((Ty3 × Bool × Unit) × Unit) :=
 if z6.2.2.2.1 = true then some ((([], 0, 0, 0, [], 0, 0, 0, [], ()), false, ()), ())
 else
 if inR 1 z6.1.length = true then
 joinK (sh36_K7 fuel) fun j15 =>
 (sp20 (z6.2.2.2.2.2.1.2.1, ())).bind fun r16 =>
 if r16.1 = true then
 if inR 2 z6.1.length = true then
 (sp53 (lAt ([], ()) z6.1 2)).bind fun r17 =>
 j15
 (z6.1, z6.2.1, 3, r17.1.2.1, z6.2.2.2.2.1, ((lAt ([], ()) z6.1 1).1, z6.2.2.2.2.2.1.2.1, r17.1.1, z6.2.2.2.2.2.1.2.2.2),
 z6.2.2.2.2.2.2)
 else none
 else j15 (z6.1, z6.2.1, z6.2.2.1, true, z6.2.2.2.2.1, ((lAt ([], ()) z6.1 1).1, z6.2.2.2.2.2.1.2), z6.2.2.2.2.2.2)
 else none
noncomputable def sh36_K5 (fuel : Nat) (z5 : List Tz1 × Int × Int × Int × Tz0 × Tz0 × List (Int × Unit) × List Tz1 × List (Int × Unit) × List Tz1 × Unit) : Option ((Ty3 × Bool × Unit) × Unit) :=
 joinK (sh36_K6 fuel) fun j18 =>
 if (z5.2.2.2.2.2.1.2.1 == 0) = true then j18 (z5.1, z5.2.1, z5.2.2.1, true, z5.2.2.2.2)
 else
 if ((↑z5.1.length : Int) != z5.2.2.2.1) = true then j18 (z5.1, z5.2.1, z5.2.2.1, true, z5.2.2.2.2)
 else if inR 1 z5.1.length = true then (sp54 (lAt ([], ()) z5.1 1)).bind fun r19 => j18 (z5.1, z5.2.1, z5.2.2.1, !r19.1, z5.2.2.2.2) else none
noncomputable def sh36_K4 (fuel : Nat) (z4 : List Tz1 × Int × Int × Int × Tz0 × Tz0 × List (Int × Unit) × List Tz1 × List (Int × Unit) × List Tz1 × Unit) : Option ((Ty3 × Bool × Unit) × Unit) :=
 joinK (sh36_K5 fuel) fun j20 =>
 if decide (0 < z4.2.1) = true then j20 (z4.1, z4.2.1, z4.2.2.1, IntKind.i64.wrap (z4.2.2.2.1 + IntKind.i64.wrap (1 + z4.2.1)), z4.2.2.2.2)
 else j20 z4
noncomputable def sh36_K2 (fuel : Nat) (z2 : List Tz1 × Tz0 × Tz0 × List (Int × Unit) × List Tz1 × List (Int × Unit) × List Tz1 × Unit) : Option ((Ty3 × Bool × Unit) × Unit) :=
 (sp55 (z2.2.2.1.2.1, ())).bind fun r3 =>
 joinK (sh36_K4 fuel) fun j21 =>
 (sp20 (z2.2.2.1.2.1, ())).bind fun r22 => if r22.1 = true then j21 (z2.1, r3.1, 2, 4, z2.2) else j21 (z2.1, r3.1, 2, 3, z2.2)
noncomputable def sh36_K25 (rc24 : List Tz1 × Int × Tz0 × Tz0 × List (Int × Unit) × List Tz1 × List (Int × Unit) × List Tz1 × Unit → Option ((Ty3 × Bool × Unit) × Unit)) (z25 : List Tz1 × Int × Tz0 × Tz0 × List (Int × Unit) × List Tz1 × List (Int × Unit) × List Tz1 × Unit) : Option ((Ty3 × Bool × Unit) × Unit) :=
 rc24 (z25.1, IntKind.i64.wrap (z25.2.1 + 1), z25.2.2)
noncomputable def sh36_L24 (j23 : List Tz1 × Tz0 × Tz0 × List (Int × Unit) × List Tz1 × List (Int × Unit) × List Tz1 × Unit → Option ((Ty3 × Bool × Unit) × Unit)) (rc24 : List Tz1 × Int × Tz0 × Tz0 × List (Int × Unit) × List Tz1 × List (Int × Unit) × List Tz1 × Unit → Option ((Ty3 × Bool × Unit) × Unit)) (z24 : List Tz1 × Int × Tz0 × Tz0 × List (Int × Unit) × List Tz1 × List (Int × Unit) × List Tz1 × Unit) : Option ((Ty3 × Bool × Unit) × Unit) :=
 if decide (z24.2.1 ≤ 9) = true then
 joinK (sh36_K25 rc24) fun j26 =>
 if
 inR z24.2.1
 [([], ()), ([101, 110, 116, 114, 121], ()), ([98, 101, 108, 116], ()), ([115, 99, 114, 101, 101, 110], ()),
 ([100, 105, 118, 101, 114, 116, 101, 114], ()), ([108, 111, 111, 112], ()), ([103, 97, 116, 101], ()),
 ([115, 116, 111, 114, 101], ()), ([99, 104, 117, 116, 101], ()), ([109, 97, 110, 117, 97, 108], ())].length =
 true then
 if inR 0 z24.1.length = true then
 if
 ((lAt ([], ())
 [([], ()), ([101, 110, 116, 114, 121], ()), ([98, 101, 108, 116], ()), ([115, 99, 114, 101, 101, 110], ()),
 ([100, 105, 118, 101, 114, 116, 101, 114], ()), ([108, 111, 111, 112], ()), ([103, 97, 116, 101], ()),
 ([115, 116, 111, 114, 101], ()), ([99, 104, 117, 116, 101], ()), ([109, 97, 110, 117, 97, 108], ())]
 z24.2.1).1 ==
 (lAt ([], ()) z24.1 0).1) =
 true then
 j26 (z24.1, z24.2.1, z24.2.2.1, (z24.2.2.2.1.1, z24.2.1, z24.2.2.2.1.2.2), z24.2.2.2.2)
 else j26 z24
 else none
 else none
 else j23 (z24.1, z24.2.2)
noncomputable def sh36_K1 (fuel : Nat) (z1 : List Tz1 × Tz0 × Tz0 × List (Int × Unit) × List Tz1 × List (Int × Unit) × List Tz1 × Unit) : Option ((Ty3 × Bool × Unit) × Unit) :=
 joinK (sh36_K2 fuel) fun j23 => iter fuel (sh36_L24 j23) (z1.1, 1, z1.2)
noncomputable def sh36_K31 (rc28 : List Tz1 × Int × Tz0 × Tz0 × List (Int × Unit) × List Tz1 × List (Int × Unit) × List Tz1 × Unit → Option ((Ty3 × Bool × Unit) × Unit)) (z31 : List Tz1 × Int × Int × Bool × Tz0 × Tz0 × List (Int × Unit) × List Tz1 × List (Int × Unit) × List Tz1 × Unit) : Option ((Ty3 × Bool × Unit) × Unit) :=
 if z31.2.2.2.1 = true then
 if inCut 1 2 z31.1.length = true then
 some
 (((z31.2.2.2.2.2.1.1, z31.2.2.2.2.2.1.2.1, z31.2.2.2.2.2.1.2.2.1, z31.2.2.2.2.2.1.2.2.2.1, z31.2.2.2.2.2.2.2.2.1, z31.2.1, 0, z31.2.2.1,
 cutL z31.1 1 2, ()),
 true, ()),
 ())
 else none
 else rc28 (z31.1, IntKind.i64.wrap (z31.2.1 + 1), z31.2.2.2.2)
noncomputable def sh36_K29 (j27 : List Tz1 × Tz0 × Tz0 × List (Int × Unit) × List Tz1 × List (Int × Unit) × List Tz1 × Unit → Option ((Ty3 × Bool × Unit) × Unit)) (rc28 : List Tz1 × Int × Tz0 × Tz0 × List (Int × Unit) × List Tz1 × List (Int × Unit) × List Tz1 × Unit → Option ((Ty3 × Bool × Unit) × Unit)) (z29 : List Tz1 × Int × Bool × Tz0 × Tz0 × List (Int × Unit) × List Tz1 × List (Int × Unit) × List Tz1 × Unit) : Option ((Ty3 × Bool × Unit) × Unit) :=
 if z29.2.2.1 = true then
 if inR 2 z29.1.length = true then
 (sp53 (lAt ([], ()) z29.1 2)).bind fun r30 =>
 joinK (sh36_K31 rc28) fun j32 =>
 if inR 0 z29.1.length = true then
 if inR z29.2.1 [([], ()), ([112, 104, 111, 116, 111, 99, 101, 108, 108], ()), ([115, 99, 97, 110, 110, 101, 114], ())].length = true then
 if
 decide
 (z29.2.1.toNat + 1 ≤
 [([], ()), ([112, 104, 111, 116, 111, 99, 101, 108, 108], ()), ([115, 99, 97, 110, 110, 101, 114], ())].length) =
 true then
 if
 ((lAt ([], ()) z29.1 0).1 ==
 ([([], ()), ([112, 104, 111, 116, 111, 99, 101, 108, 108], ()), ([115, 99, 97, 110, 110, 101, 114], ())].getD z29.2.1.toNat
 ([], ())).1) =
 true then
 if r30.1.2.1 = true then
 if inR 1 z29.1.length = true then (sp54 (lAt ([], ()) z29.1 1)).bind fun r33 => j32 (z29.1, z29.2.1, r30.1.1, r33.1, z29.2.2.2)
 else none
 else j32 (z29.1, z29.2.1, r30.1.1, false, z29.2.2.2)
 else j32 (z29.1, z29.2.1, r30.1.1, false, z29.2.2.2)
 else none
 else none
 else none
 else none
 else j27 (z29.1, z29.2.2.2)
noncomputable def sh36_L28 (j27 : List Tz1 × Tz0 × Tz0 × List (Int × Unit) × List Tz1 × List (Int × Unit) × List Tz1 × Unit → Option ((Ty3 × Bool × Unit) × Unit)) (rc28 : List Tz1 × Int × Tz0 × Tz0 × List (Int × Unit) × List Tz1 × List (Int × Unit) × List Tz1 × Unit → Option ((Ty3 × Bool × Unit) × Unit)) (z28 : List Tz1 × Int × Tz0 × Tz0 × List (Int × Unit) × List Tz1 × List (Int × Unit) × List Tz1 × Unit) : Option ((Ty3 × Bool × Unit) × Unit) :=
 joinK (sh36_K29 j27 rc28) fun j34 =>
 if decide (z28.2.1 ≤ 2) = true then j34 (z28.1, z28.2.1, (↑z28.1.length : Int) == 3, z28.2.2) else j34 (z28.1, z28.2.1, false, z28.2.2)
noncomputable def sh36 (fuel : Nat) (x0 : List UInt8) : Option ((Ty3 × Bool × Unit) × Unit) :=
 (sp35 (x0, 32, ())).bind fun r0 =>
 joinK (sh36_K1 fuel) fun j27 => iter fuel (sh36_L28 j27) (r0.1, 1, ([], 0, 0, 0, 0, 0, 0, ()), ([], 0, 0, 0, 0, 0, 0, ()), [], [], [], [], ())
noncomputable def sp36 (x : (List UInt8) × Unit) : Option ((Ty3 × Bool × Unit) × Unit) := sh36 100000 x.1
/-! 37 baggage/baggageref07.Find -/
def g37 : Sig := ⟨[.v (.ag ty4), .v (.ty .str)], .v (.ty (.int .i64))⟩
def h37 : HT := (nx (.j ⟨[], [], []⟩ (nx (.u (.l ⟨[(1, dS), (2, .ref 1000 2), (5, dI)], [(1000, .box b0)], []⟩ (.n (nx (.n .e .e)) (.n (.u (nx (.n (nx .e) .e))) (.r .x)))))) (nx .e)))
noncomputable def sh37_K0 (z0 : Unit) : Option (Int × Unit) :=
 some (-1, ())
noncomputable def sh37_L2 (j1 : Unit → Option (Int × Unit)) (rc2 : List UInt8 × Int × Ty4 × Unit → Option (Int × Unit)) (z2 : List UInt8 × Int × Ty4 × Unit) : Option (Int × Unit) :=
 if decide (z2.2.1 < (↑z2.2.2.1.1.length : Int)) = true then
 if inR z2.2.1 z2.2.2.1.1.length = true then
 if ((lAt ([], 0, 0, 0, [], ()) z2.2.2.1.1 z2.2.1).1 == z2.1) = true then some (z2.2.1, ()) else rc2 (z2.1, IntKind.i64.wrap (z2.2.1 + 1), z2.2.2)
 else none
 else j1 ()
noncomputable def sh37 (fuel : Nat) (x0 : Ty4) (x1 : List UInt8) : Option (Int × Unit) :=
 joinK sh37_K0 fun j1 => iter fuel (sh37_L2 j1) (x1, 0, x0, ())
noncomputable def sp37 (x : Ty4 × (List UInt8) × Unit) : Option (Int × Unit) := sh37 100000 x.1 x.2.1
/-! 60 baggage/baggageref07.in -/
def g60 : Sig := ⟨[.v (.ty (.int .i64)), .v (.ty (.int .i64)), .v (.ty (.int .i64))], .v (.ty .bool)⟩
def h60 : HT := (nx (.j ⟨[(6, dB)], [], []⟩ (.r .x) .e))
noncomputable def sh60_K0 (z0 : Bool × Unit) : Option (Bool × Unit) :=
 some z0
noncomputable def sh60 (fuel : Nat) (x0 : Int) (x1 : Int) (x2 : Int) : Option (Bool × Unit) :=
 joinK sh60_K0 fun j1 => if decide (x1 ≤ x0) = true then j1 (decide (x0 ≤ x2), ()) else j1 (false, ())
noncomputable def sp60 (x : (Int) × (Int) × (Int) × Unit) : Option (Bool × Unit) := sh60 0 x.1 x.2.1 x.2.2.1
/-! 56 baggage/baggageref07.node -/
def g56 : Sig := ⟨[.v (.ag ty4), .v (.ty (.int .i64))], .v (.ty (.int .i64))⟩
def h56 : HT := (nx (nx (.n (nx (.n (nx .e) .e)) (.n (nx (.n (nx .e) .e)) (nx (.j ⟨[(1, dI), (2, .ref 1000 2), (5, .ref 1001 5), (6, dI), (7, dI)], [(1000, .box b0), (1001, .box b1)], []⟩ (nx (nx .e)) (.j ⟨[(1, dI), (2, .ref 1002 2), (5, .ref 1003 5), (6, dI), (7, dI)], [(1002, .box b0), (1003, .box b1)], []⟩ (nx (nx .e)) (.n (.j ⟨[(1, dI), (2, .ref 1004 2), (5, .ref 1005 5), (49, dB)], [(1004, .box b0), (1005, .box b1)], []⟩ (.r .q) (.n (nx .e) .e)) (.j ⟨[(5, .ref 1014 5)], [(1014, .box b1)], []⟩ (nx (.u (.l ⟨[(1, dI), (2, .ref 1006 2), (5, .ref 1007 5), (8, dI)], [(1006, .box b0), (1007, .box b1)], []⟩ (.n (nx (.n .e .e)) (.n (.u (.j ⟨[(1, dI), (2, .ref 1008 2), (5, .ref 1009 5), (8, dI), (9, dB)], [(1008, .box b0), (1009, .box b1)], []⟩ (.r .x) (.j ⟨[(1, dI), (2, .ref 1010 2), (5, .ref 1011 5), (8, dI), (85, dB)], [(1010, .box b0), (1011, .box b1)], []⟩ (.r .q) (.n (nx .e) .e)))) (.r .x)))))) (.n (.j ⟨[(100, dB)], [], []⟩ (.r .q) (.n (nx .e) .e)) (nx .e)))))))))))
noncomputable def sh56_K6 (z6 : Bool × Unit) : Option (Int × Unit) :=
 if z6.1 = true then some (1, ()) else some (0, ())
noncomputable def sh56_K5 (z5 : Ty2 × Unit) : Option (Int × Unit) :=
 joinK sh56_K6 fun j7 =>
 if ((↑z5.1.2.2.2.2.1.length : Int) == 2) = true then
 if inR 0 z5.1.2.2.2.2.1.length = true then
 if inR 1 z5.1.2.2.2.2.1.length = true then j7 ((lAt (0, ()) z5.1.2.2.2.2.1 0).1 == (lAt (0, ()) z5.1.2.2.2.2.1 1).1, ()) else none
 else none
 else j7 (false, ())
noncomputable def sh56_K11 (rc9 : Int × Int × Ty4 × Ty2 × Unit → Option (Int × Unit)) (z11 : Int × Int × Bool × Ty4 × Ty2 × Unit) : Option (Int × Unit) :=
 if z11.2.2.1 = true then some (1, ()) else rc9 (z11.1, IntKind.i64.wrap (z11.2.1 + 1), z11.2.2.2)
noncomputable def sh56_K10 (rc9 : Int × Int × Ty4 × Ty2 × Unit → Option (Int × Unit)) (z10 : Int × Int × Bool × Ty4 × Ty2 × Unit) : Option (Int × Unit) :=
 joinK (sh56_K11 rc9) fun j12 =>
 if inR z10.2.1 z10.2.2.2.2.1.2.2.2.2.1.length = true then
 (sp60 ((lAt (0, ()) z10.2.2.2.2.1.2.2.2.2.1 z10.2.1).1, 0, IntKind.i64.wrap ((↑z10.2.2.2.1.1.length : Int) - 1), ())).bind fun r13 =>
 if (!r13.1) = true then j12 (z10.1, z10.2.1, true, z10.2.2.2)
 else
 if inR z10.2.1 z10.2.2.2.2.1.2.2.2.2.1.length = true then
 j12 (z10.1, z10.2.1, !((lAt (0, ()) z10.2.2.2.2.1.2.2.2.2.1 z10.2.1).1 == z10.1) == z10.2.2.1, z10.2.2.2)
 else none
 else none
noncomputable def sh56_L9 (j8 : Ty2 × Unit → Option (Int × Unit)) (rc9 : Int × Int × Ty4 × Ty2 × Unit → Option (Int × Unit)) (z9 : Int × Int × Ty4 × Ty2 × Unit) : Option (Int × Unit) :=
 if decide (z9.2.1 < (↑z9.2.2.2.1.2.2.2.2.1.length : Int)) = true then
 joinK (sh56_K10 rc9) fun j14 => if (z9.2.2.2.1.2.1 == 5) = true then j14 (z9.1, z9.2.1, z9.2.1 == 0, z9.2.2) else j14 (z9.1, z9.2.1, false, z9.2.2)
 else j8 z9.2.2.2
noncomputable def sh56_K4 (fuel : Nat) (z4 : Int × Bool × Ty4 × Ty2 × Unit) : Option (Int × Unit) :=
 if z4.2.1 = true then some (1, ()) else joinK sh56_K5 fun j8 => iter fuel (sh56_L9 j8) (z4.1, 0, z4.2.2)
noncomputable def sh56_K3 (fuel : Nat) (z3 : Int × Int × Int × Ty4 × Ty2 × Unit) : Option (Int × Unit) :=
 joinK (sh56_K4 fuel) fun j15 =>
 (sp60 (z3.2.2.2.2.1.2.2.1, z3.2.1, z3.2.2.1, ())).bind fun r16 =>
 if (!r16.1) = true then j15 (z3.1, true, z3.2.2.2)
 else
 (sp60 (z3.2.2.2.2.1.2.2.2.1, 0, 1, ())).bind fun r17 =>
 if (!r17.1) = true then j15 (z3.1, true, z3.2.2.2)
 else (sp55 (z3.2.2.2.2.1.2.1, ())).bind fun r18 => j15 (z3.1, (↑z3.2.2.2.2.1.2.2.2.2.1.length : Int) != r18.1, z3.2.2.2)
noncomputable def sh56_K2 (fuel : Nat) (z2 : Int × Int × Int × Ty4 × Ty2 × Unit) : Option (Int × Unit) :=
 joinK (sh56_K3 fuel) fun j19 => if (z2.2.2.2.2.1.2.1 == 5) = true then j19 (z2.1, 2, z2.2.2) else j19 z2
noncomputable def sh56 (fuel : Nat) (x0 : Ty4) (x1 : Int) : Option (Int × Unit) :=
 if inR x1 x0.1.length = true then
 (sp54 ((lAt ([], 0, 0, 0, [], ()) x0.1 x1).1, ())).bind fun r0 =>
 if (!r0.1) = true then some (3, ())
 else
 (sp60 ((lAt ([], 0, 0, 0, [], ()) x0.1 x1).2.1, 1, 9, ())).bind fun r1 =>
 if (!r1.1) = true then some (4, ())
 else
 joinK (sh56_K2 fuel) fun j20 =>
 (sp20 ((lAt ([], 0, 0, 0, [], ()) x0.1 x1).2.1, ())).bind fun r21 =>
 if r21.1 = true then j20 (x1, 1, 8, x0, lAt ([], 0, 0, 0, [], ()) x0.1 x1, ())
 else j20 (x1, 0, 0, x0, lAt ([], 0, 0, 0, [], ()) x0.1 x1, ())
 else none
noncomputable def sp56 (x : Ty4 × (Int) × Unit) : Option (Int × Unit) := sh56 100000 x.1 x.2.1
/-! 57 baggage/baggageref07.total -/
def g57 : Sig := ⟨[.v (.ag ty4)], .v (.ty (.int .i64))⟩
def h57 : HT := (nx (nx (.j ⟨[(3, dI)], [], []⟩ (nx (.u (.l ⟨[(1, .ref 1000 2), (3, dI), (4, dI)], [(1000, .box b0)], []⟩ (.n (nx (.n .e .e)) (.n (.u (.r .x)) (.r .x)))))) (nx .e))))
noncomputable def sh57_K0 (z0 : Int × Unit) : Option (Int × Unit) :=
 some z0
noncomputable def sh57_L2 (j1 : Int × Unit → Option (Int × Unit)) (rc2 : Int × Int × Ty4 × Unit → Option (Int × Unit)) (z2 : Int × Int × Ty4 × Unit) : Option (Int × Unit) :=
 if decide (z2.2.1 < (↑z2.2.2.1.1.length : Int)) = true then
 if inR z2.2.1 z2.2.2.1.1.length = true then
 rc2 (IntKind.i64.wrap (z2.1 + (lAt ([], 0, 0, 0, [], ()) z2.2.2.1.1 z2.2.1).2.2.1), IntKind.i64.wrap (z2.2.1 + 1), z2.2.2)
 else none
 else j1 (z2.1, ())
noncomputable def sh57 (fuel : Nat) (x0 : Ty4) : Option (Int × Unit) :=
 joinK sh57_K0 fun j1 => iter fuel (sh57_L2 j1) (0, 0, x0, ())
noncomputable def sp57 (x : Ty4 × Unit) : Option (Int × Unit) := sh57 100000 x.1
/-! 58 baggage/baggageref07.zoned -/
def g58 : Sig := ⟨[.v (.ag ty4)], .v (.ty .bool)⟩
def h58 : HT := (nx (.j ⟨[], [], []⟩ (nx (.u (.l ⟨[(1, .ref 1000 2), (3, dI)], [(1000, .box b0)], []⟩ (.n (nx (.n .e .e)) (.j ⟨[(1, .ref 1019 2), (3, dI)], [(1019, .box b0)], []⟩ (.u (nx (.j ⟨[(1, .ref 1001 2), (3, dI), (4, .ref 1002 5), (5, dB)], [(1001, .box b0), (1002, .box b1)], []⟩ (.r .x) (.j ⟨[(1, .ref 1003 2), (3, dI), (4, .ref 1004 5), (5, dB), (6, dB)], [(1003, .box b0), (1004, .box b1)], []⟩ (.r .x) (.n (.j ⟨[(1, .ref 1005 2), (3, dI), (4, .ref 1006 5), (56, dB)], [(1005, .box b0), (1006, .box b1)], []⟩ (.r .x) (.n (nx .e) .e)) (nx (.u (.l ⟨[(1, .ref 1007 2), (3, dI), (4, .ref 1008 5), (7, dI)], [(1007, .box b0), (1008, .box b1)], []⟩ (.n (nx (.n .e .e)) (.n (.u (.n (.r (.da 9)) (nx (.j ⟨[(1, .ref 1012 2), (3, dI), (4, .ref 1013 5), (7, dI), (8, .ref 1014 5), (9, dI)], [(1012, .box b0), (1013, .box b1), (1014, .box b1)], []⟩ (.j ⟨[(1, .ref 1009 2), (3, dI), (4, .ref 1010 5), (7, dI), (8, .ref 1011 5), (9, dI), (81, dB)], [(1009, .box b0), (1010, .box b1), (1011, .box b1)], []⟩ (.r .x) (nx .e)) (.j ⟨[(1, .ref 1015 2), (3, dI), (4, .ref 1016 5), (7, dI), (90, dB)], [(1015, .box b0), (1016, .box b1)], []⟩ (.r .x) (.n (nx .e) .e)))))) (.r .x))))))))))) (.r .x)))))) (nx .e)))
noncomputable def sh58_K0 (z0 : Unit) : Option (Bool × Unit) :=
 some (true, ())
noncomputable def sh58_K3 (rc2 : Int × Ty4 × Unit → Option (Bool × Unit)) (z3 : Int × Ty4 × Unit) : Option (Bool × Unit) :=
 rc2 (IntKind.i64.wrap (z3.1 + 1), z3.2)
noncomputable def sh58_K10 (rc8 : Int × Int × Ty4 × Ty2 × Unit → Option (Bool × Unit)) (z10 : Int × Int × Bool × Ty4 × Ty2 × Unit) : Option (Bool × Unit) :=
 if z10.2.2.1 = true then some (false, ()) else rc8 (z10.1, IntKind.i64.wrap (z10.2.1 + 1), z10.2.2.2)
noncomputable def sh58_K9 (rc8 : Int × Int × Ty4 × Ty2 × Unit → Option (Bool × Unit)) (z9 : Int × Int × Int × Ty4 × Ty2 × Ty2 × Unit) : Option (Bool × Unit) :=
 joinK (sh58_K10 rc8) fun j11 =>
 if (z9.2.2.2.2.2.1.2.1 == 1) = true then j11 (z9.1, z9.2.1, true, z9.2.2.2.1, z9.2.2.2.2.1, ())
 else j11 (z9.1, z9.2.1, z9.2.2.2.2.2.1.2.2.2.1 != z9.2.2.1, z9.2.2.2.1, z9.2.2.2.2.1, ())
noncomputable def sh58_K13 (j12 : Int × Int × Int × Ty4 × Ty2 × Ty2 × Unit → Option (Bool × Unit)) (z13 : Int × Int × Int × Bool × Ty4 × Ty2 × Ty2 × Unit) : Option (Bool × Unit) :=
 if z13.2.2.2.1 = true then j12 (z13.1, z13.2.1, 1, z13.2.2.2.2) else j12 (z13.1, z13.2.1, z13.2.2.1, z13.2.2.2.2)
noncomputable def sh58_L8 (j4 : Int × Ty4 × Unit → Option (Bool × Unit)) (rc8 : Int × Int × Ty4 × Ty2 × Unit → Option (Bool × Unit)) (z8 : Int × Int × Ty4 × Ty2 × Unit) : Option (Bool × Unit) :=
 if decide (z8.2.1 < (↑z8.2.2.2.1.2.2.2.2.1.length : Int)) = true then
 if inR z8.2.1 z8.2.2.2.1.2.2.2.2.1.length = true then
 if inR (lAt (0, ()) z8.2.2.2.1.2.2.2.2.1 z8.2.1).1 z8.2.2.1.1.length = true then
 joinK (sh58_K9 rc8) fun j12 =>
 joinK (sh58_K13 j12) fun j14 =>
 if (z8.2.2.2.1.2.1 == 6) = true then
 j14
 (z8.1, z8.2.1, z8.2.2.2.1.2.2.2.1, z8.2.1 == 1, z8.2.2.1, z8.2.2.2.1,
 lAt ([], 0, 0, 0, [], ()) z8.2.2.1.1 (lAt (0, ()) z8.2.2.2.1.2.2.2.2.1 z8.2.1).1, ())
 else
 j14
 (z8.1, z8.2.1, z8.2.2.2.1.2.2.2.1, false, z8.2.2.1, z8.2.2.2.1,
 lAt ([], 0, 0, 0, [], ()) z8.2.2.1.1 (lAt (0, ()) z8.2.2.2.1.2.2.2.2.1 z8.2.1).1, ())
 else none
 else none
 else j4 (z8.1, z8.2.2.1, ())
noncomputable def sh58_K7 (fuel : Nat) (j4 : Int × Ty4 × Unit → Option (Bool × Unit)) (z7 : Int × Bool × Ty4 × Ty2 × Unit) : Option (Bool × Unit) :=
 if z7.2.1 = true then some (false, ()) else iter fuel (sh58_L8 j4) (z7.1, 0, z7.2.2)
noncomputable def sh58_K6 (fuel : Nat) (j4 : Int × Ty4 × Unit → Option (Bool × Unit)) (z6 : Int × Bool × Bool × Ty4 × Ty2 × Unit) : Option (Bool × Unit) :=
 joinK (sh58_K7 fuel j4) fun j15 =>
 if z6.2.1 = true then
 if (z6.2.2.2.2.1.2.2.2.1 != 0) = true then j15 (z6.1, true, z6.2.2.2)
 else if z6.2.2.1 = true then j15 (z6.1, z6.2.2.2.2.1.2.2.2.1 != 1, z6.2.2.2) else j15 (z6.1, false, z6.2.2.2)
 else if z6.2.2.1 = true then j15 (z6.1, z6.2.2.2.2.1.2.2.2.1 != 1, z6.2.2.2) else j15 (z6.1, false, z6.2.2.2)
noncomputable def sh58_K5 (fuel : Nat) (j4 : Int × Ty4 × Unit → Option (Bool × Unit)) (z5 : Int × Bool × Ty4 × Ty2 × Unit) : Option (Bool × Unit) :=
 joinK (sh58_K6 fuel j4) fun j16 =>
 if (z5.2.2.2.1.2.1 == 7) = true then j16 (z5.1, z5.2.1, true, z5.2.2) else j16 (z5.1, z5.2.1, z5.2.2.2.1.2.1 == 8, z5.2.2)
noncomputable def sh58_L2 (fuel : Nat) (j1 : Unit → Option (Bool × Unit)) (rc2 : Int × Ty4 × Unit → Option (Bool × Unit)) (z2 : Int × Ty4 × Unit) : Option (Bool × Unit) :=
 if decide (z2.1 < (↑z2.2.1.1.length : Int)) = true then
 joinK (sh58_K3 rc2) fun j4 =>
 if inR z2.1 z2.2.1.1.length = true then
 joinK (sh58_K5 fuel j4) fun j17 =>
 if ((lAt ([], 0, 0, 0, [], ()) z2.2.1.1 z2.1).2.1 == 1) = true then j17 (z2.1, true, z2.2.1, lAt ([], 0, 0, 0, [], ()) z2.2.1.1 z2.1, ())
 else
 if ((lAt ([], 0, 0, 0, [], ()) z2.2.1.1 z2.1).2.1 == 3) = true then j17 (z2.1, true, z2.2.1, lAt ([], 0, 0, 0, [], ()) z2.2.1.1 z2.1, ())
 else j17 (z2.1, (lAt ([], 0, 0, 0, [], ()) z2.2.1.1 z2.1).2.1 == 6, z2.2.1, lAt ([], 0, 0, 0, [], ()) z2.2.1.1 z2.1, ())
 else none
 else j1 ()
noncomputable def sh58 (fuel : Nat) (x0 : Ty4) : Option (Bool × Unit) :=
 joinK sh58_K0 fun j1 => iter fuel (sh58_L2 fuel j1) (0, x0, ())
noncomputable def sp58 (x : Ty4 × Unit) : Option (Bool × Unit) := sh58 100000 x.1
/-! 21 baggage/baggagekeep.In -/
def g21 : Sig := ⟨[.v (.ty (.sl (.cons (.int .i64) .nil))), .v (.ty (.int .i64))], .v (.ty .bool)⟩
def h21 : HT := (nx (.j ⟨[], [], []⟩ (nx (.u (.l ⟨[(0, dL), (1, dI), (5, dI)], [], []⟩ (.n (nx (.n .e .e)) (.n (.u (nx (.n (nx .e) .e))) (.r .x)))))) (nx .e)))
noncomputable def sh21_K0 (z0 : Unit) : Option (Bool × Unit) :=
 some (false, ())
noncomputable def sh21_L2 (j1 : Unit → Option (Bool × Unit)) (rc2 : List (Int × Unit) × Int × Int × Unit → Option (Bool × Unit)) (z2 : List (Int × Unit) × Int × Int × Unit) : Option (Bool × Unit) :=
 if decide (z2.2.2.1 < (↑z2.1.length : Int)) = true then
 if inR z2.2.2.1 z2.1.length = true then
 if ((lAt (0, ()) z2.1 z2.2.2.1).1 == z2.2.1) = true then some (true, ()) else rc2 (z2.1, z2.2.1, IntKind.i64.wrap (z2.2.2.1 + 1), ())
 else none
 else j1 ()
noncomputable def sh21 (fuel : Nat) (x0 : List (Int × Unit)) (x1 : Int) : Option (Bool × Unit) :=
 joinK sh21_K0 fun j1 => iter fuel (sh21_L2 j1) (x0, x1, 0, ())
noncomputable def sp21 (x : (List (Int × Unit)) × (Int) × Unit) : Option (Bool × Unit) := sh21 100000 x.1 x.2.1
/-! 71 baggage/baggageref07.Leads -/
def g71 : Sig := ⟨[.v (.ag ty4), .v (.ty (.int .i64)), .v (.ty (.int .i64))], .v (.ty .bool)⟩
def h71 : HT := (nx (.j ⟨[(6, dB)], [], []⟩ (.r .x) .e))
noncomputable def sh71_K0 (z0 : Bool × Unit) : Option (Bool × Unit) :=
 some z0
noncomputable def sh71 (fuel : Nat) (x0 : Ty4) (x1 : Int) (x2 : Int) : Option (Bool × Unit) :=
 joinK sh71_K0 fun j1 =>
 if (x1 != x2) = true then
 if inR x1 x0.1.length = true then (sp21 ((lAt ([], 0, 0, 0, [], ()) x0.1 x1).2.2.2.2.1, x2, ())).bind fun r2 => j1 r2 else none
 else j1 (false, ())
noncomputable def sp71 (x : Ty4 × (Int) × (Int) × Unit) : Option (Bool × Unit) := sh71 0 x.1 x.2.1 x.2.2.1
/-! 59 baggage/baggageref07.order -/
def g59 : Sig := ⟨[.v (.ag ty4)], .own (.cons (.int .i64) .nil)⟩
def h59 : HT := (nx (nx (.j ⟨[(3, .own 1022)], [(1022, .arr (.cons (.int .i64) .nil))], []⟩ (.u (.l ⟨[(1, .ref 1000 2), (3, .own 1001)], [(1000, .box b0), (1001, .arr (.cons (.int .i64) .nil))], []⟩ (.n (nx (.n .e .e)) (.u (nx (.j ⟨[(1, .ref 1018 2), (3, .own 1019), (4, dI)], [(1018, .box b0), (1019, .arr (.cons (.int .i64) .nil))], []⟩ (nx (.u (.l ⟨[(1, .ref 1002 2), (3, .own 1003), (4, dI), (5, dI)], [(1002, .box b0), (1003, .arr (.cons (.int .i64) .nil))], []⟩ (.n (nx (.n .e .e)) (.j ⟨[(1, .ref 1014 2), (3, .own 1015), (4, dI), (5, dI)], [(1014, .box b0), (1015, .arr (.cons (.int .i64) .nil))], []⟩ (.u (nx (.j ⟨[(1, .ref 1012 2), (3, .own 1013), (4, dI), (5, dI), (6, dB)], [(1012, .box b0), (1013, .arr (.cons (.int .i64) .nil))], []⟩ (nx (.u (.l ⟨[(1, .ref 1004 2), (3, .own 1005), (4, dI), (5, dI), (6, dB), (7, dI)], [(1004, .box b0), (1005, .arr (.cons (.int .i64) .nil))], []⟩ (.n (nx (.n .e .e)) (.j ⟨[(1, .ref 1008 2), (3, .own 1009), (4, dI), (5, dI), (6, dB), (7, dI)], [(1008, .box b0), (1009, .arr (.cons (.int .i64) .nil))], []⟩ (.u (.j ⟨[(1, .ref 1006 2), (3, .own 1007), (4, dI), (5, dI), (6, dB), (7, dI), (42, dB)], [(1006, .box b0), (1007, .arr (.cons (.int .i64) .nil))], []⟩ (.r .x) (nx .e))) (.r .x)))))) (nx (nx .e))))) (.r .x)))))) (.n (nx (.n (nx .e) .e)) (.r .x)))))))) (nx .e))))
noncomputable def sh59_K0 (z0 : List (Int × Unit) × Unit) : Option (List (Int × Unit) × Unit) :=
 some z0
noncomputable def sh59_K3 (rc2 : Ty4 × List (Int × Unit) × Unit → Option (List (Int × Unit) × Unit)) (z3 : Int × Ty4 × List (Int × Unit) × Unit) : Option (List (Int × Unit) × Unit) :=
 if decide (z3.1 < 0) = true then some z3.2.2
 else
 if decide (z3.2.2.1.length + 1 ≤ Abs.lim) = true then
 if decide ((z3.2.2.1.length + 1) * 8 ≤ Abs.lim) = true then rc2 (z3.2.1, z3.2.2.1 ++ [(z3.1, ())], ()) else none
 else none
noncomputable def sh59_K6 (rc5 : Int × Int × Ty4 × List (Int × Unit) × Unit → Option (List (Int × Unit) × Unit)) (z6 : Int × Int × Ty4 × List (Int × Unit) × Unit) : Option (List (Int × Unit) × Unit) :=
 rc5 (z6.1, IntKind.i64.wrap (z6.2.1 - 1), z6.2.2)
noncomputable def sh59_K9 (j7 : Int × Int × Ty4 × List (Int × Unit) × Unit → Option (List (Int × Unit) × Unit)) (z9 : Int × Int × Bool × Ty4 × List (Int × Unit) × Unit) : Option (List (Int × Unit) × Unit) :=
 if z9.2.2.1 = true then j7 (z9.2.1, z9.2.1, z9.2.2.2) else j7 (z9.1, z9.2.1, z9.2.2.2)
noncomputable def sh59_K12 (rc11 : Int × Int × Bool × Int × Ty4 × List (Int × Unit) × Unit → Option (List (Int × Unit) × Unit)) (z12 : Int × Int × Bool × Int × Ty4 × List (Int × Unit) × Unit) : Option (List (Int × Unit) × Unit) :=
 rc11 (z12.1, z12.2.1, z12.2.2.1, IntKind.i64.wrap (z12.2.2.2.1 + 1), z12.2.2.2.2)
noncomputable def sh59_K14 (j13 : Int × Int × Bool × Int × Ty4 × List (Int × Unit) × Unit → Option (List (Int × Unit) × Unit)) (z14 : Int × Int × Bool × Int × Bool × Ty4 × List (Int × Unit) × Unit) : Option (List (Int × Unit) × Unit) :=
 if z14.2.2.2.2.1 = true then j13 (z14.1, z14.2.1, false, z14.2.2.2.1, z14.2.2.2.2.2) else j13 (z14.1, z14.2.1, z14.2.2.1, z14.2.2.2.1, z14.2.2.2.2.2)
noncomputable def sh59_L11 (j10 : Int × Int × Bool × Ty4 × List (Int × Unit) × Unit → Option (List (Int × Unit) × Unit)) (rc11 : Int × Int × Bool × Int × Ty4 × List (Int × Unit) × Unit → Option (List (Int × Unit) × Unit)) (z11 : Int × Int × Bool × Int × Ty4 × List (Int × Unit) × Unit) : Option (List (Int × Unit) × Unit) :=
 if decide (z11.2.2.2.1 < (↑z11.2.2.2.2.1.1.length : Int)) = true then
 joinK (sh59_K12 rc11) fun j13 =>
 joinK (sh59_K14 j13) fun j15 =>
 (sp71 (z11.2.2.2.2.1, z11.2.2.2.1, z11.2.1, ())).bind fun r16 =>
 if r16.1 = true then
 (sp21 (z11.2.2.2.2.2.1, z11.2.2.2.1, ())).bind fun r17 => j15 (z11.1, z11.2.1, z11.2.2.1, z11.2.2.2.1, !r17.1, z11.2.2.2.2)
 else j15 (z11.1, z11.2.1, z11.2.2.1, z11.2.2.2.1, false, z11.2.2.2.2)
 else j10 (z11.1, z11.2.1, z11.2.2.1, z11.2.2.2.2)
noncomputable def sh59_L5 (fuel : Nat) (j4 : Int × Ty4 × List (Int × Unit) × Unit → Option (List (Int × Unit) × Unit)) (rc5 : Int × Int × Ty4 × List (Int × Unit) × Unit → Option (List (Int × Unit) × Unit)) (z5 : Int × Int × Ty4 × List (Int × Unit) × Unit) : Option (List (Int × Unit) × Unit) :=
 if decide (0 ≤ z5.2.1) = true then
 joinK (sh59_K6 rc5) fun j7 =>
 (sp21 (z5.2.2.2.1, z5.2.1, ())).bind fun r8 => joinK (sh59_K9 j7) fun j10 => iter fuel (sh59_L11 j10) (z5.1, z5.2.1, !r8.1, 0, z5.2.2)
 else j4 (z5.1, z5.2.2)
noncomputable def sh59_L2 (fuel : Nat) (j1 : List (Int × Unit) × Unit → Option (List (Int × Unit) × Unit)) (rc2 : Ty4 × List (Int × Unit) × Unit → Option (List (Int × Unit) × Unit)) (z2 : Ty4 × List (Int × Unit) × Unit) : Option (List (Int × Unit) × Unit) :=
 if decide ((↑z2.2.1.length : Int) < (↑z2.1.1.length : Int)) = true then
 joinK (sh59_K3 rc2) fun j4 => iter fuel (sh59_L5 fuel j4) (-1, IntKind.i64.wrap ((↑z2.1.1.length : Int) - 1), z2)
 else j1 z2.2
noncomputable def sh59 (fuel : Nat) (x0 : Ty4) : Option (List (Int × Unit) × Unit) :=
 joinK sh59_K0 fun j1 => iter fuel (sh59_L2 fuel j1) (x0, [], ())
noncomputable def sp59 (x : Ty4 × Unit) : Option (List (Int × Unit) × Unit) := sh59 100000 x.1
/-! 38 baggage/baggageref07.Validate -/
def g38 : Sig := ⟨[.v (.ag ty4)], .v (.ty (.int .i64))⟩
def h38 : HT := (nx (.n (.j ⟨[(1, .ref 1000 2), (20, dB)], [(1000, .box b0)], []⟩ (.r .x) (.n (nx .e) .e)) (nx (.j ⟨[(1, .ref 1004 2), (3, dI)], [(1004, .box b0)], []⟩ (nx (.u (.l ⟨[(1, .ref 1001 2), (3, dI), (4, dI)], [(1001, .box b0)], []⟩ (.n (nx (.n .e .e)) (.j ⟨[(1, .ref 1002 2), (3, dI), (4, dI)], [(1002, .box b0)], []⟩ (.u (.n (nx (nx (.n (nx .e) .e))) (nx (nx .e)))) (.r .x)))))) (.n (nx (.n (nx .e) .e)) (.j ⟨[(1, .ref 1007 2), (3, dI)], [(1007, .box b0)], []⟩ (nx (.u (.l ⟨[(1, .ref 1005 2), (3, dI), (6, dI)], [(1005, .box b0)], []⟩ (.n (nx (.n .e .e)) (.n (.u (.n (.r .q) (.n (nx .e) .e))) (.r .x)))))) (.n (nx (.n (nx .e) .e)) (.n (.n (.r (.w 6 [(0, 0), (0, 3), (0, 4), (0, 5), (2, 1), (0, 2)])) (.n (nx .e) .e)) (.j ⟨[(1, .ref 1013 2), (3, dI)], [(1013, .box b0)], []⟩ (nx (.u (.l ⟨[(1, .ref 1008 2), (3, dI), (7, dI)], [(1008, .box b0)], []⟩ (.n (nx (.n .e .e)) (.n (.u (nx (.n (.j ⟨[(1, .ref 1009 2), (3, dI), (7, dI), (8, .ref 1010 3), (92, dB)], [(1009, .box b0), (1010, .box b3)], []⟩ (.r .x) (.n (nx .e) .e)) (.j ⟨[(1, .ref 1011 2), (3, dI), (7, dI), (114, dB)], [(1011, .box b0)], []⟩ (.r .q) (.n (nx .e) .e))))) (.r .x)))))) (.j ⟨[(3, dI)], [], []⟩ (nx (.u (.l ⟨[(1, .ref 1014 2), (3, dI), (9, dI)], [(1014, .box b0)], []⟩ (.n (nx (.n .e .e)) (.j ⟨[(1, .ref 1017 2), (3, dI), (9, dI)], [(1017, .box b0)], []⟩ (.u (nx (.u (.l ⟨[(1, .ref 1015 2), (3, dI), (9, dI), (10, dI)], [(1015, .box b0)], []⟩ (.n (nx (.n .e .e)) (.n (.u (.n (.r .q) (.n (nx .e) .e))) (.r .x))))))) (.r .x)))))) (.n (nx (.n (nx .e) .e)) (nx .e))))))))))))
noncomputable def sh38_K7 (z7 : Int × Unit) : Option (Int × Unit) :=
 if (z7.1 == 0) = true then some (6, ()) else some (0, ())
noncomputable def sh38_K10 (rc9 : Int × Int × Ty4 × Unit → Option (Int × Unit)) (z10 : Int × Int × Ty4 × Unit) : Option (Int × Unit) :=
 rc9 (z10.1, IntKind.i64.wrap (z10.2.1 + 1), z10.2.2)
noncomputable def sh38_L12 (j11 : Int × Int × Ty4 × Unit → Option (Int × Unit)) (rc12 : Int × Int × Int × Ty4 × Unit → Option (Int × Unit)) (z12 : Int × Int × Int × Ty4 × Unit) : Option (Int × Unit) :=
 if decide (z12.2.2.1 < z12.2.1) = true then
 if inR z12.2.1 z12.2.2.2.1.2.1.length = true then
 if inR z12.2.2.1 z12.2.2.2.1.2.1.length = true then
 if
 ((lAt (0, 0, 0, ()) z12.2.2.2.1.2.1 z12.2.1).1 == (lAt (0, 0, 0, ()) z12.2.2.2.1.2.1 z12.2.2.1).1 &&
 ((lAt (0, 0, 0, ()) z12.2.2.2.1.2.1 z12.2.1).2.1 == (lAt (0, 0, 0, ()) z12.2.2.2.1.2.1 z12.2.2.1).2.1 &&
 ((lAt (0, 0, 0, ()) z12.2.2.2.1.2.1 z12.2.1).2.2.1 == (lAt (0, 0, 0, ()) z12.2.2.2.1.2.1 z12.2.2.1).2.2.1 && true))) =
 true then
 some (5, ())
 else rc12 (z12.1, z12.2.1, IntKind.i64.wrap (z12.2.2.1 + 1), z12.2.2.2)
 else none
 else none
 else j11 (z12.1, z12.2.1, z12.2.2.2)
noncomputable def sh38_L9 (fuel : Nat) (j8 : Int × Unit → Option (Int × Unit)) (rc9 : Int × Int × Ty4 × Unit → Option (Int × Unit)) (z9 : Int × Int × Ty4 × Unit) : Option (Int × Unit) :=
 if decide (z9.2.1 < (↑z9.2.2.1.2.1.length : Int)) = true then joinK (sh38_K10 rc9) fun j11 => iter fuel (sh38_L12 j11) (z9.1, z9.2.1, 0, z9.2.2)
 else j8 (z9.1, ())
noncomputable def sh38_K6 (fuel : Nat) (z6 : Int × Ty4 × Unit) : Option (Int × Unit) :=
 joinK sh38_K7 fun j8 => iter fuel (sh38_L9 fuel j8) (z6.1, 0, z6.2)
noncomputable def sh38_K16 (rc14 : Int × Int × Ty4 × Unit → Option (Int × Unit)) (z16 : Int × Int × Bool × Ty4 × Unit) : Option (Int × Unit) :=
 if z16.2.2.1 = true then some (1, ()) else rc14 (z16.1, IntKind.i64.wrap (z16.2.1 + 1), z16.2.2.2)
noncomputable def sh38_K15 (rc14 : Int × Int × Ty4 × Unit → Option (Int × Unit)) (z15 : Int × Int × Bool × Ty4 × Ty1 × Unit) : Option (Int × Unit) :=
 if z15.2.2.1 = true then some (4, ())
 else
 joinK (sh38_K16 rc14) fun j17 =>
 (sp60 (z15.2.2.2.2.1.2.1, 0, IntKind.i64.wrap ((↑z15.2.2.2.1.1.length : Int) - 1), ())).bind fun r18 =>
 if (!r18.1) = true then j17 (z15.1, z15.2.1, true, z15.2.2.2.1, ())
 else
 if inR z15.2.2.2.2.1.2.1 z15.2.2.2.1.1.length = true then
 (sp60 (z15.2.2.2.2.1.2.2.1, 0, IntKind.i64.wrap ((lAt ([], 0, 0, 0, [], ()) z15.2.2.2.1.1 z15.2.2.2.2.1.2.1).2.2.1 - 1), ())).bind
 fun r19 => j17 (z15.1, z15.2.1, !r19.1, z15.2.2.2.1, ())
 else none
noncomputable def sh38_L14 (j13 : Int × Ty4 × Unit → Option (Int × Unit)) (rc14 : Int × Int × Ty4 × Unit → Option (Int × Unit)) (z14 : Int × Int × Ty4 × Unit) : Option (Int × Unit) :=
 if decide (z14.2.1 < (↑z14.2.2.1.2.1.length : Int)) = true then
 if inR z14.2.1 z14.2.2.1.2.1.length = true then
 joinK (sh38_K15 rc14) fun j20 =>
 if ((lAt (0, 0, 0, ()) z14.2.2.1.2.1 z14.2.1).1 != 1) = true then
 j20 (z14.1, z14.2.1, (lAt (0, 0, 0, ()) z14.2.2.1.2.1 z14.2.1).1 != 2, z14.2.2.1, lAt (0, 0, 0, ()) z14.2.2.1.2.1 z14.2.1, ())
 else j20 (z14.1, z14.2.1, false, z14.2.2.1, lAt (0, 0, 0, ()) z14.2.2.1.2.1 z14.2.1, ())
 else none
 else j13 (z14.1, z14.2.2)
noncomputable def sh38_K3 (fuel : Nat) (z3 : Int × Ty4 × Unit) : Option (Int × Unit) :=
 (sp58 z3.2).bind fun r4 =>
 if (!r4.1) = true then some (7, ())
 else
 (sp59 z3.2).bind fun r5 =>
 if decide ((↑r5.1.length : Int) < (↑z3.2.1.1.length : Int)) = true then some (9, ())
 else joinK (sh38_K6 fuel) fun j13 => iter fuel (sh38_L14 j13) (z3.1, 0, z3.2)
noncomputable def sh38_L22 (j21 : Int × Ty4 × Unit → Option (Int × Unit)) (rc22 : Int × Int × Ty4 × Unit → Option (Int × Unit)) (z22 : Int × Int × Ty4 × Unit) : Option (Int × Unit) :=
 if decide (z22.2.1 < (↑z22.2.2.1.1.length : Int)) = true then
 if inR z22.2.1 z22.2.2.1.1.length = true then
 (sp37 (z22.2.2.1, (lAt ([], 0, 0, 0, [], ()) z22.2.2.1.1 z22.2.1).1, ())).bind fun r23 =>
 if (r23.1 != z22.2.1) = true then some (5, ()) else rc22 (z22.1, IntKind.i64.wrap (z22.2.1 + 1), z22.2.2)
 else none
 else j21 (z22.1, z22.2.2)
noncomputable def sh38_K1 (fuel : Nat) (z1 : Int × Ty4 × Unit) : Option (Int × Unit) :=
 (sp57 z1.2).bind fun r2 =>
 if decide (80 < r2.1) = true then some (2, ()) else joinK (sh38_K3 fuel) fun j21 => iter fuel (sh38_L22 j21) (z1.1, 0, z1.2)
noncomputable def sh38_K26 (rc25 : Int × Int × Ty4 × Unit → Option (Int × Unit)) (z26 : Int × Int × Ty4 × Unit) : Option (Int × Unit) :=
 rc25 (z26.1, IntKind.i64.wrap (z26.2.1 + 1), z26.2.2)
noncomputable def sh38_L25 (j24 : Int × Ty4 × Unit → Option (Int × Unit)) (rc25 : Int × Int × Ty4 × Unit → Option (Int × Unit)) (z25 : Int × Int × Ty4 × Unit) : Option (Int × Unit) :=
 if decide (z25.2.1 < (↑z25.2.2.1.1.length : Int)) = true then
 joinK (sh38_K26 rc25) fun j27 =>
 (sp56 (z25.2.2.1, z25.2.1, ())).bind fun r28 =>
 if (r28.1 != 0) = true then some r28
 else
 if inR z25.2.1 z25.2.2.1.1.length = true then
 if ((lAt ([], 0, 0, 0, [], ()) z25.2.2.1.1 z25.2.1).2.1 == 1) = true then j27 (IntKind.i64.wrap (z25.1 + 1), z25.2) else j27 z25
 else none
 else j24 (z25.1, z25.2.2)
noncomputable def sh38_K0 (fuel : Nat) (z0 : Bool × Ty4 × Unit) : Option (Int × Unit) :=
 if z0.1 = true then some (2, ()) else joinK (sh38_K1 fuel) fun j24 => iter fuel (sh38_L25 j24) (0, 0, z0.2)
noncomputable def sh38 (fuel : Nat) (x0 : Ty4) : Option (Int × Unit) :=
 joinK (sh38_K0 fuel) fun j29 =>
 if decide (24 < (↑x0.1.length : Int)) = true then j29 (true, x0, ()) else j29 (decide (24 < (↑x0.2.1.length : Int)), x0, ())
noncomputable def sp38 (x : Ty4 × Unit) : Option (Int × Unit) := sh38 100000 x.1
/-! 23 baggage/baggageref07.Parse -/
def g23 : Sig := ⟨[.v (.ty .str)], .tup [(.ag ty4), (.ty (.int .i64)), (.ty (.int .i64))]⟩
def h23 : HT := (nx (.n (nx (.n (nx .e) .e)) (nx (nx (nx (nx (nx (.j ⟨[(2, .ref 1029 2), (5, .d (.ty (.sl (.cons .str .nil)))), (6, dS), (7, .own 1030), (8, .ref 1031 2)], [(1029, .box [.own 1032, .own 1033]), (1031, .box [.own 1034, .own 1035]), (1030, .arr ty3), (1032, .arr ty2), (1033, .arr ty1), (1034, .arr ty2), (1035, .arr ty1)], []⟩ (nx (.u (.l ⟨[(2, .ref 1000 2), (5, .d (.ty (.sl (.cons .str .nil)))), (6, dS), (7, .own 1001), (8, .ref 1002 2), (9, dI)], [(1000, .box [.own 1003, .own 1004]), (1002, .box [.own 1005, .own 1006]), (1001, .arr ty3), (1003, .arr ty2), (1004, .arr ty1), (1005, .arr ty2), (1006, .arr ty1)], []⟩ (.n (nx (.n .e .e)) (.j ⟨[(2, .ref 1015 2), (5, .d (.ty (.sl (.cons .str .nil)))), (6, dS), (7, .own 1016), (8, .ref 1017 2), (9, dI)], [(1015, .box [.own 1018, .own 1019]), (1017, .box [.own 1020, .own 1021]), (1016, .arr ty3), (1018, .arr ty2), (1019, .arr ty1), (1020, .arr ty2), (1021, .arr ty1)], []⟩ (.u (nx (.n (.j ⟨[(2, .ref 1007 2), (5, .d (.ty (.sl (.cons .str .nil)))), (6, dS), (7, .own 1008), (8, .ref 1009 2), (9, dI), (10, .ref 1010 9), (60, dB)], [(1007, .box [.own 1011, .own 1012]), (1009, .box [.own 1013, .own 1014]), (1010, .box [.d .str, .d (.int .i64), .d (.int .i64), .d (.int .i64), .d (.sl (.cons (.int .i64) .nil)), .d (.int .i64), .d (.int .i64), .d (.int .i64), .d (.sl (.cons .str .nil))]), (1008, .arr ty3), (1011, .arr ty2), (1012, .arr ty1), (1013, .arr ty2), (1014, .arr ty1)], []⟩ (.r .x) (.n (nx .e) .e)) (nx (nx (nx (.r .x))))))) (.r .x)))))) (.n (nx (.n (nx .e) .e)) (.j ⟨[(2, .ref 1078 2), (8, .ref 1079 2)], [(1078, .box [.own 1080, .own 1081]), (1079, .box [.own 1082, .own 1083]), (1080, .arr ty2), (1081, .arr ty1), (1082, .arr ty2), (1083, .arr ty1)], []⟩ (nx (.u (.l ⟨[(2, .ref 1036 2), (7, .own 1037), (8, .ref 1038 2), (12, dI)], [(1036, .box [.own 1039, .own 1040]), (1038, .box [.own 1041, .own 1042]), (1037, .arr ty3), (1039, .arr ty2), (1040, .arr ty1), (1041, .arr ty2), (1042, .arr ty1)], []⟩ (.n (nx (.n .e .e)) (.j ⟨[(2, .ref 1064 2), (7, .own 1065), (8, .ref 1066 2), (12, dI)], [(1064, .box [.own 1067, .own 1068]), (1066, .box [.own 1069, .own 1070]), (1065, .arr ty3), (1067, .arr ty2), (1068, .arr ty1), (1069, .arr ty2), (1070, .arr ty1)], []⟩ (.u (nx (.u (.l ⟨[(2, .ref 1043 2), (7, .own 1044), (8, .ref 1045 2), (12, dI), (13, dI)], [(1043, .box [.own 1046, .own 1047]), (1045, .box [.own 1048, .own 1049]), (1044, .arr ty3), (1046, .arr ty2), (1047, .arr ty1), (1048, .arr ty2), (1049, .arr ty1)], []⟩ (.n (nx (.n .e .e)) (.j ⟨[(2, .ref 1050 2), (7, .own 1051), (8, .ref 1052 2), (12, dI), (13, dI)], [(1050, .box [.own 1053, .own 1054]), (1052, .box [.own 1055, .own 1056]), (1051, .arr ty3), (1053, .arr ty2), (1054, .arr ty1), (1055, .arr ty2), (1056, .arr ty1)], []⟩ (.u (.n (.r .q) (.n (nx (.n (nx .e) .e)) (nx (.n (.r (.w 13 [(0, 0), (0, 1), (1, 2), (0, 3), (0, 4), (1, 5), (0, 6), (0, 7), (0, 8), (1, 10), (2, 9), (5, 11), (2, 12)])) (.r .x)))))) (.r .x))))))) (.r .x)))))) (.n (nx (nx (.n (nx .e) .e))) (nx .e))))))))))))
noncomputable def sh23_K2 (z2 : Unit × Unit × List Ty2 × List Ty1 × List Ty2 × List Ty1 × Unit) : Option ((Ty4 × Int × Int × Unit) × Unit) :=
 (sp38 (z2.2.2.2.2, ())).bind fun r3 => if (r3.1 != 0) = true then some ((([], [], ()), 0, r3), ()) else some ((z2.2.2.2.2, 0, 0, ()), ())
noncomputable def sh23_K6 (rc5 : Int × Unit × Unit × List Ty3 × List Ty2 × List Ty1 × List Ty2 × List Ty1 × Unit → Option ((Ty4 × Int × Int × Unit) × Unit)) (z6 : Int × Unit × Unit × List Ty3 × List Ty2 × List Ty1 × List Ty2 × List Ty1 × Unit) : Option ((Ty4 × Int × Int × Unit) × Unit) :=
 rc5 (IntKind.i64.wrap (z6.1 + 1), (), (), z6.2.2.2)
noncomputable def sh23_K9 (rc8 : Int × Int × Unit × Unit × List Ty3 × List Ty2 × List Ty1 × List Ty2 × List Ty1 × Unit → Option ((Ty4 × Int × Int × Unit) × Unit)) (z9 : Int × Int × Unit × Unit × List Ty3 × List Ty2 × List Ty1 × List Ty2 × List Ty1 × Unit) : Option ((Ty4 × Int × Int × Unit) × Unit) :=
 rc8 (z9.1, IntKind.i64.wrap (z9.2.1 + 1), (), (), z9.2.2.2.2)
noncomputable def sh23_L8 (j7 : Int × Unit × Unit × List Ty3 × List Ty2 × List Ty1 × List Ty2 × List Ty1 × Unit → Option ((Ty4 × Int × Int × Unit) × Unit)) (rc8 : Int × Int × Unit × Unit × List Ty3 × List Ty2 × List Ty1 × List Ty2 × List Ty1 × Unit → Option ((Ty4 × Int × Int × Unit) × Unit)) (z8 : Int × Int × Unit × Unit × List Ty3 × List Ty2 × List Ty1 × List Ty2 × List Ty1 × Unit) : Option ((Ty4 × Int × Int × Unit) × Unit) :=
 if inR z8.1 z8.2.2.2.2.1.length = true then
 if decide (z8.1.toNat + 1 ≤ z8.2.2.2.2.1.length) = true then
 if decide (z8.2.1 < (↑(List.length (z8.2.2.2.2.1.getD z8.1.toNat ([], 0, 0, 0, [], 0, 0, 0, [], ())).2.2.2.2.2.2.2.2.1) : Int)) = true then
 joinK (sh23_K9 rc8) fun j10 =>
 if inR z8.1 z8.2.2.2.2.1.length = true then
 if decide (z8.1.toNat + 1 ≤ z8.2.2.2.2.1.length) = true then
 if inR z8.2.1 (List.length (z8.2.2.2.2.1.getD z8.1.toNat ([], 0, 0, 0, [], 0, 0, 0, [], ())).2.2.2.2.2.2.2.2.1) = true then
 (sp37 (z8.2.2.2.2.2.2.2, lAt ([], ()) (z8.2.2.2.2.1.getD z8.1.toNat ([], 0, 0, 0, [], 0, 0, 0, [], ())).2.2.2.2.2.2.2.2.1 z8.2.1)).bind
 fun r11 =>
 if decide (r11.1 < 0) = true then some ((([], [], ()), IntKind.i64.wrap (z8.1 + 1), 6, ()), ())
 else
 if decide (z8.1 < (↑z8.2.2.2.2.2.2.2.1.length : Int)) = true then
 if inR z8.1 z8.2.2.2.2.2.2.2.1.length = true then
 if decide (z8.1.toNat + 1 ≤ z8.2.2.2.2.2.2.2.1.length) = true then
 if decide (List.length (z8.2.2.2.2.2.2.2.1.getD z8.1.toNat ([], 0, 0, 0, [], ())).2.2.2.2.1 ≤ Abs.lim) = true then
 if decide (List.length (z8.2.2.2.2.2.2.2.1.getD z8.1.toNat ([], 0, 0, 0, [], ())).2.2.2.2.1 * 8 ≤ Abs.lim) = true then
 if
 decide (List.length (z8.2.2.2.2.2.2.2.1.getD z8.1.toNat ([], 0, 0, 0, [], ())).2.2.2.2.1 + 1 ≤ Abs.lim) =
 true then
 if
 decide
 ((List.length (z8.2.2.2.2.2.2.2.1.getD z8.1.toNat ([], 0, 0, 0, [], ())).2.2.2.2.1 + 1) * 8 ≤
 Abs.lim) =
 true then
 if inR z8.1 z8.2.2.2.2.2.2.2.1.length = true then
 if decide (z8.1.toNat + 1 ≤ z8.2.2.2.2.2.2.2.1.length) = true then
 j10
 (z8.1, z8.2.1, (), (), z8.2.2.2.2.1, z8.2.2.2.2.2.1, z8.2.2.2.2.2.2.1,
 z8.2.2.2.2.2.2.2.1.set z8.1.toNat
 ((z8.2.2.2.2.2.2.2.1.getD z8.1.toNat ([], 0, 0, 0, [], ())).1,
 (z8.2.2.2.2.2.2.2.1.getD z8.1.toNat ([], 0, 0, 0, [], ())).2.1,
 (z8.2.2.2.2.2.2.2.1.getD z8.1.toNat ([], 0, 0, 0, [], ())).2.2.1,
 (z8.2.2.2.2.2.2.2.1.getD z8.1.toNat ([], 0, 0, 0, [], ())).2.2.2.1,
 (z8.2.2.2.2.2.2.2.1.getD z8.1.toNat ([], 0, 0, 0, [], ())).2.2.2.2.1 ++ [r11], ()),
 z8.2.2.2.2.2.2.2.2)
 else none
 else none
 else none
 else none
 else none
 else none
 else none
 else none
 else
 if inR (IntKind.i64.wrap (z8.1 - (↑z8.2.2.2.2.2.2.2.1.length : Int))) z8.2.2.2.2.2.2.2.2.1.length = true then
 if decide ((IntKind.i64.wrap (z8.1 - (↑z8.2.2.2.2.2.2.2.1.length : Int))).toNat + 1 ≤ z8.2.2.2.2.2.2.2.2.1.length) = true then
 j10
 (z8.1, z8.2.1, (), (), z8.2.2.2.2.1, z8.2.2.2.2.2.1, z8.2.2.2.2.2.2.1, z8.2.2.2.2.2.2.2.1,
 z8.2.2.2.2.2.2.2.2.1.set (IntKind.i64.wrap (z8.1 - (↑z8.2.2.2.2.2.2.2.1.length : Int))).toNat
 ((z8.2.2.2.2.2.2.2.2.1.getD (IntKind.i64.wrap (z8.1 - (↑z8.2.2.2.2.2.2.2.1.length : Int))).toNat (0, 0, 0, ())).1,
 r11.1,
 (z8.2.2.2.2.2.2.2.2.1.getD (IntKind.i64.wrap (z8.1 - (↑z8.2.2.2.2.2.2.2.1.length : Int))).toNat (0, 0, 0, ())).2.2),
 ())
 else none
 else none
 else none
 else none
 else none
 else j7 (z8.1, (), (), z8.2.2.2.2)
 else none
 else none
noncomputable def sh23_L5 (fuel : Nat) (j4 : Unit × Unit × List Ty2 × List Ty1 × List Ty2 × List Ty1 × Unit → Option ((Ty4 × Int × Int × Unit) × Unit)) (rc5 : Int × Unit × Unit × List Ty3 × List Ty2 × List Ty1 × List Ty2 × List Ty1 × Unit → Option ((Ty4 × Int × Int × Unit) × Unit)) (z5 : Int × Unit × Unit × List Ty3 × List Ty2 × List Ty1 × List Ty2 × List Ty1 × Unit) : Option ((Ty4 × Int × Int × Unit) × Unit) :=
 if decide (z5.1 < (↑z5.2.2.2.1.length : Int)) = true then joinK (sh23_K6 rc5) fun j7 => iter fuel (sh23_L8 j7) (z5.1, 0, (), (), z5.2.2.2)
 else j4 ((), (), z5.2.2.2.2)
noncomputable def sh23_K1 (fuel : Nat) (z1 : List Tz1 × List UInt8 × Unit × Unit × List Ty3 × List Ty2 × List Ty1 × List Ty2 × List Ty1 × Unit) : Option ((Ty4 × Int × Int × Unit) × Unit) :=
 if (!z1.2.1 == []) = true then some ((([], [], ()), IntKind.i64.wrap ((↑z1.1.length : Int) + 1), 3, ()), ())
 else joinK sh23_K2 fun j4 => iter fuel (sh23_L5 fuel j4) (0, (), (), z1.2.2.2.2)
noncomputable def sh23_K14 (rc13 : List Tz1 × List UInt8 × Int × Unit × Unit × List Ty3 × List Ty2 × List Ty1 × List Ty2 × List Ty1 × Unit → Option ((Ty4 × Int × Int × Unit) × Unit)) (z14 : List Tz1 × List UInt8 × Int × Unit × Unit × List Ty3 × List Ty2 × List Ty1 × List Ty2 × List Ty1 × Unit) : Option ((Ty4 × Int × Int × Unit) × Unit) :=
 rc13 (z14.1, z14.2.1, IntKind.i64.wrap (z14.2.2.1 + 1), (), (), z14.2.2.2.2.2)
noncomputable def sh23_K17 (j15 : List Tz1 × List UInt8 × Int × Unit × Unit × List Ty3 × List Ty2 × List Ty1 × List Ty2 × List Ty1 × Unit → Option ((Ty4 × Int × Int × Unit) × Unit)) (z17 : List Tz1 × List UInt8 × Int × Bool × Unit × Unit × Ty3 × List Ty3 × List Ty2 × List Ty1 × List Ty2 × List Ty1 × Unit) : Option ((Ty4 × Int × Int × Unit) × Unit) :=
 if z17.2.2.2.1 = true then some ((([], [], ()), IntKind.i64.wrap (z17.2.2.1 + 1), 3, ()), ())
 else
 if decide (z17.2.2.2.2.2.2.2.1.length + 1 ≤ Abs.lim) = true then
 if decide ((z17.2.2.2.2.2.2.2.1.length + 1) * 112 ≤ Abs.lim) = true then
 if (z17.2.2.2.2.2.2.1.2.1 != 0) = true then
 if
 decide
 (z17.2.2.2.2.2.2.2.2.2.2.1.length +
 [(z17.2.2.2.2.2.2.1.1, z17.2.2.2.2.2.2.1.2.1, z17.2.2.2.2.2.2.1.2.2.1, z17.2.2.2.2.2.2.1.2.2.2.1, z17.2.2.2.2.2.2.1.2.2.2.2.1,
 ())].length ≤
 Abs.lim) =
 true then
 if
 decide
 ((z17.2.2.2.2.2.2.2.2.2.2.1.length +
 [(z17.2.2.2.2.2.2.1.1, z17.2.2.2.2.2.2.1.2.1, z17.2.2.2.2.2.2.1.2.2.1, z17.2.2.2.2.2.2.1.2.2.2.1, z17.2.2.2.2.2.2.1.2.2.2.2.1,
 ())].length) *
 64 ≤
 Abs.lim) =
 true then
 j15
 (z17.1, z17.2.1, z17.2.2.1, (), (), z17.2.2.2.2.2.2.2.1 ++ [z17.2.2.2.2.2.2.1], z17.2.2.2.2.2.2.2.2.1, z17.2.2.2.2.2.2.2.2.2.1,
 z17.2.2.2.2.2.2.2.2.2.2.1 ++
 [(z17.2.2.2.2.2.2.1.1, z17.2.2.2.2.2.2.1.2.1, z17.2.2.2.2.2.2.1.2.2.1, z17.2.2.2.2.2.2.1.2.2.2.1, z17.2.2.2.2.2.2.1.2.2.2.2.1, ())],
 z17.2.2.2.2.2.2.2.2.2.2.2)
 else none
 else none
 else
 if
 decide
 (z17.2.2.2.2.2.2.2.2.2.2.2.1.length +
 [(z17.2.2.2.2.2.2.1.2.2.2.2.2.1, z17.2.2.2.2.2.2.1.2.2.2.2.2.2.1, z17.2.2.2.2.2.2.1.2.2.2.2.2.2.2.1, ())].length ≤
 Abs.lim) =
 true then
 if
 decide
 ((z17.2.2.2.2.2.2.2.2.2.2.2.1.length +
 [(z17.2.2.2.2.2.2.1.2.2.2.2.2.1, z17.2.2.2.2.2.2.1.2.2.2.2.2.2.1, z17.2.2.2.2.2.2.1.2.2.2.2.2.2.2.1, ())].length) *
 24 ≤
 Abs.lim) =
 true then
 j15
 (z17.1, z17.2.1, z17.2.2.1, (), (), z17.2.2.2.2.2.2.2.1 ++ [z17.2.2.2.2.2.2.1], z17.2.2.2.2.2.2.2.2.1, z17.2.2.2.2.2.2.2.2.2.1,
 z17.2.2.2.2.2.2.2.2.2.2.1,
 z17.2.2.2.2.2.2.2.2.2.2.2.1 ++
 [(z17.2.2.2.2.2.2.1.2.2.2.2.2.1, z17.2.2.2.2.2.2.1.2.2.2.2.2.2.1, z17.2.2.2.2.2.2.1.2.2.2.2.2.2.2.1, ())],
 ())
 else none
 else none
 else none
 else none
noncomputable def sh23_L13 (j12 : List Tz1 × List UInt8 × Unit × Unit × List Ty3 × List Ty2 × List Ty1 × List Ty2 × List Ty1 × Unit → Option ((Ty4 × Int × Int × Unit) × Unit)) (rc13 : List Tz1 × List UInt8 × Int × Unit × Unit × List Ty3 × List Ty2 × List Ty1 × List Ty2 × List Ty1 × Unit → Option ((Ty4 × Int × Int × Unit) × Unit)) (z13 : List Tz1 × List UInt8 × Int × Unit × Unit × List Ty3 × List Ty2 × List Ty1 × List Ty2 × List Ty1 × Unit) : Option ((Ty4 × Int × Int × Unit) × Unit) :=
 if decide (z13.2.2.1 < (↑z13.1.length : Int)) = true then
 joinK (sh23_K14 rc13) fun j15 =>
 if inR z13.2.2.1 z13.1.length = true then
 (sp36 (lAt ([], ()) z13.1 z13.2.2.1)).bind fun r16 =>
 joinK (sh23_K17 j15) fun j18 =>
 if (!r16.1.2.1) = true then j18 (z13.1, z13.2.1, z13.2.2.1, true, (), (), r16.1.1, z13.2.2.2.2.2)
 else
 if (r16.1.1.2.1 != 0) = true then
 j18 (z13.1, z13.2.1, z13.2.2.1, decide (0 < (↑z13.2.2.2.2.2.2.2.2.2.1.length : Int)), (), (), r16.1.1, z13.2.2.2.2.2)
 else j18 (z13.1, z13.2.1, z13.2.2.1, false, (), (), r16.1.1, z13.2.2.2.2.2)
 else none
 else j12 (z13.1, z13.2.1, (), (), z13.2.2.2.2.2)
noncomputable def sh23 (fuel : Nat) (x0 : List UInt8) : Option ((Ty4 × Int × Int × Unit) × Unit) :=
 if decide (4096 < (↑x0.length : Int)) = true then some ((([], [], ()), 0, 2, ()), ())
 else
 (sp35 (x0, 10, ())).bind fun r0 =>
 if inR (IntKind.i64.wrap ((↑r0.1.length : Int) - 1)) r0.1.length = true then
 if inCut 0 (IntKind.i64.wrap ((↑r0.1.length : Int) - 1)) r0.1.length = true then
 joinK (sh23_K1 fuel) fun j12 =>
 iter fuel (sh23_L13 j12)
 (cutL r0.1 0 (IntKind.i64.wrap ((↑r0.1.length : Int) - 1)), (lAt ([], ()) r0.1 (IntKind.i64.wrap ((↑r0.1.length : Int) - 1))).1, 0, (),
 (), [], [], [], [], [], ())
 else none
 else none
noncomputable def sp23 (x : (List UInt8) × Unit) : Option ((Ty4 × Int × Int × Unit) × Unit) := sh23 100000 x.1
def g12 : Sig := ⟨[.v (.ag ty4), .v (.ty (.sl (.cons .bool .nil))), .v (.ty (.int .i64)), .v (.ty (.int .i64))], .v (.ty (.int .i64))⟩
abbrev BrV := List (Bool × Unit)
def ndV (l : Ty4) (i : Nat) : Ty2 := l.1.getD i ([], 0, 0, 0, [], ())
def brkV (b : BrV) (i : Nat) : Bool := (b.getD i (false, ())).1
def stripK (k : Int) : Bool := decide (1 ≤ k) && decide (k ≤ 6)
def goV (l : Ty4) (i j t : Nat) : Bool := j != i && (j == t || stripK (ndV l j).2.1)
def relV (d n best : Int) : Int := if 0 ≤ d ∧ (best < 0 ∨ d + n < best) then d + n else best
def distW (l : Ty4) (b : BrV) (t : Nat) : Nat → Nat → Int
 | 0, _ => -1
 | f + 1, i => if brkV b i = true then -1 else if i = t then (ndV l i).2.2.1 else
 (ndV l i).2.2.2.2.1.foldl (fun best x => if goV l i x.1.toNat t = true then relV (distW l b t f x.1.toNat) (ndV l i).2.2.1 best else best) (-1)
def distV (l : Ty4) (b : BrV) (t i : Nat) : Int := distW l b t (l.1.length + 1) i
structure LenV (l : Ty4) : Prop where
 n : l.1.length ≤ 1000
 len : ∀ i, i < l.1.length → 0 ≤ (ndV l i).2.2.1 ∧ (ndV l i).2.2.1 ≤ 1000
 ex : ∀ i, i < l.1.length → ∀ x ∈ (ndV l i).2.2.2.2.1, 0 ≤ x.1 ∧ x.1 < l.1.length
def RkV (l : Ty4) (t : Nat) : Prop := ∃ rk : Nat → Nat, (∀ i, rk i ≤ l.1.length) ∧ ∀ i, i < l.1.length → i ≠ t → ∀ x ∈ (ndV l i).2.2.2.2.1, goV l i x.1.toNat t = true → rk x.1.toNat < rk i
def WayV (l : Ty4) (f t : Int) : Prop := LenV l ∧ RkV l t.toNat ∧ 0 ≤ f ∧ f < l.1.length ∧ 0 ≤ t ∧ t < l.1.length
open Classical in
noncomputable def sp12 (x : Ty4 × BrV × Int × Int × Unit) : Option (Int × Unit) :=
 (sp27 (x.1, x.2.2.1, x.2.2.2.1, ())).bind fun a =>
 if a.1 = false then some (-1, ()) else if WayV x.1 x.2.2.1 x.2.2.2.1 then some (distV x.1 x.2.1 x.2.2.2.1.toNat x.2.2.1.toNat, ()) else none
def g14 : Sig := ⟨[.v (.ag ty4), .v (.ty (.sl (.cons .bool .nil))), .v (.ty (.int .i64)), .v (.ty (.int .i64))], .v (.ty (.int .i64))⟩
def exitV (l : Ty4) (b : BrV) (t f : Nat) : Int :=
 match (ndV l f).2.2.2.2.1.findIdx? fun x => goV l f x.1.toNat t && (decide (0 ≤ distV l b t f) && (decide (0 ≤ distV l b t x.1.toNat) && decide (distV l b t x.1.toNat + (ndV l f).2.2.1 = distV l b t f))) with
 | some k => k
 | none => -1
open Classical in
noncomputable def sp14 (x : Ty4 × BrV × Int × Int × Unit) : Option (Int × Unit) :=
 (sp27 (x.1, x.2.2.1, x.2.2.2.1, ())).bind fun a =>
 if a.1 = false then some (-1, ()) else if x.2.2.1 = x.2.2.2.1 then some (-1, ()) else if WayV x.1 x.2.2.1 x.2.2.2.1 then some (exitV x.1 x.2.1 x.2.2.2.1.toNat x.2.2.1.toNat, ()) else none
def g17 : Sig := ⟨[.v (.ag ty4), .v (.ty (.sl (.cons .bool .nil))), .v (.ty (.int .i64))], .v (.ty (.sl (.cons (.int .i64) .nil)))⟩
def reachV (l : Ty4) (b : BrV) (f : Nat) : List (Int × Unit) :=
 ((List.range l.1.length).filter fun i => !stripK (ndV l i).2.1 && decide (0 ≤ distV l b i f)).map fun i : Nat => ((i : Int), ())
open Classical in
noncomputable def sp17 (x : Ty4 × BrV × Int × Unit) : Option (List (Int × Unit) × Unit) :=
 if x.2.2.1 < 0 ∨ (x.1.1.length : Int) ≤ x.2.2.1 then some ([], ()) else
 (sp32 (x.1, ())).bind fun a =>
 if a.1 ≠ 0 then some ([], ()) else if LenV x.1 ∧ ∀ t, t < x.1.1.length → RkV x.1 t then some (reachV x.1 x.2.1 x.2.2.1.toNat, ()) else none
/-! 16 baggage/baggagekeep.Ints -/
def g16 : Sig := ⟨[.v (.ty (.sl (.cons (.int .i64) .nil))), .v (.ty (.sl (.cons (.int .i64) .nil)))], .v (.ty .bool)⟩
def h16 : HT := (nx (.n (nx (.n (nx .e) .e)) (.j ⟨[], [], []⟩ (nx (.u (.l ⟨[(0, dL), (1, dL), (5, dI)], [], []⟩ (.n (nx (.n .e .e)) (.n (.u (.n (.r .q) (.n (nx .e) .e))) (.r .x)))))) (nx .e))))
noncomputable def sh16_K0 (z0 : Unit) : Option (Bool × Unit) :=
 some (true, ())
noncomputable def sh16_L2 (j1 : Unit → Option (Bool × Unit)) (rc2 : List (Int × Unit) × List (Int × Unit) × Int × Unit → Option (Bool × Unit)) (z2 : List (Int × Unit) × List (Int × Unit) × Int × Unit) : Option (Bool × Unit) :=
 if decide (z2.2.2.1 < (↑z2.1.length : Int)) = true then
 if inR z2.2.2.1 z2.1.length = true then
 if inR z2.2.2.1 z2.2.1.length = true then
 if ((lAt (0, ()) z2.1 z2.2.2.1).1 != (lAt (0, ()) z2.2.1 z2.2.2.1).1) = true then some (false, ())
 else rc2 (z2.1, z2.2.1, IntKind.i64.wrap (z2.2.2.1 + 1), ())
 else none
 else none
 else j1 ()
noncomputable def sh16 (fuel : Nat) (x0 : List (Int × Unit)) (x1 : List (Int × Unit)) : Option (Bool × Unit) :=
 if ((↑x0.length : Int) != (↑x1.length : Int)) = true then some (false, ()) else joinK sh16_K0 fun j1 => iter fuel (sh16_L2 j1) (x0, x1, 0, ())
noncomputable def sp16 (x : (List (Int × Unit)) × (List (Int × Unit)) × Unit) : Option (Bool × Unit) := sh16 100000 x.1 x.2.1
/-! 8 baggage/baggagelaw08.awake -/
def g8 : Sig := ⟨[], .v (.ty .bool)⟩
def h8 : HT := (nx (nx (.j ⟨[(0, dB)], [], []⟩ (.r .x) .e)))
noncomputable def sh8_K1 (z1 : Bool × Unit) : Option (Bool × Unit) :=
 some z1
noncomputable def sh8 (fuel : Nat) : Option (Bool × Unit) :=
 (sp23
 (lit0,
 ())).bind
 fun r0 =>
 joinK sh8_K1 fun j2 =>
 (sp12 (r0.1.1, [], 0, 2, ())).bind fun r3 =>
 if (r3.1 == 3) = true then
 (sp14 (r0.1.1, [], 1, 2, ())).bind fun r4 =>
 if (r4.1 == 1) = true then
 (sp17 (r0.1.1, [], 0, ())).bind fun r5 =>
 (sp16 (r5.1, [(2, ()), (3, ())], ())).bind fun r6 =>
 if r6.1 = true then (sp12 (r0.1.1, [(false, ()), (true, ())], 0, 2, ())).bind fun r7 => j2 (r7.1 == -1, ()) else j2 (false, ())
 else j2 (false, ())
 else j2 (false, ())
noncomputable def sp8 (x : Unit) : Option (Bool × Unit) := sh8 0 
/-! 9 baggage/baggagekeep.New -/
def g9 : Sig := ⟨[.v (.ty (.sl (.cons (.int .i64) .nil)))], .box ty0⟩
def h9 : HT := (nx (.j ⟨[(0, dL)], [], []⟩ (nx (nx .e)) (nx .e)))
noncomputable def sh9_K0 (z0 : List (Int × Unit) × Unit) : Option (Ty0 × Unit) :=
 some ((z0.1, 0, ()), ())
noncomputable def sh9 (fuel : Nat) (x0 : List (Int × Unit)) : Option (Ty0 × Unit) :=
 joinK sh9_K0 fun j1 =>
 if decide (2000 < (↑x0.length : Int)) = true then if inCut 0 2000 x0.length = true then j1 (cutL x0 0 2000, ()) else none else j1 (x0, ())
noncomputable def sp9 (x : (List (Int × Unit)) × Unit) : Option (Ty0 × Unit) := sh9 0 x.1
/-! 34 (*baggage/baggagekeep.Src).Raw -/
def g34 : Sig := ⟨[.bx ty0], .v (.ty (.int .i64))⟩
def h34 : HT := (nx (.n (.n (.r .q) (.n (nx .e) .e)) (nx (.n (.r .q) .e))))
noncomputable def sh34 (fuel : Nat) (x0 : Ty0) : Option (Int × Ty0 × Unit) :=
 if decide ((↑x0.1.length : Int) ≤ x0.2.1) = true then some (0, x0, ())
 else
 if inR (IntKind.i64.wrap (IntKind.i64.wrap (x0.2.1 + 1) - 1)) x0.1.length = true then
 some ((lAt (0, ()) x0.1 (IntKind.i64.wrap (IntKind.i64.wrap (x0.2.1 + 1) - 1))).1, (x0.1, IntKind.i64.wrap (x0.2.1 + 1), ()), ())
 else none
noncomputable def sp34 (x : Ty0 × Unit) : Option (Int × Ty0 × Unit) := sh34 0 x.1
/-! 19 baggage/baggagekeep.Mod -/
def g19 : Sig := ⟨[.v (.ty (.int .i64)), .v (.ty (.int .i64))], .v (.ty (.int .i64))⟩
def h19 : HT := (nx (.n (nx (.n (nx .e) .e)) (nx (.j ⟨[(0, dI)], [], []⟩ (nx (nx .e)) (nx .e)))))
noncomputable def sh19_K0 (z0 : Int × Unit) : Option (Int × Unit) :=
 some z0
noncomputable def sh19 (fuel : Nat) (x0 : Int) (x1 : Int) : Option (Int × Unit) :=
 if decide (x1 < 1) = true then some (0, ())
 else
 if (x1 != 0) = true then
 joinK sh19_K0 fun j1 => if decide (x0.tmod x1 < 0) = true then j1 (IntKind.i64.wrap (x0.tmod x1 + x1), ()) else j1 (x0.tmod x1, ())
 else none
noncomputable def sp19 (x : (Int) × (Int) × Unit) : Option (Int × Unit) := sh19 0 x.1 x.2.1
/-! 22 (*baggage/baggagekeep.Src).N -/
def g22 : Sig := ⟨[.bx ty0, .v (.ty (.int .i64))], .v (.ty (.int .i64))⟩
def h22 : HT := (nx (nx .e))
noncomputable def sh22 (fuel : Nat) (x0 : Ty0) (x1 : Int) : Option (Int × Ty0 × Unit) :=
 (sp34 (x0, ())).bind fun r0 => (sp19 (r0.1, x1, ())).bind fun r1 => some (r1.1, r0.2)
noncomputable def sp22 (x : Ty0 × (Int) × Unit) : Option (Int × Ty0 × Unit) := sh22 0 x.1 x.2.1
/-! 24 (*baggage/baggagekeep.Src).Range -/
def g24 : Sig := ⟨[.bx ty0, .v (.ty (.int .i64)), .v (.ty (.int .i64))], .v (.ty (.int .i64))⟩
def h24 : HT := (nx (nx .e))
noncomputable def sh24 (fuel : Nat) (x0 : Ty0) (x1 : Int) (x2 : Int) : Option (Int × Ty0 × Unit) :=
 (sp22 (x0, IntKind.i64.wrap (IntKind.i64.wrap (x2 - x1) + 1), ())).bind fun r0 => some (IntKind.i64.wrap (x1 + r0.1), r0.2)
noncomputable def sp24 (x : Ty0 × (Int) × (Int) × Unit) : Option (Int × Ty0 × Unit) := sh24 0 x.1 x.2.1 x.2.2.1
/-! 39 (*baggage/baggagekeep.Src).Pick -/
def g39 : Sig := ⟨[.bx ty0, .v (.ty (.sl (.cons (.int .i64) .nil)))], .v (.ty (.int .i64))⟩
def h39 : HT := (nx (nx .e))
noncomputable def sh39 (fuel : Nat) (x0 : Ty0) (x1 : List (Int × Unit)) : Option (Int × Ty0 × Unit) :=
 (sp22 (x0, (↑x1.length : Int), ())).bind fun r0 => if inR r0.1 x1.length = true then some ((lAt (0, ()) x1 r0.1).1, r0.2) else none
noncomputable def sp39 (x : Ty0 × (List (Int × Unit)) × Unit) : Option (Int × Ty0 × Unit) := sh39 0 x.1 x.2.1
/-! 40 (*baggage/baggagekeep.Src).other -/
def g40 : Sig := ⟨[.bx ty0, .v (.ty (.sl (.cons (.int .i64) .nil))), .v (.ty (.int .i64))], .v (.ty (.int .i64))⟩
def h40 : HT := (nx (nx (.j ⟨[(0, .ref 900000 2), (7, .own 1003)], [(900000, .box b2), (1003, .arr (.cons (.int .i64) .nil))], []⟩ (nx (.u (.l ⟨[(0, .ref 900000 2), (1, dL), (2, dI), (7, .own 1000), (8, dI)], [(900000, .box b2), (1000, .arr (.cons (.int .i64) .nil))], []⟩ (.n (nx (.n .e .e)) (.j ⟨[(0, .ref 900000 2), (1, dL), (2, dI), (7, .own 1001), (8, dI)], [(900000, .box b2), (1001, .arr (.cons (.int .i64) .nil))], []⟩ (.u (nx (nx .e))) (.r .x)))))) (.n (nx (.n (nx .e) .e)) (nx .e)))))
noncomputable def sh40_K0 (z0 : Ty0 × List (Int × Unit) × Unit) : Option (Int × Ty0 × Unit) :=
 if ((↑z0.2.1.length : Int) == 0) = true then some (-1, z0.1, ())
 else
 (sp22 (z0.1, (↑z0.2.1.length : Int), ())).bind fun r1 =>
 if inR r1.1 z0.2.1.length = true then
 if decide (r1.1.toNat + 1 ≤ z0.2.1.length) = true then some ((z0.2.1.getD r1.1.toNat (0, ())).1, r1.2) else none
 else none
noncomputable def sh40_K4 (rc3 : List (Int × Unit) × Int × Int × Ty0 × List (Int × Unit) × Unit → Option (Int × Ty0 × Unit)) (z4 : List (Int × Unit) × Int × Int × Ty0 × List (Int × Unit) × Unit) : Option (Int × Ty0 × Unit) :=
 rc3 (z4.1, z4.2.1, IntKind.i64.wrap (z4.2.2.1 + 1), z4.2.2.2)
noncomputable def sh40_L3 (j2 : Ty0 × List (Int × Unit) × Unit → Option (Int × Ty0 × Unit)) (rc3 : List (Int × Unit) × Int × Int × Ty0 × List (Int × Unit) × Unit → Option (Int × Ty0 × Unit)) (z3 : List (Int × Unit) × Int × Int × Ty0 × List (Int × Unit) × Unit) : Option (Int × Ty0 × Unit) :=
 if decide (z3.2.2.1 < (↑z3.1.length : Int)) = true then
 joinK (sh40_K4 rc3) fun j5 =>
 if inR z3.2.2.1 z3.1.length = true then
 if ((lAt (0, ()) z3.1 z3.2.2.1).1 != z3.2.1) = true then
 if inR z3.2.2.1 z3.1.length = true then
 if decide (z3.2.2.2.2.1.length + 1 ≤ Abs.lim) = true then
 if decide ((z3.2.2.2.2.1.length + 1) * 8 ≤ Abs.lim) = true then
 j5 (z3.1, z3.2.1, z3.2.2.1, z3.2.2.2.1, z3.2.2.2.2.1 ++ [lAt (0, ()) z3.1 z3.2.2.1], ())
 else none
 else none
 else none
 else j5 z3
 else none
 else j2 z3.2.2.2
noncomputable def sh40 (fuel : Nat) (x0 : Ty0) (x1 : List (Int × Unit)) (x2 : Int) : Option (Int × Ty0 × Unit) :=
 joinK sh40_K0 fun j2 => iter fuel (sh40_L3 j2) (x1, x2, 0, x0, [], ())
noncomputable def sp40 (x : Ty0 × (List (Int × Unit)) × (Int) × Unit) : Option (Int × Ty0 × Unit) := sh40 100000 x.1 x.2.1 x.2.2.1
/-! 25 (*baggage/baggagekeep.Src).strip -/
def g25 : Sig := ⟨[.bx ty0, .v (.ty (.int .i64)), .v (.ty (.int .i64)), .v (.ty (.sl (.cons (.int .i64) .nil))), .v (.ty (.sl (.cons (.int .i64) .nil)))], .v (.ag ty2)⟩
def h25 : HT := (nx (nx (nx (.j ⟨[(10, .ref 1000 5), (11, .ref 1001 5)], [(900000, .box b2), (1000, .box [.d .str, .d (.int .i64), .d (.int .i64), .d (.int .i64), .own 1002]), (1001, .box [.d .str, .d (.int .i64), .d (.int .i64), .d (.int .i64), .own 1003]), (1002, .arr (.cons (.int .i64) .nil)), (1003, .arr (.cons (.int .i64) .nil))], []⟩ (nx (.u (nx (.n (nx (.r .x)) (nx (.n (nx (nx (nx (.r .x)))) (.r .x))))))) (nx .e)))))
noncomputable def sh25_K3 (z3 : Ty0 × (List UInt8 × Int × Int × Int × Unit) × (List UInt8 × Int × Int × Int × Unit) × List (Int × Unit) × List (Int × Unit) × Unit) : Option (Ty2 × Ty0 × Unit) :=
 some ((z3.2.2.1.1, z3.2.2.1.2.1, z3.2.2.1.2.2.1, z3.2.2.1.2.2.2.1, z3.2.2.2.2), z3.1, ())
noncomputable def sh25 (fuel : Nat) (x0 : Ty0) (x1 : Int) (x2 : Int) (x3 : List (Int × Unit)) (x4 : List (Int × Unit)) : Option (Ty2 × Ty0 × Unit) :=
 (sp39 (x0, x3, ())).bind fun r0 =>
 (sp24 (r0.2.1, 1, 3, ())).bind fun r1 =>
 (sp40 (r1.2.1, x4, -1, ())).bind fun r2 =>
 joinK sh25_K3 fun j4 =>
 if (r0.1 == 5) = true then j4 (r2.2.1, ([], 0, 0, 0, ()), ([], r0.1, IntKind.i64.wrap (r1.1 + 1), x2, ()), [], [(x1, ()), (r2.1, ())], ())
 else
 if (r0.1 == 4) = true then
 (sp40 (r2.2.1, x4, r2.1, ())).bind fun r5 =>
 if decide (r5.1 < 0) = true then j4 (r5.2.1, ([], 0, 0, 0, ()), ([], 2, r1.1, x2, ()), [], [(r2.1, ())], ())
 else j4 (r5.2.1, ([], 0, 0, 0, ()), ([], r0.1, r1.1, x2, ()), [], [(r2.1, ()), (r5.1, ())], ())
 else j4 (r2.2.1, ([], 0, 0, 0, ()), ([], r0.1, r1.1, x2, ()), [], [(r2.1, ())], ())
noncomputable def sp25 (x : Ty0 × (Int) × (Int) × (List (Int × Unit)) × (List (Int × Unit)) × Unit) : Option (Ty2 × Ty0 × Unit) := sh25 0 x.1 x.2.1 x.2.2.1 x.2.2.2.1 x.2.2.2.2.1
/-! 26 (*baggage/baggagekeep.Src).devices -/
def g26 : Sig := ⟨[.bx ty0, .v (.ag ty4)], .own ty1⟩
def h26 : HT := (nx (nx (.j ⟨[(5, .own 1018)], [(900000, .box b2), (1018, .arr ty1)], []⟩ (nx (.u (.l ⟨[(0, .ref 900000 2), (3, .ref 1000 2), (5, .own 1001), (6, dI)], [(900000, .box b2), (1000, .box b0), (1001, .arr ty1)], []⟩ (.n (nx (.n .e .e)) (.j ⟨[(0, .ref 900000 2), (3, .ref 1014 2), (5, .own 1015), (6, dI)], [(900000, .box b2), (1014, .box b0), (1015, .arr ty1)], []⟩ (.u (nx (.u (.l ⟨[(0, .ref 900000 2), (3, .ref 1002 2), (5, .own 1003), (6, dI), (7, dI)], [(900000, .box b2), (1002, .box b0), (1003, .arr ty1)], []⟩ (.n (nx (.n .e .e)) (.j ⟨[(0, .ref 900000 2), (3, .ref 1010 2), (5, .own 1011), (6, dI), (7, dI)], [(900000, .box b2), (1010, .box b0), (1011, .arr ty1)], []⟩ (.u (nx (.j ⟨[(0, .ref 900000 2), (3, .ref 1006 2), (5, .own 1007), (6, dI), (7, dI)], [(900000, .box b2), (1006, .box b0), (1007, .arr ty1)], []⟩ (.j ⟨[(0, .ref 900000 2), (3, .ref 1004 2), (5, .own 1005), (6, dI), (7, dI), (54, dB)], [(900000, .box b2), (1004, .box b0), (1005, .arr ty1)], []⟩ (.r .x) (nx .e)) (.j ⟨[(0, .ref 900000 2), (3, .ref 1008 2), (5, .own 1009), (6, dI), (7, dI), (68, dB)], [(900000, .box b2), (1008, .box b0), (1009, .arr ty1)], []⟩ (.r .x) (nx .e))))) (.r .x))))))) (.r .x)))))) (nx .e))))
noncomputable def sh26_K0 (z0 : Ty0 × List Ty1 × Unit) : Option (List Ty1 × Ty0 × Unit) :=
 some (z0.2.1, z0.1, ())
noncomputable def sh26_K3 (rc2 : Int × Ty0 × Ty4 × List Ty1 × Unit → Option (List Ty1 × Ty0 × Unit)) (z3 : Int × Ty0 × Ty4 × List Ty1 × Unit) : Option (List Ty1 × Ty0 × Unit) :=
 rc2 (IntKind.i64.wrap (z3.1 + 1), z3.2)
noncomputable def sh26_K6 (rc5 : Int × Int × Ty0 × Ty4 × List Ty1 × Unit → Option (List Ty1 × Ty0 × Unit)) (z6 : Int × Int × Ty0 × Ty4 × List Ty1 × Unit) : Option (List Ty1 × Ty0 × Unit) :=
 rc5 (z6.1, IntKind.i64.wrap (z6.2.1 + 1), z6.2.2)
noncomputable def sh26_K9 (j7 : Int × Int × Ty0 × Ty4 × List Ty1 × Unit → Option (List Ty1 × Ty0 × Unit)) (z9 : Int × Int × Bool × Ty0 × Ty4 × List Ty1 × Unit) : Option (List Ty1 × Ty0 × Unit) :=
 if z9.2.2.1 = true then
 if decide (z9.2.2.2.2.2.1.length + 1 ≤ Abs.lim) = true then
 if decide ((z9.2.2.2.2.2.1.length + 1) * 24 ≤ Abs.lim) = true then
 j7 (z9.1, z9.2.1, z9.2.2.2.1, z9.2.2.2.2.1, z9.2.2.2.2.2.1 ++ [(1, z9.1, z9.2.1, ())], ())
 else none
 else none
 else j7 (z9.1, z9.2.1, z9.2.2.2)
noncomputable def sh26_K8 (j7 : Int × Int × Ty0 × Ty4 × List Ty1 × Unit → Option (List Ty1 × Ty0 × Unit)) (z8 : Int × Int × Ty0 × Ty4 × List Ty1 × Unit) : Option (List Ty1 × Ty0 × Unit) :=
 joinK (sh26_K9 j7) fun j10 =>
 if decide ((↑z8.2.2.2.2.1.length : Int) < 24) = true then (sp22 (z8.2.2.1, 2, ())).bind fun r11 => j10 (z8.1, z8.2.1, r11.1 == 0, r11.2.1, z8.2.2.2)
 else j10 (z8.1, z8.2.1, false, z8.2.2)
noncomputable def sh26_K13 (j12 : Int × Int × Ty0 × Ty4 × List Ty1 × Unit → Option (List Ty1 × Ty0 × Unit)) (z13 : Int × Int × Bool × Ty0 × Ty4 × List Ty1 × Unit) : Option (List Ty1 × Ty0 × Unit) :=
 if z13.2.2.1 = true then
 if decide (z13.2.2.2.2.2.1.length + 1 ≤ Abs.lim) = true then
 if decide ((z13.2.2.2.2.2.1.length + 1) * 24 ≤ Abs.lim) = true then
 j12 (z13.1, z13.2.1, z13.2.2.2.1, z13.2.2.2.2.1, z13.2.2.2.2.2.1 ++ [(2, z13.1, z13.2.1, ())], ())
 else none
 else none
 else j12 (z13.1, z13.2.1, z13.2.2.2)
noncomputable def sh26_L5 (j4 : Int × Ty0 × Ty4 × List Ty1 × Unit → Option (List Ty1 × Ty0 × Unit)) (rc5 : Int × Int × Ty0 × Ty4 × List Ty1 × Unit → Option (List Ty1 × Ty0 × Unit)) (z5 : Int × Int × Ty0 × Ty4 × List Ty1 × Unit) : Option (List Ty1 × Ty0 × Unit) :=
 if inR z5.1 z5.2.2.2.1.1.length = true then
 if decide (z5.2.1 < (lAt ([], 0, 0, 0, [], ()) z5.2.2.2.1.1 z5.1).2.2.1) = true then
 joinK (sh26_K6 rc5) fun j7 =>
 if inR z5.1 z5.2.2.2.1.1.length = true then
 joinK (sh26_K8 j7) fun j12 =>
 joinK (sh26_K13 j12) fun j14 =>
 if decide ((↑z5.2.2.2.2.1.length : Int) < 24) = true then
 (sp22 (z5.2.2.1, 3, ())).bind fun r15 =>
 if (r15.1 == 0) = true then j14 (z5.1, z5.2.1, true, r15.2.1, z5.2.2.2)
 else
 if (z5.2.1 == IntKind.i64.wrap ((lAt ([], 0, 0, 0, [], ()) z5.2.2.2.1.1 z5.1).2.2.1 - 1)) = true then
 if inR z5.1 z5.2.2.2.1.1.length = true then
 j14 (z5.1, z5.2.1, (lAt ([], 0, 0, 0, [], ()) z5.2.2.2.1.1 z5.1).2.1 == 6, r15.2.1, z5.2.2.2)
 else none
 else j14 (z5.1, z5.2.1, false, r15.2.1, z5.2.2.2)
 else j14 (z5.1, z5.2.1, false, z5.2.2)
 else none
 else j4 (z5.1, z5.2.2)
 else none
noncomputable def sh26_L2 (fuel : Nat) (j1 : Ty0 × List Ty1 × Unit → Option (List Ty1 × Ty0 × Unit)) (rc2 : Int × Ty0 × Ty4 × List Ty1 × Unit → Option (List Ty1 × Ty0 × Unit)) (z2 : Int × Ty0 × Ty4 × List Ty1 × Unit) : Option (List Ty1 × Ty0 × Unit) :=
 if decide (z2.1 < (↑z2.2.2.1.1.length : Int)) = true then joinK (sh26_K3 rc2) fun j4 => iter fuel (sh26_L5 j4) (z2.1, 0, z2.2)
 else j1 (z2.2.1, z2.2.2.2)
noncomputable def sh26 (fuel : Nat) (x0 : Ty0) (x1 : Ty4) : Option (List Ty1 × Ty0 × Unit) :=
 joinK sh26_K0 fun j1 => iter fuel (sh26_L2 fuel j1) (0, x0, x1, [], ())
noncomputable def sp26 (x : Ty0 × Ty4 × Unit) : Option (List Ty1 × Ty0 × Unit) := sh26 100000 x.1 x.2.1
/-! 10 (*baggage/baggagekeep.Src).Layout -/
def g10 : Sig := ⟨[.bx ty0], .v (.ag ty4)⟩
def h10 : HT := (nx (nx (nx (nx (nx (.j ⟨[(0, .ref 900000 2), (2, .ref 1073 2), (7, dI), (9, .ref 1074 2)], [(900000, .box b2), (1073, .box [.own 1075, .own 1076]), (1074, .box [.own 1077, .own 1078]), (1075, .arr ty2), (1076, .arr ty1), (1077, .arr ty2), (1078, .arr ty1)], []⟩ (nx (.u (.l ⟨[(0, .ref 900000 2), (2, .ref 1000 2), (4, dI), (6, dI), (7, dI), (8, dI), (9, .ref 1001 2), (10, dI)], [(900000, .box b2), (1000, .box [.own 1002, .own 1003]), (1001, .box [.own 1004, .own 1005]), (1002, .arr ty2), (1003, .arr ty1), (1004, .arr ty2), (1005, .arr ty1)], []⟩ (.n (nx (.n .e .e)) (.j ⟨[(0, .ref 900000 2), (2, .ref 1061 2), (4, dI), (6, dI), (7, dI), (8, dI), (9, .ref 1062 2), (10, dI)], [(900000, .box b2), (1061, .box [.own 1063, .own 1064]), (1062, .box [.own 1065, .own 1066]), (1063, .arr ty2), (1064, .arr ty1), (1065, .arr ty2), (1066, .arr ty1)], []⟩ (.u (nx (.j ⟨[(0, .ref 900000 2), (2, .ref 1022 2), (4, dI), (6, dI), (7, dI), (8, dI), (9, .ref 1023 2), (10, dI), (11, .own 1024), (12, .own 1025)], [(900000, .box b2), (1022, .box [.own 1026, .own 1027]), (1023, .box [.own 1028, .own 1029]), (1024, .arr (.cons (.int .i64) .nil)), (1025, .arr (.cons (.int .i64) .nil)), (1026, .arr ty2), (1027, .arr ty1), (1028, .arr ty2), (1029, .arr ty1)], []⟩ (nx (.u (.l ⟨[(0, .ref 900000 2), (2, .ref 1006 2), (4, dI), (6, dI), (7, dI), (8, dI), (9, .ref 1007 2), (10, dI), (11, .own 1008), (12, .own 1009), (13, dI)], [(900000, .box b2), (1006, .box [.own 1010, .own 1011]), (1007, .box [.own 1012, .own 1013]), (1008, .arr (.cons (.int .i64) .nil)), (1009, .arr (.cons (.int .i64) .nil)), (1010, .arr ty2), (1011, .arr ty1), (1012, .arr ty2), (1013, .arr ty1)], []⟩ (.n (nx (.n .e .e)) (.n (.u (.r .x)) (.r .x)))))) (nx (.j ⟨[(0, .ref 900000 2), (2, .ref 1046 2), (4, dI), (6, dI), (7, dI), (8, dI), (9, .ref 1047 2), (10, dI), (11, .own 1048), (12, .own 1049)], [(900000, .box b2), (1046, .box [.own 1050, .own 1051]), (1047, .box [.own 1052, .own 1053]), (1048, .arr (.cons (.int .i64) .nil)), (1049, .arr (.cons (.int .i64) .nil)), (1050, .arr ty2), (1051, .arr ty1), (1052, .arr ty2), (1053, .arr ty1)], []⟩ (nx (.u (.l ⟨[(0, .ref 900000 2), (2, .ref 1030 2), (4, dI), (6, dI), (7, dI), (8, dI), (9, .ref 1031 2), (10, dI), (11, .own 1032), (12, .own 1033), (14, dI)], [(900000, .box b2), (1030, .box [.own 1034, .own 1035]), (1031, .box [.own 1036, .own 1037]), (1032, .arr (.cons (.int .i64) .nil)), (1033, .arr (.cons (.int .i64) .nil)), (1034, .arr ty2), (1035, .arr ty1), (1036, .arr ty2), (1037, .arr ty1)], []⟩ (.n (nx (.n .e .e)) (.n (.u (.r .x)) (.r .x)))))) (nx (nx (.j ⟨[(0, .ref 900000 2), (2, .ref 1054 2), (4, dI), (6, dI), (7, dI), (8, dI), (9, .ref 1055 2), (10, dI), (15, .ref 1056 5)], [(900000, .box b2), (1054, .box [.own 1057, .own 1058]), (1055, .box [.own 1059, .own 1060]), (1056, .box b1), (1057, .arr ty2), (1058, .arr ty1), (1059, .arr ty2), (1060, .arr ty1)], []⟩ (.u (nx (nx (nx (nx (nx (nx (nx (.n (nx (nx (nx .e))) (nx (nx (.r .x)))))))))))) (nx (.r .x)))))))))) (.r .x)))))) (.j ⟨[(0, .ref 900000 2), (2, .ref 1103 2), (9, .ref 1104 2)], [(900000, .box b2), (1103, .box [.own 1105, .own 1106]), (1104, .box [.own 1107, .own 1108]), (1105, .arr ty2), (1106, .arr ty1), (1107, .arr ty2), (1108, .arr ty1)], []⟩ (nx (.n (nx (.u (.l ⟨[(0, .ref 900000 2), (2, .ref 1079 2), (7, dI), (9, .ref 1080 2), (16, dI)], [(900000, .box b2), (1079, .box [.own 1081, .own 1082]), (1080, .box [.own 1083, .own 1084]), (1081, .arr ty2), (1082, .arr ty1), (1083, .arr ty2), (1084, .arr ty1)], []⟩ (.n (nx (.n .e .e)) (.j ⟨[(0, .ref 900000 2), (2, .ref 1091 2), (7, dI), (9, .ref 1092 2), (16, dI)], [(900000, .box b2), (1091, .box [.own 1093, .own 1094]), (1092, .box [.own 1095, .own 1096]), (1093, .arr ty2), (1094, .arr ty1), (1095, .arr ty2), (1096, .arr ty1)], []⟩ (.u (.j ⟨[(0, .ref 900000 2), (2, .ref 1085 2), (7, dI), (9, .ref 1086 2), (16, dI), (167, dB)], [(900000, .box b2), (1085, .box [.own 1087, .own 1088]), (1086, .box [.own 1089, .own 1090]), (1087, .arr ty2), (1088, .arr ty1), (1089, .arr ty2), (1090, .arr ty1)], []⟩ (.r .x) (.n (.r (.w 14 [(0, 0), (0, 1), (1, 2), (1, 3), (1, 4), (0, 6), (0, 7), (1, 8), (0, 9), (0, 10), (0, 11), (1, 12), (3, 5), (2, 13)])) .e))) (.r .x)))))) .e)) (nx (nx .e)))))))))
noncomputable def sh10_K4 (z4 : Ty0 × Unit × Unit × List Ty2 × List Ty1 × List Ty2 × List Ty1 × Unit) : Option
 (Ty4 × Ty0 × Unit) :=
 (sp26 (z4.1, z4.2.2.2.2.2, ())).bind fun r5 => some ((z4.2.2.2.2.2.1, r5.1, ()), r5.2)
noncomputable def sh10_K9 (rc8 : Int × Int × Ty0 × Unit × Unit × List Ty2 × List Ty1 × List Ty2 × List Ty1 × Unit → Option
 (Ty4 × Ty0 × Unit)) (z9 : Int × Int × Ty0 × Unit × Unit × List Ty2 × List Ty1 × List Ty2 × List Ty1 × Unit) : Option
 (Ty4 × Ty0 × Unit) :=
 rc8 (z9.1, IntKind.i64.wrap (z9.2.1 + 1), z9.2.2.1, (), (), z9.2.2.2.2.2)
noncomputable def sh10_K11 (j10 : Int × Int × Ty0 × Unit × Unit × List Ty2 × List Ty1 × List Ty2 × List Ty1 × Unit → Option
 (Ty4 × Ty0 × Unit)) (z11 : Int × Int × Bool × Ty0 × Unit × Unit × List Ty2 × List Ty1 × List Ty2 × List Ty1 × Unit) : Option
 (Ty4 × Ty0 × Unit) :=
 if z11.2.2.1 = true then
 if inR z11.2.1 z11.2.2.2.2.2.2.2.2.1.length = true then
 if decide (z11.2.1.toNat + 1 ≤ z11.2.2.2.2.2.2.2.2.1.length) = true then
 if
 inCut 1 (↑(List.length (z11.2.2.2.2.2.2.2.2.1.getD z11.2.1.toNat ([], 0, 0, 0, [], ())).2.2.2.2.1) : Int)
 (List.length (z11.2.2.2.2.2.2.2.2.1.getD z11.2.1.toNat ([], 0, 0, 0, [], ())).2.2.2.2.1) =
 true then
 if
 decide
 ([(IntKind.i64.wrap (z11.2.1 + 1), ())].length +
 (cutL (z11.2.2.2.2.2.2.2.2.1.getD z11.2.1.toNat ([], 0, 0, 0, [], ())).2.2.2.2.1 1
 (↑(List.length (z11.2.2.2.2.2.2.2.2.1.getD z11.2.1.toNat ([], 0, 0, 0, [], ())).2.2.2.2.1) : Int)).length ≤
 Abs.lim) =
 true then
 if
 decide
 (([(IntKind.i64.wrap (z11.2.1 + 1), ())].length +
 (cutL (z11.2.2.2.2.2.2.2.2.1.getD z11.2.1.toNat ([], 0, 0, 0, [], ())).2.2.2.2.1 1
 (↑(List.length (z11.2.2.2.2.2.2.2.2.1.getD z11.2.1.toNat ([], 0, 0, 0, [], ())).2.2.2.2.1) : Int)).length) *
 8 ≤
 Abs.lim) =
 true then
 if inR z11.2.1 z11.2.2.2.2.2.2.2.2.1.length = true then
 if decide (z11.2.1.toNat + 1 ≤ z11.2.2.2.2.2.2.2.2.1.length) = true then
 j10
 (z11.1, z11.2.1, z11.2.2.2.1, (), (), z11.2.2.2.2.2.2.1, z11.2.2.2.2.2.2.2.1,
 z11.2.2.2.2.2.2.2.2.1.set z11.2.1.toNat
 ((z11.2.2.2.2.2.2.2.2.1.getD z11.2.1.toNat ([], 0, 0, 0, [], ())).1,
 (z11.2.2.2.2.2.2.2.2.1.getD z11.2.1.toNat ([], 0, 0, 0, [], ())).2.1,
 (z11.2.2.2.2.2.2.2.2.1.getD z11.2.1.toNat ([], 0, 0, 0, [], ())).2.2.1,
 (z11.2.2.2.2.2.2.2.2.1.getD z11.2.1.toNat ([], 0, 0, 0, [], ())).2.2.2.1,
 [(IntKind.i64.wrap (z11.2.1 + 1), ())] ++
 cutL (z11.2.2.2.2.2.2.2.2.1.getD z11.2.1.toNat ([], 0, 0, 0, [], ())).2.2.2.2.1 1
 (↑(List.length (z11.2.2.2.2.2.2.2.2.1.getD z11.2.1.toNat ([], 0, 0, 0, [], ())).2.2.2.2.1) : Int),
 ()),
 z11.2.2.2.2.2.2.2.2.2)
 else none
 else none
 else none
 else none
 else none
 else none
 else none
 else j10 (z11.1, z11.2.1, z11.2.2.2.1, (), (), z11.2.2.2.2.2.2)
noncomputable def sh10_L8 (j6 : Ty0 × Unit × Unit × List Ty2 × List Ty1 × List Ty2 × List Ty1 × Unit → Option
 (Ty4 × Ty0 × Unit)) (rc8 : Int × Int × Ty0 × Unit × Unit × List Ty2 × List Ty1 × List Ty2 × List Ty1 × Unit → Option
 (Ty4 × Ty0 × Unit)) (z8 : Int × Int × Ty0 × Unit × Unit × List Ty2 × List Ty1 × List Ty2 × List Ty1 × Unit) : Option
 (Ty4 × Ty0 × Unit) :=
 if decide (z8.2.1 < z8.1) = true then
 joinK (sh10_K9 rc8) fun j10 =>
 joinK (sh10_K11 j10) fun j12 =>
 if inR z8.2.1 z8.2.2.2.2.2.2.2.1.length = true then
 if decide (z8.2.1.toNat + 1 ≤ z8.2.2.2.2.2.2.2.1.length) = true then
 if ((z8.2.2.2.2.2.2.2.1.getD z8.2.1.toNat ([], 0, 0, 0, [], ())).2.1 != 5) = true then
 if inR z8.2.1 z8.2.2.2.2.2.2.2.1.length = true then
 if decide (z8.2.1.toNat + 1 ≤ z8.2.2.2.2.2.2.2.1.length) = true then
 (sp21 ((z8.2.2.2.2.2.2.2.1.getD z8.2.1.toNat ([], 0, 0, 0, [], ())).2.2.2.2.1, IntKind.i64.wrap (z8.2.1 + 1), ())).bind fun r13 =>
 j12 (z8.1, z8.2.1, !r13.1, z8.2.2.1, (), (), z8.2.2.2.2.2)
 else none
 else none
 else j12 (z8.1, z8.2.1, false, z8.2.2.1, (), (), z8.2.2.2.2.2)
 else none
 else none
 else j6 (z8.2.2.1, (), (), z8.2.2.2.2.2)
noncomputable def sh10_K3 (fuel : Nat) (z3 : Int × Ty0 × Unit × Unit × List Ty2 × List Ty1 × List Ty2 × List Ty1 × Unit) : Option
 (Ty4 × Ty0 × Unit) :=
 joinK sh10_K4 fun j6 =>
 (sp22 (z3.2.1, 4, ())).bind fun r7 =>
 if decide (0 < r7.1) = true then iter fuel (sh10_L8 j6) (z3.1, 0, r7.2.1, (), (), z3.2.2.2.2) else j6 (r7.2.1, (), (), z3.2.2.2.2)
noncomputable def sh10_K16 (rc15 : Int × Int × Int × Int × Int × Ty0 × Unit × Unit × List Ty2 × List Ty1 × List Ty2 × List Ty1 × Unit → Option
 (Ty4 × Ty0 × Unit)) (z16 : Int × Int × Int × Int × Int × Ty0 × Unit × Unit × List Ty2 × List Ty1 × List Ty2 × List Ty1 × Unit) : Option
 (Ty4 × Ty0 × Unit) :=
 rc15 (z16.1, z16.2.1, z16.2.2.1, z16.2.2.2.1, IntKind.i64.wrap (z16.2.2.2.2.1 + 1), z16.2.2.2.2.2.1, (), (), z16.2.2.2.2.2.2.2.2)
noncomputable def sh10_K20 (j17 : Int × Int × Int × Int × Int × Ty0 × Unit × Unit × List Ty2 × List Ty1 × List Ty2 × List Ty1 × Unit → Option
 (Ty4 × Ty0 × Unit)) (z20 : Int × Int × Int × Int × Int × Ty0 × Unit × Unit × Ty2 × List Ty2 × List Ty1 × List Ty2 × List Ty1 × Unit) : Option
 (Ty4 × Ty0 × Unit) :=
 if
 decide
 (z20.2.2.2.2.2.2.2.2.2.2.2.1.length +
 [(toBytes [(IntKind.u8.wrap (IntKind.i64.wrap (65 + z20.2.2.2.2.1)), ())], z20.2.2.2.2.2.2.2.2.1.2)].length ≤
 Abs.lim) =
 true then
 if
 decide
 ((z20.2.2.2.2.2.2.2.2.2.2.2.1.length +
 [(toBytes [(IntKind.u8.wrap (IntKind.i64.wrap (65 + z20.2.2.2.2.1)), ())], z20.2.2.2.2.2.2.2.2.1.2)].length) *
 64 ≤
 Abs.lim) =
 true then
 j17
 (z20.1, z20.2.1, z20.2.2.1, z20.2.2.2.1, z20.2.2.2.2.1, z20.2.2.2.2.2.1, (), (), z20.2.2.2.2.2.2.2.2.2.1, z20.2.2.2.2.2.2.2.2.2.2.1,
 z20.2.2.2.2.2.2.2.2.2.2.2.1 ++ [(toBytes [(IntKind.u8.wrap (IntKind.i64.wrap (65 + z20.2.2.2.2.1)), ())], z20.2.2.2.2.2.2.2.2.1.2)],
 z20.2.2.2.2.2.2.2.2.2.2.2.2)
 else none
 else none
noncomputable def sh10_K19 (j17 : Int × Int × Int × Int × Int × Ty0 × Unit × Unit × List Ty2 × List Ty1 × List Ty2 × List Ty1 × Unit → Option
 (Ty4 × Ty0 × Unit)) (z19 : Int × Int × Int × Int × Int × Ty0 × Unit × Unit × List (Int × Unit) × List (Int × Unit) × List Ty2 × List Ty1 × List Ty2 × List Ty1 × Unit) : Option
 (Ty4 × Ty0 × Unit) :=
 if decide (z19.2.2.2.2.2.2.2.2.2.1.length + 1 ≤ Abs.lim) = true then
 if decide ((z19.2.2.2.2.2.2.2.2.2.1.length + 1) * 8 ≤ Abs.lim) = true then
 joinK (sh10_K20 j17) fun j21 =>
 if (z19.2.2.2.2.1 == 0) = true then
 (sp25 (z19.2.2.2.2.2.1, z19.2.2.2.2.1, 0, [(1, ())], z19.2.2.2.2.2.2.2.2.1, ())).bind fun r22 =>
 j21 (z19.1, z19.2.1, z19.2.2.1, z19.2.2.2.1, z19.2.2.2.2.1, r22.2.1, (), (), r22.1, z19.2.2.2.2.2.2.2.2.2.2)
 else
 if decide (z19.2.2.2.2.1 < z19.2.2.1) = true then
 (sp25 (z19.2.2.2.2.2.1, z19.2.2.2.2.1, 0, [(2, ()), (3, ()), (4, ()), (5, ()), (3, ())], z19.2.2.2.2.2.2.2.2.1, ())).bind fun r23 =>
 j21 (z19.1, z19.2.1, z19.2.2.1, z19.2.2.2.1, z19.2.2.2.2.1, r23.2.1, (), (), r23.1, z19.2.2.2.2.2.2.2.2.2.2)
 else
 if (z19.2.2.2.2.1 == z19.2.2.1) = true then
 (sp24 (z19.2.2.2.2.2.1, 1, 3, ())).bind fun r24 =>
 (sp22 (r24.2.1, (↑(z19.2.2.2.2.2.2.2.2.2.1 ++ [(IntKind.i64.wrap (z19.2.1 - 1), ())]).length : Int), ())).bind fun r25 =>
 if inR r25.1 (z19.2.2.2.2.2.2.2.2.2.1 ++ [(IntKind.i64.wrap (z19.2.1 - 1), ())]).length = true then
 if decide (r25.1.toNat + 1 ≤ (z19.2.2.2.2.2.2.2.2.2.1 ++ [(IntKind.i64.wrap (z19.2.1 - 1), ())]).length) = true then
 j21
 (z19.1, z19.2.1, z19.2.2.1, z19.2.2.2.1, z19.2.2.2.2.1, r25.2.1, (), (),
 ([], 6, r24.1, 0,
 [(z19.2.2.2.1, ()), (z19.2.2.2.2.2.2.2.2.2.1 ++ [(IntKind.i64.wrap (z19.2.1 - 1), ())]).getD r25.1.toNat (0, ())], ()),
 z19.2.2.2.2.2.2.2.2.2.2)
 else none
 else none
 else
 if decide (z19.2.2.2.2.1 < IntKind.i64.wrap (IntKind.i64.wrap (z19.2.2.1 + 1) + z19.1)) = true then
 (sp25
 (z19.2.2.2.2.2.1, z19.2.2.2.2.1, 1, [(2, ()), (4, ()), (5, ()), (7, ())],
 z19.2.2.2.2.2.2.2.2.2.1 ++ [(IntKind.i64.wrap (z19.2.1 - 1), ())], ())).bind
 fun r26 =>
 if (r26.1.2.1 == 7) = true then
 j21
 (z19.1, z19.2.1, z19.2.2.1, z19.2.2.2.1, z19.2.2.2.2.1, r26.2.1, (), (), (r26.1.1, r26.1.2.1, 0, r26.1.2.2.2),
 z19.2.2.2.2.2.2.2.2.2.2)
 else j21 (z19.1, z19.2.1, z19.2.2.1, z19.2.2.2.1, z19.2.2.2.2.1, r26.2.1, (), (), r26.1, z19.2.2.2.2.2.2.2.2.2.2)
 else
 if decide (z19.2.2.2.2.1 < z19.2.2.2.1) = true then
 j21 (z19.1, z19.2.1, z19.2.2.1, z19.2.2.2.1, z19.2.2.2.2.1, z19.2.2.2.2.2.1, (), (), ([], 8, 0, 1, [], ()), z19.2.2.2.2.2.2.2.2.2.2)
 else
 j21
 (z19.1, z19.2.1, z19.2.2.1, z19.2.2.2.1, z19.2.2.2.2.1, z19.2.2.2.2.2.1, (), (),
 ([], 9, 0, IntKind.i64.wrap (z19.2.2.2.2.1 - z19.2.2.2.1), [], ()), z19.2.2.2.2.2.2.2.2.2.2)
 else none
 else none
noncomputable def sh10_L28 (j27 : Int × Int × Int × Int × Int × Ty0 × Unit × Unit × List (Int × Unit) × List (Int × Unit) × List Ty2 × List Ty1 × List Ty2 × List Ty1 × Unit → Option
 (Ty4 × Ty0 × Unit)) (rc28 : Int × Int × Int × Int × Int × Int × Ty0 × Unit × Unit × List (Int × Unit) × List (Int × Unit) × List Ty2 × List Ty1 × List Ty2 × List Ty1 × Unit → Option
 (Ty4 × Ty0 × Unit)) (z28 : Int × Int × Int × Int × Int × Int × Ty0 × Unit × Unit × List (Int × Unit) × List (Int × Unit) × List Ty2 × List Ty1 × List Ty2 × List Ty1 × Unit) : Option
 (Ty4 × Ty0 × Unit) :=
 if decide (z28.2.2.2.2.2.1 < z28.2.2.2.1) = true then
 if decide (z28.2.2.2.2.2.2.2.2.2.2.1.length + 1 ≤ Abs.lim) = true then
 if decide ((z28.2.2.2.2.2.2.2.2.2.2.1.length + 1) * 8 ≤ Abs.lim) = true then
 rc28
 (z28.1, z28.2.1, z28.2.2.1, z28.2.2.2.1, z28.2.2.2.2.1, IntKind.i64.wrap (z28.2.2.2.2.2.1 + 1), z28.2.2.2.2.2.2.1, (), (),
 z28.2.2.2.2.2.2.2.2.2.1, z28.2.2.2.2.2.2.2.2.2.2.1 ++ [(z28.2.2.2.2.2.1, ())], z28.2.2.2.2.2.2.2.2.2.2.2)
 else none
 else none
 else j27 (z28.1, z28.2.1, z28.2.2.1, z28.2.2.2.1, z28.2.2.2.2.1, z28.2.2.2.2.2.2.1, (), (), z28.2.2.2.2.2.2.2.2.2)
noncomputable def sh10_K18 (fuel : Nat) (j17 : Int × Int × Int × Int × Int × Ty0 × Unit × Unit × List Ty2 × List Ty1 × List Ty2 × List Ty1 × Unit → Option
 (Ty4 × Ty0 × Unit)) (z18 : Int × Int × Int × Int × Int × Ty0 × Unit × Unit × List (Int × Unit) × List (Int × Unit) × List Ty2 × List Ty1 × List Ty2 × List Ty1 × Unit) : Option
 (Ty4 × Ty0 × Unit) :=
 if decide (z18.2.2.2.2.2.2.2.2.1.length + 1 ≤ Abs.lim) = true then
 if decide ((z18.2.2.2.2.2.2.2.2.1.length + 1) * 8 ≤ Abs.lim) = true then
 joinK (sh10_K19 j17) fun j27 =>
 iter fuel (sh10_L28 j27)
 (z18.1, z18.2.1, z18.2.2.1, z18.2.2.2.1, z18.2.2.2.2.1,
 IntKind.i64.wrap ((if z18.2.2.1 > z18.2.2.2.2.1 then z18.2.2.1 else z18.2.2.2.2.1) + 1), z18.2.2.2.2.2.1, (), (),
 z18.2.2.2.2.2.2.2.2.1 ++ [(z18.2.2.2.1, ())], z18.2.2.2.2.2.2.2.2.2)
 else none
 else none
noncomputable def sh10_L30 (j29 : Int × Int × Int × Int × Int × Ty0 × Unit × Unit × List (Int × Unit) × List (Int × Unit) × List Ty2 × List Ty1 × List Ty2 × List Ty1 × Unit → Option
 (Ty4 × Ty0 × Unit)) (rc30 : Int × Int × Int × Int × Int × Int × Ty0 × Unit × Unit × List (Int × Unit) × List (Int × Unit) × List Ty2 × List Ty1 × List Ty2 × List Ty1 × Unit → Option
 (Ty4 × Ty0 × Unit)) (z30 : Int × Int × Int × Int × Int × Int × Ty0 × Unit × Unit × List (Int × Unit) × List (Int × Unit) × List Ty2 × List Ty1 × List Ty2 × List Ty1 × Unit) : Option
 (Ty4 × Ty0 × Unit) :=
 if decide (z30.2.2.2.2.2.1 ≤ z30.2.2.1) = true then
 if decide (z30.2.2.2.2.2.2.2.2.2.1.length + 1 ≤ Abs.lim) = true then
 if decide ((z30.2.2.2.2.2.2.2.2.2.1.length + 1) * 8 ≤ Abs.lim) = true then
 rc30
 (z30.1, z30.2.1, z30.2.2.1, z30.2.2.2.1, z30.2.2.2.2.1, IntKind.i64.wrap (z30.2.2.2.2.2.1 + 1), z30.2.2.2.2.2.2.1, (), (),
 z30.2.2.2.2.2.2.2.2.2.1 ++ [(z30.2.2.2.2.2.1, ())], z30.2.2.2.2.2.2.2.2.2.2)
 else none
 else none
 else j29 (z30.1, z30.2.1, z30.2.2.1, z30.2.2.2.1, z30.2.2.2.2.1, z30.2.2.2.2.2.2.1, (), (), z30.2.2.2.2.2.2.2.2.2)
noncomputable def sh10_L15 (fuel : Nat) (j14 : Int × Ty0 × Unit × Unit × List Ty2 × List Ty1 × List Ty2 × List Ty1 × Unit → Option
 (Ty4 × Ty0 × Unit)) (rc15 : Int × Int × Int × Int × Int × Ty0 × Unit × Unit × List Ty2 × List Ty1 × List Ty2 × List Ty1 × Unit → Option
 (Ty4 × Ty0 × Unit)) (z15 : Int × Int × Int × Int × Int × Ty0 × Unit × Unit × List Ty2 × List Ty1 × List Ty2 × List Ty1 × Unit) : Option
 (Ty4 × Ty0 × Unit) :=
 if decide (z15.2.2.2.2.1 < z15.2.1) = true then
 joinK (sh10_K16 rc15) fun j17 =>
 joinK (sh10_K18 fuel j17) fun j29 =>
 iter fuel (sh10_L30 j29)
 (z15.1, z15.2.1, z15.2.2.1, z15.2.2.2.1, z15.2.2.2.2.1, IntKind.i64.wrap (z15.2.2.2.2.1 + 1), z15.2.2.2.2.2.1, (), (), [], [],
 z15.2.2.2.2.2.2.2.2)
 else j14 (z15.2.2.1, z15.2.2.2.2.2.1, (), (), z15.2.2.2.2.2.2.2.2)
noncomputable def sh10 (fuel : Nat) (x0 : Ty0) : Option
 (Ty4 × Ty0 × Unit) :=
 (sp24 (x0, 1, 3, ())).bind fun r0 =>
 (sp24 (r0.2.1, 0, 3, ())).bind fun r1 =>
 (sp24 (r1.2.1, 1, 2, ())).bind fun r2 =>
 joinK (sh10_K3 fuel) fun j14 =>
 iter fuel (sh10_L15 fuel j14)
 (r1.1, IntKind.i64.wrap (IntKind.i64.wrap (IntKind.i64.wrap (IntKind.i64.wrap (r0.1 + 1) + r1.1) + r2.1) + 2), r0.1,
 IntKind.i64.wrap (IntKind.i64.wrap (IntKind.i64.wrap (IntKind.i64.wrap (IntKind.i64.wrap (r0.1 + 1) + r1.1) + r2.1) + 2) - 2), 0, r2.2.1,
 (), (), [], [], [], [], ())
noncomputable def sp10 (x : Ty0 × Unit) : Option
 (Ty4 × Ty0 × Unit) := sh10 100000 x.1
/-! 11 baggage/baggagelaw08.broken -/
def g11 : Sig := ⟨[.v (.ty (.int .i64)), .v (.ty (.int .i64))], .own (.cons .bool .nil)⟩
def h11 : HT := (nx (nx (.j ⟨[(5, .own 1002)], [(1002, .arr (.cons .bool .nil))], []⟩ (nx (.u (.l ⟨[(0, dI), (1, dI), (5, .own 1000), (6, dI)], [(1000, .arr (.cons .bool .nil))], []⟩ (.n (nx (.n .e .e)) (.n (.u (.r .x)) (.r .x)))))) (nx .e))))
noncomputable def sh11_K0 (z0 : List (Bool × Unit) × Unit) : Option (List (Bool × Unit) × Unit) :=
 some z0
noncomputable def sh11_L2 (j1 : List (Bool × Unit) × Unit → Option (List (Bool × Unit) × Unit)) (rc2 : Int × Int × Int × List (Bool × Unit) × Unit → Option (List (Bool × Unit) × Unit)) (z2 : Int × Int × Int × List (Bool × Unit) × Unit) : Option (List (Bool × Unit) × Unit) :=
 if decide (z2.2.2.1 < z2.2.1) = true then
 if decide (0 ≤ IntKind.u64.wrap z2.2.2.1) = true then
 if
 decide
 (z2.2.2.2.1.length +
 [(IntKind.i64.wrap
 (↑(BitVec.ofInt IntKind.i64.bits (z2.1.fdiv (2 ^ min (IntKind.u64.wrap z2.2.2.1).toNat IntKind.i64.bits)) &&&
 BitVec.ofInt IntKind.i64.bits 1).toNat :
 Int) ==
 1,
 ())].length ≤
 Abs.lim) =
 true then
 if
 decide
 ((z2.2.2.2.1.length +
 [(IntKind.i64.wrap
 (↑(BitVec.ofInt IntKind.i64.bits (z2.1.fdiv (2 ^ min (IntKind.u64.wrap z2.2.2.1).toNat IntKind.i64.bits)) &&&
 BitVec.ofInt IntKind.i64.bits 1).toNat :
 Int) ==
 1,
 ())].length) *
 1 ≤
 Abs.lim) =
 true then
 rc2
 (z2.1, z2.2.1, IntKind.i64.wrap (z2.2.2.1 + 1),
 z2.2.2.2.1 ++
 [(IntKind.i64.wrap
 (↑(BitVec.ofInt IntKind.i64.bits (z2.1.fdiv (2 ^ min (IntKind.u64.wrap z2.2.2.1).toNat IntKind.i64.bits)) &&&
 BitVec.ofInt IntKind.i64.bits 1).toNat :
 Int) ==
 1,
 ())],
 ())
 else none
 else none
 else none
 else j1 z2.2.2.2
noncomputable def sh11 (fuel : Nat) (x0 : Int) (x1 : Int) : Option (List (Bool × Unit) × Unit) :=
 joinK sh11_K0 fun j1 => iter fuel (sh11_L2 j1) (x0, x1, 0, [], ())
noncomputable def sp11 (x : (Int) × (Int) × Unit) : Option (List (Bool × Unit) × Unit) := sh11 100000 x.1 x.2.1
/-! 4 baggage/baggagelaw08.RouteFollows -/
def g4 : Sig := ⟨[.v (.ty (.sl (.cons (.int .i64) .nil))), .v (.ty (.int .i64)), .v (.ty (.int .i64)), .v (.ty (.int .i64))], .v (.ty .bool)⟩
def h4 : HT := (nx (nx (nx (.n (.r .q) (nx (.n (nx (.n (.j ⟨[(8, dB)], [], []⟩ (.r .x) .e) .e)) (nx (.j ⟨[(3, dI), (9, .ref 1006 2), (10, .own 1007), (11, dI), (12, dI), (13, dI)], [(1006, .box b0), (1007, .arr (.cons .bool .nil))], []⟩ (nx (.u (.l ⟨[(3, dI), (9, .ref 1000 2), (10, .own 1001), (11, dI), (12, dI), (13, dI), (14, dI)], [(1000, .box b0), (1001, .arr (.cons .bool .nil))], []⟩ (.n (nx (.n .e .e)) (.n (.u (nx (.n (.j ⟨[(3, dI), (9, .ref 1002 2), (10, .own 1003), (11, dI), (12, dI), (13, dI), (14, dI), (15, dI), (99, dB)], [(1002, .box b0), (1003, .arr (.cons .bool .nil))], []⟩ (.r .x) (.n (nx .e) .e)) (nx (.r .x))))) (.r .x)))))) (.j ⟨[(8, dB)], [], []⟩ (.r .x) .e)))))))))
noncomputable def sh4_K6 (z6 : Bool × Unit) : Option (Bool × Unit) :=
 some z6
noncomputable def sh4_K11 (z11 : Bool × Unit) : Option (Bool × Unit) :=
 some z11
noncomputable def sh4_K10 (z10 : Int × Int × Int × Int × Ty4 × List (Bool × Unit) × Unit) : Option (Bool × Unit) :=
 joinK sh4_K11 fun j12 =>
 if (z10.2.2.1 == z10.2.1) = true then
 if inR z10.2.2.2.1 z10.2.2.2.2.2.1.length = true then
 if decide (z10.2.2.2.1.toNat + 1 ≤ z10.2.2.2.2.2.1.length) = true then
 if (!(z10.2.2.2.2.2.1.getD z10.2.2.2.1.toNat (false, ())).1) = true then
 (sp14 (z10.2.2.2.2.1, z10.2.2.2.2.2.1, z10.2.2.2.1, z10.1, ())).bind fun r13 =>
 if (r13.1 == -1) = true then (sp8 ()).bind fun r14 => j12 r14 else j12 (false, ())
 else j12 (false, ())
 else none
 else none
 else j12 (false, ())
noncomputable def sh4_K18 (rc16 : Int × Int × Int × Int × Int × Ty4 × List (Bool × Unit) × Unit → Option (Bool × Unit)) (z18 : Int × Int × Int × Int × Int × Int × Bool × Ty4 × List (Bool × Unit) × Unit) : Option (Bool × Unit) :=
 if z18.2.2.2.2.2.2.1 = true then some (false, ())
 else
 if inR z18.2.2.2.1 z18.2.2.2.2.2.2.2.1.1.length = true then
 if inR z18.2.2.2.1 z18.2.2.2.2.2.2.2.1.1.length = true then
 if inR z18.2.2.2.2.2.1 (List.length (lAt ([], 0, 0, 0, [], ()) z18.2.2.2.2.2.2.2.1.1 z18.2.2.2.1).2.2.2.2.1) = true then
 rc16
 (z18.1, z18.2.1, IntKind.i64.wrap (z18.2.2.1 + (lAt ([], 0, 0, 0, [], ()) z18.2.2.2.2.2.2.2.1.1 z18.2.2.2.1).2.2.1),
 (lAt (0, ()) (lAt ([], 0, 0, 0, [], ()) z18.2.2.2.2.2.2.2.1.1 z18.2.2.2.1).2.2.2.2.1 z18.2.2.2.2.2.1).1,
 IntKind.i64.wrap (z18.2.2.2.2.1 + 1), z18.2.2.2.2.2.2.2)
 else none
 else none
 else none
noncomputable def sh4_L16 (j15 : Int × Int × Int × Int × Ty4 × List (Bool × Unit) × Unit → Option (Bool × Unit)) (rc16 : Int × Int × Int × Int × Int × Ty4 × List (Bool × Unit) × Unit → Option (Bool × Unit)) (z16 : Int × Int × Int × Int × Int × Ty4 × List (Bool × Unit) × Unit) : Option (Bool × Unit) :=
 if (z16.2.2.2.1 != z16.1) = true then
 (sp14 (z16.2.2.2.2.2.1, z16.2.2.2.2.2.2.1, z16.2.2.2.1, z16.1, ())).bind fun r17 =>
 joinK (sh4_K18 rc16) fun j19 =>
 if inR z16.2.2.2.1 z16.2.2.2.2.2.2.1.length = true then
 if decide (z16.2.2.2.1.toNat + 1 ≤ z16.2.2.2.2.2.2.1.length) = true then
 if (z16.2.2.2.2.2.2.1.getD z16.2.2.2.1.toNat (false, ())).1 = true then
 j19 (z16.1, z16.2.1, z16.2.2.1, z16.2.2.2.1, z16.2.2.2.2.1, r17.1, true, z16.2.2.2.2.2)
 else
 if decide ((↑z16.2.2.2.2.2.1.1.length : Int) < z16.2.2.2.2.1) = true then
 j19 (z16.1, z16.2.1, z16.2.2.1, z16.2.2.2.1, z16.2.2.2.2.1, r17.1, true, z16.2.2.2.2.2)
 else
 if decide (r17.1 < 0) = true then j19 (z16.1, z16.2.1, z16.2.2.1, z16.2.2.2.1, z16.2.2.2.2.1, r17.1, true, z16.2.2.2.2.2)
 else
 if inR z16.2.2.2.1 z16.2.2.2.2.2.1.1.length = true then
 if decide ((↑(List.length (lAt ([], 0, 0, 0, [], ()) z16.2.2.2.2.2.1.1 z16.2.2.2.1).2.2.2.2.1) : Int) ≤ r17.1) = true then
 j19 (z16.1, z16.2.1, z16.2.2.1, z16.2.2.2.1, z16.2.2.2.2.1, r17.1, true, z16.2.2.2.2.2)
 else
 if inR z16.2.2.2.1 z16.2.2.2.2.2.1.1.length = true then
 if inR r17.1 (List.length (lAt ([], 0, 0, 0, [], ()) z16.2.2.2.2.2.1.1 z16.2.2.2.1).2.2.2.2.1) = true then
 j19
 (z16.1, z16.2.1, z16.2.2.1, z16.2.2.2.1, z16.2.2.2.2.1, r17.1,
 (lAt (0, ()) (lAt ([], 0, 0, 0, [], ()) z16.2.2.2.2.2.1.1 z16.2.2.2.1).2.2.2.2.1 r17.1).1 == z16.2.2.2.1, z16.2.2.2.2.2)
 else none
 else none
 else none
 else none
 else none
 else j15 (z16.1, z16.2.1, z16.2.2.1, z16.2.2.2.1, z16.2.2.2.2.2)
noncomputable def sh4 (fuel : Nat) (x0 : List (Int × Unit)) (x1 : Int) (x2 : Int) (x3 : Int) : Option (Bool × Unit) :=
 (sp9 (x0, ())).bind fun r0 =>
 (sp10 r0).bind fun r1 =>
 (sp11 (x1, (↑r1.1.1.length : Int), ())).bind fun r2 =>
 (sp19 (x2, (↑r1.1.1.length : Int), ())).bind fun r3 =>
 (sp19 (x3, (↑r1.1.1.length : Int), ())).bind fun r4 =>
 (sp12 (r1.1, r2.1, r3.1, r4)).bind fun r5 =>
 if decide (r5.1 < 0) = true then
 joinK sh4_K6 fun j7 =>
 (sp14 (r1.1, r2.1, r3.1, r4)).bind fun r8 => if (r8.1 == -1) = true then (sp8 ()).bind fun r9 => j7 r9 else j7 (false, ())
 else joinK sh4_K10 fun j15 => iter fuel (sh4_L16 j15) (r4.1, r5.1, 0, r3.1, 0, r1.1, r2)
noncomputable def sp4 (x : (List (Int × Unit)) × (Int) × (Int) × (Int) × Unit) : Option (Bool × Unit) := sh4 100000 x.1 x.2.1 x.2.2.1 x.2.2.2.1
/-! 5 baggage/baggagelaw08.RouteLeast -/
def g5 : Sig := ⟨[.v (.ty (.sl (.cons (.int .i64) .nil))), .v (.ty (.int .i64)), .v (.ty (.sl (.cons (.int .i64) .nil))), .v (.ty (.int .i64))], .v (.ty .bool)⟩
def h5 : HT := (nx (nx (nx (nx (nx (nx (nx (.j ⟨[], [], []⟩ (nx (.u (.l ⟨[(9, .ref 1017 2), (10, .d (.ty (.sl (.cons .bool .nil)))), (11, dI), (12, dI), (13, .ref 1018 2), (14, dI), (15, dI)], [(1017, .box b0), (1018, .box b2)], []⟩ (.n (.j ⟨[(9, .ref 1019 2), (10, .d (.ty (.sl (.cons .bool .nil)))), (11, dI), (12, dI), (13, .ref 1020 2), (14, dI), (15, dI), (42, dB)], [(1019, .box b0), (1020, .box b2)], []⟩ (.r .x) (.n .e .e)) (.n (.u (nx (.j ⟨[(9, .ref 1024 2), (10, .d (.ty (.sl (.cons .bool .nil)))), (12, dI), (13, .ref 1025 2), (14, dI), (15, dI), (16, .ref 1026 5)], [(1024, .box b0), (1025, .box b2), (1026, .box b1)], []⟩ (nx (.n (nx (.j ⟨[(9, .ref 1021 2), (10, .d (.ty (.sl (.cons .bool .nil)))), (12, dI), (13, .ref 1022 2), (14, dI), (15, dI), (16, .ref 1023 5), (74, dB)], [(1021, .box b0), (1022, .box b2), (1023, .box b1)], []⟩ (.r .x) (.n (nx .e) .e))) .e)) (.n (.j ⟨[(9, .ref 1027 2), (10, .d (.ty (.sl (.cons .bool .nil)))), (12, dI), (13, .ref 1028 2), (14, dI), (15, dI), (16, .ref 1029 5), (88, dB)], [(1027, .box b0), (1028, .box b2), (1029, .box b1)], []⟩ (.r .x) (.n .e .e)) (nx (.r (.w 7 [(0, 0), (0, 1), (1, 2), (0, 3), (0, 4), (0, 5), (2, 6)]))))))) (.r .x)))))) (nx .e)))))))))
noncomputable def sh5_K5 (z5 : Unit) : Option (Bool × Unit) :=
 (sp8 ()).bind fun r6 => some r6
noncomputable def sh5_K11 (j7 : Unit → Option (Bool × Unit)) (rc8 : List (Bool × Unit) × Int × Int × Int × Int × Ty4 × Ty0 × Unit → Option (Bool × Unit)) (z11 : List (Bool × Unit) × Int × Int × Int × Bool × Ty4 × Ty0 × Ty2 × Unit) : Option (Bool × Unit) :=
 if z11.2.2.2.2.1 = true then j7 ()
 else
 (sp22 (z11.2.2.2.2.2.2.1, (↑z11.2.2.2.2.2.2.2.1.2.2.2.2.1.length : Int), ())).bind fun r12 =>
 if inR r12.1 z11.2.2.2.2.2.2.2.1.2.2.2.2.1.length = true then
 rc8
 (z11.1, (lAt (0, ()) z11.2.2.2.2.2.2.2.1.2.2.2.2.1 r12.1).1, z11.2.1, IntKind.i64.wrap (z11.2.2.1 + z11.2.2.2.2.2.2.2.1.2.2.1),
 IntKind.i64.wrap (z11.2.2.2.1 + 1), z11.2.2.2.2.2.1, r12.2)
 else none
noncomputable def sh5_K10 (j7 : Unit → Option (Bool × Unit)) (rc8 : List (Bool × Unit) × Int × Int × Int × Int × Ty4 × Ty0 × Unit → Option (Bool × Unit)) (z10 : List (Bool × Unit) × Int × Int × Int × Ty4 × Ty0 × Ty2 × Unit) : Option (Bool × Unit) :=
 joinK (sh5_K11 j7 rc8) fun j13 =>
 if ((↑z10.2.2.2.2.2.2.1.2.2.2.2.1.length : Int) == 0) = true then j13 (z10.1, z10.2.1, z10.2.2.1, z10.2.2.2.1, true, z10.2.2.2.2)
 else
 if decide (0 < z10.2.2.2.1) = true then
 (sp20 (z10.2.2.2.2.2.2.1.2.1, ())).bind fun r14 => j13 (z10.1, z10.2.1, z10.2.2.1, z10.2.2.2.1, !r14.1, z10.2.2.2.2)
 else j13 (z10.1, z10.2.1, z10.2.2.1, z10.2.2.2.1, false, z10.2.2.2.2)
noncomputable def sh5_K18 (j15 : List (Bool × Unit) × Int × Int × Int × Ty4 × Ty0 × Ty2 × Unit → Option (Bool × Unit)) (z18 : List (Bool × Unit) × Int × Int × Int × Bool × Ty4 × Ty0 × Ty2 × Unit) : Option (Bool × Unit) :=
 if z18.2.2.2.2.1 = true then some (false, ()) else j15 (z18.1, z18.2.1, z18.2.2.1, z18.2.2.2.1, z18.2.2.2.2.2)
noncomputable def sh5_K9 (j7 : Unit → Option (Bool × Unit)) (rc8 : List (Bool × Unit) × Int × Int × Int × Int × Ty4 × Ty0 × Unit → Option (Bool × Unit)) (z9 : List (Bool × Unit) × Int × Int × Int × Int × Bool × Ty4 × Ty0 × Unit) : Option (Bool × Unit) :=
 if z9.2.2.2.2.2.1 = true then
 if inR z9.2.1 z9.2.2.2.2.2.2.1.1.length = true then
 joinK (sh5_K10 j7 rc8) fun j15 =>
 (sp20 ((lAt ([], 0, 0, 0, [], ()) z9.2.2.2.2.2.2.1.1 z9.2.1).2.1, ())).bind fun r16 =>
 if (!r16.1) = true then
 (sp12 (z9.2.2.2.2.2.2.1, z9.1, z9.2.2.1, z9.2.1, ())).bind fun r17 =>
 joinK (sh5_K18 j15) fun j19 =>
 if decide (r17.1 < 0) = true then
 j19
 (z9.1, z9.2.2.1, z9.2.2.2.1, z9.2.2.2.2.1, true, z9.2.2.2.2.2.2.1, z9.2.2.2.2.2.2.2.1,
 lAt ([], 0, 0, 0, [], ()) z9.2.2.2.2.2.2.1.1 z9.2.1, ())
 else
 if decide (z9.2.2.2.1 < r17.1) = true then
 j19
 (z9.1, z9.2.2.1, z9.2.2.2.1, z9.2.2.2.2.1, true, z9.2.2.2.2.2.2.1, z9.2.2.2.2.2.2.2.1,
 lAt ([], 0, 0, 0, [], ()) z9.2.2.2.2.2.2.1.1 z9.2.1, ())
 else
 (sp17 (z9.2.2.2.2.2.2.1, z9.1, z9.2.2.1, ())).bind fun r20 =>
 (sp21 (r20.1, z9.2.1, ())).bind fun r21 =>
 j19
 (z9.1, z9.2.2.1, z9.2.2.2.1, z9.2.2.2.2.1, !r21.1, z9.2.2.2.2.2.2.1, z9.2.2.2.2.2.2.2.1,
 lAt ([], 0, 0, 0, [], ()) z9.2.2.2.2.2.2.1.1 z9.2.1, ())
 else
 j15
 (z9.1, z9.2.2.1, z9.2.2.2.1, z9.2.2.2.2.1, z9.2.2.2.2.2.2.1, z9.2.2.2.2.2.2.2.1, lAt ([], 0, 0, 0, [], ()) z9.2.2.2.2.2.2.1.1 z9.2.1, ())
 else none
 else j7 ()
noncomputable def sh5_L8 (j7 : Unit → Option (Bool × Unit)) (rc8 : List (Bool × Unit) × Int × Int × Int × Int × Ty4 × Ty0 × Unit → Option (Bool × Unit)) (z8 : List (Bool × Unit) × Int × Int × Int × Int × Ty4 × Ty0 × Unit) : Option (Bool × Unit) :=
 joinK (sh5_K9 j7 rc8) fun j22 =>
 if decide (z8.2.2.2.2.1 < 40) = true then
 if inR z8.2.1 z8.1.length = true then j22 (z8.1, z8.2.1, z8.2.2.1, z8.2.2.2.1, z8.2.2.2.2.1, !(lAt (false, ()) z8.1 z8.2.1).1, z8.2.2.2.2.2)
 else none
 else j22 (z8.1, z8.2.1, z8.2.2.1, z8.2.2.2.1, z8.2.2.2.2.1, false, z8.2.2.2.2.2)
noncomputable def sh5 (fuel : Nat) (x0 : List (Int × Unit)) (x1 : Int) (x2 : List (Int × Unit)) (x3 : Int) : Option (Bool × Unit) :=
 (sp9 (x0, ())).bind fun r0 =>
 (sp10 r0).bind fun r1 =>
 (sp11 (x1, (↑r1.1.1.length : Int), ())).bind fun r2 =>
 (sp19 (x3, (↑r1.1.1.length : Int), ())).bind fun r3 =>
 (sp9 (x2, ())).bind fun r4 => joinK sh5_K5 fun j7 => iter fuel (sh5_L8 j7) (r2.1, r3.1, r3.1, 0, 0, r1.1, r4)
noncomputable def sp5 (x : (List (Int × Unit)) × (Int) × (List (Int × Unit)) × (Int) × Unit) : Option (Bool × Unit) := sh5 100000 x.1 x.2.1 x.2.2.1 x.2.2.2.1
/-! 6 baggage/baggagelaw08.RouteRepairs -/
def g6 : Sig := ⟨[.v (.ty (.sl (.cons (.int .i64) .nil))), .v (.ty (.int .i64)), .v (.ty (.int .i64)), .v (.ty (.int .i64)), .v (.ty (.int .i64))], .v (.ty .bool)⟩
def h6 : HT := (nx (nx (nx (nx (nx (nx (nx (.n (.r .q) (.n (.j ⟨[(2, dI), (3, dI), (4, dI), (11, .ref 1000 2), (12, dI), (13, .own 1001), (15, dI), (16, dI), (69, dB)], [(1000, .box b0), (1001, .arr (.cons .bool .nil))], []⟩ (.r .x) (.n (nx .e) .e)) (nx (nx (.j ⟨[(15, dI), (16, dI), (17, dB)], [], []⟩ (nx (.u (.l ⟨[(2, dI), (4, dI), (11, .ref 1002 2), (12, dI), (13, .own 1003), (15, dI), (16, dI), (17, dB), (18, dI), (19, dI)], [(1002, .box b0), (1003, .arr (.cons .bool .nil))], []⟩ (.n (.j ⟨[(2, dI), (4, dI), (11, .ref 1004 2), (12, dI), (13, .own 1005), (15, dI), (16, dI), (17, dB), (18, dI), (19, dI), (85, dB)], [(1004, .box b0), (1005, .arr (.cons .bool .nil))], []⟩ (.r .x) (.n .e .e)) (.j ⟨[(2, dI), (4, dI), (11, .ref 1008 2), (12, dI), (13, .own 1009), (15, dI), (16, dI), (17, dB), (18, dI), (19, dI)], [(1008, .box b0), (1009, .arr (.cons .bool .nil))], []⟩ (.u (nx (.n (.j ⟨[(2, dI), (4, dI), (11, .ref 1006 2), (12, dI), (13, .own 1007), (15, dI), (16, dI), (17, dB), (18, dI), (19, dI), (20, dI), (105, dB)], [(1006, .box b0), (1007, .arr (.cons .bool .nil))], []⟩ (.r .x) (.n (nx .e) .e)) (nx (.r .x))))) (.r .x)))))) (.j ⟨[(10, dB)], [], []⟩ (.r .x) .e)))))))))))))
noncomputable def sh6_K10 (z10 : Bool × Unit) : Option (Bool × Unit) :=
 some z10
noncomputable def sh6_K9 (z9 : Int × Int × Bool × Unit) : Option (Bool × Unit) :=
 joinK sh6_K10 fun j11 =>
 if decide (z9.1 < 0) = true then (sp8 ()).bind fun r12 => j11 r12
 else
 if z9.2.2.1 = true then (sp8 ()).bind fun r13 => j11 r13
 else if (z9.2.1 == z9.1) = true then (sp8 ()).bind fun r14 => j11 r14 else j11 (false, ())
noncomputable def sh6_K18 (rc16 : Int × Int × Int × Int × Int × Bool × Int × Int × Ty4 × List (Bool × Unit) × Unit → Option (Bool × Unit)) (z18 : Int × Int × Int × Int × Int × Bool × Int × Int × Ty4 × List (Bool × Unit) × Unit) : Option (Bool × Unit) :=
 rc16
 (z18.1, z18.2.1, z18.2.2.1, z18.2.2.2.1, z18.2.2.2.2.1, z18.2.2.2.2.2.1, z18.2.2.2.2.2.2.1, IntKind.i64.wrap (z18.2.2.2.2.2.2.2.1 + 1),
 z18.2.2.2.2.2.2.2.2)
noncomputable def sh6_K21 (j19 : Int × Int × Int × Int × Int × Bool × Int × Int × Ty4 × List (Bool × Unit) × Unit → Option (Bool × Unit)) (z21 : Int × Int × Int × Int × Int × Bool × Int × Int × Int × Bool × Ty4 × List (Bool × Unit) × Unit) : Option (Bool × Unit) :=
 if z21.2.2.2.2.2.2.2.2.2.1 = true then some (false, ())
 else
 if inR z21.2.2.2.2.2.2.1 z21.2.2.2.2.2.2.2.2.2.2.1.1.length = true then
 if inR z21.2.2.2.2.2.2.2.2.1 (List.length (lAt ([], 0, 0, 0, [], ()) z21.2.2.2.2.2.2.2.2.2.2.1.1 z21.2.2.2.2.2.2.1).2.2.2.2.1) = true then
 if z21.2.2.2.2.2.1 = true then
 j19
 (z21.1, z21.2.1, z21.2.2.1, z21.2.2.2.1, z21.2.2.2.2.1, true,
 (lAt (0, ()) (lAt ([], 0, 0, 0, [], ()) z21.2.2.2.2.2.2.2.2.2.2.1.1 z21.2.2.2.2.2.2.1).2.2.2.2.1 z21.2.2.2.2.2.2.2.2.1).1,
 z21.2.2.2.2.2.2.2.1, z21.2.2.2.2.2.2.2.2.2.2)
 else
 j19
 (z21.1, z21.2.1, z21.2.2.1, z21.2.2.2.1, z21.2.2.2.2.1,
 (lAt (0, ()) (lAt ([], 0, 0, 0, [], ()) z21.2.2.2.2.2.2.2.2.2.2.1.1 z21.2.2.2.2.2.2.1).2.2.2.2.1 z21.2.2.2.2.2.2.2.2.1).1 == z21.1,
 (lAt (0, ()) (lAt ([], 0, 0, 0, [], ()) z21.2.2.2.2.2.2.2.2.2.2.1.1 z21.2.2.2.2.2.2.1).2.2.2.2.1 z21.2.2.2.2.2.2.2.2.1).1,
 z21.2.2.2.2.2.2.2.1, z21.2.2.2.2.2.2.2.2.2.2)
 else none
 else none
noncomputable def sh6_K17 (j15 : Int × Int × Bool × Unit → Option (Bool × Unit)) (rc16 : Int × Int × Int × Int × Int × Bool × Int × Int × Ty4 × List (Bool × Unit) × Unit → Option (Bool × Unit)) (z17 : Int × Int × Int × Int × Int × Bool × Int × Int × Bool × Ty4 × List (Bool × Unit) × Unit) : Option (Bool × Unit) :=
 if z17.2.2.2.2.2.2.2.2.1 = true then
 joinK (sh6_K18 rc16) fun j19 =>
 (sp14 (z17.2.2.2.2.2.2.2.2.2.1, z17.2.2.2.2.2.2.2.2.2.2.1, z17.2.2.2.2.2.2.1, z17.2.1, ())).bind fun r20 =>
 joinK (sh6_K21 j19) fun j22 =>
 if decide (r20.1 < 0) = true then
 j22
 (z17.1, z17.2.1, z17.2.2.1, z17.2.2.2.1, z17.2.2.2.2.1, z17.2.2.2.2.2.1, z17.2.2.2.2.2.2.1, z17.2.2.2.2.2.2.2.1, r20.1, true,
 z17.2.2.2.2.2.2.2.2.2)
 else
 if inR z17.2.2.2.2.2.2.1 z17.2.2.2.2.2.2.2.2.2.1.1.length = true then
 j22
 (z17.1, z17.2.1, z17.2.2.1, z17.2.2.2.1, z17.2.2.2.2.1, z17.2.2.2.2.2.1, z17.2.2.2.2.2.2.1, z17.2.2.2.2.2.2.2.1, r20.1,
 decide ((↑(List.length (lAt ([], 0, 0, 0, [], ()) z17.2.2.2.2.2.2.2.2.2.1.1 z17.2.2.2.2.2.2.1).2.2.2.2.1) : Int) ≤ r20.1),
 z17.2.2.2.2.2.2.2.2.2)
 else none
 else j15 (z17.2.2.2.1, z17.2.2.2.2.1, z17.2.2.2.2.2.1, ())
noncomputable def sh6_L16 (j15 : Int × Int × Bool × Unit → Option (Bool × Unit)) (rc16 : Int × Int × Int × Int × Int × Bool × Int × Int × Ty4 × List (Bool × Unit) × Unit → Option (Bool × Unit)) (z16 : Int × Int × Int × Int × Int × Bool × Int × Int × Ty4 × List (Bool × Unit) × Unit) : Option (Bool × Unit) :=
 joinK (sh6_K17 j15 rc16) fun j23 =>
 if decide (z16.2.2.2.2.2.2.2.1 < z16.2.2.1) = true then
 if decide (0 ≤ z16.2.2.2.1) = true then
 j23
 (z16.1, z16.2.1, z16.2.2.1, z16.2.2.2.1, z16.2.2.2.2.1, z16.2.2.2.2.2.1, z16.2.2.2.2.2.2.1, z16.2.2.2.2.2.2.2.1, z16.2.2.2.2.2.2.1 != z16.2.1,
 z16.2.2.2.2.2.2.2.2)
 else
 j23 (z16.1, z16.2.1, z16.2.2.1, z16.2.2.2.1, z16.2.2.2.2.1, z16.2.2.2.2.2.1, z16.2.2.2.2.2.2.1, z16.2.2.2.2.2.2.2.1, false, z16.2.2.2.2.2.2.2.2)
 else
 j23 (z16.1, z16.2.1, z16.2.2.1, z16.2.2.2.1, z16.2.2.2.2.1, z16.2.2.2.2.2.1, z16.2.2.2.2.2.2.1, z16.2.2.2.2.2.2.2.1, false, z16.2.2.2.2.2.2.2.2)
noncomputable def sh6_K8 (fuel : Nat) (z8 : Int × Int × Int × Int × Int × Int × Bool × Ty4 × List (Bool × Unit) × Unit) : Option (Bool × Unit) :=
 if z8.2.2.2.2.2.2.1 = true then some (false, ())
 else
 joinK sh6_K9 fun j15 =>
 iter fuel (sh6_L16 j15) (z8.1, z8.2.2.1, z8.2.2.2.1, z8.2.2.2.2.1, z8.2.2.2.2.2.1, z8.2.1 == z8.1, z8.2.1, 0, z8.2.2.2.2.2.2.2)
noncomputable def sh6 (fuel : Nat) (x0 : List (Int × Unit)) (x1 : Int) (x2 : Int) (x3 : Int) (x4 : Int) : Option (Bool × Unit) :=
 (sp9 (x0, ())).bind fun r0 =>
 (sp10 r0).bind fun r1 =>
 (sp19 (x3, (↑r1.1.1.length : Int), ())).bind fun r2 =>
 (sp19 (x4, (↑r1.1.1.length : Int), ())).bind fun r3 =>
 (sp19 (x2, (↑r1.1.1.length : Int), ())).bind fun r4 =>
 (sp11 (x1, (↑r1.1.1.length : Int), ())).bind fun r5 =>
 if decide (0 + r5.1.length ≤ Abs.lim) = true then
 if decide ((0 + r5.1.length) * 1 ≤ Abs.lim) = true then
 if inR r4.1 r5.1.length = true then
 if decide (r4.1.toNat + 1 ≤ r5.1.length) = true then
 (sp12 (r1.1, r5.1, r2.1, r3)).bind fun r6 =>
 (sp12 (r1.1, r5.1.set r4.1.toNat (true, ()), r2.1, r3)).bind fun r7 =>
 joinK (sh6_K8 fuel) fun j24 =>
 if decide (r6.1 < 0) = true then
 if decide (0 ≤ r7.1) = true then j24 (r4.1, r2.1, r3.1, (↑r1.1.1.length : Int), r6.1, r7.1, true, r1.1, r5)
 else
 if decide (0 ≤ r7.1) = true then
 j24 (r4.1, r2.1, r3.1, (↑r1.1.1.length : Int), r6.1, r7.1, decide (r7.1 < r6.1), r1.1, r5)
 else j24 (r4.1, r2.1, r3.1, (↑r1.1.1.length : Int), r6.1, r7.1, false, r1.1, r5)
 else
 if decide (0 ≤ r7.1) = true then
 j24 (r4.1, r2.1, r3.1, (↑r1.1.1.length : Int), r6.1, r7.1, decide (r7.1 < r6.1), r1.1, r5)
 else j24 (r4.1, r2.1, r3.1, (↑r1.1.1.length : Int), r6.1, r7.1, false, r1.1, r5)
 else none
 else none
 else none
 else none
noncomputable def sp6 (x : (List (Int × Unit)) × (Int) × (Int) × (Int) × (Int) × Unit) : Option (Bool × Unit) := sh6 100000 x.1 x.2.1 x.2.2.1 x.2.2.2.1 x.2.2.2.2.1
end Go.Proofs.YtjficagemeiecaaDoor
