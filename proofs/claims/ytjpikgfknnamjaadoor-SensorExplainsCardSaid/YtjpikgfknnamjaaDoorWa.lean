/- What the functions of the program come to. -/
import Derived.Test.YtjpikgfknnamjaaDoorLibG
import Derived.Test.YtjpikgfknnamjaaDoorProg
import Derived.KernelRfl
open Go Go.Proofs Go.Abs
set_option linter.unusedVariables false
set_option maxRecDepth 100000
namespace Go.Proofs.YtjpikgfknnamjaaDoor
def ty0 : Tys := .cons (.int .i64) (.cons .bool (.cons .str .nil))
abbrev Ty0 : Type := Int × Bool × List UInt8 × Unit
def ty1 : Tys := .cons (.sl (.cons (.int .i64) .nil)) (.cons (.int .i64) .nil)
abbrev Ty1 : Type := List (Int × Unit) × Int × Unit
def ty2 : Tys := .cons (.int .i64) (.cons (.int .i64) (.cons (.int .i64) .nil))
abbrev Ty2 : Type := Int × Int × Int × Unit
def ty3 : Tys := .cons (.int .i64) (.cons (.int .i64) (.cons (.int .i64) (.cons .str .nil)))
abbrev Ty3 : Type := Int × Int × Int × List UInt8 × Unit
def ty4 : Tys := .cons .str (.cons (.int .i64) (.cons (.int .i64) (.cons (.int .i64) (.cons (.sl (.cons (.int .i64) .nil)) .nil))))
abbrev Ty4 : Type := List UInt8 × Int × Int × Int × List (Int × Unit) × Unit
def ty5 : Tys := .cons (.sl (.cons (.sl (.cons (.int .i64) .nil)) .nil)) (.cons (.sl (.cons (.sl (.cons (.int .i64) .nil)) .nil)) .nil)
abbrev Ty5 : Type := List (List (Int × Unit) × Unit) × List (List (Int × Unit) × Unit) × Unit
def ty6 : Tys := .cons .str (.cons (.int .i64) (.cons (.int .i64) (.cons (.int .i64) (.cons (.sl (.cons (.int .i64) .nil)) (.cons (.int .i64) (.cons (.int .i64) (.cons (.int .i64) (.cons (.sl (.cons .str .nil)) .nil))))))))
abbrev Ty6 : Type := List UInt8 × Int × Int × Int × List (Int × Unit) × Int × Int × Int × List (List UInt8 × Unit) × Unit
def ty7 : Tys := .cons (.sl ty4) (.cons (.sl ty2) .nil)
abbrev Ty7 : Type := List Ty4 × List Ty2 × Unit
def ty8 : Tys := .cons (.sl ty4) (.cons (.sl ty2) (.cons (.sl (.cons (.int .i64) .nil)) .nil))
abbrev Ty8 : Type := List Ty4 × List Ty2 × List (Int × Unit) × Unit
def dI : PSlot := .d (.ty (.int .i64))
def dS : PSlot := .d (.ty .str)
def dB : PSlot := .d (.ty .bool)
def dL : PSlot := .d (.ty (.sl (.cons (.int .i64) .nil)))
def nx (a : HT) : HT := .n (.r .x) a
abbrev Tz0 : Type := List UInt8 × Int × Int × Int × Int × Int × Int × Unit
abbrev Tz1 : Type := List UInt8 × Unit
abbrev Tz2 : Type := List Ty0 × Int × Unit
abbrev Tz3 : Type := List Ty2 × Ty1 × Unit
def b0 : List PC := [.d (.sl ty4), .d (.sl ty2)]
def b1 : List PC := [.d (.sl (.cons (.sl (.cons (.int .i64) .nil)) .nil)), .d (.sl (.cons (.sl (.cons (.int .i64) .nil)) .nil))]
def b2 : List PC := [.d (.sl (.cons (.int .i64) .nil)), .d (.int .i64)]
def b3 : List PC := [.d .str, .d (.int .i64), .d (.int .i64), .d (.int .i64), .d (.sl (.cons (.int .i64) .nil))]
def b4 : List PC := [.d (.int .i64), .d .bool, .d .str]
def b5 : List PC := [.d (.int .i64), .d (.int .i64), .d (.int .i64)]
def b6 : List PC := [.d (.int .i64), .d (.int .i64), .d (.int .i64), .d .str]
def b7 : List PC := [.d (.sl ty4), .d (.sl ty2), .d (.sl (.cons (.int .i64) .nil))]
noncomputable def bd (f : Func) : Code := f.body.getD .skip
def G : List (Nat × TD) := [(3, .int .i64), (4, .bool), (5, .int .u8), (9, .str), (22, .slice (.cons (.int .i64) .nil) 8), (23, .slice ty2 24), (25, .struct ty2 [(0, false, 1), (1, false, 1), (2, false, 1)] true), (27, .nl .nilP), (29, .slice ty4 64), (30, .slice ty2 24), (32, .struct ty7 [(0, false, 1), (1, false, 1)] false), (34, .slice (.cons (.sl (.cons (.int .i64) .nil)) .nil) 24), (36, .struct ty5 [(0, false, 1), (1, false, 1)] false), (38, .slice ty2 24), (42, .slice (.cons (.sl ty2) .nil) 24), (43, .slice ty0 32), (44, .int .i64), (50, .struct ty0 [(0, false, 1), (1, false, 1), (2, false, 1)] true), (53, .struct ty2 [(0, false, 1), (1, false, 1), (2, false, 1)] true), (55, .slice (.cons (.int .u8) .nil) 1), (60, .struct ty2 [(0, false, 1), (1, false, 1), (2, false, 1)] true), (65, .struct ty1 [(0, false, 1), (1, false, 1)] false), (67, .struct ty4 [(0, false, 1), (1, false, 1), (2, false, 1), (3, false, 1), (4, false, 1)] false), (71, .nl .nilP), (76, .struct ty3 [(0, false, 1), (1, false, 1), (2, false, 1), (3, false, 1)] true), (80, .nl .nilF), (91, .nl .nilF), (93, .slice (.cons .str .nil) 16), (95, .slice ty6 112), (97, .struct ty6 [(0, true, 5), (5, true, 3), (8, false, 1)] false), (105, .struct ty8 [(0, true, 2), (2, false, 1)] false), (117, .nl .nilF), (118, .arr 10 (.cons (.int .u8) .nil)), (120, .nl .nilF), (123, .map .i64 .i64), (124, .slice (.cons .bool .nil) 1)]
def lit0 : List UInt8 := [101, 110, 116, 114, 121, 32, 65, 32, 49, 32, 48, 32, 62, 32, 77, 10, 109, 97, 110, 117, 97, 108, 32, 77, 32, 48, 10, 115, 99, 97, 110, 110, 101, 114, 32, 65, 32, 48, 10]
/-! 45 baggage/baggageref07.split -/
def g45 : Sig := ⟨[.v (.ty .str), .v (.ty (.int .u8))], .v (.ty (.sl (.cons .str .nil)))⟩
def h45 : HT := (nx (nx (nx (.j ⟨[(5, .own 1003), (6, dS)], [(1003, .arr (.cons .str .nil))], []⟩ (nx (.u (.l ⟨[(0, dS), (1, .d (.ty (.int .u8))), (5, .own 1000), (6, dS), (7, dI)], [(1000, .arr (.cons .str .nil))], []⟩ (.n (nx (.n .e .e)) (.j ⟨[(0, dS), (1, .d (.ty (.int .u8))), (5, .own 1001), (6, dS), (7, dI)], [(1001, .arr (.cons .str .nil))], []⟩ (.u (.n (nx (.n (nx (nx .e)) .e)) (.r .x))) (.r .x)))))) (nx .e)))))
noncomputable def sh45_K0 (z0 : List UInt8 × List Tz1 × Unit) : Option (List Tz1 × Unit) :=
 if decide (z0.2.1.length + 1 ≤ Abs.lim) = true then
 if decide ((z0.2.1.length + 1) * 16 ≤ Abs.lim) = true then some (z0.2.1 ++ [(z0.1, ())], ()) else none
 else none
noncomputable def sh45_K3 (rc2 : List UInt8 × Int × List UInt8 × Int × List Tz1 × Unit → Option (List Tz1 × Unit)) (z3 : List UInt8 × Int × List UInt8 × Int × List Tz1 × Unit) : Option (List Tz1 × Unit) :=
 rc2 (z3.1, z3.2.1, z3.2.2.1, IntKind.i64.wrap (z3.2.2.2.1 + 1), z3.2.2.2.2)
noncomputable def sh45_L2 (j1 : List UInt8 × List Tz1 × Unit → Option (List Tz1 × Unit)) (rc2 : List UInt8 × Int × List UInt8 × Int × List Tz1 × Unit → Option (List Tz1 × Unit)) (z2 : List UInt8 × Int × List UInt8 × Int × List Tz1 × Unit) : Option (List Tz1 × Unit) :=
 if decide (z2.2.2.2.1 < (↑z2.1.length : Int)) = true then
 joinK (sh45_K3 rc2) fun j4 =>
 if inR z2.2.2.2.1 z2.1.length = true then
 if (sAt z2.1 z2.2.2.2.1 == z2.2.1) = true then
 if decide (z2.2.2.2.2.1.length + 1 ≤ Abs.lim) = true then
 if decide ((z2.2.2.2.2.1.length + 1) * 16 ≤ Abs.lim) = true then
 j4 (z2.1, z2.2.1, [], z2.2.2.2.1, z2.2.2.2.2.1 ++ [(z2.2.2.1, ())], ())
 else none
 else none
 else
 if inCut z2.2.2.2.1 (IntKind.i64.wrap (z2.2.2.2.1 + 1)) z2.1.length = true then
 if decide (z2.2.2.1.length + (cutL z2.1 z2.2.2.2.1 (IntKind.i64.wrap (z2.2.2.2.1 + 1))).length ≤ Abs.lim) = true then
 j4 (z2.1, z2.2.1, z2.2.2.1 ++ cutL z2.1 z2.2.2.2.1 (IntKind.i64.wrap (z2.2.2.2.1 + 1)), z2.2.2.2)
 else none
 else none
 else none
 else j1 (z2.2.2.1, z2.2.2.2.2)
noncomputable def sh45 (fuel : Nat) (x0 : List UInt8) (x1 : Int) : Option (List Tz1 × Unit) :=
 joinK sh45_K0 fun j1 => iter fuel (sh45_L2 j1) (x0, x1, [], 0, [], ())
noncomputable def sp45 (x : (List UInt8) × (Int) × Unit) : Option (List Tz1 × Unit) := sh45 100000 x.1 x.2.1
/-! 75 baggage/baggageref01.All -/
def g75 : Sig := ⟨[.v (.ty .str)], .v (.ty .bool)⟩
def h75 : HT := (nx (.j ⟨[], [], []⟩ (nx (.u (.l ⟨[(0, dS), (3, dI)], [], []⟩ (.n (nx (.n .e .e)) (.n (.u (.j ⟨[(0, dS), (3, dI), (19, dB)], [], []⟩ (.r .x) (.n (nx .e) .e))) (.r .x)))))) (nx .e)))
noncomputable def sh75_K0 (z0 : Unit) : Option (Bool × Unit) :=
 some (true, ())
noncomputable def sh75_K3 (rc2 : List UInt8 × Int × Unit → Option (Bool × Unit)) (z3 : List UInt8 × Int × Bool × Unit) : Option (Bool × Unit) :=
 if z3.2.2.1 = true then some (false, ()) else rc2 (z3.1, IntKind.i64.wrap (z3.2.1 + 1), ())
noncomputable def sh75_L2 (j1 : Unit → Option (Bool × Unit)) (rc2 : List UInt8 × Int × Unit → Option (Bool × Unit)) (z2 : List UInt8 × Int × Unit) : Option (Bool × Unit) :=
 if decide (z2.2.1 < (↑z2.1.length : Int)) = true then
 joinK (sh75_K3 rc2) fun j4 =>
 if inR z2.2.1 z2.1.length = true then
 if decide (sAt z2.1 z2.2.1 < 48) = true then j4 (z2.1, z2.2.1, true, ())
 else if inR z2.2.1 z2.1.length = true then j4 (z2.1, z2.2.1, decide (57 < sAt z2.1 z2.2.1), ()) else none
 else none
 else j1 ()
noncomputable def sh75 (fuel : Nat) (x0 : List UInt8) : Option (Bool × Unit) :=
 joinK sh75_K0 fun j1 => iter fuel (sh75_L2 j1) (x0, 0, ())
noncomputable def sp75 (x : (List UInt8) × Unit) : Option (Bool × Unit) := sh75 100000 x.1
/-! 76 baggage/baggageref01.Value -/
def g76 : Sig := ⟨[.v (.ty .str)], .v (.ty (.int .i64))⟩
def h76 : HT := (nx (nx (.j ⟨[(3, dI)], [], []⟩ (nx (.u (.l ⟨[(0, dS), (3, dI), (4, dI)], [], []⟩ (.n (nx (.n .e .e)) (.n (.u (.r .x)) (.r .x)))))) (nx .e))))
noncomputable def sh76_K0 (z0 : Int × Unit) : Option (Int × Unit) :=
 some z0
noncomputable def sh76_L2 (j1 : Int × Unit → Option (Int × Unit)) (rc2 : List UInt8 × Int × Int × Unit → Option (Int × Unit)) (z2 : List UInt8 × Int × Int × Unit) : Option (Int × Unit) :=
 if decide (z2.2.2.1 < (↑z2.1.length : Int)) = true then
 if inR z2.2.2.1 z2.1.length = true then
 rc2
 (z2.1, IntKind.i64.wrap (IntKind.i64.wrap (z2.2.1 * 10) + IntKind.i64.wrap (IntKind.u8.wrap (sAt z2.1 z2.2.2.1 - 48))),
 IntKind.i64.wrap (z2.2.2.1 + 1), ())
 else none
 else j1 (z2.2.1, ())
noncomputable def sh76 (fuel : Nat) (x0 : List UInt8) : Option (Int × Unit) :=
 joinK sh76_K0 fun j1 => iter fuel (sh76_L2 j1) (x0, 0, 0, ())
noncomputable def sp76 (x : (List UInt8) × Unit) : Option (Int × Unit) := sh76 100000 x.1
/-! 56 baggage/baggageref07.number -/
def g56 : Sig := ⟨[.v (.ty .str)], .tup [(.ty (.int .i64)), (.ty .bool)]⟩
def h56 : HT := (nx (.n (.j ⟨[(0, dS), (26, dB)], [], []⟩ (.r .x) (.n (nx .e) .e)) (nx .e)))
noncomputable def sh56_K0 (z0 : List UInt8 × Bool × Unit) : Option ((Int × Bool × Unit) × Unit) :=
 if z0.2.1 = true then some ((0, false, ()), ()) else (sp76 (z0.1, ())).bind fun r1 => some ((r1.1, true, ()), ())
noncomputable def sh56 (fuel : Nat) (x0 : List UInt8) : Option ((Int × Bool × Unit) × Unit) :=
 joinK sh56_K0 fun j2 =>
 if decide ((↑x0.length : Int) < 1) = true then j2 (x0, true, ())
 else
 if decide (3 < (↑x0.length : Int)) = true then j2 (x0, true, ())
 else
 (sp75 (x0, ())).bind fun r3 =>
 if (!r3.1) = true then j2 (x0, true, ())
 else
 if decide (1 < (↑x0.length : Int)) = true then if inR 0 x0.length = true then j2 (x0, sAt x0 0 == 48, ()) else none else j2 (x0, false, ())
noncomputable def sp56 (x : (List UInt8) × Unit) : Option ((Int × Bool × Unit) × Unit) := sh56 0 x.1
/-! 77 baggage/baggageref02.Letter -/
def g77 : Sig := ⟨[.v (.ty (.int .u8))], .v (.ty .bool)⟩
def h77 : HT := (nx (.j ⟨[(2, dB)], [], []⟩ (.r .x) .e))
noncomputable def sh77_K0 (z0 : Bool × Unit) : Option (Bool × Unit) :=
 some z0
noncomputable def sh77 (fuel : Nat) (x0 : Int) : Option (Bool × Unit) :=
 joinK sh77_K0 fun j1 => if decide (65 ≤ x0) = true then j1 (decide (x0 ≤ 90), ()) else j1 (false, ())
noncomputable def sp77 (x : (Int) × Unit) : Option (Bool × Unit) := sh77 0 x.1
/-! 78 baggage/baggageref02.Digit -/
def g78 : Sig := ⟨[.v (.ty (.int .u8))], .v (.ty .bool)⟩
def h78 : HT := (nx (.j ⟨[(2, dB)], [], []⟩ (.r .x) .e))
noncomputable def sh78_K0 (z0 : Bool × Unit) : Option (Bool × Unit) :=
 some z0
noncomputable def sh78 (fuel : Nat) (x0 : Int) : Option (Bool × Unit) :=
 joinK sh78_K0 fun j1 => if decide (48 ≤ x0) = true then j1 (decide (x0 ≤ 57), ()) else j1 (false, ())
noncomputable def sp78 (x : (Int) × Unit) : Option (Bool × Unit) := sh78 0 x.1
/-! 57 baggage/baggageref04.Name -/
def g57 : Sig := ⟨[.v (.ty .str)], .v (.ty .bool)⟩
def h57 : HT := (nx (.n (.j ⟨[(0, dS), (17, dB)], [], []⟩ (.r .x) (.n (nx .e) .e)) (.j ⟨[], [], []⟩ (nx (.u (.l ⟨[(0, dS), (3, dI)], [], []⟩ (.n (nx (.n .e .e)) (.n (.u (.j ⟨[(0, dS), (3, dI), (35, dB)], [], []⟩ (.r .x) (.n (nx .e) .e))) (.r .x)))))) (nx .e))))
noncomputable def sh57_K1 (z1 : Unit) : Option (Bool × Unit) :=
 some (true, ())
noncomputable def sh57_K4 (rc3 : List UInt8 × Int × Unit → Option (Bool × Unit)) (z4 : List UInt8 × Int × Bool × Unit) : Option (Bool × Unit) :=
 if z4.2.2.1 = true then some (false, ()) else rc3 (z4.1, IntKind.i64.wrap (z4.2.1 + 1), ())
noncomputable def sh57_L3 (j2 : Unit → Option (Bool × Unit)) (rc3 : List UInt8 × Int × Unit → Option (Bool × Unit)) (z3 : List UInt8 × Int × Unit) : Option (Bool × Unit) :=
 if decide (z3.2.1 < (↑z3.1.length : Int)) = true then
 joinK (sh57_K4 rc3) fun j5 =>
 if inR z3.2.1 z3.1.length = true then
 (sp77 (sAt z3.1 z3.2.1, ())).bind fun r6 =>
 if (!r6.1) = true then
 if inR z3.2.1 z3.1.length = true then (sp78 (sAt z3.1 z3.2.1, ())).bind fun r7 => j5 (z3.1, z3.2.1, !r7.1, ()) else none
 else j5 (z3.1, z3.2.1, false, ())
 else none
 else j2 ()
noncomputable def sh57_K0 (fuel : Nat) (z0 : List UInt8 × Bool × Unit) : Option (Bool × Unit) :=
 if z0.2.1 = true then some (false, ()) else joinK sh57_K1 fun j2 => iter fuel (sh57_L3 j2) (z0.1, 0, ())
noncomputable def sh57 (fuel : Nat) (x0 : List UInt8) : Option (Bool × Unit) :=
 joinK (sh57_K0 fuel) fun j8 =>
 if decide ((↑x0.length : Int) < 1) = true then j8 (x0, true, ())
 else
 if decide (12 < (↑x0.length : Int)) = true then j8 (x0, true, ())
 else if inR 0 x0.length = true then (sp77 (sAt x0 0, ())).bind fun r9 => j8 (x0, !r9.1, ()) else none
noncomputable def sp57 (x : (List UInt8) × Unit) : Option (Bool × Unit) := sh57 100000 x.1
/-! 58 baggage/baggageref07.Exits -/
def g58 : Sig := ⟨[.v (.ty (.int .i64))], .v (.ty (.int .i64))⟩
def h58 : HT := (nx (.n (nx (.u (.j ⟨[(3, dI), (4, dB)], [], []⟩ (nx (.n .e (nx (.n .e (.r .x))))) (.n (nx .e) (.j ⟨[(8, dB)], [], []⟩ (nx (.n .e (.r .x))) (.n (nx .e) .e)))))) (nx .e)))
noncomputable def sh58_K1 (z1 : Bool × Unit) : Option (Int × Unit) :=
 if z1.1 = true then some (0, ()) else some (1, ())
noncomputable def sh58_K0 (z0 : Int × Bool × Unit) : Option (Int × Unit) :=
 if z0.2.1 = true then some (2, ()) else joinK sh58_K1 fun j2 => if (z0.1 == 8) = true then j2 (z0.1 == 8, ()) else j2 (z0.1 == 9, ())
noncomputable def sh58 (fuel : Nat) (x0 : Int) : Option (Int × Unit) :=
 joinK sh58_K0 fun j3 => if (x0 == 4) = true then j3 (x0, x0 == 4, ()) else if (x0 == 5) = true then j3 (x0, x0 == 5, ()) else j3 (x0, x0 == 6, ())
noncomputable def sp58 (x : (Int) × Unit) : Option (Int × Unit) := sh58 0 x.1
/-! 59 baggage/baggageref07.Strip -/
def g59 : Sig := ⟨[.v (.ty (.int .i64))], .v (.ty .bool)⟩
def h59 : HT := (nx (.j ⟨[(2, dB)], [], []⟩ (.r .x) .e))
noncomputable def sh59_K0 (z0 : Bool × Unit) : Option (Bool × Unit) :=
 some z0
noncomputable def sh59 (fuel : Nat) (x0 : Int) : Option (Bool × Unit) :=
 joinK sh59_K0 fun j1 => if decide (1 ≤ x0) = true then j1 (decide (x0 ≤ 6), ()) else j1 (false, ())
noncomputable def sp59 (x : (Int) × Unit) : Option (Bool × Unit) := sh59 0 x.1
/-! 46 baggage/baggageref07.read -/
def g46 : Sig := ⟨[.v (.ty .str)], .tup [(.ag ty6), (.ty .bool)]⟩
def h46 : HT := (nx (nx (nx (.j ⟨[(2, .ref 1024 9), (4, .d (.ty (.sl (.cons .str .nil)))), (5, .ref 1025 9)], [(1024, .box [.d .str, .d (.int .i64), .d (.int .i64), .d (.int .i64), .own 1026, .d (.int .i64), .d (.int .i64), .d (.int .i64), .own 1027]), (1025, .box [.d .str, .d (.int .i64), .d (.int .i64), .d (.int .i64), .own 1028, .d (.int .i64), .d (.int .i64), .d (.int .i64), .own 1029]), (1026, .arr (.cons (.int .i64) .nil)), (1027, .arr (.cons .str .nil)), (1028, .arr (.cons (.int .i64) .nil)), (1029, .arr (.cons .str .nil))], []⟩ (nx (.u (.l ⟨[(2, .ref 1000 9), (4, .d (.ty (.sl (.cons .str .nil)))), (5, .ref 1001 9), (6, dI)], [(1000, .box [.d .str, .d (.int .i64), .d (.int .i64), .d (.int .i64), .own 1002, .d (.int .i64), .d (.int .i64), .d (.int .i64), .own 1003]), (1001, .box [.d .str, .d (.int .i64), .d (.int .i64), .d (.int .i64), .own 1004, .d (.int .i64), .d (.int .i64), .d (.int .i64), .own 1005]), (1002, .arr (.cons (.int .i64) .nil)), (1003, .arr (.cons .str .nil)), (1004, .arr (.cons (.int .i64) .nil)), (1005, .arr (.cons .str .nil))], []⟩ (.n (.j ⟨[(2, .ref 1006 9), (4, .d (.ty (.sl (.cons .str .nil)))), (5, .ref 1007 9), (6, dI), (25, dB)], [(1006, .box [.d .str, .d (.int .i64), .d (.int .i64), .d (.int .i64), .own 1008, .d (.int .i64), .d (.int .i64), .d (.int .i64), .own 1009]), (1007, .box [.d .str, .d (.int .i64), .d (.int .i64), .d (.int .i64), .own 1010, .d (.int .i64), .d (.int .i64), .d (.int .i64), .own 1011]), (1008, .arr (.cons (.int .i64) .nil)), (1009, .arr (.cons .str .nil)), (1010, .arr (.cons (.int .i64) .nil)), (1011, .arr (.cons .str .nil))], []⟩ (.r .x) (.n .e .e)) (.n (.u (nx (.j ⟨[(2, .ref 1012 9), (4, .d (.ty (.sl (.cons .str .nil)))), (5, .ref 1013 9), (6, dI), (7, dI), (51, dB)], [(1012, .box [.d .str, .d (.int .i64), .d (.int .i64), .d (.int .i64), .own 1014, .d (.int .i64), .d (.int .i64), .d (.int .i64), .own 1015]), (1013, .box [.d .str, .d (.int .i64), .d (.int .i64), .d (.int .i64), .own 1016, .d (.int .i64), .d (.int .i64), .d (.int .i64), .own 1017]), (1014, .arr (.cons (.int .i64) .nil)), (1015, .arr (.cons .str .nil)), (1016, .arr (.cons (.int .i64) .nil)), (1017, .arr (.cons .str .nil))], []⟩ (.r (.w 7 [(1, 0), (0, 1), (0, 2), (1, 4), (3, 3), (0, 5), (0, 6)])) (.n (.n (.r (.w 7 [(1, 0), (1, 1), (0, 2), (1, 3), (1, 4), (0, 5), (2, 6)])) (nx .e)) .e)))) (.r .x)))))) (.j ⟨[(2, .ref 1048 9), (4, .d (.ty (.sl (.cons .str .nil)))), (5, .ref 1049 9)], [(1048, .box [.d .str, .d (.int .i64), .d (.int .i64), .d (.int .i64), .own 1050, .d (.int .i64), .d (.int .i64), .d (.int .i64), .own 1051]), (1049, .box [.d .str, .d (.int .i64), .d (.int .i64), .d (.int .i64), .own 1052, .d (.int .i64), .d (.int .i64), .d (.int .i64), .own 1053]), (1050, .arr (.cons (.int .i64) .nil)), (1051, .arr (.cons .str .nil)), (1052, .arr (.cons (.int .i64) .nil)), (1053, .arr (.cons .str .nil))], []⟩ (nx (.u (.l ⟨[(2, .ref 1030 9), (4, .d (.ty (.sl (.cons .str .nil)))), (5, .ref 1031 9), (9, dI)], [(1030, .box [.d .str, .d (.int .i64), .d (.int .i64), .d (.int .i64), .own 1032, .d (.int .i64), .d (.int .i64), .d (.int .i64), .own 1033]), (1031, .box [.d .str, .d (.int .i64), .d (.int .i64), .d (.int .i64), .own 1034, .d (.int .i64), .d (.int .i64), .d (.int .i64), .own 1035]), (1032, .arr (.cons (.int .i64) .nil)), (1033, .arr (.cons .str .nil)), (1034, .arr (.cons (.int .i64) .nil)), (1035, .arr (.cons .str .nil))], []⟩ (.n (nx (.n .e .e)) (.j ⟨[(2, .ref 1036 9), (4, .d (.ty (.sl (.cons .str .nil)))), (5, .ref 1037 9), (9, dI)], [(1036, .box [.d .str, .d (.int .i64), .d (.int .i64), .d (.int .i64), .own 1038, .d (.int .i64), .d (.int .i64), .d (.int .i64), .own 1039]), (1037, .box [.d .str, .d (.int .i64), .d (.int .i64), .d (.int .i64), .own 1040, .d (.int .i64), .d (.int .i64), .d (.int .i64), .own 1041]), (1038, .arr (.cons (.int .i64) .nil)), (1039, .arr (.cons .str .nil)), (1040, .arr (.cons (.int .i64) .nil)), (1041, .arr (.cons .str .nil))], []⟩ (.u (.n (.r .q) (nx .e))) (.r .x)))))) (nx (nx (.j ⟨[(2, .ref 1054 9), (4, .d (.ty (.sl (.cons .str .nil)))), (5, .ref 1055 9), (10, dI), (11, dI), (12, dI)], [(1054, .box [.d .str, .d (.int .i64), .d (.int .i64), .d (.int .i64), .own 1056, .d (.int .i64), .d (.int .i64), .d (.int .i64), .own 1057]), (1055, .box [.d .str, .d (.int .i64), .d (.int .i64), .d (.int .i64), .own 1058, .d (.int .i64), .d (.int .i64), .d (.int .i64), .own 1059]), (1056, .arr (.cons (.int .i64) .nil)), (1057, .arr (.cons .str .nil)), (1058, .arr (.cons (.int .i64) .nil)), (1059, .arr (.cons .str .nil))], []⟩ (nx (nx .e)) (.j ⟨[(2, .ref 1060 9), (4, .d (.ty (.sl (.cons .str .nil)))), (5, .ref 1061 9), (10, dI), (11, dI), (12, dI)], [(1060, .box [.d .str, .d (.int .i64), .d (.int .i64), .d (.int .i64), .own 1062, .d (.int .i64), .d (.int .i64), .d (.int .i64), .own 1063]), (1061, .box [.d .str, .d (.int .i64), .d (.int .i64), .d (.int .i64), .own 1064, .d (.int .i64), .d (.int .i64), .d (.int .i64), .own 1065]), (1062, .arr (.cons (.int .i64) .nil)), (1063, .arr (.cons .str .nil)), (1064, .arr (.cons (.int .i64) .nil)), (1065, .arr (.cons .str .nil))], []⟩ (nx (nx .e)) (.n (.j ⟨[(2, .ref 1066 9), (4, .d (.ty (.sl (.cons .str .nil)))), (5, .ref 1067 9), (10, dI), (11, dI), (105, dB)], [(1066, .box [.d .str, .d (.int .i64), .d (.int .i64), .d (.int .i64), .own 1068, .d (.int .i64), .d (.int .i64), .d (.int .i64), .own 1069]), (1067, .box [.d .str, .d (.int .i64), .d (.int .i64), .d (.int .i64), .own 1070, .d (.int .i64), .d (.int .i64), .d (.int .i64), .own 1071]), (1068, .arr (.cons (.int .i64) .nil)), (1069, .arr (.cons .str .nil)), (1070, .arr (.cons (.int .i64) .nil)), (1071, .arr (.cons .str .nil))], []⟩ (.r .x) (.n (nx .e) .e)) (nx (nx (.j ⟨[(2, .ref 1072 9), (4, .d (.ty (.sl (.cons .str .nil)))), (5, .ref 1073 9), (10, dI), (11, dI), (13, dB)], [(1072, .box [.d .str, .d (.int .i64), .d (.int .i64), .d (.int .i64), .own 1074, .d (.int .i64), .d (.int .i64), .d (.int .i64), .own 1075]), (1073, .box [.d .str, .d (.int .i64), .d (.int .i64), .d (.int .i64), .own 1076, .d (.int .i64), .d (.int .i64), .d (.int .i64), .own 1077]), (1074, .arr (.cons (.int .i64) .nil)), (1075, .arr (.cons .str .nil)), (1076, .arr (.cons (.int .i64) .nil)), (1077, .arr (.cons .str .nil))], []⟩ (nx (.n (nx (.r .x)) .e)) (nx (nx (.n (.j ⟨[(2, .ref 1078 9), (4, .d (.ty (.sl (.cons .str .nil)))), (5, .ref 1079 9), (10, dI), (11, dI), (153, dB)], [(1078, .box [.d .str, .d (.int .i64), .d (.int .i64), .d (.int .i64), .own 1080, .d (.int .i64), .d (.int .i64), .d (.int .i64), .own 1081]), (1079, .box [.d .str, .d (.int .i64), .d (.int .i64), .d (.int .i64), .own 1082, .d (.int .i64), .d (.int .i64), .d (.int .i64), .own 1083]), (1080, .arr (.cons (.int .i64) .nil)), (1081, .arr (.cons .str .nil)), (1082, .arr (.cons (.int .i64) .nil)), (1083, .arr (.cons .str .nil))], []⟩ (.r .x) (.n (nx .e) .e)) (.j ⟨[(2, .ref 1096 9), (5, .ref 1097 9)], [(1096, .box [.d .str, .d (.int .i64), .d (.int .i64), .d (.int .i64), .own 1098, .d (.int .i64), .d (.int .i64), .d (.int .i64), .own 1099]), (1097, .box [.d .str, .d (.int .i64), .d (.int .i64), .d (.int .i64), .own 1100, .d (.int .i64), .d (.int .i64), .d (.int .i64), .own 1101]), (1098, .arr (.cons (.int .i64) .nil)), (1099, .arr (.cons .str .nil)), (1100, .arr (.cons (.int .i64) .nil)), (1101, .arr (.cons .str .nil))], []⟩ (nx (.u (.l ⟨[(2, .ref 1084 9), (4, .d (.ty (.sl (.cons .str .nil)))), (5, .ref 1085 9), (10, dI), (11, dI), (16, dI)], [(1084, .box [.d .str, .d (.int .i64), .d (.int .i64), .d (.int .i64), .own 1086, .d (.int .i64), .d (.int .i64), .d (.int .i64), .own 1087]), (1085, .box [.d .str, .d (.int .i64), .d (.int .i64), .d (.int .i64), .own 1088, .d (.int .i64), .d (.int .i64), .d (.int .i64), .own 1089]), (1086, .arr (.cons (.int .i64) .nil)), (1087, .arr (.cons .str .nil)), (1088, .arr (.cons (.int .i64) .nil)), (1089, .arr (.cons .str .nil))], []⟩ (.n (nx (.n .e .e)) (.n (.u (.n (nx (.n (nx .e) .e)) (.r (.w 10 [(0, 0), (0, 1), (1, 2), (1, 3), (1, 4), (1, 5), (1, 6), (0, 7), (0, 8), (3, 9)])))) (.r .x)))))) (nx .e))))))))))))))))))
noncomputable def sh46_K10 (z10 : Tz0 × Tz0 × List (Int × Unit) × List Tz1 × List (Int × Unit) × List Tz1 × Unit) : Option ((Ty6 × Bool × Unit) × Unit) :=
 some
 (((z10.2.1.1, z10.2.1.2.1, z10.2.1.2.2.1, z10.2.1.2.2.2.1, z10.2.2.2.2.1, z10.2.1.2.2.2.2.1, z10.2.1.2.2.2.2.2.1, z10.2.1.2.2.2.2.2.2.1,
 z10.2.2.2.2.2),
 true, ()),
 ())
noncomputable def sh46_L12 (j11 : Tz0 × Tz0 × List (Int × Unit) × List Tz1 × List (Int × Unit) × List Tz1 × Unit → Option ((Ty6 × Bool × Unit) × Unit)) (rc12 : List Tz1 × Int × Int × Int × Tz0 × Tz0 × List (Int × Unit) × List Tz1 × List (Int × Unit) × List Tz1 × Unit → Option ((Ty6 × Bool × Unit) × Unit)) (z12 : List Tz1 × Int × Int × Int × Tz0 × Tz0 × List (Int × Unit) × List Tz1 × List (Int × Unit) × List Tz1 × Unit) : Option ((Ty6 × Bool × Unit) × Unit) :=
 if decide (z12.2.2.2.1 < z12.2.1) = true then
 if inR (IntKind.i64.wrap (IntKind.i64.wrap (z12.2.2.1 + 2) + z12.2.2.2.1)) z12.1.length = true then
 (sp57 (lAt ([], ()) z12.1 (IntKind.i64.wrap (IntKind.i64.wrap (z12.2.2.1 + 2) + z12.2.2.2.1)))).bind fun r13 =>
 if (!r13.1) = true then some ((([], 0, 0, 0, [], 0, 0, 0, [], ()), false, ()), ())
 else
 if inR (IntKind.i64.wrap (IntKind.i64.wrap (z12.2.2.1 + 2) + z12.2.2.2.1)) z12.1.length = true then
 if
 decide
 (z12.2.2.2.2.2.2.2.2.2.1.length + 1 ≤
 Abs.lim) =
 true then
 if
 decide
 ((z12.2.2.2.2.2.2.2.2.2.1.length +
 [lAt ([], ()) z12.1 (IntKind.i64.wrap (IntKind.i64.wrap (z12.2.2.1 + 2) + z12.2.2.2.1))].length) *
 16 ≤
 Abs.lim) =
 true then
 rc12
 (z12.1, z12.2.1, z12.2.2.1, IntKind.i64.wrap (z12.2.2.2.1 + 1), z12.2.2.2.2.1, z12.2.2.2.2.2.1, z12.2.2.2.2.2.2.1,
 z12.2.2.2.2.2.2.2.1, z12.2.2.2.2.2.2.2.2.1,
 z12.2.2.2.2.2.2.2.2.2.1 ++ [lAt ([], ()) z12.1 (IntKind.i64.wrap (IntKind.i64.wrap (z12.2.2.1 + 2) + z12.2.2.2.1))], ())
 else none
 else none
 else none
 else none
 else j11 z12.2.2.2.2
noncomputable def sh46_K9 (fuel : Nat) (z9 : List Tz1 × Int × Int × Bool × Tz0 × Tz0 × List (Int × Unit) × List Tz1 × List (Int × Unit) × List Tz1 × Unit) : Option ((Ty6 × Bool × Unit) × Unit) :=
 if z9.2.2.2.1 = true then some ((([], 0, 0, 0, [], 0, 0, 0, [], ()), false, ()), ())
 else joinK sh46_K10 fun j11 => iter fuel (sh46_L12 j11) (z9.1, z9.2.1, z9.2.2.1, 0, z9.2.2.2.2)
noncomputable def sh46_K7 (fuel : Nat) (z7 : List Tz1 × Int × Int × Bool × Tz0 × Tz0 × List (Int × Unit) × List Tz1 × List (Int × Unit) × List Tz1 × Unit) : Option ((Ty6 × Bool × Unit) × Unit) :=
 if inR z7.2.2.1 z7.1.length = true then
 (sp56 (lAt ([], ()) z7.1 z7.2.2.1)).bind fun r8 =>
 joinK (sh46_K9 fuel) fun j14 =>
 if (!r8.1.2.1) = true then
 j14
 (z7.1, z7.2.1, z7.2.2.1, true, z7.2.2.2.2.1, (z7.2.2.2.2.2.1.1, z7.2.2.2.2.2.1.2.1, z7.2.2.2.2.2.1.2.2.1, r8.1.1, z7.2.2.2.2.2.1.2.2.2.2),
 z7.2.2.2.2.2.2)
 else
 if (!z7.2.2.2.1) = true then
 j14
 (z7.1, z7.2.1, z7.2.2.1, true, z7.2.2.2.2.1, (z7.2.2.2.2.2.1.1, z7.2.2.2.2.2.1.2.1, z7.2.2.2.2.2.1.2.2.1, r8.1.1, z7.2.2.2.2.2.1.2.2.2.2),
 z7.2.2.2.2.2.2)
 else
 if decide (0 < z7.2.1) = true then
 if inR (IntKind.i64.wrap (z7.2.2.1 + 1)) z7.1.length = true then
 j14
 (z7.1, z7.2.1, z7.2.2.1, !(lAt ([], ()) z7.1 (IntKind.i64.wrap (z7.2.2.1 + 1))).1 == [62], z7.2.2.2.2.1,
 (z7.2.2.2.2.2.1.1, z7.2.2.2.2.2.1.2.1, z7.2.2.2.2.2.1.2.2.1, r8.1.1, z7.2.2.2.2.2.1.2.2.2.2), z7.2.2.2.2.2.2)
 else none
 else
 j14
 (z7.1, z7.2.1, z7.2.2.1, false, z7.2.2.2.2.1,
 (z7.2.2.2.2.2.1.1, z7.2.2.2.2.2.1.2.1, z7.2.2.2.2.2.1.2.2.1, r8.1.1, z7.2.2.2.2.2.1.2.2.2.2), z7.2.2.2.2.2.2)
 else none
noncomputable def sh46_K6 (fuel : Nat) (z6 : List Tz1 × Int × Int × Bool × Tz0 × Tz0 × List (Int × Unit) × List Tz1 × List (Int × Unit) × List Tz1 × Unit) : Option ((Ty6 × Bool × Unit) × Unit) :=
 if z6.2.2.2.1 = true then some ((([], 0, 0, 0, [], 0, 0, 0, [], ()), false, ()), ())
 else
 if inR 1 z6.1.length = true then
 joinK (sh46_K7 fuel) fun j15 =>
 (sp59 (z6.2.2.2.2.2.1.2.1, ())).bind fun r16 =>
 if r16.1 = true then
 if inR 2 z6.1.length = true then
 (sp56 (lAt ([], ()) z6.1 2)).bind fun r17 =>
 j15
 (z6.1, z6.2.1, 3, r17.1.2.1, z6.2.2.2.2.1, ((lAt ([], ()) z6.1 1).1, z6.2.2.2.2.2.1.2.1, r17.1.1, z6.2.2.2.2.2.1.2.2.2),
 z6.2.2.2.2.2.2)
 else none
 else j15 (z6.1, z6.2.1, z6.2.2.1, true, z6.2.2.2.2.1, ((lAt ([], ()) z6.1 1).1, z6.2.2.2.2.2.1.2), z6.2.2.2.2.2.2)
 else none
noncomputable def sh46_K5 (fuel : Nat) (z5 : List Tz1 × Int × Int × Int × Tz0 × Tz0 × List (Int × Unit) × List Tz1 × List (Int × Unit) × List Tz1 × Unit) : Option ((Ty6 × Bool × Unit) × Unit) :=
 joinK (sh46_K6 fuel) fun j18 =>
 if (z5.2.2.2.2.2.1.2.1 == 0) = true then j18 (z5.1, z5.2.1, z5.2.2.1, true, z5.2.2.2.2)
 else
 if ((↑z5.1.length : Int) != z5.2.2.2.1) = true then j18 (z5.1, z5.2.1, z5.2.2.1, true, z5.2.2.2.2)
 else if inR 1 z5.1.length = true then (sp57 (lAt ([], ()) z5.1 1)).bind fun r19 => j18 (z5.1, z5.2.1, z5.2.2.1, !r19.1, z5.2.2.2.2) else none
noncomputable def sh46_K4 (fuel : Nat) (z4 : List Tz1 × Int × Int × Int × Tz0 × Tz0 × List (Int × Unit) × List Tz1 × List (Int × Unit) × List Tz1 × Unit) : Option ((Ty6 × Bool × Unit) × Unit) :=
 joinK (sh46_K5 fuel) fun j20 =>
 if decide (0 < z4.2.1) = true then j20 (z4.1, z4.2.1, z4.2.2.1, IntKind.i64.wrap (z4.2.2.2.1 + IntKind.i64.wrap (1 + z4.2.1)), z4.2.2.2.2)
 else j20 z4
noncomputable def sh46_K2 (fuel : Nat) (z2 : List Tz1 × Tz0 × Tz0 × List (Int × Unit) × List Tz1 × List (Int × Unit) × List Tz1 × Unit) : Option ((Ty6 × Bool × Unit) × Unit) :=
 (sp58 (z2.2.2.1.2.1, ())).bind fun r3 =>
 joinK (sh46_K4 fuel) fun j21 =>
 (sp59 (z2.2.2.1.2.1, ())).bind fun r22 => if r22.1 = true then j21 (z2.1, r3.1, 2, 4, z2.2) else j21 (z2.1, r3.1, 2, 3, z2.2)
noncomputable def sh46_K25 (rc24 : List Tz1 × Int × Tz0 × Tz0 × List (Int × Unit) × List Tz1 × List (Int × Unit) × List Tz1 × Unit → Option ((Ty6 × Bool × Unit) × Unit)) (z25 : List Tz1 × Int × Tz0 × Tz0 × List (Int × Unit) × List Tz1 × List (Int × Unit) × List Tz1 × Unit) : Option ((Ty6 × Bool × Unit) × Unit) :=
 rc24 (z25.1, IntKind.i64.wrap (z25.2.1 + 1), z25.2.2)
noncomputable def sh46_L24 (j23 : List Tz1 × Tz0 × Tz0 × List (Int × Unit) × List Tz1 × List (Int × Unit) × List Tz1 × Unit → Option ((Ty6 × Bool × Unit) × Unit)) (rc24 : List Tz1 × Int × Tz0 × Tz0 × List (Int × Unit) × List Tz1 × List (Int × Unit) × List Tz1 × Unit → Option ((Ty6 × Bool × Unit) × Unit)) (z24 : List Tz1 × Int × Tz0 × Tz0 × List (Int × Unit) × List Tz1 × List (Int × Unit) × List Tz1 × Unit) : Option ((Ty6 × Bool × Unit) × Unit) :=
 if decide (z24.2.1 ≤ 9) = true then
 joinK (sh46_K25 rc24) fun j26 =>
 if
 inR z24.2.1
 [([], ()), ([101, 110, 116, 114, 121], ()), ([98, 101, 108, 116], ()), ([115, 99, 114, 101, 101, 110], ()),
 ([100, 105, 118, 101, 114, 116, 101, 114], ()), ([108, 111, 111, 112], ()), ([103, 97, 116, 101], ()),
 ([115, 116, 111, 114, 101], ()), ([99, 104, 117, 116, 101], ()), ([109, 97, 110, 117, 97, 108], ())].length =
 true then
 if inR 0 z24.1.length = true then
 if
 ((lAt ([], ())
 [([], ()), ([101, 110, 116, 114, 121], ()), ([98, 101, 108, 116], ()), ([115, 99, 114, 101, 101, 110], ()),
 ([100, 105, 118, 101, 114, 116, 101, 114], ()), ([108, 111, 111, 112], ()), ([103, 97, 116, 101], ()),
 ([115, 116, 111, 114, 101], ()), ([99, 104, 117, 116, 101], ()), ([109, 97, 110, 117, 97, 108], ())]
 z24.2.1).1 ==
 (lAt ([], ()) z24.1 0).1) =
 true then
 j26 (z24.1, z24.2.1, z24.2.2.1, (z24.2.2.2.1.1, z24.2.1, z24.2.2.2.1.2.2), z24.2.2.2.2)
 else j26 z24
 else none
 else none
 else j23 (z24.1, z24.2.2)
noncomputable def sh46_K1 (fuel : Nat) (z1 : List Tz1 × Tz0 × Tz0 × List (Int × Unit) × List Tz1 × List (Int × Unit) × List Tz1 × Unit) : Option ((Ty6 × Bool × Unit) × Unit) :=
 joinK (sh46_K2 fuel) fun j23 => iter fuel (sh46_L24 j23) (z1.1, 1, z1.2)
noncomputable def sh46_K31 (rc28 : List Tz1 × Int × Tz0 × Tz0 × List (Int × Unit) × List Tz1 × List (Int × Unit) × List Tz1 × Unit → Option ((Ty6 × Bool × Unit) × Unit)) (z31 : List Tz1 × Int × Int × Bool × Tz0 × Tz0 × List (Int × Unit) × List Tz1 × List (Int × Unit) × List Tz1 × Unit) : Option ((Ty6 × Bool × Unit) × Unit) :=
 if z31.2.2.2.1 = true then
 if inCut 1 2 z31.1.length = true then
 some
 (((z31.2.2.2.2.2.1.1, z31.2.2.2.2.2.1.2.1, z31.2.2.2.2.2.1.2.2.1, z31.2.2.2.2.2.1.2.2.2.1, z31.2.2.2.2.2.2.2.2.1, z31.2.1, 0, z31.2.2.1,
 cutL z31.1 1 2, ()),
 true, ()),
 ())
 else none
 else rc28 (z31.1, IntKind.i64.wrap (z31.2.1 + 1), z31.2.2.2.2)
noncomputable def sh46_K29 (j27 : List Tz1 × Tz0 × Tz0 × List (Int × Unit) × List Tz1 × List (Int × Unit) × List Tz1 × Unit → Option ((Ty6 × Bool × Unit) × Unit)) (rc28 : List Tz1 × Int × Tz0 × Tz0 × List (Int × Unit) × List Tz1 × List (Int × Unit) × List Tz1 × Unit → Option ((Ty6 × Bool × Unit) × Unit)) (z29 : List Tz1 × Int × Bool × Tz0 × Tz0 × List (Int × Unit) × List Tz1 × List (Int × Unit) × List Tz1 × Unit) : Option ((Ty6 × Bool × Unit) × Unit) :=
 if z29.2.2.1 = true then
 if inR 2 z29.1.length = true then
 (sp56 (lAt ([], ()) z29.1 2)).bind fun r30 =>
 joinK (sh46_K31 rc28) fun j32 =>
 if inR 0 z29.1.length = true then
 if inR z29.2.1 [([], ()), ([112, 104, 111, 116, 111, 99, 101, 108, 108], ()), ([115, 99, 97, 110, 110, 101, 114], ())].length = true then
 if
 decide
 (z29.2.1.toNat + 1 ≤
 [([], ()), ([112, 104, 111, 116, 111, 99, 101, 108, 108], ()), ([115, 99, 97, 110, 110, 101, 114], ())].length) =
 true then
 if
 ((lAt ([], ()) z29.1 0).1 ==
 ([([], ()), ([112, 104, 111, 116, 111, 99, 101, 108, 108], ()), ([115, 99, 97, 110, 110, 101, 114], ())].getD z29.2.1.toNat
 ([], ())).1) =
 true then
 if r30.1.2.1 = true then
 if inR 1 z29.1.length = true then (sp57 (lAt ([], ()) z29.1 1)).bind fun r33 => j32 (z29.1, z29.2.1, r30.1.1, r33.1, z29.2.2.2)
 else none
 else j32 (z29.1, z29.2.1, r30.1.1, false, z29.2.2.2)
 else j32 (z29.1, z29.2.1, r30.1.1, false, z29.2.2.2)
 else none
 else none
 else none
 else none
 else j27 (z29.1, z29.2.2.2)
noncomputable def sh46_L28 (j27 : List Tz1 × Tz0 × Tz0 × List (Int × Unit) × List Tz1 × List (Int × Unit) × List Tz1 × Unit → Option ((Ty6 × Bool × Unit) × Unit)) (rc28 : List Tz1 × Int × Tz0 × Tz0 × List (Int × Unit) × List Tz1 × List (Int × Unit) × List Tz1 × Unit → Option ((Ty6 × Bool × Unit) × Unit)) (z28 : List Tz1 × Int × Tz0 × Tz0 × List (Int × Unit) × List Tz1 × List (Int × Unit) × List Tz1 × Unit) : Option ((Ty6 × Bool × Unit) × Unit) :=
 joinK (sh46_K29 j27 rc28) fun j34 =>
 if decide (z28.2.1 ≤ 2) = true then j34 (z28.1, z28.2.1, (↑z28.1.length : Int) == 3, z28.2.2) else j34 (z28.1, z28.2.1, false, z28.2.2)
noncomputable def sh46 (fuel : Nat) (x0 : List UInt8) : Option ((Ty6 × Bool × Unit) × Unit) :=
 (sp45 (x0, 32, ())).bind fun r0 =>
 joinK (sh46_K1 fuel) fun j27 => iter fuel (sh46_L28 j27) (r0.1, 1, ([], 0, 0, 0, 0, 0, 0, ()), ([], 0, 0, 0, 0, 0, 0, ()), [], [], [], [], ())
noncomputable def sp46 (x : (List UInt8) × Unit) : Option ((Ty6 × Bool × Unit) × Unit) := sh46 100000 x.1
/-! 47 baggage/baggageref07.Find -/
def g47 : Sig := ⟨[.v (.ag ty7), .v (.ty .str)], .v (.ty (.int .i64))⟩
def h47 : HT := (nx (.j ⟨[], [], []⟩ (nx (.u (.l ⟨[(1, dS), (2, .ref 1000 2), (5, dI)], [(1000, .box b0)], []⟩ (.n (nx (.n .e .e)) (.n (.u (nx (.n (nx .e) .e))) (.r .x)))))) (nx .e)))
noncomputable def sh47_K0 (z0 : Unit) : Option (Int × Unit) :=
 some (-1, ())
noncomputable def sh47_L2 (j1 : Unit → Option (Int × Unit)) (rc2 : List UInt8 × Int × Ty7 × Unit → Option (Int × Unit)) (z2 : List UInt8 × Int × Ty7 × Unit) : Option (Int × Unit) :=
 if decide (z2.2.1 < (↑z2.2.2.1.1.length : Int)) = true then
 if inR z2.2.1 z2.2.2.1.1.length = true then
 if ((lAt ([], 0, 0, 0, [], ()) z2.2.2.1.1 z2.2.1).1 == z2.1) = true then some (z2.2.1, ()) else rc2 (z2.1, IntKind.i64.wrap (z2.2.1 + 1), z2.2.2)
 else none
 else j1 ()
noncomputable def sh47 (fuel : Nat) (x0 : Ty7) (x1 : List UInt8) : Option (Int × Unit) :=
 joinK sh47_K0 fun j1 => iter fuel (sh47_L2 j1) (x1, 0, x0, ())
noncomputable def sp47 (x : Ty7 × (List UInt8) × Unit) : Option (Int × Unit) := sh47 100000 x.1 x.2.1
/-! 64 baggage/baggageref07.in -/
def g64 : Sig := ⟨[.v (.ty (.int .i64)), .v (.ty (.int .i64)), .v (.ty (.int .i64))], .v (.ty .bool)⟩
def h64 : HT := (nx (.j ⟨[(6, dB)], [], []⟩ (.r .x) .e))
noncomputable def sh64_K0 (z0 : Bool × Unit) : Option (Bool × Unit) :=
 some z0
noncomputable def sh64 (fuel : Nat) (x0 : Int) (x1 : Int) (x2 : Int) : Option (Bool × Unit) :=
 joinK sh64_K0 fun j1 => if decide (x1 ≤ x0) = true then j1 (decide (x0 ≤ x2), ()) else j1 (false, ())
noncomputable def sp64 (x : (Int) × (Int) × (Int) × Unit) : Option (Bool × Unit) := sh64 0 x.1 x.2.1 x.2.2.1
/-! 60 baggage/baggageref07.node -/
def g60 : Sig := ⟨[.v (.ag ty7), .v (.ty (.int .i64))], .v (.ty (.int .i64))⟩
def h60 : HT := (nx (nx (.n (nx (.n (nx .e) .e)) (.n (nx (.n (nx .e) .e)) (nx (.j ⟨[(1, dI), (2, .ref 1000 2), (5, .ref 1001 5), (6, dI), (7, dI)], [(1000, .box b0), (1001, .box b3)], []⟩ (nx (nx .e)) (.j ⟨[(1, dI), (2, .ref 1002 2), (5, .ref 1003 5), (6, dI), (7, dI)], [(1002, .box b0), (1003, .box b3)], []⟩ (nx (nx .e)) (.n (.j ⟨[(1, dI), (2, .ref 1004 2), (5, .ref 1005 5), (49, dB)], [(1004, .box b0), (1005, .box b3)], []⟩ (.r .q) (.n (nx .e) .e)) (.j ⟨[(5, .ref 1014 5)], [(1014, .box b3)], []⟩ (nx (.u (.l ⟨[(1, dI), (2, .ref 1006 2), (5, .ref 1007 5), (8, dI)], [(1006, .box b0), (1007, .box b3)], []⟩ (.n (nx (.n .e .e)) (.n (.u (.j ⟨[(1, dI), (2, .ref 1008 2), (5, .ref 1009 5), (8, dI), (9, dB)], [(1008, .box b0), (1009, .box b3)], []⟩ (.r .x) (.j ⟨[(1, dI), (2, .ref 1010 2), (5, .ref 1011 5), (8, dI), (85, dB)], [(1010, .box b0), (1011, .box b3)], []⟩ (.r .q) (.n (nx .e) .e)))) (.r .x)))))) (.n (.j ⟨[(100, dB)], [], []⟩ (.r .q) (.n (nx .e) .e)) (nx .e)))))))))))
noncomputable def sh60_K6 (z6 : Bool × Unit) : Option (Int × Unit) :=
 if z6.1 = true then some (1, ()) else some (0, ())
noncomputable def sh60_K5 (z5 : Ty4 × Unit) : Option (Int × Unit) :=
 joinK sh60_K6 fun j7 =>
 if ((↑z5.1.2.2.2.2.1.length : Int) == 2) = true then
 if inR 0 z5.1.2.2.2.2.1.length = true then
 if inR 1 z5.1.2.2.2.2.1.length = true then j7 ((lAt (0, ()) z5.1.2.2.2.2.1 0).1 == (lAt (0, ()) z5.1.2.2.2.2.1 1).1, ()) else none
 else none
 else j7 (false, ())
noncomputable def sh60_K11 (rc9 : Int × Int × Ty7 × Ty4 × Unit → Option (Int × Unit)) (z11 : Int × Int × Bool × Ty7 × Ty4 × Unit) : Option (Int × Unit) :=
 if z11.2.2.1 = true then some (1, ()) else rc9 (z11.1, IntKind.i64.wrap (z11.2.1 + 1), z11.2.2.2)
noncomputable def sh60_K10 (rc9 : Int × Int × Ty7 × Ty4 × Unit → Option (Int × Unit)) (z10 : Int × Int × Bool × Ty7 × Ty4 × Unit) : Option (Int × Unit) :=
 joinK (sh60_K11 rc9) fun j12 =>
 if inR z10.2.1 z10.2.2.2.2.1.2.2.2.2.1.length = true then
 (sp64 ((lAt (0, ()) z10.2.2.2.2.1.2.2.2.2.1 z10.2.1).1, 0, IntKind.i64.wrap ((↑z10.2.2.2.1.1.length : Int) - 1), ())).bind fun r13 =>
 if (!r13.1) = true then j12 (z10.1, z10.2.1, true, z10.2.2.2)
 else
 if inR z10.2.1 z10.2.2.2.2.1.2.2.2.2.1.length = true then
 j12 (z10.1, z10.2.1, !((lAt (0, ()) z10.2.2.2.2.1.2.2.2.2.1 z10.2.1).1 == z10.1) == z10.2.2.1, z10.2.2.2)
 else none
 else none
noncomputable def sh60_L9 (j8 : Ty4 × Unit → Option (Int × Unit)) (rc9 : Int × Int × Ty7 × Ty4 × Unit → Option (Int × Unit)) (z9 : Int × Int × Ty7 × Ty4 × Unit) : Option (Int × Unit) :=
 if decide (z9.2.1 < (↑z9.2.2.2.1.2.2.2.2.1.length : Int)) = true then
 joinK (sh60_K10 rc9) fun j14 => if (z9.2.2.2.1.2.1 == 5) = true then j14 (z9.1, z9.2.1, z9.2.1 == 0, z9.2.2) else j14 (z9.1, z9.2.1, false, z9.2.2)
 else j8 z9.2.2.2
noncomputable def sh60_K4 (fuel : Nat) (z4 : Int × Bool × Ty7 × Ty4 × Unit) : Option (Int × Unit) :=
 if z4.2.1 = true then some (1, ()) else joinK sh60_K5 fun j8 => iter fuel (sh60_L9 j8) (z4.1, 0, z4.2.2)
noncomputable def sh60_K3 (fuel : Nat) (z3 : Int × Int × Int × Ty7 × Ty4 × Unit) : Option (Int × Unit) :=
 joinK (sh60_K4 fuel) fun j15 =>
 (sp64 (z3.2.2.2.2.1.2.2.1, z3.2.1, z3.2.2.1, ())).bind fun r16 =>
 if (!r16.1) = true then j15 (z3.1, true, z3.2.2.2)
 else
 (sp64 (z3.2.2.2.2.1.2.2.2.1, 0, 1, ())).bind fun r17 =>
 if (!r17.1) = true then j15 (z3.1, true, z3.2.2.2)
 else (sp58 (z3.2.2.2.2.1.2.1, ())).bind fun r18 => j15 (z3.1, (↑z3.2.2.2.2.1.2.2.2.2.1.length : Int) != r18.1, z3.2.2.2)
noncomputable def sh60_K2 (fuel : Nat) (z2 : Int × Int × Int × Ty7 × Ty4 × Unit) : Option (Int × Unit) :=
 joinK (sh60_K3 fuel) fun j19 => if (z2.2.2.2.2.1.2.1 == 5) = true then j19 (z2.1, 2, z2.2.2) else j19 z2
noncomputable def sh60 (fuel : Nat) (x0 : Ty7) (x1 : Int) : Option (Int × Unit) :=
 if inR x1 x0.1.length = true then
 (sp57 ((lAt ([], 0, 0, 0, [], ()) x0.1 x1).1, ())).bind fun r0 =>
 if (!r0.1) = true then some (3, ())
 else
 (sp64 ((lAt ([], 0, 0, 0, [], ()) x0.1 x1).2.1, 1, 9, ())).bind fun r1 =>
 if (!r1.1) = true then some (4, ())
 else
 joinK (sh60_K2 fuel) fun j20 =>
 (sp59 ((lAt ([], 0, 0, 0, [], ()) x0.1 x1).2.1, ())).bind fun r21 =>
 if r21.1 = true then j20 (x1, 1, 8, x0, lAt ([], 0, 0, 0, [], ()) x0.1 x1, ())
 else j20 (x1, 0, 0, x0, lAt ([], 0, 0, 0, [], ()) x0.1 x1, ())
 else none
noncomputable def sp60 (x : Ty7 × (Int) × Unit) : Option (Int × Unit) := sh60 100000 x.1 x.2.1
/-! 61 baggage/baggageref07.total -/
def g61 : Sig := ⟨[.v (.ag ty7)], .v (.ty (.int .i64))⟩
def h61 : HT := (nx (nx (.j ⟨[(3, dI)], [], []⟩ (nx (.u (.l ⟨[(1, .ref 1000 2), (3, dI), (4, dI)], [(1000, .box b0)], []⟩ (.n (nx (.n .e .e)) (.n (.u (.r .x)) (.r .x)))))) (nx .e))))
noncomputable def sh61_K0 (z0 : Int × Unit) : Option (Int × Unit) :=
 some z0
noncomputable def sh61_L2 (j1 : Int × Unit → Option (Int × Unit)) (rc2 : Int × Int × Ty7 × Unit → Option (Int × Unit)) (z2 : Int × Int × Ty7 × Unit) : Option (Int × Unit) :=
 if decide (z2.2.1 < (↑z2.2.2.1.1.length : Int)) = true then
 if inR z2.2.1 z2.2.2.1.1.length = true then
 rc2 (IntKind.i64.wrap (z2.1 + (lAt ([], 0, 0, 0, [], ()) z2.2.2.1.1 z2.2.1).2.2.1), IntKind.i64.wrap (z2.2.1 + 1), z2.2.2)
 else none
 else j1 (z2.1, ())
noncomputable def sh61 (fuel : Nat) (x0 : Ty7) : Option (Int × Unit) :=
 joinK sh61_K0 fun j1 => iter fuel (sh61_L2 j1) (0, 0, x0, ())
noncomputable def sp61 (x : Ty7 × Unit) : Option (Int × Unit) := sh61 100000 x.1
/-! 62 baggage/baggageref07.zoned -/
def g62 : Sig := ⟨[.v (.ag ty7)], .v (.ty .bool)⟩
def h62 : HT := (nx (.j ⟨[], [], []⟩ (nx (.u (.l ⟨[(1, .ref 1000 2), (3, dI)], [(1000, .box b0)], []⟩ (.n (nx (.n .e .e)) (.j ⟨[(1, .ref 1019 2), (3, dI)], [(1019, .box b0)], []⟩ (.u (nx (.j ⟨[(1, .ref 1001 2), (3, dI), (4, .ref 1002 5), (5, dB)], [(1001, .box b0), (1002, .box b3)], []⟩ (.r .x) (.j ⟨[(1, .ref 1003 2), (3, dI), (4, .ref 1004 5), (5, dB), (6, dB)], [(1003, .box b0), (1004, .box b3)], []⟩ (.r .x) (.n (.j ⟨[(1, .ref 1005 2), (3, dI), (4, .ref 1006 5), (56, dB)], [(1005, .box b0), (1006, .box b3)], []⟩ (.r .x) (.n (nx .e) .e)) (nx (.u (.l ⟨[(1, .ref 1007 2), (3, dI), (4, .ref 1008 5), (7, dI)], [(1007, .box b0), (1008, .box b3)], []⟩ (.n (nx (.n .e .e)) (.n (.u (.n (.r (.da 9)) (nx (.j ⟨[(1, .ref 1012 2), (3, dI), (4, .ref 1013 5), (7, dI), (8, .ref 1014 5), (9, dI)], [(1012, .box b0), (1013, .box b3), (1014, .box b3)], []⟩ (.j ⟨[(1, .ref 1009 2), (3, dI), (4, .ref 1010 5), (7, dI), (8, .ref 1011 5), (9, dI), (81, dB)], [(1009, .box b0), (1010, .box b3), (1011, .box b3)], []⟩ (.r .x) (nx .e)) (.j ⟨[(1, .ref 1015 2), (3, dI), (4, .ref 1016 5), (7, dI), (90, dB)], [(1015, .box b0), (1016, .box b3)], []⟩ (.r .x) (.n (nx .e) .e)))))) (.r .x))))))))))) (.r .x)))))) (nx .e)))
noncomputable def sh62_K0 (z0 : Unit) : Option (Bool × Unit) :=
 some (true, ())
noncomputable def sh62_K3 (rc2 : Int × Ty7 × Unit → Option (Bool × Unit)) (z3 : Int × Ty7 × Unit) : Option (Bool × Unit) :=
 rc2 (IntKind.i64.wrap (z3.1 + 1), z3.2)
noncomputable def sh62_K10 (rc8 : Int × Int × Ty7 × Ty4 × Unit → Option (Bool × Unit)) (z10 : Int × Int × Bool × Ty7 × Ty4 × Unit) : Option (Bool × Unit) :=
 if z10.2.2.1 = true then some (false, ()) else rc8 (z10.1, IntKind.i64.wrap (z10.2.1 + 1), z10.2.2.2)
noncomputable def sh62_K9 (rc8 : Int × Int × Ty7 × Ty4 × Unit → Option (Bool × Unit)) (z9 : Int × Int × Int × Ty7 × Ty4 × Ty4 × Unit) : Option (Bool × Unit) :=
 joinK (sh62_K10 rc8) fun j11 =>
 if (z9.2.2.2.2.2.1.2.1 == 1) = true then j11 (z9.1, z9.2.1, true, z9.2.2.2.1, z9.2.2.2.2.1, ())
 else j11 (z9.1, z9.2.1, z9.2.2.2.2.2.1.2.2.2.1 != z9.2.2.1, z9.2.2.2.1, z9.2.2.2.2.1, ())
noncomputable def sh62_K13 (j12 : Int × Int × Int × Ty7 × Ty4 × Ty4 × Unit → Option (Bool × Unit)) (z13 : Int × Int × Int × Bool × Ty7 × Ty4 × Ty4 × Unit) : Option (Bool × Unit) :=
 if z13.2.2.2.1 = true then j12 (z13.1, z13.2.1, 1, z13.2.2.2.2) else j12 (z13.1, z13.2.1, z13.2.2.1, z13.2.2.2.2)
noncomputable def sh62_L8 (j4 : Int × Ty7 × Unit → Option (Bool × Unit)) (rc8 : Int × Int × Ty7 × Ty4 × Unit → Option (Bool × Unit)) (z8 : Int × Int × Ty7 × Ty4 × Unit) : Option (Bool × Unit) :=
 if decide (z8.2.1 < (↑z8.2.2.2.1.2.2.2.2.1.length : Int)) = true then
 if inR z8.2.1 z8.2.2.2.1.2.2.2.2.1.length = true then
 if inR (lAt (0, ()) z8.2.2.2.1.2.2.2.2.1 z8.2.1).1 z8.2.2.1.1.length = true then
 joinK (sh62_K9 rc8) fun j12 =>
 joinK (sh62_K13 j12) fun j14 =>
 if (z8.2.2.2.1.2.1 == 6) = true then
 j14
 (z8.1, z8.2.1, z8.2.2.2.1.2.2.2.1, z8.2.1 == 1, z8.2.2.1, z8.2.2.2.1,
 lAt ([], 0, 0, 0, [], ()) z8.2.2.1.1 (lAt (0, ()) z8.2.2.2.1.2.2.2.2.1 z8.2.1).1, ())
 else
 j14
 (z8.1, z8.2.1, z8.2.2.2.1.2.2.2.1, false, z8.2.2.1, z8.2.2.2.1,
 lAt ([], 0, 0, 0, [], ()) z8.2.2.1.1 (lAt (0, ()) z8.2.2.2.1.2.2.2.2.1 z8.2.1).1, ())
 else none
 else none
 else j4 (z8.1, z8.2.2.1, ())
noncomputable def sh62_K7 (fuel : Nat) (j4 : Int × Ty7 × Unit → Option (Bool × Unit)) (z7 : Int × Bool × Ty7 × Ty4 × Unit) : Option (Bool × Unit) :=
 if z7.2.1 = true then some (false, ()) else iter fuel (sh62_L8 j4) (z7.1, 0, z7.2.2)
noncomputable def sh62_K6 (fuel : Nat) (j4 : Int × Ty7 × Unit → Option (Bool × Unit)) (z6 : Int × Bool × Bool × Ty7 × Ty4 × Unit) : Option (Bool × Unit) :=
 joinK (sh62_K7 fuel j4) fun j15 =>
 if z6.2.1 = true then
 if (z6.2.2.2.2.1.2.2.2.1 != 0) = true then j15 (z6.1, true, z6.2.2.2)
 else if z6.2.2.1 = true then j15 (z6.1, z6.2.2.2.2.1.2.2.2.1 != 1, z6.2.2.2) else j15 (z6.1, false, z6.2.2.2)
 else if z6.2.2.1 = true then j15 (z6.1, z6.2.2.2.2.1.2.2.2.1 != 1, z6.2.2.2) else j15 (z6.1, false, z6.2.2.2)
noncomputable def sh62_K5 (fuel : Nat) (j4 : Int × Ty7 × Unit → Option (Bool × Unit)) (z5 : Int × Bool × Ty7 × Ty4 × Unit) : Option (Bool × Unit) :=
 joinK (sh62_K6 fuel j4) fun j16 =>
 if (z5.2.2.2.1.2.1 == 7) = true then j16 (z5.1, z5.2.1, true, z5.2.2) else j16 (z5.1, z5.2.1, z5.2.2.2.1.2.1 == 8, z5.2.2)
noncomputable def sh62_L2 (fuel : Nat) (j1 : Unit → Option (Bool × Unit)) (rc2 : Int × Ty7 × Unit → Option (Bool × Unit)) (z2 : Int × Ty7 × Unit) : Option (Bool × Unit) :=
 if decide (z2.1 < (↑z2.2.1.1.length : Int)) = true then
 joinK (sh62_K3 rc2) fun j4 =>
 if inR z2.1 z2.2.1.1.length = true then
 joinK (sh62_K5 fuel j4) fun j17 =>
 if ((lAt ([], 0, 0, 0, [], ()) z2.2.1.1 z2.1).2.1 == 1) = true then j17 (z2.1, true, z2.2.1, lAt ([], 0, 0, 0, [], ()) z2.2.1.1 z2.1, ())
 else
 if ((lAt ([], 0, 0, 0, [], ()) z2.2.1.1 z2.1).2.1 == 3) = true then j17 (z2.1, true, z2.2.1, lAt ([], 0, 0, 0, [], ()) z2.2.1.1 z2.1, ())
 else j17 (z2.1, (lAt ([], 0, 0, 0, [], ()) z2.2.1.1 z2.1).2.1 == 6, z2.2.1, lAt ([], 0, 0, 0, [], ()) z2.2.1.1 z2.1, ())
 else none
 else j1 ()
noncomputable def sh62 (fuel : Nat) (x0 : Ty7) : Option (Bool × Unit) :=
 joinK sh62_K0 fun j1 => iter fuel (sh62_L2 fuel j1) (0, x0, ())
noncomputable def sp62 (x : Ty7 × Unit) : Option (Bool × Unit) := sh62 100000 x.1
/-! 24 baggage/baggagekeep.In -/
def g24 : Sig := ⟨[.v (.ty (.sl (.cons (.int .i64) .nil))), .v (.ty (.int .i64))], .v (.ty .bool)⟩
def h24 : HT := (nx (.j ⟨[], [], []⟩ (nx (.u (.l ⟨[(0, dL), (1, dI), (5, dI)], [], []⟩ (.n (nx (.n .e .e)) (.n (.u (nx (.n (nx .e) .e))) (.r .x)))))) (nx .e)))
noncomputable def sh24_K0 (z0 : Unit) : Option (Bool × Unit) :=
 some (false, ())
noncomputable def sh24_L2 (j1 : Unit → Option (Bool × Unit)) (rc2 : List (Int × Unit) × Int × Int × Unit → Option (Bool × Unit)) (z2 : List (Int × Unit) × Int × Int × Unit) : Option (Bool × Unit) :=
 if decide (z2.2.2.1 < (↑z2.1.length : Int)) = true then
 if inR z2.2.2.1 z2.1.length = true then
 if ((lAt (0, ()) z2.1 z2.2.2.1).1 == z2.2.1) = true then some (true, ()) else rc2 (z2.1, z2.2.1, IntKind.i64.wrap (z2.2.2.1 + 1), ())
 else none
 else j1 ()
noncomputable def sh24 (fuel : Nat) (x0 : List (Int × Unit)) (x1 : Int) : Option (Bool × Unit) :=
 joinK sh24_K0 fun j1 => iter fuel (sh24_L2 j1) (x0, x1, 0, ())
noncomputable def sp24 (x : (List (Int × Unit)) × (Int) × Unit) : Option (Bool × Unit) := sh24 100000 x.1 x.2.1
/-! 79 baggage/baggageref07.Leads -/
def g79 : Sig := ⟨[.v (.ag ty7), .v (.ty (.int .i64)), .v (.ty (.int .i64))], .v (.ty .bool)⟩
def h79 : HT := (nx (.j ⟨[(6, dB)], [], []⟩ (.r .x) .e))
noncomputable def sh79_K0 (z0 : Bool × Unit) : Option (Bool × Unit) :=
 some z0
noncomputable def sh79 (fuel : Nat) (x0 : Ty7) (x1 : Int) (x2 : Int) : Option (Bool × Unit) :=
 joinK sh79_K0 fun j1 =>
 if (x1 != x2) = true then
 if inR x1 x0.1.length = true then (sp24 ((lAt ([], 0, 0, 0, [], ()) x0.1 x1).2.2.2.2.1, x2, ())).bind fun r2 => j1 r2 else none
 else j1 (false, ())
noncomputable def sp79 (x : Ty7 × (Int) × (Int) × Unit) : Option (Bool × Unit) := sh79 0 x.1 x.2.1 x.2.2.1
/-! 63 baggage/baggageref07.order -/
def g63 : Sig := ⟨[.v (.ag ty7)], .own (.cons (.int .i64) .nil)⟩
def h63 : HT := (nx (nx (.j ⟨[(3, .own 1022)], [(1022, .arr (.cons (.int .i64) .nil))], []⟩ (.u (.l ⟨[(1, .ref 1000 2), (3, .own 1001)], [(1000, .box b0), (1001, .arr (.cons (.int .i64) .nil))], []⟩ (.n (nx (.n .e .e)) (.u (nx (.j ⟨[(1, .ref 1018 2), (3, .own 1019), (4, dI)], [(1018, .box b0), (1019, .arr (.cons (.int .i64) .nil))], []⟩ (nx (.u (.l ⟨[(1, .ref 1002 2), (3, .own 1003), (4, dI), (5, dI)], [(1002, .box b0), (1003, .arr (.cons (.int .i64) .nil))], []⟩ (.n (nx (.n .e .e)) (.j ⟨[(1, .ref 1014 2), (3, .own 1015), (4, dI), (5, dI)], [(1014, .box b0), (1015, .arr (.cons (.int .i64) .nil))], []⟩ (.u (nx (.j ⟨[(1, .ref 1012 2), (3, .own 1013), (4, dI), (5, dI), (6, dB)], [(1012, .box b0), (1013, .arr (.cons (.int .i64) .nil))], []⟩ (nx (.u (.l ⟨[(1, .ref 1004 2), (3, .own 1005), (4, dI), (5, dI), (6, dB), (7, dI)], [(1004, .box b0), (1005, .arr (.cons (.int .i64) .nil))], []⟩ (.n (nx (.n .e .e)) (.j ⟨[(1, .ref 1008 2), (3, .own 1009), (4, dI), (5, dI), (6, dB), (7, dI)], [(1008, .box b0), (1009, .arr (.cons (.int .i64) .nil))], []⟩ (.u (.j ⟨[(1, .ref 1006 2), (3, .own 1007), (4, dI), (5, dI), (6, dB), (7, dI), (42, dB)], [(1006, .box b0), (1007, .arr (.cons (.int .i64) .nil))], []⟩ (.r .x) (nx .e))) (.r .x)))))) (nx (nx .e))))) (.r .x)))))) (.n (nx (.n (nx .e) .e)) (.r .x)))))))) (nx .e))))
noncomputable def sh63_K0 (z0 : List (Int × Unit) × Unit) : Option (List (Int × Unit) × Unit) :=
 some z0
noncomputable def sh63_K3 (rc2 : Ty7 × List (Int × Unit) × Unit → Option (List (Int × Unit) × Unit)) (z3 : Int × Ty7 × List (Int × Unit) × Unit) : Option (List (Int × Unit) × Unit) :=
 if decide (z3.1 < 0) = true then some z3.2.2
 else
 if decide (z3.2.2.1.length + 1 ≤ Abs.lim) = true then
 if decide ((z3.2.2.1.length + 1) * 8 ≤ Abs.lim) = true then rc2 (z3.2.1, z3.2.2.1 ++ [(z3.1, ())], ()) else none
 else none
noncomputable def sh63_K6 (rc5 : Int × Int × Ty7 × List (Int × Unit) × Unit → Option (List (Int × Unit) × Unit)) (z6 : Int × Int × Ty7 × List (Int × Unit) × Unit) : Option (List (Int × Unit) × Unit) :=
 rc5 (z6.1, IntKind.i64.wrap (z6.2.1 - 1), z6.2.2)
noncomputable def sh63_K9 (j7 : Int × Int × Ty7 × List (Int × Unit) × Unit → Option (List (Int × Unit) × Unit)) (z9 : Int × Int × Bool × Ty7 × List (Int × Unit) × Unit) : Option (List (Int × Unit) × Unit) :=
 if z9.2.2.1 = true then j7 (z9.2.1, z9.2.1, z9.2.2.2) else j7 (z9.1, z9.2.1, z9.2.2.2)
noncomputable def sh63_K12 (rc11 : Int × Int × Bool × Int × Ty7 × List (Int × Unit) × Unit → Option (List (Int × Unit) × Unit)) (z12 : Int × Int × Bool × Int × Ty7 × List (Int × Unit) × Unit) : Option (List (Int × Unit) × Unit) :=
 rc11 (z12.1, z12.2.1, z12.2.2.1, IntKind.i64.wrap (z12.2.2.2.1 + 1), z12.2.2.2.2)
noncomputable def sh63_K14 (j13 : Int × Int × Bool × Int × Ty7 × List (Int × Unit) × Unit → Option (List (Int × Unit) × Unit)) (z14 : Int × Int × Bool × Int × Bool × Ty7 × List (Int × Unit) × Unit) : Option (List (Int × Unit) × Unit) :=
 if z14.2.2.2.2.1 = true then j13 (z14.1, z14.2.1, false, z14.2.2.2.1, z14.2.2.2.2.2) else j13 (z14.1, z14.2.1, z14.2.2.1, z14.2.2.2.1, z14.2.2.2.2.2)
noncomputable def sh63_L11 (j10 : Int × Int × Bool × Ty7 × List (Int × Unit) × Unit → Option (List (Int × Unit) × Unit)) (rc11 : Int × Int × Bool × Int × Ty7 × List (Int × Unit) × Unit → Option (List (Int × Unit) × Unit)) (z11 : Int × Int × Bool × Int × Ty7 × List (Int × Unit) × Unit) : Option (List (Int × Unit) × Unit) :=
 if decide (z11.2.2.2.1 < (↑z11.2.2.2.2.1.1.length : Int)) = true then
 joinK (sh63_K12 rc11) fun j13 =>
 joinK (sh63_K14 j13) fun j15 =>
 (sp79 (z11.2.2.2.2.1, z11.2.2.2.1, z11.2.1, ())).bind fun r16 =>
 if r16.1 = true then
 (sp24 (z11.2.2.2.2.2.1, z11.2.2.2.1, ())).bind fun r17 => j15 (z11.1, z11.2.1, z11.2.2.1, z11.2.2.2.1, !r17.1, z11.2.2.2.2)
 else j15 (z11.1, z11.2.1, z11.2.2.1, z11.2.2.2.1, false, z11.2.2.2.2)
 else j10 (z11.1, z11.2.1, z11.2.2.1, z11.2.2.2.2)
noncomputable def sh63_L5 (fuel : Nat) (j4 : Int × Ty7 × List (Int × Unit) × Unit → Option (List (Int × Unit) × Unit)) (rc5 : Int × Int × Ty7 × List (Int × Unit) × Unit → Option (List (Int × Unit) × Unit)) (z5 : Int × Int × Ty7 × List (Int × Unit) × Unit) : Option (List (Int × Unit) × Unit) :=
 if decide (0 ≤ z5.2.1) = true then
 joinK (sh63_K6 rc5) fun j7 =>
 (sp24 (z5.2.2.2.1, z5.2.1, ())).bind fun r8 => joinK (sh63_K9 j7) fun j10 => iter fuel (sh63_L11 j10) (z5.1, z5.2.1, !r8.1, 0, z5.2.2)
 else j4 (z5.1, z5.2.2)
noncomputable def sh63_L2 (fuel : Nat) (j1 : List (Int × Unit) × Unit → Option (List (Int × Unit) × Unit)) (rc2 : Ty7 × List (Int × Unit) × Unit → Option (List (Int × Unit) × Unit)) (z2 : Ty7 × List (Int × Unit) × Unit) : Option (List (Int × Unit) × Unit) :=
 if decide ((↑z2.2.1.length : Int) < (↑z2.1.1.length : Int)) = true then
 joinK (sh63_K3 rc2) fun j4 => iter fuel (sh63_L5 fuel j4) (-1, IntKind.i64.wrap ((↑z2.1.1.length : Int) - 1), z2)
 else j1 z2.2
noncomputable def sh63 (fuel : Nat) (x0 : Ty7) : Option (List (Int × Unit) × Unit) :=
 joinK sh63_K0 fun j1 => iter fuel (sh63_L2 fuel j1) (x0, [], ())
noncomputable def sp63 (x : Ty7 × Unit) : Option (List (Int × Unit) × Unit) := sh63 100000 x.1
/-! 48 baggage/baggageref07.Validate -/
def g48 : Sig := ⟨[.v (.ag ty7)], .v (.ty (.int .i64))⟩
def h48 : HT := (nx (.n (.j ⟨[(1, .ref 1000 2), (20, dB)], [(1000, .box b0)], []⟩ (.r .x) (.n (nx .e) .e)) (nx (.j ⟨[(1, .ref 1004 2), (3, dI)], [(1004, .box b0)], []⟩ (nx (.u (.l ⟨[(1, .ref 1001 2), (3, dI), (4, dI)], [(1001, .box b0)], []⟩ (.n (nx (.n .e .e)) (.j ⟨[(1, .ref 1002 2), (3, dI), (4, dI)], [(1002, .box b0)], []⟩ (.u (.n (nx (nx (.n (nx .e) .e))) (nx (nx .e)))) (.r .x)))))) (.n (nx (.n (nx .e) .e)) (.j ⟨[(1, .ref 1007 2), (3, dI)], [(1007, .box b0)], []⟩ (nx (.u (.l ⟨[(1, .ref 1005 2), (3, dI), (6, dI)], [(1005, .box b0)], []⟩ (.n (nx (.n .e .e)) (.n (.u (.n (.r .q) (.n (nx .e) .e))) (.r .x)))))) (.n (nx (.n (nx .e) .e)) (.n (.n (.r (.w 6 [(0, 0), (0, 3), (0, 4), (0, 5), (2, 1), (0, 2)])) (.n (nx .e) .e)) (.j ⟨[(1, .ref 1013 2), (3, dI)], [(1013, .box b0)], []⟩ (nx (.u (.l ⟨[(1, .ref 1008 2), (3, dI), (7, dI)], [(1008, .box b0)], []⟩ (.n (nx (.n .e .e)) (.n (.u (nx (.n (.j ⟨[(1, .ref 1009 2), (3, dI), (7, dI), (8, .ref 1010 3), (92, dB)], [(1009, .box b0), (1010, .box b5)], []⟩ (.r .x) (.n (nx .e) .e)) (.j ⟨[(1, .ref 1011 2), (3, dI), (7, dI), (114, dB)], [(1011, .box b0)], []⟩ (.r .q) (.n (nx .e) .e))))) (.r .x)))))) (.j ⟨[(3, dI)], [], []⟩ (nx (.u (.l ⟨[(1, .ref 1014 2), (3, dI), (9, dI)], [(1014, .box b0)], []⟩ (.n (nx (.n .e .e)) (.j ⟨[(1, .ref 1017 2), (3, dI), (9, dI)], [(1017, .box b0)], []⟩ (.u (nx (.u (.l ⟨[(1, .ref 1015 2), (3, dI), (9, dI), (10, dI)], [(1015, .box b0)], []⟩ (.n (nx (.n .e .e)) (.n (.u (.n (.r .q) (.n (nx .e) .e))) (.r .x))))))) (.r .x)))))) (.n (nx (.n (nx .e) .e)) (nx .e))))))))))))
noncomputable def sh48_K7 (z7 : Int × Unit) : Option (Int × Unit) :=
 if (z7.1 == 0) = true then some (6, ()) else some (0, ())
noncomputable def sh48_K10 (rc9 : Int × Int × Ty7 × Unit → Option (Int × Unit)) (z10 : Int × Int × Ty7 × Unit) : Option (Int × Unit) :=
 rc9 (z10.1, IntKind.i64.wrap (z10.2.1 + 1), z10.2.2)
noncomputable def sh48_L12 (j11 : Int × Int × Ty7 × Unit → Option (Int × Unit)) (rc12 : Int × Int × Int × Ty7 × Unit → Option (Int × Unit)) (z12 : Int × Int × Int × Ty7 × Unit) : Option (Int × Unit) :=
 if decide (z12.2.2.1 < z12.2.1) = true then
 if inR z12.2.1 z12.2.2.2.1.2.1.length = true then
 if inR z12.2.2.1 z12.2.2.2.1.2.1.length = true then
 if
 ((lAt (0, 0, 0, ()) z12.2.2.2.1.2.1 z12.2.1).1 == (lAt (0, 0, 0, ()) z12.2.2.2.1.2.1 z12.2.2.1).1 &&
 ((lAt (0, 0, 0, ()) z12.2.2.2.1.2.1 z12.2.1).2.1 == (lAt (0, 0, 0, ()) z12.2.2.2.1.2.1 z12.2.2.1).2.1 &&
 ((lAt (0, 0, 0, ()) z12.2.2.2.1.2.1 z12.2.1).2.2.1 == (lAt (0, 0, 0, ()) z12.2.2.2.1.2.1 z12.2.2.1).2.2.1 && true))) =
 true then
 some (5, ())
 else rc12 (z12.1, z12.2.1, IntKind.i64.wrap (z12.2.2.1 + 1), z12.2.2.2)
 else none
 else none
 else j11 (z12.1, z12.2.1, z12.2.2.2)
noncomputable def sh48_L9 (fuel : Nat) (j8 : Int × Unit → Option (Int × Unit)) (rc9 : Int × Int × Ty7 × Unit → Option (Int × Unit)) (z9 : Int × Int × Ty7 × Unit) : Option (Int × Unit) :=
 if decide (z9.2.1 < (↑z9.2.2.1.2.1.length : Int)) = true then joinK (sh48_K10 rc9) fun j11 => iter fuel (sh48_L12 j11) (z9.1, z9.2.1, 0, z9.2.2)
 else j8 (z9.1, ())
noncomputable def sh48_K6 (fuel : Nat) (z6 : Int × Ty7 × Unit) : Option (Int × Unit) :=
 joinK sh48_K7 fun j8 => iter fuel (sh48_L9 fuel j8) (z6.1, 0, z6.2)
noncomputable def sh48_K16 (rc14 : Int × Int × Ty7 × Unit → Option (Int × Unit)) (z16 : Int × Int × Bool × Ty7 × Unit) : Option (Int × Unit) :=
 if z16.2.2.1 = true then some (1, ()) else rc14 (z16.1, IntKind.i64.wrap (z16.2.1 + 1), z16.2.2.2)
noncomputable def sh48_K15 (rc14 : Int × Int × Ty7 × Unit → Option (Int × Unit)) (z15 : Int × Int × Bool × Ty7 × Ty2 × Unit) : Option (Int × Unit) :=
 if z15.2.2.1 = true then some (4, ())
 else
 joinK (sh48_K16 rc14) fun j17 =>
 (sp64 (z15.2.2.2.2.1.2.1, 0, IntKind.i64.wrap ((↑z15.2.2.2.1.1.length : Int) - 1), ())).bind fun r18 =>
 if (!r18.1) = true then j17 (z15.1, z15.2.1, true, z15.2.2.2.1, ())
 else
 if inR z15.2.2.2.2.1.2.1 z15.2.2.2.1.1.length = true then
 (sp64 (z15.2.2.2.2.1.2.2.1, 0, IntKind.i64.wrap ((lAt ([], 0, 0, 0, [], ()) z15.2.2.2.1.1 z15.2.2.2.2.1.2.1).2.2.1 - 1), ())).bind
 fun r19 => j17 (z15.1, z15.2.1, !r19.1, z15.2.2.2.1, ())
 else none
noncomputable def sh48_L14 (j13 : Int × Ty7 × Unit → Option (Int × Unit)) (rc14 : Int × Int × Ty7 × Unit → Option (Int × Unit)) (z14 : Int × Int × Ty7 × Unit) : Option (Int × Unit) :=
 if decide (z14.2.1 < (↑z14.2.2.1.2.1.length : Int)) = true then
 if inR z14.2.1 z14.2.2.1.2.1.length = true then
 joinK (sh48_K15 rc14) fun j20 =>
 if ((lAt (0, 0, 0, ()) z14.2.2.1.2.1 z14.2.1).1 != 1) = true then
 j20 (z14.1, z14.2.1, (lAt (0, 0, 0, ()) z14.2.2.1.2.1 z14.2.1).1 != 2, z14.2.2.1, lAt (0, 0, 0, ()) z14.2.2.1.2.1 z14.2.1, ())
 else j20 (z14.1, z14.2.1, false, z14.2.2.1, lAt (0, 0, 0, ()) z14.2.2.1.2.1 z14.2.1, ())
 else none
 else j13 (z14.1, z14.2.2)
noncomputable def sh48_K3 (fuel : Nat) (z3 : Int × Ty7 × Unit) : Option (Int × Unit) :=
 (sp62 z3.2).bind fun r4 =>
 if (!r4.1) = true then some (7, ())
 else
 (sp63 z3.2).bind fun r5 =>
 if decide ((↑r5.1.length : Int) < (↑z3.2.1.1.length : Int)) = true then some (9, ())
 else joinK (sh48_K6 fuel) fun j13 => iter fuel (sh48_L14 j13) (z3.1, 0, z3.2)
noncomputable def sh48_L22 (j21 : Int × Ty7 × Unit → Option (Int × Unit)) (rc22 : Int × Int × Ty7 × Unit → Option (Int × Unit)) (z22 : Int × Int × Ty7 × Unit) : Option (Int × Unit) :=
 if decide (z22.2.1 < (↑z22.2.2.1.1.length : Int)) = true then
 if inR z22.2.1 z22.2.2.1.1.length = true then
 (sp47 (z22.2.2.1, (lAt ([], 0, 0, 0, [], ()) z22.2.2.1.1 z22.2.1).1, ())).bind fun r23 =>
 if (r23.1 != z22.2.1) = true then some (5, ()) else rc22 (z22.1, IntKind.i64.wrap (z22.2.1 + 1), z22.2.2)
 else none
 else j21 (z22.1, z22.2.2)
noncomputable def sh48_K1 (fuel : Nat) (z1 : Int × Ty7 × Unit) : Option (Int × Unit) :=
 (sp61 z1.2).bind fun r2 =>
 if decide (80 < r2.1) = true then some (2, ()) else joinK (sh48_K3 fuel) fun j21 => iter fuel (sh48_L22 j21) (z1.1, 0, z1.2)
noncomputable def sh48_K26 (rc25 : Int × Int × Ty7 × Unit → Option (Int × Unit)) (z26 : Int × Int × Ty7 × Unit) : Option (Int × Unit) :=
 rc25 (z26.1, IntKind.i64.wrap (z26.2.1 + 1), z26.2.2)
noncomputable def sh48_L25 (j24 : Int × Ty7 × Unit → Option (Int × Unit)) (rc25 : Int × Int × Ty7 × Unit → Option (Int × Unit)) (z25 : Int × Int × Ty7 × Unit) : Option (Int × Unit) :=
 if decide (z25.2.1 < (↑z25.2.2.1.1.length : Int)) = true then
 joinK (sh48_K26 rc25) fun j27 =>
 (sp60 (z25.2.2.1, z25.2.1, ())).bind fun r28 =>
 if (r28.1 != 0) = true then some r28
 else
 if inR z25.2.1 z25.2.2.1.1.length = true then
 if ((lAt ([], 0, 0, 0, [], ()) z25.2.2.1.1 z25.2.1).2.1 == 1) = true then j27 (IntKind.i64.wrap (z25.1 + 1), z25.2) else j27 z25
 else none
 else j24 (z25.1, z25.2.2)
noncomputable def sh48_K0 (fuel : Nat) (z0 : Bool × Ty7 × Unit) : Option (Int × Unit) :=
 if z0.1 = true then some (2, ()) else joinK (sh48_K1 fuel) fun j24 => iter fuel (sh48_L25 j24) (0, 0, z0.2)
noncomputable def sh48 (fuel : Nat) (x0 : Ty7) : Option (Int × Unit) :=
 joinK (sh48_K0 fuel) fun j29 =>
 if decide (24 < (↑x0.1.length : Int)) = true then j29 (true, x0, ()) else j29 (decide (24 < (↑x0.2.1.length : Int)), x0, ())
noncomputable def sp48 (x : Ty7 × Unit) : Option (Int × Unit) := sh48 100000 x.1
/-! 22 baggage/baggageref07.Parse -/
def g22 : Sig := ⟨[.v (.ty .str)], .tup [(.ag ty7), (.ty (.int .i64)), (.ty (.int .i64))]⟩
def h22 : HT := (nx (.n (nx (.n (nx .e) .e)) (nx (nx (nx (nx (nx (.j ⟨[(2, .ref 1029 2), (5, .d (.ty (.sl (.cons .str .nil)))), (6, dS), (7, .own 1030), (8, .ref 1031 2)], [(1029, .box [.own 1032, .own 1033]), (1031, .box [.own 1034, .own 1035]), (1030, .arr ty6), (1032, .arr ty4), (1033, .arr ty2), (1034, .arr ty4), (1035, .arr ty2)], []⟩ (nx (.u (.l ⟨[(2, .ref 1000 2), (5, .d (.ty (.sl (.cons .str .nil)))), (6, dS), (7, .own 1001), (8, .ref 1002 2), (9, dI)], [(1000, .box [.own 1003, .own 1004]), (1002, .box [.own 1005, .own 1006]), (1001, .arr ty6), (1003, .arr ty4), (1004, .arr ty2), (1005, .arr ty4), (1006, .arr ty2)], []⟩ (.n (nx (.n .e .e)) (.j ⟨[(2, .ref 1015 2), (5, .d (.ty (.sl (.cons .str .nil)))), (6, dS), (7, .own 1016), (8, .ref 1017 2), (9, dI)], [(1015, .box [.own 1018, .own 1019]), (1017, .box [.own 1020, .own 1021]), (1016, .arr ty6), (1018, .arr ty4), (1019, .arr ty2), (1020, .arr ty4), (1021, .arr ty2)], []⟩ (.u (nx (.n (.j ⟨[(2, .ref 1007 2), (5, .d (.ty (.sl (.cons .str .nil)))), (6, dS), (7, .own 1008), (8, .ref 1009 2), (9, dI), (10, .ref 1010 9), (60, dB)], [(1007, .box [.own 1011, .own 1012]), (1009, .box [.own 1013, .own 1014]), (1010, .box [.d .str, .d (.int .i64), .d (.int .i64), .d (.int .i64), .d (.sl (.cons (.int .i64) .nil)), .d (.int .i64), .d (.int .i64), .d (.int .i64), .d (.sl (.cons .str .nil))]), (1008, .arr ty6), (1011, .arr ty4), (1012, .arr ty2), (1013, .arr ty4), (1014, .arr ty2)], []⟩ (.r .x) (.n (nx .e) .e)) (nx (nx (nx (.r .x))))))) (.r .x)))))) (.n (nx (.n (nx .e) .e)) (.j ⟨[(2, .ref 1078 2), (8, .ref 1079 2)], [(1078, .box [.own 1080, .own 1081]), (1079, .box [.own 1082, .own 1083]), (1080, .arr ty4), (1081, .arr ty2), (1082, .arr ty4), (1083, .arr ty2)], []⟩ (nx (.u (.l ⟨[(2, .ref 1036 2), (7, .own 1037), (8, .ref 1038 2), (12, dI)], [(1036, .box [.own 1039, .own 1040]), (1038, .box [.own 1041, .own 1042]), (1037, .arr ty6), (1039, .arr ty4), (1040, .arr ty2), (1041, .arr ty4), (1042, .arr ty2)], []⟩ (.n (nx (.n .e .e)) (.j ⟨[(2, .ref 1064 2), (7, .own 1065), (8, .ref 1066 2), (12, dI)], [(1064, .box [.own 1067, .own 1068]), (1066, .box [.own 1069, .own 1070]), (1065, .arr ty6), (1067, .arr ty4), (1068, .arr ty2), (1069, .arr ty4), (1070, .arr ty2)], []⟩ (.u (nx (.u (.l ⟨[(2, .ref 1043 2), (7, .own 1044), (8, .ref 1045 2), (12, dI), (13, dI)], [(1043, .box [.own 1046, .own 1047]), (1045, .box [.own 1048, .own 1049]), (1044, .arr ty6), (1046, .arr ty4), (1047, .arr ty2), (1048, .arr ty4), (1049, .arr ty2)], []⟩ (.n (nx (.n .e .e)) (.j ⟨[(2, .ref 1050 2), (7, .own 1051), (8, .ref 1052 2), (12, dI), (13, dI)], [(1050, .box [.own 1053, .own 1054]), (1052, .box [.own 1055, .own 1056]), (1051, .arr ty6), (1053, .arr ty4), (1054, .arr ty2), (1055, .arr ty4), (1056, .arr ty2)], []⟩ (.u (.n (.r .q) (.n (nx (.n (nx .e) .e)) (nx (.n (.r (.w 13 [(0, 0), (0, 1), (1, 2), (0, 3), (0, 4), (1, 5), (0, 6), (0, 7), (0, 8), (1, 10), (2, 9), (5, 11), (2, 12)])) (.r .x)))))) (.r .x))))))) (.r .x)))))) (.n (nx (nx (.n (nx .e) .e))) (nx .e))))))))))))
noncomputable def sh22_K2 (z2 : Unit × Unit × List Ty4 × List Ty2 × List Ty4 × List Ty2 × Unit) : Option ((Ty7 × Int × Int × Unit) × Unit) :=
 (sp48 (z2.2.2.2.2, ())).bind fun r3 => if (r3.1 != 0) = true then some ((([], [], ()), 0, r3), ()) else some ((z2.2.2.2.2, 0, 0, ()), ())
noncomputable def sh22_K6 (rc5 : Int × Unit × Unit × List Ty6 × List Ty4 × List Ty2 × List Ty4 × List Ty2 × Unit → Option ((Ty7 × Int × Int × Unit) × Unit)) (z6 : Int × Unit × Unit × List Ty6 × List Ty4 × List Ty2 × List Ty4 × List Ty2 × Unit) : Option ((Ty7 × Int × Int × Unit) × Unit) :=
 rc5 (IntKind.i64.wrap (z6.1 + 1), (), (), z6.2.2.2)
noncomputable def sh22_K9 (rc8 : Int × Int × Unit × Unit × List Ty6 × List Ty4 × List Ty2 × List Ty4 × List Ty2 × Unit → Option ((Ty7 × Int × Int × Unit) × Unit)) (z9 : Int × Int × Unit × Unit × List Ty6 × List Ty4 × List Ty2 × List Ty4 × List Ty2 × Unit) : Option ((Ty7 × Int × Int × Unit) × Unit) :=
 rc8 (z9.1, IntKind.i64.wrap (z9.2.1 + 1), (), (), z9.2.2.2.2)
noncomputable def sh22_L8 (j7 : Int × Unit × Unit × List Ty6 × List Ty4 × List Ty2 × List Ty4 × List Ty2 × Unit → Option ((Ty7 × Int × Int × Unit) × Unit)) (rc8 : Int × Int × Unit × Unit × List Ty6 × List Ty4 × List Ty2 × List Ty4 × List Ty2 × Unit → Option ((Ty7 × Int × Int × Unit) × Unit)) (z8 : Int × Int × Unit × Unit × List Ty6 × List Ty4 × List Ty2 × List Ty4 × List Ty2 × Unit) : Option ((Ty7 × Int × Int × Unit) × Unit) :=
 if inR z8.1 z8.2.2.2.2.1.length = true then
 if decide (z8.1.toNat + 1 ≤ z8.2.2.2.2.1.length) = true then
 if decide (z8.2.1 < (↑(List.length (z8.2.2.2.2.1.getD z8.1.toNat ([], 0, 0, 0, [], 0, 0, 0, [], ())).2.2.2.2.2.2.2.2.1) : Int)) = true then
 joinK (sh22_K9 rc8) fun j10 =>
 if inR z8.1 z8.2.2.2.2.1.length = true then
 if decide (z8.1.toNat + 1 ≤ z8.2.2.2.2.1.length) = true then
 if inR z8.2.1 (List.length (z8.2.2.2.2.1.getD z8.1.toNat ([], 0, 0, 0, [], 0, 0, 0, [], ())).2.2.2.2.2.2.2.2.1) = true then
 (sp47 (z8.2.2.2.2.2.2.2, lAt ([], ()) (z8.2.2.2.2.1.getD z8.1.toNat ([], 0, 0, 0, [], 0, 0, 0, [], ())).2.2.2.2.2.2.2.2.1 z8.2.1)).bind
 fun r11 =>
 if decide (r11.1 < 0) = true then some ((([], [], ()), IntKind.i64.wrap (z8.1 + 1), 6, ()), ())
 else
 if decide (z8.1 < (↑z8.2.2.2.2.2.2.2.1.length : Int)) = true then
 if inR z8.1 z8.2.2.2.2.2.2.2.1.length = true then
 if decide (z8.1.toNat + 1 ≤ z8.2.2.2.2.2.2.2.1.length) = true then
 if decide (List.length (z8.2.2.2.2.2.2.2.1.getD z8.1.toNat ([], 0, 0, 0, [], ())).2.2.2.2.1 ≤ Abs.lim) = true then
 if decide (List.length (z8.2.2.2.2.2.2.2.1.getD z8.1.toNat ([], 0, 0, 0, [], ())).2.2.2.2.1 * 8 ≤ Abs.lim) = true then
 if
 decide (List.length (z8.2.2.2.2.2.2.2.1.getD z8.1.toNat ([], 0, 0, 0, [], ())).2.2.2.2.1 + 1 ≤ Abs.lim) =
 true then
 if
 decide
 ((List.length (z8.2.2.2.2.2.2.2.1.getD z8.1.toNat ([], 0, 0, 0, [], ())).2.2.2.2.1 + 1) * 8 ≤
 Abs.lim) =
 true then
 if inR z8.1 z8.2.2.2.2.2.2.2.1.length = true then
 if decide (z8.1.toNat + 1 ≤ z8.2.2.2.2.2.2.2.1.length) = true then
 j10
 (z8.1, z8.2.1, (), (), z8.2.2.2.2.1, z8.2.2.2.2.2.1, z8.2.2.2.2.2.2.1,
 z8.2.2.2.2.2.2.2.1.set z8.1.toNat
 ((z8.2.2.2.2.2.2.2.1.getD z8.1.toNat ([], 0, 0, 0, [], ())).1,
 (z8.2.2.2.2.2.2.2.1.getD z8.1.toNat ([], 0, 0, 0, [], ())).2.1,
 (z8.2.2.2.2.2.2.2.1.getD z8.1.toNat ([], 0, 0, 0, [], ())).2.2.1,
 (z8.2.2.2.2.2.2.2.1.getD z8.1.toNat ([], 0, 0, 0, [], ())).2.2.2.1,
 (z8.2.2.2.2.2.2.2.1.getD z8.1.toNat ([], 0, 0, 0, [], ())).2.2.2.2.1 ++ [r11], ()),
 z8.2.2.2.2.2.2.2.2)
 else none
 else none
 else none
 else none
 else none
 else none
 else none
 else none
 else
 if inR (IntKind.i64.wrap (z8.1 - (↑z8.2.2.2.2.2.2.2.1.length : Int))) z8.2.2.2.2.2.2.2.2.1.length = true then
 if decide ((IntKind.i64.wrap (z8.1 - (↑z8.2.2.2.2.2.2.2.1.length : Int))).toNat + 1 ≤ z8.2.2.2.2.2.2.2.2.1.length) = true then
 j10
 (z8.1, z8.2.1, (), (), z8.2.2.2.2.1, z8.2.2.2.2.2.1, z8.2.2.2.2.2.2.1, z8.2.2.2.2.2.2.2.1,
 z8.2.2.2.2.2.2.2.2.1.set (IntKind.i64.wrap (z8.1 - (↑z8.2.2.2.2.2.2.2.1.length : Int))).toNat
 ((z8.2.2.2.2.2.2.2.2.1.getD (IntKind.i64.wrap (z8.1 - (↑z8.2.2.2.2.2.2.2.1.length : Int))).toNat (0, 0, 0, ())).1,
 r11.1,
 (z8.2.2.2.2.2.2.2.2.1.getD (IntKind.i64.wrap (z8.1 - (↑z8.2.2.2.2.2.2.2.1.length : Int))).toNat (0, 0, 0, ())).2.2),
 ())
 else none
 else none
 else none
 else none
 else none
 else j7 (z8.1, (), (), z8.2.2.2.2)
 else none
 else none
noncomputable def sh22_L5 (fuel : Nat) (j4 : Unit × Unit × List Ty4 × List Ty2 × List Ty4 × List Ty2 × Unit → Option ((Ty7 × Int × Int × Unit) × Unit)) (rc5 : Int × Unit × Unit × List Ty6 × List Ty4 × List Ty2 × List Ty4 × List Ty2 × Unit → Option ((Ty7 × Int × Int × Unit) × Unit)) (z5 : Int × Unit × Unit × List Ty6 × List Ty4 × List Ty2 × List Ty4 × List Ty2 × Unit) : Option ((Ty7 × Int × Int × Unit) × Unit) :=
 if decide (z5.1 < (↑z5.2.2.2.1.length : Int)) = true then joinK (sh22_K6 rc5) fun j7 => iter fuel (sh22_L8 j7) (z5.1, 0, (), (), z5.2.2.2)
 else j4 ((), (), z5.2.2.2.2)
noncomputable def sh22_K1 (fuel : Nat) (z1 : List Tz1 × List UInt8 × Unit × Unit × List Ty6 × List Ty4 × List Ty2 × List Ty4 × List Ty2 × Unit) : Option ((Ty7 × Int × Int × Unit) × Unit) :=
 if (!z1.2.1 == []) = true then some ((([], [], ()), IntKind.i64.wrap ((↑z1.1.length : Int) + 1), 3, ()), ())
 else joinK sh22_K2 fun j4 => iter fuel (sh22_L5 fuel j4) (0, (), (), z1.2.2.2.2)
noncomputable def sh22_K14 (rc13 : List Tz1 × List UInt8 × Int × Unit × Unit × List Ty6 × List Ty4 × List Ty2 × List Ty4 × List Ty2 × Unit → Option ((Ty7 × Int × Int × Unit) × Unit)) (z14 : List Tz1 × List UInt8 × Int × Unit × Unit × List Ty6 × List Ty4 × List Ty2 × List Ty4 × List Ty2 × Unit) : Option ((Ty7 × Int × Int × Unit) × Unit) :=
 rc13 (z14.1, z14.2.1, IntKind.i64.wrap (z14.2.2.1 + 1), (), (), z14.2.2.2.2.2)
noncomputable def sh22_K17 (j15 : List Tz1 × List UInt8 × Int × Unit × Unit × List Ty6 × List Ty4 × List Ty2 × List Ty4 × List Ty2 × Unit → Option ((Ty7 × Int × Int × Unit) × Unit)) (z17 : List Tz1 × List UInt8 × Int × Bool × Unit × Unit × Ty6 × List Ty6 × List Ty4 × List Ty2 × List Ty4 × List Ty2 × Unit) : Option ((Ty7 × Int × Int × Unit) × Unit) :=
 if z17.2.2.2.1 = true then some ((([], [], ()), IntKind.i64.wrap (z17.2.2.1 + 1), 3, ()), ())
 else
 if decide (z17.2.2.2.2.2.2.2.1.length + 1 ≤ Abs.lim) = true then
 if decide ((z17.2.2.2.2.2.2.2.1.length + 1) * 112 ≤ Abs.lim) = true then
 if (z17.2.2.2.2.2.2.1.2.1 != 0) = true then
 if
 decide
 (z17.2.2.2.2.2.2.2.2.2.2.1.length +
 [(z17.2.2.2.2.2.2.1.1, z17.2.2.2.2.2.2.1.2.1, z17.2.2.2.2.2.2.1.2.2.1, z17.2.2.2.2.2.2.1.2.2.2.1, z17.2.2.2.2.2.2.1.2.2.2.2.1,
 ())].length ≤
 Abs.lim) =
 true then
 if
 decide
 ((z17.2.2.2.2.2.2.2.2.2.2.1.length +
 [(z17.2.2.2.2.2.2.1.1, z17.2.2.2.2.2.2.1.2.1, z17.2.2.2.2.2.2.1.2.2.1, z17.2.2.2.2.2.2.1.2.2.2.1, z17.2.2.2.2.2.2.1.2.2.2.2.1,
 ())].length) *
 64 ≤
 Abs.lim) =
 true then
 j15
 (z17.1, z17.2.1, z17.2.2.1, (), (), z17.2.2.2.2.2.2.2.1 ++ [z17.2.2.2.2.2.2.1], z17.2.2.2.2.2.2.2.2.1, z17.2.2.2.2.2.2.2.2.2.1,
 z17.2.2.2.2.2.2.2.2.2.2.1 ++
 [(z17.2.2.2.2.2.2.1.1, z17.2.2.2.2.2.2.1.2.1, z17.2.2.2.2.2.2.1.2.2.1, z17.2.2.2.2.2.2.1.2.2.2.1, z17.2.2.2.2.2.2.1.2.2.2.2.1, ())],
 z17.2.2.2.2.2.2.2.2.2.2.2)
 else none
 else none
 else
 if
 decide
 (z17.2.2.2.2.2.2.2.2.2.2.2.1.length +
 [(z17.2.2.2.2.2.2.1.2.2.2.2.2.1, z17.2.2.2.2.2.2.1.2.2.2.2.2.2.1, z17.2.2.2.2.2.2.1.2.2.2.2.2.2.2.1, ())].length ≤
 Abs.lim) =
 true then
 if
 decide
 ((z17.2.2.2.2.2.2.2.2.2.2.2.1.length +
 [(z17.2.2.2.2.2.2.1.2.2.2.2.2.1, z17.2.2.2.2.2.2.1.2.2.2.2.2.2.1, z17.2.2.2.2.2.2.1.2.2.2.2.2.2.2.1, ())].length) *
 24 ≤
 Abs.lim) =
 true then
 j15
 (z17.1, z17.2.1, z17.2.2.1, (), (), z17.2.2.2.2.2.2.2.1 ++ [z17.2.2.2.2.2.2.1], z17.2.2.2.2.2.2.2.2.1, z17.2.2.2.2.2.2.2.2.2.1,
 z17.2.2.2.2.2.2.2.2.2.2.1,
 z17.2.2.2.2.2.2.2.2.2.2.2.1 ++
 [(z17.2.2.2.2.2.2.1.2.2.2.2.2.1, z17.2.2.2.2.2.2.1.2.2.2.2.2.2.1, z17.2.2.2.2.2.2.1.2.2.2.2.2.2.2.1, ())],
 ())
 else none
 else none
 else none
 else none
noncomputable def sh22_L13 (j12 : List Tz1 × List UInt8 × Unit × Unit × List Ty6 × List Ty4 × List Ty2 × List Ty4 × List Ty2 × Unit → Option ((Ty7 × Int × Int × Unit) × Unit)) (rc13 : List Tz1 × List UInt8 × Int × Unit × Unit × List Ty6 × List Ty4 × List Ty2 × List Ty4 × List Ty2 × Unit → Option ((Ty7 × Int × Int × Unit) × Unit)) (z13 : List Tz1 × List UInt8 × Int × Unit × Unit × List Ty6 × List Ty4 × List Ty2 × List Ty4 × List Ty2 × Unit) : Option ((Ty7 × Int × Int × Unit) × Unit) :=
 if decide (z13.2.2.1 < (↑z13.1.length : Int)) = true then
 joinK (sh22_K14 rc13) fun j15 =>
 if inR z13.2.2.1 z13.1.length = true then
 (sp46 (lAt ([], ()) z13.1 z13.2.2.1)).bind fun r16 =>
 joinK (sh22_K17 j15) fun j18 =>
 if (!r16.1.2.1) = true then j18 (z13.1, z13.2.1, z13.2.2.1, true, (), (), r16.1.1, z13.2.2.2.2.2)
 else
 if (r16.1.1.2.1 != 0) = true then
 j18 (z13.1, z13.2.1, z13.2.2.1, decide (0 < (↑z13.2.2.2.2.2.2.2.2.2.1.length : Int)), (), (), r16.1.1, z13.2.2.2.2.2)
 else j18 (z13.1, z13.2.1, z13.2.2.1, false, (), (), r16.1.1, z13.2.2.2.2.2)
 else none
 else j12 (z13.1, z13.2.1, (), (), z13.2.2.2.2.2)
noncomputable def sh22 (fuel : Nat) (x0 : List UInt8) : Option ((Ty7 × Int × Int × Unit) × Unit) :=
 if decide (4096 < (↑x0.length : Int)) = true then some ((([], [], ()), 0, 2, ()), ())
 else
 (sp45 (x0, 10, ())).bind fun r0 =>
 if inR (IntKind.i64.wrap ((↑r0.1.length : Int) - 1)) r0.1.length = true then
 if inCut 0 (IntKind.i64.wrap ((↑r0.1.length : Int) - 1)) r0.1.length = true then
 joinK (sh22_K1 fuel) fun j12 =>
 iter fuel (sh22_L13 j12)
 (cutL r0.1 0 (IntKind.i64.wrap ((↑r0.1.length : Int) - 1)), (lAt ([], ()) r0.1 (IntKind.i64.wrap ((↑r0.1.length : Int) - 1))).1, 0, (),
 (), [], [], [], [], [], ())
 else none
 else none
noncomputable def sp22 (x : (List UInt8) × Unit) : Option ((Ty7 × Int × Int × Unit) × Unit) := sh22 100000 x.1
/-! 86 baggage/fields.Letter -/
def g86 : Sig := ⟨[.v (.ty (.int .u8))], .v (.ty .bool)⟩
def h86 : HT := (nx (.j ⟨[(2, dB)], [], []⟩ (.r .x) .e))
noncomputable def sh86_K0 (z0 : Bool × Unit) : Option (Bool × Unit) :=
 some z0
noncomputable def sh86 (fuel : Nat) (x0 : Int) : Option (Bool × Unit) :=
 joinK sh86_K0 fun j1 => if decide (65 ≤ x0) = true then j1 (decide (x0 ≤ 90), ()) else j1 (false, ())
noncomputable def sp86 (x : (Int) × Unit) : Option (Bool × Unit) := sh86 0 x.1
noncomputable def c87 : Code := bd Tryd.f87
/-! 89 baggage/fields.Digit -/
def g89 : Sig := ⟨[.v (.ty (.int .u8))], .v (.ty .bool)⟩
def h89 : HT := (nx (.j ⟨[(2, dB)], [], []⟩ (.r .x) .e))
noncomputable def sh89_K0 (z0 : Bool × Unit) : Option (Bool × Unit) :=
 some z0
noncomputable def sh89 (fuel : Nat) (x0 : Int) : Option (Bool × Unit) :=
 joinK sh89_K0 fun j1 => if decide (48 ≤ x0) = true then j1 (decide (x0 ≤ 57), ()) else j1 (false, ())
noncomputable def sp89 (x : (Int) × Unit) : Option (Bool × Unit) := sh89 0 x.1
noncomputable def c88 : Code := bd Tryd.f88
/-! 80 baggage/fields.Name -/
noncomputable def c80 : Code := bd Tryd.f80
def g80 : Sig := ⟨[.v (.ty .str), .v (.ty (.int .i64))], .v (.ty .bool)⟩
def h80 : HT := (nx (.j ⟨[(4, dB)], [], []⟩ (.ri .x [(20, 0, (nx (.j ⟨[(18, dB)], [], []⟩ (nx (.u (.l ⟨[(18, dB), (22, dS), (23, .cst (.fn 88)), (29, dI), (30, dI)], [], []⟩ (nx (.n (.n .e .e) (.n (.u (nx (.n (.ri .x [(37, 0, (nx (.j ⟨[(18, dB), (22, dS), (23, .cst (.fn 88)), (29, dI), (30, dI), (42, dB)], [], []⟩ (.r .x) .e)))]) (.n (nx .e) .e)))) (.r .x))))))) (nx .e))))]) .e))
noncomputable def FT80 : List (Nat × Entry) := [(86, ⟨g86, sp86⟩), (89, ⟨g89, sp89⟩)]
noncomputable def IT80 : List (Nat × Inl) := [(87, ⟨18, [.tmp 4], c87⟩), (88, ⟨9, [.tmp 2], c88⟩)]
def MT80 : MTab := []
noncomputable def sh80_K0 (z0 : Bool × Unit) : Option (Bool × Unit) :=
 some z0
noncomputable def sh80_K3 (j1 : Bool × Unit → Option (Bool × Unit)) (z3 : Bool × Unit) : Option (Bool × Unit) :=
 if z3.1 = true then j1 (true, ()) else j1 (false, ())
noncomputable def sh80_K6 (j1 : Bool × Unit → Option (Bool × Unit)) (rc5 : Bool × List UInt8 × Int × Int × Unit → Option (Bool × Unit)) (z6 : Bool × List UInt8 × Int × Int × Bool × Unit) : Option (Bool × Unit) :=
 if (!z6.2.2.2.2.1) = true then if z6.1 = true then j1 (false, ()) else j1 (false, ())
 else rc5 (z6.1, z6.2.1, z6.2.2.1, IntKind.i64.wrap (z6.2.2.2.1 + 1), ())
noncomputable def sh80_L5 (j1 : Bool × Unit → Option (Bool × Unit)) (j4 : Bool × Unit → Option (Bool × Unit)) (rc5 : Bool × List UInt8 × Int × Int × Unit → Option (Bool × Unit)) (z5 : Bool × List UInt8 × Int × Int × Unit) : Option (Bool × Unit) :=
 if decide (z5.2.2.2.1 < z5.2.2.1) = true then
 if inR z5.2.2.2.1 z5.2.1.length = true then
 joinK (sh80_K6 j1 rc5) fun j7 =>
 (sp86 (sAt z5.2.1 z5.2.2.2.1, ())).bind fun r8 =>
 if r8.1 = true then j7 (z5.1, z5.2.1, z5.2.2.1, z5.2.2.2.1, true, ())
 else (sp89 (sAt z5.2.1 z5.2.2.2.1, ())).bind fun r9 => j7 (z5.1, z5.2.1, z5.2.2.1, z5.2.2.2.1, r9)
 else none
 else j4 (z5.1, ())
noncomputable def sh80 (fuel : Nat) (x0 : List UInt8) (x1 : Int) : Option (Bool × Unit) :=
 joinK sh80_K0 fun j1 =>
 if (!x0 == []) = true then
 if decide ((↑x0.length : Int) ≤ x1) = true then
 if inR 0 x0.length = true then
 (sp86 (sAt x0 0, ())).bind fun r2 =>
 if r2.1 = true then joinK (sh80_K3 j1) fun j4 => iter fuel (sh80_L5 j1 j4) (true, x0, (↑x0.length : Int), 0, ()) else j1 (false, ())
 else none
 else j1 (false, ())
 else j1 (false, ())
noncomputable def sp80 (x : (List UInt8) × (Int) × Unit) : Option (Bool × Unit) := sh80 100000 x.1 x.2.1
/-! 90 baggage/fields.Strip -/
def g90 : Sig := ⟨[.v (.ty (.int .i64))], .v (.ty .bool)⟩
def h90 : HT := (nx (.j ⟨[(2, dB)], [], []⟩ (.r .x) .e))
noncomputable def sh90_K0 (z0 : Bool × Unit) : Option (Bool × Unit) :=
 some z0
noncomputable def sh90 (fuel : Nat) (x0 : Int) : Option (Bool × Unit) :=
 joinK sh90_K0 fun j1 => if decide (1 ≤ x0) = true then j1 (decide (x0 ≤ 6), ()) else j1 (false, ())
noncomputable def sp90 (x : (Int) × Unit) : Option (Bool × Unit) := sh90 0 x.1
/-! 81 baggage/layout.length -/
def g81 : Sig := ⟨[.v (.ag ty4)], .v (.ty .bool)⟩
def h81 : HT := (nx (.n (.u (nx (.n (nx .e) (nx (.n (.j ⟨[(2, dB)], [], []⟩ (.r .x) .e) .e))))) (.j ⟨[(2, dB)], [], []⟩ (.r .x) .e)))
noncomputable def sh81_K1 (z1 : Bool × Unit) : Option (Bool × Unit) :=
 some z1
noncomputable def sh81_K3 (z3 : Bool × Unit) : Option (Bool × Unit) :=
 some z3
noncomputable def sh81 (fuel : Nat) (x0 : Ty4) : Option (Bool × Unit) :=
 (sp90 (x0.2.1, ())).bind fun r0 =>
 if (!r0.1) = true then some (x0.2.2.1 == 0, ())
 else
 if (x0.2.1 == 5) = true then joinK sh81_K1 fun j2 => if decide (2 ≤ x0.2.2.1) = true then j2 (decide (x0.2.2.1 ≤ 8), ()) else j2 (false, ())
 else joinK sh81_K3 fun j4 => if decide (1 ≤ x0.2.2.1) = true then j4 (decide (x0.2.2.1 ≤ 8), ()) else j4 (false, ())
noncomputable def sp81 (x : Ty4 × Unit) : Option (Bool × Unit) := sh81 0 x.1
/-! 91 baggage/layout.exits -/
def g91 : Sig := ⟨[.v (.ty (.int .i64))], .v (.ty (.int .i64))⟩
def h91 : HT := (nx (.n (nx (.u (.j ⟨[(3, dI), (4, dB)], [], []⟩ (nx (.n .e (.r .x))) (.n (nx .e) (.j ⟨[(7, dB)], [], []⟩ (nx (.n .e (nx (.n .e (.r .x))))) (.n (nx .e) .e)))))) (nx .e)))
noncomputable def sh91_K1 (z1 : Bool × Unit) : Option (Int × Unit) :=
 if z1.1 = true then some (2, ()) else some (1, ())
noncomputable def sh91_K0 (z0 : Int × Bool × Unit) : Option (Int × Unit) :=
 if z0.2.1 = true then some (0, ())
 else joinK sh91_K1 fun j2 => if (z0.1 == 4) = true then j2 (z0.1 == 4, ()) else if (z0.1 == 5) = true then j2 (z0.1 == 5, ()) else j2 (z0.1 == 6, ())
noncomputable def sh91 (fuel : Nat) (x0 : Int) : Option (Int × Unit) :=
 joinK sh91_K0 fun j3 => if (x0 == 8) = true then j3 (x0, x0 == 8, ()) else j3 (x0, x0 == 9, ())
noncomputable def sp91 (x : (Int) × Unit) : Option (Int × Unit) := sh91 0 x.1
/-! 95 slices.Index[[]int,int] -/
def g95 : Sig := ⟨[.v (.ty (.sl (.cons (.int .i64) .nil))), .v (.ty (.int .i64))], .v (.ty (.int .i64))⟩
def h95 : HT := (nx (.j ⟨[], [], []⟩ (nx (.u (.l ⟨[(0, dL), (1, dI), (7, dI), (8, dI)], [], []⟩ (nx (.n (.n .e .e) (.n (.u (nx (nx (.n (nx .e) .e)))) (.r .x))))))) (nx .e)))
noncomputable def sh95_K0 (z0 : Unit) : Option (Int × Unit) :=
 some (-1, ())
noncomputable def sh95_L2 (j1 : Unit → Option (Int × Unit)) (rc2 : List (Int × Unit) × Int × Int × Int × Unit → Option (Int × Unit)) (z2 : List (Int × Unit) × Int × Int × Int × Unit) : Option (Int × Unit) :=
 if decide (z2.2.2.2.1 < z2.2.2.1) = true then
 if inR z2.2.2.2.1 z2.1.length = true then
 if (z2.2.1 == (lAt (0, ()) z2.1 z2.2.2.2.1).1) = true then some z2.2.2.2 else rc2 (z2.1, z2.2.1, z2.2.2.1, IntKind.i64.wrap (z2.2.2.2.1 + 1), ())
 else none
 else j1 ()
noncomputable def sh95 (fuel : Nat) (x0 : List (Int × Unit)) (x1 : Int) : Option (Int × Unit) :=
 joinK sh95_K0 fun j1 => iter fuel (sh95_L2 j1) (x0, x1, (↑x0.length : Int), 0, ())
noncomputable def sp95 (x : (List (Int × Unit)) × (Int) × Unit) : Option (Int × Unit) := sh95 100000 x.1 x.2.1
/-! 92 slices.Contains[[]int,int] -/
def g92 : Sig := ⟨[.v (.ty (.sl (.cons (.int .i64) .nil))), .v (.ty (.int .i64))], .v (.ty .bool)⟩
def h92 : HT := (nx (nx .e))
noncomputable def sh92 (fuel : Nat) (x0 : List (Int × Unit)) (x1 : Int) : Option (Bool × Unit) :=
 (sp95 (x0, x1, ())).bind fun r0 => some (decide (0 ≤ r0.1), ())
noncomputable def sp92 (x : (List (Int × Unit)) × (Int) × Unit) : Option (Bool × Unit) := sh92 0 x.1 x.2.1
/-! 82 baggage/layout.leads -/
def g82 : Sig := ⟨[.v (.ag ty7), .v (.ty (.int .i64))], .v (.ty .bool)⟩
def h82 : HT := (nx (nx (.n (.n (.r .q) (.n (nx .e) .e)) (.j ⟨[], [], []⟩ (nx (.u (.l ⟨[(1, dI), (2, .ref 1000 2), (5, .ref 1001 5), (22, dL), (23, dI), (24, dI)], [(1000, .box b0), (1001, .box b3)], []⟩ (nx (.n (.n .e .e) (.n (.u (nx (.j ⟨[(1, dI), (2, .ref 1002 2), (5, .ref 1003 5), (6, dI), (7, dI), (8, dB), (22, dL), (23, dI), (24, dI)], [(1002, .box b0), (1003, .box b3)], []⟩ (.r .x) (.j ⟨[(1, dI), (2, .ref 1004 2), (5, .ref 1005 5), (22, dL), (23, dI), (24, dI), (59, dB)], [(1004, .box b0), (1005, .box b3)], []⟩ (.r .x) (.n (nx .e) .e))))) (.r .x))))))) (nx .e)))))
noncomputable def sh82_K1 (z1 : Unit) : Option (Bool × Unit) :=
 some (true, ())
noncomputable def sh82_K5 (rc3 : Int × List (Int × Unit) × Int × Int × Ty7 × Ty4 × Unit → Option (Bool × Unit)) (z5 : Int × List (Int × Unit) × Int × Int × Bool × Ty7 × Ty4 × Unit) : Option (Bool × Unit) :=
 if z5.2.2.2.2.1 = true then some (false, ()) else rc3 (z5.1, z5.2.1, z5.2.2.1, IntKind.i64.wrap (z5.2.2.2.1 + 1), z5.2.2.2.2.2)
noncomputable def sh82_K4 (rc3 : Int × List (Int × Unit) × Int × Int × Ty7 × Ty4 × Unit → Option (Bool × Unit)) (z4 : Int × Int × Int × Bool × List (Int × Unit) × Int × Int × Ty7 × Ty4 × Unit) : Option (Bool × Unit) :=
 joinK (sh82_K5 rc3) fun j6 =>
 if decide (z4.2.2.1 < 0) = true then j6 (z4.1, z4.2.2.2.2.1, z4.2.2.2.2.2.1, z4.2.2.2.2.2.2.1, true, z4.2.2.2.2.2.2.2)
 else
 if decide ((↑z4.2.2.2.2.2.2.2.1.1.length : Int) ≤ z4.2.2.1) = true then
 j6 (z4.1, z4.2.2.2.2.1, z4.2.2.2.2.2.1, z4.2.2.2.2.2.2.1, true, z4.2.2.2.2.2.2.2)
 else
 if (!(z4.2.2.1 == z4.1) == z4.2.2.2.1) = true then j6 (z4.1, z4.2.2.2.2.1, z4.2.2.2.2.2.1, z4.2.2.2.2.2.2.1, true, z4.2.2.2.2.2.2.2)
 else
 if inCut 0 z4.2.1 z4.2.2.2.2.2.2.2.2.1.2.2.2.2.1.length = true then
 (sp92 (cutL z4.2.2.2.2.2.2.2.2.1.2.2.2.2.1 0 z4.2.1, z4.2.2.1, ())).bind fun r7 =>
 j6 (z4.1, z4.2.2.2.2.1, z4.2.2.2.2.2.1, z4.2.2.2.2.2.2.1, r7.1, z4.2.2.2.2.2.2.2)
 else none
noncomputable def sh82_L3 (j2 : Unit → Option (Bool × Unit)) (rc3 : Int × List (Int × Unit) × Int × Int × Ty7 × Ty4 × Unit → Option (Bool × Unit)) (z3 : Int × List (Int × Unit) × Int × Int × Ty7 × Ty4 × Unit) : Option (Bool × Unit) :=
 if decide (z3.2.2.2.1 < z3.2.2.1) = true then
 if inR z3.2.2.2.1 z3.2.1.length = true then
 joinK (sh82_K4 rc3) fun j8 =>
 if (z3.2.2.2.2.2.1.2.1 == 5) = true then j8 (z3.1, z3.2.2.2.1, (lAt (0, ()) z3.2.1 z3.2.2.2.1).1, z3.2.2.2.1 == 0, z3.2)
 else j8 (z3.1, z3.2.2.2.1, (lAt (0, ()) z3.2.1 z3.2.2.2.1).1, false, z3.2)
 else none
 else j2 ()
noncomputable def sh82 (fuel : Nat) (x0 : Ty7) (x1 : Int) : Option (Bool × Unit) :=
 if inR x1 x0.1.length = true then
 (sp91 ((lAt ([], 0, 0, 0, [], ()) x0.1 x1).2.1, ())).bind fun r0 =>
 if ((↑(List.length (lAt ([], 0, 0, 0, [], ()) x0.1 x1).2.2.2.2.1) : Int) != r0.1) = true then some (false, ())
 else
 joinK sh82_K1 fun j2 =>
 iter fuel (sh82_L3 j2)
 (x1, (lAt ([], 0, 0, 0, [], ()) x0.1 x1).2.2.2.2.1, (↑(List.length (lAt ([], 0, 0, 0, [], ()) x0.1 x1).2.2.2.2.1) : Int), 0, x0,
 lAt ([], 0, 0, 0, [], ()) x0.1 x1, ())
 else none
noncomputable def sp82 (x : Ty7 × (Int) × Unit) : Option (Bool × Unit) := sh82 100000 x.1 x.2.1
/-! 65 baggage/layout.node -/
def g65 : Sig := ⟨[.v (.ag ty7), .v (.ty (.int .i64))], .v (.ty (.int .i64))⟩
def h65 : HT := (nx (nx (.n (.u (nx (.n (nx .e) (.j ⟨[(1, dI), (2, .ref 1000 2), (5, .ref 1001 5), (16, dB)], [(1000, .box b0), (1001, .box b3)], []⟩ (.r .x) (.n (nx .e) (.j ⟨[(25, dB)], [], []⟩ (.r .x) (.n (nx .e) .e))))))) (nx .e))))
noncomputable def sh65_K2 (z2 : Bool × Unit) : Option (Int × Unit) :=
 if z2.1 = true then some (1, ()) else some (0, ())
noncomputable def sh65_K1 (z1 : Int × Bool × Ty7 × Ty4 × Unit) : Option (Int × Unit) :=
 if z1.2.1 = true then some (4, ())
 else
 joinK sh65_K2 fun j3 =>
 (sp81 z1.2.2.2).bind fun r4 =>
 if (!r4.1) = true then j3 (true, ())
 else
 if (z1.2.2.2.1.2.2.2.1 != 0) = true then
 if (z1.2.2.2.1.2.2.2.1 != 1) = true then j3 (true, ()) else (sp82 (z1.2.2.1, z1.1, ())).bind fun r5 => j3 (!r5.1, ())
 else (sp82 (z1.2.2.1, z1.1, ())).bind fun r6 => j3 (!r6.1, ())
noncomputable def sh65 (fuel : Nat) (x0 : Ty7) (x1 : Int) : Option (Int × Unit) :=
 if inR x1 x0.1.length = true then
 (sp80 ((lAt ([], 0, 0, 0, [], ()) x0.1 x1).1, 12, ())).bind fun r0 =>
 if (!r0.1) = true then some (3, ())
 else
 joinK sh65_K1 fun j7 =>
 if decide ((lAt ([], 0, 0, 0, [], ()) x0.1 x1).2.1 < 1) = true then j7 (x1, true, x0, lAt ([], 0, 0, 0, [], ()) x0.1 x1, ())
 else j7 (x1, decide (9 < (lAt ([], 0, 0, 0, [], ()) x0.1 x1).2.1), x0, lAt ([], 0, 0, 0, [], ()) x0.1 x1, ())
 else none
noncomputable def sp65 (x : Ty7 × (Int) × Unit) : Option (Int × Unit) := sh65 0 x.1 x.2.1
/-! 66 baggage/layout.total -/
def g66 : Sig := ⟨[.v (.ag ty7)], .v (.ty (.int .i64))⟩
def h66 : HT := (nx (nx (.j ⟨[(3, dI)], [], []⟩ (nx (.u (.l ⟨[(3, dI), (7, .d (.ty (.sl ty4))), (8, dI), (9, dI)], [], []⟩ (nx (.n (.n .e .e) (.n (.u (nx (.r .x))) (.r .x))))))) (nx .e))))
noncomputable def sh66_K0 (z0 : Int × Unit) : Option (Int × Unit) :=
 some z0
noncomputable def sh66_L2 (j1 : Int × Unit → Option (Int × Unit)) (rc2 : Int × List Ty4 × Int × Int × Unit → Option (Int × Unit)) (z2 : Int × List Ty4 × Int × Int × Unit) : Option (Int × Unit) :=
 if decide (z2.2.2.2.1 < z2.2.2.1) = true then
 if inR z2.2.2.2.1 z2.2.1.length = true then
 rc2 (IntKind.i64.wrap (z2.1 + (lAt ([], 0, 0, 0, [], ()) z2.2.1 z2.2.2.2.1).2.2.1), z2.2.1, z2.2.2.1, IntKind.i64.wrap (z2.2.2.2.1 + 1), ())
 else none
 else j1 (z2.1, ())
noncomputable def sh66 (fuel : Nat) (x0 : Ty7) : Option (Int × Unit) :=
 joinK sh66_K0 fun j1 => iter fuel (sh66_L2 j1) (0, x0.1, (↑x0.1.length : Int), 0, ())
noncomputable def sp66 (x : Ty7 × Unit) : Option (Int × Unit) := sh66 100000 x.1
noncomputable def c93 : Code := bd Tryd.f93
noncomputable def c85 : Code := bd Tryd.f85
/-! 83 baggage/layout.Find -/
noncomputable def c83 : Code := bd Tryd.f83
def g83 : Sig := ⟨[.v (.ag ty7), .v (.ty .str)], .v (.ty (.int .i64))⟩
def h83 : HT := (nx (.j ⟨[(4, dI)], [], []⟩ (.ri .x [(8, 0, (nx (.j ⟨[], [], []⟩ (nx (.u (.l ⟨[(9, .d (.ty (.sl ty4))), (10, .wrp (some 93, 0) [(1000, 1)]), (16, dI), (17, dI)], [(1000, .box [.d .str])], []⟩ (nx (.n (.n .e .e) (.n (.u (nx (.n (.ri .x [(25, 0, (nx (nx .e)))]) (.n (nx .e) .e)))) (.r .x))))))) (nx .e))))]) .e))
noncomputable def FT83 : List (Nat × Entry) := []
noncomputable def IT83 : List (Nat × Inl) := [(85, ⟨19, [.tmp 4], c85⟩), (93, ⟨8, [.tmp 3], c93⟩)]
def MT83 : MTab := []
noncomputable def sh83_K0 (z0 : Int × Unit) : Option (Int × Unit) :=
 some z0
noncomputable def sh83_K2 (j1 : Int × Unit → Option (Int × Unit)) (z2 : Unit) : Option (Int × Unit) :=
 j1 (-1, ())
noncomputable def sh83_L4 (j1 : Int × Unit → Option (Int × Unit)) (j3 : Unit → Option (Int × Unit)) (rc4 : List Ty4 × Int × Int × Tz1 × Unit → Option (Int × Unit)) (z4 : List Ty4 × Int × Int × Tz1 × Unit) : Option (Int × Unit) :=
 if decide (z4.2.2.1 < z4.2.1) = true then
 if inR z4.2.2.1 z4.1.length = true then
 if ((lAt ([], 0, 0, 0, [], ()) z4.1 z4.2.2.1).1 == z4.2.2.2.1.1) = true then j1 (z4.2.2.1, ())
 else rc4 (z4.1, z4.2.1, IntKind.i64.wrap (z4.2.2.1 + 1), z4.2.2.2)
 else none
 else j3 ()
noncomputable def sh83 (fuel : Nat) (x0 : Ty7) (x1 : List UInt8) : Option (Int × Unit) :=
 joinK sh83_K0 fun j1 => joinK (sh83_K2 j1) fun j3 => iter fuel (sh83_L4 j1 j3) (x0.1, (↑x0.1.length : Int), 0, (x1, ()), ())
noncomputable def sp83 (x : Ty7 × (List UInt8) × Unit) : Option (Int × Unit) := sh83 100000 x.1 x.2.1
/-! 67 baggage/layout.named -/
def g67 : Sig := ⟨[.v (.ag ty7)], .v (.ty .bool)⟩
def h67 : HT := (nx (.j ⟨[], [], []⟩ (nx (.u (.l ⟨[(1, .ref 1000 2), (6, .d (.ty (.sl ty4))), (7, dI), (8, dI)], [(1000, .box b0)], []⟩ (nx (.n (.n .e .e) (.n (.u (nx (nx (.n (nx .e) .e)))) (.r .x))))))) (nx .e)))
noncomputable def sh67_K0 (z0 : Unit) : Option (Bool × Unit) :=
 some (true, ())
noncomputable def sh67_L2 (j1 : Unit → Option (Bool × Unit)) (rc2 : List Ty4 × Int × Int × Ty7 × Unit → Option (Bool × Unit)) (z2 : List Ty4 × Int × Int × Ty7 × Unit) : Option (Bool × Unit) :=
 if decide (z2.2.2.1 < z2.2.1) = true then
 if inR z2.2.2.1 z2.1.length = true then
 (sp83 (z2.2.2.2.1, (lAt ([], 0, 0, 0, [], ()) z2.1 z2.2.2.1).1, ())).bind fun r3 =>
 if (r3.1 != z2.2.2.1) = true then some (false, ()) else rc2 (z2.1, z2.2.1, IntKind.i64.wrap (z2.2.2.1 + 1), z2.2.2.2)
 else none
 else j1 ()
noncomputable def sh67 (fuel : Nat) (x0 : Ty7) : Option (Bool × Unit) :=
 joinK sh67_K0 fun j1 => iter fuel (sh67_L2 j1) (x0.1, (↑x0.1.length : Int), 0, x0, ())
noncomputable def sp67 (x : Ty7 × Unit) : Option (Bool × Unit) := sh67 100000 x.1
/-! 68 baggage/layout.zoned -/
def g68 : Sig := ⟨[.v (.ag ty7), .v (.ty (.int .i64))], .v (.ty .bool)⟩
def h68 : HT := (nx (nx (.j ⟨[(2, .ref 1004 2), (5, .ref 1005 5)], [(1004, .box b0), (1005, .box b3)], []⟩ (nx (.u (.j ⟨[(2, .ref 1000 2), (5, .ref 1001 5), (15, dI), (16, dB)], [(1000, .box b0), (1001, .box b3)], []⟩ (nx (.n .e (nx (.n .e (.r .x))))) (.n (nx (.n (nx .e) .e)) (.j ⟨[(2, .ref 1002 2), (5, .ref 1003 5), (23, dB)], [(1002, .box b0), (1003, .box b3)], []⟩ (nx (.n .e (.r .x))) (.n (nx (.n (nx .e) .e)) .e)))))) (.j ⟨[], [], []⟩ (nx (.u (.l ⟨[(2, .ref 1006 2), (5, .ref 1007 5), (30, dL), (31, dI), (32, dI)], [(1006, .box b0), (1007, .box b3)], []⟩ (nx (.n (.n .e .e) (.n (.u (nx (nx (.j ⟨[(2, .ref 1010 2), (5, .ref 1011 5), (7, dI), (8, dI), (30, dL), (31, dI), (32, dI)], [(1010, .box b0), (1011, .box b3)], []⟩ (.j ⟨[(2, .ref 1008 2), (5, .ref 1009 5), (7, dI), (8, dI), (30, dL), (31, dI), (32, dI), (45, dB)], [(1008, .box b0), (1009, .box b3)], []⟩ (.r .x) (nx .e)) (.j ⟨[(2, .ref 1012 2), (5, .ref 1013 5), (30, dL), (31, dI), (32, dI), (62, dB)], [(1012, .box b0), (1013, .box b3)], []⟩ (.r .x) (.n (nx .e) .e)))))) (.r .x))))))) (nx .e)))))
noncomputable def sh68_K1 (z1 : Unit) : Option (Bool × Unit) :=
 some (true, ())
noncomputable def sh68_K5 (rc3 : List (Int × Unit) × Int × Int × Ty7 × Ty4 × Unit → Option (Bool × Unit)) (z5 : List (Int × Unit) × Int × Int × Bool × Ty7 × Ty4 × Unit) : Option (Bool × Unit) :=
 if z5.2.2.2.1 = true then some (false, ()) else rc3 (z5.1, z5.2.1, IntKind.i64.wrap (z5.2.2.1 + 1), z5.2.2.2.2)
noncomputable def sh68_K4 (rc3 : List (Int × Unit) × Int × Int × Ty7 × Ty4 × Unit → Option (Bool × Unit)) (z4 : Int × Int × List (Int × Unit) × Int × Int × Ty7 × Ty4 × Unit) : Option (Bool × Unit) :=
 joinK (sh68_K5 rc3) fun j6 =>
 if inR z4.1 z4.2.2.2.2.2.1.1.length = true then
 if ((lAt ([], 0, 0, 0, [], ()) z4.2.2.2.2.2.1.1 z4.1).2.1 == 1) = true then j6 (z4.2.2.1, z4.2.2.2.1, z4.2.2.2.2.1, true, z4.2.2.2.2.2)
 else
 if inR z4.1 z4.2.2.2.2.2.1.1.length = true then
 j6 (z4.2.2.1, z4.2.2.2.1, z4.2.2.2.2.1, (lAt ([], 0, 0, 0, [], ()) z4.2.2.2.2.2.1.1 z4.1).2.2.2.1 != z4.2.1, z4.2.2.2.2.2)
 else none
 else none
noncomputable def sh68_K8 (j7 : Int × Int × List (Int × Unit) × Int × Int × Ty7 × Ty4 × Unit → Option (Bool × Unit)) (z8 : Int × Int × List (Int × Unit) × Int × Int × Bool × Ty7 × Ty4 × Unit) : Option (Bool × Unit) :=
 if z8.2.2.2.2.2.1 = true then j7 (z8.1, 1, z8.2.2.1, z8.2.2.2.1, z8.2.2.2.2.1, z8.2.2.2.2.2.2)
 else j7 (z8.1, z8.2.1, z8.2.2.1, z8.2.2.2.1, z8.2.2.2.2.1, z8.2.2.2.2.2.2)
noncomputable def sh68_L3 (j2 : Unit → Option (Bool × Unit)) (rc3 : List (Int × Unit) × Int × Int × Ty7 × Ty4 × Unit → Option (Bool × Unit)) (z3 : List (Int × Unit) × Int × Int × Ty7 × Ty4 × Unit) : Option (Bool × Unit) :=
 if decide (z3.2.2.1 < z3.2.1) = true then
 if inR z3.2.2.1 z3.1.length = true then
 joinK (sh68_K4 rc3) fun j7 =>
 joinK (sh68_K8 j7) fun j9 =>
 if (z3.2.2.2.2.1.2.1 == 6) = true then
 j9 ((lAt (0, ()) z3.1 z3.2.2.1).1, z3.2.2.2.2.1.2.2.2.1, z3.1, z3.2.1, z3.2.2.1, z3.2.2.1 == 1, z3.2.2.2)
 else j9 ((lAt (0, ()) z3.1 z3.2.2.1).1, z3.2.2.2.2.1.2.2.2.1, z3.1, z3.2.1, z3.2.2.1, false, z3.2.2.2)
 else none
 else j2 ()
noncomputable def sh68_K0 (fuel : Nat) (z0 : Ty7 × Ty4 × Unit) : Option (Bool × Unit) :=
 joinK sh68_K1 fun j2 => iter fuel (sh68_L3 j2) (z0.2.1.2.2.2.2.1, (↑z0.2.1.2.2.2.2.1.length : Int), 0, z0)
noncomputable def sh68_K12 (j10 : Ty7 × Ty4 × Unit → Option (Bool × Unit)) (z12 : Bool × Ty7 × Ty4 × Unit) : Option (Bool × Unit) :=
 if z12.1 = true then if (z12.2.2.1.2.2.2.1 != 1) = true then some (false, ()) else j10 z12.2 else j10 z12.2
noncomputable def sh68_K11 (j10 : Ty7 × Ty4 × Unit → Option (Bool × Unit)) (z11 : Int × Bool × Ty7 × Ty4 × Unit) : Option (Bool × Unit) :=
 if z11.2.1 = true then if (z11.2.2.2.1.2.2.2.1 != 0) = true then some (false, ()) else j10 z11.2.2
 else joinK (sh68_K12 j10) fun j13 => if (z11.1 == 7) = true then j13 (z11.1 == 7, z11.2.2) else j13 (z11.1 == 8, z11.2.2)
noncomputable def sh68 (fuel : Nat) (x0 : Ty7) (x1 : Int) : Option (Bool × Unit) :=
 if inR x1 x0.1.length = true then
 joinK (sh68_K0 fuel) fun j10 =>
 joinK (sh68_K11 j10) fun j14 =>
 if ((lAt ([], 0, 0, 0, [], ()) x0.1 x1).2.1 == 1) = true then
 j14 ((lAt ([], 0, 0, 0, [], ()) x0.1 x1).2.1, (lAt ([], 0, 0, 0, [], ()) x0.1 x1).2.1 == 1, x0, lAt ([], 0, 0, 0, [], ()) x0.1 x1, ())
 else
 if ((lAt ([], 0, 0, 0, [], ()) x0.1 x1).2.1 == 3) = true then
 j14 ((lAt ([], 0, 0, 0, [], ()) x0.1 x1).2.1, (lAt ([], 0, 0, 0, [], ()) x0.1 x1).2.1 == 3, x0, lAt ([], 0, 0, 0, [], ()) x0.1 x1, ())
 else j14 ((lAt ([], 0, 0, 0, [], ()) x0.1 x1).2.1, (lAt ([], 0, 0, 0, [], ()) x0.1 x1).2.1 == 6, x0, lAt ([], 0, 0, 0, [], ()) x0.1 x1, ())
 else none
noncomputable def sp68 (x : Ty7 × (Int) × Unit) : Option (Bool × Unit) := sh68 100000 x.1 x.2.1
/-! 69 baggage/layout.sorted -/
def g69 : Sig := ⟨[.v (.ag ty7)], .own (.cons (.int .i64) .nil)⟩
def h69 : HT := (nx (nx (.j ⟨[(1, .ref 1012 2), (3, .wrp (some 0, 1) [(1013, 0)])], [(1012, .box b0), (1013, .mp .i64 .i64)], []⟩ (nx (.u (.l ⟨[(1, .ref 1000 2), (3, .wrp (some 0, 1) [(1001, 0)]), (16, .d (.ty (.sl ty4))), (17, dI), (18, dI)], [(1000, .box b0), (1001, .mp .i64 .i64)], []⟩ (nx (.n (.n .e .e) (.j ⟨[(1, .ref 1008 2), (3, .wrp (some 0, 1) [(1009, 0)]), (16, .d (.ty (.sl ty4))), (17, dI), (18, dI)], [(1008, .box b0), (1009, .mp .i64 .i64)], []⟩ (.u (nx (nx (.u (.l ⟨[(1, .ref 1002 2), (3, .wrp (some 0, 1) [(1003, 0)]), (4, dI), (16, .d (.ty (.sl ty4))), (17, dI), (18, dI), (24, dL), (25, dI), (26, dI)], [(1002, .box b0), (1003, .mp .i64 .i64)], []⟩ (nx (.n (.n .e .e) (.j ⟨[(1, .ref 1004 2), (3, .wrp (some 0, 1) [(1005, 0)]), (4, dI), (16, .d (.ty (.sl ty4))), (17, dI), (18, dI), (24, dL), (25, dI), (26, dI)], [(1004, .box b0), (1005, .mp .i64 .i64)], []⟩ (.u (nx (nx (nx .e)))) (.r .x))))))))) (.r .x))))))) (nx (nx (.j ⟨[(8, .own 1054)], [(1054, .arr (.cons (.int .i64) .nil))], []⟩ (nx (.u (.l ⟨[(1, .ref 1014 2), (3, .wrp (some 0, 1) [(1015, 0)]), (8, .own 1016), (9, .own 1017), (45, dI), (46, dI)], [(1014, .box b0), (1015, .mp .i64 .i64), (1016, .arr (.cons (.int .i64) .nil)), (1017, .arr (.cons .bool .nil))], []⟩ (nx (.n (.n .e .e) (.j ⟨[(1, .ref 1046 2), (3, .wrp (some 0, 1) [(1047, 0)]), (8, .own 1048), (9, .own 1049), (45, dI), (46, dI)], [(1046, .box b0), (1047, .mp .i64 .i64), (1048, .arr (.cons (.int .i64) .nil)), (1049, .arr (.cons .bool .nil))], []⟩ (.u (nx (.j ⟨[(1, .ref 1030 2), (3, .wrp (some 0, 1) [(1031, 0)]), (8, .own 1032), (9, .own 1033), (10, dI), (45, dI), (46, dI)], [(1030, .box b0), (1031, .mp .i64 .i64), (1032, .arr (.cons (.int .i64) .nil)), (1033, .arr (.cons .bool .nil))], []⟩ (nx (.u (.l ⟨[(1, .ref 1018 2), (3, .wrp (some 0, 1) [(1019, 0)]), (8, .own 1020), (9, .own 1021), (10, dI), (45, dI), (46, dI), (50, dI), (51, dI)], [(1018, .box b0), (1019, .mp .i64 .i64), (1020, .arr (.cons (.int .i64) .nil)), (1021, .arr (.cons .bool .nil))], []⟩ (nx (.n (.n .e .e) (.n (.u (nx (.j ⟨[(1, .ref 1022 2), (3, .wrp (some 0, 1) [(1023, 0)]), (8, .own 1024), (9, .own 1025), (10, dI), (11, dI), (45, dI), (46, dI), (50, dI), (51, dI), (64, dB)], [(1022, .box b0), (1023, .mp .i64 .i64), (1024, .arr (.cons (.int .i64) .nil)), (1025, .arr (.cons .bool .nil))], []⟩ (.r .x) (.n (nx .e) .e)))) (.r .x))))))) (.n (nx (.n .e .e)) (nx (nx (nx (.u (.l ⟨[(1, .ref 1034 2), (3, .wrp (some 0, 1) [(1035, 0)]), (8, .own 1036), (9, .own 1037), (10, dI), (45, dI), (46, dI), (81, dL), (82, dI), (83, dI)], [(1034, .box b0), (1035, .mp .i64 .i64), (1036, .arr (.cons (.int .i64) .nil)), (1037, .arr (.cons .bool .nil))], []⟩ (nx (.n (.n .e .e) (.j ⟨[(1, .ref 1038 2), (3, .wrp (some 0, 1) [(1039, 0)]), (8, .own 1040), (9, .own 1041), (10, dI), (45, dI), (46, dI), (81, dL), (82, dI), (83, dI)], [(1038, .box b0), (1039, .mp .i64 .i64), (1040, .arr (.cons (.int .i64) .nil)), (1041, .arr (.cons .bool .nil))], []⟩ (.u (nx (nx (nx .e)))) (.r .x))))))))))))) (.r .x))))))) (nx .e)))))))
noncomputable def sh69_K1 (z1 : List (Int × Unit) × Unit) : Option (List (Int × Unit) × Unit) :=
 some z1
noncomputable def sh69_K4 (rc3 : Int × Int × Ty7 × List (Int × Int) × List (Int × Unit) × List (Bool × Unit) × Unit → Option (List (Int × Unit) × Unit)) (z4 : Int × Int × Ty7 × List (Int × Int) × List (Int × Unit) × List (Bool × Unit) × Unit) : Option (List (Int × Unit) × Unit) :=
 rc3 (z4.1, IntKind.i64.wrap (z4.2.1 + 1), z4.2.2)
noncomputable def sh69_K8 (rc7 : Int × Int × Int × List (Int × Unit) × Int × Int × Ty7 × List (Int × Int) × List (Int × Unit) × List (Bool × Unit) × Unit → Option (List (Int × Unit) × Unit)) (z8 : Int × Int × Int × List (Int × Unit) × Int × Int × Ty7 × List (Int × Int) × List (Int × Unit) × List (Bool × Unit) × Unit) : Option (List (Int × Unit) × Unit) :=
 rc7 (z8.1, z8.2.1, z8.2.2.1, z8.2.2.2.1, z8.2.2.2.2.1, IntKind.i64.wrap (z8.2.2.2.2.2.1 + 1), z8.2.2.2.2.2.2)
noncomputable def sh69_L7 (j5 : Int × Int × Ty7 × List (Int × Int) × List (Int × Unit) × List (Bool × Unit) × Unit → Option (List (Int × Unit) × Unit)) (rc7 : Int × Int × Int × List (Int × Unit) × Int × Int × Ty7 × List (Int × Int) × List (Int × Unit) × List (Bool × Unit) × Unit → Option (List (Int × Unit) × Unit)) (z7 : Int × Int × Int × List (Int × Unit) × Int × Int × Ty7 × List (Int × Int) × List (Int × Unit) × List (Bool × Unit) × Unit) : Option (List (Int × Unit) × Unit) :=
 if decide (z7.2.2.2.2.2.1 < z7.2.2.2.2.1) = true then
 joinK (sh69_K8 rc7) fun j9 =>
 if inR z7.2.2.2.2.2.1 z7.2.2.2.1.length = true then
 if ((lAt (0, ()) z7.2.2.2.1 z7.2.2.2.2.2.1).1 != z7.1) = true then
 j9
 (z7.1, z7.2.1, z7.2.2.1, z7.2.2.2.1, z7.2.2.2.2.1, z7.2.2.2.2.2.1, z7.2.2.2.2.2.2.1,
 Abs.mSet z7.2.2.2.2.2.2.2.1 (lAt (0, ()) z7.2.2.2.1 z7.2.2.2.2.2.1).1
 (IntKind.i64.wrap (Abs.mGet z7.2.2.2.2.2.2.2.1 (lAt (0, ()) z7.2.2.2.1 z7.2.2.2.2.2.1).1 - 1)),
 z7.2.2.2.2.2.2.2.2)
 else j9 z7
 else none
 else j5 (z7.2.1, z7.2.2.1, z7.2.2.2.2.2.2)
noncomputable def sh69_K6 (fuel : Nat) (j2 : List (Int × Unit) × Unit → Option (List (Int × Unit) × Unit)) (j5 : Int × Int × Ty7 × List (Int × Int) × List (Int × Unit) × List (Bool × Unit) × Unit → Option (List (Int × Unit) × Unit)) (z6 : Int × Int × Int × Ty7 × List (Int × Int) × List (Int × Unit) × List (Bool × Unit) × Unit) : Option (List (Int × Unit) × Unit) :=
 if decide (z6.1 < 0) = true then j2 (z6.2.2.2.2.2.1, ())
 else
 if inR z6.1 z6.2.2.2.2.2.2.1.length = true then
 if decide (z6.1.toNat + 1 ≤ z6.2.2.2.2.2.2.1.length) = true then
 if decide (z6.2.2.2.2.2.1.length + 1 ≤ Abs.lim) = true then
 if decide ((z6.2.2.2.2.2.1.length + 1) * 8 ≤ Abs.lim) = true then
 if inR z6.1 z6.2.2.2.1.1.length = true then
 iter fuel (sh69_L7 j5)
 (z6.1, z6.2.1, z6.2.2.1, (lAt ([], 0, 0, 0, [], ()) z6.2.2.2.1.1 z6.1).2.2.2.2.1,
 (↑(List.length (lAt ([], 0, 0, 0, [], ()) z6.2.2.2.1.1 z6.1).2.2.2.2.1) : Int), 0, z6.2.2.2.1, z6.2.2.2.2.1,
 z6.2.2.2.2.2.1 ++ [(z6.1, ())], z6.2.2.2.2.2.2.1.set z6.1.toNat (true, ()), ())
 else none
 else none
 else none
 else none
 else none
noncomputable def sh69_K12 (j10 : Int × Int × Int × Ty7 × List (Int × Int) × List (Int × Unit) × List (Bool × Unit) × Unit → Option (List (Int × Unit) × Unit)) (rc11 : Int × Int × Int × Int × Int × Ty7 × List (Int × Int) × List (Int × Unit) × List (Bool × Unit) × Unit → Option (List (Int × Unit) × Unit)) (z12 : Int × Int × Int × Int × Int × Int × Bool × Ty7 × List (Int × Int) × List (Int × Unit) × List (Bool × Unit) × Unit) : Option (List (Int × Unit) × Unit) :=
 if z12.2.2.2.2.2.2.1 = true then j10 (z12.2.1, z12.2.2.1, z12.2.2.2.1, z12.2.2.2.2.2.2.2)
 else rc11 (z12.1, z12.2.2.1, z12.2.2.2.1, z12.2.2.2.2.1, IntKind.i64.wrap (z12.2.2.2.2.2.1 + 1), z12.2.2.2.2.2.2.2)
noncomputable def sh69_L11 (j10 : Int × Int × Int × Ty7 × List (Int × Int) × List (Int × Unit) × List (Bool × Unit) × Unit → Option (List (Int × Unit) × Unit)) (rc11 : Int × Int × Int × Int × Int × Ty7 × List (Int × Int) × List (Int × Unit) × List (Bool × Unit) × Unit → Option (List (Int × Unit) × Unit)) (z11 : Int × Int × Int × Int × Int × Ty7 × List (Int × Int) × List (Int × Unit) × List (Bool × Unit) × Unit) : Option (List (Int × Unit) × Unit) :=
 if decide (z11.2.2.2.2.1 < z11.2.2.2.1) = true then
 joinK (sh69_K12 j10 rc11) fun j13 =>
 if inR z11.2.2.2.2.1 z11.2.2.2.2.2.2.2.2.1.length = true then
 if decide (z11.2.2.2.2.1.toNat + 1 ≤ z11.2.2.2.2.2.2.2.2.1.length) = true then
 if (!(z11.2.2.2.2.2.2.2.2.1.getD z11.2.2.2.2.1.toNat (false, ())).1) = true then
 j13 (z11.1, z11.2.2.2.2.1, z11.2.1, z11.2.2.1, z11.2.2.2.1, z11.2.2.2.2.1, Abs.mGet z11.2.2.2.2.2.2.1 z11.2.2.2.2.1 == 0, z11.2.2.2.2.2)
 else j13 (z11.1, z11.2.2.2.2.1, z11.2.1, z11.2.2.1, z11.2.2.2.1, z11.2.2.2.2.1, false, z11.2.2.2.2.2)
 else none
 else none
 else j10 (z11.1, z11.2.1, z11.2.2.1, z11.2.2.2.2.2)
noncomputable def sh69_L3 (fuel : Nat) (j2 : List (Int × Unit) × Unit → Option (List (Int × Unit) × Unit)) (rc3 : Int × Int × Ty7 × List (Int × Int) × List (Int × Unit) × List (Bool × Unit) × Unit → Option (List (Int × Unit) × Unit)) (z3 : Int × Int × Ty7 × List (Int × Int) × List (Int × Unit) × List (Bool × Unit) × Unit) : Option (List (Int × Unit) × Unit) :=
 if decide (z3.2.1 < z3.1) = true then
 joinK (sh69_K4 rc3) fun j5 =>
 joinK (sh69_K6 fuel j2 j5) fun j10 => iter fuel (sh69_L11 j10) (-1, z3.1, z3.2.1, (↑z3.2.2.1.1.length : Int), 0, z3.2.2)
 else j2 (z3.2.2.2.2.1, ())
noncomputable def sh69_K0 (fuel : Nat) (z0 : Ty7 × List (Int × Int) × Unit) : Option (List (Int × Unit) × Unit) :=
 if decide (0 ≤ (↑z0.1.1.length : Int)) = true then
 if decide ((↑z0.1.1.length : Int) ≤ (↑z0.1.1.length : Int)) = true then
 if decide ((↑z0.1.1.length : Int) ≤ (↑Abs.lim : Int)) = true then
 if decide ((↑1 : Int) * (↑z0.1.1.length : Int) ≤ (↑Abs.lim : Int)) = true then
 joinK sh69_K1 fun j2 =>
 iter fuel (sh69_L3 fuel j2) ((↑z0.1.1.length : Int), 0, z0.1, z0.2.1, [], List.replicate (↑z0.1.1.length : Int).toNat (false, ()), ())
 else none
 else none
 else none
 else none
noncomputable def sh69_K16 (rc15 : List Ty4 × Int × Int × Ty7 × List (Int × Int) × Unit → Option (List (Int × Unit) × Unit)) (z16 : List Ty4 × Int × Int × Ty7 × List (Int × Int) × Unit) : Option (List (Int × Unit) × Unit) :=
 rc15 (z16.1, z16.2.1, IntKind.i64.wrap (z16.2.2.1 + 1), z16.2.2.2)
noncomputable def sh69_K19 (rc18 : Int × List Ty4 × Int × Int × List (Int × Unit) × Int × Int × Ty7 × List (Int × Int) × Unit → Option (List (Int × Unit) × Unit)) (z19 : Int × List Ty4 × Int × Int × List (Int × Unit) × Int × Int × Ty7 × List (Int × Int) × Unit) : Option (List (Int × Unit) × Unit) :=
 rc18 (z19.1, z19.2.1, z19.2.2.1, z19.2.2.2.1, z19.2.2.2.2.1, z19.2.2.2.2.2.1, IntKind.i64.wrap (z19.2.2.2.2.2.2.1 + 1), z19.2.2.2.2.2.2.2)
noncomputable def sh69_L18 (j17 : List Ty4 × Int × Int × Ty7 × List (Int × Int) × Unit → Option (List (Int × Unit) × Unit)) (rc18 : Int × List Ty4 × Int × Int × List (Int × Unit) × Int × Int × Ty7 × List (Int × Int) × Unit → Option (List (Int × Unit) × Unit)) (z18 : Int × List Ty4 × Int × Int × List (Int × Unit) × Int × Int × Ty7 × List (Int × Int) × Unit) : Option (List (Int × Unit) × Unit) :=
 if decide (z18.2.2.2.2.2.2.1 < z18.2.2.2.2.2.1) = true then
 joinK (sh69_K19 rc18) fun j20 =>
 if inR z18.2.2.2.2.2.2.1 z18.2.2.2.2.1.length = true then
 if ((lAt (0, ()) z18.2.2.2.2.1 z18.2.2.2.2.2.2.1).1 != z18.1) = true then
 j20
 (z18.1, z18.2.1, z18.2.2.1, z18.2.2.2.1, z18.2.2.2.2.1, z18.2.2.2.2.2.1, z18.2.2.2.2.2.2.1, z18.2.2.2.2.2.2.2.1,
 Abs.mSet z18.2.2.2.2.2.2.2.2.1 (lAt (0, ()) z18.2.2.2.2.1 z18.2.2.2.2.2.2.1).1
 (IntKind.i64.wrap (Abs.mGet z18.2.2.2.2.2.2.2.2.1 (lAt (0, ()) z18.2.2.2.2.1 z18.2.2.2.2.2.2.1).1 + 1)),
 ())
 else j20 z18
 else none
 else j17 (z18.2.1, z18.2.2.1, z18.2.2.2.1, z18.2.2.2.2.2.2.2)
noncomputable def sh69_L15 (fuel : Nat) (j14 : Ty7 × List (Int × Int) × Unit → Option (List (Int × Unit) × Unit)) (rc15 : List Ty4 × Int × Int × Ty7 × List (Int × Int) × Unit → Option (List (Int × Unit) × Unit)) (z15 : List Ty4 × Int × Int × Ty7 × List (Int × Int) × Unit) : Option (List (Int × Unit) × Unit) :=
 if decide (z15.2.2.1 < z15.2.1) = true then
 joinK (sh69_K16 rc15) fun j17 =>
 if inR z15.2.2.1 z15.1.length = true then
 iter fuel (sh69_L18 j17)
 (z15.2.2.1, z15.1, z15.2.1, z15.2.2.1, (lAt ([], 0, 0, 0, [], ()) z15.1 z15.2.2.1).2.2.2.2.1,
 (↑(List.length (lAt ([], 0, 0, 0, [], ()) z15.1 z15.2.2.1).2.2.2.2.1) : Int), 0, z15.2.2.2)
 else none
 else j14 z15.2.2.2
noncomputable def sh69 (fuel : Nat) (x0 : Ty7) : Option (List (Int × Unit) × Unit) :=
 joinK (sh69_K0 fuel) fun j14 => iter fuel (sh69_L15 fuel j14) (x0.1, (↑x0.1.length : Int), 0, x0, [], ())
noncomputable def sp69 (x : Ty7 × Unit) : Option (List (Int × Unit) × Unit) := sh69 100000 x.1
/-! 94 slices.Index[[]baggage/api.Device,baggage/api.Device] -/
def g94 : Sig := ⟨[.v (.ty (.sl ty2)), .v (.ag ty2)], .v (.ty (.int .i64))⟩
def h94 : HT := (nx (.j ⟨[], [], []⟩ (nx (.u (.l ⟨[(0, .d (.ty (.sl ty2))), (3, .ref 1000 3), (7, dI), (8, dI)], [(1000, .box b5)], []⟩ (nx (.n (.n .e .e) (.n (.u (nx (.n (.r .q) (.n (nx .e) .e)))) (.r .x))))))) (nx .e)))
noncomputable def sh94_K0 (z0 : Unit) : Option (Int × Unit) :=
 some (-1, ())
noncomputable def sh94_L2 (j1 : Unit → Option (Int × Unit)) (rc2 : List Ty2 × Int × Int × Ty2 × Unit → Option (Int × Unit)) (z2 : List Ty2 × Int × Int × Ty2 × Unit) : Option (Int × Unit) :=
 if decide (z2.2.2.1 < z2.2.1) = true then
 if inR z2.2.2.1 z2.1.length = true then
 if
 (z2.2.2.2.1.1 == (lAt (0, 0, 0, ()) z2.1 z2.2.2.1).1 &&
 (z2.2.2.2.1.2.1 == (lAt (0, 0, 0, ()) z2.1 z2.2.2.1).2.1 && (z2.2.2.2.1.2.2.1 == (lAt (0, 0, 0, ()) z2.1 z2.2.2.1).2.2.1 && true))) =
 true then
 some (z2.2.2.1, ())
 else rc2 (z2.1, z2.2.1, IntKind.i64.wrap (z2.2.2.1 + 1), z2.2.2.2)
 else none
 else j1 ()
noncomputable def sh94 (fuel : Nat) (x0 : List Ty2) (x1 : Ty2) : Option (Int × Unit) :=
 joinK sh94_K0 fun j1 => iter fuel (sh94_L2 j1) (x0, (↑x0.length : Int), 0, x1, ())
noncomputable def sp94 (x : (List Ty2) × Ty2 × Unit) : Option (Int × Unit) := sh94 100000 x.1 x.2.1
/-! 84 slices.Contains[[]baggage/api.Device,baggage/api.Device] -/
def g84 : Sig := ⟨[.v (.ty (.sl ty2)), .v (.ag ty2)], .v (.ty .bool)⟩
def h84 : HT := (nx (nx .e))
noncomputable def sh84 (fuel : Nat) (x0 : List Ty2) (x1 : Ty2) : Option (Bool × Unit) :=
 (sp94 (x0, x1, ())).bind fun r0 => some (decide (0 ≤ r0.1), ())
noncomputable def sp84 (x : (List Ty2) × Ty2 × Unit) : Option (Bool × Unit) := sh84 0 x.1 x.2.1
/-! 70 baggage/layout.devices -/
def g70 : Sig := ⟨[.v (.ag ty7)], .v (.ty (.int .i64))⟩
def h70 : HT := (nx (.j ⟨[(1, .ref 1005 2)], [(1005, .box b0)], []⟩ (nx (.u (.l ⟨[(1, .ref 1000 2), (8, .d (.ty (.sl ty2))), (9, dI), (10, dI)], [(1000, .box b0)], []⟩ (nx (.n (.n .e .e) (.n (.u (nx (.u (.j ⟨[(1, .ref 1001 2), (4, .ref 1002 3), (8, .d (.ty (.sl ty2))), (9, dI), (10, dI), (14, dB)], [(1001, .box b0), (1002, .box b5)], []⟩ (.r .x) (.n (nx .e) (.j ⟨[(1, .ref 1003 2), (8, .d (.ty (.sl ty2))), (9, dI), (10, dI), (23, dB)], [(1003, .box b0)], []⟩ (.r .q) (.n (nx .e) .e))))))) (.r .x))))))) (.j ⟨[], [], []⟩ (nx (.u (.l ⟨[(1, .ref 1006 2), (54, .d (.ty (.sl ty2))), (55, dI), (56, dI)], [(1006, .box b0)], []⟩ (nx (.n (.n .e .e) (.n (.u (nx (.n (.r .q) (.n (nx .e) .e)))) (.r .x))))))) (nx .e))))
noncomputable def sh70_K1 (z1 : Unit) : Option (Int × Unit) :=
 some (0, ())
noncomputable def sh70_L3 (j2 : Unit → Option (Int × Unit)) (rc3 : List Ty2 × Int × Int × Ty7 × Unit → Option (Int × Unit)) (z3 : List Ty2 × Int × Int × Ty7 × Unit) : Option (Int × Unit) :=
 if decide (z3.2.2.1 < z3.2.1) = true then
 if inR z3.2.2.1 z3.1.length = true then
 if inCut 0 z3.2.2.1 z3.2.2.2.1.2.1.length = true then
 (sp84 (cutL z3.2.2.2.1.2.1 0 z3.2.2.1, lAt (0, 0, 0, ()) z3.1 z3.2.2.1, ())).bind fun r4 =>
 if r4.1 = true then some (5, ()) else rc3 (z3.1, z3.2.1, IntKind.i64.wrap (z3.2.2.1 + 1), z3.2.2.2)
 else none
 else none
 else j2 ()
noncomputable def sh70_K0 (fuel : Nat) (z0 : Ty7 × Unit) : Option (Int × Unit) :=
 joinK sh70_K1 fun j2 => iter fuel (sh70_L3 j2) (z0.1.2.1, (↑z0.1.2.1.length : Int), 0, z0)
noncomputable def sh70_K8 (rc6 : List Ty2 × Int × Int × Ty7 × Unit → Option (Int × Unit)) (z8 : List Ty2 × Int × Int × Bool × Ty7 × Unit) : Option (Int × Unit) :=
 if z8.2.2.2.1 = true then some (1, ()) else rc6 (z8.1, z8.2.1, IntKind.i64.wrap (z8.2.2.1 + 1), z8.2.2.2.2)
noncomputable def sh70_K7 (rc6 : List Ty2 × Int × Int × Ty7 × Unit → Option (Int × Unit)) (z7 : List Ty2 × Int × Int × Bool × Ty7 × Ty2 × Unit) : Option (Int × Unit) :=
 if z7.2.2.2.1 = true then some (4, ())
 else
 joinK (sh70_K8 rc6) fun j9 =>
 if decide (z7.2.2.2.2.2.1.2.1 < 0) = true then j9 (z7.1, z7.2.1, z7.2.2.1, true, z7.2.2.2.2.1, ())
 else
 if decide ((↑z7.2.2.2.2.1.1.length : Int) ≤ z7.2.2.2.2.2.1.2.1) = true then j9 (z7.1, z7.2.1, z7.2.2.1, true, z7.2.2.2.2.1, ())
 else
 if decide (z7.2.2.2.2.2.1.2.2.1 < 0) = true then j9 (z7.1, z7.2.1, z7.2.2.1, true, z7.2.2.2.2.1, ())
 else
 if inR z7.2.2.2.2.2.1.2.1 z7.2.2.2.2.1.1.length = true then
 j9
 (z7.1, z7.2.1, z7.2.2.1, decide ((lAt ([], 0, 0, 0, [], ()) z7.2.2.2.2.1.1 z7.2.2.2.2.2.1.2.1).2.2.1 ≤ z7.2.2.2.2.2.1.2.2.1),
 z7.2.2.2.2.1, ())
 else none
noncomputable def sh70_L6 (j5 : Ty7 × Unit → Option (Int × Unit)) (rc6 : List Ty2 × Int × Int × Ty7 × Unit → Option (Int × Unit)) (z6 : List Ty2 × Int × Int × Ty7 × Unit) : Option (Int × Unit) :=
 if decide (z6.2.2.1 < z6.2.1) = true then
 if inR z6.2.2.1 z6.1.length = true then
 joinK (sh70_K7 rc6) fun j10 =>
 if ((lAt (0, 0, 0, ()) z6.1 z6.2.2.1).1 != 1) = true then
 j10 (z6.1, z6.2.1, z6.2.2.1, (lAt (0, 0, 0, ()) z6.1 z6.2.2.1).1 != 2, z6.2.2.2.1, lAt (0, 0, 0, ()) z6.1 z6.2.2.1, ())
 else j10 (z6.1, z6.2.1, z6.2.2.1, false, z6.2.2.2.1, lAt (0, 0, 0, ()) z6.1 z6.2.2.1, ())
 else none
 else j5 z6.2.2.2
noncomputable def sh70 (fuel : Nat) (x0 : Ty7) : Option (Int × Unit) :=
 joinK (sh70_K0 fuel) fun j5 => iter fuel (sh70_L6 j5) (x0.2.1, (↑x0.2.1.length : Int), 0, x0, ())
noncomputable def sp70 (x : Ty7 × Unit) : Option (Int × Unit) := sh70 100000 x.1
noncomputable def c71 : Code := bd Tryd.f71
noncomputable def c72 : Code := bd Tryd.f72
/-! 50 baggage/layout.Validate -/
noncomputable def c50 : Code := bd Tryd.f50
def g50 : Sig := ⟨[.v (.ag ty7)], .v (.ty (.int .i64))⟩
def h50 : HT := (nx (.n (.j ⟨[(1, .ref 1000 2), (16, dB)], [(1000, .box b0)], []⟩ (.r .x) (.n (nx .e) .e)) (.j ⟨[(1, .ref 1003 2)], [(1003, .box b0)], []⟩ (nx (.u (.l ⟨[(1, .ref 1001 2), (19, dI), (20, dI)], [(1001, .box b0)], []⟩ (nx (.n (.n .e .e) (.n (.u (nx (nx (nx (.n (nx .e) .e))))) (.r .x))))))) (.n (.u (nx (.n (nx .e) (nx (.n (nx .e) .e))))) (.j ⟨[(1, .ref 1006 2)], [(1006, .box b0)], []⟩ (nx (.u (.l ⟨[(1, .ref 1004 2), (40, dI), (41, dI)], [(1004, .box b0)], []⟩ (nx (.n (.n .e .e) (.n (.u (nx (nx (.n (nx .e) .e)))) (.r .x))))))) (.n (.n (.r (.w 6 [(0, 0), (0, 3), (0, 4), (0, 5), (2, 1), (0, 2)])) (.n (nx .e) .e)) (.n (nx (nx (.n (nx .e) .e))) (.n (.n (.ri .x [(63, 0, (nx (.j ⟨[(69, dB)], [], []⟩ (.ri .x [(72, 0, (nx (.j ⟨[], [], []⟩ (nx (.u (.l ⟨[(74, .d (.ty (.sl ty4))), (75, .cst (.fn 72)), (81, dI), (82, dI)], [], []⟩ (nx (.n (.n .e .e) (.n (.u (nx (.n (.ri .x [(90, 0, (nx (nx .e)))]) (.n (nx .e) .e)))) (.r .x))))))) (nx .e))))]) .e)))]) (.n (nx .e) .e)) (nx .e)))))))))
noncomputable def FT50 : List (Nat × Entry) := [(65, ⟨g65, sp65⟩), (66, ⟨g66, sp66⟩), (67, ⟨g67, sp67⟩), (68, ⟨g68, sp68⟩), (69, ⟨g69, sp69⟩), (70, ⟨g70, sp70⟩)]
noncomputable def IT50 : List (Nat × Inl) := [(71, ⟨9, [.tmp 4], c71⟩), (85, ⟨19, [.tmp 4], c85⟩), (72, ⟨6, [.tmp 2], c72⟩)]
def MT50 : MTab := []
noncomputable def sh50_K7 (z7 : Bool × Unit) : Option (Int × Unit) :=
 if (!z7.1) = true then some (6, ()) else some (0, ())
noncomputable def sh50_K9 (j8 : Bool × Unit → Option (Int × Unit)) (z9 : Unit) : Option (Int × Unit) :=
 j8 (decide (0 ≤ -1), ())
noncomputable def sh50_L11 (j8 : Bool × Unit → Option (Int × Unit)) (j10 : Unit → Option (Int × Unit)) (rc11 : List Ty4 × Int × Int × Unit → Option (Int × Unit)) (z11 : List Ty4 × Int × Int × Unit) : Option (Int × Unit) :=
 if decide (z11.2.2.1 < z11.2.1) = true then
 if inR z11.2.2.1 z11.1.length = true then
 if ((lAt ([], 0, 0, 0, [], ()) z11.1 z11.2.2.1).2.1 == 1) = true then j8 (decide (0 ≤ z11.2.2.1), ())
 else rc11 (z11.1, z11.2.1, IntKind.i64.wrap (z11.2.2.1 + 1), ())
 else none
 else j10 ()
noncomputable def sh50_K4 (fuel : Nat) (z4 : Ty7 × Unit) : Option (Int × Unit) :=
 (sp69 z4).bind fun r5 =>
 if decide ((↑r5.1.length : Int) < (↑z4.1.1.length : Int)) = true then some (9, ())
 else
 (sp70 z4).bind fun r6 =>
 if (r6.1 != 0) = true then some r6
 else joinK sh50_K7 fun j8 => joinK (sh50_K9 j8) fun j10 => iter fuel (sh50_L11 j8 j10) (z4.1.1, (↑z4.1.1.length : Int), 0, ())
noncomputable def sh50_L13 (j12 : Ty7 × Unit → Option (Int × Unit)) (rc13 : Int × Int × Ty7 × Unit → Option (Int × Unit)) (z13 : Int × Int × Ty7 × Unit) : Option (Int × Unit) :=
 if decide (z13.2.1 < z13.1) = true then
 (sp68 (z13.2.2.1, z13.2.1, ())).bind fun r14 => if (!r14.1) = true then some (7, ()) else rc13 (z13.1, IntKind.i64.wrap (z13.2.1 + 1), z13.2.2)
 else j12 z13.2.2
noncomputable def sh50_K1 (fuel : Nat) (z1 : Ty7 × Unit) : Option (Int × Unit) :=
 (sp66 z1).bind fun r2 =>
 if decide (80 < r2.1) = true then some (2, ())
 else
 (sp67 z1).bind fun r3 =>
 if (!r3.1) = true then some (5, ()) else joinK (sh50_K4 fuel) fun j12 => iter fuel (sh50_L13 j12) ((↑z1.1.1.length : Int), 0, z1)
noncomputable def sh50_L16 (j15 : Ty7 × Unit → Option (Int × Unit)) (rc16 : Int × Int × Ty7 × Unit → Option (Int × Unit)) (z16 : Int × Int × Ty7 × Unit) : Option (Int × Unit) :=
 if decide (z16.2.1 < z16.1) = true then
 (sp65 (z16.2.2.1, z16.2.1, ())).bind fun r17 => if (r17.1 != 0) = true then some r17 else rc16 (z16.1, IntKind.i64.wrap (z16.2.1 + 1), z16.2.2)
 else j15 z16.2.2
noncomputable def sh50_K0 (fuel : Nat) (z0 : Bool × Ty7 × Unit) : Option (Int × Unit) :=
 if z0.1 = true then some (2, ()) else joinK (sh50_K1 fuel) fun j15 => iter fuel (sh50_L16 j15) ((↑z0.2.1.1.length : Int), 0, z0.2)
noncomputable def sh50 (fuel : Nat) (x0 : Ty7) : Option (Int × Unit) :=
 joinK (sh50_K0 fuel) fun j18 =>
 if decide (24 < (↑x0.1.length : Int)) = true then j18 (true, x0, ()) else j18 (decide (24 < (↑x0.2.1.length : Int)), x0, ())
noncomputable def sp50 (x : Ty7 × Unit) : Option (Int × Unit) := sh50 100000 x.1
/-! 51 baggage/layout.Order -/
def g51 : Sig := ⟨[.v (.ag ty7)], .own (.cons (.int .i64) .nil)⟩
def h51 : HT := (nx (.n (nx (.n (nx .e) .e)) (nx .e)))
noncomputable def sh51 (fuel : Nat) (x0 : Ty7) : Option (List (Int × Unit) × Unit) :=
 (sp50 (x0, ())).bind fun r0 => if (r0.1 != 0) = true then some ([], ()) else (sp69 (x0, ())).bind fun r1 => some r1
noncomputable def sp51 (x : Ty7 × Unit) : Option (List (Int × Unit) × Unit) := sh51 0 x.1
noncomputable def c27 : Code := bd Tryd.f27
/-! 28 (*baggage/engine.Plan).Fits -/
def g28 : Sig := ⟨[.bx ty8, .v (.ag ty5)], .v (.ty .bool)⟩
def h28 : HT := (nx (.n (.j ⟨[(0, .ref 900000 3), (3, .ref 1000 2), (28, dB)], [(900000, .box b7), (1000, .box b1)], []⟩ (.r .q) (.n (nx .e) .e)) (.j ⟨[], [(900000, .box b7)], []⟩ (nx (.u (.l ⟨[(3, .ref 1001 2), (33, .d (.ty (.sl ty4))), (34, dI), (35, dI)], [(900000, .box b7), (1001, .box b1)], []⟩ (nx (.n (.n .e .e) (.n (.u (nx (.n (.r .q) (.n (nx .e) .e)))) (.r .x))))))) (nx .e))))
noncomputable def sh28_K1 (z1 : Ty8 × Unit) : Option (Bool × Ty8 × Unit) :=
 some (true, z1)
noncomputable def sh28_L3 (j2 : Ty8 × Unit → Option (Bool × Ty8 × Unit)) (rc3 : List Ty4 × Int × Int × Ty8 × Ty5 × Unit → Option (Bool × Ty8 × Unit)) (z3 : List Ty4 × Int × Int × Ty8 × Ty5 × Unit) : Option (Bool × Ty8 × Unit) :=
 if decide (z3.2.2.1 < z3.2.1) = true then
 if inR z3.2.2.1 z3.1.length = true then
 if inR z3.2.2.1 z3.2.2.2.2.1.1.length = true then
 if ((↑(List.length (lAt ([], ()) z3.2.2.2.2.1.1 z3.2.2.1).1) : Int) != (lAt ([], 0, 0, 0, [], ()) z3.1 z3.2.2.1).2.2.1) = true then
 some (false, z3.2.2.2.1, ())
 else rc3 (z3.1, z3.2.1, IntKind.i64.wrap (z3.2.2.1 + 1), z3.2.2.2)
 else none
 else none
 else j2 (z3.2.2.2.1, ())
noncomputable def sh28_K0 (fuel : Nat) (z0 : Bool × Ty8 × Ty5 × Unit) : Option (Bool × Ty8 × Unit) :=
 if z0.1 = true then some (false, z0.2.1, ()) else joinK sh28_K1 fun j2 => iter fuel (sh28_L3 j2) (z0.2.1.1, (↑z0.2.1.1.length : Int), 0, z0.2)
noncomputable def sh28 (fuel : Nat) (x0 : Ty8) (x1 : Ty5) : Option (Bool × Ty8 × Unit) :=
 joinK (sh28_K0 fuel) fun j4 =>
 if ((↑x1.1.length : Int) != (↑x0.1.length : Int)) = true then j4 (true, x0, x1, ())
 else j4 ((↑x1.2.1.length : Int) != (↑x0.1.length : Int), x0, x1, ())
noncomputable def sp28 (x : Ty8 × Ty5 × Unit) : Option (Bool × Ty8 × Unit) := sh28 100000 x.1 x.2.1
/-! 29 baggage/sensor.most -/
def g29 : Sig := ⟨[.v (.ty (.int .i64))], .v (.ty (.int .i64))⟩
def h29 : HT := (nx (.n (.j ⟨[(8, dB)], [], []⟩ (.r .x) (.n (nx .e) .e)) (nx .e)))
noncomputable def sh29_K0 (z0 : Bool × Unit) : Option (Int × Unit) :=
 if z0.1 = true then some (9, ()) else some (0, ())
noncomputable def sh29 (fuel : Nat) (x0 : Int) : Option (Int × Unit) :=
 joinK sh29_K0 fun j1 => if (x0 == 5) = true then j1 (true, ()) else j1 (x0 == 6, ())
noncomputable def sp29 (x : (Int) × Unit) : Option (Int × Unit) := sh29 0 x.1
/-! 73 baggage/plate.Valid -/
def g73 : Sig := ⟨[.v (.ag ty2)], .v (.ty .bool)⟩
def h73 : HT := (nx (.j ⟨[(2, dB)], [], []⟩ (.r .x) .e))
noncomputable def sh73_K0 (z0 : Bool × Unit) : Option (Bool × Unit) :=
 some z0
noncomputable def sh73 (fuel : Nat) (x0 : Ty2) : Option (Bool × Unit) :=
 joinK sh73_K0 fun j1 =>
 if decide (0 ≤ x0.1) = true then
 if decide (x0.1 ≤ 9) = true then
 if decide (1 ≤ x0.2.1) = true then
 if decide (x0.2.1 ≤ 999) = true then if decide (0 ≤ x0.2.2.1) = true then j1 (decide (x0.2.2.1 < 1000000), ()) else j1 (false, ())
 else j1 (false, ())
 else j1 (false, ())
 else j1 (false, ())
 else j1 (false, ())
noncomputable def sp73 (x : Ty2 × Unit) : Option (Bool × Unit) := sh73 0 x.1
/-! 74 baggage/plate.number -/
def g74 : Sig := ⟨[.v (.ag ty2)], .v (.ty (.int .i64))⟩
def h74 : HT := (nx (nx .e))
noncomputable def sh74 (fuel : Nat) (x0 : Ty2) : Option (Int × Unit) :=
 some (IntKind.i64.wrap (IntKind.i64.wrap (IntKind.i64.wrap (IntKind.i64.wrap (x0.1 * 1000) + x0.2.1) * 1000000) + x0.2.2.1), ())
noncomputable def sp74 (x : Ty2 × Unit) : Option (Int × Unit) := sh74 0 x.1
/-! 52 baggage/plate.Format -/
def g52 : Sig := ⟨[.v (.ag ty2)], .v (.ty .str)⟩
def h52 : HT := (nx (.n (nx (.n (nx .e) .e)) (nx (nx (.j ⟨[(3, .ref 1002 1)], [(1002, .arr (.cons (.int .u8) .nil))], []⟩ (nx (.u (.l ⟨[(3, .ref 1000 1), (4, dI), (11, dI)], [(1000, .arr (.cons (.int .u8) .nil))], []⟩ (nx (.n (.n .e .e) (.n (.u (nx (nx (.r .x)))) (.r .x))))))) (nx .e))))))
noncomputable def sh52_K2 (z2 : List (Int × Unit) × Unit) : Option Tz1 :=
 if decide (z2.1.length = 10) = true then some (toBytes z2.1, ()) else none
noncomputable def sh52_L4 (j3 : List (Int × Unit) × Unit → Option Tz1) (rc4 : Int × Int × List (Int × Unit) × Unit → Option Tz1) (z4 : Int × Int × List (Int × Unit) × Unit) : Option Tz1 :=
 if decide (z4.2.1 < 10) = true then
 if (10 != 0) = true then
 if inR (IntKind.i64.wrap (9 - z4.2.1)) 10 = true then
 if decide ((IntKind.i64.wrap (9 - z4.2.1)).toNat + 1 ≤ z4.2.2.1.length) = true then
 if (10 != 0) = true then
 rc4
 (IntKind.i64.wrap (z4.1.tdiv 10), IntKind.i64.wrap (z4.2.1 + 1),
 z4.2.2.1.set (IntKind.i64.wrap (9 - z4.2.1)).toNat (IntKind.u8.wrap (48 + IntKind.u8.wrap (z4.1.tmod 10)), ()), ())
 else none
 else none
 else none
 else none
 else j3 z4.2.2
noncomputable def sh52 (fuel : Nat) (x0 : Ty2) : Option Tz1 :=
 (sp73 (x0, ())).bind fun r0 =>
 if (!r0.1) = true then some ([], ())
 else (sp74 (x0, ())).bind fun r1 => joinK sh52_K2 fun j3 => iter fuel (sh52_L4 j3) (r1.1, 0, List.replicate 10 (0, ()), ())
noncomputable def sp52 (x : Ty2 × Unit) : Option Tz1 := sh52 100000 x.1
/-! 30 baggage/sensor.look -/
def g30 : Sig := ⟨[.v (.ag ty7), .v (.ag ty5), .v (.ty (.sl ty2)), .v (.ty (.int .i64))], .v (.ag ty3)⟩
def h30 : HT := (nx (nx (.n (.r (.da 14)) (.j ⟨[(8, .ref 1002 4), (10, .ref 1003 4)], [(1002, .box b6), (1003, .box b6)], []⟩ (.j ⟨[(2, .d (.ty (.sl ty2))), (8, .ref 1000 4), (10, .ref 1001 4), (39, dB)], [(1000, .box b6), (1001, .box b6)], []⟩ (.r .x) (nx .e)) (nx .e)))))
noncomputable def sh30_K0 (z0 : Ty3 × Ty3 × Unit) : Option (Ty3 × Unit) :=
 some z0.2
noncomputable def sh30_K2 (j1 : Ty3 × Ty3 × Unit → Option (Ty3 × Unit)) (z2 : List Ty2 × Bool × Ty3 × Ty3 × Unit) : Option (Ty3 × Unit) :=
 if z2.2.1 = true then
 if inR (IntKind.i64.wrap (z2.2.2.2.1.2.2.1 - 1)) z2.1.length = true then
 (sp52 (lAt (0, 0, 0, ()) z2.1 (IntKind.i64.wrap (z2.2.2.2.1.2.2.1 - 1)), ())).bind fun r3 =>
 j1 (z2.2.2.1, (z2.2.2.2.1.1, z2.2.2.2.1.2.1, z2.2.2.2.1.2.2.1, r3), ())
 else none
 else j1 z2.2.2
noncomputable def sh30 (fuel : Nat) (x0 : Ty7) (x1 : Ty5) (x2 : List Ty2) (x3 : Int) : Option (Ty3 × Unit) :=
 if inR x3 x0.2.1.length = true then
 if inR (lAt (0, 0, 0, ()) x0.2.1 x3).2.1 x1.1.length = true then
 if inR (lAt (0, 0, 0, ()) x0.2.1 x3).2.2.1 (List.length (lAt ([], ()) x1.1 (lAt (0, 0, 0, ()) x0.2.1 x3).2.1).1) = true then
 joinK sh30_K0 fun j1 =>
 joinK (sh30_K2 j1) fun j4 =>
 if decide (1 ≤ (lAt (0, ()) (lAt ([], ()) x1.1 (lAt (0, 0, 0, ()) x0.2.1 x3).2.1).1 (lAt (0, 0, 0, ()) x0.2.1 x3).2.2.1).1) = true then
 j4
 (x2,
 decide
 ((lAt (0, ()) (lAt ([], ()) x1.1 (lAt (0, 0, 0, ()) x0.2.1 x3).2.1).1 (lAt (0, 0, 0, ()) x0.2.1 x3).2.2.1).1 ≤ (↑x2.length : Int)),
 (0, 0, 0, [], ()),
 (x3, (lAt (0, 0, 0, ()) x0.2.1 x3).1,
 (lAt (0, ()) (lAt ([], ()) x1.1 (lAt (0, 0, 0, ()) x0.2.1 x3).2.1).1 (lAt (0, 0, 0, ()) x0.2.1 x3).2.2.1).1, [], ()),
 ())
 else
 j4
 (x2, false, (0, 0, 0, [], ()),
 (x3, (lAt (0, 0, 0, ()) x0.2.1 x3).1,
 (lAt (0, ()) (lAt ([], ()) x1.1 (lAt (0, 0, 0, ()) x0.2.1 x3).2.1).1 (lAt (0, 0, 0, ()) x0.2.1 x3).2.2.1).1, [], ()),
 ())
 else none
 else none
 else none
noncomputable def sp30 (x : Ty7 × Ty5 × (List Ty2) × (Int) × Unit) : Option (Ty3 × Unit) := sh30 0 x.1 x.2.1 x.2.2.1 x.2.2.2.1
/-! 31 (baggage/sensor.view).may -/
def g31 : Sig := ⟨[.v (.ag ty3), .v (.ty (.int .i64))], .v (.ty .bool)⟩
def h31 : HT := (nx (.n (nx (.u (nx (.n (nx .e) (nx (.n (.j ⟨[(4, dB)], [], []⟩ (.r .x) .e) .e)))))) (.j ⟨[(4, dB)], [], []⟩ (.r .x) .e)))
noncomputable def sh31_K0 (z0 : Bool × Unit) : Option (Bool × Unit) :=
 some z0
noncomputable def sh31_K2 (z2 : Bool × Unit) : Option (Bool × Unit) :=
 some z2
noncomputable def sh31 (fuel : Nat) (x0 : Ty3) (x1 : Int) : Option (Bool × Unit) :=
 if (x1 == 3) = true then some (x0.2.2.1 != 0, ())
 else
 if (x1 == 4) = true then joinK sh31_K0 fun j1 => if (x0.2.1 == 1) = true then j1 (x0.2.2.1 == 0, ()) else j1 (false, ())
 else
 joinK sh31_K2 fun j3 =>
 if (x0.2.1 == 2) = true then if (x0.2.2.1 != 0) = true then j3 (!x0.2.2.2.1 == [], ()) else j3 (false, ()) else j3 (false, ())
noncomputable def sp31 (x : Ty3 × (Int) × Unit) : Option (Bool × Unit) := sh31 0 x.1 x.2.1
noncomputable def c33 : Code := bd Tryd.f33
noncomputable def c53 : Code := bd Tryd.f53
noncomputable def c32 : Code := bd Tryd.f32
/-! 34 (baggage/sensor.view).right -/
def g34 : Sig := ⟨[.v (.ag ty3)], .v (.ag ty0)⟩
def h34 : HT := (nx (nx (.j ⟨[(2, .ref 1003 3), (3, .ref 1004 3)], [(1003, .box b4), (1004, .box b4)], []⟩ (.j ⟨[(1, .ref 1000 4), (2, .ref 1001 3), (3, .ref 1002 3), (16, dB)], [(1000, .box b6), (1001, .box b4), (1002, .box b4)], []⟩ (.r .x) (nx .e)) (nx .e))))
noncomputable def sh34_K0 (z0 : Ty0 × Ty0 × Unit) : Option (Ty0 × Unit) :=
 some z0.2
noncomputable def sh34_K2 (j1 : Ty0 × Ty0 × Unit → Option (Ty0 × Unit)) (z2 : Bool × Ty3 × Ty0 × Ty0 × Unit) : Option (Ty0 × Unit) :=
 if z2.1 = true then j1 (z2.2.2.1, (z2.2.2.2.1.1, z2.2.2.2.1.2.1, z2.2.1.2.2.2), ()) else j1 z2.2.2
noncomputable def sh34 (fuel : Nat) (x0 : Ty3) : Option (Ty0 × Unit) :=
 joinK sh34_K0 fun j1 =>
 joinK (sh34_K2 j1) fun j3 =>
 if (x0.2.1 == 2) = true then j3 (x0.2.2.1 != 0, x0, (0, false, [], ()), (x0.1, x0.2.2.1 != 0, [], ()), ())
 else j3 (false, x0, (0, false, [], ()), (x0.1, x0.2.2.1 != 0, [], ()), ())
noncomputable def sp34 (x : Ty3 × Unit) : Option (Ty0 × Unit) := sh34 0 x.1
/-! 35 (baggage/sensor.view).with -/
def g35 : Sig := ⟨[.v (.ag ty3), .v (.ty (.int .i64)), .v (.ty (.int .i64))], .v (.ag ty0)⟩
def h35 : HT := (nx (nx (.n (nx (.u (nx (.n (nx .e) (nx (.n (nx (nx .e)) .e)))))) (nx (.j ⟨[(6, .ref 1000 3), (7, .ref 1001 3), (8, .own 1002)], [(1000, .box b4), (1001, .box b4), (1002, .arr (.cons (.int .u8) .nil))], []⟩ (nx (nx (.r .x))) (nx (nx .e)))))))
noncomputable def sh35_K1 (z1 : Ty0 × Ty0 × List (Int × Unit) × Unit) : Option (Ty0 × Unit) :=
 some ((z1.2.1.1, z1.2.1.2.1, toBytes z1.2.2.1, ()), ())
noncomputable def sh35 (fuel : Nat) (x0 : Ty3) (x1 : Int) (x2 : Int) : Option (Ty0 × Unit) :=
 (sp34 (x0, ())).bind fun r0 =>
 if (x1 == 3) = true then some ((x0.1, false, [], ()), ())
 else
 if (x1 == 4) = true then some ((r0.1.1, true, r0.1.2.2), ())
 else
 if decide (x0.2.2.2.1.length ≤ Abs.lim) = true then
 joinK sh35_K1 fun j2 =>
 if (x1 == 5) = true then
 if inR x2 (ofBytes x0.2.2.2.1).length = true then
 if decide (x2.toNat + 1 ≤ (ofBytes x0.2.2.2.1).length) = true then
 j2 ((0, false, [], ()), r0.1, (ofBytes x0.2.2.2.1).set x2.toNat (63, ()), ())
 else none
 else none
 else
 if inR x2 (ofBytes x0.2.2.2.1).length = true then
 if decide (x2.toNat + 1 ≤ (ofBytes x0.2.2.2.1).length) = true then
 if (10 != 0) = true then
 if inR x2 (ofBytes x0.2.2.2.1).length = true then
 if decide (x2.toNat + 1 ≤ (ofBytes x0.2.2.2.1).length) = true then
 j2
 ((0, false, [], ()), r0.1,
 (ofBytes x0.2.2.2.1).set x2.toNat
 (IntKind.u8.wrap
 (48 + (IntKind.u8.wrap (IntKind.u8.wrap (((ofBytes x0.2.2.2.1).getD x2.toNat (0, ())).1 - 48) + 1)).tmod 10),
 ()),
 ())
 else none
 else none
 else none
 else none
 else none
 else none
noncomputable def sp35 (x : Ty3 × (Int) × (Int) × Unit) : Option (Ty0 × Unit) := sh35 0 x.1 x.2.1 x.2.2.1
/-! 14 baggage/sensor.Observe -/
noncomputable def c14 : Code := bd Tryd.f14
def g14 : Sig := ⟨[.v (.ag ty7), .v (.ag ty5), .v (.ty (.sl ty2)), .v (.ty (.sl ty2))], .tup [(.ty (.sl ty0)), (.ty (.int .i64))]⟩
def h14 : HT := (nx (.j ⟨[(2, .d (.ty (.sl ty2))), (3, .d (.ty (.sl ty2))), (4, .ref 1000 2), (5, .ref 1001 2), (10, .ref 1002 3), (11, dB)], [(1000, .box b0), (1001, .box b1), (1002, .box b7)], []⟩ (.ri .x [(22, 0, (nx (.n (nx (.n (nx .e) .e)) (.n (.r (.w 3 [(0, 0), (0, 1), (2, 2)])) .e))))]) (.n (.u (.j ⟨[(2, .d (.ty (.sl ty2))), (3, .d (.ty (.sl ty2))), (4, .ref 1003 2), (5, .ref 1004 2), (25, dB)], [(1003, .box b0), (1004, .box b1)], []⟩ (.r .x) (.n (nx .e) (nx (.n (nx .e) .e))))) (.j ⟨[(2, .d (.ty (.sl ty2))), (3, .d (.ty (.sl ty2))), (4, .ref 1015 2), (5, .ref 1016 2)], [(1015, .box b0), (1016, .box b1)], []⟩ (nx (.u (.l ⟨[(2, .d (.ty (.sl ty2))), (3, .d (.ty (.sl ty2))), (4, .ref 1005 2), (5, .ref 1006 2), (38, .d (.ty (.sl ty2))), (39, dI), (40, dI)], [(1005, .box b0), (1006, .box b1)], []⟩ (nx (.n (.n .e .e) (.n (.u (nx (.u (.j ⟨[(2, .d (.ty (.sl ty2))), (3, .d (.ty (.sl ty2))), (4, .ref 1007 2), (5, .ref 1008 2), (13, .ref 1009 3), (38, .d (.ty (.sl ty2))), (39, dI), (40, dI), (44, dB)], [(1007, .box b0), (1008, .box b1), (1009, .box b5)], []⟩ (.r .x) (.n (nx .e) (.j ⟨[(2, .d (.ty (.sl ty2))), (3, .d (.ty (.sl ty2))), (4, .ref 1010 2), (5, .ref 1011 2), (13, .ref 1012 3), (38, .d (.ty (.sl ty2))), (39, dI), (40, dI), (53, dB)], [(1010, .box b0), (1011, .box b1), (1012, .box b5)], []⟩ (.r .q) (.n (nx .e) (.n (.r .q) (.n (nx .e) .e))))))))) (.r .x))))))) (.j ⟨[(2, .d (.ty (.sl ty2))), (3, .d (.ty (.sl ty2))), (4, .ref 1031 2), (5, .ref 1032 2)], [(1031, .box b0), (1032, .box b1)], []⟩ (nx (.u (.l ⟨[(2, .d (.ty (.sl ty2))), (3, .d (.ty (.sl ty2))), (4, .ref 1017 2), (5, .ref 1018 2), (90, .d (.ty (.sl ty2))), (91, dI), (92, dI)], [(1017, .box b0), (1018, .box b1)], []⟩ (nx (.n (.n .e .e) (.n (.u (nx (.n (.ri .x [(101, 0, (nx (.j ⟨[(2, .d (.ty (.sl ty2))), (3, .d (.ty (.sl ty2))), (4, .ref 1027 2), (5, .ref 1028 2), (90, .d (.ty (.sl ty2))), (91, dI), (92, dI), (146, dB)], [(1027, .box b0), (1028, .box b1)], []⟩ (.ri .x [(149, 0, (nx (.j ⟨[(2, .d (.ty (.sl ty2))), (3, .d (.ty (.sl ty2))), (4, .ref 1025 2), (5, .ref 1026 2), (90, .d (.ty (.sl ty2))), (91, dI), (92, dI)], [(1025, .box b0), (1026, .box b1)], []⟩ (nx (.u (.l ⟨[(2, .d (.ty (.sl ty2))), (3, .d (.ty (.sl ty2))), (4, .ref 1019 2), (5, .ref 1020 2), (90, .d (.ty (.sl ty2))), (91, dI), (92, dI), (151, .d (.ty (.sl ty2))), (152, .wrp (some 33, 0) [(1021, 3)]), (158, dI), (159, dI)], [(1019, .box b0), (1020, .box b1), (1021, .box b5)], []⟩ (nx (.n (.n .e .e) (.n (.u (nx (.n (.ri .x [(167, 0, (nx (nx .e)))]) (.n (nx .e) .e)))) (.r .x))))))) (nx .e))))]) .e)))]) (.n (nx .e) .e)))) (.r .x))))))) (nx (.j ⟨[(2, .d (.ty (.sl ty2))), (3, .d (.ty (.sl ty2))), (4, .ref 1039 2), (5, .ref 1040 2), (16, .own 1041)], [(1039, .box b0), (1040, .box b1), (1041, .arr ty0)], []⟩ (nx (.u (.l ⟨[(2, .d (.ty (.sl ty2))), (3, .d (.ty (.sl ty2))), (4, .ref 1033 2), (5, .ref 1034 2), (16, .own 1035), (105, dI), (106, dI)], [(1033, .box b0), (1034, .box b1), (1035, .arr ty0)], []⟩ (nx (.n (.n .e .e) (.n (.u (nx (.r .x))) (.r .x))))))) (.j ⟨[(16, .own 1048)], [(1048, .arr ty0)], []⟩ (nx (.u (.l ⟨[(2, .d (.ty (.sl ty2))), (4, .ref 1042 2), (5, .ref 1043 2), (16, .own 1044), (119, .d (.ty (.sl ty2))), (120, dI), (121, dI)], [(1042, .box b0), (1043, .box b1), (1044, .arr ty0)], []⟩ (nx (.n (.n .e .e) (.n (.u (nx (.r (.qt 15)))) (.r .x))))))) (nx .e)))))))))
noncomputable def FT14 : List (Nat × Entry) := [(50, ⟨g50, sp50⟩), (51, ⟨g51, sp51⟩), (28, ⟨g28, sp28⟩), (29, ⟨g29, sp29⟩), (30, ⟨g30, sp30⟩), (31, ⟨g31, sp31⟩), (34, ⟨g34, sp34⟩), (35, ⟨g35, sp35⟩)]
noncomputable def IT14 : List (Nat × Inl) := [(27, ⟨12, [.tmp 2, .tmp 3], c27⟩), (32, ⟨9, [.tmp 4], c32⟩), (53, ⟨19, [.tmp 4], c53⟩), (33, ⟨9, [.tmp 3], c33⟩)]
def MT14 : MTab := []
noncomputable def sh14_K5 (z5 : List Ty0 × Unit) : Option (Tz2 × Unit) :=
 some ((z5.1, 0, ()), ())
noncomputable def sh14_L7 (j6 : List Ty0 × Unit → Option (Tz2 × Unit)) (rc7 : List Ty2 × List Ty2 × Int × Int × Ty7 × Ty5 × List Ty0 × Unit → Option (Tz2 × Unit)) (z7 : List Ty2 × List Ty2 × Int × Int × Ty7 × Ty5 × List Ty0 × Unit) : Option (Tz2 × Unit) :=
 if decide (z7.2.2.2.1 < z7.2.2.1) = true then
 if inR z7.2.2.2.1 z7.2.1.length = true then
 (sp30 (z7.2.2.2.2.1, z7.2.2.2.2.2.1, z7.1, (lAt (0, 0, 0, ()) z7.2.1 z7.2.2.2.1).2.1, ())).bind fun r8 =>
 (sp35 (r8.1, (lAt (0, 0, 0, ()) z7.2.1 z7.2.2.2.1).1, (lAt (0, 0, 0, ()) z7.2.1 z7.2.2.2.1).2.2)).bind fun r9 =>
 if inR (lAt (0, 0, 0, ()) z7.2.1 z7.2.2.2.1).2.1 z7.2.2.2.2.2.2.1.length = true then
 if decide (Int.toNat (lAt (0, 0, 0, ()) z7.2.1 z7.2.2.2.1).2.1 + 1 ≤ z7.2.2.2.2.2.2.1.length) = true then
 rc7
 (z7.1, z7.2.1, z7.2.2.1, IntKind.i64.wrap (z7.2.2.2.1 + 1), z7.2.2.2.2.1, z7.2.2.2.2.2.1,
 z7.2.2.2.2.2.2.1.set (Int.toNat (lAt (0, 0, 0, ()) z7.2.1 z7.2.2.2.1).2.1) r9.1, ())
 else none
 else none
 else none
 else j6 z7.2.2.2.2.2.2
noncomputable def sh14_K4 (fuel : Nat) (z4 : List Ty2 × List Ty2 × Ty7 × Ty5 × List Ty0 × Unit) : Option (Tz2 × Unit) :=
 joinK sh14_K5 fun j6 => iter fuel (sh14_L7 j6) (z4.1, z4.2.1, (↑z4.2.1.length : Int), 0, z4.2.2)
noncomputable def sh14_L11 (j10 : List Ty2 × List Ty2 × Ty7 × Ty5 × List Ty0 × Unit → Option (Tz2 × Unit)) (rc11 : List Ty2 × List Ty2 × Int × Int × Ty7 × Ty5 × List Ty0 × Unit → Option (Tz2 × Unit)) (z11 : List Ty2 × List Ty2 × Int × Int × Ty7 × Ty5 × List Ty0 × Unit) : Option (Tz2 × Unit) :=
 if decide (z11.2.2.2.1 < z11.2.2.1) = true then
 (sp30 (z11.2.2.2.2.1, z11.2.2.2.2.2.1, z11.1, z11.2.2.2.1, ())).bind fun r12 =>
 (sp34 r12).bind fun r13 =>
 if decide (z11.2.2.2.2.2.2.1.length + 1 ≤ Abs.lim) = true then
 if decide ((z11.2.2.2.2.2.2.1.length + 1) * 32 ≤ Abs.lim) = true then
 rc11 (z11.1, z11.2.1, z11.2.2.1, IntKind.i64.wrap (z11.2.2.2.1 + 1), z11.2.2.2.2.1, z11.2.2.2.2.2.1, z11.2.2.2.2.2.2.1 ++ [r13.1], ())
 else none
 else none
 else j10 (z11.1, z11.2.1, z11.2.2.2.2)
noncomputable def sh14_K3 (fuel : Nat) (z3 : List Ty2 × List Ty2 × Ty7 × Ty5 × Unit) : Option (Tz2 × Unit) :=
 joinK (sh14_K4 fuel) fun j10 => iter fuel (sh14_L11 j10) (z3.1, z3.2.1, (↑z3.2.2.1.2.1.length : Int), 0, z3.2.2.1, z3.2.2.2.1, [], ())
noncomputable def sh14_K16 (rc15 : List Ty2 × List Ty2 × List Ty2 × Int × Int × Ty7 × Ty5 × Unit → Option (Tz2 × Unit)) (z16 : List Ty2 × List Ty2 × List Ty2 × Int × Int × Bool × Ty7 × Ty5 × Unit) : Option (Tz2 × Unit) :=
 if z16.2.2.2.2.2.1 = true then some (([], 5, ()), ())
 else rc15 (z16.1, z16.2.1, z16.2.2.1, z16.2.2.2.1, IntKind.i64.wrap (z16.2.2.2.2.1 + 1), z16.2.2.2.2.2.2)
noncomputable def sh14_K18 (j17 : List Ty2 × List Ty2 × List Ty2 × Int × Int × Bool × Ty7 × Ty5 × Unit → Option (Tz2 × Unit)) (z18 : List Ty2 × List Ty2 × List Ty2 × Int × Int × Ty7 × Ty5 × Unit) : Option (Tz2 × Unit) :=
 j17 (z18.1, z18.2.1, z18.2.2.1, z18.2.2.2.1, z18.2.2.2.2.1, decide (0 ≤ -1), z18.2.2.2.2.2)
noncomputable def sh14_L20 (j17 : List Ty2 × List Ty2 × List Ty2 × Int × Int × Bool × Ty7 × Ty5 × Unit → Option (Tz2 × Unit)) (j19 : List Ty2 × List Ty2 × List Ty2 × Int × Int × Ty7 × Ty5 × Unit → Option (Tz2 × Unit)) (rc20 : List Ty2 × List Ty2 × List Ty2 × Int × Int × List Ty2 × Int × Int × Ty7 × Ty5 × Ty2 × Unit → Option (Tz2 × Unit)) (z20 : List Ty2 × List Ty2 × List Ty2 × Int × Int × List Ty2 × Int × Int × Ty7 × Ty5 × Ty2 × Unit) : Option (Tz2 × Unit) :=
 if decide (z20.2.2.2.2.2.2.2.1 < z20.2.2.2.2.2.2.1) = true then
 if inR z20.2.2.2.2.2.2.2.1 z20.2.2.2.2.2.1.length = true then
 if (z20.2.2.2.2.2.2.2.2.2.2.1.2.1 == (lAt (0, 0, 0, ()) z20.2.2.2.2.2.1 z20.2.2.2.2.2.2.2.1).2.1) = true then
 j17
 (z20.1, z20.2.1, z20.2.2.1, z20.2.2.2.1, z20.2.2.2.2.1, decide (0 ≤ z20.2.2.2.2.2.2.2.1), z20.2.2.2.2.2.2.2.2.1, z20.2.2.2.2.2.2.2.2.2.1, ())
 else
 rc20
 (z20.1, z20.2.1, z20.2.2.1, z20.2.2.2.1, z20.2.2.2.2.1, z20.2.2.2.2.2.1, z20.2.2.2.2.2.2.1, IntKind.i64.wrap (z20.2.2.2.2.2.2.2.1 + 1),
 z20.2.2.2.2.2.2.2.2)
 else none
 else j19 (z20.1, z20.2.1, z20.2.2.1, z20.2.2.2.1, z20.2.2.2.2.1, z20.2.2.2.2.2.2.2.2.1, z20.2.2.2.2.2.2.2.2.2.1, ())
noncomputable def sh14_L15 (fuel : Nat) (j14 : List Ty2 × List Ty2 × Ty7 × Ty5 × Unit → Option (Tz2 × Unit)) (rc15 : List Ty2 × List Ty2 × List Ty2 × Int × Int × Ty7 × Ty5 × Unit → Option (Tz2 × Unit)) (z15 : List Ty2 × List Ty2 × List Ty2 × Int × Int × Ty7 × Ty5 × Unit) : Option (Tz2 × Unit) :=
 if decide (z15.2.2.2.2.1 < z15.2.2.2.1) = true then
 if inR z15.2.2.2.2.1 z15.2.2.1.length = true then
 if inCut 0 z15.2.2.2.2.1 z15.2.1.length = true then
 joinK (sh14_K16 rc15) fun j17 =>
 joinK (sh14_K18 j17) fun j19 =>
 iter fuel (sh14_L20 j17 j19)
 (z15.1, z15.2.1, z15.2.2.1, z15.2.2.2.1, z15.2.2.2.2.1, cutL z15.2.1 0 z15.2.2.2.2.1, (↑(cutL z15.2.1 0 z15.2.2.2.2.1).length : Int), 0,
 z15.2.2.2.2.2.1, z15.2.2.2.2.2.2.1, lAt (0, 0, 0, ()) z15.2.2.1 z15.2.2.2.2.1, ())
 else none
 else none
 else j14 (z15.1, z15.2.1, z15.2.2.2.2.2)
noncomputable def sh14_K2 (fuel : Nat) (z2 : List Ty2 × List Ty2 × Ty7 × Ty5 × Unit) : Option (Tz2 × Unit) :=
 joinK (sh14_K3 fuel) fun j14 => iter fuel (sh14_L15 fuel j14) (z2.1, z2.2.1, z2.2.1, (↑z2.2.1.length : Int), 0, z2.2.2)
noncomputable def sh14_K24 (rc22 : List Ty2 × List Ty2 × List Ty2 × Int × Int × Ty7 × Ty5 × Unit → Option (Tz2 × Unit)) (z24 : List Ty2 × List Ty2 × List Ty2 × Int × Int × Bool × Ty7 × Ty5 × Ty2 × Unit) : Option (Tz2 × Unit) :=
 if z24.2.2.2.2.2.1 = true then some (([], 1, ()), ())
 else
 (sp30 (z24.2.2.2.2.2.2.1, z24.2.2.2.2.2.2.2.1, z24.1, z24.2.2.2.2.2.2.2.2.1.2.1, ())).bind fun r25 =>
 (sp31 (r25.1, z24.2.2.2.2.2.2.2.2.1.1, ())).bind fun r26 =>
 if (!r26.1) = true then some (([], 7, ()), ())
 else rc22 (z24.1, z24.2.1, z24.2.2.1, z24.2.2.2.1, IntKind.i64.wrap (z24.2.2.2.2.1 + 1), z24.2.2.2.2.2.2.1, z24.2.2.2.2.2.2.2.1, ())
noncomputable def sh14_K23 (rc22 : List Ty2 × List Ty2 × List Ty2 × Int × Int × Ty7 × Ty5 × Unit → Option (Tz2 × Unit)) (z23 : List Ty2 × List Ty2 × List Ty2 × Int × Int × Bool × Ty7 × Ty5 × Ty2 × Unit) : Option (Tz2 × Unit) :=
 if z23.2.2.2.2.2.1 = true then some (([], 4, ()), ())
 else
 joinK (sh14_K24 rc22) fun j27 =>
 if decide (z23.2.2.2.2.2.2.2.2.1.2.1 < 0) = true then j27 (z23.1, z23.2.1, z23.2.2.1, z23.2.2.2.1, z23.2.2.2.2.1, true, z23.2.2.2.2.2.2)
 else
 if decide ((↑z23.2.2.2.2.2.2.1.2.1.length : Int) ≤ z23.2.2.2.2.2.2.2.2.1.2.1) = true then
 j27 (z23.1, z23.2.1, z23.2.2.1, z23.2.2.2.1, z23.2.2.2.2.1, true, z23.2.2.2.2.2.2)
 else
 if decide (z23.2.2.2.2.2.2.2.2.1.2.2.1 < 0) = true then j27 (z23.1, z23.2.1, z23.2.2.1, z23.2.2.2.1, z23.2.2.2.2.1, true, z23.2.2.2.2.2.2)
 else
 (sp29 (z23.2.2.2.2.2.2.2.2.1.1, ())).bind fun r28 =>
 j27 (z23.1, z23.2.1, z23.2.2.1, z23.2.2.2.1, z23.2.2.2.2.1, decide (r28.1 < z23.2.2.2.2.2.2.2.2.1.2.2.1), z23.2.2.2.2.2.2)
noncomputable def sh14_L22 (j21 : List Ty2 × List Ty2 × Ty7 × Ty5 × Unit → Option (Tz2 × Unit)) (rc22 : List Ty2 × List Ty2 × List Ty2 × Int × Int × Ty7 × Ty5 × Unit → Option (Tz2 × Unit)) (z22 : List Ty2 × List Ty2 × List Ty2 × Int × Int × Ty7 × Ty5 × Unit) : Option (Tz2 × Unit) :=
 if decide (z22.2.2.2.2.1 < z22.2.2.2.1) = true then
 if inR z22.2.2.2.2.1 z22.2.2.1.length = true then
 joinK (sh14_K23 rc22) fun j29 =>
 if decide ((lAt (0, 0, 0, ()) z22.2.2.1 z22.2.2.2.2.1).1 < 3) = true then
 j29
 (z22.1, z22.2.1, z22.2.2.1, z22.2.2.2.1, z22.2.2.2.2.1, true, z22.2.2.2.2.2.1, z22.2.2.2.2.2.2.1, lAt (0, 0, 0, ()) z22.2.2.1 z22.2.2.2.2.1,
 ())
 else
 j29
 (z22.1, z22.2.1, z22.2.2.1, z22.2.2.2.1, z22.2.2.2.2.1, decide (6 < (lAt (0, 0, 0, ()) z22.2.2.1 z22.2.2.2.2.1).1), z22.2.2.2.2.2.1,
 z22.2.2.2.2.2.2.1, lAt (0, 0, 0, ()) z22.2.2.1 z22.2.2.2.2.1, ())
 else none
 else j21 (z22.1, z22.2.1, z22.2.2.2.2.2)
noncomputable def sh14_K1 (fuel : Nat) (z1 : List Ty2 × List Ty2 × Bool × Ty7 × Ty5 × Unit) : Option (Tz2 × Unit) :=
 if z1.2.2.1 = true then some (([], 7, ()), ())
 else
 if decide (4 < (↑z1.2.1.length : Int)) = true then some (([], 2, ()), ())
 else joinK (sh14_K2 fuel) fun j21 => iter fuel (sh14_L22 j21) (z1.1, z1.2.1, z1.2.1, (↑z1.2.1.length : Int), 0, z1.2.2.2)
noncomputable def sh14_K0 (fuel : Nat) (z0 : List Ty2 × List Ty2 × Bool × Ty7 × Ty5 × Ty8 × Unit) : Option (Tz2 × Unit) :=
 joinK (sh14_K1 fuel) fun j30 =>
 if (!z0.2.2.1) = true then j30 (z0.1, z0.2.1, true, z0.2.2.2.1, z0.2.2.2.2.1, ())
 else (sp28 (z0.2.2.2.2.2.1, z0.2.2.2.2.1, ())).bind fun r31 => j30 (z0.1, z0.2.1, !r31.1, z0.2.2.2.1, z0.2.2.2.2.1, ())
noncomputable def sh14 (fuel : Nat) (x0 : Ty7) (x1 : Ty5) (x2 : List Ty2) (x3 : List Ty2) : Option (Tz2 × Unit) :=
 joinK (sh14_K0 fuel) fun j32 =>
 (sp50 (x0, ())).bind fun r33 =>
 if (r33.1 != 0) = true then none else (sp51 (x0, ())).bind fun r34 => j32 (x2, x3, true, x0, x1, (x0.1, x0.2.1, r34), ())
noncomputable def sp14 (x : Ty7 × Ty5 × (List Ty2) × (List Ty2) × Unit) : Option (Tz2 × Unit) := sh14 100000 x.1 x.2.1 x.2.2.1 x.2.2.2.1
def g20 : Sig := ⟨[.v (.ag ty7), .v (.ag ty5), .v (.ty (.sl ty2)), .v (.ag ty0)], .tup [(.ty (.int .i64)), (.ty .bool)]⟩
abbrev VW := Int × Int × Int × List UInt8 × Unit
abbrev RP := Int × Bool × List UInt8 × Unit
def rightV (v : VW) : RP := (v.1, v.2.2.1 != 0, (if (v.2.1 == 2 && v.2.2.1 != 0) = true then v.2.2.2.1 else []), ())
def wrongC (c : Int) : Int := IntKind.u8.wrap (48 + (IntKind.u8.wrap (IntKind.u8.wrap (c - 48) + 1)).tmod 10)
def withV (v : VW) (k : Int) (w : Nat) : RP :=
 if k = 3 then (v.1, false, [], ()) else if k = 4 then (v.1, true, (rightV v).2.2.1, ()) else
 if k = 5 then (v.1, v.2.2.1 != 0, toBytes ((ofBytes v.2.2.2.1).set w (63, ())), ()) else
 (v.1, v.2.2.1 != 0, toBytes ((ofBytes v.2.2.2.1).set w (wrongC ((ofBytes v.2.2.2.1).getD w (0, ())).1, ())), ())
def mayV (v : VW) (k : Int) : Bool := if k = 3 then v.2.2.1 != 0 else if k = 4 then (v.2.1 == 1 && v.2.2.1 == 0) else (v.2.1 == 2 && (v.2.2.1 != 0 && !(v.2.2.2.1 == [])))
def mostV (k : Int) : Nat := if k = 5 ∨ k = 6 then 9 else 0
def faultsK (v : VW) (k : Int) : List RP := if mayV v k = true then (List.range (mostV k + 1)).map (withV v k) else []
def faultsV (v : VW) : List RP := faultsK v 3 ++ (faultsK v 4 ++ (faultsK v 5 ++ faultsK v 6))
instance repEq : DecidableEq RP := inferInstance
def costV (v : VW) (r : RP) : Int × Bool × Unit := if r = rightV v then (0, true, ()) else if r ∈ faultsV v then (1, true, ()) else (0, false, ())
noncomputable def sp20 (x : Ty7 × Ty5 × List Ty2 × Ty0 × Unit) : Option ((Int × Bool × Unit) × Unit) :=
 if x.2.2.2.1.1 < 0 ∨ (x.1.2.1.length : Int) ≤ x.2.2.2.1.1 then some ((0, false, ()), ())
 else if (lAt (0, 0, 0, ()) x.1.2.1 x.2.2.2.1.1).2.1 < 0 ∨ (x.2.1.1.length : Int) ≤ (lAt (0, 0, 0, ()) x.1.2.1 x.2.2.2.1.1).2.1 then some ((0, false, ()), ())
 else if (lAt (0, 0, 0, ()) x.1.2.1 x.2.2.2.1.1).2.2.1 < 0 ∨ ((lAt ([], ()) x.2.1.1 (lAt (0, 0, 0, ()) x.1.2.1 x.2.2.2.1.1).2.1).1.length : Int) ≤ (lAt (0, 0, 0, ()) x.1.2.1 x.2.2.2.1.1).2.2.1 then some ((0, false, ()), ())
 else (sp30 (x.1, x.2.1, x.2.2.1, x.2.2.2.1.1, ())).bind fun v => if v.1.2.2.2.1 = [] ∨ v.1.2.2.2.1.length = 10 then some (costV v.1 x.2.2.2.1, ()) else none
/-! 7 baggage/baggagelaw12.awake -/
def g7 : Sig := ⟨[], .v (.ty .bool)⟩
def h7 : HT := (nx (nx (nx (nx (nx (nx (nx (.j ⟨[(0, dB)], [], []⟩ (.r .x) .e))))))))
noncomputable def sh7_K4 (z4 : Bool × Unit) : Option (Bool × Unit) :=
 some z4
noncomputable def sh7 (fuel : Nat) : Option (Bool × Unit) :=
 (sp22
 (lit0,
 ())).bind
 fun r0 =>
 if decide (0 ≤ 2) = true then
 if decide (2 ≤ 2) = true then
 if decide (2 ≤ (↑Abs.lim : Int)) = true then
 if decide ((↑24 : Int) * 2 ≤ (↑Abs.lim : Int)) = true then
 (sp14 (r0.1.1, ([([(1, ())], ()), ([], ())], List.replicate (Int.toNat 2) ([], ()), ()), [(0, 117, 1, ())], [(6, 0, 9, ())], ())).bind
 fun r1 =>
 (sp20
 (r0.1.1, ([([(1, ())], ()), ([], ())], List.replicate (Int.toNat 2) ([], ()), ()), [(0, 117, 1, ())],
 (0, true, [48, 49, 49, 55, 63, 48, 48, 48, 48, 49], ()), ())).bind
 fun r2 =>
 (sp20
 (r0.1.1, ([([(1, ())], ()), ([], ())], List.replicate (Int.toNat 2) ([], ()), ()), [(0, 117, 1, ())],
 (0, true, [48, 49, 49, 55, 48, 48, 48, 48, 48, 51], ()), ())).bind
 fun r3 =>
 joinK sh7_K4 fun j5 =>
 if (r0.1.2.2.1 == 0) = true then
 if (r1.1.2.1 == 0) = true then
 if ((↑r1.1.1.length : Int) == 1) = true then
 if inR 0 r1.1.1.length = true then
 if (lAt (0, false, [], ()) r1.1.1 0).2.1 = true then
 if inR 0 r1.1.1.length = true then
 if ((lAt (0, false, [], ()) r1.1.1 0).2.2.1 == [48, 49, 49, 55, 48, 48, 48, 48, 48, 50]) = true then
 if r2.1.2.1 = true then if (r2.1.1 == 1) = true then j5 (!r3.1.2.1, ()) else j5 (false, ()) else j5 (false, ())
 else j5 (false, ())
 else none
 else j5 (false, ())
 else none
 else j5 (false, ())
 else j5 (false, ())
 else j5 (false, ())
 else none
 else none
 else none
 else none
noncomputable def sp7 (x : Unit) : Option (Bool × Unit) := sh7 0 
/-! 8 baggage/baggagekeep.New -/
def g8 : Sig := ⟨[.v (.ty (.sl (.cons (.int .i64) .nil)))], .box ty1⟩
def h8 : HT := (nx (.j ⟨[(0, dL)], [], []⟩ (nx (nx .e)) (nx .e)))
noncomputable def sh8_K0 (z0 : List (Int × Unit) × Unit) : Option (Ty1 × Unit) :=
 some ((z0.1, 0, ()), ())
noncomputable def sh8 (fuel : Nat) (x0 : List (Int × Unit)) : Option (Ty1 × Unit) :=
 joinK sh8_K0 fun j1 =>
 if decide (2000 < (↑x0.length : Int)) = true then if inCut 0 2000 x0.length = true then j1 (cutL x0 0 2000, ()) else none else j1 (x0, ())
noncomputable def sp8 (x : (List (Int × Unit)) × Unit) : Option (Ty1 × Unit) := sh8 0 x.1
/-! 43 (*baggage/baggagekeep.Src).Raw -/
def g43 : Sig := ⟨[.bx ty1], .v (.ty (.int .i64))⟩
def h43 : HT := (nx (.n (.n (.r .q) (.n (nx .e) .e)) (nx (.n (.r .q) .e))))
noncomputable def sh43 (fuel : Nat) (x0 : Ty1) : Option (Int × Ty1 × Unit) :=
 if decide ((↑x0.1.length : Int) ≤ x0.2.1) = true then some (0, x0, ())
 else
 if inR (IntKind.i64.wrap (IntKind.i64.wrap (x0.2.1 + 1) - 1)) x0.1.length = true then
 some ((lAt (0, ()) x0.1 (IntKind.i64.wrap (IntKind.i64.wrap (x0.2.1 + 1) - 1))).1, (x0.1, IntKind.i64.wrap (x0.2.1 + 1), ()), ())
 else none
noncomputable def sp43 (x : Ty1 × Unit) : Option (Int × Ty1 × Unit) := sh43 0 x.1
/-! 19 baggage/baggagekeep.Mod -/
def g19 : Sig := ⟨[.v (.ty (.int .i64)), .v (.ty (.int .i64))], .v (.ty (.int .i64))⟩
def h19 : HT := (nx (.n (nx (.n (nx .e) .e)) (nx (.j ⟨[(0, dI)], [], []⟩ (nx (nx .e)) (nx .e)))))
noncomputable def sh19_K0 (z0 : Int × Unit) : Option (Int × Unit) :=
 some z0
noncomputable def sh19 (fuel : Nat) (x0 : Int) (x1 : Int) : Option (Int × Unit) :=
 if decide (x1 < 1) = true then some (0, ())
 else
 if (x1 != 0) = true then
 joinK sh19_K0 fun j1 => if decide (x0.tmod x1 < 0) = true then j1 (IntKind.i64.wrap (x0.tmod x1 + x1), ()) else j1 (x0.tmod x1, ())
 else none
noncomputable def sp19 (x : (Int) × (Int) × Unit) : Option (Int × Unit) := sh19 0 x.1 x.2.1
/-! 18 (*baggage/baggagekeep.Src).N -/
def g18 : Sig := ⟨[.bx ty1, .v (.ty (.int .i64))], .v (.ty (.int .i64))⟩
def h18 : HT := (nx (nx .e))
noncomputable def sh18 (fuel : Nat) (x0 : Ty1) (x1 : Int) : Option (Int × Ty1 × Unit) :=
 (sp43 (x0, ())).bind fun r0 => (sp19 (r0.1, x1, ())).bind fun r1 => some (r1.1, r0.2)
noncomputable def sp18 (x : Ty1 × (Int) × Unit) : Option (Int × Ty1 × Unit) := sh18 0 x.1 x.2.1
/-! 13 (*baggage/baggagekeep.Src).Range -/
def g13 : Sig := ⟨[.bx ty1, .v (.ty (.int .i64)), .v (.ty (.int .i64))], .v (.ty (.int .i64))⟩
def h13 : HT := (nx (nx .e))
noncomputable def sh13 (fuel : Nat) (x0 : Ty1) (x1 : Int) (x2 : Int) : Option (Int × Ty1 × Unit) :=
 (sp18 (x0, IntKind.i64.wrap (IntKind.i64.wrap (x2 - x1) + 1), ())).bind fun r0 => some (IntKind.i64.wrap (x1 + r0.1), r0.2)
noncomputable def sp13 (x : Ty1 × (Int) × (Int) × Unit) : Option (Int × Ty1 × Unit) := sh13 0 x.1 x.2.1 x.2.2.1
/-! 26 (*baggage/baggagekeep.Src).Pick -/
def g26 : Sig := ⟨[.bx ty1, .v (.ty (.sl (.cons (.int .i64) .nil)))], .v (.ty (.int .i64))⟩
def h26 : HT := (nx (nx .e))
noncomputable def sh26 (fuel : Nat) (x0 : Ty1) (x1 : List (Int × Unit)) : Option (Int × Ty1 × Unit) :=
 (sp18 (x0, (↑x1.length : Int), ())).bind fun r0 => if inR r0.1 x1.length = true then some ((lAt (0, ()) x1 r0.1).1, r0.2) else none
noncomputable def sp26 (x : Ty1 × (List (Int × Unit)) × Unit) : Option (Int × Ty1 × Unit) := sh26 0 x.1 x.2.1
/-! 49 (*baggage/baggagekeep.Src).other -/
def g49 : Sig := ⟨[.bx ty1, .v (.ty (.sl (.cons (.int .i64) .nil))), .v (.ty (.int .i64))], .v (.ty (.int .i64))⟩
def h49 : HT := (nx (nx (.j ⟨[(0, .ref 900000 2), (7, .own 1003)], [(900000, .box b2), (1003, .arr (.cons (.int .i64) .nil))], []⟩ (nx (.u (.l ⟨[(0, .ref 900000 2), (1, dL), (2, dI), (7, .own 1000), (8, dI)], [(900000, .box b2), (1000, .arr (.cons (.int .i64) .nil))], []⟩ (.n (nx (.n .e .e)) (.j ⟨[(0, .ref 900000 2), (1, dL), (2, dI), (7, .own 1001), (8, dI)], [(900000, .box b2), (1001, .arr (.cons (.int .i64) .nil))], []⟩ (.u (nx (nx .e))) (.r .x)))))) (.n (nx (.n (nx .e) .e)) (nx .e)))))
noncomputable def sh49_K0 (z0 : Ty1 × List (Int × Unit) × Unit) : Option (Int × Ty1 × Unit) :=
 if ((↑z0.2.1.length : Int) == 0) = true then some (-1, z0.1, ())
 else
 (sp18 (z0.1, (↑z0.2.1.length : Int), ())).bind fun r1 =>
 if inR r1.1 z0.2.1.length = true then
 if decide (r1.1.toNat + 1 ≤ z0.2.1.length) = true then some ((z0.2.1.getD r1.1.toNat (0, ())).1, r1.2) else none
 else none
noncomputable def sh49_K4 (rc3 : List (Int × Unit) × Int × Int × Ty1 × List (Int × Unit) × Unit → Option (Int × Ty1 × Unit)) (z4 : List (Int × Unit) × Int × Int × Ty1 × List (Int × Unit) × Unit) : Option (Int × Ty1 × Unit) :=
 rc3 (z4.1, z4.2.1, IntKind.i64.wrap (z4.2.2.1 + 1), z4.2.2.2)
noncomputable def sh49_L3 (j2 : Ty1 × List (Int × Unit) × Unit → Option (Int × Ty1 × Unit)) (rc3 : List (Int × Unit) × Int × Int × Ty1 × List (Int × Unit) × Unit → Option (Int × Ty1 × Unit)) (z3 : List (Int × Unit) × Int × Int × Ty1 × List (Int × Unit) × Unit) : Option (Int × Ty1 × Unit) :=
 if decide (z3.2.2.1 < (↑z3.1.length : Int)) = true then
 joinK (sh49_K4 rc3) fun j5 =>
 if inR z3.2.2.1 z3.1.length = true then
 if ((lAt (0, ()) z3.1 z3.2.2.1).1 != z3.2.1) = true then
 if inR z3.2.2.1 z3.1.length = true then
 if decide (z3.2.2.2.2.1.length + 1 ≤ Abs.lim) = true then
 if decide ((z3.2.2.2.2.1.length + 1) * 8 ≤ Abs.lim) = true then
 j5 (z3.1, z3.2.1, z3.2.2.1, z3.2.2.2.1, z3.2.2.2.2.1 ++ [lAt (0, ()) z3.1 z3.2.2.1], ())
 else none
 else none
 else none
 else j5 z3
 else none
 else j2 z3.2.2.2
noncomputable def sh49 (fuel : Nat) (x0 : Ty1) (x1 : List (Int × Unit)) (x2 : Int) : Option (Int × Ty1 × Unit) :=
 joinK sh49_K0 fun j2 => iter fuel (sh49_L3 j2) (x1, x2, 0, x0, [], ())
noncomputable def sp49 (x : Ty1 × (List (Int × Unit)) × (Int) × Unit) : Option (Int × Ty1 × Unit) := sh49 100000 x.1 x.2.1 x.2.2.1
/-! 23 (*baggage/baggagekeep.Src).strip -/
def g23 : Sig := ⟨[.bx ty1, .v (.ty (.int .i64)), .v (.ty (.int .i64)), .v (.ty (.sl (.cons (.int .i64) .nil))), .v (.ty (.sl (.cons (.int .i64) .nil)))], .v (.ag ty4)⟩
def h23 : HT := (nx (nx (nx (.j ⟨[(10, .ref 1000 5), (11, .ref 1001 5)], [(900000, .box b2), (1000, .box [.d .str, .d (.int .i64), .d (.int .i64), .d (.int .i64), .own 1002]), (1001, .box [.d .str, .d (.int .i64), .d (.int .i64), .d (.int .i64), .own 1003]), (1002, .arr (.cons (.int .i64) .nil)), (1003, .arr (.cons (.int .i64) .nil))], []⟩ (nx (.u (nx (.n (nx (.r .x)) (nx (.n (nx (nx (nx (.r .x)))) (.r .x))))))) (nx .e)))))
noncomputable def sh23_K3 (z3 : Ty1 × (List UInt8 × Int × Int × Int × Unit) × (List UInt8 × Int × Int × Int × Unit) × List (Int × Unit) × List (Int × Unit) × Unit) : Option (Ty4 × Ty1 × Unit) :=
 some ((z3.2.2.1.1, z3.2.2.1.2.1, z3.2.2.1.2.2.1, z3.2.2.1.2.2.2.1, z3.2.2.2.2), z3.1, ())
noncomputable def sh23 (fuel : Nat) (x0 : Ty1) (x1 : Int) (x2 : Int) (x3 : List (Int × Unit)) (x4 : List (Int × Unit)) : Option (Ty4 × Ty1 × Unit) :=
 (sp26 (x0, x3, ())).bind fun r0 =>
 (sp13 (r0.2.1, 1, 3, ())).bind fun r1 =>
 (sp49 (r1.2.1, x4, -1, ())).bind fun r2 =>
 joinK sh23_K3 fun j4 =>
 if (r0.1 == 5) = true then j4 (r2.2.1, ([], 0, 0, 0, ()), ([], r0.1, IntKind.i64.wrap (r1.1 + 1), x2, ()), [], [(x1, ()), (r2.1, ())], ())
 else
 if (r0.1 == 4) = true then
 (sp49 (r2.2.1, x4, r2.1, ())).bind fun r5 =>
 if decide (r5.1 < 0) = true then j4 (r5.2.1, ([], 0, 0, 0, ()), ([], 2, r1.1, x2, ()), [], [(r2.1, ())], ())
 else j4 (r5.2.1, ([], 0, 0, 0, ()), ([], r0.1, r1.1, x2, ()), [], [(r2.1, ()), (r5.1, ())], ())
 else j4 (r2.2.1, ([], 0, 0, 0, ()), ([], r0.1, r1.1, x2, ()), [], [(r2.1, ())], ())
noncomputable def sp23 (x : Ty1 × (Int) × (Int) × (List (Int × Unit)) × (List (Int × Unit)) × Unit) : Option (Ty4 × Ty1 × Unit) := sh23 0 x.1 x.2.1 x.2.2.1 x.2.2.2.1 x.2.2.2.2.1
/-! 25 (*baggage/baggagekeep.Src).devices -/
def g25 : Sig := ⟨[.bx ty1, .v (.ag ty7)], .own ty2⟩
def h25 : HT := (nx (nx (.j ⟨[(5, .own 1018)], [(900000, .box b2), (1018, .arr ty2)], []⟩ (nx (.u (.l ⟨[(0, .ref 900000 2), (3, .ref 1000 2), (5, .own 1001), (6, dI)], [(900000, .box b2), (1000, .box b0), (1001, .arr ty2)], []⟩ (.n (nx (.n .e .e)) (.j ⟨[(0, .ref 900000 2), (3, .ref 1014 2), (5, .own 1015), (6, dI)], [(900000, .box b2), (1014, .box b0), (1015, .arr ty2)], []⟩ (.u (nx (.u (.l ⟨[(0, .ref 900000 2), (3, .ref 1002 2), (5, .own 1003), (6, dI), (7, dI)], [(900000, .box b2), (1002, .box b0), (1003, .arr ty2)], []⟩ (.n (nx (.n .e .e)) (.j ⟨[(0, .ref 900000 2), (3, .ref 1010 2), (5, .own 1011), (6, dI), (7, dI)], [(900000, .box b2), (1010, .box b0), (1011, .arr ty2)], []⟩ (.u (nx (.j ⟨[(0, .ref 900000 2), (3, .ref 1006 2), (5, .own 1007), (6, dI), (7, dI)], [(900000, .box b2), (1006, .box b0), (1007, .arr ty2)], []⟩ (.j ⟨[(0, .ref 900000 2), (3, .ref 1004 2), (5, .own 1005), (6, dI), (7, dI), (54, dB)], [(900000, .box b2), (1004, .box b0), (1005, .arr ty2)], []⟩ (.r .x) (nx .e)) (.j ⟨[(0, .ref 900000 2), (3, .ref 1008 2), (5, .own 1009), (6, dI), (7, dI), (68, dB)], [(900000, .box b2), (1008, .box b0), (1009, .arr ty2)], []⟩ (.r .x) (nx .e))))) (.r .x))))))) (.r .x)))))) (nx .e))))
noncomputable def sh25_K0 (z0 : Ty1 × List Ty2 × Unit) : Option Tz3 :=
 some (z0.2.1, z0.1, ())
noncomputable def sh25_K3 (rc2 : Int × Ty1 × Ty7 × List Ty2 × Unit → Option Tz3) (z3 : Int × Ty1 × Ty7 × List Ty2 × Unit) : Option Tz3 :=
 rc2 (IntKind.i64.wrap (z3.1 + 1), z3.2)
noncomputable def sh25_K6 (rc5 : Int × Int × Ty1 × Ty7 × List Ty2 × Unit → Option Tz3) (z6 : Int × Int × Ty1 × Ty7 × List Ty2 × Unit) : Option Tz3 :=
 rc5 (z6.1, IntKind.i64.wrap (z6.2.1 + 1), z6.2.2)
noncomputable def sh25_K9 (j7 : Int × Int × Ty1 × Ty7 × List Ty2 × Unit → Option Tz3) (z9 : Int × Int × Bool × Ty1 × Ty7 × List Ty2 × Unit) : Option Tz3 :=
 if z9.2.2.1 = true then
 if decide (z9.2.2.2.2.2.1.length + 1 ≤ Abs.lim) = true then
 if decide ((z9.2.2.2.2.2.1.length + 1) * 24 ≤ Abs.lim) = true then
 j7 (z9.1, z9.2.1, z9.2.2.2.1, z9.2.2.2.2.1, z9.2.2.2.2.2.1 ++ [(1, z9.1, z9.2.1, ())], ())
 else none
 else none
 else j7 (z9.1, z9.2.1, z9.2.2.2)
noncomputable def sh25_K8 (j7 : Int × Int × Ty1 × Ty7 × List Ty2 × Unit → Option Tz3) (z8 : Int × Int × Ty1 × Ty7 × List Ty2 × Unit) : Option Tz3 :=
 joinK (sh25_K9 j7) fun j10 =>
 if decide ((↑z8.2.2.2.2.1.length : Int) < 24) = true then (sp18 (z8.2.2.1, 2, ())).bind fun r11 => j10 (z8.1, z8.2.1, r11.1 == 0, r11.2.1, z8.2.2.2)
 else j10 (z8.1, z8.2.1, false, z8.2.2)
noncomputable def sh25_K13 (j12 : Int × Int × Ty1 × Ty7 × List Ty2 × Unit → Option Tz3) (z13 : Int × Int × Bool × Ty1 × Ty7 × List Ty2 × Unit) : Option Tz3 :=
 if z13.2.2.1 = true then
 if decide (z13.2.2.2.2.2.1.length + 1 ≤ Abs.lim) = true then
 if decide ((z13.2.2.2.2.2.1.length + 1) * 24 ≤ Abs.lim) = true then
 j12 (z13.1, z13.2.1, z13.2.2.2.1, z13.2.2.2.2.1, z13.2.2.2.2.2.1 ++ [(2, z13.1, z13.2.1, ())], ())
 else none
 else none
 else j12 (z13.1, z13.2.1, z13.2.2.2)
noncomputable def sh25_L5 (j4 : Int × Ty1 × Ty7 × List Ty2 × Unit → Option Tz3) (rc5 : Int × Int × Ty1 × Ty7 × List Ty2 × Unit → Option Tz3) (z5 : Int × Int × Ty1 × Ty7 × List Ty2 × Unit) : Option Tz3 :=
 if inR z5.1 z5.2.2.2.1.1.length = true then
 if decide (z5.2.1 < (lAt ([], 0, 0, 0, [], ()) z5.2.2.2.1.1 z5.1).2.2.1) = true then
 joinK (sh25_K6 rc5) fun j7 =>
 if inR z5.1 z5.2.2.2.1.1.length = true then
 joinK (sh25_K8 j7) fun j12 =>
 joinK (sh25_K13 j12) fun j14 =>
 if decide ((↑z5.2.2.2.2.1.length : Int) < 24) = true then
 (sp18 (z5.2.2.1, 3, ())).bind fun r15 =>
 if (r15.1 == 0) = true then j14 (z5.1, z5.2.1, true, r15.2.1, z5.2.2.2)
 else
 if (z5.2.1 == IntKind.i64.wrap ((lAt ([], 0, 0, 0, [], ()) z5.2.2.2.1.1 z5.1).2.2.1 - 1)) = true then
 if inR z5.1 z5.2.2.2.1.1.length = true then
 j14 (z5.1, z5.2.1, (lAt ([], 0, 0, 0, [], ()) z5.2.2.2.1.1 z5.1).2.1 == 6, r15.2.1, z5.2.2.2)
 else none
 else j14 (z5.1, z5.2.1, false, r15.2.1, z5.2.2.2)
 else j14 (z5.1, z5.2.1, false, z5.2.2)
 else none
 else j4 (z5.1, z5.2.2)
 else none
noncomputable def sh25_L2 (fuel : Nat) (j1 : Ty1 × List Ty2 × Unit → Option Tz3) (rc2 : Int × Ty1 × Ty7 × List Ty2 × Unit → Option Tz3) (z2 : Int × Ty1 × Ty7 × List Ty2 × Unit) : Option Tz3 :=
 if decide (z2.1 < (↑z2.2.2.1.1.length : Int)) = true then joinK (sh25_K3 rc2) fun j4 => iter fuel (sh25_L5 j4) (z2.1, 0, z2.2)
 else j1 (z2.2.1, z2.2.2.2)
noncomputable def sh25 (fuel : Nat) (x0 : Ty1) (x1 : Ty7) : Option Tz3 :=
 joinK sh25_K0 fun j1 => iter fuel (sh25_L2 fuel j1) (0, x0, x1, [], ())
noncomputable def sp25 (x : Ty1 × Ty7 × Unit) : Option Tz3 := sh25 100000 x.1 x.2.1
/-! 9 (*baggage/baggagekeep.Src).Layout -/
def g9 : Sig := ⟨[.bx ty1], .v (.ag ty7)⟩
def h9 : HT := (nx (nx (nx (nx (nx (.j ⟨[(0, .ref 900000 2), (2, .ref 1073 2), (7, dI), (9, .ref 1074 2)], [(900000, .box b2), (1073, .box [.own 1075, .own 1076]), (1074, .box [.own 1077, .own 1078]), (1075, .arr ty4), (1076, .arr ty2), (1077, .arr ty4), (1078, .arr ty2)], []⟩ (nx (.u (.l ⟨[(0, .ref 900000 2), (2, .ref 1000 2), (4, dI), (6, dI), (7, dI), (8, dI), (9, .ref 1001 2), (10, dI)], [(900000, .box b2), (1000, .box [.own 1002, .own 1003]), (1001, .box [.own 1004, .own 1005]), (1002, .arr ty4), (1003, .arr ty2), (1004, .arr ty4), (1005, .arr ty2)], []⟩ (.n (nx (.n .e .e)) (.j ⟨[(0, .ref 900000 2), (2, .ref 1061 2), (4, dI), (6, dI), (7, dI), (8, dI), (9, .ref 1062 2), (10, dI)], [(900000, .box b2), (1061, .box [.own 1063, .own 1064]), (1062, .box [.own 1065, .own 1066]), (1063, .arr ty4), (1064, .arr ty2), (1065, .arr ty4), (1066, .arr ty2)], []⟩ (.u (nx (.j ⟨[(0, .ref 900000 2), (2, .ref 1022 2), (4, dI), (6, dI), (7, dI), (8, dI), (9, .ref 1023 2), (10, dI), (11, .own 1024), (12, .own 1025)], [(900000, .box b2), (1022, .box [.own 1026, .own 1027]), (1023, .box [.own 1028, .own 1029]), (1024, .arr (.cons (.int .i64) .nil)), (1025, .arr (.cons (.int .i64) .nil)), (1026, .arr ty4), (1027, .arr ty2), (1028, .arr ty4), (1029, .arr ty2)], []⟩ (nx (.u (.l ⟨[(0, .ref 900000 2), (2, .ref 1006 2), (4, dI), (6, dI), (7, dI), (8, dI), (9, .ref 1007 2), (10, dI), (11, .own 1008), (12, .own 1009), (13, dI)], [(900000, .box b2), (1006, .box [.own 1010, .own 1011]), (1007, .box [.own 1012, .own 1013]), (1008, .arr (.cons (.int .i64) .nil)), (1009, .arr (.cons (.int .i64) .nil)), (1010, .arr ty4), (1011, .arr ty2), (1012, .arr ty4), (1013, .arr ty2)], []⟩ (.n (nx (.n .e .e)) (.n (.u (.r .x)) (.r .x)))))) (nx (.j ⟨[(0, .ref 900000 2), (2, .ref 1046 2), (4, dI), (6, dI), (7, dI), (8, dI), (9, .ref 1047 2), (10, dI), (11, .own 1048), (12, .own 1049)], [(900000, .box b2), (1046, .box [.own 1050, .own 1051]), (1047, .box [.own 1052, .own 1053]), (1048, .arr (.cons (.int .i64) .nil)), (1049, .arr (.cons (.int .i64) .nil)), (1050, .arr ty4), (1051, .arr ty2), (1052, .arr ty4), (1053, .arr ty2)], []⟩ (nx (.u (.l ⟨[(0, .ref 900000 2), (2, .ref 1030 2), (4, dI), (6, dI), (7, dI), (8, dI), (9, .ref 1031 2), (10, dI), (11, .own 1032), (12, .own 1033), (14, dI)], [(900000, .box b2), (1030, .box [.own 1034, .own 1035]), (1031, .box [.own 1036, .own 1037]), (1032, .arr (.cons (.int .i64) .nil)), (1033, .arr (.cons (.int .i64) .nil)), (1034, .arr ty4), (1035, .arr ty2), (1036, .arr ty4), (1037, .arr ty2)], []⟩ (.n (nx (.n .e .e)) (.n (.u (.r .x)) (.r .x)))))) (nx (nx (.j ⟨[(0, .ref 900000 2), (2, .ref 1054 2), (4, dI), (6, dI), (7, dI), (8, dI), (9, .ref 1055 2), (10, dI), (15, .ref 1056 5)], [(900000, .box b2), (1054, .box [.own 1057, .own 1058]), (1055, .box [.own 1059, .own 1060]), (1056, .box b3), (1057, .arr ty4), (1058, .arr ty2), (1059, .arr ty4), (1060, .arr ty2)], []⟩ (.u (nx (nx (nx (nx (nx (nx (nx (.n (nx (nx (nx .e))) (nx (nx (.r .x)))))))))))) (nx (.r .x)))))))))) (.r .x)))))) (.j ⟨[(0, .ref 900000 2), (2, .ref 1103 2), (9, .ref 1104 2)], [(900000, .box b2), (1103, .box [.own 1105, .own 1106]), (1104, .box [.own 1107, .own 1108]), (1105, .arr ty4), (1106, .arr ty2), (1107, .arr ty4), (1108, .arr ty2)], []⟩ (nx (.n (nx (.u (.l ⟨[(0, .ref 900000 2), (2, .ref 1079 2), (7, dI), (9, .ref 1080 2), (16, dI)], [(900000, .box b2), (1079, .box [.own 1081, .own 1082]), (1080, .box [.own 1083, .own 1084]), (1081, .arr ty4), (1082, .arr ty2), (1083, .arr ty4), (1084, .arr ty2)], []⟩ (.n (nx (.n .e .e)) (.j ⟨[(0, .ref 900000 2), (2, .ref 1091 2), (7, dI), (9, .ref 1092 2), (16, dI)], [(900000, .box b2), (1091, .box [.own 1093, .own 1094]), (1092, .box [.own 1095, .own 1096]), (1093, .arr ty4), (1094, .arr ty2), (1095, .arr ty4), (1096, .arr ty2)], []⟩ (.u (.j ⟨[(0, .ref 900000 2), (2, .ref 1085 2), (7, dI), (9, .ref 1086 2), (16, dI), (167, dB)], [(900000, .box b2), (1085, .box [.own 1087, .own 1088]), (1086, .box [.own 1089, .own 1090]), (1087, .arr ty4), (1088, .arr ty2), (1089, .arr ty4), (1090, .arr ty2)], []⟩ (.r .x) (.n (.r (.w 14 [(0, 0), (0, 1), (1, 2), (1, 3), (1, 4), (0, 6), (0, 7), (1, 8), (0, 9), (0, 10), (0, 11), (1, 12), (3, 5), (2, 13)])) .e))) (.r .x)))))) .e)) (nx (nx .e)))))))))
noncomputable def sh9_K4 (z4 : Ty1 × Unit × Unit × List Ty4 × List Ty2 × List Ty4 × List Ty2 × Unit) : Option
 (Ty7 × Ty1 × Unit) :=
 (sp25 (z4.1, z4.2.2.2.2.2, ())).bind fun r5 => some ((z4.2.2.2.2.2.1, r5.1, ()), r5.2)
noncomputable def sh9_K9 (rc8 : Int × Int × Ty1 × Unit × Unit × List Ty4 × List Ty2 × List Ty4 × List Ty2 × Unit → Option
 (Ty7 × Ty1 × Unit)) (z9 : Int × Int × Ty1 × Unit × Unit × List Ty4 × List Ty2 × List Ty4 × List Ty2 × Unit) : Option
 (Ty7 × Ty1 × Unit) :=
 rc8 (z9.1, IntKind.i64.wrap (z9.2.1 + 1), z9.2.2.1, (), (), z9.2.2.2.2.2)
noncomputable def sh9_K11 (j10 : Int × Int × Ty1 × Unit × Unit × List Ty4 × List Ty2 × List Ty4 × List Ty2 × Unit → Option
 (Ty7 × Ty1 × Unit)) (z11 : Int × Int × Bool × Ty1 × Unit × Unit × List Ty4 × List Ty2 × List Ty4 × List Ty2 × Unit) : Option
 (Ty7 × Ty1 × Unit) :=
 if z11.2.2.1 = true then
 if inR z11.2.1 z11.2.2.2.2.2.2.2.2.1.length = true then
 if decide (z11.2.1.toNat + 1 ≤ z11.2.2.2.2.2.2.2.2.1.length) = true then
 if
 inCut 1 (↑(List.length (z11.2.2.2.2.2.2.2.2.1.getD z11.2.1.toNat ([], 0, 0, 0, [], ())).2.2.2.2.1) : Int)
 (List.length (z11.2.2.2.2.2.2.2.2.1.getD z11.2.1.toNat ([], 0, 0, 0, [], ())).2.2.2.2.1) =
 true then
 if
 decide
 ([(IntKind.i64.wrap (z11.2.1 + 1), ())].length +
 (cutL (z11.2.2.2.2.2.2.2.2.1.getD z11.2.1.toNat ([], 0, 0, 0, [], ())).2.2.2.2.1 1
 (↑(List.length (z11.2.2.2.2.2.2.2.2.1.getD z11.2.1.toNat ([], 0, 0, 0, [], ())).2.2.2.2.1) : Int)).length ≤
 Abs.lim) =
 true then
 if
 decide
 (([(IntKind.i64.wrap (z11.2.1 + 1), ())].length +
 (cutL (z11.2.2.2.2.2.2.2.2.1.getD z11.2.1.toNat ([], 0, 0, 0, [], ())).2.2.2.2.1 1
 (↑(List.length (z11.2.2.2.2.2.2.2.2.1.getD z11.2.1.toNat ([], 0, 0, 0, [], ())).2.2.2.2.1) : Int)).length) *
 8 ≤
 Abs.lim) =
 true then
 if inR z11.2.1 z11.2.2.2.2.2.2.2.2.1.length = true then
 if decide (z11.2.1.toNat + 1 ≤ z11.2.2.2.2.2.2.2.2.1.length) = true then
 j10
 (z11.1, z11.2.1, z11.2.2.2.1, (), (), z11.2.2.2.2.2.2.1, z11.2.2.2.2.2.2.2.1,
 z11.2.2.2.2.2.2.2.2.1.set z11.2.1.toNat
 ((z11.2.2.2.2.2.2.2.2.1.getD z11.2.1.toNat ([], 0, 0, 0, [], ())).1,
 (z11.2.2.2.2.2.2.2.2.1.getD z11.2.1.toNat ([], 0, 0, 0, [], ())).2.1,
 (z11.2.2.2.2.2.2.2.2.1.getD z11.2.1.toNat ([], 0, 0, 0, [], ())).2.2.1,
 (z11.2.2.2.2.2.2.2.2.1.getD z11.2.1.toNat ([], 0, 0, 0, [], ())).2.2.2.1,
 [(IntKind.i64.wrap (z11.2.1 + 1), ())] ++
 cutL (z11.2.2.2.2.2.2.2.2.1.getD z11.2.1.toNat ([], 0, 0, 0, [], ())).2.2.2.2.1 1
 (↑(List.length (z11.2.2.2.2.2.2.2.2.1.getD z11.2.1.toNat ([], 0, 0, 0, [], ())).2.2.2.2.1) : Int),
 ()),
 z11.2.2.2.2.2.2.2.2.2)
 else none
 else none
 else none
 else none
 else none
 else none
 else none
 else j10 (z11.1, z11.2.1, z11.2.2.2.1, (), (), z11.2.2.2.2.2.2)
noncomputable def sh9_L8 (j6 : Ty1 × Unit × Unit × List Ty4 × List Ty2 × List Ty4 × List Ty2 × Unit → Option
 (Ty7 × Ty1 × Unit)) (rc8 : Int × Int × Ty1 × Unit × Unit × List Ty4 × List Ty2 × List Ty4 × List Ty2 × Unit → Option
 (Ty7 × Ty1 × Unit)) (z8 : Int × Int × Ty1 × Unit × Unit × List Ty4 × List Ty2 × List Ty4 × List Ty2 × Unit) : Option
 (Ty7 × Ty1 × Unit) :=
 if decide (z8.2.1 < z8.1) = true then
 joinK (sh9_K9 rc8) fun j10 =>
 joinK (sh9_K11 j10) fun j12 =>
 if inR z8.2.1 z8.2.2.2.2.2.2.2.1.length = true then
 if decide (z8.2.1.toNat + 1 ≤ z8.2.2.2.2.2.2.2.1.length) = true then
 if ((z8.2.2.2.2.2.2.2.1.getD z8.2.1.toNat ([], 0, 0, 0, [], ())).2.1 != 5) = true then
 if inR z8.2.1 z8.2.2.2.2.2.2.2.1.length = true then
 if decide (z8.2.1.toNat + 1 ≤ z8.2.2.2.2.2.2.2.1.length) = true then
 (sp24 ((z8.2.2.2.2.2.2.2.1.getD z8.2.1.toNat ([], 0, 0, 0, [], ())).2.2.2.2.1, IntKind.i64.wrap (z8.2.1 + 1), ())).bind fun r13 =>
 j12 (z8.1, z8.2.1, !r13.1, z8.2.2.1, (), (), z8.2.2.2.2.2)
 else none
 else none
 else j12 (z8.1, z8.2.1, false, z8.2.2.1, (), (), z8.2.2.2.2.2)
 else none
 else none
 else j6 (z8.2.2.1, (), (), z8.2.2.2.2.2)
noncomputable def sh9_K3 (fuel : Nat) (z3 : Int × Ty1 × Unit × Unit × List Ty4 × List Ty2 × List Ty4 × List Ty2 × Unit) : Option
 (Ty7 × Ty1 × Unit) :=
 joinK sh9_K4 fun j6 =>
 (sp18 (z3.2.1, 4, ())).bind fun r7 =>
 if decide (0 < r7.1) = true then iter fuel (sh9_L8 j6) (z3.1, 0, r7.2.1, (), (), z3.2.2.2.2) else j6 (r7.2.1, (), (), z3.2.2.2.2)
noncomputable def sh9_K16 (rc15 : Int × Int × Int × Int × Int × Ty1 × Unit × Unit × List Ty4 × List Ty2 × List Ty4 × List Ty2 × Unit → Option
 (Ty7 × Ty1 × Unit)) (z16 : Int × Int × Int × Int × Int × Ty1 × Unit × Unit × List Ty4 × List Ty2 × List Ty4 × List Ty2 × Unit) : Option
 (Ty7 × Ty1 × Unit) :=
 rc15 (z16.1, z16.2.1, z16.2.2.1, z16.2.2.2.1, IntKind.i64.wrap (z16.2.2.2.2.1 + 1), z16.2.2.2.2.2.1, (), (), z16.2.2.2.2.2.2.2.2)
noncomputable def sh9_K20 (j17 : Int × Int × Int × Int × Int × Ty1 × Unit × Unit × List Ty4 × List Ty2 × List Ty4 × List Ty2 × Unit → Option
 (Ty7 × Ty1 × Unit)) (z20 : Int × Int × Int × Int × Int × Ty1 × Unit × Unit × Ty4 × List Ty4 × List Ty2 × List Ty4 × List Ty2 × Unit) : Option
 (Ty7 × Ty1 × Unit) :=
 if
 decide
 (z20.2.2.2.2.2.2.2.2.2.2.2.1.length +
 [(toBytes [(IntKind.u8.wrap (IntKind.i64.wrap (65 + z20.2.2.2.2.1)), ())], z20.2.2.2.2.2.2.2.2.1.2)].length ≤
 Abs.lim) =
 true then
 if
 decide
 ((z20.2.2.2.2.2.2.2.2.2.2.2.1.length +
 [(toBytes [(IntKind.u8.wrap (IntKind.i64.wrap (65 + z20.2.2.2.2.1)), ())], z20.2.2.2.2.2.2.2.2.1.2)].length) *
 64 ≤
 Abs.lim) =
 true then
 j17
 (z20.1, z20.2.1, z20.2.2.1, z20.2.2.2.1, z20.2.2.2.2.1, z20.2.2.2.2.2.1, (), (), z20.2.2.2.2.2.2.2.2.2.1, z20.2.2.2.2.2.2.2.2.2.2.1,
 z20.2.2.2.2.2.2.2.2.2.2.2.1 ++ [(toBytes [(IntKind.u8.wrap (IntKind.i64.wrap (65 + z20.2.2.2.2.1)), ())], z20.2.2.2.2.2.2.2.2.1.2)],
 z20.2.2.2.2.2.2.2.2.2.2.2.2)
 else none
 else none
noncomputable def sh9_K19 (j17 : Int × Int × Int × Int × Int × Ty1 × Unit × Unit × List Ty4 × List Ty2 × List Ty4 × List Ty2 × Unit → Option
 (Ty7 × Ty1 × Unit)) (z19 : Int × Int × Int × Int × Int × Ty1 × Unit × Unit × List (Int × Unit) × List (Int × Unit) × List Ty4 × List Ty2 × List Ty4 × List Ty2 × Unit) : Option
 (Ty7 × Ty1 × Unit) :=
 if decide (z19.2.2.2.2.2.2.2.2.2.1.length + 1 ≤ Abs.lim) = true then
 if decide ((z19.2.2.2.2.2.2.2.2.2.1.length + 1) * 8 ≤ Abs.lim) = true then
 joinK (sh9_K20 j17) fun j21 =>
 if (z19.2.2.2.2.1 == 0) = true then
 (sp23 (z19.2.2.2.2.2.1, z19.2.2.2.2.1, 0, [(1, ())], z19.2.2.2.2.2.2.2.2.1, ())).bind fun r22 =>
 j21 (z19.1, z19.2.1, z19.2.2.1, z19.2.2.2.1, z19.2.2.2.2.1, r22.2.1, (), (), r22.1, z19.2.2.2.2.2.2.2.2.2.2)
 else
 if decide (z19.2.2.2.2.1 < z19.2.2.1) = true then
 (sp23 (z19.2.2.2.2.2.1, z19.2.2.2.2.1, 0, [(2, ()), (3, ()), (4, ()), (5, ()), (3, ())], z19.2.2.2.2.2.2.2.2.1, ())).bind fun r23 =>
 j21 (z19.1, z19.2.1, z19.2.2.1, z19.2.2.2.1, z19.2.2.2.2.1, r23.2.1, (), (), r23.1, z19.2.2.2.2.2.2.2.2.2.2)
 else
 if (z19.2.2.2.2.1 == z19.2.2.1) = true then
 (sp13 (z19.2.2.2.2.2.1, 1, 3, ())).bind fun r24 =>
 (sp18 (r24.2.1, (↑(z19.2.2.2.2.2.2.2.2.2.1 ++ [(IntKind.i64.wrap (z19.2.1 - 1), ())]).length : Int), ())).bind fun r25 =>
 if inR r25.1 (z19.2.2.2.2.2.2.2.2.2.1 ++ [(IntKind.i64.wrap (z19.2.1 - 1), ())]).length = true then
 if decide (r25.1.toNat + 1 ≤ (z19.2.2.2.2.2.2.2.2.2.1 ++ [(IntKind.i64.wrap (z19.2.1 - 1), ())]).length) = true then
 j21
 (z19.1, z19.2.1, z19.2.2.1, z19.2.2.2.1, z19.2.2.2.2.1, r25.2.1, (), (),
 ([], 6, r24.1, 0,
 [(z19.2.2.2.1, ()), (z19.2.2.2.2.2.2.2.2.2.1 ++ [(IntKind.i64.wrap (z19.2.1 - 1), ())]).getD r25.1.toNat (0, ())], ()),
 z19.2.2.2.2.2.2.2.2.2.2)
 else none
 else none
 else
 if decide (z19.2.2.2.2.1 < IntKind.i64.wrap (IntKind.i64.wrap (z19.2.2.1 + 1) + z19.1)) = true then
 (sp23
 (z19.2.2.2.2.2.1, z19.2.2.2.2.1, 1, [(2, ()), (4, ()), (5, ()), (7, ())],
 z19.2.2.2.2.2.2.2.2.2.1 ++ [(IntKind.i64.wrap (z19.2.1 - 1), ())], ())).bind
 fun r26 =>
 if (r26.1.2.1 == 7) = true then
 j21
 (z19.1, z19.2.1, z19.2.2.1, z19.2.2.2.1, z19.2.2.2.2.1, r26.2.1, (), (), (r26.1.1, r26.1.2.1, 0, r26.1.2.2.2),
 z19.2.2.2.2.2.2.2.2.2.2)
 else j21 (z19.1, z19.2.1, z19.2.2.1, z19.2.2.2.1, z19.2.2.2.2.1, r26.2.1, (), (), r26.1, z19.2.2.2.2.2.2.2.2.2.2)
 else
 if decide (z19.2.2.2.2.1 < z19.2.2.2.1) = true then
 j21 (z19.1, z19.2.1, z19.2.2.1, z19.2.2.2.1, z19.2.2.2.2.1, z19.2.2.2.2.2.1, (), (), ([], 8, 0, 1, [], ()), z19.2.2.2.2.2.2.2.2.2.2)
 else
 j21
 (z19.1, z19.2.1, z19.2.2.1, z19.2.2.2.1, z19.2.2.2.2.1, z19.2.2.2.2.2.1, (), (),
 ([], 9, 0, IntKind.i64.wrap (z19.2.2.2.2.1 - z19.2.2.2.1), [], ()), z19.2.2.2.2.2.2.2.2.2.2)
 else none
 else none
noncomputable def sh9_L28 (j27 : Int × Int × Int × Int × Int × Ty1 × Unit × Unit × List (Int × Unit) × List (Int × Unit) × List Ty4 × List Ty2 × List Ty4 × List Ty2 × Unit → Option
 (Ty7 × Ty1 × Unit)) (rc28 : Int × Int × Int × Int × Int × Int × Ty1 × Unit × Unit × List (Int × Unit) × List (Int × Unit) × List Ty4 × List Ty2 × List Ty4 × List Ty2 × Unit → Option
 (Ty7 × Ty1 × Unit)) (z28 : Int × Int × Int × Int × Int × Int × Ty1 × Unit × Unit × List (Int × Unit) × List (Int × Unit) × List Ty4 × List Ty2 × List Ty4 × List Ty2 × Unit) : Option
 (Ty7 × Ty1 × Unit) :=
 if decide (z28.2.2.2.2.2.1 < z28.2.2.2.1) = true then
 if decide (z28.2.2.2.2.2.2.2.2.2.2.1.length + 1 ≤ Abs.lim) = true then
 if decide ((z28.2.2.2.2.2.2.2.2.2.2.1.length + 1) * 8 ≤ Abs.lim) = true then
 rc28
 (z28.1, z28.2.1, z28.2.2.1, z28.2.2.2.1, z28.2.2.2.2.1, IntKind.i64.wrap (z28.2.2.2.2.2.1 + 1), z28.2.2.2.2.2.2.1, (), (),
 z28.2.2.2.2.2.2.2.2.2.1, z28.2.2.2.2.2.2.2.2.2.2.1 ++ [(z28.2.2.2.2.2.1, ())], z28.2.2.2.2.2.2.2.2.2.2.2)
 else none
 else none
 else j27 (z28.1, z28.2.1, z28.2.2.1, z28.2.2.2.1, z28.2.2.2.2.1, z28.2.2.2.2.2.2.1, (), (), z28.2.2.2.2.2.2.2.2.2)
noncomputable def sh9_K18 (fuel : Nat) (j17 : Int × Int × Int × Int × Int × Ty1 × Unit × Unit × List Ty4 × List Ty2 × List Ty4 × List Ty2 × Unit → Option
 (Ty7 × Ty1 × Unit)) (z18 : Int × Int × Int × Int × Int × Ty1 × Unit × Unit × List (Int × Unit) × List (Int × Unit) × List Ty4 × List Ty2 × List Ty4 × List Ty2 × Unit) : Option
 (Ty7 × Ty1 × Unit) :=
 if decide (z18.2.2.2.2.2.2.2.2.1.length + 1 ≤ Abs.lim) = true then
 if decide ((z18.2.2.2.2.2.2.2.2.1.length + 1) * 8 ≤ Abs.lim) = true then
 joinK (sh9_K19 j17) fun j27 =>
 iter fuel (sh9_L28 j27)
 (z18.1, z18.2.1, z18.2.2.1, z18.2.2.2.1, z18.2.2.2.2.1,
 IntKind.i64.wrap ((if z18.2.2.1 > z18.2.2.2.2.1 then z18.2.2.1 else z18.2.2.2.2.1) + 1), z18.2.2.2.2.2.1, (), (),
 z18.2.2.2.2.2.2.2.2.1 ++ [(z18.2.2.2.1, ())], z18.2.2.2.2.2.2.2.2.2)
 else none
 else none
noncomputable def sh9_L30 (j29 : Int × Int × Int × Int × Int × Ty1 × Unit × Unit × List (Int × Unit) × List (Int × Unit) × List Ty4 × List Ty2 × List Ty4 × List Ty2 × Unit → Option
 (Ty7 × Ty1 × Unit)) (rc30 : Int × Int × Int × Int × Int × Int × Ty1 × Unit × Unit × List (Int × Unit) × List (Int × Unit) × List Ty4 × List Ty2 × List Ty4 × List Ty2 × Unit → Option
 (Ty7 × Ty1 × Unit)) (z30 : Int × Int × Int × Int × Int × Int × Ty1 × Unit × Unit × List (Int × Unit) × List (Int × Unit) × List Ty4 × List Ty2 × List Ty4 × List Ty2 × Unit) : Option
 (Ty7 × Ty1 × Unit) :=
 if decide (z30.2.2.2.2.2.1 ≤ z30.2.2.1) = true then
 if decide (z30.2.2.2.2.2.2.2.2.2.1.length + 1 ≤ Abs.lim) = true then
 if decide ((z30.2.2.2.2.2.2.2.2.2.1.length + 1) * 8 ≤ Abs.lim) = true then
 rc30
 (z30.1, z30.2.1, z30.2.2.1, z30.2.2.2.1, z30.2.2.2.2.1, IntKind.i64.wrap (z30.2.2.2.2.2.1 + 1), z30.2.2.2.2.2.2.1, (), (),
 z30.2.2.2.2.2.2.2.2.2.1 ++ [(z30.2.2.2.2.2.1, ())], z30.2.2.2.2.2.2.2.2.2.2)
 else none
 else none
 else j29 (z30.1, z30.2.1, z30.2.2.1, z30.2.2.2.1, z30.2.2.2.2.1, z30.2.2.2.2.2.2.1, (), (), z30.2.2.2.2.2.2.2.2.2)
noncomputable def sh9_L15 (fuel : Nat) (j14 : Int × Ty1 × Unit × Unit × List Ty4 × List Ty2 × List Ty4 × List Ty2 × Unit → Option
 (Ty7 × Ty1 × Unit)) (rc15 : Int × Int × Int × Int × Int × Ty1 × Unit × Unit × List Ty4 × List Ty2 × List Ty4 × List Ty2 × Unit → Option
 (Ty7 × Ty1 × Unit)) (z15 : Int × Int × Int × Int × Int × Ty1 × Unit × Unit × List Ty4 × List Ty2 × List Ty4 × List Ty2 × Unit) : Option
 (Ty7 × Ty1 × Unit) :=
 if decide (z15.2.2.2.2.1 < z15.2.1) = true then
 joinK (sh9_K16 rc15) fun j17 =>
 joinK (sh9_K18 fuel j17) fun j29 =>
 iter fuel (sh9_L30 j29)
 (z15.1, z15.2.1, z15.2.2.1, z15.2.2.2.1, z15.2.2.2.2.1, IntKind.i64.wrap (z15.2.2.2.2.1 + 1), z15.2.2.2.2.2.1, (), (), [], [],
 z15.2.2.2.2.2.2.2.2)
 else j14 (z15.2.2.1, z15.2.2.2.2.2.1, (), (), z15.2.2.2.2.2.2.2.2)
noncomputable def sh9 (fuel : Nat) (x0 : Ty1) : Option
 (Ty7 × Ty1 × Unit) :=
 (sp13 (x0, 1, 3, ())).bind fun r0 =>
 (sp13 (r0.2.1, 0, 3, ())).bind fun r1 =>
 (sp13 (r1.2.1, 1, 2, ())).bind fun r2 =>
 joinK (sh9_K3 fuel) fun j14 =>
 iter fuel (sh9_L15 fuel j14)
 (r1.1, IntKind.i64.wrap (IntKind.i64.wrap (IntKind.i64.wrap (IntKind.i64.wrap (r0.1 + 1) + r1.1) + r2.1) + 2), r0.1,
 IntKind.i64.wrap (IntKind.i64.wrap (IntKind.i64.wrap (IntKind.i64.wrap (IntKind.i64.wrap (r0.1 + 1) + r1.1) + r2.1) + 2) - 2), 0, r2.2.1,
 (), (), [], [], [], [], ())
noncomputable def sp9 (x : Ty1 × Unit) : Option
 (Ty7 × Ty1 × Unit) := sh9 100000 x.1
/-! 10 (*baggage/baggagekeep.Src).Plant -/
def g10 : Sig := ⟨[.bx ty1, .v (.ag ty7), .v (.ty (.int .i64))], .v (.ag ty5)⟩
def h10 : HT := (nx (nx (nx (.j ⟨[(6, .ref 1097 2), (7, .ref 1098 2)], [(900000, .box b2), (1097, .box [.own 1099, .own 1100]), (1098, .box [.own 1101, .own 1102]), (1099, .arr (.cons (.sl (.cons (.int .i64) .nil)) .nil)), (1100, .arr (.cons (.sl (.cons (.int .i64) .nil)) .nil)), (1101, .arr (.cons (.sl (.cons (.int .i64) .nil)) .nil)), (1102, .arr (.cons (.sl (.cons (.int .i64) .nil)) .nil))], []⟩ (nx (.u (.l ⟨[(0, .ref 900000 2), (2, dI), (4, .ref 1000 2), (6, .ref 1001 2), (7, .ref 1002 2), (8, dI), (9, dI)], [(900000, .box b2), (1000, .box b0), (1001, .box [.own 1003, .own 1004]), (1002, .box [.own 1005, .own 1006]), (1003, .arr (.cons (.sl (.cons (.int .i64) .nil)) .nil)), (1004, .arr (.cons (.sl (.cons (.int .i64) .nil)) .nil)), (1005, .arr (.cons (.sl (.cons (.int .i64) .nil)) .nil)), (1006, .arr (.cons (.sl (.cons (.int .i64) .nil)) .nil))], []⟩ (.n (nx (.n .e .e)) (.j ⟨[(0, .ref 900000 2), (2, dI), (4, .ref 1083 2), (6, .ref 1084 2), (7, .ref 1085 2), (8, dI), (9, dI)], [(900000, .box b2), (1083, .box b0), (1084, .box [.own 1086, .own 1087]), (1085, .box [.own 1088, .own 1089]), (1086, .arr (.cons (.sl (.cons (.int .i64) .nil)) .nil)), (1087, .arr (.cons (.sl (.cons (.int .i64) .nil)) .nil)), (1088, .arr (.cons (.sl (.cons (.int .i64) .nil)) .nil)), (1089, .arr (.cons (.sl (.cons (.int .i64) .nil)) .nil))], []⟩ (.u (nx (nx (nx (nx (.j ⟨[(0, .ref 900000 2), (2, dI), (4, .ref 1007 2), (6, .ref 1008 2), (7, .ref 1009 2), (8, dI), (9, dI), (10, .ref 1010 5), (11, .own 1011), (12, .own 1012), (13, dI)], [(900000, .box b2), (1007, .box b0), (1008, .box [.own 1013, .own 1014]), (1009, .box [.own 1015, .own 1016]), (1010, .box b3), (1011, .arr (.cons (.int .i64) .nil)), (1012, .arr (.cons (.int .i64) .nil)), (1013, .arr (.cons (.sl (.cons (.int .i64) .nil)) .nil)), (1014, .arr (.cons (.sl (.cons (.int .i64) .nil)) .nil)), (1015, .arr (.cons (.sl (.cons (.int .i64) .nil)) .nil)), (1016, .arr (.cons (.sl (.cons (.int .i64) .nil)) .nil))], []⟩ (nx (nx .e)) (.j ⟨[(0, .ref 900000 2), (2, dI), (4, .ref 1057 2), (6, .ref 1058 2), (7, .ref 1059 2), (8, dI), (9, dI), (10, .ref 1060 5), (11, .own 1061), (12, .own 1062)], [(900000, .box b2), (1057, .box b0), (1058, .box [.own 1063, .own 1064]), (1059, .box [.own 1065, .own 1066]), (1060, .box b3), (1061, .arr (.cons (.int .i64) .nil)), (1062, .arr (.cons (.int .i64) .nil)), (1063, .arr (.cons (.sl (.cons (.int .i64) .nil)) .nil)), (1064, .arr (.cons (.sl (.cons (.int .i64) .nil)) .nil)), (1065, .arr (.cons (.sl (.cons (.int .i64) .nil)) .nil)), (1066, .arr (.cons (.sl (.cons (.int .i64) .nil)) .nil))], []⟩ (nx (.u (.l ⟨[(0, .ref 900000 2), (2, dI), (4, .ref 1017 2), (6, .ref 1018 2), (7, .ref 1019 2), (8, dI), (9, dI), (10, .ref 1020 5), (11, .own 1021), (12, .own 1022), (13, dI), (14, dI)], [(900000, .box b2), (1017, .box b0), (1018, .box [.own 1023, .own 1024]), (1019, .box [.own 1025, .own 1026]), (1020, .box b3), (1021, .arr (.cons (.int .i64) .nil)), (1022, .arr (.cons (.int .i64) .nil)), (1023, .arr (.cons (.sl (.cons (.int .i64) .nil)) .nil)), (1024, .arr (.cons (.sl (.cons (.int .i64) .nil)) .nil)), (1025, .arr (.cons (.sl (.cons (.int .i64) .nil)) .nil)), (1026, .arr (.cons (.sl (.cons (.int .i64) .nil)) .nil))], []⟩ (.n (nx (.n .e .e)) (.j ⟨[(0, .ref 900000 2), (2, dI), (4, .ref 1037 2), (6, .ref 1038 2), (7, .ref 1039 2), (8, dI), (9, dI), (10, .ref 1040 5), (11, .own 1041), (12, .own 1042), (13, dI), (14, dI)], [(900000, .box b2), (1037, .box b0), (1038, .box [.own 1043, .own 1044]), (1039, .box [.own 1045, .own 1046]), (1040, .box b3), (1041, .arr (.cons (.int .i64) .nil)), (1042, .arr (.cons (.int .i64) .nil)), (1043, .arr (.cons (.sl (.cons (.int .i64) .nil)) .nil)), (1044, .arr (.cons (.sl (.cons (.int .i64) .nil)) .nil)), (1045, .arr (.cons (.sl (.cons (.int .i64) .nil)) .nil)), (1046, .arr (.cons (.sl (.cons (.int .i64) .nil)) .nil))], []⟩ (.u (.j ⟨[(0, .ref 900000 2), (2, dI), (4, .ref 1027 2), (6, .ref 1028 2), (7, .ref 1029 2), (8, dI), (9, dI), (10, .ref 1030 5), (11, .own 1031), (12, .own 1032), (13, dI), (14, dI), (53, dB)], [(900000, .box b2), (1027, .box b0), (1028, .box [.own 1033, .own 1034]), (1029, .box [.own 1035, .own 1036]), (1030, .box b3), (1031, .arr (.cons (.int .i64) .nil)), (1032, .arr (.cons (.int .i64) .nil)), (1033, .arr (.cons (.sl (.cons (.int .i64) .nil)) .nil)), (1034, .arr (.cons (.sl (.cons (.int .i64) .nil)) .nil)), (1035, .arr (.cons (.sl (.cons (.int .i64) .nil)) .nil)), (1036, .arr (.cons (.sl (.cons (.int .i64) .nil)) .nil))], []⟩ (.r .x) (.n (nx (.r .x)) .e))) (.r .x)))))) (.j ⟨[(0, .ref 900000 2), (2, dI), (4, .ref 1076 2), (6, .ref 1077 2), (7, .ref 1078 2), (8, dI), (9, dI), (11, dL), (12, dL)], [(900000, .box b2), (1076, .box b0), (1077, .box [.own 1079, .own 1080]), (1078, .box [.own 1081, .own 1082]), (1079, .arr (.cons (.sl (.cons (.int .i64) .nil)) .nil)), (1080, .arr (.cons (.sl (.cons (.int .i64) .nil)) .nil)), (1081, .arr (.cons (.sl (.cons (.int .i64) .nil)) .nil)), (1082, .arr (.cons (.sl (.cons (.int .i64) .nil)) .nil))], []⟩ (.j ⟨[(0, .ref 900000 2), (2, dI), (4, .ref 1067 2), (6, .ref 1068 2), (7, .ref 1069 2), (8, dI), (9, dI), (11, .own 1070), (12, .own 1071), (75, dB)], [(900000, .box b2), (1067, .box b0), (1068, .box [.own 1072, .own 1073]), (1069, .box [.own 1074, .own 1075]), (1070, .arr (.cons (.int .i64) .nil)), (1071, .arr (.cons (.int .i64) .nil)), (1072, .arr (.cons (.sl (.cons (.int .i64) .nil)) .nil)), (1073, .arr (.cons (.sl (.cons (.int .i64) .nil)) .nil)), (1074, .arr (.cons (.sl (.cons (.int .i64) .nil)) .nil)), (1075, .arr (.cons (.sl (.cons (.int .i64) .nil)) .nil))], []⟩ (.r .x) (.n (nx (.r .x)) .e)) (.r (.w 11 [(0, 0), (0, 1), (1, 2), (0, 5), (0, 6), (1, 7), (3, 3), (2, 4), (0, 10), (5, 8), (2, 9)])))))))))) (.r .x)))))) (nx .e)))))
noncomputable def sh10_K0 (z0 : Ty1 × Unit × Unit × List (List (Int × Unit) × Unit) × List (List (Int × Unit) × Unit) × List (List (Int × Unit) × Unit) × List (List (Int × Unit) × Unit) × Unit) : Option (Ty5 × Ty1 × Unit) :=
 some (z0.2.2.2.2.2, z0.1, ())
noncomputable def sh10_K3 (rc2 : Int × Int × Int × Ty1 × Ty7 × Unit × Unit × List (List (Int × Unit) × Unit) × List (List (Int × Unit) × Unit) × List (List (Int × Unit) × Unit) × List (List (Int × Unit) × Unit) × Unit → Option (Ty5 × Ty1 × Unit)) (z3 : Int × Int × Int × Ty1 × Ty7 × Unit × Unit × List (List (Int × Unit) × Unit) × List (List (Int × Unit) × Unit) × List (List (Int × Unit) × Unit) × List (List (Int × Unit) × Unit) × Unit) : Option (Ty5 × Ty1 × Unit) :=
 rc2 (z3.1, z3.2.1, IntKind.i64.wrap (z3.2.2.1 + 1), z3.2.2.2.1, z3.2.2.2.2.1, (), (), z3.2.2.2.2.2.2.2)
noncomputable def sh10_K7 (j4 : Int × Int × Int × Ty1 × Ty7 × Unit × Unit × List (List (Int × Unit) × Unit) × List (List (Int × Unit) × Unit) × List (List (Int × Unit) × Unit) × List (List (Int × Unit) × Unit) × Unit → Option (Ty5 × Ty1 × Unit)) (z7 : Int × Int × Int × List (Int × Unit) × List (Int × Unit) × Ty1 × Ty7 × Unit × Unit × List (List (Int × Unit) × Unit) × List (List (Int × Unit) × Unit) × List (List (Int × Unit) × Unit) × List (List (Int × Unit) × Unit) × Unit) : Option (Ty5 × Ty1 × Unit) :=
 if decide (z7.2.2.2.2.2.2.2.2.2.2.2.1.length + 1 ≤ Abs.lim) = true then
 if decide ((z7.2.2.2.2.2.2.2.2.2.2.2.1.length + 1) * 24 ≤ Abs.lim) = true then
 if decide (z7.2.2.2.2.2.2.2.2.2.2.2.2.1.length + 1 ≤ Abs.lim) = true then
 if decide ((z7.2.2.2.2.2.2.2.2.2.2.2.2.1.length + 1) * 24 ≤ Abs.lim) = true then
 j4
 (z7.1, z7.2.1, z7.2.2.1, z7.2.2.2.2.2.1, z7.2.2.2.2.2.2.1, (), (), z7.2.2.2.2.2.2.2.2.2.1, z7.2.2.2.2.2.2.2.2.2.2.1,
 z7.2.2.2.2.2.2.2.2.2.2.2.1 ++ [(z7.2.2.2.1, ())], z7.2.2.2.2.2.2.2.2.2.2.2.2.1 ++ [(z7.2.2.2.2.1, ())], ())
 else none
 else none
 else none
 else none
noncomputable def sh10_K9 (j8 : Int × Int × Int × List (Int × Unit) × List (Int × Unit) × Ty1 × Ty7 × Unit × Unit × List (List (Int × Unit) × Unit) × List (List (Int × Unit) × Unit) × List (List (Int × Unit) × Unit) × List (List (Int × Unit) × Unit) × Unit → Option (Ty5 × Ty1 × Unit)) (z9 : Int × Int × Int × Bool × Ty1 × Ty7 × Unit × Unit × List (Int × Unit) × List (Int × Unit) × List (List (Int × Unit) × Unit) × List (List (Int × Unit) × Unit) × List (List (Int × Unit) × Unit) × List (List (Int × Unit) × Unit) × Unit) : Option (Ty5 × Ty1 × Unit) :=
 if z9.2.2.2.1 = true then
 if decide (z9.2.2.2.2.2.2.2.2.2.1.length + 1 ≤ Abs.lim) = true then
 if decide ((z9.2.2.2.2.2.2.2.2.2.1.length + 1) * 8 ≤ Abs.lim) = true then
 j8
 (IntKind.i64.wrap (z9.1 - 1), IntKind.i64.wrap (z9.2.1 + 1), z9.2.2.1, z9.2.2.2.2.2.2.2.2.1, z9.2.2.2.2.2.2.2.2.2.1 ++ [(z9.2.1, ())],
 z9.2.2.2.2.1, z9.2.2.2.2.2.1, (), (), z9.2.2.2.2.2.2.2.2.2.2)
 else none
 else none
 else j8 (z9.1, z9.2.1, z9.2.2.1, z9.2.2.2.2.2.2.2.2.1, z9.2.2.2.2.2.2.2.2.2.1, z9.2.2.2.2.1, z9.2.2.2.2.2.1, (), (), z9.2.2.2.2.2.2.2.2.2.2)
noncomputable def sh10_K6 (j4 : Int × Int × Int × Ty1 × Ty7 × Unit × Unit × List (List (Int × Unit) × Unit) × List (List (Int × Unit) × Unit) × List (List (Int × Unit) × Unit) × List (List (Int × Unit) × Unit) × Unit → Option (Ty5 × Ty1 × Unit)) (z6 : Int × Int × Int × Ty1 × Ty7 × Unit × Unit × Ty4 × List (Int × Unit) × List (Int × Unit) × List (List (Int × Unit) × Unit) × List (List (Int × Unit) × Unit) × List (List (Int × Unit) × Unit) × List (List (Int × Unit) × Unit) × Unit) : Option (Ty5 × Ty1 × Unit) :=
 joinK (sh10_K7 j4) fun j8 =>
 joinK (sh10_K9 j8) fun j10 =>
 if (z6.2.2.2.2.2.2.2.1.2.2.1 == 0) = true then
 if decide (0 < z6.1) = true then
 (sp18 (z6.2.2.2.1, 3, ())).bind fun r11 => j10 (z6.1, z6.2.1, z6.2.2.1, r11.1 == 0, r11.2.1, z6.2.2.2.2.1, (), (), z6.2.2.2.2.2.2.2.2)
 else j10 (z6.1, z6.2.1, z6.2.2.1, false, z6.2.2.2.1, z6.2.2.2.2.1, (), (), z6.2.2.2.2.2.2.2.2)
 else j10 (z6.1, z6.2.1, z6.2.2.1, false, z6.2.2.2.1, z6.2.2.2.2.1, (), (), z6.2.2.2.2.2.2.2.2)
noncomputable def sh10_K14 (rc13 : Int × Int × Int × Int × Int × Ty1 × Ty7 × Unit × Unit × Ty4 × List (Int × Unit) × List (Int × Unit) × List (List (Int × Unit) × Unit) × List (List (Int × Unit) × Unit) × List (List (Int × Unit) × Unit) × List (List (Int × Unit) × Unit) × Unit → Option (Ty5 × Ty1 × Unit)) (z14 : Int × Int × Int × Int × Int × Ty1 × Ty7 × Unit × Unit × Ty4 × List (Int × Unit) × List (Int × Unit) × List (List (Int × Unit) × Unit) × List (List (Int × Unit) × Unit) × List (List (Int × Unit) × Unit) × List (List (Int × Unit) × Unit) × Unit) : Option (Ty5 × Ty1 × Unit) :=
 rc13 (z14.1, z14.2.1, z14.2.2.1, z14.2.2.2.1, IntKind.i64.wrap (z14.2.2.2.2.1 + 1), z14.2.2.2.2.2.1, z14.2.2.2.2.2.2.1, (), (), z14.2.2.2.2.2.2.2.2.2)
noncomputable def sh10_K16 (j15 : Int × Int × Int × Int × Int × Ty1 × Ty7 × Unit × Unit × Ty4 × List (Int × Unit) × List (Int × Unit) × List (List (Int × Unit) × Unit) × List (List (Int × Unit) × Unit) × List (List (Int × Unit) × Unit) × List (List (Int × Unit) × Unit) × Unit → Option (Ty5 × Ty1 × Unit)) (z16 : Int × Int × Int × Int × Int × Bool × Ty1 × Ty7 × Unit × Unit × Ty4 × List (Int × Unit) × List (Int × Unit) × List (List (Int × Unit) × Unit) × List (List (Int × Unit) × Unit) × List (List (Int × Unit) × Unit) × List (List (Int × Unit) × Unit) × Unit) : Option (Ty5 × Ty1 × Unit) :=
 if z16.2.2.2.2.2.1 = true then
 if inR z16.2.2.2.2.1 z16.2.2.2.2.2.2.2.2.2.2.2.1.length = true then
 if decide (z16.2.2.2.2.1.toNat + 1 ≤ z16.2.2.2.2.2.2.2.2.2.2.2.1.length) = true then
 j15
 (IntKind.i64.wrap (z16.1 - 1), IntKind.i64.wrap (z16.2.1 + 1), z16.2.2.1, IntKind.i64.wrap (z16.2.2.2.1 - 1), z16.2.2.2.2.1,
 z16.2.2.2.2.2.2.1, z16.2.2.2.2.2.2.2.1, (), (), z16.2.2.2.2.2.2.2.2.2.2.1,
 z16.2.2.2.2.2.2.2.2.2.2.2.1.set z16.2.2.2.2.1.toNat (z16.2.1, ()), z16.2.2.2.2.2.2.2.2.2.2.2.2)
 else none
 else none
 else j15 (z16.1, z16.2.1, z16.2.2.1, z16.2.2.2.1, z16.2.2.2.2.1, z16.2.2.2.2.2.2.1, z16.2.2.2.2.2.2.2.1, (), (), z16.2.2.2.2.2.2.2.2.2.2)
noncomputable def sh10_L13 (j12 : Int × Int × Int × Ty1 × Ty7 × Unit × Unit × Ty4 × List (Int × Unit) × List (Int × Unit) × List (List (Int × Unit) × Unit) × List (List (Int × Unit) × Unit) × List (List (Int × Unit) × Unit) × List (List (Int × Unit) × Unit) × Unit → Option (Ty5 × Ty1 × Unit)) (rc13 : Int × Int × Int × Int × Int × Ty1 × Ty7 × Unit × Unit × Ty4 × List (Int × Unit) × List (Int × Unit) × List (List (Int × Unit) × Unit) × List (List (Int × Unit) × Unit) × List (List (Int × Unit) × Unit) × List (List (Int × Unit) × Unit) × Unit → Option (Ty5 × Ty1 × Unit)) (z13 : Int × Int × Int × Int × Int × Ty1 × Ty7 × Unit × Unit × Ty4 × List (Int × Unit) × List (Int × Unit) × List (List (Int × Unit) × Unit) × List (List (Int × Unit) × Unit) × List (List (Int × Unit) × Unit) × List (List (Int × Unit) × Unit) × Unit) : Option (Ty5 × Ty1 × Unit) :=
 if decide (z13.2.2.2.2.1 < z13.2.2.2.2.2.2.2.2.2.1.2.2.1) = true then
 joinK (sh10_K14 rc13) fun j15 =>
 joinK (sh10_K16 j15) fun j17 =>
 if decide (0 < z13.1) = true then
 if decide (0 < z13.2.2.2.1) = true then
 (sp18 (z13.2.2.2.2.2.1, 2, ())).bind fun r18 =>
 j17 (z13.1, z13.2.1, z13.2.2.1, z13.2.2.2.1, z13.2.2.2.2.1, r18.1 == 0, r18.2.1, z13.2.2.2.2.2.2.1, (), (), z13.2.2.2.2.2.2.2.2.2)
 else j17 (z13.1, z13.2.1, z13.2.2.1, z13.2.2.2.1, z13.2.2.2.2.1, false, z13.2.2.2.2.2.1, z13.2.2.2.2.2.2.1, (), (), z13.2.2.2.2.2.2.2.2.2)
 else j17 (z13.1, z13.2.1, z13.2.2.1, z13.2.2.2.1, z13.2.2.2.2.1, false, z13.2.2.2.2.2.1, z13.2.2.2.2.2.2.1, (), (), z13.2.2.2.2.2.2.2.2.2)
 else j12 (z13.1, z13.2.1, z13.2.2.1, z13.2.2.2.2.2.1, z13.2.2.2.2.2.2.1, (), (), z13.2.2.2.2.2.2.2.2.2)
noncomputable def sh10_K5 (fuel : Nat) (j4 : Int × Int × Int × Ty1 × Ty7 × Unit × Unit × List (List (Int × Unit) × Unit) × List (List (Int × Unit) × Unit) × List (List (Int × Unit) × Unit) × List (List (Int × Unit) × Unit) × Unit → Option (Ty5 × Ty1 × Unit)) (z5 : Int × Int × Int × Int × Ty1 × Ty7 × Unit × Unit × Ty4 × List (Int × Unit) × List (Int × Unit) × List (List (Int × Unit) × Unit) × List (List (Int × Unit) × Unit) × List (List (Int × Unit) × Unit) × List (List (Int × Unit) × Unit) × Unit) : Option (Ty5 × Ty1 × Unit) :=
 joinK (sh10_K6 j4) fun j12 =>
 iter fuel (sh10_L13 j12) (z5.1, z5.2.1, z5.2.2.1, z5.2.2.2.1, 0, z5.2.2.2.2.1, z5.2.2.2.2.2.1, (), (), z5.2.2.2.2.2.2.2.2)
noncomputable def sh10_L2 (fuel : Nat) (j1 : Ty1 × Unit × Unit × List (List (Int × Unit) × Unit) × List (List (Int × Unit) × Unit) × List (List (Int × Unit) × Unit) × List (List (Int × Unit) × Unit) × Unit → Option (Ty5 × Ty1 × Unit)) (rc2 : Int × Int × Int × Ty1 × Ty7 × Unit × Unit × List (List (Int × Unit) × Unit) × List (List (Int × Unit) × Unit) × List (List (Int × Unit) × Unit) × List (List (Int × Unit) × Unit) × Unit → Option (Ty5 × Ty1 × Unit)) (z2 : Int × Int × Int × Ty1 × Ty7 × Unit × Unit × List (List (Int × Unit) × Unit) × List (List (Int × Unit) × Unit) × List (List (Int × Unit) × Unit) × List (List (Int × Unit) × Unit) × Unit) : Option (Ty5 × Ty1 × Unit) :=
 if decide (z2.2.2.1 < (↑z2.2.2.2.2.1.1.length : Int)) = true then
 joinK (sh10_K3 rc2) fun j4 =>
 if inR z2.2.2.1 z2.2.2.2.2.1.1.length = true then
 if decide (0 ≤ (lAt ([], 0, 0, 0, [], ()) z2.2.2.2.2.1.1 z2.2.2.1).2.2.1) = true then
 if decide ((lAt ([], 0, 0, 0, [], ()) z2.2.2.2.2.1.1 z2.2.2.1).2.2.1 ≤ (lAt ([], 0, 0, 0, [], ()) z2.2.2.2.2.1.1 z2.2.2.1).2.2.1) = true then
 if decide ((lAt ([], 0, 0, 0, [], ()) z2.2.2.2.2.1.1 z2.2.2.1).2.2.1 ≤ (↑Abs.lim : Int)) = true then
 if decide ((↑8 : Int) * (lAt ([], 0, 0, 0, [], ()) z2.2.2.2.2.1.1 z2.2.2.1).2.2.1 ≤ (↑Abs.lim : Int)) = true then
 joinK (sh10_K5 fuel j4) fun j19 =>
 if ((lAt ([], 0, 0, 0, [], ()) z2.2.2.2.2.1.1 z2.2.2.1).2.1 == 5) = true then
 j19
 (z2.1, z2.2.1, z2.2.2.1, IntKind.i64.wrap ((lAt ([], 0, 0, 0, [], ()) z2.2.2.2.2.1.1 z2.2.2.1).2.2.1 - 1), z2.2.2.2.1,
 z2.2.2.2.2.1, (), (), lAt ([], 0, 0, 0, [], ()) z2.2.2.2.2.1.1 z2.2.2.1,
 List.replicate (Int.toNat (lAt ([], 0, 0, 0, [], ()) z2.2.2.2.2.1.1 z2.2.2.1).2.2.1) (0, ()), [], z2.2.2.2.2.2.2.2)
 else
 j19
 (z2.1, z2.2.1, z2.2.2.1, (lAt ([], 0, 0, 0, [], ()) z2.2.2.2.2.1.1 z2.2.2.1).2.2.1, z2.2.2.2.1, z2.2.2.2.2.1, (), (),
 lAt ([], 0, 0, 0, [], ()) z2.2.2.2.2.1.1 z2.2.2.1,
 List.replicate (Int.toNat (lAt ([], 0, 0, 0, [], ()) z2.2.2.2.2.1.1 z2.2.2.1).2.2.1) (0, ()), [], z2.2.2.2.2.2.2.2)
 else none
 else none
 else none
 else none
 else none
 else j1 (z2.2.2.2.1, (), (), z2.2.2.2.2.2.2.2)
noncomputable def sh10 (fuel : Nat) (x0 : Ty1) (x1 : Ty7) (x2 : Int) : Option (Ty5 × Ty1 × Unit) :=
 joinK sh10_K0 fun j1 => iter fuel (sh10_L2 fuel j1) (x2, 1, 0, x0, x1, (), (), [], [], [], [], ())
noncomputable def sp10 (x : Ty1 × Ty7 × (Int) × Unit) : Option (Ty5 × Ty1 × Unit) := sh10 100000 x.1 x.2.1 x.2.2.1
/-! 11 (*baggage/baggagekeep.Src).Numbers -/
def g11 : Sig := ⟨[.bx ty1], .own ty2⟩
def h11 : HT := (nx (nx (nx (.j ⟨[(3, .own 1002)], [(900000, .box b2), (1002, .arr ty2)], []⟩ (nx (.u (.l ⟨[(0, .ref 900000 2), (3, .own 1000), (4, dI), (5, dI)], [(900000, .box b2), (1000, .arr ty2)], []⟩ (.n (nx (.n .e .e)) (.n (.u (.r .x)) (.r .x)))))) (.j ⟨[(3, .own 1009)], [(900000, .box b2), (1009, .arr ty2)], []⟩ (nx (.u (.l ⟨[(3, .own 1003), (6, dI)], [(900000, .box b2), (1003, .arr ty2)], []⟩ (.n (nx (.n .e .e)) (.j ⟨[(3, .own 1007), (6, dI)], [(900000, .box b2), (1007, .arr ty2)], []⟩ (.u (nx (.u (.l ⟨[(3, .own 1004), (6, dI), (7, dI)], [(900000, .box b2), (1004, .arr ty2)], []⟩ (.n (nx (.n .e .e)) (.j ⟨[(3, .own 1005), (6, dI), (7, dI)], [(900000, .box b2), (1005, .arr ty2)], []⟩ (.u (.n (.r .q) (nx .e))) (.r .x))))))) (.r .x)))))) (nx .e))))))
noncomputable def sh11_K2 (z2 : Ty1 × List Ty2 × Unit) : Option Tz3 :=
 some (z2.2.1, z2.1, ())
noncomputable def sh11_K5 (rc4 : Int × Ty1 × List Ty2 × Unit → Option Tz3) (z5 : Int × Ty1 × List Ty2 × Unit) : Option Tz3 :=
 rc4 (IntKind.i64.wrap (z5.1 + 1), z5.2)
noncomputable def sh11_K8 (rc7 : Int × Int × Ty1 × List Ty2 × Unit → Option Tz3) (z8 : Int × Int × Ty1 × List Ty2 × Unit) : Option Tz3 :=
 rc7 (z8.1, IntKind.i64.wrap (z8.2.1 + 1), z8.2.2)
noncomputable def sh11_L7 (j6 : Int × Ty1 × List Ty2 × Unit → Option Tz3) (rc7 : Int × Int × Ty1 × List Ty2 × Unit → Option Tz3) (z7 : Int × Int × Ty1 × List Ty2 × Unit) : Option Tz3 :=
 if decide (z7.2.1 < z7.1) = true then
 joinK (sh11_K8 rc7) fun j9 =>
 if inR z7.2.1 z7.2.2.2.1.length = true then
 if decide (z7.2.1.toNat + 1 ≤ z7.2.2.2.1.length) = true then
 if inR z7.1 z7.2.2.2.1.length = true then
 if decide (z7.1.toNat + 1 ≤ z7.2.2.2.1.length) = true then
 if
 ((z7.2.2.2.1.getD z7.2.1.toNat (0, 0, 0, ())).1 == (z7.2.2.2.1.getD z7.1.toNat (0, 0, 0, ())).1 &&
 ((z7.2.2.2.1.getD z7.2.1.toNat (0, 0, 0, ())).2.1 == (z7.2.2.2.1.getD z7.1.toNat (0, 0, 0, ())).2.1 &&
 ((z7.2.2.2.1.getD z7.2.1.toNat (0, 0, 0, ())).2.2.1 == (z7.2.2.2.1.getD z7.1.toNat (0, 0, 0, ())).2.2.1 && true))) =
 true then
 if inR z7.1 z7.2.2.2.1.length = true then
 if decide (z7.1.toNat + 1 ≤ z7.2.2.2.1.length) = true then
 if inR z7.1 (z7.2.2.2.1.set z7.1.toNat (1, (z7.2.2.2.1.getD z7.1.toNat (0, 0, 0, ())).2)).length = true then
 if decide (z7.1.toNat + 1 ≤ (z7.2.2.2.1.set z7.1.toNat (1, (z7.2.2.2.1.getD z7.1.toNat (0, 0, 0, ())).2)).length) = true then
 j9
 (z7.1, z7.2.1, z7.2.2.1,
 (z7.2.2.2.1.set z7.1.toNat (1, (z7.2.2.2.1.getD z7.1.toNat (0, 0, 0, ())).2)).set z7.1.toNat
 (((z7.2.2.2.1.set z7.1.toNat (1, (z7.2.2.2.1.getD z7.1.toNat (0, 0, 0, ())).2)).getD z7.1.toNat (0, 0, 0, ())).1,
 ((z7.2.2.2.1.set z7.1.toNat (1, (z7.2.2.2.1.getD z7.1.toNat (0, 0, 0, ())).2)).getD z7.1.toNat (0, 0, 0, ())).2.1, z7.1,
 ()),
 ())
 else none
 else none
 else none
 else none
 else j9 z7
 else none
 else none
 else none
 else none
 else j6 (z7.1, z7.2.2)
noncomputable def sh11_L4 (fuel : Nat) (j3 : Ty1 × List Ty2 × Unit → Option Tz3) (rc4 : Int × Ty1 × List Ty2 × Unit → Option Tz3) (z4 : Int × Ty1 × List Ty2 × Unit) : Option Tz3 :=
 if decide (z4.1 < (↑z4.2.2.1.length : Int)) = true then joinK (sh11_K5 rc4) fun j6 => iter fuel (sh11_L7 j6) (z4.1, 0, z4.2) else j3 z4.2
noncomputable def sh11_K1 (fuel : Nat) (z1 : Ty1 × List Ty2 × Unit) : Option Tz3 :=
 joinK sh11_K2 fun j3 => iter fuel (sh11_L4 fuel j3) (0, z1)
noncomputable def sh11_L11 (j10 : Ty1 × List Ty2 × Unit → Option Tz3) (rc11 : Int × Int × Ty1 × List Ty2 × Unit → Option Tz3) (z11 : Int × Int × Ty1 × List Ty2 × Unit) : Option Tz3 :=
 if decide (z11.2.1 < 40) = true then
 (sp18 (z11.2.2.1, 2, ())).bind fun r12 =>
 if
 decide
 (z11.2.2.2.1.length + 1 ≤
 Abs.lim) =
 true then
 if
 decide
 ((z11.2.2.2.1.length + 1) *
 24 ≤
 Abs.lim) =
 true then
 rc11
 (z11.1, IntKind.i64.wrap (z11.2.1 + 1), r12.2.1,
 z11.2.2.2.1 ++ [(0, IntKind.i64.wrap (117 + z11.1), IntKind.i64.wrap (z11.2.1 * IntKind.i64.wrap (1 + r12.1)), ())], ())
 else none
 else none
 else j10 z11.2.2
noncomputable def sh11 (fuel : Nat) (x0 : Ty1) : Option Tz3 :=
 (sp18 (x0, 3, ())).bind fun r0 => joinK (sh11_K1 fuel) fun j10 => iter fuel (sh11_L11 j10) (r0.1, 0, r0.2.1, [], ())
noncomputable def sp11 (x : Ty1 × Unit) : Option Tz3 := sh11 100000 x.1
/-! 12 (*baggage/baggagekeep.Src).Glitches -/
def g12 : Sig := ⟨[.bx ty1, .v (.ag ty7), .v (.ag ty5), .v (.ty (.int .i64))], .own ty2⟩
def h12 : HT := (nx (nx (.j ⟨[(9, .own 1041)], [(900000, .box b2), (1041, .arr ty2)], []⟩ (nx (.u (.l ⟨[(0, .ref 900000 2), (3, dI), (5, .ref 1000 2), (6, .ref 1001 2), (9, .own 1002), (10, dI)], [(900000, .box b2), (1000, .box b0), (1001, .box b1), (1002, .arr ty2)], []⟩ (.n (.j ⟨[(0, .ref 900000 2), (3, dI), (5, .ref 1003 2), (6, .ref 1004 2), (9, .own 1005), (10, dI), (25, dB)], [(900000, .box b2), (1003, .box b0), (1004, .box b1), (1005, .arr ty2)], []⟩ (.r .x) (.n .e .e)) (.j ⟨[(0, .ref 900000 2), (3, dI), (5, .ref 1035 2), (6, .ref 1036 2), (9, .own 1037), (10, dI)], [(900000, .box b2), (1035, .box b0), (1036, .box b1), (1037, .arr ty2)], []⟩ (.u (nx (nx (nx (nx (.j ⟨[(0, .ref 900000 2), (3, dI), (5, .ref 1021 2), (6, .ref 1022 2), (9, .own 1023), (10, dI), (12, .ref 1024 3), (13, .ref 1025 3), (14, dB)], [(900000, .box b2), (1021, .box b0), (1022, .box b1), (1024, .box b5), (1025, .box b5), (1023, .arr ty2)], []⟩ (nx (.u (.l ⟨[(0, .ref 900000 2), (3, dI), (5, .ref 1006 2), (6, .ref 1007 2), (9, .own 1008), (10, dI), (11, dI), (12, .ref 1009 3), (13, .ref 1010 3), (14, dB), (15, dI)], [(900000, .box b2), (1006, .box b0), (1007, .box b1), (1009, .box b5), (1010, .box b5), (1008, .arr ty2)], []⟩ (.n (nx (.n .e .e)) (.j ⟨[(0, .ref 900000 2), (3, dI), (5, .ref 1011 2), (6, .ref 1012 2), (9, .own 1013), (10, dI), (11, dI), (12, .ref 1014 3), (13, .ref 1015 3), (14, dB), (15, dI)], [(900000, .box b2), (1011, .box b0), (1012, .box b1), (1014, .box b5), (1015, .box b5), (1013, .arr ty2)], []⟩ (.u (.r .x)) (.r .x)))))) (.n (.r .q) (.j ⟨[(0, .ref 900000 2), (3, dI), (5, .ref 1031 2), (6, .ref 1032 2), (9, .own 1033), (10, dI), (13, .ref 1034 3), (14, dB)], [(900000, .box b2), (1031, .box b0), (1032, .box b1), (1034, .box b5), (1033, .arr ty2)], []⟩ (.u (.j ⟨[(0, .ref 900000 2), (3, dI), (5, .ref 1026 2), (6, .ref 1027 2), (9, .own 1028), (10, dI), (12, .ref 1029 3), (13, .ref 1030 3), (14, dB), (16, dB), (67, dB)], [(900000, .box b2), (1026, .box b0), (1027, .box b1), (1029, .box b5), (1030, .box b5), (1028, .arr ty2)], []⟩ (.r .x) (.n (nx (nx (nx .e))) (nx (nx (nx (nx .e))))))) (nx (nx .e)))))))))) (.r .x)))))) (nx .e))))
noncomputable def sh12_K0 (z0 : Ty1 × List Ty2 × Unit) : Option Tz3 :=
 some (z0.2.1, z0.1, ())
noncomputable def sh12_K4 (rc2 : Int × Int × Ty1 × Ty7 × Ty5 × List Ty2 × Unit → Option Tz3) (z4 : Int × Int × Ty1 × Ty7 × Ty5 × List Ty2 × Unit) : Option Tz3 :=
 rc2 (z4.1, IntKind.i64.wrap (z4.2.1 + 1), z4.2.2)
noncomputable def sh12_K8 (j5 : Int × Int × Ty1 × Ty7 × Ty5 × List Ty2 × Unit → Option Tz3) (z8 : Int × Int × Bool × Ty1 × Ty7 × Ty5 × Ty2 × List Ty2 × Unit) : Option Tz3 :=
 if (!z8.2.2.1) = true then
 if decide (z8.2.2.2.2.2.2.2.1.length + 1 ≤ Abs.lim) = true then
 if decide ((z8.2.2.2.2.2.2.2.1.length + 1) * 24 ≤ Abs.lim) = true then
 j5 (z8.1, z8.2.1, z8.2.2.2.1, z8.2.2.2.2.1, z8.2.2.2.2.2.1, z8.2.2.2.2.2.2.2.1 ++ [z8.2.2.2.2.2.2.1], ())
 else none
 else none
 else j5 (z8.1, z8.2.1, z8.2.2.2.1, z8.2.2.2.2.1, z8.2.2.2.2.2.1, z8.2.2.2.2.2.2.2)
noncomputable def sh12_K10 (j9 : Int × Int × Bool × Ty1 × Ty7 × Ty5 × Ty2 × List Ty2 × Unit → Option Tz3) (z10 : Int × Int × Bool × Bool × Bool × Ty1 × Ty7 × Ty5 × Ty2 × Ty2 × List Ty2 × Unit) : Option Tz3 :=
 if z10.2.2.2.2.1 = true then
 (sp26 (z10.2.2.2.2.2.1, [(3, ()), (5, ()), (6, ()), (6, ())], ())).bind fun r11 =>
 if (r11.1 != 3) = true then
 (sp26 (r11.2.1, [(9, ()), (8, ()), (0, ()), (5, ())], ())).bind fun r12 =>
 j9
 (z10.1, z10.2.1, z10.2.2.1, r12.2.1, z10.2.2.2.2.2.2.1, z10.2.2.2.2.2.2.2.1, (r11.1, z10.2.2.2.2.2.2.2.2.2.1.2.1, r12.1, ()),
 z10.2.2.2.2.2.2.2.2.2.2)
 else j9 (z10.1, z10.2.1, z10.2.2.1, r11.2.1, z10.2.2.2.2.2.2.1, z10.2.2.2.2.2.2.2.1, (r11.1, z10.2.2.2.2.2.2.2.2.2.1.2), z10.2.2.2.2.2.2.2.2.2.2)
 else
 if z10.2.2.2.1 = true then
 j9 (z10.1, z10.2.1, z10.2.2.1, z10.2.2.2.2.2.1, z10.2.2.2.2.2.2.1, z10.2.2.2.2.2.2.2.1, (3, z10.2.2.2.2.2.2.2.2.2.1.2), z10.2.2.2.2.2.2.2.2.2.2)
 else
 if (z10.2.2.2.2.2.2.2.2.1.1 == 2) = true then
 j9 (z10.1, z10.2.1, true, z10.2.2.2.2.2.1, z10.2.2.2.2.2.2.1, z10.2.2.2.2.2.2.2.1, z10.2.2.2.2.2.2.2.2.2)
 else j9 (z10.1, z10.2.1, z10.2.2.1, z10.2.2.2.2.2.1, z10.2.2.2.2.2.2.1, z10.2.2.2.2.2.2.2.1, z10.2.2.2.2.2.2.2.2.2)
noncomputable def sh12_K7 (j5 : Int × Int × Ty1 × Ty7 × Ty5 × List Ty2 × Unit → Option Tz3) (z7 : Int × Int × Bool × Ty1 × Ty7 × Ty5 × Ty2 × Ty2 × List Ty2 × Unit) : Option Tz3 :=
 if inR z7.2.2.2.2.2.2.1.2.1 z7.2.2.2.2.2.1.1.length = true then
 if inR z7.2.2.2.2.2.2.1.2.2.1 (List.length (lAt ([], ()) z7.2.2.2.2.2.1.1 z7.2.2.2.2.2.2.1.2.1).1) = true then
 joinK (sh12_K8 j5) fun j9 =>
 joinK (sh12_K10 j9) fun j13 =>
 if ((lAt (0, ()) (lAt ([], ()) z7.2.2.2.2.2.1.1 z7.2.2.2.2.2.2.1.2.1).1 z7.2.2.2.2.2.2.1.2.2.1).1 != 0) = true then
 j13
 (z7.1, z7.2.1, z7.2.2.1, (lAt (0, ()) (lAt ([], ()) z7.2.2.2.2.2.1.1 z7.2.2.2.2.2.2.1.2.1).1 z7.2.2.2.2.2.2.1.2.2.1).1 != 0,
 z7.2.2.2.2.2.2.1.1 == 2, z7.2.2.2)
 else
 j13
 (z7.1, z7.2.1, z7.2.2.1, (lAt (0, ()) (lAt ([], ()) z7.2.2.2.2.2.1.1 z7.2.2.2.2.2.2.1.2.1).1 z7.2.2.2.2.2.2.1.2.2.1).1 != 0, false,
 z7.2.2.2)
 else none
 else none
noncomputable def sh12_K16 (rc15 : Int × Int × Int × Bool × Int × Ty1 × Ty7 × Ty5 × Ty2 × Ty2 × List Ty2 × Unit → Option Tz3) (z16 : Int × Int × Int × Bool × Int × Ty1 × Ty7 × Ty5 × Ty2 × Ty2 × List Ty2 × Unit) : Option Tz3 :=
 rc15 (z16.1, z16.2.1, z16.2.2.1, z16.2.2.2.1, IntKind.i64.wrap (z16.2.2.2.2.1 + 1), z16.2.2.2.2.2)
noncomputable def sh12_L15 (j14 : Int × Int × Bool × Ty1 × Ty7 × Ty5 × Ty2 × Ty2 × List Ty2 × Unit → Option Tz3) (rc15 : Int × Int × Int × Bool × Int × Ty1 × Ty7 × Ty5 × Ty2 × Ty2 × List Ty2 × Unit → Option Tz3) (z15 : Int × Int × Int × Bool × Int × Ty1 × Ty7 × Ty5 × Ty2 × Ty2 × List Ty2 × Unit) : Option Tz3 :=
 if decide (z15.2.2.2.2.1 < (↑z15.2.2.2.2.2.2.2.2.2.2.1.length : Int)) = true then
 joinK (sh12_K16 rc15) fun j17 =>
 if z15.2.2.2.1 = true then j17 (z15.1, z15.2.1, z15.2.2.1, true, z15.2.2.2.2)
 else
 if inR z15.2.2.2.2.1 z15.2.2.2.2.2.2.2.2.2.2.1.length = true then
 if decide (z15.2.2.2.2.1.toNat + 1 ≤ z15.2.2.2.2.2.2.2.2.2.2.1.length) = true then
 j17 (z15.1, z15.2.1, z15.2.2.1, (z15.2.2.2.2.2.2.2.2.2.2.1.getD z15.2.2.2.2.1.toNat (0, 0, 0, ())).2.1 == z15.2.2.1, z15.2.2.2.2)
 else none
 else none
 else j14 (z15.1, z15.2.1, z15.2.2.2.1, z15.2.2.2.2.2)
noncomputable def sh12_K3 (fuel : Nat) (j1 : Ty1 × List Ty2 × Unit → Option Tz3) (rc2 : Int × Int × Ty1 × Ty7 × Ty5 × List Ty2 × Unit → Option Tz3) (z3 : Int × Int × Bool × Ty1 × Ty7 × Ty5 × List Ty2 × Unit) : Option Tz3 :=
 if z3.2.2.1 = true then
 joinK (sh12_K4 rc2) fun j5 =>
 (sp18 (z3.2.2.2.1, (↑z3.2.2.2.2.1.2.1.length : Int), ())).bind fun r6 =>
 if inR r6.1 z3.2.2.2.2.1.2.1.length = true then
 joinK (sh12_K7 j5) fun j14 =>
 iter fuel (sh12_L15 j14)
 (z3.1, z3.2.1, r6.1, false, 0, r6.2.1, z3.2.2.2.2.1, z3.2.2.2.2.2.1, lAt (0, 0, 0, ()) z3.2.2.2.2.1.2.1 r6.1, (4, r6.1, 0, ()),
 z3.2.2.2.2.2.2)
 else none
 else j1 (z3.2.2.2.1, z3.2.2.2.2.2.2)
noncomputable def sh12_L2 (fuel : Nat) (j1 : Ty1 × List Ty2 × Unit → Option Tz3) (rc2 : Int × Int × Ty1 × Ty7 × Ty5 × List Ty2 × Unit → Option Tz3) (z2 : Int × Int × Ty1 × Ty7 × Ty5 × List Ty2 × Unit) : Option Tz3 :=
 joinK (sh12_K3 fuel j1 rc2) fun j18 =>
 if decide (z2.2.1 < z2.1) = true then j18 (z2.1, z2.2.1, decide (0 < (↑z2.2.2.2.1.2.1.length : Int)), z2.2.2) else j18 (z2.1, z2.2.1, false, z2.2.2)
noncomputable def sh12 (fuel : Nat) (x0 : Ty1) (x1 : Ty7) (x2 : Ty5) (x3 : Int) : Option Tz3 :=
 joinK sh12_K0 fun j1 => iter fuel (sh12_L2 fuel j1) (x3, 0, x0, x1, x2, [], ())
noncomputable def sp12 (x : Ty1 × Ty7 × Ty5 × (Int) × Unit) : Option Tz3 := sh12 100000 x.1 x.2.1 x.2.2.1 x.2.2.2.1
/-! 36 baggage/baggageref12.window -/
def g36 : Sig := ⟨[.v (.ag ty2)], .v (.ty .bool)⟩
def h36 : HT := (nx (.n (.j ⟨[(1, .ref 1000 3), (10, dB)], [(1000, .box b5)], []⟩ (.r .x) (.n (.j ⟨[(2, dB)], [], []⟩ (.r .x) .e) .e)) (nx .e)))
noncomputable def sh36_K1 (z1 : Bool × Unit) : Option (Bool × Unit) :=
 some z1
noncomputable def sh36_K0 (z0 : Bool × Ty2 × Unit) : Option (Bool × Unit) :=
 if z0.1 = true then joinK sh36_K1 fun j2 => if decide (0 ≤ z0.2.1.2.2.1) = true then j2 (decide (z0.2.1.2.2.1 ≤ 9), ()) else j2 (false, ())
 else some (z0.2.1.2.2.1 == 0, ())
noncomputable def sh36 (fuel : Nat) (x0 : Ty2) : Option (Bool × Unit) :=
 joinK sh36_K0 fun j3 => if (x0.1 == 5) = true then j3 (true, x0, ()) else j3 (x0.1 == 6, x0, ())
noncomputable def sp36 (x : Ty2 × Unit) : Option (Bool × Unit) := sh36 0 x.1
/-! 54 baggage/baggageref12.sees -/
def g54 : Sig := ⟨[.v (.ag ty7), .v (.ag ty5), .v (.ty (.int .i64))], .v (.ty (.int .i64))⟩
def h54 : HT := (nx (.n (.r .q) .e))
noncomputable def sh54 (fuel : Nat) (x0 : Ty7) (x1 : Ty5) (x2 : Int) : Option (Int × Unit) :=
 if inR x2 x0.2.1.length = true then
 if inR (lAt (0, 0, 0, ()) x0.2.1 x2).2.1 x1.1.length = true then
 if inR x2 x0.2.1.length = true then
 if inR (lAt (0, 0, 0, ()) x0.2.1 x2).2.2.1 (List.length (lAt ([], ()) x1.1 (lAt (0, 0, 0, ()) x0.2.1 x2).2.1).1) = true then
 some (lAt (0, ()) (lAt ([], ()) x1.1 (lAt (0, 0, 0, ()) x0.2.1 x2).2.1).1 (lAt (0, 0, 0, ()) x0.2.1 x2).2.2.1)
 else none
 else none
 else none
 else none
noncomputable def sp54 (x : Ty7 × Ty5 × (Int) × Unit) : Option (Int × Unit) := sh54 0 x.1 x.2.1 x.2.2.1
/-! 37 baggage/baggageref12.possible -/
def g37 : Sig := ⟨[.v (.ag ty7), .v (.ag ty5), .v (.ag ty2)], .v (.ty .bool)⟩
def h37 : HT := (nx (nx (nx (.n (nx (.u (nx (.n (nx .e) (nx (.n (.j ⟨[(6, dB)], [], []⟩ (.r .x) .e) .e)))))) (.j ⟨[(6, dB)], [], []⟩ (.r .x) .e)))))
noncomputable def sh37_K1 (z1 : Bool × Unit) : Option (Bool × Unit) :=
 some z1
noncomputable def sh37_K3 (z3 : Bool × Unit) : Option (Bool × Unit) :=
 some z3
noncomputable def sh37 (fuel : Nat) (x0 : Ty7) (x1 : Ty5) (x2 : Ty2) : Option (Bool × Unit) :=
 (sp54 (x0, x1, x2.2.1, ())).bind fun r0 =>
 if inR x2.2.1 x0.2.1.length = true then
 if (x2.1 == 3) = true then some (r0.1 != 0, ())
 else
 if (x2.1 == 4) = true then
 joinK sh37_K1 fun j2 => if (!r0.1 != 0) = true then j2 (!(lAt (0, 0, 0, ()) x0.2.1 x2.2.1).1 == 2, ()) else j2 (false, ())
 else joinK sh37_K3 fun j4 => if (r0.1 != 0) = true then j4 ((lAt (0, 0, 0, ()) x0.2.1 x2.2.1).1 == 2, ()) else j4 (false, ())
 else none
noncomputable def sp37 (x : Ty7 × Ty5 × Ty2 × Unit) : Option (Bool × Unit) := sh37 0 x.1 x.2.1 x.2.2.1
/-! 40 baggage/baggageref01.Valid -/
def g40 : Sig := ⟨[.v (.ag ty2)], .v (.ty .bool)⟩
def h40 : HT := (nx (.j ⟨[(2, dB)], [], []⟩ (.r .x) .e))
noncomputable def sh40_K0 (z0 : Bool × Unit) : Option (Bool × Unit) :=
 some z0
noncomputable def sh40 (fuel : Nat) (x0 : Ty2) : Option (Bool × Unit) :=
 joinK sh40_K0 fun j1 =>
 if decide (0 ≤ x0.1) = true then
 if decide (x0.1 ≤ 9) = true then
 if decide (1 ≤ x0.2.1) = true then
 if decide (x0.2.1 ≤ 999) = true then if decide (0 ≤ x0.2.2.1) = true then j1 (decide (x0.2.2.1 ≤ 999999), ()) else j1 (false, ())
 else j1 (false, ())
 else j1 (false, ())
 else j1 (false, ())
 else j1 (false, ())
noncomputable def sp40 (x : Ty2 × Unit) : Option (Bool × Unit) := sh40 0 x.1
/-! 42 baggage/baggageref01.Number -/
def g42 : Sig := ⟨[.v (.ag ty2)], .v (.ty (.int .i64))⟩
def h42 : HT := (nx (nx .e))
noncomputable def sh42 (fuel : Nat) (x0 : Ty2) : Option (Int × Unit) :=
 some (IntKind.i64.wrap (IntKind.i64.wrap (IntKind.i64.wrap (IntKind.i64.wrap (x0.1 * 1000) + x0.2.1) * 1000000) + x0.2.2.1), ())
noncomputable def sp42 (x : Ty2 × Unit) : Option (Int × Unit) := sh42 0 x.1
/-! 41 baggage/baggageref01.Digits -/
def g41 : Sig := ⟨[.v (.ty (.int .i64)), .v (.ty (.int .i64))], .v (.ty .str)⟩
def h41 : HT := (nx (nx (.j ⟨[(5, .own 1002)], [(1002, .arr (.cons (.int .u8) .nil))], []⟩ (nx (.u (.l ⟨[(0, dI), (5, .own 1000), (6, dI)], [(1000, .arr (.cons (.int .u8) .nil))], []⟩ (.n (nx (.n .e .e)) (.n (.u (nx (.r .x))) (.r .x)))))) (nx .e))))
noncomputable def sh41_K0 (z0 : List (Int × Unit) × Unit) : Option Tz1 :=
 some (toBytes z0.1, ())
noncomputable def sh41_L2 (j1 : List (Int × Unit) × Unit → Option Tz1) (rc2 : Int × Int × List (Int × Unit) × Unit → Option Tz1) (z2 : Int × Int × List (Int × Unit) × Unit) : Option Tz1 :=
 if decide (0 ≤ z2.2.1) = true then
 if (10 != 0) = true then
 if inR z2.2.1 z2.2.2.1.length = true then
 if decide (z2.2.1.toNat + 1 ≤ z2.2.2.1.length) = true then
 if (10 != 0) = true then
 rc2
 (IntKind.i64.wrap (z2.1.tdiv 10), IntKind.i64.wrap (z2.2.1 - 1),
 z2.2.2.1.set z2.2.1.toNat (IntKind.u8.wrap (IntKind.i64.wrap (48 + z2.1.tmod 10)), ()), ())
 else none
 else none
 else none
 else none
 else j1 z2.2.2
noncomputable def sh41 (fuel : Nat) (x0 : Int) (x1 : Int) : Option Tz1 :=
 if decide (0 ≤ x1) = true then
 if decide (x1 ≤ x1) = true then
 if decide (x1 ≤ (↑Abs.lim : Int)) = true then
 if decide ((↑1 : Int) * x1 ≤ (↑Abs.lim : Int)) = true then
 joinK sh41_K0 fun j1 => iter fuel (sh41_L2 j1) (x0, IntKind.i64.wrap (x1 - 1), List.replicate x1.toNat (0, ()), ())
 else none
 else none
 else none
 else none
noncomputable def sp41 (x : (Int) × (Int) × Unit) : Option Tz1 := sh41 100000 x.1 x.2.1
/-! 17 baggage/baggageref01.Format -/
def g17 : Sig := ⟨[.v (.ag ty2)], .v (.ty .str)⟩
def h17 : HT := (nx (.n (nx (.n (nx .e) .e)) (nx .e)))
noncomputable def sh17 (fuel : Nat) (x0 : Ty2) : Option Tz1 :=
 (sp40 (x0, ())).bind fun r0 => if (!r0.1) = true then some ([], ()) else (sp42 (x0, ())).bind fun r1 => (sp41 (r1.1, 10, ())).bind fun r2 => some r2
noncomputable def sp17 (x : Ty2 × Unit) : Option Tz1 := sh17 0 x.1
/-! 38 baggage/baggageref12.right -/
def g38 : Sig := ⟨[.v (.ag ty7), .v (.ag ty5), .v (.ty (.sl ty2)), .v (.ty (.int .i64))], .v (.ag ty0)⟩
def h38 : HT := (nx (nx (.j ⟨[(8, .ref 1000 3), (9, .ref 1001 3)], [(1000, .box b4), (1001, .box b4)], []⟩ (nx (nx (.n (nx (nx (nx .e))) .e))) (nx .e))))
noncomputable def sh38_K0 (z0 : Ty0 × Ty0 × Unit) : Option (Ty0 × Unit) :=
 some z0.2
noncomputable def sh38 (fuel : Nat) (x0 : Ty7) (x1 : Ty5) (x2 : List Ty2) (x3 : Int) : Option (Ty0 × Unit) :=
 joinK sh38_K0 fun j1 =>
 (sp54 (x0, x1, x3, ())).bind fun r2 =>
 if (r2.1 != 0) = true then
 if inR x3 x0.2.1.length = true then
 if ((lAt (0, 0, 0, ()) x0.2.1 x3).1 == 2) = true then
 if inR (IntKind.i64.wrap (r2.1 - 1)) x2.length = true then
 (sp17 (lAt (0, 0, 0, ()) x2 (IntKind.i64.wrap (r2.1 - 1)), ())).bind fun r3 => j1 ((0, false, [], ()), (x3, true, r3), ())
 else none
 else j1 ((0, false, [], ()), (x3, true, [], ()), ())
 else none
 else j1 ((0, false, [], ()), (x3, false, [], ()), ())
noncomputable def sp38 (x : Ty7 × Ty5 × (List Ty2) × (Int) × Unit) : Option (Ty0 × Unit) := sh38 0 x.1 x.2.1 x.2.2.1 x.2.2.2.1
/-! 39 baggage/baggageref12.faulty -/
def g39 : Sig := ⟨[.v (.ag ty0), .v (.ag ty2)], .v (.ag ty0)⟩
def h39 : HT := (nx (.n (nx (.u (nx (.n (nx .e) (nx (.n (nx (nx .e)) .e)))))) (nx (.j ⟨[(2, .ref 1000 3), (4, .ref 1001 3), (5, .own 1002)], [(1000, .box b4), (1001, .box b4), (1002, .arr (.cons (.int .u8) .nil))], []⟩ (nx (nx (.r (.qt 13)))) (nx (nx .e))))))
noncomputable def sh39_K0 (z0 : Ty0 × Ty0 × List (Int × Unit) × Unit) : Option (Ty0 × Unit) :=
 some ((z0.1.1, z0.1.2.1, toBytes z0.2.2.1, ()), ())
noncomputable def sh39 (fuel : Nat) (x0 : Ty0) (x1 : Ty2) : Option (Ty0 × Unit) :=
 if (x1.1 == 3) = true then some ((x0.1, false, [], ()), ())
 else
 if (x1.1 == 4) = true then some ((x0.1, true, x0.2.2), ())
 else
 if decide (x0.2.2.1.length ≤ Abs.lim) = true then
 joinK sh39_K0 fun j1 =>
 if (x1.1 == 5) = true then
 if inR x1.2.2.1 (ofBytes x0.2.2.1).length = true then
 if decide (x1.2.2.1.toNat + 1 ≤ (ofBytes x0.2.2.1).length) = true then
 j1 (x0, (0, false, [], ()), (ofBytes x0.2.2.1).set x1.2.2.1.toNat (63, ()), ())
 else none
 else none
 else
 if inR x1.2.2.1 (ofBytes x0.2.2.1).length = true then
 if decide (x1.2.2.1.toNat + 1 ≤ (ofBytes x0.2.2.1).length) = true then
 if (10 != 0) = true then
 if inR x1.2.2.1 (ofBytes x0.2.2.1).length = true then
 if decide (x1.2.2.1.toNat + 1 ≤ (ofBytes x0.2.2.1).length) = true then
 j1
 (x0, (0, false, [], ()),
 (ofBytes x0.2.2.1).set x1.2.2.1.toNat
 (IntKind.u8.wrap
 (48 + (IntKind.u8.wrap (IntKind.u8.wrap (((ofBytes x0.2.2.1).getD x1.2.2.1.toNat (0, ())).1 - 48) + 1)).tmod 10),
 ()),
 ())
 else none
 else none
 else none
 else none
 else none
 else none
noncomputable def sp39 (x : Ty0 × Ty2 × Unit) : Option (Ty0 × Unit) := sh39 0 x.1 x.2.1
/-! 15 baggage/baggageref12.Observe -/
def g15 : Sig := ⟨[.v (.ag ty7), .v (.ag ty5), .v (.ty (.sl ty2)), .v (.ty (.sl ty2))], .tup [(.ty (.sl ty0)), (.ty (.int .i64))]⟩
def h15 : HT := (nx (.n (nx (.n (nx .e) .e)) (.j ⟨[(2, .d (.ty (.sl ty2))), (3, .d (.ty (.sl ty2))), (4, .ref 1010 2), (5, .ref 1011 2)], [(1010, .box b0), (1011, .box b1)], []⟩ (nx (.u (.l ⟨[(2, .d (.ty (.sl ty2))), (3, .d (.ty (.sl ty2))), (4, .ref 1000 2), (5, .ref 1001 2), (10, dI)], [(1000, .box b0), (1001, .box b1)], []⟩ (.n (nx (.n .e .e)) (.n (.u (nx (.n (.j ⟨[(2, .d (.ty (.sl ty2))), (3, .d (.ty (.sl ty2))), (4, .ref 1002 2), (5, .ref 1003 2), (10, dI), (11, .ref 1004 3), (38, dB)], [(1002, .box b0), (1003, .box b1), (1004, .box b5)], []⟩ (.r .x) (.n (nx .e) .e)) (.n (.j ⟨[(2, .d (.ty (.sl ty2))), (3, .d (.ty (.sl ty2))), (4, .ref 1005 2), (5, .ref 1006 2), (10, dI), (11, .ref 1007 3), (54, dB)], [(1005, .box b0), (1006, .box b1), (1007, .box b5)], []⟩ (.r .x) (.n (nx .e) .e)) (nx (.n (nx .e) .e)))))) (.r .x)))))) (.j ⟨[(2, .d (.ty (.sl ty2))), (3, .d (.ty (.sl ty2))), (4, .ref 1022 2), (5, .ref 1023 2)], [(1022, .box b0), (1023, .box b1)], []⟩ (nx (.u (.l ⟨[(2, .d (.ty (.sl ty2))), (3, .d (.ty (.sl ty2))), (4, .ref 1012 2), (5, .ref 1013 2), (12, dI)], [(1012, .box b0), (1013, .box b1)], []⟩ (.n (nx (.n .e .e)) (.j ⟨[(2, .d (.ty (.sl ty2))), (3, .d (.ty (.sl ty2))), (4, .ref 1018 2), (5, .ref 1019 2), (12, dI)], [(1018, .box b0), (1019, .box b1)], []⟩ (.u (nx (.u (.l ⟨[(2, .d (.ty (.sl ty2))), (3, .d (.ty (.sl ty2))), (4, .ref 1014 2), (5, .ref 1015 2), (12, dI), (13, dI)], [(1014, .box b0), (1015, .box b1)], []⟩ (.n (nx (.n .e .e)) (.n (.u (.n (.r .q) (.n (nx .e) .e))) (.r .x))))))) (.r .x)))))) (nx (.j ⟨[(14, .own 1049)], [(1049, .arr ty0)], []⟩ (nx (.u (.l ⟨[(2, .d (.ty (.sl ty2))), (3, .d (.ty (.sl ty2))), (4, .ref 1024 2), (5, .ref 1025 2), (14, .own 1026), (15, dI)], [(1024, .box b0), (1025, .box b1), (1026, .arr ty0)], []⟩ (.n (nx (.n .e .e)) (.j ⟨[(2, .d (.ty (.sl ty2))), (3, .d (.ty (.sl ty2))), (4, .ref 1043 2), (5, .ref 1044 2), (14, .own 1045), (15, dI)], [(1043, .box b0), (1044, .box b1), (1045, .arr ty0)], []⟩ (.u (nx (.j ⟨[(2, .d (.ty (.sl ty2))), (3, .d (.ty (.sl ty2))), (4, .ref 1039 2), (5, .ref 1040 2), (14, .own 1041), (15, dI), (16, .ref 1042 3)], [(1039, .box b0), (1040, .box b1), (1042, .box b4), (1041, .arr ty0)], []⟩ (nx (.u (.l ⟨[(2, .d (.ty (.sl ty2))), (3, .d (.ty (.sl ty2))), (4, .ref 1027 2), (5, .ref 1028 2), (14, .own 1029), (15, dI), (16, .ref 1030 3), (17, dI)], [(1027, .box b0), (1028, .box b1), (1030, .box b4), (1029, .arr ty0)], []⟩ (.n (nx (.n .e .e)) (.j ⟨[(2, .d (.ty (.sl ty2))), (3, .d (.ty (.sl ty2))), (4, .ref 1031 2), (5, .ref 1032 2), (14, .own 1033), (15, dI), (16, .ref 1034 3), (17, dI)], [(1031, .box b0), (1032, .box b1), (1034, .box b4), (1033, .arr ty0)], []⟩ (.u (nx (.n (.r (.qt 6)) .e))) (.r .x)))))) (.r .x)))) (.r .x)))))) (nx .e)))))))
noncomputable def sh15_K2 (z2 : List Ty0 × Unit) : Option (Tz2 × Unit) :=
 some ((z2.1, 0, ()), ())
noncomputable def sh15_K5 (rc4 : List Ty2 × List Ty2 × Int × Ty7 × Ty5 × List Ty0 × Unit → Option (Tz2 × Unit)) (z5 : List Ty2 × List Ty2 × Int × Ty7 × Ty5 × List Ty0 × Unit) : Option (Tz2 × Unit) :=
 rc4 (z5.1, z5.2.1, IntKind.i64.wrap (z5.2.2.1 + 1), z5.2.2.2)
noncomputable def sh15_K8 (j6 : List Ty2 × List Ty2 × Int × Ty7 × Ty5 × List Ty0 × Unit → Option (Tz2 × Unit)) (z8 : List Ty2 × List Ty2 × Int × Ty7 × Ty5 × Ty0 × List Ty0 × Unit) : Option (Tz2 × Unit) :=
 if decide (z8.2.2.2.2.2.2.1.length + 1 ≤ Abs.lim) = true then
 if decide ((z8.2.2.2.2.2.2.1.length + 1) * 32 ≤ Abs.lim) = true then
 j6 (z8.1, z8.2.1, z8.2.2.1, z8.2.2.2.1, z8.2.2.2.2.1, z8.2.2.2.2.2.2.1 ++ [z8.2.2.2.2.2.1], ())
 else none
 else none
noncomputable def sh15_K11 (rc10 : List Ty2 × List Ty2 × Int × Int × Ty7 × Ty5 × Ty0 × List Ty0 × Unit → Option (Tz2 × Unit)) (z11 : List Ty2 × List Ty2 × Int × Int × Ty7 × Ty5 × Ty0 × List Ty0 × Unit) : Option (Tz2 × Unit) :=
 rc10 (z11.1, z11.2.1, z11.2.2.1, IntKind.i64.wrap (z11.2.2.2.1 + 1), z11.2.2.2.2)
noncomputable def sh15_L10 (j9 : List Ty2 × List Ty2 × Int × Ty7 × Ty5 × Ty0 × List Ty0 × Unit → Option (Tz2 × Unit)) (rc10 : List Ty2 × List Ty2 × Int × Int × Ty7 × Ty5 × Ty0 × List Ty0 × Unit → Option (Tz2 × Unit)) (z10 : List Ty2 × List Ty2 × Int × Int × Ty7 × Ty5 × Ty0 × List Ty0 × Unit) : Option (Tz2 × Unit) :=
 if decide (z10.2.2.2.1 < (↑z10.2.1.length : Int)) = true then
 joinK (sh15_K11 rc10) fun j12 =>
 if inR z10.2.2.2.1 z10.2.1.length = true then
 if ((lAt (0, 0, 0, ()) z10.2.1 z10.2.2.2.1).2.1 == z10.2.2.1) = true then
 if inR z10.2.2.2.1 z10.2.1.length = true then
 (sp39 (z10.2.2.2.2.2.2.1, lAt (0, 0, 0, ()) z10.2.1 z10.2.2.2.1, ())).bind fun r13 =>
 j12 (z10.1, z10.2.1, z10.2.2.1, z10.2.2.2.1, z10.2.2.2.2.1, z10.2.2.2.2.2.1, r13.1, z10.2.2.2.2.2.2.2)
 else none
 else j12 z10
 else none
 else j9 (z10.1, z10.2.1, z10.2.2.1, z10.2.2.2.2)
noncomputable def sh15_L4 (fuel : Nat) (j3 : List Ty0 × Unit → Option (Tz2 × Unit)) (rc4 : List Ty2 × List Ty2 × Int × Ty7 × Ty5 × List Ty0 × Unit → Option (Tz2 × Unit)) (z4 : List Ty2 × List Ty2 × Int × Ty7 × Ty5 × List Ty0 × Unit) : Option (Tz2 × Unit) :=
 if decide (z4.2.2.1 < (↑z4.2.2.2.1.2.1.length : Int)) = true then
 joinK (sh15_K5 rc4) fun j6 =>
 (sp38 (z4.2.2.2.1, z4.2.2.2.2.1, z4.1, z4.2.2.1, ())).bind fun r7 =>
 joinK (sh15_K8 j6) fun j9 => iter fuel (sh15_L10 j9) (z4.1, z4.2.1, z4.2.2.1, 0, z4.2.2.2.1, z4.2.2.2.2.1, r7.1, z4.2.2.2.2.2)
 else j3 z4.2.2.2.2.2
noncomputable def sh15_K1 (fuel : Nat) (z1 : List Ty2 × List Ty2 × Ty7 × Ty5 × Unit) : Option (Tz2 × Unit) :=
 joinK sh15_K2 fun j3 => iter fuel (sh15_L4 fuel j3) (z1.1, z1.2.1, 0, z1.2.2.1, z1.2.2.2.1, [], ())
noncomputable def sh15_K16 (rc15 : List Ty2 × List Ty2 × Int × Ty7 × Ty5 × Unit → Option (Tz2 × Unit)) (z16 : List Ty2 × List Ty2 × Int × Ty7 × Ty5 × Unit) : Option (Tz2 × Unit) :=
 rc15 (z16.1, z16.2.1, IntKind.i64.wrap (z16.2.2.1 + 1), z16.2.2.2)
noncomputable def sh15_L18 (j17 : List Ty2 × List Ty2 × Int × Ty7 × Ty5 × Unit → Option (Tz2 × Unit)) (rc18 : List Ty2 × List Ty2 × Int × Int × Ty7 × Ty5 × Unit → Option (Tz2 × Unit)) (z18 : List Ty2 × List Ty2 × Int × Int × Ty7 × Ty5 × Unit) : Option (Tz2 × Unit) :=
 if decide (z18.2.2.2.1 < z18.2.2.1) = true then
 if inR z18.2.2.1 z18.2.1.length = true then
 if inR z18.2.2.2.1 z18.2.1.length = true then
 if ((lAt (0, 0, 0, ()) z18.2.1 z18.2.2.1).2.1 == (lAt (0, 0, 0, ()) z18.2.1 z18.2.2.2.1).2.1) = true then some (([], 5, ()), ())
 else rc18 (z18.1, z18.2.1, z18.2.2.1, IntKind.i64.wrap (z18.2.2.2.1 + 1), z18.2.2.2.2)
 else none
 else none
 else j17 (z18.1, z18.2.1, z18.2.2.1, z18.2.2.2.2)
noncomputable def sh15_L15 (fuel : Nat) (j14 : List Ty2 × List Ty2 × Ty7 × Ty5 × Unit → Option (Tz2 × Unit)) (rc15 : List Ty2 × List Ty2 × Int × Ty7 × Ty5 × Unit → Option (Tz2 × Unit)) (z15 : List Ty2 × List Ty2 × Int × Ty7 × Ty5 × Unit) : Option (Tz2 × Unit) :=
 if decide (z15.2.2.1 < (↑z15.2.1.length : Int)) = true then
 joinK (sh15_K16 rc15) fun j17 => iter fuel (sh15_L18 j17) (z15.1, z15.2.1, z15.2.2.1, 0, z15.2.2.2)
 else j14 (z15.1, z15.2.1, z15.2.2.2)
noncomputable def sh15_K0 (fuel : Nat) (z0 : List Ty2 × List Ty2 × Ty7 × Ty5 × Unit) : Option (Tz2 × Unit) :=
 joinK (sh15_K1 fuel) fun j14 => iter fuel (sh15_L15 fuel j14) (z0.1, z0.2.1, 0, z0.2.2)
noncomputable def sh15_K22 (rc20 : List Ty2 × List Ty2 × Int × Ty7 × Ty5 × Unit → Option (Tz2 × Unit)) (z22 : List Ty2 × List Ty2 × Int × Bool × Ty7 × Ty5 × Ty2 × Unit) : Option (Tz2 × Unit) :=
 if z22.2.2.2.1 = true then some (([], 1, ()), ())
 else
 (sp37 z22.2.2.2.2).bind fun r23 =>
 if (!r23.1) = true then some (([], 7, ()), ()) else rc20 (z22.1, z22.2.1, IntKind.i64.wrap (z22.2.2.1 + 1), z22.2.2.2.2.1, z22.2.2.2.2.2.1, ())
noncomputable def sh15_K21 (rc20 : List Ty2 × List Ty2 × Int × Ty7 × Ty5 × Unit → Option (Tz2 × Unit)) (z21 : List Ty2 × List Ty2 × Int × Bool × Ty7 × Ty5 × Ty2 × Unit) : Option (Tz2 × Unit) :=
 if z21.2.2.2.1 = true then some (([], 4, ()), ())
 else
 joinK (sh15_K22 rc20) fun j24 =>
 if decide (z21.2.2.2.2.2.2.1.2.1 < 0) = true then j24 (z21.1, z21.2.1, z21.2.2.1, true, z21.2.2.2.2)
 else
 if decide ((↑z21.2.2.2.2.1.2.1.length : Int) ≤ z21.2.2.2.2.2.2.1.2.1) = true then j24 (z21.1, z21.2.1, z21.2.2.1, true, z21.2.2.2.2)
 else (sp36 z21.2.2.2.2.2.2).bind fun r25 => j24 (z21.1, z21.2.1, z21.2.2.1, !r25.1, z21.2.2.2.2)
noncomputable def sh15_L20 (j19 : List Ty2 × List Ty2 × Ty7 × Ty5 × Unit → Option (Tz2 × Unit)) (rc20 : List Ty2 × List Ty2 × Int × Ty7 × Ty5 × Unit → Option (Tz2 × Unit)) (z20 : List Ty2 × List Ty2 × Int × Ty7 × Ty5 × Unit) : Option (Tz2 × Unit) :=
 if decide (z20.2.2.1 < (↑z20.2.1.length : Int)) = true then
 if inR z20.2.2.1 z20.2.1.length = true then
 joinK (sh15_K21 rc20) fun j26 =>
 if decide ((lAt (0, 0, 0, ()) z20.2.1 z20.2.2.1).1 < 3) = true then
 j26 (z20.1, z20.2.1, z20.2.2.1, true, z20.2.2.2.1, z20.2.2.2.2.1, lAt (0, 0, 0, ()) z20.2.1 z20.2.2.1, ())
 else
 j26
 (z20.1, z20.2.1, z20.2.2.1, decide (6 < (lAt (0, 0, 0, ()) z20.2.1 z20.2.2.1).1), z20.2.2.2.1, z20.2.2.2.2.1,
 lAt (0, 0, 0, ()) z20.2.1 z20.2.2.1, ())
 else none
 else j19 (z20.1, z20.2.1, z20.2.2.2)
noncomputable def sh15 (fuel : Nat) (x0 : Ty7) (x1 : Ty5) (x2 : List Ty2) (x3 : List Ty2) : Option (Tz2 × Unit) :=
 if decide (4 < (↑x3.length : Int)) = true then some (([], 2, ()), ())
 else joinK (sh15_K0 fuel) fun j19 => iter fuel (sh15_L20 j19) (x2, x3, 0, x0, x1, ())
noncomputable def sp15 (x : Ty7 × Ty5 × (List Ty2) × (List Ty2) × Unit) : Option (Tz2 × Unit) := sh15 100000 x.1 x.2.1 x.2.2.1 x.2.2.2.1
/-! 16 baggage/baggagelaw12.same -/
def g16 : Sig := ⟨[.v (.ty (.sl ty0)), .v (.ty (.sl ty0))], .v (.ty .bool)⟩
def h16 : HT := (nx (.n (nx (.n (nx .e) .e)) (.j ⟨[], [], []⟩ (nx (.u (.l ⟨[(0, .d (.ty (.sl ty0))), (1, .d (.ty (.sl ty0))), (5, dI)], [], []⟩ (.n (nx (.n .e .e)) (.n (.u (.n (.r .q) (.n (nx .e) .e))) (.r .x)))))) (nx .e))))
noncomputable def sh16_K0 (z0 : Unit) : Option (Bool × Unit) :=
 some (true, ())
noncomputable def sh16_L2 (j1 : Unit → Option (Bool × Unit)) (rc2 : List Ty0 × List Ty0 × Int × Unit → Option (Bool × Unit)) (z2 : List Ty0 × List Ty0 × Int × Unit) : Option (Bool × Unit) :=
 if decide (z2.2.2.1 < (↑z2.1.length : Int)) = true then
 if inR z2.2.2.1 z2.1.length = true then
 if inR z2.2.2.1 z2.2.1.length = true then
 if
 (!((lAt (0, false, [], ()) z2.1 z2.2.2.1).1 == (lAt (0, false, [], ()) z2.2.1 z2.2.2.1).1 &&
 ((lAt (0, false, [], ()) z2.1 z2.2.2.1).2.1 == (lAt (0, false, [], ()) z2.2.1 z2.2.2.1).2.1 &&
 ((lAt (0, false, [], ()) z2.1 z2.2.2.1).2.2.1 == (lAt (0, false, [], ()) z2.2.1 z2.2.2.1).2.2.1 && true)))) =
 true then
 some (false, ())
 else rc2 (z2.1, z2.2.1, IntKind.i64.wrap (z2.2.2.1 + 1), ())
 else none
 else none
 else j1 ()
noncomputable def sh16 (fuel : Nat) (x0 : List Ty0) (x1 : List Ty0) : Option (Bool × Unit) :=
 if ((↑x0.length : Int) != (↑x1.length : Int)) = true then some (false, ()) else joinK sh16_K0 fun j1 => iter fuel (sh16_L2 j1) (x0, x1, 0, ())
noncomputable def sp16 (x : (List Ty0) × (List Ty0) × Unit) : Option (Bool × Unit) := sh16 100000 x.1 x.2.1
/-! 3 baggage/baggagelaw12.SensorObserves -/
def g3 : Sig := ⟨[.v (.ty (.sl (.cons (.int .i64) .nil))), .v (.ty (.sl ty2)), .v (.ag ty2)], .v (.ty .bool)⟩
def h3 : HT := (nx (.n (nx (.n (nx .e) .e)) (nx (nx (nx (nx (nx (.n (.r (.w 11 [(1, 1), (1, 3), (1, 5), (0, 6), (0, 7), (0, 8), (1, 10), (3, 0), (2, 2), (2, 4), (2, 9)])) (.j ⟨[], [], []⟩ (.n (.r (.w 12 [(1, 0), (1, 1), (1, 2), (1, 4), (0, 6), (1, 11), (3, 3), (2, 5), (5, 7), (2, 8), (3, 9), (0, 10)])) (.u (.l ⟨[(8, .ref 1010 2), (9, .ref 1011 2), (10, .d (.ty (.sl ty2))), (60, .own 1012), (61, dI), (62, dI)], [(1010, .box b0), (1011, .box b1), (1012, .arr (.cons (.sl ty2) .nil))], []⟩ (nx (.n (.n .e .e) (.n (.u (nx (nx (nx (.j ⟨[(8, .ref 1013 2), (9, .ref 1014 2), (10, .d (.ty (.sl ty2))), (60, .own 1015), (61, dI), (62, dI), (90, dB)], [(1013, .box b0), (1014, .box b1), (1015, .arr (.cons (.sl ty2) .nil))], []⟩ (.r .x) (.n (nx .e) .e)))))) (.r .x))))))) (nx .e))))))))))
noncomputable def sh3_K9 (z9 : Unit) : Option (Bool × Unit) :=
 (sp7 ()).bind fun r10 => some r10
noncomputable def sh3_K15 (rc12 : List Ty2 × Int × Int × Ty7 × Ty5 × List (List Ty2 × Unit) × Unit → Option (Bool × Unit)) (z15 : List Ty2 × Int × Int × Bool × Ty7 × Ty5 × List (List Ty2 × Unit) × Unit) : Option (Bool × Unit) :=
 if z15.2.2.2.1 = true then some (false, ()) else rc12 (z15.1, z15.2.1, IntKind.i64.wrap (z15.2.2.1 + 1), z15.2.2.2.2)
noncomputable def sh3_L12 (j11 : Unit → Option (Bool × Unit)) (rc12 : List Ty2 × Int × Int × Ty7 × Ty5 × List (List Ty2 × Unit) × Unit → Option (Bool × Unit)) (z12 : List Ty2 × Int × Int × Ty7 × Ty5 × List (List Ty2 × Unit) × Unit) : Option (Bool × Unit) :=
 if decide (z12.2.2.1 < z12.2.1) = true then
 if inR z12.2.2.1 z12.2.2.2.2.2.1.length = true then
 if decide (z12.2.2.1.toNat + 1 ≤ z12.2.2.2.2.2.1.length) = true then
 (sp14 (z12.2.2.2.1, z12.2.2.2.2.1, z12.1, z12.2.2.2.2.2.1.getD z12.2.2.1.toNat ([], ()))).bind fun r13 =>
 (sp15 (z12.2.2.2.1, z12.2.2.2.2.1, z12.1, z12.2.2.2.2.2.1.getD z12.2.2.1.toNat ([], ()))).bind fun r14 =>
 joinK (sh3_K15 rc12) fun j16 =>
 if (r13.1.2.1 != r14.1.2.1) = true then j16 (z12.1, z12.2.1, z12.2.2.1, true, z12.2.2.2)
 else (sp16 (r13.1.1, r14.1.1, ())).bind fun r17 => j16 (z12.1, z12.2.1, z12.2.2.1, !r17.1, z12.2.2.2)
 else none
 else none
 else j11 ()
noncomputable def sh3 (fuel : Nat) (x0 : List (Int × Unit)) (x1 : List Ty2) (x2 : Ty2) : Option (Bool × Unit) :=
 if decide (12 < (↑x1.length : Int)) = true then (sp7 ()).bind fun r0 => some r0
 else
 (sp8 (x0, ())).bind fun r1 =>
 (sp9 r1).bind fun r2 =>
 (sp10 (r2.2.1, r2.1, 8, ())).bind fun r3 =>
 (sp11 r3.2).bind fun r4 =>
 (sp12 (r4.2.1, r2.1, r3.1, 3, ())).bind fun r5 =>
 if decide (0 + r5.1.length ≤ Abs.lim) = true then
 if decide ((0 + r5.1.length) * 24 ≤ Abs.lim) = true then
 (sp13 (r5.2.1, 2, 7, ())).bind fun r6 =>
 (sp13 (r6.2.1, -1, (↑r2.1.2.1.length : Int), ())).bind fun r7 =>
 (sp13 (r7.2.1, -1, 10, ())).bind fun r8 =>
 if decide (r5.1.length + 1 ≤ Abs.lim) = true then
 if decide ((r5.1.length + 1) * 24 ≤ Abs.lim) = true then
 joinK sh3_K9 fun j11 =>
 if decide (0 + r5.1.length ≤ Abs.lim) = true then
 if decide ((0 + r5.1.length) * 24 ≤ Abs.lim) = true then
 if decide (r5.1.length + 1 ≤ Abs.lim) = true then
 if decide ((r5.1.length + 1) * 24 ≤ Abs.lim) = true then
 iter fuel (sh3_L12 j11)
 (r4.1,
 (↑[([], ()), (r5.1, ()), (r5.1 ++ [(r6.1, r7.1, r8.1, ())], ()), (x1, ()), (r5.1 ++ [x2], ())].length : Int),
 0, r2.1, r3.1, [([], ()), (r5.1, ()), (r5.1 ++ [(r6.1, r7.1, r8.1, ())], ()), (x1, ()), (r5.1 ++ [x2], ())],
 ())
 else none
 else none
 else none
 else none
 else none
 else none
 else none
 else none
noncomputable def sp3 (x : (List (Int × Unit)) × (List Ty2) × Ty2 × Unit) : Option (Bool × Unit) := sh3 100000 x.1 x.2.1 x.2.2.1
/-! 21 baggage/baggageref12.Cost -/
def g21 : Sig := ⟨[.v (.ag ty7), .v (.ag ty5), .v (.ty (.sl ty2)), .v (.ag ty0)], .tup [(.ty (.int .i64)), (.ty .bool)]⟩
def h21 : HT := (nx (.n (.j ⟨[(2, .d (.ty (.sl ty2))), (4, .ref 1000 2), (5, .ref 1001 2), (7, .ref 1002 3), (24, dB)], [(1000, .box b0), (1001, .box b1), (1002, .box b4)], []⟩ (.r .x) (.n (nx .e) .e)) (nx (.n (nx (.n (nx .e) .e)) (.j ⟨[], [], []⟩ (nx (.u (.l ⟨[(4, .ref 1003 2), (5, .ref 1004 2), (7, .ref 1005 3), (10, .ref 1006 3), (11, dI)], [(1003, .box b0), (1004, .box b1), (1005, .box b4), (1006, .box b4)], []⟩ (.n (nx (.n .e .e)) (.j ⟨[(4, .ref 1019 2), (5, .ref 1020 2), (7, .ref 1021 3), (10, .ref 1022 3), (11, dI)], [(1019, .box b0), (1020, .box b1), (1021, .box b4), (1022, .box b4)], []⟩ (.u (nx (.u (.l ⟨[(4, .ref 1007 2), (5, .ref 1008 2), (7, .ref 1009 3), (10, .ref 1010 3), (11, dI), (12, dI)], [(1007, .box b0), (1008, .box b1), (1009, .box b4), (1010, .box b4)], []⟩ (.n (nx (.n .e .e)) (.n (.u (nx (.j ⟨[(4, .ref 1011 2), (5, .ref 1012 2), (7, .ref 1013 3), (10, .ref 1014 3), (11, dI), (12, dI), (61, dB)], [(1011, .box b0), (1012, .box b1), (1013, .box b4), (1014, .box b4)], []⟩ (.r .q) (.n (nx .e) .e)))) (.r .x))))))) (.r .x)))))) (nx .e))))))
noncomputable def sh21_K2 (z2 : Unit) : Option ((Int × Bool × Unit) × Unit) :=
 some ((0, false, ()), ())
noncomputable def sh21_K5 (rc4 : Int × Ty7 × Ty5 × Ty0 × Ty0 × Unit → Option ((Int × Bool × Unit) × Unit)) (z5 : Int × Ty7 × Ty5 × Ty0 × Ty0 × Unit) : Option ((Int × Bool × Unit) × Unit) :=
 rc4 (IntKind.i64.wrap (z5.1 + 1), z5.2)
noncomputable def sh21_K8 (rc7 : Int × Int × Ty7 × Ty5 × Ty0 × Ty0 × Unit → Option ((Int × Bool × Unit) × Unit)) (z8 : Int × Int × Bool × Ty7 × Ty5 × Ty0 × Ty0 × Unit) : Option ((Int × Bool × Unit) × Unit) :=
 if z8.2.2.1 = true then some ((1, true, ()), ()) else rc7 (z8.1, IntKind.i64.wrap (z8.2.1 + 1), z8.2.2.2)
noncomputable def sh21_L7 (j6 : Int × Ty7 × Ty5 × Ty0 × Ty0 × Unit → Option ((Int × Bool × Unit) × Unit)) (rc7 : Int × Int × Ty7 × Ty5 × Ty0 × Ty0 × Unit → Option ((Int × Bool × Unit) × Unit)) (z7 : Int × Int × Ty7 × Ty5 × Ty0 × Ty0 × Unit) : Option ((Int × Bool × Unit) × Unit) :=
 if decide (z7.2.1 ≤ 9) = true then
 joinK (sh21_K8 rc7) fun j9 =>
 (sp36 ((z7.1, z7.2.2.2.2.1.1, z7.2.1, ()), ())).bind fun r10 =>
 if r10.1 = true then
 (sp37 (z7.2.2.1, z7.2.2.2.1, (z7.1, z7.2.2.2.2.1.1, z7.2.1, ()), ())).bind fun r11 =>
 if r11.1 = true then
 (sp39 (z7.2.2.2.2.2.1, (z7.1, z7.2.2.2.2.1.1, z7.2.1, ()), ())).bind fun r12 =>
 j9 (z7.1, z7.2.1, r12.1.1 == z7.2.2.2.2.1.1 && (r12.1.2.1 == z7.2.2.2.2.1.2.1 && (r12.1.2.2.1 == z7.2.2.2.2.1.2.2.1 && true)), z7.2.2)
 else j9 (z7.1, z7.2.1, false, z7.2.2)
 else j9 (z7.1, z7.2.1, false, z7.2.2)
 else j6 (z7.1, z7.2.2)
noncomputable def sh21_L4 (fuel : Nat) (j3 : Unit → Option ((Int × Bool × Unit) × Unit)) (rc4 : Int × Ty7 × Ty5 × Ty0 × Ty0 × Unit → Option ((Int × Bool × Unit) × Unit)) (z4 : Int × Ty7 × Ty5 × Ty0 × Ty0 × Unit) : Option ((Int × Bool × Unit) × Unit) :=
 if decide (z4.1 ≤ 6) = true then joinK (sh21_K5 rc4) fun j6 => iter fuel (sh21_L7 j6) (z4.1, 0, z4.2) else j3 ()
noncomputable def sh21_K0 (fuel : Nat) (z0 : List Ty2 × Bool × Ty7 × Ty5 × Ty0 × Unit) : Option ((Int × Bool × Unit) × Unit) :=
 if z0.2.1 = true then some ((0, false, ()), ())
 else
 (sp38 (z0.2.2.1, z0.2.2.2.1, z0.1, z0.2.2.2.2.1.1, ())).bind fun r1 =>
 if (r1.1.1 == z0.2.2.2.2.1.1 && (r1.1.2.1 == z0.2.2.2.2.1.2.1 && (r1.1.2.2.1 == z0.2.2.2.2.1.2.2.1 && true))) = true then some ((0, true, ()), ())
 else joinK sh21_K2 fun j3 => iter fuel (sh21_L4 fuel j3) (3, z0.2.2.1, z0.2.2.2.1, z0.2.2.2.2.1, r1)
noncomputable def sh21 (fuel : Nat) (x0 : Ty7) (x1 : Ty5) (x2 : List Ty2) (x3 : Ty0) : Option ((Int × Bool × Unit) × Unit) :=
 joinK (sh21_K0 fuel) fun j13 =>
 if decide (x3.1 < 0) = true then j13 (x2, true, x0, x1, x3, ()) else j13 (x2, decide ((↑x0.2.1.length : Int) ≤ x3.1), x0, x1, x3, ())
noncomputable def sp21 (x : Ty7 × Ty5 × (List Ty2) × Ty0 × Unit) : Option ((Int × Bool × Unit) × Unit) := sh21 100000 x.1 x.2.1 x.2.2.1 x.2.2.2.1
/-! 4 baggage/baggagelaw12.SensorCosts -/
def g4 : Sig := ⟨[.v (.ty (.sl (.cons (.int .i64) .nil))), .v (.ag ty0), .v (.ty (.int .i64)), .v (.ty (.int .u8))], .v (.ty .bool)⟩
def h4 : HT := (nx (.n (nx (.n (nx .e) .e)) (nx (nx (nx (nx (.j ⟨[(5, .ref 1033 3), (10, .ref 1034 2), (11, .ref 1035 2), (12, .own 1036)], [(1033, .box b4), (1034, .box b0), (1035, .box b1), (1036, .arr ty2)], []⟩ (nx (.u (.l ⟨[(2, dI), (3, .d (.ty (.int .u8))), (5, .ref 1000 3), (9, .ref 1001 2), (10, .ref 1002 2), (11, .ref 1003 2), (12, .own 1004), (13, dI)], [(1000, .box b4), (1001, .box b2), (1002, .box b0), (1003, .box b1), (1004, .arr ty2)], []⟩ (.n (nx (.n .e .e)) (.j ⟨[(2, dI), (3, .d (.ty (.int .u8))), (5, .ref 1023 3), (9, .ref 1024 2), (10, .ref 1025 2), (11, .ref 1026 2), (12, .own 1027), (13, dI)], [(1023, .box b4), (1024, .box b2), (1025, .box b0), (1026, .box b1), (1027, .arr ty2)], []⟩ (.u (nx (nx (nx (nx (.u (.l ⟨[(2, dI), (3, .d (.ty (.int .u8))), (5, .ref 1005 3), (9, .ref 1006 2), (10, .ref 1007 2), (11, .ref 1008 2), (12, .own 1009), (13, dI), (83, .own 1010), (84, dI), (85, dI)], [(1005, .box b4), (1006, .box b2), (1007, .box b0), (1008, .box b1), (1009, .arr ty2), (1010, .arr ty0)], []⟩ (nx (.n (.n .e .e) (.n (.u (nx (nx (nx (.j ⟨[(2, dI), (3, .d (.ty (.int .u8))), (5, .ref 1011 3), (9, .ref 1012 2), (10, .ref 1013 2), (11, .ref 1014 2), (12, .own 1015), (13, dI), (83, .own 1016), (84, dI), (85, dI), (112, dB)], [(1011, .box b4), (1012, .box b2), (1013, .box b0), (1014, .box b1), (1015, .arr ty2), (1016, .arr ty0)], []⟩ (.r .x) (.n (nx .e) .e)))))) (.r .x))))))))))) (.r .x)))))) (nx (nx (.j ⟨[(8, dB)], [], []⟩ (.r .x) .e))))))))))
noncomputable def sh4_K8 (z8 : Bool × Unit) : Option (Bool × Unit) :=
 some z8
noncomputable def sh4_K5 (z5 : Ty0 × Ty7 × Ty5 × List Ty2 × Unit) : Option (Bool × Unit) :=
 (sp20 (z5.2.1, z5.2.2.1, z5.2.2.2.1, z5.1, ())).bind fun r6 =>
 (sp21 (z5.2.1, z5.2.2.1, z5.2.2.2.1, z5.1, ())).bind fun r7 =>
 joinK sh4_K8 fun j9 =>
 if (r6.1.1 == r7.1.1) = true then if (r6.1.2.1 == r7.1.2.1) = true then (sp7 ()).bind fun r10 => j9 r10 else j9 (false, ()) else j9 (false, ())
noncomputable def sh4_K13 (rc12 : Int × Int × Int × Ty0 × Ty1 × Ty7 × Ty5 × List Ty2 × Unit → Option (Bool × Unit)) (z13 : Int × Int × Int × Ty0 × Ty1 × Ty7 × Ty5 × List Ty2 × Unit) : Option (Bool × Unit) :=
 rc12 (z13.1, z13.2.1, IntKind.i64.wrap (z13.2.2.1 + 1), z13.2.2.2)
noncomputable def sh4_K21 (rc18 : Int × Int × Int × Int × Int × Ty0 × Ty1 × Ty7 × Ty5 × List Ty2 × List Ty0 × Unit → Option (Bool × Unit)) (z21 : Int × Int × Int × Int × Int × Bool × Ty0 × Ty1 × Ty7 × Ty5 × List Ty2 × List Ty0 × Unit) : Option (Bool × Unit) :=
 if z21.2.2.2.2.2.1 = true then some (false, ())
 else rc18 (z21.1, z21.2.1, z21.2.2.1, z21.2.2.2.1, IntKind.i64.wrap (z21.2.2.2.2.1 + 1), z21.2.2.2.2.2.2)
noncomputable def sh4_L18 (j14 : Int × Int × Int × Ty0 × Ty1 × Ty7 × Ty5 × List Ty2 × Unit → Option (Bool × Unit)) (rc18 : Int × Int × Int × Int × Int × Ty0 × Ty1 × Ty7 × Ty5 × List Ty2 × List Ty0 × Unit → Option (Bool × Unit)) (z18 : Int × Int × Int × Int × Int × Ty0 × Ty1 × Ty7 × Ty5 × List Ty2 × List Ty0 × Unit) : Option (Bool × Unit) :=
 if decide (z18.2.2.2.2.1 < z18.2.2.2.1) = true then
 if inR z18.2.2.2.2.1 z18.2.2.2.2.2.2.2.2.2.2.1.length = true then
 if decide (z18.2.2.2.2.1.toNat + 1 ≤ z18.2.2.2.2.2.2.2.2.2.2.1.length) = true then
 (sp20
 (z18.2.2.2.2.2.2.2.1, z18.2.2.2.2.2.2.2.2.1, z18.2.2.2.2.2.2.2.2.2.1,
 z18.2.2.2.2.2.2.2.2.2.2.1.getD z18.2.2.2.2.1.toNat (0, false, [], ()), ())).bind
 fun r19 =>
 (sp21
 (z18.2.2.2.2.2.2.2.1, z18.2.2.2.2.2.2.2.2.1, z18.2.2.2.2.2.2.2.2.2.1,
 z18.2.2.2.2.2.2.2.2.2.2.1.getD z18.2.2.2.2.1.toNat (0, false, [], ()), ())).bind
 fun r20 =>
 joinK (sh4_K21 rc18) fun j22 =>
 if (r19.1.1 != r20.1.1) = true then j22 (z18.1, z18.2.1, z18.2.2.1, z18.2.2.2.1, z18.2.2.2.2.1, true, z18.2.2.2.2.2)
 else j22 (z18.1, z18.2.1, z18.2.2.1, z18.2.2.2.1, z18.2.2.2.2.1, !r19.1.2.1 == r20.1.2.1, z18.2.2.2.2.2)
 else none
 else none
 else j14 (z18.1, z18.2.1, z18.2.2.1, z18.2.2.2.2.2.1, z18.2.2.2.2.2.2.1, z18.2.2.2.2.2.2.2.1, z18.2.2.2.2.2.2.2.2.1, z18.2.2.2.2.2.2.2.2.2.1, ())
noncomputable def sh4_L12 (fuel : Nat) (j11 : Ty0 × Ty7 × Ty5 × List Ty2 × Unit → Option (Bool × Unit)) (rc12 : Int × Int × Int × Ty0 × Ty1 × Ty7 × Ty5 × List Ty2 × Unit → Option (Bool × Unit)) (z12 : Int × Int × Int × Ty0 × Ty1 × Ty7 × Ty5 × List Ty2 × Unit) : Option (Bool × Unit) :=
 if decide (z12.2.2.1 ≤ (↑z12.2.2.2.2.2.1.2.1.length : Int)) = true then
 joinK (sh4_K13 rc12) fun j14 =>
 (sp18 (z12.2.2.2.2.1, 8, ())).bind fun r15 =>
 if inR r15.1 z12.2.2.2.2.2.2.2.1.length = true then
 if decide (r15.1.toNat + 1 ≤ z12.2.2.2.2.2.2.2.1.length) = true then
 (sp17 (z12.2.2.2.2.2.2.2.1.getD r15.1.toNat (0, 0, 0, ()), ())).bind fun r16 =>
 if decide (r16.1.length ≤ Abs.lim) = true then
 (sp19 (z12.1, 10, ())).bind fun r17 =>
 if inR r17.1 (ofBytes r16.1).length = true then
 if decide (r17.1.toNat + 1 ≤ (ofBytes r16.1).length) = true then
 if inR r17.1 (ofBytes r16.1).length = true then
 if decide (r17.1.toNat + 1 ≤ (ofBytes r16.1).length) = true then
 iter fuel (sh4_L18 j14)
 (z12.1, z12.2.1, z12.2.2.1,
 (↑[(z12.2.2.1, false, [], ()), (z12.2.2.1, true, [], ()), (z12.2.2.1, true, r16), (z12.2.2.1, false, r16),
 (z12.2.2.1, true,
 toBytes
 ((ofBytes r16.1).set r17.1.toNat
 (IntKind.u8.wrap
 (↑(BitVec.ofInt IntKind.u8.bits ((ofBytes r16.1).getD r17.1.toNat (0, ())).1 ^^^
 BitVec.ofInt IntKind.u8.bits z12.2.1).toNat :
 Int),
 ())),
 ()),
 (z12.2.2.1, z12.2.2.2.1.2)].length :
 Int),
 0, z12.2.2.2.1, r15.2.1, z12.2.2.2.2.2.1, z12.2.2.2.2.2.2.1, z12.2.2.2.2.2.2.2.1,
 [(z12.2.2.1, false, [], ()), (z12.2.2.1, true, [], ()), (z12.2.2.1, true, r16), (z12.2.2.1, false, r16),
 (z12.2.2.1, true,
 toBytes
 ((ofBytes r16.1).set r17.1.toNat
 (IntKind.u8.wrap
 (↑(BitVec.ofInt IntKind.u8.bits ((ofBytes r16.1).getD r17.1.toNat (0, ())).1 ^^^
 BitVec.ofInt IntKind.u8.bits z12.2.1).toNat :
 Int),
 ())),
 ()),
 (z12.2.2.1, z12.2.2.2.1.2)],
 ())
 else none
 else none
 else none
 else none
 else none
 else none
 else none
 else j11 (z12.2.2.2.1, z12.2.2.2.2.2)
noncomputable def sh4 (fuel : Nat) (x0 : List (Int × Unit)) (x1 : Ty0) (x2 : Int) (x3 : Int) : Option (Bool × Unit) :=
 if decide (60 < (↑x1.2.2.1.length : Int)) = true then (sp7 ()).bind fun r0 => some r0
 else
 (sp8 (x0, ())).bind fun r1 =>
 (sp9 r1).bind fun r2 =>
 (sp10 (r2.2.1, r2.1, 8, ())).bind fun r3 =>
 (sp11 r3.2).bind fun r4 => joinK sh4_K5 fun j11 => iter fuel (sh4_L12 fuel j11) (x2, x3, -1, x1, r4.2.1, r2.1, r3.1, r4.1, ())
noncomputable def sp4 (x : (List (Int × Unit)) × Ty0 × (Int) × (Int) × Unit) : Option (Bool × Unit) := sh4 100000 x.1 x.2.1 x.2.2.1 x.2.2.2.1
/-! 5 baggage/baggagelaw12.SensorExplains -/
def g5 : Sig := ⟨[.v (.ty (.sl (.cons (.int .i64) .nil)))], .v (.ty .bool)⟩
def h5 : HT := (nx (nx (nx (nx (nx (nx (nx (.n (.j ⟨[(4, .ref 1000 2), (5, .ref 1001 2), (6, .d (.ty (.sl ty2))), (7, .d (.ty (.sl ty2))), (8, .d (.ty (.sl ty0))), (44, dB)], [(1000, .box b0), (1001, .box b1)], []⟩ (.r .x) (.n (nx .e) .e)) (nx (.j ⟨[(7, .d (.ty (.sl ty2))), (10, dI)], [], []⟩ (nx (.u (.l ⟨[(4, .ref 1002 2), (5, .ref 1003 2), (6, .d (.ty (.sl ty2))), (7, .d (.ty (.sl ty2))), (8, .d (.ty (.sl ty0))), (10, dI), (11, dI)], [(1002, .box b0), (1003, .box b1)], []⟩ (.n (nx (.n .e .e)) (.n (.u (.n (.r .q) (.n (.j ⟨[(4, .ref 1004 2), (5, .ref 1005 2), (6, .d (.ty (.sl ty2))), (7, .d (.ty (.sl ty2))), (8, .d (.ty (.sl ty0))), (10, dI), (11, dI), (12, dI), (72, dB)], [(1004, .box b0), (1005, .box b1)], []⟩ (.r .x) (.n (nx .e) .e)) (.r .x)))) (.r .x)))))) (.j ⟨[(2, dB)], [], []⟩ (.r .x) .e)))))))))))
noncomputable def sh5_K8 (z8 : Bool × Unit) : Option (Bool × Unit) :=
 some z8
noncomputable def sh5_K7 (z7 : List Ty2 × Int × Unit) : Option (Bool × Unit) :=
 joinK sh5_K8 fun j9 => if (z7.2.1 == (↑z7.1.length : Int)) = true then (sp7 ()).bind fun r10 => j9 r10 else j9 (false, ())
noncomputable def sh5_K14 (rc12 : List Ty2 × List Ty2 × List Ty0 × Int × Int × Ty7 × Ty5 × Unit → Option (Bool × Unit)) (z14 : List Ty2 × List Ty2 × List Ty0 × Int × Int × Int × Bool × Ty7 × Ty5 × Unit) : Option (Bool × Unit) :=
 if z14.2.2.2.2.2.2.1 = true then some (false, ())
 else rc12 (z14.1, z14.2.1, z14.2.2.1, IntKind.i64.wrap (z14.2.2.2.1 + z14.2.2.2.2.2.1), IntKind.i64.wrap (z14.2.2.2.2.1 + 1), z14.2.2.2.2.2.2.2)
noncomputable def sh5_L12 (j11 : List Ty2 × Int × Unit → Option (Bool × Unit)) (rc12 : List Ty2 × List Ty2 × List Ty0 × Int × Int × Ty7 × Ty5 × Unit → Option (Bool × Unit)) (z12 : List Ty2 × List Ty2 × List Ty0 × Int × Int × Ty7 × Ty5 × Unit) : Option (Bool × Unit) :=
 if decide (z12.2.2.2.2.1 < (↑z12.2.2.1.length : Int)) = true then
 if inR z12.2.2.2.2.1 z12.2.2.1.length = true then
 (sp20 (z12.2.2.2.2.2.1, z12.2.2.2.2.2.2.1, z12.1, lAt (0, false, [], ()) z12.2.2.1 z12.2.2.2.2.1, ())).bind fun r13 =>
 joinK (sh5_K14 rc12) fun j15 =>
 if (!r13.1.2.1) = true then j15 (z12.1, z12.2.1, z12.2.2.1, z12.2.2.2.1, z12.2.2.2.2.1, r13.1.1, true, z12.2.2.2.2.2)
 else
 if inR z12.2.2.2.2.1 z12.2.2.1.length = true then
 j15
 (z12.1, z12.2.1, z12.2.2.1, z12.2.2.2.1, z12.2.2.2.2.1, r13.1.1, (lAt (0, false, [], ()) z12.2.2.1 z12.2.2.2.2.1).1 != z12.2.2.2.2.1,
 z12.2.2.2.2.2)
 else none
 else none
 else j11 (z12.2.1, z12.2.2.2.1, ())
noncomputable def sh5_K6 (fuel : Nat) (z6 : List Ty2 × List Ty2 × List Ty0 × Bool × Ty7 × Ty5 × Unit) : Option (Bool × Unit) :=
 if z6.2.2.2.1 = true then some (false, ()) else joinK sh5_K7 fun j11 => iter fuel (sh5_L12 j11) (z6.1, z6.2.1, z6.2.2.1, 0, 0, z6.2.2.2.2)
noncomputable def sh5 (fuel : Nat) (x0 : List (Int × Unit)) : Option (Bool × Unit) :=
 (sp8 (x0, ())).bind fun r0 =>
 (sp9 r0).bind fun r1 =>
 (sp10 (r1.2.1, r1.1, 8, ())).bind fun r2 =>
 (sp11 r2.2).bind fun r3 =>
 (sp12 (r3.2.1, r1.1, r2.1, 3, ())).bind fun r4 =>
 (sp14 (r1.1, r2.1, r3.1, r4.1, ())).bind fun r5 =>
 joinK (sh5_K6 fuel) fun j16 =>
 if (r5.1.2.1 != 0) = true then j16 (r3.1, r4.1, r5.1.1, true, r1.1, r2.1, ())
 else j16 (r3.1, r4.1, r5.1.1, (↑r5.1.1.length : Int) != (↑r1.1.2.1.length : Int), r1.1, r2.1, ())
noncomputable def sp5 (x : (List (Int × Unit)) × Unit) : Option (Bool × Unit) := sh5 100000 x.1
/-! 6 baggage/baggagelaw12.SensorIdentifies -/
def g6 : Sig := ⟨[.v (.ty (.sl (.cons (.int .i64) .nil))), .v (.ty (.int .i64))], .v (.ty .bool)⟩
def h6 : HT := (nx (nx (nx (nx (nx (.j ⟨[], [], []⟩ (nx (.u (.l ⟨[(1, dI), (6, .ref 1000 2), (7, .ref 1001 2), (8, .own 1002), (9, dI)], [(1000, .box b0), (1001, .box b1), (1002, .arr ty2)], []⟩ (.n (nx (.n .e .e)) (.j ⟨[(1, dI), (6, .ref 1006 2), (7, .ref 1007 2), (8, .own 1008), (9, dI)], [(1006, .box b0), (1007, .box b1), (1008, .arr ty2)], []⟩ (.u (nx (.n (nx (.n .e .e)) (nx (.n (.r .q) (.n (.r .q) (.j ⟨[(1, dI), (6, .ref 1003 2), (7, .ref 1004 2), (8, .own 1005), (9, dI), (82, dB)], [(1003, .box b0), (1004, .box b1), (1005, .arr ty2)], []⟩ (.r .x) (.n (nx .e) .e)))))))) (.r .x)))))) (nx .e)))))))
noncomputable def sh6_K4 (z4 : Unit) : Option (Bool × Unit) :=
 (sp7 ()).bind fun r5 => some r5
noncomputable def sh6_K8 (rc7 : Int × Int × Ty7 × Ty5 × List Ty2 × Unit → Option (Bool × Unit)) (z8 : Int × Int × Ty7 × Ty5 × List Ty2 × Unit) : Option (Bool × Unit) :=
 rc7 (z8.1, IntKind.i64.wrap (z8.2.1 + 1), z8.2.2)
noncomputable def sh6_K13 (j9 : Int × Int × Ty7 × Ty5 × List Ty2 × Unit → Option (Bool × Unit)) (z13 : Int × Int × Bool × Ty7 × Ty5 × List Ty2 × Unit) : Option (Bool × Unit) :=
 if z13.2.2.1 = true then some (false, ()) else j9 (z13.1, z13.2.1, z13.2.2.2)
noncomputable def sh6_L7 (j6 : Unit → Option (Bool × Unit)) (rc7 : Int × Int × Ty7 × Ty5 × List Ty2 × Unit → Option (Bool × Unit)) (z7 : Int × Int × Ty7 × Ty5 × List Ty2 × Unit) : Option (Bool × Unit) :=
 if decide (z7.2.1 < (↑z7.2.2.1.2.1.length : Int)) = true then
 joinK (sh6_K8 rc7) fun j9 =>
 if inR z7.2.1 z7.2.2.1.2.1.length = true then
 if ((lAt (0, 0, 0, ()) z7.2.2.1.2.1 z7.2.1).1 != 2) = true then j9 z7
 else
 (sp19 (z7.1, 12, ())).bind fun r10 =>
 if inR (IntKind.i64.wrap (IntKind.i64.wrap (1 + r10.1) - 1)) z7.2.2.2.2.1.length = true then
 if decide ((IntKind.i64.wrap (IntKind.i64.wrap (1 + r10.1) - 1)).toNat + 1 ≤ z7.2.2.2.2.1.length) = true then
 (sp17 (z7.2.2.2.2.1.getD (IntKind.i64.wrap (IntKind.i64.wrap (1 + r10.1) - 1)).toNat (0, 0, 0, ()), ())).bind fun r11 =>
 (sp20 (z7.2.2.1, z7.2.2.2.1, z7.2.2.2.2.1, (z7.2.1, true, r11), ())).bind fun r12 =>
 if inR (lAt (0, 0, 0, ()) z7.2.2.1.2.1 z7.2.1).2.1 z7.2.2.2.1.1.length = true then
 if
 inR (lAt (0, 0, 0, ()) z7.2.2.1.2.1 z7.2.1).2.2.1
 (List.length (lAt ([], ()) z7.2.2.2.1.1 (lAt (0, 0, 0, ()) z7.2.2.1.2.1 z7.2.1).2.1).1) =
 true then
 joinK (sh6_K13 j9) fun j14 =>
 if r12.1.2.1 = true then
 if
 (!(r12.1.1 == 0) ==
 ((lAt (0, ()) (lAt ([], ()) z7.2.2.2.1.1 (lAt (0, 0, 0, ()) z7.2.2.1.2.1 z7.2.1).2.1).1
 (lAt (0, 0, 0, ()) z7.2.2.1.2.1 z7.2.1).2.2.1).1 ==
 IntKind.i64.wrap (1 + r10.1))) =
 true then
 j14 (z7.1, z7.2.1, true, z7.2.2)
 else
 if
 ((lAt (0, ()) (lAt ([], ()) z7.2.2.2.1.1 (lAt (0, 0, 0, ()) z7.2.2.1.2.1 z7.2.1).2.1).1
 (lAt (0, 0, 0, ()) z7.2.2.1.2.1 z7.2.1).2.2.1).1 ==
 0) =
 true then
 j14 (z7.1, z7.2.1, r12.1.2.1, z7.2.2)
 else j14 (z7.1, z7.2.1, false, z7.2.2)
 else
 if
 (!false ==
 ((lAt (0, ()) (lAt ([], ()) z7.2.2.2.1.1 (lAt (0, 0, 0, ()) z7.2.2.1.2.1 z7.2.1).2.1).1
 (lAt (0, 0, 0, ()) z7.2.2.1.2.1 z7.2.1).2.2.1).1 ==
 IntKind.i64.wrap (1 + r10.1))) =
 true then
 j14 (z7.1, z7.2.1, true, z7.2.2)
 else
 if
 ((lAt (0, ()) (lAt ([], ()) z7.2.2.2.1.1 (lAt (0, 0, 0, ()) z7.2.2.1.2.1 z7.2.1).2.1).1
 (lAt (0, 0, 0, ()) z7.2.2.1.2.1 z7.2.1).2.2.1).1 ==
 0) =
 true then
 j14 (z7.1, z7.2.1, r12.1.2.1, z7.2.2)
 else j14 (z7.1, z7.2.1, false, z7.2.2)
 else none
 else none
 else none
 else none
 else none
 else j6 ()
noncomputable def sh6 (fuel : Nat) (x0 : List (Int × Unit)) (x1 : Int) : Option (Bool × Unit) :=
 (sp8 (x0, ())).bind fun r0 =>
 (sp9 r0).bind fun r1 =>
 (sp10 (r1.2.1, r1.1, 8, ())).bind fun r2 => (sp11 r2.2).bind fun r3 => joinK sh6_K4 fun j6 => iter fuel (sh6_L7 j6) (x1, 0, r1.1, r2.1, r3.1, ())
noncomputable def sp6 (x : (List (Int × Unit)) × (Int) × Unit) : Option (Bool × Unit) := sh6 100000 x.1 x.2.1
end Go.Proofs.YtjpikgfknnamjaaDoor
