/- What the functions of the program come to. -/
import Derived.Test.YtdkibgdkmnpncaaDoorLibG
import Derived.Test.YtdkibgdkmnpncaaDoorProg
import Derived.KernelRfl
open Go Go.Proofs Go.Abs
set_option linter.unusedVariables false
set_option maxRecDepth 100000
namespace Go.Proofs.YtdkibgdkmnpncaaDoor
def ty0 : Tys := .cons (.sl (.cons (.int .i64) .nil)) (.cons (.int .i64) .nil)
abbrev Ty0 : Type := List (Int × Unit) × Int × Unit
def ty1 : Tys := .cons (.int .i64) (.cons (.int .i64) (.cons (.int .i64) .nil))
abbrev Ty1 : Type := Int × Int × Int × Unit
def ty2 : Tys := .cons (.sl (.cons (.int .i64) .nil)) (.cons (.sl (.cons (.int .i64) .nil)) .nil)
abbrev Ty2 : Type := List (Int × Unit) × List (Int × Unit) × Unit
def ty3 : Tys := .cons .str (.cons (.int .i64) (.cons (.int .i64) (.cons (.int .i64) (.cons (.sl (.cons (.int .i64) .nil)) .nil))))
abbrev Ty3 : Type := List UInt8 × Int × Int × Int × List (Int × Unit) × Unit
def ty4 : Tys := .cons (.sl (.cons (.sl (.cons (.int .i64) .nil)) .nil)) (.cons (.sl (.cons (.sl (.cons (.int .i64) .nil)) .nil)) .nil)
abbrev Ty4 : Type := List (List (Int × Unit) × Unit) × List (List (Int × Unit) × Unit) × Unit
def ty5 : Tys := .cons .str (.cons (.int .i64) (.cons (.int .i64) (.cons (.int .i64) (.cons (.sl (.cons (.int .i64) .nil)) (.cons (.int .i64) (.cons (.int .i64) (.cons (.int .i64) (.cons (.sl (.cons .str .nil)) .nil))))))))
abbrev Ty5 : Type := List UInt8 × Int × Int × Int × List (Int × Unit) × Int × Int × Int × List (List UInt8 × Unit) × Unit
def ty6 : Tys := .cons (.sl ty3) (.cons (.sl ty1) .nil)
abbrev Ty6 : Type := List Ty3 × List Ty1 × Unit
def ty7 : Tys := .cons (.sl ty3) (.cons (.sl ty1) (.cons (.sl (.cons (.int .i64) .nil)) .nil))
abbrev Ty7 : Type := List Ty3 × List Ty1 × List (Int × Unit) × Unit
abbrev XI : Type := List (Int × Unit)
abbrev XL : Type := List (XI × Unit)
abbrev XB : Type := Option (Bool × Unit)
abbrev XO0 : Type := Option (Int × Unit)
abbrev XO1 : Type := Option (XI × Unit)
abbrev XO2 : Type := Option (Int × Ty7 × Unit)
abbrev XO3 : Type := Option (List Ty1 × Ty0 × Unit)
def dI : PSlot := .d (.ty (.int .i64))
def dS : PSlot := .d (.ty .str)
def dB : PSlot := .d (.ty .bool)
def dL : PSlot := .d (.ty (.sl (.cons (.int .i64) .nil)))
def nx (a : HT) : HT := .n (.r .x) a
abbrev Tz0 : Type := List UInt8 × Int × Int × Int × Int × Int × Int × Unit
abbrev Tz1 : Type := List UInt8 × Unit
abbrev Tz2 : Type := List Ty0 × Int × Unit
abbrev Tz3 : Type := List Ty2 × Ty1 × Unit
def b0 : List PC := [.d (.sl ty3), .d (.sl ty1)]
def b1 : List PC := [.d (.sl (.cons (.int .i64) .nil)), .d (.int .i64)]
def b2 : List PC := [.d .str, .d (.int .i64), .d (.int .i64), .d (.int .i64), .d (.sl (.cons (.int .i64) .nil))]
def b3 : List PC := [.d (.sl ty3), .d (.sl ty1), .d (.sl (.cons (.int .i64) .nil))]
def b4 : List PC := [.d (.sl (.cons (.sl (.cons (.int .i64) .nil)) .nil)), .d (.sl (.cons (.sl (.cons (.int .i64) .nil)) .nil))]
def b5 : List PC := [.d (.int .i64), .d (.int .i64), .d (.int .i64)]
def b6 : List PC := [.d (.sl (.cons (.int .i64) .nil)), .d (.sl (.cons (.int .i64) .nil))]
noncomputable def bd (f : Func) : Code := f.body.getD .skip
def G : List (Nat × TD) := [(3, .int .i64), (4, .bool), (5, .int .u8), (9, .str), (22, .slice (.cons (.int .i64) .nil) 8), (23, .nl .nilP), (25, .slice ty3 64), (26, .slice ty1 24), (28, .struct ty6 [(0, false, 1), (1, false, 1)] false), (30, .slice (.cons (.sl (.cons (.int .i64) .nil)) .nil) 24), (32, .struct ty4 [(0, false, 1), (1, false, 1)] false), (36, .struct ty2 [(0, false, 1), (1, false, 1)] false), (37, .int .i64), (40, .slice ty1 24), (43, .struct ty3 [(0, false, 1), (1, false, 1), (2, false, 1), (3, false, 1), (4, false, 1)] false), (47, .slice (.cons .bool .nil) 1), (52, .struct ty1 [(0, false, 1), (1, false, 1), (2, false, 1)] true), (53, .slice (.cons (.sl ty1) .nil) 24), (58, .struct ty0 [(0, false, 1), (1, false, 1)] false), (60, .slice (.cons (.int .u8) .nil) 1), (64, .nl .nilP), (78, .struct ty1 [(0, false, 1), (1, false, 1), (2, false, 1)] true), (81, .struct ty7 [(0, true, 2), (2, false, 1)] false), (84, .nl .nilF), (87, .nl .nilF), (89, .int .u64), (92, .slice (.cons .str .nil) 16), (94, .slice ty5 112), (96, .struct ty5 [(0, true, 5), (5, true, 3), (8, false, 1)] false), (105, .nl .nilF), (110, .int .u32), (112, .int .u64), (119, .map .i64 .i64), (123, .arr 32 (.cons (.int .u8) .nil)), (124, .arr 64 (.cons (.int .u8) .nil)), (126, .nl .nilF)]
def lit0 : List UInt8 := [101, 110, 116, 114, 121, 32, 65, 32, 49, 32, 48, 32, 62, 32, 68, 10, 98, 101, 108, 116, 32, 66, 32, 49, 32, 48, 32, 62, 32, 68, 10, 98, 101, 108, 116, 32, 67, 32, 49, 32, 48, 32, 62, 32, 68, 10, 98, 101, 108, 116, 32, 68, 32, 49, 32, 48, 32, 62, 32, 77, 10, 109, 97, 110, 117, 97, 108, 32, 77, 32, 48, 10]
/-! 85 slices.Index[[]int,int] -/
def g85 : Sig := ⟨[.v (.ty (.sl (.cons (.int .i64) .nil))), .v (.ty (.int .i64))], .v (.ty (.int .i64))⟩
def h85 : HT := (nx (.j ⟨[], [], []⟩ (nx (.u (.l ⟨[(0, dL), (1, dI), (7, dI), (8, dI)], [], []⟩ (nx (.n (.n .e .e) (.n (.u (nx (nx (.n (nx .e) .e)))) (.r .x))))))) (nx .e)))
noncomputable def sh85_K0 (z0 : Unit) : XO0 :=
 some (-1, ())
noncomputable def sh85_L2 (j1 : Unit → XO0) (rc2 : XI × Int × Int × Int × Unit → XO0) (z2 : XI × Int × Int × Int × Unit) : XO0 :=
 if decide (z2.2.2.2.1 < z2.2.2.1) = true then
 if inR z2.2.2.2.1 z2.1.length = true then
 if (z2.2.1 == (lAt (0, ()) z2.1 z2.2.2.2.1).1) = true then some z2.2.2.2 else rc2 (z2.1, z2.2.1, z2.2.2.1, IntKind.i64.wrap (z2.2.2.2.1 + 1), ())
 else none
 else j1 ()
noncomputable def sh85 (fuel : Nat) (x0 : XI) (x1 : Int) : XO0 :=
 joinK sh85_K0 fun j1 => iter fuel (sh85_L2 j1) (x0, x1, (↑x0.length : Int), 0, ())
noncomputable def sp85 (x : (XI) × (Int) × Unit) : XO0 := sh85 100000 x.1 x.2.1
/-! 66 slices.Contains[[]int,int] -/
def g66 : Sig := ⟨[.v (.ty (.sl (.cons (.int .i64) .nil))), .v (.ty (.int .i64))], .v (.ty .bool)⟩
def h66 : HT := (nx (nx .e))
noncomputable def sh66 (fuel : Nat) (x0 : XI) (x1 : Int) : XB :=
 (sp85 (x0, x1, ())).bind fun r0 => some (decide (0 ≤ r0.1), ())
noncomputable def sp66 (x : (XI) × (Int) × Unit) : XB := sh66 0 x.1 x.2.1
/-! 48 baggage/fields.Strip -/
def g48 : Sig := ⟨[.v (.ty (.int .i64))], .v (.ty .bool)⟩
def h48 : HT := (nx (.j ⟨[(2, dB)], [], []⟩ (.r .x) .e))
noncomputable def sh48_K0 (z0 : Bool × Unit) : XB :=
 some z0
noncomputable def sh48 (fuel : Nat) (x0 : Int) : XB :=
 joinK sh48_K0 fun j1 => if decide (1 ≤ x0) = true then j1 (decide (x0 ≤ 6), ()) else j1 (false, ())
noncomputable def sp48 (x : (Int) × Unit) : XB := sh48 0 x.1
/-! 86 slices.Index[[]baggage/api.Fault,baggage/api.Fault] -/
def g86 : Sig := ⟨[.v (.ty (.sl ty1)), .v (.ag ty1)], .v (.ty (.int .i64))⟩
def h86 : HT := (nx (.j ⟨[], [], []⟩ (nx (.u (.l ⟨[(0, .d (.ty (.sl ty1))), (3, .ref 1000 3), (7, dI), (8, dI)], [(1000, .box b5)], []⟩ (nx (.n (.n .e .e) (.n (.u (nx (.n (.r .q) (.n (nx .e) .e)))) (.r .x))))))) (nx .e)))
noncomputable def sh86_K0 (z0 : Unit) : XO0 :=
 some (-1, ())
noncomputable def sh86_L2 (j1 : Unit → XO0) (rc2 : List Ty1 × Int × Int × Ty1 × Unit → XO0) (z2 : List Ty1 × Int × Int × Ty1 × Unit) : XO0 :=
 if decide (z2.2.2.1 < z2.2.1) = true then
 if inR z2.2.2.1 z2.1.length = true then
 if
 (z2.2.2.2.1.1 == (lAt (0, 0, 0, ()) z2.1 z2.2.2.1).1 &&
 (z2.2.2.2.1.2.1 == (lAt (0, 0, 0, ()) z2.1 z2.2.2.1).2.1 && (z2.2.2.2.1.2.2.1 == (lAt (0, 0, 0, ()) z2.1 z2.2.2.1).2.2.1 && true))) =
 true then
 some (z2.2.2.1, ())
 else rc2 (z2.1, z2.2.1, IntKind.i64.wrap (z2.2.2.1 + 1), z2.2.2.2)
 else none
 else j1 ()
noncomputable def sh86 (fuel : Nat) (x0 : List Ty1) (x1 : Ty1) : XO0 :=
 joinK sh86_K0 fun j1 => iter fuel (sh86_L2 j1) (x0, (↑x0.length : Int), 0, x1, ())
noncomputable def sp86 (x : (List Ty1) × Ty1 × Unit) : XO0 := sh86 100000 x.1 x.2.1
/-! 67 slices.Contains[[]baggage/api.Fault,baggage/api.Fault] -/
def g67 : Sig := ⟨[.v (.ty (.sl ty1)), .v (.ag ty1)], .v (.ty .bool)⟩
def h67 : HT := (nx (nx .e))
noncomputable def sh67 (fuel : Nat) (x0 : List Ty1) (x1 : Ty1) : XB :=
 (sp86 (x0, x1, ())).bind fun r0 => some (decide (0 ≤ r0.1), ())
noncomputable def sp67 (x : (List Ty1) × Ty1 × Unit) : XB := sh67 0 x.1 x.2.1
/-! 45 (*baggage/engine.Plan).wanted -/
def g45 : Sig := ⟨[.bx ty7, .v (.ag ty4), .v (.ty (.int .i64)), .v (.ty (.int .i64)), .v (.ty (.sl ty1))], .v (.ty (.int .i64))⟩
def h45 : HT := (nx (nx (.n (.u (nx (.n (.n (nx (.n (nx .e) .e)) (nx .e)) (nx (.n (nx .e) .e))))) (nx (.n (.j ⟨[(3, dI), (55, dB)], [(900000, .box b3)], []⟩ (.r .x) (.n (nx .e) .e)) (nx .e))))))
noncomputable def sh45_K2 (z2 : Int × Bool × Ty7 × Unit) : XO2 :=
 if z2.2.1 = true then some (-1, z2.2.2) else some (z2.1, z2.2.2)
noncomputable def sh45 (fuel : Nat) (x0 : Ty7) (x1 : Ty4) (x2 : Int) (x3 : Int) (x4 : List Ty1) : XO2 :=
 if inR x2 x0.1.length = true then
 if ((lAt ([], 0, 0, 0, [], ()) x0.1 x2).2.1 == 7) = true then
 if inR x2 x1.2.1.length = true then
 (sp66 ((lAt ([], ()) x1.2.1 x2).1, x3, ())).bind fun r0 => if r0.1 = true then some (0, x0, ()) else some (-1, x0, ())
 else none
 else
 (sp48 ((lAt ([], 0, 0, 0, [], ()) x0.1 x2).2.1, ())).bind fun r1 =>
 if (!r1.1) = true then some (-1, x0, ())
 else
 joinK sh45_K2 fun j3 =>
 if inR x2 x1.1.length = true then
 if inR (IntKind.i64.wrap ((lAt ([], 0, 0, 0, [], ()) x0.1 x2).2.2.1 - 1)) (List.length (lAt ([], ()) x1.1 x2).1) = true then
 if ((lAt (0, ()) (lAt ([], ()) x1.1 x2).1 (IntKind.i64.wrap ((lAt ([], 0, 0, 0, [], ()) x0.1 x2).2.2.1 - 1))).1 == 0) = true then
 j3 (x3, true, x0, ())
 else (sp67 (x4, (1, x2, IntKind.i64.wrap ((lAt ([], 0, 0, 0, [], ()) x0.1 x2).2.2.1 - 1), ()), ())).bind fun r4 => j3 (x3, r4.1, x0, ())
 else none
 else none
 else none
noncomputable def sp45 (x : Ty7 × Ty4 × (Int) × (Int) × (List Ty1) × Unit) : XO2 := sh45 0 x.1 x.2.1 x.2.2.1 x.2.2.2.1 x.2.2.2.2.1
/-! 47 (*baggage/engine.Plan).comers -/
def g47 : Sig := ⟨[.bx ty7, .v (.ty (.sl (.cons (.int .i64) .nil))), .v (.ty (.int .i64))], .v (.ty (.int .u64))⟩
def h47 : HT := (nx (nx (.j ⟨[(7, .d (.ty (.int .u64)))], [(900000, .box b3)], []⟩ (nx (.u (.l ⟨[(0, .ref 900000 3), (2, dI), (7, .d (.ty (.int .u64))), (10, dL), (11, dI), (12, dI)], [(900000, .box b3)], []⟩ (nx (.n (.n .e .e) (.j ⟨[(0, .ref 900000 3), (2, dI), (7, .d (.ty (.int .u64))), (10, dL), (11, dI), (12, dI)], [(900000, .box b3)], []⟩ (.u (nx (.j ⟨[(0, .ref 900000 3), (2, dI), (7, .d (.ty (.int .u64))), (8, dI), (10, dL), (11, dI), (12, dI), (39, dB)], [(900000, .box b3)], []⟩ (.r .x) (nx .e)))) (.r .x))))))) (nx .e))))
noncomputable def sh47_K0 (z0 : Int × Ty7 × Unit) : XO2 :=
 some z0
noncomputable def sh47_K3 (rc2 : Int × Int × XI × Int × Int × Ty7 × Unit → XO2) (z3 : Int × Int × XI × Int × Int × Ty7 × Unit) : XO2 :=
 rc2 (z3.1, z3.2.1, z3.2.2.1, z3.2.2.2.1, IntKind.i64.wrap (z3.2.2.2.2.1 + 1), z3.2.2.2.2.2)
noncomputable def sh47_K5 (j4 : Int × Int × XI × Int × Int × Ty7 × Unit → XO2) (z5 : Int × Int × Int × XI × Int × Int × Bool × Ty7 × Unit) : XO2 :=
 if z5.2.2.2.2.2.2.1 = true then
 if decide (0 ≤ z5.2.2.1) = true then
 j4
 (z5.1,
 IntKind.u64.wrap
 (↑(BitVec.ofInt IntKind.u64.bits z5.2.1 |||
 BitVec.ofInt IntKind.u64.bits (IntKind.u64.wrap (1 * 2 ^ min z5.2.2.1.toNat IntKind.u64.bits))).toNat :
 Int),
 z5.2.2.2.1, z5.2.2.2.2.1, z5.2.2.2.2.2.1, z5.2.2.2.2.2.2.2)
 else none
 else j4 (z5.1, z5.2.1, z5.2.2.2.1, z5.2.2.2.2.1, z5.2.2.2.2.2.1, z5.2.2.2.2.2.2.2)
noncomputable def sh47_L2 (j1 : Int × Ty7 × Unit → XO2) (rc2 : Int × Int × XI × Int × Int × Ty7 × Unit → XO2) (z2 : Int × Int × XI × Int × Int × Ty7 × Unit) : XO2 :=
 if decide (z2.2.2.2.2.1 < z2.2.2.2.1) = true then
 joinK (sh47_K3 rc2) fun j4 =>
 if inR z2.2.2.2.2.1 z2.2.2.1.length = true then
 joinK (sh47_K5 j4) fun j6 =>
 if (z2.2.2.2.2.1 != z2.1) = true then
 if decide (0 ≤ (lAt (0, ()) z2.2.2.1 z2.2.2.2.2.1).1) = true then
 if inR z2.2.2.2.2.1 z2.2.2.2.2.2.1.1.length = true then
 if
 inR (lAt (0, ()) z2.2.2.1 z2.2.2.2.2.1).1 (List.length (lAt ([], 0, 0, 0, [], ()) z2.2.2.2.2.2.1.1 z2.2.2.2.2.1).2.2.2.2.1) =
 true then
 j6
 (z2.1, z2.2.1, z2.2.2.2.2.1, z2.2.2.1, z2.2.2.2.1, z2.2.2.2.2.1,
 (lAt (0, ()) (lAt ([], 0, 0, 0, [], ()) z2.2.2.2.2.2.1.1 z2.2.2.2.2.1).2.2.2.2.1 (lAt (0, ()) z2.2.2.1 z2.2.2.2.2.1).1).1 == z2.1,
 z2.2.2.2.2.2)
 else none
 else none
 else j6 (z2.1, z2.2.1, z2.2.2.2.2.1, z2.2.2.1, z2.2.2.2.1, z2.2.2.2.2.1, false, z2.2.2.2.2.2)
 else j6 (z2.1, z2.2.1, z2.2.2.2.2.1, z2.2.2.1, z2.2.2.2.1, z2.2.2.2.2.1, false, z2.2.2.2.2.2)
 else none
 else j1 (z2.2.1, z2.2.2.2.2.2)
noncomputable def sh47 (fuel : Nat) (x0 : Ty7) (x1 : XI) (x2 : Int) : XO2 :=
 joinK sh47_K0 fun j1 => iter fuel (sh47_L2 j1) (x2, 0, x1, (↑x1.length : Int), 0, x0, ())
noncomputable def sp47 (x : Ty7 × (XI) × (Int) × Unit) : XO2 := sh47 100000 x.1 x.2.1 x.2.2.1
/-! 69 math/bits.TrailingZeros32 -/
def g69 : Sig := ⟨[.v (.ty (.int .u32))], .v (.ty (.int .i64))⟩
def h69 : HT := (nx (.n (nx (.n (nx .e) .e)) (nx .e)))
noncomputable def sh69 (fuel : Nat) (x0 : Int) : XO0 :=
 if (x0 == 0) = true then some (32, ())
 else
 if decide (0 ≤ 27) = true then
 if
 inR
 ((IntKind.u32.wrap
 (IntKind.u32.wrap (↑(BitVec.ofInt IntKind.u32.bits x0 &&& BitVec.ofInt IntKind.u32.bits (IntKind.u32.wrap (0 - x0))).toNat : Int) *
 125613361)).fdiv
 (2 ^ min (Int.toNat 27) IntKind.u32.bits))
 32 =
 true then
 if
 inR
 ((IntKind.u32.wrap
 (IntKind.u32.wrap
 (↑(BitVec.ofInt IntKind.u32.bits x0 &&& BitVec.ofInt IntKind.u32.bits (IntKind.u32.wrap (0 - x0))).toNat : Int) *
 125613361)).fdiv
 (2 ^ min (Int.toNat 27) IntKind.u32.bits))
 [(0, ()), (1, ()), (28, ()), (2, ()), (29, ()), (14, ()), (24, ()), (3, ()), (30, ()), (22, ()), (20, ()), (15, ()), (25, ()), (17, ()),
 (4, ()), (8, ()), (31, ()), (27, ()), (13, ()), (23, ()), (21, ()), (19, ()), (16, ()), (7, ()), (26, ()), (12, ()), (18, ()),
 (6, ()), (11, ()), (5, ()), (10, ()), (9, ())].length =
 true then
 some
 (IntKind.i64.wrap
 (lAt (0, ())
 [(0, ()), (1, ()), (28, ()), (2, ()), (29, ()), (14, ()), (24, ()), (3, ()), (30, ()), (22, ()), (20, ()), (15, ()), (25, ()),
 (17, ()), (4, ()), (8, ()), (31, ()), (27, ()), (13, ()), (23, ()), (21, ()), (19, ()), (16, ()), (7, ()), (26, ()), (12, ()),
 (18, ()), (6, ()), (11, ()), (5, ()), (10, ()), (9, ())]
 ((IntKind.u32.wrap
 (IntKind.u32.wrap
 (↑(BitVec.ofInt IntKind.u32.bits x0 &&& BitVec.ofInt IntKind.u32.bits (IntKind.u32.wrap (0 - x0))).toNat : Int) *
 125613361)).fdiv
 (2 ^ min (Int.toNat 27) IntKind.u32.bits))).1,
 ())
 else none
 else none
 else none
noncomputable def sp69 (x : (Int) × Unit) : XO0 := sh69 0 x.1
/-! 70 math/bits.TrailingZeros64 -/
def g70 : Sig := ⟨[.v (.ty (.int .u64))], .v (.ty (.int .i64))⟩
def h70 : HT := (nx (.n (nx (.n (nx .e) .e)) (nx .e)))
noncomputable def sh70 (fuel : Nat) (x0 : Int) : XO0 :=
 if (x0 == 0) = true then some (64, ())
 else
 if decide (0 ≤ 58) = true then
 if
 inR
 ((IntKind.u64.wrap
 (IntKind.u64.wrap (↑(BitVec.ofInt IntKind.u64.bits x0 &&& BitVec.ofInt IntKind.u64.bits (IntKind.u64.wrap (0 - x0))).toNat : Int) *
 285870213051353865)).fdiv
 (2 ^ min (Int.toNat 58) IntKind.u64.bits))
 64 =
 true then
 if
 inR
 ((IntKind.u64.wrap
 (IntKind.u64.wrap
 (↑(BitVec.ofInt IntKind.u64.bits x0 &&& BitVec.ofInt IntKind.u64.bits (IntKind.u64.wrap (0 - x0))).toNat : Int) *
 285870213051353865)).fdiv
 (2 ^ min (Int.toNat 58) IntKind.u64.bits))
 [(0, ()), (1, ()), (56, ()), (2, ()), (57, ()), (49, ()), (28, ()), (3, ()), (61, ()), (58, ()), (42, ()), (50, ()), (38, ()), (29, ()),
 (17, ()), (4, ()), (62, ()), (47, ()), (59, ()), (36, ()), (45, ()), (43, ()), (51, ()), (22, ()), (53, ()), (39, ()), (33, ()),
 (30, ()), (24, ()), (18, ()), (12, ()), (5, ()), (63, ()), (55, ()), (48, ()), (27, ()), (60, ()), (41, ()), (37, ()), (16, ()),
 (46, ()), (35, ()), (44, ()), (21, ()), (52, ()), (32, ()), (23, ()), (11, ()), (54, ()), (26, ()), (40, ()), (15, ()), (34, ()),
 (20, ()), (31, ()), (10, ()), (25, ()), (14, ()), (19, ()), (9, ()), (13, ()), (8, ()), (7, ()), (6, ())].length =
 true then
 some
 (IntKind.i64.wrap
 (lAt (0, ())
 [(0, ()), (1, ()), (56, ()), (2, ()), (57, ()), (49, ()), (28, ()), (3, ()), (61, ()), (58, ()), (42, ()), (50, ()), (38, ()),
 (29, ()), (17, ()), (4, ()), (62, ()), (47, ()), (59, ()), (36, ()), (45, ()), (43, ()), (51, ()), (22, ()), (53, ()), (39, ()),
 (33, ()), (30, ()), (24, ()), (18, ()), (12, ()), (5, ()), (63, ()), (55, ()), (48, ()), (27, ()), (60, ()), (41, ()), (37, ()),
 (16, ()), (46, ()), (35, ()), (44, ()), (21, ()), (52, ()), (32, ()), (23, ()), (11, ()), (54, ()), (26, ()), (40, ()), (15, ()),
 (34, ()), (20, ()), (31, ()), (10, ()), (25, ()), (14, ()), (19, ()), (9, ()), (13, ()), (8, ()), (7, ()), (6, ())]
 ((IntKind.u64.wrap
 (IntKind.u64.wrap
 (↑(BitVec.ofInt IntKind.u64.bits x0 &&& BitVec.ofInt IntKind.u64.bits (IntKind.u64.wrap (0 - x0))).toNat : Int) *
 285870213051353865)).fdiv
 (2 ^ min (Int.toNat 58) IntKind.u64.bits))).1,
 ())
 else none
 else none
 else none
noncomputable def sp70 (x : (Int) × Unit) : XO0 := sh70 0 x.1
/-! 49 math/bits.TrailingZeros -/
def g49 : Sig := ⟨[.v (.ty (.int .u64))], .v (.ty (.int .i64))⟩
def h49 : HT := (nx (.n (.n (nx .e) .e) (nx .e)))
noncomputable def sh49 (fuel : Nat) (x0 : Int) : XO0 :=
 (sp70 (x0, ())).bind fun r0 => some r0
noncomputable def sp49 (x : (Int) × Unit) : XO0 := sh49 0 x.1
/-! 54 baggage/strip.Free -/
def g54 : Sig := ⟨[.v (.ty (.sl (.cons (.int .i64) .nil)))], .v (.ty (.int .i64))⟩
def h54 : HT := (nx (nx (.j ⟨[(3, dI)], [], []⟩ (nx (.u (.l ⟨[(3, dI), (6, dL), (7, dI), (8, dI)], [], []⟩ (nx (.n (.n .e .e) (.j ⟨[(3, dI), (6, dL), (7, dI), (8, dI)], [], []⟩ (.u (nx (nx (nx .e)))) (.r .x))))))) (nx .e))))
noncomputable def sh54_K0 (z0 : Int × Unit) : XO0 :=
 some z0
noncomputable def sh54_K3 (rc2 : Int × XI × Int × Int × Unit → XO0) (z3 : Int × XI × Int × Int × Unit) : XO0 :=
 rc2 (z3.1, z3.2.1, z3.2.2.1, IntKind.i64.wrap (z3.2.2.2.1 + 1), ())
noncomputable def sh54_L2 (j1 : Int × Unit → XO0) (rc2 : Int × XI × Int × Int × Unit → XO0) (z2 : Int × XI × Int × Int × Unit) : XO0 :=
 if decide (z2.2.2.2.1 < z2.2.2.1) = true then
 joinK (sh54_K3 rc2) fun j4 =>
 if inR z2.2.2.2.1 z2.2.1.length = true then
 if ((lAt (0, ()) z2.2.1 z2.2.2.2.1).1 == 0) = true then j4 (IntKind.i64.wrap (z2.1 + 1), z2.2) else j4 z2
 else none
 else j1 (z2.1, ())
noncomputable def sh54 (fuel : Nat) (x0 : XI) : XO0 :=
 joinK sh54_K0 fun j1 => iter fuel (sh54_L2 j1) (0, x0, (↑x0.length : Int), 0, ())
noncomputable def sp54 (x : (XI) × Unit) : XO0 := sh54 100000 x.1
/-! 31 (*baggage/engine.Plan).Open -/
def g31 : Sig := ⟨[.bx ty7, .v (.ag ty4), .v (.ty (.int .i64))], .v (.ty .bool)⟩
def h31 : HT := (nx (.n (.u (nx (.n (nx .e) (.j ⟨[(2, dI), (4, .ref 1000 2), (19, dB)], [(900000, .box b3), (1000, .box b4)], []⟩ (.r .x) (.n (nx .e) .e))))) (nx .e)))
noncomputable def sh31_K1 (z1 : Int × Bool × Ty7 × Ty4 × Unit) : Option (Bool × Ty7 × Unit) :=
 if z1.2.1 = true then some (false, z1.2.2.1, ())
 else
 if inR z1.1 z1.2.2.2.1.1.length = true then
 if inR 0 (List.length (lAt ([], ()) z1.2.2.2.1.1 z1.1).1) = true then
 some ((lAt (0, ()) (lAt ([], ()) z1.2.2.2.1.1 z1.1).1 0).1 == 0, z1.2.2.1, ())
 else none
 else none
noncomputable def sh31 (fuel : Nat) (x0 : Ty7) (x1 : Ty4) (x2 : Int) : Option (Bool × Ty7 × Unit) :=
 if inR x2 x0.1.length = true then
 (sp48 ((lAt ([], 0, 0, 0, [], ()) x0.1 x2).2.1, ())).bind fun r0 =>
 if (!r0.1) = true then some (true, x0, ())
 else
 joinK sh31_K1 fun j2 =>
 if inR x2 x0.1.length = true then
 if ((lAt ([], 0, 0, 0, [], ()) x0.1 x2).2.1 == 5) = true then
 if inR x2 x1.1.length = true then (sp54 (lAt ([], ()) x1.1 x2)).bind fun r3 => j2 (x2, decide (r3.1 < 2), x0, x1, ()) else none
 else j2 (x2, false, x0, x1, ())
 else none
 else none
noncomputable def sp31 (x : Ty7 × Ty4 × (Int) × Unit) : Option (Bool × Ty7 × Unit) := sh31 0 x.1 x.2.1 x.2.2.1
/-! 38 baggage/baggageref10.At -/
def g38 : Sig := ⟨[.v (.ag ty6), .v (.ty (.sl ty1)), .v (.ty (.int .i64))], .own (.cons (.int .i64) .nil)⟩
def h38 : HT := (nx (nx (.j ⟨[(7, .own 1003)], [(1003, .arr (.cons (.int .i64) .nil))], []⟩ (nx (.u (.l ⟨[(1, .d (.ty (.sl ty1))), (2, dI), (7, .own 1000), (8, dI)], [(1000, .arr (.cons (.int .i64) .nil))], []⟩ (.n (nx (.n .e .e)) (.j ⟨[(1, .d (.ty (.sl ty1))), (2, dI), (7, .own 1001), (8, dI)], [(1001, .arr (.cons (.int .i64) .nil))], []⟩ (.u (nx (.n (.r (.qt 12)) .e))) (.r .x)))))) (nx .e))))
noncomputable def sh38_K0 (z0 : XI × Unit) : XO1 :=
 some z0
noncomputable def sh38_K3 (rc2 : List Ty1 × Int × Int × XI × Unit → XO1) (z3 : List Ty1 × Int × Int × XI × Unit) : XO1 :=
 rc2 (z3.1, z3.2.1, IntKind.i64.wrap (z3.2.2.1 + 1), z3.2.2.2)
noncomputable def sh38_L2 (j1 : XI × Unit → XO1) (rc2 : List Ty1 × Int × Int × XI × Unit → XO1) (z2 : List Ty1 × Int × Int × XI × Unit) : XO1 :=
 if decide (z2.2.2.1 < (↑z2.1.length : Int)) = true then
 joinK (sh38_K3 rc2) fun j4 =>
 if inR z2.2.2.1 z2.1.length = true then
 if ((lAt (0, 0, 0, ()) z2.1 z2.2.2.1).2.1 == z2.2.1) = true then
 if inR z2.2.2.1 z2.1.length = true then
 if inR z2.2.2.1 z2.1.length = true then
 if inR (lAt (0, 0, 0, ()) z2.1 z2.2.2.1).2.2.1 z2.2.2.2.1.length = true then
 if decide (Int.toNat (lAt (0, 0, 0, ()) z2.1 z2.2.2.1).2.2.1 + 1 ≤ z2.2.2.2.1.length) = true then
 j4
 (z2.1, z2.2.1, z2.2.2.1,
 z2.2.2.2.1.set (Int.toNat (lAt (0, 0, 0, ()) z2.1 z2.2.2.1).2.2.1) ((lAt (0, 0, 0, ()) z2.1 z2.2.2.1).1, ()), ())
 else none
 else none
 else none
 else none
 else j4 z2
 else none
 else j1 z2.2.2.2
noncomputable def sh38 (fuel : Nat) (x0 : Ty6) (x1 : List Ty1) (x2 : Int) : XO1 :=
 if inR x2 x0.1.length = true then
 if decide (0 ≤ (lAt ([], 0, 0, 0, [], ()) x0.1 x2).2.2.1) = true then
 if decide ((lAt ([], 0, 0, 0, [], ()) x0.1 x2).2.2.1 ≤ (lAt ([], 0, 0, 0, [], ()) x0.1 x2).2.2.1) = true then
 if decide ((lAt ([], 0, 0, 0, [], ()) x0.1 x2).2.2.1 ≤ (↑Abs.lim : Int)) = true then
 if decide ((↑8 : Int) * (lAt ([], 0, 0, 0, [], ()) x0.1 x2).2.2.1 ≤ (↑Abs.lim : Int)) = true then
 joinK sh38_K0 fun j1 => iter fuel (sh38_L2 j1) (x1, x2, 0, List.replicate (Int.toNat (lAt ([], 0, 0, 0, [], ()) x0.1 x2).2.2.1) (0, ()), ())
 else none
 else none
 else none
 else none
 else none
noncomputable def sp38 (x : Ty6 × (List Ty1) × (Int) × Unit) : XO1 := sh38 100000 x.1 x.2.1 x.2.2.1
/-! 23 baggage/baggagekeep.In -/
def g23 : Sig := ⟨[.v (.ty (.sl (.cons (.int .i64) .nil))), .v (.ty (.int .i64))], .v (.ty .bool)⟩
def h23 : HT := (nx (.j ⟨[], [], []⟩ (nx (.u (.l ⟨[(0, dL), (1, dI), (5, dI)], [], []⟩ (.n (nx (.n .e .e)) (.n (.u (nx (.n (nx .e) .e))) (.r .x)))))) (nx .e)))
noncomputable def sh23_K0 (z0 : Unit) : XB :=
 some (false, ())
noncomputable def sh23_L2 (j1 : Unit → XB) (rc2 : XI × Int × Int × Unit → XB) (z2 : XI × Int × Int × Unit) : XB :=
 if decide (z2.2.2.1 < (↑z2.1.length : Int)) = true then
 if inR z2.2.2.1 z2.1.length = true then
 if ((lAt (0, ()) z2.1 z2.2.2.1).1 == z2.2.1) = true then some (true, ()) else rc2 (z2.1, z2.2.1, IntKind.i64.wrap (z2.2.2.1 + 1), ())
 else none
 else j1 ()
noncomputable def sh23 (fuel : Nat) (x0 : XI) (x1 : Int) : XB :=
 joinK sh23_K0 fun j1 => iter fuel (sh23_L2 j1) (x0, x1, 0, ())
noncomputable def sp23 (x : (XI) × (Int) × Unit) : XB := sh23 100000 x.1 x.2.1
/-! 7 baggage/baggagekeep.New -/
def g7 : Sig := ⟨[.v (.ty (.sl (.cons (.int .i64) .nil)))], .box ty0⟩
def h7 : HT := (nx (.j ⟨[(0, dL)], [], []⟩ (nx (nx .e)) (nx .e)))
noncomputable def sh7_K0 (z0 : XI × Unit) : Option (Ty0 × Unit) :=
 some ((z0.1, 0, ()), ())
noncomputable def sh7 (fuel : Nat) (x0 : XI) : Option (Ty0 × Unit) :=
 joinK sh7_K0 fun j1 =>
 if decide (2000 < (↑x0.length : Int)) = true then if inCut 0 2000 x0.length = true then j1 (cutL x0 0 2000, ()) else none else j1 (x0, ())
noncomputable def sp7 (x : (XI) × Unit) : Option (Ty0 × Unit) := sh7 0 x.1
/-! 34 (*baggage/baggagekeep.Src).Raw -/
def g34 : Sig := ⟨[.bx ty0], .v (.ty (.int .i64))⟩
def h34 : HT := (nx (.n (.n (.r .q) (.n (nx .e) .e)) (nx (.n (.r .q) .e))))
noncomputable def sh34 (fuel : Nat) (x0 : Ty0) : Option (Int × Ty0 × Unit) :=
 if decide ((↑x0.1.length : Int) ≤ x0.2.1) = true then some (0, x0, ())
 else
 if inR (IntKind.i64.wrap (IntKind.i64.wrap (x0.2.1 + 1) - 1)) x0.1.length = true then
 some ((lAt (0, ()) x0.1 (IntKind.i64.wrap (IntKind.i64.wrap (x0.2.1 + 1) - 1))).1, (x0.1, IntKind.i64.wrap (x0.2.1 + 1), ()), ())
 else none
noncomputable def sp34 (x : Ty0 × Unit) : Option (Int × Ty0 × Unit) := sh34 0 x.1
/-! 33 baggage/baggagekeep.Mod -/
def g33 : Sig := ⟨[.v (.ty (.int .i64)), .v (.ty (.int .i64))], .v (.ty (.int .i64))⟩
def h33 : HT := (nx (.n (nx (.n (nx .e) .e)) (nx (.j ⟨[(0, dI)], [], []⟩ (nx (nx .e)) (nx .e)))))
noncomputable def sh33_K0 (z0 : Int × Unit) : XO0 :=
 some z0
noncomputable def sh33 (fuel : Nat) (x0 : Int) (x1 : Int) : XO0 :=
 if decide (x1 < 1) = true then some (0, ())
 else
 if (x1 != 0) = true then
 joinK sh33_K0 fun j1 => if decide (x0.tmod x1 < 0) = true then j1 (IntKind.i64.wrap (x0.tmod x1 + x1), ()) else j1 (x0.tmod x1, ())
 else none
noncomputable def sp33 (x : (Int) × (Int) × Unit) : XO0 := sh33 0 x.1 x.2.1
/-! 18 (*baggage/baggagekeep.Src).N -/
def g18 : Sig := ⟨[.bx ty0, .v (.ty (.int .i64))], .v (.ty (.int .i64))⟩
def h18 : HT := (nx (nx .e))
noncomputable def sh18 (fuel : Nat) (x0 : Ty0) (x1 : Int) : Option (Int × Ty0 × Unit) :=
 (sp34 (x0, ())).bind fun r0 => (sp33 (r0.1, x1, ())).bind fun r1 => some (r1.1, r0.2)
noncomputable def sp18 (x : Ty0 × (Int) × Unit) : Option (Int × Ty0 × Unit) := sh18 0 x.1 x.2.1
/-! 17 (*baggage/baggagekeep.Src).Range -/
def g17 : Sig := ⟨[.bx ty0, .v (.ty (.int .i64)), .v (.ty (.int .i64))], .v (.ty (.int .i64))⟩
def h17 : HT := (nx (nx .e))
noncomputable def sh17 (fuel : Nat) (x0 : Ty0) (x1 : Int) (x2 : Int) : Option (Int × Ty0 × Unit) :=
 (sp18 (x0, IntKind.i64.wrap (IntKind.i64.wrap (x2 - x1) + 1), ())).bind fun r0 => some (IntKind.i64.wrap (x1 + r0.1), r0.2)
noncomputable def sp17 (x : Ty0 × (Int) × (Int) × Unit) : Option (Int × Ty0 × Unit) := sh17 0 x.1 x.2.1 x.2.2.1
/-! 25 (*baggage/baggagekeep.Src).Pick -/
def g25 : Sig := ⟨[.bx ty0, .v (.ty (.sl (.cons (.int .i64) .nil)))], .v (.ty (.int .i64))⟩
def h25 : HT := (nx (nx .e))
noncomputable def sh25 (fuel : Nat) (x0 : Ty0) (x1 : XI) : Option (Int × Ty0 × Unit) :=
 (sp18 (x0, (↑x1.length : Int), ())).bind fun r0 => if inR r0.1 x1.length = true then some ((lAt (0, ()) x1 r0.1).1, r0.2) else none
noncomputable def sp25 (x : Ty0 × (XI) × Unit) : Option (Int × Ty0 × Unit) := sh25 0 x.1 x.2.1
/-! 39 (*baggage/baggagekeep.Src).other -/
def g39 : Sig := ⟨[.bx ty0, .v (.ty (.sl (.cons (.int .i64) .nil))), .v (.ty (.int .i64))], .v (.ty (.int .i64))⟩
def h39 : HT := (nx (nx (.j ⟨[(0, .ref 900000 2), (7, .own 1003)], [(900000, .box b1), (1003, .arr (.cons (.int .i64) .nil))], []⟩ (nx (.u (.l ⟨[(0, .ref 900000 2), (1, dL), (2, dI), (7, .own 1000), (8, dI)], [(900000, .box b1), (1000, .arr (.cons (.int .i64) .nil))], []⟩ (.n (nx (.n .e .e)) (.j ⟨[(0, .ref 900000 2), (1, dL), (2, dI), (7, .own 1001), (8, dI)], [(900000, .box b1), (1001, .arr (.cons (.int .i64) .nil))], []⟩ (.u (nx (nx .e))) (.r .x)))))) (.n (nx (.n (nx .e) .e)) (nx .e)))))
noncomputable def sh39_K0 (z0 : Ty0 × XI × Unit) : Option (Int × Ty0 × Unit) :=
 if ((↑z0.2.1.length : Int) == 0) = true then some (-1, z0.1, ())
 else
 (sp18 (z0.1, (↑z0.2.1.length : Int), ())).bind fun r1 =>
 if inR r1.1 z0.2.1.length = true then
 if decide (r1.1.toNat + 1 ≤ z0.2.1.length) = true then some ((z0.2.1.getD r1.1.toNat (0, ())).1, r1.2) else none
 else none
noncomputable def sh39_K4 (rc3 : XI × Int × Int × Ty0 × XI × Unit → Option (Int × Ty0 × Unit)) (z4 : XI × Int × Int × Ty0 × XI × Unit) : Option (Int × Ty0 × Unit) :=
 rc3 (z4.1, z4.2.1, IntKind.i64.wrap (z4.2.2.1 + 1), z4.2.2.2)
noncomputable def sh39_L3 (j2 : Ty0 × XI × Unit → Option (Int × Ty0 × Unit)) (rc3 : XI × Int × Int × Ty0 × XI × Unit → Option (Int × Ty0 × Unit)) (z3 : XI × Int × Int × Ty0 × XI × Unit) : Option (Int × Ty0 × Unit) :=
 if decide (z3.2.2.1 < (↑z3.1.length : Int)) = true then
 joinK (sh39_K4 rc3) fun j5 =>
 if inR z3.2.2.1 z3.1.length = true then
 if ((lAt (0, ()) z3.1 z3.2.2.1).1 != z3.2.1) = true then
 if inR z3.2.2.1 z3.1.length = true then
 if decide (z3.2.2.2.2.1.length + 1 ≤ Abs.lim) = true then
 if decide ((z3.2.2.2.2.1.length + 1) * 8 ≤ Abs.lim) = true then
 j5 (z3.1, z3.2.1, z3.2.2.1, z3.2.2.2.1, z3.2.2.2.2.1 ++ [lAt (0, ()) z3.1 z3.2.2.1], ())
 else none
 else none
 else none
 else j5 z3
 else none
 else j2 z3.2.2.2
noncomputable def sh39 (fuel : Nat) (x0 : Ty0) (x1 : XI) (x2 : Int) : Option (Int × Ty0 × Unit) :=
 joinK sh39_K0 fun j2 => iter fuel (sh39_L3 j2) (x1, x2, 0, x0, [], ())
noncomputable def sp39 (x : Ty0 × (XI) × (Int) × Unit) : Option (Int × Ty0 × Unit) := sh39 100000 x.1 x.2.1 x.2.2.1
/-! 22 (*baggage/baggagekeep.Src).strip -/
def g22 : Sig := ⟨[.bx ty0, .v (.ty (.int .i64)), .v (.ty (.int .i64)), .v (.ty (.sl (.cons (.int .i64) .nil))), .v (.ty (.sl (.cons (.int .i64) .nil)))], .v (.ag ty3)⟩
def h22 : HT := (nx (nx (nx (.j ⟨[(10, .ref 1000 5), (11, .ref 1001 5)], [(900000, .box b1), (1000, .box [.d .str, .d (.int .i64), .d (.int .i64), .d (.int .i64), .own 1002]), (1001, .box [.d .str, .d (.int .i64), .d (.int .i64), .d (.int .i64), .own 1003]), (1002, .arr (.cons (.int .i64) .nil)), (1003, .arr (.cons (.int .i64) .nil))], []⟩ (nx (.u (nx (.n (nx (.r .x)) (nx (.n (nx (nx (nx (.r .x)))) (.r .x))))))) (nx .e)))))
noncomputable def sh22_K3 (z3 : Ty0 × (List UInt8 × Int × Int × Int × Unit) × (List UInt8 × Int × Int × Int × Unit) × XI × XI × Unit) : Option (Ty3 × Ty0 × Unit) :=
 some ((z3.2.2.1.1, z3.2.2.1.2.1, z3.2.2.1.2.2.1, z3.2.2.1.2.2.2.1, z3.2.2.2.2), z3.1, ())
noncomputable def sh22 (fuel : Nat) (x0 : Ty0) (x1 : Int) (x2 : Int) (x3 : XI) (x4 : XI) : Option (Ty3 × Ty0 × Unit) :=
 (sp25 (x0, x3, ())).bind fun r0 =>
 (sp17 (r0.2.1, 1, 3, ())).bind fun r1 =>
 (sp39 (r1.2.1, x4, -1, ())).bind fun r2 =>
 joinK sh22_K3 fun j4 =>
 if (r0.1 == 5) = true then j4 (r2.2.1, ([], 0, 0, 0, ()), ([], r0.1, IntKind.i64.wrap (r1.1 + 1), x2, ()), [], [(x1, ()), (r2.1, ())], ())
 else
 if (r0.1 == 4) = true then
 (sp39 (r2.2.1, x4, r2.1, ())).bind fun r5 =>
 if decide (r5.1 < 0) = true then j4 (r5.2.1, ([], 0, 0, 0, ()), ([], 2, r1.1, x2, ()), [], [(r2.1, ())], ())
 else j4 (r5.2.1, ([], 0, 0, 0, ()), ([], r0.1, r1.1, x2, ()), [], [(r2.1, ()), (r5.1, ())], ())
 else j4 (r2.2.1, ([], 0, 0, 0, ()), ([], r0.1, r1.1, x2, ()), [], [(r2.1, ())], ())
noncomputable def sp22 (x : Ty0 × (Int) × (Int) × (XI) × (XI) × Unit) : Option (Ty3 × Ty0 × Unit) := sh22 0 x.1 x.2.1 x.2.2.1 x.2.2.2.1 x.2.2.2.2.1
/-! 24 (*baggage/baggagekeep.Src).devices -/
def g24 : Sig := ⟨[.bx ty0, .v (.ag ty6)], .own ty1⟩
def h24 : HT := (nx (nx (.j ⟨[(5, .own 1018)], [(900000, .box b1), (1018, .arr ty1)], []⟩ (nx (.u (.l ⟨[(0, .ref 900000 2), (3, .ref 1000 2), (5, .own 1001), (6, dI)], [(900000, .box b1), (1000, .box b0), (1001, .arr ty1)], []⟩ (.n (nx (.n .e .e)) (.j ⟨[(0, .ref 900000 2), (3, .ref 1014 2), (5, .own 1015), (6, dI)], [(900000, .box b1), (1014, .box b0), (1015, .arr ty1)], []⟩ (.u (nx (.u (.l ⟨[(0, .ref 900000 2), (3, .ref 1002 2), (5, .own 1003), (6, dI), (7, dI)], [(900000, .box b1), (1002, .box b0), (1003, .arr ty1)], []⟩ (.n (nx (.n .e .e)) (.j ⟨[(0, .ref 900000 2), (3, .ref 1010 2), (5, .own 1011), (6, dI), (7, dI)], [(900000, .box b1), (1010, .box b0), (1011, .arr ty1)], []⟩ (.u (nx (.j ⟨[(0, .ref 900000 2), (3, .ref 1006 2), (5, .own 1007), (6, dI), (7, dI)], [(900000, .box b1), (1006, .box b0), (1007, .arr ty1)], []⟩ (.j ⟨[(0, .ref 900000 2), (3, .ref 1004 2), (5, .own 1005), (6, dI), (7, dI), (54, dB)], [(900000, .box b1), (1004, .box b0), (1005, .arr ty1)], []⟩ (.r .x) (nx .e)) (.j ⟨[(0, .ref 900000 2), (3, .ref 1008 2), (5, .own 1009), (6, dI), (7, dI), (68, dB)], [(900000, .box b1), (1008, .box b0), (1009, .arr ty1)], []⟩ (.r .x) (nx .e))))) (.r .x))))))) (.r .x)))))) (nx .e))))
noncomputable def sh24_K0 (z0 : Ty0 × List Ty1 × Unit) : XO3 :=
 some (z0.2.1, z0.1, ())
noncomputable def sh24_K3 (rc2 : Int × Ty0 × Ty6 × List Ty1 × Unit → XO3) (z3 : Int × Ty0 × Ty6 × List Ty1 × Unit) : XO3 :=
 rc2 (IntKind.i64.wrap (z3.1 + 1), z3.2)
noncomputable def sh24_K6 (rc5 : Int × Int × Ty0 × Ty6 × List Ty1 × Unit → XO3) (z6 : Int × Int × Ty0 × Ty6 × List Ty1 × Unit) : XO3 :=
 rc5 (z6.1, IntKind.i64.wrap (z6.2.1 + 1), z6.2.2)
noncomputable def sh24_K9 (j7 : Int × Int × Ty0 × Ty6 × List Ty1 × Unit → XO3) (z9 : Int × Int × Bool × Ty0 × Ty6 × List Ty1 × Unit) : XO3 :=
 if z9.2.2.1 = true then
 if decide (z9.2.2.2.2.2.1.length + 1 ≤ Abs.lim) = true then
 if decide ((z9.2.2.2.2.2.1.length + 1) * 24 ≤ Abs.lim) = true then
 j7 (z9.1, z9.2.1, z9.2.2.2.1, z9.2.2.2.2.1, z9.2.2.2.2.2.1 ++ [(1, z9.1, z9.2.1, ())], ())
 else none
 else none
 else j7 (z9.1, z9.2.1, z9.2.2.2)
noncomputable def sh24_K8 (j7 : Int × Int × Ty0 × Ty6 × List Ty1 × Unit → XO3) (z8 : Int × Int × Ty0 × Ty6 × List Ty1 × Unit) : XO3 :=
 joinK (sh24_K9 j7) fun j10 =>
 if decide ((↑z8.2.2.2.2.1.length : Int) < 24) = true then (sp18 (z8.2.2.1, 2, ())).bind fun r11 => j10 (z8.1, z8.2.1, r11.1 == 0, r11.2.1, z8.2.2.2)
 else j10 (z8.1, z8.2.1, false, z8.2.2)
noncomputable def sh24_K13 (j12 : Int × Int × Ty0 × Ty6 × List Ty1 × Unit → XO3) (z13 : Int × Int × Bool × Ty0 × Ty6 × List Ty1 × Unit) : XO3 :=
 if z13.2.2.1 = true then
 if decide (z13.2.2.2.2.2.1.length + 1 ≤ Abs.lim) = true then
 if decide ((z13.2.2.2.2.2.1.length + 1) * 24 ≤ Abs.lim) = true then
 j12 (z13.1, z13.2.1, z13.2.2.2.1, z13.2.2.2.2.1, z13.2.2.2.2.2.1 ++ [(2, z13.1, z13.2.1, ())], ())
 else none
 else none
 else j12 (z13.1, z13.2.1, z13.2.2.2)
noncomputable def sh24_L5 (j4 : Int × Ty0 × Ty6 × List Ty1 × Unit → XO3) (rc5 : Int × Int × Ty0 × Ty6 × List Ty1 × Unit → XO3) (z5 : Int × Int × Ty0 × Ty6 × List Ty1 × Unit) : XO3 :=
 if inR z5.1 z5.2.2.2.1.1.length = true then
 if decide (z5.2.1 < (lAt ([], 0, 0, 0, [], ()) z5.2.2.2.1.1 z5.1).2.2.1) = true then
 joinK (sh24_K6 rc5) fun j7 =>
 if inR z5.1 z5.2.2.2.1.1.length = true then
 joinK (sh24_K8 j7) fun j12 =>
 joinK (sh24_K13 j12) fun j14 =>
 if decide ((↑z5.2.2.2.2.1.length : Int) < 24) = true then
 (sp18 (z5.2.2.1, 3, ())).bind fun r15 =>
 if (r15.1 == 0) = true then j14 (z5.1, z5.2.1, true, r15.2.1, z5.2.2.2)
 else
 if (z5.2.1 == IntKind.i64.wrap ((lAt ([], 0, 0, 0, [], ()) z5.2.2.2.1.1 z5.1).2.2.1 - 1)) = true then
 if inR z5.1 z5.2.2.2.1.1.length = true then
 j14 (z5.1, z5.2.1, (lAt ([], 0, 0, 0, [], ()) z5.2.2.2.1.1 z5.1).2.1 == 6, r15.2.1, z5.2.2.2)
 else none
 else j14 (z5.1, z5.2.1, false, r15.2.1, z5.2.2.2)
 else j14 (z5.1, z5.2.1, false, z5.2.2)
 else none
 else j4 (z5.1, z5.2.2)
 else none
noncomputable def sh24_L2 (fuel : Nat) (j1 : Ty0 × List Ty1 × Unit → XO3) (rc2 : Int × Ty0 × Ty6 × List Ty1 × Unit → XO3) (z2 : Int × Ty0 × Ty6 × List Ty1 × Unit) : XO3 :=
 if decide (z2.1 < (↑z2.2.2.1.1.length : Int)) = true then joinK (sh24_K3 rc2) fun j4 => iter fuel (sh24_L5 j4) (z2.1, 0, z2.2)
 else j1 (z2.2.1, z2.2.2.2)
noncomputable def sh24 (fuel : Nat) (x0 : Ty0) (x1 : Ty6) : XO3 :=
 joinK sh24_K0 fun j1 => iter fuel (sh24_L2 fuel j1) (0, x0, x1, [], ())
noncomputable def sp24 (x : Ty0 × Ty6 × Unit) : XO3 := sh24 100000 x.1 x.2.1
/-! 8 (*baggage/baggagekeep.Src).Layout -/
def g8 : Sig := ⟨[.bx ty0], .v (.ag ty6)⟩
def h8 : HT := (nx (nx (nx (nx (nx (.j ⟨[(0, .ref 900000 2), (2, .ref 1073 2), (7, dI), (9, .ref 1074 2)], [(900000, .box b1), (1073, .box [.own 1075, .own 1076]), (1074, .box [.own 1077, .own 1078]), (1075, .arr ty3), (1076, .arr ty1), (1077, .arr ty3), (1078, .arr ty1)], []⟩ (nx (.u (.l ⟨[(0, .ref 900000 2), (2, .ref 1000 2), (4, dI), (6, dI), (7, dI), (8, dI), (9, .ref 1001 2), (10, dI)], [(900000, .box b1), (1000, .box [.own 1002, .own 1003]), (1001, .box [.own 1004, .own 1005]), (1002, .arr ty3), (1003, .arr ty1), (1004, .arr ty3), (1005, .arr ty1)], []⟩ (.n (nx (.n .e .e)) (.j ⟨[(0, .ref 900000 2), (2, .ref 1061 2), (4, dI), (6, dI), (7, dI), (8, dI), (9, .ref 1062 2), (10, dI)], [(900000, .box b1), (1061, .box [.own 1063, .own 1064]), (1062, .box [.own 1065, .own 1066]), (1063, .arr ty3), (1064, .arr ty1), (1065, .arr ty3), (1066, .arr ty1)], []⟩ (.u (nx (.j ⟨[(0, .ref 900000 2), (2, .ref 1022 2), (4, dI), (6, dI), (7, dI), (8, dI), (9, .ref 1023 2), (10, dI), (11, .own 1024), (12, .own 1025)], [(900000, .box b1), (1022, .box [.own 1026, .own 1027]), (1023, .box [.own 1028, .own 1029]), (1024, .arr (.cons (.int .i64) .nil)), (1025, .arr (.cons (.int .i64) .nil)), (1026, .arr ty3), (1027, .arr ty1), (1028, .arr ty3), (1029, .arr ty1)], []⟩ (nx (.u (.l ⟨[(0, .ref 900000 2), (2, .ref 1006 2), (4, dI), (6, dI), (7, dI), (8, dI), (9, .ref 1007 2), (10, dI), (11, .own 1008), (12, .own 1009), (13, dI)], [(900000, .box b1), (1006, .box [.own 1010, .own 1011]), (1007, .box [.own 1012, .own 1013]), (1008, .arr (.cons (.int .i64) .nil)), (1009, .arr (.cons (.int .i64) .nil)), (1010, .arr ty3), (1011, .arr ty1), (1012, .arr ty3), (1013, .arr ty1)], []⟩ (.n (nx (.n .e .e)) (.n (.u (.r .x)) (.r .x)))))) (nx (.j ⟨[(0, .ref 900000 2), (2, .ref 1046 2), (4, dI), (6, dI), (7, dI), (8, dI), (9, .ref 1047 2), (10, dI), (11, .own 1048), (12, .own 1049)], [(900000, .box b1), (1046, .box [.own 1050, .own 1051]), (1047, .box [.own 1052, .own 1053]), (1048, .arr (.cons (.int .i64) .nil)), (1049, .arr (.cons (.int .i64) .nil)), (1050, .arr ty3), (1051, .arr ty1), (1052, .arr ty3), (1053, .arr ty1)], []⟩ (nx (.u (.l ⟨[(0, .ref 900000 2), (2, .ref 1030 2), (4, dI), (6, dI), (7, dI), (8, dI), (9, .ref 1031 2), (10, dI), (11, .own 1032), (12, .own 1033), (14, dI)], [(900000, .box b1), (1030, .box [.own 1034, .own 1035]), (1031, .box [.own 1036, .own 1037]), (1032, .arr (.cons (.int .i64) .nil)), (1033, .arr (.cons (.int .i64) .nil)), (1034, .arr ty3), (1035, .arr ty1), (1036, .arr ty3), (1037, .arr ty1)], []⟩ (.n (nx (.n .e .e)) (.n (.u (.r .x)) (.r .x)))))) (nx (nx (.j ⟨[(0, .ref 900000 2), (2, .ref 1054 2), (4, dI), (6, dI), (7, dI), (8, dI), (9, .ref 1055 2), (10, dI), (15, .ref 1056 5)], [(900000, .box b1), (1054, .box [.own 1057, .own 1058]), (1055, .box [.own 1059, .own 1060]), (1056, .box b2), (1057, .arr ty3), (1058, .arr ty1), (1059, .arr ty3), (1060, .arr ty1)], []⟩ (.u (nx (nx (nx (nx (nx (nx (nx (.n (nx (nx (nx .e))) (nx (nx (.r .x)))))))))))) (nx (.r .x)))))))))) (.r .x)))))) (.j ⟨[(0, .ref 900000 2), (2, .ref 1103 2), (9, .ref 1104 2)], [(900000, .box b1), (1103, .box [.own 1105, .own 1106]), (1104, .box [.own 1107, .own 1108]), (1105, .arr ty3), (1106, .arr ty1), (1107, .arr ty3), (1108, .arr ty1)], []⟩ (nx (.n (nx (.u (.l ⟨[(0, .ref 900000 2), (2, .ref 1079 2), (7, dI), (9, .ref 1080 2), (16, dI)], [(900000, .box b1), (1079, .box [.own 1081, .own 1082]), (1080, .box [.own 1083, .own 1084]), (1081, .arr ty3), (1082, .arr ty1), (1083, .arr ty3), (1084, .arr ty1)], []⟩ (.n (nx (.n .e .e)) (.j ⟨[(0, .ref 900000 2), (2, .ref 1091 2), (7, dI), (9, .ref 1092 2), (16, dI)], [(900000, .box b1), (1091, .box [.own 1093, .own 1094]), (1092, .box [.own 1095, .own 1096]), (1093, .arr ty3), (1094, .arr ty1), (1095, .arr ty3), (1096, .arr ty1)], []⟩ (.u (.j ⟨[(0, .ref 900000 2), (2, .ref 1085 2), (7, dI), (9, .ref 1086 2), (16, dI), (167, dB)], [(900000, .box b1), (1085, .box [.own 1087, .own 1088]), (1086, .box [.own 1089, .own 1090]), (1087, .arr ty3), (1088, .arr ty1), (1089, .arr ty3), (1090, .arr ty1)], []⟩ (.r .x) (.n (.r (.w 14 [(0, 0), (0, 1), (1, 2), (1, 3), (1, 4), (0, 6), (0, 7), (1, 8), (0, 9), (0, 10), (0, 11), (1, 12), (3, 5), (2, 13)])) .e))) (.r .x)))))) .e)) (nx (nx .e)))))))))
noncomputable def sh8_K4 (z4 : Ty0 × Unit × Unit × List Ty3 × List Ty1 × List Ty3 × List Ty1 × Unit) : Option
 (Ty6 × Ty0 × Unit) :=
 (sp24 (z4.1, z4.2.2.2.2.2, ())).bind fun r5 => some ((z4.2.2.2.2.2.1, r5.1, ()), r5.2)
noncomputable def sh8_K9 (rc8 : Int × Int × Ty0 × Unit × Unit × List Ty3 × List Ty1 × List Ty3 × List Ty1 × Unit → Option
 (Ty6 × Ty0 × Unit)) (z9 : Int × Int × Ty0 × Unit × Unit × List Ty3 × List Ty1 × List Ty3 × List Ty1 × Unit) : Option
 (Ty6 × Ty0 × Unit) :=
 rc8 (z9.1, IntKind.i64.wrap (z9.2.1 + 1), z9.2.2.1, (), (), z9.2.2.2.2.2)
noncomputable def sh8_K11 (j10 : Int × Int × Ty0 × Unit × Unit × List Ty3 × List Ty1 × List Ty3 × List Ty1 × Unit → Option
 (Ty6 × Ty0 × Unit)) (z11 : Int × Int × Bool × Ty0 × Unit × Unit × List Ty3 × List Ty1 × List Ty3 × List Ty1 × Unit) : Option
 (Ty6 × Ty0 × Unit) :=
 if z11.2.2.1 = true then
 if inR z11.2.1 z11.2.2.2.2.2.2.2.2.1.length = true then
 if decide (z11.2.1.toNat + 1 ≤ z11.2.2.2.2.2.2.2.2.1.length) = true then
 if
 inCut 1 (↑(List.length (z11.2.2.2.2.2.2.2.2.1.getD z11.2.1.toNat ([], 0, 0, 0, [], ())).2.2.2.2.1) : Int)
 (List.length (z11.2.2.2.2.2.2.2.2.1.getD z11.2.1.toNat ([], 0, 0, 0, [], ())).2.2.2.2.1) =
 true then
 if
 decide
 ([(IntKind.i64.wrap (z11.2.1 + 1), ())].length +
 (cutL (z11.2.2.2.2.2.2.2.2.1.getD z11.2.1.toNat ([], 0, 0, 0, [], ())).2.2.2.2.1 1
 (↑(List.length (z11.2.2.2.2.2.2.2.2.1.getD z11.2.1.toNat ([], 0, 0, 0, [], ())).2.2.2.2.1) : Int)).length ≤
 Abs.lim) =
 true then
 if
 decide
 (([(IntKind.i64.wrap (z11.2.1 + 1), ())].length +
 (cutL (z11.2.2.2.2.2.2.2.2.1.getD z11.2.1.toNat ([], 0, 0, 0, [], ())).2.2.2.2.1 1
 (↑(List.length (z11.2.2.2.2.2.2.2.2.1.getD z11.2.1.toNat ([], 0, 0, 0, [], ())).2.2.2.2.1) : Int)).length) *
 8 ≤
 Abs.lim) =
 true then
 if inR z11.2.1 z11.2.2.2.2.2.2.2.2.1.length = true then
 if decide (z11.2.1.toNat + 1 ≤ z11.2.2.2.2.2.2.2.2.1.length) = true then
 j10
 (z11.1, z11.2.1, z11.2.2.2.1, (), (), z11.2.2.2.2.2.2.1, z11.2.2.2.2.2.2.2.1,
 z11.2.2.2.2.2.2.2.2.1.set z11.2.1.toNat
 ((z11.2.2.2.2.2.2.2.2.1.getD z11.2.1.toNat ([], 0, 0, 0, [], ())).1,
 (z11.2.2.2.2.2.2.2.2.1.getD z11.2.1.toNat ([], 0, 0, 0, [], ())).2.1,
 (z11.2.2.2.2.2.2.2.2.1.getD z11.2.1.toNat ([], 0, 0, 0, [], ())).2.2.1,
 (z11.2.2.2.2.2.2.2.2.1.getD z11.2.1.toNat ([], 0, 0, 0, [], ())).2.2.2.1,
 [(IntKind.i64.wrap (z11.2.1 + 1), ())] ++
 cutL (z11.2.2.2.2.2.2.2.2.1.getD z11.2.1.toNat ([], 0, 0, 0, [], ())).2.2.2.2.1 1
 (↑(List.length (z11.2.2.2.2.2.2.2.2.1.getD z11.2.1.toNat ([], 0, 0, 0, [], ())).2.2.2.2.1) : Int),
 ()),
 z11.2.2.2.2.2.2.2.2.2)
 else none
 else none
 else none
 else none
 else none
 else none
 else none
 else j10 (z11.1, z11.2.1, z11.2.2.2.1, (), (), z11.2.2.2.2.2.2)
noncomputable def sh8_L8 (j6 : Ty0 × Unit × Unit × List Ty3 × List Ty1 × List Ty3 × List Ty1 × Unit → Option
 (Ty6 × Ty0 × Unit)) (rc8 : Int × Int × Ty0 × Unit × Unit × List Ty3 × List Ty1 × List Ty3 × List Ty1 × Unit → Option
 (Ty6 × Ty0 × Unit)) (z8 : Int × Int × Ty0 × Unit × Unit × List Ty3 × List Ty1 × List Ty3 × List Ty1 × Unit) : Option
 (Ty6 × Ty0 × Unit) :=
 if decide (z8.2.1 < z8.1) = true then
 joinK (sh8_K9 rc8) fun j10 =>
 joinK (sh8_K11 j10) fun j12 =>
 if inR z8.2.1 z8.2.2.2.2.2.2.2.1.length = true then
 if decide (z8.2.1.toNat + 1 ≤ z8.2.2.2.2.2.2.2.1.length) = true then
 if ((z8.2.2.2.2.2.2.2.1.getD z8.2.1.toNat ([], 0, 0, 0, [], ())).2.1 != 5) = true then
 if inR z8.2.1 z8.2.2.2.2.2.2.2.1.length = true then
 if decide (z8.2.1.toNat + 1 ≤ z8.2.2.2.2.2.2.2.1.length) = true then
 (sp23 ((z8.2.2.2.2.2.2.2.1.getD z8.2.1.toNat ([], 0, 0, 0, [], ())).2.2.2.2.1, IntKind.i64.wrap (z8.2.1 + 1), ())).bind fun r13 =>
 j12 (z8.1, z8.2.1, !r13.1, z8.2.2.1, (), (), z8.2.2.2.2.2)
 else none
 else none
 else j12 (z8.1, z8.2.1, false, z8.2.2.1, (), (), z8.2.2.2.2.2)
 else none
 else none
 else j6 (z8.2.2.1, (), (), z8.2.2.2.2.2)
noncomputable def sh8_K3 (fuel : Nat) (z3 : Int × Ty0 × Unit × Unit × List Ty3 × List Ty1 × List Ty3 × List Ty1 × Unit) : Option
 (Ty6 × Ty0 × Unit) :=
 joinK sh8_K4 fun j6 =>
 (sp18 (z3.2.1, 4, ())).bind fun r7 =>
 if decide (0 < r7.1) = true then iter fuel (sh8_L8 j6) (z3.1, 0, r7.2.1, (), (), z3.2.2.2.2) else j6 (r7.2.1, (), (), z3.2.2.2.2)
noncomputable def sh8_K16 (rc15 : Int × Int × Int × Int × Int × Ty0 × Unit × Unit × List Ty3 × List Ty1 × List Ty3 × List Ty1 × Unit → Option
 (Ty6 × Ty0 × Unit)) (z16 : Int × Int × Int × Int × Int × Ty0 × Unit × Unit × List Ty3 × List Ty1 × List Ty3 × List Ty1 × Unit) : Option
 (Ty6 × Ty0 × Unit) :=
 rc15 (z16.1, z16.2.1, z16.2.2.1, z16.2.2.2.1, IntKind.i64.wrap (z16.2.2.2.2.1 + 1), z16.2.2.2.2.2.1, (), (), z16.2.2.2.2.2.2.2.2)
noncomputable def sh8_K20 (j17 : Int × Int × Int × Int × Int × Ty0 × Unit × Unit × List Ty3 × List Ty1 × List Ty3 × List Ty1 × Unit → Option
 (Ty6 × Ty0 × Unit)) (z20 : Int × Int × Int × Int × Int × Ty0 × Unit × Unit × Ty3 × List Ty3 × List Ty1 × List Ty3 × List Ty1 × Unit) : Option
 (Ty6 × Ty0 × Unit) :=
 if
 decide
 (z20.2.2.2.2.2.2.2.2.2.2.2.1.length +
 [(toBytes [(IntKind.u8.wrap (IntKind.i64.wrap (65 + z20.2.2.2.2.1)), ())], z20.2.2.2.2.2.2.2.2.1.2)].length ≤
 Abs.lim) =
 true then
 if
 decide
 ((z20.2.2.2.2.2.2.2.2.2.2.2.1.length +
 [(toBytes [(IntKind.u8.wrap (IntKind.i64.wrap (65 + z20.2.2.2.2.1)), ())], z20.2.2.2.2.2.2.2.2.1.2)].length) *
 64 ≤
 Abs.lim) =
 true then
 j17
 (z20.1, z20.2.1, z20.2.2.1, z20.2.2.2.1, z20.2.2.2.2.1, z20.2.2.2.2.2.1, (), (), z20.2.2.2.2.2.2.2.2.2.1, z20.2.2.2.2.2.2.2.2.2.2.1,
 z20.2.2.2.2.2.2.2.2.2.2.2.1 ++ [(toBytes [(IntKind.u8.wrap (IntKind.i64.wrap (65 + z20.2.2.2.2.1)), ())], z20.2.2.2.2.2.2.2.2.1.2)],
 z20.2.2.2.2.2.2.2.2.2.2.2.2)
 else none
 else none
noncomputable def sh8_K19 (j17 : Int × Int × Int × Int × Int × Ty0 × Unit × Unit × List Ty3 × List Ty1 × List Ty3 × List Ty1 × Unit → Option
 (Ty6 × Ty0 × Unit)) (z19 : Int × Int × Int × Int × Int × Ty0 × Unit × Unit × XI × XI × List Ty3 × List Ty1 × List Ty3 × List Ty1 × Unit) : Option
 (Ty6 × Ty0 × Unit) :=
 if decide (z19.2.2.2.2.2.2.2.2.2.1.length + 1 ≤ Abs.lim) = true then
 if decide ((z19.2.2.2.2.2.2.2.2.2.1.length + 1) * 8 ≤ Abs.lim) = true then
 joinK (sh8_K20 j17) fun j21 =>
 if (z19.2.2.2.2.1 == 0) = true then
 (sp22 (z19.2.2.2.2.2.1, z19.2.2.2.2.1, 0, [(1, ())], z19.2.2.2.2.2.2.2.2.1, ())).bind fun r22 =>
 j21 (z19.1, z19.2.1, z19.2.2.1, z19.2.2.2.1, z19.2.2.2.2.1, r22.2.1, (), (), r22.1, z19.2.2.2.2.2.2.2.2.2.2)
 else
 if decide (z19.2.2.2.2.1 < z19.2.2.1) = true then
 (sp22 (z19.2.2.2.2.2.1, z19.2.2.2.2.1, 0, [(2, ()), (3, ()), (4, ()), (5, ()), (3, ())], z19.2.2.2.2.2.2.2.2.1, ())).bind fun r23 =>
 j21 (z19.1, z19.2.1, z19.2.2.1, z19.2.2.2.1, z19.2.2.2.2.1, r23.2.1, (), (), r23.1, z19.2.2.2.2.2.2.2.2.2.2)
 else
 if (z19.2.2.2.2.1 == z19.2.2.1) = true then
 (sp17 (z19.2.2.2.2.2.1, 1, 3, ())).bind fun r24 =>
 (sp18 (r24.2.1, (↑(z19.2.2.2.2.2.2.2.2.2.1 ++ [(IntKind.i64.wrap (z19.2.1 - 1), ())]).length : Int), ())).bind fun r25 =>
 if inR r25.1 (z19.2.2.2.2.2.2.2.2.2.1 ++ [(IntKind.i64.wrap (z19.2.1 - 1), ())]).length = true then
 if decide (r25.1.toNat + 1 ≤ (z19.2.2.2.2.2.2.2.2.2.1 ++ [(IntKind.i64.wrap (z19.2.1 - 1), ())]).length) = true then
 j21
 (z19.1, z19.2.1, z19.2.2.1, z19.2.2.2.1, z19.2.2.2.2.1, r25.2.1, (), (),
 ([], 6, r24.1, 0,
 [(z19.2.2.2.1, ()), (z19.2.2.2.2.2.2.2.2.2.1 ++ [(IntKind.i64.wrap (z19.2.1 - 1), ())]).getD r25.1.toNat (0, ())], ()),
 z19.2.2.2.2.2.2.2.2.2.2)
 else none
 else none
 else
 if decide (z19.2.2.2.2.1 < IntKind.i64.wrap (IntKind.i64.wrap (z19.2.2.1 + 1) + z19.1)) = true then
 (sp22
 (z19.2.2.2.2.2.1, z19.2.2.2.2.1, 1, [(2, ()), (4, ()), (5, ()), (7, ())],
 z19.2.2.2.2.2.2.2.2.2.1 ++ [(IntKind.i64.wrap (z19.2.1 - 1), ())], ())).bind
 fun r26 =>
 if (r26.1.2.1 == 7) = true then
 j21
 (z19.1, z19.2.1, z19.2.2.1, z19.2.2.2.1, z19.2.2.2.2.1, r26.2.1, (), (), (r26.1.1, r26.1.2.1, 0, r26.1.2.2.2),
 z19.2.2.2.2.2.2.2.2.2.2)
 else j21 (z19.1, z19.2.1, z19.2.2.1, z19.2.2.2.1, z19.2.2.2.2.1, r26.2.1, (), (), r26.1, z19.2.2.2.2.2.2.2.2.2.2)
 else
 if decide (z19.2.2.2.2.1 < z19.2.2.2.1) = true then
 j21 (z19.1, z19.2.1, z19.2.2.1, z19.2.2.2.1, z19.2.2.2.2.1, z19.2.2.2.2.2.1, (), (), ([], 8, 0, 1, [], ()), z19.2.2.2.2.2.2.2.2.2.2)
 else
 j21
 (z19.1, z19.2.1, z19.2.2.1, z19.2.2.2.1, z19.2.2.2.2.1, z19.2.2.2.2.2.1, (), (),
 ([], 9, 0, IntKind.i64.wrap (z19.2.2.2.2.1 - z19.2.2.2.1), [], ()), z19.2.2.2.2.2.2.2.2.2.2)
 else none
 else none
noncomputable def sh8_L28 (j27 : Int × Int × Int × Int × Int × Ty0 × Unit × Unit × XI × XI × List Ty3 × List Ty1 × List Ty3 × List Ty1 × Unit → Option
 (Ty6 × Ty0 × Unit)) (rc28 : Int × Int × Int × Int × Int × Int × Ty0 × Unit × Unit × XI × XI × List Ty3 × List Ty1 × List Ty3 × List Ty1 × Unit → Option
 (Ty6 × Ty0 × Unit)) (z28 : Int × Int × Int × Int × Int × Int × Ty0 × Unit × Unit × XI × XI × List Ty3 × List Ty1 × List Ty3 × List Ty1 × Unit) : Option
 (Ty6 × Ty0 × Unit) :=
 if decide (z28.2.2.2.2.2.1 < z28.2.2.2.1) = true then
 if decide (z28.2.2.2.2.2.2.2.2.2.2.1.length + 1 ≤ Abs.lim) = true then
 if decide ((z28.2.2.2.2.2.2.2.2.2.2.1.length + 1) * 8 ≤ Abs.lim) = true then
 rc28
 (z28.1, z28.2.1, z28.2.2.1, z28.2.2.2.1, z28.2.2.2.2.1, IntKind.i64.wrap (z28.2.2.2.2.2.1 + 1), z28.2.2.2.2.2.2.1, (), (),
 z28.2.2.2.2.2.2.2.2.2.1, z28.2.2.2.2.2.2.2.2.2.2.1 ++ [(z28.2.2.2.2.2.1, ())], z28.2.2.2.2.2.2.2.2.2.2.2)
 else none
 else none
 else j27 (z28.1, z28.2.1, z28.2.2.1, z28.2.2.2.1, z28.2.2.2.2.1, z28.2.2.2.2.2.2.1, (), (), z28.2.2.2.2.2.2.2.2.2)
noncomputable def sh8_K18 (fuel : Nat) (j17 : Int × Int × Int × Int × Int × Ty0 × Unit × Unit × List Ty3 × List Ty1 × List Ty3 × List Ty1 × Unit → Option
 (Ty6 × Ty0 × Unit)) (z18 : Int × Int × Int × Int × Int × Ty0 × Unit × Unit × XI × XI × List Ty3 × List Ty1 × List Ty3 × List Ty1 × Unit) : Option
 (Ty6 × Ty0 × Unit) :=
 if decide (z18.2.2.2.2.2.2.2.2.1.length + 1 ≤ Abs.lim) = true then
 if decide ((z18.2.2.2.2.2.2.2.2.1.length + 1) * 8 ≤ Abs.lim) = true then
 joinK (sh8_K19 j17) fun j27 =>
 iter fuel (sh8_L28 j27)
 (z18.1, z18.2.1, z18.2.2.1, z18.2.2.2.1, z18.2.2.2.2.1,
 IntKind.i64.wrap ((if z18.2.2.1 > z18.2.2.2.2.1 then z18.2.2.1 else z18.2.2.2.2.1) + 1), z18.2.2.2.2.2.1, (), (),
 z18.2.2.2.2.2.2.2.2.1 ++ [(z18.2.2.2.1, ())], z18.2.2.2.2.2.2.2.2.2)
 else none
 else none
noncomputable def sh8_L30 (j29 : Int × Int × Int × Int × Int × Ty0 × Unit × Unit × XI × XI × List Ty3 × List Ty1 × List Ty3 × List Ty1 × Unit → Option
 (Ty6 × Ty0 × Unit)) (rc30 : Int × Int × Int × Int × Int × Int × Ty0 × Unit × Unit × XI × XI × List Ty3 × List Ty1 × List Ty3 × List Ty1 × Unit → Option
 (Ty6 × Ty0 × Unit)) (z30 : Int × Int × Int × Int × Int × Int × Ty0 × Unit × Unit × XI × XI × List Ty3 × List Ty1 × List Ty3 × List Ty1 × Unit) : Option
 (Ty6 × Ty0 × Unit) :=
 if decide (z30.2.2.2.2.2.1 ≤ z30.2.2.1) = true then
 if decide (z30.2.2.2.2.2.2.2.2.2.1.length + 1 ≤ Abs.lim) = true then
 if decide ((z30.2.2.2.2.2.2.2.2.2.1.length + 1) * 8 ≤ Abs.lim) = true then
 rc30
 (z30.1, z30.2.1, z30.2.2.1, z30.2.2.2.1, z30.2.2.2.2.1, IntKind.i64.wrap (z30.2.2.2.2.2.1 + 1), z30.2.2.2.2.2.2.1, (), (),
 z30.2.2.2.2.2.2.2.2.2.1 ++ [(z30.2.2.2.2.2.1, ())], z30.2.2.2.2.2.2.2.2.2.2)
 else none
 else none
 else j29 (z30.1, z30.2.1, z30.2.2.1, z30.2.2.2.1, z30.2.2.2.2.1, z30.2.2.2.2.2.2.1, (), (), z30.2.2.2.2.2.2.2.2.2)
noncomputable def sh8_L15 (fuel : Nat) (j14 : Int × Ty0 × Unit × Unit × List Ty3 × List Ty1 × List Ty3 × List Ty1 × Unit → Option
 (Ty6 × Ty0 × Unit)) (rc15 : Int × Int × Int × Int × Int × Ty0 × Unit × Unit × List Ty3 × List Ty1 × List Ty3 × List Ty1 × Unit → Option
 (Ty6 × Ty0 × Unit)) (z15 : Int × Int × Int × Int × Int × Ty0 × Unit × Unit × List Ty3 × List Ty1 × List Ty3 × List Ty1 × Unit) : Option
 (Ty6 × Ty0 × Unit) :=
 if decide (z15.2.2.2.2.1 < z15.2.1) = true then
 joinK (sh8_K16 rc15) fun j17 =>
 joinK (sh8_K18 fuel j17) fun j29 =>
 iter fuel (sh8_L30 j29)
 (z15.1, z15.2.1, z15.2.2.1, z15.2.2.2.1, z15.2.2.2.2.1, IntKind.i64.wrap (z15.2.2.2.2.1 + 1), z15.2.2.2.2.2.1, (), (), [], [],
 z15.2.2.2.2.2.2.2.2)
 else j14 (z15.2.2.1, z15.2.2.2.2.2.1, (), (), z15.2.2.2.2.2.2.2.2)
noncomputable def sh8 (fuel : Nat) (x0 : Ty0) : Option
 (Ty6 × Ty0 × Unit) :=
 (sp17 (x0, 1, 3, ())).bind fun r0 =>
 (sp17 (r0.2.1, 0, 3, ())).bind fun r1 =>
 (sp17 (r1.2.1, 1, 2, ())).bind fun r2 =>
 joinK (sh8_K3 fuel) fun j14 =>
 iter fuel (sh8_L15 fuel j14)
 (r1.1, IntKind.i64.wrap (IntKind.i64.wrap (IntKind.i64.wrap (IntKind.i64.wrap (r0.1 + 1) + r1.1) + r2.1) + 2), r0.1,
 IntKind.i64.wrap (IntKind.i64.wrap (IntKind.i64.wrap (IntKind.i64.wrap (IntKind.i64.wrap (r0.1 + 1) + r1.1) + r2.1) + 2) - 2), 0, r2.2.1,
 (), (), [], [], [], [], ())
noncomputable def sp8 (x : Ty0 × Unit) : Option
 (Ty6 × Ty0 × Unit) := sh8 100000 x.1
/-! 9 (*baggage/baggagekeep.Src).Plant -/
def g9 : Sig := ⟨[.bx ty0, .v (.ag ty6), .v (.ty (.int .i64))], .v (.ag ty4)⟩
def h9 : HT := (nx (nx (nx (.j ⟨[(6, .ref 1097 2), (7, .ref 1098 2)], [(900000, .box b1), (1097, .box [.own 1099, .own 1100]), (1098, .box [.own 1101, .own 1102]), (1099, .arr (.cons (.sl (.cons (.int .i64) .nil)) .nil)), (1100, .arr (.cons (.sl (.cons (.int .i64) .nil)) .nil)), (1101, .arr (.cons (.sl (.cons (.int .i64) .nil)) .nil)), (1102, .arr (.cons (.sl (.cons (.int .i64) .nil)) .nil))], []⟩ (nx (.u (.l ⟨[(0, .ref 900000 2), (2, dI), (4, .ref 1000 2), (6, .ref 1001 2), (7, .ref 1002 2), (8, dI), (9, dI)], [(900000, .box b1), (1000, .box b0), (1001, .box [.own 1003, .own 1004]), (1002, .box [.own 1005, .own 1006]), (1003, .arr (.cons (.sl (.cons (.int .i64) .nil)) .nil)), (1004, .arr (.cons (.sl (.cons (.int .i64) .nil)) .nil)), (1005, .arr (.cons (.sl (.cons (.int .i64) .nil)) .nil)), (1006, .arr (.cons (.sl (.cons (.int .i64) .nil)) .nil))], []⟩ (.n (nx (.n .e .e)) (.j ⟨[(0, .ref 900000 2), (2, dI), (4, .ref 1083 2), (6, .ref 1084 2), (7, .ref 1085 2), (8, dI), (9, dI)], [(900000, .box b1), (1083, .box b0), (1084, .box [.own 1086, .own 1087]), (1085, .box [.own 1088, .own 1089]), (1086, .arr (.cons (.sl (.cons (.int .i64) .nil)) .nil)), (1087, .arr (.cons (.sl (.cons (.int .i64) .nil)) .nil)), (1088, .arr (.cons (.sl (.cons (.int .i64) .nil)) .nil)), (1089, .arr (.cons (.sl (.cons (.int .i64) .nil)) .nil))], []⟩ (.u (nx (nx (nx (nx (.j ⟨[(0, .ref 900000 2), (2, dI), (4, .ref 1007 2), (6, .ref 1008 2), (7, .ref 1009 2), (8, dI), (9, dI), (10, .ref 1010 5), (11, .own 1011), (12, .own 1012), (13, dI)], [(900000, .box b1), (1007, .box b0), (1008, .box [.own 1013, .own 1014]), (1009, .box [.own 1015, .own 1016]), (1010, .box b2), (1011, .arr (.cons (.int .i64) .nil)), (1012, .arr (.cons (.int .i64) .nil)), (1013, .arr (.cons (.sl (.cons (.int .i64) .nil)) .nil)), (1014, .arr (.cons (.sl (.cons (.int .i64) .nil)) .nil)), (1015, .arr (.cons (.sl (.cons (.int .i64) .nil)) .nil)), (1016, .arr (.cons (.sl (.cons (.int .i64) .nil)) .nil))], []⟩ (nx (nx .e)) (.j ⟨[(0, .ref 900000 2), (2, dI), (4, .ref 1057 2), (6, .ref 1058 2), (7, .ref 1059 2), (8, dI), (9, dI), (10, .ref 1060 5), (11, .own 1061), (12, .own 1062)], [(900000, .box b1), (1057, .box b0), (1058, .box [.own 1063, .own 1064]), (1059, .box [.own 1065, .own 1066]), (1060, .box b2), (1061, .arr (.cons (.int .i64) .nil)), (1062, .arr (.cons (.int .i64) .nil)), (1063, .arr (.cons (.sl (.cons (.int .i64) .nil)) .nil)), (1064, .arr (.cons (.sl (.cons (.int .i64) .nil)) .nil)), (1065, .arr (.cons (.sl (.cons (.int .i64) .nil)) .nil)), (1066, .arr (.cons (.sl (.cons (.int .i64) .nil)) .nil))], []⟩ (nx (.u (.l ⟨[(0, .ref 900000 2), (2, dI), (4, .ref 1017 2), (6, .ref 1018 2), (7, .ref 1019 2), (8, dI), (9, dI), (10, .ref 1020 5), (11, .own 1021), (12, .own 1022), (13, dI), (14, dI)], [(900000, .box b1), (1017, .box b0), (1018, .box [.own 1023, .own 1024]), (1019, .box [.own 1025, .own 1026]), (1020, .box b2), (1021, .arr (.cons (.int .i64) .nil)), (1022, .arr (.cons (.int .i64) .nil)), (1023, .arr (.cons (.sl (.cons (.int .i64) .nil)) .nil)), (1024, .arr (.cons (.sl (.cons (.int .i64) .nil)) .nil)), (1025, .arr (.cons (.sl (.cons (.int .i64) .nil)) .nil)), (1026, .arr (.cons (.sl (.cons (.int .i64) .nil)) .nil))], []⟩ (.n (nx (.n .e .e)) (.j ⟨[(0, .ref 900000 2), (2, dI), (4, .ref 1037 2), (6, .ref 1038 2), (7, .ref 1039 2), (8, dI), (9, dI), (10, .ref 1040 5), (11, .own 1041), (12, .own 1042), (13, dI), (14, dI)], [(900000, .box b1), (1037, .box b0), (1038, .box [.own 1043, .own 1044]), (1039, .box [.own 1045, .own 1046]), (1040, .box b2), (1041, .arr (.cons (.int .i64) .nil)), (1042, .arr (.cons (.int .i64) .nil)), (1043, .arr (.cons (.sl (.cons (.int .i64) .nil)) .nil)), (1044, .arr (.cons (.sl (.cons (.int .i64) .nil)) .nil)), (1045, .arr (.cons (.sl (.cons (.int .i64) .nil)) .nil)), (1046, .arr (.cons (.sl (.cons (.int .i64) .nil)) .nil))], []⟩ (.u (.j ⟨[(0, .ref 900000 2), (2, dI), (4, .ref 1027 2), (6, .ref 1028 2), (7, .ref 1029 2), (8, dI), (9, dI), (10, .ref 1030 5), (11, .own 1031), (12, .own 1032), (13, dI), (14, dI), (53, dB)], [(900000, .box b1), (1027, .box b0), (1028, .box [.own 1033, .own 1034]), (1029, .box [.own 1035, .own 1036]), (1030, .box b2), (1031, .arr (.cons (.int .i64) .nil)), (1032, .arr (.cons (.int .i64) .nil)), (1033, .arr (.cons (.sl (.cons (.int .i64) .nil)) .nil)), (1034, .arr (.cons (.sl (.cons (.int .i64) .nil)) .nil)), (1035, .arr (.cons (.sl (.cons (.int .i64) .nil)) .nil)), (1036, .arr (.cons (.sl (.cons (.int .i64) .nil)) .nil))], []⟩ (.r .x) (.n (nx (.r .x)) .e))) (.r .x)))))) (.j ⟨[(0, .ref 900000 2), (2, dI), (4, .ref 1076 2), (6, .ref 1077 2), (7, .ref 1078 2), (8, dI), (9, dI), (11, dL), (12, dL)], [(900000, .box b1), (1076, .box b0), (1077, .box [.own 1079, .own 1080]), (1078, .box [.own 1081, .own 1082]), (1079, .arr (.cons (.sl (.cons (.int .i64) .nil)) .nil)), (1080, .arr (.cons (.sl (.cons (.int .i64) .nil)) .nil)), (1081, .arr (.cons (.sl (.cons (.int .i64) .nil)) .nil)), (1082, .arr (.cons (.sl (.cons (.int .i64) .nil)) .nil))], []⟩ (.j ⟨[(0, .ref 900000 2), (2, dI), (4, .ref 1067 2), (6, .ref 1068 2), (7, .ref 1069 2), (8, dI), (9, dI), (11, .own 1070), (12, .own 1071), (75, dB)], [(900000, .box b1), (1067, .box b0), (1068, .box [.own 1072, .own 1073]), (1069, .box [.own 1074, .own 1075]), (1070, .arr (.cons (.int .i64) .nil)), (1071, .arr (.cons (.int .i64) .nil)), (1072, .arr (.cons (.sl (.cons (.int .i64) .nil)) .nil)), (1073, .arr (.cons (.sl (.cons (.int .i64) .nil)) .nil)), (1074, .arr (.cons (.sl (.cons (.int .i64) .nil)) .nil)), (1075, .arr (.cons (.sl (.cons (.int .i64) .nil)) .nil))], []⟩ (.r .x) (.n (nx (.r .x)) .e)) (.r (.w 11 [(0, 0), (0, 1), (1, 2), (0, 5), (0, 6), (1, 7), (3, 3), (2, 4), (0, 10), (5, 8), (2, 9)])))))))))) (.r .x)))))) (nx .e)))))
noncomputable def sh9_K0 (z0 : Ty0 × Unit × Unit × XL × XL × XL × XL × Unit) : Option (Ty4 × Ty0 × Unit) :=
 some (z0.2.2.2.2.2, z0.1, ())
noncomputable def sh9_K3 (rc2 : Int × Int × Int × Ty0 × Ty6 × Unit × Unit × XL × XL × XL × XL × Unit → Option (Ty4 × Ty0 × Unit)) (z3 : Int × Int × Int × Ty0 × Ty6 × Unit × Unit × XL × XL × XL × XL × Unit) : Option (Ty4 × Ty0 × Unit) :=
 rc2 (z3.1, z3.2.1, IntKind.i64.wrap (z3.2.2.1 + 1), z3.2.2.2.1, z3.2.2.2.2.1, (), (), z3.2.2.2.2.2.2.2)
noncomputable def sh9_K7 (j4 : Int × Int × Int × Ty0 × Ty6 × Unit × Unit × XL × XL × XL × XL × Unit → Option (Ty4 × Ty0 × Unit)) (z7 : Int × Int × Int × XI × XI × Ty0 × Ty6 × Unit × Unit × XL × XL × XL × XL × Unit) : Option (Ty4 × Ty0 × Unit) :=
 if decide (z7.2.2.2.2.2.2.2.2.2.2.2.1.length + 1 ≤ Abs.lim) = true then
 if decide ((z7.2.2.2.2.2.2.2.2.2.2.2.1.length + 1) * 24 ≤ Abs.lim) = true then
 if decide (z7.2.2.2.2.2.2.2.2.2.2.2.2.1.length + 1 ≤ Abs.lim) = true then
 if decide ((z7.2.2.2.2.2.2.2.2.2.2.2.2.1.length + 1) * 24 ≤ Abs.lim) = true then
 j4
 (z7.1, z7.2.1, z7.2.2.1, z7.2.2.2.2.2.1, z7.2.2.2.2.2.2.1, (), (), z7.2.2.2.2.2.2.2.2.2.1, z7.2.2.2.2.2.2.2.2.2.2.1,
 z7.2.2.2.2.2.2.2.2.2.2.2.1 ++ [(z7.2.2.2.1, ())], z7.2.2.2.2.2.2.2.2.2.2.2.2.1 ++ [(z7.2.2.2.2.1, ())], ())
 else none
 else none
 else none
 else none
noncomputable def sh9_K9 (j8 : Int × Int × Int × XI × XI × Ty0 × Ty6 × Unit × Unit × XL × XL × XL × XL × Unit → Option (Ty4 × Ty0 × Unit)) (z9 : Int × Int × Int × Bool × Ty0 × Ty6 × Unit × Unit × XI × XI × XL × XL × XL × XL × Unit) : Option (Ty4 × Ty0 × Unit) :=
 if z9.2.2.2.1 = true then
 if decide (z9.2.2.2.2.2.2.2.2.2.1.length + 1 ≤ Abs.lim) = true then
 if decide ((z9.2.2.2.2.2.2.2.2.2.1.length + 1) * 8 ≤ Abs.lim) = true then
 j8
 (IntKind.i64.wrap (z9.1 - 1), IntKind.i64.wrap (z9.2.1 + 1), z9.2.2.1, z9.2.2.2.2.2.2.2.2.1, z9.2.2.2.2.2.2.2.2.2.1 ++ [(z9.2.1, ())],
 z9.2.2.2.2.1, z9.2.2.2.2.2.1, (), (), z9.2.2.2.2.2.2.2.2.2.2)
 else none
 else none
 else j8 (z9.1, z9.2.1, z9.2.2.1, z9.2.2.2.2.2.2.2.2.1, z9.2.2.2.2.2.2.2.2.2.1, z9.2.2.2.2.1, z9.2.2.2.2.2.1, (), (), z9.2.2.2.2.2.2.2.2.2.2)
noncomputable def sh9_K6 (j4 : Int × Int × Int × Ty0 × Ty6 × Unit × Unit × XL × XL × XL × XL × Unit → Option (Ty4 × Ty0 × Unit)) (z6 : Int × Int × Int × Ty0 × Ty6 × Unit × Unit × Ty3 × XI × XI × XL × XL × XL × XL × Unit) : Option (Ty4 × Ty0 × Unit) :=
 joinK (sh9_K7 j4) fun j8 =>
 joinK (sh9_K9 j8) fun j10 =>
 if (z6.2.2.2.2.2.2.2.1.2.2.1 == 0) = true then
 if decide (0 < z6.1) = true then
 (sp18 (z6.2.2.2.1, 3, ())).bind fun r11 => j10 (z6.1, z6.2.1, z6.2.2.1, r11.1 == 0, r11.2.1, z6.2.2.2.2.1, (), (), z6.2.2.2.2.2.2.2.2)
 else j10 (z6.1, z6.2.1, z6.2.2.1, false, z6.2.2.2.1, z6.2.2.2.2.1, (), (), z6.2.2.2.2.2.2.2.2)
 else j10 (z6.1, z6.2.1, z6.2.2.1, false, z6.2.2.2.1, z6.2.2.2.2.1, (), (), z6.2.2.2.2.2.2.2.2)
noncomputable def sh9_K14 (rc13 : Int × Int × Int × Int × Int × Ty0 × Ty6 × Unit × Unit × Ty3 × XI × XI × XL × XL × XL × XL × Unit → Option (Ty4 × Ty0 × Unit)) (z14 : Int × Int × Int × Int × Int × Ty0 × Ty6 × Unit × Unit × Ty3 × XI × XI × XL × XL × XL × XL × Unit) : Option (Ty4 × Ty0 × Unit) :=
 rc13 (z14.1, z14.2.1, z14.2.2.1, z14.2.2.2.1, IntKind.i64.wrap (z14.2.2.2.2.1 + 1), z14.2.2.2.2.2.1, z14.2.2.2.2.2.2.1, (), (), z14.2.2.2.2.2.2.2.2.2)
noncomputable def sh9_K16 (j15 : Int × Int × Int × Int × Int × Ty0 × Ty6 × Unit × Unit × Ty3 × XI × XI × XL × XL × XL × XL × Unit → Option (Ty4 × Ty0 × Unit)) (z16 : Int × Int × Int × Int × Int × Bool × Ty0 × Ty6 × Unit × Unit × Ty3 × XI × XI × XL × XL × XL × XL × Unit) : Option (Ty4 × Ty0 × Unit) :=
 if z16.2.2.2.2.2.1 = true then
 if inR z16.2.2.2.2.1 z16.2.2.2.2.2.2.2.2.2.2.2.1.length = true then
 if decide (z16.2.2.2.2.1.toNat + 1 ≤ z16.2.2.2.2.2.2.2.2.2.2.2.1.length) = true then
 j15
 (IntKind.i64.wrap (z16.1 - 1), IntKind.i64.wrap (z16.2.1 + 1), z16.2.2.1, IntKind.i64.wrap (z16.2.2.2.1 - 1), z16.2.2.2.2.1,
 z16.2.2.2.2.2.2.1, z16.2.2.2.2.2.2.2.1, (), (), z16.2.2.2.2.2.2.2.2.2.2.1,
 z16.2.2.2.2.2.2.2.2.2.2.2.1.set z16.2.2.2.2.1.toNat (z16.2.1, ()), z16.2.2.2.2.2.2.2.2.2.2.2.2)
 else none
 else none
 else j15 (z16.1, z16.2.1, z16.2.2.1, z16.2.2.2.1, z16.2.2.2.2.1, z16.2.2.2.2.2.2.1, z16.2.2.2.2.2.2.2.1, (), (), z16.2.2.2.2.2.2.2.2.2.2)
noncomputable def sh9_L13 (j12 : Int × Int × Int × Ty0 × Ty6 × Unit × Unit × Ty3 × XI × XI × XL × XL × XL × XL × Unit → Option (Ty4 × Ty0 × Unit)) (rc13 : Int × Int × Int × Int × Int × Ty0 × Ty6 × Unit × Unit × Ty3 × XI × XI × XL × XL × XL × XL × Unit → Option (Ty4 × Ty0 × Unit)) (z13 : Int × Int × Int × Int × Int × Ty0 × Ty6 × Unit × Unit × Ty3 × XI × XI × XL × XL × XL × XL × Unit) : Option (Ty4 × Ty0 × Unit) :=
 if decide (z13.2.2.2.2.1 < z13.2.2.2.2.2.2.2.2.2.1.2.2.1) = true then
 joinK (sh9_K14 rc13) fun j15 =>
 joinK (sh9_K16 j15) fun j17 =>
 if decide (0 < z13.1) = true then
 if decide (0 < z13.2.2.2.1) = true then
 (sp18 (z13.2.2.2.2.2.1, 2, ())).bind fun r18 =>
 j17 (z13.1, z13.2.1, z13.2.2.1, z13.2.2.2.1, z13.2.2.2.2.1, r18.1 == 0, r18.2.1, z13.2.2.2.2.2.2.1, (), (), z13.2.2.2.2.2.2.2.2.2)
 else j17 (z13.1, z13.2.1, z13.2.2.1, z13.2.2.2.1, z13.2.2.2.2.1, false, z13.2.2.2.2.2.1, z13.2.2.2.2.2.2.1, (), (), z13.2.2.2.2.2.2.2.2.2)
 else j17 (z13.1, z13.2.1, z13.2.2.1, z13.2.2.2.1, z13.2.2.2.2.1, false, z13.2.2.2.2.2.1, z13.2.2.2.2.2.2.1, (), (), z13.2.2.2.2.2.2.2.2.2)
 else j12 (z13.1, z13.2.1, z13.2.2.1, z13.2.2.2.2.2.1, z13.2.2.2.2.2.2.1, (), (), z13.2.2.2.2.2.2.2.2.2)
noncomputable def sh9_K5 (fuel : Nat) (j4 : Int × Int × Int × Ty0 × Ty6 × Unit × Unit × XL × XL × XL × XL × Unit → Option (Ty4 × Ty0 × Unit)) (z5 : Int × Int × Int × Int × Ty0 × Ty6 × Unit × Unit × Ty3 × XI × XI × XL × XL × XL × XL × Unit) : Option (Ty4 × Ty0 × Unit) :=
 joinK (sh9_K6 j4) fun j12 => iter fuel (sh9_L13 j12) (z5.1, z5.2.1, z5.2.2.1, z5.2.2.2.1, 0, z5.2.2.2.2.1, z5.2.2.2.2.2.1, (), (), z5.2.2.2.2.2.2.2.2)
noncomputable def sh9_L2 (fuel : Nat) (j1 : Ty0 × Unit × Unit × XL × XL × XL × XL × Unit → Option (Ty4 × Ty0 × Unit)) (rc2 : Int × Int × Int × Ty0 × Ty6 × Unit × Unit × XL × XL × XL × XL × Unit → Option (Ty4 × Ty0 × Unit)) (z2 : Int × Int × Int × Ty0 × Ty6 × Unit × Unit × XL × XL × XL × XL × Unit) : Option (Ty4 × Ty0 × Unit) :=
 if decide (z2.2.2.1 < (↑z2.2.2.2.2.1.1.length : Int)) = true then
 joinK (sh9_K3 rc2) fun j4 =>
 if inR z2.2.2.1 z2.2.2.2.2.1.1.length = true then
 if decide (0 ≤ (lAt ([], 0, 0, 0, [], ()) z2.2.2.2.2.1.1 z2.2.2.1).2.2.1) = true then
 if decide ((lAt ([], 0, 0, 0, [], ()) z2.2.2.2.2.1.1 z2.2.2.1).2.2.1 ≤ (lAt ([], 0, 0, 0, [], ()) z2.2.2.2.2.1.1 z2.2.2.1).2.2.1) = true then
 if decide ((lAt ([], 0, 0, 0, [], ()) z2.2.2.2.2.1.1 z2.2.2.1).2.2.1 ≤ (↑Abs.lim : Int)) = true then
 if decide ((↑8 : Int) * (lAt ([], 0, 0, 0, [], ()) z2.2.2.2.2.1.1 z2.2.2.1).2.2.1 ≤ (↑Abs.lim : Int)) = true then
 joinK (sh9_K5 fuel j4) fun j19 =>
 if ((lAt ([], 0, 0, 0, [], ()) z2.2.2.2.2.1.1 z2.2.2.1).2.1 == 5) = true then
 j19
 (z2.1, z2.2.1, z2.2.2.1, IntKind.i64.wrap ((lAt ([], 0, 0, 0, [], ()) z2.2.2.2.2.1.1 z2.2.2.1).2.2.1 - 1), z2.2.2.2.1,
 z2.2.2.2.2.1, (), (), lAt ([], 0, 0, 0, [], ()) z2.2.2.2.2.1.1 z2.2.2.1,
 List.replicate (Int.toNat (lAt ([], 0, 0, 0, [], ()) z2.2.2.2.2.1.1 z2.2.2.1).2.2.1) (0, ()), [], z2.2.2.2.2.2.2.2)
 else
 j19
 (z2.1, z2.2.1, z2.2.2.1, (lAt ([], 0, 0, 0, [], ()) z2.2.2.2.2.1.1 z2.2.2.1).2.2.1, z2.2.2.2.1, z2.2.2.2.2.1, (), (),
 lAt ([], 0, 0, 0, [], ()) z2.2.2.2.2.1.1 z2.2.2.1,
 List.replicate (Int.toNat (lAt ([], 0, 0, 0, [], ()) z2.2.2.2.2.1.1 z2.2.2.1).2.2.1) (0, ()), [], z2.2.2.2.2.2.2.2)
 else none
 else none
 else none
 else none
 else none
 else j1 (z2.2.2.2.1, (), (), z2.2.2.2.2.2.2.2)
noncomputable def sh9 (fuel : Nat) (x0 : Ty0) (x1 : Ty6) (x2 : Int) : Option (Ty4 × Ty0 × Unit) :=
 joinK sh9_K0 fun j1 => iter fuel (sh9_L2 fuel j1) (x2, 1, 0, x0, x1, (), (), [], [], [], [], ())
noncomputable def sp9 (x : Ty0 × Ty6 × (Int) × Unit) : Option (Ty4 × Ty0 × Unit) := sh9 100000 x.1 x.2.1 x.2.2.1
/-! 10 (*baggage/baggagekeep.Src).Commands -/
def g10 : Sig := ⟨[.bx ty0, .v (.ag ty6)], .own (.cons (.int .i64) .nil)⟩
def h10 : HT := (nx (nx (.j ⟨[(5, .own 1010)], [(900000, .box b1), (1010, .arr (.cons (.int .i64) .nil))], []⟩ (nx (.u (.l ⟨[(0, .ref 900000 2), (3, .ref 1000 2), (5, .own 1001), (6, dI)], [(900000, .box b1), (1000, .box b0), (1001, .arr (.cons (.int .i64) .nil))], []⟩ (.n (nx (.n .e .e)) (.n (.u (nx (.j ⟨[(0, .ref 900000 2), (3, .ref 1006 2), (5, .own 1007), (6, dI), (7, dI)], [(900000, .box b1), (1006, .box b0), (1007, .arr (.cons (.int .i64) .nil))], []⟩ (nx (.u (nx (nx (.j ⟨[(0, .ref 900000 2), (3, .ref 1002 2), (5, .own 1003), (6, dI), (7, dI), (20, dI), (28, dB)], [(900000, .box b1), (1002, .box b0), (1003, .arr (.cons (.int .i64) .nil))], []⟩ (nx (.n .e (.r .x))) (.n .e (nx (nx (.j ⟨[(0, .ref 900000 2), (3, .ref 1004 2), (5, .own 1005), (6, dI), (36, dB)], [(900000, .box b1), (1004, .box b0), (1005, .arr (.cons (.int .i64) .nil))], []⟩ (nx (.n .e (.r .x))) (nx (.r .x))))))))))) (.r .x)))) (.r .x)))))) (nx .e))))
noncomputable def sh10_K0 (z0 : Ty0 × XI × Unit) : Option (XI × Ty0 × Unit) :=
 some (z0.2.1, z0.1, ())
noncomputable def sh10_K3 (rc2 : Int × Ty0 × Ty6 × XI × Unit → Option (XI × Ty0 × Unit)) (z3 : Int × Int × Ty0 × Ty6 × XI × Unit) : Option (XI × Ty0 × Unit) :=
 if decide (z3.2.2.2.2.1.length + 1 ≤ Abs.lim) = true then
 if decide ((z3.2.2.2.2.1.length + 1) * 8 ≤ Abs.lim) = true then
 rc2 (IntKind.i64.wrap (z3.1 + 1), z3.2.2.1, z3.2.2.2.1, z3.2.2.2.2.1 ++ [(z3.2.1, ())], ())
 else none
 else none
noncomputable def sh10_K8 (j4 : Int × Int × Ty0 × Ty6 × XI × Unit → Option (XI × Ty0 × Unit)) (z8 : Int × Bool × Ty0 × Ty6 × XI × Unit) : Option (XI × Ty0 × Unit) :=
 if z8.2.1 = true then (sp25 (z8.2.2.1, [(1, ()), (0, ()), (1, ()), (0, ()), (-1, ())], ())).bind fun r9 => j4 (z8.1, r9.1, r9.2.1, z8.2.2.2)
 else (sp25 (z8.2.2.1, [(0, ()), (0, ()), (0, ()), (0, ()), (-1, ())], ())).bind fun r10 => j4 (z8.1, r10.1, r10.2.1, z8.2.2.2)
noncomputable def sh10_K6 (j4 : Int × Int × Ty0 × Ty6 × XI × Unit → Option (XI × Ty0 × Unit)) (z6 : Int × Int × Int × Bool × Ty0 × Ty6 × XI × Unit) : Option (XI × Ty0 × Unit) :=
 if z6.2.2.2.1 = true then j4 (z6.1, z6.2.1, z6.2.2.2.2)
 else
 if (z6.2.2.1 == 5) = true then (sp25 (z6.2.2.2.2.1, [(1, ()), (1, ()), (0, ())], ())).bind fun r7 => j4 (z6.1, r7.1, r7.2.1, z6.2.2.2.2.2)
 else joinK (sh10_K8 j4) fun j11 => if (z6.2.2.1 == 4) = true then j11 (z6.1, z6.2.2.1 == 4, z6.2.2.2.2) else j11 (z6.1, z6.2.2.1 == 6, z6.2.2.2.2)
noncomputable def sh10_L2 (j1 : Ty0 × XI × Unit → Option (XI × Ty0 × Unit)) (rc2 : Int × Ty0 × Ty6 × XI × Unit → Option (XI × Ty0 × Unit)) (z2 : Int × Ty0 × Ty6 × XI × Unit) : Option (XI × Ty0 × Unit) :=
 if decide (z2.1 < (↑z2.2.2.1.1.length : Int)) = true then
 joinK (sh10_K3 rc2) fun j4 =>
 if inR z2.1 z2.2.2.1.1.length = true then
 if ((lAt ([], 0, 0, 0, [], ()) z2.2.2.1.1 z2.1).2.1 == 7) = true then (sp18 (z2.2.1, 8, ())).bind fun r5 => j4 (z2.1, r5.1, r5.2.1, z2.2.2)
 else
 joinK (sh10_K6 j4) fun j12 =>
 if ((lAt ([], 0, 0, 0, [], ()) z2.2.2.1.1 z2.1).2.1 == 8) = true then
 j12 (z2.1, 0, (lAt ([], 0, 0, 0, [], ()) z2.2.2.1.1 z2.1).2.1, (lAt ([], 0, 0, 0, [], ()) z2.2.2.1.1 z2.1).2.1 == 8, z2.2)
 else j12 (z2.1, 0, (lAt ([], 0, 0, 0, [], ()) z2.2.2.1.1 z2.1).2.1, (lAt ([], 0, 0, 0, [], ()) z2.2.2.1.1 z2.1).2.1 == 9, z2.2)
 else none
 else j1 (z2.2.1, z2.2.2.2)
noncomputable def sh10 (fuel : Nat) (x0 : Ty0) (x1 : Ty6) : Option (XI × Ty0 × Unit) :=
 joinK sh10_K0 fun j1 => iter fuel (sh10_L2 j1) (0, x0, x1, [], ())
noncomputable def sp10 (x : Ty0 × Ty6 × Unit) : Option (XI × Ty0 × Unit) := sh10 100000 x.1 x.2.1
/-! 12 (*baggage/baggagekeep.Src).Moves -/
def g12 : Sig := ⟨[.bx ty0, .v (.ag ty6), .v (.ty (.int .i64))], .own ty1⟩
def h12 : HT := (nx (nx (.j ⟨[(7, .own 1018)], [(900000, .box b1), (1018, .arr ty1)], []⟩ (nx (.u (.l ⟨[(0, .ref 900000 2), (2, dI), (4, .ref 1000 2), (7, .own 1001), (8, dI)], [(900000, .box b1), (1000, .box b0), (1001, .arr ty1)], []⟩ (.n (nx (.n .e .e)) (.j ⟨[(0, .ref 900000 2), (2, dI), (4, .ref 1014 2), (7, .own 1015), (8, dI)], [(900000, .box b1), (1014, .box b0), (1015, .arr ty1)], []⟩ (.u (nx (.n (nx (.n .e .e)) (.n (.r (.w 13 [(1, 0), (1, 2), (1, 3), (0, 4), (0, 5), (1, 6), (0, 7), (0, 8), (0, 9), (2, 1), (2, 10), (0, 11), (4, 12)])) (nx (.j ⟨[(0, .ref 900000 2), (2, dI), (4, .ref 1011 2), (7, .own 1012), (8, dI), (10, .ref 1013 3), (11, dB)], [(900000, .box b1), (1011, .box b0), (1013, .box b5), (1012, .arr ty1)], []⟩ (nx (.u (.l ⟨[(0, .ref 900000 2), (2, dI), (4, .ref 1002 2), (7, .own 1003), (8, dI), (10, .ref 1004 3), (11, dB), (12, dI)], [(900000, .box b1), (1002, .box b0), (1004, .box b5), (1003, .arr ty1)], []⟩ (.n (nx (.n .e .e)) (.j ⟨[(0, .ref 900000 2), (2, dI), (4, .ref 1005 2), (7, .own 1006), (8, dI), (10, .ref 1007 3), (11, dB), (12, dI)], [(900000, .box b1), (1005, .box b0), (1007, .box b5), (1006, .arr ty1)], []⟩ (.u (.r .q)) (.r .x)))))) (nx (nx .e)))))))) (.r .x)))))) (nx .e))))
noncomputable def sh12_K0 (z0 : Ty0 × List Ty1 × Unit) : XO3 :=
 some (z0.2.1, z0.1, ())
noncomputable def sh12_K3 (rc2 : Int × Int × Ty0 × Ty6 × List Ty1 × Unit → XO3) (z3 : Int × Int × Ty0 × Ty6 × List Ty1 × Unit) : XO3 :=
 rc2 (z3.1, IntKind.i64.wrap (z3.2.1 + 1), z3.2.2)
noncomputable def sh12_K8 (j4 : Int × Int × Ty0 × Ty6 × List Ty1 × Unit → XO3) (z8 : Int × Int × Bool × Ty0 × Ty6 × Ty1 × List Ty1 × Unit) : XO3 :=
 if (!z8.2.2.1) = true then
 if decide (z8.2.2.2.2.2.2.1.length + 1 ≤ Abs.lim) = true then
 if decide ((z8.2.2.2.2.2.2.1.length + 1) * 24 ≤ Abs.lim) = true then
 j4 (z8.1, z8.2.1, z8.2.2.2.1, z8.2.2.2.2.1, z8.2.2.2.2.2.2.1 ++ [z8.2.2.2.2.2.1], ())
 else none
 else none
 else j4 (z8.1, z8.2.1, z8.2.2.2.1, z8.2.2.2.2.1, z8.2.2.2.2.2.2)
noncomputable def sh12_K11 (rc10 : Int × Int × Bool × Int × Ty0 × Ty6 × Ty1 × List Ty1 × Unit → XO3) (z11 : Int × Int × Bool × Int × Ty0 × Ty6 × Ty1 × List Ty1 × Unit) : XO3 :=
 rc10 (z11.1, z11.2.1, z11.2.2.1, IntKind.i64.wrap (z11.2.2.2.1 + 1), z11.2.2.2.2)
noncomputable def sh12_L10 (j9 : Int × Int × Bool × Ty0 × Ty6 × Ty1 × List Ty1 × Unit → XO3) (rc10 : Int × Int × Bool × Int × Ty0 × Ty6 × Ty1 × List Ty1 × Unit → XO3) (z10 : Int × Int × Bool × Int × Ty0 × Ty6 × Ty1 × List Ty1 × Unit) : XO3 :=
 if decide (z10.2.2.2.1 < (↑z10.2.2.2.2.2.2.2.1.length : Int)) = true then
 joinK (sh12_K11 rc10) fun j12 =>
 if z10.2.2.1 = true then j12 (z10.1, z10.2.1, true, z10.2.2.2)
 else
 if inR z10.2.2.2.1 z10.2.2.2.2.2.2.2.1.length = true then
 if decide (z10.2.2.2.1.toNat + 1 ≤ z10.2.2.2.2.2.2.2.1.length) = true then
 if ((z10.2.2.2.2.2.2.2.1.getD z10.2.2.2.1.toNat (0, 0, 0, ())).2.1 == z10.2.2.2.2.2.2.1.2.1) = true then
 if inR z10.2.2.2.1 z10.2.2.2.2.2.2.2.1.length = true then
 if decide (z10.2.2.2.1.toNat + 1 ≤ z10.2.2.2.2.2.2.2.1.length) = true then
 j12 (z10.1, z10.2.1, (z10.2.2.2.2.2.2.2.1.getD z10.2.2.2.1.toNat (0, 0, 0, ())).2.2.1 == z10.2.2.2.2.2.2.1.2.2.1, z10.2.2.2)
 else none
 else none
 else j12 (z10.1, z10.2.1, false, z10.2.2.2)
 else none
 else none
 else j9 (z10.1, z10.2.1, z10.2.2.1, z10.2.2.2.2)
noncomputable def sh12_L2 (fuel : Nat) (j1 : Ty0 × List Ty1 × Unit → XO3) (rc2 : Int × Int × Ty0 × Ty6 × List Ty1 × Unit → XO3) (z2 : Int × Int × Ty0 × Ty6 × List Ty1 × Unit) : XO3 :=
 if decide (z2.2.1 < z2.1) = true then
 joinK (sh12_K3 rc2) fun j4 =>
 (sp18 (z2.2.2.1, (↑z2.2.2.2.1.1.length : Int), ())).bind fun r5 =>
 if inR r5.1 z2.2.2.2.1.1.length = true then
 if ((lAt ([], 0, 0, 0, [], ()) z2.2.2.2.1.1 r5.1).2.2.1 == 0) = true then j4 (z2.1, z2.2.1, r5.2.1, z2.2.2.2)
 else
 if inR r5.1 z2.2.2.2.1.1.length = true then
 (sp17 (r5.2.1, 1, 2, ())).bind fun r6 =>
 (sp18 (r6.2.1, (lAt ([], 0, 0, 0, [], ()) z2.2.2.2.1.1 r5.1).2.2.1, ())).bind fun r7 =>
 joinK (sh12_K8 j4) fun j9 => iter fuel (sh12_L10 j9) (z2.1, z2.2.1, false, 0, r7.2.1, z2.2.2.2.1, (r6.1, r5.1, r7.1, ()), z2.2.2.2.2)
 else none
 else none
 else j1 (z2.2.2.1, z2.2.2.2.2)
noncomputable def sh12 (fuel : Nat) (x0 : Ty0) (x1 : Ty6) (x2 : Int) : XO3 :=
 joinK sh12_K0 fun j1 => iter fuel (sh12_L2 fuel j1) (x2, 0, x0, x1, [], ())
noncomputable def sp12 (x : Ty0 × Ty6 × (Int) × Unit) : XO3 := sh12 100000 x.1 x.2.1 x.2.2.1
/-! 91 baggage/fields.Letter -/
def g91 : Sig := ⟨[.v (.ty (.int .u8))], .v (.ty .bool)⟩
def h91 : HT := (nx (.j ⟨[(2, dB)], [], []⟩ (.r .x) .e))
noncomputable def sh91_K0 (z0 : Bool × Unit) : XB :=
 some z0
noncomputable def sh91 (fuel : Nat) (x0 : Int) : XB :=
 joinK sh91_K0 fun j1 => if decide (65 ≤ x0) = true then j1 (decide (x0 ≤ 90), ()) else j1 (false, ())
noncomputable def sp91 (x : (Int) × Unit) : XB := sh91 0 x.1
noncomputable def c92 : Code := bd Tryd.f92
/-! 94 baggage/fields.Digit -/
def g94 : Sig := ⟨[.v (.ty (.int .u8))], .v (.ty .bool)⟩
def h94 : HT := (nx (.j ⟨[(2, dB)], [], []⟩ (.r .x) .e))
noncomputable def sh94_K0 (z0 : Bool × Unit) : XB :=
 some z0
noncomputable def sh94 (fuel : Nat) (x0 : Int) : XB :=
 joinK sh94_K0 fun j1 => if decide (48 ≤ x0) = true then j1 (decide (x0 ≤ 57), ()) else j1 (false, ())
noncomputable def sp94 (x : (Int) × Unit) : XB := sh94 0 x.1
noncomputable def c93 : Code := bd Tryd.f93
/-! 79 baggage/fields.Name -/
noncomputable def c79 : Code := bd Tryd.f79
def g79 : Sig := ⟨[.v (.ty .str), .v (.ty (.int .i64))], .v (.ty .bool)⟩
def h79 : HT := (nx (.j ⟨[(4, dB)], [], []⟩ (.ri .x [(20, 0, (nx (.j ⟨[(18, dB)], [], []⟩ (nx (.u (.l ⟨[(18, dB), (22, dS), (23, .cst (.fn 93)), (29, dI), (30, dI)], [], []⟩ (nx (.n (.n .e .e) (.n (.u (nx (.n (.ri .x [(37, 0, (nx (.j ⟨[(18, dB), (22, dS), (23, .cst (.fn 93)), (29, dI), (30, dI), (42, dB)], [], []⟩ (.r .x) .e)))]) (.n (nx .e) .e)))) (.r .x))))))) (nx .e))))]) .e))
noncomputable def FT79 : List (Nat × Entry) := [(91, ⟨g91, sp91⟩), (94, ⟨g94, sp94⟩)]
noncomputable def IT79 : List (Nat × Inl) := [(92, ⟨18, [.tmp 4], c92⟩), (93, ⟨9, [.tmp 2], c93⟩)]
def MT79 : MTab := []
noncomputable def sh79_K0 (z0 : Bool × Unit) : XB :=
 some z0
noncomputable def sh79_K3 (j1 : Bool × Unit → XB) (z3 : Bool × Unit) : XB :=
 if z3.1 = true then j1 (true, ()) else j1 (false, ())
noncomputable def sh79_K6 (j1 : Bool × Unit → XB) (rc5 : Bool × List UInt8 × Int × Int × Unit → XB) (z6 : Bool × List UInt8 × Int × Int × Bool × Unit) : XB :=
 if (!z6.2.2.2.2.1) = true then if z6.1 = true then j1 (false, ()) else j1 (false, ())
 else rc5 (z6.1, z6.2.1, z6.2.2.1, IntKind.i64.wrap (z6.2.2.2.1 + 1), ())
noncomputable def sh79_L5 (j1 : Bool × Unit → XB) (j4 : Bool × Unit → XB) (rc5 : Bool × List UInt8 × Int × Int × Unit → XB) (z5 : Bool × List UInt8 × Int × Int × Unit) : XB :=
 if decide (z5.2.2.2.1 < z5.2.2.1) = true then
 if inR z5.2.2.2.1 z5.2.1.length = true then
 joinK (sh79_K6 j1 rc5) fun j7 =>
 (sp91 (sAt z5.2.1 z5.2.2.2.1, ())).bind fun r8 =>
 if r8.1 = true then j7 (z5.1, z5.2.1, z5.2.2.1, z5.2.2.2.1, true, ())
 else (sp94 (sAt z5.2.1 z5.2.2.2.1, ())).bind fun r9 => j7 (z5.1, z5.2.1, z5.2.2.1, z5.2.2.2.1, r9)
 else none
 else j4 (z5.1, ())
noncomputable def sh79 (fuel : Nat) (x0 : List UInt8) (x1 : Int) : XB :=
 joinK sh79_K0 fun j1 =>
 if (!x0 == []) = true then
 if decide ((↑x0.length : Int) ≤ x1) = true then
 if inR 0 x0.length = true then
 (sp91 (sAt x0 0, ())).bind fun r2 =>
 if r2.1 = true then joinK (sh79_K3 j1) fun j4 => iter fuel (sh79_L5 j1 j4) (true, x0, (↑x0.length : Int), 0, ()) else j1 (false, ())
 else none
 else j1 (false, ())
 else j1 (false, ())
noncomputable def sp79 (x : (List UInt8) × (Int) × Unit) : XB := sh79 100000 x.1 x.2.1
/-! 80 baggage/layout.length -/
def g80 : Sig := ⟨[.v (.ag ty3)], .v (.ty .bool)⟩
def h80 : HT := (nx (.n (.u (nx (.n (nx .e) (nx (.n (.j ⟨[(2, dB)], [], []⟩ (.r .x) .e) .e))))) (.j ⟨[(2, dB)], [], []⟩ (.r .x) .e)))
noncomputable def sh80_K1 (z1 : Bool × Unit) : XB :=
 some z1
noncomputable def sh80_K3 (z3 : Bool × Unit) : XB :=
 some z3
noncomputable def sh80 (fuel : Nat) (x0 : Ty3) : XB :=
 (sp48 (x0.2.1, ())).bind fun r0 =>
 if (!r0.1) = true then some (x0.2.2.1 == 0, ())
 else
 if (x0.2.1 == 5) = true then joinK sh80_K1 fun j2 => if decide (2 ≤ x0.2.2.1) = true then j2 (decide (x0.2.2.1 ≤ 8), ()) else j2 (false, ())
 else joinK sh80_K3 fun j4 => if decide (1 ≤ x0.2.2.1) = true then j4 (decide (x0.2.2.1 ≤ 8), ()) else j4 (false, ())
noncomputable def sp80 (x : Ty3 × Unit) : XB := sh80 0 x.1
/-! 95 baggage/layout.exits -/
def g95 : Sig := ⟨[.v (.ty (.int .i64))], .v (.ty (.int .i64))⟩
def h95 : HT := (nx (.n (nx (.u (.j ⟨[(3, dI), (4, dB)], [], []⟩ (nx (.n .e (.r .x))) (.n (nx .e) (.j ⟨[(7, dB)], [], []⟩ (nx (.n .e (nx (.n .e (.r .x))))) (.n (nx .e) .e)))))) (nx .e)))
noncomputable def sh95_K1 (z1 : Bool × Unit) : XO0 :=
 if z1.1 = true then some (2, ()) else some (1, ())
noncomputable def sh95_K0 (z0 : Int × Bool × Unit) : XO0 :=
 if z0.2.1 = true then some (0, ())
 else joinK sh95_K1 fun j2 => if (z0.1 == 4) = true then j2 (z0.1 == 4, ()) else if (z0.1 == 5) = true then j2 (z0.1 == 5, ()) else j2 (z0.1 == 6, ())
noncomputable def sh95 (fuel : Nat) (x0 : Int) : XO0 :=
 joinK sh95_K0 fun j3 => if (x0 == 8) = true then j3 (x0, x0 == 8, ()) else j3 (x0, x0 == 9, ())
noncomputable def sp95 (x : (Int) × Unit) : XO0 := sh95 0 x.1
/-! 81 baggage/layout.leads -/
def g81 : Sig := ⟨[.v (.ag ty6), .v (.ty (.int .i64))], .v (.ty .bool)⟩
def h81 : HT := (nx (nx (.n (.n (.r .q) (.n (nx .e) .e)) (.j ⟨[], [], []⟩ (nx (.u (.l ⟨[(1, dI), (2, .ref 1000 2), (5, .ref 1001 5), (22, dL), (23, dI), (24, dI)], [(1000, .box b0), (1001, .box b2)], []⟩ (nx (.n (.n .e .e) (.n (.u (nx (.j ⟨[(1, dI), (2, .ref 1002 2), (5, .ref 1003 5), (6, dI), (7, dI), (8, dB), (22, dL), (23, dI), (24, dI)], [(1002, .box b0), (1003, .box b2)], []⟩ (.r .x) (.j ⟨[(1, dI), (2, .ref 1004 2), (5, .ref 1005 5), (22, dL), (23, dI), (24, dI), (59, dB)], [(1004, .box b0), (1005, .box b2)], []⟩ (.r .x) (.n (nx .e) .e))))) (.r .x))))))) (nx .e)))))
noncomputable def sh81_K1 (z1 : Unit) : XB :=
 some (true, ())
noncomputable def sh81_K5 (rc3 : Int × XI × Int × Int × Ty6 × Ty3 × Unit → XB) (z5 : Int × XI × Int × Int × Bool × Ty6 × Ty3 × Unit) : XB :=
 if z5.2.2.2.2.1 = true then some (false, ()) else rc3 (z5.1, z5.2.1, z5.2.2.1, IntKind.i64.wrap (z5.2.2.2.1 + 1), z5.2.2.2.2.2)
noncomputable def sh81_K4 (rc3 : Int × XI × Int × Int × Ty6 × Ty3 × Unit → XB) (z4 : Int × Int × Int × Bool × XI × Int × Int × Ty6 × Ty3 × Unit) : XB :=
 joinK (sh81_K5 rc3) fun j6 =>
 if decide (z4.2.2.1 < 0) = true then j6 (z4.1, z4.2.2.2.2.1, z4.2.2.2.2.2.1, z4.2.2.2.2.2.2.1, true, z4.2.2.2.2.2.2.2)
 else
 if decide ((↑z4.2.2.2.2.2.2.2.1.1.length : Int) ≤ z4.2.2.1) = true then
 j6 (z4.1, z4.2.2.2.2.1, z4.2.2.2.2.2.1, z4.2.2.2.2.2.2.1, true, z4.2.2.2.2.2.2.2)
 else
 if (!(z4.2.2.1 == z4.1) == z4.2.2.2.1) = true then j6 (z4.1, z4.2.2.2.2.1, z4.2.2.2.2.2.1, z4.2.2.2.2.2.2.1, true, z4.2.2.2.2.2.2.2)
 else
 if inCut 0 z4.2.1 z4.2.2.2.2.2.2.2.2.1.2.2.2.2.1.length = true then
 (sp66 (cutL z4.2.2.2.2.2.2.2.2.1.2.2.2.2.1 0 z4.2.1, z4.2.2.1, ())).bind fun r7 =>
 j6 (z4.1, z4.2.2.2.2.1, z4.2.2.2.2.2.1, z4.2.2.2.2.2.2.1, r7.1, z4.2.2.2.2.2.2.2)
 else none
noncomputable def sh81_L3 (j2 : Unit → XB) (rc3 : Int × XI × Int × Int × Ty6 × Ty3 × Unit → XB) (z3 : Int × XI × Int × Int × Ty6 × Ty3 × Unit) : XB :=
 if decide (z3.2.2.2.1 < z3.2.2.1) = true then
 if inR z3.2.2.2.1 z3.2.1.length = true then
 joinK (sh81_K4 rc3) fun j8 =>
 if (z3.2.2.2.2.2.1.2.1 == 5) = true then j8 (z3.1, z3.2.2.2.1, (lAt (0, ()) z3.2.1 z3.2.2.2.1).1, z3.2.2.2.1 == 0, z3.2)
 else j8 (z3.1, z3.2.2.2.1, (lAt (0, ()) z3.2.1 z3.2.2.2.1).1, false, z3.2)
 else none
 else j2 ()
noncomputable def sh81 (fuel : Nat) (x0 : Ty6) (x1 : Int) : XB :=
 if inR x1 x0.1.length = true then
 (sp95 ((lAt ([], 0, 0, 0, [], ()) x0.1 x1).2.1, ())).bind fun r0 =>
 if ((↑(List.length (lAt ([], 0, 0, 0, [], ()) x0.1 x1).2.2.2.2.1) : Int) != r0.1) = true then some (false, ())
 else
 joinK sh81_K1 fun j2 =>
 iter fuel (sh81_L3 j2)
 (x1, (lAt ([], 0, 0, 0, [], ()) x0.1 x1).2.2.2.2.1, (↑(List.length (lAt ([], 0, 0, 0, [], ()) x0.1 x1).2.2.2.2.1) : Int), 0, x0,
 lAt ([], 0, 0, 0, [], ()) x0.1 x1, ())
 else none
noncomputable def sp81 (x : Ty6 × (Int) × Unit) : XB := sh81 100000 x.1 x.2.1
/-! 57 baggage/layout.node -/
def g57 : Sig := ⟨[.v (.ag ty6), .v (.ty (.int .i64))], .v (.ty (.int .i64))⟩
def h57 : HT := (nx (nx (.n (.u (nx (.n (nx .e) (.j ⟨[(1, dI), (2, .ref 1000 2), (5, .ref 1001 5), (16, dB)], [(1000, .box b0), (1001, .box b2)], []⟩ (.r .x) (.n (nx .e) (.j ⟨[(25, dB)], [], []⟩ (.r .x) (.n (nx .e) .e))))))) (nx .e))))
noncomputable def sh57_K2 (z2 : Bool × Unit) : XO0 :=
 if z2.1 = true then some (1, ()) else some (0, ())
noncomputable def sh57_K1 (z1 : Int × Bool × Ty6 × Ty3 × Unit) : XO0 :=
 if z1.2.1 = true then some (4, ())
 else
 joinK sh57_K2 fun j3 =>
 (sp80 z1.2.2.2).bind fun r4 =>
 if (!r4.1) = true then j3 (true, ())
 else
 if (z1.2.2.2.1.2.2.2.1 != 0) = true then
 if (z1.2.2.2.1.2.2.2.1 != 1) = true then j3 (true, ()) else (sp81 (z1.2.2.1, z1.1, ())).bind fun r5 => j3 (!r5.1, ())
 else (sp81 (z1.2.2.1, z1.1, ())).bind fun r6 => j3 (!r6.1, ())
noncomputable def sh57 (fuel : Nat) (x0 : Ty6) (x1 : Int) : XO0 :=
 if inR x1 x0.1.length = true then
 (sp79 ((lAt ([], 0, 0, 0, [], ()) x0.1 x1).1, 12, ())).bind fun r0 =>
 if (!r0.1) = true then some (3, ())
 else
 joinK sh57_K1 fun j7 =>
 if decide ((lAt ([], 0, 0, 0, [], ()) x0.1 x1).2.1 < 1) = true then j7 (x1, true, x0, lAt ([], 0, 0, 0, [], ()) x0.1 x1, ())
 else j7 (x1, decide (9 < (lAt ([], 0, 0, 0, [], ()) x0.1 x1).2.1), x0, lAt ([], 0, 0, 0, [], ()) x0.1 x1, ())
 else none
noncomputable def sp57 (x : Ty6 × (Int) × Unit) : XO0 := sh57 0 x.1 x.2.1
/-! 58 baggage/layout.total -/
def g58 : Sig := ⟨[.v (.ag ty6)], .v (.ty (.int .i64))⟩
def h58 : HT := (nx (nx (.j ⟨[(3, dI)], [], []⟩ (nx (.u (.l ⟨[(3, dI), (7, .d (.ty (.sl ty3))), (8, dI), (9, dI)], [], []⟩ (nx (.n (.n .e .e) (.n (.u (nx (.r .x))) (.r .x))))))) (nx .e))))
noncomputable def sh58_K0 (z0 : Int × Unit) : XO0 :=
 some z0
noncomputable def sh58_L2 (j1 : Int × Unit → XO0) (rc2 : Int × List Ty3 × Int × Int × Unit → XO0) (z2 : Int × List Ty3 × Int × Int × Unit) : XO0 :=
 if decide (z2.2.2.2.1 < z2.2.2.1) = true then
 if inR z2.2.2.2.1 z2.2.1.length = true then
 rc2 (IntKind.i64.wrap (z2.1 + (lAt ([], 0, 0, 0, [], ()) z2.2.1 z2.2.2.2.1).2.2.1), z2.2.1, z2.2.2.1, IntKind.i64.wrap (z2.2.2.2.1 + 1), ())
 else none
 else j1 (z2.1, ())
noncomputable def sh58 (fuel : Nat) (x0 : Ty6) : XO0 :=
 joinK sh58_K0 fun j1 => iter fuel (sh58_L2 j1) (0, x0.1, (↑x0.1.length : Int), 0, ())
noncomputable def sp58 (x : Ty6 × Unit) : XO0 := sh58 100000 x.1
noncomputable def c96 : Code := bd Tryd.f96
noncomputable def c84 : Code := bd Tryd.f84
/-! 82 baggage/layout.Find -/
noncomputable def c82 : Code := bd Tryd.f82
def g82 : Sig := ⟨[.v (.ag ty6), .v (.ty .str)], .v (.ty (.int .i64))⟩
def h82 : HT := (nx (.j ⟨[(4, dI)], [], []⟩ (.ri .x [(8, 0, (nx (.j ⟨[], [], []⟩ (nx (.u (.l ⟨[(9, .d (.ty (.sl ty3))), (10, .wrp (some 96, 0) [(1000, 1)]), (16, dI), (17, dI)], [(1000, .box [.d .str])], []⟩ (nx (.n (.n .e .e) (.n (.u (nx (.n (.ri .x [(25, 0, (nx (nx .e)))]) (.n (nx .e) .e)))) (.r .x))))))) (nx .e))))]) .e))
noncomputable def FT82 : List (Nat × Entry) := []
noncomputable def IT82 : List (Nat × Inl) := [(84, ⟨19, [.tmp 4], c84⟩), (96, ⟨8, [.tmp 3], c96⟩)]
def MT82 : MTab := []
noncomputable def sh82_K0 (z0 : Int × Unit) : XO0 :=
 some z0
noncomputable def sh82_K2 (j1 : Int × Unit → XO0) (z2 : Unit) : XO0 :=
 j1 (-1, ())
noncomputable def sh82_L4 (j1 : Int × Unit → XO0) (j3 : Unit → XO0) (rc4 : List Ty3 × Int × Int × Tz1 × Unit → XO0) (z4 : List Ty3 × Int × Int × Tz1 × Unit) : XO0 :=
 if decide (z4.2.2.1 < z4.2.1) = true then
 if inR z4.2.2.1 z4.1.length = true then
 if ((lAt ([], 0, 0, 0, [], ()) z4.1 z4.2.2.1).1 == z4.2.2.2.1.1) = true then j1 (z4.2.2.1, ())
 else rc4 (z4.1, z4.2.1, IntKind.i64.wrap (z4.2.2.1 + 1), z4.2.2.2)
 else none
 else j3 ()
noncomputable def sh82 (fuel : Nat) (x0 : Ty6) (x1 : List UInt8) : XO0 :=
 joinK sh82_K0 fun j1 => joinK (sh82_K2 j1) fun j3 => iter fuel (sh82_L4 j1 j3) (x0.1, (↑x0.1.length : Int), 0, (x1, ()), ())
noncomputable def sp82 (x : Ty6 × (List UInt8) × Unit) : XO0 := sh82 100000 x.1 x.2.1
/-! 59 baggage/layout.named -/
def g59 : Sig := ⟨[.v (.ag ty6)], .v (.ty .bool)⟩
def h59 : HT := (nx (.j ⟨[], [], []⟩ (nx (.u (.l ⟨[(1, .ref 1000 2), (6, .d (.ty (.sl ty3))), (7, dI), (8, dI)], [(1000, .box b0)], []⟩ (nx (.n (.n .e .e) (.n (.u (nx (nx (.n (nx .e) .e)))) (.r .x))))))) (nx .e)))
noncomputable def sh59_K0 (z0 : Unit) : XB :=
 some (true, ())
noncomputable def sh59_L2 (j1 : Unit → XB) (rc2 : List Ty3 × Int × Int × Ty6 × Unit → XB) (z2 : List Ty3 × Int × Int × Ty6 × Unit) : XB :=
 if decide (z2.2.2.1 < z2.2.1) = true then
 if inR z2.2.2.1 z2.1.length = true then
 (sp82 (z2.2.2.2.1, (lAt ([], 0, 0, 0, [], ()) z2.1 z2.2.2.1).1, ())).bind fun r3 =>
 if (r3.1 != z2.2.2.1) = true then some (false, ()) else rc2 (z2.1, z2.2.1, IntKind.i64.wrap (z2.2.2.1 + 1), z2.2.2.2)
 else none
 else j1 ()
noncomputable def sh59 (fuel : Nat) (x0 : Ty6) : XB :=
 joinK sh59_K0 fun j1 => iter fuel (sh59_L2 j1) (x0.1, (↑x0.1.length : Int), 0, x0, ())
noncomputable def sp59 (x : Ty6 × Unit) : XB := sh59 100000 x.1
/-! 60 baggage/layout.zoned -/
def g60 : Sig := ⟨[.v (.ag ty6), .v (.ty (.int .i64))], .v (.ty .bool)⟩
def h60 : HT := (nx (nx (.j ⟨[(2, .ref 1004 2), (5, .ref 1005 5)], [(1004, .box b0), (1005, .box b2)], []⟩ (nx (.u (.j ⟨[(2, .ref 1000 2), (5, .ref 1001 5), (15, dI), (16, dB)], [(1000, .box b0), (1001, .box b2)], []⟩ (nx (.n .e (nx (.n .e (.r .x))))) (.n (nx (.n (nx .e) .e)) (.j ⟨[(2, .ref 1002 2), (5, .ref 1003 5), (23, dB)], [(1002, .box b0), (1003, .box b2)], []⟩ (nx (.n .e (.r .x))) (.n (nx (.n (nx .e) .e)) .e)))))) (.j ⟨[], [], []⟩ (nx (.u (.l ⟨[(2, .ref 1006 2), (5, .ref 1007 5), (30, dL), (31, dI), (32, dI)], [(1006, .box b0), (1007, .box b2)], []⟩ (nx (.n (.n .e .e) (.n (.u (nx (nx (.j ⟨[(2, .ref 1010 2), (5, .ref 1011 5), (7, dI), (8, dI), (30, dL), (31, dI), (32, dI)], [(1010, .box b0), (1011, .box b2)], []⟩ (.j ⟨[(2, .ref 1008 2), (5, .ref 1009 5), (7, dI), (8, dI), (30, dL), (31, dI), (32, dI), (45, dB)], [(1008, .box b0), (1009, .box b2)], []⟩ (.r .x) (nx .e)) (.j ⟨[(2, .ref 1012 2), (5, .ref 1013 5), (30, dL), (31, dI), (32, dI), (62, dB)], [(1012, .box b0), (1013, .box b2)], []⟩ (.r .x) (.n (nx .e) .e)))))) (.r .x))))))) (nx .e)))))
noncomputable def sh60_K1 (z1 : Unit) : XB :=
 some (true, ())
noncomputable def sh60_K5 (rc3 : XI × Int × Int × Ty6 × Ty3 × Unit → XB) (z5 : XI × Int × Int × Bool × Ty6 × Ty3 × Unit) : XB :=
 if z5.2.2.2.1 = true then some (false, ()) else rc3 (z5.1, z5.2.1, IntKind.i64.wrap (z5.2.2.1 + 1), z5.2.2.2.2)
noncomputable def sh60_K4 (rc3 : XI × Int × Int × Ty6 × Ty3 × Unit → XB) (z4 : Int × Int × XI × Int × Int × Ty6 × Ty3 × Unit) : XB :=
 joinK (sh60_K5 rc3) fun j6 =>
 if inR z4.1 z4.2.2.2.2.2.1.1.length = true then
 if ((lAt ([], 0, 0, 0, [], ()) z4.2.2.2.2.2.1.1 z4.1).2.1 == 1) = true then j6 (z4.2.2.1, z4.2.2.2.1, z4.2.2.2.2.1, true, z4.2.2.2.2.2)
 else
 if inR z4.1 z4.2.2.2.2.2.1.1.length = true then
 j6 (z4.2.2.1, z4.2.2.2.1, z4.2.2.2.2.1, (lAt ([], 0, 0, 0, [], ()) z4.2.2.2.2.2.1.1 z4.1).2.2.2.1 != z4.2.1, z4.2.2.2.2.2)
 else none
 else none
noncomputable def sh60_K8 (j7 : Int × Int × XI × Int × Int × Ty6 × Ty3 × Unit → XB) (z8 : Int × Int × XI × Int × Int × Bool × Ty6 × Ty3 × Unit) : XB :=
 if z8.2.2.2.2.2.1 = true then j7 (z8.1, 1, z8.2.2.1, z8.2.2.2.1, z8.2.2.2.2.1, z8.2.2.2.2.2.2)
 else j7 (z8.1, z8.2.1, z8.2.2.1, z8.2.2.2.1, z8.2.2.2.2.1, z8.2.2.2.2.2.2)
noncomputable def sh60_L3 (j2 : Unit → XB) (rc3 : XI × Int × Int × Ty6 × Ty3 × Unit → XB) (z3 : XI × Int × Int × Ty6 × Ty3 × Unit) : XB :=
 if decide (z3.2.2.1 < z3.2.1) = true then
 if inR z3.2.2.1 z3.1.length = true then
 joinK (sh60_K4 rc3) fun j7 =>
 joinK (sh60_K8 j7) fun j9 =>
 if (z3.2.2.2.2.1.2.1 == 6) = true then
 j9 ((lAt (0, ()) z3.1 z3.2.2.1).1, z3.2.2.2.2.1.2.2.2.1, z3.1, z3.2.1, z3.2.2.1, z3.2.2.1 == 1, z3.2.2.2)
 else j9 ((lAt (0, ()) z3.1 z3.2.2.1).1, z3.2.2.2.2.1.2.2.2.1, z3.1, z3.2.1, z3.2.2.1, false, z3.2.2.2)
 else none
 else j2 ()
noncomputable def sh60_K0 (fuel : Nat) (z0 : Ty6 × Ty3 × Unit) : XB :=
 joinK sh60_K1 fun j2 => iter fuel (sh60_L3 j2) (z0.2.1.2.2.2.2.1, (↑z0.2.1.2.2.2.2.1.length : Int), 0, z0)
noncomputable def sh60_K12 (j10 : Ty6 × Ty3 × Unit → XB) (z12 : Bool × Ty6 × Ty3 × Unit) : XB :=
 if z12.1 = true then if (z12.2.2.1.2.2.2.1 != 1) = true then some (false, ()) else j10 z12.2 else j10 z12.2
noncomputable def sh60_K11 (j10 : Ty6 × Ty3 × Unit → XB) (z11 : Int × Bool × Ty6 × Ty3 × Unit) : XB :=
 if z11.2.1 = true then if (z11.2.2.2.1.2.2.2.1 != 0) = true then some (false, ()) else j10 z11.2.2
 else joinK (sh60_K12 j10) fun j13 => if (z11.1 == 7) = true then j13 (z11.1 == 7, z11.2.2) else j13 (z11.1 == 8, z11.2.2)
noncomputable def sh60 (fuel : Nat) (x0 : Ty6) (x1 : Int) : XB :=
 if inR x1 x0.1.length = true then
 joinK (sh60_K0 fuel) fun j10 =>
 joinK (sh60_K11 j10) fun j14 =>
 if ((lAt ([], 0, 0, 0, [], ()) x0.1 x1).2.1 == 1) = true then
 j14 ((lAt ([], 0, 0, 0, [], ()) x0.1 x1).2.1, (lAt ([], 0, 0, 0, [], ()) x0.1 x1).2.1 == 1, x0, lAt ([], 0, 0, 0, [], ()) x0.1 x1, ())
 else
 if ((lAt ([], 0, 0, 0, [], ()) x0.1 x1).2.1 == 3) = true then
 j14 ((lAt ([], 0, 0, 0, [], ()) x0.1 x1).2.1, (lAt ([], 0, 0, 0, [], ()) x0.1 x1).2.1 == 3, x0, lAt ([], 0, 0, 0, [], ()) x0.1 x1, ())
 else j14 ((lAt ([], 0, 0, 0, [], ()) x0.1 x1).2.1, (lAt ([], 0, 0, 0, [], ()) x0.1 x1).2.1 == 6, x0, lAt ([], 0, 0, 0, [], ()) x0.1 x1, ())
 else none
noncomputable def sp60 (x : Ty6 × (Int) × Unit) : XB := sh60 100000 x.1 x.2.1
/-! 61 baggage/layout.sorted -/
def g61 : Sig := ⟨[.v (.ag ty6)], .own (.cons (.int .i64) .nil)⟩
def h61 : HT := (nx (nx (.j ⟨[(1, .ref 1012 2), (3, .wrp (some 0, 1) [(1013, 0)])], [(1012, .box b0), (1013, .mp .i64 .i64)], []⟩ (nx (.u (.l ⟨[(1, .ref 1000 2), (3, .wrp (some 0, 1) [(1001, 0)]), (16, .d (.ty (.sl ty3))), (17, dI), (18, dI)], [(1000, .box b0), (1001, .mp .i64 .i64)], []⟩ (nx (.n (.n .e .e) (.j ⟨[(1, .ref 1008 2), (3, .wrp (some 0, 1) [(1009, 0)]), (16, .d (.ty (.sl ty3))), (17, dI), (18, dI)], [(1008, .box b0), (1009, .mp .i64 .i64)], []⟩ (.u (nx (nx (.u (.l ⟨[(1, .ref 1002 2), (3, .wrp (some 0, 1) [(1003, 0)]), (4, dI), (16, .d (.ty (.sl ty3))), (17, dI), (18, dI), (24, dL), (25, dI), (26, dI)], [(1002, .box b0), (1003, .mp .i64 .i64)], []⟩ (nx (.n (.n .e .e) (.j ⟨[(1, .ref 1004 2), (3, .wrp (some 0, 1) [(1005, 0)]), (4, dI), (16, .d (.ty (.sl ty3))), (17, dI), (18, dI), (24, dL), (25, dI), (26, dI)], [(1004, .box b0), (1005, .mp .i64 .i64)], []⟩ (.u (nx (nx (nx .e)))) (.r .x))))))))) (.r .x))))))) (nx (nx (.j ⟨[(8, .own 1054)], [(1054, .arr (.cons (.int .i64) .nil))], []⟩ (nx (.u (.l ⟨[(1, .ref 1014 2), (3, .wrp (some 0, 1) [(1015, 0)]), (8, .own 1016), (9, .own 1017), (45, dI), (46, dI)], [(1014, .box b0), (1015, .mp .i64 .i64), (1016, .arr (.cons (.int .i64) .nil)), (1017, .arr (.cons .bool .nil))], []⟩ (nx (.n (.n .e .e) (.j ⟨[(1, .ref 1046 2), (3, .wrp (some 0, 1) [(1047, 0)]), (8, .own 1048), (9, .own 1049), (45, dI), (46, dI)], [(1046, .box b0), (1047, .mp .i64 .i64), (1048, .arr (.cons (.int .i64) .nil)), (1049, .arr (.cons .bool .nil))], []⟩ (.u (nx (.j ⟨[(1, .ref 1030 2), (3, .wrp (some 0, 1) [(1031, 0)]), (8, .own 1032), (9, .own 1033), (10, dI), (45, dI), (46, dI)], [(1030, .box b0), (1031, .mp .i64 .i64), (1032, .arr (.cons (.int .i64) .nil)), (1033, .arr (.cons .bool .nil))], []⟩ (nx (.u (.l ⟨[(1, .ref 1018 2), (3, .wrp (some 0, 1) [(1019, 0)]), (8, .own 1020), (9, .own 1021), (10, dI), (45, dI), (46, dI), (50, dI), (51, dI)], [(1018, .box b0), (1019, .mp .i64 .i64), (1020, .arr (.cons (.int .i64) .nil)), (1021, .arr (.cons .bool .nil))], []⟩ (nx (.n (.n .e .e) (.n (.u (nx (.j ⟨[(1, .ref 1022 2), (3, .wrp (some 0, 1) [(1023, 0)]), (8, .own 1024), (9, .own 1025), (10, dI), (11, dI), (45, dI), (46, dI), (50, dI), (51, dI), (64, dB)], [(1022, .box b0), (1023, .mp .i64 .i64), (1024, .arr (.cons (.int .i64) .nil)), (1025, .arr (.cons .bool .nil))], []⟩ (.r .x) (.n (nx .e) .e)))) (.r .x))))))) (.n (nx (.n .e .e)) (nx (nx (nx (.u (.l ⟨[(1, .ref 1034 2), (3, .wrp (some 0, 1) [(1035, 0)]), (8, .own 1036), (9, .own 1037), (10, dI), (45, dI), (46, dI), (81, dL), (82, dI), (83, dI)], [(1034, .box b0), (1035, .mp .i64 .i64), (1036, .arr (.cons (.int .i64) .nil)), (1037, .arr (.cons .bool .nil))], []⟩ (nx (.n (.n .e .e) (.j ⟨[(1, .ref 1038 2), (3, .wrp (some 0, 1) [(1039, 0)]), (8, .own 1040), (9, .own 1041), (10, dI), (45, dI), (46, dI), (81, dL), (82, dI), (83, dI)], [(1038, .box b0), (1039, .mp .i64 .i64), (1040, .arr (.cons (.int .i64) .nil)), (1041, .arr (.cons .bool .nil))], []⟩ (.u (nx (nx (nx .e)))) (.r .x))))))))))))) (.r .x))))))) (nx .e)))))))
noncomputable def sh61_K1 (z1 : XI × Unit) : XO1 :=
 some z1
noncomputable def sh61_K4 (rc3 : Int × Int × Ty6 × List (Int × Int) × XI × List (Bool × Unit) × Unit → XO1) (z4 : Int × Int × Ty6 × List (Int × Int) × XI × List (Bool × Unit) × Unit) : XO1 :=
 rc3 (z4.1, IntKind.i64.wrap (z4.2.1 + 1), z4.2.2)
noncomputable def sh61_K8 (rc7 : Int × Int × Int × XI × Int × Int × Ty6 × List (Int × Int) × XI × List (Bool × Unit) × Unit → XO1) (z8 : Int × Int × Int × XI × Int × Int × Ty6 × List (Int × Int) × XI × List (Bool × Unit) × Unit) : XO1 :=
 rc7 (z8.1, z8.2.1, z8.2.2.1, z8.2.2.2.1, z8.2.2.2.2.1, IntKind.i64.wrap (z8.2.2.2.2.2.1 + 1), z8.2.2.2.2.2.2)
noncomputable def sh61_L7 (j5 : Int × Int × Ty6 × List (Int × Int) × XI × List (Bool × Unit) × Unit → XO1) (rc7 : Int × Int × Int × XI × Int × Int × Ty6 × List (Int × Int) × XI × List (Bool × Unit) × Unit → XO1) (z7 : Int × Int × Int × XI × Int × Int × Ty6 × List (Int × Int) × XI × List (Bool × Unit) × Unit) : XO1 :=
 if decide (z7.2.2.2.2.2.1 < z7.2.2.2.2.1) = true then
 joinK (sh61_K8 rc7) fun j9 =>
 if inR z7.2.2.2.2.2.1 z7.2.2.2.1.length = true then
 if ((lAt (0, ()) z7.2.2.2.1 z7.2.2.2.2.2.1).1 != z7.1) = true then
 j9
 (z7.1, z7.2.1, z7.2.2.1, z7.2.2.2.1, z7.2.2.2.2.1, z7.2.2.2.2.2.1, z7.2.2.2.2.2.2.1,
 Abs.mSet z7.2.2.2.2.2.2.2.1 (lAt (0, ()) z7.2.2.2.1 z7.2.2.2.2.2.1).1
 (IntKind.i64.wrap (Abs.mGet z7.2.2.2.2.2.2.2.1 (lAt (0, ()) z7.2.2.2.1 z7.2.2.2.2.2.1).1 - 1)),
 z7.2.2.2.2.2.2.2.2)
 else j9 z7
 else none
 else j5 (z7.2.1, z7.2.2.1, z7.2.2.2.2.2.2)
noncomputable def sh61_K6 (fuel : Nat) (j2 : XI × Unit → XO1) (j5 : Int × Int × Ty6 × List (Int × Int) × XI × List (Bool × Unit) × Unit → XO1) (z6 : Int × Int × Int × Ty6 × List (Int × Int) × XI × List (Bool × Unit) × Unit) : XO1 :=
 if decide (z6.1 < 0) = true then j2 (z6.2.2.2.2.2.1, ())
 else
 if inR z6.1 z6.2.2.2.2.2.2.1.length = true then
 if decide (z6.1.toNat + 1 ≤ z6.2.2.2.2.2.2.1.length) = true then
 if decide (z6.2.2.2.2.2.1.length + 1 ≤ Abs.lim) = true then
 if decide ((z6.2.2.2.2.2.1.length + 1) * 8 ≤ Abs.lim) = true then
 if inR z6.1 z6.2.2.2.1.1.length = true then
 iter fuel (sh61_L7 j5)
 (z6.1, z6.2.1, z6.2.2.1, (lAt ([], 0, 0, 0, [], ()) z6.2.2.2.1.1 z6.1).2.2.2.2.1,
 (↑(List.length (lAt ([], 0, 0, 0, [], ()) z6.2.2.2.1.1 z6.1).2.2.2.2.1) : Int), 0, z6.2.2.2.1, z6.2.2.2.2.1,
 z6.2.2.2.2.2.1 ++ [(z6.1, ())], z6.2.2.2.2.2.2.1.set z6.1.toNat (true, ()), ())
 else none
 else none
 else none
 else none
 else none
noncomputable def sh61_K12 (j10 : Int × Int × Int × Ty6 × List (Int × Int) × XI × List (Bool × Unit) × Unit → XO1) (rc11 : Int × Int × Int × Int × Int × Ty6 × List (Int × Int) × XI × List (Bool × Unit) × Unit → XO1) (z12 : Int × Int × Int × Int × Int × Int × Bool × Ty6 × List (Int × Int) × XI × List (Bool × Unit) × Unit) : XO1 :=
 if z12.2.2.2.2.2.2.1 = true then j10 (z12.2.1, z12.2.2.1, z12.2.2.2.1, z12.2.2.2.2.2.2.2)
 else rc11 (z12.1, z12.2.2.1, z12.2.2.2.1, z12.2.2.2.2.1, IntKind.i64.wrap (z12.2.2.2.2.2.1 + 1), z12.2.2.2.2.2.2.2)
noncomputable def sh61_L11 (j10 : Int × Int × Int × Ty6 × List (Int × Int) × XI × List (Bool × Unit) × Unit → XO1) (rc11 : Int × Int × Int × Int × Int × Ty6 × List (Int × Int) × XI × List (Bool × Unit) × Unit → XO1) (z11 : Int × Int × Int × Int × Int × Ty6 × List (Int × Int) × XI × List (Bool × Unit) × Unit) : XO1 :=
 if decide (z11.2.2.2.2.1 < z11.2.2.2.1) = true then
 joinK (sh61_K12 j10 rc11) fun j13 =>
 if inR z11.2.2.2.2.1 z11.2.2.2.2.2.2.2.2.1.length = true then
 if decide (z11.2.2.2.2.1.toNat + 1 ≤ z11.2.2.2.2.2.2.2.2.1.length) = true then
 if (!(z11.2.2.2.2.2.2.2.2.1.getD z11.2.2.2.2.1.toNat (false, ())).1) = true then
 j13 (z11.1, z11.2.2.2.2.1, z11.2.1, z11.2.2.1, z11.2.2.2.1, z11.2.2.2.2.1, Abs.mGet z11.2.2.2.2.2.2.1 z11.2.2.2.2.1 == 0, z11.2.2.2.2.2)
 else j13 (z11.1, z11.2.2.2.2.1, z11.2.1, z11.2.2.1, z11.2.2.2.1, z11.2.2.2.2.1, false, z11.2.2.2.2.2)
 else none
 else none
 else j10 (z11.1, z11.2.1, z11.2.2.1, z11.2.2.2.2.2)
noncomputable def sh61_L3 (fuel : Nat) (j2 : XI × Unit → XO1) (rc3 : Int × Int × Ty6 × List (Int × Int) × XI × List (Bool × Unit) × Unit → XO1) (z3 : Int × Int × Ty6 × List (Int × Int) × XI × List (Bool × Unit) × Unit) : XO1 :=
 if decide (z3.2.1 < z3.1) = true then
 joinK (sh61_K4 rc3) fun j5 =>
 joinK (sh61_K6 fuel j2 j5) fun j10 => iter fuel (sh61_L11 j10) (-1, z3.1, z3.2.1, (↑z3.2.2.1.1.length : Int), 0, z3.2.2)
 else j2 (z3.2.2.2.2.1, ())
noncomputable def sh61_K0 (fuel : Nat) (z0 : Ty6 × List (Int × Int) × Unit) : XO1 :=
 if decide (0 ≤ (↑z0.1.1.length : Int)) = true then
 if decide ((↑z0.1.1.length : Int) ≤ (↑z0.1.1.length : Int)) = true then
 if decide ((↑z0.1.1.length : Int) ≤ (↑Abs.lim : Int)) = true then
 if decide ((↑1 : Int) * (↑z0.1.1.length : Int) ≤ (↑Abs.lim : Int)) = true then
 joinK sh61_K1 fun j2 =>
 iter fuel (sh61_L3 fuel j2) ((↑z0.1.1.length : Int), 0, z0.1, z0.2.1, [], List.replicate (↑z0.1.1.length : Int).toNat (false, ()), ())
 else none
 else none
 else none
 else none
noncomputable def sh61_K16 (rc15 : List Ty3 × Int × Int × Ty6 × List (Int × Int) × Unit → XO1) (z16 : List Ty3 × Int × Int × Ty6 × List (Int × Int) × Unit) : XO1 :=
 rc15 (z16.1, z16.2.1, IntKind.i64.wrap (z16.2.2.1 + 1), z16.2.2.2)
noncomputable def sh61_K19 (rc18 : Int × List Ty3 × Int × Int × XI × Int × Int × Ty6 × List (Int × Int) × Unit → XO1) (z19 : Int × List Ty3 × Int × Int × XI × Int × Int × Ty6 × List (Int × Int) × Unit) : XO1 :=
 rc18 (z19.1, z19.2.1, z19.2.2.1, z19.2.2.2.1, z19.2.2.2.2.1, z19.2.2.2.2.2.1, IntKind.i64.wrap (z19.2.2.2.2.2.2.1 + 1), z19.2.2.2.2.2.2.2)
noncomputable def sh61_L18 (j17 : List Ty3 × Int × Int × Ty6 × List (Int × Int) × Unit → XO1) (rc18 : Int × List Ty3 × Int × Int × XI × Int × Int × Ty6 × List (Int × Int) × Unit → XO1) (z18 : Int × List Ty3 × Int × Int × XI × Int × Int × Ty6 × List (Int × Int) × Unit) : XO1 :=
 if decide (z18.2.2.2.2.2.2.1 < z18.2.2.2.2.2.1) = true then
 joinK (sh61_K19 rc18) fun j20 =>
 if inR z18.2.2.2.2.2.2.1 z18.2.2.2.2.1.length = true then
 if ((lAt (0, ()) z18.2.2.2.2.1 z18.2.2.2.2.2.2.1).1 != z18.1) = true then
 j20
 (z18.1, z18.2.1, z18.2.2.1, z18.2.2.2.1, z18.2.2.2.2.1, z18.2.2.2.2.2.1, z18.2.2.2.2.2.2.1, z18.2.2.2.2.2.2.2.1,
 Abs.mSet z18.2.2.2.2.2.2.2.2.1 (lAt (0, ()) z18.2.2.2.2.1 z18.2.2.2.2.2.2.1).1
 (IntKind.i64.wrap (Abs.mGet z18.2.2.2.2.2.2.2.2.1 (lAt (0, ()) z18.2.2.2.2.1 z18.2.2.2.2.2.2.1).1 + 1)),
 ())
 else j20 z18
 else none
 else j17 (z18.2.1, z18.2.2.1, z18.2.2.2.1, z18.2.2.2.2.2.2.2)
noncomputable def sh61_L15 (fuel : Nat) (j14 : Ty6 × List (Int × Int) × Unit → XO1) (rc15 : List Ty3 × Int × Int × Ty6 × List (Int × Int) × Unit → XO1) (z15 : List Ty3 × Int × Int × Ty6 × List (Int × Int) × Unit) : XO1 :=
 if decide (z15.2.2.1 < z15.2.1) = true then
 joinK (sh61_K16 rc15) fun j17 =>
 if inR z15.2.2.1 z15.1.length = true then
 iter fuel (sh61_L18 j17)
 (z15.2.2.1, z15.1, z15.2.1, z15.2.2.1, (lAt ([], 0, 0, 0, [], ()) z15.1 z15.2.2.1).2.2.2.2.1,
 (↑(List.length (lAt ([], 0, 0, 0, [], ()) z15.1 z15.2.2.1).2.2.2.2.1) : Int), 0, z15.2.2.2)
 else none
 else j14 z15.2.2.2
noncomputable def sh61 (fuel : Nat) (x0 : Ty6) : XO1 :=
 joinK (sh61_K0 fuel) fun j14 => iter fuel (sh61_L15 fuel j14) (x0.1, (↑x0.1.length : Int), 0, x0, [], ())
noncomputable def sp61 (x : Ty6 × Unit) : XO1 := sh61 100000 x.1
/-! 97 slices.Index[[]baggage/api.Device,baggage/api.Device] -/
def g97 : Sig := ⟨[.v (.ty (.sl ty1)), .v (.ag ty1)], .v (.ty (.int .i64))⟩
def h97 : HT := (nx (.j ⟨[], [], []⟩ (nx (.u (.l ⟨[(0, .d (.ty (.sl ty1))), (3, .ref 1000 3), (7, dI), (8, dI)], [(1000, .box b5)], []⟩ (nx (.n (.n .e .e) (.n (.u (nx (.n (.r .q) (.n (nx .e) .e)))) (.r .x))))))) (nx .e)))
noncomputable def sh97_K0 (z0 : Unit) : XO0 :=
 some (-1, ())
noncomputable def sh97_L2 (j1 : Unit → XO0) (rc2 : List Ty1 × Int × Int × Ty1 × Unit → XO0) (z2 : List Ty1 × Int × Int × Ty1 × Unit) : XO0 :=
 if decide (z2.2.2.1 < z2.2.1) = true then
 if inR z2.2.2.1 z2.1.length = true then
 if
 (z2.2.2.2.1.1 == (lAt (0, 0, 0, ()) z2.1 z2.2.2.1).1 &&
 (z2.2.2.2.1.2.1 == (lAt (0, 0, 0, ()) z2.1 z2.2.2.1).2.1 && (z2.2.2.2.1.2.2.1 == (lAt (0, 0, 0, ()) z2.1 z2.2.2.1).2.2.1 && true))) =
 true then
 some (z2.2.2.1, ())
 else rc2 (z2.1, z2.2.1, IntKind.i64.wrap (z2.2.2.1 + 1), z2.2.2.2)
 else none
 else j1 ()
noncomputable def sh97 (fuel : Nat) (x0 : List Ty1) (x1 : Ty1) : XO0 :=
 joinK sh97_K0 fun j1 => iter fuel (sh97_L2 j1) (x0, (↑x0.length : Int), 0, x1, ())
noncomputable def sp97 (x : (List Ty1) × Ty1 × Unit) : XO0 := sh97 100000 x.1 x.2.1
/-! 83 slices.Contains[[]baggage/api.Device,baggage/api.Device] -/
def g83 : Sig := ⟨[.v (.ty (.sl ty1)), .v (.ag ty1)], .v (.ty .bool)⟩
def h83 : HT := (nx (nx .e))
noncomputable def sh83 (fuel : Nat) (x0 : List Ty1) (x1 : Ty1) : XB :=
 (sp97 (x0, x1, ())).bind fun r0 => some (decide (0 ≤ r0.1), ())
noncomputable def sp83 (x : (List Ty1) × Ty1 × Unit) : XB := sh83 0 x.1 x.2.1
/-! 62 baggage/layout.devices -/
def g62 : Sig := ⟨[.v (.ag ty6)], .v (.ty (.int .i64))⟩
def h62 : HT := (nx (.j ⟨[(1, .ref 1005 2)], [(1005, .box b0)], []⟩ (nx (.u (.l ⟨[(1, .ref 1000 2), (8, .d (.ty (.sl ty1))), (9, dI), (10, dI)], [(1000, .box b0)], []⟩ (nx (.n (.n .e .e) (.n (.u (nx (.u (.j ⟨[(1, .ref 1001 2), (4, .ref 1002 3), (8, .d (.ty (.sl ty1))), (9, dI), (10, dI), (14, dB)], [(1001, .box b0), (1002, .box b5)], []⟩ (.r .x) (.n (nx .e) (.j ⟨[(1, .ref 1003 2), (8, .d (.ty (.sl ty1))), (9, dI), (10, dI), (23, dB)], [(1003, .box b0)], []⟩ (.r .q) (.n (nx .e) .e))))))) (.r .x))))))) (.j ⟨[], [], []⟩ (nx (.u (.l ⟨[(1, .ref 1006 2), (54, .d (.ty (.sl ty1))), (55, dI), (56, dI)], [(1006, .box b0)], []⟩ (nx (.n (.n .e .e) (.n (.u (nx (.n (.r .q) (.n (nx .e) .e)))) (.r .x))))))) (nx .e))))
noncomputable def sh62_K1 (z1 : Unit) : XO0 :=
 some (0, ())
noncomputable def sh62_L3 (j2 : Unit → XO0) (rc3 : List Ty1 × Int × Int × Ty6 × Unit → XO0) (z3 : List Ty1 × Int × Int × Ty6 × Unit) : XO0 :=
 if decide (z3.2.2.1 < z3.2.1) = true then
 if inR z3.2.2.1 z3.1.length = true then
 if inCut 0 z3.2.2.1 z3.2.2.2.1.2.1.length = true then
 (sp83 (cutL z3.2.2.2.1.2.1 0 z3.2.2.1, lAt (0, 0, 0, ()) z3.1 z3.2.2.1, ())).bind fun r4 =>
 if r4.1 = true then some (5, ()) else rc3 (z3.1, z3.2.1, IntKind.i64.wrap (z3.2.2.1 + 1), z3.2.2.2)
 else none
 else none
 else j2 ()
noncomputable def sh62_K0 (fuel : Nat) (z0 : Ty6 × Unit) : XO0 :=
 joinK sh62_K1 fun j2 => iter fuel (sh62_L3 j2) (z0.1.2.1, (↑z0.1.2.1.length : Int), 0, z0)
noncomputable def sh62_K8 (rc6 : List Ty1 × Int × Int × Ty6 × Unit → XO0) (z8 : List Ty1 × Int × Int × Bool × Ty6 × Unit) : XO0 :=
 if z8.2.2.2.1 = true then some (1, ()) else rc6 (z8.1, z8.2.1, IntKind.i64.wrap (z8.2.2.1 + 1), z8.2.2.2.2)
noncomputable def sh62_K7 (rc6 : List Ty1 × Int × Int × Ty6 × Unit → XO0) (z7 : List Ty1 × Int × Int × Bool × Ty6 × Ty1 × Unit) : XO0 :=
 if z7.2.2.2.1 = true then some (4, ())
 else
 joinK (sh62_K8 rc6) fun j9 =>
 if decide (z7.2.2.2.2.2.1.2.1 < 0) = true then j9 (z7.1, z7.2.1, z7.2.2.1, true, z7.2.2.2.2.1, ())
 else
 if decide ((↑z7.2.2.2.2.1.1.length : Int) ≤ z7.2.2.2.2.2.1.2.1) = true then j9 (z7.1, z7.2.1, z7.2.2.1, true, z7.2.2.2.2.1, ())
 else
 if decide (z7.2.2.2.2.2.1.2.2.1 < 0) = true then j9 (z7.1, z7.2.1, z7.2.2.1, true, z7.2.2.2.2.1, ())
 else
 if inR z7.2.2.2.2.2.1.2.1 z7.2.2.2.2.1.1.length = true then
 j9
 (z7.1, z7.2.1, z7.2.2.1, decide ((lAt ([], 0, 0, 0, [], ()) z7.2.2.2.2.1.1 z7.2.2.2.2.2.1.2.1).2.2.1 ≤ z7.2.2.2.2.2.1.2.2.1),
 z7.2.2.2.2.1, ())
 else none
noncomputable def sh62_L6 (j5 : Ty6 × Unit → XO0) (rc6 : List Ty1 × Int × Int × Ty6 × Unit → XO0) (z6 : List Ty1 × Int × Int × Ty6 × Unit) : XO0 :=
 if decide (z6.2.2.1 < z6.2.1) = true then
 if inR z6.2.2.1 z6.1.length = true then
 joinK (sh62_K7 rc6) fun j10 =>
 if ((lAt (0, 0, 0, ()) z6.1 z6.2.2.1).1 != 1) = true then
 j10 (z6.1, z6.2.1, z6.2.2.1, (lAt (0, 0, 0, ()) z6.1 z6.2.2.1).1 != 2, z6.2.2.2.1, lAt (0, 0, 0, ()) z6.1 z6.2.2.1, ())
 else j10 (z6.1, z6.2.1, z6.2.2.1, false, z6.2.2.2.1, lAt (0, 0, 0, ()) z6.1 z6.2.2.1, ())
 else none
 else j5 z6.2.2.2
noncomputable def sh62 (fuel : Nat) (x0 : Ty6) : XO0 :=
 joinK (sh62_K0 fuel) fun j5 => iter fuel (sh62_L6 j5) (x0.2.1, (↑x0.2.1.length : Int), 0, x0, ())
noncomputable def sp62 (x : Ty6 × Unit) : XO0 := sh62 100000 x.1
noncomputable def c63 : Code := bd Tryd.f63
noncomputable def c64 : Code := bd Tryd.f64
/-! 40 baggage/layout.Validate -/
noncomputable def c40 : Code := bd Tryd.f40
def g40 : Sig := ⟨[.v (.ag ty6)], .v (.ty (.int .i64))⟩
def h40 : HT := (nx (.n (.j ⟨[(1, .ref 1000 2), (16, dB)], [(1000, .box b0)], []⟩ (.r .x) (.n (nx .e) .e)) (.j ⟨[(1, .ref 1003 2)], [(1003, .box b0)], []⟩ (nx (.u (.l ⟨[(1, .ref 1001 2), (19, dI), (20, dI)], [(1001, .box b0)], []⟩ (nx (.n (.n .e .e) (.n (.u (nx (nx (nx (.n (nx .e) .e))))) (.r .x))))))) (.n (.u (nx (.n (nx .e) (nx (.n (nx .e) .e))))) (.j ⟨[(1, .ref 1006 2)], [(1006, .box b0)], []⟩ (nx (.u (.l ⟨[(1, .ref 1004 2), (40, dI), (41, dI)], [(1004, .box b0)], []⟩ (nx (.n (.n .e .e) (.n (.u (nx (nx (.n (nx .e) .e)))) (.r .x))))))) (.n (.n (.r (.w 6 [(0, 0), (0, 3), (0, 4), (0, 5), (2, 1), (0, 2)])) (.n (nx .e) .e)) (.n (nx (nx (.n (nx .e) .e))) (.n (.n (.ri .x [(63, 0, (nx (.j ⟨[(69, dB)], [], []⟩ (.ri .x [(72, 0, (nx (.j ⟨[], [], []⟩ (nx (.u (.l ⟨[(74, .d (.ty (.sl ty3))), (75, .cst (.fn 64)), (81, dI), (82, dI)], [], []⟩ (nx (.n (.n .e .e) (.n (.u (nx (.n (.ri .x [(90, 0, (nx (nx .e)))]) (.n (nx .e) .e)))) (.r .x))))))) (nx .e))))]) .e)))]) (.n (nx .e) .e)) (nx .e)))))))))
noncomputable def FT40 : List (Nat × Entry) := [(57, ⟨g57, sp57⟩), (58, ⟨g58, sp58⟩), (59, ⟨g59, sp59⟩), (60, ⟨g60, sp60⟩), (61, ⟨g61, sp61⟩), (62, ⟨g62, sp62⟩)]
noncomputable def IT40 : List (Nat × Inl) := [(63, ⟨9, [.tmp 4], c63⟩), (84, ⟨19, [.tmp 4], c84⟩), (64, ⟨6, [.tmp 2], c64⟩)]
def MT40 : MTab := []
noncomputable def sh40_K7 (z7 : Bool × Unit) : XO0 :=
 if (!z7.1) = true then some (6, ()) else some (0, ())
noncomputable def sh40_K9 (j8 : Bool × Unit → XO0) (z9 : Unit) : XO0 :=
 j8 (decide (0 ≤ -1), ())
noncomputable def sh40_L11 (j8 : Bool × Unit → XO0) (j10 : Unit → XO0) (rc11 : List Ty3 × Int × Int × Unit → XO0) (z11 : List Ty3 × Int × Int × Unit) : XO0 :=
 if decide (z11.2.2.1 < z11.2.1) = true then
 if inR z11.2.2.1 z11.1.length = true then
 if ((lAt ([], 0, 0, 0, [], ()) z11.1 z11.2.2.1).2.1 == 1) = true then j8 (decide (0 ≤ z11.2.2.1), ())
 else rc11 (z11.1, z11.2.1, IntKind.i64.wrap (z11.2.2.1 + 1), ())
 else none
 else j10 ()
noncomputable def sh40_K4 (fuel : Nat) (z4 : Ty6 × Unit) : XO0 :=
 (sp61 z4).bind fun r5 =>
 if decide ((↑r5.1.length : Int) < (↑z4.1.1.length : Int)) = true then some (9, ())
 else
 (sp62 z4).bind fun r6 =>
 if (r6.1 != 0) = true then some r6
 else joinK sh40_K7 fun j8 => joinK (sh40_K9 j8) fun j10 => iter fuel (sh40_L11 j8 j10) (z4.1.1, (↑z4.1.1.length : Int), 0, ())
noncomputable def sh40_L13 (j12 : Ty6 × Unit → XO0) (rc13 : Int × Int × Ty6 × Unit → XO0) (z13 : Int × Int × Ty6 × Unit) : XO0 :=
 if decide (z13.2.1 < z13.1) = true then
 (sp60 (z13.2.2.1, z13.2.1, ())).bind fun r14 => if (!r14.1) = true then some (7, ()) else rc13 (z13.1, IntKind.i64.wrap (z13.2.1 + 1), z13.2.2)
 else j12 z13.2.2
noncomputable def sh40_K1 (fuel : Nat) (z1 : Ty6 × Unit) : XO0 :=
 (sp58 z1).bind fun r2 =>
 if decide (80 < r2.1) = true then some (2, ())
 else
 (sp59 z1).bind fun r3 =>
 if (!r3.1) = true then some (5, ()) else joinK (sh40_K4 fuel) fun j12 => iter fuel (sh40_L13 j12) ((↑z1.1.1.length : Int), 0, z1)
noncomputable def sh40_L16 (j15 : Ty6 × Unit → XO0) (rc16 : Int × Int × Ty6 × Unit → XO0) (z16 : Int × Int × Ty6 × Unit) : XO0 :=
 if decide (z16.2.1 < z16.1) = true then
 (sp57 (z16.2.2.1, z16.2.1, ())).bind fun r17 => if (r17.1 != 0) = true then some r17 else rc16 (z16.1, IntKind.i64.wrap (z16.2.1 + 1), z16.2.2)
 else j15 z16.2.2
noncomputable def sh40_K0 (fuel : Nat) (z0 : Bool × Ty6 × Unit) : XO0 :=
 if z0.1 = true then some (2, ()) else joinK (sh40_K1 fuel) fun j15 => iter fuel (sh40_L16 j15) ((↑z0.2.1.1.length : Int), 0, z0.2)
noncomputable def sh40 (fuel : Nat) (x0 : Ty6) : XO0 :=
 joinK (sh40_K0 fuel) fun j18 =>
 if decide (24 < (↑x0.1.length : Int)) = true then j18 (true, x0, ()) else j18 (decide (24 < (↑x0.2.1.length : Int)), x0, ())
noncomputable def sp40 (x : Ty6 × Unit) : XO0 := sh40 100000 x.1
/-! 41 baggage/layout.Order -/
def g41 : Sig := ⟨[.v (.ag ty6)], .own (.cons (.int .i64) .nil)⟩
def h41 : HT := (nx (.n (nx (.n (nx .e) .e)) (nx .e)))
noncomputable def sh41 (fuel : Nat) (x0 : Ty6) : XO1 :=
 (sp40 (x0, ())).bind fun r0 => if (r0.1 != 0) = true then some ([], ()) else (sp61 (x0, ())).bind fun r1 => some r1
noncomputable def sp41 (x : Ty6 × Unit) : XO1 := sh41 0 x.1
noncomputable def c26 : Code := bd Tryd.f26
/-! 27 (*baggage/engine.Plan).Fits -/
def g27 : Sig := ⟨[.bx ty7, .v (.ag ty4)], .v (.ty .bool)⟩
def h27 : HT := (nx (.n (.j ⟨[(0, .ref 900000 3), (3, .ref 1000 2), (28, dB)], [(900000, .box b3), (1000, .box b4)], []⟩ (.r .q) (.n (nx .e) .e)) (.j ⟨[], [(900000, .box b3)], []⟩ (nx (.u (.l ⟨[(3, .ref 1001 2), (33, .d (.ty (.sl ty3))), (34, dI), (35, dI)], [(900000, .box b3), (1001, .box b4)], []⟩ (nx (.n (.n .e .e) (.n (.u (nx (.n (.r .q) (.n (nx .e) .e)))) (.r .x))))))) (nx .e))))
noncomputable def sh27_K1 (z1 : Ty7 × Unit) : Option (Bool × Ty7 × Unit) :=
 some (true, z1)
noncomputable def sh27_L3 (j2 : Ty7 × Unit → Option (Bool × Ty7 × Unit)) (rc3 : List Ty3 × Int × Int × Ty7 × Ty4 × Unit → Option (Bool × Ty7 × Unit)) (z3 : List Ty3 × Int × Int × Ty7 × Ty4 × Unit) : Option (Bool × Ty7 × Unit) :=
 if decide (z3.2.2.1 < z3.2.1) = true then
 if inR z3.2.2.1 z3.1.length = true then
 if inR z3.2.2.1 z3.2.2.2.2.1.1.length = true then
 if ((↑(List.length (lAt ([], ()) z3.2.2.2.2.1.1 z3.2.2.1).1) : Int) != (lAt ([], 0, 0, 0, [], ()) z3.1 z3.2.2.1).2.2.1) = true then
 some (false, z3.2.2.2.1, ())
 else rc3 (z3.1, z3.2.1, IntKind.i64.wrap (z3.2.2.1 + 1), z3.2.2.2)
 else none
 else none
 else j2 (z3.2.2.2.1, ())
noncomputable def sh27_K0 (fuel : Nat) (z0 : Bool × Ty7 × Ty4 × Unit) : Option (Bool × Ty7 × Unit) :=
 if z0.1 = true then some (false, z0.2.1, ()) else joinK sh27_K1 fun j2 => iter fuel (sh27_L3 j2) (z0.2.1.1, (↑z0.2.1.1.length : Int), 0, z0.2)
noncomputable def sh27 (fuel : Nat) (x0 : Ty7) (x1 : Ty4) : Option (Bool × Ty7 × Unit) :=
 joinK (sh27_K0 fuel) fun j4 =>
 if ((↑x1.1.length : Int) != (↑x0.1.length : Int)) = true then j4 (true, x0, x1, ())
 else j4 ((↑x1.2.1.length : Int) != (↑x0.1.length : Int), x0, x1, ())
noncomputable def sp27 (x : Ty7 × Ty4 × Unit) : Option (Bool × Ty7 × Unit) := sh27 100000 x.1 x.2.1
/-! 42 baggage/engine.known -/
def g42 : Sig := ⟨[.v (.ag ty3), .v (.ty (.int .i64))], .v (.ty .bool)⟩
def h42 : HT := (nx (.n (.u (nx (.n (.j ⟨[(4, dB)], [], []⟩ (.r .x) .e) (nx (.n (.j ⟨[(4, dB)], [], []⟩ (.r .x) .e) .e))))) (nx .e)))
noncomputable def sh42_K1 (z1 : Bool × Unit) : XB :=
 some z1
noncomputable def sh42_K3 (z3 : Bool × Unit) : XB :=
 some z3
noncomputable def sh42 (fuel : Nat) (x0 : Ty3) (x1 : Int) : XB :=
 (sp48 (x0.2.1, ())).bind fun r0 =>
 if r0.1 = true then
 joinK sh42_K1 fun j2 =>
 if decide (0 ≤ x1) = true then
 if decide (x1 < (↑x0.2.2.2.2.1.length : Int)) = true then j2 (true, ())
 else if (x1 == -1) = true then j2 (x0.2.1 != 5, ()) else j2 (false, ())
 else if (x1 == -1) = true then j2 (x0.2.1 != 5, ()) else j2 (false, ())
 else
 if (x0.2.1 == 7) = true then joinK sh42_K3 fun j4 => if decide (0 ≤ x1) = true then j4 (decide (x1 ≤ 40), ()) else j4 (false, ())
 else some (x1 == 0, ())
noncomputable def sp42 (x : Ty3 × (Int) × Unit) : XB := sh42 0 x.1 x.2.1
noncomputable def c44 : Code := bd Tryd.f44
noncomputable def c65 : Code := bd Tryd.f65
noncomputable def c43 : Code := bd Tryd.f43
/-! 28 (*baggage/engine.Plan).Refused -/
noncomputable def c28 : Code := bd Tryd.f28
def g28 : Sig := ⟨[.bx ty7, .v (.ty (.sl (.cons (.int .i64) .nil))), .v (.ty (.sl ty1))], .v (.ty (.int .i64))⟩
def h28 : HT := (nx (.n (nx (.n (nx .e) .e)) (.j ⟨[(0, .ref 900000 3), (2, .d (.ty (.sl ty1)))], [(900000, .box b3)], []⟩ (nx (.u (.l ⟨[(0, .ref 900000 3), (2, .d (.ty (.sl ty1))), (22, dL), (23, dI), (24, dI)], [(900000, .box b3)], []⟩ (nx (.n (.n .e .e) (.n (.u (nx (nx (.n (nx .e) .e)))) (.r .x))))))) (.n (nx (.n (nx .e) .e)) (.j ⟨[(2, .d (.ty (.sl ty1)))], [(900000, .box b3)], []⟩ (nx (.u (.l ⟨[(0, .ref 900000 3), (2, .d (.ty (.sl ty1))), (44, .d (.ty (.sl ty1))), (45, dI), (46, dI)], [(900000, .box b3)], []⟩ (nx (.n (.n .e .e) (.n (.u (nx (.u (.j ⟨[(0, .ref 900000 3), (2, .d (.ty (.sl ty1))), (10, .ref 1000 3), (44, .d (.ty (.sl ty1))), (45, dI), (46, dI), (50, dB)], [(900000, .box b3), (1000, .box b5)], []⟩ (.r .x) (.n (nx .e) (.j ⟨[(0, .ref 900000 3), (2, .d (.ty (.sl ty1))), (44, .d (.ty (.sl ty1))), (45, dI), (46, dI), (59, dB)], [(900000, .box b3)], []⟩ (.r .q) (.n (nx .e) .e))))))) (.r .x))))))) (.j ⟨[], [(900000, .box b3)], []⟩ (nx (.u (.l ⟨[(2, .d (.ty (.sl ty1))), (95, .d (.ty (.sl ty1))), (96, dI), (97, dI)], [(900000, .box b3)], []⟩ (nx (.n (.n .e .e) (.n (.u (nx (.n (.ri .x [(106, 0, (nx (.j ⟨[(2, .d (.ty (.sl ty1))), (95, .d (.ty (.sl ty1))), (96, dI), (97, dI), (112, dB)], [(900000, .box b3)], []⟩ (.ri .x [(115, 0, (nx (.j ⟨[(2, .d (.ty (.sl ty1))), (95, .d (.ty (.sl ty1))), (96, dI), (97, dI)], [(900000, .box b3)], []⟩ (nx (.u (.l ⟨[(2, .d (.ty (.sl ty1))), (95, .d (.ty (.sl ty1))), (96, dI), (97, dI), (117, .d (.ty (.sl ty1))), (118, .wrp (some 44, 0) [(1001, 3)]), (124, dI), (125, dI)], [(900000, .box b3), (1001, .box b5)], []⟩ (nx (.n (.n .e .e) (.n (.u (nx (.n (.ri .x [(133, 0, (nx (.j ⟨[(2, .d (.ty (.sl ty1))), (95, .d (.ty (.sl ty1))), (96, dI), (97, dI), (117, .d (.ty (.sl ty1))), (118, .wrp (some 44, 0) [(1002, 3)]), (122, dI), (124, dI), (125, dI), (139, dB)], [(900000, .box b3), (1002, .box b5)], []⟩ (.r .x) .e)))]) (.n (nx .e) .e)))) (.r .x))))))) (nx .e))))]) .e)))]) (.n (nx .e) .e)))) (.r .x))))))) (nx .e)))))))
noncomputable def FT28 : List (Nat × Entry) := [(42, ⟨g42, sp42⟩)]
noncomputable def IT28 : List (Nat × Inl) := [(43, ⟨9, [.tmp 4], c43⟩), (65, ⟨19, [.tmp 4], c65⟩), (44, ⟨16, [.tmp 3], c44⟩)]
def MT28 : MTab := []
noncomputable def sh28_K2 (z2 : Ty7 × Unit) : XO2 :=
 some (0, z2)
noncomputable def sh28_K5 (rc4 : List Ty1 × List Ty1 × Int × Int × Ty7 × Unit → XO2) (z5 : List Ty1 × List Ty1 × Int × Int × Bool × Ty7 × Unit) : XO2 :=
 if z5.2.2.2.2.1 = true then some (5, z5.2.2.2.2.2) else rc4 (z5.1, z5.2.1, z5.2.2.1, IntKind.i64.wrap (z5.2.2.2.1 + 1), z5.2.2.2.2.2)
noncomputable def sh28_K7 (j6 : List Ty1 × List Ty1 × Int × Int × Bool × Ty7 × Unit → XO2) (z7 : List Ty1 × List Ty1 × Int × Int × Ty7 × Unit) : XO2 :=
 j6 (z7.1, z7.2.1, z7.2.2.1, z7.2.2.2.1, decide (0 ≤ -1), z7.2.2.2.2)
noncomputable def sh28_K10 (j6 : List Ty1 × List Ty1 × Int × Int × Bool × Ty7 × Unit → XO2) (rc9 : List Ty1 × List Ty1 × Int × Int × List Ty1 × Int × Int × Ty7 × Ty1 × Unit → XO2) (z10 : List Ty1 × List Ty1 × Int × Int × List Ty1 × Int × Int × Int × Bool × Ty7 × Ty1 × Unit) : XO2 :=
 if z10.2.2.2.2.2.2.2.2.1 = true then j6 (z10.1, z10.2.1, z10.2.2.1, z10.2.2.2.1, decide (0 ≤ z10.2.2.2.2.2.1), z10.2.2.2.2.2.2.2.2.2.1, ())
 else rc9 (z10.1, z10.2.1, z10.2.2.1, z10.2.2.2.1, z10.2.2.2.2.1, z10.2.2.2.2.2.2.1, IntKind.i64.wrap (z10.2.2.2.2.2.2.2.1 + 1), z10.2.2.2.2.2.2.2.2.2)
noncomputable def sh28_L9 (j6 : List Ty1 × List Ty1 × Int × Int × Bool × Ty7 × Unit → XO2) (j8 : List Ty1 × List Ty1 × Int × Int × Ty7 × Unit → XO2) (rc9 : List Ty1 × List Ty1 × Int × Int × List Ty1 × Int × Int × Ty7 × Ty1 × Unit → XO2) (z9 : List Ty1 × List Ty1 × Int × Int × List Ty1 × Int × Int × Ty7 × Ty1 × Unit) : XO2 :=
 if decide (z9.2.2.2.2.2.2.1 < z9.2.2.2.2.2.1) = true then
 if inR z9.2.2.2.2.2.2.1 z9.2.2.2.2.1.length = true then
 joinK (sh28_K10 j6 rc9) fun j11 =>
 if (z9.2.2.2.2.2.2.2.2.1.2.1 == (lAt (0, 0, 0, ()) z9.2.2.2.2.1 z9.2.2.2.2.2.2.1).2.1) = true then
 j11
 (z9.1, z9.2.1, z9.2.2.1, z9.2.2.2.1, z9.2.2.2.2.1, z9.2.2.2.2.2.2.1, z9.2.2.2.2.2.1, z9.2.2.2.2.2.2.1,
 z9.2.2.2.2.2.2.2.2.1.2.2.1 == (lAt (0, 0, 0, ()) z9.2.2.2.2.1 z9.2.2.2.2.2.2.1).2.2.1, z9.2.2.2.2.2.2.2)
 else j11 (z9.1, z9.2.1, z9.2.2.1, z9.2.2.2.1, z9.2.2.2.2.1, z9.2.2.2.2.2.2.1, z9.2.2.2.2.2.1, z9.2.2.2.2.2.2.1, false, z9.2.2.2.2.2.2.2)
 else none
 else j8 (z9.1, z9.2.1, z9.2.2.1, z9.2.2.2.1, z9.2.2.2.2.2.2.2.1, ())
noncomputable def sh28_L4 (fuel : Nat) (j3 : Ty7 × Unit → XO2) (rc4 : List Ty1 × List Ty1 × Int × Int × Ty7 × Unit → XO2) (z4 : List Ty1 × List Ty1 × Int × Int × Ty7 × Unit) : XO2 :=
 if decide (z4.2.2.2.1 < z4.2.2.1) = true then
 if inR z4.2.2.2.1 z4.2.1.length = true then
 if inCut 0 z4.2.2.2.1 z4.1.length = true then
 joinK (sh28_K5 rc4) fun j6 =>
 joinK (sh28_K7 j6) fun j8 =>
 iter fuel (sh28_L9 j6 j8)
 (z4.1, z4.2.1, z4.2.2.1, z4.2.2.2.1, cutL z4.1 0 z4.2.2.2.1, (↑(cutL z4.1 0 z4.2.2.2.1).length : Int), 0, z4.2.2.2.2.1,
 lAt (0, 0, 0, ()) z4.2.1 z4.2.2.2.1, ())
 else none
 else none
 else j3 z4.2.2.2.2
noncomputable def sh28_K1 (fuel : Nat) (z1 : List Ty1 × Ty7 × Unit) : XO2 :=
 joinK sh28_K2 fun j3 => iter fuel (sh28_L4 fuel j3) (z1.1, z1.1, (↑z1.1.length : Int), 0, z1.2)
noncomputable def sh28_K15 (rc13 : List Ty1 × List Ty1 × Int × Int × Ty7 × Unit → XO2) (z15 : List Ty1 × List Ty1 × Int × Int × Bool × Ty7 × Unit) : XO2 :=
 if z15.2.2.2.2.1 = true then some (1, z15.2.2.2.2.2) else rc13 (z15.1, z15.2.1, z15.2.2.1, IntKind.i64.wrap (z15.2.2.2.1 + 1), z15.2.2.2.2.2)
noncomputable def sh28_K14 (rc13 : List Ty1 × List Ty1 × Int × Int × Ty7 × Unit → XO2) (z14 : List Ty1 × List Ty1 × Int × Int × Bool × Ty7 × Ty1 × Unit) : XO2 :=
 if z14.2.2.2.2.1 = true then some (4, z14.2.2.2.2.2.1, ())
 else
 joinK (sh28_K15 rc13) fun j16 =>
 if decide (z14.2.2.2.2.2.2.1.2.1 < 0) = true then j16 (z14.1, z14.2.1, z14.2.2.1, z14.2.2.2.1, true, z14.2.2.2.2.2.1, ())
 else
 if decide ((↑z14.2.2.2.2.2.1.1.length : Int) ≤ z14.2.2.2.2.2.2.1.2.1) = true then
 j16 (z14.1, z14.2.1, z14.2.2.1, z14.2.2.2.1, true, z14.2.2.2.2.2.1, ())
 else
 if decide (z14.2.2.2.2.2.2.1.2.2.1 < 0) = true then j16 (z14.1, z14.2.1, z14.2.2.1, z14.2.2.2.1, true, z14.2.2.2.2.2.1, ())
 else
 if inR z14.2.2.2.2.2.2.1.2.1 z14.2.2.2.2.2.1.1.length = true then
 j16
 (z14.1, z14.2.1, z14.2.2.1, z14.2.2.2.1,
 decide ((lAt ([], 0, 0, 0, [], ()) z14.2.2.2.2.2.1.1 z14.2.2.2.2.2.2.1.2.1).2.2.1 ≤ z14.2.2.2.2.2.2.1.2.2.1), z14.2.2.2.2.2.1, ())
 else none
noncomputable def sh28_L13 (j12 : List Ty1 × Ty7 × Unit → XO2) (rc13 : List Ty1 × List Ty1 × Int × Int × Ty7 × Unit → XO2) (z13 : List Ty1 × List Ty1 × Int × Int × Ty7 × Unit) : XO2 :=
 if decide (z13.2.2.2.1 < z13.2.2.1) = true then
 if inR z13.2.2.2.1 z13.2.1.length = true then
 joinK (sh28_K14 rc13) fun j17 =>
 if ((lAt (0, 0, 0, ()) z13.2.1 z13.2.2.2.1).1 != 1) = true then
 j17
 (z13.1, z13.2.1, z13.2.2.1, z13.2.2.2.1, (lAt (0, 0, 0, ()) z13.2.1 z13.2.2.2.1).1 != 2, z13.2.2.2.2.1,
 lAt (0, 0, 0, ()) z13.2.1 z13.2.2.2.1, ())
 else j17 (z13.1, z13.2.1, z13.2.2.1, z13.2.2.2.1, false, z13.2.2.2.2.1, lAt (0, 0, 0, ()) z13.2.1 z13.2.2.2.1, ())
 else none
 else j12 (z13.1, z13.2.2.2.2)
noncomputable def sh28_K0 (fuel : Nat) (z0 : List Ty1 × Ty7 × Unit) : XO2 :=
 if decide (4 < (↑z0.1.length : Int)) = true then some (2, z0.2)
 else joinK (sh28_K1 fuel) fun j12 => iter fuel (sh28_L13 j12) (z0.1, z0.1, (↑z0.1.length : Int), 0, z0.2)
noncomputable def sh28_L19 (j18 : List Ty1 × Ty7 × Unit → XO2) (rc19 : List Ty1 × XI × Int × Int × Ty7 × Unit → XO2) (z19 : List Ty1 × XI × Int × Int × Ty7 × Unit) : XO2 :=
 if decide (z19.2.2.2.1 < z19.2.2.1) = true then
 if inR z19.2.2.2.1 z19.2.1.length = true then
 if inR z19.2.2.2.1 z19.2.2.2.2.1.1.length = true then
 (sp42 (lAt ([], 0, 0, 0, [], ()) z19.2.2.2.2.1.1 z19.2.2.2.1, lAt (0, ()) z19.2.1 z19.2.2.2.1)).bind fun r20 =>
 if (!r20.1) = true then some (1, z19.2.2.2.2) else rc19 (z19.1, z19.2.1, z19.2.2.1, IntKind.i64.wrap (z19.2.2.2.1 + 1), z19.2.2.2.2)
 else none
 else none
 else j18 (z19.1, z19.2.2.2.2)
noncomputable def sh28 (fuel : Nat) (x0 : Ty7) (x1 : XI) (x2 : List Ty1) : XO2 :=
 if ((↑x1.length : Int) != (↑x0.1.length : Int)) = true then some (1, x0, ())
 else joinK (sh28_K0 fuel) fun j18 => iter fuel (sh28_L19 j18) (x2, x1, (↑x1.length : Int), 0, x0, ())
noncomputable def sp28 (x : Ty7 × (XI) × (List Ty1) × Unit) : XO2 := sh28 100000 x.1 x.2.1 x.2.2.1
def g29 : Sig := ⟨[.bx ty7, .v (.ag ty4), .v (.ty (.sl (.cons (.int .i64) .nil))), .v (.ty (.sl ty1))], .v (.ag ty2)⟩
abbrev IntL : Type := XI
abbrev T29 : Type := Ty7 × Unit × Ty4 × Unit × Unit × (IntL × Unit) × (IntL × Unit) × IntL × IntL × IntL × IntL × Unit
abbrev S29 : Type := Int × Bool × T29
noncomputable def r29_L8 {R : Type} (rc3 : S29 → Option R) (rc8 : Int × S29 → Option R) (z8 : Int × S29) : Option R :=
 if (z8.1 != 0) = true then
 (sp49 (z8.1, ())).bind fun r9 =>
 if inR r9.1 z8.2.2.2.2.2.2.2.2.1.1.length = true then
 if inR r9.1 z8.2.2.2.2.2.2.2.2.2.2.2.2.1.length = true then
 if decide (r9.1.toNat + 1 ≤ z8.2.2.2.2.2.2.2.2.2.2.2.2.1.length) = true then
 rc8
 (IntKind.u64.wrap (↑(BitVec.ofInt IntKind.u64.bits z8.1 &&& BitVec.ofInt IntKind.u64.bits (IntKind.u64.wrap (z8.1 - 1))).toNat : Int),
 z8.2.1, z8.2.2.1, z8.2.2.2.1, (), z8.2.2.2.2.2.1, (), (), z8.2.2.2.2.2.2.2.2.1, z8.2.2.2.2.2.2.2.2.2.1, z8.2.2.2.2.2.2.2.2.2.2.1,
 z8.2.2.2.2.2.2.2.2.2.2.2.1, z8.2.2.2.2.2.2.2.2.2.2.2.2.1.set r9.1.toNat (lAt (0, ()) z8.2.2.2.2.2.2.2.2.1.1 r9.1),
 z8.2.2.2.2.2.2.2.2.2.2.2.2.2)
 else none
 else none
 else none
 else rc3 (z8.2.1, z8.2.2.1, z8.2.2.2.1, (), z8.2.2.2.2.2.1, (), (), z8.2.2.2.2.2.2.2.2)
noncomputable def r29_K10 {R : Type} (rc3 : S29 → Option R) (z10 : Int × Int × Int × Bool × Bool × T29) : Option R :=
 if z10.2.2.2.2.1 = true then
 (sp49 (z10.2.1, ())).bind fun r11 =>
 if inR r11.1 z10.2.2.2.2.2.2.2.2.2.2.1.1.length = true then
 if inR r11.1 z10.2.2.2.2.2.2.2.2.2.2.2.2.2.2.1.length = true then
 if decide (r11.1.toNat + 1 ≤ z10.2.2.2.2.2.2.2.2.2.2.2.2.2.2.1.length) = true then
 if inR z10.1 z10.2.2.2.2.2.2.2.2.2.2.2.2.2.2.2.1.length = true then
 if decide (z10.1.toNat + 1 ≤ z10.2.2.2.2.2.2.2.2.2.2.2.2.2.2.2.1.length) = true then
 rc3
 (z10.2.2.1, z10.2.2.2.1, z10.2.2.2.2.2.1, (), z10.2.2.2.2.2.2.2.1, (), (), z10.2.2.2.2.2.2.2.2.2.2.1, z10.2.2.2.2.2.2.2.2.2.2.2.1,
 z10.2.2.2.2.2.2.2.2.2.2.2.2.1, z10.2.2.2.2.2.2.2.2.2.2.2.2.2.1,
 z10.2.2.2.2.2.2.2.2.2.2.2.2.2.2.1.set r11.1.toNat (lAt (0, ()) z10.2.2.2.2.2.2.2.2.2.2.1.1 r11.1),
 z10.2.2.2.2.2.2.2.2.2.2.2.2.2.2.2.1.set z10.1.toNat r11, ())
 else none
 else none
 else none
 else none
 else none
 else rc3 (z10.2.2.1, z10.2.2.2.1, z10.2.2.2.2.2.1, (), z10.2.2.2.2.2.2.2.1, (), (), z10.2.2.2.2.2.2.2.2.2.2)
noncomputable def r29_K5 {R : Type} (fuel : Nat) (rc3 : S29 → Option R) (z5 : Int × Bool × S29) : Option R :=
 (sp47 (z5.2.2.2.2.1, z5.2.2.2.2.2.2.2.2.2.1.1, z5.1, ())).bind fun r6 =>
 if inR z5.1 r6.2.1.1.length = true then
 (sp48 ((lAt ([], 0, 0, 0, [], ()) r6.2.1.1 z5.1).2.1, ())).bind fun r7 =>
 if (!r7.1) = true then iter fuel (r29_L8 rc3) (r6.1, z5.2.2.1, z5.2.2.2.1, r6.2.1, (), z5.2.2.2.2.2.2.1, (), (), z5.2.2.2.2.2.2.2.2.2)
 else
 joinK (r29_K10 rc3) fun j12 =>
 if (r6.1 != 0) = true then
 (sp31 (r6.2.1, z5.2.2.2.2.2.2.1, z5.1, ())).bind fun r13 =>
 if r13.1 = true then j12 (z5.1, r6.1, z5.2.2.1, z5.2.2.2.1, !z5.2.1, r13.2.1, (), z5.2.2.2.2.2.2.1, (), (), z5.2.2.2.2.2.2.2.2.2)
 else j12 (z5.1, r6.1, z5.2.2.1, z5.2.2.2.1, false, r13.2.1, (), z5.2.2.2.2.2.2.1, (), (), z5.2.2.2.2.2.2.2.2.2)
 else j12 (z5.1, r6.1, z5.2.2.1, z5.2.2.2.1, false, r6.2.1, (), z5.2.2.2.2.2.2.1, (), (), z5.2.2.2.2.2.2.2.2.2)
 else none
noncomputable def r29_K4 {R : Type} (fuel : Nat) (rc3 : S29 → Option R) (z4 : Int × Bool × S29) : Option R :=
 joinK (r29_K5 fuel rc3) fun j14 =>
 if z4.2.1 = true then
 if inR z4.1 z4.2.2.2.2.2.2.2.2.2.2.2.2.2.1.length = true then
 if decide (z4.1.toNat + 1 ≤ z4.2.2.2.2.2.2.2.2.2.2.2.2.2.1.length) = true then
 j14
 (z4.1, z4.2.1, z4.2.2.1, z4.2.2.2.1, z4.2.2.2.2.1, (), z4.2.2.2.2.2.2.1, (), (), z4.2.2.2.2.2.2.2.2.2.1, z4.2.2.2.2.2.2.2.2.2.2.1,
 z4.2.2.2.2.2.2.2.2.2.2.2.1, z4.2.2.2.2.2.2.2.2.2.2.2.2.1, z4.2.2.2.2.2.2.2.2.2.2.2.2.2.1.set z4.1.toNat (0, ()),
 z4.2.2.2.2.2.2.2.2.2.2.2.2.2.2)
 else none
 else none
 else j14 (z4.1, z4.2.1, z4.2.2.1, z4.2.2.2.1, z4.2.2.2.2.1, (), z4.2.2.2.2.2.2.1, (), (), z4.2.2.2.2.2.2.2.2.2)
/-- one round -/
noncomputable def r29 {R : Type} (fuel : Nat) (rc3 : S29 → Option R) (z3 : S29) (x : Int) : Option R :=
 joinK (r29_K4 fuel rc3) fun j15 =>
 if inR x z3.2.2.1.1.length = true then
 if ((lAt ([], 0, 0, 0, [], ()) z3.2.2.1.1 x).2.1 == 5) = true then
 if inR x z3.2.2.2.2.2.2.2.1.1.length = true then
 if decide (0 ≤ (lAt (0, ()) z3.2.2.2.2.2.2.2.1.1 x).1) = true then
 if inR x z3.2.2.2.2.2.2.2.2.2.2.2.1.length = true then
 if decide (x.toNat + 1 ≤ z3.2.2.2.2.2.2.2.2.2.2.2.1.length) = true then
 if decide ((z3.2.2.2.2.2.2.2.2.2.2.2.1.getD x.toNat (0, ())).1 < 0) = true then
 if inR x z3.2.2.2.2.1.1.length = true then
 if inR 0 (List.length (lAt ([], ()) z3.2.2.2.2.1.1 x).1) = true then
 j15 (x, (lAt (0, ()) (lAt ([], ()) z3.2.2.2.2.1.1 x).1 0).1 == 0, z3.1, z3.2.1, z3.2.2.1, (), z3.2.2.2.2.1, (), (),
 z3.2.2.2.2.2.2.2)
 else none
 else none
 else j15 (x, false, z3.1, z3.2.1, z3.2.2.1, (), z3.2.2.2.2.1, (), (), z3.2.2.2.2.2.2.2)
 else none
 else none
 else j15 (x, false, z3.1, z3.2.1, z3.2.2.1, (), z3.2.2.2.2.1, (), (), z3.2.2.2.2.2.2.2)
 else none
 else j15 (x, false, z3.1, z3.2.1, z3.2.2.1, (), z3.2.2.2.2.1, (), (), z3.2.2.2.2.2.2.2)
 else none
noncomputable def r29_L17 {R : Type} (j16 : Int × Bool × Ty7 × Unit × Ty4 × Unit × Unit × Unit × IntL × IntL × IntL × IntL × IntL × Unit → Option R) (rc17 : IntL × List Ty1 × Int × Int × Ty7 × Unit × Ty4 × Unit × Unit × Unit × IntL × IntL × IntL × IntL × IntL × Unit → Option R) (z17 : IntL × List Ty1 × Int × Int × Ty7 × Unit × Ty4 × Unit × Unit × Unit × IntL × IntL × IntL × IntL × IntL × Unit) : Option R :=
 if decide (z17.2.2.2.1 < z17.2.2.1) = true then
 if decide (z17.2.2.2.2.2.2.2.2.2.2.2.2.1.length + 1 ≤ Abs.lim) = true then
 if decide ((z17.2.2.2.2.2.2.2.2.2.2.2.2.1.length + 1) * 8 ≤ Abs.lim) = true then
 if decide (z17.2.2.2.2.2.2.2.2.2.2.2.2.2.1.length + 1 ≤ Abs.lim) = true then
 if decide ((z17.2.2.2.2.2.2.2.2.2.2.2.2.2.1.length + 1) * 8 ≤ Abs.lim) = true then
 if inR z17.2.2.2.1 z17.1.length = true then
 (sp45 (z17.2.2.2.2.1, z17.2.2.2.2.2.2.1, z17.2.2.2.1, (lAt (0, ()) z17.1 z17.2.2.2.1).1, z17.2.1, ())).bind fun r18 =>
 if decide (z17.2.2.2.2.2.2.2.2.2.2.2.2.2.2.1.length + 1 ≤ Abs.lim) = true then
 if decide ((z17.2.2.2.2.2.2.2.2.2.2.2.2.2.2.1.length + 1) * 8 ≤ Abs.lim) = true then
 rc17
 (z17.1, z17.2.1, z17.2.2.1, IntKind.i64.wrap (z17.2.2.2.1 + 1), r18.2.1, (), z17.2.2.2.2.2.2.1, (), (), (),
 z17.2.2.2.2.2.2.2.2.2.2.1, z17.2.2.2.2.2.2.2.2.2.2.2.1, z17.2.2.2.2.2.2.2.2.2.2.2.2.1 ++ [(-1, ())],
 z17.2.2.2.2.2.2.2.2.2.2.2.2.2.1 ++ [(-1, ())], z17.2.2.2.2.2.2.2.2.2.2.2.2.2.2.1 ++ [(r18.1, ())], ())
 else none
 else none
 else none
 else none
 else none
 else none
 else none
 else j16 (z17.2.2.1, decide (z17.2.2.2.1 < z17.2.2.1), z17.2.2.2.2.1, (), z17.2.2.2.2.2.2.1, (), (), (), z17.2.2.2.2.2.2.2.2.2.2)
/-- the state ahead of the loop -/
noncomputable def q29 (fuel : Nat) (x0 : Ty7) (x1 : Ty4) (x2 : IntL) (x3 : List Ty1) : Option S29 :=
 joinK (fun z0 : Int × Bool × Ty7 × Unit × Ty4 × Unit × Unit × Unit × IntL × IntL × IntL × IntL × IntL × Unit => some (z0.1, z0.2.1, z0.2.2.1, (), z0.2.2.2.2.1, (), (), z0.2.2.2.2.2.2.2.2.2.2.2.2, z0.2.2.1.2.2, z0.2.2.2.2.2.2.2.2.1, z0.2.2.2.2.2.2.2.2.2.1, z0.2.2.2.2.2.2.2.2.2.2.1, z0.2.2.2.2.2.2.2.2.2.2.2.1, ())) fun j16 =>
 iter fuel (r29_L17 j16) (x2, x3, (↑x0.1.length : Int), 0, x0, (), x1, (), (), (), [], [], [], [], [], ())
noncomputable def fold29 (z : S29) (l : List Int) : Option S29 := l.foldlM (fun z n => r29 100000 some z n) z
abbrev ord29 (z : S29) : List Int := z.2.2.2.2.2.2.2.2.1.1.map (·.1)
/-- whatever nodes come, in whatever order: the round is defined -/
def Ok29 (z : S29) : Prop := ∀ pre : List Int, (∀ n ∈ pre, n ∈ ord29 z) → pre.length ≤ (ord29 z).length → ∃ z', fold29 z pre = some z' ∧ z'.1 = z.1 ∧ z'.2.1 = z.2.1 ∧ z'.2.2.2.2.2.2.2.2.1 = z.2.2.2.2.2.2.2.2.1
open Classical in
noncomputable def sp29 (x : Ty7 × Ty4 × XI × List Ty1 × Unit) : Option (Ty2 × Ty7 × Unit) :=
 (q29 100000 x.1 x.2.1 x.2.2.1 x.2.2.2.1).bind fun z => if Ok29 z ∧ (ord29 z).length ≤ 100000 then (fold29 z (ord29 z).reverse).map fun z' => ((z'.2.2.2.2.2.2.2.2.2.2.2.1, z'.2.2.2.2.2.2.2.2.2.2.2.2.1, ()), z'.2.2.1, ()) else none
/-! 11 baggage/traffic.Flows -/
noncomputable def c11 : Code := bd Tryd.f11
def g11 : Sig := ⟨[.v (.ag ty6), .v (.ag ty4), .v (.ty (.sl (.cons (.int .i64) .nil))), .v (.ty (.sl ty1))], .tup [(.ag ty2), (.ty (.int .i64))]⟩
def h11 : HT := (nx (.j ⟨[(2, dL), (3, .d (.ty (.sl ty1))), (5, .ref 1000 2), (8, .ref 1001 2), (10, .ref 1002 3), (11, dB)], [(1000, .box b4), (1001, .box [.own 1003, .own 1004]), (1002, .box b3), (1003, .arr (.cons (.int .i64) .nil)), (1004, .arr (.cons (.int .i64) .nil))], []⟩ (.ri .x [(15, 0, (nx (.n (nx (.n (nx .e) .e)) (.n (.r (.w 3 [(0, 0), (0, 1), (2, 2)])) .e))))]) (.n (.j ⟨[(2, dL), (3, .d (.ty (.sl ty1))), (5, .ref 1005 2), (8, .ref 1006 2), (10, .ref 1007 3), (25, dB)], [(1005, .box b4), (1006, .box b6), (1007, .box b3)], []⟩ (.r .x) (.n (nx .e) .e)) (.n (nx (nx (.n (nx .e) .e))) (nx .e)))))
noncomputable def FT11 : List (Nat × Entry) := [(40, ⟨g40, sp40⟩), (41, ⟨g41, sp41⟩), (27, ⟨g27, sp27⟩), (28, ⟨g28, sp28⟩), (29, ⟨g29, sp29⟩)]
noncomputable def IT11 : List (Nat × Inl) := [(26, ⟨12, [.tmp 2, .tmp 3], c26⟩)]
def MT11 : MTab := []
noncomputable def sh11_K1 (z1 : XI × List Ty1 × Bool × Ty4 × Ty2 × Ty7 × Unit) : Option ((Ty2 × Int × Unit) × Unit) :=
 if z1.2.2.1 = true then some ((([], [], ()), 7, ()), ())
 else
 (sp28 (z1.2.2.2.2.2.1, z1.1, z1.2.1, ())).bind fun r2 =>
 if (r2.1 != 0) = true then some ((([], [], ()), r2.1, ()), ())
 else (sp29 (r2.2.1, z1.2.2.2.1, z1.1, z1.2.1, ())).bind fun r3 => some ((r3.1, 0, ()), ())
noncomputable def sh11_K0 (z0 : XI × List Ty1 × Bool × Ty4 × Unit × Ty7 × XI × XI × Unit) : Option ((Ty2 × Int × Unit) × Unit) :=
 joinK sh11_K1 fun j4 =>
 if (!z0.2.2.1) = true then j4 (z0.1, z0.2.1, true, z0.2.2.2.1, z0.2.2.2.2.2.2, z0.2.2.2.2.2.1, ())
 else (sp27 (z0.2.2.2.2.2.1, z0.2.2.2.1, ())).bind fun r5 => j4 (z0.1, z0.2.1, !r5.1, z0.2.2.2.1, z0.2.2.2.2.2.2, r5.2)
noncomputable def sh11 (fuel : Nat) (x0 : Ty6) (x1 : Ty4) (x2 : XI) (x3 : List Ty1) : Option ((Ty2 × Int × Unit) × Unit) :=
 joinK sh11_K0 fun j6 =>
 (sp40 (x0, ())).bind fun r7 =>
 if (r7.1 != 0) = true then none else (sp41 (x0, ())).bind fun r8 => j6 (x2, x3, true, x1, (), (x0.1, x0.2.1, r8), [], [], ())
noncomputable def sp11 (x : Ty6 × Ty4 × (XI) × (List Ty1) × Unit) : Option ((Ty2 × Int × Unit) × Unit) := sh11 0 x.1 x.2.1 x.2.2.1 x.2.2.2.1
/-! 13 baggage/baggageref07.Strip -/
def g13 : Sig := ⟨[.v (.ty (.int .i64))], .v (.ty .bool)⟩
def h13 : HT := (nx (.j ⟨[(2, dB)], [], []⟩ (.r .x) .e))
noncomputable def sh13_K0 (z0 : Bool × Unit) : XB :=
 some z0
noncomputable def sh13 (fuel : Nat) (x0 : Int) : XB :=
 joinK sh13_K0 fun j1 => if decide (1 ≤ x0) = true then j1 (decide (x0 ≤ 6), ()) else j1 (false, ())
noncomputable def sp13 (x : (Int) × Unit) : XB := sh13 0 x.1
/-! 50 baggage/baggageref07.split -/
def g50 : Sig := ⟨[.v (.ty .str), .v (.ty (.int .u8))], .v (.ty (.sl (.cons .str .nil)))⟩
def h50 : HT := (nx (nx (nx (.j ⟨[(5, .own 1003), (6, dS)], [(1003, .arr (.cons .str .nil))], []⟩ (nx (.u (.l ⟨[(0, dS), (1, .d (.ty (.int .u8))), (5, .own 1000), (6, dS), (7, dI)], [(1000, .arr (.cons .str .nil))], []⟩ (.n (nx (.n .e .e)) (.j ⟨[(0, dS), (1, .d (.ty (.int .u8))), (5, .own 1001), (6, dS), (7, dI)], [(1001, .arr (.cons .str .nil))], []⟩ (.u (.n (nx (.n (nx (nx .e)) .e)) (.r .x))) (.r .x)))))) (nx .e)))))
noncomputable def sh50_K0 (z0 : List UInt8 × List Tz1 × Unit) : Option (List Tz1 × Unit) :=
 if decide (z0.2.1.length + 1 ≤ Abs.lim) = true then
 if decide ((z0.2.1.length + 1) * 16 ≤ Abs.lim) = true then some (z0.2.1 ++ [(z0.1, ())], ()) else none
 else none
noncomputable def sh50_K3 (rc2 : List UInt8 × Int × List UInt8 × Int × List Tz1 × Unit → Option (List Tz1 × Unit)) (z3 : List UInt8 × Int × List UInt8 × Int × List Tz1 × Unit) : Option (List Tz1 × Unit) :=
 rc2 (z3.1, z3.2.1, z3.2.2.1, IntKind.i64.wrap (z3.2.2.2.1 + 1), z3.2.2.2.2)
noncomputable def sh50_L2 (j1 : List UInt8 × List Tz1 × Unit → Option (List Tz1 × Unit)) (rc2 : List UInt8 × Int × List UInt8 × Int × List Tz1 × Unit → Option (List Tz1 × Unit)) (z2 : List UInt8 × Int × List UInt8 × Int × List Tz1 × Unit) : Option (List Tz1 × Unit) :=
 if decide (z2.2.2.2.1 < (↑z2.1.length : Int)) = true then
 joinK (sh50_K3 rc2) fun j4 =>
 if inR z2.2.2.2.1 z2.1.length = true then
 if (sAt z2.1 z2.2.2.2.1 == z2.2.1) = true then
 if decide (z2.2.2.2.2.1.length + 1 ≤ Abs.lim) = true then
 if decide ((z2.2.2.2.2.1.length + 1) * 16 ≤ Abs.lim) = true then
 j4 (z2.1, z2.2.1, [], z2.2.2.2.1, z2.2.2.2.2.1 ++ [(z2.2.2.1, ())], ())
 else none
 else none
 else
 if inCut z2.2.2.2.1 (IntKind.i64.wrap (z2.2.2.2.1 + 1)) z2.1.length = true then
 if decide (z2.2.2.1.length + (cutL z2.1 z2.2.2.2.1 (IntKind.i64.wrap (z2.2.2.2.1 + 1))).length ≤ Abs.lim) = true then
 j4 (z2.1, z2.2.1, z2.2.2.1 ++ cutL z2.1 z2.2.2.2.1 (IntKind.i64.wrap (z2.2.2.2.1 + 1)), z2.2.2.2)
 else none
 else none
 else none
 else j1 (z2.2.2.1, z2.2.2.2.2)
noncomputable def sh50 (fuel : Nat) (x0 : List UInt8) (x1 : Int) : Option (List Tz1 × Unit) :=
 joinK sh50_K0 fun j1 => iter fuel (sh50_L2 j1) (x0, x1, [], 0, [], ())
noncomputable def sp50 (x : (List UInt8) × (Int) × Unit) : Option (List Tz1 × Unit) := sh50 100000 x.1 x.2.1
/-! 87 baggage/baggageref01.All -/
def g87 : Sig := ⟨[.v (.ty .str)], .v (.ty .bool)⟩
def h87 : HT := (nx (.j ⟨[], [], []⟩ (nx (.u (.l ⟨[(0, dS), (3, dI)], [], []⟩ (.n (nx (.n .e .e)) (.n (.u (.j ⟨[(0, dS), (3, dI), (19, dB)], [], []⟩ (.r .x) (.n (nx .e) .e))) (.r .x)))))) (nx .e)))
noncomputable def sh87_K0 (z0 : Unit) : XB :=
 some (true, ())
noncomputable def sh87_K3 (rc2 : List UInt8 × Int × Unit → XB) (z3 : List UInt8 × Int × Bool × Unit) : XB :=
 if z3.2.2.1 = true then some (false, ()) else rc2 (z3.1, IntKind.i64.wrap (z3.2.1 + 1), ())
noncomputable def sh87_L2 (j1 : Unit → XB) (rc2 : List UInt8 × Int × Unit → XB) (z2 : List UInt8 × Int × Unit) : XB :=
 if decide (z2.2.1 < (↑z2.1.length : Int)) = true then
 joinK (sh87_K3 rc2) fun j4 =>
 if inR z2.2.1 z2.1.length = true then
 if decide (sAt z2.1 z2.2.1 < 48) = true then j4 (z2.1, z2.2.1, true, ())
 else if inR z2.2.1 z2.1.length = true then j4 (z2.1, z2.2.1, decide (57 < sAt z2.1 z2.2.1), ()) else none
 else none
 else j1 ()
noncomputable def sh87 (fuel : Nat) (x0 : List UInt8) : XB :=
 joinK sh87_K0 fun j1 => iter fuel (sh87_L2 j1) (x0, 0, ())
noncomputable def sp87 (x : (List UInt8) × Unit) : XB := sh87 100000 x.1
/-! 88 baggage/baggageref01.Value -/
def g88 : Sig := ⟨[.v (.ty .str)], .v (.ty (.int .i64))⟩
def h88 : HT := (nx (nx (.j ⟨[(3, dI)], [], []⟩ (nx (.u (.l ⟨[(0, dS), (3, dI), (4, dI)], [], []⟩ (.n (nx (.n .e .e)) (.n (.u (.r .x)) (.r .x)))))) (nx .e))))
noncomputable def sh88_K0 (z0 : Int × Unit) : XO0 :=
 some z0
noncomputable def sh88_L2 (j1 : Int × Unit → XO0) (rc2 : List UInt8 × Int × Int × Unit → XO0) (z2 : List UInt8 × Int × Int × Unit) : XO0 :=
 if decide (z2.2.2.1 < (↑z2.1.length : Int)) = true then
 if inR z2.2.2.1 z2.1.length = true then
 rc2
 (z2.1, IntKind.i64.wrap (IntKind.i64.wrap (z2.2.1 * 10) + IntKind.i64.wrap (IntKind.u8.wrap (sAt z2.1 z2.2.2.1 - 48))),
 IntKind.i64.wrap (z2.2.2.1 + 1), ())
 else none
 else j1 (z2.2.1, ())
noncomputable def sh88 (fuel : Nat) (x0 : List UInt8) : XO0 :=
 joinK sh88_K0 fun j1 => iter fuel (sh88_L2 j1) (x0, 0, 0, ())
noncomputable def sp88 (x : (List UInt8) × Unit) : XO0 := sh88 100000 x.1
/-! 71 baggage/baggageref07.number -/
def g71 : Sig := ⟨[.v (.ty .str)], .tup [(.ty (.int .i64)), (.ty .bool)]⟩
def h71 : HT := (nx (.n (.j ⟨[(0, dS), (26, dB)], [], []⟩ (.r .x) (.n (nx .e) .e)) (nx .e)))
noncomputable def sh71_K0 (z0 : List UInt8 × Bool × Unit) : Option ((Int × Bool × Unit) × Unit) :=
 if z0.2.1 = true then some ((0, false, ()), ()) else (sp88 (z0.1, ())).bind fun r1 => some ((r1.1, true, ()), ())
noncomputable def sh71 (fuel : Nat) (x0 : List UInt8) : Option ((Int × Bool × Unit) × Unit) :=
 joinK sh71_K0 fun j2 =>
 if decide ((↑x0.length : Int) < 1) = true then j2 (x0, true, ())
 else
 if decide (3 < (↑x0.length : Int)) = true then j2 (x0, true, ())
 else
 (sp87 (x0, ())).bind fun r3 =>
 if (!r3.1) = true then j2 (x0, true, ())
 else
 if decide (1 < (↑x0.length : Int)) = true then if inR 0 x0.length = true then j2 (x0, sAt x0 0 == 48, ()) else none else j2 (x0, false, ())
noncomputable def sp71 (x : (List UInt8) × Unit) : Option ((Int × Bool × Unit) × Unit) := sh71 0 x.1
/-! 89 baggage/baggageref02.Letter -/
def g89 : Sig := ⟨[.v (.ty (.int .u8))], .v (.ty .bool)⟩
def h89 : HT := (nx (.j ⟨[(2, dB)], [], []⟩ (.r .x) .e))
noncomputable def sh89_K0 (z0 : Bool × Unit) : XB :=
 some z0
noncomputable def sh89 (fuel : Nat) (x0 : Int) : XB :=
 joinK sh89_K0 fun j1 => if decide (65 ≤ x0) = true then j1 (decide (x0 ≤ 90), ()) else j1 (false, ())
noncomputable def sp89 (x : (Int) × Unit) : XB := sh89 0 x.1
/-! 90 baggage/baggageref02.Digit -/
def g90 : Sig := ⟨[.v (.ty (.int .u8))], .v (.ty .bool)⟩
def h90 : HT := (nx (.j ⟨[(2, dB)], [], []⟩ (.r .x) .e))
noncomputable def sh90_K0 (z0 : Bool × Unit) : XB :=
 some z0
noncomputable def sh90 (fuel : Nat) (x0 : Int) : XB :=
 joinK sh90_K0 fun j1 => if decide (48 ≤ x0) = true then j1 (decide (x0 ≤ 57), ()) else j1 (false, ())
noncomputable def sp90 (x : (Int) × Unit) : XB := sh90 0 x.1
/-! 72 baggage/baggageref04.Name -/
def g72 : Sig := ⟨[.v (.ty .str)], .v (.ty .bool)⟩
def h72 : HT := (nx (.n (.j ⟨[(0, dS), (17, dB)], [], []⟩ (.r .x) (.n (nx .e) .e)) (.j ⟨[], [], []⟩ (nx (.u (.l ⟨[(0, dS), (3, dI)], [], []⟩ (.n (nx (.n .e .e)) (.n (.u (.j ⟨[(0, dS), (3, dI), (35, dB)], [], []⟩ (.r .x) (.n (nx .e) .e))) (.r .x)))))) (nx .e))))
noncomputable def sh72_K1 (z1 : Unit) : XB :=
 some (true, ())
noncomputable def sh72_K4 (rc3 : List UInt8 × Int × Unit → XB) (z4 : List UInt8 × Int × Bool × Unit) : XB :=
 if z4.2.2.1 = true then some (false, ()) else rc3 (z4.1, IntKind.i64.wrap (z4.2.1 + 1), ())
noncomputable def sh72_L3 (j2 : Unit → XB) (rc3 : List UInt8 × Int × Unit → XB) (z3 : List UInt8 × Int × Unit) : XB :=
 if decide (z3.2.1 < (↑z3.1.length : Int)) = true then
 joinK (sh72_K4 rc3) fun j5 =>
 if inR z3.2.1 z3.1.length = true then
 (sp89 (sAt z3.1 z3.2.1, ())).bind fun r6 =>
 if (!r6.1) = true then
 if inR z3.2.1 z3.1.length = true then (sp90 (sAt z3.1 z3.2.1, ())).bind fun r7 => j5 (z3.1, z3.2.1, !r7.1, ()) else none
 else j5 (z3.1, z3.2.1, false, ())
 else none
 else j2 ()
noncomputable def sh72_K0 (fuel : Nat) (z0 : List UInt8 × Bool × Unit) : XB :=
 if z0.2.1 = true then some (false, ()) else joinK sh72_K1 fun j2 => iter fuel (sh72_L3 j2) (z0.1, 0, ())
noncomputable def sh72 (fuel : Nat) (x0 : List UInt8) : XB :=
 joinK (sh72_K0 fuel) fun j8 =>
 if decide ((↑x0.length : Int) < 1) = true then j8 (x0, true, ())
 else
 if decide (12 < (↑x0.length : Int)) = true then j8 (x0, true, ())
 else if inR 0 x0.length = true then (sp89 (sAt x0 0, ())).bind fun r9 => j8 (x0, !r9.1, ()) else none
noncomputable def sp72 (x : (List UInt8) × Unit) : XB := sh72 100000 x.1
/-! 73 baggage/baggageref07.Exits -/
def g73 : Sig := ⟨[.v (.ty (.int .i64))], .v (.ty (.int .i64))⟩
def h73 : HT := (nx (.n (nx (.u (.j ⟨[(3, dI), (4, dB)], [], []⟩ (nx (.n .e (nx (.n .e (.r .x))))) (.n (nx .e) (.j ⟨[(8, dB)], [], []⟩ (nx (.n .e (.r .x))) (.n (nx .e) .e)))))) (nx .e)))
noncomputable def sh73_K1 (z1 : Bool × Unit) : XO0 :=
 if z1.1 = true then some (0, ()) else some (1, ())
noncomputable def sh73_K0 (z0 : Int × Bool × Unit) : XO0 :=
 if z0.2.1 = true then some (2, ()) else joinK sh73_K1 fun j2 => if (z0.1 == 8) = true then j2 (z0.1 == 8, ()) else j2 (z0.1 == 9, ())
noncomputable def sh73 (fuel : Nat) (x0 : Int) : XO0 :=
 joinK sh73_K0 fun j3 => if (x0 == 4) = true then j3 (x0, x0 == 4, ()) else if (x0 == 5) = true then j3 (x0, x0 == 5, ()) else j3 (x0, x0 == 6, ())
noncomputable def sp73 (x : (Int) × Unit) : XO0 := sh73 0 x.1
/-! 51 baggage/baggageref07.read -/
def g51 : Sig := ⟨[.v (.ty .str)], .tup [(.ag ty5), (.ty .bool)]⟩
def h51 : HT := (nx (nx (nx (.j ⟨[(2, .ref 1024 9), (4, .d (.ty (.sl (.cons .str .nil)))), (5, .ref 1025 9)], [(1024, .box [.d .str, .d (.int .i64), .d (.int .i64), .d (.int .i64), .own 1026, .d (.int .i64), .d (.int .i64), .d (.int .i64), .own 1027]), (1025, .box [.d .str, .d (.int .i64), .d (.int .i64), .d (.int .i64), .own 1028, .d (.int .i64), .d (.int .i64), .d (.int .i64), .own 1029]), (1026, .arr (.cons (.int .i64) .nil)), (1027, .arr (.cons .str .nil)), (1028, .arr (.cons (.int .i64) .nil)), (1029, .arr (.cons .str .nil))], []⟩ (nx (.u (.l ⟨[(2, .ref 1000 9), (4, .d (.ty (.sl (.cons .str .nil)))), (5, .ref 1001 9), (6, dI)], [(1000, .box [.d .str, .d (.int .i64), .d (.int .i64), .d (.int .i64), .own 1002, .d (.int .i64), .d (.int .i64), .d (.int .i64), .own 1003]), (1001, .box [.d .str, .d (.int .i64), .d (.int .i64), .d (.int .i64), .own 1004, .d (.int .i64), .d (.int .i64), .d (.int .i64), .own 1005]), (1002, .arr (.cons (.int .i64) .nil)), (1003, .arr (.cons .str .nil)), (1004, .arr (.cons (.int .i64) .nil)), (1005, .arr (.cons .str .nil))], []⟩ (.n (.j ⟨[(2, .ref 1006 9), (4, .d (.ty (.sl (.cons .str .nil)))), (5, .ref 1007 9), (6, dI), (25, dB)], [(1006, .box [.d .str, .d (.int .i64), .d (.int .i64), .d (.int .i64), .own 1008, .d (.int .i64), .d (.int .i64), .d (.int .i64), .own 1009]), (1007, .box [.d .str, .d (.int .i64), .d (.int .i64), .d (.int .i64), .own 1010, .d (.int .i64), .d (.int .i64), .d (.int .i64), .own 1011]), (1008, .arr (.cons (.int .i64) .nil)), (1009, .arr (.cons .str .nil)), (1010, .arr (.cons (.int .i64) .nil)), (1011, .arr (.cons .str .nil))], []⟩ (.r .x) (.n .e .e)) (.n (.u (nx (.j ⟨[(2, .ref 1012 9), (4, .d (.ty (.sl (.cons .str .nil)))), (5, .ref 1013 9), (6, dI), (7, dI), (51, dB)], [(1012, .box [.d .str, .d (.int .i64), .d (.int .i64), .d (.int .i64), .own 1014, .d (.int .i64), .d (.int .i64), .d (.int .i64), .own 1015]), (1013, .box [.d .str, .d (.int .i64), .d (.int .i64), .d (.int .i64), .own 1016, .d (.int .i64), .d (.int .i64), .d (.int .i64), .own 1017]), (1014, .arr (.cons (.int .i64) .nil)), (1015, .arr (.cons .str .nil)), (1016, .arr (.cons (.int .i64) .nil)), (1017, .arr (.cons .str .nil))], []⟩ (.r (.w 7 [(1, 0), (0, 1), (0, 2), (1, 4), (3, 3), (0, 5), (0, 6)])) (.n (.n (.r (.w 7 [(1, 0), (1, 1), (0, 2), (1, 3), (1, 4), (0, 5), (2, 6)])) (nx .e)) .e)))) (.r .x)))))) (.j ⟨[(2, .ref 1048 9), (4, .d (.ty (.sl (.cons .str .nil)))), (5, .ref 1049 9)], [(1048, .box [.d .str, .d (.int .i64), .d (.int .i64), .d (.int .i64), .own 1050, .d (.int .i64), .d (.int .i64), .d (.int .i64), .own 1051]), (1049, .box [.d .str, .d (.int .i64), .d (.int .i64), .d (.int .i64), .own 1052, .d (.int .i64), .d (.int .i64), .d (.int .i64), .own 1053]), (1050, .arr (.cons (.int .i64) .nil)), (1051, .arr (.cons .str .nil)), (1052, .arr (.cons (.int .i64) .nil)), (1053, .arr (.cons .str .nil))], []⟩ (nx (.u (.l ⟨[(2, .ref 1030 9), (4, .d (.ty (.sl (.cons .str .nil)))), (5, .ref 1031 9), (9, dI)], [(1030, .box [.d .str, .d (.int .i64), .d (.int .i64), .d (.int .i64), .own 1032, .d (.int .i64), .d (.int .i64), .d (.int .i64), .own 1033]), (1031, .box [.d .str, .d (.int .i64), .d (.int .i64), .d (.int .i64), .own 1034, .d (.int .i64), .d (.int .i64), .d (.int .i64), .own 1035]), (1032, .arr (.cons (.int .i64) .nil)), (1033, .arr (.cons .str .nil)), (1034, .arr (.cons (.int .i64) .nil)), (1035, .arr (.cons .str .nil))], []⟩ (.n (nx (.n .e .e)) (.j ⟨[(2, .ref 1036 9), (4, .d (.ty (.sl (.cons .str .nil)))), (5, .ref 1037 9), (9, dI)], [(1036, .box [.d .str, .d (.int .i64), .d (.int .i64), .d (.int .i64), .own 1038, .d (.int .i64), .d (.int .i64), .d (.int .i64), .own 1039]), (1037, .box [.d .str, .d (.int .i64), .d (.int .i64), .d (.int .i64), .own 1040, .d (.int .i64), .d (.int .i64), .d (.int .i64), .own 1041]), (1038, .arr (.cons (.int .i64) .nil)), (1039, .arr (.cons .str .nil)), (1040, .arr (.cons (.int .i64) .nil)), (1041, .arr (.cons .str .nil))], []⟩ (.u (.n (.r .q) (nx .e))) (.r .x)))))) (nx (nx (.j ⟨[(2, .ref 1054 9), (4, .d (.ty (.sl (.cons .str .nil)))), (5, .ref 1055 9), (10, dI), (11, dI), (12, dI)], [(1054, .box [.d .str, .d (.int .i64), .d (.int .i64), .d (.int .i64), .own 1056, .d (.int .i64), .d (.int .i64), .d (.int .i64), .own 1057]), (1055, .box [.d .str, .d (.int .i64), .d (.int .i64), .d (.int .i64), .own 1058, .d (.int .i64), .d (.int .i64), .d (.int .i64), .own 1059]), (1056, .arr (.cons (.int .i64) .nil)), (1057, .arr (.cons .str .nil)), (1058, .arr (.cons (.int .i64) .nil)), (1059, .arr (.cons .str .nil))], []⟩ (nx (nx .e)) (.j ⟨[(2, .ref 1060 9), (4, .d (.ty (.sl (.cons .str .nil)))), (5, .ref 1061 9), (10, dI), (11, dI), (12, dI)], [(1060, .box [.d .str, .d (.int .i64), .d (.int .i64), .d (.int .i64), .own 1062, .d (.int .i64), .d (.int .i64), .d (.int .i64), .own 1063]), (1061, .box [.d .str, .d (.int .i64), .d (.int .i64), .d (.int .i64), .own 1064, .d (.int .i64), .d (.int .i64), .d (.int .i64), .own 1065]), (1062, .arr (.cons (.int .i64) .nil)), (1063, .arr (.cons .str .nil)), (1064, .arr (.cons (.int .i64) .nil)), (1065, .arr (.cons .str .nil))], []⟩ (nx (nx .e)) (.n (.j ⟨[(2, .ref 1066 9), (4, .d (.ty (.sl (.cons .str .nil)))), (5, .ref 1067 9), (10, dI), (11, dI), (105, dB)], [(1066, .box [.d .str, .d (.int .i64), .d (.int .i64), .d (.int .i64), .own 1068, .d (.int .i64), .d (.int .i64), .d (.int .i64), .own 1069]), (1067, .box [.d .str, .d (.int .i64), .d (.int .i64), .d (.int .i64), .own 1070, .d (.int .i64), .d (.int .i64), .d (.int .i64), .own 1071]), (1068, .arr (.cons (.int .i64) .nil)), (1069, .arr (.cons .str .nil)), (1070, .arr (.cons (.int .i64) .nil)), (1071, .arr (.cons .str .nil))], []⟩ (.r .x) (.n (nx .e) .e)) (nx (nx (.j ⟨[(2, .ref 1072 9), (4, .d (.ty (.sl (.cons .str .nil)))), (5, .ref 1073 9), (10, dI), (11, dI), (13, dB)], [(1072, .box [.d .str, .d (.int .i64), .d (.int .i64), .d (.int .i64), .own 1074, .d (.int .i64), .d (.int .i64), .d (.int .i64), .own 1075]), (1073, .box [.d .str, .d (.int .i64), .d (.int .i64), .d (.int .i64), .own 1076, .d (.int .i64), .d (.int .i64), .d (.int .i64), .own 1077]), (1074, .arr (.cons (.int .i64) .nil)), (1075, .arr (.cons .str .nil)), (1076, .arr (.cons (.int .i64) .nil)), (1077, .arr (.cons .str .nil))], []⟩ (nx (.n (nx (.r .x)) .e)) (nx (nx (.n (.j ⟨[(2, .ref 1078 9), (4, .d (.ty (.sl (.cons .str .nil)))), (5, .ref 1079 9), (10, dI), (11, dI), (153, dB)], [(1078, .box [.d .str, .d (.int .i64), .d (.int .i64), .d (.int .i64), .own 1080, .d (.int .i64), .d (.int .i64), .d (.int .i64), .own 1081]), (1079, .box [.d .str, .d (.int .i64), .d (.int .i64), .d (.int .i64), .own 1082, .d (.int .i64), .d (.int .i64), .d (.int .i64), .own 1083]), (1080, .arr (.cons (.int .i64) .nil)), (1081, .arr (.cons .str .nil)), (1082, .arr (.cons (.int .i64) .nil)), (1083, .arr (.cons .str .nil))], []⟩ (.r .x) (.n (nx .e) .e)) (.j ⟨[(2, .ref 1096 9), (5, .ref 1097 9)], [(1096, .box [.d .str, .d (.int .i64), .d (.int .i64), .d (.int .i64), .own 1098, .d (.int .i64), .d (.int .i64), .d (.int .i64), .own 1099]), (1097, .box [.d .str, .d (.int .i64), .d (.int .i64), .d (.int .i64), .own 1100, .d (.int .i64), .d (.int .i64), .d (.int .i64), .own 1101]), (1098, .arr (.cons (.int .i64) .nil)), (1099, .arr (.cons .str .nil)), (1100, .arr (.cons (.int .i64) .nil)), (1101, .arr (.cons .str .nil))], []⟩ (nx (.u (.l ⟨[(2, .ref 1084 9), (4, .d (.ty (.sl (.cons .str .nil)))), (5, .ref 1085 9), (10, dI), (11, dI), (16, dI)], [(1084, .box [.d .str, .d (.int .i64), .d (.int .i64), .d (.int .i64), .own 1086, .d (.int .i64), .d (.int .i64), .d (.int .i64), .own 1087]), (1085, .box [.d .str, .d (.int .i64), .d (.int .i64), .d (.int .i64), .own 1088, .d (.int .i64), .d (.int .i64), .d (.int .i64), .own 1089]), (1086, .arr (.cons (.int .i64) .nil)), (1087, .arr (.cons .str .nil)), (1088, .arr (.cons (.int .i64) .nil)), (1089, .arr (.cons .str .nil))], []⟩ (.n (nx (.n .e .e)) (.n (.u (.n (nx (.n (nx .e) .e)) (.r (.w 10 [(0, 0), (0, 1), (1, 2), (1, 3), (1, 4), (1, 5), (1, 6), (0, 7), (0, 8), (3, 9)])))) (.r .x)))))) (nx .e))))))))))))))))))
noncomputable def sh51_K10 (z10 : Tz0 × Tz0 × XI × List Tz1 × XI × List Tz1 × Unit) : Option ((Ty5 × Bool × Unit) × Unit) :=
 some
 (((z10.2.1.1, z10.2.1.2.1, z10.2.1.2.2.1, z10.2.1.2.2.2.1, z10.2.2.2.2.1, z10.2.1.2.2.2.2.1, z10.2.1.2.2.2.2.2.1, z10.2.1.2.2.2.2.2.2.1,
 z10.2.2.2.2.2),
 true, ()),
 ())
noncomputable def sh51_L12 (j11 : Tz0 × Tz0 × XI × List Tz1 × XI × List Tz1 × Unit → Option ((Ty5 × Bool × Unit) × Unit)) (rc12 : List Tz1 × Int × Int × Int × Tz0 × Tz0 × XI × List Tz1 × XI × List Tz1 × Unit → Option ((Ty5 × Bool × Unit) × Unit)) (z12 : List Tz1 × Int × Int × Int × Tz0 × Tz0 × XI × List Tz1 × XI × List Tz1 × Unit) : Option ((Ty5 × Bool × Unit) × Unit) :=
 if decide (z12.2.2.2.1 < z12.2.1) = true then
 if inR (IntKind.i64.wrap (IntKind.i64.wrap (z12.2.2.1 + 2) + z12.2.2.2.1)) z12.1.length = true then
 (sp72 (lAt ([], ()) z12.1 (IntKind.i64.wrap (IntKind.i64.wrap (z12.2.2.1 + 2) + z12.2.2.2.1)))).bind fun r13 =>
 if (!r13.1) = true then some ((([], 0, 0, 0, [], 0, 0, 0, [], ()), false, ()), ())
 else
 if inR (IntKind.i64.wrap (IntKind.i64.wrap (z12.2.2.1 + 2) + z12.2.2.2.1)) z12.1.length = true then
 if
 decide
 (z12.2.2.2.2.2.2.2.2.2.1.length + 1 ≤
 Abs.lim) =
 true then
 if
 decide
 ((z12.2.2.2.2.2.2.2.2.2.1.length +
 [lAt ([], ()) z12.1 (IntKind.i64.wrap (IntKind.i64.wrap (z12.2.2.1 + 2) + z12.2.2.2.1))].length) *
 16 ≤
 Abs.lim) =
 true then
 rc12
 (z12.1, z12.2.1, z12.2.2.1, IntKind.i64.wrap (z12.2.2.2.1 + 1), z12.2.2.2.2.1, z12.2.2.2.2.2.1, z12.2.2.2.2.2.2.1,
 z12.2.2.2.2.2.2.2.1, z12.2.2.2.2.2.2.2.2.1,
 z12.2.2.2.2.2.2.2.2.2.1 ++ [lAt ([], ()) z12.1 (IntKind.i64.wrap (IntKind.i64.wrap (z12.2.2.1 + 2) + z12.2.2.2.1))], ())
 else none
 else none
 else none
 else none
 else j11 z12.2.2.2.2
noncomputable def sh51_K9 (fuel : Nat) (z9 : List Tz1 × Int × Int × Bool × Tz0 × Tz0 × XI × List Tz1 × XI × List Tz1 × Unit) : Option ((Ty5 × Bool × Unit) × Unit) :=
 if z9.2.2.2.1 = true then some ((([], 0, 0, 0, [], 0, 0, 0, [], ()), false, ()), ())
 else joinK sh51_K10 fun j11 => iter fuel (sh51_L12 j11) (z9.1, z9.2.1, z9.2.2.1, 0, z9.2.2.2.2)
noncomputable def sh51_K7 (fuel : Nat) (z7 : List Tz1 × Int × Int × Bool × Tz0 × Tz0 × XI × List Tz1 × XI × List Tz1 × Unit) : Option ((Ty5 × Bool × Unit) × Unit) :=
 if inR z7.2.2.1 z7.1.length = true then
 (sp71 (lAt ([], ()) z7.1 z7.2.2.1)).bind fun r8 =>
 joinK (sh51_K9 fuel) fun j14 =>
 if (!r8.1.2.1) = true then
 j14
 (z7.1, z7.2.1, z7.2.2.1, true, z7.2.2.2.2.1, (z7.2.2.2.2.2.1.1, z7.2.2.2.2.2.1.2.1, z7.2.2.2.2.2.1.2.2.1, r8.1.1, z7.2.2.2.2.2.1.2.2.2.2),
 z7.2.2.2.2.2.2)
 else
 if (!z7.2.2.2.1) = true then
 j14
 (z7.1, z7.2.1, z7.2.2.1, true, z7.2.2.2.2.1, (z7.2.2.2.2.2.1.1, z7.2.2.2.2.2.1.2.1, z7.2.2.2.2.2.1.2.2.1, r8.1.1, z7.2.2.2.2.2.1.2.2.2.2),
 z7.2.2.2.2.2.2)
 else
 if decide (0 < z7.2.1) = true then
 if inR (IntKind.i64.wrap (z7.2.2.1 + 1)) z7.1.length = true then
 j14
 (z7.1, z7.2.1, z7.2.2.1, !(lAt ([], ()) z7.1 (IntKind.i64.wrap (z7.2.2.1 + 1))).1 == [62], z7.2.2.2.2.1,
 (z7.2.2.2.2.2.1.1, z7.2.2.2.2.2.1.2.1, z7.2.2.2.2.2.1.2.2.1, r8.1.1, z7.2.2.2.2.2.1.2.2.2.2), z7.2.2.2.2.2.2)
 else none
 else
 j14
 (z7.1, z7.2.1, z7.2.2.1, false, z7.2.2.2.2.1,
 (z7.2.2.2.2.2.1.1, z7.2.2.2.2.2.1.2.1, z7.2.2.2.2.2.1.2.2.1, r8.1.1, z7.2.2.2.2.2.1.2.2.2.2), z7.2.2.2.2.2.2)
 else none
noncomputable def sh51_K6 (fuel : Nat) (z6 : List Tz1 × Int × Int × Bool × Tz0 × Tz0 × XI × List Tz1 × XI × List Tz1 × Unit) : Option ((Ty5 × Bool × Unit) × Unit) :=
 if z6.2.2.2.1 = true then some ((([], 0, 0, 0, [], 0, 0, 0, [], ()), false, ()), ())
 else
 if inR 1 z6.1.length = true then
 joinK (sh51_K7 fuel) fun j15 =>
 (sp13 (z6.2.2.2.2.2.1.2.1, ())).bind fun r16 =>
 if r16.1 = true then
 if inR 2 z6.1.length = true then
 (sp71 (lAt ([], ()) z6.1 2)).bind fun r17 =>
 j15
 (z6.1, z6.2.1, 3, r17.1.2.1, z6.2.2.2.2.1, ((lAt ([], ()) z6.1 1).1, z6.2.2.2.2.2.1.2.1, r17.1.1, z6.2.2.2.2.2.1.2.2.2),
 z6.2.2.2.2.2.2)
 else none
 else j15 (z6.1, z6.2.1, z6.2.2.1, true, z6.2.2.2.2.1, ((lAt ([], ()) z6.1 1).1, z6.2.2.2.2.2.1.2), z6.2.2.2.2.2.2)
 else none
noncomputable def sh51_K5 (fuel : Nat) (z5 : List Tz1 × Int × Int × Int × Tz0 × Tz0 × XI × List Tz1 × XI × List Tz1 × Unit) : Option ((Ty5 × Bool × Unit) × Unit) :=
 joinK (sh51_K6 fuel) fun j18 =>
 if (z5.2.2.2.2.2.1.2.1 == 0) = true then j18 (z5.1, z5.2.1, z5.2.2.1, true, z5.2.2.2.2)
 else
 if ((↑z5.1.length : Int) != z5.2.2.2.1) = true then j18 (z5.1, z5.2.1, z5.2.2.1, true, z5.2.2.2.2)
 else if inR 1 z5.1.length = true then (sp72 (lAt ([], ()) z5.1 1)).bind fun r19 => j18 (z5.1, z5.2.1, z5.2.2.1, !r19.1, z5.2.2.2.2) else none
noncomputable def sh51_K4 (fuel : Nat) (z4 : List Tz1 × Int × Int × Int × Tz0 × Tz0 × XI × List Tz1 × XI × List Tz1 × Unit) : Option ((Ty5 × Bool × Unit) × Unit) :=
 joinK (sh51_K5 fuel) fun j20 =>
 if decide (0 < z4.2.1) = true then j20 (z4.1, z4.2.1, z4.2.2.1, IntKind.i64.wrap (z4.2.2.2.1 + IntKind.i64.wrap (1 + z4.2.1)), z4.2.2.2.2)
 else j20 z4
noncomputable def sh51_K2 (fuel : Nat) (z2 : List Tz1 × Tz0 × Tz0 × XI × List Tz1 × XI × List Tz1 × Unit) : Option ((Ty5 × Bool × Unit) × Unit) :=
 (sp73 (z2.2.2.1.2.1, ())).bind fun r3 =>
 joinK (sh51_K4 fuel) fun j21 =>
 (sp13 (z2.2.2.1.2.1, ())).bind fun r22 => if r22.1 = true then j21 (z2.1, r3.1, 2, 4, z2.2) else j21 (z2.1, r3.1, 2, 3, z2.2)
noncomputable def sh51_K25 (rc24 : List Tz1 × Int × Tz0 × Tz0 × XI × List Tz1 × XI × List Tz1 × Unit → Option ((Ty5 × Bool × Unit) × Unit)) (z25 : List Tz1 × Int × Tz0 × Tz0 × XI × List Tz1 × XI × List Tz1 × Unit) : Option ((Ty5 × Bool × Unit) × Unit) :=
 rc24 (z25.1, IntKind.i64.wrap (z25.2.1 + 1), z25.2.2)
noncomputable def sh51_L24 (j23 : List Tz1 × Tz0 × Tz0 × XI × List Tz1 × XI × List Tz1 × Unit → Option ((Ty5 × Bool × Unit) × Unit)) (rc24 : List Tz1 × Int × Tz0 × Tz0 × XI × List Tz1 × XI × List Tz1 × Unit → Option ((Ty5 × Bool × Unit) × Unit)) (z24 : List Tz1 × Int × Tz0 × Tz0 × XI × List Tz1 × XI × List Tz1 × Unit) : Option ((Ty5 × Bool × Unit) × Unit) :=
 if decide (z24.2.1 ≤ 9) = true then
 joinK (sh51_K25 rc24) fun j26 =>
 if
 inR z24.2.1
 [([], ()), ([101, 110, 116, 114, 121], ()), ([98, 101, 108, 116], ()), ([115, 99, 114, 101, 101, 110], ()),
 ([100, 105, 118, 101, 114, 116, 101, 114], ()), ([108, 111, 111, 112], ()), ([103, 97, 116, 101], ()),
 ([115, 116, 111, 114, 101], ()), ([99, 104, 117, 116, 101], ()), ([109, 97, 110, 117, 97, 108], ())].length =
 true then
 if inR 0 z24.1.length = true then
 if
 ((lAt ([], ())
 [([], ()), ([101, 110, 116, 114, 121], ()), ([98, 101, 108, 116], ()), ([115, 99, 114, 101, 101, 110], ()),
 ([100, 105, 118, 101, 114, 116, 101, 114], ()), ([108, 111, 111, 112], ()), ([103, 97, 116, 101], ()),
 ([115, 116, 111, 114, 101], ()), ([99, 104, 117, 116, 101], ()), ([109, 97, 110, 117, 97, 108], ())]
 z24.2.1).1 ==
 (lAt ([], ()) z24.1 0).1) =
 true then
 j26 (z24.1, z24.2.1, z24.2.2.1, (z24.2.2.2.1.1, z24.2.1, z24.2.2.2.1.2.2), z24.2.2.2.2)
 else j26 z24
 else none
 else none
 else j23 (z24.1, z24.2.2)
noncomputable def sh51_K1 (fuel : Nat) (z1 : List Tz1 × Tz0 × Tz0 × XI × List Tz1 × XI × List Tz1 × Unit) : Option ((Ty5 × Bool × Unit) × Unit) :=
 joinK (sh51_K2 fuel) fun j23 => iter fuel (sh51_L24 j23) (z1.1, 1, z1.2)
noncomputable def sh51_K31 (rc28 : List Tz1 × Int × Tz0 × Tz0 × XI × List Tz1 × XI × List Tz1 × Unit → Option ((Ty5 × Bool × Unit) × Unit)) (z31 : List Tz1 × Int × Int × Bool × Tz0 × Tz0 × XI × List Tz1 × XI × List Tz1 × Unit) : Option ((Ty5 × Bool × Unit) × Unit) :=
 if z31.2.2.2.1 = true then
 if inCut 1 2 z31.1.length = true then
 some
 (((z31.2.2.2.2.2.1.1, z31.2.2.2.2.2.1.2.1, z31.2.2.2.2.2.1.2.2.1, z31.2.2.2.2.2.1.2.2.2.1, z31.2.2.2.2.2.2.2.2.1, z31.2.1, 0, z31.2.2.1,
 cutL z31.1 1 2, ()),
 true, ()),
 ())
 else none
 else rc28 (z31.1, IntKind.i64.wrap (z31.2.1 + 1), z31.2.2.2.2)
noncomputable def sh51_K29 (j27 : List Tz1 × Tz0 × Tz0 × XI × List Tz1 × XI × List Tz1 × Unit → Option ((Ty5 × Bool × Unit) × Unit)) (rc28 : List Tz1 × Int × Tz0 × Tz0 × XI × List Tz1 × XI × List Tz1 × Unit → Option ((Ty5 × Bool × Unit) × Unit)) (z29 : List Tz1 × Int × Bool × Tz0 × Tz0 × XI × List Tz1 × XI × List Tz1 × Unit) : Option ((Ty5 × Bool × Unit) × Unit) :=
 if z29.2.2.1 = true then
 if inR 2 z29.1.length = true then
 (sp71 (lAt ([], ()) z29.1 2)).bind fun r30 =>
 joinK (sh51_K31 rc28) fun j32 =>
 if inR 0 z29.1.length = true then
 if inR z29.2.1 [([], ()), ([112, 104, 111, 116, 111, 99, 101, 108, 108], ()), ([115, 99, 97, 110, 110, 101, 114], ())].length = true then
 if
 decide
 (z29.2.1.toNat + 1 ≤
 [([], ()), ([112, 104, 111, 116, 111, 99, 101, 108, 108], ()), ([115, 99, 97, 110, 110, 101, 114], ())].length) =
 true then
 if
 ((lAt ([], ()) z29.1 0).1 ==
 ([([], ()), ([112, 104, 111, 116, 111, 99, 101, 108, 108], ()), ([115, 99, 97, 110, 110, 101, 114], ())].getD z29.2.1.toNat
 ([], ())).1) =
 true then
 if r30.1.2.1 = true then
 if inR 1 z29.1.length = true then (sp72 (lAt ([], ()) z29.1 1)).bind fun r33 => j32 (z29.1, z29.2.1, r30.1.1, r33.1, z29.2.2.2)
 else none
 else j32 (z29.1, z29.2.1, r30.1.1, false, z29.2.2.2)
 else j32 (z29.1, z29.2.1, r30.1.1, false, z29.2.2.2)
 else none
 else none
 else none
 else none
 else j27 (z29.1, z29.2.2.2)
noncomputable def sh51_L28 (j27 : List Tz1 × Tz0 × Tz0 × XI × List Tz1 × XI × List Tz1 × Unit → Option ((Ty5 × Bool × Unit) × Unit)) (rc28 : List Tz1 × Int × Tz0 × Tz0 × XI × List Tz1 × XI × List Tz1 × Unit → Option ((Ty5 × Bool × Unit) × Unit)) (z28 : List Tz1 × Int × Tz0 × Tz0 × XI × List Tz1 × XI × List Tz1 × Unit) : Option ((Ty5 × Bool × Unit) × Unit) :=
 joinK (sh51_K29 j27 rc28) fun j34 =>
 if decide (z28.2.1 ≤ 2) = true then j34 (z28.1, z28.2.1, (↑z28.1.length : Int) == 3, z28.2.2) else j34 (z28.1, z28.2.1, false, z28.2.2)
noncomputable def sh51 (fuel : Nat) (x0 : List UInt8) : Option ((Ty5 × Bool × Unit) × Unit) :=
 (sp50 (x0, 32, ())).bind fun r0 =>
 joinK (sh51_K1 fuel) fun j27 => iter fuel (sh51_L28 j27) (r0.1, 1, ([], 0, 0, 0, 0, 0, 0, ()), ([], 0, 0, 0, 0, 0, 0, ()), [], [], [], [], ())
noncomputable def sp51 (x : (List UInt8) × Unit) : Option ((Ty5 × Bool × Unit) × Unit) := sh51 100000 x.1
/-! 52 baggage/baggageref07.Find -/
def g52 : Sig := ⟨[.v (.ag ty6), .v (.ty .str)], .v (.ty (.int .i64))⟩
def h52 : HT := (nx (.j ⟨[], [], []⟩ (nx (.u (.l ⟨[(1, dS), (2, .ref 1000 2), (5, dI)], [(1000, .box b0)], []⟩ (.n (nx (.n .e .e)) (.n (.u (nx (.n (nx .e) .e))) (.r .x)))))) (nx .e)))
noncomputable def sh52_K0 (z0 : Unit) : XO0 :=
 some (-1, ())
noncomputable def sh52_L2 (j1 : Unit → XO0) (rc2 : List UInt8 × Int × Ty6 × Unit → XO0) (z2 : List UInt8 × Int × Ty6 × Unit) : XO0 :=
 if decide (z2.2.1 < (↑z2.2.2.1.1.length : Int)) = true then
 if inR z2.2.1 z2.2.2.1.1.length = true then
 if ((lAt ([], 0, 0, 0, [], ()) z2.2.2.1.1 z2.2.1).1 == z2.1) = true then some (z2.2.1, ()) else rc2 (z2.1, IntKind.i64.wrap (z2.2.1 + 1), z2.2.2)
 else none
 else j1 ()
noncomputable def sh52 (fuel : Nat) (x0 : Ty6) (x1 : List UInt8) : XO0 :=
 joinK sh52_K0 fun j1 => iter fuel (sh52_L2 j1) (x1, 0, x0, ())
noncomputable def sp52 (x : Ty6 × (List UInt8) × Unit) : XO0 := sh52 100000 x.1 x.2.1
/-! 77 baggage/baggageref07.in -/
def g77 : Sig := ⟨[.v (.ty (.int .i64)), .v (.ty (.int .i64)), .v (.ty (.int .i64))], .v (.ty .bool)⟩
def h77 : HT := (nx (.j ⟨[(6, dB)], [], []⟩ (.r .x) .e))
noncomputable def sh77_K0 (z0 : Bool × Unit) : XB :=
 some z0
noncomputable def sh77 (fuel : Nat) (x0 : Int) (x1 : Int) (x2 : Int) : XB :=
 joinK sh77_K0 fun j1 => if decide (x1 ≤ x0) = true then j1 (decide (x0 ≤ x2), ()) else j1 (false, ())
noncomputable def sp77 (x : (Int) × (Int) × (Int) × Unit) : XB := sh77 0 x.1 x.2.1 x.2.2.1
/-! 74 baggage/baggageref07.node -/
def g74 : Sig := ⟨[.v (.ag ty6), .v (.ty (.int .i64))], .v (.ty (.int .i64))⟩
def h74 : HT := (nx (nx (.n (nx (.n (nx .e) .e)) (.n (nx (.n (nx .e) .e)) (nx (.j ⟨[(1, dI), (2, .ref 1000 2), (5, .ref 1001 5), (6, dI), (7, dI)], [(1000, .box b0), (1001, .box b2)], []⟩ (nx (nx .e)) (.j ⟨[(1, dI), (2, .ref 1002 2), (5, .ref 1003 5), (6, dI), (7, dI)], [(1002, .box b0), (1003, .box b2)], []⟩ (nx (nx .e)) (.n (.j ⟨[(1, dI), (2, .ref 1004 2), (5, .ref 1005 5), (49, dB)], [(1004, .box b0), (1005, .box b2)], []⟩ (.r .q) (.n (nx .e) .e)) (.j ⟨[(5, .ref 1014 5)], [(1014, .box b2)], []⟩ (nx (.u (.l ⟨[(1, dI), (2, .ref 1006 2), (5, .ref 1007 5), (8, dI)], [(1006, .box b0), (1007, .box b2)], []⟩ (.n (nx (.n .e .e)) (.n (.u (.j ⟨[(1, dI), (2, .ref 1008 2), (5, .ref 1009 5), (8, dI), (9, dB)], [(1008, .box b0), (1009, .box b2)], []⟩ (.r .x) (.j ⟨[(1, dI), (2, .ref 1010 2), (5, .ref 1011 5), (8, dI), (85, dB)], [(1010, .box b0), (1011, .box b2)], []⟩ (.r .q) (.n (nx .e) .e)))) (.r .x)))))) (.n (.j ⟨[(100, dB)], [], []⟩ (.r .q) (.n (nx .e) .e)) (nx .e)))))))))))
noncomputable def sh74_K6 (z6 : Bool × Unit) : XO0 :=
 if z6.1 = true then some (1, ()) else some (0, ())
noncomputable def sh74_K5 (z5 : Ty3 × Unit) : XO0 :=
 joinK sh74_K6 fun j7 =>
 if ((↑z5.1.2.2.2.2.1.length : Int) == 2) = true then
 if inR 0 z5.1.2.2.2.2.1.length = true then
 if inR 1 z5.1.2.2.2.2.1.length = true then j7 ((lAt (0, ()) z5.1.2.2.2.2.1 0).1 == (lAt (0, ()) z5.1.2.2.2.2.1 1).1, ()) else none
 else none
 else j7 (false, ())
noncomputable def sh74_K11 (rc9 : Int × Int × Ty6 × Ty3 × Unit → XO0) (z11 : Int × Int × Bool × Ty6 × Ty3 × Unit) : XO0 :=
 if z11.2.2.1 = true then some (1, ()) else rc9 (z11.1, IntKind.i64.wrap (z11.2.1 + 1), z11.2.2.2)
noncomputable def sh74_K10 (rc9 : Int × Int × Ty6 × Ty3 × Unit → XO0) (z10 : Int × Int × Bool × Ty6 × Ty3 × Unit) : XO0 :=
 joinK (sh74_K11 rc9) fun j12 =>
 if inR z10.2.1 z10.2.2.2.2.1.2.2.2.2.1.length = true then
 (sp77 ((lAt (0, ()) z10.2.2.2.2.1.2.2.2.2.1 z10.2.1).1, 0, IntKind.i64.wrap ((↑z10.2.2.2.1.1.length : Int) - 1), ())).bind fun r13 =>
 if (!r13.1) = true then j12 (z10.1, z10.2.1, true, z10.2.2.2)
 else
 if inR z10.2.1 z10.2.2.2.2.1.2.2.2.2.1.length = true then
 j12 (z10.1, z10.2.1, !((lAt (0, ()) z10.2.2.2.2.1.2.2.2.2.1 z10.2.1).1 == z10.1) == z10.2.2.1, z10.2.2.2)
 else none
 else none
noncomputable def sh74_L9 (j8 : Ty3 × Unit → XO0) (rc9 : Int × Int × Ty6 × Ty3 × Unit → XO0) (z9 : Int × Int × Ty6 × Ty3 × Unit) : XO0 :=
 if decide (z9.2.1 < (↑z9.2.2.2.1.2.2.2.2.1.length : Int)) = true then
 joinK (sh74_K10 rc9) fun j14 => if (z9.2.2.2.1.2.1 == 5) = true then j14 (z9.1, z9.2.1, z9.2.1 == 0, z9.2.2) else j14 (z9.1, z9.2.1, false, z9.2.2)
 else j8 z9.2.2.2
noncomputable def sh74_K4 (fuel : Nat) (z4 : Int × Bool × Ty6 × Ty3 × Unit) : XO0 :=
 if z4.2.1 = true then some (1, ()) else joinK sh74_K5 fun j8 => iter fuel (sh74_L9 j8) (z4.1, 0, z4.2.2)
noncomputable def sh74_K3 (fuel : Nat) (z3 : Int × Int × Int × Ty6 × Ty3 × Unit) : XO0 :=
 joinK (sh74_K4 fuel) fun j15 =>
 (sp77 (z3.2.2.2.2.1.2.2.1, z3.2.1, z3.2.2.1, ())).bind fun r16 =>
 if (!r16.1) = true then j15 (z3.1, true, z3.2.2.2)
 else
 (sp77 (z3.2.2.2.2.1.2.2.2.1, 0, 1, ())).bind fun r17 =>
 if (!r17.1) = true then j15 (z3.1, true, z3.2.2.2)
 else (sp73 (z3.2.2.2.2.1.2.1, ())).bind fun r18 => j15 (z3.1, (↑z3.2.2.2.2.1.2.2.2.2.1.length : Int) != r18.1, z3.2.2.2)
noncomputable def sh74_K2 (fuel : Nat) (z2 : Int × Int × Int × Ty6 × Ty3 × Unit) : XO0 :=
 joinK (sh74_K3 fuel) fun j19 => if (z2.2.2.2.2.1.2.1 == 5) = true then j19 (z2.1, 2, z2.2.2) else j19 z2
noncomputable def sh74 (fuel : Nat) (x0 : Ty6) (x1 : Int) : XO0 :=
 if inR x1 x0.1.length = true then
 (sp72 ((lAt ([], 0, 0, 0, [], ()) x0.1 x1).1, ())).bind fun r0 =>
 if (!r0.1) = true then some (3, ())
 else
 (sp77 ((lAt ([], 0, 0, 0, [], ()) x0.1 x1).2.1, 1, 9, ())).bind fun r1 =>
 if (!r1.1) = true then some (4, ())
 else
 joinK (sh74_K2 fuel) fun j20 =>
 (sp13 ((lAt ([], 0, 0, 0, [], ()) x0.1 x1).2.1, ())).bind fun r21 =>
 if r21.1 = true then j20 (x1, 1, 8, x0, lAt ([], 0, 0, 0, [], ()) x0.1 x1, ())
 else j20 (x1, 0, 0, x0, lAt ([], 0, 0, 0, [], ()) x0.1 x1, ())
 else none
noncomputable def sp74 (x : Ty6 × (Int) × Unit) : XO0 := sh74 100000 x.1 x.2.1
/-! 75 baggage/baggageref07.total -/
def g75 : Sig := ⟨[.v (.ag ty6)], .v (.ty (.int .i64))⟩
def h75 : HT := (nx (nx (.j ⟨[(3, dI)], [], []⟩ (nx (.u (.l ⟨[(1, .ref 1000 2), (3, dI), (4, dI)], [(1000, .box b0)], []⟩ (.n (nx (.n .e .e)) (.n (.u (.r .x)) (.r .x)))))) (nx .e))))
noncomputable def sh75_K0 (z0 : Int × Unit) : XO0 :=
 some z0
noncomputable def sh75_L2 (j1 : Int × Unit → XO0) (rc2 : Int × Int × Ty6 × Unit → XO0) (z2 : Int × Int × Ty6 × Unit) : XO0 :=
 if decide (z2.2.1 < (↑z2.2.2.1.1.length : Int)) = true then
 if inR z2.2.1 z2.2.2.1.1.length = true then
 rc2 (IntKind.i64.wrap (z2.1 + (lAt ([], 0, 0, 0, [], ()) z2.2.2.1.1 z2.2.1).2.2.1), IntKind.i64.wrap (z2.2.1 + 1), z2.2.2)
 else none
 else j1 (z2.1, ())
noncomputable def sh75 (fuel : Nat) (x0 : Ty6) : XO0 :=
 joinK sh75_K0 fun j1 => iter fuel (sh75_L2 j1) (0, 0, x0, ())
noncomputable def sp75 (x : Ty6 × Unit) : XO0 := sh75 100000 x.1
/-! 76 baggage/baggageref07.zoned -/
def g76 : Sig := ⟨[.v (.ag ty6)], .v (.ty .bool)⟩
def h76 : HT := (nx (.j ⟨[], [], []⟩ (nx (.u (.l ⟨[(1, .ref 1000 2), (3, dI)], [(1000, .box b0)], []⟩ (.n (nx (.n .e .e)) (.j ⟨[(1, .ref 1019 2), (3, dI)], [(1019, .box b0)], []⟩ (.u (nx (.j ⟨[(1, .ref 1001 2), (3, dI), (4, .ref 1002 5), (5, dB)], [(1001, .box b0), (1002, .box b2)], []⟩ (.r .x) (.j ⟨[(1, .ref 1003 2), (3, dI), (4, .ref 1004 5), (5, dB), (6, dB)], [(1003, .box b0), (1004, .box b2)], []⟩ (.r .x) (.n (.j ⟨[(1, .ref 1005 2), (3, dI), (4, .ref 1006 5), (56, dB)], [(1005, .box b0), (1006, .box b2)], []⟩ (.r .x) (.n (nx .e) .e)) (nx (.u (.l ⟨[(1, .ref 1007 2), (3, dI), (4, .ref 1008 5), (7, dI)], [(1007, .box b0), (1008, .box b2)], []⟩ (.n (nx (.n .e .e)) (.n (.u (.n (.r (.da 9)) (nx (.j ⟨[(1, .ref 1012 2), (3, dI), (4, .ref 1013 5), (7, dI), (8, .ref 1014 5), (9, dI)], [(1012, .box b0), (1013, .box b2), (1014, .box b2)], []⟩ (.j ⟨[(1, .ref 1009 2), (3, dI), (4, .ref 1010 5), (7, dI), (8, .ref 1011 5), (9, dI), (81, dB)], [(1009, .box b0), (1010, .box b2), (1011, .box b2)], []⟩ (.r .x) (nx .e)) (.j ⟨[(1, .ref 1015 2), (3, dI), (4, .ref 1016 5), (7, dI), (90, dB)], [(1015, .box b0), (1016, .box b2)], []⟩ (.r .x) (.n (nx .e) .e)))))) (.r .x))))))))))) (.r .x)))))) (nx .e)))
noncomputable def sh76_K0 (z0 : Unit) : XB :=
 some (true, ())
noncomputable def sh76_K3 (rc2 : Int × Ty6 × Unit → XB) (z3 : Int × Ty6 × Unit) : XB :=
 rc2 (IntKind.i64.wrap (z3.1 + 1), z3.2)
noncomputable def sh76_K10 (rc8 : Int × Int × Ty6 × Ty3 × Unit → XB) (z10 : Int × Int × Bool × Ty6 × Ty3 × Unit) : XB :=
 if z10.2.2.1 = true then some (false, ()) else rc8 (z10.1, IntKind.i64.wrap (z10.2.1 + 1), z10.2.2.2)
noncomputable def sh76_K9 (rc8 : Int × Int × Ty6 × Ty3 × Unit → XB) (z9 : Int × Int × Int × Ty6 × Ty3 × Ty3 × Unit) : XB :=
 joinK (sh76_K10 rc8) fun j11 =>
 if (z9.2.2.2.2.2.1.2.1 == 1) = true then j11 (z9.1, z9.2.1, true, z9.2.2.2.1, z9.2.2.2.2.1, ())
 else j11 (z9.1, z9.2.1, z9.2.2.2.2.2.1.2.2.2.1 != z9.2.2.1, z9.2.2.2.1, z9.2.2.2.2.1, ())
noncomputable def sh76_K13 (j12 : Int × Int × Int × Ty6 × Ty3 × Ty3 × Unit → XB) (z13 : Int × Int × Int × Bool × Ty6 × Ty3 × Ty3 × Unit) : XB :=
 if z13.2.2.2.1 = true then j12 (z13.1, z13.2.1, 1, z13.2.2.2.2) else j12 (z13.1, z13.2.1, z13.2.2.1, z13.2.2.2.2)
noncomputable def sh76_L8 (j4 : Int × Ty6 × Unit → XB) (rc8 : Int × Int × Ty6 × Ty3 × Unit → XB) (z8 : Int × Int × Ty6 × Ty3 × Unit) : XB :=
 if decide (z8.2.1 < (↑z8.2.2.2.1.2.2.2.2.1.length : Int)) = true then
 if inR z8.2.1 z8.2.2.2.1.2.2.2.2.1.length = true then
 if inR (lAt (0, ()) z8.2.2.2.1.2.2.2.2.1 z8.2.1).1 z8.2.2.1.1.length = true then
 joinK (sh76_K9 rc8) fun j12 =>
 joinK (sh76_K13 j12) fun j14 =>
 if (z8.2.2.2.1.2.1 == 6) = true then
 j14
 (z8.1, z8.2.1, z8.2.2.2.1.2.2.2.1, z8.2.1 == 1, z8.2.2.1, z8.2.2.2.1,
 lAt ([], 0, 0, 0, [], ()) z8.2.2.1.1 (lAt (0, ()) z8.2.2.2.1.2.2.2.2.1 z8.2.1).1, ())
 else
 j14
 (z8.1, z8.2.1, z8.2.2.2.1.2.2.2.1, false, z8.2.2.1, z8.2.2.2.1,
 lAt ([], 0, 0, 0, [], ()) z8.2.2.1.1 (lAt (0, ()) z8.2.2.2.1.2.2.2.2.1 z8.2.1).1, ())
 else none
 else none
 else j4 (z8.1, z8.2.2.1, ())
noncomputable def sh76_K7 (fuel : Nat) (j4 : Int × Ty6 × Unit → XB) (z7 : Int × Bool × Ty6 × Ty3 × Unit) : XB :=
 if z7.2.1 = true then some (false, ()) else iter fuel (sh76_L8 j4) (z7.1, 0, z7.2.2)
noncomputable def sh76_K6 (fuel : Nat) (j4 : Int × Ty6 × Unit → XB) (z6 : Int × Bool × Bool × Ty6 × Ty3 × Unit) : XB :=
 joinK (sh76_K7 fuel j4) fun j15 =>
 if z6.2.1 = true then
 if (z6.2.2.2.2.1.2.2.2.1 != 0) = true then j15 (z6.1, true, z6.2.2.2)
 else if z6.2.2.1 = true then j15 (z6.1, z6.2.2.2.2.1.2.2.2.1 != 1, z6.2.2.2) else j15 (z6.1, false, z6.2.2.2)
 else if z6.2.2.1 = true then j15 (z6.1, z6.2.2.2.2.1.2.2.2.1 != 1, z6.2.2.2) else j15 (z6.1, false, z6.2.2.2)
noncomputable def sh76_K5 (fuel : Nat) (j4 : Int × Ty6 × Unit → XB) (z5 : Int × Bool × Ty6 × Ty3 × Unit) : XB :=
 joinK (sh76_K6 fuel j4) fun j16 =>
 if (z5.2.2.2.1.2.1 == 7) = true then j16 (z5.1, z5.2.1, true, z5.2.2) else j16 (z5.1, z5.2.1, z5.2.2.2.1.2.1 == 8, z5.2.2)
noncomputable def sh76_L2 (fuel : Nat) (j1 : Unit → XB) (rc2 : Int × Ty6 × Unit → XB) (z2 : Int × Ty6 × Unit) : XB :=
 if decide (z2.1 < (↑z2.2.1.1.length : Int)) = true then
 joinK (sh76_K3 rc2) fun j4 =>
 if inR z2.1 z2.2.1.1.length = true then
 joinK (sh76_K5 fuel j4) fun j17 =>
 if ((lAt ([], 0, 0, 0, [], ()) z2.2.1.1 z2.1).2.1 == 1) = true then j17 (z2.1, true, z2.2.1, lAt ([], 0, 0, 0, [], ()) z2.2.1.1 z2.1, ())
 else
 if ((lAt ([], 0, 0, 0, [], ()) z2.2.1.1 z2.1).2.1 == 3) = true then j17 (z2.1, true, z2.2.1, lAt ([], 0, 0, 0, [], ()) z2.2.1.1 z2.1, ())
 else j17 (z2.1, (lAt ([], 0, 0, 0, [], ()) z2.2.1.1 z2.1).2.1 == 6, z2.2.1, lAt ([], 0, 0, 0, [], ()) z2.2.1.1 z2.1, ())
 else none
 else j1 ()
noncomputable def sh76 (fuel : Nat) (x0 : Ty6) : XB :=
 joinK sh76_K0 fun j1 => iter fuel (sh76_L2 fuel j1) (0, x0, ())
noncomputable def sp76 (x : Ty6 × Unit) : XB := sh76 100000 x.1
/-! 78 baggage/baggageref07.Leads -/
def g78 : Sig := ⟨[.v (.ag ty6), .v (.ty (.int .i64)), .v (.ty (.int .i64))], .v (.ty .bool)⟩
def h78 : HT := (nx (.j ⟨[(6, dB)], [], []⟩ (.r .x) .e))
noncomputable def sh78_K0 (z0 : Bool × Unit) : XB :=
 some z0
noncomputable def sh78 (fuel : Nat) (x0 : Ty6) (x1 : Int) (x2 : Int) : XB :=
 joinK sh78_K0 fun j1 =>
 if (x1 != x2) = true then
 if inR x1 x0.1.length = true then (sp23 ((lAt ([], 0, 0, 0, [], ()) x0.1 x1).2.2.2.2.1, x2, ())).bind fun r2 => j1 r2 else none
 else j1 (false, ())
noncomputable def sp78 (x : Ty6 × (Int) × (Int) × Unit) : XB := sh78 0 x.1 x.2.1 x.2.2.1
/-! 56 baggage/baggageref07.order -/
def g56 : Sig := ⟨[.v (.ag ty6)], .own (.cons (.int .i64) .nil)⟩
def h56 : HT := (nx (nx (.j ⟨[(3, .own 1022)], [(1022, .arr (.cons (.int .i64) .nil))], []⟩ (.u (.l ⟨[(1, .ref 1000 2), (3, .own 1001)], [(1000, .box b0), (1001, .arr (.cons (.int .i64) .nil))], []⟩ (.n (nx (.n .e .e)) (.u (nx (.j ⟨[(1, .ref 1018 2), (3, .own 1019), (4, dI)], [(1018, .box b0), (1019, .arr (.cons (.int .i64) .nil))], []⟩ (nx (.u (.l ⟨[(1, .ref 1002 2), (3, .own 1003), (4, dI), (5, dI)], [(1002, .box b0), (1003, .arr (.cons (.int .i64) .nil))], []⟩ (.n (nx (.n .e .e)) (.j ⟨[(1, .ref 1014 2), (3, .own 1015), (4, dI), (5, dI)], [(1014, .box b0), (1015, .arr (.cons (.int .i64) .nil))], []⟩ (.u (nx (.j ⟨[(1, .ref 1012 2), (3, .own 1013), (4, dI), (5, dI), (6, dB)], [(1012, .box b0), (1013, .arr (.cons (.int .i64) .nil))], []⟩ (nx (.u (.l ⟨[(1, .ref 1004 2), (3, .own 1005), (4, dI), (5, dI), (6, dB), (7, dI)], [(1004, .box b0), (1005, .arr (.cons (.int .i64) .nil))], []⟩ (.n (nx (.n .e .e)) (.j ⟨[(1, .ref 1008 2), (3, .own 1009), (4, dI), (5, dI), (6, dB), (7, dI)], [(1008, .box b0), (1009, .arr (.cons (.int .i64) .nil))], []⟩ (.u (.j ⟨[(1, .ref 1006 2), (3, .own 1007), (4, dI), (5, dI), (6, dB), (7, dI), (42, dB)], [(1006, .box b0), (1007, .arr (.cons (.int .i64) .nil))], []⟩ (.r .x) (nx .e))) (.r .x)))))) (nx (nx .e))))) (.r .x)))))) (.n (nx (.n (nx .e) .e)) (.r .x)))))))) (nx .e))))
noncomputable def sh56_K0 (z0 : XI × Unit) : XO1 :=
 some z0
noncomputable def sh56_K3 (rc2 : Ty6 × XI × Unit → XO1) (z3 : Int × Ty6 × XI × Unit) : XO1 :=
 if decide (z3.1 < 0) = true then some z3.2.2
 else
 if decide (z3.2.2.1.length + 1 ≤ Abs.lim) = true then
 if decide ((z3.2.2.1.length + 1) * 8 ≤ Abs.lim) = true then rc2 (z3.2.1, z3.2.2.1 ++ [(z3.1, ())], ()) else none
 else none
noncomputable def sh56_K6 (rc5 : Int × Int × Ty6 × XI × Unit → XO1) (z6 : Int × Int × Ty6 × XI × Unit) : XO1 :=
 rc5 (z6.1, IntKind.i64.wrap (z6.2.1 - 1), z6.2.2)
noncomputable def sh56_K9 (j7 : Int × Int × Ty6 × XI × Unit → XO1) (z9 : Int × Int × Bool × Ty6 × XI × Unit) : XO1 :=
 if z9.2.2.1 = true then j7 (z9.2.1, z9.2.1, z9.2.2.2) else j7 (z9.1, z9.2.1, z9.2.2.2)
noncomputable def sh56_K12 (rc11 : Int × Int × Bool × Int × Ty6 × XI × Unit → XO1) (z12 : Int × Int × Bool × Int × Ty6 × XI × Unit) : XO1 :=
 rc11 (z12.1, z12.2.1, z12.2.2.1, IntKind.i64.wrap (z12.2.2.2.1 + 1), z12.2.2.2.2)
noncomputable def sh56_K14 (j13 : Int × Int × Bool × Int × Ty6 × XI × Unit → XO1) (z14 : Int × Int × Bool × Int × Bool × Ty6 × XI × Unit) : XO1 :=
 if z14.2.2.2.2.1 = true then j13 (z14.1, z14.2.1, false, z14.2.2.2.1, z14.2.2.2.2.2) else j13 (z14.1, z14.2.1, z14.2.2.1, z14.2.2.2.1, z14.2.2.2.2.2)
noncomputable def sh56_L11 (j10 : Int × Int × Bool × Ty6 × XI × Unit → XO1) (rc11 : Int × Int × Bool × Int × Ty6 × XI × Unit → XO1) (z11 : Int × Int × Bool × Int × Ty6 × XI × Unit) : XO1 :=
 if decide (z11.2.2.2.1 < (↑z11.2.2.2.2.1.1.length : Int)) = true then
 joinK (sh56_K12 rc11) fun j13 =>
 joinK (sh56_K14 j13) fun j15 =>
 (sp78 (z11.2.2.2.2.1, z11.2.2.2.1, z11.2.1, ())).bind fun r16 =>
 if r16.1 = true then
 (sp23 (z11.2.2.2.2.2.1, z11.2.2.2.1, ())).bind fun r17 => j15 (z11.1, z11.2.1, z11.2.2.1, z11.2.2.2.1, !r17.1, z11.2.2.2.2)
 else j15 (z11.1, z11.2.1, z11.2.2.1, z11.2.2.2.1, false, z11.2.2.2.2)
 else j10 (z11.1, z11.2.1, z11.2.2.1, z11.2.2.2.2)
noncomputable def sh56_L5 (fuel : Nat) (j4 : Int × Ty6 × XI × Unit → XO1) (rc5 : Int × Int × Ty6 × XI × Unit → XO1) (z5 : Int × Int × Ty6 × XI × Unit) : XO1 :=
 if decide (0 ≤ z5.2.1) = true then
 joinK (sh56_K6 rc5) fun j7 =>
 (sp23 (z5.2.2.2.1, z5.2.1, ())).bind fun r8 => joinK (sh56_K9 j7) fun j10 => iter fuel (sh56_L11 j10) (z5.1, z5.2.1, !r8.1, 0, z5.2.2)
 else j4 (z5.1, z5.2.2)
noncomputable def sh56_L2 (fuel : Nat) (j1 : XI × Unit → XO1) (rc2 : Ty6 × XI × Unit → XO1) (z2 : Ty6 × XI × Unit) : XO1 :=
 if decide ((↑z2.2.1.length : Int) < (↑z2.1.1.length : Int)) = true then
 joinK (sh56_K3 rc2) fun j4 => iter fuel (sh56_L5 fuel j4) (-1, IntKind.i64.wrap ((↑z2.1.1.length : Int) - 1), z2)
 else j1 z2.2
noncomputable def sh56 (fuel : Nat) (x0 : Ty6) : XO1 :=
 joinK sh56_K0 fun j1 => iter fuel (sh56_L2 fuel j1) (x0, [], ())
noncomputable def sp56 (x : Ty6 × Unit) : XO1 := sh56 100000 x.1
/-! 53 baggage/baggageref07.Validate -/
def g53 : Sig := ⟨[.v (.ag ty6)], .v (.ty (.int .i64))⟩
def h53 : HT := (nx (.n (.j ⟨[(1, .ref 1000 2), (20, dB)], [(1000, .box b0)], []⟩ (.r .x) (.n (nx .e) .e)) (nx (.j ⟨[(1, .ref 1004 2), (3, dI)], [(1004, .box b0)], []⟩ (nx (.u (.l ⟨[(1, .ref 1001 2), (3, dI), (4, dI)], [(1001, .box b0)], []⟩ (.n (nx (.n .e .e)) (.j ⟨[(1, .ref 1002 2), (3, dI), (4, dI)], [(1002, .box b0)], []⟩ (.u (.n (nx (nx (.n (nx .e) .e))) (nx (nx .e)))) (.r .x)))))) (.n (nx (.n (nx .e) .e)) (.j ⟨[(1, .ref 1007 2), (3, dI)], [(1007, .box b0)], []⟩ (nx (.u (.l ⟨[(1, .ref 1005 2), (3, dI), (6, dI)], [(1005, .box b0)], []⟩ (.n (nx (.n .e .e)) (.n (.u (.n (.r .q) (.n (nx .e) .e))) (.r .x)))))) (.n (nx (.n (nx .e) .e)) (.n (.n (.r (.w 6 [(0, 0), (0, 3), (0, 4), (0, 5), (2, 1), (0, 2)])) (.n (nx .e) .e)) (.j ⟨[(1, .ref 1013 2), (3, dI)], [(1013, .box b0)], []⟩ (nx (.u (.l ⟨[(1, .ref 1008 2), (3, dI), (7, dI)], [(1008, .box b0)], []⟩ (.n (nx (.n .e .e)) (.n (.u (nx (.n (.j ⟨[(1, .ref 1009 2), (3, dI), (7, dI), (8, .ref 1010 3), (92, dB)], [(1009, .box b0), (1010, .box b5)], []⟩ (.r .x) (.n (nx .e) .e)) (.j ⟨[(1, .ref 1011 2), (3, dI), (7, dI), (114, dB)], [(1011, .box b0)], []⟩ (.r .q) (.n (nx .e) .e))))) (.r .x)))))) (.j ⟨[(3, dI)], [], []⟩ (nx (.u (.l ⟨[(1, .ref 1014 2), (3, dI), (9, dI)], [(1014, .box b0)], []⟩ (.n (nx (.n .e .e)) (.j ⟨[(1, .ref 1017 2), (3, dI), (9, dI)], [(1017, .box b0)], []⟩ (.u (nx (.u (.l ⟨[(1, .ref 1015 2), (3, dI), (9, dI), (10, dI)], [(1015, .box b0)], []⟩ (.n (nx (.n .e .e)) (.n (.u (.n (.r .q) (.n (nx .e) .e))) (.r .x))))))) (.r .x)))))) (.n (nx (.n (nx .e) .e)) (nx .e))))))))))))
noncomputable def sh53_K7 (z7 : Int × Unit) : XO0 :=
 if (z7.1 == 0) = true then some (6, ()) else some (0, ())
noncomputable def sh53_K10 (rc9 : Int × Int × Ty6 × Unit → XO0) (z10 : Int × Int × Ty6 × Unit) : XO0 :=
 rc9 (z10.1, IntKind.i64.wrap (z10.2.1 + 1), z10.2.2)
noncomputable def sh53_L12 (j11 : Int × Int × Ty6 × Unit → XO0) (rc12 : Int × Int × Int × Ty6 × Unit → XO0) (z12 : Int × Int × Int × Ty6 × Unit) : XO0 :=
 if decide (z12.2.2.1 < z12.2.1) = true then
 if inR z12.2.1 z12.2.2.2.1.2.1.length = true then
 if inR z12.2.2.1 z12.2.2.2.1.2.1.length = true then
 if
 ((lAt (0, 0, 0, ()) z12.2.2.2.1.2.1 z12.2.1).1 == (lAt (0, 0, 0, ()) z12.2.2.2.1.2.1 z12.2.2.1).1 &&
 ((lAt (0, 0, 0, ()) z12.2.2.2.1.2.1 z12.2.1).2.1 == (lAt (0, 0, 0, ()) z12.2.2.2.1.2.1 z12.2.2.1).2.1 &&
 ((lAt (0, 0, 0, ()) z12.2.2.2.1.2.1 z12.2.1).2.2.1 == (lAt (0, 0, 0, ()) z12.2.2.2.1.2.1 z12.2.2.1).2.2.1 && true))) =
 true then
 some (5, ())
 else rc12 (z12.1, z12.2.1, IntKind.i64.wrap (z12.2.2.1 + 1), z12.2.2.2)
 else none
 else none
 else j11 (z12.1, z12.2.1, z12.2.2.2)
noncomputable def sh53_L9 (fuel : Nat) (j8 : Int × Unit → XO0) (rc9 : Int × Int × Ty6 × Unit → XO0) (z9 : Int × Int × Ty6 × Unit) : XO0 :=
 if decide (z9.2.1 < (↑z9.2.2.1.2.1.length : Int)) = true then joinK (sh53_K10 rc9) fun j11 => iter fuel (sh53_L12 j11) (z9.1, z9.2.1, 0, z9.2.2)
 else j8 (z9.1, ())
noncomputable def sh53_K6 (fuel : Nat) (z6 : Int × Ty6 × Unit) : XO0 :=
 joinK sh53_K7 fun j8 => iter fuel (sh53_L9 fuel j8) (z6.1, 0, z6.2)
noncomputable def sh53_K16 (rc14 : Int × Int × Ty6 × Unit → XO0) (z16 : Int × Int × Bool × Ty6 × Unit) : XO0 :=
 if z16.2.2.1 = true then some (1, ()) else rc14 (z16.1, IntKind.i64.wrap (z16.2.1 + 1), z16.2.2.2)
noncomputable def sh53_K15 (rc14 : Int × Int × Ty6 × Unit → XO0) (z15 : Int × Int × Bool × Ty6 × Ty1 × Unit) : XO0 :=
 if z15.2.2.1 = true then some (4, ())
 else
 joinK (sh53_K16 rc14) fun j17 =>
 (sp77 (z15.2.2.2.2.1.2.1, 0, IntKind.i64.wrap ((↑z15.2.2.2.1.1.length : Int) - 1), ())).bind fun r18 =>
 if (!r18.1) = true then j17 (z15.1, z15.2.1, true, z15.2.2.2.1, ())
 else
 if inR z15.2.2.2.2.1.2.1 z15.2.2.2.1.1.length = true then
 (sp77 (z15.2.2.2.2.1.2.2.1, 0, IntKind.i64.wrap ((lAt ([], 0, 0, 0, [], ()) z15.2.2.2.1.1 z15.2.2.2.2.1.2.1).2.2.1 - 1), ())).bind
 fun r19 => j17 (z15.1, z15.2.1, !r19.1, z15.2.2.2.1, ())
 else none
noncomputable def sh53_L14 (j13 : Int × Ty6 × Unit → XO0) (rc14 : Int × Int × Ty6 × Unit → XO0) (z14 : Int × Int × Ty6 × Unit) : XO0 :=
 if decide (z14.2.1 < (↑z14.2.2.1.2.1.length : Int)) = true then
 if inR z14.2.1 z14.2.2.1.2.1.length = true then
 joinK (sh53_K15 rc14) fun j20 =>
 if ((lAt (0, 0, 0, ()) z14.2.2.1.2.1 z14.2.1).1 != 1) = true then
 j20 (z14.1, z14.2.1, (lAt (0, 0, 0, ()) z14.2.2.1.2.1 z14.2.1).1 != 2, z14.2.2.1, lAt (0, 0, 0, ()) z14.2.2.1.2.1 z14.2.1, ())
 else j20 (z14.1, z14.2.1, false, z14.2.2.1, lAt (0, 0, 0, ()) z14.2.2.1.2.1 z14.2.1, ())
 else none
 else j13 (z14.1, z14.2.2)
noncomputable def sh53_K3 (fuel : Nat) (z3 : Int × Ty6 × Unit) : XO0 :=
 (sp76 z3.2).bind fun r4 =>
 if (!r4.1) = true then some (7, ())
 else
 (sp56 z3.2).bind fun r5 =>
 if decide ((↑r5.1.length : Int) < (↑z3.2.1.1.length : Int)) = true then some (9, ())
 else joinK (sh53_K6 fuel) fun j13 => iter fuel (sh53_L14 j13) (z3.1, 0, z3.2)
noncomputable def sh53_L22 (j21 : Int × Ty6 × Unit → XO0) (rc22 : Int × Int × Ty6 × Unit → XO0) (z22 : Int × Int × Ty6 × Unit) : XO0 :=
 if decide (z22.2.1 < (↑z22.2.2.1.1.length : Int)) = true then
 if inR z22.2.1 z22.2.2.1.1.length = true then
 (sp52 (z22.2.2.1, (lAt ([], 0, 0, 0, [], ()) z22.2.2.1.1 z22.2.1).1, ())).bind fun r23 =>
 if (r23.1 != z22.2.1) = true then some (5, ()) else rc22 (z22.1, IntKind.i64.wrap (z22.2.1 + 1), z22.2.2)
 else none
 else j21 (z22.1, z22.2.2)
noncomputable def sh53_K1 (fuel : Nat) (z1 : Int × Ty6 × Unit) : XO0 :=
 (sp75 z1.2).bind fun r2 =>
 if decide (80 < r2.1) = true then some (2, ()) else joinK (sh53_K3 fuel) fun j21 => iter fuel (sh53_L22 j21) (z1.1, 0, z1.2)
noncomputable def sh53_K26 (rc25 : Int × Int × Ty6 × Unit → XO0) (z26 : Int × Int × Ty6 × Unit) : XO0 :=
 rc25 (z26.1, IntKind.i64.wrap (z26.2.1 + 1), z26.2.2)
noncomputable def sh53_L25 (j24 : Int × Ty6 × Unit → XO0) (rc25 : Int × Int × Ty6 × Unit → XO0) (z25 : Int × Int × Ty6 × Unit) : XO0 :=
 if decide (z25.2.1 < (↑z25.2.2.1.1.length : Int)) = true then
 joinK (sh53_K26 rc25) fun j27 =>
 (sp74 (z25.2.2.1, z25.2.1, ())).bind fun r28 =>
 if (r28.1 != 0) = true then some r28
 else
 if inR z25.2.1 z25.2.2.1.1.length = true then
 if ((lAt ([], 0, 0, 0, [], ()) z25.2.2.1.1 z25.2.1).2.1 == 1) = true then j27 (IntKind.i64.wrap (z25.1 + 1), z25.2) else j27 z25
 else none
 else j24 (z25.1, z25.2.2)
noncomputable def sh53_K0 (fuel : Nat) (z0 : Bool × Ty6 × Unit) : XO0 :=
 if z0.1 = true then some (2, ()) else joinK (sh53_K1 fuel) fun j24 => iter fuel (sh53_L25 j24) (0, 0, z0.2)
noncomputable def sh53 (fuel : Nat) (x0 : Ty6) : XO0 :=
 joinK (sh53_K0 fuel) fun j29 =>
 if decide (24 < (↑x0.1.length : Int)) = true then j29 (true, x0, ()) else j29 (decide (24 < (↑x0.2.1.length : Int)), x0, ())
noncomputable def sp53 (x : Ty6 × Unit) : XO0 := sh53 100000 x.1
/-! 30 baggage/baggageref07.Parse -/
def g30 : Sig := ⟨[.v (.ty .str)], .tup [(.ag ty6), (.ty (.int .i64)), (.ty (.int .i64))]⟩
def h30 : HT := (nx (.n (nx (.n (nx .e) .e)) (nx (nx (nx (nx (nx (.j ⟨[(2, .ref 1029 2), (5, .d (.ty (.sl (.cons .str .nil)))), (6, dS), (7, .own 1030), (8, .ref 1031 2)], [(1029, .box [.own 1032, .own 1033]), (1031, .box [.own 1034, .own 1035]), (1030, .arr ty5), (1032, .arr ty3), (1033, .arr ty1), (1034, .arr ty3), (1035, .arr ty1)], []⟩ (nx (.u (.l ⟨[(2, .ref 1000 2), (5, .d (.ty (.sl (.cons .str .nil)))), (6, dS), (7, .own 1001), (8, .ref 1002 2), (9, dI)], [(1000, .box [.own 1003, .own 1004]), (1002, .box [.own 1005, .own 1006]), (1001, .arr ty5), (1003, .arr ty3), (1004, .arr ty1), (1005, .arr ty3), (1006, .arr ty1)], []⟩ (.n (nx (.n .e .e)) (.j ⟨[(2, .ref 1015 2), (5, .d (.ty (.sl (.cons .str .nil)))), (6, dS), (7, .own 1016), (8, .ref 1017 2), (9, dI)], [(1015, .box [.own 1018, .own 1019]), (1017, .box [.own 1020, .own 1021]), (1016, .arr ty5), (1018, .arr ty3), (1019, .arr ty1), (1020, .arr ty3), (1021, .arr ty1)], []⟩ (.u (nx (.n (.j ⟨[(2, .ref 1007 2), (5, .d (.ty (.sl (.cons .str .nil)))), (6, dS), (7, .own 1008), (8, .ref 1009 2), (9, dI), (10, .ref 1010 9), (60, dB)], [(1007, .box [.own 1011, .own 1012]), (1009, .box [.own 1013, .own 1014]), (1010, .box [.d .str, .d (.int .i64), .d (.int .i64), .d (.int .i64), .d (.sl (.cons (.int .i64) .nil)), .d (.int .i64), .d (.int .i64), .d (.int .i64), .d (.sl (.cons .str .nil))]), (1008, .arr ty5), (1011, .arr ty3), (1012, .arr ty1), (1013, .arr ty3), (1014, .arr ty1)], []⟩ (.r .x) (.n (nx .e) .e)) (nx (nx (nx (.r .x))))))) (.r .x)))))) (.n (nx (.n (nx .e) .e)) (.j ⟨[(2, .ref 1078 2), (8, .ref 1079 2)], [(1078, .box [.own 1080, .own 1081]), (1079, .box [.own 1082, .own 1083]), (1080, .arr ty3), (1081, .arr ty1), (1082, .arr ty3), (1083, .arr ty1)], []⟩ (nx (.u (.l ⟨[(2, .ref 1036 2), (7, .own 1037), (8, .ref 1038 2), (12, dI)], [(1036, .box [.own 1039, .own 1040]), (1038, .box [.own 1041, .own 1042]), (1037, .arr ty5), (1039, .arr ty3), (1040, .arr ty1), (1041, .arr ty3), (1042, .arr ty1)], []⟩ (.n (nx (.n .e .e)) (.j ⟨[(2, .ref 1064 2), (7, .own 1065), (8, .ref 1066 2), (12, dI)], [(1064, .box [.own 1067, .own 1068]), (1066, .box [.own 1069, .own 1070]), (1065, .arr ty5), (1067, .arr ty3), (1068, .arr ty1), (1069, .arr ty3), (1070, .arr ty1)], []⟩ (.u (nx (.u (.l ⟨[(2, .ref 1043 2), (7, .own 1044), (8, .ref 1045 2), (12, dI), (13, dI)], [(1043, .box [.own 1046, .own 1047]), (1045, .box [.own 1048, .own 1049]), (1044, .arr ty5), (1046, .arr ty3), (1047, .arr ty1), (1048, .arr ty3), (1049, .arr ty1)], []⟩ (.n (nx (.n .e .e)) (.j ⟨[(2, .ref 1050 2), (7, .own 1051), (8, .ref 1052 2), (12, dI), (13, dI)], [(1050, .box [.own 1053, .own 1054]), (1052, .box [.own 1055, .own 1056]), (1051, .arr ty5), (1053, .arr ty3), (1054, .arr ty1), (1055, .arr ty3), (1056, .arr ty1)], []⟩ (.u (.n (.r .q) (.n (nx (.n (nx .e) .e)) (nx (.n (.r (.w 13 [(0, 0), (0, 1), (1, 2), (0, 3), (0, 4), (1, 5), (0, 6), (0, 7), (0, 8), (1, 10), (2, 9), (5, 11), (2, 12)])) (.r .x)))))) (.r .x))))))) (.r .x)))))) (.n (nx (nx (.n (nx .e) .e))) (nx .e))))))))))))
noncomputable def sh30_K2 (z2 : Unit × Unit × List Ty3 × List Ty1 × List Ty3 × List Ty1 × Unit) : Option ((Ty6 × Int × Int × Unit) × Unit) :=
 (sp53 (z2.2.2.2.2, ())).bind fun r3 => if (r3.1 != 0) = true then some ((([], [], ()), 0, r3), ()) else some ((z2.2.2.2.2, 0, 0, ()), ())
noncomputable def sh30_K6 (rc5 : Int × Unit × Unit × List Ty5 × List Ty3 × List Ty1 × List Ty3 × List Ty1 × Unit → Option ((Ty6 × Int × Int × Unit) × Unit)) (z6 : Int × Unit × Unit × List Ty5 × List Ty3 × List Ty1 × List Ty3 × List Ty1 × Unit) : Option ((Ty6 × Int × Int × Unit) × Unit) :=
 rc5 (IntKind.i64.wrap (z6.1 + 1), (), (), z6.2.2.2)
noncomputable def sh30_K9 (rc8 : Int × Int × Unit × Unit × List Ty5 × List Ty3 × List Ty1 × List Ty3 × List Ty1 × Unit → Option ((Ty6 × Int × Int × Unit) × Unit)) (z9 : Int × Int × Unit × Unit × List Ty5 × List Ty3 × List Ty1 × List Ty3 × List Ty1 × Unit) : Option ((Ty6 × Int × Int × Unit) × Unit) :=
 rc8 (z9.1, IntKind.i64.wrap (z9.2.1 + 1), (), (), z9.2.2.2.2)
noncomputable def sh30_L8 (j7 : Int × Unit × Unit × List Ty5 × List Ty3 × List Ty1 × List Ty3 × List Ty1 × Unit → Option ((Ty6 × Int × Int × Unit) × Unit)) (rc8 : Int × Int × Unit × Unit × List Ty5 × List Ty3 × List Ty1 × List Ty3 × List Ty1 × Unit → Option ((Ty6 × Int × Int × Unit) × Unit)) (z8 : Int × Int × Unit × Unit × List Ty5 × List Ty3 × List Ty1 × List Ty3 × List Ty1 × Unit) : Option ((Ty6 × Int × Int × Unit) × Unit) :=
 if inR z8.1 z8.2.2.2.2.1.length = true then
 if decide (z8.1.toNat + 1 ≤ z8.2.2.2.2.1.length) = true then
 if decide (z8.2.1 < (↑(List.length (z8.2.2.2.2.1.getD z8.1.toNat ([], 0, 0, 0, [], 0, 0, 0, [], ())).2.2.2.2.2.2.2.2.1) : Int)) = true then
 joinK (sh30_K9 rc8) fun j10 =>
 if inR z8.1 z8.2.2.2.2.1.length = true then
 if decide (z8.1.toNat + 1 ≤ z8.2.2.2.2.1.length) = true then
 if inR z8.2.1 (List.length (z8.2.2.2.2.1.getD z8.1.toNat ([], 0, 0, 0, [], 0, 0, 0, [], ())).2.2.2.2.2.2.2.2.1) = true then
 (sp52 (z8.2.2.2.2.2.2.2, lAt ([], ()) (z8.2.2.2.2.1.getD z8.1.toNat ([], 0, 0, 0, [], 0, 0, 0, [], ())).2.2.2.2.2.2.2.2.1 z8.2.1)).bind
 fun r11 =>
 if decide (r11.1 < 0) = true then some ((([], [], ()), IntKind.i64.wrap (z8.1 + 1), 6, ()), ())
 else
 if decide (z8.1 < (↑z8.2.2.2.2.2.2.2.1.length : Int)) = true then
 if inR z8.1 z8.2.2.2.2.2.2.2.1.length = true then
 if decide (z8.1.toNat + 1 ≤ z8.2.2.2.2.2.2.2.1.length) = true then
 if decide (List.length (z8.2.2.2.2.2.2.2.1.getD z8.1.toNat ([], 0, 0, 0, [], ())).2.2.2.2.1 ≤ Abs.lim) = true then
 if decide (List.length (z8.2.2.2.2.2.2.2.1.getD z8.1.toNat ([], 0, 0, 0, [], ())).2.2.2.2.1 * 8 ≤ Abs.lim) = true then
 if
 decide (List.length (z8.2.2.2.2.2.2.2.1.getD z8.1.toNat ([], 0, 0, 0, [], ())).2.2.2.2.1 + 1 ≤ Abs.lim) =
 true then
 if
 decide
 ((List.length (z8.2.2.2.2.2.2.2.1.getD z8.1.toNat ([], 0, 0, 0, [], ())).2.2.2.2.1 + 1) * 8 ≤
 Abs.lim) =
 true then
 if inR z8.1 z8.2.2.2.2.2.2.2.1.length = true then
 if decide (z8.1.toNat + 1 ≤ z8.2.2.2.2.2.2.2.1.length) = true then
 j10
 (z8.1, z8.2.1, (), (), z8.2.2.2.2.1, z8.2.2.2.2.2.1, z8.2.2.2.2.2.2.1,
 z8.2.2.2.2.2.2.2.1.set z8.1.toNat
 ((z8.2.2.2.2.2.2.2.1.getD z8.1.toNat ([], 0, 0, 0, [], ())).1,
 (z8.2.2.2.2.2.2.2.1.getD z8.1.toNat ([], 0, 0, 0, [], ())).2.1,
 (z8.2.2.2.2.2.2.2.1.getD z8.1.toNat ([], 0, 0, 0, [], ())).2.2.1,
 (z8.2.2.2.2.2.2.2.1.getD z8.1.toNat ([], 0, 0, 0, [], ())).2.2.2.1,
 (z8.2.2.2.2.2.2.2.1.getD z8.1.toNat ([], 0, 0, 0, [], ())).2.2.2.2.1 ++ [r11], ()),
 z8.2.2.2.2.2.2.2.2)
 else none
 else none
 else none
 else none
 else none
 else none
 else none
 else none
 else
 if inR (IntKind.i64.wrap (z8.1 - (↑z8.2.2.2.2.2.2.2.1.length : Int))) z8.2.2.2.2.2.2.2.2.1.length = true then
 if decide ((IntKind.i64.wrap (z8.1 - (↑z8.2.2.2.2.2.2.2.1.length : Int))).toNat + 1 ≤ z8.2.2.2.2.2.2.2.2.1.length) = true then
 j10
 (z8.1, z8.2.1, (), (), z8.2.2.2.2.1, z8.2.2.2.2.2.1, z8.2.2.2.2.2.2.1, z8.2.2.2.2.2.2.2.1,
 z8.2.2.2.2.2.2.2.2.1.set (IntKind.i64.wrap (z8.1 - (↑z8.2.2.2.2.2.2.2.1.length : Int))).toNat
 ((z8.2.2.2.2.2.2.2.2.1.getD (IntKind.i64.wrap (z8.1 - (↑z8.2.2.2.2.2.2.2.1.length : Int))).toNat (0, 0, 0, ())).1,
 r11.1,
 (z8.2.2.2.2.2.2.2.2.1.getD (IntKind.i64.wrap (z8.1 - (↑z8.2.2.2.2.2.2.2.1.length : Int))).toNat (0, 0, 0, ())).2.2),
 ())
 else none
 else none
 else none
 else none
 else none
 else j7 (z8.1, (), (), z8.2.2.2.2)
 else none
 else none
noncomputable def sh30_L5 (fuel : Nat) (j4 : Unit × Unit × List Ty3 × List Ty1 × List Ty3 × List Ty1 × Unit → Option ((Ty6 × Int × Int × Unit) × Unit)) (rc5 : Int × Unit × Unit × List Ty5 × List Ty3 × List Ty1 × List Ty3 × List Ty1 × Unit → Option ((Ty6 × Int × Int × Unit) × Unit)) (z5 : Int × Unit × Unit × List Ty5 × List Ty3 × List Ty1 × List Ty3 × List Ty1 × Unit) : Option ((Ty6 × Int × Int × Unit) × Unit) :=
 if decide (z5.1 < (↑z5.2.2.2.1.length : Int)) = true then joinK (sh30_K6 rc5) fun j7 => iter fuel (sh30_L8 j7) (z5.1, 0, (), (), z5.2.2.2)
 else j4 ((), (), z5.2.2.2.2)
noncomputable def sh30_K1 (fuel : Nat) (z1 : List Tz1 × List UInt8 × Unit × Unit × List Ty5 × List Ty3 × List Ty1 × List Ty3 × List Ty1 × Unit) : Option ((Ty6 × Int × Int × Unit) × Unit) :=
 if (!z1.2.1 == []) = true then some ((([], [], ()), IntKind.i64.wrap ((↑z1.1.length : Int) + 1), 3, ()), ())
 else joinK sh30_K2 fun j4 => iter fuel (sh30_L5 fuel j4) (0, (), (), z1.2.2.2.2)
noncomputable def sh30_K14 (rc13 : List Tz1 × List UInt8 × Int × Unit × Unit × List Ty5 × List Ty3 × List Ty1 × List Ty3 × List Ty1 × Unit → Option ((Ty6 × Int × Int × Unit) × Unit)) (z14 : List Tz1 × List UInt8 × Int × Unit × Unit × List Ty5 × List Ty3 × List Ty1 × List Ty3 × List Ty1 × Unit) : Option ((Ty6 × Int × Int × Unit) × Unit) :=
 rc13 (z14.1, z14.2.1, IntKind.i64.wrap (z14.2.2.1 + 1), (), (), z14.2.2.2.2.2)
noncomputable def sh30_K17 (j15 : List Tz1 × List UInt8 × Int × Unit × Unit × List Ty5 × List Ty3 × List Ty1 × List Ty3 × List Ty1 × Unit → Option ((Ty6 × Int × Int × Unit) × Unit)) (z17 : List Tz1 × List UInt8 × Int × Bool × Unit × Unit × Ty5 × List Ty5 × List Ty3 × List Ty1 × List Ty3 × List Ty1 × Unit) : Option ((Ty6 × Int × Int × Unit) × Unit) :=
 if z17.2.2.2.1 = true then some ((([], [], ()), IntKind.i64.wrap (z17.2.2.1 + 1), 3, ()), ())
 else
 if decide (z17.2.2.2.2.2.2.2.1.length + 1 ≤ Abs.lim) = true then
 if decide ((z17.2.2.2.2.2.2.2.1.length + 1) * 112 ≤ Abs.lim) = true then
 if (z17.2.2.2.2.2.2.1.2.1 != 0) = true then
 if
 decide
 (z17.2.2.2.2.2.2.2.2.2.2.1.length +
 [(z17.2.2.2.2.2.2.1.1, z17.2.2.2.2.2.2.1.2.1, z17.2.2.2.2.2.2.1.2.2.1, z17.2.2.2.2.2.2.1.2.2.2.1, z17.2.2.2.2.2.2.1.2.2.2.2.1,
 ())].length ≤
 Abs.lim) =
 true then
 if
 decide
 ((z17.2.2.2.2.2.2.2.2.2.2.1.length +
 [(z17.2.2.2.2.2.2.1.1, z17.2.2.2.2.2.2.1.2.1, z17.2.2.2.2.2.2.1.2.2.1, z17.2.2.2.2.2.2.1.2.2.2.1, z17.2.2.2.2.2.2.1.2.2.2.2.1,
 ())].length) *
 64 ≤
 Abs.lim) =
 true then
 j15
 (z17.1, z17.2.1, z17.2.2.1, (), (), z17.2.2.2.2.2.2.2.1 ++ [z17.2.2.2.2.2.2.1], z17.2.2.2.2.2.2.2.2.1, z17.2.2.2.2.2.2.2.2.2.1,
 z17.2.2.2.2.2.2.2.2.2.2.1 ++
 [(z17.2.2.2.2.2.2.1.1, z17.2.2.2.2.2.2.1.2.1, z17.2.2.2.2.2.2.1.2.2.1, z17.2.2.2.2.2.2.1.2.2.2.1, z17.2.2.2.2.2.2.1.2.2.2.2.1, ())],
 z17.2.2.2.2.2.2.2.2.2.2.2)
 else none
 else none
 else
 if
 decide
 (z17.2.2.2.2.2.2.2.2.2.2.2.1.length +
 [(z17.2.2.2.2.2.2.1.2.2.2.2.2.1, z17.2.2.2.2.2.2.1.2.2.2.2.2.2.1, z17.2.2.2.2.2.2.1.2.2.2.2.2.2.2.1, ())].length ≤
 Abs.lim) =
 true then
 if
 decide
 ((z17.2.2.2.2.2.2.2.2.2.2.2.1.length +
 [(z17.2.2.2.2.2.2.1.2.2.2.2.2.1, z17.2.2.2.2.2.2.1.2.2.2.2.2.2.1, z17.2.2.2.2.2.2.1.2.2.2.2.2.2.2.1, ())].length) *
 24 ≤
 Abs.lim) =
 true then
 j15
 (z17.1, z17.2.1, z17.2.2.1, (), (), z17.2.2.2.2.2.2.2.1 ++ [z17.2.2.2.2.2.2.1], z17.2.2.2.2.2.2.2.2.1, z17.2.2.2.2.2.2.2.2.2.1,
 z17.2.2.2.2.2.2.2.2.2.2.1,
 z17.2.2.2.2.2.2.2.2.2.2.2.1 ++
 [(z17.2.2.2.2.2.2.1.2.2.2.2.2.1, z17.2.2.2.2.2.2.1.2.2.2.2.2.2.1, z17.2.2.2.2.2.2.1.2.2.2.2.2.2.2.1, ())],
 ())
 else none
 else none
 else none
 else none
noncomputable def sh30_L13 (j12 : List Tz1 × List UInt8 × Unit × Unit × List Ty5 × List Ty3 × List Ty1 × List Ty3 × List Ty1 × Unit → Option ((Ty6 × Int × Int × Unit) × Unit)) (rc13 : List Tz1 × List UInt8 × Int × Unit × Unit × List Ty5 × List Ty3 × List Ty1 × List Ty3 × List Ty1 × Unit → Option ((Ty6 × Int × Int × Unit) × Unit)) (z13 : List Tz1 × List UInt8 × Int × Unit × Unit × List Ty5 × List Ty3 × List Ty1 × List Ty3 × List Ty1 × Unit) : Option ((Ty6 × Int × Int × Unit) × Unit) :=
 if decide (z13.2.2.1 < (↑z13.1.length : Int)) = true then
 joinK (sh30_K14 rc13) fun j15 =>
 if inR z13.2.2.1 z13.1.length = true then
 (sp51 (lAt ([], ()) z13.1 z13.2.2.1)).bind fun r16 =>
 joinK (sh30_K17 j15) fun j18 =>
 if (!r16.1.2.1) = true then j18 (z13.1, z13.2.1, z13.2.2.1, true, (), (), r16.1.1, z13.2.2.2.2.2)
 else
 if (r16.1.1.2.1 != 0) = true then
 j18 (z13.1, z13.2.1, z13.2.2.1, decide (0 < (↑z13.2.2.2.2.2.2.2.2.2.1.length : Int)), (), (), r16.1.1, z13.2.2.2.2.2)
 else j18 (z13.1, z13.2.1, z13.2.2.1, false, (), (), r16.1.1, z13.2.2.2.2.2)
 else none
 else j12 (z13.1, z13.2.1, (), (), z13.2.2.2.2.2)
noncomputable def sh30 (fuel : Nat) (x0 : List UInt8) : Option ((Ty6 × Int × Int × Unit) × Unit) :=
 if decide (4096 < (↑x0.length : Int)) = true then some ((([], [], ()), 0, 2, ()), ())
 else
 (sp50 (x0, 10, ())).bind fun r0 =>
 if inR (IntKind.i64.wrap ((↑r0.1.length : Int) - 1)) r0.1.length = true then
 if inCut 0 (IntKind.i64.wrap ((↑r0.1.length : Int) - 1)) r0.1.length = true then
 joinK (sh30_K1 fuel) fun j12 =>
 iter fuel (sh30_L13 j12)
 (cutL r0.1 0 (IntKind.i64.wrap ((↑r0.1.length : Int) - 1)), (lAt ([], ()) r0.1 (IntKind.i64.wrap ((↑r0.1.length : Int) - 1))).1, 0, (),
 (), [], [], [], [], [], ())
 else none
 else none
noncomputable def sp30 (x : (List UInt8) × Unit) : Option ((Ty6 × Int × Int × Unit) × Unit) := sh30 100000 x.1
/-! 20 baggage/baggagekeep.Ints -/
def g20 : Sig := ⟨[.v (.ty (.sl (.cons (.int .i64) .nil))), .v (.ty (.sl (.cons (.int .i64) .nil)))], .v (.ty .bool)⟩
def h20 : HT := (nx (.n (nx (.n (nx .e) .e)) (.j ⟨[], [], []⟩ (nx (.u (.l ⟨[(0, dL), (1, dL), (5, dI)], [], []⟩ (.n (nx (.n .e .e)) (.n (.u (.n (.r .q) (.n (nx .e) .e))) (.r .x)))))) (nx .e))))
noncomputable def sh20_K0 (z0 : Unit) : XB :=
 some (true, ())
noncomputable def sh20_L2 (j1 : Unit → XB) (rc2 : XI × XI × Int × Unit → XB) (z2 : XI × XI × Int × Unit) : XB :=
 if decide (z2.2.2.1 < (↑z2.1.length : Int)) = true then
 if inR z2.2.2.1 z2.1.length = true then
 if inR z2.2.2.1 z2.2.1.length = true then
 if ((lAt (0, ()) z2.1 z2.2.2.1).1 != (lAt (0, ()) z2.2.1 z2.2.2.1).1) = true then some (false, ())
 else rc2 (z2.1, z2.2.1, IntKind.i64.wrap (z2.2.2.1 + 1), ())
 else none
 else none
 else j1 ()
noncomputable def sh20 (fuel : Nat) (x0 : XI) (x1 : XI) : XB :=
 if ((↑x0.length : Int) != (↑x1.length : Int)) = true then some (false, ()) else joinK sh20_K0 fun j1 => iter fuel (sh20_L2 j1) (x0, x1, 0, ())
noncomputable def sp20 (x : (XI) × (XI) × Unit) : XB := sh20 100000 x.1 x.2.1
/-! 14 baggage/baggagelaw10.awake -/
def g14 : Sig := ⟨[], .v (.ty .bool)⟩
def h14 : HT := (nx (nx (.n (.r (.w 15 [(0, 0), (3, 4), (5, 1), (5, 2), (5, 3), (3, 5), (4, 6), (0, 7), (4, 8), (2, 9), (1, 10), (1, 11), (1, 12), (4, 13), (2, 14)])) (.j ⟨[(0, dB)], [], []⟩ (.r .x) .e))))
noncomputable def sh14_K2 (z2 : Bool × Unit) : XB :=
 some z2
noncomputable def sh14 (fuel : Nat) : XB :=
 (sp30
 (lit0,
 ())).bind
 fun r0 =>
 if decide (0 ≤ 5) = true then
 if decide (5 ≤ 5) = true then
 if decide (5 ≤ (↑Abs.lim : Int)) = true then
 if decide ((↑24 : Int) * 5 ≤ (↑Abs.lim : Int)) = true then
 if decide (0 ≤ 5) = true then
 if decide (5 ≤ 5) = true then
 if decide (5 ≤ (↑Abs.lim : Int)) = true then
 if decide ((↑8 : Int) * 5 ≤ (↑Abs.lim : Int)) = true then
 (sp11
 (r0.1.1,
 ([([(0, ())], ()), ([(5, ())], ()), ([(6, ())], ()), ([(0, ())], ()), ([], ())], List.replicate (Int.toNat 5) ([], ()), ()),
 List.replicate (Int.toNat 5) (0, ()), [], ())).bind
 fun r1 =>
 joinK sh14_K2 fun j3 =>
 if (r0.1.2.2.1 == 0) = true then
 if (r1.1.2.1 == 0) = true then
 (sp20 (r1.1.1.1, [(-1, ()), (0, ()), (-1, ()), (-1, ()), (-1, ())], ())).bind fun r4 =>
 if r4.1 = true then (sp20 (r1.1.1.2.1, [(-1, ()), (-1, ()), (-1, ()), (1, ()), (-1, ())], ())).bind fun r5 => j3 r5
 else j3 (false, ())
 else j3 (false, ())
 else j3 (false, ())
 else none
 else none
 else none
 else none
 else none
 else none
 else none
 else none
noncomputable def sp14 (x : Unit) : XB := sh14 0 
/-! 15 baggage/traffic.Entrances -/
noncomputable def c15 : Code := bd Tryd.f15
def g15 : Sig := ⟨[.v (.ag ty6), .v (.ag ty4)], .own (.cons .bool .nil)⟩
def h15 : HT := (nx (.j ⟨[(2, .ref 1000 2), (3, .ref 1001 2), (5, .ref 1002 3), (6, dB)], [(1000, .box b0), (1001, .box b4), (1002, .box b3)], []⟩ (.ri .x [(11, 0, (nx (.n (nx (.n (nx .e) .e)) (.n (.r (.w 3 [(0, 0), (0, 1), (2, 2)])) .e))))]) (.n (.j ⟨[(2, .ref 1003 2), (3, .ref 1004 2), (5, .ref 1005 3), (21, dB)], [(1003, .box b0), (1004, .box b4), (1005, .box b3)], []⟩ (.r .x) (.n (nx .e) .e)) (nx (.j ⟨[(7, .own 1012)], [(1012, .arr (.cons .bool .nil))], []⟩ (nx (.u (.l ⟨[(3, .ref 1006 2), (5, .ref 1007 3), (7, .own 1008), (24, dI), (25, dI)], [(1006, .box b4), (1007, .box b3), (1008, .arr (.cons .bool .nil))], []⟩ (nx (.n (.n .e .e) (.n (.u (nx (.r .x))) (.r .x))))))) (nx .e))))))
noncomputable def FT15 : List (Nat × Entry) := [(40, ⟨g40, sp40⟩), (41, ⟨g41, sp41⟩), (27, ⟨g27, sp27⟩), (31, ⟨g31, sp31⟩)]
noncomputable def IT15 : List (Nat × Inl) := [(26, ⟨12, [.tmp 2, .tmp 3], c26⟩)]
def MT15 : MTab := []
noncomputable def sh15_K2 (z2 : List (Bool × Unit) × Unit) : Option (List (Bool × Unit) × Unit) :=
 some z2
noncomputable def sh15_L4 (j3 : List (Bool × Unit) × Unit → Option (List (Bool × Unit) × Unit)) (rc4 : Int × Int × Ty4 × Ty7 × List (Bool × Unit) × Unit → Option (List (Bool × Unit) × Unit)) (z4 : Int × Int × Ty4 × Ty7 × List (Bool × Unit) × Unit) : Option (List (Bool × Unit) × Unit) :=
 if decide (z4.2.1 < z4.1) = true then
 (sp31 (z4.2.2.2.1, z4.2.2.1, z4.2.1, ())).bind fun r5 =>
 if decide (z4.2.2.2.2.1.length + 1 ≤ Abs.lim) = true then
 if decide ((z4.2.2.2.2.1.length + 1) * 1 ≤ Abs.lim) = true then
 rc4 (z4.1, IntKind.i64.wrap (z4.2.1 + 1), z4.2.2.1, r5.2.1, z4.2.2.2.2.1 ++ [(r5.1, ())], ())
 else none
 else none
 else j3 z4.2.2.2.2
noncomputable def sh15_K1 (fuel : Nat) (z1 : Bool × Ty6 × Ty4 × Ty7 × Unit) : Option (List (Bool × Unit) × Unit) :=
 if z1.1 = true then some ([], ()) else joinK sh15_K2 fun j3 => iter fuel (sh15_L4 j3) ((↑z1.2.1.1.length : Int), 0, z1.2.2.1, z1.2.2.2.1, [], ())
noncomputable def sh15_K0 (fuel : Nat) (z0 : Bool × Ty6 × Ty4 × Ty7 × Unit) : Option (List (Bool × Unit) × Unit) :=
 joinK (sh15_K1 fuel) fun j6 =>
 if (!z0.1) = true then j6 (true, z0.2) else (sp27 (z0.2.2.2.1, z0.2.2.1, ())).bind fun r7 => j6 (!r7.1, z0.2.1, z0.2.2.1, r7.2)
noncomputable def sh15 (fuel : Nat) (x0 : Ty6) (x1 : Ty4) : Option (List (Bool × Unit) × Unit) :=
 joinK (sh15_K0 fuel) fun j8 =>
 (sp40 (x0, ())).bind fun r9 => if (r9.1 != 0) = true then none else (sp41 (x0, ())).bind fun r10 => j8 (true, x0, x1, (x0.1, x0.2.1, r10), ())
noncomputable def sp15 (x : Ty6 × Ty4 × Unit) : Option (List (Bool × Unit) × Unit) := sh15 100000 x.1 x.2.1
def g21 : Sig := ⟨[.v (.ag ty6), .v (.ag ty4), .v (.ty (.sl (.cons (.int .i64) .nil))), .v (.ty (.sl ty1)), .v (.ty (.int .i64))], .v (.ty (.int .i64))⟩
noncomputable def v21 (L : Ty6) (P : Ty4) (c : IntL) (fs : List Ty1) (n : Int) : XO0 :=
 if 0 ≤ n ∧ n.toNat < L.1.length then
 let nd : Ty3 := L.1.getD n.toNat ([], 0, 0, 0, [], ())
 let cn : Int := (c.getD n.toNat (0, ())).1
 let sl : IntL := (P.1.getD n.toNat ([], ())).1
 if n.toNat < c.length ∧ n.toNat < P.1.length ∧ n.toNat < P.2.1.length then
 if nd.2.1 = 7 then (sp23 ((P.2.1.getD n.toNat ([], ())).1, cn, ())).bind fun r => some (if r.1 = true then cn else 0, ())
 else if (decide (1 ≤ nd.2.1) && decide (nd.2.1 ≤ 6)) = false then some (0, ())
 else if cn = -1 then some (0, ())
 else if 1 ≤ nd.2.2.1 ∧ nd.2.2.1 ≤ sl.length ∧ nd.2.2.1 ≤ 1000 then
 (sp38 (L, fs, n, ())).bind fun A =>
 if A.1.length = nd.2.2.1.toNat then
 some (if (A.1.getD (nd.2.2.1.toNat - 1) (0, ())).1 = 1 then 0 else (sl.getD (nd.2.2.1.toNat - 1) (0, ())).1, ())
 else none
 else none
 else none
 else none
noncomputable def sp21 (x : Ty6 × Ty4 × IntL × List Ty1 × Int × Unit) : XO0 := v21 x.1 x.2.1 x.2.2.1 x.2.2.2.1 x.2.2.2.2.1
/-! 6 baggage/baggagelaw10.TrafficGreedy -/
def g6 : Sig := ⟨[.v (.ty (.sl (.cons (.int .i64) .nil)))], .v (.ty .bool)⟩
def h6 : HT := (nx (nx (nx (nx (nx (nx (nx (nx (.n (.j ⟨[(4, .ref 1000 2), (5, .ref 1001 2), (6, dL), (7, .d (.ty (.sl ty1))), (8, .ref 1002 2), (10, .own 1003), (66, dB)], [(1000, .box b0), (1001, .box b4), (1002, .box b6), (1003, .arr (.cons .bool .nil))], []⟩ (.r .x) (.n (nx .e) .e)) (.j ⟨[], [], []⟩ (nx (.u (.l ⟨[(4, .ref 1004 2), (5, .ref 1005 2), (6, dL), (7, .d (.ty (.sl ty1))), (8, .ref 1006 2), (10, .own 1007), (11, dI)], [(1004, .box b0), (1005, .box b4), (1006, .box b6), (1007, .arr (.cons .bool .nil))], []⟩ (.n (nx (.n .e .e)) (.j ⟨[(4, .ref 1020 2), (5, .ref 1021 2), (6, dL), (7, .d (.ty (.sl ty1))), (8, .ref 1022 2), (10, .own 1023), (11, dI)], [(1020, .box b0), (1021, .box b4), (1022, .box b6), (1023, .arr (.cons .bool .nil))], []⟩ (.u (.n (nx (.n .e .e)) (nx (.j ⟨[(4, .ref 1008 2), (5, .ref 1009 2), (6, dL), (7, .d (.ty (.sl ty1))), (8, .ref 1010 2), (10, .own 1011), (11, dI), (12, dI)], [(1008, .box b0), (1009, .box b4), (1010, .box b6), (1011, .arr (.cons .bool .nil))], []⟩ (nx (nx .e)) (nx (.j ⟨[(4, .ref 1012 2), (5, .ref 1013 2), (6, dL), (7, .d (.ty (.sl ty1))), (8, .ref 1014 2), (10, .own 1015), (11, dI), (12, dI), (13, dI), (14, dB)], [(1012, .box b0), (1013, .box b4), (1014, .box b6), (1015, .arr (.cons .bool .nil))], []⟩ (.r .x) (.j ⟨[(4, .ref 1016 2), (5, .ref 1017 2), (6, dL), (7, .d (.ty (.sl ty1))), (8, .ref 1018 2), (10, .own 1019), (11, dI), (154, dB)], [(1016, .box b0), (1017, .box b4), (1018, .box b6), (1019, .arr (.cons .bool .nil))], []⟩ (.r .x) (.n (nx .e) .e)))))))) (.r .x)))))) (nx .e)))))))))))
noncomputable def sh6_K8 (z8 : Unit) : XB :=
 (sp14 ()).bind fun r9 => some r9
noncomputable def sh6_K12 (rc11 : XI × List Ty1 × Int × Ty6 × Ty4 × Ty2 × List (Bool × Unit) × Unit → XB) (z12 : XI × List Ty1 × Int × Ty6 × Ty4 × Ty2 × List (Bool × Unit) × Unit) : XB :=
 rc11 (z12.1, z12.2.1, IntKind.i64.wrap (z12.2.2.1 + 1), z12.2.2.2)
noncomputable def sh6_K17 (j13 : XI × List Ty1 × Int × Ty6 × Ty4 × Ty2 × List (Bool × Unit) × Unit → XB) (z17 : XI × List Ty1 × Int × Bool × Ty6 × Ty4 × Ty2 × List (Bool × Unit) × Unit) : XB :=
 if z17.2.2.2.1 = true then some (false, ()) else j13 (z17.1, z17.2.1, z17.2.2.1, z17.2.2.2.2)
noncomputable def sh6_K16 (j13 : XI × List Ty1 × Int × Ty6 × Ty4 × Ty2 × List (Bool × Unit) × Unit → XB) (z16 : XI × List Ty1 × Int × Int × Int × Bool × Ty6 × Ty4 × Ty2 × List (Bool × Unit) × Unit) : XB :=
 joinK (sh6_K17 j13) fun j18 =>
 if (z16.2.2.2.2.1 != z16.2.2.1) = true then
 if inR z16.2.2.2.2.1 z16.2.2.2.2.2.2.2.2.2.1.length = true then
 if decide (z16.2.2.2.2.1.toNat + 1 ≤ z16.2.2.2.2.2.2.2.2.2.1.length) = true then
 if (z16.2.2.2.2.2.2.2.2.2.1.getD z16.2.2.2.2.1.toNat (false, ())).1 = true then
 if inR z16.2.2.1 z16.2.2.2.2.2.2.2.2.1.1.length = true then
 if ((lAt (0, ()) z16.2.2.2.2.2.2.2.2.1.1 z16.2.2.1).1 != z16.2.2.2.1) = true then
 if (!z16.2.2.2.2.2.1) = true then
 if inR z16.2.2.2.2.1 z16.2.2.2.2.2.2.2.2.1.2.1.length = true then
 if decide ((lAt (0, ()) z16.2.2.2.2.2.2.2.2.1.2.1 z16.2.2.2.2.1).1 < 0) = true then
 j18 (z16.1, z16.2.1, z16.2.2.1, true, z16.2.2.2.2.2.2)
 else
 if inR z16.2.2.2.2.1 z16.2.2.2.2.2.2.2.2.1.2.1.length = true then
 j18 (z16.1, z16.2.1, z16.2.2.1, decide (z16.2.2.1 ≤ (lAt (0, ()) z16.2.2.2.2.2.2.2.2.1.2.1 z16.2.2.2.2.1).1), z16.2.2.2.2.2.2)
 else none
 else none
 else j18 (z16.1, z16.2.1, z16.2.2.1, false, z16.2.2.2.2.2.2)
 else j18 (z16.1, z16.2.1, z16.2.2.1, false, z16.2.2.2.2.2.2)
 else none
 else j18 (z16.1, z16.2.1, z16.2.2.1, false, z16.2.2.2.2.2.2)
 else none
 else none
 else j18 (z16.1, z16.2.1, z16.2.2.1, false, z16.2.2.2.2.2.2)
noncomputable def sh6_K15 (j13 : XI × List Ty1 × Int × Ty6 × Ty4 × Ty2 × List (Bool × Unit) × Unit → XB) (z15 : XI × List Ty1 × Int × Int × Ty6 × Ty4 × Ty2 × List (Bool × Unit) × Unit) : XB :=
 if inR z15.2.2.1 z15.2.2.2.2.1.1.length = true then
 if inR z15.2.2.2.1 (List.length (lAt ([], 0, 0, 0, [], ()) z15.2.2.2.2.1.1 z15.2.2.1).2.2.2.2.1) = true then
 joinK (sh6_K16 j13) fun j19 =>
 if inR (lAt (0, ()) (lAt ([], 0, 0, 0, [], ()) z15.2.2.2.2.1.1 z15.2.2.1).2.2.2.2.1 z15.2.2.2.1).1 z15.2.2.2.2.1.1.length = true then
 if
 ((lAt ([], 0, 0, 0, [], ()) z15.2.2.2.2.1.1
 (lAt (0, ()) (lAt ([], 0, 0, 0, [], ()) z15.2.2.2.2.1.1 z15.2.2.1).2.2.2.2.1 z15.2.2.2.1).1).2.1 ==
 5) =
 true then
 if inR (lAt (0, ()) (lAt ([], 0, 0, 0, [], ()) z15.2.2.2.2.1.1 z15.2.2.1).2.2.2.2.1 z15.2.2.2.1).1 z15.2.2.2.2.2.2.1.1.length = true then
 j19
 (z15.1, z15.2.1, z15.2.2.1, z15.2.2.2.1, (lAt (0, ()) (lAt ([], 0, 0, 0, [], ()) z15.2.2.2.2.1.1 z15.2.2.1).2.2.2.2.1 z15.2.2.2.1).1,
 (lAt (0, ()) z15.2.2.2.2.2.2.1.1 (lAt (0, ()) (lAt ([], 0, 0, 0, [], ()) z15.2.2.2.2.1.1 z15.2.2.1).2.2.2.2.1 z15.2.2.2.1).1).1 == 0,
 z15.2.2.2.2)
 else none
 else
 j19
 (z15.1, z15.2.1, z15.2.2.1, z15.2.2.2.1, (lAt (0, ()) (lAt ([], 0, 0, 0, [], ()) z15.2.2.2.2.1.1 z15.2.2.1).2.2.2.2.1 z15.2.2.2.1).1,
 false, z15.2.2.2.2)
 else none
 else none
 else none
noncomputable def sh6_L11 (j10 : Unit → XB) (rc11 : XI × List Ty1 × Int × Ty6 × Ty4 × Ty2 × List (Bool × Unit) × Unit → XB) (z11 : XI × List Ty1 × Int × Ty6 × Ty4 × Ty2 × List (Bool × Unit) × Unit) : XB :=
 if decide (z11.2.2.1 < (↑z11.2.2.2.1.1.length : Int)) = true then
 joinK (sh6_K12 rc11) fun j13 =>
 (sp21 (z11.2.2.2.1, z11.2.2.2.2.1, z11.1, z11.2.1, z11.2.2.1, ())).bind fun r14 =>
 if (r14.1 == 0) = true then j13 z11
 else
 if inR z11.2.2.1 z11.1.length = true then
 joinK (sh6_K15 j13) fun j20 =>
 if inR z11.2.2.1 z11.2.2.2.1.1.length = true then
 if ((lAt ([], 0, 0, 0, [], ()) z11.2.2.2.1.1 z11.2.2.1).2.1 == 7) = true then j20 (z11.1, z11.2.1, z11.2.2.1, 0, z11.2.2.2)
 else j20 (z11.1, z11.2.1, z11.2.2.1, (lAt (0, ()) z11.1 z11.2.2.1).1, z11.2.2.2)
 else none
 else none
 else j10 ()
noncomputable def sh6_K7 (fuel : Nat) (z7 : XI × List Ty1 × Bool × Ty6 × Ty4 × Ty2 × List (Bool × Unit) × Unit) : XB :=
 if z7.2.2.1 = true then some (false, ()) else joinK sh6_K8 fun j10 => iter fuel (sh6_L11 j10) (z7.1, z7.2.1, 0, z7.2.2.2)
noncomputable def sh6 (fuel : Nat) (x0 : XI) : XB :=
 (sp7 (x0, ())).bind fun r0 =>
 (sp8 r0).bind fun r1 =>
 (sp9 (r1.2.1, r1.1, 12, ())).bind fun r2 =>
 (sp10 (r2.2.1, r1.1, ())).bind fun r3 =>
 (sp12 (r3.2.1, r1.1, 2, ())).bind fun r4 =>
 (sp11 (r1.1, r2.1, r3.1, r4.1, ())).bind fun r5 =>
 (sp15 (r1.1, r2.1, ())).bind fun r6 =>
 joinK (sh6_K7 fuel) fun j21 =>
 if (r5.1.2.1 != 0) = true then j21 (r3.1, r4.1, true, r1.1, r2.1, r5.1.1, r6)
 else
 if ((↑r5.1.1.1.length : Int) != (↑r1.1.1.length : Int)) = true then j21 (r3.1, r4.1, true, r1.1, r2.1, r5.1.1, r6)
 else
 if ((↑r5.1.1.2.1.length : Int) != (↑r1.1.1.length : Int)) = true then j21 (r3.1, r4.1, true, r1.1, r2.1, r5.1.1, r6)
 else j21 (r3.1, r4.1, (↑r6.1.length : Int) != (↑r1.1.1.length : Int), r1.1, r2.1, r5.1.1, r6)
noncomputable def sp6 (x : (XI) × Unit) : XB := sh6 100000 x.1
end Go.Proofs.YtdkibgdkmnpncaaDoor
