/- What the functions of the program come to. -/
import Derived.Test.YthoibdbhmacliaaDoorLibH
import Derived.Test.YthoibdbhmacliaaDoorProg
import Derived.KernelRfl
open Go Go.Proofs Go.Abs
set_option linter.unusedVariables false
set_option maxRecDepth 100000
namespace Go.Proofs.YthoibdbhmacliaaDoor
def G : List (Nat × TD) := [(2, .int .i64), (3, .int .i64), (4, .bool), (5, .int .u8), (9, .str), (20, .nl .nilI), (21, .int .i32), (23, .struct (.cons .str (.cons (.int .i64) (.cons .str (.cons (.int .i64) .nil)))) [(0, false, 1), (1, false, 1), (2, false, 1), (3, false, 1)] true), (25, .int .i64), (31, .slice (.cons (.int .i64) .nil) 8), (32, .nl .nilP), (35, .slice (.cons (.int .u8) .nil) 1), (37, .slice (.cons .str .nil) 16), (41, .struct (.cons .str (.cons (.int .i64) (.cons .str (.cons (.int .i64) (.cons .str (.cons .str .nil)))))) [(0, true, 4), (4, false, 1), (5, false, 1)] true), (56, .struct (.cons (.sl (.cons (.int .i64) .nil)) (.cons (.int .i64) .nil)) [(0, false, 1), (1, false, 1)] false), (60, .nl .nilF), (65, .nl .nilI), (72, .int .u64), (76, .nl .nilP), (81, .int .i64), (84, .nl .nilP), (88, .int .u32), (91, .int .u64), (94, .nl .nilP), (101, .arr 24 (.cons (.int .u8) .nil)), (110, .nl .nilP), (112, .struct (.cons .str .nil) [(0, false, 1)] true), (114, .arr 20 (.cons (.int .u64) .nil)), (115, .arr 65 (.cons (.int .u8) .nil)), (118, .arr 32 (.cons (.int .u8) .nil)), (119, .arr 64 (.cons (.int .u8) .nil))]
def lit0 : List UInt8 := [48, 49, 50, 51, 52, 53, 54, 55, 56, 57, 97, 98, 99, 100, 101, 102, 103, 104, 105, 106, 107, 108, 109, 110, 111, 112, 113, 114, 115, 116, 117, 118, 119, 120, 121, 122]
def lit1 : List UInt8 := [48, 48, 48, 49, 48, 50, 48, 51, 48, 52, 48, 53, 48, 54, 48, 55, 48, 56, 48, 57, 49, 48, 49, 49, 49, 50, 49, 51, 49, 52, 49, 53, 49, 54, 49, 55, 49, 56, 49, 57, 50, 48, 50, 49, 50, 50, 50, 51, 50, 52, 50, 53, 50, 54, 50, 55, 50, 56, 50, 57, 51, 48, 51, 49, 51, 50, 51, 51, 51, 52, 51, 53, 51, 54, 51, 55, 51, 56, 51, 57, 52, 48, 52, 49, 52, 50, 52, 51, 52, 52, 52, 53, 52, 54, 52, 55, 52, 56, 52, 57, 53, 48, 53, 49, 53, 50, 53, 51, 53, 52, 53, 53, 53, 54, 53, 55, 53, 56, 53, 57, 54, 48, 54, 49, 54, 50, 54, 51, 54, 52, 54, 53, 54, 54, 54, 55, 54, 56, 54, 57, 55, 48, 55, 49, 55, 50, 55, 51, 55, 52, 55, 53, 55, 54, 55, 55, 55, 56, 55, 57, 56, 48, 56, 49, 56, 50, 56, 51, 56, 52, 56, 53, 56, 54, 56, 55, 56, 56, 56, 57, 57, 48, 57, 49, 57, 50, 57, 51, 57, 52, 57, 53, 57, 54, 57, 55, 57, 56, 57, 57]
def lit2 : List UInt8 := [0, 1, 2, 2, 3, 3, 3, 3, 4, 4, 4, 4, 4, 4, 4, 4, 5, 5, 5, 5, 5, 5, 5, 5, 5, 5, 5, 5, 5, 5, 5, 5, 6, 6, 6, 6, 6, 6, 6, 6, 6, 6, 6, 6, 6, 6, 6, 6, 6, 6, 6, 6, 6, 6, 6, 6, 6, 6, 6, 6, 6, 6, 6, 6, 7, 7, 7, 7, 7, 7, 7, 7, 7, 7, 7, 7, 7, 7, 7, 7, 7, 7, 7, 7, 7, 7, 7, 7, 7, 7, 7, 7, 7, 7, 7, 7, 7, 7, 7, 7, 7, 7, 7, 7, 7, 7, 7, 7, 7, 7, 7, 7, 7, 7, 7, 7, 7, 7, 7, 7, 7, 7, 7, 7, 7, 7, 7, 7, 8, 8, 8, 8, 8, 8, 8, 8, 8, 8, 8, 8, 8, 8, 8, 8, 8, 8, 8, 8, 8, 8, 8, 8, 8, 8, 8, 8, 8, 8, 8, 8, 8, 8, 8, 8, 8, 8, 8, 8, 8, 8, 8, 8, 8, 8, 8, 8, 8, 8, 8, 8, 8, 8, 8, 8, 8, 8, 8, 8, 8, 8, 8, 8, 8, 8, 8, 8, 8, 8, 8, 8, 8, 8, 8, 8, 8, 8, 8, 8, 8, 8, 8, 8, 8, 8, 8, 8, 8, 8, 8, 8, 8, 8, 8, 8, 8, 8, 8, 8, 8, 8, 8, 8, 8, 8, 8, 8, 8, 8, 8, 8, 8, 8, 8, 8, 8, 8, 8, 8, 8, 8, 8, 8, 8, 8, 8, 8]
def lit3 : List UInt8 := [9, 9, 9, 9, 9, 9, 9, 9, 9, 9, 9, 9, 9, 9, 9, 9, 9, 9, 9, 9, 9, 9, 9, 9, 9, 9, 9, 9, 9, 9, 9, 9, 9, 9, 9, 9, 9, 9, 9, 9, 9, 9, 9, 9, 9, 9, 9, 9, 9, 9, 9, 9, 9, 9, 9, 9, 9, 9, 9, 9, 9, 9, 9, 9]
def lit4 : List UInt8 := [61, 61, 61, 61, 61, 61, 61, 61, 61, 61, 61, 61, 61, 61, 61, 61, 61, 61, 61, 61, 61, 61, 61, 61, 61, 61, 61, 61, 61, 61, 61, 61, 61, 61, 61, 61, 61, 61, 61, 61, 61, 61, 61, 61, 61, 61, 61, 61, 61, 61, 61, 61, 61, 61, 61, 61, 61, 61, 61, 61, 61, 61, 61, 61, 61, 61, 61, 61, 61, 61, 61, 61, 61, 61, 61, 61, 61, 61, 61, 61, 61, 61, 61, 61, 61, 61, 61, 61, 61, 61, 61, 61, 61, 61, 61, 61, 61, 61, 61, 61, 61, 61, 61, 61, 61, 61, 61, 61, 61, 61, 61, 61, 61, 61, 61, 61, 61, 61, 61, 61, 61, 61, 61, 61, 61, 61, 61, 61]
def lit5 : List UInt8 := [48, 48, 48, 48, 48, 48, 48, 48, 48, 48, 48, 48, 48, 48, 48, 48, 48, 48, 48, 48, 48, 48, 48, 48, 48, 48, 48, 48, 48, 48, 48, 48, 48, 48, 48, 48, 48, 48, 48, 48, 48, 48, 48, 48, 48, 48, 48, 48, 48, 48, 48, 48, 48, 48, 48, 48, 48, 48, 48, 48, 48, 48, 48, 48]
def lit6 : List UInt8 := [45, 45, 45, 45, 45, 45, 45, 45, 45, 45, 45, 45, 45, 45, 45, 45, 45, 45, 45, 45, 45, 45, 45, 45, 45, 45, 45, 45, 45, 45, 45, 45, 45, 45, 45, 45, 45, 45, 45, 45, 45, 45, 45, 45, 45, 45, 45, 45, 45, 45, 45, 45, 45, 45, 45, 45, 45, 45, 45, 45, 45, 45, 45, 45, 45, 45, 45, 45, 45, 45, 45, 45, 45, 45, 45, 45, 45, 45, 45, 45, 45, 45, 45, 45, 45, 45, 45, 45, 45, 45, 45, 45, 45, 45, 45, 45, 45, 45, 45, 45, 45, 45, 45, 45, 45, 45, 45, 45, 45, 45, 45, 45, 45, 45, 45, 45, 45, 45, 45, 45, 45, 45, 45, 45, 45, 45, 45, 45]
def lit7 : List UInt8 := [32, 32, 32, 32, 32, 32, 32, 32, 32, 32, 32, 32, 32, 32, 32, 32, 32, 32, 32, 32, 32, 32, 32, 32, 32, 32, 32, 32, 32, 32, 32, 32, 32, 32, 32, 32, 32, 32, 32, 32, 32, 32, 32, 32, 32, 32, 32, 32, 32, 32, 32, 32, 32, 32, 32, 32, 32, 32, 32, 32, 32, 32, 32, 32, 32, 32, 32, 32, 32, 32, 32, 32, 32, 32, 32, 32, 32, 32, 32, 32, 32, 32, 32, 32, 32, 32, 32, 32, 32, 32, 32, 32, 32, 32, 32, 32, 32, 32, 32, 32, 32, 32, 32, 32, 32, 32, 32, 32, 32, 32, 32, 32, 32, 32, 32, 32, 32, 32, 32, 32, 32, 32, 32, 32, 32, 32, 32, 32]
noncomputable def c46 : Code := Tryd.f46.body.getD .skip
/-! 47 baggage/fields.Digit -/
noncomputable def c47 : Code := Tryd.f47.body.getD .skip
def g47 : Sig := ⟨[.v (.ty (.int .u8))], .v (.ty .bool)⟩
def h47 : HT := (.n (.r .x) (.j ⟨[(2, .d (.ty .bool))], [], []⟩ (.r .x) .e))
noncomputable def FT47 : List (Nat × Entry) := []
noncomputable def IT47 : List (Nat × Inl) := []
def MT47 : MTab := []
noncomputable def sh47_K0 (z0 : Bool × Unit) : Option (Bool × Unit) :=
 some (z0.1, ())
noncomputable def sh47 (fuel : Nat) (x0 : Int) : Option (Bool × Unit) :=
 joinK sh47_K0 fun (j1 : Bool × Unit → Option (Bool × Unit)) => if decide (48 ≤ x0) = true then j1 (decide (x0 ≤ 57), ()) else j1 (false, ())
noncomputable def sp47 (x : (Int) × Unit) : Option (Bool × Unit) := sh47 0 x.1
/-! 84 internal/strconv.lower -/
noncomputable def c84 : Code := Tryd.f84.body.getD .skip
def g84 : Sig := ⟨[.v (.ty (.int .u8))], .v (.ty (.int .u8))⟩
def h84 : HT := (.n (.r .x) (.n (.r .x) .e))
noncomputable def FT84 : List (Nat × Entry) := []
noncomputable def IT84 : List (Nat × Inl) := []
def MT84 : MTab := []
noncomputable def sh84 (fuel : Nat) (x0 : Int) : Option (Int × Unit) :=
 some (IntKind.u8.wrap (↑(BitVec.ofInt IntKind.u8.bits x0 ||| BitVec.ofInt IntKind.u8.bits 32).toNat : Int), ())
noncomputable def sp84 (x : (Int) × Unit) : Option (Int × Unit) := sh84 0 x.1
def g85 : Sig := ⟨[.v (.ty .str)], .v (.ty .bool)⟩
noncomputable def sp85 (_ : argsT g85.args) : Option g85.R := none
noncomputable def c75 : Code := Tryd.f75.body.getD .skip
noncomputable def c64 : Code := Tryd.f64.body.getD .skip
noncomputable def c55 : Code := Tryd.f55.body.getD .skip
noncomputable def c65 : Code := Tryd.f65.body.getD .skip
noncomputable def c66 : Code := Tryd.f66.body.getD .skip
/-! 78 internal/strconv.small -/
noncomputable def c78 : Code := Tryd.f78.body.getD .skip
def g78 : Sig := ⟨[.v (.ty (.int .i64))], .v (.ty .str)⟩
def h78 : HT := (.n (.r .x) (.n (.n (.r .x) (.n (.n (.r .x) .e) .e)) (.n (.r .x) .e)))
noncomputable def FT78 : List (Nat × Entry) := []
noncomputable def IT78 : List (Nat × Inl) := []
def MT78 : MTab := []
noncomputable def sh78 (fuel : Nat) (x0 : Int) : Option (List UInt8 × Unit) :=
 if decide (x0 < 10) = true then
 if
 inCut x0 (IntKind.i64.wrap (x0 + 1))
 lit0.length =
 true then
 some
 (cutL
 lit0
 x0 (IntKind.i64.wrap (x0 + 1)),
 ())
 else none
 else
 if
 inCut (IntKind.i64.wrap (x0 * 2)) (IntKind.i64.wrap (IntKind.i64.wrap (x0 * 2) + 2))
 lit1.length =
 true then
 some
 (cutL
 lit1
 (IntKind.i64.wrap (x0 * 2)) (IntKind.i64.wrap (IntKind.i64.wrap (x0 * 2) + 2)),
 ())
 else none
noncomputable def sp78 (x : (Int) × Unit) : Option (List UInt8 × Unit) := sh78 0 x.1
/-! 87 math/bits.Len64 -/
noncomputable def c87 : Code := Tryd.f87.body.getD .skip
def g87 : Sig := ⟨[.v (.ty (.int .u64))], .v (.ty (.int .i64))⟩
def h87 : HT := (.n (.r .x) (.j ⟨[(0, .d (.ty (.int .u64))), (2, .d (.ty (.int .i64)))], [], []⟩ (.n (.r .x) (.n (.n (.r .x) (.r .x)) .e)) (.j ⟨[(0, .d (.ty (.int .u64))), (2, .d (.ty (.int .i64)))], [], []⟩ (.n (.r .x) (.n (.n (.r .x) (.r .x)) .e)) (.j ⟨[(0, .d (.ty (.int .u64))), (2, .d (.ty (.int .i64)))], [], []⟩ (.n (.r .x) (.n (.n (.r .x) (.r .x)) .e)) (.n (.r .x) .e)))))
noncomputable def FT87 : List (Nat × Entry) := []
noncomputable def IT87 : List (Nat × Inl) := []
def MT87 : MTab := []
noncomputable def sh87_K2 (z2 : Int × Int × Unit) : Option (Int × Unit) :=
 if
 inR (IntKind.u8.wrap z2.1)
 lit2.length =
 true then
 some
 (IntKind.i64.wrap
 (z2.2.1 +
 IntKind.i64.wrap
 (sAt
 lit2
 (IntKind.u8.wrap z2.1))),
 ())
 else none
noncomputable def sh87_K1 (z1 : Int × Int × Unit) : Option (Int × Unit) :=
 joinK sh87_K2 fun (j3 : Int × Int × Unit → Option (Int × Unit)) =>
 if decide (256 ≤ z1.1) = true then
 if decide (0 ≤ 8) = true then j3 (z1.1.fdiv (2 ^ min (Int.toNat 8) IntKind.u64.bits), IntKind.i64.wrap (z1.2.1 + 8), ()) else none
 else j3 (z1.1, z1.2.1, ())
noncomputable def sh87_K0 (z0 : Int × Int × Unit) : Option (Int × Unit) :=
 joinK sh87_K1 fun (j4 : Int × Int × Unit → Option (Int × Unit)) =>
 if decide (65536 ≤ z0.1) = true then
 if decide (0 ≤ 16) = true then j4 (z0.1.fdiv (2 ^ min (Int.toNat 16) IntKind.u64.bits), IntKind.i64.wrap (z0.2.1 + 16), ()) else none
 else j4 (z0.1, z0.2.1, ())
noncomputable def sh87 (fuel : Nat) (x0 : Int) : Option (Int × Unit) :=
 joinK sh87_K0 fun (j5 : Int × Int × Unit → Option (Int × Unit)) =>
 if decide (4294967296 ≤ x0) = true then if decide (0 ≤ 32) = true then j5 (x0.fdiv (2 ^ min (Int.toNat 32) IntKind.u64.bits), 32, ()) else none
 else j5 (x0, 0, ())
noncomputable def sp87 (x : (Int) × Unit) : Option (Int × Unit) := sh87 0 x.1
/-! 86 internal/strconv.log10Pow2 -/
noncomputable def c86 : Code := Tryd.f86.body.getD .skip
def g86 : Sig := ⟨[.v (.ty (.int .i64))], .v (.ty (.int .i64))⟩
def h86 : HT := (.n (.r .x) (.n (.r .x) .e))
noncomputable def FT86 : List (Nat × Entry) := []
noncomputable def IT86 : List (Nat × Inl) := []
def MT86 : MTab := []
noncomputable def sh86 (fuel : Nat) (x0 : Int) : Option (Int × Unit) :=
 if decide (0 ≤ 18) = true then some ((IntKind.i64.wrap (x0 * 78913)).fdiv (2 ^ min (Int.toNat 18) IntKind.i64.bits), ()) else none
noncomputable def sp86 (x : (Int) × Unit) : Option (Int × Unit) := sh86 0 x.1
/-! 88 internal/strconv.bool2[int] -/
noncomputable def c88 : Code := Tryd.f88.body.getD .skip
def g88 : Sig := ⟨[.v (.ty .bool)], .v (.ty (.int .i64))⟩
def h88 : HT := (.n (.r .x) (.n (.n (.r .x) (.n (.n (.r .x) .e) .e)) (.n (.r .x) .e)))
noncomputable def FT88 : List (Nat × Entry) := []
noncomputable def IT88 : List (Nat × Inl) := []
def MT88 : MTab := []
noncomputable def sh88 (fuel : Nat) (x0 : Bool) : Option (Int × Unit) :=
 if x0 = true then some (1, ()) else some (0, ())
noncomputable def sp88 (x : (Bool) × Unit) : Option (Int × Unit) := sh88 0 x.1
/-! 79 internal/strconv.numDigits -/
noncomputable def c79 : Code := Tryd.f79.body.getD .skip
def g79 : Sig := ⟨[.v (.ty (.int .u64))], .v (.ty (.int .i64))⟩
def h79 : HT := (.n (.r .x) (.n (.r .x) (.n (.r .x) .e)))
noncomputable def FT79 : List (Nat × Entry) := [(87, ⟨g87, sp87⟩), (86, ⟨g86, sp86⟩), (88, ⟨g88, sp88⟩)]
noncomputable def IT79 : List (Nat × Inl) := []
def MT79 : MTab := []
noncomputable def sh79 (fuel : Nat) (x0 : Int) : Option (Int × Unit) :=
 (sp87 (x0, ())).bind fun (r0 : Int × Unit) =>
 (sp86 (r0.1, ())).bind fun (r1 : Int × Unit) =>
 if inR r1.1 20 = true then
 if
 inR r1.1
 [(1, ()), (10, ()), (100, ()), (1000, ()), (10000, ()), (100000, ()), (1000000, ()), (10000000, ()), (100000000, ()), (1000000000, ()),
 (10000000000, ()), (100000000000, ()), (1000000000000, ()), (10000000000000, ()), (100000000000000, ()), (1000000000000000, ()),
 (10000000000000000, ()), (100000000000000000, ()), (1000000000000000000, ()), (10000000000000000000, ())].length =
 true then
 (sp88
 (decide
 ((lAt (0, ())
 [(1, ()), (10, ()), (100, ()), (1000, ()), (10000, ()), (100000, ()), (1000000, ()), (10000000, ()), (100000000, ()),
 (1000000000, ()), (10000000000, ()), (100000000000, ()), (1000000000000, ()), (10000000000000, ()), (100000000000000, ()),
 (1000000000000000, ()), (10000000000000000, ()), (100000000000000000, ()), (1000000000000000000, ()),
 (10000000000000000000, ())]
 r1.1).1 ≤
 x0),
 ())).bind
 fun (r2 : Int × Unit) => some (IntKind.i64.wrap (r1.1 + r2.1), ())
 else none
 else none
noncomputable def sp79 (x : (Int) × Unit) : Option (Int × Unit) := sh79 0 x.1
noncomputable def c80 : Code := Tryd.f80.body.getD .skip
def g81 : Sig := ⟨[.v (.ty (.sl (.cons (.int .u8) .nil))), .v (.ty (.int .u64)), .v (.ty (.int .i64)), .v (.ty .bool), .v (.ty .bool)], .tup [(.ty (.sl (.cons (.int .u8) .nil))), (.ty .str)]⟩
noncomputable def sp81 (_ : argsT g81.args) : Option g81.R := none
/-! 69 internal/strconv.FormatInt -/
noncomputable def c69 : Code := Tryd.f69.body.getD .skip
def g69 : Sig := ⟨[.v (.ty (.int .i64)), .v (.ty (.int .i64))], .v (.ty .str)⟩
def h69 : HT := (.n (.r .x) (.n (.n (.r .x) (.n (.n (.j ⟨[(0, .d (.ty (.int .i64))), (17, .d (.ty .bool))], [], []⟩ (.r .x) (.n (.n (.r .x) .e) .e)) (.n (.r .x) (.n (.r .x) (.j ⟨[(0, .d (.ty (.int .i64))), (5, .ref 500000 1), (6, .d (.ty (.int .u64)))], [(500000, .arr (.cons (.int .u8) .nil))], []⟩ (.n (.r .x) (.n (.r .x) .e)) (.n (.r .x) (.j ⟨[(0, .d (.ty (.int .i64))), (5, .ref 500006 1), (7, .d (.ty (.int .i64)))], [(500006, .arr (.cons (.int .u8) .nil))], []⟩ (.ri .x [(32, 0, (.n (.r .x) (.j ⟨[(0, .d (.ty (.int .i64))), (5, .ref 500003 1), (7, .d (.ty (.int .i64))), (54, .msl 500003 1), (55, .d (.ty (.int .u64))), (58, .d (.ty (.int .i64)))], [(500003, .arr (.cons (.int .u8) .nil))], []⟩ (.u (.l ⟨[(0, .d (.ty (.int .i64))), (5, .ref 500001 1), (7, .d (.ty (.int .i64))), (54, .msl 500001 1), (55, .d (.ty (.int .u64))), (58, .d (.ty (.int .i64)))], [(500001, .arr (.cons (.int .u8) .nil))], []⟩ (.n (.n (.r .x) (.n .e .e)) (.u (.n (.r .x) (.n (.r .x) (.n (.r .x) (.n (.r .x) (.n (.r .x) (.n (.r (.w 13 [(1, 0), (1, 1), (1, 2), (1, 3), (1, 4), (1, 5), (1, 6), (1, 7), (0, 8), (1, 9), (0, 10), (0, 11), (2, 12)])) (.n (.r (.w 13 [(1, 0), (1, 1), (1, 2), (1, 3), (1, 4), (1, 5), (1, 6), (1, 7), (0, 8), (1, 9), (0, 10), (0, 11), (2, 12)])) (.n (.r (.w 13 [(1, 0), (1, 1), (1, 2), (1, 3), (1, 4), (1, 5), (1, 6), (1, 7), (0, 8), (1, 9), (0, 10), (0, 11), (2, 12)])) (.n (.r (.w 13 [(1, 0), (1, 1), (1, 2), (1, 3), (1, 4), (1, 5), (1, 6), (1, 7), (0, 8), (1, 9), (0, 10), (0, 11), (2, 12)])) (.r .x)))))))))))))) (.n (.r .x) (.j ⟨[(0, .d (.ty (.int .i64))), (5, .ref 500004 1), (7, .d (.ty (.int .i64))), (54, .msl 500004 1), (58, .d (.ty (.int .i64))), (66, .d (.ty (.int .u32)))], [(500004, .arr (.cons (.int .u8) .nil))], []⟩ (.n (.r .x) (.n (.n (.r .x) (.n (.r .x) (.n (.r .x) (.n (.r (.w 13 [(1, 0), (1, 1), (1, 2), (1, 3), (1, 4), (1, 5), (1, 6), (1, 7), (0, 8), (1, 9), (0, 10), (0, 11), (2, 12)])) (.n (.r (.w 13 [(1, 0), (1, 1), (1, 2), (1, 3), (1, 4), (1, 5), (1, 6), (1, 7), (0, 8), (1, 9), (0, 10), (0, 11), (2, 12)])) (.r .x)))))) .e)) (.j ⟨[(0, .d (.ty (.int .i64))), (5, .ref 500005 1), (7, .d (.ty (.int .i64))), (54, .msl 500005 1), (58, .d (.ty (.int .i64))), (66, .d (.ty (.int .u32)))], [(500005, .arr (.cons (.int .u8) .nil))], []⟩ (.n (.r .x) (.n (.n (.r .x) (.n (.r .x) (.n (.r (.w 13 [(1, 0), (1, 1), (1, 2), (1, 3), (1, 4), (1, 5), (1, 6), (1, 7), (0, 8), (1, 9), (0, 10), (0, 11), (2, 12)])) (.r .x)))) .e)) (.n (.r .x) (.n (.r .x) .e))))))))]) (.n (.n (.r .x) (.n (.n (.r .x) (.n (.r .x) .e)) .e)) (.n (.r .x) .e)))))))) .e)) (.n (.r .x) (.n (.r .x) .e))))
noncomputable def FT69 : List (Nat × Entry) := [(78, ⟨g78, sp78⟩), (79, ⟨g79, sp79⟩), (81, ⟨g81, sp81⟩)]
noncomputable def IT69 : List (Nat × Inl) := [(80, ⟨167, [], c80⟩)]
def MT69 : MTab := []
noncomputable def sh69_K4 (z4 : Int × Int × List (Int × Unit) × Unit) : Option (List UInt8 × Unit) :=
 if decide (z4.1 < 0) = true then
 if inR 0 24 = true then
 if decide (Int.toNat 0 + 1 ≤ z4.2.2.1.length) = true then
 if decide ((z4.2.2.1.set (Int.toNat 0) (45, ())).length = 24) = true then
 if inCut 0 (IntKind.i64.wrap (1 + z4.2.1)) 24 = true then
 if decide (Int.toNat 0 + ((IntKind.i64.wrap (1 + z4.2.1)).toNat - Int.toNat 0) ≤ (z4.2.2.1.set (Int.toNat 0) (45, ())).length) = true then
 some
 (toBytes
 (List.take ((IntKind.i64.wrap (1 + z4.2.1)).toNat - Int.toNat 0) (List.drop (Int.toNat 0) (z4.2.2.1.set (Int.toNat 0) (45, ())))),
 ())
 else none
 else none
 else none
 else none
 else none
 else
 if decide (z4.2.2.1.length = 24) = true then
 if inCut 1 (IntKind.i64.wrap (1 + z4.2.1)) 24 = true then
 if decide (Int.toNat 1 + ((IntKind.i64.wrap (1 + z4.2.1)).toNat - Int.toNat 1) ≤ z4.2.2.1.length) = true then
 some (toBytes (List.take ((IntKind.i64.wrap (1 + z4.2.1)).toNat - Int.toNat 1) (List.drop (Int.toNat 1) z4.2.2.1)), ())
 else none
 else none
 else none
noncomputable def sh69_K8 (j5 : Int × Int × List (Int × Unit) × Unit → Option (List UInt8 × Unit)) (z8 : Int × Int × (Nat × Nat) × Int × Int × List (Int × Unit) × Unit) : Option (List UInt8 × Unit) :=
 if decide (0 < z8.2.2.2.1) = true then
 if inR 0 z8.2.2.1.2 = true then
 if decide (z8.2.2.1.1 + Int.toNat 0 + 1 ≤ z8.2.2.2.2.2.1.length) = true then
 j5 (z8.1, z8.2.1, z8.2.2.2.2.2.1.set (z8.2.2.1.1 + Int.toNat 0) (IntKind.u8.wrap (IntKind.u32.wrap (48 + z8.2.2.2.2.1)), ()), ())
 else none
 else none
 else j5 (z8.1, z8.2.1, z8.2.2.2.2.2.1, ())
noncomputable def sh69_K7 (j5 : Int × Int × List (Int × Unit) × Unit → Option (List UInt8 × Unit)) (z7 : Int × Int × (Nat × Nat) × Int × Int × List (Int × Unit) × Unit) : Option (List UInt8 × Unit) :=
 joinK (sh69_K8 j5) fun (j9 : Int × Int × (Nat × Nat) × Int × Int × List (Int × Unit) × Unit → Option (List UInt8 × Unit)) =>
 if decide (2 ≤ z7.2.2.2.1) = true then
 if (100 != 0) = true then
 if (100 != 0) = true then
 if
 inR (IntKind.u32.wrap (IntKind.u32.wrap (z7.2.2.2.2.1.tmod 100 * 2) + 1))
 lit1.length =
 true then
 if
 inR (IntKind.u32.wrap (z7.2.2.2.2.1.tmod 100 * 2))
 lit1.length =
 true then
 if inR (IntKind.i64.wrap (z7.2.2.2.1 - 1)) z7.2.2.1.2 = true then
 if decide (z7.2.2.1.1 + (IntKind.i64.wrap (z7.2.2.2.1 - 1)).toNat + 1 ≤ z7.2.2.2.2.2.1.length) = true then
 if inR (IntKind.i64.wrap (z7.2.2.2.1 - 2)) z7.2.2.1.2 = true then
 if
 decide
 (z7.2.2.1.1 + (IntKind.i64.wrap (z7.2.2.2.1 - 2)).toNat + 1 ≤
 (z7.2.2.2.2.2.1.set (z7.2.2.1.1 + (IntKind.i64.wrap (z7.2.2.2.1 - 1)).toNat)
 (sAt
 lit1
 (IntKind.u32.wrap (IntKind.u32.wrap (z7.2.2.2.2.1.tmod 100 * 2) + 1)),
 ())).length) =
 true then
 j9
 (z7.1, z7.2.1, (z7.2.2.1.1, z7.2.2.1.2), IntKind.i64.wrap (z7.2.2.2.1 - 2), IntKind.u32.wrap (z7.2.2.2.2.1.tdiv 100),
 (z7.2.2.2.2.2.1.set (z7.2.2.1.1 + (IntKind.i64.wrap (z7.2.2.2.1 - 1)).toNat)
 (sAt
 lit1
 (IntKind.u32.wrap (IntKind.u32.wrap (z7.2.2.2.2.1.tmod 100 * 2) + 1)),
 ())).set
 (z7.2.2.1.1 + (IntKind.i64.wrap (z7.2.2.2.1 - 2)).toNat)
 (sAt
 lit1
 (IntKind.u32.wrap (z7.2.2.2.2.1.tmod 100 * 2)),
 ()),
 ())
 else none
 else none
 else none
 else none
 else none
 else none
 else none
 else none
 else j9 (z7.1, z7.2.1, (z7.2.2.1.1, z7.2.2.1.2), z7.2.2.2.1, z7.2.2.2.2.1, z7.2.2.2.2.2.1, ())
noncomputable def sh69_K6 (j5 : Int × Int × List (Int × Unit) × Unit → Option (List UInt8 × Unit)) (z6 : Int × Int × (Nat × Nat) × Int × Int × List (Int × Unit) × Unit) : Option (List UInt8 × Unit) :=
 joinK (sh69_K7 j5) fun (j10 : Int × Int × (Nat × Nat) × Int × Int × List (Int × Unit) × Unit → Option (List UInt8 × Unit)) =>
 if decide (4 ≤ z6.2.2.2.2.1) = true then
 if (10000 != 0) = true then
 if (10000 != 0) = true then
 if (100 != 0) = true then
 if (100 != 0) = true then
 if
 inR (IntKind.u32.wrap (IntKind.u32.wrap (((IntKind.u32.wrap z6.2.2.2.1).tmod 10000).tmod 100 * 2) + 1))
 lit1.length =
 true then
 if
 inR (IntKind.u32.wrap (((IntKind.u32.wrap z6.2.2.2.1).tmod 10000).tmod 100 * 2))
 lit1.length =
 true then
 if inR (IntKind.i64.wrap (z6.2.2.2.2.1 - 1)) z6.2.2.1.2 = true then
 if decide (z6.2.2.1.1 + (IntKind.i64.wrap (z6.2.2.2.2.1 - 1)).toNat + 1 ≤ z6.2.2.2.2.2.1.length) = true then
 if inR (IntKind.i64.wrap (z6.2.2.2.2.1 - 2)) z6.2.2.1.2 = true then
 if
 decide
 (z6.2.2.1.1 + (IntKind.i64.wrap (z6.2.2.2.2.1 - 2)).toNat + 1 ≤
 (z6.2.2.2.2.2.1.set (z6.2.2.1.1 + (IntKind.i64.wrap (z6.2.2.2.2.1 - 1)).toNat)
 (sAt
 lit1
 (IntKind.u32.wrap (IntKind.u32.wrap (((IntKind.u32.wrap z6.2.2.2.1).tmod 10000).tmod 100 * 2) + 1)),
 ())).length) =
 true then
 if
 inR (IntKind.u32.wrap (IntKind.u32.wrap (IntKind.u32.wrap (((IntKind.u32.wrap z6.2.2.2.1).tmod 10000).tdiv 100) * 2) + 1))
 lit1.length =
 true then
 if
 inR (IntKind.u32.wrap (IntKind.u32.wrap (((IntKind.u32.wrap z6.2.2.2.1).tmod 10000).tdiv 100) * 2))
 lit1.length =
 true then
 if inR (IntKind.i64.wrap (z6.2.2.2.2.1 - 3)) z6.2.2.1.2 = true then
 if
 decide
 (z6.2.2.1.1 + (IntKind.i64.wrap (z6.2.2.2.2.1 - 3)).toNat + 1 ≤
 ((z6.2.2.2.2.2.1.set (z6.2.2.1.1 + (IntKind.i64.wrap (z6.2.2.2.2.1 - 1)).toNat)
 (sAt
 lit1
 (IntKind.u32.wrap
 (IntKind.u32.wrap (((IntKind.u32.wrap z6.2.2.2.1).tmod 10000).tmod 100 * 2) + 1)),
 ())).set
 (z6.2.2.1.1 + (IntKind.i64.wrap (z6.2.2.2.2.1 - 2)).toNat)
 (sAt
 lit1
 (IntKind.u32.wrap (((IntKind.u32.wrap z6.2.2.2.1).tmod 10000).tmod 100 * 2)),
 ())).length) =
 true then
 if inR (IntKind.i64.wrap (z6.2.2.2.2.1 - 4)) z6.2.2.1.2 = true then
 if
 decide
 (z6.2.2.1.1 + (IntKind.i64.wrap (z6.2.2.2.2.1 - 4)).toNat + 1 ≤
 (((z6.2.2.2.2.2.1.set (z6.2.2.1.1 + (IntKind.i64.wrap (z6.2.2.2.2.1 - 1)).toNat)
 (sAt
 lit1
 (IntKind.u32.wrap
 (IntKind.u32.wrap (((IntKind.u32.wrap z6.2.2.2.1).tmod 10000).tmod 100 * 2) + 1)),
 ())).set
 (z6.2.2.1.1 + (IntKind.i64.wrap (z6.2.2.2.2.1 - 2)).toNat)
 (sAt
 lit1
 (IntKind.u32.wrap (((IntKind.u32.wrap z6.2.2.2.1).tmod 10000).tmod 100 * 2)),
 ())).set
 (z6.2.2.1.1 + (IntKind.i64.wrap (z6.2.2.2.2.1 - 3)).toNat)
 (sAt
 lit1
 (IntKind.u32.wrap
 (IntKind.u32.wrap (IntKind.u32.wrap (((IntKind.u32.wrap z6.2.2.2.1).tmod 10000).tdiv 100) * 2) +
 1)),
 ())).length) =
 true then
 j10
 (z6.1, z6.2.1, (z6.2.2.1.1, z6.2.2.1.2), IntKind.i64.wrap (z6.2.2.2.2.1 - 4),
 IntKind.u32.wrap ((IntKind.u32.wrap z6.2.2.2.1).tdiv 10000),
 (((z6.2.2.2.2.2.1.set (z6.2.2.1.1 + (IntKind.i64.wrap (z6.2.2.2.2.1 - 1)).toNat)
 (sAt
 lit1
 (IntKind.u32.wrap
 (IntKind.u32.wrap (((IntKind.u32.wrap z6.2.2.2.1).tmod 10000).tmod 100 * 2) + 1)),
 ())).set
 (z6.2.2.1.1 + (IntKind.i64.wrap (z6.2.2.2.2.1 - 2)).toNat)
 (sAt
 lit1
 (IntKind.u32.wrap (((IntKind.u32.wrap z6.2.2.2.1).tmod 10000).tmod 100 * 2)),
 ())).set
 (z6.2.2.1.1 + (IntKind.i64.wrap (z6.2.2.2.2.1 - 3)).toNat)
 (sAt
 lit1
 (IntKind.u32.wrap
 (IntKind.u32.wrap (IntKind.u32.wrap (((IntKind.u32.wrap z6.2.2.2.1).tmod 10000).tdiv 100) * 2) +
 1)),
 ())).set
 (z6.2.2.1.1 + (IntKind.i64.wrap (z6.2.2.2.2.1 - 4)).toNat)
 (sAt
 lit1
 (IntKind.u32.wrap (IntKind.u32.wrap (((IntKind.u32.wrap z6.2.2.2.1).tmod 10000).tdiv 100) * 2)),
 ()),
 ())
 else none
 else none
 else none
 else none
 else none
 else none
 else none
 else none
 else none
 else none
 else none
 else none
 else none
 else none
 else none
 else none
 else j10 (z6.1, z6.2.1, (z6.2.2.1.1, z6.2.2.1.2), z6.2.2.2.2.1, IntKind.u32.wrap z6.2.2.2.1, z6.2.2.2.2.2.1, ())
noncomputable def sh69_L12 (j11 : Int × Int × (Nat × Nat) × Int × Int × List (Int × Unit) × Unit → Option (List UInt8 × Unit)) (rc12 : Int × Int × (Nat × Nat) × Int × Int × List (Int × Unit) × Unit → Option (List UInt8 × Unit)) (z12 : Int × Int × (Nat × Nat) × Int × Int × List (Int × Unit) × Unit) : Option (List UInt8 × Unit) :=
 if decide (8 ≤ z12.2.2.2.2.1) = true then
 if (100000000 != 0) = true then
 if (100000000 != 0) = true then
 if (10000 != 0) = true then
 if (10000 != 0) = true then
 if (100 != 0) = true then
 if (100 != 0) = true then
 if (100 != 0) = true then
 if (100 != 0) = true then
 if
 inR (IntKind.u32.wrap (IntKind.u32.wrap (((IntKind.u32.wrap (z12.2.2.2.1.tmod 100000000)).tmod 10000).tmod 100 * 2) + 1))
 lit1.length =
 true then
 if
 inR (IntKind.u32.wrap (((IntKind.u32.wrap (z12.2.2.2.1.tmod 100000000)).tmod 10000).tmod 100 * 2))
 lit1.length =
 true then
 if inR (IntKind.i64.wrap (z12.2.2.2.2.1 - 1)) z12.2.2.1.2 = true then
 if decide (z12.2.2.1.1 + (IntKind.i64.wrap (z12.2.2.2.2.1 - 1)).toNat + 1 ≤ z12.2.2.2.2.2.1.length) = true then
 if inR (IntKind.i64.wrap (z12.2.2.2.2.1 - 2)) z12.2.2.1.2 = true then
 if
 decide
 (z12.2.2.1.1 + (IntKind.i64.wrap (z12.2.2.2.2.1 - 2)).toNat + 1 ≤
 (z12.2.2.2.2.2.1.set (z12.2.2.1.1 + (IntKind.i64.wrap (z12.2.2.2.2.1 - 1)).toNat)
 (sAt
 lit1
 (IntKind.u32.wrap
 (IntKind.u32.wrap (((IntKind.u32.wrap (z12.2.2.2.1.tmod 100000000)).tmod 10000).tmod 100 * 2) + 1)),
 ())).length) =
 true then
 if
 inR
 (IntKind.u32.wrap
 (IntKind.u32.wrap
 (IntKind.u32.wrap (((IntKind.u32.wrap (z12.2.2.2.1.tmod 100000000)).tmod 10000).tdiv 100) * 2) +
 1))
 lit1.length =
 true then
 if
 inR
 (IntKind.u32.wrap
 (IntKind.u32.wrap (((IntKind.u32.wrap (z12.2.2.2.1.tmod 100000000)).tmod 10000).tdiv 100) * 2))
 lit1.length =
 true then
 if inR (IntKind.i64.wrap (z12.2.2.2.2.1 - 3)) z12.2.2.1.2 = true then
 if
 decide
 (z12.2.2.1.1 + (IntKind.i64.wrap (z12.2.2.2.2.1 - 3)).toNat + 1 ≤
 ((z12.2.2.2.2.2.1.set (z12.2.2.1.1 + (IntKind.i64.wrap (z12.2.2.2.2.1 - 1)).toNat)
 (sAt
 lit1
 (IntKind.u32.wrap
 (IntKind.u32.wrap
 (((IntKind.u32.wrap (z12.2.2.2.1.tmod 100000000)).tmod 10000).tmod 100 * 2) +
 1)),
 ())).set
 (z12.2.2.1.1 + (IntKind.i64.wrap (z12.2.2.2.2.1 - 2)).toNat)
 (sAt
 lit1
 (IntKind.u32.wrap (((IntKind.u32.wrap (z12.2.2.2.1.tmod 100000000)).tmod 10000).tmod 100 * 2)),
 ())).length) =
 true then
 if inR (IntKind.i64.wrap (z12.2.2.2.2.1 - 4)) z12.2.2.1.2 = true then
 if
 decide
 (z12.2.2.1.1 + (IntKind.i64.wrap (z12.2.2.2.2.1 - 4)).toNat + 1 ≤
 (((z12.2.2.2.2.2.1.set (z12.2.2.1.1 + (IntKind.i64.wrap (z12.2.2.2.2.1 - 1)).toNat)
 (sAt
 lit1
 (IntKind.u32.wrap
 (IntKind.u32.wrap
 (((IntKind.u32.wrap (z12.2.2.2.1.tmod 100000000)).tmod 10000).tmod 100 * 2) +
 1)),
 ())).set
 (z12.2.2.1.1 + (IntKind.i64.wrap (z12.2.2.2.2.1 - 2)).toNat)
 (sAt
 lit1
 (IntKind.u32.wrap
 (((IntKind.u32.wrap (z12.2.2.2.1.tmod 100000000)).tmod 10000).tmod 100 * 2)),
 ())).set
 (z12.2.2.1.1 + (IntKind.i64.wrap (z12.2.2.2.2.1 - 3)).toNat)
 (sAt
 lit1
 (IntKind.u32.wrap
 (IntKind.u32.wrap
 (IntKind.u32.wrap
 (((IntKind.u32.wrap (z12.2.2.2.1.tmod 100000000)).tmod 10000).tdiv 100) *
 2) +
 1)),
 ())).length) =
 true then
 if
 inR
 (IntKind.u32.wrap
 (IntKind.u32.wrap
 ((IntKind.u32.wrap ((IntKind.u32.wrap (z12.2.2.2.1.tmod 100000000)).tdiv 10000)).tmod 100 *
 2) +
 1))
 lit1.length =
 true then
 if
 inR
 (IntKind.u32.wrap
 ((IntKind.u32.wrap ((IntKind.u32.wrap (z12.2.2.2.1.tmod 100000000)).tdiv 10000)).tmod 100 * 2))
 lit1.length =
 true then
 if inR (IntKind.i64.wrap (z12.2.2.2.2.1 - 5)) z12.2.2.1.2 = true then
 if
 decide
 (z12.2.2.1.1 + (IntKind.i64.wrap (z12.2.2.2.2.1 - 5)).toNat + 1 ≤
 ((((z12.2.2.2.2.2.1.set (z12.2.2.1.1 + (IntKind.i64.wrap (z12.2.2.2.2.1 - 1)).toNat)
 (sAt
 lit1
 (IntKind.u32.wrap
 (IntKind.u32.wrap
 (((IntKind.u32.wrap (z12.2.2.2.1.tmod 100000000)).tmod 10000).tmod
 100 *
 2) +
 1)),
 ())).set
 (z12.2.2.1.1 + (IntKind.i64.wrap (z12.2.2.2.2.1 - 2)).toNat)
 (sAt
 lit1
 (IntKind.u32.wrap
 (((IntKind.u32.wrap (z12.2.2.2.1.tmod 100000000)).tmod 10000).tmod 100 *
 2)),
 ())).set
 (z12.2.2.1.1 + (IntKind.i64.wrap (z12.2.2.2.2.1 - 3)).toNat)
 (sAt
 lit1
 (IntKind.u32.wrap
 (IntKind.u32.wrap
 (IntKind.u32.wrap
 (((IntKind.u32.wrap (z12.2.2.2.1.tmod 100000000)).tmod 10000).tdiv
 100) *
 2) +
 1)),
 ())).set
 (z12.2.2.1.1 + (IntKind.i64.wrap (z12.2.2.2.2.1 - 4)).toNat)
 (sAt
 lit1
 (IntKind.u32.wrap
 (IntKind.u32.wrap
 (((IntKind.u32.wrap (z12.2.2.2.1.tmod 100000000)).tmod 10000).tdiv 100) *
 2)),
 ())).length) =
 true then
 if inR (IntKind.i64.wrap (z12.2.2.2.2.1 - 6)) z12.2.2.1.2 = true then
 if
 decide
 (z12.2.2.1.1 + (IntKind.i64.wrap (z12.2.2.2.2.1 - 6)).toNat + 1 ≤
 (((((z12.2.2.2.2.2.1.set (z12.2.2.1.1 + (IntKind.i64.wrap (z12.2.2.2.2.1 - 1)).toNat)
 (sAt
 lit1
 (IntKind.u32.wrap
 (IntKind.u32.wrap
 (((IntKind.u32.wrap (z12.2.2.2.1.tmod 100000000)).tmod
 10000).tmod
 100 *
 2) +
 1)),
 ())).set
 (z12.2.2.1.1 + (IntKind.i64.wrap (z12.2.2.2.2.1 - 2)).toNat)
 (sAt
 lit1
 (IntKind.u32.wrap
 (((IntKind.u32.wrap (z12.2.2.2.1.tmod 100000000)).tmod 10000).tmod
 100 *
 2)),
 ())).set
 (z12.2.2.1.1 + (IntKind.i64.wrap (z12.2.2.2.2.1 - 3)).toNat)
 (sAt
 lit1
 (IntKind.u32.wrap
 (IntKind.u32.wrap
 (IntKind.u32.wrap
 (((IntKind.u32.wrap (z12.2.2.2.1.tmod 100000000)).tmod
 10000).tdiv
 100) *
 2) +
 1)),
 ())).set
 (z12.2.2.1.1 + (IntKind.i64.wrap (z12.2.2.2.2.1 - 4)).toNat)
 (sAt
 lit1
 (IntKind.u32.wrap
 (IntKind.u32.wrap
 (((IntKind.u32.wrap (z12.2.2.2.1.tmod 100000000)).tmod 10000).tdiv
 100) *
 2)),
 ())).set
 (z12.2.2.1.1 + (IntKind.i64.wrap (z12.2.2.2.2.1 - 5)).toNat)
 (sAt
 lit1
 (IntKind.u32.wrap
 (IntKind.u32.wrap
 ((IntKind.u32.wrap
 ((IntKind.u32.wrap (z12.2.2.2.1.tmod 100000000)).tdiv 10000)).tmod
 100 *
 2) +
 1)),
 ())).length) =
 true then
 if
 inR
 (IntKind.u32.wrap
 (IntKind.u32.wrap
 (IntKind.u32.wrap
 ((IntKind.u32.wrap
 ((IntKind.u32.wrap (z12.2.2.2.1.tmod 100000000)).tdiv 10000)).tdiv
 100) *
 2) +
 1))
 lit1.length =
 true then
 if
 inR
 (IntKind.u32.wrap
 (IntKind.u32.wrap
 ((IntKind.u32.wrap
 ((IntKind.u32.wrap (z12.2.2.2.1.tmod 100000000)).tdiv 10000)).tdiv
 100) *
 2))
 lit1.length =
 true then
 if inR (IntKind.i64.wrap (z12.2.2.2.2.1 - 7)) z12.2.2.1.2 = true then
 if
 decide
 (z12.2.2.1.1 + (IntKind.i64.wrap (z12.2.2.2.2.1 - 7)).toNat + 1 ≤
 ((((((z12.2.2.2.2.2.1.set
 (z12.2.2.1.1 +
 (IntKind.i64.wrap (z12.2.2.2.2.1 - 1)).toNat)
 (sAt
 lit1
 (IntKind.u32.wrap
 (IntKind.u32.wrap
 (((IntKind.u32.wrap
 (z12.2.2.2.1.tmod 100000000)).tmod
 10000).tmod
 100 *
 2) +
 1)),
 ())).set
 (z12.2.2.1.1 + (IntKind.i64.wrap (z12.2.2.2.2.1 - 2)).toNat)
 (sAt
 lit1
 (IntKind.u32.wrap
 (((IntKind.u32.wrap (z12.2.2.2.1.tmod 100000000)).tmod
 10000).tmod
 100 *
 2)),
 ())).set
 (z12.2.2.1.1 + (IntKind.i64.wrap (z12.2.2.2.2.1 - 3)).toNat)
 (sAt
 lit1
 (IntKind.u32.wrap
 (IntKind.u32.wrap
 (IntKind.u32.wrap
 (((IntKind.u32.wrap
 (z12.2.2.2.1.tmod 100000000)).tmod
 10000).tdiv
 100) *
 2) +
 1)),
 ())).set
 (z12.2.2.1.1 + (IntKind.i64.wrap (z12.2.2.2.2.1 - 4)).toNat)
 (sAt
 lit1
 (IntKind.u32.wrap
 (IntKind.u32.wrap
 (((IntKind.u32.wrap (z12.2.2.2.1.tmod 100000000)).tmod
 10000).tdiv
 100) *
 2)),
 ())).set
 (z12.2.2.1.1 + (IntKind.i64.wrap (z12.2.2.2.2.1 - 5)).toNat)
 (sAt
 lit1
 (IntKind.u32.wrap
 (IntKind.u32.wrap
 ((IntKind.u32.wrap
 ((IntKind.u32.wrap (z12.2.2.2.1.tmod 100000000)).tdiv
 10000)).tmod
 100 *
 2) +
 1)),
 ())).set
 (z12.2.2.1.1 + (IntKind.i64.wrap (z12.2.2.2.2.1 - 6)).toNat)
 (sAt
 lit1
 (IntKind.u32.wrap
 ((IntKind.u32.wrap
 ((IntKind.u32.wrap (z12.2.2.2.1.tmod 100000000)).tdiv
 10000)).tmod
 100 *
 2)),
 ())).length) =
 true then
 if inR (IntKind.i64.wrap (z12.2.2.2.2.1 - 8)) z12.2.2.1.2 = true then
 if
 decide
 (z12.2.2.1.1 + (IntKind.i64.wrap (z12.2.2.2.2.1 - 8)).toNat + 1 ≤
 (((((((z12.2.2.2.2.2.1.set
 (z12.2.2.1.1 +
 (IntKind.i64.wrap (z12.2.2.2.2.1 - 1)).toNat)
 (sAt
 lit1
 (IntKind.u32.wrap
 (IntKind.u32.wrap
 (((IntKind.u32.wrap
 (z12.2.2.2.1.tmod
 100000000)).tmod
 10000).tmod
 100 *
 2) +
 1)),
 ())).set
 (z12.2.2.1.1 +
 (IntKind.i64.wrap (z12.2.2.2.2.1 - 2)).toNat)
 (sAt
 lit1
 (IntKind.u32.wrap
 (((IntKind.u32.wrap
 (z12.2.2.2.1.tmod 100000000)).tmod
 10000).tmod
 100 *
 2)),
 ())).set
 (z12.2.2.1.1 +
 (IntKind.i64.wrap (z12.2.2.2.2.1 - 3)).toNat)
 (sAt
 lit1
 (IntKind.u32.wrap
 (IntKind.u32.wrap
 (IntKind.u32.wrap
 (((IntKind.u32.wrap
 (z12.2.2.2.1.tmod
 100000000)).tmod
 10000).tdiv
 100) *
 2) +
 1)),
 ())).set
 (z12.2.2.1.1 + (IntKind.i64.wrap (z12.2.2.2.2.1 - 4)).toNat)
 (sAt
 lit1
 (IntKind.u32.wrap
 (IntKind.u32.wrap
 (((IntKind.u32.wrap
 (z12.2.2.2.1.tmod 100000000)).tmod
 10000).tdiv
 100) *
 2)),
 ())).set
 (z12.2.2.1.1 + (IntKind.i64.wrap (z12.2.2.2.2.1 - 5)).toNat)
 (sAt
 lit1
 (IntKind.u32.wrap
 (IntKind.u32.wrap
 ((IntKind.u32.wrap
 ((IntKind.u32.wrap
 (z12.2.2.2.1.tmod 100000000)).tdiv
 10000)).tmod
 100 *
 2) +
 1)),
 ())).set
 (z12.2.2.1.1 + (IntKind.i64.wrap (z12.2.2.2.2.1 - 6)).toNat)
 (sAt
 lit1
 (IntKind.u32.wrap
 ((IntKind.u32.wrap
 ((IntKind.u32.wrap (z12.2.2.2.1.tmod 100000000)).tdiv
 10000)).tmod
 100 *
 2)),
 ())).set
 (z12.2.2.1.1 + (IntKind.i64.wrap (z12.2.2.2.2.1 - 7)).toNat)
 (sAt
 lit1
 (IntKind.u32.wrap
 (IntKind.u32.wrap
 (IntKind.u32.wrap
 ((IntKind.u32.wrap
 ((IntKind.u32.wrap
 (z12.2.2.2.1.tmod 100000000)).tdiv
 10000)).tdiv
 100) *
 2) +
 1)),
 ())).length) =
 true then
 rc12
 (z12.1, z12.2.1, (z12.2.2.1.1, z12.2.2.1.2),
 IntKind.u64.wrap (z12.2.2.2.1.tdiv 100000000),
 IntKind.i64.wrap (z12.2.2.2.2.1 - 8),
 (((((((z12.2.2.2.2.2.1.set
 (z12.2.2.1.1 +
 (IntKind.i64.wrap (z12.2.2.2.2.1 - 1)).toNat)
 (sAt
 lit1
 (IntKind.u32.wrap
 (IntKind.u32.wrap
 (((IntKind.u32.wrap
 (z12.2.2.2.1.tmod
 100000000)).tmod
 10000).tmod
 100 *
 2) +
 1)),
 ())).set
 (z12.2.2.1.1 +
 (IntKind.i64.wrap (z12.2.2.2.2.1 - 2)).toNat)
 (sAt
 lit1
 (IntKind.u32.wrap
 (((IntKind.u32.wrap
 (z12.2.2.2.1.tmod 100000000)).tmod
 10000).tmod
 100 *
 2)),
 ())).set
 (z12.2.2.1.1 +
 (IntKind.i64.wrap (z12.2.2.2.2.1 - 3)).toNat)
 (sAt
 lit1
 (IntKind.u32.wrap
 (IntKind.u32.wrap
 (IntKind.u32.wrap
 (((IntKind.u32.wrap
 (z12.2.2.2.1.tmod 100000000)).tmod
 10000).tdiv
 100) *
 2) +
 1)),
 ())).set
 (z12.2.2.1.1 + (IntKind.i64.wrap (z12.2.2.2.2.1 - 4)).toNat)
 (sAt
 lit1
 (IntKind.u32.wrap
 (IntKind.u32.wrap
 (((IntKind.u32.wrap
 (z12.2.2.2.1.tmod 100000000)).tmod
 10000).tdiv
 100) *
 2)),
 ())).set
 (z12.2.2.1.1 + (IntKind.i64.wrap (z12.2.2.2.2.1 - 5)).toNat)
 (sAt
 lit1
 (IntKind.u32.wrap
 (IntKind.u32.wrap
 ((IntKind.u32.wrap
 ((IntKind.u32.wrap
 (z12.2.2.2.1.tmod 100000000)).tdiv
 10000)).tmod
 100 *
 2) +
 1)),
 ())).set
 (z12.2.2.1.1 + (IntKind.i64.wrap (z12.2.2.2.2.1 - 6)).toNat)
 (sAt
 lit1
 (IntKind.u32.wrap
 ((IntKind.u32.wrap
 ((IntKind.u32.wrap (z12.2.2.2.1.tmod 100000000)).tdiv
 10000)).tmod
 100 *
 2)),
 ())).set
 (z12.2.2.1.1 + (IntKind.i64.wrap (z12.2.2.2.2.1 - 7)).toNat)
 (sAt
 lit1
 (IntKind.u32.wrap
 (IntKind.u32.wrap
 (IntKind.u32.wrap
 ((IntKind.u32.wrap
 ((IntKind.u32.wrap (z12.2.2.2.1.tmod 100000000)).tdiv
 10000)).tdiv
 100) *
 2) +
 1)),
 ())).set
 (z12.2.2.1.1 + (IntKind.i64.wrap (z12.2.2.2.2.1 - 8)).toNat)
 (sAt
 lit1
 (IntKind.u32.wrap
 (IntKind.u32.wrap
 ((IntKind.u32.wrap
 ((IntKind.u32.wrap (z12.2.2.2.1.tmod 100000000)).tdiv
 10000)).tdiv
 100) *
 2)),
 ()),
 ())
 else none
 else none
 else none
 else none
 else none
 else none
 else none
 else none
 else none
 else none
 else none
 else none
 else none
 else none
 else none
 else none
 else none
 else none
 else none
 else none
 else none
 else none
 else none
 else none
 else none
 else none
 else none
 else none
 else none
 else none
 else none
 else none
 else j11 (z12.1, z12.2.1, (z12.2.2.1.1, z12.2.2.1.2), z12.2.2.2.1, z12.2.2.2.2.1, z12.2.2.2.2.2.1, ())
noncomputable def sh69_K2 (fuel : Nat) (z2 : Int × Int × List (Int × Unit) × Unit) : Option (List UInt8 × Unit) :=
 (sp79 (z2.2.1, ())).bind fun (r3 : Int × Unit) =>
 joinK sh69_K4 fun (j5 : Int × Int × List (Int × Unit) × Unit → Option (List UInt8 × Unit)) =>
 if decide (z2.2.2.1.length = 24) = true then
 if inCut 1 (IntKind.i64.wrap (1 + r3.1)) 24 = true then
 joinK (sh69_K6 j5) fun (j11 : Int × Int × (Nat × Nat) × Int × Int × List (Int × Unit) × Unit → Option (List UInt8 × Unit)) =>
 iter fuel (sh69_L12 j11)
 (z2.1, r3.1, (Int.toNat 1, (IntKind.i64.wrap (1 + r3.1)).toNat - Int.toNat 1), z2.2.1,
 (↑((IntKind.i64.wrap (1 + r3.1)).toNat - Int.toNat 1) : Int), z2.2.2.1, ())
 else none
 else none
noncomputable def sh69_K0 (fuel : Nat) (z0 : Int × Bool × Unit) : Option (List UInt8 × Unit) :=
 if z0.2.1 = true then (sp78 (z0.1, ())).bind fun (r1 : List UInt8 × Unit) => some (r1.1, ())
 else
 joinK (sh69_K2 fuel) fun (j13 : Int × Int × List (Int × Unit) × Unit → Option (List UInt8 × Unit)) =>
 if decide (z0.1 < 0) = true then j13 (z0.1, IntKind.u64.wrap (0 - IntKind.u64.wrap z0.1), List.replicate 24 (0, ()), ())
 else j13 (z0.1, IntKind.u64.wrap z0.1, List.replicate 24 (0, ()), ())
noncomputable def sh69 (fuel : Nat) (x0 : Int) (x1 : Int) : Option (List UInt8 × Unit) :=
 if (x1 == 10) = true then
 joinK (sh69_K0 fuel) fun (j14 : Int × Bool × Unit → Option (List UInt8 × Unit)) =>
 if decide (0 ≤ x0) = true then j14 (x0, decide (x0 < 100), ()) else j14 (x0, false, ())
 else
 (sp81 ([], IntKind.u64.wrap x0, x1, decide (x0 < 0), false, ())).bind fun (r15 : (List (Int × Unit) × List UInt8 × Unit) × Unit) =>
 some (r15.1.2.1, ())
noncomputable def sp69 (x : (Int) × (Int) × Unit) : Option (List UInt8 × Unit) := sh69 16 x.1 x.2.1
/-! 57 internal/strconv.Itoa -/
noncomputable def c57 : Code := Tryd.f57.body.getD .skip
def g57 : Sig := ⟨[.v (.ty (.int .i64))], .v (.ty .str)⟩
def h57 : HT := (.n (.r .x) (.n (.r .x) .e))
noncomputable def FT57 : List (Nat × Entry) := [(69, ⟨g69, sp69⟩)]
noncomputable def IT57 : List (Nat × Inl) := []
def MT57 : MTab := []
noncomputable def sh57 (fuel : Nat) (x0 : Int) : Option (List UInt8 × Unit) :=
 (sp69 (x0, 10, ())).bind fun (r0 : List UInt8 × Unit) => some (r0.1, ())
noncomputable def sp57 (x : (Int) × Unit) : Option (List UInt8 × Unit) := sh57 0 x.1
/-! 51 strconv.Itoa -/
noncomputable def c51 : Code := Tryd.f51.body.getD .skip
def g51 : Sig := ⟨[.v (.ty (.int .i64))], .v (.ty .str)⟩
def h51 : HT := (.n (.r .x) (.n (.r .x) .e))
noncomputable def FT51 : List (Nat × Entry) := [(57, ⟨g57, sp57⟩)]
noncomputable def IT51 : List (Nat × Inl) := []
def MT51 : MTab := []
noncomputable def sh51 (fuel : Nat) (x0 : Int) : Option (List UInt8 × Unit) :=
 (sp57 (x0, ())).bind fun (r0 : List UInt8 × Unit) => some (r0.1, ())
noncomputable def sp51 (x : (Int) × Unit) : Option (List UInt8 × Unit) := sh51 0 x.1
noncomputable def c67 : Code := Tryd.f67.body.getD .skip
noncomputable def c68 : Code := Tryd.f68.body.getD .skip
noncomputable def c56 : Code := Tryd.f56.body.getD .skip
noncomputable def c48 : Code := Tryd.f48.body.getD .skip
/-! 29 baggage/fields.Digits -/
noncomputable def c29 : Code := Tryd.f29.body.getD .skip
def g29 : Sig := ⟨[.v (.ty .str), .v (.ty (.int .i64))], .tup [(.ty (.int .i64)), (.ty .bool)]⟩
-- DEAD 29: load 65 any at number.go:273: dst (some 98)
-- DEAD 29: load 65 any at number.go:277: dst (some 98)
-- DEAD 29: build 99 at number.go:281: dst (some 104)
-- DEAD 29: build 99 at number.go:285: dst (some 104)
def h29 : HT := (.n (.r .x) (.n (.j ⟨[(0, .d (.ty .str)), (20, .d (.ty .bool))], [], []⟩ (.ri .x [(18, 0, (.n (.r .x) (.j ⟨[(0, .d (.ty .str)), (16, .d (.ty .bool))], [], []⟩ (.n (.r .x) (.u (.l ⟨[(0, .d (.ty .str)), (16, .d (.ty .bool)), (29, .d (.ty .str)), (30, .cst (.fn 47)), (36, .d (.ty (.int .i64))), (37, .d (.ty (.int .i64)))], [], []⟩ (.n (.r .x) (.n (.n .e .e) (.n (.u (.n (.r .x) (.n (.ri .x [(44, 0, (.n (.r .x) (.j ⟨[(0, .d (.ty .str)), (16, .d (.ty .bool)), (29, .d (.ty .str)), (30, .cst (.fn 47)), (36, .d (.ty (.int .i64))), (37, .d (.ty (.int .i64))), (49, .d (.ty .bool))], [], []⟩ (.r .x) .e)))]) (.n (.n (.r .x) .e) .e)))) (.r .x))))))) (.n (.r .x) .e))))]) (.n (.n (.r .x) .e) .e)) (.j ⟨[(6, .d (.ty (.int .i64))), (7, .cst .nilI)], [], []⟩ (.ri .x [(23, 0, (.n (.r .x) (.j ⟨[(29, .d (.ty .str)), (33, .d (.ty (.int .i64))), (34, .cst .nilI)], [], []⟩ (.ri .x [(37, 0, (.n (.r .x) (.n (.r .x) (.j ⟨[(29, .d (.ty .str)), (47, .d (.ty .str))], [], []⟩ (.j ⟨[(29, .d (.ty .str)), (47, .d (.ty .str)), (77, .d (.ty .bool))], [], []⟩ (.r .x) (.n (.n (.r .x) (.j ⟨[(29, .d (.ty .str)), (47, .d (.ty .str)), (52, .d (.ty .str))], [], []⟩ (.j ⟨[(29, .d (.ty .str)), (47, .d (.ty .str)), (52, .d (.ty .str)), (86, .d (.ty .bool))], [], []⟩ (.r .x) (.n (.n (.r .x) (.n (.r .x) (.n (.n (.r .x) .e) .e))) .e)) (.n (.r .x) (.j ⟨[(29, .d (.ty .str)), (52, .d (.ty .str)), (53, .d (.ty (.int .i64)))], [], []⟩ (.n (.r .x) (.u (.l ⟨[(29, .d (.ty .str)), (52, .d (.ty .str)), (53, .d (.ty (.int .i64))), (94, .own 500000), (95, .d (.ty (.int .i64))), (96, .d (.ty (.int .i64)))], [(500000, .arr (.cons (.int .u8) .nil))], []⟩ (.n (.r .x) (.n (.n .e .e) (.n (.u (.n (.r .x) (.n (.r .x) (.n (.n (.r .x) (.n (.n (.r .x) .e) .e)) (.r .x))))) (.r .x))))))) (.j ⟨[(29, .d (.ty .str)), (53, .d (.ty (.int .i64)))], [], []⟩ (.n (.r .x) (.n (.r .x) .e)) (.n (.r .x) .e)))))) .e)) (.j ⟨[(29, .d (.ty .str)), (56, .d (.ty (.int .i64))), (57, .cst .nilI)], [], []⟩ (.ri .x [(119, 0, (.n (.r .x) (.n (.n (.r .x) (.n (.n (.r .x) .e) .e)) (.n (.r .x) (.j ⟨[(29, .d (.ty .str)), (124, .d (.ty .str)), (125, .d (.ty (.int .i64))), (126, .d (.ty (.int .i64))), (132, .d (.ty .bool))], [], []⟩ (.n (.r .x) (.u (.n (.r .x) (.n (.r .x) (.n (.r .x) (.n (.n (.r .x) (.r .x)) .e)))))) (.n (.r .x) (.j ⟨[(29, .d (.ty .str)), (126, .d (.ty (.int .i64))), (131, .cst .nilI), (132, .d (.ty .bool)), (133, .d (.ty (.int .u64)))], [], []⟩ (.ri .x [(153, 0, (.n (.r .x) (.n (.n (.r .x) (.n (.n (.r .x) .e) .e)) (.n (.r .x) (.n (.r .x) (.j ⟨[(29, .d (.ty .str)), (126, .d (.ty (.int .i64))), (132, .d (.ty .bool)), (197, .d (.ty .str)), (198, .d (.ty (.int .i64))), (199, .d (.ty (.int .i64))), (205, .d (.ty .bool)), (206, .d (.ty .str))], [], []⟩ (.u (.j ⟨[(29, .d (.ty .str)), (126, .d (.ty (.int .i64))), (132, .d (.ty .bool)), (197, .d (.ty .str)), (198, .d (.ty (.int .i64))), (199, .d (.ty (.int .i64))), (205, .d (.ty .bool)), (206, .d (.ty .str)), (222, .d (.ty .bool))], [], []⟩ (.r .x) (.n .e (.n (.r .x) (.n (.n (.r .x) (.n (.r .x) (.n (.u (.j ⟨[(29, .d (.ty .str)), (126, .d (.ty (.int .i64))), (132, .d (.ty .bool)), (197, .d (.ty .str)), (199, .d (.ty (.int .i64))), (205, .d (.ty .bool)), (206, .d (.ty .str)), (237, .d (.ty .bool))], [], []⟩ (.r .x) (.n (.n (.r .x) (.r .x)) (.j ⟨[(29, .d (.ty .str)), (126, .d (.ty (.int .i64))), (132, .d (.ty .bool)), (197, .d (.ty .str)), (199, .d (.ty (.int .i64))), (205, .d (.ty .bool)), (206, .d (.ty .str)), (249, .d (.ty .bool))], [], []⟩ (.r .x) (.n (.n (.r .x) (.r .x)) (.j ⟨[(29, .d (.ty .str)), (126, .d (.ty (.int .i64))), (132, .d (.ty .bool)), (197, .d (.ty .str)), (199, .d (.ty (.int .i64))), (205, .d (.ty .bool)), (206, .d (.ty .str)), (261, .d (.ty .bool))], [], []⟩ (.r .x) (.n (.n (.r .x) (.r .x)) (.n (.r .x) (.r .x))))))))) .e))) (.n (.r .x) .e)))))) (.j ⟨[(29, .d (.ty .str)), (126, .d (.ty (.int .i64))), (132, .d (.ty .bool)), (197, .d (.ty .str)), (198, .d (.ty (.int .i64))), (199, .d (.ty (.int .i64))), (205, .d (.ty .bool)), (206, .d (.ty .str))], [], []⟩ (.n (.r .x) (.n (.r .x) (.j ⟨[(29, .d (.ty .str)), (126, .d (.ty (.int .i64))), (132, .d (.ty .bool)), (197, .d (.ty .str)), (198, .d (.ty (.int .i64))), (199, .d (.ty (.int .i64))), (205, .d (.ty .bool)), (206, .d (.ty .str)), (280, .d (.ty .bool))], [], []⟩ (.r .x) (.n (.n (.r .x) .e) .e)))) (.n (.r .x) (.j ⟨[(29, .d (.ty .str)), (126, .d (.ty (.int .i64))), (132, .d (.ty .bool)), (197, .d (.ty .str)), (198, .d (.ty (.int .i64))), (199, .d (.ty (.int .i64))), (205, .d (.ty .bool)), (206, .d (.ty .str)), (207, .d (.ty (.int .u64)))], [], []⟩ (.n (.r .x) (.u (.n (.r .x) (.n (.r .x) (.n (.r .x) (.n (.r .x) (.r .x))))))) (.n (.r .x) (.n (.r .x) (.n (.r .x) (.j ⟨[(29, .d (.ty .str)), (126, .d (.ty (.int .i64))), (132, .d (.ty .bool)), (206, .d (.ty .str)), (209, .d (.ty .bool)), (210, .d (.ty (.int .u64)))], [], []⟩ (.n (.r .x) (.u (.l ⟨[(29, .d (.ty .str)), (126, .d (.ty (.int .i64))), (132, .d (.ty .bool)), (198, .d (.ty (.int .i64))), (205, .d (.ty .bool)), (206, .d (.ty .str)), (207, .d (.ty (.int .u64))), (208, .d (.ty (.int .u64))), (209, .d (.ty .bool)), (210, .d (.ty (.int .u64))), (296, .own 500002), (297, .d (.ty (.int .i64))), (298, .d (.ty (.int .i64)))], [(500002, .arr (.cons (.int .u8) .nil))], []⟩ (.n (.r .x) (.n (.n .e .e) (.j ⟨[(29, .d (.ty .str)), (126, .d (.ty (.int .i64))), (132, .d (.ty .bool)), (198, .d (.ty (.int .i64))), (205, .d (.ty .bool)), (206, .d (.ty .str)), (207, .d (.ty (.int .u64))), (208, .d (.ty (.int .u64))), (209, .d (.ty .bool)), (210, .d (.ty (.int .u64))), (296, .own 500008), (297, .d (.ty (.int .i64))), (298, .d (.ty (.int .i64)))], [(500008, .arr (.cons (.int .u8) .nil))], []⟩ (.u (.n (.r .x) (.n (.r .x) (.j ⟨[(29, .d (.ty .str)), (126, .d (.ty (.int .i64))), (132, .d (.ty .bool)), (198, .d (.ty (.int .i64))), (205, .d (.ty .bool)), (206, .d (.ty .str)), (207, .d (.ty (.int .u64))), (208, .d (.ty (.int .u64))), (209, .d (.ty .bool)), (210, .d (.ty (.int .u64))), (213, .d (.ty (.int .u8))), (296, .own 500006), (297, .d (.ty (.int .i64))), (298, .d (.ty (.int .i64)))], [(500006, .arr (.cons (.int .u8) .nil))], []⟩ (.u (.j ⟨[(29, .d (.ty .str)), (126, .d (.ty (.int .i64))), (132, .d (.ty .bool)), (198, .d (.ty (.int .i64))), (205, .d (.ty .bool)), (206, .d (.ty .str)), (207, .d (.ty (.int .u64))), (208, .d (.ty (.int .u64))), (209, .d (.ty .bool)), (210, .d (.ty (.int .u64))), (212, .d (.ty (.int .u8))), (296, .own 500003), (297, .d (.ty (.int .i64))), (298, .d (.ty (.int .i64))), (303, .d (.ty .bool))], [(500003, .arr (.cons (.int .u8) .nil))], []⟩ (.r .x) (.n (.n (.r .x) .e) (.j ⟨[(29, .d (.ty .str)), (126, .d (.ty (.int .i64))), (132, .d (.ty .bool)), (198, .d (.ty (.int .i64))), (205, .d (.ty .bool)), (206, .d (.ty .str)), (207, .d (.ty (.int .u64))), (208, .d (.ty (.int .u64))), (209, .d (.ty .bool)), (210, .d (.ty (.int .u64))), (212, .d (.ty (.int .u8))), (296, .own 500004), (297, .d (.ty (.int .i64))), (298, .d (.ty (.int .i64))), (309, .d (.ty .bool))], [(500004, .arr (.cons (.int .u8) .nil))], []⟩ (.r .x) (.n (.r .x) (.j ⟨[(29, .d (.ty .str)), (126, .d (.ty (.int .i64))), (132, .d (.ty .bool)), (198, .d (.ty (.int .i64))), (205, .d (.ty .bool)), (206, .d (.ty .str)), (207, .d (.ty (.int .u64))), (208, .d (.ty (.int .u64))), (209, .d (.ty .bool)), (210, .d (.ty (.int .u64))), (212, .d (.ty (.int .u8))), (296, .own 500005), (297, .d (.ty (.int .i64))), (298, .d (.ty (.int .i64))), (318, .d (.ty .bool))], [(500005, .arr (.cons (.int .u8) .nil))], []⟩ (.r .x) (.n (.r .x) (.n (.r .x) .e)))))))) (.n (.n (.r .x) (.n (.n (.r .x) .e) .e)) (.n (.n (.r .x) (.n (.n (.r .x) .e) .e)) (.n (.r .x) (.n (.r .x) (.n (.j ⟨[(29, .d (.ty .str)), (126, .d (.ty (.int .i64))), (132, .d (.ty .bool)), (198, .d (.ty (.int .i64))), (205, .d (.ty .bool)), (206, .d (.ty .str)), (207, .d (.ty (.int .u64))), (208, .d (.ty (.int .u64))), (209, .d (.ty .bool)), (214, .d (.ty (.int .u64))), (296, .own 500007), (297, .d (.ty (.int .i64))), (298, .d (.ty (.int .i64))), (356, .d (.ty .bool))], [(500007, .arr (.cons (.int .u8) .nil))], []⟩ (.r .x) (.n (.n (.r .x) .e) .e)) (.r .x)))))))))) (.r .x))))))) (.n (.j ⟨[(29, .d (.ty .str)), (126, .d (.ty (.int .i64))), (132, .d (.ty .bool)), (210, .d (.ty (.int .u64))), (366, .d (.ty .bool))], [], []⟩ (.r .x) (.n (.n (.r .x) .e) .e)) (.n (.r .x) .e)))))))))))))))]) (.n (.j ⟨[(29, .d (.ty .str)), (126, .d (.ty (.int .i64))), (131, .cst .nilI), (132, .d (.ty .bool)), (133, .d (.ty (.int .u64))), (162, .d (.ty .bool))], [], []⟩ (.r .x) (.n (.n (.r .x) .e) .e)) (.j ⟨[(29, .d (.ty .str)), (126, .d (.ty (.int .i64))), (132, .d (.ty .bool)), (133, .d (.ty (.int .u64)))], [], []⟩ (.n (.r .x) (.n (.r .x) .e)) (.n (.r .x) (.n (.j ⟨[(29, .d (.ty .str)), (132, .d (.ty .bool)), (133, .d (.ty (.int .u64))), (134, .d (.ty (.int .u64))), (176, .d (.ty .bool))], [], []⟩ (.r .x) (.n (.n (.r .x) .e) .e)) (.n (.j ⟨[(29, .d (.ty .str)), (132, .d (.ty .bool)), (133, .d (.ty (.int .u64))), (134, .d (.ty (.int .u64))), (186, .d (.ty .bool))], [], []⟩ (.r .x) (.n (.n (.r .x) .e) .e)) (.n (.r .x) (.j ⟨[(29, .d (.ty .str)), (135, .d (.ty (.int .i64)))], [], []⟩ (.n (.r .x) (.n (.r .x) .e)) (.n (.r .x) .e)))))))))))))))]) (.n (.r .x) .e))))))]) (.n (.n (.r .x) (.n (.n (.ri .x [(45, 0, (.n (.r .x) (.n (.n (.r .x) (.u (.n (.r .x) (.n (.n (.ri .x [(64, 0, (.n (.r .x) (.n .e .e)))]) .e) (.n (.r .x) (.n (.n (.ri .x [(71, 0, (.n (.r .x) (.n .e .e)))]) .e) (.n (.r .x) (.n (.n (.ri .x [(79, 0, (.n (.r .x) (.n .e .e)))]) .e) (.n (.r .x) (.n (.n (.ri .x [(87, 0, (.n (.r .x) (.n .e .e)))]) .e) .e)))))))))) (.n (.r .x) .e))))]) .e) .e)) (.n (.r .x) .e)))))]) (.n (.r .q) .e))))
noncomputable def FT29 : List (Nat × Entry) := [(84, ⟨g84, sp84⟩), (85, ⟨g85, sp85⟩)]
noncomputable def IT29 : List (Nat × Inl) := [(46, ⟨18, [.tmp 4], c46⟩), (47, ⟨9, [.tmp 2], c47⟩), (48, ⟨18, [.tmp 2, .tmp 3], c48⟩), (55, ⟨77, [.tmp 2, .tmp 3], c55⟩), (64, ⟨73, [.tmp 6, .tmp 7], c64⟩), (75, ⟨172, [.tmp 6, .tmp 7], c75⟩), (56, ⟨43, [.tmp 10], c56⟩), (65, ⟨11, [.tmp 4], c65⟩), (66, ⟨11, [.tmp 4], c66⟩), (67, ⟨16, [.tmp 6], c67⟩), (68, ⟨16, [.tmp 6], c68⟩)]
def MT29 : MTab := []
noncomputable def sh29_K1 (z1 : Int × Unit) : Option ((Int × Bool × Unit) × Unit) :=
 some ((z1.1, true, ()), ())
noncomputable def sh29_K3 (j2 : Int × Unit → Option ((Int × Bool × Unit) × Unit)) (z3 : List UInt8 × Int × Unit) : Option ((Int × Bool × Unit) × Unit) :=
 j2 (z3.2.1, ())
noncomputable def sh29_K6 (j4 : List UInt8 × Int × Unit → Option ((Int × Bool × Unit) × Unit)) (z6 : List UInt8 × Int × Unit) : Option ((Int × Bool × Unit) × Unit) :=
 j4 (z6.1, z6.2.1, ())
noncomputable def sh29_K14 (j7 : List UInt8 × Int × Unit → Option ((Int × Bool × Unit) × Unit)) (z14 : List UInt8 × Int × Unit) : Option ((Int × Bool × Unit) × Unit) :=
 j7 (z14.1, z14.2.1, ())
noncomputable def sh29_K13 (j7 : List UInt8 × Int × Unit → Option ((Int × Bool × Unit) × Unit)) (z13 : List UInt8 × Bool × Int × Int × Bool × Unit) : Option ((Int × Bool × Unit) × Unit) :=
 if z13.2.2.2.2.1 = true then none
 else
 joinK (sh29_K14 j7) fun (j15 : List UInt8 × Int × Unit → Option ((Int × Bool × Unit) × Unit)) =>
 if z13.2.1 = true then j15 (z13.1, IntKind.i64.wrap (0 - IntKind.i64.wrap z13.2.2.1), ()) else j15 (z13.1, IntKind.i64.wrap z13.2.2.1, ())
noncomputable def sh29_K12 (j7 : List UInt8 × Int × Unit → Option ((Int × Bool × Unit) × Unit)) (z12 : List UInt8 × Bool × Int × Int × Bool × Unit) : Option ((Int × Bool × Unit) × Unit) :=
 if z12.2.2.2.2.1 = true then none
 else
 joinK (sh29_K13 j7) fun (j16 : List UInt8 × Bool × Int × Int × Bool × Unit → Option ((Int × Bool × Unit) × Unit)) =>
 if z12.2.1 = true then j16 (z12.1, z12.2.1, z12.2.2.1, z12.2.2.2.1, decide (z12.2.2.2.1 < z12.2.2.1), ())
 else j16 (z12.1, z12.2.1, z12.2.2.1, z12.2.2.2.1, false, ())
noncomputable def sh29_K11 (j7 : List UInt8 × Int × Unit → Option ((Int × Bool × Unit) × Unit)) (z11 : List UInt8 × Int × Bool × Int × Unit) : Option ((Int × Bool × Unit) × Unit) :=
 if decide (0 ≤ IntKind.u64.wrap (IntKind.i64.wrap (z11.2.1 - 1))) = true then
 joinK (sh29_K12 j7) fun (j17 : List UInt8 × Bool × Int × Int × Bool × Unit → Option ((Int × Bool × Unit) × Unit)) =>
 if (!z11.2.2.1) = true then
 j17
 (z11.1, z11.2.2.1, z11.2.2.2.1, IntKind.u64.wrap (1 * 2 ^ min (IntKind.u64.wrap (IntKind.i64.wrap (z11.2.1 - 1))).toNat IntKind.u64.bits),
 decide (IntKind.u64.wrap (1 * 2 ^ min (IntKind.u64.wrap (IntKind.i64.wrap (z11.2.1 - 1))).toNat IntKind.u64.bits) ≤ z11.2.2.2.1), ())
 else
 j17
 (z11.1, z11.2.2.1, z11.2.2.2.1, IntKind.u64.wrap (1 * 2 ^ min (IntKind.u64.wrap (IntKind.i64.wrap (z11.2.1 - 1))).toNat IntKind.u64.bits),
 false, ())
 else none
noncomputable def sh29_K10 (j7 : List UInt8 × Int × Unit → Option ((Int × Bool × Unit) × Unit)) (z10 : List UInt8 × Int × Bool × Int × Bool × Unit) : Option ((Int × Bool × Unit) × Unit) :=
 if z10.2.2.2.2.1 = true then j7 (z10.1, 0, ())
 else
 joinK (sh29_K11 j7) fun (j18 : List UInt8 × Int × Bool × Int × Unit → Option ((Int × Bool × Unit) × Unit)) =>
 if (z10.2.1 == 0) = true then j18 (z10.1, 64, z10.2.2.1, z10.2.2.2.1, ()) else j18 (z10.1, z10.2.1, z10.2.2.1, z10.2.2.2.1, ())
noncomputable def sh29_K9 (j7 : List UInt8 × Int × Unit → Option ((Int × Bool × Unit) × Unit)) (z9 : List UInt8 × Int × Bool × Int × Unit) : Option ((Int × Bool × Unit) × Unit) :=
 joinK (sh29_K10 j7) fun (j19 : List UInt8 × Int × Bool × Int × Bool × Unit → Option ((Int × Bool × Unit) × Unit)) =>
 j19 (z9.1, z9.2.1, z9.2.2.1, z9.2.2.2.1, false, ())
noncomputable def sh29_K25 (j20 : List UInt8 × Int × Bool × Int × Unit → Option ((Int × Bool × Unit) × Unit)) (z25 : List UInt8 × Int × Bool × Int × Bool × Unit) : Option ((Int × Bool × Unit) × Unit) :=
 if z25.2.2.2.2.1 = true then none else j20 (z25.1, z25.2.1, z25.2.2.1, z25.2.2.2.1, ())
noncomputable def sh29_K24 (j20 : List UInt8 × Int × Bool × Int × Unit → Option ((Int × Bool × Unit) × Unit)) (z24 : List UInt8 × Int × Bool × List UInt8 × Bool × Int × Unit) : Option ((Int × Bool × Unit) × Unit) :=
 joinK (sh29_K25 j20) fun (j26 : List UInt8 × Int × Bool × Int × Bool × Unit → Option ((Int × Bool × Unit) × Unit)) =>
 if z24.2.2.2.2.1 = true then (sp85 (z24.2.2.2.1, ())).bind fun (r27 : Bool × Unit) => j26 (z24.1, z24.2.1, z24.2.2.1, z24.2.2.2.2.2.1, !r27.1, ())
 else j26 (z24.1, z24.2.1, z24.2.2.1, z24.2.2.2.2.2.1, false, ())
noncomputable def sh29_K30 (rc29 : List UInt8 × Int × Bool × Int × Bool × List UInt8 × Int × Int × Bool × Int × Int × Int × List (Int × Unit) × Unit →
 Option ((Int × Bool × Unit) × Unit)) (z30 : List UInt8 × Int × Bool × Int × Bool × List UInt8 × Int × Int × Bool × Int × Int × Int × List (Int × Unit) × Unit) : Option ((Int × Bool × Unit) × Unit) :=
 rc29
 (z30.1, z30.2.1, z30.2.2.1, z30.2.2.2.1, z30.2.2.2.2.1, z30.2.2.2.2.2.1, z30.2.2.2.2.2.2.1, z30.2.2.2.2.2.2.2.1, z30.2.2.2.2.2.2.2.2.1,
 z30.2.2.2.2.2.2.2.2.2.1, z30.2.2.2.2.2.2.2.2.2.2.1, IntKind.i64.wrap (z30.2.2.2.2.2.2.2.2.2.2.2.1 + 1), z30.2.2.2.2.2.2.2.2.2.2.2.2.1, ())
noncomputable def sh29_K33 (j31 : List UInt8 × Int × Bool × Int × Bool × List UInt8 × Int × Int × Bool × Int × Int × Int × List (Int × Unit) × Unit →
 Option ((Int × Bool × Unit) × Unit)) (z33 : List UInt8 × Int × Bool × Int × Bool × List UInt8 × Int × Int × Bool × Int × Int × Int × Bool × List (Int × Unit) × Unit) : Option ((Int × Bool × Unit) × Unit) :=
 if z33.2.2.2.2.2.2.2.2.2.2.2.2.1 = true then none
 else
 j31
 (z33.1, z33.2.1, z33.2.2.1, z33.2.2.2.1, z33.2.2.2.2.1, z33.2.2.2.2.2.1, z33.2.2.2.2.2.2.1, z33.2.2.2.2.2.2.2.1, z33.2.2.2.2.2.2.2.2.1,
 z33.2.2.2.2.2.2.2.2.2.1, z33.2.2.2.2.2.2.2.2.2.2.1, z33.2.2.2.2.2.2.2.2.2.2.2.1, z33.2.2.2.2.2.2.2.2.2.2.2.2.2.1, ())
noncomputable def sh29_K32 (j31 : List UInt8 × Int × Bool × Int × Bool × List UInt8 × Int × Int × Bool × Int × Int × Int × List (Int × Unit) × Unit →
 Option ((Int × Bool × Unit) × Unit)) (z32 : List UInt8 × Int × Bool × Int × Bool × List UInt8 × Int × Int × Bool × Int × Int × Int × Int × List (Int × Unit) × Unit) : Option ((Int × Bool × Unit) × Unit) :=
 if decide (IntKind.u8.wrap z32.2.2.2.1 ≤ z32.2.2.2.2.2.2.2.2.2.2.1) = true then none
 else
 if decide (z32.2.2.2.2.2.2.1 ≤ z32.2.2.2.2.2.2.2.2.2.1) = true then none
 else
 joinK (sh29_K33 j31)
 fun
 (j34 :
 List UInt8 × Int × Bool × Int × Bool × List UInt8 × Int × Int × Bool × Int × Int × Int × Bool × List (Int × Unit) × Unit →
 Option ((Int × Bool × Unit) × Unit)) =>
 if
 decide
 (IntKind.u64.wrap
 (IntKind.u64.wrap (z32.2.2.2.2.2.2.2.2.2.1 * IntKind.u64.wrap z32.2.2.2.1) + IntKind.u64.wrap z32.2.2.2.2.2.2.2.2.2.2.1) <
 IntKind.u64.wrap (z32.2.2.2.2.2.2.2.2.2.1 * IntKind.u64.wrap z32.2.2.2.1)) =
 true then
 j34
 (z32.1, z32.2.1, z32.2.2.1, z32.2.2.2.1, z32.2.2.2.2.1, z32.2.2.2.2.2.1, z32.2.2.2.2.2.2.1, z32.2.2.2.2.2.2.2.1, z32.2.2.2.2.2.2.2.2.1,
 IntKind.u64.wrap (IntKind.u64.wrap (z32.2.2.2.2.2.2.2.2.2.1 * IntKind.u64.wrap z32.2.2.2.1) + IntKind.u64.wrap z32.2.2.2.2.2.2.2.2.2.2.1),
 z32.2.2.2.2.2.2.2.2.2.2.2.1, z32.2.2.2.2.2.2.2.2.2.2.2.2.1, true, z32.2.2.2.2.2.2.2.2.2.2.2.2.2.1, ())
 else
 j34
 (z32.1, z32.2.1, z32.2.2.1, z32.2.2.2.1, z32.2.2.2.2.1, z32.2.2.2.2.2.1, z32.2.2.2.2.2.2.1, z32.2.2.2.2.2.2.2.1, z32.2.2.2.2.2.2.2.2.1,
 IntKind.u64.wrap (IntKind.u64.wrap (z32.2.2.2.2.2.2.2.2.2.1 * IntKind.u64.wrap z32.2.2.2.1) + IntKind.u64.wrap z32.2.2.2.2.2.2.2.2.2.2.1),
 z32.2.2.2.2.2.2.2.2.2.2.2.1, z32.2.2.2.2.2.2.2.2.2.2.2.2.1,
 decide
 (z32.2.2.2.2.2.2.2.1 <
 IntKind.u64.wrap
 (IntKind.u64.wrap (z32.2.2.2.2.2.2.2.2.2.1 * IntKind.u64.wrap z32.2.2.2.1) + IntKind.u64.wrap z32.2.2.2.2.2.2.2.2.2.2.1)),
 z32.2.2.2.2.2.2.2.2.2.2.2.2.2.1, ())
noncomputable def sh29_K38 (j35 : List UInt8 × Int × Bool × Int × Bool × List UInt8 × Int × Int × Bool × Int × Int × Int × Int × List (Int × Unit) × Unit →
 Option ((Int × Bool × Unit) × Unit)) (z38 : List UInt8 × Int × Bool × Int × Bool × List UInt8 × Int × Int × Bool × Int × Int × Int × Int × Bool × List (Int × Unit) × Unit) : Option ((Int × Bool × Unit) × Unit) :=
 if z38.2.2.2.2.2.2.2.2.2.2.2.2.2.1 = true then
 (sp84 (z38.2.2.2.2.2.2.2.2.2.2.1, ())).bind fun (r39 : Int × Unit) =>
 j35
 (z38.1, z38.2.1, z38.2.2.1, z38.2.2.2.1, z38.2.2.2.2.1, z38.2.2.2.2.2.1, z38.2.2.2.2.2.2.1, z38.2.2.2.2.2.2.2.1, z38.2.2.2.2.2.2.2.2.1,
 z38.2.2.2.2.2.2.2.2.2.1, IntKind.u8.wrap (IntKind.u8.wrap (r39.1 - 97) + 10), z38.2.2.2.2.2.2.2.2.2.2.2.1, z38.2.2.2.2.2.2.2.2.2.2.2.2.1,
 z38.2.2.2.2.2.2.2.2.2.2.2.2.2.2.1, ())
 else none
noncomputable def sh29_K37 (j35 : List UInt8 × Int × Bool × Int × Bool × List UInt8 × Int × Int × Bool × Int × Int × Int × Int × List (Int × Unit) × Unit →
 Option ((Int × Bool × Unit) × Unit)) (z37 : List UInt8 × Int × Bool × Int × Bool × List UInt8 × Int × Int × Bool × Int × Int × Int × Int × Bool × List (Int × Unit) × Unit) : Option ((Int × Bool × Unit) × Unit) :=
 if z37.2.2.2.2.2.2.2.2.2.2.2.2.2.1 = true then
 j35
 (z37.1, z37.2.1, z37.2.2.1, z37.2.2.2.1, z37.2.2.2.2.1, z37.2.2.2.2.2.1, z37.2.2.2.2.2.2.1, z37.2.2.2.2.2.2.2.1, z37.2.2.2.2.2.2.2.2.1,
 z37.2.2.2.2.2.2.2.2.2.1, IntKind.u8.wrap (z37.2.2.2.2.2.2.2.2.2.2.1 - 48), z37.2.2.2.2.2.2.2.2.2.2.2.1, z37.2.2.2.2.2.2.2.2.2.2.2.2.1,
 z37.2.2.2.2.2.2.2.2.2.2.2.2.2.2.1, ())
 else
 joinK (sh29_K38 j35)
 fun
 (j40 :
 List UInt8 × Int × Bool × Int × Bool × List UInt8 × Int × Int × Bool × Int × Int × Int × Int × Bool × List (Int × Unit) × Unit →
 Option ((Int × Bool × Unit) × Unit)) =>
 (sp84 (z37.2.2.2.2.2.2.2.2.2.2.1, ())).bind fun (r41 : Int × Unit) =>
 if decide (97 ≤ r41.1) = true then
 (sp84 (z37.2.2.2.2.2.2.2.2.2.2.1, ())).bind fun (r42 : Int × Unit) =>
 j40
 (z37.1, z37.2.1, z37.2.2.1, z37.2.2.2.1, z37.2.2.2.2.1, z37.2.2.2.2.2.1, z37.2.2.2.2.2.2.1, z37.2.2.2.2.2.2.2.1, z37.2.2.2.2.2.2.2.2.1,
 z37.2.2.2.2.2.2.2.2.2.1, z37.2.2.2.2.2.2.2.2.2.2.1, z37.2.2.2.2.2.2.2.2.2.2.2.1, z37.2.2.2.2.2.2.2.2.2.2.2.2.1, decide (r42.1 ≤ 122),
 z37.2.2.2.2.2.2.2.2.2.2.2.2.2.2.1, ())
 else
 j40
 (z37.1, z37.2.1, z37.2.2.1, z37.2.2.2.1, z37.2.2.2.2.1, z37.2.2.2.2.2.1, z37.2.2.2.2.2.2.1, z37.2.2.2.2.2.2.2.1, z37.2.2.2.2.2.2.2.2.1,
 z37.2.2.2.2.2.2.2.2.2.1, z37.2.2.2.2.2.2.2.2.2.2.1, z37.2.2.2.2.2.2.2.2.2.2.2.1, z37.2.2.2.2.2.2.2.2.2.2.2.2.1, false,
 z37.2.2.2.2.2.2.2.2.2.2.2.2.2.2.1, ())
noncomputable def sh29_K36 (j31 : List UInt8 × Int × Bool × Int × Bool × List UInt8 × Int × Int × Bool × Int × Int × Int × List (Int × Unit) × Unit →
 Option ((Int × Bool × Unit) × Unit)) (j35 : List UInt8 × Int × Bool × Int × Bool × List UInt8 × Int × Int × Bool × Int × Int × Int × Int × List (Int × Unit) × Unit →
 Option ((Int × Bool × Unit) × Unit)) (z36 : List UInt8 × Int × Bool × Int × Bool × List UInt8 × Int × Int × Bool × Int × Int × Int × Int × Bool × List (Int × Unit) × Unit) : Option ((Int × Bool × Unit) × Unit) :=
 if z36.2.2.2.2.2.2.2.2.2.2.2.2.2.1 = true then
 j31
 (z36.1, z36.2.1, z36.2.2.1, z36.2.2.2.1, z36.2.2.2.2.1, z36.2.2.2.2.2.1, z36.2.2.2.2.2.2.1, z36.2.2.2.2.2.2.2.1, true, z36.2.2.2.2.2.2.2.2.2.1,
 z36.2.2.2.2.2.2.2.2.2.2.2.1, z36.2.2.2.2.2.2.2.2.2.2.2.2.1, z36.2.2.2.2.2.2.2.2.2.2.2.2.2.2.1, ())
 else
 joinK (sh29_K37 j35)
 fun
 (j43 :
 List UInt8 × Int × Bool × Int × Bool × List UInt8 × Int × Int × Bool × Int × Int × Int × Int × Bool × List (Int × Unit) × Unit →
 Option ((Int × Bool × Unit) × Unit)) =>
 if decide (48 ≤ z36.2.2.2.2.2.2.2.2.2.2.1) = true then
 j43
 (z36.1, z36.2.1, z36.2.2.1, z36.2.2.2.1, z36.2.2.2.2.1, z36.2.2.2.2.2.1, z36.2.2.2.2.2.2.1, z36.2.2.2.2.2.2.2.1, z36.2.2.2.2.2.2.2.2.1,
 z36.2.2.2.2.2.2.2.2.2.1, z36.2.2.2.2.2.2.2.2.2.2.1, z36.2.2.2.2.2.2.2.2.2.2.2.1, z36.2.2.2.2.2.2.2.2.2.2.2.2.1,
 decide (z36.2.2.2.2.2.2.2.2.2.2.1 ≤ 57), z36.2.2.2.2.2.2.2.2.2.2.2.2.2.2.1, ())
 else
 j43
 (z36.1, z36.2.1, z36.2.2.1, z36.2.2.2.1, z36.2.2.2.2.1, z36.2.2.2.2.2.1, z36.2.2.2.2.2.2.1, z36.2.2.2.2.2.2.2.1, z36.2.2.2.2.2.2.2.2.1,
 z36.2.2.2.2.2.2.2.2.2.1, z36.2.2.2.2.2.2.2.2.2.2.1, z36.2.2.2.2.2.2.2.2.2.2.2.1, z36.2.2.2.2.2.2.2.2.2.2.2.2.1, false,
 z36.2.2.2.2.2.2.2.2.2.2.2.2.2.2.1, ())
noncomputable def sh29_L29 (j28 : List UInt8 × Int × Bool × List UInt8 × Bool × Int × Unit → Option ((Int × Bool × Unit) × Unit)) (rc29 : List UInt8 × Int × Bool × Int × Bool × List UInt8 × Int × Int × Bool × Int × Int × Int × List (Int × Unit) × Unit →
 Option ((Int × Bool × Unit) × Unit)) (z29 : List UInt8 × Int × Bool × Int × Bool × List UInt8 × Int × Int × Bool × Int × Int × Int × List (Int × Unit) × Unit) : Option ((Int × Bool × Unit) × Unit) :=
 if decide (z29.2.2.2.2.2.2.2.2.2.2.2.1 < z29.2.2.2.2.2.2.2.2.2.2.1) = true then
 joinK (sh29_K30 rc29)
 fun
 (j31 :
 List UInt8 × Int × Bool × Int × Bool × List UInt8 × Int × Int × Bool × Int × Int × Int × List (Int × Unit) × Unit →
 Option ((Int × Bool × Unit) × Unit)) =>
 if inR z29.2.2.2.2.2.2.2.2.2.2.2.1 z29.2.2.2.2.2.2.2.2.2.2.2.2.1.length = true then
 if decide (z29.2.2.2.2.2.2.2.2.2.2.2.1.toNat + 1 ≤ z29.2.2.2.2.2.2.2.2.2.2.2.2.1.length) = true then
 joinK (sh29_K32 j31)
 fun
 (j35 :
 List UInt8 × Int × Bool × Int × Bool × List UInt8 × Int × Int × Bool × Int × Int × Int × Int × List (Int × Unit) × Unit →
 Option ((Int × Bool × Unit) × Unit)) =>
 joinK (sh29_K36 j31 j35)
 fun
 (j44 :
 List UInt8 × Int × Bool × Int × Bool × List UInt8 × Int × Int × Bool × Int × Int × Int × Int × Bool × List (Int × Unit) × Unit →
 Option ((Int × Bool × Unit) × Unit)) =>
 if ((z29.2.2.2.2.2.2.2.2.2.2.2.2.1.getD z29.2.2.2.2.2.2.2.2.2.2.2.1.toNat (0, ())).1 == 95) = true then
 j44
 (z29.1, z29.2.1, z29.2.2.1, z29.2.2.2.1, z29.2.2.2.2.1, z29.2.2.2.2.2.1, z29.2.2.2.2.2.2.1, z29.2.2.2.2.2.2.2.1,
 z29.2.2.2.2.2.2.2.2.1, z29.2.2.2.2.2.2.2.2.2.1, (z29.2.2.2.2.2.2.2.2.2.2.2.2.1.getD z29.2.2.2.2.2.2.2.2.2.2.2.1.toNat (0, ())).1,
 z29.2.2.2.2.2.2.2.2.2.2.1, z29.2.2.2.2.2.2.2.2.2.2.2.1, z29.2.2.2.2.1, z29.2.2.2.2.2.2.2.2.2.2.2.2.1, ())
 else
 j44
 (z29.1, z29.2.1, z29.2.2.1, z29.2.2.2.1, z29.2.2.2.2.1, z29.2.2.2.2.2.1, z29.2.2.2.2.2.2.1, z29.2.2.2.2.2.2.2.1,
 z29.2.2.2.2.2.2.2.2.1, z29.2.2.2.2.2.2.2.2.2.1, (z29.2.2.2.2.2.2.2.2.2.2.2.2.1.getD z29.2.2.2.2.2.2.2.2.2.2.2.1.toNat (0, ())).1,
 z29.2.2.2.2.2.2.2.2.2.2.1, z29.2.2.2.2.2.2.2.2.2.2.2.1, false, z29.2.2.2.2.2.2.2.2.2.2.2.2.1, ())
 else none
 else none
 else j28 (z29.1, z29.2.1, z29.2.2.1, z29.2.2.2.2.2.1, z29.2.2.2.2.2.2.2.2.1, z29.2.2.2.2.2.2.2.2.2.1, ())
noncomputable def sh29_K23 (fuel : Nat) (j20 : List UInt8 × Int × Bool × Int × Unit → Option ((Int × Bool × Unit) × Unit)) (z23 : List UInt8 × Int × Bool × List UInt8 × Int × Int × Bool × List UInt8 × Int × Unit) : Option ((Int × Bool × Unit) × Unit) :=
 if decide (0 ≤ IntKind.u64.wrap z23.2.2.2.2.2.1) = true then
 joinK (sh29_K24 j20) fun (j28 : List UInt8 × Int × Bool × List UInt8 × Bool × Int × Unit → Option ((Int × Bool × Unit) × Unit)) =>
 if decide (z23.2.2.2.1.length ≤ Abs.lim) = true then
 iter fuel (sh29_L29 j28)
 (z23.1, z23.2.1, z23.2.2.1, z23.2.2.2.2.1, z23.2.2.2.2.2.2.1, z23.2.2.2.2.2.2.2.1, z23.2.2.2.2.2.2.2.2.1,
 IntKind.u64.wrap (IntKind.u64.wrap (1 * 2 ^ min (IntKind.u64.wrap z23.2.2.2.2.2.1).toNat IntKind.u64.bits) - 1), false, 0,
 (↑(ofBytes z23.2.2.2.1).length : Int), 0, ofBytes z23.2.2.2.1, ())
 else none
 else none
noncomputable def sh29_K22 (fuel : Nat) (j20 : List UInt8 × Int × Bool × Int × Unit → Option ((Int × Bool × Unit) × Unit)) (z22 : List UInt8 × Int × Bool × List UInt8 × Int × Int × Bool × List UInt8 × Unit) : Option ((Int × Bool × Unit) × Unit) :=
 joinK (sh29_K23 fuel j20)
 fun (j45 : List UInt8 × Int × Bool × List UInt8 × Int × Int × Bool × List UInt8 × Int × Unit → Option ((Int × Bool × Unit) × Unit)) =>
 if (z22.2.2.2.2.1 == 10) = true then
 j45 (z22.1, z22.2.1, z22.2.2.1, z22.2.2.2.1, z22.2.2.2.2.1, z22.2.2.2.2.2.1, z22.2.2.2.2.2.2.1, z22.2.2.2.2.2.2.2.1, 1844674407370955162, ())
 else
 if (z22.2.2.2.2.1 == 16) = true then
 j45 (z22.1, z22.2.1, z22.2.2.1, z22.2.2.2.1, z22.2.2.2.2.1, z22.2.2.2.2.2.1, z22.2.2.2.2.2.2.1, z22.2.2.2.2.2.2.2.1, 1152921504606846976, ())
 else
 if (IntKind.u64.wrap z22.2.2.2.2.1 != 0) = true then
 j45
 (z22.1, z22.2.1, z22.2.2.1, z22.2.2.2.1, z22.2.2.2.2.1, z22.2.2.2.2.2.1, z22.2.2.2.2.2.2.1, z22.2.2.2.2.2.2.2.1,
 IntKind.u64.wrap (IntKind.u64.wrap (Int.tdiv 18446744073709551615 (IntKind.u64.wrap z22.2.2.2.2.1)) + 1), ())
 else none
noncomputable def sh29_K47 (j46 : List UInt8 × Int × Bool × List UInt8 × Int × Int × Bool × List UInt8 × Unit → Option ((Int × Bool × Unit) × Unit)) (z47 : List UInt8 × Int × Bool × List UInt8 × Int × Int × Bool × List UInt8 × Bool × Unit) : Option ((Int × Bool × Unit) × Unit) :=
 if z47.2.2.2.2.2.2.2.2.1 = true then none
 else j46 (z47.1, z47.2.1, z47.2.2.1, z47.2.2.2.1, z47.2.2.2.2.1, z47.2.2.2.2.2.1, z47.2.2.2.2.2.2.1, z47.2.2.2.2.2.2.2.1, ())
noncomputable def sh29_K21 (fuel : Nat) (j20 : List UInt8 × Int × Bool × Int × Unit → Option ((Int × Bool × Unit) × Unit)) (z21 : List UInt8 × Int × Bool × List UInt8 × Int × Int × Bool × List UInt8 × Unit) : Option ((Int × Bool × Unit) × Unit) :=
 joinK (sh29_K22 fuel j20)
 fun (j46 : List UInt8 × Int × Bool × List UInt8 × Int × Int × Bool × List UInt8 × Unit → Option ((Int × Bool × Unit) × Unit)) =>
 if (z21.2.2.2.2.2.1 == 0) = true then j46 (z21.1, z21.2.1, z21.2.2.1, z21.2.2.2.1, z21.2.2.2.2.1, 64, z21.2.2.2.2.2.2.1, z21.2.2.2.2.2.2.2.1, ())
 else
 joinK (sh29_K47 j46)
 fun (j48 : List UInt8 × Int × Bool × List UInt8 × Int × Int × Bool × List UInt8 × Bool × Unit → Option ((Int × Bool × Unit) × Unit)) =>
 if decide (z21.2.2.2.2.2.1 < 0) = true then
 j48 (z21.1, z21.2.1, z21.2.2.1, z21.2.2.2.1, z21.2.2.2.2.1, z21.2.2.2.2.2.1, z21.2.2.2.2.2.2.1, z21.2.2.2.2.2.2.2.1, true, ())
 else
 j48
 (z21.1, z21.2.1, z21.2.2.1, z21.2.2.2.1, z21.2.2.2.2.1, z21.2.2.2.2.2.1, z21.2.2.2.2.2.2.1, z21.2.2.2.2.2.2.2.1,
 decide (64 < z21.2.2.2.2.2.1), ())
noncomputable def sh29_K53 (j49 : List UInt8 × Int × Bool × List UInt8 × Int × Int × Bool × List UInt8 × Unit → Option ((Int × Bool × Unit) × Unit)) (z53 : List UInt8 × Int × Bool × List UInt8 × Int × Bool × List UInt8 × Bool × Unit) : Option ((Int × Bool × Unit) × Unit) :=
 if z53.2.2.2.2.2.2.2.1 = true then
 if inCut 2 (↑z53.2.2.2.1.length : Int) z53.2.2.2.1.length = true then
 j49 (z53.1, z53.2.1, z53.2.2.1, cutL z53.2.2.2.1 2 (↑z53.2.2.2.1.length : Int), 16, z53.2.2.2.2.1, z53.2.2.2.2.2.1, z53.2.2.2.2.2.2.1, ())
 else none
 else
 if inCut 1 (↑z53.2.2.2.1.length : Int) z53.2.2.2.1.length = true then
 j49 (z53.1, z53.2.1, z53.2.2.1, cutL z53.2.2.2.1 1 (↑z53.2.2.2.1.length : Int), 8, z53.2.2.2.2.1, z53.2.2.2.2.2.1, z53.2.2.2.2.2.2.1, ())
 else none
noncomputable def sh29_K52 (j49 : List UInt8 × Int × Bool × List UInt8 × Int × Int × Bool × List UInt8 × Unit → Option ((Int × Bool × Unit) × Unit)) (z52 : List UInt8 × Int × Bool × List UInt8 × Int × Bool × List UInt8 × Bool × Unit) : Option ((Int × Bool × Unit) × Unit) :=
 if z52.2.2.2.2.2.2.2.1 = true then
 if inCut 2 (↑z52.2.2.2.1.length : Int) z52.2.2.2.1.length = true then
 j49 (z52.1, z52.2.1, z52.2.2.1, cutL z52.2.2.2.1 2 (↑z52.2.2.2.1.length : Int), 8, z52.2.2.2.2.1, z52.2.2.2.2.2.1, z52.2.2.2.2.2.2.1, ())
 else none
 else
 joinK (sh29_K53 j49)
 fun (j54 : List UInt8 × Int × Bool × List UInt8 × Int × Bool × List UInt8 × Bool × Unit → Option ((Int × Bool × Unit) × Unit)) =>
 if decide (3 ≤ (↑z52.2.2.2.1.length : Int)) = true then
 if inR 1 z52.2.2.2.1.length = true then
 (sp84 (sAt z52.2.2.2.1 1, ())).bind fun (r55 : Int × Unit) =>
 j54 (z52.1, z52.2.1, z52.2.2.1, z52.2.2.2.1, z52.2.2.2.2.1, z52.2.2.2.2.2.1, z52.2.2.2.2.2.2.1, r55.1 == 120, ())
 else none
 else j54 (z52.1, z52.2.1, z52.2.2.1, z52.2.2.2.1, z52.2.2.2.2.1, z52.2.2.2.2.2.1, z52.2.2.2.2.2.2.1, false, ())
noncomputable def sh29_K51 (j49 : List UInt8 × Int × Bool × List UInt8 × Int × Int × Bool × List UInt8 × Unit → Option ((Int × Bool × Unit) × Unit)) (z51 : List UInt8 × Int × Bool × List UInt8 × Int × Bool × List UInt8 × Bool × Unit) : Option ((Int × Bool × Unit) × Unit) :=
 if z51.2.2.2.2.2.2.2.1 = true then
 if inCut 2 (↑z51.2.2.2.1.length : Int) z51.2.2.2.1.length = true then
 j49 (z51.1, z51.2.1, z51.2.2.1, cutL z51.2.2.2.1 2 (↑z51.2.2.2.1.length : Int), 2, z51.2.2.2.2.1, z51.2.2.2.2.2.1, z51.2.2.2.2.2.2.1, ())
 else none
 else
 joinK (sh29_K52 j49)
 fun (j56 : List UInt8 × Int × Bool × List UInt8 × Int × Bool × List UInt8 × Bool × Unit → Option ((Int × Bool × Unit) × Unit)) =>
 if decide (3 ≤ (↑z51.2.2.2.1.length : Int)) = true then
 if inR 1 z51.2.2.2.1.length = true then
 (sp84 (sAt z51.2.2.2.1 1, ())).bind fun (r57 : Int × Unit) =>
 j56 (z51.1, z51.2.1, z51.2.2.1, z51.2.2.2.1, z51.2.2.2.2.1, z51.2.2.2.2.2.1, z51.2.2.2.2.2.2.1, r57.1 == 111, ())
 else none
 else j56 (z51.1, z51.2.1, z51.2.2.1, z51.2.2.2.1, z51.2.2.2.2.1, z51.2.2.2.2.2.1, z51.2.2.2.2.2.2.1, false, ())
noncomputable def sh29_K50 (j49 : List UInt8 × Int × Bool × List UInt8 × Int × Int × Bool × List UInt8 × Unit → Option ((Int × Bool × Unit) × Unit)) (z50 : List UInt8 × Int × Bool × List UInt8 × Int × Int × Bool × List UInt8 × Bool × Unit) : Option ((Int × Bool × Unit) × Unit) :=
 if z50.2.2.2.2.2.2.2.2.1 = true then
 j49 (z50.1, z50.2.1, z50.2.2.1, z50.2.2.2.1, z50.2.2.2.2.1, z50.2.2.2.2.2.1, z50.2.2.2.2.2.2.1, z50.2.2.2.2.2.2.2.1, ())
 else
 if (z50.2.2.2.2.1 == 0) = true then
 if inR 0 z50.2.2.2.1.length = true then
 if (sAt z50.2.2.2.1 0 == 48) = true then
 joinK (sh29_K51 j49)
 fun (j58 : List UInt8 × Int × Bool × List UInt8 × Int × Bool × List UInt8 × Bool × Unit → Option ((Int × Bool × Unit) × Unit)) =>
 if decide (3 ≤ (↑z50.2.2.2.1.length : Int)) = true then
 if inR 1 z50.2.2.2.1.length = true then
 (sp84 (sAt z50.2.2.2.1 1, ())).bind fun (r59 : Int × Unit) =>
 j58 (z50.1, z50.2.1, z50.2.2.1, z50.2.2.2.1, z50.2.2.2.2.2.1, z50.2.2.2.2.2.2.1, z50.2.2.2.2.2.2.2.1, r59.1 == 98, ())
 else none
 else j58 (z50.1, z50.2.1, z50.2.2.1, z50.2.2.2.1, z50.2.2.2.2.2.1, z50.2.2.2.2.2.2.1, z50.2.2.2.2.2.2.2.1, false, ())
 else j49 (z50.1, z50.2.1, z50.2.2.1, z50.2.2.2.1, 10, z50.2.2.2.2.2.1, z50.2.2.2.2.2.2.1, z50.2.2.2.2.2.2.2.1, ())
 else none
 else none
noncomputable def sh29_K8 (fuel : Nat) (j7 : List UInt8 × Int × Unit → Option ((Int × Bool × Unit) × Unit)) (z8 : List UInt8 × List UInt8 × Int × Int × Bool × Unit) : Option ((Int × Bool × Unit) × Unit) :=
 joinK (sh29_K9 j7) fun (j20 : List UInt8 × Int × Bool × Int × Unit → Option ((Int × Bool × Unit) × Unit)) =>
 if (z8.2.1 == []) = true then none
 else
 joinK (sh29_K21 fuel j20)
 fun (j49 : List UInt8 × Int × Bool × List UInt8 × Int × Int × Bool × List UInt8 × Unit → Option ((Int × Bool × Unit) × Unit)) =>
 joinK (sh29_K50 j49)
 fun (j60 : List UInt8 × Int × Bool × List UInt8 × Int × Int × Bool × List UInt8 × Bool × Unit → Option ((Int × Bool × Unit) × Unit)) =>
 if decide (2 ≤ z8.2.2.1) = true then
 j60 (z8.1, z8.2.2.2.1, z8.2.2.2.2.1, z8.2.1, z8.2.2.1, z8.2.2.2.1, z8.2.2.1 == 0, z8.2.1, decide (z8.2.2.1 ≤ 36), ())
 else j60 (z8.1, z8.2.2.2.1, z8.2.2.2.2.1, z8.2.1, z8.2.2.1, z8.2.2.2.1, z8.2.2.1 == 0, z8.2.1, false, ())
noncomputable def sh29_K5 (fuel : Nat) (j4 : List UInt8 × Int × Unit → Option ((Int × Bool × Unit) × Unit)) (z5 : List UInt8 × List UInt8 × Unit) : Option ((Int × Bool × Unit) × Unit) :=
 joinK (sh29_K6 j4) fun (j7 : List UInt8 × Int × Unit → Option ((Int × Bool × Unit) × Unit)) =>
 if (z5.2.1 == []) = true then none
 else
 joinK (sh29_K8 fuel j7) fun (j61 : List UInt8 × List UInt8 × Int × Int × Bool × Unit → Option ((Int × Bool × Unit) × Unit)) =>
 if inR 0 z5.2.1.length = true then
 if (sAt z5.2.1 0 == 43) = true then
 if inCut 1 (↑z5.2.1.length : Int) z5.2.1.length = true then j61 (z5.1, cutL z5.2.1 1 (↑z5.2.1.length : Int), 10, 0, false, ()) else none
 else
 if (sAt z5.2.1 0 == 45) = true then
 if inCut 1 (↑z5.2.1.length : Int) z5.2.1.length = true then j61 (z5.1, cutL z5.2.1 1 (↑z5.2.1.length : Int), 10, 0, true, ()) else none
 else j61 (z5.1, z5.2.1, 10, 0, false, ())
 else none
noncomputable def sh29_K66 (j4 : List UInt8 × Int × Unit → Option ((Int × Bool × Unit) × Unit)) (z66 : List UInt8 × Int × Unit) : Option ((Int × Bool × Unit) × Unit) :=
 j4 (z66.1, z66.2.1, ())
noncomputable def sh29_K65 (j4 : List UInt8 × Int × Unit → Option ((Int × Bool × Unit) × Unit)) (z65 : List UInt8 × List UInt8 × Int × Unit) : Option ((Int × Bool × Unit) × Unit) :=
 joinK (sh29_K66 j4) fun (j67 : List UInt8 × Int × Unit → Option ((Int × Bool × Unit) × Unit)) =>
 if inR 0 z65.2.1.length = true then
 if (sAt z65.2.1 0 == 45) = true then j67 (z65.1, IntKind.i64.wrap (0 - z65.2.2.1), ()) else j67 (z65.1, z65.2.2.1, ())
 else none
noncomputable def sh29_L69 (j68 : List UInt8 × List UInt8 × Int × Unit → Option ((Int × Bool × Unit) × Unit)) (rc69 : List UInt8 × List UInt8 × Int × Int × Int × List (Int × Unit) × Unit → Option ((Int × Bool × Unit) × Unit)) (z69 : List UInt8 × List UInt8 × Int × Int × Int × List (Int × Unit) × Unit) : Option ((Int × Bool × Unit) × Unit) :=
 if decide (z69.2.2.2.2.1 < z69.2.2.2.1) = true then
 if inR z69.2.2.2.2.1 z69.2.2.2.2.2.1.length = true then
 if decide (z69.2.2.2.2.1.toNat + 1 ≤ z69.2.2.2.2.2.1.length) = true then
 if decide (9 < IntKind.u8.wrap ((z69.2.2.2.2.2.1.getD z69.2.2.2.2.1.toNat (0, ())).1 - 48)) = true then none
 else
 rc69
 (z69.1, z69.2.1,
 IntKind.i64.wrap
 (IntKind.i64.wrap (z69.2.2.1 * 10) + IntKind.i64.wrap (IntKind.u8.wrap ((z69.2.2.2.2.2.1.getD z69.2.2.2.2.1.toNat (0, ())).1 - 48))),
 z69.2.2.2.1, IntKind.i64.wrap (z69.2.2.2.2.1 + 1), z69.2.2.2.2.2.1, ())
 else none
 else none
 else j68 (z69.1, z69.2.1, z69.2.2.1, ())
noncomputable def sh29_K64 (fuel : Nat) (j4 : List UInt8 × Int × Unit → Option ((Int × Bool × Unit) × Unit)) (z64 : List UInt8 × List UInt8 × List UInt8 × Unit) : Option ((Int × Bool × Unit) × Unit) :=
 joinK (sh29_K65 j4) fun (j68 : List UInt8 × List UInt8 × Int × Unit → Option ((Int × Bool × Unit) × Unit)) =>
 if decide (z64.2.1.length ≤ Abs.lim) = true then
 iter fuel (sh29_L69 j68) (z64.1, z64.2.2.1, 0, (↑(ofBytes z64.2.1).length : Int), 0, ofBytes z64.2.1, ())
 else none
noncomputable def sh29_K71 (j70 : List UInt8 × List UInt8 × List UInt8 × Unit → Option ((Int × Bool × Unit) × Unit)) (z71 : List UInt8 × List UInt8 × List UInt8 × Bool × Unit) : Option ((Int × Bool × Unit) × Unit) :=
 if z71.2.2.2.1 = true then
 if inCut 1 (↑z71.2.1.length : Int) z71.2.1.length = true then
 if decide ((↑(cutL z71.2.1 1 (↑z71.2.1.length : Int)).length : Int) < 1) = true then none
 else j70 (z71.1, cutL z71.2.1 1 (↑z71.2.1.length : Int), z71.2.2.1, ())
 else none
 else j70 (z71.1, z71.2.1, z71.2.2.1, ())
noncomputable def sh29_K63 (fuel : Nat) (j4 : List UInt8 × Int × Unit → Option ((Int × Bool × Unit) × Unit)) (j62 : List UInt8 × List UInt8 × Unit → Option ((Int × Bool × Unit) × Unit)) (z63 : List UInt8 × List UInt8 × Bool × Unit) : Option ((Int × Bool × Unit) × Unit) :=
 if z63.2.2.1 = true then
 joinK (sh29_K64 fuel j4) fun (j70 : List UInt8 × List UInt8 × List UInt8 × Unit → Option ((Int × Bool × Unit) × Unit)) =>
 joinK (sh29_K71 j70) fun (j72 : List UInt8 × List UInt8 × List UInt8 × Bool × Unit → Option ((Int × Bool × Unit) × Unit)) =>
 if inR 0 z63.2.1.length = true then
 if (sAt z63.2.1 0 == 45) = true then j72 (z63.1, z63.2.1, z63.2.1, true, ())
 else if inR 0 z63.2.1.length = true then j72 (z63.1, z63.2.1, z63.2.1, sAt z63.2.1 0 == 43, ()) else none
 else none
 else j62 (z63.1, z63.2.1, ())
noncomputable def sh29_K0 (fuel : Nat) (z0 : List UInt8 × Bool × Unit) : Option ((Int × Bool × Unit) × Unit) :=
 if z0.2.1 = true then some ((0, false, ()), ())
 else
 joinK sh29_K1 fun (j2 : Int × Unit → Option ((Int × Bool × Unit) × Unit)) =>
 joinK (sh29_K3 j2) fun (j4 : List UInt8 × Int × Unit → Option ((Int × Bool × Unit) × Unit)) =>
 joinK (sh29_K5 fuel j4) fun (j62 : List UInt8 × List UInt8 × Unit → Option ((Int × Bool × Unit) × Unit)) =>
 joinK (sh29_K63 fuel j4 j62) fun (j73 : List UInt8 × List UInt8 × Bool × Unit → Option ((Int × Bool × Unit) × Unit)) =>
 if decide (0 < (↑z0.1.length : Int)) = true then j73 (z0.1, z0.1, decide ((↑z0.1.length : Int) < 19), ()) else j73 (z0.1, z0.1, false, ())
noncomputable def sh29_K75 (j74 : List UInt8 × Bool × Unit → Option ((Int × Bool × Unit) × Unit)) (z75 : List UInt8 × Bool × Unit) : Option ((Int × Bool × Unit) × Unit) :=
 if z75.2.1 = true then j74 (z75.1, true, ()) else j74 (z75.1, !true, ())
noncomputable def sh29_K78 (j74 : List UInt8 × Bool × Unit → Option ((Int × Bool × Unit) × Unit)) (rc77 : List UInt8 × Bool × List UInt8 × Int × Int × Unit → Option ((Int × Bool × Unit) × Unit)) (z78 : List UInt8 × Bool × List UInt8 × Int × Int × Bool × Unit) : Option ((Int × Bool × Unit) × Unit) :=
 if (!z78.2.2.2.2.2.1) = true then if z78.2.1 = true then j74 (z78.1, true, ()) else j74 (z78.1, !false, ())
 else rc77 (z78.1, z78.2.1, z78.2.2.1, z78.2.2.2.1, IntKind.i64.wrap (z78.2.2.2.2.1 + 1), ())
noncomputable def sh29_L77 (j74 : List UInt8 × Bool × Unit → Option ((Int × Bool × Unit) × Unit)) (j76 : List UInt8 × Bool × Unit → Option ((Int × Bool × Unit) × Unit)) (rc77 : List UInt8 × Bool × List UInt8 × Int × Int × Unit → Option ((Int × Bool × Unit) × Unit)) (z77 : List UInt8 × Bool × List UInt8 × Int × Int × Unit) : Option ((Int × Bool × Unit) × Unit) :=
 if decide (z77.2.2.2.2.1 < z77.2.2.2.1) = true then
 if inR z77.2.2.2.2.1 z77.2.2.1.length = true then
 joinK (sh29_K78 j74 rc77) fun (j79 : List UInt8 × Bool × List UInt8 × Int × Int × Bool × Unit → Option ((Int × Bool × Unit) × Unit)) =>
 if decide (48 ≤ sAt z77.2.2.1 z77.2.2.2.2.1) = true then
 j79 (z77.1, z77.2.1, z77.2.2.1, z77.2.2.2.1, z77.2.2.2.2.1, decide (sAt z77.2.2.1 z77.2.2.2.2.1 ≤ 57), ())
 else j79 (z77.1, z77.2.1, z77.2.2.1, z77.2.2.2.1, z77.2.2.2.2.1, false, ())
 else none
 else j76 (z77.1, z77.2.1, ())
noncomputable def sh29 (fuel : Nat) (x0 : List UInt8) (x1 : Int) : Option ((Int × Bool × Unit) × Unit) :=
 joinK (sh29_K0 fuel) fun (j74 : List UInt8 × Bool × Unit → Option ((Int × Bool × Unit) × Unit)) =>
 if (x0 == []) = true then j74 (x0, true, ())
 else
 if decide (x1 < (↑x0.length : Int)) = true then j74 (x0, true, ())
 else
 joinK (sh29_K75 j74) fun (j76 : List UInt8 × Bool × Unit → Option ((Int × Bool × Unit) × Unit)) =>
 iter fuel (sh29_L77 j74 j76) (x0, false, x0, (↑x0.length : Int), 0, ())
noncomputable def sp29 (x : (List UInt8) × (Int) × Unit) : Option ((Int × Bool × Unit) × Unit) := sh29 16 x.1 x.2.1
/-! 49 baggage/fields.Letter -/
noncomputable def c49 : Code := Tryd.f49.body.getD .skip
def g49 : Sig := ⟨[.v (.ty (.int .u8))], .v (.ty .bool)⟩
def h49 : HT := (.n (.r .x) (.j ⟨[(2, .d (.ty .bool))], [], []⟩ (.r .x) .e))
noncomputable def FT49 : List (Nat × Entry) := []
noncomputable def IT49 : List (Nat × Inl) := []
def MT49 : MTab := []
noncomputable def sh49_K0 (z0 : Bool × Unit) : Option (Bool × Unit) :=
 some (z0.1, ())
noncomputable def sh49 (fuel : Nat) (x0 : Int) : Option (Bool × Unit) :=
 joinK sh49_K0 fun (j1 : Bool × Unit → Option (Bool × Unit)) => if decide (65 ≤ x0) = true then j1 (decide (x0 ≤ 90), ()) else j1 (false, ())
noncomputable def sp49 (x : (Int) × Unit) : Option (Bool × Unit) := sh49 0 x.1
/-! 30 baggage/flight.carrier -/
noncomputable def c30 : Code := Tryd.f30.body.getD .skip
def g30 : Sig := ⟨[.v (.ty .str)], .v (.ty .bool)⟩
def h30 : HT := (.n (.r .x) (.n (.n (.r .x) (.n (.n (.r .x) .e) .e)) (.n (.r .x) (.j ⟨[(3, .d (.ty (.int .i64)))], [], []⟩ (.n (.r .x) (.u (.l ⟨[(0, .d (.ty .str)), (3, .d (.ty (.int .i64))), (9, .d (.ty (.int .i64))), (10, .d (.ty (.int .i64)))], [], []⟩ (.n (.r .x) (.n (.n .e .e) (.j ⟨[(0, .d (.ty .str)), (3, .d (.ty (.int .i64))), (9, .d (.ty (.int .i64))), (10, .d (.ty (.int .i64)))], [], []⟩ (.u (.n (.r .x) (.u (.n (.r .x) (.n (.r .x) (.n (.r .x) (.n (.n (.r .x) .e) .e))))))) (.r .x))))))) (.n (.r .x) .e)))))
noncomputable def FT30 : List (Nat × Entry) := [(49, ⟨g49, sp49⟩), (47, ⟨g47, sp47⟩)]
noncomputable def IT30 : List (Nat × Inl) := []
def MT30 : MTab := []
noncomputable def sh30_K0 (z0 : Int × Unit) : Option (Bool × Unit) :=
 some (decide (0 < z0.1), ())
noncomputable def sh30_K3 (rc2 : List UInt8 × Int × Int × Int × Unit → Option (Bool × Unit)) (z3 : List UInt8 × Int × Int × Int × Unit) : Option (Bool × Unit) :=
 rc2 (z3.1, z3.2.1, z3.2.2.1, IntKind.i64.wrap (z3.2.2.2.1 + 1), ())
noncomputable def sh30_L2 (j1 : Int × Unit → Option (Bool × Unit)) (rc2 : List UInt8 × Int × Int × Int × Unit → Option (Bool × Unit)) (z2 : List UInt8 × Int × Int × Int × Unit) : Option (Bool × Unit) :=
 if decide (z2.2.2.2.1 < z2.2.2.1) = true then
 joinK (sh30_K3 rc2) fun (j4 : List UInt8 × Int × Int × Int × Unit → Option (Bool × Unit)) =>
 if inR z2.2.2.2.1 z2.1.length = true then
 (sp49 (sAt z2.1 z2.2.2.2.1, ())).bind fun (r5 : Bool × Unit) =>
 if r5.1 = true then j4 (z2.1, IntKind.i64.wrap (z2.2.1 + 1), z2.2.2.1, z2.2.2.2.1, ())
 else
 if inR z2.2.2.2.1 z2.1.length = true then
 (sp47 (sAt z2.1 z2.2.2.2.1, ())).bind fun (r6 : Bool × Unit) =>
 if (!r6.1) = true then some (false, ()) else j4 (z2.1, z2.2.1, z2.2.2.1, z2.2.2.2.1, ())
 else none
 else none
 else j1 (z2.2.1, ())
noncomputable def sh30 (fuel : Nat) (x0 : List UInt8) : Option (Bool × Unit) :=
 if ((↑x0.length : Int) != 2) = true then some (false, ())
 else joinK sh30_K0 fun (j1 : Int × Unit → Option (Bool × Unit)) => iter fuel (sh30_L2 j1) (x0, 0, (↑x0.length : Int), 0, ())
noncomputable def sp30 (x : (List UInt8) × Unit) : Option (Bool × Unit) := sh30 16 x.1
/-! 31 baggage/fields.Letters -/
noncomputable def c31 : Code := Tryd.f31.body.getD .skip
def g31 : Sig := ⟨[.v (.ty .str), .v (.ty (.int .i64)), .v (.ty (.int .i64))], .v (.ty .bool)⟩
def h31 : HT := (.n (.r .x) (.j ⟨[(6, .d (.ty .bool))], [], []⟩ (.ri .x [(19, 0, (.n (.r .x) (.j ⟨[(17, .d (.ty .bool))], [], []⟩ (.n (.r .x) (.u (.l ⟨[(17, .d (.ty .bool)), (21, .d (.ty .str)), (22, .cst (.fn 49)), (28, .d (.ty (.int .i64))), (29, .d (.ty (.int .i64)))], [], []⟩ (.n (.r .x) (.n (.n .e .e) (.n (.u (.n (.r .x) (.n (.ri .x [(36, 0, (.n (.r .x) (.j ⟨[(17, .d (.ty .bool)), (21, .d (.ty .str)), (22, .cst (.fn 49)), (28, .d (.ty (.int .i64))), (29, .d (.ty (.int .i64))), (41, .d (.ty .bool))], [], []⟩ (.r .x) .e)))]) (.n (.n (.r .x) .e) .e)))) (.r .x))))))) (.n (.r .x) .e))))]) .e))
noncomputable def FT31 : List (Nat × Entry) := []
noncomputable def IT31 : List (Nat × Inl) := [(46, ⟨18, [.tmp 4], c46⟩), (49, ⟨9, [.tmp 2], c49⟩)]
def MT31 : MTab := []
noncomputable def sh31_K0 (z0 : Bool × Unit) : Option (Bool × Unit) :=
 some (z0.1, ())
noncomputable def sh31_K2 (j1 : Bool × Unit → Option (Bool × Unit)) (z2 : Bool × Unit) : Option (Bool × Unit) :=
 if z2.1 = true then j1 (true, ()) else j1 (false, ())
noncomputable def sh31_K5 (j1 : Bool × Unit → Option (Bool × Unit)) (rc4 : Bool × List UInt8 × Int × Int × Unit → Option (Bool × Unit)) (z5 : Bool × List UInt8 × Int × Int × Bool × Unit) : Option (Bool × Unit) :=
 if (!z5.2.2.2.2.1) = true then if z5.1 = true then j1 (false, ()) else j1 (false, ())
 else rc4 (z5.1, z5.2.1, z5.2.2.1, IntKind.i64.wrap (z5.2.2.2.1 + 1), ())
noncomputable def sh31_L4 (j1 : Bool × Unit → Option (Bool × Unit)) (j3 : Bool × Unit → Option (Bool × Unit)) (rc4 : Bool × List UInt8 × Int × Int × Unit → Option (Bool × Unit)) (z4 : Bool × List UInt8 × Int × Int × Unit) : Option (Bool × Unit) :=
 if decide (z4.2.2.2.1 < z4.2.2.1) = true then
 if inR z4.2.2.2.1 z4.2.1.length = true then
 joinK (sh31_K5 j1 rc4) fun (j6 : Bool × List UInt8 × Int × Int × Bool × Unit → Option (Bool × Unit)) =>
 if decide (65 ≤ sAt z4.2.1 z4.2.2.2.1) = true then j6 (z4.1, z4.2.1, z4.2.2.1, z4.2.2.2.1, decide (sAt z4.2.1 z4.2.2.2.1 ≤ 90), ())
 else j6 (z4.1, z4.2.1, z4.2.2.1, z4.2.2.2.1, false, ())
 else none
 else j3 (z4.1, ())
noncomputable def sh31 (fuel : Nat) (x0 : List UInt8) (x1 : Int) (x2 : Int) : Option (Bool × Unit) :=
 joinK sh31_K0 fun (j1 : Bool × Unit → Option (Bool × Unit)) =>
 if decide (x1 ≤ (↑x0.length : Int)) = true then
 if decide ((↑x0.length : Int) ≤ x2) = true then
 joinK (sh31_K2 j1) fun (j3 : Bool × Unit → Option (Bool × Unit)) => iter fuel (sh31_L4 j1 j3) (true, x0, (↑x0.length : Int), 0, ())
 else j1 (false, ())
 else j1 (false, ())
noncomputable def sp31 (x : (List UInt8) × (Int) × (Int) × Unit) : Option (Bool × Unit) := sh31 16 x.1 x.2.1 x.2.2.1
/-! 10 baggage/flight.Parse -/
noncomputable def c10 : Code := Tryd.f10.body.getD .skip
def g10 : Sig := ⟨[.v (.ty .str)], .tup [(.ag (.cons .str (.cons (.int .i64) (.cons .str (.cons (.int .i64) .nil))))), (.ty (.int .i64))]⟩
def h10 : HT := (.n (.r .x) (.n (.j ⟨[(0, .d (.ty .str)), (2, .ref 500000 4), (16, .d (.ty .bool))], [(500000, .box [.d .str, .d (.int .i64), .d .str, .d (.int .i64)])], []⟩ (.r .x) (.n (.n (.r .x) .e) .e)) (.n (.r .x) (.n (.r .x) (.n (.r .x) (.n (.u (.j ⟨[(0, .d (.ty .str)), (2, .ref 500001 4), (4, .d (.ty (.int .i64))), (5, .d (.ty (.int .i64))), (7, .d (.ty (.int .i64))), (35, .d (.ty .bool))], [(500001, .box [.d .str, .d (.int .i64), .d .str, .d (.int .i64)])], []⟩ (.n (.r .x) (.n .e (.n (.r .x) (.n .e (.n (.r .x) (.n .e (.n (.r .x) (.n .e (.r .x))))))))) (.n (.n (.r .x) .e) (.n (.r .x) (.n (.n (.r .x) .e) .e))))) (.n (.r (.qt 8)) .e)))))))
noncomputable def FT10 : List (Nat × Entry) := [(29, ⟨g29, sp29⟩), (30, ⟨g30, sp30⟩), (31, ⟨g31, sp31⟩)]
noncomputable def IT10 : List (Nat × Inl) := []
def MT10 : MTab := []
noncomputable def sh10_K3 (z3 : List UInt8 × Int × Int × Int × Bool × (List UInt8 × Int × List UInt8 × Int × Unit) × Unit) : Option (((List UInt8 × Int × List UInt8 × Int × Unit) × Int × Unit) × Unit) :=
 if z3.2.2.2.2.1 = true then some ((([], 0, [], 0, ()), 3, ()), ())
 else
 if (z3.2.2.1 == 0) = true then some ((([], 0, [], 0, ()), 1, ()), ())
 else
 if inCut 0 2 z3.1.length = true then
 if inCut 6 z3.2.1 z3.1.length = true then some (((cutL z3.1 0 2, z3.2.2.1, cutL z3.1 6 z3.2.1, z3.2.2.2.1, ()), 0, ()), ()) else none
 else none
noncomputable def sh10_K0 (z0 : List UInt8 × Bool × (List UInt8 × Int × List UInt8 × Int × Unit) × Unit) : Option (((List UInt8 × Int × List UInt8 × Int × Unit) × Int × Unit) × Unit) :=
 if z0.2.1 = true then some ((([], 0, [], 0, ()), 3, ()), ())
 else
 if inCut 2 6 z0.1.length = true then
 (sp29 (cutL z0.1 2 6, 4, ())).bind fun (r1 : (Int × Bool × Unit) × Unit) =>
 if inCut (IntKind.i64.wrap (IntKind.i64.wrap ((↑z0.1.length : Int) - 3) + 1)) (↑z0.1.length : Int) z0.1.length = true then
 (sp29 (cutL z0.1 (IntKind.i64.wrap (IntKind.i64.wrap ((↑z0.1.length : Int) - 3) + 1)) (↑z0.1.length : Int), 2, ())).bind
 fun (r2 : (Int × Bool × Unit) × Unit) =>
 joinK sh10_K3
 fun
 (j4 :
 List UInt8 × Int × Int × Int × Bool × (List UInt8 × Int × List UInt8 × Int × Unit) × Unit →
 Option (((List UInt8 × Int × List UInt8 × Int × Unit) × Int × Unit) × Unit)) =>
 if inCut 0 2 z0.1.length = true then
 (sp30 (cutL z0.1 0 2, ())).bind fun (r5 : Bool × Unit) =>
 if (!r5.1) = true then
 j4
 (z0.1, IntKind.i64.wrap ((↑z0.1.length : Int) - 3), r1.1.1, r2.1.1, !r5.1,
 (z0.2.2.1.1, z0.2.2.1.2.1, z0.2.2.1.2.2.1, z0.2.2.1.2.2.2.1, ()), ())
 else
 if (!r1.1.2.1) = true then
 j4
 (z0.1, IntKind.i64.wrap ((↑z0.1.length : Int) - 3), r1.1.1, r2.1.1, !r1.1.2.1,
 (z0.2.2.1.1, z0.2.2.1.2.1, z0.2.2.1.2.2.1, z0.2.2.1.2.2.2.1, ()), ())
 else
 if (!r2.1.2.1) = true then
 j4
 (z0.1, IntKind.i64.wrap ((↑z0.1.length : Int) - 3), r1.1.1, r2.1.1, !r2.1.2.1,
 (z0.2.2.1.1, z0.2.2.1.2.1, z0.2.2.1.2.2.1, z0.2.2.1.2.2.2.1, ()), ())
 else
 if inR (IntKind.i64.wrap ((↑z0.1.length : Int) - 3)) z0.1.length = true then
 if (sAt z0.1 (IntKind.i64.wrap ((↑z0.1.length : Int) - 3)) != 47) = true then
 j4
 (z0.1, IntKind.i64.wrap ((↑z0.1.length : Int) - 3), r1.1.1, r2.1.1,
 sAt z0.1 (IntKind.i64.wrap ((↑z0.1.length : Int) - 3)) != 47,
 (z0.2.2.1.1, z0.2.2.1.2.1, z0.2.2.1.2.2.1, z0.2.2.1.2.2.2.1, ()), ())
 else
 if inCut 6 (IntKind.i64.wrap ((↑z0.1.length : Int) - 3)) z0.1.length = true then
 (sp31 (cutL z0.1 6 (IntKind.i64.wrap ((↑z0.1.length : Int) - 3)), 0, 1, ())).bind fun (r6 : Bool × Unit) =>
 j4
 (z0.1, IntKind.i64.wrap ((↑z0.1.length : Int) - 3), r1.1.1, r2.1.1, !r6.1,
 (z0.2.2.1.1, z0.2.2.1.2.1, z0.2.2.1.2.2.1, z0.2.2.1.2.2.2.1, ()), ())
 else none
 else none
 else none
 else none
 else none
noncomputable def sh10 (fuel : Nat) (x0 : List UInt8) : Option (((List UInt8 × Int × List UInt8 × Int × Unit) × Int × Unit) × Unit) :=
 joinK sh10_K0
 fun
 (j7 :
 List UInt8 × Bool × (List UInt8 × Int × List UInt8 × Int × Unit) × Unit →
 Option (((List UInt8 × Int × List UInt8 × Int × Unit) × Int × Unit) × Unit)) =>
 if ((↑x0.length : Int) != 9) = true then j7 (x0, (↑x0.length : Int) != 10, ([], 0, [], 0, ()), ()) else j7 (x0, false, ([], 0, [], 0, ()), ())
noncomputable def sp10 (x : (List UInt8) × Unit) : Option (((List UInt8 × Int × List UInt8 × Int × Unit) × Int × Unit) × Unit) := sh10 0 x.1
/-! 12 baggage/flight.Valid -/
noncomputable def c12 : Code := Tryd.f12.body.getD .skip
def g12 : Sig := ⟨[.v (.ag (.cons .str (.cons (.int .i64) (.cons .str (.cons (.int .i64) .nil)))))], .v (.ty .bool)⟩
def h12 : HT := (.n (.r .x) (.j ⟨[(2, .d (.ty .bool))], [], []⟩ (.r .x) .e))
noncomputable def FT12 : List (Nat × Entry) := [(30, ⟨g30, sp30⟩), (31, ⟨g31, sp31⟩)]
noncomputable def IT12 : List (Nat × Inl) := []
def MT12 : MTab := []
noncomputable def sh12_K0 (z0 : Bool × Unit) : Option (Bool × Unit) :=
 some (z0.1, ())
noncomputable def sh12 (fuel : Nat) (x0 : List UInt8 × Int × List UInt8 × Int × Unit) : Option (Bool × Unit) :=
 joinK sh12_K0 fun (j1 : Bool × Unit → Option (Bool × Unit)) =>
 (sp30 (x0.1, ())).bind fun (r2 : Bool × Unit) =>
 if r2.1 = true then
 if decide (1 ≤ x0.2.1) = true then
 if decide (x0.2.1 ≤ 9999) = true then
 (sp31 (x0.2.2.1, 0, 1, ())).bind fun (r3 : Bool × Unit) =>
 if r3.1 = true then if decide (0 ≤ x0.2.2.2.1) = true then j1 (decide (x0.2.2.2.1 ≤ 99), ()) else j1 (false, ()) else j1 (false, ())
 else j1 (false, ())
 else j1 (false, ())
 else j1 (false, ())
noncomputable def sp12 (x : (List UInt8 × Int × List UInt8 × Int × Unit) × Unit) : Option (Bool × Unit) := sh12 0 x.1
/-! 70 math/bits.Mul32 -/
noncomputable def c70 : Code := Tryd.f70.body.getD .skip
def g70 : Sig := ⟨[.v (.ty (.int .u32)), .v (.ty (.int .u32))], .tup [(.ty (.int .u32)), (.ty (.int .u32))]⟩
def h70 : HT := (.n (.r .x) (.n (.r .x) (.n (.r .x) .e)))
noncomputable def FT70 : List (Nat × Entry) := []
noncomputable def IT70 : List (Nat × Inl) := []
def MT70 : MTab := []
noncomputable def sh70 (fuel : Nat) (x0 : Int) (x1 : Int) : Option ((Int × Int × Unit) × Unit) :=
 if decide (0 ≤ 32) = true then
 some
 ((IntKind.u32.wrap ((IntKind.u64.wrap (IntKind.u64.wrap x0 * IntKind.u64.wrap x1)).fdiv (2 ^ min (Int.toNat 32) IntKind.u64.bits)),
 IntKind.u32.wrap (IntKind.u64.wrap (IntKind.u64.wrap x0 * IntKind.u64.wrap x1)), ()),
 ())
 else none
noncomputable def sp70 (x : (Int) × (Int) × Unit) : Option ((Int × Int × Unit) × Unit) := sh70 0 x.1 x.2.1
/-! 71 math/bits.Mul64 -/
noncomputable def c71 : Code := Tryd.f71.body.getD .skip
def g71 : Sig := ⟨[.v (.ty (.int .u64)), .v (.ty (.int .u64))], .tup [(.ty (.int .u64)), (.ty (.int .u64))]⟩
def h71 : HT := (.n (.r .x) (.n (.r .x) (.n (.r .x) (.n (.r .x) (.n (.r .x) (.n (.r .x) (.n (.r .x) (.n (.r .x) (.n (.r .x) (.n (.r .x) (.n (.r .x) (.n (.r .x) .e))))))))))))
noncomputable def FT71 : List (Nat × Entry) := []
noncomputable def IT71 : List (Nat × Inl) := []
def MT71 : MTab := []
noncomputable def sh71 (fuel : Nat) (x0 : Int) (x1 : Int) : Option ((Int × Int × Unit) × Unit) :=
 if decide (0 ≤ 32) = true then
 if decide (0 ≤ 32) = true then
 if decide (0 ≤ 32) = true then
 if decide (0 ≤ 32) = true then
 if decide (0 ≤ 32) = true then
 some
 ((IntKind.u64.wrap
 (IntKind.u64.wrap
 (IntKind.u64.wrap (x0.fdiv (2 ^ min (Int.toNat 32) IntKind.u64.bits) * x1.fdiv (2 ^ min (Int.toNat 32) IntKind.u64.bits)) +
 (IntKind.u64.wrap
 (IntKind.u64.wrap
 (x0.fdiv (2 ^ min (Int.toNat 32) IntKind.u64.bits) *
 IntKind.u64.wrap (↑(BitVec.ofInt IntKind.u64.bits x1 &&& BitVec.ofInt IntKind.u64.bits 4294967295).toNat : Int)) +
 (IntKind.u64.wrap
 (IntKind.u64.wrap
 (↑(BitVec.ofInt IntKind.u64.bits x0 &&& BitVec.ofInt IntKind.u64.bits 4294967295).toNat : Int) *
 IntKind.u64.wrap
 (↑(BitVec.ofInt IntKind.u64.bits x1 &&& BitVec.ofInt IntKind.u64.bits 4294967295).toNat : Int))).fdiv
 (2 ^ min (Int.toNat 32) IntKind.u64.bits))).fdiv
 (2 ^ min (Int.toNat 32) IntKind.u64.bits)) +
 (IntKind.u64.wrap
 (IntKind.u64.wrap
 (↑(BitVec.ofInt IntKind.u64.bits
 (IntKind.u64.wrap
 (IntKind.u64.wrap
 (x0.fdiv (2 ^ min (Int.toNat 32) IntKind.u64.bits) *
 IntKind.u64.wrap
 (↑(BitVec.ofInt IntKind.u64.bits x1 &&& BitVec.ofInt IntKind.u64.bits 4294967295).toNat : Int)) +
 (IntKind.u64.wrap
 (IntKind.u64.wrap
 (↑(BitVec.ofInt IntKind.u64.bits x0 &&& BitVec.ofInt IntKind.u64.bits 4294967295).toNat : Int) *
 IntKind.u64.wrap
 (↑(BitVec.ofInt IntKind.u64.bits x1 &&& BitVec.ofInt IntKind.u64.bits 4294967295).toNat :
 Int))).fdiv
 (2 ^ min (Int.toNat 32) IntKind.u64.bits))) &&&
 BitVec.ofInt IntKind.u64.bits 4294967295).toNat :
 Int) +
 IntKind.u64.wrap
 (IntKind.u64.wrap (↑(BitVec.ofInt IntKind.u64.bits x0 &&& BitVec.ofInt IntKind.u64.bits 4294967295).toNat : Int) *
 x1.fdiv (2 ^ min (Int.toNat 32) IntKind.u64.bits)))).fdiv
 (2 ^ min (Int.toNat 32) IntKind.u64.bits)),
 IntKind.u64.wrap (x0 * x1), ()),
 ())
 else none
 else none
 else none
 else none
 else none
noncomputable def sp71 (x : (Int) × (Int) × Unit) : Option ((Int × Int × Unit) × Unit) := sh71 0 x.1 x.2.1
/-! 58 math/bits.Mul -/
noncomputable def c58 : Code := Tryd.f58.body.getD .skip
def g58 : Sig := ⟨[.v (.ty (.int .u64)), .v (.ty (.int .u64))], .tup [(.ty (.int .u64)), (.ty (.int .u64))]⟩
def h58 : HT := (.n (.r .x) (.n (.n (.n (.r .x) (.n (.r .x) .e)) .e) (.n (.r .x) (.n (.r .x) .e))))
noncomputable def FT58 : List (Nat × Entry) := [(70, ⟨g70, sp70⟩), (71, ⟨g71, sp71⟩)]
noncomputable def IT58 : List (Nat × Inl) := []
def MT58 : MTab := []
noncomputable def sh58 (fuel : Nat) (x0 : Int) (x1 : Int) : Option ((Int × Int × Unit) × Unit) :=
 (sp71 (x0, x1, ())).bind fun (r0 : (Int × Int × Unit) × Unit) => some ((r0.1.1, r0.1.2.1, ()), ())
noncomputable def sp58 (x : (Int) × (Int) × Unit) : Option ((Int × Int × Unit) × Unit) := sh58 0 x.1 x.2.1
/-! 72 internal/stringslite.HasPrefix -/
noncomputable def c72 : Code := Tryd.f72.body.getD .skip
def g72 : Sig := ⟨[.v (.ty .str), .v (.ty .str)], .v (.ty .bool)⟩
def h72 : HT := (.n (.r .x) (.j ⟨[(4, .d (.ty .bool))], [], []⟩ (.r .x) .e))
noncomputable def FT72 : List (Nat × Entry) := []
noncomputable def IT72 : List (Nat × Inl) := []
def MT72 : MTab := []
noncomputable def sh72_K0 (z0 : Bool × Unit) : Option (Bool × Unit) :=
 some (z0.1, ())
noncomputable def sh72 (fuel : Nat) (x0 : List UInt8) (x1 : List UInt8) : Option (Bool × Unit) :=
 joinK sh72_K0 fun (j1 : Bool × Unit → Option (Bool × Unit)) =>
 if decide ((↑x1.length : Int) ≤ (↑x0.length : Int)) = true then
 if inCut 0 (↑x1.length : Int) x0.length = true then j1 (cutL x0 0 (↑x1.length : Int) == x1, ()) else none
 else j1 (false, ())
noncomputable def sp72 (x : (List UInt8) × (List UInt8) × Unit) : Option (Bool × Unit) := sh72 0 x.1 x.2.1
/-! 59 strings.HasPrefix -/
noncomputable def c59 : Code := Tryd.f59.body.getD .skip
def g59 : Sig := ⟨[.v (.ty .str), .v (.ty .str)], .v (.ty .bool)⟩
def h59 : HT := (.n (.r .x) (.n (.r .x) .e))
noncomputable def FT59 : List (Nat × Entry) := [(72, ⟨g72, sp72⟩)]
noncomputable def IT59 : List (Nat × Inl) := []
def MT59 : MTab := []
noncomputable def sh59 (fuel : Nat) (x0 : List UInt8) (x1 : List UInt8) : Option (Bool × Unit) :=
 (sp72 (x0, x1, ())).bind fun (r0 : Bool × Unit) => some (r0.1, ())
noncomputable def sp59 (x : (List UInt8) × (List UInt8) × Unit) : Option (Bool × Unit) := sh59 0 x.1 x.2.1
/-! 52 strings.Repeat -/
noncomputable def c52 : Code := Tryd.f52.body.getD .skip
def g52 : Sig := ⟨[.v (.ty .str), .v (.ty (.int .i64))], .v (.ty .str)⟩
-- DEAD 52: operation not known at strings.go:609: dst none
-- DEAD 52: operation not known at strings.go:613: dst none
-- DEAD 52: alloc 78 at strings.go:657: dst (some 9)
def h52 : HT := (.n (.r .x) (.n (.n (.r .x) (.u (.n (.r .x) (.n (.n (.r .x) .e) (.n (.r .x) (.n (.n (.r .x) .e) .e)))))) (.n (.n (.r .x) (.n .e .e)) (.n (.r .x) (.n (.j ⟨[(0, .d (.ty .str)), (6, .d (.ty (.int .u64))), (34, .d (.ty .bool))], [], []⟩ (.r .x) (.n .e .e)) (.n (.r .x) (.n (.n (.r .x) (.n (.n (.r .x) .e) .e)) (.j ⟨[(0, .d (.ty .str)), (7, .d (.ty (.int .i64)))], [], []⟩ (.n (.r .x) (.u (.j ⟨[(0, .d (.ty .str)), (7, .d (.ty (.int .i64))), (43, .d (.ty .bool))], [], []⟩ (.n (.r .x) (.n .e (.n (.r .x) (.n .e (.n (.r .x) (.n .e (.n (.r .x) (.n .e (.r .x))))))))) (.n (.u (.j ⟨[(0, .d (.ty .str)), (7, .d (.ty (.int .i64))), (49, .d (.ty .bool))], [], []⟩ (.r .x) (.n (.n (.r .x) .e) (.j ⟨[(0, .d (.ty .str)), (7, .d (.ty (.int .i64))), (58, .d (.ty .bool))], [], []⟩ (.r .x) (.n (.n (.r .x) .e) (.j ⟨[(0, .d (.ty .str)), (7, .d (.ty (.int .i64))), (67, .d (.ty .bool))], [], []⟩ (.r .x) (.n (.n (.r .x) .e) (.j ⟨[(0, .d (.ty .str)), (7, .d (.ty (.int .i64))), (76, .d (.ty .bool))], [], []⟩ (.r .x) (.n (.n (.r .x) .e) (.j ⟨[(0, .d (.ty .str)), (7, .d (.ty (.int .i64))), (85, .d (.ty .bool))], [], []⟩ (.r .x) (.n (.n (.r .x) .e) .e))))))))))) .e)))) (.n (.r .x) (.j ⟨[(0, .d (.ty .str)), (7, .d (.ty (.int .i64))), (8, .d (.ty (.int .i64)))], [], []⟩ (.n (.r .x) (.n (.n (.r .x) (.n (.r .x) (.n (.r .x) .e))) .e)) (.n .e .e)))))))))))
noncomputable def FT52 : List (Nat × Entry) := [(58, ⟨g58, sp58⟩), (59, ⟨g59, sp59⟩)]
noncomputable def IT52 : List (Nat × Inl) := []
def MT52 : MTab := []
noncomputable def sh52_K3 (z3 : List UInt8 × Int × Int × Unit) : Option (List UInt8 × Unit) :=
 none
noncomputable def sh52_K2 (z2 : List UInt8 × Int × Unit) : Option (List UInt8 × Unit) :=
 joinK sh52_K3 fun (j4 : List UInt8 × Int × Int × Unit → Option (List UInt8 × Unit)) =>
 if decide (8192 < z2.2.1) = true then
 if ((↑z2.1.length : Int) != 0) = true then
 if (IntKind.i64.wrap (IntKind.i64.wrap (Int.tdiv 8192 (↑z2.1.length : Int)) * (↑z2.1.length : Int)) == 0) = true then
 j4 (z2.1, z2.2.1, (↑z2.1.length : Int), ())
 else j4 (z2.1, z2.2.1, IntKind.i64.wrap (IntKind.i64.wrap (Int.tdiv 8192 (↑z2.1.length : Int)) * (↑z2.1.length : Int)), ())
 else none
 else j4 (z2.1, z2.2.1, z2.2.1, ())
noncomputable def sh52_K11 (j5 : List UInt8 × Int × Unit → Option (List UInt8 × Unit)) (z11 : List UInt8 × Int × Bool × Unit) : Option (List UInt8 × Unit) :=
 if z11.2.2.1 = true then
 if
 inCut 0 z11.2.1
 lit3.length =
 true then
 some
 (cutL
 lit3
 0 z11.2.1,
 ())
 else none
 else j5 (z11.1, z11.2.1, ())
noncomputable def sh52_K10 (j5 : List UInt8 × Int × Unit → Option (List UInt8 × Unit)) (z10 : List UInt8 × Int × Bool × Unit) : Option (List UInt8 × Unit) :=
 if z10.2.2.1 = true then
 if
 inCut 0 z10.2.1
 lit4.length =
 true then
 some
 (cutL
 lit4
 0 z10.2.1,
 ())
 else none
 else
 joinK (sh52_K11 j5) fun (j12 : List UInt8 × Int × Bool × Unit → Option (List UInt8 × Unit)) =>
 if decide (z10.2.1 ≤ 64) = true then
 (sp59
 (lit3,
 z10.1, ())).bind
 fun (r13 : Bool × Unit) => j12 (z10.1, z10.2.1, r13.1, ())
 else j12 (z10.1, z10.2.1, false, ())
noncomputable def sh52_K9 (j5 : List UInt8 × Int × Unit → Option (List UInt8 × Unit)) (z9 : List UInt8 × Int × Bool × Unit) : Option (List UInt8 × Unit) :=
 if z9.2.2.1 = true then
 if
 inCut 0 z9.2.1
 lit5.length =
 true then
 some
 (cutL
 lit5
 0 z9.2.1,
 ())
 else none
 else
 joinK (sh52_K10 j5) fun (j14 : List UInt8 × Int × Bool × Unit → Option (List UInt8 × Unit)) =>
 if decide (z9.2.1 ≤ 128) = true then
 (sp59
 (lit4,
 z9.1, ())).bind
 fun (r15 : Bool × Unit) => j14 (z9.1, z9.2.1, r15.1, ())
 else j14 (z9.1, z9.2.1, false, ())
noncomputable def sh52_K8 (j5 : List UInt8 × Int × Unit → Option (List UInt8 × Unit)) (z8 : List UInt8 × Int × Bool × Unit) : Option (List UInt8 × Unit) :=
 if z8.2.2.1 = true then
 if
 inCut 0 z8.2.1
 lit6.length =
 true then
 some
 (cutL
 lit6
 0 z8.2.1,
 ())
 else none
 else
 joinK (sh52_K9 j5) fun (j16 : List UInt8 × Int × Bool × Unit → Option (List UInt8 × Unit)) =>
 if decide (z8.2.1 ≤ 64) = true then
 (sp59
 (lit5,
 z8.1, ())).bind
 fun (r17 : Bool × Unit) => j16 (z8.1, z8.2.1, r17.1, ())
 else j16 (z8.1, z8.2.1, false, ())
noncomputable def sh52_K7 (j5 : List UInt8 × Int × Unit → Option (List UInt8 × Unit)) (z7 : List UInt8 × Int × Bool × Unit) : Option (List UInt8 × Unit) :=
 if z7.2.2.1 = true then
 if
 inCut 0 z7.2.1
 lit7.length =
 true then
 some
 (cutL
 lit7
 0 z7.2.1,
 ())
 else none
 else
 joinK (sh52_K8 j5) fun (j18 : List UInt8 × Int × Bool × Unit → Option (List UInt8 × Unit)) =>
 if decide (z7.2.1 ≤ 128) = true then
 (sp59
 (lit6,
 z7.1, ())).bind
 fun (r19 : Bool × Unit) => j18 (z7.1, z7.2.1, r19.1, ())
 else j18 (z7.1, z7.2.1, false, ())
noncomputable def sh52_K6 (j5 : List UInt8 × Int × Unit → Option (List UInt8 × Unit)) (z6 : List UInt8 × Int × Bool × Unit) : Option (List UInt8 × Unit) :=
 if z6.2.2.1 = true then
 joinK (sh52_K7 j5) fun (j20 : List UInt8 × Int × Bool × Unit → Option (List UInt8 × Unit)) =>
 if decide (z6.2.1 ≤ 128) = true then
 (sp59
 (lit7,
 z6.1, ())).bind
 fun (r21 : Bool × Unit) => j20 (z6.1, z6.2.1, r21.1, ())
 else j20 (z6.1, z6.2.1, false, ())
 else j5 (z6.1, z6.2.1, ())
noncomputable def sh52_K1 (z1 : List UInt8 × Int × Bool × Unit) : Option (List UInt8 × Unit) :=
 if z1.2.2.1 = true then none
 else
 if ((↑z1.1.length : Int) == 0) = true then some ([], ())
 else
 joinK sh52_K2 fun (j5 : List UInt8 × Int × Unit → Option (List UInt8 × Unit)) =>
 if inR 0 z1.1.length = true then
 joinK (sh52_K6 j5) fun (j22 : List UInt8 × Int × Bool × Unit → Option (List UInt8 × Unit)) =>
 if (sAt z1.1 0 == 32) = true then j22 (z1.1, IntKind.i64.wrap z1.2.1, sAt z1.1 0 == 32, ())
 else
 if (sAt z1.1 0 == 45) = true then j22 (z1.1, IntKind.i64.wrap z1.2.1, sAt z1.1 0 == 45, ())
 else
 if (sAt z1.1 0 == 48) = true then j22 (z1.1, IntKind.i64.wrap z1.2.1, sAt z1.1 0 == 48, ())
 else
 if (sAt z1.1 0 == 61) = true then j22 (z1.1, IntKind.i64.wrap z1.2.1, sAt z1.1 0 == 61, ())
 else j22 (z1.1, IntKind.i64.wrap z1.2.1, sAt z1.1 0 == 9, ())
 else none
noncomputable def sh52 (fuel : Nat) (x0 : List UInt8) (x1 : Int) : Option (List UInt8 × Unit) :=
 if (x1 == 0) = true then some ([], ())
 else
 if (x1 == 1) = true then some (x0, ())
 else
 if decide (x1 < 0) = true then none
 else
 (sp58 (IntKind.u64.wrap (↑x0.length : Int), IntKind.u64.wrap x1, ())).bind fun (r0 : (Int × Int × Unit) × Unit) =>
 joinK sh52_K1 fun (j23 : List UInt8 × Int × Bool × Unit → Option (List UInt8 × Unit)) =>
 if decide (0 < r0.1.1) = true then j23 (x0, r0.1.2.1, true, ()) else j23 (x0, r0.1.2.1, decide (9223372036854775807 < r0.1.2.1), ())
noncomputable def sp52 (x : (List UInt8) × (Int) × Unit) : Option (List UInt8 × Unit) := sh52 0 x.1 x.2.1
/-! 36 baggage/fields.Pad -/
noncomputable def c36 : Code := Tryd.f36.body.getD .skip
def g36 : Sig := ⟨[.v (.ty (.int .i64)), .v (.ty (.int .i64))], .v (.ty .str)⟩
def h36 : HT := (.n (.r .x) (.n (.r .x) (.n (.r .x) .e)))
noncomputable def FT36 : List (Nat × Entry) := [(51, ⟨g51, sp51⟩), (52, ⟨g52, sp52⟩)]
noncomputable def IT36 : List (Nat × Inl) := []
def MT36 : MTab := []
noncomputable def sh36 (fuel : Nat) (x0 : Int) (x1 : Int) : Option (List UInt8 × Unit) :=
 (sp51 (x0, ())).bind fun (r0 : List UInt8 × Unit) =>
 (sp52 ([48], if IntKind.i64.wrap (x1 - (↑r0.1.length : Int)) > 0 then IntKind.i64.wrap (x1 - (↑r0.1.length : Int)) else 0, ())).bind
 fun (r1 : List UInt8 × Unit) => if decide (r1.1.length + r0.1.length ≤ Abs.lim) = true then some (r1.1 ++ r0.1, ()) else none
noncomputable def sp36 (x : (Int) × (Int) × Unit) : Option (List UInt8 × Unit) := sh36 0 x.1 x.2.1
/-! 14 baggage/flight.Designator -/
noncomputable def c14 : Code := Tryd.f14.body.getD .skip
def g14 : Sig := ⟨[.v (.ag (.cons .str (.cons (.int .i64) (.cons .str (.cons (.int .i64) .nil)))))], .v (.ty .str)⟩
def h14 : HT := (.n (.r .x) (.n (.n (.r .x) (.n (.n (.r .x) .e) .e)) (.n (.r .q) .e)))
noncomputable def FT14 : List (Nat × Entry) := [(12, ⟨g12, sp12⟩), (36, ⟨g36, sp36⟩)]
noncomputable def IT14 : List (Nat × Inl) := []
def MT14 : MTab := []
noncomputable def sh14 (fuel : Nat) (x0 : List UInt8 × Int × List UInt8 × Int × Unit) : Option (List UInt8 × Unit) :=
 (sp12 ((x0.1, x0.2.1, x0.2.2.1, x0.2.2.2.1, ()), ())).bind fun (r0 : Bool × Unit) =>
 if (!r0.1) = true then some ([], ())
 else
 (sp36 (x0.2.1, 4, ())).bind fun (r1 : List UInt8 × Unit) =>
 if decide (x0.1.length + r1.1.length ≤ Abs.lim) = true then
 if decide ((x0.1 ++ r1.1).length + x0.2.2.1.length ≤ Abs.lim) = true then some (x0.1 ++ r1.1 ++ x0.2.2.1, ()) else none
 else none
noncomputable def sp14 (x : (List UInt8 × Int × List UInt8 × Int × Unit) × Unit) : Option (List UInt8 × Unit) := sh14 0 x.1
/-! 16 baggage/flight.Format -/
noncomputable def c16 : Code := Tryd.f16.body.getD .skip
def g16 : Sig := ⟨[.v (.ag (.cons .str (.cons (.int .i64) (.cons .str (.cons (.int .i64) .nil)))))], .v (.ty .str)⟩
def h16 : HT := (.n (.r .x) (.n (.n (.r .x) (.n (.n (.r .x) .e) .e)) (.n (.r .q) .e)))
noncomputable def FT16 : List (Nat × Entry) := [(12, ⟨g12, sp12⟩), (14, ⟨g14, sp14⟩), (36, ⟨g36, sp36⟩)]
noncomputable def IT16 : List (Nat × Inl) := []
def MT16 : MTab := []
noncomputable def sh16 (fuel : Nat) (x0 : List UInt8 × Int × List UInt8 × Int × Unit) : Option (List UInt8 × Unit) :=
 (sp12 ((x0.1, x0.2.1, x0.2.2.1, x0.2.2.2.1, ()), ())).bind fun (r0 : Bool × Unit) =>
 if (!r0.1) = true then some ([], ())
 else
 (sp14 ((x0.1, x0.2.1, x0.2.2.1, x0.2.2.2.1, ()), ())).bind fun (r1 : List UInt8 × Unit) =>
 if decide (r1.1.length + [47].length ≤ Abs.lim) = true then
 (sp36 (x0.2.2.2.1, 2, ())).bind fun (r2 : List UInt8 × Unit) =>
 if decide ((r1.1 ++ [47]).length + r2.1.length ≤ Abs.lim) = true then some (r1.1 ++ [47] ++ r2.1, ()) else none
 else none
noncomputable def sp16 (x : (List UInt8 × Int × List UInt8 × Int × Unit) × Unit) : Option (List UInt8 × Unit) := sh16 0 x.1
/-! 23 baggage/flight.ValidPort -/
noncomputable def c23 : Code := Tryd.f23.body.getD .skip
def g23 : Sig := ⟨[.v (.ty .str)], .v (.ty .bool)⟩
def h23 : HT := (.n (.r .x) (.n (.r .x) .e))
noncomputable def FT23 : List (Nat × Entry) := [(31, ⟨g31, sp31⟩)]
noncomputable def IT23 : List (Nat × Inl) := []
def MT23 : MTab := []
noncomputable def sh23 (fuel : Nat) (x0 : List UInt8) : Option (Bool × Unit) :=
 (sp31 (x0, 3, 3, ())).bind fun (r0 : Bool × Unit) => some (r0.1, ())
noncomputable def sp23 (x : (List UInt8) × Unit) : Option (Bool × Unit) := sh23 0 x.1
/-! 9 baggage/baggagelaw02.awake -/
noncomputable def c9 : Code := Tryd.f9.body.getD .skip
def g9 : Sig := ⟨[], .v (.ty .bool)⟩
def h9 : HT := (.n (.r .x) (.n (.r .x) (.j ⟨[(0, .d (.ty .bool))], [], []⟩ (.r .x) .e)))
noncomputable def FT9 : List (Nat × Entry) := [(10, ⟨g10, sp10⟩), (16, ⟨g16, sp16⟩), (23, ⟨g23, sp23⟩)]
noncomputable def IT9 : List (Nat × Inl) := []
def MT9 : MTab := []
noncomputable def sh9_K1 (z1 : Bool × Unit) : Option (Bool × Unit) :=
 some (z1.1, ())
noncomputable def sh9 (fuel : Nat) : Option (Bool × Unit) :=
 (sp10 ([83, 75, 48, 49, 50, 51, 65, 47, 48, 55], ())).bind fun (r0 : ((List UInt8 × Int × List UInt8 × Int × Unit) × Int × Unit) × Unit) =>
 joinK sh9_K1 fun (j2 : Bool × Unit → Option (Bool × Unit)) =>
 if (r0.1.2.1 == 0) = true then
 if (r0.1.1.1 == [83, 75] && (r0.1.1.2.1 == 123 && (r0.1.1.2.2.1 == [65] && (r0.1.1.2.2.2.1 == 7 && true)))) = true then
 (sp16 ((r0.1.1.1, r0.1.1.2.1, r0.1.1.2.2.1, r0.1.1.2.2.2.1, ()), ())).bind fun (r3 : List UInt8 × Unit) =>
 if (r3.1 == [83, 75, 48, 49, 50, 51, 65, 47, 48, 55]) = true then (sp23 ([67, 80, 72], ())).bind fun (r4 : Bool × Unit) => j2 (r4.1, ())
 else j2 (false, ())
 else j2 (false, ())
 else j2 (false, ())
noncomputable def sp9 (x : Unit) : Option (Bool × Unit) := sh9 0 
/-! 41 baggage/baggageref02.Letter -/
noncomputable def c41 : Code := Tryd.f41.body.getD .skip
def g41 : Sig := ⟨[.v (.ty (.int .u8))], .v (.ty .bool)⟩
def h41 : HT := (.n (.r .x) (.j ⟨[(2, .d (.ty .bool))], [], []⟩ (.r .x) .e))
noncomputable def FT41 : List (Nat × Entry) := []
noncomputable def IT41 : List (Nat × Inl) := []
def MT41 : MTab := []
noncomputable def sh41_K0 (z0 : Bool × Unit) : Option (Bool × Unit) :=
 some (z0.1, ())
noncomputable def sh41 (fuel : Nat) (x0 : Int) : Option (Bool × Unit) :=
 joinK sh41_K0 fun (j1 : Bool × Unit → Option (Bool × Unit)) => if decide (65 ≤ x0) = true then j1 (decide (x0 ≤ 90), ()) else j1 (false, ())
noncomputable def sp41 (x : (Int) × Unit) : Option (Bool × Unit) := sh41 0 x.1
/-! 50 baggage/baggageref02.Digit -/
noncomputable def c50 : Code := Tryd.f50.body.getD .skip
def g50 : Sig := ⟨[.v (.ty (.int .u8))], .v (.ty .bool)⟩
def h50 : HT := (.n (.r .x) (.j ⟨[(2, .d (.ty .bool))], [], []⟩ (.r .x) .e))
noncomputable def FT50 : List (Nat × Entry) := []
noncomputable def IT50 : List (Nat × Inl) := []
def MT50 : MTab := []
noncomputable def sh50_K0 (z0 : Bool × Unit) : Option (Bool × Unit) :=
 some (z0.1, ())
noncomputable def sh50 (fuel : Nat) (x0 : Int) : Option (Bool × Unit) :=
 joinK sh50_K0 fun (j1 : Bool × Unit → Option (Bool × Unit)) => if decide (48 ≤ x0) = true then j1 (decide (x0 ≤ 57), ()) else j1 (false, ())
noncomputable def sp50 (x : (Int) × Unit) : Option (Bool × Unit) := sh50 0 x.1
/-! 32 baggage/baggageref02.Carrier -/
noncomputable def c32 : Code := Tryd.f32.body.getD .skip
def g32 : Sig := ⟨[.v (.ty .str)], .v (.ty .bool)⟩
def h32 : HT := (.n (.r .x) (.n (.n (.r .x) (.n (.n (.r .x) .e) .e)) (.n (.r .q) (.j ⟨[(2, .d (.ty .bool))], [], []⟩ (.r .x) .e))))
noncomputable def FT32 : List (Nat × Entry) := [(41, ⟨g41, sp41⟩), (50, ⟨g50, sp50⟩)]
noncomputable def IT32 : List (Nat × Inl) := []
def MT32 : MTab := []
noncomputable def sh32_K2 (z2 : Bool × Unit) : Option (Bool × Unit) :=
 some (z2.1, ())
noncomputable def sh32 (fuel : Nat) (x0 : List UInt8) : Option (Bool × Unit) :=
 if ((↑x0.length : Int) != 2) = true then some (false, ())
 else
 if inR 0 x0.length = true then
 (sp41 (sAt x0 0, ())).bind fun (r0 : Bool × Unit) =>
 if inR 1 x0.length = true then
 (sp41 (sAt x0 1, ())).bind fun (r1 : Bool × Unit) =>
 joinK sh32_K2 fun (j3 : Bool × Unit → Option (Bool × Unit)) =>
 if r0.1 = true then
 if r1.1 = true then if r0.1 = true then j3 (true, ()) else j3 (r1.1, ())
 else
 if inR 1 x0.length = true then
 (sp50 (sAt x0 1, ())).bind fun (r4 : Bool × Unit) =>
 if r4.1 = true then if r0.1 = true then j3 (true, ()) else j3 (r1.1, ()) else j3 (false, ())
 else none
 else
 if inR 0 x0.length = true then
 (sp50 (sAt x0 0, ())).bind fun (r5 : Bool × Unit) =>
 if r5.1 = true then
 if r1.1 = true then if r0.1 = true then j3 (true, ()) else j3 (r1.1, ())
 else
 if inR 1 x0.length = true then
 (sp50 (sAt x0 1, ())).bind fun (r6 : Bool × Unit) =>
 if r6.1 = true then if r0.1 = true then j3 (true, ()) else j3 (r1.1, ()) else j3 (false, ())
 else none
 else j3 (false, ())
 else none
 else none
 else none
noncomputable def sp32 (x : (List UInt8) × Unit) : Option (Bool × Unit) := sh32 0 x.1
/-! 33 baggage/baggageref01.All -/
noncomputable def c33 : Code := Tryd.f33.body.getD .skip
def g33 : Sig := ⟨[.v (.ty .str)], .v (.ty .bool)⟩
def h33 : HT := (.n (.r .x) (.j ⟨[], [], []⟩ (.n (.r .x) (.u (.l ⟨[(0, .d (.ty .str)), (3, .d (.ty (.int .i64)))], [], []⟩ (.n (.n (.r .x) (.n .e .e)) (.n (.u (.j ⟨[(0, .d (.ty .str)), (3, .d (.ty (.int .i64))), (19, .d (.ty .bool))], [], []⟩ (.r .x) (.n (.n (.r .x) .e) .e))) (.r .x)))))) (.n (.r .x) .e)))
noncomputable def FT33 : List (Nat × Entry) := []
noncomputable def IT33 : List (Nat × Inl) := []
def MT33 : MTab := []
noncomputable def sh33_K0 (z0 : Unit) : Option (Bool × Unit) :=
 some (true, ())
noncomputable def sh33_K3 (rc2 : List UInt8 × Int × Unit → Option (Bool × Unit)) (z3 : List UInt8 × Int × Bool × Unit) : Option (Bool × Unit) :=
 if z3.2.2.1 = true then some (false, ()) else rc2 (z3.1, IntKind.i64.wrap (z3.2.1 + 1), ())
noncomputable def sh33_L2 (j1 : Unit → Option (Bool × Unit)) (rc2 : List UInt8 × Int × Unit → Option (Bool × Unit)) (z2 : List UInt8 × Int × Unit) : Option (Bool × Unit) :=
 if decide (z2.2.1 < (↑z2.1.length : Int)) = true then
 joinK (sh33_K3 rc2) fun (j4 : List UInt8 × Int × Bool × Unit → Option (Bool × Unit)) =>
 if inR z2.2.1 z2.1.length = true then
 if decide (sAt z2.1 z2.2.1 < 48) = true then j4 (z2.1, z2.2.1, true, ())
 else if inR z2.2.1 z2.1.length = true then j4 (z2.1, z2.2.1, decide (57 < sAt z2.1 z2.2.1), ()) else none
 else none
 else j1 ()
noncomputable def sh33 (fuel : Nat) (x0 : List UInt8) : Option (Bool × Unit) :=
 joinK sh33_K0 fun (j1 : Unit → Option (Bool × Unit)) => iter fuel (sh33_L2 j1) (x0, 0, ())
noncomputable def sp33 (x : (List UInt8) × Unit) : Option (Bool × Unit) := sh33 16 x.1
/-! 34 baggage/baggageref02.Suffix -/
noncomputable def c34 : Code := Tryd.f34.body.getD .skip
def g34 : Sig := ⟨[.v (.ty .str)], .v (.ty .bool)⟩
def h34 : HT := (.n (.r .x) (.j ⟨[(2, .d (.ty .bool))], [], []⟩ (.r .x) .e))
noncomputable def FT34 : List (Nat × Entry) := [(41, ⟨g41, sp41⟩)]
noncomputable def IT34 : List (Nat × Inl) := []
def MT34 : MTab := []
noncomputable def sh34_K0 (z0 : Bool × Unit) : Option (Bool × Unit) :=
 some (z0.1, ())
noncomputable def sh34 (fuel : Nat) (x0 : List UInt8) : Option (Bool × Unit) :=
 joinK sh34_K0 fun (j1 : Bool × Unit → Option (Bool × Unit)) =>
 if (x0 == []) = true then j1 (true, ())
 else
 if ((↑x0.length : Int) == 1) = true then
 if inR 0 x0.length = true then (sp41 (sAt x0 0, ())).bind fun (r2 : Bool × Unit) => j1 (r2.1, ()) else none
 else j1 (false, ())
noncomputable def sp34 (x : (List UInt8) × Unit) : Option (Bool × Unit) := sh34 0 x.1
/-! 35 baggage/baggageref01.Value -/
noncomputable def c35 : Code := Tryd.f35.body.getD .skip
def g35 : Sig := ⟨[.v (.ty .str)], .v (.ty (.int .i64))⟩
def h35 : HT := (.n (.r .x) (.n (.r .x) (.j ⟨[(3, .d (.ty (.int .i64)))], [], []⟩ (.n (.r .x) (.u (.l ⟨[(0, .d (.ty .str)), (3, .d (.ty (.int .i64))), (4, .d (.ty (.int .i64)))], [], []⟩ (.n (.n (.r .x) (.n .e .e)) (.n (.u (.r .x)) (.r .x)))))) (.n (.r .x) .e))))
noncomputable def FT35 : List (Nat × Entry) := []
noncomputable def IT35 : List (Nat × Inl) := []
def MT35 : MTab := []
noncomputable def sh35_K0 (z0 : Int × Unit) : Option (Int × Unit) :=
 some (z0.1, ())
noncomputable def sh35_L2 (j1 : Int × Unit → Option (Int × Unit)) (rc2 : List UInt8 × Int × Int × Unit → Option (Int × Unit)) (z2 : List UInt8 × Int × Int × Unit) : Option (Int × Unit) :=
 if decide (z2.2.2.1 < (↑z2.1.length : Int)) = true then
 if inR z2.2.2.1 z2.1.length = true then
 rc2
 (z2.1, IntKind.i64.wrap (IntKind.i64.wrap (z2.2.1 * 10) + IntKind.i64.wrap (IntKind.u8.wrap (sAt z2.1 z2.2.2.1 - 48))),
 IntKind.i64.wrap (z2.2.2.1 + 1), ())
 else none
 else j1 (z2.2.1, ())
noncomputable def sh35 (fuel : Nat) (x0 : List UInt8) : Option (Int × Unit) :=
 joinK sh35_K0 fun (j1 : Int × Unit → Option (Int × Unit)) => iter fuel (sh35_L2 j1) (x0, 0, 0, ())
noncomputable def sp35 (x : (List UInt8) × Unit) : Option (Int × Unit) := sh35 16 x.1
/-! 11 baggage/baggageref02.Parse -/
noncomputable def c11 : Code := Tryd.f11.body.getD .skip
def g11 : Sig := ⟨[.v (.ty .str)], .tup [(.ag (.cons .str (.cons (.int .i64) (.cons .str (.cons (.int .i64) .nil))))), (.ty (.int .i64))]⟩
def h11 : HT := (.n (.r .x) (.n (.r .x) (.n (.j ⟨[(0, .d (.ty .str)), (2, .ref 500000 4), (4, .d (.ty (.int .i64))), (48, .d (.ty .bool))], [(500000, .box [.d .str, .d (.int .i64), .d .str, .d (.int .i64)])], []⟩ (.r .x) (.n (.n (.r .x) .e) .e)) (.n (.r (.da 15)) (.n (.n (.r .x) (.n (.n (.r .x) .e) .e)) (.n (.r .x) .e))))))
noncomputable def FT11 : List (Nat × Entry) := [(32, ⟨g32, sp32⟩), (33, ⟨g33, sp33⟩), (34, ⟨g34, sp34⟩), (35, ⟨g35, sp35⟩)]
noncomputable def IT11 : List (Nat × Inl) := []
def MT11 : MTab := []
noncomputable def sh11_K0 (z0 : List UInt8 × Int × Bool × (List UInt8 × Int × List UInt8 × Int × Unit) × Unit) : Option (((List UInt8 × Int × List UInt8 × Int × Unit) × Int × Unit) × Unit) :=
 if z0.2.2.1 = true then some ((([], 0, [], 0, ()), 3, ()), ())
 else
 if inCut 0 2 z0.1.length = true then
 if inCut 2 6 z0.1.length = true then
 (sp35 (cutL z0.1 2 6, ())).bind fun (r1 : Int × Unit) =>
 if inCut 6 (IntKind.i64.wrap (z0.2.1 - 3)) z0.1.length = true then
 if inCut (IntKind.i64.wrap (z0.2.1 - 2)) (↑z0.1.length : Int) z0.1.length = true then
 (sp35 (cutL z0.1 (IntKind.i64.wrap (z0.2.1 - 2)) (↑z0.1.length : Int), ())).bind fun (r2 : Int × Unit) =>
 if (r1.1 == 0) = true then some ((([], 0, [], 0, ()), 1, ()), ())
 else some (((cutL z0.1 0 2, r1.1, cutL z0.1 6 (IntKind.i64.wrap (z0.2.1 - 3)), r2.1, ()), 0, ()), ())
 else none
 else none
 else none
 else none
noncomputable def sh11 (fuel : Nat) (x0 : List UInt8) : Option (((List UInt8 × Int × List UInt8 × Int × Unit) × Int × Unit) × Unit) :=
 joinK sh11_K0
 fun
 (j3 :
 List UInt8 × Int × Bool × (List UInt8 × Int × List UInt8 × Int × Unit) × Unit →
 Option (((List UInt8 × Int × List UInt8 × Int × Unit) × Int × Unit) × Unit)) =>
 if ((↑x0.length : Int) != 9) = true then
 if ((↑x0.length : Int) != 10) = true then j3 (x0, (↑x0.length : Int), true, ([], 0, [], 0, ()), ())
 else
 if inR (IntKind.i64.wrap ((↑x0.length : Int) - 3)) x0.length = true then
 if (sAt x0 (IntKind.i64.wrap ((↑x0.length : Int) - 3)) != 47) = true then j3 (x0, (↑x0.length : Int), true, ([], 0, [], 0, ()), ())
 else
 if inCut 0 2 x0.length = true then
 (sp32 (cutL x0 0 2, ())).bind fun (r4 : Bool × Unit) =>
 if (!r4.1) = true then j3 (x0, (↑x0.length : Int), true, ([], 0, [], 0, ()), ())
 else
 if inCut 2 6 x0.length = true then
 (sp33 (cutL x0 2 6, ())).bind fun (r5 : Bool × Unit) =>
 if (!r5.1) = true then j3 (x0, (↑x0.length : Int), true, ([], 0, [], 0, ()), ())
 else
 if inCut 6 (IntKind.i64.wrap ((↑x0.length : Int) - 3)) x0.length = true then
 (sp34 (cutL x0 6 (IntKind.i64.wrap ((↑x0.length : Int) - 3)), ())).bind fun (r6 : Bool × Unit) =>
 if (!r6.1) = true then j3 (x0, (↑x0.length : Int), true, ([], 0, [], 0, ()), ())
 else
 if inCut (IntKind.i64.wrap ((↑x0.length : Int) - 2)) (↑x0.length : Int) x0.length = true then
 (sp33 (cutL x0 (IntKind.i64.wrap ((↑x0.length : Int) - 2)) (↑x0.length : Int), ())).bind fun (r7 : Bool × Unit) =>
 j3 (x0, (↑x0.length : Int), !r7.1, ([], 0, [], 0, ()), ())
 else none
 else none
 else none
 else none
 else none
 else
 if inR (IntKind.i64.wrap ((↑x0.length : Int) - 3)) x0.length = true then
 if (sAt x0 (IntKind.i64.wrap ((↑x0.length : Int) - 3)) != 47) = true then j3 (x0, (↑x0.length : Int), true, ([], 0, [], 0, ()), ())
 else
 if inCut 0 2 x0.length = true then
 (sp32 (cutL x0 0 2, ())).bind fun (r8 : Bool × Unit) =>
 if (!r8.1) = true then j3 (x0, (↑x0.length : Int), true, ([], 0, [], 0, ()), ())
 else
 if inCut 2 6 x0.length = true then
 (sp33 (cutL x0 2 6, ())).bind fun (r9 : Bool × Unit) =>
 if (!r9.1) = true then j3 (x0, (↑x0.length : Int), true, ([], 0, [], 0, ()), ())
 else
 if inCut 6 (IntKind.i64.wrap ((↑x0.length : Int) - 3)) x0.length = true then
 (sp34 (cutL x0 6 (IntKind.i64.wrap ((↑x0.length : Int) - 3)), ())).bind fun (r10 : Bool × Unit) =>
 if (!r10.1) = true then j3 (x0, (↑x0.length : Int), true, ([], 0, [], 0, ()), ())
 else
 if inCut (IntKind.i64.wrap ((↑x0.length : Int) - 2)) (↑x0.length : Int) x0.length = true then
 (sp33 (cutL x0 (IntKind.i64.wrap ((↑x0.length : Int) - 2)) (↑x0.length : Int), ())).bind fun (r11 : Bool × Unit) =>
 j3 (x0, (↑x0.length : Int), !r11.1, ([], 0, [], 0, ()), ())
 else none
 else none
 else none
 else none
 else none
noncomputable def sp11 (x : (List UInt8) × Unit) : Option (((List UInt8 × Int × List UInt8 × Int × Unit) × Int × Unit) × Unit) := sh11 0 x.1
/-! 13 baggage/baggageref02.Valid -/
noncomputable def c13 : Code := Tryd.f13.body.getD .skip
def g13 : Sig := ⟨[.v (.ag (.cons .str (.cons (.int .i64) (.cons .str (.cons (.int .i64) .nil)))))], .v (.ty .bool)⟩
def h13 : HT := (.n (.r .x) (.j ⟨[(2, .d (.ty .bool))], [], []⟩ (.r .x) .e))
noncomputable def FT13 : List (Nat × Entry) := [(32, ⟨g32, sp32⟩), (34, ⟨g34, sp34⟩)]
noncomputable def IT13 : List (Nat × Inl) := []
def MT13 : MTab := []
noncomputable def sh13_K0 (z0 : Bool × Unit) : Option (Bool × Unit) :=
 some (z0.1, ())
noncomputable def sh13 (fuel : Nat) (x0 : List UInt8 × Int × List UInt8 × Int × Unit) : Option (Bool × Unit) :=
 joinK sh13_K0 fun (j1 : Bool × Unit → Option (Bool × Unit)) =>
 (sp32 (x0.1, ())).bind fun (r2 : Bool × Unit) =>
 if r2.1 = true then
 if decide (1 ≤ x0.2.1) = true then
 if decide (x0.2.1 ≤ 9999) = true then
 (sp34 (x0.2.2.1, ())).bind fun (r3 : Bool × Unit) =>
 if r3.1 = true then if decide (0 ≤ x0.2.2.2.1) = true then j1 (decide (x0.2.2.2.1 ≤ 99), ()) else j1 (false, ()) else j1 (false, ())
 else j1 (false, ())
 else j1 (false, ())
 else j1 (false, ())
noncomputable def sp13 (x : (List UInt8 × Int × List UInt8 × Int × Unit) × Unit) : Option (Bool × Unit) := sh13 0 x.1
/-! 37 baggage/baggageref01.Digits -/
noncomputable def c37 : Code := Tryd.f37.body.getD .skip
def g37 : Sig := ⟨[.v (.ty (.int .i64)), .v (.ty (.int .i64))], .v (.ty .str)⟩
def h37 : HT := (.n (.r .x) (.n (.r .x) (.j ⟨[(5, .own 500002)], [(500002, .arr (.cons (.int .u8) .nil))], []⟩ (.n (.r .x) (.u (.l ⟨[(0, .d (.ty (.int .i64))), (5, .own 500000), (6, .d (.ty (.int .i64)))], [(500000, .arr (.cons (.int .u8) .nil))], []⟩ (.n (.n (.r .x) (.n .e .e)) (.n (.u (.n (.r .x) (.r .x))) (.r .x)))))) (.n (.r .x) .e))))
noncomputable def FT37 : List (Nat × Entry) := []
noncomputable def IT37 : List (Nat × Inl) := []
def MT37 : MTab := []
noncomputable def sh37_K0 (z0 : List (Int × Unit) × Unit) : Option (List UInt8 × Unit) :=
 some (toBytes z0.1, ())
noncomputable def sh37_L2 (j1 : List (Int × Unit) × Unit → Option (List UInt8 × Unit)) (rc2 : Int × Int × List (Int × Unit) × Unit → Option (List UInt8 × Unit)) (z2 : Int × Int × List (Int × Unit) × Unit) : Option (List UInt8 × Unit) :=
 if decide (0 ≤ z2.2.1) = true then
 if (10 != 0) = true then
 if inR z2.2.1 z2.2.2.1.length = true then
 if decide (z2.2.1.toNat + 1 ≤ z2.2.2.1.length) = true then
 if (10 != 0) = true then
 rc2
 (IntKind.i64.wrap (z2.1.tdiv 10), IntKind.i64.wrap (z2.2.1 - 1),
 z2.2.2.1.set z2.2.1.toNat (IntKind.u8.wrap (IntKind.i64.wrap (48 + z2.1.tmod 10)), ()), ())
 else none
 else none
 else none
 else none
 else j1 (z2.2.2.1, ())
noncomputable def sh37 (fuel : Nat) (x0 : Int) (x1 : Int) : Option (List UInt8 × Unit) :=
 if decide (0 ≤ x1) = true then
 if decide (x1 ≤ x1) = true then
 if decide (x1 ≤ (↑Abs.lim : Int)) = true then
 if decide ((↑1 : Int) * x1 ≤ (↑Abs.lim : Int)) = true then
 joinK sh37_K0 fun (j1 : List (Int × Unit) × Unit → Option (List UInt8 × Unit)) =>
 iter fuel (sh37_L2 j1) (x0, IntKind.i64.wrap (x1 - 1), List.replicate x1.toNat (0, ()), ())
 else none
 else none
 else none
 else none
noncomputable def sp37 (x : (Int) × (Int) × Unit) : Option (List UInt8 × Unit) := sh37 16 x.1 x.2.1
/-! 15 baggage/baggageref02.Designator -/
noncomputable def c15 : Code := Tryd.f15.body.getD .skip
def g15 : Sig := ⟨[.v (.ag (.cons .str (.cons (.int .i64) (.cons .str (.cons (.int .i64) .nil)))))], .v (.ty .str)⟩
def h15 : HT := (.n (.r .x) (.n (.n (.r .x) (.n (.n (.r .x) .e) .e)) (.n (.r .q) .e)))
noncomputable def FT15 : List (Nat × Entry) := [(13, ⟨g13, sp13⟩), (37, ⟨g37, sp37⟩)]
noncomputable def IT15 : List (Nat × Inl) := []
def MT15 : MTab := []
noncomputable def sh15 (fuel : Nat) (x0 : List UInt8 × Int × List UInt8 × Int × Unit) : Option (List UInt8 × Unit) :=
 (sp13 ((x0.1, x0.2.1, x0.2.2.1, x0.2.2.2.1, ()), ())).bind fun (r0 : Bool × Unit) =>
 if (!r0.1) = true then some ([], ())
 else
 (sp37 (x0.2.1, 4, ())).bind fun (r1 : List UInt8 × Unit) =>
 if decide (x0.1.length + r1.1.length ≤ Abs.lim) = true then
 if decide ((x0.1 ++ r1.1).length + x0.2.2.1.length ≤ Abs.lim) = true then some (x0.1 ++ r1.1 ++ x0.2.2.1, ()) else none
 else none
noncomputable def sp15 (x : (List UInt8 × Int × List UInt8 × Int × Unit) × Unit) : Option (List UInt8 × Unit) := sh15 0 x.1
/-! 17 baggage/baggageref02.Format -/
noncomputable def c17 : Code := Tryd.f17.body.getD .skip
def g17 : Sig := ⟨[.v (.ag (.cons .str (.cons (.int .i64) (.cons .str (.cons (.int .i64) .nil)))))], .v (.ty .str)⟩
def h17 : HT := (.n (.r .x) (.n (.n (.r .x) (.n (.n (.r .x) .e) .e)) (.n (.r .q) .e)))
noncomputable def FT17 : List (Nat × Entry) := [(13, ⟨g13, sp13⟩), (15, ⟨g15, sp15⟩), (37, ⟨g37, sp37⟩)]
noncomputable def IT17 : List (Nat × Inl) := []
def MT17 : MTab := []
noncomputable def sh17 (fuel : Nat) (x0 : List UInt8 × Int × List UInt8 × Int × Unit) : Option (List UInt8 × Unit) :=
 (sp13 ((x0.1, x0.2.1, x0.2.2.1, x0.2.2.2.1, ()), ())).bind fun (r0 : Bool × Unit) =>
 if (!r0.1) = true then some ([], ())
 else
 (sp15 ((x0.1, x0.2.1, x0.2.2.1, x0.2.2.2.1, ()), ())).bind fun (r1 : List UInt8 × Unit) =>
 if decide (r1.1.length + [47].length ≤ Abs.lim) = true then
 (sp37 (x0.2.2.2.1, 2, ())).bind fun (r2 : List UInt8 × Unit) =>
 if decide ((r1.1 ++ [47]).length + r2.1.length ≤ Abs.lim) = true then some (r1.1 ++ [47] ++ r2.1, ()) else none
 else none
noncomputable def sp17 (x : (List UInt8 × Int × List UInt8 × Int × Unit) × Unit) : Option (List UInt8 × Unit) := sh17 0 x.1
/-! 3 baggage/baggagelaw02.FlightTexts -/
noncomputable def c3 : Code := Tryd.f3.body.getD .skip
def g3 : Sig := ⟨[.v (.ty .str), .v (.ag (.cons .str (.cons (.int .i64) (.cons .str (.cons (.int .i64) .nil)))))], .v (.ty .bool)⟩
def h3 : HT := (.n (.r .x) (.n (.n (.r .x) (.n (.n (.r .x) .e) .e)) (.n (.r .x) (.n (.r .x) (.j ⟨[(4, .d (.ty .bool))], [], []⟩ (.r .q) .e)))))
noncomputable def FT3 : List (Nat × Entry) := [(9, ⟨g9, sp9⟩), (10, ⟨g10, sp10⟩), (11, ⟨g11, sp11⟩), (12, ⟨g12, sp12⟩), (13, ⟨g13, sp13⟩), (14, ⟨g14, sp14⟩), (15, ⟨g15, sp15⟩), (16, ⟨g16, sp16⟩), (17, ⟨g17, sp17⟩)]
noncomputable def IT3 : List (Nat × Inl) := []
def MT3 : MTab := []
noncomputable def sh3_K3 (z3 : Bool × Unit) : Option (Bool × Unit) :=
 some (z3.1, ())
noncomputable def sh3 (fuel : Nat) (x0 : List UInt8) (x1 : List UInt8 × Int × List UInt8 × Int × Unit) : Option (Bool × Unit) :=
 if decide (100 < (↑x0.length : Int)) = true then (sp9 ()).bind fun (r0 : Bool × Unit) => some (r0.1, ())
 else
 (sp10 (x0, ())).bind fun (r1 : ((List UInt8 × Int × List UInt8 × Int × Unit) × Int × Unit) × Unit) =>
 (sp11 (x0, ())).bind fun (r2 : ((List UInt8 × Int × List UInt8 × Int × Unit) × Int × Unit) × Unit) =>
 joinK sh3_K3 fun (j4 : Bool × Unit → Option (Bool × Unit)) =>
 if
 (r1.1.1.1 == r2.1.1.1 && (r1.1.1.2.1 == r2.1.1.2.1 && (r1.1.1.2.2.1 == r2.1.1.2.2.1 && (r1.1.1.2.2.2.1 == r2.1.1.2.2.2.1 && true)))) =
 true then
 if (r1.1.2.1 == r2.1.2.1) = true then
 (sp12 ((x1.1, x1.2.1, x1.2.2.1, x1.2.2.2.1, ()), ())).bind fun (r5 : Bool × Unit) =>
 (sp13 ((x1.1, x1.2.1, x1.2.2.1, x1.2.2.2.1, ()), ())).bind fun (r6 : Bool × Unit) =>
 if (r5.1 == r6.1) = true then
 (sp14 ((x1.1, x1.2.1, x1.2.2.1, x1.2.2.2.1, ()), ())).bind fun (r7 : List UInt8 × Unit) =>
 (sp15 ((x1.1, x1.2.1, x1.2.2.1, x1.2.2.2.1, ()), ())).bind fun (r8 : List UInt8 × Unit) =>
 if (r7.1 == r8.1) = true then
 (sp16 ((x1.1, x1.2.1, x1.2.2.1, x1.2.2.2.1, ()), ())).bind fun (r9 : List UInt8 × Unit) =>
 (sp17 ((x1.1, x1.2.1, x1.2.2.1, x1.2.2.2.1, ()), ())).bind fun (r10 : List UInt8 × Unit) =>
 if (r9.1 == r10.1) = true then (sp9 ()).bind fun (r11 : Bool × Unit) => j4 (r11.1, ()) else j4 (false, ())
 else j4 (false, ())
 else j4 (false, ())
 else j4 (false, ())
 else j4 (false, ())
noncomputable def sp3 (x : (List UInt8) × (List UInt8 × Int × List UInt8 × Int × Unit) × Unit) : Option (Bool × Unit) := sh3 0 x.1 x.2.1
/-! 18 baggage/baggagekeep.New -/
noncomputable def c18 : Code := Tryd.f18.body.getD .skip
def g18 : Sig := ⟨[.v (.ty (.sl (.cons (.int .i64) .nil)))], .box (.cons (.sl (.cons (.int .i64) .nil)) (.cons (.int .i64) .nil))⟩
def h18 : HT := (.n (.r .x) (.j ⟨[(0, .d (.ty (.sl (.cons (.int .i64) .nil))))], [], []⟩ (.n (.r .x) (.n (.r .x) .e)) (.n (.r .x) .e)))
noncomputable def FT18 : List (Nat × Entry) := []
noncomputable def IT18 : List (Nat × Inl) := []
def MT18 : MTab := []
noncomputable def sh18_K0 (z0 : List (Int × Unit) × Unit) : Option ((List (Int × Unit) × Int × Unit) × Unit) :=
 some ((z0.1, 0, ()), ())
noncomputable def sh18 (fuel : Nat) (x0 : List (Int × Unit)) : Option ((List (Int × Unit) × Int × Unit) × Unit) :=
 joinK sh18_K0 fun (j1 : List (Int × Unit) × Unit → Option ((List (Int × Unit) × Int × Unit) × Unit)) =>
 if decide (2000 < (↑x0.length : Int)) = true then if inCut 0 2000 x0.length = true then j1 (cutL x0 0 2000, ()) else none else j1 (x0, ())
noncomputable def sp18 (x : (List (Int × Unit)) × Unit) : Option ((List (Int × Unit) × Int × Unit) × Unit) := sh18 0 x.1
/-! 40 (*baggage/baggagekeep.Src).Raw -/
noncomputable def c40 : Code := Tryd.f40.body.getD .skip
def g40 : Sig := ⟨[.bx (.cons (.sl (.cons (.int .i64) .nil)) (.cons (.int .i64) .nil))], .v (.ty (.int .i64))⟩
def h40 : HT := (.n (.r .x) (.n (.n (.r .q) (.n (.n (.r .x) .e) .e)) (.n (.r .x) (.n (.r .q) .e))))
noncomputable def FT40 : List (Nat × Entry) := []
noncomputable def IT40 : List (Nat × Inl) := []
def MT40 : MTab := []
noncomputable def sh40 (fuel : Nat) (x0 : List (Int × Unit) × Int × Unit) : Option (Int × (List (Int × Unit) × Int × Unit) × Unit) :=
 if decide ((↑x0.1.length : Int) ≤ x0.2.1) = true then some (0, (x0.1, x0.2.1, ()), ())
 else
 if inR (IntKind.i64.wrap (IntKind.i64.wrap (x0.2.1 + 1) - 1)) x0.1.length = true then
 some ((lAt (0, ()) x0.1 (IntKind.i64.wrap (IntKind.i64.wrap (x0.2.1 + 1) - 1))).1, (x0.1, IntKind.i64.wrap (x0.2.1 + 1), ()), ())
 else none
noncomputable def sp40 (x : (List (Int × Unit) × Int × Unit) × Unit) : Option (Int × (List (Int × Unit) × Int × Unit) × Unit) := sh40 0 x.1
/-! 20 baggage/baggagekeep.Mod -/
noncomputable def c20 : Code := Tryd.f20.body.getD .skip
def g20 : Sig := ⟨[.v (.ty (.int .i64)), .v (.ty (.int .i64))], .v (.ty (.int .i64))⟩
def h20 : HT := (.n (.r .x) (.n (.n (.r .x) (.n (.n (.r .x) .e) .e)) (.n (.r .x) (.j ⟨[(0, .d (.ty (.int .i64)))], [], []⟩ (.n (.r .x) (.n (.r .x) .e)) (.n (.r .x) .e)))))
noncomputable def FT20 : List (Nat × Entry) := []
noncomputable def IT20 : List (Nat × Inl) := []
def MT20 : MTab := []
noncomputable def sh20_K0 (z0 : Int × Unit) : Option (Int × Unit) :=
 some (z0.1, ())
noncomputable def sh20 (fuel : Nat) (x0 : Int) (x1 : Int) : Option (Int × Unit) :=
 if decide (x1 < 1) = true then some (0, ())
 else
 if (x1 != 0) = true then
 joinK sh20_K0 fun (j1 : Int × Unit → Option (Int × Unit)) =>
 if decide (x0.tmod x1 < 0) = true then j1 (IntKind.i64.wrap (x0.tmod x1 + x1), ()) else j1 (x0.tmod x1, ())
 else none
noncomputable def sp20 (x : (Int) × (Int) × Unit) : Option (Int × Unit) := sh20 0 x.1 x.2.1
/-! 22 (*baggage/baggagekeep.Src).N -/
noncomputable def c22 : Code := Tryd.f22.body.getD .skip
def g22 : Sig := ⟨[.bx (.cons (.sl (.cons (.int .i64) .nil)) (.cons (.int .i64) .nil)), .v (.ty (.int .i64))], .v (.ty (.int .i64))⟩
def h22 : HT := (.n (.r .x) (.n (.r .x) .e))
noncomputable def FT22 : List (Nat × Entry) := [(40, ⟨g40, sp40⟩), (20, ⟨g20, sp20⟩)]
noncomputable def IT22 : List (Nat × Inl) := []
def MT22 : MTab := []
noncomputable def sh22 (fuel : Nat) (x0 : List (Int × Unit) × Int × Unit) (x1 : Int) : Option (Int × (List (Int × Unit) × Int × Unit) × Unit) :=
 (sp40 ((x0.1, x0.2.1, ()), ())).bind fun (r0 : Int × (List (Int × Unit) × Int × Unit) × Unit) =>
 (sp20 (r0.1, x1, ())).bind fun (r1 : Int × Unit) => some (r1.1, (r0.2.1.1, r0.2.1.2.1, ()), ())
noncomputable def sp22 (x : (List (Int × Unit) × Int × Unit) × (Int) × Unit) : Option (Int × (List (Int × Unit) × Int × Unit) × Unit) := sh22 0 x.1 x.2.1
/-! 38 (*baggage/baggagekeep.Src).Text -/
noncomputable def c38 : Code := Tryd.f38.body.getD .skip
def g38 : Sig := ⟨[.bx (.cons (.sl (.cons (.int .i64) .nil)) (.cons (.int .i64) .nil)), .v (.ty (.sl (.cons .str .nil)))], .v (.ty .str)⟩
def h38 : HT := (.n (.r .x) (.n (.r .x) .e))
noncomputable def FT38 : List (Nat × Entry) := [(22, ⟨g22, sp22⟩)]
noncomputable def IT38 : List (Nat × Inl) := []
def MT38 : MTab := []
noncomputable def sh38 (fuel : Nat) (x0 : List (Int × Unit) × Int × Unit) (x1 : List (List UInt8 × Unit)) : Option (List UInt8 × (List (Int × Unit) × Int × Unit) × Unit) :=
 (sp22 ((x0.1, x0.2.1, ()), (↑x1.length : Int), ())).bind fun (r0 : Int × (List (Int × Unit) × Int × Unit) × Unit) =>
 if inR r0.1 x1.length = true then some ((lAt ([], ()) x1 r0.1).1, (r0.2.1.1, r0.2.1.2.1, ()), ()) else none
noncomputable def sp38 (x : (List (Int × Unit) × Int × Unit) × (List (List UInt8 × Unit)) × Unit) : Option (List UInt8 × (List (Int × Unit) × Int × Unit) × Unit) := sh38 0 x.1 x.2.1
/-! 39 (*baggage/baggagekeep.Src).Pick -/
noncomputable def c39 : Code := Tryd.f39.body.getD .skip
def g39 : Sig := ⟨[.bx (.cons (.sl (.cons (.int .i64) .nil)) (.cons (.int .i64) .nil)), .v (.ty (.sl (.cons (.int .i64) .nil)))], .v (.ty (.int .i64))⟩
def h39 : HT := (.n (.r .x) (.n (.r .x) .e))
noncomputable def FT39 : List (Nat × Entry) := [(22, ⟨g22, sp22⟩)]
noncomputable def IT39 : List (Nat × Inl) := []
def MT39 : MTab := []
noncomputable def sh39 (fuel : Nat) (x0 : List (Int × Unit) × Int × Unit) (x1 : List (Int × Unit)) : Option (Int × (List (Int × Unit) × Int × Unit) × Unit) :=
 (sp22 ((x0.1, x0.2.1, ()), (↑x1.length : Int), ())).bind fun (r0 : Int × (List (Int × Unit) × Int × Unit) × Unit) =>
 if inR r0.1 x1.length = true then some ((lAt (0, ()) x1 r0.1).1, (r0.2.1.1, r0.2.1.2.1, ()), ()) else none
noncomputable def sp39 (x : (List (Int × Unit) × Int × Unit) × (List (Int × Unit)) × Unit) : Option (Int × (List (Int × Unit) × Int × Unit) × Unit) := sh39 0 x.1 x.2.1
/-! 19 (*baggage/baggagekeep.Src).AnyFlight -/
noncomputable def c19 : Code := Tryd.f19.body.getD .skip
def g19 : Sig := ⟨[.bx (.cons (.sl (.cons (.int .i64) .nil)) (.cons (.int .i64) .nil))], .v (.ag (.cons .str (.cons (.int .i64) (.cons .str (.cons (.int .i64) .nil)))))⟩
def h19 : HT := (.n (.r .x) (.n (.r .x) .e))
noncomputable def FT19 : List (Nat × Entry) := [(38, ⟨g38, sp38⟩), (39, ⟨g39, sp39⟩)]
noncomputable def IT19 : List (Nat × Inl) := []
def MT19 : MTab := []
noncomputable def sh19 (fuel : Nat) (x0 : List (Int × Unit) × Int × Unit) : Option ((List UInt8 × Int × List UInt8 × Int × Unit) × (List (Int × Unit) × Int × Unit) × Unit) :=
 (sp38 ((x0.1, x0.2.1, ()), [([83, 75], ()), ([65, 89], ()), ([52, 85], ())], ())).bind
 fun (r0 : List UInt8 × (List (Int × Unit) × Int × Unit) × Unit) =>
 (sp39 ((r0.2.1.1, r0.2.1.2.1, ()), [(1, ()), (123, ()), (9999, ())], ())).bind fun (r1 : Int × (List (Int × Unit) × Int × Unit) × Unit) =>
 (sp38 ((r1.2.1.1, r1.2.1.2.1, ()), [([], ()), ([], ()), ([65], ())], ())).bind fun (r2 : List UInt8 × (List (Int × Unit) × Int × Unit) × Unit) =>
 (sp39 ((r2.2.1.1, r2.2.1.2.1, ()), [(7, ()), (8, ()), (0, ()), (99, ())], ())).bind fun (r3 : Int × (List (Int × Unit) × Int × Unit) × Unit) =>
 some ((r0.1, r1.1, r2.1, r3.1, ()), (r3.2.1.1, r3.2.1.2.1, ()), ())
noncomputable def sp19 (x : (List (Int × Unit) × Int × Unit) × Unit) : Option ((List UInt8 × Int × List UInt8 × Int × Unit) × (List (Int × Unit) × Int × Unit) × Unit) := sh19 0 x.1
/-! 4 baggage/baggagelaw02.FlightNear -/
noncomputable def c4 : Code := Tryd.f4.body.getD .skip
def g4 : Sig := ⟨[.v (.ty (.sl (.cons (.int .i64) .nil))), .v (.ty (.int .i64)), .v (.ty (.int .u8)), .v (.ty .str)], .v (.ty .bool)⟩
def h4 : HT := (.n (.r .x) (.n (.n (.r .x) (.n (.n (.r .x) .e) .e)) (.n (.r .x) (.n (.r .x) (.n (.n (.r .x) (.n (.n (.r .x) .e) .e)) (.n (.r .x) (.j ⟨[], [], []⟩ (.n (.r (.w 14 [(1, 0), (0, 1), (1, 2), (1, 3), (1, 4), (0, 5), (1, 8), (1, 9), (0, 10), (1, 13), (2, 6), (1, 7), (3, 11), (0, 12)])) (.u (.l ⟨[(51, .own 500000), (52, .d (.ty (.int .i64))), (53, .d (.ty (.int .i64)))], [(500000, .arr (.cons .str .nil))], []⟩ (.n (.r .x) (.n (.n .e .e) (.n (.u (.n (.r .x) (.n (.r .x) (.n (.r .x) (.j ⟨[(51, .own 500001), (52, .d (.ty (.int .i64))), (53, .d (.ty (.int .i64))), (74, .d (.ty .bool))], [(500001, .arr (.cons .str .nil))], []⟩ (.r .x) (.n (.n (.r .x) .e) .e)))))) (.r .x))))))) (.n (.r .x) .e))))))))
noncomputable def FT4 : List (Nat × Entry) := [(9, ⟨g9, sp9⟩), (18, ⟨g18, sp18⟩), (19, ⟨g19, sp19⟩), (17, ⟨g17, sp17⟩), (20, ⟨g20, sp20⟩), (10, ⟨g10, sp10⟩), (11, ⟨g11, sp11⟩)]
noncomputable def IT4 : List (Nat × Inl) := []
def MT4 : MTab := []
noncomputable def sh4_K5 (z5 : Unit) : Option (Bool × Unit) :=
 (sp9 ()).bind fun (r6 : Bool × Unit) => some (r6.1, ())
noncomputable def sh4_K12 (rc9 : Int × Int × List (List UInt8 × Unit) × Unit → Option (Bool × Unit)) (z12 : Int × Int × Bool × List (List UInt8 × Unit) × Unit) : Option (Bool × Unit) :=
 if z12.2.2.1 = true then some (false, ()) else rc9 (z12.1, IntKind.i64.wrap (z12.2.1 + 1), z12.2.2.2.1, ())
noncomputable def sh4_L9 (j7 : Unit → Option (Bool × Unit)) (rc9 : Int × Int × List (List UInt8 × Unit) × Unit → Option (Bool × Unit)) (z9 : Int × Int × List (List UInt8 × Unit) × Unit) : Option (Bool × Unit) :=
 if decide (z9.2.1 < z9.1) = true then
 if inR z9.2.1 z9.2.2.1.length = true then
 if decide (z9.2.1.toNat + 1 ≤ z9.2.2.1.length) = true then
 (sp10 ((z9.2.2.1.getD z9.2.1.toNat ([], ())).1, ())).bind fun (r10 : ((List UInt8 × Int × List UInt8 × Int × Unit) × Int × Unit) × Unit) =>
 (sp11 ((z9.2.2.1.getD z9.2.1.toNat ([], ())).1, ())).bind fun (r11 : ((List UInt8 × Int × List UInt8 × Int × Unit) × Int × Unit) × Unit) =>
 joinK (sh4_K12 rc9) fun (j13 : Int × Int × Bool × List (List UInt8 × Unit) × Unit → Option (Bool × Unit)) =>
 if
 (!(r10.1.1.1 == r11.1.1.1 &&
 (r10.1.1.2.1 == r11.1.1.2.1 && (r10.1.1.2.2.1 == r11.1.1.2.2.1 && (r10.1.1.2.2.2.1 == r11.1.1.2.2.2.1 && true))))) =
 true then
 j13 (z9.1, z9.2.1, true, z9.2.2.1, ())
 else j13 (z9.1, z9.2.1, r10.1.2.1 != r11.1.2.1, z9.2.2.1, ())
 else none
 else none
 else j7 ()
noncomputable def sh4 (fuel : Nat) (x0 : List (Int × Unit)) (x1 : Int) (x2 : Int) (x3 : List UInt8) : Option (Bool × Unit) :=
 if decide (20 < (↑x3.length : Int)) = true then (sp9 ()).bind fun (r0 : Bool × Unit) => some (r0.1, ())
 else
 (sp18 (x0, ())).bind fun (r1 : (List (Int × Unit) × Int × Unit) × Unit) =>
 (sp19 ((r1.1.1, r1.1.2.1, ()), ())).bind fun (r2 : (List UInt8 × Int × List UInt8 × Int × Unit) × (List (Int × Unit) × Int × Unit) × Unit) =>
 (sp17 ((r2.1.1, r2.1.2.1, r2.1.2.2.1, r2.1.2.2.2.1, ()), ())).bind fun (r3 : List UInt8 × Unit) =>
 if decide (r3.1.length ≤ Abs.lim) = true then
 if ((↑(ofBytes r3.1).length : Int) == 0) = true then some (false, ())
 else
 (sp20 (x1, (↑(ofBytes r3.1).length : Int), ())).bind fun (r4 : Int × Unit) =>
 if inR r4.1 (ofBytes r3.1).length = true then
 if decide (r4.1.toNat + 1 ≤ (ofBytes r3.1).length) = true then
 if inR r4.1 (ofBytes r3.1).length = true then
 if decide (r4.1.toNat + 1 ≤ (ofBytes r3.1).length) = true then
 joinK sh4_K5 fun (j7 : Unit → Option (Bool × Unit)) =>
 if decide (r3.1.length + x3.length ≤ Abs.lim) = true then
 (sp20 (x1, (↑r3.1.length : Int), ())).bind fun (r8 : Int × Unit) =>
 if inCut 0 r8.1 r3.1.length = true then
 iter fuel (sh4_L9 j7)
 ((↑[(toBytes
 ((ofBytes r3.1).set r4.1.toNat
 (IntKind.u8.wrap
 (↑(BitVec.ofInt IntKind.u8.bits ((ofBytes r3.1).getD r4.1.toNat (0, ())).1 ^^^
 BitVec.ofInt IntKind.u8.bits x2).toNat :
 Int),
 ())),
 ()),
 (cutL r3.1 0 r8.1, ()), (r3.1 ++ x3, ())].length :
 Int),
 0,
 [(toBytes
 ((ofBytes r3.1).set r4.1.toNat
 (IntKind.u8.wrap
 (↑(BitVec.ofInt IntKind.u8.bits ((ofBytes r3.1).getD r4.1.toNat (0, ())).1 ^^^
 BitVec.ofInt IntKind.u8.bits x2).toNat :
 Int),
 ())),
 ()),
 (cutL r3.1 0 r8.1, ()), (r3.1 ++ x3, ())],
 ())
 else none
 else none
 else none
 else none
 else none
 else none
 else none
noncomputable def sp4 (x : (List (Int × Unit)) × (Int) × (Int) × (List UInt8) × Unit) : Option (Bool × Unit) := sh4 16 x.1 x.2.1 x.2.2.1 x.2.2.2.1
/-! 5 baggage/baggagelaw02.FlightBack -/
noncomputable def c5 : Code := Tryd.f5.body.getD .skip
def g5 : Sig := ⟨[.v (.ty (.sl (.cons (.int .i64) .nil))), .v (.ty .str)], .v (.ty .bool)⟩
def h5 : HT := (.n (.r .x) (.n (.r .x) (.n (.r .x) (.n (.j ⟨[(1, .d (.ty .str)), (30, .d (.ty .bool))], [], []⟩ (.r .x) (.n (.n (.r .x) .e) .e)) (.n (.r .x) (.j ⟨[(4, .d (.ty .bool))], [], []⟩ (.r .x) .e))))))
noncomputable def FT5 : List (Nat × Entry) := [(18, ⟨g18, sp18⟩), (19, ⟨g19, sp19⟩), (16, ⟨g16, sp16⟩), (10, ⟨g10, sp10⟩), (12, ⟨g12, sp12⟩), (9, ⟨g9, sp9⟩)]
noncomputable def IT5 : List (Nat × Inl) := []
def MT5 : MTab := []
noncomputable def sh5_K6 (z6 : Bool × Unit) : Option (Bool × Unit) :=
 some (z6.1, ())
noncomputable def sh5_K4 (z4 : List UInt8 × Bool × Unit) : Option (Bool × Unit) :=
 if z4.2.1 = true then some (false, ())
 else
 (sp10 (z4.1, ())).bind fun (r5 : ((List UInt8 × Int × List UInt8 × Int × Unit) × Int × Unit) × Unit) =>
 joinK sh5_K6 fun (j7 : Bool × Unit → Option (Bool × Unit)) =>
 if (r5.1.2.1 != 0) = true then (sp9 ()).bind fun (r8 : Bool × Unit) => j7 (r8.1, ())
 else
 (sp16 ((r5.1.1.1, r5.1.1.2.1, r5.1.1.2.2.1, r5.1.1.2.2.2.1, ()), ())).bind fun (r9 : List UInt8 × Unit) =>
 if (r9.1 == z4.1) = true then (sp9 ()).bind fun (r10 : Bool × Unit) => j7 (r10.1, ()) else j7 (false, ())
noncomputable def sh5 (fuel : Nat) (x0 : List (Int × Unit)) (x1 : List UInt8) : Option (Bool × Unit) :=
 (sp18 (x0, ())).bind fun (r0 : (List (Int × Unit) × Int × Unit) × Unit) =>
 (sp19 ((r0.1.1, r0.1.2.1, ()), ())).bind fun (r1 : (List UInt8 × Int × List UInt8 × Int × Unit) × (List (Int × Unit) × Int × Unit) × Unit) =>
 (sp16 ((r1.1.1, r1.1.2.1, r1.1.2.2.1, r1.1.2.2.2.1, ()), ())).bind fun (r2 : List UInt8 × Unit) =>
 (sp10 (r2.1, ())).bind fun (r3 : ((List UInt8 × Int × List UInt8 × Int × Unit) × Int × Unit) × Unit) =>
 joinK sh5_K4 fun (j11 : List UInt8 × Bool × Unit → Option (Bool × Unit)) =>
 if (r3.1.2.1 != 0) = true then j11 (x1, true, ())
 else
 if
 (!(r3.1.1.1 == r1.1.1 && (r3.1.1.2.1 == r1.1.2.1 && (r3.1.1.2.2.1 == r1.1.2.2.1 && (r3.1.1.2.2.2.1 == r1.1.2.2.2.1 && true))))) =
 true then
 j11 (x1, true, ())
 else (sp12 ((r1.1.1, r1.1.2.1, r1.1.2.2.1, r1.1.2.2.2.1, ()), ())).bind fun (r12 : Bool × Unit) => j11 (x1, !r12.1, ())
noncomputable def sp5 (x : (List (Int × Unit)) × (List UInt8) × Unit) : Option (Bool × Unit) := sh5 0 x.1 x.2.1
/-! 21 (*baggage/baggagekeep.Src).Leg -/
noncomputable def c21 : Code := Tryd.f21.body.getD .skip
def g21 : Sig := ⟨[.bx (.cons (.sl (.cons (.int .i64) .nil)) (.cons (.int .i64) .nil))], .v (.ag (.cons .str (.cons (.int .i64) (.cons .str (.cons (.int .i64) (.cons .str (.cons .str .nil)))))))⟩
def h21 : HT := (.n (.r .x) (.n (.r .x) .e))
noncomputable def FT21 : List (Nat × Entry) := [(19, ⟨g19, sp19⟩), (38, ⟨g38, sp38⟩)]
noncomputable def IT21 : List (Nat × Inl) := []
def MT21 : MTab := []
noncomputable def sh21 (fuel : Nat) (x0 : List (Int × Unit) × Int × Unit) : Option ((List UInt8 × Int × List UInt8 × Int × List UInt8 × List UInt8 × Unit) × (List (Int × Unit) × Int × Unit) × Unit) :=
 (sp19 ((x0.1, x0.2.1, ()), ())).bind fun (r0 : (List UInt8 × Int × List UInt8 × Int × Unit) × (List (Int × Unit) × Int × Unit) × Unit) =>
 (sp38 ((r0.2.1.1, r0.2.1.2.1, ()), [([67, 80, 72], ()), ([65, 82, 78], ()), ([79, 83, 76], ())], ())).bind
 fun (r1 : List UInt8 × (List (Int × Unit) × Int × Unit) × Unit) =>
 (sp38 ((r1.2.1.1, r1.2.1.2.1, ()), [([89], ()), ([67], ()), ([70], ())], ())).bind
 fun (r2 : List UInt8 × (List (Int × Unit) × Int × Unit) × Unit) =>
 some ((r0.1.1, r0.1.2.1, r0.1.2.2.1, r0.1.2.2.2.1, r1.1, r2.1, ()), (r2.2.1.1, r2.2.1.2.1, ()), ())
noncomputable def sp21 (x : (List (Int × Unit) × Int × Unit) × Unit) : Option ((List UInt8 × Int × List UInt8 × Int × List UInt8 × List UInt8 × Unit) × (List (Int × Unit) × Int × Unit) × Unit) := sh21 0 x.1
/-! 24 baggage/baggageref02.ValidPort -/
noncomputable def c24 : Code := Tryd.f24.body.getD .skip
def g24 : Sig := ⟨[.v (.ty .str)], .v (.ty .bool)⟩
def h24 : HT := (.n (.r .x) (.j ⟨[(2, .d (.ty .bool))], [], []⟩ (.r .x) .e))
noncomputable def FT24 : List (Nat × Entry) := [(41, ⟨g41, sp41⟩)]
noncomputable def IT24 : List (Nat × Inl) := []
def MT24 : MTab := []
noncomputable def sh24_K0 (z0 : Bool × Unit) : Option (Bool × Unit) :=
 some (z0.1, ())
noncomputable def sh24 (fuel : Nat) (x0 : List UInt8) : Option (Bool × Unit) :=
 joinK sh24_K0 fun (j1 : Bool × Unit → Option (Bool × Unit)) =>
 if ((↑x0.length : Int) == 3) = true then
 if inR 0 x0.length = true then
 (sp41 (sAt x0 0, ())).bind fun (r2 : Bool × Unit) =>
 if r2.1 = true then
 if inR 1 x0.length = true then
 (sp41 (sAt x0 1, ())).bind fun (r3 : Bool × Unit) =>
 if r3.1 = true then if inR 2 x0.length = true then (sp41 (sAt x0 2, ())).bind fun (r4 : Bool × Unit) => j1 (r4.1, ()) else none
 else j1 (false, ())
 else none
 else j1 (false, ())
 else none
 else j1 (false, ())
noncomputable def sp24 (x : (List UInt8) × Unit) : Option (Bool × Unit) := sh24 0 x.1
/-! 25 baggage/flight.ValidLeg -/
noncomputable def c25 : Code := Tryd.f25.body.getD .skip
def g25 : Sig := ⟨[.v (.ag (.cons .str (.cons (.int .i64) (.cons .str (.cons (.int .i64) (.cons .str (.cons .str .nil)))))))], .v (.ty .bool)⟩
def h25 : HT := (.n (.r .x) (.j ⟨[(2, .d (.ty .bool))], [], []⟩ (.r .x) .e))
noncomputable def FT25 : List (Nat × Entry) := [(12, ⟨g12, sp12⟩), (23, ⟨g23, sp23⟩)]
noncomputable def IT25 : List (Nat × Inl) := []
def MT25 : MTab := []
noncomputable def sh25_K0 (z0 : Bool × Unit) : Option (Bool × Unit) :=
 some (z0.1, ())
noncomputable def sh25 (fuel : Nat) (x0 : List UInt8 × Int × List UInt8 × Int × List UInt8 × List UInt8 × Unit) : Option (Bool × Unit) :=
 joinK sh25_K0 fun (j1 : Bool × Unit → Option (Bool × Unit)) =>
 (sp12 ((x0.1, x0.2.1, x0.2.2.1, x0.2.2.2.1, ()), ())).bind fun (r2 : Bool × Unit) =>
 if r2.1 = true then
 (sp23 (x0.2.2.2.2.1, ())).bind fun (r3 : Bool × Unit) =>
 if r3.1 = true then
 if (x0.2.2.2.2.2.1 == [70]) = true then j1 (true, ())
 else if (x0.2.2.2.2.2.1 == [67]) = true then j1 (true, ()) else j1 (x0.2.2.2.2.2.1 == [89], ())
 else j1 (false, ())
 else j1 (false, ())
noncomputable def sp25 (x : (List UInt8 × Int × List UInt8 × Int × List UInt8 × List UInt8 × Unit) × Unit) : Option (Bool × Unit) := sh25 0 x.1
/-! 42 baggage/baggageref02.ValidClass -/
noncomputable def c42 : Code := Tryd.f42.body.getD .skip
def g42 : Sig := ⟨[.v (.ty .str)], .v (.ty .bool)⟩
def h42 : HT := (.n (.r .x) (.j ⟨[(2, .d (.ty .bool))], [], []⟩ (.r .x) .e))
noncomputable def FT42 : List (Nat × Entry) := []
noncomputable def IT42 : List (Nat × Inl) := []
def MT42 : MTab := []
noncomputable def sh42_K0 (z0 : Bool × Unit) : Option (Bool × Unit) :=
 some (z0.1, ())
noncomputable def sh42 (fuel : Nat) (x0 : List UInt8) : Option (Bool × Unit) :=
 joinK sh42_K0 fun (j1 : Bool × Unit → Option (Bool × Unit)) =>
 if (x0 == [70]) = true then j1 (true, ()) else if (x0 == [67]) = true then j1 (true, ()) else j1 (x0 == [89], ())
noncomputable def sp42 (x : (List UInt8) × Unit) : Option (Bool × Unit) := sh42 0 x.1
/-! 26 baggage/baggageref02.ValidLeg -/
noncomputable def c26 : Code := Tryd.f26.body.getD .skip
def g26 : Sig := ⟨[.v (.ag (.cons .str (.cons (.int .i64) (.cons .str (.cons (.int .i64) (.cons .str (.cons .str .nil)))))))], .v (.ty .bool)⟩
def h26 : HT := (.n (.r .x) (.j ⟨[(2, .d (.ty .bool))], [], []⟩ (.r .x) .e))
noncomputable def FT26 : List (Nat × Entry) := [(13, ⟨g13, sp13⟩), (24, ⟨g24, sp24⟩), (42, ⟨g42, sp42⟩)]
noncomputable def IT26 : List (Nat × Inl) := []
def MT26 : MTab := []
noncomputable def sh26_K0 (z0 : Bool × Unit) : Option (Bool × Unit) :=
 some (z0.1, ())
noncomputable def sh26 (fuel : Nat) (x0 : List UInt8 × Int × List UInt8 × Int × List UInt8 × List UInt8 × Unit) : Option (Bool × Unit) :=
 joinK sh26_K0 fun (j1 : Bool × Unit → Option (Bool × Unit)) =>
 (sp13 ((x0.1, x0.2.1, x0.2.2.1, x0.2.2.2.1, ()), ())).bind fun (r2 : Bool × Unit) =>
 if r2.1 = true then
 (sp24 (x0.2.2.2.2.1, ())).bind fun (r3 : Bool × Unit) =>
 if r3.1 = true then (sp42 (x0.2.2.2.2.2.1, ())).bind fun (r4 : Bool × Unit) => j1 (r4.1, ()) else j1 (false, ())
 else j1 (false, ())
noncomputable def sp26 (x : (List UInt8 × Int × List UInt8 × Int × List UInt8 × List UInt8 × Unit) × Unit) : Option (Bool × Unit) := sh26 0 x.1
/-! 6 baggage/baggagelaw02.FlightLegs -/
noncomputable def c6 : Code := Tryd.f6.body.getD .skip
def g6 : Sig := ⟨[.v (.ty .str), .v (.ag (.cons .str (.cons (.int .i64) (.cons .str (.cons (.int .i64) (.cons .str (.cons .str .nil))))))), .v (.ty (.sl (.cons (.int .i64) .nil))), .v (.ty .str)], .v (.ty .bool)⟩
def h6 : HT := (.n (.r .x) (.n (.r .x) (.n (.r .x) (.n (.r .x) (.j ⟨[(0, .d (.ty .str)), (5, .ref 500000 6), (10, .ref 500001 6), (11, .ref 500002 6)], [(500000, .box [.d .str, .d (.int .i64), .d .str, .d (.int .i64), .d .str, .d .str]), (500001, .box [.d .str, .d (.int .i64), .d .str, .d (.int .i64), .d .str, .d .str]), (500002, .box [.d .str, .d (.int .i64), .d .str, .d (.int .i64), .d .str, .d .str])], []⟩ (.n (.r .x) (.u (.n (.r .x) (.n (.r .x) (.n (.r .x) (.n (.r .x) (.r .x))))))) (.j ⟨[(8, .d (.ty .bool))], [], []⟩ (.r .q) .e))))))
noncomputable def FT6 : List (Nat × Entry) := [(18, ⟨g18, sp18⟩), (21, ⟨g21, sp21⟩), (22, ⟨g22, sp22⟩), (23, ⟨g23, sp23⟩), (24, ⟨g24, sp24⟩), (25, ⟨g25, sp25⟩), (26, ⟨g26, sp26⟩), (9, ⟨g9, sp9⟩)]
noncomputable def IT6 : List (Nat × Inl) := []
def MT6 : MTab := []
noncomputable def sh6_K3 (z3 : Bool × Unit) : Option (Bool × Unit) :=
 some (z3.1, ())
noncomputable def sh6_K2 (z2 : List UInt8 ×
 (List UInt8 × Int × List UInt8 × Int × List UInt8 × List UInt8 × Unit) ×
 (List UInt8 × Int × List UInt8 × Int × List UInt8 × List UInt8 × Unit) ×
 (List UInt8 × Int × List UInt8 × Int × List UInt8 × List UInt8 × Unit) × Unit) : Option (Bool × Unit) :=
 joinK sh6_K3 fun (j4 : Bool × Unit → Option (Bool × Unit)) =>
 (sp23 (z2.1, ())).bind fun (r5 : Bool × Unit) =>
 (sp24 (z2.1, ())).bind fun (r6 : Bool × Unit) =>
 if (r5.1 == r6.1) = true then
 (sp25 ((z2.2.1.1, z2.2.1.2.1, z2.2.1.2.2.1, z2.2.1.2.2.2.1, z2.2.1.2.2.2.2.1, z2.2.1.2.2.2.2.2.1, ()), ())).bind fun (r7 : Bool × Unit) =>
 (sp26 ((z2.2.1.1, z2.2.1.2.1, z2.2.1.2.2.1, z2.2.1.2.2.2.1, z2.2.1.2.2.2.2.1, z2.2.1.2.2.2.2.2.1, ()), ())).bind fun (r8 : Bool × Unit) =>
 if (r7.1 == r8.1) = true then
 (sp25 ((z2.2.2.1.1, z2.2.2.1.2.1, z2.2.2.1.2.2.1, z2.2.2.1.2.2.2.1, z2.2.2.1.2.2.2.2.1, z2.2.2.1.2.2.2.2.2.1, ()), ())).bind
 fun (r9 : Bool × Unit) =>
 if r9.1 = true then
 (sp25
 ((z2.2.2.2.1.1, z2.2.2.2.1.2.1, z2.2.2.2.1.2.2.1, z2.2.2.2.1.2.2.2.1, z2.2.2.2.1.2.2.2.2.1, z2.2.2.2.1.2.2.2.2.2.1, ()),
 ())).bind
 fun (r10 : Bool × Unit) =>
 (sp26
 ((z2.2.2.2.1.1, z2.2.2.2.1.2.1, z2.2.2.2.1.2.2.1, z2.2.2.2.1.2.2.2.1, z2.2.2.2.1.2.2.2.2.1, z2.2.2.2.1.2.2.2.2.2.1, ()),
 ())).bind
 fun (r11 : Bool × Unit) =>
 if (r10.1 == r11.1) = true then (sp9 ()).bind fun (r12 : Bool × Unit) => j4 (r12.1, ()) else j4 (false, ())
 else j4 (false, ())
 else j4 (false, ())
 else j4 (false, ())
noncomputable def sh6 (fuel : Nat) (x0 : List UInt8) (x1 : List UInt8 × Int × List UInt8 × Int × List UInt8 × List UInt8 × Unit) (x2 : List (Int × Unit)) (x3 : List UInt8) : Option (Bool × Unit) :=
 (sp18 (x2, ())).bind fun (r0 : (List (Int × Unit) × Int × Unit) × Unit) =>
 (sp21 ((r0.1.1, r0.1.2.1, ()), ())).bind
 fun (r1 : (List UInt8 × Int × List UInt8 × Int × List UInt8 × List UInt8 × Unit) × (List (Int × Unit) × Int × Unit) × Unit) =>
 joinK sh6_K2
 fun
 (j13 :
 List UInt8 ×
 (List UInt8 × Int × List UInt8 × Int × List UInt8 × List UInt8 × Unit) ×
 (List UInt8 × Int × List UInt8 × Int × List UInt8 × List UInt8 × Unit) ×
 (List UInt8 × Int × List UInt8 × Int × List UInt8 × List UInt8 × Unit) × Unit →
 Option (Bool × Unit)) =>
 (sp22 ((r1.2.1.1, r1.2.1.2.1, ()), 3, ())).bind fun (r14 : Int × (List (Int × Unit) × Int × Unit) × Unit) =>
 if (r14.1 == 0) = true then
 j13
 (x0, (x1.1, x1.2.1, x1.2.2.1, x1.2.2.2.1, x1.2.2.2.2.1, x1.2.2.2.2.2.1, ()),
 (r1.1.1, r1.1.2.1, r1.1.2.2.1, r1.1.2.2.2.1, r1.1.2.2.2.2.1, r1.1.2.2.2.2.2.1, ()),
 (r1.1.1, r1.1.2.1, r1.1.2.2.1, r1.1.2.2.2.1, r1.1.2.2.2.2.1, x3, ()), ())
 else
 if (r14.1 == 1) = true then
 j13
 (x0, (x1.1, x1.2.1, x1.2.2.1, x1.2.2.2.1, x1.2.2.2.2.1, x1.2.2.2.2.2.1, ()),
 (r1.1.1, r1.1.2.1, r1.1.2.2.1, r1.1.2.2.2.1, r1.1.2.2.2.2.1, r1.1.2.2.2.2.2.1, ()),
 (r1.1.1, r1.1.2.1, r1.1.2.2.1, r1.1.2.2.2.1, x0, r1.1.2.2.2.2.2.1, ()), ())
 else
 j13
 (x0, (x1.1, x1.2.1, x1.2.2.1, x1.2.2.2.1, x1.2.2.2.2.1, x1.2.2.2.2.2.1, ()),
 (r1.1.1, r1.1.2.1, r1.1.2.2.1, r1.1.2.2.2.1, r1.1.2.2.2.2.1, r1.1.2.2.2.2.2.1, ()),
 (x1.1, x1.2.1, x1.2.2.1, x1.2.2.2.1, r1.1.2.2.2.2.1, r1.1.2.2.2.2.2.1, ()), ())
noncomputable def sp6 (x : (List UInt8) × (List UInt8 × Int × List UInt8 × Int × List UInt8 × List UInt8 × Unit) × (List (Int × Unit)) × (List UInt8) × Unit) : Option (Bool × Unit) := sh6 0 x.1 x.2.1 x.2.2.1 x.2.2.2.1
/-! 53 cmp.isNaN[string] -/
noncomputable def c53 : Code := Tryd.f53.body.getD .skip
def g53 : Sig := ⟨[.v (.ty .str)], .v (.ty .bool)⟩
def h53 : HT := (.n (.r .x) (.n (.r .x) .e))
noncomputable def FT53 : List (Nat × Entry) := []
noncomputable def IT53 : List (Nat × Inl) := []
def MT53 : MTab := []
noncomputable def sh53 (fuel : Nat) (x0 : List UInt8) : Option (Bool × Unit) :=
 some (!x0 == x0, ())
noncomputable def sp53 (x : (List UInt8) × Unit) : Option (Bool × Unit) := sh53 0 x.1
/-! 44 cmp.Compare[string] -/
noncomputable def c44 : Code := Tryd.f44.body.getD .skip
def g44 : Sig := ⟨[.v (.ty .str), .v (.ty .str)], .v (.ty (.int .i64))⟩
def h44 : HT := (.n (.r .x) (.n (.r .x) (.n (.r .x) (.n (.n (.r .x) (.n (.n (.n (.r .x) (.n (.n (.r .x) .e) .e)) (.n (.r .x) .e)) .e)) (.n (.n (.r .x) (.n (.n (.r .x) .e) .e)) (.n (.n (.r .x) (.n (.n (.r .x) .e) .e)) (.n (.n (.r .x) (.n (.n (.r .x) .e) .e)) (.n (.r .x) .e))))))))
noncomputable def FT44 : List (Nat × Entry) := [(53, ⟨g53, sp53⟩)]
noncomputable def IT44 : List (Nat × Inl) := []
def MT44 : MTab := []
noncomputable def sh44 (fuel : Nat) (x0 : List UInt8) (x1 : List UInt8) : Option (Int × Unit) :=
 (sp53 (x0, ())).bind fun (r0 : Bool × Unit) =>
 (sp53 (x1, ())).bind fun (r1 : Bool × Unit) =>
 if r0.1 = true then if r1.1 = true then some (0, ()) else some (-1, ())
 else
 if r1.1 = true then some (1, ())
 else
 if (List.brecOn.go (motive := fun (x : List UInt8) => List UInt8 → Bool) (x0, x1, ()).fst Op.bytesLess._f).1 x1 = true then some (-1, ())
 else
 if (!((List.brecOn.go (motive := fun (x : List UInt8) => List UInt8 → Bool) (x0, x1, ()).fst Op.bytesLess._f).1 x1 || x0 == x1)) = true then
 some (1, ())
 else some (0, ())
noncomputable def sp44 (x : (List UInt8) × (List UInt8) × Unit) : Option (Int × Unit) := sh44 0 x.1 x.2.1
/-! 54 cmp.isNaN[int] -/
noncomputable def c54 : Code := Tryd.f54.body.getD .skip
def g54 : Sig := ⟨[.v (.ty (.int .i64))], .v (.ty .bool)⟩
def h54 : HT := (.n (.r .x) (.n (.r .x) .e))
noncomputable def FT54 : List (Nat × Entry) := []
noncomputable def IT54 : List (Nat × Inl) := []
def MT54 : MTab := []
noncomputable def sh54 (fuel : Nat) (x0 : Int) : Option (Bool × Unit) :=
 some (x0 != x0, ())
noncomputable def sp54 (x : (Int) × Unit) : Option (Bool × Unit) := sh54 0 x.1
/-! 45 cmp.Compare[int] -/
noncomputable def c45 : Code := Tryd.f45.body.getD .skip
def g45 : Sig := ⟨[.v (.ty (.int .i64)), .v (.ty (.int .i64))], .v (.ty (.int .i64))⟩
def h45 : HT := (.n (.r .x) (.n (.r .x) (.n (.r .x) (.n (.n (.r .x) (.n (.n (.n (.r .x) (.n (.n (.r .x) .e) .e)) (.n (.r .x) .e)) .e)) (.n (.n (.r .x) (.n (.n (.r .x) .e) .e)) (.n (.n (.r .x) (.n (.n (.r .x) .e) .e)) (.n (.n (.r .x) (.n (.n (.r .x) .e) .e)) (.n (.r .x) .e))))))))
noncomputable def FT45 : List (Nat × Entry) := [(54, ⟨g54, sp54⟩)]
noncomputable def IT45 : List (Nat × Inl) := []
def MT45 : MTab := []
noncomputable def sh45 (fuel : Nat) (x0 : Int) (x1 : Int) : Option (Int × Unit) :=
 (sp54 (x0, ())).bind fun (r0 : Bool × Unit) =>
 (sp54 (x1, ())).bind fun (r1 : Bool × Unit) =>
 if r0.1 = true then if r1.1 = true then some (0, ()) else some (-1, ())
 else
 if r1.1 = true then some (1, ())
 else if decide (x0 < x1) = true then some (-1, ()) else if decide (x1 < x0) = true then some (1, ()) else some (0, ())
noncomputable def sp45 (x : (Int) × (Int) × Unit) : Option (Int × Unit) := sh45 0 x.1 x.2.1
/-! 43 cmp.Or[int] -/
noncomputable def c43 : Code := Tryd.f43.body.getD .skip
def g43 : Sig := ⟨[.v (.ty (.sl (.cons (.int .i64) .nil)))], .v (.ty (.int .i64))⟩
def h43 : HT := (.n (.r .x) (.n (.r .x) (.j ⟨[(3, .d (.ty (.int .i64)))], [], []⟩ (.n (.r .x) (.u (.l ⟨[(3, .d (.ty (.int .i64))), (6, .d (.ty (.sl (.cons (.int .i64) .nil)))), (7, .d (.ty (.int .i64))), (8, .d (.ty (.int .i64)))], [], []⟩ (.n (.r .x) (.n (.n .e .e) (.n (.u (.n (.r .x) (.n (.r .x) (.n (.n (.r .x) .e) .e)))) (.r .x))))))) (.n (.r .x) .e))))
noncomputable def FT43 : List (Nat × Entry) := []
noncomputable def IT43 : List (Nat × Inl) := []
def MT43 : MTab := []
noncomputable def sh43_K0 (z0 : Int × Unit) : Option (Int × Unit) :=
 some (z0.1, ())
noncomputable def sh43_L2 (j1 : Int × Unit → Option (Int × Unit)) (rc2 : Int × List (Int × Unit) × Int × Int × Unit → Option (Int × Unit)) (z2 : Int × List (Int × Unit) × Int × Int × Unit) : Option (Int × Unit) :=
 if decide (z2.2.2.2.1 < z2.2.2.1) = true then
 if inR z2.2.2.2.1 z2.2.1.length = true then
 if ((lAt (0, ()) z2.2.1 z2.2.2.2.1).1 != z2.1) = true then some ((lAt (0, ()) z2.2.1 z2.2.2.2.1).1, ())
 else rc2 (z2.1, z2.2.1, z2.2.2.1, IntKind.i64.wrap (z2.2.2.2.1 + 1), ())
 else none
 else j1 (z2.1, ())
noncomputable def sh43 (fuel : Nat) (x0 : List (Int × Unit)) : Option (Int × Unit) :=
 joinK sh43_K0 fun (j1 : Int × Unit → Option (Int × Unit)) => iter fuel (sh43_L2 j1) (0, x0, (↑x0.length : Int), 0, ())
noncomputable def sp43 (x : (List (Int × Unit)) × Unit) : Option (Int × Unit) := sh43 16 x.1
/-! 27 baggage/flight.Compare -/
noncomputable def c27 : Code := Tryd.f27.body.getD .skip
def g27 : Sig := ⟨[.v (.ag (.cons .str (.cons (.int .i64) (.cons .str (.cons (.int .i64) .nil))))), .v (.ag (.cons .str (.cons (.int .i64) (.cons .str (.cons (.int .i64) .nil)))))], .v (.ty (.int .i64))⟩
def h27 : HT := (.n (.r .x) (.n (.r (.qt 20)) .e))
noncomputable def FT27 : List (Nat × Entry) := [(44, ⟨g44, sp44⟩), (45, ⟨g45, sp45⟩), (43, ⟨g43, sp43⟩)]
noncomputable def IT27 : List (Nat × Inl) := []
def MT27 : MTab := []
noncomputable def sh27 (fuel : Nat) (x0 : List UInt8 × Int × List UInt8 × Int × Unit) (x1 : List UInt8 × Int × List UInt8 × Int × Unit) : Option (Int × Unit) :=
 (sp44 (x0.1, x1.1, ())).bind fun (r0 : Int × Unit) =>
 (sp45 (x0.2.1, x1.2.1, ())).bind fun (r1 : Int × Unit) =>
 (sp44 (x0.2.2.1, x1.2.2.1, ())).bind fun (r2 : Int × Unit) =>
 (sp45 (x0.2.2.2.1, x1.2.2.2.1, ())).bind fun (r3 : Int × Unit) =>
 (sp43 ([(r0.1, ()), (r1.1, ()), (r2.1, ()), (r3.1, ())], ())).bind fun (r4 : Int × Unit) => some (r4.1, ())
noncomputable def sp27 (x : (List UInt8 × Int × List UInt8 × Int × Unit) × (List UInt8 × Int × List UInt8 × Int × Unit) × Unit) : Option (Int × Unit) := sh27 0 x.1 x.2.1
/-! 28 baggage/baggageref02.Compare -/
noncomputable def c28 : Code := Tryd.f28.body.getD .skip
def g28 : Sig := ⟨[.v (.ag (.cons .str (.cons (.int .i64) (.cons .str (.cons (.int .i64) .nil))))), .v (.ag (.cons .str (.cons (.int .i64) (.cons .str (.cons (.int .i64) .nil)))))], .v (.ty (.int .i64))⟩
def h28 : HT := (.n (.r .x) (.j ⟨[], [], []⟩ (.u (.n (.r .x) (.n (.n (.r .x) .e) (.n (.r .x) (.n (.n (.r .x) (.n (.n (.r .x) .e) .e)) (.n (.r .x) (.n (.n (.r .x) (.n (.n (.r .x) .e) .e)) (.n (.r .x) (.n (.n (.r .x) (.n (.n (.r .x) .e) .e)) (.n (.r .x) (.n (.n (.r .x) .e) .e))))))))))) (.n (.r .x) .e)))
noncomputable def FT28 : List (Nat × Entry) := []
noncomputable def IT28 : List (Nat × Inl) := []
def MT28 : MTab := []
noncomputable def sh28_K0 (z0 : Unit) : Option (Int × Unit) :=
 some (1, ())
noncomputable def sh28 (fuel : Nat) (x0 : List UInt8 × Int × List UInt8 × Int × Unit) (x1 : List UInt8 × Int × List UInt8 × Int × Unit) : Option (Int × Unit) :=
 joinK sh28_K0 fun (j1 : Unit → Option (Int × Unit)) =>
 if (x0.1 == x1.1 && (x0.2.1 == x1.2.1 && (x0.2.2.1 == x1.2.2.1 && (x0.2.2.2.1 == x1.2.2.2.1 && true)))) = true then some (0, ())
 else
 if (!x0.1 == x1.1) = true then
 if (List.brecOn.go (motive := fun (x : List UInt8) => List UInt8 → Bool) (x0, x1, ()).fst.fst Op.bytesLess._f).1 x1.1 = true then some (-1, ())
 else j1 ()
 else
 if (x0.2.1 != x1.2.1) = true then if decide (x0.2.1 < x1.2.1) = true then some (-1, ()) else j1 ()
 else
 if (!x0.2.2.1 == x1.2.2.1) = true then
 if
 (List.brecOn.go (motive := fun (x : List UInt8) => List UInt8 → Bool) (x0, x1, ()).fst.snd.snd.fst Op.bytesLess._f).1 x1.2.2.1 =
 true then
 some (-1, ())
 else j1 ()
 else if decide (x0.2.2.2.1 < x1.2.2.2.1) = true then some (-1, ()) else j1 ()
noncomputable def sp28 (x : (List UInt8 × Int × List UInt8 × Int × Unit) × (List UInt8 × Int × List UInt8 × Int × Unit) × Unit) : Option (Int × Unit) := sh28 0 x.1 x.2.1
/-! 7 baggage/baggagelaw02.FlightOrder -/
noncomputable def c7 : Code := Tryd.f7.body.getD .skip
def g7 : Sig := ⟨[.v (.ag (.cons .str (.cons (.int .i64) (.cons .str (.cons (.int .i64) .nil))))), .v (.ag (.cons .str (.cons (.int .i64) (.cons .str (.cons (.int .i64) .nil))))), .v (.ty (.sl (.cons (.int .i64) .nil)))], .v (.ty .bool)⟩
def h7 : HT := (.n (.r .x) (.n (.r .x) (.n (.r .x) (.n (.j ⟨[(8, .ref 500000 4), (9, .ref 500001 4), (10, .ref 500002 4), (54, .d (.ty .bool))], [(500000, .box [.d .str, .d (.int .i64), .d .str, .d (.int .i64)]), (500001, .box [.d .str, .d (.int .i64), .d .str, .d (.int .i64)]), (500002, .box [.d .str, .d (.int .i64), .d .str, .d (.int .i64)])], []⟩ (.r .q) (.n (.n (.r .x) .e) .e)) (.j ⟨[(6, .d (.ty .bool))], [], []⟩ (.r .x) .e)))))
noncomputable def FT7 : List (Nat × Entry) := [(18, ⟨g18, sp18⟩), (19, ⟨g19, sp19⟩), (27, ⟨g27, sp27⟩), (28, ⟨g28, sp28⟩), (9, ⟨g9, sp9⟩)]
noncomputable def IT7 : List (Nat × Inl) := []
def MT7 : MTab := []
noncomputable def sh7_K5 (z5 : Bool × Unit) : Option (Bool × Unit) :=
 some (z5.1, ())
noncomputable def sh7_K4 (z4 : Bool ×
 (List UInt8 × Int × List UInt8 × Int × Unit) × (List UInt8 × Int × List UInt8 × Int × Unit) × (List UInt8 × Int × List UInt8 × Int × Unit) × Unit) : Option (Bool × Unit) :=
 if z4.1 = true then some (false, ())
 else
 joinK sh7_K5 fun (j6 : Bool × Unit → Option (Bool × Unit)) =>
 (sp27 ((z4.2.1.1, z4.2.1.2.1, z4.2.1.2.2.1, z4.2.1.2.2.2.1, ()), (z4.2.2.1.1, z4.2.2.1.2.1, z4.2.2.1.2.2.1, z4.2.2.1.2.2.2.1, ()), ())).bind
 fun (r7 : Int × Unit) =>
 if decide (0 < r7.1) = true then (sp9 ()).bind fun (r8 : Bool × Unit) => j6 (r8.1, ())
 else
 (sp27
 ((z4.2.2.1.1, z4.2.2.1.2.1, z4.2.2.1.2.2.1, z4.2.2.1.2.2.2.1, ()),
 (z4.2.2.2.1.1, z4.2.2.2.1.2.1, z4.2.2.2.1.2.2.1, z4.2.2.2.1.2.2.2.1, ()), ())).bind
 fun (r9 : Int × Unit) =>
 if decide (0 < r9.1) = true then (sp9 ()).bind fun (r10 : Bool × Unit) => j6 (r10.1, ())
 else
 (sp27
 ((z4.2.1.1, z4.2.1.2.1, z4.2.1.2.2.1, z4.2.1.2.2.2.1, ()), (z4.2.2.2.1.1, z4.2.2.2.1.2.1, z4.2.2.2.1.2.2.1, z4.2.2.2.1.2.2.2.1, ()),
 ())).bind
 fun (r11 : Int × Unit) => if decide (r11.1 ≤ 0) = true then (sp9 ()).bind fun (r12 : Bool × Unit) => j6 (r12.1, ()) else j6 (false, ())
noncomputable def sh7 (fuel : Nat) (x0 : List UInt8 × Int × List UInt8 × Int × Unit) (x1 : List UInt8 × Int × List UInt8 × Int × Unit) (x2 : List (Int × Unit)) : Option (Bool × Unit) :=
 (sp18 (x2, ())).bind fun (r0 : (List (Int × Unit) × Int × Unit) × Unit) =>
 (sp19 ((r0.1.1, r0.1.2.1, ()), ())).bind fun (r1 : (List UInt8 × Int × List UInt8 × Int × Unit) × (List (Int × Unit) × Int × Unit) × Unit) =>
 (sp19 ((r1.2.1.1, r1.2.1.2.1, ()), ())).bind fun (r2 : (List UInt8 × Int × List UInt8 × Int × Unit) × (List (Int × Unit) × Int × Unit) × Unit) =>
 (sp19 ((r2.2.1.1, r2.2.1.2.1, ()), ())).bind
 fun (r3 : (List UInt8 × Int × List UInt8 × Int × Unit) × (List (Int × Unit) × Int × Unit) × Unit) =>
 joinK sh7_K4
 fun
 (j13 :
 Bool ×
 (List UInt8 × Int × List UInt8 × Int × Unit) ×
 (List UInt8 × Int × List UInt8 × Int × Unit) × (List UInt8 × Int × List UInt8 × Int × Unit) × Unit →
 Option (Bool × Unit)) =>
 (sp27 ((x0.1, x0.2.1, x0.2.2.1, x0.2.2.2.1, ()), (x1.1, x1.2.1, x1.2.2.1, x1.2.2.2.1, ()), ())).bind fun (r14 : Int × Unit) =>
 (sp28 ((x0.1, x0.2.1, x0.2.2.1, x0.2.2.2.1, ()), (x1.1, x1.2.1, x1.2.2.1, x1.2.2.2.1, ()), ())).bind fun (r15 : Int × Unit) =>
 if (r14.1 != r15.1) = true then
 j13
 (true, (r1.1.1, r1.1.2.1, r1.1.2.2.1, r1.1.2.2.2.1, ()), (r2.1.1, r2.1.2.1, r2.1.2.2.1, r2.1.2.2.2.1, ()),
 (r3.1.1, r3.1.2.1, r3.1.2.2.1, r3.1.2.2.2.1, ()), ())
 else
 (sp27 ((r1.1.1, r1.1.2.1, r1.1.2.2.1, r1.1.2.2.2.1, ()), (r2.1.1, r2.1.2.1, r2.1.2.2.1, r2.1.2.2.2.1, ()), ())).bind
 fun (r16 : Int × Unit) =>
 (sp28 ((r1.1.1, r1.1.2.1, r1.1.2.2.1, r1.1.2.2.2.1, ()), (r2.1.1, r2.1.2.1, r2.1.2.2.1, r2.1.2.2.2.1, ()), ())).bind
 fun (r17 : Int × Unit) =>
 if (r16.1 != r17.1) = true then
 j13
 (true, (r1.1.1, r1.1.2.1, r1.1.2.2.1, r1.1.2.2.2.1, ()), (r2.1.1, r2.1.2.1, r2.1.2.2.1, r2.1.2.2.2.1, ()),
 (r3.1.1, r3.1.2.1, r3.1.2.2.1, r3.1.2.2.2.1, ()), ())
 else
 (sp27 ((r2.1.1, r2.1.2.1, r2.1.2.2.1, r2.1.2.2.2.1, ()), (r1.1.1, r1.1.2.1, r1.1.2.2.1, r1.1.2.2.2.1, ()), ())).bind
 fun (r18 : Int × Unit) =>
 (sp27 ((r1.1.1, r1.1.2.1, r1.1.2.2.1, r1.1.2.2.2.1, ()), (r2.1.1, r2.1.2.1, r2.1.2.2.1, r2.1.2.2.2.1, ()), ())).bind
 fun (r19 : Int × Unit) =>
 if (r18.1 != IntKind.i64.wrap (0 - r19.1)) = true then
 j13
 (true, (r1.1.1, r1.1.2.1, r1.1.2.2.1, r1.1.2.2.2.1, ()), (r2.1.1, r2.1.2.1, r2.1.2.2.1, r2.1.2.2.2.1, ()),
 (r3.1.1, r3.1.2.1, r3.1.2.2.1, r3.1.2.2.2.1, ()), ())
 else
 (sp27 ((r1.1.1, r1.1.2.1, r1.1.2.2.1, r1.1.2.2.2.1, ()), (r2.1.1, r2.1.2.1, r2.1.2.2.1, r2.1.2.2.2.1, ()), ())).bind
 fun (r20 : Int × Unit) =>
 j13
 (!(r20.1 == 0) ==
 (r1.1.1 == r2.1.1 &&
 (r1.1.2.1 == r2.1.2.1 && (r1.1.2.2.1 == r2.1.2.2.1 && (r1.1.2.2.2.1 == r2.1.2.2.2.1 && true)))),
 (r1.1.1, r1.1.2.1, r1.1.2.2.1, r1.1.2.2.2.1, ()), (r2.1.1, r2.1.2.1, r2.1.2.2.1, r2.1.2.2.2.1, ()),
 (r3.1.1, r3.1.2.1, r3.1.2.2.1, r3.1.2.2.2.1, ()), ())
noncomputable def sp7 (x : (List UInt8 × Int × List UInt8 × Int × Unit) × (List UInt8 × Int × List UInt8 × Int × Unit) × (List (Int × Unit)) × Unit) : Option (Bool × Unit) := sh7 0 x.1 x.2.1 x.2.2.1
/-! 8 baggage/baggagelaw02.FlightDays -/
noncomputable def c8 : Code := Tryd.f8.body.getD .skip
def g8 : Sig := ⟨[.v (.ty (.sl (.cons (.int .i64) .nil))), .v (.ty (.int .i64)), .v (.ty (.int .i64))], .v (.ty .bool)⟩
def h8 : HT := (.n (.r .x) (.n (.r .x) (.n (.r .x) (.n (.r .x) (.j ⟨[(6, .d (.ty .bool))], [], []⟩ (.r .q) .e)))))
noncomputable def FT8 : List (Nat × Entry) := [(18, ⟨g18, sp18⟩), (19, ⟨g19, sp19⟩), (20, ⟨g20, sp20⟩), (14, ⟨g14, sp14⟩), (16, ⟨g16, sp16⟩), (27, ⟨g27, sp27⟩), (9, ⟨g9, sp9⟩)]
noncomputable def IT8 : List (Nat × Inl) := []
def MT8 : MTab := []
noncomputable def sh8_K4 (z4 : Bool × Unit) : Option (Bool × Unit) :=
 some (z4.1, ())
noncomputable def sh8 (fuel : Nat) (x0 : List (Int × Unit)) (x1 : Int) (x2 : Int) : Option (Bool × Unit) :=
 (sp18 (x0, ())).bind fun (r0 : (List (Int × Unit) × Int × Unit) × Unit) =>
 (sp19 ((r0.1.1, r0.1.2.1, ()), ())).bind fun (r1 : (List UInt8 × Int × List UInt8 × Int × Unit) × (List (Int × Unit) × Int × Unit) × Unit) =>
 (sp20 (x1, 100, ())).bind fun (r2 : Int × Unit) =>
 (sp20 (x2, 100, ())).bind fun (r3 : Int × Unit) =>
 joinK sh8_K4 fun (j5 : Bool × Unit → Option (Bool × Unit)) =>
 (sp14 ((r1.1.1, r1.1.2.1, r1.1.2.2.1, r2.1, ()), ())).bind fun (r6 : List UInt8 × Unit) =>
 (sp14 ((r1.1.1, r1.1.2.1, r1.1.2.2.1, r3.1, ()), ())).bind fun (r7 : List UInt8 × Unit) =>
 if (r6.1 == r7.1) = true then
 (sp14 ((r1.1.1, r1.1.2.1, r1.1.2.2.1, r2.1, ()), ())).bind fun (r8 : List UInt8 × Unit) =>
 if decide (6 ≤ (↑r8.1.length : Int)) = true then
 (sp16 ((r1.1.1, r1.1.2.1, r1.1.2.2.1, r2.1, ()), ())).bind fun (r9 : List UInt8 × Unit) =>
 (sp16 ((r1.1.1, r1.1.2.1, r1.1.2.2.1, r3.1, ()), ())).bind fun (r10 : List UInt8 × Unit) =>
 if ((r9.1 == r10.1) == (r2.1 == r3.1)) = true then
 (sp27 ((r1.1.1, r1.1.2.1, r1.1.2.2.1, r2.1, ()), (r1.1.1, r1.1.2.1, r1.1.2.2.1, r3.1, ()), ())).bind
 fun (r11 : Int × Unit) =>
 if (decide (r11.1 < 0) == decide (r2.1 < r3.1)) = true then (sp9 ()).bind fun (r12 : Bool × Unit) => j5 (r12.1, ())
 else j5 (false, ())
 else j5 (false, ())
 else j5 (false, ())
 else j5 (false, ())
noncomputable def sp8 (x : (List (Int × Unit)) × (Int) × (Int) × Unit) : Option (Bool × Unit) := sh8 0 x.1 x.2.1 x.2.2.1
end Go.Proofs.YthoibdbhmacliaaDoor
