/- What the functions of the program come to. -/
import Derived.Test.YtodandhnddjfpaaDoorLibH
import Derived.Test.YtodandhnddjfpaaDoorProg
import Derived.KernelRfl
import Derived.Lib.Join
import Derived.Lib.IndexMore
open Go Go.Proofs Go.Abs
set_option linter.unusedVariables false
set_option maxRecDepth 100000
namespace Go.Proofs.YtodandhnddjfpaaDoor
def G : List (Nat × TD) := [(3, .int .i64), (4, .bool), (5, .int .u8), (9, .str), (22, .slice (.cons .str (.cons (.sl (.cons .str .nil)) .nil)) 40), (24, .struct (.cons .str (.cons .str (.cons (.sl (.cons .str (.cons (.sl (.cons .str .nil)) .nil))) .nil))) [(0, false, 1), (1, false, 1), (2, false, 1)] false), (25, .slice (.cons (.int .i64) .nil) 8), (28, .nl .nilP), (32, .slice (.cons .str .nil) 16), (34, .struct (.cons .str (.cons (.sl (.cons .str .nil)) .nil)) [(0, false, 1), (1, false, 1)] false), (36, .slice (.cons .str (.cons .str (.cons (.sl (.cons .str (.cons (.sl (.cons .str .nil)) .nil))) .nil))) 56), (37, .int .i64), (50, .struct (.cons (.sl (.cons (.int .i64) .nil)) (.cons (.int .i64) .nil)) [(0, false, 1), (1, false, 1)] false), (60, .nl .nilP), (63, .nl .nilF), (64, .slice (.cons (.int .u8) .nil) 1), (75, .nl .nilF), (77, .nl .nilF)]
/-! 8 baggage/baggagelaw03.light -/
noncomputable def c8 : Code := Tryd.f8.body.getD .skip
def g8 : Sig := ⟨[.v (.ag (.cons .str (.cons .str (.cons (.sl (.cons .str (.cons (.sl (.cons .str .nil)) .nil))) .nil))))], .v (.ty .bool)⟩
def h8 : HT := (.n (.r .x) (.n (.j ⟨[(1, .ref 500000 3), (20, .d (.ty .bool))], [(500000, .box [.d .str, .d .str, .d (.sl (.cons .str (.cons (.sl (.cons .str .nil)) .nil)))])], []⟩ (.r .x) (.n (.n (.r .x) .e) .e)) (.j ⟨[], [], []⟩ (.n (.r .x) (.u (.l ⟨[(1, .ref 500001 3), (3, .d (.ty (.int .i64)))], [(500001, .box [.d .str, .d .str, .d (.sl (.cons .str (.cons (.sl (.cons .str .nil)) .nil)))])], []⟩ (.n (.n (.r .x) (.n .e .e)) (.j ⟨[(1, .ref 500005 3), (3, .d (.ty (.int .i64)))], [(500005, .box [.d .str, .d .str, .d (.sl (.cons .str (.cons (.sl (.cons .str .nil)) .nil)))])], []⟩ (.u (.n (.j ⟨[(1, .ref 500002 3), (3, .d (.ty (.int .i64))), (45, .d (.ty .bool))], [(500002, .box [.d .str, .d .str, .d (.sl (.cons .str (.cons (.sl (.cons .str .nil)) .nil)))])], []⟩ (.r .x) (.n (.n (.r .x) .e) .e)) (.n (.r .x) (.u (.l ⟨[(1, .ref 500003 3), (3, .d (.ty (.int .i64))), (4, .d (.ty (.int .i64)))], [(500003, .box [.d .str, .d .str, .d (.sl (.cons .str (.cons (.sl (.cons .str .nil)) .nil)))])], []⟩ (.n (.n (.r .x) (.n .e .e)) (.n (.u (.n (.r .x) (.n (.n (.r .x) .e) .e))) (.r .x)))))))) (.r .x)))))) (.n (.r .x) .e))))
noncomputable def FT8 : List (Nat × Entry) := []
noncomputable def IT8 : List (Nat × Inl) := []
def MT8 : MTab := []
noncomputable def sh8_K1 (z1 : Unit) : Option (Bool × Unit) :=
 some (true, ())
noncomputable def sh8_K4 (rc3 : Int × (List UInt8 × List UInt8 × List (List UInt8 × List (List UInt8 × Unit) × Unit) × Unit) × Unit → Option (Bool × Unit)) (z4 : Int × (List UInt8 × List UInt8 × List (List UInt8 × List (List UInt8 × Unit) × Unit) × Unit) × Unit) : Option (Bool × Unit) :=
 rc3 (IntKind.i64.wrap (z4.1 + 1), (z4.2.1.1, z4.2.1.2.1, z4.2.1.2.2.1, ()), ())
noncomputable def sh8_L7 (j5 : Int × (List UInt8 × List UInt8 × List (List UInt8 × List (List UInt8 × Unit) × Unit) × Unit) × Unit → Option (Bool × Unit)) (rc7 : Int × Int × (List UInt8 × List UInt8 × List (List UInt8 × List (List UInt8 × Unit) × Unit) × Unit) × Unit → Option (Bool × Unit)) (z7 : Int × Int × (List UInt8 × List UInt8 × List (List UInt8 × List (List UInt8 × Unit) × Unit) × Unit) × Unit) : Option (Bool × Unit) :=
 if inR z7.1 z7.2.2.1.2.2.1.length = true then
 if decide (z7.2.1 < (↑(List.length (lAt ([], [], ()) z7.2.2.1.2.2.1 z7.1).2.1) : Int)) = true then
 if inR z7.1 z7.2.2.1.2.2.1.length = true then
 if inR z7.2.1 (List.length (lAt ([], [], ()) z7.2.2.1.2.2.1 z7.1).2.1) = true then
 if decide (60 < (↑(List.length (lAt ([], ()) (lAt ([], [], ()) z7.2.2.1.2.2.1 z7.1).2.1 z7.2.1).1) : Int)) = true then some (false, ())
 else rc7 (z7.1, IntKind.i64.wrap (z7.2.1 + 1), (z7.2.2.1.1, z7.2.2.1.2.1, z7.2.2.1.2.2.1, ()), ())
 else none
 else none
 else j5 (z7.1, (z7.2.2.1.1, z7.2.2.1.2.1, z7.2.2.1.2.2.1, ()), ())
 else none
noncomputable def sh8_K6 (fuel : Nat) (j5 : Int × (List UInt8 × List UInt8 × List (List UInt8 × List (List UInt8 × Unit) × Unit) × Unit) × Unit → Option (Bool × Unit)) (z6 : Int × Bool × (List UInt8 × List UInt8 × List (List UInt8 × List (List UInt8 × Unit) × Unit) × Unit) × Unit) : Option (Bool × Unit) :=
 if z6.2.1 = true then some (false, ()) else iter fuel (sh8_L7 j5) (z6.1, 0, (z6.2.2.1.1, z6.2.2.1.2.1, z6.2.2.1.2.2.1, ()), ())
noncomputable def sh8_L3 (fuel : Nat) (j2 : Unit → Option (Bool × Unit)) (rc3 : Int × (List UInt8 × List UInt8 × List (List UInt8 × List (List UInt8 × Unit) × Unit) × Unit) × Unit → Option (Bool × Unit)) (z3 : Int × (List UInt8 × List UInt8 × List (List UInt8 × List (List UInt8 × Unit) × Unit) × Unit) × Unit) : Option (Bool × Unit) :=
 if decide (z3.1 < (↑z3.2.1.2.2.1.length : Int)) = true then
 joinK (sh8_K4 rc3)
 fun (j5 : Int × (List UInt8 × List UInt8 × List (List UInt8 × List (List UInt8 × Unit) × Unit) × Unit) × Unit → Option (Bool × Unit)) =>
 joinK (sh8_K6 fuel j5)
 fun (j8 : Int × Bool × (List UInt8 × List UInt8 × List (List UInt8 × List (List UInt8 × Unit) × Unit) × Unit) × Unit → Option (Bool × Unit)) =>
 if inR z3.1 z3.2.1.2.2.1.length = true then
 if decide (20 < (↑(List.length (lAt ([], [], ()) z3.2.1.2.2.1 z3.1).2.1) : Int)) = true then
 j8 (z3.1, true, (z3.2.1.1, z3.2.1.2.1, z3.2.1.2.2.1, ()), ())
 else
 if inR z3.1 z3.2.1.2.2.1.length = true then
 j8 (z3.1, decide (40 < (↑(List.length (lAt ([], [], ()) z3.2.1.2.2.1 z3.1).1) : Int)), (z3.2.1.1, z3.2.1.2.1, z3.2.1.2.2.1, ()), ())
 else none
 else none
 else j2 ()
noncomputable def sh8_K0 (fuel : Nat) (z0 : Bool × (List UInt8 × List UInt8 × List (List UInt8 × List (List UInt8 × Unit) × Unit) × Unit) × Unit) : Option (Bool × Unit) :=
 if z0.1 = true then some (false, ())
 else joinK sh8_K1 fun (j2 : Unit → Option (Bool × Unit)) => iter fuel (sh8_L3 fuel j2) (0, (z0.2.1.1, z0.2.1.2.1, z0.2.1.2.2.1, ()), ())
noncomputable def sh8 (fuel : Nat) (x0 : List UInt8 × List UInt8 × List (List UInt8 × List (List UInt8 × Unit) × Unit) × Unit) : Option (Bool × Unit) :=
 joinK (sh8_K0 fuel)
 fun (j9 : Bool × (List UInt8 × List UInt8 × List (List UInt8 × List (List UInt8 × Unit) × Unit) × Unit) × Unit → Option (Bool × Unit)) =>
 if decide (40 < (↑x0.2.2.1.length : Int)) = true then j9 (true, (x0.1, x0.2.1, x0.2.2.1, ()), ())
 else
 if decide (40 < (↑x0.1.length : Int)) = true then j9 (true, (x0.1, x0.2.1, x0.2.2.1, ()), ())
 else j9 (decide (40 < (↑x0.2.1.length : Int)), (x0.1, x0.2.1, x0.2.2.1, ()), ())
noncomputable def sp8 (x : (List UInt8 × List UInt8 × List (List UInt8 × List (List UInt8 × Unit) × Unit) × Unit) × Unit) : Option (Bool × Unit) := sh8 100000 x.1
noncomputable def c42 : Code := Tryd.f42.body.getD .skip
/-! 52 baggage/fields.Letter -/
noncomputable def c52 : Code := Tryd.f52.body.getD .skip
def g52 : Sig := ⟨[.v (.ty (.int .u8))], .v (.ty .bool)⟩
def h52 : HT := (.n (.r .x) (.j ⟨[(2, .d (.ty .bool))], [], []⟩ (.r .x) .e))
noncomputable def FT52 : List (Nat × Entry) := []
noncomputable def IT52 : List (Nat × Inl) := []
def MT52 : MTab := []
noncomputable def sh52_K0 (z0 : Bool × Unit) : Option (Bool × Unit) :=
 some (z0.1, ())
noncomputable def sh52 (fuel : Nat) (x0 : Int) : Option (Bool × Unit) :=
 joinK sh52_K0 fun (j1 : Bool × Unit → Option (Bool × Unit)) => if decide (65 ≤ x0) = true then j1 (decide (x0 ≤ 90), ()) else j1 (false, ())
noncomputable def sp52 (x : (Int) × Unit) : Option (Bool × Unit) := sh52 0 x.1
/-! 40 baggage/fields.Letters -/
noncomputable def c40 : Code := Tryd.f40.body.getD .skip
def g40 : Sig := ⟨[.v (.ty .str), .v (.ty (.int .i64)), .v (.ty (.int .i64))], .v (.ty .bool)⟩
def h40 : HT := (.n (.r .x) (.j ⟨[(6, .d (.ty .bool))], [], []⟩ (.ri .x [(19, 0, (.n (.r .x) (.j ⟨[(17, .d (.ty .bool))], [], []⟩ (.n (.r .x) (.u (.l ⟨[(17, .d (.ty .bool)), (21, .d (.ty .str)), (22, .cst (.fn 52)), (28, .d (.ty (.int .i64))), (29, .d (.ty (.int .i64)))], [], []⟩ (.n (.r .x) (.n (.n .e .e) (.n (.u (.n (.r .x) (.n (.ri .x [(36, 0, (.n (.r .x) (.j ⟨[(17, .d (.ty .bool)), (21, .d (.ty .str)), (22, .cst (.fn 52)), (28, .d (.ty (.int .i64))), (29, .d (.ty (.int .i64))), (41, .d (.ty .bool))], [], []⟩ (.r .x) .e)))]) (.n (.n (.r .x) .e) .e)))) (.r .x))))))) (.n (.r .x) .e))))]) .e))
noncomputable def FT40 : List (Nat × Entry) := []
noncomputable def IT40 : List (Nat × Inl) := [(42, ⟨18, [.tmp 4], c42⟩), (52, ⟨9, [.tmp 2], c52⟩)]
def MT40 : MTab := []
noncomputable def sh40_K0 (z0 : Bool × Unit) : Option (Bool × Unit) :=
 some (z0.1, ())
noncomputable def sh40_K2 (j1 : Bool × Unit → Option (Bool × Unit)) (z2 : Bool × Unit) : Option (Bool × Unit) :=
 if z2.1 = true then j1 (true, ()) else j1 (false, ())
noncomputable def sh40_K5 (j1 : Bool × Unit → Option (Bool × Unit)) (rc4 : Bool × List UInt8 × Int × Int × Unit → Option (Bool × Unit)) (z5 : Bool × List UInt8 × Int × Int × Bool × Unit) : Option (Bool × Unit) :=
 if (!z5.2.2.2.2.1) = true then if z5.1 = true then j1 (false, ()) else j1 (false, ())
 else rc4 (z5.1, z5.2.1, z5.2.2.1, IntKind.i64.wrap (z5.2.2.2.1 + 1), ())
noncomputable def sh40_L4 (j1 : Bool × Unit → Option (Bool × Unit)) (j3 : Bool × Unit → Option (Bool × Unit)) (rc4 : Bool × List UInt8 × Int × Int × Unit → Option (Bool × Unit)) (z4 : Bool × List UInt8 × Int × Int × Unit) : Option (Bool × Unit) :=
 if decide (z4.2.2.2.1 < z4.2.2.1) = true then
 if inR z4.2.2.2.1 z4.2.1.length = true then
 joinK (sh40_K5 j1 rc4) fun (j6 : Bool × List UInt8 × Int × Int × Bool × Unit → Option (Bool × Unit)) =>
 if decide (65 ≤ sAt z4.2.1 z4.2.2.2.1) = true then j6 (z4.1, z4.2.1, z4.2.2.1, z4.2.2.2.1, decide (sAt z4.2.1 z4.2.2.2.1 ≤ 90), ())
 else j6 (z4.1, z4.2.1, z4.2.2.1, z4.2.2.2.1, false, ())
 else none
 else j3 (z4.1, ())
noncomputable def sh40 (fuel : Nat) (x0 : List UInt8) (x1 : Int) (x2 : Int) : Option (Bool × Unit) :=
 joinK sh40_K0 fun (j1 : Bool × Unit → Option (Bool × Unit)) =>
 if decide (x1 ≤ (↑x0.length : Int)) = true then
 if decide ((↑x0.length : Int) ≤ x2) = true then
 joinK (sh40_K2 j1) fun (j3 : Bool × Unit → Option (Bool × Unit)) => iter fuel (sh40_L4 j1 j3) (true, x0, (↑x0.length : Int), 0, ())
 else j1 (false, ())
 else j1 (false, ())
noncomputable def sp40 (x : (List UInt8) × (Int) × (Int) × Unit) : Option (Bool × Unit) := sh40 100000 x.1 x.2.1 x.2.2.1
/-! 41 baggage/telegram.change -/
noncomputable def c41 : Code := Tryd.f41.body.getD .skip
def g41 : Sig := ⟨[.v (.ty .str)], .v (.ty .bool)⟩
def h41 : HT := (.n (.r .x) (.j ⟨[(2, .d (.ty .bool))], [], []⟩ (.r .x) .e))
noncomputable def FT41 : List (Nat × Entry) := []
noncomputable def IT41 : List (Nat × Inl) := []
def MT41 : MTab := []
noncomputable def sh41_K0 (z0 : Bool × Unit) : Option (Bool × Unit) :=
 some (z0.1, ())
noncomputable def sh41 (fuel : Nat) (x0 : List UInt8) : Option (Bool × Unit) :=
 joinK sh41_K0 fun (j1 : Bool × Unit → Option (Bool × Unit)) => if (x0 == [67, 72, 71]) = true then j1 (true, ()) else j1 (x0 == [68, 69, 76], ())
noncomputable def sp41 (x : (List UInt8) × Unit) : Option (Bool × Unit) := sh41 0 x.1
/-! 53 baggage/fields.Digit -/
noncomputable def c53 : Code := Tryd.f53.body.getD .skip
def g53 : Sig := ⟨[.v (.ty (.int .u8))], .v (.ty .bool)⟩
def h53 : HT := (.n (.r .x) (.j ⟨[(2, .d (.ty .bool))], [], []⟩ (.r .x) .e))
noncomputable def FT53 : List (Nat × Entry) := []
noncomputable def IT53 : List (Nat × Inl) := []
def MT53 : MTab := []
noncomputable def sh53_K0 (z0 : Bool × Unit) : Option (Bool × Unit) :=
 some (z0.1, ())
noncomputable def sh53 (fuel : Nat) (x0 : Int) : Option (Bool × Unit) :=
 joinK sh53_K0 fun (j1 : Bool × Unit → Option (Bool × Unit)) => if decide (48 ≤ x0) = true then j1 (decide (x0 ≤ 57), ()) else j1 (false, ())
noncomputable def sp53 (x : (Int) × Unit) : Option (Bool × Unit) := sh53 0 x.1
noncomputable def c43 : Code := Tryd.f43.body.getD .skip
/-! 27 baggage/telegram.shaped -/
noncomputable def c27 : Code := Tryd.f27.body.getD .skip
def g27 : Sig := ⟨[.v (.ag (.cons .str (.cons .str (.cons (.sl (.cons .str (.cons (.sl (.cons .str .nil)) .nil))) .nil))))], .v (.ty .bool)⟩
def h27 : HT := (.n (.r .x) (.n (.j ⟨[(1, .ref 500000 3), (21, .d (.ty .bool))], [(500000, .box [.d .str, .d .str, .d (.sl (.cons .str (.cons (.sl (.cons .str .nil)) .nil)))])], []⟩ (.r .x) (.n (.n (.r .x) .e) .e)) (.j ⟨[], [], []⟩ (.n (.r .x) (.u (.l ⟨[(23, .d (.ty (.sl (.cons .str (.cons (.sl (.cons .str .nil)) .nil))))), (24, .d (.ty (.int .i64))), (25, .d (.ty (.int .i64)))], [], []⟩ (.n (.r .x) (.n (.n .e .e) (.j ⟨[(23, .d (.ty (.sl (.cons .str (.cons (.sl (.cons .str .nil)) .nil))))), (24, .d (.ty (.int .i64))), (25, .d (.ty (.int .i64)))], [], []⟩ (.u (.n (.r .x) (.n (.j ⟨[(4, .ref 500001 2), (23, .d (.ty (.sl (.cons .str (.cons (.sl (.cons .str .nil)) .nil))))), (24, .d (.ty (.int .i64))), (25, .d (.ty (.int .i64))), (38, .d (.ty .bool))], [(500001, .box [.d .str, .d (.sl (.cons .str .nil))])], []⟩ (.r .x) (.n (.n (.r .x) .e) .e)) (.n (.r .x) (.u (.l ⟨[(23, .d (.ty (.sl (.cons .str (.cons (.sl (.cons .str .nil)) .nil))))), (24, .d (.ty (.int .i64))), (25, .d (.ty (.int .i64))), (40, .d (.ty (.sl (.cons .str .nil)))), (41, .d (.ty (.int .i64))), (42, .d (.ty (.int .i64)))], [], []⟩ (.n (.r .x) (.n (.n .e .e) (.n (.u (.n (.r .x) (.j ⟨[(23, .d (.ty (.sl (.cons .str (.cons (.sl (.cons .str .nil)) .nil))))), (24, .d (.ty (.int .i64))), (25, .d (.ty (.int .i64))), (40, .d (.ty (.sl (.cons .str .nil)))), (41, .d (.ty (.int .i64))), (42, .d (.ty (.int .i64))), (48, .d (.ty .bool))], [], []⟩ (.ri .x [(47, 0, (.n (.r .x) (.j ⟨[(23, .d (.ty (.sl (.cons .str (.cons (.sl (.cons .str .nil)) .nil))))), (24, .d (.ty (.int .i64))), (25, .d (.ty (.int .i64))), (40, .d (.ty (.sl (.cons .str .nil)))), (41, .d (.ty (.int .i64))), (42, .d (.ty (.int .i64)))], [], []⟩ (.n (.r .x) (.u (.l ⟨[(23, .d (.ty (.sl (.cons .str (.cons (.sl (.cons .str .nil)) .nil))))), (24, .d (.ty (.int .i64))), (25, .d (.ty (.int .i64))), (40, .d (.ty (.sl (.cons .str .nil)))), (41, .d (.ty (.int .i64))), (42, .d (.ty (.int .i64))), (51, .d (.ty .str)), (52, .cst (.fn 43)), (58, .d (.ty (.int .i64))), (59, .d (.ty (.int .i64)))], [], []⟩ (.n (.r .x) (.n (.n .e .e) (.n (.u (.n (.r .x) (.n (.ri .x [(66, 0, (.n (.r .x) (.j ⟨[(23, .d (.ty (.sl (.cons .str (.cons (.sl (.cons .str .nil)) .nil))))), (24, .d (.ty (.int .i64))), (25, .d (.ty (.int .i64))), (40, .d (.ty (.sl (.cons .str .nil)))), (41, .d (.ty (.int .i64))), (42, .d (.ty (.int .i64))), (51, .d (.ty .str)), (52, .cst (.fn 43)), (58, .d (.ty (.int .i64))), (59, .d (.ty (.int .i64))), (71, .d (.ty .bool))], [], []⟩ (.r .x) .e)))]) (.n (.n (.r .x) .e) .e)))) (.r .x))))))) (.n (.r .x) .e))))]) (.n (.n (.r .x) .e) .e)))) (.r .x)))))))))) (.r .x))))))) (.n (.r .x) .e))))
noncomputable def FT27 : List (Nat × Entry) := [(40, ⟨g40, sp40⟩), (41, ⟨g41, sp41⟩), (52, ⟨g52, sp52⟩), (53, ⟨g53, sp53⟩)]
noncomputable def IT27 : List (Nat × Inl) := [(42, ⟨18, [.tmp 4], c42⟩), (43, ⟨21, [.tmp 2], c43⟩)]
def MT27 : MTab := []
noncomputable def sh27_K1 (z1 : Unit) : Option (Bool × Unit) :=
 some (true, ())
noncomputable def sh27_K4 (rc3 : List (List UInt8 × List (List UInt8 × Unit) × Unit) × Int × Int × Unit → Option (Bool × Unit)) (z4 : List (List UInt8 × List (List UInt8 × Unit) × Unit) × Int × Int × Unit) : Option (Bool × Unit) :=
 rc3 (z4.1, z4.2.1, IntKind.i64.wrap (z4.2.2.1 + 1), ())
noncomputable def sh27_K8 (rc7 : List (List UInt8 × List (List UInt8 × Unit) × Unit) × Int × Int × List (List UInt8 × Unit) × Int × Int × Unit → Option (Bool × Unit)) (z8 : List (List UInt8 × List (List UInt8 × Unit) × Unit) × Int × Int × List (List UInt8 × Unit) × Int × Int × Bool × Unit) : Option (Bool × Unit) :=
 if z8.2.2.2.2.2.2.1 = true then some (false, ())
 else rc7 (z8.1, z8.2.1, z8.2.2.1, z8.2.2.2.1, z8.2.2.2.2.1, IntKind.i64.wrap (z8.2.2.2.2.2.1 + 1), ())
noncomputable def sh27_K10 (j9 : List (List UInt8 × List (List UInt8 × Unit) × Unit) × Int × Int × List (List UInt8 × Unit) × Int × Int × Bool × Unit → Option (Bool × Unit)) (z10 : List (List UInt8 × List (List UInt8 × Unit) × Unit) × Int × Int × List (List UInt8 × Unit) × Int × Int × Unit) : Option (Bool × Unit) :=
 j9 (z10.1, z10.2.1, z10.2.2.1, z10.2.2.2.1, z10.2.2.2.2.1, z10.2.2.2.2.2.1, !true, ())
noncomputable def sh27_K13 (j9 : List (List UInt8 × List (List UInt8 × Unit) × Unit) × Int × Int × List (List UInt8 × Unit) × Int × Int × Bool × Unit → Option (Bool × Unit)) (rc12 : List (List UInt8 × List (List UInt8 × Unit) × Unit) × Int × Int × List (List UInt8 × Unit) × Int × Int × List UInt8 × Int × Int × Unit →
 Option (Bool × Unit)) (z13 : List (List UInt8 × List (List UInt8 × Unit) × Unit) × Int × Int × List (List UInt8 × Unit) × Int × Int × List UInt8 × Int × Int × Bool × Unit) : Option (Bool × Unit) :=
 if (!z13.2.2.2.2.2.2.2.2.2.1) = true then j9 (z13.1, z13.2.1, z13.2.2.1, z13.2.2.2.1, z13.2.2.2.2.1, z13.2.2.2.2.2.1, !false, ())
 else
 rc12
 (z13.1, z13.2.1, z13.2.2.1, z13.2.2.2.1, z13.2.2.2.2.1, z13.2.2.2.2.2.1, z13.2.2.2.2.2.2.1, z13.2.2.2.2.2.2.2.1,
 IntKind.i64.wrap (z13.2.2.2.2.2.2.2.2.1 + 1), ())
noncomputable def sh27_L12 (j9 : List (List UInt8 × List (List UInt8 × Unit) × Unit) × Int × Int × List (List UInt8 × Unit) × Int × Int × Bool × Unit → Option (Bool × Unit)) (j11 : List (List UInt8 × List (List UInt8 × Unit) × Unit) × Int × Int × List (List UInt8 × Unit) × Int × Int × Unit → Option (Bool × Unit)) (rc12 : List (List UInt8 × List (List UInt8 × Unit) × Unit) × Int × Int × List (List UInt8 × Unit) × Int × Int × List UInt8 × Int × Int × Unit →
 Option (Bool × Unit)) (z12 : List (List UInt8 × List (List UInt8 × Unit) × Unit) × Int × Int × List (List UInt8 × Unit) × Int × Int × List UInt8 × Int × Int × Unit) : Option (Bool × Unit) :=
 if decide (z12.2.2.2.2.2.2.2.2.1 < z12.2.2.2.2.2.2.2.1) = true then
 if inR z12.2.2.2.2.2.2.2.2.1 z12.2.2.2.2.2.2.1.length = true then
 joinK (sh27_K13 j9 rc12)
 fun
 (j14 :
 List (List UInt8 × List (List UInt8 × Unit) × Unit) ×
 Int × Int × List (List UInt8 × Unit) × Int × Int × List UInt8 × Int × Int × Bool × Unit →
 Option (Bool × Unit)) =>
 (sp52 (sAt z12.2.2.2.2.2.2.1 z12.2.2.2.2.2.2.2.2.1, ())).bind fun (r15 : Bool × Unit) =>
 if r15.1 = true then
 j14
 (z12.1, z12.2.1, z12.2.2.1, z12.2.2.2.1, z12.2.2.2.2.1, z12.2.2.2.2.2.1, z12.2.2.2.2.2.2.1, z12.2.2.2.2.2.2.2.1, z12.2.2.2.2.2.2.2.2.1,
 true, ())
 else
 (sp53 (sAt z12.2.2.2.2.2.2.1 z12.2.2.2.2.2.2.2.2.1, ())).bind fun (r16 : Bool × Unit) =>
 if r16.1 = true then
 j14
 (z12.1, z12.2.1, z12.2.2.1, z12.2.2.2.1, z12.2.2.2.2.1, z12.2.2.2.2.2.1, z12.2.2.2.2.2.2.1, z12.2.2.2.2.2.2.2.1,
 z12.2.2.2.2.2.2.2.2.1, true, ())
 else
 if (sAt z12.2.2.2.2.2.2.1 z12.2.2.2.2.2.2.2.2.1 == 32) = true then
 j14
 (z12.1, z12.2.1, z12.2.2.1, z12.2.2.2.1, z12.2.2.2.2.1, z12.2.2.2.2.2.1, z12.2.2.2.2.2.2.1, z12.2.2.2.2.2.2.2.1,
 z12.2.2.2.2.2.2.2.2.1, true, ())
 else
 if (sAt z12.2.2.2.2.2.2.1 z12.2.2.2.2.2.2.2.2.1 == 45) = true then
 j14
 (z12.1, z12.2.1, z12.2.2.1, z12.2.2.2.1, z12.2.2.2.2.1, z12.2.2.2.2.2.1, z12.2.2.2.2.2.2.1, z12.2.2.2.2.2.2.2.1,
 z12.2.2.2.2.2.2.2.2.1, true, ())
 else
 j14
 (z12.1, z12.2.1, z12.2.2.1, z12.2.2.2.1, z12.2.2.2.2.1, z12.2.2.2.2.2.1, z12.2.2.2.2.2.2.1, z12.2.2.2.2.2.2.2.1,
 z12.2.2.2.2.2.2.2.2.1, sAt z12.2.2.2.2.2.2.1 z12.2.2.2.2.2.2.2.2.1 == 43, ())
 else none
 else j11 (z12.1, z12.2.1, z12.2.2.1, z12.2.2.2.1, z12.2.2.2.2.1, z12.2.2.2.2.2.1, ())
noncomputable def sh27_L7 (fuel : Nat) (j5 : List (List UInt8 × List (List UInt8 × Unit) × Unit) × Int × Int × Unit → Option (Bool × Unit)) (rc7 : List (List UInt8 × List (List UInt8 × Unit) × Unit) × Int × Int × List (List UInt8 × Unit) × Int × Int × Unit → Option (Bool × Unit)) (z7 : List (List UInt8 × List (List UInt8 × Unit) × Unit) × Int × Int × List (List UInt8 × Unit) × Int × Int × Unit) : Option (Bool × Unit) :=
 if decide (z7.2.2.2.2.2.1 < z7.2.2.2.2.1) = true then
 if inR z7.2.2.2.2.2.1 z7.2.2.2.1.length = true then
 joinK (sh27_K8 rc7)
 fun
 (j9 :
 List (List UInt8 × List (List UInt8 × Unit) × Unit) × Int × Int × List (List UInt8 × Unit) × Int × Int × Bool × Unit →
 Option (Bool × Unit)) =>
 joinK (sh27_K10 j9)
 fun
 (j11 :
 List (List UInt8 × List (List UInt8 × Unit) × Unit) × Int × Int × List (List UInt8 × Unit) × Int × Int × Unit → Option (Bool × Unit)) =>
 iter fuel (sh27_L12 j9 j11)
 (z7.1, z7.2.1, z7.2.2.1, z7.2.2.2.1, z7.2.2.2.2.1, z7.2.2.2.2.2.1, (lAt ([], ()) z7.2.2.2.1 z7.2.2.2.2.2.1).1,
 (↑(List.length (lAt ([], ()) z7.2.2.2.1 z7.2.2.2.2.2.1).1) : Int), 0, ())
 else none
 else j5 (z7.1, z7.2.1, z7.2.2.1, ())
noncomputable def sh27_K6 (fuel : Nat) (j5 : List (List UInt8 × List (List UInt8 × Unit) × Unit) × Int × Int × Unit → Option (Bool × Unit)) (z6 : List (List UInt8 × List (List UInt8 × Unit) × Unit) × Int × Int × Bool × (List UInt8 × List (List UInt8 × Unit) × Unit) × Unit) : Option (Bool × Unit) :=
 if z6.2.2.2.1 = true then some (false, ())
 else iter fuel (sh27_L7 fuel j5) (z6.1, z6.2.1, z6.2.2.1, z6.2.2.2.2.1.2.1, (↑z6.2.2.2.2.1.2.1.length : Int), 0, ())
noncomputable def sh27_L3 (fuel : Nat) (j2 : Unit → Option (Bool × Unit)) (rc3 : List (List UInt8 × List (List UInt8 × Unit) × Unit) × Int × Int × Unit → Option (Bool × Unit)) (z3 : List (List UInt8 × List (List UInt8 × Unit) × Unit) × Int × Int × Unit) : Option (Bool × Unit) :=
 if decide (z3.2.2.1 < z3.2.1) = true then
 joinK (sh27_K4 rc3) fun (j5 : List (List UInt8 × List (List UInt8 × Unit) × Unit) × Int × Int × Unit → Option (Bool × Unit)) =>
 if inR z3.2.2.1 z3.1.length = true then
 joinK (sh27_K6 fuel j5)
 fun
 (j17 :
 List (List UInt8 × List (List UInt8 × Unit) × Unit) × Int × Int × Bool × (List UInt8 × List (List UInt8 × Unit) × Unit) × Unit →
 Option (Bool × Unit)) =>
 (sp40 ((lAt ([], [], ()) z3.1 z3.2.2.1).1, 1, 1, ())).bind fun (r18 : Bool × Unit) =>
 if (!r18.1) = true then
 j17 (z3.1, z3.2.1, z3.2.2.1, true, ((lAt ([], [], ()) z3.1 z3.2.2.1).1, (lAt ([], [], ()) z3.1 z3.2.2.1).2.1, ()), ())
 else
 j17
 (z3.1, z3.2.1, z3.2.2.1, (↑(List.length (lAt ([], [], ()) z3.1 z3.2.2.1).2.1) : Int) == 0,
 ((lAt ([], [], ()) z3.1 z3.2.2.1).1, (lAt ([], [], ()) z3.1 z3.2.2.1).2.1, ()), ())
 else none
 else j2 ()
noncomputable def sh27_K0 (fuel : Nat) (z0 : Bool × (List UInt8 × List UInt8 × List (List UInt8 × List (List UInt8 × Unit) × Unit) × Unit) × Unit) : Option (Bool × Unit) :=
 if z0.1 = true then some (false, ())
 else joinK sh27_K1 fun (j2 : Unit → Option (Bool × Unit)) => iter fuel (sh27_L3 fuel j2) (z0.2.1.2.2.1, (↑z0.2.1.2.2.1.length : Int), 0, ())
noncomputable def sh27 (fuel : Nat) (x0 : List UInt8 × List UInt8 × List (List UInt8 × List (List UInt8 × Unit) × Unit) × Unit) : Option (Bool × Unit) :=
 joinK (sh27_K0 fuel)
 fun (j19 : Bool × (List UInt8 × List UInt8 × List (List UInt8 × List (List UInt8 × Unit) × Unit) × Unit) × Unit → Option (Bool × Unit)) =>
 (sp40 (x0.1, 3, 3, ())).bind fun (r20 : Bool × Unit) =>
 if (!r20.1) = true then j19 (true, (x0.1, x0.2.1, x0.2.2.1, ()), ())
 else
 if (!x0.2.1 == []) = true then (sp41 (x0.2.1, ())).bind fun (r21 : Bool × Unit) => j19 (!r21.1, (x0.1, x0.2.1, x0.2.2.1, ()), ())
 else j19 (false, (x0.1, x0.2.1, x0.2.2.1, ()), ())
noncomputable def sp27 (x : (List UInt8 × List UInt8 × List (List UInt8 × List (List UInt8 × Unit) × Unit) × Unit) × Unit) : Option (Bool × Unit) := sh27 100000 x.1
noncomputable def c54 : Code := Tryd.f54.body.getD .skip
noncomputable def c44 : Code := Tryd.f44.body.getD .skip
noncomputable def c45 : Code := Tryd.f45.body.getD .skip
/-! 28 baggage/telegram.large -/
noncomputable def c28 : Code := Tryd.f28.body.getD .skip
def g28 : Sig := ⟨[.v (.ty (.sl (.cons .str .nil)))], .v (.ty .bool)⟩
def h28 : HT := (.n (.r .x) (.j ⟨[(2, .d (.ty .bool))], [], []⟩ (.ri .x [(8, 0, (.n (.r .x) (.j ⟨[(6, .d (.ty .bool)), (14, .d (.ty .bool))], [], []⟩ (.ri .x [(17, 0, (.n (.r .x) (.j ⟨[(6, .d (.ty .bool))], [], []⟩ (.n (.r .x) (.u (.l ⟨[(6, .d (.ty .bool)), (19, .d (.ty (.sl (.cons .str .nil)))), (20, .cst (.fn 45)), (26, .d (.ty (.int .i64))), (27, .d (.ty (.int .i64)))], [], []⟩ (.n (.r .x) (.n (.n .e .e) (.n (.u (.n (.r .x) (.n (.ri .x [(35, 0, (.n (.r .x) (.n (.r .x) .e)))]) (.n (.n (.r .x) .e) .e)))) (.r .x))))))) (.n (.r .x) .e))))]) .e)))]) .e))
noncomputable def FT28 : List (Nat × Entry) := []
noncomputable def IT28 : List (Nat × Inl) := [(44, ⟨9, [.tmp 4], c44⟩), (54, ⟨19, [.tmp 4], c54⟩), (45, ⟨6, [.tmp 2], c45⟩)]
def MT28 : MTab := []
noncomputable def sh28_K0 (z0 : Bool × Unit) : Option (Bool × Unit) :=
 some (z0.1, ())
noncomputable def sh28_K2 (j1 : Bool × Unit → Option (Bool × Unit)) (z2 : Bool × Bool × Unit) : Option (Bool × Unit) :=
 if z2.1 = true then j1 (true, ()) else j1 (z2.2.1, ())
noncomputable def sh28_K4 (j3 : Bool × Bool × Unit → Option (Bool × Unit)) (z4 : Bool × Unit) : Option (Bool × Unit) :=
 j3 (z4.1, decide (0 ≤ -1), ())
noncomputable def sh28_L6 (j3 : Bool × Bool × Unit → Option (Bool × Unit)) (j5 : Bool × Unit → Option (Bool × Unit)) (rc6 : Bool × List (List UInt8 × Unit) × Int × Int × Unit → Option (Bool × Unit)) (z6 : Bool × List (List UInt8 × Unit) × Int × Int × Unit) : Option (Bool × Unit) :=
 if decide (z6.2.2.2.1 < z6.2.2.1) = true then
 if inR z6.2.2.2.1 z6.2.1.length = true then
 if decide (20 < (↑(List.length (lAt ([], ()) z6.2.1 z6.2.2.2.1).1) : Int)) = true then j3 (z6.1, decide (0 ≤ z6.2.2.2.1), ())
 else rc6 (z6.1, z6.2.1, z6.2.2.1, IntKind.i64.wrap (z6.2.2.2.1 + 1), ())
 else none
 else j5 (z6.1, ())
noncomputable def sh28 (fuel : Nat) (x0 : List (List UInt8 × Unit)) : Option (Bool × Unit) :=
 joinK sh28_K0 fun (j1 : Bool × Unit → Option (Bool × Unit)) =>
 if decide (8 < (↑x0.length : Int)) = true then j1 (true, ())
 else
 joinK (sh28_K2 j1) fun (j3 : Bool × Bool × Unit → Option (Bool × Unit)) =>
 joinK (sh28_K4 j3) fun (j5 : Bool × Unit → Option (Bool × Unit)) => iter fuel (sh28_L6 j3 j5) (false, x0, (↑x0.length : Int), 0, ())
noncomputable def sp28 (x : (List (List UInt8 × Unit)) × Unit) : Option (Bool × Unit) := sh28 100000 x.1
def g25 : Sig := ⟨[.v (.ag (.cons .str (.cons .str (.cons (.sl (.cons .str (.cons (.sl (.cons .str .nil)) .nil))) .nil))))], .v (.ty .str)⟩
def elemL (e : List UInt8 × List (List UInt8 × Unit) × Unit) : List UInt8 := ((([46] ++ e.1) ++ [47]) ++ Lib.join (e.2.1.map (·.1)) [47]) ++ [10]
def headL (k c : List UInt8) : List UInt8 := if c = [] then k ++ [10] else (k ++ [10]) ++ (c ++ [10])
def textL (t : List UInt8 × List UInt8 × List (List UInt8 × List (List UInt8 × Unit) × Unit) × Unit) : List UInt8 := (headL t.1 t.2.1 ++ (t.2.2.1.map elemL).flatten) ++ (([69, 78, 68] ++ t.1) ++ [10])
noncomputable def sp25 (x : (List UInt8 × List UInt8 × List (List UInt8 × List (List UInt8 × Unit) × Unit) × Unit) × Unit) : Option (List UInt8 × Unit) :=
 if (textL x.1).length ≤ 140737488355328 then some (textL x.1, ()) else none
/-! 16 baggage/telegram.Validate -/
noncomputable def c16 : Code := Tryd.f16.body.getD .skip
def g16 : Sig := ⟨[.v (.ag (.cons .str (.cons .str (.cons (.sl (.cons .str (.cons (.sl (.cons .str .nil)) .nil))) .nil))))], .v (.ty (.int .i64))⟩
def h16 : HT := (.n (.r .x) (.n (.u (.n (.r .x) (.n (.n (.r .x) .e) (.n (.r .x) (.n (.n (.r .x) .e) .e))))) (.j ⟨[(1, .ref 500002 3)], [(500002, .box [.d .str, .d .str, .d (.sl (.cons .str (.cons (.sl (.cons .str .nil)) .nil)))])], []⟩ (.n (.r .x) (.u (.l ⟨[(1, .ref 500000 3), (15, .d (.ty (.sl (.cons .str (.cons (.sl (.cons .str .nil)) .nil))))), (16, .d (.ty (.int .i64))), (17, .d (.ty (.int .i64)))], [(500000, .box [.d .str, .d .str, .d (.sl (.cons .str (.cons (.sl (.cons .str .nil)) .nil)))])], []⟩ (.n (.r .x) (.n (.n .e .e) (.n (.u (.n (.r .x) (.n (.r .x) (.n (.n (.r .x) .e) .e)))) (.r .x))))))) (.n (.n (.r .x) (.n (.n (.r .x) .e) .e)) (.n (.r .x) .e)))))
noncomputable def FT16 : List (Nat × Entry) := [(27, ⟨g27, sp27⟩), (28, ⟨g28, sp28⟩), (25, ⟨g25, sp25⟩)]
noncomputable def IT16 : List (Nat × Inl) := []
def MT16 : MTab := []
noncomputable def sh16_K1 (z1 : (List UInt8 × List UInt8 × List (List UInt8 × List (List UInt8 × Unit) × Unit) × Unit) × Unit) : Option (Int × Unit) :=
 (sp25 ((z1.1.1, z1.1.2.1, z1.1.2.2.1, ()), ())).bind fun (r2 : List UInt8 × Unit) =>
 if decide (2048 < (↑r2.1.length : Int)) = true then some (2, ()) else some (0, ())
noncomputable def sh16_L4 (j3 : (List UInt8 × List UInt8 × List (List UInt8 × List (List UInt8 × Unit) × Unit) × Unit) × Unit → Option (Int × Unit)) (rc4 : List (List UInt8 × List (List UInt8 × Unit) × Unit) ×
 Int × Int × (List UInt8 × List UInt8 × List (List UInt8 × List (List UInt8 × Unit) × Unit) × Unit) × Unit →
 Option (Int × Unit)) (z4 : List (List UInt8 × List (List UInt8 × Unit) × Unit) ×
 Int × Int × (List UInt8 × List UInt8 × List (List UInt8 × List (List UInt8 × Unit) × Unit) × Unit) × Unit) : Option (Int × Unit) :=
 if decide (z4.2.2.1 < z4.2.1) = true then
 if inR z4.2.2.1 z4.1.length = true then
 (sp28 ((lAt ([], [], ()) z4.1 z4.2.2.1).2.1, ())).bind fun (r5 : Bool × Unit) =>
 if r5.1 = true then some (2, ())
 else rc4 (z4.1, z4.2.1, IntKind.i64.wrap (z4.2.2.1 + 1), (z4.2.2.2.1.1, z4.2.2.2.1.2.1, z4.2.2.2.1.2.2.1, ()), ())
 else none
 else j3 ((z4.2.2.2.1.1, z4.2.2.2.1.2.1, z4.2.2.2.1.2.2.1, ()), ())
noncomputable def sh16 (fuel : Nat) (x0 : List UInt8 × List UInt8 × List (List UInt8 × List (List UInt8 × Unit) × Unit) × Unit) : Option (Int × Unit) :=
 (sp27 ((x0.1, x0.2.1, x0.2.2.1, ()), ())).bind fun (r0 : Bool × Unit) =>
 if (!r0.1) = true then some (3, ())
 else
 if decide (24 < (↑x0.2.2.1.length : Int)) = true then some (2, ())
 else
 joinK sh16_K1 fun (j3 : (List UInt8 × List UInt8 × List (List UInt8 × List (List UInt8 × Unit) × Unit) × Unit) × Unit → Option (Int × Unit)) =>
 iter fuel (sh16_L4 j3) (x0.2.2.1, (↑x0.2.2.1.length : Int), 0, (x0.1, x0.2.1, x0.2.2.1, ()), ())
noncomputable def sp16 (x : (List UInt8 × List UInt8 × List (List UInt8 × List (List UInt8 × Unit) × Unit) × Unit) × Unit) : Option (Int × Unit) := sh16 100000 x.1
/-! 14 baggage/telegram.Format -/
noncomputable def c14 : Code := Tryd.f14.body.getD .skip
def g14 : Sig := ⟨[.v (.ag (.cons .str (.cons .str (.cons (.sl (.cons .str (.cons (.sl (.cons .str .nil)) .nil))) .nil))))], .tup [(.ty .str), (.ty (.int .i64))]⟩
def h14 : HT := (.n (.r .x) (.n (.n (.r .x) (.n (.r .x) (.n (.n (.r .x) .e) .e))) (.n (.r .x) .e)))
noncomputable def FT14 : List (Nat × Entry) := [(16, ⟨g16, sp16⟩), (25, ⟨g25, sp25⟩)]
noncomputable def IT14 : List (Nat × Inl) := []
def MT14 : MTab := []
noncomputable def sh14 (fuel : Nat) (x0 : List UInt8 × List UInt8 × List (List UInt8 × List (List UInt8 × Unit) × Unit) × Unit) : Option ((List UInt8 × Int × Unit) × Unit) :=
 (sp16 ((x0.1, x0.2.1, x0.2.2.1, ()), ())).bind fun (r0 : Int × Unit) =>
 if (r0.1 != 0) = true then some (([], r0.1, ()), ())
 else (sp25 ((x0.1, x0.2.1, x0.2.2.1, ()), ())).bind fun (r1 : List UInt8 × Unit) => some ((r1.1, 0, ()), ())
noncomputable def sp14 (x : (List UInt8 × List UInt8 × List (List UInt8 × List (List UInt8 × Unit) × Unit) × Unit) × Unit) : Option ((List UInt8 × Int × Unit) × Unit) := sh14 0 x.1
def g31 : Sig := ⟨[.v (.ty .str), .v (.ty .str)], .tup [(.ty .str), (.ty .str), (.ty .bool)]⟩
noncomputable def sp31 (x : List UInt8 × List UInt8 × Unit) : Option ((List UInt8 × List UInt8 × Bool × Unit) × Unit) :=
 match x.2.1 with
 | [c] => some (((Lib.cut x.1 [c]).1, (Lib.cut x.1 [c]).2.1, (Lib.cut x.1 [c]).2.2, ()), ())
 | _ => none
def g56 : Sig := ⟨[.v (.ty .str), .v (.ty .str)], .v (.ty (.sl (.cons .str .nil)))⟩
def splitL (c : UInt8) : List UInt8 → List (List UInt8)
 | [] => [[]]
 | x :: r => if x = c then [] :: splitL c r else match splitL c r with
 | [] => [[x]]
 | y :: ys => (x :: y) :: ys
noncomputable def sp56 (x : List UInt8 × List UInt8 × Unit) : Option (List (List UInt8 × Unit) × Unit) :=
 match x.2.1 with
 | [c] => if x.1.length < 4294967281 then some ((splitL c x.1).map (·, ()), ()) else none
 | _ => none
/-! 49 baggage/telegram.element -/
noncomputable def c49 : Code := Tryd.f49.body.getD .skip
def g49 : Sig := ⟨[.v (.ty .str)], .tup [(.ag (.cons .str (.cons (.sl (.cons .str .nil)) .nil))), (.ty .bool)]⟩
def h49 : HT := (.n (.r .x) (.n (.j ⟨[(0, .d (.ty .str)), (2, .ref 500000 2), (25, .d (.ty .bool))], [(500000, .box [.d .str, .own 500001]), (500001, .arr (.cons .str .nil))], []⟩ (.r .x) (.n (.n (.r .x) .e) .e)) (.n (.r (.w 7 [(1, 0), (1, 1), (1, 2), (1, 3), (2, 4), (0, 5), (4, 6)])) (.j ⟨[(2, .ref 500023 2), (4, .ref 500024 2)], [(500023, .box [.d .str, .own 500025]), (500024, .box [.d .str, .d (.sl (.cons .str .nil))]), (500025, .arr (.cons .str .nil))], []⟩ (.n (.r .x) (.u (.l ⟨[(2, .ref 500002 2), (4, .ref 500003 2), (34, .d (.ty (.sl (.cons .str .nil)))), (35, .d (.ty (.int .i64))), (36, .d (.ty (.int .i64)))], [(500002, .box [.d .str, .own 500004]), (500003, .box [.d .str, .d (.sl (.cons .str .nil))]), (500004, .arr (.cons .str .nil))], []⟩ (.n (.r .x) (.n (.n .e .e) (.n (.u (.n (.r .x) (.j ⟨[(2, .ref 500017 2), (4, .ref 500018 2), (34, .d (.ty (.sl (.cons .str .nil)))), (35, .d (.ty (.int .i64))), (36, .d (.ty (.int .i64))), (42, .d (.ty .bool))], [(500017, .box [.d .str, .own 500019]), (500018, .box [.d .str, .d (.sl (.cons .str .nil))]), (500019, .arr (.cons .str .nil))], []⟩ (.ri .x [(41, 0, (.n (.r .x) (.j ⟨[(2, .ref 500014 2), (4, .ref 500015 2), (34, .d (.ty (.sl (.cons .str .nil)))), (35, .d (.ty (.int .i64))), (36, .d (.ty (.int .i64)))], [(500014, .box [.d .str, .own 500016]), (500015, .box [.d .str, .d (.sl (.cons .str .nil))]), (500016, .arr (.cons .str .nil))], []⟩ (.n (.r .x) (.u (.l ⟨[(2, .ref 500005 2), (4, .ref 500006 2), (34, .d (.ty (.sl (.cons .str .nil)))), (35, .d (.ty (.int .i64))), (36, .d (.ty (.int .i64))), (46, .d (.ty .str)), (47, .cst (.fn 43)), (53, .d (.ty (.int .i64))), (54, .d (.ty (.int .i64)))], [(500005, .box [.d .str, .own 500007]), (500006, .box [.d .str, .d (.sl (.cons .str .nil))]), (500007, .arr (.cons .str .nil))], []⟩ (.n (.r .x) (.n (.n .e .e) (.n (.u (.n (.r .x) (.n (.ri .x [(61, 0, (.n (.r .x) (.j ⟨[(2, .ref 500008 2), (4, .ref 500009 2), (34, .d (.ty (.sl (.cons .str .nil)))), (35, .d (.ty (.int .i64))), (36, .d (.ty (.int .i64))), (46, .d (.ty .str)), (47, .cst (.fn 43)), (53, .d (.ty (.int .i64))), (54, .d (.ty (.int .i64))), (66, .d (.ty .bool))], [(500008, .box [.d .str, .own 500010]), (500009, .box [.d .str, .d (.sl (.cons .str .nil))]), (500010, .arr (.cons .str .nil))], []⟩ (.r .x) .e)))]) (.n (.n (.r .x) .e) .e)))) (.r .x))))))) (.n (.r .x) .e))))]) (.n (.n (.r .x) .e) .e)))) (.r .x))))))) (.n (.r .x) .e)))))
noncomputable def FT49 : List (Nat × Entry) := [(52, ⟨g52, sp52⟩), (56, ⟨g56, sp56⟩), (53, ⟨g53, sp53⟩)]
noncomputable def IT49 : List (Nat × Inl) := [(42, ⟨18, [.tmp 4], c42⟩), (43, ⟨21, [.tmp 2], c43⟩)]
def MT49 : MTab := []
noncomputable def sh49_K2 (z2 : (List UInt8 × Unit) × (List UInt8 × List (List UInt8 × Unit) × Unit) × List (List UInt8 × Unit) × Unit) : Option (((List UInt8 × List (List UInt8 × Unit) × Unit) × Bool × Unit) × Unit) :=
 some (((z2.2.1.1, z2.2.1.2.1, ()), true, ()), ())
noncomputable def sh49_K5 (rc4 : List (List UInt8 × Unit) × Int × Int × (List UInt8 × Unit) × (List UInt8 × List (List UInt8 × Unit) × Unit) × List (List UInt8 × Unit) × Unit →
 Option (((List UInt8 × List (List UInt8 × Unit) × Unit) × Bool × Unit) × Unit)) (z5 : List (List UInt8 × Unit) × Int × Int × Bool × (List UInt8 × Unit) × (List UInt8 × List (List UInt8 × Unit) × Unit) × List (List UInt8 × Unit) × Unit) : Option (((List UInt8 × List (List UInt8 × Unit) × Unit) × Bool × Unit) × Unit) :=
 if z5.2.2.2.1 = true then some ((([], [], ()), false, ()), ())
 else rc4 (z5.1, z5.2.1, IntKind.i64.wrap (z5.2.2.1 + 1), (z5.2.2.2.2.1.1, ()), (z5.2.2.2.2.2.1.1, z5.2.2.2.2.2.1.2.1, ()), z5.2.2.2.2.2.2.1, ())
noncomputable def sh49_K7 (j6 : List (List UInt8 × Unit) × Int × Int × Bool × (List UInt8 × Unit) × (List UInt8 × List (List UInt8 × Unit) × Unit) × List (List UInt8 × Unit) × Unit →
 Option (((List UInt8 × List (List UInt8 × Unit) × Unit) × Bool × Unit) × Unit)) (z7 : List (List UInt8 × Unit) × Int × Int × (List UInt8 × Unit) × (List UInt8 × List (List UInt8 × Unit) × Unit) × List (List UInt8 × Unit) × Unit) : Option (((List UInt8 × List (List UInt8 × Unit) × Unit) × Bool × Unit) × Unit) :=
 j6 (z7.1, z7.2.1, z7.2.2.1, !true, (z7.2.2.2.1.1, ()), (z7.2.2.2.2.1.1, z7.2.2.2.2.1.2.1, ()), z7.2.2.2.2.2.1, ())
noncomputable def sh49_K10 (j6 : List (List UInt8 × Unit) × Int × Int × Bool × (List UInt8 × Unit) × (List UInt8 × List (List UInt8 × Unit) × Unit) × List (List UInt8 × Unit) × Unit →
 Option (((List UInt8 × List (List UInt8 × Unit) × Unit) × Bool × Unit) × Unit)) (rc9 : List (List UInt8 × Unit) ×
 Int × Int × List UInt8 × Int × Int × (List UInt8 × Unit) × (List UInt8 × List (List UInt8 × Unit) × Unit) × List (List UInt8 × Unit) × Unit →
 Option (((List UInt8 × List (List UInt8 × Unit) × Unit) × Bool × Unit) × Unit)) (z10 : List (List UInt8 × Unit) ×
 Int × Int × List UInt8 × Int × Int × Bool × (List UInt8 × Unit) × (List UInt8 × List (List UInt8 × Unit) × Unit) × List (List UInt8 × Unit) × Unit) : Option (((List UInt8 × List (List UInt8 × Unit) × Unit) × Bool × Unit) × Unit) :=
 if (!z10.2.2.2.2.2.2.1) = true then
 j6
 (z10.1, z10.2.1, z10.2.2.1, !false, (z10.2.2.2.2.2.2.2.1.1, ()), (z10.2.2.2.2.2.2.2.2.1.1, z10.2.2.2.2.2.2.2.2.1.2.1, ()),
 z10.2.2.2.2.2.2.2.2.2.1, ())
 else
 rc9
 (z10.1, z10.2.1, z10.2.2.1, z10.2.2.2.1, z10.2.2.2.2.1, IntKind.i64.wrap (z10.2.2.2.2.2.1 + 1), (z10.2.2.2.2.2.2.2.1.1, ()),
 (z10.2.2.2.2.2.2.2.2.1.1, z10.2.2.2.2.2.2.2.2.1.2.1, ()), z10.2.2.2.2.2.2.2.2.2.1, ())
noncomputable def sh49_L9 (j6 : List (List UInt8 × Unit) × Int × Int × Bool × (List UInt8 × Unit) × (List UInt8 × List (List UInt8 × Unit) × Unit) × List (List UInt8 × Unit) × Unit →
 Option (((List UInt8 × List (List UInt8 × Unit) × Unit) × Bool × Unit) × Unit)) (j8 : List (List UInt8 × Unit) × Int × Int × (List UInt8 × Unit) × (List UInt8 × List (List UInt8 × Unit) × Unit) × List (List UInt8 × Unit) × Unit →
 Option (((List UInt8 × List (List UInt8 × Unit) × Unit) × Bool × Unit) × Unit)) (rc9 : List (List UInt8 × Unit) ×
 Int × Int × List UInt8 × Int × Int × (List UInt8 × Unit) × (List UInt8 × List (List UInt8 × Unit) × Unit) × List (List UInt8 × Unit) × Unit →
 Option (((List UInt8 × List (List UInt8 × Unit) × Unit) × Bool × Unit) × Unit)) (z9 : List (List UInt8 × Unit) ×
 Int × Int × List UInt8 × Int × Int × (List UInt8 × Unit) × (List UInt8 × List (List UInt8 × Unit) × Unit) × List (List UInt8 × Unit) × Unit) : Option (((List UInt8 × List (List UInt8 × Unit) × Unit) × Bool × Unit) × Unit) :=
 if decide (z9.2.2.2.2.2.1 < z9.2.2.2.2.1) = true then
 if inR z9.2.2.2.2.2.1 z9.2.2.2.1.length = true then
 joinK (sh49_K10 j6 rc9)
 fun
 (j11 :
 List (List UInt8 × Unit) ×
 Int ×
 Int ×
 List UInt8 ×
 Int × Int × Bool × (List UInt8 × Unit) × (List UInt8 × List (List UInt8 × Unit) × Unit) × List (List UInt8 × Unit) × Unit →
 Option (((List UInt8 × List (List UInt8 × Unit) × Unit) × Bool × Unit) × Unit)) =>
 (sp52 (sAt z9.2.2.2.1 z9.2.2.2.2.2.1, ())).bind fun (r12 : Bool × Unit) =>
 if r12.1 = true then
 j11
 (z9.1, z9.2.1, z9.2.2.1, z9.2.2.2.1, z9.2.2.2.2.1, z9.2.2.2.2.2.1, true, (z9.2.2.2.2.2.2.1.1, ()),
 (z9.2.2.2.2.2.2.2.1.1, z9.2.2.2.2.2.2.2.1.2.1, ()), z9.2.2.2.2.2.2.2.2.1, ())
 else
 (sp53 (sAt z9.2.2.2.1 z9.2.2.2.2.2.1, ())).bind fun (r13 : Bool × Unit) =>
 if r13.1 = true then
 j11
 (z9.1, z9.2.1, z9.2.2.1, z9.2.2.2.1, z9.2.2.2.2.1, z9.2.2.2.2.2.1, true, (z9.2.2.2.2.2.2.1.1, ()),
 (z9.2.2.2.2.2.2.2.1.1, z9.2.2.2.2.2.2.2.1.2.1, ()), z9.2.2.2.2.2.2.2.2.1, ())
 else
 if (sAt z9.2.2.2.1 z9.2.2.2.2.2.1 == 32) = true then
 j11
 (z9.1, z9.2.1, z9.2.2.1, z9.2.2.2.1, z9.2.2.2.2.1, z9.2.2.2.2.2.1, true, (z9.2.2.2.2.2.2.1.1, ()),
 (z9.2.2.2.2.2.2.2.1.1, z9.2.2.2.2.2.2.2.1.2.1, ()), z9.2.2.2.2.2.2.2.2.1, ())
 else
 if (sAt z9.2.2.2.1 z9.2.2.2.2.2.1 == 45) = true then
 j11
 (z9.1, z9.2.1, z9.2.2.1, z9.2.2.2.1, z9.2.2.2.2.1, z9.2.2.2.2.2.1, true, (z9.2.2.2.2.2.2.1.1, ()),
 (z9.2.2.2.2.2.2.2.1.1, z9.2.2.2.2.2.2.2.1.2.1, ()), z9.2.2.2.2.2.2.2.2.1, ())
 else
 j11
 (z9.1, z9.2.1, z9.2.2.1, z9.2.2.2.1, z9.2.2.2.2.1, z9.2.2.2.2.2.1, sAt z9.2.2.2.1 z9.2.2.2.2.2.1 == 43, (z9.2.2.2.2.2.2.1.1, ()),
 (z9.2.2.2.2.2.2.2.1.1, z9.2.2.2.2.2.2.2.1.2.1, ()), z9.2.2.2.2.2.2.2.2.1, ())
 else none
 else j8 (z9.1, z9.2.1, z9.2.2.1, (z9.2.2.2.2.2.2.1.1, ()), (z9.2.2.2.2.2.2.2.1.1, z9.2.2.2.2.2.2.2.1.2.1, ()), z9.2.2.2.2.2.2.2.2.1, ())
noncomputable def sh49_L4 (fuel : Nat) (j3 : (List UInt8 × Unit) × (List UInt8 × List (List UInt8 × Unit) × Unit) × List (List UInt8 × Unit) × Unit →
 Option (((List UInt8 × List (List UInt8 × Unit) × Unit) × Bool × Unit) × Unit)) (rc4 : List (List UInt8 × Unit) × Int × Int × (List UInt8 × Unit) × (List UInt8 × List (List UInt8 × Unit) × Unit) × List (List UInt8 × Unit) × Unit →
 Option (((List UInt8 × List (List UInt8 × Unit) × Unit) × Bool × Unit) × Unit)) (z4 : List (List UInt8 × Unit) × Int × Int × (List UInt8 × Unit) × (List UInt8 × List (List UInt8 × Unit) × Unit) × List (List UInt8 × Unit) × Unit) : Option (((List UInt8 × List (List UInt8 × Unit) × Unit) × Bool × Unit) × Unit) :=
 if decide (z4.2.2.1 < z4.2.1) = true then
 if inR z4.2.2.1 z4.1.length = true then
 joinK (sh49_K5 rc4)
 fun
 (j6 :
 List (List UInt8 × Unit) ×
 Int × Int × Bool × (List UInt8 × Unit) × (List UInt8 × List (List UInt8 × Unit) × Unit) × List (List UInt8 × Unit) × Unit →
 Option (((List UInt8 × List (List UInt8 × Unit) × Unit) × Bool × Unit) × Unit)) =>
 joinK (sh49_K7 j6)
 fun
 (j8 :
 List (List UInt8 × Unit) ×
 Int × Int × (List UInt8 × Unit) × (List UInt8 × List (List UInt8 × Unit) × Unit) × List (List UInt8 × Unit) × Unit →
 Option (((List UInt8 × List (List UInt8 × Unit) × Unit) × Bool × Unit) × Unit)) =>
 iter fuel (sh49_L9 j6 j8)
 (z4.1, z4.2.1, z4.2.2.1, (lAt ([], ()) z4.1 z4.2.2.1).1, (↑(List.length (lAt ([], ()) z4.1 z4.2.2.1).1) : Int), 0, (z4.2.2.2.1.1, ()),
 (z4.2.2.2.2.1.1, z4.2.2.2.2.1.2.1, ()), z4.2.2.2.2.2.1, ())
 else none
 else j3 ((z4.2.2.2.1.1, ()), (z4.2.2.2.2.1.1, z4.2.2.2.2.1.2.1, ()), z4.2.2.2.2.2.1, ())
noncomputable def sh49_K0 (fuel : Nat) (z0 : List UInt8 × Bool × (List UInt8 × Unit) × List (List UInt8 × Unit) × Unit) : Option (((List UInt8 × List (List UInt8 × Unit) × Unit) × Bool × Unit) × Unit) :=
 if z0.2.1 = true then some ((([], [], ()), false, ()), ())
 else
 if inCut 1 2 z0.1.length = true then
 if inCut 3 (↑z0.1.length : Int) z0.1.length = true then
 (sp56 (cutL z0.1 3 (↑z0.1.length : Int), [47], ())).bind fun (r1 : List (List UInt8 × Unit) × Unit) =>
 joinK sh49_K2
 fun
 (j3 :
 (List UInt8 × Unit) × (List UInt8 × List (List UInt8 × Unit) × Unit) × List (List UInt8 × Unit) × Unit →
 Option (((List UInt8 × List (List UInt8 × Unit) × Unit) × Bool × Unit) × Unit)) =>
 iter fuel (sh49_L4 fuel j3) (r1.1, (↑r1.1.length : Int), 0, (z0.2.2.1.1, ()), (cutL z0.1 1 2, r1.1, ()), z0.2.2.2.1, ())
 else none
 else none
noncomputable def sh49 (fuel : Nat) (x0 : List UInt8) : Option (((List UInt8 × List (List UInt8 × Unit) × Unit) × Bool × Unit) × Unit) :=
 joinK (sh49_K0 fuel)
 fun
 (j14 :
 List UInt8 × Bool × (List UInt8 × Unit) × List (List UInt8 × Unit) × Unit →
 Option (((List UInt8 × List (List UInt8 × Unit) × Unit) × Bool × Unit) × Unit)) =>
 if decide ((↑x0.length : Int) < 3) = true then j14 (x0, true, ([], ()), [], ())
 else
 if inR 0 x0.length = true then
 if (sAt x0 0 != 46) = true then j14 (x0, true, ([], ()), [], ())
 else
 if inR 1 x0.length = true then
 (sp52 (sAt x0 1, ())).bind fun (r15 : Bool × Unit) =>
 if (!r15.1) = true then j14 (x0, true, ([], ()), [], ())
 else if inR 2 x0.length = true then j14 (x0, sAt x0 2 != 47, ([], ()), [], ()) else none
 else none
 else none
noncomputable def sp49 (x : (List UInt8) × Unit) : Option (((List UInt8 × List (List UInt8 × Unit) × Unit) × Bool × Unit) × Unit) := sh49 100000 x.1
noncomputable def c32 : Code := Tryd.f32.body.getD .skip
/-! 18 baggage/telegram.Parse -/
noncomputable def c18 : Code := Tryd.f18.body.getD .skip
def g18 : Sig := ⟨[.v (.ty .str)], .tup [(.ag (.cons .str (.cons .str (.cons (.sl (.cons .str (.cons (.sl (.cons .str .nil)) .nil))) .nil)))), (.ty (.int .i64)), (.ty (.int .i64))]⟩
def h18 : HT := (.n (.r .x) (.n (.n (.r .x) (.n (.n (.r .x) .e) .e)) (.n (.r .x) (.j ⟨[(2, .ref 500017 3), (3, .d (.ty (.int .i64))), (5, .d (.ty .bool))], [(500017, .box [.d .str, .d .str, .own 500018]), (500018, .arr (.cons .str (.cons (.sl (.cons .str .nil)) .nil)))], []⟩ (.n (.r .x) (.u (.l ⟨[(0, .d (.ty .str)), (2, .ref 500000 3), (3, .d (.ty (.int .i64))), (5, .d (.ty .bool))], [(500000, .box [.d .str, .d .str, .own 500001]), (500001, .arr (.cons .str (.cons (.sl (.cons .str .nil)) .nil)))], []⟩ (.n (.n (.r .x) (.n .e .e)) (.n (.u (.n (.r .x) (.j ⟨[(2, .ref 500013 3), (3, .d (.ty (.int .i64))), (5, .d (.ty .bool)), (7, .d (.ty .str))], [(500013, .box [.d .str, .d .str, .own 500014]), (500014, .arr (.cons .str (.cons (.sl (.cons .str .nil)) .nil)))], []⟩ (.u (.j ⟨[(2, .ref 500002 3), (3, .d (.ty (.int .i64))), (5, .d (.ty .bool)), (6, .d (.ty .str)), (7, .d (.ty .str)), (31, .d (.ty .bool))], [(500002, .box [.d .str, .d .str, .own 500003]), (500003, .arr (.cons .str (.cons (.sl (.cons .str .nil)) .nil)))], []⟩ (.r .x) (.n (.n (.r .x) .e) (.j ⟨[(2, .ref 500004 3), (3, .d (.ty (.int .i64))), (5, .d (.ty .bool)), (6, .d (.ty .str)), (7, .d (.ty .str)), (39, .d (.ty .bool))], [(500004, .box [.d .str, .d .str, .own 500005]), (500005, .arr (.cons .str (.cons (.sl (.cons .str .nil)) .nil)))], []⟩ (.r .x) (.n (.r .x) (.j ⟨[(2, .ref 500011 3), (3, .d (.ty (.int .i64))), (4, .d (.ty (.int .i64))), (5, .d (.ty .bool)), (7, .d (.ty .str))], [(500011, .box [.d .str, .d .str, .own 500012]), (500012, .arr (.cons .str (.cons (.sl (.cons .str .nil)) .nil)))], []⟩ (.ri .x [(25, 0, (.n (.r .x) (.n (.u (.n (.r .x) (.n (.n (.n (.r .x) (.n (.n (.r .x) .e) .e)) (.n (.r .x) (.n (.r .x) .e))) (.j ⟨[(2, .ref 500006 3), (3, .d (.ty (.int .i64))), (5, .d (.ty .bool)), (7, .d (.ty .str)), (55, .ref 500006 3), (56, .d (.ty .str)), (74, .d (.ty .bool))], [(500006, .box [.d .str, .d .str, .own 500007]), (500007, .arr (.cons .str (.cons (.sl (.cons .str .nil)) .nil)))], []⟩ (.r .x) (.n (.n (.r .x) (.n (.r .x) .e)) .e))))) (.n (.r .x) (.n (.u (.n (.r .x) (.n (.n (.r .x) .e) (.j ⟨[(2, .ref 500008 3), (3, .d (.ty (.int .i64))), (5, .d (.ty .bool)), (7, .d (.ty .str)), (55, .ref 500008 3), (62, .ref 500009 2), (93, .d (.ty .bool))], [(500008, .box [.d .str, .d .str, .own 500010]), (500009, .box [.d .str, .d (.sl (.cons .str .nil))]), (500010, .arr (.cons .str (.cons (.sl (.cons .str .nil)) .nil)))], []⟩ (.r .x) (.n (.n (.r .x) .e) .e))))) (.n (.r (.w 8 [(1, 0), (1, 1), (0, 2), (0, 3), (0, 4), (0, 5), (3, 6), (2, 7)])) (.n (.r .x) .e)))))))]) (.n (.r .x) (.n (.n (.r .x) .e) .e)))))))) (.r .x)))) (.r .x)))))) (.n (.n (.r .x) (.n (.n (.r .x) .e) .e)) (.n (.r .x) .e))))))
noncomputable def FT18 : List (Nat × Entry) := [(31, ⟨g31, sp31⟩), (40, ⟨g40, sp40⟩), (41, ⟨g41, sp41⟩), (49, ⟨g49, sp49⟩), (28, ⟨g28, sp28⟩)]
noncomputable def IT18 : List (Nat × Inl) := [(32, ⟨60, [.tmp 6], c32⟩)]
def MT18 : MTab := []
noncomputable def sh18_K0 (z0 : Int × Bool × (List UInt8 × List UInt8 × Unit) × List (List UInt8 × List (List UInt8 × Unit) × Unit) × Unit) : Option (((List UInt8 × List UInt8 × List (List UInt8 × List (List UInt8 × Unit) × Unit) × Unit) × Int × Int × Unit) × Unit) :=
 if (!z0.2.1) = true then some ((([], [], [], ()), z0.1, 3, ()), ()) else some (((z0.2.2.1.1, z0.2.2.1.2.1, z0.2.2.2.1, ()), 0, 0, ()), ())
noncomputable def sh18_K4 (rc2 : List UInt8 × Int × Bool × (List UInt8 × List UInt8 × Unit) × List (List UInt8 × List (List UInt8 × Unit) × Unit) × Unit →
 Option (((List UInt8 × List UInt8 × List (List UInt8 × List (List UInt8 × Unit) × Unit) × Unit) × Int × Int × Unit) × Unit)) (z4 : Int × Bool × List UInt8 × (List UInt8 × List UInt8 × Unit) × List (List UInt8 × List (List UInt8 × Unit) × Unit) × Unit) : Option (((List UInt8 × List UInt8 × List (List UInt8 × List (List UInt8 × Unit) × Unit) × Unit) × Int × Int × Unit) × Unit) :=
 rc2 (z4.2.2.1, IntKind.i64.wrap (z4.1 + 1), z4.2.1, (z4.2.2.2.1.1, z4.2.2.2.1.2.1, ()), z4.2.2.2.2.1, ())
noncomputable def sh18_K8 (j5 : Int × Bool × List UInt8 × (List UInt8 × List UInt8 × Unit) × List (List UInt8 × List (List UInt8 × Unit) × Unit) × Unit →
 Option (((List UInt8 × List UInt8 × List (List UInt8 × List (List UInt8 × Unit) × Unit) × Unit) × Int × Int × Unit) × Unit)) (z8 : Int × Int × Bool × List UInt8 × (List UInt8 × List UInt8 × Unit) × List (List UInt8 × List (List UInt8 × Unit) × Unit) × Unit) : Option (((List UInt8 × List UInt8 × List (List UInt8 × List (List UInt8 × Unit) × Unit) × Unit) × Int × Int × Unit) × Unit) :=
 if (z8.2.1 != 0) = true then some ((([], [], [], ()), z8.1, z8.2.1, ()), ())
 else j5 (z8.1, z8.2.2.1, z8.2.2.2.1, (z8.2.2.2.2.1.1, z8.2.2.2.2.1.2.1, ()), z8.2.2.2.2.2.1, ())
noncomputable def sh18_K13 (j9 : Int × Int × Bool × List UInt8 × (List UInt8 × List UInt8 × Unit) × List (List UInt8 × List (List UInt8 × Unit) × Unit) × Unit →
 Option (((List UInt8 × List UInt8 × List (List UInt8 × List (List UInt8 × Unit) × Unit) × Unit) × Int × Int × Unit) × Unit)) (z13 : Int ×
 Bool ×
 List UInt8 ×
 Bool ×
 (List UInt8 × List UInt8 × Unit) × (List UInt8 × List (List UInt8 × Unit) × Unit) × List (List UInt8 × List (List UInt8 × Unit) × Unit) × Unit) : Option (((List UInt8 × List UInt8 × List (List UInt8 × List (List UInt8 × Unit) × Unit) × Unit) × Int × Int × Unit) × Unit) :=
 if z13.2.2.2.1 = true then j9 (z13.1, 2, z13.2.1, z13.2.2.1, (z13.2.2.2.2.1.1, z13.2.2.2.2.1.2.1, ()), z13.2.2.2.2.2.2.1, ())
 else
 if decide (z13.2.2.2.2.2.2.1.length + 1 ≤ Abs.lim) = true then
 if decide ((z13.2.2.2.2.2.2.1.length + 1) * 40 ≤ Abs.lim) = true then
 j9
 (z13.1, 0, z13.2.1, z13.2.2.1, (z13.2.2.2.2.1.1, z13.2.2.2.2.1.2.1, ()), z13.2.2.2.2.2.2.1 ++ [(z13.2.2.2.2.2.1.1, z13.2.2.2.2.2.1.2.1, ())],
 ())
 else none
 else none
noncomputable def sh18_K11 (j9 : Int × Int × Bool × List UInt8 × (List UInt8 × List UInt8 × Unit) × List (List UInt8 × List (List UInt8 × Unit) × Unit) × Unit →
 Option (((List UInt8 × List UInt8 × List (List UInt8 × List (List UInt8 × Unit) × Unit) × Unit) × Int × Int × Unit) × Unit)) (z11 : Int × Bool × List UInt8 × List UInt8 × Bool × (List UInt8 × List UInt8 × Unit) × List (List UInt8 × List (List UInt8 × Unit) × Unit) × Unit) : Option (((List UInt8 × List UInt8 × List (List UInt8 × List (List UInt8 × Unit) × Unit) × Unit) × Int × Int × Unit) × Unit) :=
 if z11.2.2.2.2.1 = true then j9 (z11.1, 0, z11.2.1, z11.2.2.1, (z11.2.2.2.2.2.1.1, z11.2.2.2.1, ()), z11.2.2.2.2.2.2.1, ())
 else
 (sp49 (z11.2.2.2.1, ())).bind fun (r12 : ((List UInt8 × List (List UInt8 × Unit) × Unit) × Bool × Unit) × Unit) =>
 if (!r12.1.2.1) = true then j9 (z11.1, 3, z11.2.1, z11.2.2.1, (z11.2.2.2.2.2.1.1, z11.2.2.2.2.2.1.2.1, ()), z11.2.2.2.2.2.2.1, ())
 else
 joinK (sh18_K13 j9)
 fun
 (j14 :
 Int ×
 Bool ×
 List UInt8 ×
 Bool ×
 (List UInt8 × List UInt8 × Unit) ×
 (List UInt8 × List (List UInt8 × Unit) × Unit) × List (List UInt8 × List (List UInt8 × Unit) × Unit) × Unit →
 Option (((List UInt8 × List UInt8 × List (List UInt8 × List (List UInt8 × Unit) × Unit) × Unit) × Int × Int × Unit) × Unit)) =>
 (sp28 (r12.1.1.2.1, ())).bind fun (r15 : Bool × Unit) =>
 if r15.1 = true then
 j14 (z11.1, z11.2.1, z11.2.2.1, true, (z11.2.2.2.2.2.1.1, z11.2.2.2.2.2.1.2.1, ()), (r12.1.1.1, r12.1.1.2.1, ()), z11.2.2.2.2.2.2.1, ())
 else
 j14
 (z11.1, z11.2.1, z11.2.2.1, (↑z11.2.2.2.2.2.2.1.length : Int) == 24, (z11.2.2.2.2.2.1.1, z11.2.2.2.2.2.1.2.1, ()),
 (r12.1.1.1, r12.1.1.2.1, ()), z11.2.2.2.2.2.2.1, ())
noncomputable def sh18_K7 (j5 : Int × Bool × List UInt8 × (List UInt8 × List UInt8 × Unit) × List (List UInt8 × List (List UInt8 × Unit) × Unit) × Unit →
 Option (((List UInt8 × List UInt8 × List (List UInt8 × List (List UInt8 × Unit) × Unit) × Unit) × Int × Int × Unit) × Unit)) (z7 : Int × Bool × List UInt8 × List UInt8 × Bool × (List UInt8 × List UInt8 × Unit) × List (List UInt8 × List (List UInt8 × Unit) × Unit) × Unit) : Option (((List UInt8 × List UInt8 × List (List UInt8 × List (List UInt8 × Unit) × Unit) × Unit) × Int × Int × Unit) × Unit) :=
 if z7.2.2.2.2.1 = true then j5 (z7.1, true, z7.2.2.2.1, (z7.2.2.2.2.2.1.1, z7.2.2.2.2.2.1.2.1, ()), z7.2.2.2.2.2.2.1, ())
 else
 joinK (sh18_K8 j5)
 fun
 (j9 :
 Int × Int × Bool × List UInt8 × (List UInt8 × List UInt8 × Unit) × List (List UInt8 × List (List UInt8 × Unit) × Unit) × Unit →
 Option (((List UInt8 × List UInt8 × List (List UInt8 × List (List UInt8 × Unit) × Unit) × Unit) × Int × Int × Unit) × Unit)) =>
 if (z7.1 == 1) = true then
 (sp40 (z7.2.2.1, 3, 3, ())).bind fun (r10 : Bool × Unit) =>
 if (!r10.1) = true then j9 (z7.1, 3, z7.2.1, z7.2.2.2.1, (z7.2.2.2.2.2.1.1, z7.2.2.2.2.2.1.2.1, ()), z7.2.2.2.2.2.2.1, ())
 else j9 (z7.1, 0, z7.2.1, z7.2.2.2.1, (z7.2.2.1, z7.2.2.2.2.2.1.2.1, ()), z7.2.2.2.2.2.2.1, ())
 else
 joinK (sh18_K11 j9)
 fun
 (j16 :
 Int ×
 Bool ×
 List UInt8 × List UInt8 × Bool × (List UInt8 × List UInt8 × Unit) × List (List UInt8 × List (List UInt8 × Unit) × Unit) × Unit →
 Option (((List UInt8 × List UInt8 × List (List UInt8 × List (List UInt8 × Unit) × Unit) × Unit) × Int × Int × Unit) × Unit)) =>
 if (z7.1 == 2) = true then
 (sp41 (z7.2.2.1, ())).bind fun (r17 : Bool × Unit) =>
 j16 (z7.1, z7.2.1, z7.2.2.2.1, z7.2.2.1, r17.1, (z7.2.2.2.2.2.1.1, z7.2.2.2.2.2.1.2.1, ()), z7.2.2.2.2.2.2.1, ())
 else j16 (z7.1, z7.2.1, z7.2.2.2.1, z7.2.2.1, false, (z7.2.2.2.2.2.1.1, z7.2.2.2.2.2.1.2.1, ()), z7.2.2.2.2.2.2.1, ())
noncomputable def sh18_K6 (j5 : Int × Bool × List UInt8 × (List UInt8 × List UInt8 × Unit) × List (List UInt8 × List (List UInt8 × Unit) × Unit) × Unit →
 Option (((List UInt8 × List UInt8 × List (List UInt8 × List (List UInt8 × Unit) × Unit) × Unit) × Int × Int × Unit) × Unit)) (z6 : Int × Bool × List UInt8 × List UInt8 × Bool × (List UInt8 × List UInt8 × Unit) × List (List UInt8 × List (List UInt8 × Unit) × Unit) × Unit) : Option (((List UInt8 × List UInt8 × List (List UInt8 × List (List UInt8 × Unit) × Unit) × Unit) × Int × Int × Unit) × Unit) :=
 if z6.2.2.2.2.1 = true then some ((([], [], [], ()), z6.1, 3, ()), ())
 else
 joinK (sh18_K7 j5)
 fun
 (j18 :
 Int × Bool × List UInt8 × List UInt8 × Bool × (List UInt8 × List UInt8 × Unit) × List (List UInt8 × List (List UInt8 × Unit) × Unit) × Unit →
 Option (((List UInt8 × List UInt8 × List (List UInt8 × List (List UInt8 × Unit) × Unit) × Unit) × Int × Int × Unit) × Unit)) =>
 if decide (1 < z6.1) = true then
 if decide ([69, 78, 68].length + z6.2.2.2.2.2.1.1.length ≤ Abs.lim) = true then
 j18
 (z6.1, z6.2.1, z6.2.2.1, z6.2.2.2.1, z6.2.2.1 == [69, 78, 68] ++ z6.2.2.2.2.2.1.1, (z6.2.2.2.2.2.1.1, z6.2.2.2.2.2.1.2.1, ()),
 z6.2.2.2.2.2.2.1, ())
 else none
 else j18 (z6.1, z6.2.1, z6.2.2.1, z6.2.2.2.1, false, (z6.2.2.2.2.2.1.1, z6.2.2.2.2.2.1.2.1, ()), z6.2.2.2.2.2.2.1, ())
noncomputable def sh18_L2 (j1 : Int × Bool × (List UInt8 × List UInt8 × Unit) × List (List UInt8 × List (List UInt8 × Unit) × Unit) × Unit →
 Option (((List UInt8 × List UInt8 × List (List UInt8 × List (List UInt8 × Unit) × Unit) × Unit) × Int × Int × Unit) × Unit)) (rc2 : List UInt8 × Int × Bool × (List UInt8 × List UInt8 × Unit) × List (List UInt8 × List (List UInt8 × Unit) × Unit) × Unit →
 Option (((List UInt8 × List UInt8 × List (List UInt8 × List (List UInt8 × Unit) × Unit) × Unit) × Int × Int × Unit) × Unit)) (z2 : List UInt8 × Int × Bool × (List UInt8 × List UInt8 × Unit) × List (List UInt8 × List (List UInt8 × Unit) × Unit) × Unit) : Option (((List UInt8 × List UInt8 × List (List UInt8 × List (List UInt8 × Unit) × Unit) × Unit) × Int × Int × Unit) × Unit) :=
 if (!z2.1 == []) = true then
 (sp31 (z2.1, [10], ())).bind fun (r3 : (List UInt8 × List UInt8 × Bool × Unit) × Unit) =>
 joinK (sh18_K4 rc2)
 fun
 (j5 :
 Int × Bool × List UInt8 × (List UInt8 × List UInt8 × Unit) × List (List UInt8 × List (List UInt8 × Unit) × Unit) × Unit →
 Option (((List UInt8 × List UInt8 × List (List UInt8 × List (List UInt8 × Unit) × Unit) × Unit) × Int × Int × Unit) × Unit)) =>
 joinK (sh18_K6 j5)
 fun
 (j19 :
 Int ×
 Bool ×
 List UInt8 × List UInt8 × Bool × (List UInt8 × List UInt8 × Unit) × List (List UInt8 × List (List UInt8 × Unit) × Unit) × Unit →
 Option (((List UInt8 × List UInt8 × List (List UInt8 × List (List UInt8 × Unit) × Unit) × Unit) × Int × Int × Unit) × Unit)) =>
 if (!r3.1.2.2.1) = true then j19 (z2.2.1, z2.2.2.1, r3.1.1, r3.1.2.1, true, (z2.2.2.2.1.1, z2.2.2.2.1.2.1, ()), z2.2.2.2.2.1, ())
 else j19 (z2.2.1, z2.2.2.1, r3.1.1, r3.1.2.1, z2.2.2.1, (z2.2.2.2.1.1, z2.2.2.2.1.2.1, ()), z2.2.2.2.2.1, ())
 else j1 (z2.2.1, z2.2.2.1, (z2.2.2.2.1.1, z2.2.2.2.1.2.1, ()), z2.2.2.2.2.1, ())
noncomputable def sh18 (fuel : Nat) (x0 : List UInt8) : Option (((List UInt8 × List UInt8 × List (List UInt8 × List (List UInt8 × Unit) × Unit) × Unit) × Int × Int × Unit) × Unit) :=
 if decide (2048 < (↑x0.length : Int)) = true then some ((([], [], [], ()), 0, 2, ()), ())
 else
 joinK sh18_K0
 fun
 (j1 :
 Int × Bool × (List UInt8 × List UInt8 × Unit) × List (List UInt8 × List (List UInt8 × Unit) × Unit) × Unit →
 Option (((List UInt8 × List UInt8 × List (List UInt8 × List (List UInt8 × Unit) × Unit) × Unit) × Int × Int × Unit) × Unit)) =>
 iter fuel (sh18_L2 j1) (x0, 1, false, ([], [], ()), [], ())
noncomputable def sp18 (x : (List UInt8) × Unit) : Option (((List UInt8 × List UInt8 × List (List UInt8 × List (List UInt8 × Unit) × Unit) × Unit) × Int × Int × Unit) × Unit) := sh18 100000 x.1
/-! 9 baggage/baggagelaw03.awake -/
noncomputable def c9 : Code := Tryd.f9.body.getD .skip
def g9 : Sig := ⟨[], .v (.ty .bool)⟩
def h9 : HT := (.n (.r .x) (.n (.r .x) (.n (.r .x) (.j ⟨[(0, .d (.ty .bool))], [], []⟩ (.r .x) .e))))
noncomputable def FT9 : List (Nat × Entry) := [(14, ⟨g14, sp14⟩), (18, ⟨g18, sp18⟩)]
noncomputable def IT9 : List (Nat × Inl) := []
def MT9 : MTab := []
noncomputable def sh9_K2 (z2 : Bool × Unit) : Option (Bool × Unit) :=
 some (z2.1, ())
noncomputable def sh9 (fuel : Nat) : Option (Bool × Unit) :=
 (sp14 (([66, 83, 77], [], [([70], [([83, 75, 48, 49, 50, 51], ()), ([48, 55], ())], ())], ()), ())).bind
 fun (r0 : (List UInt8 × Int × Unit) × Unit) =>
 (sp18 (r0.1.1, ())).bind
 fun (r1 : ((List UInt8 × List UInt8 × List (List UInt8 × List (List UInt8 × Unit) × Unit) × Unit) × Int × Int × Unit) × Unit) =>
 joinK sh9_K2 fun (j3 : Bool × Unit → Option (Bool × Unit)) =>
 if (r0.1.2.1 == 0) = true then
 if (r1.1.2.2.1 == 0) = true then
 if (r1.1.2.1 == 0) = true then
 if (r0.1.1 == [66, 83, 77, 10, 46, 70, 47, 83, 75, 48, 49, 50, 51, 47, 48, 55, 10, 69, 78, 68, 66, 83, 77, 10]) = true then
 if ((↑r1.1.1.2.2.1.length : Int) == 1) = true then
 if inR 0 r1.1.1.2.2.1.length = true then j3 ((↑(List.length (lAt ([], [], ()) r1.1.1.2.2.1 0).2.1) : Int) == 2, ()) else none
 else j3 (false, ())
 else j3 (false, ())
 else j3 (false, ())
 else j3 (false, ())
 else j3 (false, ())
noncomputable def sp9 (x : Unit) : Option (Bool × Unit) := sh9 0 
/-! 10 baggage/baggagekeep.New -/
noncomputable def c10 : Code := Tryd.f10.body.getD .skip
def g10 : Sig := ⟨[.v (.ty (.sl (.cons (.int .i64) .nil)))], .box (.cons (.sl (.cons (.int .i64) .nil)) (.cons (.int .i64) .nil))⟩
def h10 : HT := (.n (.r .x) (.j ⟨[(0, .d (.ty (.sl (.cons (.int .i64) .nil))))], [], []⟩ (.n (.r .x) (.n (.r .x) .e)) (.n (.r .x) .e)))
noncomputable def FT10 : List (Nat × Entry) := []
noncomputable def IT10 : List (Nat × Inl) := []
def MT10 : MTab := []
noncomputable def sh10_K0 (z0 : List (Int × Unit) × Unit) : Option ((List (Int × Unit) × Int × Unit) × Unit) :=
 some ((z0.1, 0, ()), ())
noncomputable def sh10 (fuel : Nat) (x0 : List (Int × Unit)) : Option ((List (Int × Unit) × Int × Unit) × Unit) :=
 joinK sh10_K0 fun (j1 : List (Int × Unit) × Unit → Option ((List (Int × Unit) × Int × Unit) × Unit)) =>
 if decide (2000 < (↑x0.length : Int)) = true then if inCut 0 2000 x0.length = true then j1 (cutL x0 0 2000, ()) else none else j1 (x0, ())
noncomputable def sp10 (x : (List (Int × Unit)) × Unit) : Option ((List (Int × Unit) × Int × Unit) × Unit) := sh10 0 x.1
/-! 24 (*baggage/baggagekeep.Src).Raw -/
noncomputable def c24 : Code := Tryd.f24.body.getD .skip
def g24 : Sig := ⟨[.bx (.cons (.sl (.cons (.int .i64) .nil)) (.cons (.int .i64) .nil))], .v (.ty (.int .i64))⟩
def h24 : HT := (.n (.r .x) (.n (.n (.r .q) (.n (.n (.r .x) .e) .e)) (.n (.r .x) (.n (.r .q) .e))))
noncomputable def FT24 : List (Nat × Entry) := []
noncomputable def IT24 : List (Nat × Inl) := []
def MT24 : MTab := []
noncomputable def sh24 (fuel : Nat) (x0 : List (Int × Unit) × Int × Unit) : Option (Int × (List (Int × Unit) × Int × Unit) × Unit) :=
 if decide ((↑x0.1.length : Int) ≤ x0.2.1) = true then some (0, (x0.1, x0.2.1, ()), ())
 else
 if inR (IntKind.i64.wrap (IntKind.i64.wrap (x0.2.1 + 1) - 1)) x0.1.length = true then
 some ((lAt (0, ()) x0.1 (IntKind.i64.wrap (IntKind.i64.wrap (x0.2.1 + 1) - 1))).1, (x0.1, IntKind.i64.wrap (x0.2.1 + 1), ()), ())
 else none
noncomputable def sp24 (x : (List (Int × Unit) × Int × Unit) × Unit) : Option (Int × (List (Int × Unit) × Int × Unit) × Unit) := sh24 0 x.1
/-! 19 baggage/baggagekeep.Mod -/
noncomputable def c19 : Code := Tryd.f19.body.getD .skip
def g19 : Sig := ⟨[.v (.ty (.int .i64)), .v (.ty (.int .i64))], .v (.ty (.int .i64))⟩
def h19 : HT := (.n (.r .x) (.n (.n (.r .x) (.n (.n (.r .x) .e) .e)) (.n (.r .x) (.j ⟨[(0, .d (.ty (.int .i64)))], [], []⟩ (.n (.r .x) (.n (.r .x) .e)) (.n (.r .x) .e)))))
noncomputable def FT19 : List (Nat × Entry) := []
noncomputable def IT19 : List (Nat × Inl) := []
def MT19 : MTab := []
noncomputable def sh19_K0 (z0 : Int × Unit) : Option (Int × Unit) :=
 some (z0.1, ())
noncomputable def sh19 (fuel : Nat) (x0 : Int) (x1 : Int) : Option (Int × Unit) :=
 if decide (x1 < 1) = true then some (0, ())
 else
 if (x1 != 0) = true then
 joinK sh19_K0 fun (j1 : Int × Unit → Option (Int × Unit)) =>
 if decide (x0.tmod x1 < 0) = true then j1 (IntKind.i64.wrap (x0.tmod x1 + x1), ()) else j1 (x0.tmod x1, ())
 else none
noncomputable def sp19 (x : (Int) × (Int) × Unit) : Option (Int × Unit) := sh19 0 x.1 x.2.1
/-! 12 (*baggage/baggagekeep.Src).N -/
noncomputable def c12 : Code := Tryd.f12.body.getD .skip
def g12 : Sig := ⟨[.bx (.cons (.sl (.cons (.int .i64) .nil)) (.cons (.int .i64) .nil)), .v (.ty (.int .i64))], .v (.ty (.int .i64))⟩
def h12 : HT := (.n (.r .x) (.n (.r .x) .e))
noncomputable def FT12 : List (Nat × Entry) := [(24, ⟨g24, sp24⟩), (19, ⟨g19, sp19⟩)]
noncomputable def IT12 : List (Nat × Inl) := []
def MT12 : MTab := []
noncomputable def sh12 (fuel : Nat) (x0 : List (Int × Unit) × Int × Unit) (x1 : Int) : Option (Int × (List (Int × Unit) × Int × Unit) × Unit) :=
 (sp24 ((x0.1, x0.2.1, ()), ())).bind fun (r0 : Int × (List (Int × Unit) × Int × Unit) × Unit) =>
 (sp19 (r0.1, x1, ())).bind fun (r1 : Int × Unit) => some (r1.1, (r0.2.1.1, r0.2.1.2.1, ()), ())
noncomputable def sp12 (x : (List (Int × Unit) × Int × Unit) × (Int) × Unit) : Option (Int × (List (Int × Unit) × Int × Unit) × Unit) := sh12 0 x.1 x.2.1
/-! 22 (*baggage/baggagekeep.Src).Text -/
noncomputable def c22 : Code := Tryd.f22.body.getD .skip
def g22 : Sig := ⟨[.bx (.cons (.sl (.cons (.int .i64) .nil)) (.cons (.int .i64) .nil)), .v (.ty (.sl (.cons .str .nil)))], .v (.ty .str)⟩
def h22 : HT := (.n (.r .x) (.n (.r .x) .e))
noncomputable def FT22 : List (Nat × Entry) := [(12, ⟨g12, sp12⟩)]
noncomputable def IT22 : List (Nat × Inl) := []
def MT22 : MTab := []
noncomputable def sh22 (fuel : Nat) (x0 : List (Int × Unit) × Int × Unit) (x1 : List (List UInt8 × Unit)) : Option (List UInt8 × (List (Int × Unit) × Int × Unit) × Unit) :=
 (sp12 ((x0.1, x0.2.1, ()), (↑x1.length : Int), ())).bind fun (r0 : Int × (List (Int × Unit) × Int × Unit) × Unit) =>
 if inR r0.1 x1.length = true then some ((lAt ([], ()) x1 r0.1).1, (r0.2.1.1, r0.2.1.2.1, ()), ()) else none
noncomputable def sp22 (x : (List (Int × Unit) × Int × Unit) × (List (List UInt8 × Unit)) × Unit) : Option (List UInt8 × (List (Int × Unit) × Int × Unit) × Unit) := sh22 0 x.1 x.2.1
/-! 13 (*baggage/baggagekeep.Src).Range -/
noncomputable def c13 : Code := Tryd.f13.body.getD .skip
def g13 : Sig := ⟨[.bx (.cons (.sl (.cons (.int .i64) .nil)) (.cons (.int .i64) .nil)), .v (.ty (.int .i64)), .v (.ty (.int .i64))], .v (.ty (.int .i64))⟩
def h13 : HT := (.n (.r .x) (.n (.r .x) .e))
noncomputable def FT13 : List (Nat × Entry) := [(12, ⟨g12, sp12⟩)]
noncomputable def IT13 : List (Nat × Inl) := []
def MT13 : MTab := []
noncomputable def sh13 (fuel : Nat) (x0 : List (Int × Unit) × Int × Unit) (x1 : Int) (x2 : Int) : Option (Int × (List (Int × Unit) × Int × Unit) × Unit) :=
 (sp12 ((x0.1, x0.2.1, ()), IntKind.i64.wrap (IntKind.i64.wrap (x2 - x1) + 1), ())).bind fun (r0 : Int × (List (Int × Unit) × Int × Unit) × Unit) =>
 some (IntKind.i64.wrap (x1 + r0.1), (r0.2.1.1, r0.2.1.2.1, ()), ())
noncomputable def sp13 (x : (List (Int × Unit) × Int × Unit) × (Int) × (Int) × Unit) : Option (Int × (List (Int × Unit) × Int × Unit) × Unit) := sh13 0 x.1 x.2.1 x.2.2.1
/-! 23 (*baggage/baggagekeep.Src).Letters -/
noncomputable def c23 : Code := Tryd.f23.body.getD .skip
def g23 : Sig := ⟨[.bx (.cons (.sl (.cons (.int .i64) .nil)) (.cons (.int .i64) .nil)), .v (.ty (.int .i64)), .v (.ty (.int .i64))], .v (.ty .str)⟩
def h23 : HT := (.n (.r .x) (.n (.r .x) (.j ⟨[(7, .own 500002)], [(900000, .box [.d (.sl (.cons (.int .i64) .nil)), .d (.int .i64)]), (500002, .arr (.cons (.int .u8) .nil))], []⟩ (.n (.r .x) (.u (.l ⟨[(0, .ref 900000 2), (7, .own 500000), (8, .d (.ty (.int .i64)))], [(900000, .box [.d (.sl (.cons (.int .i64) .nil)), .d (.int .i64)]), (500000, .arr (.cons (.int .u8) .nil))], []⟩ (.n (.n (.r .x) (.n .e .e)) (.n (.u (.r .x)) (.r .x)))))) (.n (.r .x) .e))))
noncomputable def FT23 : List (Nat × Entry) := [(13, ⟨g13, sp13⟩), (12, ⟨g12, sp12⟩)]
noncomputable def IT23 : List (Nat × Inl) := []
def MT23 : MTab := []
noncomputable def sh23_K1 (z1 : (List (Int × Unit) × Int × Unit) × List (Int × Unit) × Unit) : Option (List UInt8 × (List (Int × Unit) × Int × Unit) × Unit) :=
 some (toBytes z1.2.1, (z1.1.1, z1.1.2.1, ()), ())
noncomputable def sh23_L3 (j2 : (List (Int × Unit) × Int × Unit) × List (Int × Unit) × Unit → Option (List UInt8 × (List (Int × Unit) × Int × Unit) × Unit)) (rc3 : Int × (List (Int × Unit) × Int × Unit) × List (Int × Unit) × Unit → Option (List UInt8 × (List (Int × Unit) × Int × Unit) × Unit)) (z3 : Int × (List (Int × Unit) × Int × Unit) × List (Int × Unit) × Unit) : Option (List UInt8 × (List (Int × Unit) × Int × Unit) × Unit) :=
 if decide (z3.1 < (↑z3.2.2.1.length : Int)) = true then
 (sp12 ((z3.2.1.1, z3.2.1.2.1, ()), 26, ())).bind fun (r4 : Int × (List (Int × Unit) × Int × Unit) × Unit) =>
 if inR z3.1 z3.2.2.1.length = true then
 if decide (z3.1.toNat + 1 ≤ z3.2.2.1.length) = true then
 rc3
 (IntKind.i64.wrap (z3.1 + 1), (r4.2.1.1, r4.2.1.2.1, ()), z3.2.2.1.set z3.1.toNat (IntKind.u8.wrap (IntKind.i64.wrap (65 + r4.1)), ()), ())
 else none
 else none
 else j2 ((z3.2.1.1, z3.2.1.2.1, ()), z3.2.2.1, ())
noncomputable def sh23 (fuel : Nat) (x0 : List (Int × Unit) × Int × Unit) (x1 : Int) (x2 : Int) : Option (List UInt8 × (List (Int × Unit) × Int × Unit) × Unit) :=
 (sp13 ((x0.1, x0.2.1, ()), x1, x2, ())).bind fun (r0 : Int × (List (Int × Unit) × Int × Unit) × Unit) =>
 if decide (0 ≤ r0.1) = true then
 if decide (r0.1 ≤ r0.1) = true then
 if decide (r0.1 ≤ (↑Abs.lim : Int)) = true then
 if decide ((↑1 : Int) * r0.1 ≤ (↑Abs.lim : Int)) = true then
 joinK sh23_K1
 fun (j2 : (List (Int × Unit) × Int × Unit) × List (Int × Unit) × Unit → Option (List UInt8 × (List (Int × Unit) × Int × Unit) × Unit)) =>
 iter fuel (sh23_L3 j2) (0, (r0.2.1.1, r0.2.1.2.1, ()), List.replicate r0.1.toNat (0, ()), ())
 else none
 else none
 else none
 else none
noncomputable def sp23 (x : (List (Int × Unit) × Int × Unit) × (Int) × (Int) × Unit) : Option (List UInt8 × (List (Int × Unit) × Int × Unit) × Unit) := sh23 100000 x.1 x.2.1 x.2.2.1
/-! 11 (*baggage/baggagekeep.Src).Telegram -/
noncomputable def c11 : Code := Tryd.f11.body.getD .skip
def g11 : Sig := ⟨[.bx (.cons (.sl (.cons (.int .i64) .nil)) (.cons (.int .i64) .nil))], .v (.ag (.cons .str (.cons .str (.cons (.sl (.cons .str (.cons (.sl (.cons .str .nil)) .nil))) .nil))))⟩
def h11 : HT := (.n (.r .x) (.n (.r .x) (.j ⟨[(2, .ref 500030 3), (3, .ref 500031 3)], [(900000, .box [.d (.sl (.cons (.int .i64) .nil)), .d (.int .i64)]), (500030, .box [.d .str, .d .str, .own 500032]), (500031, .box [.d .str, .d .str, .own 500033]), (500032, .arr (.cons .str (.cons (.sl (.cons .str .nil)) .nil))), (500033, .arr (.cons .str (.cons (.sl (.cons .str .nil)) .nil)))], []⟩ (.n (.r .x) (.u (.l ⟨[(0, .ref 900000 2), (2, .ref 500000 3), (3, .ref 500001 3), (4, .d (.ty (.int .i64)))], [(900000, .box [.d (.sl (.cons (.int .i64) .nil)), .d (.int .i64)]), (500000, .box [.d .str, .d .str, .own 500002]), (500001, .box [.d .str, .d .str, .own 500003]), (500002, .arr (.cons .str (.cons (.sl (.cons .str .nil)) .nil))), (500003, .arr (.cons .str (.cons (.sl (.cons .str .nil)) .nil)))], []⟩ (.n (.n (.r .x) (.n .e .e)) (.j ⟨[(0, .ref 900000 2), (2, .ref 500022 3), (3, .ref 500023 3), (4, .d (.ty (.int .i64)))], [(900000, .box [.d (.sl (.cons (.int .i64) .nil)), .d (.int .i64)]), (500022, .box [.d .str, .d .str, .own 500024]), (500023, .box [.d .str, .d .str, .own 500025]), (500024, .arr (.cons .str (.cons (.sl (.cons .str .nil)) .nil))), (500025, .arr (.cons .str (.cons (.sl (.cons .str .nil)) .nil)))], []⟩ (.u (.n (.r .x) (.j ⟨[(0, .ref 900000 2), (2, .ref 500016 3), (3, .ref 500017 3), (4, .d (.ty (.int .i64))), (5, .ref 500018 2)], [(900000, .box [.d (.sl (.cons (.int .i64) .nil)), .d (.int .i64)]), (500016, .box [.d .str, .d .str, .own 500019]), (500017, .box [.d .str, .d .str, .own 500020]), (500018, .box [.d .str, .own 500021]), (500019, .arr (.cons .str (.cons (.sl (.cons .str .nil)) .nil))), (500020, .arr (.cons .str (.cons (.sl (.cons .str .nil)) .nil))), (500021, .arr (.cons .str .nil))], []⟩ (.n (.r .x) (.u (.l ⟨[(0, .ref 900000 2), (2, .ref 500004 3), (3, .ref 500005 3), (4, .d (.ty (.int .i64))), (5, .ref 500006 2), (6, .d (.ty (.int .i64)))], [(900000, .box [.d (.sl (.cons (.int .i64) .nil)), .d (.int .i64)]), (500004, .box [.d .str, .d .str, .own 500007]), (500005, .box [.d .str, .d .str, .own 500008]), (500006, .box [.d .str, .own 500009]), (500007, .arr (.cons .str (.cons (.sl (.cons .str .nil)) .nil))), (500008, .arr (.cons .str (.cons (.sl (.cons .str .nil)) .nil))), (500009, .arr (.cons .str .nil))], []⟩ (.n (.n (.r .x) (.n .e .e)) (.n (.u (.r (.w 6 [(0, 0), (0, 1), (1, 2), (3, 3), (2, 4), (3, 5)]))) (.r .x)))))) (.r .x)))) (.r .x)))))) (.n (.r .x) .e))))
noncomputable def FT11 : List (Nat × Entry) := [(22, ⟨g22, sp22⟩), (12, ⟨g12, sp12⟩), (23, ⟨g23, sp23⟩), (13, ⟨g13, sp13⟩)]
noncomputable def IT11 : List (Nat × Inl) := []
def MT11 : MTab := []
noncomputable def sh11_K2 (z2 : (List (Int × Unit) × Int × Unit) ×
 (List UInt8 × List UInt8 × Unit) ×
 (List UInt8 × List UInt8 × Unit) ×
 List (List UInt8 × List (List UInt8 × Unit) × Unit) × List (List UInt8 × List (List UInt8 × Unit) × Unit) × Unit) : Option ((List UInt8 × List UInt8 × List (List UInt8 × List (List UInt8 × Unit) × Unit) × Unit) × (List (Int × Unit) × Int × Unit) × Unit) :=
 some ((z2.2.2.1.1, z2.2.2.1.2.1, z2.2.2.2.2.1, ()), (z2.1.1, z2.1.2.1, ()), ())
noncomputable def sh11_K6 (rc5 : Int ×
 (List (Int × Unit) × Int × Unit) ×
 (List UInt8 × List UInt8 × Unit) ×
 (List UInt8 × List UInt8 × Unit) ×
 List (List UInt8 × List (List UInt8 × Unit) × Unit) × List (List UInt8 × List (List UInt8 × Unit) × Unit) × Unit →
 Option ((List UInt8 × List UInt8 × List (List UInt8 × List (List UInt8 × Unit) × Unit) × Unit) × (List (Int × Unit) × Int × Unit) × Unit)) (z6 : Int ×
 (List (Int × Unit) × Int × Unit) ×
 (List UInt8 × List UInt8 × Unit) ×
 (List UInt8 × List UInt8 × Unit) ×
 List (List UInt8 × List (List UInt8 × Unit) × Unit) × List (List UInt8 × List (List UInt8 × Unit) × Unit) × Unit) : Option ((List UInt8 × List UInt8 × List (List UInt8 × List (List UInt8 × Unit) × Unit) × Unit) × (List (Int × Unit) × Int × Unit) × Unit) :=
 rc5
 (IntKind.i64.wrap (z6.1 - 1), (z6.2.1.1, z6.2.1.2.1, ()), (z6.2.2.1.1, z6.2.2.1.2.1, ()), (z6.2.2.2.1.1, z6.2.2.2.1.2.1, ()), z6.2.2.2.2.1,
 z6.2.2.2.2.2.1, ())
noncomputable def sh11_K9 (j7 : Int ×
 (List (Int × Unit) × Int × Unit) ×
 (List UInt8 × List UInt8 × Unit) ×
 (List UInt8 × List UInt8 × Unit) ×
 List (List UInt8 × List (List UInt8 × Unit) × Unit) × List (List UInt8 × List (List UInt8 × Unit) × Unit) × Unit →
 Option ((List UInt8 × List UInt8 × List (List UInt8 × List (List UInt8 × Unit) × Unit) × Unit) × (List (Int × Unit) × Int × Unit) × Unit)) (z9 : Int ×
 (List (Int × Unit) × Int × Unit) ×
 (List UInt8 × List UInt8 × Unit) ×
 (List UInt8 × List UInt8 × Unit) ×
 (List UInt8 × Unit) ×
 List (List UInt8 × List (List UInt8 × Unit) × Unit) × List (List UInt8 × List (List UInt8 × Unit) × Unit) × List (List UInt8 × Unit) × Unit) : Option ((List UInt8 × List UInt8 × List (List UInt8 × List (List UInt8 × Unit) × Unit) × Unit) × (List (Int × Unit) × Int × Unit) × Unit) :=
 if decide (z9.2.2.2.2.2.2.1.length + 1 ≤ Abs.lim) = true then
 if decide ((z9.2.2.2.2.2.2.1.length + 1) * 40 ≤ Abs.lim) = true then
 j7
 (z9.1, (z9.2.1.1, z9.2.1.2.1, ()), (z9.2.2.1.1, z9.2.2.1.2.1, ()), (z9.2.2.2.1.1, z9.2.2.2.1.2.1, ()), z9.2.2.2.2.2.1,
 z9.2.2.2.2.2.2.1 ++ [(z9.2.2.2.2.1.1, z9.2.2.2.2.2.2.2.1, ())], ())
 else none
 else none
noncomputable def sh11_L12 (j10 : Int ×
 (List (Int × Unit) × Int × Unit) ×
 (List UInt8 × List UInt8 × Unit) ×
 (List UInt8 × List UInt8 × Unit) ×
 (List UInt8 × Unit) ×
 List (List UInt8 × List (List UInt8 × Unit) × Unit) ×
 List (List UInt8 × List (List UInt8 × Unit) × Unit) × List (List UInt8 × Unit) × Unit →
 Option ((List UInt8 × List UInt8 × List (List UInt8 × List (List UInt8 × Unit) × Unit) × Unit) × (List (Int × Unit) × Int × Unit) × Unit)) (rc12 : Int ×
 Int ×
 (List (Int × Unit) × Int × Unit) ×
 (List UInt8 × List UInt8 × Unit) ×
 (List UInt8 × List UInt8 × Unit) ×
 (List UInt8 × Unit) ×
 List (List UInt8 × List (List UInt8 × Unit) × Unit) ×
 List (List UInt8 × List (List UInt8 × Unit) × Unit) × List (List UInt8 × Unit) × Unit →
 Option ((List UInt8 × List UInt8 × List (List UInt8 × List (List UInt8 × Unit) × Unit) × Unit) × (List (Int × Unit) × Int × Unit) × Unit)) (z12 : Int ×
 Int ×
 (List (Int × Unit) × Int × Unit) ×
 (List UInt8 × List UInt8 × Unit) ×
 (List UInt8 × List UInt8 × Unit) ×
 (List UInt8 × Unit) ×
 List (List UInt8 × List (List UInt8 × Unit) × Unit) ×
 List (List UInt8 × List (List UInt8 × Unit) × Unit) × List (List UInt8 × Unit) × Unit) : Option ((List UInt8 × List UInt8 × List (List UInt8 × List (List UInt8 × Unit) × Unit) × Unit) × (List (Int × Unit) × Int × Unit) × Unit) :=
 if decide (0 < z12.2.1) = true then
 (sp22
 ((z12.2.2.1.1, z12.2.2.1.2.1, ()),
 [([], ()), ([65, 49], ()), ([83, 75, 48, 49, 50, 51], ()), ([74, 45, 32, 43], ()),
 ([48, 49, 50, 51, 52, 53, 54, 55, 56, 57, 65, 66, 67, 68, 69, 70, 71, 72, 73, 74], ())],
 ())).bind
 fun (r13 : List UInt8 × (List (Int × Unit) × Int × Unit) × Unit) =>
 if decide (z12.2.2.2.2.2.2.2.2.1.length + 1 ≤ Abs.lim) = true then
 if decide ((z12.2.2.2.2.2.2.2.2.1.length + 1) * 16 ≤ Abs.lim) = true then
 rc12
 (z12.1, IntKind.i64.wrap (z12.2.1 - 1), (r13.2.1.1, r13.2.1.2.1, ()), (z12.2.2.2.1.1, z12.2.2.2.1.2.1, ()),
 (z12.2.2.2.2.1.1, z12.2.2.2.2.1.2.1, ()), (z12.2.2.2.2.2.1.1, ()), z12.2.2.2.2.2.2.1, z12.2.2.2.2.2.2.2.1,
 z12.2.2.2.2.2.2.2.2.1 ++ [(r13.1, ())], ())
 else none
 else none
 else
 j10
 (z12.1, (z12.2.2.1.1, z12.2.2.1.2.1, ()), (z12.2.2.2.1.1, z12.2.2.2.1.2.1, ()), (z12.2.2.2.2.1.1, z12.2.2.2.2.1.2.1, ()), (z12.2.2.2.2.2.1.1, ()),
 z12.2.2.2.2.2.2.1, z12.2.2.2.2.2.2.2.1, z12.2.2.2.2.2.2.2.2.1, ())
noncomputable def sh11_L5 (fuel : Nat) (j3 : (List (Int × Unit) × Int × Unit) ×
 (List UInt8 × List UInt8 × Unit) ×
 (List UInt8 × List UInt8 × Unit) ×
 List (List UInt8 × List (List UInt8 × Unit) × Unit) × List (List UInt8 × List (List UInt8 × Unit) × Unit) × Unit →
 Option ((List UInt8 × List UInt8 × List (List UInt8 × List (List UInt8 × Unit) × Unit) × Unit) × (List (Int × Unit) × Int × Unit) × Unit)) (rc5 : Int ×
 (List (Int × Unit) × Int × Unit) ×
 (List UInt8 × List UInt8 × Unit) ×
 (List UInt8 × List UInt8 × Unit) ×
 List (List UInt8 × List (List UInt8 × Unit) × Unit) × List (List UInt8 × List (List UInt8 × Unit) × Unit) × Unit →
 Option ((List UInt8 × List UInt8 × List (List UInt8 × List (List UInt8 × Unit) × Unit) × Unit) × (List (Int × Unit) × Int × Unit) × Unit)) (z5 : Int ×
 (List (Int × Unit) × Int × Unit) ×
 (List UInt8 × List UInt8 × Unit) ×
 (List UInt8 × List UInt8 × Unit) ×
 List (List UInt8 × List (List UInt8 × Unit) × Unit) × List (List UInt8 × List (List UInt8 × Unit) × Unit) × Unit) : Option ((List UInt8 × List UInt8 × List (List UInt8 × List (List UInt8 × Unit) × Unit) × Unit) × (List (Int × Unit) × Int × Unit) × Unit) :=
 if decide (0 < z5.1) = true then
 joinK (sh11_K6 rc5)
 fun
 (j7 :
 Int ×
 (List (Int × Unit) × Int × Unit) ×
 (List UInt8 × List UInt8 × Unit) ×
 (List UInt8 × List UInt8 × Unit) ×
 List (List UInt8 × List (List UInt8 × Unit) × Unit) × List (List UInt8 × List (List UInt8 × Unit) × Unit) × Unit →
 Option
 ((List UInt8 × List UInt8 × List (List UInt8 × List (List UInt8 × Unit) × Unit) × Unit) × (List (Int × Unit) × Int × Unit) × Unit)) =>
 (sp23 ((z5.2.1.1, z5.2.1.2.1, ()), 1, 1, ())).bind fun (r8 : List UInt8 × (List (Int × Unit) × Int × Unit) × Unit) =>
 joinK (sh11_K9 j7)
 fun
 (j10 :
 Int ×
 (List (Int × Unit) × Int × Unit) ×
 (List UInt8 × List UInt8 × Unit) ×
 (List UInt8 × List UInt8 × Unit) ×
 (List UInt8 × Unit) ×
 List (List UInt8 × List (List UInt8 × Unit) × Unit) ×
 List (List UInt8 × List (List UInt8 × Unit) × Unit) × List (List UInt8 × Unit) × Unit →
 Option
 ((List UInt8 × List UInt8 × List (List UInt8 × List (List UInt8 × Unit) × Unit) × Unit) × (List (Int × Unit) × Int × Unit) × Unit)) =>
 (sp13 ((r8.2.1.1, r8.2.1.2.1, ()), 1, 3, ())).bind fun (r11 : Int × (List (Int × Unit) × Int × Unit) × Unit) =>
 iter fuel (sh11_L12 j10)
 (z5.1, r11.1, (r11.2.1.1, r11.2.1.2.1, ()), (z5.2.2.1.1, z5.2.2.1.2.1, ()), (z5.2.2.2.1.1, z5.2.2.2.1.2.1, ()), (r8.1, ()), z5.2.2.2.2.1,
 z5.2.2.2.2.2.1, [], ())
 else j3 ((z5.2.1.1, z5.2.1.2.1, ()), (z5.2.2.1.1, z5.2.2.1.2.1, ()), (z5.2.2.2.1.1, z5.2.2.2.1.2.1, ()), z5.2.2.2.2.1, z5.2.2.2.2.2.1, ())
noncomputable def sh11 (fuel : Nat) (x0 : List (Int × Unit) × Int × Unit) : Option ((List UInt8 × List UInt8 × List (List UInt8 × List (List UInt8 × Unit) × Unit) × Unit) × (List (Int × Unit) × Int × Unit) × Unit) :=
 (sp22 ((x0.1, x0.2.1, ()), [([66, 83, 77], ()), ([66, 84, 77], ()), ([88, 89, 90], ())], ())).bind
 fun (r0 : List UInt8 × (List (Int × Unit) × Int × Unit) × Unit) =>
 (sp22 ((r0.2.1.1, r0.2.1.2.1, ()), [([], ()), ([67, 72, 71], ()), ([68, 69, 76], ())], ())).bind
 fun (r1 : List UInt8 × (List (Int × Unit) × Int × Unit) × Unit) =>
 joinK sh11_K2
 fun
 (j3 :
 (List (Int × Unit) × Int × Unit) ×
 (List UInt8 × List UInt8 × Unit) ×
 (List UInt8 × List UInt8 × Unit) ×
 List (List UInt8 × List (List UInt8 × Unit) × Unit) × List (List UInt8 × List (List UInt8 × Unit) × Unit) × Unit →
 Option
 ((List UInt8 × List UInt8 × List (List UInt8 × List (List UInt8 × Unit) × Unit) × Unit) × (List (Int × Unit) × Int × Unit) × Unit)) =>
 (sp12 ((r1.2.1.1, r1.2.1.2.1, ()), 5, ())).bind fun (r4 : Int × (List (Int × Unit) × Int × Unit) × Unit) =>
 iter fuel (sh11_L5 fuel j3) (r4.1, (r4.2.1.1, r4.2.1.2.1, ()), ([], [], ()), (r0.1, r1.1, ()), [], [], ())
noncomputable def sp11 (x : (List (Int × Unit) × Int × Unit) × Unit) : Option ((List UInt8 × List UInt8 × List (List UInt8 × List (List UInt8 × Unit) × Unit) × Unit) × (List (Int × Unit) × Int × Unit) × Unit) := sh11 100000 x.1
/-! 46 baggage/baggageref03.letters -/
noncomputable def c46 : Code := Tryd.f46.body.getD .skip
def g46 : Sig := ⟨[.v (.ty .str), .v (.ty (.int .i64))], .v (.ty .bool)⟩
def h46 : HT := (.n (.r .x) (.j ⟨[(0, .d (.ty .str)), (1, .d (.ty (.int .i64)))], [], []⟩ (.n (.r .x) (.u (.l ⟨[(0, .d (.ty .str)), (1, .d (.ty (.int .i64))), (5, .d (.ty (.int .i64)))], [], []⟩ (.n (.n (.r .x) (.n .e .e)) (.n (.u (.j ⟨[(0, .d (.ty .str)), (1, .d (.ty (.int .i64))), (5, .d (.ty (.int .i64))), (21, .d (.ty .bool))], [], []⟩ (.r .x) (.n (.n (.r .x) .e) .e))) (.r .x)))))) (.n (.r .x) .e)))
noncomputable def FT46 : List (Nat × Entry) := []
noncomputable def IT46 : List (Nat × Inl) := []
def MT46 : MTab := []
noncomputable def sh46_K0 (z0 : List UInt8 × Int × Unit) : Option (Bool × Unit) :=
 some ((↑z0.1.length : Int) == z0.2.1, ())
noncomputable def sh46_K3 (rc2 : List UInt8 × Int × Int × Unit → Option (Bool × Unit)) (z3 : List UInt8 × Int × Int × Bool × Unit) : Option (Bool × Unit) :=
 if z3.2.2.2.1 = true then some (false, ()) else rc2 (z3.1, z3.2.1, IntKind.i64.wrap (z3.2.2.1 + 1), ())
noncomputable def sh46_L2 (j1 : List UInt8 × Int × Unit → Option (Bool × Unit)) (rc2 : List UInt8 × Int × Int × Unit → Option (Bool × Unit)) (z2 : List UInt8 × Int × Int × Unit) : Option (Bool × Unit) :=
 if decide (z2.2.2.1 < (↑z2.1.length : Int)) = true then
 joinK (sh46_K3 rc2) fun (j4 : List UInt8 × Int × Int × Bool × Unit → Option (Bool × Unit)) =>
 if inR z2.2.2.1 z2.1.length = true then
 if decide (sAt z2.1 z2.2.2.1 < 65) = true then j4 (z2.1, z2.2.1, z2.2.2.1, true, ())
 else if inR z2.2.2.1 z2.1.length = true then j4 (z2.1, z2.2.1, z2.2.2.1, decide (90 < sAt z2.1 z2.2.2.1), ()) else none
 else none
 else j1 (z2.1, z2.2.1, ())
noncomputable def sh46 (fuel : Nat) (x0 : List UInt8) (x1 : Int) : Option (Bool × Unit) :=
 joinK sh46_K0 fun (j1 : List UInt8 × Int × Unit → Option (Bool × Unit)) => iter fuel (sh46_L2 j1) (x0, x1, 0, ())
noncomputable def sp46 (x : (List UInt8) × (Int) × Unit) : Option (Bool × Unit) := sh46 100000 x.1 x.2.1
/-! 47 baggage/baggageref03.plain -/
noncomputable def c47 : Code := Tryd.f47.body.getD .skip
def g47 : Sig := ⟨[.v (.ty .str)], .v (.ty .bool)⟩
def h47 : HT := (.n (.r .x) (.j ⟨[], [], []⟩ (.n (.r .x) (.u (.l ⟨[(0, .d (.ty .str)), (3, .d (.ty (.int .i64)))], [], []⟩ (.n (.n (.r .x) (.n .e .e)) (.n (.u (.n (.r .x) (.j ⟨[(0, .d (.ty .str)), (3, .d (.ty (.int .i64))), (40, .d (.ty .bool))], [], []⟩ (.r .x) (.n (.n (.r .x) .e) .e)))) (.r .x)))))) (.n (.r .x) .e)))
noncomputable def FT47 : List (Nat × Entry) := []
noncomputable def IT47 : List (Nat × Inl) := []
def MT47 : MTab := []
noncomputable def sh47_K0 (z0 : Unit) : Option (Bool × Unit) :=
 some (true, ())
noncomputable def sh47_K3 (rc2 : List UInt8 × Int × Unit → Option (Bool × Unit)) (z3 : List UInt8 × Int × Bool × Unit) : Option (Bool × Unit) :=
 if z3.2.2.1 = true then some (false, ()) else rc2 (z3.1, IntKind.i64.wrap (z3.2.1 + 1), ())
noncomputable def sh47_L2 (j1 : Unit → Option (Bool × Unit)) (rc2 : List UInt8 × Int × Unit → Option (Bool × Unit)) (z2 : List UInt8 × Int × Unit) : Option (Bool × Unit) :=
 if decide (z2.2.1 < (↑z2.1.length : Int)) = true then
 if inR z2.2.1 z2.1.length = true then
 joinK (sh47_K3 rc2) fun (j4 : List UInt8 × Int × Bool × Unit → Option (Bool × Unit)) =>
 if decide (65 ≤ sAt z2.1 z2.2.1) = true then
 if decide (sAt z2.1 z2.2.1 ≤ 90) = true then j4 (z2.1, z2.2.1, !true, ())
 else
 if decide (48 ≤ sAt z2.1 z2.2.1) = true then
 if decide (sAt z2.1 z2.2.1 ≤ 57) = true then j4 (z2.1, z2.2.1, !true, ())
 else
 if (sAt z2.1 z2.2.1 == 32) = true then j4 (z2.1, z2.2.1, !true, ())
 else if (sAt z2.1 z2.2.1 == 45) = true then j4 (z2.1, z2.2.1, !true, ()) else j4 (z2.1, z2.2.1, !sAt z2.1 z2.2.1 == 43, ())
 else
 if (sAt z2.1 z2.2.1 == 32) = true then j4 (z2.1, z2.2.1, !true, ())
 else if (sAt z2.1 z2.2.1 == 45) = true then j4 (z2.1, z2.2.1, !true, ()) else j4 (z2.1, z2.2.1, !sAt z2.1 z2.2.1 == 43, ())
 else
 if decide (48 ≤ sAt z2.1 z2.2.1) = true then
 if decide (sAt z2.1 z2.2.1 ≤ 57) = true then j4 (z2.1, z2.2.1, !true, ())
 else
 if (sAt z2.1 z2.2.1 == 32) = true then j4 (z2.1, z2.2.1, !true, ())
 else if (sAt z2.1 z2.2.1 == 45) = true then j4 (z2.1, z2.2.1, !true, ()) else j4 (z2.1, z2.2.1, !sAt z2.1 z2.2.1 == 43, ())
 else
 if (sAt z2.1 z2.2.1 == 32) = true then j4 (z2.1, z2.2.1, !true, ())
 else if (sAt z2.1 z2.2.1 == 45) = true then j4 (z2.1, z2.2.1, !true, ()) else j4 (z2.1, z2.2.1, !sAt z2.1 z2.2.1 == 43, ())
 else none
 else j1 ()
noncomputable def sh47 (fuel : Nat) (x0 : List UInt8) : Option (Bool × Unit) :=
 joinK sh47_K0 fun (j1 : Unit → Option (Bool × Unit)) => iter fuel (sh47_L2 j1) (x0, 0, ())
noncomputable def sp47 (x : (List UInt8) × Unit) : Option (Bool × Unit) := sh47 100000 x.1
/-! 29 baggage/baggageref03.formed -/
noncomputable def c29 : Code := Tryd.f29.body.getD .skip
def g29 : Sig := ⟨[.v (.ag (.cons .str (.cons .str (.cons (.sl (.cons .str (.cons (.sl (.cons .str .nil)) .nil))) .nil))))], .v (.ty .bool)⟩
def h29 : HT := (.n (.r .x) (.n (.j ⟨[(1, .ref 500000 3), (23, .d (.ty .bool))], [(500000, .box [.d .str, .d .str, .d (.sl (.cons .str (.cons (.sl (.cons .str .nil)) .nil)))])], []⟩ (.r .x) (.n (.n (.r .x) .e) .e)) (.j ⟨[], [], []⟩ (.n (.r .x) (.u (.l ⟨[(1, .ref 500001 3), (3, .d (.ty (.int .i64)))], [(500001, .box [.d .str, .d .str, .d (.sl (.cons .str (.cons (.sl (.cons .str .nil)) .nil)))])], []⟩ (.n (.n (.r .x) (.n .e .e)) (.j ⟨[(1, .ref 500005 3), (3, .d (.ty (.int .i64)))], [(500005, .box [.d .str, .d .str, .d (.sl (.cons .str (.cons (.sl (.cons .str .nil)) .nil)))])], []⟩ (.u (.n (.j ⟨[(1, .ref 500002 3), (3, .d (.ty (.int .i64))), (48, .d (.ty .bool))], [(500002, .box [.d .str, .d .str, .d (.sl (.cons .str (.cons (.sl (.cons .str .nil)) .nil)))])], []⟩ (.r .x) (.n (.n (.r .x) .e) .e)) (.n (.r .x) (.u (.l ⟨[(1, .ref 500003 3), (3, .d (.ty (.int .i64))), (4, .d (.ty (.int .i64)))], [(500003, .box [.d .str, .d .str, .d (.sl (.cons .str (.cons (.sl (.cons .str .nil)) .nil)))])], []⟩ (.n (.n (.r .x) (.n .e .e)) (.n (.u (.n (.r .x) (.n (.n (.r .x) .e) .e))) (.r .x)))))))) (.r .x)))))) (.n (.r .x) .e))))
noncomputable def FT29 : List (Nat × Entry) := [(46, ⟨g46, sp46⟩), (47, ⟨g47, sp47⟩)]
noncomputable def IT29 : List (Nat × Inl) := []
def MT29 : MTab := []
noncomputable def sh29_K1 (z1 : Unit) : Option (Bool × Unit) :=
 some (true, ())
noncomputable def sh29_K4 (rc3 : Int × (List UInt8 × List UInt8 × List (List UInt8 × List (List UInt8 × Unit) × Unit) × Unit) × Unit → Option (Bool × Unit)) (z4 : Int × (List UInt8 × List UInt8 × List (List UInt8 × List (List UInt8 × Unit) × Unit) × Unit) × Unit) : Option (Bool × Unit) :=
 rc3 (IntKind.i64.wrap (z4.1 + 1), (z4.2.1.1, z4.2.1.2.1, z4.2.1.2.2.1, ()), ())
noncomputable def sh29_L7 (j5 : Int × (List UInt8 × List UInt8 × List (List UInt8 × List (List UInt8 × Unit) × Unit) × Unit) × Unit → Option (Bool × Unit)) (rc7 : Int × Int × (List UInt8 × List UInt8 × List (List UInt8 × List (List UInt8 × Unit) × Unit) × Unit) × Unit → Option (Bool × Unit)) (z7 : Int × Int × (List UInt8 × List UInt8 × List (List UInt8 × List (List UInt8 × Unit) × Unit) × Unit) × Unit) : Option (Bool × Unit) :=
 if inR z7.1 z7.2.2.1.2.2.1.length = true then
 if decide (z7.2.1 < (↑(List.length (lAt ([], [], ()) z7.2.2.1.2.2.1 z7.1).2.1) : Int)) = true then
 if inR z7.1 z7.2.2.1.2.2.1.length = true then
 if inR z7.2.1 (List.length (lAt ([], [], ()) z7.2.2.1.2.2.1 z7.1).2.1) = true then
 (sp47 ((lAt ([], ()) (lAt ([], [], ()) z7.2.2.1.2.2.1 z7.1).2.1 z7.2.1).1, ())).bind fun (r8 : Bool × Unit) =>
 if (!r8.1) = true then some (false, ()) else rc7 (z7.1, IntKind.i64.wrap (z7.2.1 + 1), (z7.2.2.1.1, z7.2.2.1.2.1, z7.2.2.1.2.2.1, ()), ())
 else none
 else none
 else j5 (z7.1, (z7.2.2.1.1, z7.2.2.1.2.1, z7.2.2.1.2.2.1, ()), ())
 else none
noncomputable def sh29_K6 (fuel : Nat) (j5 : Int × (List UInt8 × List UInt8 × List (List UInt8 × List (List UInt8 × Unit) × Unit) × Unit) × Unit → Option (Bool × Unit)) (z6 : Int × Bool × (List UInt8 × List UInt8 × List (List UInt8 × List (List UInt8 × Unit) × Unit) × Unit) × Unit) : Option (Bool × Unit) :=
 if z6.2.1 = true then some (false, ()) else iter fuel (sh29_L7 j5) (z6.1, 0, (z6.2.2.1.1, z6.2.2.1.2.1, z6.2.2.1.2.2.1, ()), ())
noncomputable def sh29_L3 (fuel : Nat) (j2 : Unit → Option (Bool × Unit)) (rc3 : Int × (List UInt8 × List UInt8 × List (List UInt8 × List (List UInt8 × Unit) × Unit) × Unit) × Unit → Option (Bool × Unit)) (z3 : Int × (List UInt8 × List UInt8 × List (List UInt8 × List (List UInt8 × Unit) × Unit) × Unit) × Unit) : Option (Bool × Unit) :=
 if decide (z3.1 < (↑z3.2.1.2.2.1.length : Int)) = true then
 joinK (sh29_K4 rc3)
 fun (j5 : Int × (List UInt8 × List UInt8 × List (List UInt8 × List (List UInt8 × Unit) × Unit) × Unit) × Unit → Option (Bool × Unit)) =>
 joinK (sh29_K6 fuel j5)
 fun (j9 : Int × Bool × (List UInt8 × List UInt8 × List (List UInt8 × List (List UInt8 × Unit) × Unit) × Unit) × Unit → Option (Bool × Unit)) =>
 if inR z3.1 z3.2.1.2.2.1.length = true then
 (sp46 ((lAt ([], [], ()) z3.2.1.2.2.1 z3.1).1, 1, ())).bind fun (r10 : Bool × Unit) =>
 if (!r10.1) = true then j9 (z3.1, true, (z3.2.1.1, z3.2.1.2.1, z3.2.1.2.2.1, ()), ())
 else
 if inR z3.1 z3.2.1.2.2.1.length = true then
 j9 (z3.1, (↑(List.length (lAt ([], [], ()) z3.2.1.2.2.1 z3.1).2.1) : Int) == 0, (z3.2.1.1, z3.2.1.2.1, z3.2.1.2.2.1, ()), ())
 else none
 else none
 else j2 ()
noncomputable def sh29_K0 (fuel : Nat) (z0 : Bool × (List UInt8 × List UInt8 × List (List UInt8 × List (List UInt8 × Unit) × Unit) × Unit) × Unit) : Option (Bool × Unit) :=
 if z0.1 = true then some (false, ())
 else joinK sh29_K1 fun (j2 : Unit → Option (Bool × Unit)) => iter fuel (sh29_L3 fuel j2) (0, (z0.2.1.1, z0.2.1.2.1, z0.2.1.2.2.1, ()), ())
noncomputable def sh29 (fuel : Nat) (x0 : List UInt8 × List UInt8 × List (List UInt8 × List (List UInt8 × Unit) × Unit) × Unit) : Option (Bool × Unit) :=
 joinK (sh29_K0 fuel)
 fun (j11 : Bool × (List UInt8 × List UInt8 × List (List UInt8 × List (List UInt8 × Unit) × Unit) × Unit) × Unit → Option (Bool × Unit)) =>
 (sp46 (x0.1, 3, ())).bind fun (r12 : Bool × Unit) =>
 if (!r12.1) = true then j11 (true, (x0.1, x0.2.1, x0.2.2.1, ()), ())
 else
 if (!x0.2.1 == []) = true then
 if (!x0.2.1 == [67, 72, 71]) = true then j11 (!x0.2.1 == [68, 69, 76], (x0.1, x0.2.1, x0.2.2.1, ()), ())
 else j11 (false, (x0.1, x0.2.1, x0.2.2.1, ()), ())
 else j11 (false, (x0.1, x0.2.1, x0.2.2.1, ()), ())
noncomputable def sp29 (x : (List UInt8 × List UInt8 × List (List UInt8 × List (List UInt8 × Unit) × Unit) × Unit) × Unit) : Option (Bool × Unit) := sh29 100000 x.1
/-! 30 baggage/baggageref03.within -/
noncomputable def c30 : Code := Tryd.f30.body.getD .skip
def g30 : Sig := ⟨[.v (.ag (.cons .str (.cons (.sl (.cons .str .nil)) .nil)))], .v (.ty .bool)⟩
def h30 : HT := (.n (.r .x) (.j ⟨[(1, .ref 500002 2)], [(500002, .box [.d .str, .d (.sl (.cons .str .nil))])], []⟩ (.n (.r .x) (.u (.l ⟨[(1, .ref 500000 2), (3, .d (.ty (.int .i64)))], [(500000, .box [.d .str, .d (.sl (.cons .str .nil))])], []⟩ (.n (.n (.r .x) (.n .e .e)) (.n (.u (.n (.r .x) (.n (.n (.r .x) .e) .e))) (.r .x)))))) (.n (.r .x) .e)))
noncomputable def FT30 : List (Nat × Entry) := []
noncomputable def IT30 : List (Nat × Inl) := []
def MT30 : MTab := []
noncomputable def sh30_K0 (z0 : (List UInt8 × List (List UInt8 × Unit) × Unit) × Unit) : Option (Bool × Unit) :=
 some (decide ((↑z0.1.2.1.length : Int) ≤ 8), ())
noncomputable def sh30_L2 (j1 : (List UInt8 × List (List UInt8 × Unit) × Unit) × Unit → Option (Bool × Unit)) (rc2 : Int × (List UInt8 × List (List UInt8 × Unit) × Unit) × Unit → Option (Bool × Unit)) (z2 : Int × (List UInt8 × List (List UInt8 × Unit) × Unit) × Unit) : Option (Bool × Unit) :=
 if decide (z2.1 < (↑z2.2.1.2.1.length : Int)) = true then
 if inR z2.1 z2.2.1.2.1.length = true then
 if decide (20 < (↑(List.length (lAt ([], ()) z2.2.1.2.1 z2.1).1) : Int)) = true then some (false, ())
 else rc2 (IntKind.i64.wrap (z2.1 + 1), (z2.2.1.1, z2.2.1.2.1, ()), ())
 else none
 else j1 ((z2.2.1.1, z2.2.1.2.1, ()), ())
noncomputable def sh30 (fuel : Nat) (x0 : List UInt8 × List (List UInt8 × Unit) × Unit) : Option (Bool × Unit) :=
 joinK sh30_K0 fun (j1 : (List UInt8 × List (List UInt8 × Unit) × Unit) × Unit → Option (Bool × Unit)) =>
 iter fuel (sh30_L2 j1) (0, (x0.1, x0.2.1, ()), ())
noncomputable def sp30 (x : (List UInt8 × List (List UInt8 × Unit) × Unit) × Unit) : Option (Bool × Unit) := sh30 100000 x.1
/-! 26 baggage/baggageref03.text -/
noncomputable def c26 : Code := Tryd.f26.body.getD .skip
def g26 : Sig := ⟨[.v (.ag (.cons .str (.cons .str (.cons (.sl (.cons .str (.cons (.sl (.cons .str .nil)) .nil))) .nil))))], .v (.ty .str)⟩
def h26 : HT := (.n (.r .x) (.n (.r .x) (.j ⟨[(1, .ref 500000 3), (3, .d (.ty .str))], [(500000, .box [.d .str, .d .str, .d (.sl (.cons .str (.cons (.sl (.cons .str .nil)) .nil)))])], []⟩ (.n (.r .x) (.n (.r .x) .e)) (.j ⟨[(1, .ref 500007 3), (3, .d (.ty .str))], [(500007, .box [.d .str, .d .str, .d (.sl (.cons .str (.cons (.sl (.cons .str .nil)) .nil)))])], []⟩ (.n (.r .x) (.u (.l ⟨[(1, .ref 500001 3), (3, .d (.ty .str)), (4, .d (.ty (.int .i64)))], [(500001, .box [.d .str, .d .str, .d (.sl (.cons .str (.cons (.sl (.cons .str .nil)) .nil)))])], []⟩ (.n (.n (.r .x) (.n .e .e)) (.j ⟨[(1, .ref 500005 3), (3, .d (.ty .str)), (4, .d (.ty (.int .i64)))], [(500005, .box [.d .str, .d .str, .d (.sl (.cons .str (.cons (.sl (.cons .str .nil)) .nil)))])], []⟩ (.u (.n (.r .x) (.j ⟨[(1, .ref 500004 3), (3, .d (.ty .str)), (4, .d (.ty (.int .i64)))], [(500004, .box [.d .str, .d .str, .d (.sl (.cons .str (.cons (.sl (.cons .str .nil)) .nil)))])], []⟩ (.n (.r .x) (.u (.l ⟨[(1, .ref 500002 3), (3, .d (.ty .str)), (4, .d (.ty (.int .i64))), (5, .d (.ty (.int .i64)))], [(500002, .box [.d .str, .d .str, .d (.sl (.cons .str (.cons (.sl (.cons .str .nil)) .nil)))])], []⟩ (.n (.n (.r .x) (.n .e .e)) (.n (.u (.r .x)) (.r .x)))))) (.r .x)))) (.r .x)))))) (.n (.r .x) .e)))))
noncomputable def FT26 : List (Nat × Entry) := []
noncomputable def IT26 : List (Nat × Inl) := []
def MT26 : MTab := []
noncomputable def sh26_K1 (z1 : List UInt8 × (List UInt8 × List UInt8 × List (List UInt8 × List (List UInt8 × Unit) × Unit) × Unit) × Unit) : Option (List UInt8 × Unit) :=
 if decide (z1.1.length + [69, 78, 68].length ≤ Abs.lim) = true then
 if decide ((z1.1 ++ [69, 78, 68]).length + z1.2.1.1.length ≤ Abs.lim) = true then
 if decide ((z1.1 ++ [69, 78, 68] ++ z1.2.1.1).length + 1 ≤ Abs.lim) = true then some (z1.1 ++ [69, 78, 68] ++ z1.2.1.1 ++ [10], ())
 else none
 else none
 else none
noncomputable def sh26_K4 (rc3 : List UInt8 × Int × (List UInt8 × List UInt8 × List (List UInt8 × List (List UInt8 × Unit) × Unit) × Unit) × Unit → Option (List UInt8 × Unit)) (z4 : List UInt8 × Int × (List UInt8 × List UInt8 × List (List UInt8 × List (List UInt8 × Unit) × Unit) × Unit) × Unit) : Option (List UInt8 × Unit) :=
 rc3 (z4.1, IntKind.i64.wrap (z4.2.1 + 1), (z4.2.2.1.1, z4.2.2.1.2.1, z4.2.2.1.2.2.1, ()), ())
noncomputable def sh26_K6 (j5 : List UInt8 × Int × (List UInt8 × List UInt8 × List (List UInt8 × List (List UInt8 × Unit) × Unit) × Unit) × Unit → Option (List UInt8 × Unit)) (z6 : List UInt8 × Int × (List UInt8 × List UInt8 × List (List UInt8 × List (List UInt8 × Unit) × Unit) × Unit) × Unit) : Option (List UInt8 × Unit) :=
 if decide (z6.1.length + 1 ≤ Abs.lim) = true then j5 (z6.1 ++ [10], z6.2.1, (z6.2.2.1.1, z6.2.2.1.2.1, z6.2.2.1.2.2.1, ()), ()) else none
noncomputable def sh26_L8 (j7 : List UInt8 × Int × (List UInt8 × List UInt8 × List (List UInt8 × List (List UInt8 × Unit) × Unit) × Unit) × Unit → Option (List UInt8 × Unit)) (rc8 : List UInt8 × Int × Int × (List UInt8 × List UInt8 × List (List UInt8 × List (List UInt8 × Unit) × Unit) × Unit) × Unit → Option (List UInt8 × Unit)) (z8 : List UInt8 × Int × Int × (List UInt8 × List UInt8 × List (List UInt8 × List (List UInt8 × Unit) × Unit) × Unit) × Unit) : Option (List UInt8 × Unit) :=
 if inR z8.2.1 z8.2.2.2.1.2.2.1.length = true then
 if decide (z8.2.2.1 < (↑(List.length (lAt ([], [], ()) z8.2.2.2.1.2.2.1 z8.2.1).2.1) : Int)) = true then
 if inR z8.2.1 z8.2.2.2.1.2.2.1.length = true then
 if inR z8.2.2.1 (List.length (lAt ([], [], ()) z8.2.2.2.1.2.2.1 z8.2.1).2.1) = true then
 if decide ([47].length + List.length (lAt ([], ()) (lAt ([], [], ()) z8.2.2.2.1.2.2.1 z8.2.1).2.1 z8.2.2.1).1 ≤ Abs.lim) = true then
 if decide (z8.1.length + ([47] ++ (lAt ([], ()) (lAt ([], [], ()) z8.2.2.2.1.2.2.1 z8.2.1).2.1 z8.2.2.1).1).length ≤ Abs.lim) = true then
 rc8
 (z8.1 ++ ([47] ++ (lAt ([], ()) (lAt ([], [], ()) z8.2.2.2.1.2.2.1 z8.2.1).2.1 z8.2.2.1).1), z8.2.1, IntKind.i64.wrap (z8.2.2.1 + 1),
 (z8.2.2.2.1.1, z8.2.2.2.1.2.1, z8.2.2.2.1.2.2.1, ()), ())
 else none
 else none
 else none
 else none
 else j7 (z8.1, z8.2.1, (z8.2.2.2.1.1, z8.2.2.2.1.2.1, z8.2.2.2.1.2.2.1, ()), ())
 else none
noncomputable def sh26_L3 (fuel : Nat) (j2 : List UInt8 × (List UInt8 × List UInt8 × List (List UInt8 × List (List UInt8 × Unit) × Unit) × Unit) × Unit → Option (List UInt8 × Unit)) (rc3 : List UInt8 × Int × (List UInt8 × List UInt8 × List (List UInt8 × List (List UInt8 × Unit) × Unit) × Unit) × Unit → Option (List UInt8 × Unit)) (z3 : List UInt8 × Int × (List UInt8 × List UInt8 × List (List UInt8 × List (List UInt8 × Unit) × Unit) × Unit) × Unit) : Option (List UInt8 × Unit) :=
 if decide (z3.2.1 < (↑z3.2.2.1.2.2.1.length : Int)) = true then
 joinK (sh26_K4 rc3)
 fun
 (j5 :
 List UInt8 × Int × (List UInt8 × List UInt8 × List (List UInt8 × List (List UInt8 × Unit) × Unit) × Unit) × Unit →
 Option (List UInt8 × Unit)) =>
 if inR z3.2.1 z3.2.2.1.2.2.1.length = true then
 if decide ([46].length + List.length (lAt ([], [], ()) z3.2.2.1.2.2.1 z3.2.1).1 ≤ Abs.lim) = true then
 if decide (z3.1.length + ([46] ++ (lAt ([], [], ()) z3.2.2.1.2.2.1 z3.2.1).1).length ≤ Abs.lim) = true then
 joinK (sh26_K6 j5)
 fun
 (j7 :
 List UInt8 × Int × (List UInt8 × List UInt8 × List (List UInt8 × List (List UInt8 × Unit) × Unit) × Unit) × Unit →
 Option (List UInt8 × Unit)) =>
 iter fuel (sh26_L8 j7)
 (z3.1 ++ ([46] ++ (lAt ([], [], ()) z3.2.2.1.2.2.1 z3.2.1).1), z3.2.1, 0, (z3.2.2.1.1, z3.2.2.1.2.1, z3.2.2.1.2.2.1, ()), ())
 else none
 else none
 else none
 else j2 (z3.1, (z3.2.2.1.1, z3.2.2.1.2.1, z3.2.2.1.2.2.1, ()), ())
noncomputable def sh26_K0 (fuel : Nat) (z0 : List UInt8 × (List UInt8 × List UInt8 × List (List UInt8 × List (List UInt8 × Unit) × Unit) × Unit) × Unit) : Option (List UInt8 × Unit) :=
 joinK sh26_K1
 fun
 (j2 : List UInt8 × (List UInt8 × List UInt8 × List (List UInt8 × List (List UInt8 × Unit) × Unit) × Unit) × Unit → Option (List UInt8 × Unit)) =>
 iter fuel (sh26_L3 fuel j2) (z0.1, 0, (z0.2.1.1, z0.2.1.2.1, z0.2.1.2.2.1, ()), ())
noncomputable def sh26 (fuel : Nat) (x0 : List UInt8 × List UInt8 × List (List UInt8 × List (List UInt8 × Unit) × Unit) × Unit) : Option (List UInt8 × Unit) :=
 if decide (x0.1.length + 1 ≤ Abs.lim) = true then
 joinK (sh26_K0 fuel)
 fun
 (j9 :
 List UInt8 × (List UInt8 × List UInt8 × List (List UInt8 × List (List UInt8 × Unit) × Unit) × Unit) × Unit → Option (List UInt8 × Unit)) =>
 if (!x0.2.1 == []) = true then
 if decide (x0.2.1.length + 1 ≤ Abs.lim) = true then
 if decide ((x0.1 ++ [10]).length + (x0.2.1 ++ [10]).length ≤ Abs.lim) = true then
 j9 (x0.1 ++ [10] ++ (x0.2.1 ++ [10]), (x0.1, x0.2.1, x0.2.2.1, ()), ())
 else none
 else none
 else j9 (x0.1 ++ [10], (x0.1, x0.2.1, x0.2.2.1, ()), ())
 else none
noncomputable def sp26 (x : (List UInt8 × List UInt8 × List (List UInt8 × List (List UInt8 × Unit) × Unit) × Unit) × Unit) : Option (List UInt8 × Unit) := sh26 100000 x.1
/-! 17 baggage/baggageref03.Validate -/
noncomputable def c17 : Code := Tryd.f17.body.getD .skip
def g17 : Sig := ⟨[.v (.ag (.cons .str (.cons .str (.cons (.sl (.cons .str (.cons (.sl (.cons .str .nil)) .nil))) .nil))))], .v (.ty (.int .i64))⟩
def h17 : HT := (.n (.r .x) (.n (.n (.r .x) (.n (.n (.r .x) .e) .e)) (.n (.n (.r .x) (.n (.n (.r .x) .e) .e)) (.j ⟨[(1, .ref 500002 3)], [(500002, .box [.d .str, .d .str, .d (.sl (.cons .str (.cons (.sl (.cons .str .nil)) .nil)))])], []⟩ (.n (.r .x) (.u (.l ⟨[(1, .ref 500000 3), (3, .d (.ty (.int .i64)))], [(500000, .box [.d .str, .d .str, .d (.sl (.cons .str (.cons (.sl (.cons .str .nil)) .nil)))])], []⟩ (.n (.n (.r .x) (.n .e .e)) (.n (.u (.n (.r .x) (.n (.n (.r .x) .e) .e))) (.r .x)))))) (.n (.n (.r .x) (.n (.n (.r .x) .e) .e)) (.n (.r .x) .e))))))
noncomputable def FT17 : List (Nat × Entry) := [(29, ⟨g29, sp29⟩), (30, ⟨g30, sp30⟩), (26, ⟨g26, sp26⟩)]
noncomputable def IT17 : List (Nat × Inl) := []
def MT17 : MTab := []
noncomputable def sh17_K1 (z1 : (List UInt8 × List UInt8 × List (List UInt8 × List (List UInt8 × Unit) × Unit) × Unit) × Unit) : Option (Int × Unit) :=
 (sp26 ((z1.1.1, z1.1.2.1, z1.1.2.2.1, ()), ())).bind fun (r2 : List UInt8 × Unit) =>
 if decide (2048 < (↑r2.1.length : Int)) = true then some (2, ()) else some (0, ())
noncomputable def sh17_L4 (j3 : (List UInt8 × List UInt8 × List (List UInt8 × List (List UInt8 × Unit) × Unit) × Unit) × Unit → Option (Int × Unit)) (rc4 : Int × (List UInt8 × List UInt8 × List (List UInt8 × List (List UInt8 × Unit) × Unit) × Unit) × Unit → Option (Int × Unit)) (z4 : Int × (List UInt8 × List UInt8 × List (List UInt8 × List (List UInt8 × Unit) × Unit) × Unit) × Unit) : Option (Int × Unit) :=
 if decide (z4.1 < (↑z4.2.1.2.2.1.length : Int)) = true then
 if inR z4.1 z4.2.1.2.2.1.length = true then
 (sp30 (((lAt ([], [], ()) z4.2.1.2.2.1 z4.1).1, (lAt ([], [], ()) z4.2.1.2.2.1 z4.1).2.1, ()), ())).bind fun (r5 : Bool × Unit) =>
 if (!r5.1) = true then some (2, ()) else rc4 (IntKind.i64.wrap (z4.1 + 1), (z4.2.1.1, z4.2.1.2.1, z4.2.1.2.2.1, ()), ())
 else none
 else j3 ((z4.2.1.1, z4.2.1.2.1, z4.2.1.2.2.1, ()), ())
noncomputable def sh17 (fuel : Nat) (x0 : List UInt8 × List UInt8 × List (List UInt8 × List (List UInt8 × Unit) × Unit) × Unit) : Option (Int × Unit) :=
 (sp29 ((x0.1, x0.2.1, x0.2.2.1, ()), ())).bind fun (r0 : Bool × Unit) =>
 if (!r0.1) = true then some (3, ())
 else
 if decide (24 < (↑x0.2.2.1.length : Int)) = true then some (2, ())
 else
 joinK sh17_K1 fun (j3 : (List UInt8 × List UInt8 × List (List UInt8 × List (List UInt8 × Unit) × Unit) × Unit) × Unit → Option (Int × Unit)) =>
 iter fuel (sh17_L4 j3) (0, (x0.1, x0.2.1, x0.2.2.1, ()), ())
noncomputable def sp17 (x : (List UInt8 × List UInt8 × List (List UInt8 × List (List UInt8 × Unit) × Unit) × Unit) × Unit) : Option (Int × Unit) := sh17 100000 x.1
/-! 15 baggage/baggageref03.Format -/
noncomputable def c15 : Code := Tryd.f15.body.getD .skip
def g15 : Sig := ⟨[.v (.ag (.cons .str (.cons .str (.cons (.sl (.cons .str (.cons (.sl (.cons .str .nil)) .nil))) .nil))))], .tup [(.ty .str), (.ty (.int .i64))]⟩
def h15 : HT := (.n (.r .x) (.n (.n (.r .x) (.n (.r .x) (.n (.n (.r .x) .e) .e))) (.n (.r .x) .e)))
noncomputable def FT15 : List (Nat × Entry) := [(17, ⟨g17, sp17⟩), (26, ⟨g26, sp26⟩)]
noncomputable def IT15 : List (Nat × Inl) := []
def MT15 : MTab := []
noncomputable def sh15 (fuel : Nat) (x0 : List UInt8 × List UInt8 × List (List UInt8 × List (List UInt8 × Unit) × Unit) × Unit) : Option ((List UInt8 × Int × Unit) × Unit) :=
 (sp17 ((x0.1, x0.2.1, x0.2.2.1, ()), ())).bind fun (r0 : Int × Unit) =>
 if (r0.1 != 0) = true then some (([], r0.1, ()), ())
 else (sp26 ((x0.1, x0.2.1, x0.2.2.1, ()), ())).bind fun (r1 : List UInt8 × Unit) => some ((r1.1, 0, ()), ())
noncomputable def sp15 (x : (List UInt8 × List UInt8 × List (List UInt8 × List (List UInt8 × Unit) × Unit) × Unit) × Unit) : Option ((List UInt8 × Int × Unit) × Unit) := sh15 0 x.1
/-! 3 baggage/baggagelaw03.TelegramFormats -/
noncomputable def c3 : Code := Tryd.f3.body.getD .skip
def g3 : Sig := ⟨[.v (.ag (.cons .str (.cons .str (.cons (.sl (.cons .str (.cons (.sl (.cons .str .nil)) .nil))) .nil)))), .v (.ty (.sl (.cons (.int .i64) .nil))), .v (.ty .str)], .v (.ty .bool)⟩
def h3 : HT := (.n (.r .x) (.n (.j ⟨[(1, .d (.ty (.sl (.cons (.int .i64) .nil)))), (2, .d (.ty .str)), (3, .ref 500000 3), (24, .d (.ty .bool))], [(500000, .box [.d .str, .d .str, .d (.sl (.cons .str (.cons (.sl (.cons .str .nil)) .nil)))])], []⟩ (.r .x) (.n (.n (.r .x) .e) .e)) (.n (.r .x) (.n (.r .x) (.n (.r .x) (.n (.r .x) (.j ⟨[(3, .ref 500009 3), (8, .ref 500010 3), (9, .ref 500011 3)], [(500009, .box [.d .str, .d .str, .d (.sl (.cons .str (.cons (.sl (.cons .str .nil)) .nil)))]), (500010, .box [.d .str, .d .str, .d (.sl (.cons .str (.cons (.sl (.cons .str .nil)) .nil)))]), (500011, .box [.d .str, .d .str, .own 500012]), (500012, .arr (.cons .str (.cons (.sl (.cons .str .nil)) .nil)))], []⟩ (.n (.r .x) (.u (.n (.r .x) (.n (.r .x) (.n (.r .x) (.n (.r .x) (.n (.r .x) (.n (.r .x) (.n (.r .x) (.n (.r .x) (.n (.r .x) (.n (.r (.w 7 [(0, 0), (0, 1), (1, 2), (2, 3), (2, 4), (0, 5), (3, 6)])) (.n (.r .x) (.u (.l ⟨[(3, .ref 500001 3), (8, .ref 500002 3), (9, .ref 500003 3), (10, .d (.ty (.int .i64)))], [(500001, .box [.d .str, .d .str, .d (.sl (.cons .str (.cons (.sl (.cons .str .nil)) .nil)))]), (500002, .box [.d .str, .d .str, .d (.sl (.cons .str (.cons (.sl (.cons .str .nil)) .nil)))]), (500003, .box [.d .str, .d .str, .own 500004]), (500004, .arr (.cons .str (.cons (.sl (.cons .str .nil)) .nil)))], []⟩ (.n (.n (.r .x) (.n .e .e)) (.u (.r .x)))))))))))))))))) (.j ⟨[], [], []⟩ (.n (.r .x) (.u (.l ⟨[(94, .own 500013), (95, .d (.ty (.int .i64))), (96, .d (.ty (.int .i64)))], [(500013, .arr (.cons .str (.cons .str (.cons (.sl (.cons .str (.cons (.sl (.cons .str .nil)) .nil))) .nil))))], []⟩ (.n (.r .x) (.n (.n .e .e) (.n (.u (.n (.r .x) (.n (.r .x) (.n (.r .x) (.j ⟨[(94, .own 500014), (95, .d (.ty (.int .i64))), (96, .d (.ty (.int .i64))), (124, .d (.ty .bool))], [(500014, .arr (.cons .str (.cons .str (.cons (.sl (.cons .str (.cons (.sl (.cons .str .nil)) .nil))) .nil))))], []⟩ (.r .q) (.n (.n (.r .x) .e) .e)))))) (.r .x))))))) (.n (.r .x) .e)))))))))
noncomputable def FT3 : List (Nat × Entry) := [(8, ⟨g8, sp8⟩), (9, ⟨g9, sp9⟩), (10, ⟨g10, sp10⟩), (11, ⟨g11, sp11⟩), (12, ⟨g12, sp12⟩), (13, ⟨g13, sp13⟩), (14, ⟨g14, sp14⟩), (15, ⟨g15, sp15⟩), (16, ⟨g16, sp16⟩), (17, ⟨g17, sp17⟩)]
noncomputable def IT3 : List (Nat × Inl) := []
def MT3 : MTab := []
noncomputable def sh3_K5 (z5 : Unit) : Option (Bool × Unit) :=
 (sp9 ()).bind fun (r6 : Bool × Unit) => some (r6.1, ())
noncomputable def sh3_K11 (rc8 : Int × Int × List (List UInt8 × List UInt8 × List (List UInt8 × List (List UInt8 × Unit) × Unit) × Unit) × Unit → Option (Bool × Unit)) (z11 : Int × Int × Bool × List (List UInt8 × List UInt8 × List (List UInt8 × List (List UInt8 × Unit) × Unit) × Unit) × Unit) : Option (Bool × Unit) :=
 if z11.2.2.1 = true then some (false, ()) else rc8 (z11.1, IntKind.i64.wrap (z11.2.1 + 1), z11.2.2.2.1, ())
noncomputable def sh3_L8 (j7 : Unit → Option (Bool × Unit)) (rc8 : Int × Int × List (List UInt8 × List UInt8 × List (List UInt8 × List (List UInt8 × Unit) × Unit) × Unit) × Unit → Option (Bool × Unit)) (z8 : Int × Int × List (List UInt8 × List UInt8 × List (List UInt8 × List (List UInt8 × Unit) × Unit) × Unit) × Unit) : Option (Bool × Unit) :=
 if decide (z8.2.1 < z8.1) = true then
 if inR z8.2.1 z8.2.2.1.length = true then
 if decide (z8.2.1.toNat + 1 ≤ z8.2.2.1.length) = true then
 (sp14
 (((z8.2.2.1.getD z8.2.1.toNat ([], [], [], ())).1, (z8.2.2.1.getD z8.2.1.toNat ([], [], [], ())).2.1,
 (z8.2.2.1.getD z8.2.1.toNat ([], [], [], ())).2.2.1, ()),
 ())).bind
 fun (r9 : (List UInt8 × Int × Unit) × Unit) =>
 (sp15
 (((z8.2.2.1.getD z8.2.1.toNat ([], [], [], ())).1, (z8.2.2.1.getD z8.2.1.toNat ([], [], [], ())).2.1,
 (z8.2.2.1.getD z8.2.1.toNat ([], [], [], ())).2.2.1, ()),
 ())).bind
 fun (r10 : (List UInt8 × Int × Unit) × Unit) =>
 joinK (sh3_K11 rc8)
 fun
 (j12 :
 Int × Int × Bool × List (List UInt8 × List UInt8 × List (List UInt8 × List (List UInt8 × Unit) × Unit) × Unit) × Unit →
 Option (Bool × Unit)) =>
 if (!r9.1.1 == r10.1.1) = true then j12 (z8.1, z8.2.1, true, z8.2.2.1, ())
 else
 if (r9.1.2.1 != r10.1.2.1) = true then j12 (z8.1, z8.2.1, true, z8.2.2.1, ())
 else
 (sp16
 (((z8.2.2.1.getD z8.2.1.toNat ([], [], [], ())).1, (z8.2.2.1.getD z8.2.1.toNat ([], [], [], ())).2.1,
 (z8.2.2.1.getD z8.2.1.toNat ([], [], [], ())).2.2.1, ()),
 ())).bind
 fun (r13 : Int × Unit) =>
 (sp17
 (((z8.2.2.1.getD z8.2.1.toNat ([], [], [], ())).1, (z8.2.2.1.getD z8.2.1.toNat ([], [], [], ())).2.1,
 (z8.2.2.1.getD z8.2.1.toNat ([], [], [], ())).2.2.1, ()),
 ())).bind
 fun (r14 : Int × Unit) => j12 (z8.1, z8.2.1, r13.1 != r14.1, z8.2.2.1, ())
 else none
 else none
 else j7 ()
noncomputable def sh3_K4 (fuel : Nat) (z4 : (List UInt8 × List UInt8 × List (List UInt8 × List (List UInt8 × Unit) × Unit) × Unit) ×
 (List UInt8 × List UInt8 × List (List UInt8 × List (List UInt8 × Unit) × Unit) × Unit) ×
 (List UInt8 × List UInt8 × Unit) × List (List UInt8 × List (List UInt8 × Unit) × Unit) × Unit) : Option (Bool × Unit) :=
 joinK sh3_K5 fun (j7 : Unit → Option (Bool × Unit)) =>
 iter fuel (sh3_L8 j7)
 ((↑[(z4.1.1, z4.1.2.1, z4.1.2.2.1, ()), (z4.2.1.1, z4.2.1.2.1, z4.2.1.2.2.1, ()), (z4.2.2.1.1, z4.2.2.1.2.1, z4.2.2.2.1, ())].length : Int), 0,
 [(z4.1.1, z4.1.2.1, z4.1.2.2.1, ()), (z4.2.1.1, z4.2.1.2.1, z4.2.1.2.2.1, ()), (z4.2.2.1.1, z4.2.2.1.2.1, z4.2.2.2.1, ())], ())
noncomputable def sh3_L19 (j15 : (List UInt8 × List UInt8 × List (List UInt8 × List (List UInt8 × Unit) × Unit) × Unit) ×
 (List UInt8 × List UInt8 × List (List UInt8 × List (List UInt8 × Unit) × Unit) × Unit) ×
 (List UInt8 × List UInt8 × Unit) × List (List UInt8 × List (List UInt8 × Unit) × Unit) × Unit →
 Option (Bool × Unit)) (rc19 : Int ×
 (List UInt8 × List UInt8 × List (List UInt8 × List (List UInt8 × Unit) × Unit) × Unit) ×
 (List UInt8 × List UInt8 × List (List UInt8 × List (List UInt8 × Unit) × Unit) × Unit) ×
 (List UInt8 × List UInt8 × Unit) × List (List UInt8 × List (List UInt8 × Unit) × Unit) × Unit →
 Option (Bool × Unit)) (z19 : Int ×
 (List UInt8 × List UInt8 × List (List UInt8 × List (List UInt8 × Unit) × Unit) × Unit) ×
 (List UInt8 × List UInt8 × List (List UInt8 × List (List UInt8 × Unit) × Unit) × Unit) ×
 (List UInt8 × List UInt8 × Unit) × List (List UInt8 × List (List UInt8 × Unit) × Unit) × Unit) : Option (Bool × Unit) :=
 if decide ((↑z19.2.2.2.2.1.length : Int) < z19.1) = true then
 if decide (z19.2.2.2.2.1.length + 1 ≤ Abs.lim) = true then
 if decide ((z19.2.2.2.2.1.length + 1) * 40 ≤ Abs.lim) = true then
 rc19
 (z19.1, (z19.2.1.1, z19.2.1.2.1, z19.2.1.2.2.1, ()), (z19.2.2.1.1, z19.2.2.1.2.1, z19.2.2.1.2.2.1, ()), (z19.2.2.2.1.1, z19.2.2.2.1.2.1, ()),
 z19.2.2.2.2.1 ++ [([65], [([66], ())], ())], ())
 else none
 else none
 else
 j15
 ((z19.2.1.1, z19.2.1.2.1, z19.2.1.2.2.1, ()), (z19.2.2.1.1, z19.2.2.1.2.1, z19.2.2.1.2.2.1, ()), (z19.2.2.2.1.1, z19.2.2.2.1.2.1, ()),
 z19.2.2.2.2.1, ())
noncomputable def sh3_K0 (fuel : Nat) (z0 : List (Int × Unit) × List UInt8 × Bool × (List UInt8 × List UInt8 × List (List UInt8 × List (List UInt8 × Unit) × Unit) × Unit) × Unit) : Option (Bool × Unit) :=
 if z0.2.2.1 = true then (sp9 ()).bind fun (r1 : Bool × Unit) => some (r1.1, ())
 else
 (sp10 (z0.1, ())).bind fun (r2 : (List (Int × Unit) × Int × Unit) × Unit) =>
 (sp11 ((r2.1.1, r2.1.2.1, ()), ())).bind
 fun (r3 : (List UInt8 × List UInt8 × List (List UInt8 × List (List UInt8 × Unit) × Unit) × Unit) × (List (Int × Unit) × Int × Unit) × Unit) =>
 if decide (0 + r3.1.2.2.1.length ≤ Abs.lim) = true then
 if decide ((0 + r3.1.2.2.1.length) * 40 ≤ Abs.lim) = true then
 joinK (sh3_K4 fuel)
 fun
 (j15 :
 (List UInt8 × List UInt8 × List (List UInt8 × List (List UInt8 × Unit) × Unit) × Unit) ×
 (List UInt8 × List UInt8 × List (List UInt8 × List (List UInt8 × Unit) × Unit) × Unit) ×
 (List UInt8 × List UInt8 × Unit) × List (List UInt8 × List (List UInt8 × Unit) × Unit) × Unit →
 Option (Bool × Unit)) =>
 (sp12 ((r3.2.1.1, r3.2.1.2.1, ()), 6, ())).bind fun (r16 : Int × (List (Int × Unit) × Int × Unit) × Unit) =>
 if (r16.1 == 0) = true then
 j15 ((z0.2.2.2.1.1, z0.2.2.2.1.2.1, z0.2.2.2.1.2.2.1, ()), (r3.1.1, r3.1.2.1, r3.1.2.2.1, ()), (z0.2.1, r3.1.2.1, ()), r3.1.2.2.1, ())
 else
 if (r16.1 == 1) = true then
 j15 ((z0.2.2.2.1.1, z0.2.2.2.1.2.1, z0.2.2.2.1.2.2.1, ()), (r3.1.1, r3.1.2.1, r3.1.2.2.1, ()), (r3.1.1, z0.2.1, ()), r3.1.2.2.1, ())
 else
 if (r16.1 == 2) = true then
 if decide (r3.1.2.2.1.length + 1 ≤ Abs.lim) = true then
 if decide ((r3.1.2.2.1.length + 1) * 40 ≤ Abs.lim) = true then
 j15
 ((z0.2.2.2.1.1, z0.2.2.2.1.2.1, z0.2.2.2.1.2.2.1, ()), (r3.1.1, r3.1.2.1, r3.1.2.2.1, ()), (r3.1.1, r3.1.2.1, ()),
 r3.1.2.2.1 ++ [([65], [(z0.2.1, ())], ())], ())
 else none
 else none
 else
 if (r16.1 == 3) = true then
 if decide (r3.1.2.2.1.length + 1 ≤ Abs.lim) = true then
 if decide ((r3.1.2.2.1.length + 1) * 40 ≤ Abs.lim) = true then
 j15
 ((z0.2.2.2.1.1, z0.2.2.2.1.2.1, z0.2.2.2.1.2.2.1, ()), (r3.1.1, r3.1.2.1, r3.1.2.2.1, ()), (r3.1.1, r3.1.2.1, ()),
 r3.1.2.2.1 ++ [(z0.2.1, [([65], ())], ())], ())
 else none
 else none
 else
 if (r16.1 == 4) = true then
 (sp12 ((r16.2.1.1, r16.2.1.2.1, ()), 11, ())).bind fun (r17 : Int × (List (Int × Unit) × Int × Unit) × Unit) =>
 if decide (0 ≤ r17.1) = true then
 if decide (r17.1 ≤ r17.1) = true then
 if decide (r17.1 ≤ (↑Abs.lim : Int)) = true then
 if decide ((↑16 : Int) * r17.1 ≤ (↑Abs.lim : Int)) = true then
 if decide (r3.1.2.2.1.length + 1 ≤ Abs.lim) = true then
 if
 decide ((r3.1.2.2.1.length + 1) * 40 ≤ Abs.lim) =
 true then
 j15
 ((z0.2.2.2.1.1, z0.2.2.2.1.2.1, z0.2.2.2.1.2.2.1, ()), (r3.1.1, r3.1.2.1, r3.1.2.2.1, ()),
 (r3.1.1, r3.1.2.1, ()), r3.1.2.2.1 ++ [([65], List.replicate r17.1.toNat ([], ()), ())], ())
 else none
 else none
 else none
 else none
 else none
 else none
 else
 (sp13 ((r16.2.1.1, r16.2.1.2.1, ()), 18, 26, ())).bind fun (r18 : Int × (List (Int × Unit) × Int × Unit) × Unit) =>
 iter fuel (sh3_L19 j15)
 (r18.1, (z0.2.2.2.1.1, z0.2.2.2.1.2.1, z0.2.2.2.1.2.2.1, ()), (r3.1.1, r3.1.2.1, r3.1.2.2.1, ()), (r3.1.1, r3.1.2.1, ()),
 r3.1.2.2.1, ())
 else none
 else none
noncomputable def sh3 (fuel : Nat) (x0 : List UInt8 × List UInt8 × List (List UInt8 × List (List UInt8 × Unit) × Unit) × Unit) (x1 : List (Int × Unit)) (x2 : List UInt8) : Option (Bool × Unit) :=
 joinK (sh3_K0 fuel)
 fun
 (j20 :
 List (Int × Unit) × List UInt8 × Bool × (List UInt8 × List UInt8 × List (List UInt8 × List (List UInt8 × Unit) × Unit) × Unit) × Unit →
 Option (Bool × Unit)) =>
 (sp8 ((x0.1, x0.2.1, x0.2.2.1, ()), ())).bind fun (r21 : Bool × Unit) =>
 if (!r21.1) = true then j20 (x1, x2, true, (x0.1, x0.2.1, x0.2.2.1, ()), ())
 else j20 (x1, x2, decide (60 < (↑x2.length : Int)), (x0.1, x0.2.1, x0.2.2.1, ()), ())
noncomputable def sp3 (x : (List UInt8 × List UInt8 × List (List UInt8 × List (List UInt8 × Unit) × Unit) × Unit) × (List (Int × Unit)) × (List UInt8) × Unit) : Option (Bool × Unit) := sh3 100000 x.1 x.2.1 x.2.2.1
/-! 4 baggage/baggagelaw03.TelegramBeginnings -/
noncomputable def c4 : Code := Tryd.f4.body.getD .skip
def g4 : Sig := ⟨[.v (.ty (.sl (.cons (.int .i64) .nil)))], .v (.ty .bool)⟩
def h4 : HT := (.n (.r .x) (.n (.r .x) (.n (.r .x) (.j ⟨[(3, .d (.ty .str))], [], []⟩ (.n (.r .x) (.u (.l ⟨[(3, .d (.ty .str)), (5, .d (.ty (.int .i64))), (6, .d (.ty (.int .i64)))], [], []⟩ (.n (.n (.r .x) (.n .e .e)) (.j ⟨[(3, .d (.ty .str)), (5, .d (.ty (.int .i64))), (6, .d (.ty (.int .i64)))], [], []⟩ (.u (.n (.r .x) (.n (.j ⟨[(3, .d (.ty .str)), (5, .d (.ty (.int .i64))), (6, .d (.ty (.int .i64))), (37, .d (.ty .bool))], [], []⟩ (.r .x) (.n (.n (.r .x) .e) .e)) (.n (.r .x) (.n (.r .x) .e))))) (.r .x)))))) (.j ⟨[(2, .d (.ty .bool))], [], []⟩ (.r .x) .e)))))
noncomputable def FT4 : List (Nat × Entry) := [(10, ⟨g10, sp10⟩), (11, ⟨g11, sp11⟩), (15, ⟨g15, sp15⟩), (18, ⟨g18, sp18⟩), (9, ⟨g9, sp9⟩)]
noncomputable def IT4 : List (Nat × Inl) := []
def MT4 : MTab := []
noncomputable def sh4_K4 (z4 : Bool × Unit) : Option (Bool × Unit) :=
 some (z4.1, ())
noncomputable def sh4_K3 (z3 : List UInt8 × Unit) : Option (Bool × Unit) :=
 joinK sh4_K4 fun (j5 : Bool × Unit → Option (Bool × Unit)) =>
 if decide (0 < (↑z3.1.length : Int)) = true then (sp9 ()).bind fun (r6 : Bool × Unit) => j5 (r6.1, ()) else j5 (false, ())
noncomputable def sh4_K9 (rc8 : List UInt8 × Int × Int × Unit → Option (Bool × Unit)) (z9 : List UInt8 × Int × Int × Unit) : Option (Bool × Unit) :=
 rc8 (z9.1, z9.2.1, IntKind.i64.wrap (z9.2.2.1 + 1), ())
noncomputable def sh4_K12 (j10 : List UInt8 × Int × Int × Unit → Option (Bool × Unit)) (z12 : List UInt8 × Int × Int × Bool × Unit) : Option (Bool × Unit) :=
 if z12.2.2.2.1 = true then some (false, ())
 else
 if inR z12.2.2.1 z12.1.length = true then
 if (sAt z12.1 z12.2.2.1 == 10) = true then j10 (z12.1, IntKind.i64.wrap (z12.2.1 + 1), z12.2.2.1, ()) else j10 (z12.1, z12.2.1, z12.2.2.1, ())
 else none
noncomputable def sh4_L8 (j7 : List UInt8 × Unit → Option (Bool × Unit)) (rc8 : List UInt8 × Int × Int × Unit → Option (Bool × Unit)) (z8 : List UInt8 × Int × Int × Unit) : Option (Bool × Unit) :=
 if decide (z8.2.2.1 < (↑z8.1.length : Int)) = true then
 joinK (sh4_K9 rc8) fun (j10 : List UInt8 × Int × Int × Unit → Option (Bool × Unit)) =>
 if inCut 0 z8.2.2.1 z8.1.length = true then
 (sp18 (cutL z8.1 0 z8.2.2.1, ())).bind
 fun (r11 : ((List UInt8 × List UInt8 × List (List UInt8 × List (List UInt8 × Unit) × Unit) × Unit) × Int × Int × Unit) × Unit) =>
 joinK (sh4_K12 j10) fun (j13 : List UInt8 × Int × Int × Bool × Unit → Option (Bool × Unit)) =>
 if (r11.1.2.2.1 != 3) = true then j13 (z8.1, z8.2.1, z8.2.2.1, true, ()) else j13 (z8.1, z8.2.1, z8.2.2.1, r11.1.2.1 != z8.2.1, ())
 else none
 else j7 (z8.1, ())
noncomputable def sh4 (fuel : Nat) (x0 : List (Int × Unit)) : Option (Bool × Unit) :=
 (sp10 (x0, ())).bind fun (r0 : (List (Int × Unit) × Int × Unit) × Unit) =>
 (sp11 ((r0.1.1, r0.1.2.1, ()), ())).bind
 fun (r1 : (List UInt8 × List UInt8 × List (List UInt8 × List (List UInt8 × Unit) × Unit) × Unit) × (List (Int × Unit) × Int × Unit) × Unit) =>
 (sp15 ((r1.1.1, r1.1.2.1, r1.1.2.2.1, ()), ())).bind fun (r2 : (List UInt8 × Int × Unit) × Unit) =>
 joinK sh4_K3 fun (j7 : List UInt8 × Unit → Option (Bool × Unit)) => iter fuel (sh4_L8 j7) (r2.1.1, 1, 0, ())
noncomputable def sp4 (x : (List (Int × Unit)) × Unit) : Option (Bool × Unit) := sh4 100000 x.1
/-! 5 baggage/baggagelaw03.TelegramLimits -/
noncomputable def c5 : Code := Tryd.f5.body.getD .skip
def g5 : Sig := ⟨[.v (.ty (.int .i64))], .v (.ty .bool)⟩
def h5 : HT := (.n (.r .x) (.n (.r .x) (.n (.r .x) (.j ⟨[(3, .d (.ty (.int .i64))), (4, .ref 500004 3)], [(500004, .box [.d .str, .d .str, .own 500005]), (500005, .arr (.cons .str (.cons (.sl (.cons .str .nil)) .nil)))], []⟩ (.n (.r .x) (.u (.l ⟨[(3, .d (.ty (.int .i64))), (4, .ref 500000 3), (5, .d (.ty (.int .i64)))], [(500000, .box [.d .str, .d .str, .own 500001]), (500001, .arr (.cons .str (.cons (.sl (.cons .str .nil)) .nil)))], []⟩ (.n (.n (.r .x) (.n .e .e)) (.n (.u (.r .x)) (.r .x)))))) (.n (.r .x) (.n (.r .x) (.j ⟨[(3, .d (.ty (.int .i64)))], [], []⟩ (.n (.r .x) (.u (.l ⟨[(3, .d (.ty (.int .i64))), (50, .own 500006), (51, .d (.ty (.int .i64))), (52, .d (.ty (.int .i64)))], [(500006, .arr (.cons .str (.cons .str (.cons (.sl (.cons .str (.cons (.sl (.cons .str .nil)) .nil))) .nil))))], []⟩ (.n (.r .x) (.n (.n .e .e) (.n (.u (.n (.r .x) (.n (.r .x) (.j ⟨[(3, .d (.ty (.int .i64))), (50, .own 500007), (51, .d (.ty (.int .i64))), (52, .d (.ty (.int .i64))), (80, .d (.ty .bool))], [(500007, .arr (.cons .str (.cons .str (.cons (.sl (.cons .str (.cons (.sl (.cons .str .nil)) .nil))) .nil))))], []⟩ (.r .x) (.n (.n (.r .x) .e) .e))))) (.r .x))))))) (.n (.r .x) (.j ⟨[(3, .d (.ty (.int .i64))), (12, .d (.ty .str))], [], []⟩ (.n (.r .x) (.u (.l ⟨[(3, .d (.ty (.int .i64))), (12, .d (.ty .str)), (13, .d (.ty (.int .i64)))], [], []⟩ (.n (.n (.r .x) (.n .e .e)) (.n (.u (.r .x)) (.r .x)))))) (.n (.r .x) (.j ⟨[(2, .d (.ty .bool))], [], []⟩ (.r .x) .e)))))))))))
noncomputable def FT5 : List (Nat × Entry) := [(19, ⟨g19, sp19⟩), (14, ⟨g14, sp14⟩), (18, ⟨g18, sp18⟩), (9, ⟨g9, sp9⟩)]
noncomputable def IT5 : List (Nat × Inl) := []
def MT5 : MTab := []
noncomputable def sh5_K5 (z5 : Bool × Unit) : Option (Bool × Unit) :=
 some (z5.1, ())
noncomputable def sh5_K3 (z3 : Int × List UInt8 × Unit) : Option (Bool × Unit) :=
 if decide ([66, 83, 77, 10].length + z3.2.1.length ≤ Abs.lim) = true then
 if decide (([66, 83, 77, 10] ++ z3.2.1).length + [69, 78, 68, 66, 83, 77, 10].length ≤ Abs.lim) = true then
 (sp18 ([66, 83, 77, 10] ++ z3.2.1 ++ [69, 78, 68, 66, 83, 77, 10], ())).bind
 fun (r4 : ((List UInt8 × List UInt8 × List (List UInt8 × List (List UInt8 × Unit) × Unit) × Unit) × Int × Int × Unit) × Unit) =>
 joinK sh5_K5 fun (j6 : Bool × Unit → Option (Bool × Unit)) =>
 if ((r4.1.2.2.1 == 0) == decide (z3.1 ≤ 0)) = true then
 if decide (z3.1 ≤ 0) = true then (sp9 ()).bind fun (r7 : Bool × Unit) => j6 (r7.1, ())
 else
 if (r4.1.2.2.1 == 2) = true then if (r4.1.2.1 == 26) = true then (sp9 ()).bind fun (r8 : Bool × Unit) => j6 (r8.1, ()) else j6 (false, ())
 else j6 (false, ())
 else j6 (false, ())
 else none
 else none
noncomputable def sh5_L10 (j9 : Int × List UInt8 × Unit → Option (Bool × Unit)) (rc10 : Int × List UInt8 × Int × Unit → Option (Bool × Unit)) (z10 : Int × List UInt8 × Int × Unit) : Option (Bool × Unit) :=
 if decide (z10.2.2.1 < IntKind.i64.wrap (24 + z10.1)) = true then
 if decide (z10.2.1.length + [46, 65, 47, 66, 10].length ≤ Abs.lim) = true then
 rc10 (z10.1, z10.2.1 ++ [46, 65, 47, 66, 10], IntKind.i64.wrap (z10.2.2.1 + 1), ())
 else none
 else j9 (z10.1, z10.2.1, ())
noncomputable def sh5_K2 (fuel : Nat) (z2 : Int × Unit) : Option (Bool × Unit) :=
 joinK sh5_K3 fun (j9 : Int × List UInt8 × Unit → Option (Bool × Unit)) => iter fuel (sh5_L10 j9) (z2.1, [], 0, ())
noncomputable def sh5_K14 (rc12 : Int × Int × Int × List (List UInt8 × List UInt8 × List (List UInt8 × List (List UInt8 × Unit) × Unit) × Unit) × Unit → Option (Bool × Unit)) (z14 : Int × Int × Int × Bool × List (List UInt8 × List UInt8 × List (List UInt8 × List (List UInt8 × Unit) × Unit) × Unit) × Unit) : Option (Bool × Unit) :=
 if z14.2.2.2.1 = true then some (false, ()) else rc12 (z14.1, z14.2.1, IntKind.i64.wrap (z14.2.2.1 + 1), z14.2.2.2.2.1, ())
noncomputable def sh5_L12 (j11 : Int × Unit → Option (Bool × Unit)) (rc12 : Int × Int × Int × List (List UInt8 × List UInt8 × List (List UInt8 × List (List UInt8 × Unit) × Unit) × Unit) × Unit → Option (Bool × Unit)) (z12 : Int × Int × Int × List (List UInt8 × List UInt8 × List (List UInt8 × List (List UInt8 × Unit) × Unit) × Unit) × Unit) : Option (Bool × Unit) :=
 if decide (z12.2.2.1 < z12.2.1) = true then
 if inR z12.2.2.1 z12.2.2.2.1.length = true then
 if decide (z12.2.2.1.toNat + 1 ≤ z12.2.2.2.1.length) = true then
 (sp14
 (((z12.2.2.2.1.getD z12.2.2.1.toNat ([], [], [], ())).1, (z12.2.2.2.1.getD z12.2.2.1.toNat ([], [], [], ())).2.1,
 (z12.2.2.2.1.getD z12.2.2.1.toNat ([], [], [], ())).2.2.1, ()),
 ())).bind
 fun (r13 : (List UInt8 × Int × Unit) × Unit) =>
 joinK (sh5_K14 rc12)
 fun
 (j15 :
 Int × Int × Int × Bool × List (List UInt8 × List UInt8 × List (List UInt8 × List (List UInt8 × Unit) × Unit) × Unit) × Unit →
 Option (Bool × Unit)) =>
 if (!(r13.1.2.1 == 0) == decide (z12.1 ≤ 0)) = true then j15 (z12.1, z12.2.1, z12.2.2.1, true, z12.2.2.2.1, ())
 else
 if (r13.1.2.1 != 0) = true then
 if (r13.1.2.1 != 2) = true then j15 (z12.1, z12.2.1, z12.2.2.1, true, z12.2.2.2.1, ())
 else j15 (z12.1, z12.2.1, z12.2.2.1, !(r13.1.1 == []) == decide (0 < z12.1), z12.2.2.2.1, ())
 else j15 (z12.1, z12.2.1, z12.2.2.1, !(r13.1.1 == []) == decide (0 < z12.1), z12.2.2.2.1, ())
 else none
 else none
 else j11 (z12.1, ())
noncomputable def sh5_K1 (fuel : Nat) (z1 : Int × (List UInt8 × List UInt8 × Unit) × List (List UInt8 × List (List UInt8 × Unit) × Unit) × Unit) : Option (Bool × Unit) :=
 if decide (0 ≤ IntKind.i64.wrap (8 + z1.1)) = true then
 if decide (IntKind.i64.wrap (8 + z1.1) ≤ IntKind.i64.wrap (8 + z1.1)) = true then
 if decide (IntKind.i64.wrap (8 + z1.1) ≤ (↑Abs.lim : Int)) = true then
 if decide ((↑16 : Int) * IntKind.i64.wrap (8 + z1.1) ≤ (↑Abs.lim : Int)) = true then
 if
 inCut 0 (IntKind.i64.wrap (20 + z1.1)) [48, 49, 50, 51, 52, 53, 54, 55, 56, 57, 65, 66, 67, 68, 69, 70, 71, 72, 73, 74, 75].length =
 true then
 joinK (sh5_K2 fuel) fun (j11 : Int × Unit → Option (Bool × Unit)) =>
 iter fuel (sh5_L12 j11)
 (z1.1,
 (↑[(z1.2.1.1, z1.2.1.2.1, z1.2.2.1, ()),
 ([66, 83, 77], [], [([65], List.replicate (IntKind.i64.wrap (8 + z1.1)).toNat ([], ()), ())], ()),
 ([66, 83, 77], [],
 [([65],
 [(cutL [48, 49, 50, 51, 52, 53, 54, 55, 56, 57, 65, 66, 67, 68, 69, 70, 71, 72, 73, 74, 75] 0
 (IntKind.i64.wrap (20 + z1.1)),
 ())],
 ())],
 ())].length :
 Int),
 0,
 [(z1.2.1.1, z1.2.1.2.1, z1.2.2.1, ()),
 ([66, 83, 77], [], [([65], List.replicate (IntKind.i64.wrap (8 + z1.1)).toNat ([], ()), ())], ()),
 ([66, 83, 77], [],
 [([65],
 [(cutL [48, 49, 50, 51, 52, 53, 54, 55, 56, 57, 65, 66, 67, 68, 69, 70, 71, 72, 73, 74, 75] 0 (IntKind.i64.wrap (20 + z1.1)),
 ())],
 ())],
 ())],
 ())
 else none
 else none
 else none
 else none
 else none
noncomputable def sh5_L17 (j16 : Int × (List UInt8 × List UInt8 × Unit) × List (List UInt8 × List (List UInt8 × Unit) × Unit) × Unit → Option (Bool × Unit)) (rc17 : Int × Int × (List UInt8 × List UInt8 × Unit) × List (List UInt8 × List (List UInt8 × Unit) × Unit) × Unit → Option (Bool × Unit)) (z17 : Int × Int × (List UInt8 × List UInt8 × Unit) × List (List UInt8 × List (List UInt8 × Unit) × Unit) × Unit) : Option (Bool × Unit) :=
 if decide (z17.2.1 < IntKind.i64.wrap (24 + z17.1)) = true then
 if decide (z17.2.2.2.1.length + 1 ≤ Abs.lim) = true then
 if decide ((z17.2.2.2.1.length + 1) * 40 ≤ Abs.lim) = true then
 rc17 (z17.1, IntKind.i64.wrap (z17.2.1 + 1), (z17.2.2.1.1, z17.2.2.1.2.1, ()), z17.2.2.2.1 ++ [([65], [([66], ())], ())], ())
 else none
 else none
 else j16 (z17.1, (z17.2.2.1.1, z17.2.2.1.2.1, ()), z17.2.2.2.1, ())
noncomputable def sh5 (fuel : Nat) (x0 : Int) : Option (Bool × Unit) :=
 (sp19 (x0, 3, ())).bind fun (r0 : Int × Unit) =>
 joinK (sh5_K1 fuel)
 fun (j16 : Int × (List UInt8 × List UInt8 × Unit) × List (List UInt8 × List (List UInt8 × Unit) × Unit) × Unit → Option (Bool × Unit)) =>
 iter fuel (sh5_L17 j16) (IntKind.i64.wrap (r0.1 - 1), 0, ([66, 83, 77], [], ()), [], ())
noncomputable def sp5 (x : (Int) × Unit) : Option (Bool × Unit) := sh5 100000 x.1
/-! 33 baggage/baggagekeep.Strings -/
noncomputable def c33 : Code := Tryd.f33.body.getD .skip
def g33 : Sig := ⟨[.v (.ty (.sl (.cons .str .nil))), .v (.ty (.sl (.cons .str .nil)))], .v (.ty .bool)⟩
def h33 : HT := (.n (.r .x) (.n (.n (.r .x) (.n (.n (.r .x) .e) .e)) (.j ⟨[], [], []⟩ (.n (.r .x) (.u (.l ⟨[(0, .d (.ty (.sl (.cons .str .nil)))), (1, .d (.ty (.sl (.cons .str .nil)))), (5, .d (.ty (.int .i64)))], [], []⟩ (.n (.n (.r .x) (.n .e .e)) (.n (.u (.n (.r .q) (.n (.n (.r .x) .e) .e))) (.r .x)))))) (.n (.r .x) .e))))
noncomputable def FT33 : List (Nat × Entry) := []
noncomputable def IT33 : List (Nat × Inl) := []
def MT33 : MTab := []
noncomputable def sh33_K0 (z0 : Unit) : Option (Bool × Unit) :=
 some (true, ())
noncomputable def sh33_L2 (j1 : Unit → Option (Bool × Unit)) (rc2 : List (List UInt8 × Unit) × List (List UInt8 × Unit) × Int × Unit → Option (Bool × Unit)) (z2 : List (List UInt8 × Unit) × List (List UInt8 × Unit) × Int × Unit) : Option (Bool × Unit) :=
 if decide (z2.2.2.1 < (↑z2.1.length : Int)) = true then
 if inR z2.2.2.1 z2.1.length = true then
 if inR z2.2.2.1 z2.2.1.length = true then
 if (!(lAt ([], ()) z2.1 z2.2.2.1).1 == (lAt ([], ()) z2.2.1 z2.2.2.1).1) = true then some (false, ())
 else rc2 (z2.1, z2.2.1, IntKind.i64.wrap (z2.2.2.1 + 1), ())
 else none
 else none
 else j1 ()
noncomputable def sh33 (fuel : Nat) (x0 : List (List UInt8 × Unit)) (x1 : List (List UInt8 × Unit)) : Option (Bool × Unit) :=
 if ((↑x0.length : Int) != (↑x1.length : Int)) = true then some (false, ())
 else joinK sh33_K0 fun (j1 : Unit → Option (Bool × Unit)) => iter fuel (sh33_L2 j1) (x0, x1, 0, ())
noncomputable def sp33 (x : (List (List UInt8 × Unit)) × (List (List UInt8 × Unit)) × Unit) : Option (Bool × Unit) := sh33 100000 x.1 x.2.1
/-! 20 baggage/baggageref03.Same -/
noncomputable def c20 : Code := Tryd.f20.body.getD .skip
def g20 : Sig := ⟨[.v (.ag (.cons .str (.cons .str (.cons (.sl (.cons .str (.cons (.sl (.cons .str .nil)) .nil))) .nil)))), .v (.ag (.cons .str (.cons .str (.cons (.sl (.cons .str (.cons (.sl (.cons .str .nil)) .nil))) .nil))))], .v (.ty .bool)⟩
def h20 : HT := (.n (.r .x) (.n (.j ⟨[(2, .ref 500000 3), (3, .ref 500001 3), (26, .d (.ty .bool))], [(500000, .box [.d .str, .d .str, .d (.sl (.cons .str (.cons (.sl (.cons .str .nil)) .nil)))]), (500001, .box [.d .str, .d .str, .d (.sl (.cons .str (.cons (.sl (.cons .str .nil)) .nil)))])], []⟩ (.r .x) (.n (.n (.r .x) .e) .e)) (.j ⟨[], [], []⟩ (.n (.r .x) (.u (.l ⟨[(2, .ref 500002 3), (3, .ref 500003 3), (5, .d (.ty (.int .i64)))], [(500002, .box [.d .str, .d .str, .d (.sl (.cons .str (.cons (.sl (.cons .str .nil)) .nil)))]), (500003, .box [.d .str, .d .str, .d (.sl (.cons .str (.cons (.sl (.cons .str .nil)) .nil)))])], []⟩ (.n (.n (.r .x) (.n .e .e)) (.n (.u (.j ⟨[(2, .ref 500004 3), (3, .ref 500005 3), (5, .d (.ty (.int .i64))), (62, .d (.ty .bool))], [(500004, .box [.d .str, .d .str, .d (.sl (.cons .str (.cons (.sl (.cons .str .nil)) .nil)))]), (500005, .box [.d .str, .d .str, .d (.sl (.cons .str (.cons (.sl (.cons .str .nil)) .nil)))])], []⟩ (.r .q) (.n (.n (.r .x) .e) .e))) (.r .x)))))) (.n (.r .x) .e))))
noncomputable def FT20 : List (Nat × Entry) := [(33, ⟨g33, sp33⟩)]
noncomputable def IT20 : List (Nat × Inl) := []
def MT20 : MTab := []
noncomputable def sh20_K1 (z1 : Unit) : Option (Bool × Unit) :=
 some (true, ())
noncomputable def sh20_K4 (rc3 : Int ×
 (List UInt8 × List UInt8 × List (List UInt8 × List (List UInt8 × Unit) × Unit) × Unit) ×
 (List UInt8 × List UInt8 × List (List UInt8 × List (List UInt8 × Unit) × Unit) × Unit) × Unit →
 Option (Bool × Unit)) (z4 : Int ×
 Bool ×
 (List UInt8 × List UInt8 × List (List UInt8 × List (List UInt8 × Unit) × Unit) × Unit) ×
 (List UInt8 × List UInt8 × List (List UInt8 × List (List UInt8 × Unit) × Unit) × Unit) × Unit) : Option (Bool × Unit) :=
 if z4.2.1 = true then some (false, ())
 else rc3 (IntKind.i64.wrap (z4.1 + 1), (z4.2.2.1.1, z4.2.2.1.2.1, z4.2.2.1.2.2.1, ()), (z4.2.2.2.1.1, z4.2.2.2.1.2.1, z4.2.2.2.1.2.2.1, ()), ())
noncomputable def sh20_L3 (j2 : Unit → Option (Bool × Unit)) (rc3 : Int ×
 (List UInt8 × List UInt8 × List (List UInt8 × List (List UInt8 × Unit) × Unit) × Unit) ×
 (List UInt8 × List UInt8 × List (List UInt8 × List (List UInt8 × Unit) × Unit) × Unit) × Unit →
 Option (Bool × Unit)) (z3 : Int ×
 (List UInt8 × List UInt8 × List (List UInt8 × List (List UInt8 × Unit) × Unit) × Unit) ×
 (List UInt8 × List UInt8 × List (List UInt8 × List (List UInt8 × Unit) × Unit) × Unit) × Unit) : Option (Bool × Unit) :=
 if decide (z3.1 < (↑z3.2.1.2.2.1.length : Int)) = true then
 joinK (sh20_K4 rc3)
 fun
 (j5 :
 Int ×
 Bool ×
 (List UInt8 × List UInt8 × List (List UInt8 × List (List UInt8 × Unit) × Unit) × Unit) ×
 (List UInt8 × List UInt8 × List (List UInt8 × List (List UInt8 × Unit) × Unit) × Unit) × Unit →
 Option (Bool × Unit)) =>
 if inR z3.1 z3.2.1.2.2.1.length = true then
 if inR z3.1 z3.2.2.1.2.2.1.length = true then
 if (!(lAt ([], [], ()) z3.2.1.2.2.1 z3.1).1 == (lAt ([], [], ()) z3.2.2.1.2.2.1 z3.1).1) = true then
 j5 (z3.1, true, (z3.2.1.1, z3.2.1.2.1, z3.2.1.2.2.1, ()), (z3.2.2.1.1, z3.2.2.1.2.1, z3.2.2.1.2.2.1, ()), ())
 else
 if inR z3.1 z3.2.1.2.2.1.length = true then
 if inR z3.1 z3.2.2.1.2.2.1.length = true then
 (sp33 ((lAt ([], [], ()) z3.2.1.2.2.1 z3.1).2.1, (lAt ([], [], ()) z3.2.2.1.2.2.1 z3.1).2.1, ())).bind fun (r6 : Bool × Unit) =>
 j5 (z3.1, !r6.1, (z3.2.1.1, z3.2.1.2.1, z3.2.1.2.2.1, ()), (z3.2.2.1.1, z3.2.2.1.2.1, z3.2.2.1.2.2.1, ()), ())
 else none
 else none
 else none
 else none
 else j2 ()
noncomputable def sh20_K0 (fuel : Nat) (z0 : Bool ×
 (List UInt8 × List UInt8 × List (List UInt8 × List (List UInt8 × Unit) × Unit) × Unit) ×
 (List UInt8 × List UInt8 × List (List UInt8 × List (List UInt8 × Unit) × Unit) × Unit) × Unit) : Option (Bool × Unit) :=
 if z0.1 = true then some (false, ())
 else
 joinK sh20_K1 fun (j2 : Unit → Option (Bool × Unit)) =>
 iter fuel (sh20_L3 j2) (0, (z0.2.1.1, z0.2.1.2.1, z0.2.1.2.2.1, ()), (z0.2.2.1.1, z0.2.2.1.2.1, z0.2.2.1.2.2.1, ()), ())
noncomputable def sh20 (fuel : Nat) (x0 : List UInt8 × List UInt8 × List (List UInt8 × List (List UInt8 × Unit) × Unit) × Unit) (x1 : List UInt8 × List UInt8 × List (List UInt8 × List (List UInt8 × Unit) × Unit) × Unit) : Option (Bool × Unit) :=
 joinK (sh20_K0 fuel)
 fun
 (j7 :
 Bool ×
 (List UInt8 × List UInt8 × List (List UInt8 × List (List UInt8 × Unit) × Unit) × Unit) ×
 (List UInt8 × List UInt8 × List (List UInt8 × List (List UInt8 × Unit) × Unit) × Unit) × Unit →
 Option (Bool × Unit)) =>
 if (!x0.1 == x1.1) = true then j7 (true, (x0.1, x0.2.1, x0.2.2.1, ()), (x1.1, x1.2.1, x1.2.2.1, ()), ())
 else
 if (!x0.2.1 == x1.2.1) = true then j7 (true, (x0.1, x0.2.1, x0.2.2.1, ()), (x1.1, x1.2.1, x1.2.2.1, ()), ())
 else j7 ((↑x0.2.2.1.length : Int) != (↑x1.2.2.1.length : Int), (x0.1, x0.2.1, x0.2.2.1, ()), (x1.1, x1.2.1, x1.2.2.1, ()), ())
noncomputable def sp20 (x : (List UInt8 × List UInt8 × List (List UInt8 × List (List UInt8 × Unit) × Unit) × Unit) × (List UInt8 × List UInt8 × List (List UInt8 × List (List UInt8 × Unit) × Unit) × Unit) × Unit) : Option (Bool × Unit) := sh20 100000 x.1 x.2.1
noncomputable def c34 : Code := Tryd.f34.body.getD .skip
/-! 36 slices.Equal[[]string,string] -/
noncomputable def c36 : Code := Tryd.f36.body.getD .skip
def g36 : Sig := ⟨[.v (.ty (.sl (.cons .str .nil))), .v (.ty (.sl (.cons .str .nil)))], .v (.ty .bool)⟩
def h36 : HT := (.n (.r .x) (.n (.n (.r .x) (.n (.n (.r .x) .e) .e)) (.j ⟨[], [], []⟩ (.n (.r .x) (.u (.l ⟨[(0, .d (.ty (.sl (.cons .str .nil)))), (1, .d (.ty (.sl (.cons .str .nil)))), (12, .d (.ty (.int .i64))), (13, .d (.ty (.int .i64)))], [], []⟩ (.n (.r .x) (.n (.n .e .e) (.n (.u (.n (.r .x) (.n (.r .q) (.n (.n (.r .x) .e) .e)))) (.r .x))))))) (.n (.r .x) .e))))
noncomputable def FT36 : List (Nat × Entry) := []
noncomputable def IT36 : List (Nat × Inl) := []
def MT36 : MTab := []
noncomputable def sh36_K0 (z0 : Unit) : Option (Bool × Unit) :=
 some (true, ())
noncomputable def sh36_L2 (j1 : Unit → Option (Bool × Unit)) (rc2 : List (List UInt8 × Unit) × List (List UInt8 × Unit) × Int × Int × Unit → Option (Bool × Unit)) (z2 : List (List UInt8 × Unit) × List (List UInt8 × Unit) × Int × Int × Unit) : Option (Bool × Unit) :=
 if decide (z2.2.2.2.1 < z2.2.2.1) = true then
 if inR z2.2.2.2.1 z2.1.length = true then
 if inR z2.2.2.2.1 z2.2.1.length = true then
 if (!(lAt ([], ()) z2.1 z2.2.2.2.1).1 == (lAt ([], ()) z2.2.1 z2.2.2.2.1).1) = true then some (false, ())
 else rc2 (z2.1, z2.2.1, z2.2.2.1, IntKind.i64.wrap (z2.2.2.2.1 + 1), ())
 else none
 else none
 else j1 ()
noncomputable def sh36 (fuel : Nat) (x0 : List (List UInt8 × Unit)) (x1 : List (List UInt8 × Unit)) : Option (Bool × Unit) :=
 if ((↑x0.length : Int) != (↑x1.length : Int)) = true then some (false, ())
 else joinK sh36_K0 fun (j1 : Unit → Option (Bool × Unit)) => iter fuel (sh36_L2 j1) (x0, x1, (↑x0.length : Int), 0, ())
noncomputable def sp36 (x : (List (List UInt8 × Unit)) × (List (List UInt8 × Unit)) × Unit) : Option (Bool × Unit) := sh36 100000 x.1 x.2.1
noncomputable def c35 : Code := Tryd.f35.body.getD .skip
/-! 21 baggage/telegram.Same -/
noncomputable def c21 : Code := Tryd.f21.body.getD .skip
def g21 : Sig := ⟨[.v (.ag (.cons .str (.cons .str (.cons (.sl (.cons .str (.cons (.sl (.cons .str .nil)) .nil))) .nil)))), .v (.ag (.cons .str (.cons .str (.cons (.sl (.cons .str (.cons (.sl (.cons .str .nil)) .nil))) .nil))))], .v (.ty .bool)⟩
def h21 : HT := (.n (.r .x) (.j ⟨[(4, .d (.ty .bool))], [], []⟩ (.ri .x [(22, 0, (.n (.r .x) (.n (.n (.r .x) (.n (.n (.r .x) .e) .e)) (.j ⟨[(17, .d (.ty .bool))], [], []⟩ (.n (.r .x) (.u (.l ⟨[(17, .d (.ty .bool)), (25, .d (.ty (.sl (.cons .str (.cons (.sl (.cons .str .nil)) .nil))))), (26, .cst (.fn 35)), (39, .d (.ty (.sl (.cons .str (.cons (.sl (.cons .str .nil)) .nil))))), (40, .d (.ty (.int .i64))), (41, .d (.ty (.int .i64)))], [], []⟩ (.n (.r .x) (.n (.n .e .e) (.n (.u (.n (.r .x) (.n (.r .x) (.n (.ri .x [(53, 0, (.n (.r .x) (.j ⟨[(17, .d (.ty .bool)), (25, .d (.ty (.sl (.cons .str (.cons (.sl (.cons .str .nil)) .nil))))), (26, .cst (.fn 35)), (39, .d (.ty (.sl (.cons .str (.cons (.sl (.cons .str .nil)) .nil))))), (40, .d (.ty (.int .i64))), (41, .d (.ty (.int .i64))), (60, .d (.ty .bool))], [], []⟩ (.r .x) .e)))]) (.n (.n (.r .x) .e) .e))))) (.r .x))))))) (.n (.r .x) .e)))))]) .e))
noncomputable def FT21 : List (Nat × Entry) := [(36, ⟨g36, sp36⟩)]
noncomputable def IT21 : List (Nat × Inl) := [(34, ⟨32, [.tmp 6], c34⟩), (35, ⟨17, [.tmp 4], c35⟩)]
def MT21 : MTab := []
noncomputable def sh21_K0 (z0 : Bool × Unit) : Option (Bool × Unit) :=
 some (z0.1, ())
noncomputable def sh21_K2 (j1 : Bool × Unit → Option (Bool × Unit)) (z2 : Bool × Unit) : Option (Bool × Unit) :=
 if z2.1 = true then j1 (true, ()) else j1 (false, ())
noncomputable def sh21_K5 (j1 : Bool × Unit → Option (Bool × Unit)) (rc4 : Bool × List (List UInt8 × List (List UInt8 × Unit) × Unit) × List (List UInt8 × List (List UInt8 × Unit) × Unit) × Int × Int × Unit →
 Option (Bool × Unit)) (z5 : Bool × List (List UInt8 × List (List UInt8 × Unit) × Unit) × List (List UInt8 × List (List UInt8 × Unit) × Unit) × Int × Int × Bool × Unit) : Option (Bool × Unit) :=
 if (!z5.2.2.2.2.2.1) = true then if z5.1 = true then j1 (false, ()) else j1 (false, ())
 else rc4 (z5.1, z5.2.1, z5.2.2.1, z5.2.2.2.1, IntKind.i64.wrap (z5.2.2.2.2.1 + 1), ())
noncomputable def sh21_L4 (j1 : Bool × Unit → Option (Bool × Unit)) (j3 : Bool × Unit → Option (Bool × Unit)) (rc4 : Bool × List (List UInt8 × List (List UInt8 × Unit) × Unit) × List (List UInt8 × List (List UInt8 × Unit) × Unit) × Int × Int × Unit →
 Option (Bool × Unit)) (z4 : Bool × List (List UInt8 × List (List UInt8 × Unit) × Unit) × List (List UInt8 × List (List UInt8 × Unit) × Unit) × Int × Int × Unit) : Option (Bool × Unit) :=
 if decide (z4.2.2.2.2.1 < z4.2.2.2.1) = true then
 if inR z4.2.2.2.2.1 z4.2.2.1.length = true then
 if inR z4.2.2.2.2.1 z4.2.1.length = true then
 joinK (sh21_K5 j1 rc4)
 fun
 (j6 :
 Bool ×
 List (List UInt8 × List (List UInt8 × Unit) × Unit) × List (List UInt8 × List (List UInt8 × Unit) × Unit) × Int × Int × Bool × Unit →
 Option (Bool × Unit)) =>
 if ((lAt ([], [], ()) z4.2.2.1 z4.2.2.2.2.1).1 == (lAt ([], [], ()) z4.2.1 z4.2.2.2.2.1).1) = true then
 (sp36 ((lAt ([], [], ()) z4.2.2.1 z4.2.2.2.2.1).2.1, (lAt ([], [], ()) z4.2.1 z4.2.2.2.2.1).2.1, ())).bind fun (r7 : Bool × Unit) =>
 j6 (z4.1, z4.2.1, z4.2.2.1, z4.2.2.2.1, z4.2.2.2.2.1, r7.1, ())
 else j6 (z4.1, z4.2.1, z4.2.2.1, z4.2.2.2.1, z4.2.2.2.2.1, false, ())
 else none
 else none
 else j3 (z4.1, ())
noncomputable def sh21 (fuel : Nat) (x0 : List UInt8 × List UInt8 × List (List UInt8 × List (List UInt8 × Unit) × Unit) × Unit) (x1 : List UInt8 × List UInt8 × List (List UInt8 × List (List UInt8 × Unit) × Unit) × Unit) : Option (Bool × Unit) :=
 joinK sh21_K0 fun (j1 : Bool × Unit → Option (Bool × Unit)) =>
 if (x0.1 == x1.1) = true then
 if (x0.2.1 == x1.2.1) = true then
 if ((↑x0.2.2.1.length : Int) != (↑x1.2.2.1.length : Int)) = true then j1 (false, ())
 else
 joinK (sh21_K2 j1) fun (j3 : Bool × Unit → Option (Bool × Unit)) =>
 iter fuel (sh21_L4 j1 j3) (true, x1.2.2.1, x0.2.2.1, (↑x0.2.2.1.length : Int), 0, ())
 else j1 (false, ())
 else j1 (false, ())
noncomputable def sp21 (x : (List UInt8 × List UInt8 × List (List UInt8 × List (List UInt8 × Unit) × Unit) × Unit) × (List UInt8 × List UInt8 × List (List UInt8 × List (List UInt8 × Unit) × Unit) × Unit) × Unit) : Option (Bool × Unit) := sh21 100000 x.1 x.2.1
/-! 6 baggage/baggagelaw03.TelegramBack -/
noncomputable def c6 : Code := Tryd.f6.body.getD .skip
def g6 : Sig := ⟨[.v (.ty (.sl (.cons (.int .i64) .nil))), .v (.ty .str)], .v (.ty .bool)⟩
def h6 : HT := (.n (.r .x) (.n (.r .x) (.n (.r .x) (.n (.r .x) (.n (.j ⟨[(1, .d (.ty .str)), (51, .d (.ty .bool))], [], []⟩ (.r .x) (.n (.n (.r .x) .e) .e)) (.n (.r .x) (.n (.j ⟨[(1, .d (.ty .str)), (11, .ref 500000 3), (64, .d (.ty .bool))], [(500000, .box [.d .str, .d .str, .d (.sl (.cons .str (.cons (.sl (.cons .str .nil)) .nil)))])], []⟩ (.r .x) (.n (.n (.r .x) .e) .e)) (.n (.r .x) (.j ⟨[(4, .d (.ty .bool))], [], []⟩ (.r .x) .e)))))))))
noncomputable def FT6 : List (Nat × Entry) := [(10, ⟨g10, sp10⟩), (11, ⟨g11, sp11⟩), (14, ⟨g14, sp14⟩), (18, ⟨g18, sp18⟩), (20, ⟨g20, sp20⟩), (21, ⟨g21, sp21⟩), (9, ⟨g9, sp9⟩)]
noncomputable def IT6 : List (Nat × Inl) := []
def MT6 : MTab := []
noncomputable def sh6_K9 (z9 : Bool × Unit) : Option (Bool × Unit) :=
 some (z9.1, ())
noncomputable def sh6_K6 (z6 : List UInt8 × Bool × (List UInt8 × List UInt8 × List (List UInt8 × List (List UInt8 × Unit) × Unit) × Unit) × Unit) : Option (Bool × Unit) :=
 if z6.2.1 = true then (sp9 ()).bind fun (r7 : Bool × Unit) => some (r7.1, ())
 else
 (sp14 ((z6.2.2.1.1, z6.2.2.1.2.1, z6.2.2.1.2.2.1, ()), ())).bind fun (r8 : (List UInt8 × Int × Unit) × Unit) =>
 joinK sh6_K9 fun (j10 : Bool × Unit → Option (Bool × Unit)) =>
 if (r8.1.2.1 == 0) = true then if (r8.1.1 == z6.1) = true then (sp9 ()).bind fun (r11 : Bool × Unit) => j10 (r11.1, ()) else j10 (false, ())
 else j10 (false, ())
noncomputable def sh6_K4 (z4 : List UInt8 × Bool × Unit) : Option (Bool × Unit) :=
 if z4.2.1 = true then some (false, ())
 else
 (sp18 (z4.1, ())).bind
 fun (r5 : ((List UInt8 × List UInt8 × List (List UInt8 × List (List UInt8 × Unit) × Unit) × Unit) × Int × Int × Unit) × Unit) =>
 joinK sh6_K6
 fun
 (j12 :
 List UInt8 × Bool × (List UInt8 × List UInt8 × List (List UInt8 × List (List UInt8 × Unit) × Unit) × Unit) × Unit → Option (Bool × Unit)) =>
 if decide (3000 < (↑z4.1.length : Int)) = true then j12 (z4.1, true, (r5.1.1.1, r5.1.1.2.1, r5.1.1.2.2.1, ()), ())
 else j12 (z4.1, r5.1.2.2.1 != 0, (r5.1.1.1, r5.1.1.2.1, r5.1.1.2.2.1, ()), ())
noncomputable def sh6 (fuel : Nat) (x0 : List (Int × Unit)) (x1 : List UInt8) : Option (Bool × Unit) :=
 (sp10 (x0, ())).bind fun (r0 : (List (Int × Unit) × Int × Unit) × Unit) =>
 (sp11 ((r0.1.1, r0.1.2.1, ()), ())).bind
 fun (r1 : (List UInt8 × List UInt8 × List (List UInt8 × List (List UInt8 × Unit) × Unit) × Unit) × (List (Int × Unit) × Int × Unit) × Unit) =>
 (sp14 ((r1.1.1, r1.1.2.1, r1.1.2.2.1, ()), ())).bind fun (r2 : (List UInt8 × Int × Unit) × Unit) =>
 (sp18 (r2.1.1, ())).bind
 fun (r3 : ((List UInt8 × List UInt8 × List (List UInt8 × List (List UInt8 × Unit) × Unit) × Unit) × Int × Int × Unit) × Unit) =>
 joinK sh6_K4 fun (j13 : List UInt8 × Bool × Unit → Option (Bool × Unit)) =>
 if (r2.1.2.1 != 0) = true then j13 (x1, true, ())
 else
 if (r3.1.2.2.1 != 0) = true then j13 (x1, true, ())
 else
 if (r3.1.2.1 != 0) = true then j13 (x1, true, ())
 else
 (sp20 ((r1.1.1, r1.1.2.1, r1.1.2.2.1, ()), (r3.1.1.1, r3.1.1.2.1, r3.1.1.2.2.1, ()), ())).bind fun (r14 : Bool × Unit) =>
 if (!r14.1) = true then j13 (x1, true, ())
 else
 (sp21 ((r1.1.1, r1.1.2.1, r1.1.2.2.1, ()), (r3.1.1.1, r3.1.1.2.1, r3.1.1.2.2.1, ()), ())).bind fun (r15 : Bool × Unit) =>
 j13 (x1, !r15.1, ())
noncomputable def sp6 (x : (List (Int × Unit)) × (List UInt8) × Unit) : Option (Bool × Unit) := sh6 0 x.1 x.2.1
/-! 7 baggage/baggagelaw03.TelegramSame -/
noncomputable def c7 : Code := Tryd.f7.body.getD .skip
def g7 : Sig := ⟨[.v (.ty (.sl (.cons (.int .i64) .nil))), .v (.ty (.sl (.cons (.int .i64) .nil))), .v (.ag (.cons .str (.cons .str (.cons (.sl (.cons .str (.cons (.sl (.cons .str .nil)) .nil))) .nil)))), .v (.ag (.cons .str (.cons .str (.cons (.sl (.cons .str (.cons (.sl (.cons .str .nil)) .nil))) .nil))))], .v (.ty .bool)⟩
def h7 : HT := (.n (.r .x) (.n (.j ⟨[(0, .d (.ty (.sl (.cons (.int .i64) .nil)))), (1, .d (.ty (.sl (.cons (.int .i64) .nil)))), (6, .ref 500000 3), (7, .ref 500001 3), (18, .d (.ty .bool))], [(500000, .box [.d .str, .d .str, .d (.sl (.cons .str (.cons (.sl (.cons .str .nil)) .nil)))]), (500001, .box [.d .str, .d .str, .d (.sl (.cons .str (.cons (.sl (.cons .str .nil)) .nil)))])], []⟩ (.r .x) (.n (.n (.r .x) .e) .e)) (.n (.r .x) (.j ⟨[(8, .d (.ty .bool))], [], []⟩ (.r .q) .e))))
noncomputable def FT7 : List (Nat × Entry) := [(8, ⟨g8, sp8⟩), (9, ⟨g9, sp9⟩), (10, ⟨g10, sp10⟩), (11, ⟨g11, sp11⟩), (21, ⟨g21, sp21⟩), (20, ⟨g20, sp20⟩)]
noncomputable def IT7 : List (Nat × Inl) := []
def MT7 : MTab := []
noncomputable def sh7_K6 (z6 : Bool × Unit) : Option (Bool × Unit) :=
 some (z6.1, ())
noncomputable def sh7_K0 (z0 : List (Int × Unit) ×
 List (Int × Unit) ×
 Bool ×
 (List UInt8 × List UInt8 × List (List UInt8 × List (List UInt8 × Unit) × Unit) × Unit) ×
 (List UInt8 × List UInt8 × List (List UInt8 × List (List UInt8 × Unit) × Unit) × Unit) × Unit) : Option (Bool × Unit) :=
 if z0.2.2.1 = true then (sp9 ()).bind fun (r1 : Bool × Unit) => some (r1.1, ())
 else
 (sp10 (z0.1, ())).bind fun (r2 : (List (Int × Unit) × Int × Unit) × Unit) =>
 (sp11 ((r2.1.1, r2.1.2.1, ()), ())).bind
 fun (r3 : (List UInt8 × List UInt8 × List (List UInt8 × List (List UInt8 × Unit) × Unit) × Unit) × (List (Int × Unit) × Int × Unit) × Unit) =>
 (sp10 (z0.2.1, ())).bind fun (r4 : (List (Int × Unit) × Int × Unit) × Unit) =>
 (sp11 ((r4.1.1, r4.1.2.1, ()), ())).bind
 fun
 (r5 : (List UInt8 × List UInt8 × List (List UInt8 × List (List UInt8 × Unit) × Unit) × Unit) × (List (Int × Unit) × Int × Unit) × Unit) =>
 joinK sh7_K6 fun (j7 : Bool × Unit → Option (Bool × Unit)) =>
 (sp21 ((r3.1.1, r3.1.2.1, r3.1.2.2.1, ()), (r5.1.1, r5.1.2.1, r5.1.2.2.1, ()), ())).bind fun (r8 : Bool × Unit) =>
 (sp20 ((r3.1.1, r3.1.2.1, r3.1.2.2.1, ()), (r5.1.1, r5.1.2.1, r5.1.2.2.1, ()), ())).bind fun (r9 : Bool × Unit) =>
 if (r8.1 == r9.1) = true then
 (sp21 ((z0.2.2.2.1.1, z0.2.2.2.1.2.1, z0.2.2.2.1.2.2.1, ()), (z0.2.2.2.2.1.1, z0.2.2.2.2.1.2.1, z0.2.2.2.2.1.2.2.1, ()), ())).bind
 fun (r10 : Bool × Unit) =>
 (sp20 ((z0.2.2.2.1.1, z0.2.2.2.1.2.1, z0.2.2.2.1.2.2.1, ()), (z0.2.2.2.2.1.1, z0.2.2.2.2.1.2.1, z0.2.2.2.2.1.2.2.1, ()), ())).bind
 fun (r11 : Bool × Unit) =>
 if (r10.1 == r11.1) = true then
 (sp21 ((z0.2.2.2.1.1, z0.2.2.2.1.2.1, z0.2.2.2.1.2.2.1, ()), (z0.2.2.2.1.1, z0.2.2.2.1.2.1, z0.2.2.2.1.2.2.1, ()), ())).bind
 fun (r12 : Bool × Unit) =>
 if r12.1 = true then
 (sp21 ((r3.1.1, r3.1.2.1, r3.1.2.2.1, ()), (r3.1.1, r3.1.2.1, r3.1.2.2.1, ()), ())).bind fun (r13 : Bool × Unit) =>
 if r13.1 = true then (sp9 ()).bind fun (r14 : Bool × Unit) => j7 (r14.1, ()) else j7 (false, ())
 else j7 (false, ())
 else j7 (false, ())
 else j7 (false, ())
noncomputable def sh7 (fuel : Nat) (x0 : List (Int × Unit)) (x1 : List (Int × Unit)) (x2 : List UInt8 × List UInt8 × List (List UInt8 × List (List UInt8 × Unit) × Unit) × Unit) (x3 : List UInt8 × List UInt8 × List (List UInt8 × List (List UInt8 × Unit) × Unit) × Unit) : Option (Bool × Unit) :=
 joinK sh7_K0
 fun
 (j15 :
 List (Int × Unit) ×
 List (Int × Unit) ×
 Bool ×
 (List UInt8 × List UInt8 × List (List UInt8 × List (List UInt8 × Unit) × Unit) × Unit) ×
 (List UInt8 × List UInt8 × List (List UInt8 × List (List UInt8 × Unit) × Unit) × Unit) × Unit →
 Option (Bool × Unit)) =>
 (sp8 ((x2.1, x2.2.1, x2.2.2.1, ()), ())).bind fun (r16 : Bool × Unit) =>
 if (!r16.1) = true then j15 (x0, x1, true, (x2.1, x2.2.1, x2.2.2.1, ()), (x3.1, x3.2.1, x3.2.2.1, ()), ())
 else
 (sp8 ((x3.1, x3.2.1, x3.2.2.1, ()), ())).bind fun (r17 : Bool × Unit) =>
 j15 (x0, x1, !r17.1, (x2.1, x2.2.1, x2.2.2.1, ()), (x3.1, x3.2.1, x3.2.2.1, ()), ())
noncomputable def sp7 (x : (List (Int × Unit)) × (List (Int × Unit)) × (List UInt8 × List UInt8 × List (List UInt8 × List (List UInt8 × Unit) × Unit) × Unit) × (List UInt8 × List UInt8 × List (List UInt8 × List (List UInt8 × Unit) × Unit) × Unit) × Unit) : Option (Bool × Unit) := sh7 0 x.1 x.2.1 x.2.2.1 x.2.2.2.1
end Go.Proofs.YtodandhnddjfpaaDoor
