/- Walks: the functions of the program, each as a typed contract. -/
import Derived.Test.YtkppmjplkjakkaaHeap
import Derived.Test.YtkppmjplkjakkaaProg
import Derived.KernelRfl
open Go Go.Proofs Go.Abs
set_option linter.unusedVariables false
set_option maxRecDepth 100000
namespace Go.Proofs.Ytkppmjplkjakkaa
def G : List (Nat × TD) := [(3, .int .i64), (4, .bool), (17, .nl .nilP), (20, .nl .nilI), (22, .slice (.cons (.int .i64) (.cons (.int .i64) .nil)) 16), (23, .slice (.cons (.int .i64) .nil) 8), (33, .struct (.cons (.int .i64) (.cons (.int .i64) .nil)) [(0, false, 1), (1, false, 1)] true), (35, .nl .nilP), (39, .nl .nilP), (42, .slice (.cons (.int .i64) (.cons (.int .i64) .nil)) 16), (46, .struct (.cons (.sl (.cons (.int .i64) .nil)) (.cons (.int .i64) .nil)) [(0, false, 1), (1, false, 1)] false), (49, .nl .nilI)]
theorem wide : Try.prog.follows .mixedOrders = true := by kernel_rfl
theorem good : Go.Abs.Good Try.prog G := good_of (by kernel_rfl)
/-! 9 baggage/early.Hold -/
noncomputable def c9 : Code := Try.f9.body.getD .skip
def g9 : Sig := ⟨[.v (.ty (.int .i64)), .v (.ty (.int .i64)), .v (.ty (.int .i64)), .v (.ty (.int .i64))], .v (.ty .bool)⟩
def h9 : HT := (.n (.r .x) (.j ⟨[(0, .d (.ty (.int .i64))), (1, .d (.ty (.int .i64))), (2, .d (.ty (.int .i64))), (3, .d (.ty (.int .i64)))], [], []⟩ (.n (.r .x) (.u (.l ⟨[(0, .d (.ty (.int .i64))), (1, .d (.ty (.int .i64))), (2, .d (.ty (.int .i64))), (3, .d (.ty (.int .i64))), (15, .own 500000), (16, .d (.ty (.int .i64))), (17, .d (.ty (.int .i64)))], [(500000, .arr (.cons (.int .i64) .nil))], []⟩ (.n (.r .x) (.n (.n .e .e) (.n (.u (.n (.r .x) (.j ⟨[(0, .d (.ty (.int .i64))), (1, .d (.ty (.int .i64))), (2, .d (.ty (.int .i64))), (3, .d (.ty (.int .i64))), (15, .own 500001), (16, .d (.ty (.int .i64))), (17, .d (.ty (.int .i64))), (26, .d (.ty .bool))], [(500001, .arr (.cons (.int .i64) .nil))], []⟩ (.r .x) (.n (.n (.r .x) .e) .e)))) (.r .x))))))) (.n (.r .x) .e)))
noncomputable def FT9 : List (Nat × Entry) := []
noncomputable def IT9 : List (Nat × Inl) := []
def MT9 : MTab := []
noncomputable def sh9_K0 (z0 : Int × Int × Int × Int × Unit) : Option (Bool × Unit) :=
  some (decide (IntKind.i64.wrap (IntKind.i64.wrap (z0.1 + z0.2.2.1) + z0.2.2.2.1) < z0.2.1), ())
noncomputable def sh9_K3 (rc2 : Int × Int × Int × Int × Int × Int × List (Int × Unit) × Unit → Option (Bool × Unit)) (z3 : Int × Int × Int × Int × Int × Int × Bool × List (Int × Unit) × Unit) : Option (Bool × Unit) :=
  if z3.2.2.2.2.2.2.1 = true then some (false, ())
  else rc2 (z3.1, z3.2.1, z3.2.2.1, z3.2.2.2.1, z3.2.2.2.2.1, IntKind.i64.wrap (z3.2.2.2.2.2.1 + 1), z3.2.2.2.2.2.2.2.1, ())
noncomputable def sh9_L2 (j1 : Int × Int × Int × Int × Unit → Option (Bool × Unit)) (rc2 : Int × Int × Int × Int × Int × Int × List (Int × Unit) × Unit → Option (Bool × Unit)) (z2 : Int × Int × Int × Int × Int × Int × List (Int × Unit) × Unit) : Option (Bool × Unit) :=
  if decide (z2.2.2.2.2.2.1 < z2.2.2.2.2.1) = true then
    if inR z2.2.2.2.2.2.1 z2.2.2.2.2.2.2.1.length = true then
      if decide (z2.2.2.2.2.2.1.toNat + 1 ≤ z2.2.2.2.2.2.2.1.length) = true then
        joinK (sh9_K3 rc2) fun (j4 : Int × Int × Int × Int × Int × Int × Bool × List (Int × Unit) × Unit → Option (Bool × Unit)) =>
          if decide ((z2.2.2.2.2.2.2.1.getD z2.2.2.2.2.2.1.toNat (0, ())).1 < 0) = true then
            j4 (z2.1, z2.2.1, z2.2.2.1, z2.2.2.2.1, z2.2.2.2.2.1, z2.2.2.2.2.2.1, true, z2.2.2.2.2.2.2.1, ())
          else
            j4
              (z2.1, z2.2.1, z2.2.2.1, z2.2.2.2.1, z2.2.2.2.2.1, z2.2.2.2.2.2.1,
                decide (1048576 < (z2.2.2.2.2.2.2.1.getD z2.2.2.2.2.2.1.toNat (0, ())).1), z2.2.2.2.2.2.2.1, ())
      else none
    else none
  else j1 (z2.1, z2.2.1, z2.2.2.1, z2.2.2.2.1, ())
noncomputable def sh9 (fuel : Nat) (x0 : Int) (x1 : Int) (x2 : Int) (x3 : Int) : Option (Bool × Unit) :=
  joinK sh9_K0 fun (j1 : Int × Int × Int × Int × Unit → Option (Bool × Unit)) =>
    iter fuel (sh9_L2 j1) (x0, x1, x2, x3, (↑[(x0, ()), (x1, ()), (x2, ()), (x3, ())].length : Int), 0, [(x0, ()), (x1, ()), (x2, ()), (x3, ())], ())
def holdB (a b c d : Int) : Bool := decide (0 ≤ a) && decide (a ≤ 1048576) && decide (0 ≤ b) && decide (b ≤ 1048576) && decide (0 ≤ c) && decide (c ≤ 1048576) && decide (0 ≤ d) && decide (d ≤ 1048576) && decide (a + c + d < b)
noncomputable def sp9 (x : Int × Int × Int × Int × Unit) : Option (Bool × Unit) := some (holdB x.1 x.2.1 x.2.2.1 x.2.2.2.1, ())
noncomputable def c47 : Code := Try.f47.body.getD .skip

/-! 21 (baggage/early.line).Len -/
noncomputable def c21 : Code := Try.f21.body.getD .skip
def g21 : Sig := ⟨[.v (.ty (.sl (.cons (.int .i64) (.cons (.int .i64) .nil))))], .v (.ty (.int .i64))⟩
def h21 : HT := (.n (.r .x) (.n (.r .x) .e))
noncomputable def FT21 : List (Nat × Entry) := []
noncomputable def IT21 : List (Nat × Inl) := []
def MT21 : MTab := []
noncomputable def sh21 (fuel : Nat) (x0 : List (Int × Int × Unit)) : Option (Int × Unit) :=
  some ((↑x0.length : Int), ())
noncomputable def sp21 (x : (List (Int × Int × Unit)) × Unit) : Option (Int × Unit) := sh21 0 x.1
theorem e21 (L : List E) : sp21 (L, ()) = some ((L.length : Int), ()) := rfl
/-! 51 cmp.isNaN[int] -/
noncomputable def c51 : Code := Try.f51.body.getD .skip
def g51 : Sig := ⟨[.v (.ty (.int .i64))], .v (.ty .bool)⟩
def h51 : HT := (.n (.r .x) (.n (.r .x) .e))
noncomputable def FT51 : List (Nat × Entry) := []
noncomputable def IT51 : List (Nat × Inl) := []
def MT51 : MTab := []
noncomputable def sh51 (fuel : Nat) (x0 : Int) : Option (Bool × Unit) :=
  some (x0 != x0, ())
noncomputable def sp51 (x : (Int) × Unit) : Option (Bool × Unit) := sh51 0 x.1
/-! 50 cmp.Compare[int] -/
noncomputable def c50 : Code := Try.f50.body.getD .skip
def g50 : Sig := ⟨[.v (.ty (.int .i64)), .v (.ty (.int .i64))], .v (.ty (.int .i64))⟩
def h50 : HT := (.n (.r .x) (.n (.r .x) (.n (.r .x) (.n (.n (.r .x) (.n (.n (.n (.r .x) (.n (.n (.r .x) .e) .e)) (.n (.r .x) .e)) .e)) (.n (.n (.r .x) (.n (.n (.r .x) .e) .e)) (.n (.n (.r .x) (.n (.n (.r .x) .e) .e)) (.n (.n (.r .x) (.n (.n (.r .x) .e) .e)) (.n (.r .x) .e))))))))
noncomputable def FT50 : List (Nat × Entry) := [(51, ⟨g51, sp51⟩)]
noncomputable def IT50 : List (Nat × Inl) := []
def MT50 : MTab := []
noncomputable def sh50 (fuel : Nat) (x0 : Int) (x1 : Int) : Option (Int × Unit) :=
  (sp51 (x0, ())).bind fun (r0 : Bool × Unit) =>
    (sp51 (x1, ())).bind fun (r1 : Bool × Unit) =>
      if r0.1 = true then if r1.1 = true then some (0, ()) else some (-1, ())
      else
        if r1.1 = true then some (1, ())
        else if decide (x0 < x1) = true then some (-1, ()) else if decide (x1 < x0) = true then some (1, ()) else some (0, ())
noncomputable def sp50 (x : (Int) × (Int) × Unit) : Option (Int × Unit) := sh50 0 x.1 x.2.1
def cmpI (a b : Int) : Int := if a < b then -1 else if b < a then 1 else 0
theorem e50 (a b : Int) : sp50 (a, b, ()) = some (cmpI a b, ()) := by
  show sh50 0 a b = _
  unfold sh50 cmpI
  simp only [sp51, sh51]
  repeat' split
  all_goals simp_all
  all_goals omega
/-! 49 cmp.Or[int] -/
noncomputable def c49 : Code := Try.f49.body.getD .skip
def g49 : Sig := ⟨[.v (.ty (.sl (.cons (.int .i64) .nil)))], .v (.ty (.int .i64))⟩
def h49 : HT := (.n (.r .x) (.n (.r .x) (.j ⟨[(3, .d (.ty (.int .i64)))], [], []⟩ (.n (.r .x) (.u (.l ⟨[(3, .d (.ty (.int .i64))), (6, .d (.ty (.sl (.cons (.int .i64) .nil)))), (7, .d (.ty (.int .i64))), (8, .d (.ty (.int .i64)))], [], []⟩ (.n (.r .x) (.n (.n .e .e) (.n (.u (.n (.r .x) (.n (.r .x) (.n (.n (.r .x) .e) .e)))) (.r .x))))))) (.n (.r .x) .e))))
noncomputable def FT49 : List (Nat × Entry) := []
noncomputable def IT49 : List (Nat × Inl) := []
def MT49 : MTab := []
noncomputable def sh49_K0 (z0 : Int × Unit) : Option (Int × Unit) :=
  some (z0.1, ())
noncomputable def sh49_L2 (j1 : Int × Unit → Option (Int × Unit)) (rc2 : Int × List (Int × Unit) × Int × Int × Unit → Option (Int × Unit)) (z2 : Int × List (Int × Unit) × Int × Int × Unit) : Option (Int × Unit) :=
  if decide (z2.2.2.2.1 < z2.2.2.1) = true then
    if inR z2.2.2.2.1 z2.2.1.length = true then
      if ((lAt (0, ()) z2.2.1 z2.2.2.2.1).1 != z2.1) = true then some ((lAt (0, ()) z2.2.1 z2.2.2.2.1).1, ())
      else rc2 (z2.1, z2.2.1, z2.2.2.1, IntKind.i64.wrap (z2.2.2.2.1 + 1), ())
    else none
  else j1 (z2.1, ())
noncomputable def sh49 (fuel : Nat) (x0 : List (Int × Unit)) : Option (Int × Unit) :=
  joinK sh49_K0 fun (j1 : Int × Unit → Option (Int × Unit)) => iter fuel (sh49_L2 j1) (0, x0, (↑x0.length : Int), 0, ())
def orI (a b : Int) : Int := if a = 0 then b else a
noncomputable def sp49 (x : List (Int × Unit) × Unit) : Option (Int × Unit) := match x.1 with
  | [(a, _), (b, _)] => some (orI a b, ())
  | _ => none
theorem e49 (a b : Int) : sp49 ([(a, ()), (b, ())], ()) = some (orI a b, ()) := rfl
noncomputable def c45 : Code := Try.f45.body.getD .skip
noncomputable def c48 : Code := Try.f48.body.getD .skip
noncomputable def c27 : Code := Try.f27.body.getD .skip
noncomputable def c25 : Code := Try.f25.body.getD .skip
noncomputable def c20 : Code := Try.f20.body.getD .skip
/-! 14 baggage/early.Next -/
noncomputable def c14 : Code := Try.f14.body.getD .skip
def g14 : Sig := ⟨[.v (.ty (.sl (.cons (.int .i64) (.cons (.int .i64) .nil)))), .v (.ty (.int .i64))], .v (.ty (.int .i64))⟩
def h14 : HT := (.n (.r .x) (.n (.ri .x [(7, 0, (.n (.r .x) (.n (.r .x) (.j ⟨[(1, .d (.ty (.int .i64))), (32, .ref 500017 1)], [(500017, .box [.own 500018]), (500018, .arr (.cons (.int .i64) (.cons (.int .i64) .nil)))], []⟩ (.n (.r .x) (.u (.l ⟨[(1, .d (.ty (.int .i64))), (32, .ref 500000 1), (37, .d (.ty (.sl (.cons (.int .i64) (.cons (.int .i64) .nil))))), (38, .d (.ty (.int .i64))), (39, .d (.ty (.int .i64)))], [(500000, .box [.own 500001]), (500001, .arr (.cons (.int .i64) (.cons (.int .i64) .nil)))], []⟩ (.n (.r .x) (.n (.n .e .e) (.j ⟨[(1, .d (.ty (.int .i64))), (32, .ref 500013 1), (37, .d (.ty (.sl (.cons (.int .i64) (.cons (.int .i64) .nil))))), (38, .d (.ty (.int .i64))), (39, .d (.ty (.int .i64)))], [(500013, .box [.own 500014]), (500014, .arr (.cons (.int .i64) (.cons (.int .i64) .nil)))], []⟩ (.u (.n (.r .x) (.j ⟨[(1, .d (.ty (.int .i64))), (32, .ref 500002 1), (34, .ref 500003 2), (37, .d (.ty (.sl (.cons (.int .i64) (.cons (.int .i64) .nil))))), (38, .d (.ty (.int .i64))), (39, .d (.ty (.int .i64))), (50, .d (.ty .bool))], [(500002, .box [.own 500004]), (500003, .box [.d (.int .i64), .d (.int .i64)]), (500004, .arr (.cons (.int .i64) (.cons (.int .i64) .nil)))], []⟩ (.r .x) (.n (.ri .x [(55, 0, (.j ⟨[(1, .d (.ty (.int .i64))), (32, .ref 500005 1), (37, .d (.ty (.sl (.cons (.int .i64) (.cons (.int .i64) .nil))))), (38, .d (.ty (.int .i64))), (39, .d (.ty (.int .i64))), (58, .wrp (none, 39) [(500005, 1)])], [(500005, .box [.own 500006]), (500006, .arr (.cons (.int .i64) (.cons (.int .i64) .nil)))], []⟩ (.ri .x [(64, 0, (.n (.r .x) (.n (.r .x) (.n (.r (.w 7 [(1, 0), (1, 1), (0, 2), (0, 3), (0, 4), (3, 5), (2, 6)])) .e))))]) (.ri .x [(67, 0, (.n (.r .x) (.n (.r .x) .e))), (69, 0, (.u (.l ⟨[(1, .d (.ty (.int .i64))), (32, .ref 500007 1), (37, .d (.ty (.sl (.cons (.int .i64) (.cons (.int .i64) .nil))))), (38, .d (.ty (.int .i64))), (39, .d (.ty (.int .i64))), (70, .wrp (none, 39) [(500007, 1)]), (71, .d (.ty (.int .i64)))], [(500007, .box [.own 500008]), (500008, .arr (.cons (.int .i64) (.cons (.int .i64) .nil)))], []⟩ (.u (.n (.r .x) (.n (.j ⟨[(1, .d (.ty (.int .i64))), (32, .ref 500009 1), (37, .d (.ty (.sl (.cons (.int .i64) (.cons (.int .i64) .nil))))), (38, .d (.ty (.int .i64))), (39, .d (.ty (.int .i64))), (70, .wrp (none, 39) [(500009, 1)]), (71, .d (.ty (.int .i64))), (74, .d (.ty (.int .i64))), (87, .d (.ty .bool))], [(500009, .box [.own 500010]), (500010, .arr (.cons (.int .i64) (.cons (.int .i64) .nil)))], []⟩ (.ri .x [(85, 0, (.n (.r .x) (.n (.r (.qt 22)) .e)))]) (.n .e .e)) (.n (.ri .x [(91, 0, (.r (.w 14 [(1, 0), (1, 1), (1, 2), (1, 3), (1, 4), (1, 5), (0, 6), (0, 7), (1, 8), (1, 9), (0, 10), (0, 11), (0, 12), (2, 13)])))]) (.r .x))))))))])))]) .e)))) (.r .x))))))) (.n (.r .x) .e)))))]) (.n (.j ⟨[(5, .ref 500019 1), (22, .d (.ty .bool))], [(500019, .box [.own 500020]), (500020, .arr (.cons (.int .i64) (.cons (.int .i64) .nil)))], []⟩ (.r .x) (.n (.n (.r .x) .e) .e)) (.n (.r .x) .e))))
noncomputable def FT14 : List (Nat × Entry) := [(50, ⟨g50, sp50⟩), (49, ⟨g49, sp49⟩), (21, ⟨g21, sp21⟩)]
noncomputable def IT14 : List (Nat × Inl) := [(20, ⟨29, [.tmp 2], c20⟩), (25, ⟨12, [], c25⟩), (47, ⟨20, [], c47⟩), (21, ⟨5, [.tmp 2], c21⟩), (27, ⟨23, [], c27⟩), (45, ⟨32, [.tmp 6], c45⟩), (48, ⟨20, [], c48⟩)]
def MT14 : MTab := [((39, "Push"), (47, none)), ((39, "Len"), (21, some (false, 1))), ((39, "Less"), (45, some (false, 1))), ((39, "Swap"), (48, some (false, 1)))]
noncomputable def sh14_K1 (z1 : Bool × Unit × List (Int × Int × Unit) × Unit) : Option (Int × Unit) :=
  if z1.1 = true then some (0, ())
  else
    if inR 0 z1.2.2.1.length = true then
      if decide (Int.toNat 0 + 1 ≤ z1.2.2.1.length) = true then some ((z1.2.2.1.getD (Int.toNat 0) (0, 0, ())).1, ()) else none
    else none
noncomputable def sh14_K0 (z0 : Int × Unit × List (Int × Int × Unit) × Unit) : Option (Int × Unit) :=
  joinK sh14_K1 fun (j2 : Bool × Unit × List (Int × Int × Unit) × Unit → Option (Int × Unit)) =>
    (sp21 (z0.2.2.1, ())).bind fun (r3 : Int × Unit) =>
      if (r3.1 == 0) = true then j2 (true, (), z0.2.2.1, ())
      else
        if inR 0 z0.2.2.1.length = true then
          if decide (Int.toNat 0 + 1 ≤ z0.2.2.1.length) = true then j2 (decide (z0.1 < (z0.2.2.1.getD (Int.toNat 0) (0, 0, ())).2.1), (), z0.2.2.1, ())
          else none
        else none
noncomputable def sh14_K6 (rc5 : Int × List (Int × Int × Unit) × Int × Int × Unit × List (Int × Int × Unit) × Unit → Option (Int × Unit)) (z6 : Int × List (Int × Int × Unit) × Int × Int × Unit × List (Int × Int × Unit) × Unit) : Option (Int × Unit) :=
  rc5 (z6.1, z6.2.1, z6.2.2.1, IntKind.i64.wrap (z6.2.2.2.1 + 1), (), z6.2.2.2.2.2.1, ())
noncomputable def sh14_K11 (j7 : Int × List (Int × Int × Unit) × Int × Int × Unit × List (Int × Int × Unit) × Unit → Option (Int × Unit)) (rc10 : Int × List (Int × Int × Unit) × Int × Int × Int × Unit × List (Int × Int × Unit) × Unit → Option (Int × Unit)) (z11 : Int × List (Int × Int × Unit) × Int × Int × Int × Int × Bool × Unit × List (Int × Int × Unit) × Unit) : Option (Int × Unit) :=
  if z11.2.2.2.2.2.2.1 = true then j7 (z11.1, z11.2.1, z11.2.2.1, z11.2.2.2.1, (), z11.2.2.2.2.2.2.2.2.1, ())
  else
    if inR z11.2.2.2.2.1 z11.2.2.2.2.2.2.2.2.1.length = true then
      if decide (z11.2.2.2.2.1.toNat + 1 ≤ z11.2.2.2.2.2.2.2.2.1.length) = true then
        if inR z11.2.2.2.2.2.1 z11.2.2.2.2.2.2.2.2.1.length = true then
          if decide (z11.2.2.2.2.2.1.toNat + 1 ≤ z11.2.2.2.2.2.2.2.2.1.length) = true then
            if inR z11.2.2.2.2.2.1 z11.2.2.2.2.2.2.2.2.1.length = true then
              if decide (z11.2.2.2.2.2.1.toNat + 1 ≤ z11.2.2.2.2.2.2.2.2.1.length) = true then
                if
                    inR z11.2.2.2.2.1
                        (z11.2.2.2.2.2.2.2.2.1.set z11.2.2.2.2.2.1.toNat
                            ((z11.2.2.2.2.2.2.2.2.1.getD z11.2.2.2.2.1.toNat (0, 0, ())).1,
                              (z11.2.2.2.2.2.2.2.2.1.getD z11.2.2.2.2.1.toNat (0, 0, ())).2.1, ())).length =
                      true then
                  if
                      decide
                          (z11.2.2.2.2.1.toNat + 1 ≤
                            (z11.2.2.2.2.2.2.2.2.1.set z11.2.2.2.2.2.1.toNat
                                ((z11.2.2.2.2.2.2.2.2.1.getD z11.2.2.2.2.1.toNat (0, 0, ())).1,
                                  (z11.2.2.2.2.2.2.2.2.1.getD z11.2.2.2.2.1.toNat (0, 0, ())).2.1, ())).length) =
                        true then
                    rc10
                      (z11.1, z11.2.1, z11.2.2.1, z11.2.2.2.1, z11.2.2.2.2.2.1, (),
                        (z11.2.2.2.2.2.2.2.2.1.set z11.2.2.2.2.2.1.toNat
                              ((z11.2.2.2.2.2.2.2.2.1.getD z11.2.2.2.2.1.toNat (0, 0, ())).1,
                                (z11.2.2.2.2.2.2.2.2.1.getD z11.2.2.2.2.1.toNat (0, 0, ())).2.1, ())).set
                          z11.2.2.2.2.1.toNat
                          ((z11.2.2.2.2.2.2.2.2.1.getD z11.2.2.2.2.2.1.toNat (0, 0, ())).1,
                            (z11.2.2.2.2.2.2.2.2.1.getD z11.2.2.2.2.2.1.toNat (0, 0, ())).2.1, ()),
                        ())
                  else none
                else none
              else none
            else none
          else none
        else none
      else none
    else none
noncomputable def sh14_L10 (j7 : Int × List (Int × Int × Unit) × Int × Int × Unit × List (Int × Int × Unit) × Unit → Option (Int × Unit)) (rc10 : Int × List (Int × Int × Unit) × Int × Int × Int × Unit × List (Int × Int × Unit) × Unit → Option (Int × Unit)) (z10 : Int × List (Int × Int × Unit) × Int × Int × Int × Unit × List (Int × Int × Unit) × Unit) : Option (Int × Unit) :=
  if (2 != 0) = true then
    joinK (sh14_K11 j7 rc10)
      fun (j12 : Int × List (Int × Int × Unit) × Int × Int × Int × Int × Bool × Unit × List (Int × Int × Unit) × Unit → Option (Int × Unit)) =>
      if (IntKind.i64.wrap ((IntKind.i64.wrap (z10.2.2.2.2.1 - 1)).tdiv 2) == z10.2.2.2.2.1) = true then
        j12
          (z10.1, z10.2.1, z10.2.2.1, z10.2.2.2.1, z10.2.2.2.2.1, IntKind.i64.wrap ((IntKind.i64.wrap (z10.2.2.2.2.1 - 1)).tdiv 2), true, (),
            z10.2.2.2.2.2.2.1, ())
      else
        if inR z10.2.2.2.2.1 z10.2.2.2.2.2.2.1.length = true then
          if decide (z10.2.2.2.2.1.toNat + 1 ≤ z10.2.2.2.2.2.2.1.length) = true then
            if inR (IntKind.i64.wrap ((IntKind.i64.wrap (z10.2.2.2.2.1 - 1)).tdiv 2)) z10.2.2.2.2.2.2.1.length = true then
              if decide ((IntKind.i64.wrap ((IntKind.i64.wrap (z10.2.2.2.2.1 - 1)).tdiv 2)).toNat + 1 ≤ z10.2.2.2.2.2.2.1.length) = true then
                (sp50
                      ((z10.2.2.2.2.2.2.1.getD z10.2.2.2.2.1.toNat (0, 0, ())).2.1,
                        (z10.2.2.2.2.2.2.1.getD (IntKind.i64.wrap ((IntKind.i64.wrap (z10.2.2.2.2.1 - 1)).tdiv 2)).toNat (0, 0, ())).2.1, ())).bind
                  fun (r13 : Int × Unit) =>
                  if inR z10.2.2.2.2.1 z10.2.2.2.2.2.2.1.length = true then
                    if decide (z10.2.2.2.2.1.toNat + 1 ≤ z10.2.2.2.2.2.2.1.length) = true then
                      if inR (IntKind.i64.wrap ((IntKind.i64.wrap (z10.2.2.2.2.1 - 1)).tdiv 2)) z10.2.2.2.2.2.2.1.length = true then
                        if decide ((IntKind.i64.wrap ((IntKind.i64.wrap (z10.2.2.2.2.1 - 1)).tdiv 2)).toNat + 1 ≤ z10.2.2.2.2.2.2.1.length) = true then
                          (sp50
                                ((z10.2.2.2.2.2.2.1.getD z10.2.2.2.2.1.toNat (0, 0, ())).1,
                                  (z10.2.2.2.2.2.2.1.getD (IntKind.i64.wrap ((IntKind.i64.wrap (z10.2.2.2.2.1 - 1)).tdiv 2)).toNat (0, 0, ())).1,
                                  ())).bind
                            fun (r14 : Int × Unit) =>
                            (sp49 ([(r13.1, ()), (r14.1, ())], ())).bind fun (r15 : Int × Unit) =>
                              j12
                                (z10.1, z10.2.1, z10.2.2.1, z10.2.2.2.1, z10.2.2.2.2.1,
                                  IntKind.i64.wrap ((IntKind.i64.wrap (z10.2.2.2.2.1 - 1)).tdiv 2), !decide (r15.1 < 0), (), z10.2.2.2.2.2.2.1, ())
                        else none
                      else none
                    else none
                  else none
              else none
            else none
          else none
        else none
  else none
noncomputable def sh14_K9 (fuel : Nat) (j7 : Int × List (Int × Int × Unit) × Int × Int × Unit × List (Int × Int × Unit) × Unit → Option (Int × Unit)) (z9 : Int × List (Int × Int × Unit) × Int × Int × Unit × List (Int × Int × Unit) × Unit) : Option (Int × Unit) :=
  iter fuel (sh14_L10 j7) (z9.1, z9.2.1, z9.2.2.1, z9.2.2.2.1, IntKind.i64.wrap ((↑z9.2.2.2.2.2.1.length : Int) - 1), (), z9.2.2.2.2.2.1, ())
noncomputable def sh14_K8 (fuel : Nat) (j7 : Int × List (Int × Int × Unit) × Int × Int × Unit × List (Int × Int × Unit) × Unit → Option (Int × Unit)) (z8 : Int × List (Int × Int × Unit) × Int × Int × Bool × Unit × (Int × Int × Unit) × List (Int × Int × Unit) × Unit) : Option (Int × Unit) :=
  if z8.2.2.2.2.1 = true then
    joinK (sh14_K9 fuel j7) fun (j16 : Int × List (Int × Int × Unit) × Int × Int × Unit × List (Int × Int × Unit) × Unit → Option (Int × Unit)) =>
      if decide (z8.2.2.2.2.2.2.2.1.length + [(z8.2.2.2.2.2.2.1.1, z8.2.2.2.2.2.2.1.2.1, ())].length ≤ Abs.lim) = true then
        if decide ((z8.2.2.2.2.2.2.2.1.length + [(z8.2.2.2.2.2.2.1.1, z8.2.2.2.2.2.2.1.2.1, ())].length) * 16 ≤ Abs.lim) = true then
          j16 (z8.1, z8.2.1, z8.2.2.1, z8.2.2.2.1, (), z8.2.2.2.2.2.2.2.1 ++ [(z8.2.2.2.2.2.2.1.1, z8.2.2.2.2.2.2.1.2.1, ())], ())
        else none
      else none
  else j7 (z8.1, z8.2.1, z8.2.2.1, z8.2.2.2.1, (), z8.2.2.2.2.2.2.2.1, ())
noncomputable def sh14_L5 (fuel : Nat) (j4 : Int × Unit × List (Int × Int × Unit) × Unit → Option (Int × Unit)) (rc5 : Int × List (Int × Int × Unit) × Int × Int × Unit × List (Int × Int × Unit) × Unit → Option (Int × Unit)) (z5 : Int × List (Int × Int × Unit) × Int × Int × Unit × List (Int × Int × Unit) × Unit) : Option (Int × Unit) :=
  if decide (z5.2.2.2.1 < z5.2.2.1) = true then
    joinK (sh14_K6 rc5) fun (j7 : Int × List (Int × Int × Unit) × Int × Int × Unit × List (Int × Int × Unit) × Unit → Option (Int × Unit)) =>
      if inR z5.2.2.2.1 z5.2.1.length = true then
        joinK (sh14_K8 fuel j7)
          fun
            (j17 :
              Int × List (Int × Int × Unit) × Int × Int × Bool × Unit × (Int × Int × Unit) × List (Int × Int × Unit) × Unit → Option (Int × Unit)) =>
          if decide (1 ≤ (lAt (0, 0, ()) z5.2.1 z5.2.2.2.1).1) = true then
            j17
              (z5.1, z5.2.1, z5.2.2.1, z5.2.2.2.1, decide ((lAt (0, 0, ()) z5.2.1 z5.2.2.2.1).1 ≤ 40), (),
                ((lAt (0, 0, ()) z5.2.1 z5.2.2.2.1).1, (lAt (0, 0, ()) z5.2.1 z5.2.2.2.1).2.1, ()), z5.2.2.2.2.2.1, ())
          else
            j17
              (z5.1, z5.2.1, z5.2.2.1, z5.2.2.2.1, false, (), ((lAt (0, 0, ()) z5.2.1 z5.2.2.2.1).1, (lAt (0, 0, ()) z5.2.1 z5.2.2.2.1).2.1, ()),
                z5.2.2.2.2.2.1, ())
      else none
  else j4 (z5.1, (), z5.2.2.2.2.2.1, ())
noncomputable def sh14 (fuel : Nat) (x0 : List (Int × Int × Unit)) (x1 : Int) : Option (Int × Unit) :=
  joinK sh14_K0 fun (j4 : Int × Unit × List (Int × Int × Unit) × Unit → Option (Int × Unit)) =>
    iter fuel (sh14_L5 fuel j4) (x1, x0, (↑x0.length : Int), 0, (), [], ())
def flt (l : List E) : List E := l.filter fun e => decide (1 ≤ e.1) && decide (e.1 ≤ 40)
def nextI (l : List E) (now : Int) : Int := match srt (flt l) with
  | [] => 0
  | e :: _ => if now < e.2.1 then 0 else e.1
noncomputable def sp14 (x : List (Int × Int × Unit) × Int × Unit) : Option (Int × Unit) := if x.1.length ≤ 1000000 then some (nextI x.1 x.2.1, ()) else none
noncomputable def c26 : Code := Try.f26.body.getD .skip
noncomputable def c46 : Code := Try.f46.body.getD .skip
noncomputable def c22 : Code := Try.f22.body.getD .skip
/-! 12 baggage/early.Rank -/
noncomputable def c12 : Code := Try.f12.body.getD .skip
def g12 : Sig := ⟨[.v (.ty (.sl (.cons (.int .i64) (.cons (.int .i64) .nil))))], .own (.cons (.int .i64) .nil)⟩
def h12 : HT := (.n (.r .x) (.n (.r .x) (.j ⟨[(3, .own 500052)], [(500052, .arr (.cons (.int .i64) .nil))], []⟩ (.n (.ri .x [(6, 0, (.n (.r .x) (.n (.r .x) (.j ⟨[(3, .own 500025), (28, .ref 500026 1)], [(500026, .box [.own 500027]), (500025, .arr (.cons (.int .i64) .nil)), (500027, .arr (.cons (.int .i64) (.cons (.int .i64) .nil)))], []⟩ (.n (.r .x) (.u (.l ⟨[(3, .own 500000), (28, .ref 500001 1), (33, .d (.ty (.sl (.cons (.int .i64) (.cons (.int .i64) .nil))))), (34, .d (.ty (.int .i64))), (35, .d (.ty (.int .i64)))], [(500001, .box [.own 500002]), (500000, .arr (.cons (.int .i64) .nil)), (500002, .arr (.cons (.int .i64) (.cons (.int .i64) .nil)))], []⟩ (.n (.r .x) (.n (.n .e .e) (.j ⟨[(3, .own 500019), (28, .ref 500020 1), (33, .d (.ty (.sl (.cons (.int .i64) (.cons (.int .i64) .nil))))), (34, .d (.ty (.int .i64))), (35, .d (.ty (.int .i64)))], [(500020, .box [.own 500021]), (500019, .arr (.cons (.int .i64) .nil)), (500021, .arr (.cons (.int .i64) (.cons (.int .i64) .nil)))], []⟩ (.u (.n (.r .x) (.j ⟨[(3, .own 500003), (28, .ref 500004 1), (30, .ref 500005 2), (33, .d (.ty (.sl (.cons (.int .i64) (.cons (.int .i64) .nil))))), (34, .d (.ty (.int .i64))), (35, .d (.ty (.int .i64))), (46, .d (.ty .bool))], [(500004, .box [.own 500006]), (500005, .box [.d (.int .i64), .d (.int .i64)]), (500003, .arr (.cons (.int .i64) .nil)), (500006, .arr (.cons (.int .i64) (.cons (.int .i64) .nil)))], []⟩ (.r .x) (.n (.ri .x [(51, 0, (.j ⟨[(3, .own 500007), (28, .ref 500008 1), (33, .d (.ty (.sl (.cons (.int .i64) (.cons (.int .i64) .nil))))), (34, .d (.ty (.int .i64))), (35, .d (.ty (.int .i64))), (54, .wrp (none, 39) [(500008, 1)])], [(500008, .box [.own 500009]), (500007, .arr (.cons (.int .i64) .nil)), (500009, .arr (.cons (.int .i64) (.cons (.int .i64) .nil)))], []⟩ (.ri .x [(60, 0, (.n (.r .x) (.n (.r .x) (.n (.r (.w 7 [(1, 0), (1, 1), (0, 2), (0, 3), (0, 4), (3, 5), (2, 6)])) .e))))]) (.ri .x [(63, 0, (.n (.r .x) (.n (.r .x) .e))), (65, 0, (.u (.l ⟨[(3, .own 500010), (28, .ref 500011 1), (33, .d (.ty (.sl (.cons (.int .i64) (.cons (.int .i64) .nil))))), (34, .d (.ty (.int .i64))), (35, .d (.ty (.int .i64))), (66, .wrp (none, 39) [(500011, 1)]), (67, .d (.ty (.int .i64)))], [(500011, .box [.own 500012]), (500010, .arr (.cons (.int .i64) .nil)), (500012, .arr (.cons (.int .i64) (.cons (.int .i64) .nil)))], []⟩ (.u (.n (.r .x) (.n (.j ⟨[(3, .own 500013), (28, .ref 500014 1), (33, .d (.ty (.sl (.cons (.int .i64) (.cons (.int .i64) .nil))))), (34, .d (.ty (.int .i64))), (35, .d (.ty (.int .i64))), (66, .wrp (none, 39) [(500014, 1)]), (67, .d (.ty (.int .i64))), (70, .d (.ty (.int .i64))), (83, .d (.ty .bool))], [(500014, .box [.own 500015]), (500013, .arr (.cons (.int .i64) .nil)), (500015, .arr (.cons (.int .i64) (.cons (.int .i64) .nil)))], []⟩ (.ri .x [(81, 0, (.n (.r .x) (.n (.r (.qt 22)) .e)))]) (.n .e .e)) (.n (.ri .x [(87, 0, (.r (.w 14 [(1, 0), (1, 1), (1, 2), (1, 3), (1, 4), (1, 5), (0, 6), (0, 7), (1, 8), (1, 9), (0, 10), (0, 11), (0, 12), (2, 13)])))]) (.r .x))))))))])))]) .e)))) (.r .x))))))) (.n (.r .x) .e)))))]) (.u (.l ⟨[(3, .own 500028), (4, .ref 500029 1)], [(500029, .box [.own 500030]), (500028, .arr (.cons (.int .i64) .nil)), (500030, .arr (.cons (.int .i64) (.cons (.int .i64) .nil)))], [(500047, 0)]⟩ (.n (.n (.r .x) (.n .e .e)) (.u (.n (.r .x) (.ri .x [(23, 0, (.n (.r .x) (.n (.ri .x [(30, 0, (.n (.r .x) (.n (.r .x) .e)))]) (.n (.ri .x [(34, 0, (.r (.w 14 [(1, 0), (1, 1), (1, 2), (1, 3), (1, 4), (1, 5), (0, 6), (0, 7), (1, 8), (1, 9), (0, 10), (0, 11), (0, 12), (2, 13)])))]) (.n (.ri .x [(37, 0, (.n (.r .x) (.n (.r .x) (.j ⟨[(3, .own 500046), (4, .ref 500047 1), (25, .wrp (none, 39) [(500047, 1)]), (41, .d (.ty (.int .i64))), (47, .d (.ty (.int .i64)))], [(500047, .box [.own 500048]), (500046, .arr (.cons (.int .i64) .nil)), (500048, .arr (.cons (.int .i64) (.cons (.int .i64) .nil)))], []⟩ (.u (.l ⟨[(3, .own 500031), (4, .ref 500032 1), (25, .wrp (none, 39) [(500032, 1)]), (40, .wrp (none, 39) [(500032, 1)]), (41, .d (.ty (.int .i64))), (42, .d (.ty (.int .i64))), (47, .d (.ty (.int .i64)))], [(500032, .box [.own 500033]), (500031, .arr (.cons (.int .i64) .nil)), (500033, .arr (.cons (.int .i64) (.cons (.int .i64) .nil)))], []⟩ (.u (.n (.r .x) (.n (.j ⟨[(3, .own 500034), (4, .ref 500035 1), (25, .wrp (none, 39) [(500035, 1)]), (40, .wrp (none, 39) [(500035, 1)]), (41, .d (.ty (.int .i64))), (42, .d (.ty (.int .i64))), (47, .d (.ty (.int .i64))), (48, .d (.ty (.int .i64))), (61, .d (.ty .bool))], [(500035, .box [.own 500036]), (500034, .arr (.cons (.int .i64) .nil)), (500036, .arr (.cons (.int .i64) (.cons (.int .i64) .nil)))], []⟩ (.r .x) (.n .e .e)) (.n (.r .x) (.j ⟨[(3, .own 500040), (4, .ref 500041 1), (25, .wrp (none, 39) [(500041, 1)]), (40, .wrp (none, 39) [(500041, 1)]), (41, .d (.ty (.int .i64))), (42, .d (.ty (.int .i64))), (47, .d (.ty (.int .i64))), (49, .d (.ty (.int .i64)))], [(500041, .box [.own 500042]), (500040, .arr (.cons (.int .i64) .nil)), (500042, .arr (.cons (.int .i64) (.cons (.int .i64) .nil)))], []⟩ (.n (.r .x) (.j ⟨[(3, .own 500037), (4, .ref 500038 1), (25, .wrp (none, 39) [(500038, 1)]), (40, .wrp (none, 39) [(500038, 1)]), (41, .d (.ty (.int .i64))), (42, .d (.ty (.int .i64))), (47, .d (.ty (.int .i64))), (49, .d (.ty (.int .i64))), (50, .d (.ty (.int .i64))), (73, .d (.ty .bool))], [(500038, .box [.own 500039]), (500037, .arr (.cons (.int .i64) .nil)), (500039, .arr (.cons (.int .i64) (.cons (.int .i64) .nil)))], []⟩ (.ri .x [(72, 0, (.n (.r .x) (.n (.r (.qt 22)) .e)))]) (.n (.r .x) .e))) (.n (.n (.ri .x [(78, 0, (.n (.r .x) (.n (.r (.qt 22)) .e)))]) (.n .e .e)) (.n (.ri .x [(83, 0, (.r (.w 14 [(1, 0), (1, 1), (1, 2), (1, 3), (1, 4), (1, 5), (0, 6), (0, 7), (1, 8), (1, 9), (0, 10), (0, 11), (0, 12), (2, 13)])))]) (.r .x)))))))))) (.n (.r .x) .e)))))]) (.n (.ri .x [(39, 0, (.n (.r .x) (.n (.r .x) (.n (.r .x) (.n (.r .x) (.n (.r .x) .e))))))]) .e))))))]))))))) (.n (.r .x) .e))))
noncomputable def FT12 : List (Nat × Entry) := [(50, ⟨g50, sp50⟩), (49, ⟨g49, sp49⟩), (21, ⟨g21, sp21⟩)]
noncomputable def IT12 : List (Nat × Inl) := [(20, ⟨29, [.tmp 2], c20⟩), (25, ⟨12, [], c25⟩), (47, ⟨20, [], c47⟩), (21, ⟨5, [.tmp 2], c21⟩), (27, ⟨23, [], c27⟩), (45, ⟨32, [.tmp 6], c45⟩), (48, ⟨20, [], c48⟩), (22, ⟨15, [.tmp 2], c22⟩), (26, ⟨48, [.tmp 6], c26⟩), (46, ⟨25, [.tmp 2], c46⟩)]
def MT12 : MTab := [((39, "Push"), (47, none)), ((39, "Len"), (21, some (false, 1))), ((39, "Less"), (45, some (false, 1))), ((39, "Swap"), (48, some (false, 1))), ((39, "Pop"), (46, none))]
noncomputable def sh12_K0 (z0 : List (Int × Unit) × Unit) : Option (List (Int × Unit) × Unit) :=
  some (z0.1, ())
noncomputable def sh12_K5 (rc3 : Unit × List (Int × Unit) × List (Int × Int × Unit) × Unit → Option (List (Int × Unit) × Unit)) (z5 : Int × Int × Unit × List (Int × Unit) × List (Int × Int × Unit) × Unit) : Option (List (Int × Unit) × Unit) :=
  if inR (IntKind.i64.wrap ((↑z5.2.2.2.2.1.length : Int) - 1)) z5.2.2.2.2.1.length = true then
    if decide ((IntKind.i64.wrap ((↑z5.2.2.2.2.1.length : Int) - 1)).toNat + 1 ≤ z5.2.2.2.2.1.length) = true then
      if inCut 0 (IntKind.i64.wrap ((↑z5.2.2.2.2.1.length : Int) - 1)) z5.2.2.2.2.1.length = true then
        if decide (Int.toNat 0 = 0) = true then
          if decide ((IntKind.i64.wrap ((↑z5.2.2.2.2.1.length : Int) - 1)).toNat - Int.toNat 0 ≤ z5.2.2.2.2.1.length) = true then
            rc3 ((), z5.2.2.2.1, List.take ((IntKind.i64.wrap ((↑z5.2.2.2.2.1.length : Int) - 1)).toNat - Int.toNat 0) (List.drop 0 z5.2.2.2.2.1), ())
          else none
        else none
      else none
    else none
  else none
noncomputable def sh12_K9 (j6 : Int × Int × Unit × List (Int × Unit) × List (Int × Int × Unit) × Unit → Option (List (Int × Unit) × Unit)) (rc7 : Int × Int × Int × Unit × List (Int × Unit) × List (Int × Int × Unit) × Unit → Option (List (Int × Unit) × Unit)) (z9 : Int × Int × Int × Int × Unit × List (Int × Unit) × List (Int × Int × Unit) × Unit) : Option (List (Int × Unit) × Unit) :=
  if inR z9.2.2.2.1 z9.2.2.2.2.2.2.1.length = true then
    if decide (z9.2.2.2.1.toNat + 1 ≤ z9.2.2.2.2.2.2.1.length) = true then
      if inR z9.2.2.1 z9.2.2.2.2.2.2.1.length = true then
        if decide (z9.2.2.1.toNat + 1 ≤ z9.2.2.2.2.2.2.1.length) = true then
          (sp50 ((z9.2.2.2.2.2.2.1.getD z9.2.2.2.1.toNat (0, 0, ())).2.1, (z9.2.2.2.2.2.2.1.getD z9.2.2.1.toNat (0, 0, ())).2.1, ())).bind
            fun (r10 : Int × Unit) =>
            if inR z9.2.2.2.1 z9.2.2.2.2.2.2.1.length = true then
              if decide (z9.2.2.2.1.toNat + 1 ≤ z9.2.2.2.2.2.2.1.length) = true then
                if inR z9.2.2.1 z9.2.2.2.2.2.2.1.length = true then
                  if decide (z9.2.2.1.toNat + 1 ≤ z9.2.2.2.2.2.2.1.length) = true then
                    (sp50 ((z9.2.2.2.2.2.2.1.getD z9.2.2.2.1.toNat (0, 0, ())).1, (z9.2.2.2.2.2.2.1.getD z9.2.2.1.toNat (0, 0, ())).1, ())).bind
                      fun (r11 : Int × Unit) =>
                      (sp49 ([(r10.1, ()), (r11.1, ())], ())).bind fun (r12 : Int × Unit) =>
                        if (!decide (r12.1 < 0)) = true then j6 (z9.1, z9.2.2.1, (), z9.2.2.2.2.2.1, z9.2.2.2.2.2.2.1, ())
                        else
                          if inR z9.2.2.2.1 z9.2.2.2.2.2.2.1.length = true then
                            if decide (z9.2.2.2.1.toNat + 1 ≤ z9.2.2.2.2.2.2.1.length) = true then
                              if inR z9.2.2.1 z9.2.2.2.2.2.2.1.length = true then
                                if decide (z9.2.2.1.toNat + 1 ≤ z9.2.2.2.2.2.2.1.length) = true then
                                  if inR z9.2.2.1 z9.2.2.2.2.2.2.1.length = true then
                                    if decide (z9.2.2.1.toNat + 1 ≤ z9.2.2.2.2.2.2.1.length) = true then
                                      if
                                          inR z9.2.2.2.1
                                              (z9.2.2.2.2.2.2.1.set z9.2.2.1.toNat
                                                  ((z9.2.2.2.2.2.2.1.getD z9.2.2.2.1.toNat (0, 0, ())).1,
                                                    (z9.2.2.2.2.2.2.1.getD z9.2.2.2.1.toNat (0, 0, ())).2.1, ())).length =
                                            true then
                                        if
                                            decide
                                                (z9.2.2.2.1.toNat + 1 ≤
                                                  (z9.2.2.2.2.2.2.1.set z9.2.2.1.toNat
                                                      ((z9.2.2.2.2.2.2.1.getD z9.2.2.2.1.toNat (0, 0, ())).1,
                                                        (z9.2.2.2.2.2.2.1.getD z9.2.2.2.1.toNat (0, 0, ())).2.1, ())).length) =
                                              true then
                                          rc7
                                            (z9.1, z9.2.1, z9.2.2.2.1, (), z9.2.2.2.2.2.1,
                                              (z9.2.2.2.2.2.2.1.set z9.2.2.1.toNat
                                                    ((z9.2.2.2.2.2.2.1.getD z9.2.2.2.1.toNat (0, 0, ())).1,
                                                      (z9.2.2.2.2.2.2.1.getD z9.2.2.2.1.toNat (0, 0, ())).2.1, ())).set
                                                z9.2.2.2.1.toNat
                                                ((z9.2.2.2.2.2.2.1.getD z9.2.2.1.toNat (0, 0, ())).1,
                                                  (z9.2.2.2.2.2.2.1.getD z9.2.2.1.toNat (0, 0, ())).2.1, ()),
                                              ())
                                        else none
                                      else none
                                    else none
                                  else none
                                else none
                              else none
                            else none
                          else none
                  else none
                else none
              else none
            else none
        else none
      else none
    else none
  else none
noncomputable def sh12_K14 (j13 : Int × Int × Int × Int × Unit × List (Int × Unit) × List (Int × Int × Unit) × Unit → Option (List (Int × Unit) × Unit)) (z14 : Int × Int × Int × Int × Int × Bool × Unit × List (Int × Unit) × List (Int × Int × Unit) × Unit) : Option (List (Int × Unit) × Unit) :=
  if z14.2.2.2.2.2.1 = true then j13 (z14.1, z14.2.1, z14.2.2.1, z14.2.2.2.2.1, (), z14.2.2.2.2.2.2.2.1, z14.2.2.2.2.2.2.2.2.1, ())
  else j13 (z14.1, z14.2.1, z14.2.2.1, z14.2.2.2.1, (), z14.2.2.2.2.2.2.2.1, z14.2.2.2.2.2.2.2.2.1, ())
noncomputable def sh12_K8 (j6 : Int × Int × Unit × List (Int × Unit) × List (Int × Int × Unit) × Unit → Option (List (Int × Unit) × Unit)) (rc7 : Int × Int × Int × Unit × List (Int × Unit) × List (Int × Int × Unit) × Unit → Option (List (Int × Unit) × Unit)) (z8 : Int × Int × Int × Int × Bool × Unit × List (Int × Unit) × List (Int × Int × Unit) × Unit) : Option (List (Int × Unit) × Unit) :=
  if z8.2.2.2.2.1 = true then j6 (z8.1, z8.2.2.1, (), z8.2.2.2.2.2.2.1, z8.2.2.2.2.2.2.2.1, ())
  else
    joinK (sh12_K9 j6 rc7)
      fun (j13 : Int × Int × Int × Int × Unit × List (Int × Unit) × List (Int × Int × Unit) × Unit → Option (List (Int × Unit) × Unit)) =>
      joinK (sh12_K14 j13)
        fun
          (j15 : Int × Int × Int × Int × Int × Bool × Unit × List (Int × Unit) × List (Int × Int × Unit) × Unit → Option (List (Int × Unit) × Unit)) =>
        if decide (IntKind.i64.wrap (z8.2.2.2.1 + 1) < z8.2.1) = true then
          if inR (IntKind.i64.wrap (z8.2.2.2.1 + 1)) z8.2.2.2.2.2.2.2.1.length = true then
            if decide ((IntKind.i64.wrap (z8.2.2.2.1 + 1)).toNat + 1 ≤ z8.2.2.2.2.2.2.2.1.length) = true then
              if inR z8.2.2.2.1 z8.2.2.2.2.2.2.2.1.length = true then
                if decide (z8.2.2.2.1.toNat + 1 ≤ z8.2.2.2.2.2.2.2.1.length) = true then
                  (sp50
                        ((z8.2.2.2.2.2.2.2.1.getD (IntKind.i64.wrap (z8.2.2.2.1 + 1)).toNat (0, 0, ())).2.1,
                          (z8.2.2.2.2.2.2.2.1.getD z8.2.2.2.1.toNat (0, 0, ())).2.1, ())).bind
                    fun (r16 : Int × Unit) =>
                    if inR (IntKind.i64.wrap (z8.2.2.2.1 + 1)) z8.2.2.2.2.2.2.2.1.length = true then
                      if decide ((IntKind.i64.wrap (z8.2.2.2.1 + 1)).toNat + 1 ≤ z8.2.2.2.2.2.2.2.1.length) = true then
                        if inR z8.2.2.2.1 z8.2.2.2.2.2.2.2.1.length = true then
                          if decide (z8.2.2.2.1.toNat + 1 ≤ z8.2.2.2.2.2.2.2.1.length) = true then
                            (sp50
                                  ((z8.2.2.2.2.2.2.2.1.getD (IntKind.i64.wrap (z8.2.2.2.1 + 1)).toNat (0, 0, ())).1,
                                    (z8.2.2.2.2.2.2.2.1.getD z8.2.2.2.1.toNat (0, 0, ())).1, ())).bind
                              fun (r17 : Int × Unit) =>
                              (sp49 ([(r16.1, ()), (r17.1, ())], ())).bind fun (r18 : Int × Unit) =>
                                j15
                                  (z8.1, z8.2.1, z8.2.2.1, z8.2.2.2.1, IntKind.i64.wrap (z8.2.2.2.1 + 1), decide (r18.1 < 0), (), z8.2.2.2.2.2.2.1,
                                    z8.2.2.2.2.2.2.2.1, ())
                          else none
                        else none
                      else none
                    else none
                else none
              else none
            else none
          else none
        else j15 (z8.1, z8.2.1, z8.2.2.1, z8.2.2.2.1, IntKind.i64.wrap (z8.2.2.2.1 + 1), false, (), z8.2.2.2.2.2.2.1, z8.2.2.2.2.2.2.2.1, ())
noncomputable def sh12_L7 (j6 : Int × Int × Unit × List (Int × Unit) × List (Int × Int × Unit) × Unit → Option (List (Int × Unit) × Unit)) (rc7 : Int × Int × Int × Unit × List (Int × Unit) × List (Int × Int × Unit) × Unit → Option (List (Int × Unit) × Unit)) (z7 : Int × Int × Int × Unit × List (Int × Unit) × List (Int × Int × Unit) × Unit) : Option (List (Int × Unit) × Unit) :=
  joinK (sh12_K8 j6 rc7)
    fun (j19 : Int × Int × Int × Int × Bool × Unit × List (Int × Unit) × List (Int × Int × Unit) × Unit → Option (List (Int × Unit) × Unit)) =>
    if decide (z7.2.1 ≤ IntKind.i64.wrap (IntKind.i64.wrap (2 * z7.2.2.1) + 1)) = true then
      j19 (z7.1, z7.2.1, z7.2.2.1, IntKind.i64.wrap (IntKind.i64.wrap (2 * z7.2.2.1) + 1), true, (), z7.2.2.2.2.1, z7.2.2.2.2.2.1, ())
    else
      j19
        (z7.1, z7.2.1, z7.2.2.1, IntKind.i64.wrap (IntKind.i64.wrap (2 * z7.2.2.1) + 1),
          decide (IntKind.i64.wrap (IntKind.i64.wrap (2 * z7.2.2.1) + 1) < 0), (), z7.2.2.2.2.1, z7.2.2.2.2.2.1, ())
noncomputable def sh12_L3 (fuel : Nat) (j1 : List (Int × Unit) × Unit → Option (List (Int × Unit) × Unit)) (rc3 : Unit × List (Int × Unit) × List (Int × Int × Unit) × Unit → Option (List (Int × Unit) × Unit)) (z3 : Unit × List (Int × Unit) × List (Int × Int × Unit) × Unit) : Option (List (Int × Unit) × Unit) :=
  (sp21 (z3.2.2.1, ())).bind fun (r4 : Int × Unit) =>
    if decide (0 < r4.1) = true then
      if inR 0 z3.2.2.1.length = true then
        if decide (Int.toNat 0 + 1 ≤ z3.2.2.1.length) = true then
          if decide (z3.2.1.length + [((z3.2.2.1.getD (Int.toNat 0) (0, 0, ())).1, ())].length ≤ Abs.lim) = true then
            if decide ((z3.2.1.length + [((z3.2.2.1.getD (Int.toNat 0) (0, 0, ())).1, ())].length) * 8 ≤ Abs.lim) = true then
              if inR (IntKind.i64.wrap ((↑z3.2.2.1.length : Int) - 1)) z3.2.2.1.length = true then
                if decide ((IntKind.i64.wrap ((↑z3.2.2.1.length : Int) - 1)).toNat + 1 ≤ z3.2.2.1.length) = true then
                  if inR 0 z3.2.2.1.length = true then
                    if decide (Int.toNat 0 + 1 ≤ z3.2.2.1.length) = true then
                      if inR 0 z3.2.2.1.length = true then
                        if decide (Int.toNat 0 + 1 ≤ z3.2.2.1.length) = true then
                          if
                              inR (IntKind.i64.wrap ((↑z3.2.2.1.length : Int) - 1))
                                  (z3.2.2.1.set (Int.toNat 0)
                                      ((z3.2.2.1.getD (IntKind.i64.wrap ((↑z3.2.2.1.length : Int) - 1)).toNat (0, 0, ())).1,
                                        (z3.2.2.1.getD (IntKind.i64.wrap ((↑z3.2.2.1.length : Int) - 1)).toNat (0, 0, ())).2.1, ())).length =
                                true then
                            if
                                decide
                                    ((IntKind.i64.wrap ((↑z3.2.2.1.length : Int) - 1)).toNat + 1 ≤
                                      (z3.2.2.1.set (Int.toNat 0)
                                          ((z3.2.2.1.getD (IntKind.i64.wrap ((↑z3.2.2.1.length : Int) - 1)).toNat (0, 0, ())).1,
                                            (z3.2.2.1.getD (IntKind.i64.wrap ((↑z3.2.2.1.length : Int) - 1)).toNat (0, 0, ())).2.1, ())).length) =
                                  true then
                              joinK (sh12_K5 rc3)
                                fun (j6 : Int × Int × Unit × List (Int × Unit) × List (Int × Int × Unit) × Unit → Option (List (Int × Unit) × Unit)) =>
                                iter fuel (sh12_L7 j6)
                                  (0, IntKind.i64.wrap ((↑z3.2.2.1.length : Int) - 1), 0, (),
                                    z3.2.1 ++ [((z3.2.2.1.getD (Int.toNat 0) (0, 0, ())).1, ())],
                                    (z3.2.2.1.set (Int.toNat 0)
                                          ((z3.2.2.1.getD (IntKind.i64.wrap ((↑z3.2.2.1.length : Int) - 1)).toNat (0, 0, ())).1,
                                            (z3.2.2.1.getD (IntKind.i64.wrap ((↑z3.2.2.1.length : Int) - 1)).toNat (0, 0, ())).2.1, ())).set
                                      (IntKind.i64.wrap ((↑z3.2.2.1.length : Int) - 1)).toNat
                                      ((z3.2.2.1.getD (Int.toNat 0) (0, 0, ())).1, (z3.2.2.1.getD (Int.toNat 0) (0, 0, ())).2.1, ()),
                                    ())
                            else none
                          else none
                        else none
                      else none
                    else none
                  else none
                else none
              else none
            else none
          else none
        else none
      else none
    else j1 (z3.2.1, ())
noncomputable def sh12_K2 (fuel : Nat) (j1 : List (Int × Unit) × Unit → Option (List (Int × Unit) × Unit)) (z2 : Unit × List (Int × Unit) × List (Int × Int × Unit) × Unit) : Option (List (Int × Unit) × Unit) :=
  iter fuel (sh12_L3 fuel j1) ((), z2.2.1, z2.2.2.1, ())
noncomputable def sh12_K22 (rc21 : List (Int × Int × Unit) × Int × Int × Unit × List (Int × Unit) × List (Int × Int × Unit) × Unit → Option (List (Int × Unit) × Unit)) (z22 : List (Int × Int × Unit) × Int × Int × Unit × List (Int × Unit) × List (Int × Int × Unit) × Unit) : Option (List (Int × Unit) × Unit) :=
  rc21 (z22.1, z22.2.1, IntKind.i64.wrap (z22.2.2.1 + 1), (), z22.2.2.2.2.1, z22.2.2.2.2.2.1, ())
noncomputable def sh12_K27 (j23 : List (Int × Int × Unit) × Int × Int × Unit × List (Int × Unit) × List (Int × Int × Unit) × Unit → Option (List (Int × Unit) × Unit)) (rc26 : List (Int × Int × Unit) × Int × Int × Int × Unit × List (Int × Unit) × List (Int × Int × Unit) × Unit → Option (List (Int × Unit) × Unit)) (z27 : List (Int × Int × Unit) × Int × Int × Int × Int × Bool × Unit × List (Int × Unit) × List (Int × Int × Unit) × Unit) : Option (List (Int × Unit) × Unit) :=
  if z27.2.2.2.2.2.1 = true then j23 (z27.1, z27.2.1, z27.2.2.1, (), z27.2.2.2.2.2.2.2.1, z27.2.2.2.2.2.2.2.2.1, ())
  else
    if inR z27.2.2.2.1 z27.2.2.2.2.2.2.2.2.1.length = true then
      if decide (z27.2.2.2.1.toNat + 1 ≤ z27.2.2.2.2.2.2.2.2.1.length) = true then
        if inR z27.2.2.2.2.1 z27.2.2.2.2.2.2.2.2.1.length = true then
          if decide (z27.2.2.2.2.1.toNat + 1 ≤ z27.2.2.2.2.2.2.2.2.1.length) = true then
            if inR z27.2.2.2.2.1 z27.2.2.2.2.2.2.2.2.1.length = true then
              if decide (z27.2.2.2.2.1.toNat + 1 ≤ z27.2.2.2.2.2.2.2.2.1.length) = true then
                if
                    inR z27.2.2.2.1
                        (z27.2.2.2.2.2.2.2.2.1.set z27.2.2.2.2.1.toNat
                            ((z27.2.2.2.2.2.2.2.2.1.getD z27.2.2.2.1.toNat (0, 0, ())).1, (z27.2.2.2.2.2.2.2.2.1.getD z27.2.2.2.1.toNat (0, 0, ())).2.1,
                              ())).length =
                      true then
                  if
                      decide
                          (z27.2.2.2.1.toNat + 1 ≤
                            (z27.2.2.2.2.2.2.2.2.1.set z27.2.2.2.2.1.toNat
                                ((z27.2.2.2.2.2.2.2.2.1.getD z27.2.2.2.1.toNat (0, 0, ())).1,
                                  (z27.2.2.2.2.2.2.2.2.1.getD z27.2.2.2.1.toNat (0, 0, ())).2.1, ())).length) =
                        true then
                    rc26
                      (z27.1, z27.2.1, z27.2.2.1, z27.2.2.2.2.1, (), z27.2.2.2.2.2.2.2.1,
                        (z27.2.2.2.2.2.2.2.2.1.set z27.2.2.2.2.1.toNat
                              ((z27.2.2.2.2.2.2.2.2.1.getD z27.2.2.2.1.toNat (0, 0, ())).1,
                                (z27.2.2.2.2.2.2.2.2.1.getD z27.2.2.2.1.toNat (0, 0, ())).2.1, ())).set
                          z27.2.2.2.1.toNat
                          ((z27.2.2.2.2.2.2.2.2.1.getD z27.2.2.2.2.1.toNat (0, 0, ())).1,
                            (z27.2.2.2.2.2.2.2.2.1.getD z27.2.2.2.2.1.toNat (0, 0, ())).2.1, ()),
                        ())
                  else none
                else none
              else none
            else none
          else none
        else none
      else none
    else none
noncomputable def sh12_L26 (j23 : List (Int × Int × Unit) × Int × Int × Unit × List (Int × Unit) × List (Int × Int × Unit) × Unit → Option (List (Int × Unit) × Unit)) (rc26 : List (Int × Int × Unit) × Int × Int × Int × Unit × List (Int × Unit) × List (Int × Int × Unit) × Unit → Option (List (Int × Unit) × Unit)) (z26 : List (Int × Int × Unit) × Int × Int × Int × Unit × List (Int × Unit) × List (Int × Int × Unit) × Unit) : Option (List (Int × Unit) × Unit) :=
  if (2 != 0) = true then
    joinK (sh12_K27 j23 rc26)
      fun
        (j28 :
          List (Int × Int × Unit) × Int × Int × Int × Int × Bool × Unit × List (Int × Unit) × List (Int × Int × Unit) × Unit →
            Option (List (Int × Unit) × Unit)) =>
      if (IntKind.i64.wrap ((IntKind.i64.wrap (z26.2.2.2.1 - 1)).tdiv 2) == z26.2.2.2.1) = true then
        j28
          (z26.1, z26.2.1, z26.2.2.1, z26.2.2.2.1, IntKind.i64.wrap ((IntKind.i64.wrap (z26.2.2.2.1 - 1)).tdiv 2), true, (), z26.2.2.2.2.2.1,
            z26.2.2.2.2.2.2.1, ())
      else
        if inR z26.2.2.2.1 z26.2.2.2.2.2.2.1.length = true then
          if decide (z26.2.2.2.1.toNat + 1 ≤ z26.2.2.2.2.2.2.1.length) = true then
            if inR (IntKind.i64.wrap ((IntKind.i64.wrap (z26.2.2.2.1 - 1)).tdiv 2)) z26.2.2.2.2.2.2.1.length = true then
              if decide ((IntKind.i64.wrap ((IntKind.i64.wrap (z26.2.2.2.1 - 1)).tdiv 2)).toNat + 1 ≤ z26.2.2.2.2.2.2.1.length) = true then
                (sp50
                      ((z26.2.2.2.2.2.2.1.getD z26.2.2.2.1.toNat (0, 0, ())).2.1,
                        (z26.2.2.2.2.2.2.1.getD (IntKind.i64.wrap ((IntKind.i64.wrap (z26.2.2.2.1 - 1)).tdiv 2)).toNat (0, 0, ())).2.1, ())).bind
                  fun (r29 : Int × Unit) =>
                  if inR z26.2.2.2.1 z26.2.2.2.2.2.2.1.length = true then
                    if decide (z26.2.2.2.1.toNat + 1 ≤ z26.2.2.2.2.2.2.1.length) = true then
                      if inR (IntKind.i64.wrap ((IntKind.i64.wrap (z26.2.2.2.1 - 1)).tdiv 2)) z26.2.2.2.2.2.2.1.length = true then
                        if decide ((IntKind.i64.wrap ((IntKind.i64.wrap (z26.2.2.2.1 - 1)).tdiv 2)).toNat + 1 ≤ z26.2.2.2.2.2.2.1.length) = true then
                          (sp50
                                ((z26.2.2.2.2.2.2.1.getD z26.2.2.2.1.toNat (0, 0, ())).1,
                                  (z26.2.2.2.2.2.2.1.getD (IntKind.i64.wrap ((IntKind.i64.wrap (z26.2.2.2.1 - 1)).tdiv 2)).toNat (0, 0, ())).1,
                                  ())).bind
                            fun (r30 : Int × Unit) =>
                            (sp49 ([(r29.1, ()), (r30.1, ())], ())).bind fun (r31 : Int × Unit) =>
                              j28
                                (z26.1, z26.2.1, z26.2.2.1, z26.2.2.2.1, IntKind.i64.wrap ((IntKind.i64.wrap (z26.2.2.2.1 - 1)).tdiv 2),
                                  !decide (r31.1 < 0), (), z26.2.2.2.2.2.1, z26.2.2.2.2.2.2.1, ())
                        else none
                      else none
                    else none
                  else none
              else none
            else none
          else none
        else none
  else none
noncomputable def sh12_K25 (fuel : Nat) (j23 : List (Int × Int × Unit) × Int × Int × Unit × List (Int × Unit) × List (Int × Int × Unit) × Unit → Option (List (Int × Unit) × Unit)) (z25 : List (Int × Int × Unit) × Int × Int × Unit × List (Int × Unit) × List (Int × Int × Unit) × Unit) : Option (List (Int × Unit) × Unit) :=
  iter fuel (sh12_L26 j23) (z25.1, z25.2.1, z25.2.2.1, IntKind.i64.wrap ((↑z25.2.2.2.2.2.1.length : Int) - 1), (), z25.2.2.2.2.1, z25.2.2.2.2.2.1, ())
noncomputable def sh12_K24 (fuel : Nat) (j23 : List (Int × Int × Unit) × Int × Int × Unit × List (Int × Unit) × List (Int × Int × Unit) × Unit → Option (List (Int × Unit) × Unit)) (z24 : List (Int × Int × Unit) × Int × Int × Bool × Unit × (Int × Int × Unit) × List (Int × Unit) × List (Int × Int × Unit) × Unit) : Option (List (Int × Unit) × Unit) :=
  if z24.2.2.2.1 = true then
    joinK (sh12_K25 fuel j23)
      fun (j32 : List (Int × Int × Unit) × Int × Int × Unit × List (Int × Unit) × List (Int × Int × Unit) × Unit → Option (List (Int × Unit) × Unit)) =>
      if decide (z24.2.2.2.2.2.2.2.1.length + [(z24.2.2.2.2.2.1.1, z24.2.2.2.2.2.1.2.1, ())].length ≤ Abs.lim) = true then
        if decide ((z24.2.2.2.2.2.2.2.1.length + [(z24.2.2.2.2.2.1.1, z24.2.2.2.2.2.1.2.1, ())].length) * 16 ≤ Abs.lim) = true then
          j32 (z24.1, z24.2.1, z24.2.2.1, (), z24.2.2.2.2.2.2.1, z24.2.2.2.2.2.2.2.1 ++ [(z24.2.2.2.2.2.1.1, z24.2.2.2.2.2.1.2.1, ())], ())
        else none
      else none
  else j23 (z24.1, z24.2.1, z24.2.2.1, (), z24.2.2.2.2.2.2.1, z24.2.2.2.2.2.2.2.1, ())
noncomputable def sh12_L21 (fuel : Nat) (j20 : Unit × List (Int × Unit) × List (Int × Int × Unit) × Unit → Option (List (Int × Unit) × Unit)) (rc21 : List (Int × Int × Unit) × Int × Int × Unit × List (Int × Unit) × List (Int × Int × Unit) × Unit → Option (List (Int × Unit) × Unit)) (z21 : List (Int × Int × Unit) × Int × Int × Unit × List (Int × Unit) × List (Int × Int × Unit) × Unit) : Option (List (Int × Unit) × Unit) :=
  if decide (z21.2.2.1 < z21.2.1) = true then
    joinK (sh12_K22 rc21)
      fun (j23 : List (Int × Int × Unit) × Int × Int × Unit × List (Int × Unit) × List (Int × Int × Unit) × Unit → Option (List (Int × Unit) × Unit)) =>
      if inR z21.2.2.1 z21.1.length = true then
        joinK (sh12_K24 fuel j23)
          fun
            (j33 :
              List (Int × Int × Unit) × Int × Int × Bool × Unit × (Int × Int × Unit) × List (Int × Unit) × List (Int × Int × Unit) × Unit →
                Option (List (Int × Unit) × Unit)) =>
          if decide (1 ≤ (lAt (0, 0, ()) z21.1 z21.2.2.1).1) = true then
            j33
              (z21.1, z21.2.1, z21.2.2.1, decide ((lAt (0, 0, ()) z21.1 z21.2.2.1).1 ≤ 40), (),
                ((lAt (0, 0, ()) z21.1 z21.2.2.1).1, (lAt (0, 0, ()) z21.1 z21.2.2.1).2.1, ()), z21.2.2.2.2.1, z21.2.2.2.2.2.1, ())
          else
            j33
              (z21.1, z21.2.1, z21.2.2.1, false, (), ((lAt (0, 0, ()) z21.1 z21.2.2.1).1, (lAt (0, 0, ()) z21.1 z21.2.2.1).2.1, ()), z21.2.2.2.2.1,
                z21.2.2.2.2.2.1, ())
      else none
  else j20 ((), z21.2.2.2.2.1, z21.2.2.2.2.2.1, ())
noncomputable def sh12 (fuel : Nat) (x0 : List (Int × Int × Unit)) : Option (List (Int × Unit) × Unit) :=
  joinK sh12_K0 fun (j1 : List (Int × Unit) × Unit → Option (List (Int × Unit) × Unit)) =>
    joinK (sh12_K2 fuel j1) fun (j20 : Unit × List (Int × Unit) × List (Int × Int × Unit) × Unit → Option (List (Int × Unit) × Unit)) =>
      iter fuel (sh12_L21 fuel j20) (x0, (↑x0.length : Int), 0, (), [], [], ())
def bags (l : List E) : List (Int × Unit) := l.map fun e => (e.1, ())
noncomputable def sp12 (x : List (Int × Int × Unit) × Unit) : Option (List (Int × Unit) × Unit) := if x.1.length ≤ 1000000 then some (bags (srt (flt x.1)), ()) else none
/-! 11 baggage/baggagekeep.Ints -/
noncomputable def c11 : Code := Try.f11.body.getD .skip
def g11 : Sig := ⟨[.v (.ty (.sl (.cons (.int .i64) .nil))), .v (.ty (.sl (.cons (.int .i64) .nil)))], .v (.ty .bool)⟩
def h11 : HT := (.n (.r .x) (.n (.n (.r .x) (.n (.n (.r .x) .e) .e)) (.j ⟨[], [], []⟩ (.n (.r .x) (.u (.l ⟨[(0, .d (.ty (.sl (.cons (.int .i64) .nil)))), (1, .d (.ty (.sl (.cons (.int .i64) .nil)))), (5, .d (.ty (.int .i64)))], [], []⟩ (.n (.n (.r .x) (.n .e .e)) (.n (.u (.n (.r .q) (.n (.n (.r .x) .e) .e))) (.r .x)))))) (.n (.r .x) .e))))
noncomputable def FT11 : List (Nat × Entry) := []
noncomputable def IT11 : List (Nat × Inl) := []
def MT11 : MTab := []
noncomputable def sh11_K0 (z0 : Unit) : Option (Bool × Unit) :=
  some (true, ())
noncomputable def sh11_L2 (j1 : Unit → Option (Bool × Unit)) (rc2 : List (Int × Unit) × List (Int × Unit) × Int × Unit → Option (Bool × Unit)) (z2 : List (Int × Unit) × List (Int × Unit) × Int × Unit) : Option (Bool × Unit) :=
  if decide (z2.2.2.1 < (↑z2.1.length : Int)) = true then
    if inR z2.2.2.1 z2.1.length = true then
      if inR z2.2.2.1 z2.2.1.length = true then
        if ((lAt (0, ()) z2.1 z2.2.2.1).1 != (lAt (0, ()) z2.2.1 z2.2.2.1).1) = true then some (false, ())
        else rc2 (z2.1, z2.2.1, IntKind.i64.wrap (z2.2.2.1 + 1), ())
      else none
    else none
  else j1 ()
noncomputable def sh11 (fuel : Nat) (x0 : List (Int × Unit)) (x1 : List (Int × Unit)) : Option (Bool × Unit) :=
  if ((↑x0.length : Int) != (↑x1.length : Int)) = true then some (false, ())
  else joinK sh11_K0 fun (j1 : Unit → Option (Bool × Unit)) => iter fuel (sh11_L2 j1) (x0, x1, 0, ())
noncomputable def sp11 (x : List (Int × Unit) × List (Int × Unit) × Unit) : Option (Bool × Unit) := if x.1.length ≤ 1000000 then some (decide (x.1 = x.2.1), ()) else none
/-! 6 baggage/baggagelaw19.awake -/
noncomputable def c6 : Code := Try.f6.body.getD .skip
def g6 : Sig := ⟨[], .v (.ty .bool)⟩
def h6 : HT := (.n (.r .x) (.n (.r .x) (.j ⟨[(0, .d (.ty .bool))], [], []⟩ (.r .x) .e)))
noncomputable def FT6 : List (Nat × Entry) := [(9, ⟨g9, sp9⟩), (14, ⟨g14, sp14⟩), (12, ⟨g12, sp12⟩), (11, ⟨g11, sp11⟩)]
noncomputable def IT6 : List (Nat × Inl) := []
def MT6 : MTab := []
noncomputable def sh6_K0 (z0 : Bool × Unit) : Option (Bool × Unit) :=
  some (z0.1, ())
noncomputable def sh6 (fuel : Nat) : Option (Bool × Unit) :=
  joinK sh6_K0 fun (j1 : Bool × Unit → Option (Bool × Unit)) =>
    (sp9 (10, 30, 15, 4, ())).bind fun (r2 : Bool × Unit) =>
      if r2.1 = true then
        (sp9 (10, 30, 15, 5, ())).bind fun (r3 : Bool × Unit) =>
          if (!r3.1) = true then
            (sp14 ([(3, 20, ()), (2, 20, ()), (1, 25, ())], 20, ())).bind fun (r4 : Int × Unit) =>
              if (r4.1 == 2) = true then
                (sp14 ([(3, 20, ()), (2, 20, ()), (1, 25, ())], 19, ())).bind fun (r5 : Int × Unit) =>
                  if (r5.1 == 0) = true then
                    (sp12 ([(3, 20, ()), (2, 20, ()), (1, 25, ())], ())).bind fun (r6 : List (Int × Unit) × Unit) =>
                      (sp11 (r6.1, [(2, ()), (3, ()), (1, ())], ())).bind fun (r7 : Bool × Unit) => j1 (r7.1, ())
                  else j1 (false, ())
              else j1 (false, ())
          else j1 (false, ())
      else j1 (false, ())
noncomputable def sp6 (x : Unit) : Option (Bool × Unit) := sh6 0 
/-! 16 baggage/baggagekeep.New -/
noncomputable def c16 : Code := Try.f16.body.getD .skip
def g16 : Sig := ⟨[.v (.ty (.sl (.cons (.int .i64) .nil)))], .box (.cons (.sl (.cons (.int .i64) .nil)) (.cons (.int .i64) .nil))⟩
def h16 : HT := (.n (.r .x) (.j ⟨[(0, .d (.ty (.sl (.cons (.int .i64) .nil))))], [], []⟩ (.n (.r .x) (.n (.r .x) .e)) (.n (.r .x) .e)))
noncomputable def FT16 : List (Nat × Entry) := []
noncomputable def IT16 : List (Nat × Inl) := []
def MT16 : MTab := []
noncomputable def sh16_K0 (z0 : List (Int × Unit) × Unit) : Option ((List (Int × Unit) × Int × Unit) × Unit) :=
  some ((z0.1, 0, ()), ())
noncomputable def sh16 (fuel : Nat) (x0 : List (Int × Unit)) : Option ((List (Int × Unit) × Int × Unit) × Unit) :=
  joinK sh16_K0 fun (j1 : List (Int × Unit) × Unit → Option ((List (Int × Unit) × Int × Unit) × Unit)) =>
    if decide (2000 < (↑x0.length : Int)) = true then if inCut 0 2000 x0.length = true then j1 (cutL x0 0 2000, ()) else none else j1 (x0, ())
noncomputable def sp16 (x : (List (Int × Unit)) × Unit) : Option ((List (Int × Unit) × Int × Unit) × Unit) := sh16 0 x.1
/-! 24 (*baggage/baggagekeep.Src).Raw -/
noncomputable def c24 : Code := Try.f24.body.getD .skip
def g24 : Sig := ⟨[.bx (.cons (.sl (.cons (.int .i64) .nil)) (.cons (.int .i64) .nil))], .v (.ty (.int .i64))⟩
def h24 : HT := (.n (.r .x) (.n (.n (.r .q) (.n (.n (.r .x) .e) .e)) (.n (.r .x) (.n (.r .q) .e))))
noncomputable def FT24 : List (Nat × Entry) := []
noncomputable def IT24 : List (Nat × Inl) := []
def MT24 : MTab := []
noncomputable def sh24 (fuel : Nat) (x0 : List (Int × Unit) × Int × Unit) : Option (Int × (List (Int × Unit) × Int × Unit) × Unit) :=
  if decide ((↑x0.1.length : Int) ≤ x0.2.1) = true then some (0, (x0.1, x0.2.1, ()), ())
  else
    if inR (IntKind.i64.wrap (IntKind.i64.wrap (x0.2.1 + 1) - 1)) x0.1.length = true then
      some ((lAt (0, ()) x0.1 (IntKind.i64.wrap (IntKind.i64.wrap (x0.2.1 + 1) - 1))).1, (x0.1, IntKind.i64.wrap (x0.2.1 + 1), ()), ())
    else none
noncomputable def sp24 (x : (List (Int × Unit) × Int × Unit) × Unit) : Option (Int × (List (Int × Unit) × Int × Unit) × Unit) := sh24 0 x.1
/-! 8 baggage/baggagekeep.Mod -/
noncomputable def c8 : Code := Try.f8.body.getD .skip
def g8 : Sig := ⟨[.v (.ty (.int .i64)), .v (.ty (.int .i64))], .v (.ty (.int .i64))⟩
def h8 : HT := (.n (.r .x) (.n (.n (.r .x) (.n (.n (.r .x) .e) .e)) (.n (.r .x) (.j ⟨[(0, .d (.ty (.int .i64)))], [], []⟩ (.n (.r .x) (.n (.r .x) .e)) (.n (.r .x) .e)))))
noncomputable def FT8 : List (Nat × Entry) := []
noncomputable def IT8 : List (Nat × Inl) := []
def MT8 : MTab := []
noncomputable def sh8_K0 (z0 : Int × Unit) : Option (Int × Unit) :=
  some (z0.1, ())
noncomputable def sh8 (fuel : Nat) (x0 : Int) (x1 : Int) : Option (Int × Unit) :=
  if decide (x1 < 1) = true then some (0, ())
  else
    if (x1 != 0) = true then
      joinK sh8_K0 fun (j1 : Int × Unit → Option (Int × Unit)) =>
        if decide (x0.tmod x1 < 0) = true then j1 (IntKind.i64.wrap (x0.tmod x1 + x1), ()) else j1 (x0.tmod x1, ())
    else none
noncomputable def sp8 (x : (Int) × (Int) × Unit) : Option (Int × Unit) := sh8 0 x.1 x.2.1
/-! 17 (*baggage/baggagekeep.Src).N -/
noncomputable def c17 : Code := Try.f17.body.getD .skip
def g17 : Sig := ⟨[.bx (.cons (.sl (.cons (.int .i64) .nil)) (.cons (.int .i64) .nil)), .v (.ty (.int .i64))], .v (.ty (.int .i64))⟩
def h17 : HT := (.n (.r .x) (.n (.r .x) .e))
noncomputable def FT17 : List (Nat × Entry) := [(24, ⟨g24, sp24⟩), (8, ⟨g8, sp8⟩)]
noncomputable def IT17 : List (Nat × Inl) := []
def MT17 : MTab := []
noncomputable def sh17 (fuel : Nat) (x0 : List (Int × Unit) × Int × Unit) (x1 : Int) : Option (Int × (List (Int × Unit) × Int × Unit) × Unit) :=
  (sp24 ((x0.1, x0.2.1, ()), ())).bind fun (r0 : Int × (List (Int × Unit) × Int × Unit) × Unit) =>
    (sp8 (r0.1, x1, ())).bind fun (r1 : Int × Unit) => some (r1.1, (r0.2.1.1, r0.2.1.2.1, ()), ())
noncomputable def sp17 (x : (List (Int × Unit) × Int × Unit) × (Int) × Unit) : Option (Int × (List (Int × Unit) × Int × Unit) × Unit) := sh17 0 x.1 x.2.1
/-! 18 (*baggage/baggagekeep.Src).Range -/
noncomputable def c18 : Code := Try.f18.body.getD .skip
def g18 : Sig := ⟨[.bx (.cons (.sl (.cons (.int .i64) .nil)) (.cons (.int .i64) .nil)), .v (.ty (.int .i64)), .v (.ty (.int .i64))], .v (.ty (.int .i64))⟩
def h18 : HT := (.n (.r .x) (.n (.r .x) .e))
noncomputable def FT18 : List (Nat × Entry) := [(17, ⟨g17, sp17⟩)]
noncomputable def IT18 : List (Nat × Inl) := []
def MT18 : MTab := []
noncomputable def sh18 (fuel : Nat) (x0 : List (Int × Unit) × Int × Unit) (x1 : Int) (x2 : Int) : Option (Int × (List (Int × Unit) × Int × Unit) × Unit) :=
  (sp17 ((x0.1, x0.2.1, ()), IntKind.i64.wrap (IntKind.i64.wrap (x2 - x1) + 1), ())).bind fun (r0 : Int × (List (Int × Unit) × Int × Unit) × Unit) =>
    some (IntKind.i64.wrap (x1 + r0.1), (r0.2.1.1, r0.2.1.2.1, ()), ())
noncomputable def sp18 (x : (List (Int × Unit) × Int × Unit) × (Int) × (Int) × Unit) : Option (Int × (List (Int × Unit) × Int × Unit) × Unit) := sh18 0 x.1 x.2.1 x.2.2.1
/-! 7 baggage/baggagelaw19.stored -/
noncomputable def c7 : Code := Try.f7.body.getD .skip
def g7 : Sig := ⟨[.v (.ty (.sl (.cons (.int .i64) .nil)))], .own (.cons (.int .i64) (.cons (.int .i64) .nil))⟩
def h7 : HT := (.n (.r .x) (.n (.r .x) (.n (.r .x) (.j ⟨[(4, .own 500004)], [(500004, .arr (.cons (.int .i64) (.cons (.int .i64) .nil)))], []⟩ (.n (.r .x) (.u (.l ⟨[(3, .ref 500000 2), (4, .own 500001), (5, .d (.ty (.int .i64)))], [(500000, .box [.d (.sl (.cons (.int .i64) .nil)), .d (.int .i64)]), (500001, .arr (.cons (.int .i64) (.cons (.int .i64) .nil)))], []⟩ (.n (.n (.r .x) (.n .e .e)) (.n (.u (.r .x)) (.r .x)))))) (.n (.r .x) .e)))))
noncomputable def FT7 : List (Nat × Entry) := [(16, ⟨g16, sp16⟩), (17, ⟨g17, sp17⟩), (18, ⟨g18, sp18⟩)]
noncomputable def IT7 : List (Nat × Inl) := []
def MT7 : MTab := []
noncomputable def sh7_K1 (z1 : List (Int × Int × Unit) × Unit) : Option (List (Int × Int × Unit) × Unit) :=
  some (z1.1, ())
noncomputable def sh7_L4 (j2 : List (Int × Int × Unit) × Unit → Option (List (Int × Int × Unit) × Unit)) (rc4 : Int × (List (Int × Unit) × Int × Unit) × List (Int × Int × Unit) × Unit → Option (List (Int × Int × Unit) × Unit)) (z4 : Int × (List (Int × Unit) × Int × Unit) × List (Int × Int × Unit) × Unit) : Option (List (Int × Int × Unit) × Unit) :=
  if decide (0 < z4.1) = true then
    (sp18 ((z4.2.1.1, z4.2.1.2.1, ()), 1, 9, ())).bind fun (r5 : Int × (List (Int × Unit) × Int × Unit) × Unit) =>
      (sp17 ((r5.2.1.1, r5.2.1.2.1, ()), 6, ())).bind fun (r6 : Int × (List (Int × Unit) × Int × Unit) × Unit) =>
        if decide (z4.2.2.1.length + [(r5.1, r6.1, ())].length ≤ Abs.lim) = true then
          if decide ((z4.2.2.1.length + [(r5.1, r6.1, ())].length) * 16 ≤ Abs.lim) = true then
            rc4 (IntKind.i64.wrap (z4.1 - 1), (r6.2.1.1, r6.2.1.2.1, ()), z4.2.2.1 ++ [(r5.1, r6.1, ())], ())
          else none
        else none
  else j2 (z4.2.2.1, ())
noncomputable def sh7 (fuel : Nat) (x0 : List (Int × Unit)) : Option (List (Int × Int × Unit) × Unit) :=
  (sp16 (x0, ())).bind fun (r0 : (List (Int × Unit) × Int × Unit) × Unit) =>
    joinK sh7_K1 fun (j2 : List (Int × Int × Unit) × Unit → Option (List (Int × Int × Unit) × Unit)) =>
      (sp17 ((r0.1.1, r0.1.2.1, ()), 12, ())).bind fun (r3 : Int × (List (Int × Unit) × Int × Unit) × Unit) =>
        iter fuel (sh7_L4 j2) (r3.1, (r3.2.1.1, r3.2.1.2.1, ()), [], ())
noncomputable def stoG : Nat → (List (Int × Unit) × Int × Unit) → List E → Option (List E × Unit)
  | 0, _, l => some (l, ())
  | n + 1, s, l => (sp18 (s, 1, 9, ())).bind fun r5 => (sp17 (r5.2.1, 6, ())).bind fun r6 => stoG n r6.2.1 (l ++ [(r5.1, r6.1, ())])
noncomputable def sp7 (x : List (Int × Unit) × Unit) : Option (List (Int × Int × Unit) × Unit) := (sp16 x).bind fun r0 => (sp17 (r0.1, 12, ())).bind fun r3 => stoG r3.1.toNat r3.2.1 []
/-! 19 baggage/baggageref19.time -/
noncomputable def c19 : Code := Try.f19.body.getD .skip
def g19 : Sig := ⟨[.v (.ty (.int .i64))], .v (.ty .bool)⟩
def h19 : HT := (.n (.r .x) (.j ⟨[(2, .d (.ty .bool))], [], []⟩ (.r .x) .e))
noncomputable def FT19 : List (Nat × Entry) := []
noncomputable def IT19 : List (Nat × Inl) := []
def MT19 : MTab := []
noncomputable def sh19_K0 (z0 : Bool × Unit) : Option (Bool × Unit) :=
  some (z0.1, ())
noncomputable def sh19 (fuel : Nat) (x0 : Int) : Option (Bool × Unit) :=
  joinK sh19_K0 fun (j1 : Bool × Unit → Option (Bool × Unit)) => if decide (0 ≤ x0) = true then j1 (decide (x0 ≤ 1048576), ()) else j1 (false, ())
noncomputable def sp19 (x : (Int) × Unit) : Option (Bool × Unit) := sh19 0 x.1
/-! 10 baggage/baggageref19.Hold -/
noncomputable def c10 : Code := Try.f10.body.getD .skip
def g10 : Sig := ⟨[.v (.ty (.int .i64)), .v (.ty (.int .i64)), .v (.ty (.int .i64)), .v (.ty (.int .i64))], .v (.ty .bool)⟩
def h10 : HT := (.n (.r .x) (.j ⟨[(8, .d (.ty .bool))], [], []⟩ (.r .x) .e))
noncomputable def FT10 : List (Nat × Entry) := [(19, ⟨g19, sp19⟩)]
noncomputable def IT10 : List (Nat × Inl) := []
def MT10 : MTab := []
noncomputable def sh10_K0 (z0 : Bool × Unit) : Option (Bool × Unit) :=
  some (z0.1, ())
noncomputable def sh10 (fuel : Nat) (x0 : Int) (x1 : Int) (x2 : Int) (x3 : Int) : Option (Bool × Unit) :=
  joinK sh10_K0 fun (j1 : Bool × Unit → Option (Bool × Unit)) =>
    (sp19 (x0, ())).bind fun (r2 : Bool × Unit) =>
      if r2.1 = true then
        (sp19 (x1, ())).bind fun (r3 : Bool × Unit) =>
          if r3.1 = true then
            (sp19 (x2, ())).bind fun (r4 : Bool × Unit) =>
              if r4.1 = true then
                (sp19 (x3, ())).bind fun (r5 : Bool × Unit) =>
                  if r5.1 = true then j1 (decide (IntKind.i64.wrap (IntKind.i64.wrap (x0 + x2) + x3) < x1), ()) else j1 (false, ())
              else j1 (false, ())
          else j1 (false, ())
      else j1 (false, ())
noncomputable def sp10 (x : (Int) × (Int) × (Int) × (Int) × Unit) : Option (Bool × Unit) := sh10 0 x.1 x.2.1 x.2.2.1 x.2.2.2.1
/-! 23 baggage/baggageref19.sorted -/
noncomputable def c23 : Code := Try.f23.body.getD .skip
def g23 : Sig := ⟨[.v (.ty (.sl (.cons (.int .i64) (.cons (.int .i64) .nil))))], .own (.cons (.int .i64) (.cons (.int .i64) .nil))⟩
def h23 : HT := (.n (.r .x) (.n (.r .x) (.j ⟨[(3, .own 500008)], [(500008, .arr (.cons (.int .i64) (.cons (.int .i64) .nil)))], []⟩ (.n (.r .x) (.u (.l ⟨[(0, .d (.ty (.sl (.cons (.int .i64) (.cons (.int .i64) .nil))))), (3, .own 500000), (4, .d (.ty (.int .i64)))], [(500000, .arr (.cons (.int .i64) (.cons (.int .i64) .nil)))], []⟩ (.n (.n (.r .x) (.n .e .e)) (.j ⟨[(0, .d (.ty (.sl (.cons (.int .i64) (.cons (.int .i64) .nil))))), (3, .own 500006), (4, .d (.ty (.int .i64)))], [(500006, .arr (.cons (.int .i64) (.cons (.int .i64) .nil)))], []⟩ (.u (.n (.j ⟨[(0, .d (.ty (.sl (.cons (.int .i64) (.cons (.int .i64) .nil))))), (3, .own 500001), (4, .d (.ty (.int .i64))), (26, .d (.ty .bool))], [(500001, .arr (.cons (.int .i64) (.cons (.int .i64) .nil)))], []⟩ (.r .x) (.n .e .e)) (.n (.r .x) (.j ⟨[(0, .d (.ty (.sl (.cons (.int .i64) (.cons (.int .i64) .nil))))), (3, .own 500005), (4, .d (.ty (.int .i64))), (5, .d (.ty (.int .i64)))], [(500005, .arr (.cons (.int .i64) (.cons (.int .i64) .nil)))], []⟩ (.u (.l ⟨[(0, .d (.ty (.sl (.cons (.int .i64) (.cons (.int .i64) .nil))))), (3, .own 500002), (4, .d (.ty (.int .i64))), (5, .d (.ty (.int .i64)))], [(500002, .arr (.cons (.int .i64) (.cons (.int .i64) .nil)))], []⟩ (.n (.j ⟨[(0, .d (.ty (.sl (.cons (.int .i64) (.cons (.int .i64) .nil))))), (3, .own 500003), (4, .d (.ty (.int .i64))), (5, .d (.ty (.int .i64))), (72, .d (.ty .bool))], [(500003, .arr (.cons (.int .i64) (.cons (.int .i64) .nil)))], []⟩ (.r .q) (.n .e .e)) (.u (.r .x))))) (.n (.r .x) (.r (.w 11 [(1, 0), (1, 1), (1, 2), (1, 3), (1, 4), (1, 5), (0, 6), (0, 7), (1, 10), (3, 8), (2, 9)]))))))) (.r .x)))))) (.n (.r .x) .e))))
noncomputable def FT23 : List (Nat × Entry) := []
noncomputable def IT23 : List (Nat × Inl) := []
def MT23 : MTab := []
noncomputable def sh23_K0 (z0 : List (Int × Int × Unit) × Unit) : Option (List (Int × Int × Unit) × Unit) :=
  some (z0.1, ())
noncomputable def sh23_K3 (rc2 : List (Int × Int × Unit) × Int × List (Int × Int × Unit) × Unit → Option (List (Int × Int × Unit) × Unit)) (z3 : List (Int × Int × Unit) × Int × List (Int × Int × Unit) × Unit) : Option (List (Int × Int × Unit) × Unit) :=
  rc2 (z3.1, IntKind.i64.wrap (z3.2.1 + 1), z3.2.2.1, ())
noncomputable def sh23_K6 (j4 : List (Int × Int × Unit) × Int × List (Int × Int × Unit) × Unit → Option (List (Int × Int × Unit) × Unit)) (z6 : List (Int × Int × Unit) × Int × Int × List (Int × Int × Unit) × Unit) : Option (List (Int × Int × Unit) × Unit) :=
  if inCut z6.2.2.1 (↑z6.2.2.2.1.length : Int) z6.2.2.2.1.length = true then
    if decide (z6.2.2.1.toNat + ((↑z6.2.2.2.1.length : Int).toNat - z6.2.2.1.toNat) ≤ z6.2.2.2.1.length) = true then
      if decide (0 + (List.take ((↑z6.2.2.2.1.length : Int).toNat - z6.2.2.1.toNat) (List.drop z6.2.2.1.toNat z6.2.2.2.1)).length ≤ Abs.lim) = true then
        if
            decide ((0 + (List.take ((↑z6.2.2.2.1.length : Int).toNat - z6.2.2.1.toNat) (List.drop z6.2.2.1.toNat z6.2.2.2.1)).length) * 16 ≤ Abs.lim) =
              true then
          if decide (0 ≤ 0) = true then
            if decide (0 ≤ z6.2.2.1) = true then
              if decide (z6.2.2.1 ≤ z6.2.2.1) = true then
                if decide (z6.2.2.1 ≤ (↑z6.2.2.2.1.length : Int)) = true then
                  if inR z6.2.1 z6.1.length = true then
                    if decide (Int.toNat 0 = 0) = true then
                      if decide (z6.2.2.1.toNat - Int.toNat 0 ≤ z6.2.2.2.1.length) = true then
                        if
                            decide
                                ((List.take (z6.2.2.1.toNat - Int.toNat 0) (List.drop 0 z6.2.2.2.1)).length +
                                    [((lAt (0, 0, ()) z6.1 z6.2.1).1, (lAt (0, 0, ()) z6.1 z6.2.1).2.1, ())].length ≤
                                  Abs.lim) =
                              true then
                          if
                              decide
                                  (((List.take (z6.2.2.1.toNat - Int.toNat 0) (List.drop 0 z6.2.2.2.1)).length +
                                        [((lAt (0, 0, ()) z6.1 z6.2.1).1, (lAt (0, 0, ()) z6.1 z6.2.1).2.1, ())].length) *
                                      16 ≤
                                    Abs.lim) =
                                true then
                            if
                                decide
                                    ((List.take (z6.2.2.1.toNat - Int.toNat 0) (List.drop 0 z6.2.2.2.1) ++
                                            [((lAt (0, 0, ()) z6.1 z6.2.1).1, (lAt (0, 0, ()) z6.1 z6.2.1).2.1, ())]).length +
                                        (List.take ((↑z6.2.2.2.1.length : Int).toNat - z6.2.2.1.toNat) (List.drop z6.2.2.1.toNat z6.2.2.2.1)).length ≤
                                      Abs.lim) =
                                  true then
                              if
                                  decide
                                      (((List.take (z6.2.2.1.toNat - Int.toNat 0) (List.drop 0 z6.2.2.2.1) ++
                                                [((lAt (0, 0, ()) z6.1 z6.2.1).1, (lAt (0, 0, ()) z6.1 z6.2.1).2.1, ())]).length +
                                            (List.take ((↑z6.2.2.2.1.length : Int).toNat - z6.2.2.1.toNat)
                                                (List.drop z6.2.2.1.toNat z6.2.2.2.1)).length) *
                                          16 ≤
                                        Abs.lim) =
                                    true then
                                j4
                                  (z6.1, z6.2.1,
                                    List.take (z6.2.2.1.toNat - Int.toNat 0) (List.drop 0 z6.2.2.2.1) ++
                                        [((lAt (0, 0, ()) z6.1 z6.2.1).1, (lAt (0, 0, ()) z6.1 z6.2.1).2.1, ())] ++
                                      List.take ((↑z6.2.2.2.1.length : Int).toNat - z6.2.2.1.toNat) (List.drop z6.2.2.1.toNat z6.2.2.2.1),
                                    ())
                              else none
                            else none
                          else none
                        else none
                      else none
                    else none
                  else none
                else none
              else none
            else none
          else none
        else none
      else none
    else none
  else none
noncomputable def sh23_K9 (j7 : List (Int × Int × Unit) × Int × Int × List (Int × Int × Unit) × Unit → Option (List (Int × Int × Unit) × Unit)) (rc8 : List (Int × Int × Unit) × Int × Int × List (Int × Int × Unit) × Unit → Option (List (Int × Int × Unit) × Unit)) (z9 : List (Int × Int × Unit) × Int × Int × Bool × List (Int × Int × Unit) × Unit) : Option (List (Int × Int × Unit) × Unit) :=
  if z9.2.2.2.1 = true then rc8 (z9.1, z9.2.1, IntKind.i64.wrap (z9.2.2.1 - 1), z9.2.2.2.2.1, ()) else j7 (z9.1, z9.2.1, z9.2.2.1, z9.2.2.2.2.1, ())
noncomputable def sh23_L8 (j7 : List (Int × Int × Unit) × Int × Int × List (Int × Int × Unit) × Unit → Option (List (Int × Int × Unit) × Unit)) (rc8 : List (Int × Int × Unit) × Int × Int × List (Int × Int × Unit) × Unit → Option (List (Int × Int × Unit) × Unit)) (z8 : List (Int × Int × Unit) × Int × Int × List (Int × Int × Unit) × Unit) : Option (List (Int × Int × Unit) × Unit) :=
  joinK (sh23_K9 j7 rc8)
    fun (j10 : List (Int × Int × Unit) × Int × Int × Bool × List (Int × Int × Unit) × Unit → Option (List (Int × Int × Unit) × Unit)) =>
    if decide (0 < z8.2.2.1) = true then
      if inR (IntKind.i64.wrap (z8.2.2.1 - 1)) z8.2.2.2.1.length = true then
        if decide ((IntKind.i64.wrap (z8.2.2.1 - 1)).toNat + 1 ≤ z8.2.2.2.1.length) = true then
          if inR z8.2.1 z8.1.length = true then
            if decide ((lAt (0, 0, ()) z8.1 z8.2.1).2.1 < (z8.2.2.2.1.getD (IntKind.i64.wrap (z8.2.2.1 - 1)).toNat (0, 0, ())).2.1) = true then
              j10 (z8.1, z8.2.1, z8.2.2.1, true, z8.2.2.2.1, ())
            else
              if inR (IntKind.i64.wrap (z8.2.2.1 - 1)) z8.2.2.2.1.length = true then
                if decide ((IntKind.i64.wrap (z8.2.2.1 - 1)).toNat + 1 ≤ z8.2.2.2.1.length) = true then
                  if inR z8.2.1 z8.1.length = true then
                    if ((z8.2.2.2.1.getD (IntKind.i64.wrap (z8.2.2.1 - 1)).toNat (0, 0, ())).2.1 == (lAt (0, 0, ()) z8.1 z8.2.1).2.1) = true then
                      if inR (IntKind.i64.wrap (z8.2.2.1 - 1)) z8.2.2.2.1.length = true then
                        if decide ((IntKind.i64.wrap (z8.2.2.1 - 1)).toNat + 1 ≤ z8.2.2.2.1.length) = true then
                          if inR z8.2.1 z8.1.length = true then
                            j10
                              (z8.1, z8.2.1, z8.2.2.1,
                                decide ((lAt (0, 0, ()) z8.1 z8.2.1).1 < (z8.2.2.2.1.getD (IntKind.i64.wrap (z8.2.2.1 - 1)).toNat (0, 0, ())).1),
                                z8.2.2.2.1, ())
                          else none
                        else none
                      else none
                    else j10 (z8.1, z8.2.1, z8.2.2.1, false, z8.2.2.2.1, ())
                  else none
                else none
              else none
          else none
        else none
      else none
    else j10 (z8.1, z8.2.1, z8.2.2.1, false, z8.2.2.2.1, ())
noncomputable def sh23_K5 (fuel : Nat) (j4 : List (Int × Int × Unit) × Int × List (Int × Int × Unit) × Unit → Option (List (Int × Int × Unit) × Unit)) (z5 : List (Int × Int × Unit) × Int × Bool × List (Int × Int × Unit) × Unit) : Option (List (Int × Int × Unit) × Unit) :=
  if z5.2.2.1 = true then j4 (z5.1, z5.2.1, z5.2.2.2.1, ())
  else
    joinK (sh23_K6 j4) fun (j7 : List (Int × Int × Unit) × Int × Int × List (Int × Int × Unit) × Unit → Option (List (Int × Int × Unit) × Unit)) =>
      iter fuel (sh23_L8 j7) (z5.1, z5.2.1, (↑z5.2.2.2.1.length : Int), z5.2.2.2.1, ())
noncomputable def sh23_L2 (fuel : Nat) (j1 : List (Int × Int × Unit) × Unit → Option (List (Int × Int × Unit) × Unit)) (rc2 : List (Int × Int × Unit) × Int × List (Int × Int × Unit) × Unit → Option (List (Int × Int × Unit) × Unit)) (z2 : List (Int × Int × Unit) × Int × List (Int × Int × Unit) × Unit) : Option (List (Int × Int × Unit) × Unit) :=
  if decide (z2.2.1 < (↑z2.1.length : Int)) = true then
    joinK (sh23_K3 rc2) fun (j4 : List (Int × Int × Unit) × Int × List (Int × Int × Unit) × Unit → Option (List (Int × Int × Unit) × Unit)) =>
      joinK (sh23_K5 fuel j4)
        fun (j11 : List (Int × Int × Unit) × Int × Bool × List (Int × Int × Unit) × Unit → Option (List (Int × Int × Unit) × Unit)) =>
        if inR z2.2.1 z2.1.length = true then
          if decide ((lAt (0, 0, ()) z2.1 z2.2.1).1 < 1) = true then j11 (z2.1, z2.2.1, true, z2.2.2.1, ())
          else if inR z2.2.1 z2.1.length = true then j11 (z2.1, z2.2.1, decide (40 < (lAt (0, 0, ()) z2.1 z2.2.1).1), z2.2.2.1, ()) else none
        else none
  else j1 (z2.2.2.1, ())
noncomputable def sh23 (fuel : Nat) (x0 : List (Int × Int × Unit)) : Option (List (Int × Int × Unit) × Unit) :=
  joinK sh23_K0 fun (j1 : List (Int × Int × Unit) × Unit → Option (List (Int × Int × Unit) × Unit)) => iter fuel (sh23_L2 fuel j1) (x0, 0, [], ())
noncomputable def sp23 (x : List (Int × Int × Unit) × Unit) : Option (List (Int × Int × Unit) × Unit) := if x.1.length ≤ 1000000 then some (srt (flt x.1), ()) else none
/-! 13 baggage/baggageref19.Rank -/
noncomputable def c13 : Code := Try.f13.body.getD .skip
def g13 : Sig := ⟨[.v (.ty (.sl (.cons (.int .i64) (.cons (.int .i64) .nil))))], .own (.cons (.int .i64) .nil)⟩
def h13 : HT := (.n (.r .x) (.n (.r .x) (.n (.r .x) (.j ⟨[(3, .own 500004)], [(500004, .arr (.cons (.int .i64) .nil))], []⟩ (.n (.r .x) (.u (.l ⟨[(3, .own 500000), (4, .own 500001), (5, .d (.ty (.int .i64)))], [(500000, .arr (.cons (.int .i64) .nil)), (500001, .arr (.cons (.int .i64) (.cons (.int .i64) .nil)))], []⟩ (.n (.n (.r .x) (.n .e .e)) (.n (.u (.r .x)) (.r .x)))))) (.n (.r .x) .e)))))
noncomputable def FT13 : List (Nat × Entry) := [(23, ⟨g23, sp23⟩)]
noncomputable def IT13 : List (Nat × Inl) := []
def MT13 : MTab := []
noncomputable def sh13_K1 (z1 : List (Int × Unit) × Unit) : Option (List (Int × Unit) × Unit) :=
  some (z1.1, ())
noncomputable def sh13_L3 (j2 : List (Int × Unit) × Unit → Option (List (Int × Unit) × Unit)) (rc3 : Int × List (Int × Unit) × List (Int × Int × Unit) × Unit → Option (List (Int × Unit) × Unit)) (z3 : Int × List (Int × Unit) × List (Int × Int × Unit) × Unit) : Option (List (Int × Unit) × Unit) :=
  if decide (z3.1 < (↑z3.2.2.1.length : Int)) = true then
    if inR z3.1 z3.2.2.1.length = true then
      if decide (z3.1.toNat + 1 ≤ z3.2.2.1.length) = true then
        if decide (z3.2.1.length + [((z3.2.2.1.getD z3.1.toNat (0, 0, ())).1, ())].length ≤ Abs.lim) = true then
          if decide ((z3.2.1.length + [((z3.2.2.1.getD z3.1.toNat (0, 0, ())).1, ())].length) * 8 ≤ Abs.lim) = true then
            rc3 (IntKind.i64.wrap (z3.1 + 1), z3.2.1 ++ [((z3.2.2.1.getD z3.1.toNat (0, 0, ())).1, ())], z3.2.2.1, ())
          else none
        else none
      else none
    else none
  else j2 (z3.2.1, ())
noncomputable def sh13 (fuel : Nat) (x0 : List (Int × Int × Unit)) : Option (List (Int × Unit) × Unit) :=
  (sp23 (x0, ())).bind fun (r0 : List (Int × Int × Unit) × Unit) =>
    joinK sh13_K1 fun (j2 : List (Int × Unit) × Unit → Option (List (Int × Unit) × Unit)) => iter fuel (sh13_L3 j2) (0, [], r0.1, ())
noncomputable def sp13 (x : List (Int × Int × Unit) × Unit) : Option (List (Int × Unit) × Unit) := if x.1.length ≤ 1000000 then some (bags (srt (flt x.1)), ()) else none
/-! 15 baggage/baggageref19.Next -/
noncomputable def c15 : Code := Try.f15.body.getD .skip
def g15 : Sig := ⟨[.v (.ty (.sl (.cons (.int .i64) (.cons (.int .i64) .nil)))), .v (.ty (.int .i64))], .v (.ty (.int .i64))⟩
def h15 : HT := (.n (.r .x) (.n (.r .x) (.n (.j ⟨[(5, .own 500000), (18, .d (.ty .bool))], [(500000, .arr (.cons (.int .i64) (.cons (.int .i64) .nil)))], []⟩ (.r .x) (.n (.n (.r .x) .e) .e)) (.n (.r .x) .e))))
noncomputable def FT15 : List (Nat × Entry) := [(23, ⟨g23, sp23⟩)]
noncomputable def IT15 : List (Nat × Inl) := []
def MT15 : MTab := []
noncomputable def sh15_K1 (z1 : Bool × List (Int × Int × Unit) × Unit) : Option (Int × Unit) :=
  if z1.1 = true then some (0, ())
  else
    if inR 0 z1.2.1.length = true then
      if decide (Int.toNat 0 + 1 ≤ z1.2.1.length) = true then some ((z1.2.1.getD (Int.toNat 0) (0, 0, ())).1, ()) else none
    else none
noncomputable def sh15 (fuel : Nat) (x0 : List (Int × Int × Unit)) (x1 : Int) : Option (Int × Unit) :=
  (sp23 (x0, ())).bind fun (r0 : List (Int × Int × Unit) × Unit) =>
    joinK sh15_K1 fun (j2 : Bool × List (Int × Int × Unit) × Unit → Option (Int × Unit)) =>
      if ((↑r0.1.length : Int) == 0) = true then j2 (true, r0.1, ())
      else
        if inR 0 r0.1.length = true then
          if decide (Int.toNat 0 + 1 ≤ r0.1.length) = true then j2 (decide (x1 < (r0.1.getD (Int.toNat 0) (0, 0, ())).2.1), r0.1, ()) else none
        else none
noncomputable def sp15 (x : (List (Int × Int × Unit)) × (Int) × Unit) : Option (Int × Unit) := sh15 0 x.1 x.2.1
/-! 3 baggage/baggagelaw19.EarlyDecides -/
noncomputable def c3 : Code := Try.f3.body.getD .skip
def g3 : Sig := ⟨[.v (.ty (.int .i64)), .v (.ty (.int .i64)), .v (.ty (.int .i64)), .v (.ty (.int .i64)), .v (.ty (.sl (.cons (.int .i64) (.cons (.int .i64) .nil)))), .v (.ty (.sl (.cons (.int .i64) .nil)))], .v (.ty .bool)⟩
def h3 : HT := (.n (.r .x) (.n (.n (.r .x) (.n (.n (.r .x) .e) .e)) (.n (.r .x) (.n (.r .x) (.j ⟨[(12, .d (.ty .bool))], [], []⟩ (.r .x) .e)))))
noncomputable def FT3 : List (Nat × Entry) := [(6, ⟨g6, sp6⟩), (7, ⟨g7, sp7⟩), (8, ⟨g8, sp8⟩), (9, ⟨g9, sp9⟩), (10, ⟨g10, sp10⟩), (12, ⟨g12, sp12⟩), (13, ⟨g13, sp13⟩), (11, ⟨g11, sp11⟩), (14, ⟨g14, sp14⟩), (15, ⟨g15, sp15⟩)]
noncomputable def IT3 : List (Nat × Inl) := []
def MT3 : MTab := []
noncomputable def sh3_K6 (z6 : Bool × Unit) : Option (Bool × Unit) :=
  some (z6.1, ())
noncomputable def sh3 (fuel : Nat) (x0 : Int) (x1 : Int) (x2 : Int) (x3 : Int) (x4 : List (Int × Int × Unit)) (x5 : List (Int × Unit)) : Option (Bool × Unit) :=
  if decide (100 < (↑x4.length : Int)) = true then (sp6 ()).bind fun (r0 : Bool × Unit) => some (r0.1, ())
  else
    (sp7 (x5, ())).bind fun (r1 : List (Int × Int × Unit) × Unit) =>
      (sp8 (x0, 40, ())).bind fun (r2 : Int × Unit) =>
        (sp8 (x1, 40, ())).bind fun (r3 : Int × Unit) =>
          (sp8 (x2, 10, ())).bind fun (r4 : Int × Unit) =>
            (sp8 (x3, 10, ())).bind fun (r5 : Int × Unit) =>
              joinK sh3_K6 fun (j7 : Bool × Unit → Option (Bool × Unit)) =>
                (sp9 (x0, x1, x2, x3, ())).bind fun (r8 : Bool × Unit) =>
                  (sp10 (x0, x1, x2, x3, ())).bind fun (r9 : Bool × Unit) =>
                    if (r8.1 == r9.1) = true then
                      (sp9 (r2.1, r3.1, r4.1, r5.1, ())).bind fun (r10 : Bool × Unit) =>
                        (sp10 (r2.1, r3.1, r4.1, r5.1, ())).bind fun (r11 : Bool × Unit) =>
                          if (r10.1 == r11.1) = true then
                            (sp12 (x4, ())).bind fun (r12 : List (Int × Unit) × Unit) =>
                              (sp13 (x4, ())).bind fun (r13 : List (Int × Unit) × Unit) =>
                                (sp11 (r12.1, r13.1, ())).bind fun (r14 : Bool × Unit) =>
                                  if r14.1 = true then
                                    (sp12 (r1.1, ())).bind fun (r15 : List (Int × Unit) × Unit) =>
                                      (sp13 (r1.1, ())).bind fun (r16 : List (Int × Unit) × Unit) =>
                                        (sp11 (r15.1, r16.1, ())).bind fun (r17 : Bool × Unit) =>
                                          if r17.1 = true then
                                            (sp14 (x4, x0, ())).bind fun (r18 : Int × Unit) =>
                                              (sp15 (x4, x0, ())).bind fun (r19 : Int × Unit) =>
                                                if (r18.1 == r19.1) = true then
                                                  (sp8 (x0, 8, ())).bind fun (r20 : Int × Unit) =>
                                                    (sp14 (r1.1, r20.1, ())).bind fun (r21 : Int × Unit) =>
                                                      (sp8 (x0, 8, ())).bind fun (r22 : Int × Unit) =>
                                                        (sp15 (r1.1, r22.1, ())).bind fun (r23 : Int × Unit) =>
                                                          if (r21.1 == r23.1) = true then (sp6 ()).bind fun (r24 : Bool × Unit) => j7 (r24.1, ())
                                                          else j7 (false, ())
                                                else j7 (false, ())
                                          else j7 (false, ())
                                  else j7 (false, ())
                          else j7 (false, ())
                    else j7 (false, ())
noncomputable def sp3 (x : (Int) × (Int) × (Int) × (Int) × (List (Int × Int × Unit)) × (List (Int × Unit)) × Unit) : Option (Bool × Unit) := sh3 0 x.1 x.2.1 x.2.2.1 x.2.2.2.1 x.2.2.2.2.1 x.2.2.2.2.2.1
/-! 4 baggage/baggagelaw19.EarlyReleases -/
noncomputable def c4 : Code := Try.f4.body.getD .skip
def g4 : Sig := ⟨[.v (.ty (.sl (.cons (.int .i64) .nil)))], .v (.ty .bool)⟩
def h4 : HT := (.n (.r .x) (.n (.r .x) (.n (.r .x) (.n (.n (.r .x) (.n (.n (.r .x) .e) .e)) (.n (.r .x) (.j ⟨[(3, .d (.ty (.sl (.cons (.int .i64) (.cons (.int .i64) .nil))))), (4, .own 500013), (5, .d (.ty (.int .i64)))], [(500013, .arr (.cons (.int .i64) .nil))], []⟩ (.n (.r .x) (.u (.l ⟨[(3, .d (.ty (.sl (.cons (.int .i64) (.cons (.int .i64) .nil))))), (4, .own 500000), (5, .d (.ty (.int .i64))), (6, .d (.ty (.int .i64)))], [(500000, .arr (.cons (.int .i64) .nil))], []⟩ (.n (.n (.r .x) (.n .e .e)) (.j ⟨[(3, .d (.ty (.sl (.cons (.int .i64) (.cons (.int .i64) .nil))))), (4, .own 500011), (5, .d (.ty (.int .i64))), (6, .d (.ty (.int .i64)))], [(500011, .arr (.cons (.int .i64) .nil))], []⟩ (.u (.n (.r .x) (.u (.l ⟨[(3, .d (.ty (.sl (.cons (.int .i64) (.cons (.int .i64) .nil))))), (4, .own 500001), (5, .d (.ty (.int .i64))), (6, .d (.ty (.int .i64))), (7, .d (.ty (.int .i64)))], [(500001, .arr (.cons (.int .i64) .nil))], []⟩ (.n (.n (.r .x) (.n .e .e)) (.j ⟨[(3, .own 500008), (4, .own 500009), (5, .d (.ty (.int .i64))), (6, .d (.ty (.int .i64)))], [(500008, .arr (.cons (.int .i64) (.cons (.int .i64) .nil))), (500009, .arr (.cons (.int .i64) .nil))], []⟩ (.u (.n (.r .x) (.j ⟨[(3, .d (.ty (.sl (.cons (.int .i64) (.cons (.int .i64) .nil))))), (4, .own 500006), (5, .d (.ty (.int .i64))), (6, .d (.ty (.int .i64))), (7, .d (.ty (.int .i64))), (8, .d (.ty (.int .i64)))], [(500006, .arr (.cons (.int .i64) .nil))], []⟩ (.n (.r .x) (.u (.l ⟨[(3, .d (.ty (.sl (.cons (.int .i64) (.cons (.int .i64) .nil))))), (4, .own 500002), (5, .d (.ty (.int .i64))), (6, .d (.ty (.int .i64))), (7, .d (.ty (.int .i64))), (8, .d (.ty (.int .i64))), (9, .d (.ty (.int .i64)))], [(500002, .arr (.cons (.int .i64) .nil))], []⟩ (.n (.n (.r .x) (.n .e .e)) (.j ⟨[(3, .d (.ty (.sl (.cons (.int .i64) (.cons (.int .i64) .nil))))), (4, .own 500004), (5, .d (.ty (.int .i64))), (6, .d (.ty (.int .i64))), (7, .d (.ty (.int .i64))), (8, .d (.ty (.int .i64))), (9, .d (.ty (.int .i64)))], [(500004, .arr (.cons (.int .i64) .nil))], []⟩ (.u (.j ⟨[(3, .d (.ty (.sl (.cons (.int .i64) (.cons (.int .i64) .nil))))), (4, .own 500003), (5, .d (.ty (.int .i64))), (6, .d (.ty (.int .i64))), (7, .d (.ty (.int .i64))), (8, .d (.ty (.int .i64))), (9, .d (.ty (.int .i64))), (60, .d (.ty .bool))], [(500003, .arr (.cons (.int .i64) .nil))], []⟩ (.r .q) (.n (.r .x) .e))) (.r .x)))))) (.n (.j ⟨[(3, .d (.ty (.sl (.cons (.int .i64) (.cons (.int .i64) .nil))))), (4, .own 500007), (5, .d (.ty (.int .i64))), (6, .d (.ty (.int .i64))), (8, .d (.ty (.int .i64))), (86, .d (.ty .bool))], [(500007, .arr (.cons (.int .i64) .nil))], []⟩ (.r .x) (.n (.n (.r .x) .e) .e)) (.n (.r .x) (.r (.w 9 [(1, 1), (1, 2), (1, 3), (1, 5), (1, 6), (1, 7), (1, 8), (3, 0), (2, 4)]))))))) (.r .x))))))) (.r .x)))))) (.j ⟨[(2, .d (.ty .bool))], [], []⟩ (.r .x) .e)))))))
noncomputable def FT4 : List (Nat × Entry) := [(7, ⟨g7, sp7⟩), (12, ⟨g12, sp12⟩), (14, ⟨g14, sp14⟩), (6, ⟨g6, sp6⟩)]
noncomputable def IT4 : List (Nat × Inl) := []
def MT4 : MTab := []
noncomputable def sh4_K3 (z3 : Bool × Unit) : Option (Bool × Unit) :=
  some (z3.1, ())
noncomputable def sh4_K2 (z2 : List (Int × Int × Unit) × Int × List (Int × Unit) × Unit) : Option (Bool × Unit) :=
  joinK sh4_K3 fun (j4 : Bool × Unit → Option (Bool × Unit)) =>
    if ((↑z2.1.length : Int) == 0) = true then
      if (z2.2.1 == (↑z2.2.2.1.length : Int)) = true then (sp6 ()).bind fun (r5 : Bool × Unit) => j4 (r5.1, ()) else j4 (false, ())
    else j4 (false, ())
noncomputable def sh4_K8 (rc7 : List (Int × Int × Unit) × Int × Int × List (Int × Unit) × Unit → Option (Bool × Unit)) (z8 : List (Int × Int × Unit) × Int × Int × List (Int × Unit) × Unit) : Option (Bool × Unit) :=
  rc7 (z8.1, z8.2.1, IntKind.i64.wrap (z8.2.2.1 + 1), z8.2.2.2.1, ())
noncomputable def sh4_K12 (rc11 : List (Int × Int × Unit) × Int × Int × Int × List (Int × Unit) × Unit → Option (Bool × Unit)) (z12 : Int × Int × List (Int × Int × Unit) × List (Int × Unit) × Unit) : Option (Bool × Unit) :=
  (sp14 (z12.2.2.1, z12.2.1, ())).bind fun (r13 : Int × Unit) => rc11 (z12.2.2.1, z12.1, z12.2.1, r13.1, z12.2.2.2.1, ())
noncomputable def sh4_K16 (j14 : Int × Int × List (Int × Int × Unit) × List (Int × Unit) × Unit → Option (Bool × Unit)) (z16 : List (Int × Int × Unit) × Int × Int × Int × Bool × List (Int × Unit) × Unit) : Option (Bool × Unit) :=
  if z16.2.2.2.2.1 = true then some (false, ())
  else
    if inCut 0 z16.2.2.2.1 z16.1.length = true then
      if inCut (IntKind.i64.wrap (z16.2.2.2.1 + 1)) (↑z16.1.length : Int) z16.1.length = true then
        if decide (0 + (cutL z16.1 0 z16.2.2.2.1).length ≤ Abs.lim) = true then
          if decide ((0 + (cutL z16.1 0 z16.2.2.2.1).length) * 16 ≤ Abs.lim) = true then
            if
                decide ((cutL z16.1 0 z16.2.2.2.1).length + (cutL z16.1 (IntKind.i64.wrap (z16.2.2.2.1 + 1)) (↑z16.1.length : Int)).length ≤ Abs.lim) =
                  true then
              if
                  decide
                      (((cutL z16.1 0 z16.2.2.2.1).length + (cutL z16.1 (IntKind.i64.wrap (z16.2.2.2.1 + 1)) (↑z16.1.length : Int)).length) * 16 ≤
                        Abs.lim) =
                    true then
                j14
                  (IntKind.i64.wrap (z16.2.1 + 1), z16.2.2.1,
                    cutL z16.1 0 z16.2.2.2.1 ++ cutL z16.1 (IntKind.i64.wrap (z16.2.2.2.1 + 1)) (↑z16.1.length : Int), z16.2.2.2.2.2.1, ())
              else none
            else none
          else none
        else none
      else none
    else none
noncomputable def sh4_K15 (j14 : Int × Int × List (Int × Int × Unit) × List (Int × Unit) × Unit → Option (Bool × Unit)) (z15 : List (Int × Int × Unit) × Int × Int × Int × Int × List (Int × Unit) × Unit) : Option (Bool × Unit) :=
  joinK (sh4_K16 j14) fun (j17 : List (Int × Int × Unit) × Int × Int × Int × Bool × List (Int × Unit) × Unit → Option (Bool × Unit)) =>
    if decide (z15.2.2.2.2.1 < 0) = true then j17 (z15.1, z15.2.1, z15.2.2.1, z15.2.2.2.2.1, true, z15.2.2.2.2.2.1, ())
    else
      if decide ((↑z15.2.2.2.2.2.1.length : Int) ≤ z15.2.1) = true then j17 (z15.1, z15.2.1, z15.2.2.1, z15.2.2.2.2.1, true, z15.2.2.2.2.2.1, ())
      else
        if inR z15.2.1 z15.2.2.2.2.2.1.length = true then
          if decide (z15.2.1.toNat + 1 ≤ z15.2.2.2.2.2.1.length) = true then
            if ((z15.2.2.2.2.2.1.getD z15.2.1.toNat (0, ())).1 != z15.2.2.2.1) = true then
              j17 (z15.1, z15.2.1, z15.2.2.1, z15.2.2.2.2.1, true, z15.2.2.2.2.2.1, ())
            else
              if inR z15.2.2.2.2.1 z15.1.length = true then
                j17 (z15.1, z15.2.1, z15.2.2.1, z15.2.2.2.2.1, decide (z15.2.2.1 < (lAt (0, 0, ()) z15.1 z15.2.2.2.2.1).2.1), z15.2.2.2.2.2.1, ())
              else none
          else none
        else none
noncomputable def sh4_K20 (rc19 : List (Int × Int × Unit) × Int × Int × Int × Int × Int × List (Int × Unit) × Unit → Option (Bool × Unit)) (z20 : List (Int × Int × Unit) × Int × Int × Int × Int × Int × List (Int × Unit) × Unit) : Option (Bool × Unit) :=
  rc19 (z20.1, z20.2.1, z20.2.2.1, z20.2.2.2.1, z20.2.2.2.2.1, IntKind.i64.wrap (z20.2.2.2.2.2.1 + 1), z20.2.2.2.2.2.2.1, ())
noncomputable def sh4_K22 (j21 : List (Int × Int × Unit) × Int × Int × Int × Int × Int × List (Int × Unit) × Unit → Option (Bool × Unit)) (z22 : List (Int × Int × Unit) × Int × Int × Int × Int × Int × Bool × List (Int × Unit) × Unit) : Option (Bool × Unit) :=
  if z22.2.2.2.2.2.2.1 = true then j21 (z22.1, z22.2.1, z22.2.2.1, z22.2.2.2.1, z22.2.2.2.2.2.1, z22.2.2.2.2.2.1, z22.2.2.2.2.2.2.2.1, ())
  else j21 (z22.1, z22.2.1, z22.2.2.1, z22.2.2.2.1, z22.2.2.2.2.1, z22.2.2.2.2.2.1, z22.2.2.2.2.2.2.2.1, ())
noncomputable def sh4_L19 (j18 : List (Int × Int × Unit) × Int × Int × Int × Int × List (Int × Unit) × Unit → Option (Bool × Unit)) (rc19 : List (Int × Int × Unit) × Int × Int × Int × Int × Int × List (Int × Unit) × Unit → Option (Bool × Unit)) (z19 : List (Int × Int × Unit) × Int × Int × Int × Int × Int × List (Int × Unit) × Unit) : Option (Bool × Unit) :=
  if decide (z19.2.2.2.2.2.1 < (↑z19.1.length : Int)) = true then
    joinK (sh4_K20 rc19) fun (j21 : List (Int × Int × Unit) × Int × Int × Int × Int × Int × List (Int × Unit) × Unit → Option (Bool × Unit)) =>
      joinK (sh4_K22 j21) fun (j23 : List (Int × Int × Unit) × Int × Int × Int × Int × Int × Bool × List (Int × Unit) × Unit → Option (Bool × Unit)) =>
        if inR z19.2.2.2.2.2.1 z19.1.length = true then
          if ((lAt (0, 0, ()) z19.1 z19.2.2.2.2.2.1).1 == z19.2.2.2.1) = true then
            if decide (z19.2.2.2.2.1 < 0) = true then
              j23 (z19.1, z19.2.1, z19.2.2.1, z19.2.2.2.1, z19.2.2.2.2.1, z19.2.2.2.2.2.1, true, z19.2.2.2.2.2.2.1, ())
            else
              if inR z19.2.2.2.2.2.1 z19.1.length = true then
                if inR z19.2.2.2.2.1 z19.1.length = true then
                  j23
                    (z19.1, z19.2.1, z19.2.2.1, z19.2.2.2.1, z19.2.2.2.2.1, z19.2.2.2.2.2.1,
                      decide ((lAt (0, 0, ()) z19.1 z19.2.2.2.2.2.1).2.1 < (lAt (0, 0, ()) z19.1 z19.2.2.2.2.1).2.1), z19.2.2.2.2.2.2.1, ())
                else none
              else none
          else j23 (z19.1, z19.2.1, z19.2.2.1, z19.2.2.2.1, z19.2.2.2.2.1, z19.2.2.2.2.2.1, false, z19.2.2.2.2.2.2.1, ())
        else none
  else j18 (z19.1, z19.2.1, z19.2.2.1, z19.2.2.2.1, z19.2.2.2.2.1, z19.2.2.2.2.2.2.1, ())
noncomputable def sh4_L11 (fuel : Nat) (j9 : List (Int × Int × Unit) × Int × Int × List (Int × Unit) × Unit → Option (Bool × Unit)) (rc11 : List (Int × Int × Unit) × Int × Int × Int × List (Int × Unit) × Unit → Option (Bool × Unit)) (z11 : List (Int × Int × Unit) × Int × Int × Int × List (Int × Unit) × Unit) : Option (Bool × Unit) :=
  if (z11.2.2.2.1 != 0) = true then
    joinK (sh4_K12 rc11) fun (j14 : Int × Int × List (Int × Int × Unit) × List (Int × Unit) × Unit → Option (Bool × Unit)) =>
      joinK (sh4_K15 j14) fun (j18 : List (Int × Int × Unit) × Int × Int × Int × Int × List (Int × Unit) × Unit → Option (Bool × Unit)) =>
        iter fuel (sh4_L19 j18) (z11.1, z11.2.1, z11.2.2.1, z11.2.2.2.1, -1, 0, z11.2.2.2.2.1, ())
  else j9 (z11.1, z11.2.1, z11.2.2.1, z11.2.2.2.2.1, ())
noncomputable def sh4_L7 (fuel : Nat) (j6 : List (Int × Int × Unit) × Int × List (Int × Unit) × Unit → Option (Bool × Unit)) (rc7 : List (Int × Int × Unit) × Int × Int × List (Int × Unit) × Unit → Option (Bool × Unit)) (z7 : List (Int × Int × Unit) × Int × Int × List (Int × Unit) × Unit) : Option (Bool × Unit) :=
  if decide (z7.2.2.1 < 6) = true then
    joinK (sh4_K8 rc7) fun (j9 : List (Int × Int × Unit) × Int × Int × List (Int × Unit) × Unit → Option (Bool × Unit)) =>
      (sp14 (z7.1, z7.2.2.1, ())).bind fun (r10 : Int × Unit) => iter fuel (sh4_L11 fuel j9) (z7.1, z7.2.1, z7.2.2.1, r10.1, z7.2.2.2.1, ())
  else j6 (z7.1, z7.2.1, z7.2.2.2.1, ())
noncomputable def sh4 (fuel : Nat) (x0 : List (Int × Unit)) : Option (Bool × Unit) :=
  (sp7 (x0, ())).bind fun (r0 : List (Int × Int × Unit) × Unit) =>
    (sp12 (r0.1, ())).bind fun (r1 : List (Int × Unit) × Unit) =>
      if ((↑r1.1.length : Int) != (↑r0.1.length : Int)) = true then some (false, ())
      else
        joinK sh4_K2 fun (j6 : List (Int × Int × Unit) × Int × List (Int × Unit) × Unit → Option (Bool × Unit)) =>
          iter fuel (sh4_L7 fuel j6) (r0.1, 0, 0, r1.1, ())
noncomputable def sp4 (x : List (Int × Unit) × Unit) : Option (Bool × Unit) := some (true, ())
/-! 5 baggage/baggagelaw19.EarlyMargin -/
noncomputable def c5 : Code := Try.f5.body.getD .skip
def g5 : Sig := ⟨[.v (.ty (.int .i64)), .v (.ty (.int .i64)), .v (.ty (.int .i64)), .v (.ty (.int .i64))], .v (.ty .bool)⟩
def h5 : HT := (.n (.r .x) (.n (.r .x) (.n (.r .x) (.j ⟨[(8, .d (.ty .bool))], [], []⟩ (.r .x) .e))))
noncomputable def FT5 : List (Nat × Entry) := [(8, ⟨g8, sp8⟩), (9, ⟨g9, sp9⟩), (6, ⟨g6, sp6⟩)]
noncomputable def IT5 : List (Nat × Inl) := []
def MT5 : MTab := []
noncomputable def sh5_K5 (z5 : Bool × Unit) : Option (Bool × Unit) :=
  some (z5.1, ())
noncomputable def sh5 (fuel : Nat) (x0 : Int) (x1 : Int) (x2 : Int) (x3 : Int) : Option (Bool × Unit) :=
  (sp8 (x0, 100, ())).bind fun (r0 : Int × Unit) =>
    (sp8 (x1, 200, ())).bind fun (r1 : Int × Unit) =>
      (sp8 (x2, 50, ())).bind fun (r2 : Int × Unit) =>
        (sp8 (x3, 50, ())).bind fun (r3 : Int × Unit) =>
          (sp9 (r0.1, r1.1, r2.1, r3.1, ())).bind fun (r4 : Bool × Unit) =>
            joinK sh5_K5 fun (j6 : Bool × Unit → Option (Bool × Unit)) =>
              if (r4.1 == decide (IntKind.i64.wrap (r0.1 + r2.1) < IntKind.i64.wrap (r1.1 - r3.1))) = true then
                if r4.1 = true then
                  if (!r4.1) = true then (sp6 ()).bind fun (r7 : Bool × Unit) => j6 (r7.1, ())
                  else
                    (sp9 (r0.1, IntKind.i64.wrap (r1.1 + 1), r2.1, r3.1, ())).bind fun (r8 : Bool × Unit) =>
                      if r8.1 = true then (sp6 ()).bind fun (r9 : Bool × Unit) => j6 (r9.1, ()) else j6 (false, ())
                else
                  (sp9 (IntKind.i64.wrap (r0.1 + 1), r1.1, r2.1, r3.1, ())).bind fun (r10 : Bool × Unit) =>
                    if (!r10.1) = true then
                      if (!r4.1) = true then (sp6 ()).bind fun (r11 : Bool × Unit) => j6 (r11.1, ())
                      else
                        (sp9 (r0.1, IntKind.i64.wrap (r1.1 + 1), r2.1, r3.1, ())).bind fun (r12 : Bool × Unit) =>
                          if r12.1 = true then (sp6 ()).bind fun (r13 : Bool × Unit) => j6 (r13.1, ()) else j6 (false, ())
                    else j6 (false, ())
              else j6 (false, ())
noncomputable def sp5 (x : (Int) × (Int) × (Int) × (Int) × Unit) : Option (Bool × Unit) := sh5 0 x.1 x.2.1 x.2.2.1 x.2.2.2.1
end Go.Proofs.Ytkppmjplkjakkaa
