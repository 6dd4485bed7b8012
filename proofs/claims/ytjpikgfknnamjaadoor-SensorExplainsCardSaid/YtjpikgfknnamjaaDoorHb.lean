import Derived.Test.YtjpikgfknnamjaaDoorHa
import Derived.KernelRfl
open Go Go.Proofs Go.Abs
set_option linter.unusedVariables false
set_option maxRecDepth 100000
namespace Go.Proofs.YtjpikgfknnamjaaDoor
def lft : Code → Code
 | .seq a _ => a
 | _ => .skip
def rgt : Code → Code
 | .seq _ b => b
 | _ => .skip
noncomputable def c20 : Code := Tryd.f20.body.getD .skip
noncomputable def c44 : Code := Tryd.f44.body.getD .skip
noncomputable def C20 : Code := rgt (rgt (rgt c20))
def P20 : Plan := ⟨[(2, .d (.ty (.sl (.cons (.int .i64) (.cons (.int .i64) (.cons (.int .i64) .nil)))))), (4, .ref 500005 2), (5, .ref 500006 2), (7, .ref 500007 3), (8, .ref 500008 1), (9, .ref 500009 1), (57, .d (.ty .bool))], [(500005, .box [.d (.sl (.cons .str (.cons (.int .i64) (.cons (.int .i64) (.cons (.int .i64) (.cons (.sl (.cons (.int .i64) .nil)) .nil)))))), .d (.sl (.cons (.int .i64) (.cons (.int .i64) (.cons (.int .i64) .nil))))]), (500006, .box [.d (.sl (.cons (.sl (.cons (.int .i64) .nil)) .nil)), .d (.sl (.cons (.sl (.cons (.int .i64) .nil)) .nil))]), (500007, .box [.d (.int .i64), .d .bool, .d .str]), (500008, .box [.d (.int .i64)]), (500009, .box [.d .bool])], []⟩
def O20 : Plan := ⟨[(2, .d (.ty (.sl (.cons (.int .i64) (.cons (.int .i64) (.cons (.int .i64) .nil)))))), (4, .ref 500000 2), (5, .ref 500001 2), (7, .ref 500002 3), (8, .ref 500003 1), (9, .ref 500004 1), (23, .d (.ty .bool))], [(500000, .box [.d (.sl (.cons .str (.cons (.int .i64) (.cons (.int .i64) (.cons (.int .i64) (.cons (.sl (.cons (.int .i64) .nil)) .nil)))))), .d (.sl (.cons (.int .i64) (.cons (.int .i64) (.cons (.int .i64) .nil))))]), (500001, .box [.d (.sl (.cons (.sl (.cons (.int .i64) .nil)) .nil)), .d (.sl (.cons (.sl (.cons (.int .i64) .nil)) .nil))]), (500002, .box [.d (.int .i64), .d .bool, .d .str]), (500003, .box [.d (.int .i64)]), (500004, .box [.d .bool])], []⟩
def h9_20 : HT := .ri .x [(69, 0, (.n (.r .x) (.n (.r .x) .e)))]
noncomputable def IT20 : List (Nat × Inl) := [(44, ⟨4, [.tmp 2], c44⟩)]
noncomputable def FTc (v : VW) (r : RP) : List (Nat × Entry) := [(30, ⟨g30, fun _ => some (v, ())⟩), (34, ⟨g34, fun _ => some (r, ())⟩)]
noncomputable def FT20 : List (Nat × Entry) := [(30, ⟨g30, sp30⟩), (34, ⟨g34, sp34⟩)]
noncomputable def S20 (fuel : Nat) (z : P20.T) (v : VW) (r : RP) : SS :=
 match exec ⟨G, 74, fuel, []⟩ (FTc v r) [] (exJ (FTc v r) [] IT20 8) (.seq (lft C20) (.seq (lft (lft (rgt C20))) (lft (lft (rgt (rgt C20)))))) (.n (.r .x) (.n (.r .q) h9_20)) (P20.enc z) (fun _ s => some s) with
 | some s => s
 | none => ⟨[], []⟩
noncomputable def KT (e : Exit) (s : SS) : Option (g20.R ⊕ SS) := match e with
 | .normal => some (.inr s)
 | e => (finK ⟨G, 74, 0, []⟩ g20 [.cell 8 3, .cell 9 4] e s).map .inl
noncomputable def PRE : Code := .seq (lft c20) (.seq (lft (rgt c20)) (.seq (lft (rgt (rgt c20))) (.seq (lft C20) (.seq (lft (rgt C20)) (lft (lft (rgt (rgt C20))))))))
def hX : HT := .n (.n (.r .x) .e) .e
def hPRE : HT := .n (.r .x) (.n (.j O20 (.r .x) hX) (.n (.n (.r .x) (.j P20 (.r .q) hX)) (.n (.r .x) (.n (.n (.r .q) hX) h9_20))))
noncomputable def q20b (z1 : P20.T) : Option (g20.R ⊕ SS) :=
 if z1.2.1 = true then some (.inl ((0, false, ()), ()))
 else
  (sp30 (z1.2.2.1, z1.2.2.2.1, z1.1, z1.2.2.2.2.1.1, ())).bind fun r2 =>
   (sp34 r2).bind fun r3 =>
    if (z1.2.2.2.2.1.1 == r3.1.1 && (z1.2.2.2.2.1.2.1 == r3.1.2.1 && (z1.2.2.2.2.1.2.2.1 == r3.1.2.2.1 && true))) = true then some (.inl ((0, true, ()), ()))
    else some (.inr (S20 0 z1 r2.1 r3.1))
noncomputable def q20a (z0 : P20.T) : Option (g20.R ⊕ SS) :=
 if z0.2.1 = true then some (.inl ((0, false, ()), ()))
 else
  if inR z0.2.2.2.2.1.1 z0.2.2.1.2.1.length = true then
   joinK q20b fun j4 =>
    if decide ((lAt (0, 0, 0, ()) z0.2.2.1.2.1 z0.2.2.2.2.1.1).2.1 < 0) = true then j4 (z0.1, true, z0.2.2)
    else
     if decide ((↑z0.2.2.2.1.1.length : Int) ≤ (lAt (0, 0, 0, ()) z0.2.2.1.2.1 z0.2.2.2.2.1.1).2.1) = true then j4 (z0.1, true, z0.2.2)
     else
      if decide ((lAt (0, 0, 0, ()) z0.2.2.1.2.1 z0.2.2.2.2.1.1).2.2.1 < 0) = true then j4 (z0.1, true, z0.2.2)
      else
       if inR (lAt (0, 0, 0, ()) z0.2.2.1.2.1 z0.2.2.2.2.1.1).2.1 z0.2.2.2.1.1.length = true then
        j4
         (z0.1,
          decide
           ((↑(List.length (lAt ([], ()) z0.2.2.2.1.1 (lAt (0, 0, 0, ()) z0.2.2.1.2.1 z0.2.2.2.2.1.1).2.1).1) : Int) ≤
            (lAt (0, 0, 0, ()) z0.2.2.1.2.1 z0.2.2.2.2.1.1).2.2.1),
          z0.2.2)
       else none
  else none
noncomputable def q20 (x0 : Ty7) (x1 : Ty5) (x2 : List Ty2) (x3 : Ty0) : Option (g20.R ⊕ SS) :=
 joinK q20a fun j5 =>
  if decide (x3.1 < 0) = true then j5 (x2, true, x0, x1, x3, (0, ()), (false, ()), ())
  else j5 (x2, decide ((↑x0.2.1.length : Int) ≤ x3.1), x0, x1, x3, (0, ()), (false, ()), ())
theorem pre20 (x0 : Ty7) (x1 : Ty5) (x2 : List Ty2) (x3 : Ty0) : exec ⟨G, 74, 0, []⟩ FT20 [] (exJ FT20 [] IT20 8) PRE hPRE ⟨argE g20.args 0 (x0, x1, x2, x3, ()), argO g20.args 0 (x0, x1, x2, x3, ())⟩ KT = q20 x0 x1 x2 x3 := by kernel_rfl
theorem st69 (z : P20.T) (v : VW) (r : RP) : lkE (S20 0 z v r).env 69 = .v (.c (.wrp (some 55, 0) [(75, 4)])) := by kernel_rfl
theorem st8 (z : P20.T) (v : VW) (r : RP) : lkE (S20 0 z v r).env 8 = .v (.c (.ref 500008 1 0 0)) := by kernel_rfl
theorem st9 (z : P20.T) (v : VW) (r : RP) : lkE (S20 0 z v r).env 9 = .v (.c (.ref 500009 1 0 0)) := by kernel_rfl
theorem st7 (z : P20.T) (v : VW) (r : RP) : lkE (S20 0 z v r).env 7 = .v (.c (.ref 500007 3 0 0)) := by kernel_rfl
theorem ob75 (z : P20.T) (v : VW) (r : RP) : Go.Abs.look 75 ((S20 0 z v r).st 74).objs = some (Go.Abs.Obj.box [.int .i64 v.1, .int .i64 v.2.1, .int .i64 v.2.2.1, .str v.2.2.2.1]) := by kernel_rfl
theorem ob7 (z : P20.T) (v : VW) (r : RP) : Go.Abs.look 500007 ((S20 0 z v r).st 74).objs = some (Go.Abs.Obj.box [.int .i64 z.2.2.2.2.1.1, .bool z.2.2.2.2.1.2.1, .str z.2.2.2.2.1.2.2.1]) := by kernel_rfl
theorem ob8 (z : P20.T) (v : VW) (r : RP) : Go.Abs.look 500008 ((S20 0 z v r).st 74).objs = some (Go.Abs.Obj.box [.int .i64 z.2.2.2.2.2.1.1]) := by kernel_rfl
theorem ob9 (z : P20.T) (v : VW) (r : RP) : Go.Abs.look 500009 ((S20 0 z v r).st 74).objs = some (Go.Abs.Obj.box [.bool z.2.2.2.2.2.2.1.1]) := by kernel_rfl
end Go.Proofs.YtjpikgfknnamjaaDoor
