/- Walks: the functions of the program, each as a typed contract. -/
import Derived.Test.YtplngcjkghnkcaaWa
import Derived.KernelRfl
open Go Go.Proofs Go.Abs
set_option linter.unusedVariables false
set_option maxRecDepth 100000
namespace Go.Proofs.Ytplngcjkghnkcaa
/-! 22 baggage/baggagekeep.New -/
def g22 : Sig := ⟨[.v (.ty (.sl (.cons (.int .i64) .nil)))], .box (.cons (.sl (.cons (.int .i64) .nil)) (.cons (.int .i64) .nil))⟩
def h22 : HT := (.n (.r .x) (.j ⟨[(0, .d (.ty (.sl (.cons (.int .i64) .nil))))], []⟩ (.n (.r .x) (.n (.r .x) .e)) (.n (.r .x) .e)))
noncomputable def c22 : Code := Try.f22.body.getD .skip
noncomputable def FT22 : List (Nat × Entry) := []
noncomputable def sh22_K0 (z0 : List (Int × Unit) × Unit) : Option ((List (Int × Unit) × Int × Unit) × Unit) :=
  some ((z0.1, 0, ()), ())
noncomputable def sh22 (fuel : Nat) (x0 : List (Int × Unit)) : Option ((List (Int × Unit) × Int × Unit) × Unit) :=
  joinK sh22_K0 fun (j1 : List (Int × Unit) × Unit → Option ((List (Int × Unit) × Int × Unit) × Unit)) =>
    if decide (2000 < (↑x0.length : Int)) = true then if inCut 0 2000 x0.length = true then j1 (cutL x0 0 2000, ()) else none else j1 (x0, ())
theorem ex22 (fuel : Nat) (x0 : (g22.args.getD 0 (.v (.ty .bool))).T) : call G FT22 g22 11 [.tmp 2] c22 h22 fuel (x0, ()) = sh22 fuel x0 := by kernel_rfl
noncomputable def sp22 (x : (List (Int × Unit)) × Unit) : Option ((List (Int × Unit) × Int × Unit) × Unit) := sh22 0 x.1
theorem fo22 : funOk Try.prog 22 = true := by kernel_rfl
theorem ft22 : FTok Try.prog FT22 := FTok_nil
theorem tc22 : TC Try.prog 22 ⟨g22, sp22⟩ := tc_of (N := 11) (rv := [.tmp 2]) (c := c22) (h := h22) good ft22 wide Try.func22 (by kernel_rfl) rfl (by kernel_rfl) (by decide) (by kernel_rfl) (by kernel_rfl) fun x r h => ⟨0, (ex22 0 x.1).trans h⟩
theorem e22 (l : List (Int × Unit)) : ∃ s : SrcT, sp22 (l, ()) = some (s, ()) ∧ okS s := by
  show ∃ s : SrcT, sh22 0 l = some (s, ()) ∧ okS s
  unfold sh22
  dsimp only [joinK]
  by_cases h : (2000 : Int) < l.length
  · refine ⟨(cutL l 0 2000, 0, ()), ?_, Int.le_refl _, by simp, by simp [cutL]; omega⟩
    rw [if_pos (by simpa using h), if_pos (by simp [inCut]; omega)]
    rfl
  · refine ⟨(l, 0, ()), ?_, Int.le_refl _, by simp, by show l.length ≤ 2000; omega⟩
    rw [if_neg (by simpa using h)]
    rfl
/-! 42 (*baggage/baggagekeep.Src).Raw -/
def g42 : Sig := ⟨[.bx (.cons (.sl (.cons (.int .i64) .nil)) (.cons (.int .i64) .nil))], .v (.ty (.int .i64))⟩
def h42 : HT := (.n (.r .x) (.n (.n (.r .q) (.n (.n (.r .x) .e) .e)) (.n (.r .x) (.n (.r .q) .e))))
noncomputable def c42 : Code := Try.f42.body.getD .skip
noncomputable def FT42 : List (Nat × Entry) := []
noncomputable def sh42 (fuel : Nat) (x0 : List (Int × Unit) × Int × Unit) : Option (Int × (List (Int × Unit) × Int × Unit) × Unit) :=
  if decide ((↑x0.1.length : Int) ≤ x0.2.1) = true then some (0, (x0.1, x0.2.1, ()), ())
  else
    if inR (IntKind.i64.wrap (IntKind.i64.wrap (x0.2.1 + 1) - 1)) x0.1.length = true then
      some ((lAt (0, ()) x0.1 (IntKind.i64.wrap (IntKind.i64.wrap (x0.2.1 + 1) - 1))).1, (x0.1, IntKind.i64.wrap (x0.2.1 + 1), ()), ())
    else none
theorem ex42 (fuel : Nat) (x0 : (g42.args.getD 0 (.v (.ty .bool))).T) : call G FT42 g42 31 [.tmp 2] c42 h42 fuel (x0, ()) = sh42 fuel x0 := by kernel_rfl
noncomputable def sp42 (x : (List (Int × Unit) × Int × Unit) × Unit) : Option (Int × (List (Int × Unit) × Int × Unit) × Unit) := sh42 0 x.1
theorem fo42 : funOk Try.prog 42 = true := by kernel_rfl
theorem ft42 : FTok Try.prog FT42 := FTok_nil
theorem tc42 : TC Try.prog 42 ⟨g42, sp42⟩ := tc_of (N := 31) (rv := [.tmp 2]) (c := c42) (h := h42) good ft42 wide Try.func42 (by kernel_rfl) rfl (by kernel_rfl) (by decide) (by kernel_rfl) (by kernel_rfl) fun x r h => ⟨0, (ex42 0 x.1).trans h⟩
theorem e42 (s : SrcT) (h : okS s) : ∃ v s', sp42 ((s.1, s.2.1, ()), ()) = some (v, s', ()) ∧ okS s' := by
  obtain ⟨l, p, u⟩ := s
  obtain ⟨h1, h2, h3⟩ := h
  dsimp only at h1 h2 h3
  show ∃ v s', sh42 0 (l, p, ()) = some (v, s', ()) ∧ okS s'
  unfold sh42
  by_cases h : (l.length : Int) ≤ p
  · exact ⟨0, (l, p, ()), by rw [if_pos (by simpa using h)], h1, h2, h3⟩
  · have hw : IntKind.i64.wrap (p + 1) = p + 1 := wrapI (by omega) (by omega)
    have hw2 : IntKind.i64.wrap (p + 1 - 1) = p := by rw [wrapI (by omega) (by omega)]; omega
    refine ⟨(lAt (0, ()) l p).1, (l, p + 1, ()), ?_, by show 0 ≤ p + 1; omega, by show p + 1 ≤ l.length; omega, h3⟩
    rw [if_neg (by simpa using h)]
    dsimp only
    rw [hw, hw2, if_pos (by simp [inR]; omega)]
/-! 24 (*baggage/baggagekeep.Src).N -/
def g24 : Sig := ⟨[.bx (.cons (.sl (.cons (.int .i64) .nil)) (.cons (.int .i64) .nil)), .v (.ty (.int .i64))], .v (.ty (.int .i64))⟩
def h24 : HT := (.n (.r .x) (.n (.r .x) .e))
noncomputable def c24 : Code := Try.f24.body.getD .skip
noncomputable def FT24 : List (Nat × Entry) := [(42, ⟨g42, sp42⟩), (10, ⟨g10, sp10⟩)]
noncomputable def sh24 (fuel : Nat) (x0 : List (Int × Unit) × Int × Unit) (x1 : Int) : Option (Int × (List (Int × Unit) × Int × Unit) × Unit) :=
  (sp42 ((x0.1, x0.2.1, ()), ())).bind fun (r0 : Int × (List (Int × Unit) × Int × Unit) × Unit) =>
    (sp10 (r0.1, x1, ())).bind fun (r1 : Int × Unit) => some (r1.1, (r0.2.1.1, r0.2.1.2.1, ()), ())
theorem ex24 (fuel : Nat) (x0 : (g24.args.getD 0 (.v (.ty .bool))).T) (x1 : (g24.args.getD 1 (.v (.ty .bool))).T) : call G FT24 g24 9 [.tmp 4] c24 h24 fuel (x0, x1, ()) = sh24 fuel x0 x1 := by kernel_rfl
noncomputable def sp24 (x : (List (Int × Unit) × Int × Unit) × (Int) × Unit) : Option (Int × (List (Int × Unit) × Int × Unit) × Unit) := sh24 0 x.1 x.2.1
theorem fo24 : funOk Try.prog 24 = true := by kernel_rfl
theorem ft24 : FTok Try.prog FT24 := FTok_cons fo42 tc42 (FTok_cons fo10 tc10 (FTok_nil))
theorem tc24 : TC Try.prog 24 ⟨g24, sp24⟩ := tc_of (N := 9) (rv := [.tmp 4]) (c := c24) (h := h24) good ft24 wide Try.func24 (by kernel_rfl) rfl (by kernel_rfl) (by decide) (by kernel_rfl) (by kernel_rfl) fun x r h => ⟨0, (ex24 0 x.1 x.2.1).trans h⟩
theorem e24 (s : SrcT) (n : Int) (h : okS s) (h1 : 1 ≤ n) (h2 : n ≤ 1000000) : ∃ m s', sp24 ((s.1, s.2.1, ()), n, ()) = some (m, s', ()) ∧ 0 ≤ m ∧ m < n ∧ okS s' := by
  obtain ⟨v, s', hs, ho⟩ := e42 s h
  obtain ⟨m, hm, hm1, hm2⟩ := e10 v n h1 h2
  refine ⟨m, s', ?_, hm1, hm2, ho⟩
  show sh24 0 (s.1, s.2.1, ()) n = _
  unfold sh24
  dsimp only
  rw [hs, Option.bind_some, hm, Option.bind_some]
/-! 23 (*baggage/baggagekeep.Src).Range -/
def g23 : Sig := ⟨[.bx (.cons (.sl (.cons (.int .i64) .nil)) (.cons (.int .i64) .nil)), .v (.ty (.int .i64)), .v (.ty (.int .i64))], .v (.ty (.int .i64))⟩
def h23 : HT := (.n (.r .x) (.n (.r .x) .e))
noncomputable def c23 : Code := Try.f23.body.getD .skip
noncomputable def FT23 : List (Nat × Entry) := [(24, ⟨g24, sp24⟩)]
noncomputable def sh23 (fuel : Nat) (x0 : List (Int × Unit) × Int × Unit) (x1 : Int) (x2 : Int) : Option (Int × (List (Int × Unit) × Int × Unit) × Unit) :=
  (sp24 ((x0.1, x0.2.1, ()), IntKind.i64.wrap (IntKind.i64.wrap (x2 - x1) + 1), ())).bind fun (r0 : Int × (List (Int × Unit) × Int × Unit) × Unit) =>
    some (IntKind.i64.wrap (x1 + r0.1), (r0.2.1.1, r0.2.1.2.1, ()), ())
theorem ex23 (fuel : Nat) (x0 : (g23.args.getD 0 (.v (.ty .bool))).T) (x1 : (g23.args.getD 1 (.v (.ty .bool))).T) (x2 : (g23.args.getD 2 (.v (.ty .bool))).T) : call G FT23 g23 15 [.tmp 6] c23 h23 fuel (x0, x1, x2, ()) = sh23 fuel x0 x1 x2 := by kernel_rfl
noncomputable def sp23 (x : (List (Int × Unit) × Int × Unit) × (Int) × (Int) × Unit) : Option (Int × (List (Int × Unit) × Int × Unit) × Unit) := sh23 0 x.1 x.2.1 x.2.2.1
theorem fo23 : funOk Try.prog 23 = true := by kernel_rfl
theorem ft23 : FTok Try.prog FT23 := FTok_cons fo24 tc24 (FTok_nil)
theorem tc23 : TC Try.prog 23 ⟨g23, sp23⟩ := tc_of (N := 15) (rv := [.tmp 6]) (c := c23) (h := h23) good ft23 wide Try.func23 (by kernel_rfl) rfl (by kernel_rfl) (by decide) (by kernel_rfl) (by kernel_rfl) fun x r h => ⟨0, (ex23 0 x.1 x.2.1 x.2.2.1).trans h⟩
theorem e23 (s : SrcT) (a b : Int) (h : okS s) (h0 : -1000000 ≤ a) (h1 : a ≤ b) (h2 : b ≤ 100000) (h3 : b - a < 1000000) : ∃ m s', sp23 ((s.1, s.2.1, ()), a, b, ()) = some (m, s', ()) ∧ a ≤ m ∧ m ≤ b ∧ okS s' := by
  obtain ⟨m, s', hs, hm1, hm2, ho⟩ := e24 s (b - a + 1) h (by omega) (by omega)
  refine ⟨a + m, s', ?_, by omega, by omega, ho⟩
  show sh23 0 (s.1, s.2.1, ()) a b = _
  unfold sh23
  dsimp only
  rw [wrapI (x := b - a) (by omega) (by omega), wrapI (x := b - a + 1) (by omega) (by omega), hs, Option.bind_some]
  dsimp only
  rw [wrapI (by omega) (by omega)]
/-! 27 baggage/plate.Matches -/
def g27 : Sig := ⟨[.v (.ty .str), .v (.ag (.cons (.int .i64) (.cons (.int .i64) (.cons (.int .i64) .nil))))], .v (.ty .bool)⟩
def h27 : HT := (.n (.r .x) (.n (.r .x) (.n (.j ⟨[(0, .d (.ty .str)), (5, .d (.ty .str)), (15, .d (.ty .bool))], []⟩ (.r .x) (.n (.n (.r .x) .e) .e)) (.j ⟨[], []⟩ (.n (.r .x) (.u (.l ⟨[(0, .d (.ty .str)), (5, .d (.ty .str)), (16, .d (.ty (.int .i64)))], []⟩ (.n (.r .x) (.n (.n .e .e) (.n (.u (.n (.r .x) (.j ⟨[(0, .d (.ty .str)), (5, .d (.ty .str)), (16, .d (.ty (.int .i64))), (31, .d (.ty .bool))], []⟩ (.r .q) (.n (.n (.r .x) .e) .e)))) (.r .x))))))) (.n (.r .x) .e)))))
noncomputable def c27 : Code := Try.f27.body.getD .skip
noncomputable def FT27 : List (Nat × Entry) := [(12, ⟨g12, sp12⟩)]
noncomputable def sh27_K2 (z2 : Unit) : Option (Bool × Unit) :=
  some (true, ())
noncomputable def sh27_K5 (rc4 : List UInt8 × List UInt8 × Int × Unit → Option (Bool × Unit)) (z5 : List UInt8 × List UInt8 × Int × Bool × Unit) : Option (Bool × Unit) :=
  if z5.2.2.2.1 = true then some (false, ()) else rc4 (z5.1, z5.2.1, IntKind.i64.wrap (z5.2.2.1 + 1), ())
noncomputable def sh27_L4 (j3 : Unit → Option (Bool × Unit)) (rc4 : List UInt8 × List UInt8 × Int × Unit → Option (Bool × Unit)) (z4 : List UInt8 × List UInt8 × Int × Unit) : Option (Bool × Unit) :=
  if decide (z4.2.2.1 < 10) = true then
    joinK (sh27_K5 rc4) fun (j6 : List UInt8 × List UInt8 × Int × Bool × Unit → Option (Bool × Unit)) =>
      if inR z4.2.2.1 z4.1.length = true then
        if (sAt z4.1 z4.2.2.1 != 63) = true then
          if inR z4.2.2.1 z4.1.length = true then
            if inR z4.2.2.1 z4.2.1.length = true then j6 (z4.1, z4.2.1, z4.2.2.1, sAt z4.1 z4.2.2.1 != sAt z4.2.1 z4.2.2.1, ()) else none
          else none
        else j6 (z4.1, z4.2.1, z4.2.2.1, false, ())
      else none
  else j3 ()
noncomputable def sh27_K1 (fuel : Nat) (z1 : List UInt8 × List UInt8 × Bool × Unit) : Option (Bool × Unit) :=
  if z1.2.2.1 = true then some (false, ()) else joinK sh27_K2 fun (j3 : Unit → Option (Bool × Unit)) => iter fuel (sh27_L4 j3) (z1.1, z1.2.1, 0, ())
noncomputable def sh27 (fuel : Nat) (x0 : List UInt8) (x1 : Int × Int × Int × Unit) : Option (Bool × Unit) :=
  (sp12 ((x1.1, x1.2.1, x1.2.2.1, ()), ())).bind fun (r0 : List UInt8 × Unit) =>
    joinK (sh27_K1 fuel) fun (j7 : List UInt8 × List UInt8 × Bool × Unit → Option (Bool × Unit)) =>
      if ((↑x0.length : Int) != 10) = true then j7 (x0, r0.1, true, ()) else j7 (x0, r0.1, r0.1 == [], ())
theorem ex27 (fuel : Nat) (x0 : (g27.args.getD 0 (.v (.ty .bool))).T) (x1 : (g27.args.getD 1 (.v (.ty .bool))).T) : call G FT27 g27 33 [.tmp 4] c27 h27 fuel (x0, x1, ()) = sh27 fuel x0 x1 := by kernel_rfl
noncomputable def sp27 (x : List UInt8 × Pl × Unit) : Option (Bool × Unit) := some (mtch x.1 (fmt x.2.1.1 x.2.1.2.1 x.2.1.2.2.1), ())
theorem e27 (p : List UInt8) (a b c : Int) : sp27 (p, (a, b, c, ()), ()) = some (mtch p (fmt a b c), ()) := rfl
theorem lo27a (p : List UInt8) (a b c : Int) : sh27 11 p (a, b, c, ()) = some (mtch p (fmt a b c), ()) := by
  unfold sh27
  dsimp only [joinK]
  rw [e12, Option.bind_some]
  by_cases hp : p.length = 10
  case neg =>
    rw [if_pos (by simp; omega)]
    simp only [sh27_K1, if_true]
    simp [mtch, hp]
  rw [if_neg (by simp; omega)]
  simp only [sh27_K1]
  cases hv : vldB a b c with
  | false => simp [fmt, hv, mtch]
  | true =>
    have hl := fmt_len hv
    have hm : mtch p (fmt a b c) = fits p (fmt a b c) 10 := by simp [mtch, hp, fmt_ne hv]
    rw [fmt_ne hv, hm]
    generalize fmt a b c = t at *
    rw [if_neg (by decide)]
    dsimp only [joinK]
    refine iter_inv (F := sh27_L4 sh27_K2) (fun k => (p, t, (k : Int), ())) (fun k => fits p t k = true) 10 11 (by decide) rfl (fun rc k hk hi => ?_) (fun rc hi => ?_)
    · simp only [sh27_L4, joinK]
      rw [if_pos (by simp; omega), if_pos (inR_nat (by omega)), sAt_nat, sAt_nat]
      have h63 : (((p.getD k 0).toNat : Int) != 63) = !(p.getD k 0 == 63) := byte_ne _ 63
      rw [h63, byte_ne]
      cases hx : (p.getD k 0 == 63 || p.getD k 0 == t.getD k 0) with
      | true =>
        refine .inl ⟨?_, by rw [fits_succ, hi, hx]; rfl⟩
        cases h1 : p.getD k 0 == 63 with
        | true =>
          rw [if_neg (by decide)]
          simp only [sh27_K5]
          rw [if_neg (by decide), up1 (show k < 10 by omega) (by decide)]
        | false =>
          rw [h1, Bool.false_or] at hx
          rw [if_pos (by decide), if_pos (inR_nat (by omega)), if_pos (inR_nat (by omega)), hx]
          simp only [sh27_K5]
          rw [if_neg (by decide), up1 (show k < 10 by omega) (by decide)]
      | false =>
        refine .inr ?_
        rw [fits_false hk hx]
        rw [Bool.or_eq_false_iff] at hx
        rw [hx.1, hx.2, if_pos (by decide), if_pos (inR_nat (by omega)), if_pos (inR_nat (by omega))]
        rfl
    · simp only [sh27_L4]
      rw [if_neg (by simp), hi]
      rfl
theorem lo27 (x r) (h : sp27 x = some r) : ∃ fuel, sh27 fuel x.1 x.2.1 = some r := by
  obtain ⟨p, ⟨a, b, c, u⟩, u'⟩ := x
  cases h
  exact ⟨11, lo27a p a b c⟩
theorem fo27 : funOk Try.prog 27 = true := by kernel_rfl
theorem ft27 : FTok Try.prog FT27 := FTok_cons fo12 tc12 (FTok_nil)
theorem tc27 : TC Try.prog 27 ⟨g27, sp27⟩ := tc_of (N := 33) (rv := [.tmp 4]) (c := c27) (h := h27) good ft27 wide Try.func27 (by kernel_rfl) rfl (by kernel_rfl) (by decide) (by kernel_rfl) (by kernel_rfl) fun x r h => (lo27 x r h).imp fun fuel hf => (ex27 fuel x.1 x.2.1).trans hf
/-! 25 baggage/plate.Candidates -/
def g25 : Sig := ⟨[.v (.ty .str), .v (.ty (.sl (.cons (.int .i64) (.cons (.int .i64) (.cons (.int .i64) .nil)))))], .own (.cons (.int .i64) .nil)⟩
def h25 : HT := (.n (.r .x) (.n (.r .x) (.j ⟨[(5, .own 500003)], [(500003, .arr (.cons (.int .i64) .nil))]⟩ (.n (.r .x) (.u (.l ⟨[(0, .d (.ty .str)), (5, .own 500000), (8, .d (.ty (.sl (.cons (.int .i64) (.cons (.int .i64) (.cons (.int .i64) .nil)))))), (9, .d (.ty (.int .i64))), (10, .d (.ty (.int .i64)))], [(500000, .arr (.cons (.int .i64) .nil))]⟩ (.n (.r .x) (.n (.n .e .e) (.j ⟨[(0, .d (.ty .str)), (5, .own 500001), (8, .d (.ty (.sl (.cons (.int .i64) (.cons (.int .i64) (.cons (.int .i64) .nil)))))), (9, .d (.ty (.int .i64))), (10, .d (.ty (.int .i64)))], [(500001, .arr (.cons (.int .i64) .nil))]⟩ (.u (.n (.r .x) (.n (.r .x) (.n (.r .x) .e)))) (.r .x))))))) (.n (.r .x) .e))))
noncomputable def c25 : Code := Try.f25.body.getD .skip
noncomputable def FT25 : List (Nat × Entry) := [(27, ⟨g27, sp27⟩)]
noncomputable def sh25_K0 (z0 : List (Int × Unit) × Unit) : Option (List (Int × Unit) × Unit) :=
  some (z0.1, ())
noncomputable def sh25_K3 (rc2 : List UInt8 × List (Int × Int × Int × Unit) × Int × Int × List (Int × Unit) × Unit → Option (List (Int × Unit) × Unit)) (z3 : List UInt8 × List (Int × Int × Int × Unit) × Int × Int × List (Int × Unit) × Unit) : Option (List (Int × Unit) × Unit) :=
  rc2 (z3.1, z3.2.1, z3.2.2.1, IntKind.i64.wrap (z3.2.2.2.1 + 1), z3.2.2.2.2.1, ())
noncomputable def sh25_L2 (j1 : List (Int × Unit) × Unit → Option (List (Int × Unit) × Unit)) (rc2 : List UInt8 × List (Int × Int × Int × Unit) × Int × Int × List (Int × Unit) × Unit → Option (List (Int × Unit) × Unit)) (z2 : List UInt8 × List (Int × Int × Int × Unit) × Int × Int × List (Int × Unit) × Unit) : Option (List (Int × Unit) × Unit) :=
  if decide (z2.2.2.2.1 < z2.2.2.1) = true then
    joinK (sh25_K3 rc2)
      fun (j4 : List UInt8 × List (Int × Int × Int × Unit) × Int × Int × List (Int × Unit) × Unit → Option (List (Int × Unit) × Unit)) =>
      if inR z2.2.2.2.1 z2.2.1.length = true then
        (sp27
              (z2.1,
                ((lAt (0, 0, 0, ()) z2.2.1 z2.2.2.2.1).1, (lAt (0, 0, 0, ()) z2.2.1 z2.2.2.2.1).2.1, (lAt (0, 0, 0, ()) z2.2.1 z2.2.2.2.1).2.2.1, ()),
                ())).bind
          fun (r5 : Bool × Unit) =>
          if r5.1 = true then
            if decide (z2.2.2.2.2.1.length + [(z2.2.2.2.1, ())].length ≤ lim) = true then
              if decide ((z2.2.2.2.2.1.length + [(z2.2.2.2.1, ())].length) * 8 ≤ lim) = true then
                j4 (z2.1, z2.2.1, z2.2.2.1, z2.2.2.2.1, z2.2.2.2.2.1 ++ [(z2.2.2.2.1, ())], ())
              else none
            else none
          else j4 (z2.1, z2.2.1, z2.2.2.1, z2.2.2.2.1, z2.2.2.2.2.1, ())
      else none
  else j1 (z2.2.2.2.2.1, ())
noncomputable def sh25 (fuel : Nat) (x0 : List UInt8) (x1 : List (Int × Int × Int × Unit)) : Option (List (Int × Unit) × Unit) :=
  joinK sh25_K0 fun (j1 : List (Int × Unit) × Unit → Option (List (Int × Unit) × Unit)) =>
    iter fuel (sh25_L2 j1) (x0, x1, (↑x1.length : Int), 0, [], ())
theorem ex25 (fuel : Nat) (x0 : (g25.args.getD 0 (.v (.ty .bool))).T) (x1 : (g25.args.getD 1 (.v (.ty .bool))).T) : call G FT25 g25 24 [.tmp 4] c25 h25 fuel (x0, x1, ()) = sh25 fuel x0 x1 := by kernel_rfl
noncomputable def sp25 (x : List UInt8 × List Pl × Unit) : Option (List (Int × Unit) × Unit) := if x.2.1.length ≤ 1000 then some (cands x.1 x.2.1 x.2.1.length, ()) else none
theorem e25 (p : List UInt8) (l : List Pl) (h : l.length ≤ 1000) : sp25 (p, l, ()) = some (cands p l l.length, ()) := if_pos h
theorem lo25 (x r) (h : sp25 x = some r) : ∃ fuel, sh25 fuel x.1 x.2.1 = some r := by
  obtain ⟨p, l, u⟩ := x
  unfold sp25 at h
  split at h
  case isFalse => cases h
  rename_i hl
  cases h
  have hl : l.length ≤ 1000 := hl
  refine ⟨1001, ?_⟩
  unfold sh25
  dsimp only [joinK]
  refine iter_count (F := sh25_L2 sh25_K0) (fun k => (p, l, (l.length : Int), (k : Int), cands p l k, ())) l.length 1001 (by omega) (fun rc k hk => ?_) (fun rc => ?_)
  · simp only [sh25_L2, joinK]
    have hc := cands_len p l k
    rw [if_pos (by simpa using hk), if_pos (inR_nat hk), lAt_nat, e27, Option.bind_some, cands]
    split
    · rw [if_pos (by simp [lim]; omega), if_pos (by simp [lim]; omega)]
      simp only [sh25_K3]
      rw [up1 hk (by omega)]
    · simp only [sh25_K3]
      rw [up1 hk (by omega), List.append_nil]
  · simp only [sh25_L2]
    rw [if_neg (by simp)]
    rfl
theorem fo25 : funOk Try.prog 25 = true := by kernel_rfl
theorem ft25 : FTok Try.prog FT25 := FTok_cons fo27 tc27 (FTok_nil)
theorem tc25 : TC Try.prog 25 ⟨g25, sp25⟩ := tc_of (N := 24) (rv := [.tmp 4]) (c := c25) (h := h25) good ft25 wide Try.func25 (by kernel_rfl) rfl (by kernel_rfl) (by decide) (by kernel_rfl) (by kernel_rfl) fun x r h => (lo25 x r h).imp fun fuel hf => (ex25 fuel x.1 x.2.1).trans hf
/-! 26 baggage/baggagekeep.In -/
def g26 : Sig := ⟨[.v (.ty (.sl (.cons (.int .i64) .nil))), .v (.ty (.int .i64))], .v (.ty .bool)⟩
def h26 : HT := (.n (.r .x) (.j ⟨[], []⟩ (.n (.r .x) (.u (.l ⟨[(0, .d (.ty (.sl (.cons (.int .i64) .nil)))), (1, .d (.ty (.int .i64))), (5, .d (.ty (.int .i64)))], []⟩ (.n (.n (.r .x) (.n .e .e)) (.n (.u (.n (.r .x) (.n (.n (.r .x) .e) .e))) (.r .x)))))) (.n (.r .x) .e)))
noncomputable def c26 : Code := Try.f26.body.getD .skip
noncomputable def FT26 : List (Nat × Entry) := []
noncomputable def sh26_K0 (z0 : Unit) : Option (Bool × Unit) :=
  some (false, ())
noncomputable def sh26_L2 (j1 : Unit → Option (Bool × Unit)) (rc2 : List (Int × Unit) × Int × Int × Unit → Option (Bool × Unit)) (z2 : List (Int × Unit) × Int × Int × Unit) : Option (Bool × Unit) :=
  if decide (z2.2.2.1 < (↑z2.1.length : Int)) = true then
    if inR z2.2.2.1 z2.1.length = true then
      if ((lAt (0, ()) z2.1 z2.2.2.1).1 == z2.2.1) = true then some (true, ()) else rc2 (z2.1, z2.2.1, IntKind.i64.wrap (z2.2.2.1 + 1), ())
    else none
  else j1 ()
noncomputable def sh26 (fuel : Nat) (x0 : List (Int × Unit)) (x1 : Int) : Option (Bool × Unit) :=
  joinK sh26_K0 fun (j1 : Unit → Option (Bool × Unit)) => iter fuel (sh26_L2 j1) (x0, x1, 0, ())
theorem ex26 (fuel : Nat) (x0 : (g26.args.getD 0 (.v (.ty .bool))).T) (x1 : (g26.args.getD 1 (.v (.ty .bool))).T) : call G FT26 g26 18 [.tmp 4] c26 h26 fuel (x0, x1, ()) = sh26 fuel x0 x1 := by kernel_rfl
noncomputable def sp26 (x : List (Int × Unit) × Int × Unit) : Option (Bool × Unit) := if x.1.length ≤ 1000 then some (x.1.any (fun y => y.1 == x.2.1), ()) else none
theorem e26 (l : List (Int × Unit)) (v : Int) (h : l.length ≤ 1000) : sp26 (l, v, ()) = some (l.any (fun y => y.1 == v), ()) := if_pos h
theorem lo26 (x r) (h : sp26 x = some r) : ∃ fuel, sh26 fuel x.1 x.2.1 = some r := by
  obtain ⟨l, v, u⟩ := x
  unfold sp26 at h
  split at h
  case isFalse => cases h
  rename_i hl
  cases h
  have hl : l.length ≤ 1000 := hl
  refine ⟨1001, ?_⟩
  unfold sh26
  dsimp only [joinK]
  refine iter_inv (F := sh26_L2 sh26_K0) (fun k => (l, v, (k : Int), ())) (fun k => (l.take k).any (fun y => y.1 == v) = false) l.length 1001 (by omega) rfl (fun rc k hk hi => ?_) (fun rc hi => ?_)
  · simp only [sh26_L2]
    have hg : lAt ((0 : Int), ()) l (k : Int) = l[k] := by simp [lAt, List.getD, hk]
    rw [if_pos (by simpa using hk), if_pos (inR_nat hk), hg, up1 hk (by omega)]
    cases hb : l[k].1 == v with
    | true =>
      refine .inr ?_
      rw [if_pos rfl, (List.any_eq_true.2 ⟨l[k], List.getElem_mem hk, hb⟩)]
    | false =>
      refine .inl ⟨by rw [if_neg (by decide)], ?_⟩
      rw [List.take_add_one, List.any_append, hi, List.getElem?_eq_getElem hk]
      simp [hb]
  · simp only [sh26_L2]
    rw [List.take_length] at hi
    rw [if_neg (by simp), hi]
    rfl
theorem fo26 : funOk Try.prog 26 = true := by kernel_rfl
theorem ft26 : FTok Try.prog FT26 := FTok_nil
theorem tc26 : TC Try.prog 26 ⟨g26, sp26⟩ := tc_of (N := 18) (rv := [.tmp 4]) (c := c26) (h := h26) good ft26 wide Try.func26 (by kernel_rfl) rfl (by kernel_rfl) (by decide) (by kernel_rfl) (by kernel_rfl) fun x r h => (lo26 x r h).imp fun fuel hf => (ex26 fuel x.1 x.2.1).trans hf
/-! 7 baggage/baggagelaw01.PlateReads -/
def g7 : Sig := ⟨[.v (.ty (.sl (.cons (.int .i64) .nil))), .v (.ty (.int .i64)), .v (.ty (.int .i64))], .v (.ty .bool)⟩
def h7 : HT := (.n (.r .x) (.n (.r .x) (.n (.r .x) (.j ⟨[(1, .d (.ty (.int .i64))), (2, .d (.ty (.int .i64))), (8, .own 500004)], [(500004, .arr (.cons (.int .i64) (.cons (.int .i64) (.cons (.int .i64) .nil))))]⟩ (.n (.r .x) (.u (.l ⟨[(1, .d (.ty (.int .i64))), (2, .d (.ty (.int .i64))), (7, .ref 500000 2), (8, .own 500001), (9, .d (.ty (.int .i64)))], [(500000, .box [.d (.sl (.cons (.int .i64) .nil)), .d (.int .i64)]), (500001, .arr (.cons (.int .i64) (.cons (.int .i64) (.cons (.int .i64) .nil))))]⟩ (.n (.n (.r .x) (.n .e .e)) (.n (.u (.r .x)) (.r .x)))))) (.n (.r .x) (.n (.r .x) (.n (.n (.r .x) (.n (.n (.r .x) .e) .e)) (.j ⟨[(8, .own 500011), (10, .d (.ty (.int .i64))), (11, .own 500012)], [(500011, .arr (.cons (.int .i64) (.cons (.int .i64) (.cons (.int .i64) .nil)))), (500012, .arr (.cons (.int .u8) .nil))]⟩ (.n (.r .x) (.u (.l ⟨[(2, .d (.ty (.int .i64))), (8, .own 500005), (10, .d (.ty (.int .i64))), (11, .own 500006), (12, .d (.ty (.int .i64)))], [(500005, .arr (.cons (.int .i64) (.cons (.int .i64) (.cons (.int .i64) .nil)))), (500006, .arr (.cons (.int .u8) .nil))]⟩ (.n (.n (.r .x) (.n .e .e)) (.j ⟨[(2, .d (.ty (.int .i64))), (8, .own 500007), (10, .d (.ty (.int .i64))), (11, .own 500008), (12, .d (.ty (.int .i64)))], [(500007, .arr (.cons (.int .i64) (.cons (.int .i64) (.cons (.int .i64) .nil)))), (500008, .arr (.cons (.int .u8) .nil))]⟩ (.u (.n (.r .x) (.n (.r .x) .e))) (.r .x)))))) (.n (.r .x) (.n (.n (.r .x) (.n (.n (.r .x) .e) .e)) (.j ⟨[], []⟩ (.n (.r .x) (.u (.l ⟨[(8, .d (.ty (.sl (.cons (.int .i64) (.cons (.int .i64) (.cons (.int .i64) .nil)))))), (11, .own 500013), (13, .own 500014), (14, .d (.ty (.int .i64)))], [(500013, .arr (.cons (.int .u8) .nil)), (500014, .arr (.cons (.int .i64) .nil))]⟩ (.n (.n (.r .x) (.n .e .e)) (.j ⟨[(8, .d (.ty (.sl (.cons (.int .i64) (.cons (.int .i64) (.cons (.int .i64) .nil)))))), (11, .own 500023), (13, .own 500024), (14, .d (.ty (.int .i64)))], [(500023, .arr (.cons (.int .u8) .nil)), (500024, .arr (.cons (.int .i64) .nil))]⟩ (.u (.n (.r .x) (.n (.n (.r .x) (.n (.n (.r .x) .e) .e)) (.n (.r .x) (.j ⟨[(8, .d (.ty (.sl (.cons (.int .i64) (.cons (.int .i64) (.cons (.int .i64) .nil)))))), (11, .own 500021), (13, .own 500022), (14, .d (.ty (.int .i64))), (16, .d (.ty .bool))], [(500021, .arr (.cons (.int .u8) .nil)), (500022, .arr (.cons (.int .i64) .nil))]⟩ (.n (.r .x) (.u (.l ⟨[(8, .d (.ty (.sl (.cons (.int .i64) (.cons (.int .i64) (.cons (.int .i64) .nil)))))), (11, .own 500015), (13, .own 500016), (14, .d (.ty (.int .i64))), (15, .d (.ty .str)), (16, .d (.ty .bool)), (17, .d (.ty (.int .i64)))], [(500015, .arr (.cons (.int .u8) .nil)), (500016, .arr (.cons (.int .i64) .nil))]⟩ (.n (.n (.r .x) (.n .e .e)) (.j ⟨[(8, .d (.ty (.sl (.cons (.int .i64) (.cons (.int .i64) (.cons (.int .i64) .nil)))))), (11, .own 500017), (13, .own 500018), (14, .d (.ty (.int .i64))), (15, .d (.ty .str)), (16, .d (.ty .bool)), (17, .d (.ty (.int .i64)))], [(500017, .arr (.cons (.int .u8) .nil)), (500018, .arr (.cons (.int .i64) .nil))]⟩ (.u (.r .q)) (.r .x)))))) (.n (.r .x) (.n (.n (.r .x) .e) .e))))))) (.r .x)))))) (.n (.r .x) .e))))))))))))
noncomputable def c7 : Code := Try.f7.body.getD .skip
noncomputable def FT7 : List (Nat × Entry) := [(22, ⟨g22, sp22⟩), (23, ⟨g23, sp23⟩), (24, ⟨g24, sp24⟩), (10, ⟨g10, sp10⟩), (12, ⟨g12, sp12⟩), (25, ⟨g25, sp25⟩), (26, ⟨g26, sp26⟩), (14, ⟨g14, sp14⟩)]
noncomputable def sh7_K7 (z7 : Unit) : Option (Bool × Unit) :=
  (sp14 ()).bind fun (r8 : Bool × Unit) => some (r8.1, ())
noncomputable def sh7_K11 (rc10 : List (Int × Int × Int × Unit) × Int × List (Int × Unit) × List (Int × Unit) × Unit → Option (Bool × Unit)) (z11 : List (Int × Int × Int × Unit) × Int × List (Int × Unit) × List (Int × Unit) × Unit) : Option (Bool × Unit) :=
  rc10 (z11.1, IntKind.i64.wrap (z11.2.1 + 1), z11.2.2.1, z11.2.2.2.1, ())
noncomputable def sh7_K14 (j12 : List (Int × Int × Int × Unit) × Int × List (Int × Unit) × List (Int × Unit) × Unit → Option (Bool × Unit)) (z14 : List (Int × Int × Int × Unit) × Int × Bool × List (Int × Unit) × List (Int × Unit) × Unit) : Option (Bool × Unit) :=
  (sp26 (z14.2.2.2.2.1, z14.2.1, ())).bind fun (r15 : Bool × Unit) =>
    if (!z14.2.2.1 == r15.1) = true then some (false, ()) else j12 (z14.1, z14.2.1, z14.2.2.2.1, z14.2.2.2.2.1, ())
noncomputable def sh7_K18 (rc17 : List (Int × Int × Int × Unit) × Int × List UInt8 × Bool × Int × List (Int × Unit) × List (Int × Unit) × Unit → Option (Bool × Unit)) (z18 : List (Int × Int × Int × Unit) × Int × List UInt8 × Bool × Int × List (Int × Unit) × List (Int × Unit) × Unit) : Option (Bool × Unit) :=
  rc17 (z18.1, z18.2.1, z18.2.2.1, z18.2.2.2.1, IntKind.i64.wrap (z18.2.2.2.2.1 + 1), z18.2.2.2.2.2.1, z18.2.2.2.2.2.2.1, ())
noncomputable def sh7_L17 (j16 : List (Int × Int × Int × Unit) × Int × Bool × List (Int × Unit) × List (Int × Unit) × Unit → Option (Bool × Unit)) (rc17 : List (Int × Int × Int × Unit) × Int × List UInt8 × Bool × Int × List (Int × Unit) × List (Int × Unit) × Unit → Option (Bool × Unit)) (z17 : List (Int × Int × Int × Unit) × Int × List UInt8 × Bool × Int × List (Int × Unit) × List (Int × Unit) × Unit) : Option (Bool × Unit) :=
  if decide (z17.2.2.2.2.1 < 10) = true then
    joinK (sh7_K18 rc17)
      fun (j19 : List (Int × Int × Int × Unit) × Int × List UInt8 × Bool × Int × List (Int × Unit) × List (Int × Unit) × Unit → Option (Bool × Unit)) =>
      if z17.2.2.2.1 = true then
        if inR z17.2.2.2.2.1 z17.2.2.2.2.2.1.length = true then
          if decide (z17.2.2.2.2.1.toNat + 1 ≤ z17.2.2.2.2.2.1.length) = true then
            if ((z17.2.2.2.2.2.1.getD z17.2.2.2.2.1.toNat (0, ())).1 == 63) = true then
              j19 (z17.1, z17.2.1, z17.2.2.1, true, z17.2.2.2.2.1, z17.2.2.2.2.2.1, z17.2.2.2.2.2.2.1, ())
            else
              if inR z17.2.2.2.2.1 z17.2.2.2.2.2.1.length = true then
                if decide (z17.2.2.2.2.1.toNat + 1 ≤ z17.2.2.2.2.2.1.length) = true then
                  if inR z17.2.2.2.2.1 z17.2.2.1.length = true then
                    j19
                      (z17.1, z17.2.1, z17.2.2.1, (z17.2.2.2.2.2.1.getD z17.2.2.2.2.1.toNat (0, ())).1 == sAt z17.2.2.1 z17.2.2.2.2.1, z17.2.2.2.2.1,
                        z17.2.2.2.2.2.1, z17.2.2.2.2.2.2.1, ())
                  else none
                else none
              else none
          else none
        else none
      else j19 (z17.1, z17.2.1, z17.2.2.1, false, z17.2.2.2.2.1, z17.2.2.2.2.2.1, z17.2.2.2.2.2.2.1, ())
  else j16 (z17.1, z17.2.1, z17.2.2.2.1, z17.2.2.2.2.2.1, z17.2.2.2.2.2.2.1, ())
noncomputable def sh7_L10 (fuel : Nat) (j9 : Unit → Option (Bool × Unit)) (rc10 : List (Int × Int × Int × Unit) × Int × List (Int × Unit) × List (Int × Unit) × Unit → Option (Bool × Unit)) (z10 : List (Int × Int × Int × Unit) × Int × List (Int × Unit) × List (Int × Unit) × Unit) : Option (Bool × Unit) :=
  if decide (z10.2.1 < (↑z10.1.length : Int)) = true then
    joinK (sh7_K11 rc10) fun (j12 : List (Int × Int × Int × Unit) × Int × List (Int × Unit) × List (Int × Unit) × Unit → Option (Bool × Unit)) =>
      if inR z10.2.1 z10.1.length = true then
        (sp12 (((lAt (0, 0, 0, ()) z10.1 z10.2.1).1, (lAt (0, 0, 0, ()) z10.1 z10.2.1).2.1, (lAt (0, 0, 0, ()) z10.1 z10.2.1).2.2.1, ()), ())).bind
          fun (r13 : List UInt8 × Unit) =>
          if ((↑r13.1.length : Int) != 10) = true then some (false, ())
          else
            joinK (sh7_K14 j12)
              fun (j16 : List (Int × Int × Int × Unit) × Int × Bool × List (Int × Unit) × List (Int × Unit) × Unit → Option (Bool × Unit)) =>
              iter fuel (sh7_L17 j16) (z10.1, z10.2.1, r13.1, true, 0, z10.2.2.1, z10.2.2.2.1, ())
      else none
  else j9 ()
noncomputable def sh7_K4 (fuel : Nat) (z4 : Int × List (Int × Int × Int × Unit) × List (Int × Unit) × Unit) : Option (Bool × Unit) :=
  (sp25 (toBytes z4.2.2.1, z4.2.1, ())).bind fun (r5 : List (Int × Unit) × Unit) =>
    (sp26 (r5.1, z4.1, ())).bind fun (r6 : Bool × Unit) =>
      if (!r6.1) = true then some (false, ())
      else joinK sh7_K7 fun (j9 : Unit → Option (Bool × Unit)) => iter fuel (sh7_L10 fuel j9) (z4.2.1, 0, z4.2.2.1, r5.1, ())
noncomputable def sh7_K22 (rc21 : Int × Int × Int × List (Int × Int × Int × Unit) × List (Int × Unit) × Unit → Option (Bool × Unit)) (z22 : Int × Int × Int × List (Int × Int × Int × Unit) × List (Int × Unit) × Unit) : Option (Bool × Unit) :=
  rc21 (z22.1, z22.2.1, IntKind.i64.wrap (z22.2.2.1 + 1), z22.2.2.2.1, z22.2.2.2.2.1, ())
noncomputable def sh7_L21 (j20 : Int × List (Int × Int × Int × Unit) × List (Int × Unit) × Unit → Option (Bool × Unit)) (rc21 : Int × Int × Int × List (Int × Int × Int × Unit) × List (Int × Unit) × Unit → Option (Bool × Unit)) (z21 : Int × Int × Int × List (Int × Int × Int × Unit) × List (Int × Unit) × Unit) : Option (Bool × Unit) :=
  if decide (z21.2.2.1 < 10) = true then
    joinK (sh7_K22 rc21) fun (j23 : Int × Int × Int × List (Int × Int × Int × Unit) × List (Int × Unit) × Unit → Option (Bool × Unit)) =>
      if decide (0 ≤ IntKind.u64.wrap z21.2.2.1) = true then
        if
            (IntKind.i64.wrap
                  (↑(BitVec.ofInt IntKind.i64.bits (z21.1.fdiv (2 ^ min (IntKind.u64.wrap z21.2.2.1).toNat IntKind.i64.bits)) &&&
                          BitVec.ofInt IntKind.i64.bits 1).toNat :
                    Int) ==
                1) =
              true then
          if inR z21.2.2.1 z21.2.2.2.2.1.length = true then
            if decide (z21.2.2.1.toNat + 1 ≤ z21.2.2.2.2.1.length) = true then
              j23 (z21.1, z21.2.1, z21.2.2.1, z21.2.2.2.1, z21.2.2.2.2.1.set z21.2.2.1.toNat (63, ()), ())
            else none
          else none
        else j23 (z21.1, z21.2.1, z21.2.2.1, z21.2.2.2.1, z21.2.2.2.2.1, ())
      else none
  else j20 (z21.2.1, z21.2.2.2.1, z21.2.2.2.2.1, ())
noncomputable def sh7_K1 (fuel : Nat) (z1 : Int × Int × List (Int × Int × Int × Unit) × Unit) : Option (Bool × Unit) :=
  (sp10 (z1.1, (↑z1.2.2.1.length : Int), ())).bind fun (r2 : Int × Unit) =>
    if inR r2.1 z1.2.2.1.length = true then
      if decide (r2.1.toNat + 1 ≤ z1.2.2.1.length) = true then
        (sp12
              (((z1.2.2.1.getD r2.1.toNat (0, 0, 0, ())).1, (z1.2.2.1.getD r2.1.toNat (0, 0, 0, ())).2.1,
                  (z1.2.2.1.getD r2.1.toNat (0, 0, 0, ())).2.2.1, ()),
                ())).bind
          fun (r3 : List UInt8 × Unit) =>
          if decide (r3.1.length ≤ lim) = true then
            if ((↑(ofBytes r3.1).length : Int) != 10) = true then some (false, ())
            else
              joinK (sh7_K4 fuel) fun (j20 : Int × List (Int × Int × Int × Unit) × List (Int × Unit) × Unit → Option (Bool × Unit)) =>
                iter fuel (sh7_L21 j20) (z1.2.1, r2.1, 0, z1.2.2.1, ofBytes r3.1, ())
          else none
      else none
    else none
noncomputable def sh7_L26 (j24 : Int × Int × List (Int × Int × Int × Unit) × Unit → Option (Bool × Unit)) (rc26 : Int × Int × Int × (List (Int × Unit) × Int × Unit) × List (Int × Int × Int × Unit) × Unit → Option (Bool × Unit)) (z26 : Int × Int × Int × (List (Int × Unit) × Int × Unit) × List (Int × Int × Int × Unit) × Unit) : Option (Bool × Unit) :=
  if decide (0 < z26.2.2.1) = true then
    (sp24 ((z26.2.2.2.1.1, z26.2.2.2.1.2.1, ()), 2, ())).bind fun (r27 : Int × (List (Int × Unit) × Int × Unit) × Unit) =>
      (sp24 ((r27.2.1.1, r27.2.1.2.1, ()), 3, ())).bind fun (r28 : Int × (List (Int × Unit) × Int × Unit) × Unit) =>
        (sp24 ((r28.2.1.1, r28.2.1.2.1, ()), 30, ())).bind fun (r29 : Int × (List (Int × Unit) × Int × Unit) × Unit) =>
          if decide (z26.2.2.2.2.1.length + [(r27.1, IntKind.i64.wrap (1 + r28.1), r29.1, ())].length ≤ lim) = true then
            if decide ((z26.2.2.2.2.1.length + [(r27.1, IntKind.i64.wrap (1 + r28.1), r29.1, ())].length) * 24 ≤ lim) = true then
              rc26
                (z26.1, z26.2.1, IntKind.i64.wrap (z26.2.2.1 - 1), (r29.2.1.1, r29.2.1.2.1, ()),
                  z26.2.2.2.2.1 ++ [(r27.1, IntKind.i64.wrap (1 + r28.1), r29.1, ())], ())
            else none
          else none
  else j24 (z26.1, z26.2.1, z26.2.2.2.2.1, ())
noncomputable def sh7 (fuel : Nat) (x0 : List (Int × Unit)) (x1 : Int) (x2 : Int) : Option (Bool × Unit) :=
  (sp22 (x0, ())).bind fun (r0 : (List (Int × Unit) × Int × Unit) × Unit) =>
    joinK (sh7_K1 fuel) fun (j24 : Int × Int × List (Int × Int × Int × Unit) × Unit → Option (Bool × Unit)) =>
      (sp23 ((r0.1.1, r0.1.2.1, ()), 1, 8, ())).bind fun (r25 : Int × (List (Int × Unit) × Int × Unit) × Unit) =>
        iter fuel (sh7_L26 j24) (x1, x2, r25.1, (r25.2.1.1, r25.2.1.2.1, ()), [], ())
theorem ex7 (fuel : Nat) (x0 : (g7.args.getD 0 (.v (.ty .bool))).T) (x1 : (g7.args.getD 1 (.v (.ty .bool))).T) (x2 : (g7.args.getD 2 (.v (.ty .bool))).T) : call G FT7 g7 113 [.tmp 6] c7 h7 fuel (x0, x1, x2, ()) = sh7 fuel x0 x1 x2 := by kernel_rfl
noncomputable def sp7 (_ : List (Int × Unit) × Int × Int × Unit) : Option (Bool × Unit) := some (true, ())
theorem law7 (x) : ∃ o, sp7 x = some (true, o) := ⟨(), rfl⟩
def okP (l : List Pl) : Prop := ∀ p ∈ l, vldB p.1 p.2.1 p.2.2.1 = true
theorem okP_get {l : List Pl} (h : okP l) {k : Nat} (hk : k < l.length) : vldB (l.getD k (0, 0, 0, ())).1 (l.getD k (0, 0, 0, ())).2.1 (l.getD k (0, 0, 0, ())).2.2.1 = true := by
  simp only [List.getD, List.getElem?_eq_getElem hk, Option.getD_some]
  exact h _ (List.getElem_mem hk)
/-- the last part: what Candidates answers is compared with a count of its own -/
theorem lo7c (l : List Pl) (q : List UInt8) (m : Nat) (hl : okP l) (hn : l.length ≤ 9) (hq : q.length = 10) (hm : m < l.length)
    (hf : mtch q (fmt (l.getD m (0, 0, 0, ())).1 (l.getD m (0, 0, 0, ())).2.1 (l.getD m (0, 0, 0, ())).2.2.1) = true) : sh7_K4 200 ((m : Int), l, ofBytes q, ()) = some (true, ()) := by
  simp only [sh7_K4, joinK]
  have hc := cands_len q l l.length
  rw [toBytes_of, e25 q l (by omega), Option.bind_some, e26 _ _ (by show (cands q l l.length).length ≤ 1000; omega), Option.bind_some, cands_mem, hf, decide_eq_true hm]
  rw [if_neg (by decide)]
  refine iter_count (F := sh7_L10 200 sh7_K7) (fun k => (l, (k : Int), ofBytes q, cands q l l.length, ())) l.length 200 (by omega) (fun rc k hk => ?_) (fun rc => ?_)
  · simp only [sh7_L10, joinK]
    have hv := okP_get hl hk
    have hcm := cands_mem q l k l.length
    obtain ⟨⟨a, b, c, u⟩, hp⟩ : ∃ p, l.getD k (0, 0, 0, ()) = p := ⟨_, rfl⟩
    rw [hp] at hv hcm
    dsimp only at hv hcm
    have hfl := fmt_len hv
    have hmt : mtch q (fmt a b c) = fits q (fmt a b c) 10 := by simp [mtch, hq, fmt_ne hv]
    rw [decide_eq_true hk, Bool.true_and, hmt] at hcm
    rw [if_pos (by simpa using hk), if_pos (inR_nat hk), lAt_nat, hp, e12, Option.bind_some, if_neg (by simp [hfl])]
    dsimp only
    generalize fmt a b c = t at hfl hcm ⊢
    refine iter_count (F := sh7_L17 (sh7_K14 (sh7_K11 rc))) (fun j => (l, (k : Int), t, fits q t j, (j : Int), ofBytes q, cands q l l.length, ())) 10 200 (by decide) (fun rc' j hj => ?_) (fun rc' => ?_)
    · simp only [sh7_L17, joinK]
      rw [if_pos (by simp; omega), fits_succ]
      cases hft : fits q t j with
      | false =>
        rw [if_neg (by decide)]
        simp only [sh7_K18]
        rw [up1 hj (by decide), Bool.false_and]
      | true =>
        rw [if_pos rfl, ofBytes_len, hq, if_pos (inR_nat hj), if_pos (by simp; omega), Int.toNat_natCast, ofBytes_get q j (by omega), sAt_nat]
        have h63 : (((q.getD j 0).toNat : Int) == 63) = (q.getD j 0 == 63) := byte_eq _ 63
        rw [h63, byte_eq, Bool.true_and]
        cases h1 : q.getD j 0 == 63 with
        | true =>
          rw [if_pos rfl]
          simp only [sh7_K18]
          rw [up1 hj (by decide), Bool.true_or]
        | false =>
          rw [if_neg (by decide), if_pos (inR_nat hj), if_pos (decide_eq_true (by omega)), hfl, if_pos (inR_nat hj)]
          simp only [sh7_K18]
          rw [up1 hj (by decide), Bool.false_or]
    · simp only [sh7_L17]
      rw [if_neg (by simp)]
      simp only [sh7_K14]
      rw [e26 _ _ (by show (cands q l l.length).length ≤ 1000; omega), Option.bind_some, hcm, if_neg (by simp)]
      simp only [sh7_K11]
      rw [up1 hk (by omega)]
  · simp only [sh7_L10]
    rw [if_neg (by simp)]
    simp only [sh7_K7]
    rw [e14, Option.bind_some]
/-- the pattern is made out of a plate's own text -/
theorem lo7b (x y : Int) (l : List Pl) (hl : okP l) (hn : l.length ≤ 9) (h0 : 0 < l.length) : sh7_K1 200 (x, y, l, ()) = some (true, ()) := by
  simp only [sh7_K1, joinK]
  obtain ⟨m, hm, hm1, hm2⟩ := e10 x (l.length : Int) (by omega) (by omega)
  obtain ⟨m, rfl⟩ := Int.eq_ofNat_of_zero_le hm1
  have hml : m < l.length := by omega
  have hv := okP_get hl hml
  have hlast := fun q hq h => lo7c l q m hl hn hq hml h
  obtain ⟨⟨a, b, c, u⟩, hp⟩ : ∃ p, l.getD m (0, 0, 0, ()) = p := ⟨_, rfl⟩
  rw [hp] at hv hlast
  dsimp only at hv hlast
  rw [hm, Option.bind_some, if_pos (inR_nat hml), if_pos (by simp; omega), Int.toNat_natCast, hp, e12, Option.bind_some]
  dsimp only
  rw [if_pos (by rw [fmt_len hv]; decide), if_neg (by
    have h := (ofBytes_len (fmt a b c)).trans (fmt_len hv)
    rw [bne_iff_ne, ne_eq, Classical.not_not]
    exact congrArg (fun n : Nat => (n : Int)) h)]
  have hfl := fmt_len hv
  have hmt : ∀ q : List UInt8, q.length = 10 → fits q (fmt a b c) 10 = true → mtch q (fmt a b c) = true := fun q hq h => by simp [mtch, hq, fmt_ne hv, h]
  replace hlast := fun q hq h => hlast q hq (hmt q hq h)
  clear hmt
  generalize fmt a b c = t at *
  refine iter_ex (F := sh7_L21 (sh7_K4 200)) (fun k z => ∃ q : List UInt8, z = (y, (m : Int), (k : Int), l, ofBytes q, ()) ∧ q.length = 10 ∧ fits q t 10 = true) 10 200 (by decide) ⟨t, rfl, hfl, ?_⟩ ?_ ?_
  · unfold fits; rw [List.all_eq_true]; intro i _; simp
  · rintro rc k z hk ⟨q, rfl, hq, hf⟩
    simp only [sh7_L21, joinK]
    rw [if_pos (by simp; omega), if_pos ?_]
    · generalize (IntKind.i64.wrap (↑(BitVec.ofInt IntKind.i64.bits (y.fdiv (2 ^ min (IntKind.u64.wrap (k : Int)).toNat IntKind.i64.bits)) &&& BitVec.ofInt IntKind.i64.bits 1).toNat : Int) == 1) = bit
      refine .inl ?_
      cases bit with
      | false =>
        refine ⟨(y, (m : Int), ((k + 1 : Nat) : Int), l, ofBytes q, ()), ?_, q, rfl, hq, hf⟩
        rw [if_neg (by decide)]
        simp only [sh7_K22]
        rw [up1 hk (by decide)]
      | true =>
        refine ⟨(y, (m : Int), ((k + 1 : Nat) : Int), l, ofBytes (q.set k 63), ()), ?_, q.set k 63, rfl, by simp [hq], ?_⟩
        · rw [if_pos rfl, ofBytes_len, hq, if_pos (inR_nat hk), if_pos (by simp; omega), Int.toNat_natCast]
          simp only [sh7_K22]
          have := ofBytes_set q k 63
          rw [up1 hk (by decide), ← this]
          rfl
        · unfold fits at hf ⊢
          rw [List.all_eq_true] at hf ⊢
          intro i hi
          have := hf i hi
          by_cases hik : k = i
          · subst hik
            simp [List.getD, hq, hk]
          · simp only [List.getD, List.getElem?_set_ne hik] at this ⊢
            exact this
    · rw [decide_eq_true_eq]
      have e : (2 : Int) ^ IntKind.u64.bits = 18446744073709551616 := by decide
      simp only [IntKind.wrap, IntKind.signed, Bool.false_and, e]
      rw [if_neg (by decide)]
      omega
  · rintro rc z ⟨q, rfl, hq, hf⟩
    simp only [sh7_L21]
    rw [if_neg (by simp)]
    exact hlast q hq hf
theorem lo7a (x : List (Int × Unit)) (y z : Int) : sh7 200 x y z = some (true, ()) := by
  unfold sh7
  dsimp only [joinK]
  obtain ⟨s, hs, hok⟩ := e22 x
  rw [hs, Option.bind_some]
  obtain ⟨n, s', hs', hn1, hn2, hok'⟩ := e23 s 1 8 hok (by decide) (by decide) (by decide) (by decide)
  rw [hs', Option.bind_some]
  obtain ⟨N, rfl⟩ := Int.eq_ofNat_of_zero_le (show 0 ≤ n by omega)
  refine iter_ex (F := sh7_L26 (sh7_K1 200)) (fun k w => ∃ (s : SrcT) (l : List Pl), w = (y, z, ((N - k : Nat) : Int), s, l, ()) ∧ okS s ∧ okP l ∧ l.length = k) N 200 (by omega) ⟨s', [], rfl, hok', fun p hp => by simp at hp, rfl⟩ ?_ ?_
  · rintro rc k w hk ⟨s, l, rfl, ho, hl, hlen⟩
    simp only [sh7_L26]
    obtain ⟨a, s1, ha, ha1, ha2, ho1⟩ := e24 s 2 ho (by decide) (by decide)
    obtain ⟨b, s2, hb, hb1, hb2, ho2⟩ := e24 s1 3 ho1 (by decide) (by decide)
    obtain ⟨c, s3, hc, hc1, hc2, ho3⟩ := e24 s2 30 ho2 (by decide) (by decide)
    rw [if_pos (by simp; omega), ha, Option.bind_some, hb, Option.bind_some, hc, Option.bind_some, if_pos (by simp [lim]; omega), if_pos (by simp [lim]; omega)]
    refine .inl ⟨_, rfl, (s3.1, s3.2.1, ()), l ++ [(a, 1 + b, c, ())], ?_, ho3, ?_, by simp [hlen]⟩
    · dsimp only
      rw [wrapI (x := 1 + b) (by omega) (by omega), wrapI (by omega) (by omega)]
      have : ((N - k : Nat) : Int) - 1 = ((N - (k + 1) : Nat) : Int) := by omega
      rw [this]
    · intro p hp
      rcases List.mem_append.1 hp with hp | hp
      · exact hl p hp
      · rw [List.mem_singleton] at hp
        subst hp
        show vldB a (1 + b) c = true
        rw [vldB_iff]; omega
  · rintro rc w ⟨s, l, rfl, ho, hl, hlen⟩
    simp only [sh7_L26]
    rw [if_neg (by simp)]
    exact lo7b y z l hl (by omega) (by omega)
theorem lo7 (x r) (h : sp7 x = some r) : ∃ fuel, sh7 fuel x.1 x.2.1 x.2.2.1 = some r := by
  cases h
  exact ⟨200, lo7a x.1 x.2.1 x.2.2.1⟩
theorem fo7 : funOk Try.prog 7 = true := by kernel_rfl
theorem ft7 : FTok Try.prog FT7 := FTok_cons fo22 tc22 (FTok_cons fo23 tc23 (FTok_cons fo24 tc24 (FTok_cons fo10 tc10 (FTok_cons fo12 tc12 (FTok_cons fo25 tc25 (FTok_cons fo26 tc26 (FTok_cons fo14 tc14 (FTok_nil))))))))
theorem tc7 : TC Try.prog 7 ⟨g7, sp7⟩ := tc_of (N := 113) (rv := [.tmp 6]) (c := c7) (h := h7) good ft7 wide Try.func7 (by kernel_rfl) rfl (by kernel_rfl) (by decide) (by kernel_rfl) (by kernel_rfl) fun x r h => (lo7 x r h).imp fun fuel hf => (ex7 fuel x.1 x.2.1 x.2.2.1).trans hf
/-! 28 baggage/baggageref01.Matches -/
def g28 : Sig := ⟨[.v (.ty .str), .v (.ag (.cons (.int .i64) (.cons (.int .i64) (.cons (.int .i64) .nil))))], .v (.ty .bool)⟩
def h28 : HT := (.n (.r .x) (.n (.r .x) (.n (.j ⟨[(0, .d (.ty .str)), (5, .d (.ty .str)), (15, .d (.ty .bool))], []⟩ (.r .x) (.n (.n (.r .x) .e) .e)) (.j ⟨[], []⟩ (.n (.r .x) (.u (.l ⟨[(0, .d (.ty .str)), (5, .d (.ty .str)), (6, .d (.ty (.int .i64)))], []⟩ (.n (.n (.r .x) (.n .e .e)) (.n (.u (.j ⟨[(0, .d (.ty .str)), (5, .d (.ty .str)), (6, .d (.ty (.int .i64))), (32, .d (.ty .bool))], []⟩ (.r .q) (.n (.n (.r .x) .e) .e))) (.r .x)))))) (.n (.r .x) .e)))))
noncomputable def c28 : Code := Try.f28.body.getD .skip
noncomputable def FT28 : List (Nat × Entry) := [(17, ⟨g17, sp17⟩)]
noncomputable def sh28_K2 (z2 : Unit) : Option (Bool × Unit) :=
  some (true, ())
noncomputable def sh28_K5 (rc4 : List UInt8 × List UInt8 × Int × Unit → Option (Bool × Unit)) (z5 : List UInt8 × List UInt8 × Int × Bool × Unit) : Option (Bool × Unit) :=
  if z5.2.2.2.1 = true then some (false, ()) else rc4 (z5.1, z5.2.1, IntKind.i64.wrap (z5.2.2.1 + 1), ())
noncomputable def sh28_L4 (j3 : Unit → Option (Bool × Unit)) (rc4 : List UInt8 × List UInt8 × Int × Unit → Option (Bool × Unit)) (z4 : List UInt8 × List UInt8 × Int × Unit) : Option (Bool × Unit) :=
  if decide (z4.2.2.1 < 10) = true then
    joinK (sh28_K5 rc4) fun (j6 : List UInt8 × List UInt8 × Int × Bool × Unit → Option (Bool × Unit)) =>
      if inR z4.2.2.1 z4.1.length = true then
        if (sAt z4.1 z4.2.2.1 != 63) = true then
          if inR z4.2.2.1 z4.1.length = true then
            if inR z4.2.2.1 z4.2.1.length = true then j6 (z4.1, z4.2.1, z4.2.2.1, sAt z4.1 z4.2.2.1 != sAt z4.2.1 z4.2.2.1, ()) else none
          else none
        else j6 (z4.1, z4.2.1, z4.2.2.1, false, ())
      else none
  else j3 ()
noncomputable def sh28_K1 (fuel : Nat) (z1 : List UInt8 × List UInt8 × Bool × Unit) : Option (Bool × Unit) :=
  if z1.2.2.1 = true then some (false, ()) else joinK sh28_K2 fun (j3 : Unit → Option (Bool × Unit)) => iter fuel (sh28_L4 j3) (z1.1, z1.2.1, 0, ())
noncomputable def sh28 (fuel : Nat) (x0 : List UInt8) (x1 : Int × Int × Int × Unit) : Option (Bool × Unit) :=
  (sp17 ((x1.1, x1.2.1, x1.2.2.1, ()), ())).bind fun (r0 : List UInt8 × Unit) =>
    joinK (sh28_K1 fuel) fun (j7 : List UInt8 × List UInt8 × Bool × Unit → Option (Bool × Unit)) =>
      if ((↑x0.length : Int) != 10) = true then j7 (x0, r0.1, true, ()) else j7 (x0, r0.1, r0.1 == [], ())
theorem ex28 (fuel : Nat) (x0 : (g28.args.getD 0 (.v (.ty .bool))).T) (x1 : (g28.args.getD 1 (.v (.ty .bool))).T) : call G FT28 g28 33 [.tmp 4] c28 h28 fuel (x0, x1, ()) = sh28 fuel x0 x1 := by kernel_rfl
noncomputable def sp28 (x : List UInt8 × Pl × Unit) : Option (Bool × Unit) := some (mtch x.1 (fmt x.2.1.1 x.2.1.2.1 x.2.1.2.2.1), ())
theorem e28 (p : List UInt8) (a b c : Int) : sp28 (p, (a, b, c, ()), ()) = some (mtch p (fmt a b c), ()) := rfl
theorem lo28a (p : List UInt8) (a b c : Int) : sh28 11 p (a, b, c, ()) = some (mtch p (fmt a b c), ()) := by
  unfold sh28
  dsimp only [joinK]
  rw [e17, Option.bind_some]
  by_cases hp : p.length = 10
  case neg =>
    rw [if_pos (by simp; omega)]
    simp only [sh28_K1, if_true]
    simp [mtch, hp]
  rw [if_neg (by simp; omega)]
  simp only [sh28_K1]
  cases hv : vldB a b c with
  | false => simp [fmt, hv, mtch]
  | true =>
    have hl := fmt_len hv
    have hm : mtch p (fmt a b c) = fits p (fmt a b c) 10 := by simp [mtch, hp, fmt_ne hv]
    rw [fmt_ne hv, hm]
    generalize fmt a b c = t at *
    rw [if_neg (by decide)]
    dsimp only [joinK]
    refine iter_inv (F := sh28_L4 sh28_K2) (fun k => (p, t, (k : Int), ())) (fun k => fits p t k = true) 10 11 (by decide) rfl (fun rc k hk hi => ?_) (fun rc hi => ?_)
    · simp only [sh28_L4, joinK]
      rw [if_pos (by simp; omega), if_pos (inR_nat (by omega)), sAt_nat, sAt_nat]
      have h63 : (((p.getD k 0).toNat : Int) != 63) = !(p.getD k 0 == 63) := byte_ne _ 63
      rw [h63, byte_ne]
      cases hx : (p.getD k 0 == 63 || p.getD k 0 == t.getD k 0) with
      | true =>
        refine .inl ⟨?_, by rw [fits_succ, hi, hx]; rfl⟩
        cases h1 : p.getD k 0 == 63 with
        | true =>
          rw [if_neg (by decide)]
          simp only [sh28_K5]
          rw [if_neg (by decide), up1 (show k < 10 by omega) (by decide)]
        | false =>
          rw [h1, Bool.false_or] at hx
          rw [if_pos (by decide), if_pos (inR_nat (by omega)), if_pos (inR_nat (by omega)), hx]
          simp only [sh28_K5]
          rw [if_neg (by decide), up1 (show k < 10 by omega) (by decide)]
      | false =>
        refine .inr ?_
        rw [fits_false hk hx]
        rw [Bool.or_eq_false_iff] at hx
        rw [hx.1, hx.2, if_pos (by decide), if_pos (inR_nat (by omega)), if_pos (inR_nat (by omega))]
        rfl
    · simp only [sh28_L4]
      rw [if_neg (by simp), hi]
      rfl
theorem lo28 (x r) (h : sp28 x = some r) : ∃ fuel, sh28 fuel x.1 x.2.1 = some r := by
  obtain ⟨p, ⟨a, b, c, u⟩, u'⟩ := x
  cases h
  exact ⟨11, lo28a p a b c⟩
theorem fo28 : funOk Try.prog 28 = true := by kernel_rfl
theorem ft28 : FTok Try.prog FT28 := FTok_cons fo17 tc17 (FTok_nil)
theorem tc28 : TC Try.prog 28 ⟨g28, sp28⟩ := tc_of (N := 33) (rv := [.tmp 4]) (c := c28) (h := h28) good ft28 wide Try.func28 (by kernel_rfl) rfl (by kernel_rfl) (by decide) (by kernel_rfl) (by kernel_rfl) fun x r h => (lo28 x r h).imp fun fuel hf => (ex28 fuel x.1 x.2.1).trans hf
/-! 30 baggage/baggageref01.Candidates -/
def g30 : Sig := ⟨[.v (.ty .str), .v (.ty (.sl (.cons (.int .i64) (.cons (.int .i64) (.cons (.int .i64) .nil)))))], .own (.cons (.int .i64) .nil)⟩
def h30 : HT := (.n (.r .x) (.n (.r .x) (.j ⟨[(5, .own 500003)], [(500003, .arr (.cons (.int .i64) .nil))]⟩ (.n (.r .x) (.u (.l ⟨[(0, .d (.ty .str)), (1, .d (.ty (.sl (.cons (.int .i64) (.cons (.int .i64) (.cons (.int .i64) .nil)))))), (5, .own 500000), (6, .d (.ty (.int .i64)))], [(500000, .arr (.cons (.int .i64) .nil))]⟩ (.n (.n (.r .x) (.n .e .e)) (.j ⟨[(0, .d (.ty .str)), (1, .d (.ty (.sl (.cons (.int .i64) (.cons (.int .i64) (.cons (.int .i64) .nil)))))), (5, .own 500001), (6, .d (.ty (.int .i64)))], [(500001, .arr (.cons (.int .i64) .nil))]⟩ (.u (.n (.r .x) (.n (.r .x) .e))) (.r .x)))))) (.n (.r .x) .e))))
noncomputable def c30 : Code := Try.f30.body.getD .skip
noncomputable def FT30 : List (Nat × Entry) := [(28, ⟨g28, sp28⟩)]
noncomputable def sh30_K0 (z0 : List (Int × Unit) × Unit) : Option (List (Int × Unit) × Unit) :=
  some (z0.1, ())
noncomputable def sh30_K3 (rc2 : List UInt8 × List (Int × Int × Int × Unit) × Int × List (Int × Unit) × Unit → Option (List (Int × Unit) × Unit)) (z3 : List UInt8 × List (Int × Int × Int × Unit) × Int × List (Int × Unit) × Unit) : Option (List (Int × Unit) × Unit) :=
  rc2 (z3.1, z3.2.1, IntKind.i64.wrap (z3.2.2.1 + 1), z3.2.2.2.1, ())
noncomputable def sh30_L2 (j1 : List (Int × Unit) × Unit → Option (List (Int × Unit) × Unit)) (rc2 : List UInt8 × List (Int × Int × Int × Unit) × Int × List (Int × Unit) × Unit → Option (List (Int × Unit) × Unit)) (z2 : List UInt8 × List (Int × Int × Int × Unit) × Int × List (Int × Unit) × Unit) : Option (List (Int × Unit) × Unit) :=
  if decide (z2.2.2.1 < (↑z2.2.1.length : Int)) = true then
    joinK (sh30_K3 rc2) fun (j4 : List UInt8 × List (Int × Int × Int × Unit) × Int × List (Int × Unit) × Unit → Option (List (Int × Unit) × Unit)) =>
      if inR z2.2.2.1 z2.2.1.length = true then
        (sp28
              (z2.1, ((lAt (0, 0, 0, ()) z2.2.1 z2.2.2.1).1, (lAt (0, 0, 0, ()) z2.2.1 z2.2.2.1).2.1, (lAt (0, 0, 0, ()) z2.2.1 z2.2.2.1).2.2.1, ()),
                ())).bind
          fun (r5 : Bool × Unit) =>
          if r5.1 = true then
            if decide (z2.2.2.2.1.length + [(z2.2.2.1, ())].length ≤ lim) = true then
              if decide ((z2.2.2.2.1.length + [(z2.2.2.1, ())].length) * 8 ≤ lim) = true then
                j4 (z2.1, z2.2.1, z2.2.2.1, z2.2.2.2.1 ++ [(z2.2.2.1, ())], ())
              else none
            else none
          else j4 (z2.1, z2.2.1, z2.2.2.1, z2.2.2.2.1, ())
      else none
  else j1 (z2.2.2.2.1, ())
noncomputable def sh30 (fuel : Nat) (x0 : List UInt8) (x1 : List (Int × Int × Int × Unit)) : Option (List (Int × Unit) × Unit) :=
  joinK sh30_K0 fun (j1 : List (Int × Unit) × Unit → Option (List (Int × Unit) × Unit)) => iter fuel (sh30_L2 j1) (x0, x1, 0, [], ())
theorem ex30 (fuel : Nat) (x0 : (g30.args.getD 0 (.v (.ty .bool))).T) (x1 : (g30.args.getD 1 (.v (.ty .bool))).T) : call G FT30 g30 24 [.tmp 4] c30 h30 fuel (x0, x1, ()) = sh30 fuel x0 x1 := by kernel_rfl
noncomputable def sp30 (x : List UInt8 × List Pl × Unit) : Option (List (Int × Unit) × Unit) := if x.2.1.length ≤ 1000 then some (cands x.1 x.2.1 x.2.1.length, ()) else none
theorem e30 (p : List UInt8) (l : List Pl) (h : l.length ≤ 1000) : sp30 (p, l, ()) = some (cands p l l.length, ()) := if_pos h
theorem lo30 (x r) (h : sp30 x = some r) : ∃ fuel, sh30 fuel x.1 x.2.1 = some r := by
  obtain ⟨p, l, u⟩ := x
  unfold sp30 at h
  split at h
  case isFalse => cases h
  rename_i hl
  cases h
  have hl : l.length ≤ 1000 := hl
  refine ⟨1001, ?_⟩
  unfold sh30
  dsimp only [joinK]
  refine iter_count (F := sh30_L2 sh30_K0) (fun k => (p, l, (k : Int), cands p l k, ())) l.length 1001 (by omega) (fun rc k hk => ?_) (fun rc => ?_)
  · simp only [sh30_L2, joinK]
    have hc := cands_len p l k
    rw [if_pos (by simpa using hk), if_pos (inR_nat hk), lAt_nat, e28, Option.bind_some, cands]
    split
    · rw [if_pos (by simp [lim]; omega), if_pos (by simp [lim]; omega)]
      simp only [sh30_K3]
      rw [up1 hk (by omega)]
    · simp only [sh30_K3]
      rw [up1 hk (by omega), List.append_nil]
  · simp only [sh30_L2]
    rw [if_neg (by simp)]
    rfl
theorem fo30 : funOk Try.prog 30 = true := by kernel_rfl
theorem ft30 : FTok Try.prog FT30 := FTok_cons fo28 tc28 (FTok_nil)
theorem tc30 : TC Try.prog 30 ⟨g30, sp30⟩ := tc_of (N := 24) (rv := [.tmp 4]) (c := c30) (h := h30) good ft30 wide Try.func30 (by kernel_rfl) rfl (by kernel_rfl) (by decide) (by kernel_rfl) (by kernel_rfl) fun x r h => (lo30 x r h).imp fun fuel hf => (ex30 fuel x.1 x.2.1).trans hf
/-! 29 baggage/baggagekeep.Ints -/
def g29 : Sig := ⟨[.v (.ty (.sl (.cons (.int .i64) .nil))), .v (.ty (.sl (.cons (.int .i64) .nil)))], .v (.ty .bool)⟩
def h29 : HT := (.n (.r .x) (.n (.n (.r .x) (.n (.n (.r .x) .e) .e)) (.j ⟨[], []⟩ (.n (.r .x) (.u (.l ⟨[(0, .d (.ty (.sl (.cons (.int .i64) .nil)))), (1, .d (.ty (.sl (.cons (.int .i64) .nil)))), (5, .d (.ty (.int .i64)))], []⟩ (.n (.n (.r .x) (.n .e .e)) (.n (.u (.n (.r .q) (.n (.n (.r .x) .e) .e))) (.r .x)))))) (.n (.r .x) .e))))
noncomputable def c29 : Code := Try.f29.body.getD .skip
noncomputable def FT29 : List (Nat × Entry) := []
noncomputable def sh29_K0 (z0 : Unit) : Option (Bool × Unit) :=
  some (true, ())
noncomputable def sh29_L2 (j1 : Unit → Option (Bool × Unit)) (rc2 : List (Int × Unit) × List (Int × Unit) × Int × Unit → Option (Bool × Unit)) (z2 : List (Int × Unit) × List (Int × Unit) × Int × Unit) : Option (Bool × Unit) :=
  if decide (z2.2.2.1 < (↑z2.1.length : Int)) = true then
    if inR z2.2.2.1 z2.1.length = true then
      if inR z2.2.2.1 z2.2.1.length = true then
        if ((lAt (0, ()) z2.1 z2.2.2.1).1 != (lAt (0, ()) z2.2.1 z2.2.2.1).1) = true then some (false, ())
        else rc2 (z2.1, z2.2.1, IntKind.i64.wrap (z2.2.2.1 + 1), ())
      else none
    else none
  else j1 ()
noncomputable def sh29 (fuel : Nat) (x0 : List (Int × Unit)) (x1 : List (Int × Unit)) : Option (Bool × Unit) :=
  if ((↑x0.length : Int) != (↑x1.length : Int)) = true then some (false, ())
  else joinK sh29_K0 fun (j1 : Unit → Option (Bool × Unit)) => iter fuel (sh29_L2 j1) (x0, x1, 0, ())
theorem ex29 (fuel : Nat) (x0 : (g29.args.getD 0 (.v (.ty .bool))).T) (x1 : (g29.args.getD 1 (.v (.ty .bool))).T) : call G FT29 g29 26 [.tmp 4] c29 h29 fuel (x0, x1, ()) = sh29 fuel x0 x1 := by kernel_rfl
noncomputable def sp29 (x : List (Int × Unit) × List (Int × Unit) × Unit) : Option (Bool × Unit) := if x.1.length ≤ 1000 then some (decide (x.1 = x.2.1), ()) else none
theorem e29 (l m : List (Int × Unit)) (h : l.length ≤ 1000) : sp29 (l, m, ()) = some (decide (l = m), ()) := if_pos h
theorem lo29 (x r) (h : sp29 x = some r) : ∃ fuel, sh29 fuel x.1 x.2.1 = some r := by
  obtain ⟨l, m, u⟩ := x
  unfold sp29 at h
  split at h
  case isFalse => cases h
  rename_i hl
  cases h
  have hl : l.length ≤ 1000 := hl
  refine ⟨1001, ?_⟩
  unfold sh29
  dsimp only [joinK]
  by_cases hlen : l.length = m.length
  case neg =>
    rw [if_pos (by simp; omega)]
    have : l ≠ m := fun h => hlen (by rw [h])
    simp [this]
  rw [if_neg (by simp; omega)]
  refine iter_inv (F := sh29_L2 sh29_K0) (fun k => (l, m, (k : Int), ())) (fun k => l.take k = m.take k) l.length 1001 (by omega) rfl (fun rc k hk hi => ?_) (fun rc hi => ?_)
  · simp only [sh29_L2]
    have hg : lAt ((0 : Int), ()) l (k : Int) = l[k] := by simp [lAt, List.getD, hk]
    have hk' : k < m.length := by omega
    have hg' : lAt ((0 : Int), ()) m (k : Int) = m[k] := by simp [lAt, List.getD, hk']
    rw [if_pos (by simpa using hk), if_pos (inR_nat hk), if_pos (inR_nat hk'), hg, hg', up1 hk (by omega)]
    by_cases hb : l[k].1 = m[k].1
    · have hb2 : l[k] = m[k] := Prod.ext hb rfl
      refine .inl ⟨by rw [if_neg (by simpa using hb)], ?_⟩
      rw [List.take_add_one, List.take_add_one, hi, List.getElem?_eq_getElem hk, List.getElem?_eq_getElem hk', hb2]
    · refine .inr ?_
      have : l ≠ m := fun h => hb (by subst h; rfl)
      rw [if_pos (by simpa using hb)]
      simp [this]
  · simp only [sh29_L2]
    rw [if_neg (by simp)]
    rw [List.take_length, hlen, List.take_length] at hi
    simp [sh29_K0, hi]
theorem fo29 : funOk Try.prog 29 = true := by kernel_rfl
theorem ft29 : FTok Try.prog FT29 := FTok_nil
theorem tc29 : TC Try.prog 29 ⟨g29, sp29⟩ := tc_of (N := 26) (rv := [.tmp 4]) (c := c29) (h := h29) good ft29 wide Try.func29 (by kernel_rfl) rfl (by kernel_rfl) (by decide) (by kernel_rfl) (by kernel_rfl) fun x r h => (lo29 x r h).imp fun fuel hf => (ex29 fuel x.1 x.2.1).trans hf
/-! 31 baggage/plate.Distance -/
def g31 : Sig := ⟨[.v (.ag (.cons (.int .i64) (.cons (.int .i64) (.cons (.int .i64) .nil)))), .v (.ag (.cons (.int .i64) (.cons (.int .i64) (.cons (.int .i64) .nil))))], .v (.ty (.int .i64))⟩
def h31 : HT := (.n (.r .x) (.n (.r .q) (.n (.j ⟨[(5, .d (.ty .str)), (6, .d (.ty .str)), (18, .d (.ty .bool))], []⟩ (.r .x) (.n (.n (.r .x) .e) .e)) (.n (.r .x) (.j ⟨[(7, .d (.ty (.int .i64)))], []⟩ (.n (.r .x) (.u (.l ⟨[(5, .d (.ty .str)), (6, .d (.ty .str)), (7, .d (.ty (.int .i64))), (19, .d (.ty (.int .i64)))], []⟩ (.n (.r .x) (.n (.n .e .e) (.j ⟨[(5, .d (.ty .str)), (6, .d (.ty .str)), (7, .d (.ty (.int .i64))), (19, .d (.ty (.int .i64)))], []⟩ (.u (.n (.r .x) (.n (.r .q) (.n (.r .x) .e)))) (.r .x))))))) (.n (.r .x) .e))))))
noncomputable def c31 : Code := Try.f31.body.getD .skip
noncomputable def FT31 : List (Nat × Entry) := [(12, ⟨g12, sp12⟩)]
noncomputable def sh31_K3 (z3 : Int × Unit) : Option (Int × Unit) :=
  some (z3.1, ())
noncomputable def sh31_K6 (rc5 : List UInt8 × List UInt8 × Int × Int × Unit → Option (Int × Unit)) (z6 : List UInt8 × List UInt8 × Int × Int × Unit) : Option (Int × Unit) :=
  rc5 (z6.1, z6.2.1, z6.2.2.1, IntKind.i64.wrap (z6.2.2.2.1 + 1), ())
noncomputable def sh31_L5 (j4 : Int × Unit → Option (Int × Unit)) (rc5 : List UInt8 × List UInt8 × Int × Int × Unit → Option (Int × Unit)) (z5 : List UInt8 × List UInt8 × Int × Int × Unit) : Option (Int × Unit) :=
  if decide (z5.2.2.2.1 < 10) = true then
    joinK (sh31_K6 rc5) fun (j7 : List UInt8 × List UInt8 × Int × Int × Unit → Option (Int × Unit)) =>
      if inR z5.2.2.2.1 z5.1.length = true then
        if inR z5.2.2.2.1 z5.2.1.length = true then
          if (sAt z5.1 z5.2.2.2.1 != sAt z5.2.1 z5.2.2.2.1) = true then j7 (z5.1, z5.2.1, IntKind.i64.wrap (z5.2.2.1 + 1), z5.2.2.2.1, ())
          else j7 (z5.1, z5.2.1, z5.2.2.1, z5.2.2.2.1, ())
        else none
      else none
  else j4 (z5.2.2.1, ())
noncomputable def sh31_K2 (fuel : Nat) (z2 : List UInt8 × List UInt8 × Bool × Unit) : Option (Int × Unit) :=
  if z2.2.2.1 = true then some (-1, ())
  else joinK sh31_K3 fun (j4 : Int × Unit → Option (Int × Unit)) => iter fuel (sh31_L5 j4) (z2.1, z2.2.1, 0, 0, ())
noncomputable def sh31 (fuel : Nat) (x0 : Int × Int × Int × Unit) (x1 : Int × Int × Int × Unit) : Option (Int × Unit) :=
  (sp12 ((x0.1, x0.2.1, x0.2.2.1, ()), ())).bind fun (r0 : List UInt8 × Unit) =>
    (sp12 ((x1.1, x1.2.1, x1.2.2.1, ()), ())).bind fun (r1 : List UInt8 × Unit) =>
      joinK (sh31_K2 fuel) fun (j8 : List UInt8 × List UInt8 × Bool × Unit → Option (Int × Unit)) =>
        if (r0.1 == []) = true then j8 (r0.1, r1.1, true, ()) else j8 (r0.1, r1.1, r1.1 == [], ())
theorem ex31 (fuel : Nat) (x0 : (g31.args.getD 0 (.v (.ty .bool))).T) (x1 : (g31.args.getD 1 (.v (.ty .bool))).T) : call G FT31 g31 33 [.tmp 4] c31 h31 fuel (x0, x1, ()) = sh31 fuel x0 x1 := by kernel_rfl
noncomputable def sp31 (x : Pl × Pl × Unit) : Option (Int × Unit) := some (dist x.1.1 x.1.2.1 x.1.2.2.1 x.2.1.1 x.2.1.2.1 x.2.1.2.2.1, ())
theorem e31 (a b c a' b' c' : Int) : sp31 ((a, b, c, ()), (a', b', c', ()), ()) = some (dist a b c a' b' c', ()) := rfl
theorem lo31a (a b c a' b' c' : Int) : sh31 11 (a, b, c, ()) (a', b', c', ()) = some (dist a b c a' b' c', ()) := by
  unfold sh31
  dsimp only [joinK]
  rw [e12, Option.bind_some, e12, Option.bind_some]
  cases hv : vldB a b c with
  | false =>
    rw [fmt_nil hv, if_pos (by decide)]
    simp [sh31_K2, dist, hv]
  | true =>
    rw [fmt_ne hv, if_neg (by decide)]
    cases hv' : vldB a' b' c' with
    | false =>
      rw [fmt_nil hv']
      simp [sh31_K2, dist, hv']
    | true =>
      rw [fmt_ne hv']
      have h1 := fmt_len hv
      have h2 := fmt_len hv'
      have hd : dist a b c a' b' c' = dif (fmt a b c) (fmt a' b' c') 10 := if_pos ⟨hv, hv'⟩
      rw [hd]
      dsimp only
      generalize fmt a b c = s at *
      generalize fmt a' b' c' = t at *
      simp only [sh31_K2, joinK]
      rw [if_neg (by decide)]
      refine iter_count (F := sh31_L5 sh31_K3) (fun k => (s, t, dif s t k, (k : Int), ())) 10 11 (by decide) (fun rc k hk => ?_) (fun rc => ?_)
      · simp only [sh31_L5, joinK]
        have hb := dif_bd s t k
        rw [if_pos (by simp; omega), if_pos (inR_nat (by omega)), if_pos (inR_nat (by omega)), sAt_nat, sAt_nat, byte_ne, dif]
        cases s.getD k 0 == t.getD k 0 with
        | true =>
          rw [if_neg (by decide), if_pos rfl]
          simp only [sh31_K6]
          rw [up1 hk (by decide), Int.add_zero]
        | false =>
          rw [if_pos (by decide), if_neg (by decide)]
          simp only [sh31_K6]
          rw [up1 hk (by decide), wrapI (by omega) (by omega)]
      · simp only [sh31_L5]
        rw [if_neg (by simp)]
        rfl
theorem lo31 (x r) (h : sp31 x = some r) : ∃ fuel, sh31 fuel x.1 x.2.1 = some r := by
  obtain ⟨⟨a, b, c, u⟩, ⟨a', b', c', u'⟩, u''⟩ := x
  cases h
  exact ⟨11, lo31a a b c a' b' c'⟩
theorem fo31 : funOk Try.prog 31 = true := by kernel_rfl
theorem ft31 : FTok Try.prog FT31 := FTok_cons fo12 tc12 (FTok_nil)
theorem tc31 : TC Try.prog 31 ⟨g31, sp31⟩ := tc_of (N := 33) (rv := [.tmp 4]) (c := c31) (h := h31) good ft31 wide Try.func31 (by kernel_rfl) rfl (by kernel_rfl) (by decide) (by kernel_rfl) (by kernel_rfl) fun x r h => (lo31 x r h).imp fun fuel hf => (ex31 fuel x.1 x.2.1).trans hf
/-! 32 baggage/baggageref01.Distance -/
def g32 : Sig := ⟨[.v (.ag (.cons (.int .i64) (.cons (.int .i64) (.cons (.int .i64) .nil)))), .v (.ag (.cons (.int .i64) (.cons (.int .i64) (.cons (.int .i64) .nil))))], .v (.ty (.int .i64))⟩
def h32 : HT := (.n (.r .x) (.n (.r .q) (.n (.j ⟨[(5, .d (.ty .str)), (6, .d (.ty .str)), (18, .d (.ty .bool))], []⟩ (.r .x) (.n (.n (.r .x) .e) .e)) (.n (.r .x) (.j ⟨[(7, .d (.ty (.int .i64)))], []⟩ (.n (.r .x) (.u (.l ⟨[(5, .d (.ty .str)), (6, .d (.ty .str)), (7, .d (.ty (.int .i64))), (8, .d (.ty (.int .i64)))], []⟩ (.n (.n (.r .x) (.n .e .e)) (.j ⟨[(5, .d (.ty .str)), (6, .d (.ty .str)), (7, .d (.ty (.int .i64))), (8, .d (.ty (.int .i64)))], []⟩ (.u (.n (.r .q) (.n (.r .x) .e))) (.r .x)))))) (.n (.r .x) .e))))))
noncomputable def c32 : Code := Try.f32.body.getD .skip
noncomputable def FT32 : List (Nat × Entry) := [(17, ⟨g17, sp17⟩)]
noncomputable def sh32_K3 (z3 : Int × Unit) : Option (Int × Unit) :=
  some (z3.1, ())
noncomputable def sh32_K6 (rc5 : List UInt8 × List UInt8 × Int × Int × Unit → Option (Int × Unit)) (z6 : List UInt8 × List UInt8 × Int × Int × Unit) : Option (Int × Unit) :=
  rc5 (z6.1, z6.2.1, z6.2.2.1, IntKind.i64.wrap (z6.2.2.2.1 + 1), ())
noncomputable def sh32_L5 (j4 : Int × Unit → Option (Int × Unit)) (rc5 : List UInt8 × List UInt8 × Int × Int × Unit → Option (Int × Unit)) (z5 : List UInt8 × List UInt8 × Int × Int × Unit) : Option (Int × Unit) :=
  if decide (z5.2.2.2.1 < 10) = true then
    joinK (sh32_K6 rc5) fun (j7 : List UInt8 × List UInt8 × Int × Int × Unit → Option (Int × Unit)) =>
      if inR z5.2.2.2.1 z5.1.length = true then
        if inR z5.2.2.2.1 z5.2.1.length = true then
          if (sAt z5.1 z5.2.2.2.1 != sAt z5.2.1 z5.2.2.2.1) = true then j7 (z5.1, z5.2.1, IntKind.i64.wrap (z5.2.2.1 + 1), z5.2.2.2.1, ())
          else j7 (z5.1, z5.2.1, z5.2.2.1, z5.2.2.2.1, ())
        else none
      else none
  else j4 (z5.2.2.1, ())
noncomputable def sh32_K2 (fuel : Nat) (z2 : List UInt8 × List UInt8 × Bool × Unit) : Option (Int × Unit) :=
  if z2.2.2.1 = true then some (-1, ())
  else joinK sh32_K3 fun (j4 : Int × Unit → Option (Int × Unit)) => iter fuel (sh32_L5 j4) (z2.1, z2.2.1, 0, 0, ())
noncomputable def sh32 (fuel : Nat) (x0 : Int × Int × Int × Unit) (x1 : Int × Int × Int × Unit) : Option (Int × Unit) :=
  (sp17 ((x0.1, x0.2.1, x0.2.2.1, ()), ())).bind fun (r0 : List UInt8 × Unit) =>
    (sp17 ((x1.1, x1.2.1, x1.2.2.1, ()), ())).bind fun (r1 : List UInt8 × Unit) =>
      joinK (sh32_K2 fuel) fun (j8 : List UInt8 × List UInt8 × Bool × Unit → Option (Int × Unit)) =>
        if (r0.1 == []) = true then j8 (r0.1, r1.1, true, ()) else j8 (r0.1, r1.1, r1.1 == [], ())
theorem ex32 (fuel : Nat) (x0 : (g32.args.getD 0 (.v (.ty .bool))).T) (x1 : (g32.args.getD 1 (.v (.ty .bool))).T) : call G FT32 g32 33 [.tmp 4] c32 h32 fuel (x0, x1, ()) = sh32 fuel x0 x1 := by kernel_rfl
noncomputable def sp32 (x : Pl × Pl × Unit) : Option (Int × Unit) := some (dist x.1.1 x.1.2.1 x.1.2.2.1 x.2.1.1 x.2.1.2.1 x.2.1.2.2.1, ())
theorem e32 (a b c a' b' c' : Int) : sp32 ((a, b, c, ()), (a', b', c', ()), ()) = some (dist a b c a' b' c', ()) := rfl
theorem lo32a (a b c a' b' c' : Int) : sh32 11 (a, b, c, ()) (a', b', c', ()) = some (dist a b c a' b' c', ()) := by
  unfold sh32
  dsimp only [joinK]
  rw [e17, Option.bind_some, e17, Option.bind_some]
  cases hv : vldB a b c with
  | false =>
    rw [fmt_nil hv, if_pos (by decide)]
    simp [sh32_K2, dist, hv]
  | true =>
    rw [fmt_ne hv, if_neg (by decide)]
    cases hv' : vldB a' b' c' with
    | false =>
      rw [fmt_nil hv']
      simp [sh32_K2, dist, hv']
    | true =>
      rw [fmt_ne hv']
      have h1 := fmt_len hv
      have h2 := fmt_len hv'
      have hd : dist a b c a' b' c' = dif (fmt a b c) (fmt a' b' c') 10 := if_pos ⟨hv, hv'⟩
      rw [hd]
      dsimp only
      generalize fmt a b c = s at *
      generalize fmt a' b' c' = t at *
      simp only [sh32_K2, joinK]
      rw [if_neg (by decide)]
      refine iter_count (F := sh32_L5 sh32_K3) (fun k => (s, t, dif s t k, (k : Int), ())) 10 11 (by decide) (fun rc k hk => ?_) (fun rc => ?_)
      · simp only [sh32_L5, joinK]
        have hb := dif_bd s t k
        rw [if_pos (by simp; omega), if_pos (inR_nat (by omega)), if_pos (inR_nat (by omega)), sAt_nat, sAt_nat, byte_ne, dif]
        cases s.getD k 0 == t.getD k 0 with
        | true =>
          rw [if_neg (by decide), if_pos rfl]
          simp only [sh32_K6]
          rw [up1 hk (by decide), Int.add_zero]
        | false =>
          rw [if_pos (by decide), if_neg (by decide)]
          simp only [sh32_K6]
          rw [up1 hk (by decide), wrapI (by omega) (by omega)]
      · simp only [sh32_L5]
        rw [if_neg (by simp)]
        rfl
theorem lo32 (x r) (h : sp32 x = some r) : ∃ fuel, sh32 fuel x.1 x.2.1 = some r := by
  obtain ⟨⟨a, b, c, u⟩, ⟨a', b', c', u'⟩, u''⟩ := x
  cases h
  exact ⟨11, lo32a a b c a' b' c'⟩
theorem fo32 : funOk Try.prog 32 = true := by kernel_rfl
theorem ft32 : FTok Try.prog FT32 := FTok_cons fo17 tc17 (FTok_nil)
theorem tc32 : TC Try.prog 32 ⟨g32, sp32⟩ := tc_of (N := 33) (rv := [.tmp 4]) (c := c32) (h := h32) good ft32 wide Try.func32 (by kernel_rfl) rfl (by kernel_rfl) (by decide) (by kernel_rfl) (by kernel_rfl) fun x r h => (lo32 x r h).imp fun fuel hf => (ex32 fuel x.1 x.2.1).trans hf
/-! 8 baggage/baggagelaw01.PlatePatterns -/
def g8 : Sig := ⟨[.v (.ty .str), .v (.ag (.cons (.int .i64) (.cons (.int .i64) (.cons (.int .i64) .nil)))), .v (.ag (.cons (.int .i64) (.cons (.int .i64) (.cons (.int .i64) .nil)))), .v (.ty (.sl (.cons (.int .i64) (.cons (.int .i64) (.cons (.int .i64) .nil)))))], .v (.ty .bool)⟩
def h8 : HT := (.n (.r .x) (.n (.j ⟨[(0, .d (.ty .str)), (3, .d (.ty (.sl (.cons (.int .i64) (.cons (.int .i64) (.cons (.int .i64) .nil)))))), (5, .ref 500000 3), (6, .ref 500001 3), (16, .d (.ty .bool))], [(500000, .box [.d (.int .i64), .d (.int .i64), .d (.int .i64)]), (500001, .box [.d (.int .i64), .d (.int .i64), .d (.int .i64)])]⟩ (.r .x) (.n (.n (.r .x) .e) .e)) (.j ⟨[(8, .d (.ty .bool))], []⟩ (.r (.m 28 [20, 23, 28, 31, 32, 37, 40, 44])) .e)))
noncomputable def c8 : Code := Try.f8.body.getD .skip
noncomputable def FT8 : List (Nat × Entry) := [(14, ⟨g14, sp14⟩), (27, ⟨g27, sp27⟩), (28, ⟨g28, sp28⟩), (25, ⟨g25, sp25⟩), (30, ⟨g30, sp30⟩), (29, ⟨g29, sp29⟩), (31, ⟨g31, sp31⟩), (32, ⟨g32, sp32⟩)]
noncomputable def sh8_K2 (z2 : Bool × Unit) : Option (Bool × Unit) :=
  some (z2.1, ())
noncomputable def sh8_K0 (z0 : List UInt8 × List (Int × Int × Int × Unit) × Bool × (Int × Int × Int × Unit) × (Int × Int × Int × Unit) × Unit) : Option (Bool × Unit) :=
  if z0.2.2.1 = true then (sp14 ()).bind fun (r1 : Bool × Unit) => some (r1.1, ())
  else
    joinK sh8_K2 fun (j3 : Bool × Unit → Option (Bool × Unit)) =>
      (sp27 (z0.1, (z0.2.2.2.1.1, z0.2.2.2.1.2.1, z0.2.2.2.1.2.2.1, ()), ())).bind fun (r4 : Bool × Unit) =>
        (sp28 (z0.1, (z0.2.2.2.1.1, z0.2.2.2.1.2.1, z0.2.2.2.1.2.2.1, ()), ())).bind fun (r5 : Bool × Unit) =>
          if (r4.1 == r5.1) = true then
            (sp25 (z0.1, z0.2.1, ())).bind fun (r6 : List (Int × Unit) × Unit) =>
              (sp30 (z0.1, z0.2.1, ())).bind fun (r7 : List (Int × Unit) × Unit) =>
                (sp29 (r6.1, r7.1, ())).bind fun (r8 : Bool × Unit) =>
                  if r8.1 = true then
                    (sp31 ((z0.2.2.2.1.1, z0.2.2.2.1.2.1, z0.2.2.2.1.2.2.1, ()), (z0.2.2.2.2.1.1, z0.2.2.2.2.1.2.1, z0.2.2.2.2.1.2.2.1, ()), ())).bind
                      fun (r9 : Int × Unit) =>
                      (sp32 ((z0.2.2.2.1.1, z0.2.2.2.1.2.1, z0.2.2.2.1.2.2.1, ()), (z0.2.2.2.2.1.1, z0.2.2.2.2.1.2.1, z0.2.2.2.2.1.2.2.1, ()), ())).bind
                        fun (r10 : Int × Unit) =>
                        if (r9.1 == r10.1) = true then (sp14 ()).bind fun (r11 : Bool × Unit) => j3 (r11.1, ()) else j3 (false, ())
                  else j3 (false, ())
          else j3 (false, ())
noncomputable def sh8 (fuel : Nat) (x0 : List UInt8) (x1 : Int × Int × Int × Unit) (x2 : Int × Int × Int × Unit) (x3 : List (Int × Int × Int × Unit)) : Option (Bool × Unit) :=
  joinK sh8_K0
    fun (j12 : List UInt8 × List (Int × Int × Int × Unit) × Bool × (Int × Int × Int × Unit) × (Int × Int × Int × Unit) × Unit → Option (Bool × Unit)) =>
    if decide (30 < (↑x0.length : Int)) = true then j12 (x0, x3, true, (x1.1, x1.2.1, x1.2.2.1, ()), (x2.1, x2.2.1, x2.2.2.1, ()), ())
    else j12 (x0, x3, decide (50 < (↑x3.length : Int)), (x1.1, x1.2.1, x1.2.2.1, ()), (x2.1, x2.2.1, x2.2.2.1, ()), ())
theorem ex8 (fuel : Nat) (x0 : (g8.args.getD 0 (.v (.ty .bool))).T) (x1 : (g8.args.getD 1 (.v (.ty .bool))).T) (x2 : (g8.args.getD 2 (.v (.ty .bool))).T) (x3 : (g8.args.getD 3 (.v (.ty .bool))).T) : call G FT8 g8 46 [.tmp 8] c8 h8 fuel (x0, x1, x2, x3, ()) = sh8 fuel x0 x1 x2 x3 := by kernel_rfl
noncomputable def sp8 (x : (List UInt8) × (Int × Int × Int × Unit) × (Int × Int × Int × Unit) × (List (Int × Int × Int × Unit)) × Unit) : Option (Bool × Unit) := sh8 0 x.1 x.2.1 x.2.2.1 x.2.2.2.1
theorem fo8 : funOk Try.prog 8 = true := by kernel_rfl
theorem ft8 : FTok Try.prog FT8 := FTok_cons fo14 tc14 (FTok_cons fo27 tc27 (FTok_cons fo28 tc28 (FTok_cons fo25 tc25 (FTok_cons fo30 tc30 (FTok_cons fo29 tc29 (FTok_cons fo31 tc31 (FTok_cons fo32 tc32 (FTok_nil))))))))
theorem tc8 : TC Try.prog 8 ⟨g8, sp8⟩ := tc_of (N := 46) (rv := [.tmp 8]) (c := c8) (h := h8) good ft8 wide Try.func8 (by kernel_rfl) rfl (by kernel_rfl) (by decide) (by kernel_rfl) (by kernel_rfl) fun x r h => ⟨0, (ex8 0 x.1 x.2.1 x.2.2.1 x.2.2.2.1).trans h⟩
theorem law8 (x : List UInt8 × Pl × Pl × List Pl × Unit) : ∃ o, sp8 x = some (true, o) := by
  obtain ⟨s, ⟨a, b, c, u⟩, ⟨a', b', c', u'⟩, l, u''⟩ := x
  refine ⟨(), ?_⟩
  show sh8 0 s (a, b, c, ()) (a', b', c', ()) l = _
  unfold sh8
  dsimp only [joinK]
  by_cases h1 : (30 : Int) < s.length
  · rw [if_pos (by simpa using h1)]
    simp only [sh8_K0, if_true]
    rw [e14, Option.bind_some]
  rw [if_neg (by simpa using h1)]
  by_cases h2 : (50 : Int) < l.length
  · simp only [sh8_K0]
    rw [if_pos (by simpa using h2), e14, Option.bind_some]
  simp only [sh8_K0, joinK]
  have hc := cands_len s l l.length
  rw [if_neg (by simpa using h2), e27, Option.bind_some, e28, Option.bind_some, if_pos (by simp), e25 _ _ (by omega), Option.bind_some, e30 _ _ (by omega), Option.bind_some, e29 _ _ (by show (cands s l l.length).length ≤ 1000; omega), Option.bind_some,
    if_pos (by simp), e31, Option.bind_some, e32, Option.bind_some, if_pos (by simp), e14, Option.bind_some]
  rfl
end Go.Proofs.Ytplngcjkghnkcaa
