/- Walks: the functions of the program, each as a typed contract. -/
import Derived.Test.YtplngcjkghnkcaaMath
import Derived.Test.YtplngcjkghnkcaaProg
import Derived.KernelRfl
open Go Go.Proofs Go.Abs
set_option linter.unusedVariables false
set_option maxRecDepth 100000
namespace Go.Proofs.Ytplngcjkghnkcaa
def G : List (Nat × TD) := [(3, .int .i64), (4, .bool), (5, .int .u8), (9, .str), (23, .struct (.cons (.int .i64) (.cons (.int .i64) (.cons (.int .i64) .nil))) [(0, false, 1), (1, false, 1), (2, false, 1)] true), (25, .int .i64), (34, .slice (.cons (.int .i64) .nil) 8), (35, .slice (.cons (.int .i64) (.cons (.int .i64) (.cons (.int .i64) .nil))) 24), (43, .slice (.cons (.int .u8) .nil) 1), (44, .int .u64), (54, .arr 10 (.cons (.int .u8) .nil)), (58, .struct (.cons (.sl (.cons (.int .i64) .nil)) (.cons (.int .i64) .nil)) [(0, false, 1), (1, false, 1)] false)]
theorem wide : Try.prog.follows .mixedOrders = true := by kernel_rfl
theorem good : Go.Abs.Good Try.prog G := good_of (by kernel_rfl)
/-! 10 baggage/baggagekeep.Mod -/
def g10 : Sig := ⟨[.v (.ty (.int .i64)), .v (.ty (.int .i64))], .v (.ty (.int .i64))⟩
def h10 : HT := (.n (.r .x) (.n (.n (.r .x) (.n (.n (.r .x) .e) .e)) (.n (.r .x) (.j ⟨[(0, .d (.ty (.int .i64)))], []⟩ (.n (.r .x) (.n (.r .x) .e)) (.n (.r .x) .e)))))
noncomputable def c10 : Code := Try.f10.body.getD .skip
noncomputable def FT10 : List (Nat × Entry) := []
noncomputable def sh10_K0 (z0 : Int × Unit) : Option (Int × Unit) :=
  some (z0.1, ())
noncomputable def sh10 (fuel : Nat) (x0 : Int) (x1 : Int) : Option (Int × Unit) :=
  if decide (x1 < 1) = true then some (0, ())
  else
    if (x1 != 0) = true then
      joinK sh10_K0 fun (j1 : Int × Unit → Option (Int × Unit)) =>
        if decide (x0.tmod x1 < 0) = true then j1 (IntKind.i64.wrap (x0.tmod x1 + x1), ()) else j1 (x0.tmod x1, ())
    else none
theorem ex10 (fuel : Nat) (x0 : (g10.args.getD 0 (.v (.ty .bool))).T) (x1 : (g10.args.getD 1 (.v (.ty .bool))).T) : call G FT10 g10 16 [.tmp 4] c10 h10 fuel (x0, x1, ()) = sh10 fuel x0 x1 := by kernel_rfl
noncomputable def sp10 (x : (Int) × (Int) × Unit) : Option (Int × Unit) := sh10 0 x.1 x.2.1
theorem fo10 : funOk Try.prog 10 = true := by kernel_rfl
theorem ft10 : FTok Try.prog FT10 := FTok_nil
theorem tc10 : TC Try.prog 10 ⟨g10, sp10⟩ := tc_of (N := 16) (rv := [.tmp 4]) (c := c10) (h := h10) good ft10 wide Try.func10 (by kernel_rfl) rfl (by kernel_rfl) (by decide) (by kernel_rfl) (by kernel_rfl) fun x r h => ⟨0, (ex10 0 x.1 x.2.1).trans h⟩
theorem e10 (v n : Int) (h : 1 ≤ n) (h2 : n ≤ 1000000) : ∃ m, sp10 (v, n, ()) = some (m, ()) ∧ 0 ≤ m ∧ m < n := by
  show ∃ m, sh10 0 v n = some (m, ()) ∧ 0 ≤ m ∧ m < n
  have hb := Int.lt_tmod_of_pos v (show 0 < n by omega)
  have hb2 := Int.tmod_lt_of_pos v (show 0 < n by omega)
  simp only [sh10, sh10_K0, joinK]
  rw [if_neg (by simp; omega), if_pos (by simp; omega)]
  by_cases hn : v.tmod n < 0
  · refine ⟨v.tmod n + n, ?_, by omega, by omega⟩
    rw [if_pos (by simpa using hn), wrapI (by omega) (by omega)]
  · refine ⟨v.tmod n, ?_, by omega, by omega⟩
    rw [if_neg (by simpa using hn)]
/-! 13 baggage/plate.Valid -/
def g13 : Sig := ⟨[.v (.ag (.cons (.int .i64) (.cons (.int .i64) (.cons (.int .i64) .nil))))], .v (.ty .bool)⟩
def h13 : HT := (.n (.r .x) (.j ⟨[(2, .d (.ty .bool))], []⟩ (.r .x) .e))
noncomputable def c13 : Code := Try.f13.body.getD .skip
noncomputable def FT13 : List (Nat × Entry) := []
noncomputable def sh13_K0 (z0 : Bool × Unit) : Option (Bool × Unit) :=
  some (z0.1, ())
noncomputable def sh13 (fuel : Nat) (x0 : Int × Int × Int × Unit) : Option (Bool × Unit) :=
  joinK sh13_K0 fun (j1 : Bool × Unit → Option (Bool × Unit)) =>
    if decide (0 ≤ x0.1) = true then
      if decide (x0.1 ≤ 9) = true then
        if decide (1 ≤ x0.2.1) = true then
          if decide (x0.2.1 ≤ 999) = true then if decide (0 ≤ x0.2.2.1) = true then j1 (decide (x0.2.2.1 < 1000000), ()) else j1 (false, ())
          else j1 (false, ())
        else j1 (false, ())
      else j1 (false, ())
    else j1 (false, ())
theorem ex13 (fuel : Nat) (x0 : (g13.args.getD 0 (.v (.ty .bool))).T) : call G FT13 g13 31 [.tmp 2] c13 h13 fuel (x0, ()) = sh13 fuel x0 := by kernel_rfl
noncomputable def sp13 (x : (Int × Int × Int × Unit) × Unit) : Option (Bool × Unit) := sh13 0 x.1
theorem fo13 : funOk Try.prog 13 = true := by kernel_rfl
theorem ft13 : FTok Try.prog FT13 := FTok_nil
theorem tc13 : TC Try.prog 13 ⟨g13, sp13⟩ := tc_of (N := 31) (rv := [.tmp 2]) (c := c13) (h := h13) good ft13 wide Try.func13 (by kernel_rfl) rfl (by kernel_rfl) (by decide) (by kernel_rfl) (by kernel_rfl) fun x r h => ⟨0, (ex13 0 x.1).trans h⟩
theorem e13 (a b c : Int) : sp13 ((a, b, c, ()), ()) = some (vldB a b c, ()) := by
  show sh13 0 (a, b, c, ()) = _
  unfold sh13 sh13_K0 joinK vldB
  repeat' split
  all_goals simp_all
  all_goals omega
/-! 37 baggage/plate.number -/
def g37 : Sig := ⟨[.v (.ag (.cons (.int .i64) (.cons (.int .i64) (.cons (.int .i64) .nil))))], .v (.ty (.int .i64))⟩
def h37 : HT := (.n (.r .x) (.n (.r .x) .e))
noncomputable def c37 : Code := Try.f37.body.getD .skip
noncomputable def FT37 : List (Nat × Entry) := []
noncomputable def sh37 (fuel : Nat) (x0 : Int × Int × Int × Unit) : Option (Int × Unit) :=
  some (IntKind.i64.wrap (IntKind.i64.wrap (IntKind.i64.wrap (IntKind.i64.wrap (x0.1 * 1000) + x0.2.1) * 1000000) + x0.2.2.1), ())
theorem ex37 (fuel : Nat) (x0 : (g37.args.getD 0 (.v (.ty .bool))).T) : call G FT37 g37 13 [.tmp 2] c37 h37 fuel (x0, ()) = sh37 fuel x0 := by kernel_rfl
noncomputable def sp37 (x : (Int × Int × Int × Unit) × Unit) : Option (Int × Unit) := sh37 0 x.1
theorem fo37 : funOk Try.prog 37 = true := by kernel_rfl
theorem ft37 : FTok Try.prog FT37 := FTok_nil
theorem tc37 : TC Try.prog 37 ⟨g37, sp37⟩ := tc_of (N := 13) (rv := [.tmp 2]) (c := c37) (h := h37) good ft37 wide Try.func37 (by kernel_rfl) rfl (by kernel_rfl) (by decide) (by kernel_rfl) (by kernel_rfl) fun x r h => ⟨0, (ex37 0 x.1).trans h⟩
theorem e37 (a b c : Int) : sp37 ((a, b, c, ()), ()) = some (numL a b c, ()) := rfl
/-! 12 baggage/plate.Format -/
def g12 : Sig := ⟨[.v (.ag (.cons (.int .i64) (.cons (.int .i64) (.cons (.int .i64) .nil))))], .v (.ty .str)⟩
def h12 : HT := (.n (.r .x) (.n (.n (.r .x) (.n (.n (.r .x) .e) .e)) (.n (.r .x) (.n (.r .x) (.j ⟨[(3, .ref 500002 1)], [(500002, .arr (.cons (.int .u8) .nil))]⟩ (.n (.r .x) (.u (.l ⟨[(3, .ref 500000 1), (4, .d (.ty (.int .i64))), (11, .d (.ty (.int .i64)))], [(500000, .arr (.cons (.int .u8) .nil))]⟩ (.n (.r .x) (.n (.n .e .e) (.n (.u (.n (.r .x) (.n (.r .x) (.r .x)))) (.r .x))))))) (.n (.r .x) .e))))))
noncomputable def c12 : Code := Try.f12.body.getD .skip
noncomputable def FT12 : List (Nat × Entry) := [(13, ⟨g13, sp13⟩), (37, ⟨g37, sp37⟩)]
noncomputable def sh12_K2 (z2 : List (Int × Unit) × Unit) : Option (List UInt8 × Unit) :=
  if decide (z2.1.length = 10) = true then some (toBytes z2.1, ()) else none
noncomputable def sh12_L4 (j3 : List (Int × Unit) × Unit → Option (List UInt8 × Unit)) (rc4 : Int × Int × List (Int × Unit) × Unit → Option (List UInt8 × Unit)) (z4 : Int × Int × List (Int × Unit) × Unit) : Option (List UInt8 × Unit) :=
  if decide (z4.2.1 < 10) = true then
    if inR (IntKind.i64.wrap (9 - z4.2.1)) 10 = true then
      if decide ((IntKind.i64.wrap (9 - z4.2.1)).toNat + 1 ≤ z4.2.2.1.length) = true then
        rc4
          (IntKind.i64.wrap (z4.1.tdiv 10), IntKind.i64.wrap (z4.2.1 + 1),
            z4.2.2.1.set (IntKind.i64.wrap (9 - z4.2.1)).toNat (IntKind.u8.wrap (48 + IntKind.u8.wrap (z4.1.tmod 10)), ()), ())
      else none
    else none
  else j3 (z4.2.2.1, ())
noncomputable def sh12 (fuel : Nat) (x0 : Int × Int × Int × Unit) : Option (List UInt8 × Unit) :=
  (sp13 ((x0.1, x0.2.1, x0.2.2.1, ()), ())).bind fun (r0 : Bool × Unit) =>
    if (!r0.1) = true then some ([], ())
    else
      (sp37 ((x0.1, x0.2.1, x0.2.2.1, ()), ())).bind fun (r1 : Int × Unit) =>
        joinK sh12_K2 fun (j3 : List (Int × Unit) × Unit → Option (List UInt8 × Unit)) =>
          iter fuel (sh12_L4 j3) (r1.1, 0, List.replicate 10 (0, ()), ())
theorem ex12 (fuel : Nat) (x0 : (g12.args.getD 0 (.v (.ty .bool))).T) : call G FT12 g12 26 [.tmp 2] c12 h12 fuel (x0, ()) = sh12 fuel x0 := by kernel_rfl
noncomputable def sp12 (x : Pl × Unit) : Option (List UInt8 × Unit) := some (fmt x.1.1 x.1.2.1 x.1.2.2.1, ())
theorem lo12a (a b c : Int) : sh12 11 (a, b, c, ()) = some (fmt a b c, ()) := by
  unfold sh12
  dsimp only [joinK]
  rw [e13, Option.bind_some]
  cases hv : vldB a b c with
  | false => simp [fmt, hv]
  | true =>
    obtain ⟨N, hN⟩ := Int.eq_ofNat_of_zero_le (numL_bd hv).1
    have hb := (numL_bd hv).2
    have hf : fmt a b c = digs N 10 := by rw [fmt, if_pos hv, hN]; rfl
    rw [if_neg (by decide), e37, Option.bind_some, hf, hN]
    rw [hN] at hb
    have hb : N < 10000000000 := by omega
    have h := iter_count (F := sh12_L4 sh12_K2) (r := some (digs N 10, ())) (fun k => (((N / 10 ^ k : Nat) : Int), (k : Int), rowsD N k, ())) 10 11 (by decide) (fun rc k hk => ?_) (fun rc => ?_)
    · skip
      have e0 : rowsD N 0 = List.replicate 10 ((0 : Int), ()) := rfl
      rw [Nat.pow_zero, Nat.div_one, e0] at h
      exact h
    · have h9 : IntKind.i64.wrap (9 - (k : Int)) = ((9 - k : Nat) : Int) := by rw [wrapI (by omega) (by omega)]; omega
      simp only [sh12_L4]
      rw [if_pos (decide_eq_true (by omega)), h9, if_pos (inR_nat (by omega)), if_pos (decide_eq_true (by rw [rowsD_len N k (by omega)]; omega)), div_val N k hb, up1 hk (by omega), dig_val, Int.toNat_natCast, rowsD_set N k hk]
    · simp only [sh12_L4]
      rw [if_neg (by simp)]
      simp only [sh12_K2]
      rw [if_pos (by simp [rowsD_len]), rowsD_end]
theorem lo12 (x r) (h : sp12 x = some r) : ∃ fuel, sh12 fuel x.1 = some r := by
  obtain ⟨⟨a, b, c, u⟩, u'⟩ := x
  cases h
  exact ⟨11, lo12a a b c⟩
theorem fo12 : funOk Try.prog 12 = true := by kernel_rfl
theorem ft12 : FTok Try.prog FT12 := FTok_cons fo13 tc13 (FTok_cons fo37 tc37 (FTok_nil))
theorem tc12 : TC Try.prog 12 ⟨g12, sp12⟩ := tc_of (N := 26) (rv := [.tmp 2]) (c := c12) (h := h12) good ft12 wide Try.func12 (by kernel_rfl) rfl (by kernel_rfl) (by decide) (by kernel_rfl) (by kernel_rfl) fun x r h => (lo12 x r h).imp fun fuel hf => (ex12 fuel x.1).trans hf
theorem e12 (a b c : Int) : sp12 ((a, b, c, ()), ()) = some (fmt a b c, ()) := rfl
/-! 35 baggage/plate.digit -/
def g35 : Sig := ⟨[.v (.ty (.int .u8))], .v (.ty .bool)⟩
def h35 : HT := (.n (.r .x) (.j ⟨[(2, .d (.ty .bool))], []⟩ (.r .x) .e))
noncomputable def c35 : Code := Try.f35.body.getD .skip
noncomputable def FT35 : List (Nat × Entry) := []
noncomputable def sh35_K0 (z0 : Bool × Unit) : Option (Bool × Unit) :=
  some (z0.1, ())
noncomputable def sh35 (fuel : Nat) (x0 : Int) : Option (Bool × Unit) :=
  joinK sh35_K0 fun (j1 : Bool × Unit → Option (Bool × Unit)) => if decide (48 ≤ x0) = true then j1 (decide (x0 ≤ 57), ()) else j1 (false, ())
theorem ex35 (fuel : Nat) (x0 : (g35.args.getD 0 (.v (.ty .bool))).T) : call G FT35 g35 9 [.tmp 2] c35 h35 fuel (x0, ()) = sh35 fuel x0 := by kernel_rfl
noncomputable def sp35 (x : (Int) × Unit) : Option (Bool × Unit) := sh35 0 x.1
theorem fo35 : funOk Try.prog 35 = true := by kernel_rfl
theorem ft35 : FTok Try.prog FT35 := FTok_nil
theorem tc35 : TC Try.prog 35 ⟨g35, sp35⟩ := tc_of (N := 9) (rv := [.tmp 2]) (c := c35) (h := h35) good ft35 wide Try.func35 (by kernel_rfl) rfl (by kernel_rfl) (by decide) (by kernel_rfl) (by kernel_rfl) fun x r h => ⟨0, (ex35 0 x.1).trans h⟩
theorem e35 (c : Int) : sp35 (c, ()) = some (digB c, ()) := by
  show sh35 0 c = _
  unfold sh35 sh35_K0 joinK digB
  split <;> simp_all
  all_goals omega
/-! 36 baggage/plate.value -/
def g36 : Sig := ⟨[.v (.ty .str)], .v (.ty (.int .i64))⟩
def h36 : HT := (.n (.r .x) (.n (.r .x) (.j ⟨[(3, .d (.ty (.int .i64)))], []⟩ (.n (.r .x) (.u (.l ⟨[(0, .d (.ty .str)), (3, .d (.ty (.int .i64))), (6, .d (.ty (.int .i64))), (7, .d (.ty (.int .i64)))], []⟩ (.n (.r .x) (.n (.n .e .e) (.n (.u (.n (.r .x) (.r .x))) (.r .x))))))) (.n (.r .x) .e))))
noncomputable def c36 : Code := Try.f36.body.getD .skip
noncomputable def FT36 : List (Nat × Entry) := []
noncomputable def sh36_K0 (z0 : Int × Unit) : Option (Int × Unit) :=
  some (z0.1, ())
noncomputable def sh36_L2 (j1 : Int × Unit → Option (Int × Unit)) (rc2 : List UInt8 × Int × Int × Int × Unit → Option (Int × Unit)) (z2 : List UInt8 × Int × Int × Int × Unit) : Option (Int × Unit) :=
  if decide (z2.2.2.2.1 < z2.2.2.1) = true then
    if inR z2.2.2.2.1 z2.1.length = true then
      rc2
        (z2.1, IntKind.i64.wrap (IntKind.i64.wrap (10 * z2.2.1) + IntKind.i64.wrap (IntKind.u8.wrap (sAt z2.1 z2.2.2.2.1 - 48))), z2.2.2.1,
          IntKind.i64.wrap (z2.2.2.2.1 + 1), ())
    else none
  else j1 (z2.2.1, ())
noncomputable def sh36 (fuel : Nat) (x0 : List UInt8) : Option (Int × Unit) :=
  joinK sh36_K0 fun (j1 : Int × Unit → Option (Int × Unit)) => iter fuel (sh36_L2 j1) (x0, 0, (↑x0.length : Int), 0, ())
theorem ex36 (fuel : Nat) (x0 : (g36.args.getD 0 (.v (.ty .bool))).T) : call G FT36 g36 20 [.tmp 2] c36 h36 fuel (x0, ()) = sh36 fuel x0 := by kernel_rfl
noncomputable def sp36 (x : List UInt8 × Unit) : Option (Int × Unit) := if x.1.length ≤ 10 then some ((valL x.1 : Int), ()) else none
theorem e36 (s : List UInt8) (h : s.length ≤ 10) : sp36 (s, ()) = some ((valL s : Int), ()) := if_pos h
theorem lo36 (x r) (h : sp36 x = some r) : ∃ fuel, sh36 fuel x.1 = some r := by
  obtain ⟨s, u⟩ := x
  unfold sp36 at h
  split at h
  · rename_i hs
    cases h
    have hs : s.length ≤ 10 := hs
    refine ⟨s.length + 1, iter_count (F := sh36_L2 sh36_K0) (fun k => (s, ((valL (s.take k) : Nat) : Int), (s.length : Int), (k : Int), ())) s.length _ (Nat.lt_succ_self _) (fun rc k hk => ?_) (fun rc => ?_)⟩
    · simp only [sh36_L2]
      rw [if_pos (by simpa using hk), if_pos (inR_nat hk), sAt_nat, valL_step s hs k hk, up1 hk (by omega)]
    · simp only [sh36_L2]
      rw [if_neg (by simp)]
      simp [sh36_K0]
  · cases h
theorem fo36 : funOk Try.prog 36 = true := by kernel_rfl
theorem ft36 : FTok Try.prog FT36 := FTok_nil
theorem tc36 : TC Try.prog 36 ⟨g36, sp36⟩ := tc_of (N := 20) (rv := [.tmp 2]) (c := c36) (h := h36) good ft36 wide Try.func36 (by kernel_rfl) rfl (by kernel_rfl) (by decide) (by kernel_rfl) (by kernel_rfl) fun x r h => (lo36 x r h).imp fun fuel hf => (ex36 fuel x.1).trans hf
/-! 11 baggage/plate.Parse -/
def g11 : Sig := ⟨[.v (.ty .str)], .tup [(.ag (.cons (.int .i64) (.cons (.int .i64) (.cons (.int .i64) .nil)))), (.ty (.int .i64))]⟩
def h11 : HT := (.n (.r .x) (.n (.n (.r .x) (.n (.n (.r .x) .e) .e)) (.j ⟨[(0, .d (.ty .str)), (2, .ref 500002 3)], [(500002, .box [.d (.int .i64), .d (.int .i64), .d (.int .i64)])]⟩ (.n (.r .x) (.u (.l ⟨[(0, .d (.ty .str)), (2, .ref 500000 3), (10, .d (.ty (.int .i64)))], [(500000, .box [.d (.int .i64), .d (.int .i64), .d (.int .i64)])]⟩ (.n (.r .x) (.n (.n .e .e) (.n (.u (.n (.r .x) (.n (.r .x) (.n (.n (.r .x) .e) .e)))) (.r .x))))))) (.n (.r (.da 10)) (.n (.n (.r .x) (.n (.n (.r .x) .e) .e)) (.n (.r .x) .e))))))
noncomputable def c11 : Code := Try.f11.body.getD .skip
noncomputable def FT11 : List (Nat × Entry) := [(35, ⟨g35, sp35⟩), (36, ⟨g36, sp36⟩), (13, ⟨g13, sp13⟩)]
noncomputable def sh11_K0 (z0 : List UInt8 × (Int × Int × Int × Unit) × Unit) : Option (((Int × Int × Int × Unit) × Int × Unit) × Unit) :=
  if inCut 0 1 z0.1.length = true then
    (sp36 (cutL z0.1 0 1, ())).bind fun (r1 : Int × Unit) =>
      if inCut 1 4 z0.1.length = true then
        (sp36 (cutL z0.1 1 4, ())).bind fun (r2 : Int × Unit) =>
          if inCut 4 (↑z0.1.length : Int) z0.1.length = true then
            (sp36 (cutL z0.1 4 (↑z0.1.length : Int), ())).bind fun (r3 : Int × Unit) =>
              (sp13 ((r1.1, r2.1, r3.1, ()), ())).bind fun (r4 : Bool × Unit) =>
                if (!r4.1) = true then some (((0, 0, 0, ()), 1, ()), ()) else some (((r1.1, r2.1, r3.1, ()), 0, ()), ())
          else none
      else none
  else none
noncomputable def sh11_L6 (j5 : List UInt8 × (Int × Int × Int × Unit) × Unit → Option (((Int × Int × Int × Unit) × Int × Unit) × Unit)) (rc6 : List UInt8 × Int × (Int × Int × Int × Unit) × Unit → Option (((Int × Int × Int × Unit) × Int × Unit) × Unit)) (z6 : List UInt8 × Int × (Int × Int × Int × Unit) × Unit) : Option (((Int × Int × Int × Unit) × Int × Unit) × Unit) :=
  if decide (z6.2.1 < 10) = true then
    if inR z6.2.1 z6.1.length = true then
      (sp35 (sAt z6.1 z6.2.1, ())).bind fun (r7 : Bool × Unit) =>
        if (!r7.1) = true then some (((0, 0, 0, ()), 3, ()), ())
        else rc6 (z6.1, IntKind.i64.wrap (z6.2.1 + 1), (z6.2.2.1.1, z6.2.2.1.2.1, z6.2.2.1.2.2.1, ()), ())
    else none
  else j5 (z6.1, (z6.2.2.1.1, z6.2.2.1.2.1, z6.2.2.1.2.2.1, ()), ())
noncomputable def sh11 (fuel : Nat) (x0 : List UInt8) : Option (((Int × Int × Int × Unit) × Int × Unit) × Unit) :=
  if ((↑x0.length : Int) != 10) = true then some (((0, 0, 0, ()), 3, ()), ())
  else
    joinK sh11_K0 fun (j5 : List UInt8 × (Int × Int × Int × Unit) × Unit → Option (((Int × Int × Int × Unit) × Int × Unit) × Unit)) =>
      iter fuel (sh11_L6 j5) (x0, 0, (0, 0, 0, ()), ())
theorem ex11 (fuel : Nat) (x0 : (g11.args.getD 0 (.v (.ty .bool))).T) : call G FT11 g11 35 [.cell 2 23, .tmp 3] c11 h11 fuel (x0, ()) = sh11 fuel x0 := by kernel_rfl
noncomputable def sp11 (x : List UInt8 × Unit) : Option ((Pl × Int × Unit) × Unit) := some (prs x.1, ())
theorem lo11 (x r) (h : sp11 x = some r) : ∃ fuel, sh11 fuel x.1 = some r := by
  obtain ⟨s, u⟩ := x
  cases h
  by_cases hs : s.length = 10
  case neg =>
    refine ⟨0, ?_⟩
    unfold sh11
    rw [if_pos (by simp; omega)]
    simp [prs, hs]
  refine ⟨11, ?_⟩
  unfold sh11
  rw [if_neg (by simp; omega)]
  refine iter_inv (F := sh11_L6 sh11_K0) (fun k => (s, (k : Int), ((0, 0, 0, ()) : Pl), ())) (fun k => digL (s.take k) = true) 10 11 (by decide) rfl (fun rc k hk hi => ?_) (fun rc hi => ?_)
  · simp only [sh11_L6]
    rw [if_pos (by simp; omega), if_pos (inR_nat (by omega)), sAt_nat, e35, up1 hk (by omega)]
    simp only [Option.bind_some]
    by_cases hd : digB ((s.getD k 0).toNat : Int) = true
    · refine .inl ⟨by rw [hd]; rfl, ?_⟩
      rw [digL_snoc s k (by omega), hi, hd]; rfl
    · have hd : digB ((s.getD k 0).toNat : Int) = false := by simpa using hd
      refine .inr ?_
      rw [hd]
      simp [prs, digL_false s k (by omega) hd]
  · have hd : digL s = true := by rw [show (10 : Nat) = s.length from hs.symm, List.take_length] at hi; exact hi
    simp only [sh11_L6]
    rw [if_neg (by simp)]
    simp only [sh11_K0]
    have c1 : cutL s 0 1 = s.take 1 := rfl
    have c2 : cutL s 1 4 = (s.drop 1).take 3 := rfl
    have c3 : cutL s 4 (s.length : Int) = s.drop 4 := by simp [cutL, List.take_of_length_le]
    rw [if_pos (by simp [inCut, hs]), c1, e36 _ (by simp; omega), Option.bind_some, if_pos (by simp [inCut, hs]), c2, e36 _ (by simp; omega), Option.bind_some, if_pos (by simp [inCut, hs]), c3, e36 _ (by simp; omega), Option.bind_some, e13, Option.bind_some]
    have hp : s.length = 10 ∧ digL s = true := ⟨hs, hd⟩
    simp only [prs, if_pos hp]
    cases vldB (valL (s.take 1)) (valL ((s.drop 1).take 3)) (valL (s.drop 4)) <;> rfl
theorem fo11 : funOk Try.prog 11 = true := by kernel_rfl
theorem ft11 : FTok Try.prog FT11 := FTok_cons fo35 tc35 (FTok_cons fo36 tc36 (FTok_cons fo13 tc13 (FTok_nil)))
theorem tc11 : TC Try.prog 11 ⟨g11, sp11⟩ := tc_of (N := 35) (rv := [.cell 2 23, .tmp 3]) (c := c11) (h := h11) good ft11 wide Try.func11 (by kernel_rfl) rfl (by kernel_rfl) (by decide) (by kernel_rfl) (by kernel_rfl) fun x r h => (lo11 x r h).imp fun fuel hf => (ex11 fuel x.1).trans hf
theorem e11 (s : List UInt8) : sp11 (s, ()) = some (prs s, ()) := rfl
/-! 14 baggage/baggagelaw01.awake -/
def g14 : Sig := ⟨[], .v (.ty .bool)⟩
def h14 : HT := (.n (.r .x) (.n (.r .x) (.j ⟨[(0, .d (.ty .bool))], []⟩ (.r .x) .e)))
noncomputable def c14 : Code := Try.f14.body.getD .skip
noncomputable def FT14 : List (Nat × Entry) := [(11, ⟨g11, sp11⟩), (12, ⟨g12, sp12⟩)]
noncomputable def sh14_K1 (z1 : Bool × Unit) : Option (Bool × Unit) :=
  some (z1.1, ())
noncomputable def sh14 (fuel : Nat) : Option (Bool × Unit) :=
  (sp11 ([48, 50, 50, 48, 49, 50, 51, 52, 53, 54], ())).bind fun (r0 : ((Int × Int × Int × Unit) × Int × Unit) × Unit) =>
    joinK sh14_K1 fun (j2 : Bool × Unit → Option (Bool × Unit)) =>
      if (r0.1.2.1 == 0) = true then
        if (r0.1.1.1 == 0 && (r0.1.1.2.1 == 220 && (r0.1.1.2.2.1 == 123456 && true))) = true then
          (sp12 ((r0.1.1.1, r0.1.1.2.1, r0.1.1.2.2.1, ()), ())).bind fun (r3 : List UInt8 × Unit) =>
            j2 (r3.1 == [48, 50, 50, 48, 49, 50, 51, 52, 53, 54], ())
        else j2 (false, ())
      else j2 (false, ())
theorem ex14 (fuel : Nat)  : call G FT14 g14 19 [.tmp 0] c14 h14 fuel (()) = sh14 fuel  := by kernel_rfl
noncomputable def sp14 (x : Unit) : Option (Bool × Unit) := sh14 0 
theorem fo14 : funOk Try.prog 14 = true := by kernel_rfl
theorem ft14 : FTok Try.prog FT14 := FTok_cons fo11 tc11 (FTok_cons fo12 tc12 (FTok_nil))
theorem tc14 : TC Try.prog 14 ⟨g14, sp14⟩ := tc_of (N := 19) (rv := [.tmp 0]) (c := c14) (h := h14) good ft14 wide Try.func14 (by kernel_rfl) rfl (by kernel_rfl) (by decide) (by kernel_rfl) (by kernel_rfl) fun x r h => ⟨0, (ex14 0 ).trans h⟩
theorem e14 : sp14 () = some (true, ()) := by kernel_rfl
/-! 3 baggage/baggagelaw01.PlateBack -/
def g3 : Sig := ⟨[.v (.ag (.cons (.int .i64) (.cons (.int .i64) (.cons (.int .i64) .nil)))), .v (.ty .str)], .v (.ty .bool)⟩
def h3 : HT := (.n (.r .x) (.n (.r (.qt 11)) (.n (.r .x) (.n (.j ⟨[(1, .d (.ty .str)), (37, .d (.ty .bool))], []⟩ (.r .x) (.n (.n (.r .x) .e) .e)) (.n (.r .x) (.j ⟨[(4, .d (.ty .bool))], []⟩ (.r .x) .e))))))
noncomputable def c3 : Code := Try.f3.body.getD .skip
noncomputable def FT3 : List (Nat × Entry) := [(10, ⟨g10, sp10⟩), (12, ⟨g12, sp12⟩), (11, ⟨g11, sp11⟩), (13, ⟨g13, sp13⟩), (14, ⟨g14, sp14⟩)]
noncomputable def sh3_K7 (z7 : Bool × Unit) : Option (Bool × Unit) :=
  some (z7.1, ())
noncomputable def sh3_K5 (z5 : List UInt8 × Bool × Unit) : Option (Bool × Unit) :=
  if z5.2.1 = true then some (false, ())
  else
    (sp11 (z5.1, ())).bind fun (r6 : ((Int × Int × Int × Unit) × Int × Unit) × Unit) =>
      joinK sh3_K7 fun (j8 : Bool × Unit → Option (Bool × Unit)) =>
        if (r6.1.2.1 != 0) = true then (sp14 ()).bind fun (r9 : Bool × Unit) => j8 (r9.1, ())
        else
          (sp12 ((r6.1.1.1, r6.1.1.2.1, r6.1.1.2.2.1, ()), ())).bind fun (r10 : List UInt8 × Unit) =>
            if (r10.1 == z5.1) = true then (sp14 ()).bind fun (r11 : Bool × Unit) => j8 (r11.1, ()) else j8 (false, ())
noncomputable def sh3 (fuel : Nat) (x0 : Int × Int × Int × Unit) (x1 : List UInt8) : Option (Bool × Unit) :=
  (sp10 (x0.1, 10, ())).bind fun (r0 : Int × Unit) =>
    (sp10 (x0.2.1, 999, ())).bind fun (r1 : Int × Unit) =>
      (sp10 (x0.2.2.1, 1000000, ())).bind fun (r2 : Int × Unit) =>
        (sp12 ((r0.1, IntKind.i64.wrap (1 + r1.1), r2.1, ()), ())).bind fun (r3 : List UInt8 × Unit) =>
          (sp11 (r3.1, ())).bind fun (r4 : ((Int × Int × Int × Unit) × Int × Unit) × Unit) =>
            joinK sh3_K5 fun (j12 : List UInt8 × Bool × Unit → Option (Bool × Unit)) =>
              if (r4.1.2.1 != 0) = true then j12 (x1, true, ())
              else
                if (!(r4.1.1.1 == r0.1 && (r4.1.1.2.1 == IntKind.i64.wrap (1 + r1.1) && (r4.1.1.2.2.1 == r2.1 && true)))) = true then j12 (x1, true, ())
                else (sp13 ((r0.1, IntKind.i64.wrap (1 + r1.1), r2.1, ()), ())).bind fun (r13 : Bool × Unit) => j12 (x1, !r13.1, ())
theorem ex3 (fuel : Nat) (x0 : (g3.args.getD 0 (.v (.ty .bool))).T) (x1 : (g3.args.getD 1 (.v (.ty .bool))).T) : call G FT3 g3 54 [.tmp 4] c3 h3 fuel (x0, x1, ()) = sh3 fuel x0 x1 := by kernel_rfl
noncomputable def sp3 (x : (Int × Int × Int × Unit) × (List UInt8) × Unit) : Option (Bool × Unit) := sh3 0 x.1 x.2.1
theorem fo3 : funOk Try.prog 3 = true := by kernel_rfl
theorem ft3 : FTok Try.prog FT3 := FTok_cons fo10 tc10 (FTok_cons fo12 tc12 (FTok_cons fo11 tc11 (FTok_cons fo13 tc13 (FTok_cons fo14 tc14 (FTok_nil)))))
theorem tc3 : TC Try.prog 3 ⟨g3, sp3⟩ := tc_of (N := 54) (rv := [.tmp 4]) (c := c3) (h := h3) good ft3 wide Try.func3 (by kernel_rfl) rfl (by kernel_rfl) (by decide) (by kernel_rfl) (by kernel_rfl) fun x r h => ⟨0, (ex3 0 x.1 x.2.1).trans h⟩
theorem law3 (x : Pl × List UInt8 × Unit) : ∃ o, sp3 x = some (true, o) := by
  obtain ⟨⟨a, b, c, u⟩, s, u'⟩ := x
  refine ⟨(), ?_⟩
  show sh3 0 (a, b, c, ()) s = _
  unfold sh3
  dsimp only [joinK]
  obtain ⟨a', ha, ha1, ha2⟩ := e10 a 10 (by decide) (by decide)
  obtain ⟨b', hb, hb1, hb2⟩ := e10 b 999 (by decide) (by decide)
  obtain ⟨c', hc, hc1, hc2⟩ := e10 c 1000000 (by decide) (by decide)
  have hw : IntKind.i64.wrap (1 + b') = 1 + b' := wrapI (by omega) (by omega)
  have hv : vldB a' (1 + b') c' = true := by rw [vldB_iff]; omega
  rw [ha, Option.bind_some, hb, Option.bind_some, hc, Option.bind_some, hw, e12, Option.bind_some, e11, Option.bind_some]
  dsimp only
  rw [prs_fmt hv]
  rw [if_neg (by simp), if_neg (by simp), e13, Option.bind_some, hv]
  simp only [sh3_K5, joinK]
  rw [if_neg (by decide), e11, Option.bind_some]
  cases he : (prs s).2.1 != 0 with
  | true => rw [if_pos rfl, e14, Option.bind_some]; rfl
  | false =>
    rw [if_neg (by decide), e12, Option.bind_some, fmt_prs (by simpa using he), if_pos (by simp), e14, Option.bind_some]; rfl
/-! 38 baggage/baggageref01.All -/
def g38 : Sig := ⟨[.v (.ty .str)], .v (.ty .bool)⟩
def h38 : HT := (.n (.r .x) (.j ⟨[], []⟩ (.n (.r .x) (.u (.l ⟨[(0, .d (.ty .str)), (3, .d (.ty (.int .i64)))], []⟩ (.n (.n (.r .x) (.n .e .e)) (.n (.u (.j ⟨[(0, .d (.ty .str)), (3, .d (.ty (.int .i64))), (19, .d (.ty .bool))], []⟩ (.r .x) (.n (.n (.r .x) .e) .e))) (.r .x)))))) (.n (.r .x) .e)))
noncomputable def c38 : Code := Try.f38.body.getD .skip
noncomputable def FT38 : List (Nat × Entry) := []
noncomputable def sh38_K0 (z0 : Unit) : Option (Bool × Unit) :=
  some (true, ())
noncomputable def sh38_K3 (rc2 : List UInt8 × Int × Unit → Option (Bool × Unit)) (z3 : List UInt8 × Int × Bool × Unit) : Option (Bool × Unit) :=
  if z3.2.2.1 = true then some (false, ()) else rc2 (z3.1, IntKind.i64.wrap (z3.2.1 + 1), ())
noncomputable def sh38_L2 (j1 : Unit → Option (Bool × Unit)) (rc2 : List UInt8 × Int × Unit → Option (Bool × Unit)) (z2 : List UInt8 × Int × Unit) : Option (Bool × Unit) :=
  if decide (z2.2.1 < (↑z2.1.length : Int)) = true then
    joinK (sh38_K3 rc2) fun (j4 : List UInt8 × Int × Bool × Unit → Option (Bool × Unit)) =>
      if inR z2.2.1 z2.1.length = true then
        if decide (sAt z2.1 z2.2.1 < 48) = true then j4 (z2.1, z2.2.1, true, ())
        else if inR z2.2.1 z2.1.length = true then j4 (z2.1, z2.2.1, decide (57 < sAt z2.1 z2.2.1), ()) else none
      else none
  else j1 ()
noncomputable def sh38 (fuel : Nat) (x0 : List UInt8) : Option (Bool × Unit) :=
  joinK sh38_K0 fun (j1 : Unit → Option (Bool × Unit)) => iter fuel (sh38_L2 j1) (x0, 0, ())
theorem ex38 (fuel : Nat) (x0 : (g38.args.getD 0 (.v (.ty .bool))).T) : call G FT38 g38 20 [.tmp 2] c38 h38 fuel (x0, ()) = sh38 fuel x0 := by kernel_rfl
noncomputable def sp38 (x : List UInt8 × Unit) : Option (Bool × Unit) := if x.1.length ≤ 100000 then some (digL x.1, ()) else none
theorem lo38 (x r) (h : sp38 x = some r) : ∃ fuel, sh38 fuel x.1 = some r := by
  obtain ⟨s, u⟩ := x
  unfold sp38 at h
  split at h
  case isFalse => cases h
  rename_i hs
  cases h
  have hs : s.length ≤ 100000 := hs
  refine ⟨s.length + 1, iter_inv (F := sh38_L2 sh38_K0) (fun k => (s, (k : Int), ())) (fun k => digL (s.take k) = true) s.length _ (Nat.lt_succ_self _) rfl (fun rc k hk hi => ?_) (fun rc hi => ?_)⟩
  · simp only [sh38_L2, joinK]
    rw [if_pos (by simpa using hk), if_pos (inR_nat hk), sAt_nat]
    by_cases hd : digB ((s.getD k 0).toNat : Int) = true
    · refine .inl ⟨?_, by rw [digL_snoc s k hk, hi, hd]; rfl⟩
      have hd := hd
      simp only [digB, Bool.and_eq_true, decide_eq_true_eq] at hd
      rw [if_neg (by simp only [decide_eq_true_eq]; omega), if_pos (inR_nat hk)]
      simp only [sh38_K3]
      rw [if_neg (by simp only [decide_eq_true_eq]; omega), up1 hk (by omega)]
    · have hd : digB ((s.getD k 0).toNat : Int) = false := by simpa using hd
      refine .inr ?_
      rw [digL_false s k hk hd]
      simp only [digB, Bool.and_eq_false_iff, decide_eq_false_iff_not] at hd
      by_cases hlo : ((s.getD k 0).toNat : Int) < 48
      · rw [if_pos (by simpa using hlo)]; rfl
      · rw [if_neg (by simpa using hlo), if_pos (inR_nat hk)]
        simp only [sh38_K3]
        rw [if_pos (by simp only [decide_eq_true_eq]; omega)]
  · simp only [sh38_L2]
    rw [if_neg (by simp)]
    rw [List.take_length] at hi
    rw [hi]; rfl
theorem fo38 : funOk Try.prog 38 = true := by kernel_rfl
theorem ft38 : FTok Try.prog FT38 := FTok_nil
theorem tc38 : TC Try.prog 38 ⟨g38, sp38⟩ := tc_of (N := 20) (rv := [.tmp 2]) (c := c38) (h := h38) good ft38 wide Try.func38 (by kernel_rfl) rfl (by kernel_rfl) (by decide) (by kernel_rfl) (by kernel_rfl) fun x r h => (lo38 x r h).imp fun fuel hf => (ex38 fuel x.1).trans hf
theorem e38 (s : List UInt8) (h : s.length ≤ 100000) : sp38 (s, ()) = some (digL s, ()) := if_pos h
/-! 39 baggage/baggageref01.Value -/
def g39 : Sig := ⟨[.v (.ty .str)], .v (.ty (.int .i64))⟩
def h39 : HT := (.n (.r .x) (.n (.r .x) (.j ⟨[(3, .d (.ty (.int .i64)))], []⟩ (.n (.r .x) (.u (.l ⟨[(0, .d (.ty .str)), (3, .d (.ty (.int .i64))), (4, .d (.ty (.int .i64)))], []⟩ (.n (.n (.r .x) (.n .e .e)) (.n (.u (.r .x)) (.r .x)))))) (.n (.r .x) .e))))
noncomputable def c39 : Code := Try.f39.body.getD .skip
noncomputable def FT39 : List (Nat × Entry) := []
noncomputable def sh39_K0 (z0 : Int × Unit) : Option (Int × Unit) :=
  some (z0.1, ())
noncomputable def sh39_L2 (j1 : Int × Unit → Option (Int × Unit)) (rc2 : List UInt8 × Int × Int × Unit → Option (Int × Unit)) (z2 : List UInt8 × Int × Int × Unit) : Option (Int × Unit) :=
  if decide (z2.2.2.1 < (↑z2.1.length : Int)) = true then
    if inR z2.2.2.1 z2.1.length = true then
      rc2
        (z2.1, IntKind.i64.wrap (IntKind.i64.wrap (z2.2.1 * 10) + IntKind.i64.wrap (IntKind.u8.wrap (sAt z2.1 z2.2.2.1 - 48))),
          IntKind.i64.wrap (z2.2.2.1 + 1), ())
    else none
  else j1 (z2.2.1, ())
noncomputable def sh39 (fuel : Nat) (x0 : List UInt8) : Option (Int × Unit) :=
  joinK sh39_K0 fun (j1 : Int × Unit → Option (Int × Unit)) => iter fuel (sh39_L2 j1) (x0, 0, 0, ())
theorem ex39 (fuel : Nat) (x0 : (g39.args.getD 0 (.v (.ty .bool))).T) : call G FT39 g39 20 [.tmp 2] c39 h39 fuel (x0, ()) = sh39 fuel x0 := by kernel_rfl
noncomputable def sp39 (x : List UInt8 × Unit) : Option (Int × Unit) := if x.1.length ≤ 10 then some ((valL x.1 : Int), ()) else none
theorem e39 (s : List UInt8) (h : s.length ≤ 10) : sp39 (s, ()) = some ((valL s : Int), ()) := if_pos h
theorem lo39 (x r) (h : sp39 x = some r) : ∃ fuel, sh39 fuel x.1 = some r := by
  obtain ⟨s, u⟩ := x
  unfold sp39 at h
  split at h
  · rename_i hs
    cases h
    have hs : s.length ≤ 10 := hs
    refine ⟨s.length + 1, iter_count (F := sh39_L2 sh39_K0) (fun k => (s, ((valL (s.take k) : Nat) : Int), (k : Int), ())) s.length _ (Nat.lt_succ_self _) (fun rc k hk => ?_) (fun rc => ?_)⟩
    · simp only [sh39_L2]
      rw [if_pos (by simpa using hk), if_pos (inR_nat hk), sAt_nat, Int.mul_comm _ 10, valL_step s hs k hk, up1 hk (by omega)]
    · simp only [sh39_L2]
      rw [if_neg (by simp)]
      simp [sh39_K0]
  · cases h
theorem fo39 : funOk Try.prog 39 = true := by kernel_rfl
theorem ft39 : FTok Try.prog FT39 := FTok_nil
theorem tc39 : TC Try.prog 39 ⟨g39, sp39⟩ := tc_of (N := 20) (rv := [.tmp 2]) (c := c39) (h := h39) good ft39 wide Try.func39 (by kernel_rfl) rfl (by kernel_rfl) (by decide) (by kernel_rfl) (by kernel_rfl) fun x r h => (lo39 x r h).imp fun fuel hf => (ex39 fuel x.1).trans hf
/-! 16 baggage/baggageref01.Valid -/
def g16 : Sig := ⟨[.v (.ag (.cons (.int .i64) (.cons (.int .i64) (.cons (.int .i64) .nil))))], .v (.ty .bool)⟩
def h16 : HT := (.n (.r .x) (.j ⟨[(2, .d (.ty .bool))], []⟩ (.r .x) .e))
noncomputable def c16 : Code := Try.f16.body.getD .skip
noncomputable def FT16 : List (Nat × Entry) := []
noncomputable def sh16_K0 (z0 : Bool × Unit) : Option (Bool × Unit) :=
  some (z0.1, ())
noncomputable def sh16 (fuel : Nat) (x0 : Int × Int × Int × Unit) : Option (Bool × Unit) :=
  joinK sh16_K0 fun (j1 : Bool × Unit → Option (Bool × Unit)) =>
    if decide (0 ≤ x0.1) = true then
      if decide (x0.1 ≤ 9) = true then
        if decide (1 ≤ x0.2.1) = true then
          if decide (x0.2.1 ≤ 999) = true then if decide (0 ≤ x0.2.2.1) = true then j1 (decide (x0.2.2.1 ≤ 999999), ()) else j1 (false, ())
          else j1 (false, ())
        else j1 (false, ())
      else j1 (false, ())
    else j1 (false, ())
theorem ex16 (fuel : Nat) (x0 : (g16.args.getD 0 (.v (.ty .bool))).T) : call G FT16 g16 31 [.tmp 2] c16 h16 fuel (x0, ()) = sh16 fuel x0 := by kernel_rfl
noncomputable def sp16 (x : (Int × Int × Int × Unit) × Unit) : Option (Bool × Unit) := sh16 0 x.1
theorem fo16 : funOk Try.prog 16 = true := by kernel_rfl
theorem ft16 : FTok Try.prog FT16 := FTok_nil
theorem tc16 : TC Try.prog 16 ⟨g16, sp16⟩ := tc_of (N := 31) (rv := [.tmp 2]) (c := c16) (h := h16) good ft16 wide Try.func16 (by kernel_rfl) rfl (by kernel_rfl) (by decide) (by kernel_rfl) (by kernel_rfl) fun x r h => ⟨0, (ex16 0 x.1).trans h⟩
theorem e16 (a b c : Int) : sp16 ((a, b, c, ()), ()) = some (vldB a b c, ()) := by
  show sh16 0 (a, b, c, ()) = _
  unfold sh16 sh16_K0 joinK vldB
  repeat' split
  all_goals simp_all
  all_goals omega
/-! 15 baggage/baggageref01.Parse -/
def g15 : Sig := ⟨[.v (.ty .str)], .tup [(.ag (.cons (.int .i64) (.cons (.int .i64) (.cons (.int .i64) .nil)))), (.ty (.int .i64))]⟩
def h15 : HT := (.n (.r .x) (.n (.j ⟨[(0, .d (.ty .str)), (2, .ref 500000 3), (12, .d (.ty .bool))], [(500000, .box [.d (.int .i64), .d (.int .i64), .d (.int .i64)])]⟩ (.r .x) (.n (.n (.r .x) .e) .e)) (.n (.r (.da 10)) (.n (.n (.r .x) (.n (.n (.r .x) .e) .e)) (.n (.r .x) .e)))))
noncomputable def c15 : Code := Try.f15.body.getD .skip
noncomputable def FT15 : List (Nat × Entry) := [(38, ⟨g38, sp38⟩), (39, ⟨g39, sp39⟩), (16, ⟨g16, sp16⟩)]
noncomputable def sh15_K0 (z0 : List UInt8 × Bool × (Int × Int × Int × Unit) × Unit) : Option (((Int × Int × Int × Unit) × Int × Unit) × Unit) :=
  if z0.2.1 = true then some (((0, 0, 0, ()), 3, ()), ())
  else
    if inCut 0 1 z0.1.length = true then
      (sp39 (cutL z0.1 0 1, ())).bind fun (r1 : Int × Unit) =>
        if inCut 1 4 z0.1.length = true then
          (sp39 (cutL z0.1 1 4, ())).bind fun (r2 : Int × Unit) =>
            if inCut 4 (↑z0.1.length : Int) z0.1.length = true then
              (sp39 (cutL z0.1 4 (↑z0.1.length : Int), ())).bind fun (r3 : Int × Unit) =>
                (sp16 ((r1.1, r2.1, r3.1, ()), ())).bind fun (r4 : Bool × Unit) =>
                  if (!r4.1) = true then some (((0, 0, 0, ()), 1, ()), ()) else some (((r1.1, r2.1, r3.1, ()), 0, ()), ())
            else none
        else none
    else none
noncomputable def sh15 (fuel : Nat) (x0 : List UInt8) : Option (((Int × Int × Int × Unit) × Int × Unit) × Unit) :=
  joinK sh15_K0 fun (j5 : List UInt8 × Bool × (Int × Int × Int × Unit) × Unit → Option (((Int × Int × Int × Unit) × Int × Unit) × Unit)) =>
    if ((↑x0.length : Int) != 10) = true then j5 (x0, true, (0, 0, 0, ()), ())
    else (sp38 (x0, ())).bind fun (r6 : Bool × Unit) => j5 (x0, !r6.1, (0, 0, 0, ()), ())
theorem ex15 (fuel : Nat) (x0 : (g15.args.getD 0 (.v (.ty .bool))).T) : call G FT15 g15 29 [.cell 2 23, .tmp 3] c15 h15 fuel (x0, ()) = sh15 fuel x0 := by kernel_rfl
noncomputable def sp15 (x : (List UInt8) × Unit) : Option (((Int × Int × Int × Unit) × Int × Unit) × Unit) := sh15 0 x.1
theorem fo15 : funOk Try.prog 15 = true := by kernel_rfl
theorem ft15 : FTok Try.prog FT15 := FTok_cons fo38 tc38 (FTok_cons fo39 tc39 (FTok_cons fo16 tc16 (FTok_nil)))
theorem tc15 : TC Try.prog 15 ⟨g15, sp15⟩ := tc_of (N := 29) (rv := [.cell 2 23, .tmp 3]) (c := c15) (h := h15) good ft15 wide Try.func15 (by kernel_rfl) rfl (by kernel_rfl) (by decide) (by kernel_rfl) (by kernel_rfl) fun x r h => ⟨0, (ex15 0 x.1).trans h⟩
theorem e15 (s : List UInt8) : sp15 (s, ()) = some (prs s, ()) := by
  show sh15 0 s = _
  unfold sh15
  dsimp only [joinK]
  by_cases hs : s.length = 10
  case neg =>
    rw [if_pos (by simp; omega)]
    simp [sh15_K0, prs, hs]
  rw [if_neg (by simp; omega), e38 _ (by omega), Option.bind_some]
  cases hd : digL s with
  | false => simp [sh15_K0, prs, hd]
  | true =>
    simp only [sh15_K0]
    have c1 : cutL s 0 1 = s.take 1 := rfl
    have c2 : cutL s 1 4 = (s.drop 1).take 3 := rfl
    have c3 : cutL s 4 (s.length : Int) = s.drop 4 := by simp [cutL, List.take_of_length_le]
    rw [if_neg (by decide), if_pos (by simp [inCut, hs]), c1, e39 _ (by simp; omega), Option.bind_some, if_pos (by simp [inCut, hs]), c2, e39 _ (by simp; omega), Option.bind_some, if_pos (by simp [inCut, hs]), c3, e39 _ (by simp; omega), Option.bind_some, e16, Option.bind_some]
    have hp : s.length = 10 ∧ digL s = true := ⟨hs, hd⟩
    simp only [prs, if_pos hp]
    cases vldB (valL (s.take 1)) (valL ((s.drop 1).take 3)) (valL (s.drop 4)) <;> rfl
/-! 41 baggage/baggageref01.Number -/
def g41 : Sig := ⟨[.v (.ag (.cons (.int .i64) (.cons (.int .i64) (.cons (.int .i64) .nil))))], .v (.ty (.int .i64))⟩
def h41 : HT := (.n (.r .x) (.n (.r .x) .e))
noncomputable def c41 : Code := Try.f41.body.getD .skip
noncomputable def FT41 : List (Nat × Entry) := []
noncomputable def sh41 (fuel : Nat) (x0 : Int × Int × Int × Unit) : Option (Int × Unit) :=
  some (IntKind.i64.wrap (IntKind.i64.wrap (IntKind.i64.wrap (IntKind.i64.wrap (x0.1 * 1000) + x0.2.1) * 1000000) + x0.2.2.1), ())
theorem ex41 (fuel : Nat) (x0 : (g41.args.getD 0 (.v (.ty .bool))).T) : call G FT41 g41 13 [.tmp 2] c41 h41 fuel (x0, ()) = sh41 fuel x0 := by kernel_rfl
noncomputable def sp41 (x : (Int × Int × Int × Unit) × Unit) : Option (Int × Unit) := sh41 0 x.1
theorem fo41 : funOk Try.prog 41 = true := by kernel_rfl
theorem ft41 : FTok Try.prog FT41 := FTok_nil
theorem tc41 : TC Try.prog 41 ⟨g41, sp41⟩ := tc_of (N := 13) (rv := [.tmp 2]) (c := c41) (h := h41) good ft41 wide Try.func41 (by kernel_rfl) rfl (by kernel_rfl) (by decide) (by kernel_rfl) (by kernel_rfl) fun x r h => ⟨0, (ex41 0 x.1).trans h⟩
theorem e41 (a b c : Int) : sp41 ((a, b, c, ()), ()) = some (numL a b c, ()) := rfl
/-! 40 baggage/baggageref01.Digits -/
def g40 : Sig := ⟨[.v (.ty (.int .i64)), .v (.ty (.int .i64))], .v (.ty .str)⟩
def h40 : HT := (.n (.r .x) (.n (.r .x) (.j ⟨[(5, .own 500002)], [(500002, .arr (.cons (.int .u8) .nil))]⟩ (.n (.r .x) (.u (.l ⟨[(0, .d (.ty (.int .i64))), (5, .own 500000), (6, .d (.ty (.int .i64)))], [(500000, .arr (.cons (.int .u8) .nil))]⟩ (.n (.n (.r .x) (.n .e .e)) (.n (.u (.n (.r .x) (.r .x))) (.r .x)))))) (.n (.r .x) .e))))
noncomputable def c40 : Code := Try.f40.body.getD .skip
noncomputable def FT40 : List (Nat × Entry) := []
noncomputable def sh40_K0 (z0 : List (Int × Unit) × Unit) : Option (List UInt8 × Unit) :=
  some (toBytes z0.1, ())
noncomputable def sh40_L2 (j1 : List (Int × Unit) × Unit → Option (List UInt8 × Unit)) (rc2 : Int × Int × List (Int × Unit) × Unit → Option (List UInt8 × Unit)) (z2 : Int × Int × List (Int × Unit) × Unit) : Option (List UInt8 × Unit) :=
  if decide (0 ≤ z2.2.1) = true then
    if inR z2.2.1 z2.2.2.1.length = true then
      if decide (z2.2.1.toNat + 1 ≤ z2.2.2.1.length) = true then
        rc2
          (IntKind.i64.wrap (z2.1.tdiv 10), IntKind.i64.wrap (z2.2.1 - 1),
            z2.2.2.1.set z2.2.1.toNat (IntKind.u8.wrap (IntKind.i64.wrap (48 + z2.1.tmod 10)), ()), ())
      else none
    else none
  else j1 (z2.2.2.1, ())
noncomputable def sh40 (fuel : Nat) (x0 : Int) (x1 : Int) : Option (List UInt8 × Unit) :=
  if decide (0 ≤ x1) = true then
    if decide (x1 ≤ x1) = true then
      if decide (x1 ≤ 140737488355328) = true then
        if decide (1 * x1 ≤ 140737488355328) = true then
          joinK sh40_K0 fun (j1 : List (Int × Unit) × Unit → Option (List UInt8 × Unit)) =>
            iter fuel (sh40_L2 j1) (x0, IntKind.i64.wrap (x1 - 1), List.replicate x1.toNat (0, ()), ())
        else none
      else none
    else none
  else none
theorem ex40 (fuel : Nat) (x0 : (g40.args.getD 0 (.v (.ty .bool))).T) (x1 : (g40.args.getD 1 (.v (.ty .bool))).T) : call G FT40 g40 26 [.tmp 4] c40 h40 fuel (x0, x1, ()) = sh40 fuel x0 x1 := by kernel_rfl
noncomputable def sp40 (x : Int × Int × Unit) : Option (List UInt8 × Unit) := if 0 ≤ x.1 ∧ x.1 < 10000000000 ∧ x.2.1 = 10 then some (digs x.1.toNat 10, ()) else none
theorem e40 (n : Int) (h : 0 ≤ n ∧ n < 10000000000) : sp40 (n, 10, ()) = some (digs n.toNat 10, ()) := if_pos ⟨h.1, h.2, rfl⟩
theorem lo40a (N : Nat) (w : Int) (hb : N < 10000000000) (hw : w = 10) : sh40 11 N w = some (digs N 10, ()) := by
  unfold sh40
  dsimp only [joinK]
  rw [if_pos (decide_eq_true (by omega)), if_pos (decide_eq_true (by omega)), if_pos (decide_eq_true (by omega)), if_pos (decide_eq_true (by omega)), hw]
  have h := iter_count (F := sh40_L2 sh40_K0) (r := some (digs N 10, ())) (fun k => (((N / 10 ^ k : Nat) : Int), (9 : Int) - (k : Int), rowsD N k, ())) 10 11 (by decide) (fun rc k hk => ?_) (fun rc => ?_)
  · skip
    have e0 : rowsD N 0 = List.replicate (10 : Int).toNat ((0 : Int), ()) := rfl
    have e1 : (9 : Int) - ((0 : Nat) : Int) = IntKind.i64.wrap (10 - 1) := by decide
    rw [Nat.pow_zero, Nat.div_one, e0, e1] at h
    exact h
  · have h9 : (9 : Int) - (k : Int) = ((9 - k : Nat) : Int) := by omega
    have h8 : IntKind.i64.wrap ((9 : Int) - (k : Int) - 1) = (9 : Int) - ((k + 1 : Nat) : Int) := by rw [wrapI (by omega) (by omega)]; omega
    simp only [sh40_L2]
    rw [if_pos (decide_eq_true (by omega)), h8, h9, if_pos (by rw [rowsD_len N k (by omega)]; exact inR_nat (by omega)), if_pos (decide_eq_true (by rw [rowsD_len N k (by omega)]; omega)), div_val N k hb, dig_val2, Int.toNat_natCast, rowsD_set N k hk]
  · simp only [sh40_L2]
    rw [if_neg (by simp)]
    simp only [sh40_K0]
    rw [rowsD_end]
theorem lo40 (x r) (h : sp40 x = some r) : ∃ fuel, sh40 fuel x.1 x.2.1 = some r := by
  obtain ⟨n, w, u⟩ := x
  unfold sp40 at h
  split at h
  case isFalse => cases h
  rename_i hc
  cases h
  obtain ⟨h1, hb, hw⟩ := hc
  have h1 : 0 ≤ n := h1
  have hb : n < 10000000000 := hb
  obtain ⟨N, rfl⟩ := Int.eq_ofNat_of_zero_le h1
  exact ⟨11, lo40a N w (by omega) hw⟩
theorem fo40 : funOk Try.prog 40 = true := by kernel_rfl
theorem ft40 : FTok Try.prog FT40 := FTok_nil
theorem tc40 : TC Try.prog 40 ⟨g40, sp40⟩ := tc_of (N := 26) (rv := [.tmp 4]) (c := c40) (h := h40) good ft40 wide Try.func40 (by kernel_rfl) rfl (by kernel_rfl) (by decide) (by kernel_rfl) (by kernel_rfl) fun x r h => (lo40 x r h).imp fun fuel hf => (ex40 fuel x.1 x.2.1).trans hf
/-! 17 baggage/baggageref01.Format -/
def g17 : Sig := ⟨[.v (.ag (.cons (.int .i64) (.cons (.int .i64) (.cons (.int .i64) .nil))))], .v (.ty .str)⟩
def h17 : HT := (.n (.r .x) (.n (.n (.r .x) (.n (.n (.r .x) .e) .e)) (.n (.r .x) .e)))
noncomputable def c17 : Code := Try.f17.body.getD .skip
noncomputable def FT17 : List (Nat × Entry) := [(16, ⟨g16, sp16⟩), (41, ⟨g41, sp41⟩), (40, ⟨g40, sp40⟩)]
noncomputable def sh17 (fuel : Nat) (x0 : Int × Int × Int × Unit) : Option (List UInt8 × Unit) :=
  (sp16 ((x0.1, x0.2.1, x0.2.2.1, ()), ())).bind fun (r0 : Bool × Unit) =>
    if (!r0.1) = true then some ([], ())
    else
      (sp41 ((x0.1, x0.2.1, x0.2.2.1, ()), ())).bind fun (r1 : Int × Unit) => (sp40 (r1.1, 10, ())).bind fun (r2 : List UInt8 × Unit) => some (r2.1, ())
theorem ex17 (fuel : Nat) (x0 : (g17.args.getD 0 (.v (.ty .bool))).T) : call G FT17 g17 9 [.tmp 2] c17 h17 fuel (x0, ()) = sh17 fuel x0 := by kernel_rfl
noncomputable def sp17 (x : (Int × Int × Int × Unit) × Unit) : Option (List UInt8 × Unit) := sh17 0 x.1
theorem fo17 : funOk Try.prog 17 = true := by kernel_rfl
theorem ft17 : FTok Try.prog FT17 := FTok_cons fo16 tc16 (FTok_cons fo41 tc41 (FTok_cons fo40 tc40 (FTok_nil)))
theorem tc17 : TC Try.prog 17 ⟨g17, sp17⟩ := tc_of (N := 9) (rv := [.tmp 2]) (c := c17) (h := h17) good ft17 wide Try.func17 (by kernel_rfl) rfl (by kernel_rfl) (by decide) (by kernel_rfl) (by kernel_rfl) fun x r h => ⟨0, (ex17 0 x.1).trans h⟩
theorem e17 (a b c : Int) : sp17 ((a, b, c, ()), ()) = some (fmt a b c, ()) := by
  show sh17 0 (a, b, c, ()) = _
  unfold sh17
  dsimp only [joinK]
  rw [e16, Option.bind_some]
  cases hv : vldB a b c with
  | false => simp [fmt, hv]
  | true => rw [if_neg (by decide), e41, Option.bind_some, e40 _ (numL_bd hv), Option.bind_some, fmt, if_pos hv]
/-! 18 baggage/plate.Check -/
def g18 : Sig := ⟨[.v (.ag (.cons (.int .i64) (.cons (.int .i64) (.cons (.int .i64) .nil))))], .v (.ty (.int .i64))⟩
def h18 : HT := (.n (.r .x) (.n (.n (.r .x) (.n (.n (.r .x) .e) .e)) (.n (.r .x) .e)))
noncomputable def c18 : Code := Try.f18.body.getD .skip
noncomputable def FT18 : List (Nat × Entry) := [(13, ⟨g13, sp13⟩), (37, ⟨g37, sp37⟩)]
noncomputable def sh18 (fuel : Nat) (x0 : Int × Int × Int × Unit) : Option (Int × Unit) :=
  (sp13 ((x0.1, x0.2.1, x0.2.2.1, ()), ())).bind fun (r0 : Bool × Unit) =>
    if (!r0.1) = true then some (-1, ()) else (sp37 ((x0.1, x0.2.1, x0.2.2.1, ()), ())).bind fun (r1 : Int × Unit) => some (r1.1.tmod 7, ())
theorem ex18 (fuel : Nat) (x0 : (g18.args.getD 0 (.v (.ty .bool))).T) : call G FT18 g18 9 [.tmp 2] c18 h18 fuel (x0, ()) = sh18 fuel x0 := by kernel_rfl
noncomputable def sp18 (x : (Int × Int × Int × Unit) × Unit) : Option (Int × Unit) := sh18 0 x.1
theorem fo18 : funOk Try.prog 18 = true := by kernel_rfl
theorem ft18 : FTok Try.prog FT18 := FTok_cons fo13 tc13 (FTok_cons fo37 tc37 (FTok_nil))
theorem tc18 : TC Try.prog 18 ⟨g18, sp18⟩ := tc_of (N := 9) (rv := [.tmp 2]) (c := c18) (h := h18) good ft18 wide Try.func18 (by kernel_rfl) rfl (by kernel_rfl) (by decide) (by kernel_rfl) (by kernel_rfl) fun x r h => ⟨0, (ex18 0 x.1).trans h⟩
theorem e18 (a b c : Int) : sp18 ((a, b, c, ()), ()) = some (chk a b c, ()) := by
  show sh18 0 (a, b, c, ()) = _
  unfold sh18
  dsimp only [joinK]
  rw [e13, Option.bind_some]
  cases hv : vldB a b c with
  | false => simp [chk, hv]
  | true => rw [if_neg (by decide), e37, Option.bind_some, chk, if_pos hv]
/-! 19 baggage/baggageref01.Check -/
def g19 : Sig := ⟨[.v (.ag (.cons (.int .i64) (.cons (.int .i64) (.cons (.int .i64) .nil))))], .v (.ty (.int .i64))⟩
def h19 : HT := (.n (.r .x) (.n (.n (.r .x) (.n (.n (.r .x) .e) .e)) (.n (.r .x) .e)))
noncomputable def c19 : Code := Try.f19.body.getD .skip
noncomputable def FT19 : List (Nat × Entry) := [(16, ⟨g16, sp16⟩), (41, ⟨g41, sp41⟩)]
noncomputable def sh19 (fuel : Nat) (x0 : Int × Int × Int × Unit) : Option (Int × Unit) :=
  (sp16 ((x0.1, x0.2.1, x0.2.2.1, ()), ())).bind fun (r0 : Bool × Unit) =>
    if (!r0.1) = true then some (-1, ()) else (sp41 ((x0.1, x0.2.1, x0.2.2.1, ()), ())).bind fun (r1 : Int × Unit) => some (r1.1.tmod 7, ())
theorem ex19 (fuel : Nat) (x0 : (g19.args.getD 0 (.v (.ty .bool))).T) : call G FT19 g19 9 [.tmp 2] c19 h19 fuel (x0, ()) = sh19 fuel x0 := by kernel_rfl
noncomputable def sp19 (x : (Int × Int × Int × Unit) × Unit) : Option (Int × Unit) := sh19 0 x.1
theorem fo19 : funOk Try.prog 19 = true := by kernel_rfl
theorem ft19 : FTok Try.prog FT19 := FTok_cons fo16 tc16 (FTok_cons fo41 tc41 (FTok_nil))
theorem tc19 : TC Try.prog 19 ⟨g19, sp19⟩ := tc_of (N := 9) (rv := [.tmp 2]) (c := c19) (h := h19) good ft19 wide Try.func19 (by kernel_rfl) rfl (by kernel_rfl) (by decide) (by kernel_rfl) (by kernel_rfl) fun x r h => ⟨0, (ex19 0 x.1).trans h⟩
theorem e19 (a b c : Int) : sp19 ((a, b, c, ()), ()) = some (chk a b c, ()) := by
  show sh19 0 (a, b, c, ()) = _
  unfold sh19
  dsimp only [joinK]
  rw [e16, Option.bind_some]
  cases hv : vldB a b c with
  | false => simp [chk, hv]
  | true => rw [if_neg (by decide), e41, Option.bind_some, chk, if_pos hv]
/-! 4 baggage/baggagelaw01.PlateTexts -/
def g4 : Sig := ⟨[.v (.ty .str), .v (.ag (.cons (.int .i64) (.cons (.int .i64) (.cons (.int .i64) .nil))))], .v (.ty .bool)⟩
def h4 : HT := (.n (.r .x) (.n (.n (.r .x) (.n (.n (.r .x) .e) .e)) (.n (.r .x) (.n (.r .x) (.j ⟨[(4, .d (.ty .bool))], []⟩ (.r .q) .e)))))
noncomputable def c4 : Code := Try.f4.body.getD .skip
noncomputable def FT4 : List (Nat × Entry) := [(14, ⟨g14, sp14⟩), (11, ⟨g11, sp11⟩), (15, ⟨g15, sp15⟩), (13, ⟨g13, sp13⟩), (16, ⟨g16, sp16⟩), (12, ⟨g12, sp12⟩), (17, ⟨g17, sp17⟩), (18, ⟨g18, sp18⟩), (19, ⟨g19, sp19⟩)]
noncomputable def sh4_K3 (z3 : Bool × Unit) : Option (Bool × Unit) :=
  some (z3.1, ())
noncomputable def sh4 (fuel : Nat) (x0 : List UInt8) (x1 : Int × Int × Int × Unit) : Option (Bool × Unit) :=
  if decide (100 < (↑x0.length : Int)) = true then (sp14 ()).bind fun (r0 : Bool × Unit) => some (r0.1, ())
  else
    (sp11 (x0, ())).bind fun (r1 : ((Int × Int × Int × Unit) × Int × Unit) × Unit) =>
      (sp15 (x0, ())).bind fun (r2 : ((Int × Int × Int × Unit) × Int × Unit) × Unit) =>
        joinK sh4_K3 fun (j4 : Bool × Unit → Option (Bool × Unit)) =>
          if (r1.1.1.1 == r2.1.1.1 && (r1.1.1.2.1 == r2.1.1.2.1 && (r1.1.1.2.2.1 == r2.1.1.2.2.1 && true))) = true then
            if (r1.1.2.1 == r2.1.2.1) = true then
              (sp13 ((x1.1, x1.2.1, x1.2.2.1, ()), ())).bind fun (r5 : Bool × Unit) =>
                (sp16 ((x1.1, x1.2.1, x1.2.2.1, ()), ())).bind fun (r6 : Bool × Unit) =>
                  if (r5.1 == r6.1) = true then
                    (sp12 ((x1.1, x1.2.1, x1.2.2.1, ()), ())).bind fun (r7 : List UInt8 × Unit) =>
                      (sp17 ((x1.1, x1.2.1, x1.2.2.1, ()), ())).bind fun (r8 : List UInt8 × Unit) =>
                        if (r7.1 == r8.1) = true then
                          (sp18 ((x1.1, x1.2.1, x1.2.2.1, ()), ())).bind fun (r9 : Int × Unit) =>
                            (sp19 ((x1.1, x1.2.1, x1.2.2.1, ()), ())).bind fun (r10 : Int × Unit) =>
                              if (r9.1 == r10.1) = true then (sp14 ()).bind fun (r11 : Bool × Unit) => j4 (r11.1, ()) else j4 (false, ())
                        else j4 (false, ())
                  else j4 (false, ())
            else j4 (false, ())
          else j4 (false, ())
theorem ex4 (fuel : Nat) (x0 : (g4.args.getD 0 (.v (.ty .bool))).T) (x1 : (g4.args.getD 1 (.v (.ty .bool))).T) : call G FT4 g4 55 [.tmp 4] c4 h4 fuel (x0, x1, ()) = sh4 fuel x0 x1 := by kernel_rfl
noncomputable def sp4 (x : (List UInt8) × (Int × Int × Int × Unit) × Unit) : Option (Bool × Unit) := sh4 0 x.1 x.2.1
theorem fo4 : funOk Try.prog 4 = true := by kernel_rfl
theorem ft4 : FTok Try.prog FT4 := FTok_cons fo14 tc14 (FTok_cons fo11 tc11 (FTok_cons fo15 tc15 (FTok_cons fo13 tc13 (FTok_cons fo16 tc16 (FTok_cons fo12 tc12 (FTok_cons fo17 tc17 (FTok_cons fo18 tc18 (FTok_cons fo19 tc19 (FTok_nil)))))))))
theorem tc4 : TC Try.prog 4 ⟨g4, sp4⟩ := tc_of (N := 55) (rv := [.tmp 4]) (c := c4) (h := h4) good ft4 wide Try.func4 (by kernel_rfl) rfl (by kernel_rfl) (by decide) (by kernel_rfl) (by kernel_rfl) fun x r h => ⟨0, (ex4 0 x.1 x.2.1).trans h⟩
theorem law4 (x) : ∃ o, sp4 x = some (true, o) := by
  obtain ⟨s, ⟨a, b, c, u⟩, u'⟩ := x
  refine ⟨(), ?_⟩
  show sh4 0 s (a, b, c, ()) = _
  unfold sh4
  dsimp only [joinK]
  split
  · rw [e14, Option.bind_some]
  · rw [e11, Option.bind_some, e15, Option.bind_some, if_pos (by simp), if_pos (by simp), e13, Option.bind_some, e16, Option.bind_some, if_pos (by simp), e12, Option.bind_some, e17, Option.bind_some, if_pos (by simp), e18, Option.bind_some, e19, Option.bind_some, if_pos (by simp), e14, Option.bind_some]
    rfl
/-! 20 baggage/plate.Run -/
def g20 : Sig := ⟨[.v (.ag (.cons (.int .i64) (.cons (.int .i64) (.cons (.int .i64) .nil)))), .v (.ty (.int .i64))], .tup [(.ty (.sl (.cons (.int .i64) (.cons (.int .i64) (.cons (.int .i64) .nil))))), (.ty (.int .i64))]⟩
def h20 : HT := (.n (.r .x) (.n (.j ⟨[(1, .d (.ty (.int .i64))), (2, .ref 500000 3), (18, .d (.ty .bool))], [(500000, .box [.d (.int .i64), .d (.int .i64), .d (.int .i64)])]⟩ (.r .x) (.n (.n (.r .x) .e) .e)) (.n (.r .x) (.j ⟨[(6, .own 500005)], [(500005, .arr (.cons (.int .i64) (.cons (.int .i64) (.cons (.int .i64) .nil))))]⟩ (.n (.r .x) (.u (.l ⟨[(2, .ref 500001 3), (6, .own 500002), (19, .d (.ty (.int .i64))), (20, .d (.ty (.int .i64)))], [(500001, .box [.d (.int .i64), .d (.int .i64), .d (.int .i64)]), (500002, .arr (.cons (.int .i64) (.cons (.int .i64) (.cons (.int .i64) .nil))))]⟩ (.n (.r .x) (.n (.n .e .e) (.n (.u (.n (.r .x) (.r .x))) (.r .x))))))) (.n (.r .x) .e)))))
noncomputable def c20 : Code := Try.f20.body.getD .skip
noncomputable def FT20 : List (Nat × Entry) := [(13, ⟨g13, sp13⟩)]
noncomputable def sh20_K1 (z1 : List (Int × Int × Int × Unit) × Unit) : Option ((List (Int × Int × Int × Unit) × Int × Unit) × Unit) :=
  some ((z1.1, 0, ()), ())
noncomputable def sh20_L3 (j2 : List (Int × Int × Int × Unit) × Unit → Option ((List (Int × Int × Int × Unit) × Int × Unit) × Unit)) (rc3 : Int × Int × (Int × Int × Int × Unit) × List (Int × Int × Int × Unit) × Unit → Option ((List (Int × Int × Int × Unit) × Int × Unit) × Unit)) (z3 : Int × Int × (Int × Int × Int × Unit) × List (Int × Int × Int × Unit) × Unit) : Option ((List (Int × Int × Int × Unit) × Int × Unit) × Unit) :=
  if decide (z3.2.1 < z3.1) = true then
    if decide (z3.2.2.2.1.length + [(z3.2.2.1.1, z3.2.2.1.2.1, (IntKind.i64.wrap (z3.2.2.1.2.2.1 + z3.2.1)).tmod 1000000, ())].length ≤ lim) = true then
      if
          decide ((z3.2.2.2.1.length + [(z3.2.2.1.1, z3.2.2.1.2.1, (IntKind.i64.wrap (z3.2.2.1.2.2.1 + z3.2.1)).tmod 1000000, ())].length) * 24 ≤ lim) =
            true then
        rc3
          (z3.1, IntKind.i64.wrap (z3.2.1 + 1), (z3.2.2.1.1, z3.2.2.1.2.1, z3.2.2.1.2.2.1, ()),
            z3.2.2.2.1 ++ [(z3.2.2.1.1, z3.2.2.1.2.1, (IntKind.i64.wrap (z3.2.2.1.2.2.1 + z3.2.1)).tmod 1000000, ())], ())
      else none
    else none
  else j2 (z3.2.2.2.1, ())
noncomputable def sh20_K0 (fuel : Nat) (z0 : Int × Bool × (Int × Int × Int × Unit) × Unit) : Option ((List (Int × Int × Int × Unit) × Int × Unit) × Unit) :=
  if z0.2.1 = true then some (([], 1, ()), ())
  else
    joinK sh20_K1 fun (j2 : List (Int × Int × Int × Unit) × Unit → Option ((List (Int × Int × Int × Unit) × Int × Unit) × Unit)) =>
      iter fuel (sh20_L3 j2) (z0.1, 0, (z0.2.2.1.1, z0.2.2.1.2.1, z0.2.2.1.2.2.1, ()), [], ())
noncomputable def sh20 (fuel : Nat) (x0 : Int × Int × Int × Unit) (x1 : Int) : Option ((List (Int × Int × Int × Unit) × Int × Unit) × Unit) :=
  joinK (sh20_K0 fuel) fun (j4 : Int × Bool × (Int × Int × Int × Unit) × Unit → Option ((List (Int × Int × Int × Unit) × Int × Unit) × Unit)) =>
    (sp13 ((x0.1, x0.2.1, x0.2.2.1, ()), ())).bind fun (r5 : Bool × Unit) =>
      if (!r5.1) = true then j4 (x1, true, (x0.1, x0.2.1, x0.2.2.1, ()), ())
      else
        if decide (x1 < 1) = true then j4 (x1, true, (x0.1, x0.2.1, x0.2.2.1, ()), ()) else j4 (x1, decide (99 < x1), (x0.1, x0.2.1, x0.2.2.1, ()), ())
theorem ex20 (fuel : Nat) (x0 : (g20.args.getD 0 (.v (.ty .bool))).T) (x1 : (g20.args.getD 1 (.v (.ty .bool))).T) : call G FT20 g20 38 [.tmp 4, .tmp 5] c20 h20 fuel (x0, x1, ()) = sh20 fuel x0 x1 := by kernel_rfl
noncomputable def sp20 (x : Pl × Int × Unit) : Option ((List Pl × Int × Unit) × Unit) := some (runL x.1.1 x.1.2.1 x.1.2.2.1 x.2.1, ())
theorem e20 (a b c n : Int) : sp20 ((a, b, c, ()), n, ()) = some (runL a b c n, ()) := rfl
theorem lo20a (a b c n : Int) : sh20 100 (a, b, c, ()) n = some (runL a b c n, ()) := by
  unfold sh20
  dsimp only [joinK]
  rw [e13, Option.bind_some]
  cases hv : vldB a b c with
  | false => simp [sh20_K0, runL, hv]
  | true =>
    rw [if_neg (by decide)]
    by_cases h1 : n < 1
    · rw [if_pos (by simpa using h1)]
      simp only [sh20_K0, if_true]
      rw [runL, if_neg (by omega)]
    rw [if_neg (by simpa using h1)]
    by_cases h2 : 99 < n
    · simp only [sh20_K0]
      rw [if_pos (by simpa using h2), runL, if_neg (by omega)]
    simp only [sh20_K0]
    rw [if_neg (by simpa using h2), runL, if_pos ⟨hv, by omega, by omega⟩]
    dsimp only [joinK]
    obtain ⟨N, rfl⟩ := Int.eq_ofNat_of_zero_le (show 0 ≤ n by omega)
    rw [Int.toNat_natCast]
    refine iter_count (F := sh20_L3 sh20_K1) (fun k => ((N : Int), (k : Int), ((a, b, c, ()) : Pl), (List.range k).map (fun (i : Nat) => ((a, b, (IntKind.i64.wrap (c + (i : Int))).tmod 1000000, ()) : Pl)), ())) N 100 (by omega) (fun rc k hk => ?_) (fun rc => ?_)
    · simp only [sh20_L3]
      rw [if_pos (by simpa using hk), if_pos (by simp [lim]; omega), if_pos (by simp [lim]; omega), up1 hk (by omega), List.range_succ, List.map_append]
      rfl
    · simp only [sh20_L3]
      rw [if_neg (by simp)]
      rfl
theorem lo20 (x r) (h : sp20 x = some r) : ∃ fuel, sh20 fuel x.1 x.2.1 = some r := by
  obtain ⟨⟨a, b, c, u⟩, n, u'⟩ := x
  cases h
  exact ⟨100, lo20a a b c n⟩
theorem fo20 : funOk Try.prog 20 = true := by kernel_rfl
theorem ft20 : FTok Try.prog FT20 := FTok_cons fo13 tc13 (FTok_nil)
theorem tc20 : TC Try.prog 20 ⟨g20, sp20⟩ := tc_of (N := 38) (rv := [.tmp 4, .tmp 5]) (c := c20) (h := h20) good ft20 wide Try.func20 (by kernel_rfl) rfl (by kernel_rfl) (by decide) (by kernel_rfl) (by kernel_rfl) fun x r h => (lo20 x r h).imp fun fuel hf => (ex20 fuel x.1 x.2.1).trans hf
/-! 21 baggage/baggageref01.Run -/
def g21 : Sig := ⟨[.v (.ag (.cons (.int .i64) (.cons (.int .i64) (.cons (.int .i64) .nil)))), .v (.ty (.int .i64))], .tup [(.ty (.sl (.cons (.int .i64) (.cons (.int .i64) (.cons (.int .i64) .nil))))), (.ty (.int .i64))]⟩
def h21 : HT := (.n (.r .x) (.n (.j ⟨[(1, .d (.ty (.int .i64))), (2, .ref 500000 3), (18, .d (.ty .bool))], [(500000, .box [.d (.int .i64), .d (.int .i64), .d (.int .i64)])]⟩ (.r .x) (.n (.n (.r .x) .e) .e)) (.n (.r .x) (.j ⟨[(6, .own 500005)], [(500005, .arr (.cons (.int .i64) (.cons (.int .i64) (.cons (.int .i64) .nil))))]⟩ (.n (.r .x) (.u (.l ⟨[(1, .d (.ty (.int .i64))), (2, .ref 500001 3), (6, .own 500002), (7, .d (.ty (.int .i64)))], [(500001, .box [.d (.int .i64), .d (.int .i64), .d (.int .i64)]), (500002, .arr (.cons (.int .i64) (.cons (.int .i64) (.cons (.int .i64) .nil))))]⟩ (.n (.n (.r .x) (.n .e .e)) (.n (.u (.r .x)) (.r .x)))))) (.n (.r .x) .e)))))
noncomputable def c21 : Code := Try.f21.body.getD .skip
noncomputable def FT21 : List (Nat × Entry) := [(16, ⟨g16, sp16⟩)]
noncomputable def sh21_K1 (z1 : List (Int × Int × Int × Unit) × Unit) : Option ((List (Int × Int × Int × Unit) × Int × Unit) × Unit) :=
  some ((z1.1, 0, ()), ())
noncomputable def sh21_L3 (j2 : List (Int × Int × Int × Unit) × Unit → Option ((List (Int × Int × Int × Unit) × Int × Unit) × Unit)) (rc3 : Int × Int × (Int × Int × Int × Unit) × List (Int × Int × Int × Unit) × Unit → Option ((List (Int × Int × Int × Unit) × Int × Unit) × Unit)) (z3 : Int × Int × (Int × Int × Int × Unit) × List (Int × Int × Int × Unit) × Unit) : Option ((List (Int × Int × Int × Unit) × Int × Unit) × Unit) :=
  if decide (z3.2.1 < z3.1) = true then
    if decide (z3.2.2.2.1.length + [(z3.2.2.1.1, z3.2.2.1.2.1, (IntKind.i64.wrap (z3.2.2.1.2.2.1 + z3.2.1)).tmod 1000000, ())].length ≤ lim) = true then
      if
          decide ((z3.2.2.2.1.length + [(z3.2.2.1.1, z3.2.2.1.2.1, (IntKind.i64.wrap (z3.2.2.1.2.2.1 + z3.2.1)).tmod 1000000, ())].length) * 24 ≤ lim) =
            true then
        rc3
          (z3.1, IntKind.i64.wrap (z3.2.1 + 1), (z3.2.2.1.1, z3.2.2.1.2.1, z3.2.2.1.2.2.1, ()),
            z3.2.2.2.1 ++ [(z3.2.2.1.1, z3.2.2.1.2.1, (IntKind.i64.wrap (z3.2.2.1.2.2.1 + z3.2.1)).tmod 1000000, ())], ())
      else none
    else none
  else j2 (z3.2.2.2.1, ())
noncomputable def sh21_K0 (fuel : Nat) (z0 : Int × Bool × (Int × Int × Int × Unit) × Unit) : Option ((List (Int × Int × Int × Unit) × Int × Unit) × Unit) :=
  if z0.2.1 = true then some (([], 1, ()), ())
  else
    joinK sh21_K1 fun (j2 : List (Int × Int × Int × Unit) × Unit → Option ((List (Int × Int × Int × Unit) × Int × Unit) × Unit)) =>
      iter fuel (sh21_L3 j2) (z0.1, 0, (z0.2.2.1.1, z0.2.2.1.2.1, z0.2.2.1.2.2.1, ()), [], ())
noncomputable def sh21 (fuel : Nat) (x0 : Int × Int × Int × Unit) (x1 : Int) : Option ((List (Int × Int × Int × Unit) × Int × Unit) × Unit) :=
  joinK (sh21_K0 fuel) fun (j4 : Int × Bool × (Int × Int × Int × Unit) × Unit → Option ((List (Int × Int × Int × Unit) × Int × Unit) × Unit)) =>
    (sp16 ((x0.1, x0.2.1, x0.2.2.1, ()), ())).bind fun (r5 : Bool × Unit) =>
      if (!r5.1) = true then j4 (x1, true, (x0.1, x0.2.1, x0.2.2.1, ()), ())
      else
        if decide (x1 < 1) = true then j4 (x1, true, (x0.1, x0.2.1, x0.2.2.1, ()), ()) else j4 (x1, decide (99 < x1), (x0.1, x0.2.1, x0.2.2.1, ()), ())
theorem ex21 (fuel : Nat) (x0 : (g21.args.getD 0 (.v (.ty .bool))).T) (x1 : (g21.args.getD 1 (.v (.ty .bool))).T) : call G FT21 g21 38 [.tmp 4, .tmp 5] c21 h21 fuel (x0, x1, ()) = sh21 fuel x0 x1 := by kernel_rfl
noncomputable def sp21 (x : Pl × Int × Unit) : Option ((List Pl × Int × Unit) × Unit) := some (runL x.1.1 x.1.2.1 x.1.2.2.1 x.2.1, ())
theorem e21 (a b c n : Int) : sp21 ((a, b, c, ()), n, ()) = some (runL a b c n, ()) := rfl
theorem lo21a (a b c n : Int) : sh21 100 (a, b, c, ()) n = some (runL a b c n, ()) := by
  unfold sh21
  dsimp only [joinK]
  rw [e16, Option.bind_some]
  cases hv : vldB a b c with
  | false => simp [sh21_K0, runL, hv]
  | true =>
    rw [if_neg (by decide)]
    by_cases h1 : n < 1
    · rw [if_pos (by simpa using h1)]
      simp only [sh21_K0, if_true]
      rw [runL, if_neg (by omega)]
    rw [if_neg (by simpa using h1)]
    by_cases h2 : 99 < n
    · simp only [sh21_K0]
      rw [if_pos (by simpa using h2), runL, if_neg (by omega)]
    simp only [sh21_K0]
    rw [if_neg (by simpa using h2), runL, if_pos ⟨hv, by omega, by omega⟩]
    dsimp only [joinK]
    obtain ⟨N, rfl⟩ := Int.eq_ofNat_of_zero_le (show 0 ≤ n by omega)
    rw [Int.toNat_natCast]
    refine iter_count (F := sh21_L3 sh21_K1) (fun k => ((N : Int), (k : Int), ((a, b, c, ()) : Pl), (List.range k).map (fun (i : Nat) => ((a, b, (IntKind.i64.wrap (c + (i : Int))).tmod 1000000, ()) : Pl)), ())) N 100 (by omega) (fun rc k hk => ?_) (fun rc => ?_)
    · simp only [sh21_L3]
      rw [if_pos (by simpa using hk), if_pos (by simp [lim]; omega), if_pos (by simp [lim]; omega), up1 hk (by omega), List.range_succ, List.map_append]
      rfl
    · simp only [sh21_L3]
      rw [if_neg (by simp)]
      rfl
theorem lo21 (x r) (h : sp21 x = some r) : ∃ fuel, sh21 fuel x.1 x.2.1 = some r := by
  obtain ⟨⟨a, b, c, u⟩, n, u'⟩ := x
  cases h
  exact ⟨100, lo21a a b c n⟩
theorem fo21 : funOk Try.prog 21 = true := by kernel_rfl
theorem ft21 : FTok Try.prog FT21 := FTok_cons fo16 tc16 (FTok_nil)
theorem tc21 : TC Try.prog 21 ⟨g21, sp21⟩ := tc_of (N := 38) (rv := [.tmp 4, .tmp 5]) (c := c21) (h := h21) good ft21 wide Try.func21 (by kernel_rfl) rfl (by kernel_rfl) (by decide) (by kernel_rfl) (by kernel_rfl) fun x r h => (lo21 x r h).imp fun fuel hf => (ex21 fuel x.1 x.2.1).trans hf
/-! 5 baggage/baggagelaw01.PlateRuns -/
def g5 : Sig := ⟨[.v (.ag (.cons (.int .i64) (.cons (.int .i64) (.cons (.int .i64) .nil)))), .v (.ty (.int .i64))], .v (.ty .bool)⟩
def h5 : HT := (.n (.r .x) (.j ⟨[], []⟩ (.n (.r .x) (.u (.l ⟨[(2, .ref 500000 3), (16, .own 500001), (17, .d (.ty (.int .i64))), (18, .d (.ty (.int .i64)))], [(500000, .box [.d (.int .i64), .d (.int .i64), .d (.int .i64)]), (500001, .arr (.cons (.int .i64) .nil))]⟩ (.n (.r .x) (.n (.n .e .e) (.j ⟨[(2, .ref 500008 3), (16, .own 500009), (17, .d (.ty (.int .i64))), (18, .d (.ty (.int .i64)))], [(500008, .box [.d (.int .i64), .d (.int .i64), .d (.int .i64)]), (500009, .arr (.cons (.int .i64) .nil))]⟩ (.u (.n (.r .x) (.n (.r .x) (.n (.r .x) (.n (.j ⟨[(2, .ref 500002 3), (7, .d (.ty (.sl (.cons (.int .i64) (.cons (.int .i64) (.cons (.int .i64) .nil)))))), (9, .d (.ty (.sl (.cons (.int .i64) (.cons (.int .i64) (.cons (.int .i64) .nil)))))), (16, .own 500003), (17, .d (.ty (.int .i64))), (18, .d (.ty (.int .i64))), (43, .d (.ty .bool))], [(500002, .box [.d (.int .i64), .d (.int .i64), .d (.int .i64)]), (500003, .arr (.cons (.int .i64) .nil))]⟩ (.r .x) (.n (.n (.r .x) .e) .e)) (.n (.r .x) (.u (.l ⟨[(2, .ref 500004 3), (7, .d (.ty (.sl (.cons (.int .i64) (.cons (.int .i64) (.cons (.int .i64) .nil)))))), (9, .d (.ty (.sl (.cons (.int .i64) (.cons (.int .i64) (.cons (.int .i64) .nil)))))), (11, .d (.ty (.int .i64))), (16, .own 500005), (17, .d (.ty (.int .i64))), (18, .d (.ty (.int .i64)))], [(500004, .box [.d (.int .i64), .d (.int .i64), .d (.int .i64)]), (500005, .arr (.cons (.int .i64) .nil))]⟩ (.n (.n (.r .x) (.n .e .e)) (.n (.u (.n (.r .q) (.n (.n (.r .x) .e) .e))) (.r .x))))))))))) (.r .x))))))) (.n (.r .x) .e)))
noncomputable def c5 : Code := Try.f5.body.getD .skip
noncomputable def FT5 : List (Nat × Entry) := [(10, ⟨g10, sp10⟩), (20, ⟨g20, sp20⟩), (21, ⟨g21, sp21⟩), (14, ⟨g14, sp14⟩)]
noncomputable def sh5_K0 (z0 : Unit) : Option (Bool × Unit) :=
  (sp14 ()).bind fun (r1 : Bool × Unit) => some (r1.1, ())
noncomputable def sh5_K5 (rc4 : Int × Int × (Int × Int × Int × Unit) × List (Int × Unit) × Unit → Option (Bool × Unit)) (z5 : Int × Int × (Int × Int × Int × Unit) × List (Int × Unit) × Unit) : Option (Bool × Unit) :=
  rc4 (z5.1, IntKind.i64.wrap (z5.2.1 + 1), (z5.2.2.1.1, z5.2.2.1.2.1, z5.2.2.1.2.2.1, ()), z5.2.2.2.1, ())
noncomputable def sh5_L10 (j6 : Int × Int × (Int × Int × Int × Unit) × List (Int × Unit) × Unit → Option (Bool × Unit)) (rc10 : List (Int × Int × Int × Unit) × List (Int × Int × Int × Unit) × Int × Int × Int × (Int × Int × Int × Unit) × List (Int × Unit) × Unit →
  Option (Bool × Unit)) (z10 : List (Int × Int × Int × Unit) × List (Int × Int × Int × Unit) × Int × Int × Int × (Int × Int × Int × Unit) × List (Int × Unit) × Unit) : Option (Bool × Unit) :=
  if decide (z10.2.2.1 < (↑z10.1.length : Int)) = true then
    if inR z10.2.2.1 z10.1.length = true then
      if inR z10.2.2.1 z10.2.1.length = true then
        if
            (!((lAt (0, 0, 0, ()) z10.1 z10.2.2.1).1 == (lAt (0, 0, 0, ()) z10.2.1 z10.2.2.1).1 &&
                  ((lAt (0, 0, 0, ()) z10.1 z10.2.2.1).2.1 == (lAt (0, 0, 0, ()) z10.2.1 z10.2.2.1).2.1 &&
                    ((lAt (0, 0, 0, ()) z10.1 z10.2.2.1).2.2.1 == (lAt (0, 0, 0, ()) z10.2.1 z10.2.2.1).2.2.1 && true)))) =
              true then
          some (false, ())
        else
          rc10
            (z10.1, z10.2.1, IntKind.i64.wrap (z10.2.2.1 + 1), z10.2.2.2.1, z10.2.2.2.2.1,
              (z10.2.2.2.2.2.1.1, z10.2.2.2.2.2.1.2.1, z10.2.2.2.2.2.1.2.2.1, ()), z10.2.2.2.2.2.2.1, ())
      else none
    else none
  else j6 (z10.2.2.2.1, z10.2.2.2.2.1, (z10.2.2.2.2.2.1.1, z10.2.2.2.2.2.1.2.1, z10.2.2.2.2.2.1.2.2.1, ()), z10.2.2.2.2.2.2.1, ())
noncomputable def sh5_K9 (fuel : Nat) (j6 : Int × Int × (Int × Int × Int × Unit) × List (Int × Unit) × Unit → Option (Bool × Unit)) (z9 : List (Int × Int × Int × Unit) × List (Int × Int × Int × Unit) × Int × Int × Bool × (Int × Int × Int × Unit) × List (Int × Unit) × Unit) : Option (Bool × Unit) :=
  if z9.2.2.2.2.1 = true then some (false, ())
  else
    iter fuel (sh5_L10 j6)
      (z9.1, z9.2.1, 0, z9.2.2.1, z9.2.2.2.1, (z9.2.2.2.2.2.1.1, z9.2.2.2.2.2.1.2.1, z9.2.2.2.2.2.1.2.2.1, ()), z9.2.2.2.2.2.2.1, ())
noncomputable def sh5_L4 (fuel : Nat) (j2 : Unit → Option (Bool × Unit)) (rc4 : Int × Int × (Int × Int × Int × Unit) × List (Int × Unit) × Unit → Option (Bool × Unit)) (z4 : Int × Int × (Int × Int × Int × Unit) × List (Int × Unit) × Unit) : Option (Bool × Unit) :=
  if decide (z4.2.1 < z4.1) = true then
    joinK (sh5_K5 rc4) fun (j6 : Int × Int × (Int × Int × Int × Unit) × List (Int × Unit) × Unit → Option (Bool × Unit)) =>
      if inR z4.2.1 z4.2.2.2.1.length = true then
        if decide (z4.2.1.toNat + 1 ≤ z4.2.2.2.1.length) = true then
          (sp20 ((z4.2.2.1.1, z4.2.2.1.2.1, z4.2.2.1.2.2.1, ()), (z4.2.2.2.1.getD z4.2.1.toNat (0, ())).1, ())).bind
            fun (r7 : (List (Int × Int × Int × Unit) × Int × Unit) × Unit) =>
            (sp21 ((z4.2.2.1.1, z4.2.2.1.2.1, z4.2.2.1.2.2.1, ()), (z4.2.2.2.1.getD z4.2.1.toNat (0, ())).1, ())).bind
              fun (r8 : (List (Int × Int × Int × Unit) × Int × Unit) × Unit) =>
              joinK (sh5_K9 fuel j6)
                fun
                  (j11 :
                    List (Int × Int × Int × Unit) ×
                        List (Int × Int × Int × Unit) × Int × Int × Bool × (Int × Int × Int × Unit) × List (Int × Unit) × Unit →
                      Option (Bool × Unit)) =>
                if (r7.1.2.1 != r8.1.2.1) = true then
                  j11 (r7.1.1, r8.1.1, z4.1, z4.2.1, true, (z4.2.2.1.1, z4.2.2.1.2.1, z4.2.2.1.2.2.1, ()), z4.2.2.2.1, ())
                else
                  j11
                    (r7.1.1, r8.1.1, z4.1, z4.2.1, (↑r7.1.1.length : Int) != (↑r8.1.1.length : Int), (z4.2.2.1.1, z4.2.2.1.2.1, z4.2.2.1.2.2.1, ()),
                      z4.2.2.2.1, ())
        else none
      else none
  else j2 ()
noncomputable def sh5 (fuel : Nat) (x0 : Int × Int × Int × Unit) (x1 : Int) : Option (Bool × Unit) :=
  joinK sh5_K0 fun (j2 : Unit → Option (Bool × Unit)) =>
    (sp10 (x1, 102, ())).bind fun (r3 : Int × Unit) =>
      iter fuel (sh5_L4 fuel j2)
        ((↑[(x1, ()), (IntKind.i64.wrap (r3.1 - 1), ())].length : Int), 0, (x0.1, x0.2.1, x0.2.2.1, ()), [(x1, ()), (IntKind.i64.wrap (r3.1 - 1), ())],
          ())
theorem ex5 (fuel : Nat) (x0 : (g5.args.getD 0 (.v (.ty .bool))).T) (x1 : (g5.args.getD 1 (.v (.ty .bool))).T) : call G FT5 g5 61 [.tmp 4] c5 h5 fuel (x0, x1, ()) = sh5 fuel x0 x1 := by kernel_rfl
noncomputable def sp5 (_ : Pl × Int × Unit) : Option (Bool × Unit) := some (true, ())
theorem law5 (x) : ∃ o, sp5 x = some (true, o) := ⟨(), rfl⟩
theorem lo5a (p : Pl) (n : Int) : sh5 200 p n = some (true, ()) := by
  obtain ⟨a, b, c, u⟩ := p
  unfold sh5
  dsimp only [joinK]
  obtain ⟨w, hw, hw1, hw2⟩ := e10 n 102 (by decide) (by decide)
  rw [hw, Option.bind_some]
  generalize IntKind.i64.wrap (w - 1) = w
  refine iter_count (F := sh5_L4 200 sh5_K0) (fun k => ((2 : Int), (k : Int), ((a, b, c, ()) : Pl), [(n, ()), (w, ())], ())) 2 200 (by decide) (fun rc k hk => ?_) (fun rc => ?_)
  · simp only [sh5_L4, joinK]
    rw [if_pos (by simp; omega), if_pos (inR_nat (by simpa using hk)), if_pos (by simp; omega), e20, Option.bind_some, e21, Option.bind_some]
    rw [if_neg (by simp)]
    simp only [sh5_K9]
    rw [if_neg (by simp)]
    generalize ([(n, ()), (w, ())].getD (k : Int).toNat (0, ())).1 = m
    have hl : (runL a b c m).1.length ≤ 99 := by
      unfold runL; split <;> simp; omega
    generalize (runL a b c m).1 = L at hl ⊢
    refine iter_count (F := sh5_L10 (sh5_K5 rc)) (fun j => (L, L, (j : Int), (2 : Int), (k : Int), ((a, b, c, ()) : Pl), [(n, ()), (w, ())], ())) L.length 200 (by omega) (fun rc j hj => ?_) (fun rc => ?_)
    · simp only [sh5_L10]
      rw [if_pos (by simpa using hj), if_pos (inR_nat hj), if_pos (inR_nat hj), if_neg (by simp), up1 hj (by omega)]
    · simp only [sh5_L10]
      rw [if_neg (by simp)]
      simp only [sh5_K5]
      rw [up1 hk (by decide)]
  · simp only [sh5_L4]
    rw [if_neg (by simp)]
    simp only [sh5_K0]
    rw [e14, Option.bind_some]
theorem lo5 (x r) (h : sp5 x = some r) : ∃ fuel, sh5 fuel x.1 x.2.1 = some r := by
  cases h
  exact ⟨200, lo5a x.1 x.2.1⟩
theorem fo5 : funOk Try.prog 5 = true := by kernel_rfl
theorem ft5 : FTok Try.prog FT5 := FTok_cons fo10 tc10 (FTok_cons fo20 tc20 (FTok_cons fo21 tc21 (FTok_cons fo14 tc14 (FTok_nil))))
theorem tc5 : TC Try.prog 5 ⟨g5, sp5⟩ := tc_of (N := 61) (rv := [.tmp 4]) (c := c5) (h := h5) good ft5 wide Try.func5 (by kernel_rfl) rfl (by kernel_rfl) (by decide) (by kernel_rfl) (by kernel_rfl) fun x r h => (lo5 x r h).imp fun fuel hf => (ex5 fuel x.1 x.2.1).trans hf
/-! 6 baggage/baggagelaw01.PlateDistinct -/
def g6 : Sig := ⟨[.v (.ty (.int .i64)), .v (.ty (.int .i64)), .v (.ty (.int .i64)), .v (.ty (.int .i64))], .v (.ty .bool)⟩
def h6 : HT := (.n (.r .x) (.n (.r .x) (.n (.r .x) (.n (.r .x) (.n (.j ⟨[(3, .d (.ty (.int .i64))), (9, .ref 500000 3), (10, .d (.ty (.sl (.cons (.int .i64) (.cons (.int .i64) (.cons (.int .i64) .nil)))))), (45, .d (.ty .bool))], [(500000, .box [.d (.int .i64), .d (.int .i64), .d (.int .i64)])]⟩ (.r .q) (.n (.n (.r .x) .e) .e)) (.j ⟨[], []⟩ (.n (.r .x) (.u (.l ⟨[(3, .d (.ty (.int .i64))), (9, .ref 500001 3), (10, .d (.ty (.sl (.cons (.int .i64) (.cons (.int .i64) (.cons (.int .i64) .nil)))))), (12, .d (.ty (.int .i64)))], [(500001, .box [.d (.int .i64), .d (.int .i64), .d (.int .i64)])]⟩ (.n (.n (.r .x) (.n .e .e)) (.j ⟨[(3, .d (.ty (.int .i64))), (9, .ref 500005 3), (10, .d (.ty (.sl (.cons (.int .i64) (.cons (.int .i64) (.cons (.int .i64) .nil)))))), (12, .d (.ty (.int .i64)))], [(500005, .box [.d (.int .i64), .d (.int .i64), .d (.int .i64)])]⟩ (.u (.n (.j ⟨[(3, .d (.ty (.int .i64))), (9, .ref 500002 3), (10, .d (.ty (.sl (.cons (.int .i64) (.cons (.int .i64) (.cons (.int .i64) .nil)))))), (12, .d (.ty (.int .i64))), (76, .d (.ty .bool))], [(500002, .box [.d (.int .i64), .d (.int .i64), .d (.int .i64)])]⟩ (.r .q) (.n (.n (.r .x) .e) .e)) (.n (.r .x) (.u (.l ⟨[(3, .d (.ty (.int .i64))), (9, .ref 500003 3), (10, .d (.ty (.sl (.cons (.int .i64) (.cons (.int .i64) (.cons (.int .i64) .nil)))))), (12, .d (.ty (.int .i64))), (13, .d (.ty (.int .i64)))], [(500003, .box [.d (.int .i64), .d (.int .i64), .d (.int .i64)])]⟩ (.n (.n (.r .x) (.n .e .e)) (.n (.u (.n (.r .q) (.n (.n (.r .x) .e) .e))) (.r .x)))))))) (.r .x)))))) (.n (.r .x) .e)))))))
noncomputable def c6 : Code := Try.f6.body.getD .skip
noncomputable def FT6 : List (Nat × Entry) := [(10, ⟨g10, sp10⟩), (20, ⟨g20, sp20⟩), (13, ⟨g13, sp13⟩), (14, ⟨g14, sp14⟩)]
noncomputable def sh6_K6 (z6 : Unit) : Option (Bool × Unit) :=
  (sp14 ()).bind fun (r7 : Bool × Unit) => some (r7.1, ())
noncomputable def sh6_K10 (rc9 : Int × List (Int × Int × Int × Unit) × Int × (Int × Int × Int × Unit) × Unit → Option (Bool × Unit)) (z10 : Int × List (Int × Int × Int × Unit) × Int × (Int × Int × Int × Unit) × Unit) : Option (Bool × Unit) :=
  rc9 (z10.1, z10.2.1, IntKind.i64.wrap (z10.2.2.1 + 1), (z10.2.2.2.1.1, z10.2.2.2.1.2.1, z10.2.2.2.1.2.2.1, ()), ())
noncomputable def sh6_L13 (j11 : Int × List (Int × Int × Int × Unit) × Int × (Int × Int × Int × Unit) × Unit → Option (Bool × Unit)) (rc13 : Int × List (Int × Int × Int × Unit) × Int × Int × (Int × Int × Int × Unit) × Unit → Option (Bool × Unit)) (z13 : Int × List (Int × Int × Int × Unit) × Int × Int × (Int × Int × Int × Unit) × Unit) : Option (Bool × Unit) :=
  if decide (z13.2.2.2.1 < z13.2.2.1) = true then
    if inR z13.2.2.1 z13.2.1.length = true then
      if inR z13.2.2.2.1 z13.2.1.length = true then
        if
            ((lAt (0, 0, 0, ()) z13.2.1 z13.2.2.1).1 == (lAt (0, 0, 0, ()) z13.2.1 z13.2.2.2.1).1 &&
                ((lAt (0, 0, 0, ()) z13.2.1 z13.2.2.1).2.1 == (lAt (0, 0, 0, ()) z13.2.1 z13.2.2.2.1).2.1 &&
                  ((lAt (0, 0, 0, ()) z13.2.1 z13.2.2.1).2.2.1 == (lAt (0, 0, 0, ()) z13.2.1 z13.2.2.2.1).2.2.1 && true))) =
              true then
          some (false, ())
        else rc13 (z13.1, z13.2.1, z13.2.2.1, IntKind.i64.wrap (z13.2.2.2.1 + 1), (z13.2.2.2.2.1.1, z13.2.2.2.2.1.2.1, z13.2.2.2.2.1.2.2.1, ()), ())
      else none
    else none
  else j11 (z13.1, z13.2.1, z13.2.2.1, (z13.2.2.2.2.1.1, z13.2.2.2.2.1.2.1, z13.2.2.2.2.1.2.2.1, ()), ())
noncomputable def sh6_K12 (fuel : Nat) (j11 : Int × List (Int × Int × Int × Unit) × Int × (Int × Int × Int × Unit) × Unit → Option (Bool × Unit)) (z12 : Int × List (Int × Int × Int × Unit) × Int × Bool × (Int × Int × Int × Unit) × Unit) : Option (Bool × Unit) :=
  if z12.2.2.2.1 = true then some (false, ())
  else iter fuel (sh6_L13 j11) (z12.1, z12.2.1, z12.2.2.1, 0, (z12.2.2.2.2.1.1, z12.2.2.2.2.1.2.1, z12.2.2.2.2.1.2.2.1, ()), ())
noncomputable def sh6_L9 (fuel : Nat) (j8 : Unit → Option (Bool × Unit)) (rc9 : Int × List (Int × Int × Int × Unit) × Int × (Int × Int × Int × Unit) × Unit → Option (Bool × Unit)) (z9 : Int × List (Int × Int × Int × Unit) × Int × (Int × Int × Int × Unit) × Unit) : Option (Bool × Unit) :=
  if decide (z9.2.2.1 < z9.1) = true then
    joinK (sh6_K10 rc9) fun (j11 : Int × List (Int × Int × Int × Unit) × Int × (Int × Int × Int × Unit) × Unit → Option (Bool × Unit)) =>
      joinK (sh6_K12 fuel j11) fun (j14 : Int × List (Int × Int × Int × Unit) × Int × Bool × (Int × Int × Int × Unit) × Unit → Option (Bool × Unit)) =>
        if inR z9.2.2.1 z9.2.1.length = true then
          (sp13
                (((lAt (0, 0, 0, ()) z9.2.1 z9.2.2.1).1, (lAt (0, 0, 0, ()) z9.2.1 z9.2.2.1).2.1, (lAt (0, 0, 0, ()) z9.2.1 z9.2.2.1).2.2.1, ()),
                  ())).bind
            fun (r15 : Bool × Unit) =>
            if (!r15.1) = true then j14 (z9.1, z9.2.1, z9.2.2.1, true, (z9.2.2.2.1.1, z9.2.2.2.1.2.1, z9.2.2.2.1.2.2.1, ()), ())
            else
              if inR z9.2.2.1 z9.2.1.length = true then
                if ((lAt (0, 0, 0, ()) z9.2.1 z9.2.2.1).2.1 != z9.2.2.2.1.2.1) = true then
                  j14 (z9.1, z9.2.1, z9.2.2.1, true, (z9.2.2.2.1.1, z9.2.2.2.1.2.1, z9.2.2.2.1.2.2.1, ()), ())
                else
                  if inR z9.2.2.1 z9.2.1.length = true then
                    j14
                      (z9.1, z9.2.1, z9.2.2.1, (lAt (0, 0, 0, ()) z9.2.1 z9.2.2.1).1 != z9.2.2.2.1.1,
                        (z9.2.2.2.1.1, z9.2.2.2.1.2.1, z9.2.2.2.1.2.2.1, ()), ())
                  else none
              else none
        else none
  else j8 ()
noncomputable def sh6_K5 (fuel : Nat) (z5 : Int × List (Int × Int × Int × Unit) × Bool × (Int × Int × Int × Unit) × Unit) : Option (Bool × Unit) :=
  if z5.2.2.1 = true then some (false, ())
  else
    joinK sh6_K6 fun (j8 : Unit → Option (Bool × Unit)) =>
      iter fuel (sh6_L9 fuel j8) (z5.1, z5.2.1, 0, (z5.2.2.2.1.1, z5.2.2.2.1.2.1, z5.2.2.2.1.2.2.1, ()), ())
noncomputable def sh6 (fuel : Nat) (x0 : Int) (x1 : Int) (x2 : Int) (x3 : Int) : Option (Bool × Unit) :=
  (sp10 (x0, 10, ())).bind fun (r0 : Int × Unit) =>
    (sp10 (x1, 999, ())).bind fun (r1 : Int × Unit) =>
      (sp10 (x2, 1000000, ())).bind fun (r2 : Int × Unit) =>
        (sp10 (x3, 99, ())).bind fun (r3 : Int × Unit) =>
          (sp20 ((r0.1, IntKind.i64.wrap (1 + r1.1), r2.1, ()), IntKind.i64.wrap (1 + r3.1), ())).bind
            fun (r4 : (List (Int × Int × Int × Unit) × Int × Unit) × Unit) =>
            joinK (sh6_K5 fuel) fun (j16 : Int × List (Int × Int × Int × Unit) × Bool × (Int × Int × Int × Unit) × Unit → Option (Bool × Unit)) =>
              if (r4.1.2.1 != 0) = true then j16 (IntKind.i64.wrap (1 + r3.1), r4.1.1, true, (r0.1, IntKind.i64.wrap (1 + r1.1), r2.1, ()), ())
              else
                if ((↑r4.1.1.length : Int) != IntKind.i64.wrap (1 + r3.1)) = true then
                  j16 (IntKind.i64.wrap (1 + r3.1), r4.1.1, true, (r0.1, IntKind.i64.wrap (1 + r1.1), r2.1, ()), ())
                else
                  if inR 0 r4.1.1.length = true then
                    j16
                      (IntKind.i64.wrap (1 + r3.1), r4.1.1,
                        !((lAt (0, 0, 0, ()) r4.1.1 0).1 == r0.1 &&
                            ((lAt (0, 0, 0, ()) r4.1.1 0).2.1 == IntKind.i64.wrap (1 + r1.1) && ((lAt (0, 0, 0, ()) r4.1.1 0).2.2.1 == r2.1 && true))),
                        (r0.1, IntKind.i64.wrap (1 + r1.1), r2.1, ()), ())
                  else none
theorem ex6 (fuel : Nat) (x0 : (g6.args.getD 0 (.v (.ty .bool))).T) (x1 : (g6.args.getD 1 (.v (.ty .bool))).T) (x2 : (g6.args.getD 2 (.v (.ty .bool))).T) (x3 : (g6.args.getD 3 (.v (.ty .bool))).T) : call G FT6 g6 92 [.tmp 8] c6 h6 fuel (x0, x1, x2, x3, ()) = sh6 fuel x0 x1 x2 x3 := by kernel_rfl
noncomputable def sp6 (_ : Int × Int × Int × Int × Unit) : Option (Bool × Unit) := some (true, ())
theorem law6 (x) : ∃ o, sp6 x = some (true, o) := ⟨(), rfl⟩
theorem lo6a (x y z w : Int) : sh6 200 x y z w = some (true, ()) := by
  unfold sh6
  dsimp only [joinK]
  obtain ⟨a, ha, ha1, ha2⟩ := e10 x 10 (by decide) (by decide)
  obtain ⟨b, hb, hb1, hb2⟩ := e10 y 999 (by decide) (by decide)
  obtain ⟨c, hc, hc1, hc2⟩ := e10 z 1000000 (by decide) (by decide)
  obtain ⟨n, hn, hn1, hn2⟩ := e10 w 99 (by decide) (by decide)
  rw [ha, Option.bind_some, hb, Option.bind_some, hc, Option.bind_some, hn, Option.bind_some]
  dsimp only
  rw [wrapI (x := 1 + b) (by omega) (by omega), wrapI (x := 1 + n) (by omega) (by omega)]
  have hv : vldB a (1 + b) c = true := by rw [vldB_iff]; omega
  obtain ⟨N, hN⟩ := Int.eq_ofNat_of_zero_le (show 0 ≤ 1 + n by omega)
  have hN1 : 1 ≤ N ∧ N ≤ 99 := by omega
  rw [hN]
  generalize 1 + b = b at *
  have hr : runL a b c (N : Int) = ((List.range N).map fun (i : Nat) => ((a, b, (c + (i : Int)) % 1000000, ()) : Pl), 0, ()) := by
    rw [runL, if_pos ⟨hv, by omega, by omega⟩, Int.toNat_natCast]
    refine Prod.ext (List.map_congr_left fun i hi => ?_) rfl
    have hi : i < N := by simpa using hi
    rw [vldB_iff] at hv
    rw [wrapI (by omega) (by omega), Int.tmod_eq_emod_of_nonneg (by omega)]
  rw [e20, Option.bind_some, hr]
  have hlen : ((List.range N).map fun (i : Nat) => ((a, b, (c + (i : Int)) % 1000000, ()) : Pl)).length = N := by simp
  have hget : ∀ i, i < N → lAt ((0, 0, 0, ()) : Pl) ((List.range N).map fun (i : Nat) => ((a, b, (c + (i : Int)) % 1000000, ()) : Pl)) (i : Int) = (a, b, (c + (i : Int)) % 1000000, ()) := fun i hi => by
    simp [lAt, List.getD, hi]
  generalize ((List.range N).map fun (i : Nat) => ((a, b, (c + (i : Int)) % 1000000, ()) : Pl)) = L at hlen hget ⊢
  have hv' := vldB_iff.1 hv
  rw [if_neg (by simp), if_neg (by simp [hlen])]
  have h0 := hget 0 (by omega)
  have hz : ((0 : Nat) : Int) = 0 := rfl
  rw [hz] at h0
  rw [if_pos (by simp [inR, hlen]; omega), h0]
  have hc0 : (c + 0) % 1000000 = c := by rw [Int.add_zero]; exact Int.emod_eq_of_lt (by omega) (by omega)
  simp only [sh6_K5]
  rw [Int.add_zero] at hc0
  rw [if_neg (by simp [hc0])]
  dsimp only [joinK]
  refine iter_count (F := sh6_L9 200 sh6_K6) (fun k => ((N : Int), L, (k : Int), ((a, b, c, ()) : Pl), ())) N 200 (by omega) (fun rc k hk => ?_) (fun rc => ?_)
  · simp only [sh6_L9, joinK]
    have hvk : vldB a b ((c + (k : Int)) % 1000000) = true := by rw [vldB_iff]; omega
    rw [if_pos (by simpa using hk), if_pos (by rw [hlen]; exact inR_nat hk), hget k hk, e13, Option.bind_some, hvk, if_neg (by decide), if_pos (by rw [hlen]; exact inR_nat hk), if_neg (by simp), if_pos (by rw [hlen]; exact inR_nat hk)]
    simp only [sh6_K12]
    rw [if_neg (by simp)]
    refine iter_count (F := sh6_L13 (sh6_K10 rc)) (fun j => ((N : Int), L, (k : Int), (j : Int), ((a, b, c, ()) : Pl), ())) k 200 (by omega) (fun rc j hj => ?_) (fun rc => ?_)
    · simp only [sh6_L13]
      rw [if_pos (by simpa using hj), if_pos (by rw [hlen]; exact inR_nat hk), if_pos (by rw [hlen]; exact inR_nat (by omega)), hget k hk, hget j (by omega), if_neg ?_, up1 hj (by omega)]
      simp only [Bool.and_eq_true, beq_iff_eq, and_true, true_and]
      omega
    · simp only [sh6_L13]
      rw [if_neg (by simp)]
      simp only [sh6_K10]
      rw [up1 hk (by omega)]
  · simp only [sh6_L9]
    rw [if_neg (by simp)]
    simp only [sh6_K6]
    rw [e14, Option.bind_some]
theorem lo6 (x r) (h : sp6 x = some r) : ∃ fuel, sh6 fuel x.1 x.2.1 x.2.2.1 x.2.2.2.1 = some r := by
  cases h
  exact ⟨200, lo6a x.1 x.2.1 x.2.2.1 x.2.2.2.1⟩
theorem fo6 : funOk Try.prog 6 = true := by kernel_rfl
theorem ft6 : FTok Try.prog FT6 := FTok_cons fo10 tc10 (FTok_cons fo20 tc20 (FTok_cons fo13 tc13 (FTok_cons fo14 tc14 (FTok_nil))))
theorem tc6 : TC Try.prog 6 ⟨g6, sp6⟩ := tc_of (N := 92) (rv := [.tmp 8]) (c := c6) (h := h6) good ft6 wide Try.func6 (by kernel_rfl) rfl (by kernel_rfl) (by decide) (by kernel_rfl) (by kernel_rfl) fun x r h => (lo6 x r h).imp fun fuel hf => (ex6 fuel x.1 x.2.1 x.2.2.1 x.2.2.2.1).trans hf
/-! 46 cmp.isNaN[int] -/
def g46 : Sig := ⟨[.v (.ty (.int .i64))], .v (.ty .bool)⟩
def h46 : HT := (.n (.r .x) (.n (.r .x) .e))
noncomputable def c46 : Code := Try.f46.body.getD .skip
noncomputable def FT46 : List (Nat × Entry) := []
noncomputable def sh46 (fuel : Nat) (x0 : Int) : Option (Bool × Unit) :=
  some (x0 != x0, ())
theorem ex46 (fuel : Nat) (x0 : (g46.args.getD 0 (.v (.ty .bool))).T) : call G FT46 g46 6 [.tmp 2] c46 h46 fuel (x0, ()) = sh46 fuel x0 := by kernel_rfl
noncomputable def sp46 (x : (Int) × Unit) : Option (Bool × Unit) := sh46 0 x.1
theorem fo46 : funOk Try.prog 46 = true := by kernel_rfl
theorem ft46 : FTok Try.prog FT46 := FTok_nil
theorem tc46 : TC Try.prog 46 ⟨g46, sp46⟩ := tc_of (N := 6) (rv := [.tmp 2]) (c := c46) (h := h46) good ft46 wide Try.func46 (by kernel_rfl) rfl (by kernel_rfl) (by decide) (by kernel_rfl) (by kernel_rfl) fun x r h => ⟨0, (ex46 0 x.1).trans h⟩
/-! 44 cmp.Compare[int] -/
def g44 : Sig := ⟨[.v (.ty (.int .i64)), .v (.ty (.int .i64))], .v (.ty (.int .i64))⟩
def h44 : HT := (.n (.r .x) (.n (.r .x) (.n (.r .x) (.n (.n (.r .x) (.n (.n (.n (.r .x) (.n (.n (.r .x) .e) .e)) (.n (.r .x) .e)) .e)) (.n (.n (.r .x) (.n (.n (.r .x) .e) .e)) (.n (.n (.r .x) (.n (.n (.r .x) .e) .e)) (.n (.n (.r .x) (.n (.n (.r .x) .e) .e)) (.n (.r .x) .e))))))))
noncomputable def c44 : Code := Try.f44.body.getD .skip
noncomputable def FT44 : List (Nat × Entry) := [(46, ⟨g46, sp46⟩)]
noncomputable def sh44 (fuel : Nat) (x0 : Int) (x1 : Int) : Option (Int × Unit) :=
  (sp46 (x0, ())).bind fun (r0 : Bool × Unit) =>
    (sp46 (x1, ())).bind fun (r1 : Bool × Unit) =>
      if r0.1 = true then if r1.1 = true then some (0, ()) else some (-1, ())
      else
        if r1.1 = true then some (1, ())
        else if decide (x0 < x1) = true then some (-1, ()) else if decide (x1 < x0) = true then some (1, ()) else some (0, ())
theorem ex44 (fuel : Nat) (x0 : (g44.args.getD 0 (.v (.ty .bool))).T) (x1 : (g44.args.getD 1 (.v (.ty .bool))).T) : call G FT44 g44 20 [.tmp 4] c44 h44 fuel (x0, x1, ()) = sh44 fuel x0 x1 := by kernel_rfl
noncomputable def sp44 (x : (Int) × (Int) × Unit) : Option (Int × Unit) := sh44 0 x.1 x.2.1
theorem fo44 : funOk Try.prog 44 = true := by kernel_rfl
theorem ft44 : FTok Try.prog FT44 := FTok_cons fo46 tc46 (FTok_nil)
theorem tc44 : TC Try.prog 44 ⟨g44, sp44⟩ := tc_of (N := 20) (rv := [.tmp 4]) (c := c44) (h := h44) good ft44 wide Try.func44 (by kernel_rfl) rfl (by kernel_rfl) (by decide) (by kernel_rfl) (by kernel_rfl) fun x r h => ⟨0, (ex44 0 x.1 x.2.1).trans h⟩
theorem e44 (a b : Int) : sp44 (a, b, ()) = some (sg a b, ()) := by
  show sh44 0 a b = _
  have h46 : ∀ c, sp46 (c, ()) = some (c != c, ()) := fun c => rfl
  unfold sh44
  rw [h46, Option.bind_some, h46, Option.bind_some, if_neg (by simp), if_neg (by simp), sg]
  repeat' split
  all_goals simp_all
/-! 43 cmp.Or[int] -/
def g43 : Sig := ⟨[.v (.ty (.sl (.cons (.int .i64) .nil)))], .v (.ty (.int .i64))⟩
def h43 : HT := (.n (.r .x) (.n (.r .x) (.j ⟨[(3, .d (.ty (.int .i64)))], []⟩ (.n (.r .x) (.u (.l ⟨[(3, .d (.ty (.int .i64))), (6, .d (.ty (.sl (.cons (.int .i64) .nil)))), (7, .d (.ty (.int .i64))), (8, .d (.ty (.int .i64)))], []⟩ (.n (.r .x) (.n (.n .e .e) (.n (.u (.n (.r .x) (.n (.r .x) (.n (.n (.r .x) .e) .e)))) (.r .x))))))) (.n (.r .x) .e))))
noncomputable def c43 : Code := Try.f43.body.getD .skip
noncomputable def FT43 : List (Nat × Entry) := []
noncomputable def sh43_K0 (z0 : Int × Unit) : Option (Int × Unit) :=
  some (z0.1, ())
noncomputable def sh43_L2 (j1 : Int × Unit → Option (Int × Unit)) (rc2 : Int × List (Int × Unit) × Int × Int × Unit → Option (Int × Unit)) (z2 : Int × List (Int × Unit) × Int × Int × Unit) : Option (Int × Unit) :=
  if decide (z2.2.2.2.1 < z2.2.2.1) = true then
    if inR z2.2.2.2.1 z2.2.1.length = true then
      if ((lAt (0, ()) z2.2.1 z2.2.2.2.1).1 != z2.1) = true then some ((lAt (0, ()) z2.2.1 z2.2.2.2.1).1, ())
      else rc2 (z2.1, z2.2.1, z2.2.2.1, IntKind.i64.wrap (z2.2.2.2.1 + 1), ())
    else none
  else j1 (z2.1, ())
noncomputable def sh43 (fuel : Nat) (x0 : List (Int × Unit)) : Option (Int × Unit) :=
  joinK sh43_K0 fun (j1 : Int × Unit → Option (Int × Unit)) => iter fuel (sh43_L2 j1) (0, x0, (↑x0.length : Int), 0, ())
theorem ex43 (fuel : Nat) (x0 : (g43.args.getD 0 (.v (.ty .bool))).T) : call G FT43 g43 18 [.tmp 2] c43 h43 fuel (x0, ()) = sh43 fuel x0 := by kernel_rfl
noncomputable def sp43 (x : List (Int × Unit) × Unit) : Option (Int × Unit) := if x.1.length ≤ 1000 then some (orL x.1, ()) else none
theorem e43 (l : List (Int × Unit)) (h : l.length ≤ 1000) : sp43 (l, ()) = some (orL l, ()) := if_pos h
theorem lo43 (x r) (h : sp43 x = some r) : ∃ fuel, sh43 fuel x.1 = some r := by
  obtain ⟨l, u⟩ := x
  unfold sp43 at h
  split at h
  case isFalse => cases h
  rename_i hl
  cases h
  have hl : l.length ≤ 1000 := hl
  refine ⟨1001, ?_⟩
  unfold sh43
  dsimp only [joinK]
  refine iter_inv (F := sh43_L2 sh43_K0) (fun k => ((0 : Int), l, (l.length : Int), (k : Int), ())) (fun k => orL (l.drop k) = orL l) l.length 1001 (by omega) rfl (fun rc k hk hi => ?_) (fun rc hi => ?_)
  · simp only [sh43_L2]
    have hg : lAt ((0 : Int), ()) l (k : Int) = l[k] := by simp [lAt, List.getD, hk]
    rw [List.drop_eq_getElem_cons hk, orL] at hi
    rw [if_pos (by simpa using hk), if_pos (inR_nat hk), hg, up1 hk (by omega)]
    by_cases h0 : l[k].1 = 0
    · rw [if_pos h0] at hi
      exact .inl ⟨by rw [if_neg (by simpa using h0)], hi⟩
    · rw [if_neg h0] at hi
      exact .inr (by rw [if_pos (by simpa using h0), hi])
  · simp only [sh43_L2]
    rw [List.drop_length] at hi
    rw [if_neg (by simp), ← hi]
    rfl
theorem fo43 : funOk Try.prog 43 = true := by kernel_rfl
theorem ft43 : FTok Try.prog FT43 := FTok_nil
theorem tc43 : TC Try.prog 43 ⟨g43, sp43⟩ := tc_of (N := 18) (rv := [.tmp 2]) (c := c43) (h := h43) good ft43 wide Try.func43 (by kernel_rfl) rfl (by kernel_rfl) (by decide) (by kernel_rfl) (by kernel_rfl) fun x r h => (lo43 x r h).imp fun fuel hf => (ex43 fuel x.1).trans hf
/-! 33 baggage/plate.Compare -/
def g33 : Sig := ⟨[.v (.ag (.cons (.int .i64) (.cons (.int .i64) (.cons (.int .i64) .nil)))), .v (.ag (.cons (.int .i64) (.cons (.int .i64) (.cons (.int .i64) .nil))))], .v (.ty (.int .i64))⟩
def h33 : HT := (.n (.r .x) (.n (.r (.qt 15)) .e))
noncomputable def c33 : Code := Try.f33.body.getD .skip
noncomputable def FT33 : List (Nat × Entry) := [(44, ⟨g44, sp44⟩), (43, ⟨g43, sp43⟩)]
noncomputable def sh33 (fuel : Nat) (x0 : Int × Int × Int × Unit) (x1 : Int × Int × Int × Unit) : Option (Int × Unit) :=
  (sp44 (x0.1, x1.1, ())).bind fun (r0 : Int × Unit) =>
    (sp44 (x0.2.1, x1.2.1, ())).bind fun (r1 : Int × Unit) =>
      (sp44 (x0.2.2.1, x1.2.2.1, ())).bind fun (r2 : Int × Unit) =>
        (sp43 ([(r0.1, ()), (r1.1, ()), (r2.1, ())], ())).bind fun (r3 : Int × Unit) => some (r3.1, ())
theorem ex33 (fuel : Nat) (x0 : (g33.args.getD 0 (.v (.ty .bool))).T) (x1 : (g33.args.getD 1 (.v (.ty .bool))).T) : call G FT33 g33 22 [.tmp 4] c33 h33 fuel (x0, x1, ()) = sh33 fuel x0 x1 := by kernel_rfl
noncomputable def sp33 (x : (Int × Int × Int × Unit) × (Int × Int × Int × Unit) × Unit) : Option (Int × Unit) := sh33 0 x.1 x.2.1
theorem fo33 : funOk Try.prog 33 = true := by kernel_rfl
theorem ft33 : FTok Try.prog FT33 := FTok_cons fo44 tc44 (FTok_cons fo43 tc43 (FTok_nil))
theorem tc33 : TC Try.prog 33 ⟨g33, sp33⟩ := tc_of (N := 22) (rv := [.tmp 4]) (c := c33) (h := h33) good ft33 wide Try.func33 (by kernel_rfl) rfl (by kernel_rfl) (by decide) (by kernel_rfl) (by kernel_rfl) fun x r h => ⟨0, (ex33 0 x.1 x.2.1).trans h⟩
theorem e33 (p q : Pl) : sp33 ((p.1, p.2.1, p.2.2.1, ()), (q.1, q.2.1, q.2.2.1, ()), ()) = some (cmp3 p q, ()) := by
  show sh33 0 (p.1, p.2.1, p.2.2.1, ()) (q.1, q.2.1, q.2.2.1, ()) = _
  unfold sh33
  rw [e44, Option.bind_some, e44, Option.bind_some, e44, Option.bind_some, e43 _ (by simp), Option.bind_some]
  simp only [orL, cmp3]
  repeat' split
  all_goals simp_all
/-! 45 baggage/baggageref01.sign -/
def g45 : Sig := ⟨[.v (.ty (.int .i64)), .v (.ty (.int .i64))], .v (.ty (.int .i64))⟩
def h45 : HT := (.n (.r .x) (.n (.n (.r .x) (.n (.n (.r .x) .e) .e)) (.n (.n (.r .x) (.n (.n (.r .x) .e) .e)) (.n (.r .x) .e))))
noncomputable def c45 : Code := Try.f45.body.getD .skip
noncomputable def FT45 : List (Nat × Entry) := []
noncomputable def sh45 (fuel : Nat) (x0 : Int) (x1 : Int) : Option (Int × Unit) :=
  if decide (x0 < x1) = true then some (-1, ()) else if decide (x1 < x0) = true then some (1, ()) else some (0, ())
theorem ex45 (fuel : Nat) (x0 : (g45.args.getD 0 (.v (.ty .bool))).T) (x1 : (g45.args.getD 1 (.v (.ty .bool))).T) : call G FT45 g45 11 [.tmp 4] c45 h45 fuel (x0, x1, ()) = sh45 fuel x0 x1 := by kernel_rfl
noncomputable def sp45 (x : (Int) × (Int) × Unit) : Option (Int × Unit) := sh45 0 x.1 x.2.1
theorem fo45 : funOk Try.prog 45 = true := by kernel_rfl
theorem ft45 : FTok Try.prog FT45 := FTok_nil
theorem tc45 : TC Try.prog 45 ⟨g45, sp45⟩ := tc_of (N := 11) (rv := [.tmp 4]) (c := c45) (h := h45) good ft45 wide Try.func45 (by kernel_rfl) rfl (by kernel_rfl) (by decide) (by kernel_rfl) (by kernel_rfl) fun x r h => ⟨0, (ex45 0 x.1 x.2.1).trans h⟩
theorem e45 (a b : Int) : sp45 (a, b, ()) = some (sg a b, ()) := by
  show sh45 0 a b = _
  unfold sh45
  rw [sg]
  repeat' split
  all_goals simp_all
/-! 34 baggage/baggageref01.Compare -/
def g34 : Sig := ⟨[.v (.ag (.cons (.int .i64) (.cons (.int .i64) (.cons (.int .i64) .nil)))), .v (.ag (.cons (.int .i64) (.cons (.int .i64) (.cons (.int .i64) .nil))))], .v (.ty (.int .i64))⟩
def h34 : HT := (.n (.r .x) (.n (.n (.r .x) (.n (.r .x) (.n (.n (.r .x) .e) .e))) (.n (.n (.r .x) (.n (.r .x) (.n (.n (.r .x) .e) .e))) (.n (.r .x) .e))))
noncomputable def c34 : Code := Try.f34.body.getD .skip
noncomputable def FT34 : List (Nat × Entry) := [(45, ⟨g45, sp45⟩)]
noncomputable def sh34 (fuel : Nat) (x0 : Int × Int × Int × Unit) (x1 : Int × Int × Int × Unit) : Option (Int × Unit) :=
  (sp45 (x0.1, x1.1, ())).bind fun (r0 : Int × Unit) =>
    if (r0.1 != 0) = true then some (r0.1, ())
    else
      (sp45 (x0.2.1, x1.2.1, ())).bind fun (r1 : Int × Unit) =>
        if (r1.1 != 0) = true then some (r1.1, ()) else (sp45 (x0.2.2.1, x1.2.2.1, ())).bind fun (r2 : Int × Unit) => some (r2.1, ())
theorem ex34 (fuel : Nat) (x0 : (g34.args.getD 0 (.v (.ty .bool))).T) (x1 : (g34.args.getD 1 (.v (.ty .bool))).T) : call G FT34 g34 28 [.tmp 4] c34 h34 fuel (x0, x1, ()) = sh34 fuel x0 x1 := by kernel_rfl
noncomputable def sp34 (x : (Int × Int × Int × Unit) × (Int × Int × Int × Unit) × Unit) : Option (Int × Unit) := sh34 0 x.1 x.2.1
theorem fo34 : funOk Try.prog 34 = true := by kernel_rfl
theorem ft34 : FTok Try.prog FT34 := FTok_cons fo45 tc45 (FTok_nil)
theorem tc34 : TC Try.prog 34 ⟨g34, sp34⟩ := tc_of (N := 28) (rv := [.tmp 4]) (c := c34) (h := h34) good ft34 wide Try.func34 (by kernel_rfl) rfl (by kernel_rfl) (by decide) (by kernel_rfl) (by kernel_rfl) fun x r h => ⟨0, (ex34 0 x.1 x.2.1).trans h⟩
theorem e34 (p q : Pl) : sp34 ((p.1, p.2.1, p.2.2.1, ()), (q.1, q.2.1, q.2.2.1, ()), ()) = some (cmp3 p q, ()) := by
  show sh34 0 (p.1, p.2.1, p.2.2.1, ()) (q.1, q.2.1, q.2.2.1, ()) = _
  unfold sh34
  rw [e45, Option.bind_some, e45, Option.bind_some, e45, Option.bind_some]
  simp only [cmp3]
  repeat' split
  all_goals simp_all
/-! 9 baggage/baggagelaw01.PlateOrder -/
def g9 : Sig := ⟨[.v (.ag (.cons (.int .i64) (.cons (.int .i64) (.cons (.int .i64) .nil)))), .v (.ag (.cons (.int .i64) (.cons (.int .i64) (.cons (.int .i64) .nil))))], .v (.ty .bool)⟩
def h9 : HT := (.n (.r .x) (.n (.r .x) (.n (.j ⟨[(2, .ref 500000 3), (3, .ref 500001 3), (5, .d (.ty (.int .i64))), (29, .d (.ty .bool))], [(500000, .box [.d (.int .i64), .d (.int .i64), .d (.int .i64)]), (500001, .box [.d (.int .i64), .d (.int .i64), .d (.int .i64)])]⟩ (.r .x) (.n (.n (.r .x) .e) .e)) (.n (.j ⟨[(2, .ref 500002 3), (3, .ref 500003 3), (5, .d (.ty (.int .i64))), (37, .d (.ty .bool))], [(500002, .box [.d (.int .i64), .d (.int .i64), .d (.int .i64)]), (500003, .box [.d (.int .i64), .d (.int .i64), .d (.int .i64)])]⟩ (.r .x) (.n (.n (.r .x) .e) .e)) (.n (.r .q) (.j ⟨[(4, .d (.ty .bool))], []⟩ (.r .x) .e))))))
noncomputable def c9 : Code := Try.f9.body.getD .skip
noncomputable def FT9 : List (Nat × Entry) := [(33, ⟨g33, sp33⟩), (34, ⟨g34, sp34⟩), (13, ⟨g13, sp13⟩), (14, ⟨g14, sp14⟩), (12, ⟨g12, sp12⟩)]
noncomputable def sh9_K6 (z6 : Bool × Unit) : Option (Bool × Unit) :=
  some (z6.1, ())
noncomputable def sh9_K2 (z2 : Int × Bool × (Int × Int × Int × Unit) × (Int × Int × Int × Unit) × Unit) : Option (Bool × Unit) :=
  if z2.2.1 = true then (sp14 ()).bind fun (r3 : Bool × Unit) => some (r3.1, ())
  else
    (sp12 ((z2.2.2.1.1, z2.2.2.1.2.1, z2.2.2.1.2.2.1, ()), ())).bind fun (r4 : List UInt8 × Unit) =>
      (sp12 ((z2.2.2.2.1.1, z2.2.2.2.1.2.1, z2.2.2.2.1.2.2.1, ()), ())).bind fun (r5 : List UInt8 × Unit) =>
        joinK sh9_K6 fun (j7 : Bool × Unit → Option (Bool × Unit)) =>
          if (Op.bytesLess r4.1 r5.1 == decide (z2.1 < 0)) = true then
            if ((r4.1 == r5.1) == (z2.1 == 0)) = true then (sp14 ()).bind fun (r8 : Bool × Unit) => j7 (r8.1, ()) else j7 (false, ())
          else j7 (false, ())
noncomputable def sh9_K1 (z1 : Int × Bool × (Int × Int × Int × Unit) × (Int × Int × Int × Unit) × Unit) : Option (Bool × Unit) :=
  if z1.2.1 = true then some (false, ())
  else
    joinK sh9_K2 fun (j9 : Int × Bool × (Int × Int × Int × Unit) × (Int × Int × Int × Unit) × Unit → Option (Bool × Unit)) =>
      (sp13 ((z1.2.2.1.1, z1.2.2.1.2.1, z1.2.2.1.2.2.1, ()), ())).bind fun (r10 : Bool × Unit) =>
        if (!r10.1) = true then
          j9 (z1.1, true, (z1.2.2.1.1, z1.2.2.1.2.1, z1.2.2.1.2.2.1, ()), (z1.2.2.2.1.1, z1.2.2.2.1.2.1, z1.2.2.2.1.2.2.1, ()), ())
        else
          (sp13 ((z1.2.2.2.1.1, z1.2.2.2.1.2.1, z1.2.2.2.1.2.2.1, ()), ())).bind fun (r11 : Bool × Unit) =>
            j9 (z1.1, !r11.1, (z1.2.2.1.1, z1.2.2.1.2.1, z1.2.2.1.2.2.1, ()), (z1.2.2.2.1.1, z1.2.2.2.1.2.1, z1.2.2.2.1.2.2.1, ()), ())
noncomputable def sh9 (fuel : Nat) (x0 : Int × Int × Int × Unit) (x1 : Int × Int × Int × Unit) : Option (Bool × Unit) :=
  (sp33 ((x0.1, x0.2.1, x0.2.2.1, ()), (x1.1, x1.2.1, x1.2.2.1, ()), ())).bind fun (r0 : Int × Unit) =>
    joinK sh9_K1 fun (j12 : Int × Bool × (Int × Int × Int × Unit) × (Int × Int × Int × Unit) × Unit → Option (Bool × Unit)) =>
      (sp34 ((x0.1, x0.2.1, x0.2.2.1, ()), (x1.1, x1.2.1, x1.2.2.1, ()), ())).bind fun (r13 : Int × Unit) =>
        if (r0.1 != r13.1) = true then j12 (r0.1, true, (x0.1, x0.2.1, x0.2.2.1, ()), (x1.1, x1.2.1, x1.2.2.1, ()), ())
        else
          (sp33 ((x1.1, x1.2.1, x1.2.2.1, ()), (x0.1, x0.2.1, x0.2.2.1, ()), ())).bind fun (r14 : Int × Unit) =>
            if (r14.1 != IntKind.i64.wrap (0 - r0.1)) = true then j12 (r0.1, true, (x0.1, x0.2.1, x0.2.2.1, ()), (x1.1, x1.2.1, x1.2.2.1, ()), ())
            else
              (sp33 ((x0.1, x0.2.1, x0.2.2.1, ()), (x0.1, x0.2.1, x0.2.2.1, ()), ())).bind fun (r15 : Int × Unit) =>
                j12 (r0.1, r15.1 != 0, (x0.1, x0.2.1, x0.2.2.1, ()), (x1.1, x1.2.1, x1.2.2.1, ()), ())
theorem ex9 (fuel : Nat) (x0 : (g9.args.getD 0 (.v (.ty .bool))).T) (x1 : (g9.args.getD 1 (.v (.ty .bool))).T) : call G FT9 g9 60 [.tmp 4] c9 h9 fuel (x0, x1, ()) = sh9 fuel x0 x1 := by kernel_rfl
noncomputable def sp9 (x : (Int × Int × Int × Unit) × (Int × Int × Int × Unit) × Unit) : Option (Bool × Unit) := sh9 0 x.1 x.2.1
theorem fo9 : funOk Try.prog 9 = true := by kernel_rfl
theorem ft9 : FTok Try.prog FT9 := FTok_cons fo33 tc33 (FTok_cons fo34 tc34 (FTok_cons fo13 tc13 (FTok_cons fo14 tc14 (FTok_cons fo12 tc12 (FTok_nil)))))
theorem tc9 : TC Try.prog 9 ⟨g9, sp9⟩ := tc_of (N := 60) (rv := [.tmp 4]) (c := c9) (h := h9) good ft9 wide Try.func9 (by kernel_rfl) rfl (by kernel_rfl) (by decide) (by kernel_rfl) (by kernel_rfl) fun x r h => ⟨0, (ex9 0 x.1 x.2.1).trans h⟩
theorem law9 (x : Pl × Pl × Unit) : ∃ o, sp9 x = some (true, o) := by
  obtain ⟨⟨a, b, c, u⟩, ⟨a', b', c', u'⟩, u''⟩ := x
  refine ⟨(), ?_⟩
  show sh9 0 (a, b, c, ()) (a', b', c', ()) = _
  unfold sh9
  dsimp only [joinK]
  have h1 := e33 (a, b, c, ()) (a', b', c', ())
  have h2 := e34 (a, b, c, ()) (a', b', c', ())
  have h3 := e33 (a', b', c', ()) (a, b, c, ())
  have h4 := e33 (a, b, c, ()) (a, b, c, ())
  dsimp only at h1 h2 h3 h4
  have hb := cmp3_bd (a, b, c, ()) (a', b', c', ())
  rw [h1, Option.bind_some, h2, Option.bind_some, if_neg (by simp), h3, Option.bind_some, cmp3_flip (a, b, c, ()) (a', b', c', ()), wrapI (by omega) (by omega), if_neg (by simp), h4, Option.bind_some, cmp3_self]
  simp only [sh9_K1, joinK]
  rw [if_neg (by decide), e13, Option.bind_some]
  cases hv : vldB a b c with
  | false =>
    rw [if_pos (by decide)]
    simp only [sh9_K2, if_true]
    rw [e14, Option.bind_some]
  | true =>
    rw [if_neg (by decide), e13, Option.bind_some]
    cases hv' : vldB a' b' c' with
    | false =>
      simp only [sh9_K2]
      rw [if_pos (by decide), e14, Option.bind_some]
    | true =>
      simp only [sh9_K2, joinK]
      rw [if_neg (by decide), e12, Option.bind_some, e12, Option.bind_some]
      have hn := cmp3_num hv hv'
      have hf := fmt_less hv hv'
      rw [if_pos ?_, if_pos ?_, e14, Option.bind_some]
      · rfl
      · rw [beq_iff_eq, Bool.eq_iff_iff, beq_iff_eq, beq_iff_eq, hf.2, hn.2]
      · simp only [hf.1, beq_iff_eq, decide_eq_decide, hn.1]
end Go.Proofs.Ytplngcjkghnkcaa
