/- Chapter 02: what the functions come to; the laws. -/
import Derived.Test.YthoibdbhmacliaaDoorWa
import Derived.Test.YthoibdbhmacliaaDoorMath
import Derived.KernelRfl
open Go Go.Proofs Go.Abs
set_option linter.unusedVariables false
set_option maxRecDepth 100000
namespace Go.Proofs.YthoibdbhmacliaaDoor
def letB (c : Int) : Bool := decide (65 ≤ c) && decide (c ≤ 90)
theorem e47 (c : Int) : sp47 (c, ()) = some (digB c, ()) := by
  show sh47 0 c = _
  unfold sh47 digB; simp only [joinK, sh47_K0]; split <;> (try simp_all) <;> omega
theorem e49 (c : Int) : sp49 (c, ()) = some (letB c, ()) := by
  show sh49 0 c = _
  unfold sh49 letB; simp only [joinK, sh49_K0]; split <;> (try simp_all) <;> omega
theorem e41 (c : Int) : sp41 (c, ()) = some (letB c, ()) := by
  show sh41 0 c = _
  unfold sh41 letB; simp only [joinK, sh41_K0]; split <;> (try simp_all) <;> omega
theorem e50 (c : Int) : sp50 (c, ()) = some (digB c, ()) := by
  show sh50 0 c = _
  unfold sh50 digB; simp only [joinK, sh50_K0]; split <;> (try simp_all) <;> omega
theorem e33 (s : List UInt8) (h : s.length ≤ 10) : sp33 (s, ()) = some (digL s, ()) := by
  refine iter_inv (F := sh33_L2 sh33_K0) (fun k => (s, (k : Int), ())) (fun k => digL (s.take k) = true) s.length 16 (by omega) rfl (fun rc k hk hi => ?_) (fun rc hi => ?_)
  · simp only [sh33_L2, joinK]
    rw [if_pos (by simpa using hk), if_pos (inR_nat hk), sAt_nat]
    by_cases hd : digB ((s.getD k 0).toNat : Int) = true
    · refine .inl ⟨?_, by rw [digL_snoc s k hk, hi, hd]; rfl⟩
      have hd := hd
      simp only [digB, Bool.and_eq_true, decide_eq_true_eq] at hd
      rw [if_neg (by simp only [decide_eq_true_eq]; omega), if_pos (inR_nat hk)]
      simp only [sh33_K3]
      rw [if_neg (by simp only [decide_eq_true_eq]; omega), up1 hk (by omega)]
    · have hd : digB ((s.getD k 0).toNat : Int) = false := by simpa using hd
      refine .inr ?_
      rw [digL_false s k hk hd]
      simp only [digB, Bool.and_eq_false_iff, decide_eq_false_iff_not] at hd
      by_cases hlo : ((s.getD k 0).toNat : Int) < 48
      · rw [if_pos (by simpa using hlo)]; rfl
      · rw [if_neg (by simpa using hlo), if_pos (inR_nat hk)]
        simp only [sh33_K3]
        rw [if_pos (by simp only [decide_eq_true_eq]; omega)]
  · simp only [sh33_L2]
    rw [if_neg (by simp)]
    rw [List.take_length] at hi
    rw [hi]; rfl
theorem e35 (s : List UInt8) (hs : s.length ≤ 10) : sp35 (s, ()) = some ((valL s : Int), ()) := by
  refine iter_count (F := sh35_L2 sh35_K0) (fun k => (s, ((valL (s.take k) : Nat) : Int), (k : Int), ())) s.length 16 (by omega) (fun rc k hk => ?_) (fun rc => ?_)
  · simp only [sh35_L2]
    rw [if_pos (by simpa using hk), if_pos (inR_nat hk), sAt_nat, Int.mul_comm _ 10, valL_step s hs k hk, up1 hk (by omega)]
  · simp only [sh35_L2]
    rw [if_neg (by simp)]
    simp [sh35_K0]
theorem e37 (W N : Nat) (hb : N < 10000000000) (hW : 1 ≤ W ∧ W ≤ 10) : sp37 ((N : Int), (W : Int), ()) = some (digs N W, ()) := by
  show sh37 16 (N : Int) (W : Int) = _
  unfold sh37
  dsimp only [joinK]
  have hl : (W : Int) ≤ ((Abs.lim : Nat) : Int) := (by have h10 : (10 : Nat) ≤ Abs.lim := (by decide +kernel); omega)
  rw [if_pos (decide_eq_true (by omega)), if_pos (decide_eq_true (by omega)), if_pos (decide_eq_true hl), if_pos (decide_eq_true (by omega))]
  have h := iter_count (F := sh37_L2 sh37_K0) (r := some (digs N W, ())) (fun k => (((N / 10 ^ k : Nat) : Int), ((W : Int) - 1) - (k : Int), rowsW W N k, ())) W 16 (by omega) (fun rc k hk => ?_) (fun rc => ?_)
  · have e0 : rowsW W N 0 = List.replicate (W : Int).toNat ((0 : Int), ()) := by simp [rowsW, digs]
    have e1 : ((W : Int) - 1) - ((0 : Nat) : Int) = IntKind.i64.wrap ((W : Int) - 1) := by rw [wrapI (by omega) (by omega)]; omega
    rw [Nat.pow_zero, Nat.div_one, e0, e1] at h
    exact h
  · have h9 : ((W : Int) - 1) - (k : Int) = ((W - 1 - k : Nat) : Int) := by omega
    have h8 : IntKind.i64.wrap (((W : Int) - 1) - (k : Int) - 1) = ((W : Int) - 1) - ((k + 1 : Nat) : Int) := by rw [wrapI (by omega) (by omega)]; omega
    simp only [sh37_L2]
    rw [if_pos (decide_eq_true (by omega)), if_pos (by decide), h8, h9, if_pos (by rw [rowsW_len W N k (by omega)]; exact inR_nat (by omega)), if_pos (decide_eq_true (by rw [rowsW_len W N k (by omega)]; omega)), if_pos (by decide), div_val N k hb, dig_val2, Int.toNat_natCast, rowsW_set W N k hk]
  · simp only [sh37_L2]
    rw [if_neg (by simp; omega)]
    simp only [sh37_K0]
    rw [rowsW_end]
theorem ofB_getD : ∀ (s : List UInt8) (k : Nat), k < s.length → ((ofBytes s).getD k (0, ())).1 = ((s.getD k 0).toNat : Int)
  | [], _, h => absurd h (Nat.not_lt_zero _)
  | _ :: _, 0, _ => rfl
  | _ :: s, k + 1, h => ofB_getD s k (Nat.lt_of_succ_lt_succ h)
/-- What Digits answers. -/
def dgs (s : List UInt8) (m : Int) : Int × Bool × Unit := if s.length ≠ 0 ∧ (s.length : Int) ≤ m ∧ digL s = true then ((valL s : Int), true, ()) else (0, false, ())
theorem e29 (s : List UInt8) (m : Int) (hs : s.length ≤ 10) : sp29 (s, m, ()) = some (dgs s m, ()) := by
  show sh29 16 s m = _
  unfold sh29
  simp only [joinK]
  have no : sh29_K0 16 (s, true, ()) = some ((0, false, ()), ()) := by simp only [sh29_K0, if_true]
  by_cases h0 : s.length = 0
  · have := List.length_eq_zero_iff.1 h0
    subst this
    rw [if_pos (by rfl), no]; rfl
  have hne : s ≠ [] := fun e => h0 (by rw [e]; rfl)
  rw [if_neg (by simpa using hne)]
  by_cases hm : m < (s.length : Int)
  · rw [if_pos (by simpa using hm), no]
    unfold dgs; rw [if_neg (by omega)]
  rw [if_neg (by simpa using hm)]
  refine iter_inv (F := sh29_L77 _ _) (fun k => (s, false, s, (s.length : Int), (k : Int), ())) (fun k => digL (s.take k) = true) s.length 16 (by omega) rfl (fun rc k hk hi => ?_) (fun rc hi => ?_)
  · simp only [sh29_L77, joinK]
    rw [if_pos (by simpa using hk), if_pos (inR_nat hk), sAt_nat]
    by_cases hd : digB ((s.getD k 0).toNat : Int) = true
    · refine .inl ⟨?_, by rw [digL_snoc s k hk, hi, hd]; rfl⟩
      have hd := hd
      simp only [digB, Bool.and_eq_true, decide_eq_true_eq] at hd
      rw [if_pos (by simp only [decide_eq_true_eq]; omega)]
      simp only [sh29_K78]
      rw [if_neg (by simp only [Bool.not_eq_true', decide_eq_false_iff_not]; omega), up1 hk (by omega)]
    · have hd : digB ((s.getD k 0).toNat : Int) = false := by simpa using hd
      refine .inr ?_
      have hr : dgs s m = (0, false, ()) := by unfold dgs; rw [if_neg (by rw [digL_false s k hk hd]; simp)]
      rw [hr]
      simp only [digB, Bool.and_eq_false_iff, decide_eq_false_iff_not] at hd
      by_cases hlo : ((s.getD k 0).toNat : Int) < 48
      · rw [if_neg (by simp only [decide_eq_true_eq]; omega)]; simp only [sh29_K78]; rw [if_pos (by rfl), if_neg (by decide)]; exact no
      · rw [if_pos (by simp only [decide_eq_true_eq]; omega)]; simp only [sh29_K78]; rw [if_pos (by simp only [Bool.not_eq_true', decide_eq_false_iff_not]; omega), if_neg (by decide)]; exact no
  · have hd : digL s = true := by rw [List.take_length] at hi; exact hi
    simp only [sh29_L77]
    rw [if_neg (by simp)]
    simp only [sh29_K75]
    rw [if_neg (by decide)]
    have hr : dgs s m = ((valL s : Int), true, ()) := by unfold dgs; rw [if_pos ⟨h0, by omega, hd⟩]
    rw [hr]
    simp only [sh29_K0, joinK]
    rw [if_neg (by decide), if_pos (by simp; omega)]
    have hin : inR 0 s.length = true := inR_nat (k := 0) (by omega)
    simp only [sh29_K63, joinK]
    rw [if_pos (by simp; omega), if_pos hin]
    have hda : ∀ k, k < s.length → digB ((s.getD k 0).toNat : Int) = true := fun k hk => by
      have h1 := digL_snoc s k hk
      rw [digL_take hd, digL_take hd] at h1
      simpa using h1.symm
    have hd0 := hda 0 (by omega)
    simp only [digB, Bool.and_eq_true, decide_eq_true_eq] at hd0
    have hs0 : sAt s 0 = ((s.getD 0 0).toNat : Int) := rfl
    have h45 : ¬((sAt s 0 == 45) = true) := by rw [hs0, beq_iff_eq]; omega
    have h43 : ¬((sAt s 0 == 43) = true) := by rw [hs0, beq_iff_eq]; omega
    rw [if_neg h45, if_pos hin]
    simp only [sh29_K71]
    rw [if_neg h43]
    simp only [sh29_K64, joinK]
    have hl : s.length ≤ Abs.lim := (by have h10 : (10 : Nat) ≤ Abs.lim := (by decide +kernel); omega)
    rw [if_pos (by simpa using hl)]
    have hol : (ofBytes s).length = s.length := List.length_map ..
    refine (fun (key : ∀ B : List (Int × Unit), B.length = s.length → (∀ k, k < s.length → (B.getD k (0, ())).1 = ((s.getD k 0).toNat : Int)) → iter 16 (sh29_L69 (sh29_K65 (sh29_K3 sh29_K1))) (s, s, 0, (B.length : Int), 0, B, ()) = some (((valL s : Int), true, ()), ())) => key (ofBytes s) hol (fun k hk => ofB_getD s k hk)) ?_
    intro B hol hget
    refine iter_count (F := sh29_L69 _) (fun k => (s, s, ((valL (s.take k) : Nat) : Int), (B.length : Int), (k : Int), B, ())) s.length 16 (by omega) (fun rc k hk => ?_) (fun rc => ?_)
    · simp only [sh29_L69]
      have hk' := hda k hk
      simp only [digB, Bool.and_eq_true, decide_eq_true_eq] at hk'
      have hlk : k < B.length := by rw [hol]; exact hk
      rw [if_pos (decide_eq_true (Int.ofNat_lt.2 hlk)), if_pos (inR_nat hlk), Int.toNat_natCast, if_pos (decide_eq_true (p := k + 1 ≤ B.length) hlk), hget k hk, if_neg (by rw [wrap8, decide_eq_true_eq]; omega), Int.mul_comm _ 10, valL_step s hs k hk, up1 hk (by omega)]
    · simp only [sh29_L69]
      rw [if_neg (by rw [hol]; simp)]
      simp only [sh29_K65, joinK]
      rw [if_pos hin, if_neg h45]
      simp only [sh29_K66, sh29_K3, sh29_K1, List.take_length]
/-- two letters or digits, one of them a letter -/
def carB (s : List UInt8) : Bool := match s with
  | [a, b] => (letB a.toNat || digB a.toNat) && (letB b.toNat || digB b.toNat) && (letB a.toNat || letB b.toNat)
  | _ => false
/-- all are letters -/
def ltL (s : List UInt8) : Bool := s.all fun c => letB c.toNat
theorem len2 {s : List UInt8} (h : s.length = 2) : ∃ a b, s = [a, b] := by
  match s, h with
  | [a, b], _ => exact ⟨a, b, rfl⟩
theorem len1 {s : List UInt8} (h : s.length = 1) : ∃ a, s = [a] := by
  match s, h with
  | [a], _ => exact ⟨a, rfl⟩
theorem len3 {s : List UInt8} (h : s.length = 3) : ∃ a b c, s = [a, b, c] := by
  match s, h with
  | [a, b, c], _ => exact ⟨a, b, c, rfl⟩
theorem carB_len {s : List UInt8} (h : s.length ≠ 2) : carB s = false := by
  match s with
  | [] => rfl
  | [_] => rfl
  | [_, _] => exact absurd rfl h
  | _ :: _ :: _ :: _ => rfl
theorem st30 (rc : List UInt8 × Int × Int × Int × Unit → Option (Bool × Unit)) (s : List UInt8) (n : Int) (k : Nat) (hk : k < s.length) :
    sh30_L2 sh30_K0 rc (s, n, (s.length : Int), (k : Int), ()) = if letB (s.getD k 0).toNat = true then rc (s, IntKind.i64.wrap (n + 1), (s.length : Int), IntKind.i64.wrap ((k : Int) + 1), ()) else
      if digB (s.getD k 0).toNat = true then rc (s, n, (s.length : Int), IntKind.i64.wrap ((k : Int) + 1), ()) else some (false, ()) := by
  simp only [sh30_L2, joinK]
  rw [if_pos (by simpa using hk), if_pos (inR_nat hk), sAt_nat, e49, Option.bind_some, if_pos (inR_nat hk), e47, Option.bind_some]
  simp only [sh30_K3]
  cases letB (s.getD k 0).toNat <;> cases digB (s.getD k 0).toNat <;> rfl
theorem en30 (rc : List UInt8 × Int × Int × Int × Unit → Option (Bool × Unit)) (s : List UInt8) (n : Int) :
    sh30_L2 sh30_K0 rc (s, n, (s.length : Int), (s.length : Int), ()) = some (decide (0 < n), ()) := by
  simp only [sh30_L2]
  rw [if_neg (by simp)]; rfl
theorem e30 (s : List UInt8) : sp30 (s, ()) = some (carB s, ()) := by
  show sh30 16 s = _
  unfold sh30
  by_cases hs : s.length = 2
  case neg => rw [if_pos (by simp; omega), carB_len hs]
  rw [if_neg (by simp; omega)]
  obtain ⟨a, b, rfl⟩ := len2 hs
  have w1 : IntKind.i64.wrap (((0 : Nat) : Int) + 1) = ((1 : Nat) : Int) := by decide
  have w2 : IntKind.i64.wrap (((1 : Nat) : Int) + 1) = (([a, b].length : Nat) : Int) := by show _ = ((2 : Nat) : Int); decide
  have w3 : IntKind.i64.wrap ((0 : Int) + 1) = 1 := by decide
  have w4 : IntKind.i64.wrap ((1 : Int) + 1) = 2 := by decide
  show sh30_L2 sh30_K0 (iter 15 (sh30_L2 sh30_K0)) ([a, b], 0, (([a, b].length : Nat) : Int), ((0 : Nat) : Int), ()) = _
  have st : ∀ n, iter 15 (sh30_L2 sh30_K0) ([a, b], n, (([a, b].length : Nat) : Int), ((1 : Nat) : Int), ()) = if letB b.toNat = true then some (decide (0 < IntKind.i64.wrap (n + 1)), ()) else
      if digB b.toNat = true then some (decide (0 < n), ()) else some (false, ()) := fun n => by
    show sh30_L2 sh30_K0 (sh30_L2 sh30_K0 (iter 13 (sh30_L2 sh30_K0))) ([a, b], n, (([a, b].length : Nat) : Int), ((1 : Nat) : Int), ()) = _
    rw [st30 _ _ _ _ (Nat.lt_succ_self 1), w2, en30, en30]; rfl
  rw [st30 _ _ _ _ (Nat.zero_lt_succ 1), w1, st, st, w3, w4]
  show (if letB a.toNat = true then _ else if digB a.toNat = true then _ else _) = _
  cases h1 : letB a.toNat <;> cases h2 : digB a.toNat <;> cases h3 : letB b.toNat <;> cases h4 : digB b.toNat <;> simp [carB, h1, h2, h3, h4]
theorem e32 (s : List UInt8) : sp32 (s, ()) = some (carB s, ()) := by
  show sh32 0 s = _
  unfold sh32
  by_cases hs : s.length = 2
  case neg => rw [if_pos (by simp; omega), carB_len hs]
  rw [if_neg (by simp; omega)]
  obtain ⟨a, b, rfl⟩ := len2 hs
  have s0 : sAt [a, b] 0 = (a.toNat : Int) := rfl
  have s1 : sAt [a, b] 1 = (b.toNat : Int) := rfl
  have q0 : inR 0 [a, b].length = true := rfl
  have q1 : inR 1 [a, b].length = true := rfl
  simp only [joinK, sh32_K2, e41, e50, Option.bind_some, s0, s1, q0, q1, if_true]
  cases h1 : letB a.toNat <;> cases h2 : digB a.toNat <;> cases h3 : letB b.toNat <;> cases h4 : digB b.toNat <;> simp [carB, h1, h2, h3, h4]
theorem ltL_snoc (s : List UInt8) (k : Nat) (h : k < s.length) : ltL (s.take (k + 1)) = (ltL (s.take k) && letB (s.getD k 0).toNat) := by
  rw [take_snoc s 0 k h]; simp [ltL]
theorem ltL_false (s : List UInt8) (k : Nat) (h : k < s.length) (hb : letB (s.getD k 0).toNat = false) : ltL s = false := by
  unfold ltL
  rw [List.all_eq_false]
  refine ⟨s.getD k 0, ?_, by rw [hb]; decide⟩
  simp [List.getD, h]
theorem e31 (s : List UInt8) (lo hi : Int) (hh : hi ≤ 10) : sp31 (s, lo, hi, ()) = some (decide (lo ≤ s.length) && decide ((s.length : Int) ≤ hi) && ltL s, ()) := by
  show sh31 16 s lo hi = _
  unfold sh31
  simp only [joinK]
  by_cases h1 : lo ≤ (s.length : Int)
  case neg => rw [if_neg (by simpa using h1)]; simp [sh31_K0, h1]
  rw [if_pos (by simpa using h1)]
  by_cases h2 : (s.length : Int) ≤ hi
  case neg => rw [if_neg (by simpa using h2)]; simp [sh31_K0, h2]
  rw [if_pos (by simpa using h2), decide_eq_true h1, decide_eq_true h2, Bool.true_and, Bool.true_and]
  refine iter_inv (F := sh31_L4 _ _) (fun k => (true, s, (s.length : Int), (k : Int), ())) (fun k => ltL (s.take k) = true) s.length 16 (by omega) rfl (fun rc k hk hi => ?_) (fun rc hi => ?_)
  · simp only [sh31_L4, joinK]
    rw [if_pos (by simpa using hk), if_pos (inR_nat hk), sAt_nat]
    by_cases hd : letB ((s.getD k 0).toNat : Int) = true
    · refine .inl ⟨?_, by rw [ltL_snoc s k hk, hi, hd]; rfl⟩
      have hd := hd
      simp only [letB, Bool.and_eq_true, decide_eq_true_eq] at hd
      rw [if_pos (by simp only [decide_eq_true_eq]; omega)]
      simp only [sh31_K5]
      rw [if_neg (by simp only [Bool.not_eq_true', decide_eq_false_iff_not]; omega), up1 hk (by omega)]
    · have hd : letB ((s.getD k 0).toNat : Int) = false := by simpa using hd
      refine .inr ?_
      rw [ltL_false s k hk hd]
      simp only [letB, Bool.and_eq_false_iff, decide_eq_false_iff_not] at hd
      by_cases hlo : ((s.getD k 0).toNat : Int) < 65
      · rw [if_neg (by simp only [decide_eq_true_eq]; omega)]; simp only [sh31_K5]; rw [if_pos (by rfl), if_pos trivial]; rfl
      · rw [if_pos (by simp only [decide_eq_true_eq]; omega)]; simp only [sh31_K5]; rw [if_pos (by simp only [Bool.not_eq_true', decide_eq_false_iff_not]; omega), if_pos trivial]; rfl
  · simp only [sh31_L4]
    rw [if_neg (by simp)]
    rw [List.take_length] at hi
    rw [hi]; rfl
/-- Is it a suffix? -/
def sufB (s : List UInt8) : Bool := decide (s.length ≤ 1) && ltL s
theorem e31s (s : List UInt8) : sp31 (s, 0, 1, ()) = some (sufB s, ()) := by
  rw [e31 s 0 1 (by decide)]
  unfold sufB
  have h1 : decide ((0 : Int) ≤ (s.length : Int)) = true := decide_eq_true (by omega)
  have h2 : decide ((s.length : Int) ≤ 1) = decide (s.length ≤ 1) := by congr 1; apply propext; omega
  rw [h1, h2, Bool.true_and]
theorem e34 (s : List UInt8) : sp34 (s, ()) = some (sufB s, ()) := by
  show sh34 0 s = _
  unfold sh34
  simp only [joinK, sh34_K0]
  match s with
  | [] => rfl
  | [a] =>
    rw [if_neg (by simp), if_pos (by simp), if_pos (by rfl)]
    have s0 : sAt [a] 0 = (a.toNat : Int) := rfl
    rw [s0, e41]
    simp [sufB, ltL]
  | a :: b :: r =>
    rw [if_neg (by simp), if_neg (by simp; omega)]
    simp [sufB]
/-- Is it a port? -/
def portB (s : List UInt8) : Bool := decide (s.length = 3) && ltL s
theorem e23 (s : List UInt8) : sp23 (s, ()) = some (portB s, ()) := by
  show sh23 0 s = _
  unfold sh23
  rw [e31 s 3 3 (by decide), Option.bind_some]
  have h : (decide ((3 : Int) ≤ (s.length : Int)) && decide ((s.length : Int) ≤ 3)) = decide (s.length = 3) := by
    by_cases h : s.length = 3
    · simp [h]
    · rw [decide_eq_false h, Bool.and_eq_false_iff, decide_eq_false_iff_not, decide_eq_false_iff_not]; omega
  rw [h]; rfl
theorem e24 (s : List UInt8) : sp24 (s, ()) = some (portB s, ()) := by
  show sh24 0 s = _
  unfold sh24
  simp only [joinK, sh24_K0]
  by_cases hs : s.length = 3
  case neg => rw [if_neg (by simp; omega)]; simp [portB, hs]
  rw [if_pos (by simp; omega)]
  obtain ⟨a, b, c, rfl⟩ := len3 hs
  have s0 : sAt [a, b, c] 0 = (a.toNat : Int) := rfl
  have s1 : sAt [a, b, c] 1 = (b.toNat : Int) := rfl
  have s2 : sAt [a, b, c] 2 = (c.toNat : Int) := rfl
  have q0 : inR 0 [a, b, c].length = true := rfl
  have q1 : inR 1 [a, b, c].length = true := rfl
  have q2 : inR 2 [a, b, c].length = true := rfl
  simp only [e41, Option.bind_some, s0, s1, s2, q0, q1, q2, if_true]
  cases h1 : letB a.toNat <;> cases h2 : letB b.toNat <;> cases h3 : letB c.toNat <;> simp [portB, ltL, h1, h2, h3]
theorem wrap64 (x : Int) : IntKind.u64.wrap x = x % 18446744073709551616 := by
  have e1 : ((2 : Int) ^ IntKind.u64.bits) = 18446744073709551616 := by decide
  simp [IntKind.wrap, e1, IntKind.signed]
theorem wrap32 (x : Int) : IntKind.u32.wrap x = x % 4294967296 := by
  have e1 : ((2 : Int) ^ IntKind.u32.bits) = 4294967296 := by decide
  simp [IntKind.wrap, e1, IntKind.signed]
/-- the lengths of small numbers in bits -/
theorem len8 : ∀ q : Fin 256, (sAt lit2 ((q.val : Nat) : Int) = 0 ∧ q.val = 0) ∨ (sAt lit2 ((q.val : Nat) : Int) = 1 ∧ q.val = 1) ∨ (sAt lit2 ((q.val : Nat) : Int) = 2 ∧ 2 ≤ q.val ∧ q.val ≤ 3) ∨ (sAt lit2 ((q.val : Nat) : Int) = 3 ∧ 4 ≤ q.val ∧ q.val ≤ 7) ∨ (sAt lit2 ((q.val : Nat) : Int) = 4 ∧ 8 ≤ q.val ∧ q.val ≤ 15) ∨
    (sAt lit2 ((q.val : Nat) : Int) = 5 ∧ 16 ≤ q.val ∧ q.val ≤ 31) ∨ (sAt lit2 ((q.val : Nat) : Int) = 6 ∧ 32 ≤ q.val ∧ q.val ≤ 63) ∨ (sAt lit2 ((q.val : Nat) : Int) = 7 ∧ 64 ≤ q.val ∧ q.val ≤ 127) ∨ (sAt lit2 ((q.val : Nat) : Int) = 8 ∧ 128 ≤ q.val) := by decide +kernel
theorem e87 (N : Nat) (h : N < 65536) : sp87 ((N : Int), ()) = some (if 256 ≤ N then IntKind.i64.wrap (8 + IntKind.i64.wrap (sAt lit2 ((N / 256 : Nat) : Int))) else IntKind.i64.wrap (0 + IntKind.i64.wrap (sAt lit2 (N : Int))), ()) := by
  show sh87 0 (N : Int) = _
  unfold sh87
  simp only [joinK]
  rw [if_neg (by simp; omega)]
  simp only [sh87_K0, joinK]
  rw [if_neg (by simp; omega)]
  simp only [sh87_K1, joinK]
  have hl : lit2.length = 256 := by decide +kernel
  by_cases hN : 256 ≤ N
  · rw [if_pos (by simp; omega), if_pos (by rfl), if_pos hN]
    have e1 : (N : Int).fdiv (2 ^ min (Int.toNat 8) IntKind.u64.bits) = ((N / 256 : Nat) : Int) := by
      show (N : Int).fdiv 256 = _
      rw [Int.fdiv_eq_ediv_of_nonneg _ (by decide)]; rfl
    have e2 : IntKind.u8.wrap ((N / 256 : Nat) : Int) = ((N / 256 : Nat) : Int) := by rw [wrap8]; omega
    rw [e1]
    simp only [sh87_K2]
    rw [e2, if_pos (by rw [hl]; exact inR_nat (by omega))]
    rfl
  · rw [if_neg (by simp; omega), if_neg hN]
    have e2 : IntKind.u8.wrap (N : Int) = (N : Int) := by rw [wrap8]; omega
    simp only [sh87_K2]
    rw [e2, if_pos (by rw [hl]; exact inR_nat (by omega))]
theorem e79 (N : Nat) (h1 : 100 ≤ N) (h2 : N ≤ 9999) : sp79 ((N : Int), ()) = some (if N < 1000 then 3 else 4, ()) := by
  have key : ∀ (l p : Int), sp87 ((N : Int), ()) = some (l, ()) → (∀ x : Int, sp87 (x, ()) = some (l, ()) → sp79 (x, ()) = if decide (p ≤ x) = true then some (IntKind.i64.wrap ((if p = 100 then 2 else if p = 1000 then 3 else 4) + 1), ()) else some (IntKind.i64.wrap ((if p = 100 then 2 else if p = 1000 then 3 else 4) + 0), ())) →
      ((p = 100 ∧ N < 1000) ∨ (p = 1000) ∨ (p = 10000 ∧ 1000 ≤ N)) → sp79 ((N : Int), ()) = some (if N < 1000 then 3 else 4, ()) := by
    intro l p e f hp
    rw [f _ e]
    have w3 : IntKind.i64.wrap ((2 : Int) + 1) = 3 := by decide
    have w4 : IntKind.i64.wrap ((3 : Int) + 1) = 4 := by decide
    have w5 : IntKind.i64.wrap ((3 : Int) + 0) = 3 := by decide
    have w6 : IntKind.i64.wrap ((4 : Int) + 0) = 4 := by decide
    rcases hp with ⟨rfl, hp⟩ | rfl | ⟨rfl, hp⟩
    · rw [if_pos (by simp; omega), if_pos rfl, w3, if_pos hp]
    · by_cases h : N < 1000
      · rw [if_neg (by simp; omega), if_neg (by decide), if_pos rfl, w5, if_pos h]
      · rw [if_pos (by simp; omega), if_neg (by decide), if_pos rfl, w4, if_neg h]
    · rw [if_neg (by simp; omega), if_neg (by decide), if_neg (by decide), w6, if_neg (by omega)]
  have stp : ∀ (l : Int) (p k : Int), sp86 (l, ()) = some (k, ()) → inR k 20 = true → (lAt (0, ()) [(1, ()), (10, ()), (100, ()), (1000, ()), (10000, ()), (100000, ()), (1000000, ()), (10000000, ()), (100000000, ()), (1000000000, ()), (10000000000, ()), (100000000000, ()), (1000000000000, ()), (10000000000000, ()), (100000000000000, ()), (1000000000000000, ()), (10000000000000000, ()), (100000000000000000, ()), (1000000000000000000, ()), (10000000000000000000, ())] k).1 = p → ∀ x : Int, sp87 (x, ()) = some (l, ()) →
      sp79 (x, ()) = if decide (p ≤ x) = true then some (IntKind.i64.wrap (k + 1), ()) else some (IntKind.i64.wrap (k + 0), ()) := by
    intro l p k h86 hk hp x hx
    show sh79 0 x = _
    unfold sh79
    rw [hx, Option.bind_some, h86, Option.bind_some]
    simp only
    rw [if_pos hk]
    refine (if_pos hk).trans ?_
    rw [hp]
    show (sh88 0 (decide (p ≤ x))).bind _ = _
    unfold sh88
    cases decide (p ≤ x) <;> rfl
  rw [show sp87 ((N : Int), ()) = _ from e87 N (by omega)] at key
  have k2 : ∀ l, sp86 (l, ()) = some (2, ()) → ∀ x : Int, sp87 (x, ()) = some (l, ()) → sp79 (x, ()) = if decide ((100 : Int) ≤ x) = true then some (IntKind.i64.wrap ((if (100 : Int) = 100 then 2 else if (100 : Int) = 1000 then 3 else 4) + 1), ()) else some (IntKind.i64.wrap ((if (100 : Int) = 100 then 2 else if (100 : Int) = 1000 then 3 else 4) + 0), ()) := fun l h => stp l 100 2 h rfl rfl
  have k3 : ∀ l, sp86 (l, ()) = some (3, ()) → ∀ x : Int, sp87 (x, ()) = some (l, ()) → sp79 (x, ()) = if decide ((1000 : Int) ≤ x) = true then some (IntKind.i64.wrap ((if (1000 : Int) = 100 then 2 else if (1000 : Int) = 1000 then 3 else 4) + 1), ()) else some (IntKind.i64.wrap ((if (1000 : Int) = 100 then 2 else if (1000 : Int) = 1000 then 3 else 4) + 0), ()) := fun l h => stp l 1000 3 h rfl rfl
  have k4 : ∀ l, sp86 (l, ()) = some (4, ()) → ∀ x : Int, sp87 (x, ()) = some (l, ()) → sp79 (x, ()) = if decide ((10000 : Int) ≤ x) = true then some (IntKind.i64.wrap ((if (10000 : Int) = 100 then 2 else if (10000 : Int) = 1000 then 3 else 4) + 1), ()) else some (IntKind.i64.wrap ((if (10000 : Int) = 100 then 2 else if (10000 : Int) = 1000 then 3 else 4) + 0), ()) := fun l h => stp l 10000 4 h rfl rfl
  by_cases hN : 256 ≤ N
  · rw [if_pos hN] at key
    rcases len8 ⟨N / 256, by omega⟩ with ⟨e, q⟩ | ⟨e, q⟩ | ⟨e, q, q'⟩ | ⟨e, q, q'⟩ | ⟨e, q, q'⟩ | ⟨e, q, q'⟩ | ⟨e, q, q'⟩ | ⟨e, q, q'⟩ | ⟨e, q⟩ <;> simp only at e q <;> rw [e] at key
    · omega
    · exact key 9 100 (by decide) (k2 9 (by decide +kernel)) (.inl ⟨rfl, by omega⟩)
    · exact key 10 1000 (by decide) (k3 10 (by decide +kernel)) (.inr (.inl rfl))
    · exact key 11 1000 (by decide) (k3 11 (by decide +kernel)) (.inr (.inl rfl))
    · exact key 12 1000 (by decide) (k3 12 (by decide +kernel)) (.inr (.inl rfl))
    · exact key 13 1000 (by decide) (k3 13 (by decide +kernel)) (.inr (.inl rfl))
    · exact key 14 10000 (by decide) (k4 14 (by decide +kernel)) (.inr (.inr ⟨rfl, by omega⟩))
    · omega
    · omega
  · rw [if_neg hN] at key
    rcases len8 ⟨N, by omega⟩ with ⟨e, q⟩ | ⟨e, q⟩ | ⟨e, q, q'⟩ | ⟨e, q, q'⟩ | ⟨e, q, q'⟩ | ⟨e, q, q'⟩ | ⟨e, q, q'⟩ | ⟨e, q, q'⟩ | ⟨e, q⟩ <;> simp only at e q <;> rw [e] at key
    all_goals first
      | omega
      | (dsimp only at q'; omega)
      | exact key 7 100 (by decide) (k2 7 (by decide +kernel)) (.inl ⟨rfl, by omega⟩)
      | exact key 8 100 (by decide) (k2 8 (by decide +kernel)) (.inl ⟨rfl, by omega⟩)
theorem two : ∀ r : Fin 100, sAt lit1 ((2 * r.val + 1 : Nat) : Int) = ((48 + r.val % 10 : Nat) : Int) ∧ sAt lit1 ((2 * r.val : Nat) : Int) = ((48 + r.val / 10 : Nat) : Int) := by decide +kernel
theorem two_a {r : Nat} (h : r < 100) : sAt lit1 ((2 * r + 1 : Nat) : Int) = ((48 + r % 10 : Nat) : Int) := (two ⟨r, h⟩).1
theorem two_b {r : Nat} (h : r < 100) : sAt lit1 ((2 * r : Nat) : Int) = ((48 + r / 10 : Nat) : Int) := (two ⟨r, h⟩).2
theorem l1len : lit1.length = 200 := by decide +kernel
theorem e69_4 (N : Nat) (h1 : 1000 ≤ N) (h2 : N ≤ 9999) : sp69 ((N : Int), 10, ()) = some (digs N 4, ()) := by
  show sh69 16 (N : Int) 10 = _
  unfold sh69
  rw [if_pos (by rfl)]
  dsimp only [joinK]
  rw [if_pos (decide_eq_true (by omega))]
  simp only [sh69_K0, joinK]
  have wu : IntKind.u64.wrap (N : Int) = (N : Int) := by rw [wrap64]; omega
  rw [if_neg (by simp; omega), if_neg (by simp), wu]
  simp only [sh69_K2, joinK]
  rw [e79 N (by omega) h2, Option.bind_some, if_neg (show ¬ N < 1000 by omega)]
  refine (if_pos (by rfl)).trans ?_
  refine (if_pos (by rfl)).trans ?_
  have w4 : IntKind.i64.wrap (1 + 4) = 5 := by decide
  simp only [w4]
  show sh69_L12 (sh69_K6 sh69_K4) _ ((N : Int), 4, (1, 4), (N : Int), 4, List.replicate 24 (0, ()), ()) = _
  simp only [sh69_L12]
  refine (if_neg (by simp)).trans ?_
  have wn : IntKind.u32.wrap (N : Int) = (N : Int) := by rw [wrap32]; omega
  have m1 : ((N : Int).tmod 10000) = (N : Int) := by rw [Int.tmod_eq_emod_of_nonneg (by omega)]; omega
  have a1 : IntKind.u32.wrap (((2 * (N % 100) : Nat) : Int) + 1) = ((2 * (N % 100) + 1 : Nat) : Int) := by rw [wrap32]; omega
  have a2 : IntKind.u32.wrap ((N : Int).tmod 100 * 2) = ((2 * (N % 100) : Nat) : Int) := by rw [Int.tmod_eq_emod_of_nonneg (by omega), wrap32]; omega
  have a3 : IntKind.u32.wrap (((2 * (N / 100) : Nat) : Int) + 1) = ((2 * (N / 100) + 1 : Nat) : Int) := by rw [wrap32]; omega
  have a4 : IntKind.u32.wrap (IntKind.u32.wrap ((N : Int).tdiv 100) * 2) = ((2 * (N / 100) : Nat) : Int) := by rw [Int.tdiv_eq_ediv_of_nonneg (by omega), wrap32, wrap32]; omega
  have i1 : inR ((2 * (N % 100) + 1 : Nat) : Int) lit1.length = true := by rw [l1len]; exact inR_nat (by omega)
  have i2 : inR ((2 * (N % 100) : Nat) : Int) lit1.length = true := by rw [l1len]; exact inR_nat (by omega)
  have i3 : inR ((2 * (N / 100) + 1 : Nat) : Int) lit1.length = true := by rw [l1len]; exact inR_nat (by omega)
  have i4 : inR ((2 * (N / 100) : Nat) : Int) lit1.length = true := by rw [l1len]; exact inR_nat (by omega)
  simp only [sh69_K6, joinK, wn, m1, a1, a2, a3, a4, i1, i2, i3, i4, two_a (show N % 100 < 100 by omega), two_b (show N % 100 < 100 by omega), two_a (show N / 100 < 100 by omega), two_b (show N / 100 < 100 by omega), List.length_set]
  generalize hA : ((48 + N % 100 % 10 : Nat) : Int) = A
  generalize hB : ((48 + N % 100 / 10 : Nat) : Int) = B
  generalize hC : ((48 + N / 100 % 10 : Nat) : Int) = C
  generalize hD : ((48 + N / 100 / 10 : Nat) : Int) = D
  iterate 17 refine (if_pos (by first | rfl | trivial)).trans ?_
  simp only [sh69_K7, joinK]
  refine (if_neg (by simp only [decide_eq_true_eq]; decide +kernel)).trans ?_
  simp only [sh69_K8]
  refine (if_neg (by simp only [decide_eq_true_eq]; decide +kernel)).trans ?_
  simp only [sh69_K4]
  refine (if_neg (by simp)).trans ?_
  refine (if_pos (by rfl)).trans ?_
  refine (if_pos (by rfl)).trans ?_
  refine (if_pos (by rfl)).trans ?_
  show some ([UInt8.ofNat D.toNat, UInt8.ofNat C.toNat, UInt8.ofNat B.toNat, UInt8.ofNat A.toNat], ()) = _
  subst hA; subst hB; subst hC; subst hD
  simp only [Int.toNat_natCast, digs, List.nil_append, List.cons_append]
  rw [show 48 + N / 100 / 10 = 48 + N / 10 / 10 / 10 % 10 by omega, show 48 + N / 100 % 10 = 48 + N / 10 / 10 % 10 by omega, show 48 + N % 100 / 10 = 48 + N / 10 % 10 by omega, show 48 + N % 100 % 10 = 48 + N % 10 by omega]
theorem e69_3 (N : Nat) (h1 : 100 ≤ N) (h2 : N ≤ 999) : sp69 ((N : Int), 10, ()) = some (digs N 3, ()) := by
  show sh69 16 (N : Int) 10 = _
  unfold sh69
  rw [if_pos (by rfl)]
  dsimp only [joinK]
  rw [if_pos (decide_eq_true (by omega))]
  simp only [sh69_K0, joinK]
  have wu : IntKind.u64.wrap (N : Int) = (N : Int) := by rw [wrap64]; omega
  rw [if_neg (by simp; omega), if_neg (by simp), wu]
  simp only [sh69_K2, joinK]
  rw [e79 N (by omega) (by omega), Option.bind_some, if_pos (show N < 1000 by omega)]
  refine (if_pos (by rfl)).trans ?_
  refine (if_pos (by rfl)).trans ?_
  have w4 : IntKind.i64.wrap (1 + 3) = 4 := by decide
  simp only [w4]
  show sh69_L12 (sh69_K6 sh69_K4) _ ((N : Int), 3, (1, 3), (N : Int), 3, List.replicate 24 (0, ()), ()) = _
  simp only [sh69_L12]
  refine (if_neg (by simp)).trans ?_
  have wn : IntKind.u32.wrap (N : Int) = (N : Int) := by rw [wrap32]; omega
  simp only [sh69_K6, joinK, wn]
  refine (if_neg (by simp)).trans ?_
  have a1 : IntKind.u32.wrap (((2 * (N % 100) : Nat) : Int) + 1) = ((2 * (N % 100) + 1 : Nat) : Int) := by rw [wrap32]; omega
  have a2 : IntKind.u32.wrap ((N : Int).tmod 100 * 2) = ((2 * (N % 100) : Nat) : Int) := by rw [Int.tmod_eq_emod_of_nonneg (by omega), wrap32]; omega
  have a3 : IntKind.u32.wrap ((N : Int).tdiv 100) = ((N / 100 : Nat) : Int) := by rw [Int.tdiv_eq_ediv_of_nonneg (by omega), wrap32]; omega
  have i1 : inR ((2 * (N % 100) + 1 : Nat) : Int) lit1.length = true := by rw [l1len]; exact inR_nat (by omega)
  have i2 : inR ((2 * (N % 100) : Nat) : Int) lit1.length = true := by rw [l1len]; exact inR_nat (by omega)
  simp only [sh69_K7, joinK, a1, a2, a3, i1, i2, two_a (show N % 100 < 100 by omega), two_b (show N % 100 < 100 by omega), List.length_set]
  generalize hA : ((48 + N % 100 % 10 : Nat) : Int) = A
  generalize hB : ((48 + N % 100 / 10 : Nat) : Int) = B
  have a5 : IntKind.u8.wrap (IntKind.u32.wrap (48 + ((N / 100 : Nat) : Int))) = ((48 + N / 100 : Nat) : Int) := by rw [wrap32, wrap8]; omega
  iterate 9 refine (if_pos (by first | rfl | trivial)).trans ?_
  simp only [sh69_K8, a5]
  generalize hC : ((48 + N / 100 : Nat) : Int) = C
  iterate 3 refine (if_pos (by first | rfl | trivial)).trans ?_
  simp only [sh69_K4]
  refine (if_neg (by simp)).trans ?_
  iterate 3 refine (if_pos (by rfl)).trans ?_
  show some ([UInt8.ofNat C.toNat, UInt8.ofNat B.toNat, UInt8.ofNat A.toNat], ()) = _
  subst hA; subst hB; subst hC
  simp only [Int.toNat_natCast, digs, List.nil_append, List.cons_append]
  rw [show 48 + N / 100 = 48 + N / 10 / 10 % 10 by omega, show 48 + N % 100 / 10 = 48 + N / 10 % 10 by omega, show 48 + N % 100 % 10 = 48 + N % 10 by omega]
def isL (o : Option (List UInt8 × Unit)) (l : List UInt8) : Bool := match o with | some (a, _) => a == l | none => false
theorem isL_eq {o : Option (List UInt8 × Unit)} {l : List UInt8} (h : isL o l = true) : o = some (l, ()) := by
  unfold isL at h
  split at h
  · rename_i a _; rw [beq_iff_eq.1 h]
  · cases h
theorem small2 : ((List.range 100).all fun k => isL (sp36 ((k : Int), 2, ())) (digs k 2)) = true := by kernel_rfl
theorem small4 : ((List.range 100).all fun k => isL (sp36 ((k : Int), 4, ())) (digs k 4)) = true := by kernel_rfl
theorem e36_2 (N : Nat) (h : N ≤ 99) : sp36 ((N : Int), 2, ()) = some (digs N 2, ()) := isL_eq (List.all_eq_true.1 small2 N (List.mem_range.2 (by omega)))
theorem e36_4 (N : Nat) (h : N ≤ 9999) : sp36 ((N : Int), 4, ()) = some (digs N 4, ()) := by
  rcases Nat.lt_or_ge N 100 with h1 | h1
  · exact isL_eq (List.all_eq_true.1 small4 N (List.mem_range.2 h1))
  have hl : (4 : Nat) ≤ Abs.lim := by decide +kernel
  rcases Nat.lt_or_ge N 1000 with h2 | h2
  · show sh36 0 (N : Int) 4 = _
    unfold sh36
    show ((sh57 0 (N : Int)).bind fun r0 => some (r0.1, ())).bind _ = _
    unfold sh57
    rw [e69_3 N h1 (by omega)]
    simp only [Option.bind_some, digs_len]
    have e1 : sp52 ([48], (if IntKind.i64.wrap (4 - ((3 : Nat) : Int)) > 0 then IntKind.i64.wrap (4 - ((3 : Nat) : Int)) else 0), ()) = some ([48], ()) := by kernel_rfl
    rw [e1, Option.bind_some, if_pos (decide_eq_true (by simpa using hl))]
    simp only [digs, List.nil_append, List.cons_append]
    rw [show 48 + N / 10 / 10 / 10 % 10 = 48 by omega]; rfl
  · show sh36 0 (N : Int) 4 = _
    unfold sh36
    show ((sh57 0 (N : Int)).bind fun r0 => some (r0.1, ())).bind _ = _
    unfold sh57
    rw [e69_4 N h2 h]
    simp only [Option.bind_some, digs_len]
    have e1 : sp52 ([48], (if IntKind.i64.wrap (4 - ((4 : Nat) : Int)) > 0 then IntKind.i64.wrap (4 - ((4 : Nat) : Int)) else 0), ()) = some ([], ()) := by kernel_rfl
    rw [e1, Option.bind_some, if_pos (decide_eq_true (by simpa using hl))]
    rfl
abbrev Fl : Type := List UInt8 × Int × List UInt8 × Int × Unit
def vB (c : List UInt8) (n : Int) (x : List UInt8) (d : Int) : Bool := carB c && (decide (1 ≤ n) && (decide (n ≤ 9999) && (sufB x && (decide (0 ≤ d) && decide (d ≤ 99)))))
theorem e12 (c : List UInt8) (n : Int) (x : List UInt8) (d : Int) : sp12 ((c, n, x, d, ()), ()) = some (vB c n x d, ()) := by
  show sh12 0 (c, n, x, d, ()) = _
  unfold sh12 vB
  simp only [joinK, sh12_K0, e30, e31s, Option.bind_some]
  cases carB c <;> cases decide (1 ≤ n) <;> cases decide (n ≤ 9999) <;> cases sufB x <;> cases decide (0 ≤ d) <;> rfl
theorem e13 (c : List UInt8) (n : Int) (x : List UInt8) (d : Int) : sp13 ((c, n, x, d, ()), ()) = some (vB c n x d, ()) := by
  show sh13 0 (c, n, x, d, ()) = _
  unfold sh13 vB
  simp only [joinK, sh13_K0, e32, e34, Option.bind_some]
  cases carB c <;> cases decide (1 ≤ n) <;> cases decide (n ≤ 9999) <;> cases sufB x <;> cases decide (0 ≤ d) <;> rfl
theorem vB_iff {c : List UInt8} {n : Int} {x : List UInt8} {d : Int} : vB c n x d = true ↔ carB c = true ∧ 1 ≤ n ∧ n ≤ 9999 ∧ sufB x = true ∧ 0 ≤ d ∧ d ≤ 99 := by simp [vB]
def dsg (c : List UInt8) (n : Int) (x : List UInt8) (d : Int) : List UInt8 := if vB c n x d = true then c ++ digs n.toNat 4 ++ x else []
def fmtF (c : List UInt8) (n : Int) (x : List UInt8) (d : Int) : List UInt8 := if vB c n x d = true then c ++ digs n.toNat 4 ++ x ++ [47] ++ digs d.toNat 2 else []
theorem car_len {c : List UInt8} (h : carB c = true) : c.length = 2 := Classical.byContradiction fun hn => by rw [carB_len hn] at h; cases h
theorem suf_len {x : List UInt8} (h : sufB x = true) : x.length ≤ 1 := by
  unfold sufB at h; rw [Bool.and_eq_true, decide_eq_true_eq] at h; exact h.1
theorem lim10 : (100 : Nat) ≤ Abs.lim := by decide +kernel
theorem e14 (c : List UInt8) (n : Int) (x : List UInt8) (d : Int) : sp14 ((c, n, x, d, ()), ()) = some (dsg c n x d, ()) := by
  show sh14 0 (c, n, x, d, ()) = _
  unfold sh14 dsg
  rw [e12, Option.bind_some]
  cases hv : vB c n x d with
  | false => rfl
  | true =>
    have h := vB_iff.1 hv
    obtain ⟨N, rfl⟩ := Int.eq_ofNat_of_zero_le (show 0 ≤ n by omega)
    have h1 := car_len h.1
    have h2 := suf_len h.2.2.2.1
    have h3 := lim10
    rw [if_neg (by decide), e36_4 N (by omega), Option.bind_some]
    simp only
    rw [if_pos (decide_eq_true (by rw [digs_len]; omega)), if_pos (decide_eq_true (by rw [List.length_append, digs_len]; omega)), if_pos trivial]
    rfl
theorem e15 (c : List UInt8) (n : Int) (x : List UInt8) (d : Int) : sp15 ((c, n, x, d, ()), ()) = some (dsg c n x d, ()) := by
  show sh15 0 (c, n, x, d, ()) = _
  unfold sh15 dsg
  rw [e13, Option.bind_some]
  cases hv : vB c n x d with
  | false => rfl
  | true =>
    have h := vB_iff.1 hv
    obtain ⟨N, rfl⟩ := Int.eq_ofNat_of_zero_le (show 0 ≤ n by omega)
    have h1 := car_len h.1
    have h2 := suf_len h.2.2.2.1
    have h3 := lim10
    rw [if_neg (by decide)]
    show ((sp37 ((N : Int), ((4 : Nat) : Int), ())).bind _) = _
    rw [e37 4 N (by omega) (by decide), Option.bind_some]
    simp only
    rw [if_pos (decide_eq_true (by rw [digs_len]; omega)), if_pos (decide_eq_true (by rw [List.length_append, digs_len]; omega)), if_pos trivial]
    rfl
theorem e16 (c : List UInt8) (n : Int) (x : List UInt8) (d : Int) : sp16 ((c, n, x, d, ()), ()) = some (fmtF c n x d, ()) := by
  show sh16 0 (c, n, x, d, ()) = _
  unfold sh16 fmtF
  rw [e12, Option.bind_some]
  cases hv : vB c n x d with
  | false => rfl
  | true =>
    have h := vB_iff.1 hv
    obtain ⟨D, rfl⟩ := Int.eq_ofNat_of_zero_le (show 0 ≤ d by omega)
    have h1 := car_len h.1
    have h2 := suf_len h.2.2.2.1
    have h3 := lim10
    rw [if_neg (by decide), e14, Option.bind_some]
    simp only [dsg, hv, if_true]
    rw [if_pos (decide_eq_true (by rw [List.length_append, List.length_append, digs_len]; simp; omega)), e36_2 D (by omega), Option.bind_some]
    simp only
    rw [if_pos (decide_eq_true (by rw [List.length_append, List.length_append, List.length_append, digs_len, digs_len]; simp; omega))]
    rfl
theorem e17 (c : List UInt8) (n : Int) (x : List UInt8) (d : Int) : sp17 ((c, n, x, d, ()), ()) = some (fmtF c n x d, ()) := by
  show sh17 0 (c, n, x, d, ()) = _
  unfold sh17 fmtF
  rw [e13, Option.bind_some]
  cases hv : vB c n x d with
  | false => rfl
  | true =>
    have h := vB_iff.1 hv
    obtain ⟨D, rfl⟩ := Int.eq_ofNat_of_zero_le (show 0 ≤ d by omega)
    have h1 := car_len h.1
    have h2 := suf_len h.2.2.2.1
    have h3 := lim10
    rw [if_neg (by decide), e15, Option.bind_some]
    simp only [dsg, hv, if_true]
    rw [if_pos (decide_eq_true (by rw [List.length_append, List.length_append, digs_len]; simp; omega))]
    show ((sp37 ((D : Int), ((2 : Nat) : Int), ())).bind _) = _
    rw [e37 2 D (by omega) (by decide), Option.bind_some]
    simp only
    rw [if_pos (decide_eq_true (by rw [List.length_append, List.length_append, List.length_append, digs_len, digs_len]; simp; omega))]
    rfl
def okF (s : List UInt8) (n : Nat) : Bool := carB (cutL s 0 2) && (digL (cutL s 2 6) && (digL (cutL s ((n - 2 : Nat) : Int) (n : Int)) && ((sAt s ((n - 3 : Nat) : Int) == 47) && sufB (cutL s 6 ((n - 3 : Nat) : Int)))))
/-- What Parse answers. -/
def prsF (s : List UInt8) : Fl × Int × Unit := if (s.length = 9 ∨ s.length = 10) ∧ okF s s.length = true then
    (if valL (cutL s 2 6) = 0 then (([], 0, [], 0, ()), 1, ()) else ((cutL s 0 2, (valL (cutL s 2 6) : Int), cutL s 6 ((s.length - 3 : Nat) : Int), (valL (cutL s ((s.length - 2 : Nat) : Int) (s.length : Int)) : Int), ()), 0, ())) else (([], 0, [], 0, ()), 3, ())
theorem cutL_len (s : List UInt8) (a b : Nat) (h1 : a ≤ b) (h2 : b ≤ s.length) : (cutL s (a : Int) (b : Int)).length = b - a := by
  simp only [cutL, Int.toNat_natCast, List.length_take, List.length_drop]; omega
theorem dgs_len {s : List UInt8} {m : Nat} (h : s.length = m) (hm : 1 ≤ m) : dgs s (m : Int) = if digL s = true then ((valL s : Int), true, ()) else (0, false, ()) := by
  unfold dgs
  by_cases hd : digL s = true
  · rw [if_pos ⟨by omega, by omega, hd⟩, if_pos hd]
  · rw [if_neg fun h => hd h.2.2, if_neg hd]
theorem e10 (s : List UInt8) : sp10 (s, ()) = some (prsF s, ()) := by
  show sh10 0 s = _
  unfold sh10
  simp only [joinK]
  by_cases hl : s.length = 9 ∨ s.length = 10
  case neg =>
    rw [if_pos (by simp; omega)]
    have : ((s.length : Int) != 10) = true := by simp; omega
    rw [this]
    unfold prsF
    rw [if_neg fun h => hl h.1]
    rfl
  have hgo : sh10_K0 (s, false, ([], 0, [], 0, ()), ()) = some (prsF s, ()) := by
    have h3 : IntKind.i64.wrap ((s.length : Int) - 3) = ((s.length - 3 : Nat) : Int) := by rw [wrapI (by omega) (by omega)]; omega
    have h2 : IntKind.i64.wrap (((s.length - 3 : Nat) : Int) + 1) = ((s.length - 2 : Nat) : Int) := by rw [wrapI (by omega) (by omega)]; omega
    have lA : (cutL s 2 6).length = 4 := cutL_len s 2 6 (by decide) (by omega)
    have lB : (cutL s ((s.length - 2 : Nat) : Int) (s.length : Int)).length = 2 := by rw [cutL_len s _ _ (by omega) (by omega)]; omega
    have q0 : inCut 2 6 s.length = true := inCut_nat (a := 2) (b := 6) (by decide) (by omega)
    have q1 : inCut 0 2 s.length = true := inCut_nat (a := 0) (b := 2) (by decide) (by omega)
    have q2 : inCut 6 ((s.length - 3 : Nat) : Int) s.length = true := inCut_nat (a := 6) (by omega) (by omega)
    have q3 : inCut ((s.length - 2 : Nat) : Int) (s.length : Int) s.length = true := inCut_nat (by omega) (by omega)
    have qr : inR ((s.length - 3 : Nat) : Int) s.length = true := inR_nat (by omega)
    simp only [sh10_K0, joinK]
    rw [if_neg (by decide), if_pos q0, e29 _ _ (by omega), Option.bind_some, h3, h2, if_pos q3, e29 _ _ (by omega), Option.bind_some, if_pos q1, e30, Option.bind_some, if_pos qr, if_pos q2, e31s, Option.bind_some]
    rw [show dgs (cutL s 2 6) 4 = _ from dgs_len lA (by decide), show dgs (cutL s ((s.length - 2 : Nat) : Int) (s.length : Int)) 2 = _ from dgs_len lB (by decide)]
    have hp : prsF s = if okF s s.length = true then (if valL (cutL s 2 6) = 0 then (([], 0, [], 0, ()), 1, ()) else ((cutL s 0 2, (valL (cutL s 2 6) : Int), cutL s 6 ((s.length - 3 : Nat) : Int), (valL (cutL s ((s.length - 2 : Nat) : Int) (s.length : Int)) : Int), ()), 0, ())) else (([], 0, [], 0, ()), 3, ()) := by
      unfold prsF
      by_cases ho : okF s s.length = true
      · rw [if_pos ⟨hl, ho⟩, if_pos ho]
      · rw [if_neg fun h => ho h.2, if_neg ho]
    rw [hp]
    unfold okF
    have fin : sh10_K3 (s, ((s.length - 3 : Nat) : Int), (valL (cutL s 2 6) : Int), (valL (cutL s ((s.length - 2 : Nat) : Int) (s.length : Int)) : Int), false, ([], 0, [], 0, ()), ()) = some ((if valL (cutL s 2 6) = 0 then (([], 0, [], 0, ()), 1, ()) else ((cutL s 0 2, (valL (cutL s 2 6) : Int), cutL s 6 ((s.length - 3 : Nat) : Int), (valL (cutL s ((s.length - 2 : Nat) : Int) (s.length : Int)) : Int), ()), 0, ())), ()) := by
      simp only [sh10_K3]
      rw [if_neg (by decide), if_pos q1, if_pos q2]
      by_cases h0 : valL (cutL s 2 6) = 0
      · rw [if_pos (by simp [h0]), if_pos h0]
      · rw [if_neg (by simp [h0]), if_neg h0]
    have bad : ∀ (a b c : Int), sh10_K3 (s, a, b, c, true, ([], 0, [], 0, ()), ()) = some ((([], 0, [], 0, ()), 3, ()), ()) := fun _ _ _ => rfl
    cases carB (cutL s 0 2) <;> cases digL (cutL s 2 6) <;> cases digL (cutL s ((s.length - 2 : Nat) : Int) (s.length : Int)) <;> cases h7 : (sAt s ((s.length - 3 : Nat) : Int) == 47) <;> cases sufB (cutL s 6 ((s.length - 3 : Nat) : Int)) <;>
      simp only [bne, h7, Bool.not_true, Bool.not_false, Bool.false_eq_true, if_true, if_false, Bool.and_true, Bool.and_false, bad, fin]
  by_cases h9 : s.length = 9
  · rw [if_neg (by simp; omega)]; exact hgo
  · rw [if_pos (by simp; omega)]
    have : ((s.length : Int) != 10) = false := by simp; omega
    rw [this]; exact hgo
theorem e11 (s : List UInt8) : sp11 (s, ()) = some (prsF s, ()) := by
  show sh11 0 s = _
  unfold sh11
  simp only [joinK]
  have bad : sh11_K0 (s, (s.length : Int), true, ([], 0, [], 0, ()), ()) = some ((([], 0, [], 0, ()), 3, ()), ()) := rfl
  by_cases hl : s.length = 9 ∨ s.length = 10
  case neg =>
    rw [if_pos (by simp; omega), if_pos (by simp; omega), bad]
    unfold prsF
    rw [if_neg fun h => hl h.1]
  have h3 : IntKind.i64.wrap ((s.length : Int) - 3) = ((s.length - 3 : Nat) : Int) := by rw [wrapI (by omega) (by omega)]; omega
  have h2 : IntKind.i64.wrap ((s.length : Int) - 2) = ((s.length - 2 : Nat) : Int) := by rw [wrapI (by omega) (by omega)]; omega
  have lA : (cutL s 2 6).length = 4 := cutL_len s 2 6 (by decide) (by omega)
  have lB : (cutL s ((s.length - 2 : Nat) : Int) (s.length : Int)).length = 2 := by rw [cutL_len s _ _ (by omega) (by omega)]; omega
  have q0 : inCut 2 6 s.length = true := inCut_nat (a := 2) (b := 6) (by decide) (by omega)
  have q1 : inCut 0 2 s.length = true := inCut_nat (a := 0) (b := 2) (by decide) (by omega)
  have q2 : inCut 6 ((s.length - 3 : Nat) : Int) s.length = true := inCut_nat (a := 6) (by omega) (by omega)
  have q3 : inCut ((s.length - 2 : Nat) : Int) (s.length : Int) s.length = true := inCut_nat (by omega) (by omega)
  have qr : inR ((s.length - 3 : Nat) : Int) s.length = true := inR_nat (by omega)
  have hp : prsF s = if okF s s.length = true then (if valL (cutL s 2 6) = 0 then (([], 0, [], 0, ()), 1, ()) else ((cutL s 0 2, (valL (cutL s 2 6) : Int), cutL s 6 ((s.length - 3 : Nat) : Int), (valL (cutL s ((s.length - 2 : Nat) : Int) (s.length : Int)) : Int), ()), 0, ())) else (([], 0, [], 0, ()), 3, ()) := by
    unfold prsF
    by_cases ho : okF s s.length = true
    · rw [if_pos ⟨hl, ho⟩, if_pos ho]
    · rw [if_neg fun h => ho h.2, if_neg ho]
  have fin : sh11_K0 (s, (s.length : Int), false, ([], 0, [], 0, ()), ()) = some ((if valL (cutL s 2 6) = 0 then (([], 0, [], 0, ()), 1, ()) else ((cutL s 0 2, (valL (cutL s 2 6) : Int), cutL s 6 ((s.length - 3 : Nat) : Int), (valL (cutL s ((s.length - 2 : Nat) : Int) (s.length : Int)) : Int), ()), 0, ())), ()) := by
    simp only [sh11_K0]
    rw [if_neg (by decide), if_pos q1, if_pos q0, e35 _ (by omega), Option.bind_some, h3, h2, if_pos q2, if_pos q3, e35 _ (by omega), Option.bind_some]
    by_cases h0 : valL (cutL s 2 6) = 0
    · rw [if_pos (by simp [h0]), if_pos h0]
    · rw [if_neg (by simp [h0]), if_neg h0]
  have fin2 : (if inR (IntKind.i64.wrap ((s.length : Int) - 3)) s.length = true then
        if (sAt s (IntKind.i64.wrap ((s.length : Int) - 3)) != 47) = true then sh11_K0 (s, (s.length : Int), true, ([], 0, [], 0, ()), ())
        else
          if inCut 0 2 s.length = true then
            (sp32 (cutL s 0 2, ())).bind fun (r8 : Bool × Unit) =>
              if (!r8.1) = true then sh11_K0 (s, (s.length : Int), true, ([], 0, [], 0, ()), ())
              else
                if inCut 2 6 s.length = true then
                  (sp33 (cutL s 2 6, ())).bind fun (r9 : Bool × Unit) =>
                    if (!r9.1) = true then sh11_K0 (s, (s.length : Int), true, ([], 0, [], 0, ()), ())
                    else
                      if inCut 6 (IntKind.i64.wrap ((s.length : Int) - 3)) s.length = true then
                        (sp34 (cutL s 6 (IntKind.i64.wrap ((s.length : Int) - 3)), ())).bind fun (r10 : Bool × Unit) =>
                          if (!r10.1) = true then sh11_K0 (s, (s.length : Int), true, ([], 0, [], 0, ()), ())
                          else
                            if inCut (IntKind.i64.wrap ((s.length : Int) - 2)) (s.length : Int) s.length = true then
                              (sp33 (cutL s (IntKind.i64.wrap ((s.length : Int) - 2)) (s.length : Int), ())).bind fun (r11 : Bool × Unit) =>
                                sh11_K0 (s, (s.length : Int), !r11.1, ([], 0, [], 0, ()), ())
                            else none
                      else none
                else none
          else none
      else none) = some (prsF s, ()) := by
    rw [h3, h2, if_pos qr, if_pos q1, e32, Option.bind_some, if_pos q0, e33 _ (by omega), Option.bind_some, if_pos q2, e34, Option.bind_some, if_pos q3, e33 _ (by omega), Option.bind_some, hp]
    unfold okF
    cases carB (cutL s 0 2) <;> cases digL (cutL s 2 6) <;> cases digL (cutL s ((s.length - 2 : Nat) : Int) (s.length : Int)) <;> cases h7 : (sAt s ((s.length - 3 : Nat) : Int) == 47) <;> cases sufB (cutL s 6 ((s.length - 3 : Nat) : Int)) <;>
      simp only [bne, h7, Bool.not_true, Bool.not_false, Bool.false_eq_true, if_true, if_false, Bool.and_true, Bool.and_false, bad, fin]
  by_cases h9 : s.length = 9
  · rw [if_neg (by simp; omega)]; exact fin2
  · rw [if_pos (by simp; omega), if_neg (by simp; omega)]; exact fin2
theorem e9 : sp9 () = some (true, ()) := by kernel_rfl
theorem law3 (x : List UInt8 × Fl × Unit) : sp3 x = some (true, ()) := by
  obtain ⟨s, ⟨c, n, y, d, _⟩, _⟩ := x
  show sh3 0 s (c, n, y, d, ()) = _
  unfold sh3
  split
  · rw [e9]; rfl
  · rw [e10, e11, Option.bind_some, Option.bind_some]
    simp only [joinK, e12, e13, e14, e15, e16, e17, Option.bind_some, e9, sh3_K3, beq_self_eq_true, Bool.and_self, if_true]
abbrev Sr : Type := List (Int × Unit) × Int × Unit
def SrOk (s : Sr) : Prop := s.1.length ≤ 2000 ∧ 0 ≤ s.2.1 ∧ s.2.1 ≤ 2000
theorem e40 {s : Sr} (h : SrOk s) : ∃ v s', sp40 (s, ()) = some (v, s', ()) ∧ SrOk s' := by
  obtain ⟨l, a, _⟩ := s
  obtain ⟨h1, h2, h3⟩ := h
  simp only at h1 h2 h3
  show ∃ v s', sh40 0 (l, a, ()) = some (v, s', ()) ∧ SrOk s'
  unfold sh40
  by_cases hc : (l.length : Int) ≤ a
  · rw [if_pos (by simpa using hc)]; exact ⟨_, _, rfl, h1, h2, h3⟩
  · have w1 : IntKind.i64.wrap (a + 1) = a + 1 := wrapI (by omega) (by omega)
    have w2 : IntKind.i64.wrap (a + 1 - 1) = a := by rw [wrapI (by omega) (by omega)]; omega
    rw [if_neg (by simpa using hc)]
    simp only [w1, w2]
    rw [if_pos (by simp [inR]; omega)]
    exact ⟨_, _, rfl, h1, by simp only; omega, by simp only; omega⟩
theorem e20 (x n : Int) (h1 : 1 ≤ n) (h2 : n ≤ 1000000) : ∃ v, sp20 (x, n, ()) = some (v, ()) ∧ 0 ≤ v ∧ v < n := by
  show ∃ v, sh20 0 x n = some (v, ()) ∧ _
  unfold sh20
  rw [if_neg (by simp; omega), if_pos (by simp; omega)]
  simp only [joinK, sh20_K0]
  have b1 : x.tmod n < n := Int.tmod_lt_of_pos x (by omega)
  have b2 : -n < x.tmod n := by have := Int.lt_tmod_of_pos x (show 0 < n by omega); omega
  by_cases hc : x.tmod n < 0
  · rw [if_pos (by simpa using hc)]; exact ⟨_, rfl, by rw [wrapI (by omega) (by omega)]; omega, by rw [wrapI (by omega) (by omega)]; omega⟩
  · rw [if_neg (by simpa using hc)]; exact ⟨_, rfl, by omega, b1⟩
theorem e22 {s : Sr} (h : SrOk s) (n : Int) (h1 : 1 ≤ n) (h2 : n ≤ 1000000) : ∃ v s', sp22 (s, n, ()) = some (v, s', ()) ∧ 0 ≤ v ∧ v < n ∧ SrOk s' := by
  obtain ⟨r, s', hr, hs⟩ := e40 h
  obtain ⟨v, hv, k1, k2⟩ := e20 r n h1 h2
  refine ⟨v, s', ?_, k1, k2, hs⟩
  show sh22 0 s n = _
  unfold sh22
  rw [show sp40 ((s.1, s.2.1, ()), ()) = _ from hr, Option.bind_some]
  simp only
  rw [hv]; rfl
theorem lAt_mem {α : Type} (d : α) (l : List α) (k : Int) (h0 : 0 ≤ k) (h1 : k < l.length) : lAt d l k ∈ l := by
  have hk : k.toNat < l.length := by omega
  show l.getD k.toNat d ∈ l
  rw [List.getD, List.getElem?_eq_getElem hk]
  exact List.getElem_mem hk
theorem e18 (l : List (Int × Unit)) : ∃ s, sp18 (l, ()) = some (s, ()) ∧ SrOk s := by
  show ∃ s, sh18 0 l = some (s, ()) ∧ _
  unfold sh18
  simp only [joinK, sh18_K0]
  by_cases h : (2000 : Int) < (l.length : Int)
  · have hc : inCut 0 2000 l.length = true := inCut_nat (a := 0) (b := 2000) (by decide) (by omega)
    rw [if_pos (by simpa using h), if_pos hc]
    refine ⟨_, rfl, ?_, Int.le_refl 0, show (0 : Int) ≤ 2000 by decide⟩
    show (cutL l 0 2000).length ≤ 2000
    simp only [cutL, List.length_take]; exact Nat.min_le_left _ _
  · rw [if_neg (by simpa using h)]
    exact ⟨_, rfl, by show l.length ≤ 2000; omega, Int.le_refl 0, show (0 : Int) ≤ 2000 by decide⟩
theorem e38 {s : Sr} (h : SrOk s) (t : List (List UInt8 × Unit)) (h1 : 1 ≤ t.length) (h2 : t.length ≤ 1000) : ∃ v s', sp38 (s, t, ()) = some (v, s', ()) ∧ (v, ()) ∈ t ∧ SrOk s' := by
  obtain ⟨v, s', hv, k1, k2, hs⟩ := e22 h (t.length : Int) (by omega) (by omega)
  refine ⟨(lAt ([], ()) t v).1, s', ?_, lAt_mem ([], ()) t v k1 k2, hs⟩
  show sh38 0 s t = _
  unfold sh38
  rw [show sp22 ((s.1, s.2.1, ()), (t.length : Int), ()) = _ from hv, Option.bind_some]
  simp only
  rw [if_pos (by simp [inR]; omega)]
theorem e39 {s : Sr} (h : SrOk s) (t : List (Int × Unit)) (h1 : 1 ≤ t.length) (h2 : t.length ≤ 1000) : ∃ v s', sp39 (s, t, ()) = some (v, s', ()) ∧ (v, ()) ∈ t ∧ SrOk s' := by
  obtain ⟨v, s', hv, k1, k2, hs⟩ := e22 h (t.length : Int) (by omega) (by omega)
  refine ⟨(lAt (0, ()) t v).1, s', ?_, lAt_mem (0, ()) t v k1 k2, hs⟩
  show sh39 0 s t = _
  unfold sh39
  rw [show sp22 ((s.1, s.2.1, ()), (t.length : Int), ()) = _ from hv, Option.bind_some]
  simp only
  rw [if_pos (by simp [inR]; omega)]
theorem mem3 {α : Type} {v a b c : α} (h : (v, ()) ∈ [(a, ()), (b, ()), (c, ())]) : v = a ∨ v = b ∨ v = c := by simpa using h
theorem mem4 {α : Type} {v a b c d : α} (h : (v, ()) ∈ [(a, ()), (b, ()), (c, ()), (d, ())]) : v = a ∨ v = b ∨ v = c ∨ v = d := by simpa using h
theorem e19 {s : Sr} (h : SrOk s) : ∃ c n x d s', sp19 (s, ()) = some ((c, n, x, d, ()), s', ()) ∧ vB c n x d = true ∧ (∀ d', vB c n x d' = (decide (0 ≤ d') && decide (d' ≤ 99))) ∧ SrOk s' := by
  obtain ⟨c, s1, hc, mc, h1⟩ := e38 h [([83, 75], ()), ([65, 89], ()), ([52, 85], ())] (by decide) (by decide)
  obtain ⟨n, s2, hn, mn, h2⟩ := e39 h1 [(1, ()), (123, ()), (9999, ())] (by decide) (by decide)
  obtain ⟨x, s3, hx, mx, h3⟩ := e38 h2 [([], ()), ([], ()), ([65], ())] (by decide) (by decide)
  obtain ⟨d, s4, hd, md, h4⟩ := e39 h3 [(7, ()), (8, ()), (0, ()), (99, ())] (by decide) (by decide)
  have hcB : carB c = true := by rcases mem3 mc with rfl | rfl | rfl <;> decide
  have hnB : 1 ≤ n ∧ n ≤ 9999 := by rcases mem3 mn with rfl | rfl | rfl <;> decide
  have hxB : sufB x = true := by rcases mem3 mx with rfl | rfl | rfl <;> decide
  have hdB : 0 ≤ d ∧ d ≤ 99 := by rcases mem4 md with rfl | rfl | rfl | rfl <;> decide
  refine ⟨c, n, x, d, s4, ?_, vB_iff.2 ⟨hcB, hnB.1, hnB.2, hxB, hdB.1, hdB.2⟩, fun d' => ?_, h4⟩
  · show sh19 0 s = _
    unfold sh19
    rw [show sp38 ((s.1, s.2.1, ()), _, ()) = _ from hc, Option.bind_some]
    rw [show sp39 ((s1.1, s1.2.1, ()), _, ()) = _ from hn, Option.bind_some]
    rw [show sp38 ((s2.1, s2.2.1, ()), _, ()) = _ from hx, Option.bind_some]
    rw [show sp39 ((s3.1, s3.2.1, ()), _, ()) = _ from hd, Option.bind_some]
  · simp [vB, hcB, hnB.1, hnB.2, hxB]
theorem fmt_val {c : List UInt8} {n : Int} {x : List UInt8} {d : Int} (h : vB c n x d = true) : fmtF c n x d = c ++ digs n.toNat 4 ++ x ++ [47] ++ digs d.toNat 2 := by
  unfold fmtF; rw [if_pos h]
theorem fmt_len {c : List UInt8} {n : Int} {x : List UInt8} {d : Int} (h : vB c n x d = true) : (fmtF c n x d).length = 9 ∨ (fmtF c n x d).length = 10 := by
  have hv := vB_iff.1 h
  have h1 := car_len hv.1
  have h2 := suf_len hv.2.2.2.1
  rw [fmt_val h]
  simp only [List.length_append, digs_len, List.length_cons, List.length_nil]; omega
theorem len4 {s : List UInt8} (h : s.length = 4) : ∃ a b c d, s = [a, b, c, d] := by
  match s, h with
  | [a, b, c, d], _ => exact ⟨a, b, c, d, rfl⟩
theorem prs_fmt {c : List UInt8} {n : Int} {x : List UInt8} {d : Int} (h : vB c n x d = true) : prsF (fmtF c n x d) = ((c, n, x, d, ()), 0, ()) := by
  have hv := vB_iff.1 h
  obtain ⟨N, rfl⟩ := Int.eq_ofNat_of_zero_le (show 0 ≤ n by omega)
  obtain ⟨D, rfl⟩ := Int.eq_ofNat_of_zero_le (show 0 ≤ d by omega)
  rw [fmt_val h, Int.toNat_natCast, Int.toNat_natCast]
  have d1 := digs_digL 4 N
  have d2 := digs_digL 2 D
  have v1 := valL_digs 4 N
  have v2 := valL_digs 2 D
  rw [Nat.mod_eq_of_lt (by omega)] at v1 v2
  obtain ⟨p, q, r, t, e1⟩ := len4 (digs_len 4 N)
  obtain ⟨u, v, e2⟩ := len2 (digs_len 2 D)
  obtain ⟨a, b, rfl⟩ := len2 (car_len hv.1)
  rw [e1] at d1 v1 ⊢
  rw [e2] at d2 v2 ⊢
  have hN : valL [p, q, r, t] ≠ 0 := by omega
  have k1 := hv.1
  have k2 := hv.2.2.2.1
  match x, suf_len k2 with
  | [], _ =>
    have ok : okF [a, b, p, q, r, t, 47, u, v] 9 = true := by
      show (carB [a, b] && (digL [p, q, r, t] && (digL [u, v] && (((47 : Int) == 47) && sufB [])))) = true
      rw [k1, d1, d2, k2]; rfl
    show prsF [a, b, p, q, r, t, 47, u, v] = _
    unfold prsF
    rw [if_pos ⟨.inl rfl, ok⟩]
    show (if valL [p, q, r, t] = 0 then _ else (([a, b], (valL [p, q, r, t] : Int), ([] : List UInt8), (valL [u, v] : Int), ()), (0 : Int), ())) = _
    rw [if_neg hN, v1, v2]
  | [w], _ =>
    have ok : okF [a, b, p, q, r, t, w, 47, u, v] 10 = true := by
      show (carB [a, b] && (digL [p, q, r, t] && (digL [u, v] && (((47 : Int) == 47) && sufB [w])))) = true
      rw [k1, d1, d2, k2]; rfl
    show prsF [a, b, p, q, r, t, w, 47, u, v] = _
    unfold prsF
    rw [if_pos ⟨.inr rfl, ok⟩]
    show (if valL [p, q, r, t] = 0 then _ else (([a, b], (valL [p, q, r, t] : Int), ([w] : List UInt8), (valL [u, v] : Int), ()), (0 : Int), ())) = _
    rw [if_neg hN, v1, v2]
theorem len9 {s : List UInt8} (h : s.length = 9) : ∃ a b p q r t w u v, s = [a, b, p, q, r, t, w, u, v] := by
  match s, h with
  | [a, b, p, q, r, t, w, u, v], _ => exact ⟨a, b, p, q, r, t, w, u, v, rfl⟩
theorem len10 {s : List UInt8} (h : s.length = 10) : ∃ a b p q r t w z u v, s = [a, b, p, q, r, t, w, z, u, v] := by
  match s, h with
  | [a, b, p, q, r, t, w, z, u, v], _ => exact ⟨a, b, p, q, r, t, w, z, u, v, rfl⟩
theorem byte_eq {w : UInt8} (h : (((w.toNat : Int)) == 47) = true) : w = 47 := by
  have := beq_iff_eq.1 h
  apply UInt8.toNat_inj.1
  show w.toNat = 47
  omega
theorem fmt_prs {s : List UInt8} {c : List UInt8} {n : Int} {x : List UInt8} {d e : Int} (h : prsF s = ((c, n, x, d, ()), e, ())) (he : e = 0) : fmtF c n x d = s := by
  subst he
  unfold prsF at h
  by_cases hc : (s.length = 9 ∨ s.length = 10) ∧ okF s s.length = true
  case neg => rw [if_neg hc] at h; simp at h
  rw [if_pos hc] at h
  by_cases h0 : valL (cutL s 2 6) = 0
  case pos => rw [if_pos h0] at h; simp at h
  rw [if_neg h0] at h
  obtain ⟨hl, ho⟩ := hc
  simp only [Prod.mk.injEq, and_true] at h
  obtain ⟨rfl, rfl, rfl, rfl⟩ := h
  rcases hl with hl | hl
  · obtain ⟨a, b, p, q, r, t, w, u, v, rfl⟩ := len9 hl
    have ok : (carB [a, b] && (digL [p, q, r, t] && (digL [u, v] && (((w.toNat : Int) == 47) && sufB [])))) = true := ho
    simp only [Bool.and_eq_true] at ok
    obtain ⟨k1, d1, d2, k3, k2⟩ := ok
    obtain ⟨b1, g1⟩ := valL_bd 4 [p, q, r, t] rfl d1
    obtain ⟨b2, g2⟩ := valL_bd 2 [u, v] rfl d2
    have hn0 : valL [p, q, r, t] ≠ 0 := h0
    show fmtF [a, b] (valL [p, q, r, t] : Int) [] (valL [u, v] : Int) = _
    rw [fmt_val (vB_iff.2 ⟨k1, by omega, by omega, k2, by omega, by omega⟩), Int.toNat_natCast, Int.toNat_natCast, g1, g2, byte_eq k3]; rfl
  · obtain ⟨a, b, p, q, r, t, z, w, u, v, rfl⟩ := len10 hl
    have ok : (carB [a, b] && (digL [p, q, r, t] && (digL [u, v] && (((w.toNat : Int) == 47) && sufB [z])))) = true := ho
    simp only [Bool.and_eq_true] at ok
    obtain ⟨k1, d1, d2, k3, k2⟩ := ok
    obtain ⟨b1, g1⟩ := valL_bd 4 [p, q, r, t] rfl d1
    obtain ⟨b2, g2⟩ := valL_bd 2 [u, v] rfl d2
    have hn0 : valL [p, q, r, t] ≠ 0 := h0
    show fmtF [a, b] (valL [p, q, r, t] : Int) [z] (valL [u, v] : Int) = _
    rw [fmt_val (vB_iff.2 ⟨k1, by omega, by omega, k2, by omega, by omega⟩), Int.toNat_natCast, Int.toNat_natCast, g1, g2, byte_eq k3]; rfl
theorem law5 (x : List (Int × Unit) × List UInt8 × Unit) : sp5 x = some (true, ()) := by
  obtain ⟨l, s, _⟩ := x
  obtain ⟨r, hr, hok⟩ := e18 l
  obtain ⟨c, n, y, d, r', h19, hv, _, _⟩ := e19 hok
  show sh5 0 l s = _
  unfold sh5
  rw [hr, Option.bind_some, show sp19 ((r.1, r.2.1, ()), ()) = _ from h19, Option.bind_some]
  simp only
  rw [e16, Option.bind_some]
  simp only
  rw [e10, Option.bind_some, prs_fmt hv]
  simp only [joinK, beq_self_eq_true, Bool.and_self, bne_self_eq_false, Bool.not_true, Bool.false_eq_true, if_false, e12, Option.bind_some, hv, sh5_K4, e10]
  cases hp : prsF s with
  | mk f e =>
    obtain ⟨c', n', x', d', _⟩ := f
    obtain ⟨e, _⟩ := e
    simp only
    by_cases he : e = 0
    · subst he
      rw [if_neg (by decide), e16, Option.bind_some, fmt_prs hp rfl]
      simp only [beq_self_eq_true, if_true, e9, Option.bind_some, sh5_K6]
    · rw [if_pos (by simpa using he), e9]; rfl
theorem near4 (a b c : List UInt8) : iter 16 (sh4_L9 sh4_K5) (([(a, ()), (b, ()), (c, ())].length : Int), 0, [(a, ()), (b, ()), (c, ())], ()) = some (true, ()) := by
  refine iter_count (F := sh4_L9 sh4_K5) (fun k => ((3 : Int), (k : Int), [(a, ()), (b, ()), (c, ())], ())) 3 16 (by decide) (fun rc k hk => ?_) (fun rc => ?_)
  · simp only [sh4_L9, joinK]
    rw [if_pos (decide_eq_true (by omega)), if_pos (show inR (k : Int) [(a, ()), (b, ()), (c, ())].length = true from inR_nat hk), if_pos (decide_eq_true (show (k : Int).toNat + 1 ≤ [(a, ()), (b, ()), (c, ())].length from (show (k : Int).toNat + 1 ≤ 3 by omega))), e10, Option.bind_some, e11, Option.bind_some]
    simp only [beq_self_eq_true, Bool.and_self, Bool.not_true, bne_self_eq_false, Bool.false_eq_true, if_false, sh4_K12]
    rw [up1 hk (by decide)]
  · simp only [sh4_L9]
    rw [if_neg (by simp)]
    simp only [sh4_K5, e9, Option.bind_some]
theorem law4 (x : List (Int × Unit) × Int × Int × List UInt8 × Unit) : sp4 x = some (true, ()) := by
  obtain ⟨l, at', by', tl, _⟩ := x
  obtain ⟨r, hr, hok⟩ := e18 l
  obtain ⟨c, n, y, d, r', h19, hv, _, _⟩ := e19 hok
  show sh4 16 l at' by' tl = _
  unfold sh4
  by_cases ht : (20 : Int) < (tl.length : Int)
  · rw [if_pos (by simpa using ht), e9]; rfl
  rw [if_neg (by simpa using ht), hr, Option.bind_some, show sp19 ((r.1, r.2.1, ()), ()) = _ from h19, Option.bind_some]
  simp only
  rw [e17, Option.bind_some]
  have hlen := fmt_len hv
  have hlim := lim10
  generalize fmtF c n y d = s at hlen
  have hb : (ofBytes s).length = s.length := List.length_map ..
  simp only [joinK, hb]
  obtain ⟨k, hk, k1, k2⟩ := e20 at' (s.length : Int) (by omega) (by omega)
  rw [if_pos (decide_eq_true (by omega)), if_neg (show ¬ ((((s.length : Int)) == 0) = true) by rw [beq_iff_eq]; omega), hk, Option.bind_some]
  simp only
  have q1 : inR k s.length = true := by simp [inR]; omega
  rw [if_pos q1, if_pos (decide_eq_true (by omega)), if_pos q1, if_pos (decide_eq_true (by omega)), if_pos (decide_eq_true (by omega)), Option.bind_some]
  simp only
  rw [if_pos (by simp [inCut]; omega)]
  exact near4 _ _ _
def clsB (s : List UInt8) : Bool := s == [70] || (s == [67] || s == [89])
def legB (c : List UInt8) (n : Int) (x : List UInt8) (d : Int) (p k : List UInt8) : Bool := vB c n x d && (portB p && clsB k)
theorem e42 (s : List UInt8) : sp42 (s, ()) = some (clsB s, ()) := by
  show sh42 0 s = _
  unfold sh42 clsB
  simp only [joinK, sh42_K0]
  cases s == [70] <;> cases s == [67] <;> rfl
theorem e25 (c : List UInt8) (n : Int) (x : List UInt8) (d : Int) (p k : List UInt8) : sp25 ((c, n, x, d, p, k, ()), ()) = some (legB c n x d p k, ()) := by
  show sh25 0 (c, n, x, d, p, k, ()) = _
  unfold sh25 legB clsB
  simp only [joinK, sh25_K0, e12, e23, Option.bind_some]
  cases vB c n x d <;> cases portB p <;> cases k == [70] <;> cases k == [67] <;> rfl
theorem e26 (c : List UInt8) (n : Int) (x : List UInt8) (d : Int) (p k : List UInt8) : sp26 ((c, n, x, d, p, k, ()), ()) = some (legB c n x d p k, ()) := by
  show sh26 0 (c, n, x, d, p, k, ()) = _
  unfold sh26 legB
  simp only [joinK, sh26_K0, e13, e24, e42, Option.bind_some]
  cases vB c n x d <;> cases portB p <;> cases clsB k <;> rfl
theorem e21 {s : Sr} (h : SrOk s) : ∃ c n x d p k s', sp21 (s, ()) = some ((c, n, x, d, p, k, ()), s', ()) ∧ legB c n x d p k = true ∧ SrOk s' := by
  obtain ⟨c, n, x, d, s1, h1, hv, _, k1⟩ := e19 h
  obtain ⟨p, s2, h2, mp, k2⟩ := e38 k1 [([67, 80, 72], ()), ([65, 82, 78], ()), ([79, 83, 76], ())] (by decide) (by decide)
  obtain ⟨k, s3, h3, mk, k3⟩ := e38 k2 [([89], ()), ([67], ()), ([70], ())] (by decide) (by decide)
  have hp : portB p = true := by rcases mem3 mp with rfl | rfl | rfl <;> decide
  have hk : clsB k = true := by rcases mem3 mk with rfl | rfl | rfl <;> decide
  refine ⟨c, n, x, d, p, k, s3, ?_, by unfold legB; rw [hv, hp, hk]; rfl, k3⟩
  show sh21 0 s = _
  unfold sh21
  rw [show sp19 ((s.1, s.2.1, ()), ()) = _ from h1, Option.bind_some]
  rw [show sp38 ((s1.1, s1.2.1, ()), _, ()) = _ from h2, Option.bind_some]
  rw [show sp38 ((s2.1, s2.2.1, ()), _, ()) = _ from h3, Option.bind_some]
theorem law6 (x : List UInt8 × (List UInt8 × Int × List UInt8 × Int × List UInt8 × List UInt8 × Unit) × List (Int × Unit) × List UInt8 × Unit) : sp6 x = some (true, ()) := by
  obtain ⟨p, ⟨gc, gn, gx, gd, gp, gk, _⟩, l, cl, _⟩ := x
  obtain ⟨r, hr, hok⟩ := e18 l
  obtain ⟨c, n, y, d, q, k, r', h21, hv, hok'⟩ := e21 hok
  obtain ⟨v, r'', h22, _, _, _⟩ := e22 hok' 3 (by decide) (by decide)
  show sh6 0 p (gc, gn, gx, gd, gp, gk, ()) l cl = _
  unfold sh6
  rw [hr, Option.bind_some, show sp21 ((r.1, r.2.1, ()), ()) = _ from h21, Option.bind_some]
  simp only [joinK]
  rw [show sp22 ((r'.1, r'.2.1, ()), 3, ()) = _ from h22, Option.bind_some]
  have hend : ∀ (ic : List UInt8) (n' : Int) (ix : List UInt8) (id' : Int) (ip ik : List UInt8), sh6_K2 (p, (gc, gn, gx, gd, gp, gk, ()), (c, n, y, d, q, k, ()), (ic, n', ix, id', ip, ik, ()), ()) = some (true, ()) := fun ic n' ix id' ip ik => by
    simp only [sh6_K2, joinK, e23, e24, e25, e26, Option.bind_some, beq_self_eq_true, if_true, hv, e9, sh6_K3]
  simp only [hend, ite_self]
theorem law8a (x : List (Int × Unit) × Int × Int × Unit) (hcmp : ∀ c n y (d d' : Int), ∃ v, sp27 ((c, n, y, d, ()), (c, n, y, d', ()), ()) = some (v, ()) ∧ (v < 0 ↔ d < d')) : sp8 x = some (true, ()) := by
  obtain ⟨l, a, b, _⟩ := x
  obtain ⟨r, hr, hok⟩ := e18 l
  obtain ⟨c, n, y, d, r', h19, hv, hvd, _⟩ := e19 hok
  obtain ⟨u, hu, u1, u2⟩ := e20 a 100 (by decide) (by decide)
  obtain ⟨v, hv', v1, v2⟩ := e20 b 100 (by decide) (by decide)
  obtain ⟨w, hw, hw'⟩ := hcmp c n y u v
  have hvu : vB c n y u = true := by rw [hvd, decide_eq_true u1, decide_eq_true (show u ≤ 99 by omega)]; rfl
  have hvv : vB c n y v = true := by rw [hvd, decide_eq_true v1, decide_eq_true (show v ≤ 99 by omega)]; rfl
  show sh8 0 l a b = _
  unfold sh8
  rw [hr, Option.bind_some, show sp19 ((r.1, r.2.1, ()), ()) = _ from h19, Option.bind_some, hu, Option.bind_some, hv', Option.bind_some]
  simp only [joinK, e14, e16, Option.bind_some]
  have hd : dsg c n y u = dsg c n y v := by unfold dsg; rw [hvu, hvv]
  have hl : (6 : Int) ≤ ((dsg c n y v).length : Int) := by
    unfold dsg; rw [if_pos hvv]
    have := car_len (vB_iff.1 hvv).1
    simp only [List.length_append, digs_len]; omega
  rw [hd, if_pos (by simp), if_pos (decide_eq_true hl)]
  have hf : (fmtF c n y u == fmtF c n y v) = (u == v) := by
    by_cases h : u = v
    · subst h; simp
    · have : fmtF c n y u ≠ fmtF c n y v := fun e => by
        have h1 := prs_fmt hvu
        rw [e, prs_fmt hvv] at h1
        simp only [Prod.mk.injEq, and_true, true_and] at h1
        exact h h1.symm
      rw [beq_eq_false_iff_ne.2 h, beq_eq_false_iff_ne.2 this]
  rw [hf, if_pos (by simp), hw, Option.bind_some]
  have : (decide (w < 0) == decide (u < v)) = true := by
    rw [beq_iff_eq, decide_eq_decide]; exact hw'
  simp only [this, if_true, e9, Option.bind_some, sh8_K4]
/-- an order, as a function to -1, 0, 1 -/
structure CmpOk {α : Type} (c : α → α → Int) : Prop where
  vals : ∀ a b, c a b = -1 ∨ c a b = 0 ∨ c a b = 1
  eq0 : ∀ a b, c a b = 0 ↔ a = b
  anti : ∀ a b, c b a = - c a b
  trans : ∀ a b d, c a b ≤ 0 → c b d ≤ 0 → c a d ≤ 0
theorem CmpOk.self {α : Type} {c : α → α → Int} (h : CmpOk c) (a : α) : c a a = 0 := (h.eq0 a a).2 rfl
def lexC {α β : Type} (c : α → α → Int) (d : β → β → Int) (x y : α × β) : Int := if c x.1 y.1 = 0 then d x.2 y.2 else c x.1 y.1
theorem lexC_ok {α β : Type} {c : α → α → Int} {d : β → β → Int} (hc : CmpOk c) (hd : CmpOk d) : CmpOk (lexC c d) where
  vals := fun a b => by
    unfold lexC; split
    · exact hd.vals _ _
    · exact hc.vals _ _
  eq0 := fun a b => by
    obtain ⟨a1, a2⟩ := a; obtain ⟨b1, b2⟩ := b
    unfold lexC
    by_cases h : c a1 b1 = 0
    · rw [if_pos h, hd.eq0, Prod.mk.injEq, (hc.eq0 _ _).1 h]; simp
    · rw [if_neg h, Prod.mk.injEq]
      exact ⟨fun h' => absurd h' h, fun h' => absurd ((hc.eq0 _ _).2 h'.1) h⟩
  anti := fun a b => by
    unfold lexC
    rw [hc.anti a.1 b.1, hd.anti a.2 b.2]
    by_cases h : c a.1 b.1 = 0
    · rw [if_pos h, if_pos (by omega)]
    · rw [if_neg h, if_neg (by omega)]
  trans := fun a b e h1 h2 => by
    unfold lexC at *
    by_cases h : c a.1 b.1 = 0
    · rw [if_pos h] at h1
      rw [(hc.eq0 _ _).1 h]
      split
      · rename_i h3
        rw [if_pos h3] at h2
        exact hd.trans _ _ _ h1 h2
      · rename_i h3
        rw [if_neg h3] at h2; exact h2
    · rw [if_neg h] at h1
      by_cases h3 : c b.1 e.1 = 0
      · rw [← (hc.eq0 _ _).1 h3, if_neg h]; exact h1
      · rw [if_neg h3] at h2
        have h4 := hc.trans _ _ _ h1 h2
        by_cases h5 : c a.1 e.1 = 0
        · exfalso
          have h6 := (hc.eq0 _ _).1 h5
          rw [h6] at h1 h
          rw [hc.anti] at h1
          have := hc.vals b.1 e.1
          omega
        · rw [if_neg h5]; exact h4
def iC (a b : Int) : Int := if a < b then -1 else if b < a then 1 else 0
theorem iC_ok : CmpOk iC where
  vals := fun a b => by unfold iC; split; exact .inl rfl; split; exact .inr (.inr rfl); exact .inr (.inl rfl)
  eq0 := fun a b => by unfold iC; split; omega; split <;> omega
  anti := fun a b => by unfold iC; split <;> split <;> (try split) <;> omega
  trans := fun a b d => by unfold iC; split <;> split <;> (try split) <;> (try split) <;> (try split) <;> omega
def uC (_ _ : Unit) : Int := 0
theorem uC_ok : CmpOk uC := ⟨fun _ _ => .inr (.inl rfl), fun _ _ => by simp [uC], fun _ _ => rfl, fun _ _ _ _ _ => Int.le_refl 0⟩
def bLs (a b : List UInt8) : Bool := Op.bytesLess a b
def sC (a b : List UInt8) : Int := if bLs a b = true then -1 else if a = b then 0 else 1
theorem bLs_irr : ∀ a : List UInt8, bLs a a = false
  | [] => rfl
  | a :: l => by
    have := bLs_irr l
    simp only [bLs, Op.bytesLess] at *
    simp [this]
theorem bLs_cons (a b : UInt8) (l m : List UInt8) : bLs (a :: l) (b :: m) = true ↔ a.toNat < b.toNat ∨ a = b ∧ bLs l m = true := by
  simp only [bLs, Op.bytesLess, Bool.or_eq_true, decide_eq_true_eq, Bool.and_eq_true, beq_iff_eq, UInt8.lt_iff_toNat_lt]
theorem bLs_tri : ∀ a b : List UInt8, bLs a b = true ∨ a = b ∨ bLs b a = true
  | [], [] => .inr (.inl rfl)
  | [], _ :: _ => .inl rfl
  | _ :: _, [] => .inr (.inr rfl)
  | a :: l, b :: m => by
    rw [bLs_cons, bLs_cons]
    rcases Nat.lt_trichotomy a.toNat b.toNat with h | h | h
    · exact .inl (.inl h)
    · have := UInt8.toNat_inj.1 h
      subst this
      rcases bLs_tri l m with h' | h' | h'
      · exact .inl (.inr ⟨rfl, h'⟩)
      · exact .inr (.inl (by rw [h']))
      · exact .inr (.inr (.inr ⟨rfl, h'⟩))
    · exact .inr (.inr (.inl h))
theorem bLs_nil_r : ∀ a : List UInt8, bLs a [] = false
  | [] => rfl
  | _ :: _ => rfl
theorem bLs_trans : ∀ a b c : List UInt8, bLs a b = true → bLs b c = true → bLs a c = true
  | _, [], _, h, _ => by rw [bLs_nil_r] at h; cases h
  | _, _ :: _, [], _, h => by rw [bLs_nil_r] at h; cases h
  | [], _ :: _, _ :: _, _, _ => rfl
  | a :: l, b :: m, c :: k, h1, h2 => by
    rw [bLs_cons] at *
    rcases h1 with h1 | ⟨rfl, h1⟩
    · rcases h2 with h2 | ⟨rfl, h2⟩
      · exact .inl (by omega)
      · exact .inl h1
    · rcases h2 with h2 | ⟨rfl, h2⟩
      · exact .inl h2
      · exact .inr ⟨rfl, bLs_trans l m k h1 h2⟩
theorem sC_le (a b : List UInt8) : sC a b ≤ 0 ↔ bLs a b = true ∨ a = b := by
  unfold sC
  split
  · rename_i h; simp [h]
  · rename_i h
    split
    · rename_i h'; simp [h']
    · rename_i h'; simp [h, h']
theorem sC_ok : CmpOk sC where
  vals := fun a b => by unfold sC; split; exact .inl rfl; split; exact .inr (.inl rfl); exact .inr (.inr rfl)
  eq0 := fun a b => by
    unfold sC
    split
    · rename_i h
      refine ⟨fun h' => absurd h' (by decide), fun h' => ?_⟩
      subst h'; rw [bLs_irr] at h; cases h
    · split
      · rename_i h'; simp [h']
      · rename_i h'; simp [h']
  anti := fun a b => by
    unfold sC
    rcases bLs_tri a b with h | h | h
    · have h1 : ¬ bLs b a = true := fun h' => by have := bLs_trans _ _ _ h h'; rw [bLs_irr] at this; cases this
      have h2 : b ≠ a := fun e => by subst e; exact h1 h
      rw [if_neg h1, if_neg h2, if_pos h]; rfl
    · subst h; rw [if_neg (by rw [bLs_irr]; decide), if_pos rfl]; rfl
    · have h1 : ¬ bLs a b = true := fun h' => by have := bLs_trans _ _ _ h h'; rw [bLs_irr] at this; cases this
      have h2 : a ≠ b := fun e => by subst e; exact h1 h
      rw [if_pos h, if_neg h1, if_neg h2]
  trans := fun a b d h1 h2 => by
    rw [sC_le] at *
    rcases h1 with h1 | rfl
    · rcases h2 with h2 | rfl
      · exact .inl (bLs_trans _ _ _ h1 h2)
      · exact .inl h1
    · exact h2
/-- the order of flights -/
def fC : Fl → Fl → Int := lexC sC (lexC iC (lexC sC (lexC iC uC)))
theorem fC_ok : CmpOk fC := lexC_ok sC_ok (lexC_ok iC_ok (lexC_ok sC_ok (lexC_ok iC_ok uC_ok)))
theorem e53 (s : List UInt8) : sp53 (s, ()) = some (false, ()) := by
  show some (!(s == s), ()) = _
  simp
theorem e54 (n : Int) : sp54 (n, ()) = some (false, ()) := by
  show some (n != n, ()) = _
  simp
theorem bgo (a b : List UInt8) : (List.brecOn.go (motive := fun (x : List UInt8) => List UInt8 → Bool) a Op.bytesLess._f).1 b = bLs a b := by kernel_rfl
theorem e44 (a b : List UInt8) : sp44 (a, b, ()) = some (sC a b, ()) := by
  show sh44 0 a b = _
  unfold sh44
  rw [e53, e53, Option.bind_some, Option.bind_some, if_neg (by decide), if_neg (by decide)]
  simp only [bgo]
  unfold sC
  by_cases h : bLs a b = true
  · rw [if_pos h, if_pos h]
  · rw [if_neg h, if_neg h]
    by_cases h' : a = b
    · subst h'; rw [if_neg (by simp), if_pos rfl]
    · rw [if_pos (by simp [h, h']), if_neg h']
theorem e45 (a b : Int) : sp45 (a, b, ()) = some (iC a b, ()) := by
  show sh45 0 a b = _
  unfold sh45
  rw [e54, e54, Option.bind_some, Option.bind_some, if_neg (by decide), if_neg (by decide)]
  unfold iC
  simp only [decide_eq_true_eq]
  split <;> (try split) <;> rfl
theorem e43 (a b c d : Int) : sp43 ([(a, ()), (b, ()), (c, ()), (d, ())], ()) = some (if a = 0 then (if b = 0 then (if c = 0 then d else c) else b) else a, ()) := by
  show sh43 16 [(a, ()), (b, ()), (c, ()), (d, ())] = _
  unfold sh43
  show sh43_L2 sh43_K0 (sh43_L2 sh43_K0 (sh43_L2 sh43_K0 (sh43_L2 sh43_K0 (sh43_L2 sh43_K0 (iter 11 (sh43_L2 sh43_K0)))))) (0, [(a, ()), (b, ()), (c, ()), (d, ())], (4 : Int), 0, ()) = _
  have w1 : IntKind.i64.wrap ((0 : Int) + 1) = 1 := by decide
  have w2 : IntKind.i64.wrap ((1 : Int) + 1) = 2 := by decide
  have w3 : IntKind.i64.wrap ((2 : Int) + 1) = 3 := by decide
  have w4 : IntKind.i64.wrap ((3 : Int) + 1) = 4 := by decide
  have st : ∀ (rc : Int × List (Int × Unit) × Int × Int × Unit → Option (Int × Unit)) (k v : Int), k < 4 → inR k 4 = true → (lAt (0, ()) [(a, ()), (b, ()), (c, ()), (d, ())] k).1 = v → sh43_L2 sh43_K0 rc (0, [(a, ()), (b, ()), (c, ()), (d, ())], (4 : Int), k, ()) = if v = 0 then rc (0, [(a, ()), (b, ()), (c, ()), (d, ())], (4 : Int), IntKind.i64.wrap (k + 1), ()) else some (v, ()) := fun rc k v h1 h2 h3 => by
    simp only [sh43_L2]
    rw [if_pos (decide_eq_true h1), if_pos (show inR k [(a, ()), (b, ()), (c, ()), (d, ())].length = true from h2), h3]
    by_cases hv : v = 0
    · rw [if_neg (by simp [hv]), if_pos hv]
    · rw [if_pos (by simp [hv]), if_neg hv]
  rw [st _ 0 a (by decide) rfl rfl, w1, st _ 1 b (by decide) rfl rfl, w2, st _ 2 c (by decide) rfl rfl, w3, st _ 3 d (by decide) rfl rfl, w4]
  have he : ∀ rc : Int × List (Int × Unit) × Int × Int × Unit → Option (Int × Unit), sh43_L2 sh43_K0 rc (0, [(a, ()), (b, ()), (c, ()), (d, ())], (4 : Int), 4, ()) = some (0, ()) := fun rc => rfl
  rw [he]
  split <;> (try split) <;> (try split) <;> (try split) <;> simp_all
theorem e27 (f g : Fl) : sp27 (f, g, ()) = some (fC f g, ()) := by
  show sh27 0 f g = _
  unfold sh27
  simp only [e44, e45, e43, Option.bind_some]
  congr 2
  simp only [fC, lexC, uC]
  by_cases h : iC f.2.2.2.1 g.2.2.2.1 = 0
  · rw [h]; rfl
  · simp only [if_neg h]
theorem e28 (f g : Fl) : sp28 (f, g, ()) = some (fC f g, ()) := by
  show sh28 0 f g = _
  unfold sh28
  obtain ⟨c, n, x, d, _⟩ := f
  obtain ⟨c', n', x', d', _⟩ := g
  simp only [joinK, sh28_K0, bgo]
  show (if (c == c' && (n == n' && (x == x' && (d == d' && true)))) = true then some (0, ()) else if (!(c == c')) = true then (if bLs c c' = true then some (-1, ()) else some (1, ())) else
    if (n != n') = true then (if decide (n < n') = true then some (-1, ()) else some (1, ())) else if (!(x == x')) = true then (if bLs x x' = true then some (-1, ()) else some (1, ())) else
      if decide (d < d') = true then some (-1, ()) else some (1, ())) = _
  simp only [fC, lexC, uC]
  by_cases h1 : c = c'
  case neg =>
    have h0 : sC c c' ≠ 0 := fun h => h1 ((sC_ok.eq0 _ _).1 h)
    rw [if_neg (by simp [h1]), if_pos (by simp [h1]), if_neg h0]
    unfold sC
    rw [if_neg h1]
    split <;> rfl
  subst h1
  rw [if_pos (sC_ok.self c)]
  by_cases h2 : n = n'
  case neg =>
    have h0 : iC n n' ≠ 0 := fun h => h2 ((iC_ok.eq0 _ _).1 h)
    rw [if_neg (by simp [h2]), if_neg (by simp), if_pos (by simp [h2]), if_neg h0]
    unfold iC
    by_cases h : n < n'
    · rw [if_pos (by simpa using h), if_pos h]
    · rw [if_neg (by simpa using h), if_neg h, if_pos (by omega)]
  subst h2
  rw [if_pos (iC_ok.self n)]
  by_cases h3 : x = x'
  case neg =>
    have h0 : sC x x' ≠ 0 := fun h => h3 ((sC_ok.eq0 _ _).1 h)
    rw [if_neg (by simp [h3]), if_neg (by simp), if_neg (by simp), if_pos (by simp [h3]), if_neg h0]
    unfold sC
    rw [if_neg h3]
    split <;> rfl
  subst h3
  rw [if_pos (sC_ok.self x)]
  by_cases h4 : d = d'
  · subst h4
    rw [if_pos (by simp), if_pos (iC_ok.self d)]
  · have h0 : iC d d' ≠ 0 := fun h => h4 ((iC_ok.eq0 _ _).1 h)
    rw [if_neg (by simp [h4]), if_neg (by simp), if_neg (by simp), if_neg (by simp), if_neg h0]
    unfold iC
    by_cases h : d < d'
    · rw [if_pos (by simpa using h), if_pos h]
    · rw [if_neg (by simpa using h), if_neg h, if_pos (by omega)]
theorem law8 (x : List (Int × Unit) × Int × Int × Unit) : sp8 x = some (true, ()) := by
  refine law8a x fun c n y d d' => ⟨_, e27 _ _, ?_⟩
  simp only [fC, lexC, uC, sC_ok.self, iC_ok.self, if_true]
  unfold iC
  split <;> (try split) <;> (try split) <;> omega
theorem eqF (a b : Fl) : (a.1 == b.1 && (a.2.1 == b.2.1 && (a.2.2.1 == b.2.2.1 && (a.2.2.2.1 == b.2.2.2.1 && true)))) = decide (a = b) := by
  obtain ⟨c, n, x, d, _⟩ := a
  obtain ⟨c', n', x', d', _⟩ := b
  rw [Bool.eq_iff_iff]
  simp
theorem law7 (x : Fl × Fl × List (Int × Unit) × Unit) : sp7 x = some (true, ()) := by
  obtain ⟨f, g, l, _⟩ := x
  obtain ⟨r, hr, hok⟩ := e18 l
  obtain ⟨c1, n1, y1, d1, r1, h1, _, _, k1⟩ := e19 hok
  obtain ⟨c2, n2, y2, d2, r2, h2, _, _, k2⟩ := e19 k1
  obtain ⟨c3, n3, y3, d3, r3, h3, _, _, k3⟩ := e19 k2
  show sh7 0 f g l = _
  unfold sh7
  rw [hr, Option.bind_some, show sp19 ((r.1, r.2.1, ()), ()) = _ from h1, Option.bind_some, show sp19 ((r1.1, r1.2.1, ()), ()) = _ from h2, Option.bind_some, show sp19 ((r2.1, r2.2.1, ()), ()) = _ from h3, Option.bind_some]
  simp only [joinK]
  rw [show (c1 == c2 && (n1 == n2 && (y1 == y2 && (d1 == d2 && true)))) = decide (((c1, n1, y1, d1, ()) : Fl) = (c2, n2, y2, d2, ())) from eqF (c1, n1, y1, d1, ()) (c2, n2, y2, d2, ())]
  simp only [e27, e28, Option.bind_some, bne_self_eq_false, Bool.false_eq_true, if_false, sh7_K4]
  generalize ((c1, n1, y1, d1, ()) : Fl) = a
  generalize ((c2, n2, y2, d2, ()) : Fl) = b
  generalize ((c3, n3, y3, d3, ()) : Fl) = e
  have w : IntKind.i64.wrap (0 - fC a b) = fC b a := by
    rw [fC_ok.anti a b]
    have := fC_ok.vals a b
    rw [wrapI (by omega) (by omega)]; omega
  have w2 : (!((fC a b == 0) == decide (a = b))) = false := by
    have : (fC a b == 0) = decide (a = b) := by rw [Bool.eq_iff_iff, beq_iff_eq, decide_eq_true_eq]; exact fC_ok.eq0 a b
    rw [this]; simp
  rw [w, if_neg (by simp), w2]
  simp only [Bool.false_eq_true, if_false, joinK, e9, Option.bind_some, sh7_K5]
  by_cases q1 : 0 < fC a b
  · rw [if_pos (by simpa using q1)]
  · rw [if_neg (by simpa using q1)]
    by_cases q2 : 0 < fC b e
    · rw [if_pos (by simpa using q2)]
    · rw [if_neg (by simpa using q2), if_pos (by simpa using fC_ok.trans a b e (by omega) (by omega))]
end Go.Proofs.YthoibdbhmacliaaDoor
