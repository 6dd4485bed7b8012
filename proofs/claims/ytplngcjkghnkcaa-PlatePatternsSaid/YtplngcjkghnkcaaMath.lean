/- Plain mathematics of chapter 1: numbers, digits, plates. -/
import Derived.Test.YtplngcjkghnkcaaAbsW
import Derived.Test.YtplngcjkghnkcaaExT
namespace Go.Proofs.Ytplngcjkghnkcaa
open Go.Abs
theorem iter_inv {σ R : Type} {F : (σ → Option R) → σ → Option R} {r : Option R} (st : Nat → σ) (I : Nat → Prop) (m n : Nat) (hn : m < n) (h0 : I 0) (hs : ∀ rc k, k < m → I k → (F rc (st k) = rc (st (k + 1)) ∧ I (k + 1)) ∨ F rc (st k) = r) (he : ∀ rc, I m → F rc (st m) = r) : iter n F (st 0) = r := by
  suffices h : ∀ n k, m - k < n → k ≤ m → I k → iter n F (st k) = r from h n 0 (by omega) (Nat.zero_le _) h0
  intro n
  induction n with
  | zero => intro k hk; omega
  | succ n ih =>
    intro k hk hkm hi
    rcases Nat.lt_or_ge k m with hlt | hge
    · rcases hs (iter n F) k hlt hi with ⟨h, h'⟩ | h
      · exact h.trans (ih (k + 1) (by omega) hlt h')
      · exact h
    · have : k = m := by omega
      subst this
      exact he _ hi
theorem iter_ex {σ R : Type} {F : (σ → Option R) → σ → Option R} {r : Option R} (I : Nat → σ → Prop) (m n : Nat) (hn : m < n) {z : σ} (h0 : I 0 z) (hs : ∀ rc k z, k < m → I k z → (∃ z', F rc z = rc z' ∧ I (k + 1) z') ∨ F rc z = r) (he : ∀ rc z, I m z → F rc z = r) : iter n F z = r := by
  suffices h : ∀ n k z, m - k < n → k ≤ m → I k z → iter n F z = r from h n 0 z (by omega) (Nat.zero_le _) h0
  intro n
  induction n with
  | zero => intro k z hk; omega
  | succ n ih =>
    intro k z hk hkm hi
    rcases Nat.lt_or_ge k m with hlt | hge
    · rcases hs (iter n F) k z hlt hi with ⟨z', h, h'⟩ | h
      · exact h.trans (ih (k + 1) z' (by omega) hlt h')
      · exact h
    · have : k = m := by omega
      subst this
      exact he _ z hi
theorem iter_count {σ R : Type} {F : (σ → Option R) → σ → Option R} {r : Option R} (st : Nat → σ) (m n : Nat) (hn : m < n) (hs : ∀ rc k, k < m → F rc (st k) = rc (st (k + 1))) (he : ∀ rc, F rc (st m) = r) : iter n F (st 0) = r :=
  iter_inv st (fun _ => True) m n hn trivial (fun rc k hk _ => .inl ⟨hs rc k hk, trivial⟩) (fun rc _ => he rc)
theorem sAt_nat (s : List UInt8) (k : Nat) : sAt s (k : Int) = ((s.getD k 0).toNat : Int) := rfl
theorem inR_nat {k n : Nat} (h : k < n) : inR (k : Int) n = true := by simp [inR, h]
theorem inCut_nat {a b n : Nat} (h1 : a ≤ b) (h2 : b ≤ n) : inCut (a : Int) (b : Int) n = true := by simp [inCut, h1, h2]
theorem up1 {k n : Nat} (h : k < n) (hn : n ≤ 1000000000000000000) : IntKind.i64.wrap ((k : Int) + 1) = ((k + 1 : Nat) : Int) := wrapI (by omega) (by omega)

abbrev Pl : Type := Int × Int × Int × Unit
def vldB (a b c : Int) : Bool := decide (0 ≤ a) && decide (a ≤ 9) && decide (1 ≤ b) && decide (b ≤ 999) && decide (0 ≤ c) && decide (c < 1000000)
theorem vldB_iff {a b c : Int} : vldB a b c = true ↔ 0 ≤ a ∧ a ≤ 9 ∧ 1 ≤ b ∧ b ≤ 999 ∧ 0 ≤ c ∧ c < 1000000 := by simp [vldB, and_assoc]
def numL (a b c : Int) : Int := IntKind.i64.wrap (IntKind.i64.wrap (IntKind.i64.wrap (IntKind.i64.wrap (a * 1000) + b) * 1000000) + c)
theorem numL_eq {a b c : Int} (h : vldB a b c = true) : numL a b c = (a * 1000 + b) * 1000000 + c := by
  rw [vldB_iff] at h
  unfold numL
  rw [wrapI (x := a * 1000) (by omega) (by omega), wrapI (x := a * 1000 + b) (by omega) (by omega), wrapI (x := (a * 1000 + b) * 1000000) (by omega) (by omega), wrapI (by omega) (by omega)]
theorem numL_bd {a b c : Int} (h : vldB a b c = true) : 0 ≤ numL a b c ∧ numL a b c < 10000000000 := by
  rw [numL_eq h]; rw [vldB_iff] at h; omega
def digB (c : Int) : Bool := decide (48 ≤ c) && decide (c ≤ 57)
def digL (s : List UInt8) : Bool := s.all fun c => digB c.toNat
theorem digL_snoc (s : List UInt8) (k : Nat) (h : k < s.length) : digL (s.take (k + 1)) = (digL (s.take k) && digB (s.getD k 0).toNat) := by
  rw [take_snoc s 0 k h]; simp [digL]
theorem digL_false (s : List UInt8) (k : Nat) (h : k < s.length) (hb : digB (s.getD k 0).toNat = false) : digL s = false := by
  unfold digL
  rw [List.all_eq_false]
  refine ⟨s.getD k 0, ?_, by rw [hb]; decide⟩
  simp [List.getD, h]
def valL (s : List UInt8) : Nat := s.foldl (fun n c => 10 * n + (c - 48).toNat) 0
theorem valL_le (s : List UInt8) : valL s + 29 ≤ 29 * 10 ^ s.length := by
  suffices h : ∀ (s : List UInt8) (n k : Nat), n + 29 ≤ 29 * 10 ^ k → s.foldl (fun n c => 10 * n + (c - 48).toNat) n + 29 ≤ 29 * 10 ^ (k + s.length) by
    simpa [valL] using h s 0 0 (by decide)
  intro s
  induction s with
  | nil => intro n k h; simpa using h
  | cons c s ih =>
    intro n k h
    have h1 := (c - 48).toNat_lt
    have := ih (10 * n + (c - 48).toNat) (k + 1) (by rw [Nat.pow_succ]; omega)
    simpa [Nat.add_assoc, Nat.add_comm 1 s.length] using this
theorem valL_snoc (s : List UInt8) (k : Nat) (h : k < s.length) : valL (s.take (k + 1)) = 10 * valL (s.take k) + (s.getD k 0 - 48).toNat := by
  rw [take_snoc s 0 k h]; simp only [valL, List.foldl_append, List.foldl_cons, List.foldl_nil]
theorem valL_lt (s : List UInt8) (k : Nat) (h : k ≤ 10) : valL (s.take k) ≤ 290000000000 := by
  have h1 := valL_le (s.take k)
  have h2 : 10 ^ (s.take k).length ≤ 10 ^ 10 := Nat.pow_le_pow_right (by decide) (by simp; omega)
  omega
/-- one digit more -/
theorem valL_step (s : List UInt8) (hs : s.length ≤ 10) (k : Nat) (hlt : k < s.length) :
    IntKind.i64.wrap (IntKind.i64.wrap (10 * (valL (s.take k) : Int)) + IntKind.i64.wrap (IntKind.u8.wrap (((s.getD k 0).toNat : Int) - 48))) = ((valL (s.take (k + 1)) : Nat) : Int) := by
  have hb := valL_lt s k (by omega)
  have hb2 : (s.getD k 0 - 48).toNat < 256 := (s.getD k 0 - 48).toNat_lt
  have h2 : IntKind.u8.wrap (((s.getD k 0).toNat : Int) - 48) = ((s.getD k 0 - 48).toNat : Int) := sub8 (s.getD k 0) 48
  rw [h2, wrapI (x := 10 * (valL (s.take k) : Int)) (by omega) (by omega), wrapI (x := ((s.getD k 0 - 48).toNat : Int)) (by omega) (by omega), valL_snoc s k hlt, wrapI (by omega) (by omega)]
  omega
/-- What Parse answers. -/
def prs (s : List UInt8) : Pl × Int × Unit :=
  if s.length = 10 ∧ digL s = true then
    (if vldB (valL (s.take 1)) (valL ((s.drop 1).take 3)) (valL (s.drop 4)) = true then (((valL (s.take 1) : Int), (valL ((s.drop 1).take 3) : Int), (valL (s.drop 4) : Int), ()), 0, ()) else ((0, 0, 0, ()), 1, ())) else ((0, 0, 0, ()), 3, ())
/-- the last k digits of n -/
def digs : Nat → Nat → List UInt8
  | _, 0 => []
  | n, k + 1 => digs (n / 10) k ++ [UInt8.ofNat (48 + n % 10)]
theorem digs_cons : ∀ (k n : Nat), digs n (k + 1) = UInt8.ofNat (48 + n / 10 ^ k % 10) :: digs n k
  | 0, n => by simp [digs]
  | k + 1, n => by
    rw [digs, digs_cons k (n / 10), digs]
    rw [Nat.div_div_eq_div_mul, ← Nat.pow_succ']
    rfl
theorem digs_len : ∀ (k n : Nat), (digs n k).length = k
  | 0, _ => rfl
  | k + 1, n => by simp [digs, digs_len k]
theorem ofNat_dig (n : Nat) : (UInt8.ofNat (48 + n % 10)).toNat = 48 + n % 10 := by
  rw [UInt8.toNat_ofNat_of_lt' (by have := Nat.mod_lt n (show 10 > 0 by decide); show _ < 256; omega)]
theorem digs_digL : ∀ (k n : Nat), digL (digs n k) = true
  | 0, _ => rfl
  | k + 1, n => by
    have := digs_digL k (n / 10)
    unfold digL at *
    rw [digs, List.all_append, this]
    simp only [List.all_cons, List.all_nil, ofNat_dig, digB, Bool.and_true, Bool.true_and, Bool.and_eq_true, decide_eq_true_eq]
    omega
theorem valL_digs : ∀ (k n : Nat), valL (digs n k) = n % 10 ^ k
  | 0, n => by simp [digs, valL, Nat.mod_one]
  | k + 1, n => by
    have h := valL_digs k (n / 10)
    have : (UInt8.ofNat (48 + n % 10) - 48).toNat = n % 10 := by
      have h0 := ofNat_dig n
      have h1 : (48 : UInt8) ≤ UInt8.ofNat (48 + n % 10) := by
        rw [UInt8.le_iff_toNat_le, h0]; simp
      rw [UInt8.toNat_sub_of_le _ _ h1, h0]; simp
    rw [digs]
    simp only [valL, List.foldl_append, List.foldl_cons, List.foldl_nil] at h ⊢
    rw [h, this, Nat.pow_succ, Nat.mul_comm (10 ^ k) 10, Nat.mod_mul]
    omega
def rowsD (n k : Nat) : List (Int × Unit) := List.replicate (10 - k) (0, ()) ++ (digs n k).map fun d => ((d.toNat : Int), ())
theorem rowsD_len (n k : Nat) (h : k ≤ 10) : (rowsD n k).length = 10 := by simp [rowsD, digs_len]; omega
theorem rowsD_set (n k : Nat) (h : k < 10) : (rowsD n k).set (9 - k) (((48 + n / 10 ^ k % 10 : Nat) : Int), ()) = rowsD n (k + 1) := by
  unfold rowsD
  rw [digs_cons, show 10 - k = (9 - k) + 1 by omega, List.replicate_succ', List.append_assoc, show 10 - (k + 1) = 9 - k by omega]
  rw [List.set_append_right _ _ (by simp)]
  rw [List.length_replicate, Nat.sub_self]
  simp only [List.cons_append, List.nil_append, List.set_cons_zero, List.map_cons, ofNat_dig]
theorem rowsD_end (n : Nat) : toBytes (rowsD n 10) = digs n 10 := by
  have h : ∀ l : List UInt8, toBytes (l.map fun d => ((d.toNat : Int), ())) = l := by
    intro l
    induction l with
    | nil => rfl
    | cons d l ih =>
      show UInt8.ofNat ((d.toNat : Int)).toNat :: toBytes (l.map fun d => ((d.toNat : Int), ())) = d :: l
      rw [ih]; simp
  exact h (digs n 10)
theorem dig_val (M : Nat) : IntKind.u8.wrap (48 + IntKind.u8.wrap ((M : Int).tmod 10)) = ((48 + M % 10 : Nat) : Int) := by
  have t1 : (M : Int).tmod 10 = ((M % 10 : Nat) : Int) := rfl
  rw [t1, wrap8, wrap8]; omega
theorem dig_val2 (M : Nat) : IntKind.u8.wrap (IntKind.i64.wrap (48 + (M : Int).tmod 10)) = ((48 + M % 10 : Nat) : Int) := by
  have t1 : (M : Int).tmod 10 = ((M % 10 : Nat) : Int) := rfl
  rw [t1, wrapI (by omega) (by omega), wrap8]; omega
theorem div_val (N k : Nat) (h : N < 10000000000) : IntKind.i64.wrap (((N / 10 ^ k : Nat) : Int).tdiv 10) = ((N / 10 ^ (k + 1) : Nat) : Int) := by
  have t4 : ((N / 10 ^ k : Nat) : Int).tdiv 10 = ((N / 10 ^ (k + 1) : Nat) : Int) := by rw [Nat.pow_succ, ← Nat.div_div_eq_div_mul]; rfl
  rw [t4]
  have hM := Nat.div_le_self N (10 ^ (k + 1))
  generalize N / 10 ^ (k + 1) = M at hM ⊢
  exact wrapI (by omega) (by omega)
/-- What Format answers. -/
def fmt (a b c : Int) : List UInt8 := if vldB a b c = true then digs (numL a b c).toNat 10 else []
/-- What Check answers. -/
def chk (a b c : Int) : Int := if vldB a b c = true then (numL a b c).tmod 7 else -1
theorem valL_from (t : List UInt8) : ∀ n : Nat, t.foldl (fun n c => 10 * n + (c - 48).toNat) n = n * 10 ^ t.length + valL t := by
  induction t with
  | nil => intro n; simp [valL]
  | cons c t ih =>
    intro n
    rw [valL, List.foldl_cons, List.foldl_cons, ih, ih (10 * 0 + (c - 48).toNat), List.length_cons, Nat.pow_succ]
    rw [Nat.mul_zero, Nat.zero_add, Nat.add_mul, Nat.mul_comm (10 ^ t.length) 10, ← Nat.mul_assoc, Nat.mul_comm n 10]
    omega
theorem valL_app (s t : List UInt8) : valL (s ++ t) = valL s * 10 ^ t.length + valL t := by
  rw [valL, List.foldl_append, valL_from]; rfl
theorem dig_sub {c : UInt8} (h : digB c.toNat = true) : (c - 48).toNat = c.toNat - 48 ∧ 48 ≤ c.toNat ∧ c.toNat ≤ 57 := by
  simp only [digB, Bool.and_eq_true, decide_eq_true_eq] at h
  refine ⟨?_, by omega, by omega⟩
  rw [UInt8.toNat_sub_of_le _ _ (by rw [UInt8.le_iff_toNat_le]; simp; omega)]; rfl
theorem valL_bd : ∀ (n : Nat) (s : List UInt8), s.length = n → digL s = true → valL s < 10 ^ n ∧ digs (valL s) n = s
  | 0, s, h, _ => by
    have := List.length_eq_zero_iff.1 h
    subst this
    exact ⟨by decide, rfl⟩
  | n + 1, s, h, hd => by
    rcases List.eq_nil_or_concat s with rfl | ⟨t, c, rfl⟩
    · simp at h
    rw [List.concat_eq_append] at *
    simp only [digL, List.all_append, List.all_cons, List.all_nil, Bool.and_true, Bool.and_eq_true] at hd
    obtain ⟨k1, k2⟩ := valL_bd n t (by simpa using h) hd.1
    obtain ⟨h1, h2, h3⟩ := dig_sub hd.2
    have e : valL (t ++ [c]) = 10 * valL t + (c.toNat - 48) := by
      simp only [valL, List.foldl_append, List.foldl_cons, List.foldl_nil, h1]
    rw [e]
    refine ⟨by rw [Nat.pow_succ]; omega, ?_⟩
    rw [digs, show (10 * valL t + (c.toNat - 48)) / 10 = valL t by omega, k2, show 48 + (10 * valL t + (c.toNat - 48)) % 10 = c.toNat by omega]
    simp
theorem digL_take {s : List UInt8} (h : digL s = true) (n : Nat) : digL (s.take n) = true := by
  unfold digL at *; rw [List.all_eq_true] at *; exact fun x hx => h x (List.mem_of_mem_take hx)
theorem digL_drop {s : List UInt8} (h : digL s = true) (n : Nat) : digL (s.drop n) = true := by
  unfold digL at *; rw [List.all_eq_true] at *; exact fun x hx => h x (List.mem_of_mem_drop hx)
theorem parts {s : List UInt8} (hs : s.length = 10) (hd : digL s = true) : valL s = (valL (s.take 1) * 1000 + valL ((s.drop 1).take 3)) * 1000000 + valL (s.drop 4) ∧ valL (s.take 1) < 10 ∧ valL ((s.drop 1).take 3) < 1000 ∧ valL (s.drop 4) < 1000000 := by
  have e : s = s.take 1 ++ ((s.drop 1).take 3 ++ s.drop 4) := by
    have h1 : s.drop 4 = (s.drop 1).drop 3 := by rw [List.drop_drop]
    rw [h1, List.take_append_drop, List.take_append_drop]
  have l1 : (s.take 1).length = 1 := by simp; omega
  have l2 : ((s.drop 1).take 3).length = 3 := by simp; omega
  have l3 : (s.drop 4).length = 6 := by simp; omega
  refine ⟨?_, (valL_bd 1 _ l1 (digL_take hd 1)).1, (valL_bd 3 _ l2 (digL_take (digL_drop hd 1) 3)).1, (valL_bd 6 _ l3 (digL_drop hd 4)).1⟩
  conv => lhs; rw [e]
  rw [valL_app, valL_app, List.length_append, l2, l3]
  omega
theorem prs_fmt {a b c : Int} (h : vldB a b c = true) : prs (fmt a b c) = ((a, b, c, ()), 0, ()) := by
  obtain ⟨N, hN⟩ := Int.eq_ofNat_of_zero_le (numL_bd h).1
  have hb := (numL_bd h).2
  rw [hN] at hb
  have hf : fmt a b c = digs N 10 := by rw [fmt, if_pos h, hN]; rfl
  rw [hf]
  have hv : valL (digs N 10) = N := by rw [valL_digs, Nat.mod_eq_of_lt (by omega)]
  have hp := parts (digs_len 10 N) (digs_digL 10 N)
  rw [hv] at hp
  rw [numL_eq h] at hN
  have h' := vldB_iff.1 h
  have hp1 : (digs N 10).length = 10 ∧ digL (digs N 10) = true := ⟨digs_len 10 N, digs_digL 10 N⟩
  simp only [prs, if_pos hp1]
  obtain ⟨q1, q2, q3, q4⟩ := hp
  generalize valL ((digs N 10).take 1) = A at *
  generalize valL (((digs N 10).drop 1).take 3) = B at *
  generalize valL ((digs N 10).drop 4) = C at *
  have hA : (A : Int) = a := by omega
  have hB : (B : Int) = b := by omega
  have hC : (C : Int) = c := by omega
  rw [hA, hB, hC, if_pos h]
theorem fmt_prs {s : List UInt8} (h : (prs s).2.1 = 0) : fmt (prs s).1.1 (prs s).1.2.1 (prs s).1.2.2.1 = s := by
  unfold prs at h ⊢
  split at h
  · rename_i hp
    rw [if_pos hp]
    split at h
    · rename_i hv
      rw [if_pos hv]
      show fmt _ _ _ = s
      rw [fmt, if_pos hv, numL_eq hv]
      have e := (parts hp.1 hp.2).1
      have e2 : ((valL (s.take 1) : Int) * 1000 + (valL ((s.drop 1).take 3) : Int)) * 1000000 + (valL (s.drop 4) : Int) = ((valL s : Nat) : Int) := by omega
      rw [e2, Int.toNat_natCast]
      exact (valL_bd 10 s hp.1 hp.2).2
    · cases h
  · cases h
/-- What Run answers. -/
def runL (a b c n : Int) : List Pl × Int × Unit := if vldB a b c = true ∧ 1 ≤ n ∧ n ≤ 99 then ((List.range n.toNat).map fun (i : Nat) => ((a, b, (IntKind.i64.wrap (c + (i : Int))).tmod 1000000, ()) : Pl), 0, ()) else ([], 1, ())
/-- the first that is not nought -/
def orL : List (Int × Unit) → Int
  | [] => 0
  | x :: l => if x.1 = 0 then orL l else x.1
def sg (a b : Int) : Int := if a < b then -1 else if b < a then 1 else 0
def cmp3 (p q : Pl) : Int := if sg p.1 q.1 ≠ 0 then sg p.1 q.1 else if sg p.2.1 q.2.1 ≠ 0 then sg p.2.1 q.2.1 else sg p.2.2.1 q.2.2.1
theorem sg_flip (a b : Int) : sg b a = -sg a b := by unfold sg; repeat' split <;> omega
theorem sg_bd (a b : Int) : -1 ≤ sg a b ∧ sg a b ≤ 1 := by unfold sg; repeat' split <;> omega
theorem sg_self (a : Int) : sg a a = 0 := by simp [sg]
theorem cmp3_flip (p q : Pl) : cmp3 q p = -cmp3 p q := by
  unfold cmp3
  rw [sg_flip p.1 q.1, sg_flip p.2.1 q.2.1, sg_flip p.2.2.1 q.2.2.1]
  repeat' split <;> omega
theorem cmp3_bd (p q : Pl) : -1 ≤ cmp3 p q ∧ cmp3 p q ≤ 1 := by
  have h1 := sg_bd p.1 q.1
  have h2 := sg_bd p.2.1 q.2.1
  have h3 := sg_bd p.2.2.1 q.2.2.1
  unfold cmp3
  repeat' split <;> omega
theorem cmp3_self (p : Pl) : cmp3 p p = 0 := by simp [cmp3, sg_self]
theorem cmp3_num {a b c a' b' c' : Int} (h : vldB a b c = true) (h' : vldB a' b' c' = true) : (cmp3 (a, b, c, ()) (a', b', c', ()) < 0 ↔ numL a b c < numL a' b' c') ∧ (cmp3 (a, b, c, ()) (a', b', c', ()) = 0 ↔ numL a b c = numL a' b' c') := by
  rw [numL_eq h, numL_eq h']
  rw [vldB_iff] at h h'
  unfold cmp3 sg
  dsimp only
  repeat' split <;> omega
theorem less_digs : ∀ (k m n : Nat), Op.bytesLess (digs m k) (digs n k) = decide (m % 10 ^ k < n % 10 ^ k)
  | 0, m, n => by simp [digs, Op.bytesLess, Nat.mod_one]
  | k + 1, m, n => by
    rw [digs_cons, digs_cons, Op.bytesLess, less_digs k m n, Nat.mod_pow_succ, Nat.mod_pow_succ]
    have hx := Nat.mod_lt m (Nat.pow_pos (n := k) (show 0 < 10 by decide))
    have hy := Nat.mod_lt n (Nat.pow_pos (n := k) (show 0 < 10 by decide))
    have e1 : ∀ a b : Nat, (UInt8.ofNat (48 + a % 10) < UInt8.ofNat (48 + b % 10)) ↔ a % 10 < b % 10 := fun a b => by
      rw [UInt8.lt_iff_toNat_lt, ofNat_dig, ofNat_dig]; omega
    have e2 : ∀ a b : Nat, (UInt8.ofNat (48 + a % 10) = UInt8.ofNat (48 + b % 10)) ↔ a % 10 = b % 10 := fun a b => by
      rw [← UInt8.toNat_inj, ofNat_dig, ofNat_dig]; omega
    rw [Bool.eq_iff_iff]
    simp only [Bool.or_eq_true, Bool.and_eq_true, decide_eq_true_eq, beq_iff_eq, e1, e2]
    generalize m / 10 ^ k % 10 = d1
    generalize n / 10 ^ k % 10 = d2
    generalize m % 10 ^ k = x at *
    generalize n % 10 ^ k = y at *
    generalize 10 ^ k = P at *
    rcases Nat.lt_trichotomy d1 d2 with h | h | h
    · have := Nat.mul_le_mul_left P (Nat.succ_le_of_lt h)
      rw [Nat.mul_succ] at this
      exact ⟨fun _ => by omega, fun _ => .inl h⟩
    · subst h
      exact ⟨fun h' => by rcases h' with h' | h' <;> omega, fun h' => .inr ⟨rfl, by omega⟩⟩
    · have := Nat.mul_le_mul_left P (Nat.succ_le_of_lt h)
      rw [Nat.mul_succ] at this
      exact ⟨fun h' => by rcases h' with h' | h' <;> omega, fun h' => by omega⟩
theorem digs_inj {m n : Nat} (hm : m < 10000000000) (hn : n < 10000000000) : digs m 10 = digs n 10 ↔ m = n := by
  refine ⟨fun h => ?_, fun h => by rw [h]⟩
  have := congrArg valL h
  rw [valL_digs, valL_digs, Nat.mod_eq_of_lt (by omega), Nat.mod_eq_of_lt (by omega)] at this
  exact this
theorem fmt_less {a b c a' b' c' : Int} (h : vldB a b c = true) (h' : vldB a' b' c' = true) : Op.bytesLess (fmt a b c) (fmt a' b' c') = decide (numL a b c < numL a' b' c') ∧ (fmt a b c = fmt a' b' c' ↔ numL a b c = numL a' b' c') := by
  have b1 := numL_bd h
  have b2 := numL_bd h'
  rw [fmt, fmt, if_pos h, if_pos h']
  generalize numL a b c = M at *
  generalize numL a' b' c' = N at *
  refine ⟨?_, ?_⟩
  · rw [less_digs, Nat.mod_eq_of_lt (by omega), Nat.mod_eq_of_lt (by omega), Bool.eq_iff_iff]
    simp only [decide_eq_true_eq]; omega
  · rw [digs_inj (by omega) (by omega)]; omega
/-- the words that a law draws from -/
abbrev SrcT : Type := List (Int × Unit) × Int × Unit
def okS (s : SrcT) : Prop := 0 ≤ s.2.1 ∧ s.2.1 ≤ s.1.length ∧ s.1.length ≤ 2000
/-- does a pattern fit a text? -/
def fits (p t : List UInt8) (n : Nat) : Bool := (List.range n).all fun i => p.getD i 0 == 63 || p.getD i 0 == t.getD i 0
def mtch (p t : List UInt8) : Bool := decide (p.length = 10) && (!(t == []) && fits p t 10)
theorem fits_succ (p t : List UInt8) (n : Nat) : fits p t (n + 1) = (fits p t n && (p.getD n 0 == 63 || p.getD n 0 == t.getD n 0)) := by
  simp [fits, List.range_succ, List.all_append]
theorem fits_false {p t : List UInt8} {k n : Nat} (hk : k < n) (h : (p.getD k 0 == 63 || p.getD k 0 == t.getD k 0) = false) : fits p t n = false := by
  unfold fits; rw [List.all_eq_false]; exact ⟨k, by simpa using hk, by rw [h]; decide⟩
/-- the plates that fit -/
def cands (p : List UInt8) (l : List Pl) : Nat → List (Int × Unit)
  | 0 => []
  | k + 1 => cands p l k ++ (if mtch p (fmt (l.getD k (0, 0, 0, ())).1 (l.getD k (0, 0, 0, ())).2.1 (l.getD k (0, 0, 0, ())).2.2.1) = true then [((k : Int), ())] else [])
theorem cands_len (p : List UInt8) (l : List Pl) : ∀ k, (cands p l k).length ≤ k
  | 0 => Nat.le_refl _
  | k + 1 => by
    have := cands_len p l k
    rw [cands, List.length_append]; split <;> simp <;> omega
theorem cands_mem (p : List UInt8) (l : List Pl) (i : Nat) : ∀ k, (cands p l k).any (fun x => x.1 == (i : Int)) = (decide (i < k) && mtch p (fmt (l.getD i (0, 0, 0, ())).1 (l.getD i (0, 0, 0, ())).2.1 (l.getD i (0, 0, 0, ())).2.2.1))
  | 0 => by simp [cands]
  | k + 1 => by
    rw [cands, List.any_append, cands_mem p l i k]
    rcases Nat.lt_trichotomy i k with h | h | h
    · rw [decide_eq_true h, decide_eq_true (show i < k + 1 by omega)]
      have : ((k : Int) == (i : Int)) = false := by simp; omega
      split <;> simp [this]
    · subst h
      rw [decide_eq_true (show i < i + 1 by omega)]
      split <;> simp_all
    · have h1 : decide (i < k) = false := by simp; omega
      have h2 : decide (i < k + 1) = false := by simp; omega
      have : ((k : Int) == (i : Int)) = false := by simp; omega
      rw [h1, h2]
      split <;> simp [this]
theorem lAt_nat {α : Type} (d : α) (l : List α) (k : Nat) : lAt d l (k : Int) = l.getD k d := rfl
theorem toBytes_of (q : List UInt8) : toBytes (ofBytes q) = q := by
  induction q with
  | nil => rfl
  | cons d l ih =>
    show UInt8.ofNat ((d.toNat : Int)).toNat :: toBytes (ofBytes l) = d :: l
    rw [ih]; simp
theorem ofBytes_len (q : List UInt8) : List.length (α := Int × Unit) (ofBytes q) = q.length := List.length_map _
theorem ofBytes_get : ∀ (q : List UInt8) (k : Nat), k < q.length → (List.getD (α := Int × Unit) (ofBytes q) k (0, ())).1 = ((q.getD k 0).toNat : Int)
  | [], k, h => by simp at h
  | a :: q, 0, h => rfl
  | a :: q, k + 1, h => ofBytes_get q k (by simpa using h)
theorem ofBytes_set : ∀ (q : List UInt8) (k : Nat) (x : UInt8), List.set (α := Int × Unit) (ofBytes q) k ((x.toNat : Int), ()) = ofBytes (q.set k x)
  | [], _, _ => rfl
  | _ :: _, 0, _ => rfl
  | a :: q, k + 1, x => congrArg (List.cons ((a.toNat : Int), ())) (ofBytes_set q k x)
theorem fmt_len {a b c : Int} (h : vldB a b c = true) : (fmt a b c).length = 10 := by rw [fmt, if_pos h, digs_len]
theorem fmt_ne {a b c : Int} (h : vldB a b c = true) : (fmt a b c == []) = false := by
  have := fmt_len h
  cases hf : fmt a b c with
  | nil => rw [hf] at this; cases this
  | cons _ _ => rfl
theorem byte_ne (x y : UInt8) : ((x.toNat : Int) != (y.toNat : Int)) = !(x == y) := by
  rw [Bool.eq_iff_iff]; simp [← UInt8.toNat_inj]; omega
theorem byte_eq (x y : UInt8) : ((x.toNat : Int) == (y.toNat : Int)) = (x == y) := by
  rw [Bool.eq_iff_iff]; simp [← UInt8.toNat_inj]; omega
/-- How many of the first k letters differ. -/
def dif (s t : List UInt8) : Nat → Int
  | 0 => 0
  | k + 1 => dif s t k + (if (s.getD k 0 == t.getD k 0) = true then 0 else 1)
theorem dif_bd (s t : List UInt8) : ∀ k : Nat, 0 ≤ dif s t k ∧ dif s t k ≤ k
  | 0 => ⟨Int.le_refl _, Int.le_refl _⟩
  | k + 1 => by
    have := dif_bd s t k
    rw [dif]; split <;> omega
/-- What Distance answers. -/
def dist (a b c a' b' c' : Int) : Int := if vldB a b c = true ∧ vldB a' b' c' = true then dif (fmt a b c) (fmt a' b' c') 10 else -1
theorem fmt_nil {a b c : Int} (h : vldB a b c = false) : fmt a b c = [] := by simp [fmt, h]
end Go.Proofs.Ytplngcjkghnkcaa
