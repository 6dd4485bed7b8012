/- Plain mathematics of chapter 2: numbers, digits. -/
import Derived.Test.YthoibdbhmacliaaDoorLibH
namespace Go.Proofs.YthoibdbhmacliaaDoor
open Go.Abs
theorem iter_inv {σ R : Type} {F : (σ → Option R) → σ → Option R} {r : Option R} (st : Nat → σ) (I : Nat → Prop) (m n : Nat) (hn : m < n) (h0 : I 0) (hs : ∀ rc k, k < m → I k → (F rc (st k) = rc (st (k + 1)) ∧ I (k + 1)) ∨ F rc (st k) = r) (he : ∀ rc, I m → F rc (st m) = r) : iter n F (st 0) = r := by
  suffices h : ∀ n k, m - k < n → k ≤ m → I k → iter n F (st k) = r from h n 0 (by omega) (Nat.zero_le _) h0
  intro n
  induction n with
  | zero => intro k hk; omega
  | succ n ih =>
    intro k hk hkm hi
    rcases Nat.lt_or_ge k m with hlt | hge
    · rcases hs (iter n F) k hlt hi with ⟨h, h'⟩ | h
      · exact h.trans (ih (k + 1) (by omega) hlt h')
      · exact h
    · have : k = m := by omega
      subst this
      exact he _ hi
theorem iter_ex {σ R : Type} {F : (σ → Option R) → σ → Option R} {r : Option R} (I : Nat → σ → Prop) (m n : Nat) (hn : m < n) {z : σ} (h0 : I 0 z) (hs : ∀ rc k z, k < m → I k z → (∃ z', F rc z = rc z' ∧ I (k + 1) z') ∨ F rc z = r) (he : ∀ rc z, I m z → F rc z = r) : iter n F z = r := by
  suffices h : ∀ n k z, m - k < n → k ≤ m → I k z → iter n F z = r from h n 0 z (by omega) (Nat.zero_le _) h0
  intro n
  induction n with
  | zero => intro k z hk; omega
  | succ n ih =>
    intro k z hk hkm hi
    rcases Nat.lt_or_ge k m with hlt | hge
    · rcases hs (iter n F) k z hlt hi with ⟨z', h, h'⟩ | h
      · exact h.trans (ih (k + 1) z' (by omega) hlt h')
      · exact h
    · have : k = m := by omega
      subst this
      exact he _ z hi
theorem iter_count {σ R : Type} {F : (σ → Option R) → σ → Option R} {r : Option R} (st : Nat → σ) (m n : Nat) (hn : m < n) (hs : ∀ rc k, k < m → F rc (st k) = rc (st (k + 1))) (he : ∀ rc, F rc (st m) = r) : iter n F (st 0) = r :=
  iter_inv st (fun _ => True) m n hn trivial (fun rc k hk _ => .inl ⟨hs rc k hk, trivial⟩) (fun rc _ => he rc)
theorem sAt_nat (s : List UInt8) (k : Nat) : sAt s (k : Int) = ((s.getD k 0).toNat : Int) := rfl
theorem inR_nat {k n : Nat} (h : k < n) : inR (k : Int) n = true := by simp [inR, h]
theorem inCut_nat {a b n : Nat} (h1 : a ≤ b) (h2 : b ≤ n) : inCut (a : Int) (b : Int) n = true := by simp [inCut, h1, h2]
theorem up1 {k n : Nat} (h : k < n) (hn : n ≤ 1000000000000000000) : IntKind.i64.wrap ((k : Int) + 1) = ((k + 1 : Nat) : Int) := wrapI (by omega) (by omega)

def digB (c : Int) : Bool := decide (48 ≤ c) && decide (c ≤ 57)
def digL (s : List UInt8) : Bool := s.all fun c => digB c.toNat
theorem digL_snoc (s : List UInt8) (k : Nat) (h : k < s.length) : digL (s.take (k + 1)) = (digL (s.take k) && digB (s.getD k 0).toNat) := by
  rw [take_snoc s 0 k h]; simp [digL]
theorem digL_false (s : List UInt8) (k : Nat) (h : k < s.length) (hb : digB (s.getD k 0).toNat = false) : digL s = false := by
  unfold digL
  rw [List.all_eq_false]
  refine ⟨s.getD k 0, ?_, by rw [hb]; decide⟩
  simp [List.getD, h]
def valL (s : List UInt8) : Nat := s.foldl (fun n c => 10 * n + (c - 48).toNat) 0
theorem valL_le (s : List UInt8) : valL s + 29 ≤ 29 * 10 ^ s.length := by
  suffices h : ∀ (s : List UInt8) (n k : Nat), n + 29 ≤ 29 * 10 ^ k → s.foldl (fun n c => 10 * n + (c - 48).toNat) n + 29 ≤ 29 * 10 ^ (k + s.length) by
    simpa [valL] using h s 0 0 (by decide)
  intro s
  induction s with
  | nil => intro n k h; simpa using h
  | cons c s ih =>
    intro n k h
    have h1 := (c - 48).toNat_lt
    have := ih (10 * n + (c - 48).toNat) (k + 1) (by rw [Nat.pow_succ]; omega)
    simpa [Nat.add_assoc, Nat.add_comm 1 s.length] using this
theorem valL_snoc (s : List UInt8) (k : Nat) (h : k < s.length) : valL (s.take (k + 1)) = 10 * valL (s.take k) + (s.getD k 0 - 48).toNat := by
  rw [take_snoc s 0 k h]; simp only [valL, List.foldl_append, List.foldl_cons, List.foldl_nil]
theorem valL_lt (s : List UInt8) (k : Nat) (h : k ≤ 10) : valL (s.take k) ≤ 290000000000 := by
  have h1 := valL_le (s.take k)
  have h2 : 10 ^ (s.take k).length ≤ 10 ^ 10 := Nat.pow_le_pow_right (by decide) (by simp; omega)
  omega
theorem valL_step (s : List UInt8) (hs : s.length ≤ 10) (k : Nat) (hlt : k < s.length) :
    IntKind.i64.wrap (IntKind.i64.wrap (10 * (valL (s.take k) : Int)) + IntKind.i64.wrap (IntKind.u8.wrap (((s.getD k 0).toNat : Int) - 48))) = ((valL (s.take (k + 1)) : Nat) : Int) := by
  have hb := valL_lt s k (by omega)
  have hb2 : (s.getD k 0 - 48).toNat < 256 := (s.getD k 0 - 48).toNat_lt
  have h2 : IntKind.u8.wrap (((s.getD k 0).toNat : Int) - 48) = ((s.getD k 0 - 48).toNat : Int) := sub8 (s.getD k 0) 48
  rw [h2, wrapI (x := 10 * (valL (s.take k) : Int)) (by omega) (by omega), wrapI (x := ((s.getD k 0 - 48).toNat : Int)) (by omega) (by omega), valL_snoc s k hlt, wrapI (by omega) (by omega)]
  omega
def digs : Nat → Nat → List UInt8
  | _, 0 => []
  | n, k + 1 => digs (n / 10) k ++ [UInt8.ofNat (48 + n % 10)]
theorem digs_cons : ∀ (k n : Nat), digs n (k + 1) = UInt8.ofNat (48 + n / 10 ^ k % 10) :: digs n k
  | 0, n => by simp [digs]
  | k + 1, n => by
    rw [digs, digs_cons k (n / 10), digs]
    rw [Nat.div_div_eq_div_mul, ← Nat.pow_succ']
    rfl
theorem digs_len : ∀ (k n : Nat), (digs n k).length = k
  | 0, _ => rfl
  | k + 1, n => by simp [digs, digs_len k]
theorem ofNat_dig (n : Nat) : (UInt8.ofNat (48 + n % 10)).toNat = 48 + n % 10 := by
  rw [UInt8.toNat_ofNat_of_lt' (by have := Nat.mod_lt n (show 10 > 0 by decide); show _ < 256; omega)]
theorem digs_digL : ∀ (k n : Nat), digL (digs n k) = true
  | 0, _ => rfl
  | k + 1, n => by
    have := digs_digL k (n / 10)
    unfold digL at *
    rw [digs, List.all_append, this]
    simp only [List.all_cons, List.all_nil, ofNat_dig, digB, Bool.and_true, Bool.true_and, Bool.and_eq_true, decide_eq_true_eq]
    omega
theorem valL_digs : ∀ (k n : Nat), valL (digs n k) = n % 10 ^ k
  | 0, n => by simp [digs, valL, Nat.mod_one]
  | k + 1, n => by
    have h := valL_digs k (n / 10)
    have : (UInt8.ofNat (48 + n % 10) - 48).toNat = n % 10 := by
      have h0 := ofNat_dig n
      have h1 : (48 : UInt8) ≤ UInt8.ofNat (48 + n % 10) := by
        rw [UInt8.le_iff_toNat_le, h0]; simp
      rw [UInt8.toNat_sub_of_le _ _ h1, h0]; simp
    rw [digs]
    simp only [valL, List.foldl_append, List.foldl_cons, List.foldl_nil] at h ⊢
    rw [h, this, Nat.pow_succ, Nat.mul_comm (10 ^ k) 10, Nat.mod_mul]
    omega
theorem dig_val2 (M : Nat) : IntKind.u8.wrap (IntKind.i64.wrap (48 + (M : Int).tmod 10)) = ((48 + M % 10 : Nat) : Int) := by
  have t1 : (M : Int).tmod 10 = ((M % 10 : Nat) : Int) := rfl
  rw [t1, wrapI (by omega) (by omega), wrap8]; omega
theorem div_val (N k : Nat) (h : N < 10000000000) : IntKind.i64.wrap (((N / 10 ^ k : Nat) : Int).tdiv 10) = ((N / 10 ^ (k + 1) : Nat) : Int) := by
  have t4 : ((N / 10 ^ k : Nat) : Int).tdiv 10 = ((N / 10 ^ (k + 1) : Nat) : Int) := by rw [Nat.pow_succ, ← Nat.div_div_eq_div_mul]; rfl
  rw [t4]
  have hM := Nat.div_le_self N (10 ^ (k + 1))
  generalize N / 10 ^ (k + 1) = M at hM ⊢
  exact wrapI (by omega) (by omega)
theorem valL_from (t : List UInt8) : ∀ n : Nat, t.foldl (fun n c => 10 * n + (c - 48).toNat) n = n * 10 ^ t.length + valL t := by
  induction t with
  | nil => intro n; simp [valL]
  | cons c t ih =>
    intro n
    rw [valL, List.foldl_cons, List.foldl_cons, ih, ih (10 * 0 + (c - 48).toNat), List.length_cons, Nat.pow_succ]
    rw [Nat.mul_zero, Nat.zero_add, Nat.add_mul, Nat.mul_comm (10 ^ t.length) 10, ← Nat.mul_assoc, Nat.mul_comm n 10]
    omega
theorem valL_app (s t : List UInt8) : valL (s ++ t) = valL s * 10 ^ t.length + valL t := by
  rw [valL, List.foldl_append, valL_from]; rfl
theorem dig_sub {c : UInt8} (h : digB c.toNat = true) : (c - 48).toNat = c.toNat - 48 ∧ 48 ≤ c.toNat ∧ c.toNat ≤ 57 := by
  simp only [digB, Bool.and_eq_true, decide_eq_true_eq] at h
  refine ⟨?_, by omega, by omega⟩
  rw [UInt8.toNat_sub_of_le _ _ (by rw [UInt8.le_iff_toNat_le]; simp; omega)]; rfl
theorem valL_bd : ∀ (n : Nat) (s : List UInt8), s.length = n → digL s = true → valL s < 10 ^ n ∧ digs (valL s) n = s
  | 0, s, h, _ => by
    have := List.length_eq_zero_iff.1 h
    subst this
    exact ⟨by decide, rfl⟩
  | n + 1, s, h, hd => by
    rcases List.eq_nil_or_concat s with rfl | ⟨t, c, rfl⟩
    · simp at h
    rw [List.concat_eq_append] at *
    simp only [digL, List.all_append, List.all_cons, List.all_nil, Bool.and_true, Bool.and_eq_true] at hd
    obtain ⟨k1, k2⟩ := valL_bd n t (by simpa using h) hd.1
    obtain ⟨h1, h2, h3⟩ := dig_sub hd.2
    have e : valL (t ++ [c]) = 10 * valL t + (c.toNat - 48) := by
      simp only [valL, List.foldl_append, List.foldl_cons, List.foldl_nil, h1]
    rw [e]
    refine ⟨by rw [Nat.pow_succ]; omega, ?_⟩
    rw [digs, show (10 * valL t + (c.toNat - 48)) / 10 = valL t by omega, k2, show 48 + (10 * valL t + (c.toNat - 48)) % 10 = c.toNat by omega]
    simp
theorem digL_take {s : List UInt8} (h : digL s = true) (n : Nat) : digL (s.take n) = true := by
  unfold digL at *; rw [List.all_eq_true] at *; exact fun x hx => h x (List.mem_of_mem_take hx)
theorem digL_drop {s : List UInt8} (h : digL s = true) (n : Nat) : digL (s.drop n) = true := by
  unfold digL at *; rw [List.all_eq_true] at *; exact fun x hx => h x (List.mem_of_mem_drop hx)
def rowsW (W n k : Nat) : List (Int × Unit) := List.replicate (W - k) (0, ()) ++ (digs n k).map fun d => ((d.toNat : Int), ())
theorem rowsW_len (W n k : Nat) (h : k ≤ W) : (rowsW W n k).length = W := by simp [rowsW, digs_len]; omega
theorem rowsW_set (W n k : Nat) (h : k < W) : (rowsW W n k).set (W - 1 - k) (((48 + n / 10 ^ k % 10 : Nat) : Int), ()) = rowsW W n (k + 1) := by
  unfold rowsW
  rw [digs_cons, show W - k = (W - 1 - k) + 1 by omega, List.replicate_succ', List.append_assoc, show W - (k + 1) = W - 1 - k by omega]
  rw [List.set_append_right _ _ (by simp)]
  rw [List.length_replicate, Nat.sub_self]
  simp only [List.cons_append, List.nil_append, List.set_cons_zero, List.map_cons, ofNat_dig]
theorem toB_map : ∀ l : List UInt8, toBytes (l.map fun d => ((d.toNat : Int), ())) = l := by
  intro l
  induction l with
  | nil => rfl
  | cons d l ih =>
    show UInt8.ofNat ((d.toNat : Int)).toNat :: toBytes (l.map fun d => ((d.toNat : Int), ())) = d :: l
    rw [ih]; simp
theorem rowsW_end (W n : Nat) : toBytes (rowsW W n W) = digs n W := by
  simp only [rowsW, Nat.sub_self, List.replicate_zero, List.nil_append]
  exact toB_map _
end Go.Proofs.YthoibdbhmacliaaDoor
