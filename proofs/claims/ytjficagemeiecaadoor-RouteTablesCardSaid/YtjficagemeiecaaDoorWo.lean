/- Chapter 08: what the functions come to; the law. -/
import Derived.Test.YtjficagemeiecaaDoorWb
import Derived.KernelRfl
open Go Go.Proofs Go.Abs
set_option linter.unusedVariables false
set_option maxRecDepth 100000
namespace Go.Proofs.YtjficagemeiecaaDoor
theorem iter_q {σ R : Type} {F : (σ → Option R) → σ → Option R} (Q : Option R → Prop) (I : Nat → σ → Prop) (m n : Nat) (hn : m < n) {z : σ} (h0 : I 0 z)
  (hs : ∀ rc k z, k < m → I k z → (∃ z', F rc z = rc z' ∧ I (k + 1) z') ∨ Q (F rc z)) (he : ∀ rc z, I m z → Q (F rc z)) : Q (iter n F z) := by
 suffices h : ∀ n k z, m - k < n → k ≤ m → I k z → Q (iter n F z) from h n 0 z (by omega) (Nat.zero_le _) h0
 intro n
 induction n with
 | zero => intro k z hk; omega
 | succ n ih =>
  intro k z hk hkm hi
  rw [iter_succ]
  rcases Nat.lt_or_ge k m with hlt | hge
  ·rcases hs (iter n F) k z hlt hi with ⟨z', h1, h2⟩ | h
   ·rw [h1]; exact ih (k + 1) z' (by omega) hlt h2
   ·exact h
  ·have : k = m := by omega
   subst this
   exact he _ z hi
theorem iter_all {σ R : Type} {F : (σ → Option R) → σ → Option R} (Q : Option R → Prop) (p : Nat → Prop) (st : Nat → σ) (m n : Nat) (hn : m < n)
  (hs : ∀ rc k, k < m → (∀ j, j < k → p j) → (p k ∧ F rc (st k) = rc (st (k + 1))) ∨ (¬ p k ∧ Q (F rc (st k)))) (he : ∀ rc, (∀ j, j < m → p j) → Q (F rc (st m))) : Q (iter n F (st 0)) :=
 iter_q Q (fun k z => z = st k ∧ ∀ j, j < k → p j) m n hn ⟨rfl, fun j hj => absurd hj (Nat.not_lt_zero _)⟩ (fun rc k z hk hz => by
  obtain ⟨rfl, hp⟩ := hz
  rcases hs rc k hk hp with ⟨h1, h2⟩ | ⟨_, h⟩
  ·refine .inl ⟨_, h2, rfl, fun j hj => ?_⟩
   rcases Nat.lt_or_ge j k with h | h
   ·exact hp j h
   ·rw [show j = k by omega]; exact h1
  ·exact .inr h) (fun rc z hz => by obtain ⟨rfl, hp⟩ := hz; exact he rc hp)
def AnB (o : Option (Bool × Unit)) (P : Prop) : Prop := ∃ b, o = some (b, ()) ∧ (b = true ↔ P)
def AnE (o : Option (Int × Unit)) (P : Prop) : Prop := ∃ e, o = some (e, ()) ∧ (e = 0 ↔ P)
theorem AnB.t {P : Prop} (h : P) : AnB (some (true, ())) P := ⟨true, rfl, ⟨fun _ => h, fun _ => rfl⟩⟩
theorem AnB.f {P : Prop} (h : ¬ P) : AnB (some (false, ())) P := ⟨false, rfl, ⟨fun e => (nomatch e), fun k => absurd k h⟩⟩
theorem AnB.of {P : Prop} {b : Bool} (h : b = true ↔ P) : AnB (some (b, ())) P := ⟨b, rfl, h⟩
theorem AnE.z {P : Prop} (h : P) : AnE (some (0, ())) P := ⟨0, rfl, ⟨fun _ => h, fun _ => rfl⟩⟩
theorem AnE.n {P : Prop} {e : Int} (he : e ≠ 0) (h : ¬ P) : AnE (some (e, ())) P := ⟨e, rfl, ⟨fun k => absurd k he, fun k => absurd k h⟩⟩
def ltB (c : Int) : Bool := decide (65 ≤ c) && decide (c ≤ 90)
def dgB (c : Int) : Bool := decide (48 ≤ c) && decide (c ≤ 57)
theorem e72g (c : Int) : sp72 (c, ()) = some (ltB c, ()) := e72 c
theorem e75g (c : Int) : sp75 (c, ()) = some (dgB c, ()) := by
 show sh75 0 c = _
 unfold sh75 dgB; simp only [joinK, sh75_K0]; split <;> (try simp_all) <;> omega
theorem e69g (c : Int) : sp69 (c, ()) = some (ltB c, ()) := by
 show sh69 0 c = _
 unfold sh69 ltB; simp only [joinK, sh69_K0]; split <;> (try simp_all) <;> omega
theorem e70g (c : Int) : sp70 (c, ()) = some (dgB c, ()) := by
 show sh70 0 c = _
 unfold sh70 dgB; simp only [joinK, sh70_K0]; split <;> (try simp_all) <;> omega
def NameP (s : List UInt8) : Prop := 1 ≤ s.length ∧ s.length ≤ 12 ∧ ltB (sAt s 0) = true ∧ ∀ k : Nat, k < s.length → (ltB (sAt s (k : Int)) = true ∨ dgB (sAt s (k : Int)) = true)
theorem e61g (s : List UInt8) : AnB (sp61 (s, 12, ())) (NameP s) := by
 show AnB (sh61 100000 s 12) _
 unfold sh61
 simp only [joinK]
 by_cases h0 : s = []
 ·subst h0
  rw [if_neg (by decide)]
  exact AnB.f fun h => absurd h.1 (by decide)
 have hp : 0 < s.length := List.length_pos_iff.2 h0
 rw [if_pos (by simpa using h0)]
 by_cases h12 : s.length ≤ 12
 ·rw [if_pos (by simp only [decide_eq_true_eq]; omega), if_pos (by simpa [inR] using hp), e72g, Option.bind_some]
  simp only
  by_cases hl : ltB (sAt s 0) = true
  ·rw [if_pos hl]
   refine iter_all (F := sh61_L5 sh61_K0 (sh61_K3 sh61_K0)) (fun o => AnB o (NameP s)) (fun k => ltB (sAt s (k : Int)) = true ∨ dgB (sAt s (k : Int)) = true) (fun k : Nat => (true, s, (s.length : Int), (k : Int), ())) s.length 100000 (by omega) (fun rc k hk hj => ?_) (fun rc hj => ?_)
   ·simp only [sh61_L5, joinK]
    rw [if_pos (by simpa using hk), if_pos (inR_nat hk), e72g, Option.bind_some]
    simp only
    by_cases hc : ltB (sAt s (k : Int)) = true
    ·rw [if_pos hc]
     simp only [sh61_K6]
     rw [if_neg (by decide), up1' hk]
     exact .inl ⟨.inl hc, rfl⟩
    ·rw [if_neg hc, e75g, Option.bind_some]
     simp only [sh61_K6]
     by_cases hd : dgB (sAt s (k : Int)) = true
     ·rw [hd, if_neg (by decide), up1' hk]
      exact .inl ⟨.inr rfl, rfl⟩
     ·have hd' : dgB (sAt s (k : Int)) = false := by simpa using hd
      have hn : ¬ (ltB (sAt s (k : Int)) = true ∨ dgB (sAt s (k : Int)) = true) := fun h => h.elim hc hd
      rw [hd', if_pos (by decide), if_pos trivial]
      exact .inr ⟨by rw [← hd']; exact hn, AnB.f fun h => hn (h.2.2.2 k hk)⟩
   ·simp only [sh61_L5]
    rw [if_neg (by simp)]
    exact AnB.t ⟨hp, h12, hl, hj⟩
  ·rw [if_neg hl]
   exact AnB.f fun h => hl h.2.2.1
 ·rw [if_neg (by simp only [decide_eq_true_eq]; omega)]
  exact AnB.f fun h => h12 h.2.1
theorem e54g (s : List UInt8) : AnB (sp54 (s, ())) (NameP s) := by
 show AnB (sh54 100000 s) _
 unfold sh54
 simp only [joinK]
 by_cases h1 : s.length < 1
 ·rw [if_pos (by simp only [decide_eq_true_eq]; omega)]
  simp only [sh54_K0]
  rw [if_pos trivial]
  exact AnB.f fun h => by have := h.1; omega
 rw [if_neg (by simp only [decide_eq_true_eq]; omega)]
 by_cases h12 : 12 < s.length
 ·rw [if_pos (by simp only [decide_eq_true_eq]; omega)]
  simp only [sh54_K0]
  rw [if_pos trivial]
  exact AnB.f fun h => by have := h.2.1; omega
 rw [if_neg (by simp only [decide_eq_true_eq]; omega), if_pos (by simp [inR]; omega), e69g, Option.bind_some]
 simp only [sh54_K0]
 by_cases hl : ltB (sAt s 0) = true
 ·rw [hl, if_neg (by decide)]
  simp only [joinK]
  refine iter_all (F := sh54_L3 sh54_K1) (fun o => AnB o (NameP s)) (fun k => ltB (sAt s (k : Int)) = true ∨ dgB (sAt s (k : Int)) = true) (fun k : Nat => (s, (k : Int), ())) s.length 100000 (by omega) (fun rc k hk hj => ?_) (fun rc hj => ?_)
  ·simp only [sh54_L3, joinK]
   rw [if_pos (by simpa using hk), if_pos (inR_nat hk), e69g, Option.bind_some]
   simp only
   by_cases hc : ltB (sAt s (k : Int)) = true
   ·rw [hc, if_neg (by decide)]
    simp only [sh54_K4]
    rw [if_neg (by decide), up1' hk]
    exact .inl ⟨.inl trivial, rfl⟩
   ·have hc' : ltB (sAt s (k : Int)) = false := by simpa using hc
    rw [hc', if_pos (by decide), if_pos (inR_nat hk), e70g, Option.bind_some]
    simp only [sh54_K4]
    by_cases hd : dgB (sAt s (k : Int)) = true
    ·rw [hd, if_neg (by decide), up1' hk]
     exact .inl ⟨.inr rfl, rfl⟩
    ·have hd' : dgB (sAt s (k : Int)) = false := by simpa using hd
     rw [hd', if_pos (by decide)]
     refine .inr ⟨fun h => h.elim (fun e => nomatch e) (fun e => nomatch e), AnB.f fun h => ?_⟩
     exact (h.2.2.2 k hk).elim hc hd
  ·simp only [sh54_L3]
   rw [if_neg (by simp)]
   exact AnB.t ⟨by omega, by omega, hl, hj⟩
 ·have hl' : ltB (sAt s 0) = false := by simpa using hl
  rw [hl', if_pos (by decide)]
  exact AnB.f fun h => hl h.2.2.1
def LenP (x : Nd) : Prop := (x.2.1 ≤ 6 → (if x.2.1 = 5 then 2 else 1) ≤ x.2.2.1 ∧ x.2.2.1 ≤ 8) ∧ (6 < x.2.1 → x.2.2.1 = 0)
def exK (x : Nd) (k : Nat) : Int := (lAt (0, ()) x.2.2.2.2.1 (k : Int)).1
def ExP (n i : Nat) (x : Nd) (k : Nat) : Prop := 0 ≤ exK x k ∧ exK x k < n ∧ (exK x k = i ↔ x.2.1 = 5 ∧ k = 0) ∧ ∀ j, j < k → exK x j ≠ exK x k
structure NodeOK (n i : Nat) (x : Nd) : Prop where
 name : NameP x.1
 k1 : 1 ≤ x.2.1
 k9 : x.2.1 ≤ 9
 len : LenP x
 zone : x.2.2.2.1 = 0 ∨ x.2.2.2.1 = 1
 cnt : x.2.2.2.2.1.length = exitsN x.2.1
 ex : ∀ k, k < x.2.2.2.2.1.length → ExP n i x k
theorem e62g {x : Nd} (k1 : 1 ≤ x.2.1) : AnB (sp62 (x, ())) (LenP x) := by
 show AnB (sh62 0 x) _
 unfold sh62
 rw [e44, Option.bind_some, decide_eq_true k1, Bool.true_and]
 by_cases h6 : x.2.1 ≤ 6
 ·rw [decide_eq_true h6, if_neg (by decide)]
  simp only [joinK, sh62_K1, sh62_K3]
  by_cases h5 : x.2.1 = 5
  ·rw [if_pos (by simpa using h5)]
   by_cases h2 : 2 ≤ x.2.2.1
   ·rw [if_pos (by simpa using h2)]
    refine AnB.of ?_
    unfold LenP; rw [if_pos h5]; simp only [decide_eq_true_eq]; exact ⟨fun h => ⟨fun _ => ⟨h2, h⟩, fun _ => by omega⟩, fun h => (h.1 h6).2⟩
   ·rw [if_neg (by simpa using h2)]
    exact AnB.f fun h => h2 (by have := (h.1 h6).1; rwa [if_pos h5] at this)
  ·rw [if_neg (by simpa using h5)]
   by_cases h2 : 1 ≤ x.2.2.1
   ·rw [if_pos (by simpa using h2)]
    refine AnB.of ?_
    unfold LenP; rw [if_neg h5]; simp only [decide_eq_true_eq]; exact ⟨fun h => ⟨fun _ => ⟨h2, h⟩, fun _ => by omega⟩, fun h => (h.1 h6).2⟩
   ·rw [if_neg (by simpa using h2)]
    exact AnB.f fun h => h2 (by have := (h.1 h6).1; rwa [if_neg h5] at this)
 ·rw [decide_eq_false h6, if_pos (by decide)]
  refine AnB.of ?_
  simp only [beq_iff_eq]
  exact ⟨fun h => ⟨fun k => absurd k h6, fun _ => h⟩, fun h => h.2 (by omega)⟩
theorem e77g (l : IL) (x : Int) (hl : l.length ≤ 90000) : AnB (sp77 (l, x, ())) (∃ j : Nat, j < l.length ∧ (lAt (0, ()) l (j : Int)).1 = x) := by
 suffices h : ∃ r : Int, sp80 (l, x, ()) = some (r, ()) ∧ (0 ≤ r ↔ ∃ j : Nat, j < l.length ∧ (lAt (0, ()) l (j : Int)).1 = x) by
  obtain ⟨r, h1, h2⟩ := h
  show AnB (sh77 0 l x) _
  unfold sh77
  rw [h1, Option.bind_some]
  exact AnB.of (by simpa using h2)
 show ∃ r : Int, sh80 100000 l x = some (r, ()) ∧ _
 unfold sh80
 simp only [joinK]
 refine iter_all (F := sh80_L2 sh80_K0) (fun o => ∃ r : Int, o = some (r, ()) ∧ (0 ≤ r ↔ ∃ j : Nat, j < l.length ∧ (lAt (0, ()) l (j : Int)).1 = x)) (fun k => (lAt (0, ()) l (k : Int)).1 ≠ x) (fun k : Nat => (l, x, (l.length : Int), (k : Int), ())) l.length 100000 (by omega) (fun rc k hk hj => ?_) (fun rc hj => ?_)
 ·simp only [sh80_L2]
  rw [if_pos (by simpa using hk), if_pos (inR_nat hk)]
  by_cases he : (lAt (0, ()) l (k : Int)).1 = x
  ·rw [if_pos (by simpa using he.symm)]
   exact .inr ⟨fun h => h he, _, rfl, ⟨fun _ => ⟨k, hk, he⟩, fun _ => by omega⟩⟩
  ·rw [if_neg (by simpa using fun e => he e.symm), up1' hk]
   exact .inl ⟨he, rfl⟩
 ·simp only [sh80_L2]
  rw [if_neg (by simp)]
  exact ⟨-1, rfl, ⟨fun h => by omega, fun ⟨j, h1, h2⟩ => absurd h2 (hj j h1)⟩⟩
theorem lAt_take (l : IL) {j k : Nat} (h : j < k) (hk : k ≤ l.length) : lAt (0, ()) (l.take k) (j : Int) = lAt (0, ()) l (j : Int) := by
 rw [lAt_nat _ _ _ (by rw [List.length_take]; omega), lAt_nat _ _ _ (by omega), List.getElem_take]
theorem e63g {ns : List Nd} {ds : List Dv} {i : Nat} (hi : i < ns.length) (hn : ns.length ≤ 90000) {x : Nd} (hx : lAt ([], 0, 0, 0, [], ()) ns (i : Int) = x) (hc : x.2.2.2.2.1.length ≤ 90000) :
  AnB (sp63 ((ns, ds, ()), (i : Int), ())) (x.2.2.2.2.1.length = exitsN x.2.1 ∧ ∀ k, k < x.2.2.2.2.1.length → ExP ns.length i x k) := by
 show AnB (sh63 100000 (ns, ds, ()) (i : Int)) _
 unfold sh63
 simp only
 rw [if_pos (inR_nat hi), hx, e76, Option.bind_some]
 simp only
 by_cases hct : x.2.2.2.2.1.length = exitsN x.2.1
 ·rw [if_neg (by simp [hct])]
  simp only [joinK]
  refine iter_all (F := sh63_L3 sh63_K1) (fun o => AnB o (x.2.2.2.2.1.length = exitsN x.2.1 ∧ ∀ k, k < x.2.2.2.2.1.length → ExP ns.length i x k)) (ExP ns.length i x) (fun k : Nat => ((i : Int), x.2.2.2.2.1, (x.2.2.2.2.1.length : Int), (k : Int), (ns, ds, ()), x, ())) x.2.2.2.2.1.length 100000 (by omega) (fun rc k hk hj => ?_) (fun rc hj => ?_)
  ·have own : ∀ b : Bool, b = (decide (x.2.1 = 5) && decide (k = 0)) → (ExP ns.length i x k ∧ sh63_K4 rc ((i : Int), (k : Int), exK x k, b, x.2.2.2.2.1, (x.2.2.2.2.1.length : Int), (k : Int), (ns, ds, ()), x, ()) = rc ((i : Int), x.2.2.2.2.1, (x.2.2.2.2.1.length : Int), ((k + 1 : Nat) : Int), (ns, ds, ()), x, ())) ∨
     (¬ ExP ns.length i x k ∧ AnB (sh63_K4 rc ((i : Int), (k : Int), exK x k, b, x.2.2.2.2.1, (x.2.2.2.2.1.length : Int), (k : Int), (ns, ds, ()), x, ())) (x.2.2.2.2.1.length = exitsN x.2.1 ∧ ∀ k, k < x.2.2.2.2.1.length → ExP ns.length i x k)) := by
    intro b hb
    have bad : ¬ ExP ns.length i x k → AnB (some (false, ())) (x.2.2.2.2.1.length = exitsN x.2.1 ∧ ∀ k, k < x.2.2.2.2.1.length → ExP ns.length i x k) := fun h => AnB.f fun h' => h (h'.2 k hk)
    have hbi : b = true ↔ x.2.1 = 5 ∧ k = 0 := by rw [hb]; simp
    simp only [sh63_K4, joinK, sh63_K5]
    by_cases h1 : exK x k < 0
    ·rw [if_pos (decide_eq_true h1), if_pos trivial]
     have hn : ¬ ExP ns.length i x k := fun h => by have := h.1; omega
     exact .inr ⟨hn, bad hn⟩
    rw [if_neg (by simpa using h1)]
    by_cases h2 : (ns.length : Int) ≤ exK x k
    ·rw [if_pos (decide_eq_true h2), if_pos trivial]
     have hn : ¬ ExP ns.length i x k := fun h => by have := h.2.1; omega
     exact .inr ⟨hn, bad hn⟩
    rw [if_neg (by simpa using h2)]
    by_cases h3 : (exK x k == (i : Int)) = b
    ·have h3' : (exK x k = i ↔ x.2.1 = 5 ∧ k = 0) := by rw [← hbi, ← h3]; simp
     have hcut : cutL x.2.2.2.2.1 0 (k : Int) = x.2.2.2.2.1.take k := by simp [cutL]
     have hc0 : inCut 0 (k : Int) x.2.2.2.2.1.length = true := inCut_nat (a := 0) (Nat.zero_le _) (Nat.le_of_lt hk)
     obtain ⟨c, hc1, hc2⟩ := e77g (x.2.2.2.2.1.take k) (exK x k) (by rw [List.length_take]; omega)
     rw [h3, if_neg (by cases b <;> decide), if_pos hc0, hcut, hc1, Option.bind_some]
     simp only
     by_cases hct : c = true
     ·rw [if_pos hct]
      obtain ⟨j, hj1, hj2⟩ := hc2.1 hct
      rw [List.length_take] at hj1
      rw [lAt_take _ (by omega) (Nat.le_of_lt hk)] at hj2
      have hn : ¬ ExP ns.length i x k := fun h => h.2.2.2 j (by omega) hj2
      exact .inr ⟨hn, bad hn⟩
     ·rw [if_neg hct, up1' hk]
      refine .inl ⟨⟨by omega, by omega, h3', fun j hj e => hct (hc2.2 ⟨j, by rw [List.length_take]; omega, ?_⟩)⟩, rfl⟩
      rw [lAt_take _ hj (Nat.le_of_lt hk)]; exact e
    ·have h3b : (!(exK x k == (i : Int)) == b) = true := by
      revert h3; cases (exK x k == (i : Int)) <;> cases b <;> simp
     rw [if_pos h3b, if_pos trivial]
     have hn : ¬ ExP ns.length i x k := fun h => h3 (by
      rw [Bool.eq_iff_iff, beq_iff_eq, hbi]; exact h.2.2.1)
     exact .inr ⟨hn, bad hn⟩
   simp only [sh63_L3, joinK]
   rw [if_pos (by simpa using hk), if_pos (inR_nat hk)]
   by_cases h5 : x.2.1 = 5
   ·rw [if_pos (by simpa using h5)]
    refine own _ ?_
    rw [decide_eq_true h5, Bool.true_and, Bool.eq_iff_iff]
    simp
   ·rw [if_neg (by simpa using h5)]
    refine own _ ?_
    rw [decide_eq_false h5]; rfl
  ·simp only [sh63_L3]
   rw [if_neg (by simp)]
   exact AnB.t ⟨hct, hj⟩
 ·rw [if_pos (by simp only [bne_iff_ne, ne_eq]; omega)]
  exact AnB.f fun h => hct h.1
theorem e45g {ns : List Nd} {ds : List Dv} {i : Nat} (hi : i < ns.length) (hn : ns.length ≤ 90000) {x : Nd} (hx : lAt ([], 0, 0, 0, [], ()) ns (i : Int) = x) (hc : x.2.2.2.2.1.length ≤ 90000) :
  AnE (sp45 ((ns, ds, ()), (i : Int), ())) (NodeOK ns.length i x) := by
 show AnE (sh45 0 (ns, ds, ()) (i : Int)) _
 unfold sh45
 simp only
 obtain ⟨a, ha, hai⟩ := e61g x.1
 rw [if_pos (inR_nat hi), hx, ha, Option.bind_some]
 simp only [joinK]
 cases a with
 | false => rw [if_pos (by decide)]; exact AnE.n (by decide) fun h => by have := hai.2 h.name; cases this
 | true =>
  rw [if_neg (by decide)]
  have hname := hai.1 rfl
  have k1 : ∀ b : Bool, (b = true ↔ x.2.1 < 1 ∨ 9 < x.2.1) → AnE (sh45_K1 ((i : Int), b, (ns, ds, ()), x, ())) (NodeOK ns.length i x) := by
   intro b hb
   simp only [sh45_K1, joinK]
   by_cases hbt : b = true
   ·rw [if_pos hbt]
    exact AnE.n (by decide) fun h => by have := h.k1; have := h.k9; have := hb.1 hbt; omega
   rw [if_neg hbt]
   have hk : 1 ≤ x.2.1 ∧ x.2.1 ≤ 9 := by
    have : ¬ (x.2.1 < 1 ∨ 9 < x.2.1) := fun h => hbt (hb.2 h)
    omega
   obtain ⟨c, hc1, hc2⟩ := e62g hk.1
   rw [hc1, Option.bind_some]
   simp only [sh45_K2]
   cases c with
   | false => rw [if_pos (by decide), if_pos trivial]; exact AnE.n (by decide) fun h => by have := hc2.2 h.len; cases this
   | true =>
    rw [if_neg (by decide)]
    obtain ⟨d, hd1, hd2⟩ := e63g (ds := ds) hi hn hx hc
    have fin : x.2.2.2.1 = 0 ∨ x.2.2.2.1 = 1 → AnE (if (!d) = true then some ((1 : Int), ()) else some (0, ())) (NodeOK ns.length i x) := fun hz => by
     cases d with
     | false => rw [if_pos (by decide)]; exact AnE.n (by decide) fun h => by have := hd2.2 ⟨h.cnt, h.ex⟩; cases this
     | true =>
      rw [if_neg (by decide)]
      exact AnE.z ⟨hname, hk.1, hk.2, hc2.1 rfl, hz, (hd2.1 rfl).1, (hd2.1 rfl).2⟩
    by_cases h0 : x.2.2.2.1 = 0
    ·rw [if_neg (by simpa using h0), hd1, Option.bind_some]
     exact fin (.inl h0)
    ·rw [if_pos (by simpa using h0)]
     by_cases h1 : x.2.2.2.1 = 1
     ·rw [if_neg (by simpa using h1), hd1, Option.bind_some]
      exact fin (.inr h1)
     ·rw [if_pos (by simpa using h1), if_pos trivial]
      exact AnE.n (by decide) fun h => h.zone.elim h0 h1
  by_cases h1 : x.2.1 < 1
  ·rw [if_pos (decide_eq_true h1)]; exact k1 _ ⟨fun _ => .inl h1, fun _ => rfl⟩
  ·rw [if_neg (by simpa using h1)]; exact k1 _ (by simp only [decide_eq_true_eq]; omega)
theorem e60g (a lo hi : Int) : sp60 (a, lo, hi, ()) = some (decide (lo ≤ a) && decide (a ≤ hi), ()) := by
 show sh60 0 a lo hi = _
 unfold sh60; simp only [joinK, sh60_K0]; split <;> (try simp_all) <;> omega
theorem e20g (k : Int) : sp20 (k, ()) = some (decide (1 ≤ k) && decide (k ≤ 6), ()) := by
 show sh20 0 k = _
 unfold sh20; simp only [joinK, sh20_K0]; split <;> (try simp_all) <;> omega
theorem e55g (k : Int) : sp55 (k, ()) = some ((exitsN k : Int), ()) := by
 show sh55 0 k = _
 unfold sh55 exitsN
 simp only [joinK, sh55_K0, sh55_K1]
 by_cases h4 : k = 4
 ·subst h4; rfl
 by_cases h5 : k = 5
 ·subst h5; rfl
 by_cases h6 : k = 6
 ·subst h6; rfl
 rw [if_neg (by simpa using h4), if_neg (by simpa using h5), show (k == 6) = false by simpa using h6, if_neg (by decide)]
 by_cases h8 : k = 8
 ·subst h8; rfl
 by_cases h9 : k = 9
 ·subst h9; rfl
 rw [if_neg (by simpa using h8), show (k == 9) = false by simpa using h9, if_neg (by decide), if_neg (show ¬ (k = 8 ∨ k = 9) by omega), if_neg (show ¬ (k = 4 ∨ k = 5 ∨ k = 6) by omega)]
 rfl
theorem exitsN_le (k : Int) : exitsN k ≤ 2 := by unfold exitsN; split; exact Nat.zero_le _; split <;> decide
def ExQ (n i : Nat) (x : Nd) (k : Nat) : Prop := 0 ≤ exK x k ∧ exK x k < n ∧ (exK x k = i ↔ x.2.1 = 5 ∧ k = 0)
theorem e56g {ns : List Nd} {ds : List Dv} {i : Nat} (hi : i < ns.length) (hn : ns.length ≤ 90000) {x : Nd} (hx : lAt ([], 0, 0, 0, [], ()) ns (i : Int) = x) (hc : x.2.2.2.2.1.length ≤ 90000) :
  AnE (sp56 ((ns, ds, ()), (i : Int), ())) (NodeOK ns.length i x) := by
 show AnE (sh56 100000 (ns, ds, ()) (i : Int)) _
 unfold sh56
 simp only
 obtain ⟨a, ha, hai⟩ := e54g x.1
 rw [if_pos (inR_nat hi), hx, ha, Option.bind_some]
 simp only [joinK]
 cases a with
 | false => rw [if_pos (by decide)]; exact AnE.n (by decide) fun h => by have := hai.2 h.name; cases this
 | true =>
 rw [if_neg (by decide), e60g, Option.bind_some]
 simp only
 by_cases hk : 1 ≤ x.2.1 ∧ x.2.1 ≤ 9
 case neg =>
  rw [if_pos (by simp only [Bool.not_eq_true', Bool.and_eq_false_iff, decide_eq_false_iff_not]; omega)]
  exact AnE.n (by decide) fun h => hk ⟨h.k1, h.k9⟩
 rw [if_neg (by simp [hk.1, hk.2])]
 have hname := hai.1 rfl
 have k4 : ∀ b : Bool, (b = false ↔ LenP x ∧ (x.2.2.2.1 = 0 ∨ x.2.2.2.1 = 1) ∧ x.2.2.2.2.1.length = exitsN x.2.1) → AnE (sh56_K4 100000 ((i : Int), b, (ns, ds, ()), x, ())) (NodeOK ns.length i x) := by
  intro b hb
  simp only [sh56_K4, joinK]
  cases b with
  | true => rw [if_pos rfl]; exact AnE.n (by decide) fun h => by have := hb.2 ⟨h.len, h.zone, h.cnt⟩; cases this
  | false =>
   obtain ⟨b1, b2, b3⟩ := hb.1 rfl
   rw [if_neg (by decide)]
   refine iter_all (F := sh56_L9 sh56_K5) (fun o => AnE o (NodeOK ns.length i x)) (ExQ ns.length i x) (fun k : Nat => ((i : Int), (k : Int), (ns, ds, ()), x, ())) x.2.2.2.2.1.length 100000 (by omega) (fun rc k hk hj => ?_) (fun rc hj => ?_)
   ·have own : ∀ b : Bool, (b = true ↔ x.2.1 = 5 ∧ k = 0) → (ExQ ns.length i x k ∧ sh56_K10 rc ((i : Int), (k : Int), b, (ns, ds, ()), x, ()) = rc ((i : Int), ((k + 1 : Nat) : Int), (ns, ds, ()), x, ())) ∨
      (¬ ExQ ns.length i x k ∧ AnE (sh56_K10 rc ((i : Int), (k : Int), b, (ns, ds, ()), x, ())) (NodeOK ns.length i x)) := by
     intro b hbi
     have bad : ¬ ExQ ns.length i x k → AnE (some ((1 : Int), ())) (NodeOK ns.length i x) := fun h => AnE.n (by decide) fun h' => h ⟨(h'.ex k hk).1, (h'.ex k hk).2.1, (h'.ex k hk).2.2.1⟩
     simp only [sh56_K10, joinK, sh56_K11]
     rw [if_pos (inR_nat hk), show IntKind.i64.wrap ((ns.length : Int) - 1) = (ns.length : Int) - 1 from wrapI (by omega) (by omega), e60g, Option.bind_some]
     simp only
     change (ExQ ns.length i x k ∧ (if (!(decide (0 ≤ exK x k) && decide (exK x k ≤ (ns.length : Int) - 1))) = true then _ else _) = _) ∨ (_ ∧ AnE (if (!(decide (0 ≤ exK x k) && decide (exK x k ≤ (ns.length : Int) - 1))) = true then _ else _) _)
     by_cases h1 : 0 ≤ exK x k ∧ exK x k < ns.length
     ·have hcond : ¬ (!(decide (0 ≤ exK x k) && decide (exK x k ≤ (ns.length : Int) - 1))) = true := by
       rw [decide_eq_true h1.1, decide_eq_true (by omega)]; decide
      rw [if_neg hcond]
      by_cases h3 : (exK x k == (i : Int)) = b
      ·have h3' : (exK x k = i ↔ x.2.1 = 5 ∧ k = 0) := by rw [← hbi, ← h3]; simp
       have h3b : ¬ (!(exK x k == (i : Int)) == b) = true := by rw [h3]; cases b <;> decide
       refine .inl ⟨⟨h1.1, h1.2, h3'⟩, ?_⟩
       rw [if_pos (inR_nat hk)]
       change (if (!(exK x k == (i : Int)) == b) = true then _ else _) = _
       rw [if_neg h3b, up1' hk]
      ·have h3b : (!(exK x k == (i : Int)) == b) = true := by
        revert h3; cases (exK x k == (i : Int)) <;> cases b <;> simp
       have hn : ¬ ExQ ns.length i x k := fun h => h3 (by
        rw [Bool.eq_iff_iff, beq_iff_eq, hbi]; exact h.2.2)
       refine .inr ⟨hn, ?_⟩
       rw [if_pos (inR_nat hk)]
       change AnE (if (!(exK x k == (i : Int)) == b) = true then _ else _) _
       rw [if_pos h3b]
       exact bad hn
     ·have hcond : (!(decide (0 ≤ exK x k) && decide (exK x k ≤ (ns.length : Int) - 1))) = true := by
       simp only [Bool.not_eq_true', Bool.and_eq_false_iff, decide_eq_false_iff_not]; omega
      have hn : ¬ ExQ ns.length i x k := fun h => h1 ⟨h.1, h.2.1⟩
      refine .inr ⟨hn, ?_⟩
      rw [if_pos hcond, if_pos trivial]
      exact bad hn
    simp only [sh56_L9, joinK]
    rw [if_pos (by simpa using hk)]
    by_cases h5 : x.2.1 = 5
    ·rw [if_pos (by simpa using h5)]
     exact own _ (by simp [h5])
    ·rw [if_neg (by simpa using h5)]
     exact own _ (by simp [h5])
   ·simp only [sh56_L9]
    rw [if_neg (by simp)]
    simp only [sh56_K5, joinK, sh56_K6]
    have fin : (∀ j k, k < x.2.2.2.2.1.length → j < k → exK x j ≠ exK x k) → NodeOK ns.length i x := fun h =>
     ⟨hname, hk.1, hk.2, b1, b2, b3, fun k hk => ⟨(hj k hk).1, (hj k hk).2.1, (hj k hk).2.2, fun j hjk => h j k hk hjk⟩⟩
    have h2 := exitsN_le x.2.1
    by_cases hl : x.2.2.2.2.1.length = 2
    ·rw [if_pos (by simp [hl]), if_pos (by simp [inR, hl]), if_pos (by simp [inR, hl])]
     by_cases he : exK x 0 = exK x 1
     ·have hb : ((lAt (0, ()) x.2.2.2.2.1 0).1 == (lAt (0, ()) x.2.2.2.2.1 1).1) = true := by rw [beq_iff_eq]; exact he
      rw [hb, if_pos rfl]
      exact AnE.n (by decide) fun h => (h.ex 1 (by omega)).2.2.2 0 (by omega) he
     ·have hb : ((lAt (0, ()) x.2.2.2.2.1 0).1 == (lAt (0, ()) x.2.2.2.2.1 1).1) = false := by rw [beq_eq_false_iff_ne]; exact he
      rw [hb, if_neg (by decide)]
      refine AnE.z (fin fun j k hk hjk => ?_)
      have : j = 0 := by omega
      have : k = 1 := by omega
      subst j; subst k; exact he
    ·rw [if_neg (by simp; omega), if_neg (by decide)]
     exact AnE.z (fin fun j k hk hjk => by omega)
 have k3 : ∀ lo hi : Int, (lo ≤ x.2.2.1 ∧ x.2.2.1 ≤ hi ↔ LenP x) → AnE (sh56_K3 100000 ((i : Int), lo, hi, (ns, ds, ()), x, ())) (NodeOK ns.length i x) := by
  intro lo hi hl
  simp only [sh56_K3, joinK]
  rw [e60g, Option.bind_some]
  simp only
  by_cases h1 : lo ≤ x.2.2.1 ∧ x.2.2.1 ≤ hi
  ·rw [if_neg (by simp [h1.1, h1.2]), e60g, Option.bind_some]
   simp only
   by_cases h2 : 0 ≤ x.2.2.2.1 ∧ x.2.2.2.1 ≤ 1
   ·rw [if_neg (by simp [h2.1, h2.2]), e55g, Option.bind_some]
    refine k4 _ ?_
    simp only [bne_eq_false_iff_eq]
    exact ⟨fun h => ⟨hl.1 h1, by omega, by omega⟩, fun h => by have := h.2.2; omega⟩
   ·rw [if_pos (by simp only [Bool.not_eq_true', Bool.and_eq_false_iff, decide_eq_false_iff_not]; omega)]
    exact k4 _ ⟨fun h => (nomatch h), fun h => absurd h.2.1 (by omega)⟩
  ·rw [if_pos (by simp only [Bool.not_eq_true', Bool.and_eq_false_iff, decide_eq_false_iff_not]; omega)]
   exact k4 _ ⟨fun h => (nomatch h), fun h => absurd (hl.2 h.1) h1⟩
 have k2 : ∀ lo hi : Int, (x.2.1 = 5 → (2 ≤ x.2.2.1 ∧ x.2.2.1 ≤ hi ↔ LenP x)) → (x.2.1 ≠ 5 → (lo ≤ x.2.2.1 ∧ x.2.2.1 ≤ hi ↔ LenP x)) → AnE (sh56_K2 100000 ((i : Int), lo, hi, (ns, ds, ()), x, ())) (NodeOK ns.length i x) := by
  intro lo hi h1 h2
  simp only [sh56_K2, joinK]
  by_cases h5 : x.2.1 = 5
  ·rw [if_pos (by simpa using h5)]; exact k3 _ _ (h1 h5)
  ·rw [if_neg (by simpa using h5)]; exact k3 _ _ (h2 h5)
 rw [e20g, Option.bind_some, decide_eq_true hk.1, Bool.true_and]
 by_cases h6 : x.2.1 ≤ 6
 ·rw [if_pos (by simpa using h6)]
  refine k2 _ _ (fun h5 => ?_) (fun h5 => ?_)
  ·unfold LenP; rw [if_pos h5]; exact ⟨fun h => ⟨fun _ => h, fun _ => by omega⟩, fun h => h.1 h6⟩
  ·unfold LenP; rw [if_neg h5]; exact ⟨fun h => ⟨fun _ => h, fun _ => by omega⟩, fun h => h.1 h6⟩
 ·rw [if_neg (by simpa using h6)]
  refine k2 _ _ (fun h5 => by omega) (fun h5 => ?_)
  unfold LenP
  exact ⟨fun h => ⟨fun _ => by omega, fun _ => by omega⟩, fun h => by have := h.2 (by omega); omega⟩
abbrev ndA (ns : List Nd) (i : Nat) : Nd := lAt ([], 0, 0, 0, [], ()) ns (i : Int)
structure NsOK (ns : List Nd) : Prop where
 n : ns.length ≤ 24
 ok : ∀ i, i < ns.length → NodeOK ns.length i (ndA ns i)
theorem LenP.bd {x : Nd} (h : LenP x) : 0 ≤ x.2.2.1 ∧ x.2.2.1 ≤ 8 := by
 by_cases h6 : x.2.1 ≤ 6
 ·have := h.1 h6; split at this <;> omega
 ·have := h.2 (by omega); omega
def totN (ns : List Nd) : Nat → Int
 | 0 => 0
 | k + 1 => totN ns k + (ndA ns k).2.2.1
theorem totN_bd {ns : List Nd} (h : NsOK ns) : ∀ k, k ≤ ns.length → 0 ≤ totN ns k ∧ totN ns k ≤ 8 * k
 | 0, _ => by simp [totN]
 | k + 1, hk => by
  have := totN_bd h k (by omega)
  have := (h.ok k (by omega)).len.bd
  unfold totN; omega
theorem totN_up {ns : List Nd} (h : NsOK ns) {k : Nat} (hk : k < ns.length) : IntKind.i64.wrap (totN ns k + (ndA ns k).2.2.1) = totN ns (k + 1) := by
 have := totN_bd h k (by omega)
 have := (h.ok k hk).len.bd
 have := h.n
 exact wrapI (by omega) (by omega)
theorem e46g {ns : List Nd} {ds : List Dv} (h : NsOK ns) : sp46 ((ns, ds, ()), ()) = some (totN ns ns.length, ()) := by
 have hn := h.n
 show sh46 100000 (ns, ds, ()) = _
 unfold sh46
 simp only [joinK]
 refine iter_count (F := sh46_L2 sh46_K0) (fun k : Nat => (totN ns k, ns, (ns.length : Int), (k : Int), ())) ns.length 100000 (by omega) (fun rc k hk => ?_) (fun rc => ?_)
 ·simp only [sh46_L2]
  rw [if_pos (by simpa using hk), if_pos (inR_nat hk), totN_up h hk, up1' hk]
 ·simp only [sh46_L2]
  rw [if_neg (by simp)]; rfl
theorem e57g {ns : List Nd} {ds : List Dv} (h : NsOK ns) : sp57 ((ns, ds, ()), ()) = some (totN ns ns.length, ()) := by
 have hn := h.n
 show sh57 100000 (ns, ds, ()) = _
 unfold sh57
 simp only [joinK]
 refine iter_count (F := sh57_L2 sh57_K0) (fun k : Nat => (totN ns k, (k : Int), (ns, ds, ()), ())) ns.length 100000 (by omega) (fun rc k hk => ?_) (fun rc => ?_)
 ·simp only [sh57_L2]
  rw [if_pos (by simpa using hk), if_pos (inR_nat hk), totN_up h hk, up1' hk]
 ·simp only [sh57_L2]
  rw [if_neg (by simp)]; rfl
def NamesP (ns : List Nd) : Prop := ∀ i, i < ns.length → ∀ j, j < i → (ndA ns j).1 ≠ (ndA ns i).1
theorem e64g {ns : List Nd} {ds : List Dv} (hn : ns.length ≤ 24) {i : Nat} (hi : i < ns.length) :
  ∃ r : Int, sp64 ((ns, ds, ()), (ndA ns i).1, ()) = some (r, ()) ∧ (r = i ↔ ∀ j, j < i → (ndA ns j).1 ≠ (ndA ns i).1) := by
 show ∃ r : Int, sh64 100000 (ns, ds, ()) (ndA ns i).1 = some (r, ()) ∧ _
 unfold sh64
 simp only [joinK]
 refine iter_all (F := sh64_L4 sh64_K0 (sh64_K2 sh64_K0)) (fun o => ∃ r : Int, o = some (r, ()) ∧ (r = i ↔ ∀ j, j < i → (ndA ns j).1 ≠ (ndA ns i).1)) (fun j => (ndA ns j).1 ≠ (ndA ns i).1) (fun k : Nat => (ns, (ns.length : Int), (k : Int), ((ndA ns i).1, ()), ())) i 100000 (by omega) (fun rc k hk hj => ?_) (fun rc hj => ?_)
 ·have hk' : k < ns.length := by omega
  simp only [sh64_L4]
  rw [if_pos (by simpa using hk'), if_pos (inR_nat hk')]
  by_cases e : (ndA ns k).1 = (ndA ns i).1
  ·rw [if_pos (by simpa using e)]
   exact .inr ⟨fun h => h e, _, rfl, ⟨fun h => by omega, fun h => absurd e (h k hk)⟩⟩
  ·rw [if_neg (by simpa using e), up1' hk']
   exact .inl ⟨e, rfl⟩
 ·simp only [sh64_L4]
  rw [if_pos (by simpa using hi), if_pos (inR_nat hi), if_pos (by simp)]
  exact ⟨_, rfl, ⟨fun _ => hj, fun _ => rfl⟩⟩
theorem e37g {ns : List Nd} {ds : List Dv} (hn : ns.length ≤ 24) {i : Nat} (hi : i < ns.length) :
  ∃ r : Int, sp37 ((ns, ds, ()), (ndA ns i).1, ()) = some (r, ()) ∧ (r = i ↔ ∀ j, j < i → (ndA ns j).1 ≠ (ndA ns i).1) := by
 show ∃ r : Int, sh37 100000 (ns, ds, ()) (ndA ns i).1 = some (r, ()) ∧ _
 unfold sh37
 simp only [joinK]
 refine iter_all (F := sh37_L2 sh37_K0) (fun o => ∃ r : Int, o = some (r, ()) ∧ (r = i ↔ ∀ j, j < i → (ndA ns j).1 ≠ (ndA ns i).1)) (fun j => (ndA ns j).1 ≠ (ndA ns i).1) (fun k : Nat => ((ndA ns i).1, (k : Int), (ns, ds, ()), ())) i 100000 (by omega) (fun rc k hk hj => ?_) (fun rc hj => ?_)
 ·have hk' : k < ns.length := by omega
  simp only [sh37_L2]
  rw [if_pos (by simpa using hk'), if_pos (inR_nat hk')]
  by_cases e : (ndA ns k).1 = (ndA ns i).1
  ·rw [if_pos (by simpa using e)]
   exact .inr ⟨fun h => h e, _, rfl, ⟨fun h => by omega, fun h => absurd e (h k hk)⟩⟩
  ·rw [if_neg (by simpa using e), up1' hk']
   exact .inl ⟨e, rfl⟩
 ·simp only [sh37_L2]
  rw [if_pos (by simpa using hi), if_pos (inR_nat hi), if_pos (by simp)]
  exact ⟨_, rfl, ⟨fun _ => hj, fun _ => rfl⟩⟩
theorem e47g {ns : List Nd} {ds : List Dv} (hn : ns.length ≤ 24) : AnB (sp47 ((ns, ds, ()), ())) (NamesP ns) := by
 show AnB (sh47 100000 (ns, ds, ())) _
 unfold sh47
 simp only [joinK]
 refine iter_all (F := sh47_L2 sh47_K0) (fun o => AnB o (NamesP ns)) (fun i => ∀ j, j < i → (ndA ns j).1 ≠ (ndA ns i).1) (fun k : Nat => (ns, (ns.length : Int), (k : Int), (ns, ds, ()), ())) ns.length 100000 (by omega) (fun rc k hk hj => ?_) (fun rc hj => ?_)
 ·obtain ⟨r, hr, hi⟩ := e64g (ds := ds) hn hk
  simp only [sh47_L2]
  rw [if_pos (by simpa using hk), if_pos (inR_nat hk), hr, Option.bind_some]
  simp only
  by_cases e : r = k
  ·rw [if_neg (by simpa using e), up1' hk]
   exact .inl ⟨hi.1 e, rfl⟩
  ·rw [if_pos (by simpa using e)]
   exact .inr ⟨fun h => e (hi.2 h), AnB.f fun h => e (hi.2 (h k hk))⟩
 ·simp only [sh47_L2]
  rw [if_neg (by simp)]
  exact AnB.t hj
def ZeP (ns : List Nd) (x : Nd) (k : Nat) : Prop := (lAt ([], 0, 0, 0, [], ()) ns (exK x k)).2.1 ≠ 1 ∧ (lAt ([], 0, 0, 0, [], ()) ns (exK x k)).2.2.2.1 = if x.2.1 = 6 ∧ k = 1 then 1 else x.2.2.2.1
def ZonP (ns : List Nd) (x : Nd) : Prop := ((x.2.1 = 1 ∨ x.2.1 = 3 ∨ x.2.1 = 6) → x.2.2.2.1 = 0) ∧ ((x.2.1 = 7 ∨ x.2.1 = 8) → x.2.2.2.1 = 1) ∧ ∀ k, k < x.2.2.2.2.1.length → ZeP ns x k
theorem e48g {ns : List Nd} {ds : List Dv} {i : Nat} (hi : i < ns.length) {x : Nd} (hx : lAt ([], 0, 0, 0, [], ()) ns (i : Int) = x) (h : NodeOK ns.length i x) : AnB (sp48 ((ns, ds, ()), (i : Int), ())) (ZonP ns x) := by
 have hct : x.2.2.2.2.1.length ≤ 2 := by rw [h.cnt]; exact exitsN_le _
 have main : ((x.2.1 = 1 ∨ x.2.1 = 3 ∨ x.2.1 = 6) → x.2.2.2.1 = 0) → ((x.2.1 = 7 ∨ x.2.1 = 8) → x.2.2.2.1 = 1) → AnB (sh48_K0 100000 ((ns, ds, ()), x, ())) (ZonP ns x) := by
  intro z1 z2
  simp only [sh48_K0, joinK]
  refine iter_all (F := sh48_L3 sh48_K1) (fun o => AnB o (ZonP ns x)) (ZeP ns x) (fun k : Nat => (x.2.2.2.2.1, (x.2.2.2.2.1.length : Int), (k : Int), (ns, ds, ()), x, ())) x.2.2.2.2.1.length 100000 (by omega) (fun rc k hk hj => ?_) (fun rc hj => ?_)
  ·obtain ⟨e1, e2, _⟩ := h.ex k hk
   have fin : ∀ want : Int, want = (if x.2.1 = 6 ∧ k = 1 then 1 else x.2.2.2.1) → (ZeP ns x k ∧ sh48_K4 rc (exK x k, want, x.2.2.2.2.1, (x.2.2.2.2.1.length : Int), (k : Int), (ns, ds, ()), x, ()) = rc (x.2.2.2.2.1, (x.2.2.2.2.1.length : Int), ((k + 1 : Nat) : Int), (ns, ds, ()), x, ())) ∨
     (¬ ZeP ns x k ∧ AnB (sh48_K4 rc (exK x k, want, x.2.2.2.2.1, (x.2.2.2.2.1.length : Int), (k : Int), (ns, ds, ()), x, ())) (ZonP ns x)) := by
    intro want hw
    simp only [sh48_K4, joinK, sh48_K5]
    rw [if_pos (inR_int e1 e2)]
    by_cases h1 : (lAt ([], 0, 0, 0, [], ()) ns (exK x k)).2.1 = 1
    ·rw [if_pos (by simpa using h1), if_pos trivial]
     have hn : ¬ ZeP ns x k := fun z => z.1 h1
     exact .inr ⟨hn, AnB.f fun z => hn (z.2.2 k hk)⟩
    rw [if_neg (by simpa using h1), if_pos (inR_int e1 e2)]
    by_cases h2 : (lAt ([], 0, 0, 0, [], ()) ns (exK x k)).2.2.2.1 = want
    ·rw [if_neg (by simpa using h2), up1' hk]
     exact .inl ⟨⟨h1, by rw [h2, hw]⟩, rfl⟩
    ·rw [if_pos (by simpa using h2)]
     have hn : ¬ ZeP ns x k := fun z => h2 (by rw [z.2, hw])
     exact .inr ⟨hn, AnB.f fun z => hn (z.2.2 k hk)⟩
   simp only [sh48_L3, joinK]
   rw [if_pos (by simpa using hk), if_pos (inR_nat hk)]
   simp only [sh48_K8]
   by_cases h6 : x.2.1 = 6
   ·rw [if_pos (by simpa using h6)]
    by_cases hk1 : k = 1
    ·subst hk1
     rw [if_pos (by simp)]
     exact fin 1 (by rw [if_pos ⟨h6, rfl⟩])
    ·rw [if_neg (by simp; omega)]
     exact fin _ (by rw [if_neg (fun e => hk1 e.2)])
   ·rw [if_neg (by simpa using h6), if_neg (by decide)]
    exact fin _ (by rw [if_neg (fun e => h6 e.1)])
  ·simp only [sh48_L3]
   rw [if_neg (by simp)]
   exact AnB.t ⟨z1, z2, hj⟩
 show AnB (sh48 100000 (ns, ds, ()) (i : Int)) _
 unfold sh48
 simp only
 rw [if_pos (inR_nat hi), hx]
 simp only [joinK]
 have k11 : ∀ b : Bool, (b = true ↔ x.2.1 = 1 ∨ x.2.1 = 3 ∨ x.2.1 = 6) → AnB (sh48_K11 (sh48_K0 100000) (x.2.1, b, (ns, ds, ()), x, ())) (ZonP ns x) := by
  intro b hb
  simp only [sh48_K11, joinK]
  cases b with
  | true =>
   have hk := hb.1 rfl
   rw [if_pos rfl]
   by_cases hz : x.2.2.2.1 = 0
   ·rw [if_neg (by simpa using hz)]
    exact main (fun _ => hz) (fun h => by omega)
   ·rw [if_pos (by simpa using hz)]
    exact AnB.f fun z => hz (z.1 hk)
  | false =>
   have hk : ¬ (x.2.1 = 1 ∨ x.2.1 = 3 ∨ x.2.1 = 6) := fun h => by have := hb.2 h; cases this
   rw [if_neg (by decide)]
   have k12 : ∀ b : Bool, (b = true ↔ x.2.1 = 7 ∨ x.2.1 = 8) → AnB (sh48_K12 (sh48_K0 100000) (b, (ns, ds, ()), x, ())) (ZonP ns x) := by
    intro b hb
    simp only [sh48_K12]
    cases b with
    | true =>
     rw [if_pos rfl]
     by_cases hz : x.2.2.2.1 = 1
     ·rw [if_neg (by simpa using hz)]
      exact main (fun h => absurd h hk) (fun _ => hz)
     ·rw [if_pos (by simpa using hz)]
      exact AnB.f fun z => hz (z.2.1 (hb.1 rfl))
    | false => rw [if_neg (by decide)]; exact main (fun h => absurd h hk) (fun h => by have := hb.2 h; cases this)
   by_cases h7 : x.2.1 = 7
   ·rw [if_pos (by simpa using h7)]; exact k12 _ (by simp [h7])
   ·rw [if_neg (by simpa using h7)]; exact k12 _ (by simp [h7])
 by_cases h1 : x.2.1 = 1
 ·rw [if_pos (by simpa using h1)]; exact k11 _ (by simp [h1])
 ·rw [if_neg (by simpa using h1)]
  by_cases h3 : x.2.1 = 3
  ·rw [if_pos (by simpa using h3)]; exact k11 _ (by simp [h3])
  ·rw [if_neg (by simpa using h3)]; exact k11 _ (by simp [h1, h3])
theorem e58g {ns : List Nd} {ds : List Dv} (h : NsOK ns) : AnB (sp58 ((ns, ds, ()), ())) (∀ i, i < ns.length → ZonP ns (ndA ns i)) := by
 have hn := h.n
 show AnB (sh58 100000 (ns, ds, ())) _
 unfold sh58
 simp only [joinK]
 refine iter_all (F := sh58_L2 100000 sh58_K0) (fun o => AnB o (∀ i, i < ns.length → ZonP ns (ndA ns i))) (fun i => ZonP ns (ndA ns i)) (fun k : Nat => ((k : Int), (ns, ds, ()), ())) ns.length 100000 (by omega) (fun rc i hi hj => ?_) (fun rc hj => ?_)
 ·have hok := h.ok i hi
  simp only [sh58_L2, joinK]
  rw [if_pos (by simpa using hi), if_pos (inR_nat hi)]
  generalize hx : ndA ns i = x at hok
  change lAt ([], 0, 0, 0, [], ()) ns (i : Int) = x at hx
  rw [hx]
  have hct : x.2.2.2.2.1.length ≤ 2 := by rw [hok.cnt]; exact exitsN_le _
  have bad : ¬ ZonP ns x → AnB (some (false, ())) (∀ i, i < ns.length → ZonP ns (ndA ns i)) := fun hz => AnB.f fun z => hz (by have := z i hi; rwa [show ndA ns i = x from hx] at this)
  have k7 : ∀ b : Bool, (b = false ↔ ((x.2.1 = 1 ∨ x.2.1 = 3 ∨ x.2.1 = 6) → x.2.2.2.1 = 0) ∧ ((x.2.1 = 7 ∨ x.2.1 = 8) → x.2.2.2.1 = 1)) →
    (ZonP ns x ∧ sh58_K7 100000 (sh58_K3 rc) ((i : Int), b, (ns, ds, ()), x, ()) = rc (((i + 1 : Nat) : Int), (ns, ds, ()), ())) ∨ (¬ ZonP ns x ∧ AnB (sh58_K7 100000 (sh58_K3 rc) ((i : Int), b, (ns, ds, ()), x, ())) (∀ i, i < ns.length → ZonP ns (ndA ns i))) := by
   intro b hb
   simp only [sh58_K7]
   cases b with
   | true =>
    rw [if_pos rfl]
    have hn : ¬ ZonP ns x := fun z => by have := hb.2 ⟨z.1, z.2.1⟩; cases this
    exact .inr ⟨hn, bad hn⟩
   | false =>
    obtain ⟨z1, z2⟩ := hb.1 rfl
    rw [if_neg (by decide)]
    refine iter_all (F := sh58_L8 (sh58_K3 rc)) (fun o => (ZonP ns x ∧ o = rc (((i + 1 : Nat) : Int), (ns, ds, ()), ())) ∨ (¬ ZonP ns x ∧ AnB o (∀ i, i < ns.length → ZonP ns (ndA ns i)))) (ZeP ns x) (fun k : Nat => ((i : Int), (k : Int), (ns, ds, ()), x, ())) x.2.2.2.2.1.length 100000 (by omega) (fun rc2 k hk hj => ?_) (fun rc2 hj => ?_)
    ·obtain ⟨e1, e2, _⟩ := hok.ex k hk
     have fin : ∀ want : Int, want = (if x.2.1 = 6 ∧ k = 1 then 1 else x.2.2.2.1) → (ZeP ns x k ∧ sh58_K9 rc2 ((i : Int), (k : Int), want, (ns, ds, ()), x, lAt ([], 0, 0, 0, [], ()) ns (exK x k), ()) = rc2 ((i : Int), ((k + 1 : Nat) : Int), (ns, ds, ()), x, ())) ∨
       (¬ ZeP ns x k ∧ ((ZonP ns x ∧ sh58_K9 rc2 ((i : Int), (k : Int), want, (ns, ds, ()), x, lAt ([], 0, 0, 0, [], ()) ns (exK x k), ()) = rc (((i + 1 : Nat) : Int), (ns, ds, ()), ())) ∨ (¬ ZonP ns x ∧ AnB (sh58_K9 rc2 ((i : Int), (k : Int), want, (ns, ds, ()), x, lAt ([], 0, 0, 0, [], ()) ns (exK x k), ())) (∀ i, i < ns.length → ZonP ns (ndA ns i))))) := by
      intro want hw
      simp only [sh58_K9, joinK, sh58_K10]
      by_cases h1 : (lAt ([], 0, 0, 0, [], ()) ns (exK x k)).2.1 = 1
      ·rw [if_pos (by simpa using h1), if_pos trivial]
       have hn : ¬ ZeP ns x k := fun z => z.1 h1
       have hn' : ¬ ZonP ns x := fun z => hn (z.2.2 k hk)
       exact .inr ⟨hn, .inr ⟨hn', bad hn'⟩⟩
      rw [if_neg (by simpa using h1)]
      by_cases h2 : (lAt ([], 0, 0, 0, [], ()) ns (exK x k)).2.2.2.1 = want
      ·rw [if_neg (by simpa using h2), up1' hk]
       exact .inl ⟨⟨h1, by rw [h2, hw]⟩, rfl⟩
      ·rw [if_pos (by simpa using h2)]
       have hn : ¬ ZeP ns x k := fun z => h2 (by rw [z.2, hw])
       have hn' : ¬ ZonP ns x := fun z => hn (z.2.2 k hk)
       exact .inr ⟨hn, .inr ⟨hn', bad hn'⟩⟩
     simp only [sh58_L8, joinK, sh58_K13]
     rw [if_pos (by simpa using hk), if_pos (inR_nat hk), if_pos (inR_int (show 0 ≤ (lAt (0, ()) x.2.2.2.2.1 (k : Int)).1 from e1) e2)]
     by_cases h6 : x.2.1 = 6
     ·rw [if_pos (by simpa using h6)]
      by_cases hk1 : k = 1
      ·subst hk1
       rw [if_pos (by simp)]
       exact fin 1 (by rw [if_pos ⟨h6, rfl⟩])
      ·rw [if_neg (by simp; omega)]
       exact fin _ (by rw [if_neg (fun e => hk1 e.2)])
     ·rw [if_neg (by simpa using h6), if_neg (by decide)]
      exact fin _ (by rw [if_neg (fun e => h6 e.1)])
    ·simp only [sh58_L8]
     rw [if_neg (by simp)]
     simp only [sh58_K3]
     rw [up1' hi]
     exact .inl ⟨⟨z1, z2, hj⟩, rfl⟩
  have k6 : ∀ a b : Bool, (a = true ↔ x.2.1 = 1 ∨ x.2.1 = 3 ∨ x.2.1 = 6) → (b = true ↔ x.2.1 = 7 ∨ x.2.1 = 8) →
    (ZonP ns x ∧ sh58_K6 100000 (sh58_K3 rc) ((i : Int), a, b, (ns, ds, ()), x, ()) = rc (((i + 1 : Nat) : Int), (ns, ds, ()), ())) ∨ (¬ ZonP ns x ∧ AnB (sh58_K6 100000 (sh58_K3 rc) ((i : Int), a, b, (ns, ds, ()), x, ())) (∀ i, i < ns.length → ZonP ns (ndA ns i))) := by
   intro a b ha hb
   simp only [sh58_K6, joinK]
   cases a with
   | true =>
    have hk := ha.1 rfl
    rw [if_pos rfl]
    have hb' : b = false := by
     cases b with
     | false => rfl
     | true => have := hb.1 rfl; omega
    subst hb'
    by_cases hz : x.2.2.2.1 = 0
    ·rw [if_neg (by simpa using hz), if_neg (by decide)]
     exact k7 _ ⟨fun _ => ⟨fun _ => hz, fun h => by omega⟩, fun _ => rfl⟩
    ·rw [if_pos (by simpa using hz)]
     exact k7 _ ⟨fun h => (nomatch h), fun h => absurd (h.1 hk) hz⟩
   | false =>
    have hk : ¬ (x.2.1 = 1 ∨ x.2.1 = 3 ∨ x.2.1 = 6) := fun h => by have := ha.2 h; cases this
    rw [if_neg (by decide)]
    cases b with
    | true =>
     have hk8 := hb.1 rfl
     rw [if_pos rfl]
     refine k7 _ ?_
     rw [bne_eq_false_iff_eq]
     exact ⟨fun h => ⟨fun h' => absurd h' hk, fun _ => h⟩, fun h => h.2 hk8⟩
    | false =>
     rw [if_neg (by decide)]
     exact k7 _ ⟨fun _ => ⟨fun h' => absurd h' hk, fun h' => by have := hb.2 h'; cases this⟩, fun _ => rfl⟩
  have k5 : ∀ a : Bool, (a = true ↔ x.2.1 = 1 ∨ x.2.1 = 3 ∨ x.2.1 = 6) →
    (ZonP ns x ∧ sh58_K5 100000 (sh58_K3 rc) ((i : Int), a, (ns, ds, ()), x, ()) = rc (((i + 1 : Nat) : Int), (ns, ds, ()), ())) ∨ (¬ ZonP ns x ∧ AnB (sh58_K5 100000 (sh58_K3 rc) ((i : Int), a, (ns, ds, ()), x, ())) (∀ i, i < ns.length → ZonP ns (ndA ns i))) := by
   intro a ha
   simp only [sh58_K5, joinK]
   by_cases h7 : x.2.1 = 7
   ·rw [if_pos (by simpa using h7)]; exact k6 _ _ ha (by simp [h7])
   ·rw [if_neg (by simpa using h7)]; exact k6 _ _ ha (by simp [h7])
  by_cases h1 : x.2.1 = 1
  ·rw [if_pos (by simpa using h1)]; exact k5 _ (by simp [h1])
  ·rw [if_neg (by simpa using h1)]
   by_cases h3 : x.2.1 = 3
   ·rw [if_pos (by simpa using h3)]; exact k5 _ (by simp [h3])
   ·rw [if_neg (by simpa using h3)]; exact k5 _ (by simp [h1, h3])
 ·simp only [sh58_L2]
  rw [if_neg (by simp)]
  exact AnB.t hj
structure NsN (N : Nat) (ns : List Nd) : Prop where
 len : ns.length = N
 ok : NsOK ns
theorem NsN.N24 {N : Nat} {ns : List Nd} (h : NsN N ns) : N ≤ 24 := by have := h.ok.n; rw [h.len] at this; exact this
theorem exN_layg {ns : List Nd} {k : Nat} (hk : k < ns.length) : exN ns k = ns[k].2.2.2.2.1 := by
 unfold exN
 rw [List.getD, List.getElem?_eq_getElem hk]; rfl
theorem exN_ndA (ns : List Nd) (k : Nat) : exN ns k = (ndA ns k).2.2.2.2.1 := rfl
section
variable {N : Nat} {ns : List Nd} {ds : List Dv}
theorem exN_leng (h : NsN N ns) (k : Nat) : (exN ns k).length ≤ 2 := by
 by_cases hk : k < ns.length
 ·rw [exN_ndA, (h.ok.ok k hk).cnt]; exact exitsN_le _
 ·unfold exN
  rw [List.getD, List.getElem?_eq_none (by omega)]; exact Nat.zero_le _
theorem ecN_leg (h : NsN N ns) (k i : Nat) : ecN ns k i ≤ 2 := by
 unfold ecN
 split
 ·exact Nat.zero_le _
 ·exact Nat.le_trans List.countP_le_length (exN_leng h k)
theorem ex_nodeg (h : NsN N ns) {k q : Nat} (hk : k < N) (hq : q < (exN ns k).length) : ∃ e : Nat, e < N ∧ ((exN ns k)[q]).1 = (e : Int) := by
 have hkl : k < ns.length := by rw [h.len]; exact hk
 obtain ⟨e1, e2, _⟩ := (h.ok.ok k hkl).ex q hq
 have e3 : exK (ndA ns k) q = ((exN ns k)[q]).1 := congrArg (·.1) (lAt_nat (0, ()) (exN ns k) q hq)
 rw [e3] at e1 e2
 rw [h.len] at e2
 exact ⟨((exN ns k)[q]).1.toNat, by omega, by omega⟩
theorem wbg (h : NsN N ns) {S : List Nat} (hS : S.length ≤ 24) (i : Nat) : wN ns S i ≤ 48 := by
 have := wN_le (c := 2) (fun k i => ecN_leg h k i) S i
 omega
theorem loop15g (h : NsN N ns) (j14) {R : Option (IL × Unit)} (hj : ∀ w : WM, (∀ i : Nat, mGet w (i : Int) = ((wN ns (List.range N) i : Nat) : Int)) → j14 ((ns, ds, ()), w, ()) = R) :
  iter 100000 (sh49_L15 100000 j14) (ns, (ns.length : Int), 0, (ns, ds, ()), [], ()) = R := by
 have hl := h.len
 have h11 := h.N24
 refine iter_post (F := sh49_L15 100000 j14) (fun k z => ∃ w : WM, z = (ns, (ns.length : Int), (k : Int), (ns, ds, ()), w, ()) ∧ ∀ i : Nat, mGet w (i : Int) = ((wN ns (List.range k) i : Nat) : Int)) (fun o => o = R) ns.length 100000 (by omega)
  ⟨[], rfl, fun i => rfl⟩ (fun rc k z hk hz => ?_) (fun rc z hz => ?_)
 ·obtain ⟨w, rfl, hw⟩ := hz
  simp only [sh49_L15, joinK]
  rw [if_pos (by simpa using hk), if_pos (inR_nat hk), lAt_nat _ _ _ hk, ← exN_layg hk]
  suffices hs : ∃ w' : WM, (iter 100000 (sh49_L18 (sh49_K16 rc)) ((k : Int), ns, (ns.length : Int), (k : Int), exN ns k, ((exN ns k).length : Int), 0, (ns, ds, ()), w, ()) = rc (ns, (ns.length : Int), ((k + 1 : Nat) : Int), (ns, ds, ()), w', ())) ∧ ∀ i : Nat, mGet w' (i : Int) = ((wN ns (List.range (k + 1)) i : Nat) : Int) by
   obtain ⟨w', e, hw'⟩ := hs
   exact ⟨_, e, w', rfl, hw'⟩
  have hl2 := exN_leng h k
  have hb : ∀ i, wN ns (List.range k) i ≤ 100 := fun i => by have := wbg h (S := List.range k) (by rw [List.length_range]; omega) i; omega
  refine iter_post (F := sh49_L18 (sh49_K16 rc)) (fun q z => ∃ w' : WM, z = ((k : Int), ns, (ns.length : Int), (k : Int), exN ns k, ((exN ns k).length : Int), (q : Int), (ns, ds, ()), w', ()) ∧ ∀ i : Nat, mGet w' (i : Int) = ((wN ns (List.range k) i + ecQ ns k q i : Nat) : Int))
   (fun o => ∃ w' : WM, o = rc (ns, (ns.length : Int), ((k + 1 : Nat) : Int), (ns, ds, ()), w', ()) ∧ ∀ i : Nat, mGet w' (i : Int) = ((wN ns (List.range (k + 1)) i : Nat) : Int)) (exN ns k).length 100000 (by have := exN_leng h k; omega)
   ⟨w, rfl, fun i => by rw [hw]; simp [ecQ]⟩ (fun rc2 q z hq hz => ?_) (fun rc2 z hz => ?_)
  ·obtain ⟨w', rfl, hw'⟩ := hz
   obtain ⟨e, he, hex⟩ := ex_nodeg h (by omega) hq
   simp only [sh49_L18, joinK, sh49_K19]
   rw [if_pos (by simpa using hq), if_pos (inR_nat hq), lAt_nat _ _ _ hq, hex, up1' hq]
   by_cases hek : e = k
   ·rw [if_neg (by simp [hek])]
    refine ⟨_, rfl, w', rfl, fun i => ?_⟩
    rw [hw', ecQ_succ hq, if_neg (by rw [hex, hek]; omega)]; simp
   ·rw [if_pos (by simpa using (by omega : (e : Int) ≠ k))]
    refine ⟨_, rfl, _, rfl, fun i => ?_⟩
    rw [mget_set, hw' e, ecQ_succ hq, hex]
    have hbe := hb e
    have hqe : ecQ ns k q e ≤ 2 := by
     unfold ecQ; split; exact Nat.zero_le _
     refine Nat.le_trans List.countP_le_length ?_
     rw [List.length_take]; have := exN_leng h k; omega
    rw [wrapI (by omega) (by omega)]
    by_cases hei : e = i
    ·subst hei
     rw [if_pos rfl, if_pos ⟨fun e' => hek e'.symm, rfl⟩]; omega
    ·rw [if_neg (by omega), if_neg (by omega), hw' i]; simp
  ·obtain ⟨w', rfl, hw'⟩ := hz
   simp only [sh49_L18]
   rw [if_neg (by simp)]
   simp only [sh49_K16, up1' hk]
   exact ⟨w', rfl, fun i => by rw [hw', ecQ_all (Nat.le_refl _), wN_range]⟩
 ·obtain ⟨w, rfl, hw⟩ := hz
  simp only [sh49_L15]
  rw [if_neg (by simp)]
  exact hj w (by rw [← hl]; exact hw)
theorem loop7g (h : NsN N ns) (j5) (Post : Option (IL × Unit) → Prop) (x : Nat) (hx : x < N) (r : Nat) (out : List Nat) (ho : x ∉ out) (il : IL) (done : List (Bool × Unit)) (w : WM) (hw : ∀ i : Nat, mGet w (i : Int) = ((wN ns (remN N out) i : Nat) : Int))
  (hj : ∀ w' : WM, (∀ i : Nat, mGet w' (i : Int) = ((wN ns (remN N (out ++ [x])) i : Nat) : Int)) → Post (j5 ((ns.length : Int), (r : Int), (ns, ds, ()), w', il, done, ()))) :
  Post (iter 100000 (sh49_L7 j5) ((x : Int), (ns.length : Int), (r : Int), exN ns x, ((exN ns x).length : Int), 0, (ns, ds, ()), w, il, done, ())) := by
 have hl2 := exN_leng h x
 have h11 := h.N24
 have hrem : ∀ i, wN ns (remN N out) i = ecN ns x i + wN ns (remN N (out ++ [x])) i := fun i => wN_rem hx ho
 have hb : ∀ i, wN ns (remN N out) i ≤ 48 := fun i => wbg h (by have := rem_len N out; omega) i
 have hqle : ∀ q i, ecQ ns x q i ≤ ecN ns x i := fun q i => by
  unfold ecQ ecN
  split
  ·exact Nat.le_refl _
  ·exact (List.take_sublist q _).countP_le
 refine iter_post (F := sh49_L7 j5) (fun q z => ∃ w' : WM, z = ((x : Int), (ns.length : Int), (r : Int), exN ns x, ((exN ns x).length : Int), (q : Int), (ns, ds, ()), w', il, done, ()) ∧ ∀ i : Nat, mGet w' (i : Int) = ((wN ns (remN N out) i : Nat) : Int) - ((ecQ ns x q i : Nat) : Int)) Post (exN ns x).length 100000 (by omega)
  ⟨w, rfl, fun i => by rw [hw]; simp [ecQ]⟩ (fun rc q z hq hz => ?_) (fun rc z hz => ?_)
 ·obtain ⟨w', rfl, hw'⟩ := hz
  obtain ⟨e, he, hex⟩ := ex_nodeg h hx hq
  simp only [sh49_L7, joinK, sh49_K8]
  rw [if_pos (by simpa using hq), if_pos (inR_nat hq), lAt_nat _ _ _ hq, hex, up1' hq]
  by_cases hek : e = x
  ·rw [if_neg (by simp [hek])]
   refine ⟨_, rfl, w', rfl, fun i => ?_⟩
   rw [hw', ecQ_succ hq, if_neg (by rw [hex, hek]; omega)]; simp
  ·rw [if_pos (by simpa using (by omega : (e : Int) ≠ x))]
   refine ⟨_, rfl, _, rfl, fun i => ?_⟩
   rw [mget_set, hw' e, ecQ_succ hq, hex]
   have hbe := hb e
   have hqe := hqle q e
   have hce := ecN_leg h x e
   rw [wrapI (by omega) (by omega)]
   by_cases hei : e = i
   ·subst hei
    rw [if_pos rfl, if_pos ⟨fun e' => hek e'.symm, rfl⟩]; omega
   ·rw [if_neg (by omega), if_neg (by omega), hw' i]; simp
 ·obtain ⟨w', rfl, hw'⟩ := hz
  simp only [sh49_L7]
  rw [if_neg (by simp)]
  refine hj w' fun i => ?_
  rw [hw', ecQ_all (Nat.le_refl _), hrem]; omega
theorem e49g (h : NsN N ns) : sp49 ((ns, ds, ()), ()) = some (ilN (ordN ns N N []), ()) := by
 have hl := h.len
 have h24 := h.N24
 show sh49 100000 (ns, ds, ()) = _
 unfold sh49
 simp only [joinK]
 refine loop15g (ds := ds) h (sh49_K0 100000) (R := some (ilN (ordN ns N N []), ())) fun w hw => ?_
 simp only [sh49_K0, joinK]
 have hlim : ((ns.length : Nat) : Int) ≤ (lim : Int) := by have : (lim : Int) = 140737488355328 := rfl; omega
 rw [if_pos (decide_eq_true (by omega)), if_pos (decide_eq_true (Int.le_refl _)), if_pos (decide_eq_true hlim), if_pos (decide_eq_true (show (1 : Int) * ((ns.length : Nat) : Int) ≤ (lim : Int) by omega))]
 have hrange : remN N [] = List.range N := by unfold remN; exact List.filter_eq_self.2 fun _ _ => rfl
 refine iter_q (F := sh49_L3 100000 sh49_K1) (fun o => o = some (ilN (ordN ns N N []), ())) (fun r z => ∃ (out : List Nat) (w' : WM) (done : List (Bool × Unit)), z = ((ns.length : Int), (r : Int), (ns, ds, ()), w', ilN out, done, ()) ∧ SInv ns N r out w' done) N 100000 (by omega)
  ⟨[], w, _, rfl, rfl, List.nodup_nil, by simp, by simp [hl], fun i hi => ?_, fun i => by rw [hw, hrange], rfl⟩ (fun rc r z hr hz => ?_) (fun rc z hz => ?_)
 ·simp only [Int.toNat_natCast]
  rw [List.getD, List.getElem?_replicate, if_pos (by omega)]; rfl
 ·obtain ⟨out, w', done, rfl, hI⟩ := hz
  simp only [sh49_L3, joinK]
  rw [if_pos (by simp only [decide_eq_true_eq]; omega)]
  cases hx : nextN ns N out with
  | none =>
   right
   have hord := hI.ord
   rw [show N - r = (N - (r + 1)) + 1 by omega] at hord
   simp only [ordN, hx] at hord
   have hno : ∀ i, i < N → i ∈ out ∨ wN ns (remN N out) i ≠ 0 := fun i hi => by
    unfold nextN at hx
    rw [List.find?_eq_none] at hx
    have := hx i (List.mem_range.2 hi)
    simp only [Bool.and_eq_true, Bool.not_eq_true', beq_iff_eq, List.contains_eq_mem, decide_eq_false_iff_not] at this
    by_cases hio : i ∈ out
    ·exact .inl hio
    ·exact .inr fun e => this ⟨hio, e⟩
   rw [← hord]
   refine iter_count (F := sh49_L11 (sh49_K6 100000 sh49_K1 (sh49_K4 rc))) (fun i : Nat => ((-1 : Int), (ns.length : Int), (r : Int), (ns.length : Int), (i : Int), (ns, ds, ()), w', ilN out, done, ())) N 100000 (by omega) (fun rc2 i hi => ?_) (fun rc2 => ?_)
   ·have hil : i < ns.length := by omega
    simp only [sh49_L11, joinK]
    rw [if_pos (by simpa using hil), if_pos (inR_nat (by rw [hI.dl]; omega)), if_pos (decide_eq_true (by simp only [Int.toNat_natCast, hI.dl]; omega))]
    simp only [Int.toNat_natCast, hI.dn i (by omega)]
    simp only [sh49_K12]
    by_cases hio : i ∈ out
    ·rw [decide_eq_true hio, if_neg (by decide), if_neg (by decide), up1' hil]
    ·have hne : wN ns (remN N out) i ≠ 0 := (hno i hi).resolve_left hio
     have hb : (mGet w' (i : Int) == 0) = false := by rw [hI.w]; simp; omega
     rw [decide_eq_false hio, if_pos (by decide), hb, if_neg (by decide), up1' hil]
   ·simp only [sh49_L11]
    rw [if_neg (by simp only [decide_eq_true_eq]; omega)]
    simp only [sh49_K6]
    rw [if_pos (decide_eq_true (by decide))]
    rfl
  | some x =>
   left
   obtain ⟨x1, x2, x3, x4⟩ := next_spec hx
   have hxl : x < ns.length := by omega
   have hK : iter 100000 (sh49_L11 (sh49_K6 100000 sh49_K1 (sh49_K4 rc))) (-1, (ns.length : Int), (r : Int), (ns.length : Int), 0, (ns, ds, ()), w', ilN out, done, ()) = sh49_K6 100000 sh49_K1 (sh49_K4 rc) ((x : Int), (ns.length : Int), (r : Int), (ns, ds, ()), w', ilN out, done, ()) := by
    refine iter_count (F := sh49_L11 (sh49_K6 100000 sh49_K1 (sh49_K4 rc))) (fun i : Nat => ((-1 : Int), (ns.length : Int), (r : Int), (ns.length : Int), (i : Int), (ns, ds, ()), w', ilN out, done, ())) x 100000 (by omega) (fun rc2 i hi => ?_) (fun rc2 => ?_)
    ·have hil : i < ns.length := by omega
     simp only [sh49_L11, joinK]
     rw [if_pos (by simpa using hil), if_pos (inR_nat (by rw [hI.dl]; omega)), if_pos (decide_eq_true (by simp only [Int.toNat_natCast, hI.dl]; omega))]
     simp only [Int.toNat_natCast, hI.dn i (by omega)]
     simp only [sh49_K12]
     by_cases hio : i ∈ out
     ·rw [decide_eq_true hio, if_neg (by decide), if_neg (by decide), up1' hil]
     ·have hne : wN ns (remN N out) i ≠ 0 := (x4 i hi).resolve_left hio
      have hb : (mGet w' (i : Int) == 0) = false := by rw [hI.w]; simp; omega
      rw [decide_eq_false hio, if_pos (by decide), hb, if_neg (by decide), up1' hil]
    ·simp only [sh49_L11, joinK]
     rw [if_pos (by simpa using hxl), if_pos (inR_nat (by rw [hI.dl]; omega)), if_pos (decide_eq_true (by simp only [Int.toNat_natCast, hI.dl]; omega))]
     simp only [Int.toNat_natCast, hI.dn x (by omega)]
     simp only [sh49_K12]
     have hb : (mGet w' (x : Int) == 0) = true := by rw [hI.w, x3]; rfl
     rw [decide_eq_false x2, if_pos (by decide), hb, if_pos rfl]
   rw [hK]
   have hol : (ilN out).length = r := by rw [ilN, List.length_map, hI.len]
   simp only [sh49_K6]
   rw [if_neg (by simp), if_pos (inR_nat (by rw [hI.dl]; omega)), if_pos (decide_eq_true (by simp only [Int.toNat_natCast, hI.dl]; omega)), if_pos (dlim (by omega)), if_pos (dlim (by omega)), if_pos (inR_nat hxl), lAt_nat _ _ _ hxl, ← exN_layg hxl]
   refine loop7g h (sh49_K4 rc) (fun o => ∃ z', o = rc z' ∧ ∃ (out : List Nat) (w' : WM) (done : List (Bool × Unit)), z' = ((ns.length : Int), ((r + 1 : Nat) : Int), (ns, ds, ()), w', ilN out, done, ()) ∧ SInv ns N (r + 1) out w' done) x x1 r out x2 _ _ w' hI.w fun w2 hw2 => ?_
   simp only [sh49_K4, up1' hr]
   refine ⟨_, rfl, out ++ [x], w2, _, by rw [show ilN out ++ [((x : Int), ())] = ilN (out ++ [x]) by simp [ilN]], ?_⟩
   refine ⟨by simp [hI.len], List.nodup_append.2 ⟨hI.nd, by simp, fun a ha b hb => by rw [List.mem_singleton.1 hb]; rintro rfl; exact x2 ha⟩, fun k hk => ?_, by rw [List.length_set]; exact hI.dl, fun i hi => ?_, hw2, ?_⟩
   ·rcases List.mem_append.1 hk with hk | hk
    ·exact hI.lt k hk
    ·rw [List.mem_singleton.1 hk]; exact x1
   ·simp only [Int.toNat_natCast]
    have hd := hI.dn i hi
    rw [List.getD, List.getElem?_set]
    by_cases hxi : x = i
    ·subst hxi
     rw [if_pos rfl, if_pos (by rw [hI.dl]; exact hi)]
     simp
    ·rw [if_neg hxi]
     rw [List.getD] at hd
     rw [hd]
     have : i ≠ x := fun e => hxi e.symm
     simp [this]
   ·have := hI.ord
    rw [show N - r = (N - (r + 1)) + 1 by omega] at this
    simp only [ordN, hx] at this
    exact this
 ·obtain ⟨out, w', done, rfl, hI⟩ := hz
  simp only [sh49_L3]
  rw [if_neg (by simp only [decide_eq_true_eq]; omega)]
  have := hI.ord
  rw [Nat.sub_self] at this
  rw [← this]; rfl
end
theorem e21g (l : IL) (x : Int) (hl : l.length ≤ 90000) : AnB (sp21 (l, x, ())) (∃ y ∈ l, y.1 = x) := by
 show AnB (sh21 100000 l x) _
 unfold sh21
 simp only [joinK]
 refine iter_all (F := sh21_L2 sh21_K0) (fun o => AnB o (∃ y ∈ l, y.1 = x)) (fun k => (lAt (0, ()) l (k : Int)).1 ≠ x) (fun k : Nat => (l, x, (k : Int), ())) l.length 100000 (by omega) (fun rc k hk hj => ?_) (fun rc hj => ?_)
 ·simp only [sh21_L2]
  rw [if_pos (by simpa using hk), if_pos (inR_nat hk)]
  by_cases he : (lAt (0, ()) l (k : Int)).1 = x
  ·rw [if_pos (by simpa using he)]
   exact .inr ⟨fun h => h he, AnB.t ⟨_, lAt_mem _ _ _ (by omega) (by omega), he⟩⟩
  ·rw [if_neg (by simpa using he), up1' hk]
   exact .inl ⟨he, rfl⟩
 ·simp only [sh21_L2]
  rw [if_neg (by simp)]
  refine AnB.f fun ⟨y, h1, h2⟩ => ?_
  obtain ⟨j, hj1, rfl⟩ := List.getElem_of_mem h1
  exact hj j hj1 (by rw [lAt_nat _ _ _ hj1]; exact h2)
theorem ecN_ne {ns : List Nd} {k i : Nat} : ecN ns k i ≠ 0 ↔ k ≠ i ∧ ∃ y ∈ exN ns k, y.1 = (i : Int) := by
 unfold ecN
 by_cases h : k = i
 ·rw [if_pos h]; exact ⟨fun h' => absurd rfl h', fun h' => absurd h h'.1⟩
 ·rw [if_neg h, ← Nat.pos_iff_ne_zero, List.countP_pos_iff]
  simp only [beq_iff_eq]
  exact ⟨fun h' => ⟨h, h'⟩, fun h' => h'.2⟩
theorem sum_zero_iff : ∀ l : List Nat, l.sum = 0 ↔ ∀ v ∈ l, v = 0
 | [] => by simp
 | a :: r => by
  rw [List.sum_cons, Nat.add_eq_zero_iff, sum_zero_iff r]; simp
theorem wN_zero {ns : List Nd} {S : List Nat} {i : Nat} : wN ns S i = 0 ↔ ∀ k ∈ S, ecN ns k i = 0 := by
 unfold wN
 rw [sum_zero_iff]; simp
def Rdy (ns : List Nd) (N : Nat) (out : List Nat) (i : Nat) : Prop := i ∉ out ∧ ∀ k, k < N → ecN ns k i ≠ 0 → k ∈ out
theorem rdy_iff {ns : List Nd} {N : Nat} {out : List Nat} {i : Nat} : (!out.contains i && wN ns (remN N out) i == 0) = true ↔ Rdy ns N out i := by
 simp only [Bool.and_eq_true, Bool.not_eq_true', beq_iff_eq, List.contains_eq_mem, decide_eq_false_iff_not]
 unfold Rdy
 refine and_congr_right fun hi => ?_
 rw [wN_zero]
 unfold remN
 simp only [List.mem_filter, List.mem_range, Bool.not_eq_true', List.contains_eq_mem, decide_eq_false_iff_not]
 exact ⟨fun h k hk hc => Classical.byContradiction fun ho => hc (h k ⟨hk, ho⟩), fun h k ⟨hk, ho⟩ => Classical.byContradiction fun hc => ho (h k hk hc)⟩
theorem next_some {ns : List Nd} {N : Nat} {out : List Nat} {x : Nat} (h1 : x < N) (h2 : Rdy ns N out x) (h3 : ∀ j, j < x → ¬ Rdy ns N out j) : nextN ns N out = some x := by
 unfold nextN
 rw [List.find?_range_eq_some]
 refine ⟨rdy_iff.2 h2, List.mem_range.2 h1, fun j hj => ?_⟩
 have := fun e => h3 j hj (rdy_iff.1 e)
 cases hb : (!out.contains j && wN ns (remN N out) j == 0) with
 | true => exact absurd hb this
 | false => rfl
theorem next_none {ns : List Nd} {N : Nat} {out : List Nat} (h : ∀ j, j < N → ¬ Rdy ns N out j) : nextN ns N out = none := by
 unfold nextN
 rw [List.find?_eq_none]
 exact fun j hj e => h j (List.mem_range.1 hj) (rdy_iff.1 e)
theorem next_rdy {ns : List Nd} {N : Nat} {out : List Nat} {x : Nat} (h : nextN ns N out = some x) : x < N ∧ Rdy ns N out x := by
 obtain ⟨h1, h2, _⟩ := find_range h
 exact ⟨h1, rdy_iff.1 h2⟩
section
variable {N : Nat} {ns : List Nd} {ds : List Dv}
theorem e71g (h : NsN N ns) {k : Nat} (hk : k < N) (i : Nat) : AnB (sp71 ((ns, ds, ()), (k : Int), (i : Int), ())) (ecN ns k i ≠ 0) := by
 have hkl : k < ns.length := by rw [h.len]; exact hk
 show AnB (sh71 0 (ns, ds, ()) (k : Int) (i : Int)) _
 unfold sh71
 simp only [joinK, sh71_K0]
 by_cases e : k = i
 ·subst e
  rw [if_neg (by simp)]
  exact AnB.f fun h' => (ecN_ne.1 h').1 rfl
 ·rw [if_pos (by simp; omega), if_pos (inR_nat hkl)]
  obtain ⟨b, hb, hi⟩ := e21g (exN ns k) (i : Int) (by have := exN_leng h k; omega)
  rw [show (lAt ([], 0, 0, 0, [], ()) ns (k : Int)).2.2.2.2.1 = exN ns k from rfl, hb, Option.bind_some]
  exact AnB.of (hi.trans ⟨fun h' => ecN_ne.2 ⟨e, h'⟩, fun h' => (ecN_ne.1 h').2⟩)
theorem mem_il {out : List Nat} {i : Nat} : (∃ y ∈ ilN out, y.1 = (i : Int)) ↔ i ∈ out := by
 unfold ilN
 simp only [List.mem_map]
 constructor
 ·rintro ⟨_, ⟨k, hk, rfl⟩, h⟩
  simp only at h
  have : k = i := by omega
  exact this ▸ hk
 ·exact fun h => ⟨_, ⟨i, h, rfl⟩, rfl⟩
theorem e59g (h : NsN N ns) : sp59 ((ns, ds, ()), ()) = some (ilN (ordN ns N N []), ()) := by
 have hl := h.len
 have h24 := h.N24
 show sh59 100000 (ns, ds, ()) = _
 unfold sh59
 simp only [joinK]
 refine iter_q (F := sh59_L2 100000 sh59_K0) (fun o => o = some (ilN (ordN ns N N []), ())) (fun r z => ∃ out : List Nat, z = ((ns, ds, ()), ilN out, ()) ∧ out.length = r ∧ ordN ns N (N - r) out = ordN ns N N []) N 100000 (by omega) ⟨[], rfl, rfl, rfl⟩ (fun rc r z hr hz => ?_) (fun rc z hz => ?_)
 ·obtain ⟨out, rfl, hlen, hord⟩ := hz
  have hol : (ilN out).length = r := by rw [ilN, List.length_map, hlen]
  simp only [sh59_L2, joinK]
  rw [if_pos (by simp only [decide_eq_true_eq]; omega), show IntKind.i64.wrap ((ns.length : Int) - 1) = (N : Int) - 1 by rw [hl]; exact wrapI (by omega) (by omega)]
  rw [show N - r = (N - (r + 1)) + 1 by omega] at hord
  refine iter_q (F := sh59_L5 100000 (sh59_K3 rc)) (fun o => (∃ z', o = rc z' ∧ ∃ out : List Nat, z' = ((ns, ds, ()), ilN out, ()) ∧ out.length = r + 1 ∧ ordN ns N (N - (r + 1)) out = ordN ns N N []) ∨ o = some (ilN (ordN ns N N []), ()))
   (fun t z => ∃ nx : Int, z = (nx, (N : Int) - 1 - t, (ns, ds, ()), ilN out, ()) ∧ ((nx = -1 ∧ ∀ i, N ≤ i + t → i < N → ¬ Rdy ns N out i) ∨ ∃ x : Nat, nx = x ∧ x < N ∧ Rdy ns N out x ∧ ∀ i, N ≤ i + t → i < x → ¬ Rdy ns N out i)) N 100000 (by omega)
   ⟨-1, by simp, .inl ⟨rfl, fun i h1 h2 => by omega⟩⟩ (fun rc2 t z ht hz => ?_) (fun rc2 z hz => ?_)
  ·obtain ⟨nx, rfl, hnx⟩ := hz
   obtain ⟨i, hi⟩ : ∃ i : Nat, i + t + 1 = N := ⟨N - 1 - t, by omega⟩
   have hiN : i < N := by omega
   have hii : (N : Int) - 1 - t = (i : Int) := by omega
   rw [hii]
   simp only [sh59_L5, joinK]
   rw [if_pos (by simp)]
   obtain ⟨b, hb, hbi⟩ := e21g (ilN out) (i : Int) (by rw [hol]; omega)
   rw [hb, Option.bind_some]
   simp only
   rw [mem_il] at hbi
   left
   refine iter_q (F := sh59_L11 (sh59_K9 (sh59_K6 rc2))) (fun o => ∃ z', o = rc2 z' ∧ ∃ nx : Int, z' = (nx, (N : Int) - 1 - ((t + 1 : Nat) : Int), (ns, ds, ()), ilN out, ()) ∧ ((nx = -1 ∧ ∀ i, N ≤ i + (t + 1) → i < N → ¬ Rdy ns N out i) ∨ ∃ x : Nat, nx = x ∧ x < N ∧ Rdy ns N out x ∧ ∀ i, N ≤ i + (t + 1) → i < x → ¬ Rdy ns N out i))
    (fun k z => ∃ rd : Bool, z = (nx, (i : Int), rd, (k : Int), (ns, ds, ()), ilN out, ()) ∧ (rd = true ↔ i ∉ out ∧ ∀ j, j < k → ecN ns j i ≠ 0 → j ∈ out)) N 100000 (by omega)
    ⟨!b, rfl, by rw [Bool.not_eq_true', ← Bool.not_eq_true, hbi]; exact ⟨fun h' => ⟨h', fun j hj => by omega⟩, fun h' => h'.1⟩⟩ (fun rc3 k z hk hz => ?_) (fun rc3 z hz => ?_)
   ·obtain ⟨rd, rfl, hrd⟩ := hz
    left
    simp only [sh59_L11, joinK]
    obtain ⟨c, hc, hci⟩ := e71g (ds := ds) h hk i
    rw [if_pos (by simp only [decide_eq_true_eq]; omega), hc, Option.bind_some]
    simp only
    have stepK : ∀ bb : Bool, (bb = true ↔ ecN ns k i ≠ 0 ∧ k ∉ out) → ∃ z', sh59_K14 (sh59_K12 rc3) (nx, (i : Int), rd, (k : Int), bb, (ns, ds, ()), ilN out, ()) = rc3 z' ∧ ∃ rd : Bool, z' = (nx, (i : Int), rd, ((k + 1 : Nat) : Int), (ns, ds, ()), ilN out, ()) ∧ (rd = true ↔ i ∉ out ∧ ∀ j, j < k + 1 → ecN ns j i ≠ 0 → j ∈ out) := by
     intro bb hbb
     simp only [sh59_K14, sh59_K12]
     cases bb with
     | true =>
      obtain ⟨q1, q2⟩ := hbb.1 rfl
      rw [if_pos rfl, up1' (n := 100) (by omega)]
      exact ⟨_, rfl, false, rfl, ⟨fun e => (nomatch e), fun h' => absurd (h'.2 k (by omega) q1) q2⟩⟩
     | false =>
      rw [if_neg (by decide), up1' (n := 100) (by omega)]
      refine ⟨_, rfl, rd, rfl, hrd.trans ⟨fun h' => ⟨h'.1, fun j hj he => ?_⟩, fun h' => ⟨h'.1, fun j hj he => h'.2 j (by omega) he⟩⟩⟩
      rcases Nat.lt_or_ge j k with hjk | hjk
      ·exact h'.2 j hjk he
      ·have : j = k := by omega
       subst this
       exact Classical.byContradiction fun ho => by have := hbb.2 ⟨he, ho⟩; cases this
    by_cases hct : c = true
    ·obtain ⟨d, hd, hdi⟩ := e21g (ilN out) (k : Int) (by rw [hol]; omega)
     rw [if_pos hct, hd, Option.bind_some]
     simp only
     rw [mem_il] at hdi
     refine stepK _ ?_
     rw [Bool.not_eq_true', ← Bool.not_eq_true, hdi]
     exact ⟨fun h' => ⟨hci.1 hct, h'⟩, fun h' => h'.2⟩
    ·rw [if_neg hct]
     exact stepK _ ⟨fun e => (nomatch e), fun h' => absurd (hci.2 h'.1) hct⟩
   ·obtain ⟨rd, rfl, hrd⟩ := hz
    simp only [sh59_L11]
    rw [if_neg (by simp only [decide_eq_true_eq]; omega)]
    simp only [sh59_K9, sh59_K6]
    have hw : IntKind.i64.wrap ((i : Int) - 1) = (N : Int) - 1 - ((t + 1 : Nat) : Int) := by rw [wrapI (by omega) (by omega)]; omega
    rw [hw]
    cases rd with
    | true =>
     rw [if_pos rfl]
     exact ⟨_, rfl, _, rfl, .inr ⟨i, rfl, hiN, hrd.1 rfl, fun j h1 h2 => by omega⟩⟩
    | false =>
     rw [if_neg (by decide)]
     have hno : ¬ Rdy ns N out i := fun h' => by have := hrd.2 h'; cases this
     refine ⟨_, rfl, nx, rfl, ?_⟩
     rcases hnx with ⟨e, hn⟩ | ⟨x, e, hx, hr, hn⟩
     ·refine .inl ⟨e, fun j h1 h2 => ?_⟩
      rcases Nat.lt_or_ge i j with hij | hij
      ·exact hn j (by omega) h2
      ·have : j = i := by omega
       exact this ▸ hno
     ·refine .inr ⟨x, e, hx, hr, fun j h1 h2 => ?_⟩
      rcases Nat.lt_or_ge i j with hij | hij
      ·exact hn j (by omega) h2
      ·have : j = i := by omega
       exact this ▸ hno
  ·obtain ⟨nx, rfl, hnx⟩ := hz
   simp only [sh59_L5]
   rw [if_neg (by simp only [decide_eq_true_eq]; omega)]
   simp only [sh59_K3]
   rcases hnx with ⟨rfl, hn⟩ | ⟨x, rfl, hx, hr, hn⟩
   ·rw [if_pos (decide_eq_true (by decide))]
    right
    simp only [ordN, next_none fun j hj => hn j (by omega) hj] at hord
    rw [← hord]
   ·rw [if_neg (by simp), if_pos (dlim (by simp [hol]; omega)), if_pos (dlim (by simp [hol]; omega))]
    left
    simp only [ordN, next_some hx hr fun j hj => hn j (by omega) hj] at hord
    exact ⟨_, rfl, out ++ [x], by rw [show ilN out ++ [((x : Int), ())] = ilN (out ++ [x]) by simp [ilN]], by simp [hlen], hord⟩
 ·obtain ⟨out, rfl, hlen, hord⟩ := hz
  have hol : (ilN out).length = N := by rw [ilN, List.length_map, hlen]
  simp only [sh59_L2]
  rw [if_neg (by simp only [decide_eq_true_eq]; omega)]
  rw [Nat.sub_self] at hord
  rw [← hord]; rfl
end
structure Topo (ns : List Nd) (N : Nat) (out : List Nat) : Prop where
 nd : out.Nodup
 lt : ∀ k ∈ out, k < N
 le : out.length ≤ N
 top : ∀ (q x : Nat), out[q]? = some x → ∀ k, k < N → ecN ns k x ≠ 0 → ∃ p, p < q ∧ out[p]? = some k
theorem Topo.push {ns : List Nd} {N : Nat} {out : List Nat} {x : Nat} (h : Topo ns N out) (hx : x < N) (hr : Rdy ns N out x) : Topo ns N (out ++ [x]) := by
 have hnd : (out ++ [x]).Nodup := List.nodup_append.2 ⟨h.nd, by simp, fun a ha b hb => by rw [List.mem_singleton.1 hb]; rintro rfl; exact hr.1 ha⟩
 have hlt : ∀ k ∈ out ++ [x], k < N := fun k hk => by
  rcases List.mem_append.1 hk with hk | hk
  ·exact h.lt k hk
  ·rw [List.mem_singleton.1 hk]; exact hx
 refine ⟨hnd, hlt, ?_, fun q y hq k hk he => ?_⟩
 ·have := len_sub (out ++ [x]) (List.range N) hnd fun k hk => List.mem_range.2 (hlt k hk)
  rwa [List.length_range] at this
 ·rw [List.getElem?_append] at hq
  by_cases hql : q < out.length
  ·rw [if_pos hql] at hq
   obtain ⟨p, hp, hpk⟩ := h.top q y hq k hk he
   exact ⟨p, hp, by rw [List.getElem?_append, if_pos (by omega)]; exact hpk⟩
  ·rw [if_neg hql] at hq
   have hq0 : q - out.length = 0 := by
    rcases Nat.eq_zero_or_pos (q - out.length) with h0 | h0
    ·exact h0
    ·rw [List.getElem?_eq_none (by simp; omega)] at hq; cases hq
   rw [hq0] at hq
   have hxy : x = y := by simpa using hq
   subst hxy
   obtain ⟨p, hp, hpk⟩ := List.getElem_of_mem (hr.2 k hk he)
   refine ⟨p, by omega, ?_⟩
   rw [List.getElem?_append, if_pos hp, List.getElem?_eq_getElem hp, hpk]
theorem topo_ord (ns : List Nd) (N : Nat) : ∀ n out, Topo ns N out → Topo ns N (ordN ns N n out)
 | 0, _, h => h
 | n + 1, out, h => by
  unfold ordN
  cases hx : nextN ns N out with
  | none => exact h
  | some x =>
   obtain ⟨h1, h2⟩ := next_rdy hx
   exact topo_ord ns N n _ (h.push h1 h2)
theorem topo0 (ns : List Nd) (N : Nat) : Topo ns N [] := ⟨List.nodup_nil, by simp, Nat.zero_le _, fun q x h => by simp at h⟩
theorem idx_le {a : Nat} : ∀ (l : List Nat) (p : Nat), l[p]? = some a → l.idxOf a ≤ p
 | [], p, h => by simp at h
 | b :: r, 0, h => by
  have : b = a := by simpa using h
  subst this; simp
 | b :: r, p + 1, h => by
  rw [List.idxOf_cons]
  have := idx_le r p (by simpa using h)
  cases (b == a) <;> simp <;> omega
theorem idx_get {a : Nat} {l : List Nat} (h : a ∈ l) : l[l.idxOf a]? = some a := by
 have := List.idxOf_lt_length_of_mem h
 rw [List.getElem?_eq_getElem this, List.getElem_idxOf]
theorem Topo.full {ns : List Nd} {N : Nat} {out : List Nat} (h : Topo ns N out) (hl : out.length = N) {k : Nat} (hk : k < N) : k ∈ out := Classical.byContradiction fun hno => by
 have := len_sub (k :: out) (List.range N) (List.nodup_cons.2 ⟨hno, h.nd⟩) fun j hj => List.mem_range.2 (by
  rcases List.mem_cons.1 hj with rfl | hj
  ·exact hk
  ·exact h.lt j hj)
 rw [List.length_range, List.length_cons] at this
 omega
def rkN (N : Nat) (out : List Nat) (i : Nat) : Nat := N - out.idxOf i
theorem rk_lt {ns : List Nd} {N : Nat} {out : List Nat} (h : Topo ns N out) (hl : out.length = N) {i x : Nat} (hi : i < N) (hx : x < N) (he : ecN ns i x ≠ 0) : rkN N out x < rkN N out i := by
 obtain ⟨p, hp, hpi⟩ := h.top _ x (idx_get (h.full hl hx)) i hi he
 have h1 := idx_le _ _ hpi
 have h2 := List.idxOf_lt_length_of_mem (h.full hl hx)
 unfold rkN; omega
abbrev dvA (ds : List Dv) (i : Nat) : Dv := lAt (0, 0, 0, ()) ds (i : Int)
def DvcP (ns : List Nd) (d : Dv) : Prop := (d.1 = 1 ∨ d.1 = 2) ∧ 0 ≤ d.2.1 ∧ d.2.1 < ns.length ∧ 0 ≤ d.2.2.1 ∧ d.2.2.1 < (lAt ([], 0, 0, 0, [], ()) ns d.2.1).2.2.1
structure DevsP (ns : List Nd) (ds : List Dv) : Prop where
 ok : ∀ k, k < ds.length → DvcP ns (dvA ds k)
 nd : ∀ k, k < ds.length → ∀ j, j < k → dvA ds j ≠ dvA ds k
structure ValP (ns : List Nd) (ds : List Dv) : Prop where
 n : ns.length ≤ 24
 m : ds.length ≤ 24
 node : ∀ i, i < ns.length → NodeOK ns.length i (ndA ns i)
 tot : totN ns ns.length ≤ 80
 names : NamesP ns
 zon : ∀ i, i < ns.length → ZonP ns (ndA ns i)
 ord : (ordN ns ns.length ns.length []).length = ns.length
 dev : DevsP ns ds
 ent : ∃ i, i < ns.length ∧ (ndA ns i).2.1 = 1
theorem dv_beq (x y : Dv) : (x.1 == y.1 && (x.2.1 == y.2.1 && (x.2.2.1 == y.2.2.1 && true))) = true ↔ x = y := by
 rw [dv_eq]; simp
theorem dA_take (l : List Dv) {j k : Nat} (h : j < k) (hk : k ≤ l.length) : dvA (l.take k) j = dvA l j := by
 unfold dvA
 rw [lAt_nat _ _ _ (by rw [List.length_take]; omega), lAt_nat _ _ _ (by omega), List.getElem_take]
theorem e65g (l : List Dv) (x : Dv) (hl : l.length ≤ 90000) : AnB (sp65 (l, x, ())) (∃ j : Nat, j < l.length ∧ dvA l j = x) := by
 suffices h : ∃ r : Int, sp79 (l, x, ()) = some (r, ()) ∧ (0 ≤ r ↔ ∃ j : Nat, j < l.length ∧ dvA l j = x) by
  obtain ⟨r, h1, h2⟩ := h
  show AnB (sh65 0 l x) _
  unfold sh65
  rw [h1, Option.bind_some]
  exact AnB.of (by simpa using h2)
 show ∃ r : Int, sh79 100000 l x = some (r, ()) ∧ _
 unfold sh79
 simp only [joinK]
 refine iter_all (F := sh79_L2 sh79_K0) (fun o => ∃ r : Int, o = some (r, ()) ∧ (0 ≤ r ↔ ∃ j : Nat, j < l.length ∧ dvA l j = x)) (fun k => dvA l k ≠ x) (fun k : Nat => (l, (l.length : Int), (k : Int), x, ())) l.length 100000 (by omega) (fun rc k hk hj => ?_) (fun rc hj => ?_)
 ·simp only [sh79_L2]
  rw [if_pos (by simpa using hk), if_pos (inR_nat hk)]
  by_cases he : dvA l k = x
  ·rw [if_pos ((dv_beq _ _).2 he.symm)]
   exact .inr ⟨fun h => h he, _, rfl, ⟨fun _ => ⟨k, hk, he⟩, fun _ => by omega⟩⟩
  ·rw [if_neg (fun e => he ((dv_beq _ _).1 e).symm), up1' hk]
   exact .inl ⟨he, rfl⟩
 ·simp only [sh79_L2]
  rw [if_neg (by simp)]
  exact ⟨-1, rfl, ⟨fun h => by omega, fun ⟨j, h1, h2⟩ => absurd h2 (hj j h1)⟩⟩
theorem e50g {ns : List Nd} {ds : List Dv} (hm : ds.length ≤ 24) : AnE (sp50 ((ns, ds, ()), ())) (DevsP ns ds) := by
 have k0 : (∀ k, k < ds.length → DvcP ns (dvA ds k)) → AnE (sh50_K0 100000 ((ns, ds, ()), ())) (DevsP ns ds) := by
  intro hok
  simp only [sh50_K0, joinK]
  refine iter_all (F := sh50_L3 sh50_K1) (fun o => AnE o (DevsP ns ds)) (fun k => ∀ j, j < k → dvA ds j ≠ dvA ds k) (fun k : Nat => (ds, (ds.length : Int), (k : Int), (ns, ds, ()), ())) ds.length 100000 (by omega) (fun rc k hk hj => ?_) (fun rc hj => ?_)
  ·have hc0 : inCut 0 (k : Int) ds.length = true := inCut_nat (a := 0) (Nat.zero_le _) (Nat.le_of_lt hk)
   have hcut : cutL ds 0 (k : Int) = ds.take k := by simp [cutL]
   obtain ⟨b, hb, hbi⟩ := e65g (ds.take k) (dvA ds k) (by rw [List.length_take]; omega)
   simp only [sh50_L3]
   rw [if_pos (by simpa using hk), if_pos (inR_nat hk), if_pos hc0, hcut, hb, Option.bind_some]
   simp only
   by_cases hbt : b = true
   ·rw [if_pos hbt]
    obtain ⟨j, hj1, hj2⟩ := hbi.1 hbt
    rw [List.length_take] at hj1
    rw [dA_take _ (by omega) (Nat.le_of_lt hk)] at hj2
    exact .inr ⟨fun h => h j (by omega) hj2, AnE.n (by decide) fun h => h.nd k hk j (by omega) hj2⟩
   ·rw [if_neg hbt, up1' hk]
    refine .inl ⟨fun j hjk e => hbt (hbi.2 ⟨j, by rw [List.length_take]; omega, ?_⟩), rfl⟩
    rw [dA_take _ hjk (Nat.le_of_lt hk)]; exact e
  ·simp only [sh50_L3]
   rw [if_neg (by simp)]
   exact AnE.z ⟨hok, hj⟩
 show AnE (sh50 100000 (ns, ds, ())) _
 unfold sh50
 simp only [joinK]
 refine iter_all (F := sh50_L6 (sh50_K0 100000)) (fun o => AnE o (DevsP ns ds)) (fun k => DvcP ns (dvA ds k)) (fun k : Nat => (ds, (ds.length : Int), (k : Int), (ns, ds, ()), ())) ds.length 100000 (by omega) (fun rc k hk hj => ?_) (fun rc hj => ?_)
 ·have bad : ∀ e : Int, e ≠ 0 → ¬ DvcP ns (dvA ds k) → AnE (some (e, ())) (DevsP ns ds) := fun e he h => AnE.n he fun h' => h (h'.ok k hk)
  simp only [sh50_L6, joinK]
  rw [if_pos (by simpa using hk), if_pos (inR_nat hk)]
  have fin : ∀ b : Bool, (b = true ↔ ¬ ((dvA ds k).1 = 1 ∨ (dvA ds k).1 = 2)) → (DvcP ns (dvA ds k) ∧ sh50_K7 rc (ds, (ds.length : Int), (k : Int), b, (ns, ds, ()), dvA ds k, ()) = rc (ds, (ds.length : Int), ((k + 1 : Nat) : Int), (ns, ds, ()), ())) ∨
    (¬ DvcP ns (dvA ds k) ∧ AnE (sh50_K7 rc (ds, (ds.length : Int), (k : Int), b, (ns, ds, ()), dvA ds k, ())) (DevsP ns ds)) := by
   intro b hb
   simp only [sh50_K7, joinK]
   cases b with
   | true =>
    rw [if_pos rfl]
    have hn : ¬ DvcP ns (dvA ds k) := fun h => hb.1 rfl h.1
    exact .inr ⟨hn, bad _ (by decide) hn⟩
   | false =>
    have hkd : (dvA ds k).1 = 1 ∨ (dvA ds k).1 = 2 := Classical.byContradiction fun h => by have := hb.2 h; cases this
    rw [if_neg (by decide)]
    simp only [sh50_K8]
    by_cases h1 : (dvA ds k).2.1 < 0
    ·rw [if_pos (decide_eq_true h1), if_pos trivial]
     have hn : ¬ DvcP ns (dvA ds k) := fun h => by have := h.2.1; omega
     exact .inr ⟨hn, bad _ (by decide) hn⟩
    rw [if_neg (by simpa using h1)]
    by_cases h2 : (ns.length : Int) ≤ (dvA ds k).2.1
    ·rw [if_pos (decide_eq_true h2), if_pos trivial]
     have hn : ¬ DvcP ns (dvA ds k) := fun h => by have := h.2.2.1; omega
     exact .inr ⟨hn, bad _ (by decide) hn⟩
    rw [if_neg (by simpa using h2)]
    by_cases h3 : (dvA ds k).2.2.1 < 0
    ·rw [if_pos (decide_eq_true h3), if_pos trivial]
     have hn : ¬ DvcP ns (dvA ds k) := fun h => by have := h.2.2.2.1; omega
     exact .inr ⟨hn, bad _ (by decide) hn⟩
    rw [if_neg (by simpa using h3), if_pos (inR_int (by omega) (by omega))]
    by_cases h4 : (lAt ([], 0, 0, 0, [], ()) ns (dvA ds k).2.1).2.2.1 ≤ (dvA ds k).2.2.1
    ·rw [if_pos (decide_eq_true h4)]
     have hn : ¬ DvcP ns (dvA ds k) := fun h => by have := h.2.2.2.2; omega
     exact .inr ⟨hn, bad _ (by decide) hn⟩
    ·rw [if_neg (by simpa using h4), up1' hk]
     exact .inl ⟨⟨hkd, by omega, by omega, by omega, by omega⟩, rfl⟩
  by_cases o1 : (dvA ds k).1 = 1
  ·rw [if_neg (by simpa using o1)]; exact fin _ (by simp [o1])
  ·rw [if_pos (by simpa using o1)]; exact fin _ (by simp [o1])
 ·simp only [sh50_L6]
  rw [if_neg (by simp)]
  exact k0 hj
theorem ord_le (ns : List Nd) : (ordN ns ns.length ns.length []).length ≤ ns.length := (topo_ord ns ns.length ns.length [] (topo0 ns ns.length)).le
theorem il_len (l : List Nat) : (ilN l).length = l.length := by rw [ilN, List.length_map]
theorem e32g {ns : List Nd} {ds : List Dv} (hL : ∀ i, i < ns.length → (ndA ns i).2.2.2.2.1.length ≤ 90000) : AnE (sp32 ((ns, ds, ()), ())) (ValP ns ds) := by
 show AnE (sh32 100000 (ns, ds, ())) _
 unfold sh32
 simp only [joinK]
 by_cases h24 : 24 < ns.length
 ·rw [if_pos (by simp only [decide_eq_true_eq]; omega)]
  simp only [sh32_K0]
  rw [if_pos trivial]
  exact AnE.n (by decide) fun h => by have := h.n; omega
 rw [if_neg (by simp only [decide_eq_true_eq]; omega)]
 simp only [sh32_K0, joinK]
 by_cases hm : 24 < ds.length
 ·rw [if_pos (by simp only [decide_eq_true_eq]; omega)]
  exact AnE.n (by decide) fun h => by have := h.m; omega
 rw [if_neg (by simp only [decide_eq_true_eq]; omega)]
 refine iter_all (F := sh32_L16 (sh32_K1 100000)) (fun o => AnE o (ValP ns ds)) (fun i => NodeOK ns.length i (ndA ns i)) (fun k : Nat => ((ns.length : Int), (k : Int), (ns, ds, ()), ())) ns.length 100000 (by omega) (fun rc k hk hj => ?_) (fun rc hok => ?_)
 ·obtain ⟨e, he, hei⟩ := e45g (ds := ds) hk (by omega) (x := ndA ns k) rfl (hL k hk)
  simp only [sh32_L16]
  rw [if_pos (by simpa using hk), he, Option.bind_some]
  simp only
  by_cases h0 : e = 0
  ·rw [if_neg (by simpa using h0), up1' hk]
   exact .inl ⟨hei.1 h0, rfl⟩
  ·rw [if_pos (by simpa using h0)]
   exact .inr ⟨fun h => h0 (hei.2 h), AnE.n h0 fun h => h0 (hei.2 (h.node k hk))⟩
 simp only [sh32_L16]
 rw [if_neg (by simp)]
 have hN : NsN ns.length ns := ⟨rfl, by omega, hok⟩
 simp only [sh32_K1, joinK]
 rw [e46g hN.ok, Option.bind_some]
 simp only
 by_cases h80 : 80 < totN ns ns.length
 ·rw [if_pos (decide_eq_true h80)]
  exact AnE.n (by decide) fun h => by have := h.tot; omega
 rw [if_neg (by simpa using h80)]
 obtain ⟨b, hb, hbi⟩ := e47g (ds := ds) hN.ok.n
 rw [hb, Option.bind_some]
 simp only
 cases b with
 | false =>
  rw [if_pos (by decide)]
  exact AnE.n (by decide) fun h => by have := hbi.2 h.names; cases this
 | true =>
 have hnm := hbi.1 rfl
 rw [if_neg (by decide)]
 refine iter_all (F := sh32_L13 (sh32_K4 100000)) (fun o => AnE o (ValP ns ds)) (fun i => ZonP ns (ndA ns i)) (fun k : Nat => ((ns.length : Int), (k : Int), (ns, ds, ()), ())) ns.length 100000 (by omega) (fun rc k hk hj => ?_) (fun rc hz => ?_)
 ·obtain ⟨e, he, hei⟩ := e48g (ds := ds) hk (x := ndA ns k) rfl (hok k hk)
  simp only [sh32_L13]
  rw [if_pos (by simpa using hk), he, Option.bind_some]
  simp only
  cases e with
  | true =>
   rw [if_neg (by decide), up1' hk]
   exact .inl ⟨hei.1 rfl, rfl⟩
  | false =>
   rw [if_pos (by decide)]
   have hn : ¬ ZonP ns (ndA ns k) := fun h => by have := hei.2 h; cases this
   exact .inr ⟨hn, AnE.n (by decide) fun h => hn (h.zon k hk)⟩
 simp only [sh32_L13]
 rw [if_neg (by simp)]
 simp only [sh32_K4, joinK]
 rw [e49g hN, Option.bind_some]
 simp only [il_len]
 have hol := ord_le ns
 by_cases ho : (ordN ns ns.length ns.length []).length = ns.length
 case neg =>
  rw [if_pos (by simp only [decide_eq_true_eq]; omega)]
  exact AnE.n (by decide) fun h => ho h.ord
 rw [if_neg (by simp only [decide_eq_true_eq]; omega)]
 obtain ⟨e, he, hei⟩ := e50g (ns := ns) (ds := ds) (by omega)
 rw [he, Option.bind_some]
 simp only
 by_cases h0 : e = 0
 case neg =>
  rw [if_pos (by simpa using h0)]
  exact AnE.n h0 fun h => h0 (hei.2 h.dev)
 rw [if_neg (by simpa using h0)]
 have hdv := hei.1 h0
 refine iter_all (F := sh32_L11 sh32_K7 (sh32_K9 sh32_K7)) (fun o => AnE o (ValP ns ds)) (fun i => (ndA ns i).2.1 ≠ 1) (fun k : Nat => (ns, (ns.length : Int), (k : Int), ())) ns.length 100000 (by omega) (fun rc k hk hj => ?_) (fun rc he => ?_)
 ·simp only [sh32_L11]
  rw [if_pos (by simpa using hk), if_pos (inR_nat hk)]
  by_cases h1 : (ndA ns k).2.1 = 1
  ·rw [if_pos (by simpa using h1)]
   simp only [sh32_K7]
   rw [decide_eq_true (by omega), if_neg (by decide)]
   exact .inr ⟨fun h => h h1, AnE.z ⟨by omega, by omega, hok, by omega, hnm, hz, ho, hdv, k, hk, h1⟩⟩
  ·rw [if_neg (by simpa using h1), up1' hk]
   exact .inl ⟨h1, rfl⟩
 ·simp only [sh32_L11]
  rw [if_neg (by simp)]
  simp only [sh32_K9, sh32_K7]
  rw [if_pos (by decide)]
  exact AnE.n (by decide) fun h => by obtain ⟨i, h1, h2⟩ := h.ent; exact he i h1 h2
theorem e38g {ns : List Nd} {ds : List Dv} (hL : ∀ i, i < ns.length → (ndA ns i).2.2.2.2.1.length ≤ 90000) : AnE (sp38 ((ns, ds, ()), ())) (ValP ns ds) := by
 show AnE (sh38 100000 (ns, ds, ())) _
 unfold sh38
 simp only [joinK]
 by_cases h24 : 24 < ns.length
 ·rw [if_pos (by simp only [decide_eq_true_eq]; omega)]
  simp only [sh38_K0]
  rw [if_pos trivial]
  exact AnE.n (by decide) fun h => by have := h.n; omega
 rw [if_neg (by simp only [decide_eq_true_eq]; omega)]
 simp only [sh38_K0, joinK]
 by_cases hm : 24 < ds.length
 ·rw [if_pos (by simp only [decide_eq_true_eq]; omega)]
  exact AnE.n (by decide) fun h => by have := h.m; omega
 rw [if_neg (by simp only [decide_eq_true_eq]; omega)]
 refine iter_q (F := sh38_L25 (sh38_K1 100000)) (fun o => AnE o (ValP ns ds)) (fun k z => ∃ c : Nat, z = ((c : Int), (k : Int), (ns, ds, ()), ()) ∧ c ≤ k ∧ (c = 0 ↔ ∀ j, j < k → (ndA ns j).2.1 ≠ 1) ∧ ∀ j, j < k → NodeOK ns.length j (ndA ns j)) ns.length 100000 (by omega)
  ⟨0, rfl, Nat.le_refl _, ⟨fun _ j hj => by omega, fun _ => rfl⟩, fun j hj => by omega⟩ (fun rc k z hk hz => ?_) (fun rc z hz => ?_)
 ·obtain ⟨c, rfl, hck, hc, hj⟩ := hz
  obtain ⟨e, he, hei⟩ := e56g (ds := ds) hk (by omega) (x := ndA ns k) rfl (hL k hk)
  simp only [sh38_L25, joinK]
  rw [if_pos (by simpa using hk), he, Option.bind_some]
  simp only
  by_cases h0 : e = 0
  ·have hok : ∀ j, j < k + 1 → NodeOK ns.length j (ndA ns j) := fun j hjk => by
    rcases Nat.lt_or_ge j k with h | h
    ·exact hj j h
    ·rw [show j = k by omega]; exact hei.1 h0
   left
   rw [if_neg (by simpa using h0), if_pos (inR_nat hk)]
   simp only [sh38_K26]
   by_cases h1 : (ndA ns k).2.1 = 1
   ·rw [if_pos (by simpa using h1), up1' hk, show IntKind.i64.wrap ((c : Int) + 1) = ((c + 1 : Nat) : Int) from up1' (n := 100) (by omega)]
    exact ⟨_, rfl, c + 1, rfl, by omega, ⟨fun e => by omega, fun e => absurd h1 (e k (by omega))⟩, hok⟩
   ·rw [if_neg (by simpa using h1), up1' hk]
    refine ⟨_, rfl, c, rfl, by omega, hc.trans ⟨fun h j hjk => ?_, fun h j hjk => h j (by omega)⟩, hok⟩
    rcases Nat.lt_or_ge j k with h' | h'
    ·exact h j h'
    ·rw [show j = k by omega]; exact h1
  ·right
   rw [if_pos (by simpa using h0)]
   exact AnE.n h0 fun h => h0 (hei.2 (h.node k hk))
 obtain ⟨c, rfl, hck, hc, hok⟩ := hz
 simp only [sh38_L25]
 rw [if_neg (by simp)]
 have hN : NsN ns.length ns := ⟨rfl, by omega, hok⟩
 simp only [sh38_K1, joinK]
 rw [e57g hN.ok, Option.bind_some]
 simp only
 by_cases h80 : 80 < totN ns ns.length
 ·rw [if_pos (decide_eq_true h80)]
  exact AnE.n (by decide) fun h => by have := h.tot; omega
 rw [if_neg (by simpa using h80)]
 refine iter_all (F := sh38_L22 (sh38_K3 100000)) (fun o => AnE o (ValP ns ds)) (fun i => ∀ j, j < i → (ndA ns j).1 ≠ (ndA ns i).1) (fun k : Nat => ((c : Int), (k : Int), (ns, ds, ()), ())) ns.length 100000 (by omega) (fun rc k hk hj => ?_) (fun rc hnm => ?_)
 ·obtain ⟨r, hr, hri⟩ := e37g (ds := ds) hN.ok.n hk
  simp only [sh38_L22]
  rw [if_pos (by simpa using hk), if_pos (inR_nat hk), hr, Option.bind_some]
  simp only
  by_cases h0 : r = k
  ·rw [if_neg (by simpa using h0), up1' hk]
   exact .inl ⟨hri.1 h0, rfl⟩
  ·rw [if_pos (by simpa using h0)]
   exact .inr ⟨fun h => h0 (hri.2 h), AnE.n (by decide) fun h => h0 (hri.2 (h.names k hk))⟩
 simp only [sh38_L22]
 rw [if_neg (by simp)]
 simp only [sh38_K3, joinK]
 obtain ⟨b, hb, hbi⟩ := e58g (ds := ds) hN.ok
 rw [hb, Option.bind_some]
 simp only
 cases b with
 | false =>
  rw [if_pos (by decide)]
  exact AnE.n (by decide) fun h => by have := hbi.2 h.zon; cases this
 | true =>
 have hz := hbi.1 rfl
 rw [if_neg (by decide), e59g hN, Option.bind_some]
 simp only [il_len]
 have hol := ord_le ns
 by_cases ho : (ordN ns ns.length ns.length []).length = ns.length
 case neg =>
  rw [if_pos (by simp only [decide_eq_true_eq]; omega)]
  exact AnE.n (by decide) fun h => ho h.ord
 rw [if_neg (by simp only [decide_eq_true_eq]; omega)]
 refine iter_all (F := sh38_L14 (sh38_K6 100000)) (fun o => AnE o (ValP ns ds)) (fun k => DvcP ns (dvA ds k)) (fun k : Nat => ((c : Int), (k : Int), (ns, ds, ()), ())) ds.length 100000 (by omega) (fun rc k hk hj => ?_) (fun rc hdv => ?_)
 ·have bad : ∀ e : Int, e ≠ 0 → ¬ DvcP ns (dvA ds k) → AnE (some (e, ())) (ValP ns ds) := fun e he h => AnE.n he fun h' => h (h'.dev.ok k hk)
  simp only [sh38_L14, joinK]
  rw [if_pos (by simpa using hk), if_pos (inR_nat hk)]
  have fin : ∀ b : Bool, (b = true ↔ ¬ ((dvA ds k).1 = 1 ∨ (dvA ds k).1 = 2)) → (DvcP ns (dvA ds k) ∧ sh38_K15 rc ((c : Int), (k : Int), b, (ns, ds, ()), dvA ds k, ()) = rc ((c : Int), ((k + 1 : Nat) : Int), (ns, ds, ()), ())) ∨
    (¬ DvcP ns (dvA ds k) ∧ AnE (sh38_K15 rc ((c : Int), (k : Int), b, (ns, ds, ()), dvA ds k, ())) (ValP ns ds)) := by
   intro b hb
   simp only [sh38_K15, joinK]
   cases b with
   | true =>
    rw [if_pos rfl]
    have hn : ¬ DvcP ns (dvA ds k) := fun h => hb.1 rfl h.1
    exact .inr ⟨hn, bad _ (by decide) hn⟩
   | false =>
    have hkd : (dvA ds k).1 = 1 ∨ (dvA ds k).1 = 2 := Classical.byContradiction fun h => by have := hb.2 h; cases this
    rw [if_neg (by decide), show IntKind.i64.wrap ((ns.length : Int) - 1) = (ns.length : Int) - 1 from wrapI (by omega) (by omega), e60g, Option.bind_some]
    simp only [sh38_K16]
    by_cases h1 : 0 ≤ (dvA ds k).2.1 ∧ (dvA ds k).2.1 < ns.length
    ·have hl := (hok (dvA ds k).2.1.toNat (by omega)).len.bd
     rw [show ndA ns (dvA ds k).2.1.toNat = lAt ([], 0, 0, 0, [], ()) ns (dvA ds k).2.1 from rfl] at hl
     rw [if_neg (by rw [decide_eq_true h1.1, decide_eq_true (by omega)]; decide), if_pos (inR_int h1.1 h1.2), wrapI (by omega) (by omega), e60g, Option.bind_some]
     simp only
     by_cases h2 : 0 ≤ (dvA ds k).2.2.1 ∧ (dvA ds k).2.2.1 < (lAt ([], 0, 0, 0, [], ()) ns (dvA ds k).2.1).2.2.1
     ·rw [decide_eq_true h2.1, decide_eq_true (by omega), if_neg (by decide), up1' hk]
      exact .inl ⟨⟨hkd, h1.1, h1.2, h2.1, h2.2⟩, rfl⟩
     ·rw [if_pos (by simp only [Bool.not_eq_true', Bool.and_eq_false_iff, decide_eq_false_iff_not]; omega)]
      have hn : ¬ DvcP ns (dvA ds k) := fun h => h2 ⟨h.2.2.2.1, h.2.2.2.2⟩
      exact .inr ⟨hn, bad _ (by decide) hn⟩
    ·rw [if_pos (by simp only [Bool.not_eq_true', Bool.and_eq_false_iff, decide_eq_false_iff_not]; omega), if_pos trivial]
     have hn : ¬ DvcP ns (dvA ds k) := fun h => h1 ⟨h.2.1, h.2.2.1⟩
     exact .inr ⟨hn, bad _ (by decide) hn⟩
  by_cases o1 : (dvA ds k).1 = 1
  ·rw [if_neg (by simpa using o1)]; exact fin _ (by simp [o1])
  ·rw [if_pos (by simpa using o1)]; exact fin _ (by simp [o1])
 simp only [sh38_L14]
 rw [if_neg (by simp)]
 simp only [sh38_K6, joinK]
 refine iter_all (F := sh38_L9 100000 sh38_K7) (fun o => AnE o (ValP ns ds)) (fun k => ∀ j, j < k → dvA ds j ≠ dvA ds k) (fun k : Nat => ((c : Int), (k : Int), (ns, ds, ()), ())) ds.length 100000 (by omega) (fun rc i hi hj => ?_) (fun rc hnd => ?_)
 ·simp only [sh38_L9, joinK]
  rw [if_pos (by simpa using hi)]
  refine iter_all (F := sh38_L12 (sh38_K10 rc)) (fun o => ((∀ j, j < i → dvA ds j ≠ dvA ds i) ∧ o = rc ((c : Int), ((i + 1 : Nat) : Int), (ns, ds, ()), ())) ∨ (¬ (∀ j, j < i → dvA ds j ≠ dvA ds i) ∧ AnE o (ValP ns ds))) (fun k => dvA ds k ≠ dvA ds i) (fun k : Nat => ((c : Int), (i : Int), (k : Int), (ns, ds, ()), ())) i 100000 (by omega) (fun rc2 k hk hj2 => ?_) (fun rc2 hj2 => ?_)
  ·simp only [sh38_L12]
   rw [if_pos (by simpa using hk), if_pos (inR_nat hi), if_pos (inR_nat (by omega))]
   by_cases he : dvA ds k = dvA ds i
   ·rw [if_pos ((dv_beq _ _).2 he.symm)]
    exact .inr ⟨fun h => h he, .inr ⟨fun h => h k hk he, AnE.n (by decide) fun h => h.dev.nd i hi k hk he⟩⟩
   ·rw [if_neg (fun e => he ((dv_beq _ _).1 e).symm), up1' hk]
    exact .inl ⟨he, rfl⟩
  ·simp only [sh38_L12]
   rw [if_neg (by simp)]
   simp only [sh38_K10]
   rw [up1' hi]
   exact .inl ⟨hj2, rfl⟩
 simp only [sh38_L9]
 rw [if_neg (by simp)]
 simp only [sh38_K7]
 by_cases h0 : c = 0
 ·rw [if_pos (by simp [h0])]
  exact AnE.n (by decide) fun h => by obtain ⟨i, h1, h2⟩ := h.ent; exact hc.1 h0 i h1 h2
 ·rw [if_neg (by simp [h0])]
  refine AnE.z ⟨by omega, by omega, hok, by omega, hnm, hz, ho, ⟨hdv, hnd⟩, Classical.byContradiction fun hno => h0 (hc.2 fun j hj e => hno ⟨j, hj, e⟩)⟩
theorem getD_at {α : Type} (d : α) (l : List α) (k : Nat) (h : k < l.length) : l.getD k d = l[k] := by rw [List.getD, List.getElem?_eq_getElem h]; rfl
section
variable {ns : List Nd} {ds : List Dv}
abbrev ordV (ns : List Nd) : List Nat := ordN ns ns.length ns.length []
theorem ValP.nsok (h : ValP ns ds) : NsOK ns := ⟨h.n, h.node⟩
theorem ValP.nsn (h : ValP ns ds) : NsN ns.length ns := ⟨rfl, h.nsok⟩
theorem ValP.topo (h : ValP ns ds) : Topo ns ns.length (ordV ns) := topo_ord ns ns.length ns.length [] (topo0 ns ns.length)
theorem exK_at (x : Nd) {k : Nat} (h : k < x.2.2.2.2.1.length) : exK x k = (x.2.2.2.2.1[k]).1 := congrArg (·.1) (lAt_nat (0, ()) x.2.2.2.2.1 k h)
theorem ValP.ex (h : ValP ns ds) {i : Nat} (hi : i < ns.length) {x : Int × Unit} (hx : x ∈ exs (ns, ds, ()) i) : 0 ≤ x.1 ∧ x.1 < ns.length := by
 obtain ⟨k, hk, rfl⟩ := List.getElem_of_mem hx
 have := (h.node i hi).ex k hk
 rw [show ((exs (ns, ds, ()) i)[k]).1 = exK (ndA ns i) k from (exK_at (ndA ns i) hk).symm]
 exact ⟨this.1, this.2.1⟩
theorem ValP.len (h : ValP ns ds) {i : Nat} (hi : i < ns.length) : 0 ≤ lnV (ns, ds, ()) i ∧ lnV (ns, ds, ()) i ≤ 8 := (h.node i hi).len.bd
theorem ValP.lenV (h : ValP ns ds) : LenV (ns, ds, ()) where
 n := by have := h.n; show ns.length ≤ 1000; omega
 len := fun i hi => by have := h.len hi; exact ⟨this.1, by have := this.2; simp only [lnV] at this; omega⟩
 ex := fun i hi x hx => h.ex hi hx
theorem ValP.bin (h : ValP ns ds) {i : Nat} (hi : i < ns.length) (hb : binV (ns, ds, ()) i) : lnV (ns, ds, ()) i = 0 := by
 have hx := h.node i hi
 refine hx.len.2 ?_
 have := hx.k1
 change (decide (1 ≤ (ndA ns i).2.1) && decide ((ndA ns i).2.1 ≤ 6)) = false at hb
 rw [decide_eq_true this, Bool.true_and, decide_eq_false_iff_not] at hb
 omega
theorem ValP.rk (h : ValP ns ds) {i : Nat} (hi : i < ns.length) {x : Int × Unit} (hx : x ∈ exs (ns, ds, ()) i) (hne : x.1.toNat ≠ i) : rkN ns.length (ordV ns) x.1.toNat < rkN ns.length (ordV ns) i := by
 obtain ⟨h0, h1⟩ := h.ex hi hx
 exact rk_lt h.topo h.ord hi (by omega) (ecN_ne.2 ⟨fun e => hne e.symm, x, hx, by omega⟩)
theorem ValP.rkV (h : ValP ns ds) (t : Nat) : RkV (ns, ds, ()) t :=
 ⟨rkN ns.length (ordV ns), fun i => Nat.sub_le _ _, fun i hi _ x hx hg => h.rk hi hx (goV_ne hg)⟩
theorem f43 (b : BrV) (i : Nat) : sp43 (b, (i : Int), ()) = some (brkV b i, ()) := by
 show sh43 0 b (i : Int) = _
 unfold sh43
 simp only [joinK, sh43_K0]
 by_cases h : i < b.length
 ·rw [if_pos (by simpa using h), if_pos (inR_nat h)]; rfl
 ·rw [if_neg (by simpa using h)]
  unfold brkV
  rw [List.getD, List.getElem?_eq_none (by omega)]; rfl
def DistL (ns : List Nd) (ds : List Dv) (b : BrV) (t : Nat) (out : IL) : Prop := out.length = ns.length ∧ ∀ i, i < ns.length → (out.getD i (0, ())).1 = distV (ns, ds, ()) b t i
theorem getD_set (l : IL) (i j : Nat) (v : Int × Unit) (hi : i < l.length) : (l.set i v).getD j (0, ()) = if i = j then v else l.getD j (0, ()) := by
 rw [List.getD, List.getElem?_set]
 by_cases h : i = j
 ·subst h; rw [if_pos rfl, if_pos hi, if_pos rfl]; rfl
 ·rw [if_neg h, if_neg h, List.getD]
theorem loop30v (h : ValP ns ds) {b : BrV} {t i f : Nat} (hf : f < ns.length) (hft : f ≠ t) (hbf : brkV b f = false) (j5) (Post : Option (IL × Unit) → Prop) {o : IL} (ho : o.length = ns.length) {od : IL}
  (hd : ∀ x ∈ exs (ns, ds, ()) f, x.1.toNat ≠ f → (o.getD x.1.toNat (0, ())).1 = distV (ns, ds, ()) b t x.1.toNat)
  (hj : ∀ o' : IL, o'.length = ns.length → (∀ j, j ≠ f → o'.getD j (0, ()) = o.getD j (0, ())) → (o'.getD f (0, ())).1 = distV (ns, ds, ()) b t f → Post (j5 (b, (t : Int), (i : Int), (ns, ds, ()), o', od, ()))) :
  Post (iter 100000 (sh30_L7 j5) (b, (t : Int), (i : Int), (f : Int), 0, (ns, ds, ()), o.set f (-1, ()), od, ())) := by
 have hL := h.lenV
 have hlat : lAt ([], 0, 0, 0, [], ()) ns (f : Int) = ndV (ns, ds, ()) f := rfl
 have hct : (exs (ns, ds, ()) f).length ≤ 2 := by
  have := (h.node f hf).cnt
  rw [show (exs (ns, ds, ()) f).length = exitsN (ndA ns f).2.1 from this]; exact exitsN_le _
 refine iter_post (F := sh30_L7 j5) (fun k z => ∃ o' : IL, z = (b, (t : Int), (i : Int), (f : Int), (k : Int), (ns, ds, ()), o', od, ()) ∧ o'.length = ns.length ∧ (∀ j, j ≠ f → o'.getD j (0, ()) = o.getD j (0, ())) ∧ (o'.getD f (0, ())).1 = bestV (ns, ds, ()) b t f k)
  Post (exs (ns, ds, ()) f).length 100000 (by omega) ⟨_, rfl, by rw [List.length_set]; exact ho, fun j hj => by rw [getD_set _ _ _ _ (by omega), if_neg (fun e => hj e.symm)], by rw [getD_set _ _ _ _ (by omega), if_pos rfl]; simp [bestV]⟩ (fun rc k z hk hz => ?_) (fun rc z hz => ?_)
 ·obtain ⟨o', rfl, l1, l2, l3⟩ := hz
  simp only [sh30_L7, joinK, hlat]
  generalize hx : (exs (ns, ds, ()) f)[k] = x
  have hxm : x ∈ exs (ns, ds, ()) f := hx ▸ List.getElem_mem hk
  obtain ⟨x0, x1⟩ := h.ex hf hxm
  have hxk : lAt (0, ()) (ndV (ns, ds, ()) f).2.2.2.2.1 (k : Int) = x := by rw [lAt_nat _ _ _ hk]; exact hx
  have hxg : (ndV (ns, ds, ()) f).2.2.2.2.1[k]? = some x := by rw [List.getElem?_eq_getElem hk]; exact congrArg some hx
  obtain ⟨e, he⟩ : ∃ e : Nat, x.1 = (e : Int) := ⟨x.1.toNat, by omega⟩
  have hen : e < ns.length := by omega
  have het : x.1.toNat = e := by omega
  have hnx : ∀ z : Nat, IntKind.i64.wrap ((k : Int) + 1) = ((k + 1 : Nat) : Int) := fun _ => up1' hk
  have ob := bestV_le (b := b) (t := t) hL (i := f) hf k
  rw [if_pos (inR_nat hf), if_pos (by simpa using hk), if_pos (inR_nat hf), if_pos (inR_nat hk), hxk, he]
  have hlen := h.len hf
  have hdl := distV_le (b := b) (t := t) hL (i := e) hen
  have succ := bestV_succ (b := b) (t := t) hxg
  rw [show putV (ns, ds, ()) b t f (bestV (ns, ds, ()) b t f k) x = if goV (ns, ds, ()) f e t = true then relV (distV (ns, ds, ()) b t e) (ndV (ns, ds, ()) f).2.2.1 (bestV (ns, ds, ()) b t f k) else bestV (ns, ds, ()) b t f k by unfold putV; rw [het]] at succ
  have skip : bestV (ns, ds, ()) b t f (k + 1) = bestV (ns, ds, ()) b t f k → ∃ z', sh30_K10 (sh30_K8 rc) (b, (t : Int), (i : Int), (f : Int), (k : Int), (e : Int), true, (ns, ds, ()), o', od, ()) = rc z' ∧ ∃ o' : IL, z' = (b, (t : Int), (i : Int), (f : Int), ((k + 1 : Nat) : Int), (ns, ds, ()), o', od, ()) ∧ o'.length = ns.length ∧ (∀ j, j ≠ f → o'.getD j (0, ()) = o.getD j (0, ())) ∧ (o'.getD f (0, ())).1 = bestV (ns, ds, ()) b t f (k + 1) := by
   intro hs
   simp only [sh30_K10, sh30_K8]
   rw [if_pos trivial, hnx 0]
   exact ⟨_, rfl, o', rfl, l1, l2, by rw [l3, hs]⟩
  have take : e ≠ f → goV (ns, ds, ()) f e t = true → 0 ≤ distV (ns, ds, ()) b t e → ∃ z', sh30_K10 (sh30_K8 rc) (b, (t : Int), (i : Int), (f : Int), (k : Int), (e : Int), false, (ns, ds, ()), o', od, ()) = rc z' ∧ ∃ o' : IL, z' = (b, (t : Int), (i : Int), (f : Int), ((k + 1 : Nat) : Int), (ns, ds, ()), o', od, ()) ∧ o'.length = ns.length ∧ (∀ j, j ≠ f → o'.getD j (0, ()) = o.getD j (0, ())) ∧ (o'.getD f (0, ())).1 = bestV (ns, ds, ()) b t f (k + 1) := by
   intro hef hg hd0
   have hoe : (o'.getD e (0, ())).1 = distV (ns, ds, ()) b t e := by
    rw [l2 e hef]
    have := hd x hxm (by rw [het]; exact hef)
    rwa [het] at this
   have hw : IntKind.i64.wrap (distV (ns, ds, ()) b t e + (ndV (ns, ds, ()) f).2.2.1) = distV (ns, ds, ()) b t e + (ndV (ns, ds, ()) f).2.2.1 := by
    simp only [lnV] at hlen
    exact wrapI (by omega) (by omega)
   simp only [sh30_K10, joinK, sh30_K11, sh30_K8, hlat, Int.toNat_natCast, hoe, hw, l3]
   rw [if_neg (by decide), if_pos (inR_nat (by omega)), if_pos (decide_eq_true (by omega)), if_pos (inR_nat hf), if_pos (inR_nat (by omega)), if_pos (decide_eq_true (by omega))]
   rw [if_pos hg] at succ
   have put : bestV (ns, ds, ()) b t f (k + 1) = distV (ns, ds, ()) b t e + (ndV (ns, ds, ()) f).2.2.1 → ∃ z', rc (b, (t : Int), (i : Int), (f : Int), IntKind.i64.wrap ((k : Int) + 1), (ns, ds, ()), o'.set f (distV (ns, ds, ()) b t e + (ndV (ns, ds, ()) f).2.2.1, ()), od, ()) = rc z' ∧ ∃ o' : IL, z' = (b, (t : Int), (i : Int), (f : Int), ((k + 1 : Nat) : Int), (ns, ds, ()), o', od, ()) ∧ o'.length = ns.length ∧ (∀ j, j ≠ f → o'.getD j (0, ()) = o.getD j (0, ())) ∧ (o'.getD f (0, ())).1 = bestV (ns, ds, ()) b t f (k + 1) := by
    intro hv
    refine ⟨_, rfl, o'.set f _, by rw [hnx 0], by rw [List.length_set]; exact l1, fun j hj => ?_, ?_⟩
    ·rw [getD_set _ _ _ _ (by omega), if_neg (fun e => hj e.symm), l2 j hj]
    ·rw [getD_set _ _ _ _ (by omega), if_pos rfl, hv]
   by_cases hbn : bestV (ns, ds, ()) b t f k < 0
   ·rw [if_pos (decide_eq_true hbn), if_pos trivial, if_pos (inR_nat (by omega)), if_pos (decide_eq_true (by omega))]
    refine put ?_
    rw [succ]; unfold relV; rw [if_pos ⟨hd0, .inl hbn⟩]
   ·rw [if_neg (by simpa using hbn), if_pos (inR_nat (by omega)), if_pos (decide_eq_true (by omega))]
    by_cases hlt : distV (ns, ds, ()) b t e + (ndV (ns, ds, ()) f).2.2.1 < bestV (ns, ds, ()) b t f k
    ·rw [if_pos (decide_eq_true hlt), if_pos (inR_nat (by omega)), if_pos (decide_eq_true (by omega))]
     refine put ?_
     rw [succ]; unfold relV; rw [if_pos ⟨hd0, .inr hlt⟩]
    ·rw [if_neg (by simpa using hlt)]
     refine ⟨_, rfl, o', by rw [hnx 0], l1, l2, ?_⟩
     rw [l3, succ]; unfold relV; rw [if_neg (fun h' => h'.2.elim hbn hlt)]
  by_cases hef : e = f
  ·subst hef
   rw [if_pos (by simp)]
   exact skip (by rw [succ, if_neg (fun hg => goV_ne hg rfl)])
  rw [if_neg (by simp; omega), if_pos (inR_nat (by omega))]
  simp only [Int.toNat_natCast]
  rw [if_pos (decide_eq_true (by omega))]
  have hoe : (o'.getD e (0, ())).1 = distV (ns, ds, ()) b t e := by
   rw [l2 e hef]
   have := hd x hxm (by rw [het]; exact hef)
   rwa [het] at this
  simp only [hoe]
  by_cases hd0 : distV (ns, ds, ()) b t e < 0
  ·rw [if_pos (decide_eq_true hd0)]
   refine skip ?_
   rw [succ]
   split
   ·unfold relV; rw [if_neg (fun h' => by omega)]
   ·rfl
  rw [if_neg (by simpa using hd0)]
  by_cases het2 : e = t
  ·subst het2
   rw [if_neg (by simp)]
   exact take hef (goV_of hef (.inl rfl)) (by omega)
  ·rw [if_pos (by simp; omega), if_pos (inR_nat hen), show (lAt ([], 0, 0, 0, [], ()) ns (e : Int)).2.1 = (ndV (ns, ds, ()) e).2.1 from rfl, e20, Option.bind_some]
   simp only
   by_cases hst : stripK (ndV (ns, ds, ()) e).2.1 = true
   ·rw [hst]
    exact take hef (goV_of hef (.inr (by unfold binV; rw [hst]; decide))) (by omega)
   ·have hst' : stripK (ndV (ns, ds, ()) e).2.1 = false := by simpa using hst
    rw [hst']
    refine skip ?_
    rw [succ, if_neg (fun hg => ?_)]
    unfold goV at hg
    rw [hst'] at hg
    simp only [Bool.or_false, Bool.and_eq_true, beq_iff_eq] at hg
    exact het2 hg.2
 ·obtain ⟨o', rfl, l1, l2, l3⟩ := hz
  simp only [sh30_L7, hlat]
  rw [if_pos (inR_nat hf), if_neg (by simp)]
  refine hj o' l1 l2 ?_
  rw [l3, distV_eq hL (h.rkV t) (i := f) hf, hbf, if_neg (by decide), if_neg hft]
theorem e38v (h : ValP ns ds) : sp38 ((ns, ds, ()), ()) = some (0, ()) := by
 obtain ⟨e, he, hi⟩ := e38g (ns := ns) (ds := ds) (fun i hi => by have := (h.node i hi).cnt; have := exitsN_le (ndA ns i).2.1; omega)
 rw [he, hi.2 h]
theorem il_get (l : List Nat) {k : Nat} (h : k < l.length) : (ilN l).getD k (0, ()) = ((l[k] : Int), ()) := by
 rw [getD_at _ _ _ (by rw [il_len]; exact h)]
 simp [ilN]
theorem e30g (h : ValP ns ds) (b : BrV) {t : Nat} (ht : t < ns.length) (hb : binV (ns, ds, ()) t) : ∃ out : IL, sp30 ((ns, ds, ()), b, (t : Int), ()) = some (out, ()) ∧ DistL ns ds b t out := by
 have h24 := h.n
 have hL := h.lenV
 have htop := h.topo
 have hord := h.ord
 show ∃ out : IL, sh30 100000 (ns, ds, ()) b (t : Int) = some (out, ()) ∧ _
 unfold sh30
 simp only
 have hlim : ((ns.length : Nat) : Int) ≤ 24 := by omega
 have hlimv : (lim : Int) = 140737488355328 := rfl
 rw [if_pos (decide_eq_true (by omega)), if_pos (decide_eq_true (Int.le_refl _)), if_pos (decide_eq_true (by omega)), if_pos (decide_eq_true (by show (8 : Int) * ((ns.length : Nat) : Int) ≤ (lim : Int); omega))]
 have e42 : sp42 ((ns, ds, ()), ()) = some (ilN (ordV ns), ()) := by
  show sh42 0 (ns, ds, ()) = _
  unfold sh42
  rw [e38v h, Option.bind_some]
  simp only
  rw [if_neg (by decide), e59g h.nsn]; rfl
 rw [e42, Option.bind_some]
 simp only [joinK, il_len]
 rw [hord]
 have hgo : ∀ s : Nat, s < ns.length → ∃ i : Nat, ((ns.length : Int) - 1 - s) = (i : Int) ∧ i < ns.length ∧ i + s + 1 = ns.length := fun s hs => ⟨ns.length - 1 - s, by omega, by omega, by omega⟩
 rw [show IntKind.i64.wrap ((ns.length : Int) - 1) = (ns.length : Int) - 1 - ((0 : Nat) : Int) by rw [wrapI (by omega) (by omega)]; omega]
 refine iter_post (F := sh30_L3 100000 sh30_K1) (fun s z => ∃ o : IL, z = (b, (t : Int), (ns.length : Int) - 1 - (s : Int), (ns, ds, ()), o, ilN (ordV ns), ()) ∧ o.length = ns.length ∧ ∀ x, x < ns.length → ns.length ≤ (ordV ns).idxOf x + s → (o.getD x (0, ())).1 = distV (ns, ds, ()) b t x)
  (fun o => ∃ out : IL, o = some (out, ()) ∧ DistL ns ds b t out) ns.length 100000 (by omega) ⟨_, rfl, by simp, fun x hx hp => ?_⟩ (fun rc s z hs hz => ?_) (fun rc z hz => ?_)
 ·have := List.idxOf_lt_length_of_mem (htop.full hord hx)
  rw [show (ordV ns).length = ns.length from hord] at this
  omega
 ·obtain ⟨o, rfl, l1, l2⟩ := hz
  obtain ⟨i, hi, hin, his⟩ := hgo s hs
  rw [hi]
  have hio : i < (ordV ns).length := by rw [show (ordV ns).length = ns.length from hord]; exact hin
  generalize hfx : (ordV ns)[i] = f
  have hf : f < ns.length := hfx ▸ htop.lt _ (List.getElem_mem hio)
  have hidx : (ordV ns).idxOf f = i := by rw [← hfx]; exact htop.nd.idxOf_getElem _ _
  have hget : (ilN (ordV ns)).getD i (0, ()) = ((f : Int), ()) := by rw [il_get _ hio, hfx]
  have dv := distV_eq (b := b) hL (h.rkV t) (i := f) hf
  simp only [sh30_L3, joinK, sh30_K4, Int.toNat_natCast, hget]
  rw [if_pos (by simp), if_pos (inR_nat (by rw [il_len]; omega)), if_pos (decide_eq_true (by rw [il_len]; omega)), if_pos (inR_nat (by omega)), if_pos (decide_eq_true (by omega)), f43, Option.bind_some]
  simp only
  have hw : IntKind.i64.wrap ((i : Int) - 1) = (ns.length : Int) - 1 - ((s + 1 : Nat) : Int) := by rw [wrapI (by omega) (by omega)]; omega
  rw [hw]
  have fin : ∀ o' : IL, o'.length = ns.length → (∀ j, j ≠ f → o'.getD j (0, ()) = o.getD j (0, ())) → (o'.getD f (0, ())).1 = distV (ns, ds, ()) b t f →
    ∃ z', rc (b, (t : Int), (ns.length : Int) - 1 - ((s + 1 : Nat) : Int), (ns, ds, ()), o', ilN (ordV ns), ()) = rc z' ∧ ∃ o : IL, z' = (b, (t : Int), (ns.length : Int) - 1 - ((s + 1 : Nat) : Int), (ns, ds, ()), o, ilN (ordV ns), ()) ∧ o.length = ns.length ∧ ∀ x, x < ns.length → ns.length ≤ (ordV ns).idxOf x + (s + 1) → (o.getD x (0, ())).1 = distV (ns, ds, ()) b t x := by
   intro o' m1 m2 m3
   refine ⟨_, rfl, o', rfl, m1, fun x hx hp => ?_⟩
   by_cases hxf : x = f
   ·rw [hxf]; exact m3
   ·rw [m2 x hxf]
    refine l2 x hx ?_
    have : (ordV ns).idxOf x ≠ i := fun e => hxf (by
     have h1 := idx_get (htop.full hord hx)
     rw [e, List.getElem?_eq_getElem hio, hfx] at h1
     exact (Option.some.inj h1).symm)
    omega
  by_cases hbk : brkV b f = true
  ·rw [if_pos hbk]
   refine fin _ (by rw [List.length_set]; exact l1) (fun j hj => by rw [getD_set _ _ _ _ (by omega), if_neg (fun e => hj e.symm)]) ?_
   rw [getD_set _ _ _ _ (by omega), if_pos rfl, dv, if_pos hbk]
  rw [if_neg hbk]
  have hbf : brkV b f = false := by simpa using hbk
  by_cases hft : f = t
  ·subst hft
   rw [if_pos (by simp), if_pos (inR_nat (by rw [List.length_set]; omega)), if_pos (decide_eq_true (by rw [List.length_set]; omega))]
   refine fin _ (by rw [List.length_set, List.length_set]; exact l1) (fun j hj => by rw [getD_set _ _ _ _ (by rw [List.length_set]; omega), if_neg (fun e => hj e.symm), getD_set _ _ _ _ (by omega), if_neg (fun e => hj e.symm)]) ?_
   rw [getD_set _ _ _ _ (by rw [List.length_set]; omega), if_pos rfl, dv, if_neg hbk, if_pos rfl]
   exact (h.bin hf hb).symm
  ·rw [if_neg (by simp; omega)]
   refine loop30v h hf hft hbf _ (fun o => ∃ z', o = rc z' ∧ ∃ o : IL, z' = (b, (t : Int), (ns.length : Int) - 1 - ((s + 1 : Nat) : Int), (ns, ds, ()), o, ilN (ordV ns), ()) ∧ o.length = ns.length ∧ ∀ x, x < ns.length → ns.length ≤ (ordV ns).idxOf x + (s + 1) → (o.getD x (0, ())).1 = distV (ns, ds, ()) b t x) l1 (fun x hx hne => ?_) (fun o' m1 m2 m3 => ?_)
   ·obtain ⟨x0, x1⟩ := h.ex hf hx
    refine l2 _ (by omega) ?_
    have := h.rk hf hx hne
    unfold rkN at this
    rw [hidx] at this
    omega
   ·simp only [sh30_K4]
    rw [hw]
    exact fin o' m1 m2 m3
 ·obtain ⟨o, rfl, l1, l2⟩ := hz
  simp only [sh30_L3]
  rw [if_neg (by simp only [decide_eq_true_eq]; omega)]
  exact ⟨o, rfl, l1, fun i hi => l2 i hi (by omega)⟩
end
section
variable {ns : List Nd} {ds : List Dv}
def LtP (ns : List Nd) : Prop := ns.length ≤ 90000 ∧ ∀ i, i < ns.length → (ndA ns i).2.2.2.2.1.length ≤ 90000
def AskP (ns : List Nd) (ds : List Dv) (f t : Int) : Prop := 0 ≤ f ∧ f < ns.length ∧ 0 ≤ t ∧ t < ns.length ∧ binV (ns, ds, ()) t.toNat ∧ ValP ns ds
theorem e27g (hl : LtP ns) (f t : Int) : AnB (sp27 ((ns, ds, ()), f, t, ())) (AskP ns ds f t) := by
 show AnB (sh27 0 (ns, ds, ()) f t) _
 unfold sh27
 simp only [joinK, sh27_K0]
 by_cases h0 : 0 ≤ f
 case neg => rw [if_neg (by simpa using h0)]; exact AnB.f fun h => h0 h.1
 rw [if_pos (by simpa using h0)]
 by_cases h1 : f < ns.length
 case neg => rw [if_neg (by simpa using h1)]; exact AnB.f fun h => h1 h.2.1
 rw [if_pos (by simpa using h1), e33, Option.bind_some]
 simp only
 by_cases h2 : 0 ≤ t ∧ t < ns.length ∧ stripK (ndV (ns, ds, ()) t.toNat).2.1 = false
 case neg =>
  rw [if_neg (by simp only [Bool.and_eq_true, decide_eq_true_eq, Bool.not_eq_true']; exact h2)]
  exact AnB.f fun h => h2 ⟨h.2.2.1, h.2.2.2.1, h.2.2.2.2.1⟩
 rw [if_pos (by simp only [Bool.and_eq_true, decide_eq_true_eq, Bool.not_eq_true']; exact h2)]
 obtain ⟨e, he, hi⟩ := e32g (ns := ns) (ds := ds) hl.2
 rw [he, Option.bind_some]
 refine AnB.of ?_
 rw [beq_iff_eq, hi]
 exact ⟨fun h => ⟨h0, h1, h2.1, h2.2.1, h2.2.2, h⟩, fun h => h.2.2.2.2.2⟩
theorem e29g (hl : LtP ns) (f t : Int) : AnB (sp29 ((ns, ds, ()), f, t, ())) (AskP ns ds f t) := by
 show AnB (sh29 0 (ns, ds, ()) f t) _
 unfold sh29
 simp only [joinK, sh29_K0]
 by_cases h0 : 0 ≤ f
 case neg => rw [if_neg (by simpa using h0)]; exact AnB.f fun h => h0 h.1
 rw [if_pos (by simpa using h0)]
 by_cases h1 : f < ns.length
 case neg => rw [if_neg (by simpa using h1)]; exact AnB.f fun h => h1 h.2.1
 rw [if_pos (by simpa using h1)]
 by_cases h2 : 0 ≤ t
 case neg => rw [if_neg (by simpa using h2)]; exact AnB.f fun h => h2 h.2.2.1
 rw [if_pos (by simpa using h2)]
 by_cases h3 : t < ns.length
 case neg => rw [if_neg (by simpa using h3)]; exact AnB.f fun h => h3 h.2.2.2.1
 rw [if_pos (by simpa using h3), if_pos (inR_int h2 h3), show (lAt ([], 0, 0, 0, [], ()) ns t).2.1 = (ndV (ns, ds, ()) t.toNat).2.1 from rfl, e20, Option.bind_some]
 simp only
 by_cases h4 : stripK (ndV (ns, ds, ()) t.toNat).2.1 = false
 case neg =>
  have h4' : stripK (ndV (ns, ds, ()) t.toNat).2.1 = true := by simpa using h4
  rw [h4', if_neg (by decide)]
  exact AnB.f fun h => h4 h.2.2.2.2.1
 rw [h4, if_pos (by decide)]
 obtain ⟨e, he, hi⟩ := e38g (ns := ns) (ds := ds) hl.2
 rw [he, Option.bind_some]
 refine AnB.of ?_
 rw [beq_iff_eq, hi]
 exact ⟨fun h => ⟨h0, h1, h2, h3, h4, h⟩, fun h => h.2.2.2.2.2⟩
theorem AskP.way {f t : Int} (h : AskP ns ds f t) : WayV (ns, ds, ()) f t := ⟨h.2.2.2.2.2.lenV, h.2.2.2.2.2.rkV _, h.1, h.2.1, h.2.2.1, h.2.2.2.1⟩
open Classical in
noncomputable def disA (ns : List Nd) (ds : List Dv) (b : BrV) (f t : Int) : Int := if AskP ns ds f t then distV (ns, ds, ()) b t.toNat f.toNat else -1
open Classical in
noncomputable def exiA (ns : List Nd) (ds : List Dv) (b : BrV) (f t : Int) : Int := if AskP ns ds f t ∧ f ≠ t then exitV (ns, ds, ()) b t.toNat f.toNat else -1
theorem f12 (hl : LtP ns) (b : BrV) (f t : Int) : sp12 ((ns, ds, ()), b, f, t, ()) = some (disA ns ds b f t, ()) := by
 obtain ⟨a, ha, hi⟩ := e27g (ds := ds) hl f t
 show (sp27 ((ns, ds, ()), f, t, ())).bind _ = _
 rw [ha, Option.bind_some]
 simp only
 unfold disA
 by_cases h : AskP ns ds f t
 ·rw [if_neg (by rw [hi.2 h]; decide), if_pos h.way, if_pos h]
 ·rw [if_pos (by cases a with | false => rfl | true => exact absurd (hi.1 rfl) h), if_neg h]
theorem f14 (hl : LtP ns) (b : BrV) (f t : Int) : sp14 ((ns, ds, ()), b, f, t, ()) = some (exiA ns ds b f t, ()) := by
 obtain ⟨a, ha, hi⟩ := e27g (ds := ds) hl f t
 show (sp27 ((ns, ds, ()), f, t, ())).bind _ = _
 rw [ha, Option.bind_some]
 simp only
 unfold exiA
 by_cases h : AskP ns ds f t
 ·rw [if_neg (by rw [hi.2 h]; decide)]
  by_cases e : f = t
  ·rw [if_pos e, if_neg (fun h' => h'.2 e)]
  ·rw [if_neg e, if_pos h.way, if_pos ⟨h, e⟩]
 ·rw [if_pos (by cases a with | false => rfl | true => exact absurd (hi.1 rfl) h), if_neg (fun h' => h h'.1)]
theorem e13g (hl : LtP ns) (b : BrV) (f t : Int) : sp13 ((ns, ds, ()), b, f, t, ()) = some (disA ns ds b f t, ()) := by
 obtain ⟨a, ha, hi⟩ := e29g (ds := ds) hl f t
 show sh13 0 (ns, ds, ()) b f t = _
 unfold sh13
 rw [ha, Option.bind_some]
 simp only
 unfold disA
 by_cases h : AskP ns ds f t
 ·obtain ⟨f, rfl⟩ : ∃ n : Nat, f = n := ⟨f.toNat, by have := h.1; omega⟩
  obtain ⟨t, rfl⟩ : ∃ n : Nat, t = n := ⟨t.toNat, by have := h.2.2.1; omega⟩
  have hf : f < ns.length := by have := h.2.1; omega
  have ht : t < ns.length := by have := h.2.2.2.1; omega
  have hb := h.2.2.2.2.1
  rw [Int.toNat_natCast] at hb
  obtain ⟨out, ho, hl, hd⟩ := e30g h.2.2.2.2.2 b ht hb
  rw [if_neg (by rw [hi.2 h]; decide), ho, Option.bind_some]
  simp only [Int.toNat_natCast]
  rw [if_pos (inR_nat (by omega)), if_pos (decide_eq_true (by omega)), if_pos h]
  refine congrArg some ?_
  rw [← hd f hf]
 ·rw [if_pos (by cases a with | false => rfl | true => exact absurd (hi.1 rfl) h), if_neg h]
theorem exit_at {l : Ty4} {b : BrV} {t f k : Nat} {p : Int × Unit → Bool} (hp : p = fun x => goV l f x.1.toNat t && (decide (0 ≤ distV l b t f) && (decide (0 ≤ distV l b t x.1.toNat) && decide (distV l b t x.1.toNat + (ndV l f).2.2.1 = distV l b t f))))
  (hk : k < (exs l f).length) (h1 : p (exs l f)[k] = true) (h : ∀ j (hj : j < k), p ((exs l f)[j]'(by omega)) = false) : exitV l b t f = k := by
 have e : (exs l f).findIdx? p = some k := List.findIdx?_eq_some_iff_getElem.2 ⟨hk, h1, fun j hj => by rw [h j hj]; simp⟩
 have e2 : exitV l b t f = match (exs l f).findIdx? p with | some k => (k : Int) | none => (-1 : Int) := by subst hp; rfl
 rw [e2, e]
theorem e15g (hl : LtP ns) (b : BrV) (f t : Int) : sp15 ((ns, ds, ()), b, f, t, ()) = some (exiA ns ds b f t, ()) := by
 show sh15 100000 (ns, ds, ()) b f t = _
 unfold sh15
 rw [e13g hl, Option.bind_some]
 simp only [joinK]
 have none1 : ∀ z : BrV × Int × Int × Int × Bool × Ty4 × Unit, z.2.2.2.2.1 = true → sh15_K1 100000 z = some (-1, ()) := fun z hz => by simp only [sh15_K1]; rw [if_pos hz]
 by_cases h : AskP ns ds f t
 case neg =>
  have hd : disA ns ds b f t = -1 := by unfold disA; rw [if_neg h]
  have he : exiA ns ds b f t = -1 := by unfold exiA; rw [if_neg (fun h' => h h'.1)]
  rw [hd, he, if_pos (by decide)]
  exact none1 _ rfl
 obtain ⟨f, rfl⟩ : ∃ n : Nat, f = n := ⟨f.toNat, by have := h.1; omega⟩
 obtain ⟨t, rfl⟩ : ∃ n : Nat, t = n := ⟨t.toNat, by have := h.2.2.1; omega⟩
 have hv := h.2.2.2.2.2
 have hf : f < ns.length := by have := h.2.1; omega
 have ht : t < ns.length := by have := h.2.2.2.1; omega
 have hb := h.2.2.2.2.1
 rw [Int.toNat_natCast] at hb
 have hd : disA ns ds b (f : Int) (t : Int) = distV (ns, ds, ()) b t f := by unfold disA; rw [if_pos h]; rfl
 rw [hd]
 by_cases hd0 : distV (ns, ds, ()) b t f < 0
 ·rw [if_pos (decide_eq_true hd0), none1 _ rfl]
  unfold exiA
  split
  ·rw [Int.toNat_natCast, Int.toNat_natCast, exit_no hd0]
  ·rfl
 rw [if_neg (by simpa using hd0)]
 by_cases hft : f = t
 ·subst hft
  rw [none1 _ (by simp)]
  unfold exiA
  rw [if_neg (fun h' => h'.2 rfl)]
 have he : exiA ns ds b (f : Int) (t : Int) = exitV (ns, ds, ()) b t f := by unfold exiA; rw [if_pos ⟨h, by omega⟩]; rfl
 rw [he]
 have hL := hv.lenV
 have hR := hv.rkV t
 obtain ⟨out, ho, hol, hod⟩ := e30g hv b ht hb
 have hlen := hv.len hf
 have hdl := distV_le (b := b) (t := t) hL (i := f) hf
 simp only [sh15_K1, joinK]
 rw [show ((f : Int) == (t : Int)) = false by simp; omega, if_neg (by decide), ho, Option.bind_some]
 obtain ⟨x, hx, hg, hx0, hxe⟩ := dist_ex (b := b) hL hR hf hft (by omega)
 have hct : (exs (ns, ds, ()) f).length ≤ 2 := by
  have := (hv.node f hf).cnt
  rw [show (exs (ns, ds, ()) f).length = exitsN (ndA ns f).2.1 from this]; exact exitsN_le _
 have hlat : lAt ([], 0, 0, 0, [], ()) ns (f : Int) = ndV (ns, ds, ()) f := rfl
 generalize hp : (fun x : Int × Unit => goV (ns, ds, ()) f x.1.toNat t && (decide (0 ≤ distV (ns, ds, ()) b t f) && (decide (0 ≤ distV (ns, ds, ()) b t x.1.toNat) && decide (distV (ns, ds, ()) b t x.1.toNat + (ndV (ns, ds, ()) f).2.2.1 = distV (ns, ds, ()) b t f)))) = p
 have hge : 0 ≤ distV (ns, ds, ()) b t f - (ndV (ns, ds, ()) f).2.2.1 := by
  have : distV (ns, ds, ()) b t x.1.toNat + (ndV (ns, ds, ()) f).2.2.1 = distV (ns, ds, ()) b t f := hxe
  omega
 have hpx : ∀ y : Int × Unit, p y = true ↔ goV (ns, ds, ()) f y.1.toNat t = true ∧ distV (ns, ds, ()) b t y.1.toNat = distV (ns, ds, ()) b t f - lnV (ns, ds, ()) f := fun y => by
  rw [← hp]
  simp only [Bool.and_eq_true, decide_eq_true_eq]
  change _ ↔ _ ∧ _ = _ - (ndV (ns, ds, ()) f).2.2.1
  exact ⟨fun h' => ⟨h'.1, by omega⟩, fun h' => ⟨h'.1, by omega, by omega, by omega⟩⟩
 refine iter_q (F := sh15_L5 sh15_K3) (fun o => o = some (exitV (ns, ds, ()) b t f, ())) (fun k z => z = ((f : Int), (t : Int), distV (ns, ds, ()) b t f, (k : Int), (ns, ds, ()), out, ()) ∧ ∀ j (hj : j < (exs (ns, ds, ()) f).length), j < k → p (exs (ns, ds, ()) f)[j] = false) (exs (ns, ds, ()) f).length 100000 (by omega) ⟨rfl, fun j _ hj => by omega⟩ (fun rc k z hk hz => ?_) (fun rc z hz => ?_)
 ·obtain ⟨rfl, hj⟩ := hz
  simp only [sh15_L5, joinK, hlat]
  generalize hyk : (exs (ns, ds, ()) f)[k] = y
  have hym : y ∈ exs (ns, ds, ()) f := hyk ▸ List.getElem_mem hk
  obtain ⟨y0, y1⟩ := hv.ex hf hym
  have hyl : lAt (0, ()) (ndV (ns, ds, ()) f).2.2.2.2.1 (k : Int) = y := by rw [lAt_nat _ _ _ hk]; exact hyk
  obtain ⟨e, he⟩ : ∃ e : Nat, y.1 = (e : Int) := ⟨y.1.toNat, by omega⟩
  have hen : e < ns.length := by omega
  have het : y.1.toNat = e := by omega
  have hpy := hpx y
  rw [het] at hpy
  rw [if_pos (inR_nat hf), if_pos (by simpa using hk), if_pos (inR_nat hf), if_pos (inR_nat hk), hyl, he]
  have go : p y = false → ∃ z', sh15_K6 rc ((f : Int), (t : Int), distV (ns, ds, ()) b t f, (k : Int), false, (ns, ds, ()), out, ()) = rc z' ∧ z' = ((f : Int), (t : Int), distV (ns, ds, ()) b t f, ((k + 1 : Nat) : Int), (ns, ds, ()), out, ()) ∧ ∀ j (hj : j < (exs (ns, ds, ()) f).length), j < k + 1 → p (exs (ns, ds, ()) f)[j] = false := fun hn => by
   simp only [sh15_K6]
   rw [if_neg (by decide), up1' hk]
   refine ⟨_, rfl, rfl, fun j hjl hjk => ?_⟩
   rcases Nat.lt_or_ge j k with h' | h'
   ·exact hj j hjl h'
   ·have : j = k := by omega
    subst this
    rw [hyk]; exact hn
  have stop : p y = true → sh15_K6 rc ((f : Int), (t : Int), distV (ns, ds, ()) b t f, (k : Int), true, (ns, ds, ()), out, ()) = some (exitV (ns, ds, ()) b t f, ()) := fun hy => by
   simp only [sh15_K6]
   rw [if_pos trivial, exit_at hp.symm hk (by rw [hyk]; exact hy) fun j hjk => hj j (by omega) hjk]
  by_cases hef : e = f
  ·rw [if_neg (by simp [hef])]
   left
   refine go ?_
   rw [← Bool.not_eq_true, hpy]
   exact fun h' => goV_ne h'.1 hef
  rw [if_pos (by simp; omega), if_pos (inR_nat (by omega))]
  simp only [Int.toNat_natCast]
  have hw : IntKind.i64.wrap (distV (ns, ds, ()) b t f - (ndV (ns, ds, ()) f).2.2.1) = distV (ns, ds, ()) b t f - (ndV (ns, ds, ()) f).2.2.1 := by
   simp only [lnV] at hlen
   exact wrapI (by omega) (by omega)
  rw [if_pos (decide_eq_true (by omega)), if_pos (inR_nat hf)]
  simp only [hod e hen, hw]
  by_cases heq : distV (ns, ds, ()) b t e = distV (ns, ds, ()) b t f - (ndV (ns, ds, ()) f).2.2.1
  ·rw [if_pos (by simpa using heq)]
   by_cases het2 : e = t
   ·rw [if_pos (by simp [het2])]
    right
    exact stop (hpy.2 ⟨goV_of hef (.inl het2), heq⟩)
   ·rw [if_neg (by simp; omega), if_pos (inR_nat hen), show (lAt ([], 0, 0, 0, [], ()) ns (e : Int)).2.1 = (ndV (ns, ds, ()) e).2.1 from rfl, e20, Option.bind_some]
    simp only
    by_cases hst : stripK (ndV (ns, ds, ()) e).2.1 = true
    ·rw [hst]
     right
     exact stop (hpy.2 ⟨goV_of hef (.inr (by unfold binV; rw [hst]; decide)), heq⟩)
    ·have hst' : stripK (ndV (ns, ds, ()) e).2.1 = false := by simpa using hst
     rw [hst']
     left
     refine go ?_
     rw [← Bool.not_eq_true, hpy]
     intro h'
     have hg' := h'.1
     unfold goV at hg'
     rw [hst'] at hg'
     simp only [Bool.or_false, Bool.and_eq_true, beq_iff_eq] at hg'
     exact het2 hg'.2
  ·rw [if_neg (by simpa using heq)]
   left
   refine go ?_
   rw [← Bool.not_eq_true, hpy]
   exact fun h' => heq h'.2
 ·obtain ⟨rfl, hj⟩ := hz
  exfalso
  obtain ⟨k, hk, rfl⟩ := List.getElem_of_mem hx
  have := hj k hk hk
  rw [(hpx _).2 ⟨hg, by simp only [lnV] at *; omega⟩] at this
  cases this
open Classical in
noncomputable def reaA (ns : List Nd) (ds : List Dv) (b : BrV) (f : Int) : IL := ((List.range ns.length).filter fun i : Nat => decide (0 ≤ disA ns ds b f (i : Int))).map fun i : Nat => ((i : Int), ())
theorem e18g (hl : LtP ns) (b : BrV) (f : Int) : sp18 ((ns, ds, ()), b, f, ()) = some (reaA ns ds b f, ()) := by
 have hn := hl.1
 show sh18 100000 (ns, ds, ()) b f = _
 unfold sh18
 simp only [joinK]
 refine iter_count (F := sh18_L2 sh18_K0) (fun k : Nat => (b, f, (k : Int), (ns, ds, ()), ((List.range k).filter fun i : Nat => decide (0 ≤ disA ns ds b f (i : Int))).map (fun i : Nat => ((i : Int), ())), ())) ns.length 100000 (by omega) (fun rc k hk => ?_) (fun rc => ?_)
 ·simp only [sh18_L2, joinK, sh18_K3]
  have hfl : ((List.range k).filter fun i : Nat => decide (0 ≤ disA ns ds b f (i : Int))).length ≤ k := by
   refine Nat.le_trans (List.length_filter_le _ _) ?_
   rw [List.length_range]; exact Nat.le_refl _
  rw [if_pos (by simpa using hk), e13g hl, Option.bind_some, up1' hk, List.range_succ, List.filter_append, List.map_append]
  simp only
  by_cases h : 0 ≤ disA ns ds b f (k : Int)
  ·rw [if_pos (decide_eq_true h), if_pos (dlim (by simp only [List.length_map, List.length_cons, List.length_nil]; omega)), if_pos (dlim (by simp only [List.length_map, List.length_cons, List.length_nil]; omega))]
   rw [List.filter_cons_of_pos (by simpa using h)]
   rfl
  ·rw [if_neg (by simpa using h), List.filter_cons_of_neg (by simpa using h)]
   simp
 ·simp only [sh18_L2]
  rw [if_neg (by simp)]
  rfl
theorem f17 (hl : LtP ns) (b : BrV) (f : Int) : sp17 ((ns, ds, ()), b, f, ()) = some (reaA ns ds b f, ()) := by
 have nil : (∀ i : Nat, i < ns.length → ¬ AskP ns ds f (i : Int)) → reaA ns ds b f = [] := fun h => by
  unfold reaA
  rw [List.map_eq_nil_iff, List.filter_eq_nil_iff]
  intro i hi
  unfold disA
  rw [if_neg (h i (List.mem_range.1 hi))]
  simp
 show (if f < 0 ∨ (ns.length : Int) ≤ f then some (([] : IL), ()) else _) = _
 by_cases h0 : f < 0 ∨ (ns.length : Int) ≤ f
 ·rw [if_pos h0, nil fun i _ h => by have := h.1; have := h.2.1; omega]
 rw [if_neg h0]
 obtain ⟨e, he, hi⟩ := e32g (ns := ns) (ds := ds) hl.2
 rw [he, Option.bind_some]
 simp only
 by_cases h1 : e = 0
 ·have hv := hi.1 h1
  rw [if_neg (fun h => h h1), if_pos ⟨hv.lenV, fun t _ => hv.rkV t⟩]
  refine congrArg some (Prod.ext ?_ rfl)
  show reachV (ns, ds, ()) b f.toNat = reaA ns ds b f
  unfold reachV reaA
  refine congrArg _ (List.filter_congr fun i hi => ?_)
  have hin : i < ns.length := List.mem_range.1 hi
  unfold disA
  cases hs : stripK (ndV (ns, ds, ()) i).2.1 with
  | true =>
   rw [if_neg (fun h => by have := h.2.2.2.2.1; rw [Int.toNat_natCast] at this; unfold binV at this; rw [hs] at this; cases this)]
   simp
  | false =>
   rw [if_pos ⟨by omega, by omega, by omega, by omega, by rw [Int.toNat_natCast]; exact hs, hv⟩, Int.toNat_natCast]
   simp
 ·rw [if_pos h1, nil fun i _ h => h1 (hi.2 h.2.2.2.2.2)]
theorem reaA_len (b : BrV) (f : Int) : (reaA ns ds b f).length ≤ ns.length := by
 unfold reaA
 rw [List.length_map]
 refine Nat.le_trans (List.length_filter_le _ _) ?_
 rw [List.length_range]; exact Nat.le_refl _
theorem e16g (l : IL) (hl : l.length ≤ 90000) : sp16 (l, l, ()) = some (true, ()) := by
 show sh16 100000 l l = _
 unfold sh16
 rw [if_neg (by simp)]
 simp only [joinK]
 refine iter_count (F := sh16_L2 sh16_K0) (fun k : Nat => (l, l, (k : Int), ())) l.length 100000 (by omega) (fun rc k hk => ?_) (fun rc => ?_)
 ·simp only [sh16_L2]
  rw [if_pos (by simpa using hk), if_pos (inR_nat hk), if_pos (inR_nat hk), if_neg (by simp), up1' hk]
 ·simp only [sh16_L2]
  rw [if_neg (by simp)]; rfl
end
theorem e7g {ns : List Nd} {ds : List Dv} (hn : ns.length ≤ lim) : ∃ b, sp7 ((ns, ds, ()), ()) = some (b, ()) ∧ (b = true → LtP ns) := by
 have hlim : lim = 140737488355328 := rfl
 show ∃ b, sh7 (ns.length + 1) (ns, ds, ()) = some (b, ()) ∧ _
 unfold sh7
 simp only [joinK]
 refine iter_all (F := sh7_L4 sh7_K0) (fun o => ∃ b, o = some (b, ()) ∧ (b = true → LtP ns)) (fun i => (ndA ns i).2.2.2.2.1.length ≤ 20 ∧ (ndA ns i).1.length ≤ 60) (fun k : Nat => ((k : Int), (ns, ds, ()), ())) ns.length (ns.length + 1) (Nat.lt_succ_self _) (fun rc k hk hj => ?_) (fun rc hj => ?_)
 ·simp only [sh7_L4, joinK]
  rw [if_pos (by simpa using hk), if_pos (inR_nat hk)]
  simp only [sh7_K5]
  by_cases h20 : 20 < (ndA ns k).2.2.2.2.1.length
  ·rw [if_pos (show decide ((20 : Int) < ((lAt ([], 0, 0, 0, [], ()) ns (k : Int)).2.2.2.2.1.length : Int)) = true from decide_eq_true (Int.ofNat_lt.2 h20)), if_pos trivial]
   exact .inr ⟨by omega, false, rfl, fun e => nomatch e⟩
  ·rw [if_neg (show ¬ decide ((20 : Int) < ((lAt ([], 0, 0, 0, [], ()) ns (k : Int)).2.2.2.2.1.length : Int)) = true from fun h => h20 (Int.ofNat_lt.1 (of_decide_eq_true h))), if_pos (inR_nat hk)]
   by_cases h60 : 60 < (ndA ns k).1.length
   ·rw [if_pos (show decide ((60 : Int) < ((lAt ([], 0, 0, 0, [], ()) ns (k : Int)).1.length : Int)) = true from decide_eq_true (Int.ofNat_lt.2 h60))]
    exact .inr ⟨by omega, false, rfl, fun e => nomatch e⟩
   ·rw [if_neg (show ¬ decide ((60 : Int) < ((lAt ([], 0, 0, 0, [], ()) ns (k : Int)).1.length : Int)) = true from fun h => h60 (Int.ofNat_lt.1 (of_decide_eq_true h))), up1' hk]
    exact .inl ⟨by omega, rfl⟩
 ·simp only [sh7_L4]
  rw [if_neg (by simp)]
  simp only [sh7_K0, joinK]
  by_cases h40 : ns.length ≤ 40
  ·rw [if_pos (by simp only [decide_eq_true_eq]; omega)]
   exact ⟨_, rfl, fun _ => ⟨by omega, fun i hi => by have := (hj i hi).1; omega⟩⟩
  ·rw [if_neg (by simp only [decide_eq_true_eq]; omega)]
   exact ⟨_, rfl, fun e => nomatch e⟩
theorem law3 (x : Ty4 × IL × Int × Int × Int × BrV × Unit) (hr : x.1.1.length ≤ lim) (e8 : sp8 () = some (true, ())) : sp3 x = some (true, ()) := by
 obtain ⟨⟨rs, rd, ⟨⟩⟩, l, bits, f, t, list, ⟨⟩⟩ := x
 show sh3 100000 (rs, rd, ()) l bits f t list = _
 unfold sh3
 simp only [joinK]
 obtain ⟨b7, h7, k7⟩ := e7g (ds := rd) hr
 rw [h7, Option.bind_some]
 simp only
 have awake : sh3_K0 100000 (l, bits, f, t, list, true, (rs, rd, ()), ()) = some (true, ()) := by
  simp only [sh3_K0]
  rw [if_pos trivial, e8]; rfl
 cases b7 with
 | false => rw [if_pos (by decide)]; exact awake
 | true =>
 rw [if_neg (by decide)]
 by_cases h60 : 60 < list.length
 ·rw [decide_eq_true (by omega)]; exact awake
 rw [decide_eq_false (by omega)]
 have hrl := k7 rfl
 simp only [sh3_K0, joinK]
 obtain ⟨s0, h0, k0⟩ := e9 l
 obtain ⟨N, gate, ns, ds, s1, h1, k1, hlay, hdev⟩ := e10 k0
 have hN := hlay.N11
 have hlen := hlay.len
 obtain ⟨b, hb, hbl⟩ := e11 bits N (by omega)
 have hxl : LtP ns := ⟨by omega, fun i hi => by
  have := (hlay.node i hi).cnt
  have e : ndA ns i = ns[i] := lAt_nat _ _ _ hi
  rw [e, this]
  have := exitsN_le ns[i].2.1
  omega⟩
 rw [if_neg (by decide), h0, Option.bind_some, h1, Option.bind_some]
 simp only
 rw [hlay.len, hb, Option.bind_some]
 simp only
 refine iter_q (F := sh3_L17 100000 sh3_K5) (fun o => o = some (true, ())) (fun k z => z = (f, t, list, b, (k : Int) - 1, (rs, rd, ()), (ns, ds, ()), ())) (N + 2) 100000 (by omega) (by simp) (fun rc k z hk hz => .inl ?_) (fun rc z hz => ?_)
 ·subst hz
  simp only [sh3_L17, joinK]
  rw [if_pos (by simp only [decide_eq_true_eq, hlen]; omega)]
  refine ⟨(f, t, list, b, ((k + 1 : Nat) : Int) - 1, (rs, rd, ()), (ns, ds, ()), ()), ?_, rfl⟩
  refine iter_q (F := sh3_L28 (sh3_K20 (sh3_K18 rc))) (fun o => o = rc (f, t, list, b, ((k + 1 : Nat) : Int) - 1, (rs, rd, ()), (ns, ds, ()), ())) (fun q z => z = (f, t, list, b, (k : Int) - 1, (q : Int) - 1, (rs, rd, ()), (ns, ds, ()), ())) (N + 2) 100000 (by omega) (by simp) (fun rc2 q z hq hz => .inl ?_) (fun rc2 z hz => ?_)
  ·subst hz
   refine ⟨_, ?_, rfl⟩
   simp only [sh3_L28, joinK]
   rw [if_pos (by simp only [decide_eq_true_eq, hlen]; omega), f12 hxl, Option.bind_some, e13g hxl, Option.bind_some]
   simp only
   rw [if_neg (by simp), f14 hxl, Option.bind_some, e15g hxl, Option.bind_some]
   simp only [sh3_K29]
   rw [if_neg (by simp), show IntKind.i64.wrap ((q : Int) - 1 + 1) = ((q + 1 : Nat) : Int) - 1 by rw [wrapI (by omega) (by omega)]; omega]
  ·subst hz
   simp only [sh3_L28]
   rw [if_neg (by simp only [decide_eq_true_eq, hlen]; omega)]
   simp only [sh3_K20]
   have hra : ∀ b : BrV, (reaA ns ds b ((k : Int) - 1)).length ≤ 90000 := fun b => by have := reaA_len (ns := ns) (ds := ds) b ((k : Int) - 1); omega
   rw [f17 hxl, Option.bind_some, e18g hxl, Option.bind_some, e16g _ (hra _), Option.bind_some]
   simp only
   rw [if_pos (by decide), f17 hxl, Option.bind_some, e18g hxl, Option.bind_some, e16g _ (hra _), Option.bind_some]
   simp only
   rw [if_neg (by decide)]
   simp only [sh3_K18]
   rw [show IntKind.i64.wrap ((k : Int) - 1 + 1) = ((k + 1 : Nat) : Int) - 1 by rw [wrapI (by omega) (by omega)]; omega]
 ·subst hz
  simp only [sh3_L17]
  rw [if_neg (by simp only [decide_eq_true_eq, hlen]; omega)]
  simp only [sh3_K5]
  have hrr : (reaA rs rd list f).length ≤ 90000 := by have h1 := reaA_len (ns := rs) (ds := rd) list f; have h2 : rs.length ≤ 90000 := hrl.1; omega
  rw [f12 hrl, Option.bind_some, e13g hrl, Option.bind_some]
  simp only
  rw [if_pos (by simp), f14 hrl, Option.bind_some, e15g hrl, Option.bind_some]
  simp only
  rw [if_pos (by simp), f17 hrl, Option.bind_some, e18g hrl, Option.bind_some, e16g _ hrr, Option.bind_some]
  simp only
  rw [if_pos trivial, f12 hxl, Option.bind_some, e13g hxl, Option.bind_some]
  simp only
  rw [if_pos (by simp), e8]; rfl
end Go.Proofs.YtjficagemeiecaaDoor
