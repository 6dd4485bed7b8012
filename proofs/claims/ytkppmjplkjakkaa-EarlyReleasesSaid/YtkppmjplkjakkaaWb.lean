/- Chapter 19: what the loops come to; the laws. -/
import Derived.Test.YtkppmjplkjakkaaWa
open Go Go.Proofs Go.Abs
set_option linter.unusedVariables false
namespace Go.Proofs.Ytkppmjplkjakkaa
theorem wrapL {x : Int} (h1 : -9223372036854775808 ≤ x) (h2 : x ≤ 9223372036854775807) : IntKind.i64.wrap x = x := wrapI h1 h2
theorem lo9 (x r) (h : sp9 x = some r) : ∃ fuel, sh9 fuel x.1 x.2.1 x.2.2.1 x.2.2.2.1 = some r := by
  obtain ⟨a, b, c, d, u⟩ := x
  cases h
  refine ⟨5, ?_⟩
  have step : ∀ (k : Nat) (hk : k < 4) (l : List (Int × Unit)) (j) (rc), l = [(a, ()), (b, ()), (c, ()), (d, ())] →
      sh9_L2 j rc (a, b, c, d, 4, (k : Int), l, ()) = if 0 ≤ (l.getD k (0, ())).1 ∧ (l.getD k (0, ())).1 ≤ 1048576 then rc (a, b, c, d, 4, ((k + 1 : Nat) : Int), l, ()) else some (false, ()) := by
    intro k hk l j rc hl
    have hll : l.length = 4 := by rw [hl]; rfl
    simp only [sh9_L2, sh9_K3, joinK]
    rw [if_pos (by simpa using (by omega : (k : Int) < 4)), if_pos (by rw [hll]; exact inR_nat hk), if_pos (by rw [hll]; exact decide_eq_true (by omega))]
    have hkk : ((k : Int)).toNat = k := rfl
    rw [hkk, up1 hk (by omega)]
    generalize (l.getD k (0, ())).1 = v
    by_cases h1 : v < 0
    · rw [if_pos (by simpa using h1)]
      simp only [if_true]
      rw [if_neg (by omega)]
    · rw [if_neg (by simpa using h1)]
      by_cases h2 : 1048576 < v
      · rw [if_pos (by simpa using h2), if_neg (by omega)]
      · rw [if_neg (by simpa using h2), if_pos (by omega)]
  show iter 5 _ _ = _
  generalize hl : [(a, ()), (b, ()), (c, ()), (d, ())] = l
  have hll : ((l.length : Nat) : Int) = 4 := by rw [← hl]; rfl
  dsimp only
  rw [hll]
  have s0 := fun j rc => step 0 (by omega) l j rc hl.symm
  have s1 := fun j rc => step 1 (by omega) l j rc hl.symm
  have s2 := fun j rc => step 2 (by omega) l j rc hl.symm
  have s3 := fun j rc => step 3 (by omega) l j rc hl.symm
  have e0 : (l.getD 0 (0, ())).1 = a := by rw [← hl]; rfl
  have e1 : (l.getD 1 (0, ())).1 = b := by rw [← hl]; rfl
  have e2 : (l.getD 2 (0, ())).1 = c := by rw [← hl]; rfl
  have e3 : (l.getD 3 (0, ())).1 = d := by rw [← hl]; rfl
  rw [e0] at s0; rw [e1] at s1; rw [e2] at s2; rw [e3] at s3
  simp only [iter]
  rw [show ((0 : Int)) = ((0 : Nat) : Int) from rfl, s0, s1, s2, s3]
  simp only [sh9_L2, sh9_K0]
  by_cases ha : 0 ≤ a ∧ a ≤ 1048576
  · by_cases hb : 0 ≤ b ∧ b ≤ 1048576
    · by_cases hc : 0 ≤ c ∧ c ≤ 1048576
      · by_cases hd : 0 ≤ d ∧ d ≤ 1048576
        · rw [if_pos ha, if_pos hb, if_pos hc, if_pos hd, if_neg (by simp)]
          rw [wrapI (x := a + c) (by omega) (by omega), wrapI (by omega) (by omega)]
          simp [holdB, ha, hb, hc, hd]
        · rw [if_pos ha, if_pos hb, if_pos hc, if_neg hd]
          have : holdB a b c d = false := by simp [holdB]; omega
          rw [this]
      · rw [if_pos ha, if_pos hb, if_neg hc]
        have : holdB a b c d = false := by simp [holdB]; omega
        rw [this]
    · rw [if_pos ha, if_neg hb]
      have : holdB a b c d = false := by simp [holdB]; omega
      rw [this]
  · rw [if_neg ha]
    have : holdB a b c d = false := by simp [holdB]; omega
    rw [this]
theorem lo49 (x r) (h : sp49 x = some r) : ∃ fuel, sh49 fuel x.1 = some r := by
  obtain ⟨l, u⟩ := x
  unfold sp49 at h
  split at h
  · rename_i a u1 b u2 hl
    cases h
    refine ⟨3, ?_⟩
    simp only at hl
    subst hl
    simp only [sh49, joinK, iter, sh49_L2, sh49_K0, orI, List.length_cons, List.length_nil]
    by_cases ha : a = 0
    · subst ha
      by_cases hb : b = 0
      · subst hb; simp [lAt, inR, wrapL]
      · simp [lAt, inR, wrapL, hb]
    · simp [lAt, inR, ha]
  · cases h
theorem lo11 (x r) (h : sp11 x = some r) : ∃ fuel, sh11 fuel x.1 x.2.1 = some r := by
  obtain ⟨l, m, u⟩ := x
  unfold sp11 at h
  split at h
  · rename_i hl
    cases h
    have hl : l.length ≤ 1000000 := hl
    show ∃ fuel, sh11 fuel l m = some (decide (l = m), ())
    by_cases hlm : l.length = m.length
    · refine ⟨l.length + 1, ?_⟩
      simp only [sh11, joinK]
      rw [if_neg (by simp [hlm])]
      refine iter_inv (F := sh11_L2 sh11_K0) (fun k => (l, m, (k : Int), ())) (fun k => l.take k = m.take k) l.length _ (Nat.lt_succ_self _) rfl (fun rc k hk hI => ?_) (fun rc hI => ?_)
      · simp only [sh11_L2]
        rw [if_pos (by simpa using hk), if_pos (inR_nat hk), if_pos (inR_nat (by omega)), lAt_nat, lAt_nat, up1 hk (by omega)]
        by_cases he : (l.getD k (0, ())).1 = (m.getD k (0, ())).1
        · left
          rw [if_neg (by simpa using he)]
          refine ⟨rfl, ?_⟩
          rw [take_snoc l (0, ()) k hk, take_snoc m (0, ()) k (by omega), hI]
          congr 2
          exact Prod.ext he rfl
        · right
          rw [if_pos (by simpa using he)]
          have : l ≠ m := fun e => he (by rw [e])
          simp [this]
      · simp only [sh11_L2, sh11_K0]
        rw [if_neg (by simp)]
        have : l = m := by
          have h1 : l.take l.length = l := List.take_length
          have h2 : m.take l.length = m := by rw [hlm]; exact List.take_length
          rw [h1, h2] at hI; exact hI
        simp [this]
    · refine ⟨0, ?_⟩
      simp only [sh11, joinK]
      rw [if_pos (by simpa using (by omega : (l.length : Int) ≠ m.length))]
      have : l ≠ m := fun e => hlm (by rw [e])
      simp [this]
  · cases h
theorem lo13 (x r) (h : sp13 x = some r) : ∃ fuel, sh13 fuel x.1 = some r := by
  obtain ⟨l, u⟩ := x
  unfold sp13 at h
  split at h
  · rename_i hl
    cases h
    have hl : l.length ≤ 1000000 := hl
    have hS : (srt (flt l)).length ≤ 1000000 := by rw [srt_len]; exact Nat.le_trans (List.length_filter_le _ _) hl
    have e : sp23 (l, ()) = some (srt (flt l), ()) := if_pos hl
    generalize hs : srt (flt l) = S at *
    refine ⟨S.length + 1, ?_⟩
    show sh13 _ l = some (bags S, ())
    simp only [sh13, joinK, e, Option.bind_some]
    refine iter_count (F := sh13_L3 sh13_K1) (fun k => ((k : Int), bags (S.take k), S, ())) S.length _ (Nat.lt_succ_self _) (fun rc k hk => ?_) (fun rc => ?_)
    · simp only [sh13_L3]
      have hkk : ((k : Int)).toNat = k := rfl
      rw [if_pos (by simpa using hk), if_pos (inR_nat hk), hkk, if_pos (decide_eq_true (by omega)), if_pos (by simp [bags, lim]; omega), if_pos (by simp [bags, lim]; omega), up1 hk (by omega), take_snoc S (0, 0, ()) k hk]
      simp [bags]
    · simp only [sh13_L3, sh13_K1]
      rw [if_neg (by simp), List.take_length]
  · cases h
def SOk (s : List (Int × Unit) × Int × Unit) : Prop := 0 ≤ s.2.1 ∧ s.1.length ≤ 2000
theorem e16 (l : List (Int × Unit)) : ∃ s, sp16 (l, ()) = some (s, ()) ∧ SOk s := by
  show ∃ s, sh16 0 l = some (s, ()) ∧ SOk s
  simp only [sh16, sh16_K0, joinK]
  by_cases h : 2000 < l.length
  · rw [if_pos (decide_eq_true (by omega)), if_pos (show inCut 0 2000 l.length = true from inCut_nat (a := 0) (b := 2000) (by omega) (by omega))]
    refine ⟨_, rfl, by simp, ?_⟩
    simp only [cutL, List.length_take]
    show min 2000 _ ≤ 2000
    omega
  · rw [if_neg (by simp; omega)]
    exact ⟨_, rfl, by simp, by simpa using h⟩
theorem e24 (s : List (Int × Unit) × Int × Unit) (h : SOk s) : ∃ v s', sp24 (s, ()) = some (v, s', ()) ∧ SOk s' := by
  obtain ⟨l, p, u⟩ := s
  obtain ⟨h1, h2⟩ := h
  show ∃ v s', sh24 0 (l, p, u) = some (v, s', ()) ∧ SOk s'
  simp only at h1 h2
  simp only [sh24]
  by_cases hp : (l.length : Int) ≤ p
  · rw [if_pos (by simpa using hp)]
    exact ⟨0, _, rfl, h1, h2⟩
  · rw [if_neg (by simpa using hp), wrapI (x := p + 1) (by omega) (by omega), wrapI (x := p + 1 - 1) (by omega) (by omega)]
    obtain ⟨k, rfl⟩ := Int.eq_ofNat_of_zero_le h1
    rw [show (k : Int) + 1 - 1 = (k : Int) by omega, if_pos (inR_nat (by omega))]
    exact ⟨_, _, rfl, by simp only; omega, h2⟩
theorem e8 (v n : Int) (h : 1 ≤ n) (h2 : n ≤ 1000000) : ∃ m, sp8 (v, n, ()) = some (m, ()) ∧ 0 ≤ m ∧ m < n := by
  show ∃ m, sh8 0 v n = some (m, ()) ∧ 0 ≤ m ∧ m < n
  have hb := Int.lt_tmod_of_pos v (show 0 < n by omega)
  have hb2 := Int.tmod_lt_of_pos v (show 0 < n by omega)
  simp only [sh8, sh8_K0, joinK]
  rw [if_neg (by simp; omega), if_pos (by simp; omega)]
  by_cases hn : v.tmod n < 0
  · refine ⟨v.tmod n + n, ?_, by omega, by omega⟩
    rw [if_pos (by simpa using hn), wrapI (by omega) (by omega)]
  · refine ⟨v.tmod n, ?_, by omega, by omega⟩
    rw [if_neg (by simpa using hn)]
theorem e17 (s : List (Int × Unit) × Int × Unit) (n : Int) (hs : SOk s) (h : 1 ≤ n) (h2 : n ≤ 1000000) : ∃ m s', sp17 (s, n, ()) = some (m, s', ()) ∧ 0 ≤ m ∧ m < n ∧ SOk s' := by
  obtain ⟨v, s', e1, e2⟩ := e24 s hs
  obtain ⟨m, e3, e4, e5⟩ := e8 v n h h2
  refine ⟨m, s', ?_, e4, e5, e2⟩
  show sh17 0 s n = _
  have e1 : sp24 ((s.1, s.2.1, ()), ()) = some (v, s', ()) := e1
  simp only [sh17, e1, Option.bind_some, e3]
theorem e18 (s : List (Int × Unit) × Int × Unit) (a b : Int) (hs : SOk s) (ha : 0 ≤ a) (h : a ≤ b) (h2 : b ≤ 1000) : ∃ m s', sp18 (s, a, b, ()) = some (m, s', ()) ∧ a ≤ m ∧ m ≤ b ∧ SOk s' := by
  obtain ⟨m, s', e1, e2, e3, e4⟩ := e17 s (b - a + 1) hs (by omega) (by omega)
  refine ⟨a + m, s', ?_, by omega, by omega, e4⟩
  show sh18 0 s a b = _
  have e1 : sp17 ((s.1, s.2.1, ()), b - a + 1, ()) = some (m, s', ()) := e1
  simp only [sh18]
  rw [wrapI (x := b - a) (by omega) (by omega), wrapI (x := b - a + 1) (by omega) (by omega), e1]
  simp only [Option.bind_some]
  rw [wrapI (by omega) (by omega)]
def OkE (e : E) : Prop := 1 ≤ e.1 ∧ e.1 ≤ 9 ∧ 0 ≤ e.2.1 ∧ e.2.1 ≤ 5
theorem stoG_spec : ∀ (n : Nat) (s : List (Int × Unit) × Int × Unit) (l : List E), SOk s → (∀ e ∈ l, OkE e) → ∃ l', stoG n s l = some (l', ()) ∧ l'.length = l.length + n ∧ ∀ e ∈ l', OkE e
  | 0, s, l, _, hl => ⟨l, rfl, rfl, hl⟩
  | n + 1, s, l, hs, hl => by
    obtain ⟨m, s1, e1, e2, e3, e4⟩ := e18 s 1 9 hs (by omega) (by omega) (by omega)
    obtain ⟨k, s2, e5, e6, e7, e8⟩ := e17 s1 6 e4 (by omega) (by omega)
    obtain ⟨l', f1, f2, f3⟩ := stoG_spec n s2 (l ++ [(m, k, ())]) e8 (fun e he => by
      rcases List.mem_append.1 he with h | h
      · exact hl e h
      · rw [List.mem_singleton.1 h]; exact ⟨e2, e3, e6, by simp only; omega⟩)
    refine ⟨l', ?_, by rw [f2]; simp; omega, f3⟩
    simp only [stoG, e1, Option.bind_some, e5, f1]
theorem stoG_iter : ∀ (n : Nat) (s : List (Int × Unit) × Int × Unit) (l : List E) (fuel : Nat), SOk s → n < fuel → l.length + n ≤ 1000 → iter fuel (sh7_L4 sh7_K1) ((n : Int), s, l, ()) = stoG n s l
  | 0, s, l, f + 1, _, _, _ => by
    show sh7_L4 sh7_K1 _ _ = _
    simp only [sh7_L4, sh7_K1]
    rw [if_neg (by simp)]; rfl
  | n + 1, s, l, f + 1, hs, hf, hl => by
    show sh7_L4 sh7_K1 _ _ = _
    obtain ⟨m, s1, e1, e2, e3, e4⟩ := e18 s 1 9 hs (by omega) (by omega) (by omega)
    obtain ⟨k, s2, e5, e6, e7, e8⟩ := e17 s1 6 e4 (by omega) (by omega)
    have e1' : sp18 ((s.1, s.2.1, ()), 1, 9, ()) = some (m, s1, ()) := e1
    have e5' : sp17 ((s1.1, s1.2.1, ()), 6, ()) = some (k, s2, ()) := e5
    simp only [sh7_L4]
    rw [if_pos (decide_eq_true (by omega)), e1']
    simp only [Option.bind_some]
    rw [e5']
    simp only [Option.bind_some]
    rw [if_pos (decide_eq_true (by simp [lim]; omega)), if_pos (decide_eq_true (by simp [lim]; omega)), wrapI (by omega) (by omega), show ((n + 1 : Nat) : Int) - 1 = (n : Int) by omega]
    refine (stoG_iter n s2 (l ++ [(m, k, ())]) f e8 (by omega) (by simp; omega)).trans ?_
    simp only [stoG, e1, Option.bind_some, e5]
theorem e7 (l : List (Int × Unit)) : ∃ q, sp7 (l, ()) = some (q, ()) ∧ q.length ≤ 11 ∧ ∀ e ∈ q, OkE e := by
  obtain ⟨s, e1, e2⟩ := e16 l
  obtain ⟨m, s1, e3, e4, e5, e6⟩ := e17 s 12 e2 (by omega) (by omega)
  obtain ⟨q, f1, f2, f3⟩ := stoG_spec m.toNat s1 [] e6 (fun e he => by cases he)
  refine ⟨q, ?_, by rw [f2]; simp; omega, f3⟩
  simp only [sp7, e1, Option.bind_some, e3, f1]
theorem lo7 (x r) (h : sp7 x = some r) : ∃ fuel, sh7 fuel x.1 = some r := by
  obtain ⟨l, u⟩ := x
  obtain ⟨s, e1, e2⟩ := e16 l
  obtain ⟨m, s1, e3, e4, e5, e6⟩ := e17 s 12 e2 (by omega) (by omega)
  have e3' : sp17 ((s.1, s.2.1, ()), 12, ()) = some (m, s1, ()) := e3
  refine ⟨m.toNat + 1, ?_⟩
  rw [← h]
  show sh7 _ l = sp7 (l, ())
  simp only [sh7, sp7, e1, Option.bind_some, joinK, e3]
  have := stoG_iter m.toNat s1 [] (m.toNat + 1) e6 (Nat.lt_succ_self _) (by simp; omega)
  rw [show ((m.toNat : Nat) : Int) = m by omega] at this
  exact this
def tmB (a : Int) : Bool := decide (0 ≤ a) && decide (a ≤ 1048576)
theorem e19 (a : Int) : sp19 (a, ()) = some (tmB a, ()) := by
  show sh19 0 a = _
  simp only [sh19, sh19_K0, joinK, tmB]
  by_cases h : 0 ≤ a
  · rw [if_pos (decide_eq_true h)]; simp [h]
  · rw [if_neg (by simpa using h)]
    have : decide (0 ≤ a) = false := decide_eq_false h
    simp [this]
theorem e10 (a b c d : Int) : sp10 (a, b, c, d, ()) = some (holdB a b c d, ()) := by
  show sh10 0 a b c d = _
  simp only [sh10, sh10_K0, joinK, e19, Option.bind_some]
  by_cases ha : tmB a = true
  · by_cases hb : tmB b = true
    · by_cases hc : tmB c = true
      · by_cases hd : tmB d = true
        · rw [if_pos ha, if_pos hb, if_pos hc, if_pos hd]
          simp only [tmB, Bool.and_eq_true, decide_eq_true_eq] at ha hb hc hd
          rw [wrapI (x := a + c) (by omega) (by omega), wrapI (by omega) (by omega)]
          simp [holdB, ha, hb, hc, hd]
        · rw [if_pos ha, if_pos hb, if_pos hc, if_neg hd]
          simp only [tmB, Bool.and_eq_true, decide_eq_true_eq] at hd
          have : holdB a b c d = false := by simp [holdB]; omega
          rw [this]
      · rw [if_pos ha, if_pos hb, if_neg hc]
        simp only [tmB, Bool.and_eq_true, decide_eq_true_eq] at hc
        have : holdB a b c d = false := by simp [holdB]; omega
        rw [this]
    · rw [if_pos ha, if_neg hb]
      simp only [tmB, Bool.and_eq_true, decide_eq_true_eq] at hb
      have : holdB a b c d = false := by simp [holdB]; omega
      rw [this]
  · rw [if_neg ha]
    simp only [tmB, Bool.and_eq_true, decide_eq_true_eq] at ha
    have : holdB a b c d = false := by simp [holdB]; omega
    rw [this]
def posF (out : List E) (s : E) : Nat → Nat
  | 0 => 0
  | k + 1 => if leB (g out k) s = true then k + 1 else posF out s k
theorem posF_le (out : List E) (s : E) : ∀ k, posF out s k ≤ k
  | 0 => Nat.le_refl _
  | k + 1 => by
    unfold posF; split
    · exact Nat.le_refl _
    · exact Nat.le_succ_of_le (posF_le out s k)
theorem posF_lo (out : List E) (s : E) : ∀ k, 0 < posF out s k → leB (g out (posF out s k - 1)) s = true
  | 0, h => by simp [posF] at h
  | k + 1, h => by
    unfold posF at h ⊢; split
    · rename_i h1; exact h1
    · rename_i h1; rw [if_neg h1] at h; exact posF_lo out s k h
theorem posF_hi (out : List E) (s : E) : ∀ k, posF out s k < k → ¬ leB (g out (posF out s k)) s = true
  | 0, h => by simp [posF] at h
  | k + 1, h => by
    unfold posF at h ⊢; split
    · rename_i h1; rw [if_pos h1] at h; omega
    · rename_i h1
      rw [if_neg h1] at h
      by_cases hk : posF out s k = k
      · rw [hk]; exact h1
      · exact posF_hi out s k (by have := posF_le out s k; omega)
def insF (out : List E) (s : E) : List E := out.take (posF out s out.length) ++ [s] ++ out.drop (posF out s out.length)
theorem insF_perm (out : List E) (s : E) : (insF out s).Perm (s :: out) := by
  unfold insF
  rw [List.append_assoc, List.singleton_append]
  refine (List.perm_middle).trans ?_
  rw [List.take_append_drop]
theorem insF_sorted {out : List E} (s : E) (h : out.Pairwise (fun a b => leB a b = true)) : (insF out s).Pairwise (fun a b => leB a b = true) := by
  have hle := posF_le out s out.length
  have hs := List.pairwise_iff_getElem.1 h
  have lo : ∀ a ∈ out.take (posF out s out.length), leB a s = true := by
    intro a ha
    obtain ⟨j, hj, rfl⟩ := List.getElem_of_mem ha
    have hj' : j < posF out s out.length := by rw [List.length_take] at hj; omega
    rw [List.getElem_take]
    have h1 := posF_lo out s out.length (by omega)
    by_cases hjp : j = posF out s out.length - 1
    · subst hjp; rw [← g_get (by omega)]; exact h1
    · have := hs j (posF out s out.length - 1) (by omega) (by omega) (by omega)
      rw [← g_get (L := out) (k := posF out s out.length - 1) (by omega)] at this
      exact leB_trans this h1
  have hi : ∀ b ∈ out.drop (posF out s out.length), leB s b = true := by
    intro b hb
    obtain ⟨j, hj, rfl⟩ := List.getElem_of_mem hb
    rw [List.length_drop] at hj
    rw [List.getElem_drop]
    have h1 := leB_not (posF_hi out s out.length (by omega))
    by_cases hj0 : j = 0
    · subst hj0
      have := g_get (L := out) (k := posF out s out.length + 0) (by omega)
      rw [← this]; exact h1
    · have := hs (posF out s out.length) (posF out s out.length + j) (by omega) (by omega) (by omega)
      rw [← g_get (L := out) (k := posF out s out.length) (by omega)] at this
      exact leB_trans h1 this
  unfold insF
  rw [List.append_assoc, List.pairwise_append]
  refine ⟨h.sublist (List.take_sublist _ _), ?_, fun a ha b hb => ?_⟩
  · rw [List.singleton_append, List.pairwise_cons]
    exact ⟨hi, h.sublist (List.drop_sublist _ _)⟩
  · rw [List.singleton_append] at hb
    rcases List.mem_cons.1 hb with rfl | hb
    · exact lo a ha
    · exact leB_trans (lo a ha) (hi b hb)
theorem srt_snoc (l : List E) (s : E) : srt (l ++ [s]) = insF (srt l) s :=
  (srt_eq (insF_sorted s (srt_sorted l)) ((insF_perm _ _).trans (((srt_perm l).cons s).trans (List.perm_append_singleton s l).symm))).symm
theorem flt_snoc (l : List E) (k : Nat) (h : k < l.length) : flt (l.take (k + 1)) = flt (l.take k) ++ (if 1 ≤ (l.getD k d0).1 ∧ (l.getD k d0).1 ≤ 40 then [l.getD k d0] else []) := by
  rw [take_snoc l d0 k h, flt, List.filter_append]
  congr 1
  by_cases hc : 1 ≤ (l.getD k d0).1 ∧ (l.getD k d0).1 ≤ 40
  · rw [if_pos hc]
    simp only [List.filter_cons, List.filter_nil]
    rw [if_pos (by simp only [Bool.and_eq_true, decide_eq_true_eq]; exact hc)]
  · rw [if_neg hc]
    simp only [List.filter_cons, List.filter_nil]
    rw [if_neg (by simp only [Bool.and_eq_true, decide_eq_true_eq]; exact hc)]
theorem flt_len (l : List E) : (flt l).length ≤ l.length := List.length_filter_le _ _
theorem pos23 {j7 : List (Int × Int × Unit) × Int × Int × List (Int × Int × Unit) × Unit → Option (List (Int × Int × Unit) × Unit)} (l out : List E) (i : Nat) (hi : i < l.length) (ho : out.length ≤ 1000000) :
    ∀ (k fuel : Nat), k < fuel → k ≤ out.length → iter fuel (sh23_L8 j7) (l, (i : Int), (k : Int), out, ()) = j7 (l, (i : Int), ((posF out (l.getD i d0) k : Nat) : Int), out, ())
  | 0, f + 1, _, _ => by
    show sh23_L8 j7 _ _ = _
    simp only [sh23_L8, joinK, sh23_K9]
    rw [if_neg (by simp)]
    rfl
  | k + 1, f + 1, hf, hk => by
    show sh23_L8 j7 _ _ = _
    simp only [sh23_L8, joinK, sh23_K9]
    have hw : IntKind.i64.wrap (((k + 1 : Nat) : Int) - 1) = (k : Int) := by rw [wrapI (by omega) (by omega)]; omega
    have hkk : ((k : Int)).toNat = k := rfl
    rw [if_pos (decide_eq_true (by omega)), hw, if_pos (inR_nat (by omega)), hkk, if_pos (decide_eq_true (by omega)), if_pos (inR_nat hi), lAt_nat]
    have ih := pos23 (j7 := j7) l out i hi ho k f (by omega) (by omega)
    show (if decide ((g l i).2.1 < (g out k).2.1) = true then _ else _) = _
    have hpos : posF out (l.getD i d0) (k + 1) = if leB (g out k) (l.getD i d0) = true then k + 1 else posF out (l.getD i d0) k := rfl
    rw [hpos]
    have hg : l.getD i d0 = g l i := rfl
    rw [hg] at ih ⊢
    by_cases h1 : (g l i).2.1 < (g out k).2.1
    · rw [if_pos (decide_eq_true h1), if_pos trivial, if_neg (by rw [leB_iff]; omega)]
      exact ih
    · rw [if_neg (by simpa using h1), if_pos (inR_nat (by omega)), if_pos (decide_eq_true (by omega)), if_pos (inR_nat hi)]
      show (if ((g out k).2.1 == (g l i).2.1) = true then _ else _) = _
      by_cases h2 : (g out k).2.1 = (g l i).2.1
      · rw [if_pos (by simpa using h2), if_pos (inR_nat (by omega)), if_pos (decide_eq_true (by omega)), if_pos (inR_nat hi)]
        show (if decide ((g l i).1 < (g out k).1) = true then _ else _) = _
        by_cases h3 : (g l i).1 < (g out k).1
        · rw [if_pos (decide_eq_true h3), if_neg (by rw [leB_iff]; omega)]
          exact ih
        · rw [if_neg (by simpa using h3), if_pos (by rw [leB_iff]; omega)]
      · rw [if_neg (by simpa using h2), if_neg (by decide), if_pos (by rw [leB_iff]; omega)]
theorem lo23 (x r) (h : sp23 x = some r) : ∃ fuel, sh23 fuel x.1 = some r := by
  obtain ⟨l, u⟩ := x
  unfold sp23 at h
  split at h
  · rename_i hl
    cases h
    have hl : l.length ≤ 1000000 := hl
    refine ⟨l.length + 1, ?_⟩
    show sh23 _ l = some (srt (flt l), ())
    simp only [sh23, joinK]
    have e0 : srt (flt (l.take 0)) = [] := by simp [srt, flt]
    show iter _ _ (l, ((0 : Nat) : Int), [], ()) = _
    rw [← e0]
    refine iter_count (F := sh23_L2 (l.length + 1) sh23_K0) (fun k => (l, (k : Int), srt (flt (l.take k)), ())) l.length _ (Nat.lt_succ_self _) (fun rc k hk => ?_) (fun rc => ?_)
    · have hout : (srt (flt (l.take k))).length ≤ k := by
        rw [srt_len]; refine Nat.le_trans (flt_len _) ?_; rw [List.length_take]; omega
      rw [flt_snoc l k hk]
      generalize ho : srt (flt (l.take k)) = out at hout
      simp only [sh23_L2, joinK, sh23_K3, sh23_K5]
      rw [if_pos (by simpa using hk), if_pos (inR_nat hk), lAt_nat, up1 hk (by omega)]
      show (if decide ((l.getD k d0).1 < 1) = true then _ else _) = _
      by_cases h1 : (l.getD k d0).1 < 1
      · rw [if_pos (decide_eq_true h1), if_pos trivial, if_neg (by omega), List.append_nil, ho]
      · rw [if_neg (by simpa using h1), if_pos (inR_nat hk)]
        show (if decide (40 < (l.getD k d0).1) = true then _ else _) = _
        by_cases h2 : 40 < (l.getD k d0).1
        · rw [if_pos (decide_eq_true h2), if_neg (by omega), List.append_nil, ho]
        · rw [if_neg (by simpa using h2), if_pos (by omega), srt_snoc, ho]
          rw [pos23 l out k hk (by omega) out.length _ (by omega) (Nat.le_refl _)]
          have hp := posF_le out (l.getD k d0) out.length
          unfold insF
          generalize posF out (l.getD k d0) out.length = p at hp ⊢
          simp only [sh23_K6]
          have hpp : ∀ p : Nat, ((p : Int)).toNat = p := fun _ => rfl
          rw [if_pos (inCut_nat hp (Nat.le_refl _)), hpp, hpp, if_pos (decide_eq_true (by omega))]
          rw [if_pos (decide_eq_true (by simp [lim]; omega)), if_pos (decide_eq_true (by simp [lim]; omega)), if_pos (decide_eq_true (by omega)), if_pos (decide_eq_true (by omega)), if_pos (decide_eq_true (by omega)), if_pos (decide_eq_true (by omega)), if_pos (inR_nat hk), if_pos (show decide (Int.toNat 0 = 0) = true from rfl), if_pos (decide_eq_true (by simp; omega))]
          rw [if_pos (decide_eq_true (by simp [lim]; omega)), if_pos (decide_eq_true (by simp [lim]; omega)), if_pos (decide_eq_true (by simp [lim]; omega)), if_pos (decide_eq_true (by simp [lim]; omega))]
          rw [lAt_nat]
          simp only [sh23_K3]
          rw [up1 hk (by omega), List.take_of_length_le (l := out.drop p) (by simp)]
          rfl
    · simp only [sh23_L2, sh23_K0]
      rw [if_neg (by simp), List.take_length]
  · cases h
theorem less_iff (p q : E) : decide (orI (cmpI p.2.1 q.2.1) (cmpI p.1 q.1) < 0) = !leB q p := by
  obtain ⟨a, b, _⟩ := p; obtain ⟨c, d, _⟩ := q
  rw [Bool.eq_iff_iff]
  simp only [decide_eq_true_eq, Bool.not_eq_true', ← Bool.not_eq_true, leB_iff, orI, cmpI]
  by_cases h1 : b < d
  · simp only [h1, if_true]; simp <;> omega
  · by_cases h2 : d < b
    · simp only [h1, h2, if_true, if_false]; simp <;> omega
    · by_cases h3 : a < c
      · simp only [h1, h2, h3, if_true, if_false]; simp <;> omega
      · by_cases h4 : c < a
        · simp only [h1, h2, h3, h4, if_true, if_false]; simp <;> omega
        · simp only [h1, h2, h3, h4, if_true, if_false]; simp <;> omega
theorem upF_fuel : ∀ (n m : Nat) (L : List E) (j : Nat), j < n → j < m → upF n L j = upF m L j
  | 0, _, _, _, h, _ => absurd h (Nat.not_lt_zero _)
  | _, 0, _, _, _, h => absurd h (Nat.not_lt_zero _)
  | n + 1, m + 1, L, j, h, h' => by
    simp only [upF]
    split
    · rfl
    · split
      · rfl
      · exact upF_fuel n m _ _ (by omega) (by omega)
theorem downF_fuel : ∀ (f f' : Nat) (L : List E) (i n : Nat), n ≤ f + i → n ≤ f' + i → downF f L i n = downF f' L i n
  | 0, 0, _, _, _, _, _ => rfl
  | 0, f' + 1, L, i, n, h, _ => by
    simp only [downF]; rw [if_pos (by omega)]
  | f + 1, 0, L, i, n, _, h => by
    simp only [downF]; rw [if_pos (by omega)]
  | f + 1, f' + 1, L, i, n, h, h' => by
    simp only [downF]
    split
    · rfl
    · rename_i hn
      have hb := kid_bd (L := L) hn
      split
      · rfl
      · exact downF_fuel f f' _ _ _ (by omega) (by omega)
theorem par_eq {j : Nat} (h : j ≠ 0) (hj : j ≤ 1000000) : IntKind.i64.wrap ((IntKind.i64.wrap ((j : Int) - 1)).tdiv 2) = (((j - 1) / 2 : Nat) : Int) := by
  rw [wrapI (x := (j : Int) - 1) (by omega) (by omega)]
  have : ((j : Int) - 1) = ((j - 1 : Nat) : Int) := by omega
  rw [this]
  have h2 : ((j - 1 : Nat) : Int).tdiv 2 = (((j - 1) / 2 : Nat) : Int) := rfl
  rw [h2, wrapI (by omega) (by omega)]
theorem par_0 : IntKind.i64.wrap ((IntKind.i64.wrap (((0 : Nat) : Int) - 1)).tdiv 2) = 0 := by decide
theorem tn (p : Nat) : ((p : Int)).toNat = p := rfl
theorem up14 {j7 : Int × List (Int × Int × Unit) × Int × Int × Unit × List (Int × Int × Unit) × Unit → Option (Int × Unit)} (a : Int) (b : List E) (c d : Int) :
    ∀ (f j : Nat) (L : List E), j < f → j < L.length → L.length ≤ 1000000 → iter f (sh14_L10 j7) (a, b, c, d, (j : Int), (), L, ()) = j7 (a, b, c, d, (), upF f L j, ())
  | f + 1, j, L, hf, hj, hL => by
    show sh14_L10 j7 _ _ = _
    simp only [sh14_L10, joinK, upF]
    rw [if_pos (show (2 != 0) = true from rfl)]
    by_cases h0 : j = 0
    · subst h0
      rw [par_0, if_pos (by decide), if_pos rfl]
      simp only [sh14_K11]
      rw [if_pos trivial]
    · rw [par_eq h0 (by omega), if_neg (by simp; omega), if_neg h0]
      generalize hp : (j - 1) / 2 = p
      have hpj : p < j := by omega
      rw [tn, tn, if_pos (inR_nat hj), if_pos (decide_eq_true (by omega)), if_pos (inR_nat (by omega)), if_pos (decide_eq_true (by omega)), e50]
      simp only [Option.bind_some]
      rw [if_pos (inR_nat hj), if_pos (decide_eq_true (by omega)), if_pos (inR_nat (by omega)), if_pos (decide_eq_true (by omega)), e50]
      simp only [Option.bind_some, e49]
      rw [less_iff, Bool.not_not]
      show sh14_K11 j7 _ (a, b, c, d, (j : Int), (p : Int), leB (g L p) (g L j), (), L, ()) = _
      simp only [sh14_K11]
      by_cases hle : leB (g L p) (g L j) = true
      · rw [if_pos hle, if_pos hle]
      · rw [if_neg hle, if_neg hle, tn, tn, if_pos (inR_nat hj), if_pos (decide_eq_true (by omega)), if_pos (inR_nat (by omega)), if_pos (decide_eq_true (by omega)), if_pos (inR_nat (by omega)), if_pos (decide_eq_true (by omega)), if_pos (inR_nat (by simpa using hj)), if_pos (decide_eq_true (by simp; omega))]
        exact up14 a b c d f p (sw L j p) (by omega) (by simp; omega) (by simpa using hL)
def qF (l : List E) : List E := (flt l).foldl pushF []
theorem foldl_push : ∀ (l Q : List E), Heap Q Q.length → (l.foldl pushF Q).Perm (l ++ Q) ∧ Heap (l.foldl pushF Q) (l.foldl pushF Q).length
  | [], Q, h => ⟨.refl _, h⟩
  | x :: l, Q, h => by
    obtain ⟨h1, h2⟩ := foldl_push l (pushF Q x) (pushF_heap x h)
    refine ⟨h1.trans ?_, h2⟩
    refine ((pushF_perm Q x).append_left l).trans ?_
    exact List.perm_middle
theorem qF_perm (l : List E) : (qF l).Perm (flt l) := by
  have := (foldl_push (flt l) [] (fun k h1 h2 => by simp at h2)).1
  simpa [qF] using this
theorem qF_heap (l : List E) : Heap (qF l) (qF l).length := (foldl_push (flt l) [] (fun k h1 h2 => by simp at h2)).2
theorem qF_snoc (l : List E) (k : Nat) (h : k < l.length) : qF (l.take (k + 1)) = if 1 ≤ (g l k).1 ∧ (g l k).1 ≤ 40 then pushF (qF (l.take k)) (g l k) else qF (l.take k) := by
  unfold qF
  rw [flt_snoc l k h]
  show List.foldl pushF [] (_ ++ if 1 ≤ (g l k).1 ∧ (g l k).1 ≤ 40 then [g l k] else []) = _
  split
  · rw [List.foldl_append]; rfl
  · rw [List.append_nil]
theorem qF_len (l : List E) (k : Nat) : (qF (l.take k)).length ≤ k := by
  rw [(qF_perm _).length_eq]
  refine Nat.le_trans (flt_len _) ?_
  rw [List.length_take]; omega
theorem srt_qF (l : List E) : srt (flt l) = srt (qF l) := srt_congr (qF_perm l).symm
theorem lo14 (x r) (h : sp14 x = some r) : ∃ fuel, sh14 fuel x.1 x.2.1 = some r := by
  obtain ⟨l, now, u⟩ := x
  unfold sp14 at h
  split at h
  · rename_i hl
    cases h
    have hl : l.length ≤ 1000000 := hl
    refine ⟨l.length + 1, ?_⟩
    show sh14 _ l now = some (nextI l now, ())
    simp only [sh14, joinK]
    show iter _ _ (now, l, _, ((0 : Nat) : Int), (), qF (l.take 0), ()) = _
    refine iter_count (F := sh14_L5 (l.length + 1) sh14_K0) (fun k => (now, l, (l.length : Int), (k : Int), (), qF (l.take k), ())) l.length _ (Nat.lt_succ_self _) (fun rc k hk => ?_) (fun rc => ?_)
    · have hq := qF_len l k
      rw [qF_snoc l k hk]
      generalize qF (l.take k) = Q at hq ⊢
      simp only [sh14_L5, joinK]
      rw [if_pos (decide_eq_true (by omega)), if_pos (inR_nat hk), lAt_nat]
      show (if decide (1 ≤ (g l k).1) = true then _ else _) = _
      by_cases h1 : 1 ≤ (g l k).1
      · rw [if_pos (decide_eq_true h1)]
        show sh14_K8 (l.length + 1) (sh14_K6 rc) (now, l, (l.length : Int), (k : Int), decide ((g l k).1 ≤ 40), (), g l k, Q, ()) = _
        simp only [sh14_K8, joinK]
        by_cases h2 : (g l k).1 ≤ 40
        · rw [if_pos (decide_eq_true h2), if_pos (decide_eq_true (by simp [lim]; omega)), if_pos (decide_eq_true (by simp [lim]; omega)), if_pos ⟨h1, h2⟩]
          show sh14_K9 (l.length + 1) (sh14_K6 rc) (now, l, (l.length : Int), (k : Int), (), Q ++ [g l k], ()) = _
          simp only [sh14_K9]
          have hw : IntKind.i64.wrap (((Q ++ [g l k]).length : Int) - 1) = (Q.length : Int) := by
            have e : ((Q ++ [g l k]).length : Int) = Q.length + 1 := by simp
            rw [e, wrapI (by omega) (by omega)]; omega
          rw [hw]
          refine (up14 now l _ _ (l.length + 1) Q.length (Q ++ [g l k]) (by omega) (by simp) (by simp; omega)).trans ?_
          simp only [sh14_K6]
          rw [up1 hk (by omega)]
          unfold pushF
          rw [upF_fuel _ (Q.length + 1) _ _ (by omega) (by omega)]
        · rw [if_neg (by simpa using h2), if_neg (by omega)]
          simp only [sh14_K6]
          rw [up1 hk (by omega)]
      · rw [if_neg (by simpa using h1)]
        show sh14_K8 (l.length + 1) (sh14_K6 rc) (now, l, (l.length : Int), (k : Int), false, (), g l k, Q, ()) = _
        simp only [sh14_K8, joinK]
        rw [if_neg (by decide), if_neg (by omega)]
        simp only [sh14_K6]
        rw [up1 hk (by omega)]
    · simp only [sh14_L5]
      rw [if_neg (by simp), List.take_length]
      unfold nextI
      rw [srt_qF]
      have hh := qF_heap l
      generalize qF l = Q at hh ⊢
      simp only [sh14_K0, joinK, e21, Option.bind_some]
      by_cases hQ : Q.length = 0
      · have : Q = [] := List.eq_nil_of_length_eq_zero hQ
        subst this
        rw [if_pos (by decide)]
        simp only [sh14_K1]
        rw [if_pos trivial]
        have : srt [] = [] := by simp [srt]
        rw [this]
      · rw [srt_pop hh (by omega), if_neg (show ¬ ((Q.length : Int) == 0) = true by rw [beq_iff_eq]; omega), if_pos (show inR 0 Q.length = true from inR_nat (k := 0) (by omega)), if_pos (decide_eq_true (show Int.toNat 0 + 1 ≤ Q.length by simp; omega))]
        simp only [sh14_K1]
        show (if decide (now < (g Q 0).2.1) = true then _ else _) = _
        by_cases h3 : now < (g Q 0).2.1
        · rw [if_pos (decide_eq_true h3), if_pos h3]
        · rw [if_neg (by simpa using h3), if_neg h3, if_pos (show inR 0 Q.length = true from inR_nat (k := 0) (by omega)), if_pos (decide_eq_true (show Int.toNat 0 + 1 ≤ Q.length by simp; omega))]
          rfl
  · cases h
theorem up12 {j23 : List (Int × Int × Unit) × Int × Int × Unit × List (Int × Unit) × List (Int × Int × Unit) × Unit → Option (List (Int × Unit) × Unit)} (a : List E) (b c : Int) (o : List (Int × Unit)) :
    ∀ (f j : Nat) (L : List E), j < f → j < L.length → L.length ≤ 1000000 → iter f (sh12_L26 j23) (a, b, c, (j : Int), (), o, L, ()) = j23 (a, b, c, (), o, upF f L j, ())
  | f + 1, j, L, hf, hj, hL => by
    show sh12_L26 j23 _ _ = _
    simp only [sh12_L26, joinK, upF]
    rw [if_pos (show (2 != 0) = true from rfl)]
    by_cases h0 : j = 0
    · subst h0
      rw [par_0, if_pos (by decide), if_pos rfl]
      simp only [sh12_K27]
      rw [if_pos trivial]
    · rw [par_eq h0 (by omega), if_neg (by simp; omega), if_neg h0]
      generalize hp : (j - 1) / 2 = p
      have hpj : p < j := by omega
      rw [tn, tn, if_pos (inR_nat hj), if_pos (decide_eq_true (by omega)), if_pos (inR_nat (by omega)), if_pos (decide_eq_true (by omega)), e50]
      simp only [Option.bind_some]
      rw [if_pos (inR_nat hj), if_pos (decide_eq_true (by omega)), if_pos (inR_nat (by omega)), if_pos (decide_eq_true (by omega)), e50]
      simp only [Option.bind_some, e49]
      rw [less_iff, Bool.not_not]
      show sh12_K27 j23 _ (a, b, c, (j : Int), (p : Int), leB (g L p) (g L j), (), o, L, ()) = _
      simp only [sh12_K27]
      by_cases hle : leB (g L p) (g L j) = true
      · rw [if_pos hle, if_pos hle]
      · rw [if_neg hle, if_neg hle, tn, tn, if_pos (inR_nat hj), if_pos (decide_eq_true (by omega)), if_pos (inR_nat (by omega)), if_pos (decide_eq_true (by omega)), if_pos (inR_nat (by omega)), if_pos (decide_eq_true (by omega)), if_pos (inR_nat (by simpa using hj)), if_pos (decide_eq_true (by simp; omega))]
        exact up12 a b c o f p (sw L j p) (by omega) (by simp; omega) (by simpa using hL)
theorem down12 {j6 : Int × Int × Unit × List (Int × Unit) × List (Int × Int × Unit) × Unit → Option (List (Int × Unit) × Unit)} (hj : ∀ x y x' y' o L, j6 (x, y, (), o, L, ()) = j6 (x', y', (), o, L, ())) (c : Int) (o : List (Int × Unit)) (n : Nat) :
    ∀ (f i : Nat) (L : List E), n ≤ f + i → 0 < f → n ≤ L.length → i ≤ L.length → L.length ≤ 1000000 → iter f (sh12_L7 j6) (c, (n : Int), (i : Int), (), o, L, ()) = j6 (0, 0, (), o, downF f L i n, ())
  | f + 1, i, L, hf, _, hn, hi, hL => by
    show sh12_L7 j6 _ _ = _
    simp only [sh12_L7, joinK, downF]
    have hw : IntKind.i64.wrap (IntKind.i64.wrap (2 * (i : Int)) + 1) = ((2 * i + 1 : Nat) : Int) := by
      rw [wrapI (x := 2 * (i : Int)) (by omega) (by omega), wrapI (by omega) (by omega)]; omega
    rw [hw]
    by_cases h0 : n ≤ 2 * i + 1
    · rw [if_pos (decide_eq_true (by omega)), if_pos h0]
      simp only [sh12_K8]
      rw [if_pos trivial]
      exact hj ..
    · rw [if_neg (by simp; omega), if_neg h0]
      have hneg : decide (((2 * i + 1 : Nat) : Int) < 0) = false := decide_eq_false (by omega)
      rw [hneg]
      have hb := kid_bd (L := L) h0
      have fin : sh12_K9 j6 (iter f (sh12_L7 j6)) (c, (n : Int), (i : Int), ((kid L i n : Nat) : Int), (), o, L, ()) = j6 (0, 0, (), o, (if leB (g L i) (g L (kid L i n)) = true then L else downF f (sw L (kid L i n) i) (kid L i n) n), ()) := by
        generalize kid L i n = k at hb ⊢
        obtain ⟨b1, b2, b3⟩ := hb
        simp only [sh12_K9]
        rw [tn, tn, if_pos (inR_nat (by omega)), if_pos (decide_eq_true (by omega)), if_pos (inR_nat (by omega)), if_pos (decide_eq_true (by omega)), e50]
        simp only [Option.bind_some]
        rw [if_pos (inR_nat (by omega)), if_pos (decide_eq_true (by omega)), if_pos (inR_nat (by omega)), if_pos (decide_eq_true (by omega)), e50]
        simp only [Option.bind_some, e49]
        rw [less_iff, Bool.not_not]
        show (if leB (g L i) (g L k) = true then _ else _) = _
        by_cases hle : leB (g L i) (g L k) = true
        · rw [if_pos hle, if_pos hle]
          exact hj ..
        · rw [if_neg hle, if_neg hle]
          rw [if_pos (inR_nat (by omega)), if_pos (decide_eq_true (by omega)), if_pos (inR_nat (by omega)), if_pos (decide_eq_true (by omega)), if_pos (inR_nat (by omega)), if_pos (decide_eq_true (by omega)), if_pos (inR_nat (by simp; omega)), if_pos (decide_eq_true (by simp; omega))]
          exact down12 hj c o n f k (sw L k i) (by omega) (by omega) (by simpa using hn) (by simp; omega) (by simpa using hL)
      simp only [sh12_K8, joinK]
      rw [if_neg (by decide)]
      have hw2 : IntKind.i64.wrap (((2 * i + 1 : Nat) : Int) + 1) = ((2 * i + 2 : Nat) : Int) := by
        rw [wrapI (by omega) (by omega)]; omega
      rw [hw2, ← fin]
      by_cases h2 : 2 * i + 2 < n
      · rw [if_pos (decide_eq_true (by omega)), tn, tn, if_pos (inR_nat (by omega)), if_pos (decide_eq_true (by omega)), if_pos (inR_nat (by omega)), if_pos (decide_eq_true (by omega)), e50]
        simp only [Option.bind_some]
        rw [if_pos (inR_nat (by omega)), if_pos (decide_eq_true (by omega)), if_pos (inR_nat (by omega)), if_pos (decide_eq_true (by omega)), e50]
        simp only [Option.bind_some, e49]
        rw [less_iff]
        show sh12_K14 _ (c, (n : Int), (i : Int), ((2 * i + 1 : Nat) : Int), ((2 * i + 2 : Nat) : Int), !leB (g L (2 * i + 1)) (g L (2 * i + 2)), (), o, L, ()) = _
        simp only [sh12_K14]
        unfold kid
        by_cases hle : leB (g L (2 * i + 1)) (g L (2 * i + 2)) = true
        · rw [if_neg (by simp [hle]), if_neg (by simp [hle])]
        · rw [if_pos (by simp [hle]), if_pos ⟨h2, hle⟩]
      · rw [if_neg (by simp; omega)]
        simp only [sh12_K14]
        unfold kid
        rw [if_neg (by decide), if_neg (by omega)]
theorem bags_app (l : List E) (e : E) : bags (l ++ [e]) = bags l ++ [(e.1, ())] := by simp [bags]
/-- Taking out all, one by one. -/
theorem drain12 {j1 : List (Int × Unit) × Unit → Option (List (Int × Unit) × Unit)} (F : Nat) : ∀ (f : Nat) (Q : List E) (o : List (Int × Unit)), Q.length < f → Q.length < F → o.length + Q.length ≤ 1000000 → Heap Q Q.length →
    iter f (sh12_L3 F j1) ((), o, Q, ()) = j1 (o ++ bags (srt Q), ())
  | f + 1, Q, o, hf, hF, hl, hh => by
    show sh12_L3 F j1 _ _ = _
    simp only [sh12_L3, e21, Option.bind_some]
    by_cases h0 : Q.length = 0
    · have : Q = [] := List.eq_nil_of_length_eq_zero h0
      subst this
      rw [if_neg (by decide)]
      have : srt [] = [] := by simp [srt]
      rw [this]; simp [bags]
    · have hw : IntKind.i64.wrap ((Q.length : Int) - 1) = ((Q.length - 1 : Nat) : Int) := by rw [wrapI (by omega) (by omega)]; omega
      rw [hw, tn]
      rw [if_pos (decide_eq_true (by omega)), if_pos (show inR 0 Q.length = true from inR_nat (k := 0) (by omega)), if_pos (decide_eq_true (show Int.toNat 0 + 1 ≤ Q.length by simp; omega))]
      rw [if_pos (decide_eq_true (by simp [lim]; omega)), if_pos (decide_eq_true (by simp [lim]; omega)), if_pos (inR_nat (by omega)), if_pos (decide_eq_true (by omega))]
      rw [if_pos (show inR 0 Q.length = true from inR_nat (k := 0) (by omega)), if_pos (decide_eq_true (show Int.toNat 0 + 1 ≤ Q.length by simp; omega))]
      rw [if_pos (show inR 0 Q.length = true from inR_nat (k := 0) (by omega)), if_pos (decide_eq_true (show Int.toNat 0 + 1 ≤ Q.length by simp; omega))]
      rw [if_pos (inR_nat (by simp; omega)), if_pos (decide_eq_true (by simp; omega))]
      simp only [joinK]
      show iter F (sh12_L7 (sh12_K5 _)) (0, ((Q.length - 1 : Nat) : Int), ((0 : Nat) : Int), (), o ++ [((g Q 0).1, ())], sw Q (Q.length - 1) 0, ()) = _
      rw [down12 (fun _ _ _ _ _ _ => rfl) 0 _ (Q.length - 1) F 0 (sw Q (Q.length - 1) 0) (by omega) (by omega) (by simp) (by omega) (by simp; omega)]
      rw [downF_fuel F Q.length _ _ _ (by omega) (by omega)]
      have hdl : (downF Q.length (sw Q (Q.length - 1) 0) 0 (Q.length - 1)).length = Q.length := by rw [downF_len]; simp
      have hpl := popF_len Q
      have hph := popF_heap hh
      have hsp := srt_pop hh (by omega)
      unfold popF at hpl hph hsp
      generalize downF Q.length (sw Q (Q.length - 1) 0) 0 (Q.length - 1) = D at hdl hpl hph hsp ⊢
      simp only [sh12_K5]
      rw [hdl, hw, tn]
      rw [if_pos (inR_nat (by omega)), if_pos (decide_eq_true (by omega)), if_pos (show inCut 0 ((Q.length - 1 : Nat) : Int) Q.length = true from inCut_nat (a := 0) (by omega) (by omega)), if_pos (show decide (Int.toNat 0 = 0) = true from rfl), if_pos (decide_eq_true (by simp))]
      simp only [Int.toNat_zero, Nat.sub_zero, List.drop_zero]
      rw [drain12 F f (D.take (Q.length - 1)) _ (by omega) (by omega) (by simp; omega) hph]
      rw [hsp]
      simp [bags]
theorem lo12 (x r) (h : sp12 x = some r) : ∃ fuel, sh12 fuel x.1 = some r := by
  obtain ⟨l, u⟩ := x
  unfold sp12 at h
  split at h
  · rename_i hl
    cases h
    have hl : l.length ≤ 1000000 := hl
    refine ⟨l.length + 1, ?_⟩
    show sh12 _ l = some (bags (srt (flt l)), ())
    simp only [sh12, joinK]
    show iter _ _ (l, _, ((0 : Nat) : Int), (), [], qF (l.take 0), ()) = _
    refine iter_count (F := sh12_L21 (l.length + 1) (sh12_K2 (l.length + 1) sh12_K0)) (fun k => (l, (l.length : Int), (k : Int), (), [], qF (l.take k), ())) l.length _ (Nat.lt_succ_self _) (fun rc k hk => ?_) (fun rc => ?_)
    · have hq := qF_len l k
      rw [qF_snoc l k hk]
      generalize qF (l.take k) = Q at hq ⊢
      simp only [sh12_L21, joinK]
      rw [if_pos (decide_eq_true (by omega)), if_pos (inR_nat hk), lAt_nat]
      show (if decide (1 ≤ (g l k).1) = true then _ else _) = _
      by_cases h1 : 1 ≤ (g l k).1
      · rw [if_pos (decide_eq_true h1)]
        show sh12_K24 (l.length + 1) (sh12_K22 rc) (l, (l.length : Int), (k : Int), decide ((g l k).1 ≤ 40), (), g l k, [], Q, ()) = _
        simp only [sh12_K24, joinK]
        by_cases h2 : (g l k).1 ≤ 40
        · rw [if_pos (decide_eq_true h2), if_pos (decide_eq_true (by simp [lim]; omega)), if_pos (decide_eq_true (by simp [lim]; omega)), if_pos ⟨h1, h2⟩]
          show sh12_K25 (l.length + 1) (sh12_K22 rc) (l, (l.length : Int), (k : Int), (), [], Q ++ [g l k], ()) = _
          simp only [sh12_K25]
          have hw : IntKind.i64.wrap (((Q ++ [g l k]).length : Int) - 1) = (Q.length : Int) := by
            have e : ((Q ++ [g l k]).length : Int) = Q.length + 1 := by simp
            rw [e, wrapI (by omega) (by omega)]; omega
          rw [hw]
          refine (up12 l _ _ [] (l.length + 1) Q.length (Q ++ [g l k]) (by omega) (by simp) (by simp; omega)).trans ?_
          simp only [sh12_K22]
          rw [up1 hk (by omega)]
          unfold pushF
          rw [upF_fuel _ (Q.length + 1) _ _ (by omega) (by omega)]
        · rw [if_neg (by simpa using h2), if_neg (by omega)]
          simp only [sh12_K22]
          rw [up1 hk (by omega)]
      · rw [if_neg (by simpa using h1)]
        show sh12_K24 (l.length + 1) (sh12_K22 rc) (l, (l.length : Int), (k : Int), false, (), g l k, [], Q, ()) = _
        simp only [sh12_K24, joinK]
        rw [if_neg (by decide), if_neg (by omega)]
        simp only [sh12_K22]
        rw [up1 hk (by omega)]
    · simp only [sh12_L21]
      rw [if_neg (by simp), List.take_length]
      have hh := qF_heap l
      have hq := qF_len l l.length
      rw [List.take_length] at hq
      rw [srt_qF]
      simp only [sh12_K2]
      refine (drain12 (l.length + 1) (l.length + 1) (qF l) [] (by omega) (by omega) (by simp; omega) hh).trans ?_
      simp only [sh12_K0, List.nil_append]
  · cases h
theorem e9 (a b c d : Int) : sp9 (a, b, c, d, ()) = some (holdB a b c d, ()) := rfl
theorem e14 (l : List E) (n : Int) (h : l.length ≤ 1000000) : sp14 (l, n, ()) = some (nextI l n, ()) := if_pos h
theorem e12 (l : List E) (h : l.length ≤ 1000000) : sp12 (l, ()) = some (bags (srt (flt l)), ()) := if_pos h
theorem e13 (l : List E) (h : l.length ≤ 1000000) : sp13 (l, ()) = some (bags (srt (flt l)), ()) := if_pos h
theorem e23 (l : List E) (h : l.length ≤ 1000000) : sp23 (l, ()) = some (srt (flt l), ()) := if_pos h
theorem e11 (l m : List (Int × Unit)) (h : l.length ≤ 1000000) : sp11 (l, m, ()) = some (decide (l = m), ()) := if_pos h
theorem srt_ex : srt (flt [(3, 20, ()), (2, 20, ()), (1, 25, ())]) = [(2, 20, ()), (3, 20, ()), (1, 25, ())] := (srt_eq (by decide) (by decide)).symm
theorem e6 : sp6 () = some (true, ()) := by
  show sh6 0 = _
  have h1 : holdB 10 30 15 4 = true := by decide
  have h2 : holdB 10 30 15 5 = false := by decide
  have h3 : nextI [(3, 20, ()), (2, 20, ()), (1, 25, ())] 20 = 2 := by unfold nextI; rw [srt_ex]; rfl
  have h4 : nextI [(3, 20, ()), (2, 20, ()), (1, 25, ())] 19 = 0 := by unfold nextI; rw [srt_ex]; rfl
  simp only [sh6, joinK, e9, Option.bind_some]
  rw [h1, h2, if_pos rfl, if_pos (by decide), e14 _ _ (by decide), e14 _ _ (by decide), e12 _ (by decide), h3, h4, srt_ex]
  simp only [Option.bind_some]
  rw [if_pos (by decide), if_pos (by decide), e11 _ _ (by decide)]
  simp only [Option.bind_some, sh6_K0]
  rfl
theorem e15 (l : List E) (now : Int) (h : l.length ≤ 1000000) : sp15 (l, now, ()) = some (nextI l now, ()) := by
  show sh15 0 l now = _
  simp only [sh15, joinK, e23 l h, Option.bind_some]
  unfold nextI
  generalize srt (flt l) = S
  cases S with
  | nil => rfl
  | cons e S =>
    rw [if_neg (show ¬ (((e :: S).length : Int) == 0) = true by rw [beq_iff_eq]; simp; omega), if_pos (show inR 0 (e :: S).length = true from inR_nat (k := 0) (by simp)), if_pos (decide_eq_true (show Int.toNat 0 + 1 ≤ (e :: S).length by simp))]
    simp only [sh15_K1]
    show (if decide (now < e.2.1) = true then _ else _) = _
    by_cases h3 : now < e.2.1
    · rw [if_pos (decide_eq_true h3)]; rw [if_pos h3]
    · rw [if_neg (by simpa using h3), if_pos (show inR 0 (e :: S).length = true from inR_nat (k := 0) (by simp)), if_pos (decide_eq_true (show Int.toNat 0 + 1 ≤ (e :: S).length by simp))]
      rw [if_neg h3]; rfl
theorem law3 (x : Int × Int × Int × Int × List E × List (Int × Unit) × Unit) : sp3 x = some (true, ()) := by
  obtain ⟨a, b, c, d, l, q, u⟩ := x
  show sh3 0 a b c d l q = _
  simp only [sh3]
  by_cases hl : 100 < l.length
  · rw [if_pos (decide_eq_true (by omega)), e6]; rfl
  · rw [if_neg (by simp; omega)]
    obtain ⟨m, f1, f2, f3⟩ := e7 q
    obtain ⟨a1, g1, _, _⟩ := e8 a 40 (by omega) (by omega)
    obtain ⟨a2, g2, _, _⟩ := e8 b 40 (by omega) (by omega)
    obtain ⟨a3, g3, _, _⟩ := e8 c 10 (by omega) (by omega)
    obtain ⟨a4, g4, _, _⟩ := e8 d 10 (by omega) (by omega)
    obtain ⟨a5, g5, _, _⟩ := e8 a 8 (by omega) (by omega)
    have hl' : l.length ≤ 1000000 := by omega
    have hm' : m.length ≤ 1000000 := by omega
    have hb : ∀ z : List E, z.length ≤ 1000000 → (bags (srt (flt z))).length ≤ 1000000 := fun z hz => by
      simp only [bags, List.length_map, srt_len]; exact Nat.le_trans (flt_len z) hz
    simp only [f1, g1, g2, g3, g4, g5, Option.bind_some, joinK, e9, e10, e12 l hl', e12 m hm', e13 l hl', e13 m hm', e14 l _ hl', e14 m _ hm', e15 l _ hl', e15 m _ hm', e11 _ _ (hb l hl'), e11 _ _ (hb m hm'), e6, beq_self_eq_true, decide_true, if_true, sh3_K6]
theorem law5 (x : Int × Int × Int × Int × Unit) : sp5 x = some (true, ()) := by
  obtain ⟨a, b, c, d, u⟩ := x
  show sh5 0 a b c d = _
  obtain ⟨a1, g1, i1, i2⟩ := e8 a 100 (by omega) (by omega)
  obtain ⟨a2, g2, i3, i4⟩ := e8 b 200 (by omega) (by omega)
  obtain ⟨a3, g3, i5, i6⟩ := e8 c 50 (by omega) (by omega)
  obtain ⟨a4, g4, i7, i8⟩ := e8 d 50 (by omega) (by omega)
  have hH : ∀ p q : Int, 0 ≤ p → p ≤ 200 → 0 ≤ q → q ≤ 400 → holdB p q a3 a4 = decide (p + a3 + a4 < q) := fun p q h1 h2 h3 h4 => by
    simp only [holdB]
    have e : ∀ z : Int, 0 ≤ z → z ≤ 400 → (decide (0 ≤ z) = true ∧ decide (z ≤ 1048576) = true) := fun z h h' => ⟨decide_eq_true h, decide_eq_true (by omega)⟩
    simp [e p h1 (by omega), e q h3 (by omega), e a3 i5 (by omega), e a4 i7 (by omega)]
  simp only [sh5, joinK, g1, g2, g3, g4, Option.bind_some, e9, e6, sh5_K5]
  rw [wrapI (x := a1 + a3) (by omega) (by omega), wrapI (x := a2 - a4) (by omega) (by omega), wrapI (x := a2 + 1) (by omega) (by omega), wrapI (x := a1 + 1) (by omega) (by omega)]
  rw [hH a1 a2 i1 (by omega) i3 (by omega), hH a1 (a2 + 1) i1 (by omega) (by omega) (by omega), hH (a1 + 1) a2 (by omega) (by omega) i3 (by omega)]
  by_cases h : a1 + a3 + a4 < a2
  · rw [decide_eq_true h, decide_eq_true (show a1 + a3 < a2 - a4 by omega), decide_eq_true (show a1 + a3 + a4 < a2 + 1 by omega)]
    rfl
  · rw [decide_eq_false h, decide_eq_false (show ¬ a1 + a3 < a2 - a4 by omega), decide_eq_false (show ¬ a1 + 1 + a3 + a4 < a2 by omega)]
    rfl
/-- The place of the bag that is due first among those with a number, in the first i places. -/
def atF (l : List E) (id : Int) : Nat → Int
  | 0 => -1
  | i + 1 => if (g l i).1 = id ∧ (atF l id i < 0 ∨ (g l i).2.1 < (g l (atF l id i).toNat).2.1) then (i : Int) else atF l id i
theorem atF_spec (l : List E) (id : Int) : ∀ n, (atF l id n = -1 ∧ ∀ i, i < n → (g l i).1 ≠ id) ∨ ∃ a : Nat, atF l id n = a ∧ a < n ∧ (g l a).1 = id ∧ ∀ i, i < n → (g l i).1 = id → (g l a).2.1 ≤ (g l i).2.1
  | 0 => .inl ⟨rfl, fun i hi => absurd hi (Nat.not_lt_zero _)⟩
  | n + 1 => by
    simp only [atF]
    rcases atF_spec l id n with ⟨h1, h2⟩ | ⟨a, h1, h2, h3, h4⟩
    · rw [h1]
      by_cases h : (g l n).1 = id
      · rw [if_pos ⟨h, .inl (by omega)⟩]
        refine .inr ⟨n, rfl, by omega, h, fun i hi hb => ?_⟩
        by_cases hin : i = n
        · rw [hin]; exact Int.le_refl _
        · exact absurd hb (h2 i (by omega))
      · rw [if_neg (fun hc => h hc.1)]
        refine .inl ⟨rfl, fun i hi => ?_⟩
        by_cases hin : i = n
        · rw [hin]; exact h
        · exact h2 i (by omega)
    · rw [h1, tn]
      by_cases h : (g l n).1 = id ∧ ((a : Int) < 0 ∨ (g l n).2.1 < (g l a).2.1)
      · rw [if_pos h]
        refine .inr ⟨n, rfl, by omega, h.1, fun i hi hb => ?_⟩
        have hlt : (g l n).2.1 < (g l a).2.1 := by rcases h.2 with h | h <;> omega
        by_cases hin : i = n
        · rw [hin]; exact Int.le_refl _
        · have := h4 i (by omega) hb; omega
      · rw [if_neg h]
        refine .inr ⟨a, rfl, by omega, h3, fun i hi hb => ?_⟩
        by_cases hin : i = n
        · subst hin
          by_cases hlt : (g l i).2.1 < (g l a).2.1
          · exact absurd ⟨hb, .inr hlt⟩ h
          · omega
        · exact h4 i (by omega) hb
theorem at4 {j18 : List (Int × Int × Unit) × Int × Int × Int × Int × List (Int × Unit) × Unit → Option (Bool × Unit)} (l : List E) (k now id : Int) (o : List (Int × Unit)) (F : Nat) (hF : l.length < F) (hl : l.length ≤ 1000) :
    iter F (sh4_L19 j18) (l, k, now, id, -1, 0, o, ()) = j18 (l, k, now, id, atF l id l.length, o, ()) := by
  refine iter_count (F := sh4_L19 j18) (fun i => (l, k, now, id, atF l id i, (i : Int), o, ())) l.length F hF (fun rc i hi => ?_) (fun rc => ?_)
  · simp only [sh4_L19, joinK]
    rw [if_pos (decide_eq_true (by omega)), if_pos (inR_nat hi), lAt_nat]
    show (if ((g l i).1 == id) = true then _ else _) = _
    have hat := atF_spec l id i
    have e : atF l id (i + 1) = if (g l i).1 = id ∧ (atF l id i < 0 ∨ (g l i).2.1 < (g l (atF l id i).toNat).2.1) then (i : Int) else atF l id i := rfl
    rw [e]
    generalize atF l id i = a at hat ⊢
    by_cases h1 : (g l i).1 = id
    · rw [if_pos (by simpa using h1)]
      by_cases h2 : a < 0
      · rw [if_pos (decide_eq_true h2), if_pos ⟨h1, .inl h2⟩]
        simp only [sh4_K22, sh4_K20]
        rw [if_pos trivial, up1 hi (by omega)]
      · rw [if_neg (by simpa using h2), if_pos (inR_nat hi)]
        rcases hat with ⟨h3, _⟩ | ⟨p, rfl, h4, _⟩
        · omega
        · rw [if_pos (inR_nat (by omega)), tn, lAt_nat]
          show sh4_K22 _ (l, k, now, id, (p : Int), (i : Int), decide ((g l i).2.1 < (g l p).2.1), o, ()) = _
          simp only [sh4_K22, sh4_K20]
          rw [up1 hi (by omega)]
          by_cases h5 : (g l i).2.1 < (g l p).2.1
          · rw [if_pos (decide_eq_true h5), if_pos ⟨h1, .inr h5⟩]
          · rw [if_neg (by simpa using h5), if_neg (fun hc => by rcases hc.2 with h | h <;> omega)]
    · rw [if_neg (by simpa using h1), if_neg (fun hc => h1 hc.1)]
      simp only [sh4_K22, sh4_K20]
      rw [if_neg (by decide), up1 hi (by omega)]
  · simp only [sh4_L19]
    rw [if_neg (by simp)]
theorem flt_ok {l : List E} (h : ∀ e ∈ l, OkE e) : flt l = l := by
  unfold flt
  rw [List.filter_eq_self]
  intro e he
  have := h e he
  obtain ⟨h1, h2, _, _⟩ := this
  simp only [Bool.and_eq_true, decide_eq_true_eq]; omega
theorem cut_perm {l : List E} {a : Nat} (h : a < l.length) : (g l a :: (cutL l 0 (a : Int) ++ cutL l ((a + 1 : Nat) : Int) (l.length : Int))).Perm l := by
  have e1 : cutL l 0 (a : Int) = l.take a := by simp [cutL]
  have e2 : cutL l ((a + 1 : Nat) : Int) (l.length : Int) = l.drop (a + 1) := by
    simp only [cutL, tn]
    exact List.take_of_length_le (by simp)
  rw [e1, e2]
  refine List.perm_middle.symm.trans ?_
  have : l.take a ++ g l a :: l.drop (a + 1) = l := by
    rw [g_get h, ← List.drop_eq_getElem_cons h, List.take_append_drop]
  rw [this]
theorem bags_get (S : List E) (k : Nat) (h : k < S.length) : ((bags S).getD k (0, ())).1 = (g S k).1 := by
  simp [bags, g, List.getD_eq_getElem?_getD, h]
theorem rel4 {j9 : List (Int × Int × Unit) × Int × Int × List (Int × Unit) × Unit → Option (Bool × Unit)} (S : List E) (hS : S.length ≤ 1000) (now : Int) (F : Nat) :
    ∀ (f k : Nat) (l : List E), l.length < f → l.length < F → l.length ≤ 1000 → srt l = S.drop k → k ≤ S.length → (∀ e ∈ l, OkE e) →
    ∃ (k' : Nat) (l' : List E), iter f (sh4_L11 F j9) (l, (k : Int), now, nextI l now, bags S, ()) = j9 (l', (k' : Int), now, bags S, ()) ∧ srt l' = S.drop k' ∧ k' ≤ S.length ∧ l'.length ≤ l.length ∧ ∀ e ∈ l', OkE e ∧ now < e.2.1
  | f + 1, k, l, hf, hF, hl, hs, hk, hok => by
    have hmem : ∀ e, e ∈ l ↔ e ∈ srt l := fun e => (srt_perm l).mem_iff.symm
    have hso := srt_sorted l
    have hn : nextI l now = match srt l with | [] => 0 | e :: _ => if now < e.2.1 then 0 else e.1 := by unfold nextI; rw [flt_ok hok]; cases srt l <;> rfl
    have exit : nextI l now = 0 → (∀ e ∈ l, now < e.2.1) → ∃ (k' : Nat) (l' : List E), iter (f + 1) (sh4_L11 F j9) (l, (k : Int), now, nextI l now, bags S, ()) = j9 (l', (k' : Int), now, bags S, ()) ∧ srt l' = S.drop k' ∧ k' ≤ S.length ∧ l'.length ≤ l.length ∧ ∀ e ∈ l', OkE e ∧ now < e.2.1 := by
      intro h0 h1
      refine ⟨k, l, ?_, hs, hk, Nat.le_refl _, fun e he => ⟨hok e he, h1 e he⟩⟩
      rw [h0]
      show sh4_L11 F j9 _ _ = _
      simp only [sh4_L11]
      rw [if_neg (by decide)]
    cases hc : srt l with
    | nil =>
      rw [hc] at hn
      exact exit hn (fun e he => by have := (hmem e).1 he; rw [hc] at this; cases this)
    | cons e rest =>
      rw [hc] at hn hso
      simp only at hn
      obtain ⟨hmin, hrest⟩ := List.pairwise_cons.1 hso
      have hel : e ∈ l := (hmem e).2 (by rw [hc]; exact List.mem_cons_self ..)
      have hle : ∀ x ∈ l, leB e x = true := fun x hx => by
        have := (hmem x).1 hx
        rw [hc] at this
        rcases List.mem_cons.1 this with rfl | h
        · exact leB_refl _
        · exact hmin x h
      by_cases hd : now < e.2.1
      · rw [if_pos hd] at hn
        exact exit hn (fun x hx => by have := leB_iff.1 (hle x hx); omega)
      · rw [if_neg hd] at hn
        have hbag := hok e hel
        have hne : e.1 ≠ 0 := by have := hbag.1; omega
        obtain ⟨i, hi, hie⟩ := List.getElem_of_mem hel
        rw [← g_get hi] at hie
        have hat : ∃ a : Nat, atF l e.1 l.length = a ∧ a < l.length ∧ g l a = e := by
          rcases atF_spec l e.1 l.length with ⟨_, h2⟩ | ⟨a, h1, h2, h3, h4⟩
          · exact absurd (by rw [hie]) (h2 i hi)
          · refine ⟨a, h1, h2, ?_⟩
            have h5 := h4 i hi (by rw [hie])
            rw [hie] at h5
            have h6 := leB_iff.1 (hle (g l a) (by rw [g_get h2]; exact List.getElem_mem h2))
            exact leB_anti (by rw [leB_iff]; omega) (by rw [leB_iff]; omega)
        obtain ⟨a, ha1, ha2, ha3⟩ := hat
        have hkS : k < S.length := by
          have := congrArg List.length hs
          rw [hc, List.length_drop] at this
          simp at this; omega
        have hSk : g S k = e := by
          rw [hc, List.drop_eq_getElem_cons hkS] at hs
          rw [g_get hkS]
          exact (List.cons.inj hs).1.symm
        have hperm := cut_perm ha2
        generalize hcut : cutL l 0 (a : Int) ++ cutL l ((a + 1 : Nat) : Int) (l.length : Int) = l2 at hperm
        rw [ha3] at hperm
        have hlen2 : l2.length + 1 = l.length := by have := hperm.length_eq; simpa using this
        have hs2 : srt l2 = S.drop (k + 1) := by
          have h7 : rest.Perm l2 := by
            have : (e :: rest).Perm (e :: l2) := by rw [← hc]; exact (srt_perm l).trans hperm.symm
            exact (List.perm_cons e).1 this
          rw [← srt_eq hrest h7]
          rw [hc, List.drop_eq_getElem_cons hkS] at hs
          exact (List.cons.inj hs).2
        obtain ⟨k', l', g1, g2, g3, g4, g5⟩ := rel4 (j9 := j9) S hS now F f (k + 1) l2 (by omega) (by omega) (by omega) hs2 (by omega) (fun x hx => hok x (hperm.mem_iff.1 (List.mem_cons_of_mem _ hx)))
        refine ⟨k', l', ?_, g2, g3, by omega, g5⟩
        rw [← g1, hn]
        show sh4_L11 F j9 _ _ = _
        simp only [sh4_L11, joinK]
        rw [if_pos (by simpa using hne), at4 l _ _ _ _ F hF hl, ha1]
        simp only [sh4_K15, joinK]
        have hbl : (bags S).length = S.length := by simp [bags]
        rw [if_neg (by simp), if_neg (by rw [hbl]; simp; omega), if_pos (inR_nat (by rw [hbl]; exact hkS)), tn, if_pos (decide_eq_true (by rw [hbl]; omega)), bags_get S k hkS, hSk, if_neg (by simp), if_pos (inR_nat ha2), lAt_nat]
        show sh4_K16 _ (l, (k : Int), now, (a : Int), decide (now < (g l a).2.1), bags S, ()) = _
        rw [ha3, decide_eq_false hd]
        simp only [sh4_K16]
        rw [up1 ha2 (by omega)]
        have hc1 : (cutL l 0 (a : Int)).length + (cutL l ((a + 1 : Nat) : Int) (l.length : Int)).length ≤ 1000 := by
          have := congrArg List.length hcut
          rw [List.length_append] at this
          omega
        rw [if_neg (by decide), if_pos (show inCut 0 (a : Int) l.length = true from inCut_nat (a := 0) (by omega) (by omega)), if_pos (inCut_nat (by omega) (Nat.le_refl _))]
        rw [if_pos (decide_eq_true (by simp only [lim]; omega)), if_pos (decide_eq_true (by simp only [lim]; omega)), if_pos (decide_eq_true (by simp only [lim]; omega)), if_pos (decide_eq_true (by simp only [lim]; omega))]
        rw [hcut]
        simp only [sh4_K12]
        rw [e14 l2 now (by omega), up1 hkS (by omega)]
        rfl
theorem round4 (S : List E) (hS : S.length ≤ 1000) (F : Nat) : ∀ (d f k : Nat) (l : List E), d ≤ 6 → d < f → l.length < F → l.length ≤ 1000 → srt l = S.drop k → k ≤ S.length → (∀ e ∈ l, OkE e ∧ (6 - (d : Int)) ≤ e.2.1) →
    iter f (sh4_L7 F sh4_K2) (l, (k : Int), 6 - (d : Int), bags S, ()) = some (true, ())
  | 0, f + 1, k, l, _, _, hF, hl, hs, hk, hok => by
    show sh4_L7 F sh4_K2 _ _ = _
    simp only [sh4_L7]
    rw [if_neg (by simp)]
    have hnil : l = [] := by
      cases l with
      | nil => rfl
      | cons e r =>
        have := hok e (List.mem_cons_self ..)
        have h1 := this.1.2.2.2
        have h2 := this.2
        omega
    subst hnil
    have hkS : k = S.length := by
      have h1 : srt [] = [] := by simp [srt]
      rw [h1] at hs
      have := congrArg List.length hs
      simp at this; omega
    have hbl : (bags S).length = S.length := by simp [bags]
    simp only [sh4_K2, joinK]
    rw [if_pos (by decide), if_pos (by rw [hbl, hkS]; simp), e6]
    rfl
  | d + 1, f + 1, k, l, hd, hf, hF, hl, hs, hk, hok => by
    show sh4_L7 F sh4_K2 _ _ = _
    simp only [sh4_L7, joinK]
    rw [if_pos (decide_eq_true (by omega)), e14 l _ (by omega)]
    simp only [Option.bind_some]
    obtain ⟨k', l', g1, g2, g3, g4, g5⟩ := rel4 (j9 := sh4_K8 (iter f (sh4_L7 F sh4_K2))) S hS (6 - ((d + 1 : Nat) : Int)) F F k l hF hF hl hs hk (fun e he => (hok e he).1)
    rw [g1]
    simp only [sh4_K8]
    rw [wrapI (by omega) (by omega), show (6 : Int) - ((d + 1 : Nat) : Int) + 1 = 6 - (d : Int) by omega]
    exact round4 S hS F d f k' l' (by omega) (by omega) (by omega) (by omega) g2 g3 (fun e he => ⟨(g5 e he).1, by have := (g5 e he).2; omega⟩)
theorem lo4 (x r) (h : sp4 x = some r) : ∃ fuel, sh4 fuel x.1 = some r := by
  obtain ⟨q, u⟩ := x
  cases h
  obtain ⟨l, f1, f2, f3⟩ := e7 q
  refine ⟨20, ?_⟩
  show sh4 20 q = some (true, ())
  have hSl : (srt l).length = l.length := srt_len l
  simp only [sh4, f1, Option.bind_some]
  rw [e12 l (by omega), flt_ok f3]
  simp only [Option.bind_some]
  have hbl : (bags (srt l)).length = l.length := by simp [bags, hSl]
  rw [if_neg (by rw [hbl]; simp)]
  simp only [joinK]
  exact round4 (srt l) (by omega) 20 6 20 0 l (by omega) (by omega) (by omega) (by omega) (by simp) (by omega) (fun e he => ⟨f3 e he, by have := (f3 e he).2.2.1; simp; omega⟩)
theorem law4 (x : List (Int × Unit) × Unit) : sp4 x = some (true, ()) := rfl
end Go.Proofs.Ytkppmjplkjakkaa
