/- Chapter 03: what the functions come to; the laws. -/
import Derived.Test.YtodandhnddjfpaaDoorWa
import Derived.Test.YtodandhnddjfpaaDoorMath
import Derived.KernelRfl
import Derived.Lib.IndexBytes
open Go Go.Proofs Go.Abs
set_option linter.unusedVariables false
set_option maxRecDepth 100000
namespace Go.Proofs.YtodandhnddjfpaaDoor
def letB (c : Int) : Bool := decide (65 ≤ c) && decide (c ≤ 90)
def digB (c : Int) : Bool := decide (48 ≤ c) && decide (c ≤ 57)
def conB (c : Int) : Bool := letB c || (digB c || (c == 32 || (c == 45 || c == 43)))
def letL (s : List UInt8) : Bool := s.all fun c => letB c.toNat
def conL (s : List UInt8) : Bool := s.all fun c => conB c.toNat
theorem e52 (c : Int) : sp52 (c, ()) = some (letB c, ()) := by
  show sh52 0 c = _
  unfold sh52 letB; simp only [joinK, sh52_K0]; split <;> (try simp_all) <;> omega
theorem e53 (c : Int) : sp53 (c, ()) = some (digB c, ()) := by
  show sh53 0 c = _
  unfold sh53 digB; simp only [joinK, sh53_K0]; split <;> (try simp_all) <;> omega
theorem e41 (s : List UInt8) : sp41 (s, ()) = some (s == [67, 72, 71] || s == [68, 69, 76], ()) := by
  show sh41 0 s = _
  unfold sh41; simp only [joinK, sh41_K0]; split <;> simp_all
theorem e40 (s : List UInt8) (lo hi : Int) (hh : hi ≤ 10) : sp40 (s, lo, hi, ()) = some (decide (lo ≤ s.length) && decide ((s.length : Int) ≤ hi) && letL s, ()) := by
  show sh40 100000 s lo hi = _
  unfold sh40
  simp only [joinK]
  by_cases h1 : lo ≤ (s.length : Int)
  case neg => rw [if_neg (by simpa using h1)]; simp [sh40_K0, h1]
  rw [if_pos (by simpa using h1)]
  by_cases h2 : (s.length : Int) ≤ hi
  case neg => rw [if_neg (by simpa using h2)]; simp [sh40_K0, h2]
  rw [if_pos (by simpa using h2), decide_eq_true h1, decide_eq_true h2, Bool.true_and, Bool.true_and]
  refine (iter_list (F := sh40_L4 _ _) s (fun c => letB c.toNat) (fun k => (true, s, (s.length : Int), (k : Int), ())) 100000 (by omega) (bad := some (false, ())) (fin := some (true, ())) (fun rc k hk => ?_) (fun rc => ?_)).trans (ite_b _)
  · simp only [sh40_L4, joinK]
    rw [if_pos (by simpa using hk), if_pos (inR_nat hk), sAt_get s k hk]
    by_cases h : (65 : Int) ≤ (s[k].toNat : Int)
    · rw [if_pos (by simpa using h)]
      simp only [sh40_K5, letB, decide_eq_true h, Bool.true_and, up1' hk]
      cases decide ((s[k].toNat : Int) ≤ 90) <;> rfl
    · rw [if_neg (by simpa using h)]
      simp only [sh40_K5, letB, decide_eq_false h, Bool.false_and]
      rfl
  · simp only [sh40_L4]
    rw [if_neg (by simp)]
    rfl
theorem e46 (s : List UInt8) (n : Int) (hs : s.length ≤ 90000) : sp46 (s, n, ()) = some (letL s && (s.length : Int) == n, ()) := by
  show sh46 100000 s n = _
  unfold sh46
  simp only [joinK]
  refine (iter_list (F := sh46_L2 _) s (fun c => letB c.toNat) (fun k => (s, n, (k : Int), ())) 100000 (by omega) (bad := some (false, ())) (fin := some ((s.length : Int) == n, ())) (fun rc k hk => ?_) (fun rc => ?_)).trans ?_
  · simp only [sh46_L2, joinK]
    rw [if_pos (by simpa using hk), if_pos (inR_nat hk), sAt_get s k hk]
    by_cases h : (s[k].toNat : Int) < 65
    · rw [if_pos (by simpa using h)]
      have h' : ¬ (65 : Int) ≤ (s[k].toNat : Int) := by omega
      simp only [sh46_K3, letB, decide_eq_false h', Bool.false_and]
      rfl
    · rw [if_neg (by simpa using h)]
      have h' : (65 : Int) ≤ (s[k].toNat : Int) := by omega
      simp only [sh46_K3, letB, decide_eq_true h', Bool.true_and, up1' hk]
      rw [if_pos (inR_nat hk)]
      by_cases h2 : (90 : Int) < (s[k].toNat : Int)
      · rw [if_pos (by simpa using h2), if_neg (by simp only [decide_eq_true_eq]; omega)]
      · rw [if_neg (by simpa using h2), if_pos (by simp only [decide_eq_true_eq]; omega)]
  · simp only [sh46_L2]
    rw [if_neg (by simp)]
    rfl
  · show _ = some (s.all _ && _, ())
    cases s.all fun c => letB c.toNat <;> rfl
theorem e47 (s : List UInt8) (hs : s.length ≤ 90000) : sp47 (s, ()) = some (conL s, ()) := by
  show sh47 100000 s = _
  unfold sh47
  simp only [joinK]
  refine (iter_list (F := sh47_L2 _) s (fun c => conB c.toNat) (fun k => (s, (k : Int), ())) 100000 (by omega) (bad := some (false, ())) (fin := some (true, ())) (fun rc k hk => ?_) (fun rc => ?_)).trans (ite_b _)
  · simp only [sh47_L2, joinK]
    rw [if_pos (by simpa using hk), if_pos (inR_nat hk), sAt_get s k hk]
    simp only [sh47_K3, up1' hk, conB, letB, digB]
    obtain ⟨c, hc⟩ : ∃ c : Int, c = (s[k].toNat : Int) := ⟨_, rfl⟩
    simp only [← hc]
    cases decide (65 ≤ c) <;> cases decide (c ≤ 90) <;> cases decide (48 ≤ c) <;> cases decide (c ≤ 57) <;> cases (c == 32) <;> cases (c == 45) <;> cases (c == 43) <;> rfl
  · simp only [sh47_L2]
    rw [if_neg (by simp)]
    rfl
abbrev Pt := List UInt8 × Unit
abbrev El := List UInt8 × List Pt × Unit
abbrev Tel := List UInt8 × List UInt8 × List El × Unit
def largeB (ps : List Pt) : Bool := decide (8 < (ps.length : Int)) || ps.any fun p => decide (20 < (p.1.length : Int))
theorem any_not {α : Type} (l : List α) (p : α → Bool) : l.any p = !(l.all fun x => !p x) := by
  induction l with
  | nil => rfl
  | cons x l ih => simp only [List.any_cons, List.all_cons, ih]; cases p x <;> simp
theorem e28 (ps : List Pt) : sp28 (ps, ()) = some (largeB ps, ()) := by
  show sh28 100000 ps = _
  unfold sh28 largeB
  simp only [joinK]
  by_cases h1 : (8 : Int) < (ps.length : Int)
  · rw [if_pos (by simpa using h1), decide_eq_true h1]; rfl
  rw [if_neg (by simpa using h1), decide_eq_false h1, Bool.false_or]
  refine (iter_list (F := sh28_L6 _ _) ps (fun p => !decide (20 < (p.1.length : Int))) (fun k => (false, ps, (ps.length : Int), (k : Int), ())) 100000 (by omega) (bad := some (true, ())) (fin := some (false, ())) (fun rc k hk => ?_) (fun rc => ?_)).trans ?_
  · simp only [sh28_L6]
    rw [if_pos (by simpa using hk), if_pos (inR_nat hk), lAt_nat _ _ _ hk, up1' hk]
    cases decide ((20 : Int) < (ps[k].1.length : Int)) with
    | true =>
      show (if true = true then sh28_K2 sh28_K0 (false, decide (0 ≤ (k : Int)), ()) else _) = _
      rw [if_pos rfl, decide_eq_true (by omega)]; rfl
    | false => rfl
  · simp only [sh28_L6]
    rw [if_neg (by simp)]
    rfl
  · rw [any_not]
    cases ps.all fun p => !decide (20 < (p.1.length : Int)) <;> rfl
theorem e30 (e : El) (he : e.2.1.length ≤ 90000) : sp30 (e, ()) = some (!largeB e.2.1, ()) := by
  show sh30 100000 e = _
  unfold sh30 largeB
  simp only [joinK]
  refine (iter_list (F := sh30_L2 _) e.2.1 (fun p => !decide (20 < (p.1.length : Int))) (fun k => ((k : Int), (e.1, e.2.1, ()), ())) 100000 (by omega) (bad := some (false, ())) (fin := some (decide ((e.2.1.length : Int) ≤ 8), ())) (fun rc k hk => ?_) (fun rc => ?_)).trans ?_
  · simp only [sh30_L2]
    rw [if_pos (by simpa using hk), if_pos (inR_nat hk), lAt_nat _ _ _ hk, up1' hk]
    cases decide ((20 : Int) < (e.2.1[k].1.length : Int)) <;> rfl
  · simp only [sh30_L2]
    rw [if_neg (by simp)]
    rfl
  · rw [any_not]
    by_cases h : (8 : Int) < (e.2.1.length : Int)
    · rw [decide_eq_true h, decide_eq_false (by omega)]
      cases e.2.1.all fun p => !decide (20 < (p.1.length : Int)) <;> rfl
    · rw [decide_eq_false h, decide_eq_true (by omega)]
      cases e.2.1.all fun p => !decide (20 < (p.1.length : Int)) <;> rfl
def elB (e : El) : Bool := (decide ((1 : Int) ≤ e.1.length) && decide ((e.1.length : Int) ≤ 1) && letL e.1) && (!((e.2.1.length : Int) == 0) && e.2.1.all fun p => conL p.1)
def shapeB (t : Tel) : Bool := (decide ((3 : Int) ≤ t.1.length) && decide ((t.1.length : Int) ≤ 3) && letL t.1) && ((t.2.1 == [] || (t.2.1 == [67, 72, 71] || t.2.1 == [68, 69, 76])) && t.2.2.1.all elB)
structure Small (t : Tel) : Prop where
  kind : t.1.length ≤ 90000
  els : t.2.2.1.length ≤ 90000
  key : ∀ e ∈ t.2.2.1, e.1.length ≤ 90000
  parts : ∀ e ∈ t.2.2.1, e.2.1.length ≤ 90000
  part : ∀ e ∈ t.2.2.1, ∀ p ∈ e.2.1, p.1.length ≤ 90000
theorem iter_listM {α σ R : Type} {F : (σ → Option R) → σ → Option R} {bad fin : Option R} (l : List α) (p : α → Bool) (st : Nat → σ) (n : Nat) (hn : l.length < n)
    (hs : ∀ rc k (hk : k < l.length), F rc (st k) = if p l[k] = true then rc (st (k + 1)) else bad) (he : ∀ rc, F rc (st l.length) = fin) : iter n F (st 0) = if l.all p = true then fin else bad := iter_list l p st n hn hs he
theorem loop12 (j9 j11) (es : List El) (n i : Int) (ps : List Pt) (m k : Int) (p : List UInt8) (hp : p.length ≤ 90000) :
    iter 100000 (sh27_L12 j9 j11) (es, n, i, ps, m, k, p, (p.length : Int), 0, ()) = if conL p = true then j11 (es, n, i, ps, m, k, ()) else j9 (es, n, i, ps, m, k, true, ()) := by
  refine iter_list (F := sh27_L12 j9 j11) p (fun c => conB c.toNat) (fun q => (es, n, i, ps, m, k, p, (p.length : Int), (q : Int), ())) 100000 (by omega) (fun rc q hq => ?_) (fun rc => ?_)
  · simp only [sh27_L12, joinK]
    rw [if_pos (by simpa using hq), if_pos (inR_nat hq), sAt_get p q hq, e52, e53]
    simp only [sh27_K13, Option.bind_some, up1' hq, conB]
    obtain ⟨c, hc⟩ : ∃ c : Int, c = (p[q].toNat : Int) := ⟨_, rfl⟩
    simp only [← hc]
    cases letB c <;> cases digB c <;> cases (c == 32) <;> cases (c == 45) <;> cases (c == 43) <;> rfl
  · simp only [sh27_L12]
    rw [if_neg (by simp)]
theorem loop7 (j5) (es : List El) (n i : Int) (ps : List Pt) (hl : ps.length ≤ 90000) (hp : ∀ p ∈ ps, p.1.length ≤ 90000) :
    iter 100000 (sh27_L7 100000 j5) (es, n, i, ps, (ps.length : Int), 0, ()) = if (ps.all fun p => conL p.1) = true then j5 (es, n, i, ()) else some (false, ()) := by
  refine iter_list (F := sh27_L7 100000 j5) ps (fun p => conL p.1) (fun q => (es, n, i, ps, (ps.length : Int), (q : Int), ())) 100000 (by omega) (fun rc q hq => ?_) (fun rc => ?_)
  · simp only [sh27_L7, joinK]
    rw [if_pos (by simpa using hq), if_pos (inR_nat hq), lAt_nat _ _ _ hq, loop12 _ _ es n i ps _ _ ps[q].1 (hp _ (List.getElem_mem hq))]
    simp only [sh27_K10, sh27_K8, up1' hq]
    cases conL ps[q].1 <;> rfl
  · simp only [sh27_L7]
    rw [if_neg (by simp)]
theorem e27 (t : Tel) (ht : Small t) : sp27 (t, ()) = some (shapeB t, ()) := by
  obtain ⟨kd, ch, es, ⟨⟩⟩ := t
  have hes : es.length ≤ 90000 := ht.els
  show sh27 100000 (kd, ch, es, ()) = _
  unfold sh27 shapeB
  simp only [joinK]
  rw [e40 kd 3 3 (by decide), e41 ch]
  simp only [Option.bind_some]
  have main : sh27_K0 100000 (false, (kd, ch, es, ()), ()) = some (es.all elB, ()) := by
    simp only [sh27_K0, joinK]
    rw [if_neg (by decide)]
    refine (iter_list (F := sh27_L3 100000 _) es elB (fun q => (es, (es.length : Int), (q : Int), ())) 100000 (by omega) (bad := some (false, ())) (fin := some (true, ())) (fun rc q hq => ?_) (fun rc => ?_)).trans (ite_b _)
    · have hm : es[q] ∈ es := List.getElem_mem hq
      simp only [sh27_L3, joinK]
      rw [if_pos (by simpa using hq), if_pos (inR_nat hq), lAt_nat _ _ _ hq, e40 _ 1 1 (by decide)]
      simp only [Option.bind_some, sh27_K6, elB]
      rw [loop7 _ es _ _ _ (ht.parts _ hm) (ht.part _ hm)]
      simp only [sh27_K4, up1' hq]
      obtain ⟨b1, h1⟩ : ∃ b, b = (decide ((1 : Int) ≤ (es[q].1.length : Int)) && decide ((es[q].1.length : Int) ≤ 1) && letL es[q].1) := ⟨_, rfl⟩
      obtain ⟨b2, h2⟩ : ∃ b, b = ((es[q].2.1.length : Int) == 0) := ⟨_, rfl⟩
      obtain ⟨b3, h3⟩ : ∃ b, b = (es[q].2.1.all fun p => conL p.1) := ⟨_, rfl⟩
      simp only [← h1, ← h2, ← h3]
      cases b1 <;> cases b2 <;> cases b3 <;> rfl
    · simp only [sh27_L3]
      rw [if_neg (by simp)]
      rfl
  cases (decide ((3 : Int) ≤ (kd.length : Int)) && decide ((kd.length : Int) ≤ 3) && letL kd) with
  | false => rfl
  | true =>
    cases (ch == []) with
    | true => simpa using main
    | false =>
      cases (ch == [67, 72, 71] || ch == [68, 69, 76]) with
      | false => rfl
      | true => simpa using main
theorem loop29 (j5) (t : Tel) (q : Nat) (hq : q < t.2.2.1.length) (hl : t.2.2.1[q].2.1.length ≤ 90000) (hp : ∀ p ∈ t.2.2.1[q].2.1, p.1.length ≤ 90000) :
    iter 100000 (sh29_L7 j5) ((q : Int), 0, t, ()) = if (t.2.2.1[q].2.1.all fun p => conL p.1) = true then j5 ((q : Int), t, ()) else some (false, ()) := by
  refine iter_list (F := sh29_L7 j5) t.2.2.1[q].2.1 (fun p => conL p.1) (fun k => ((q : Int), (k : Int), t, ())) 100000 (by omega) (fun rc k hk => ?_) (fun rc => ?_)
  · simp only [sh29_L7]
    rw [if_pos (inR_nat hq), lAt_nat _ _ _ hq, if_pos (by simpa using hk), if_pos (inR_nat hq), if_pos (inR_nat hk), lAt_nat _ _ _ hk, e47 _ (hp _ (List.getElem_mem hk)), up1' hk]
    simp only [Option.bind_some]
    cases conL t.2.2.1[q].2.1[k].1 <;> rfl
  · simp only [sh29_L7]
    rw [if_pos (inR_nat hq), lAt_nat _ _ _ hq, if_neg (by simp)]
theorem e29 (t : Tel) (ht : Small t) : sp29 (t, ()) = some (shapeB t, ()) := by
  obtain ⟨kd, ch, es, ⟨⟩⟩ := t
  have hes : es.length ≤ 90000 := ht.els
  show sh29 100000 (kd, ch, es, ()) = _
  unfold sh29 shapeB
  simp only [joinK]
  rw [e46 kd 3 ht.kind]
  simp only [Option.bind_some]
  have main : sh29_K0 100000 (false, (kd, ch, es, ()), ()) = some (es.all elB, ()) := by
    simp only [sh29_K0, joinK]
    rw [if_neg (by decide)]
    refine (iter_list (F := sh29_L3 100000 _) es elB (fun q => ((q : Int), (kd, ch, es, ()), ())) 100000 (by omega) (bad := some (false, ())) (fin := some (true, ())) (fun rc q hq => ?_) (fun rc => ?_)).trans (ite_b _)
    · have hm : es[q] ∈ es := List.getElem_mem hq
      simp only [sh29_L3, joinK]
      rw [if_pos (by simpa using hq), if_pos (inR_nat hq), lAt_nat _ _ _ hq, e46 _ 1 (ht.key _ hm)]
      simp only [Option.bind_some, sh29_K6, elB]
      rw [loop29 _ (kd, ch, es, ()) q hq (ht.parts _ hm) (ht.part _ hm), if_pos (inR_nat hq)]
      simp only [sh29_K4, up1' hq]
      have h1' : (decide ((1 : Int) ≤ (es[q].1.length : Int)) && decide ((es[q].1.length : Int) ≤ 1) && letL es[q].1) = (letL es[q].1 && (es[q].1.length : Int) == 1) := by
        rw [Bool.eq_iff_iff]; simp; constructor
        · rintro ⟨⟨a, b⟩, c⟩; exact ⟨c, by omega⟩
        · rintro ⟨c, a⟩; exact ⟨⟨by omega, by omega⟩, c⟩
      simp only [h1']
      obtain ⟨b1, h1⟩ : ∃ b, b = (letL es[q].1 && (es[q].1.length : Int) == 1) := ⟨_, rfl⟩
      obtain ⟨b2, h2⟩ : ∃ b, b = ((es[q].2.1.length : Int) == 0) := ⟨_, rfl⟩
      obtain ⟨b3, h3⟩ : ∃ b, b = (es[q].2.1.all fun p => conL p.1) := ⟨_, rfl⟩
      simp only [← h1, ← h2, ← h3]
      cases b1 <;> cases b2 <;> cases b3 <;> rfl
    · simp only [sh29_L3]
      rw [if_neg (by simp)]
      rfl
  have h1' : (decide ((3 : Int) ≤ (kd.length : Int)) && decide ((kd.length : Int) ≤ 3) && letL kd) = (letL kd && (kd.length : Int) == 3) := by
    rw [Bool.eq_iff_iff]; simp; constructor
    · rintro ⟨⟨a, b⟩, c⟩; exact ⟨c, by omega⟩
    · rintro ⟨c, a⟩; exact ⟨⟨by omega, by omega⟩, c⟩
  rw [h1']
  cases (letL kd && (kd.length : Int) == 3) with
  | false => rfl
  | true =>
    cases (ch == []) with
    | true => simpa using main
    | false =>
      cases (ch == [67, 72, 71]) <;> cases (ch == [68, 69, 76]) <;> first | rfl | simpa using main
theorem dlim {n : Nat} (h : n ≤ 100000000000) : decide (n ≤ lim) = true := decide_eq_true (Nat.le_trans h (by decide))
def partsR (ps : List Pt) : List UInt8 := ps.flatMap fun p => [47] ++ p.1
def elemR (e : El) : List UInt8 := ([46] ++ e.1) ++ partsR e.2.1 ++ [10]
theorem partsR_snoc (ps : List Pt) (k : Nat) (h : k < ps.length) : partsR (ps.take (k + 1)) = partsR (ps.take k) ++ ([47] ++ ps[k].1) := by
  rw [List.take_add_one, List.getElem?_eq_getElem h]; simp only [partsR, Option.toList, List.flatMap_append, List.flatMap_cons, List.flatMap_nil, List.append_nil]
theorem partsR_le (ps : List Pt) (k : Nat) : (partsR (ps.take k)).length ≤ (partsR ps).length := by
  have h : partsR ps = partsR (ps.take k) ++ partsR (ps.drop k) := by
    rw [partsR, partsR, partsR, ← List.flatMap_append, List.take_append_drop]
  rw [h, List.length_append]; omega
theorem loop8 (j7) (t : Tel) (q : Nat) (s : List UInt8) (hq : q < t.2.2.1.length) (hl : t.2.2.1[q].2.1.length ≤ 90000) (hb : s.length + (partsR t.2.2.1[q].2.1).length ≤ 1000000000) :
    iter 100000 (sh26_L8 j7) (s, (q : Int), 0, t, ()) = j7 (s ++ partsR t.2.2.1[q].2.1, (q : Int), t, ()) := by
  have e : (s, (q : Int), (0 : Int), t, ()) = (fun k : Nat => (s ++ partsR (t.2.2.1[q].2.1.take k), (q : Int), (k : Int), t, ())) 0 := by simp [partsR]
  rw [e]
  refine iter_count (F := sh26_L8 j7) (fun k : Nat => (s ++ partsR (t.2.2.1[q].2.1.take k), (q : Int), (k : Int), t, ())) t.2.2.1[q].2.1.length 100000 (by omega) (fun rc k hk => ?_) (fun rc => ?_)
  · have h1 := partsR_le t.2.2.1[q].2.1 (k + 1)
    rw [partsR_snoc _ _ hk] at h1
    simp only [List.length_append, List.length_cons, List.length_nil] at h1
    simp only [sh26_L8]
    rw [if_pos (inR_nat hq), lAt_nat _ _ _ hq, if_pos (by simpa using hk), if_pos (inR_nat hq), if_pos (inR_nat hk), lAt_nat _ _ _ hk]
    rw [if_pos (dlim (by simp only [List.length_cons, List.length_nil]; omega)), if_pos (dlim (by simp only [List.length_append, List.length_cons, List.length_nil]; omega)), up1' hk, partsR_snoc _ _ hk, List.append_assoc]
  · simp only [sh26_L8]
    rw [if_pos (inR_nat hq), lAt_nat _ _ _ hq, if_neg (by simp), List.take_length]
theorem els_snoc (es : List El) (k : Nat) (h : k < es.length) : ((es.take (k + 1)).map elemR).flatten = ((es.take k).map elemR).flatten ++ elemR es[k] := by
  rw [List.take_add_one, List.getElem?_eq_getElem h]; simp only [Option.toList, List.map_append, List.map_cons, List.map_nil, List.flatten_append, List.flatten_cons, List.flatten_nil, List.append_nil]
theorem els_le (es : List El) (k : Nat) : ((es.take k).map elemR).flatten.length ≤ (es.map elemR).flatten.length := by
  have h : (es.map elemR).flatten = ((es.take k).map elemR).flatten ++ ((es.drop k).map elemR).flatten := by
    rw [← List.flatten_append, ← List.map_append, List.take_append_drop]
  rw [h, List.length_append]; omega
theorem loop3 (j2) (t : Tel) (s : List UInt8) (hl : t.2.2.1.length ≤ 90000) (hp : ∀ e ∈ t.2.2.1, e.2.1.length ≤ 90000) (hb : s.length + (t.2.2.1.map elemR).flatten.length ≤ 1000000000) :
    iter 100000 (sh26_L3 100000 j2) (s, 0, t, ()) = j2 (s ++ (t.2.2.1.map elemR).flatten, t, ()) := by
  have e : (s, (0 : Int), t, ()) = (fun k : Nat => (s ++ ((t.2.2.1.take k).map elemR).flatten, (k : Int), t, ())) 0 := by simp
  rw [e]
  refine iter_count (F := sh26_L3 100000 j2) (fun k : Nat => (s ++ ((t.2.2.1.take k).map elemR).flatten, (k : Int), t, ())) t.2.2.1.length 100000 (by omega) (fun rc k hk => ?_) (fun rc => ?_)
  · have h1 := els_le t.2.2.1 (k + 1)
    rw [els_snoc _ _ hk] at h1
    simp only [elemR, List.length_append, List.length_cons, List.length_nil] at h1
    simp only [sh26_L3, joinK]
    rw [if_pos (by simpa using hk), if_pos (inR_nat hk), lAt_nat _ _ _ hk]
    rw [if_pos (dlim (by simp only [List.length_cons, List.length_nil]; omega)), if_pos (dlim (by simp only [List.length_append, List.length_cons, List.length_nil]; omega))]
    rw [loop8 _ t k _ hk (hp _ (List.getElem_mem hk)) (by simp only [List.length_append, List.length_cons, List.length_nil]; omega)]
    simp only [sh26_K6, sh26_K4]
    rw [if_pos (dlim (by simp only [List.length_append, List.length_cons, List.length_nil]; omega)), up1' hk, els_snoc _ _ hk, elemR]
    simp only [List.append_assoc]
  · simp only [sh26_L3]
    rw [if_neg (by simp), List.take_length]
def textR (t : Tel) : List UInt8 := (headL t.1 t.2.1 ++ (t.2.2.1.map elemR).flatten) ++ [69, 78, 68] ++ t.1 ++ [10]
theorem e26 (t : Tel) (ht : Small t) (hb : (textR t).length ≤ 1000000000) : sp26 (t, ()) = some (textR t, ()) := by
  obtain ⟨kd, ch, es, ⟨⟩⟩ := t
  have h := hb
  simp only [textR, headL, List.length_append, List.length_cons, List.length_nil] at h
  show sh26 100000 (kd, ch, es, ()) = _
  unfold sh26
  rw [if_pos (dlim (by simp only; omega))]
  simp only [joinK, textR, headL]
  have main : ∀ s, s.length + (es.map elemR).flatten.length + 3 + kd.length + 1 ≤ 1000000000 → sh26_K0 100000 (s, (kd, ch, es, ()), ()) = some ((s ++ (es.map elemR).flatten) ++ [69, 78, 68] ++ kd ++ [10], ()) := by
    intro s hs
    simp only [sh26_K0, joinK]
    rw [loop3 _ (kd, ch, es, ()) s ht.els ht.parts (by simp only; omega)]
    simp only [sh26_K1]
    rw [if_pos (dlim (by simp only [List.length_append, List.length_cons, List.length_nil]; omega)), if_pos (dlim (by simp only [List.length_append, List.length_cons, List.length_nil]; omega)), if_pos (dlim (by simp only [List.length_append, List.length_cons, List.length_nil]; omega))]
  by_cases hc : ch = []
  · subst hc
    rw [if_pos rfl] at h
    simp only [List.length_append, List.length_cons, List.length_nil] at h
    rw [if_neg (by decide), main _ (by simp only [List.length_append, List.length_cons, List.length_nil]; omega), if_pos rfl]
  · rw [if_neg hc] at h
    simp only [List.length_append, List.length_cons, List.length_nil] at h
    rw [if_pos (by simpa using hc), if_pos (dlim (by omega)), if_pos (dlim (by simp only [List.length_append, List.length_cons, List.length_nil]; omega)), main _ (by simp only [List.length_append, List.length_cons, List.length_nil]; omega), if_neg hc]
theorem elemR_eq {e : El} (h : e.2.1 ≠ []) : elemR e = elemL e := by
  obtain ⟨k, ps, ⟨⟩⟩ := e
  match ps, h with
  | p :: r, _ =>
    have h1 : partsR r = Lib.joinTail [47] (r.map (·.1)) := by
      induction r with
      | nil => rfl
      | cons q r ih =>
        show ([47] ++ q.1) ++ partsR r = ([47] ++ q.1) ++ Lib.joinTail [47] (r.map (·.1))
        rw [ih (List.cons_ne_nil _ _)]
    show ([46] ++ k) ++ (([47] ++ p.1) ++ partsR r) ++ [10] = ((([46] ++ k) ++ [47]) ++ Lib.join (p.1 :: r.map (·.1)) [47]) ++ [10]
    rw [Lib.join_cons, h1]
    simp only [List.append_assoc]
theorem shape_el {t : Tel} (h : shapeB t = true) : ∀ e ∈ t.2.2.1, elB e = true := by
  simp only [shapeB, Bool.and_eq_true] at h
  exact List.all_eq_true.1 h.2.2
theorem shape_kind {t : Tel} (h : shapeB t = true) : t.1.length = 3 ∧ letL t.1 = true := by
  simp only [shapeB, Bool.and_eq_true, decide_eq_true_eq] at h
  exact ⟨by omega, h.1.2⟩
theorem shape_chg {t : Tel} (h : shapeB t = true) : t.2.1 = [] ∨ t.2.1 = [67, 72, 71] ∨ t.2.1 = [68, 69, 76] := by
  simp only [shapeB, Bool.and_eq_true, Bool.or_eq_true, beq_iff_eq] at h
  exact h.2.1
theorem el_spec {e : El} (h : elB e = true) : e.1.length = 1 ∧ letL e.1 = true ∧ e.2.1 ≠ [] ∧ ∀ p ∈ e.2.1, conL p.1 = true := by
  simp only [elB, Bool.and_eq_true, decide_eq_true_eq, Bool.not_eq_true', beq_eq_false_iff_ne] at h
  refine ⟨by omega, h.1.2, fun e0 => h.2.1 (by rw [e0]; rfl), List.all_eq_true.1 h.2.2⟩
theorem textR_eq {t : Tel} (h : shapeB t = true) : textR t = textL t := by
  have e : t.2.2.1.map elemR = t.2.2.1.map elemL := List.map_congr_left fun e he => elemR_eq (el_spec (shape_el h e he)).2.2.1
  simp only [textR, textL, e, List.append_assoc]
theorem flat_le {α : Type} (c : Nat) : ∀ (l : List (List α)), (∀ x ∈ l, x.length ≤ c) → l.flatten.length ≤ c * l.length
  | [], _ => by simp
  | x :: l, h => by
    have h1 := h x (List.mem_cons_self ..)
    have h2 := flat_le c l fun y hy => h y (List.mem_cons_of_mem _ hy)
    simp only [List.flatten_cons, List.length_append, List.length_cons]
    rw [Nat.mul_succ]; omega
theorem large_spec {ps : List Pt} (h : largeB ps = false) : ps.length ≤ 8 ∧ ∀ p ∈ ps, p.1.length ≤ 20 := by
  simp only [largeB, Bool.or_eq_false_iff, decide_eq_false_iff_not] at h
  refine ⟨by omega, fun p hp => ?_⟩
  have := List.any_eq_false.1 h.2 p hp
  simp only [decide_eq_true_eq] at this
  omega
theorem text_le {t : Tel} (h : shapeB t = true) (hn : t.2.2.1.length ≤ 24) (hl : ∀ e ∈ t.2.2.1, largeB e.2.1 = false) : (textL t).length ≤ 5000 := by
  rw [← textR_eq h]
  have h1 := (shape_kind h).1
  have h2 : t.2.1.length ≤ 3 := by rcases shape_chg h with e | e | e <;> rw [e] <;> decide
  have h3 : (t.2.2.1.map elemR).flatten.length ≤ 171 * 24 := by
    refine Nat.le_trans (flat_le 171 _ fun x hx => ?_) (by rw [List.length_map]; omega)
    obtain ⟨e, he, rfl⟩ := List.mem_map.1 hx
    obtain ⟨k1, k2⟩ := large_spec (hl e he)
    have k3 := (el_spec (shape_el h e he)).1
    have k4 : (partsR e.2.1).length ≤ 21 * e.2.1.length := by
      have := flat_le 21 (e.2.1.map fun p => [47] ++ p.1) fun x hx => by
        obtain ⟨p, hp, rfl⟩ := List.mem_map.1 hx
        have := k2 p hp
        simp only [List.length_append, List.length_cons, List.length_nil]; omega
      rwa [List.length_map] at this
    simp only [elemR, List.length_append, List.length_cons, List.length_nil]
    omega
  simp only [textR, headL, List.length_append, List.length_cons, List.length_nil]
  split <;> simp only [List.length_append, List.length_cons, List.length_nil] <;> omega
def validB (t : Tel) : Int := if shapeB t = true then (if (24 : Int) < t.2.2.1.length then 2 else if (t.2.2.1.all fun e => !largeB e.2.1) = true then (if (2048 : Int) < (textL t).length then 2 else 0) else 2) else 3
theorem e25 {t : Tel} (h : (textL t).length ≤ 5000) : sp25 (t, ()) = some (textL t, ()) := by
  simp only [sp25]
  rw [if_pos (by omega)]
theorem e16 (t : Tel) (ht : Small t) : sp16 (t, ()) = some (validB t, ()) := by
  obtain ⟨kd, ch, es, ⟨⟩⟩ := t
  have hes : es.length ≤ 90000 := ht.els
  show sh16 100000 (kd, ch, es, ()) = _
  unfold sh16 validB
  simp only [joinK]
  rw [e27 (kd, ch, es, ()) ht]
  simp only [Option.bind_some]
  by_cases hs : shapeB (kd, ch, es, ()) = true
  case neg => rw [if_neg hs]; rw [Bool.not_eq_true] at hs; rw [hs]; rfl
  rw [if_pos hs, hs]
  by_cases hn : (24 : Int) < (es.length : Int)
  · rw [if_pos hn, if_neg (by decide), if_pos (decide_eq_true hn)]
  rw [if_neg hn, if_neg (by decide), if_neg (by simpa using hn)]
  refine (iter_list (F := sh16_L4 _) es (fun e => !largeB e.2.1) (fun q => (es, (es.length : Int), (q : Int), (kd, ch, es, ()), ())) 100000 (by omega) (bad := some (2, ())) (fin := sh16_K1 ((kd, ch, es, ()), ())) (fun rc q hq => ?_) (fun rc => ?_)).trans ?_
  · simp only [sh16_L4]
    rw [if_pos (by simpa using hq), if_pos (inR_nat hq), lAt_nat _ _ _ hq, e28, up1' hq]
    simp only [Option.bind_some]
    cases largeB es[q].2.1 <;> rfl
  · simp only [sh16_L4]
    rw [if_neg (by simp)]
  · by_cases hl : (es.all fun e => !largeB e.2.1) = true
    · rw [if_pos hl, if_pos hl]
      have hb := text_le hs (by simp only; omega) fun e he => by simpa using List.all_eq_true.1 hl e he
      simp only [sh16_K1]
      rw [e25 (t := (kd, ch, es, ())) hb]
      simp only [Option.bind_some]
      by_cases h2 : (2048 : Int) < ((textL (kd, ch, es, ())).length : Int)
      · rw [if_pos h2, if_pos (decide_eq_true h2)]
      · rw [if_neg h2, if_neg (by simpa using h2)]
    · rw [if_neg hl, if_neg hl]
theorem e17 (t : Tel) (ht : Small t) : sp17 (t, ()) = some (validB t, ()) := by
  obtain ⟨kd, ch, es, ⟨⟩⟩ := t
  have hes : es.length ≤ 90000 := ht.els
  show sh17 100000 (kd, ch, es, ()) = _
  unfold sh17 validB
  simp only [joinK]
  rw [e29 (kd, ch, es, ()) ht]
  simp only [Option.bind_some]
  by_cases hs : shapeB (kd, ch, es, ()) = true
  case neg => rw [if_neg hs]; rw [Bool.not_eq_true] at hs; rw [hs]; rfl
  rw [if_pos hs, hs]
  by_cases hn : (24 : Int) < (es.length : Int)
  · rw [if_pos hn, if_neg (by decide), if_pos (decide_eq_true hn)]
  rw [if_neg hn, if_neg (by decide), if_neg (by simpa using hn)]
  refine (iter_list (F := sh17_L4 _) es (fun e => !largeB e.2.1) (fun q => ((q : Int), (kd, ch, es, ()), ())) 100000 (by omega) (bad := some (2, ())) (fin := sh17_K1 ((kd, ch, es, ()), ())) (fun rc q hq => ?_) (fun rc => ?_)).trans ?_
  · simp only [sh17_L4]
    rw [if_pos (by simpa using hq), if_pos (inR_nat hq), lAt_nat _ _ _ hq, up1' hq]
    rw [show sp30 ((es[q].1, es[q].2.1, ()), ()) = _ from e30 es[q] (ht.parts _ (List.getElem_mem hq))]
    simp only [Option.bind_some]
    cases largeB es[q].2.1 <;> rfl
  · simp only [sh17_L4]
    rw [if_neg (by simp)]
  · by_cases hl : (es.all fun e => !largeB e.2.1) = true
    · rw [if_pos hl, if_pos hl]
      have hb := text_le hs (by simp only; omega) fun e he => by simpa using List.all_eq_true.1 hl e he
      simp only [sh17_K1]
      rw [e26 (kd, ch, es, ()) ht (by rw [textR_eq hs]; omega), textR_eq hs]
      simp only [Option.bind_some]
      by_cases h2 : (2048 : Int) < ((textL (kd, ch, es, ())).length : Int)
      · rw [if_pos h2, if_pos (decide_eq_true h2)]
      · rw [if_neg h2, if_neg (by simpa using h2)]
    · rw [if_neg hl, if_neg hl]
theorem valid_spec {t : Tel} (h : validB t = 0) : shapeB t = true ∧ t.2.2.1.length ≤ 24 ∧ (∀ e ∈ t.2.2.1, largeB e.2.1 = false) ∧ (textL t).length ≤ 2048 := by
  unfold validB at h
  split at h
  · rename_i hs
    split at h
    · cases h
    · rename_i hn
      split at h
      · rename_i hl
        split at h
        · cases h
        · rename_i h2
          exact ⟨hs, by omega, fun e he => by simpa using List.all_eq_true.1 hl e he, by omega⟩
      · cases h
  · cases h
def fmtB (t : Tel) : List UInt8 × Int × Unit := if validB t = 0 then (textL t, 0, ()) else ([], validB t, ())
theorem e14 (t : Tel) (ht : Small t) : sp14 (t, ()) = some (fmtB t, ()) := by
  obtain ⟨kd, ch, es, ⟨⟩⟩ := t
  show sh14 0 (kd, ch, es, ()) = _
  unfold sh14 fmtB
  simp only
  rw [e16 (kd, ch, es, ()) ht]
  simp only [Option.bind_some]
  by_cases h : validB (kd, ch, es, ()) = 0
  · rw [if_neg (by simp [h]), if_pos h, e25 (t := (kd, ch, es, ())) (by have := valid_spec h; omega)]; rfl
  · rw [if_pos (by simpa using h), if_neg h]
theorem e15 (t : Tel) (ht : Small t) : sp15 (t, ()) = some (fmtB t, ()) := by
  obtain ⟨kd, ch, es, ⟨⟩⟩ := t
  show sh15 0 (kd, ch, es, ()) = _
  unfold sh15 fmtB
  simp only
  rw [e17 (kd, ch, es, ()) ht]
  simp only [Option.bind_some]
  by_cases h : validB (kd, ch, es, ()) = 0
  · have hv := valid_spec h
    rw [if_neg (by simp [h]), if_pos h, e26 (kd, ch, es, ()) ht (by rw [textR_eq hv.1]; omega), textR_eq hv.1]; rfl
  · rw [if_pos (by simpa using h), if_neg h]
abbrev Sr : Type := List (Int × Unit) × Int × Unit
def SrOk (s : Sr) : Prop := s.1.length ≤ 2000 ∧ 0 ≤ s.2.1 ∧ s.2.1 ≤ 2000
theorem e24 {s : Sr} (h : SrOk s) : ∃ v s', sp24 (s, ()) = some (v, s', ()) ∧ SrOk s' := by
  obtain ⟨l, a, _⟩ := s
  obtain ⟨h1, h2, h3⟩ := h
  simp only at h1 h2 h3
  show ∃ v s', sh24 0 (l, a, ()) = some (v, s', ()) ∧ SrOk s'
  unfold sh24
  by_cases hc : (l.length : Int) ≤ a
  · rw [if_pos (by simpa using hc)]; exact ⟨_, _, rfl, h1, h2, h3⟩
  · have w1 : IntKind.i64.wrap (a + 1) = a + 1 := wrapI (by omega) (by omega)
    have w2 : IntKind.i64.wrap (a + 1 - 1) = a := by rw [wrapI (by omega) (by omega)]; omega
    rw [if_neg (by simpa using hc)]
    simp only [w1, w2]
    rw [if_pos (by simp [inR]; omega)]
    exact ⟨_, _, rfl, h1, by simp only; omega, by simp only; omega⟩
theorem e19 (x n : Int) (h1 : 1 ≤ n) (h2 : n ≤ 1000000) : ∃ v, sp19 (x, n, ()) = some (v, ()) ∧ 0 ≤ v ∧ v < n := by
  show ∃ v, sh19 0 x n = some (v, ()) ∧ _
  unfold sh19
  rw [if_neg (by simp; omega), if_pos (by simp; omega)]
  simp only [joinK, sh19_K0]
  have b1 : x.tmod n < n := Int.tmod_lt_of_pos x (by omega)
  have b2 : -n < x.tmod n := by have := Int.lt_tmod_of_pos x (show 0 < n by omega); omega
  by_cases hc : x.tmod n < 0
  · rw [if_pos (by simpa using hc)]; exact ⟨_, rfl, by rw [wrapI (by omega) (by omega)]; omega, by rw [wrapI (by omega) (by omega)]; omega⟩
  · rw [if_neg (by simpa using hc)]; exact ⟨_, rfl, by omega, b1⟩
theorem e12 {s : Sr} (h : SrOk s) (n : Int) (h1 : 1 ≤ n) (h2 : n ≤ 1000000) : ∃ v s', sp12 (s, n, ()) = some (v, s', ()) ∧ 0 ≤ v ∧ v < n ∧ SrOk s' := by
  obtain ⟨r, s', hr, hs⟩ := e24 h
  obtain ⟨v, hv, k1, k2⟩ := e19 r n h1 h2
  refine ⟨v, s', ?_, k1, k2, hs⟩
  show sh12 0 s n = _
  unfold sh12
  rw [show sp24 ((s.1, s.2.1, ()), ()) = _ from hr, Option.bind_some]
  simp only
  rw [hv]; rfl
theorem lAt_mem {α : Type} (d : α) (l : List α) (k : Int) (h0 : 0 ≤ k) (h1 : k < l.length) : lAt d l k ∈ l := by
  have hk : k.toNat < l.length := by omega
  show l.getD k.toNat d ∈ l
  rw [List.getD, List.getElem?_eq_getElem hk]
  exact List.getElem_mem hk
theorem e10 (l : List (Int × Unit)) : ∃ s, sp10 (l, ()) = some (s, ()) ∧ SrOk s := by
  show ∃ s, sh10 0 l = some (s, ()) ∧ _
  unfold sh10
  simp only [joinK, sh10_K0]
  by_cases h : (2000 : Int) < (l.length : Int)
  · have hc : inCut 0 2000 l.length = true := inCut_nat (a := 0) (b := 2000) (by decide) (by omega)
    rw [if_pos (by simpa using h), if_pos hc]
    refine ⟨_, rfl, ?_, Int.le_refl 0, show (0 : Int) ≤ 2000 by decide⟩
    show (cutL l 0 2000).length ≤ 2000
    simp only [cutL, List.length_take]; exact Nat.min_le_left _ _
  · rw [if_neg (by simpa using h)]
    exact ⟨_, rfl, by show l.length ≤ 2000; omega, Int.le_refl 0, show (0 : Int) ≤ 2000 by decide⟩
theorem e22 {s : Sr} (h : SrOk s) (t : List (List UInt8 × Unit)) (h1 : 1 ≤ t.length) (h2 : t.length ≤ 1000) : ∃ v s', sp22 (s, t, ()) = some (v, s', ()) ∧ (v, ()) ∈ t ∧ SrOk s' := by
  obtain ⟨v, s', hv, k1, k2, hs⟩ := e12 h (t.length : Int) (by omega) (by omega)
  refine ⟨(lAt ([], ()) t v).1, s', ?_, lAt_mem ([], ()) t v k1 k2, hs⟩
  show sh22 0 s t = _
  unfold sh22
  rw [show sp12 ((s.1, s.2.1, ()), (t.length : Int), ()) = _ from hv, Option.bind_some]
  simp only
  rw [if_pos (by simp [inR]; omega)]
theorem mem3 {α : Type} {v a b c : α} (h : (v, ()) ∈ [(a, ()), (b, ()), (c, ())]) : v = a ∨ v = b ∨ v = c := by simpa using h
theorem mem5 {α : Type} {v a b c d e : α} (h : (v, ()) ∈ [(a, ()), (b, ()), (c, ()), (d, ()), (e, ())]) : v = a ∨ v = b ∨ v = c ∨ v = d ∨ v = e := by simpa using h
theorem e13 {s : Sr} (h : SrOk s) (lo hi : Int) (h1 : lo ≤ hi) (h2 : -1000 ≤ lo) (h3 : hi ≤ 1000) : ∃ v s', sp13 (s, lo, hi, ()) = some (v, s', ()) ∧ lo ≤ v ∧ v ≤ hi ∧ SrOk s' := by
  obtain ⟨v, s', hv, k1, k2, hs⟩ := e12 h (hi - lo + 1) (by omega) (by omega)
  refine ⟨lo + v, s', ?_, by omega, by omega, hs⟩
  show sh13 0 s lo hi = _
  unfold sh13
  rw [wrapI (x := hi - lo) (by omega) (by omega), wrapI (x := hi - lo + 1) (by omega) (by omega)]
  rw [show sp12 ((s.1, s.2.1, ()), hi - lo + 1, ()) = _ from hv, Option.bind_some]
  simp only
  rw [wrapI (by omega) (by omega)]
theorem iter_succ {σ R : Type} (n : Nat) (F : (σ → Option R) → σ → Option R) (z : σ) : iter (n + 1) F z = F (iter n F) z := rfl
theorem iter_post {σ R : Type} {F : (σ → Option R) → σ → Option R} (I : Nat → σ → Prop) (Post : Option R → Prop) (m n : Nat) (hn : m < n) {z : σ} (h0 : I 0 z)
    (hs : ∀ rc k z, k < m → I k z → ∃ z', F rc z = rc z' ∧ I (k + 1) z') (he : ∀ rc z, I m z → Post (F rc z)) : Post (iter n F z) := by
  suffices h : ∀ n k z, m - k < n → k ≤ m → I k z → Post (iter n F z) from h n 0 z (by omega) (Nat.zero_le _) h0
  intro n
  induction n with
  | zero => intro k z hk; omega
  | succ n ih =>
    intro k z hk hkm hi
    rw [iter_succ]
    rcases Nat.lt_or_ge k m with hlt | hge
    · obtain ⟨z', h1, h2⟩ := hs (iter n F) k z hlt hi
      rw [h1]; exact ih (k + 1) z' (by omega) hlt h2
    · have : k = m := by omega
      subst this
      exact he _ z hi
theorem e23 {s : Sr} (h : SrOk s) : ∃ w s', sp23 (s, 1, 1, ()) = some (w, s', ()) ∧ w.length = 1 ∧ letL w = true ∧ SrOk s' := by
  obtain ⟨v, s1, hv, k1, k2, h1⟩ := e13 h 1 1 (by decide) (by decide) (by decide)
  have hv1 : v = 1 := by omega
  subst hv1
  obtain ⟨c, s2, hc, c1, c2, h2⟩ := e12 h1 26 (by decide) (by decide)
  refine ⟨[UInt8.ofNat (65 + c).toNat], s2, ?_, rfl, ?_, h2⟩
  · show sh23 100000 s 1 1 = _
    unfold sh23
    rw [show sp13 ((s.1, s.2.1, ()), 1, 1, ()) = _ from hv, Option.bind_some]
    simp only
    rw [if_pos (by simp), if_pos (by simp), if_pos (by simp [lim]), if_pos (by simp [lim])]
    simp only [joinK]
    rw [show (100000 : Nat) = 99998 + 1 + 1 from rfl, iter_succ]
    simp only [sh23_L3]
    rw [if_pos (by simp), show sp12 ((s1.1, s1.2.1, ()), 26, ()) = _ from hc, Option.bind_some]
    rw [if_pos (by simp [inR]), if_pos (by simp), iter_succ]
    simp only [sh23_L3]
    rw [if_neg (by rw [wrapI (by decide) (by decide)]; simp)]
    simp only [sh23_K1]
    rw [wrapI (x := 65 + c) (by omega) (by omega)]
    have w8 : IntKind.u8.wrap (65 + c) = 65 + c := by
      have : IntKind.u8.wrap (65 + c) = (65 + c) % 256 := by simp [IntKind.wrap, IntKind.bits, IntKind.signed]
      rw [this]; omega
    rw [w8]
    rfl
  · have hn : (UInt8.ofNat (65 + c).toNat).toNat = (65 + c).toNat := by
      rw [UInt8.toNat_ofNat']; omega
    simp only [letL, List.all_cons, List.all_nil, Bool.and_true, hn, letB, Bool.and_eq_true, decide_eq_true_eq]
    omega
def goodE (e : El) : Prop := e.1.length = 1 ∧ letL e.1 = true ∧ 1 ≤ e.2.1.length ∧ e.2.1.length ≤ 3 ∧ ∀ p ∈ e.2.1, conL p.1 = true ∧ p.1.length ≤ 20
structure GoodT (t : Tel) : Prop where
  kind : t.1 = [66, 83, 77] ∨ t.1 = [66, 84, 77] ∨ t.1 = [88, 89, 90]
  chg : t.2.1 = [] ∨ t.2.1 = [67, 72, 71] ∨ t.2.1 = [68, 69, 76]
  els : t.2.2.1.length ≤ 4
  el : ∀ e ∈ t.2.2.1, goodE e
theorem loop11b (j10) (Post : Option (Tel × Sr × Unit) → Prop) (i : Int) (r : Nat) (hr : r ≤ 3) (s : Sr) (hs : SrOk s) (a b : List UInt8 × List UInt8 × Unit) (key : List UInt8) (es1 es2 : List El)
    (hj : ∀ (s' : Sr) (ps : List Pt), SrOk s' → ps.length = r → (∀ p ∈ ps, conL p.1 = true ∧ p.1.length ≤ 20) → Post (j10 (i, s', a, b, (key, ()), es1, es2, ps, ()))) :
    Post (iter 100000 (sh11_L12 j10) (i, (r : Int), s, a, b, (key, ()), es1, es2, [], ())) := by
  refine iter_post (F := sh11_L12 j10) (fun k z => ∃ (s' : Sr) (ps : List Pt), z = (i, (r : Int) - (k : Int), s', a, b, (key, ()), es1, es2, ps, ()) ∧ SrOk s' ∧ ps.length = k ∧ ∀ p ∈ ps, conL p.1 = true ∧ p.1.length ≤ 20) Post r 100000 (by omega)
    ⟨s, [], by simp, hs, rfl, by simp⟩ (fun rc k z hk hz => ?_) (fun rc z hz => ?_)
  · obtain ⟨s', ps, rfl, h1, h2, h3⟩ := hz
    obtain ⟨v, s'', hv, hm, h4⟩ := e22 h1 [([], ()), ([65, 49], ()), ([83, 75, 48, 49, 50, 51], ()), ([74, 45, 32, 43], ()), ([48, 49, 50, 51, 52, 53, 54, 55, 56, 57, 65, 66, 67, 68, 69, 70, 71, 72, 73, 74], ())] (by simp) (by simp)
    refine ⟨(i, (r : Int) - ((k + 1 : Nat) : Int), s'', a, b, (key, ()), es1, es2, ps ++ [(v, ())], ()), ?_, s'', ps ++ [(v, ())], rfl, h4, by simp [h2], fun p hp => ?_⟩
    · simp only [sh11_L12]
      rw [if_pos (by simp only [decide_eq_true_eq]; omega), show sp22 ((s'.1, s'.2.1, ()), _, ()) = _ from hv, Option.bind_some]
      rw [if_pos (dlim (by omega)), if_pos (dlim (by omega)), wrapI (by omega) (by omega)]
      rw [show (r : Int) - (k : Int) - 1 = (r : Int) - ((k + 1 : Nat) : Int) by omega]
    · rcases List.mem_append.1 hp with hp | hp
      · exact h3 p hp
      · rw [List.mem_singleton.1 hp]
        rcases mem5 hm with rfl | rfl | rfl | rfl | rfl <;> exact ⟨by decide, by decide⟩
  · obtain ⟨s', ps, rfl, h1, h2, h3⟩ := hz
    simp only [sh11_L12]
    rw [if_neg (by simp)]
    exact hj s' ps h1 h2 h3
theorem e11 {s : Sr} (h : SrOk s) : ∃ t s', sp11 (s, ()) = some (t, s', ()) ∧ GoodT t ∧ SrOk s' := by
  obtain ⟨kd, s1, hk, mk, h1⟩ := e22 h [([66, 83, 77], ()), ([66, 84, 77], ()), ([88, 89, 90], ())] (by simp) (by simp)
  obtain ⟨ch, s2, hc, mc, h2⟩ := e22 h1 [([], ()), ([67, 72, 71], ()), ([68, 69, 76], ())] (by simp) (by simp)
  obtain ⟨n, s3, hn, n1, n2, h3⟩ := e12 h2 5 (by decide) (by decide)
  obtain ⟨m, rfl⟩ : ∃ m : Nat, n = (m : Int) := ⟨n.toNat, by omega⟩
  suffices hp : ∃ t s', iter 100000 (sh11_L5 100000 sh11_K2) ((m : Int), s3, ([], [], ()), (kd, ch, ()), [], [], ()) = some (t, s', ()) ∧ GoodT t ∧ SrOk s' by
    obtain ⟨t, s', e, k⟩ := hp
    refine ⟨t, s', ?_, k⟩
    show sh11 100000 s = _
    unfold sh11
    rw [show sp22 ((s.1, s.2.1, ()), _, ()) = _ from hk, Option.bind_some]
    rw [show sp22 ((s1.1, s1.2.1, ()), _, ()) = _ from hc, Option.bind_some]
    simp only [joinK]
    rw [show sp12 ((s2.1, s2.2.1, ()), 5, ()) = _ from hn, Option.bind_some]
    exact e
  refine iter_post (F := sh11_L5 100000 sh11_K2) (fun k z => ∃ (s' : Sr) (es : List El), z = ((m : Int) - (k : Int), s', ([], [], ()), (kd, ch, ()), [], es, ()) ∧ SrOk s' ∧ es.length = k ∧ ∀ e ∈ es, goodE e)
    (fun o => ∃ t s', o = some (t, s', ()) ∧ GoodT t ∧ SrOk s') m 100000 (by omega) ⟨s3, [], by simp, h3, rfl, by simp⟩ (fun rc k z hk hz => ?_) (fun rc z hz => ?_)
  · obtain ⟨s', es, rfl, g1, g2, g3⟩ := hz
    obtain ⟨w, s4, hw, w1, w2, g4⟩ := e23 g1
    obtain ⟨r, s5, hr, r1, r2, g5⟩ := e13 g4 1 3 (by decide) (by decide) (by decide)
    obtain ⟨r', rfl⟩ : ∃ r' : Nat, r = (r' : Int) := ⟨r.toNat, by omega⟩
    simp only [sh11_L5, joinK]
    rw [if_pos (by simp only [decide_eq_true_eq]; omega), show sp23 ((s'.1, s'.2.1, ()), 1, 1, ()) = _ from hw, Option.bind_some, show sp13 ((s4.1, s4.2.1, ()), 1, 3, ()) = _ from hr, Option.bind_some]
    refine loop11b _ (fun o => ∃ z', o = rc z' ∧ ∃ (s' : Sr) (es : List El), z' = ((m : Int) - ((k + 1 : Nat) : Int), s', ([], [], ()), (kd, ch, ()), [], es, ()) ∧ SrOk s' ∧ es.length = k + 1 ∧ ∀ e ∈ es, goodE e) _ r' (by omega) s5 g5 _ _ w _ _ (fun s6 ps g6 p1 p2 => ?_)
    refine ⟨((m : Int) - ((k + 1 : Nat) : Int), s6, ([], [], ()), (kd, ch, ()), [], es ++ [(w, ps, ())], ()), ?_, s6, es ++ [(w, ps, ())], rfl, g6, by simp [g2], fun e he => ?_⟩
    · simp only [sh11_K9, sh11_K6]
      rw [if_pos (dlim (by omega)), if_pos (dlim (by omega)), wrapI (by omega) (by omega)]
      rw [show (m : Int) - (k : Int) - 1 = (m : Int) - ((k + 1 : Nat) : Int) by omega]
    · rcases List.mem_append.1 he with he | he
      · exact g3 e he
      · rw [List.mem_singleton.1 he]
        exact ⟨w1, w2, by simp only; omega, by simp only; omega, p2⟩
  · obtain ⟨s', es, rfl, g1, g2, g3⟩ := hz
    simp only [sh11_L5]
    rw [if_neg (by simp)]
    exact ⟨(kd, ch, es, ()), s', rfl, ⟨by rcases mem3 mk with rfl | rfl | rfl <;> simp, by rcases mem3 mc with rfl | rfl | rfl <;> simp, by simp only; omega, g3⟩, g1⟩
theorem e9 : sp9 () = some (true, ()) := by kernel_rfl
def ltE (e : El) : Bool := !(decide (20 < (e.2.1.length : Int)) || decide (40 < (e.1.length : Int))) && e.2.1.all fun p => !decide (60 < (p.1.length : Int))
def ltB (t : Tel) : Bool := !(decide (40 < (t.2.2.1.length : Int)) || (decide (40 < (t.1.length : Int)) || decide (40 < (t.2.1.length : Int)))) && t.2.2.1.all ltE
theorem lt_els {t : Tel} (h : ltB t = true) : t.2.2.1.length ≤ 40 ∧ t.1.length ≤ 40 ∧ t.2.1.length ≤ 40 ∧ ∀ e ∈ t.2.2.1, e.2.1.length ≤ 20 ∧ e.1.length ≤ 40 ∧ ∀ p ∈ e.2.1, p.1.length ≤ 60 := by
  simp only [ltB, Bool.and_eq_true, Bool.not_eq_true', Bool.or_eq_false_iff, decide_eq_false_iff_not] at h
  refine ⟨by omega, by omega, by omega, fun e he => ?_⟩
  have h2 := List.all_eq_true.1 h.2 e he
  simp only [ltE, Bool.and_eq_true, Bool.not_eq_true', Bool.or_eq_false_iff, decide_eq_false_iff_not] at h2
  refine ⟨by omega, by omega, fun p hp => ?_⟩
  have h3 := List.all_eq_true.1 h2.2 p hp
  simp only [Bool.not_eq_true', decide_eq_false_iff_not] at h3
  omega
theorem lt_small {t : Tel} (h : ltB t = true) : Small t := by
  obtain ⟨h1, h2, h3, h4⟩ := lt_els h
  exact ⟨by omega, by omega, fun e he => by have := h4 e he; omega, fun e he => by have := h4 e he; omega, fun e he p hp => by have := (h4 e he).2.2 p hp; omega⟩
theorem loop8a (j5) (t : Tel) (q : Nat) (hq : q < t.2.2.1.length) (hl : t.2.2.1[q].2.1.length ≤ 20) :
    iter 100000 (sh8_L7 j5) ((q : Int), 0, t, ()) = if (t.2.2.1[q].2.1.all fun p => !decide (60 < (p.1.length : Int))) = true then j5 ((q : Int), t, ()) else some (false, ()) := by
  refine iter_list (F := sh8_L7 j5) t.2.2.1[q].2.1 (fun p => !decide (60 < (p.1.length : Int))) (fun k => ((q : Int), (k : Int), t, ())) 100000 (by omega) (fun rc k hk => ?_) (fun rc => ?_)
  · simp only [sh8_L7]
    rw [if_pos (inR_nat hq), lAt_nat _ _ _ hq, if_pos (by simpa using hk), if_pos (inR_nat hq), if_pos (inR_nat hk), lAt_nat _ _ _ hk, up1' hk]
    cases decide ((60 : Int) < (t.2.2.1[q].2.1[k].1.length : Int)) <;> rfl
  · simp only [sh8_L7]
    rw [if_pos (inR_nat hq), lAt_nat _ _ _ hq, if_neg (by simp)]
theorem e8 (t : Tel) : sp8 (t, ()) = some (ltB t, ()) := by
  obtain ⟨kd, ch, es, ⟨⟩⟩ := t
  show sh8 100000 (kd, ch, es, ()) = _
  unfold sh8 ltB
  simp only [joinK]
  by_cases hn : (40 : Int) < (es.length : Int)
  · rw [if_pos (decide_eq_true hn), decide_eq_true hn]; rfl
  have hes : es.length ≤ 40 := by omega
  have main : sh8_K0 100000 (false, (kd, ch, es, ()), ()) = some (es.all ltE, ()) := by
    simp only [sh8_K0, joinK]
    rw [if_neg (by decide)]
    refine (iter_list (F := sh8_L3 100000 _) es ltE (fun q => ((q : Int), (kd, ch, es, ()), ())) 100000 (by omega) (bad := some (false, ())) (fin := some (true, ())) (fun rc q hq => ?_) (fun rc => ?_)).trans (ite_b _)
    · have hm : es[q] ∈ es := List.getElem_mem hq
      simp only [sh8_L3, joinK]
      rw [if_pos (by simpa using hq), if_pos (inR_nat hq), lAt_nat _ _ _ hq]
      by_cases h20 : (20 : Int) < (es[q].2.1.length : Int)
      · rw [if_pos (decide_eq_true h20)]
        simp only [sh8_K6, ltE, decide_eq_true h20, Bool.true_or, Bool.not_true, Bool.false_and]
        rfl
      rw [if_neg (by simpa using h20), if_pos (inR_nat hq)]
      simp only [sh8_K6, ltE, decide_eq_false h20, Bool.false_or]
      rw [loop8a _ (kd, ch, es, ()) q hq (by simp only; omega)]
      simp only [sh8_K4, up1' hq]
      obtain ⟨b1, h1⟩ : ∃ b, b = decide ((40 : Int) < (es[q].1.length : Int)) := ⟨_, rfl⟩
      obtain ⟨b3, h3⟩ : ∃ b, b = (es[q].2.1.all fun p => !decide (60 < (p.1.length : Int))) := ⟨_, rfl⟩
      simp only [← h1, ← h3]
      cases b1 <;> cases b3 <;> rfl
    · simp only [sh8_L3]
      rw [if_neg (by simp)]
      rfl
  rw [if_neg (by simpa using hn), decide_eq_false hn]
  cases decide ((40 : Int) < (kd.length : Int)) with
  | true => rfl
  | false =>
    cases decide ((40 : Int) < (ch.length : Int)) with
    | true => rfl
    | false => simpa using main
/-! equality -/
theorem eq_of_all {α : Type} [DecidableEq α] (d : α) : ∀ (a b : List α), a.length = b.length → ((List.range a.length).all fun k => decide (a.getD k d = b.getD k d)) = decide (a = b) := by
  intro a b h
  rw [Bool.eq_iff_iff, List.all_eq_true, decide_eq_true_eq]
  constructor
  · intro hh
    refine List.ext_getElem h fun k h1 h2 => ?_
    have := hh k (List.mem_range.2 h1)
    simpa [List.getD, List.getElem?_eq_getElem h1, List.getElem?_eq_getElem h2] using this
  · rintro rfl k _; simp
/-- a loop over two lists of one length -/
theorem iter_two {α σ R : Type} [DecidableEq α] {F : (σ → Option R) → σ → Option R} {bad fin : Option R} (a b : List α) (hab : a.length = b.length) (st : Nat → σ) (n : Nat) (hn : a.length < n)
    (hs : ∀ rc k (hk : k < a.length) (hk2 : k < b.length), F rc (st k) = if a[k] = b[k] then rc (st (k + 1)) else bad) (he : ∀ rc, F rc (st a.length) = fin) : iter n F (st 0) = if a = b then fin else bad := by
  have := iter_list (F := F) (bad := bad) (fin := fin) (a.zip b) (fun p => decide (p.1 = p.2)) st n (by rw [List.length_zip]; omega) (fun rc k hk => ?_) (fun rc => ?_)
  · rw [this]
    have e : (a.zip b).all (fun p => decide (p.1 = p.2)) = true ↔ a = b := by
      rw [List.all_eq_true]
      constructor
      · intro hh
        refine List.ext_getElem hab fun k h1 h2 => ?_
        have := hh (a[k], b[k]) (by rw [← List.getElem_zip (h := by rw [List.length_zip]; omega)]; exact List.getElem_mem _)
        simpa using this
      · rintro rfl p hp
        obtain ⟨k, hk, rfl⟩ := List.getElem_of_mem hp
        simp
    by_cases h : a = b
    · rw [if_pos (e.2 h), if_pos h]
    · rw [if_neg (fun x => h (e.1 x)), if_neg h]
  · rw [List.length_zip] at hk
    rw [hs rc k (by omega) (by omega), List.getElem_zip]
    simp only [decide_eq_true_eq]
  · rw [List.length_zip, show min a.length b.length = a.length by omega]; exact he rc
theorem e33 (a b : List Pt) (ha : a.length ≤ 90000) : sp33 (a, b, ()) = some (decide (a = b), ()) := by
  show sh33 100000 a b = _
  unfold sh33
  by_cases h : a.length = b.length
  · rw [if_neg (by simp [h])]
    simp only [joinK]
    refine (iter_two (F := sh33_L2 _) a b h (fun k => (a, b, (k : Int), ())) 100000 (by omega) (bad := some (false, ())) (fin := some (true, ())) (fun rc k hk hk2 => ?_) (fun rc => ?_)).trans ?_
    · simp only [sh33_L2]
      rw [if_pos (by simpa using hk), if_pos (inR_nat hk), if_pos (inR_nat hk2), lAt_nat _ _ _ hk, lAt_nat _ _ _ hk2, up1' hk]
      have e : a[k] = b[k] ↔ a[k].1 = b[k].1 := ⟨fun h => by rw [h], fun h => Prod.ext h rfl⟩
      by_cases hh : a[k].1 = b[k].1
      · rw [if_neg (by simp [hh]), if_pos (e.2 hh)]
      · rw [if_pos (by simpa using hh), if_neg (fun x => hh (e.1 x))]
    · simp only [sh33_L2]
      rw [if_neg (by simp)]
      rfl
    · by_cases hab : a = b
      · rw [if_pos hab, decide_eq_true hab]
      · rw [if_neg hab, decide_eq_false hab]
  · rw [if_pos (by simp; omega), decide_eq_false (fun e => h (by rw [e]))]
theorem e36 (a b : List Pt) (ha : a.length ≤ 90000) : sp36 (a, b, ()) = some (decide (a = b), ()) := by
  show sh36 100000 a b = _
  unfold sh36
  by_cases h : a.length = b.length
  · rw [if_neg (by simp [h])]
    simp only [joinK]
    refine (iter_two (F := sh36_L2 _) a b h (fun k => (a, b, (a.length : Int), (k : Int), ())) 100000 (by omega) (bad := some (false, ())) (fin := some (true, ())) (fun rc k hk hk2 => ?_) (fun rc => ?_)).trans ?_
    · simp only [sh36_L2]
      rw [if_pos (by simpa using hk), if_pos (inR_nat hk), if_pos (inR_nat hk2), lAt_nat _ _ _ hk, lAt_nat _ _ _ hk2, up1' hk]
      have e : a[k] = b[k] ↔ a[k].1 = b[k].1 := ⟨fun h => by rw [h], fun h => Prod.ext h rfl⟩
      by_cases hh : a[k].1 = b[k].1
      · rw [if_neg (by simp [hh]), if_pos (e.2 hh)]
      · rw [if_pos (by simpa using hh), if_neg (fun x => hh (e.1 x))]
    · simp only [sh36_L2]
      rw [if_neg (by simp)]
      rfl
    · by_cases hab : a = b
      · rw [if_pos hab, decide_eq_true hab]
      · rw [if_neg hab, decide_eq_false hab]
  · rw [if_pos (by simp; omega), decide_eq_false (fun e => h (by rw [e]))]
theorem el_eq (x y : El) : x = y ↔ x.1 = y.1 ∧ x.2.1 = y.2.1 := by
  obtain ⟨a, b, ⟨⟩⟩ := x
  obtain ⟨c, d, ⟨⟩⟩ := y
  simp
theorem tel_eq (x y : Tel) : x = y ↔ x.1 = y.1 ∧ x.2.1 = y.2.1 ∧ x.2.2.1 = y.2.2.1 := by
  obtain ⟨a, b, c, ⟨⟩⟩ := x
  obtain ⟨a', b', c', ⟨⟩⟩ := y
  simp
instance telDec : DecidableEq Tel := fun a b => decidable_of_iff (a.1 = b.1 ∧ a.2.1 = b.2.1 ∧ a.2.2.1 = b.2.2.1) (tel_eq a b).symm
theorem e20 (t u : Tel) (ht : Small t) : sp20 (t, u, ()) = some (decide (t = u), ()) := by
  show sh20 100000 t u = _
  unfold sh20
  simp only [joinK]
  by_cases h1 : t.1 = u.1
  case neg => rw [if_pos (by simpa using h1), decide_eq_false (fun e => h1 (by rw [e]))]; rfl
  rw [if_neg (by simp [h1])]
  by_cases h2 : t.2.1 = u.2.1
  case neg => rw [if_pos (by simpa using h2), decide_eq_false (fun e => h2 (by rw [e]))]; rfl
  rw [if_neg (by simp [h2])]
  by_cases h3 : t.2.2.1.length = u.2.2.1.length
  case neg =>
    rw [decide_eq_false (fun e => h3 (by rw [e]))]
    have : ((t.2.2.1.length : Int) != (u.2.2.1.length : Int)) = true := by simp; omega
    rw [this]; rfl
  have hb : ((t.2.2.1.length : Int) != (u.2.2.1.length : Int)) = false := by simp [h3]
  rw [hb]
  simp only [sh20_K0, joinK]
  rw [if_neg (by decide)]
  have hes := ht.els
  refine (iter_two (F := sh20_L3 _) t.2.2.1 u.2.2.1 h3 (fun k => ((k : Int), (t.1, t.2.1, t.2.2.1, ()), (u.1, u.2.1, u.2.2.1, ()), ())) 100000 (by omega) (bad := some (false, ())) (fin := some (true, ())) (fun rc k hk hk2 => ?_) (fun rc => ?_)).trans ?_
  · simp only [sh20_L3, joinK]
    rw [if_pos (by simpa using hk), if_pos (inR_nat hk), if_pos (inR_nat hk2), lAt_nat _ _ _ hk, lAt_nat _ _ _ hk2]
    have hm : t.2.2.1[k] ∈ t.2.2.1 := List.getElem_mem hk
    by_cases hh : t.2.2.1[k].1 = u.2.2.1[k].1
    · rw [if_neg (by simp [hh]), if_pos (inR_nat hk), if_pos (inR_nat hk2), e33 _ _ (ht.parts _ hm)]
      simp only [Option.bind_some, sh20_K4, up1' hk]
      by_cases hp : t.2.2.1[k].2.1 = u.2.2.1[k].2.1
      · rw [if_neg (by simp [hp]), if_pos ((el_eq _ _).2 ⟨hh, hp⟩)]
      · rw [if_pos (by simpa using hp), if_neg (fun e => hp ((el_eq _ _).1 e).2)]
    · rw [if_pos (by simpa using hh), if_neg (fun e => hh ((el_eq _ _).1 e).1)]
      rfl
  · simp only [sh20_L3]
    rw [if_neg (by simp)]
    rfl
  · by_cases hab : t.2.2.1 = u.2.2.1
    · rw [if_pos hab, decide_eq_true ((tel_eq t u).2 ⟨h1, h2, hab⟩)]
    · rw [if_neg hab, decide_eq_false (fun e => hab ((tel_eq t u).1 e).2.2)]
theorem e21 (t u : Tel) (ht : Small t) : sp21 (t, u, ()) = some (decide (t = u), ()) := by
  show sh21 100000 t u = _
  unfold sh21
  simp only [joinK]
  by_cases h1 : t.1 = u.1
  case neg => rw [if_neg (by simpa using h1), decide_eq_false (fun e => h1 (by rw [e]))]; rfl
  rw [if_pos (by simp [h1])]
  by_cases h2 : t.2.1 = u.2.1
  case neg => rw [if_neg (by simpa using h2), decide_eq_false (fun e => h2 (by rw [e]))]; rfl
  rw [if_pos (by simp [h2])]
  by_cases h3 : t.2.2.1.length = u.2.2.1.length
  case neg =>
    rw [decide_eq_false (fun e => h3 (by rw [e])), if_pos (by simp; omega)]; rfl
  rw [if_neg (by simp [h3])]
  have hes := ht.els
  refine (iter_two (F := sh21_L4 _ _) t.2.2.1 u.2.2.1 h3 (fun k => (true, u.2.2.1, t.2.2.1, (t.2.2.1.length : Int), (k : Int), ())) 100000 (by omega) (bad := some (false, ())) (fin := some (true, ())) (fun rc k hk hk2 => ?_) (fun rc => ?_)).trans ?_
  · simp only [sh21_L4, joinK]
    rw [if_pos (by simpa using hk), if_pos (inR_nat hk), if_pos (inR_nat hk2), lAt_nat _ _ _ hk, lAt_nat _ _ _ hk2]
    have hm : t.2.2.1[k] ∈ t.2.2.1 := List.getElem_mem hk
    by_cases hh : t.2.2.1[k].1 = u.2.2.1[k].1
    · rw [if_pos (by simp [hh]), e36 _ _ (ht.parts _ hm)]
      simp only [Option.bind_some, sh21_K5, up1' hk]
      by_cases hp : t.2.2.1[k].2.1 = u.2.2.1[k].2.1
      · rw [if_neg (by simp [hp]), if_pos ((el_eq _ _).2 ⟨hh, hp⟩)]
      · rw [if_pos (by simpa using hp), if_neg (fun e => hp ((el_eq _ _).1 e).2)]
        rfl
    · rw [if_neg (by simpa using hh), if_neg (fun e => hh ((el_eq _ _).1 e).1)]
      rfl
  · simp only [sh21_L4]
    rw [if_neg (by simp)]
    rfl
  · by_cases hab : t.2.2.1 = u.2.2.1
    · rw [if_pos hab, decide_eq_true ((tel_eq t u).2 ⟨h1, h2, hab⟩)]
    · rw [if_neg hab, decide_eq_false (fun e => hab ((tel_eq t u).1 e).2.2)]
theorem good_small {t : Tel} (h : GoodT t) : Small t where
  kind := by rcases h.kind with e | e | e <;> rw [e] <;> decide
  els := by have := h.els; omega
  key := fun e he => by have := (h.el e he).1; omega
  parts := fun e he => by have := (h.el e he).2.2.2.1; omega
  part := fun e he p hp => by have := ((h.el e he).2.2.2.2 p hp).2; omega
theorem law7 (x : List (Int × Unit) × List (Int × Unit) × Tel × Tel × Unit) : sp7 x = some (true, ()) := by
  obtain ⟨l, m, a, b, ⟨⟩⟩ := x
  obtain ⟨s1, hs1, k1⟩ := e10 l
  obtain ⟨t, s2, ht, gt, k2⟩ := e11 k1
  obtain ⟨s3, hs3, k3⟩ := e10 m
  obtain ⟨u, s4, hu, gu, k4⟩ := e11 k3
  show sh7 0 l m a b = _
  unfold sh7
  simp only [joinK]
  rw [show sp8 ((a.1, a.2.1, a.2.2.1, ()), ()) = _ from e8 a, show sp8 ((b.1, b.2.1, b.2.2.1, ()), ()) = _ from e8 b]
  simp only [Option.bind_some]
  have aw : ∀ z, sh7_K0 (l, m, true, z) = some (true, ()) := fun z => by
    simp only [sh7_K0]
    rw [if_pos trivial, e9]; rfl
  cases ha : ltB a with
  | false => rw [if_pos (by decide)]; exact aw _
  | true =>
    rw [if_neg (by decide)]
    cases hb : ltB b with
    | false => exact aw _
    | true =>
      have sa := lt_small ha
      simp only [sh7_K0]
      rw [if_neg (by decide), hs1, Option.bind_some, show sp11 ((s1.1, s1.2.1, ()), ()) = _ from ht, Option.bind_some, hs3, Option.bind_some, show sp11 ((s3.1, s3.2.1, ()), ()) = _ from hu, Option.bind_some]
      simp only [joinK]
      rw [show sp21 ((t.1, t.2.1, t.2.2.1, ()), (u.1, u.2.1, u.2.2.1, ()), ()) = _ from e21 t u (good_small gt), Option.bind_some]
      rw [show sp20 ((t.1, t.2.1, t.2.2.1, ()), (u.1, u.2.1, u.2.2.1, ()), ()) = _ from e20 t u (good_small gt), Option.bind_some, if_pos (by simp)]
      rw [show sp21 ((a.1, a.2.1, a.2.2.1, ()), (b.1, b.2.1, b.2.2.1, ()), ()) = _ from e21 a b sa, Option.bind_some]
      rw [show sp20 ((a.1, a.2.1, a.2.2.1, ()), (b.1, b.2.1, b.2.2.1, ()), ()) = _ from e20 a b sa, Option.bind_some, if_pos (by simp)]
      rw [show sp21 ((a.1, a.2.1, a.2.2.1, ()), (a.1, a.2.1, a.2.2.1, ()), ()) = _ from e21 a a sa, Option.bind_some, if_pos (by simp)]
      rw [show sp21 ((t.1, t.2.1, t.2.2.1, ()), (t.1, t.2.1, t.2.2.1, ()), ()) = _ from e21 t t (good_small gt), Option.bind_some, if_pos (by simp), e9]
      rfl
def ElS (e : El) : Prop := e.1.length ≤ 90000 ∧ e.2.1.length ≤ 90000 ∧ ∀ p ∈ e.2.1, p.1.length ≤ 90000
theorem small_of {k c : List UInt8} {es : List El} (hk : k.length ≤ 90000) (hn : es.length ≤ 90000) (h : ∀ e ∈ es, ElS e) : Small (k, c, es, ()) :=
  ⟨hk, hn, fun e he => (h e he).1, fun e he => (h e he).2.1, fun e he => (h e he).2.2⟩
theorem small_els {t : Tel} (h : Small t) : ∀ e ∈ t.2.2.1, ElS e := fun e he => ⟨h.key e he, h.parts e he, h.part e he⟩
theorem k4 (a b : Tel) (k c : List UInt8) (es : List El) (ha : Small a) (hb : Small b) (hu : Small (k, c, es, ())) : sh3_K4 100000 (a, b, (k, c, ()), es, ()) = some (true, ()) := by
  have hS : ∀ q, q < 3 → Small ([a, b, (k, c, es, ())].getD q ([], [], [], ())) := by
    intro q hq
    match q, hq with
    | 0, _ => exact ha
    | 1, _ => exact hb
    | 2, _ => exact hu
  simp only [sh3_K4, joinK]
  refine iter_count (F := sh3_L8 sh3_K5) (fun q : Nat => (((3 : Nat) : Int), (q : Int), [a, b, (k, c, es, ())], ())) 3 100000 (by omega) (fun rc q hq => ?_) (fun rc => ?_)
  · have hq' : q < [a, b, (k, c, es, ())].length := hq
    simp only [sh3_L8]
    rw [if_pos (decide_eq_true (show ((q : Nat) : Int) < ((3 : Nat) : Int) by omega)), if_pos (inR_nat hq'), if_pos (decide_eq_true (show ((q : Int)).toNat + 1 ≤ [a, b, (k, c, es, ())].length by simp only [List.length_cons, List.length_nil]; omega))]
    generalize hx : [a, b, (k, c, es, ())].getD ((q : Int)).toNat ([], [], [], ()) = x
    have hs : Small x := by rw [← hx]; exact hS q hq
    rw [show sp14 ((x.1, x.2.1, x.2.2.1, ()), ()) = _ from e14 x hs, show sp15 ((x.1, x.2.1, x.2.2.1, ()), ()) = _ from e15 x hs, show sp16 ((x.1, x.2.1, x.2.2.1, ()), ()) = _ from e16 x hs, show sp17 ((x.1, x.2.1, x.2.2.1, ()), ()) = _ from e17 x hs]
    simp only [Option.bind_some, joinK, sh3_K11, up1' hq]
    rw [if_neg (by simp), if_neg (by simp), if_neg (by simp)]
  · simp only [sh3_L8]
    rw [if_neg (by simp)]
    simp only [sh3_K5]
    rw [e9]; rfl
theorem law3 (x : Tel × List (Int × Unit) × List UInt8 × Unit) : sp3 x = some (true, ()) := by
  obtain ⟨raw, l, text, ⟨⟩⟩ := x
  obtain ⟨s1, hs1, k1⟩ := e10 l
  obtain ⟨t, s2, ht, gt, k2⟩ := e11 k1
  obtain ⟨v, s3, hv, v1, v2, k3⟩ := e12 k2 6 (by decide) (by decide)
  have st := good_small gt
  have et := small_els st
  have hk := st.kind
  have hn := gt.els
  show sh3 100000 raw l text = _
  unfold sh3
  simp only [joinK]
  rw [show sp8 ((raw.1, raw.2.1, raw.2.2.1, ()), ()) = _ from e8 raw]
  simp only [Option.bind_some]
  have aw : ∀ z, sh3_K0 100000 (l, text, true, z) = some (true, ()) := fun z => by
    simp only [sh3_K0]
    rw [if_pos trivial, e9]; rfl
  cases ha : ltB raw with
  | false => rw [if_pos (by decide)]; exact aw _
  | true =>
    rw [if_neg (by decide)]
    have sa := lt_small ha
    by_cases h60 : (60 : Int) < (text.length : Int)
    · rw [decide_eq_true h60]; exact aw _
    rw [decide_eq_false h60]
    simp only [sh3_K0]
    rw [if_neg (by decide), hs1, Option.bind_some, show sp11 ((s1.1, s1.2.1, ()), ()) = _ from ht, Option.bind_some, if_pos (dlim (show 0 + t.2.2.1.length ≤ 100000000000 by omega)), if_pos (dlim (show (0 + t.2.2.1.length) * 40 ≤ 100000000000 by omega))]
    simp only [joinK]
    rw [show sp12 ((s2.1, s2.2.1, ()), 6, ()) = _ from hv, Option.bind_some]
    have app : ∀ e : El, ElS e → sh3_K4 100000 (raw, t, (t.1, t.2.1, ()), t.2.2.1 ++ [e], ()) = some (true, ()) := fun e he =>
      k4 raw t _ _ _ sa st (small_of hk (by simp only [List.length_append, List.length_cons, List.length_nil]; omega) fun e' h' => by
        rcases List.mem_append.1 h' with h' | h'
        · exact et e' h'
        · rw [List.mem_singleton.1 h']; exact he)
    obtain rfl | rfl | rfl | rfl | rfl | rfl : v = 0 ∨ v = 1 ∨ v = 2 ∨ v = 3 ∨ v = 4 ∨ v = 5 := by omega
    · rw [if_pos (show ((0 : Int) == 0) = true by decide)]
      exact k4 raw t _ _ _ sa st (small_of (by omega) (by omega) et)
    · rw [if_neg (show ¬ ((1 : Int) == 0) = true by decide), if_pos (show ((1 : Int) == 1) = true by decide)]
      exact k4 raw t _ _ _ sa st (small_of hk (by omega) et)
    · rw [if_neg (show ¬ ((2 : Int) == 0) = true by decide), if_neg (show ¬ ((2 : Int) == 1) = true by decide), if_pos (show ((2 : Int) == 2) = true by decide)]
      rw [if_pos (dlim (by omega)), if_pos (dlim (by omega))]
      exact app ([65], [(text, ())], ()) ⟨by simp, by simp, by simp; omega⟩
    · rw [if_neg (show ¬ ((3 : Int) == 0) = true by decide), if_neg (show ¬ ((3 : Int) == 1) = true by decide), if_neg (show ¬ ((3 : Int) == 2) = true by decide), if_pos (show ((3 : Int) == 3) = true by decide)]
      rw [if_pos (dlim (by omega)), if_pos (dlim (by omega))]
      exact app (text, [([65], ())], ()) ⟨by simp only; omega, by simp, by simp⟩
    · rw [if_neg (show ¬ ((4 : Int) == 0) = true by decide), if_neg (show ¬ ((4 : Int) == 1) = true by decide), if_neg (show ¬ ((4 : Int) == 2) = true by decide), if_neg (show ¬ ((4 : Int) == 3) = true by decide), if_pos (show ((4 : Int) == 4) = true by decide)]
      obtain ⟨r, s4, hr, r1, r2, k4'⟩ := e12 k3 11 (by decide) (by decide)
      rw [show sp12 ((s3.1, s3.2.1, ()), 11, ()) = _ from hr, Option.bind_some]
      simp only
      have hl : (r : Int) ≤ (lim : Int) := by have : (lim : Int) = 140737488355328 := rfl; omega
      have hl2 : (16 : Int) * r ≤ (lim : Int) := by have : (lim : Int) = 140737488355328 := rfl; omega
      rw [if_pos (decide_eq_true r1), if_pos (decide_eq_true (Int.le_refl r)), if_pos (decide_eq_true hl), if_pos (decide_eq_true hl2), if_pos (dlim (by omega)), if_pos (dlim (by omega))]
      refine app ([65], List.replicate r.toNat ([], ()), ()) ⟨by simp, by simp only [List.length_replicate]; omega, fun p hp => ?_⟩
      rw [(List.mem_replicate.1 hp).2]; exact Nat.zero_le _
    · rw [if_neg (show ¬ ((5 : Int) == 0) = true by decide), if_neg (show ¬ ((5 : Int) == 1) = true by decide), if_neg (show ¬ ((5 : Int) == 2) = true by decide), if_neg (show ¬ ((5 : Int) == 3) = true by decide), if_neg (show ¬ ((5 : Int) == 4) = true by decide)]
      obtain ⟨r, s4, hr, r1, r2, k4'⟩ := e13 k3 18 26 (by decide) (by decide) (by decide)
      rw [show sp13 ((s3.1, s3.2.1, ()), 18, 26, ()) = _ from hr, Option.bind_some]
      obtain ⟨r', rfl⟩ : ∃ r' : Nat, r = (r' : Int) := ⟨r.toNat, by omega⟩
      refine iter_post (F := sh3_L19 _) (fun q z => ∃ es : List El, z = ((r' : Int), raw, t, (t.1, t.2.1, ()), es, ()) ∧ es.length = t.2.2.1.length + q ∧ ∀ e ∈ es, ElS e) (fun o => o = some (true, ())) (r' - t.2.2.1.length) 100000 (by omega)
        ⟨t.2.2.1, rfl, rfl, et⟩ (fun rc q z hq hz => ?_) (fun rc z hz => ?_)
      · obtain ⟨es, rfl, h1, h2⟩ := hz
        refine ⟨((r' : Int), raw, t, (t.1, t.2.1, ()), es ++ [([65], [([66], ())], ())], ()), ?_, es ++ [([65], [([66], ())], ())], rfl, by simp only [List.length_append, List.length_cons, List.length_nil]; omega, fun e' h' => ?_⟩
        · simp only [sh3_L19]
          rw [if_pos (decide_eq_true (by omega)), if_pos (dlim (by omega)), if_pos (dlim (by omega))]
        · rcases List.mem_append.1 h' with h' | h'
          · exact h2 e' h'
          · rw [List.mem_singleton.1 h']; exact ⟨by simp, by simp, by simp⟩
      · obtain ⟨es, rfl, h1, h2⟩ := hz
        simp only [sh3_L19]
        rw [if_neg (by simp only [decide_eq_true_eq]; omega)]
        exact k4 raw t _ _ _ sa st (small_of hk (by omega) h2)
theorem loop49a (j6 j8) (ps : List Pt) (n k : Int) (p : List UInt8) (a : List UInt8 × Unit) (b : El) (d : List Pt) (hp : p.length ≤ 90000) :
    iter 100000 (sh49_L9 j6 j8) (ps, n, k, p, (p.length : Int), 0, a, b, d, ()) = if conL p = true then j8 (ps, n, k, a, b, d, ()) else j6 (ps, n, k, true, a, b, d, ()) := by
  refine iter_list (F := sh49_L9 j6 j8) p (fun c => conB c.toNat) (fun q => (ps, n, k, p, (p.length : Int), (q : Int), a, b, d, ())) 100000 (by omega) (fun rc q hq => ?_) (fun rc => ?_)
  · simp only [sh49_L9, joinK]
    rw [if_pos (by simpa using hq), if_pos (inR_nat hq), sAt_get p q hq, e52, e53]
    simp only [sh49_K10, Option.bind_some, up1' hq, conB]
    obtain ⟨c, hc⟩ : ∃ c : Int, c = (p[q].toNat : Int) := ⟨_, rfl⟩
    simp only [← hc]
    cases letB c <;> cases digB c <;> cases (c == 32) <;> cases (c == 45) <;> cases (c == 43) <;> rfl
  · simp only [sh49_L9]
    rw [if_neg (by simp)]
theorem loop49b (j3) (ps : List Pt) (a : List UInt8 × Unit) (b : El) (d : List Pt) (hl : ps.length ≤ 90000) (hp : ∀ p ∈ ps, p.1.length ≤ 90000) :
    iter 100000 (sh49_L4 100000 j3) (ps, (ps.length : Int), 0, a, b, d, ()) = if (ps.all fun p => conL p.1) = true then j3 (a, b, d, ()) else some ((([], [], ()), false, ()), ()) := by
  refine iter_list (F := sh49_L4 100000 j3) ps (fun p => conL p.1) (fun q => (ps, (ps.length : Int), (q : Int), a, b, d, ())) 100000 (by omega) (fun rc q hq => ?_) (fun rc => ?_)
  · simp only [sh49_L4, joinK]
    rw [if_pos (by simpa using hq), if_pos (inR_nat hq), lAt_nat _ _ _ hq, loop49a _ _ ps _ _ ps[q].1 _ _ _ (hp _ (List.getElem_mem hq))]
    simp only [sh49_K7, sh49_K5, up1' hq]
    cases conL ps[q].1 <;> rfl
  · simp only [sh49_L4]
    rw [if_neg (by simp)]
/-- a line as an element -/
def elemP (s : List UInt8) : Option El := match s with
  | p :: k :: q :: r => if (p == 46 && (letB k.toNat && (q == 47 && (splitL 47 r).all conL))) = true then some ([k], (splitL 47 r).map (·, ()), ()) else none
  | _ => none
theorem splitL_len (c : UInt8) : ∀ (l : List UInt8), (splitL c l).length ≤ l.length + 1 ∧ ∀ p ∈ splitL c l, p.length ≤ l.length
  | [] => ⟨Nat.le_refl _, by simp [splitL]⟩
  | x :: r => by
    obtain ⟨h1, h2⟩ := splitL_len c r
    unfold splitL
    split
    · exact ⟨by simp only [List.length_cons]; omega, fun p hp => by rcases List.mem_cons.1 hp with rfl | hp; exact Nat.zero_le _; exact Nat.le_succ_of_le (h2 p hp)⟩
    · split
      · exact ⟨by simp, by simp⟩
      · rename_i y ys hy
        rw [hy] at h1 h2
        exact ⟨by simp only [List.length_cons] at h1 ⊢; omega, fun p hp => by
          rcases List.mem_cons.1 hp with rfl | hp
          · exact Nat.succ_le_succ (h2 y (List.mem_cons_self ..))
          · exact Nat.le_succ_of_le (h2 p (List.mem_cons_of_mem _ hp))⟩
theorem byte_eq (w : UInt8) (n : Nat) (hn : n < 256) : (((w.toNat : Int)) != (n : Int)) = !(w == UInt8.ofNat n) := by
  have : ((w.toNat : Int) = (n : Int)) ↔ w = UInt8.ofNat n := by
    constructor
    · intro h
      apply UInt8.toNat_inj.1
      rw [UInt8.toNat_ofNat', Nat.mod_eq_of_lt (by simpa using hn)]
      omega
    · rintro rfl
      rw [UInt8.toNat_ofNat', Nat.mod_eq_of_lt (by simpa using hn)]
  rw [Bool.eq_iff_iff]
  simp [this]
theorem e49 (s : List UInt8) (hs : s.length ≤ 50000) : sp49 (s, ()) = some ((match elemP s with | some e => (e, true, ()) | none => (([], [], ()), false, ())), ()) := by
  show sh49 100000 s = _
  match s, hs with
  | [], _ => rfl
  | [_], _ => rfl
  | [_, _], _ => rfl
  | p :: k :: q :: r, hs =>
    have hl : ((p :: k :: q :: r).length : Int) = (r.length : Int) + 3 := by simp; omega
    have bad : ∀ z, sh49_K0 100000 (p :: k :: q :: r, true, z) = some ((([], [], ()), false, ()), ()) := fun z => rfl
    unfold sh49
    simp only [joinK]
    rw [if_neg (by simp; omega), if_pos (by simp [inR]; omega)]
    have s0 : sAt (p :: k :: q :: r) 0 = (p.toNat : Int) := rfl
    have s1 : sAt (p :: k :: q :: r) 1 = (k.toNat : Int) := rfl
    have s2 : sAt (p :: k :: q :: r) 2 = (q.toNat : Int) := rfl
    rw [s0, s1, s2]
    have b1 := byte_eq p 46 (by decide)
    have b2 := byte_eq q 47 (by decide)
    have b1' : ((p.toNat : Int) != 46) = !(p == 46) := b1
    have b2' : ((q.toNat : Int) != 47) = !(q == 47) := b2
    rw [b1', b2', e52]
    simp only [Option.bind_some, elemP]
    cases p == 46 with
    | false => exact bad (([], ()), [], ())
    | true =>
      rw [if_neg (by decide), if_pos (by simp [inR]; omega)]
      cases letB (k.toNat : Int) with
      | false => exact bad (([], ()), [], ())
      | true =>
        rw [if_neg (by decide), if_pos (by simp [inR]; omega)]
        cases q == 47 with
        | false => exact bad (([], ()), [], ())
        | true =>
          simp only [sh49_K0]
          rw [if_neg (by decide), if_pos (by simp [inCut]; omega), if_pos (by simp [inCut]; omega)]
          have hc1 : cutL (p :: k :: q :: r) 1 2 = [k] := rfl
          have hc3 : cutL (p :: k :: q :: r) 3 ((p :: k :: q :: r).length : Int) = r := by
            show ((p :: k :: q :: r).drop 3).take _ = r
            rw [show (p :: k :: q :: r).drop 3 = r from rfl, List.take_of_length_le]
            rw [hl]; omega
          rw [hc1, hc3]
          simp only [List.length_cons] at hs
          obtain ⟨g1, g2⟩ := splitL_len 47 r
          have h56 : sp56 (r, [47], ()) = some ((splitL 47 r).map (·, ()), ()) := by
            simp only [sp56]
            rw [if_pos (by omega)]
          rw [h56, Option.bind_some]
          simp only [joinK]
          rw [loop49b _ ((splitL 47 r).map (·, ())) _ _ _ (by rw [List.length_map]; omega) (fun x hx => by
            obtain ⟨y, hy, rfl⟩ := List.mem_map.1 hx
            have := g2 y hy
            simp only; omega)]
          rw [List.all_map]
          have e : ((fun p : Pt => conL p.1) ∘ fun x => (x, ())) = conL := rfl
          rw [e]
          cases (splitL 47 r).all conL <;> rfl
abbrev PR := Tel × Int × Int × Unit
def badP (line e : Int) : PR := (([], [], [], ()), line, e, ())
/-- what Parse does, line by line -/
def pT : Nat → List UInt8 → Int → Bool → List UInt8 → List UInt8 → List El → PR
  | 0, _, line, _, _, _, _ => badP line 3
  | n + 1, s, line, ended, kd, ch, es =>
    if s = [] then (if ended = true then ((kd, ch, es, ()), 0, 0, ()) else badP line 3)
    else if (!(Lib.cut s [10]).2.2 || ended) = true then badP line 3
    else if (decide (1 < line) && (Lib.cut s [10]).1 == [69, 78, 68] ++ kd) = true then pT n (Lib.cut s [10]).2.1 (line + 1) true kd ch es
    else if line = 1 then (if ((Lib.cut s [10]).1.length = 3 ∧ letL (Lib.cut s [10]).1 = true) then pT n (Lib.cut s [10]).2.1 (line + 1) ended (Lib.cut s [10]).1 ch es else badP line 3)
    else if (decide (line = 2) && ((Lib.cut s [10]).1 == [67, 72, 71] || (Lib.cut s [10]).1 == [68, 69, 76])) = true then pT n (Lib.cut s [10]).2.1 (line + 1) ended kd (Lib.cut s [10]).1 es
    else match elemP (Lib.cut s [10]).1 with
      | none => badP line 3
      | some e => if (largeB e.2.1 || decide (es.length = 24)) = true then badP line 2 else pT n (Lib.cut s [10]).2.1 (line + 1) ended kd ch (es ++ [e])
theorem cut_le (s : List UInt8) : (Lib.cut s [10]).1.length ≤ s.length ∧ (Lib.cut s [10]).2.1.length ≤ s.length ∧ (s ≠ [] → (Lib.cut s [10]).2.1.length < s.length) := by
  unfold Lib.cut
  split
  · refine ⟨by simp only [List.length_take]; omega, by simp only [List.length_drop]; omega, fun h => ?_⟩
    have := List.length_pos_iff.2 h
    simp only [List.length_drop, List.length_cons, List.length_nil]; omega
  · exact ⟨Nat.le_refl _, Nat.zero_le _, fun h => List.length_pos_iff.2 h⟩
theorem e31c (s : List UInt8) : sp31 (s, [10], ()) = some (((Lib.cut s [10]).1, (Lib.cut s [10]).2.1, (Lib.cut s [10]).2.2, ()), ()) := rfl
theorem iter18 : ∀ (n m : Nat) (s : List UInt8) (line : Int) (ended : Bool) (kd ch : List UInt8) (es : List El), s.length < n → n ≤ m → s.length ≤ 5000 → kd.length ≤ 5000 → es.length ≤ 24 → 1 ≤ line → line + s.length ≤ 1000000 →
    iter m (sh18_L2 sh18_K0) (s, line, ended, (kd, ch, ()), es, ()) = some (pT n s line ended kd ch es, ())
  | 0, m, s, line, ended, kd, ch, es, h, _, _, _, _, _, _ => absurd h (Nat.not_lt_zero _)
  | n + 1, 0, s, line, ended, kd, ch, es, _, h, _, _, _, _, _ => absurd h (by omega)
  | n + 1, m + 1, s, line, ended, kd, ch, es, hn, hm, hs, hk, he, hl, hls => by
    rw [iter_succ]
    simp only [sh18_L2, pT]
    by_cases h0 : s = []
    · rw [if_neg (by simp [h0]), if_pos h0]
      simp only [sh18_K0]
      cases ended <;> rfl
    rw [if_pos (by simpa using h0), if_neg h0, e31c]
    obtain ⟨c1, c2, c3⟩ := cut_le s
    have c3 := c3 h0
    obtain ⟨now, hnow⟩ : ∃ x, x = (Lib.cut s [10]).1 := ⟨_, rfl⟩
    obtain ⟨rest, hrest⟩ : ∃ x, x = (Lib.cut s [10]).2.1 := ⟨_, rfl⟩
    obtain ⟨ok, hok⟩ : ∃ x, x = (Lib.cut s [10]).2.2 := ⟨_, rfl⟩
    simp only [← hnow, ← hrest, ← hok, Option.bind_some, joinK] at c1 c2 c3 ⊢
    have ih := fun (e' : Bool) (k' c' : List UInt8) (es' : List El) (h1 : k'.length ≤ 5000) (h2 : es'.length ≤ 24) => iter18 n m rest (line + 1) e' k' c' es' (by omega) (by omega) (by omega) h1 h2 (by omega) (by omega)
    have w1 : IntKind.i64.wrap (line + 1) = line + 1 := wrapI (by omega) (by omega)
    cases ok with
    | false => rfl
    | true =>
      rw [if_neg (by decide)]
      simp only [sh18_K6, Bool.not_true, Bool.false_or]
      cases ended with
      | true => rfl
      | false =>
        rw [if_neg (by decide), if_neg (by decide)]
        simp only [joinK, sh18_K7]
        have hlim : decide ([69, 78, 68].length + kd.length ≤ lim) = true := dlim (by simp only [List.length_cons, List.length_nil]; omega)
        have A : ∀ (k' c' : List UInt8) (es' : List El), k'.length ≤ 5000 → es'.length ≤ 24 → sh18_K8 (sh18_K4 (iter m (sh18_L2 sh18_K0))) (line, 0, false, rest, (k', c', ()), es', ()) = some (pT n rest (line + 1) false k' c' es', ()) := fun k' c' es' h1 h2 => by
          simp only [sh18_K8, sh18_K4, w1]
          rw [if_neg (by decide)]
          exact ih false k' c' es' h1 h2
        have elt : sh18_K11 (sh18_K8 (sh18_K4 (iter m (sh18_L2 sh18_K0)))) (line, false, rest, now, false, (kd, ch, ()), es, ()) =
            some ((match elemP now with | none => badP line 3 | some e => if (largeB e.2.1 || decide (es.length = 24)) = true then badP line 2 else pT n rest (line + 1) false kd ch (es ++ [e])), ()) := by
          simp only [sh18_K11]
          rw [if_neg (by decide), e49 now (by omega), Option.bind_some]
          cases elemP now with
          | none => rfl
          | some e =>
            simp only [joinK]
            rw [if_neg (by decide), e28, Option.bind_some]
            simp only
            cases largeB e.2.1 with
            | true => rfl
            | false =>
              rw [if_neg (by decide)]
              simp only [sh18_K13, Bool.false_or]
              by_cases h24 : es.length = 24
              · rw [if_pos (by simp [h24]), if_pos (by simp [h24])]
                rfl
              · rw [if_neg (by simp; omega), if_pos (dlim (by omega)), if_pos (dlim (by omega)), if_neg (by simpa using h24)]
                exact A kd ch (es ++ [e]) hk (by simp only [List.length_append, List.length_cons, List.length_nil]; omega)
        by_cases h1 : 1 < line
        · rw [if_pos (decide_eq_true h1), if_pos hlim, decide_eq_true h1, Bool.true_and]
          by_cases hE : (now == [69, 78, 68] ++ kd) = true
          · rw [if_pos hE, if_pos hE]
            simp only [sh18_K4, w1]
            exact ih true kd ch es hk he
          rw [if_neg hE, if_neg hE, if_neg (by simp; omega), if_neg (show ¬ line = 1 by omega)]
          by_cases h2 : line = 2
          · rw [if_pos (by simp [h2]), e41, Option.bind_some, decide_eq_true h2, Bool.true_and]
            simp only
            cases (now == [67, 72, 71] || now == [68, 69, 76]) with
            | true => exact A kd now es hk he
            | false => rw [if_neg (by decide)]; exact elt
          · rw [if_neg (by simpa using h2), decide_eq_false h2, Bool.false_and, if_neg (by decide)]
            exact elt
        · have hl1 : line = 1 := by omega
          rw [if_neg (by simpa using h1), if_neg (by decide), if_pos (by simp [hl1]), decide_eq_false h1, Bool.false_and, if_neg (by decide), if_pos hl1, e40 _ 3 3 (by decide), Option.bind_some]
          simp only
          by_cases hc : now.length = 3 ∧ letL now = true
          · rw [if_pos hc, hc.2, hc.1]
            exact A now ch es (by omega) he
          · rw [if_neg hc]
            have : (decide ((3 : Int) ≤ (now.length : Int)) && decide ((now.length : Int) ≤ 3) && letL now) = false := by
              rw [Bool.eq_false_iff]
              intro hh
              simp only [Bool.and_eq_true, decide_eq_true_eq] at hh
              exact hc ⟨by omega, hh.2⟩
            rw [this]
            rfl
theorem e18 (s : List UInt8) : sp18 (s, ()) = some (if 2048 < s.length then badP 0 2 else pT 5000 s 1 false [] [] [], ()) := by
  show sh18 100000 s = _
  unfold sh18
  by_cases h : 2048 < s.length
  · rw [if_pos (decide_eq_true (by omega)), if_pos h]; rfl
  · rw [if_neg (by simp; omega), if_neg h]
    simp only [joinK]
    exact iter18 5000 100000 s 1 false [] [] [] (by omega) (by omega) (by omega) (by simp) (by simp) (by omega) (by omega)
noncomputable def lim5 (v : Int) : Option (Bool × Unit) := joinK (sh5_K1 100000) fun j16 => iter 100000 (sh5_L17 j16) (IntKind.i64.wrap (v - 1), 0, ([66, 83, 77], [], ()), [], ())
theorem lim5_0 : lim5 0 = some (true, ()) := by kernel_rfl
theorem lim5_1 : lim5 1 = some (true, ()) := by kernel_rfl
theorem lim5_2 : lim5 2 = some (true, ()) := by kernel_rfl
theorem law5 (x : Int × Unit) : sp5 x = some (true, ()) := by
  obtain ⟨n, ⟨⟩⟩ := x
  obtain ⟨v, hv, v1, v2⟩ := e19 n 3 (by decide) (by decide)
  show sh5 100000 n = _
  unfold sh5
  rw [hv, Option.bind_some]
  show lim5 v = _
  obtain rfl | rfl | rfl : v = 0 ∨ v = 1 ∨ v = 2 := by omega
  · exact lim5_0
  · exact lim5_1
  · exact lim5_2
theorem ix_line : ∀ (l r : List UInt8), (10 : UInt8) ∉ l → Lib.indexByte (l ++ 10 :: r) 10 = (l.length : Int)
  | [], r, _ => rfl
  | x :: l, r, h => by
    simp only [List.mem_cons, not_or] at h
    have ih := ix_line l r h.2
    have hx : (x == (10 : UInt8)) = false := by simpa using fun e => h.1 e.symm
    show (if (x == (10 : UInt8)) = true then (0 : Int) else if (Lib.indexByte (l ++ 10 :: r) 10 == -1) = true then -1 else Lib.indexByte (l ++ 10 :: r) 10 + 1) = _
    rw [hx, ih, if_neg (by decide), if_neg (by simp)]
    simp
theorem ix_none : ∀ (l : List UInt8), (10 : UInt8) ∉ l → Lib.indexByte l 10 = -1
  | [], _ => rfl
  | x :: l, h => by
    simp only [List.mem_cons, not_or] at h
    have ih := ix_none l h.2
    have hx : (x == (10 : UInt8)) = false := by simpa using fun e => h.1 e.symm
    show (if (x == (10 : UInt8)) = true then (0 : Int) else if (Lib.indexByte l 10 == -1) = true then -1 else Lib.indexByte l 10 + 1) = _
    rw [hx, ih]; rfl
theorem cut_line (l r : List UInt8) (h : (10 : UInt8) ∉ l) : Lib.cut (l ++ 10 :: r) [10] = (l, r, true) := by
  unfold Lib.cut
  rw [Lib.index_one, ix_line l r h, if_pos (by omega)]
  simp
theorem cut_none (l : List UInt8) (h : (10 : UInt8) ∉ l) : Lib.cut l [10] = (l, [], false) := by
  unfold Lib.cut
  rw [Lib.index_one, ix_none l h, if_neg (by decide)]
/-- every text is without a line's end, or a line and the rest -/
theorem line_or (s : List UInt8) : (10 : UInt8) ∉ s ∨ ∃ l r, (10 : UInt8) ∉ l ∧ s = l ++ 10 :: r := by
  induction s with
  | nil => exact .inl (by simp)
  | cons x s ih =>
    by_cases hx : x = 10
    · subst hx; exact .inr ⟨[], s, by simp, rfl⟩
    · rcases ih with h | ⟨l, r, h1, h2⟩
      · exact .inl (by simp only [List.mem_cons, not_or]; exact ⟨fun e => hx e.symm, h⟩)
      · exact .inr ⟨x :: l, r, by simp only [List.mem_cons, not_or]; exact ⟨fun e => hx e.symm, h1⟩, by rw [h2]; rfl⟩
/-- pieces and what they are pieces of -/
theorem split_join (c : UInt8) : ∀ (s : List UInt8), Lib.join (splitL c s) [c] = s ∧ splitL c s ≠ []
  | [] => ⟨by simp [splitL, Lib.join_one], by simp [splitL]⟩
  | x :: r => by
    obtain ⟨h1, h2⟩ := split_join c r
    unfold splitL
    match hs : splitL c r, h2 with
    | y :: ys, _ =>
      rw [hs] at h1
      by_cases hx : x = c
      · subst hx
        rw [if_pos rfl]
        refine ⟨?_, by simp⟩
        rw [Lib.join_cons] at h1 ⊢
        simp only [Lib.joinTail, List.map_cons, List.flatten_cons, List.nil_append] at h1 ⊢
        rw [List.append_assoc, h1]; rfl
      · rw [if_neg hx]
        refine ⟨?_, by simp⟩
        rw [Lib.join_cons] at h1 ⊢
        rw [List.cons_append, h1]
theorem good_el {e : El} (h : goodE e) : elB e = true ∧ largeB e.2.1 = false := by
  obtain ⟨h1, h2, h3, h4, h5⟩ := h
  constructor
  · simp only [elB, Bool.and_eq_true, decide_eq_true_eq, Bool.not_eq_true', beq_eq_false_iff_ne]
    refine ⟨⟨⟨by omega, by omega⟩, h2⟩, by omega, List.all_eq_true.2 fun p hp => (h5 p hp).1⟩
  · simp only [largeB, Bool.or_eq_false_iff, decide_eq_false_iff_not]
    refine ⟨by omega, List.any_eq_false.2 fun p hp => ?_⟩
    have := (h5 p hp).2
    simp only [decide_eq_true_eq]; omega
theorem good_shape {t : Tel} (h : GoodT t) : shapeB t = true := by
  simp only [shapeB, Bool.and_eq_true, Bool.or_eq_true, beq_iff_eq]
  refine ⟨?_, h.chg, List.all_eq_true.2 fun e he => (good_el (h.el e he)).1⟩
  rcases h.kind with e | e | e <;> rw [e] <;> decide
theorem good_len {t : Tel} (h : GoodT t) : (textL t).length ≤ 2048 := by
  rw [← textR_eq (good_shape h)]
  have h1 : t.1.length = 3 := by rcases h.kind with e | e | e <;> rw [e] <;> rfl
  have h2 : t.2.1.length ≤ 3 := by rcases h.chg with e | e | e <;> rw [e] <;> decide
  have hn := h.els
  have h3 : (t.2.2.1.map elemR).flatten.length ≤ 66 * 4 := by
    refine Nat.le_trans (flat_le 66 _ fun x hx => ?_) (by rw [List.length_map]; omega)
    obtain ⟨e, he, rfl⟩ := List.mem_map.1 hx
    obtain ⟨k1, k2, k3, k4, k5⟩ := h.el e he
    have k6 : (partsR e.2.1).length ≤ 21 * e.2.1.length := by
      have := flat_le 21 (e.2.1.map fun p => [47] ++ p.1) fun x hx => by
        obtain ⟨p, hp, rfl⟩ := List.mem_map.1 hx
        have := (k5 p hp).2
        simp only [List.length_append, List.length_cons, List.length_nil]; omega
      rwa [List.length_map] at this
    simp only [elemR, List.length_append, List.length_cons, List.length_nil]
    omega
  simp only [textR, headL, List.length_append, List.length_cons, List.length_nil]
  split <;> simp only [List.length_append, List.length_cons, List.length_nil] <;> omega
theorem good_valid {t : Tel} (h : GoodT t) : validB t = 0 := by
  have hn := h.els
  have hl := good_len h
  unfold validB
  rw [if_pos (good_shape h), if_neg (by omega), if_pos (List.all_eq_true.2 fun e he => by rw [(good_el (h.el e he)).2]; rfl), if_neg (by omega)]
theorem good_fmt {t : Tel} (h : GoodT t) : fmtB t = (textL t, 0, ()) := by unfold fmtB; rw [if_pos (good_valid h)]
theorem splitL_none (c : UInt8) : ∀ p : List UInt8, c ∉ p → splitL c p = [p]
  | [], _ => rfl
  | x :: p, h => by
    simp only [List.mem_cons, not_or] at h
    have hx : x ≠ c := fun e => h.1 e.symm
    simp only [splitL, if_neg hx, splitL_none c p h.2]
theorem splitL_app (c : UInt8) : ∀ (p s : List UInt8), c ∉ p → splitL c (p ++ c :: s) = p :: splitL c s
  | [], s, _ => by simp [splitL]
  | x :: p, s, h => by
    simp only [List.mem_cons, not_or] at h
    have hx : x ≠ c := fun e => h.1 e.symm
    simp only [List.cons_append, splitL, if_neg hx, splitL_app c p s h.2]
theorem split_of_join (c : UInt8) : ∀ (r : List (List UInt8)) (p : List UInt8), (∀ q ∈ p :: r, c ∉ q) → splitL c (Lib.join (p :: r) [c]) = p :: r
  | [], p, h => by rw [Lib.join_one]; exact splitL_none c p (h p (List.mem_cons_self ..))
  | q :: r, p, h => by
    have ih := split_of_join c r q fun x hx => h x (List.mem_cons_of_mem _ hx)
    have e : Lib.join (p :: q :: r) [c] = p ++ c :: Lib.join (q :: r) [c] := by
      rw [Lib.join_cons, Lib.join_cons]
      simp [Lib.joinTail]
    rw [e, splitL_app c p _ (h p (List.mem_cons_self ..)), ih]
theorem con_no {p : List UInt8} (h : conL p = true) : (47 : UInt8) ∉ p ∧ (10 : UInt8) ∉ p := by
  constructor <;> (intro hm; have := List.all_eq_true.1 h _ hm; revert this; decide)
def lineOf (e : El) : List UInt8 := (([46] ++ e.1) ++ [47]) ++ Lib.join (e.2.1.map (·.1)) [47]
theorem elemL_line (e : El) : elemL e = lineOf e ++ [10] := rfl
theorem join_mem {x : UInt8} {p : List UInt8} {r : List (List UInt8)} (h : x ∈ Lib.join (p :: r) [47]) : x = 47 ∨ ∃ q ∈ p :: r, x ∈ q := by
  rw [Lib.join_cons, List.mem_append] at h
  rcases h with h | h
  · exact .inr ⟨p, List.mem_cons_self .., h⟩
  · simp only [Lib.joinTail, List.mem_flatten, List.mem_map] at h
    obtain ⟨l, ⟨q, hq, rfl⟩, hx⟩ := h
    rcases List.mem_append.1 hx with hx | hx
    · exact .inl (by simpa using hx)
    · exact .inr ⟨q, List.mem_cons_of_mem _ hq, hx⟩
theorem elem_back {e : El} (h : elB e = true) : elemP (lineOf e) = some e ∧ (10 : UInt8) ∉ lineOf e := by
  obtain ⟨h1, h2, h3, h4⟩ := el_spec h
  obtain ⟨key, ps, ⟨⟩⟩ := e
  match key, h1 with
  | [k], _ =>
    match ps, h3 with
    | p :: r, _ =>
      have hk : letB (k.toNat : Int) = true := by simpa [letL] using h2
      have hs : splitL 47 (Lib.join (p.1 :: r.map (·.1)) [47]) = p.1 :: r.map (·.1) := split_of_join 47 _ _ fun q hq => by
        rcases List.mem_cons.1 hq with rfl | hq
        · exact (con_no (h4 p (List.mem_cons_self ..))).1
        · obtain ⟨q', hq', rfl⟩ := List.mem_map.1 hq
          exact (con_no (h4 q' (List.mem_cons_of_mem _ hq'))).1
      have hall : (p.1 :: r.map (·.1)).all conL = true := by
        rw [List.all_eq_true]
        intro q hq
        rcases List.mem_cons.1 hq with rfl | hq
        · exact h4 p (List.mem_cons_self ..)
        · obtain ⟨q', hq', rfl⟩ := List.mem_map.1 hq
          exact h4 q' (List.mem_cons_of_mem _ hq')
      constructor
      · show (if ((46 : UInt8) == 46 && (letB k.toNat && ((47 : UInt8) == 47 && (splitL 47 (Lib.join (p.1 :: r.map (·.1)) [47])).all conL))) = true then some ([k], (splitL 47 (Lib.join (p.1 :: r.map (·.1)) [47])).map (·, ()), ()) else none) = _
        rw [hs, hall, hk, if_pos (by decide)]
        have e2 : (r.map (·.1)).map (fun x : List UInt8 => (x, ())) = r := by rw [List.map_map]; exact List.map_id' r
        rw [List.map_cons, e2]
      · intro hm
        have hm : (10 : UInt8) ∈ 46 :: k :: 47 :: Lib.join (p.1 :: r.map (·.1)) [47] := hm
        rcases List.mem_cons.1 hm with e | hm
        · revert e; decide
        rcases List.mem_cons.1 hm with e | hm
        · rw [← e] at hk; revert hk; decide
        rcases List.mem_cons.1 hm with e | hm
        · revert e; decide
        rcases join_mem hm with e | ⟨q, hq, hx⟩
        · revert e; decide
        · rcases List.mem_cons.1 hq with rfl | hq
          · exact (con_no (h4 p (List.mem_cons_self ..))).2 hx
          · obtain ⟨q', hq', rfl⟩ := List.mem_map.1 hq
            exact (con_no (h4 q' (List.mem_cons_of_mem _ hq'))).2 hx
theorem line_ne (e : El) (x : UInt8) (l : List UInt8) (hx : x ≠ 46) : (lineOf e == x :: l) = false := by
  rw [beq_eq_false_iff_ne]
  intro h
  have : (46 : UInt8) = x := by
    have h2 : (46 : UInt8) :: ((e.1 ++ [47]) ++ Lib.join (e.2.1.map (·.1)) [47]) = x :: l := by rw [← h]; simp [lineOf]
    exact (List.cons.inj h2).1
  exact hx this.symm
/-- lines of elements are read one after another -/
theorem pT_els (kd ch : List UInt8) : ∀ (es dn : List El) (n : Nat) (line : Int) (rest : List UInt8), (∀ e ∈ es, elB e = true ∧ largeB e.2.1 = false) → dn.length + es.length ≤ 24 → 2 ≤ line →
    pT (n + es.length) ((es.map elemL).flatten ++ rest) line false kd ch dn = pT n rest (line + es.length) false kd ch (dn ++ es)
  | [], dn, n, line, rest, _, _, _ => by simp
  | e :: es, dn, n, line, rest, h, hn, hl => by
    obtain ⟨h1, h2⟩ := h e (List.mem_cons_self ..)
    obtain ⟨b1, b2⟩ := elem_back h1
    simp only [List.length_cons] at hn
    have ih := pT_els kd ch es (dn ++ [e]) n (line + 1) rest (fun x hx => h x (List.mem_cons_of_mem _ hx)) (by simp only [List.length_append, List.length_cons, List.length_nil]; omega) (by omega)
    have hs : ((e :: es).map elemL).flatten ++ rest = lineOf e ++ 10 :: ((es.map elemL).flatten ++ rest) := by simp [elemL_line]
    rw [hs, List.length_cons, ← Nat.add_assoc]
    simp only [pT]
    rw [if_neg (by simp), cut_line _ _ b2]
    simp only
    rw [if_neg (by decide)]
    have c1 : (lineOf e == [69, 78, 68] ++ kd) = false := line_ne e 69 _ (by decide)
    have c2 : (lineOf e == [67, 72, 71]) = false := line_ne e 67 _ (by decide)
    have c3 : (lineOf e == [68, 69, 76]) = false := line_ne e 68 _ (by decide)
    rw [c1, c2, c3, Bool.and_false, if_neg (by decide), if_neg (show ¬ line = 1 by omega), Bool.or_false, Bool.and_false, if_neg (by decide), b1]
    simp only
    rw [h2, Bool.false_or, if_neg (by simp only [decide_eq_true_eq]; omega), ih]
    congr 1
    · omega
    · simp
theorem pT_end (n : Nat) (line : Int) (kd ch : List UInt8) (es : List El) (hl : 2 ≤ line) (hk : (10 : UInt8) ∉ kd) : pT (n + 2) (([69, 78, 68] ++ kd) ++ [10]) line false kd ch es = ((kd, ch, es, ()), 0, 0, ()) := by
  have h10 : (10 : UInt8) ∉ [69, 78, 68] ++ kd := by
    intro h
    rcases List.mem_append.1 h with h | h
    · revert h; decide
    · exact hk h
  have e : ([69, 78, 68] ++ kd) ++ [10] = ([69, 78, 68] ++ kd) ++ 10 :: [] := rfl
  rw [e]
  simp only [pT]
  rw [if_neg (by simp), cut_line _ _ h10]
  simp only
  rw [if_neg (by decide), if_pos (by simp; omega), if_pos trivial, if_pos trivial]
theorem pT_body (n : Nat) (line : Int) (kd ch : List UInt8) (es : List El) (h : ∀ e ∈ es, elB e = true ∧ largeB e.2.1 = false) (hn : es.length ≤ 24) (hl : 2 ≤ line) (hk : (10 : UInt8) ∉ kd) :
    pT (n + 2 + es.length) ((es.map elemL).flatten ++ (([69, 78, 68] ++ kd) ++ [10])) line false kd ch [] = ((kd, ch, es, ()), 0, 0, ()) := by
  rw [pT_els kd ch es [] (n + 2) line _ h (by simpa using hn) hl, List.nil_append, pT_end n _ kd ch es (by omega) hk]
theorem pT_first (n : Nat) (kd r : List UInt8) (k1 : kd.length = 3) (k2 : letL kd = true) (k3 : (10 : UInt8) ∉ kd) : pT (n + 1) (kd ++ 10 :: r) 1 false [] [] [] = pT n r 2 false kd [] [] := by
  simp only [pT]
  rw [if_neg (by simp), cut_line _ _ k3]
  simp only
  rw [if_neg (by decide), if_neg (by simp), if_pos trivial, if_pos ⟨k1, k2⟩]
  rfl
theorem pT_change (n : Nat) (kd ch r : List UInt8) (c1 : (ch == [67, 72, 71] || ch == [68, 69, 76]) = true) (c2 : (10 : UInt8) ∉ ch) (c3 : (ch == [69, 78, 68] ++ kd) = false) : pT (n + 1) (ch ++ 10 :: r) 2 false kd [] [] = pT n r 3 false kd ch [] := by
  simp only [pT]
  rw [if_neg (by simp), cut_line _ _ c2]
  simp only
  rw [if_neg (by decide), c3, Bool.and_false, if_neg (by decide), if_neg (by decide), c1, if_pos (by decide)]
  rfl
/-- a good telegram is read back -/
theorem pT_good {t : Tel} (h : GoodT t) : pT 5000 (textL t) 1 false [] [] [] = (t, 0, 0, ()) := by
  obtain ⟨kd, ch, es, ⟨⟩⟩ := t
  have hn : es.length ≤ 4 := h.els
  have hb : ∀ e ∈ es, elB e = true ∧ largeB e.2.1 = false := fun e he => good_el (h.el e he)
  have hk : kd.length = 3 ∧ letL kd = true ∧ (10 : UInt8) ∉ kd := by rcases h.kind with e | e | e <;> (simp only at e; subst e; exact ⟨rfl, by decide, by decide⟩)
  obtain ⟨k1, k2, k3⟩ := hk
  by_cases hc : ch = []
  · subst hc
    have e : textL (kd, [], es, ()) = kd ++ 10 :: ((es.map elemL).flatten ++ (([69, 78, 68] ++ kd) ++ [10])) := by simp [textL, headL]
    rw [e, show (5000 : Nat) = ((4997 - es.length) + 2 + es.length) + 1 by omega, pT_first _ _ _ k1 k2 k3]
    exact pT_body _ 2 kd [] es hb (by omega) (by omega) k3
  · have hch : (ch == [67, 72, 71] || ch == [68, 69, 76]) = true ∧ (10 : UInt8) ∉ ch ∧ (ch == [69, 78, 68] ++ kd) = false := by
      rcases h.chg with e | e | e
      · exact absurd e hc
      · simp only at e; subst e; exact ⟨rfl, by decide, rfl⟩
      · simp only at e; subst e; exact ⟨rfl, by decide, rfl⟩
    obtain ⟨c1, c2, c3⟩ := hch
    have e : textL (kd, ch, es, ()) = kd ++ 10 :: (ch ++ 10 :: ((es.map elemL).flatten ++ (([69, 78, 68] ++ kd) ++ [10]))) := by simp [textL, headL, hc]
    rw [e, show (5000 : Nat) = (((4996 - es.length) + 2 + es.length) + 1) + 1 by omega, pT_first _ _ _ k1 k2 k3, pT_change _ _ _ _ c1 c2 c3]
    exact pT_body _ 3 kd ch es hb (by omega) (by omega) k3
/-- a beginning of a text that is read: the line that is not complete -/
theorem pT_begin : ∀ (n : Nat) (a b : List UInt8) (line : Int) (ended : Bool) (kd ch : List UInt8) (es : List El) (t : Tel) (x : Int), b ≠ [] → pT n (a ++ b) line ended kd ch es = (t, x, 0, ()) →
    pT n a line ended kd ch es = badP (line + (a.count 10 : Nat)) 3
  | 0, a, b, line, ended, kd, ch, es, t, x, hb, h => by
    have h3 : (3 : Int) = 0 := congrArg (fun z : PR => z.2.2.1) h
    exact absurd h3 (by decide)
  | n + 1, a, b, line, ended, kd, ch, es, t, x, hb, h => by
    have nb : ∀ (l e : Int), e ≠ 0 → badP l e = (t, x, 0, ()) → False := fun l e he hh => he (congrArg (fun z : PR => z.2.2.1) hh)
    have hab : a ++ b ≠ [] := fun e => hb (List.append_eq_nil_iff.1 e).2
    rcases line_or a with h10 | ⟨l, r, hl, rfl⟩
    · have hc : a.count 10 = 0 := List.count_eq_zero.2 h10
      rw [hc]
      simp only [pT] at h ⊢
      rw [if_neg hab] at h
      by_cases ha : a = []
      · subst ha
        rw [if_pos rfl]
        cases ended with
        | true => rw [if_pos (by simp)] at h; exact absurd h fun hh => nb _ _ (by decide) hh
        | false => rw [if_neg (by decide)]; simp
      · rw [if_neg ha, cut_none a h10, if_pos (by rfl)]; simp
    · have hc : (l ++ 10 :: r).count 10 = r.count 10 + 1 := by
        rw [List.count_append, List.count_eq_zero.2 hl, List.count_cons_self, Nat.zero_add]
      have e1 : (l ++ 10 :: r) ++ b = l ++ 10 :: (r ++ b) := by simp
      rw [e1] at h hab
      have hne : l ++ 10 :: r ≠ [] := by simp
      rw [hc]
      have ih := fun (e' : Bool) (k' c' : List UInt8) (es' : List El) (hh : pT n (r ++ b) (line + 1) e' k' c' es' = (t, x, 0, ())) => pT_begin n r b (line + 1) e' k' c' es' t x hb hh
      have eq : line + ((r.count 10 + 1 : Nat) : Int) = (line + 1) + (r.count 10 : Nat) := by omega
      rw [eq]
      simp only [pT] at h ⊢
      rw [if_neg hab, cut_line _ _ hl] at h
      rw [if_neg hne, cut_line _ _ hl]
      simp only at h ⊢
      split at h
      · exact (nb _ _ (by decide) h).elim
      rename_i c1
      rw [if_neg c1]
      split at h
      · rename_i c2
        rw [if_pos c2]; exact ih _ _ _ _ h
      rename_i c2
      rw [if_neg c2]
      split at h
      · rename_i c3
        rw [if_pos c3]
        split at h
        · rename_i c4
          rw [if_pos c4]; exact ih _ _ _ _ h
        · exact (nb _ _ (by decide) h).elim
      rename_i c3
      rw [if_neg c3]
      split at h
      · rename_i c4
        rw [if_pos c4]; exact ih _ _ _ _ h
      rename_i c4
      rw [if_neg c4]
      revert h
      cases elemP l with
      | none => exact fun h => (nb _ _ (by decide) h).elim
      | some e =>
        intro h
        simp only at h ⊢
        split at h
        · exact (nb _ _ (by decide) h).elim
        · rename_i c5
          rw [if_neg c5]; exact ih _ _ _ _ h
theorem count_snoc (s : List UInt8) (k : Nat) (h : k < s.length) : (s.take (k + 1)).count 10 = (s.take k).count 10 + if s[k] = 10 then 1 else 0 := by
  rw [List.take_add_one, List.getElem?_eq_getElem h, List.count_append]
  congr 1
  simp only [Option.toList, List.count_cons, List.count_nil, Nat.zero_add, beq_iff_eq]
theorem law4 (x : List (Int × Unit) × Unit) : sp4 x = some (true, ()) := by
  obtain ⟨l, ⟨⟩⟩ := x
  obtain ⟨s1, hs1, k1⟩ := e10 l
  obtain ⟨t, s2, ht, gt, k2⟩ := e11 k1
  show sh4 100000 l = _
  unfold sh4
  rw [hs1, Option.bind_some, show sp11 ((s1.1, s1.2.1, ()), ()) = _ from ht, Option.bind_some]
  simp only [joinK]
  rw [show sp15 ((t.1, t.2.1, t.2.2.1, ()), ()) = _ from e15 t (good_small gt), good_fmt gt, Option.bind_some]
  simp only
  have hl := good_len gt
  have hg := pT_good gt
  obtain ⟨s, hs⟩ : ∃ s, s = textL t := ⟨_, rfl⟩
  have hpos : 0 < s.length := by rw [hs]; simp only [textL, List.length_append, List.length_cons]; omega
  simp only [← hs] at hl hg ⊢
  have e0 : (s, (1 : Int), (0 : Int), ()) = (fun k : Nat => (s, 1 + (((s.take k).count 10 : Nat) : Int), (k : Int), ())) 0 := by simp
  rw [e0]
  refine iter_count (F := sh4_L8 sh4_K3) (fun k : Nat => (s, 1 + (((s.take k).count 10 : Nat) : Int), (k : Int), ())) s.length 100000 (by omega) (fun rc k hk => ?_) (fun rc => ?_)
  · have hcut : inCut 0 (k : Int) s.length = true := inCut_nat (a := 0) (Nat.zero_le _) (by omega)
    have hc : cutL s 0 (k : Int) = s.take k := by simp [cutL]
    have hb : s.drop k ≠ [] := fun e => by have := congrArg List.length e; rw [List.length_drop] at this; simp only [List.length_nil] at this; omega
    have hp : pT 5000 (s.take k) 1 false [] [] [] = badP (1 + ((s.take k).count 10 : Nat)) 3 := pT_begin 5000 (s.take k) (s.drop k) 1 false [] [] [] t 0 hb (by rw [List.take_append_drop]; exact hg)
    have hcnt : (s.take k).count 10 ≤ (s.take k).length := List.count_le_length
    rw [List.length_take] at hcnt
    simp only [sh4_L8, joinK]
    rw [if_pos (by simpa using hk), if_pos hcut, hc, e18, if_neg (by rw [List.length_take]; omega), hp, Option.bind_some]
    refine (show _ = sh4_K12 (sh4_K9 rc) (s, 1 + (((s.take k).count 10 : Nat) : Int), (k : Int), (1 + (((s.take k).count 10 : Nat) : Int) != 1 + (((s.take k).count 10 : Nat) : Int)), ()) from rfl).trans ?_
    simp only [sh4_K12, sh4_K9]
    rw [if_neg (by simp), if_pos (inR_nat hk), sAt_get s k hk, up1' hk, count_snoc s k hk]
    by_cases h10 : s[k] = 10
    · have hq : ((s[k].toNat : Int) == 10) = true := by rw [h10]; rfl
      rw [if_pos hq, if_pos h10, wrapI (by omega) (by omega)]
      rw [show (1 : Int) + (((s.take k).count 10 : Nat) : Int) + 1 = 1 + ((((s.take k).count 10 + 1 : Nat)) : Int) by omega]
    · have hq : ¬ ((s[k].toNat : Int) == 10) = true := fun hh => by
        have hh2 : (s[k].toNat : Int) = 10 := by simpa using hh
        apply h10
        apply UInt8.toNat_inj.1
        show s[k].toNat = 10
        omega
      rw [if_neg hq, if_neg h10]; rfl
  · simp only [sh4_L8]
    rw [if_neg (by simp)]
    simp only [sh4_K3, joinK, sh4_K4]
    rw [if_pos (by simpa using hpos), e9]; rfl
theorem elem_read {l : List UInt8} {e : El} (h : elemP l = some e) : lineOf e = l ∧ elB e = true := by
  match l, h with
  | p :: k :: q :: r, h =>
    simp only [elemP] at h
    split at h
    · rename_i hc
      simp only [Bool.and_eq_true, beq_iff_eq] at hc
      obtain ⟨c1, c2, c3, c4⟩ := hc
      cases h
      subst c1 c3
      obtain ⟨j1, j2⟩ := split_join 47 r
      have e2 : ((splitL 47 r).map (fun x : List UInt8 => (x, ()))).map (·.1) = splitL 47 r := by rw [List.map_map]; exact List.map_id' _
      constructor
      · show ([46] ++ [k]) ++ [47] ++ Lib.join (((splitL 47 r).map (fun x : List UInt8 => (x, ()))).map (·.1)) [47] = _
        rw [e2, j1]; rfl
      · have hp : 0 < (splitL 47 r).length := List.length_pos_iff.2 j2
        simp only [elB, Bool.and_eq_true, decide_eq_true_eq, Bool.not_eq_true', beq_eq_false_iff_ne]
        refine ⟨⟨⟨by simp, by simp⟩, by simpa [letL] using c2⟩, by rw [List.length_map]; omega, ?_⟩
        rw [List.all_map]; exact c4
    · cases h
/-- what has been read so far -/
def accL (line : Int) (ended : Bool) (kd ch : List UInt8) (es : List El) : List UInt8 :=
  if line = 1 then [] else headL kd ch ++ (es.map elemL).flatten ++ (if ended = true then ([69, 78, 68] ++ kd) ++ [10] else [])
structure InvT (line : Int) (ended : Bool) (kd ch : List UInt8) (es : List El) : Prop where
  pos : 1 ≤ line
  one : line = 1 → ended = false ∧ ch = [] ∧ es = []
  two : line = 2 → ended = false → ch = [] ∧ es = []
  kind : line ≠ 1 → kd.length = 3 ∧ letL kd = true
  chg : ch = [] ∨ ch = [67, 72, 71] ∨ ch = [68, 69, 76]
  els : es.length ≤ 24
  el : ∀ e ∈ es, elB e = true ∧ largeB e.2.1 = false
theorem pT_read : ∀ (n : Nat) (s : List UInt8) (line : Int) (ended : Bool) (kd ch : List UInt8) (es : List El) (t : Tel) (x : Int), InvT line ended kd ch es → pT n s line ended kd ch es = (t, x, 0, ()) →
    textL t = accL line ended kd ch es ++ s ∧ shapeB t = true ∧ t.2.2.1.length ≤ 24 ∧ (∀ e ∈ t.2.2.1, largeB e.2.1 = false)
  | 0, s, line, ended, kd, ch, es, t, x, hi, h => by
    have h3 : (3 : Int) = 0 := congrArg (fun z : PR => z.2.2.1) h
    exact absurd h3 (by decide)
  | n + 1, s, line, ended, kd, ch, es, t, x, hi, h => by
    have nb : ∀ (l e : Int), e ≠ 0 → badP l e = (t, x, 0, ()) → False := fun l e he hh => he (congrArg (fun z : PR => z.2.2.1) hh)
    have hpos := hi.pos
    by_cases hs : s = []
    · subst hs
      simp only [pT] at h
      rw [if_pos trivial] at h
      cases ended with
      | false => rw [if_neg (by decide)] at h; exact (nb _ _ (by decide) h).elim
      | true =>
        rw [if_pos rfl] at h
        have h1 : line ≠ 1 := fun e => by have := (hi.one e).1; cases this
        cases h
        obtain ⟨k1, k2⟩ := hi.kind h1
        refine ⟨?_, ?_, hi.els, fun e he => (hi.el e he).2⟩
        · simp only [accL, textL]
          rw [if_neg h1, if_pos trivial, List.append_nil]
        · simp only [shapeB, Bool.and_eq_true, Bool.or_eq_true, beq_iff_eq, decide_eq_true_eq]
          exact ⟨⟨⟨by omega, by omega⟩, k2⟩, hi.chg, List.all_eq_true.2 fun e he => (hi.el e he).1⟩
    · rcases line_or s with h10 | ⟨l, r, hl, rfl⟩
      · simp only [pT] at h
        rw [if_neg hs, cut_none s h10, if_pos (by rfl)] at h
        exact (nb _ _ (by decide) h).elim
      · simp only [pT] at h
        rw [if_neg hs, cut_line _ _ hl] at h
        simp only at h
        split at h
        · exact (nb _ _ (by decide) h).elim
        rename_i c1
        have hend : ended = false := by cases ended <;> simp_all
        subst hend
        split at h
        · rename_i c2
          simp only [Bool.and_eq_true, decide_eq_true_eq, beq_iff_eq] at c2
          obtain ⟨c2, rfl⟩ := c2
          have h1 : line ≠ 1 := by omega
          obtain ⟨k1, k2⟩ := hi.kind h1
          obtain ⟨r1, r2⟩ := pT_read n r (line + 1) true kd ch es t x ⟨by omega, fun e => by omega, fun e e2 => (by cases e2), fun _ => ⟨k1, k2⟩, hi.chg, hi.els, hi.el⟩ h
          refine ⟨?_, r2⟩
          rw [r1]
          simp only [accL]
          rw [if_neg (by omega), if_neg h1, if_pos trivial, if_neg (by decide)]
          simp only [List.append_assoc, List.cons_append, List.nil_append]
        rename_i c2
        split at h
        · rename_i c3
          subst c3
          obtain ⟨_, rfl, rfl⟩ := hi.one rfl
          split at h
          · rename_i c4
            obtain ⟨r1, r2⟩ := pT_read n r (1 + 1) false l [] [] t x ⟨by omega, fun e => by omega, fun _ _ => ⟨rfl, rfl⟩, fun _ => c4, .inl rfl, by simp, by simp⟩ h
            refine ⟨?_, r2⟩
            rw [r1]
            simp [accL, headL]
          · exact (nb _ _ (by decide) h).elim
        rename_i c3
        split at h
        · rename_i c4
          simp only [Bool.and_eq_true, decide_eq_true_eq, Bool.or_eq_true, beq_iff_eq] at c4
          obtain ⟨c4, c5⟩ := c4
          subst c4
          obtain ⟨rfl, rfl⟩ := hi.two rfl rfl
          have hne : l ≠ [] := by rcases c5 with rfl | rfl <;> simp
          obtain ⟨r1, r2⟩ := pT_read n r (2 + 1) false kd l [] t x ⟨by omega, fun e => by omega, fun e => by omega, fun _ => hi.kind c3, .inr c5, by simp, by simp⟩ h
          refine ⟨?_, r2⟩
          rw [r1]
          simp [accL, headL, hne]
        rename_i c4
        revert h
        cases hE : elemP l with
        | none => exact fun h => (nb _ _ (by decide) h).elim
        | some e =>
          intro h
          simp only at h
          split at h
          · exact (nb _ _ (by decide) h).elim
          rename_i c5
          simp only [Bool.or_eq_true, decide_eq_true_eq, not_or, Bool.not_eq_true] at c5
          obtain ⟨b1, b2⟩ := elem_read hE
          have hels := hi.els
          obtain ⟨r1, r2⟩ := pT_read n r (line + 1) false kd ch (es ++ [e]) t x ⟨by omega, fun e => by omega, fun e => by omega, fun _ => hi.kind c3, hi.chg,
            by simp only [List.length_append, List.length_cons, List.length_nil]; omega, fun y hy => by
              rcases List.mem_append.1 hy with hy | hy
              · exact hi.el y hy
              · rw [List.mem_singleton.1 hy]; exact ⟨b2, c5.1⟩⟩ h
          refine ⟨?_, r2⟩
          rw [r1]
          simp only [accL]
          rw [if_neg (by omega), if_neg c3]
          simp [elemL_line, b1]
theorem parse_back {s : List UInt8} {t : Tel} {x : Int} (hl : s.length ≤ 2048) (h : pT 5000 s 1 false [] [] [] = (t, x, 0, ())) : Small t ∧ fmtB t = (s, 0, ()) := by
  obtain ⟨r1, r2, r3, r4⟩ := pT_read 5000 s 1 false [] [] [] t x ⟨by omega, fun _ => ⟨rfl, rfl, rfl⟩, fun e => absurd e (by decide), fun e => absurd rfl e, .inl rfl, by simp, by simp⟩ h
  have e : textL t = s := by rw [r1]; simp [accL]
  have hv : validB t = 0 := by
    unfold validB
    rw [if_pos r2, if_neg (by omega), if_pos (List.all_eq_true.2 fun e he => by rw [r4 e he]; rfl), e, if_neg (by omega)]
  constructor
  · have hk := (shape_kind r2).1
    refine ⟨by omega, by omega, fun e he => by have := (el_spec (shape_el r2 e he)).1; omega, fun e he => by have := (large_spec (r4 e he)).1; omega, fun e he p hp => by have := (large_spec (r4 e he)).2 p hp; omega⟩
  · unfold fmtB
    rw [if_pos hv, e]
theorem law6 (x : List (Int × Unit) × List UInt8 × Unit) : sp6 x = some (true, ()) := by
  obtain ⟨l, s, ⟨⟩⟩ := x
  obtain ⟨s1, hs1, k1⟩ := e10 l
  obtain ⟨t, s2, ht, gt, k2⟩ := e11 k1
  have st := good_small gt
  show sh6 0 l s = _
  unfold sh6
  rw [hs1, Option.bind_some, show sp11 ((s1.1, s1.2.1, ()), ()) = _ from ht, Option.bind_some]
  rw [show sp14 ((t.1, t.2.1, t.2.2.1, ()), ()) = _ from e14 t st, good_fmt gt, Option.bind_some]
  simp only
  have hl := good_len gt
  rw [e18, if_neg (by omega), pT_good gt, Option.bind_some]
  simp only [joinK]
  rw [if_neg (by decide), if_neg (by decide), if_neg (by decide)]
  rw [show sp20 ((t.1, t.2.1, t.2.2.1, ()), (t.1, t.2.1, t.2.2.1, ()), ()) = _ from e20 t t st, Option.bind_some]
  rw [if_neg (by simp), show sp21 ((t.1, t.2.1, t.2.2.1, ()), (t.1, t.2.1, t.2.2.1, ()), ()) = _ from e21 t t st, Option.bind_some]
  simp only [sh6_K4, joinK]
  have fin : ∀ v, sh6_K6 (s, true, v) = some (true, ()) := fun v => by
    simp only [sh6_K6]
    rw [if_pos trivial, e9]; rfl
  rw [if_neg (by simp), e18, Option.bind_some]
  obtain ⟨y, hy⟩ : ∃ y : PR, y = (if 2048 < s.length then badP 0 2 else pT 5000 s 1 false [] [] []) := ⟨_, rfl⟩
  rw [← hy]
  by_cases h3 : (3000 : Int) < (s.length : Int)
  · rw [if_pos (by simpa using h3)]; exact fin _
  rw [if_neg (by simpa using h3)]
  obtain ⟨v, n, c, ⟨⟩⟩ := y
  simp only
  by_cases hc : c = 0
  · subst hc
    by_cases h2 : 2048 < s.length
    · rw [if_pos h2] at hy
      have : (0 : Int) = 2 := congrArg (fun z : PR => z.2.2.1) hy
      exact absurd this (by decide)
    rw [if_neg h2] at hy
    obtain ⟨q1, q2⟩ := parse_back (by omega) hy.symm
    simp only [sh6_K6, joinK, sh6_K9]
    rw [if_neg (by decide), show sp14 ((v.1, v.2.1, v.2.2.1, ()), ()) = _ from e14 v q1, q2, Option.bind_some]
    simp only
    rw [if_pos (by decide), if_pos (by simp), e9]; rfl
  · rw [show (c != 0) = true by simpa using hc]; exact fin _
end Go.Proofs.YtodandhnddjfpaaDoor
