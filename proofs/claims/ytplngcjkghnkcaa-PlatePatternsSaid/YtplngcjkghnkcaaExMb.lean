/- Regions in which reads and calls, the calls one behind the other, come in any order: the simulation. -/
import Derived.Test.YtplngcjkghnkcaaExMa
namespace Go.Abs
open Go.RowKit

def chB (ops : Array Oper) (i : Nat) : Bool := match ops[i]? with | some o => isFun o.op | none => false
def dstJ (ops : Array Oper) (j : Nat) : Option Tmp := (ops[j]?).bind (·.dst)
/-- Operation i waits for j, over at most so many others. -/
def reach (ops : Array Oper) : Nat → Nat → Nat → Bool
  | 0, _, _ => false
  | d + 1, i, j => match ops[i]? with
    | some o => o.after.toList.any fun e => Region.binds .any e && (e.on == j || reach ops d e.on j)
    | none => false
def mB1 (ops : Array Oper) (n i : Nat) (o : Oper) : Bool :=
  (o.after.toList.all fun e => !Region.binds .any e || decide (e.on < i)) &&
  (((o.looksAt ops).all fun t => (List.range n).all fun j => !(dstJ ops j == some t) || (o.after.toList.any fun e => Region.binds .any e && e.on == j)) &&
  ((match o.dst with | none => true | some t => (List.range i).all fun j => !(dstJ ops j == some t)) &&
  (!isFun o.op || (List.range i).all fun j => !chB ops j || (((List.range i).any fun k => decide (j < k) && chB ops k) || reach ops 3 i j))))
def mB (ops : Array Oper) (n : Nat) : Bool := (List.range n).all fun i => match ops[i]? with | none => false | some o => mB1 ops n i o

structure MOk (ops : Array Oper) (n : Nat) : Prop where
  back : ∀ i o, i < n → ops[i]? = some o → ∀ e ∈ o.after, Region.binds .any e = true → e.on < i
  looks : ∀ i o, i < n → ops[i]? = some o → ∀ t ∈ o.looksAt ops, ∀ j, j < n → dstJ ops j = some t → ∃ e ∈ o.after, Region.binds .any e = true ∧ e.on = j
  uniq : ∀ i j t, i < n → j < i → dstJ ops i = some t → dstJ ops j ≠ some t
  link : ∀ i o, i < n → ops[i]? = some o → isFun o.op = true → ∀ j, j < i → chB ops j = true → (∃ k, j < k ∧ k < i ∧ chB ops k = true) ∨ reach ops 3 i j = true
  all : ∀ i, i < n → ∃ o, ops[i]? = some o
theorem mOk_of {ops : Array Oper} {n : Nat} (h : mB ops n = true) : MOk ops n := by
  have key : ∀ i, i < n → ∃ o, ops[i]? = some o ∧ mB1 ops n i o = true := by
    intro i hi
    have := List.all_eq_true.1 h i (List.mem_range.2 hi)
    cases ho : ops[i]? with
    | none => simp [ho] at this
    | some o => exact ⟨o, rfl, by simpa [ho] using this⟩
  have key2 : ∀ i o, i < n → ops[i]? = some o → mB1 ops n i o = true := by
    intro i o hi ho
    obtain ⟨o', h1, h2⟩ := key i hi
    rw [ho] at h1
    cases h1; exact h2
  refine ⟨fun i o hi ho e he hb => ?_, fun i o hi ho t ht j hj hd => ?_, fun i j t hi hj hd => ?_, fun i o hi ho hf j hj hc => ?_, fun i hi => let ⟨o, h, _⟩ := key i hi; ⟨o, h⟩⟩
  · have := key2 i o hi ho
    simp only [mB1, Bool.and_eq_true] at this
    have := List.all_eq_true.1 this.1 e (by simpa using he)
    simpa [hb] using this
  · have := key2 i o hi ho
    simp only [mB1, Bool.and_eq_true] at this
    have := List.all_eq_true.1 (List.all_eq_true.1 this.2.1 t ht) j (List.mem_range.2 hj)
    simp only [hd, beq_self_eq_true, Bool.not_true, Bool.false_or, List.any_eq_true, Bool.and_eq_true, beq_iff_eq] at this
    obtain ⟨e, h1, h2, h3⟩ := this
    exact ⟨e, by simpa using h1, h2, h3⟩
  · obtain ⟨o, ho, h1⟩ := key i hi
    simp only [mB1, Bool.and_eq_true] at h1
    have hdo : o.dst = some t := by simpa [dstJ, ho] using hd
    have h2 := h1.2.2.1
    simp only [hdo] at h2
    have := List.all_eq_true.1 h2 j (List.mem_range.2 hj)
    intro hc
    simp [hc] at this
  · have := key2 i o hi ho
    simp only [mB1, Bool.and_eq_true, hf, Bool.not_true, Bool.false_or] at this
    have := List.all_eq_true.1 this.2.2.2 j (List.mem_range.2 hj)
    simp only [hc, Bool.not_true, Bool.false_or, Bool.or_eq_true, List.any_eq_true, List.mem_range, Bool.and_eq_true, decide_eq_true_eq] at this
    rcases this with ⟨k, h1, h2, h3⟩ | h
    · exact .inl ⟨k, h2, h1, h3⟩
    · exact .inr h

section
variable {P : Program} {ops : Array Oper} {n : Nat} {listed : Array Bool}

theorem reach_listed (inv : HeadInv .any ops n listed) : ∀ (d i j : Nat) (o : Oper), ops[i]? = some o → (∀ e ∈ o.after, Region.binds .any e = true → listed.getD e.on false = true) → reach ops d i j = true → listed.getD j false = true
  | 0, _, _, _, _, _, h => by simp [reach] at h
  | d + 1, i, j, o, ho, hall, h => by
    simp only [reach, ho, List.any_eq_true, Bool.and_eq_true, Bool.or_eq_true, beq_iff_eq] at h
    obtain ⟨e, he, hb, h⟩ := h
    have hl := hall e (by simpa using he) hb
    rcases h with rfl | h
    · exact hl
    · cases d with
      | zero => simp [reach] at h
      | succ d =>
        cases ho' : ops[e.on]? with
        | none => simp [reach, ho'] at h
        | some o' => exact reach_listed inv (d + 1) e.on j o' ho' (inv.closed _ _ ho' hl) h

theorem before (mk : MOk ops n) (inv : HeadInv .any ops n listed) : ∀ (m i j : Nat) (o : Oper), i - j ≤ m → i < n → ops[i]? = some o → isFun o.op = true → (∀ e ∈ o.after, Region.binds .any e = true → listed.getD e.on false = true) → j < i → chB ops j = true → listed.getD j false = true
  | 0, i, j, _, h, _, _, _, _, hj, _ => by omega
  | m + 1, i, j, o, h, hi, ho, hf, hall, hj, hc => by
    rcases mk.link i o hi ho hf j hj hc with ⟨k, h1, h2, h3⟩ | hr
    · have hk := before mk inv m i k o (by omega) hi ho hf hall h2 h3
      unfold chB at h3
      cases hok : ops[k]? with
      | none => simp [hok] at h3
      | some ok =>
        simp only [hok] at h3
        exact before mk inv m k j ok (by omega) (by omega) hok h3 (inv.closed _ _ hok hk) h1 hc
    · exact reach_listed inv 3 i j o ho hall hr

theorem putA_get {env : List AV} {dst : Option Tmp} {x : AV} {t : Nat} : (putA env dst x).getD t .any = if dst = some t ∧ t < env.length then x else env.getD t .any := by
  cases dst with
  | none => simp [putA]
  | some d =>
    simp only [putA, List.getD, List.getElem?_set]
    by_cases h : d = t
    · subst h
      by_cases hl : d < env.length
      · simp [hl]
      · simp [hl, List.getElem?_eq_none (Nat.le_of_not_lt hl)]
    · simp [h]
theorem putA_len {env : List AV} {dst : Option Tmp} {x : AV} : (putA env dst x).length = env.length := by cases dst <;> simp [putA]

/-- A trace. -/
structure Trace (P : Program) (ops : Array Oper) (U : List Nat) (n : Nat) (S : Nat → St) : Prop where
  step : ∀ i o, i < n → ops[i]? = some o → mStep P ops U o (S i) (S (i + 1))
  ok : MOk ops n
variable {U : List Nat} {S : Nat → St}

theorem Trace.len (T : Trace P ops U n S) : ∀ k, k ≤ n → (S k).env.length = (S 0).env.length
  | 0, _ => rfl
  | k + 1, h => by
    obtain ⟨o, ho⟩ := T.ok.all k h
    obtain ⟨x, hx, _⟩ := T.step k o h ho
    rw [hx, putA_len, T.len k (by omega)]
theorem Trace.same (T : Trace P ops U n S) {t : Nat} {a : Nat} : ∀ b, a ≤ b → b ≤ n → (∀ j, a ≤ j → j < b → dstJ ops j ≠ some t) → (S b).env.getD t .any = (S a).env.getD t .any
  | 0, h, _, _ => by have : a = 0 := by omega
                     rw [this]
  | b + 1, h, hb, hd => by
    rcases Nat.eq_or_lt_of_le h with rfl | hlt
    · rfl
    obtain ⟨o, ho⟩ := T.ok.all b hb
    obtain ⟨x, hx, _⟩ := T.step b o hb ho
    rw [hx, putA_get, if_neg ?_]
    · exact T.same b (by omega) (by omega) (fun j h1 h2 => hd j h1 (by omega))
    · rintro ⟨h1, _⟩
      exact hd b (by omega) (by omega) (by simp [dstJ, ho, h1])
theorem Trace.env (T : Trace P ops U n S) {t k : Nat} (hk : k ≤ n) : (S k).env.getD t .any = if (List.range k).any (fun j => dstJ ops j == some t) = true then (S n).env.getD t .any else (S 0).env.getD t .any := by
  by_cases h : (List.range k).any (fun j => dstJ ops j == some t) = true
  · rw [if_pos h]
    simp only [List.any_eq_true, List.mem_range, beq_iff_eq] at h
    obtain ⟨j, hj, hd⟩ := h
    refine (T.same n hk (Nat.le_refl _) fun i h1 h2 hi => ?_).symm
    exact T.ok.uniq i j t h2 (by omega) hi hd
  · rw [if_neg h]
    refine T.same k (Nat.zero_le _) hk fun j _ h2 hj => h ?_
    simp only [List.any_eq_true, List.mem_range, beq_iff_eq]
    exact ⟨j, h2, hj⟩
theorem Trace.objs (T : Trace P ops U n S) {a : Nat} : ∀ b, a ≤ b → b ≤ n → (∀ j, a ≤ j → j < b → chB ops j = false) → (S b).objs = (S a).objs
  | 0, h, _, _ => by have : a = 0 := by omega
                     rw [this]
  | b + 1, h, hb, hd => by
    rcases Nat.eq_or_lt_of_le h with rfl | hlt
    · rfl
    obtain ⟨o, ho⟩ := T.ok.all b hb
    have ih := T.objs b (by omega) (by omega) (fun j h1 h2 => hd j h1 (by omega))
    have hc := hd b (by omega) (by omega)
    obtain ⟨x, _, h1 | h1 | ⟨_, _, Φ, f, args, tys, _, h3, _⟩⟩ := T.step b o hb ho
    · rw [h1.2.2, ih]
    · rw [h1.2.2.1, ih]
    · simp [chB, ho, h3, isFun] at hc
theorem Trace.agree (T : Trace P ops U n S) : ∀ k, k ≤ n → Agree U (S 0).objs (S k).objs
  | 0, _ => fun _ _ => rfl
  | k + 1, h => by
    obtain ⟨o, ho⟩ := T.ok.all k h
    have ih := T.agree k (by omega)
    obtain ⟨x, _, h1 | h1 | ⟨_, h2, _⟩⟩ := T.step k o h ho
    · rw [h1.2.2]; exact ih
    · rw [h1.2.2.1]; exact ih
    · exact fun m hm => (h2 m hm).trans (ih m hm)

/-- The state in which some operations have come. -/
structure Now (ops : Array Oper) (n : Nat) (S : Nat → St) (listed : Array Bool) (s : St) : Prop where
  len : s.env.length = (S 0).env.length
  env : ∀ t, s.env.getD t .any = if (List.range n).any (fun j => listed.getD j false && dstJ ops j == some t) = true then (S n).env.getD t .any else (S 0).env.getD t .any
  objs : ∃ p, p ≤ n ∧ s.objs = (S p).objs ∧ ∀ j, j < n → chB ops j = true → (listed.getD j false = true ↔ j < p)

theorem Now.step (T : Trace P ops U n S) (inv : HeadInv .any ops n listed) {s : St} (N : Now ops n S listed s) {i : Nat} {o : Oper} (hi : i < n) (ho : ops[i]? = some o) (hr : i ∈ Region.ready .any ops listed) :
    ∃ s' Φ, Sound P Φ ∧ xOp P Φ ops o s = some s' ∧ Now ops n S (listed.setIfInBounds i true) s' := by
  obtain ⟨hun, o', ho', hall⟩ := mem_ready.1 hr
  have : o' = o := Option.some.inj (ho'.symm.trans ho)
  subst this
  have hst := T.step i o' hi ho
  have hlt : i < listed.size := by rw [inv.size]; exact (Array.getElem?_eq_some_iff.1 ho).1
  have hget : ∀ j, (listed.setIfInBounds i true).getD j false = if j = i then true else listed.getD j false := by
    intro j
    by_cases h : j = i
    · subst h; simp [hlt]
    · rw [if_neg h, getD_set_ne false (Ne.symm h)]
  obtain ⟨p, hp, hobj, hch⟩ := N.objs
  -- what it looks at
  have hlook : ∀ t ∈ o'.looksAt ops, (S i).env.getD t .any = s.env.getD t .any := by
    intro t ht
    rw [T.env (Nat.le_of_lt hi), N.env]
    have e : (List.range i).any (fun j => dstJ ops j == some t) = (List.range n).any (fun j => listed.getD j false && dstJ ops j == some t) := by
      rw [Bool.eq_iff_iff]
      simp only [List.any_eq_true, List.mem_range, beq_iff_eq, Bool.and_eq_true]
      constructor
      · rintro ⟨j, hj, hd⟩
        obtain ⟨e, he, hb, hon⟩ := T.ok.looks i o' hi ho t ht j (by omega) hd
        have := hall e he hb
        rw [hon] at this
        exact ⟨j, by omega, this, hd⟩
      · rintro ⟨j, hj, _, hd⟩
        obtain ⟨e, he, hb, hon⟩ := T.ok.looks i o' hi ho t ht j hj hd
        have := T.ok.back i o' hi ho e he hb
        exact ⟨j, by omega, hd⟩
    rw [e]
  -- memory
  have hmem : isFun o'.op = true → s.objs = (S i).objs ∧ ∀ j, j < n → chB ops j = true → (listed.getD j false = true ↔ j < i) := by
    intro hf
    have hci : chB ops i = true := by simp [chB, ho, hf]
    have hbe : ∀ j, j < n → chB ops j = true → (listed.getD j false = true ↔ j < i) := by
      intro j hj hc
      constructor
      · intro hl
        rcases Nat.lt_trichotomy j i with h | h | h
        · exact h
        · subst h; rw [getD_both hun] at hl; cases hl
        · exfalso
          have hok := hc
          unfold chB at hok
          cases hoj : ops[j]? with
          | none => simp [hoj] at hok
          | some oj =>
            simp only [hoj] at hok
            have := before T.ok inv (j - i) j i oj (Nat.le_refl _) hj hoj hok (inv.closed _ _ hoj hl) h hci
            rw [getD_both hun] at this; cases this
      · intro h
        exact before T.ok inv (i - j) i j o' (Nat.le_refl _) hi ho hf hall h hc
    refine ⟨?_, hbe⟩
    rw [hobj]
    rcases Nat.le_total p i with h | h
    · refine (T.objs i h (Nat.le_of_lt hi) fun j h1 h2 => ?_).symm
      cases hc : chB ops j with
      | false => rfl
      | true =>
        have := (hch j (by omega) hc).1 ((hbe j (by omega) hc).2 h2)
        omega
    · refine T.objs p h hp fun j h1 h2 => ?_
      cases hc : chB ops j with
      | false => rfl
      | true =>
        have := (hbe j (by omega) hc).1 ((hch j (by omega) hc).2 h2)
        omega
  obtain ⟨x, Φ, hx, hΦ, hop⟩ := mStep_loc hst (env := s.env) (objs := s.objs) hlook (by
    split
    · rename_i hf; exact (hmem hf).1
    · rw [hobj]
      intro m hm
      rw [T.agree p hp m hm, T.agree i (Nat.le_of_lt hi) m hm])
  refine ⟨_, Φ, hΦ, hop, by rw [putA_len]; exact N.len, fun t => ?_, ?_⟩
  · show (putA s.env o'.dst x).getD t .any = _
    rw [putA_get]
    by_cases hd : dstJ ops i = some t
    · have hdo : o'.dst = some t := by simpa [dstJ, ho] using hd
      have hany : (List.range n).any (fun j => (listed.setIfInBounds i true).getD j false && dstJ ops j == some t) = true := by
        simp only [List.any_eq_true, List.mem_range]
        exact ⟨i, hi, by rw [hget, if_pos rfl, hd]; simp⟩
      rw [if_pos hany]
      have hsn : (S n).env.getD t .any = (S (i + 1)).env.getD t .any := T.same n (by omega) (Nat.le_refl _) fun j h1 h2 hj => T.ok.uniq j i t h2 (by omega) hj hd
      rw [hsn, hx, putA_get, N.len, T.len i (Nat.le_of_lt hi)]
      by_cases hl : t < (S 0).env.length
      · rw [if_pos ⟨hdo, hl⟩, if_pos ⟨hdo, hl⟩]
      · rw [if_neg (fun h => hl h.2), if_neg (fun h => hl h.2)]
        have h1 : s.env.getD t .any = .any := by rw [List.getD, List.getElem?_eq_none (by rw [N.len]; omega)]; rfl
        have h2 : (S i).env.getD t .any = .any := by rw [List.getD, List.getElem?_eq_none (by rw [T.len i (Nat.le_of_lt hi)]; omega)]; rfl
        rw [h1, h2]
    · have hdo : ¬ (o'.dst = some t ∧ t < s.env.length) := fun h => hd (by simp [dstJ, ho, h.1])
      rw [if_neg hdo, N.env]
      have e : (List.range n).any (fun j => (listed.setIfInBounds i true).getD j false && dstJ ops j == some t) = (List.range n).any (fun j => listed.getD j false && dstJ ops j == some t) := by
        congr 1
        funext j
        rw [hget]
        by_cases hj : j = i
        · subst hj
          have : (dstJ ops j == some t) = false := by simpa using hd
          rw [this, Bool.and_false, Bool.and_false]
        · rw [if_neg hj]
      rw [e]
  · by_cases hf : isFun o'.op = true
    · refine ⟨i + 1, hi, by simp only [hf, if_true], fun j hj hc => ?_⟩
      rw [hget]
      by_cases hji : j = i
      · rw [if_pos hji]; exact ⟨fun _ => by omega, fun _ => rfl⟩
      · rw [if_neg hji, (hmem hf).2 j hj hc]; omega
    · refine ⟨p, hp, by simp only [hf, Bool.false_eq_true, if_false]; exact hobj, fun j hj hc => ?_⟩
      rw [hget, if_neg ?_]
      · exact hch j hj hc
      · intro h
        subst h
        simp [chB, ho, hf] at hc
end
end Go.Abs
