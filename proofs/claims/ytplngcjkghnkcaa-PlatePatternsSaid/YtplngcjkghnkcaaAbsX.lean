/- Regions that draw their order: reads, quiet calls and ONE alloc that none of them looks at, in any order; then a tail in a forced order. -/
import Derived.Test.YtplngcjkghnkcaaAbsW
namespace Go.Abs
open Go.RowKit

section
variable {P : Program} {ops : Array Oper} {md : Region.Mode} {B : World} {k : Nat}

/-- One value in every later world, and what it leaves is a later world of that world. -/
def quietF (P : Program) (o : Oper) (a : Act) (B : World) (v : Value) : Prop :=
  ∀ w1, Below B.heap.size B w1 → ∀ w, Below w1.heap.size w1 w → o.quietAt P a (fun w' => Below w1.heap.size w1 w') w v
/-- Operation i yields v; number k is left out. -/
def Yd (P : Program) (ops : Array Oper) (B : World) (k i : Nat) (o : Oper) (v : Value) (a : Act) : Prop :=
  (i = k ∧ v = undef) ∨ (i ≠ k ∧ ((Region.wanted o (yielded ops a.tmps) = true ∧ quietF P o a B v) ∨ (Region.wanted o (yielded ops a.tmps) = false ∧ v = undef)))
def qK (P : Program) (ops : Array Oper) (B : World) (k i : Nat) (K : Act → Prop) (a : Act) : Prop :=
  match ops[i]? with
  | none => K a
  | some o => ∃ v, Yd P ops B k i o v a ∧ K (a.put o.dst v)

theorem Yd.same {i : Nat} {o : Oper} {v : Value} {a a' : Act} (hy : Yd P ops B k i o v a) (he : execOp a'.eval o = execOp a.eval o)
    (hw : Region.wanted o (yielded ops a'.tmps) = Region.wanted o (yielded ops a.tmps)) : Yd P ops B k i o v a' := by
  unfold Yd quietF Oper.quietAt at *
  rw [he, hw]
  exact hy
theorem Yd.q {i : Nat} {o : Oper} {v : Value} {a : Act} (hi : ops[i]? = some o) (hy : Yd P ops B k i o v a) {K : Act → Prop} (h : K (a.put o.dst v)) : qK P ops B k i K a := by
  unfold qK; simp only [hi]; exact ⟨v, hy, h⟩
theorem qK_mono {i : Nat} {a : Act} {K K' : Act → Prop} (h : ∀ a, K a → K' a) (hh : qK P ops B k i K a) : qK P ops B k i K' a := by
  unfold qK at *
  split
  · rename_i ho; simp only [ho] at hh; exact h _ hh
  · rename_i o ho; simp only [ho] at hh; obtain ⟨v, h1, h2⟩ := hh; exact ⟨v, h1, h _ h2⟩
theorem qK_put {i j : Nat} {oi oj : Oper} {v : Value} (hj : ops[j]? = some oj) (hap : oi.apart ops oj = true)
    (hsi : ∀ cs b, oi.op ≠ .select cs b) (hsj : ∀ cs b, oj.op ≠ .select cs b) {K : Act → Prop} {a : Act}
    (hy : Yd P ops B k i oi v a) (h : qK P ops B k j K (a.put oi.dst v)) : qK P ops B k j (fun a' => Yd P ops B k i oi v a' ∧ K (a'.put oi.dst v)) a := by
  obtain ⟨h1, h2, h3⟩ := Oper.apart_spec hap
  unfold qK at *
  simp only [hj] at *
  obtain ⟨u, hu, hn⟩ := h
  refine ⟨u, hu.same (execOp_put oj hsj a oi.dst v h1).symm (wanted_put oj a oi.dst v h1).symm, hy.same (execOp_put oi hsi a oj.dst u h3) (wanted_put oi a oj.dst u h3), ?_⟩
  rw [← Act.put_comm a v u h2]; exact hn

/-- Whatever order the head comes in, then L. -/
def headK (P : Program) (md : Region.Mode) (ops : Array Oper) (B : World) (k n : Nat) (L : Array Bool → Act → Prop) : Nat → Array Bool → Act → Prop
  | 0, listed, a => L listed a
  | f + 1, listed, a => Region.ready md ops listed ≠ [] ∧ ∀ i ∈ Region.ready md ops listed, i < n ∧ qK P ops B k i (headK P md ops B k n L f (listed.setIfInBounds i true)) a

theorem headK_first {n i : Nat} {oi : Oper} {v : Value} {L : Array Bool → Act → Prop} (hi : ops[i]? = some oi) (hsel : ∀ (j : Nat) (o : Oper) cs b, ops[j]? = some o → o.op ≠ .select cs b)
    (hs : Region.sinkB md ops n = true) (hc : Region.chainB md ops n = true) (hn : n < ops.size) (hin : i < n) (hdone : ∀ listed a, L listed a → ∀ j ∈ Region.ready md ops listed, n ≤ j) :
    ∀ (f : Nat) (listed : Array Bool) (a : Act), HeadInv md ops n listed →
      (∀ j oj, ops[j]? = some oj → j ≠ i → listed.getD j true = false → (∀ e ∈ oj.after, Region.binds md e = true → e.on ≠ i) → oi.apart ops oj = true) →
      i ∈ Region.ready md ops listed → Yd P ops B k i oi v a →
      headK P md ops B k n L f (listed.setIfInBounds i true) (a.put oi.dst v) → headK P md ops B k n L (f + 1) listed a := by
  intro f
  induction f with
  | zero =>
    intro listed a inv _ hr hy H
    have hun := (mem_ready.1 hr).1
    refine ⟨fun h => (by rw [h] at hr; cases hr), fun j hj => ?_⟩
    have hjn : j < n := by
      rcases Nat.lt_or_ge j n with h | h
      · exact h
      · exact absurd hj (tail_waits hs hc hn inv _ i rfl hin hun j h)
    refine ⟨hjn, ?_⟩
    rcases Classical.em (j = i) with rfl | hji
    · exact hy.q hi H
    · have := hdone _ _ H j (ready_mono hj hji)
      omega
  | succ f ih =>
    intro listed a inv hfree hr hy H
    have hun := (mem_ready.1 hr).1
    refine ⟨fun h => (by rw [h] at hr; cases hr), fun j hj => ?_⟩
    have hjn : j < n := by
      rcases Nat.lt_or_ge j n with h | h
      · exact h
      · exact absurd hj (tail_waits hs hc hn inv _ i rfl hin hun j h)
    refine ⟨hjn, ?_⟩
    rcases Classical.em (j = i) with rfl | hji
    · exact hy.q hi H
    · have h1 := (H.2 j (ready_mono hj hji)).2
      obtain ⟨hjun, oj, hoj, hall⟩ := mem_ready.1 hj
      have hnot : ∀ e ∈ oj.after, Region.binds md e = true → e.on ≠ i := fun e he hb heq => by
        have h1 := hall e he hb
        rw [heq, getD_both hun] at h1
        cases h1
      have h2 := qK_put hoj (hfree j oj hoj hji hjun hnot) (fun cs b => hsel i oi cs b hi) (fun cs b => hsel j oj cs b hoj) hy h1
      refine qK_mono (fun a' h3 => ih (listed.setIfInBounds j true) a' (inv.set hj hjn) (fun x ox hk hki hun' hno => hfree x ox hk hki ?_ hno) (ready_mono hr (Ne.symm hji)) h3.1 ?_) h2
      · rcases Classical.em (j = x) with rfl | hjk
        · exact hjun
        · rw [getD_set_ne true hjk] at hun'; exact hun'
      · rw [Array.setIfInBounds_comm _ _ hji]
        exact h3.2

/-- The walk of the lexical order; number k is left out. -/
def wpK (P : Program) (ops : Array Oper) (B : World) (k : Nat) (Q : Act → Prop) : List Oper → Nat → Act → Prop
  | [], _, a => Q a
  | o :: l, i, a => ∃ v, Yd P ops B k i o v a ∧ wpK P ops B k Q l (i + 1) (a.put o.dst v)

theorem headK_lex {n g : Nat} {Lq : Act → Prop} (hsel : Region.noSelect ops = true) (hs : Region.sinkB md ops n = true) (hc : Region.chainB md ops n = true) (hn : n < ops.size) :
    ∀ (l : List Oper) (j : Nat) (listed : Array Bool) (a : Act), (∀ i, i < l.length → l[i]? = ops[j + i]?) → j + l.length = n → HeadInv md ops n listed →
    Region.lexHead md ops g l.length j listed = true → wpK P ops B k Lq l j a →
    headK P md ops B k n (fun listed' a' => Region.seqB md ops g n listed' = true ∧ Lq a') l.length listed a
  | [], j, listed, a, _, hk, _, hB, h => by
    have : j = n := by simpa using hk
    subst this
    exact ⟨by simpa [Region.lexHead] using hB, h⟩
  | o :: l, j, listed, a, hl, hk, inv, hB, h => by
    have h0 : ops[j]? = some o := by simpa using (hl 0 (by simp)).symm
    simp only [List.length_cons, Region.lexHead, Bool.and_eq_true] at hB
    obtain ⟨⟨hr, hf⟩, hB'⟩ := hB
    have hkn : j < n := by simp only [List.length_cons] at hk; omega
    have hr' : j ∈ Region.ready md ops listed := by simpa using hr
    obtain ⟨v, hy, hK⟩ := h
    exact headK_first h0 (Region.noSelect_spec hsel) hs hc hn hkn (fun listed' a' hL => seqB_ready hL.1) l.length listed a inv (Region.free_spec h0 hf) hr' hy
      (headK_lex hsel hs hc hn l (j + 1) _ _ (fun i hi => by have := hl (i + 1) (by simp; omega); simpa [Nat.add_assoc, Nat.add_comm 1 i] using this) (by simp only [List.length_cons] at hk; omega) (inv.set hr' hkn) hB' hK)

/-- The alloc has come: in some world on the way, and the present world is a later one. -/
def Come (B : World) (d : Tmp) (ob : _root_.Go.Obj) (a' a : Act) (w : World) : Prop :=
  ∃ w1, Below B.heap.size B w1 ∧ Below (w1.alloc ob).heap.size (w1.alloc ob) w ∧ a = a'.put (some d) (.pointer (some ⟨w1.heap.size, 0, none⟩))

theorem sim_head {n g : Nat} {L : Array Bool → Act → Prop} {Q' : Exit → Act → World → Prop} {ok : Oper} {d : Tmp} {ob : _root_.Go.Obj} (hk : ops[k]? = some ok) (hkg : ok.guard = none) (hkd : ok.dst = some d)
    (hrun : ∀ (ρ : Operand → Value) (w : World), (execOp ρ ok).run P w = .ok (.value (.pointer (some ⟨w.heap.size, 0, none⟩))) (w.alloc ob))
    (hsel : ∀ (j : Nat) (o : Oper) cs b, ops[j]? = some o → o.op ≠ .select cs b)
    (hnr : ∀ i o, i < n → i ≠ k → ops[i]? = some o → d ∉ o.looksAt ops ∧ o.dst ≠ some d)
    (hL : ∀ listed a' a w, L listed a' → HeadInv md ops n listed → (if listed.getD k false = true then Come B d ob a' a w else a = a' ∧ Below B.heap.size B w) → wpAny P md ops Q' g listed a w) :
    ∀ (f : Nat) (listed : Array Bool) (a' a : Act) (w : World), headK P md ops B k n L f listed a' → HeadInv md ops n listed →
      (if listed.getD k false = true then Come B d ob a' a w else a = a' ∧ Below B.heap.size B w) → wpAny P md ops Q' (f + g) listed a w
  | 0, _, _, _, _, h, inv, hc => by rw [Nat.zero_add]; exact hL _ _ _ _ h inv hc
  | f + 1, listed, a', a, w, h, inv, hc => by
    rw [show f + 1 + g = (f + g) + 1 by omega]
    refine ⟨fun h0 => absurd h0 h.1, fun i hi => ?_⟩
    obtain ⟨hin, hq⟩ := h.2 i hi
    have inv' := inv.set hi hin
    obtain ⟨hun, oi, hoi, hall⟩ := mem_ready.1 hi
    unfold wpOp
    simp only [hoi]
    unfold qK at hq
    simp only [hoi] at hq
    obtain ⟨v, hy, hn⟩ := hq
    rcases Classical.em (i = k) with hik | hik
    · -- the alloc
      have : oi = ok := Option.some.inj (hoi.symm.trans (by rw [hik]; exact hk))
      subst this
      rw [if_neg (by rw [← hik, getD_both hun]; decide)] at hc
      obtain ⟨rfl, hw⟩ := hc
      rw [if_pos (by simp [Region.wanted, hkg])]
      refine .inl ?_
      unfold Oper.wp
      rw [hrun]
      obtain rfl : v = undef := by
        rcases hy with ⟨_, e⟩ | ⟨e, _⟩
        · exact e
        · exact absurd hik e
      refine sim_head hk hkg hkd hrun hsel hnr hL f _ (a.put (some d) undef) _ _ (by rw [hkd] at hn; exact hn) inv' ?_
      rw [if_pos (by
        have hlt : i < listed.size := by
          rcases Nat.lt_or_ge i listed.size with h | h
          · exact h
          · simp [h] at hun
        rw [← hik]; simp [hlt])]
      refine ⟨w, hw, Below.refl _ _, ?_⟩
      rw [hkd]
      simp [Act.put]
    · rcases hy with ⟨h, _⟩ | ⟨_, hy⟩
      · exact absurd h hik
      obtain ⟨hd1, hd2⟩ := hnr i oi hin hik hoi
      have hset : (listed.setIfInBounds i true).getD k false = listed.getD k false := getD_set_ne false hik
      by_cases hkl : listed.getD k false = true
      · rw [if_pos hkl] at hc
        obtain ⟨w1, hw1, hw2, rfl⟩ := hc
        have e1 : execOp (a'.put (some d) (.pointer (some ⟨w1.heap.size, 0, none⟩))).eval oi = execOp a'.eval oi := execOp_put (ops := ops) oi (fun cs b => hsel i oi cs b hoi) a' (some d) _ (fun x hx => by cases hx; exact hd1)
        have e2 := wanted_put (ops := ops) oi a' (some d) (.pointer (some ⟨w1.heap.size, 0, none⟩)) (fun x hx => by cases hx; exact hd1)
        have next : ∀ w', Below (w1.alloc ob).heap.size (w1.alloc ob) w' → wpAny P md ops Q' (f + g) (listed.setIfInBounds i true) ((a'.put (some d) (.pointer (some ⟨w1.heap.size, 0, none⟩))).put oi.dst v) w' := fun w' hw' => by
          refine sim_head hk hkg hkd hrun hsel hnr hL f _ (a'.put oi.dst v) _ w' hn inv' ?_
          rw [hset, if_pos hkl]
          exact ⟨w1, hw1, hw', Act.put_comm a' _ v (fun x hx h => hd2 (by cases hx; exact h))⟩
        rw [e2]
        rcases hy with ⟨hwn, hyq⟩ | ⟨hwn, rfl⟩
        · rw [if_pos hwn]
          refine .inl (Oper.wp_of_quiet (C := fun w' => Below (w1.alloc ob).heap.size (w1.alloc ob) w') (K := fun a'' => a'' = (a'.put (some d) (.pointer (some ⟨w1.heap.size, 0, none⟩))).put oi.dst v) hw2 (fun a'' w'' hw'' ha => by subst ha; exact next w'' hw'') ⟨v, fun w' hw' => ?_, rfl⟩)
          unfold Oper.quietAt
          rw [e1]
          exact hyq (w1.alloc ob) (Below.alloc hw1 hw1.size ob) w' hw'
        · rw [if_neg (by rw [hwn]; decide)]
          exact next w hw2
      · rw [if_neg hkl] at hc
        obtain ⟨rfl, hw⟩ := hc
        have next : ∀ w', Below B.heap.size B w' → wpAny P md ops Q' (f + g) (listed.setIfInBounds i true) (a.put oi.dst v) w' := fun w' hw' => by
          refine sim_head hk hkg hkd hrun hsel hnr hL f _ (a.put oi.dst v) _ w' hn inv' ?_
          rw [hset, if_neg hkl]
          exact ⟨rfl, hw'⟩
        rcases hy with ⟨hwn, hyq⟩ | ⟨hwn, rfl⟩
        · rw [if_pos hwn]
          exact .inl (Oper.wp_of_quiet (C := fun w' => Below B.heap.size B w') (K := fun a'' => a'' = a.put oi.dst v) hw (fun a'' w'' hw'' ha => by subst ha; exact next w'' hw'') ⟨v, fun w' hw' => hyq B (Below.refl _ _) w' hw', rfl⟩)
        · rw [if_neg (by rw [hwn]; decide)]
          exact next w hw
end
end Go.Abs
