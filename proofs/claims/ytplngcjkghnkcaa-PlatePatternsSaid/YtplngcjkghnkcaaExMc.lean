/- Regions in which reads and calls, the calls one behind the other, come in any order: the rule. -/
import Derived.Test.YtplngcjkghnkcaaExMb
namespace Go.Abs
open Go.RowKit

section
variable {P : Program} {ops : Array Oper} {n : Nat} {listed : Array Bool}

theorem wp_any {Q' : Exit → Act → World → Prop} {K : Act → World → Prop} {o : Oper} {i : Nat} {a : Act} {w : World} (hi : ops[i]? = some o) (h : wpList P ops (fun e a' w' => e = .normal ∧ K a' w') [o] a w) : wpOp P ops Q' i K a w := by
  unfold wpOp
  simp only [hi]
  simp only [wpList] at h
  split at h
  · rename_i hw
    rw [if_pos hw]
    rcases h with h | ⟨_, a', w', h, _⟩
    · left
      unfold Oper.wp at *
      generalize (execOp a.eval o).run P w = r at *
      cases r with
      | ok k w' =>
        cases k <;> simp only [Oper.upon] at h ⊢ <;>
          first
            | exact h.2
            | exact Calls.mono h (fun e w'' he => by
                cases e with
                | returned v => exact he.2
                | panicked c => exact absurd he.1 (by intro h; cases h)
                | outgrown => obtain ⟨_, _, h, _⟩ := he; exact absurd h (by intro h; cases h))
            | exact Rows.mono h (fun _ _ he => he.2)
            | exact h
      | halt x w' =>
        cases x <;> simp only [Oper.upon] at h ⊢ <;> first | exact absurd h.1 (by intro h; cases h) | exact h
    · cases h
  · rename_i hw
    rw [if_neg hw]
    exact h.2

theorem count_eq {f g : Nat → Bool} : ∀ n : Nat, (∀ j, j < n → f j = g j) → (List.range n).countP f = (List.range n).countP g
  | 0, _ => rfl
  | n + 1, h => by
    rw [List.range_succ, List.countP_append, List.countP_append, count_eq n fun j hj => h j (by omega)]
    simp [h n (Nat.lt_succ_self n)]
theorem count_one {f g : Nat → Bool} {i : Nat} (hf : f i = true) (hg : g i = false) (h : ∀ j, j ≠ i → f j = g j) : ∀ n : Nat, i < n → (List.range n).countP f = (List.range n).countP g + 1
  | 0, hi => by omega
  | n + 1, hi => by
    rw [List.range_succ, List.countP_append, List.countP_append]
    by_cases hin : i = n
    · subst hin
      rw [count_eq i fun j hj => h j (by omega)]
      simp [hf, hg]
    · rw [count_one hf hg h n (by omega)]
      simp [h n (Ne.symm hin)]; omega
def left (n : Nat) (listed : Array Bool) : Nat := (List.range n).countP fun j => !(listed.getD j false)

theorem any_sim {U : List Nat} {S : Nat → St} (T : Trace P ops U n S) {g : Nat} {Q' : Exit → Act → World → Prop} {w0 : World} {M0 : Nat → Prop} {D0 : Names} (hs : Region.sinkB .any ops n = true) (hc : Region.chainB .any ops n = true) (hn : n < ops.size)
    (htail : ∀ listed a w, HeadInv .any ops n listed → (∀ j, j < n → listed.getD j false = true) → Sat w0 M0 D0 (S n) a w → wpAny P .any ops Q' g listed a w) :
    ∀ (f : Nat) (listed : Array Bool) (s : St) (a : Act) (w : World), left n listed = f → HeadInv .any ops n listed → Now ops n S listed s → Sat w0 M0 D0 s a w → wpAny P .any ops Q' (f + g) listed a w
  | 0, listed, s, a, w, hf, inv, N, hsat => by
    have hall : ∀ j, j < n → listed.getD j false = true := by
      intro j hj
      have := List.countP_eq_zero.1 hf j (List.mem_range.2 hj)
      simpa using this
    rw [Nat.zero_add]
    refine htail listed a w inv hall ?_
    have : s = S n := by
      obtain ⟨env, objs⟩ := s
      obtain ⟨p, hp, hobj, hch⟩ := N.objs
      have h1 : objs = (S n).objs := by
        rw [show objs = (S p).objs from hobj]
        refine (T.objs n hp (Nat.le_refl _) fun j h1 h2 => ?_).symm
        cases hcj : chB ops j with
        | false => rfl
        | true => have := (hch j h2 hcj).1 (hall j h2); omega
      have h2 : env = (S n).env := by
        have hl : env.length = (S n).env.length := by rw [T.len n (Nat.le_refl _)]; exact N.len
        refine List.ext_getElem hl fun t ht ht' => ?_
        have e := N.env t
        have e2 := T.env (t := t) (Nat.le_refl n)
        have e3 : (List.range n).any (fun j => listed.getD j false && dstJ ops j == some t) = (List.range n).any (fun j => dstJ ops j == some t) := by
          rw [Bool.eq_iff_iff]
          simp only [List.any_eq_true, List.mem_range, Bool.and_eq_true]
          exact ⟨fun ⟨j, h1, _, h3⟩ => ⟨j, h1, h3⟩, fun ⟨j, h1, h3⟩ => ⟨j, h1, hall j h1, h3⟩⟩
        rw [e3, ← e2] at e
        simpa [List.getD, ht, ht'] using e
      have h3 : (⟨env, objs⟩ : St) = ⟨(S n).env, (S n).objs⟩ := by rw [h1, h2]
      exact h3
    rw [← this]; exact hsat
  | f + 1, listed, s, a, w, hf, inv, N, hsat => by
    rw [show f + 1 + g = (f + g) + 1 by omega]
    -- one is left
    have hex : ∃ j, j < n ∧ listed.getD j false = false := by
      have hpos : 0 < left n listed := by rw [hf]; exact Nat.succ_pos f
      obtain ⟨j, h1, h2⟩ := List.countP_pos_iff.1 hpos
      exact ⟨j, List.mem_range.1 h1, by simpa using h2⟩
    have hready : ∀ (m j : Nat), j ≤ m → j < n → listed.getD j false = false → Region.ready .any ops listed ≠ [] := by
      intro m
      induction m with
      | zero =>
        intro j hj hjn hjf hnil
        obtain ⟨o, ho⟩ := T.ok.all j hjn
        have hmem : j ∈ Region.ready .any ops listed := mem_ready.2 ⟨getD_in (by rw [inv.size]; exact (Array.getElem?_eq_some_iff.1 ho).1) hjf, o, ho, fun e he hb => by have := T.ok.back j o hjn ho e he hb; omega⟩
        rw [hnil] at hmem; cases hmem
      | succ m ih =>
        intro j hj hjn hjf hnil
        obtain ⟨o, ho⟩ := T.ok.all j hjn
        by_cases hal : ∀ e ∈ o.after, Region.binds .any e = true → listed.getD e.on false = true
        · have hmem : j ∈ Region.ready .any ops listed := mem_ready.2 ⟨getD_in (by rw [inv.size]; exact (Array.getElem?_eq_some_iff.1 ho).1) hjf, o, ho, hal⟩
          rw [hnil] at hmem; cases hmem
        · have : ∃ e, e ∈ o.after ∧ Region.binds .any e = true ∧ listed.getD e.on false = false := by
            apply Classical.byContradiction
            intro hno
            refine hal fun e he hb => ?_
            cases hl : listed.getD e.on false with
            | true => rfl
            | false => exact absurd ⟨e, he, hb, hl⟩ hno
          obtain ⟨e, he, hb, hl⟩ := this
          have := T.ok.back j o hjn ho e he hb
          exact ih e.on (by omega) (by omega) hl hnil
    obtain ⟨j, hjn, hjf⟩ := hex
    refine ⟨fun hnil => absurd hnil (hready j j (Nat.le_refl _) hjn hjf), fun i hi => ?_⟩
    have hjt : listed.getD j true = false := by
      obtain ⟨o, ho⟩ := T.ok.all j hjn
      exact getD_in (by rw [inv.size]; exact (Array.getElem?_eq_some_iff.1 ho).1) hjf
    have hin : i < n := by
      rcases Nat.lt_or_ge i n with h | h
      · exact h
      · exact absurd hi (tail_waits hs hc hn inv _ j rfl hjn hjt i h)
    obtain ⟨o, ho⟩ := T.ok.all i hin
    obtain ⟨s', Φ, hΦ, hop, N'⟩ := N.step T inv hin ho hi
    have hun := (mem_ready.1 hi).1
    have hlt : i < listed.size := by rw [inv.size]; exact (Array.getElem?_eq_some_iff.1 ho).1
    have hf' : left n (listed.setIfInBounds i true) = f := by
      have := count_one (f := fun j => !(listed.getD j false)) (g := fun j => !((listed.setIfInBounds i true).getD j false)) (i := i) (by simp [getD_both hun]) (by simp [hlt]) (fun j hj => by rw [getD_set_ne false (Ne.symm hj)]) n hin
      unfold left at hf ⊢
      omega
    refine wp_any ho (xOp_sound hΦ hop hsat fun a' w' hs' => ⟨rfl, ?_⟩)
    exact any_sim T hs hc hn htail f _ s' a' w' hf' (inv.set hi hin) N' hs'

def setAll : Nat → Nat → Array Bool → Array Bool
  | 0, _, L => L
  | f + 1, k, L => setAll f (k + 1) (L.setIfInBounds k true)
theorem setAll_size : ∀ (f k : Nat) (L : Array Bool), (setAll f k L).size = L.size
  | 0, _, _ => rfl
  | f + 1, k, L => by rw [setAll, setAll_size f]; simp
theorem setAll_get : ∀ (f k : Nat) (L : Array Bool) (j : Nat), j < L.size → (setAll f k L).getD j false = if k ≤ j ∧ j < k + f then true else L.getD j false
  | 0, k, L, j, _ => by rw [setAll, if_neg (by omega)]
  | f + 1, k, L, j, hj => by
    rw [setAll, setAll_get f (k + 1) _ j (by simpa using hj)]
    by_cases h : j = k
    · subst h
      rw [if_neg (by omega), if_pos (by omega)]
      simp [hj]
    · rw [getD_set_ne false (Ne.symm h)]
      by_cases h2 : k ≤ j ∧ j < k + (f + 1)
      · rw [if_pos h2, if_pos (by omega)]
      · rw [if_neg h2, if_neg (by omega)]
theorem lexHead_seq {g : Nat} : ∀ (f k : Nat) (L : Array Bool), Region.lexHead .any ops g f k L = true → Region.seqB .any ops g (k + f) (setAll f k L) = true
  | 0, _, _, h => h
  | f + 1, k, L, h => by
    simp only [Region.lexHead, Bool.and_eq_true] at h
    have := lexHead_seq f (k + 1) _ h.2
    rw [show k + (f + 1) = k + 1 + f by omega]
    exact this

theorem awp_m {pins : List Nat} {Q : Exit → St → Prop} {s s' : St} (hm : P.follows .mixedOrders = true) {id : Nat} {l : List Oper} {U : List Nat} (n : Nat) (hB : Region.lexTailB .any l.toArray n = true) (hM : mB l.toArray n = true)
    (hx : mSteps P l.toArray U (l.take n) s s') (h : TailOk P l.toArray Q (l.drop n) s') : AWP P pins (.region id l.toArray true) Q s := by
  intro w0 M0 D0 a w _ hs
  simp only [Region.lexTailB, Bool.and_eq_true, decide_eq_true_eq] at hB
  obtain ⟨⟨⟨⟨hsel, hn⟩, hsk⟩, hc⟩, hlex⟩ := hB
  obtain ⟨S, h0, h1, h2⟩ := mSteps_trace _ hx
  have hnl : n < l.length := by simpa using hn
  have htl : (l.take n).length = n := by simp; omega
  rw [htl] at h1
  have T : Trace P l.toArray U n S := ⟨fun i o hi ho => h2 i o (by
    rw [List.getElem?_take, if_pos hi]; simpa using ho), mOk_of hM⟩
  refine wp_region_any hm ?_
  have inv0 : HeadInv .any l.toArray n (Array.replicate l.toArray.size false) :=
    ⟨by simp, fun j oj _ hl => (by rw [getD_replicate_false] at hl; cases hl), fun t _ ht => getD_in (by simpa using ht) (getD_replicate_false _ _)⟩
  have hw1 : Below w.heap.size w { w with drawn := w.drawn + 1 } := ⟨rfl, rfl, rfl, Nat.le_refl _, fun _ _ => rfl⟩
  have hs1 : Sat w0 M0 D0 (S 0) a { w with drawn := w.drawn + 1 } := by
    rw [h0]
    obtain ⟨hd, D, hmem, he, hpin⟩ := hs
    exact ⟨hd, D, hmem.ext (grow_of_below hw1) hw1.os hw1.tape hw1.output, he.mono ((grow_of_below hw1).weaken (fun _ _ h => h.elim)) (fun _ _ h => h) hmem.lt (fun _ _ h => h), hpin⟩
  have hleft : left n (Array.replicate l.toArray.size false) = n := by
    unfold left
    have : (List.range n).countP (fun j => !((Array.replicate l.toArray.size false).getD j false)) = (List.range n).length := List.countP_eq_length.2 fun j _ => by rw [getD_replicate_false]; rfl
    rw [this, List.length_range]
  have N0 : Now l.toArray n S (Array.replicate l.toArray.size false) (S 0) := by
    refine ⟨rfl, fun t => ?_, 0, Nat.zero_le _, rfl, fun j _ _ => ?_⟩
    · rw [if_neg]
      simp only [List.any_eq_true, not_exists, not_and]
      intro j _
      rw [getD_replicate_false]; simp
    · rw [getD_replicate_false]; simp
  have fin := any_sim (Q' := fun e a' w' => ∃ s', Q e s' ∧ Sat w0 M0 D0 s' a' w') (g := l.toArray.size - n) T hsk hc hn (fun listed a w inv hall hsat => by
    rw [h1] at hsat
    have hL : listed = setAll n 0 (Array.replicate l.toArray.size false) := by
      refine Array.ext (by rw [setAll_size, inv.size]; simp) fun j hj hj' => ?_
      have hjs : j < l.toArray.size := by rw [← inv.size]; exact hj
      have e := setAll_get n 0 (Array.replicate l.toArray.size false) j (by simpa using hjs)
      rw [getD_replicate_false] at e
      have e1 : listed.getD j false = if 0 ≤ j ∧ j < 0 + n then true else false := by
        by_cases hjn : j < n
        · rw [if_pos (by omega), hall j hjn]
        · rw [if_neg (by omega), getD_both (inv.tail j (by omega) hjs)]
      rw [← e] at e1
      have a1 : listed.getD j false = listed[j] := by rw [Array.getD_eq_getD_getElem?, Array.getElem?_eq_getElem hj]; rfl
      have a2 : (setAll n 0 (Array.replicate l.toArray.size false)).getD j false = (setAll n 0 (Array.replicate l.toArray.size false))[j] := by rw [Array.getD_eq_getD_getElem?, Array.getElem?_eq_getElem hj']; rfl
      rw [a1, a2] at e1
      exact e1
    have hseq := lexHead_seq n 0 _ hlex
    rw [← hL, Nat.zero_add] at hseq
    have hdl : (l.drop n).length = l.toArray.size - n := by simp
    rw [← hdl] at hseq ⊢
    exact wpAny_of_seq (l.drop n) n listed a w (fun j => by simp [List.getElem?_drop]) hseq (h w0 M0 D0 a w hsat)) n _ (S 0) a _ hleft inv0 N0 hs1
  rw [show n + (l.toArray.size - n) = l.toArray.size by omega] at fin
  exact fin
end
end Go.Abs
