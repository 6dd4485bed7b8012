/- Regions: rules that take one operation after another, each with a table of its own. -/
import Derived.Test.YtplngcjkghnkcaaExL
namespace Go.Abs
open Go.RowKit

/-- Operations that are read, one after another. -/
def qSteps (P : Program) (ops : Array Oper) : List Oper → St → St → Prop
  | [], s, s' => s = s'
  | o :: l, s, s' => ∃ s1 Φ, Sound P Φ ∧ qOp1 P Φ ops o s = some s1 ∧ qSteps P ops l s1 s'
/-- Operations in their order, whatever the state stands for. -/
def TailOk (P : Program) (ops : Array Oper) (Q : Exit → St → Prop) (l : List Oper) (s : St) : Prop :=
  ∀ w0 M0 D0 a w, Sat w0 M0 D0 s a w → wpList P ops (fun e a' w' => ∃ s', Q e s' ∧ Sat w0 M0 D0 s' a' w') l a w

theorem qSteps_sound {P : Program} {ops : Array Oper} {w0 w : World} {M0 : Nat → Prop} {D : Names} {C : World → Prop} (hC : ∀ w', C w' ↔ Below w.heap.size w w') {Q : Act → Prop} :
    ∀ (l : List Oper) {s s' : St} {a : Act}, qSteps P ops l s s' → Mem w0 M0 s.objs D w → EnvRep w D s.env a.tmps → (s'.objs = s.objs → ∀ a', a'.defers = a.defers → EnvRep w D s'.env a'.tmps → Q a') → wpQuiet P ops C Q l a
  | [], s, s', a, h, hm, he, hq => by cases h; exact hq rfl a rfl he
  | o :: l, s, s', a, h, hm, he, hq => by
    obtain ⟨s1, Φ, hΦ, h1, h⟩ := h
    have hobj : s1.objs = s.objs := (qOp1_frame hΦ h1 hm he hC (K := fun _ => True) (fun _ _ _ => trivial) (fun _ => trivial)).1
    refine wpQuiet_step fun K hK => (qOp1_frame hΦ h1 hm he hC (fun a' hd' he' => hK _ ?_) (fun _ => trivial)).2
    exact qSteps_sound hC l h (by rw [hobj]; exact hm) he' (fun h2 a'' hd'' he'' => hq (h2.trans hobj) a'' (hd''.trans hd') he'')

theorem wpK_of_qSteps {P : Program} {ops : Array Oper} {w0 B : World} {M0 : Nat → Prop} {D : Names} {k : Nat} {Q : Act → Prop} {rest : List Oper} : ∀ (l : List Oper) (i : Nat) {s s' : St} {a : Act},
    qSteps P ops l s s' → i + l.length = k → Mem w0 M0 s.objs D B → EnvRep B D s.env a.tmps → (∀ a', a'.defers = a.defers → s'.objs = s.objs → EnvRep B D s'.env a'.tmps → wpK P ops B k Q rest k a') → wpK P ops B k Q (l ++ rest) i a
  | [], i, s, s', a, h, hi, hm, he, hq => by
    cases h
    simp only [List.length_nil, Nat.add_zero] at hi; subst hi
    exact hq a rfl rfl he
  | o :: l, i, s, s', a, h, hi, hm, he, hq => by
    obtain ⟨s1, Φ, hΦ, h1, h⟩ := h
    simp only [List.length_cons] at hi
    obtain ⟨e, v, hy, he'⟩ := qOp1_yd hΦ h1 hm he (k := k) (i := i) (by omega)
    exact ⟨v, hy, wpK_of_qSteps l (i + 1) h (by omega) (by rw [e]; exact hm) he' (fun a' hd ho he'' => hq a' (hd.trans (put_defers _ _ _)) (ho.trans e) he'')⟩

theorem awp_x {P : Program} {pins : List Nat} {Q : Exit → St → Prop} {s : St} {id : Nat} {ops : Array Oper} (h : TailOk P ops Q ops.toList s) : AWP P pins (.region id ops false) Q s :=
  fun w0 M0 D0 a w _ hs => wp_region_list (h w0 M0 D0 a w hs)

theorem awp_q {P : Program} {pins : List Nat} {Q : Exit → St → Prop} {s s' : St} (hm : P.follows .mixedOrders = true) {id : Nat} {ops : Array Oper} (hB : Region.lexB .any ops = true) (hx : qSteps P ops ops.toList s s') (h : Q .normal s') : AWP P pins (.region id ops true) Q s := by
  intro w0 M0 D0 a w _ hs
  obtain ⟨hd, D, hmem, he, hpin⟩ := hs
  refine wp_region_quiet (C := fun w' => Below w.heap.size w w') hm hB ⟨rfl, rfl, rfl, Nat.le_refl _, fun _ _ => rfl⟩ ?_
  refine qSteps_sound (fun _ => Iff.rfl) ops.toList hx hmem he fun hobj a' hd' he' w' hw' => ⟨s', h, hd'.trans hd, D, ?_, ?_, ?_⟩
  · rw [hobj]
    exact hmem.ext (grow_of_below hw') hw'.os hw'.tape hw'.output
  · exact he'.mono ((grow_of_below hw').weaken (fun _ _ h => h.elim)) (fun _ _ h => h) hmem.lt (fun _ _ h => h)
  · rw [hobj]; exact hpin

theorem awp_qt {P : Program} {pins : List Nat} {Q : Exit → St → Prop} {s s1 : St} (hm : P.follows .mixedOrders = true) {id : Nat} {l : List Oper} (n : Nat) (hB : Region.lexTailB .any l.toArray n = true)
    (hx : qSteps P l.toArray (l.take n) s s1) (h : TailOk P l.toArray Q (l.drop n) s1) : AWP P pins (.region id l.toArray true) Q s := by
  intro w0 M0 D0 a w _ hs
  obtain ⟨hd, D, hmem, he, hpin⟩ := hs
  refine wp_region_qt (C := fun w' => Below w.heap.size w w') n hm hB ⟨rfl, rfl, rfl, Nat.le_refl _, fun _ _ => rfl⟩ ?_
  refine qSteps_sound (fun _ => Iff.rfl) (l.take n) hx hmem he fun hobj a' hd' he' w' hw' => ?_
  refine h w0 M0 D0 a' w' ⟨hd'.trans hd, D, ?_, ?_, ?_⟩
  · rw [hobj]
    exact hmem.ext (grow_of_below hw') hw'.os hw'.tape hw'.output
  · exact he'.mono ((grow_of_below hw').weaken (fun _ _ h => h.elim)) (fun _ _ h => h) hmem.lt (fun _ _ h => h)
  · rw [hobj]; exact hpin

theorem awp_da {P : Program} {pins : List Nat} {Q : Exit → St → Prop} {s s1 s2' : St} (hm : P.follows .mixedOrders = true) {id : Nat} {hd tl : List Oper} {d : Tmp} {T : TypeId} {ty : TypeId} {pos : String} {aft : Array Edge}
    (hB : Region.lexTailB .any (hd ++ ⟨some d, .alloc T, ty, pos, aft, none⟩ :: tl).toArray (hd.length + 1) = true) (hA : aloneB (hd ++ ⟨some d, .alloc T, ty, pos, aft, none⟩ :: tl).toArray (hd.length + 1) hd.length d = true) (hz : (zeroCells P T).isSome = true)
    (hx : qSteps P (hd ++ ⟨some d, .alloc T, ty, pos, aft, none⟩ :: tl).toArray hd s s1)
    (hx1 : ∀ w0 M0 D0 a w, Sat w0 M0 D0 ⟨putA s1.env (some d) .und, s1.objs⟩ a w → wpList P (hd ++ ⟨some d, .alloc T, ty, pos, aft, none⟩ :: tl).toArray (fun e a' w' => e = .normal ∧ Sat w0 M0 D0 s2' a' w') [⟨some d, .alloc T, ty, pos, aft, none⟩] a w)
    (h : TailOk P (hd ++ ⟨some d, .alloc T, ty, pos, aft, none⟩ :: tl).toArray Q tl s2') :
    AWP P pins (.region id (hd ++ ⟨some d, .alloc T, ty, pos, aft, none⟩ :: tl).toArray true) Q s := by
  intro w0 M0 D0 a w _ hs
  obtain ⟨hdf, D, hmem, he, hpin⟩ := hs
  generalize hok : (⟨some d, .alloc T, ty, pos, aft, none⟩ : Oper) = ok at *
  generalize hl : hd ++ ok :: tl = l at *
  have hokl : l.toArray[hd.length]? = some ok := by rw [← hl]; simp
  obtain ⟨z, hz⟩ := Option.isSome_iff_exists.1 hz
  obtain ⟨i, zv, hi, hzv, _, _⟩ := cellsOne_zero w D hz
  have hrun : ∀ (ρ : Operand → Value) (w : World), (execOp ρ ok).run P w = .ok (.value (.pointer (some ⟨w.heap.size, 0, none⟩))) (w.alloc (.cells zv.cells.toList.toArray T)) := by
    intro ρ w
    rw [← hok]
    simp [execOp, Instr.alloc, zeroValue, typeInfo, hi, hzv, newVar, newRow]
  simp only [Region.lexTailB, Bool.and_eq_true, decide_eq_true_eq] at hB
  obtain ⟨⟨⟨⟨hsel, hn⟩, hsk⟩, hc⟩, hlex⟩ := hB
  have hsz : l.toArray.size = hd.length + 1 + tl.length := by rw [← hl]; simp; omega
  have inv0 : HeadInv .any l.toArray (hd.length + 1) (Array.replicate l.toArray.size false) :=
    ⟨by simp, fun j oj _ hl => (by rw [getD_replicate_false] at hl; cases hl), fun t _ ht => getD_in (by simpa using ht) (getD_replicate_false _ _)⟩
  have hw1 : Below w.heap.size w { w with drawn := w.drawn + 1 } := ⟨rfl, rfl, rfl, Nat.le_refl _, fun _ _ => rfl⟩
  let Lq : Act → Prop := fun a' => a'.defers = a.defers ∧ s1.objs = s.objs ∧ EnvRep w D (putA s1.env (some d) .und) a'.tmps
  have hwk : wpK P l.toArray w hd.length Lq (hd ++ [ok]) 0 a := wpK_of_qSteps hd 0 hx (by simp) hmem he (fun a' hd' ho he' => by
    refine ⟨undef, .inl ⟨rfl, rfl⟩, (put_defers _ _ _).trans hd', ho, ?_⟩
    rw [← hok]
    exact he'.put (some d) (by simp only [Slot, Val, Cell]; exact .und))
  have H := headK_lex (P := P) (md := .any) (g := tl.length) hsel hsk hc hn (hd ++ [ok]) 0 _ a (fun j hj => by
    have hj' : j < hd.length + 1 := by simpa using hj
    rw [← hl]
    simp only [Nat.zero_add, List.getElem?_toArray]
    rw [List.getElem?_append, List.getElem?_append]
    split
    · rfl
    · rename_i hge
      have : j - hd.length = 0 := by omega
      rw [this]; rfl) (by simp) inv0 (by rw [show l.toArray.size - (hd.length + 1) = tl.length by omega] at hlex; simpa using hlex) hwk
  refine wp_region_any hm ?_
  have fin := sim_head (P := P) (ops := l.toArray) (md := .any) (B := w) (k := hd.length) (n := hd.length + 1) (g := tl.length) (Q' := fun e a' w' => ∃ s', Q e s' ∧ Sat w0 M0 D0 s' a' w') (ok := ok) (d := d) hokl (by rw [← hok]) (by rw [← hok]) hrun (Region.noSelect_spec hsel)
    (fun i o hin hik hio => by
      have := List.all_eq_true.1 hA i (List.mem_range.2 hin)
      simp only [hio, Bool.or_eq_true, beq_iff_eq, Bool.and_eq_true, Bool.not_eq_true'] at this
      rcases this with h | h
      · exact absurd h hik
      · exact ⟨by simpa using h.1, by simpa using h.2⟩)
    (fun listed a' a2 w2 hL inv hcome => by
      obtain ⟨hseq, hdef, hobj, he1⟩ := hL
      by_cases hkl : listed.getD hd.length false = true
      · rw [if_pos hkl] at hcome
        obtain ⟨w1, hb1, hb2, rfl⟩ := hcome
        ·
          have hmem1 : Mem w0 M0 s1.objs D w1 := by rw [hobj]; exact hmem.ext (grow_of_below hb1) hb1.os hb1.tape hb1.output
          have hsat1 : Sat w0 M0 D0 ⟨putA s1.env (some d) .und, s1.objs⟩ a' w1 := ⟨hdef.trans hdf, D, hmem1, envRep_below he1 hb1 hmem.lt, by simp only [hobj]; exact hpin⟩
          have hx := hx1 w0 M0 D0 a' w1 hsat1
          have hsat2 : Sat w0 M0 D0 s2' (a'.put (some d) (.pointer (some ⟨w1.heap.size, 0, none⟩))) (w1.alloc (.cells zv.cells.toList.toArray T)) := by
            have hgw : Region.wanted ok (yielded l.toArray a'.tmps) = true := by rw [← hok]; simp [Region.wanted]
            simp only [wpList, hgw, if_true] at hx
            unfold Oper.wp at hx
            rw [hrun] at hx
            rw [← hok] at hx
            rcases hx with hx | ⟨_, hx⟩
            · simpa [Oper.upon] using hx
            · simp [LetsOut] at hx
          have hsat3 : Sat w0 M0 D0 s2' (a'.put (some d) (.pointer (some ⟨w1.heap.size, 0, none⟩))) w2 := by
            obtain ⟨q1, D2, q2, q3, q4⟩ := hsat2
            exact ⟨q1, D2, q2.ext (grow_of_below hb2) hb2.os hb2.tape hb2.output, envRep_below q3 hb2 q2.lt, q4⟩
          refine wpAny_of_seq tl (hd.length + 1) listed _ w2 (fun j => ?_) hseq (h w0 M0 D0 _ w2 hsat3)
          rw [← hl]
          simp only [List.getElem?_toArray]
          rw [List.getElem?_append_right (by omega), show hd.length + 1 + j - hd.length = j + 1 by omega]
          rfl
      · exfalso
        have hkf : listed.getD hd.length false = false := by simpa using hkl
        have hlt : hd.length < listed.size := by rw [inv.size, hsz]; omega
        have hnr := tail_waits hsk hc hn inv _ hd.length rfl (Nat.lt_succ_self _) (getD_in hlt hkf) (hd.length + 1) (Nat.le_refl _)
        have hpos : tl.length = (tl.length - 1) + 1 := by omega
        rw [hpos] at hseq
        simp only [Region.seqB, Bool.and_eq_true, decide_eq_true_eq] at hseq
        rw [hseq.1] at hnr
        exact hnr (by simp)) _ _ a a { w with drawn := w.drawn + 1 } H inv0 (by rw [if_neg (by rw [getD_replicate_false]; decide)]; exact ⟨rfl, hw1⟩)
  rw [show (hd ++ [ok]).length + tl.length = l.toArray.size by rw [hsz]; simp] at fin
  exact fin
end Go.Abs
