/- The walks' library, part F: what a region of the program does in an abstract state, and its soundness. -/
import Derived.Test.YtodandhnddjfpaaDoorLibE
/- Regions in which reads and calls, the calls one behind the other, come in any order: the rule. -/
namespace Go.Abs
open Go.RowKit

section
variable {P : Program} {ops : Array Oper} {n : Nat} {listed : Array Bool}

theorem wp_any {Q' : Exit → Act → World → Prop} {K : Act → World → Prop} {o : Oper} {i : Nat} {a : Act} {w : World} (hi : ops[i]? = some o) (h : wpList P ops (fun e a' w' => e = .normal ∧ K a' w') [o] a w) : wpOp P ops Q' i K a w := by
  unfold wpOp
  simp only [hi]
  simp only [wpList] at h
  split at h
  · rename_i hw
    rw [if_pos hw]
    rcases h with h | ⟨_, a', w', h, _⟩
    · left
      unfold Oper.wp at *
      generalize (execOp a.eval o).run P w = r at *
      cases r with
      | ok k w' =>
        cases k <;> simp only [Oper.upon] at h ⊢ <;>
          first
            | exact h.2
            | exact Calls.mono h (fun e w'' he => by
                cases e with
                | returned v => exact he.2
                | panicked c => exact absurd he.1 (by intro h; cases h)
                | outgrown => obtain ⟨_, _, h, _⟩ := he; exact absurd h (by intro h; cases h))
            | exact Rows.mono h (fun _ _ he => he.2)
            | exact h
      | halt x w' =>
        cases x <;> simp only [Oper.upon] at h ⊢ <;> first | exact absurd h.1 (by intro h; cases h) | exact h
    · cases h
  · rename_i hw
    rw [if_neg hw]
    exact h.2

theorem count_eq {f g : Nat → Bool} : ∀ n : Nat, (∀ j, j < n → f j = g j) → (List.range n).countP f = (List.range n).countP g
  | 0, _ => rfl
  | n + 1, h => by
    rw [List.range_succ, List.countP_append, List.countP_append, count_eq n fun j hj => h j (by omega)]
    simp [h n (Nat.lt_succ_self n)]
theorem count_one {f g : Nat → Bool} {i : Nat} (hf : f i = true) (hg : g i = false) (h : ∀ j, j ≠ i → f j = g j) : ∀ n : Nat, i < n → (List.range n).countP f = (List.range n).countP g + 1
  | 0, hi => by omega
  | n + 1, hi => by
    rw [List.range_succ, List.countP_append, List.countP_append]
    by_cases hin : i = n
    · subst hin
      rw [count_eq i fun j hj => h j (by omega)]
      simp [hf, hg]
    · rw [count_one hf hg h n (by omega)]
      simp [h n (Ne.symm hin)]; omega
def left (n : Nat) (listed : Array Bool) : Nat := (List.range n).countP fun j => !(listed.getD j false)

theorem any_sim {U : List Nat} {S : Nat → St} (T : Trace P ops U n S) {g : Nat} {Q' : Exit → Act → World → Prop} {w0 : World} {M0 : Nat → Prop} {D0 : Names} (hs : Region.sinkB .any ops n = true) (hc : Region.chainB .any ops n = true) (hn : n < ops.size)
    (htail : ∀ listed a w, HeadInv .any ops n listed → (∀ j, j < n → listed.getD j false = true) → Sat w0 M0 D0 (S n) a w → wpAny P .any ops Q' g listed a w) :
    ∀ (f : Nat) (listed : Array Bool) (s : St) (a : Act) (w : World), left n listed = f → HeadInv .any ops n listed → Now ops n S listed s → Sat w0 M0 D0 s a w → wpAny P .any ops Q' (f + g) listed a w
  | 0, listed, s, a, w, hf, inv, N, hsat => by
    have hall : ∀ j, j < n → listed.getD j false = true := by
      intro j hj
      have := List.countP_eq_zero.1 hf j (List.mem_range.2 hj)
      simpa using this
    rw [Nat.zero_add]
    refine htail listed a w inv hall ?_
    have : s = S n := by
      obtain ⟨env, objs⟩ := s
      obtain ⟨p, hp, hobj, hch⟩ := N.objs
      have h1 : objs = (S n).objs := by
        rw [show objs = (S p).objs from hobj]
        refine (T.objs n hp (Nat.le_refl _) fun j h1 h2 => ?_).symm
        cases hcj : chB ops j with
        | false => rfl
        | true => have := (hch j h2 hcj).1 (hall j h2); omega
      have h2 : env = (S n).env := by
        have hl : env.length = (S n).env.length := by rw [T.len n (Nat.le_refl _)]; exact N.len
        refine List.ext_getElem hl fun t ht ht' => ?_
        have e := N.env t
        have e2 := T.env (t := t) (Nat.le_refl n)
        have e3 : (List.range n).any (fun j => listed.getD j false && dstJ ops j == some t) = (List.range n).any (fun j => dstJ ops j == some t) := by
          rw [Bool.eq_iff_iff]
          simp only [List.any_eq_true, List.mem_range, Bool.and_eq_true]
          exact ⟨fun ⟨j, h1, _, h3⟩ => ⟨j, h1, h3⟩, fun ⟨j, h1, h3⟩ => ⟨j, h1, hall j h1, h3⟩⟩
        rw [e3, ← e2] at e
        simpa [List.getD, ht, ht'] using e
      have h3 : (⟨env, objs⟩ : St) = ⟨(S n).env, (S n).objs⟩ := by rw [h1, h2]
      exact h3
    rw [← this]; exact hsat
  | f + 1, listed, s, a, w, hf, inv, N, hsat => by
    rw [show f + 1 + g = (f + g) + 1 by omega]
    -- one is left
    have hex : ∃ j, j < n ∧ listed.getD j false = false := by
      have hpos : 0 < left n listed := by rw [hf]; exact Nat.succ_pos f
      obtain ⟨j, h1, h2⟩ := List.countP_pos_iff.1 hpos
      exact ⟨j, List.mem_range.1 h1, by simpa using h2⟩
    have hready : ∀ (m j : Nat), j ≤ m → j < n → listed.getD j false = false → Region.ready .any ops listed ≠ [] := by
      intro m
      induction m with
      | zero =>
        intro j hj hjn hjf hnil
        obtain ⟨o, ho⟩ := T.ok.all j hjn
        have hmem : j ∈ Region.ready .any ops listed := mem_ready.2 ⟨getD_in (by rw [inv.size]; exact (Array.getElem?_eq_some_iff.1 ho).1) hjf, o, ho, fun e he hb => by have := T.ok.back j o hjn ho e he hb; omega⟩
        rw [hnil] at hmem; cases hmem
      | succ m ih =>
        intro j hj hjn hjf hnil
        obtain ⟨o, ho⟩ := T.ok.all j hjn
        by_cases hal : ∀ e ∈ o.after, Region.binds .any e = true → listed.getD e.on false = true
        · have hmem : j ∈ Region.ready .any ops listed := mem_ready.2 ⟨getD_in (by rw [inv.size]; exact (Array.getElem?_eq_some_iff.1 ho).1) hjf, o, ho, hal⟩
          rw [hnil] at hmem; cases hmem
        · have : ∃ e, e ∈ o.after ∧ Region.binds .any e = true ∧ listed.getD e.on false = false := by
            apply Classical.byContradiction
            intro hno
            refine hal fun e he hb => ?_
            cases hl : listed.getD e.on false with
            | true => rfl
            | false => exact absurd ⟨e, he, hb, hl⟩ hno
          obtain ⟨e, he, hb, hl⟩ := this
          have := T.ok.back j o hjn ho e he hb
          exact ih e.on (by omega) (by omega) hl hnil
    obtain ⟨j, hjn, hjf⟩ := hex
    refine ⟨fun hnil => absurd hnil (hready j j (Nat.le_refl _) hjn hjf), fun i hi => ?_⟩
    have hjt : listed.getD j true = false := by
      obtain ⟨o, ho⟩ := T.ok.all j hjn
      exact getD_in (by rw [inv.size]; exact (Array.getElem?_eq_some_iff.1 ho).1) hjf
    have hin : i < n := by
      rcases Nat.lt_or_ge i n with h | h
      · exact h
      · exact absurd hi (tail_waits hs hc hn inv _ j rfl hjn hjt i h)
    obtain ⟨o, ho⟩ := T.ok.all i hin
    obtain ⟨s', Φ, hΦ, hop, N'⟩ := N.step T inv hin ho hi
    have hun := (mem_ready.1 hi).1
    have hlt : i < listed.size := by rw [inv.size]; exact (Array.getElem?_eq_some_iff.1 ho).1
    have hf' : left n (listed.setIfInBounds i true) = f := by
      have := count_one (f := fun j => !(listed.getD j false)) (g := fun j => !((listed.setIfInBounds i true).getD j false)) (i := i) (by simp [getD_both hun]) (by simp [hlt]) (fun j hj => by rw [getD_set_ne false (Ne.symm hj)]) n hin
      unfold left at hf ⊢
      omega
    refine wp_any ho (xOp_sound hΦ hop hsat fun a' w' hs' => ⟨rfl, ?_⟩)
    exact any_sim T hs hc hn htail f _ s' a' w' hf' (inv.set hi hin) N' hs'

def setAll : Nat → Nat → Array Bool → Array Bool
  | 0, _, L => L
  | f + 1, k, L => setAll f (k + 1) (L.setIfInBounds k true)
theorem setAll_size : ∀ (f k : Nat) (L : Array Bool), (setAll f k L).size = L.size
  | 0, _, _ => rfl
  | f + 1, k, L => by rw [setAll, setAll_size f]; simp
theorem setAll_get : ∀ (f k : Nat) (L : Array Bool) (j : Nat), j < L.size → (setAll f k L).getD j false = if k ≤ j ∧ j < k + f then true else L.getD j false
  | 0, k, L, j, _ => by rw [setAll, if_neg (by omega)]
  | f + 1, k, L, j, hj => by
    rw [setAll, setAll_get f (k + 1) _ j (by simpa using hj)]
    by_cases h : j = k
    · subst h
      rw [if_neg (by omega), if_pos (by omega)]
      simp [hj]
    · rw [getD_set_ne false (Ne.symm h)]
      by_cases h2 : k ≤ j ∧ j < k + (f + 1)
      · rw [if_pos h2, if_pos (by omega)]
      · rw [if_neg h2, if_neg (by omega)]
theorem lexHead_seq {g : Nat} : ∀ (f k : Nat) (L : Array Bool), Region.lexHead .any ops g f k L = true → Region.seqB .any ops g (k + f) (setAll f k L) = true
  | 0, _, _, h => h
  | f + 1, k, L, h => by
    simp only [Region.lexHead, Bool.and_eq_true] at h
    have := lexHead_seq f (k + 1) _ h.2
    rw [show k + (f + 1) = k + 1 + f by omega]
    exact this

theorem reg_m {pins : List Nat} {Q : St → Prop} {s s' : St} {l : List Oper} {U : List Nat} (n : Nat) (hB : Region.lexTailB .any l.toArray n = true) (hM : mB l.toArray n = true)
    (hx : mSteps P l.toArray U (l.take n) s s') (h : TailOk P pins l.toArray Q (l.drop n) s') : RegOk P pins l.toArray true s Q := by
  intro w0 M0 D0 a w hpp hs
  simp only [Region.lexTailB, Bool.and_eq_true, decide_eq_true_eq] at hB
  obtain ⟨⟨⟨⟨hsel, hn⟩, hsk⟩, hc⟩, hlex⟩ := hB
  obtain ⟨S, h0, h1, h2⟩ := mSteps_trace _ hx
  have hnl : n < l.length := by simpa using hn
  have htl : (l.take n).length = n := by simp; omega
  rw [htl] at h1
  have T : Trace P l.toArray U n S := ⟨fun i o hi ho => h2 i o (by
    rw [List.getElem?_take, if_pos hi]; simpa using ho), mOk_of hM⟩
  refine ⟨fun h => by (cases h), fun _ => ?_⟩
  have inv0 : HeadInv .any l.toArray n (Array.replicate l.toArray.size false) :=
    ⟨by simp, fun j oj _ hl => (by rw [getD_replicate_false] at hl; cases hl), fun t _ ht => getD_in (by simpa using ht) (getD_replicate_false _ _)⟩
  have hw1 : Below w.heap.size w { w with drawn := w.drawn + 1 } := ⟨rfl, rfl, rfl, Nat.le_refl _, fun _ _ => rfl⟩
  have hs1 : Sat w0 M0 D0 (S 0) a { w with drawn := w.drawn + 1 } := by
    rw [h0]
    obtain ⟨hd, D, hmem, he, hpin⟩ := hs
    exact ⟨hd, D, hmem.ext (grow_of_below hw1) hw1.os hw1.tape hw1.output, he.mono ((grow_of_below hw1).weaken (fun _ _ h => h.elim)) (fun _ _ h => h) hmem.lt (fun _ _ h => h), hpin⟩
  have hleft : left n (Array.replicate l.toArray.size false) = n := by
    unfold left
    have : (List.range n).countP (fun j => !((Array.replicate l.toArray.size false).getD j false)) = (List.range n).length := List.countP_eq_length.2 fun j _ => by rw [getD_replicate_false]; rfl
    rw [this, List.length_range]
  have N0 : Now l.toArray n S (Array.replicate l.toArray.size false) (S 0) := by
    refine ⟨rfl, fun t => ?_, 0, Nat.zero_le _, rfl, fun j _ _ => ?_⟩
    · rw [if_neg]
      simp only [List.any_eq_true, not_exists, not_and]
      intro j _
      rw [getD_replicate_false]; simp
    · rw [getD_replicate_false]; simp
  have fin := any_sim (Q' := Nrm (SatQ w0 M0 D0 Q)) (g := l.toArray.size - n) T hsk hc hn (fun listed a w inv hall hsat => by
    rw [h1] at hsat
    have hL : listed = setAll n 0 (Array.replicate l.toArray.size false) := by
      refine Array.ext (by rw [setAll_size, inv.size]; simp) fun j hj hj' => ?_
      have hjs : j < l.toArray.size := by rw [← inv.size]; exact hj
      have e := setAll_get n 0 (Array.replicate l.toArray.size false) j (by simpa using hjs)
      rw [getD_replicate_false] at e
      have e1 : listed.getD j false = if 0 ≤ j ∧ j < 0 + n then true else false := by
        by_cases hjn : j < n
        · rw [if_pos (by omega), hall j hjn]
        · rw [if_neg (by omega), getD_both (inv.tail j (by omega) hjs)]
      rw [← e] at e1
      have a1 : listed.getD j false = listed[j] := by rw [Array.getD_eq_getD_getElem?, Array.getElem?_eq_getElem hj]; rfl
      have a2 : (setAll n 0 (Array.replicate l.toArray.size false)).getD j false = (setAll n 0 (Array.replicate l.toArray.size false))[j] := by rw [Array.getD_eq_getD_getElem?, Array.getElem?_eq_getElem hj']; rfl
      rw [a1, a2] at e1
      exact e1
    have hseq := lexHead_seq n 0 _ hlex
    rw [← hL, Nat.zero_add] at hseq
    have hdl : (l.drop n).length = l.toArray.size - n := by simp
    rw [← hdl] at hseq ⊢
    exact wpAny_of_seq (l.drop n) n listed a w (fun j => by simp [List.getElem?_drop]) hseq (h w0 M0 D0 a w hpp hsat)) n _ (S 0) a _ hleft inv0 N0 hs1
  rw [show n + (l.toArray.size - n) = l.toArray.size by omega] at fin
  exact fin
end
end Go.Abs

/- Heads of reads and calls: the executor's side. -/
namespace Go.Abs
open Go.RowKit

theorem nm_av {O : SObjs} {x : SV} {n : Nat} (h : n ∈ nmA (x.av O)) : n ∈ nmS x := by
  cases x with
  | tup l => simp [SV.av, nmA] at h
  | v x =>
    cases x with
    | g l => simp [SV.av, VV.av, nmA] at h
    | c x =>
      cases x with
      | k v => cases v <;> simp [SV.av, VV.av, CV.av, KV.av, nmA] at h
      | own m =>
        simp only [SV.av, VV.av, CV.av] at h
        split at h
        · simpa [nmA, nmS] using h
        · simp [nmA] at h
      | msl m sz off len => simpa [SV.av, VV.av, CV.av, nmA, nmS] using h
      | ref m sz i off => simpa [SV.av, VV.av, CV.av, nmA, nmS] using h
      | raw a =>
        simp only [SV.av, VV.av, CV.av] at h
        split at h <;> simp [nmA] at h
      | _ => simp [SV.av, VV.av, CV.av, nmA] at h
theorem okU_spec {U : List Nat} {C : Cfg} {s : SS} {op : Op} (h : okU U C s op = true) : ∀ y, rTouch op = some y → ∀ n ∈ nmA (ev (s.st C.N).env y), n ∉ U := by
  intro y hy n hn hU
  rw [← sev_av] at hn
  unfold okU at h
  simp only [hy] at h
  have := List.all_eq_true.1 h n (nm_av hn)
  simp only [Bool.not_eq_true', List.contains_eq_mem] at this
  simp [hU] at this

theorem killC_cl {d : Nat} {x : CV} (h : clCV d x = true) : killC d x = x := by
  cases x with
  | own m => simp only [clCV, Bool.not_eq_true', beq_eq_false_iff_ne] at h; simp [killC, h]
  | msl m sz off len => simp only [clCV, Bool.not_eq_true', beq_eq_false_iff_ne] at h; simp [killC, h]
  | ref m sz i off => simp only [clCV, Bool.not_eq_true', beq_eq_false_iff_ne] at h; simp [killC, h]
  | wrp f ns =>
    have h1 : ¬ (ns.map (·.1)).contains d = true := by
      intro hc
      rw [wrp_mem, List.mem_map] at hc
      obtain ⟨p, hp, e⟩ := hc
      have := List.all_eq_true.1 h p hp
      simp [e] at this
    exact if_neg h1
  | _ => rfl
theorem killL_cl {d : Nat} : ∀ {l : List CV}, l.all (clCV d) = true → l.map (killC d) = l
  | [], _ => rfl
  | x :: l, h => by
    simp only [List.all_cons, Bool.and_eq_true] at h
    rw [List.map_cons, killC_cl h.1, killL_cl h.2]
theorem killV_cl {d : Nat} {x : VV} (h : clVV d x = true) : mapVC (killC d) x = x := by
  cases x with
  | c x => show VV.c (killC d x) = _; rw [killC_cl h]
  | g l => show VV.g (l.map (killC d)) = _; rw [killL_cl h]
theorem killS_cl {d : Nat} {x : SV} (h : clSV d x = true) : mapSC (killC d) x = x := by
  cases x with
  | v x => show SV.v (mapVC (killC d) x) = _; rw [killV_cl h]
  | tup l =>
    show SV.tup (l.map (mapVC (killC d))) = _
    have key : ∀ l : List VV, l.all (clVV d) = true → l.map (mapVC (killC d)) = l := by
      intro l
      induction l with
      | nil => intro _; rfl
      | cons x l ih =>
        intro h
        simp only [List.all_cons, Bool.and_eq_true] at h
        rw [List.map_cons, killV_cl h.1, ih h.2]
    rw [key l h]
theorem killE_cl {d : Nat} : ∀ {E : List (Nat × SV)}, clEnv d E = true → mapEC (killC d) E = E
  | [], _ => rfl
  | (n, x) :: r, h => by
    simp only [clEnv, Bool.and_eq_true] at h
    rw [mapEC, killS_cl h.1, killE_cl h.2]
theorem killO_cl {d : Nat} : ∀ {O : SObjs}, clObj d O = true → mapOC (killC d) O = O
  | [], _ => rfl
  | (n, .box cs) :: r, h => by
    simp only [clObj, Bool.and_eq_true] at h
    rw [mapOC, killL_cl h.1, killO_cl h.2]
  | (n, .arr ts l) :: r, h => by
    simp only [clObj] at h
    rw [mapOC, killO_cl h]
  | (n, .mp _ _ _) :: r, h => by
    simp only [clObj] at h
    rw [mapOC, killO_cl h]
theorem clean_no {d : Nat} {s : SS} (h : cleanB d s = true) : NoOwn d s := by
  simp only [cleanB, Bool.and_eq_true, Option.isNone_iff_eq_none] at h
  refine ⟨h.1, s.env, s.objs, ?_⟩
  rw [killE_cl h.2.1, killO_cl h.2.2]

theorem sCallM_sound {P : Program} {R : Type} {FT : List (Nat × Entry)} (hFT : FTok P FT) {C : Cfg} {U : List Nat} {s : SS} {dst : Option Tmp} {f : FuncId} {xs : List Operand} {K : SS → Option R} {r : R}
    (h : sCallM C FT U s dst f xs K = some r) : ∃ f' x Φ, Sound P Φ ∧ cLoc Φ (s.st C.N).env (s.st C.N).objs (dst.getD 999998) f xs = some (x, (f'.st C.N).objs) ∧ (f'.st C.N).env = putA (s.st C.N).env dst x ∧
      Agree U (s.st C.N).objs (f'.st C.N).objs ∧ K f' = some r := by
  unfold sCallM at h
  split at h
  · cases h
  · rename_i e he
    split at h
    · cases h
    · rename_i hcond
      simp only [Bool.and_eq_true, Bool.or_eq_true] at hcond
      have hno := clean_no hcond.1
      split at h
      · cases h
      · rename_i a ha
        split at h
        case isFalse => cases h
        rename_i hc
        simp only [obind] at h
        obtain ⟨q, hF, hK⟩ := Option.bind_eq_some_iff.1 h
        rcases hcond.2 with hbg | ⟨hfn, hU⟩
        · obtain ⟨ys, h1, h2, h3⟩ := quiet_call hFT he hbg.1 hbg.2 ha hF
          obtain ⟨g1, g2, g3, g4⟩ := ground_r e.sig.ret q.1 hbg.2
          have hset : setBoxes e.sig.args (xs.map (sev C s)) q.2 s.objs = s.objs := setBoxes_no (noBx_of hbg.1)
          have key : ∀ (rt : RT) (y : rt.T), gRT rt = true → (retS (dst.getD 999998) ⟨s.env, s.objs⟩ rt y).2 = s ∧ (retS (dst.getD 999998) ⟨s.env, s.objs⟩ rt y).1.av s.objs = rt.av y := by
            intro rt y hg
            cases rt with
            | v c => exact ⟨rfl, csv_av c y⟩
            | tup l => exact ⟨rfl, by simp only [retS, SV.av, vvs_av, RT.av]⟩
            | _ => simp [gRT] at hg
          rw [hset] at hK
          obtain ⟨k1, k2⟩ := key e.sig.ret q.1 hbg.2
          rw [k1] at hK
          have hst : (s.put dst (retS (dst.getD 999998) ⟨s.env, s.objs⟩ e.sig.ret q.1).1).st C.N = ⟨putA (s.st C.N).env dst (e.sig.ret.av q.1), (s.st C.N).objs⟩ := by rw [put_st, k2]
          refine ⟨_, e.sig.ret.av q.1, one f ys [] ⟨e.sig.ret.av q.1, [], none⟩, one_sound (hFT f e he).1 h3, ?_, ?_, ?_, hK⟩
          · rw [hst]
            unfold cLoc
            split
            · rename_i hn
              have e1 := lend_id hn h1
              subst e1
              obtain ⟨m1, m2⟩ := nf_args h2
              simp only [cGive, m2, lookAll, List.filterMap_nil, List.map_nil, boxesOk, one_eq]
              rw [if_pos ⟨m1, trivial, List.nodup_nil, trivial, look_none hno.1, hc.1, by simp⟩]
              simp only [g3, updAll]
              rw [if_pos ⟨trivial, trivial, g4⟩]
              rfl
            · unfold cLend
              rw [h1]
              simp only [h2, if_true, one_eq, g1]
              rfl
          · rw [hst]
          · rw [hst]; exact fun _ _ => rfl
        · have hfn : firstC (xs.flatMap fun o => cellsOfS (sev C s o)) = none := by simpa using hfn
          obtain ⟨Φ, hr, h1, h2, h3, h4, h5⟩ := give_call (dst := dst) hFT he hno hfn ha hF hc.1 hc.2.1 hc.2.2
          have hgive : cGive Φ (s.st C.N).env (s.st C.N).objs (dst.getD 999998) f xs = some hr := by
            unfold cOp at h2
            rw [h4] at h2
            exact h2
          have henv := cGive_env hgive
          refine ⟨_, hr.x, Φ, h1, ?_, ?_, ?_, hK⟩
          · rw [← h3]
            unfold cLoc
            rw [h4]
            simp only [hgive, Option.map_some]
          · rw [← h3, henv]
          · rw [← h3]
            intro n hn
            refine h5 n (fun e => hn ?_) (fun e => hn ?_)
            · rw [e]; simpa using hU.1
            · have := List.all_eq_true.1 hU.2 n e
              simpa using this

theorem sOpM_step {P : Program} {C : Cfg} {FT : List (Nat × Entry)} (hG : Good P C.G) (hFT : FTok P FT) {R : Type} {ops : Array Oper} {U : List Nat} {o : Oper} {s : SS} {K : SS → Option R} {r : R}
    (h : sOpM C FT U s o.dst o.op K = some r) (hg : guardOf ops (s.st C.N).env o = some true) : ∃ f', mStep P ops U o (s.st C.N) (f'.st C.N) ∧ K f' = some r := by
  unfold sOpM at h
  split at h
  · rename_i f args tys hop
    obtain ⟨f', x, Φ, a1, a2, a3, a4, a5⟩ := sCallM_sound hFT h
    exact ⟨f', ⟨x, a3, .inr (.inr ⟨hg, a4, Φ, f, args, tys, a1, hop, a2⟩)⟩, a5⟩
  · rename_i c x y hop
    split at h
    · rename_i t ht
      have hev := asK_ev ht
      simp only [br] at h
      have hx : rOp P (s.st C.N).env (s.st C.N).objs o.op = some (if t = true then ev (s.st C.N).env x else ev (s.st C.N).env y) := by rw [hop]; simp only [rOp, hev, KV.av]
      have ht0 : ∀ y, rTouch o.op = some y → ∀ n ∈ nmA (ev (s.st C.N).env y), n ∉ U := by rw [hop]; intro y hy; cases hy
      have hf : isFun o.op = false := by rw [hop]; rfl
      split at h
      · rename_i ht'
        rw [if_pos ht'] at hx
        exact ⟨_, ⟨_, by rw [put_st], .inr (.inl ⟨hg, hf, by rw [put_st], ht0, by rw [sev_av]; exact hx⟩)⟩, h⟩
      · rename_i ht'
        rw [if_neg ht'] at hx
        exact ⟨_, ⟨_, by rw [put_st], .inr (.inl ⟨hg, hf, by rw [put_st], ht0, by rw [sev_av]; exact hx⟩)⟩, h⟩
    · cases h
  · rename_i hn1 hn2
    have hf : isFun o.op = false := by
      cases hop : o.op with
      | call c =>
        obtain ⟨callee, args, tys⟩ := c
        cases callee with
        | value x => cases x with
          | func f => exact absurd hop (hn1 _ _ _)
          | _ => rfl
        | _ => rfl
      | _ => rfl
    split at h
    · cases h
    · rename_i hU
      split at h
      · rename_i c x hr
        obtain ⟨hc, hK⟩ := need_some h
        exact ⟨_, ⟨_, by rw [put_st], .inr (.inl ⟨hg, hf, by rw [put_st], okU_spec hU, sR_sound hG hr hc⟩)⟩, hK⟩
      · cases h

theorem sGoM_steps {P : Program} {C : Cfg} {FT : List (Nat × Entry)} (hG : Good P C.G) (hFT : FTok P FT) {R : Type} {ops : Array Oper} {U : List Nat} {K : SS → Option R} {r : R} :
    ∀ (l : List Oper) {s : SS}, sGoM C FT U ops.toList l s K = some r → ∃ s', mSteps P ops U l (s.st C.N) (s'.st C.N) ∧ K s' = some r
  | [], s, h => ⟨s, rfl, h⟩
  | o :: l, s, h => by
    have run : ∀ s0 : SS, s0.st C.N = s.st C.N → guardOf ops (s0.st C.N).env o = some true → sOpM C FT U s0 o.dst o.op (fun s => sGoM C FT U ops.toList l s K) = some r → ∃ s', mSteps P ops U (o :: l) (s.st C.N) (s'.st C.N) ∧ K s' = some r := by
      intro s0 e hg h
      obtain ⟨f', h1, h2⟩ := sOpM_step (ops := ops) hG hFT h hg
      obtain ⟨s', h3, h4⟩ := sGoM_steps hG hFT l h2
      exact ⟨s', ⟨_, by rw [← e]; exact h1, h3⟩, h4⟩
    have skip : ∀ s0 : SS, s0.st C.N = s.st C.N → guardOf ops (s.st C.N).env o = some false → sGoM C FT U ops.toList l (s0.put o.dst .und) K = some r → ∃ s', mSteps P ops U (o :: l) (s.st C.N) (s'.st C.N) ∧ K s' = some r := by
      intro s0 e hg h
      obtain ⟨s', h3, h4⟩ := sGoM_steps hG hFT l h
      refine ⟨s', ⟨_, ⟨.und, ?_, .inl ⟨hg, rfl, ?_⟩⟩, h3⟩, h4⟩
      · rw [put_st, e]; rfl
      · rw [put_st, e]
    unfold sGoM at h
    split at h
    · rename_i hgd
      exact run s rfl (guard_none hgd) h
    · rename_i j want hgd
      split at h
      · cases h
      · rename_i t ht
        split at h
        · rename_i b hb
          obtain ⟨e1, e2, e3⟩ := st_same (x := .v (.c (.k (.bool b)))) hb (by simp [SV.any])
          have hl1 : ∀ c, lkE (((t, SV.bool c) :: s.env) : List (Nat × SV)) t = SV.bool c := fun c => by simp [lkE]
          simp only [br] at h
          split at h
          · rename_i hbt
            subst hbt
            split at h
            · exact run _ e1 (guard_bool (s := ⟨(t, .bool true) :: s.env, s.objs⟩) hgd ht e3 (hl1 true)) h
            · exact skip _ e1 (guard_bool hgd ht e3 e2) h
          · rename_i hbt
            have hbt : b = false := by simpa using hbt
            subst hbt
            split at h
            · exact run _ e1 (guard_bool (s := ⟨(t, .bool false) :: s.env, s.objs⟩) hgd ht e3 (hl1 false)) h
            · exact skip _ e1 (guard_bool hgd ht e3 e2) h
        · rename_i hb
          exact skip s rfl (guard_und hgd ht hb) h
        · cases h
end Go.Abs

/- Operations that look at no memory, and operations that only lay new blocks. -/
namespace Go.Abs
open Go.RowKit

/-- What is answered hangs on no world, and none is changed. -/
def DT {α : Type} (P : Program) (s : Sem α) : Prop := ∀ w w1 v, s.run P w = .ok v w1 → w1 = w ∧ ∀ w', s.run P w' = .ok v w'
/-- Blocks that were there stay as they are. -/
def GL {α : Type} (P : Program) (s : Sem α) : Prop := ∀ w w1 v, s.run P w = .ok v w1 → Below w.heap.size w w1
/-- It never comes to its end. -/
def NV {α : Type} (P : Program) (s : Sem α) : Prop := ∀ w w1 v, s.run P w ≠ .ok v w1
section
variable {P : Program} {α β : Type}
theorem DT.pr (a : α) : DT P (pure a : Sem α) := fun w w1 v h => by
  simp only [Sem.run_pure, Result.ok.injEq] at h
  exact ⟨h.2.symm, fun w' => by simp [h.1]⟩
theorem DT.halt (x : Halt) : DT P (.halt x : Sem α) := fun w w1 v h => by simp [Sem.run] at h
theorem NV.halt (x : Halt) : NV P (.halt x : Sem α) := fun w w1 v h => by simp [Sem.run] at h
theorem NV.dt {s : Sem α} (h : NV P s) : DT P s := fun w w1 v hr => absurd hr (h w w1 v)
theorem bind_ok {s : Sem α} {f : α → Sem β} {w w1 : World} {v : β} (h : (s >>= f).run P w = .ok v w1) : ∃ a w2, s.run P w = .ok a w2 ∧ (f a).run P w2 = .ok v w1 := by
  rw [Sem.run_bind] at h
  cases hs : s.run P w with
  | ok a w2 => rw [hs] at h; exact ⟨a, w2, rfl, h⟩
  | halt x w2 => rw [hs] at h; simp at h
theorem DT.bnd {s : Sem α} {f : α → Sem β} (h : DT P s) (hf : ∀ a, DT P (f a)) : DT P (s >>= f) := by
  intro w w1 v hr
  obtain ⟨a, w2, h1, h2⟩ := bind_ok hr
  obtain ⟨rfl, h3⟩ := h w w2 a h1
  obtain ⟨rfl, h4⟩ := hf a _ w1 v h2
  exact ⟨rfl, fun w' => by rw [Sem.run_bind, h3 w']; exact h4 w'⟩
theorem NV.bnd {s : Sem α} {f : α → Sem β} (hf : ∀ a, NV P (f a)) : NV P (s >>= f) := by
  intro w w1 v hr
  obtain ⟨a, w2, _, h2⟩ := bind_ok hr
  exact hf a w2 w1 v h2
theorem GL.pr (a : α) : GL P (pure a : Sem α) := fun w w1 v h => by
  simp only [Sem.run_pure, Result.ok.injEq] at h
  rw [← h.2]; exact Below.refl _ _
theorem GL.halt (x : Halt) : GL P (.halt x : Sem α) := fun w w1 v h => by simp [Sem.run] at h
theorem DT.gl {s : Sem α} (h : DT P s) : GL P s := fun w w1 v hr => by
  rw [(h w w1 v hr).1]; exact Below.refl _ _
theorem GL.bnd {s : Sem α} {f : α → Sem β} (h : GL P s) (hf : ∀ a, GL P (f a)) : GL P (s >>= f) := by
  intro w w1 v hr
  obtain ⟨a, w2, h1, h2⟩ := bind_ok hr
  have g1 := h w w2 a h1
  exact g1.trans (Below.mono (hf a w2 w1 v h2) g1.size)
theorem gl_new (o : _root_.Go.Obj) : GL P (newObj o) := fun w w1 v h => by
  simp only [newObj, Sem.run, Result.ok.injEq] at h
  rw [← h.2]
  exact Below.alloc (Below.refl _ _) (Nat.le_refl _) o

theorem dt_program : DT P program := fun w w1 v h => by
  simp only [program, Sem.run, Result.ok.injEq] at h
  exact ⟨h.2.symm, fun w' => by simp [program, Sem.run, h.1]⟩
theorem dt_underlying (T : TypeId) : DT P (underlying T) := by
  unfold underlying
  refine DT.bnd dt_program fun p => ?_
  split
  · exact .pr _
  · exact .halt _
theorem dt_info (T : TypeId) : DT P (typeInfo T) := by
  unfold typeInfo
  refine DT.bnd dt_program fun p => ?_
  split
  · exact .pr _
  · exact .halt _
theorem dt_size (T : TypeId) : DT P (sizeOf T) := by
  unfold sizeOf
  exact DT.bnd (dt_info T) fun _ => .pr _
theorem dt_zero (T : TypeId) : DT P (zeroValue T) := by
  unfold zeroValue
  refine DT.bnd (dt_info T) fun i => ?_
  split
  · exact .pr _
  · exact .halt _
theorem nv_panic (e : RuntimeError) : NV P (runtimePanic e : Sem α) := by
  unfold runtimePanic
  refine NV.bnd fun p => ?_
  dsimp only
  cases e <;> first | exact .halt _ | exact NV.bnd fun _ => NV.bnd fun _ => .halt _
theorem nv_bounds (k : IntKind) (x y : Int) (c : BoundsCode) : NV P (boundsPanic k x y c : Sem α) := by
  unfold boundsPanic
  dsimp only
  split <;> exact NV.bnd fun _ => nv_panic _
theorem dt_asIntOf (v : Value) : DT P (asIntOf v) := by
  unfold asIntOf
  split
  · exact .pr _
  · exact .halt _
  · exact .halt _
theorem dt_sureAddr (v : Value) : DT P (Instr.sureAddr v) := by
  unfold Instr.sureAddr
  split
  · exact .pr _
  · exact .halt _
theorem dt_bound (x : Value) (y : Nat) (c : BoundsCode) : DT P (Instr.sliceBound x y c) := by
  unfold Instr.sliceBound
  refine DT.bnd (dt_asIntOf x) fun a => ?_
  split
  split
  · exact .pr _
  · exact (nv_bounds _ _ _ _).dt
theorem dt_bounds (b : Bool) (len cap : Nat) (lo hi mx : Option Value) : DT P (Instr.sliceBounds b len cap lo hi mx) := by
  unfold Instr.sliceBounds
  have h3 : ∀ (h m : Nat) (c : BoundsCode), DT P (match lo with
      | some v => do
        let l ← Instr.sliceBound v h c
        pure (l, h, m)
      | none => do
        let l ← pure 0
        pure (l, h, m) : Sem (Nat × Nat × Nat)) := by
    intro h m c
    split
    · exact DT.bnd (dt_bound _ _ _) fun _ => .pr _
    · exact DT.bnd (.pr _) fun _ => .pr _
  have h2 : ∀ m : Nat, DT P (match hi, mx with
      | some v, some _ => do
        let h ← Instr.sliceBound v m .slice3B
        match lo with
          | some v => do
            let l ← Instr.sliceBound v h (if mx.isSome then .slice3C else .sliceB)
            pure (l, h, m)
          | none => do
            let l ← pure 0
            pure (l, h, m)
      | some v, none => do
        let h ← Instr.sliceBound v m (if b then .sliceAcap else .sliceAlen)
        match lo with
          | some v => do
            let l ← Instr.sliceBound v h (if mx.isSome then .slice3C else .sliceB)
            pure (l, h, m)
          | none => do
            let l ← pure 0
            pure (l, h, m)
      | none, none => do
        let h ← pure len
        match lo with
          | some v => do
            let l ← Instr.sliceBound v h (if mx.isSome then .slice3C else .sliceB)
            pure (l, h, m)
          | none => do
            let l ← pure 0
            pure (l, h, m)
      | none, some _ => do
        let h ← stuck "Slice: max without high"
        match lo with
          | some v => do
            let l ← Instr.sliceBound v h (if mx.isSome then .slice3C else .sliceB)
            pure (l, h, m)
          | none => do
            let l ← pure 0
            pure (l, h, m) : Sem (Nat × Nat × Nat)) := by
    intro m
    split
    · exact DT.bnd (dt_bound _ _ _) fun _ => h3 _ _ _
    · exact DT.bnd (dt_bound _ _ _) fun _ => h3 _ _ _
    · exact DT.bnd (.pr _) fun _ => h3 _ _ _
    · exact DT.bnd (.halt _) fun _ => h3 _ _ _
  dsimp only
  split
  · exact DT.bnd (dt_bound _ _ _) fun _ => h2 _
  · exact DT.bnd (.pr _) fun _ => h2 _
theorem dt_asAddr (v : Value) : DT P (asAddr v) := by
  unfold asAddr
  split
  · exact .pr _
  · exact (nv_panic _).dt
  · exact .halt _
theorem dt_slice (T : TypeId) (x : Value) (lo hi mx : Option Value) : DT P (Instr.sliceAt T x lo hi mx) := by
  unfold Instr.sliceAt
  refine DT.bnd (dt_underlying T) fun d => ?_
  split
  · refine DT.bnd (dt_sureAddr x) fun a => DT.bnd (dt_bounds _ _ _ _ _ _) fun b => ?_
    exact DT.bnd (dt_size _) fun _ => .pr _
  · unfold Instr.slice
    refine DT.bnd (dt_underlying T) fun d => ?_
    split
    · split
      · exact .halt _
      · exact DT.bnd (dt_bounds _ _ _ _ _ _) fun b => .pr _
    · exact DT.bnd (dt_bounds _ _ _ _ _ _) fun b => DT.bnd (dt_size _) fun _ => .pr _
    · refine DT.bnd (dt_asAddr x) fun a => DT.bnd (dt_underlying _) fun d => ?_
      split
      · exact DT.bnd (dt_bounds _ _ _ _ _ _) fun b => DT.bnd (dt_size _) fun _ => .pr _
      · exact .halt _
    · exact .halt _
theorem dt_value {s : Sem Value} (h : DT P s) : DT P (do pure (.value (← s)) : Sem Next) := DT.bnd h fun _ => .pr _
theorem gl_value {s : Sem Value} (h : GL P s) : GL P (do pure (.value (← s)) : Sem Next) := GL.bnd h fun _ => .pr _
theorem gl_row (T : TypeId) (cs : Array Value) : GL P (newRow T cs) := by
  unfold newRow
  exact GL.bnd (gl_new _) fun _ => .pr _
theorem gentle_gl {o : Oper} (h : gentleO o.op = true) (ρ : Operand → Value) : ∃ s : Sem Value, execOp ρ o = (do pure (.value (← s)) : Sem Next) ∧ GL P s := by
  unfold gentleO at h
  split at h
  · rename_i T hop
    refine ⟨_, by simp only [execOp, hop]; rfl, ?_⟩
    unfold Instr.alloc
    refine GL.bnd (dt_zero T).gl fun z => ?_
    exact GL.bnd (gl_row _ _) fun _ => .pr _
  · rename_i T x hop
    refine ⟨_, by simp only [execOp, hop]; rfl, ?_⟩
    exact GL.bnd (gl_row _ _) fun _ => .pr _
  · rename_i T len parts hop
    refine ⟨_, by simp only [execOp, hop]; rfl, ?_⟩
    unfold Instr.buildSlice
    refine GL.bnd (dt_underlying T).gl fun d => ?_
    split
    case h_2 => exact .halt _
    rename_i elem
    refine GL.bnd (dt_size _).gl fun sz => ?_
    have key : ∀ z : Array Value, GL P (do
        let some cells := Instr.fill (fun i => some (i * sz, sz)) ((Array.range (len * sz)).map (z[· % z.size]!)) (parts.map fun (i, x) => (i, ρ x)).toList
          | stuck "buildSlice: a part of the wrong size"
        pure (.slice (some (← newRow elem cells)) len len) : Sem Value) := by
      intro z
      split
      · exact GL.bnd (gl_row _ _) fun _ => .pr _
      · exact .halt _
    split
    · dsimp only
      split
      · exact GL.bnd (.halt _) fun _ => GL.bnd (.pr _) fun z => key z
      · exact GL.bnd (.pr _) fun z => key z
    · dsimp only
      split
      · exact GL.bnd (.halt _) fun _ => GL.bnd (dt_zero _).gl fun _ => GL.bnd (.pr _) fun z => key z
      · exact GL.bnd (dt_zero _).gl fun _ => GL.bnd (.pr _) fun z => key z
  · cases h
end
end Go.Abs

/- An object more and a slot more: what an operation does that looks at neither is the same. -/
namespace Go.Abs
open Go.RowKit

/-- All that is there is there. -/
def Up (O O1 : SObjs) : Prop := ∀ n o, lookS n O = some o → lookS n O1 = some o
/-- Of the names of N all that is there is there, its cells changed by κ. -/
def UpK (N : Nat → Prop) (κ : CV → CV) (O O1 : SObjs) : Prop := ∀ n o, N n → lookS n O = some o → lookS n O1 = some (soMap κ o)
/-- All names are of N. -/
def NmC (N : Nat → Prop) (c : CV) : Prop := ∀ d, ¬ N d → clCV d c = true
def NmS (N : Nat → Prop) (x : SV) : Prop := ∀ d, ¬ N d → clSV d x = true
theorem NmC.own {N : Nat → Prop} {n : Nat} (h : NmC N (.own n)) : N n := Classical.byContradiction fun hn => by have := h n hn; simp [clCV] at this
theorem NmC.msl {N : Nat → Prop} {n a b c : Nat} (h : NmC N (.msl n a b c)) : N n := Classical.byContradiction fun hn => by have := h n hn; simp [clCV] at this
theorem NmC.ref {N : Nat → Prop} {n a b c : Nat} (h : NmC N (.ref n a b c)) : N n := Classical.byContradiction fun hn => by have := h n hn; simp [clCV] at this
theorem NmS.c {N : Nat → Prop} {c : CV} (h : NmS N (.v (.c c))) : NmC N c := h
theorem UpK.arr {N : Nat → Prop} {κ : CV → CV} {O O1 : SObjs} (h : UpK N κ O O1) {n : Nat} {ts : Tys} {l : List ts.T} (hn : N n) (hl : lookS n O = some (.arr ts l)) : lookS n O1 = some (.arr ts l) := h n _ hn hl
theorem id_cells (κ : CV → CV) (h : ∀ c, κ c = c) (cs : List CV) : cs.map κ = cs := (List.map_congr_left fun c _ => h c).trans (List.map_id' cs)
theorem Up.k {O O1 : SObjs} (h : Up O O1) : UpK (fun _ => True) (fun c => c) O O1 := fun n o _ hl => by
  rw [h n o hl]
  cases o with
  | box cs => simp [soMap]
  | arr ts l => rfl
  | mp _ _ _ => rfl
theorem NmS.tr (x : SV) : NmS (fun _ => True) x := fun _ h => absurd trivial h
section
variable {N : Nat → Prop} {κ : CV → CV} {O O1 : SObjs}
theorem sView_k (h : UpK N κ O O1) {ts : Tys} {x : SV} (hx' : NmS N x) {y : List Bool × List ts.T} (hx : sView O ts x = some y) : sView O1 ts x = some y := by
  unfold sView at hx ⊢
  split at hx
  · exact hx
  · exact hx
  · rename_i n
    split at hx
    · rename_i us l hl; rw [h.arr hx'.c.own hl]; exact hx
    · cases hx
  · rename_i n _ _ _
    split at hx
    · rename_i us l hl; rw [h.arr hx'.c.msl hl]; exact hx
    · cases hx
  · cases hx
theorem slen_k (h : UpK N κ O O1) {D : Option TD} {x : SV} (hx' : NmS N x) {y : Int} (hx : slen O D x = some y) : slen O1 D x = some y := by
  unfold slen at hx ⊢
  split at hx
  · exact hx
  · exact hx
  · exact hx
  · rename_i n
    split at hx
    · rename_i us l hl; rw [h.arr hx'.c.own hl]; exact hx
    · cases hx
  · exact hx
  · cases hx
theorem sCells_k (h : UpK N κ O O1) (hκ : ∀ v, κ (.k v) = .k v) {n sz i off : Nat} (hn : N n) {c : List Bool} {cs : List CV} (hx : sCells O n sz i off = some (c, cs)) : sCells O1 n sz i off = some (c, cs.map κ) := by
  unfold sCells at hx ⊢
  split at hx
  · rename_i cs0 hl
    rw [h n _ hn hl]
    simp only [soMap]
    split at hx
    · simp only [Option.some.injEq, Prod.mk.injEq] at hx
      obtain ⟨rfl, rfl⟩ := hx
      simp [List.map_drop]
    · cases hx
  · rename_i ts l hl
    rw [h.arr hn hl]
    simp only
    split at hx
    · rename_i hs; rw [if_pos hs]
      simp only [Option.some.injEq, Prod.mk.injEq] at hx ⊢
      obtain ⟨rfl, rfl⟩ := hx
      refine ⟨rfl, ?_⟩
      rw [List.map_drop, List.map_map]
      congr 1
      exact List.map_congr_left fun v _ => (hκ v).symm
    · cases hx
  · cases hx
theorem plainNC_k (h : UpK N κ O O1) {x : CV} (hx' : NmC N x) (hx : plainNC O x = true) : plainNC O1 x = true := by
  unfold plainNC at hx ⊢
  split at hx
  all_goals first | rfl | skip
  · rename_i n
    split at hx
    · rename_i us l hl; rw [h.arr hx'.own hl]
    · cases hx
  · cases hx
theorem cellsS_k (h : UpK N κ O O1) {x : SV} (hx' : NmS N x) {y : List CV} (hx : cellsS O x = some y) : cellsS O1 x = some y := by
  unfold cellsS at hx ⊢
  split at hx
  · exact hx
  · split at hx
    · rename_i hp; rw [if_pos (plainNC_k h hx'.c hp)]; exact hx
    · cases hx
  · cases hx
theorem sFill_k (h : UpK N κ O O1) {pl : List (Nat × Bool × Nat)} : ∀ {parts : List (Nat × SV)} {cells y : List CV}, (∀ p ∈ parts, NmS N p.2) → sFill O pl cells parts = some y → sFill O1 pl cells parts = some y
  | [], _, _, _, hx => hx
  | (i, x) :: rest, cells, y, hp, hx => by
    unfold sFill at hx ⊢
    split at hx
    · rename_i off g n cs h1 h2
      rw [h1, cellsS_k h (hp (i, x) (List.mem_cons_self ..)) h2]
      dsimp only
      split at hx
      · rename_i hc; rw [if_pos hc]; exact sFill_k h (fun p hp' => hp p (List.mem_cons_of_mem _ hp')) hx
      · cases hx
    · cases hx
end
theorem sView_up {O O1 : SObjs} (h : Up O O1) {ts : Tys} {x : SV} {y : List Bool × List ts.T} (hx : sView O ts x = some y) : sView O1 ts x = some y := by
  unfold sView at hx ⊢
  split at hx
  · exact hx
  · exact hx
  · rename_i n
    cases hl : lookS n O with
    | none => simp [hl] at hx
    | some o => rw [hl] at hx; rw [h _ _ hl]; exact hx
  · rename_i n _ _ _
    cases hl : lookS n O with
    | none => simp [hl] at hx
    | some o => rw [hl] at hx; rw [h _ _ hl]; exact hx
  · cases hx
theorem slen_up {O O1 : SObjs} (h : Up O O1) {D : Option TD} {x : SV} {y : Int} (hx : slen O D x = some y) : slen O1 D x = some y := by
  unfold slen at hx ⊢
  split at hx
  · exact hx
  · exact hx
  · exact hx
  · rename_i n
    cases hl : lookS n O with
    | none => simp [hl] at hx
    | some o => rw [hl] at hx; rw [h _ _ hl]; exact hx
  · exact hx
  · cases hx
theorem sCells_up {O O1 : SObjs} (h : Up O O1) {n sz i off : Nat} {y : List Bool × List CV} (hx : sCells O n sz i off = some y) : sCells O1 n sz i off = some y := by
  unfold sCells at hx ⊢
  cases hl : lookS n O with
  | none => simp [hl] at hx
  | some o => rw [hl] at hx; rw [h _ _ hl]; exact hx
theorem plainNC_up {O O1 : SObjs} (h : Up O O1) {x : CV} (hx : plainNC O x = true) : plainNC O1 x = true := by
  unfold plainNC at hx ⊢
  split at hx
  all_goals first | rfl | skip
  · rename_i n
    cases hl : lookS n O with
    | none => simp [hl] at hx
    | some o => rw [hl] at hx; rw [h _ _ hl]; exact hx
  · cases hx
theorem cellsS_up {O O1 : SObjs} (h : Up O O1) {x : SV} {y : List CV} (hx : cellsS O x = some y) : cellsS O1 x = some y := by
  unfold cellsS at hx ⊢
  split at hx
  · exact hx
  · split at hx
    · rename_i hp; rw [if_pos (plainNC_up h hp)]; exact hx
    · cases hx
  · cases hx
theorem sFill_up {O O1 : SObjs} (h : Up O O1) {pl : List (Nat × Bool × Nat)} : ∀ {parts : List (Nat × SV)} {cells y : List CV}, sFill O pl cells parts = some y → sFill O1 pl cells parts = some y
  | [], _, _, hx => hx
  | (i, x) :: rest, cells, y, hx => by
    unfold sFill at hx ⊢
    split at hx
    · rename_i off g n cs h1 h2
      rw [h1, cellsS_up h h2]
      dsimp only
      split at hx
      · rename_i hc; rw [if_pos hc]; exact sFill_up h hx
      · cases hx
    · cases hx
theorem toT_up {O O1 : SObjs} (h : Up O O1) {t : Ty} {x : CV} {y : t.T} (hx : toT O t x = some y) : toT O1 t x = some y := by
  unfold toT at hx ⊢
  split at hx
  · exact hx
  · exact hx
  · rename_i ts n
    cases hl : lookS n O with
    | none => simp [hl] at hx
    | some o => rw [hl] at hx; rw [h _ _ hl]; exact hx
  · cases hx
theorem toTs_up {O O1 : SObjs} (h : Up O O1) : ∀ {ts : Tys} {l : List CV} {y : ts.T}, toTs O ts l = some y → toTs O1 ts l = some y
  | .nil, [], _, hx => hx
  | .nil, _ :: _, _, hx => by simp [toTs] at hx
  | .cons _ _, [], _, hx => by simp [toTs] at hx
  | .cons t ts, c :: l, y, hx => by
    simp only [toTs] at hx ⊢
    split at hx
    · rename_i a b h1 h2
      rw [toT_up h h1, toTs_up h h2]; exact hx
    · cases hx
theorem toCT_up {O O1 : SObjs} (h : Up O O1) {c : CT} {x : SV} {y : c.T} (hx : toCT O c x = some y) : toCT O1 c x = some y := by
  unfold toCT at hx ⊢
  split at hx
  · exact toT_up h hx
  · exact toTs_up h hx
  · cases hx
theorem toAT_up {O O1 : SObjs} (h : Up O O1) {c : AT} {x : SV} {y : c.T} (hx : toAT O c x = some y) : toAT O1 c x = some y := by
  unfold toAT at hx ⊢
  split at hx
  · exact toCT_up h hx
  · rename_i n sz
    split at hx
    · rename_i hs; rw [if_pos hs]
      cases hl : lookS n O with
      | none => simp [hl] at hx
      | some o => rw [hl] at hx; rw [h _ _ hl]; exact hx
    · cases hx
  · cases hx
theorem toArgs_up {O O1 : SObjs} (h : Up O O1) : ∀ {l : List AT} {xs : List SV} {y : argsT l}, toArgs O l xs = some y → toArgs O1 l xs = some y
  | [], [], _, hx => hx
  | a :: l, x :: xs, y, hx => by
    unfold toArgs at hx ⊢
    split at hx
    · rename_i p q h1 h2
      rw [toAT_up h h1, toArgs_up h h2]; exact hx
    · cases hx
  | [], _ :: _, _, hx => by cases hx
  | _ :: _, [], _, hx => by cases hx
theorem toRows_up {O O1 : SObjs} (h : Up O O1) {ts : Tys} : ∀ {xs : List SV} {y : List ts.T}, toRows O ts xs = some y → toRows O1 ts xs = some y
  | [], _, hx => hx
  | x :: r, y, hx => by
    unfold toRows at hx ⊢
    split at hx
    · rename_i cs h1
      rw [cellsS_up h h1]
      dsimp only
      split at hx
      · rename_i a b h2 h3
        rw [h2, toRows_up h h3]; exact hx
      · cases hx
    · cases hx
theorem sbnd_up {C : Cfg} {s s1 : SS} {d : Int} {o : Option Operand} (hs : ∀ x, o = some x → sev C s1 x = sev C s x) : sbnd C s1 d o = sbnd C s d o := by
  cases o with
  | none => rfl
  | some o => simp only [sbnd, hs o rfl]
theorem sslc_k {N : Nat → Prop} {κ : CV → CV} {C : Cfg} {s s1 : SS} (h : UpK N κ s.objs s1.objs) {T : TypeId} {x : SV} (hx' : NmS N x) {lo hi : Option Operand} (hl : ∀ x, lo = some x → sev C s1 x = sev C s x) (hh : ∀ x, hi = some x → sev C s1 x = sev C s x) {y : List Bool × CV}
    (hx : sslc C s T x lo hi = some y) : sslc C s1 T x lo hi = some y := by
  unfold sslc at hx ⊢
  simp only [sbnd_up hl, sbnd_up hh]
  split at hx
  · exact hx
  · exact hx
  · exact hx
  · rename_i n
    split at hx
    · rename_i us l hl; rw [h.arr hx'.c.own hl]; exact hx
    · cases hx
  · exact hx
  · rename_i n sz
    split at hx
    · rename_i e1 e2
      rw [h.arr hx'.c.ref e1]
      first | exact hx | (rw [e2]; exact hx)
    · rename_i e1 e2 e3
      rw [h.arr hx'.c.ref e1]
      first | exact hx | (rw [e2]; exact hx) | (simp only [e2, sbnd_up hl, sbnd_up hh]; exact hx)
    · cases hx
  · cases hx
theorem sslc3_k {N : Nat → Prop} {κ : CV → CV} {C : Cfg} {s s1 : SS} (h : UpK N κ s.objs s1.objs) {T : TypeId} {x : SV} (hx' : NmS N x) {lo : Option Operand} {hi mx : Operand} (hl : ∀ x, lo = some x → sev C s1 x = sev C s x) (hh : sev C s1 hi = sev C s hi) (hm : sev C s1 mx = sev C s mx) {y : List Bool × CV}
    (hx : sslc3 C s T x lo hi mx = some y) : sslc3 C s1 T x lo hi mx = some y := by
  unfold sslc3 at hx ⊢
  have e1 : ∀ d, sbnd C s1 d (some hi) = sbnd C s d (some hi) := fun d => sbnd_up fun x e => by cases e; exact hh
  have e2 : ∀ d, sbnd C s1 d (some mx) = sbnd C s d (some mx) := fun d => sbnd_up fun x e => by cases e; exact hm
  simp only [sbnd_up hl, e1, e2]
  split at hx
  · rename_i n
    split at hx
    · rename_i us l hl; rw [h.arr hx'.c.own hl]; exact hx
    · cases hx
  · exact hx
  · cases hx
theorem obj_map {α β : Type} {x x1 : Option α} {f : α → β} {y : β} (h : ∀ a, x = some a → x1 = some a) (hx : x.map f = some y) : x1.map f = some y := by
  obtain ⟨a, ha, rfl⟩ := Option.map_eq_some_iff.1 hx
  rw [h a ha]; rfl

theorem map_sev {C : Cfg} {s s1 : SS} {l : List Operand} (hs : ∀ o ∈ l, sev C s1 o = sev C s o) : l.map (sev C s1) = l.map (sev C s) := List.map_congr_left hs

set_option maxHeartbeats 1000000 in
theorem sR_k {N : Nat → Prop} {κ : CV → CV} {C : Cfg} {s s1 : SS} (h : UpK N κ s.objs s1.objs) (hκ : ∀ v, κ (.k v) = .k v) {op : Op} (hs : ∀ o ∈ op.operands.toList, sev C s1 o = sev C s o) (hN : ∀ o ∈ op.operands.toList, NmS N (sev C s o)) {y : List Bool × SV} (hy : mapSC κ y.2 = y.2)
    (hr : sR C s op = some y) : sR C s1 op = some y := by
  cases op with
  | move x => simp only [Op.operands, List.mem_singleton, forall_eq] at hs; simp only [sR, hs] at hr ⊢; exact hr
  | assign x => simp only [Op.operands, List.mem_singleton, forall_eq] at hs; simp only [sR, hs] at hr ⊢; exact hr
  | fieldAddr T x k => simp only [Op.operands, List.mem_singleton, forall_eq] at hs; simp only [sR, hs] at hr ⊢; exact hr
  | field T x k => simp only [Op.operands, List.mem_singleton, forall_eq] at hs; simp only [sR, hs] at hr ⊢; exact hr
  | indexAddr T x i =>
    have h1 := hs x (by simp [Op.operands])
    have h2 := hs i (by simp [Op.operands])
    simp only [sR, h1, h2] at hr ⊢
    split at hr
    · rename_i n us l ts b e1 e2 e3
      exact hr
    · rename_i n m ts b e1 e2 e3
      have hm : N m := by
        have := hN x (by simp [Op.operands])
        rw [asC_eq e2] at this
        exact this.c.own
      split at hr
      · rename_i us l hl; rw [h.arr hm hl]; exact hr
      · cases hr
    · rename_i n m sz off len ts b e1 e2 e3
      exact hr
    · rename_i n m sz len ts e1 e2 e3
      exact hr
    · exact hr
    · cases hr
  | index T x i =>
    have h1 := hs x (by simp [Op.operands])
    have h2 := hs i (by simp [Op.operands])
    simp only [sR, h1, h2] at hr ⊢; exact hr
  | load T x =>
    have h1 := hs x (by simp [Op.operands])
    simp only [sR, h1] at hr ⊢
    split at hr
    · rename_i cs D e1 e2
      exact hr
    · rename_i n sz i off D e1 e2
      have hm : N n := by
        have := hN x (by simp [Op.operands])
        rw [asC_eq e1] at this
        exact this.c.ref
      split at hr
      · rename_i c cs e3
        rw [sCells_k h hκ hm e3]
        simp only
        obtain ⟨v, hv, rfl⟩ := Option.map_eq_some_iff.1 hr
        have hy : mapVC κ v = v := by simpa [mapSC] using hy
        have : ldC D.cell (cs.map κ) = some v := by
          rw [← hy]
          unfold ldC at hv ⊢
          split at hv
          · rename_i hc
            rw [if_pos hc]
            split at hv
            · rename_i hl
              cases hv
              rw [if_pos (by simpa using hl)]
              simp [mapVC, List.map_take]
            · cases hv
          · rename_i hc
            rw [if_neg hc]
            cases cs with
            | nil => simp at hv
            | cons c0 cs => simp only [List.head?_cons, Option.map_some, Option.some.injEq] at hv; subst hv; rfl
        rw [this]; rfl
      · cases hr
    · cases hr
  | nilCheck x => simp only [Op.operands, List.mem_singleton, forall_eq] at hs; simp only [sR, hs] at hr ⊢; exact hr
  | binOp op T x y U =>
    have h1 := hs x (by simp [Op.operands])
    have h2 := hs y (by simp [Op.operands])
    simp only [sR, h1, h2] at hr ⊢; exact hr
  | unOp op T x => simp only [Op.operands, List.mem_singleton, forall_eq] at hs; simp only [sR, hs] at hr ⊢; exact hr
  | convert S T x =>
    have h1 := hs x (by simp [Op.operands])
    simp only [sR, h1] at hr ⊢
    split at hr
    · rename_i n D k e1 e2 e3
      exact hr
    · rename_i b D e1 e2 e3
      exact hr
    · split at hr
      · rename_i hb
        first
          | (rw [if_pos hb]; exact obj_map (fun a ha => sView_k h (hN x (by simp [Op.operands])) ha) hr)
          | exact obj_map (fun a ha => sView_k h (hN _ (by simp [Op.operands])) ha) hr
      · cases hr
    · cases hr
  | slice T x lo hi mx =>
    have h1 := hs x (by simp [Op.operands])
    have h2 : ∀ x, lo = some x → sev C s1 x = sev C s x := fun x e => hs x (by simp [Op.operands, e])
    have h3 : ∀ x, hi = some x → sev C s1 x = sev C s x := fun x e => hs x (by simp [Op.operands, e])
    have h4 : ∀ x, mx = some x → sev C s1 x = sev C s x := fun x e => hs x (by simp [Op.operands, e])
    cases mx with
    | none =>
      simp only [sR, h1] at hr ⊢
      exact obj_map (fun a ha => sslc_k h (hN x (by simp [Op.operands])) h2 h3 ha) hr
    | some m => cases hi with
      | none => simp [sR] at hr
      | some hi =>
        simp only [sR, h1] at hr ⊢
        exact obj_map (fun a ha => sslc3_k h (hN x (by simp [Op.operands])) h2 (h3 _ rfl) (h4 _ rfl) ha) hr
  | extract t i => simp only [Op.operands, List.mem_singleton, forall_eq] at hs; simp only [sR, hs] at hr ⊢; exact hr
  | build T parts =>
    have h1 : (parts.toList.map fun p => (p.1, sev C s1 p.2)) = parts.toList.map fun p => (p.1, sev C s p.2) := List.map_congr_left fun p hp => by
      rw [hs p.2 (by simp only [Op.operands, List.mem_map]; exact ⟨p, hp, rfl⟩)]
    simp only [sR, h1] at hr ⊢
    split at hr
    · rename_i ts fs b e1
      exact obj_map (fun a ha => sFill_k h (fun p hp => by obtain ⟨q, hq, rfl⟩ := List.mem_map.1 hp; exact hN q.2 (by simp only [Op.operands, List.mem_map]; exact ⟨q, hq, rfl⟩)) ha) hr
    · cases hr
  | makeFunc f first captured =>
    have h1 : captured.toList.map (sev C s1) = captured.toList.map (sev C s) := map_sev fun o ho => hs o (by simp only [Op.operands, Array.toList_append, List.mem_append]; exact .inr ho)
    cases f with
    | func f => simp only [sR, h1] at hr ⊢; exact hr
    | _ => simp [sR] at hr
  | makeInterface T x => simp only [Op.operands, List.mem_singleton, forall_eq] at hs; simp only [sR, hs] at hr ⊢; exact hr
  | typeAssert x S T ok => simp only [Op.operands, List.mem_singleton, forall_eq] at hs; simp only [sR, hs] at hr ⊢; exact hr
  | call c =>
    obtain ⟨cal, args, argTypes⟩ := c
    cases cal with
    | builtin b =>
      have h1 : ∀ o ∈ args.toList, sev C s1 o = sev C s o := fun o ho => hs o (by simpa [Op.operands, Call.operands] using ho)
      cases b with
      | len =>
        simp only [sR] at hr ⊢
        split at hr
        · rename_i x T e1 e2
          rw [e1] at h1
          simp only [List.mem_singleton, forall_eq] at h1
          simp only [h1]
          exact obj_map (fun a ha => slen_k h (hN x (by simp [Op.operands, Call.operands, e1])) ha) hr
        · cases hr
      | cap =>
        simp only [sR] at hr ⊢
        split at hr
        · rename_i x T e1 e2
          rw [e1] at h1
          simp only [List.mem_singleton, forall_eq] at h1
          simp only [h1]
          exact hr
        · cases hr
      | min => simp only [sR, map_sev h1] at hr ⊢; exact hr
      | max => simp only [sR, map_sev h1] at hr ⊢; exact hr
      | _ => simp [sR] at hr
    | _ => simp [sR] at hr
  | _ => simp [sR] at hr
theorem mapVC_id (x : VV) : mapVC (fun c => c) x = x := by cases x <;> simp [mapVC]
theorem mapSC_id (x : SV) : mapSC (fun c => c) x = x := by
  cases x with
  | v x => simp only [mapSC, mapVC_id]
  | tup l => simp only [mapSC]; congr 1; exact (List.map_congr_left fun c _ => mapVC_id c).trans (List.map_id' l)
theorem sR_up {C : Cfg} {s s1 : SS} (h : Up s.objs s1.objs) {op : Op} (hs : ∀ o ∈ op.operands.toList, sev C s1 o = sev C s o) {y : List Bool × SV} (hr : sR C s op = some y) : sR C s1 op = some y :=
  sR_k h.k (fun _ => rfl) hs (fun _ _ => NmS.tr _) (mapSC_id _) hr
end Go.Abs

/- An object more and a slot more: the operations that make or change something. -/
namespace Go.Abs
open Go.RowKit

/-- What differs: the slots of kE (x, if it is told), and what there is more: the objects of the names of kO: ob. -/
structure Ext (kE kO : Nat → Bool) (x : Option SV) (ob : Option SO) (s s1 : SS) : Prop where
  env : ∀ t, kE t = false → lkE s1.env t = lkE s.env t
  at_ : ∀ t y, kE t = true → x = some y → lkE s1.env t = y
  obj : ∀ n, lookS n s1.objs = if kO n = true then ob else lookS n s.objs
  no : ∀ n, kO n = true → lookS n s.objs = none
/-- κ changes cells that bear the name m alone -/
structure Kap (m : Nat) (κ : CV → CV) : Prop where
  fix : ∀ c, clCV m c = true → κ c = c
theorem ns_has {ns : List (Nat × Nat)} {m : Nat} (h : (ns.all fun p => !(p.1 == m)) = true) : (ns.map (·.1)).contains m = false := by
  cases hc : (ns.map (·.1)).contains m with
  | false => rfl
  | true =>
    have : m ∈ ns.map (·.1) := by simpa using hc
    obtain ⟨p, hp, rfl⟩ := List.mem_map.1 this
    have := List.all_eq_true.1 h p hp
    simp at this
theorem kap_kill (m : Nat) : Kap m (killC m) := ⟨fun c h => by
  cases c with
  | own n => simp only [clCV, Bool.not_eq_true', beq_eq_false_iff_ne] at h; simp [killC, h]
  | msl n _ _ _ => simp only [clCV, Bool.not_eq_true', beq_eq_false_iff_ne] at h; simp [killC, h]
  | ref n _ _ _ => simp only [clCV, Bool.not_eq_true', beq_eq_false_iff_ne] at h; simp [killC, h]
  | wrp f ns => simp only [clCV] at h; simp only [killC, ns_has h, Bool.false_eq_true, if_false]
  | _ => rfl⟩
theorem kap_frz (m : Nat) (ts : Tys) (l : List ts.T) : Kap m (frzC m ts l) := ⟨fun c h => by
  cases c with
  | own n => simp only [clCV, Bool.not_eq_true', beq_eq_false_iff_ne] at h; simp [frzC, h]
  | msl n _ _ _ => simp only [clCV, Bool.not_eq_true', beq_eq_false_iff_ne] at h; simp [frzC, h]
  | ref n _ _ _ => simp only [clCV, Bool.not_eq_true', beq_eq_false_iff_ne] at h; simp [frzC, h]
  | wrp f ns => simp only [clCV] at h; simp only [frzC, ns_has h, Bool.false_eq_true, if_false]
  | _ => rfl⟩
theorem kap_unown (m sz k : Nat) : Kap m (unownC m sz k) := ⟨fun c h => by
  cases c with
  | own n => simp only [clCV, Bool.not_eq_true', beq_eq_false_iff_ne] at h; simp [unownC, h]
  | _ => rfl⟩
theorem Kap.any {m : Nat} {κ : CV → CV} (h : Kap m κ) : κ .any = .any := h.fix _ rfl
theorem Kap.vv {m : Nat} {κ : CV → CV} (h : Kap m κ) {x : VV} (hx : clVV m x = true) : mapVC κ x = x := by
  cases x with
  | c x => simp only [mapVC, h.fix x hx]
  | g l =>
    simp only [mapVC]
    congr 1
    exact (List.map_congr_left fun a ha => h.fix a (List.all_eq_true.1 hx a ha)).trans (List.map_id' l)
theorem Kap.sv {m : Nat} {κ : CV → CV} (h : Kap m κ) {x : SV} (hx : clSV m x = true) : mapSC κ x = x := by
  cases x with
  | v x => simp only [mapSC, h.vv hx]
  | tup l =>
    simp only [mapSC]
    congr 1
    exact (List.map_congr_left fun a ha => h.vv (List.all_eq_true.1 hx a ha)).trans (List.map_id' l)
theorem Kap.so {m : Nat} {κ : CV → CV} (h : Kap m κ) {o : SO} (hx : ∀ cs, o = .box cs → cs.all (clCV m) = true) : soMap κ o = o := by
  cases o with
  | box cs =>
    simp only [soMap]
    congr 1
    exact (List.map_congr_left fun a ha => h.fix a (List.all_eq_true.1 (hx cs rfl) a ha)).trans (List.map_id' cs)
  | arr ts l => rfl
  | mp _ _ _ => rfl
/-- What there is more bears no other names. -/
def Zok (k : Nat → Bool) (x : Option SV) (ob : Option SO) : Prop := ∀ m, k m = false → (∀ y, x = some y → clSV m y = true) ∧ ∀ cs, ob = some (.box cs) → cs.all (clCV m) = true

section
variable {kE kO : Nat → Bool} {x : Option SV} {ob : Option SO} {s s1 : SS}
theorem Ext.up (h : Ext kE kO x ob s s1) : Up s.objs s1.objs := fun n o hn => by
  rw [h.obj]
  split
  · rename_i hk; rw [h.no n hk] at hn; cases hn
  · exact hn
theorem Ext.nk (h : Ext kE kO x ob s s1) {n : Nat} {o : SO} (hn : lookS n s.objs = some o) : kO n = false := by
  cases hk : kO n with
  | false => rfl
  | true => rw [h.no n hk] at hn; cases hn
theorem Ext.no' (h : Ext kE kO x ob s s1) {n : Nat} (hk : kO n = false) (hn : lookS n s.objs = none) : lookS n s1.objs = none := by
  rw [h.obj, hk]; exact hn
theorem Ext.get (h : Ext kE kO x ob s s1) {N t : Nat} (ht : kE t = false) : s1.get N t = s.get N t := by
  unfold SS.get; rw [h.env t ht]
def offO (k : Nat → Bool) : Operand → Bool
  | .tmp t => !k t
  | _ => true
theorem Ext.sev (h : Ext kE kO x ob s s1) {C : Cfg} {o : Operand} (ho : offO kE o = true) : sev C s1 o = sev C s o := by
  cases o with
  | tmp t => simp only [offO, Bool.not_eq_true'] at ho; simp only [Go.Abs.sev, h.get ho]
  | _ => rfl
theorem Ext.map (h : Ext kE kO x ob s s1) (hz : Zok kO x ob) {m : Nat} {κ : CV → CV} (hκ : Kap m κ) (hm : kO m = false) {O O1 : SObjs} (ho : ∀ n, lookS n O1 = if kO n = true then ob else lookS n O) (hn : ∀ n, kO n = true → lookS n O = none) :
    Ext kE kO x ob ⟨mapEC κ s.env, mapOC κ O⟩ ⟨mapEC κ s1.env, mapOC κ O1⟩ := by
  obtain ⟨z1, z2⟩ := hz m hm
  refine ⟨fun t ht => ?_, fun t y ht hy => ?_, fun n => ?_, fun n hk => ?_⟩
  · simp only
    rw [lkE_map κ hκ.any, lkE_map κ hκ.any, h.env t ht]
  · simp only
    rw [lkE_map κ hκ.any, h.at_ t y ht hy]
    exact hκ.sv (z1 y hy)
  · simp only
    rw [lookS_map, lookS_map, ho]
    split
    · cases ob with
      | none => rfl
      | some o => simp only [Option.map_some]; rw [hκ.so fun cs e => z2 cs (by rw [e])]
    · rfl
  · simp only; rw [lookS_map, hn n hk]; rfl
theorem Ext.kap (h : Ext kE kO x ob s s1) (hz : Zok kO x ob) {m : Nat} {κ : CV → CV} (hκ : Kap m κ) (hm : kO m = false) : Ext kE kO x ob ⟨mapEC κ s.env, mapOC κ s.objs⟩ ⟨mapEC κ s1.env, mapOC κ s1.objs⟩ := h.map hz hκ hm h.obj h.no
theorem Ext.drops (h : Ext kE kO x ob s s1) {m : Nat} (hm : kO m = false) : (∀ n, lookS n (dropS m s1.objs) = if kO n = true then ob else lookS n (dropS m s.objs)) ∧ ∀ n, kO n = true → lookS n (dropS m s.objs) = none := by
  refine ⟨fun n => ?_, fun n hk => ?_⟩
  · by_cases e : m = n
    · subst e; rw [lookS_drop, lookS_drop, hm]; rfl
    · rw [lookS_drop_ne e, lookS_drop_ne e, h.obj]
  · have e : m ≠ n := fun e => by rw [e, hk] at hm; cases hm
    rw [lookS_drop_ne e, h.no n hk]
theorem Ext.put (h : Ext kE kO x ob s s1) {dst : Option Tmp} (hd : ∀ t, dst = some t → kE t = false) (v : SV) : Ext kE kO x ob (s.put dst v) (s1.put dst v) := by
  cases dst with
  | none => exact h
  | some d =>
    refine ⟨fun t ht => ?_, fun t y ht hy => ?_, h.obj, h.no⟩
    · simp only [SS.put, lkE]
      by_cases e : d = t
      · rw [if_pos e, if_pos e]
      · rw [if_neg e, if_neg e]; exact h.env t ht
    · simp only [SS.put, lkE]
      rw [if_neg fun e => ?_]
      · exact h.at_ t y ht hy
      · subst e; rw [hd d rfl] at ht; cases ht
theorem Ext.cons (h : Ext kE kO x ob s s1) {m : Nat} (hm : kO m = false) (o : SO) : Ext kE kO x ob ⟨s.env, (m, o) :: s.objs⟩ ⟨s1.env, (m, o) :: s1.objs⟩ := by
  refine ⟨h.env, h.at_, fun n => ?_, fun n hk => ?_⟩
  · simp only [lookS]
    by_cases e : m = n
    · subst e; simp [hm]
    · rw [if_neg e, if_neg e]; exact h.obj n
  · have e : m ≠ n := fun e => by rw [e, hk] at hm; cases hm
    simp only [lookS, if_neg e]; exact h.no n hk
theorem lookS_upd' (n m : Nat) (o : SO) (O : SObjs) : lookS m (updS n o O) = if n = m then (lookS n O).map (fun _ => o) else lookS m O := by
  by_cases e : n = m
  · subst e
    rw [if_pos rfl]
    cases hl : lookS n O with
    | some p => rw [lookS_upd o (by rw [hl]; rfl)]; rfl
    | none =>
      have : ∀ O : SObjs, lookS n O = none → lookS n (updS n o O) = none := by
        intro O
        induction O with
        | nil => intro _; rfl
        | cons p r ih =>
          obtain ⟨a, b⟩ := p
          intro h
          by_cases e : a = n
          · simp [lookS, e] at h
          · simp only [lookS, e, if_false] at h
            simp only [updS, e, if_false, lookS]; exact ih h
      rw [this O hl]; rfl
  · rw [if_neg e, lookS_upd_ne o e]
theorem Ext.upd (h : Ext kE kO x ob s s1) {m : Nat} (hm : kO m = false) (o : SO) : Ext kE kO x ob ⟨s.env, updS m o s.objs⟩ ⟨s1.env, updS m o s1.objs⟩ := by
  refine ⟨h.env, h.at_, fun n => ?_, fun n hk => ?_⟩
  · simp only [lookS_upd']
    by_cases e : m = n
    · subst e; rw [if_pos rfl, if_pos rfl, hm, h.obj, hm]; rfl
    · rw [if_neg e, if_neg e]; exact h.obj n
  · have e : m ≠ n := fun e => by rw [e, hk] at hm; cases hm
    simp only [lookS_upd', if_neg e]; exact h.no n hk
theorem Ext.fresh (h : Ext kE kO x ob s s1) (hz : Zok kO x ob) {d : Nat} (hd : kO d = false) {s' : SS} (hf : freshS d s = some s') : ∃ s1', freshS d s1 = some s1' ∧ Ext kE kO x ob s' s1' := by
  unfold freshS at hf ⊢
  split at hf
  · rename_i hn
    cases hf
    rw [h.no' hd hn]
    exact ⟨_, rfl, h.kap hz (kap_kill d) hd⟩
  · cases hf
theorem Ext.freeze (h : Ext kE kO x ob s s1) (hz : Zok kO x ob) {n : Nat} {s' : SS} (hf : freezeS n s = some s') : ∃ s1', freezeS n s1 = some s1' ∧ Ext kE kO x ob s' s1' := by
  unfold freezeS at hf ⊢
  split at hf
  · rename_i ts l hn
    cases hf
    rw [h.up _ _ hn]
    have hk := h.nk hn
    exact ⟨_, rfl, h.map hz (kap_frz n ts l) hk (h.drops hk).1 (h.drops hk).2⟩
  · cases hf
theorem flat_sev {C : Cfg} {xs : List Operand} (h : Ext kE kO x ob s s1) (hx : ∀ o ∈ xs, offO kE o = true) : (xs.flatMap fun o => cellsOfS (sev C s1 o)) = xs.flatMap fun o => cellsOfS (sev C s o) := by
  induction xs with
  | nil => rfl
  | cons a r ih =>
    simp only [List.flatMap_cons]
    rw [h.sev (hx a (List.mem_cons_self ..)), ih fun o ho => hx o (List.mem_cons_of_mem _ ho)]
theorem Ext.settle {C : Cfg} {xs : List Operand} (hz : Zok kO x ob) (hx : ∀ o ∈ xs, offO kE o = true) : ∀ (f : Nat) {s s1 s' : SS}, Ext kE kO x ob s s1 → settleS C f xs s = some s' → ∃ s1', settleS C f xs s1 = some s1' ∧ Ext kE kO x ob s' s1'
  | 0, s, s1, s', h, hf => by
    simp only [settleS, Option.some.injEq] at hf ⊢
    exact ⟨_, rfl, hf ▸ h⟩
  | f + 1, s, s1, s', h, hf => by
    simp only [settleS] at hf ⊢
    rw [flat_sev h hx]
    split at hf
    · cases hf; exact ⟨_, rfl, h⟩
    · split at hf
      · rename_i n _ s2 h2
        obtain ⟨s3, h3, h4⟩ := h.freeze hz h2
        simp only [h3]
        exact Ext.settle hz hx f h4 hf
      · cases hf
theorem Ext.calm {C : Cfg} {xs : List Operand} (h : Ext kE kO x ob s s1) (hz : Zok kO x ob) (hx : ∀ o ∈ xs, offO kE o = true) {s' : SS} (hf : calmS C xs s = some s') : ∃ s1', calmS C xs s1 = some s1' ∧ Ext kE kO x ob s' s1' := by
  unfold calmS at hf ⊢
  split at hf
  · rename_i s2 h2
    obtain ⟨s3, h3, h4⟩ := Ext.settle hz hx 8 h h2
    simp only [h3]
    rw [flat_sev h4 hx]
    split at hf
    · cases hf; exact ⟨_, rfl, h4⟩
    · cases hf
  · cases hf
theorem Ext.prep {C : Cfg} {xs : List Operand} (h : Ext kE kO x ob s s1) (hz : Zok kO x ob) (hx : ∀ o ∈ xs, offO kE o = true) {d : Nat} (hd : kO d = false) {s' : SS} (hf : prepS C d xs s = some s') : ∃ s1', prepS C d xs s1 = some s1' ∧ Ext kE kO x ob s' s1' := by
  unfold prepS at hf ⊢
  split at hf
  · rename_i s2 h2
    obtain ⟨s3, h3, h4⟩ := h.calm hz hx h2
    simp only [h3]
    split at hf
    · rename_i s4 h5
      obtain ⟨s5, h6, h7⟩ := h4.fresh hz hd h5
      simp only [h6]
      rw [flat_sev h7 hx]
      split at hf
      · cases hf; exact ⟨_, rfl, h7⟩
      · cases hf
    · cases hf
  · cases hf

theorem offs {op : Op} (ho : ∀ o ∈ op.operands.toList, offO kE o = true) (h : Ext kE kO x ob s s1) {C : Cfg} : ∀ o ∈ op.operands.toList, sev C s1 o = sev C s o := fun o hm => h.sev (ho o hm)

/-- THE FRAME of a making or changing operation. -/
theorem sH_ext {C : Cfg} (h : Ext kE kO x ob s s1) (hz : Zok kO x ob) {dst : Option Tmp} {op : Op} (ho : ∀ o ∈ op.operands.toList, offO kE o = true) (hd : ∀ t, dst = some t → kO t = false) {c : List Bool} {v : SV} {s' : SS}
    (hr : sH C s dst op = some (c, v, s')) : ∃ s1', sH C s1 dst op = some (c, v, s1') ∧ Ext kE kO x ob s' s1' := by
  cases op with
  | box T y =>
    cases dst with
    | none => simp [sH] at hr
    | some d =>
      have hd := hd d rfl
      have hy : offO kE y = true := ho y (by simp [Op.operands])
      simp only [sH] at hr ⊢
      split at hr
      · rename_i hlt
        rw [if_pos hlt]
        split at hr
        · rename_i s2 h2
          obtain ⟨s3, h3, h4⟩ := h.fresh hz hd h2
          simp only [h3]
          split at hr
          · rename_i cs h5
            rw [h4.sev hy, cellsS_up h4.up h5]
            simp only [Option.some.injEq, Prod.mk.injEq] at hr
            obtain ⟨rfl, rfl, rfl⟩ := hr
            exact ⟨_, rfl, h4.cons hd _⟩
          · cases hr
        · cases hr
      · cases hr
  | alloc T =>
    cases dst with
    | none => simp [sH] at hr
    | some d =>
      have hd := hd d rfl
      simp only [sH] at hr ⊢
      split at hr
      · rename_i hlt
        rw [if_pos hlt]
        split at hr
        · rename_i s2 h2
          obtain ⟨s3, h3, h4⟩ := h.fresh hz hd h2
          simp only [h3]
          split at hr
          case h_8 => cases hr
          all_goals
            rename_i e
            simp only [Option.some.injEq, Prod.mk.injEq] at hr
            obtain ⟨rfl, rfl, rfl⟩ := hr
            exact ⟨_, rfl, h4.cons hd _⟩
        · cases hr
      · cases hr
  | buildSlice T len parts =>
    cases dst with
    | none => simp [sH] at hr
    | some d =>
      have hd := hd d rfl
      have hp : ∀ o ∈ parts.toList.map (·.2), offO kE o = true := fun o hm => ho o (by simpa [Op.operands] using hm)
      simp only [sH] at hr ⊢
      split at hr
      · rename_i hlt
        rw [if_pos hlt]
        split at hr
        · rename_i s2 ts by_ h2 e
          obtain ⟨s3, h3, h4⟩ := h.prep hz hp hd h2
          simp only [h3, e]
          split at hr
          · rename_i rows h5
            rw [map_sev (fun o hm => h4.sev (hp o hm)), toRows_up h4.up h5]
            simp only
            split at hr
            · rename_i hc; rw [if_pos hc]
              simp only [Option.some.injEq, Prod.mk.injEq] at hr
              obtain ⟨rfl, rfl, rfl⟩ := hr
              exact ⟨_, rfl, h4.cons hd _⟩
            · cases hr
          · cases hr
        · cases hr
      · cases hr
  | makeSlice T l m =>
    cases dst with
    | none => simp [sH] at hr
    | some d =>
      have hd := hd d rfl
      have hl : offO kE l = true := ho l (by simp [Op.operands])
      have hm : offO kE m = true := ho m (by simp [Op.operands])
      simp only [sH] at hr ⊢
      split at hr
      · rename_i hlt
        rw [if_pos hlt]
        split at hr
        · rename_i s2 h2
          obtain ⟨s3, h3, h4⟩ := h.fresh hz hd h2
          simp only [h3, h4.sev hl, h4.sev hm]
          split at hr
          · rename_i ts by_ n m e1 e2 e3
            simp only [Option.some.injEq, Prod.mk.injEq] at hr
            obtain ⟨rfl, rfl, rfl⟩ := hr
            exact ⟨_, rfl, h4.cons hd _⟩
          · cases hr
        · cases hr
      · cases hr
  | convert S T y =>
    cases dst with
    | none => simp [sH] at hr
    | some d =>
      have hd := hd d rfl
      have hy : offO kE y = true := ho y (by simp [Op.operands])
      simp only [sH] at hr ⊢
      split at hr
      · rename_i hlt
        rw [if_pos hlt]
        split at hr
        · rename_i s2 h2
          obtain ⟨s3, h3, h4⟩ := h.fresh hz hd h2
          simp only [h3, h4.sev hy]
          split at hr
          · rename_i b e1 e2
            split at hr
            · rename_i hb; rw [if_pos hb]
              simp only [Option.some.injEq, Prod.mk.injEq] at hr
              obtain ⟨rfl, rfl, rfl⟩ := hr
              exact ⟨_, rfl, h4.cons hd _⟩
            · cases hr
          · cases hr
        · cases hr
      · cases hr
  | store T y z =>
    cases dst with
    | some d => simp [sH] at hr
    | none =>
      have hy : offO kE y = true := ho y (by simp [Op.operands])
      have hz' : offO kE z = true := ho z (by simp [Op.operands])
      simp only [sH] at hr ⊢
      rw [h.sev hy]
      split at hr
      · rename_i n sz i off D e1 e2
        split at hr
        · rename_i cs e3
          have hk := h.nk e3
          rw [h.up _ _ e3, h.sev hz']
          simp only
          split at hr
          · rename_i us e4
            rw [cellsS_up h.up e4]
            simp only
            split at hr
            · rename_i hc; rw [if_pos hc]
              simp only [Option.some.injEq, Prod.mk.injEq] at hr
              obtain ⟨rfl, rfl, rfl⟩ := hr
              exact ⟨_, rfl, h.upd hk _⟩
            · cases hr
          · cases hr
        · rename_i ts0 l0 e3
          rw [h.up _ _ e3]
          simp only
          split at hr
          · rename_i s2 h2
            obtain ⟨s3, h3, h4⟩ := h.calm hz (fun o hm => by simp only [List.mem_singleton] at hm; subst hm; exact hz') h2
            simp only [h3, h4.sev hz', h4.sev hy]
            split at hr
            · rename_i ts l us n' sz' i' off' e4 e5 e6
              have hk := h4.nk e4
              rw [h4.up _ _ e4, cellsS_up h4.up e5, e6]
              simp only
              split at hr
              · rename_i hc; rw [if_pos hc]
                split at hr
                · rename_i row e7
                  simp only [Option.some.injEq, Prod.mk.injEq] at hr
                  obtain ⟨rfl, rfl, rfl⟩ := hr
                  exact ⟨_, rfl, h4.upd hk _⟩
                · cases hr
              · cases hr
            · cases hr
          · cases hr
        · cases hr
      · cases hr
  | call c =>
    obtain ⟨cal, args, argTypes⟩ := c
    cases cal with
    | builtin b =>
      cases b with
      | append =>
        cases dst with
        | none => simp [sH] at hr
        | some d =>
          have hd := hd d rfl
          have ha : ∀ o ∈ args.toList, offO kE o = true := fun o hm => ho o (by simpa [Op.operands, Call.operands] using hm)
          simp only [sH] at hr ⊢
          split at hr
          · rename_i hlt
            rw [if_pos hlt]
            split at hr
            · rename_i y z T T2 e1 e2
              rw [e1] at ha
              have hy := ha y (by simp)
              have hz' := ha z (by simp)
              simp only [h.sev hy, h.sev hz']
              split at hr
              · rename_i ts by_ e3
                split at hr
                · rename_i c' rows e4
                  have e5 : appRows C s1 ts T2 (sev C s z) = some (c', rows) := by
                    unfold appRows at e4 ⊢
                    split at e4
                    · exact e4
                    · split at e4
                      · rename_i hi; rw [if_pos hi]; exact sView_up h.up e4
                      · cases e4
                  rw [e5]
                  simp only
                  split at hr
                  · split at hr
                    · rename_i s2 h2
                      obtain ⟨s3, h3, h4⟩ := h.fresh hz hd h2
                      simp only [h3]
                      simp only [Option.some.injEq, Prod.mk.injEq] at hr
                      obtain ⟨rfl, rfl, rfl⟩ := hr
                      exact ⟨_, rfl, h4.cons hd _⟩
                    · cases hr
                  · rename_i m e6
                    split at hr
                    · rename_i us l e7
                      have hk := h.nk e7
                      rw [h.up _ _ e7]
                      simp only
                      split at hr
                      · rename_i hb; rw [dif_pos hb]
                        split at hr
                        · rename_i s2 h2
                          have hm := h.map hz (kap_kill m) hk (h.drops hk).1 (h.drops hk).2
                          obtain ⟨s3, h3, h4⟩ := hm.fresh hz hd h2
                          simp only [h3]
                          simp only [Option.some.injEq, Prod.mk.injEq] at hr
                          obtain ⟨rfl, rfl, rfl⟩ := hr
                          exact ⟨_, rfl, h4.cons hd _⟩
                        · cases hr
                      · cases hr
                    · cases hr
                  · cases hr
                · cases hr
              · cases hr
            · cases hr
          · cases hr
      | _ => simp [sH] at hr
    | _ => simp [sH] at hr
  | _ => simp [sH] at hr

/-- what makes or changes something is no read, whatever is there -/
theorem sR_none {C : Cfg} {s s1 : SS} {dst : Option Tmp} {op : Op} (hs : ∀ o ∈ op.operands.toList, sev C s1 o = sev C s o) {d0 : Nat} {y : List Bool × SV × SS} (hr : sH C s dst op = some y) : d0 = d0 → sR C s op = none → sR C s1 op = none := by
  intro _ hn
  cases op with
  | convert S T z =>
    have e : sev C s1 z = sev C s z := hs z (by simp [Op.operands])
    cases dst with
    | none => simp [sH] at hr
    | some d =>
      simp only [sH] at hr
      split at hr
      · split at hr
        · rename_i s2 h2
          split at hr
          · rename_i b e1 e2
            split at hr
            · rename_i hb
              have hT : ∃ ts by_, lkT C.G T = some (.slice ts by_) := by
                unfold isBytes at hb
                split at hb
                · exact ⟨_, _, by assumption⟩
                · cases hb
              obtain ⟨ts, by_, hT⟩ := hT
              simp [sR, hT]
            · cases hr
          · cases hr
        · cases hr
      · cases hr
  | call c =>
    obtain ⟨cal, args, argTypes⟩ := c
    cases cal with
    | builtin b => cases b <;> first | (simp [sH] at hr; done) | rfl
    | _ => simp [sH] at hr
  | _ => first | (simp [sH] at hr; done) | rfl
end
end Go.Abs

/- An object more and a slot more: calls and single operations. -/
namespace Go.Abs
open Go.RowKit

theorem toAT_bx {O : SObjs} {ts : Tys} {y : SV} {p : ts.T} (h1 : toAT O (.bx ts) y = some p) : ∃ n cs, y = .v (.c (.ref n ts.len 0 0)) ∧ lookS n O = some (.box cs) := by
  cases y with
  | tup l => simp [toAT] at h1
  | v x =>
    cases x with
    | g l => simp [toAT] at h1
    | c y =>
      cases y with
      | ref n sz i off =>
        cases i with
        | succ i => simp [toAT] at h1
        | zero =>
          cases off with
          | succ off => simp [toAT] at h1
          | zero =>
            simp only [toAT] at h1
            split at h1
            · rename_i hs
              subst hs
              split at h1
              · rename_i cs hl; exact ⟨n, cs, rfl, hl⟩
              · cases h1
            · cases h1
      | _ => simp [toAT] at h1
section
variable {kE kO : Nat → Bool} {x : Option SV} {ob : Option SO} {s s1 : SS}
theorem Ext.boxes {O0 : SObjs} : ∀ {l : List AT} {xs : List SV} {a : argsT l} {o : outsT (bxsOf l)} {E E1 : List (Nat × SV)} {O O1 : SObjs}, toArgs O0 l xs = some a → (∀ n o, lookS n O0 = some o → kO n = false) → Ext kE kO x ob ⟨E, O⟩ ⟨E1, O1⟩ →
    Ext kE kO x ob ⟨E, setBoxes l xs o O⟩ ⟨E1, setBoxes l xs o O1⟩
  | [], [], _, _, _, _, _, _, _, _, h => h
  | .v c :: l, y :: xs, a, o, E, E1, O, O1, ha, hk, h => by
    unfold toArgs at ha
    split at ha
    · rename_i p q h1 h2
      exact Ext.boxes (l := l) h2 hk h
    · cases ha
  | .bx ts :: l, y :: xs, a, o, E, E1, O, O1, ha, hk, h => by
    unfold toArgs at ha
    split at ha
    · rename_i p q h1 h2
      obtain ⟨n, cs, rfl, hl⟩ := toAT_bx h1
      exact Ext.boxes (l := l) h2 hk (h.upd (hk n _ hl) _)
    · cases ha
  | [], _ :: _, _, _, _, _, _, _, ha, _, _ => by cases ha
  | _ :: _, [], _, _, _, _, _, _, ha, _, _ => by cases ha
theorem Ext.ret (h : Ext kE kO x ob s s1) {d : Nat} (hd : kO d = false) : ∀ (r : RT) (y : r.T), (retS d s1 r y).1 = (retS d s r y).1 ∧ Ext kE kO x ob (retS d s r y).2 (retS d s1 r y).2
  | .v _, _ => ⟨rfl, h⟩
  | .tup _, _ => ⟨rfl, h⟩
  | .own _, _ => ⟨rfl, h.cons hd _⟩
  | .box _, _ => ⟨rfl, h.cons hd _⟩
  | .unit, _ => ⟨rfl, h⟩
variable {R : Type} {r : R} {K K1 : SS → Option R}
theorem obind_some {α β : Type} {y : Option α} {f : α → Option β} {r : β} (h : obind y f = some r) : ∃ a, y = some a ∧ f a = some r := by
  unfold obind at h
  cases y with
  | none => simp at h
  | some a => exact ⟨a, rfl, h⟩
theorem sCall_ext {C : Cfg} {FT : List (Nat × Entry)} (h : Ext kE kO x ob s s1) (hz : Zok kO x ob) {dst : Option Tmp} {f : FuncId} {xs : List Operand} (hx : ∀ o ∈ xs, offO kE o = true) (hd : ∀ t, dst = some t → kE t = false) (hdO : ∀ t, dst = some t → kO t = false) (hd9 : kO 999998 = false)
    (hK : ∀ s' s1', Ext kE kO x ob s' s1' → K s' = some r → K1 s1' = some r) (hr : sCall C FT false s dst f xs K = some r) : sCall C FT false s1 dst f xs K1 = some r := by
  have hdd : kO (dst.getD 999998) = false := by cases dst with | none => exact hd9 | some d => exact hdO d rfl
  unfold sCall at hr ⊢
  split at hr
  · cases hr
  · rename_i e he
    have key : ∀ s2 s3, Ext kE kO x ob s2 s3 → (match toArgs s2.objs e.sig.args (xs.map (sev C s2)) with
      | none => none
      | some a => if dst.getD 999998 < top ∧ e.sig.args.length ≤ 1000 ∧ okNames (bxNames e.sig.args (xs.map (sev C s2))) = true then
        obind (e.F a) fun r =>
          K ((retS (dst.getD 999998) ⟨s2.env, setBoxes e.sig.args (xs.map (sev C s2)) r.2 s2.objs⟩ e.sig.ret r.1).2.put dst
            (retS (dst.getD 999998) ⟨s2.env, setBoxes e.sig.args (xs.map (sev C s2)) r.2 s2.objs⟩ e.sig.ret r.1).1)
        else none) = some r → (match toArgs s3.objs e.sig.args (xs.map (sev C s3)) with
      | none => none
      | some a => if dst.getD 999998 < top ∧ e.sig.args.length ≤ 1000 ∧ okNames (bxNames e.sig.args (xs.map (sev C s3))) = true then
        obind (e.F a) fun r =>
          K1 ((retS (dst.getD 999998) ⟨s3.env, setBoxes e.sig.args (xs.map (sev C s3)) r.2 s3.objs⟩ e.sig.ret r.1).2.put dst
            (retS (dst.getD 999998) ⟨s3.env, setBoxes e.sig.args (xs.map (sev C s3)) r.2 s3.objs⟩ e.sig.ret r.1).1)
        else none) = some r := by
      intro s2 s3 h4 hr
      rw [map_sev fun o ho => h4.sev (hx o ho)]
      split at hr
      · cases hr
      · rename_i a ha
        rw [toArgs_up h4.up ha]
        simp only
        split at hr
        · rename_i hc; rw [if_pos hc]
          obtain ⟨y, hy, hr⟩ := obind_some hr
          rw [hy]
          have hb := Ext.boxes (o := y.2) ha (fun n o hn => h4.nk hn) (E := s2.env) (E1 := s3.env) (O := s2.objs) (O1 := s3.objs) h4
          obtain ⟨g1, g2⟩ := hb.ret hdd e.sig.ret y.1
          simp only [obind, Option.bind]
          rw [g1]
          exact hK _ _ (g2.put hd _) hr
        · cases hr
    cases hb : (bxsOf e.sig.args).isEmpty && gRT e.sig.ret with
    | true =>
      rw [hb] at hr
      simp only at hr ⊢
      split at hr
      · cases hr
      · rename_i s2 h2
        obtain ⟨s3, h3, h4⟩ := h.fresh hz hdd h2
        simp only [h3]
        exact key s2 s3 h4 hr
    | false =>
      rw [hb] at hr
      simp only at hr ⊢
      split at hr
      · cases hr
      · rename_i s2 h2
        obtain ⟨s3, h3, h4⟩ := h.prep hz hx hdd h2
        simp only [h3]
        exact key s2 s3 h4 hr
theorem br_cases {α : Type} {b : Bool} {y z : Option α} {r : α} (h : br b y z = some r) : (b = true ∧ y = some r) ∨ (b = false ∧ z = some r) := by
  cases b <;> simp [br] at h
  · exact .inr ⟨rfl, h⟩
  · exact .inl ⟨rfl, h⟩
theorem need_of {α : Type} {m : Option α} : ∀ {l : List Bool}, allT l → need l m = m
  | [], _ => rfl
  | c :: l, h => by
    obtain ⟨h1, h2⟩ := h
    subst h1
    simp only [need, br, if_true]
    exact need_of h2
theorem need_ext {R1 : Type} {r1 : R1} {l : List Bool} {m : Option R} {m1 : Option R1} (h : need l m = some r) (hm : m = some r → m1 = some r1) : need l m1 = some r1 := by
  obtain ⟨h1, h2⟩ := need_some h
  rw [need_of h1]; exact hm h2
theorem sOp0_ext {C : Cfg} {FT : List (Nat × Entry)} (h : Ext kE kO x ob s s1) (hz : Zok kO x ob) {dst : Option Tmp} {op : Op} (ho : ∀ o ∈ op.operands.toList, offO kE o = true) (hd : ∀ t, dst = some t → kE t = false) (hdO : ∀ t, dst = some t → kO t = false) (hd9 : kO 999998 = false)
    (hK : ∀ s' s1', Ext kE kO x ob s' s1' → K s' = some r → K1 s1' = some r) (hr : sOp0 C FT false s dst op K = some r) : sOp0 C FT false s1 dst op K1 = some r := by
  unfold sOp0 at hr ⊢
  split at hr
  · rename_i f args _
    exact sCall_ext h hz (fun o hm => ho o (by simp only [Op.operands, Call.operands]; simpa using Or.inr hm)) hd hdO hd9 hK hr
  · rename_i c a b
    have hc := h.sev (C := C) (ho c (by simp [Op.operands]))
    have ha := h.sev (C := C) (ho a (by simp [Op.operands]))
    have hb := h.sev (C := C) (ho b (by simp [Op.operands]))
    simp only [hc, ha, hb]
    split at hr
    · rename_i t e
      rcases br_cases hr with ⟨h1, h2⟩ | ⟨h1, h2⟩
      · subst h1; simp only [br, if_true]; exact hK _ _ (h.put hd _) h2
      · subst h1; simp only [br]; exact hK _ _ (h.put hd _) h2
    · cases hr
  · rename_i hn1 hn2
    have hs : ∀ o ∈ op.operands.toList, sev C s1 o = sev C s o := fun o hm => h.sev (ho o hm)
    split at hr
    · rename_i c v e
      rw [sR_up h.up hs e]
      exact need_ext hr fun hr => hK _ _ (h.put hd _) hr
    · rename_i e
      simp only [Bool.false_eq_true, if_false] at hr ⊢
      split at hr
      · rename_i c v s' e2
        rw [sR_none hs (d0 := 0) e2 rfl e]
        obtain ⟨s3, h3, h4⟩ := sH_ext h hz ho hdO e2
        simp only [h3]
        exact need_ext hr fun hr => hK _ _ (h4.put hd _) hr
      · cases hr
theorem sOp_ext {C : Cfg} {FT : List (Nat × Entry)} (h : Ext kE kO x ob s s1) (hz : Zok kO x ob) {dst : Option Tmp} {op : Op} (ho : ∀ o ∈ op.operands.toList, offO kE o = true) (hd : ∀ t, dst = some t → kE t = false) (hdO : ∀ t, dst = some t → kO t = false) (hd9 : kO 999998 = false)
    (hK : ∀ s' s1', Ext kE kO x ob s' s1' → K s' = some r → K1 s1' = some r) (hr : sOp C FT false s dst op K = some r) : sOp C FT false s1 dst op K1 = some r := by
  unfold sOp at hr ⊢
  simp only at hr ⊢
  split at hr
  · rename_i t e
    have ht : kE t = false := by
      have : Operand.tmp t ∈ op.operands.toList := by
        unfold appT at e
        split at e
        · split at e
          · rename_i args _ t' _ e2
            cases e
            simp [Op.operands, Call.operands, e2]
          · cases e
        · cases e
      simpa [offO] using ho _ this
    have go : ∀ s' s1', Ext kE kO x ob s' s1' → sOp0 C FT false s' dst op K = some r → sOp0 C FT false s1' dst op K1 = some r := fun s' s1' h' hr => sOp0_ext h' hz ho hd hdO hd9 hK hr
    simp only [trimB, show Nat.ble top top = true from rfl] at hr ⊢
    rw [h.get ht]
    split at hr
    · rename_i y e2
      unfold trimC at hr ⊢
      split at hr
      · rename_i n sz off j
        split at hr
        · rename_i ts l e3
          rw [h.up _ _ e3]
          simp only
          have hk := h.nk e3
          split at hr
          · rename_i hsz; rw [if_pos hsz]
            refine need_ext hr fun hr => go _ _ ?_ hr
            refine Ext.put ?_ (fun t' e' => by cases e'; exact ht) _
            exact (h.kap hz (kap_unown n ts.len (lLen l)) hk).upd hk _
          · rename_i hsz; rw [if_neg hsz]
            exact go _ _ h hr
        · rename_i e3
          split
          · rename_i ts l e4
            exfalso
            cases hk : kO n with
            | false => rw [h.obj, hk] at e4; exact e3 ts l e4
            | true =>
              -- the slice is of an object that is not there: the operation itself fails
              have hn := h.no n hk
              have := go
              unfold sOp0 at hr
              revert hr
              unfold appT at e
              split at e
              · split at e
                · rename_i args at_ t' l' e5
                  cases e
                  simp only [sR, sH, Bool.false_eq_true, if_false]
                  intro hr
                  split at hr
                  · rename_i e6
                    cases dst with
                    | none => simp at e6
                    | some d =>
                      simp only at e6
                      split at e6
                      · split at e6
                        · rename_i y2 z2 T T2 e7 e8
                          rw [e5] at e7
                          cases e7
                          have e9 : sev C s (.tmp t) = .v (.c (.msl n sz off j)) := e2
                          rw [e9] at e6
                          split at e6
                          · split at e6
                            · simp at e6
                            · cases e6
                          · cases e6
                        · cases e6
                      · cases e6
                  · cases hr
                · cases e
              · cases e
          · exact go _ _ h hr
      · exact go _ _ h hr
    · exact go _ _ h hr
  · exact sOp0_ext h hz ho hd hdO hd9 hK hr
end
end Go.Abs

/- Operations that only lay a new block may come early. -/
namespace Go.Abs
open Go.RowKit

/-! what bears no names stays -/
/-- Slots that bear no names are as they were. -/
def Kp (s s' : SS) : Prop := ∀ t, nlSV (lkE s.env t) = true → lkE s'.env t = lkE s.env t
theorem nl_cl {c : CV} (h : nlCV c = true) (m : Nat) : clCV m c = true := by
  cases c <;> first | rfl | (simp [nlCV] at h)
theorem nl_clV {c : VV} (h : nlVV c = true) (m : Nat) : clVV m c = true := by
  cases c with
  | c c => exact nl_cl h m
  | g l => exact List.all_eq_true.2 fun a ha => nl_cl (List.all_eq_true.1 h a ha) m
theorem nl_clS {c : SV} (h : nlSV c = true) (m : Nat) : clSV m c = true := by
  cases c with
  | v c => exact nl_clV h m
  | tup l => exact List.all_eq_true.2 fun a ha => nl_clV (List.all_eq_true.1 h a ha) m
theorem Kp.rfl' (s : SS) : Kp s s := fun _ _ => rfl
theorem Kp.trans {a b c : SS} (h : Kp a b) (k : Kp b c) : Kp a c := fun t ht => by
  have h1 := h t ht
  rw [k t (by rw [h1]; exact ht), h1]
theorem Kp.map {s : SS} {m : Nat} {κ : CV → CV} (hκ : Kap m κ) (O : SObjs) : Kp s ⟨mapEC κ s.env, O⟩ := fun t ht => by
  simp only [lkE_map κ hκ.any]
  exact hκ.sv (nl_clS ht m)
theorem Kp.of_env {s s' : SS} (h : s'.env = s.env) : Kp s s' := fun t _ => by rw [h]
theorem fresh_kp {d : Nat} {s s' : SS} (h : freshS d s = some s') : Kp s s' := by
  unfold freshS at h
  split at h
  · cases h; exact .map (kap_kill d) _
  · cases h
theorem freeze_kp {n : Nat} {s s' : SS} (h : freezeS n s = some s') : Kp s s' := by
  unfold freezeS at h
  split at h
  · cases h; exact .map (kap_frz n _ _) _
  · cases h
theorem settle_kp {C : Cfg} {xs : List Operand} : ∀ (f : Nat) {s s' : SS}, settleS C f xs s = some s' → Kp s s'
  | 0, s, s', h => by simp only [settleS, Option.some.injEq] at h; subst h; exact .rfl' _
  | f + 1, s, s', h => by
    simp only [settleS] at h
    split at h
    · cases h; exact .rfl' _
    · split at h
      · rename_i s2 h2; exact (freeze_kp h2).trans (settle_kp f h)
      · cases h
theorem calm_kp {C : Cfg} {xs : List Operand} {s s' : SS} (h : calmS C xs s = some s') : Kp s s' := by
  unfold calmS at h
  split at h
  · rename_i s2 h2
    split at h
    · cases h; exact settle_kp 8 h2
    · cases h
  · cases h
theorem prep_kp {C : Cfg} {d : Nat} {xs : List Operand} {s s' : SS} (h : prepS C d xs s = some s') : Kp s s' := by
  unfold prepS at h
  split at h
  · rename_i s2 h2
    split at h
    · rename_i s3 h3
      split at h
      · cases h; exact (calm_kp h2).trans (fresh_kp h3)
      · cases h
    · cases h
  · cases h
theorem sH_kp {C : Cfg} {s : SS} {dst : Option Tmp} {op : Op} {c : List Bool} {v : SV} {s' : SS} (hr : sH C s dst op = some (c, v, s')) : Kp s s' := by
  unfold sH at hr
  split at hr
  · split at hr
    · split at hr
      · rename_i s2 h2
        split at hr
        · simp only [Option.some.injEq, Prod.mk.injEq] at hr
          obtain ⟨_, _, rfl⟩ := hr
          exact (fresh_kp h2).trans (.of_env rfl)
        · cases hr
      · cases hr
    · cases hr
  · split at hr
    · split at hr
      · rename_i s2 h2
        split at hr
        all_goals first
          | (simp only [Option.some.injEq, Prod.mk.injEq] at hr
             obtain ⟨_, _, rfl⟩ := hr
             exact (fresh_kp h2).trans (.of_env rfl))
          | cases hr
      · cases hr
    · cases hr
  · split at hr
    · split at hr
      · rename_i s2 ts by_ h2 e
        split at hr
        · split at hr
          · simp only [Option.some.injEq, Prod.mk.injEq] at hr
            obtain ⟨_, _, rfl⟩ := hr
            exact (prep_kp h2).trans (.of_env rfl)
          · cases hr
        · cases hr
      · cases hr
    · cases hr
  · split at hr
    · split at hr
      · rename_i s2 h2
        split at hr
        · simp only [Option.some.injEq, Prod.mk.injEq] at hr
          obtain ⟨_, _, rfl⟩ := hr
          exact (fresh_kp h2).trans (.of_env rfl)
        · cases hr
      · cases hr
    · cases hr
  · split at hr
    · split at hr
      · rename_i s2 h2
        split at hr
        · split at hr
          · simp only [Option.some.injEq, Prod.mk.injEq] at hr
            obtain ⟨_, _, rfl⟩ := hr
            exact (fresh_kp h2).trans (.of_env rfl)
          · cases hr
        · cases hr
      · cases hr
    · cases hr
  · split at hr
    · split at hr
      · split at hr
        · split at hr
          · simp only [Option.some.injEq, Prod.mk.injEq] at hr
            obtain ⟨_, _, rfl⟩ := hr
            exact .of_env rfl
          · cases hr
        · cases hr
      · split at hr
        · rename_i s2 h2
          split at hr
          · split at hr
            · split at hr
              · simp only [Option.some.injEq, Prod.mk.injEq] at hr
                obtain ⟨_, _, rfl⟩ := hr
                exact (calm_kp h2).trans (.of_env rfl)
              · cases hr
            · cases hr
          · cases hr
        · cases hr
      · cases hr
    · cases hr
  · split at hr
    · split at hr
      · split at hr
        · split at hr
          · split at hr
            · split at hr
              · rename_i s2 h2
                simp only [Option.some.injEq, Prod.mk.injEq] at hr
                obtain ⟨_, _, rfl⟩ := hr
                exact (fresh_kp h2).trans (.of_env rfl)
              · cases hr
            · split at hr
              · split at hr
                · split at hr
                  · rename_i s2 h2
                    simp only [Option.some.injEq, Prod.mk.injEq] at hr
                    obtain ⟨_, _, rfl⟩ := hr
                    exact ((Kp.map (kap_kill _) _).trans (fresh_kp h2)).trans (.of_env rfl)
                  · cases hr
                · cases hr
              · cases hr
            · cases hr
          · cases hr
        · cases hr
      · cases hr
    · cases hr
  · cases hr

/-- The same, but for one slot. -/
def Kd (dst : Option Tmp) (s s' : SS) : Prop := ∀ t, dst ≠ some t → nlSV (lkE s.env t) = true → lkE s'.env t = lkE s.env t
theorem Kp.put {s s' : SS} (h : Kp s s') (dst : Option Tmp) (v : SV) : Kd dst s (s'.put dst v) := fun t ht hn => by
  cases dst with
  | none => exact h t hn
  | some d =>
    simp only [SS.put, lkE]
    rw [if_neg fun e => ht (by rw [e])]
    exact h t hn
theorem Kp.kd {s s' s2 : SS} {dst : Option Tmp} (h : Kp s s') (k : Kd dst s' s2) : Kd dst s s2 := fun t ht hn => by
  have h1 := h t hn
  rw [k t ht (by rw [h1]; exact hn), h1]
theorem ret_env {d : Nat} {s : SS} : ∀ (r : RT) (y : r.T), (retS d s r y).2.env = s.env
  | .v _, _ => rfl
  | .tup _, _ => rfl
  | .own _, _ => rfl
  | .box _, _ => rfl
  | .unit, _ => rfl
section
variable {R R1 : Type} {r : R} {r1 : R1} {K : SS → Option R} {K1 : SS → Option R1}
theorem sCall_kd {C : Cfg} {FT : List (Nat × Entry)} {s : SS} {dst : Option Tmp} {f : FuncId} {xs : List Operand}
    (hK : ∀ s', Kd dst s s' → K s' = some r → K1 s' = some r1) (hr : sCall C FT false s dst f xs K = some r) : sCall C FT false s dst f xs K1 = some r1 := by
  unfold sCall at hr ⊢
  split at hr
  · cases hr
  · rename_i e he
    have key : ∀ s2, Kp s s2 → (match toArgs s2.objs e.sig.args (xs.map (sev C s2)) with
      | none => none
      | some a => if dst.getD 999998 < top ∧ e.sig.args.length ≤ 1000 ∧ okNames (bxNames e.sig.args (xs.map (sev C s2))) = true then
        obind (e.F a) fun r =>
          K ((retS (dst.getD 999998) ⟨s2.env, setBoxes e.sig.args (xs.map (sev C s2)) r.2 s2.objs⟩ e.sig.ret r.1).2.put dst
            (retS (dst.getD 999998) ⟨s2.env, setBoxes e.sig.args (xs.map (sev C s2)) r.2 s2.objs⟩ e.sig.ret r.1).1)
        else none) = some r → (match toArgs s2.objs e.sig.args (xs.map (sev C s2)) with
      | none => none
      | some a => if dst.getD 999998 < top ∧ e.sig.args.length ≤ 1000 ∧ okNames (bxNames e.sig.args (xs.map (sev C s2))) = true then
        obind (e.F a) fun r =>
          K1 ((retS (dst.getD 999998) ⟨s2.env, setBoxes e.sig.args (xs.map (sev C s2)) r.2 s2.objs⟩ e.sig.ret r.1).2.put dst
            (retS (dst.getD 999998) ⟨s2.env, setBoxes e.sig.args (xs.map (sev C s2)) r.2 s2.objs⟩ e.sig.ret r.1).1)
        else none) = some r1 := by
      intro s2 h2 hr
      split at hr
      · cases hr
      · rename_i a ha
        split at hr
        · rename_i hc; rw [if_pos hc]
          obtain ⟨y, hy, hr⟩ := obind_some hr
          rw [hy]
          simp only [obind, Option.bind]
          exact hK _ ((h2.trans (.of_env (by rw [ret_env]))).put dst _) hr
        · cases hr
    cases hb : (bxsOf e.sig.args).isEmpty && gRT e.sig.ret with
    | true =>
      rw [hb] at hr
      simp only at hr ⊢
      split at hr
      · cases hr
      · rename_i s2 h2
        exact key s2 (fresh_kp h2) hr
    | false =>
      rw [hb] at hr
      simp only at hr ⊢
      split at hr
      · cases hr
      · rename_i s2 h2
        exact key s2 (prep_kp h2) hr
theorem sOp0_kd {C : Cfg} {FT : List (Nat × Entry)} {s : SS} {dst : Option Tmp} {op : Op}
    (hK : ∀ s', Kd dst s s' → K s' = some r → K1 s' = some r1) (hr : sOp0 C FT false s dst op K = some r) : sOp0 C FT false s dst op K1 = some r1 := by
  unfold sOp0 at hr ⊢
  split at hr
  · exact sCall_kd hK hr
  · rename_i c a b
    split at hr
    · rename_i t e
      rcases br_cases hr with ⟨h1, h2⟩ | ⟨h1, h2⟩
      · subst h1; simp only [br, if_true]; exact hK _ ((Kp.rfl' s).put dst _) h2
      · subst h1; simp only [br]; exact hK _ ((Kp.rfl' s).put dst _) h2
    · cases hr
  · rename_i hn1 hn2
    split at hr
    · rename_i c v e
      exact need_ext hr fun hr => hK _ ((Kp.rfl' s).put dst _) hr
    · rename_i e
      simp only [Bool.false_eq_true, if_false] at hr ⊢
      split at hr
      · rename_i c v s' e2
        exact need_ext hr fun hr => hK _ ((sH_kp e2).put dst _) hr
      · cases hr
theorem trimC_kp {s : SS} {x : CV} {put : Nat → SS → SS} {Q : SS → Prop} (hput : ∀ n sz off j s', x = .msl n sz off j → Kp s s' → Q (put n s')) (h0 : Q s) (hK : ∀ s', Q s' → K s' = some r → K1 s' = some r1) (hr : trimC s x put K = some r) : trimC s x put K1 = some r1 := by
  unfold trimC at hr ⊢
  split at hr
  · split at hr
    · split at hr
      · rename_i hsz
        rw [if_pos hsz]
        exact need_ext hr fun hr => hK _ (hput _ _ _ _ _ rfl (.map (kap_unown _ _ _) _)) hr
      · rename_i hsz
        rw [if_neg hsz]
        exact hK _ h0 hr
    · exact hK _ h0 hr
  · exact hK _ h0 hr
theorem sOp_kd {C : Cfg} {FT : List (Nat × Entry)} {s : SS} {dst : Option Tmp} {op : Op}
    (hK : ∀ s', Kd dst s s' → K s' = some r → K1 s' = some r1) (hr : sOp C FT false s dst op K = some r) : sOp C FT false s dst op K1 = some r1 := by
  unfold sOp at hr ⊢
  simp only at hr ⊢
  split at hr
  · rename_i t e
    simp only [trimB, show Nat.ble top top = true from rfl] at hr ⊢
    split at hr
    · rename_i y e2
      refine trimC_kp (Q := fun s' => Kp s s') (fun n sz off j s' hy h' => ?_) (.rfl' s) (fun s' h' hr => ?_) hr
      · intro t' ht'
        have hne : t ≠ t' := fun e3 => by
          subst e3
          unfold SS.get at e2
          split at e2
          · rw [e2, hy] at ht'
            simp [nlSV, nlVV, nlCV] at ht'
          · cases e2; cases hy
        simp only [SS.put, lkE, if_neg hne]
        exact h' t' ht'
      · exact sOp0_kd (fun s2 h2 => hK s2 (h'.kd h2)) hr
    · exact sOp0_kd hK hr
  · exact sOp0_kd hK hr
end
end Go.Abs

/- Operations that only lay a new block may come early: the steps that are left, from a typed state on. -/
namespace Go.Abs
open Go.RowKit

theorem sOp_none {C : Cfg} {FT : List (Nat × Entry)} {s : SS} {dst : Option Tmp} {op : Op} {R : Type} {r : R} (h : sOp C FT false s dst op (fun _ => (none : Option R)) = some r) : False := by
  have h1 := sOp_kd (r1 := true) (K1 := fun _ => (none : Option Bool)) (fun _ _ h => by cases h) h
  have h2 := sOp_kd (r1 := false) (K1 := fun _ => (none : Option Bool)) (fun _ _ h => by cases h) h
  rw [h1] at h2; cases h2

/-! nameless values -/
theorem nl_ofCS (v : Value) : nlCV (ofCS v) = true := by
  unfold ofCS
  split <;> first | rfl | (split <;> rfl)
theorem nl_ofVS (v : Value) : nlSV (ofVS v) = true := by
  unfold ofVS
  split
  · split
    · simp only [nlSV, nlVV, List.all_map]
      exact List.all_eq_true.2 fun x _ => nl_ofCS x
    · rfl
  · exact nl_ofCS _
theorem sev_kp {C : Cfg} {s s' : SS} (h : Kp s s') {o : Operand} (hn : nlSV (sev C s o) = true) : sev C s' o = sev C s o := by
  cases o with
  | tmp t =>
    simp only [sev, SS.get] at hn ⊢
    split
    · rename_i ht
      rw [if_pos ht] at hn
      exact h t hn
    · rfl
  | _ => rfl
theorem cellsS_nl {O O' : SObjs} {x : SV} (hn : nlSV x = true) : cellsS O x = cellsS O' x := by
  cases x with
  | tup l => rfl
  | v x => cases x with
    | g l => rfl
    | c c => cases c <;> first | rfl | (simp [nlSV, nlVV, nlCV] at hn)
theorem cells_nl {O : SObjs} {x : SV} {cs : List CV} (hn : nlSV x = true) (h : cellsS O x = some cs) : cs.all nlCV = true := by
  cases x with
  | tup l => cases h
  | v x => cases x with
    | g l => simp only [cellsS, Option.some.injEq] at h; subst h; exact hn
    | c c =>
      simp only [cellsS] at h
      split at h
      · cases h; simpa [nlSV, nlVV] using hn
      · cases h
theorem toRows_nl {O O' : SObjs} {ts : Tys} : ∀ {xs : List SV}, xs.all nlSV = true → toRows O ts xs = toRows O' ts xs
  | [], _ => rfl
  | x :: r, h => by
    simp only [List.all_cons, Bool.and_eq_true] at h
    simp only [toRows]
    rw [cellsS_nl (O' := O') h.1, toRows_nl (O' := O') h.2]
theorem firstC_nl : ∀ {l : List CV}, l.all nlCV = true → firstC l = none
  | [], _ => rfl
  | x :: r, h => by
    simp only [List.all_cons, Bool.and_eq_true] at h
    have ih := firstC_nl h.2
    cases x <;> first | exact ih | (simp [nlCV] at h)
theorem flat_nl {C : Cfg} {s : SS} {xs : List Operand} (h : ∀ o ∈ xs, nlSV (sev C s o) = true) : firstC (xs.flatMap fun o => cellsOfS (sev C s o)) = none := by
  refine firstC_nl (List.all_eq_true.2 fun c hc => ?_)
  obtain ⟨o, ho, hc⟩ := List.mem_flatMap.1 hc
  have := h o ho
  cases hx : sev C s o with
  | tup l => rw [hx] at hc; cases hc
  | v x => cases x with
    | g l => rw [hx] at hc this; exact List.all_eq_true.1 this c hc
    | c y =>
      rw [hx] at hc this
      simp only [cellsOfS, List.mem_singleton] at hc
      subst hc; exact this
theorem zc_nl : ∀ ts : Tys, ts.zc.all nlCV = true
  | .nil => rfl
  | .cons t ts => by
    simp only [Tys.zc, List.all_cons, Bool.and_eq_true]
    exact ⟨by cases t <;> rfl, zc_nl ts⟩
theorem all_cl {cs : List CV} (h : cs.all nlCV = true) (m : Nat) : cs.all (clCV m) = true := List.all_eq_true.2 fun c hc => nl_cl (List.all_eq_true.1 h c hc) m

theorem sOp_gentle {C : Cfg} {FT : List (Nat × Entry)} {s : SS} {dst : Option Tmp} {op : Op} (hg : gentleO op = true) {R : Type} (K : SS → Option R) : sOp C FT false s dst op K = match sH C s dst op with
    | some (c, x, s') => need c (K (s'.put dst x))
    | none => none := by
  cases op <;> first | rfl | (simp [gentleO] at hg)
/-- What an operation that only lays a new block comes to: the value, the object. -/
structure GOut (C : Cfg) (FT : List (Nat × Entry)) (d : Nat) (op : Op) (s : SS) (v : SV) (ob : SO) : Prop where
  clv : ∀ m, m ≠ d → clSV m v = true
  clo : ∀ m cs, ob = .box cs → cs.all (clCV m) = true
  arr : isBS op = true → ∃ ts l, ob = .arr ts l ∧ v = .v (.c (.own d))
  run : ∀ s2, (∀ o ∈ op.operands.toList, sev C s2 o = sev C s o) → lookS d s2.objs = none → ∀ {R : Type} (K : SS → Option R), sOp C FT false s2 (some d) op K = K ⟨(d, v) :: mapEC (killC d) s2.env, (d, ob) :: mapOC (killC d) s2.objs⟩
theorem GOut.same {C : Cfg} {FT : List (Nat × Entry)} {d : Nat} {op : Op} {s s' : SS} {v : SV} {ob : SO} (h : GOut C FT d op s v ob) (he : ∀ o ∈ op.operands.toList, sev C s' o = sev C s o) : GOut C FT d op s' v ob :=
  ⟨h.clv, h.clo, h.arr, fun s2 h2 hn _ K => h.run s2 (fun o ho => (h2 o ho).trans (he o ho)) hn K⟩
theorem fresh_eq {d : Nat} {s : SS} (h : lookS d s.objs = none) : freshS d s = some ⟨mapEC (killC d) s.env, mapOC (killC d) s.objs⟩ := by
  unfold freshS; rw [h]
theorem fresh_no {d : Nat} {s s' : SS} (h : freshS d s = some s') : lookS d s.objs = none := by
  unfold freshS at h
  split at h
  · assumption
  · cases h
theorem prep_nl {C : Cfg} {d : Nat} {xs : List Operand} {s : SS} (hn : ∀ o ∈ xs, nlSV (sev C s o) = true) : prepS C d xs s = freshS d s := by
  have h1 : settleS C 8 xs s = some s := by simp only [settleS, flat_nl hn]
  have h2 : calmS C xs s = some s := by simp only [calmS, h1, flat_nl hn]
  unfold prepS
  rw [h2]
  simp only
  cases hf : freshS d s with
  | none => rfl
  | some s2 =>
    have : firstC (xs.flatMap fun o => cellsOfS (sev C s2 o)) = none := flat_nl fun o ho => by
      rw [sev_kp (fresh_kp hf) (hn o ho)]; exact hn o ho
    simp only [this]
theorem gout_alloc {C : Cfg} {FT : List (Nat × Entry)} {d : Nat} {T : TypeId} {s : SS} {v : SV} {ob : SO} (hx : ∀ s, lookS d s.objs = none → sH C s (some d) (.alloc T) = some ([], v, ⟨mapEC (killC d) s.env, (d, ob) :: mapOC (killC d) s.objs⟩))
    (hv : ∀ m, m ≠ d → clSV m v = true) (ho : ∀ m cs, ob = .box cs → cs.all (clCV m) = true) : GOut C FT d (.alloc T) s v ob :=
  ⟨hv, ho, fun h => (by cases h), fun s3 _ hn3 R K => by rw [sOp_gentle rfl, hx s3 hn3]; rfl⟩
theorem gentle_out {C : Cfg} {FT : List (Nat × Entry)} {d : Nat} {op : Op} {s : SS} (hg : gentleO op = true) (hn : ∀ o ∈ op.operands.toList, nlSV (sev C s o) = true) {R : Type} {K : SS → Option R} {r : R} (hr : sOp C FT false s (some d) op K = some r) :
    ∃ v ob, GOut C FT d op s v ob := by
  rw [sOp_gentle hg] at hr
  cases op with
  | box T y =>
    simp only [sH] at hr
    split at hr
    case h_2 => cases hr
    rename_i c x s' h1
    split at h1
    case isFalse => cases h1
    rename_i hd
    split at h1
    case h_2 => cases h1
    rename_i s2 h2
    split at h1
    case h_2 => cases h1
    rename_i cs h3
    have hy := hn y (by simp [Op.operands])
    rw [sev_kp (fresh_kp h2) hy] at h3
    refine ⟨.v (.c (.ref d cs.length 0 0)), .box cs, fun m hm => ?_, fun m cs' e => ?_, fun h => (by cases h), fun s3 hs hn3 R K => ?_⟩
    · simp [clSV, clVV, clCV, hm.symm]
    · cases e; exact all_cl (cells_nl hy h3) m
    · rw [sOp_gentle rfl]
      simp only [sH, if_pos hd, fresh_eq hn3]
      have e1 := hs y (by simp [Op.operands])
      have e2 : sev C ⟨mapEC (killC d) s3.env, mapOC (killC d) s3.objs⟩ y = sev C s y := by
        rw [← e1]; exact sev_kp (.map (kap_kill d) _) (by rw [e1]; exact hy)
      rw [e2, cellsS_nl (O' := s2.objs) hy, h3]
      rfl
  | alloc T =>
    simp only [sH] at hr
    split at hr
    case h_2 => cases hr
    rename_i c x s' h1
    split at h1
    case isFalse => cases h1
    rename_i hd
    split at h1
    case h_2 => cases h1
    rename_i s2 h2
    split at h1
    · rename_i n ts e
      exact ⟨_, _, gout_alloc (v := .v (.c (.ref d ts.len 0 0))) (ob := .arr ts (lRep n ts.d)) (fun s3 hn3 => by simp only [sH, if_pos hd, fresh_eq hn3, e]) (fun m hm => by simp [clSV, clVV, clCV, hm.symm]) (fun m cs' e' => by cases e')⟩
    · rename_i ts fs b e
      exact ⟨_, _, gout_alloc (v := .v (.c (.ref d ts.len 0 0))) (ob := .box ts.zc) (fun s3 hn3 => by simp only [sH, if_pos hd, fresh_eq hn3, e]) (fun m hm => by simp [clSV, clVV, clCV, hm.symm]) (fun m cs' e' => by cases e'; exact all_cl (zc_nl _) m)⟩
    · rename_i k e
      exact ⟨_, _, gout_alloc (v := .v (.c (.ref d 1 0 0))) (ob := .box [.k (.int k 0)]) (fun s3 hn3 => by simp only [sH, if_pos hd, fresh_eq hn3, e]) (fun m hm => by simp [clSV, clVV, clCV, hm.symm]) (fun m cs' e' => by cases e'; rfl)⟩
    · rename_i  e
      exact ⟨_, _, gout_alloc (v := .v (.c (.ref d 1 0 0))) (ob := .box [.k (.bool false)]) (fun s3 hn3 => by simp only [sH, if_pos hd, fresh_eq hn3, e]) (fun m hm => by simp [clSV, clVV, clCV, hm.symm]) (fun m cs' e' => by cases e'; rfl)⟩
    · rename_i  e
      exact ⟨_, _, gout_alloc (v := .v (.c (.ref d 1 0 0))) (ob := .box [.k (.str [])]) (fun s3 hn3 => by simp only [sH, if_pos hd, fresh_eq hn3, e]) (fun m hm => by simp [clSV, clVV, clCV, hm.symm]) (fun m cs' e' => by cases e'; rfl)⟩
    · rename_i ts b e
      exact ⟨_, _, gout_alloc (v := .v (.c (.ref d 1 0 0))) (ob := .box [.nsl]) (fun s3 hn3 => by simp only [sH, if_pos hd, fresh_eq hn3, e]) (fun m hm => by simp [clSV, clVV, clCV, hm.symm]) (fun m cs' e' => by cases e'; rfl)⟩
    · rename_i c0 e
      exact ⟨_, _, gout_alloc (v := .v (.c (.ref d 1 0 0))) (ob := .box [.cst c0]) (fun s3 hn3 => by simp only [sH, if_pos hd, fresh_eq hn3, e]) (fun m hm => by simp [clSV, clVV, clCV, hm.symm]) (fun m cs' e' => by cases e'; rfl)⟩
    · cases h1
  | buildSlice T len parts =>
    have hp : ∀ o ∈ parts.toList.map (·.2), nlSV (sev C s o) = true := fun o ho => hn o (by simpa [Op.operands] using ho)
    simp only [sH] at hr
    split at hr
    case h_2 => cases hr
    rename_i c x s' h1
    split at h1
    case isFalse => cases h1
    rename_i hd
    rw [prep_nl hp] at h1
    split at h1
    case h_2 => cases h1
    rename_i s2 ts by_ h2 e
    split at h1
    case h_2 => cases h1
    rename_i rows h3
    split at h1
    case isFalse => cases h1
    rename_i hc
    have e0 : ((parts.toList.map (·.2)).map (sev C s2)) = (parts.toList.map (·.2)).map (sev C s) := List.map_congr_left fun o ho => sev_kp (fresh_kp h2) (hp o ho)
    rw [e0] at h3
    refine ⟨.v (.c (.own d)), .arr ts rows, fun m hm => ?_, fun m cs' e => (by cases e), fun _ => ⟨_, _, rfl, rfl⟩, fun s3 hs hn3 R K => ?_⟩
    · simp [clSV, clVV, clCV, hm.symm]
    · rw [sOp_gentle rfl]
      have hs' : ∀ o ∈ parts.toList.map (·.2), sev C s3 o = sev C s o := fun o ho => hs o (by simpa [Op.operands] using ho)
      simp only [sH, if_pos hd]
      rw [prep_nl (fun o ho => by rw [hs' o ho]; exact hp o ho), fresh_eq hn3, e]
      simp only
      have e1 : ((parts.toList.map (·.2)).map (sev C ⟨mapEC (killC d) s3.env, mapOC (killC d) s3.objs⟩)) = (parts.toList.map (·.2)).map (sev C s) := List.map_congr_left fun o ho => by
        rw [← hs' o ho]; exact sev_kp (.map (kap_kill d) _) (by rw [hs' o ho]; exact hp o ho)
      rw [e1, toRows_nl (O' := s2.objs) (by simp only [List.all_map]; exact List.all_eq_true.2 fun p hp' => hp p.2 (List.mem_map.2 ⟨p, hp', rfl⟩)), h3]
      simp only [if_pos hc]
      rfl
  | _ => simp [gentleO] at hg
end Go.Abs

/- What an operation leaves as it was. -/
namespace Go.Abs
open Go.RowKit

/-- κ leaves what bears no name of T, and brings in no names. -/
structure KT (T : Nat → Prop) (κ : CV → CV) : Prop where
  fix : ∀ c, (∀ m, T m → clCV m c = true) → κ c = c
  cl : ∀ d c, clCV d c = true → clCV d (κ c) = true
theorem kill_cl {d m : Nat} {c : CV} (h : clCV d c = true) : clCV d (killC m c) = true := by
  cases c <;> simp only [killC] <;> first | exact h | (split <;> first | rfl | exact h)
theorem frz_cl {m d : Nat} {ts : Tys} {l : List ts.T} {c : CV} (h : clCV m c = true) : clCV m (frzC d ts l c) = true := by
  cases c <;> simp only [frzC] <;> first | exact h | (split <;> first | rfl | exact h)
theorem unown_cl {d m sz k : Nat} {c : CV} (h : clCV d c = true) : clCV d (unownC m sz k c) = true := by
  cases c <;> simp only [unownC] <;> first | exact h | skip
  rename_i n
  split
  · rename_i e; subst e; exact h
  · exact h
theorem KT.of {T : Nat → Prop} {m : Nat} {κ : CV → CV} (h : Kap m κ) (hc : ∀ d c, clCV d c = true → clCV d (κ c) = true) (hT : T m) : KT T κ := ⟨fun c hx => h.fix c (hx m hT), hc⟩
theorem KT.id' (T : Nat → Prop) : KT T (fun c => c) := ⟨fun _ _ => rfl, fun _ _ h => h⟩
theorem KT.comp {T : Nat → Prop} {κ κ' : CV → CV} (h : KT T κ) (k : KT T κ') : KT T (fun c => κ' (κ c)) := ⟨fun c hc => by rw [h.fix c hc, k.fix c hc], fun d c hc => k.cl d _ (h.cl d c hc)⟩
theorem KT.k {T : Nat → Prop} {κ : CV → CV} (h : KT T κ) (v : KV) : κ (.k v) = .k v := h.fix _ fun _ _ => rfl
theorem KT.vv {T : Nat → Prop} {κ : CV → CV} (h : KT T κ) {x : VV} (hx : ∀ m, T m → clVV m x = true) : mapVC κ x = x := by
  cases x with
  | c x => simp only [mapVC, h.fix x hx]
  | g l => simp only [mapVC]; congr 1; exact (List.map_congr_left fun a ha => h.fix a fun m hm => List.all_eq_true.1 (hx m hm) a ha).trans (List.map_id' l)
theorem KT.sv {T : Nat → Prop} {κ : CV → CV} (h : KT T κ) {x : SV} (hx : ∀ m, T m → clSV m x = true) : mapSC κ x = x := by
  cases x with
  | v x => simp only [mapSC, h.vv hx]
  | tup l => simp only [mapSC]; congr 1; exact (List.map_congr_left fun a ha => h.vv fun m hm => List.all_eq_true.1 (hx m hm) a ha).trans (List.map_id' l)
theorem KT.clV {T : Nat → Prop} {κ : CV → CV} (h : KT T κ) {d : Nat} {x : VV} (hx : clVV d x = true) : clVV d (mapVC κ x) = true := by
  cases x with
  | c x => exact h.cl d x hx
  | g l => simp only [mapVC, clVV, List.all_map]; exact List.all_eq_true.2 fun c hc => h.cl d c (List.all_eq_true.1 hx c hc)
theorem KT.clS {T : Nat → Prop} {κ : CV → CV} (h : KT T κ) {d : Nat} {x : SV} (hx : clSV d x = true) : clSV d (mapSC κ x) = true := by
  cases x with
  | v x => exact h.clV hx
  | tup l => simp only [mapSC, clSV, List.all_map]; exact List.all_eq_true.2 fun c hc => h.clV (List.all_eq_true.1 hx c hc)
theorem soMap_comp (κ κ' : CV → CV) (o : SO) : soMap κ' (soMap κ o) = soMap (fun c => κ' (κ c)) o := by
  cases o with
  | box cs => simp only [soMap, List.map_map]; rfl
  | arr ts l => rfl
  | mp _ _ _ => rfl
theorem soMap_id (o : SO) : soMap (fun c => c) o = o := by cases o <;> simp [soMap]

/-- What an operation that touches the names of T, and writes the slot dst, leaves as it was. -/
structure Fp (T : Nat → Prop) (dst : Option Tmp) (s s' : SS) : Prop where
  same : ∀ t, dst ≠ some t → (∀ m, T m → clSV m (lkE s.env t) = true) → lkE s'.env t = lkE s.env t
  cl : ∀ t d, dst ≠ some t → clSV d (lkE s.env t) = true → clSV d (lkE s'.env t) = true
  obj : ∃ κ, KT T κ ∧ ∀ n, ¬ T n → lookS n s'.objs = (lookS n s.objs).map (soMap κ)
section
variable {T : Nat → Prop}
theorem Fp.rfl' (dst : Option Tmp) (s : SS) : Fp T dst s s := ⟨fun _ _ _ => rfl, fun _ _ _ h => h, _, KT.id' T, fun n _ => by cases lookS n s.objs <;> simp [soMap_id]⟩
theorem Fp.weak {dst : Option Tmp} {s s' : SS} (h : Fp T none s s') : Fp T dst s s' := ⟨fun t _ => h.same t (by simp), fun t d _ => h.cl t d (by simp), h.obj⟩
theorem Fp.trans {dst : Option Tmp} {a b c : SS} (h : Fp T dst a b) (k : Fp T dst b c) : Fp T dst a c := by
  obtain ⟨κ, h1, h2⟩ := h.obj
  obtain ⟨κ', k1, k2⟩ := k.obj
  refine ⟨fun t ht hc => ?_, fun t d ht hc => k.cl t d ht (h.cl t d ht hc), _, h1.comp k1, fun n hn => ?_⟩
  · have e := h.same t ht hc
    rw [k.same t ht (by rw [e]; exact hc), e]
  · rw [k2 n hn, h2 n hn]
    cases lookS n a.objs with
    | none => rfl
    | some o => simp only [Option.map_some]; rw [soMap_comp]
theorem Fp.map {s : SS} {κ : CV → CV} (h : KT T κ) {O : SObjs} (ho : ∀ n, ¬ T n → lookS n O = lookS n s.objs) : Fp T none s ⟨mapEC κ s.env, mapOC κ O⟩ := by
  have ha : κ .any = .any := h.fix _ fun _ _ => rfl
  refine ⟨fun t _ hc => ?_, fun t d _ hc => ?_, κ, h, fun n hn => ?_⟩
  · simp only [lkE_map κ ha]; exact h.sv hc
  · simp only [lkE_map κ ha]; exact h.clS hc
  · simp only [lookS_map, ho n hn]
theorem Fp.put {dst : Option Tmp} {s s' : SS} (h : Fp T none s s') (v : SV) : Fp T dst s (s'.put dst v) := by
  cases dst with
  | none => exact h
  | some d =>
    refine ⟨fun t ht hc => ?_, fun t e ht hc => ?_, h.obj⟩
    · simp only [SS.put, lkE]; rw [if_neg fun e => ht (by rw [e])]; exact h.same t (by simp) hc
    · simp only [SS.put, lkE]; rw [if_neg fun e => ht (by rw [e])]; exact h.cl t e (by simp) hc
theorem Fp.objs {s s' : SS} (h : Fp T none s s') {O : SObjs} (ho : ∀ n, ¬ T n → lookS n O = lookS n s'.objs) : Fp T none s ⟨s'.env, O⟩ := by
  obtain ⟨κ, h1, h2⟩ := h.obj
  exact ⟨h.same, h.cl, κ, h1, fun n hn => by simp only; rw [ho n hn, h2 n hn]⟩
theorem cons_ne {d : Nat} {o : SO} {O : SObjs} (hd : T d) : ∀ n, ¬ T n → lookS n ((d, o) :: O) = lookS n O := fun n hn => by
  simp only [lookS]; rw [if_neg fun e => hn (by rw [← e]; exact hd)]
theorem upd_ne {d : Nat} {o : SO} {O : SObjs} (hd : T d) : ∀ n, ¬ T n → lookS n (updS d o O) = lookS n O := fun n hn => lookS_upd_ne o (fun e => hn (by rw [← e]; exact hd)) O
theorem drop_ne {d : Nat} {O : SObjs} (hd : T d) : ∀ n, ¬ T n → lookS n (dropS d O) = lookS n O := fun n hn => lookS_drop_ne (fun e => hn (by rw [← e]; exact hd)) O
theorem fresh_fp {d : Nat} {s s' : SS} (hd : T d) (h : freshS d s = some s') : Fp T none s s' := by
  unfold freshS at h
  split at h
  · cases h; exact .map (KT.of (kap_kill d) (fun _ _ h => kill_cl h) hd) fun _ _ => rfl
  · cases h
theorem freeze_fp {n : Nat} {s s' : SS} (hn : T n) (h : freezeS n s = some s') : Fp T none s s' := by
  unfold freezeS at h
  split at h
  · cases h; exact .map (KT.of (kap_frz n _ _) (fun _ _ h => frz_cl h) hn) (drop_ne hn)
  · cases h
/-- names of operands after something that touches only those of T -/
theorem nm_fp {C : Cfg} {s s' : SS} (h : Fp T none s s') {o : Operand} (ho : NmS T (sev C s o)) : NmS T (sev C s' o) := fun d hd => by
  have hc := ho d hd
  cases o with
  | tmp t =>
    simp only [sev, SS.get] at hc ⊢
    split
    · rename_i ht
      rw [if_pos ht] at hc
      exact h.cl t d (by simp) hc
    · rfl
  | _ => exact hc
theorem firstC_T : ∀ {l : List CV} {n : Nat}, (∀ c ∈ l, NmC T c) → firstC l = some n → T n
  | [], n, _, h => by cases h
  | c :: r, n, hl, h => by
    have hc := hl c (List.mem_cons_self ..)
    have ih : firstC r = some n → T n := firstC_T fun c hc => hl c (List.mem_cons_of_mem _ hc)
    cases c with
    | own m => simp only [firstC, Option.some.injEq] at h; subst h; exact hc.own
    | msl m _ _ _ => simp only [firstC, Option.some.injEq] at h; subst h; exact hc.msl
    | _ => exact ih h
theorem flat_T {C : Cfg} {s : SS} {xs : List Operand} (hx : ∀ o ∈ xs, NmS T (sev C s o)) : ∀ c ∈ (xs.flatMap fun o => cellsOfS (sev C s o)), NmC T c := by
  intro c hc d hd
  obtain ⟨o, ho, hc⟩ := List.mem_flatMap.1 hc
  have := hx o ho d hd
  cases hv : sev C s o with
  | tup l => rw [hv] at hc; cases hc
  | v x => cases x with
    | g l => rw [hv] at hc this; exact List.all_eq_true.1 this c hc
    | c y => rw [hv] at hc this; simp only [cellsOfS, List.mem_singleton] at hc; subst hc; exact this
theorem settle_fp {C : Cfg} {xs : List Operand} : ∀ (f : Nat) {s s' : SS}, (∀ o ∈ xs, NmS T (sev C s o)) → settleS C f xs s = some s' → Fp T none s s'
  | 0, s, s', _, h => by simp only [settleS, Option.some.injEq] at h; subst h; exact .rfl' _ _
  | f + 1, s, s', hx, h => by
    simp only [settleS] at h
    split at h
    · cases h; exact .rfl' _ _
    · rename_i n hn
      split at h
      · rename_i s2 h2
        have h3 := freeze_fp (firstC_T (flat_T hx) hn) h2
        exact h3.trans (settle_fp f (fun o ho => nm_fp h3 (hx o ho)) h)
      · cases h
theorem calm_fp {C : Cfg} {xs : List Operand} {s s' : SS} (hx : ∀ o ∈ xs, NmS T (sev C s o)) (h : calmS C xs s = some s') : Fp T none s s' := by
  unfold calmS at h
  split at h
  · rename_i s2 h2
    split at h
    · cases h; exact settle_fp 8 hx h2
    · cases h
  · cases h
theorem prep_fp {C : Cfg} {d : Nat} {xs : List Operand} {s s' : SS} (hd : T d) (hx : ∀ o ∈ xs, NmS T (sev C s o)) (h : prepS C d xs s = some s') : Fp T none s s' := by
  unfold prepS at h
  split at h
  · rename_i s2 h2
    split at h
    · rename_i s3 h3
      split at h
      · cases h; exact (calm_fp hx h2).trans (fresh_fp hd h3)
      · cases h
    · cases h
  · cases h
theorem sH_fp {C : Cfg} {s : SS} {dst : Option Tmp} {op : Op} {c : List Bool} {v : SV} {s' : SS} (hd : ∀ d, dst = some d → T d) (hx : ∀ o ∈ op.operands.toList, NmS T (sev C s o)) (hr : sH C s dst op = some (c, v, s')) : Fp T none s s' := by
  unfold sH at hr
  split at hr
  · rename_i d
    have hd := hd d rfl
    split at hr
    · split at hr
      · rename_i s2 h2
        split at hr
        · simp only [Option.some.injEq, Prod.mk.injEq] at hr
          obtain ⟨_, _, rfl⟩ := hr
          exact (fresh_fp hd h2).objs (cons_ne hd)
        · cases hr
      · cases hr
    · cases hr
  · rename_i d
    have hd := hd d rfl
    split at hr
    · split at hr
      · rename_i s2 h2
        split at hr
        all_goals first
          | (simp only [Option.some.injEq, Prod.mk.injEq] at hr
             obtain ⟨_, _, rfl⟩ := hr
             exact (fresh_fp hd h2).objs (cons_ne hd))
          | cases hr
      · cases hr
    · cases hr
  · rename_i T' len parts d
    have hd := hd d rfl
    split at hr
    · split at hr
      · rename_i s2 ts by_ h2 e
        split at hr
        · split at hr
          · simp only [Option.some.injEq, Prod.mk.injEq] at hr
            obtain ⟨_, _, rfl⟩ := hr
            exact (prep_fp hd (fun o ho => hx o (by simpa [Op.operands] using ho)) h2).objs (cons_ne hd)
          · cases hr
        · cases hr
      · cases hr
    · cases hr
  · rename_i d
    have hd := hd d rfl
    split at hr
    · split at hr
      · rename_i s2 h2
        split at hr
        · simp only [Option.some.injEq, Prod.mk.injEq] at hr
          obtain ⟨_, _, rfl⟩ := hr
          exact (fresh_fp hd h2).objs (cons_ne hd)
        · cases hr
      · cases hr
    · cases hr
  · rename_i d
    have hd := hd d rfl
    split at hr
    · split at hr
      · rename_i s2 h2
        split at hr
        · split at hr
          · simp only [Option.some.injEq, Prod.mk.injEq] at hr
            obtain ⟨_, _, rfl⟩ := hr
            exact (fresh_fp hd h2).objs (cons_ne hd)
          · cases hr
        · cases hr
      · cases hr
    · cases hr
  · rename_i T' x y
    have hxx := hx x (by simp [Op.operands])
    have hxy := hx y (by simp [Op.operands])
    split at hr
    · rename_i n sz i off D e1 e2
      rw [asC_eq e1] at hxx
      have hn : T n := hxx.c.ref
      split at hr
      · split at hr
        · split at hr
          · simp only [Option.some.injEq, Prod.mk.injEq] at hr
            obtain ⟨_, _, rfl⟩ := hr
            exact (Fp.rfl' none s).objs (upd_ne hn)
          · cases hr
        · cases hr
      · split at hr
        · rename_i s2 h2
          split at hr
          · split at hr
            · split at hr
              · simp only [Option.some.injEq, Prod.mk.injEq] at hr
                obtain ⟨_, _, rfl⟩ := hr
                exact (calm_fp (fun o ho => by simp only [List.mem_singleton] at ho; subst ho; exact hxy) h2).objs (upd_ne hn)
              · cases hr
            · cases hr
          · cases hr
        · cases hr
      · cases hr
    · cases hr
  · rename_i args at_ d
    have hd := hd d rfl
    split at hr
    · split at hr
      · rename_i x y T1 T2 e1 e2
        have hxx := hx x (by simp [Op.operands, Call.operands, e1])
        split at hr
        · split at hr
          · split at hr
            · split at hr
              · rename_i s2 h2
                simp only [Option.some.injEq, Prod.mk.injEq] at hr
                obtain ⟨_, _, rfl⟩ := hr
                exact (fresh_fp hd h2).objs (cons_ne hd)
              · cases hr
            · rename_i m e3
              have hm : T m := by rw [e3] at hxx; exact hxx.c.own
              split at hr
              · split at hr
                · split at hr
                  · rename_i s2 h2
                    simp only [Option.some.injEq, Prod.mk.injEq] at hr
                    obtain ⟨_, _, rfl⟩ := hr
                    exact ((Fp.map (KT.of (kap_kill m) (fun _ _ h => kill_cl h) hm) (drop_ne hm)).trans (fresh_fp hd h2)).objs (cons_ne hd)
                  · cases hr
                · cases hr
              · cases hr
            · cases hr
          · cases hr
        · cases hr
      · cases hr
    · cases hr
  · cases hr
theorem ret_fp {d : Nat} {s : SS} (hd : T d) : ∀ (r : RT) (y : r.T), ∀ n, ¬ T n → lookS n (retS d s r y).2.objs = lookS n s.objs
  | .v _, _ => fun _ _ => rfl
  | .tup _, _ => fun _ _ => rfl
  | .own _, _ => cons_ne hd
  | .box _, _ => cons_ne hd
  | .unit, _ => fun _ _ => rfl
theorem boxes_fp : ∀ {l : List AT} {xs : List SV} {o : outsT (bxsOf l)} {O : SObjs}, (∀ x ∈ xs, NmS T x) → ∀ n, ¬ T n → lookS n (setBoxes l xs o O) = lookS n O
  | [], xs, _, O, _, n, _ => by cases xs <;> rfl
  | .v _ :: l, [], _, O, _, n, _ => rfl
  | .v _ :: l, _ :: xs, o, O, hx, n, hn => boxes_fp (l := l) (fun x h => hx x (List.mem_cons_of_mem _ h)) n hn
  | .bx ts :: l, [], _, O, _, n, _ => rfl
  | .bx ts :: l, x :: xs, o, O, hx, n, hn => by
    have h0 := hx x (List.mem_cons_self ..)
    have hx' : ∀ x ∈ xs, NmS T x := fun x h => hx x (List.mem_cons_of_mem _ h)
    cases x with
    | tup _ => rfl
    | v y => cases y with
      | g _ => rfl
      | c z => cases z with
        | ref m a b c =>
          have e : setBoxes (.bx ts :: l) (.v (.c (.ref m a b c)) :: xs) o O = setBoxes l xs o.2 (updS m (.box ((ts.kvs o.1).map CV.k)) O) := rfl
          rw [e, boxes_fp hx' n hn]
          exact upd_ne h0.c.ref n hn
        | _ => rfl
theorem ss_eta {s : SS} {E : List (Nat × SV)} (h : s.env = E) : s = ⟨E, s.objs⟩ := by cases s; subst h; rfl
variable {R R1 : Type} {r : R} {r1 : R1} {K : SS → Option R} {K1 : SS → Option R1}
theorem sCall_fp {C : Cfg} {FT : List (Nat × Entry)} {s : SS} {dst : Option Tmp} {f : FuncId} {xs : List Operand} (hd : T (dst.getD 999998)) (hx : ∀ o ∈ xs, NmS T (sev C s o))
    (hK : ∀ s', Fp T dst s s' → K s' = some r → K1 s' = some r1) (hr : sCall C FT false s dst f xs K = some r) : sCall C FT false s dst f xs K1 = some r1 := by
  unfold sCall at hr ⊢
  split at hr
  · cases hr
  · rename_i e he
    have key : ∀ s2, Fp T none s s2 → (match toArgs s2.objs e.sig.args (xs.map (sev C s2)) with
      | none => none
      | some a => if dst.getD 999998 < top ∧ e.sig.args.length ≤ 1000 ∧ okNames (bxNames e.sig.args (xs.map (sev C s2))) = true then
        obind (e.F a) fun r =>
          K ((retS (dst.getD 999998) ⟨s2.env, setBoxes e.sig.args (xs.map (sev C s2)) r.2 s2.objs⟩ e.sig.ret r.1).2.put dst
            (retS (dst.getD 999998) ⟨s2.env, setBoxes e.sig.args (xs.map (sev C s2)) r.2 s2.objs⟩ e.sig.ret r.1).1)
        else none) = some r → (match toArgs s2.objs e.sig.args (xs.map (sev C s2)) with
      | none => none
      | some a => if dst.getD 999998 < top ∧ e.sig.args.length ≤ 1000 ∧ okNames (bxNames e.sig.args (xs.map (sev C s2))) = true then
        obind (e.F a) fun r =>
          K1 ((retS (dst.getD 999998) ⟨s2.env, setBoxes e.sig.args (xs.map (sev C s2)) r.2 s2.objs⟩ e.sig.ret r.1).2.put dst
            (retS (dst.getD 999998) ⟨s2.env, setBoxes e.sig.args (xs.map (sev C s2)) r.2 s2.objs⟩ e.sig.ret r.1).1)
        else none) = some r1 := by
      intro s2 h2 hr
      split at hr
      · cases hr
      · rename_i a ha
        split at hr
        · rename_i hc; rw [if_pos hc]
          obtain ⟨y, hy, hr⟩ := obind_some hr
          rw [hy]
          simp only [obind, Option.bind]
          refine hK _ (Fp.put ?_ _) hr
          have e1 := ss_eta (s := (retS (dst.getD 999998) ⟨s2.env, setBoxes e.sig.args (xs.map (sev C s2)) y.2 s2.objs⟩ e.sig.ret y.1).2) (E := s2.env) (by rw [ret_env])
          rw [e1]
          refine h2.objs fun n hn => ?_
          rw [ret_fp hd _ _ n hn]
          exact boxes_fp (fun z hz => by obtain ⟨o, ho, rfl⟩ := List.mem_map.1 hz; exact nm_fp h2 (hx o ho)) n hn
        · cases hr
    cases hb : (bxsOf e.sig.args).isEmpty && gRT e.sig.ret with
    | true =>
      rw [hb] at hr
      simp only at hr ⊢
      split at hr
      · cases hr
      · rename_i s2 h2
        exact key s2 (fresh_fp hd h2) hr
    | false =>
      rw [hb] at hr
      simp only at hr ⊢
      split at hr
      · cases hr
      · rename_i s2 h2
        exact key s2 (prep_fp hd hx h2) hr
theorem sOp0_fp {C : Cfg} {FT : List (Nat × Entry)} {s : SS} {dst : Option Tmp} {op : Op} (hd : T (dst.getD 999998)) (hx : ∀ o ∈ op.operands.toList, NmS T (sev C s o))
    (hK : ∀ s', Fp T dst s s' → K s' = some r → K1 s' = some r1) (hr : sOp0 C FT false s dst op K = some r) : sOp0 C FT false s dst op K1 = some r1 := by
  unfold sOp0 at hr ⊢
  split at hr
  · exact sCall_fp hd (fun o ho => hx o (by simp only [Op.operands, Call.operands]; simpa using Or.inr ho)) hK hr
  · rename_i c a b
    split at hr
    · rename_i t e
      rcases br_cases hr with ⟨h1, h2⟩ | ⟨h1, h2⟩
      · subst h1; simp only [br, if_true]; exact hK _ ((Fp.rfl' none s).put _) h2
      · subst h1; simp only [br]; exact hK _ ((Fp.rfl' none s).put _) h2
    · cases hr
  · split at hr
    · rename_i c v e
      exact need_ext hr fun hr => hK _ ((Fp.rfl' none s).put _) hr
    · rename_i e
      simp only [Bool.false_eq_true, if_false] at hr ⊢
      split at hr
      · rename_i c v s' e2
        exact need_ext hr fun hr => hK _ ((sH_fp (fun d h => by subst h; exact hd) hx e2).put _) hr
      · cases hr
theorem sOp_fp {C : Cfg} {FT : List (Nat × Entry)} {s : SS} {dst : Option Tmp} {op : Op} (hd : T (dst.getD 999998)) (hx : ∀ o ∈ op.operands.toList, NmS T (sev C s o))
    (hK : ∀ s', Fp T dst s s' → K s' = some r → K1 s' = some r1) (hr : sOp C FT false s dst op K = some r) : sOp C FT false s dst op K1 = some r1 := by
  unfold sOp at hr ⊢
  simp only at hr ⊢
  split at hr
  · rename_i t e
    have ht : Operand.tmp t ∈ op.operands.toList := by
      unfold appT at e
      split at e
      · split at e
        · rename_i args _ t' _ e2
          cases e
          simp [Op.operands, Call.operands, e2]
        · cases e
      · cases e
    have go : ∀ s2, Fp T none s s2 → sOp0 C FT false s2 dst op K = some r → sOp0 C FT false s2 dst op K1 = some r1 :=
      fun s2 h2 hr => sOp0_fp hd (fun o ho => nm_fp h2 (hx o ho)) (fun s' h' => hK s' (h2.weak.trans h')) hr
    simp only [trimB, show Nat.ble top top = true from rfl] at hr ⊢
    split at hr
    · rename_i y e2
      have hn0 := hx _ ht
      have e3 : sev C s (.tmp t) = .v (.c y) := e2
      rw [e3] at hn0
      unfold trimC at hr ⊢
      split at hr
      · rename_i n sz off j
        have hn : T n := hn0.c.msl
        split at hr
        · rename_i ts l e4
          split at hr
          · rename_i hsz
            rw [if_pos hsz]
            refine need_ext hr fun hr => go _ ?_ hr
            have h1 : Fp T none s ⟨mapEC (unownC n ts.len (lLen l)) s.env, updS n (.arr ts (lSub l 0 j)) (mapOC (unownC n ts.len (lLen l)) s.objs)⟩ :=
              (Fp.map (KT.of (kap_unown n _ _) (fun _ _ h => unown_cl h) hn) (fun _ _ => rfl)).objs (upd_ne hn)
            refine ⟨fun t' _ hc => ?_, fun t' d _ hc => ?_, h1.obj⟩
            · have hne : t ≠ t' := fun e5 => by
                subst e5
                have := hc n hn
                unfold SS.get at e2
                split at e2
                · rw [e2] at this; simp [clSV, clVV, clCV] at this
                · cases e2
              simp only [SS.put, lkE, if_neg hne]
              exact h1.same t' (by simp) hc
            · simp only [SS.put, lkE]
              split
              · rename_i e5
                subst e5
                unfold SS.get at e2
                split at e2
                · rw [e2] at hc; simpa [clSV, clVV, clCV] using hc
                · cases e2
              · exact h1.cl t' d (by simp) hc
          · rename_i hsz
            rw [if_neg hsz]
            exact go _ (.rfl' _ _) hr
        · exact go _ (.rfl' _ _) hr
      · exact go _ (.rfl' _ _) hr
    · exact go _ (.rfl' _ _) hr
  · exact sOp0_fp hd hx hK hr
/-- The same with two sets of names: T of objects, E of slots. -/
structure Fp2 (T E : Nat → Prop) (dst : Option Tmp) (s s' : SS) : Prop where
  same : ∀ t, dst ≠ some t → (∀ m, E m → clSV m (lkE s.env t) = true) → lkE s'.env t = lkE s.env t
  cl : ∀ t d, dst ≠ some t → clSV d (lkE s.env t) = true → clSV d (lkE s'.env t) = true
  obj : ∃ κ, KT E κ ∧ ∀ n, ¬ T n → lookS n s'.objs = (lookS n s.objs).map (soMap κ)
theorem Fp.two {dst : Option Tmp} {s s' : SS} (h : Fp T dst s s') : Fp2 T T dst s s' := ⟨h.same, h.cl, h.obj⟩
theorem calm_nl {C : Cfg} {s s2 : SS} {y : Operand} (hy : nlSV (sev C s y) = true) (h : calmS C [y] s = some s2) : s2 = s := by
  have hf : firstC ([y].flatMap fun o => cellsOfS (sev C s o)) = none := firstC_nl <| List.all_eq_true.2 fun c hc => by
    simp only [List.flatMap_cons, List.flatMap_nil, List.append_nil] at hc
    cases hv : sev C s y with
    | tup l => rw [hv] at hc; cases hc
    | v x => cases x with
      | g l => rw [hv] at hc hy; exact List.all_eq_true.1 hy c hc
      | c z => rw [hv] at hc hy; simp only [cellsOfS, List.mem_singleton] at hc; subst hc; exact hy
  unfold calmS at h
  simp only [settleS, hf] at h
  cases h; rfl
theorem store_fp {C : Cfg} {FT : List (Nat × Entry)} {s : SS} {X : TypeId} {x y : Operand} (hx : NmS T (sev C s x)) (hy : nlSV (sev C s y) = true) {E : Nat → Prop}
    (hK : ∀ s', Fp2 T E none s s' → K s' = some r → K1 s' = some r1) (hr : sOp C FT false s none (.store X x y) K = some r) : sOp C FT false s none (.store X x y) K1 = some r1 := by
  unfold sOp at hr ⊢
  simp only [appT] at hr ⊢
  unfold sOp0 at hr ⊢
  simp only [Bool.false_eq_true, if_false] at hr ⊢
  split at hr
  · rename_i c v e
    simp [sR] at e
  · rename_i e
    split at hr
    · rename_i c v s' e2
      refine need_ext hr fun hr => hK _ ?_ hr
      have hb : ∀ {n : Nat} {o : SO}, T n → Fp2 T E none s ⟨s.env, updS n o s.objs⟩ := fun hn => ⟨fun _ _ _ => rfl, fun _ _ _ h => h, _, KT.id' E, fun n' hn' => by rw [upd_ne hn n' hn']; cases lookS n' s.objs <;> simp [soMap_id]⟩
      unfold sH at e2
      simp only at e2
      split at e2
      · rename_i n sz i off D e3 e4
        rw [asC_eq e3] at hx
        have hn : T n := hx.c.ref
        split at e2
        · split at e2
          · split at e2
            · simp only [Option.some.injEq, Prod.mk.injEq] at e2
              obtain ⟨_, _, rfl⟩ := e2
              exact hb hn
            · cases e2
          · cases e2
        · split at e2
          · rename_i s2 h2
            have h2 := calm_nl hy h2
            subst h2
            split at e2
            · split at e2
              · split at e2
                · simp only [Option.some.injEq, Prod.mk.injEq] at e2
                  obtain ⟨_, _, rfl⟩ := e2
                  exact hb hn
                · cases e2
              · cases e2
            · cases e2
          · cases e2
        · cases e2
      · cases e2
    · cases hr
end
end Go.Abs

