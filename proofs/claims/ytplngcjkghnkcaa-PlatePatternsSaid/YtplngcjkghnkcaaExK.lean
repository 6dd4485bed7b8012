/- Calls: soundness, 2. -/
import Derived.Test.YtplngcjkghnkcaaExJ
namespace Go.Abs
open Go.RowKit

theorem osAV_no {ν : Nat → Nat} : ∀ {l : List AT} {i : Nat} {a : argsT l}, noBx l = true → osAV ν l i a = []
  | [], _, _, _ => rfl
  | .v _ :: l, i, a, h => osAV_no (l := l) (i := i + 1) (a := a.2) h
  | .bx _ :: _, _, _, h => by simp [noBx] at h
theorem outsAV_no {ν : Nat → Nat} : ∀ {l : List AT} {i : Nat} {o : outsT (bxsOf l)}, noBx l = true → outsAV ν l i o = []
  | [], _, _, _ => rfl
  | .v _ :: l, i, o, h => outsAV_no (l := l) (i := i + 1) (o := o) h
  | .bx _ :: _, _, _, h => by simp [noBx] at h

theorem evs_av {C : Cfg} {s : SS} (xs : List Operand) : xs.map (ev (s.st C.N).env) = (xs.map (sev C s)).map (SV.av s.objs) := by
  have : (SV.av s.objs) ∘ (sev C s) = ev (s.st C.N).env := funext fun o => sev_av C s o
  rw [List.map_map, this]

/-- A call that only reads. -/
theorem quiet_call {P : Program} {FT : List (Nat × Entry)} (hFT : FTok P FT) {C : Cfg} {s : SS} {f : FuncId} {e : Entry} {xs : List Operand} {a : argsT e.sig.args} {q : e.sig.R}
    (he : lkF FT f = some e) (hb : (bxsOf e.sig.args).isEmpty = true) (hg : gRT e.sig.ret = true) (ha : toArgs s.objs e.sig.args (xs.map (sev C s)) = some a) (hF : e.F a = some q) :
    ∃ ys, (xs.map (ev (s.st C.N).env)).mapM (lend (s.st C.N).objs) = some ys ∧ ys.all nf = true ∧ Contract P f ys [] ⟨e.sig.ret.av q.1, [], none⟩ := by
  obtain ⟨hfun, hTC⟩ := hFT f e he
  have hno := noBx_of hb
  obtain ⟨ys, h1, h2, h3⟩ := lend_args (ν := canon) (i := 0) hno ha
  refine ⟨ys, by rw [evs_av]; exact h1, h3, ?_⟩
  have hc := hTC a q hF
  have hcr : crAV canon e.sig q = ⟨e.sig.ret.av q.1, [], none⟩ := by
    simp only [crAV, outsAV_no hno, (ground_r e.sig.ret q.1 hg).2.1]
  rw [hcr, osAV_no hno] at hc
  exact contract_le hc h2 trivial

theorem sCall_quiet {P : Program} {R : Type} {FT : List (Nat × Entry)} (hFT : FTok P FT) {C : Cfg} {s : SS} {dst : Option Tmp} {f : FuncId} {xs : List Operand} {K : SS → Option R} {r : R}
    (h : sCall C FT true s dst f xs K = some r) : ∃ f' Φ hr, Sound P Φ ∧ cLend Φ (s.st C.N).env (s.st C.N).objs f xs = some hr ∧ (⟨putA hr.env dst hr.x, hr.objs⟩ : St) = f'.st C.N ∧ K f' = some r := by
  unfold sCall at h
  split at h
  · cases h
  · rename_i e he
    cases hbg : ((bxsOf e.sig.args).isEmpty && gRT e.sig.ret) with
    | false => simp only [hbg] at h; cases h
    | true =>
      simp only [hbg] at h
      simp only [Bool.and_eq_true] at hbg
      split at h
      · cases h
      · rename_i a ha
        split at h
        · simp only [obind] at h
          obtain ⟨q, hF, hK⟩ := Option.bind_eq_some_iff.1 h
          obtain ⟨ys, h1, h2, h3⟩ := quiet_call hFT he hbg.1 hbg.2 ha hF
          obtain ⟨g1, g2, g3, g4⟩ := ground_r e.sig.ret q.1 hbg.2
          refine ⟨_, one f ys [] ⟨e.sig.ret.av q.1, [], none⟩, ⟨e.sig.ret.av q.1, (s.st C.N).env, (s.st C.N).objs⟩, one_sound (hFT f e he).1 h3, ?_, ?_, hK⟩
          · unfold cLend
            rw [h1]
            simp only [h2, if_true, one_eq, g1]
          · have hset : setBoxes e.sig.args (xs.map (sev C s)) q.2 s.objs = s.objs := setBoxes_no (noBx_of hbg.1)
            have key : ∀ (rt : RT) (y : rt.T), gRT rt = true → (retS (dst.getD 999998) ⟨s.env, s.objs⟩ rt y).2 = s ∧ (retS (dst.getD 999998) ⟨s.env, s.objs⟩ rt y).1.av s.objs = rt.av y := by
              intro rt y hg
              cases rt with
              | v c => exact ⟨rfl, csv_av c y⟩
              | tup l => exact ⟨rfl, by simp only [retS, SV.av, vvs_av, RT.av]⟩
              | _ => simp [gRT] at hg
            rw [hset]
            obtain ⟨k1, k2⟩ := key e.sig.ret q.1 hbg.2
            rw [k1, put_st, k2]
        · cases h

theorem lend_id {objs : List (Nat × Obj)} : ∀ {as ys : List AV}, firstName (as.flatMap cellList) = none → as.mapM (lend objs) = some ys → ys = as
  | [], ys, _, h => by simp at h; exact h
  | x :: as, ys, hn, h => by
    simp only [List.mapM_cons, Option.bind_eq_bind, Option.pure_def] at h
    obtain ⟨y, h1, h⟩ := Option.bind_eq_some_iff.1 h
    obtain ⟨zs, h2, h⟩ := Option.bind_eq_some_iff.1 h
    simp only [Option.some.injEq] at h; subst h
    have app : ∀ {a b : List AV}, firstName (a ++ b) = none → firstName b = none := by
      intro a b hab
      induction a with
      | nil => exact hab
      | cons x a ih => cases x <;> simp only [List.cons_append, firstName, reduceCtorEq] at hab <;> exact ih hab
    simp only [List.flatMap_cons] at hn
    rw [lend_id (app hn) h2]
    congr 1
    cases x with
    | msl n sz off len => simp [cellList, firstName] at hn
    | agg l =>
      simp only [lend] at h1
      split at h1
      · simp only [Option.some.injEq] at h1; exact h1.symm
      · cases h1
    | _ => simp only [lend, lendC, Option.some.injEq] at h1; exact h1.symm
theorem nf_arg {x : AV} (h : nf x = true) : argOk x = true ∧ refsOf [x] = [] := by
  cases x with
  | ref n sz i off => simp [nf, nfV, nfC] at h
  | agg l => exact ⟨h, rfl⟩
  | _ => first | exact ⟨rfl, rfl⟩ | exact ⟨h, rfl⟩
theorem nf_args : ∀ {l : List AV}, l.all nf = true → l.all argOk = true ∧ refsOf l = []
  | [], _ => ⟨rfl, rfl⟩
  | x :: l, h => by
    simp only [List.all_cons, Bool.and_eq_true] at h
    obtain ⟨h1, h2⟩ := nf_args h.2
    obtain ⟨h3, h4⟩ := nf_arg h.1
    refine ⟨by simp [h1, h3], ?_⟩
    have : refsOf (x :: l) = refsOf [x] ++ refsOf l := by simp only [refsOf, ← List.filterMap_append, List.singleton_append]
    rw [this, h2, h4]; rfl

theorem bxPos_spec : ∀ (l : List AT) (i : Nat), (∀ j ∈ bxPos l i, i ≤ j ∧ j < i + l.length) ∧ (bxPos l i).Nodup
  | [], i => by simp [bxPos]
  | .v _ :: l, i => by
    obtain ⟨h1, h2⟩ := bxPos_spec l (i + 1)
    refine ⟨fun j hj => ?_, h2⟩
    have := h1 j hj
    simp only [List.length_cons]; omega
  | .bx _ :: l, i => by
    obtain ⟨h1, h2⟩ := bxPos_spec l (i + 1)
    refine ⟨fun j hj => ?_, ?_⟩
    · simp only [bxPos, List.mem_cons] at hj
      simp only [List.length_cons]
      rcases hj with rfl | hj
      · omega
      · have := h1 j hj; omega
    · simp only [bxPos, List.nodup_cons]
      exact ⟨fun hi => by have := h1 i hi; omega, h2⟩
theorem okNames_spec : ∀ {l : List Nat}, okNames l = true → l.Nodup ∧ (∀ n ∈ l, n < top ∧ n ≠ rn) ∧ rn ∉ l
  | [], _ => ⟨List.nodup_nil, by simp, by simp⟩
  | n :: l, h => by
    simp only [okNames, Bool.and_eq_true, Bool.not_eq_true', decide_eq_true_eq, beq_eq_false_iff_ne] at h
    obtain ⟨h1, h2, h3, h4⟩ := h
    obtain ⟨g1, g2, g3⟩ := okNames_spec h4
    have hn : n ∉ l := by
      intro hm
      have : l.contains n = true := by simpa using hm
      rw [this] at h1; cases h1
    refine ⟨List.nodup_cons.2 ⟨hn, g1⟩, fun m hm => ?_, fun hm => ?_⟩
    · rcases List.mem_cons.1 hm with rfl | hm
      · exact ⟨h2, h3⟩
      · exact g2 m hm
    · rcases List.mem_cons.1 hm with e | hm
      · exact h3 e.symm
      · exact g3 hm
theorem bxNames_len : ∀ {l : List AT} {xs : List SV} {O : SObjs} {a : argsT l} (i : Nat), toArgs O l xs = some a → (bxPos l i).length = (bxNames l xs).length
  | [], [], O, a, i, _ => rfl
  | [], _ :: _, O, a, i, h => by simp [toArgs] at h
  | _ :: _, [], O, a, i, h => by simp [toArgs] at h
  | .v c :: l, x :: xs, O, a, i, h => by
    simp only [toArgs] at h
    split at h
    · rename_i p q h1 h2; exact bxNames_len (l := l) (i + 1) h2
    · cases h
  | .bx ts :: l, x :: xs, O, a, i, h => by
    simp only [toArgs] at h
    split at h
    · rename_i p q h1 h2
      have ih := bxNames_len (l := l) (i + 1) h2
      cases x with
      | tup l => simp [toAT] at h1
      | v x =>
        cases x with
        | g l => simp [toAT] at h1
        | c y =>
          cases y with
          | ref n sz i off => simp only [bxPos, bxNames, List.length_cons, ih]
          | _ => simp [toAT] at h1
    · cases h

theorem setBoxes_spec {ν : Nat → Nat} : ∀ {l : List AT} {xs : List SV} {i : Nat} {o : outsT (bxsOf l)} {O : SObjs}, (bxPos l i).map ν = bxNames l xs → l.length = xs.length → (∀ n ∈ bxNames l xs, ∃ cs, lookS n O = some (.box cs)) →
    (∀ O', objsAV O' (setBoxes l xs o O) = updAll (outsAV ν l i o) (objsAV O' O)) ∧ (∀ x : CV, x.av (setBoxes l xs o O) = x.av O) ∧ (∀ d, lookS d O = none → lookS d (setBoxes l xs o O) = none) ∧
      (∀ d, setBoxes l xs o (mapOC (killC d) O) = mapOC (killC d) (setBoxes l xs o O))
  | [], xs, i, o, O, _, _, _ => ⟨fun _ => by cases xs <;> rfl, fun _ => by cases xs <;> rfl, fun _ h => by cases xs <;> exact h, fun _ => by cases xs <;> rfl⟩
  | .v c :: l, [], i, o, O, _, h, _ => by simp at h
  | .v c :: l, x :: xs, i, o, O, hν, hl, hb => setBoxes_spec (l := l) (xs := xs) (i := i + 1) (o := o) (O := O) hν (by simpa using hl) hb
  | .bx ts :: l, [], i, o, O, _, h, _ => by simp at h
  | .bx ts :: l, x :: xs, i, o, O, hν, hl, hb => by
    have hx : ∃ n sz j off, x = .v (.c (.ref n sz j off)) := by
      cases x with
      | tup _ => simp [bxPos, bxNames] at hν
      | v y =>
        cases y with
        | g _ => simp [bxPos, bxNames] at hν
        | c z =>
          cases z with
          | ref n sz j off => exact ⟨_, _, _, _, rfl⟩
          | _ => simp [bxPos, bxNames] at hν
    obtain ⟨n, sz, j, off, rfl⟩ := hx
    simp only [bxPos, List.map_cons, bxNames, List.cons.injEq] at hν
    obtain ⟨hνi, hν⟩ := hν
    obtain ⟨cs, hcs⟩ := hb n (by simp [bxNames])
    have hb' : ∀ m ∈ bxNames l xs, ∃ cs, lookS m (updS n (.box ((ts.kvs o.1).map CV.k)) O) = some (.box cs) := by
      intro m hm
      by_cases e : n = m
      · subst e; exact ⟨_, lookS_upd _ (by rw [hcs]; rfl)⟩
      · rw [lookS_upd_ne _ e]; exact hb m (by simp [bxNames, hm])
    obtain ⟨h1, h2, h3, h4⟩ := setBoxes_spec (ν := ν) (l := l) (xs := xs) (i := i + 1) (o := o.2) (O := updS n (.box ((ts.kvs o.1).map CV.k)) O) hν (by simpa using hl) hb'
    refine ⟨fun O' => ?_, fun x => ?_, fun d hd => ?_, fun d => ?_⟩
    · show objsAV O' (setBoxes l xs o.2 _) = updAll ((ν i, .box (ts.avs o.1)) :: outsAV ν l (i + 1) o.2) _
      rw [h1, objsAV_upd, hνi]
      simp only [updAll, SO.av, kvs_cav]
    · show x.av (setBoxes l xs o.2 _) = _
      rw [h2]
      exact av_upd_len hcs (.inl ⟨_, _, rfl, rfl⟩) x
    · show lookS d (setBoxes l xs o.2 _) = none
      refine h3 d ?_
      by_cases e : n = d
      · subst e; rw [hcs] at hd; cases hd
      · rw [lookS_upd_ne _ e]; exact hd
    · show setBoxes l xs o.2 (updS n _ (mapOC (killC d) O)) = mapOC (killC d) (setBoxes l xs o.2 _)
      rw [← h4]
      have : ∀ O : SObjs, updS n (.box ((ts.kvs o.1).map CV.k)) (mapOC (killC d) O) = mapOC (killC d) (updS n (.box ((ts.kvs o.1).map CV.k)) O) := by
        intro O
        induction O with
        | nil => rfl
        | cons p r ih =>
          obtain ⟨m, so⟩ := p
          have hk : ((ts.kvs o.1).map CV.k).map (killC d) = (ts.kvs o.1).map CV.k := by
            rw [List.map_map]; rfl
          by_cases e : m = n
          · cases so <;> simp [mapOC, updS, e, ih, hk]
          · cases so <;> simp [mapOC, updS, e, ih]
      rw [this O]

theorem lookAll_fst {objs : List (Nat × Obj)} : ∀ {ns : List Nat}, (∀ n ∈ ns, (look n objs).isSome = true) → (lookAll ns objs).map (·.1) = ns
  | [], _ => rfl
  | n :: ns, h => by
    have ih := lookAll_fst (ns := ns) (fun m hm => h m (List.mem_cons_of_mem _ hm))
    obtain ⟨o, ho⟩ := Option.isSome_iff_exists.1 (h n (List.mem_cons_self ..))
    have : lookAll (n :: ns) objs = (n, o) :: lookAll ns objs := by simp only [lookAll, List.filterMap_cons, ho, Option.map_some]
    rw [this, List.map_cons, ih]
theorem outs_fst {ν : Nat → Nat} : ∀ {l : List AT} {i : Nat} {o : outsT (bxsOf l)}, (outsAV ν l i o).map (·.1) = (bxPos l i).map ν
  | [], _, _ => rfl
  | .v _ :: l, i, o => outs_fst (l := l) (i := i + 1) (o := o)
  | .bx ts :: l, i, o => by
    have ih := outs_fst (ν := ν) (l := l) (i := i + 1) (o := o.2)
    exact congrArg (ν i :: ·) ih
theorem plain_t : ∀ (t : Ty) (x : t.T), plainC (t.av x) = true ∧ nfC (t.av x) = true
  | .int _, _ => ⟨rfl, rfl⟩
  | .bool, _ => ⟨rfl, rfl⟩
  | .str, _ => ⟨rfl, rfl⟩
  | .sl _, _ => ⟨rfl, rfl⟩
theorem plain_ts : ∀ (ts : Tys) (x : ts.T), (ts.avs x).all plainC = true ∧ (ts.avs x).all nfC = true
  | .nil, _ => ⟨rfl, rfl⟩
  | .cons t ts, x => by
    obtain ⟨h1, h2⟩ := plain_t t x.1
    obtain ⟨h3, h4⟩ := plain_ts ts x.2
    exact ⟨by simp [Tys.avs, h1, h3], by simp [Tys.avs, h2, h4]⟩
theorem outs_ok {ν : Nat → Nat} : ∀ {l : List AT} {i : Nat} {o : outsT (bxsOf l)}, boxesOk (outsAV ν l i o) = true
  | [], _, _ => rfl
  | .v _ :: l, i, o => outs_ok (l := l) (i := i + 1) (o := o)
  | .bx ts :: l, i, o => by
    have ih := outs_ok (ν := ν) (l := l) (i := i + 1) (o := o.2)
    show ((ts.avs o.1).all plainC && boxesOk (outsAV ν l (i + 1) o.2)) = true
    rw [(plain_ts ts o.1).1, ih]; rfl
theorem nf_c (c : CT) (x : c.T) : nfV (c.av x) = true ∧ nf (c.av x) = true := by
  cases c with
  | ty t => cases t <;> exact ⟨rfl, rfl⟩
  | ag ts => exact ⟨(plain_ts ts x).2, (plain_ts ts x).2⟩
theorem newOk_r (r : RT) (x : r.T) : newOk (r.av x) (r.new x) = true := by
  cases r with
  | v c => exact (nf_c c x).2
  | tup l =>
    show nf (.tup (compsAV l x)) = true
    simp only [nf]
    have : ∀ (l : List CT) (x : compsT l), (compsAV l x).all nfV = true := by
      intro l
      induction l with
      | nil => intro _; rfl
      | cons c l ih => intro x; simp only [compsAV, List.all_cons, (nf_c c x.1).1, ih, Bool.and_self]
    exact this l x
  | own ts => simp [RT.av, RT.new, newOk]
  | box ts => simp [RT.av, RT.new, newOk, avs_len, (plain_ts ts x).1]
  | unit => rfl
theorem boxesOk_look' {objs : List (Nat × Obj)} : ∀ {ns : List Nat}, (∀ n ∈ ns, ∃ cs, look n objs = some (.box cs) ∧ cs.all plainC = true) → boxesOk (lookAll ns objs) = true
  | [], _ => rfl
  | n :: ns, h => by
    have ih := boxesOk_look' (ns := ns) (fun m hm => h m (List.mem_cons_of_mem _ hm))
    obtain ⟨cs, h1, h2⟩ := h n (List.mem_cons_self ..)
    have : lookAll (n :: ns) objs = (n, .box cs) :: lookAll ns objs := by simp only [lookAll, List.filterMap_cons, h1, Option.map_some]
    rw [this]
    simp only [boxesOk, h2, ih, Bool.and_self]
end Go.Abs
