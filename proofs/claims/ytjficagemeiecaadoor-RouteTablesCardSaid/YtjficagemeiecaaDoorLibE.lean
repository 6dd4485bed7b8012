/- The walks' library, part E: what a region of the program does in an abstract state, and its soundness. -/
import Derived.MapKept
import Derived.Test.YtjficagemeiecaaDoorLibD
namespace Go.Abs
open Go.RowKit
variable {objs : List (Nat × Obj)} {FT : List (Nat × Entry)}
theorem osAV_no {ν : Nat → Nat} : ∀ {l : List AT} {i : Nat} {a : argsT l}, noBx l = true → osAV ν l i a = []
 | [], _, _, _ => rfl
 | .v _ :: l, i, a, h => osAV_no (l := l) (i := i + 1) (a := a.2) h
 | .bx _ :: _, _, _, h => by simp [noBx] at h
theorem outsAV_no {ν : Nat → Nat} : ∀ {l : List AT} {i : Nat} {o : outsT (bxsOf l)}, noBx l = true → outsAV ν l i o = []
 | [], _, _, _ => rfl
 | .v _ :: l, i, o, h => outsAV_no (l := l) (i := i + 1) (o := o) h
 | .bx _ :: _, _, _, h => by simp [noBx] at h
theorem evs_av {C : Cfg} {s : SS} (xs : List Operand) : xs.map (ev (s.st C.N).env) = (xs.map (sev C s)).map (SV.av s.objs) := by
 have : (SV.av s.objs) ∘ (sev C s) = ev (s.st C.N).env := funext fun o => sev_av C s o
 rw [List.map_map, this]
theorem quiet_call {P : Program} (hFT : FTok P FT) {C : Cfg} {s : SS} {f : FuncId} {e : Entry} {xs : List Operand} {a : argsT e.sig.args} {q : e.sig.R}
  (he : lkF FT f = some e) (hb : (bxsOf e.sig.args).isEmpty = true) (hg : gRT e.sig.ret = true) (ha : toArgs s.objs e.sig.args (xs.map (sev C s)) = some a) (hF : e.F a = some q) :
  ∃ ys, (xs.map (ev (s.st C.N).env)).mapM (lend (s.st C.N).objs) = some ys ∧ ys.all nf = true ∧ Contract P f ys [] ⟨e.sig.ret.av q.1, [], none⟩ := by
 obtain ⟨hfun, hTC⟩ := hFT f e he
 have hno := noBx_of hb
 obtain ⟨ys, h1, h2, h3⟩ := lend_args (ν := canon) (i := 0) hno ha
 refine ⟨ys, by rw [evs_av]; exact h1, h3, ?_⟩
 have hc := hTC a q hF
 have hcr : crAV canon e.sig q = ⟨e.sig.ret.av q.1, [], none⟩ := by
  simp only [crAV, outsAV_no hno, (ground_r e.sig.ret q.1 hg).2.1]
 rw [hcr, osAV_no hno] at hc
 exact contract_le hc h2 trivial
theorem sCall_quiet {P : Program} {R : Type} (hFT : FTok P FT) {C : Cfg} {s : SS} {dst : Option Tmp} {f : FuncId} {xs : List Operand} {K : SS → Option R} {r : R}
  (h : sCall C FT true s dst f xs K = some r) : ∃ f' Φ hr, Sound P Φ ∧ cLend Φ (s.st C.N).env (s.st C.N).objs f xs = some hr ∧ (⟨putA hr.env dst hr.x, hr.objs⟩ : St) = f'.st C.N ∧ K f' = some r := by
 unfold sCall at h
 split at h
 ·cases h
 ·rename_i e he
  cases hbg : ((bxsOf e.sig.args).isEmpty && gRT e.sig.ret) with
  | false => simp only [hbg] at h; cases h
  | true =>
   simp only [hbg] at h
   simp only [Bool.and_eq_true] at hbg
   split at h
   ·cases h
   ·rename_i a ha
    split at h
    ·simp only [obind] at h
     obtain ⟨q, hF, hK⟩ := Option.bind_eq_some_iff.1 h
     obtain ⟨ys, h1, h2, h3⟩ := quiet_call hFT he hbg.1 hbg.2 ha hF
     obtain ⟨g1, g2, g3, g4⟩ := ground_r e.sig.ret q.1 hbg.2
     refine ⟨_, one f ys [] ⟨e.sig.ret.av q.1, [], none⟩, ⟨e.sig.ret.av q.1, (s.st C.N).env, (s.st C.N).objs⟩, one_sound (hFT f e he).1 h3, ?_, ?_, hK⟩
     ·unfold cLend
      rw [h1]
      simp only [h2, if_true, one_eq, g1]
     ·have hset : setBoxes e.sig.args (xs.map (sev C s)) q.2 s.objs = s.objs := setBoxes_no (noBx_of hbg.1)
      have key : ∀ (rt : RT) (y : rt.T), gRT rt = true → (retS (dst.getD 999998) ⟨s.env, s.objs⟩ rt y).2 = s ∧ (retS (dst.getD 999998) ⟨s.env, s.objs⟩ rt y).1.av s.objs = rt.av y := by
       intro rt y hg
       cases rt with
       | v c => exact ⟨rfl, csv_av c y⟩
       | tup l => exact ⟨rfl, by simp only [retS, SV.av, vvs_av, RT.av]⟩
       | _ => simp [gRT] at hg
      rw [hset]
      obtain ⟨k1, k2⟩ := key e.sig.ret q.1 hbg.2
      rw [k1, put_st, k2]
    ·cases h
theorem lendC_id : ∀ {l ys : List AV}, firstName l = none → l.mapM (lendC objs) = some ys → ys = l
 | [], ys, _, h => by simp at h; exact h
 | x :: l, ys, hn, h => by
  simp only [List.mapM_cons, Option.bind_eq_bind, Option.pure_def] at h
  obtain ⟨y, h1, h⟩ := Option.bind_eq_some_iff.1 h
  obtain ⟨zs, h2, h⟩ := Option.bind_eq_some_iff.1 h
  simp only [Option.some.injEq] at h; subst h
  cases x with
  | msl n sz off len => simp [firstName] at hn
  | _ => rw [lendC_id (by exact hn) h2]; simp only [lendC, Option.some.injEq] at h1; rw [h1]
theorem lend_id : ∀ {as ys : List AV}, firstName (as.flatMap cellList) = none → as.mapM (lend objs) = some ys → ys = as
 | [], ys, _, h => by simp at h; exact h
 | x :: as, ys, hn, h => by
  simp only [List.mapM_cons, Option.bind_eq_bind, Option.pure_def] at h
  obtain ⟨y, h1, h⟩ := Option.bind_eq_some_iff.1 h
  obtain ⟨zs, h2, h⟩ := Option.bind_eq_some_iff.1 h
  simp only [Option.some.injEq] at h; subst h
  have app : ∀ {a b : List AV}, firstName (a ++ b) = none → firstName b = none := by
   intro a b hab
   induction a with
   | nil => exact hab
   | cons x a ih => cases x <;> simp only [List.cons_append, firstName, reduceCtorEq] at hab <;> exact ih hab
  simp only [List.flatMap_cons] at hn
  rw [lend_id (app hn) h2]
  congr 1
  cases x with
  | msl n sz off len => simp [cellList, firstName] at hn
  | agg l =>
   simp only [lend] at h1
   obtain ⟨zs, hz, rfl⟩ := Option.map_eq_some_iff.1 h1
   have hl : firstName l = none := by
    have : ∀ {a b : List AV}, firstName (a ++ b) = none → firstName a = none := by
     intro a b hab
     induction a with
     | nil => rfl
     | cons x a ih => cases x <;> simp only [List.cons_append, firstName, reduceCtorEq] at hab ⊢ <;> exact ih hab
    exact this hn
   rw [lendC_id hl hz]
  | _ => simp only [lend, lendC, Option.some.injEq] at h1; exact h1.symm
theorem nf_arg {x : AV} (h : nf x = true) : argOk x = true ∧ refsOf [x] = [] := by
 cases x with
 | ref n sz i off => simp [nf, nfV, nfC] at h
 | agg l => exact ⟨h, rfl⟩
 | _ => first | exact ⟨rfl, rfl⟩ | exact ⟨h, rfl⟩
theorem nf_args : ∀ {l : List AV}, l.all nf = true → l.all argOk = true ∧ refsOf l = []
 | [], _ => ⟨rfl, rfl⟩
 | x :: l, h => by
  simp only [List.all_cons, Bool.and_eq_true] at h
  obtain ⟨h1, h2⟩ := nf_args h.2
  obtain ⟨h3, h4⟩ := nf_arg h.1
  refine ⟨by simp [h1, h3], ?_⟩
  have : refsOf (x :: l) = refsOf [x] ++ refsOf l := by simp only [refsOf, ← List.filterMap_append, List.singleton_append]
  rw [this, h2, h4]; rfl
theorem bxPos_spec : ∀ (l : List AT) (i : Nat), (∀ j ∈ bxPos l i, i ≤ j ∧ j < i + l.length) ∧ (bxPos l i).Nodup
 | [], i => by simp [bxPos]
 | .v _ :: l, i => by
  obtain ⟨h1, h2⟩ := bxPos_spec l (i + 1)
  refine ⟨fun j hj => ?_, h2⟩
  have := h1 j hj
  simp only [List.length_cons]; omega
 | .bx _ :: l, i => by
  obtain ⟨h1, h2⟩ := bxPos_spec l (i + 1)
  refine ⟨fun j hj => ?_, ?_⟩
  ·simp only [bxPos, List.mem_cons] at hj
   simp only [List.length_cons]
   rcases hj with rfl | hj
   ·omega
   ·have := h1 j hj; omega
  ·simp only [bxPos, List.nodup_cons]
   exact ⟨fun hi => by have := h1 i hi; omega, h2⟩
theorem okNames_spec : ∀ {l : List Nat}, okNames l = true → l.Nodup ∧ (∀ n ∈ l, n < top ∧ n ≠ rn) ∧ rn ∉ l
 | [], _ => ⟨List.nodup_nil, by simp, by simp⟩
 | n :: l, h => by
  simp only [okNames, Bool.and_eq_true, Bool.not_eq_true', decide_eq_true_eq, beq_eq_false_iff_ne] at h
  obtain ⟨h1, h2, h3, h4⟩ := h
  obtain ⟨g1, g2, g3⟩ := okNames_spec h4
  have hn : n ∉ l := by
   intro hm
   have : l.contains n = true := by simpa using hm
   rw [this] at h1; cases h1
  refine ⟨List.nodup_cons.2 ⟨hn, g1⟩, fun m hm => ?_, fun hm => ?_⟩
  ·rcases List.mem_cons.1 hm with rfl | hm
   ·exact ⟨h2, h3⟩
   ·exact g2 m hm
  ·rcases List.mem_cons.1 hm with e | hm
   ·exact h3 e.symm
   ·exact g3 hm
theorem bxNames_len : ∀ {l : List AT} {xs : List SV} {O : SObjs} {a : argsT l} (i : Nat), toArgs O l xs = some a → (bxPos l i).length = (bxNames l xs).length
 | [], [], O, a, i, _ => rfl
 | [], _ :: _, O, a, i, h => by simp [toArgs] at h
 | _ :: _, [], O, a, i, h => by simp [toArgs] at h
 | .v c :: l, x :: xs, O, a, i, h => by
  simp only [toArgs] at h
  split at h
  ·rename_i p q h1 h2; exact bxNames_len (l := l) (i + 1) h2
  ·cases h
 | .bx ts :: l, x :: xs, O, a, i, h => by
  simp only [toArgs] at h
  split at h
  ·rename_i p q h1 h2
   have ih := bxNames_len (l := l) (i + 1) h2
   cases x with
   | tup l => simp [toAT] at h1
   | v x =>
    cases x with
    | g l => simp [toAT] at h1
    | c y =>
     cases y with
     | ref n sz i off => simp only [bxPos, bxNames, List.length_cons, ih]
     | _ => simp [toAT] at h1
  ·cases h
theorem setBoxes_spec {ν : Nat → Nat} : ∀ {l : List AT} {xs : List SV} {i : Nat} {o : outsT (bxsOf l)} {O : SObjs}, (bxPos l i).map ν = bxNames l xs → l.length = xs.length → (∀ n ∈ bxNames l xs, ∃ cs, lookS n O = some (.box cs)) →
  (∀ O', objsAV O' (setBoxes l xs o O) = updAll (outsAV ν l i o) (objsAV O' O)) ∧ (∀ x : CV, x.av (setBoxes l xs o O) = x.av O) ∧ (∀ d, lookS d O = none → lookS d (setBoxes l xs o O) = none) ∧
   (∀ d, setBoxes l xs o (mapOC (killC d) O) = mapOC (killC d) (setBoxes l xs o O))
 | [], xs, i, o, O, _, _, _ => ⟨fun _ => by cases xs <;> rfl, fun _ => by cases xs <;> rfl, fun _ h => by cases xs <;> exact h, fun _ => by cases xs <;> rfl⟩
 | .v c :: l, [], i, o, O, _, h, _ => by simp at h
 | .v c :: l, x :: xs, i, o, O, hν, hl, hb => setBoxes_spec (l := l) (xs := xs) (i := i + 1) (o := o) (O := O) hν (by simpa using hl) hb
 | .bx ts :: l, [], i, o, O, _, h, _ => by simp at h
 | .bx ts :: l, x :: xs, i, o, O, hν, hl, hb => by
  have hx : ∃ n sz j off, x = .v (.c (.ref n sz j off)) := by
   cases x with
   | tup _ => simp [bxPos, bxNames] at hν
   | v y =>
    cases y with
    | g _ => simp [bxPos, bxNames] at hν
    | c z =>
     cases z with
     | ref n sz j off => exact ⟨_, _, _, _, rfl⟩
     | _ => simp [bxPos, bxNames] at hν
  obtain ⟨n, sz, j, off, rfl⟩ := hx
  simp only [bxPos, List.map_cons, bxNames, List.cons.injEq] at hν
  obtain ⟨hνi, hν⟩ := hν
  obtain ⟨cs, hcs⟩ := hb n (by simp [bxNames])
  have hb' : ∀ m ∈ bxNames l xs, ∃ cs, lookS m (updS n (.box ((ts.kvs o.1).map CV.k)) O) = some (.box cs) := by
   intro m hm
   by_cases e : n = m
   ·subst e; exact ⟨_, lookS_upd _ (by rw [hcs]; rfl)⟩
   ·rw [lookS_upd_ne _ e]; exact hb m (by simp [bxNames, hm])
  obtain ⟨h1, h2, h3, h4⟩ := setBoxes_spec (ν := ν) (l := l) (xs := xs) (i := i + 1) (o := o.2) (O := updS n (.box ((ts.kvs o.1).map CV.k)) O) hν (by simpa using hl) hb'
  refine ⟨fun O' => ?_, fun x => ?_, fun d hd => ?_, fun d => ?_⟩
  ·show objsAV O' (setBoxes l xs o.2 _) = updAll ((ν i, .box (ts.avs o.1)) :: outsAV ν l (i + 1) o.2) _
   rw [h1, objsAV_upd, hνi]
   simp only [updAll, SO.av, kvs_cav]
  ·show x.av (setBoxes l xs o.2 _) = _
   rw [h2]
   exact av_upd_len hcs (.inl ⟨_, _, rfl, rfl⟩) x
  ·show lookS d (setBoxes l xs o.2 _) = none
   refine h3 d ?_
   by_cases e : n = d
   ·subst e; rw [hcs] at hd; cases hd
   ·rw [lookS_upd_ne _ e]; exact hd
  ·show setBoxes l xs o.2 (updS n _ (mapOC (killC d) O)) = mapOC (killC d) (setBoxes l xs o.2 _)
   rw [← h4]
   have : ∀ O : SObjs, updS n (.box ((ts.kvs o.1).map CV.k)) (mapOC (killC d) O) = mapOC (killC d) (updS n (.box ((ts.kvs o.1).map CV.k)) O) := by
    intro O
    induction O with
    | nil => rfl
    | cons p r ih =>
     obtain ⟨m, so⟩ := p
     have hk : ((ts.kvs o.1).map CV.k).map (killC d) = (ts.kvs o.1).map CV.k := by
      rw [List.map_map]; rfl
     by_cases e : m = n
     ·cases so <;> simp [mapOC, updS, e, ih, hk]
     ·cases so <;> simp [mapOC, updS, e, ih]
   rw [this O]
theorem lookAll_fst : ∀ {ns : List Nat}, (∀ n ∈ ns, (look n objs).isSome = true) → (lookAll ns objs).map (·.1) = ns
 | [], _ => rfl
 | n :: ns, h => by
  have ih := lookAll_fst (ns := ns) (fun m hm => h m (List.mem_cons_of_mem _ hm))
  obtain ⟨o, ho⟩ := Option.isSome_iff_exists.1 (h n (List.mem_cons_self ..))
  have : lookAll (n :: ns) objs = (n, o) :: lookAll ns objs := by simp only [lookAll, List.filterMap_cons, ho, Option.map_some]
  rw [this, List.map_cons, ih]
theorem outs_fst {ν : Nat → Nat} : ∀ {l : List AT} {i : Nat} {o : outsT (bxsOf l)}, (outsAV ν l i o).map (·.1) = (bxPos l i).map ν
 | [], _, _ => rfl
 | .v _ :: l, i, o => outs_fst (l := l) (i := i + 1) (o := o)
 | .bx ts :: l, i, o => by
  have ih := outs_fst (ν := ν) (l := l) (i := i + 1) (o := o.2)
  exact congrArg (ν i :: ·) ih
theorem plain_t : ∀ (t : Ty) (x : t.T), plainC (t.av x) = true ∧ nfC (t.av x) = true
 | .int _, _ => ⟨rfl, rfl⟩
 | .bool, _ => ⟨rfl, rfl⟩
 | .str, _ => ⟨rfl, rfl⟩
 | .sl _, _ => ⟨rfl, rfl⟩
theorem plain_ts : ∀ (ts : Tys) (x : ts.T), (ts.avs x).all plainC = true ∧ (ts.avs x).all nfC = true
 | .nil, _ => ⟨rfl, rfl⟩
 | .cons t ts, x => by
  obtain ⟨h1, h2⟩ := plain_t t x.1
  obtain ⟨h3, h4⟩ := plain_ts ts x.2
  exact ⟨by simp [Tys.avs, h1, h3], by simp [Tys.avs, h2, h4]⟩
theorem outs_ok {ν : Nat → Nat} : ∀ {l : List AT} {i : Nat} {o : outsT (bxsOf l)}, boxesOk (outsAV ν l i o) = true
 | [], _, _ => rfl
 | .v _ :: l, i, o => outs_ok (l := l) (i := i + 1) (o := o)
 | .bx ts :: l, i, o => by
  have ih := outs_ok (ν := ν) (l := l) (i := i + 1) (o := o.2)
  show ((ts.avs o.1).all plainC && boxesOk (outsAV ν l (i + 1) o.2)) = true
  rw [(plain_ts ts o.1).1, ih]; rfl
theorem nf_c (c : CT) (x : c.T) : nfV (c.av x) = true ∧ nf (c.av x) = true := by
 cases c with
 | ty t => cases t <;> exact ⟨rfl, rfl⟩
 | ag ts => exact ⟨(plain_ts ts x).2, (plain_ts ts x).2⟩
theorem newOk_r (r : RT) (x : r.T) : newOk (r.av x) (r.new x) = true := by
 cases r with
 | v c => exact (nf_c c x).2
 | tup l =>
  show nf (.tup (compsAV l x)) = true
  simp only [nf]
  have : ∀ (l : List CT) (x : compsT l), (compsAV l x).all nfV = true := by
   intro l
   induction l with
   | nil => intro _; rfl
   | cons c l ih => intro x; simp only [compsAV, List.all_cons, (nf_c c x.1).1, ih, Bool.and_self]
  exact this l x
 | own ts => simp [RT.av, RT.new, newOk]
 | box ts => simp [RT.av, RT.new, newOk, avs_len, (plain_ts ts x).1]
 | unit => rfl
theorem boxesOk_look' : ∀ {ns : List Nat}, (∀ n ∈ ns, ∃ cs, look n objs = some (.box cs) ∧ cs.all plainC = true) → boxesOk (lookAll ns objs) = true
 | [], _ => rfl
 | n :: ns, h => by
  have ih := boxesOk_look' (ns := ns) (fun m hm => h m (List.mem_cons_of_mem _ hm))
  obtain ⟨cs, h1, h2⟩ := h n (List.mem_cons_self ..)
  have : lookAll (n :: ns) objs = (n, .box cs) :: lookAll ns objs := by simp only [lookAll, List.filterMap_cons, h1, Option.map_some]
  rw [this]
  simp only [boxesOk, h2, ih, Bool.and_self]
end Go.Abs
namespace Go.Abs
open Go.RowKit
theorem retS_made {N : Nat} {s : SS} {dst : Option Tmp} {objs' : List (Nat × Obj)} {g : RT} {y : g.T} (hno : NoOwn (dst.getD 999998) s) (hobj : (s.st N).objs = objs') :
    ((retS (dst.getD 999998) s g y).2.put dst (retS (dst.getD 999998) s g y).1).st N =
      ⟨putA (s.st N).env dst (rename (dst.getD 999998) (g.av y)), (match g.new y with | some o => (dst.getD 999998, o) :: objs' | none => objs')⟩ := by
  subst hobj
  have cren : ∀ (c : CT) (x : c.T) d, rename d (c.av x) = c.av x := by
    intro c x d
    cases c with
    | ty t => cases t <;> rfl
    | ag ts => rfl
  cases g with
  | v c => simp only [retS, RT.new, RT.av]; rw [put_st, csv_av, cren]
  | tup l =>
    simp only [retS, RT.new, RT.av]
    rw [put_st]
    simp only [SV.av, vvs_av, rename]
  | own ts =>
    simp only [retS, RT.new, RT.av]
    generalize hd : dst.getD 999998 = d at *
    have h1 : rename d (.msl rn ts.len 0 y.length) = .msl d ts.len 0 y.length := by simp [rename]
    rw [h1, put_st, own_av, (st_cons (N := N) hno _).1]
    congr 1
    show objsAV ((d, SO.arr ts y) :: s.objs) ((d, SO.arr ts y) :: s.objs) = _
    simp only [objsAV, (st_cons (N := N) hno _).2]; rfl
  | box ts =>
    simp only [retS, RT.new, RT.av]
    generalize hd : dst.getD 999998 = d at *
    have h1 : rename d (.ref rn ts.len 0 0) = .ref d ts.len 0 0 := by simp [rename]
    rw [h1, put_st, (st_cons (N := N) hno _).1]
    congr 1
    show objsAV ((d, SO.box ((ts.kvs y).map CV.k)) :: s.objs) ((d, SO.box ((ts.kvs y).map CV.k)) :: s.objs) = _
    simp only [objsAV, (st_cons (N := N) hno _).2, SO.av, kvs_cav]; rfl
  | unit => simp only [retS, RT.new, RT.av]; rw [put_st]; rfl
theorem toArgs_len : ∀ {l : List AT} {xs : List SV} {O : SObjs} {a : argsT l}, toArgs O l xs = some a → l.length = xs.length
  | [], [], _, _, _ => rfl
  | [], _ :: _, _, _, h => by simp [toArgs] at h
  | _ :: _, [], _, _, h => by simp [toArgs] at h
  | c :: l, x :: xs, O, a, h => by
    simp only [toArgs] at h
    split at h
    · rename_i p q h1 h2; simp [toArgs_len h2]
    · cases h
theorem flat_names {C : Cfg} {s : SS} (xs : List Operand) : (xs.map (sev C s)).flatMap cellsOfS = xs.flatMap fun o => cellsOfS (sev C s o) := by
  rw [List.flatMap_map]
theorem give_call {P : Program} {FT : List (Nat × Entry)} (hFT : FTok P FT) {C : Cfg} {s : SS} {dst : Option Tmp} {f : FuncId} {e : Entry} {xs : List Operand} {a : argsT e.sig.args} {q : e.sig.R}
    (he : lkF FT f = some e) (hno : NoOwn (dst.getD 999998) s) (hnm : firstC (xs.flatMap fun o => cellsOfS (sev C s o)) = none) (ha : toArgs s.objs e.sig.args (xs.map (sev C s)) = some a) (hF : e.F a = some q)
    (hd : dst.getD 999998 < top) (hl : e.sig.args.length ≤ 1000) (hn : okNames (bxNames e.sig.args (xs.map (sev C s))) = true) :
    ∃ Φ hr, Sound P Φ ∧ cOp Φ (s.st C.N).env (s.st C.N).objs (dst.getD 999998) f xs = some hr ∧
      (⟨putA hr.env dst hr.x, hr.objs⟩ : St) = ((retS (dst.getD 999998) ⟨s.env, setBoxes e.sig.args (xs.map (sev C s)) q.2 s.objs⟩ e.sig.ret q.1).2.put dst
            (retS (dst.getD 999998) ⟨s.env, setBoxes e.sig.args (xs.map (sev C s)) q.2 s.objs⟩ e.sig.ret q.1).1).st C.N ∧
      firstName ((xs.map (ev (s.st C.N).env)).flatMap cellList) = none ∧ (∀ n, n ≠ dst.getD 999998 → n ∉ bxNames e.sig.args (xs.map (sev C s)) → look n hr.objs = look n (s.st C.N).objs) := by
  obtain ⟨hfun, hTC⟩ := hFT f e he
  obtain ⟨n1, n2, n3⟩ := okNames_spec hn
  obtain ⟨b1, b2⟩ := bxPos_spec e.sig.args 0
  have hcl : ((bxPos e.sig.args 0).map canon).length = (bxNames e.sig.args (xs.map (sev C s))).length := by
    rw [List.length_map]; exact bxNames_len 0 ha
  have hcn : ((bxPos e.sig.args 0).map canon).Nodup := by
    have : ∀ l : List Nat, l.Nodup → (l.map canon).Nodup := by
      intro l
      induction l with
      | nil => intro _; exact List.nodup_nil
      | cons x l ih =>
        intro h
        simp only [List.nodup_cons] at h
        simp only [List.map_cons, List.nodup_cons, List.mem_map, not_exists, not_and]
        exact ⟨fun y hy e => h.1 (by have : y = x := by unfold canon at e; omega
                                     rwa [← this]), ih h.2⟩
    exact this _ b2
  have hct : ∀ n ∈ (bxPos e.sig.args 0).map canon, n < top ∧ n ≠ rn := by
    intro n hn
    obtain ⟨j, hj, rfl⟩ := List.mem_map.1 hn
    have := b1 j hj
    unfold canon top rn
    omega
  obtain ⟨π, hπ⟩ := perm_of _ _ hcl hcn n1 hct n2
  have hν : (bxPos e.sig.args 0).map (fun i => π.g (canon i)) = bxNames e.sig.args (xs.map (sev C s)) := by
    rw [← hπ, List.map_map]; rfl
  obtain ⟨k1, k2, k3, k4, k5⟩ := give_args (ν := fun i => π.g (canon i)) (i := 0) ha (by rw [flat_names]; exact hnm) hν
  have hc := contract_ren π (hTC a q hF)
  rw [ren_args, ren_os, ren_cr] at hc
  have hc := contract_le hc k1 k5
  rw [← evs_av] at hc k2 k3
  have hlk : ∀ n ∈ bxNames e.sig.args (xs.map (sev C s)), ∃ cs, look n (s.st C.N).objs = some (.box cs) ∧ cs.all plainC = true := by
    intro n hn
    obtain ⟨cs, h1, h2⟩ := k4 n hn
    refine ⟨cs.map (CV.av s.objs), ?_, plainCC_all h2⟩
    show look n (objsAV s.objs s.objs) = _
    rw [lookS_av, h1]; rfl
  obtain ⟨s1, s2, s3, s4⟩ := setBoxes_spec (ν := fun i => π.g (canon i)) (i := 0) (o := q.2) (O := s.objs) hν (toArgs_len ha) (fun n hn => by obtain ⟨cs, h1, _⟩ := k4 n hn; exact ⟨cs, h1⟩)
  refine ⟨one f (xs.map (ev (s.st C.N).env)) (lookAll (bxNames e.sig.args (xs.map (sev C s))) (s.st C.N).objs) (crAV (fun i => π.g (canon i)) e.sig q),
    ⟨rename (dst.getD 999998) (e.sig.ret.av q.1), (s.st C.N).env, (match e.sig.ret.new q.1 with | some o => (dst.getD 999998, o) :: updAll (outsAV (fun i => π.g (canon i)) e.sig.args 0 q.2) (s.st C.N).objs | none => updAll (outsAV (fun i => π.g (canon i)) e.sig.args 0 q.2) (s.st C.N).objs)⟩, one_sound hfun hc, ?_, ?_, ?_, ?_⟩
  rotate_left 2
  · rw [List.flatMap_map]; exact names_none hnm
  · intro n hn1 hn2
    have hup : ∀ (l : List (Nat × Obj)) (O : List (Nat × Obj)), n ∉ l.map (·.1) → look n (updAll l O) = look n O := by
      intro l
      induction l with
      | nil => intro O _; rfl
      | cons p l ih =>
        obtain ⟨m, o⟩ := p
        intro O hm
        simp only [List.map_cons, List.mem_cons, not_or] at hm
        rw [updAll, ih _ hm.2, look_upd_ne _ (Ne.symm hm.1)]
    have hup2 := hup (outsAV (fun i => π.g (canon i)) e.sig.args 0 q.2) (s.st C.N).objs (by rw [outs_fst, hν]; exact hn2)
    cases e.sig.ret.new q.1 with
    | none => exact hup2
    | some o => simp only [look, if_neg (Ne.symm hn1)]; exact hup2
  · unfold cOp
    have hfn : firstName ((xs.map (ev (s.st C.N).env)).flatMap cellList) = none := by
      rw [List.flatMap_map]; exact names_none hnm
    rw [hfn]
    simp only [cGive, k3]
    rw [if_pos ⟨k2, lookAll_fst (fun n hn => by obtain ⟨cs, h1, _⟩ := hlk n hn; rw [h1]; rfl), n1, boxesOk_look' hlk, look_none hno.1, hd, n3⟩]
    simp only [one_eq]
    have h2 : (crAV (fun i => π.g (canon i)) e.sig q).os.map (·.1) = bxNames e.sig.args (xs.map (sev C s)) := by
      show (outsAV _ _ _ _).map (·.1) = _
      rw [outs_fst, hν]
    rw [if_pos ⟨h2, outs_ok, newOk_r e.sig.ret q.1⟩]
    rfl
  · have hidem : ∀ (d : Nat) (O : SObjs), mapOC (killC d) (mapOC (killC d) O) = mapOC (killC d) O := by
      intro d O
      rw [mapOC_mapOC]
      congr 1
      funext x
      cases x with
      | own m => by_cases h : m = d <;> simp [killC, h]
      | msl m sz off len => by_cases h : m = d <;> simp [killC, h]
      | ref m sz i off => by_cases h : m = d <;> simp [killC, h]
      | wrp f ns =>
        by_cases h : (ns.map (·.1)).contains d = true
        · rw [show killC d (.wrp f ns) = .any from if_pos h]; rfl
        · rw [show killC d (.wrp f ns) = .wrp f ns from if_neg h, show killC d (.wrp f ns) = .wrp f ns from if_neg h]
      | _ => rfl
    have hno2 : NoOwn (dst.getD 999998) ⟨s.env, setBoxes e.sig.args (xs.map (sev C s)) q.2 s.objs⟩ := by
      obtain ⟨hl, E, O, hs⟩ := hno
      refine ⟨s3 _ hl, E, setBoxes e.sig.args (xs.map (sev C s)) q.2 s.objs, ?_⟩
      rw [← s4]
      have h1 : s.env = mapEC (killC (dst.getD 999998)) E := by rw [hs]
      have h2 : mapOC (killC (dst.getD 999998)) s.objs = s.objs := by rw [hs]; exact hidem _ _
      rw [h2, h1]
    rw [retS_made (objs' := updAll (outsAV (fun i => π.g (canon i)) e.sig.args 0 q.2) (s.st C.N).objs) hno2 ?_]
    · congr 1
      · congr 1
        have kv : ∀ x : VV, x.av (setBoxes e.sig.args (xs.map (sev C s)) q.2 s.objs) = x.av s.objs := by
          intro x
          cases x with
          | c x => exact s2 x
          | g l =>
            simp only [VV.av]
            congr 1
            apply List.map_congr_left
            intro x _; exact s2 x
        simp only [SS.st]
        apply List.map_congr_left
        intro i _
        cases lkE s.env i with
        | v x => exact (kv x).symm
        | tup l =>
          simp only [SV.av]
          congr 1
          apply List.map_congr_left
          intro x _; exact (kv x).symm
    · show objsAV _ (setBoxes _ _ _ _) = _
      have ko : ∀ O : SObjs, objsAV (setBoxes e.sig.args (xs.map (sev C s)) q.2 s.objs) O = objsAV s.objs O := by
        intro O
        induction O with
        | nil => rfl
        | cons p r ih =>
          obtain ⟨m, o⟩ := p
          have : o.av (setBoxes e.sig.args (xs.map (sev C s)) q.2 s.objs) = o.av s.objs := by
            cases o with
            | box cs =>
              simp only [SO.av]
              congr 1
              apply List.map_congr_left
              intro x _; exact s2 x
            | arr ts l => rfl
            | mp _ _ _ => rfl
          simp only [objsAV, ih, this]
      rw [ko, s1]; rfl
theorem sCall_sound {P : Program} {R : Type} {FT : List (Nat × Entry)} (hFT : FTok P FT) {C : Cfg} {s : SS} {dst : Option Tmp} {f : FuncId} {xs : List Operand} {K : SS → Option R} {r : R}
    (h : sCall C FT false s dst f xs K = some r) : ∃ s1 f' Φ hr, Cov (s.st C.N) (s1.st C.N) ∧ keepsB s s1 ∧ Sound P Φ ∧ cOp Φ (s1.st C.N).env (s1.st C.N).objs (dst.getD 999998) f xs = some hr ∧
      (⟨putA hr.env dst hr.x, hr.objs⟩ : St) = f'.st C.N ∧ K f' = some r := by
  unfold sCall at h
  split at h
  · cases h
  · rename_i e he
    cases hbg : ((bxsOf e.sig.args).isEmpty && gRT e.sig.ret) with
    | true =>
      simp only [hbg] at h
      simp only [Bool.and_eq_true] at hbg
      split at h
      · cases h
      · rename_i s1 hs1
        obtain ⟨a1, a2, a3⟩ := freshS_no (N := C.N) hs1
        split at h
        · cases h
        · rename_i a ha
          split at h
          · rename_i hcond
            simp only [obind] at h
            obtain ⟨q, hF, hK⟩ := Option.bind_eq_some_iff.1 h
            obtain ⟨ys, h1, h2, h3⟩ := quiet_call hFT he hbg.1 hbg.2 ha hF
            obtain ⟨g1, g2, g3, g4⟩ := ground_r e.sig.ret q.1 hbg.2
            refine ⟨s1, _, one f ys [] ⟨e.sig.ret.av q.1, [], none⟩, ⟨e.sig.ret.av q.1, (s1.st C.N).env, (s1.st C.N).objs⟩, a1, a2, one_sound (hFT f e he).1 h3, ?_, ?_, hK⟩
            · unfold cOp
              split
              · rename_i hn
                have e1 := lend_id hn h1
                subst e1
                obtain ⟨m1, m2⟩ := nf_args h2
                simp only [cGive, m2, lookAll, List.filterMap_nil, List.map_nil, boxesOk, one_eq]
                rw [if_pos ⟨m1, trivial, List.nodup_nil, trivial, look_none a3.1, hcond.1, by simp⟩]
                simp only [g3, updAll]
                rw [if_pos ⟨trivial, trivial, g4⟩]
              · unfold cLend
                rw [h1]
                simp only [h2, if_true, one_eq, g1]
            · have hset : setBoxes e.sig.args (xs.map (sev C s1)) q.2 s1.objs = s1.objs := setBoxes_no (noBx_of hbg.1)
              have key : ∀ (rt : RT) (y : rt.T), gRT rt = true → (retS (dst.getD 999998) ⟨s1.env, s1.objs⟩ rt y).2 = s1 ∧ (retS (dst.getD 999998) ⟨s1.env, s1.objs⟩ rt y).1.av s1.objs = rt.av y := by
                intro rt y hg
                cases rt with
                | v c => exact ⟨rfl, csv_av c y⟩
                | tup l => exact ⟨rfl, by simp only [retS, SV.av, vvs_av, RT.av]⟩
                | _ => simp [gRT] at hg
              rw [hset]
              obtain ⟨k1, k2⟩ := key e.sig.ret q.1 hbg.2
              rw [k1, put_st, k2]
          · cases h
    | false =>
      simp only [hbg] at h
      split at h
      · cases h
      · rename_i s1 hs1
        obtain ⟨a1, a2, a3, a4⟩ := prepS_cov hs1
        split at h
        · cases h
        · rename_i a ha
          split at h
          · rename_i hcond
            simp only [obind] at h
            obtain ⟨q, hF, hK⟩ := Option.bind_eq_some_iff.1 h
            obtain ⟨Φ, hr, h1, h2, h3, _, _⟩ := give_call (dst := dst) hFT he a3 a4 ha hF hcond.1 hcond.2.1 hcond.2.2
            exact ⟨s1, _, Φ, hr, a1, a2, h1, h2, h3, hK⟩
          · cases h
end Go.Abs
namespace Go.Abs
open Go.RowKit
variable {P : Program} {ops : Array Oper} {pins : List Nat}
def qSteps (P : Program) (ops : Array Oper) : List Oper → St → St → Prop
 | [], s, s' => s = s'
 | o :: l, s, s' => ∃ s1 Φ, Sound P Φ ∧ qOp1 P Φ ops o s = some s1 ∧ qSteps P ops l s1 s'
def TailOk (P : Program) (pins : List Nat) (ops : Array Oper) (Q : St → Prop) (l : List Oper) (s : St) : Prop :=
 ∀ w0 M0 D0 a w, PinsOk pins D0 → Sat w0 M0 D0 s a w → wpList P ops (Nrm (SatQ w0 M0 D0 Q)) l a w
theorem qSteps_sound {w0 w : World} {M0 : Nat → Prop} {D : Names} {C : World → Prop} (hC : ∀ w', C w' ↔ Below w.heap.size w w') {Q : Act → Prop} :
  ∀ (l : List Oper) {s s' : St} {a : Act}, qSteps P ops l s s' → Mem w0 M0 s.objs D w → EnvRep w D s.env a.tmps → (s'.objs = s.objs → ∀ a', a'.defers = a.defers → EnvRep w D s'.env a'.tmps → Q a') → wpQuiet P ops C Q l a
 | [], s, s', a, h, hm, he, hq => by cases h; exact hq rfl a rfl he
 | o :: l, s, s', a, h, hm, he, hq => by
  obtain ⟨s1, Φ, hΦ, h1, h⟩ := h
  have hobj : s1.objs = s.objs := (qOp1_frame hΦ h1 hm he hC (K := fun _ => True) (fun _ _ _ => trivial) (fun _ => trivial)).1
  refine wpQuiet_step fun K hK => (qOp1_frame hΦ h1 hm he hC (fun a' hd' he' => hK _ ?_) (fun _ => trivial)).2
  exact qSteps_sound hC l h (by rw [hobj]; exact hm) he' (fun h2 a'' hd'' he'' => hq (h2.trans hobj) a'' (hd''.trans hd') he'')
theorem wpK_of_qSteps {w0 B : World} {M0 : Nat → Prop} {D : Names} {k : Nat} {Q : Act → Prop} {rest : List Oper} : ∀ (l : List Oper) (i : Nat) {s s' : St} {a : Act},
  qSteps P ops l s s' → i + l.length = k → Mem w0 M0 s.objs D B → EnvRep B D s.env a.tmps → (∀ a', a'.defers = a.defers → s'.objs = s.objs → EnvRep B D s'.env a'.tmps → wpK P ops B k Q rest k a') → wpK P ops B k Q (l ++ rest) i a
 | [], i, s, s', a, h, hi, hm, he, hq => by
  cases h
  simp only [List.length_nil, Nat.add_zero] at hi; subst hi
  exact hq a rfl rfl he
 | o :: l, i, s, s', a, h, hi, hm, he, hq => by
  obtain ⟨s1, Φ, hΦ, h1, h⟩ := h
  simp only [List.length_cons] at hi
  obtain ⟨e, v, hy, he'⟩ := qOp1_yd hΦ h1 hm he (k := k) (i := i) (by omega)
  exact ⟨v, hy, wpK_of_qSteps l (i + 1) h (by omega) (by rw [e]; exact hm) he' (fun a' hd ho he'' => hq a' (hd.trans (put_defers _ _ _)) (ho.trans e) he'')⟩
theorem reg_x {Q : St → Prop} {s : St} (hnd : noDef ops = true) (h : TailOk P pins ops Q ops.toList s) : RegOk P pins ops false s Q :=
 fun w0 M0 D0 a w hp hs => ⟨fun _ _ => wpListIn_of ops.toList (fun o ho => by
  obtain ⟨j, hj⟩ := List.getElem?_of_mem ho
  exact noDef_spec hnd j o (by simpa using hj)) a w (h w0 M0 D0 a w hp hs), fun h => by cases h⟩
theorem reg_q {Q : St → Prop} {s s' : St} (hB : Region.lexB .any ops = true) (hx : qSteps P ops ops.toList s s') (h : Q s') : RegOk P pins ops true s Q := by
 intro w0 M0 D0 a w _ hs
 obtain ⟨hd, D, hmem, he, hpin⟩ := hs
 refine ⟨fun h => by (cases h), fun _ => any_quiet (C := fun w' => Below w.heap.size w w') hB ⟨rfl, rfl, rfl, Nat.le_refl _, fun _ _ => rfl⟩ ?_⟩
 refine qSteps_sound (fun _ => Iff.rfl) ops.toList hx hmem he fun hobj a' hd' he' w' hw' => ⟨rfl, s', h, hd'.trans hd, D, ?_, ?_, ?_⟩
 ·rw [hobj]
  exact hmem.ext (grow_of_below hw') hw'.os hw'.tape hw'.output
 ·exact he'.mono ((grow_of_below hw').weaken (fun _ _ h => h.elim)) (fun _ _ h => h) hmem.lt (fun _ _ h => h)
 ·rw [hobj]; exact hpin
theorem reg_qt {Q : St → Prop} {s s1 : St} {l : List Oper} (n : Nat) (hB : Region.lexTailB .any l.toArray n = true)
  (hx : qSteps P l.toArray (l.take n) s s1) (h : TailOk P pins l.toArray Q (l.drop n) s1) : RegOk P pins l.toArray true s Q := by
 intro w0 M0 D0 a w hp hs
 obtain ⟨hd, D, hmem, he, hpin⟩ := hs
 refine ⟨fun h => by (cases h), fun _ => any_qt (C := fun w' => Below w.heap.size w w') n hB ⟨rfl, rfl, rfl, Nat.le_refl _, fun _ _ => rfl⟩ ?_⟩
 refine qSteps_sound (fun _ => Iff.rfl) (l.take n) hx hmem he fun hobj a' hd' he' w' hw' => ?_
 refine h w0 M0 D0 a' w' hp ⟨hd'.trans hd, D, ?_, ?_, ?_⟩
 ·rw [hobj]
  exact hmem.ext (grow_of_below hw') hw'.os hw'.tape hw'.output
 ·exact he'.mono ((grow_of_below hw').weaken (fun _ _ h => h.elim)) (fun _ _ h => h) hmem.lt (fun _ _ h => h)
 ·rw [hobj]; exact hpin
theorem reg_da {Q : St → Prop} {s s1 s2' : St} {hd tl : List Oper} {d : Tmp} {T : TypeId} {ty : TypeId} {pos : String} {aft : Array Edge}
  (hB : Region.lexTailB .any (hd ++ ⟨some d, .alloc T, ty, pos, aft, none⟩ :: tl).toArray (hd.length + 1) = true) (hA : aloneB (hd ++ ⟨some d, .alloc T, ty, pos, aft, none⟩ :: tl).toArray (hd.length + 1) hd.length d = true) (hz : (zeroCells P T).isSome = true)
  (hx : qSteps P (hd ++ ⟨some d, .alloc T, ty, pos, aft, none⟩ :: tl).toArray hd s s1)
  (hx1 : ∀ w0 M0 D0 a w, Sat w0 M0 D0 ⟨putA s1.env (some d) .und, s1.objs⟩ a w → wpList P (hd ++ ⟨some d, .alloc T, ty, pos, aft, none⟩ :: tl).toArray (fun e a' w' => e = .normal ∧ Sat w0 M0 D0 s2' a' w') [⟨some d, .alloc T, ty, pos, aft, none⟩] a w)
  (h : TailOk P pins (hd ++ ⟨some d, .alloc T, ty, pos, aft, none⟩ :: tl).toArray Q tl s2') :
  RegOk P pins (hd ++ ⟨some d, .alloc T, ty, pos, aft, none⟩ :: tl).toArray true s Q := by
 intro w0 M0 D0 a w hpp hs
 obtain ⟨hdf, D, hmem, he, hpin⟩ := hs
 generalize hok : (⟨some d, .alloc T, ty, pos, aft, none⟩ : Oper) = ok at *
 generalize hl : hd ++ ok :: tl = l at *
 have hokl : l.toArray[hd.length]? = some ok := by rw [← hl]; simp
 obtain ⟨z, hz⟩ := Option.isSome_iff_exists.1 hz
 obtain ⟨i, zv, hi, hzv, _, _⟩ := cellsOne_zero w D hz
 have hrun : ∀ (ρ : Operand → Value) (w : World), (execOp ρ ok).run P w = .ok (.value (.pointer (some ⟨w.heap.size, 0, none⟩))) (w.alloc (.cells zv.cells.toList.toArray T)) := by
  intro ρ w
  rw [← hok]
  simp [execOp, Instr.alloc, zeroValue, typeInfo, hi, hzv, newVar, newRow]
 simp only [Region.lexTailB, Bool.and_eq_true, decide_eq_true_eq] at hB
 obtain ⟨⟨⟨⟨hsel, hn⟩, hsk⟩, hc⟩, hlex⟩ := hB
 have hsz : l.toArray.size = hd.length + 1 + tl.length := by rw [← hl]; simp; omega
 have inv0 : HeadInv .any l.toArray (hd.length + 1) (Array.replicate l.toArray.size false) :=
  ⟨by simp, fun j oj _ hl => (by rw [getD_replicate_false] at hl; cases hl), fun t _ ht => getD_in (by simpa using ht) (getD_replicate_false _ _)⟩
 have hw1 : Below w.heap.size w { w with drawn := w.drawn + 1 } := ⟨rfl, rfl, rfl, Nat.le_refl _, fun _ _ => rfl⟩
 let Lq : Act → Prop := fun a' => a'.defers = a.defers ∧ s1.objs = s.objs ∧ EnvRep w D (putA s1.env (some d) .und) a'.tmps
 have hwk : wpK P l.toArray w hd.length Lq (hd ++ [ok]) 0 a := wpK_of_qSteps hd 0 hx (by simp) hmem he (fun a' hd' ho he' => by
  refine ⟨undef, .inl ⟨rfl, rfl⟩, (put_defers _ _ _).trans hd', ho, ?_⟩
  rw [← hok]
  exact he'.put (some d) (by simp only [Slot, Val, Cell]; exact .und))
 have H := headK_lex (P := P) (md := .any) (g := tl.length) hsel hsk hc hn (hd ++ [ok]) 0 _ a (fun j hj => by
  have hj' : j < hd.length + 1 := by simpa using hj
  rw [← hl]
  simp only [Nat.zero_add, List.getElem?_toArray]
  rw [List.getElem?_append, List.getElem?_append]
  split
  ·rfl
  ·rename_i hge
   have : j - hd.length = 0 := by omega
   rw [this]; rfl) (by simp) inv0 (by rw [show l.toArray.size - (hd.length + 1) = tl.length by omega] at hlex; simpa using hlex) hwk
 refine ⟨fun h => by (cases h), fun _ => ?_⟩
 have fin := sim_head (P := P) (ops := l.toArray) (md := .any) (B := w) (k := hd.length) (n := hd.length + 1) (g := tl.length) (Q' := Nrm (SatQ w0 M0 D0 Q)) (ok := ok) (d := d) hokl (by rw [← hok]) (by rw [← hok]) hrun (Region.noSelect_spec hsel)
  (fun i o hin hik hio => by
   have := List.all_eq_true.1 hA i (List.mem_range.2 hin)
   simp only [hio, Bool.or_eq_true, beq_iff_eq, Bool.and_eq_true, Bool.not_eq_true'] at this
   rcases this with h | h
   ·exact absurd h hik
   ·exact ⟨by simpa using h.1, by simpa using h.2⟩)
  (fun listed a' a2 w2 hL inv hcome => by
   obtain ⟨hseq, hdef, hobj, he1⟩ := hL
   by_cases hkl : listed.getD hd.length false = true
   ·rw [if_pos hkl] at hcome
    obtain ⟨w1, hb1, hb2, rfl⟩ := hcome
    ·
     have hmem1 : Mem w0 M0 s1.objs D w1 := by rw [hobj]; exact hmem.ext (grow_of_below hb1) hb1.os hb1.tape hb1.output
     have hsat1 : Sat w0 M0 D0 ⟨putA s1.env (some d) .und, s1.objs⟩ a' w1 := ⟨hdef.trans hdf, D, hmem1, envRep_below he1 hb1 hmem.lt, by simp only [hobj]; exact hpin⟩
     have hx := hx1 w0 M0 D0 a' w1 hsat1
     have hsat2 : Sat w0 M0 D0 s2' (a'.put (some d) (.pointer (some ⟨w1.heap.size, 0, none⟩))) (w1.alloc (.cells zv.cells.toList.toArray T)) := by
      have hgw : Region.wanted ok (yielded l.toArray a'.tmps) = true := by rw [← hok]; simp [Region.wanted]
      simp only [wpList, hgw, if_true] at hx
      unfold Oper.wp at hx
      rw [hrun] at hx
      rw [← hok] at hx
      rcases hx with hx | ⟨_, hx⟩
      ·simpa [Oper.upon] using hx
      ·simp [LetsOut] at hx
     have hsat3 : Sat w0 M0 D0 s2' (a'.put (some d) (.pointer (some ⟨w1.heap.size, 0, none⟩))) w2 := by
      obtain ⟨q1, D2, q2, q3, q4⟩ := hsat2
      exact ⟨q1, D2, q2.ext (grow_of_below hb2) hb2.os hb2.tape hb2.output, envRep_below q3 hb2 q2.lt, q4⟩
     refine wpAny_of_seq tl (hd.length + 1) listed _ w2 (fun j => ?_) hseq (h w0 M0 D0 _ w2 hpp hsat3)
     rw [← hl]
     simp only [List.getElem?_toArray]
     rw [List.getElem?_append_right (by omega), show hd.length + 1 + j - hd.length = j + 1 by omega]
     rfl
   ·exfalso
    have hkf : listed.getD hd.length false = false := by simpa using hkl
    have hlt : hd.length < listed.size := by rw [inv.size, hsz]; omega
    have hnr := tail_waits hsk hc hn inv _ hd.length rfl (Nat.lt_succ_self _) (getD_in hlt hkf) (hd.length + 1) (Nat.le_refl _)
    have hpos : tl.length = (tl.length - 1) + 1 := by omega
    rw [hpos] at hseq
    simp only [Region.seqB, Bool.and_eq_true, decide_eq_true_eq] at hseq
    rw [hseq.1] at hnr
    exact hnr (by simp)) _ _ a a { w with drawn := w.drawn + 1 } H inv0 (by rw [if_neg (by rw [getD_replicate_false]; decide)]; exact ⟨rfl, hw1⟩)
 rw [show (hd ++ [ok]).length + tl.length = l.toArray.size by rw [hsz]; simp] at fin
 exact fin
end Go.Abs
namespace Go.Abs
open Go.RowKit Go.MapKept
variable {k kk : IntKind} {l : List (Int × Int)} {n : Nat} {w : World}
theorem done_wp {P : Program} {ops : Array Oper} {o : Oper} {s : St} {r : HR} (hg : guardOf ops s.env o = some true) {w0 : World} {M0 : Nat → Prop} {D0 : Names} {a : Act} (hs : Sat w0 M0 D0 s a w)
  (hdn : ∀ D, Mem w0 M0 s.objs D w → EnvRep w D s.env a.tmps → Done P w0 M0 a w D s.objs (execOp a.eval o) r)
  {rest : List Oper} {Q : Exit → Act → World → Prop} (hq : ∀ a' w', Sat w0 M0 D0 ⟨putA r.env o.dst r.x, r.objs⟩ a' w' → wpList P ops Q rest a' w') : wpList P ops Q (o :: rest) a w := by
 obtain ⟨hd, D, hm, he, hp⟩ := hs
 have hw := guardOf_sound he hg
 refine wpList_step fun K hK => ?_
 rw [if_pos hw]
 obtain ⟨v, w', D', h1, h2, h3, h4, h5⟩ := hdn D hm he
 unfold Oper.wp
 rcases h1 with h1 | ⟨h1, rfl⟩
 ·rw [h1]
  exact hK _ _ (hq _ _ ⟨by rw [put_defers]; exact hd, D', h3, h4.put _ h2, h5 D0 hp⟩)
 ·rw [h1]
  exact hK _ _ (hq _ _ ⟨by rw [put_defers]; exact hd, D', h3, h4.put _ h2, h5 D0 hp⟩)
theorem slot_map {D : Names} {f : Fn} {v : Value} (h : Slot w D (.wrp (some f, 1) [n]) v) : ∃ b, D n = some (some b) ∧ v = .map (some b) := by
 simp only [Slot, Val, Cell] at h
 obtain ⟨bs, h1, h2, h3⟩ := h
 match bs, h1 with
 | [b], _ => exact ⟨b, h2 0 n b rfl rfl, h3⟩
theorem slot_mk_map {D : Names} (f : Fn) {n b : Nat} (h : D n = some (some b)) : Slot w D (.wrp (some f, 1) [n]) (.map (some b)) := by
 simp only [Slot, Val, Cell]
 refine ⟨[b], rfl, fun i m c hm hc => ?_, rfl⟩
 cases i with
 | zero => simp only [List.getElem?_cons_zero, Option.some.injEq] at hm hc; subst hm; subst hc; exact h
 | succ i => simp at hm
def mFind : List (Int × Int) → Int → Nat → Option (Nat × Int)
 | [], _, _ => none
 | (a, b) :: l, n, i => if a == n then some (i, b) else mFind l n (i + 1)
abbrev EntRep (kk k : IntKind) (es : List MapEntry) (l : List (Int × Int)) : Prop := es.map (fun e => (e.key, e.val)) = l.map fun p => (Value.int kk p.1, Value.int k p.2)
theorem findNow_int (n : Int) : ∀ (es : List MapEntry) (l : List (Int × Int)) (i : Nat), EntRep kk k es l →
  Instr.findNow (.int kk) (.int kk n) es i = some ((mFind l n i).map fun p => (p.1, Value.int k p.2))
 | [], [], _, _ => rfl
 | e :: es, (a, b) :: l, i, h => by
  simp only [EntRep, List.map_cons, List.cons.injEq, Prod.mk.injEq] at h
  obtain ⟨⟨h1, h2⟩, h3⟩ := h
  have ih := findNow_int n es l (i + 1) h3
  simp only [Instr.findNow, h1, Instr.sameNow, if_true, mFind]
  by_cases hc : a = n
  ·subst hc; simp [h2]
  ·have h4 : (n == a) = false := by simp [Ne.symm hc]
   have h5 : (a == n) = false := by simp [hc]
   simp only [h4, h5, ih, Bool.false_eq_true, if_false]
 | [], _ :: _, _, h => by simp [EntRep] at h
 | _ :: _, [], _, h => by simp [EntRep] at h
theorem mGet_find : ∀ (l : List (Int × Int)) (n : Int) (i : Nat), mGet l n = ((mFind l n i).map (·.2)).getD 0
 | [], _, _ => rfl
 | (a, b) :: l, n, i => by
  simp only [mGet, mFind]
  split
  ·rfl
  ·exact mGet_find l n (i + 1)
theorem mFind_none : ∀ {l : List (Int × Int)} {n : Int} {i : Nat}, mFind l n i = none → ∀ v, mSet l n v = l ++ [(n, v)]
 | [], _, _, _, _ => rfl
 | (a, b) :: l, n, i, h, v => by
  simp only [mFind] at h
  split at h
  ·cases h
  ·rename_i hc
   simp only [mSet, hc, Bool.false_eq_true, if_false, mFind_none h v, List.cons_append]
theorem mFind_some : ∀ {l : List (Int × Int)} {n : Int} {i j : Nat} {b : Int}, mFind l n i = some (j, b) → ∃ q, j = i + q ∧ l[q]? = some (n, b) ∧ ∀ v, mSet l n v = l.set q (n, v)
 | [], _, _, _, _, h => by cases h
 | (a, c) :: l, n, i, j, b, h => by
  simp only [mFind] at h
  split at h
  ·rename_i hc
   simp only [Option.some.injEq, Prod.mk.injEq] at h
   obtain ⟨rfl, rfl⟩ := h
   have := beq_iff_eq.1 hc
   subst this
   exact ⟨0, rfl, rfl, fun v => by simp [mSet]⟩
  ·rename_i hc
   obtain ⟨q, h1, h2, h3⟩ := mFind_some h
   exact ⟨q + 1, by omega, by simpa using h2, fun v => by simp only [mSet, hc, Bool.false_eq_true, if_false, h3 v, List.set_cons_succ]⟩
theorem grow_setMap {r : Nat} {es es' : Array MapEntry} {c c' : Nat} (hb : w.heap[r]? = some (.map es c)) {M : Nat → Prop} (hM : M r) : Grow w { w with heap := w.heap.setIfInBounds r (.map es' c') } M where
 size := by simp
 same := fun b _ hn => (MapKept.heap_set hb).2 b fun e => hn (e ▸ hM)
 row := fun b _ => by
  by_cases h : b = r
  ·subst h
   have h1 := (MapKept.heap_set (o' := .map es' c') hb).1
   simp only [World.row, World.shape?, h1, hb]
  ·have h1 := (MapKept.heap_set (o' := .map es' c') hb).2 b h
   simp only [World.row, World.shape?, h1]
theorem mapOk_spec {P : Program} {T : TypeId} (h : mapOkB P T kk k = true) : ∃ K E i, P.underlying T = some (.map K E) ∧ P.underlying K = some (.int kk) ∧ P.info? E = some i ∧ i.zero = some (.int k 0) := by
 unfold mapOkB at h
 split at h
 case h_2 => cases h
 rename_i kk' E hT
 simp only [Bool.and_eq_true, decide_eq_true_eq] at h
 obtain ⟨rfl, h⟩ := h
 unfold mapT at hT
 split at hT
 case h_2 => cases hT
 rename_i K E' hu
 split at hT
 case h_2 => cases hT
 rename_i k2 hK
 simp only [Option.some.injEq, Prod.mk.injEq] at hT
 obtain ⟨rfl, rfl⟩ := hT
 split at h
 case h_2 => cases h
 rename_i i hi
 split at h
 case h_2 => cases h
 rename_i k' n hz
 simp only [Bool.and_eq_true, decide_eq_true_eq] at h
 obtain ⟨rfl, rfl⟩ := h
 exact ⟨K, E', i, hu, hK, hi, hz⟩
section
variable {P : Program} {w0 w : World} {M0 : Nat → Prop} {D : Names} {objs : List (Nat × Obj)} {env : List AV} {a : Act}
theorem d_makeMap (hm : Mem w0 M0 objs D w) (he : EnvRep w D env a.tmps) {d : Nat} (hd : look d objs = none) (hK : d < top) (f : Fn) (kk k : IntKind) (T : TypeId) {s : Sem Next} (hs : s.run P w = .ok (.value (.map (some w.heap.size))) (w.alloc (.map #[] 0))) :
  Done P w0 M0 a w D objs s ⟨.wrp (some f, 1) [d], env, (d, .mp kk k []) :: objs⟩ := by
 have hfr := hm.fresh hd hK
 refine ⟨_, _, D.ins d (some w.heap.size), .inl hs, slot_mk_map f (ins_self _ _ _), hm.alloc hd hK _ _ ⟨#[], 0, alloc_at _ _, rfl⟩, ins_env hm.lt hfr _ he, fun _ hp => hp.ins hfr _ _⟩
theorem d_lookup (hm : Mem w0 M0 objs D w) (he : EnvRep w D env a.tmps) {T : TypeId} (hT : mapOkB P T kk k = true) (hl : look n objs = some (.mp kk k l)) {f : Fn} {vm : Value}
  (hv : Slot w D (.wrp (some f, 1) [n]) vm) (i : Int) {s : Sem Next} (hs : s = (do let v ← Instr.lookup T vm (.int kk i) false; pure (.value v))) : Done P w0 M0 a w D objs s ⟨.int k (mGet l i), env, objs⟩ := by
 obtain ⟨b, hD, rfl⟩ := slot_map hv
 obtain ⟨es, clock, hb, hes⟩ := hm.rep n _ _ hl hD
 obtain ⟨K, E, inf, hu, hKu, hi, hz⟩ := mapOk_spec hT
 have hk : IsKey (.int kk) (.int kk i) := rfl
 have hf := findNow_int (k := k) i es.toList l 0 hes
 refine ⟨.int k (mGet l i), w, D, .inl ?_, slot_mk_int _ _, hm, he, fun _ hp => hp⟩
 subst hs
 rw [mGet_find l i 0]
 have hzr : (zeroValue E).run P w = .ok (.int k 0) w := by simp [zeroValue, typeInfo, hi, hz]
 cases hfd : mFind l i 0 with
 | none =>
  rw [hfd] at hf
  simp [Instr.lookup, run_underlying hu, MapKept.run_getObj_map hb, MapKept.run_checkKey hKu hk, MapKept.run_findKey hKu hf, hzr, Result.andThen]
 | some p =>
  rw [hfd] at hf
  simp [Instr.lookup, run_underlying hu, MapKept.run_getObj_map hb, MapKept.run_checkKey hKu hk, MapKept.run_findKey hKu hf, Result.andThen]
theorem d_mapUpdate (hm : Mem w0 M0 objs D w) (he : EnvRep w D env a.tmps) {T : TypeId} (hT : mapOkB P T kk k = true) (hl : look n objs = some (.mp kk k l)) {f : Fn} {vm : Value}
  (hv : Slot w D (.wrp (some f, 1) [n]) vm) (i x : Int) {s : Sem Next} (hs : s = (do Instr.mapUpdate T vm (.int kk i) (.int k x); pure .skip)) : Done P w0 M0 a w D objs s ⟨.und, env, upd n (.mp kk k (mSet l i x)) objs⟩ := by
 obtain ⟨b, hD, rfl⟩ := slot_map hv
 obtain ⟨es, clock, hb, hes⟩ := hm.rep n _ _ hl hD
 obtain ⟨K, E, inf, hu, hKu, hi, hz⟩ := mapOk_spec hT
 have hk : IsKey (.int kk) (.int kk i) := rfl
 have hf := findNow_int (k := k) i es.toList l 0 hes
 have fin : ∀ (es' : Array MapEntry) (c' : Nat), s.run P w = .ok .skip { w with heap := w.heap.setIfInBounds b (.map es' c') } → EntRep kk k es'.toList (mSet l i x) →
   Done P w0 M0 a w D objs s ⟨.und, env, upd n (.mp kk k (mSet l i x)) objs⟩ := by
  intro es' c' hrun hrep
  have kN : Grow w { w with heap := w.heap.setIfInBounds b (.map es' c') } D.N := grow_setMap hb ⟨n, hm.small n (by simp [hl]), hD⟩
  have kg : Grow w { w with heap := w.heap.setIfInBounds b (.map es' c') } D.M := kN.weaken (fun _ _ h => Names.N_M h)
  exact ⟨undef, _, D, .inr ⟨hrun, rfl⟩, by simp only [Slot, Val, Cell]; exact .und, hm.upd hl hD kN (fun c hc => (MapKept.heap_set hb).2 c hc) ⟨es', c', (MapKept.heap_set hb).1, hrep⟩ rfl rfl rfl, he.mono kg (fun _ _ h => h) hm.lt (fun _ _ h => h), fun _ hp => hp.upd hl (.inr (.inr ⟨_, _, _, rfl⟩))⟩
 subst hs
 cases hfd : mFind l i 0 with
 | none =>
  rw [hfd] at hf
  refine fin (es.push { key := .int kk i, val := .int k x, born := clock }) (clock + 1) ?_ ?_
  ·simp [Instr.mapUpdate, run_underlying hu, MapKept.run_getObj_map hb, MapKept.run_checkKey hKu hk, MapKept.run_findKey hKu hf, MapKept.run_setObj_map _ hb, Result.andThen]
  ·rw [mFind_none hfd x]
   simp only [EntRep, Array.toList_push, List.map_append, List.map_cons, List.map_nil]
   rw [show es.toList.map (fun e => (e.key, e.val)) = _ from hes]
 | some p =>
  obtain ⟨j, c⟩ := p
  rw [hfd] at hf
  obtain ⟨q, hq, hlq, hset⟩ := mFind_some hfd
  have hq : j = q := by omega
  subst hq
  have hej : ∃ e, es[j]? = some e ∧ e.key = .int kk i := by
   have h1 := congrArg (fun t => t[j]?) hes
   simp only [List.getElem?_map, hlq, Option.map_some] at h1
   cases he2 : es.toList[j]? with
   | none => rw [he2] at h1; simp at h1
   | some e =>
    rw [he2] at h1
    simp only [Option.map_some, Option.some.injEq, Prod.mk.injEq] at h1
    exact ⟨e, by simpa using he2, h1.1⟩
  obtain ⟨e, he3, hek⟩ := hej
  refine fin (es.modify j fun e => { e with key := .int kk i, val := .int k x }) clock ?_ ?_
  ·simp [Instr.mapUpdate, run_underlying hu, MapKept.run_getObj_map hb, MapKept.run_checkKey hKu hk, MapKept.run_findKey hKu hf, he3, hek, MapKept.run_keyThatStays hk, MapKept.run_setObj_map _ hb, Result.andThen]
  ·rw [hset x]
   simp only [EntRep]
   apply List.ext_getElem?
   intro m
   have h1 := congrArg (fun t => t[m]?) hes
   simp only [List.getElem?_map, Array.getElem?_toList] at h1
   simp only [List.getElem?_map, Array.getElem?_toList, Array.getElem?_modify, List.getElem?_set]
   by_cases hjm : j = m
   ·subst hjm
    have hlt : j < l.length := (List.getElem?_eq_some_iff.1 hlq).1
    simp [he3, hlt]
   ·simp only [hjm, if_false]; exact h1
end
theorem asM_spec {s : SS} {x : SV} (h : asM x = some n) : ∃ f, x.av s.objs = .wrp (some (Fn.func f), 1) [n] := by
 unfold asM at h
 split at h
 ·simp only [Option.some.injEq] at h; subst h; exact ⟨_, rfl⟩
 ·cases h
theorem asKI_spec {s : SS} {x : SV} {n : Int} (h : asKI x = some (k, n)) : x.av s.objs = .int k n := by
 unfold asKI at h
 split at h
 ·simp only [Option.some.injEq, Prod.mk.injEq] at h; obtain ⟨rfl, rfl⟩ := h; rfl
 ·cases h
theorem st_updM {N n : Nat} {s : SS} {l l' : List (Int × Int)} (ho : lookS n s.objs = some (.mp kk k l)) :
  (SS.st N ⟨s.env, updS n (.mp kk k l') s.objs⟩) = ⟨(s.st N).env, upd n (.mp kk k l') (s.st N).objs⟩ := by
 have key : ∀ x : CV, x.av (updS n (.mp kk k l') s.objs) = x.av s.objs := fun x => av_objs fun m _ => by
  by_cases h : n = m
  ·subst h; rw [lookS_upd _ (by rw [ho]; rfl), ho]
  ·rw [lookS_upd_ne _ h]
 have kv : ∀ x : VV, x.av (updS n (.mp kk k l') s.objs) = x.av s.objs := fun x => by
  cases x with
  | c x => exact key x
  | g l => simp only [VV.av]; congr 1; exact List.map_congr_left fun c _ => key c
 have ks : ∀ x : SV, x.av (updS n (.mp kk k l') s.objs) = x.av s.objs := fun x => by
  cases x with
  | v x => exact kv x
  | tup l => simp only [SV.av]; congr 1; exact List.map_congr_left fun c _ => kv c
 have ko : ∀ x : SO, x.av (updS n (.mp kk k l') s.objs) = x.av s.objs := fun x => by
  cases x with
  | box cs => simp only [SO.av]; congr 1; exact List.map_congr_left fun c _ => key c
  | arr ts l => rfl
  | mp _ _ _ => rfl
 have kos : ∀ q : SObjs, objsAV (updS n (.mp kk k l') s.objs) q = objsAV s.objs q := by
  intro q
  induction q with
  | nil => rfl
  | cons p r ih => obtain ⟨m, o⟩ := p; simp only [objsAV, ih, ko]
 simp only [SS.st]
 rw [kos, objsAV_upd]
 congr 1
 exact List.map_congr_left fun i _ => ks _
theorem sMp_wp {P : Program} {C : Cfg} (hG : Good P C.G) {ops : Array Oper} {o : Oper} {s s' : SS} {x : SV} (h : sMp C s o.dst o.op = some (x, s')) (hg : ∀ s1, keepsB s s1 → guardOf ops (s1.st C.N).env o = some true)
  {w0 : World} {M0 : Nat → Prop} {D0 : Names} {a : Act} {w : World} (hs : Sat w0 M0 D0 (s.st C.N) a w) {rest : List Oper} {Q : Exit → Act → World → Prop}
  (hq : ∀ a' w', Sat w0 M0 D0 ((s'.put o.dst x).st C.N) a' w' → wpList P ops Q rest a' w') : wpList P ops Q (o :: rest) a w := by
 unfold sMp at h
 split at h
 ·rename_i T d hop hdst
  split at h
  case isFalse => cases h
  rename_i hd
  split at h
  case h_2 => cases h
  rename_i s1 kk k h1 hT
  simp only [Option.some.injEq, Prod.mk.injEq] at h
  obtain ⟨rfl, rfl⟩ := h
  obtain ⟨a1, a2, a3⟩ := freshS_no (N := C.N) h1
  refine done_wp (hg s1 a2) (a1 _ _ _ _ _ hs) (fun D hm he => d_makeMap hm he (look_none a3.1) hd (.func 0) kk k T ?_) fun a' w' hs' => hq a' w' ?_
  ·simp only [execOp, hop, Option.map_none, Sem.run_bind, run_makeMap, Result.andThen_ok, Sem.run_pure]
  ·rw [hdst] at hs' ⊢
   rw [st_made a3]
   exact hs'
 ·rename_i T m i hop
  split at h
  case h_2 => cases h
  rename_i n k1 i' kk k hm' hi' hT
  split at h
  case h_2 => cases h
  rename_i kk' k' l hl
  split at h
  case isFalse => cases h
  rename_i hc
  obtain ⟨rfl, rfl, rfl⟩ := hc
  simp only [Option.some.injEq, Prod.mk.injEq] at h
  obtain ⟨rfl, rfl⟩ := h
  obtain ⟨f, hmv⟩ := asM_spec (s := s) hm'
  have hiv := asKI_spec (s := s) hi'
  rw [sev_av] at hmv hiv
  refine done_wp (r := ⟨.int k' (mpGet l i'), (s.st C.N).env, (s.st C.N).objs⟩) (hg s (.rfl' _)) hs (fun D hm he => ?_) fun a' w' hs' => hq a' w' (by rw [put_st]; exact hs')
  have e1 := ev_sound (a := a) hm.glob he m
  have e2 := ev_sound (a := a) hm.glob he i
  rw [hmv] at e1
  rw [hiv] at e2
  refine d_lookup hm he (hG T _ hT).1 (n := n) (l := l) ?_ e1 i' ?_
  ·show look n (objsAV s.objs s.objs) = _
   rw [lookS_av, hl]; rfl
  ·simp only [execOp, hop, slot_int e2]
 ·rename_i T m i x' hop hdst
  split at h
  case h_2 => cases h
  rename_i n k1 i' k2 v kk k hm' hi' hx' hT
  split at h
  case h_2 => cases h
  rename_i kk' k' l hl
  split at h
  case isFalse => cases h
  rename_i hc
  obtain ⟨rfl, rfl, rfl, rfl⟩ := hc
  simp only [Option.some.injEq, Prod.mk.injEq] at h
  obtain ⟨rfl, rfl⟩ := h
  obtain ⟨f, hmv⟩ := asM_spec (s := s) hm'
  have hiv := asKI_spec (s := s) hi'
  have hxv := asKI_spec (s := s) hx'
  rw [sev_av] at hmv hiv hxv
  refine done_wp (r := ⟨.und, (s.st C.N).env, upd n (.mp kk' k' (mpSet l i' v)) (s.st C.N).objs⟩) (hg s (.rfl' _)) hs (fun D hm he => ?_) fun a' w' hs' => hq a' w' (by rw [put_st, st_updM hl]; rw [hdst] at hs' ⊢; exact hs')
  have e1 := ev_sound (a := a) hm.glob he m
  have e2 := ev_sound (a := a) hm.glob he i
  have e3 := ev_sound (a := a) hm.glob he x'
  rw [hmv] at e1
  rw [hiv] at e2
  rw [hxv] at e3
  refine d_mapUpdate hm he (hG T _ hT).1 (n := n) (l := l) ?_ e1 i' v ?_
  ·show look n (objsAV s.objs s.objs) = _
   rw [lookS_av, hl]; rfl
  ·simp only [execOp, hop, slot_int e2, slot_int e3]
 ·cases h
end Go.Abs
namespace Go.Abs
open Go.RowKit
variable {ops : Array Oper} {FT : List (Nat × Entry)} {P : Program} {o : Oper} {C : Cfg} {s : SS} {D : Names} {w : World} {R : Type}
theorem noT_ok : Sound P noT := noT_sound
theorem xOp_r {Φ : Table} {s : St} {x : AV} (hg : guardOf ops s.env o = some true) (hf : isFun o.op = false) (h : rOp P s.env s.objs o.op = some x) :
  xOp P Φ ops o s = some ⟨putA s.env o.dst x, s.objs⟩ := by
 simp only [xOp, hg]
 cases hop : o.op with
 | call c =>
  obtain ⟨callee, args, tys⟩ := c
  rw [hop] at hf h
  cases callee with
  | value x => cases x with
   | func f => simp [isFun] at hf
   | _ => simp only [h]
  | _ => simp only [h]
 | _ => rw [hop] at h; simp only [h]
theorem xOp_h {Φ : Table} {s : St} {r : HR} (hg : guardOf ops s.env o = some true) (hf : isFun o.op = false) (h0 : rOp P s.env s.objs o.op = none) (h : hOp P s.env s.objs o.dst o.op = some r) :
  xOp P Φ ops o s = some ⟨putA r.env o.dst r.x, r.objs⟩ := by
 simp only [xOp, hg]
 cases hop : o.op with
 | call c =>
  obtain ⟨callee, args, tys⟩ := c
  rw [hop] at hf h0 h
  cases callee with
  | value x => cases x with
   | func f => simp [isFun] at hf
   | _ => simp only [h0, h, Option.map_some]
  | _ => simp only [h0, h, Option.map_some]
 | _ => rw [hop] at h0 h; simp only [h0, h, Option.map_some]
theorem qOp_r {Φ : Table} {s : St} {x : AV} (hg : guardOf ops s.env o = some true) (hf : isFun o.op = false) (h : rOp P s.env s.objs o.op = some x) :
  qOp1 P Φ ops o s = some ⟨putA s.env o.dst x, s.objs⟩ := by
 simp only [qOp1, hg]
 cases hop : o.op with
 | call c =>
  obtain ⟨callee, args, tys⟩ := c
  rw [hop] at hf h
  cases callee with
  | value x => cases x with
   | func f => simp [isFun] at hf
   | _ => simp only [h, Option.map_some]
  | _ => simp only [h, Option.map_some]
 | _ => rw [hop] at h; simp only [h, Option.map_some]
theorem sOp0_wp (hG : Good P C.G) (hFT : FTok P FT) {K : SS → Option R} {r : R}
  (h : sOp0 C FT false s o.dst o.op K = some r) (hg : ∀ s1, keepsB s s1 → guardOf ops (s1.st C.N).env o = some true) {w0 : World} {M0 : Nat → Prop} {D0 : Names} {a : Act} {w : World} (hs : Sat w0 M0 D0 (s.st C.N) a w)
  {rest : List Oper} {Q : Exit → Act → World → Prop} (hq : ∀ s' a' w', K s' = some r → Sat w0 M0 D0 (s'.st C.N) a' w' → wpList P ops Q rest a' w') : wpList P ops Q (o :: rest) a w := by
 unfold sOp0 at h
 split at h
 ·rename_i f args tys hop
  obtain ⟨s1, f', Φ, hr, a1, a2, a3, a4, a5, a6⟩ := sCall_sound hFT h
  have hx : xOp P Φ ops o (s1.st C.N) = some ⟨putA hr.env o.dst hr.x, hr.objs⟩ := by
   simp only [xOp, hg s1 a2, hop, a4, Option.map_some]
  exact xOp_sound a3 hx (a1 _ _ _ _ _ hs) fun a' w' hs' => hq f' a' w' a6 (by rw [← a5]; exact hs')
 ·rename_i c x y hop
  split at h
  ·rename_i t ht
   have hev := asK_ev ht
   simp only [br] at h
   have hx : xOp P noT ops o (s.st C.N) = some ⟨putA (s.st C.N).env o.dst (if t = true then ev (s.st C.N).env x else ev (s.st C.N).env y), (s.st C.N).objs⟩ :=
    xOp_r (hg s (.rfl' _)) (by rw [hop]; rfl) (by rw [hop]; simp only [rOp, hev, KV.av])
   split at h
   ·rename_i ht'
    rw [if_pos ht'] at hx
    exact xOp_sound noT_ok hx hs fun a' w' hs' => hq _ a' w' h (by rw [put_st, sev_av]; exact hs')
   ·rename_i ht'
    rw [if_neg ht'] at hx
    exact xOp_sound noT_ok hx hs fun a' w' hs' => hq _ a' w' h (by rw [put_st, sev_av]; exact hs')
  ·cases h
 ·rename_i hn1 hn2
  have hf : isFun o.op = false := by
   cases hop : o.op with
   | call c =>
    obtain ⟨callee, args, tys⟩ := c
    cases callee with
    | value x => cases x with
     | func f => exact absurd hop (hn1 _ _ _)
     | _ => rfl
    | _ => rfl
   | _ => rfl
  split at h
  ·rename_i c x hr
   obtain ⟨hc, hK⟩ := need_some h
   have hx : xOp P noT ops o (s.st C.N) = some ⟨putA (s.st C.N).env o.dst (x.av s.objs), (s.st C.N).objs⟩ := xOp_r (hg s (.rfl' _)) hf (sR_sound hG hr hc)
   exact xOp_sound noT_ok hx hs fun a' w' hs' => hq _ a' w' hK (by rw [put_st]; exact hs')
  ·simp only [Bool.false_eq_true, if_false] at h
   split at h
   ·rename_i c x s' hr
    obtain ⟨hc, hK⟩ := need_some h
    obtain ⟨s1, hr, b1, b2, b3, b4, b5, b6⟩ := sH_sound hG hr hc
    exact xOp_sound noT_ok (xOp_h (hg s1 b2) b3 b4 b5) (b1 _ _ _ _ _ hs) fun a' w' hs' => hq _ a' w' hK (b6 _ _ _ _ _ hs')
   ·cases h
theorem sOp_wp (hG : Good P C.G) (hFT : FTok P FT) {K : SS → Option R} {r : R}
  (h : sOp C FT false s o.dst o.op K = some r) (hg : ∀ s1, keepsB s s1 → guardOf ops (s1.st C.N).env o = some true) {w0 : World} {M0 : Nat → Prop} {D0 : Names} {a : Act} {w : World} (hs : Sat w0 M0 D0 (s.st C.N) a w)
  {rest : List Oper} {Q : Exit → Act → World → Prop} (hq : ∀ s' a' w', K s' = some r → Sat w0 M0 D0 (s'.st C.N) a' w' → wpList P ops Q rest a' w') : wpList P ops Q (o :: rest) a w := by
 unfold sOp at h
 simp only at h
 split at h
 ·obtain ⟨s2, h1, h2, h3⟩ := trimB_sound _ h
  exact sOp0_wp hG hFT h1 (fun s1 hk => hg s1 (h3.trans hk)) (h2 _ _ _ _ _ hs) hq
 ·exact sOp0_wp hG hFT h hg hs hq
theorem sOp_q (hG : Good P C.G) (hFT : FTok P FT) {K : SS → Option R} {r : R}
  (h : sOp C FT true s o.dst o.op K = some r) (hg : guardOf ops (s.st C.N).env o = some true) : ∃ f' Φ, Sound P Φ ∧ qOp1 P Φ ops o (s.st C.N) = some (f'.st C.N) ∧ K f' = some r := by
 have h : sOp0 C FT true s o.dst o.op K = some r := h
 unfold sOp0 at h
 split at h
 ·rename_i f args tys hop
  obtain ⟨f', Φ, hr, a3, a4, a5, a6⟩ := sCall_quiet hFT h
  refine ⟨f', Φ, a3, ?_, a6⟩
  simp only [qOp1, hg, hop, a4, Option.map_some, a5]
 ·rename_i c x y hop
  split at h
  ·rename_i t ht
   have hev := asK_ev ht
   simp only [br] at h
   have hx : qOp1 P noT ops o (s.st C.N) = some ⟨putA (s.st C.N).env o.dst (if t = true then ev (s.st C.N).env x else ev (s.st C.N).env y), (s.st C.N).objs⟩ :=
    qOp_r hg (by rw [hop]; rfl) (by rw [hop]; simp only [rOp, hev, KV.av])
   split at h
   ·rename_i ht'
    rw [if_pos ht'] at hx
    exact ⟨_, noT, noT_ok, by rw [hx, put_st, sev_av], h⟩
   ·rename_i ht'
    rw [if_neg ht'] at hx
    exact ⟨_, noT, noT_ok, by rw [hx, put_st, sev_av], h⟩
  ·cases h
 ·rename_i hn1 hn2
  have hf : isFun o.op = false := by
   cases hop : o.op with
   | call c =>
    obtain ⟨callee, args, tys⟩ := c
    cases callee with
    | value x => cases x with
     | func f => exact absurd hop (hn1 _ _ _)
     | _ => rfl
    | _ => rfl
   | _ => rfl
  split at h
  ·rename_i c x hr
   obtain ⟨hc, hK⟩ := need_some h
   exact ⟨_, noT, noT_ok, by rw [qOp_r hg hf (sR_sound hG hr hc), put_st], hK⟩
  ·cases h
theorem dstOf_eq : ∀ (l : List Oper) (j : Nat), (l[j]?).bind (·.dst) = dstOf l j
 | [], j => by simp [dstOf]
 | o :: _, 0 => rfl
 | _ :: l, j + 1 => by simpa [dstOf] using dstOf_eq l j
theorem st_same {N t : Nat} {x : SV} (h : s.get N t = x) (hx : x ≠ .any) : SS.st N ⟨(t, x) :: s.env, s.objs⟩ = s.st N ∧ lkE s.env t = x ∧ t < N := by
 unfold SS.get at h
 split at h
 ·rename_i hlt
  refine ⟨?_, h, hlt⟩
  simp only [SS.st]
  congr 1
  apply List.map_congr_left
  intro i _
  by_cases e : t = i
  ·subst e; simp [lkE, h]
  ·simp [lkE, e]
 ·exact absurd h.symm hx
theorem guard_none {env : List AV} (h : o.guard = none) : guardOf ops env o = some true := by simp [guardOf, h]
theorem guard_bool {j t : Nat} {want b : Bool} (h : o.guard = some (j, want)) (hd : dstOf ops.toList j = some t) (ht : t < C.N) (hl : lkE s.env t = SV.bool b) :
  guardOf ops (s.st C.N).env o = some (b == want) := by
 have e : (ops[j]?).bind (·.dst) = some t := by
  rw [← hd, ← dstOf_eq]
  simp
 have e2 : (s.st C.N).env.getD t .any = .bool b := by
  rw [st_get]; simp [SS.get, ht, hl]; rfl
 simp only [guardOf, h, e, e2]
theorem guard_und {j t : Nat} {want : Bool} (h : o.guard = some (j, want)) (hd : dstOf ops.toList j = some t) (hl : s.get C.N t = .v (.c .und)) :
  guardOf ops (s.st C.N).env o = some false := by
 have e : (ops[j]?).bind (·.dst) = some t := by
  rw [← hd, ← dstOf_eq]
  simp
 have e2 : (s.st C.N).env.getD t .any = .und := by
  rw [st_get, hl]; rfl
 simp only [guardOf, h, e, e2]
theorem xOp_skip {s : St} (h : guardOf ops s.env o = some false) : xOp P noT ops o s = some ⟨putA s.env o.dst .und, s.objs⟩ := by simp only [xOp, h]
theorem qOp_skip {s : St} (h : guardOf ops s.env o = some false) : qOp1 P noT ops o s = some ⟨putA s.env o.dst .und, s.objs⟩ := by simp only [qOp1, h]
theorem sGo_cons {q : Bool} {l : List Oper} {K : SS → Option R} {r : R} (h : sGo C FT q ops.toList (o :: l) s K = some r) :
  ∃ s', s'.st C.N = s.st C.N ∧ ((sOp C FT q s' o.dst o.op (fun s => sGo C FT q ops.toList l s K) = some r ∧ ∀ s1, keepsB s' s1 → guardOf ops (s1.st C.N).env o = some true) ∨
   (sGo C FT q ops.toList l (s'.put o.dst .und) K = some r ∧ guardOf ops (s.st C.N).env o = some false)) := by
 unfold sGo at h
 split at h
 ·rename_i hgd
  exact ⟨s, rfl, .inl ⟨h, fun s1 _ => guard_none hgd⟩⟩
 ·rename_i j want hgd
  split at h
  ·cases h
  ·rename_i t ht
   split at h
   ·rename_i b hb
    obtain ⟨e1, e2, e3⟩ := st_same (x := .v (.c (.k (.bool b)))) hb (by simp [SV.any])
    have hl1 : ∀ c, lkE (((t, SV.bool c) :: s.env) : List (Nat × SV)) t = SV.bool c := fun c => by simp [lkE]
    simp only [br] at h
    split at h
    ·rename_i hbt
     subst hbt
     split at h
     ·refine ⟨_, e1, .inl ⟨h, fun s1 hk => ?_⟩⟩
      exact guard_bool hgd ht e3 (hk t true (hl1 true))
     ·refine ⟨_, e1, .inr ⟨h, ?_⟩⟩
      exact guard_bool hgd ht e3 e2
    ·rename_i hbt
     have hbt : b = false := by simpa using hbt
     subst hbt
     split at h
     ·refine ⟨_, e1, .inl ⟨h, fun s1 hk => ?_⟩⟩
      exact guard_bool hgd ht e3 (hk t false (hl1 false))
     ·refine ⟨_, e1, .inr ⟨h, ?_⟩⟩
      exact guard_bool hgd ht e3 e2
   ·rename_i hb
    exact ⟨s, rfl, .inr ⟨h, guard_und hgd ht hb⟩⟩
   ·cases h
theorem sGo_q (hG : Good P C.G) (hFT : FTok P FT) {K : SS → Option R} {r : R} :
  ∀ (l : List Oper) {s : SS}, sGo C FT true ops.toList l s K = some r → ∃ s', qSteps P ops l (s.st C.N) (s'.st C.N) ∧ K s' = some r
 | [], s, h => ⟨s, rfl, h⟩
 | o :: l, s, h => by
  obtain ⟨s', e, h⟩ := sGo_cons h
  rcases h with ⟨h, hg⟩ | ⟨h, hg⟩
  ·obtain ⟨f', Φ, h1, h2, h3⟩ := sOp_q (ops := ops) hG hFT h (hg s' (.rfl' _))
   obtain ⟨s2, h4, h5⟩ := sGo_q hG hFT l h3
   exact ⟨s2, ⟨_, Φ, h1, by rw [← e]; exact h2, h4⟩, h5⟩
  ·rw [← e] at hg
   obtain ⟨s2, h4, h5⟩ := sGo_q hG hFT l h
   refine ⟨s2, ⟨_, noT, noT_ok, by rw [← e]; exact qOp_skip hg, ?_⟩, h5⟩
   rw [put_st] at h4; exact h4
def MtOk (P : Program) (M : MTab) : Prop := ∀ t name f r, lkM M t name = some (f, r) → match r with
 | none => ∀ b w, (method (P.types.size + Made.depth) t (.pointer (some ⟨b, 0, none⟩)) name).run P w = .ok (f, .pointer (some ⟨b, 0, none⟩)) w
 | some D => ∃ e, cellTy P e = some D ∧ ∀ b w v, (loadVar e ⟨b, 0, none⟩).run P w = .ok v w → (method (P.types.size + Made.depth) t (.pointer (some ⟨b, 0, none⟩)) name).run P w = .ok (f, v) w
def SlotsRep (w : World) (D : Names) (O : SObjs) (xs : List SV) (vs : List Value) : Prop := vs.length = xs.length ∧ ∀ (i : Nat) (x : SV), xs[i]? = some x → Slot w D (x.av O) (vs.getD i undef)
def JOk {R : Type} (P : Program) (pins : List Nat) (J : JT R) : Prop :=
 ∀ (C : Cfg) (f : FuncId) (xs : List SV) (gap : Nat) (ht : HT) (s : SS) (K : SV → SS → Option R) (r : R), Good P C.G → MtOk P C.M → J C f xs gap ht s K = some r →
  funOk P f = true ∧ ∀ (w0 : World) (M0 : Nat → Prop) (D0 D : Names) (a : Act) (w : World) (vs : List Value), PinsOk pins D0 → Mem w0 M0 (s.st C.N).objs D w → EnvRep w D (s.st C.N).env a.tmps → Pin D0 D (s.st C.N).objs → SlotsRep w D s.objs xs vs →
   Calls P f vs.toArray w fun e w' => ∃ v x s' D', e = .returned v ∧ K x s' = some r ∧ Mem w0 M0 (s'.st C.N).objs D' w' ∧ EnvRep w' D' (s'.st C.N).env a.tmps ∧ Pin D0 D' (s'.st C.N).objs ∧ Slot w' D' (x.av s'.objs) v
theorem slots_map {a : Act} (hg : GlobRep w D.M) (he : EnvRep w D (s.st C.N).env a.tmps) (xs : List Operand) : SlotsRep w D s.objs (xs.map (sev C s)) (xs.map a.eval) := by
 refine ⟨by simp, fun i x hx => ?_⟩
 rw [List.getElem?_map] at hx
 obtain ⟨o, ho, rfl⟩ := Option.map_eq_some_iff.1 hx
 have e : (xs.map a.eval).getD i undef = a.eval o := by simp [List.getD, List.getElem?_map, ho]
 rw [e, sev_av]
 exact ev_sound hg he o
theorem SlotsRep.append {O : SObjs} {xs ys : List SV} {us vs : List Value} (h : SlotsRep w D O xs us) (k : SlotsRep w D O ys vs) : SlotsRep w D O (xs ++ ys) (us ++ vs) := by
 refine ⟨by simp [h.1, k.1], fun i x hx => ?_⟩
 rw [List.getElem?_append] at hx
 split at hx
 ·rename_i hi
  have := h.2 i x hx
  have hi' : i < us.length := by rw [h.1]; exact hi
  simpa [List.getD, List.getElem?_append, hi'] using this
 ·rename_i hi
  have := k.2 _ x hx
  have hi' : ¬ i < us.length := by rw [h.1]; exact hi
  rw [← h.1] at this
  simpa [List.getD, List.getElem?_append, hi'] using this
theorem SlotsRep.cons {O : SObjs} {x : SV} {ys : List SV} {u : Value} {vs : List Value} (h : Slot w D (x.av O) u) (k : SlotsRep w D O ys vs) : SlotsRep w D O (x :: ys) (u :: vs) :=
 SlotsRep.append (xs := [x]) (us := [u]) ⟨rfl, fun i y hy => by
  cases i with
  | zero => simp only [List.getElem?_cons_zero, Option.some.injEq] at hy; subst hy; exact h
  | succ i => simp at hy⟩ k
theorem slots_cap {O : SObjs} : ∀ {ns : List (Nat × Nat)} {bs : List Nat}, bs.length = ns.length → (∀ (i : Nat) (n b : Nat), (ns.map (·.1))[i]? = some n → bs[i]? = some b → D n = some (some b)) →
  SlotsRep w D O (capS ns) (bs.map fun b => Value.pointer (some ⟨b, 0, none⟩))
 | [], [], _, _ => ⟨rfl, fun i x hx => by simp [capS] at hx⟩
 | (n, sz) :: ns, b :: bs, hl, h => by
  refine SlotsRep.cons ?_ (slots_cap (by simpa using hl) fun i m c hm hc => h (i + 1) m c (by simpa using hm) (by simpa using hc))
  simp only [SV.av, VV.av, CV.av, Slot, Val, Cell]
  exact ⟨b, h 0 n b rfl rfl, by simp⟩
 | [], _ :: _, hl, _ => by simp at hl
 | _ :: _, [], hl, _ => by simp at hl
theorem run_callFunc {f : FuncId} (hf : funOk P f = true) (vs : Array Value) (w : World) : (callFunc f vs).run P w = .ok (.enter f vs) w := by
 unfold funOk at hf
 split at hf
 ·rename_i fn hfn
  simp only [Bool.and_eq_true, Bool.not_eq_true'] at hf
  have hb : fn.body.isNone = false := by cases hh : fn.body <;> simp [hh] at hf ⊢
  simp only [callFunc, Sem.run_bind, run_program, Result.andThen_ok, hfn, hf.1, hb, Bool.false_eq_true, if_false]
  simp
 ·cases hf
theorem resolveS_sound (hM : MtOk P C.M) {c : Call} {ty : TypeId} {f : FuncId} {xs : List SV} (h : resolveS C s c = some (f, xs)) (hf : funOk P f = true) {w0 w : World} {M0 : Nat → Prop} {a : Act}
  (hm : Mem w0 M0 (s.st C.N).objs D w) (he : EnvRep w D (s.st C.N).env a.tmps) : ∃ vs, SlotsRep w D s.objs xs vs ∧ (do let d ← resolve a.eval c ty; invoke d.target d.args : Sem Next).run P w = .ok (.enter f vs.toArray) w := by
 obtain ⟨callee, args, tys⟩ := c
 have hargs := slots_map hm.glob he args.toList
 have earr : (args.toList.map a.eval).toArray = args.map a.eval := by apply Array.ext'; simp
 cases callee with
 | builtin b => simp [resolveS] at h
 | value x =>
  have hx := ev_sound hm.glob he x
  rw [← sev_av] at hx
  simp only [resolveS] at h
  split at h
  ·rename_i g e
   simp only [Option.some.injEq, Prod.mk.injEq] at h; obtain ⟨rfl, rfl⟩ := h
   rw [e] at hx
   simp only [SV.av, VV.av, CV.av, KC.val, Slot, Val, Cell] at hx
   have hv : a.eval x = .func (.func g) #[] #[] := by
    generalize a.eval x = y at hx
    cases hx; rfl
   refine ⟨_, hargs, ?_⟩
   rw [earr]
   simp only [resolve, hv, Deferred.ofValue, Sem.run_bind, Sem.run_pure, Result.andThen_ok, invoke]
   simpa using run_callFunc hf (args.map a.eval) w
  ·rename_i g t ns e
   simp only [Option.some.injEq, Prod.mk.injEq] at h; obtain ⟨rfl, rfl⟩ := h
   rw [e] at hx
   simp only [SV.av, VV.av, CV.av, Slot, Val, Cell, Option.map_some] at hx
   obtain ⟨bs, g1, g2, hv⟩ := hx
   refine ⟨_, hargs.append (slots_cap (by simpa using g1) g2), ?_⟩
   simp only [resolve, hv, Deferred.ofValue, Sem.run_bind, Sem.run_pure, Result.andThen_ok, invoke]
   have : (args.toList.map a.eval ++ bs.map fun b => Value.pointer (some ⟨b, 0, none⟩)).toArray = #[] ++ args.map a.eval ++ (bs.map fun b => Value.pointer (some ⟨b, 0, none⟩)).toArray := by
    apply Array.ext'; simp
   rw [this]
   exact run_callFunc hf _ w
  ·cases h
 | invoke x name =>
  have hx := ev_sound hm.glob he x
  rw [← sev_av] at hx
  simp only [resolveS] at h
  split at h
  case h_2 => cases h
  rename_i t n sz e
  rw [e] at hx
  simp only [SV.av, VV.av, CV.av, Slot, Val, Cell, Option.map_none, List.map_cons, List.map_nil] at hx
  obtain ⟨bs, g1, g2, hv⟩ := hx
  match bs, g1 with
  | [b], _ =>
   have hD := g2 0 n b rfl rfl
   simp only [List.headD_cons] at hv
   have run : ∀ v, (method (P.types.size + Made.depth) t (.pointer (some ⟨b, 0, none⟩)) name).run P w = .ok (f, v) w →
     (do let d ← resolve a.eval ⟨.invoke x name, args, tys⟩ ty; invoke d.target d.args : Sem Next).run P w = .ok (.enter f (v :: args.toList.map a.eval).toArray) w := by
    intro v hr
    have e2 : (#[Value.iface t (.pointer (some ⟨b, 0, none⟩))] ++ args.map a.eval).extract 1 (#[Value.iface t (.pointer (some ⟨b, 0, none⟩))] ++ args.map a.eval).size = args.map a.eval := by
     apply Array.ext'
     simp
     exact List.take_of_length_le (by simp)
    have e0 : (#[Value.iface t (.pointer (some ⟨b, 0, none⟩))] ++ args.map a.eval)[0]? = some (.iface t (.pointer (some ⟨b, 0, none⟩))) := by
     rw [Array.getElem?_append_left (by simp)]; rfl
    simp only [resolve, hv, Sem.run_bind, Sem.run_pure, Result.andThen_ok, invoke, e0, e2, callMethod, run_program, hr]
    have e3 : (v :: args.toList.map a.eval).toArray = #[v] ++ args.map a.eval := by apply Array.ext'; simp
    rw [e3]
    exact run_callFunc hf _ w
   split at h
   ·rename_i g hg
    simp only [Option.some.injEq, Prod.mk.injEq] at h; obtain ⟨rfl, rfl⟩ := h
    refine ⟨_, SlotsRep.cons ?_ hargs, run _ (hM _ _ _ _ hg b w)⟩
    simp only [SV.av, VV.av, CV.av, Slot, Val, Cell]
    exact ⟨b, hD, by simp⟩
   ·rename_i g Dc hg
    split at h
    ·rename_i cs hcs
     split at h
     ·rename_i v hld
      simp only [Option.some.injEq, Prod.mk.injEq] at h; obtain ⟨rfl, rfl⟩ := h
      obtain ⟨e', hT, hrun⟩ := hM _ _ _ _ hg
      have h1 := sCells_av hcs trivial
      obtain ⟨u, k1, k2⟩ := (row_obj hm h1 hD).load (P := P) hT (ldC_av hld)
      have k3 := k2 w (Below.refl _ _)
      simp only [Nat.zero_mul, Nat.zero_add] at k3
      exact ⟨_, SlotsRep.cons k1 hargs, run u (hrun b w u k3)⟩
     ·cases h
    ·cases h
   ·cases h
section
variable {P : Program} {pins : List Nat} {R : Type} {J : JT R} {L : Hint}
theorem sOpJ_wp (hG : Good P C.G) (hM : MtOk P C.M) (hFT : FTok P FT) (hJ : JOk P pins J) {K : SS → Option R} {r : R}
  (h : sOpJ J L C FT s o.dst o.op K = some r) (hg : ∀ s1, keepsB s s1 → guardOf ops (s1.st C.N).env o = some true) {w0 : World} {M0 : Nat → Prop} {D0 : Names} {a : Act} {w : World} (hp : PinsOk pins D0) (hs : Sat w0 M0 D0 (s.st C.N) a w)
  {rest : List Oper} {Q : Exit → Act → World → Prop} (hq : ∀ s' a' w', K s' = some r → Sat w0 M0 D0 (s'.st C.N) a' w' → wpList P ops Q rest a' w') : wpList P ops Q (o :: rest) a w := by
 unfold sOpJ at h
 split at h
 ·rename_i c hop
  split at h
  ·rename_i gap ht hl
   split at h
   ·rename_i f xs hr
    obtain ⟨hf, hJ⟩ := hJ _ _ _ _ _ _ _ _ hG hM h
    obtain ⟨hd, D, hm, he, hpin⟩ := hs
    have hgd := guardOf_sound he (hg s (.rfl' _))
    obtain ⟨vs, hvs, hrun⟩ := resolveS_sound (ty := o.type) hM hr hf hm he
    have hcall := hJ w0 M0 D0 D a w vs hp hm he hpin hvs
    refine wpList_step fun K' hK => ?_
    rw [if_pos hgd]
    unfold Oper.wp
    have hex : execOp a.eval o = (do let d ← resolve a.eval c o.type; invoke d.target d.args : Sem Next) := by
     simp only [execOp, hop]
    rw [hex, hrun, Oper.upon_enter]
    refine hcall.mono fun e w' hpost => ?_
    obtain ⟨v, x, s', D', rfl, k1, k2, k3, k4, k5⟩ := hpost
    refine hK _ _ (hq _ _ _ k1 ?_)
    rw [put_st]
    exact ⟨by rw [put_defers]; exact hd, D', k2, k3.put _ k5, k4⟩
   ·cases h
  ·rename_i hop2
   exact sOp_wp hG hFT (by rw [hop]; exact h) hg hs hq
 ·split at h
  ·rename_i x s' hmp
   exact sMp_wp hG hmp hg hs fun a' w' hs' => hq _ a' w' h hs'
  ·exact sOp_wp hG hFT h hg hs hq
theorem sGoJ_cons {l : List Oper} {K : SS → Option R} {r : R} (h : sGoJ J L C FT ops.toList (o :: l) s K = some r) :
  ∃ s', s'.st C.N = s.st C.N ∧ ((sOpJ J L C FT s' o.dst o.op (fun s => sGoJ J L C FT ops.toList l s K) = some r ∧ ∀ s1, keepsB s' s1 → guardOf ops (s1.st C.N).env o = some true) ∨
   (sGoJ J L C FT ops.toList l (s'.put o.dst .und) K = some r ∧ guardOf ops (s.st C.N).env o = some false)) := by
 unfold sGoJ at h
 split at h
 ·rename_i hgd
  exact ⟨s, rfl, .inl ⟨h, fun s1 _ => guard_none hgd⟩⟩
 ·rename_i j want hgd
  split at h
  ·cases h
  ·rename_i t ht
   split at h
   ·rename_i b hb
    obtain ⟨e1, e2, e3⟩ := st_same (x := .v (.c (.k (.bool b)))) hb (by simp [SV.any])
    have hl1 : ∀ c, lkE (((t, SV.bool c) :: s.env) : List (Nat × SV)) t = SV.bool c := fun c => by simp [lkE]
    simp only [br] at h
    split at h
    ·rename_i hbt
     subst hbt
     split at h
     ·refine ⟨_, e1, .inl ⟨h, fun s1 hk => ?_⟩⟩
      exact guard_bool hgd ht e3 (hk t true (hl1 true))
     ·refine ⟨_, e1, .inr ⟨h, ?_⟩⟩
      exact guard_bool hgd ht e3 e2
    ·rename_i hbt
     have hbt : b = false := by simpa using hbt
     subst hbt
     split at h
     ·refine ⟨_, e1, .inl ⟨h, fun s1 hk => ?_⟩⟩
      exact guard_bool hgd ht e3 (hk t false (hl1 false))
     ·refine ⟨_, e1, .inr ⟨h, ?_⟩⟩
      exact guard_bool hgd ht e3 e2
   ·rename_i hb
    exact ⟨s, rfl, .inr ⟨h, guard_und hgd ht hb⟩⟩
   ·cases h
theorem sGoJ_wp (hG : Good P C.G) (hM : MtOk P C.M) (hFT : FTok P FT) (hJ : JOk P pins J) {K : SS → Option R} {r : R} {w0 : World} {M0 : Nat → Prop} {D0 : Names} (hp : PinsOk pins D0) {Q : Exit → Act → World → Prop} :
  ∀ (l : List Oper) {s : SS}, sGoJ J L C FT ops.toList l s K = some r → ∀ {a w}, Sat w0 M0 D0 (s.st C.N) a w → (∀ s' a' w', K s' = some r → Sat w0 M0 D0 (s'.st C.N) a' w' → Q .normal a' w') → wpList P ops Q l a w
 | [], s, h, a, w, hs, hq => hq s a w h hs
 | o :: l, s, h, a, w, hs, hq => by
  obtain ⟨s', e, h⟩ := sGoJ_cons h
  rw [← e] at hs
  rcases h with ⟨h, hg⟩ | ⟨h, hg⟩
  ·exact sOpJ_wp hG hM hFT hJ h hg hp hs fun s2 a' w' h2 hs2 => sGoJ_wp hG hM hFT hJ hp l h2 hs2 hq
  ·rw [← e] at hg
   exact xOp_sound noT_ok (xOp_skip hg) hs fun a' w' hs' => sGoJ_wp hG hM hFT hJ hp l h (by rw [put_st]; exact hs') hq
end
end Go.Abs
namespace Go.Abs
open Go.RowKit
section
variable {P : Program} {ops : Array Oper} {n : Nat} {listed : Array Bool}
theorem reach_listed (inv : HeadInv .any ops n listed) : ∀ (d i j : Nat) (o : Oper), ops[i]? = some o → (∀ e ∈ o.after, Region.binds .any e = true → listed.getD e.on false = true) → reach ops d i j = true → listed.getD j false = true
 | 0, _, _, _, _, _, h => by simp [reach] at h
 | d + 1, i, j, o, ho, hall, h => by
  simp only [reach, ho, List.any_eq_true, Bool.and_eq_true, Bool.or_eq_true, beq_iff_eq] at h
  obtain ⟨e, he, hb, h⟩ := h
  have hl := hall e (by simpa using he) hb
  rcases h with rfl | h
  ·exact hl
  ·cases d with
   | zero => simp [reach] at h
   | succ d =>
    cases ho' : ops[e.on]? with
    | none => simp [reach, ho'] at h
    | some o' => exact reach_listed inv (d + 1) e.on j o' ho' (inv.closed _ _ ho' hl) h
theorem count_eq {f g : Nat → Bool} : ∀ n : Nat, (∀ j, j < n → f j = g j) → (List.range n).countP f = (List.range n).countP g
 | 0, _ => rfl
 | n + 1, h => by
  rw [List.range_succ, List.countP_append, List.countP_append, count_eq n fun j hj => h j (by omega)]
  simp [h n (Nat.lt_succ_self n)]
theorem count_one {f g : Nat → Bool} {i : Nat} (hf : f i = true) (hg : g i = false) (h : ∀ j, j ≠ i → f j = g j) : ∀ n : Nat, i < n → (List.range n).countP f = (List.range n).countP g + 1
 | 0, hi => by omega
 | n + 1, hi => by
  rw [List.range_succ, List.countP_append, List.countP_append]
  by_cases hin : i = n
  ·subst hin
   rw [count_eq i fun j hj => h j (by omega)]
   simp [hf, hg]
  ·rw [count_one hf hg h n (by omega)]
   simp [h n (Ne.symm hin)]; omega
def left (n : Nat) (listed : Array Bool) : Nat := (List.range n).countP fun j => !(listed.getD j false)
def setAll : Nat → Nat → Array Bool → Array Bool
 | 0, _, L => L
 | f + 1, k, L => setAll f (k + 1) (L.setIfInBounds k true)
theorem setAll_size : ∀ (f k : Nat) (L : Array Bool), (setAll f k L).size = L.size
 | 0, _, _ => rfl
 | f + 1, k, L => by rw [setAll, setAll_size f]; simp
theorem setAll_get : ∀ (f k : Nat) (L : Array Bool) (j : Nat), j < L.size → (setAll f k L).getD j false = if k ≤ j ∧ j < k + f then true else L.getD j false
 | 0, k, L, j, _ => by rw [setAll, if_neg (by omega)]
 | f + 1, k, L, j, hj => by
  rw [setAll, setAll_get f (k + 1) _ j (by simpa using hj)]
  by_cases h : j = k
  ·subst h
   rw [if_neg (by omega), if_pos (by omega)]
   simp [hj]
  ·rw [getD_set_ne false (Ne.symm h)]
   by_cases h2 : k ≤ j ∧ j < k + (f + 1)
   ·rw [if_pos h2, if_pos (by omega)]
   ·rw [if_neg h2, if_neg (by omega)]
theorem lexHead_seq {g : Nat} : ∀ (f k : Nat) (L : Array Bool), Region.lexHead .any ops g f k L = true → Region.seqB .any ops g (k + f) (setAll f k L) = true
 | 0, _, _, h => h
 | f + 1, k, L, h => by
  simp only [Region.lexHead, Bool.and_eq_true] at h
  have := lexHead_seq f (k + 1) _ h.2
  rw [show k + (f + 1) = k + 1 + f by omega]
  exact this
end
end Go.Abs
namespace Go.Abs
open Go.RowKit
variable {O1 O : SObjs} {x : SV} {C : Cfg}
def Up (O O1 : SObjs) : Prop := ∀ n o, lookS n O = some o → lookS n O1 = some o
def UpK (N : Nat → Prop) (κ : CV → CV) (O O1 : SObjs) : Prop := ∀ n o, N n → lookS n O = some o → lookS n O1 = some (soMap κ o)
def NmC (N : Nat → Prop) (c : CV) : Prop := ∀ d, ¬ N d → clCV d c = true
def NmS (N : Nat → Prop) (x : SV) : Prop := ∀ d, ¬ N d → clSV d x = true
theorem NmC.own {N : Nat → Prop} {n : Nat} (h : NmC N (.own n)) : N n := Classical.byContradiction fun hn => by have := h n hn; simp [clCV] at this
theorem NmC.msl {N : Nat → Prop} {n a b c : Nat} (h : NmC N (.msl n a b c)) : N n := Classical.byContradiction fun hn => by have := h n hn; simp [clCV] at this
theorem NmC.ref {N : Nat → Prop} {n a b c : Nat} (h : NmC N (.ref n a b c)) : N n := Classical.byContradiction fun hn => by have := h n hn; simp [clCV] at this
theorem NmS.c {N : Nat → Prop} {c : CV} (h : NmS N (.v (.c c))) : NmC N c := h
theorem UpK.arr {N : Nat → Prop} {κ : CV → CV} (h : UpK N κ O O1) {n : Nat} {ts : Tys} {l : List ts.T} (hn : N n) (hl : lookS n O = some (.arr ts l)) : lookS n O1 = some (.arr ts l) := h n _ hn hl
theorem Up.k (h : Up O O1) : UpK (fun _ => True) (fun c => c) O O1 := fun n o _ hl => by
 rw [h n o hl]
 cases o with
 | box cs => simp [soMap]
 | arr ts l => rfl
 | mp _ _ _ => rfl
theorem NmS.tr (x : SV) : NmS (fun _ => True) x := fun _ h => absurd trivial h
section
variable {N : Nat → Prop} {κ : CV → CV} {O O1 : SObjs}
theorem sView_k (h : UpK N κ O O1) {ts : Tys} (hx' : NmS N x) {y : List Bool × List ts.T} (hx : sView O ts x = some y) : sView O1 ts x = some y := by
 unfold sView at hx ⊢
 split at hx
 ·exact hx
 ·exact hx
 ·rename_i n
  split at hx
  ·rename_i us l hl; rw [h.arr hx'.c.own hl]; exact hx
  ·cases hx
 ·rename_i n _ _ _
  split at hx
  ·rename_i us l hl; rw [h.arr hx'.c.msl hl]; exact hx
  ·cases hx
 ·cases hx
theorem slen_k (h : UpK N κ O O1) {D : Option TD} (hx' : NmS N x) {y : Int} (hx : slen O D x = some y) : slen O1 D x = some y := by
 unfold slen at hx ⊢
 split at hx
 ·exact hx
 ·exact hx
 ·exact hx
 ·rename_i n
  split at hx
  ·rename_i us l hl; rw [h.arr hx'.c.own hl]; exact hx
  ·cases hx
 ·exact hx
 ·cases hx
theorem sCells_k (h : UpK N κ O O1) (hκ : ∀ v, κ (.k v) = .k v) {n sz i off : Nat} (hn : N n) {c : List Bool} {cs : List CV} (hx : sCells O n sz i off = some (c, cs)) : sCells O1 n sz i off = some (c, cs.map κ) := by
 unfold sCells at hx ⊢
 split at hx
 ·rename_i cs0 hl
  rw [h n _ hn hl]
  simp only [soMap]
  split at hx
  ·simp only [Option.some.injEq, Prod.mk.injEq] at hx
   obtain ⟨rfl, rfl⟩ := hx
   simp [List.map_drop]
  ·cases hx
 ·rename_i ts l hl
  rw [h.arr hn hl]
  simp only
  split at hx
  ·rename_i hs; rw [if_pos hs]
   simp only [Option.some.injEq, Prod.mk.injEq] at hx ⊢
   obtain ⟨rfl, rfl⟩ := hx
   refine ⟨rfl, ?_⟩
   rw [List.map_drop, List.map_map]
   congr 1
   exact List.map_congr_left fun v _ => (hκ v).symm
  ·cases hx
 ·cases hx
theorem plainNC_k (h : UpK N κ O O1) {x : CV} (hx' : NmC N x) (hx : plainNC O x = true) : plainNC O1 x = true := by
 unfold plainNC at hx ⊢
 split at hx
 all_goals first | rfl | skip
 ·rename_i n
  split at hx
  ·rename_i us l hl; rw [h.arr hx'.own hl]
  ·cases hx
 ·cases hx
theorem cellsS_k (h : UpK N κ O O1) (hx' : NmS N x) {y : List CV} (hx : cellsS O x = some y) : cellsS O1 x = some y := by
 unfold cellsS at hx ⊢
 split at hx
 ·exact hx
 ·split at hx
  ·rename_i hp; rw [if_pos (plainNC_k h hx'.c hp)]; exact hx
  ·cases hx
 ·cases hx
theorem sFill_k (h : UpK N κ O O1) {pl : List (Nat × Bool × Nat)} : ∀ {parts : List (Nat × SV)} {cells y : List CV}, (∀ p ∈ parts, NmS N p.2) → sFill O pl cells parts = some y → sFill O1 pl cells parts = some y
 | [], _, _, _, hx => hx
 | (i, x) :: rest, cells, y, hp, hx => by
  unfold sFill at hx ⊢
  split at hx
  ·rename_i off g n cs h1 h2
   rw [h1, cellsS_k h (hp (i, x) (List.mem_cons_self ..)) h2]
   dsimp only
   split at hx
   ·rename_i hc; rw [if_pos hc]; exact sFill_k h (fun p hp' => hp p (List.mem_cons_of_mem _ hp')) hx
   ·cases hx
  ·cases hx
end
theorem sView_up (h : Up O O1) {ts : Tys} {y : List Bool × List ts.T} (hx : sView O ts x = some y) : sView O1 ts x = some y := by
 unfold sView at hx ⊢
 split at hx
 ·exact hx
 ·exact hx
 ·rename_i n
  cases hl : lookS n O with
  | none => simp [hl] at hx
  | some o => rw [hl] at hx; rw [h _ _ hl]; exact hx
 ·rename_i n _ _ _
  cases hl : lookS n O with
  | none => simp [hl] at hx
  | some o => rw [hl] at hx; rw [h _ _ hl]; exact hx
 ·cases hx
theorem plainNC_up (h : Up O O1) {x : CV} (hx : plainNC O x = true) : plainNC O1 x = true := by
 unfold plainNC at hx ⊢
 split at hx
 all_goals first | rfl | skip
 ·rename_i n
  cases hl : lookS n O with
  | none => simp [hl] at hx
  | some o => rw [hl] at hx; rw [h _ _ hl]; exact hx
 ·cases hx
theorem cellsS_up (h : Up O O1) {y : List CV} (hx : cellsS O x = some y) : cellsS O1 x = some y := by
 unfold cellsS at hx ⊢
 split at hx
 ·exact hx
 ·split at hx
  ·rename_i hp; rw [if_pos (plainNC_up h hp)]; exact hx
  ·cases hx
 ·cases hx
theorem toT_up (h : Up O O1) {t : Ty} {x : CV} {y : t.T} (hx : toT O t x = some y) : toT O1 t x = some y := by
 unfold toT at hx ⊢
 split at hx
 ·exact hx
 ·exact hx
 ·rename_i ts n
  cases hl : lookS n O with
  | none => simp [hl] at hx
  | some o => rw [hl] at hx; rw [h _ _ hl]; exact hx
 ·cases hx
theorem toTs_up (h : Up O O1) : ∀ {ts : Tys} {l : List CV} {y : ts.T}, toTs O ts l = some y → toTs O1 ts l = some y
 | .nil, [], _, hx => hx
 | .nil, _ :: _, _, hx => by simp [toTs] at hx
 | .cons _ _, [], _, hx => by simp [toTs] at hx
 | .cons t ts, c :: l, y, hx => by
  simp only [toTs] at hx ⊢
  split at hx
  ·rename_i a b h1 h2
   rw [toT_up h h1, toTs_up h h2]; exact hx
  ·cases hx
theorem toCT_up (h : Up O O1) {c : CT} {y : c.T} (hx : toCT O c x = some y) : toCT O1 c x = some y := by
 unfold toCT at hx ⊢
 split at hx
 ·exact toT_up h hx
 ·exact toTs_up h hx
 ·cases hx
theorem toAT_up (h : Up O O1) {c : AT} {y : c.T} (hx : toAT O c x = some y) : toAT O1 c x = some y := by
 unfold toAT at hx ⊢
 split at hx
 ·exact toCT_up h hx
 ·rename_i n sz
  split at hx
  ·rename_i hs; rw [if_pos hs]
   cases hl : lookS n O with
   | none => simp [hl] at hx
   | some o => rw [hl] at hx; rw [h _ _ hl]; exact hx
  ·cases hx
 ·cases hx
theorem toArgs_up (h : Up O O1) : ∀ {l : List AT} {xs : List SV} {y : argsT l}, toArgs O l xs = some y → toArgs O1 l xs = some y
 | [], [], _, hx => hx
 | a :: l, x :: xs, y, hx => by
  unfold toArgs at hx ⊢
  split at hx
  ·rename_i p q h1 h2
   rw [toAT_up h h1, toArgs_up h h2]; exact hx
  ·cases hx
 | [], _ :: _, _, hx => by cases hx
 | _ :: _, [], _, hx => by cases hx
theorem toRows_up (h : Up O O1) {ts : Tys} : ∀ {xs : List SV} {y : List ts.T}, toRows O ts xs = some y → toRows O1 ts xs = some y
 | [], _, hx => hx
 | x :: r, y, hx => by
  unfold toRows at hx ⊢
  split at hx
  ·rename_i cs h1
   rw [cellsS_up h h1]
   dsimp only
   split at hx
   ·rename_i a b h2 h3
    rw [h2, toRows_up h h3]; exact hx
   ·cases hx
  ·cases hx
theorem sbnd_up {s s1 : SS} {d : Int} {o : Option Operand} (hs : ∀ x, o = some x → sev C s1 x = sev C s x) : sbnd C s1 d o = sbnd C s d o := by
 cases o with
 | none => rfl
 | some o => simp only [sbnd, hs o rfl]
theorem sslc_k {N : Nat → Prop} {κ : CV → CV} {s s1 : SS} (h : UpK N κ s.objs s1.objs) {T : TypeId} (hx' : NmS N x) {lo hi : Option Operand} (hl : ∀ x, lo = some x → sev C s1 x = sev C s x) (hh : ∀ x, hi = some x → sev C s1 x = sev C s x) {y : List Bool × CV}
  (hx : sslc C s T x lo hi = some y) : sslc C s1 T x lo hi = some y := by
 unfold sslc at hx ⊢
 simp only [sbnd_up hl, sbnd_up hh]
 split at hx
 ·exact hx
 ·exact hx
 ·exact hx
 ·rename_i n
  split at hx
  ·rename_i us l hl; rw [h.arr hx'.c.own hl]; exact hx
  ·cases hx
 ·exact hx
 ·rename_i n sz
  split at hx
  ·rename_i e1 e2
   rw [h.arr hx'.c.ref e1]
   first | exact hx | (rw [e2]; exact hx)
  ·rename_i e1 e2 e3
   rw [h.arr hx'.c.ref e1]
   first | exact hx | (rw [e2]; exact hx) | (simp only [e2, sbnd_up hl, sbnd_up hh]; exact hx)
  ·cases hx
 ·cases hx
theorem sslc3_k {N : Nat → Prop} {κ : CV → CV} {s s1 : SS} (h : UpK N κ s.objs s1.objs) {T : TypeId} (hx' : NmS N x) {lo : Option Operand} {hi mx : Operand} (hl : ∀ x, lo = some x → sev C s1 x = sev C s x) (hh : sev C s1 hi = sev C s hi) (hm : sev C s1 mx = sev C s mx) {y : List Bool × CV}
  (hx : sslc3 C s T x lo hi mx = some y) : sslc3 C s1 T x lo hi mx = some y := by
 unfold sslc3 at hx ⊢
 have e1 : ∀ d, sbnd C s1 d (some hi) = sbnd C s d (some hi) := fun d => sbnd_up fun x e => by cases e; exact hh
 have e2 : ∀ d, sbnd C s1 d (some mx) = sbnd C s d (some mx) := fun d => sbnd_up fun x e => by cases e; exact hm
 simp only [sbnd_up hl, e1, e2]
 split at hx
 ·rename_i n
  split at hx
  ·rename_i us l hl; rw [h.arr hx'.c.own hl]; exact hx
  ·cases hx
 ·exact hx
 ·cases hx
theorem obj_map {α β : Type} {x x1 : Option α} {f : α → β} {y : β} (h : ∀ a, x = some a → x1 = some a) (hx : x.map f = some y) : x1.map f = some y := by
 obtain ⟨a, ha, rfl⟩ := Option.map_eq_some_iff.1 hx
 rw [h a ha]; rfl
theorem map_sev {s s1 : SS} {l : List Operand} (hs : ∀ o ∈ l, sev C s1 o = sev C s o) : l.map (sev C s1) = l.map (sev C s) := List.map_congr_left hs
set_option maxHeartbeats 1000000 in
theorem sR_k {N : Nat → Prop} {κ : CV → CV} {C : Cfg} {s s1 : SS} (h : UpK N κ s.objs s1.objs) (hκ : ∀ v, κ (.k v) = .k v) {op : Op} (hs : ∀ o ∈ op.operands.toList, sev C s1 o = sev C s o) (hN : ∀ o ∈ op.operands.toList, NmS N (sev C s o)) {y : List Bool × SV} (hy : mapSC κ y.2 = y.2)
  (hr : sR C s op = some y) : sR C s1 op = some y := by
 cases op with
 | move x => simp only [Op.operands, List.mem_singleton, forall_eq] at hs; simp only [sR, hs] at hr ⊢; exact hr
 | assign x => simp only [Op.operands, List.mem_singleton, forall_eq] at hs; simp only [sR, hs] at hr ⊢; exact hr
 | fieldAddr T x k => simp only [Op.operands, List.mem_singleton, forall_eq] at hs; simp only [sR, hs] at hr ⊢; exact hr
 | field T x k => simp only [Op.operands, List.mem_singleton, forall_eq] at hs; simp only [sR, hs] at hr ⊢; exact hr
 | indexAddr T x i =>
  have h1 := hs x (by simp [Op.operands])
  have h2 := hs i (by simp [Op.operands])
  simp only [sR, h1, h2] at hr ⊢
  split at hr
  ·rename_i n us l ts b e1 e2 e3
   exact hr
  ·rename_i n m ts b e1 e2 e3
   have hm : N m := by
    have := hN x (by simp [Op.operands])
    rw [asC_eq e2] at this
    exact this.c.own
   split at hr
   ·rename_i us l hl; rw [h.arr hm hl]; exact hr
   ·cases hr
  ·rename_i n m sz off len ts b e1 e2 e3
   exact hr
  ·rename_i n m sz len ts e1 e2 e3
   exact hr
  ·exact hr
  ·cases hr
 | index T x i =>
  have h1 := hs x (by simp [Op.operands])
  have h2 := hs i (by simp [Op.operands])
  simp only [sR, h1, h2] at hr ⊢; exact hr
 | load T x =>
  have h1 := hs x (by simp [Op.operands])
  simp only [sR, h1] at hr ⊢
  split at hr
  ·rename_i cs D e1 e2
   exact hr
  ·rename_i n sz i off D e1 e2
   have hm : N n := by
    have := hN x (by simp [Op.operands])
    rw [asC_eq e1] at this
    exact this.c.ref
   split at hr
   ·rename_i c cs e3
    rw [sCells_k h hκ hm e3]
    simp only
    obtain ⟨v, hv, rfl⟩ := Option.map_eq_some_iff.1 hr
    have hy : mapVC κ v = v := by simpa [mapSC] using hy
    have : ldC D.cell (cs.map κ) = some v := by
     rw [← hy]
     unfold ldC at hv ⊢
     split at hv
     ·rename_i hc
      rw [if_pos hc]
      split at hv
      ·rename_i hl
       cases hv
       rw [if_pos (by simpa using hl)]
       simp [mapVC, List.map_take]
      ·cases hv
     ·rename_i hc
      rw [if_neg hc]
      cases cs with
      | nil => simp at hv
      | cons c0 cs => simp only [List.head?_cons, Option.map_some, Option.some.injEq] at hv; subst hv; rfl
    rw [this]; rfl
   ·cases hr
  ·cases hr
 | nilCheck x => simp only [Op.operands, List.mem_singleton, forall_eq] at hs; simp only [sR, hs] at hr ⊢; exact hr
 | binOp op T x y U =>
  have h1 := hs x (by simp [Op.operands])
  have h2 := hs y (by simp [Op.operands])
  simp only [sR, h1, h2] at hr ⊢; exact hr
 | unOp op T x => simp only [Op.operands, List.mem_singleton, forall_eq] at hs; simp only [sR, hs] at hr ⊢; exact hr
 | convert S T x =>
  have h1 := hs x (by simp [Op.operands])
  simp only [sR, h1] at hr ⊢
  split at hr
  ·rename_i n D k e1 e2 e3
   exact hr
  ·rename_i b D e1 e2 e3
   exact hr
  ·split at hr
   ·rename_i hb
    first
     | (rw [if_pos hb]; exact obj_map (fun a ha => sView_k h (hN x (by simp [Op.operands])) ha) hr)
     | exact obj_map (fun a ha => sView_k h (hN _ (by simp [Op.operands])) ha) hr
   ·cases hr
  ·cases hr
 | slice T x lo hi mx =>
  have h1 := hs x (by simp [Op.operands])
  have h2 : ∀ x, lo = some x → sev C s1 x = sev C s x := fun x e => hs x (by simp [Op.operands, e])
  have h3 : ∀ x, hi = some x → sev C s1 x = sev C s x := fun x e => hs x (by simp [Op.operands, e])
  have h4 : ∀ x, mx = some x → sev C s1 x = sev C s x := fun x e => hs x (by simp [Op.operands, e])
  cases mx with
  | none =>
   simp only [sR, h1] at hr ⊢
   exact obj_map (fun a ha => sslc_k h (hN x (by simp [Op.operands])) h2 h3 ha) hr
  | some m => cases hi with
   | none => simp [sR] at hr
   | some hi =>
    simp only [sR, h1] at hr ⊢
    exact obj_map (fun a ha => sslc3_k h (hN x (by simp [Op.operands])) h2 (h3 _ rfl) (h4 _ rfl) ha) hr
 | extract t i => simp only [Op.operands, List.mem_singleton, forall_eq] at hs; simp only [sR, hs] at hr ⊢; exact hr
 | build T parts =>
  have h1 : (parts.toList.map fun p => (p.1, sev C s1 p.2)) = parts.toList.map fun p => (p.1, sev C s p.2) := List.map_congr_left fun p hp => by
   rw [hs p.2 (by simp only [Op.operands, List.mem_map]; exact ⟨p, hp, rfl⟩)]
  simp only [sR, h1] at hr ⊢
  split at hr
  ·rename_i ts fs b e1
   exact obj_map (fun a ha => sFill_k h (fun p hp => by obtain ⟨q, hq, rfl⟩ := List.mem_map.1 hp; exact hN q.2 (by simp only [Op.operands, List.mem_map]; exact ⟨q, hq, rfl⟩)) ha) hr
  ·cases hr
 | makeFunc f first captured =>
  have h1 : captured.toList.map (sev C s1) = captured.toList.map (sev C s) := map_sev fun o ho => hs o (by simp only [Op.operands, Array.toList_append, List.mem_append]; exact .inr ho)
  cases f with
  | func f => simp only [sR, h1] at hr ⊢; exact hr
  | _ => simp [sR] at hr
 | makeInterface T x => simp only [Op.operands, List.mem_singleton, forall_eq] at hs; simp only [sR, hs] at hr ⊢; exact hr
 | typeAssert x S T ok => simp only [Op.operands, List.mem_singleton, forall_eq] at hs; simp only [sR, hs] at hr ⊢; exact hr
 | call c =>
  obtain ⟨cal, args, argTypes⟩ := c
  cases cal with
  | builtin b =>
   have h1 : ∀ o ∈ args.toList, sev C s1 o = sev C s o := fun o ho => hs o (by simpa [Op.operands, Call.operands] using ho)
   cases b with
   | len =>
    simp only [sR] at hr ⊢
    split at hr
    ·rename_i x T e1 e2
     rw [e1] at h1
     simp only [List.mem_singleton, forall_eq] at h1
     simp only [h1]
     exact obj_map (fun a ha => slen_k h (hN x (by simp [Op.operands, Call.operands, e1])) ha) hr
    ·cases hr
   | cap =>
    simp only [sR] at hr ⊢
    split at hr
    ·rename_i x T e1 e2
     rw [e1] at h1
     simp only [List.mem_singleton, forall_eq] at h1
     simp only [h1]
     exact hr
    ·cases hr
   | min => simp only [sR, map_sev h1] at hr ⊢; exact hr
   | max => simp only [sR, map_sev h1] at hr ⊢; exact hr
   | _ => simp [sR] at hr
  | _ => simp [sR] at hr
 | _ => simp [sR] at hr
theorem mapVC_id (x : VV) : mapVC (fun c => c) x = x := by cases x <;> simp [mapVC]
theorem mapSC_id (x : SV) : mapSC (fun c => c) x = x := by
 cases x with
 | v x => simp only [mapSC, mapVC_id]
 | tup l => simp only [mapSC]; congr 1; exact (List.map_congr_left fun c _ => mapVC_id c).trans (List.map_id' l)
theorem sR_up {s s1 : SS} (h : Up s.objs s1.objs) {op : Op} (hs : ∀ o ∈ op.operands.toList, sev C s1 o = sev C s o) {y : List Bool × SV} (hr : sR C s op = some y) : sR C s1 op = some y :=
 sR_k h.k (fun _ => rfl) hs (fun _ _ => NmS.tr _) (mapSC_id _) hr
end Go.Abs
namespace Go.Abs
open Go.RowKit
variable {m : Nat} {xs : List Operand} {C : Cfg} {dst : Option Tmp} {s' : SS}
structure Ext (kE kO : Nat → Bool) (x : Option SV) (ob : Option SO) (s s1 : SS) : Prop where
 env : ∀ t, kE t = false → lkE s1.env t = lkE s.env t
 at_ : ∀ t y, kE t = true → x = some y → lkE s1.env t = y
 obj : ∀ n, lookS n s1.objs = if kO n = true then ob else lookS n s.objs
 no : ∀ n, kO n = true → lookS n s.objs = none
structure Kap (m : Nat) (κ : CV → CV) : Prop where
 fix : ∀ c, clCV m c = true → κ c = c
theorem ns_has {ns : List (Nat × Nat)} (h : (ns.all fun p => !(p.1 == m)) = true) : (ns.map (·.1)).contains m = false := by
 cases hc : (ns.map (·.1)).contains m with
 | false => rfl
 | true =>
  have : m ∈ ns.map (·.1) := by simpa using hc
  obtain ⟨p, hp, rfl⟩ := List.mem_map.1 this
  have := List.all_eq_true.1 h p hp
  simp at this
theorem kap_kill (m : Nat) : Kap m (killC m) := ⟨fun c h => by
 cases c with
 | own n => simp only [clCV, Bool.not_eq_true', beq_eq_false_iff_ne] at h; simp [killC, h]
 | msl n _ _ _ => simp only [clCV, Bool.not_eq_true', beq_eq_false_iff_ne] at h; simp [killC, h]
 | ref n _ _ _ => simp only [clCV, Bool.not_eq_true', beq_eq_false_iff_ne] at h; simp [killC, h]
 | wrp f ns => simp only [clCV] at h; simp only [killC, ns_has h, Bool.false_eq_true, if_false]
 | _ => rfl⟩
theorem kap_frz (m : Nat) (ts : Tys) (l : List ts.T) : Kap m (frzC m ts l) := ⟨fun c h => by
 cases c with
 | own n => simp only [clCV, Bool.not_eq_true', beq_eq_false_iff_ne] at h; simp [frzC, h]
 | msl n _ _ _ => simp only [clCV, Bool.not_eq_true', beq_eq_false_iff_ne] at h; simp [frzC, h]
 | ref n _ _ _ => simp only [clCV, Bool.not_eq_true', beq_eq_false_iff_ne] at h; simp [frzC, h]
 | wrp f ns => simp only [clCV] at h; simp only [frzC, ns_has h, Bool.false_eq_true, if_false]
 | _ => rfl⟩
theorem kap_unown (m sz k : Nat) : Kap m (unownC m sz k) := ⟨fun c h => by
 cases c with
 | own n => simp only [clCV, Bool.not_eq_true', beq_eq_false_iff_ne] at h; simp [unownC, h]
 | _ => rfl⟩
theorem Kap.any {κ : CV → CV} (h : Kap m κ) : κ .any = .any := h.fix _ rfl
theorem Kap.vv {κ : CV → CV} (h : Kap m κ) {x : VV} (hx : clVV m x = true) : mapVC κ x = x := by
 cases x with
 | c x => simp only [mapVC, h.fix x hx]
 | g l =>
  simp only [mapVC]
  congr 1
  exact (List.map_congr_left fun a ha => h.fix a (List.all_eq_true.1 hx a ha)).trans (List.map_id' l)
theorem Kap.sv {κ : CV → CV} (h : Kap m κ) {x : SV} (hx : clSV m x = true) : mapSC κ x = x := by
 cases x with
 | v x => simp only [mapSC, h.vv hx]
 | tup l =>
  simp only [mapSC]
  congr 1
  exact (List.map_congr_left fun a ha => h.vv (List.all_eq_true.1 hx a ha)).trans (List.map_id' l)
theorem Kap.so {κ : CV → CV} (h : Kap m κ) {o : SO} (hx : ∀ cs, o = .box cs → cs.all (clCV m) = true) : soMap κ o = o := by
 cases o with
 | box cs =>
  simp only [soMap]
  congr 1
  exact (List.map_congr_left fun a ha => h.fix a (List.all_eq_true.1 (hx cs rfl) a ha)).trans (List.map_id' cs)
 | arr ts l => rfl
 | mp _ _ _ => rfl
def Zok (k : Nat → Bool) (x : Option SV) (ob : Option SO) : Prop := ∀ m, k m = false → (∀ y, x = some y → clSV m y = true) ∧ ∀ cs, ob = some (.box cs) → cs.all (clCV m) = true
section
variable {kE kO : Nat → Bool} {x : Option SV} {ob : Option SO} {s s1 : SS}
theorem Ext.up (h : Ext kE kO x ob s s1) : Up s.objs s1.objs := fun n o hn => by
 rw [h.obj]
 split
 ·rename_i hk; rw [h.no n hk] at hn; cases hn
 ·exact hn
theorem Ext.nk (h : Ext kE kO x ob s s1) {n : Nat} {o : SO} (hn : lookS n s.objs = some o) : kO n = false := by
 cases hk : kO n with
 | false => rfl
 | true => rw [h.no n hk] at hn; cases hn
theorem Ext.no' (h : Ext kE kO x ob s s1) {n : Nat} (hk : kO n = false) (hn : lookS n s.objs = none) : lookS n s1.objs = none := by
 rw [h.obj, hk]; exact hn
theorem Ext.get (h : Ext kE kO x ob s s1) {N t : Nat} (ht : kE t = false) : s1.get N t = s.get N t := by
 unfold SS.get; rw [h.env t ht]
def offO (k : Nat → Bool) : Operand → Bool
 | .tmp t => !k t
 | _ => true
theorem Ext.sev (h : Ext kE kO x ob s s1) {o : Operand} (ho : offO kE o = true) : sev C s1 o = sev C s o := by
 cases o with
 | tmp t => simp only [offO, Bool.not_eq_true'] at ho; simp only [Go.Abs.sev, h.get ho]
 | _ => rfl
theorem Ext.map (h : Ext kE kO x ob s s1) (hz : Zok kO x ob) {κ : CV → CV} (hκ : Kap m κ) (hm : kO m = false) {O O1 : SObjs} (ho : ∀ n, lookS n O1 = if kO n = true then ob else lookS n O) (hn : ∀ n, kO n = true → lookS n O = none) :
  Ext kE kO x ob ⟨mapEC κ s.env, mapOC κ O⟩ ⟨mapEC κ s1.env, mapOC κ O1⟩ := by
 obtain ⟨z1, z2⟩ := hz m hm
 refine ⟨fun t ht => ?_, fun t y ht hy => ?_, fun n => ?_, fun n hk => ?_⟩
 ·simp only
  rw [lkE_map κ hκ.any, lkE_map κ hκ.any, h.env t ht]
 ·simp only
  rw [lkE_map κ hκ.any, h.at_ t y ht hy]
  exact hκ.sv (z1 y hy)
 ·simp only
  rw [lookS_map, lookS_map, ho]
  split
  ·cases ob with
   | none => rfl
   | some o => simp only [Option.map_some]; rw [hκ.so fun cs e => z2 cs (by rw [e])]
  ·rfl
 ·simp only; rw [lookS_map, hn n hk]; rfl
theorem Ext.kap (h : Ext kE kO x ob s s1) (hz : Zok kO x ob) {κ : CV → CV} (hκ : Kap m κ) (hm : kO m = false) : Ext kE kO x ob ⟨mapEC κ s.env, mapOC κ s.objs⟩ ⟨mapEC κ s1.env, mapOC κ s1.objs⟩ := h.map hz hκ hm h.obj h.no
theorem Ext.drops (h : Ext kE kO x ob s s1) (hm : kO m = false) : (∀ n, lookS n (dropS m s1.objs) = if kO n = true then ob else lookS n (dropS m s.objs)) ∧ ∀ n, kO n = true → lookS n (dropS m s.objs) = none := by
 refine ⟨fun n => ?_, fun n hk => ?_⟩
 ·by_cases e : m = n
  ·subst e; rw [lookS_drop, lookS_drop, hm]; rfl
  ·rw [lookS_drop_ne e, lookS_drop_ne e, h.obj]
 ·have e : m ≠ n := fun e => by rw [e, hk] at hm; cases hm
  rw [lookS_drop_ne e, h.no n hk]
theorem Ext.put (h : Ext kE kO x ob s s1) (hd : ∀ t, dst = some t → kE t = false) (v : SV) : Ext kE kO x ob (s.put dst v) (s1.put dst v) := by
 cases dst with
 | none => exact h
 | some d =>
  refine ⟨fun t ht => ?_, fun t y ht hy => ?_, h.obj, h.no⟩
  ·simp only [SS.put, lkE]
   by_cases e : d = t
   ·rw [if_pos e, if_pos e]
   ·rw [if_neg e, if_neg e]; exact h.env t ht
  ·simp only [SS.put, lkE]
   rw [if_neg fun e => ?_]
   ·exact h.at_ t y ht hy
   ·subst e; rw [hd d rfl] at ht; cases ht
theorem Ext.cons (h : Ext kE kO x ob s s1) (hm : kO m = false) (o : SO) : Ext kE kO x ob ⟨s.env, (m, o) :: s.objs⟩ ⟨s1.env, (m, o) :: s1.objs⟩ := by
 refine ⟨h.env, h.at_, fun n => ?_, fun n hk => ?_⟩
 ·simp only [lookS]
  by_cases e : m = n
  ·subst e; simp [hm]
  ·rw [if_neg e, if_neg e]; exact h.obj n
 ·have e : m ≠ n := fun e => by rw [e, hk] at hm; cases hm
  simp only [lookS, if_neg e]; exact h.no n hk
theorem lookS_upd' (n m : Nat) (o : SO) (O : SObjs) : lookS m (updS n o O) = if n = m then (lookS n O).map (fun _ => o) else lookS m O := by
 by_cases e : n = m
 ·subst e
  rw [if_pos rfl]
  cases hl : lookS n O with
  | some p => rw [lookS_upd o (by rw [hl]; rfl)]; rfl
  | none =>
   have : ∀ O : SObjs, lookS n O = none → lookS n (updS n o O) = none := by
    intro O
    induction O with
    | nil => intro _; rfl
    | cons p r ih =>
     obtain ⟨a, b⟩ := p
     intro h
     by_cases e : a = n
     ·simp [lookS, e] at h
     ·simp only [lookS, e, if_false] at h
      simp only [updS, e, if_false, lookS]; exact ih h
   rw [this O hl]; rfl
 ·rw [if_neg e, lookS_upd_ne o e]
theorem Ext.upd (h : Ext kE kO x ob s s1) (hm : kO m = false) (o : SO) : Ext kE kO x ob ⟨s.env, updS m o s.objs⟩ ⟨s1.env, updS m o s1.objs⟩ := by
 refine ⟨h.env, h.at_, fun n => ?_, fun n hk => ?_⟩
 ·simp only [lookS_upd']
  by_cases e : m = n
  ·subst e; rw [if_pos rfl, if_pos rfl, hm, h.obj, hm]; rfl
  ·rw [if_neg e, if_neg e]; exact h.obj n
 ·have e : m ≠ n := fun e => by rw [e, hk] at hm; cases hm
  simp only [lookS_upd', if_neg e]; exact h.no n hk
theorem Ext.fresh (h : Ext kE kO x ob s s1) (hz : Zok kO x ob) {d : Nat} (hd : kO d = false) (hf : freshS d s = some s') : ∃ s1', freshS d s1 = some s1' ∧ Ext kE kO x ob s' s1' := by
 unfold freshS at hf ⊢
 split at hf
 ·rename_i hn
  cases hf
  rw [h.no' hd hn]
  exact ⟨_, rfl, h.kap hz (kap_kill d) hd⟩
 ·cases hf
theorem Ext.freeze (h : Ext kE kO x ob s s1) (hz : Zok kO x ob) {n : Nat} (hf : freezeS n s = some s') : ∃ s1', freezeS n s1 = some s1' ∧ Ext kE kO x ob s' s1' := by
 unfold freezeS at hf ⊢
 split at hf
 ·rename_i ts l hn
  cases hf
  rw [h.up _ _ hn]
  have hk := h.nk hn
  exact ⟨_, rfl, h.map hz (kap_frz n ts l) hk (h.drops hk).1 (h.drops hk).2⟩
 ·cases hf
theorem flat_sev (h : Ext kE kO x ob s s1) (hx : ∀ o ∈ xs, offO kE o = true) : (xs.flatMap fun o => cellsOfS (sev C s1 o)) = xs.flatMap fun o => cellsOfS (sev C s o) := by
 induction xs with
 | nil => rfl
 | cons a r ih =>
  simp only [List.flatMap_cons]
  rw [h.sev (hx a (List.mem_cons_self ..)), ih fun o ho => hx o (List.mem_cons_of_mem _ ho)]
theorem Ext.settle (hz : Zok kO x ob) (hx : ∀ o ∈ xs, offO kE o = true) : ∀ (f : Nat) {s s1 s' : SS}, Ext kE kO x ob s s1 → settleS C f xs s = some s' → ∃ s1', settleS C f xs s1 = some s1' ∧ Ext kE kO x ob s' s1'
 | 0, s, s1, s', h, hf => by
  simp only [settleS, Option.some.injEq] at hf ⊢
  exact ⟨_, rfl, hf ▸ h⟩
 | f + 1, s, s1, s', h, hf => by
  simp only [settleS] at hf ⊢
  rw [flat_sev h hx]
  split at hf
  ·cases hf; exact ⟨_, rfl, h⟩
  ·split at hf
   ·rename_i n _ s2 h2
    obtain ⟨s3, h3, h4⟩ := h.freeze hz h2
    simp only [h3]
    exact Ext.settle hz hx f h4 hf
   ·cases hf
theorem Ext.calm (h : Ext kE kO x ob s s1) (hz : Zok kO x ob) (hx : ∀ o ∈ xs, offO kE o = true) (hf : calmS C xs s = some s') : ∃ s1', calmS C xs s1 = some s1' ∧ Ext kE kO x ob s' s1' := by
 unfold calmS at hf ⊢
 split at hf
 ·rename_i s2 h2
  obtain ⟨s3, h3, h4⟩ := Ext.settle hz hx 8 h h2
  simp only [h3]
  rw [flat_sev h4 hx]
  split at hf
  ·cases hf; exact ⟨_, rfl, h4⟩
  ·cases hf
 ·cases hf
theorem Ext.prep (h : Ext kE kO x ob s s1) (hz : Zok kO x ob) (hx : ∀ o ∈ xs, offO kE o = true) {d : Nat} (hd : kO d = false) (hf : prepS C d xs s = some s') : ∃ s1', prepS C d xs s1 = some s1' ∧ Ext kE kO x ob s' s1' := by
 unfold prepS at hf ⊢
 split at hf
 ·rename_i s2 h2
  obtain ⟨s3, h3, h4⟩ := h.calm hz hx h2
  simp only [h3]
  split at hf
  ·rename_i s4 h5
   obtain ⟨s5, h6, h7⟩ := h4.fresh hz hd h5
   simp only [h6]
   rw [flat_sev h7 hx]
   split at hf
   ·cases hf; exact ⟨_, rfl, h7⟩
   ·cases hf
  ·cases hf
 ·cases hf
theorem sH_ext (h : Ext kE kO x ob s s1) (hz : Zok kO x ob) {op : Op} (ho : ∀ o ∈ op.operands.toList, offO kE o = true) (hd : ∀ t, dst = some t → kO t = false) {c : List Bool} {v : SV}
  (hr : sH C s dst op = some (c, v, s')) : ∃ s1', sH C s1 dst op = some (c, v, s1') ∧ Ext kE kO x ob s' s1' := by
 cases op with
 | box T y =>
  cases dst with
  | none => simp [sH] at hr
  | some d =>
   have hd := hd d rfl
   have hy : offO kE y = true := ho y (by simp [Op.operands])
   simp only [sH] at hr ⊢
   split at hr
   ·rename_i hlt
    rw [if_pos hlt]
    split at hr
    ·rename_i s2 h2
     obtain ⟨s3, h3, h4⟩ := h.fresh hz hd h2
     simp only [h3]
     split at hr
     ·rename_i cs h5
      rw [h4.sev hy, cellsS_up h4.up h5]
      simp only [Option.some.injEq, Prod.mk.injEq] at hr
      obtain ⟨rfl, rfl, rfl⟩ := hr
      exact ⟨_, rfl, h4.cons hd _⟩
     ·cases hr
    ·cases hr
   ·cases hr
 | alloc T =>
  cases dst with
  | none => simp [sH] at hr
  | some d =>
   have hd := hd d rfl
   simp only [sH] at hr ⊢
   split at hr
   ·rename_i hlt
    rw [if_pos hlt]
    split at hr
    ·rename_i s2 h2
     obtain ⟨s3, h3, h4⟩ := h.fresh hz hd h2
     simp only [h3]
     split at hr
     case h_8 => cases hr
     all_goals
      rename_i e
      simp only [Option.some.injEq, Prod.mk.injEq] at hr
      obtain ⟨rfl, rfl, rfl⟩ := hr
      exact ⟨_, rfl, h4.cons hd _⟩
    ·cases hr
   ·cases hr
 | buildSlice T len parts =>
  cases dst with
  | none => simp [sH] at hr
  | some d =>
   have hd := hd d rfl
   have hp : ∀ o ∈ parts.toList.map (·.2), offO kE o = true := fun o hm => ho o (by simpa [Op.operands] using hm)
   simp only [sH] at hr ⊢
   split at hr
   ·rename_i hlt
    rw [if_pos hlt]
    split at hr
    ·rename_i s2 ts by_ h2 e
     obtain ⟨s3, h3, h4⟩ := h.prep hz hp hd h2
     simp only [h3, e]
     split at hr
     ·rename_i rows h5
      rw [map_sev (fun o hm => h4.sev (hp o hm)), toRows_up h4.up h5]
      simp only
      split at hr
      ·rename_i hc; rw [if_pos hc]
       simp only [Option.some.injEq, Prod.mk.injEq] at hr
       obtain ⟨rfl, rfl, rfl⟩ := hr
       exact ⟨_, rfl, h4.cons hd _⟩
      ·cases hr
     ·cases hr
    ·cases hr
   ·cases hr
 | makeSlice T l m =>
  cases dst with
  | none => simp [sH] at hr
  | some d =>
   have hd := hd d rfl
   have hl : offO kE l = true := ho l (by simp [Op.operands])
   have hm : offO kE m = true := ho m (by simp [Op.operands])
   simp only [sH] at hr ⊢
   split at hr
   ·rename_i hlt
    rw [if_pos hlt]
    split at hr
    ·rename_i s2 h2
     obtain ⟨s3, h3, h4⟩ := h.fresh hz hd h2
     simp only [h3, h4.sev hl, h4.sev hm]
     split at hr
     ·rename_i ts by_ n m e1 e2 e3
      simp only [Option.some.injEq, Prod.mk.injEq] at hr
      obtain ⟨rfl, rfl, rfl⟩ := hr
      exact ⟨_, rfl, h4.cons hd _⟩
     ·cases hr
    ·cases hr
   ·cases hr
 | convert S T y =>
  cases dst with
  | none => simp [sH] at hr
  | some d =>
   have hd := hd d rfl
   have hy : offO kE y = true := ho y (by simp [Op.operands])
   simp only [sH] at hr ⊢
   split at hr
   ·rename_i hlt
    rw [if_pos hlt]
    split at hr
    ·rename_i s2 h2
     obtain ⟨s3, h3, h4⟩ := h.fresh hz hd h2
     simp only [h3, h4.sev hy]
     split at hr
     ·rename_i b e1 e2
      split at hr
      ·rename_i hb; rw [if_pos hb]
       simp only [Option.some.injEq, Prod.mk.injEq] at hr
       obtain ⟨rfl, rfl, rfl⟩ := hr
       exact ⟨_, rfl, h4.cons hd _⟩
      ·cases hr
     ·cases hr
    ·cases hr
   ·cases hr
 | store T y z =>
  cases dst with
  | some d => simp [sH] at hr
  | none =>
   have hy : offO kE y = true := ho y (by simp [Op.operands])
   have hz' : offO kE z = true := ho z (by simp [Op.operands])
   simp only [sH] at hr ⊢
   rw [h.sev hy]
   split at hr
   ·rename_i n sz i off D e1 e2
    split at hr
    ·rename_i cs e3
     have hk := h.nk e3
     rw [h.up _ _ e3, h.sev hz']
     simp only
     split at hr
     ·rename_i us e4
      rw [cellsS_up h.up e4]
      simp only
      split at hr
      ·rename_i hc; rw [if_pos hc]
       simp only [Option.some.injEq, Prod.mk.injEq] at hr
       obtain ⟨rfl, rfl, rfl⟩ := hr
       exact ⟨_, rfl, h.upd hk _⟩
      ·cases hr
     ·cases hr
    ·rename_i ts0 l0 e3
     rw [h.up _ _ e3]
     simp only
     split at hr
     ·rename_i s2 h2
      obtain ⟨s3, h3, h4⟩ := h.calm hz (fun o hm => by simp only [List.mem_singleton] at hm; subst hm; exact hz') h2
      simp only [h3, h4.sev hz', h4.sev hy]
      split at hr
      ·rename_i ts l us n' sz' i' off' e4 e5 e6
       have hk := h4.nk e4
       rw [h4.up _ _ e4, cellsS_up h4.up e5, e6]
       simp only
       split at hr
       ·rename_i hc; rw [if_pos hc]
        split at hr
        ·rename_i row e7
         simp only [Option.some.injEq, Prod.mk.injEq] at hr
         obtain ⟨rfl, rfl, rfl⟩ := hr
         exact ⟨_, rfl, h4.upd hk _⟩
        ·cases hr
       ·cases hr
      ·cases hr
     ·cases hr
    ·cases hr
   ·cases hr
 | call c =>
  obtain ⟨cal, args, argTypes⟩ := c
  cases cal with
  | builtin b =>
   cases b with
   | append =>
    cases dst with
    | none => simp [sH] at hr
    | some d =>
     have hd := hd d rfl
     have ha : ∀ o ∈ args.toList, offO kE o = true := fun o hm => ho o (by simpa [Op.operands, Call.operands] using hm)
     simp only [sH] at hr ⊢
     split at hr
     ·rename_i hlt
      rw [if_pos hlt]
      split at hr
      ·rename_i y z T T2 e1 e2
       rw [e1] at ha
       have hy := ha y (by simp)
       have hz' := ha z (by simp)
       simp only [h.sev hy, h.sev hz']
       split at hr
       ·rename_i ts by_ e3
        split at hr
        ·rename_i c' rows e4
         have e5 : appRows C s1 ts T2 (sev C s z) = some (c', rows) := by
          unfold appRows at e4 ⊢
          split at e4
          ·exact e4
          ·split at e4
           ·rename_i hi; rw [if_pos hi]; exact sView_up h.up e4
           ·cases e4
         rw [e5]
         simp only
         split at hr
         ·split at hr
          ·rename_i s2 h2
           obtain ⟨s3, h3, h4⟩ := h.fresh hz hd h2
           simp only [h3]
           simp only [Option.some.injEq, Prod.mk.injEq] at hr
           obtain ⟨rfl, rfl, rfl⟩ := hr
           exact ⟨_, rfl, h4.cons hd _⟩
          ·cases hr
         ·rename_i m e6
          split at hr
          ·rename_i us l e7
           have hk := h.nk e7
           rw [h.up _ _ e7]
           simp only
           split at hr
           ·rename_i hb; rw [dif_pos hb]
            split at hr
            ·rename_i s2 h2
             have hm := h.map hz (kap_kill m) hk (h.drops hk).1 (h.drops hk).2
             obtain ⟨s3, h3, h4⟩ := hm.fresh hz hd h2
             simp only [h3]
             simp only [Option.some.injEq, Prod.mk.injEq] at hr
             obtain ⟨rfl, rfl, rfl⟩ := hr
             exact ⟨_, rfl, h4.cons hd _⟩
            ·cases hr
           ·cases hr
          ·cases hr
         ·cases hr
        ·cases hr
       ·cases hr
      ·cases hr
     ·cases hr
   | _ => simp [sH] at hr
  | _ => simp [sH] at hr
 | _ => simp [sH] at hr
theorem sR_none {s s1 : SS} {op : Op} (hs : ∀ o ∈ op.operands.toList, sev C s1 o = sev C s o) {d0 : Nat} {y : List Bool × SV × SS} (hr : sH C s dst op = some y) : d0 = d0 → sR C s op = none → sR C s1 op = none := by
 intro _ hn
 cases op with
 | convert S T z =>
  have e : sev C s1 z = sev C s z := hs z (by simp [Op.operands])
  cases dst with
  | none => simp [sH] at hr
  | some d =>
   simp only [sH] at hr
   split at hr
   ·split at hr
    ·rename_i s2 h2
     split at hr
     ·rename_i b e1 e2
      split at hr
      ·rename_i hb
       have hT : ∃ ts by_, lkT C.G T = some (.slice ts by_) := by
        unfold isBytes at hb
        split at hb
        ·exact ⟨_, _, by assumption⟩
        ·cases hb
       obtain ⟨ts, by_, hT⟩ := hT
       simp [sR, hT]
      ·cases hr
     ·cases hr
    ·cases hr
   ·cases hr
 | call c =>
  obtain ⟨cal, args, argTypes⟩ := c
  cases cal with
  | builtin b => cases b <;> first | (simp [sH] at hr; done) | rfl
  | _ => simp [sH] at hr
 | _ => first | (simp [sH] at hr; done) | rfl
end
end Go.Abs
namespace Go.Abs
open Go.RowKit
variable {FT : List (Nat × Entry)} {dst : Option Tmp}
theorem toAT_bx {O : SObjs} {ts : Tys} {y : SV} {p : ts.T} (h1 : toAT O (.bx ts) y = some p) : ∃ n cs, y = .v (.c (.ref n ts.len 0 0)) ∧ lookS n O = some (.box cs) := by
 cases y with
 | tup l => simp [toAT] at h1
 | v x =>
  cases x with
  | g l => simp [toAT] at h1
  | c y =>
   cases y with
   | ref n sz i off =>
    cases i with
    | succ i => simp [toAT] at h1
    | zero =>
     cases off with
     | succ off => simp [toAT] at h1
     | zero =>
      simp only [toAT] at h1
      split at h1
      ·rename_i hs
       subst hs
       split at h1
       ·rename_i cs hl; exact ⟨n, cs, rfl, hl⟩
       ·cases h1
      ·cases h1
   | _ => simp [toAT] at h1
section
variable {kE kO : Nat → Bool} {x : Option SV} {ob : Option SO} {s s1 : SS}
theorem Ext.boxes {O0 : SObjs} : ∀ {l : List AT} {xs : List SV} {a : argsT l} {o : outsT (bxsOf l)} {E E1 : List (Nat × SV)} {O O1 : SObjs}, toArgs O0 l xs = some a → (∀ n o, lookS n O0 = some o → kO n = false) → Ext kE kO x ob ⟨E, O⟩ ⟨E1, O1⟩ →
  Ext kE kO x ob ⟨E, setBoxes l xs o O⟩ ⟨E1, setBoxes l xs o O1⟩
 | [], [], _, _, _, _, _, _, _, _, h => h
 | .v c :: l, y :: xs, a, o, E, E1, O, O1, ha, hk, h => by
  unfold toArgs at ha
  split at ha
  ·rename_i p q h1 h2
   exact Ext.boxes (l := l) h2 hk h
  ·cases ha
 | .bx ts :: l, y :: xs, a, o, E, E1, O, O1, ha, hk, h => by
  unfold toArgs at ha
  split at ha
  ·rename_i p q h1 h2
   obtain ⟨n, cs, rfl, hl⟩ := toAT_bx h1
   exact Ext.boxes (l := l) h2 hk (h.upd (hk n _ hl) _)
  ·cases ha
 | [], _ :: _, _, _, _, _, _, _, ha, _, _ => by cases ha
 | _ :: _, [], _, _, _, _, _, _, ha, _, _ => by cases ha
theorem Ext.ret (h : Ext kE kO x ob s s1) {d : Nat} (hd : kO d = false) : ∀ (r : RT) (y : r.T), (retS d s1 r y).1 = (retS d s r y).1 ∧ Ext kE kO x ob (retS d s r y).2 (retS d s1 r y).2
 | .v _, _ => ⟨rfl, h⟩
 | .tup _, _ => ⟨rfl, h⟩
 | .own _, _ => ⟨rfl, h.cons hd _⟩
 | .box _, _ => ⟨rfl, h.cons hd _⟩
 | .unit, _ => ⟨rfl, h⟩
variable {R : Type} {r : R} {K K1 : SS → Option R}
theorem obind_some {α β : Type} {y : Option α} {f : α → Option β} {r : β} (h : obind y f = some r) : ∃ a, y = some a ∧ f a = some r := by
 unfold obind at h
 cases y with
 | none => simp at h
 | some a => exact ⟨a, rfl, h⟩
theorem sCall_ext {C : Cfg} (h : Ext kE kO x ob s s1) (hz : Zok kO x ob) {f : FuncId} {xs : List Operand} (hx : ∀ o ∈ xs, offO kE o = true) (hd : ∀ t, dst = some t → kE t = false) (hdO : ∀ t, dst = some t → kO t = false) (hd9 : kO 999998 = false)
  (hK : ∀ s' s1', Ext kE kO x ob s' s1' → K s' = some r → K1 s1' = some r) (hr : sCall C FT false s dst f xs K = some r) : sCall C FT false s1 dst f xs K1 = some r := by
 have hdd : kO (dst.getD 999998) = false := by cases dst with | none => exact hd9 | some d => exact hdO d rfl
 unfold sCall at hr ⊢
 split at hr
 ·cases hr
 ·rename_i e he
  have key : ∀ s2 s3, Ext kE kO x ob s2 s3 → (match toArgs s2.objs e.sig.args (xs.map (sev C s2)) with
   | none => none
   | some a => if dst.getD 999998 < top ∧ e.sig.args.length ≤ 1000 ∧ okNames (bxNames e.sig.args (xs.map (sev C s2))) = true then
    obind (e.F a) fun r =>
     K ((retS (dst.getD 999998) ⟨s2.env, setBoxes e.sig.args (xs.map (sev C s2)) r.2 s2.objs⟩ e.sig.ret r.1).2.put dst
      (retS (dst.getD 999998) ⟨s2.env, setBoxes e.sig.args (xs.map (sev C s2)) r.2 s2.objs⟩ e.sig.ret r.1).1)
    else none) = some r → (match toArgs s3.objs e.sig.args (xs.map (sev C s3)) with
   | none => none
   | some a => if dst.getD 999998 < top ∧ e.sig.args.length ≤ 1000 ∧ okNames (bxNames e.sig.args (xs.map (sev C s3))) = true then
    obind (e.F a) fun r =>
     K1 ((retS (dst.getD 999998) ⟨s3.env, setBoxes e.sig.args (xs.map (sev C s3)) r.2 s3.objs⟩ e.sig.ret r.1).2.put dst
      (retS (dst.getD 999998) ⟨s3.env, setBoxes e.sig.args (xs.map (sev C s3)) r.2 s3.objs⟩ e.sig.ret r.1).1)
    else none) = some r := by
   intro s2 s3 h4 hr
   rw [map_sev fun o ho => h4.sev (hx o ho)]
   split at hr
   ·cases hr
   ·rename_i a ha
    rw [toArgs_up h4.up ha]
    simp only
    split at hr
    ·rename_i hc; rw [if_pos hc]
     obtain ⟨y, hy, hr⟩ := obind_some hr
     rw [hy]
     have hb := Ext.boxes (o := y.2) ha (fun n o hn => h4.nk hn) (E := s2.env) (E1 := s3.env) (O := s2.objs) (O1 := s3.objs) h4
     obtain ⟨g1, g2⟩ := hb.ret hdd e.sig.ret y.1
     simp only [obind, Option.bind]
     rw [g1]
     exact hK _ _ (g2.put hd _) hr
    ·cases hr
  cases hb : (bxsOf e.sig.args).isEmpty && gRT e.sig.ret with
  | true =>
   rw [hb] at hr
   simp only at hr ⊢
   split at hr
   ·cases hr
   ·rename_i s2 h2
    obtain ⟨s3, h3, h4⟩ := h.fresh hz hdd h2
    simp only [h3]
    exact key s2 s3 h4 hr
  | false =>
   rw [hb] at hr
   simp only at hr ⊢
   split at hr
   ·cases hr
   ·rename_i s2 h2
    obtain ⟨s3, h3, h4⟩ := h.prep hz hx hdd h2
    simp only [h3]
    exact key s2 s3 h4 hr
theorem br_cases {α : Type} {b : Bool} {y z : Option α} {r : α} (h : br b y z = some r) : (b = true ∧ y = some r) ∨ (b = false ∧ z = some r) := by
 cases b <;> simp [br] at h
 ·exact .inr ⟨rfl, h⟩
 ·exact .inl ⟨rfl, h⟩
theorem need_of {α : Type} {m : Option α} : ∀ {l : List Bool}, allT l → need l m = m
 | [], _ => rfl
 | c :: l, h => by
  obtain ⟨h1, h2⟩ := h
  subst h1
  simp only [need, br, if_true]
  exact need_of h2
theorem need_ext {R1 : Type} {r1 : R1} {l : List Bool} {m : Option R} {m1 : Option R1} (h : need l m = some r) (hm : m = some r → m1 = some r1) : need l m1 = some r1 := by
 obtain ⟨h1, h2⟩ := need_some h
 rw [need_of h1]; exact hm h2
theorem sOp0_ext {C : Cfg} (h : Ext kE kO x ob s s1) (hz : Zok kO x ob) {op : Op} (ho : ∀ o ∈ op.operands.toList, offO kE o = true) (hd : ∀ t, dst = some t → kE t = false) (hdO : ∀ t, dst = some t → kO t = false) (hd9 : kO 999998 = false)
  (hK : ∀ s' s1', Ext kE kO x ob s' s1' → K s' = some r → K1 s1' = some r) (hr : sOp0 C FT false s dst op K = some r) : sOp0 C FT false s1 dst op K1 = some r := by
 unfold sOp0 at hr ⊢
 split at hr
 ·rename_i f args _
  exact sCall_ext h hz (fun o hm => ho o (by simp only [Op.operands, Call.operands]; simpa using Or.inr hm)) hd hdO hd9 hK hr
 ·rename_i c a b
  have hc := h.sev (C := C) (ho c (by simp [Op.operands]))
  have ha := h.sev (C := C) (ho a (by simp [Op.operands]))
  have hb := h.sev (C := C) (ho b (by simp [Op.operands]))
  simp only [hc, ha, hb]
  split at hr
  ·rename_i t e
   rcases br_cases hr with ⟨h1, h2⟩ | ⟨h1, h2⟩
   ·subst h1; simp only [br, if_true]; exact hK _ _ (h.put hd _) h2
   ·subst h1; simp only [br]; exact hK _ _ (h.put hd _) h2
  ·cases hr
 ·rename_i hn1 hn2
  have hs : ∀ o ∈ op.operands.toList, sev C s1 o = sev C s o := fun o hm => h.sev (ho o hm)
  split at hr
  ·rename_i c v e
   rw [sR_up h.up hs e]
   exact need_ext hr fun hr => hK _ _ (h.put hd _) hr
  ·rename_i e
   simp only [Bool.false_eq_true, if_false] at hr ⊢
   split at hr
   ·rename_i c v s' e2
    rw [sR_none hs (d0 := 0) e2 rfl e]
    obtain ⟨s3, h3, h4⟩ := sH_ext h hz ho hdO e2
    simp only [h3]
    exact need_ext hr fun hr => hK _ _ (h4.put hd _) hr
   ·cases hr
theorem sOp_ext {C : Cfg} (h : Ext kE kO x ob s s1) (hz : Zok kO x ob) {op : Op} (ho : ∀ o ∈ op.operands.toList, offO kE o = true) (hd : ∀ t, dst = some t → kE t = false) (hdO : ∀ t, dst = some t → kO t = false) (hd9 : kO 999998 = false)
  (hK : ∀ s' s1', Ext kE kO x ob s' s1' → K s' = some r → K1 s1' = some r) (hr : sOp C FT false s dst op K = some r) : sOp C FT false s1 dst op K1 = some r := by
 unfold sOp at hr ⊢
 simp only at hr ⊢
 split at hr
 ·rename_i t e
  have ht : kE t = false := by
   have : Operand.tmp t ∈ op.operands.toList := by
    unfold appT at e
    split at e
    ·split at e
     ·rename_i args _ t' _ e2
      cases e
      simp [Op.operands, Call.operands, e2]
     ·cases e
    ·cases e
   simpa [offO] using ho _ this
  have go : ∀ s' s1', Ext kE kO x ob s' s1' → sOp0 C FT false s' dst op K = some r → sOp0 C FT false s1' dst op K1 = some r := fun s' s1' h' hr => sOp0_ext h' hz ho hd hdO hd9 hK hr
  simp only [trimB, show Nat.ble top top = true from rfl] at hr ⊢
  rw [h.get ht]
  split at hr
  ·rename_i y e2
   unfold trimC at hr ⊢
   split at hr
   ·rename_i n sz off j
    split at hr
    ·rename_i ts l e3
     rw [h.up _ _ e3]
     simp only
     have hk := h.nk e3
     split at hr
     ·rename_i hsz; rw [if_pos hsz]
      refine need_ext hr fun hr => go _ _ ?_ hr
      refine Ext.put ?_ (fun t' e' => by cases e'; exact ht) _
      exact (h.kap hz (kap_unown n ts.len (lLen l)) hk).upd hk _
     ·rename_i hsz; rw [if_neg hsz]
      exact go _ _ h hr
    ·rename_i e3
     split
     ·rename_i ts l e4
      exfalso
      cases hk : kO n with
      | false => rw [h.obj, hk] at e4; exact e3 ts l e4
      | true =>
       have hn := h.no n hk
       have := go
       unfold sOp0 at hr
       revert hr
       unfold appT at e
       split at e
       ·split at e
        ·rename_i args at_ t' l' e5
         cases e
         simp only [sR, sH, Bool.false_eq_true, if_false]
         intro hr
         split at hr
         ·rename_i e6
          cases dst with
          | none => simp at e6
          | some d =>
           simp only at e6
           split at e6
           ·split at e6
            ·rename_i y2 z2 T T2 e7 e8
             rw [e5] at e7
             cases e7
             have e9 : sev C s (.tmp t) = .v (.c (.msl n sz off j)) := e2
             rw [e9] at e6
             split at e6
             ·split at e6
              ·simp at e6
              ·cases e6
             ·cases e6
            ·cases e6
           ·cases e6
         ·cases hr
        ·cases e
       ·cases e
     ·exact go _ _ h hr
   ·exact go _ _ h hr
  ·exact go _ _ h hr
 ·exact sOp0_ext h hz ho hd hdO hd9 hK hr
end
end Go.Abs
namespace Go.Abs
open Go.RowKit
def Kp (s s' : SS) : Prop := ∀ t, nlSV (lkE s.env t) = true → lkE s'.env t = lkE s.env t
theorem nl_cl {c : CV} (h : nlCV c = true) (m : Nat) : clCV m c = true := by
  cases c <;> first | rfl | (simp [nlCV] at h)
theorem nl_clV {c : VV} (h : nlVV c = true) (m : Nat) : clVV m c = true := by
  cases c with
  | c c => exact nl_cl h m
  | g l => exact List.all_eq_true.2 fun a ha => nl_cl (List.all_eq_true.1 h a ha) m
theorem nl_clS {c : SV} (h : nlSV c = true) (m : Nat) : clSV m c = true := by
  cases c with
  | v c => exact nl_clV h m
  | tup l => exact List.all_eq_true.2 fun a ha => nl_clV (List.all_eq_true.1 h a ha) m
theorem Kp.rfl' (s : SS) : Kp s s := fun _ _ => rfl
theorem Kp.trans {a b c : SS} (h : Kp a b) (k : Kp b c) : Kp a c := fun t ht => by
  have h1 := h t ht
  rw [k t (by rw [h1]; exact ht), h1]
theorem Kp.map {s : SS} {m : Nat} {κ : CV → CV} (hκ : Kap m κ) (O : SObjs) : Kp s ⟨mapEC κ s.env, O⟩ := fun t ht => by
  simp only [lkE_map κ hκ.any]
  exact hκ.sv (nl_clS ht m)
theorem Kp.of_env {s s' : SS} (h : s'.env = s.env) : Kp s s' := fun t _ => by rw [h]
theorem fresh_kp {d : Nat} {s s' : SS} (h : freshS d s = some s') : Kp s s' := by
  unfold freshS at h
  split at h
  · cases h; exact .map (kap_kill d) _
  · cases h
theorem freeze_kp {n : Nat} {s s' : SS} (h : freezeS n s = some s') : Kp s s' := by
  unfold freezeS at h
  split at h
  · cases h; exact .map (kap_frz n _ _) _
  · cases h
theorem settle_kp {C : Cfg} {xs : List Operand} : ∀ (f : Nat) {s s' : SS}, settleS C f xs s = some s' → Kp s s'
  | 0, s, s', h => by simp only [settleS, Option.some.injEq] at h; subst h; exact .rfl' _
  | f + 1, s, s', h => by
    simp only [settleS] at h
    split at h
    · cases h; exact .rfl' _
    · split at h
      · rename_i s2 h2; exact (freeze_kp h2).trans (settle_kp f h)
      · cases h
theorem calm_kp {C : Cfg} {xs : List Operand} {s s' : SS} (h : calmS C xs s = some s') : Kp s s' := by
  unfold calmS at h
  split at h
  · rename_i s2 h2
    split at h
    · cases h; exact settle_kp 8 h2
    · cases h
  · cases h
theorem prep_kp {C : Cfg} {d : Nat} {xs : List Operand} {s s' : SS} (h : prepS C d xs s = some s') : Kp s s' := by
  unfold prepS at h
  split at h
  · rename_i s2 h2
    split at h
    · rename_i s3 h3
      split at h
      · cases h; exact (calm_kp h2).trans (fresh_kp h3)
      · cases h
    · cases h
  · cases h
theorem sH_kp {C : Cfg} {s : SS} {dst : Option Tmp} {op : Op} {c : List Bool} {v : SV} {s' : SS} (hr : sH C s dst op = some (c, v, s')) : Kp s s' := by
  unfold sH at hr
  split at hr
  · split at hr
    · split at hr
      · rename_i s2 h2
        split at hr
        · simp only [Option.some.injEq, Prod.mk.injEq] at hr
          obtain ⟨_, _, rfl⟩ := hr
          exact (fresh_kp h2).trans (.of_env rfl)
        · cases hr
      · cases hr
    · cases hr
  · split at hr
    · split at hr
      · rename_i s2 h2
        split at hr
        all_goals first
          | (simp only [Option.some.injEq, Prod.mk.injEq] at hr
             obtain ⟨_, _, rfl⟩ := hr
             exact (fresh_kp h2).trans (.of_env rfl))
          | cases hr
      · cases hr
    · cases hr
  · split at hr
    · split at hr
      · rename_i s2 ts by_ h2 e
        split at hr
        · split at hr
          · simp only [Option.some.injEq, Prod.mk.injEq] at hr
            obtain ⟨_, _, rfl⟩ := hr
            exact (prep_kp h2).trans (.of_env rfl)
          · cases hr
        · cases hr
      · cases hr
    · cases hr
  · split at hr
    · split at hr
      · rename_i s2 h2
        split at hr
        · simp only [Option.some.injEq, Prod.mk.injEq] at hr
          obtain ⟨_, _, rfl⟩ := hr
          exact (fresh_kp h2).trans (.of_env rfl)
        · cases hr
      · cases hr
    · cases hr
  · split at hr
    · split at hr
      · rename_i s2 h2
        split at hr
        · split at hr
          · simp only [Option.some.injEq, Prod.mk.injEq] at hr
            obtain ⟨_, _, rfl⟩ := hr
            exact (fresh_kp h2).trans (.of_env rfl)
          · cases hr
        · cases hr
      · cases hr
    · cases hr
  · split at hr
    · split at hr
      · split at hr
        · split at hr
          · simp only [Option.some.injEq, Prod.mk.injEq] at hr
            obtain ⟨_, _, rfl⟩ := hr
            exact .of_env rfl
          · cases hr
        · cases hr
      · split at hr
        · rename_i s2 h2
          split at hr
          · split at hr
            · split at hr
              · simp only [Option.some.injEq, Prod.mk.injEq] at hr
                obtain ⟨_, _, rfl⟩ := hr
                exact (calm_kp h2).trans (.of_env rfl)
              · cases hr
            · cases hr
          · cases hr
        · cases hr
      · cases hr
    · cases hr
  · split at hr
    · split at hr
      · split at hr
        · split at hr
          · split at hr
            · split at hr
              · rename_i s2 h2
                simp only [Option.some.injEq, Prod.mk.injEq] at hr
                obtain ⟨_, _, rfl⟩ := hr
                exact (fresh_kp h2).trans (.of_env rfl)
              · cases hr
            · split at hr
              · split at hr
                · split at hr
                  · rename_i s2 h2
                    simp only [Option.some.injEq, Prod.mk.injEq] at hr
                    obtain ⟨_, _, rfl⟩ := hr
                    exact ((Kp.map (kap_kill _) _).trans (fresh_kp h2)).trans (.of_env rfl)
                  · cases hr
                · cases hr
              · cases hr
            · cases hr
          · cases hr
        · cases hr
      · cases hr
    · cases hr
  · cases hr
def Kd (dst : Option Tmp) (s s' : SS) : Prop := ∀ t, dst ≠ some t → nlSV (lkE s.env t) = true → lkE s'.env t = lkE s.env t
theorem Kp.put {s s' : SS} (h : Kp s s') (dst : Option Tmp) (v : SV) : Kd dst s (s'.put dst v) := fun t ht hn => by
  cases dst with
  | none => exact h t hn
  | some d =>
    simp only [SS.put, lkE]
    rw [if_neg fun e => ht (by rw [e])]
    exact h t hn
theorem Kp.kd {s s' s2 : SS} {dst : Option Tmp} (h : Kp s s') (k : Kd dst s' s2) : Kd dst s s2 := fun t ht hn => by
  have h1 := h t hn
  rw [k t ht (by rw [h1]; exact hn), h1]
theorem ret_env {d : Nat} {s : SS} : ∀ (r : RT) (y : r.T), (retS d s r y).2.env = s.env
  | .v _, _ => rfl
  | .tup _, _ => rfl
  | .own _, _ => rfl
  | .box _, _ => rfl
  | .unit, _ => rfl
section
variable {R R1 : Type} {r : R} {r1 : R1} {K : SS → Option R} {K1 : SS → Option R1}
theorem sCall_kd {C : Cfg} {FT : List (Nat × Entry)} {s : SS} {dst : Option Tmp} {f : FuncId} {xs : List Operand}
    (hK : ∀ s', Kd dst s s' → K s' = some r → K1 s' = some r1) (hr : sCall C FT false s dst f xs K = some r) : sCall C FT false s dst f xs K1 = some r1 := by
  unfold sCall at hr ⊢
  split at hr
  · cases hr
  · rename_i e he
    have key : ∀ s2, Kp s s2 → (match toArgs s2.objs e.sig.args (xs.map (sev C s2)) with
      | none => none
      | some a => if dst.getD 999998 < top ∧ e.sig.args.length ≤ 1000 ∧ okNames (bxNames e.sig.args (xs.map (sev C s2))) = true then
        obind (e.F a) fun r =>
          K ((retS (dst.getD 999998) ⟨s2.env, setBoxes e.sig.args (xs.map (sev C s2)) r.2 s2.objs⟩ e.sig.ret r.1).2.put dst
            (retS (dst.getD 999998) ⟨s2.env, setBoxes e.sig.args (xs.map (sev C s2)) r.2 s2.objs⟩ e.sig.ret r.1).1)
        else none) = some r → (match toArgs s2.objs e.sig.args (xs.map (sev C s2)) with
      | none => none
      | some a => if dst.getD 999998 < top ∧ e.sig.args.length ≤ 1000 ∧ okNames (bxNames e.sig.args (xs.map (sev C s2))) = true then
        obind (e.F a) fun r =>
          K1 ((retS (dst.getD 999998) ⟨s2.env, setBoxes e.sig.args (xs.map (sev C s2)) r.2 s2.objs⟩ e.sig.ret r.1).2.put dst
            (retS (dst.getD 999998) ⟨s2.env, setBoxes e.sig.args (xs.map (sev C s2)) r.2 s2.objs⟩ e.sig.ret r.1).1)
        else none) = some r1 := by
      intro s2 h2 hr
      split at hr
      · cases hr
      · rename_i a ha
        split at hr
        · rename_i hc; rw [if_pos hc]
          obtain ⟨y, hy, hr⟩ := obind_some hr
          rw [hy]
          simp only [obind, Option.bind]
          exact hK _ ((h2.trans (.of_env (by rw [ret_env]))).put dst _) hr
        · cases hr
    cases hb : (bxsOf e.sig.args).isEmpty && gRT e.sig.ret with
    | true =>
      rw [hb] at hr
      simp only at hr ⊢
      split at hr
      · cases hr
      · rename_i s2 h2
        exact key s2 (fresh_kp h2) hr
    | false =>
      rw [hb] at hr
      simp only at hr ⊢
      split at hr
      · cases hr
      · rename_i s2 h2
        exact key s2 (prep_kp h2) hr
theorem sOp0_kd {C : Cfg} {FT : List (Nat × Entry)} {s : SS} {dst : Option Tmp} {op : Op}
    (hK : ∀ s', Kd dst s s' → K s' = some r → K1 s' = some r1) (hr : sOp0 C FT false s dst op K = some r) : sOp0 C FT false s dst op K1 = some r1 := by
  unfold sOp0 at hr ⊢
  split at hr
  · exact sCall_kd hK hr
  · rename_i c a b
    split at hr
    · rename_i t e
      rcases br_cases hr with ⟨h1, h2⟩ | ⟨h1, h2⟩
      · subst h1; simp only [br, if_true]; exact hK _ ((Kp.rfl' s).put dst _) h2
      · subst h1; simp only [br]; exact hK _ ((Kp.rfl' s).put dst _) h2
    · cases hr
  · rename_i hn1 hn2
    split at hr
    · rename_i c v e
      exact need_ext hr fun hr => hK _ ((Kp.rfl' s).put dst _) hr
    · rename_i e
      simp only [Bool.false_eq_true, if_false] at hr ⊢
      split at hr
      · rename_i c v s' e2
        exact need_ext hr fun hr => hK _ ((sH_kp e2).put dst _) hr
      · cases hr
theorem trimC_kp {s : SS} {x : CV} {put : Nat → SS → SS} {Q : SS → Prop} (hput : ∀ n sz off j s', x = .msl n sz off j → Kp s s' → Q (put n s')) (h0 : Q s) (hK : ∀ s', Q s' → K s' = some r → K1 s' = some r1) (hr : trimC s x put K = some r) : trimC s x put K1 = some r1 := by
  unfold trimC at hr ⊢
  split at hr
  · split at hr
    · split at hr
      · rename_i hsz
        rw [if_pos hsz]
        exact need_ext hr fun hr => hK _ (hput _ _ _ _ _ rfl (.map (kap_unown _ _ _) _)) hr
      · rename_i hsz
        rw [if_neg hsz]
        exact hK _ h0 hr
    · exact hK _ h0 hr
  · exact hK _ h0 hr
theorem sOp_kd {C : Cfg} {FT : List (Nat × Entry)} {s : SS} {dst : Option Tmp} {op : Op}
    (hK : ∀ s', Kd dst s s' → K s' = some r → K1 s' = some r1) (hr : sOp C FT false s dst op K = some r) : sOp C FT false s dst op K1 = some r1 := by
  unfold sOp at hr ⊢
  simp only at hr ⊢
  split at hr
  · rename_i t e
    simp only [trimB, show Nat.ble top top = true from rfl] at hr ⊢
    split at hr
    · rename_i y e2
      refine trimC_kp (Q := fun s' => Kp s s') (fun n sz off j s' hy h' => ?_) (.rfl' s) (fun s' h' hr => ?_) hr
      · intro t' ht'
        have hne : t ≠ t' := fun e3 => by
          subst e3
          unfold SS.get at e2
          split at e2
          · rw [e2, hy] at ht'
            simp [nlSV, nlVV, nlCV] at ht'
          · cases e2; cases hy
        simp only [SS.put, lkE, if_neg hne]
        exact h' t' ht'
      · exact sOp0_kd (fun s2 h2 => hK s2 (h'.kd h2)) hr
    · exact sOp0_kd hK hr
  · exact sOp0_kd hK hr
end
end Go.Abs
namespace Go.Abs
open Go.RowKit
variable {FT : List (Nat × Entry)} {C : Cfg} {s : SS} {d : Nat}
theorem sOp_none {dst : Option Tmp} {op : Op} {R : Type} {r : R} (h : sOp C FT false s dst op (fun _ => (none : Option R)) = some r) : False := by
 have h1 := sOp_kd (r1 := true) (K1 := fun _ => (none : Option Bool)) (fun _ _ h => by cases h) h
 have h2 := sOp_kd (r1 := false) (K1 := fun _ => (none : Option Bool)) (fun _ _ h => by cases h) h
 rw [h1] at h2; cases h2
theorem nl_ofCS (v : Value) : nlCV (ofCS v) = true := by
 unfold ofCS
 split <;> first | rfl | (split <;> rfl)
theorem nl_ofVS (v : Value) : nlSV (ofVS v) = true := by
 unfold ofVS
 split
 ·split
  ·simp only [nlSV, nlVV, List.all_map]
   exact List.all_eq_true.2 fun x _ => nl_ofCS x
  ·rfl
 ·exact nl_ofCS _
theorem sev_kp {s s' : SS} (h : Kp s s') {o : Operand} (hn : nlSV (sev C s o) = true) : sev C s' o = sev C s o := by
 cases o with
 | tmp t =>
  simp only [sev, SS.get] at hn ⊢
  split
  ·rename_i ht
   rw [if_pos ht] at hn
   exact h t hn
  ·rfl
 | _ => rfl
theorem cellsS_nl {O O' : SObjs} {x : SV} (hn : nlSV x = true) : cellsS O x = cellsS O' x := by
 cases x with
 | tup l => rfl
 | v x => cases x with
  | g l => rfl
  | c c => cases c <;> first | rfl | (simp [nlSV, nlVV, nlCV] at hn)
theorem cells_nl {O : SObjs} {x : SV} {cs : List CV} (hn : nlSV x = true) (h : cellsS O x = some cs) : cs.all nlCV = true := by
 cases x with
 | tup l => cases h
 | v x => cases x with
  | g l => simp only [cellsS, Option.some.injEq] at h; subst h; exact hn
  | c c =>
   simp only [cellsS] at h
   split at h
   ·cases h; simpa [nlSV, nlVV] using hn
   ·cases h
theorem toRows_nl {O O' : SObjs} {ts : Tys} : ∀ {xs : List SV}, xs.all nlSV = true → toRows O ts xs = toRows O' ts xs
 | [], _ => rfl
 | x :: r, h => by
  simp only [List.all_cons, Bool.and_eq_true] at h
  simp only [toRows]
  rw [cellsS_nl (O' := O') h.1, toRows_nl (O' := O') h.2]
theorem firstC_nl : ∀ {l : List CV}, l.all nlCV = true → firstC l = none
 | [], _ => rfl
 | x :: r, h => by
  simp only [List.all_cons, Bool.and_eq_true] at h
  have ih := firstC_nl h.2
  cases x <;> first | exact ih | (simp [nlCV] at h)
theorem flat_nl {xs : List Operand} (h : ∀ o ∈ xs, nlSV (sev C s o) = true) : firstC (xs.flatMap fun o => cellsOfS (sev C s o)) = none := by
 refine firstC_nl (List.all_eq_true.2 fun c hc => ?_)
 obtain ⟨o, ho, hc⟩ := List.mem_flatMap.1 hc
 have := h o ho
 cases hx : sev C s o with
 | tup l => rw [hx] at hc; cases hc
 | v x => cases x with
  | g l => rw [hx] at hc this; exact List.all_eq_true.1 this c hc
  | c y =>
   rw [hx] at hc this
   simp only [cellsOfS, List.mem_singleton] at hc
   subst hc; exact this
theorem zc_nl : ∀ ts : Tys, ts.zc.all nlCV = true
 | .nil => rfl
 | .cons t ts => by
  simp only [Tys.zc, List.all_cons, Bool.and_eq_true]
  exact ⟨by cases t <;> rfl, zc_nl ts⟩
theorem all_cl {cs : List CV} (h : cs.all nlCV = true) (m : Nat) : cs.all (clCV m) = true := List.all_eq_true.2 fun c hc => nl_cl (List.all_eq_true.1 h c hc) m
theorem sOp_gentle {dst : Option Tmp} {op : Op} (hg : gentleO op = true) {R : Type} (K : SS → Option R) : sOp C FT false s dst op K = match sH C s dst op with
  | some (c, x, s') => need c (K (s'.put dst x))
  | none => none := by
 cases op <;> first | rfl | (simp [gentleO] at hg)
structure GOut (C : Cfg) (FT : List (Nat × Entry)) (d : Nat) (op : Op) (s : SS) (v : SV) (ob : SO) : Prop where
 clv : ∀ m, m ≠ d → clSV m v = true
 clo : ∀ m cs, ob = .box cs → cs.all (clCV m) = true
 arr : isBS op = true → ∃ ts l, ob = .arr ts l ∧ v = .v (.c (.own d))
 run : ∀ s2, (∀ o ∈ op.operands.toList, sev C s2 o = sev C s o) → lookS d s2.objs = none → ∀ {R : Type} (K : SS → Option R), sOp C FT false s2 (some d) op K = K ⟨(d, v) :: mapEC (killC d) s2.env, (d, ob) :: mapOC (killC d) s2.objs⟩
theorem GOut.same {op : Op} {s s' : SS} {v : SV} {ob : SO} (h : GOut C FT d op s v ob) (he : ∀ o ∈ op.operands.toList, sev C s' o = sev C s o) : GOut C FT d op s' v ob :=
 ⟨h.clv, h.clo, h.arr, fun s2 h2 hn _ K => h.run s2 (fun o ho => (h2 o ho).trans (he o ho)) hn K⟩
theorem fresh_eq (h : lookS d s.objs = none) : freshS d s = some ⟨mapEC (killC d) s.env, mapOC (killC d) s.objs⟩ := by
 unfold freshS; rw [h]
theorem prep_nl {xs : List Operand} (hn : ∀ o ∈ xs, nlSV (sev C s o) = true) : prepS C d xs s = freshS d s := by
 have h1 : settleS C 8 xs s = some s := by simp only [settleS, flat_nl hn]
 have h2 : calmS C xs s = some s := by simp only [calmS, h1, flat_nl hn]
 unfold prepS
 rw [h2]
 simp only
 cases hf : freshS d s with
 | none => rfl
 | some s2 =>
  have : firstC (xs.flatMap fun o => cellsOfS (sev C s2 o)) = none := flat_nl fun o ho => by
   rw [sev_kp (fresh_kp hf) (hn o ho)]; exact hn o ho
  simp only [this]
theorem gout_alloc {T : TypeId} {v : SV} {ob : SO} (hx : ∀ s, lookS d s.objs = none → sH C s (some d) (.alloc T) = some ([], v, ⟨mapEC (killC d) s.env, (d, ob) :: mapOC (killC d) s.objs⟩))
  (hv : ∀ m, m ≠ d → clSV m v = true) (ho : ∀ m cs, ob = .box cs → cs.all (clCV m) = true) : GOut C FT d (.alloc T) s v ob :=
 ⟨hv, ho, fun h => (by cases h), fun s3 _ hn3 R K => by rw [sOp_gentle rfl, hx s3 hn3]; rfl⟩
theorem gentle_out {op : Op} (hg : gentleO op = true) (hn : ∀ o ∈ op.operands.toList, nlSV (sev C s o) = true) {R : Type} {K : SS → Option R} {r : R} (hr : sOp C FT false s (some d) op K = some r) :
  ∃ v ob, GOut C FT d op s v ob := by
 rw [sOp_gentle hg] at hr
 cases op with
 | box T y =>
  simp only [sH] at hr
  split at hr
  case h_2 => cases hr
  rename_i c x s' h1
  split at h1
  case isFalse => cases h1
  rename_i hd
  split at h1
  case h_2 => cases h1
  rename_i s2 h2
  split at h1
  case h_2 => cases h1
  rename_i cs h3
  have hy := hn y (by simp [Op.operands])
  rw [sev_kp (fresh_kp h2) hy] at h3
  refine ⟨.v (.c (.ref d cs.length 0 0)), .box cs, fun m hm => ?_, fun m cs' e => ?_, fun h => (by cases h), fun s3 hs hn3 R K => ?_⟩
  ·simp [clSV, clVV, clCV, hm.symm]
  ·cases e; exact all_cl (cells_nl hy h3) m
  ·rw [sOp_gentle rfl]
   simp only [sH, if_pos hd, fresh_eq hn3]
   have e1 := hs y (by simp [Op.operands])
   have e2 : sev C ⟨mapEC (killC d) s3.env, mapOC (killC d) s3.objs⟩ y = sev C s y := by
    rw [← e1]; exact sev_kp (.map (kap_kill d) _) (by rw [e1]; exact hy)
   rw [e2, cellsS_nl (O' := s2.objs) hy, h3]
   rfl
 | alloc T =>
  simp only [sH] at hr
  split at hr
  case h_2 => cases hr
  rename_i c x s' h1
  split at h1
  case isFalse => cases h1
  rename_i hd
  split at h1
  case h_2 => cases h1
  rename_i s2 h2
  split at h1
  ·rename_i n ts e
   exact ⟨_, _, gout_alloc (v := .v (.c (.ref d ts.len 0 0))) (ob := .arr ts (lRep n ts.d)) (fun s3 hn3 => by simp only [sH, if_pos hd, fresh_eq hn3, e]) (fun m hm => by simp [clSV, clVV, clCV, hm.symm]) (fun m cs' e' => by cases e')⟩
  ·rename_i ts fs b e
   exact ⟨_, _, gout_alloc (v := .v (.c (.ref d ts.len 0 0))) (ob := .box ts.zc) (fun s3 hn3 => by simp only [sH, if_pos hd, fresh_eq hn3, e]) (fun m hm => by simp [clSV, clVV, clCV, hm.symm]) (fun m cs' e' => by cases e'; exact all_cl (zc_nl _) m)⟩
  ·rename_i k e
   exact ⟨_, _, gout_alloc (v := .v (.c (.ref d 1 0 0))) (ob := .box [.k (.int k 0)]) (fun s3 hn3 => by simp only [sH, if_pos hd, fresh_eq hn3, e]) (fun m hm => by simp [clSV, clVV, clCV, hm.symm]) (fun m cs' e' => by cases e'; rfl)⟩
  ·rename_i  e
   exact ⟨_, _, gout_alloc (v := .v (.c (.ref d 1 0 0))) (ob := .box [.k (.bool false)]) (fun s3 hn3 => by simp only [sH, if_pos hd, fresh_eq hn3, e]) (fun m hm => by simp [clSV, clVV, clCV, hm.symm]) (fun m cs' e' => by cases e'; rfl)⟩
  ·rename_i  e
   exact ⟨_, _, gout_alloc (v := .v (.c (.ref d 1 0 0))) (ob := .box [.k (.str [])]) (fun s3 hn3 => by simp only [sH, if_pos hd, fresh_eq hn3, e]) (fun m hm => by simp [clSV, clVV, clCV, hm.symm]) (fun m cs' e' => by cases e'; rfl)⟩
  ·rename_i ts b e
   exact ⟨_, _, gout_alloc (v := .v (.c (.ref d 1 0 0))) (ob := .box [.nsl]) (fun s3 hn3 => by simp only [sH, if_pos hd, fresh_eq hn3, e]) (fun m hm => by simp [clSV, clVV, clCV, hm.symm]) (fun m cs' e' => by cases e'; rfl)⟩
  ·rename_i c0 e
   exact ⟨_, _, gout_alloc (v := .v (.c (.ref d 1 0 0))) (ob := .box [.cst c0]) (fun s3 hn3 => by simp only [sH, if_pos hd, fresh_eq hn3, e]) (fun m hm => by simp [clSV, clVV, clCV, hm.symm]) (fun m cs' e' => by cases e'; rfl)⟩
  ·cases h1
 | buildSlice T len parts =>
  have hp : ∀ o ∈ parts.toList.map (·.2), nlSV (sev C s o) = true := fun o ho => hn o (by simpa [Op.operands] using ho)
  simp only [sH] at hr
  split at hr
  case h_2 => cases hr
  rename_i c x s' h1
  split at h1
  case isFalse => cases h1
  rename_i hd
  rw [prep_nl hp] at h1
  split at h1
  case h_2 => cases h1
  rename_i s2 ts by_ h2 e
  split at h1
  case h_2 => cases h1
  rename_i rows h3
  split at h1
  case isFalse => cases h1
  rename_i hc
  have e0 : ((parts.toList.map (·.2)).map (sev C s2)) = (parts.toList.map (·.2)).map (sev C s) := List.map_congr_left fun o ho => sev_kp (fresh_kp h2) (hp o ho)
  rw [e0] at h3
  refine ⟨.v (.c (.own d)), .arr ts rows, fun m hm => ?_, fun m cs' e => (by cases e), fun _ => ⟨_, _, rfl, rfl⟩, fun s3 hs hn3 R K => ?_⟩
  ·simp [clSV, clVV, clCV, hm.symm]
  ·rw [sOp_gentle rfl]
   have hs' : ∀ o ∈ parts.toList.map (·.2), sev C s3 o = sev C s o := fun o ho => hs o (by simpa [Op.operands] using ho)
   simp only [sH, if_pos hd]
   rw [prep_nl (fun o ho => by rw [hs' o ho]; exact hp o ho), fresh_eq hn3, e]
   simp only
   have e1 : ((parts.toList.map (·.2)).map (sev C ⟨mapEC (killC d) s3.env, mapOC (killC d) s3.objs⟩)) = (parts.toList.map (·.2)).map (sev C s) := List.map_congr_left fun o ho => by
    rw [← hs' o ho]; exact sev_kp (.map (kap_kill d) _) (by rw [hs' o ho]; exact hp o ho)
   rw [e1, toRows_nl (O' := s2.objs) (by simp only [List.all_map]; exact List.all_eq_true.2 fun p hp' => hp p.2 (List.mem_map.2 ⟨p, hp', rfl⟩)), h3]
   simp only [if_pos hc]
   rfl
 | makeSlice T l m =>
  have hl := hn l (by simp [Op.operands])
  have hm := hn m (by simp [Op.operands])
  simp only [sH] at hr
  split at hr
  case h_2 => cases hr
  rename_i c x s' h1
  split at h1
  case isFalse => cases h1
  rename_i hd
  split at h1
  case h_2 => cases h1
  rename_i s2 h2
  split at h1
  case h_2 => cases h1
  rename_i ts by_ n k e en ek
  rw [sev_kp (fresh_kp h2) hl] at en
  rw [sev_kp (fresh_kp h2) hm] at ek
  simp only [Option.some.injEq, Prod.mk.injEq] at h1
  obtain ⟨rfl, rfl, rfl⟩ := h1
  have hc := (need_some hr).1
  refine ⟨.v (.c (.own d)), .arr ts (lRep (nInt n) ts.d), fun m' hm' => ?_, fun m' cs e' => (by cases e'), fun h => (by cases h), fun s3 hs hn3 R K => ?_⟩
  ·simp [clSV, clVV, clCV, hm'.symm]
  ·rw [sOp_gentle rfl]
   have e1 := hs l (by simp [Op.operands])
   have e2 := hs m (by simp [Op.operands])
   have f1 : sev C ⟨mapEC (killC d) s3.env, mapOC (killC d) s3.objs⟩ l = sev C s l := by
    rw [← e1]; exact sev_kp (.map (kap_kill d) _) (by rw [e1]; exact hl)
   have f2 : sev C ⟨mapEC (killC d) s3.env, mapOC (killC d) s3.objs⟩ m = sev C s m := by
    rw [← e2]; exact sev_kp (.map (kap_kill d) _) (by rw [e2]; exact hm)
   simp only [sH, if_pos hd, fresh_eq hn3, e, f1, f2, en, ek]
   exact need_of hc
 | _ => simp [gentleO] at hg
end Go.Abs
