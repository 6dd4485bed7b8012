/- Calls: soundness, 3; one operation, a list of operations. -/
import Derived.Test.YtplngcjkghnkcaaExK
namespace Go.Abs
open Go.RowKit

theorem retS_made {N : Nat} {s : SS} {dst : Option Tmp} {objs' : List (Nat × Obj)} {g : RT} {y : g.T} (hno : NoOwn (dst.getD 999998) s) (hobj : (s.st N).objs = objs') :
    ((retS (dst.getD 999998) s g y).2.put dst (retS (dst.getD 999998) s g y).1).st N =
      ⟨putA (s.st N).env dst (rename (dst.getD 999998) (g.av y)), (match g.new y with | some o => (dst.getD 999998, o) :: objs' | none => objs')⟩ := by
  subst hobj
  have cren : ∀ (c : CT) (x : c.T) d, rename d (c.av x) = c.av x := by
    intro c x d
    cases c with
    | ty t => cases t <;> rfl
    | ag ts => rfl
  cases g with
  | v c => simp only [retS, RT.new, RT.av]; rw [put_st, csv_av, cren]
  | tup l =>
    simp only [retS, RT.new, RT.av]
    rw [put_st]
    simp only [SV.av, vvs_av, rename]
  | own ts =>
    simp only [retS, RT.new, RT.av]
    generalize hd : dst.getD 999998 = d at *
    have h1 : rename d (.msl rn ts.len 0 y.length) = .msl d ts.len 0 y.length := by simp [rename]
    rw [h1, put_st, own_av, (st_cons (N := N) hno _).1]
    congr 1
    show objsAV ((d, SO.arr ts y) :: s.objs) ((d, SO.arr ts y) :: s.objs) = _
    simp only [objsAV, (st_cons (N := N) hno _).2]; rfl
  | box ts =>
    simp only [retS, RT.new, RT.av]
    generalize hd : dst.getD 999998 = d at *
    have h1 : rename d (.ref rn ts.len 0 0) = .ref d ts.len 0 0 := by simp [rename]
    rw [h1, put_st, (st_cons (N := N) hno _).1]
    congr 1
    show objsAV ((d, SO.box ((ts.kvs y).map CV.k)) :: s.objs) ((d, SO.box ((ts.kvs y).map CV.k)) :: s.objs) = _
    simp only [objsAV, (st_cons (N := N) hno _).2, SO.av, kvs_cav]; rfl
  | unit => simp only [retS, RT.new, RT.av]; rw [put_st]; rfl

theorem toArgs_len : ∀ {l : List AT} {xs : List SV} {O : SObjs} {a : argsT l}, toArgs O l xs = some a → l.length = xs.length
  | [], [], _, _, _ => rfl
  | [], _ :: _, _, _, h => by simp [toArgs] at h
  | _ :: _, [], _, _, h => by simp [toArgs] at h
  | c :: l, x :: xs, O, a, h => by
    simp only [toArgs] at h
    split at h
    · rename_i p q h1 h2; simp [toArgs_len h2]
    · cases h

theorem flat_names {C : Cfg} {s : SS} (xs : List Operand) : (xs.map (sev C s)).flatMap cellsOfS = xs.flatMap fun o => cellsOfS (sev C s o) := by
  rw [List.flatMap_map]

/-- A call that is given what it takes. -/
theorem give_call {P : Program} {FT : List (Nat × Entry)} (hFT : FTok P FT) {C : Cfg} {s : SS} {dst : Option Tmp} {f : FuncId} {e : Entry} {xs : List Operand} {a : argsT e.sig.args} {q : e.sig.R}
    (he : lkF FT f = some e) (hno : NoOwn (dst.getD 999998) s) (hnm : firstC (xs.flatMap fun o => cellsOfS (sev C s o)) = none) (ha : toArgs s.objs e.sig.args (xs.map (sev C s)) = some a) (hF : e.F a = some q)
    (hd : dst.getD 999998 < top) (hl : e.sig.args.length ≤ 1000) (hn : okNames (bxNames e.sig.args (xs.map (sev C s))) = true) :
    ∃ Φ hr, Sound P Φ ∧ cOp Φ (s.st C.N).env (s.st C.N).objs (dst.getD 999998) f xs = some hr ∧
      (⟨putA hr.env dst hr.x, hr.objs⟩ : St) = ((retS (dst.getD 999998) ⟨s.env, setBoxes e.sig.args (xs.map (sev C s)) q.2 s.objs⟩ e.sig.ret q.1).2.put dst
            (retS (dst.getD 999998) ⟨s.env, setBoxes e.sig.args (xs.map (sev C s)) q.2 s.objs⟩ e.sig.ret q.1).1).st C.N ∧
      firstName ((xs.map (ev (s.st C.N).env)).flatMap cellList) = none ∧ (∀ n, n ≠ dst.getD 999998 → n ∉ bxNames e.sig.args (xs.map (sev C s)) → look n hr.objs = look n (s.st C.N).objs) := by
  obtain ⟨hfun, hTC⟩ := hFT f e he
  obtain ⟨n1, n2, n3⟩ := okNames_spec hn
  -- names
  obtain ⟨b1, b2⟩ := bxPos_spec e.sig.args 0
  have hcl : ((bxPos e.sig.args 0).map canon).length = (bxNames e.sig.args (xs.map (sev C s))).length := by
    rw [List.length_map]; exact bxNames_len 0 ha
  have hcn : ((bxPos e.sig.args 0).map canon).Nodup := by
    have : ∀ l : List Nat, l.Nodup → (l.map canon).Nodup := by
      intro l
      induction l with
      | nil => intro _; exact List.nodup_nil
      | cons x l ih =>
        intro h
        simp only [List.nodup_cons] at h
        simp only [List.map_cons, List.nodup_cons, List.mem_map, not_exists, not_and]
        exact ⟨fun y hy e => h.1 (by have : y = x := by unfold canon at e; omega
                                     rwa [← this]), ih h.2⟩
    exact this _ b2
  have hct : ∀ n ∈ (bxPos e.sig.args 0).map canon, n < top ∧ n ≠ rn := by
    intro n hn
    obtain ⟨j, hj, rfl⟩ := List.mem_map.1 hn
    have := b1 j hj
    unfold canon top rn
    omega
  obtain ⟨π, hπ⟩ := perm_of _ _ hcl hcn n1 hct n2
  have hν : (bxPos e.sig.args 0).map (fun i => π.g (canon i)) = bxNames e.sig.args (xs.map (sev C s)) := by
    rw [← hπ, List.map_map]; rfl
  obtain ⟨k1, k2, k3, k4, k5⟩ := give_args (ν := fun i => π.g (canon i)) (i := 0) ha (by rw [flat_names]; exact hnm) hν
  have hc := contract_ren π (hTC a q hF)
  rw [ren_args, ren_os, ren_cr] at hc
  have hc := contract_le hc k1 k5
  rw [← evs_av] at hc k2 k3
  have hlk : ∀ n ∈ bxNames e.sig.args (xs.map (sev C s)), ∃ cs, look n (s.st C.N).objs = some (.box cs) ∧ cs.all plainC = true := by
    intro n hn
    obtain ⟨cs, h1, h2⟩ := k4 n hn
    refine ⟨cs.map (CV.av s.objs), ?_, plainCC_all h2⟩
    show look n (objsAV s.objs s.objs) = _
    rw [lookS_av, h1]; rfl
  obtain ⟨s1, s2, s3, s4⟩ := setBoxes_spec (ν := fun i => π.g (canon i)) (i := 0) (o := q.2) (O := s.objs) hν (toArgs_len ha) (fun n hn => by obtain ⟨cs, h1, _⟩ := k4 n hn; exact ⟨cs, h1⟩)
  refine ⟨one f (xs.map (ev (s.st C.N).env)) (lookAll (bxNames e.sig.args (xs.map (sev C s))) (s.st C.N).objs) (crAV (fun i => π.g (canon i)) e.sig q),
    ⟨rename (dst.getD 999998) (e.sig.ret.av q.1), (s.st C.N).env, (match e.sig.ret.new q.1 with | some o => (dst.getD 999998, o) :: updAll (outsAV (fun i => π.g (canon i)) e.sig.args 0 q.2) (s.st C.N).objs | none => updAll (outsAV (fun i => π.g (canon i)) e.sig.args 0 q.2) (s.st C.N).objs)⟩, one_sound hfun hc, ?_, ?_, ?_, ?_⟩
  rotate_left 2
  · rw [List.flatMap_map]; exact names_none hnm
  · intro n hn1 hn2
    have hup : ∀ (l : List (Nat × Obj)) (O : List (Nat × Obj)), n ∉ l.map (·.1) → look n (updAll l O) = look n O := by
      intro l
      induction l with
      | nil => intro O _; rfl
      | cons p l ih =>
        obtain ⟨m, o⟩ := p
        intro O hm
        simp only [List.map_cons, List.mem_cons, not_or] at hm
        rw [updAll, ih _ hm.2, look_upd_ne _ (Ne.symm hm.1)]
    have hup2 := hup (outsAV (fun i => π.g (canon i)) e.sig.args 0 q.2) (s.st C.N).objs (by rw [outs_fst, hν]; exact hn2)
    cases e.sig.ret.new q.1 with
    | none => exact hup2
    | some o => simp only [look, if_neg (Ne.symm hn1)]; exact hup2
  · unfold cOp
    have hfn : firstName ((xs.map (ev (s.st C.N).env)).flatMap cellList) = none := by
      rw [List.flatMap_map]; exact names_none hnm
    rw [hfn]
    simp only [cGive, k3]
    rw [if_pos ⟨k2, lookAll_fst (fun n hn => by obtain ⟨cs, h1, _⟩ := hlk n hn; rw [h1]; rfl), n1, boxesOk_look' hlk, look_none hno.1, hd, n3⟩]
    simp only [one_eq]
    have h2 : (crAV (fun i => π.g (canon i)) e.sig q).os.map (·.1) = bxNames e.sig.args (xs.map (sev C s)) := by
      show (outsAV _ _ _ _).map (·.1) = _
      rw [outs_fst, hν]
    rw [if_pos ⟨h2, outs_ok, newOk_r e.sig.ret q.1⟩]
    rfl
  · have hidem : ∀ (d : Nat) (O : SObjs), mapOC (killC d) (mapOC (killC d) O) = mapOC (killC d) O := by
      intro d O
      rw [mapOC_mapOC]
      congr 1
      funext x
      cases x with
      | own m => by_cases h : m = d <;> simp [killC, h]
      | msl m sz off len => by_cases h : m = d <;> simp [killC, h]
      | ref m sz i off => by_cases h : m = d <;> simp [killC, h]
      | _ => rfl
    have hno2 : NoOwn (dst.getD 999998) ⟨s.env, setBoxes e.sig.args (xs.map (sev C s)) q.2 s.objs⟩ := by
      obtain ⟨hl, E, O, hs⟩ := hno
      refine ⟨s3 _ hl, E, setBoxes e.sig.args (xs.map (sev C s)) q.2 s.objs, ?_⟩
      rw [← s4]
      have h1 : s.env = mapEC (killC (dst.getD 999998)) E := by rw [hs]
      have h2 : mapOC (killC (dst.getD 999998)) s.objs = s.objs := by rw [hs]; exact hidem _ _
      rw [h2, h1]
    rw [retS_made (objs' := updAll (outsAV (fun i => π.g (canon i)) e.sig.args 0 q.2) (s.st C.N).objs) hno2 ?_]
    · congr 1
      · congr 1
        have kv : ∀ x : VV, x.av (setBoxes e.sig.args (xs.map (sev C s)) q.2 s.objs) = x.av s.objs := by
          intro x
          cases x with
          | c x => exact s2 x
          | g l =>
            simp only [VV.av]
            congr 1
            apply List.map_congr_left
            intro x _; exact s2 x
        simp only [SS.st]
        apply List.map_congr_left
        intro i _
        cases lkE s.env i with
        | v x => exact (kv x).symm
        | tup l =>
          simp only [SV.av]
          congr 1
          apply List.map_congr_left
          intro x _; exact (kv x).symm
    · show objsAV _ (setBoxes _ _ _ _) = _
      have ko : ∀ O : SObjs, objsAV (setBoxes e.sig.args (xs.map (sev C s)) q.2 s.objs) O = objsAV s.objs O := by
        intro O
        induction O with
        | nil => rfl
        | cons p r ih =>
          obtain ⟨m, o⟩ := p
          have : o.av (setBoxes e.sig.args (xs.map (sev C s)) q.2 s.objs) = o.av s.objs := by
            cases o with
            | box cs =>
              simp only [SO.av]
              congr 1
              apply List.map_congr_left
              intro x _; exact s2 x
            | arr ts l => rfl
          simp only [objsAV, ih, this]
      rw [ko, s1]; rfl

theorem sCall_sound {P : Program} {R : Type} {FT : List (Nat × Entry)} (hFT : FTok P FT) {C : Cfg} {s : SS} {dst : Option Tmp} {f : FuncId} {xs : List Operand} {K : SS → Option R} {r : R}
    (h : sCall C FT false s dst f xs K = some r) : ∃ s1 f' Φ hr, Cov (s.st C.N) (s1.st C.N) ∧ keepsB s s1 ∧ Sound P Φ ∧ cOp Φ (s1.st C.N).env (s1.st C.N).objs (dst.getD 999998) f xs = some hr ∧
      (⟨putA hr.env dst hr.x, hr.objs⟩ : St) = f'.st C.N ∧ K f' = some r := by
  unfold sCall at h
  split at h
  · cases h
  · rename_i e he
    cases hbg : ((bxsOf e.sig.args).isEmpty && gRT e.sig.ret) with
    | true =>
      simp only [hbg] at h
      simp only [Bool.and_eq_true] at hbg
      split at h
      · cases h
      · rename_i s1 hs1
        obtain ⟨a1, a2, a3⟩ := freshS_no (N := C.N) hs1
        split at h
        · cases h
        · rename_i a ha
          split at h
          · rename_i hcond
            simp only [obind] at h
            obtain ⟨q, hF, hK⟩ := Option.bind_eq_some_iff.1 h
            obtain ⟨ys, h1, h2, h3⟩ := quiet_call hFT he hbg.1 hbg.2 ha hF
            obtain ⟨g1, g2, g3, g4⟩ := ground_r e.sig.ret q.1 hbg.2
            refine ⟨s1, _, one f ys [] ⟨e.sig.ret.av q.1, [], none⟩, ⟨e.sig.ret.av q.1, (s1.st C.N).env, (s1.st C.N).objs⟩, a1, a2, one_sound (hFT f e he).1 h3, ?_, ?_, hK⟩
            · unfold cOp
              split
              · rename_i hn
                have e1 := lend_id hn h1
                subst e1
                obtain ⟨m1, m2⟩ := nf_args h2
                simp only [cGive, m2, lookAll, List.filterMap_nil, List.map_nil, boxesOk, one_eq]
                rw [if_pos ⟨m1, trivial, List.nodup_nil, trivial, look_none a3.1, hcond.1, by simp⟩]
                simp only [g3, updAll]
                rw [if_pos ⟨trivial, trivial, g4⟩]
              · unfold cLend
                rw [h1]
                simp only [h2, if_true, one_eq, g1]
            · have hset : setBoxes e.sig.args (xs.map (sev C s1)) q.2 s1.objs = s1.objs := setBoxes_no (noBx_of hbg.1)
              have key : ∀ (rt : RT) (y : rt.T), gRT rt = true → (retS (dst.getD 999998) ⟨s1.env, s1.objs⟩ rt y).2 = s1 ∧ (retS (dst.getD 999998) ⟨s1.env, s1.objs⟩ rt y).1.av s1.objs = rt.av y := by
                intro rt y hg
                cases rt with
                | v c => exact ⟨rfl, csv_av c y⟩
                | tup l => exact ⟨rfl, by simp only [retS, SV.av, vvs_av, RT.av]⟩
                | _ => simp [gRT] at hg
              rw [hset]
              obtain ⟨k1, k2⟩ := key e.sig.ret q.1 hbg.2
              rw [k1, put_st, k2]
          · cases h
    | false =>
      simp only [hbg] at h
      split at h
      · cases h
      · rename_i s1 hs1
        obtain ⟨a1, a2, a3, a4⟩ := prepS_cov hs1
        split at h
        · cases h
        · rename_i a ha
          split at h
          · rename_i hcond
            simp only [obind] at h
            obtain ⟨q, hF, hK⟩ := Option.bind_eq_some_iff.1 h
            obtain ⟨Φ, hr, h1, h2, h3, _, _⟩ := give_call (dst := dst) hFT he a3 a4 ha hF hcond.1 hcond.2.1 hcond.2.2
            exact ⟨s1, _, Φ, hr, a1, a2, h1, h2, h3, hK⟩
          · cases h
end Go.Abs
