/- Heads of reads and calls: the executor's side. -/
import Derived.Test.YtplngcjkghnkcaaExMc
namespace Go.Abs
open Go.RowKit

theorem nm_av {O : SObjs} {x : SV} {n : Nat} (h : n ∈ nmA (x.av O)) : n ∈ nmS x := by
  cases x with
  | tup l => simp [SV.av, nmA] at h
  | v x =>
    cases x with
    | g l => simp [SV.av, VV.av, nmA] at h
    | c x =>
      cases x with
      | k v => cases v <;> simp [SV.av, VV.av, CV.av, KV.av, nmA] at h
      | own m =>
        simp only [SV.av, VV.av, CV.av] at h
        split at h
        · simpa [nmA, nmS] using h
        · simp [nmA] at h
      | msl m sz off len => simpa [SV.av, VV.av, CV.av, nmA, nmS] using h
      | ref m sz i off => simpa [SV.av, VV.av, CV.av, nmA, nmS] using h
      | raw a =>
        simp only [SV.av, VV.av, CV.av] at h
        split at h <;> simp [nmA] at h
      | _ => simp [SV.av, VV.av, CV.av, nmA] at h
theorem okU_spec {U : List Nat} {C : Cfg} {s : SS} {op : Op} (h : okU U C s op = true) : ∀ y, rTouch op = some y → ∀ n ∈ nmA (ev (s.st C.N).env y), n ∉ U := by
  intro y hy n hn hU
  rw [← sev_av] at hn
  unfold okU at h
  simp only [hy] at h
  have := List.all_eq_true.1 h n (nm_av hn)
  simp only [Bool.not_eq_true', List.contains_eq_mem] at this
  simp [hU] at this

theorem killC_cl {d : Nat} {x : CV} (h : clCV d x = true) : killC d x = x := by
  cases x with
  | own m => simp only [clCV, Bool.not_eq_true', beq_eq_false_iff_ne] at h; simp [killC, h]
  | msl m sz off len => simp only [clCV, Bool.not_eq_true', beq_eq_false_iff_ne] at h; simp [killC, h]
  | ref m sz i off => simp only [clCV, Bool.not_eq_true', beq_eq_false_iff_ne] at h; simp [killC, h]
  | _ => rfl
theorem killL_cl {d : Nat} : ∀ {l : List CV}, l.all (clCV d) = true → l.map (killC d) = l
  | [], _ => rfl
  | x :: l, h => by
    simp only [List.all_cons, Bool.and_eq_true] at h
    rw [List.map_cons, killC_cl h.1, killL_cl h.2]
theorem killV_cl {d : Nat} {x : VV} (h : clVV d x = true) : mapVC (killC d) x = x := by
  cases x with
  | c x => show VV.c (killC d x) = _; rw [killC_cl h]
  | g l => show VV.g (l.map (killC d)) = _; rw [killL_cl h]
theorem killS_cl {d : Nat} {x : SV} (h : clSV d x = true) : mapSC (killC d) x = x := by
  cases x with
  | v x => show SV.v (mapVC (killC d) x) = _; rw [killV_cl h]
  | tup l =>
    show SV.tup (l.map (mapVC (killC d))) = _
    have key : ∀ l : List VV, l.all (clVV d) = true → l.map (mapVC (killC d)) = l := by
      intro l
      induction l with
      | nil => intro _; rfl
      | cons x l ih =>
        intro h
        simp only [List.all_cons, Bool.and_eq_true] at h
        rw [List.map_cons, killV_cl h.1, ih h.2]
    rw [key l h]
theorem killE_cl {d : Nat} : ∀ {E : List (Nat × SV)}, clEnv d E = true → mapEC (killC d) E = E
  | [], _ => rfl
  | (n, x) :: r, h => by
    simp only [clEnv, Bool.and_eq_true] at h
    rw [mapEC, killS_cl h.1, killE_cl h.2]
theorem killO_cl {d : Nat} : ∀ {O : SObjs}, clObj d O = true → mapOC (killC d) O = O
  | [], _ => rfl
  | (n, .box cs) :: r, h => by
    simp only [clObj, Bool.and_eq_true] at h
    rw [mapOC, killL_cl h.1, killO_cl h.2]
  | (n, .arr ts l) :: r, h => by
    simp only [clObj] at h
    rw [mapOC, killO_cl h]
theorem clean_no {d : Nat} {s : SS} (h : cleanB d s = true) : NoOwn d s := by
  simp only [cleanB, Bool.and_eq_true, Option.isNone_iff_eq_none] at h
  refine ⟨h.1, s.env, s.objs, ?_⟩
  rw [killE_cl h.2.1, killO_cl h.2.2]

theorem sCallM_sound {P : Program} {R : Type} {FT : List (Nat × Entry)} (hFT : FTok P FT) {C : Cfg} {U : List Nat} {s : SS} {dst : Option Tmp} {f : FuncId} {xs : List Operand} {K : SS → Option R} {r : R}
    (h : sCallM C FT U s dst f xs K = some r) : ∃ f' x Φ, Sound P Φ ∧ cLoc Φ (s.st C.N).env (s.st C.N).objs (dst.getD 999998) f xs = some (x, (f'.st C.N).objs) ∧ (f'.st C.N).env = putA (s.st C.N).env dst x ∧
      Agree U (s.st C.N).objs (f'.st C.N).objs ∧ K f' = some r := by
  unfold sCallM at h
  split at h
  · cases h
  · rename_i e he
    split at h
    · cases h
    · rename_i hcond
      simp only [Bool.and_eq_true, Bool.or_eq_true] at hcond
      have hno := clean_no hcond.1
      split at h
      · cases h
      · rename_i a ha
        split at h
        case isFalse => cases h
        rename_i hc
        simp only [obind] at h
        obtain ⟨q, hF, hK⟩ := Option.bind_eq_some_iff.1 h
        rcases hcond.2 with hbg | ⟨hfn, hU⟩
        · obtain ⟨ys, h1, h2, h3⟩ := quiet_call hFT he hbg.1 hbg.2 ha hF
          obtain ⟨g1, g2, g3, g4⟩ := ground_r e.sig.ret q.1 hbg.2
          have hset : setBoxes e.sig.args (xs.map (sev C s)) q.2 s.objs = s.objs := setBoxes_no (noBx_of hbg.1)
          have key : ∀ (rt : RT) (y : rt.T), gRT rt = true → (retS (dst.getD 999998) ⟨s.env, s.objs⟩ rt y).2 = s ∧ (retS (dst.getD 999998) ⟨s.env, s.objs⟩ rt y).1.av s.objs = rt.av y := by
            intro rt y hg
            cases rt with
            | v c => exact ⟨rfl, csv_av c y⟩
            | tup l => exact ⟨rfl, by simp only [retS, SV.av, vvs_av, RT.av]⟩
            | _ => simp [gRT] at hg
          rw [hset] at hK
          obtain ⟨k1, k2⟩ := key e.sig.ret q.1 hbg.2
          rw [k1] at hK
          have hst : (s.put dst (retS (dst.getD 999998) ⟨s.env, s.objs⟩ e.sig.ret q.1).1).st C.N = ⟨putA (s.st C.N).env dst (e.sig.ret.av q.1), (s.st C.N).objs⟩ := by rw [put_st, k2]
          refine ⟨_, e.sig.ret.av q.1, one f ys [] ⟨e.sig.ret.av q.1, [], none⟩, one_sound (hFT f e he).1 h3, ?_, ?_, ?_, hK⟩
          · rw [hst]
            unfold cLoc
            split
            · rename_i hn
              have e1 := lend_id hn h1
              subst e1
              obtain ⟨m1, m2⟩ := nf_args h2
              simp only [cGive, m2, lookAll, List.filterMap_nil, List.map_nil, boxesOk, one_eq]
              rw [if_pos ⟨m1, trivial, List.nodup_nil, trivial, look_none hno.1, hc.1, by simp⟩]
              simp only [g3, updAll]
              rw [if_pos ⟨trivial, trivial, g4⟩]
              rfl
            · unfold cLend
              rw [h1]
              simp only [h2, if_true, one_eq, g1]
              rfl
          · rw [hst]
          · rw [hst]; exact fun _ _ => rfl
        · have hfn : firstC (xs.flatMap fun o => cellsOfS (sev C s o)) = none := by simpa using hfn
          obtain ⟨Φ, hr, h1, h2, h3, h4, h5⟩ := give_call (dst := dst) hFT he hno hfn ha hF hc.1 hc.2.1 hc.2.2
          have hgive : cGive Φ (s.st C.N).env (s.st C.N).objs (dst.getD 999998) f xs = some hr := by
            unfold cOp at h2
            rw [h4] at h2
            exact h2
          have henv := cGive_env hgive
          refine ⟨_, hr.x, Φ, h1, ?_, ?_, ?_, hK⟩
          · rw [← h3]
            unfold cLoc
            rw [h4]
            simp only [hgive, Option.map_some]
          · rw [← h3, henv]
          · rw [← h3]
            intro n hn
            refine h5 n (fun e => hn ?_) (fun e => hn ?_)
            · rw [e]; simpa using hU.1
            · have := List.all_eq_true.1 hU.2 n e
              simpa using this

theorem sOpM_step {P : Program} {C : Cfg} {FT : List (Nat × Entry)} (hG : Good P C.G) (hFT : FTok P FT) {R : Type} {ops : Array Oper} {U : List Nat} {o : Oper} {s : SS} {K : SS → Option R} {r : R}
    (h : sOpM C FT U s o.dst o.op K = some r) (hg : guardOf ops (s.st C.N).env o = some true) : ∃ f', mStep P ops U o (s.st C.N) (f'.st C.N) ∧ K f' = some r := by
  unfold sOpM at h
  split at h
  · rename_i f args tys hop
    obtain ⟨f', x, Φ, a1, a2, a3, a4, a5⟩ := sCallM_sound hFT h
    exact ⟨f', ⟨x, a3, .inr (.inr ⟨hg, a4, Φ, f, args, tys, a1, hop, a2⟩)⟩, a5⟩
  · rename_i c x y hop
    split at h
    · rename_i t ht
      have hev := asK_ev ht
      simp only [br] at h
      have hx : rOp P (s.st C.N).env (s.st C.N).objs o.op = some (if t = true then ev (s.st C.N).env x else ev (s.st C.N).env y) := by rw [hop]; simp only [rOp, hev, KV.av]
      have ht0 : ∀ y, rTouch o.op = some y → ∀ n ∈ nmA (ev (s.st C.N).env y), n ∉ U := by rw [hop]; intro y hy; cases hy
      have hf : isFun o.op = false := by rw [hop]; rfl
      split at h
      · rename_i ht'
        rw [if_pos ht'] at hx
        exact ⟨_, ⟨_, by rw [put_st], .inr (.inl ⟨hg, hf, by rw [put_st], ht0, by rw [sev_av]; exact hx⟩)⟩, h⟩
      · rename_i ht'
        rw [if_neg ht'] at hx
        exact ⟨_, ⟨_, by rw [put_st], .inr (.inl ⟨hg, hf, by rw [put_st], ht0, by rw [sev_av]; exact hx⟩)⟩, h⟩
    · cases h
  · rename_i hn1 hn2
    have hf : isFun o.op = false := by
      cases hop : o.op with
      | call c =>
        obtain ⟨callee, args, tys⟩ := c
        cases callee with
        | value x => cases x with
          | func f => exact absurd hop (hn1 _ _ _)
          | _ => rfl
        | _ => rfl
      | _ => rfl
    split at h
    · cases h
    · rename_i hU
      split at h
      · rename_i c x hr
        obtain ⟨hc, hK⟩ := need_some h
        exact ⟨_, ⟨_, by rw [put_st], .inr (.inl ⟨hg, hf, by rw [put_st], okU_spec hU, sR_sound hG hr hc⟩)⟩, hK⟩
      · cases h

theorem sGoM_steps {P : Program} {C : Cfg} {FT : List (Nat × Entry)} (hG : Good P C.G) (hFT : FTok P FT) {R : Type} {ops : Array Oper} {U : List Nat} {K : SS → Option R} {r : R} :
    ∀ (l : List Oper) {s : SS}, sGoM C FT U ops.toList l s K = some r → ∃ s', mSteps P ops U l (s.st C.N) (s'.st C.N) ∧ K s' = some r
  | [], s, h => ⟨s, rfl, h⟩
  | o :: l, s, h => by
    have run : ∀ s0 : SS, s0.st C.N = s.st C.N → guardOf ops (s0.st C.N).env o = some true → sOpM C FT U s0 o.dst o.op (fun s => sGoM C FT U ops.toList l s K) = some r → ∃ s', mSteps P ops U (o :: l) (s.st C.N) (s'.st C.N) ∧ K s' = some r := by
      intro s0 e hg h
      obtain ⟨f', h1, h2⟩ := sOpM_step (ops := ops) hG hFT h hg
      obtain ⟨s', h3, h4⟩ := sGoM_steps hG hFT l h2
      exact ⟨s', ⟨_, by rw [← e]; exact h1, h3⟩, h4⟩
    have skip : ∀ s0 : SS, s0.st C.N = s.st C.N → guardOf ops (s.st C.N).env o = some false → sGoM C FT U ops.toList l (s0.put o.dst .und) K = some r → ∃ s', mSteps P ops U (o :: l) (s.st C.N) (s'.st C.N) ∧ K s' = some r := by
      intro s0 e hg h
      obtain ⟨s', h3, h4⟩ := sGoM_steps hG hFT l h
      refine ⟨s', ⟨_, ⟨.und, ?_, .inl ⟨hg, rfl, ?_⟩⟩, h3⟩, h4⟩
      · rw [put_st, e]; rfl
      · rw [put_st, e]
    unfold sGoM at h
    split at h
    · rename_i hgd
      exact run s rfl (guard_none hgd) h
    · rename_i j want hgd
      split at h
      · cases h
      · rename_i t ht
        split at h
        · rename_i b hb
          obtain ⟨e1, e2, e3⟩ := st_same (x := .v (.c (.k (.bool b)))) hb (by simp [SV.any])
          have hl1 : ∀ c, lkE (((t, SV.bool c) :: s.env) : List (Nat × SV)) t = SV.bool c := fun c => by simp [lkE]
          simp only [br] at h
          split at h
          · rename_i hbt
            subst hbt
            split at h
            · exact run _ e1 (guard_bool (s := ⟨(t, .bool true) :: s.env, s.objs⟩) hgd ht e3 (hl1 true)) h
            · exact skip _ e1 (guard_bool hgd ht e3 e2) h
          · rename_i hbt
            have hbt : b = false := by simpa using hbt
            subst hbt
            split at h
            · exact run _ e1 (guard_bool (s := ⟨(t, .bool false) :: s.env, s.objs⟩) hgd ht e3 (hl1 false)) h
            · exact skip _ e1 (guard_bool hgd ht e3 e2) h
        · rename_i hb
          exact skip s rfl (guard_und hgd ht hb) h
        · cases h
end Go.Abs
