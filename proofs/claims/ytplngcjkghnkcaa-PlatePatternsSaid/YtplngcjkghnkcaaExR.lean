/- Functions: from the executor to typed contracts. -/
import Derived.Test.YtplngcjkghnkcaaExQ
namespace Go.Abs
open Go.RowKit

/-! the state at a function's entry -/
theorem argE_get {O : SObjs} : ∀ (l : List AT) (i : Nat) (x : argsT l) (j : Nat), (lkE (argE l i x) (i + j)).av O = (argsAV canon l i x).getD j .any ∧ (∀ k, k < i → lkE (argE l i x) k = .any)
  | [], i, x, j => by simp [argE, lkE, argsAV, SV.any, SV.av, VV.av, CV.av]
  | .v c :: l, i, x, j => by
    obtain ⟨_, h2⟩ := argE_get (O := O) l (i + 1) x.2 0
    refine ⟨?_, fun k hk => ?_⟩
    · cases j with
      | zero => simp [argE, lkE, argsAV, csv_av]
      | succ j =>
        have h1 := (argE_get (O := O) l (i + 1) x.2 j).1
        have e : i ≠ i + (j + 1) := by omega
        simp only [argE, lkE, e, if_false, argsAV, List.getD_cons_succ]
        rw [show i + (j + 1) = i + 1 + j by omega]; exact h1
    · have e : i ≠ k := by omega
      simp only [argE, lkE, e, if_false]
      exact h2 k (by omega)
  | .bx ts :: l, i, x, j => by
    obtain ⟨_, h2⟩ := argE_get (O := O) l (i + 1) x.2 0
    refine ⟨?_, fun k hk => ?_⟩
    · cases j with
      | zero => simp [argE, lkE, argsAV, SV.av, VV.av, CV.av, canon]
      | succ j =>
        have h1 := (argE_get (O := O) l (i + 1) x.2 j).1
        have e : i ≠ i + (j + 1) := by omega
        simp only [argE, lkE, e, if_false, argsAV, List.getD_cons_succ]
        rw [show i + (j + 1) = i + 1 + j by omega]; exact h1
    · have e : i ≠ k := by omega
      simp only [argE, lkE, e, if_false]
      exact h2 k (by omega)
theorem argO_av {O : SObjs} : ∀ (l : List AT) (i : Nat) (x : argsT l), objsAV O (argO l i x) = osAV canon l i x
  | [], _, _ => rfl
  | .v c :: l, i, x => argO_av l (i + 1) x.2
  | .bx ts :: l, i, x => by
    simp only [argO, objsAV, osAV, SO.av, kvs_cav, argO_av l (i + 1) x.2]; rfl
theorem osAV_fst : ∀ (l : List AT) (i : Nat) (x : argsT l), (osAV canon l i x).map (·.1) = pinsOf l i
  | [], _, _ => rfl
  | .v c :: l, i, x => osAV_fst l (i + 1) x.2
  | .bx ts :: l, i, x => by
    simp only [osAV, List.map_cons, pinsOf, osAV_fst l (i + 1) x.2]; rfl
theorem argsAV_len {ν : Nat → Nat} : ∀ (l : List AT) (i : Nat) (x : argsT l), (argsAV ν l i x).length = l.length
  | [], _, _ => rfl
  | .v c :: l, i, x => by simp only [argsAV, List.length_cons, argsAV_len l]
  | .bx ts :: l, i, x => by simp only [argsAV, List.length_cons, argsAV_len l]
theorem osAV_ok : ∀ (l : List AT) (i : Nat) (x : argsT l), boxesOk (osAV canon l i x) = true
  | [], _, _ => rfl
  | .v c :: l, i, x => osAV_ok l (i + 1) x.2
  | .bx ts :: l, i, x => by
    simp only [osAV, boxesOk, (plain_ts ts x.1).1, osAV_ok l (i + 1) x.2, Bool.and_self]
theorem entry_cov (g : Sig) (N : Nat) (hN : g.args.length ≤ N) (x : argsT g.args) :
    Cov ⟨argsAV canon g.args 0 x ++ List.replicate (N - (argsAV canon g.args 0 x).length) .und, osAV canon g.args 0 x⟩ (SS.st N ⟨argE g.args 0 x, argO g.args 0 x⟩) := by
  have hl := argsAV_len (ν := canon) g.args 0 x
  refine cov_le ⟨?_, fun i y hy => ?_⟩ ?_
  · simp only [SS.st, List.length_append, List.length_replicate, List.length_map, List.length_range, hl]; omega
  · simp only [SS.st, List.getElem?_map] at hy
    obtain ⟨j, hj, rfl⟩ := Option.map_eq_some_iff.1 hy
    have hji : j = i ∧ i < N := by
      by_cases hi : i < N
      · rw [List.getElem?_range hi] at hj
        simp only [Option.some.injEq] at hj
        exact ⟨hj.symm, hi⟩
      · rw [List.getElem?_eq_none (by simpa using hi)] at hj; cases hj
    obtain ⟨rfl, hi⟩ := hji
    have h1 := (argE_get (O := argO g.args 0 x) g.args 0 x j).1
    rw [Nat.zero_add] at h1
    by_cases hlt : j < g.args.length
    · refine ⟨(argsAV canon g.args 0 x).getD j .any, ?_, ?_⟩
      · rw [List.getElem?_append_left (by rw [hl]; exact hlt), List.getD, List.getElem?_eq_getElem (by rw [hl]; exact hlt)]; rfl
      · show leS _ ((lkE (argE g.args 0 x) j).av (argO g.args 0 x))
        rw [h1]; exact .rfl' _
    · refine ⟨.und, ?_, ?_⟩
      · rw [List.getElem?_append_right (by rw [hl]; omega), List.getElem?_replicate, if_pos (by rw [hl]; omega)]
      · show leS _ ((lkE (argE g.args 0 x) j).av (argO g.args 0 x))
        rw [h1]
        have : (argsAV canon g.args 0 x).getD j .any = .any := by
          rw [List.getD, List.getElem?_eq_none (by rw [hl]; omega)]; rfl
        rw [this]; exact .any _
  · show leOs _ (objsAV (argO g.args 0 x) (argO g.args 0 x))
    rw [argO_av]; exact leOs.rfl' _

/-! the results -/
theorem resS1_av {P : Program} {C : Cfg} (hG : Good P C.G) {s : SS} {r : ResultVar} {x : SV} (h : resS1 C s r = some x) : resA P (s.st C.N) r = some (x.av s.objs) := by
  cases r with
  | tmp t =>
    simp only [resS1, Option.some.injEq] at h; subst h
    simp only [resA, ← gt_eq, st_get]
  | cell b T =>
    simp only [resS1] at h
    split at h
    · rename_i n sz i off D e1 e2
      split at h
      · rename_i cs hcs
        obtain ⟨y, hy, rfl⟩ := Option.map_eq_some_iff.1 h
        have hev : gt (s.st C.N).env b = .ref n sz i off := by rw [← gt_eq, st_get, asC_eq e1]; rfl
        have := sCells_av hcs trivial
        simp only [resA, hev, TD.ok_cell (hG T _ e2)]
        rw [show (s.st C.N).objs = objsAV s.objs s.objs from rfl, this]
        exact ldC_av hy
      · cases h
    · cases h
theorem resS_av {P : Program} {C : Cfg} (hG : Good P C.G) {s : SS} : ∀ {l : List ResultVar} {i : Nat} {xs : List (Nat × SV)}, resS C s l i = some xs → resL P (s.st C.N) l = some (xs.map fun p => p.2.av s.objs) ∧ xs.length = l.length ∧ (∀ j, j < xs.length → lkE xs (i + j) = ((xs[j]?).map (·.2)).getD .any) ∧ (∀ k, k < i → lkE xs k = .any ∧ ∀ E, lkE (xs ++ E) k = lkE E k) ∧
      (∀ j, j < xs.length → ∀ E, lkE (xs ++ E) (i + j) = lkE xs (i + j))
  | [], i, xs, h => by simp only [resS, Option.some.injEq] at h; subst h; simp [resL, lkE]
  | r :: l, i, xs, h => by
    simp only [resS] at h
    split at h
    · rename_i x ys h1 h2
      simp only [Option.some.injEq] at h; subst h
      obtain ⟨k1, k2, k3, k4, k5⟩ := resS_av hG h2
      refine ⟨by simp only [resL, resS1_av hG h1, k1, List.map_cons], by simp [k2], fun j hj => ?_, fun k hk => ?_, fun j hj E => ?_⟩
      · cases j with
        | zero => simp [lkE]
        | succ j =>
          have e : i ≠ i + (j + 1) := by omega
          simp only [lkE, e, if_false, List.getElem?_cons_succ]
          rw [show i + (j + 1) = i + 1 + j by omega]
          exact k3 j (by simpa using hj)
      · have e : i ≠ k := by omega
        obtain ⟨g1, g2⟩ := k4 k (by omega)
        exact ⟨by simp [lkE, e, g1], fun E => by simp [lkE, e, g2]⟩
      · cases j with
        | zero => simp [lkE]
        | succ j =>
          have e : i ≠ i + (j + 1) := by omega
          simp only [List.cons_append, lkE, e, if_false]
          rw [show i + (j + 1) = i + 1 + j by omega]
          exact k5 j (by simpa using hj) E
    · cases h

def okR (g : Sig) (rv : List ResultVar) : Bool := match g.ret with
  | .tup l => decide (l.length = rv.length) && decide (l.length ≠ 1)
  | .unit => decide (rv.length = 0)
  | _ => decide (rv.length = 1)

theorem tysBack_av {O : SObjs} : ∀ (ts : Tys) (x : (dtsP (tysPC ts)).T), (encC (tysPC ts) x).map (CV.av O) = ts.avs (tysBack ts x)
  | .nil, _ => rfl
  | .cons t ts, x => by
    have ih := tysBack_av (O := O) ts x.2
    show ((CV.k (t.kv x.1)).av O) :: (encC (tysPC ts) x.2).map (CV.av O) = t.av x.1 :: ts.avs (tysBack ts x.2)
    rw [ih]
    congr 1
    exact kv_av t x.1
theorem outsBack_av {O : SObjs} : ∀ (l : List AT) (i : Nat) (x : objsT (pinsP l i)), objsAV O (encO (pinsP l i) x) = outsAV canon l i (outsBack l i x)
  | [], _, _ => rfl
  | .v c :: l, i, x => outsBack_av l (i + 1) x
  | .bx ts :: l, i, x => by
    have ih := outsBack_av (O := O) l (i + 1) x.2
    show (900000 + i, Obj.box ((encC (tysPC ts) x.1).map (CV.av O))) :: objsAV O (encO (pinsP l (i + 1)) x.2) = (canon i, .box (ts.avs (tysBack ts x.1))) :: outsAV canon l (i + 1) (outsBack l (i + 1) x.2)
    rw [ih, tysBack_av]; rfl
theorem tupBack_spec {R : Type} : ∀ (l : List CT) (i : Nat) (z : slotsT R (tupP l i)), restE (tupP l i) z = (tupBack l i z).2 ∧ (∀ k, k < i → lkE (encE (tupP l i) z) k = .any) ∧
    ∀ (O : SObjs) j, j < l.length → (lkE (encE (tupP l i) z) (i + j)).av O = (compsAV l (tupBack l i z).1).getD j .any
  | [], i, z => ⟨rfl, fun _ _ => rfl, fun _ j h => by simp at h⟩
  | c :: l, i, z => by
    obtain ⟨h1, h2, h3⟩ := tupBack_spec l (i + 1) z.2
    refine ⟨h1, fun k hk => ?_, fun O j hj => ?_⟩
    · have e : i ≠ k := by omega
      show lkE ((i, c.sv z.1) :: encE (tupP l (i + 1)) z.2) k = _
      simp only [lkE, e, if_false]
      exact h2 k (by omega)
    · cases j with
      | zero =>
        show (lkE ((i, c.sv z.1) :: encE (tupP l (i + 1)) z.2) (i + 0)).av O = (c.av z.1 :: _).getD 0 .any
        simp only [Nat.add_zero, lkE, if_true, List.getD_cons_zero]
        exact csv_av c z.1
      | succ j =>
        have e : i ≠ i + (j + 1) := by omega
        show (lkE ((i, c.sv z.1) :: encE (tupP l (i + 1)) z.2) (i + (j + 1))).av O = (c.av z.1 :: compsAV l (tupBack l (i + 1) z.2).1).getD (j + 1) .any
        simp only [lkE, e, if_false, List.getD_cons_succ]
        rw [show i + (j + 1) = i + 1 + j by omega]
        exact h3 O j (by simpa using hj)
theorem compsAV_len : ∀ (l : List CT) (x : compsT l), (compsAV l x).length = l.length
  | [], _ => rfl
  | c :: l, x => by simp only [compsAV, List.length_cons, compsAV_len l]
theorem compsAV_not : ∀ (l : List CT) (x : compsT l) (i : Nat) (y : AV), (compsAV l x)[i]? = some y → ∀ m, y ≠ .tup m
  | [], x, i, y, h => by simp [compsAV] at h
  | c :: l, x, i, y, h => by
    cases i with
    | zero =>
      simp only [compsAV, List.getElem?_cons_zero, Option.some.injEq] at h; subst h
      intro m
      cases c with
      | ty t => show t.av x.1 ≠ _; cases t <;> simp [Ty.av]
      | ag ts => simp [CT.av]
    | succ i => exact compsAV_not l x.2 i y (by simpa [compsAV] using h)

/-- What a function hands back, read off the state that is built anew. -/
theorem ret_spec {g : Sig} {N : Nat} {rv : List ResultVar} (hok : okR g rv = true) (z : (retPlan g N).T) {w w' : World} {D D' : Names} {vs : List Value} (hlen : vs.length = rv.length)
    (hm : Mem w D.N (objsAV ((retPlan g N).enc z).objs ((retPlan g N).enc z).objs) D' w')
    (hs : ∀ j, j < vs.length → Slot w' D' ((lkE ((retPlan g N).enc z).env (N + j)).av ((retPlan g N).enc z).objs) (vs.getD j undef)) :
    Mem w D.N (crAV canon g (retBack N g z)).objs D' w' ∧ Slot w' D' (crAV canon g (retBack N g z)).x (if h : vs.toArray.size = 1 then vs.toArray[0] else .tuple vs.toArray) := by
  obtain ⟨args, ret⟩ := g
  have one : ∀ (x : AV), vs.length = 1 → Slot w' D' x (vs.getD 0 undef) → Slot w' D' x (if h : vs.toArray.size = 1 then vs.toArray[0] else .tuple vs.toArray) := by
    intro x h1 hx
    rw [dif_pos (by simpa using h1)]
    have : vs.toArray[0]'(by simp; omega) = vs.getD 0 undef := by
      simp [List.getD, List.getElem?_eq_getElem (show 0 < vs.length by omega)]
    rw [this]; exact hx
  cases ret with
  | v c =>
    simp only [okR, decide_eq_true_eq] at hok
    refine ⟨?_, ?_⟩
    · have e : objsAV ((retPlan ⟨args, .v c⟩ N).enc z).objs ((retPlan ⟨args, .v c⟩ N).enc z).objs = (crAV canon ⟨args, .v c⟩ (retBack N ⟨args, .v c⟩ z)).objs := outsBack_av args 0 z.2
      rw [← e]; exact hm
    · refine one _ (by omega) ?_
      have h0 := hs 0 (by omega)
      have e : (lkE ((retPlan ⟨args, .v c⟩ N).enc z).env (N + 0)) = c.sv z.1 := by
        show lkE [(N, c.sv z.1)] (N + 0) = _
        simp [lkE]
      rw [e, csv_av] at h0
      exact h0
  | tup l =>
    simp only [okR, Bool.and_eq_true, decide_eq_true_eq] at hok
    obtain ⟨t1, t2, t3⟩ := tupBack_spec l N z
    refine ⟨?_, ?_⟩
    · have key : ∀ b : objsT (pinsP args 0), objsAV (encO (pinsP args 0) b) (encO (pinsP args 0) b) = outsAV canon args 0 (outsBack args 0 b) := fun b => outsBack_av args 0 b
      have e : objsAV ((retPlan ⟨args, .tup l⟩ N).enc z).objs ((retPlan ⟨args, .tup l⟩ N).enc z).objs = (crAV canon ⟨args, .tup l⟩ (retBack N ⟨args, .tup l⟩ z)).objs :=
        (key _).trans (congrArg (fun b => outsAV canon args 0 (outsBack args 0 b)) t1)
      rw [← e]; exact hm
    · rw [dif_neg (by simp; omega)]
      refine ⟨vs, rfl, ?_, fun i y hy => ?_⟩
      · show vs.length = (compsAV l _).length
        rw [compsAV_len]; omega
      · have hy : (compsAV l (tupBack l N z).1)[i]? = some y := hy
        have hi : i < l.length := by
          rcases Nat.lt_or_ge i l.length with h | h
          · exact h
          · rw [List.getElem?_eq_none (by rw [compsAV_len]; exact h)] at hy; cases hy
        have h0 := hs i (by omega)
        have e : (lkE ((retPlan ⟨args, .tup l⟩ N).enc z).env (N + i)).av ((retPlan ⟨args, .tup l⟩ N).enc z).objs = y := by
          have := t3 ((retPlan ⟨args, .tup l⟩ N).enc z).objs i hi
          rw [List.getD, hy] at this
          exact this
        rw [e] at h0
        cases y with
        | tup m => exact absurd rfl (compsAV_not l _ i _ hy m)
        | _ => exact h0
  | own ts =>
    simp only [okR, decide_eq_true_eq] at hok
    have eo : ((retPlan ⟨args, .own ts⟩ N).enc z).objs = (rn, .arr ts z.1) :: encO (pinsP args 0) z.2 := rfl
    refine ⟨?_, ?_⟩
    · have e : objsAV ((retPlan ⟨args, .own ts⟩ N).enc z).objs ((retPlan ⟨args, .own ts⟩ N).enc z).objs = (crAV canon ⟨args, .own ts⟩ (retBack N ⟨args, .own ts⟩ z)).objs := by
        rw [eo]
        show (rn, _) :: objsAV _ (encO (pinsP args 0) z.2) = (rn, _) :: outsAV canon args 0 (outsBack args 0 z.2)
        rw [outsBack_av]; rfl
      rw [← e]; exact hm
    · refine one _ (by omega) ?_
      have h0 := hs 0 (by omega)
      have e : (lkE ((retPlan ⟨args, .own ts⟩ N).enc z).env (N + 0)).av ((retPlan ⟨args, .own ts⟩ N).enc z).objs = .msl rn ts.len 0 z.1.length := by
        have e1 : lkE ((retPlan ⟨args, .own ts⟩ N).enc z).env (N + 0) = .v (.c (.own rn)) := by
          show lkE [(N, SV.v (.c (.own rn)))] (N + 0) = _
          simp [lkE]
        rw [e1, eo, own_av]
      rw [e] at h0
      exact h0
  | box ts =>
    simp only [okR, decide_eq_true_eq] at hok
    have eo : ((retPlan ⟨args, .box ts⟩ N).enc z).objs = (rn, .box (encC (tysPC ts) z.1)) :: encO (pinsP args 0) z.2 := rfl
    refine ⟨?_, ?_⟩
    · have e : objsAV ((retPlan ⟨args, .box ts⟩ N).enc z).objs ((retPlan ⟨args, .box ts⟩ N).enc z).objs = (crAV canon ⟨args, .box ts⟩ (retBack N ⟨args, .box ts⟩ z)).objs := by
        rw [eo]
        show (rn, Obj.box ((encC (tysPC ts) z.1).map (CV.av _))) :: objsAV _ (encO (pinsP args 0) z.2) = (rn, _) :: outsAV canon args 0 (outsBack args 0 z.2)
        rw [outsBack_av, tysBack_av]; rfl
      rw [← e]; exact hm
    · refine one _ (by omega) ?_
      have h0 := hs 0 (by omega)
      have e : (lkE ((retPlan ⟨args, .box ts⟩ N).enc z).env (N + 0)).av ((retPlan ⟨args, .box ts⟩ N).enc z).objs = .ref rn ts.len 0 0 := by
        have e1 : lkE ((retPlan ⟨args, .box ts⟩ N).enc z).env (N + 0) = .v (.c (.ref rn ts.len 0 0)) := by
          show lkE [(N, SV.v (.c (.ref rn ts.len 0 0)))] (N + 0) = _
          simp [lkE]
        rw [e1]; rfl
      rw [e] at h0
      exact h0
  | unit =>
    simp only [okR, decide_eq_true_eq] at hok
    refine ⟨?_, ?_⟩
    · have e : objsAV ((retPlan ⟨args, .unit⟩ N).enc z).objs ((retPlan ⟨args, .unit⟩ N).enc z).objs = (crAV canon ⟨args, .unit⟩ (retBack N ⟨args, .unit⟩ z)).objs := outsBack_av args 0 z
      rw [← e]; exact hm
    · rw [dif_neg (by simp; omega)]
      exact ⟨vs, rfl, by rw [hlen, hok]; rfl, fun i y hy => by cases (show (none : Option AV) = some y by rw [← hy]; rfl)⟩

theorem call_contract {P : Program} {G : List (Nat × TD)} {FT : List (Nat × Entry)} (hG : Good P G) (hFT : FTok P FT) (hm : P.follows .mixedOrders = true) {f : FuncId} {fn : Func} {g : Sig} {N : Nat} {rv : List ResultVar} {c : Code} {h : HT} {fuel : Nat} {x : argsT g.args} {r : g.R}
    (hf : P.funcs[f]? = some fn) (hb : fn.body = some c) (hr : fn.results.toList = rv) (hn : fn.ntmps = N) (hN : g.args.length ≤ N) (hok : okC c h = true) (hokR : okR g rv = true) (hcall : call G FT g N rv c h fuel x = some r) :
    Contract P f (argsAV canon g.args 0 x) (osAV canon g.args 0 x) (crAV canon g r) := by
  intro w D vs hmem hargs
  refine calls_of_wp hf hb ?_
  have hpins : ∀ n, n < top → (D n).isSome = true → n ∈ pinsOf g.args 0 := by
    intro n hK hn
    rw [hmem.dom n hK] at hn
    obtain ⟨o, ho⟩ := Option.isSome_iff_exists.1 hn
    rw [← osAV_fst g.args 0 x]
    exact look_mem ho
  have hsat : Sat w D.N D ⟨argsAV canon g.args 0 x ++ List.replicate (fn.ntmps - (argsAV canon g.args 0 x).length) .und, osAV canon g.args 0 x⟩ { tmps := vs.toArray ++ Array.replicate (fn.ntmps - vs.toArray.size) undef, defers := [] } w := by
    refine ⟨rfl, D, hmem, ⟨by simp [hargs.1], fun i x hx => ?_⟩, fun n d hn => ⟨hn, fun hK => ?_⟩⟩
    · rw [List.getElem?_append] at hx
      split at hx
      · rename_i hi
        have hlt : i < vs.length := by rw [hargs.1]; exact hi
        have := hargs.2 i x hx
        simpa [Array.getD_eq_getD_getElem?, Array.getElem?_append, hlt, List.getD] using this
      · rename_i hi
        rw [List.getElem?_replicate] at hx
        split at hx
        · rename_i hi2
          simp only [Option.some.injEq] at hx; subst hx
          have h1 : ¬ i < vs.length := by rw [hargs.1]; exact hi
          have h2 : i - vs.length < fn.ntmps - vs.length := by rw [hargs.1]; exact hi2
          have : (vs.toArray ++ Array.replicate (fn.ntmps - vs.toArray.size) undef).getD i undef = undef := by
            simp [Array.getD_eq_getD_getElem?, Array.getElem?_append, h1, h2]
          simp only [this]
          simp only [Slot, Val, Cell]; exact .und
        · cases hx
    · have hs := hmem.dom n hK
      rw [hn] at hs
      obtain ⟨o, ho⟩ := Option.isSome_iff_exists.1 hs.symm
      obtain ⟨cs, rfl, _⟩ := boxesOk_look (osAV_ok g.args 0 x) ho
      exact ⟨cs, ho⟩
  rw [hn] at hsat
  have hsat2 := entry_cov g N hN x _ _ _ _ _ hsat
  have hawp := exec_sound (C := ⟨G, N, fuel⟩) hG hFT hm (pins := pinsOf g.args 0) c h hok hcall
  rw [hn]
  refine Code.wp_mono ?_ (hawp w D.N D _ w hpins hsat2)
  rintro e a' w' ⟨s', ⟨fs, rfl, hfin⟩, hd, D1, hm1, he1, hpin1⟩
  have hexit : e = .normal ∨ e = .ret := by
    cases e <;> simp [finK] at hfin <;> simp
  have hex : ∃ xs z, resS ⟨G, N, fuel⟩ fs rv N = some xs ∧ (retPlan g N).dec (N + rv.length) (pinsOf g.args 0) ⟨xs ++ fs.env, fs.objs⟩ = some z ∧ retBack N g z = r := by
    rcases hexit with rfl | rfl
    · unfold finK at hfin
      split at hfin
      · split at hfin
        · rename_i xs hxs
          split at hfin
          · rename_i z hz
            exact ⟨xs, z, hxs, hz, Option.some.inj hfin⟩
          · cases hfin
        · cases hfin
      · split at hfin
        · rename_i xs hxs
          split at hfin
          · rename_i z hz
            exact ⟨xs, z, hxs, hz, Option.some.inj hfin⟩
          · cases hfin
        · cases hfin
      · rename_i h1 h2
        exfalso
        first | exact h1 rfl | exact h2 rfl
    · unfold finK at hfin
      split at hfin
      · split at hfin
        · rename_i xs hxs
          split at hfin
          · rename_i z hz
            exact ⟨xs, z, hxs, hz, Option.some.inj hfin⟩
          · cases hfin
        · cases hfin
      · split at hfin
        · rename_i xs hxs
          split at hfin
          · rename_i z hz
            exact ⟨xs, z, hxs, hz, Option.some.inj hfin⟩
          · cases hfin
        · cases hfin
      · rename_i h1 h2
        exfalso
        first | exact h1 rfl | exact h2 rfl
  obtain ⟨xs, z, hxs, hz, rfl⟩ := hex
  obtain ⟨q1, q2, q3, q4, q5⟩ := resS_av hG hxs
  obtain ⟨vs', k1, k2, k3⟩ := run_resL hm1 he1 rv _ q1
  have hlen : vs'.length = rv.length := by rw [k1, List.length_map, q2]
  have he1l : a'.tmps.size = N := by rw [he1.1]; exact st_len N fs
  -- the frame with the results behind it
  have hsat3 : Sat w D.N D (SS.st (N + rv.length) ⟨xs ++ fs.env, fs.objs⟩) { a' with tmps := a'.tmps ++ vs'.toArray } w' := by
    refine ⟨hd, D1, hm1, ⟨by simp [he1l, st_len, hlen], fun i y hy => ?_⟩, hpin1⟩
    simp only [SS.st, List.getElem?_map] at hy
    obtain ⟨j, hj, rfl⟩ := Option.map_eq_some_iff.1 hy
    have hji : j = i ∧ i < N + rv.length := by
      by_cases hi : i < N + rv.length
      · rw [List.getElem?_range hi] at hj
        simp only [Option.some.injEq] at hj
        exact ⟨hj.symm, hi⟩
      · rw [List.getElem?_eq_none (by simpa using hi)] at hj; cases hj
    obtain ⟨rfl, hi⟩ := hji
    by_cases hjN : j < N
    · rw [(q4 j hjN).2]
      have hlt : j < a'.tmps.size := by rw [he1l]; exact hjN
      have := he1.2 j ((lkE fs.env j).av fs.objs) (by simp only [SS.st, List.getElem?_map, List.getElem?_range hjN, Option.map_some])
      simpa [Array.getD_eq_getD_getElem?, Array.getElem?_append, hlt] using this
    · have hjlt : j - N < xs.length := by rw [q2]; omega
      have e1 := q5 (j - N) hjlt fs.env
      have e2 := q3 (j - N) hjlt
      rw [show N + (j - N) = j by omega] at e1 e2
      rw [e1, e2]
      have hge : ¬ j < a'.tmps.size := by rw [he1l]; exact hjN
      have hx : xs[j - N]? = some (xs[j - N]'hjlt) := List.getElem?_eq_getElem hjlt
      have := k2 (j - N) ((xs[j - N]'hjlt).2.av fs.objs) (by rw [List.getElem?_map, hx]; rfl)
      rw [hx]
      simpa [Array.getD_eq_getD_getElem?, Array.getElem?_append, hge, hjN, List.getD, he1l] using this
  obtain ⟨_, D2, g1, g2, g3⟩ := dec_weaker hz w D.N D _ w' hpins hsat3
  have hslots : ∀ j, j < vs'.length → Slot w' D2 ((lkE ((retPlan g N).enc z).env (N + j)).av ((retPlan g N).enc z).objs) (vs'.getD j undef) := by
    intro j hj
    have hj' : N + j < N + rv.length := by omega
    have := g2.2 (N + j) ((lkE ((retPlan g N).enc z).env (N + j)).av ((retPlan g N).enc z).objs) (by simp only [SS.st, List.getElem?_map, List.getElem?_range hj', Option.map_some])
    have hge : ¬ N + j < a'.tmps.size := by rw [he1l]; omega
    have hge2 : ¬ N + j < N := by omega
    simpa [Array.getD_eq_getD_getElem?, Array.getElem?_append, hge, hge2, List.getD, he1l] using this
  obtain ⟨r1, r2⟩ := ret_spec hokR z (w := w) (w' := w') (D := D) (D' := D2) hlen g1 hslots
  have hres : (results fn a'.tmps).run P w' = .ok (if h : vs'.toArray.size = 1 then vs'.toArray[0] else .tuple vs'.toArray) w' := by
    have k4 : ∀ F : ResultVar → Sem Value, (∀ r, F r = rvRun a'.tmps r) → (List.mapM F fn.results.toList).run P w' = .ok vs' w' := fun F hF => by rw [funext hF, hr]; exact k3
    unfold results
    rw [Array.mapM_eq_mapM_toList]
    simp only [Sem.run_bind, Sem.run_map, Sem.run_pure]
    refine (congrArg (fun r => (Result.andThen (Result.andThen r fun (l : List Value) w => .ok l.toArray w) fun vs w => .ok (if h : vs.size = 1 then vs[0] else .tuple vs) w)) (k4 _ fun r => by cases r <;> rfl)).trans ?_
    simp only [Result.andThen_ok]
  have post : a'.defers = [] ∧ ∃ v, (results fn a'.tmps).run P w' = .ok v w' ∧ (∃ v' D', Ending.returned v = .returned v' ∧ Mem w D.N (crAV canon g (retBack N g z)).objs D' w' ∧ Slot w' D' (crAV canon g (retBack N g z)).x v' ∧ ∀ n d, D n = some d → D' n = some d) :=
    ⟨hd, _, hres, _, D2, rfl, r1, r2, fun n d h => (g3 n d h).1⟩
  rcases hexit with rfl | rfl
  · exact post
  · exact post

/-- A FUNCTION's TYPED CONTRACT: from what the executor comes to. -/
theorem tc_of {P : Program} {G : List (Nat × TD)} {FT : List (Nat × Entry)} (hG : Good P G) (hFT : FTok P FT) (hm : P.follows .mixedOrders = true) {f : FuncId} {fn : Func} {e : Entry} {N : Nat} {rv : List ResultVar} {c : Code} {h : HT}
    (hf : P.funcs[f]? = some fn) (hb : fn.body = some c) (hr : fn.results.toList = rv) (hn : fn.ntmps = N) (hN : e.sig.args.length ≤ N) (hok : okC c h = true) (hokR : okR e.sig rv = true)
    (hF : ∀ x r, e.F x = some r → ∃ fuel, call G FT e.sig N rv c h fuel x = some r) : TC P f e := fun x r hx => by
  obtain ⟨fuel, hc⟩ := hF x r hx
  exact call_contract hG hFT hm hf hb hr hn hN hok hokR hc

theorem FTok_nil {P : Program} : FTok P [] := fun _ _ h => by cases h
theorem FTok_cons {P : Program} {f : FuncId} {e : Entry} {FT : List (Nat × Entry)} (hf : funOk P f = true) (he : TC P f e) (h : FTok P FT) : FTok P ((f, e) :: FT) := by
  intro g e' hg
  simp only [lkF] at hg
  split at hg
  · rename_i hfg
    subst hfg
    simp only [Option.some.injEq] at hg; subst hg
    exact ⟨hf, he⟩
  · exact h g e' hg
end Go.Abs
