/- Functions whose results lie in cells. -/
import Derived.Test.YtplngcjkghnkcaaAbsU
namespace Go.Abs
open Go.RowKit

def resA (P : Program) (s : St) : ResultVar → Option AV
  | .tmp t => some (gt s.env t)
  | .cell b T => match gt s.env b, cellTy P T with
    | .ref m sz i off, some (g, n) => (cellsAt s.objs m sz i off).bind (ldCells g n)
    | _, _ => none
def resL (P : Program) (s : St) : List ResultVar → Option (List AV)
  | [] => some []
  | r :: l => match resA P s r, resL P s l with
    | some x, some xs => some (x :: xs)
    | _, _ => none

/-- The results are read into slots behind the frame's. -/
def fin2 (pins : List Nat) (s : St) : Option (List AV) → Option CR
  | some xs => finish pins ((List.range xs.length).map fun i => .tmp (s.env.length + i)) ⟨s.env ++ xs, s.objs⟩
  | none => none

def rvRun (tmps : Array Value) : ResultVar → Sem Value
  | .tmp t => pure (tmps.getD t undef)
  | .cell b T => do loadVar T (← asAddr (tmps.getD b undef))

theorem run_resL {P : Program} {w0 w : World} {M0 : Nat → Prop} {D : Names} {s : St} {a : Act} (hm : Mem w0 M0 s.objs D w) (he : EnvRep w D s.env a.tmps) : ∀ (l : List ResultVar) (xs : List AV), resL P s l = some xs →
    ∃ vs : List Value, vs.length = xs.length ∧ (∀ i x, xs[i]? = some x → Slot w D x (vs.getD i undef)) ∧
      (l.mapM (rvRun a.tmps)).run P w = .ok vs w
  | [], xs, h => by
    simp only [resL, Option.some.injEq] at h; subst h
    exact ⟨[], rfl, fun i x hx => by simp at hx, by simp⟩
  | r :: l, xs, h => by
    simp only [resL] at h
    split at h
    · rename_i x xs' hx hxs
      simp only [Option.some.injEq] at h; subst h
      obtain ⟨vs, h1, h2, h3⟩ := run_resL hm he l xs' hxs
      have key : ∃ v, Slot w D x v ∧ (rvRun a.tmps r).run P w = .ok v w := by
        cases r with
        | tmp t =>
          simp only [resA, Option.some.injEq] at hx; subst hx
          refine ⟨a.tmps.getD t undef, ?_, by simp [rvRun]⟩
          have := ev_sound he (.tmp t)
          simpa only [ev, gt_eq, Act.eval] using this
        | cell b T =>
          simp only [resA] at hx
          have hv := ev_sound he (.tmp b)
          simp only [ev, gt_eq, Act.eval] at hv
          split at hx
          · rename_i m sz i off g n hg hT
            rw [hg] at hv
            simp only [Slot, Val, Cell] at hv
            obtain ⟨bl, hD, hv⟩ := hv
            obtain ⟨cs, hcs, hx⟩ := Option.bind_eq_some_iff.1 hx
            obtain ⟨u, g1, g2⟩ := (row_obj hm hcs hD).load (P := P) hT hx
            refine ⟨u, g1, ?_⟩
            simp only [rvRun, hv, Sem.run_bind]
            have := g2 w ⟨rfl, rfl, rfl, Nat.le_refl _, fun _ _ => rfl⟩
            simpa [asAddr] using this
          · cases hx
      obtain ⟨v, k1, k2⟩ := key
      refine ⟨v :: vs, by simp [h1], fun i y hy => ?_, ?_⟩
      · cases i with
        | zero => simp only [List.getElem?_cons_zero, Option.some.injEq] at hy; subst hy; simpa using k1
        | succ i => simpa using h2 i y (by simpa using hy)
      · simp only [List.mapM_cons, Sem.run_bind, k2, Result.andThen_ok, h3, Sem.run_pure]
    · cases h

theorem contract_of_awp2 {P : Program} {f : FuncId} {fn : Func} {c : Code} {args : List AV} {os : List (Nat × Obj)} {r : CR} (hf : P.funcs[f]? = some fn) (hb : fn.body = some c)
    (hbox : boxesOk os = true) (h : AWP P (os.map (·.1)) c (fun e s => (e = .normal ∨ e = .ret) ∧ fin2 (os.map (·.1)) s (resL P s fn.results.toList) = some r) ⟨args ++ List.replicate (fn.ntmps - args.length) .und, os⟩) : Contract P f args os r := by
  intro w D vs hm hargs
  refine calls_of_wp hf hb ?_
  have hpins : ∀ n, n < top → (D n).isSome = true → n ∈ os.map (·.1) := by
    intro n hK hn
    rw [hm.dom n hK] at hn
    obtain ⟨o, ho⟩ := Option.isSome_iff_exists.1 hn
    exact look_mem ho
  have hsat : Sat w D.N D ⟨args ++ List.replicate (fn.ntmps - args.length) .und, os⟩ { tmps := vs.toArray ++ Array.replicate (fn.ntmps - vs.toArray.size) undef, defers := [] } w := by
    refine ⟨rfl, D, hm, ⟨by simp [hargs.1], fun i x hx => ?_⟩, fun n d hn => ⟨hn, fun hK => ?_⟩⟩
    · rw [List.getElem?_append] at hx
      split at hx
      · rename_i hi
        have hlt : i < vs.length := by rw [hargs.1]; exact hi
        have := hargs.2 i x hx
        simpa [Array.getD_eq_getD_getElem?, Array.getElem?_append, hlt, List.getD] using this
      · rename_i hi
        rw [List.getElem?_replicate] at hx
        split at hx
        · rename_i hi2
          simp only [Option.some.injEq] at hx; subst hx
          have h1 : ¬ i < vs.length := by rw [hargs.1]; exact hi
          have h2 : i - vs.length < fn.ntmps - vs.length := by rw [hargs.1]; exact hi2
          have : (vs.toArray ++ Array.replicate (fn.ntmps - vs.toArray.size) undef).getD i undef = undef := by
            simp [Array.getD_eq_getD_getElem?, Array.getElem?_append, h1, h2]
          simp only [this]
          simp only [Slot, Val, Cell]; exact .und
        · cases hx
    · have hs := hm.dom n hK
      rw [hn] at hs
      obtain ⟨o, ho⟩ := Option.isSome_iff_exists.1 hs.symm
      obtain ⟨cs, rfl, _⟩ := boxesOk_look hbox ho
      exact ⟨cs, ho⟩
  refine Code.wp_mono ?_ (h w D.N D _ w hpins hsat)
  rintro e a' w' ⟨s', ⟨hexit, hfin⟩, hd, D1, hm1, he1, hpin1⟩
  cases hxs : resL P s' fn.results.toList with
  | none => rw [hxs] at hfin; cases hfin
  | some xs =>
    rw [hxs] at hfin
    simp only [fin2] at hfin
    obtain ⟨vs', k1, k2, k3⟩ := run_resL hm1 he1 fn.results.toList xs hxs
    have he2 : EnvRep w' D1 (s'.env ++ xs) ({ a' with tmps := a'.tmps ++ vs'.toArray } : Act).tmps := by
      refine ⟨by simp [he1.1, k1], fun i x hx => ?_⟩
      rw [List.getElem?_append] at hx
      split at hx
      · rename_i hi
        have hlt : i < a'.tmps.size := by rw [he1.1]; exact hi
        have := he1.2 i x hx
        simpa [Array.getD_eq_getD_getElem?, Array.getElem?_append, hlt] using this
      · rename_i hi
        have hlt : ¬ i < a'.tmps.size := by rw [he1.1]; exact hi
        have := k2 _ x hx
        simpa [Array.getD_eq_getD_getElem?, Array.getElem?_append, hlt, hi, List.getD, he1.1] using this
    obtain ⟨D', g1, g2, g3⟩ := finish_sound (s := ⟨s'.env ++ xs, s'.objs⟩) hm1 he2 hpins hpin1 hfin
    have hev : ((List.range xs.length).map fun i => Operand.tmp (s'.env.length + i)).map ({ a' with tmps := a'.tmps ++ vs'.toArray } : Act).eval = vs' := by
      refine List.ext_getElem? fun i => ?_
      simp only [List.map_map, List.getElem?_map]
      rcases Nat.lt_or_ge i xs.length with hi | hi
      · rw [List.getElem?_range hi]
        have h1 : i < vs'.length := by rw [k1]; exact hi
        simp [Act.eval, Array.getD_eq_getD_getElem?, Array.getElem?_append, ← he1.1, h1]
      · rw [List.getElem?_eq_none (by simpa using hi), List.getElem?_eq_none (by rw [k1]; exact hi)]; rfl
    have hres : (results fn a'.tmps).run P w' = .ok (resVal { a' with tmps := a'.tmps ++ vs'.toArray } ((List.range xs.length).map fun i => .tmp (s'.env.length + i))) w' := by
      have e : resVal { a' with tmps := a'.tmps ++ vs'.toArray } ((List.range xs.length).map fun i => .tmp (s'.env.length + i)) = (if h : vs'.toArray.size = 1 then vs'.toArray[0] else .tuple vs'.toArray) := by
        unfold resVal
        split
        · rename_i o ho
          rw [ho] at hev
          simp only [List.map_cons, List.map_nil] at hev
          generalize ({ a' with tmps := a'.tmps ++ vs'.toArray } : Act).eval o = y at hev ⊢
          subst hev
          rfl
        · rename_i hne
          rw [hev, dif_neg]
          intro h1
          have h1' : xs.length = 1 := by rw [← k1]; simpa using h1
          exact hne (.tmp (s'.env.length + 0)) (by rw [h1']; rfl)
      rw [e]
      have k4 : ∀ F : ResultVar → Sem Value, (∀ r, F r = rvRun a'.tmps r) → (List.mapM F fn.results.toList).run P w' = .ok vs' w' := fun F hF => by rw [funext hF]; exact k3
      unfold results
      rw [Array.mapM_eq_mapM_toList]
      simp only [Sem.run_bind, Sem.run_map, Sem.run_pure]
      refine (congrArg (fun r => (Result.andThen (Result.andThen r fun (l : List Value) w => .ok l.toArray w) fun vs w => .ok (if h : vs.size = 1 then vs[0] else .tuple vs) w)) (k4 _ fun r => by cases r <;> rfl)).trans ?_
      simp only [Result.andThen_ok]
    have post : a'.defers = [] ∧ ∃ v, (results fn a'.tmps).run P w' = .ok v w' ∧ (∃ v' D', Ending.returned v = .returned v' ∧ Mem w D.N r.objs D' w' ∧ Slot w' D' r.x v' ∧ ∀ n d, D n = some d → D' n = some d) :=
      ⟨hd, _, hres, _, D', rfl, g1, g2, g3⟩
    rcases hexit with rfl | rfl
    · exact post
    · exact post

def endC (P : Program) (os : List (Nat × Obj)) (rv : List ResultVar) (r : CR) (e : Exit) (s : St) : Prop := (e = .normal ∨ e = .ret) ∧ fin2 (os.map (·.1)) s (resL P s rv) = some r
theorem contract_c {P : Program} {f : FuncId} {fn : Func} {c : Code} {rv : List ResultVar} {args : List AV} {os : List (Nat × Obj)} {r : CR} (hf : P.funcs[f]? = some fn) (hb : fn.body = some c) (hr : fn.results.toList = rv)
    (hbox : boxesOk os = true) {n : Nat} (hn : fn.ntmps = n) (h : AWP P (os.map (·.1)) c (endC P os rv r) ⟨args ++ List.replicate (n - args.length) .und, os⟩) : Contract P f args os r :=
  contract_of_awp2 hf hb hbox (by rw [hn, hr]; exact h)

section
variable {P : Program} {pins : List Nat} {Q : Exit → St → Prop} {s : St}
theorem ret_endC {os : List (Nat × Obj)} {rv : List ResultVar} {r : CR} (h : fin2 (os.map (·.1)) s (resL P s rv) = some r) : endC P os rv r .ret s := ⟨.inr rfl, h⟩
theorem norm_endC {os : List (Nat × Obj)} {rv : List ResultVar} {r : CR} (h : fin2 (os.map (·.1)) s (resL P s rv) = some r) : endC P os rv r .normal s := ⟨.inl rfl, h⟩
theorem resL_nil : resL P s [] = some [] := id rfl
theorem resL_cons (r : ResultVar) (l : List ResultVar) {x : AV} {xs : List AV} (h1 : resA P s r = some x) (h2 : resL P s l = some xs) : resL P s (r :: l) = some (x :: xs) := by simp only [resL, h1, h2]

/-- The operations that the reading walk takes. -/
def quietOp (o : Oper) : Bool := match o.op with
  | .alloc _ | .box .. | .buildSlice .. | .makeSlice .. | .store .. => false
  | .call c => (match c.callee with | .builtin .append => false | _ => true)
  | _ => true
theorem awp_drawq {Φ : Table} (hΦ : Sound P Φ) (hm : P.follows .mixedOrders = true) {id : Nat} {ops : List Oper} (_ : ops.all quietOp = true) (hB : Region.lexB .any ops.toArray = true) (h : ∀ K : St → Prop, (∀ s, Q .normal s → K s) → qGo P Φ ops K ops s) :
    AWP P pins (.region id ops.toArray true) Q s := awp_draw hΦ hm hB h
theorem awp_drawt {Φ : Table} (hΦ : Sound P Φ) (hm : P.follows .mixedOrders = true) {id : Nat} {ops hd tl : List Oper} (n : Nat) (h0 : (ops.take n, ops.drop n) = (hd, tl)) (hB : Region.lexTailB .any ops.toArray n = true)
    (h : ∀ K K1 : St → Prop, (∀ s, Q .normal s → K s) → (∀ s, xGo P Φ ops K tl s → K1 s) → qGo P Φ ops K1 hd s) : AWP P pins (.region id ops.toArray true) Q s := by
  obtain ⟨rfl, rfl⟩ := Prod.mk.inj h0
  obtain ⟨s1, h1, h2⟩ := qGo_ops _ (h _ _ (fun _ h => h) (fun _ h => h))
  obtain ⟨s2, h3, h4⟩ := xGo_ops _ h2
  exact awp_region_qt hΦ hm n hB h1 h3 h4
end

def noT : Table := fun _ _ _ => none
def addT (Φ : Table) (f : FuncId) (t : List AV → List (Nat × Obj) → Option CR) : Table := fun g as os => if g = f then t as os else Φ g as os
theorem noT_sound {P : Program} : Sound P noT := fun _ _ _ _ h => by cases h
theorem addT_sound {P : Program} {Φ : Table} (h : Sound P Φ) {f : FuncId} {t : List AV → List (Nat × Obj) → Option CR} (hf : funOk P f = true) (ht : ∀ as os r, t as os = some r → Contract P f as os r) : Sound P (addT Φ f t) := by
  intro g as os r hr
  unfold addT at hr
  split at hr
  · rename_i e; subst e; exact ⟨hf, ht as os r hr⟩
  · exact h g as os r hr
end Go.Abs
