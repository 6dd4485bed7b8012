/- Regions in which reads and calls, the calls one behind the other, come in any order; behind them a tail in a forced order. The machine's side. -/
import Derived.Test.YtplngcjkghnkcaaExN
namespace Go.Abs
open Go.RowKit

/-! an operation looks at its operands alone -/
theorem rOp_env {P : Program} {env env' : List AV} {objs : List (Nat × Obj)} {op : Op} (h : ∀ x ∈ op.operands, ev env x = ev env' x) : rOp P env objs op = rOp P env' objs op := by
  have hb : ∀ (d : Int) (o : Option Operand), (∀ x, o = some x → ev env x = ev env' x) → bnd env d o = bnd env' d o := by
    intro d o ho
    cases o with
    | none => rfl
    | some x => simp only [bnd, ho x rfl]
  cases op with
  | slice T x lo hi m =>
    cases m with
    | some _ => rfl
    | none =>
      have h1 := h x (by simp [Op.operands])
      have h2 := fun d => hb d lo (fun y hy => h y (by simp [Op.operands, hy]))
      have h3 := fun d => hb d hi (fun y hy => h y (by simp [Op.operands, hy]))
      simp only [rOp, h1, slc, h2, h3]
  | build T ps =>
    simp only [rOp]
    congr 1
    apply List.map_congr_left
    intro p hp
    rw [h p.2 (by simp only [Op.operands, List.mem_toArray, List.mem_map]; exact ⟨p, hp, rfl⟩)]
  | call c =>
    obtain ⟨callee, args, tys⟩ := c
    cases callee with
    | builtin b =>
      cases b with
      | len =>
        simp only [rOp]
        split
        · rename_i x T hx hT
          have hmem : x ∈ args.toList := by rw [hx]; simp
          rw [h x (by simp only [Op.operands, Call.operands]; simp; first | exact hmem | simpa using hmem)]
        · rfl
      | _ => rfl
    | _ => rfl
  | pick c x y => simp only [rOp, h c (by simp [Op.operands]), h x (by simp [Op.operands]), h y (by simp [Op.operands])]
  | move x => simp only [rOp, h x (by simp [Op.operands])]
  | assign x => simp only [rOp, h x (by simp [Op.operands])]
  | load T x => simp only [rOp, h x (by simp [Op.operands])]
  | nilCheck x => simp only [rOp, h x (by simp [Op.operands])]
  | unOp _ _ x => simp only [rOp, h x (by simp [Op.operands])]
  | convert _ _ x => simp only [rOp, h x (by simp [Op.operands])]
  | extract x _ => simp only [rOp, h x (by simp [Op.operands])]
  | fieldAddr _ x _ => simp only [rOp, h x (by simp [Op.operands])]
  | field _ x _ => simp only [rOp, h x (by simp [Op.operands])]
  | binOp _ _ x y _ => simp only [rOp, h x (by simp [Op.operands]), h y (by simp [Op.operands])]
  | indexAddr _ x y => simp only [rOp, h x (by simp [Op.operands]), h y (by simp [Op.operands])]
  | index _ x y => simp only [rOp, h x (by simp [Op.operands]), h y (by simp [Op.operands])]
  | _ => rfl

/-- The names that a value bears. -/
def nmA : AV → List Nat
  | .msl n _ _ _ => [n]
  | .ref n _ _ _ => [n]
  | _ => []
def Agree (U : List Nat) (O O' : List (Nat × Obj)) : Prop := ∀ n, n ∉ U → look n O' = look n O
theorem rOp_objs {P : Program} {env : List AV} {objs objs' : List (Nat × Obj)} {op : Op} {U : List Nat} (h : ∀ x, rTouch op = some x → ∀ n ∈ nmA (ev env x), n ∉ U) (ha : Agree U objs objs') : rOp P env objs' op = rOp P env objs op := by
  cases op with
  | load T x =>
    have h := h x rfl
    simp only [rOp]
    cases hx : ev env x with
    | ref n sz i off =>
      rw [hx] at h
      have hc : cellsAt objs' n sz i off = cellsAt objs n sz i off := by simp only [cellsAt, ha n (h n (by simp [nmA]))]
      cases cellTy P T with
      | none => rfl
      | some p => obtain ⟨g, k⟩ := p; simp only [hc]
    | _ => cases cellTy P T <;> rfl
  | convert S T x =>
    have h := h x rfl
    simp only [rOp]
    cases hx : ev env x with
    | msl n sz off len => rw [hx] at h; simp only [cvt, viewSl, ha n (h n (by simp [nmA]))]
    | _ => rfl
  | slice T x lo hi m =>
    cases m with
    | some _ => rfl
    | none =>
      have h := h x rfl
      simp only [rOp]
      cases hx : ev env x with
      | ref n sz i off =>
        rw [hx] at h
        cases i with
        | zero => cases off with
          | zero => simp only [slc, ha n (h n (by simp [nmA]))]
          | succ k => rfl
        | succ k => rfl
      | _ => rfl
  | call c =>
    obtain ⟨callee, args, tys⟩ := c
    cases callee with
    | builtin b => cases b <;> rfl
    | _ => rfl
  | _ => rfl

/-- A call that freezes nothing: what it answers and what memory is then. -/
def cLoc (Φ : Table) (env : List AV) (objs : List (Nat × Obj)) (d : Nat) (f : FuncId) (xs : List Operand) : Option (AV × List (Nat × Obj)) :=
  match firstName ((xs.map (ev env)).flatMap cellList) with
  | none => (cGive Φ env objs d f xs).map fun r => (r.x, r.objs)
  | some _ => (cLend Φ env objs f xs).map fun r => (r.x, r.objs)
theorem cGive_env {Φ : Table} {env : List AV} {objs : List (Nat × Obj)} {d : Nat} {f : FuncId} {xs : List Operand} {r : HR} (h : cGive Φ env objs d f xs = some r) : r.env = env := by
  simp only [cGive] at h
  split at h
  · split at h
    · split at h
      · simp only [Option.some.injEq] at h; rw [← h]
      · cases h
    · cases h
  · cases h
theorem cLend_env {Φ : Table} {env : List AV} {objs : List (Nat × Obj)} {f : FuncId} {xs : List Operand} {r : HR} (h : cLend Φ env objs f xs = some r) : r.env = env := by
  simp only [cLend] at h
  split at h
  · split at h
    · split at h
      · split at h
        · simp only [Option.some.injEq] at h; rw [← h]
        · cases h
      · cases h
    · cases h
  · cases h
theorem cGive_loc {Φ : Table} {env env' : List AV} {objs : List (Nat × Obj)} {d : Nat} {f : FuncId} {xs : List Operand} (h : xs.map (ev env) = xs.map (ev env')) :
    (cGive Φ env objs d f xs).map (fun r => (r.x, r.objs)) = (cGive Φ env' objs d f xs).map (fun r => (r.x, r.objs)) := by
  simp only [cGive, h]
  split
  · split
    · split <;> rfl
    · rfl
  · rfl
theorem cLend_loc {Φ : Table} {env env' : List AV} {objs : List (Nat × Obj)} {f : FuncId} {xs : List Operand} (h : xs.map (ev env) = xs.map (ev env')) :
    (cLend Φ env objs f xs).map (fun r => (r.x, r.objs)) = (cLend Φ env' objs f xs).map (fun r => (r.x, r.objs)) := by
  simp only [cLend, h]
  split
  · split
    · split
      · split <;> rfl
      · rfl
    · rfl
  · rfl
theorem cLoc_env {Φ : Table} {env env' : List AV} {objs : List (Nat × Obj)} {d : Nat} {f : FuncId} {xs : List Operand} (h : xs.map (ev env) = xs.map (ev env')) : cLoc Φ env objs d f xs = cLoc Φ env' objs d f xs := by
  unfold cLoc
  rw [h]
  split
  · exact cGive_loc h
  · exact cLend_loc h
theorem cLoc_cOp {Φ : Table} {env : List AV} {objs objs' : List (Nat × Obj)} {d : Nat} {f : FuncId} {xs : List Operand} {x : AV} (h : cLoc Φ env objs d f xs = some (x, objs')) : cOp Φ env objs d f xs = some ⟨x, env, objs'⟩ := by
  unfold cLoc at h
  unfold cOp
  split at h
  · rename_i hn
    simp only [hn]
    obtain ⟨r, hr, he⟩ := Option.map_eq_some_iff.1 h
    rw [hr]
    have := cGive_env hr
    obtain ⟨rx, re, ro⟩ := r
    simp only [Prod.mk.injEq] at he
    simp only at this
    rw [this, he.1, he.2]
  · rename_i n hn
    simp only [hn]
    obtain ⟨r, hr, he⟩ := Option.map_eq_some_iff.1 h
    rw [hr]
    have := cLend_env hr
    obtain ⟨rx, re, ro⟩ := r
    simp only [Prod.mk.injEq] at he
    simp only at this
    simp only [this, he.1, he.2]

/-- One operation of the head. -/
def mStep (P : Program) (ops : Array Oper) (U : List Nat) (o : Oper) (s s1 : St) : Prop :=
  ∃ x, s1.env = putA s.env o.dst x ∧
    ((guardOf ops s.env o = some false ∧ x = .und ∧ s1.objs = s.objs) ∨
     (guardOf ops s.env o = some true ∧ isFun o.op = false ∧ s1.objs = s.objs ∧ (∀ y, rTouch o.op = some y → ∀ n ∈ nmA (ev s.env y), n ∉ U) ∧ rOp P s.env s.objs o.op = some x) ∨
     (guardOf ops s.env o = some true ∧ Agree U s.objs s1.objs ∧ ∃ Φ f args tys, Sound P Φ ∧ o.op = .call { callee := .value (.func f), args := args, argTypes := tys } ∧ cLoc Φ s.env s.objs (o.dst.getD 999998) f args.toList = some (x, s1.objs)))
def mSteps (P : Program) (ops : Array Oper) (U : List Nat) : List Oper → St → St → Prop
  | [], s, s' => s = s'
  | o :: l, s, s' => ∃ s1, mStep P ops U o s s1 ∧ mSteps P ops U l s1 s'
theorem mSteps_trace {P : Program} {ops : Array Oper} {U : List Nat} : ∀ (l : List Oper) {s s' : St}, mSteps P ops U l s s' → ∃ S : Nat → St, S 0 = s ∧ S l.length = s' ∧ ∀ (i : Nat) (o : Oper), l[i]? = some o → mStep P ops U o (S i) (S (i + 1))
  | [], s, s', h => ⟨fun _ => s, rfl, h, fun i o hi => by simp at hi⟩
  | o :: l, s, s', h => by
    obtain ⟨s1, h1, h2⟩ := h
    obtain ⟨S, a1, a2, a3⟩ := mSteps_trace l h2
    refine ⟨fun i => match i with | 0 => s | i + 1 => S i, rfl, a2, fun i p hp => ?_⟩
    cases i with
    | zero =>
      simp only [List.getElem?_cons_zero, Option.some.injEq] at hp; subst hp
      show mStep P ops U o s (S 0)
      rw [a1]; exact h1
    | succ i => exact a3 i p (by simpa using hp)
theorem guard_loc {ops : Array Oper} {env env' : List AV} {o : Oper} (h : ∀ t ∈ o.looksAt ops, env.getD t .any = env'.getD t .any) : guardOf ops env o = guardOf ops env' o := by
  unfold guardOf
  cases hg : o.guard with
  | none => rfl
  | some p =>
    obtain ⟨j, want⟩ := p
    cases hd : (ops[j]?).bind (·.dst) with
    | none => simp only [hd]
    | some t =>
      have := h t (by unfold Oper.looksAt; simp [hg, hd])
      simp only [hd, this]
theorem ev_loc {ops : Array Oper} {env env' : List AV} {o : Oper} (h : ∀ t ∈ o.looksAt ops, env.getD t .any = env'.getD t .any) : ∀ x ∈ o.op.operands, ev env x = ev env' x := by
  intro x hx
  cases x with
  | tmp t => exact h t (by unfold Oper.looksAt; rw [List.mem_append]; left; rw [List.mem_filterMap]; exact ⟨.tmp t, by simpa using hx, rfl⟩)
  | _ => rfl
/-- The same step in a state that agrees on what the operation looks at. -/
theorem mStep_loc {P : Program} {ops : Array Oper} {U : List Nat} {o : Oper} {s s1 : St} (h : mStep P ops U o s s1) {env : List AV} {objs : List (Nat × Obj)} (he : ∀ t ∈ o.looksAt ops, s.env.getD t .any = env.getD t .any)
    (ho : if isFun o.op = true then objs = s.objs else Agree U s.objs objs) : ∃ x Φ, s1.env = putA s.env o.dst x ∧ Sound P Φ ∧ xOp P Φ ops o ⟨env, objs⟩ = some ⟨putA env o.dst x, if isFun o.op = true then s1.objs else objs⟩ := by
  obtain ⟨x, hx, h⟩ := h
  have hg := guard_loc he
  have hev := ev_loc he
  rcases h with ⟨g, rfl, h1⟩ | ⟨g, h0, h1, h2, h3⟩ | ⟨g, h1, Φ, f, args, tys, h2, h3, h4⟩
  · refine ⟨.und, noT, hx, noT_ok, ?_⟩
    rw [xOp_skip (s := ⟨env, objs⟩) (by rw [← hg]; exact g)]
    split
    · rename_i hf
      rw [if_pos hf] at ho
      rw [h1, ho]
    · rfl
  · refine ⟨x, noT, hx, noT_ok, ?_⟩
    rw [if_neg (by rw [h0]; decide)] at ho ⊢
    have hr : rOp P env objs o.op = some x := by
      rw [← h3, ← rOp_env hev]
      exact rOp_objs h2 ho
    exact xOp_r (s := ⟨env, objs⟩) (by rw [← hg]; exact g) h0 hr
  · refine ⟨x, Φ, hx, h2, ?_⟩
    have hf : isFun o.op = true := by rw [h3]; rfl
    rw [if_pos hf] at ho ⊢
    subst ho
    have hargs : args.toList.map (ev s.env) = args.toList.map (ev env) := by
      apply List.map_congr_left
      intro y hy
      refine hev y ?_
      rw [h3]
      simp only [Op.operands, Call.operands]
      simp
      first | exact .inr (by simpa using hy) | simpa using hy
    rw [cLoc_env hargs] at h4
    simp only [xOp, ← hg, g, h3, cLoc_cOp h4, Option.map_some]
end Go.Abs
