/- All operations that make or change objects; calls by contracts. -/
import Derived.Test.YtplngcjkghnkcaaAbsM
namespace Go.Abs
open Go.RowKit

def hOp (P : Program) (env : List AV) (objs : List (Nat × Obj)) (dst : Option Tmp) (o : Op) : Option HR :=
  match o, dst with
  | .store T x y, none => hStore P env objs T x y
  | .box _ x, some d => if d < top then hBox env objs d (ev env x) else none
  | .alloc T, some d => if d < top then hAlloc P env objs d T else none
  | .buildSlice T len parts, some d => if d < top then hBuildSlice P env objs d T len parts.toList else none
  | .makeSlice T l c, some d => if d < top then hMake P env objs d T (ev env l) (ev env c) else none
  | .convert S T x, some d => if d < top then hBytes P env objs d S T (ev env x) else none
  | .call { callee := .builtin .append, args, argTypes }, some d => if d < top then
      (match args.toList, argTypes.toList with
      | [x, y], [T, T2] => hAppend P env objs d T T2 (ev env x) (ev env y)
      | _, _ => none) else none
  | _, _ => none

theorem hOp_sound {P : Program} {w0 w : World} {M0 : Nat → Prop} {D : Names} {objs : List (Nat × Obj)} (hm : Mem w0 M0 objs D w) {env : List AV} {a : Act} (he : EnvRep w D env a.tmps) {o : Oper} {r : HR}
    (h : hOp P env objs o.dst o.op = some r) : Done P w0 M0 a w D objs (execOp a.eval o) r := by
  have eqv : ∀ {s t : Sem Next}, t = s → Done P w0 M0 a w D objs s r → Done P w0 M0 a w D objs t r := fun e h => e ▸ h
  unfold hOp at h
  split at h
  · rename_i T x y hop hdst
    exact eqv (by simp [execOp, hop]) (d_store hm he h)
  · rename_i T x d hop hdst
    split at h
    · rename_i hK
      exact eqv (by simp [execOp, hop]) (d_box hm he hK h (ev_sound he x) T)
    · cases h
  · rename_i T d hop hdst
    split at h
    · rename_i hK
      exact eqv (by simp [execOp, hop]) (d_alloc hm he hK h)
    · cases h
  · rename_i T len parts d hop hdst
    split at h
    · rename_i hK
      exact eqv (by simp [execOp, hop]) (d_buildSlice hm he hK h)
    · cases h
  · rename_i T l c d hop hdst
    split at h
    · rename_i hK
      exact eqv (by simp [execOp, hop]) (d_make hm he hK h (ev_sound he l) (ev_sound he c))
    · cases h
  · rename_i S T x d hop hdst
    split at h
    · rename_i hK
      exact eqv (by simp [execOp, hop]) (d_bytes hm he hK h (ev_sound he x))
    · cases h
  · rename_i args argTypes d hop hdst
    split at h
    · rename_i hK
      split at h
      · rename_i x y T T2 hA hT
        have e1 : args = #[x, y] := by apply Array.ext'; simpa using hA
        have e2 : argTypes = #[T, T2] := by apply Array.ext'; simpa using hT
        subst e1; subst e2
        exact eqv (by simp [execOp, hop, resolve, invoke, builtin]) (d_append (ty := o.type) hm he hK h (ev_sound he x) (ev_sound he y))
      · cases h
    · cases h
  · cases h

/-! ## calls -/
def rn : Nat := 999999

/-- What a call answers: a value, the objects that it was handed (boxes) as they are behind it, an object that it made. -/
structure CR where
  x : AV
  os : List (Nat × Obj) := []
  new : Option Obj := none

def CR.objs (r : CR) : List (Nat × Obj) := match r.new with | some o => (rn, o) :: r.os | none => r.os

def ArgsRep (w : World) (D : Names) (args : List AV) (vs : List Value) : Prop := vs.length = args.length ∧ ∀ (i : Nat) (x : AV), args[i]? = some x → Slot w D x (vs.getD i undef)

def funOk (P : Program) (f : FuncId) : Bool := match P.funcs[f]? with | some fn => !(fn.name == "runtime.NumGoroutine") && fn.body.isSome | none => false

abbrev Table := FuncId → List AV → List (Nat × Obj) → Option CR

def Contract (P : Program) (f : FuncId) (args : List AV) (os : List (Nat × Obj)) (r : CR) : Prop :=
  ∀ (w : World) (D : Names) (vs : List Value), Mem w D.N os D w → ArgsRep w D args vs →
    Calls P f vs.toArray w fun e w' => ∃ v D', e = .returned v ∧ Mem w D.N r.objs D' w' ∧ Slot w' D' r.x v ∧ ∀ n d, D n = some d → D' n = some d

def Sound (P : Program) (Φ : Table) : Prop := ∀ f args os r, Φ f args os = some r → funOk P f = true ∧ Contract P f args os r

def groundC : AV → Bool
  | .int _ _ | .bool _ | .str _ => true
  | _ => false
def ground : AV → Bool
  | .agg l => l.all groundC
  | .tup l => l.all fun x => match x with | .agg l => l.all groundC | x => groundC x
  | x => groundC x

/-- a value that names nothing -/
def nfC : AV → Bool
  | .msl _ _ _ _ | .ref _ _ _ _ => false
  | _ => true
def nfV : AV → Bool
  | .agg l => l.all nfC
  | x => nfC x
def nf : AV → Bool
  | .tup l => l.all nfV
  | x => nfV x

/-- an argument as it is handed over: what the caller owns is lent -/
def lendC (objs : List (Nat × Obj)) : AV → Option AV
  | .msl n sz off len => (viewSl objs sz (.msl n sz off len)).map (.sl sz)
  | x => some x
def lend (objs : List (Nat × Obj)) (x : AV) : Option AV :=
  match x with
  | .agg l => if l.all nfC then some (.agg l) else none
  | x => lendC objs x

def argOk : AV → Bool
  | .ref _ _ i off => i == 0 && off == 0
  | .agg l => l.all nfC
  | x => nf x
def refsOf (xs : List AV) : List Nat := xs.filterMap fun x => match x with | .ref n _ 0 0 => some n | _ => none
def lookAll (ns : List Nat) (objs : List (Nat × Obj)) : List (Nat × Obj) := ns.filterMap fun n => (look n objs).map fun o => (n, o)
def updAll : List (Nat × Obj) → List (Nat × Obj) → List (Nat × Obj)
  | [], objs => objs
  | (n, o) :: r, objs => updAll r (upd n o objs)

def boxesOk : List (Nat × Obj) → Bool
  | [] => true
  | (_, .box cs) :: r => cs.all plainC && boxesOk r
  | _ => false
def newOk (x : AV) : Option Obj → Bool
  | none => nf x
  | some (.arr sz l) => match x with | .msl n s off len => n == rn && s == sz && off == 0 && len == l.length | _ => false
  | some (.box cs) => (match x with | .ref n s i off => n == rn && s == cs.length && i == 0 && off == 0 | _ => false) && cs.all plainC

def rename (d : Nat) : AV → AV
  | .msl n sz off len => if n = rn then .msl d sz off len else .msl n sz off len
  | .ref n sz i off => if n = rn then .ref d sz i off else .ref n sz i off
  | x => x

/-- lent: nothing is named in what comes back, no box was handed over -/
def cLend (Φ : Table) (env : List AV) (objs : List (Nat × Obj)) (f : FuncId) (xs : List Operand) : Option HR :=
  match (xs.map (ev env)).mapM (lend objs) with
  | some as => if as.all nf = true then (match Φ f as [] with
    | some ⟨x, [], none⟩ => if ground x then some ⟨x, env, objs⟩ else none
    | _ => none) else none
  | none => none

/-- nothing that is owned is named among the arguments -/
def cGive (Φ : Table) (env : List AV) (objs : List (Nat × Obj)) (d : Nat) (f : FuncId) (xs : List Operand) : Option HR :=
  let as := xs.map (ev env)
  let ns := refsOf as
  let os := lookAll ns objs
  if as.all argOk = true ∧ os.map (·.1) = ns ∧ ns.Nodup ∧ boxesOk os = true ∧ look d objs = none ∧ d < top ∧ rn ∉ ns then
    match Φ f as os with
    | some r => if r.os.map (·.1) = ns ∧ boxesOk r.os = true ∧ newOk r.x r.new = true then
        some ⟨rename d r.x, env, (match r.new with | some o => (d, o) :: updAll r.os objs | none => updAll r.os objs)⟩ else none
    | none => none
  else none

def cOp (Φ : Table) (env : List AV) (objs : List (Nat × Obj)) (d : Nat) (f : FuncId) (xs : List Operand) : Option HR :=
  match firstName ((xs.map (ev env)).flatMap cellList) with
  | none => cGive Φ env objs d f xs
  | some _ => match cLend Φ env objs f xs with
    | some r => some r
    | none => match settle 8 xs env objs with
      | some r => cGive Φ r.1 r.2 d f xs
      | none => none


theorem run_call {P : Program} {a : Act} {o : Oper} {f : FuncId} {args : Array Operand} {tys : Array TypeId} (hop : o.op = .call { callee := .value (.func f), args := args, argTypes := tys }) (hf : funOk P f = true) (w : World) :
    (execOp a.eval o).run P w = .ok (.enter f (args.map a.eval)) w := by
  unfold funOk at hf
  split at hf
  · rename_i fn hfn
    simp only [Bool.and_eq_true, Bool.not_eq_true'] at hf
    have hb : fn.body.isNone = false := by cases hh : fn.body <;> simp [hh] at hf ⊢
    simp only [execOp, hop, resolve, Sem.run_bind, Act.eval, Deferred.ofValue, Sem.run_pure, Result.andThen_ok, invoke, callFunc, run_program, hfn, hf.1, hb, Bool.false_eq_true, if_false]
    simp
  · cases hf

def CallDone (P : Program) (w0 : World) (M0 : Nat → Prop) (a : Act) (w : World) (D : Names) (objs : List (Nat × Obj)) (f : FuncId) (vs : Array Value) (r : HR) : Prop :=
  Calls P f vs w fun e w' => ∃ v D', e = .returned v ∧ Slot w' D' r.x v ∧ Mem w0 M0 r.objs D' w' ∧ EnvRep w' D' r.env a.tmps ∧ ∀ D0, Pin D0 D objs → Pin D0 D' r.objs

/-- The world has grown; nothing that was there has changed. -/
theorem Mem.ext {w0 w w' : World} {M0 : Nat → Prop} {D : Names} {objs : List (Nat × Obj)} (hm : Mem w0 M0 objs D w) (k : Grow w w' (fun _ => False)) (hos : w'.os = w.os) (htape : w'.tape = w.tape) (hout : w'.output = w.output) : Mem w0 M0 objs D w' := by
  have kM : Grow w w' D.M := k.weaken (fun _ _ h => h.elim)
  exact ⟨hm.dom, hm.small, fun n o d h1 h2 => (hm.rep n o d h1 h2).mono kM (fun _ _ h => h) hm.lt (fun _ _ h => h) (fun b hb => k.same b (hm.lt b ⟨n, by rw [h2, hb]⟩) (fun h => h)), hm.inj,
    fun b hb => Nat.lt_of_lt_of_le (hm.lt b hb) k.size, hm.own, hm.grow.trans k (fun _ _ h => h.elim), hos.trans hm.os, htape.trans hm.tape, hout.trans hm.output⟩

theorem groundC_imm {w w' : World} {D D' : Names} {x : AV} {v : Value} (h : Cell w D x v) (hg : groundC x = true) : Cell w' D' x v := by
  cases x <;> simp only [groundC, Bool.false_eq_true] at hg <;> simp only [Cell] at h ⊢ <;> cases h
  · exact .int _ _
  · exact .bool _
  · exact .str _ (by assumption)

theorem groundV_slot {w w' : World} {D D' : Names} {x : AV} {v : Value} (h : Val w D x v) (hg : (match x with | .agg l => l.all groundC | x => groundC x) = true) : Val w' D' x v := by
  cases x with
  | agg l =>
    obtain ⟨vs, h1, h2, h3⟩ := h
    exact ⟨vs, h1, h2, fun i y hy => ⟨groundC_imm (h3 i y hy).1 (List.all_eq_true.1 hg y (List.mem_of_getElem? hy)), (h3 i y hy).2⟩⟩
  | _ => simp only [Val] at h ⊢; exact groundC_imm h hg

theorem ground_slot {w w' : World} {D D' : Names} {x : AV} {v : Value} (h : Slot w D x v) (hg : ground x = true) : Slot w' D' x v := by
  cases x with
  | tup l =>
    obtain ⟨vs, h1, h2, h3⟩ := h
    refine ⟨vs, h1, h2, fun i y hy => groundV_slot (h3 i y hy) ?_⟩
    have := List.all_eq_true.1 hg y (List.mem_of_getElem? hy)
    cases y <;> exact this
  | agg l => simp only [Slot] at h ⊢; exact groundV_slot h hg
  | _ => simp only [Slot] at h ⊢; exact groundV_slot h hg

theorem mem_none (w : World) : Mem w (Names.N (fun _ => none)) [] (fun _ => none) w where
  dom := by simp [look]
  small := by simp [look]
  rep := by simp [look]
  inj := by simp
  lt := by rintro b ⟨n, hn⟩; cases hn
  own := by rintro b ⟨n, _, hn⟩; cases hn
  grow := Grow.refl w _
  os := rfl
  tape := rfl
  output := rfl

theorem nf_lower {w : World} {D D' : Names} (hM : ∀ b, b < w.heap.size → D'.M b → D.M b) :
    (∀ {x : AV} {v : Value}, Cell w D x v → nfC x = true → Cell w D' x v) ∧ (∀ {x : AV} {v : Value}, Val w D x v → nfV x = true → Val w D' x v) ∧ (∀ {x : AV} {v : Value}, Slot w D x v → nf x = true → Slot w D' x v) := by
  have hC : ∀ {x : AV} {v : Value}, Cell w D x v → nfC x = true → Cell w D' x v := by
    intro x v h hn
    cases x with
    | msl => simp [nfC] at hn
    | ref => simp [nfC] at hn
    | _ => simp only [Cell] at h ⊢; exact h.mono (Grow.refl w _).toKeep hM
  have hV : ∀ {x : AV} {v : Value}, Val w D x v → nfV x = true → Val w D' x v := by
    intro x v h hn
    cases x with
    | agg l =>
      obtain ⟨vs, h1, h2, h3⟩ := h
      exact ⟨vs, h1, h2, fun i y hy => ⟨hC (h3 i y hy).1 (List.all_eq_true.1 hn y (List.mem_of_getElem? hy)), (h3 i y hy).2⟩⟩
    | _ => simp only [Val] at h ⊢; exact hC h hn
  refine ⟨hC, hV, fun {x v} h hn => ?_⟩
  cases x with
  | tup l =>
    obtain ⟨vs, h1, h2, h3⟩ := h
    exact ⟨vs, h1, h2, fun i y hy => hV (h3 i y hy) (List.all_eq_true.1 hn y (List.mem_of_getElem? hy))⟩
  | _ => simp only [Slot] at h ⊢; exact hV h hn

theorem lend_sound {w0 w : World} {M0 : Nat → Prop} {D : Names} {objs : List (Nat × Obj)} (hm : Mem w0 M0 objs D w) {x y : AV} {v : Value} (hv : Slot w D x v) (h : lend objs x = some y) (hn : nf y = true) : Slot w (fun _ => none) y v := by
  have low := nf_lower (w := w) (D := D) (D' := fun _ => none) (fun b _ hb => by obtain ⟨n, hn⟩ := hb; cases hn)
  unfold lend at h
  split at h
  · rename_i l
    split at h
    · simp only [Option.some.injEq] at h; subst h
      exact low.2.2 hv hn
    · cases h
  · unfold lendC at h
    split at h
    · rename_i n sz off len
      obtain ⟨l, hl, rfl⟩ := Option.map_eq_some_iff.1 h
      have := viewSl_sound hm hl hv
      exact Imm.slot (D := fun _ => none) (slice_imm (D := D) this (fun b o n cap _ _ hb => by obtain ⟨n, hn⟩ := hb; cases hn) (fun b _ hb => by obtain ⟨n, hn⟩ := hb; cases hn))
    · simp only [Option.some.injEq] at h; subst h
      exact low.2.2 hv hn

theorem mapM_get {α β : Type} {f : α → Option β} : ∀ {l : List α} {r : List β}, l.mapM f = some r → r.length = l.length ∧ ∀ (i : Nat) (y : β), r[i]? = some y → ∃ x, l[i]? = some x ∧ f x = some y
  | [], r, h => by simp at h; subst h; simp
  | x :: l, r, h => by
    simp only [List.mapM_cons, Option.bind_eq_bind, Option.pure_def] at h
    obtain ⟨b, hb, h⟩ := Option.bind_eq_some_iff.1 h
    obtain ⟨bs, hbs, h⟩ := Option.bind_eq_some_iff.1 h
    simp only [Option.some.injEq] at h; subst h
    obtain ⟨h1, h2⟩ := mapM_get hbs
    refine ⟨by simp [h1], fun i y hy => ?_⟩
    cases i with
    | zero => simp at hy; subst hy; exact ⟨x, rfl, hb⟩
    | succ i => simpa using h2 i y (by simpa using hy)

theorem cLend_sound {P : Program} {Φ : Table} (hΦ : Sound P Φ) {w0 w : World} {M0 : Nat → Prop} {D : Names} {objs : List (Nat × Obj)} (hm : Mem w0 M0 objs D w) {env : List AV} {a : Act} (he : EnvRep w D env a.tmps) {f : FuncId} {xs : List Operand} {r : HR}
    (h : cLend Φ env objs f xs = some r) : funOk P f = true ∧ CallDone P w0 M0 a w D objs f (xs.map a.eval).toArray r := by
  unfold cLend at h
  split at h
  · rename_i as has
    split at h
    · rename_i hnf
      split at h
      · rename_i x hx
        split at h
        · rename_i hg
          simp only [Option.some.injEq] at h; subst h
          obtain ⟨hf, hc⟩ := hΦ f as [] ⟨x, [], none⟩ hx
          refine ⟨hf, ?_⟩
          obtain ⟨hlen, hget⟩ := mapM_get has
          have hargs : ArgsRep w (fun _ => none) as (xs.map a.eval) := by
            refine ⟨by simp [hlen], fun i y hy => ?_⟩
            obtain ⟨z, hz, hl⟩ := hget i y hy
            rw [List.getElem?_map] at hz
            obtain ⟨o, ho, rfl⟩ := Option.map_eq_some_iff.1 hz
            have e : (xs.map a.eval).getD i undef = a.eval o := by simp [List.getD, List.getElem?_map, ho]
            rw [e]
            exact lend_sound hm (ev_sound he o) hl (List.all_eq_true.1 hnf y (List.mem_of_getElem? hy))
          refine (hc w _ _ (mem_none w) hargs).mono fun e w' hpost => ?_
          obtain ⟨v, D', rfl, hm', hs, _⟩ := hpost
          have k : Grow w w' (fun _ => False) := hm'.grow.weaken (fun b _ hb => by obtain ⟨n, _, hn⟩ := hb; cases hn)
          exact ⟨v, D, rfl, ground_slot hs hg, hm.ext k hm'.os hm'.tape hm'.output, he.mono (k.weaken (fun _ _ h => h.elim)) (fun _ _ h => h) hm.lt (fun _ _ h => h), fun _ h => h⟩
        · cases h
      · cases h
    · cases h
  · cases h


theorem look_lookAll (n : Nat) (objs : List (Nat × Obj)) : ∀ ns : List Nat, look n (lookAll ns objs) = if n ∈ ns then look n objs else none
  | [] => rfl
  | m :: ns => by
    have ih := look_lookAll n objs ns
    unfold lookAll at ih ⊢
    simp only [List.filterMap_cons]
    by_cases hm : m = n
    · subst hm
      cases h : look m objs with
      | none => simp only [Option.map_none]; rw [ih]; simp [h]
      | some o => simp [look]
    · have hmem : n ∈ m :: ns ↔ n ∈ ns := by simp [Ne.symm hm]
      cases h : look m objs with
      | none => simp only [Option.map_none]; rw [ih]; simp only [hmem]
      | some o => simp only [Option.map_some, look, hm, if_false]; rw [ih]; simp only [hmem]

theorem look_mem {n : Nat} {o : Obj} : ∀ {l : List (Nat × Obj)}, look n l = some o → n ∈ l.map (·.1)
  | [], h => by simp [look] at h
  | (m, p) :: r, h => by
    by_cases hm : m = n
    · subst hm; simp
    · simp only [look, hm, if_false] at h
      simp only [List.map_cons, List.mem_cons]
      exact .inr (look_mem h)

theorem look_of_mem {n : Nat} : ∀ {l : List (Nat × Obj)}, n ∈ l.map (·.1) → (look n l).isSome = true
  | [], h => by simp at h
  | (m, p) :: r, h => by
    by_cases hm : m = n
    · simp [look, hm]
    · simp only [look, hm, if_false]
      simp only [List.map_cons, List.mem_cons] at h
      exact look_of_mem (h.resolve_left (Ne.symm hm))

theorem boxesOk_look {n : Nat} {o : Obj} : ∀ {l : List (Nat × Obj)}, boxesOk l = true → look n l = some o → ∃ cs, o = .box cs ∧ cs.all plainC = true
  | [], _, h => by simp [look] at h
  | (m, .box cs) :: r, hb, h => by
    simp only [boxesOk, Bool.and_eq_true] at hb
    by_cases hm : m = n
    · simp only [look, hm, if_true, Option.some.injEq] at h; exact ⟨cs, h.symm, hb.1⟩
    · simp only [look, hm, if_false] at h; exact boxesOk_look hb.2 h
  | (m, .arr sz l) :: r, hb, h => by simp [boxesOk] at hb

theorem look_updAll (n : Nat) : ∀ (os objs : List (Nat × Obj)), (os.map (·.1)).Nodup → (∀ m ∈ os.map (·.1), (look m objs).isSome = true) → look n (updAll os objs) = match look n os with | some o => some o | none => look n objs
  | [], objs, _, _ => by simp [updAll, look]
  | (m, o) :: r, objs, hnd, hp => by
    simp only [List.map_cons, List.nodup_cons] at hnd
    have hp' : ∀ k ∈ r.map (·.1), (look k (upd m o objs)).isSome = true := fun k hk => by
      by_cases hkm : m = k
      · subst hkm; exact absurd hk hnd.1
      · rw [look_upd_ne o hkm]; exact hp k (by simp only [List.map_cons, List.mem_cons]; exact .inr hk)
    simp only [updAll]
    rw [look_updAll n r (upd m o objs) hnd.2 hp']
    by_cases hmn : m = n
    · subst hmn
      have hr : look m r = none := by
        cases hl : look m r with
        | none => rfl
        | some q => exact absurd (look_mem hl) hnd.1
      rw [hr]
      simp only [look, if_true]
      exact look_upd o objs (hp m (by simp))
    · simp only [look, hmn, if_false]
      rw [look_upd_ne o hmn]

theorem boxRep_lower {w : World} {D D' : Names} {cs : List AV} {d : Option Nat} (h : ObjRep w D (.box cs) d) (hc : cs.all plainC = true) (hM : ∀ b, b < w.heap.size → D'.M b → D.M b) : ObjRep w D' (.box cs) d := by
  cases d with
  | none => exact h.elim
  | some b =>
    obtain ⟨vs, T, h1, h2, h3⟩ := h
    refine ⟨vs, T, h1, h2, fun i x hx => ⟨?_, (h3 i x hx).2⟩⟩
    have hp := List.all_eq_true.1 hc x (List.mem_of_getElem? hx)
    exact ((plainC_imm (h3 i x hx).1 hp).mono (Grow.refl w _).toKeep hM).cell

theorem arrRep_lower {w : World} {D D' : Names} {sz : Nat} {l : List (List AV)} {d : Option Nat} (h : ObjRep w D (.arr sz l) d) (hM : ∀ b, b < w.heap.size → D'.M b → D.M b) : ObjRep w D' (.arr sz l) d := by
  cases d with
  | none => exact h
  | some b =>
    obtain ⟨vs, T, fz, h1, h2, h3, h4, h5, h6⟩ := h
    exact ⟨vs, T, fz, h1, h2, h3, h4, h5, fun j cs i x hj hx => ⟨(h6 j cs i x hj hx).1.mono (Grow.refl w _).toKeep hM, (h6 j cs i x hj hx).2⟩⟩

/-- The caller's names as the callee has them: what is handed over by name; the rest hidden. -/
def handed (D : Names) (ns : List Nat) : Names := fun n => if n < top then (if n ∈ ns then D n else none) else (if n - top ∈ ns then none else D (n - top))

theorem handed_in {D : Names} {ns : List Nat} {n : Nat} (h : n ∈ ns) (hK : n < top) : handed D ns n = D n := by simp [handed, h, hK]
theorem handed_out {D : Names} {ns : List Nat} {n : Nat} (h : n ∉ ns) : handed D ns (top + n) = D n := by
  unfold handed
  rw [if_neg (by omega)]
  have : top + n - top = n := by omega
  simp [this, h]

theorem handed_from {D : Names} {ns : List Nat} {n : Nat} {b : Nat} (h : handed D ns n = some (some b)) : (n < top ∧ n ∈ ns ∧ D n = some (some b)) ∨ ∃ m, n = top + m ∧ m ∉ ns ∧ D m = some (some b) := by
  unfold handed at h
  split at h
  · rename_i hK
    split at h
    · rename_i hn; exact .inl ⟨hK, hn, h⟩
    · cases h
  · rename_i hK
    split at h
    · cases h
    · rename_i hn
      exact .inr ⟨n - top, by omega, hn, h⟩

theorem cGive_sound {P : Program} {Φ : Table} (hΦ : Sound P Φ) {w0 w : World} {M0 : Nat → Prop} {D : Names} {objs : List (Nat × Obj)} (hm : Mem w0 M0 objs D w) {env : List AV} {a : Act} (he : EnvRep w D env a.tmps) {d : Nat} {f : FuncId} {xs : List Operand} {r : HR}
    (h : cGive Φ env objs d f xs = some r) : funOk P f = true ∧ CallDone P w0 M0 a w D objs f (xs.map a.eval).toArray r := by
  unfold cGive at h
  simp only at h
  split at h
  · rename_i hc
    obtain ⟨hargs, hns, hnd, hbox, hd, hdK, hrn⟩ := hc
    split at h
    · rename_i q hq
      split at h
      · rename_i hr
        obtain ⟨hr1, hr2, hr3⟩ := hr
        simp only [Option.some.injEq] at h; subst h
        obtain ⟨hf, hcon⟩ := hΦ f _ _ q hq
        refine ⟨hf, ?_⟩
        generalize hnsd : refsOf (xs.map (ev env)) = ns at *
        have hnsK : ∀ n ∈ ns, (look n objs).isSome = true ∧ n < top := by
          intro n hn
          rw [← hns] at hn
          have h1 := look_of_mem hn
          rw [look_lookAll] at h1
          split at h1
          · exact ⟨h1, hm.small n h1⟩
          · simp at h1
        let Dc : Names := handed D ns
        have hMc : ∀ b, Dc.M b → D.M b := by
          rintro b ⟨n, hn⟩
          rcases handed_from hn with ⟨_, _, h⟩ | ⟨m, _, _, h⟩
          · exact ⟨n, h⟩
          · exact ⟨m, h⟩
        have hNc : ∀ b, Dc.N b → ∃ n ∈ ns, D n = some (some b) := by
          rintro b ⟨n, hK, hn⟩
          rcases handed_from hn with ⟨_, h1, h2⟩ | ⟨m, h1, _⟩
          · exact ⟨n, h1, h2⟩
          · omega
        have hNcN : ∀ b, Dc.N b → D.N b := fun b hb => by obtain ⟨n, hn, h⟩ := hNc b hb; exact ⟨n, (hnsK n hn).2, h⟩
        have hmc : Mem w Dc.N (lookAll ns objs) Dc w := by
          refine ⟨fun n hK => ?_, fun n hn => ?_, fun n o e hl hn => ?_, fun n m b h1 h2 => ?_, fun b hb => hm.lt b (hMc b hb), fun b hb => .inl hb, Grow.refl w _, rfl, rfl, rfl⟩
          · rw [look_lookAll]
            by_cases hmem : n ∈ ns
            · simp only [hmem, if_true]; rw [show Dc n = D n from handed_in hmem hK]; exact hm.dom n hK
            · simp only [hmem, if_false]; simp [Dc, handed, hK, hmem]
          · rw [look_lookAll] at hn
            split at hn
            · exact hm.small n hn
            · simp at hn
          · have hl0 := hl
            rw [look_lookAll] at hl
            split at hl
            · rename_i hmem
              rw [show Dc n = D n from handed_in hmem (hnsK n hmem).2] at hn
              obtain ⟨cs, rfl, hpc⟩ := boxesOk_look hbox hl0
              exact boxRep_lower (hm.rep n _ e hl hn) hpc (fun b _ hb => hMc b hb)
            · cases hl
          · rcases handed_from h1 with ⟨k1, k2, k3⟩ | ⟨p, k1, k2, k3⟩
            · rcases handed_from h2 with ⟨g1, g2, g3⟩ | ⟨q', g1, g2, g3⟩
              · exact hm.inj n m b k3 g3
              · have := hm.inj n q' b k3 g3; subst this; exact absurd k2 g2
            · rcases handed_from h2 with ⟨g1, g2, g3⟩ | ⟨q', g1, g2, g3⟩
              · have := hm.inj p m b k3 g3; subst this; exact absurd g2 k2
              · rw [k1, g1, hm.inj p q' b k3 g3]
        have low := nf_lower (w := w) (D := D) (D' := Dc) (fun b _ hb => hMc b hb)
        have hargsR : ArgsRep w Dc (xs.map (ev env)) (xs.map a.eval) := by
          refine ⟨by simp, fun i y hy => ?_⟩
          rw [List.getElem?_map] at hy
          obtain ⟨o, ho, rfl⟩ := Option.map_eq_some_iff.1 hy
          have e : (xs.map a.eval).getD i undef = a.eval o := by simp [List.getD, List.getElem?_map, ho]
          rw [e]
          have hs := ev_sound he o
          have hok : argOk (ev env o) = true := List.all_eq_true.1 hargs _ (List.mem_map_of_mem (List.mem_of_getElem? ho))
          generalize hx : ev env o = x at hs hok
          cases x with
          | ref n sz p off =>
            simp only [argOk, Bool.and_eq_true, beq_iff_eq] at hok
            obtain ⟨rfl, rfl⟩ := hok
            have hmem : n ∈ ns := by
              rw [← hnsd]
              refine List.mem_filterMap.2 ⟨.ref n sz 0 0, ?_, rfl⟩
              rw [← hx]; exact List.mem_map_of_mem (List.mem_of_getElem? ho)
            simp only [Slot, Val, Cell] at hs ⊢
            obtain ⟨b, h1, h2⟩ := hs
            exact ⟨b, by rw [show Dc n = D n from handed_in hmem (hnsK n hmem).2]; exact h1, h2⟩
          | agg l => exact low.2.2 hs (by simpa only [argOk, nf, nfV] using hok)
          | _ => exact low.2.2 hs (by simpa only [argOk] using hok)
        refine (hcon w Dc _ hmc hargsR).mono fun e w' hpost => ?_
        obtain ⟨v, Dd, rfl, hm', hs, hkeep⟩ := hpost
        -- the caller's names behind the call
        have hback : ∀ n b, D n = some (some b) → ∃ m, Dd m = some (some b) ∧ (m = n ∧ n ∈ ns ∨ m = top + n ∧ n ∉ ns) := by
          intro n b hn
          by_cases hmem : n ∈ ns
          · exact ⟨n, hkeep n _ (by rw [show Dc n = D n from handed_in hmem (hnsK n hmem).2]; exact hn), .inl ⟨rfl, hmem⟩⟩
          · exact ⟨top + n, hkeep _ _ (by rw [show Dc (top + n) = D n from handed_out hmem]; exact hn), .inr ⟨rfl, hmem⟩⟩
        have hDd : D d = none := hm.fresh hd hdK
        have hdns : d ∉ ns := fun hmem => by have := (hnsK d hmem).1; rw [hd] at this; simp at this
        let D' : Names := fun n => if n = d ∧ q.new.isSome then Dd rn else D n
        have hD'ne : ∀ n, n ≠ d → D' n = D n := fun n hn => by simp [D', hn]
        have hD'ext : ∀ n e, D n = some e → D' n = some e := fun n e hn => by
          rw [hD'ne n (fun hh => by subst hh; rw [hDd] at hn; cases hn)]; exact hn
        have hD'M : ∀ b, D'.M b → Dd.M b := by
          rintro b ⟨n, hn⟩
          by_cases hc : n = d ∧ q.new.isSome
          · simp only [D', hc, and_self, if_true] at hn; exact ⟨rn, hn⟩
          · simp only [D', hc, if_false] at hn
            obtain ⟨m, hm1, _⟩ := hback n b hn; exact ⟨m, hm1⟩
        have hrnK : rn < top := by decide
        have hownb : ∀ b, Dd rn = some (some b) → D.N b ∨ w.heap.size ≤ b := fun b hb => by
          rcases hm'.own b ⟨rn, hrnK, hb⟩ with h | h
          · exact .inl (hNcN b h)
          · exact .inr h
        have hM'old : ∀ b, b < w.heap.size → D'.M b → D.M b := by
          rintro b hb ⟨n, hn⟩
          by_cases hc : n = d ∧ q.new.isSome
          · simp only [D', hc, and_self, if_true] at hn
            rcases hownb b hn with h | h
            · exact Names.N_M h
            · omega
          · simp only [D', hc, if_false] at hn; exact ⟨n, hn⟩
        have kc : Grow w w' Dc.N := hm'.grow
        have kM : Grow w w' D.M := kc.weaken (fun b _ hb => Names.N_M (hNcN b hb))
        have hlk : ∀ n, look n (updAll q.os objs) = if n ∈ ns then look n q.os else look n objs := by
          intro n
          rw [look_updAll n q.os objs (by rw [hr1]; exact hnd) (fun m hmm => (hnsK m (by rw [← hr1]; exact hmm)).1)]
          by_cases hmem : n ∈ ns
          · have : (look n q.os).isSome = true := look_of_mem (by rw [hr1]; exact hmem)
            obtain ⟨o, ho⟩ := Option.isSome_iff_exists.1 this
            simp [ho, hmem]
          · have : look n q.os = none := by
              cases hl : look n q.os with
              | none => rfl
              | some o => exact absurd (by rw [← hr1]; exact look_mem hl) hmem
            simp [this, hmem]
        have hlk' : ∀ n, (look n (updAll q.os objs)).isSome = (look n objs).isSome := by
          intro n; rw [hlk n]
          by_cases hmem : n ∈ ns
          · simp only [hmem, if_true, (hnsK n hmem).1]; exact look_of_mem (by rw [hr1]; exact hmem)
          · simp only [hmem, if_false]
        have hrepOld : ∀ n o e, look n (updAll q.os objs) = some o → D n = some e → ObjRep w' D' o e := by
          intro n o e hl hn
          rw [hlk n] at hl
          by_cases hmem : n ∈ ns
          · simp only [hmem, if_true] at hl
            obtain ⟨cs, rfl, hpc⟩ := boxesOk_look hr2 hl
            have hl' : look n q.objs = some (.box cs) := by
              unfold CR.objs
              cases q.new with
              | none => exact hl
              | some o' => simp only [look, if_neg (fun h : rn = n => hrn (h ▸ hmem))]; exact hl
            have := hm'.rep n _ e hl' (hkeep n e (by rw [show Dc n = D n from handed_in hmem (hnsK n hmem).2]; exact hn))
            exact boxRep_lower this hpc (fun b _ hb => hD'M b hb)
          · simp only [hmem, if_false] at hl
            exact (hm.rep n o e hl hn).mono kM hD'ext hm.lt hM'old (fun b hb => kc.same b (hm.lt b ⟨n, by rw [hn, hb]⟩) (fun hN => by
              obtain ⟨m, hmm, hmb⟩ := hNc b hN
              exact hmem (hm.inj n m b (by rw [hn, hb]) hmb ▸ hmm)))
        have hsepd : ∀ n b, n ≠ d → D n = some (some b) → Dd rn = some (some b) → False := by
          intro n b _ hn hb
          obtain ⟨m, hm1, hm2⟩ := hback n b hn
          have := hm'.inj rn m b hb hm1
          rcases hm2 with ⟨h1, h2⟩ | ⟨h1, _⟩
          · exact hrn (by rw [this, h1]; exact h2)
          · have : rn < top := hrnK; omega
        have hgrow : Grow w0 w' M0 := hm.grow.trans kc (fun x hx hN => by
          rcases hm.own x (hNcN x hN) with h | h
          · exact h
          · omega)
        have hinj : ∀ n m b, D' n = some (some b) → D' m = some (some b) → n = m := by
          intro n m b h1 h2
          by_cases e1 : n = d ∧ q.new.isSome = true
          · by_cases e2 : m = d ∧ q.new.isSome = true
            · rw [e1.1, e2.1]
            · simp only [D', e1, and_self, if_true] at h1
              simp only [D', e2, if_false] at h2
              have hmd : m ≠ d := fun hh => e2 ⟨hh, e1.2⟩
              exact (hsepd m b hmd h2 h1).elim
          · by_cases e2 : m = d ∧ q.new.isSome = true
            · simp only [D', e1, if_false] at h1
              simp only [D', e2, and_self, if_true] at h2
              have hnd' : n ≠ d := fun hh => e1 ⟨hh, e2.2⟩
              exact (hsepd n b hnd' h1 h2).elim
            · simp only [D', e1, if_false] at h1
              simp only [D', e2, if_false] at h2
              exact hm.inj n m b h1 h2
        have hown : ∀ b, D'.N b → M0 b ∨ w0.heap.size ≤ b := by
          rintro b ⟨n, hK, hn⟩
          by_cases e1 : n = d ∧ q.new.isSome = true
          · simp only [D', e1, and_self, if_true] at hn
            rcases hownb b hn with h | h
            · exact hm.own b h
            · exact .inr (Nat.le_trans hm.grow.size h)
          · simp only [D', e1, if_false] at hn
            exact hm.own b ⟨n, hK, hn⟩
        have henv : EnvRep w' D' env a.tmps := he.mono kM hD'ext hm.lt hM'old
        have hpinOld : ∀ D0, Pin D0 D objs → ∀ n e, D0 n = some e → D' n = some e ∧ (n < top → ∃ cs, look n (updAll q.os objs) = some (.box cs)) := by
          intro D0 hp n e hn
          obtain ⟨h1, h2⟩ := hp n e hn
          refine ⟨hD'ext n e h1, fun hK => ?_⟩
          rw [hlk n]
          by_cases hmem : n ∈ ns
          · simp only [hmem, if_true]
            obtain ⟨o, ho⟩ := Option.isSome_iff_exists.1 (look_of_mem (l := q.os) (n := n) (by rw [hr1]; exact hmem))
            obtain ⟨cs, rfl, _⟩ := boxesOk_look hr2 ho
            exact ⟨cs, ho⟩
          · simp only [hmem, if_false]; exact h2 hK
        have lowB := nf_lower (w := w') (D := Dd) (D' := D') (fun b _ hb => hD'M b hb)
        cases hnew : q.new with
        | none =>
          have hD'eq : ∀ n, D' n = D n := fun n => by simp [D', hnew]
          have hx : nf q.x = true := by simpa only [newOk, hnew] using hr3
          have hxr : rename d q.x = q.x := by
            cases hqx : q.x <;> first | rfl | (rw [hqx] at hx; simp [nf, nfV, nfC] at hx)
          refine ⟨v, D', rfl, by simp only; rw [hxr]; exact lowB.2.2 hs hx, ?_, henv, fun D0 hp => hpinOld D0 hp⟩
          exact ⟨fun n hK => by rw [hD'eq, hlk' n]; exact hm.dom n hK, fun n hn => hm.small n (by rw [← hlk' n]; exact hn), fun n o e hl hn => hrepOld n o e hl (by rw [← hD'eq]; exact hn), hinj,
            fun b hb => hm'.lt b (hD'M b hb), hown, hgrow, hm'.os.trans hm.os, hm'.tape.trans hm.tape, hm'.output.trans hm.output⟩
        | some o =>
          have hD'd : D' d = Dd rn := by simp [D', hnew]
          have hlrn : look rn q.objs = some o := by simp [CR.objs, hnew, look]
          have hdrn := hm'.dom rn hrnK
          rw [hlrn] at hdrn
          refine ⟨v, D', rfl, ?_, ?_, henv, fun D0 hp n e hn => ?_⟩
          · -- the result
            simp only [newOk, hnew] at hr3
            cases o with
            | arr sz l =>
              simp only at hr3
              split at hr3
              · rename_i n s off len hx
                simp only [Bool.and_eq_true, beq_iff_eq] at hr3
                obtain ⟨⟨⟨rfl, rfl⟩, rfl⟩, rfl⟩ := hr3
                rw [hx] at hs ⊢
                simp only [rename, if_true]
                simp only [Slot, Val, Cell] at hs ⊢
                rw [hD'd]; exact hs
              · cases hr3
            | box cs =>
              simp only [Bool.and_eq_true] at hr3
              obtain ⟨hr3, _⟩ := hr3
              split at hr3
              · rename_i n s p off hx
                simp only [Bool.and_eq_true, beq_iff_eq] at hr3
                obtain ⟨⟨⟨rfl, rfl⟩, rfl⟩, rfl⟩ := hr3
                rw [hx] at hs ⊢
                simp only [rename, if_true]
                simp only [Slot, Val, Cell] at hs ⊢
                rw [hD'd]; exact hs
              · cases hr3
          · refine ⟨fun n hK => ?_, fun n hn => ?_, fun n p e hl hn => ?_, hinj, fun b hb => hm'.lt b (hD'M b hb), hown, hgrow, hm'.os.trans hm.os, hm'.tape.trans hm.tape, hm'.output.trans hm.output⟩
            · by_cases hnd' : n = d
              · subst hnd'; rw [hD'd, hdrn]; simp [look]
              · simp only [look, if_neg (Ne.symm hnd')]; rw [hD'ne n hnd', hlk' n]; exact hm.dom n hK
            · by_cases hnd' : n = d
              · subst hnd'; exact hdK
              · simp only [look, if_neg (Ne.symm hnd')] at hn; exact hm.small n (by rw [← hlk' n]; exact hn)
            · by_cases hnd' : n = d
              · subst hnd'
                simp only [look, if_true, Option.some.injEq] at hl; subst hl
                rw [hD'd] at hn
                have hrep := hm'.rep rn o e hlrn hn
                cases o with
                | arr sz l => exact arrRep_lower hrep (fun b _ hb => hD'M b hb)
                | box cs =>
                  simp only [newOk, hnew, Bool.and_eq_true] at hr3
                  exact boxRep_lower hrep hr3.2 (fun b _ hb => hD'M b hb)
              · simp only [look, if_neg (Ne.symm hnd')] at hl
                exact hrepOld n p e hl (by rw [← hD'ne n hnd']; exact hn)
          · obtain ⟨h1, h2⟩ := hpinOld D0 hp n e hn
            refine ⟨h1, fun hK => ?_⟩
            obtain ⟨cs, hcs⟩ := h2 hK
            have hnd' : n ≠ d := fun hh => by
              subst hh
              have := (hp n e hn).1
              rw [hDd] at this; cases this
            exact ⟨cs, by simp only [look, if_neg (Ne.symm hnd')]; exact hcs⟩
      · cases h
    · cases h
  · cases h

theorem cOp_sound {P : Program} {Φ : Table} (hΦ : Sound P Φ) {w0 w : World} {M0 : Nat → Prop} {D : Names} {objs : List (Nat × Obj)} (hm : Mem w0 M0 objs D w) {env : List AV} {a : Act} (he : EnvRep w D env a.tmps) {d : Nat} {f : FuncId} {xs : List Operand} {r : HR}
    (h : cOp Φ env objs d f xs = some r) : funOk P f = true ∧ CallDone P w0 M0 a w D objs f (xs.map a.eval).toArray r := by
  unfold cOp at h
  split at h
  · exact cGive_sound hΦ hm he h
  · split at h
    · rename_i q hq
      simp only [Option.some.injEq] at h; subst h
      exact cLend_sound hΦ hm he hq
    · split at h
      · rename_i q hq
        obtain ⟨D1, hm1, he1, hp1⟩ := settle_sound _ 8 hm he hq
        obtain ⟨hf, hcd⟩ := cGive_sound hΦ hm1 he1 h
        exact ⟨hf, hcd.mono fun e w' ⟨v, D', h1, h2, h3, h4, h5⟩ => ⟨v, D', h1, h2, h3, h4, fun D0 hp => h5 D0 (hp1 D0 hp)⟩⟩
      · cases h

end Go.Abs
