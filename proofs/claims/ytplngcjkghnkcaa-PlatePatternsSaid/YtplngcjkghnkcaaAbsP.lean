/- Regions of operations, and Hoare triples on abstract states. -/
import Derived.Test.YtplngcjkghnkcaaAbsN
namespace Go.Abs
open Go.RowKit

def putA (env : List AV) (dst : Option Tmp) (x : AV) : List AV := match dst with | some d => env.set d x | none => env

theorem EnvRep.put {w : World} {D : Names} {env : List AV} {a : Act} (h : EnvRep w D env a.tmps) (dst : Option Tmp) {x : AV} {v : Value} (hx : Slot w D x v) : EnvRep w D (putA env dst x) (a.put dst v).tmps := by
  cases dst with
  | none => exact h
  | some d =>
    refine ⟨by simp [putA, Act.put, h.1], fun i y hy => ?_⟩
    simp only [putA, List.getElem?_set] at hy
    simp only [Act.put]
    split at hy
    · rename_i hdi
      subst hdi
      split at hy
      · rename_i hlt
        simp only [Option.some.injEq] at hy; subst hy
        have : d < a.tmps.size := by rw [h.1]; exact hlt
        simpa [Array.getD, this] using hx
      · cases hy
    · rename_i hdi
      have := h.2 i y hy
      have e : (a.tmps.setIfInBounds d v).getD i undef = a.tmps.getD i undef := by
        simp only [Array.getD_eq_getD_getElem?, Array.getElem?_setIfInBounds, hdi, if_false]
      rw [e]; exact this

def guardOf (ops : Array Oper) (env : List AV) (o : Oper) : Option Bool :=
  match o.guard with
  | none => some true
  | some (j, want) => match (ops[j]?).bind (·.dst) with
    | some t => match env.getD t .any with
      | .bool b => some (b == want)
      | .und => some false
      | _ => none
    | none => none

theorem slot_und {w : World} {D : Names} {v : Value} (h : Slot w D .und v) : v = undef := by
  simp only [Slot, Val, Cell] at h; cases h; rfl

theorem guardOf_sound {w : World} {D : Names} {ops : Array Oper} {env : List AV} {tmps : Array Value} (he : EnvRep w D env tmps) {o : Oper} {b : Bool} (h : guardOf ops env o = some b) : Region.wanted o (yielded ops tmps) = b := by
  unfold guardOf at h
  unfold Region.wanted
  split at h
  · rename_i hg
    simp only [Option.some.injEq] at h; subst h
    simp [hg]
  · rename_i j want hg
    simp only [hg]
    split at h
    · rename_i t ht
      simp only [yielded, ht, Option.bind_some]
      have hs : Slot w D (env.getD t .any) (tmps.getD t undef) := by
        simp only [List.getD]
        cases hx : env[t]? with
        | none => exact slot_any _ _ _
        | some x => exact he.2 t x hx
      split at h
      · rename_i c hc
        simp only [Option.some.injEq] at h; subst h
        have hlt : t < env.length := by
          rcases Nat.lt_or_ge t env.length with h | h
          · exact h
          · simp [List.getD, List.getElem?_eq_none h] at hc
        rw [hc] at hs
        have := slot_bool hs
        have hts : t < tmps.size := by rw [he.1]; exact hlt
        have e : tmps[t]? = some (.bool c) := by
          rw [Array.getElem?_eq_getElem hts]
          simp only [Array.getD_eq_getD_getElem?, Array.getElem?_eq_getElem hts, Option.getD_some] at this
          rw [this]
        simp only [e]
        cases c <;> cases want <;> rfl
      · rename_i hc
        simp only [Option.some.injEq] at h; subst h
        rw [hc] at hs
        have hu : tmps.getD t undef = undef := slot_und hs
        cases hx : tmps[t]? with
        | none => rfl
        | some v =>
          simp only [Array.getD_eq_getD_getElem?, hx, Option.getD_some] at hu
          subst hu; rfl
      · cases h
    · cases h

/-- One operation of a region whose order is fixed. -/
def xOp (P : Program) (Φ : Table) (ops : Array Oper) (o : Oper) (s : St) : Option St :=
  match guardOf ops s.env o with
  | none => none
  | some false => some ⟨putA s.env o.dst .und, s.objs⟩
  | some true => match o.op with
    | .call { callee := .value (.func f), args, argTypes := _ } => (cOp Φ s.env s.objs (o.dst.getD 999998) f args.toList).map fun r => ⟨putA r.env o.dst r.x, r.objs⟩
    | op => match rOp P s.env s.objs op with
      | some x => some ⟨putA s.env o.dst x, s.objs⟩
      | none => (hOp P s.env s.objs o.dst op).map fun r => ⟨putA r.env o.dst r.x, r.objs⟩

def xOps (P : Program) (Φ : Table) (ops : Array Oper) : List Oper → St → Option St
  | [], s => some s
  | o :: l, s => match xOp P Φ ops o s with
    | some s' => xOps P Φ ops l s'
    | none => none

/-- The state holds; D0: the names that were handed in, pins: which they are. -/
def Sat (w0 : World) (M0 : Nat → Prop) (D0 : Names) (s : St) (a : Act) (w : World) : Prop :=
  a.defers = [] ∧ ∃ D, Mem w0 M0 s.objs D w ∧ EnvRep w D s.env a.tmps ∧ Pin D0 D s.objs

theorem put_defers (a : Act) (dst : Option Tmp) (v : Value) : (a.put dst v).defers = a.defers := by cases dst <;> rfl

theorem xOp_sound {P : Program} {Φ : Table} (hΦ : Sound P Φ) {ops : Array Oper} {o : Oper} {s s' : St} (h : xOp P Φ ops o s = some s') {w0 : World} {M0 : Nat → Prop} {D0 : Names} {a : Act} {w : World} (hs : Sat w0 M0 D0 s a w)
    {rest : List Oper} {Q : Exit → Act → World → Prop} (hq : ∀ a' w', Sat w0 M0 D0 s' a' w' → wpList P ops Q rest a' w') : wpList P ops Q (o :: rest) a w := by
  obtain ⟨hd, D, hm, he, hp⟩ := hs
  unfold xOp at h
  split at h
  · cases h
  · rename_i hg
    simp only [Option.some.injEq] at h; subst h
    refine wpList_skip (guardOf_sound he hg) (hq _ _ ⟨by rw [put_defers]; exact hd, D, hm, he.put _ ?_, hp⟩)
    simp only [Slot, Val, Cell]; exact .und
  · rename_i hg
    have hw := guardOf_sound he hg
    refine wpList_step fun K hK => ?_
    rw [if_pos hw]
    split at h
    · rename_i f args tys hop
      obtain ⟨r, hr, rfl⟩ := Option.map_eq_some_iff.1 h
      obtain ⟨hf, hc⟩ := cOp_sound hΦ hm he hr
      unfold Oper.wp
      rw [run_call hop hf w]
      have : (args.map a.eval) = (args.toList.map a.eval).toArray := Array.ext' (by simp)
      rw [Oper.upon_enter, this]
      refine hc.mono fun e w' hpost => ?_
      obtain ⟨v, D', rfl, h1, h2, h3, h4⟩ := hpost
      exact hK _ _ (hq _ _ ⟨by rw [put_defers]; exact hd, D', h2, h3.put _ h1, h4 D0 hp⟩)
    · split at h
      · rename_i x hx
        simp only [Option.some.injEq] at h; subst h
        obtain ⟨v, h1, h2⟩ := rOp_sound hm he hx
        unfold Oper.wp
        rw [h2 w (Below.refl _ _)]
        exact hK _ _ (hq _ _ ⟨by rw [put_defers]; exact hd, D, hm, he.put _ h1, hp⟩)
      · obtain ⟨r, hr, rfl⟩ := Option.map_eq_some_iff.1 h
        obtain ⟨v, w', D', h1, h2, h3, h4, h5⟩ := hOp_sound hm he hr
        unfold Oper.wp
        rcases h1 with h1 | ⟨h1, rfl⟩
        · rw [h1]
          exact hK _ _ (hq _ _ ⟨by rw [put_defers]; exact hd, D', h3, h4.put _ h2, h5 D0 hp⟩)
        · rw [h1]
          exact hK _ _ (hq _ _ ⟨by rw [put_defers]; exact hd, D', h3, h4.put _ h2, h5 D0 hp⟩)

theorem xOps_sound {P : Program} {Φ : Table} (hΦ : Sound P Φ) {ops : Array Oper} {w0 : World} {M0 : Nat → Prop} {D0 : Names} {Q : Exit → Act → World → Prop} : ∀ (l : List Oper) {s s' : St}, xOps P Φ ops l s = some s' →
    ∀ {a w}, Sat w0 M0 D0 s a w → (∀ a' w', Sat w0 M0 D0 s' a' w' → Q .normal a' w') → wpList P ops Q l a w
  | [], s, s', h, a, w, hs, hq => by simp only [xOps, Option.some.injEq] at h; subst h; exact hq a w hs
  | o :: l, s, s', h, a, w, hs, hq => by
    simp only [xOps] at h
    split at h
    · rename_i s1 h1
      exact xOp_sound hΦ h1 hs fun a' w' hs' => xOps_sound hΦ l h hs' hq
    · cases h

/-! ## regions that draw their order -/
def toV : AV → Value
  | .int k n => .int k n
  | .bool b => .bool b
  | .str s => .string ⟨s.toArray⟩
  | _ => undef

def toVV : AV → Value
  | .agg l => .agg (l.map toV).toArray
  | x => toV x
def toVS : AV → Value
  | .tup l => .tuple (l.map toVV).toArray
  | x => toVV x

theorem toV_eq {w : World} {D : Names} {x : AV} {v : Value} (h : Cell w D x v) (hg : groundC x = true) : v = toV x := by
  cases x <;> simp only [groundC, Bool.false_eq_true] at hg <;> simp only [Cell] at h <;> cases h <;> rfl

theorem list_eq_map (f : AV → Value) {l : List AV} {vs : List Value} (hl : vs.length = l.length) (h : ∀ (i : Nat) (x : AV), l[i]? = some x → vs.getD i undef = f x) : vs = l.map f := by
  apply List.ext_getElem?
  intro i
  by_cases hi : i < l.length
  · have := h i _ (List.getElem?_eq_getElem hi)
    rw [List.getElem?_map, List.getElem?_eq_getElem hi, List.getElem?_eq_getElem (by omega)]
    simp only [List.getD, List.getElem?_eq_getElem (show i < vs.length by omega), Option.getD_some] at this
    simp [this]
  · rw [List.getElem?_eq_none (by omega), List.getElem?_eq_none (by simp; omega)]

theorem toVV_eq {w : World} {D : Names} {x : AV} {v : Value} (h : Val w D x v) (hg : (match x with | .agg l => l.all groundC | x => groundC x) = true) : v = toVV x := by
  cases x with
  | agg l =>
    obtain ⟨vs, rfl, h2, h3⟩ := h
    have := list_eq_map toV h2 (fun i y hy => toV_eq (h3 i y hy).1 (List.all_eq_true.1 hg y (List.mem_of_getElem? hy)))
    rw [this]; rfl
  | _ => simp only [Val] at h; exact toV_eq h hg

theorem toVS_eq {w : World} {D : Names} {x : AV} {v : Value} (h : Slot w D x v) (hg : ground x = true) : v = toVS x := by
  cases x with
  | tup l =>
    obtain ⟨vs, rfl, h2, h3⟩ := h
    have := list_eq_map toVV h2 (fun i y hy => toVV_eq (h3 i y hy) (by
      have := List.all_eq_true.1 hg y (List.mem_of_getElem? hy)
      cases y <;> exact this))
    rw [this]; rfl
  | agg l => simp only [Slot] at h; exact toVV_eq h hg
  | _ => simp only [Slot] at h; exact toVV_eq h hg

def qOp1 (P : Program) (Φ : Table) (ops : Array Oper) (o : Oper) (s : St) : Option St :=
  match guardOf ops s.env o with
  | none => none
  | some false => some ⟨putA s.env o.dst .und, s.objs⟩
  | some true => match o.op with
    | .call { callee := .value (.func f), args, argTypes := _ } => (cLend Φ s.env s.objs f args.toList).map fun r => ⟨putA r.env o.dst r.x, r.objs⟩
    | op => (rOp P s.env s.objs op).map fun x => ⟨putA s.env o.dst x, s.objs⟩

def qOps (P : Program) (Φ : Table) (ops : Array Oper) : List Oper → St → Option St
  | [], s => some s
  | o :: l, s => match qOp1 P Φ ops o s with
    | some s' => qOps P Φ ops l s'
    | none => none

theorem grow_of_below {w w' : World} (h : Below w.heap.size w w') : Grow w w' (fun _ => False) :=
  ⟨⟨h.size, fun b hb _ => h.block b hb⟩, fun b hb => by unfold World.row World.shape?; rw [h.block b hb]⟩

theorem below_of_grow {w w' : World} (h : Grow w w' (fun _ => False)) (ho : w'.os = w.os) (ht : w'.tape = w.tape) (hp : w'.output = w.output) : Below w.heap.size w w' :=
  ⟨ho, ht, hp, h.size, fun b hb => h.same b hb (fun h => h)⟩

theorem cLend_quiet {P : Program} {Φ : Table} (hΦ : Sound P Φ) {w0 w : World} {M0 : Nat → Prop} {D : Names} {objs : List (Nat × Obj)} (hm : Mem w0 M0 objs D w) {env : List AV} {a : Act} (he : EnvRep w D env a.tmps) {f : FuncId} {xs : List Operand} {r : HR}
    (h : cLend Φ env objs f xs = some r) : r.env = env ∧ r.objs = objs ∧ funOk P f = true ∧ Slot w D r.x (toVS r.x) ∧
      ∀ w', Below w.heap.size w w' → Calls P f (xs.map a.eval).toArray w' (fun e w'' => e = .returned (toVS r.x) ∧ Below w.heap.size w w'') := by
  unfold cLend at h
  split at h
  · rename_i as has
    split at h
    · rename_i hnf
      split at h
      · rename_i x hx
        split at h
        · rename_i hg
          simp only [Option.some.injEq] at h; subst h
          obtain ⟨hf, hc⟩ := hΦ f as [] ⟨x, [], none⟩ hx
          obtain ⟨hlen, hget⟩ := mapM_get has
          have hargs : ∀ w', Below w.heap.size w w' → ArgsRep w' (fun _ => none) as (xs.map a.eval) := by
            intro w' hw'
            refine ⟨by simp [hlen], fun i y hy => ?_⟩
            obtain ⟨z, hz, hl⟩ := hget i y hy
            rw [List.getElem?_map] at hz
            obtain ⟨o, ho, rfl⟩ := Option.map_eq_some_iff.1 hz
            have e : (xs.map a.eval).getD i undef = a.eval o := by simp [List.getD, List.getElem?_map, ho]
            rw [e]
            have hl0 := lend_sound hm (ev_sound he o) hl (List.all_eq_true.1 hnf y (List.mem_of_getElem? hy))
            exact hl0.mono ((grow_of_below hw').weaken (fun _ _ h => h.elim)) (fun _ _ h => h) (fun b hb => by obtain ⟨n, hn⟩ := hb; cases hn) (fun b _ h => h)
          have gs : Slot w D x (toVS x) := by
            obtain ⟨e, w'', fr, ⟨v, D', _, _, hs, _⟩, _⟩ := hc w _ _ (mem_none w) (hargs w (Below.refl _ _)) []
            have hv := toVS_eq hs hg
            rw [← hv]
            exact ground_slot hs hg
          refine ⟨rfl, rfl, hf, gs, fun w' hw' => ?_⟩
          refine (hc w' _ _ (mem_none w') (hargs w' hw')).mono fun e w'' hpost => ?_
          obtain ⟨v, D', rfl, hm', hs, _⟩ := hpost
          have k : Grow w' w'' (fun _ => False) := hm'.grow.weaken (fun b _ hb => by obtain ⟨n, _, hn⟩ := hb; cases hn)
          have hb := below_of_grow k hm'.os hm'.tape hm'.output
          exact ⟨by rw [toVS_eq hs hg], hw'.trans (hb.mono hw'.size)⟩
        · cases h
      · cases h
    · cases h
  · cases h

end Go.Abs
