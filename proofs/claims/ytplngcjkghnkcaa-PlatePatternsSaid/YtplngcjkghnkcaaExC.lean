/- The executor: plans for joins and loops, control flow, functions. Definitions. -/
import Derived.Test.YtplngcjkghnkcaaExB
namespace Go.Abs
open Go.RowKit

inductive PSlot where
  | d (c : CT)
  | own (n : Nat)
  | ref (n sz : Nat)
inductive PC where
  | d (t : Ty)
  | own (n : Nat)
inductive PObj where
  | arr (ts : Tys)
  | box (cs : List PC)
structure Plan where
  slots : List (Nat × PSlot)
  objs : List (Nat × PObj)

def dtsP : List PC → Tys
  | [] => .nil
  | .d t :: l => .cons t (dtsP l)
  | .own _ :: l => dtsP l
@[reducible] def PObj.T : PObj → Type
  | .arr ts => List ts.T
  | .box cs => (dtsP cs).T
@[reducible] def objsT : List (Nat × PObj) → Type
  | [] => Unit
  | (_, o) :: l => o.T × objsT l
@[reducible] def slotsT (R : Type) : List (Nat × PSlot) → Type
  | [] => R
  | (_, .d c) :: l => c.T × slotsT R l
  | (_, .own _) :: l => slotsT R l
  | (_, .ref _ _) :: l => slotsT R l
@[reducible] def Plan.T (p : Plan) : Type := slotsT (objsT p.objs) p.slots

def encE {R : Type} : (l : List (Nat × PSlot)) → slotsT R l → List (Nat × SV)
  | [], _ => []
  | (n, .d c) :: l, x => (n, c.sv x.1) :: encE l x.2
  | (n, .own m) :: l, x => (n, .v (.c (.own m))) :: encE l x
  | (n, .ref m sz) :: l, x => (n, .v (.c (.ref m sz 0 0))) :: encE l x
def restE {R : Type} : (l : List (Nat × PSlot)) → slotsT R l → R
  | [], x => x
  | (_, .d _) :: l, x => restE l x.2
  | (_, .own _) :: l, x => restE l x
  | (_, .ref _ _) :: l, x => restE l x
def encC : (l : List PC) → (dtsP l).T → List CV
  | [], _ => []
  | .d t :: l, x => .k (t.kv x.1) :: encC l x.2
  | .own n :: l, x => .own n :: encC l x
def encO : (l : List (Nat × PObj)) → objsT l → SObjs
  | [], _ => []
  | (n, .arr ts) :: l, x => (n, .arr ts x.1) :: encO l x.2
  | (n, .box cs) :: l, x => (n, .box (encC cs x.1)) :: encO l x.2
def Plan.enc (p : Plan) (x : p.T) : SS := ⟨encE p.slots x, encO p.objs (restE p.slots x)⟩

/-! names of a plan and the names that they have in a state (none: nothing, a nil slice) -/
abbrev NMap := List (Nat × Option Nat)
def lkN : NMap → Nat → Option (Option Nat)
  | [], _ => none
  | (m, x) :: r, n => if m = n then some x else lkN r n
def addN (μ : NMap) (n : Nat) (x : Option Nat) : Option NMap := match lkN μ n with
  | none => some ((n, x) :: μ)
  | some y => match x, y with
    | some a, some b => if a = b then some μ else none
    | none, none => some μ
    | _, _ => none
def mapSlots (N : Nat) (s : SS) : List (Nat × PSlot) → NMap → Option NMap
  | [], μ => some μ
  | (_, .d _) :: l, μ => mapSlots N s l μ
  | (n, .own m) :: l, μ => match s.get N n with
    | .v (.c (.own k)) => match addN μ m (some k) with | some μ => mapSlots N s l μ | none => none
    | .v (.c .nsl) => match addN μ m none with | some μ => mapSlots N s l μ | none => none
    | _ => none
  | (n, .ref m sz) :: l, μ => match s.get N n with
    | .v (.c (.ref k sz' 0 0)) => if sz = sz' then (match addN μ m (some k) with | some μ => mapSlots N s l μ | none => none) else none
    | _ => none
def mapCells : List PC → List CV → NMap → Option NMap
  | [], [], μ => some μ
  | .d _ :: l, _ :: xs, μ => mapCells l xs μ
  | .own m :: l, .own k :: xs, μ => match addN μ m (some k) with | some μ => mapCells l xs μ | none => none
  | .own m :: l, .nsl :: xs, μ => match addN μ m none with | some μ => mapCells l xs μ | none => none
  | _, _, _ => none
def mapObjs (O : SObjs) : List (Nat × PObj) → NMap → Option NMap
  | [], μ => some μ
  | (_, .arr _) :: l, μ => mapObjs O l μ
  | (n, .box cs) :: l, μ => match lkN μ n with
    | some (some k) => match lookS k O with
      | some (.box xs) => match mapCells cs xs μ with | some μ => mapObjs O l μ | none => none
      | _ => none
    | _ => none
def pinMap : List Nat → NMap
  | [] => []
  | p :: l => (p, some p) :: pinMap l

def decE {R : Type} (N : Nat) (s : SS) (z : Option R) : (l : List (Nat × PSlot)) → Option (slotsT R l)
  | [] => z
  | (n, .d c) :: l => match toCT s.objs c (s.get N n), decE N s z l with
    | some a, some b => some (a, b)
    | _, _ => none
  | (_, .own _) :: l => decE N s z l
  | (_, .ref _ _) :: l => decE N s z l
def decC (O : SObjs) : (l : List PC) → List CV → Option (dtsP l).T
  | [], [] => some ()
  | .d t :: l, x :: xs => match toT O t x, decC O l xs with
    | some a, some b => some (a, b)
    | _, _ => none
  | .own _ :: l, _ :: xs => decC O l xs
  | _, _ => none
def decO (μ : NMap) (O : SObjs) : (l : List (Nat × PObj)) → Option (objsT l)
  | [] => some ()
  | (n, .arr ts) :: l => match lkN μ n, decO μ O l with
    | some (some k), some b => match lookS k O with
      | some (.arr us x) => if h : us.beq ts = true then some ((Tys.beq_eq us ts h ▸ x : List ts.T), b) else none
      | _ => none
    | some none, some b => some (([] : List ts.T), b)
    | _, _ => none
  | (n, .box cs) :: l => match lkN μ n, decO μ O l with
    | some (some k), some b => match lookS k O with
      | some (.box xs) => match decC O cs xs with
        | some a => some (a, b)
        | none => none
      | _ => none
    | _, _ => none
def frozenE (N : Nat) (s : SS) : List (Nat × PSlot) → List Nat
  | [] => []
  | (n, .d _) :: l => match s.get N n with
    | .v (.c (.own k)) => k :: frozenE N s l
    | _ => frozenE N s l
  | _ :: l => frozenE N s l
def frozenC : List PC → List CV → List Nat
  | .d _ :: l, .own k :: xs => k :: frozenC l xs
  | _ :: l, _ :: xs => frozenC l xs
  | _, _ => []
def frozenO (μ : NMap) (O : SObjs) : List (Nat × PObj) → List Nat
  | [] => []
  | (_, .arr _) :: l => frozenO μ O l
  | (n, .box cs) :: l => match lkN μ n with
    | some (some k) => match lookS k O with
      | some (.box xs) => frozenC cs xs ++ frozenO μ O l
      | _ => frozenO μ O l
    | _ => frozenO μ O l
def ranN : NMap → List Nat
  | [] => []
  | (_, some k) :: l => k :: ranN l
  | (_, none) :: l => ranN l
def nodupB : List Nat → Bool
  | [] => true
  | x :: l => !(l.contains x) && nodupB l
def apartB (a b : List Nat) : Bool := a.all fun x => !(b.contains x)

def hasBox (n : Nat) : List (Nat × PObj) → Bool
  | [] => false
  | (m, .box _) :: l => if m = n then true else hasBox n l
  | (m, .arr _) :: l => if m = n then false else hasBox n l
def hasObj (n : Nat) : List (Nat × PObj) → Bool
  | [] => false
  | (m, _) :: l => if m = n then true else hasObj n l
def slotsOk (os : List (Nat × PObj)) : List (Nat × PSlot) → Bool
  | [] => true
  | (_, .ref m _) :: l => hasObj m os && slotsOk os l
  | (_, .own m) :: l => hasObj m os && slotsOk os l
  | _ :: l => slotsOk os l
def Plan.okP (pins : List Nat) (p : Plan) : Bool := (p.objs.all fun x => decide (x.1 < top)) && (slotsOk p.objs p.slots && pins.all fun n => hasBox n p.objs)
def Plan.dec (N : Nat) (pins : List Nat) (p : Plan) (s : SS) : Option p.T :=
  match mapSlots N s p.slots (pinMap pins) with
  | none => none
  | some μ => match mapObjs s.objs p.objs μ with
    | none => none
    | some μ => if p.okP pins = true ∧ nodupB (ranN μ) = true ∧ apartB (frozenE N s p.slots ++ frozenO μ s.objs p.objs) (ranN μ) = true then
        decE N s (decO μ s.objs p.objs) p.slots
      else none

/-! heads of reads and calls -/
/-- The operand whose object an operation looks at. -/
def rTouch : Op → Option Operand
  | .load _ x => some x
  | .convert _ _ x => some x
  | .slice _ x _ _ _ => some x
  | _ => none
def nmS : SV → List Nat
  | .v (.c (.own n)) => [n]
  | .v (.c (.msl n _ _ _)) => [n]
  | .v (.c (.ref n _ _ _)) => [n]
  | _ => []
def okU (U : List Nat) (C : Cfg) (s : SS) (op : Op) : Bool := match rTouch op with
  | some x => (nmS (sev C s x)).all fun n => !U.contains n
  | none => true
def clCV (d : Nat) : CV → Bool
  | .own m => !(m == d)
  | .msl m _ _ _ => !(m == d)
  | .ref m _ _ _ => !(m == d)
  | _ => true
def clVV (d : Nat) : VV → Bool
  | .c x => clCV d x
  | .g l => l.all (clCV d)
def clSV (d : Nat) : SV → Bool
  | .v x => clVV d x
  | .tup l => l.all (clVV d)
def clEnv (d : Nat) : List (Nat × SV) → Bool
  | [] => true
  | (_, x) :: r => clSV d x && clEnv d r
def clObj (d : Nat) : SObjs → Bool
  | [] => true
  | (_, .box cs) :: r => cs.all (clCV d) && clObj d r
  | (_, .arr _ _) :: r => clObj d r
/-- Nothing bears the name d. -/
def cleanB (d : Nat) (s : SS) : Bool := (lookS d s.objs).isNone && (clEnv d s.env && clObj d s.objs)
def sCallM {R : Type} (C : Cfg) (FT : List (Nat × Entry)) (U : List Nat) (s : SS) (dst : Option Tmp) (f : FuncId) (xs : List Operand) (K : SS → Option R) : Option R :=
  match lkF FT f with
  | none => none
  | some e => match cleanB (dst.getD 999998) s && (((bxsOf e.sig.args).isEmpty && gRT e.sig.ret) || ((firstC (xs.flatMap fun o => cellsOfS (sev C s o))).isNone && (U.contains (dst.getD 999998) && (bxNames e.sig.args (xs.map (sev C s))).all U.contains))) with
    | false => none
    | true => match toArgs s.objs e.sig.args (xs.map (sev C s)) with
      | none => none
      | some a => if dst.getD 999998 < top ∧ e.sig.args.length ≤ 1000 ∧ okNames (bxNames e.sig.args (xs.map (sev C s))) = true then
        obind (e.F a) fun r =>
          K ((retS (dst.getD 999998) ⟨s.env, setBoxes e.sig.args (xs.map (sev C s)) r.2 s.objs⟩ e.sig.ret r.1).2.put dst
            (retS (dst.getD 999998) ⟨s.env, setBoxes e.sig.args (xs.map (sev C s)) r.2 s.objs⟩ e.sig.ret r.1).1)
        else none
def sOpM {R : Type} (C : Cfg) (FT : List (Nat × Entry)) (U : List Nat) (s : SS) (dst : Option Tmp) (o : Op) (K : SS → Option R) : Option R :=
  match o with
  | .call { callee := .value (.func f), args, argTypes := _ } => sCallM C FT U s dst f args.toList K
  | .pick c a b => match asK (sev C s c) with
    | some (.bool t) => br t (K (s.put dst (sev C s a))) (K (s.put dst (sev C s b)))
    | _ => none
  | o => match okU U C s o with
    | false => none
    | true => match sR C s o with
      | some (c, x) => need c (K (s.put dst x))
      | none => none
def sGoM {R : Type} (C : Cfg) (FT : List (Nat × Entry)) (U : List Nat) (ops : List Oper) : List Oper → SS → (SS → Option R) → Option R
  | [], s, K => K s
  | o :: l, s, K => match o.guard with
    | none => sOpM C FT U s o.dst o.op fun s => sGoM C FT U ops l s K
    | some (j, want) => match dstOf ops j with
      | none => none
      | some t => match s.get C.N t with
        | .v (.c (.k (.bool b))) =>
          br b (match want with
            | true => sOpM C FT U ⟨(t, .bool true) :: s.env, s.objs⟩ o.dst o.op fun s => sGoM C FT U ops l s K
            | false => sGoM C FT U ops l (SS.put ⟨(t, .bool true) :: s.env, s.objs⟩ o.dst .und) K)
            (match want with
            | false => sOpM C FT U ⟨(t, .bool false) :: s.env, s.objs⟩ o.dst o.op fun s => sGoM C FT U ops l s K
            | true => sGoM C FT U ops l (SS.put ⟨(t, .bool false) :: s.env, s.objs⟩ o.dst .und) K)
        | .v (.c .und) => sGoM C FT U ops l (s.put o.dst .und) K
        | _ => none

inductive RM where
  | x
  | q
  | qt (n : Nat)
  | da (n : Nat)
  | m (n : Nat) (U : List Nat)
inductive HT where
  | e
  | r (m : RM)
  | n (a b : HT)
  | j (p : Plan) (a b : HT)
  | u (a : HT)
  | l (p : Plan) (a : HT)

def iter {σ R : Type} : Nat → ((σ → Option R) → σ → Option R) → σ → Option R
  | 0, _, _ => none
  | n + 1, F, z => F (iter n F) z
def joinK {σ R : Type} (k : σ → Option R) (f : (σ → Option R) → Option R) : Option R := f k

def exec {R : Type} (C : Cfg) (FT : List (Nat × Entry)) (pins : List Nat) : Code → HT → SS → (Exit → SS → Option R) → Option R
  | .skip, _, s, k => k .normal s
  | .exit id, _, s, k => k (.exit id) s
  | .ret, _, s, k => k .ret s
  | .region _ ops draw, .r m, s, k => match draw, m with
    | false, .x => sGo C FT false ops.toList ops.toList s (k .normal)
    | true, .q => sGo C FT true ops.toList ops.toList s (k .normal)
    | true, .qt n => sGo C FT true ops.toList (ops.toList.take n) s fun s => sGo C FT false ops.toList (ops.toList.drop n) s (k .normal)
    | true, .da n => sGo C FT true ops.toList (ops.toList.take n) s fun s => match ops.toList.drop n with
      | o :: tl => sGo C FT false ops.toList (o :: tl) (s.put o.dst .und) (k .normal)
      | [] => none
    | true, .m n U => sGoM C FT U ops.toList (ops.toList.take n) s fun s => sGo C FT false ops.toList (ops.toList.drop n) s (k .normal)
    | _, _ => none
  | .seq x y, .n a b, s, k => exec C FT pins x a s fun e s' => match e with
    | .normal => exec C FT pins y b s' k
    | e => k e s'
  | .seq x y, .j p a b, s, k => joinK (fun z => exec C FT pins y b (p.enc z) k) fun j => exec C FT pins x a s fun e s' => match e with
    | .normal => match p.dec C.N pins s' with
      | some z => j z
      | none => none
    | e => k e s'
  | .cond c x y, .n a b, s, k => match asK (sev C s c) with
    | some (.bool t) => br t (exec C FT pins x a s k) (exec C FT pins y b s k)
    | _ => none
  | .block id x, .u a, s, k => exec C FT pins x a s fun e s' => match e with
    | .exit i => if i = id then k .normal s' else k (.exit i) s'
    | e => k e s'
  | .loop x, .l p a, s, k => match p.dec C.N pins s with
    | some z => iter C.fuel (fun rec z => exec C FT pins x a (p.enc z) fun e s' => match e with
      | .normal => match p.dec C.N pins s' with
        | some z' => rec z'
        | none => none
      | e => k e s') z
    | none => none
  | _, _, _, _ => none

/-! functions -/
def pinsOf : List AT → Nat → List Nat
  | [], _ => []
  | .bx _ :: l, i => (900000 + i) :: pinsOf l (i + 1)
  | .v _ :: l, i => pinsOf l (i + 1)
def argE : (l : List AT) → Nat → argsT l → List (Nat × SV)
  | [], _, _ => []
  | .v c :: l, i, x => (i, c.sv x.1) :: argE l (i + 1) x.2
  | .bx ts :: l, i, x => (i, .v (.c (.ref (900000 + i) ts.len 0 0))) :: argE l (i + 1) x.2
def argO : (l : List AT) → Nat → argsT l → SObjs
  | [], _, _ => []
  | .v _ :: l, i, x => argO l (i + 1) x.2
  | .bx ts :: l, i, x => (900000 + i, .box ((ts.kvs x.1).map CV.k)) :: argO l (i + 1) x.2
/-- what a function hands back: its results, read into slots N, N + 1, .. -/
def resS1 (C : Cfg) (s : SS) : ResultVar → Option SV
  | .tmp t => some (s.get C.N t)
  | .cell b T => match asC (s.get C.N b), lkT C.G T with
    | some (.ref n sz i off), some D => match sCells s.objs n sz i off with
      | some ([], cs) => (ldC D.cell cs).map SV.v
      | _ => none
    | _, _ => none
def resS (C : Cfg) (s : SS) : List ResultVar → Nat → Option (List (Nat × SV))
  | [], _ => some []
  | r :: l, i => match resS1 C s r, resS C s l (i + 1) with
    | some x, some xs => some ((i, x) :: xs)
    | _, _ => none
def tysPC : Tys → List PC
  | .nil => []
  | .cons t ts => .d t :: tysPC ts
def pinsP : List AT → Nat → List (Nat × PObj)
  | [], _ => []
  | .bx ts :: l, i => (900000 + i, .box (tysPC ts)) :: pinsP l (i + 1)
  | .v _ :: l, i => pinsP l (i + 1)
def tupP : List CT → Nat → List (Nat × PSlot)
  | [], _ => []
  | c :: l, i => (i, .d c) :: tupP l (i + 1)
def retPlan (g : Sig) (N : Nat) : Plan := match g.ret with
  | .v c => ⟨[(N, .d c)], pinsP g.args 0⟩
  | .tup l => ⟨tupP l N, pinsP g.args 0⟩
  | .own ts => ⟨[(N, .own rn)], (rn, .arr ts) :: pinsP g.args 0⟩
  | .box ts => ⟨[(N, .ref rn ts.len)], (rn, .box (tysPC ts)) :: pinsP g.args 0⟩
  | .unit => ⟨[], pinsP g.args 0⟩
def tysBack : (ts : Tys) → (dtsP (tysPC ts)).T → ts.T
  | .nil, _ => ()
  | .cons _ ts, x => (x.1, tysBack ts x.2)
def outsBack : (l : List AT) → (i : Nat) → objsT (pinsP l i) → outsT (bxsOf l)
  | [], _, _ => ()
  | .v _ :: l, i, x => outsBack l (i + 1) x
  | .bx ts :: l, i, x => (tysBack ts x.1, outsBack l (i + 1) x.2)
def tupBack {R : Type} : (l : List CT) → (i : Nat) → slotsT R (tupP l i) → compsT l × R
  | [], _, x => ((), x)
  | _ :: l, i, x => ((x.1, (tupBack l (i + 1) x.2).1), (tupBack l (i + 1) x.2).2)
def retBack (N : Nat) : (g : Sig) → (retPlan g N).T → g.R
  | ⟨args, .v _⟩, x => (x.1, outsBack args 0 x.2)
  | ⟨args, .tup l⟩, x => ((tupBack l N x).1, outsBack args 0 (tupBack l N x).2)
  | ⟨args, .own _⟩, x => (x.1, outsBack args 0 x.2)
  | ⟨args, .box ts⟩, x => (tysBack ts x.1, outsBack args 0 x.2)
  | ⟨args, .unit⟩, x => ((), outsBack args 0 x)
def finK (C : Cfg) (g : Sig) (rv : List ResultVar) (e : Exit) (s : SS) : Option g.R :=
  match e with
  | .normal | .ret => match resS C s rv C.N with
    | some xs => match (retPlan g C.N).dec (C.N + rv.length) (pinsOf g.args 0) ⟨xs ++ s.env, s.objs⟩ with
      | some z => some (retBack C.N g z)
      | none => none
    | none => none
  | _ => none
/-- A function: its frame, its results, its code, hints. -/
def call (G : List (Nat × TD)) (FT : List (Nat × Entry)) (g : Sig) (N : Nat) (rv : List ResultVar) (c : Code) (h : HT) (fuel : Nat) (x : argsT g.args) : Option g.R :=
  exec ⟨G, N, fuel⟩ FT (pinsOf g.args 0) c h ⟨argE g.args 0 x, argO g.args 0 x⟩ (finK ⟨G, N, fuel⟩ g rv)
end Go.Abs
