/- The read operations: definition. -/
import Derived.Test.YtplngcjkghnkcaaAbsC
namespace Go.Abs
open Go.RowKit

def eqT : TypeDesc → AV → AV → Option Bool
  | .bool, .bool a, .bool b => some (a == b)
  | .int _, .int k a, .int k' b => if k = k' then some (a == b) else none
  | .string, .str a, .str b => some (a == b)
  | _, _, _ => none
def eqL : List TypeDesc → List AV → List AV → Option Bool
  | [], [], [] => some true
  | d :: ds, x :: xs, y :: ys => match eqT d x y, eqL ds xs ys with
    | some a, some b => some (a && b)
    | _, _ => none
  | _, _, _ => none

def leafTy : TypeDesc → Bool
  | .bool | .int _ | .string => true
  | _ => false

def eqFields (P : Program) (rec : TypeId → Option (List TypeDesc)) : List Field → List TypeDesc → Option (List TypeDesc)
  | [], acc => some acc
  | f :: fs, acc => if f.name = "_" ∨ f.offset ≠ acc.length then none else
    match rec f.type, P.info? f.type with
    | some l, some i => if i.size = l.length then eqFields P rec fs (acc ++ l) else none
    | _, _ => none
def eqPlan (P : Program) : Nat → TypeId → Option (List TypeDesc)
  | 0, _ => none
  | d + 1, T => match P.underlying T with
    | some (.struct fs) => if P.stoodInHeld T then none else eqFields P (eqPlan P d) fs.toList []
    | some t => if leafTy t then some [t] else none
    | none => none

def eqAgg (P : Program) (T : TypeId) (a b : List AV) : Option Bool :=
  match P.underlying T with
  | some (.struct _) => if P.eqGuardType P.depth T = false then (match eqPlan P 20 T with | some ks => eqL ks a b | none => none) else none
  | _ => none

def bop (P : Program) (T : TypeId) (op : BinOp) (x y : AV) : Option AV :=
  match x, y with
  | .int k a, .int k' b => if isShift op = true ∨ k = k' then ibin op k a b else none
  | .str a, .str b => sbin op a b
  | .bool a, .bool b => if boolTy P T then (match op with | .eql => some (.bool (a == b)) | .neq => some (.bool (!(a == b))) | _ => none) else none
  | .agg a, .agg b => match op with
    | .eql => (eqAgg P T a b).map .bool
    | .neq => (eqAgg P T a b).map fun r => .bool !r
    | _ => none
  | _, _ => none

def uop (op : UnOp) (x : AV) : Option AV :=
  match op, x with
  | .not, .bool b => some (.bool !b)
  | .neg, .int k n => some (.int k (k.wrap (0 - n)))
  | .xor, .int k n => ibin .xor k (if k.signed then -1 else k.max) n
  | _, _ => none

def decB : List (List AV) → Option (List UInt8)
  | [] => some []
  | [.int .u8 n] :: r => (decB r).map (UInt8.ofNat n.toNat :: ·)
  | _ => none

def byteSl (P : Program) (T : TypeId) : Bool := match P.underlying T with | some (.slice e) => (match P.underlying e with | some (.int .u8) => true | _ => false) | _ => false

def cvt (P : Program) (S T : TypeId) (objs : List (Nat × Obj)) (x : AV) : Option AV :=
  match x with
  | .int _ n => if (P.underlying S).isSome then (intTy P T).map fun k => .int k (k.wrap n) else none
  | .str s => if (P.underlying S).isSome && strTy P T then some (.str s) else none
  | x => if byteSl P S && strTy P T then ((viewSl objs 1 x).bind decB).map .str else none

def idx (x : AV) : Option Int := match x with | .int _ n => some n | _ => none
def bnd (env : List AV) (d : Int) : Option Operand → Option Int
  | none => some d
  | some o => idx (ev env o)

def slc (P : Program) (T : TypeId) (objs : List (Nat × Obj)) (env : List AV) (x : AV) (lo hi : Option Operand) : Option AV :=
  match x with
  | .str s => if strTy P T then
      match bnd env 0 lo, bnd env s.length hi with
      | some l, some h => if 0 ≤ l ∧ l ≤ h ∧ h ≤ s.length then some (.str ((s.drop l.toNat).take (h.toNat - l.toNat))) else none
      | _, _ => none
    else none
  | .nsl => if (sliceElem P T).isSome then
      match bnd env 0 lo, bnd env 0 hi with
      | some l, some h => if 0 ≤ l ∧ l ≤ h ∧ h ≤ 0 then some .nsl else none
      | _, _ => none
    else none
  | .sl sz s => if sliceElem P T = some sz then
      match bnd env 0 lo, bnd env s.length hi with
      | some l, some h => if 0 ≤ l ∧ l ≤ h ∧ h ≤ s.length then some (.sl sz ((s.drop l.toNat).take (h.toNat - l.toNat))) else none
      | _, _ => none
    else none
  | .msl n sz off len => if sliceElem P T = some sz then
      match bnd env 0 lo, bnd env len hi with
      | some l, some h => if 0 ≤ l ∧ l ≤ h ∧ h ≤ len then some (.msl n sz (off + l.toNat) (h.toNat - l.toNat)) else none
      | _, _ => none
    else none
  | .ref n sz 0 0 => match arrElem P T, look n objs with
    | some (len, sz'), some (.arr sz'' rows) => if sz = sz' ∧ sz = sz'' ∧ rows.length = len then
        match bnd env 0 lo, bnd env len hi with
        | some l, some h => if 0 ≤ l ∧ l ≤ h ∧ h ≤ len then some (.msl n sz l.toNat (h.toNat - l.toNat)) else none
        | _, _ => none
      else none
    | _, _ => none
  | _ => none

def lenOf (P : Program) (T : TypeId) (x : AV) : Option AV :=
  match x with
  | .str s => if strTy P T then some (.int .i64 s.length) else none
  | .sl _ l => if (sliceElem P T).isSome then some (.int .i64 l.length) else none
  | .msl _ _ _ len => if (sliceElem P T).isSome then some (.int .i64 len) else none
  | .nsl => if (sliceElem P T).isSome then some (.int .i64 0) else none
  | _ => none

def plainN : AV → Bool
  | .int _ _ | .bool _ | .str _ | .nsl | .sl _ _ | .at_ _ | .msl _ _ _ _ | .ref _ _ _ _ => true
  | _ => false
def plainC : AV → Bool
  | .int _ _ | .bool _ | .str _ | .nsl | .sl _ _ | .at_ _ => true
  | _ => false
/-- the cells that a value takes in memory -/
def cellsOf : AV → Option (List AV)
  | .agg l => some l
  | x => if plainN x then some [x] else none

def places (P : Program) (T : TypeId) : Option (List (Nat × Nat)) :=
  match P.underlying T with
  | some (.struct fs) => fs.toList.mapM fun f => (P.info? f.type).map fun i => (f.offset, i.size)
  | _ => none
def zeroVals (P : Program) (T : TypeId) : Option (List Value) := ((P.info? T).bind (·.zero)).map (·.cells.toList)
def zeroCells (P : Program) (T : TypeId) : Option (List AV) := (zeroVals P T).bind fun l => if l.all (·.oneCell') then some (l.map ofC) else none

def fillA (pl : List (Nat × Nat)) : List AV → List (Nat × AV) → Option (List AV)
  | cells, [] => some cells
  | cells, (i, x) :: rest => match pl[i]?, cellsOf x with
    | some (off, n), some cs => if cs.length = n ∧ off + n ≤ cells.length then fillA pl (cells.take off ++ (cs ++ cells.drop (off + n))) rest else none
    | _, _ => none

def bld (P : Program) (T : TypeId) (parts : List (Nat × AV)) : Option AV :=
  match places P T, zeroCells P T with
  | some pl, some z => (fillA pl z parts).map .agg
  | _, _ => none

def rOp (P : Program) (env : List AV) (objs : List (Nat × Obj)) : Op → Option AV
  | .move x => some (ev env x)
  | .assign x => some (ev env x)
  | .pick c a b => match ev env c with | .bool t => some (if t then ev env a else ev env b) | _ => none
  | .fieldAddr T x k => match ev env x, fieldOf P T k with
    | .at_ cs, some (o, _, _) => some (.at_ (cs.drop o))
    | .ref n sz i off, some (o, _, _) => some (.ref n sz i (off + o))
    | _, _ => none
  | .field T x k => match ev env x, fieldOf P T k with
    | .agg cs, some (o, true, n) => if o + n ≤ cs.length then some (.agg ((cs.drop o).take n)) else none
    | .agg cs, some (o, false, _) => cs[o]?
    | _, _ => none
  | .indexAddr T x i => match ev env i with
    | .int _ n => match ev env x with
      | .sl sz l => if 0 ≤ n ∧ n < l.length ∧ sliceElem P T = some sz then some (.at_ (l.getD n.toNat [])) else none
      | .msl m sz off len => if 0 ≤ n ∧ n < len ∧ sliceElem P T = some sz then some (.ref m sz (off + n.toNat) 0) else none
      | .ref m sz 0 0 => match arrElem P T with
        | some (len, sz') => if sz = sz' ∧ 0 ≤ n ∧ n < len then some (.ref m sz n.toNat 0) else none
        | none => none
      | _ => none
    | _ => none
  | .index T x i => match ev env i with
    | .int _ n => match ev env x with
      | .str s => if strTy P T = true ∧ 0 ≤ n ∧ n < s.length then some (.int .u8 (s.getD n.toNat 0).toNat) else none
      | _ => none
    | _ => none
  | .load T x => match ev env x, cellTy P T with
    | .at_ cs, some (g, n) => ldCells g n cs
    | .ref m sz i off, some (g, n) => (cellsAt objs m sz i off).bind (ldCells g n)
    | _, _ => none
  | .nilCheck x => match ev env x with
    | .at_ cs => some (.at_ cs)
    | .ref n sz i off => some (.ref n sz i off)
    | _ => none
  | .binOp op T x y _ => bop P T op (ev env x) (ev env y)
  | .unOp op _ x => uop op (ev env x)
  | .convert S T x => cvt P S T objs (ev env x)
  | .slice T x lo hi none => slc P T objs env (ev env x) lo hi
  | .extract t i => match ev env t with | .tup l => l[i]? | _ => none
  | .build T parts => bld P T (parts.toList.map fun p => (p.1, ev env p.2))
  | .call { callee := .builtin .len, args, argTypes } => match args.toList, argTypes.toList with
    | [x], [T] => lenOf P T (ev env x)
    | _, _ => none
  | _ => none

end Go.Abs
