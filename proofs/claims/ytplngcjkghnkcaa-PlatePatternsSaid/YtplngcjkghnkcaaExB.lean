/- The executor on typed symbolic states: definitions. -/
import Derived.Test.YtplngcjkghnkcaaExA
namespace Go.Abs
open Go.RowKit

/-! operations on data, under names of their own (the walk never opens them) -/
def iAdd (a b : Int) : Int := a + b
def iSub (a b : Int) : Int := a - b
def iMul (a b : Int) : Int := a * b
def iQuo (a b : Int) : Int := a.tdiv b
def iRem (a b : Int) : Int := a.tmod b
def iWrap (k : IntKind) (a : Int) : Int := k.wrap a
def iAnd (k : IntKind) (a b : Int) : Int := k.wrap (BitVec.ofInt k.bits a &&& BitVec.ofInt k.bits b).toNat
def iOr (k : IntKind) (a b : Int) : Int := k.wrap (BitVec.ofInt k.bits a ||| BitVec.ofInt k.bits b).toNat
def iXor (k : IntKind) (a b : Int) : Int := k.wrap (BitVec.ofInt k.bits a ^^^ BitVec.ofInt k.bits b).toNat
def iAndNot (k : IntKind) (a b : Int) : Int := k.wrap (BitVec.ofInt k.bits a &&& ~~~ BitVec.ofInt k.bits b).toNat
def iShl (k : IntKind) (a b : Int) : Int := k.wrap (a * 2 ^ (min b.toNat k.bits))
def iShr (k : IntKind) (a b : Int) : Int := a.fdiv (2 ^ (min b.toNat k.bits))
def iNeg (a : Int) : Int := 0 - a
def bEq (a b : Int) : Bool := a == b
def bNe (a b : Int) : Bool := a != b
def bLt (a b : Int) : Bool := decide (a < b)
def bLe (a b : Int) : Bool := decide (a ≤ b)
def bNot (a : Bool) : Bool := !a
def bAnd (a b : Bool) : Bool := a && b
def bOr (a b : Bool) : Bool := a || b
def bIs (a b : Bool) : Bool := a == b
def sIs (a b : List UInt8) : Bool := a == b
def nLe (a b : Nat) : Bool := decide (a ≤ b)
def nEq (a b : Nat) : Bool := decide (a = b)
def lLen {α : Type} (l : List α) : Nat := l.length
def iLen {α : Type} (l : List α) : Int := l.length
def iNat (n : Nat) : Int := n
def nInt (n : Int) : Nat := n.toNat
def nAdd (a b : Nat) : Nat := a + b
def nSub (a b : Nat) : Nat := a - b
def nMul (a b : Nat) : Nat := a * b
def lApp {α : Type} (a b : List α) : List α := a ++ b
def lSet {α : Type} (l : List α) (n : Nat) (x : α) : List α := l.set n x
def lRep {α : Type} (n : Nat) (x : α) : List α := List.replicate n x
def lGet {α : Type} (l : List α) (n : Nat) (d : α) : α := l.getD n d
def lSub {α : Type} (l : List α) (off len : Nat) : List α := (l.drop off).take len
def br {α : Type} (b : Bool) (x y : α) : α := if b = true then x else y
def obind {α β : Type} (x : Option α) (f : α → Option β) : Option β := x.bind f

/-! typed lists: access -/
def lAt {α : Type} (d : α) (l : List α) (n : Int) : α := l.getD n.toNat d
def sAt (s : List UInt8) (n : Int) : Int := (s.getD n.toNat 0).toNat
def inR (n : Int) (len : Nat) : Bool := decide (0 ≤ n) && decide (n < len)
def cutL {α : Type} (l : List α) (lo hi : Int) : List α := (l.drop lo.toNat).take (hi.toNat - lo.toNat)
def inCut (lo hi : Int) (len : Nat) : Bool := decide (0 ≤ lo) && (decide (lo ≤ hi) && decide (hi ≤ len))

def asK : SV → Option KV
  | .v (.c (.k x)) => some x
  | _ => none
def asC : SV → Option CV
  | .v (.c x) => some x
  | _ => none
def asI : SV → Option Int
  | .v (.c (.k (.int _ n))) => some n
  | _ => none

def ofCS : Value → CV
  | .int k n => .k (.int k n)
  | .bool b => .k (.bool b)
  | .string s => if s.size ≤ lim then .k (.str s.data.toList) else .any
  | .slice none 0 0 => .nsl
  | _ => .any
def ofVS : Value → SV
  | .agg cs => if cs.toList.all (·.oneCell') then .v (.g (cs.toList.map ofCS)) else .any
  | v => .v (.c (ofCS v))

structure Cfg where
  G : List (Nat × TD)
  N : Nat
  fuel : Nat

def sev (C : Cfg) (s : SS) : Operand → SV
  | .tmp t => s.get C.N t
  | .const v => ofVS v
  | _ => .any

/-! integers -/
def sib (op : BinOp) (k : IntKind) (a b : Int) : Option (List Bool × KV) :=
  match op with
  | .add => some ([], .int k (iWrap k (iAdd a b)))
  | .sub => some ([], .int k (iWrap k (iSub a b)))
  | .mul => some ([], .int k (iWrap k (iMul a b)))
  | .quo => some ([bNe b 0], .int k (iWrap k (iQuo a b)))
  | .rem => some ([bNe b 0], .int k (iRem a b))
  | .and => some ([], .int k (iAnd k a b))
  | .or => some ([], .int k (iOr k a b))
  | .xor => some ([], .int k (iXor k a b))
  | .andNot => some ([], .int k (iAndNot k a b))
  | .shl => some ([bLe 0 b], .int k (iShl k a b))
  | .shr => some ([bLe 0 b], .int k (iShr k a b))
  | .eql => some ([], .bool (bEq a b))
  | .neq => some ([], .bool (bNe a b))
  | .lss => some ([], .bool (bLt a b))
  | .leq => some ([], .bool (bLe a b))
  | .gtr => some ([], .bool (bLt b a))
  | .geq => some ([], .bool (bLe b a))
def ssb (op : BinOp) (a b : List UInt8) : Option (List Bool × KV) :=
  match op with
  | .add => some ([nLe (nAdd (lLen a) (lLen b)) lim], .str (lApp a b))
  | .eql => some ([], .bool (sIs a b))
  | .neq => some ([], .bool (bNot (sIs a b)))
  | .lss => some ([], .bool (Op.bytesLess a b))
  | .leq => some ([], .bool (bOr (Op.bytesLess a b) (sIs a b)))
  | .gtr => some ([], .bool (bNot (bOr (Op.bytesLess a b) (sIs a b))))
  | .geq => some ([], .bool (bNot (Op.bytesLess a b)))
  | _ => none
def seqL : Tys → List CV → List CV → Option Bool
  | .nil, [], [] => some true
  | .cons (.int k) ts, .k (.int k1 a) :: xs, .k (.int k2 b) :: ys => if k1 = k ∧ k2 = k then (match seqL ts xs ys with
    | some q => some (bAnd (bEq a b) q)
    | none => none) else none
  | .cons .bool ts, .k (.bool a) :: xs, .k (.bool b) :: ys => match seqL ts xs ys with
    | some q => some (bAnd (bIs a b) q)
    | none => none
  | .cons .str ts, .k (.str a) :: xs, .k (.str b) :: ys => match seqL ts xs ys with
    | some q => some (bAnd (sIs a b) q)
    | none => none
  | _, _, _ => none
def sbop (G : List (Nat × TD)) (T : TypeId) (op : BinOp) (x y : SV) : Option (List Bool × KV) :=
  match x, y with
  | .v (.c (.k a)), .v (.c (.k b)) => match a, b with
    | .int k a, .int k' b => if isShift op = true ∨ k = k' then sib op k a b else none
    | .str a, .str b => ssb op a b
    | .bool a, .bool b => match lkT G T, op with
      | some .bool, .eql => some ([], .bool (bIs a b))
      | some .bool, .neq => some ([], .bool (bNot (bIs a b)))
      | _, _ => none
    | _, _ => none
  | .v (.g a), .v (.g b) => match lkT G T, op with
    | some (.struct ts _ true), .eql => (seqL ts a b).map fun r => ([], .bool r)
    | some (.struct ts _ true), .neq => (seqL ts a b).map fun r => ([], .bool (bNot r))
    | _, _ => none
  | _, _ => none
def suop (op : UnOp) (x : KV) : Option KV :=
  match op, x with
  | .not, .bool b => some (.bool (bNot b))
  | .neg, .int k n => some (.int k (iWrap k (iNeg n)))
  | .xor, .int k n => some (.int k (iXor k (if k.signed then -1 else k.max) n))
  | _, _ => none

/-! slices -/
def byteTs : Tys := .cons (.int .u8) .nil
def isBytes (G : List (Nat × TD)) (T : TypeId) : Bool := match lkT G T with | some (.slice ts _) => ts.beq byteTs | _ => false
def toBytes (l : List byteTs.T) : List UInt8 := l.map fun x => UInt8.ofNat (x.1 : Int).toNat
def ofBytes (s : List UInt8) : List byteTs.T := s.map fun b => ((b.toNat : Int), ())
/-- the elements of a slice, if they have the type -/
def sView (O : SObjs) (ts : Tys) : SV → Option (List Bool × List ts.T)
  | .v (.c .nsl) => some ([], [])
  | .v (.c (.k (.sl us l))) => if h : us.beq ts = true then some ([], Tys.beq_eq us ts h ▸ l) else none
  | .v (.c (.own n)) => match lookS n O with
    | some (.arr us l) => if h : us.beq ts = true then some ([], Tys.beq_eq us ts h ▸ l) else none
    | _ => none
  | .v (.c (.msl n sz off len)) => match lookS n O with
    | some (.arr us l) => if h : us.beq ts = true then (if sz = ts.len then some ([nLe (nAdd off len) (lLen l)], lSub (Tys.beq_eq us ts h ▸ l : List ts.T) off len) else none) else none
    | _ => none
  | _ => none
def isSliceTD : Option TD → Bool
  | some (.slice _ _) => true
  | _ => false
def slen (O : SObjs) (D : Option TD) : SV → Option Int
  | .v (.c (.k (.str s))) => match D with | some .str => some (iLen s) | _ => none
  | .v (.c (.k (.sl _ l))) => if isSliceTD D then some (iLen l) else none
  | .v (.c .nsl) => if isSliceTD D then some 0 else none
  | .v (.c (.own n)) => match lookS n O with
    | some (.arr _ l) => if isSliceTD D then some (iLen l) else none
    | _ => none
  | .v (.c (.msl _ _ _ len)) => if isSliceTD D then some (iNat len) else none
  | _ => none
def sbnd (C : Cfg) (s : SS) (d : Int) : Option Operand → Option Int
  | none => some d
  | some o => asI (sev C s o)
def sslc (C : Cfg) (s : SS) (T : TypeId) (x : SV) (lo hi : Option Operand) : Option (List Bool × CV) :=
  match x with
  | .v (.c (.k (.str b))) => match lkT C.G T, sbnd C s 0 lo, sbnd C s (iLen b) hi with
    | some .str, some l, some h => some ([inCut l h (lLen b)], .k (.str (cutL b l h)))
    | _, _, _ => none
  | .v (.c (.k (.sl us b))) => match lkT C.G T, sbnd C s 0 lo, sbnd C s (iLen b) hi with
    | some (.slice ts _), some l, some h => if us.len = ts.len then some ([inCut l h (lLen b)], .k (.sl us (cutL b l h))) else none
    | _, _, _ => none
  | .v (.c .nsl) => match lkT C.G T, sbnd C s 0 lo, sbnd C s 0 hi with
    | some (.slice _ _), some l, some h => some ([inCut l h 0], .nsl)
    | _, _, _ => none
  | .v (.c (.own n)) => match lookS n s.objs with
    | some (.arr us b) => match lkT C.G T, sbnd C s 0 lo, sbnd C s (iLen b) hi with
      | some (.slice ts _), some l, some h => if us.len = ts.len then some ([inCut l h (lLen b)], .msl n us.len (nInt l) (nSub (nInt h) (nInt l))) else none
      | _, _, _ => none
    | _ => none
  | .v (.c (.msl n sz off len)) => match lkT C.G T, sbnd C s 0 lo, sbnd C s (iNat len) hi with
    | some (.slice ts _), some l, some h => if sz = ts.len then some ([inCut l h len], .msl n sz (nAdd off (nInt l)) (nSub (nInt h) (nInt l))) else none
    | _, _, _ => none
  | .v (.c (.ref n sz 0 0)) => match lookS n s.objs, lkT C.G T, lo, hi with
    | some (.arr us b), some (.arr len ts), none, none => if us.len = ts.len ∧ sz = ts.len then some ([nEq (lLen b) len], .own n) else none
    | _, _, _, _ => none
  | _ => none

/-! cells -/
def ldC (D : Bool × Nat) (cs : List CV) : Option VV :=
  if D.1 then (if D.2 ≤ cs.length then some (.g (cs.take D.2)) else none) else cs.head?.map .c
/-- what lies at a place of an object: the condition, the cells from there on -/
def sCells (O : SObjs) (n sz i off : Nat) : Option (List Bool × List CV) :=
  match lookS n O with
  | some (.box cs) => match i with
    | 0 => some ([], cs.drop off)
    | _ => none
  | some (.arr ts l) => if sz = ts.len then some ([nLe (nAdd i 1) (lLen l)], (((ts.kvs (lGet l i ts.d)).map CV.k).drop off)) else none
  | none => none
def plainNC (O : SObjs) : CV → Bool
  | .k _ | .nsl | .msl _ _ _ _ | .at_ _ | .ref _ _ _ _ => true
  | .own n => (match lookS n O with | some (.arr _ _) => true | _ => false)
  | _ => false
def plainCC : CV → Bool
  | .k _ | .nsl | .at_ _ => true
  | _ => false
def cellsS (O : SObjs) : SV → Option (List CV)
  | .v (.g l) => some l
  | .v (.c x) => if plainNC O x then some [x] else none
  | _ => none
def sFill (O : SObjs) (pl : List (Nat × Bool × Nat)) : List CV → List (Nat × SV) → Option (List CV)
  | cells, [] => some cells
  | cells, (i, x) :: rest => match pl[i]?, cellsS O x with
    | some (off, _, n), some cs => if cs.length = n ∧ off + n ≤ cells.length then sFill O pl (cells.take off ++ (cs ++ cells.drop (off + n))) rest else none
    | _, _ => none

/-- a reading operation: conditions, the value -/
def sR (C : Cfg) (s : SS) : Op → Option (List Bool × SV)
  | .move x => some ([], sev C s x)
  | .assign x => some ([], sev C s x)
  | .fieldAddr T x k => match asC (sev C s x), lkT C.G T with
    | some (.at_ cs), some (.struct _ fs _) => match fs[k]? with
      | some (o, _, _) => some ([], .v (.c (.at_ (cs.drop o))))
      | none => none
    | some (.ref n sz i off), some (.struct _ fs _) => match fs[k]? with
      | some (o, _, _) => some ([], .v (.c (.ref n sz i (off + o))))
      | none => none
    | _, _ => none
  | .field T x k => match sev C s x, lkT C.G T with
    | .v (.g cs), some (.struct _ fs _) => match fs[k]? with
      | some (o, true, n) => if o + n ≤ cs.length then some ([], .v (.g ((cs.drop o).take n))) else none
      | some (o, false, _) => cs[o]?.map fun x => ([], .v (.c x))
      | none => none
    | _, _ => none
  | .indexAddr T x i => match asI (sev C s i), asC (sev C s x), lkT C.G T with
    | some n, some (.k (.sl us l)), some (.slice ts _) => if us.len = ts.len then some ([inR n (lLen l)], .v (.c (.at_ (us.kvs (lAt us.d l n))))) else none
    | some n, some (.own m), some (.slice ts _) => match lookS m s.objs with
      | some (.arr us l) => if us.len = ts.len then some ([inR n (lLen l)], .v (.c (.ref m us.len (nInt n) 0))) else none
      | _ => none
    | some n, some (.msl m sz off len), some (.slice ts _) => if sz = ts.len then some ([inR n len], .v (.c (.ref m sz (nAdd off (nInt n)) 0))) else none
    | some n, some (.ref m sz 0 0), some (.arr len ts) => if sz = ts.len then some ([inR n len], .v (.c (.ref m sz (nInt n) 0))) else none
    | _, _, _ => none
  | .index T x i => match asI (sev C s i), asK (sev C s x), lkT C.G T with
    | some n, some (.str b), some .str => some ([inR n (lLen b)], .kv (.int .u8 (sAt b n)))
    | _, _, _ => none
  | .load T x => match asC (sev C s x), lkT C.G T with
    | some (.at_ cs), some D => (ldC D.cell (cs.map CV.k)).map fun x => ([], .v x)
    | some (.ref n sz i off), some D => match sCells s.objs n sz i off with
      | some (c, cs) => (ldC D.cell cs).map fun x => (c, .v x)
      | none => none
    | _, _ => none
  | .nilCheck x => match asC (sev C s x) with
    | some (.at_ cs) => some ([], .v (.c (.at_ cs)))
    | some (.ref n sz i off) => some ([], .v (.c (.ref n sz i off)))
    | _ => none
  | .binOp op T x y _ => (sbop C.G T op (sev C s x) (sev C s y)).map fun r => (r.1, .kv r.2)
  | .unOp op _ x => match asK (sev C s x) with
    | some k => (suop op k).map fun r => ([], .kv r)
    | none => none
  | .convert S T x => match sev C s x, lkT C.G S, lkT C.G T with
    | .v (.c (.k (.int _ n))), some _, some (.int k) => some ([], .kv (.int k (iWrap k n)))
    | .v (.c (.k (.str b))), some _, some .str => some ([], .kv (.str b))
    | x, some (.slice ts _), some .str => if ts.beq byteTs then (sView s.objs byteTs x).map fun r => (r.1, .kv (.str (toBytes r.2))) else none
    | _, _, _ => none
  | .slice T x lo hi none => (sslc C s T (sev C s x) lo hi).map fun r => (r.1, .v (.c r.2))
  | .extract t i => match sev C s t with
    | .tup l => l[i]?.map fun x => ([], .v x)
    | _ => none
  | .build T parts => match lkT C.G T with
    | some (.struct ts fs _) => (sFill s.objs fs ts.zc (parts.toList.map fun p => (p.1, sev C s p.2))).map fun cs => ([], .v (.g cs))
    | _ => none
  | .call { callee := .builtin .len, args, argTypes } => match args.toList, argTypes.toList with
    | [x], [T] => (slen s.objs (lkT C.G T) (sev C s x)).map fun n => ([], .kv (.int .i64 n))
    | _, _ => none
  | _ => none

/-! changing the state -/
def mapVC (κ : CV → CV) : VV → VV
  | .c x => .c (κ x)
  | .g l => .g (l.map κ)
def mapSC (κ : CV → CV) : SV → SV
  | .v x => .v (mapVC κ x)
  | .tup l => .tup (l.map (mapVC κ))
def mapEC (κ : CV → CV) : List (Nat × SV) → List (Nat × SV)
  | [] => []
  | (n, x) :: r => (n, mapSC κ x) :: mapEC κ r
def mapOC (κ : CV → CV) : SObjs → SObjs
  | [] => []
  | (n, .box cs) :: r => (n, .box (cs.map κ)) :: mapOC κ r
  | (n, .arr ts l) :: r => (n, .arr ts l) :: mapOC κ r
/-- what names n stands for nothing any more -/
def killC (n : Nat) : CV → CV
  | .own m => if m = n then .any else .own m
  | .msl m sz off len => if m = n then .any else .msl m sz off len
  | .ref m sz i off => if m = n then .any else .ref m sz i off
  | x => x
def frzC (n : Nat) (ts : Tys) (l : List ts.T) : CV → CV
  | .own m => if m = n then .k (.sl ts l) else .own m
  | .msl m sz off len => if m = n then .raw (if sz = ts.len ∧ off + len ≤ l.length then .sl ts.len (((l.map ts.avs).drop off).take len) else .any) else .msl m sz off len
  | .ref m sz i off => if m = n then .any else .ref m sz i off
  | x => x
def freezeS (n : Nat) (s : SS) : Option SS :=
  match lookS n s.objs with
  | some (.arr ts l) => some ⟨mapEC (frzC n ts l) s.env, mapOC (frzC n ts l) (dropS n s.objs)⟩
  | _ => none
def cellsOfS : SV → List CV
  | .v (.g l) => l
  | .v (.c x) => [x]
  | .tup _ => []
def firstC : List CV → Option Nat
  | [] => none
  | .own n :: _ => some n
  | .msl n _ _ _ :: _ => some n
  | _ :: r => firstC r
def settleS (C : Cfg) : Nat → List Operand → SS → Option SS
  | 0, _, s => some s
  | f + 1, xs, s => match firstC (xs.flatMap fun o => cellsOfS (sev C s o)) with
    | none => some s
    | some n => match freezeS n s with
      | some r => settleS C f xs r
      | none => none
/-- typed rows out of cells -/
def toKVs : (ts : Tys) → List CV → Option ts.T
  | .nil, [] => some ()
  | .cons t ts, x :: xs => match x with
    | .k v => match v.to t, toKVs ts xs with
      | some a, some b => some (a, b)
      | _, _ => none
    | .nsl => match t with
      | .sl us => match toKVs ts xs with
        | some b => some (([] : List us.T), b)
        | none => none
      | _ => none
    | _ => none
  | _, _ => none
def toRows (O : SObjs) (ts : Tys) : List SV → Option (List ts.T)
  | [] => some []
  | x :: r => match cellsS O x with
    | some cs => match toKVs ts cs, toRows O ts r with
      | some a, some b => some (a :: b)
      | _, _ => none
    | none => none
def freshS (d : Nat) (s : SS) : Option SS := match lookS d s.objs with
  | none => some ⟨mapEC (killC d) s.env, mapOC (killC d) s.objs⟩
  | some _ => none
def overC (cs : List CV) (off : Nat) (us : List CV) : List CV := cs.take off ++ (us ++ cs.drop (off + us.length))

/-- what some operands name is frozen; then d is a fresh name -/
def calmS (C : Cfg) (xs : List Operand) (s : SS) : Option SS := match settleS C 8 xs s with
  | some s => match firstC (xs.flatMap fun o => cellsOfS (sev C s o)) with
    | none => some s
    | some _ => none
  | none => none
def prepS (C : Cfg) (d : Nat) (xs : List Operand) (s : SS) : Option SS := match calmS C xs s with
  | some s => match freshS d s with
    | some s => match firstC (xs.flatMap fun o => cellsOfS (sev C s o)) with
      | none => some s
      | some _ => none
    | none => none
  | none => none

/-- a making or changing operation: conditions, the value, the state -/
def sH (C : Cfg) (s : SS) (dst : Option Tmp) (o : Op) : Option (List Bool × SV × SS) :=
  match o, dst with
  | .box _ x, some d => if d < top then (match freshS d s with
    | some s => match cellsS s.objs (sev C s x) with
      | some cs => some ([], .v (.c (.ref d cs.length 0 0)), ⟨s.env, (d, .box cs) :: s.objs⟩)
      | none => none
    | none => none) else none
  | .alloc T, some d => if d < top then (match freshS d s with
    | some s => match lkT C.G T with
      | some (.arr n ts) => some ([], .v (.c (.ref d ts.len 0 0)), ⟨s.env, (d, .arr ts (lRep n ts.d)) :: s.objs⟩)
      | some (.struct ts _ _) => some ([], .v (.c (.ref d ts.len 0 0)), ⟨s.env, (d, .box ts.zc) :: s.objs⟩)
      | some (.int k) => some ([], .v (.c (.ref d 1 0 0)), ⟨s.env, (d, .box [.k (.int k 0)]) :: s.objs⟩)
      | some .bool => some ([], .v (.c (.ref d 1 0 0)), ⟨s.env, (d, .box [.k (.bool false)]) :: s.objs⟩)
      | some .str => some ([], .v (.c (.ref d 1 0 0)), ⟨s.env, (d, .box [.k (.str [])]) :: s.objs⟩)
      | some (.slice _ _) => some ([], .v (.c (.ref d 1 0 0)), ⟨s.env, (d, .box [.nsl]) :: s.objs⟩)
      | none => none
    | none => none) else none
  | .buildSlice T len parts, some d => if d < top then (match prepS C d (parts.toList.map (·.2)) s, lkT C.G T with
    | some s, some (.slice ts _) => match toRows s.objs ts ((parts.toList.map (·.2)).map (sev C s)) with
      | some rows => if parts.toList.map (·.1) = List.range len ∧ 0 < ts.len ∧ len * ts.len ≤ 16777216 then some ([], .v (.c (.own d)), ⟨s.env, (d, .arr ts rows) :: s.objs⟩) else none
      | none => none
    | _, _ => none) else none
  | .makeSlice T l c, some d => if d < top then (match freshS d s with
    | some s => match lkT C.G T, asI (sev C s l), asI (sev C s c) with
      | some (.slice ts by_), some n, some m => some ([bLe 0 n, bLe n m, bLe m (iNat lim), bLe (iMul (iNat by_) m) (iNat lim)], .v (.c (.own d)), ⟨s.env, (d, .arr ts (lRep (nInt n) ts.d)) :: s.objs⟩)
      | _, _, _ => none
    | none => none) else none
  | .convert S T x, some d => if d < top then (match freshS d s with
    | some s => match lkT C.G S, asK (sev C s x) with
      | some .str, some (.str b) => if isBytes C.G T then some ([nLe (lLen b) lim], .v (.c (.own d)), ⟨s.env, (d, .arr byteTs (ofBytes b)) :: s.objs⟩) else none
      | _, _ => none
    | none => none) else none
  | .store T x y, none => match asC (sev C s x), lkT C.G T with
    | some (.ref n sz i off), some D => match lookS n s.objs with
      | some (.box cs) => match i, cellsS s.objs (sev C s y) with
        | 0, some us => if us.length = D.cell.2 ∧ off + us.length ≤ cs.length then some ([], .und, ⟨s.env, updS n (.box (overC cs off us)) s.objs⟩) else none
        | _, _ => none
      | some (.arr _ _) => match calmS C [y] s with
        | some s => match lookS n s.objs, cellsS s.objs (sev C s y), asC (sev C s x) with
          | some (.arr ts l), some us, some (.ref n' sz' i' off') =>
            if sz = ts.len ∧ us.length = D.cell.2 ∧ off + us.length ≤ ts.len ∧ us.all plainCC = true ∧ n' = n ∧ sz' = sz ∧ off' = off then
              (match toKVs ts (overC ((ts.kvs (lGet l i' ts.d)).map CV.k) off us) with
              | some row => some ([nLe (nAdd i' 1) (lLen l)], .und, ⟨s.env, updS n (.arr ts (lSet l i' row)) s.objs⟩)
              | none => none)
            else none
          | _, _, _ => none
        | none => none
      | none => none
    | _, _ => none
  | .call { callee := .builtin .append, args, argTypes }, some d => if d < top then
      (match args.toList, argTypes.toList with
      | [x, y], [T, T2] => match lkT C.G T with
        | some (.slice ts by_) =>
          match (match sev C s y with
            | .v (.c (.k (.str b))) => (match lkT C.G T2 with
              | some .str => if h : byteTs.beq ts = true then some ([], Tys.beq_eq _ _ h ▸ ofBytes b) else none
              | _ => none)
            | y => if isSliceTD (lkT C.G T2) then sView s.objs ts y else none : Option (List Bool × List ts.T)) with
          | some (c, rows) => match sev C s x with
            | .v (.c .nsl) => (match freshS d s with
              | some s => some (c ++ [nLe (lLen rows) lim, nLe (nMul (lLen rows) by_) lim], .v (.c (.own d)), ⟨s.env, (d, .arr ts rows) :: s.objs⟩)
              | none => none)
            | .v (.c (.own m)) => (match lookS m s.objs with
              | some (.arr us l) => if h : us.beq ts = true then
                  (match freshS d ⟨mapEC (killC m) s.env, mapOC (killC m) (dropS m s.objs)⟩ with
                  | some s => some (c ++ [nLe (nAdd (lLen l) (lLen rows)) lim, nLe (nMul (nAdd (lLen l) (lLen rows)) by_) lim], .v (.c (.own d)), ⟨s.env, (d, .arr ts (lApp (Tys.beq_eq us ts h ▸ l : List ts.T) rows)) :: s.objs⟩)
                  | none => none)
                else none
              | _ => none)
            | _ => none
          | none => none
        | _ => none
      | _, _ => none) else none
  | _, _ => none

def need {α : Type} : List Bool → Option α → Option α
  | [], m => m
  | c :: l, m => br c (need l m) none

/-! calls -/
/-- component types of what functions take and give -/
inductive CT where
  | ty (t : Ty)
  | ag (ts : Tys)
@[reducible] def CT.T : CT → Type
  | .ty t => t.T
  | .ag ts => ts.T
inductive AT where
  | v (c : CT)
  | bx (ts : Tys)
@[reducible] def AT.T : AT → Type
  | .v c => c.T
  | .bx ts => ts.T
@[reducible] def argsT : List AT → Type
  | [] => Unit
  | a :: l => a.T × argsT l
@[reducible] def compsT : List CT → Type
  | [] => Unit
  | a :: l => a.T × compsT l
inductive RT where
  | v (c : CT)
  | tup (l : List CT)
  | own (ts : Tys)
  | box (ts : Tys)
  | unit
@[reducible] def RT.T : RT → Type
  | .v c => c.T
  | .tup l => compsT l
  | .own ts => List ts.T
  | .box ts => ts.T
  | .unit => Unit
def bxsOf : List AT → List Tys
  | [] => []
  | .bx ts :: l => ts :: bxsOf l
  | .v _ :: l => bxsOf l
@[reducible] def outsT : List Tys → Type
  | [] => Unit
  | ts :: l => ts.T × outsT l
structure Sig where
  args : List AT
  ret : RT
@[reducible] def Sig.R (g : Sig) : Type := g.ret.T × outsT (bxsOf g.args)
structure Entry where
  sig : Sig
  F : argsT sig.args → Option sig.R

def toT (O : SObjs) : (t : Ty) → CV → Option t.T
  | t, .k v => v.to t
  | .sl _, .nsl => some []
  | .sl ts, .own n => match lookS n O with
    | some (.arr us l) => if h : us.beq ts = true then some (Tys.beq_eq us ts h ▸ l) else none
    | _ => none
  | _, _ => none
def toCT (O : SObjs) : (c : CT) → SV → Option c.T
  | .ty t, .v (.c x) => toT O t x
  | .ag ts, .v (.g l) => toKVs ts l
  | _, _ => none
def toAT (O : SObjs) : (a : AT) → SV → Option a.T
  | .v c, x => toCT O c x
  | .bx ts, .v (.c (.ref n sz 0 0)) => if sz = ts.len then (match lookS n O with
    | some (.box cs) => toKVs ts cs
    | _ => none) else none
  | _, _ => none
def toArgs (O : SObjs) : (l : List AT) → List SV → Option (argsT l)
  | [], [] => some ()
  | a :: l, x :: xs => match toAT O a x, toArgs O l xs with
    | some p, some q => some (p, q)
    | _, _ => none
  | _, _ => none
def CT.sv : (c : CT) → c.T → SV
  | .ty t, x => .v (.c (.k (t.kv x)))
  | .ag ts, x => .v (.g ((ts.kvs x).map CV.k))
def CT.vv : (c : CT) → c.T → VV
  | .ty t, x => .c (.k (t.kv x))
  | .ag ts, x => .g ((ts.kvs x).map CV.k)
def vvs : (l : List CT) → compsT l → List VV
  | [], _ => []
  | c :: l, x => c.vv x.1 :: vvs l x.2
/-- the boxes that were handed over, as they are behind the call -/
def setBoxes : (l : List AT) → List SV → outsT (bxsOf l) → SObjs → SObjs
  | .bx ts :: l, .v (.c (.ref n _ _ _)) :: xs, x, O => setBoxes l xs x.2 (updS n (.box ((ts.kvs x.1).map CV.k)) O)
  | .v _ :: l, _ :: xs, x, O => setBoxes l xs x O
  | _, _, _, O => O
def retS (d : Nat) (s : SS) : (r : RT) → r.T → SV × SS
  | .v c, x => (c.sv x, s)
  | .tup l, x => (.tup (vvs l x), s)
  | .own ts, x => (.v (.c (.own d)), ⟨s.env, (d, .arr ts x) :: s.objs⟩)
  | .box ts, x => (.v (.c (.ref d ts.len 0 0)), ⟨s.env, (d, .box ((ts.kvs x).map CV.k)) :: s.objs⟩)
  | .unit, _ => (.tup [], s)
def lkF : List (Nat × Entry) → Nat → Option Entry
  | [], _ => none
  | (m, x) :: r, n => if m = n then some x else lkF r n
def gTy : Ty → Bool
  | .sl _ => false
  | _ => true
def gTys : Tys → Bool
  | .nil => true
  | .cons t ts => gTy t && gTys ts
def gCT : CT → Bool
  | .ty t => gTy t
  | .ag ts => gTys ts
def gRT : RT → Bool
  | .v c => gCT c
  | .tup l => l.all gCT
  | _ => false
/-- the names of the boxes that are handed over -/
def bxNames : List AT → List SV → List Nat
  | .bx _ :: l, .v (.c (.ref n _ _ _)) :: xs => n :: bxNames l xs
  | .v _ :: l, _ :: xs => bxNames l xs
  | _, _ => []
def okNames : List Nat → Bool
  | [] => true
  | n :: l => !(l.contains n) && (decide (n < top) && (!(n == 999999) && okNames l))
/-- A call: lent, if the answer is plain and nothing is handed over; else what is owned is frozen first. -/
def sCall {R : Type} (C : Cfg) (FT : List (Nat × Entry)) (q : Bool) (s : SS) (dst : Option Tmp) (f : FuncId) (xs : List Operand) (K : SS → Option R) : Option R :=
  match lkF FT f with
  | none => none
  | some e =>
    match (match (bxsOf e.sig.args).isEmpty && gRT e.sig.ret, q with
      | true, true => some s
      | true, false => freshS (dst.getD 999998) s
      | false, false => prepS C (dst.getD 999998) xs s
      | false, true => none) with
    | none => none
    | some s => match toArgs s.objs e.sig.args (xs.map (sev C s)) with
      | none => none
      | some a => if dst.getD 999998 < top ∧ e.sig.args.length ≤ 1000 ∧ okNames (bxNames e.sig.args (xs.map (sev C s))) = true then
        obind (e.F a) fun r =>
          K ((retS (dst.getD 999998) ⟨s.env, setBoxes e.sig.args (xs.map (sev C s)) r.2 s.objs⟩ e.sig.ret r.1).2.put dst
            (retS (dst.getD 999998) ⟨s.env, setBoxes e.sig.args (xs.map (sev C s)) r.2 s.objs⟩ e.sig.ret r.1).1)
        else none

/-- One operation, then K. -/
def sOp {R : Type} (C : Cfg) (FT : List (Nat × Entry)) (q : Bool) (s : SS) (dst : Option Tmp) (o : Op) (K : SS → Option R) : Option R :=
  match o with
  | .call { callee := .value (.func f), args, argTypes := _ } => sCall C FT q s dst f args.toList K
  | .pick c a b => match asK (sev C s c) with
    | some (.bool t) => br t (K (s.put dst (sev C s a))) (K (s.put dst (sev C s b)))
    | _ => none
  | o => match sR C s o with
    | some (c, x) => need c (K (s.put dst x))
    | none => if q then none else match sH C s dst o with
      | some (c, x, s') => need c (K (s'.put dst x))
      | none => none

def dstOf : List Oper → Nat → Option Tmp
  | [], _ => none
  | o :: _, 0 => o.dst
  | _ :: l, n + 1 => dstOf l n

def sGo {R : Type} (C : Cfg) (FT : List (Nat × Entry)) (q : Bool) (ops : List Oper) : List Oper → SS → (SS → Option R) → Option R
  | [], s, K => K s
  | o :: l, s, K => match o.guard with
    | none => sOp C FT q s o.dst o.op fun s => sGo C FT q ops l s K
    | some (j, want) => match dstOf ops j with
      | none => none
      | some t => match s.get C.N t with
        | .v (.c (.k (.bool b))) =>
          br b (match want with
            | true => sOp C FT q ⟨(t, .bool true) :: s.env, s.objs⟩ o.dst o.op fun s => sGo C FT q ops l s K
            | false => sGo C FT q ops l (SS.put ⟨(t, .bool true) :: s.env, s.objs⟩ o.dst .und) K)
            (match want with
            | false => sOp C FT q ⟨(t, .bool false) :: s.env, s.objs⟩ o.dst o.op fun s => sGo C FT q ops l s K
            | true => sGo C FT q ops l (SS.put ⟨(t, .bool false) :: s.env, s.objs⟩ o.dst .und) K)
        | .v (.c .und) => sGo C FT q ops l (s.put o.dst .und) K
        | _ => none
end Go.Abs
