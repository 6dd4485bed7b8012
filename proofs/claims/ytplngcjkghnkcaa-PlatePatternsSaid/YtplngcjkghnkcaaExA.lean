/- Typed symbolic values: cell types, their data, and what they stand for among the abstract values. Program-independent. -/
import Derived.Test.YtplngcjkghnkcaaAbsY
namespace Go.Abs
open Go.RowKit

mutual
inductive Ty where
  | int (k : IntKind)
  | bool
  | str
  | sl (ts : Tys)
inductive Tys where
  | nil
  | cons (t : Ty) (ts : Tys)
end

mutual
@[reducible] def Ty.T : Ty → Type
  | .int _ => Int
  | .bool => Bool
  | .str => List UInt8
  | .sl ts => List ts.T
@[reducible] def Tys.T : Tys → Type
  | .nil => Unit
  | .cons t ts => t.T × ts.T
end

mutual
def Ty.d : (t : Ty) → t.T
  | .int _ => (0 : Int)
  | .bool => false
  | .str => ([] : List UInt8)
  | .sl ts => ([] : List ts.T)
def Tys.d : (ts : Tys) → ts.T
  | .nil => ()
  | .cons t ts => (t.d, ts.d)
end

mutual
def Ty.av : (t : Ty) → t.T → AV
  | .int k, n => .int k n
  | .bool, b => .bool b
  | .str, s => .str s
  | .sl ts, l => .sl ts.len (l.map ts.avs)
def Tys.avs : (ts : Tys) → ts.T → List AV
  | .nil, _ => []
  | .cons t ts, x => t.av x.1 :: ts.avs x.2
def Tys.len : Tys → Nat
  | .nil => 0
  | .cons _ ts => ts.len + 1
end

mutual
def Ty.beq : Ty → Ty → Bool
  | .int k, .int k' => decide (k = k')
  | .bool, .bool => true
  | .str, .str => true
  | .sl a, .sl b => a.beq b
  | _, _ => false
def Tys.beq : Tys → Tys → Bool
  | .nil, .nil => true
  | .cons t ts, .cons u us => t.beq u && ts.beq us
  | _, _ => false
end

mutual
theorem Ty.beq_eq : ∀ (t u : Ty), t.beq u = true → t = u
  | .int k, .int k', h => by simp only [Ty.beq, decide_eq_true_eq] at h; rw [h]
  | .bool, .bool, _ => rfl
  | .str, .str, _ => rfl
  | .sl a, .sl b, h => by simp only [Ty.beq] at h; rw [Tys.beq_eq a b h]
  | .int _, .bool, h => by simp [Ty.beq] at h
  | .int _, .str, h => by simp [Ty.beq] at h
  | .int _, .sl _, h => by simp [Ty.beq] at h
  | .bool, .int _, h => by simp [Ty.beq] at h
  | .bool, .str, h => by simp [Ty.beq] at h
  | .bool, .sl _, h => by simp [Ty.beq] at h
  | .str, .int _, h => by simp [Ty.beq] at h
  | .str, .bool, h => by simp [Ty.beq] at h
  | .str, .sl _, h => by simp [Ty.beq] at h
  | .sl _, .int _, h => by simp [Ty.beq] at h
  | .sl _, .bool, h => by simp [Ty.beq] at h
  | .sl _, .str, h => by simp [Ty.beq] at h
theorem Tys.beq_eq : ∀ (t u : Tys), t.beq u = true → t = u
  | .nil, .nil, _ => rfl
  | .cons t ts, .cons u us, h => by
    simp only [Tys.beq, Bool.and_eq_true] at h
    rw [Ty.beq_eq t u h.1, Tys.beq_eq ts us h.2]
  | .nil, .cons _ _, h => by simp [Tys.beq] at h
  | .cons _ _, .nil, h => by simp [Tys.beq] at h
end

/-- a constant cell -/
inductive KV where
  | int (k : IntKind) (n : Int)
  | bool (b : Bool)
  | str (s : List UInt8)
  | sl (ts : Tys) (l : List ts.T)
/-- a cell -/
inductive CV where
  | any
  | und
  | nsl
  | k (v : KV)
  | own (n : Nat)
  | msl (n sz off len : Nat)
  | at_ (cs : List KV)
  | ref (n sz i off : Nat)
  | raw (a : AV)
inductive VV where
  | c (x : CV)
  | g (l : List CV)
inductive SV where
  | v (x : VV)
  | tup (l : List VV)
inductive SO where
  | box (cs : List CV)
  | arr (ts : Tys) (l : List ts.T)

def SV.any : SV := .v (.c .any)
def SV.und : SV := .v (.c .und)
def SV.kv (x : KV) : SV := .v (.c (.k x))
def SV.bool (b : Bool) : SV := .kv (.bool b)

def Ty.kv : (t : Ty) → t.T → KV
  | .int k, n => .int k n
  | .bool, b => .bool b
  | .str, s => .str s
  | .sl ts, l => .sl ts l
def Tys.kvs : (ts : Tys) → ts.T → List KV
  | .nil, _ => []
  | .cons t ts, x => t.kv x.1 :: ts.kvs x.2

def Ty.zc : Ty → CV
  | .int k => .k (.int k 0)
  | .bool => .k (.bool false)
  | .str => .k (.str [])
  | .sl _ => .nsl
/-- the cells of the zero value -/
def Tys.zc : Tys → List CV
  | .nil => []
  | .cons t ts => t.zc :: ts.zc

/-- a constant cell's datum, if it has the type -/
def KV.to : (t : Ty) → KV → Option t.T
  | .int k, .int k' n => if k = k' then some n else none
  | .bool, .bool b => some b
  | .str, .str s => some s
  | .sl ts, .sl us l => if h : us.beq ts = true then some (Tys.beq_eq us ts h ▸ l) else none
  | _, _ => none

abbrev SObjs := List (Nat × SO)
def lookS (n : Nat) : SObjs → Option SO
  | [] => none
  | (m, o) :: r => if m = n then some o else lookS n r
def dropS (n : Nat) : SObjs → SObjs
  | [] => []
  | (m, o) :: r => if m = n then dropS n r else (m, o) :: dropS n r
def updS (n : Nat) (o : SO) : SObjs → SObjs
  | [] => []
  | (m, p) :: r => if m = n then (m, o) :: updS n o r else (m, p) :: updS n o r

/-! what they stand for -/
def KV.av : KV → AV
  | .int k n => .int k n
  | .bool b => .bool b
  | .str s => .str s
  | .sl ts l => .sl ts.len (l.map ts.avs)
def CV.av (O : SObjs) : CV → AV
  | .any => .any
  | .und => .und
  | .nsl => .nsl
  | .k v => v.av
  | .own n => match lookS n O with
    | some (.arr ts l) => .msl n ts.len 0 l.length
    | _ => .any
  | .msl n sz off len => .msl n sz off len
  | .at_ cs => .at_ (cs.map KV.av)
  | .ref n sz i off => .ref n sz i off
  | .raw a => match a with | .sl sz l => .sl sz l | _ => .any
def VV.av (O : SObjs) : VV → AV
  | .c x => x.av O
  | .g l => .agg (l.map (CV.av O))
def SV.av (O : SObjs) : SV → AV
  | .v x => x.av O
  | .tup l => .tup (l.map (VV.av O))
def SO.av (O : SObjs) : SO → Obj
  | .box cs => .box (cs.map (CV.av O))
  | .arr ts l => .arr ts.len (l.map ts.avs)

structure SS where
  env : List (Nat × SV)
  objs : SObjs

def lkE : List (Nat × SV) → Nat → SV
  | [], _ => .any
  | (m, x) :: r, n => if m = n then x else lkE r n
def SS.get (N : Nat) (s : SS) (t : Nat) : SV := if t < N then lkE s.env t else .any
def objsAV (O : SObjs) : SObjs → List (Nat × Obj)
  | [] => []
  | (n, o) :: r => (n, o.av O) :: objsAV O r
/-- the abstract state of a frame of N slots -/
def SS.st (N : Nat) (s : SS) : St := ⟨(List.range N).map fun i => (lkE s.env i).av s.objs, objsAV s.objs s.objs⟩
def SS.put (s : SS) : Option Tmp → SV → SS
  | some d, x => ⟨(d, x) :: s.env, s.objs⟩
  | none, _ => s

/-! types of the program, as far as they matter -/
inductive TD where
  | int (k : IntKind)
  | bool
  | str
  | slice (ts : Tys) (bytes : Nat)
  | struct (ts : Tys) (fs : List (Nat × Bool × Nat)) (eq : Bool)
  | arr (n : Nat) (ts : Tys)

def lkT : List (Nat × TD) → Nat → Option TD
  | [], _ => none
  | (m, x) :: r, n => if m = n then some x else lkT r n

def TD.cell : TD → Bool × Nat
  | .struct ts _ _ => (true, ts.len)
  | .arr n ts => (true, n * ts.len)
  | _ => (false, 1)
end Go.Abs
