/- The walks' library, part A: what a region of the program does in an abstract state, and its soundness. -/
import Derived.WalkKit
import Derived.Deep.Quiet
import Derived.Great.FillDense
import Derived.Great.BuildSlice
namespace Go.Abs
inductive AV where
 | any
 | und
 | int (k : IntKind) (n : Int)
 | bool (b : Bool)
 | str (s : List UInt8)
 | agg (l : List AV)
 | tup (l : List AV)
 | nsl
 | sl (sz : Nat) (l : List (List AV))
 | msl (n sz off len : Nat)
 | at_ (cs : List AV)
 | ref (n sz i off : Nat)
 | cst (v : Value)
 | wrp (f : Option Fn × TypeId) (ns : List Nat)
 | ifc (t : TypeId) (g : Bool) (l : List AV)
 deriving Inhabited
mutual
inductive Ty where
 | int (k : IntKind)
 | bool
 | str
 | sl (ts : Tys)
inductive Tys where
 | nil
 | cons (t : Ty) (ts : Tys)
end
mutual
@[reducible] def Ty.T : Ty → Type
 | .int _ => Int
 | .bool => Bool
 | .str => List UInt8
 | .sl ts => List ts.T
@[reducible] def Tys.T : Tys → Type
 | .nil => Unit
 | .cons t ts => t.T × ts.T
end
mutual
def Ty.d : (t : Ty) → t.T
 | .int _ => (0 : Int)
 | .bool => false
 | .str => ([] : List UInt8)
 | .sl ts => ([] : List ts.T)
def Tys.d : (ts : Tys) → ts.T
 | .nil => ()
 | .cons t ts => (t.d, ts.d)
end
mutual
def Ty.av : (t : Ty) → t.T → AV
 | .int k, n => .int k n
 | .bool, b => .bool b
 | .str, s => .str s
 | .sl ts, l => .sl ts.len (l.map ts.avs)
def Tys.avs : (ts : Tys) → ts.T → List AV
 | .nil, _ => []
 | .cons t ts, x => t.av x.1 :: ts.avs x.2
def Tys.len : Tys → Nat
 | .nil => 0
 | .cons _ ts => ts.len + 1
end
structure GE where
 ts : Tys
 l : List ts.T
def lkGS : List (Nat × GE) → Nat → Option GE
 | [], _ => none
 | (m, x) :: r, n => if m = n then some x else lkGS r n
def gtabS : List (Nat × GE) := [(0, ⟨.cons (.sl (.cons .str .nil)) .nil, [([([], ()), ([101, 110, 116, 114, 121], ()), ([98, 101, 108, 116], ()), ([115, 99, 114, 101, 101, 110], ()), ([100, 105, 118, 101, 114, 116, 101, 114], ()), ([108, 111, 111, 112], ()), ([103, 97, 116, 101], ()), ([115, 116, 111, 114, 101], ()), ([99, 104, 117, 116, 101], ()), ([109, 97, 110, 117, 97, 108], ())], ())]⟩)]
def gtab : List (Nat × List AV) := gtabS.map fun p => (p.1, p.2.l.flatMap p.2.ts.avs)
end Go.Abs
namespace Go.Abs
open Go.RowKit
def lim : Nat := 140737488355328
inductive Imm (w : World) (M : Nat → Prop) : AV → Value → Prop
 | any (v : Value) : Imm w M .any v
 | und : Imm w M .und undef
 | int (k : IntKind) (n : Int) : Imm w M (.int k n) (.int k n)
 | bool (b : Bool) : Imm w M (.bool b) (.bool b)
 | str (s : List UInt8) (hn : s.length ≤ lim) : Imm w M (.str s) (.string ⟨s.toArray⟩)
 | nsl : Imm w M .nsl (.slice none 0 0)
 | cst (v : Value) : Imm w M (.cst v) v
 | ifc (t : TypeId) (g : Bool) (l : List AV) (f : Nat → Value)
   (h1 : ∀ (i : Nat) (x : AV), l[i]? = some x → (f i).oneCell' = true)
   (h : ∀ (i : Nat) (x : AV), l[i]? = some x → Imm w M x (f i)) :
   Imm w M (.ifc t g l) (.iface t (if g then .agg ((List.range l.length).map f).toArray else f 0))
 | slnil (sz : Nat) (a : Option Addr) (cap : Nat) : Imm w M (.sl sz []) (.slice a 0 cap)
 | sl (sz : Nat) (l : List (List AV)) (b off cap : Nat) (f : Nat → Nat → Value) (hb : b < w.heap.size) (hM : ¬ M b) (hcap : l.length ≤ cap) (hn : l.length ≤ lim)
   (hs : ∀ (j : Nat) (cs : List AV), l[j]? = some cs → cs.length = sz)
   (hc : ∀ (j : Nat) (cs : List AV) (i : Nat) (x : AV), l[j]? = some cs → cs[i]? = some x → w.cell? ⟨b, off + (j * sz + i), none⟩ = some (f j i))
   (h1 : ∀ (j : Nat) (cs : List AV) (i : Nat) (x : AV), l[j]? = some cs → cs[i]? = some x → (f j i).oneCell' = true)
   (h : ∀ (j : Nat) (cs : List AV) (i : Nat) (x : AV), l[j]? = some cs → cs[i]? = some x → Imm w M x (f j i)) :
   Imm w M (.sl sz l) (.slice (some ⟨b, off, none⟩) l.length cap)
 | at_ (cs : List AV) (b off : Nat) (f : Nat → Value) (hb : b < w.heap.size) (hM : ¬ M b)
   (hc : ∀ (i : Nat) (x : AV), cs[i]? = some x → w.cell? ⟨b, off + i, none⟩ = some (f i))
   (h1 : ∀ (i : Nat) (x : AV), cs[i]? = some x → (f i).oneCell' = true)
   (h : ∀ (i : Nat) (x : AV), cs[i]? = some x → Imm w M x (f i)) :
   Imm w M (.at_ cs) (.pointer (some ⟨b, off, none⟩))
structure Keep (w w' : World) (M : Nat → Prop) : Prop where
 size : w.heap.size ≤ w'.heap.size
 same : ∀ b, b < w.heap.size → ¬ M b → w'.heap[b]? = w.heap[b]?
theorem Keep.cell {w w' : World} {M : Nat → Prop} (k : Keep w w' M) {b o : Nat} (hb : b < w.heap.size) (hM : ¬ M b) : w'.cell? ⟨b, o, none⟩ = w.cell? ⟨b, o, none⟩ :=
 World.cell?_of_block (w := w) (a := ⟨b, o, none⟩) (k.same b hb hM)
theorem Imm.mono {w w' : World} {M M' : Nat → Prop} {x : AV} {v : Value} (h : Imm w M x v) (k : Keep w w' M) (hM : ∀ b, b < w.heap.size → M' b → M b) : Imm w' M' x v := by
 induction h with
 | any v => exact .any v
 | und => exact .und
 | int k n => exact .int k n
 | bool b => exact .bool b
 | str s hn => exact .str s hn
 | nsl => exact .nsl
 | cst v => exact .cst v
 | ifc t g l f h1 _ ih => exact .ifc t g l f h1 ih
 | slnil sz a cap => exact .slnil sz a cap
 | sl sz l b off cap f hb hM' hcap hn hs hc h1 _ ih =>
  exact .sl sz l b off cap f (Nat.lt_of_lt_of_le hb k.size) (fun hm => hM' (hM b hb hm)) hcap hn hs (fun j cs i x hj hi => by rw [k.cell hb hM']; exact hc j cs i x hj hi) h1 (fun j cs i x hj hi => ih j cs i x hj hi)
 | at_ cs b off f hb hM' hc h1 _ ih =>
  exact .at_ cs b off f (Nat.lt_of_lt_of_le hb k.size) (fun hm => hM' (hM b hb hm)) (fun i x hi => by rw [k.cell hb hM']; exact hc i x hi) h1 (fun i x hi => ih i x hi)
abbrev Names := Nat → Option (Option Nat)
def Names.M (D : Names) : Nat → Prop := fun b => ∃ n, D n = some (some b)
def top : Nat := 1000000
def Names.N (D : Names) : Nat → Prop := fun b => ∃ n, n < top ∧ D n = some (some b)
theorem Names.N_M {D : Names} {b : Nat} (h : D.N b) : D.M b := let ⟨n, _, h⟩ := h; ⟨n, h⟩
def World.row (w : World) (b : Nat) : Option Nat := (w.shape? b).map (·.2)
def Cell (w : World) (D : Names) : AV → Value → Prop
 | .msl n sz off len, v => ((D n).isSome = true ∧ len = 0 ∧ ∃ a, v = .slice a 0 0) ∨
   ∃ b cap N, D n = some (some b) ∧ v = .slice (some ⟨b, off * sz, none⟩) len cap ∧ len ≤ cap ∧ World.row w b = some N ∧ (off + cap) * sz ≤ N
 | .ref n sz i off, v => ∃ b, D n = some (some b) ∧ v = .pointer (some ⟨b, i * sz + off, none⟩)
 | .wrp f ns, v => ∃ bs : List Nat, bs.length = ns.length ∧ (∀ (i : Nat) (n b : Nat), ns[i]? = some n → bs[i]? = some b → D n = some (some b)) ∧ v = (match f with | (some g, 0) => .func g #[] (bs.map fun b => Value.pointer (some ⟨b, 0, none⟩)).toArray | (some _, _ + 1) => .map (some (bs.headD 0)) | (none, t) => .iface t (.pointer (some ⟨bs.headD 0, 0, none⟩)))
 | x, v => Imm w D.M x v
def Val (w : World) (D : Names) : AV → Value → Prop
 | .agg l, v => ∃ vs : List Value, v = .agg vs.toArray ∧ vs.length = l.length ∧ ∀ (i : Nat) (x : AV), l[i]? = some x → Cell w D x (vs.getD i undef) ∧ (vs.getD i undef).oneCell' = true
 | x, v => Cell w D x v
def Slot (w : World) (D : Names) : AV → Value → Prop
 | .tup l, v => ∃ vs : List Value, v = .tuple vs.toArray ∧ vs.length = l.length ∧ ∀ (i : Nat) (x : AV), l[i]? = some x → Val w D x (vs.getD i undef)
 | x, v => Val w D x v
structure Grow (w w' : World) (M : Nat → Prop) : Prop extends Keep w w' M where
 row : ∀ b, b < w.heap.size → World.row w' b = World.row w b
theorem Cell.mono {w w' : World} {D D' : Names} {x : AV} {v : Value} (h : Cell w D x v) (k : Grow w w' D.M) (hD : ∀ n d, D n = some d → D' n = some d) (hlt : ∀ b, D.M b → b < w.heap.size)
  (hM : ∀ b, b < w.heap.size → D'.M b → D.M b) : Cell w' D' x v := by
 cases x with
 | msl n sz off len =>
  rcases h with ⟨h1, h2⟩ | ⟨b, cap, N, h1, h2, h3, h4, h5⟩
  ·refine .inl ⟨?_, h2⟩
   cases hd : D n with
   | none => simp [hd] at h1
   | some d => simp [hD _ _ hd]
  ·exact .inr ⟨b, cap, N, hD _ _ h1, h2, h3, by rw [k.row b (hlt b ⟨n, h1⟩)]; exact h4, h5⟩
 | ref n sz i off => obtain ⟨b, h1, h2⟩ := h; exact ⟨b, hD _ _ h1, h2⟩
 | wrp f ns => obtain ⟨bs, h1, h2, h3⟩ := h; exact ⟨bs, h1, fun i n b hi hb => hD _ _ (h2 i n b hi hb), h3⟩
 | _ => exact Imm.mono h k.toKeep hM
theorem Val.mono {w w' : World} {D D' : Names} {x : AV} {v : Value} (h : Val w D x v) (k : Grow w w' D.M) (hD : ∀ n d, D n = some d → D' n = some d) (hlt : ∀ b, D.M b → b < w.heap.size)
  (hM : ∀ b, b < w.heap.size → D'.M b → D.M b) : Val w' D' x v := by
 cases x with
 | agg l => obtain ⟨vs, h1, h2, h3⟩ := h; exact ⟨vs, h1, h2, fun i x hx => ⟨(h3 i x hx).1.mono k hD hlt hM, (h3 i x hx).2⟩⟩
 | _ => simp only [Val] at h ⊢; exact h.mono k hD hlt hM
theorem Slot.mono {w w' : World} {D D' : Names} {x : AV} {v : Value} (h : Slot w D x v) (k : Grow w w' D.M) (hD : ∀ n d, D n = some d → D' n = some d) (hlt : ∀ b, D.M b → b < w.heap.size)
  (hM : ∀ b, b < w.heap.size → D'.M b → D.M b) : Slot w' D' x v := by
 cases x with
 | tup l => obtain ⟨vs, h1, h2, h3⟩ := h; exact ⟨vs, h1, h2, fun i x hx => (h3 i x hx).mono k hD hlt hM⟩
 | _ => simp only [Slot] at h ⊢; exact h.mono k hD hlt hM
inductive Obj where
 | box (cs : List AV)
 | arr (sz : Nat) (l : List (List AV))
 | mp (kk k : IntKind) (l : List (Int × Int))
 deriving Inhabited
def unfrozen (fz : Nat × Nat) (n : Nat) : Prop := ∀ j, j < n → ¬ (fz.1 ≤ j ∧ j < fz.2)
def ObjRep (w : World) (D : Names) : Obj → Option Nat → Prop
 | .box _, none => False
 | .box cs, some b => ∃ (vs : List Value) (T : TypeId), w.heap[b]? = some (.cells vs.toArray T (0, 0)) ∧ vs.length = cs.length ∧
   ∀ (i : Nat) (x : AV), cs[i]? = some x → Cell w D x (vs.getD i undef) ∧ (vs.getD i undef).oneCell' = true
 | .mp _ _ _, none => False
 | .mp kk k l, some b => ∃ (es : Array MapEntry) (clock : Nat), w.heap[b]? = some (.map es clock) ∧ es.toList.map (fun e => (e.key, e.val)) = l.map fun p => (Value.int kk p.1, Value.int k p.2)
 | .arr _ l, none => l = []
 | .arr sz l, some b => ∃ (vs : List Value) (T : TypeId) (fz : Nat × Nat), w.heap[b]? = some (.cells vs.toArray T fz) ∧ unfrozen fz vs.length ∧ l.length ≤ lim ∧ l.length * sz ≤ vs.length ∧
   (∀ (j : Nat) (cs : List AV), l[j]? = some cs → cs.length = sz) ∧
   ∀ (j : Nat) (cs : List AV) (i : Nat) (x : AV), l[j]? = some cs → cs[i]? = some x → Imm w D.M x (vs.getD (j * sz + i) undef) ∧ (vs.getD (j * sz + i) undef).oneCell' = true
theorem ObjRep.mono {w w' : World} {D D' : Names} {o : Obj} {d : Option Nat} (h : ObjRep w D o d) (k : Grow w w' D.M) (hD : ∀ n d, D n = some d → D' n = some d) (hlt : ∀ b, D.M b → b < w.heap.size)
  (hM : ∀ b, b < w.heap.size → D'.M b → D.M b) (hb : ∀ b, d = some b → w'.heap[b]? = w.heap[b]?) : ObjRep w' D' o d := by
 cases o with
 | box cs =>
  cases d with
  | none => exact h.elim
  | some b =>
   obtain ⟨vs, T, h1, h2, h3⟩ := h
   exact ⟨vs, T, by rw [hb b rfl]; exact h1, h2, fun i x hx => ⟨(h3 i x hx).1.mono k hD hlt hM, (h3 i x hx).2⟩⟩
 | arr sz l =>
  cases d with
  | none => exact h
  | some b =>
   obtain ⟨vs, T, fz, h1, h2, h3, h4, h5, h6⟩ := h
   exact ⟨vs, T, fz, by rw [hb b rfl]; exact h1, h2, h3, h4, h5, fun j cs i x hj hi => ⟨(h6 j cs i x hj hi).1.mono k.toKeep hM, (h6 j cs i x hj hi).2⟩⟩
 | mp kk k l =>
  cases d with
  | none => exact h.elim
  | some b =>
   obtain ⟨es, clock, h1, h2⟩ := h
   exact ⟨es, clock, by rw [hb b rfl]; exact h1, h2⟩
structure St where
 env : List AV
 objs : List (Nat × Obj)
 deriving Inhabited
def look (n : Nat) : List (Nat × Obj) → Option Obj
 | [] => none
 | (m, o) :: r => if m = n then some o else look n r
def drop (n : Nat) : List (Nat × Obj) → List (Nat × Obj)
 | [] => []
 | (m, o) :: r => if m = n then drop n r else (m, o) :: drop n r
def upd (n : Nat) (o : Obj) : List (Nat × Obj) → List (Nat × Obj)
 | [] => []
 | (m, p) :: r => if m = n then (m, o) :: upd n o r else (m, p) :: upd n o r
theorem look_drop_ne {n m : Nat} (h : n ≠ m) : ∀ l, look m (drop n l) = look m l
 | [] => rfl
 | (k, o) :: r => by
  have ih := look_drop_ne h r
  by_cases hk : k = n
  ·subst hk; simp [drop, look, h, ih]
  ·by_cases hm : k = m
   ·subst hm; simp [drop, look, hk]
   ·simp [drop, look, hk, hm, ih]
theorem look_drop (n : Nat) : ∀ l, look n (drop n l) = none
 | [] => rfl
 | (k, o) :: r => by
  have ih := look_drop n r
  by_cases hk : k = n
  ·simp [drop, hk, ih]
  ·simp [drop, look, hk, ih]
theorem look_upd_ne {n m : Nat} (o : Obj) (h : n ≠ m) : ∀ l, look m (upd n o l) = look m l
 | [] => rfl
 | (k, p) :: r => by
  have ih := look_upd_ne o h r
  by_cases hk : k = n
  ·subst hk; simp [upd, look, h, ih]
  ·by_cases hm : k = m
   ·subst hm; simp [upd, look, hk]
   ·simp [upd, look, hk, hm, ih]
theorem look_upd {n : Nat} (o : Obj) : ∀ l, (look n l).isSome → look n (upd n o l) = some o
 | [], h => by simp [look] at h
 | (k, p) :: r, h => by
  by_cases hk : k = n
  ·simp [upd, look, hk]
  ·simp only [look, hk, if_false] at h
   simp [upd, look, hk, look_upd o r h]
def lkG : List (Nat × List AV) → Nat → Option (List AV)
 | [], _ => none
 | (m, x) :: r, n => if m = n then some x else lkG r n
theorem lkG_map : ∀ (l : List (Nat × GE)) (g : Nat), lkG (l.map fun p => (p.1, p.2.l.flatMap p.2.ts.avs)) g = (lkGS l g).map fun e => e.l.flatMap e.ts.avs
 | [], g => rfl
 | (m, e) :: r, g => by
  simp only [List.map_cons, lkG, lkGS]
  split
  ·rfl
  ·exact lkG_map r g
def GlobRep (w : World) (M : Nat → Prop) : Prop := ∀ g cs, lkG gtab g = some cs → g < w.heap.size ∧ ¬ M g ∧ ∃ f : Nat → Value, ∀ (i : Nat) (x : AV), cs[i]? = some x → w.cell? ⟨g, i, none⟩ = some (f i) ∧ Imm w M x (f i) ∧ (f i).oneCell' = true
theorem GlobRep.mono {w w' : World} {M M' : Nat → Prop} (h : GlobRep w M) (k : Keep w w' M) (hM : ∀ b, b < w.heap.size → M' b → M b) : GlobRep w' M' := fun g cs hg => by
 obtain ⟨h1, h2, f, h3⟩ := h g cs hg
 refine ⟨Nat.lt_of_lt_of_le h1 k.size, fun hm => h2 (hM g h1 hm), f, fun i x hx => ?_⟩
 obtain ⟨a, b, c⟩ := h3 i x hx
 exact ⟨by rw [k.cell h1 h2]; exact a, b.mono k hM, c⟩
structure Mem (w0 : World) (M0 : Nat → Prop) (objs : List (Nat × Obj)) (D : Names) (w : World) : Prop where
 dom : ∀ n, n < top → (D n).isSome = (look n objs).isSome
 small : ∀ n, (look n objs).isSome = true → n < top
 rep : ∀ n o d, look n objs = some o → D n = some d → ObjRep w D o d
 inj : ∀ n m b, D n = some (some b) → D m = some (some b) → n = m
 lt : ∀ b, D.M b → b < w.heap.size
 own : ∀ b, D.N b → M0 b ∨ w0.heap.size ≤ b
 grow : Grow w0 w M0
 os : w.os = w0.os
 tape : w.tape = w0.tape
 output : w.output = w0.output
 glob : GlobRep w D.M
end Go.Abs
namespace Go.Abs
open Go.RowKit
variable {w : World} {D : Names} {cs : List AV}
def ofC : Value → AV
 | .int k n => .int k n
 | .bool b => .bool b
 | .string s => if s.size ≤ lim then .str s.data.toList else .any
 | .slice none 0 0 => .nsl
 | .pointer none => .cst (.pointer none)
 | .nilFunc => .cst .nilFunc
 | .nilIface => .cst .nilIface
 | _ => .any
def ofV : Value → AV
 | .agg cs => if cs.toList.all (·.oneCell') then .agg (cs.toList.map ofC) else .any
 | v => ofC v
def ev (env : List AV) : Operand → AV
 | .tmp t => env.getD t .any
 | .const v => ofV v
 | .func f => .cst (.func (.func f) #[] #[])
 | .global g => match lkG gtab g with
  | some cs => .at_ cs
  | none => .any
theorem imm_ofC (w : World) (M : Nat → Prop) (v : Value) : Imm w M (ofC v) v := by
 unfold ofC
 split
 ·exact .int _ _
 ·exact .bool _
 ·rename_i s
  split
  ·rename_i h
   exact Imm.str (w := w) (M := M) s.data.toList (by rw [Array.length_toList]; exact h)
  ·exact .any _
 ·exact .nsl
 ·exact .cst _
 ·exact .cst _
 ·exact .cst _
 ·exact .any _
theorem Imm.cell {x : AV} {v : Value} (h : Imm w D.M x v) : Cell w D x v := by
 cases x with
 | msl => cases h
 | ref => cases h
 | wrp => cases h
 | _ => simp only [Cell]; exact h
theorem Imm.slot {x : AV} {v : Value} (h : Imm w D.M x v) : Slot w D x v := by
 cases x with
 | msl => cases h
 | ref => cases h
 | wrp => cases h
 | agg => cases h
 | tup => cases h
 | _ => simp only [Slot, Val, Cell]; exact h
theorem cell_ofC (w : World) (D : Names) (v : Value) : Cell w D (ofC v) v := (imm_ofC w D.M v).cell
theorem slot_ofV (w : World) (D : Names) (v : Value) : Slot w D (ofV v) v := by
 unfold ofV
 split
 ·rename_i cs
  split
  ·rename_i h
   refine ⟨cs.toList, by simp, by simp, fun i x hx => ?_⟩
   rw [List.getElem?_map] at hx
   cases hc : cs.toList[i]? with
   | none => simp [hc] at hx
   | some c =>
    simp [hc] at hx
    subst hx
    simp only [List.getD, hc, Option.getD_some]
    refine ⟨cell_ofC w D c, ?_⟩
    have := List.all_eq_true.1 h c (List.mem_of_getElem? hc)
    exact this
  ·simp [Slot, Val, Cell]; exact .any _
 ·exact (imm_ofC w D.M v).slot
def EnvRep (w : World) (D : Names) (env : List AV) (tmps : Array Value) : Prop :=
 tmps.size = env.length ∧ ∀ (i : Nat) (x : AV), env[i]? = some x → Slot w D x (tmps.getD i undef)
theorem slot_any (w : World) (D : Names) (v : Value) : Slot w D .any v := by simp [Slot, Val, Cell]; exact .any v
theorem ev_sound {env : List AV} {a : Act} (hg : GlobRep w D.M) (h : EnvRep w D env a.tmps) (x : Operand) : Slot w D (ev env x) (a.eval x) := by
 cases x with
 | tmp t =>
  simp only [ev, Act.eval, List.getD]
  cases ht : env[t]? with
  | none => exact slot_any _ _ _
  | some x => exact h.2 t x ht
 | const v => exact slot_ofV w D v
 | global g =>
  simp only [ev]
  cases hl : lkG gtab g with
  | none => exact slot_any _ _ _
  | some cs =>
   obtain ⟨h1, h2, f, h3⟩ := hg g cs hl
   exact (Imm.at_ cs g 0 f h1 h2 (fun i x hx => by rw [Nat.zero_add]; exact (h3 i x hx).1) (fun i x hx => (h3 i x hx).2.2) (fun i x hx => (h3 i x hx).2.1)).slot
 | func f => exact (Imm.cst _).slot
def fieldOf (P : Program) (T k : Nat) : Option (Nat × Bool × Nat) :=
 match P.underlying T with
 | some (.struct fs) => match fs[k]? with
  | some f => match P.info? f.type, P.underlying f.type with
   | some i, some d => if i.size = 0 then none else some (f.offset, (match d with | .struct _ | .array _ _ => true | _ => false), i.size)
   | _, _ => none
  | none => none
 | _ => none
def sliceElem (P : Program) (T : Nat) : Option Nat := match P.underlying T with | some (.slice e) => (P.info? e).map (·.size) | _ => none
def arrElem (P : Program) (T : Nat) : Option (Nat × Nat) := match P.underlying T with | some (.array n e) => (P.info? e).map fun i => (n, i.size) | _ => none
def cellTy (P : Program) (T : Nat) : Option (Bool × Nat) :=
 match P.underlying T, P.info? T with
 | some (.struct _), some i => some (true, i.size)
 | some (.array _ _), some i => some (true, i.size)
 | some _, some i => some (false, i.size)
 | _, _ => none
def intTy (P : Program) (T : Nat) : Option IntKind := match P.underlying T with | some (.int k) => some k | _ => none
def strTy (P : Program) (T : Nat) : Bool := match P.underlying T with | some .string => true | _ => false
def boolTy (P : Program) (T : Nat) : Bool := match P.underlying T with | some .bool => true | _ => false
theorem fieldOf_spec {P : Program} {T k o n : Nat} {g : Bool} (h : fieldOf P T k = some (o, g, n)) :
  ∃ fs f i d, P.underlying T = some (.struct fs) ∧ fs[k]? = some f ∧ P.info? f.type = some i ∧ P.underlying f.type = some d ∧ i.size ≠ 0 ∧ f.offset = o ∧ i.size = n ∧
   g = (match d with | .struct _ | .array _ _ => true | _ => false) := by
 unfold fieldOf at h
 split at h
 ·rename_i fs hu
  split at h
  ·rename_i f hf
   split at h
   ·rename_i i d hi hd
    split at h
    ·cases h
    ·rename_i hz
     simp only [Option.some.injEq, Prod.mk.injEq] at h
     exact ⟨fs, f, i, d, hu, hf, hi, hd, hz, h.1, h.2.2, h.2.1.symm⟩
   ·cases h
  ·cases h
 ·cases h
def cellsAt (objs : List (Nat × Obj)) (m sz i off : Nat) : Option (List AV) :=
 match look m objs with
 | some (.box cs) => if i = 0 then some (cs.drop off) else none
 | some (.arr sz' l) => if sz = sz' ∧ i < l.length then some ((l.getD i []).drop off) else none
 | _ => none
def ldCells (g : Bool) (n : Nat) (cs : List AV) : Option AV :=
 if g then (if n ≤ cs.length then some (.agg (cs.take n)) else none) else cs.head?
theorem world_cell {b o : Nat} {vs : List Value} {T : TypeId} {fz : Nat × Nat} (h : w.heap[b]? = some (.cells vs.toArray T fz)) (ho : o < vs.length) :
  w.cell? ⟨b, o, none⟩ = some (vs.getD o undef) := by
 simp [World.cell?, h, List.getD, ho]
theorem below_cell {w w' : World} (h : Below w.heap.size w w') {b o : Nat} (hb : b < w.heap.size) : w'.cell? ⟨b, o, none⟩ = w.cell? ⟨b, o, none⟩ := h.cell (p := ⟨b, o, none⟩) hb
def Row (w : World) (D : Names) (b o : Nat) (cs : List AV) : Prop :=
 b < w.heap.size ∧ ∃ f : Nat → Value, ∀ (i : Nat) (x : AV), cs[i]? = some x → w.cell? ⟨b, o + i, none⟩ = some (f i) ∧ Cell w D x (f i) ∧ (f i).oneCell' = true
theorem Row.drop {b o : Nat} (h : Row w D b o cs) (n : Nat) : Row w D b (o + n) (cs.drop n) := by
 obtain ⟨hb, f, h⟩ := h
 refine ⟨hb, fun i => f (n + i), fun i x hx => ?_⟩
 rw [List.getElem?_drop] at hx
 have := h _ _ hx
 rwa [← Nat.add_assoc] at this
theorem addr_add (b o n : Nat) : (⟨b, o, none⟩ : Addr).add n = ⟨b, o + n, none⟩ := by
 unfold Addr.add; split <;> simp_all
theorem Row.load {P : Program} {b o : Nat} (h : Row w D b o cs) {T n : Nat} {g : Bool} (ht : cellTy P T = some (g, n)) {x : AV} (hx : ldCells g n cs = some x) :
  ∃ v, Slot w D x v ∧ ∀ w', Below w.heap.size w w' → (loadVar T ⟨b, o, none⟩).run P w' = .ok v w' := by
 obtain ⟨hb, f, h⟩ := h
 unfold cellTy at ht
 have key : ∀ (d : TypeDesc) (i : TypeInfo), P.underlying T = some d → P.info? T = some i → i.size = n →
   g = (match d with | .struct _ | .array _ _ => true | _ => false) → ∃ v, Slot w D x v ∧ ∀ w', Below w.heap.size w w' → (loadVar T ⟨b, o, none⟩).run P w' = .ok v w' := by
  intro d i hu hi hn hg
  unfold ldCells at hx
  cases g with
  | true =>
   simp only [if_true] at hx
   split at hx
   ·rename_i hle
    simp only [Option.some.injEq] at hx
    subst hx
    refine ⟨.agg ((List.range n).map f).toArray, ⟨(List.range n).map f, rfl, by simp [hle], fun j y hy => ?_⟩, fun w' hw' => ?_⟩
    ·rw [List.getElem?_take] at hy
     split at hy
     ·rename_i hj
      have := (h j y hy).2
      simpa [List.getD, hj] using this
     ·cases hy
    ·have hl := run_loadCells (P := P) w' ⟨b, o, none⟩ n f (fun j hj => by
      rw [addr_add, below_cell hw' hb]
      exact (h j _ (List.getElem?_eq_getElem (by omega))).1)
     cases d <;> simp at hg <;> simp [loadVar, Go.isAgg, run_underlying hu, sizeOf, typeInfo, hi, hn, hl]
   ·cases hx
  | false =>
   simp only [Bool.false_eq_true, if_false] at hx
   cases cs with
   | nil => simp at hx
   | cons c cs =>
    simp only [List.head?_cons, Option.some.injEq] at hx
    subst hx
    have h0 := h 0 c rfl
    refine ⟨f 0, ?_, fun w' hw' => ?_⟩
    ·have hc := h0.2.1
     have h1 := h0.2.2
     cases c with
     | agg l => simp only [Cell] at hc; cases hc
     | tup l => simp only [Cell] at hc; cases hc
     | _ => simp only [Slot, Val]; exact hc
    ·have hc : w'.cell? ⟨b, o, none⟩ = some (f 0) := by rw [below_cell hw' hb]; simpa using h0.1
     cases d <;> simp at hg <;> simp [loadVar, Go.isAgg, run_underlying hu, run_load, hc]
 split at ht
 ·rename_i fs i hu hi
  simp only [Option.some.injEq, Prod.mk.injEq] at ht
  exact key _ i hu hi ht.2 (by simp [← ht.1])
 ·rename_i k e i hu hi
  simp only [Option.some.injEq, Prod.mk.injEq] at ht
  exact key _ i hu hi ht.2 (by simp [← ht.1])
 ·rename_i d i h1 h2 hu hi
  simp only [Option.some.injEq, Prod.mk.injEq] at ht
  refine key _ i hu hi ht.2 ?_
  rw [← ht.1]
  cases d <;> simp_all
 ·cases ht
theorem row_at {v : Value} (h : Imm w D.M (.at_ cs) v) : ∃ b o, v = .pointer (some ⟨b, o, none⟩) ∧ Row w D b o cs ∧ ¬ D.M b := by
 cases h with
 | at_ _ b off f hb hM hc h1 h => exact ⟨b, off, rfl, ⟨hb, f, fun i x hx => ⟨hc i x hx, by
   have := h i x hx
   cases x with
   | msl => cases this
   | ref => cases this
   | wrp => cases this
   | _ => simp only [Cell]; exact this, h1 i x hx⟩⟩, hM⟩
theorem row_obj {w0 w : World} {M0 : Nat → Prop} {objs : List (Nat × Obj)} (hm : Mem w0 M0 objs D w) {m sz i off : Nat} (h : cellsAt objs m sz i off = some cs)
  {b : Nat} (hD : D m = some (some b)) : Row w D b (i * sz + off) cs := by
 unfold cellsAt at h
 have hb := hm.lt b ⟨m, hD⟩
 split at h
 ·rename_i bs hl
  split at h
  ·rename_i hi
   simp only [Option.some.injEq] at h
   subst hi; subst h
   obtain ⟨vs, T, h1, h2, h3⟩ := hm.rep m _ _ hl hD
   simp only [Nat.zero_mul]
   refine Row.drop (o := 0) ⟨hb, fun i => vs.getD i undef, fun i x hx => ⟨?_, h3 i x hx⟩⟩ off
   rw [Nat.zero_add]
   exact world_cell h1 (by rw [h2]; exact (List.getElem?_eq_some_iff.1 hx).1)
  ·cases h
 ·rename_i sz' l hl
  split at h
  ·rename_i hi
   obtain ⟨rfl, hi⟩ := hi
   simp only [Option.some.injEq] at h
   subst h
   obtain ⟨vs, T, fz, h1, h2, h3, h4, h5, h6⟩ := hm.rep m _ _ hl hD
   refine Row.drop (o := i * sz) ⟨hb, fun j => vs.getD (i * sz + j) undef, fun j x hx => ?_⟩ off
   have hli : l[i]? = some (l.getD i []) := by simp [List.getD, List.getElem?_eq_getElem hi]
   obtain ⟨h7, h8⟩ := h6 i _ j x hli hx
   refine ⟨world_cell h1 ?_, h7.cell, h8⟩
   have hs := h5 i _ hli
   have hj : j < sz := by rw [← hs]; exact (List.getElem?_eq_some_iff.1 hx).1
   have : (i + 1) * sz ≤ l.length * sz := Nat.mul_le_mul_right _ hi
   rw [Nat.add_mul, Nat.one_mul] at this
   omega
  ·cases h
 ·cases h
end Go.Abs
namespace Go.Abs
open Go.RowKit
def Yields1 (P : Program) (w : World) (D : Names) (s : Sem Value) (x : AV) : Prop :=
  ∃ v, Slot w D x v ∧ ∀ w', Below w.heap.size w w' → s.run P w' = .ok v w'
def ibin (op : BinOp) (k : IntKind) (a b : Int) : Option AV :=
  match op with
  | .add => some (.int k (k.wrap (a + b)))
  | .sub => some (.int k (k.wrap (a - b)))
  | .mul => some (.int k (k.wrap (a * b)))
  | .quo => if b = 0 then none else some (.int k (k.wrap (a.tdiv b)))
  | .rem => if b = 0 then none else some (.int k (a.tmod b))
  | .and => some (.int k (k.wrap (BitVec.ofInt k.bits a &&& BitVec.ofInt k.bits b).toNat))
  | .or => some (.int k (k.wrap (BitVec.ofInt k.bits a ||| BitVec.ofInt k.bits b).toNat))
  | .xor => some (.int k (k.wrap (BitVec.ofInt k.bits a ^^^ BitVec.ofInt k.bits b).toNat))
  | .andNot => some (.int k (k.wrap (BitVec.ofInt k.bits a &&& ~~~ BitVec.ofInt k.bits b).toNat))
  | .shl => if b < 0 then none else some (.int k (k.wrap (a * 2 ^ (min b.toNat k.bits))))
  | .shr => if b < 0 then none else some (.int k (a.fdiv (2 ^ (min b.toNat k.bits))))
  | .eql => some (.bool (a == b))
  | .neq => some (.bool (a != b))
  | .lss => some (.bool (decide (a < b)))
  | .leq => some (.bool (decide (a ≤ b)))
  | .gtr => some (.bool (decide (b < a)))
  | .geq => some (.bool (decide (b ≤ a)))
def isShift : BinOp → Bool | .shl | .shr => true | _ => false
def sbin (op : BinOp) (a b : List UInt8) : Option AV :=
  match op with
  | .add => if a.length + b.length ≤ lim then some (.str (a ++ b)) else none
  | .eql => some (.bool (a == b))
  | .neq => some (.bool (!(a == b)))
  | .lss => some (.bool (Op.bytesLess a b))
  | .leq => some (.bool (Op.bytesLess a b || a == b))
  | .gtr => some (.bool (!(Op.bytesLess a b || a == b)))
  | .geq => some (.bool (!(Op.bytesLess a b)))
  | _ => none
theorem run_eqGuard_int {P : Program} (op : BinOp) (t : TypeId) (x y : Operand) (k k' : IntKind) (a b : Int) (w : World) : (eqGuard op t x y (.int k a) (.int k' b)).run P w = .ok () w := by
  unfold eqGuard
  cases op <;> simp
theorem run_eqGuard_bool {P : Program} (op : BinOp) (t : TypeId) (x y : Operand) (a b : Bool) (w : World) : (eqGuard op t x y (.bool a) (.bool b)).run P w = .ok () w := by
  unfold eqGuard
  cases op <;> simp
theorem run_eqGuard_string {P : Program} (op : BinOp) (t : TypeId) (x y : Operand) (a b : ByteArray) (w : World) : (eqGuard op t x y (.string a) (.string b)).run P w = .ok () w := by
  unfold eqGuard
  cases op <;> simp
theorem slot_int {w : World} {D : Names} {k : IntKind} {n : Int} {v : Value} (h : Slot w D (.int k n) v) : v = .int k n := by
  simp only [Slot, Val, Cell] at h; cases h; rfl
theorem slot_bool {w : World} {D : Names} {b : Bool} {v : Value} (h : Slot w D (.bool b) v) : v = .bool b := by
  simp only [Slot, Val, Cell] at h; cases h; rfl
theorem slot_str {w : World} {D : Names} {s : List UInt8} {v : Value} (h : Slot w D (.str s) v) : v = .string ⟨s.toArray⟩ ∧ s.length ≤ lim := by
  simp only [Slot, Val, Cell] at h; cases h; exact ⟨rfl, by assumption⟩
theorem slot_nsl {w : World} {D : Names} {v : Value} (h : Slot w D .nsl v) : v = .slice none 0 0 := by
  simp only [Slot, Val, Cell] at h; cases h; rfl
theorem slot_mk_int {w : World} {D : Names} (k : IntKind) (n : Int) : Slot w D (.int k n) (.int k n) := Imm.slot (.int k n)
theorem slot_mk_bool {w : World} {D : Names} (b : Bool) : Slot w D (.bool b) (.bool b) := Imm.slot (.bool b)
theorem slot_mk_str {w : World} {D : Names} (s : List UInt8) (h : s.length ≤ lim) : Slot w D (.str s) (.string ⟨s.toArray⟩) := Imm.slot (.str s h)
theorem lim_i64 {a b : Nat} (h : a + b ≤ lim) : ¬ (((a + b : Nat) : Int) > IntKind.i64.max) := by
  have : IntKind.i64.max = 9223372036854775807 := by decide
  rw [this]; simp only [lim] at h; omega
theorem ibin_sound {P : Program} {op : BinOp} {k k' : IntKind} {a b : Int} {x : AV} (hk : isShift op = true ∨ k = k') (h : ibin op k a b = some x) (t : TypeId) (X Y : Operand) (w : World) (D : Names) :
    ∃ v, Slot w D x v ∧ ∀ w', (do eqGuard op t X Y (.int k a) (.int k' b); binOp op t (.int k a) (.int k' b) : Sem Value).run P w' = .ok v w' := by
  cases op <;> simp only [ibin, isShift, Bool.false_eq_true, false_or, true_or] at h hk <;> (try subst hk)
  case quo =>
    split at h
    · cases h
    · simp only [Option.some.injEq] at h; subst h
      exact ⟨_, slot_mk_int _ _, fun w' => by simp [run_eqGuard_int, binOp, Op.intDiv, *]⟩
  case rem =>
    split at h
    · cases h
    · simp only [Option.some.injEq] at h; subst h
      exact ⟨_, slot_mk_int _ _, fun w' => by simp [run_eqGuard_int, binOp, Op.intDiv, *]⟩
  case shl =>
    split at h
    · cases h
    · simp only [Option.some.injEq] at h; subst h
      exact ⟨_, slot_mk_int _ _, fun w' => by simp [run_eqGuard_int, binOp, Op.shift, *]⟩
  case shr =>
    split at h
    · cases h
    · simp only [Option.some.injEq] at h; subst h
      exact ⟨_, slot_mk_int _ _, fun w' => by simp [run_eqGuard_int, binOp, Op.shift, *]⟩
  all_goals
    simp only [Option.some.injEq] at h
    subst h
    first
      | exact ⟨_, slot_mk_int _ _, fun w' => by simp [run_eqGuard_int, binOp, Op.intArith, Op.intBits]⟩
      | exact ⟨_, slot_mk_bool _, fun w' => by simp [run_eqGuard_int, binOp, Op.intCmp]⟩
theorem sbin_sound {P : Program} {op : BinOp} {a b : List UInt8} {x : AV} (h : sbin op a b = some x) (t : TypeId) (X Y : Operand) (w : World) (D : Names) :
    ∃ v, Slot w D x v ∧ ∀ w', (do eqGuard op t X Y (.string ⟨a.toArray⟩) (.string ⟨b.toArray⟩); binOp op t (.string ⟨a.toArray⟩) (.string ⟨b.toArray⟩) : Sem Value).run P w' = .ok v w' := by
  cases op <;> simp only [sbin] at h
  case add =>
    split at h
    · rename_i hl
      simp only [Option.some.injEq] at h; subst h
      refine ⟨_, slot_mk_str _ (by simpa using hl), fun w' => ?_⟩
      have h2 : ¬ ((((⟨a.toArray⟩ : ByteArray).size + (⟨b.toArray⟩ : ByteArray).size : Nat) : Int) > IntKind.i64.max) := lim_i64 (by simpa [ByteArray.size] using hl)
      simp only [Sem.run_bind, run_eqGuard_string, Result.andThen_ok, binOp, Op.stringOp, h2, if_false, Sem.run_pure]
      congr 2
    · cases h
  all_goals first
    | (cases h; done)
    | (simp only [Option.some.injEq] at h
       subst h
       exact ⟨_, slot_mk_bool _, fun w' => by simp [run_eqGuard_string, binOp, Op.stringOp]⟩)
def SliceRep (w : World) (D : Names) (sz : Nat) (l : List (List AV)) (v : Value) : Prop :=
  ∃ a cap, v = .slice a l.length cap ∧ l.length ≤ cap ∧ l.length ≤ lim ∧ (l = [] ∨ ∃ b off, a = some ⟨b, off, none⟩ ∧ b < w.heap.size ∧
    (∀ (j : Nat) (cs : List AV), l[j]? = some cs → cs.length = sz) ∧ ∃ f : Nat → Nat → Value,
    ∀ (j : Nat) (cs : List AV) (i : Nat) (x : AV), l[j]? = some cs → cs[i]? = some x →
      w.cell? ⟨b, off + (j * sz + i), none⟩ = some (f j i) ∧ (f j i).oneCell' = true ∧ Imm w D.M x (f j i))
def viewSl (objs : List (Nat × Obj)) (sz : Nat) : AV → Option (List (List AV))
  | .nsl => some []
  | .sl sz' l => if sz' = sz then some l else none
  | .msl n sz' off len => match look n objs with
    | some (.arr sz'' l) => if sz' = sz ∧ sz'' = sz ∧ off + len ≤ l.length then some ((l.drop off).take len) else none
    | _ => none
  | _ => none
theorem viewSl_sound {w0 w : World} {M0 : Nat → Prop} {D : Names} {objs : List (Nat × Obj)} (hm : Mem w0 M0 objs D w) {sz : Nat} {x : AV} {l : List (List AV)} (h : viewSl objs sz x = some l) {v : Value}
    (hv : Slot w D x v) : SliceRep w D sz l v := by
  unfold viewSl at h
  split at h
  · simp only [Option.some.injEq] at h; subst h
    rw [slot_nsl hv]; exact ⟨none, 0, rfl, Nat.le_refl _, Nat.zero_le _, .inl rfl⟩
  · rename_i sz' l'
    split at h
    · rename_i hs
      simp only [Option.some.injEq] at h; subst h; subst hs
      simp only [Slot, Val, Cell] at hv
      cases hv with
      | slnil _ a cap => exact ⟨a, cap, rfl, Nat.zero_le _, Nat.zero_le _, .inl rfl⟩
      | sl _ _ b off cap f hb hM hcap hn hs hc h1 hi => exact ⟨_, cap, rfl, hcap, hn, .inr ⟨b, off, rfl, hb, hs, f, fun j cs i x hj hx => ⟨hc j cs i x hj hx, h1 j cs i x hj hx, hi j cs i x hj hx⟩⟩⟩
    · cases h
  · rename_i n sz' off len
    split at h
    · rename_i sz'' l' hl
      split at h
      · rename_i hc
        obtain ⟨rfl, rfl, hle⟩ := hc
        simp only [Option.some.injEq] at h; subst h
        have hlen : ((l'.drop off).take len).length = len := by simp; omega
        simp only [Slot, Val, Cell] at hv
        rcases hv with ⟨h1, rfl, a, rfl⟩ | ⟨b, cap, N, h1, rfl, h3, h4, h5⟩
        · simp only [List.take_zero]
          exact ⟨a, 0, rfl, Nat.le_refl _, Nat.zero_le _, .inl rfl⟩
        · obtain ⟨vs, T, fz, g1, g2, g3, g4, g5, g6⟩ := hm.rep n _ _ hl h1
          have key : ∀ (j : Nat) (cs : List AV), ((l'.drop off).take len)[j]? = some cs → l'[off + j]? = some cs := by
            intro j cs hj
            rw [List.getElem?_take] at hj
            split at hj
            · rwa [List.getElem?_drop] at hj
            · cases hj
          refine ⟨_, cap, by rw [hlen], by rw [hlen]; exact h3, by rw [hlen]; omega, .inr ⟨b, _, rfl, hm.lt b ⟨n, h1⟩, fun j cs hj => g5 _ _ (key j cs hj), fun j i => vs.getD ((off + j) * sz'' + i) undef, ?_⟩⟩
          intro j cs i x hj hx
          obtain ⟨k1, k2⟩ := g6 _ _ _ _ (key j cs hj) hx
          refine ⟨?_, k2, k1⟩
          have hlt : off + j < l'.length := (List.getElem?_eq_some_iff.1 (key j cs hj)).1
          have hi : i < sz'' := by rw [← g5 _ _ (key j cs hj)]; exact (List.getElem?_eq_some_iff.1 hx).1
          have hmul : (off + j + 1) * sz'' ≤ l'.length * sz'' := Nat.mul_le_mul_right _ hlt
          rw [Nat.add_mul, Nat.one_mul] at hmul
          have hE : off * sz'' + (j * sz'' + i) = (off + j) * sz'' + i := by rw [Nat.add_mul]; omega
          rw [hE]
          exact world_cell g1 (by omega)
      · cases h
    · cases h
  · cases h
end Go.Abs
namespace Go.Abs
open Go.RowKit
def eqT : TypeDesc → AV → AV → Option Bool
 | .bool, .bool a, .bool b => some (a == b)
 | .int _, .int k a, .int k' b => if k = k' then some (a == b) else none
 | .string, .str a, .str b => some (a == b)
 | _, _, _ => none
def eqL : List TypeDesc → List AV → List AV → Option Bool
 | [], [], [] => some true
 | d :: ds, x :: xs, y :: ys => match eqT d x y, eqL ds xs ys with
  | some a, some b => some (a && b)
  | _, _ => none
 | _, _, _ => none
def leafTy : TypeDesc → Bool
 | .bool | .int _ | .string => true
 | _ => false
def eqFields (P : Program) (rec : TypeId → Option (List TypeDesc)) : List Field → List TypeDesc → Option (List TypeDesc)
 | [], acc => some acc
 | f :: fs, acc => if f.name = "_" ∨ f.offset ≠ acc.length then none else
  match rec f.type, P.info? f.type with
  | some l, some i => if i.size = l.length then eqFields P rec fs (acc ++ l) else none
  | _, _ => none
def eqPlan (P : Program) : Nat → TypeId → Option (List TypeDesc)
 | 0, _ => none
 | d + 1, T => match P.underlying T with
  | some (.struct fs) => if P.stoodInHeld T then none else eqFields P (eqPlan P d) fs.toList []
  | some t => if leafTy t then some [t] else none
  | none => none
def eqAgg (P : Program) (T : TypeId) (a b : List AV) : Option Bool :=
 match P.underlying T with
 | some (.struct _) => if P.eqGuardType P.depth T = false then (match eqPlan P 20 T with | some ks => eqL ks a b | none => none) else none
 | _ => none
def bop (P : Program) (T : TypeId) (op : BinOp) (x y : AV) : Option AV :=
 match x, y with
 | .int k a, .int k' b => if isShift op = true ∨ k = k' then ibin op k a b else none
 | .str a, .str b => sbin op a b
 | .bool a, .bool b => if boolTy P T then (match op with | .eql => some (.bool (a == b)) | .neq => some (.bool (!(a == b))) | _ => none) else none
 | .agg a, .agg b => match op with
  | .eql => (eqAgg P T a b).map .bool
  | .neq => (eqAgg P T a b).map fun r => .bool !r
  | _ => none
 | _, _ => none
def uop (op : UnOp) (x : AV) : Option AV :=
 match op, x with
 | .not, .bool b => some (.bool !b)
 | .neg, .int k n => some (.int k (k.wrap (0 - n)))
 | .xor, .int k n => ibin .xor k (if k.signed then -1 else k.max) n
 | _, _ => none
def decB : List (List AV) → Option (List UInt8)
 | [] => some []
 | [.int .u8 n] :: r => (decB r).map (UInt8.ofNat n.toNat :: ·)
 | _ => none
def byteSl (P : Program) (T : TypeId) : Bool := match P.underlying T with | some (.slice e) => (match P.underlying e with | some (.int .u8) => true | _ => false) | _ => false
def cvt (P : Program) (S T : TypeId) (objs : List (Nat × Obj)) (x : AV) : Option AV :=
 match x with
 | .int _ n => if (P.underlying S).isSome then (intTy P T).map fun k => .int k (k.wrap n) else none
 | .str s => if (P.underlying S).isSome && strTy P T then some (.str s) else none
 | x => if byteSl P S && strTy P T then ((viewSl objs 1 x).bind decB).map .str else none
def idx (x : AV) : Option Int := match x with | .int _ n => some n | _ => none
def bnd (env : List AV) (d : Int) : Option Operand → Option Int
 | none => some d
 | some o => idx (ev env o)
def slc (P : Program) (T : TypeId) (objs : List (Nat × Obj)) (env : List AV) (x : AV) (lo hi : Option Operand) : Option AV :=
 match x with
 | .str s => if strTy P T then
   match bnd env 0 lo, bnd env s.length hi with
   | some l, some h => if 0 ≤ l ∧ l ≤ h ∧ h ≤ s.length then some (.str ((s.drop l.toNat).take (h.toNat - l.toNat))) else none
   | _, _ => none
  else none
 | .nsl => if (sliceElem P T).isSome then
   match bnd env 0 lo, bnd env 0 hi with
   | some l, some h => if 0 ≤ l ∧ l ≤ h ∧ h ≤ 0 then some .nsl else none
   | _, _ => none
  else none
 | .sl sz s => if sliceElem P T = some sz then
   match bnd env 0 lo, bnd env s.length hi with
   | some l, some h => if 0 ≤ l ∧ l ≤ h ∧ h ≤ s.length then some (.sl sz ((s.drop l.toNat).take (h.toNat - l.toNat))) else none
   | _, _ => none
  else none
 | .msl n sz off len => if sliceElem P T = some sz then
   match bnd env 0 lo, bnd env len hi with
   | some l, some h => if 0 ≤ l ∧ l ≤ h ∧ h ≤ len then some (.msl n sz (off + l.toNat) (h.toNat - l.toNat)) else none
   | _, _ => none
  else none
 | .ref n sz 0 0 => match arrElem P T, look n objs with
  | some (len, sz'), some (.arr sz'' rows) => if sz = sz' ∧ sz = sz'' ∧ rows.length = len then
    match bnd env 0 lo, bnd env len hi with
    | some l, some h => if 0 ≤ l ∧ l ≤ h ∧ h ≤ len then some (.msl n sz l.toNat (h.toNat - l.toNat)) else none
    | _, _ => none
   else none
  | _, _ => none
 | _ => none
def slc3 (P : Program) (T : TypeId) (env : List AV) (x : AV) (lo : Option Operand) (hi mx : Operand) : Option AV :=
 match x with
 | .msl n sz off len => if sliceElem P T = some sz then
   match bnd env 0 lo, bnd env 0 (some hi), bnd env 0 (some mx) with
   | some l, some h, some m => if 0 ≤ l ∧ l ≤ h ∧ h ≤ m ∧ m ≤ len then some (.msl n sz (off + l.toNat) (h.toNat - l.toNat)) else none
   | _, _, _ => none
  else none
 | _ => none
def lenOf (P : Program) (T : TypeId) (x : AV) : Option AV :=
 match x with
 | .str s => if strTy P T then some (.int .i64 s.length) else none
 | .sl _ l => if (sliceElem P T).isSome then some (.int .i64 l.length) else none
 | .msl _ _ _ len => if (sliceElem P T).isSome then some (.int .i64 len) else none
 | .nsl => if (sliceElem P T).isSome then some (.int .i64 0) else none
 | _ => none
def plainN : AV → Bool
 | .int _ _ | .bool _ | .str _ | .nsl | .sl _ _ | .at_ _ | .msl _ _ _ _ | .ref _ _ _ _ | .wrp _ _ => true
 | .cst v => v.oneCell'
 | _ => false
def plainC : AV → Bool
 | .int _ _ | .bool _ | .str _ | .nsl | .sl _ _ | .at_ _ => true
 | .cst v => v.oneCell'
 | _ => false
def cellsOf : AV → Option (List AV)
 | .agg l => some l
 | x => if plainN x then some [x] else none
def places (P : Program) (T : TypeId) : Option (List (Nat × Nat)) :=
 match P.underlying T with
 | some (.struct fs) => fs.toList.mapM fun f => (P.info? f.type).map fun i => (f.offset, i.size)
 | _ => none
def zeroVals (P : Program) (T : TypeId) : Option (List Value) := ((P.info? T).bind (·.zero)).map (·.cells.toList)
def zeroCells (P : Program) (T : TypeId) : Option (List AV) := (zeroVals P T).bind fun l => if l.all (·.oneCell') then some (l.map ofC) else none
def fillA (pl : List (Nat × Nat)) : List AV → List (Nat × AV) → Option (List AV)
 | cells, [] => some cells
 | cells, (i, x) :: rest => match pl[i]?, cellsOf x with
  | some (off, n), some cs => if cs.length = n ∧ off + n ≤ cells.length then fillA pl (cells.take off ++ (cs ++ cells.drop (off + n))) rest else none
  | _, _ => none
def bld (P : Program) (T : TypeId) (parts : List (Nat × AV)) : Option AV :=
 match places P T, zeroCells P T with
 | some pl, some z => (fillA pl z parts).map .agg
 | _, _ => none
def asRefs : List AV → Option (List Nat)
 | [] => some []
 | .ref n _ 0 0 :: r => (asRefs r).map (n :: ·)
 | _ => none
def mkF (fn : Fn) (l : List AV) : Option AV := match l with
 | [] => some (.cst (.func fn #[] #[]))
 | l => (asRefs l).map (.wrp (some fn, 0))
def concT (P : Program) (T : TypeId) : Bool := match P.underlying T with
 | some (.interface _) => false
 | some _ => true
 | none => false
def mkI (P : Program) (T : TypeId) (x : AV) : Option AV := if concT P T then (match x with
 | .ref n _ 0 0 => some (.wrp (none, T) [n])
 | .agg l => if l.all plainC then some (.ifc T true l) else none
 | x => if plainC x then some (.ifc T false [x]) else none) else none
def tasV (ok : Bool) (x : AV) : AV := if ok then .tup [x, .bool true] else x
def tas (P : Program) (T : TypeId) (ok : Bool) (x : AV) : Option AV := if concT P T then (match x with
 | .ifc t true l => if t = T then some (tasV ok (.agg l)) else none
 | .ifc t false [x] => if t = T then some (tasV ok x) else none
 | .wrp (none, t) [n] => if t = T then some (tasV ok (.ref n 1 0 0)) else none
 | _ => none) else none
def isC (v : Value) : Operand → Bool
 | .const u => (match u, v with | .nilIface, .nilIface => true | _, _ => false)
 | _ => false
def ifaceT (P : Program) (T : TypeId) : Bool := match P.underlying T with
 | some (.interface _) => true
 | _ => false
def ptrT (P : Program) (T : TypeId) : Bool := match P.underlying T with
 | some (.pointer _) => true
 | _ => false
def ptrZ (P : Program) (T : TypeId) : Bool := match P.underlying T with
 | some (.pointer e) => (match P.info? e with | some i => i.size != 0 | none => false)
 | _ => false
def cmpA (P : Program) (T : TypeId) (X Y : Operand) (x y : AV) : Option Bool :=
 match x, y with
 | .cst .nilIface, .cst .nilIface => if ifaceT P T && (isC .nilIface X || isC .nilIface Y) then some true else none
 | .cst .nilIface, .ifc _ _ _ => if ifaceT P T then some false else none
 | .ifc _ _ _, .cst .nilIface => if ifaceT P T then some false else none
 | .cst .nilIface, .wrp (none, _) _ => if ifaceT P T then some false else none
 | .wrp (none, _) _, .cst .nilIface => if ifaceT P T then some false else none
 | .cst (.pointer none), .cst (.pointer none) => if ptrT P T then some true else none
 | .cst (.pointer none), .ref _ _ _ _ => if ptrT P T then some false else none
 | .ref _ _ _ _, .cst (.pointer none) => if ptrT P T then some false else none
 | .ref n sz i off, .ref m sz' j off' => if ptrZ P T && (n == m && i * sz + off == j * sz' + off') then some true else none
 | _, _ => none
def eqOp (op : BinOp) (b : Bool) : Option AV := match op with
 | .eql => some (.bool b)
 | .neq => some (.bool (!b))
 | _ => none
def mmA (mx : Bool) : List AV → Option AV
 | [.int k a, .int k' b] => if k = k' then some (.int k (if mx then (if b > a then b else a) else (if b < a then b else a))) else none
 | _ => none
def rOp2 (P : Program) (env : List AV) : Op → Option AV
 | .makeFunc fn first captured => if first.toList.length = 0 then mkF fn (captured.toList.map (ev env)) else none
 | .makeInterface T x => mkI P T (ev env x)
 | .typeAssert x _ T ok => tas P T ok (ev env x)
 | .call { callee := .builtin .min, args, argTypes := _ } => mmA false (args.toList.map (ev env))
 | .call { callee := .builtin .max, args, argTypes := _ } => mmA true (args.toList.map (ev env))
 | .call { callee := .builtin .cap, args, argTypes } => match args.toList, argTypes.toList with
  | [x], [T] => (match ev env x with | .nsl => if (sliceElem P T).isSome then some (.int .i64 0) else none | _ => none)
  | _, _ => none
 | _ => none
def bop2 (P : Program) (T : TypeId) (op : BinOp) (X Y : Operand) (x y : AV) : Option AV := match bop P T op x y with
 | some r => some r
 | none => (cmpA P T X Y x y).bind (eqOp op)
def rOp (P : Program) (env : List AV) (objs : List (Nat × Obj)) : Op → Option AV
 | .move x => some (ev env x)
 | .assign x => some (ev env x)
 | .pick c a b => match ev env c with | .bool t => some (if t then ev env a else ev env b) | _ => none
 | .fieldAddr T x k => match ev env x, fieldOf P T k with
  | .at_ cs, some (o, _, _) => some (.at_ (cs.drop o))
  | .ref n sz i off, some (o, _, _) => some (.ref n sz i (off + o))
  | _, _ => none
 | .field T x k => match ev env x, fieldOf P T k with
  | .agg cs, some (o, true, n) => if o + n ≤ cs.length then some (.agg ((cs.drop o).take n)) else none
  | .agg cs, some (o, false, _) => cs[o]?
  | _, _ => none
 | .indexAddr T x i => match ev env i with
  | .int _ n => match ev env x with
   | .sl sz l => if 0 ≤ n ∧ n < l.length ∧ sliceElem P T = some sz then some (.at_ (l.getD n.toNat [])) else none
   | .msl m sz off len => if 0 ≤ n ∧ n < len ∧ sliceElem P T = some sz then some (.ref m sz (off + n.toNat) 0) else none
   | .ref m sz 0 0 => match arrElem P T with
    | some (len, sz') => if sz = sz' ∧ 0 ≤ n ∧ n < len then some (.ref m sz n.toNat 0) else none
    | none => none
   | .at_ cs => match arrElem P T with
    | some (len, sz) => if 0 ≤ n ∧ n < len then some (.at_ ((cs.drop (n.toNat * sz)).take sz)) else none
    | none => none
   | _ => none
  | _ => none
 | .index T x i => match ev env i with
  | .int _ n => match ev env x with
   | .str s => if strTy P T = true ∧ 0 ≤ n ∧ n < s.length then some (.int .u8 (s.getD n.toNat 0).toNat) else none
   | _ => none
  | _ => none
 | .load T x => match ev env x, cellTy P T with
  | .at_ cs, some (g, n) => ldCells g n cs
  | .ref m sz i off, some (g, n) => (cellsAt objs m sz i off).bind (ldCells g n)
  | _, _ => none
 | .nilCheck x => match ev env x with
  | .at_ cs => some (.at_ cs)
  | .ref n sz i off => some (.ref n sz i off)
  | .cst (.func (.func f) u v) => some (.cst (.func (.func f) u v))
  | .wrp (some (.func f), 0) ns => some (.wrp (some (.func f), 0) ns)
  | .wrp (none, t) ns => some (.wrp (none, t) ns)
  | _ => none
 | .binOp op T x y _ => bop2 P T op x y (ev env x) (ev env y)
 | .unOp op _ x => uop op (ev env x)
 | .convert S T x => cvt P S T objs (ev env x)
 | .slice T x lo hi none => slc P T objs env (ev env x) lo hi
 | .slice T x lo (some hi) (some mx) => slc3 P T env (ev env x) lo hi mx
 | .extract t i => match ev env t with | .tup l => l[i]? | _ => none
 | .build T parts => bld P T (parts.toList.map fun p => (p.1, ev env p.2))
 | .call { callee := .builtin .len, args, argTypes } => match args.toList, argTypes.toList with
  | [x], [T] => lenOf P T (ev env x)
  | _, _ => none
 | op => rOp2 P env op
end Go.Abs
namespace Go.Abs
open Go.RowKit
variable {P : Program} {w : World} {env : List AV} {T : TypeId} {D : Names}
theorem run_bound_ok (k : IntKind) (i : Int) (y : Nat) (code : BoundsCode) (h0 : 0 ≤ i) (h1 : i ≤ y) : (Instr.sliceBound (.int k i) y code).run P w = .ok i.toNat w := by
 simp [Instr.sliceBound, asIntOf, h0, h1]
theorem slot_idx {x : AV} {v : Value} {n : Int} (h : idx x = some n) (hv : Slot w D x v) : ∃ k, v = .int k n := by
 unfold idx at h
 split at h
 ·rename_i k m
  simp only [Option.some.injEq] at h; subst h
  exact ⟨k, slot_int hv⟩
 ·cases h
theorem bounds_sound {a : Act} (hg : GlobRep w D.M) (he : EnvRep w D env a.tmps) {lo hi : Option Operand} {l h : Int} {len cap : Nat} (b : Bool)
  (hl : bnd env 0 lo = some l) (hh : bnd env len hi = some h) (h0 : 0 ≤ l) (h1 : l ≤ h) (h2 : h ≤ cap) (w' : World) :
  (Instr.sliceBounds b len cap (lo.map a.eval) (hi.map a.eval) none).run P w' = .ok (l.toNat, h.toNat, cap) w' := by
 have H : (match hi.map a.eval with | some v => Instr.sliceBound v cap (if b then .sliceAcap else .sliceAlen) | none => pure len : Sem Nat).run P w' = .ok h.toNat w' := by
  cases hi with
  | none => simp only [bnd, Option.some.injEq] at hh; subst hh; simp
  | some o =>
   obtain ⟨k, hk⟩ := slot_idx hh (ev_sound hg he o)
   simp only [Option.map_some, hk]
   exact run_bound_ok k h cap _ (by omega) h2
 have L : (match lo.map a.eval with | some v => Instr.sliceBound v h.toNat .sliceB | none => pure 0 : Sem Nat).run P w' = .ok l.toNat w' := by
  cases lo with
  | none => simp only [bnd, Option.some.injEq] at hl; subst hl; simp
  | some o =>
   obtain ⟨k, hk⟩ := slot_idx hl (ev_sound hg he o)
   simp only [Option.map_some, hk]
   exact run_bound_ok k l _ _ h0 (by omega)
 unfold Instr.sliceBounds
 cases hi with
 | none =>
  cases lo with
  | none => simp_all
  | some o => simp_all
 | some o' =>
  cases lo with
  | none => simp_all
  | some o => simp_all
theorem strTy_spec (h : strTy P T = true) : P.underlying T = some .string := by
 unfold strTy at h; split at h <;> simp_all
theorem boolTy_spec (h : boolTy P T = true) : P.underlying T = some .bool := by
 unfold boolTy at h; split at h <;> simp_all
theorem intTy_spec {k : IntKind} (h : intTy P T = some k) : P.underlying T = some (.int k) := by
 unfold intTy at h; split at h <;> simp_all
theorem sliceElem_spec {T sz : Nat} (h : sliceElem P T = some sz) : ∃ e i, P.underlying T = some (.slice e) ∧ P.info? e = some i ∧ i.size = sz := by
 unfold sliceElem at h
 split at h
 ·rename_i e hu
  cases hi : P.info? e with
  | none => simp [hi] at h
  | some i => simp [hi] at h; exact ⟨e, i, hu, hi, h⟩
 ·cases h
theorem arrElem_spec {T n sz : Nat} (h : arrElem P T = some (n, sz)) : ∃ e i, P.underlying T = some (.array n e) ∧ P.info? e = some i ∧ i.size = sz := by
 unfold arrElem at h
 split at h
 ·rename_i n' e hu
  cases hi : P.info? e with
  | none => simp [hi] at h
  | some i => simp [hi] at h; obtain ⟨rfl, rfl⟩ := h; exact ⟨e, i, hu, hi, rfl⟩
 ·cases h
theorem run_slice_of {sz : Nat} (hs : sliceElem P T = some sz) (a : Option Addr) (len cap : Nat) (lo hi : Option Value) {l h m : Nat}
  (hb : (Instr.sliceBounds true len cap lo hi none).run P w = .ok (l, h, m) w) :
  (Instr.sliceAt T (.slice a len cap) lo hi none).run P w = .ok (.slice (if m = l then a else a.map (·.add (l * sz))) (h - l) (m - l)) w := by
 obtain ⟨e, i, hu, hi', rfl⟩ := sliceElem_spec hs
 simp [Instr.sliceAt, run_underlying hu, Instr.slice, hb, sizeOf, typeInfo, hi']
theorem r_slc {w0 w : World} {M0 : Nat → Prop} {objs : List (Nat × Obj)} (hm : Mem w0 M0 objs D w) {a : Act} (he : EnvRep w D env a.tmps)
  {T : TypeId} {lo hi : Option Operand} {x y : AV} (h : slc P T objs env x lo hi = some y) {v : Value} (hv : Slot w D x v) :
  Yields1 P w D (Instr.sliceAt T v (lo.map a.eval) (hi.map a.eval) none) y := by
 unfold slc at h
 split at h
 ·
  rename_i s
  split at h
  ·rename_i hT
   split at h
   ·rename_i l u hl hu
    split at h
    ·rename_i hc
     simp only [Option.some.injEq] at h; subst h
     obtain ⟨h0, h1, h2⟩ := hc
     obtain ⟨rfl, hlim⟩ := slot_str hv
     have hle : ((s.drop l.toNat).take (u.toNat - l.toNat)).length ≤ lim := by simp; omega
     refine ⟨_, slot_mk_str _ hle, fun w' _ => ?_⟩
     have hb := bounds_sound (P := P) (cap := s.length) (len := s.length) hm.glob he false hl hu h0 h1 h2 w'
     have hz : (⟨s.toArray⟩ : ByteArray).size = s.length := by simp [ByteArray.size]
     simp only [Instr.sliceAt, Sem.run_bind, run_underlying (strTy_spec hT), Result.andThen_ok, Instr.slice, Option.isSome_none, Bool.false_eq_true, if_false, hz, hb, Sem.run_pure]
     congr 2
     apply ByteArray.ext
     simp [ByteArray.data_extract]
    ·cases h
   ·cases h
  ·cases h
 ·
  split at h
  ·rename_i hT
   split at h
   ·rename_i l u hl hu
    split at h
    ·rename_i hc
     simp only [Option.some.injEq] at h; subst h
     obtain ⟨h0, h1, h2⟩ := hc
     rw [slot_nsl hv]
     obtain ⟨sz, hsz⟩ := Option.isSome_iff_exists.1 hT
     refine ⟨_, Imm.slot .nsl, fun w' _ => ?_⟩
     have hb := bounds_sound (P := P) (cap := 0) (len := 0) hm.glob he true hl hu h0 h1 h2 w'
     rw [run_slice_of hsz _ _ _ _ _ hb]
     have : l.toNat = 0 := by omega
     have : u.toNat = 0 := by omega
     simp [*]
    ·cases h
   ·cases h
  ·cases h
 ·
  rename_i sz s
  split at h
  ·rename_i hT
   split at h
   ·rename_i l u hl hu
    split at h
    ·rename_i hc
     simp only [Option.some.injEq] at h; subst h
     obtain ⟨h0, h1, h2⟩ := hc
     simp only [Slot, Val, Cell] at hv
     cases hv with
     | slnil _ b cap =>
      have e1 : l = 0 := by simp at h2; omega
      have e2 : u = 0 := by simp at h2; omega
      subst e1; subst e2
      refine ⟨_, Imm.slot (.slnil sz (if cap = 0 then b else b.map (·.add (0 * sz))) (cap - 0)), fun w' _ => ?_⟩
      have hb := bounds_sound (P := P) (cap := cap) (len := 0) hm.glob he true hl hu h0 h1 (by omega) w'
      rw [run_slice_of hT _ _ _ _ _ hb]
      rfl
     | sl _ _ b off cap f hb hM hcap hn hs hcl h1' hi' =>
      by_cases hml : cap = l.toNat
      ·have hz : u.toNat - l.toNat = 0 := by omega
       rw [hz, List.take_zero]
       refine ⟨_, Imm.slot (.slnil sz (some ⟨b, off, none⟩) (cap - l.toNat)), fun w' _ => ?_⟩
       have hbb := bounds_sound (P := P) (cap := cap) (len := s.length) hm.glob he true hl hu h0 h1 (by omega) w'
       rw [run_slice_of hT _ _ _ _ _ hbb, if_pos hml, hz]
      ·have hlen : ((s.drop l.toNat).take (u.toNat - l.toNat)).length = u.toNat - l.toNat := by simp; omega
       have key : ∀ (j : Nat) (cs : List AV), ((s.drop l.toNat).take (u.toNat - l.toNat))[j]? = some cs → s[l.toNat + j]? = some cs := by
        intro j cs hj
        rw [List.getElem?_take] at hj
        split at hj
        ·rwa [List.getElem?_drop] at hj
        ·cases hj
       have hI := Imm.sl (w := w) (M := D.M) sz ((s.drop l.toNat).take (u.toNat - l.toNat)) b (off + l.toNat * sz) (cap - l.toNat) (fun j i => f (l.toNat + j) i) hb hM (by omega) (by omega)
        (fun j cs hj => hs _ _ (key j cs hj))
        (fun j cs i x hj hx => by
         have := hcl _ _ _ _ (key j cs hj) hx
         rw [show off + l.toNat * sz + (j * sz + i) = off + ((l.toNat + j) * sz + i) by rw [Nat.add_mul]; omega]
         exact this)
        (fun j cs i x hj hx => h1' _ _ _ _ (key j cs hj) hx)
        (fun j cs i x hj hx => hi' _ _ _ _ (key j cs hj) hx)
       refine ⟨_, Imm.slot hI, fun w' _ => ?_⟩
       have hbb := bounds_sound (P := P) (cap := cap) (len := s.length) hm.glob he true hl hu h0 h1 (by omega) w'
       rw [run_slice_of hT _ _ _ _ _ hbb, if_neg hml, hlen]
       simp [addr_add]
    ·cases h
   ·cases h
  ·cases h
 ·
  rename_i n sz off len
  split at h
  ·rename_i hT
   split at h
   ·rename_i l u hl hu
    split at h
    ·rename_i hc
     simp only [Option.some.injEq] at h; subst h
     obtain ⟨h0, h1, h2⟩ := hc
     simp only [Slot, Val, Cell] at hv
     rcases hv with ⟨g1, rfl, b, rfl⟩ | ⟨b, cap, N, g1, rfl, g3, g4, g5⟩
     ·have e1 : l = 0 := by omega
      have e2 : u = 0 := by omega
      subst e1; subst e2
      refine ⟨.slice b 0 0, by simp only [Slot, Val, Cell]; exact .inl ⟨g1, rfl, b, rfl⟩, fun w' _ => ?_⟩
      have hb := bounds_sound (P := P) (cap := 0) (len := 0) hm.glob he true hl hu h0 h1 (by omega) w'
      rw [run_slice_of hT _ _ _ _ _ hb]
      rfl
     ·by_cases hml : cap = l.toNat
      ·have hz : u.toNat - l.toNat = 0 := by omega
       refine ⟨.slice (some ⟨b, off * sz, none⟩) 0 0, by simp only [Slot, Val, Cell]; exact .inl ⟨by simp [g1], hz, _, rfl⟩, fun w' _ => ?_⟩
       have hbb := bounds_sound (P := P) (cap := cap) (len := len) hm.glob he true hl hu h0 h1 (by omega) w'
       rw [run_slice_of hT _ _ _ _ _ hbb, if_pos hml, hz]
       simp [hml]
      ·refine ⟨.slice (some ⟨b, (off + l.toNat) * sz, none⟩) (u.toNat - l.toNat) (cap - l.toNat), by
        simp only [Slot, Val, Cell]; exact .inr ⟨b, cap - l.toNat, N, g1, rfl, by omega, g4, by
         rw [show off + l.toNat + (cap - l.toNat) = off + cap by omega]; exact g5⟩, fun w' _ => ?_⟩
       have hbb := bounds_sound (P := P) (cap := cap) (len := len) hm.glob he true hl hu h0 h1 (by omega) w'
       rw [run_slice_of hT _ _ _ _ _ hbb, if_neg hml]
       simp [addr_add, Nat.add_mul]
    ·cases h
   ·cases h
  ·cases h
 ·
  rename_i n sz
  split at h
  ·rename_i len sz' sz'' rows hA hlk
   split at h
   ·rename_i hs
    obtain ⟨rfl, rfl, hr⟩ := hs
    split at h
    ·rename_i l u hl hu
     split at h
     ·rename_i hc
      simp only [Option.some.injEq] at h; subst h
      obtain ⟨h0, h1, h2⟩ := hc
      simp only [Slot, Val, Cell] at hv
      obtain ⟨b, g1, rfl⟩ := hv
      obtain ⟨vs, Ty, fz, k1, k2, k3, k4, k5, k6⟩ := hm.rep n _ _ hlk g1
      obtain ⟨e, i, hu', hi', hsz⟩ := arrElem_spec hA
      have hrow : World.row w b = some vs.length := by simp [World.row, World.shape?, k1]
      have hN : (l.toNat + (len - l.toNat)) * sz ≤ vs.length := by
       rw [show l.toNat + (len - l.toNat) = len by omega, ← hr]; exact k4
      by_cases hml : len = l.toNat
      ·have hz : u.toNat - l.toNat = 0 := by omega
       refine ⟨.slice (some ⟨b, 0, none⟩) 0 0, by simp only [Slot, Val, Cell]; exact .inl ⟨by simp [g1], hz, _, rfl⟩, fun w' _ => ?_⟩
       have hbb := bounds_sound (P := P) (cap := len) (len := len) hm.glob he false hl hu h0 h1 h2 w'
       simp [Instr.sliceAt, run_underlying hu', Instr.sureAddr, hbb, sizeOf, typeInfo, hi']
       exact ⟨by simp [hml], hz, by omega⟩
      ·refine ⟨.slice (some ⟨b, l.toNat * sz, none⟩) (u.toNat - l.toNat) (len - l.toNat), by
        simp only [Slot, Val, Cell]; exact .inr ⟨b, len - l.toNat, vs.length, g1, rfl, by omega, hrow, hN⟩, fun w' _ => ?_⟩
       have hbb := bounds_sound (P := P) (cap := len) (len := len) hm.glob he false hl hu h0 h1 h2 w'
       simp [Instr.sliceAt, run_underlying hu', Instr.sureAddr, hbb, sizeOf, typeInfo, hi', hml, hsz, addr_add]
     ·cases h
    ·cases h
   ·cases h
  ·cases h
 ·cases h
theorem bounds3_sound {a : Act} (hg : GlobRep w D.M) (he : EnvRep w D env a.tmps) {lo : Option Operand} {hi mx : Operand} {l h m : Int} {len cap : Nat} (b : Bool)
  (hl : bnd env 0 lo = some l) (hh : bnd env 0 (some hi) = some h) (hm : bnd env 0 (some mx) = some m) (h0 : 0 ≤ l) (h1 : l ≤ h) (h2 : h ≤ m) (h3 : m ≤ cap) (w' : World) :
  (Instr.sliceBounds b len cap (lo.map a.eval) (some (a.eval hi)) (some (a.eval mx))).run P w' = .ok (l.toNat, h.toNat, m.toNat) w' := by
 obtain ⟨km, em⟩ := slot_idx hm (ev_sound hg he mx)
 obtain ⟨kh, eh⟩ := slot_idx hh (ev_sound hg he hi)
 have M : ∀ c, (Instr.sliceBound (.int km m) cap c).run P w' = .ok m.toNat w' := fun c => run_bound_ok km m cap c (by omega) h3
 have H : ∀ c, (Instr.sliceBound (.int kh h) m.toNat c).run P w' = .ok h.toNat w' := fun c => run_bound_ok kh h m.toNat c (by omega) (by omega)
 unfold Instr.sliceBounds
 cases lo with
 | none =>
  simp only [bnd, Option.some.injEq] at hl; subst hl
  simp [em, eh, M, H]
 | some o =>
  obtain ⟨kl, el⟩ := slot_idx hl (ev_sound hg he o)
  have L : ∀ c, (Instr.sliceBound (.int kl l) h.toNat c).run P w' = .ok l.toNat w' := fun c => run_bound_ok kl l h.toNat c h0 (by omega)
  simp [em, eh, el, M, H, L]
theorem run_slice3_of {sz : Nat} (hs : sliceElem P T = some sz) (a : Option Addr) (len cap : Nat) (lo hi mx : Option Value) {l h m : Nat}
  (hb : (Instr.sliceBounds true len cap lo hi mx).run P w = .ok (l, h, m) w) :
  (Instr.sliceAt T (.slice a len cap) lo hi mx).run P w = .ok (.slice (if m = l then a else a.map (·.add (l * sz))) (h - l) (m - l)) w := by
 obtain ⟨e, i, hu, hi', rfl⟩ := sliceElem_spec hs
 simp [Instr.sliceAt, run_underlying hu, Instr.slice, hb, sizeOf, typeInfo, hi']
theorem r_slc3 {a : Act} (hg : GlobRep w D.M) (he : EnvRep w D env a.tmps)
  {T : TypeId} {lo : Option Operand} {hi mx : Operand} {x y : AV} (h : slc3 P T env x lo hi mx = some y) {v : Value} (hv : Slot w D x v) :
  Yields1 P w D (Instr.sliceAt T v (lo.map a.eval) (some (a.eval hi)) (some (a.eval mx))) y := by
 unfold slc3 at h
 split at h
 ·rename_i n sz off len
  split at h
  ·rename_i hT
   split at h
   ·rename_i l u m hl hu hmx
    split at h
    ·rename_i hc
     simp only [Option.some.injEq] at h; subst h
     obtain ⟨h0, h1, h2, h3⟩ := hc
     simp only [Slot, Val, Cell] at hv
     rcases hv with ⟨g1, rfl, b, rfl⟩ | ⟨b, cap, N, g1, rfl, g3, g4, g5⟩
     ·have e1 : l = 0 := by omega
      have e2 : u = 0 := by omega
      have e3 : m = 0 := by omega
      subst e1; subst e2; subst e3
      refine ⟨.slice b 0 0, by simp only [Slot, Val, Cell]; exact .inl ⟨g1, rfl, b, rfl⟩, fun w' _ => ?_⟩
      have hb := bounds3_sound (P := P) (cap := 0) (len := 0) hg he true hl hu hmx h0 h1 h2 (by omega) w'
      rw [run_slice3_of hT _ _ _ _ _ _ hb]
      rfl
     ·by_cases hml : m.toNat = l.toNat
      ·have hz : u.toNat - l.toNat = 0 := by omega
       refine ⟨.slice (some ⟨b, off * sz, none⟩) 0 0, by simp only [Slot, Val, Cell]; exact .inl ⟨by simp [g1], hz, _, rfl⟩, fun w' _ => ?_⟩
       have hbb := bounds3_sound (P := P) (cap := cap) (len := len) hg he true hl hu hmx h0 h1 h2 (by omega) w'
       rw [run_slice3_of hT _ _ _ _ _ _ hbb, if_pos hml, hz]
       simp [hml]
      ·refine ⟨.slice (some ⟨b, (off + l.toNat) * sz, none⟩) (u.toNat - l.toNat) (m.toNat - l.toNat), by
        simp only [Slot, Val, Cell]; exact .inr ⟨b, m.toNat - l.toNat, N, g1, rfl, by omega, g4, Nat.le_trans (Nat.mul_le_mul_right _ (by omega)) g5⟩, fun w' _ => ?_⟩
       have hbb := bounds3_sound (P := P) (cap := cap) (len := len) hg he true hl hu hmx h0 h1 h2 (by omega) w'
       rw [run_slice3_of hT _ _ _ _ _ _ hbb, if_neg hml]
       simp [addr_add, Nat.add_mul]
    ·cases h
   ·cases h
  ·cases h
 ·cases h
end Go.Abs
namespace Go.Abs
open Go.RowKit
variable {P : Program} {D : Names} {v : Value} {w : World} {T : Nat} {n : Int}
theorem r_fieldAddr {T k o n : Nat} {g : Bool} (hf : fieldOf P T k = some (o, g, n)) :
  (∀ cs, Slot w D (.at_ cs) v → Yields1 P w D (Instr.fieldAt T v k) (.at_ (cs.drop o))) ∧
  (∀ m sz i off, Slot w D (.ref m sz i off) v → Yields1 P w D (Instr.fieldAt T v k) (.ref m sz i (off + o))) := by
 obtain ⟨fs, f, i, d, hu, hk, hi, hd, hz, rfl, rfl, hg⟩ := fieldOf_spec hf
 constructor
 ·intro cs hv
  simp only [Slot, Val, Cell] at hv
  cases hv with
  | at_ _ b off fn hb hM hc h1 hh =>
   have hI := Imm.at_ (w := w) (M := D.M) (cs.drop f.offset) b (off + f.offset) (fun i => fn (f.offset + i)) hb hM
    (fun i x hx => by rw [List.getElem?_drop] at hx; have := hc _ _ hx; rwa [← Nat.add_assoc] at this)
    (fun i x hx => by rw [List.getElem?_drop] at hx; exact h1 _ _ hx)
    (fun i x hx => by rw [List.getElem?_drop] at hx; exact hh _ _ hx)
   refine ⟨_, Imm.slot hI, fun w' _ => ?_⟩
   simp [Instr.fieldAt, run_underlying hu, hk, Instr.sureAddr, fieldPlace, sizeOf, typeInfo, hi, hz, addr_add]
 ·intro m sz j off hv
  simp only [Slot, Val, Cell] at hv
  obtain ⟨b, hD, rfl⟩ := hv
  refine ⟨.pointer (some ⟨b, j * sz + (off + f.offset), none⟩), by simp only [Slot, Val, Cell]; exact ⟨b, hD, rfl⟩, fun w' _ => ?_⟩
  simp [Instr.fieldAt, run_underlying hu, hk, Instr.sureAddr, fieldPlace, sizeOf, typeInfo, hi, hz, addr_add, Nat.add_assoc]
theorem slot_agg {l : List AV} (h : Slot w D (.agg l) v) : ∃ vs : List Value, v = .agg vs.toArray ∧ vs.length = l.length ∧
  ∀ (i : Nat) (x : AV), l[i]? = some x → Cell w D x (vs.getD i undef) ∧ (vs.getD i undef).oneCell' = true := by simpa [Slot, Val] using h
theorem Cell.slot {x : AV} (h : Cell w D x v) : Slot w D x v := by
 cases x with
 | agg => simp only [Cell] at h; cases h
 | tup => simp only [Cell] at h; cases h
 | _ => simp only [Slot, Val]; exact h
theorem r_field {T k o n : Nat} {g : Bool} (hf : fieldOf P T k = some (o, g, n)) {cs : List AV} (hv : Slot w D (.agg cs) v) :
  (g = true → o + n ≤ cs.length → Yields1 P w D (Instr.field T v k) (.agg ((cs.drop o).take n))) ∧
  (g = false → ∀ x, cs[o]? = some x → Yields1 P w D (Instr.field T v k) x) := by
 obtain ⟨fs, f, i, d, hu, hk, hi, hd, hz, rfl, rfl, hg⟩ := fieldOf_spec hf
 obtain ⟨vs, rfl, hl, hc⟩ := slot_agg hv
 constructor
 ·intro hgt hle
  rw [hgt] at hg
  refine ⟨.agg ((vs.drop f.offset).take i.size).toArray, ⟨_, rfl, by simp [hl], fun j x hx => ?_⟩, fun w' _ => ?_⟩
  ·rw [List.getElem?_take] at hx
   split at hx
   ·rename_i hj
    rw [List.getElem?_drop] at hx
    have := hc _ _ hx
    simpa [List.getD, List.getElem?_take, List.getElem?_drop, hj] using this
   ·cases hx
  ·have e : (vs.toArray.extract f.offset (f.offset + i.size)) = ((vs.drop f.offset).take i.size).toArray := by simp
   cases d <;> simp at hg <;> simp [Instr.field, run_underlying hu, hk, asAgg, part, Go.isAgg, run_underlying hd, sizeOf, typeInfo, hi]
 ·intro hgf x hx
  rw [hgf] at hg
  have h := hc _ _ hx
  have hlt : f.offset < vs.length := by rw [hl]; exact (List.getElem?_eq_some_iff.1 hx).1
  refine ⟨vs.getD f.offset undef, h.1.slot, fun w' _ => ?_⟩
  cases d <;> simp at hg <;> simp [Instr.field, run_underlying hu, hk, asAgg, part, Go.isAgg, run_underlying hd, List.getElem?_eq_getElem hlt, List.getD]
theorem r_indexAddr_sl {T sz : Nat} (hs : sliceElem P T = some sz) {l : List (List AV)} (hv : Slot w D (.sl sz l) v) (k : IntKind) (h0 : 0 ≤ n) (h1 : n < l.length) :
  Yields1 P w D (Instr.indexAt T v (.int k n)) (.at_ (l.getD n.toNat [])) := by
 obtain ⟨e, i, hu, hi, rfl⟩ := sliceElem_spec hs
 simp only [Slot, Val, Cell] at hv
 cases hv with
 | slnil _ a cap => simp at h1; omega
 | sl _ _ b off cap f hb hM hcap hn hsz hc h1' hi' =>
  have hlt : n.toNat < l.length := by omega
  have hj : l[n.toNat]? = some (l.getD n.toNat []) := by simp [List.getD, List.getElem?_eq_getElem hlt]
  have hI := Imm.at_ (w := w) (M := D.M) (l.getD n.toNat []) b (off + n.toNat * i.size) (fun c => f n.toNat c) hb hM
   (fun c x hx => by have := hc _ _ _ _ hj hx; rwa [← Nat.add_assoc] at this) (fun c x hx => h1' _ _ _ _ hj hx) (fun c x hx => hi' _ _ _ _ hj hx)
  refine ⟨_, Imm.slot hI, fun w' _ => ?_⟩
  simp [Instr.indexAt, asIntOf, run_underlying hu, h0, h1, sizeOf, typeInfo, hi, addr_add]
theorem r_indexAddr_msl {T sz : Nat} (hs : sliceElem P T = some sz) {m off len : Nat} (hv : Slot w D (.msl m sz off len) v) (k : IntKind) (h0 : 0 ≤ n) (h1 : n < len) :
  Yields1 P w D (Instr.indexAt T v (.int k n)) (.ref m sz (off + n.toNat) 0) := by
 obtain ⟨e, i, hu, hi, rfl⟩ := sliceElem_spec hs
 simp only [Slot, Val, Cell] at hv
 rcases hv with ⟨_, rfl, _⟩ | ⟨b, cap, N, g1, rfl, g3, g4, g5⟩
 ·simp at h1; omega
 ·refine ⟨.pointer (some ⟨b, (off + n.toNat) * i.size + 0, none⟩), by simp only [Slot, Val, Cell]; exact ⟨b, g1, rfl⟩, fun w' _ => ?_⟩
  simp [Instr.indexAt, asIntOf, run_underlying hu, h0, h1, sizeOf, typeInfo, hi, addr_add, Nat.add_mul]
theorem r_indexAddr_ref {T sz len : Nat} (hs : arrElem P T = some (len, sz)) {m : Nat} (hv : Slot w D (.ref m sz 0 0) v) (k : IntKind) (h0 : 0 ≤ n) (h1 : n < len) :
  Yields1 P w D (Instr.indexAt T v (.int k n)) (.ref m sz n.toNat 0) := by
 obtain ⟨e, i, hu, hi, rfl⟩ := arrElem_spec hs
 simp only [Slot, Val, Cell] at hv
 obtain ⟨b, g1, rfl⟩ := hv
 refine ⟨.pointer (some ⟨b, n.toNat * i.size + 0, none⟩), by simp only [Slot, Val, Cell]; exact ⟨b, g1, rfl⟩, fun w' _ => ?_⟩
 simp [Instr.indexAt, asIntOf, run_underlying hu, Instr.sureAddr, h0, h1, sizeOf, typeInfo, hi, addr_add]
theorem r_indexAddr_at {T sz len : Nat} (hs : arrElem P T = some (len, sz)) {cs : List AV} (hv : Slot w D (.at_ cs) v) (k : IntKind) (h0 : 0 ≤ n) (h1 : n < len) :
  Yields1 P w D (Instr.indexAt T v (.int k n)) (.at_ ((cs.drop (n.toNat * sz)).take sz)) := by
 obtain ⟨e, i, hu, hi, rfl⟩ := arrElem_spec hs
 simp only [Slot, Val, Cell] at hv
 cases hv with
 | at_ _ b off f hb hM hc h1' hi' =>
  have hx' : ∀ (j : Nat) (x : AV), ((cs.drop (n.toNat * i.size)).take i.size)[j]? = some x → cs[n.toNat * i.size + j]? = some x := fun j x hx => by
   rw [List.getElem?_take] at hx
   split at hx
   ·rw [List.getElem?_drop] at hx; exact hx
   ·cases hx
  refine ⟨.pointer (some ⟨b, off + n.toNat * i.size, none⟩), (Imm.at_ (w := w) (M := D.M) _ b (off + n.toNat * i.size) (fun j => f (n.toNat * i.size + j)) hb hM
   (fun j x hx => by have := hc _ _ (hx' j x hx); rwa [← Nat.add_assoc] at this) (fun j x hx => h1' _ _ (hx' j x hx)) (fun j x hx => hi' _ _ (hx' j x hx))).slot, fun w' _ => ?_⟩
  simp [Instr.indexAt, asIntOf, run_underlying hu, Instr.sureAddr, h0, h1, sizeOf, typeInfo, hi, addr_add]
theorem r_index_str (hs : strTy P T = true) {s : List UInt8} (hv : Slot w D (.str s) v) (k : IntKind) (h0 : 0 ≤ n) (h1 : n < s.length) :
  Yields1 P w D (Instr.index T v (.int k n)) (.int .u8 (s.getD n.toNat 0).toNat) := by
 obtain ⟨rfl, _⟩ := slot_str hv
 have hlt : n.toNat < s.length := by omega
 refine ⟨_, slot_mk_int _ _, fun w' _ => ?_⟩
 have hb : (⟨s.toArray⟩ : ByteArray)[n.toNat]? = some s[n.toNat] := by
  rw [ByteArray.getElem?_lt' _ _ (by simpa [ByteArray.size] using hlt)]
  simp [ByteArray.getElem_eq_getElem_data]
 simp only [Instr.index, Sem.run_bind, asIntOf, Sem.run_pure, Result.andThen_ok, run_underlying (strTy_spec hs), h0, if_true, hb]
 simp [List.getD, List.getElem?_eq_getElem hlt]
theorem r_load {w0 w : World} {M0 : Nat → Prop} {objs : List (Nat × Obj)} (hm : Mem w0 M0 objs D w) {T n : Nat} {g : Bool} (ht : cellTy P T = some (g, n)) {x : AV} :
  (∀ cs, Slot w D (.at_ cs) v → ldCells g n cs = some x → Yields1 P w D (Instr.loadAt T v) x) ∧
  (∀ m sz i off, Slot w D (.ref m sz i off) v → (cellsAt objs m sz i off).bind (ldCells g n) = some x → Yields1 P w D (Instr.loadAt T v) x) := by
 constructor
 ·intro cs hv hx
  simp only [Slot, Val, Cell] at hv
  obtain ⟨b, o, rfl, hrow, _⟩ := row_at hv
  obtain ⟨u, h1, h2⟩ := hrow.load (P := P) ht hx
  exact ⟨u, h1, fun w' hw' => by simpa [Instr.loadAt, Instr.sureAddr] using h2 w' hw'⟩
 ·intro m sz i off hv hx
  simp only [Slot, Val, Cell] at hv
  obtain ⟨b, hD, rfl⟩ := hv
  obtain ⟨cs, hcs, hx⟩ := Option.bind_eq_some_iff.1 hx
  obtain ⟨u, h1, h2⟩ := (row_obj hm hcs hD).load (P := P) ht hx
  exact ⟨u, h1, fun w' hw' => by simpa [Instr.loadAt, Instr.sureAddr] using h2 w' hw'⟩
theorem r_uop {op : UnOp} {x y : AV} (h : uop op x = some y) (hv : Slot w D x v) : Yields1 P w D (Op.unary op v) y := by
 unfold uop at h
 split at h
 ·rw [slot_bool hv]; simp only [Option.some.injEq] at h; subst h
  exact ⟨_, slot_mk_bool _, fun w' _ => by simp [Op.unary]⟩
 ·rw [slot_int hv]; simp only [Option.some.injEq] at h; subst h
  exact ⟨_, slot_mk_int _ _, fun w' _ => by simp [Op.unary, Op.intArith]⟩
 ·rw [slot_int hv]; simp only [ibin, Option.some.injEq] at h; subst h
  exact ⟨_, slot_mk_int _ _, fun w' _ => by simp [Op.unary, Op.intBits]⟩
 ·cases h
theorem decB_spec : ∀ (l : List (List AV)) (bs : List UInt8), decB l = some bs → bs.length = l.length ∧ ∀ (j : Nat) (cs : List AV), l[j]? = some cs → ∃ n : Int, cs = [.int .u8 n] ∧ bs[j]? = some (UInt8.ofNat n.toNat)
 | [], bs, h => by simp [decB] at h; subst h; simp
 | cs :: l, bs, h => by
  unfold decB at h
  split at h
  ·rename_i e; cases e
  ·rename_i n r e
   cases e
   obtain ⟨bs', h', rfl⟩ := Option.map_eq_some_iff.1 h
   obtain ⟨ih1, ih2⟩ := decB_spec l bs' h'
   refine ⟨by simp [ih1], fun j cs hj => ?_⟩
   cases j with
   | zero => simp at hj; exact ⟨n, hj.symm, rfl⟩
   | succ j => simp at hj; simpa using ih2 j cs hj
  ·cases h
theorem byteSl_spec {T : TypeId} (h : byteSl P T = true) : ∃ e, P.underlying T = some (.slice e) ∧ P.underlying e = some (.int .u8) := by
 unfold byteSl at h
 split at h
 ·rename_i e hu
  split at h
  ·rename_i h2; exact ⟨e, hu, h2⟩
  ·cases h
 ·cases h
theorem foldl_push : ∀ (ns : List Int) (s : ByteArray), (ns.foldl (fun r n => r.push (UInt8.ofNat n.toNat)) s).data.toList = s.data.toList ++ ns.map fun n => UInt8.ofNat n.toNat
 | [], s => by simp
 | n :: ns, s => by
  rw [List.foldl_cons, foldl_push ns]
  simp
theorem r_bytes {S T : TypeId} (hS : byteSl P S = true) (hT : strTy P T = true) {l : List (List AV)} {bs : List UInt8} (hd : decB l = some bs) (hv : SliceRep w D 1 l v) :
  Yields1 P w D (convert S T v) (.str bs) := by
 obtain ⟨e, hu, he⟩ := byteSl_spec hS
 obtain ⟨hlen, hj⟩ := decB_spec l bs hd
 obtain ⟨a, cap, rfl, hcap, hlim, hcase⟩ := hv
 refine ⟨_, slot_mk_str bs (by omega), fun w' hw' => ?_⟩
 rw [run_convert_bytes_string w' S T e a l.length cap hu he (strTy_spec hT)]
 rcases hcase with rfl | ⟨b, off, rfl, hb, hsz, f, hf⟩
 ·have : bs = [] := List.eq_nil_of_length_eq_zero (by simpa using hlen)
  subst this
  cases a with
  | none => simp [Conv.bytesToString]; rfl
  | some a => simp [Conv.bytesToString, loadCells, loadCellsFrom]; rfl
 ·let ns : List Int := l.map fun cs => match cs with | [.int _ n] => n | _ => 0
  have hns : ∀ (j : Nat) (cs : List AV), l[j]? = some cs → w.cell? ⟨b, off + j, none⟩ = some (.int .u8 (ns.getD j 0)) ∧ bs[j]? = some (UInt8.ofNat (ns.getD j 0).toNat) := by
   intro j cs hjc
   obtain ⟨n, rfl, hbj⟩ := hj j cs hjc
   have h := hf j _ 0 _ hjc rfl
   have hi := h.2.2
   have hn : ns.getD j 0 = n := by simp [ns, List.getD, List.getElem?_map, hjc]
   rw [hn]
   refine ⟨?_, hbj⟩
   have h1 := h.1
   simp only [Nat.mul_one, Nat.add_zero] at h1
   rw [h1]
   generalize f j 0 = u at hi
   cases hi
   rfl
  have hload : (loadCells ⟨b, off, none⟩ l.length).run P w' = .ok (ns.map (Value.int .u8)).toArray w' := by
   rw [run_loadCells (P := P) w' ⟨b, off, none⟩ l.length (fun j => .int .u8 (ns.getD j 0)) (fun j hjl => by
    rw [addr_add, below_cell hw' hb]
    exact (hns j _ (List.getElem?_eq_getElem hjl)).1)]
   congr 2
   apply List.ext_getElem?
   intro j
   by_cases hjl : j < l.length
   ·have : j < ns.length := by simp [ns, hjl]
    simp [hjl, List.getD, List.getElem?_eq_getElem this]
   ·have : ¬ j < ns.length := by simp [ns]; omega
    simp [hjl, List.getElem?_eq_none (Nat.le_of_not_lt this)]
  rw [run_bytesToString w' _ _ _ ns hload]
  congr 2
  apply ByteArray.ext
  apply Array.ext'
  rw [foldl_push]
  simp only [ByteArray.data_empty, List.nil_append]
  apply List.ext_getElem?
  intro j
  by_cases hjl : j < l.length
  ·have h := (hns j _ (List.getElem?_eq_getElem hjl)).2
   have h2 : j < ns.length := by simp [ns, hjl]
   rw [List.getElem?_map, List.getElem?_eq_getElem h2]
   simp only [List.getD, List.getElem?_eq_getElem h2] at h
   simpa using h.symm
  ·have h2 : ¬ j < ns.length := by simp [ns]; omega
   rw [List.getElem?_eq_none (by simp; omega), List.getElem?_eq_none (by simp [hlen]; omega)]
end Go.Abs
namespace Go.Abs
open Go.RowKit
theorem eqL_append : ∀ (k1 k2 : List TypeDesc) (a b : List AV) (r : Bool), eqL (k1 ++ k2) a b = some r →
  ∃ r1 r2, eqL k1 (a.take k1.length) (b.take k1.length) = some r1 ∧ eqL k2 (a.drop k1.length) (b.drop k1.length) = some r2 ∧ r = (r1 && r2)
 | [], k2, a, b, r, h => ⟨true, r, by simp [eqL], by simpa using h, by simp⟩
 | k :: k1, k2, [], b, r, h => by simp [eqL] at h
 | k :: k1, k2, x :: a, [], r, h => by simp [eqL] at h
 | k :: k1, k2, x :: a, y :: b, r, h => by
  simp only [List.cons_append, eqL] at h
  split at h
  ·rename_i p q hp hq
   simp only [Option.some.injEq] at h
   obtain ⟨r1, r2, h1, h2, h3⟩ := eqL_append k1 k2 a b q hq
   refine ⟨p && r1, r2, ?_, by simpa using h2, by rw [← h, h3, Bool.and_assoc]⟩
   simp only [List.length_cons, List.take_succ_cons, eqL, hp, h1]
  ·cases h
theorem eqL_length : ∀ (k : List TypeDesc) (a b : List AV) (r : Bool), eqL k a b = some r → a.length = k.length ∧ b.length = k.length
 | [], [], [], _, _ => by simp
 | [], _ :: _, _, _, h => by simp [eqL] at h
 | [], [], _ :: _, _, h => by simp [eqL] at h
 | _ :: _, [], _, _, h => by simp [eqL] at h
 | _ :: _, _ :: _, [], _, h => by simp [eqL] at h
 | k :: ks, x :: xs, y :: ys, r, h => by
  simp only [eqL] at h
  split at h
  ·rename_i p q hp hq
   have := eqL_length ks xs ys q hq
   simp [this]
  ·cases h
def CellsRep (w : World) (D : Names) (a : List AV) (vs : List Value) : Prop := vs.length = a.length ∧ ∀ (i : Nat) (x : AV), a[i]? = some x → Cell w D x (vs.getD i undef)
theorem CellsRep.take {w : World} {D : Names} {a : List AV} {vs : List Value} (h : CellsRep w D a vs) (n : Nat) : CellsRep w D (a.take n) (vs.take n) := by
 refine ⟨by simp [h.1], fun i x hx => ?_⟩
 rw [List.getElem?_take] at hx
 split at hx
 ·rename_i hi
  have := h.2 i x hx
  simpa [List.getD, List.getElem?_take, hi] using this
 ·cases hx
theorem CellsRep.drop {w : World} {D : Names} {a : List AV} {vs : List Value} (h : CellsRep w D a vs) (n : Nat) : CellsRep w D (a.drop n) (vs.drop n) := by
 refine ⟨by simp [h.1], fun i x hx => ?_⟩
 rw [List.getElem?_drop] at hx
 have := h.2 _ x hx
 simpa [List.getD, List.getElem?_drop] using this
theorem eqT_sound {P : Program} {w : World} {D : Names} {d : TypeDesc} {x y : AV} {r : Bool} (h : eqT d x y = some r) {T : TypeId} (hu : P.underlying T = some d) {v u : Value} (hv : Cell w D x v) (hw : Cell w D y u)
  (e : Nat) (w' : World) : (Op.equalIn (e + 1) T v u).run P w' = .ok r w' := by
 unfold eqT at h
 split at h
 ·have h1 := slot_bool hv.slot; have h2 := slot_bool hw.slot; subst h1; subst h2
  simp only [Option.some.injEq] at h; subst h
  simp [Op.equalIn, run_underlying hu]
 ·have h1 := slot_int hv.slot; have h2 := slot_int hw.slot; subst h1; subst h2
  split at h
  ·rename_i hk
   simp only [Option.some.injEq] at h; subst h
   simp [Op.equalIn, run_underlying hu, hk]
  ·cases h
 ·obtain ⟨h1, _⟩ := slot_str hv.slot; obtain ⟨h2, _⟩ := slot_str hw.slot; subst h1; subst h2
  simp only [Option.some.injEq] at h; subst h
  simp [Op.equalIn, run_underlying hu, beq_toListBytes]
 ·cases h
def mkV (P : Program) (T : TypeId) (vs : List Value) : Value := match P.underlying T with | some (.struct _) => .agg vs.toArray | _ => vs.getD 0 undef
theorem eqFields_sound (P : Program) {w : World} {D : Names} (rec : TypeId → Option (List TypeDesc)) (e : Nat)
  (ih : ∀ T ks, rec T = some ks → (∀ d, P.underlying T = some d → (leafTy d = true ∧ ks.length = 1) ∨ ∃ fs, d = .struct fs) ∧ ∀ a b r vs ws, eqL ks a b = some r → CellsRep w D a vs → CellsRep w D b ws → ∀ w', (Op.equalIn e T (mkV P T vs) (mkV P T ws)).run P w' = .ok r w')
  (hund : ∀ T ks, rec T = some ks → ∃ d, P.underlying T = some d) :
  ∀ (fs : List Field) (acc ks : List TypeDesc), eqFields P rec fs acc = some ks → ∃ rest, ks = acc ++ rest ∧ ∀ a b r (vs ws : List Value), eqL rest (a.drop acc.length) (b.drop acc.length) = some r →
   CellsRep w D a vs → CellsRep w D b ws → ∀ w', (Op.eqFields e vs.toArray ws.toArray fs).run P w' = .ok r w'
 | [], acc, ks, h => by
  simp only [eqFields, Option.some.injEq] at h
  refine ⟨[], by simp [h], fun a b r vs ws hr _ _ w' => ?_⟩
  have hl := eqL_length _ _ _ _ hr
  have h1 : a.drop acc.length = [] := List.eq_nil_of_length_eq_zero (by simpa using hl.1)
  have h2 : b.drop acc.length = [] := List.eq_nil_of_length_eq_zero (by simpa using hl.2)
  rw [h1, h2] at hr
  simp [eqL] at hr
  subst hr
  simp [Op.eqFields]
 | f :: fs, acc, ks, h => by
  simp only [eqFields] at h
  split at h
  ·cases h
  ·rename_i hne
   simp only [not_or, Decidable.not_not] at hne
   obtain ⟨hname, hoff⟩ := hne
   split at h
   ·rename_i l i hl hi
    split at h
    ·rename_i hsz
     obtain ⟨rest, hks, hrest⟩ := eqFields_sound P rec e ih hund fs (acc ++ l) ks h
     refine ⟨l ++ rest, by rw [hks, List.append_assoc], fun a b r vs ws hr ha hb w' => ?_⟩
     obtain ⟨r1, r2, h1, h2, h3⟩ := eqL_append l rest _ _ r hr
     have h2' : eqL rest (a.drop (acc ++ l).length) (b.drop (acc ++ l).length) = some r2 := by
      rw [List.drop_drop, List.drop_drop] at h2
      rw [List.length_append]; exact h2
     have hcont := hrest a b r2 vs ws h2' ha hb
     obtain ⟨hform, hih⟩ := ih f.type l hl
     have hv := hih _ _ r1 _ _ h1 ((ha.drop acc.length).take l.length) ((hb.drop acc.length).take l.length)
     obtain ⟨dsc, hu⟩ := hund _ _ hl
     have hlen := eqL_length _ _ _ _ hr
     have e1 : ∀ (us : List Value) (c : List AV), CellsRep w D c us → (c.drop acc.length).length = (l ++ rest).length → ∀ w', (part f.type us.toArray f.offset).run P w' = .ok (mkV P f.type ((us.drop acc.length).take l.length)) w' := by
      intro us c hc hcl w'
      rcases hform _ hu with ⟨hleaf, hl1⟩ | ⟨gs, rfl⟩
      ·have hlt : acc.length < us.length := by
        rw [hc.1]; simp at hcl; omega
       have hx : us.toArray[f.offset]? = some (us.getD acc.length undef) := by
        rw [hoff]; simp [List.getD, List.getElem?_eq_getElem hlt]
       have hget : ((us.drop acc.length).take l.length).getD 0 undef = us.getD acc.length undef := by
        rw [hl1]; simp [List.getD, List.getElem?_drop]
       cases dsc <;> simp [leafTy] at hleaf <;> simp [part, Go.isAgg, run_underlying hu, mkV, hu] <;> simp at hx <;> simp [hx] <;> simpa using hget.symm
      ·simp [part, Go.isAgg, run_underlying hu, sizeOf, typeInfo, hi, mkV, hu, hoff, hsz]
     simp only [Op.eqFields, hname, ne_eq, not_false_eq_true, if_true, Sem.run_bind, e1 vs a ha (by rw [hlen.1]), e1 ws b hb (by rw [hlen.2]), Result.andThen_ok, hv]
     cases r1 with
     | false => simp [h3]
     | true => simp only [Bool.not_true, Bool.false_eq_true, if_false]; rw [hcont]; simp [h3]
    ·cases h
   ·cases h
theorem eqPlan_und {P : Program} : ∀ {d : Nat} {T : TypeId} {ks : List TypeDesc}, eqPlan P d T = some ks → ∃ t, P.underlying T = some t ∧ ((leafTy t = true ∧ ks = [t]) ∨ ∃ fs, t = .struct fs)
 | 0, _, _, h => by simp [eqPlan] at h
 | d + 1, T, ks, h => by
  simp only [eqPlan] at h
  split at h
  ·rename_i fs hu; exact ⟨_, hu, .inr ⟨fs, rfl⟩⟩
  ·rename_i t _ hu
   split at h
   ·rename_i hl; simp only [Option.some.injEq] at h; exact ⟨t, hu, .inl ⟨hl, h.symm⟩⟩
   ·cases h
  ·cases h
theorem eqPlan_sound {P : Program} {w : World} {D : Names} : ∀ (d : Nat) (T : TypeId) (ks : List TypeDesc), eqPlan P d T = some ks → ∀ (a b : List AV) (r : Bool) (vs ws : List Value), eqL ks a b = some r →
  CellsRep w D a vs → CellsRep w D b ws → ∀ (e : Nat), d ≤ e → ∀ w', (Op.equalIn e T (mkV P T vs) (mkV P T ws)).run P w' = .ok r w'
 | 0, _, _, h => by simp [eqPlan] at h
 | d + 1, T, ks, h => by
  intro a b r vs ws hr ha hb e he w'
  obtain ⟨e, rfl⟩ : ∃ e', e = e' + 1 := ⟨e - 1, by omega⟩
  obtain ⟨t, hu, hcase⟩ := eqPlan_und h
  rcases hcase with ⟨hl, rfl⟩ | ⟨fs, rfl⟩
  ·have hlen := eqL_length _ _ _ _ hr
   match a, b, hlen, hr, ha, hb with
   | [x], [y], _, hr, ha, hb =>
    simp only [eqL] at hr
    split at hr
    ·rename_i p q hp hq
     simp only [Option.some.injEq] at hr hq
     subst hq; simp only [Bool.and_true] at hr; subst hr
     have hx := ha.2 0 x rfl
     have hy := hb.2 0 y rfl
     have hm : ∀ us : List Value, mkV P T us = us.getD 0 undef := by
      intro us; unfold mkV; rw [hu]; cases t <;> simp_all [leafTy]
     rw [hm, hm]
     exact eqT_sound hp hu hx hy e w'
    ·cases hr
  ·simp only [eqPlan, hu] at h
   split at h
   ·cases h
   ·rename_i hst
    obtain ⟨rest, hks, hrest⟩ := eqFields_sound P (w := w) (D := D) (eqPlan P d) e
     (fun T ks hk => ⟨fun dd hd => by
      obtain ⟨t', hu', hc'⟩ := eqPlan_und hk
      rw [hu'] at hd; cases hd
      rcases hc' with ⟨h1, h2⟩ | h2
      ·exact .inl ⟨h1, by simp [h2]⟩
      ·exact .inr h2, fun a b r vs ws hr ha hb => eqPlan_sound d T ks hk a b r vs ws hr ha hb e (by omega)⟩)
     (fun T ks hk => by obtain ⟨t', hu', _⟩ := eqPlan_und hk; exact ⟨t', hu'⟩) fs.toList [] ks h
    simp only [List.nil_append] at hks
    subst hks
    have hF : P.fieldsOf T = fs := by simp [Program.fieldsOf, hu]
    have := run_equalIn_struct (P := P) w' e T vs.toArray ws.toArray (by rw [hF]; exact hu) (by simpa using hst)
    simp only [mkV, hu]
    rw [this, hF]
    exact hrest a b r vs ws (by simpa using hr) ha hb w'
theorem r_bop {P : Program} {w : World} {D : Names} {T : TypeId} {op : BinOp} {x y z : AV} (h : bop P T op x y = some z) {v u : Value} (hv : Slot w D x v) (hu : Slot w D y u) (X Y : Operand) :
  Yields1 P w D (do eqGuard op T X Y v u; binOp op T v u) z := by
 unfold bop at h
 split at h
 ·rename_i k a k' b
  rw [slot_int hv, slot_int hu]
  split at h
  ·rename_i hk
   obtain ⟨r, h1, h2⟩ := ibin_sound (P := P) hk h T X Y w D
   exact ⟨r, h1, fun w' _ => h2 w'⟩
  ·cases h
 ·rw [(slot_str hv).1, (slot_str hu).1]
  obtain ⟨r, h1, h2⟩ := sbin_sound (P := P) h T X Y w D
  exact ⟨r, h1, fun w' _ => h2 w'⟩
 ·rw [slot_bool hv, slot_bool hu]
  split at h
  ·rename_i a b hT
   have heq : ∀ w', (Op.equal T (.bool a) (.bool b)).run P w' = .ok (a == b) w' := fun w' => run_equalIn_bool' w' 9999 T a b (boolTy_spec hT)
   split at h
   ·simp only [Option.some.injEq] at h; subst h
    exact ⟨_, slot_mk_bool _, fun w' _ => by simp [run_eqGuard_bool, binOp, heq]⟩
   ·simp only [Option.some.injEq] at h; subst h
    exact ⟨_, slot_mk_bool _, fun w' _ => by simp [run_eqGuard_bool, binOp, heq]⟩
   ·cases h
  ·cases h
 ·rename_i a b
  obtain ⟨vs, rfl, hl1, hc1⟩ := slot_agg hv
  obtain ⟨ws, rfl, hl2, hc2⟩ := slot_agg hu
  have ha : CellsRep w D a vs := ⟨hl1, fun i x hx => (hc1 i x hx).1⟩
  have hb : CellsRep w D b ws := ⟨hl2, fun i x hx => (hc2 i x hx).1⟩
  have key : ∀ r, eqAgg P T a b = some r → (∀ w', (Op.equal T (.agg vs.toArray) (.agg ws.toArray)).run P w' = .ok r w') ∧
    (∀ op w', (eqGuard op T X Y (.agg vs.toArray) (.agg ws.toArray)).run P w' = .ok () w') := by
   intro r hr
   unfold eqAgg at hr
   split at hr
   ·rename_i fs hus
    split at hr
    ·rename_i hg
     split at hr
     ·rename_i ks hks
      have := eqPlan_sound (w := w) (D := D) 20 T ks hks a b r vs ws hr ha hb Op.maxDepth (by decide)
      simp only [mkV, hus] at this
      refine ⟨this, fun op w' => ?_⟩
      unfold eqGuard
      cases op <;> simp [hg]
     ·cases hr
    ·cases hr
   ·cases hr
  split at h
  ·obtain ⟨r, hr, rfl⟩ := Option.map_eq_some_iff.1 h
   obtain ⟨k1, k2⟩ := key r hr
   exact ⟨_, slot_mk_bool _, fun w' _ => by simp [k2, binOp, k1]⟩
  ·obtain ⟨r, hr, rfl⟩ := Option.map_eq_some_iff.1 h
   obtain ⟨k1, k2⟩ := key r hr
   exact ⟨_, slot_mk_bool _, fun w' _ => by simp [k2, binOp, k1]⟩
  ·cases h
 ·cases h
theorem r_cvt {P : Program} {w0 w : World} {M0 : Nat → Prop} {D : Names} {objs : List (Nat × Obj)} (hm : Mem w0 M0 objs D w) {S T : TypeId} {x y : AV} (h : cvt P S T objs x = some y) {v : Value} (hv : Slot w D x v) :
  Yields1 P w D (convert S T v) y := by
 unfold cvt at h
 split at h
 ·rename_i k n
  split at h
  ·rename_i hS
   obtain ⟨s, hs⟩ := Option.isSome_iff_exists.1 hS
   obtain ⟨k', hk, rfl⟩ := Option.map_eq_some_iff.1 h
   rw [slot_int hv]
   refine ⟨_, slot_mk_int _ _, fun w' _ => ?_⟩
   simp only [convert, Sem.run_bind, run_underlying hs, run_underlying (intTy_spec hk), Result.andThen_ok]
   cases s <;> simp [Conv.intToInt]
  ·cases h
 ·rename_i s
  split at h
  ·rename_i hc
   simp only [Bool.and_eq_true] at hc
   obtain ⟨d, hd⟩ := Option.isSome_iff_exists.1 hc.1
   simp only [Option.some.injEq] at h; subst h
   obtain ⟨rfl, hl⟩ := slot_str hv
   refine ⟨_, slot_mk_str _ hl, fun w' _ => ?_⟩
   simp only [convert, Sem.run_bind, run_underlying hd, run_underlying (strTy_spec hc.2), Result.andThen_ok]
   cases d <;> simp
  ·cases h
 ·split at h
  ·rename_i hc
   simp only [Bool.and_eq_true] at hc
   obtain ⟨bs, hb, rfl⟩ := Option.map_eq_some_iff.1 h
   obtain ⟨l, hl, hd⟩ := Option.bind_eq_some_iff.1 hb
   exact r_bytes hc.1 hc.2 hd (viewSl_sound hm hl hv)
  ·cases h
theorem r_len {P : Program} {w : World} {D : Names} {T ty : TypeId} {x y : AV} (h : lenOf P T x = some y) {v : Value} (hv : Slot w D x v) : Yields1 P w D (Builtin.len_ #[T] ty #[v]) y := by
 unfold lenOf at h
 split at h
 ·rename_i s
  split at h
  ·rename_i hT
   simp only [Option.some.injEq] at h; subst h
   obtain ⟨rfl, _⟩ := slot_str hv
   have hz : (⟨s.toArray⟩ : ByteArray).size = s.length := by simp [ByteArray.size]
   exact ⟨_, slot_mk_int _ _, fun w' _ => by simp [Builtin.len_, run_underlying (strTy_spec hT), goInt, hz]⟩
  ·cases h
 ·split at h
  ·rename_i hT
   obtain ⟨sz, hs⟩ := Option.isSome_iff_exists.1 hT
   obtain ⟨e, i, hu, _, _⟩ := sliceElem_spec hs
   simp only [Option.some.injEq] at h; subst h
   refine ⟨_, slot_mk_int _ _, fun w' _ => ?_⟩
   simp only [Slot, Val, Cell] at hv
   cases hv <;> simp [Builtin.len_, run_underlying hu, goInt]
  ·cases h
 ·split at h
  ·rename_i hT
   obtain ⟨sz, hs⟩ := Option.isSome_iff_exists.1 hT
   obtain ⟨e, i, hu, _, _⟩ := sliceElem_spec hs
   simp only [Option.some.injEq] at h; subst h
   refine ⟨_, slot_mk_int _ _, fun w' _ => ?_⟩
   simp only [Slot, Val, Cell] at hv
   rcases hv with ⟨_, rfl, a, rfl⟩ | ⟨b, cap, N, g1, rfl, _⟩ <;> simp [Builtin.len_, run_underlying hu, goInt]
  ·cases h
 ·split at h
  ·rename_i hT
   obtain ⟨sz, hs⟩ := Option.isSome_iff_exists.1 hT
   obtain ⟨e, i, hu, _, _⟩ := sliceElem_spec hs
   simp only [Option.some.injEq] at h; subst h
   rw [slot_nsl hv]
   exact ⟨_, slot_mk_int _ _, fun w' _ => by simp [Builtin.len_, run_underlying hu, goInt]⟩
  ·cases h
 ·cases h
theorem plainN_one {w : World} {D : Names} {x : AV} {v : Value} (h : Cell w D x v) (hp : plainN x = true) : v.oneCell' = true := by
 cases x with
 | msl n sz off len => rcases h with ⟨_, _, a, rfl⟩ | ⟨b, cap, N, _, rfl, _⟩ <;> rfl
 | ref n sz i off => obtain ⟨b, _, rfl⟩ := h; rfl
 | any => simp [plainN] at hp
 | und => simp [plainN] at hp
 | cst u => simp only [Cell] at h; cases h; exact hp
 | ifc => simp [plainN] at hp
 | wrp f ns =>
  obtain ⟨bs, _, _, rfl⟩ := h
  obtain ⟨f, t⟩ := f
  cases f with
  | none => rfl
  | some g => cases t <;> rfl
 | agg => simp [plainN] at hp
 | tup => simp [plainN] at hp
 | _ => simp only [Cell] at h; cases h <;> rfl
theorem cells_one {v : Value} (h : v.oneCell' = true) : v.cells = #[v] := by
 cases v <;> first | rfl | (simp [Value.oneCell'] at h)
def CellsOne (w : World) (D : Names) (cs : List AV) (vs : List Value) : Prop := vs.length = cs.length ∧ ∀ (i : Nat) (x : AV), cs[i]? = some x → Cell w D x (vs.getD i undef) ∧ (vs.getD i undef).oneCell' = true
theorem cellsOf_sound {w : World} {D : Names} {x : AV} {v : Value} {cs : List AV} (h : Slot w D x v) (hc : cellsOf x = some cs) : ∃ vs : List Value, v.cells = vs.toArray ∧ CellsOne w D cs vs := by
 have key : plainN x = true → cs = [x] → ∃ vs : List Value, v.cells = vs.toArray ∧ CellsOne w D cs vs := by
  intro hp he
  subst he
  have hcell : Cell w D x v := by
   cases x <;> first | (simp only [Slot, Val] at h; exact h) | (simp [plainN] at hp)
  have h1 := plainN_one hcell hp
  refine ⟨[v], cells_one h1, rfl, fun i y hy => ?_⟩
  cases i with
  | zero => simp at hy; subst hy; exact ⟨hcell, h1⟩
  | succ i => simp at hy
 cases x with
 | agg l =>
  simp only [cellsOf, Option.some.injEq] at hc; subst hc
  obtain ⟨vs, rfl, h1, h2⟩ := slot_agg h
  exact ⟨vs, rfl, h1, h2⟩
 | _ =>
  simp only [cellsOf] at hc
  split at hc
  ·rename_i hp
   simp only [Option.some.injEq] at hc
   exact key hp hc.symm
  ·cases hc
theorem foldl_set (off : Nat) : ∀ (c : List Value) (k : Nat) (cells : Array Value), off + k + c.length ≤ cells.size →
  ((c.zipIdx k).foldl (fun (cs : Array Value) (x : Value × Nat) => cs.setIfInBounds (off + x.2) x.1) cells).toList = cells.toList.take (off + k) ++ (c ++ cells.toList.drop (off + k + c.length))
 | [], k, cells, _ => by simp
 | x :: c, k, cells, h => by
  simp only [List.zipIdx_cons, List.foldl_cons]
  rw [foldl_set off c (k + 1) _ (by simp at h ⊢; omega)]
  simp only [List.length_cons] at h
  have hlt : off + k < cells.toList.length := by simp; omega
  simp only [Array.toList_setIfInBounds]
  have e1 : (cells.toList.set (off + k) x).take (off + (k + 1)) = cells.toList.take (off + k) ++ [x] := by
   rw [← Nat.add_assoc, List.take_succ_eq_append_getElem (by simpa using hlt), List.take_set_of_le (Nat.le_refl _)]
   simp
  have e2 : (cells.toList.set (off + k) x).drop (off + (k + 1) + c.length) = cells.toList.drop (off + k + (x :: c).length) := by
   rw [List.drop_set_of_lt (by omega)]
   simp only [List.length_cons]
   congr 1
   omega
  rw [e1, e2]
  simp [List.append_assoc]
theorem CellsOne.append {w : World} {D : Names} {a b : List AV} {vs us : List Value} (h : CellsOne w D a vs) (k : CellsOne w D b us) : CellsOne w D (a ++ b) (vs ++ us) := by
 refine ⟨by simp [h.1, k.1], fun i x hx => ?_⟩
 rw [List.getElem?_append] at hx
 split at hx
 ·rename_i hi
  have := h.2 i x hx
  simpa [List.getD, List.getElem?_append, h.1, hi] using this
 ·rename_i hi
  have := k.2 _ x hx
  simpa [List.getD, List.getElem?_append, h.1, hi] using this
theorem CellsOne.take {w : World} {D : Names} {a : List AV} {vs : List Value} (h : CellsOne w D a vs) (n : Nat) : CellsOne w D (a.take n) (vs.take n) := by
 refine ⟨by simp [h.1], fun i x hx => ?_⟩
 rw [List.getElem?_take] at hx
 split at hx
 ·rename_i hi
  have := h.2 i x hx
  simpa [List.getD, List.getElem?_take, hi] using this
 ·cases hx
theorem CellsOne.drop {w : World} {D : Names} {a : List AV} {vs : List Value} (h : CellsOne w D a vs) (n : Nat) : CellsOne w D (a.drop n) (vs.drop n) := by
 refine ⟨by simp [h.1], fun i x hx => ?_⟩
 rw [List.getElem?_drop] at hx
 have := h.2 _ x hx
 simpa [List.getD, List.getElem?_drop] using this
theorem fillA_sound {w : World} {D : Names} {env : List AV} {a : Act} (hg : GlobRep w D.M) (he : EnvRep w D env a.tmps) (pl : List (Nat × Nat)) (place : Nat → Option (Nat × Nat)) (hpl : ∀ i, place i = pl[i]?) :
  ∀ (parts : List (Nat × Operand)) (cells : List AV) (vs : List Value) (r : List AV), CellsOne w D cells vs → fillA pl cells (parts.map fun p => (p.1, ev env p.2)) = some r →
   ∃ us, Instr.fill place vs.toArray (parts.map fun p => (p.1, a.eval p.2)) = some us.toArray ∧ CellsOne w D r us
 | [], cells, vs, r, hc, h => by simp [fillA] at h; subst h; exact ⟨vs, rfl, hc⟩
 | (i, x) :: rest, cells, vs, r, hc, h => by
  simp only [List.map_cons, fillA] at h
  split at h
  ·rename_i off n cs hp hcs
   split at h
   ·rename_i hle
    obtain ⟨us, hus, hone⟩ := cellsOf_sound (ev_sound hg he x) hcs
    have hlen : us.length = n := by rw [hone.1]; exact hle.1
    have hv : vs.length = cells.length := hc.1
    have hnew : CellsOne w D (cells.take off ++ (cs ++ cells.drop (off + n))) (vs.take off ++ (us ++ vs.drop (off + n))) := (hc.take off).append (hone.append (hc.drop (off + n)))
    obtain ⟨ws, h1, h2⟩ := fillA_sound hg he pl place hpl rest _ _ r hnew h
    refine ⟨ws, ?_, h2⟩
    rw [← h1]
    simp only [List.map_cons, Instr.fill, hpl, hp, hus]
    rw [if_neg (by simp [hlen]; omega)]
    congr 1
    apply Array.ext'
    have := foldl_set off us 0 vs.toArray (by simp; omega)
    simp only [Nat.add_zero] at this
    rw [← hlen]
    rw [← Array.foldl_toList]
    simpa using this
   ·cases h
  ·cases h
theorem cellsOne_zero {P : Program} (w : World) (D : Names) {T : TypeId} {z : List AV} (h : zeroCells P T = some z) : ∃ i zv, P.info? T = some i ∧ i.zero = some zv ∧ CellsOne w D z zv.cells.toList ∧
  ∀ (j : Nat) (x : AV), z[j]? = some x → Imm w D.M x (zv.cells.toList.getD j undef) := by
 unfold zeroCells zeroVals at h
 obtain ⟨l, hl, h⟩ := Option.bind_eq_some_iff.1 h
 obtain ⟨zv, hzv, rfl⟩ := Option.map_eq_some_iff.1 hl
 obtain ⟨i, hi, hz⟩ := Option.bind_eq_some_iff.1 hzv
 split at h
 ·rename_i hall
  simp only [Option.some.injEq] at h; subst h
  have key : ∀ (j : Nat) (x : AV), (zv.cells.toList.map ofC)[j]? = some x → x = ofC (zv.cells.toList.getD j undef) ∧ (zv.cells.toList.getD j undef).oneCell' = true := by
   intro j x hx
   rw [List.getElem?_map] at hx
   obtain ⟨c, hc, rfl⟩ := Option.map_eq_some_iff.1 hx
   simp only [List.getD, hc, Option.getD_some]
   exact ⟨trivial, List.all_eq_true.1 hall c (List.mem_of_getElem? hc)⟩
  refine ⟨i, zv, hi, hz, ⟨by simp, fun j x hx => ?_⟩, fun j x hx => ?_⟩
  ·obtain ⟨rfl, h1⟩ := key j x hx
   exact ⟨cell_ofC _ _ _, h1⟩
  ·obtain ⟨rfl, h1⟩ := key j x hx
   exact imm_ofC _ _ _
 ·cases h
theorem mapM_places {P : Program} {w : World} : ∀ (fs : List Field) (pl : List (Nat × Nat)), (fs.mapM fun f => (P.info? f.type).map fun i => (f.offset, i.size)) = some pl →
  (fs.mapM fun f => (do pure (f.offset, ← sizeOf f.type) : Sem (Nat × Nat))).run P w = .ok pl w
 | [], pl, h => by simp at h; subst h; simp
 | f :: fs, pl, h => by
  simp only [List.mapM_cons, Option.bind_eq_bind, Option.pure_def] at h ⊢
  obtain ⟨b, hb, h⟩ := Option.bind_eq_some_iff.1 h
  obtain ⟨pl', h', h⟩ := Option.bind_eq_some_iff.1 h
  simp only [Option.some.injEq] at h
  subst h
  cases hi : P.info? f.type with
  | none => simp [hi] at hb
  | some i =>
   simp only [hi, Option.map_some, Option.some.injEq] at hb
   subst hb
   have ih := mapM_places (P := P) (w := w) fs pl' h'
   simp only [Sem.run_bind, sizeOf, typeInfo, run_program, Result.andThen_ok, hi, Sem.run_pure]
   simp only [sizeOf, typeInfo] at ih
   rw [ih]
   rfl
theorem r_build {P : Program} {w : World} {D : Names} {env : List AV} {a : Act} (hg : GlobRep w D.M) (he : EnvRep w D env a.tmps) {T : TypeId} {parts : Array (Nat × Operand)} {x : AV}
  (h : bld P T (parts.toList.map fun p => (p.1, ev env p.2)) = some x) : Yields1 P w D (Instr.build T (parts.map fun (i, x) => (i, a.eval x))) x := by
 unfold bld at h
 split at h
 ·rename_i pl z hpl hz
  obtain ⟨r, hr, rfl⟩ := Option.map_eq_some_iff.1 h
  obtain ⟨i, zv, hi, hzv, hone, _⟩ := cellsOne_zero w D hz
  unfold places at hpl
  split at hpl
  ·rename_i fs hu
   obtain ⟨us, h1, h2⟩ := fillA_sound hg he pl (pl.toArray[·]?) (fun i => by simp) parts.toList z _ r hone hr
   refine ⟨.agg us.toArray, ⟨us, rfl, h2.1, h2.2⟩, fun w' _ => ?_⟩
   have hm := mapM_places (P := P) (w := w') fs.toList pl hpl
   have hma : (fs.mapM fun f => (do pure (f.offset, ← sizeOf f.type) : Sem (Nat × Nat))).run P w' = .ok pl.toArray w' := by
    rw [Array.mapM_eq_mapM_toList, Sem.run_map, hm]; rfl
   have e3 : (parts.map fun (i, x) => (i, a.eval x)).toList = parts.toList.map fun p => (p.1, a.eval p.2) := by simp
   simp only [Instr.build, Sem.run_bind, zeroValue, typeInfo, run_program, Result.andThen_ok, hi, Sem.run_pure, hzv, run_underlying hu, hma, e3]
   rw [show zv.cells = zv.cells.toList.toArray by simp, h1]
   simp
  ·cases hpl
 ·cases h
theorem refs_sound {w : World} {D : Names} {env : List AV} {a : Act} (hg : GlobRep w D.M) (he : EnvRep w D env a.tmps) : ∀ {xs : List Operand} {ns : List Nat}, asRefs (xs.map (ev env)) = some ns →
  ∃ bs : List Nat, bs.length = ns.length ∧ (∀ (i : Nat) (n b : Nat), ns[i]? = some n → bs[i]? = some b → D n = some (some b)) ∧ xs.map a.eval = bs.map fun b => Value.pointer (some ⟨b, 0, none⟩)
 | [], ns, h => by
  simp only [List.map_nil, asRefs, Option.some.injEq] at h; subst h
  exact ⟨[], rfl, fun i n b h => by simp at h, rfl⟩
 | x :: xs, ns, h => by
  simp only [List.map_cons] at h
  generalize hx : ev env x = y at h
  unfold asRefs at h
  split at h
  ·rename_i e; cases e
  ·rename_i n sz r e
   simp only [List.cons.injEq] at e
   obtain ⟨e1, e2⟩ := e
   subst e2
   obtain ⟨ms, hms, rfl⟩ := Option.map_eq_some_iff.1 h
   obtain ⟨bs, h1, h2, h3⟩ := refs_sound hg he hms
   have hv := ev_sound hg he x
   rw [hx, e1] at hv
   simp only [Slot, Val, Cell] at hv
   obtain ⟨b, hb, hv⟩ := hv
   refine ⟨b :: bs, by simp [h1], fun i m c hm hc => ?_, ?_⟩
   ·cases i with
    | zero => simp only [List.getElem?_cons_zero, Option.some.injEq] at hm hc; subst hm; subst hc; exact hb
    | succ i => exact h2 i m c (by simpa using hm) (by simpa using hc)
   ·simp only [List.map_cons, h3, hv, Nat.zero_mul, Nat.zero_add]
  ·cases h
theorem mkF_sound {P : Program} {w : World} {D : Names} {env : List AV} {a : Act} (hg : GlobRep w D.M) (he : EnvRep w D env a.tmps) {fn : Fn} {xs : List Operand} {x : AV} (h : mkF fn (xs.map (ev env)) = some x) :
  Yields1 P w D (Instr.makeFunc fn #[] (xs.map a.eval).toArray) x := by
 unfold mkF at h
 split at h
 ·rename_i e
  simp only [Option.some.injEq] at h; subst h
  have : xs = [] := by simpa using e
  subst this
  exact ⟨_, (Imm.cst _).slot, fun w' _ => by simp [Instr.makeFunc]⟩
 ·obtain ⟨ns, hns, rfl⟩ := Option.map_eq_some_iff.1 h
  obtain ⟨bs, h1, h2, h3⟩ := refs_sound hg he hns
  refine ⟨.func fn #[] (bs.map fun b => Value.pointer (some ⟨b, 0, none⟩)).toArray, ?_, fun w' _ => by rw [h3]; simp [Instr.makeFunc]⟩
  simp only [Slot, Val, Cell]
  exact ⟨bs, h1, h2, rfl⟩
theorem concT_spec {P : Program} {T : TypeId} (h : concT P T = true) : ∃ d, P.underlying T = some d ∧ ∀ ms, d ≠ .interface ms := by
 unfold concT at h
 split at h
 ·cases h
 ·rename_i d hn hu
  exact ⟨_, hu, fun ms e => hn ms e⟩
 ·cases h
theorem run_makeI {P : Program} {T : TypeId} (h : concT P T = true) (v : Value) (w : World) : (Instr.makeInterface T v).run P w = .ok (.iface T v) w := by
 obtain ⟨d, hu, hn⟩ := concT_spec h
 unfold Instr.makeInterface
 simp only [Sem.run_bind, run_underlying hu, Result.andThen_ok]
 cases d <;> first | rfl | exact absurd rfl (hn _)
theorem imm_of_plainC {w : World} {D : Names} {x : AV} {v : Value} (h : Cell w D x v) (hp : plainC x = true) : Imm w D.M x v ∧ v.oneCell' = true := by
 have h1 : v.oneCell' = true := plainN_one h (by cases x <;> first | exact hp | (simp [plainC] at hp))
 refine ⟨?_, h1⟩
 cases x <;> first | exact h | (simp [plainC] at hp)
theorem mkI_sound {P : Program} {w : World} {D : Names} {T : TypeId} {x y : AV} {v : Value} (hx : Slot w D x v) (h : mkI P T x = some y) : Yields1 P w D (Instr.makeInterface T v) y := by
 unfold mkI at h
 split at h
 case isFalse => cases h
 rename_i hc
 have hr := fun w' (_ : Below w.heap.size w w') => run_makeI hc v w'
 split at h
 ·rename_i n sz
  simp only [Option.some.injEq] at h; subst h
  simp only [Slot, Val, Cell] at hx
  obtain ⟨b, hb, rfl⟩ := hx
  refine ⟨_, ?_, hr⟩
  simp only [Slot, Val, Cell]
  refine ⟨[b], rfl, fun i m c hm hc => ?_, by simp⟩
  cases i with
  | zero => simp only [List.getElem?_cons_zero, Option.some.injEq] at hm hc; subst hm; subst hc; exact hb
  | succ i => simp at hm
 ·rename_i l
  split at h
  ·rename_i hp
   simp only [Option.some.injEq] at h; subst h
   obtain ⟨vs, rfl, h1, h2⟩ := slot_agg hx
   have key := fun i x hi => imm_of_plainC (h2 i x hi).1 (List.all_eq_true.1 hp x (List.mem_of_getElem? hi))
   have e : ((List.range l.length).map fun i => vs.getD i undef).toArray = vs.toArray := by
    congr 1
    apply List.ext_getElem
    ·simp [h1]
    ·intro i g1 g2
     simp [List.getD, List.getElem?_eq_getElem g2]
   refine ⟨_, ?_, hr⟩
   have := Imm.ifc (w := w) (M := D.M) T true l (fun i => vs.getD i undef) (fun i x hi => (key i x hi).2) (fun i x hi => (key i x hi).1)
   simp only [if_true, e] at this
   exact this.slot
  ·cases h
 ·split at h
  ·rename_i hp
   simp only [Option.some.injEq] at h; subst h
   have hcell : Cell w D x v := by
    cases x <;> first | (simp only [Slot, Val] at hx; exact hx) | (simp [plainC] at hp)
   obtain ⟨k1, k2⟩ := imm_of_plainC hcell hp
   refine ⟨_, ?_, hr⟩
   have := Imm.ifc (w := w) (M := D.M) T false [x] (fun _ => v) (fun i y hi => k2) (fun i y hi => by
    cases i with
    | zero => simp only [List.getElem?_cons_zero, Option.some.injEq] at hi; subst hi; exact k1
    | succ i => simp at hi)
   exact this.slot
  ·cases h
theorem tas_sound {P : Program} {w : World} {D : Names} {S T : TypeId} {ok : Bool} {x y : AV} {v : Value} (hx : Slot w D x v) (h : tas P T ok x = some y) : Yields1 P w D (Instr.typeAssert v S T ok) y := by
 unfold tas at h
 split at h
 case isFalse => cases h
 rename_i hc
 obtain ⟨d, hu, hn⟩ := concT_spec hc
 have hr : ∀ (u : Value) (w' : World), (Instr.typeAssert (.iface T u) S T ok).run P w' = .ok (if ok then .tuple #[u, .bool true] else u) w' := by
  intro u w'
  unfold Instr.typeAssert
  simp only [Sem.run_bind, run_underlying hu, Result.andThen_ok]
  cases d <;> first | exact absurd rfl (hn _) | simp
 have fin : ∀ (z : AV) (u : Value), v = .iface T u → Slot w D z u → (∀ l, z ≠ .tup l) → y = tasV ok z → Yields1 P w D (Instr.typeAssert v S T ok) y := by
  rintro z u rfl hz hnt rfl
  refine ⟨_, ?_, fun w' _ => hr u w'⟩
  have hval : Val w D z u := by
   cases z <;> first | exact hz | exact absurd rfl (hnt _)
  cases ok with
  | false => exact hz
  | true =>
   simp only [tasV, if_true]
   refine ⟨[u, .bool true], rfl, rfl, fun i x hi => ?_⟩
   match i, hi with
   | 0, hi => simp only [List.getElem?_cons_zero, Option.some.injEq] at hi; subst hi; exact hval
   | 1, hi =>
    simp only [List.getElem?_cons_succ, List.getElem?_cons_zero, Option.some.injEq] at hi; subst hi
    simp only [Val, Cell]; exact .bool true
   | i + 2, hi => simp at hi
 split at h
 ·rename_i t l
  split at h
  ·rename_i ht
   subst ht
   simp only [Option.some.injEq] at h
   simp only [Slot, Val, Cell] at hx
   cases hx with
   | ifc _ _ _ f h1 h2 =>
    refine fin (.agg l) _ rfl ?_ (fun l h => by cases h) h.symm
    refine ⟨(List.range l.length).map f, rfl, by simp, fun i x hi => ?_⟩
    have hlt : i < l.length := (List.getElem?_eq_some_iff.1 hi).1
    have e : ((List.range l.length).map f).getD i undef = f i := by simp [List.getD, hlt]
    rw [e]
    exact ⟨(h2 i x hi).cell, h1 i x hi⟩
  ·cases h
 ·rename_i t x1
  split at h
  ·rename_i ht
   subst ht
   simp only [Option.some.injEq] at h
   simp only [Slot, Val, Cell] at hx
   cases hx with
   | ifc _ _ _ f h1 h2 =>
    have k := h2 0 x1 rfl
    refine fin x1 (f 0) rfl k.slot (fun l e => ?_) h.symm
    subst e; cases k
  ·cases h
 ·rename_i t n
  split at h
  ·rename_i ht
   subst ht
   simp only [Option.some.injEq] at h
   simp only [Slot, Val, Cell] at hx
   obtain ⟨bs, g1, g2, rfl⟩ := hx
   match bs, g1 with
   | [b], _ =>
    refine fin (.ref n 1 0 0) (.pointer (some ⟨b, 0, none⟩)) rfl ?_ (fun l h => by cases h) h.symm
    simp only [Slot, Val, Cell]
    exact ⟨b, g2 0 n b rfl rfl, by simp⟩
  ·cases h
 ·cases h
theorem ifaceT_spec {P : Program} {T : TypeId} (h : ifaceT P T = true) : ∃ ms, P.underlying T = some (.interface ms) := by
 unfold ifaceT at h
 split at h
 ·rename_i ms hu; exact ⟨ms, hu⟩
 ·cases h
theorem ptrT_spec {P : Program} {T : TypeId} (h : ptrT P T = true) : ∃ e, P.underlying T = some (.pointer e) := by
 unfold ptrT at h
 split at h
 ·rename_i e hu; exact ⟨e, hu⟩
 ·cases h
theorem isC_spec {X : Operand} (h : isC .nilIface X = true) : X = .const .nilIface := by
 unfold isC at h
 split at h
 ·split at h
  ·rfl
  ·cases h
 ·cases h
theorem cmpA_sound {P : Program} {w : World} {D : Names} {op : BinOp} {T : TypeId} {X Y : Operand} {x y r : AV} {u v : Value} {b : Bool} (h : cmpA P T X Y x y = some b) (hr : eqOp op b = some r) (hx : Slot w D x u) (hy : Slot w D y v) :
  Yields1 P w D (do eqGuard op T X Y u v; binOp op T u v : Sem Value) r := by
 have key : (∀ w', (eqGuard op T X Y u v).run P w' = .ok () w') → (∀ d w', (Op.equalIn (d + 1) T u v).run P w' = .ok b w') → (∀ k n, u ≠ .int k n) → (∀ n, u ≠ .string n) → (∀ k n, u ≠ .float k n) → (∀ k n m, u ≠ .complex k n m) →
   Yields1 P w D (do eqGuard op T X Y u v; binOp op T u v : Sem Value) r := by
  intro h1 h2 n1 n2 n3 n4
  have h2 : ∀ w', (Op.equal T u v).run P w' = .ok b w' := fun w' => h2 9999 w'
  unfold eqOp at hr
  split at hr
  ·simp only [Option.some.injEq] at hr; subst hr
   refine ⟨.bool b, slot_mk_bool b, fun w' _ => ?_⟩
   simp only [Sem.run_bind, h1, Result.andThen_ok]
   have e : binOp .eql T u v = (do pure (.bool (← Op.equal T u v)) : Sem Value) := by
    cases u <;> first | exact absurd rfl (n1 _ _) | exact absurd rfl (n2 _) | exact absurd rfl (n3 _ _) | exact absurd rfl (n4 _ _ _) | (cases v <;> rfl)
   rw [e]
   simp [h2]
  ·simp only [Option.some.injEq] at hr; subst hr
   refine ⟨.bool !b, slot_mk_bool _, fun w' _ => ?_⟩
   simp only [Sem.run_bind, h1, Result.andThen_ok]
   have e : binOp .neq T u v = (do pure (.bool (!(← Op.equal T u v))) : Sem Value) := by
    cases u <;> first | exact absurd rfl (n1 _ _) | exact absurd rfl (n2 _) | exact absurd rfl (n3 _ _) | exact absurd rfl (n4 _ _ _) | (cases v <;> rfl)
   rw [e]
   simp [h2]
  ·cases hr
 have hop : op = .eql ∨ op = .neq := by
  unfold eqOp at hr
  split at hr
  ·exact .inl rfl
  ·exact .inr rfl
  ·cases hr
 have gd : ¬ (u = .nilIface ∧ v = .nilIface) → (∀ a b, ¬ (u = .agg a ∧ v = .agg b)) → ∀ w', (eqGuard op T X Y u v).run P w' = .ok () w' := by
  intro g1 g2 w'
  unfold eqGuard
  cases u <;> cases v <;> first | exact absurd ⟨rfl, rfl⟩ g1 | exact absurd ⟨rfl, rfl⟩ (g2 _ _) | (rcases hop with rfl | rfl <;> simp)
 unfold cmpA at h
 split at h
 ·split at h
  ·rename_i hc
   simp only [Option.some.injEq] at h; subst h
   simp only [Bool.and_eq_true, Bool.or_eq_true] at hc
   obtain ⟨ms, hu⟩ := ifaceT_spec hc.1
   simp only [Slot, Val, Cell] at hx hy
   cases hx; cases hy
   refine key (fun w' => ?_) (fun d w' => ?_) (by simp) (by simp) (by simp) (by simp)
   ·unfold eqGuard
    rcases hc.2 with h | h <;> (rw [isC_spec h]; rcases hop with rfl | rfl <;> simp)
   ·simp [Op.equalIn, run_underlying hu]
  ·cases h
 ·split at h
  ·rename_i hc
   simp only [Option.some.injEq] at h; subst h
   obtain ⟨ms, hu⟩ := ifaceT_spec hc
   simp only [Slot, Val, Cell] at hx hy
   cases hx; cases hy
   refine key (gd (by simp) (by simp)) (fun d w' => ?_) (by simp) (by simp) (by simp) (by simp)
   simp [Op.equalIn, run_underlying hu]
  ·cases h
 ·split at h
  ·rename_i hc
   simp only [Option.some.injEq] at h; subst h
   obtain ⟨ms, hu⟩ := ifaceT_spec hc
   simp only [Slot, Val, Cell] at hx hy
   cases hx; cases hy
   refine key (gd (by simp) (by simp)) (fun d w' => ?_) (by simp) (by simp) (by simp) (by simp)
   simp [Op.equalIn, run_underlying hu]
  ·cases h
 ·split at h
  ·rename_i hc
   simp only [Option.some.injEq] at h; subst h
   obtain ⟨ms, hu⟩ := ifaceT_spec hc
   simp only [Slot, Val, Cell] at hx hy
   cases hx; obtain ⟨bs, _, _, rfl⟩ := hy
   refine key (gd (by simp) (by simp)) (fun d w' => ?_) (by simp) (by simp) (by simp) (by simp)
   simp [Op.equalIn, run_underlying hu]
  ·cases h
 ·split at h
  ·rename_i hc
   simp only [Option.some.injEq] at h; subst h
   obtain ⟨ms, hu⟩ := ifaceT_spec hc
   simp only [Slot, Val, Cell] at hx hy
   obtain ⟨bs, _, _, rfl⟩ := hx; cases hy
   refine key (gd (by simp) (by simp)) (fun d w' => ?_) (by simp) (by simp) (by simp) (by simp)
   simp [Op.equalIn, run_underlying hu]
  ·cases h
 ·split at h
  ·rename_i hc
   simp only [Option.some.injEq] at h; subst h
   obtain ⟨e, hu⟩ := ptrT_spec hc
   simp only [Slot, Val, Cell] at hx hy
   cases hx; cases hy
   refine key (gd (by simp) (by simp)) (fun d w' => ?_) (by simp) (by simp) (by simp) (by simp)
   simp [Op.equalIn, run_underlying hu]
  ·cases h
 ·split at h
  ·rename_i hc
   simp only [Option.some.injEq] at h; subst h
   obtain ⟨e, hu⟩ := ptrT_spec hc
   simp only [Slot, Val, Cell] at hx hy
   cases hx; obtain ⟨bl, _, rfl⟩ := hy
   refine key (gd (by simp) (by simp)) (fun d w' => ?_) (by simp) (by simp) (by simp) (by simp)
   simp [Op.equalIn, run_underlying hu]
  ·cases h
 ·split at h
  ·rename_i hc
   simp only [Option.some.injEq] at h; subst h
   obtain ⟨e, hu⟩ := ptrT_spec hc
   simp only [Slot, Val, Cell] at hx hy
   obtain ⟨bl, _, rfl⟩ := hx; cases hy
   refine key (gd (by simp) (by simp)) (fun d w' => ?_) (by simp) (by simp) (by simp) (by simp)
   simp [Op.equalIn, run_underlying hu]
  ·cases h
 ·split at h
  ·rename_i hc
   simp only [Option.some.injEq] at h; subst h
   simp only [Bool.and_eq_true, beq_iff_eq] at hc
   obtain ⟨hz, hn, ho⟩ := hc
   unfold ptrZ at hz
   split at hz
   case h_2 => cases hz
   rename_i e hu
   split at hz
   case h_2 => cases hz
   rename_i i hi
   have hi0 : i.size ≠ 0 := by simpa using hz
   simp only [Slot, Val, Cell] at hx hy
   obtain ⟨bl, hb1, rfl⟩ := hx
   obtain ⟨bl2, hb2, hv⟩ := hy
   rw [hn, hb2] at hb1
   simp only [Option.some.injEq] at hb1
   subst hb1
   rw [← ho] at hv
   subst hv
   refine key (gd (by simp) (by simp)) (fun d w' => ?_) (by simp) (by simp) (by simp) (by simp)
   simp [Op.equalIn, run_underlying hu, sizeOf, typeInfo, hi, sameAddr]
  ·cases h
 ·cases h
theorem mmA_sound {P : Program} {w : World} {D : Names} {env : List AV} {a : Act} (hg : GlobRep w D.M) (he : EnvRep w D env a.tmps) {mx : Bool} {args : Array Operand} {tys : Array TypeId} {ty : TypeId} {x : AV} (h : mmA mx (args.toList.map (ev env)) = some x) :
  Yields1 P w D (if mx then Builtin.max_ tys ty (args.map a.eval) else Builtin.min_ tys ty (args.map a.eval)) x := by
 unfold mmA at h
 split at h
 ·rename_i k p k' q e
  split at h
  ·rename_i hk
   subst hk
   simp only [Option.some.injEq] at h; subst h
   have hl : args.toList.length = 2 := by rw [← List.length_map (f := ev env), e]; rfl
   match hA : args.toList, hl with
   | [X, Y], _ =>
    rw [hA] at e
    simp only [List.map_cons, List.map_nil, List.cons.injEq, and_true] at e
    have hX := ev_sound hg he X
    have hY := ev_sound hg he Y
    rw [e.1] at hX; rw [e.2] at hY
    have hX := slot_int hX
    have hY := slot_int hY
    have e1 : args = #[X, Y] := by apply Array.ext'; simpa using hA
    subst e1
    refine ⟨_, slot_mk_int _ _, fun w' _ => ?_⟩
    cases mx <;> simp [Builtin.max_, Builtin.min_, Builtin.max2, Builtin.min2, hX, hY]
  ·cases h
 ·cases h
theorem rOp2_sound {P : Program} {w : World} {D : Names} {env : List AV} {a : Act} (hg : GlobRep w D.M) (he : EnvRep w D env a.tmps)
  {o : Oper} {x : AV} (h : rOp2 P env o.op = some x) : ∃ s : Sem Value, Yields1 P w D s x ∧ execOp a.eval o = (do pure (.value (← s)) : Sem Next) := by
 unfold rOp2 at h
 split at h
 ·rename_i fn first captured hop
  split at h
  ·rename_i hf
   have e : first = #[] := by apply Array.ext'; simpa using hf
   subst e
   refine ⟨_, mkF_sound (P := P) hg he h, ?_⟩
   have : (captured.toList.map a.eval).toArray = captured.map a.eval := by apply Array.ext'; simp
   simp [execOp, hop, this]
  ·cases h
 ·rename_i T X hop
  exact ⟨_, mkI_sound (ev_sound hg he X) h, by simp [execOp, hop]⟩
 ·rename_i X S T ok hop
  exact ⟨_, tas_sound (S := S) (ev_sound hg he X) h, by simp [execOp, hop]⟩
 ·rename_i args tys hop
  exact ⟨_, mmA_sound (tys := tys) (ty := o.type) hg he h, by simp [execOp, hop, resolve, invoke, builtin]⟩
 ·rename_i args tys hop
  exact ⟨_, mmA_sound (tys := tys) (ty := o.type) hg he h, by simp [execOp, hop, resolve, invoke, builtin]⟩
 ·rename_i args tys hop
  split at h
  ·rename_i X T hA hT
   have e1 : args = #[X] := by apply Array.ext'; simpa using hA
   have e2 : tys = #[T] := by apply Array.ext'; simpa using hT
   subst e1; subst e2
   split at h
   ·rename_i hx
    split at h
    ·rename_i hs
     simp only [Option.some.injEq] at h; subst h
     obtain ⟨sz, hs⟩ := Option.isSome_iff_exists.1 hs
     obtain ⟨e, i, hu, _, _⟩ := sliceElem_spec hs
     have hX := ev_sound hg he X
     rw [hx] at hX
     have hX := slot_nsl hX
     exact ⟨Builtin.cap_ #[T] o.type #[a.eval X], ⟨_, slot_mk_int _ _, fun w' _ => by simp [Builtin.cap_, run_underlying hu, goInt, hX]⟩, by simp [execOp, hop, resolve, invoke, builtin]⟩
    ·cases h
   ·cases h
  ·cases h
 ·cases h
theorem rOp_sound {P : Program} {w0 w : World} {M0 : Nat → Prop} {D : Names} {objs : List (Nat × Obj)} (hm : Mem w0 M0 objs D w) {env : List AV} {a : Act} (he : EnvRep w D env a.tmps)
  {o : Oper} {x : AV} (h : rOp P env objs o.op = some x) :
  ∃ v, Slot w D x v ∧ ∀ w', Below w.heap.size w w' → (execOp a.eval o).run P w' = .ok (.value v) w' := by
 have lift : ∀ {s : Sem Value}, Yields1 P w D s x → (execOp a.eval o = (do pure (.value (← s)) : Sem Next)) → ∃ v, Slot w D x v ∧ ∀ w', Below w.heap.size w w' → (execOp a.eval o).run P w' = .ok (.value v) w' := by
  rintro s ⟨v, h1, h2⟩ heq
  refine ⟨v, h1, fun w' hw' => ?_⟩
  rw [heq]
  simp [h2 w' hw']
 unfold rOp at h
 split at h
 ·rename_i X hop
  simp only [Option.some.injEq] at h; subst h
  exact ⟨_, ev_sound hm.glob he X, fun w' _ => by simp [execOp, hop]⟩
 ·rename_i X hop
  simp only [Option.some.injEq] at h; subst h
  exact ⟨_, ev_sound hm.glob he X, fun w' _ => by simp [execOp, hop]⟩
 ·rename_i c A B hop
  split at h
  ·rename_i t ht
   simp only [Option.some.injEq] at h; subst h
   have hc := ev_sound hm.glob he c
   rw [ht] at hc
   have hb := slot_bool hc
   refine ⟨if t then a.eval A else a.eval B, ?_, fun w' _ => ?_⟩
   ·cases t
    ·exact ev_sound hm.glob he B
    ·exact ev_sound hm.glob he A
   ·simp [execOp, hop, hb, asBool]
  ·cases h
 ·rename_i T X k hop
  have hX := ev_sound hm.glob he X
  split at h
  ·rename_i cs o' g n hx hf
   rw [hx] at hX
   simp only [Option.some.injEq] at h; subst h
   exact lift ((r_fieldAddr hf).1 _ hX) (by simp [execOp, hop])
  ·rename_i m sz i off o' g n hx hf
   rw [hx] at hX
   simp only [Option.some.injEq] at h; subst h
   exact lift ((r_fieldAddr hf).2 _ _ _ _ hX) (by simp [execOp, hop])
  ·cases h
 ·rename_i T X k hop
  have hX := ev_sound hm.glob he X
  split at h
  ·rename_i cs o' n hx hf
   rw [hx] at hX
   split at h
   ·rename_i hle
    simp only [Option.some.injEq] at h; subst h
    exact lift ((r_field hf hX).1 rfl hle) (by simp [execOp, hop])
   ·cases h
  ·rename_i cs o' n hx hf
   rw [hx] at hX
   exact lift ((r_field hf hX).2 rfl _ h) (by simp [execOp, hop])
  ·cases h
 ·rename_i T X I hop
  have hX := ev_sound hm.glob he X
  have hI := ev_sound hm.glob he I
  split at h
  ·rename_i k n hi
   rw [hi] at hI
   have hI := slot_int hI
   split at h
   ·rename_i sz l hx
    rw [hx] at hX
    split at h
    ·rename_i hc
     simp only [Option.some.injEq] at h; subst h
     exact lift (r_indexAddr_sl hc.2.2 hX k hc.1 hc.2.1) (by simp [execOp, hop, hI])
    ·cases h
   ·rename_i m sz off len hx
    rw [hx] at hX
    split at h
    ·rename_i hc
     simp only [Option.some.injEq] at h; subst h
     exact lift (r_indexAddr_msl hc.2.2 hX k hc.1 hc.2.1) (by simp [execOp, hop, hI])
    ·cases h
   ·rename_i m sz hx
    rw [hx] at hX
    split at h
    ·rename_i len sz' hA
     split at h
     ·rename_i hc
      obtain ⟨rfl, h0, h1⟩ := hc
      simp only [Option.some.injEq] at h; subst h
      exact lift (r_indexAddr_ref hA hX k h0 h1) (by simp [execOp, hop, hI])
     ·cases h
    ·cases h
   ·rename_i cs hx
    rw [hx] at hX
    split at h
    ·rename_i len sz' hA
     split at h
     ·rename_i hc
      simp only [Option.some.injEq] at h; subst h
      exact lift (r_indexAddr_at hA hX k hc.1 hc.2) (by simp [execOp, hop, hI])
     ·cases h
    ·cases h
   ·cases h
  ·cases h
 ·rename_i T X I hop
  have hX := ev_sound hm.glob he X
  have hI := ev_sound hm.glob he I
  split at h
  ·rename_i k n hi
   rw [hi] at hI
   have hI := slot_int hI
   split at h
   ·rename_i s hx
    rw [hx] at hX
    split at h
    ·rename_i hc
     simp only [Option.some.injEq] at h; subst h
     exact lift (r_index_str hc.1 hX k hc.2.1 hc.2.2) (by simp [execOp, hop, hI])
    ·cases h
   ·cases h
  ·cases h
 ·rename_i T X hop
  have hX := ev_sound hm.glob he X
  split at h
  ·rename_i cs g n hx ht
   rw [hx] at hX
   exact lift ((r_load hm ht).1 _ hX h) (by simp [execOp, hop])
  ·rename_i m sz i off g n hx ht
   rw [hx] at hX
   exact lift ((r_load hm ht).2 _ _ _ _ hX h) (by simp [execOp, hop])
  ·cases h
 ·rename_i X hop
  have hX := ev_sound hm.glob he X
  split at h
  ·rename_i cs hx
   rw [hx] at hX
   simp only [Option.some.injEq] at h; subst h
   refine ⟨_, hX, fun w' _ => ?_⟩
   simp only [Slot, Val, Cell] at hX
   obtain ⟨b, o', hv, _⟩ := row_at hX
   simp [execOp, hop, hv]
  ·rename_i m sz i off hx
   rw [hx] at hX
   simp only [Option.some.injEq] at h; subst h
   refine ⟨_, hX, fun w' _ => ?_⟩
   simp only [Slot, Val, Cell] at hX
   obtain ⟨b, _, hv⟩ := hX
   simp [execOp, hop, hv]
  ·rename_i f u v hx
   rw [hx] at hX
   simp only [Option.some.injEq] at h; subst h
   refine ⟨_, hX, fun w' _ => ?_⟩
   simp only [Slot, Val, Cell] at hX
   have hv : a.eval X = .func (.func f) u v := by
    generalize a.eval X = y at hX
    cases hX; rfl
   simp [execOp, hop, hv]
  ·rename_i f ns hx
   rw [hx] at hX
   simp only [Option.some.injEq] at h; subst h
   refine ⟨_, hX, fun w' _ => ?_⟩
   simp only [Slot, Val, Cell] at hX
   obtain ⟨bs, _, _, hv⟩ := hX
   simp [execOp, hop, hv]
  ·rename_i t ns hx
   rw [hx] at hX
   simp only [Option.some.injEq] at h; subst h
   refine ⟨_, hX, fun w' _ => ?_⟩
   simp only [Slot, Val, Cell] at hX
   obtain ⟨bs, _, _, hv⟩ := hX
   simp [execOp, hop, hv]
  ·cases h
 ·rename_i op T X Y yT hop
  unfold bop2 at h
  split at h
  ·rename_i r hr
   simp only [Option.some.injEq] at h; subst h
   exact lift (r_bop hr (ev_sound hm.glob he X) (ev_sound hm.glob he Y) X Y) (by simp [execOp, hop])
  ·obtain ⟨b, hb, h⟩ := Option.bind_eq_some_iff.1 h
   exact lift (cmpA_sound hb h (ev_sound hm.glob he X) (ev_sound hm.glob he Y)) (by simp [execOp, hop])
 ·rename_i op T X hop
  exact lift (r_uop h (ev_sound hm.glob he X)) (by simp [execOp, hop])
 ·rename_i S T X hop
  exact lift (r_cvt hm h (ev_sound hm.glob he X)) (by simp [execOp, hop])
 ·rename_i T X lo hi hop
  exact lift (r_slc hm he h (ev_sound hm.glob he X)) (by simp [execOp, hop])
 ·rename_i T X lo hi mx hop
  exact lift (r_slc3 hm.glob he h (ev_sound hm.glob he X)) (by simp [execOp, hop])
 ·rename_i t i hop
  have hX := ev_sound hm.glob he t
  split at h
  ·rename_i l hx
   rw [hx] at hX
   simp only [Slot] at hX
   obtain ⟨vs, hv, hl, hc⟩ := hX
   have hval := hc i x h
   have hlt : i < vs.length := by rw [hl]; exact (List.getElem?_eq_some_iff.1 h).1
   refine lift (s := Instr.extract (a.eval t) i) ⟨vs.getD i undef, ?_, fun w' _ => ?_⟩ (by simp [execOp, hop])
   ·cases x with
    | tup => simp only [Val, Cell] at hval; cases hval
    | _ => simp only [Slot]; exact hval
   ·rw [hv]; simp [Instr.extract, List.getElem?_eq_getElem hlt, List.getD]
  ·cases h
 ·rename_i T parts hop
  exact lift (r_build hm.glob he h) (by simp [execOp, hop])
 ·rename_i args argTypes hop
  split at h
  ·rename_i X T hA hT
   have e1 : args = #[X] := by apply Array.ext'; simpa using hA
   have e2 : argTypes = #[T] := by apply Array.ext'; simpa using hT
   subst e1; subst e2
   exact lift (s := Builtin.len_ #[T] o.type #[a.eval X]) (r_len h (ev_sound hm.glob he X)) (by simp [execOp, hop, resolve, invoke, builtin])
  ·cases h
 ·obtain ⟨s, h1, h2⟩ := rOp2_sound hm.glob he h
  exact lift h1 h2
end Go.Abs
namespace Go.Abs
open Go.RowKit
variable {D D' : Names} {w w' : World} {objs : List (Nat × Obj)}
def mapV (φ : AV → AV) : AV → AV
 | .agg l => .agg (l.map φ)
 | x => φ x
def mapS (φ : AV → AV) : AV → AV
 | .tup l => .tup (l.map (mapV φ))
 | x => mapV φ x
def mapO (φ : AV → AV) : List (Nat × Obj) → List (Nat × Obj)
 | [] => []
 | (n, .box cs) :: r => (n, .box (cs.map φ)) :: mapO φ r
 | (n, .arr sz l) :: r => (n, .arr sz l) :: mapO φ r
 | (n, .mp kk k l) :: r => (n, .mp kk k l) :: mapO φ r
def objMap (φ : AV → AV) : Obj → Obj
 | .box cs => .box (cs.map φ)
 | .arr sz l => .arr sz l
 | .mp kk k l => .mp kk k l
theorem look_mapO (φ : AV → AV) (n : Nat) : ∀ l, look n (mapO φ l) = (look n l).map (objMap φ)
 | [] => rfl
 | (m, .box cs) :: r => by
  have ih := look_mapO φ n r
  by_cases h : m = n <;> simp [mapO, look, h, objMap, ih]
 | (m, .arr sz l) :: r => by
  have ih := look_mapO φ n r
  by_cases h : m = n <;> simp [mapO, look, h, objMap, ih]
 | (m, .mp kk k l) :: r => by
  have ih := look_mapO φ n r
  by_cases h : m = n <;> simp [mapO, look, h, objMap, ih]
structure Carry (w w' : World) (D D' : Names) (φ : AV → AV) : Prop where
 cell : ∀ x v, Cell w D x v → Cell w' D' (φ x) v
theorem Carry.val {φ : AV → AV} (c : Carry w w' D D' φ) {x : AV} {v : Value} (h : Val w D x v) : Val w' D' (mapV φ x) v := by
 cases x with
 | agg l =>
  obtain ⟨vs, h1, h2, h3⟩ := h
  refine ⟨vs, h1, by simp [h2], fun i y hy => ?_⟩
  rw [List.getElem?_map] at hy
  obtain ⟨z, hz, rfl⟩ := Option.map_eq_some_iff.1 hy
  exact ⟨c.cell _ _ (h3 i z hz).1, (h3 i z hz).2⟩
 | tup l => simp only [Val, Cell] at h; cases h
 | _ =>
  simp only [Val, mapV] at h ⊢
  have := c.cell _ _ h
  exact (this.slot : Slot w' D' _ _) |> (fun hs => by
   generalize φ _ = y at this
   cases y with
   | agg => simp only [Cell] at this; cases this
   | _ => simpa only [Val] using this)
theorem Carry.slot {φ : AV → AV} (c : Carry w w' D D' φ) {x : AV} {v : Value} (h : Slot w D x v) : Slot w' D' (mapS φ x) v := by
 cases x with
 | tup l =>
  obtain ⟨vs, h1, h2, h3⟩ := h
  refine ⟨vs, h1, by simp [h2], fun i y hy => ?_⟩
  rw [List.getElem?_map] at hy
  obtain ⟨z, hz, rfl⟩ := Option.map_eq_some_iff.1 hy
  exact c.val (h3 i z hz)
 | agg l =>
  simp only [Slot] at h
  have := c.val h
  simpa only [mapS, mapV, Slot] using this
 | _ =>
  simp only [Slot, Val] at h
  have := (c.cell _ _ h).slot
  simpa only [mapS, mapV] using this
theorem Carry.env {φ : AV → AV} (c : Carry w w' D D' φ) {env : List AV} {tmps : Array Value} (h : EnvRep w D env tmps) : EnvRep w' D' (env.map (mapS φ)) tmps := by
 refine ⟨by simp [h.1], fun i y hy => ?_⟩
 rw [List.getElem?_map] at hy
 obtain ⟨z, hz, rfl⟩ := Option.map_eq_some_iff.1 hy
 exact c.slot (h.2 i z hz)
theorem EnvRep.mono {env : List AV} {tmps : Array Value} (h : EnvRep w D env tmps) (k : Grow w w' D.M) (hD : ∀ n d, D n = some d → D' n = some d) (hlt : ∀ b, D.M b → b < w.heap.size)
  (hM : ∀ b, b < w.heap.size → D'.M b → D.M b) : EnvRep w' D' env tmps := ⟨h.1, fun i x hx => (h.2 i x hx).mono k hD hlt hM⟩
def Names.ins (D : Names) (d : Nat) (x : Option Nat) : Names := fun n => if n = d then some x else D n
def Names.del (D : Names) (m : Nat) : Names := fun n => if n = m then none else D n
theorem Names.ins_M {d b c : Nat} (h : (D.ins d (some b)).M c) : D.M c ∨ c = b := by
 obtain ⟨n, hn⟩ := h
 unfold Names.ins at hn
 split at hn
 ·simp at hn; exact .inr hn.symm
 ·exact .inl ⟨n, hn⟩
theorem Names.del_M {m c : Nat} (h : (D.del m).M c) : D.M c := by
 obtain ⟨n, hn⟩ := h
 unfold Names.del at hn
 split at hn
 ·cases hn
 ·exact ⟨n, hn⟩
theorem Grow.refl (w : World) (M : Nat → Prop) : Grow w w M := ⟨⟨Nat.le_refl _, fun _ _ _ => rfl⟩, fun _ _ => rfl⟩
theorem Grow.weaken {M M' : Nat → Prop} (h : Grow w w' M) (hM : ∀ b, b < w.heap.size → M b → M' b) : Grow w w' M' := ⟨⟨h.size, fun b hb hm => h.same b hb (fun hk => hm (hM b hb hk))⟩, h.row⟩
theorem Grow.trans {a b c : World} {M N : Nat → Prop} (h : Grow a b M) (k : Grow b c N) (hN : ∀ x, x < a.heap.size → N x → M x) : Grow a c M :=
 ⟨⟨Nat.le_trans h.size k.size, fun x hx hm => by rw [k.same x (Nat.lt_of_lt_of_le hx h.size) (fun hn => hm (hN x hx hn)), h.same x hx hm]⟩,
 fun x hx => by rw [k.row x (Nat.lt_of_lt_of_le hx h.size), h.row x hx]⟩
theorem alloc_size (w : World) (o : _root_.Go.Obj) : (w.alloc o).heap.size = w.heap.size + 1 := by show (w.heap.push o).size = _; simp
theorem grow_alloc (w : World) (o : _root_.Go.Obj) (M : Nat → Prop) : Grow w (w.alloc o) M where
 size := by rw [alloc_size]; omega
 same := fun b hb _ => Below.heap_alloc w o b hb
 row := fun b hb => by
  unfold World.row World.shape?
  rw [Below.heap_alloc w o b hb]
theorem alloc_at (w : World) (o : _root_.Go.Obj) : (w.alloc o).heap[w.heap.size]? = some o := by show (w.heap.push o)[_]? = _; simp
theorem carry_ins {d : Nat} {x : Option Nat} (hd : D d = none) (hx : ∀ b, x = some b → w.heap.size ≤ b) :
  (∀ n e, D n = some e → (D.ins d x) n = some e) ∧ (∀ b, b < w.heap.size → (D.ins d x).M b → D.M b) := by
 refine ⟨fun n e hn => ?_, fun b hb hM => ?_⟩
 ·unfold Names.ins
  split
  ·rename_i h; subst h; rw [hd] at hn; cases hn
  ·exact hn
 ·cases x with
  | none =>
   obtain ⟨n, hn⟩ := hM
   unfold Names.ins at hn
   split at hn
   ·cases hn
   ·exact ⟨n, hn⟩
  | some c =>
   rcases Names.ins_M hM with h | h
   ·exact h
   ·have := hx c rfl; omega
theorem Mem.fresh {w0 w : World} {M0 : Nat → Prop} (hm : Mem w0 M0 objs D w) {d : Nat} (hd : look d objs = none) (hK : d < top) : D d = none := by
 have := hm.dom d hK
 rw [hd] at this
 simpa using this
theorem Mem.alloc {w0 w : World} {M0 : Nat → Prop} (hm : Mem w0 M0 objs D w) {d : Nat} (hd : look d objs = none) (hK : d < top) (o : _root_.Go.Obj) (obj : Obj)
  (hrep : ObjRep (w.alloc o) (D.ins d (some w.heap.size)) obj (some w.heap.size)) : Mem w0 M0 ((d, obj) :: objs) (D.ins d (some w.heap.size)) (w.alloc o) := by
 have hfr := hm.fresh hd hK
 have kg := grow_alloc w o D.M
 obtain ⟨c1, c2⟩ := carry_ins (w := w) (x := some w.heap.size) hfr (fun b h => by cases h; exact Nat.le_refl _)
 refine ⟨fun n hn => ?_, fun n hn => ?_, fun n ob e hl hn => ?_, fun n m b h1 h2 => ?_, fun b hb => ?_, fun b hb => ?_, ?_, hm.os, hm.tape, hm.output, hm.glob.mono kg.toKeep c2⟩
 ·unfold Names.ins
  by_cases h : n = d
  ·subst h; simp [look]
  ·simp only [h, if_false, look, if_neg (Ne.symm h)]; exact hm.dom n hn
 ·by_cases h : n = d
  ·subst h; exact hK
  ·simp only [look, if_neg (Ne.symm h)] at hn; exact hm.small n hn
 ·by_cases h : n = d
  ·subst h
   simp only [look, if_true, Option.some.injEq] at hl
   subst hl
   simp only [Names.ins, if_true, Option.some.injEq] at hn
   subst hn
   exact hrep
  ·simp only [look, if_neg (Ne.symm h)] at hl
   simp only [Names.ins, h, if_false] at hn
   exact (hm.rep n ob e hl hn).mono kg c1 hm.lt c2 (fun b hb => Below.heap_alloc w o b (hm.lt b ⟨n, by rw [hn, hb]⟩))
 ·unfold Names.ins at h1 h2
  split at h1 <;> split at h2
  ·simp_all
  ·simp only [Option.some.injEq] at h1; subst h1
   exact absurd (hm.lt _ ⟨m, h2⟩) (by omega)
  ·simp only [Option.some.injEq] at h2; subst h2
   exact absurd (hm.lt _ ⟨n, h1⟩) (by omega)
  ·exact hm.inj n m b h1 h2
 ·rcases Names.ins_M hb with h | h
  ·have := hm.lt b h; rw [alloc_size]; omega
  ·rw [alloc_size]; omega
 ·obtain ⟨n, hn, hb⟩ := hb
  unfold Names.ins at hb
  split at hb
  ·simp only [Option.some.injEq] at hb; right; rw [← hb]; exact hm.grow.size
  ·exact hm.own b ⟨n, hn, hb⟩
 ·exact hm.grow.trans (grow_alloc w o (fun _ => False)) (fun _ _ h => h.elim)
def kill (n : Nat) : AV → AV
 | .msl m sz off len => if m = n then .any else .msl m sz off len
 | .ref m sz i off => if m = n then .any else .ref m sz i off
 | .wrp f ns => if n ∈ ns then .any else .wrp f ns
 | x => x
theorem imm_any (w : World) (D : Names) (v : Value) : Cell w D .any v := by simp only [Cell]; exact .any v
theorem carry_kill (n : Nat) : Carry w w D (D.del n) (kill n) where
 cell := fun x v h => by
  cases x with
  | msl m sz off len =>
   simp only [kill]
   split
   ·exact imm_any _ _ _
   ·rename_i hne
    have hdel : (D.del n) m = D m := by simp [Names.del, hne]
    rcases h with ⟨h1, h2⟩ | ⟨b, cap, N, h1, h2⟩
    ·exact .inl ⟨by rw [hdel]; exact h1, h2⟩
    ·exact .inr ⟨b, cap, N, by rw [hdel]; exact h1, h2⟩
  | ref m sz i off =>
   simp only [kill]
   split
   ·exact imm_any _ _ _
   ·rename_i hne
    obtain ⟨b, h1, h2⟩ := h
    exact ⟨b, by simp [Names.del, hne, h1], h2⟩
  | wrp f ns =>
   simp only [kill]
   split
   ·exact imm_any _ _ _
   ·rename_i hne
    obtain ⟨bs, h1, h2, h3⟩ := h
    refine ⟨bs, h1, fun i m b hi hb => ?_, h3⟩
    have hmn : m ≠ n := fun e => hne (by subst e; exact List.mem_of_getElem? hi)
    simp [Names.del, hmn, h2 i m b hi hb]
  | _ =>
   simp only [kill, Cell] at h ⊢
   exact h.mono (Grow.refl w _).toKeep (fun b _ hM => Names.del_M hM)
theorem objRep_map {φ : AV → AV} (c : Carry w w' D D' φ) (k : Keep w w' D.M) (hM : ∀ b, b < w.heap.size → D'.M b → D.M b) {o : Obj} {d : Option Nat} (h : ObjRep w D o d)
  (hb : ∀ b, d = some b → w'.heap[b]? = w.heap[b]?) : ObjRep w' D' (objMap φ o) d := by
 cases o with
 | box cs =>
  cases d with
  | none => exact h.elim
  | some b =>
   obtain ⟨vs, T, h1, h2, h3⟩ := h
   refine ⟨vs, T, by rw [hb b rfl]; exact h1, by simp [h2], fun i x hx => ?_⟩
   rw [List.getElem?_map] at hx
   obtain ⟨z, hz, rfl⟩ := Option.map_eq_some_iff.1 hx
   exact ⟨c.cell _ _ (h3 i z hz).1, (h3 i z hz).2⟩
 | arr sz l =>
  cases d with
  | none => exact h
  | some b =>
   obtain ⟨vs, T, fz, h1, h2, h3, h4, h5, h6⟩ := h
   exact ⟨vs, T, fz, by rw [hb b rfl]; exact h1, h2, h3, h4, h5, fun j cs i x hj hi => ⟨(h6 j cs i x hj hi).1.mono k hM, (h6 j cs i x hj hi).2⟩⟩
 | mp kk k l =>
  cases d with
  | none => exact h.elim
  | some b =>
   obtain ⟨es, clock, h1, h2⟩ := h
   exact ⟨es, clock, by rw [hb b rfl]; exact h1, h2⟩
theorem Mem.letgo {w0 w : World} {M0 : Nat → Prop} (hm : Mem w0 M0 objs D w) (n : Nat) {φ : AV → AV} (c : Carry w w D (D.del n) φ) : Mem w0 M0 (mapO φ (drop n objs)) (D.del n) w := by
 refine ⟨fun m hK => ?_, fun m hK => ?_, fun m o d hl hn => ?_, fun a b x h1 h2 => ?_, fun b hb => hm.lt b (Names.del_M hb), fun b hb => ?_, hm.grow, hm.os, hm.tape, hm.output, hm.glob.mono (Grow.refl w _).toKeep fun b _ hM => Names.del_M hM⟩
 ·rw [look_mapO]
  by_cases h : m = n
  ·subst h; simp [Names.del, look_drop]
  ·simp only [Names.del, h, if_false, look_drop_ne (Ne.symm h), Option.isSome_map]; exact hm.dom m hK
 ·rw [look_mapO, Option.isSome_map] at hK
  by_cases h : m = n
  ·subst h; simp [look_drop] at hK
  ·rw [look_drop_ne (Ne.symm h)] at hK; exact hm.small m hK
 ·rw [look_mapO] at hl
  obtain ⟨o', ho, rfl⟩ := Option.map_eq_some_iff.1 hl
  by_cases h : m = n
  ·subst h; simp [look_drop] at ho
  ·rw [look_drop_ne (Ne.symm h)] at ho
   simp only [Names.del, h, if_false] at hn
   exact objRep_map c (Grow.refl w _).toKeep (fun b _ hM => Names.del_M hM) (hm.rep m o' d ho hn) (fun _ _ => rfl)
 ·unfold Names.del at h1 h2
  split at h1
  ·cases h1
  ·split at h2
   ·cases h2
   ·exact hm.inj a b x h1 h2
 ·obtain ⟨m, hK, hb⟩ := hb
  unfold Names.del at hb
  split at hb
  ·cases hb
  ·exact hm.own b ⟨m, hK, hb⟩
end Go.Abs
namespace Go.Abs
open Go.RowKit
variable {objs : List (Nat × Obj)} {w : World} {D : Names}
theorem carry_kill' {w w' : World} {D D' : Names} {m : Nat} (k : Grow w w' D.M) (hlt : ∀ b, D.M b → b < w.heap.size) (hn : ∀ n e, n ≠ m → D n = some e → D' n = some e)
  (hM : ∀ b, b < w.heap.size → D'.M b → D.M b) : Carry w w' D D' (kill m) where
 cell := fun x v h => by
  cases x with
  | msl n sz off len =>
   simp only [kill]
   split
   ·exact imm_any _ _ _
   ·rename_i hne
    rcases h with ⟨h1, h2⟩ | ⟨b, cap, N, h1, h2, h3, h4, h5⟩
    ·obtain ⟨e, he⟩ := Option.isSome_iff_exists.1 h1
     exact .inl ⟨by rw [hn n e hne he]; rfl, h2⟩
    ·exact .inr ⟨b, cap, N, hn _ _ hne h1, h2, h3, by rw [k.row b (hlt b ⟨n, h1⟩)]; exact h4, h5⟩
  | ref n sz i off =>
   simp only [kill]
   split
   ·exact imm_any _ _ _
   ·rename_i hne
    obtain ⟨b, h1, h2⟩ := h
    exact ⟨b, hn _ _ hne h1, h2⟩
  | wrp f ns =>
   simp only [kill]
   split
   ·exact imm_any _ _ _
   ·rename_i hne
    obtain ⟨bs, h1, h2, h3⟩ := h
    refine ⟨bs, h1, fun i n b hi hb => ?_, h3⟩
    have hnm : n ≠ m := fun e => hne (by subst e; exact List.mem_of_getElem? hi)
    exact hn _ _ hnm (h2 i n b hi hb)
  | _ =>
   simp only [kill, Cell] at h ⊢
   exact h.mono k.toKeep hM
theorem Mem.step {w0 w w' : World} {M0 : Nat → Prop} (hm : Mem w0 M0 objs D w) {m d : Nat} {y : Option Nat} {obj : Obj} (hd : look d (drop m objs) = none) (hK : d < top)
  (c : Carry w w' D ((D.del m).ins d y) (kill m)) (kN : Grow w w' D.N)
  (hmK : ∀ b, D m = some (some b) → m < top) (hy : ∀ b, y = some b → b < w'.heap.size ∧ (w.heap.size ≤ b ∨ D m = some (some b))) (hoth : ∀ b, D.M b → D m ≠ some (some b) → w'.heap[b]? = w.heap[b]?)
  (hrep : ObjRep w' ((D.del m).ins d y) obj y) (hos : w'.os = w.os) (htape : w'.tape = w.tape) (hout : w'.output = w.output) :
  Mem w0 M0 ((d, obj) :: mapO (kill m) (drop m objs)) ((D.del m).ins d y) w' := by
 have k : Grow w w' D.M := kN.weaken (fun _ _ h => Names.N_M h)
 have hM : ∀ b, b < w.heap.size → ((D.del m).ins d y).M b → D.M b := by
  rintro b hb ⟨n, hn⟩
  unfold Names.ins at hn
  split at hn
  ·simp only [Option.some.injEq] at hn
   rcases (hy b hn).2 with h | h
   ·omega
   ·exact ⟨m, h⟩
  ·exact Names.del_M ⟨n, hn⟩
 have hdel : (D.del m) d = none := by
  unfold Names.del
  split
  ·rfl
  ·rename_i hne
   rw [look_drop_ne (Ne.symm hne)] at hd
   exact hm.fresh hd hK
 have sep : ∀ n b, n ≠ d → ((D.del m).ins d y) n = some (some b) → D n = some (some b) ∧ n ≠ m := by
  intro n b hne hn
  simp only [Names.ins, hne, if_false, Names.del] at hn
  split at hn
  ·cases hn
  ·exact ⟨hn, by assumption⟩
 refine ⟨fun n hn => ?_, fun n hn => ?_, fun n ob e hl hn => ?_, fun n p b h1 h2 => ?_, fun b hb => ?_, fun b hb => ?_, ?_, hos.trans hm.os, htape.trans hm.tape, hout.trans hm.output, hm.glob.mono k.toKeep hM⟩
 ·unfold Names.ins
  by_cases h : n = d
  ·subst h; simp [look]
  ·simp only [h, if_false, look, if_neg (Ne.symm h), look_mapO, Option.isSome_map]
   by_cases h' : n = m
   ·subst h'; simp [Names.del, look_drop]
   ·simp only [Names.del, h', if_false, look_drop_ne (Ne.symm h')]; exact hm.dom n hn
 ·by_cases h : n = d
  ·subst h; exact hK
  ·simp only [look, if_neg (Ne.symm h), look_mapO, Option.isSome_map] at hn
   by_cases h' : n = m
   ·subst h'; simp [look_drop] at hn
   ·rw [look_drop_ne (Ne.symm h')] at hn; exact hm.small n hn
 ·by_cases h : n = d
  ·subst h
   simp only [look, if_true, Option.some.injEq] at hl
   subst hl
   simp only [Names.ins, if_true, Option.some.injEq] at hn
   subst hn
   exact hrep
  ·simp only [look, if_neg (Ne.symm h), look_mapO] at hl
   obtain ⟨o', ho, rfl⟩ := Option.map_eq_some_iff.1 hl
   simp only [Names.ins, h, if_false, Names.del] at hn
   split at hn
   ·cases hn
   ·rename_i hnm
    rw [look_drop_ne (Ne.symm hnm)] at ho
    refine objRep_map c k.toKeep hM (hm.rep n o' e ho hn) (fun b hb => hoth b ⟨n, by rw [hn, hb]⟩ (fun hc => ?_))
    exact hnm (hm.inj n m b (by rw [hn, hb]) hc)
 ·by_cases e1 : n = d
  ·by_cases e2 : p = d
   ·rw [e1, e2]
   ·exfalso
    obtain ⟨g1, g2⟩ := sep p b e2 h2
    simp only [Names.ins, e1, if_true, Option.some.injEq] at h1
    rcases (hy b h1).2 with h | h
    ·have := hm.lt b ⟨p, g1⟩; omega
    ·exact g2 (hm.inj p m b g1 h)
  ·by_cases e2 : p = d
   ·exfalso
    obtain ⟨g1, g2⟩ := sep n b e1 h1
    simp only [Names.ins, e2, if_true, Option.some.injEq] at h2
    rcases (hy b h2).2 with h | h
    ·have := hm.lt b ⟨n, g1⟩; omega
    ·exact g2 (hm.inj n m b g1 h)
   ·exact hm.inj n p b (sep n b e1 h1).1 (sep p b e2 h2).1
 ·obtain ⟨n, hn⟩ := hb
  by_cases e1 : n = d
  ·simp only [Names.ins, e1, if_true, Option.some.injEq] at hn
   exact (hy b hn).1
  ·exact Nat.lt_of_lt_of_le (hm.lt b ⟨n, (sep n b e1 hn).1⟩) k.size
 ·obtain ⟨n, hnK, hn⟩ := hb
  by_cases e1 : n = d
  ·simp only [Names.ins, e1, if_true, Option.some.injEq] at hn
   rcases (hy b hn).2 with h | h
   ·right; exact Nat.le_trans hm.grow.size h
   ·exact hm.own b ⟨m, hmK b h, h⟩
  ·exact hm.own b ⟨n, hnK, (sep n b e1 hn).1⟩
 ·exact hm.grow.trans kN (fun x hx hD => by
   rcases hm.own x hD with h | h
   ·exact h
   ·omega)
theorem Mem.upd {w0 w w' : World} {M0 : Nat → Prop} (hm : Mem w0 M0 objs D w) {n b : Nat} {obj obj' : Obj} (hl : look n objs = some obj) (hD : D n = some (some b)) (kN : Grow w w' D.N)
  (hoth : ∀ c, c ≠ b → w'.heap[c]? = w.heap[c]?) (hrep : ObjRep w' D obj' (some b)) (hos : w'.os = w.os) (htape : w'.tape = w.tape) (hout : w'.output = w.output) : Mem w0 M0 (upd n obj' objs) D w' := by
 have k : Grow w w' D.M := kN.weaken (fun _ _ h => Names.N_M h)
 refine ⟨fun m hK => ?_, fun m hK => ?_, fun m o d h1 h2 => ?_, hm.inj, fun c hc => Nat.lt_of_lt_of_le (hm.lt c hc) k.size, hm.own, ?_, hos.trans hm.os, htape.trans hm.tape, hout.trans hm.output, hm.glob.mono k.toKeep fun _ _ h => h⟩
 ·by_cases h : m = n
  ·subst h; rw [look_upd obj' objs (by simp [hl])]; simp [hD]
  ·rw [look_upd_ne obj' (Ne.symm h)]; exact hm.dom m hK
 ·by_cases h : m = n
  ·subst h; exact hm.small m (by simp [hl])
  ·rw [look_upd_ne obj' (Ne.symm h)] at hK; exact hm.small m hK
 ·by_cases h : m = n
  ·subst h
   rw [look_upd obj' objs (by simp [hl])] at h1
   simp only [Option.some.injEq] at h1; subst h1
   rw [hD] at h2; simp only [Option.some.injEq] at h2; subst h2
   exact hrep
  ·rw [look_upd_ne obj' (Ne.symm h)] at h1
   exact (hm.rep m o d h1 h2).mono k (fun _ _ h => h) hm.lt (fun _ _ h => h) (fun c hc => hoth c (fun e => h (hm.inj m n b (by rw [h2, hc, e]) hD)))
 ·exact hm.grow.trans kN (fun x hx hD => by
   rcases hm.own x hD with h | h
   ·exact h
   ·omega)
theorem Mem.drew {w0 w : World} {M0 : Nat → Prop} (hm : Mem w0 M0 objs D w) : Mem w0 M0 objs D w.drew := by
 have g : Grow w w.drew D.M := ⟨⟨Nat.le_refl _, fun _ _ _ => rfl⟩, fun _ _ => rfl⟩
 exact ⟨hm.dom, hm.small, fun n o d h1 h2 => (hm.rep n o d h1 h2).mono g (fun _ _ h => h) hm.lt (fun _ _ h => h) (fun _ _ => rfl), hm.inj, hm.lt, hm.own,
  hm.grow.trans (⟨⟨Nat.le_refl _, fun _ _ _ => rfl⟩, fun _ _ => rfl⟩ : Grow w w.drew (fun _ => False)) (fun _ _ h => h.elim), hm.os, hm.tape, hm.output, hm.glob.mono g.toKeep fun _ _ h => h⟩
theorem grow_setRow {b : Nat} {old cs : Array Value} {T : TypeId} {fz : Nat × Nat} (hg : w.heap[b]? = some (.cells old T fz)) (hs : cs.size = old.size) {M : Nat → Prop} (hM : M b) : Grow w (w.setRow b cs) M where
 size := by rw [setRow_size]; exact Nat.le_refl _
 same := fun c _ hc => setRow_other w b c cs (fun e => hc (e ▸ hM))
 row := fun c _ => by
  by_cases h : c = b
  ·subst h; simp [World.row, World.shape?, setRow_heap w c old cs T fz hg, hg, hs]
  ·simp [World.row, World.shape?, setRow_other w b c cs h]
theorem run_storeCells_un {P : Program} (g : Nat) (t : TypeId) (fz : Nat × Nat) : ∀ (vs : List Value) (o i : Nat) (cur : Array Value) (w : World), w.heap[g]? = some (.cells cur t fz) → unfrozen fz cur.size → o + i + vs.length ≤ cur.size → (∀ v ∈ vs, v.oneCell' = true) →
  (storeCells ⟨g, o, none⟩ vs i).run P w = .ok () (w.setRow g (cur.toList.take (o + i) ++ (vs ++ cur.toList.drop (o + i + vs.length))).toArray)
 | [], o, i, cur, w, hg, _, _, _ => by
  simp only [storeCells, List.nil_append, List.length_nil, Nat.add_zero, List.take_append_drop, Array.toArray_toList]
  rw [setRow_self w g cur t fz hg]
  rfl
 | v :: rest, o, i, cur, w, hg, hu, hl, h1 => by
  have hi : o + i < cur.size := by simp at hl; omega
  have hcell : w.cell? ⟨g, o + i, none⟩ = some cur[o + i] := by simp [World.cell?, hg, hi]
  have hfro : w.frozen? ⟨g, o + i, none⟩ = false := by
   have := hu (o + i) hi
   simp only [World.frozen?, hg]
   simpa using this
  have hst : (store ((⟨g, o, none⟩ : Addr).add i) v).run P w = .ok () (w.setRow g (cur.setIfInBounds (o + i) v)) := by
   rw [addr_add, run_store P w _ v _ (h1 v (by simp)), hcell]
   simp [hfro, setCell_eq_setRow w g (o + i) cur t fz v hg]
  have ih := run_storeCells_un (P := P) g t fz rest o (i + 1) (cur.setIfInBounds (o + i) v) (w.setRow g (cur.setIfInBounds (o + i) v)) (setRow_heap w g cur _ t _ hg) (by simpa using hu) (by simp at hl ⊢; omega) (fun x hx => h1 x (by simp [hx]))
  simp only [storeCells, Sem.run_bind, hst, Result.andThen_ok, ih, setRow_setRow]
  congr 3
  have hlt : o + i < cur.toList.length := by simpa using hi
  simp only [Array.toList_setIfInBounds]
  have e1 : (cur.toList.set (o + i) v).take (o + (i + 1)) = cur.toList.take (o + i) ++ [v] := by
   rw [← Nat.add_assoc, List.take_succ_eq_append_getElem (by simpa using hlt), List.take_set_of_le (Nat.le_refl _)]
   simp
  have e2 : (cur.toList.set (o + i) v).drop (o + (i + 1) + rest.length) = cur.toList.drop (o + i + (v :: rest).length) := by
   rw [List.drop_set_of_lt (by omega)]
   simp only [List.length_cons]
   congr 1
   omega
  rw [e1, e2]
  simp [List.append_assoc]
end Go.Abs
