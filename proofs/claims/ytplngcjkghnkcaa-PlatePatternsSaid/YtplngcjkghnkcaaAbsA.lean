/- Abstract values and states: what a value and a world of the model stand for. Program-independent. -/
import Derived.WalkKit
import Derived.Deep.Quiet
namespace Go.Abs
open Go.RowKit

inductive AV where
  | any
  | und
  | int (k : IntKind) (n : Int)
  | bool (b : Bool)
  | str (s : List UInt8)
  | agg (l : List AV)
  | tup (l : List AV)
  | nsl
  | sl (sz : Nat) (l : List (List AV))
  | msl (n sz off len : Nat)
  | at_ (cs : List AV)
  | ref (n sz i off : Nat)
  deriving Inhabited

def lim : Nat := 140737488355328

/-- What an immutable cell value stands for; memory is read outside the blocks in M. -/
inductive Imm (w : World) (M : Nat → Prop) : AV → Value → Prop
  | any (v : Value) : Imm w M .any v
  | und : Imm w M .und undef
  | int (k : IntKind) (n : Int) : Imm w M (.int k n) (.int k n)
  | bool (b : Bool) : Imm w M (.bool b) (.bool b)
  | str (s : List UInt8) (hn : s.length ≤ lim) : Imm w M (.str s) (.string ⟨s.toArray⟩)
  | nsl : Imm w M .nsl (.slice none 0 0)
  | slnil (sz : Nat) (a : Option Addr) (cap : Nat) : Imm w M (.sl sz []) (.slice a 0 cap)
  | sl (sz : Nat) (l : List (List AV)) (b off cap : Nat) (f : Nat → Nat → Value) (hb : b < w.heap.size) (hM : ¬ M b) (hcap : l.length ≤ cap) (hn : l.length ≤ lim)
      (hs : ∀ (j : Nat) (cs : List AV), l[j]? = some cs → cs.length = sz)
      (hc : ∀ (j : Nat) (cs : List AV) (i : Nat) (x : AV), l[j]? = some cs → cs[i]? = some x → w.cell? ⟨b, off + (j * sz + i), none⟩ = some (f j i))
      (h1 : ∀ (j : Nat) (cs : List AV) (i : Nat) (x : AV), l[j]? = some cs → cs[i]? = some x → (f j i).oneCell' = true)
      (h : ∀ (j : Nat) (cs : List AV) (i : Nat) (x : AV), l[j]? = some cs → cs[i]? = some x → Imm w M x (f j i)) :
      Imm w M (.sl sz l) (.slice (some ⟨b, off, none⟩) l.length cap)
  | at_ (cs : List AV) (b off : Nat) (f : Nat → Value) (hb : b < w.heap.size) (hM : ¬ M b)
      (hc : ∀ (i : Nat) (x : AV), cs[i]? = some x → w.cell? ⟨b, off + i, none⟩ = some (f i))
      (h1 : ∀ (i : Nat) (x : AV), cs[i]? = some x → (f i).oneCell' = true)
      (h : ∀ (i : Nat) (x : AV), cs[i]? = some x → Imm w M x (f i)) :
      Imm w M (.at_ cs) (.pointer (some ⟨b, off, none⟩))

/-- What was there outside M is as it was. -/
structure Keep (w w' : World) (M : Nat → Prop) : Prop where
  size : w.heap.size ≤ w'.heap.size
  same : ∀ b, b < w.heap.size → ¬ M b → w'.heap[b]? = w.heap[b]?

theorem Keep.cell {w w' : World} {M : Nat → Prop} (k : Keep w w' M) {b o : Nat} (hb : b < w.heap.size) (hM : ¬ M b) : w'.cell? ⟨b, o, none⟩ = w.cell? ⟨b, o, none⟩ :=
  World.cell?_of_block (w := w) (a := ⟨b, o, none⟩) (k.same b hb hM)

theorem Imm.mono {w w' : World} {M M' : Nat → Prop} {x : AV} {v : Value} (h : Imm w M x v) (k : Keep w w' M) (hM : ∀ b, b < w.heap.size → M' b → M b) : Imm w' M' x v := by
  induction h with
  | any v => exact .any v
  | und => exact .und
  | int k n => exact .int k n
  | bool b => exact .bool b
  | str s hn => exact .str s hn
  | nsl => exact .nsl
  | slnil sz a cap => exact .slnil sz a cap
  | sl sz l b off cap f hb hM' hcap hn hs hc h1 _ ih =>
    exact .sl sz l b off cap f (Nat.lt_of_lt_of_le hb k.size) (fun hm => hM' (hM b hb hm)) hcap hn hs (fun j cs i x hj hi => by rw [k.cell hb hM']; exact hc j cs i x hj hi) h1 (fun j cs i x hj hi => ih j cs i x hj hi)
  | at_ cs b off f hb hM' hc h1 _ ih =>
    exact .at_ cs b off f (Nat.lt_of_lt_of_le hb k.size) (fun hm => hM' (hM b hb hm)) (fun i x hi => by rw [k.cell hb hM']; exact hc i x hi) h1 (fun i x hi => ih i x hi)

/-- The names of the objects that the call may write: none: not there; some none: a nil slice; some (some b): block b. -/
abbrev Names := Nat → Option (Option Nat)
def Names.M (D : Names) : Nat → Prop := fun b => ∃ n, D n = some (some b)
/-- Names from here on are of objects of those who called: they are known to be there, no more. -/
def top : Nat := 1000000
def Names.N (D : Names) : Nat → Prop := fun b => ∃ n, n < top ∧ D n = some (some b)
theorem Names.N_M {D : Names} {b : Nat} (h : D.N b) : D.M b := let ⟨n, _, h⟩ := h; ⟨n, h⟩

def World.row (w : World) (b : Nat) : Option Nat := (w.shape? b).map (·.2)

def Cell (w : World) (D : Names) : AV → Value → Prop
  | .msl n sz off len, v => ((D n).isSome = true ∧ len = 0 ∧ ∃ a, v = .slice a 0 0) ∨
      ∃ b cap N, D n = some (some b) ∧ v = .slice (some ⟨b, off * sz, none⟩) len cap ∧ len ≤ cap ∧ World.row w b = some N ∧ (off + cap) * sz ≤ N
  | .ref n sz i off, v => ∃ b, D n = some (some b) ∧ v = .pointer (some ⟨b, i * sz + off, none⟩)
  | x, v => Imm w D.M x v

def Val (w : World) (D : Names) : AV → Value → Prop
  | .agg l, v => ∃ vs : List Value, v = .agg vs.toArray ∧ vs.length = l.length ∧ ∀ (i : Nat) (x : AV), l[i]? = some x → Cell w D x (vs.getD i undef) ∧ (vs.getD i undef).oneCell' = true
  | x, v => Cell w D x v

def Slot (w : World) (D : Names) : AV → Value → Prop
  | .tup l, v => ∃ vs : List Value, v = .tuple vs.toArray ∧ vs.length = l.length ∧ ∀ (i : Nat) (x : AV), l[i]? = some x → Val w D x (vs.getD i undef)
  | x, v => Val w D x v

/-- All blocks that were there are as they were, or may have been written by the call itself (those in M): sizes never change. -/
structure Grow (w w' : World) (M : Nat → Prop) : Prop extends Keep w w' M where
  row : ∀ b, b < w.heap.size → World.row w' b = World.row w b

theorem Cell.mono {w w' : World} {D D' : Names} {x : AV} {v : Value} (h : Cell w D x v) (k : Grow w w' D.M) (hD : ∀ n d, D n = some d → D' n = some d) (hlt : ∀ b, D.M b → b < w.heap.size)
    (hM : ∀ b, b < w.heap.size → D'.M b → D.M b) : Cell w' D' x v := by
  cases x with
  | msl n sz off len =>
    rcases h with ⟨h1, h2⟩ | ⟨b, cap, N, h1, h2, h3, h4, h5⟩
    · refine .inl ⟨?_, h2⟩
      cases hd : D n with
      | none => simp [hd] at h1
      | some d => simp [hD _ _ hd]
    · exact .inr ⟨b, cap, N, hD _ _ h1, h2, h3, by rw [k.row b (hlt b ⟨n, h1⟩)]; exact h4, h5⟩
  | ref n sz i off => obtain ⟨b, h1, h2⟩ := h; exact ⟨b, hD _ _ h1, h2⟩
  | _ => exact Imm.mono h k.toKeep hM

theorem Val.mono {w w' : World} {D D' : Names} {x : AV} {v : Value} (h : Val w D x v) (k : Grow w w' D.M) (hD : ∀ n d, D n = some d → D' n = some d) (hlt : ∀ b, D.M b → b < w.heap.size)
    (hM : ∀ b, b < w.heap.size → D'.M b → D.M b) : Val w' D' x v := by
  cases x with
  | agg l => obtain ⟨vs, h1, h2, h3⟩ := h; exact ⟨vs, h1, h2, fun i x hx => ⟨(h3 i x hx).1.mono k hD hlt hM, (h3 i x hx).2⟩⟩
  | _ => simp only [Val] at h ⊢; exact h.mono k hD hlt hM

theorem Slot.mono {w w' : World} {D D' : Names} {x : AV} {v : Value} (h : Slot w D x v) (k : Grow w w' D.M) (hD : ∀ n d, D n = some d → D' n = some d) (hlt : ∀ b, D.M b → b < w.heap.size)
    (hM : ∀ b, b < w.heap.size → D'.M b → D.M b) : Slot w' D' x v := by
  cases x with
  | tup l => obtain ⟨vs, h1, h2, h3⟩ := h; exact ⟨vs, h1, h2, fun i x hx => (h3 i x hx).mono k hD hlt hM⟩
  | _ => simp only [Slot] at h ⊢; exact h.mono k hD hlt hM

inductive Obj where
  | box (cs : List AV)
  | arr (sz : Nat) (l : List (List AV))
  deriving Inhabited

def unfrozen (fz : Nat × Nat) (n : Nat) : Prop := ∀ j, j < n → ¬ (fz.1 ≤ j ∧ j < fz.2)

def ObjRep (w : World) (D : Names) : Obj → Option Nat → Prop
  | .box _, none => False
  | .box cs, some b => ∃ (vs : List Value) (T : TypeId), w.heap[b]? = some (.cells vs.toArray T (0, 0)) ∧ vs.length = cs.length ∧
      ∀ (i : Nat) (x : AV), cs[i]? = some x → Cell w D x (vs.getD i undef) ∧ (vs.getD i undef).oneCell' = true
  | .arr _ l, none => l = []
  | .arr sz l, some b => ∃ (vs : List Value) (T : TypeId) (fz : Nat × Nat), w.heap[b]? = some (.cells vs.toArray T fz) ∧ unfrozen fz vs.length ∧ l.length ≤ lim ∧ l.length * sz ≤ vs.length ∧
      (∀ (j : Nat) (cs : List AV), l[j]? = some cs → cs.length = sz) ∧
      ∀ (j : Nat) (cs : List AV) (i : Nat) (x : AV), l[j]? = some cs → cs[i]? = some x → Imm w D.M x (vs.getD (j * sz + i) undef) ∧ (vs.getD (j * sz + i) undef).oneCell' = true

theorem ObjRep.mono {w w' : World} {D D' : Names} {o : Obj} {d : Option Nat} (h : ObjRep w D o d) (k : Grow w w' D.M) (hD : ∀ n d, D n = some d → D' n = some d) (hlt : ∀ b, D.M b → b < w.heap.size)
    (hM : ∀ b, b < w.heap.size → D'.M b → D.M b) (hb : ∀ b, d = some b → w'.heap[b]? = w.heap[b]?) : ObjRep w' D' o d := by
  cases o with
  | box cs =>
    cases d with
    | none => exact h.elim
    | some b =>
      obtain ⟨vs, T, h1, h2, h3⟩ := h
      exact ⟨vs, T, by rw [hb b rfl]; exact h1, h2, fun i x hx => ⟨(h3 i x hx).1.mono k hD hlt hM, (h3 i x hx).2⟩⟩
  | arr sz l =>
    cases d with
    | none => exact h
    | some b =>
      obtain ⟨vs, T, fz, h1, h2, h3, h4, h5, h6⟩ := h
      exact ⟨vs, T, fz, by rw [hb b rfl]; exact h1, h2, h3, h4, h5, fun j cs i x hj hi => ⟨(h6 j cs i x hj hi).1.mono k.toKeep hM, (h6 j cs i x hj hi).2⟩⟩

structure St where
  env : List AV
  objs : List (Nat × Obj)
  deriving Inhabited

def look (n : Nat) : List (Nat × Obj) → Option Obj
  | [] => none
  | (m, o) :: r => if m = n then some o else look n r
def drop (n : Nat) : List (Nat × Obj) → List (Nat × Obj)
  | [] => []
  | (m, o) :: r => if m = n then drop n r else (m, o) :: drop n r
def upd (n : Nat) (o : Obj) : List (Nat × Obj) → List (Nat × Obj)
  | [] => []
  | (m, p) :: r => if m = n then (m, o) :: upd n o r else (m, p) :: upd n o r

theorem look_drop_ne {n m : Nat} (h : n ≠ m) : ∀ l, look m (drop n l) = look m l
  | [] => rfl
  | (k, o) :: r => by
    have ih := look_drop_ne h r
    by_cases hk : k = n
    · subst hk; simp [drop, look, h, ih]
    · by_cases hm : k = m
      · subst hm; simp [drop, look, hk]
      · simp [drop, look, hk, hm, ih]
theorem look_drop (n : Nat) : ∀ l, look n (drop n l) = none
  | [] => rfl
  | (k, o) :: r => by
    have ih := look_drop n r
    by_cases hk : k = n
    · simp [drop, hk, ih]
    · simp [drop, look, hk, ih]
theorem look_upd_ne {n m : Nat} (o : Obj) (h : n ≠ m) : ∀ l, look m (upd n o l) = look m l
  | [] => rfl
  | (k, p) :: r => by
    have ih := look_upd_ne o h r
    by_cases hk : k = n
    · subst hk; simp [upd, look, h, ih]
    · by_cases hm : k = m
      · subst hm; simp [upd, look, hk]
      · simp [upd, look, hk, hm, ih]
theorem look_upd {n : Nat} (o : Obj) : ∀ l, (look n l).isSome → look n (upd n o l) = some o
  | [], h => by simp [look] at h
  | (k, p) :: r, h => by
    by_cases hk : k = n
    · simp [upd, look, hk]
    · simp only [look, hk, if_false] at h
      simp [upd, look, hk, look_upd o r h]

/-- The objects: each has its block, different ones different blocks; all of them are of the call (or were handed to it: M0). -/
structure Mem (w0 : World) (M0 : Nat → Prop) (objs : List (Nat × Obj)) (D : Names) (w : World) : Prop where
  dom : ∀ n, n < top → (D n).isSome = (look n objs).isSome
  small : ∀ n, (look n objs).isSome = true → n < top
  rep : ∀ n o d, look n objs = some o → D n = some d → ObjRep w D o d
  inj : ∀ n m b, D n = some (some b) → D m = some (some b) → n = m
  lt : ∀ b, D.M b → b < w.heap.size
  own : ∀ b, D.N b → M0 b ∨ w0.heap.size ≤ b
  grow : Grow w0 w M0
  os : w.os = w0.os
  tape : w.tape = w0.tape
  output : w.output = w0.output

end Go.Abs
