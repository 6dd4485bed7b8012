/- The operations that only compute or read: an executable abstract semantics, sound in every world that extends the present one. -/
import Derived.Test.YtplngcjkghnkcaaAbsA
namespace Go.Abs
open Go.RowKit

def ofC : Value → AV
  | .int k n => .int k n
  | .bool b => .bool b
  | .string s => if s.size ≤ lim then .str s.data.toList else .any
  | .slice none 0 0 => .nsl
  | _ => .any
def ofV : Value → AV
  | .agg cs => if cs.toList.all (·.oneCell') then .agg (cs.toList.map ofC) else .any
  | v => ofC v
def ev (env : List AV) : Operand → AV
  | .tmp t => env.getD t .any
  | .const v => ofV v
  | _ => .any

theorem imm_ofC (w : World) (M : Nat → Prop) (v : Value) : Imm w M (ofC v) v := by
  unfold ofC
  split
  · exact .int _ _
  · exact .bool _
  · rename_i s
    split
    · rename_i h
      exact Imm.str (w := w) (M := M) s.data.toList (by rw [Array.length_toList]; exact h)
    · exact .any _
  · exact .nsl
  · exact .any _

theorem Imm.cell {w : World} {D : Names} {x : AV} {v : Value} (h : Imm w D.M x v) : Cell w D x v := by
  cases x with
  | msl => cases h
  | ref => cases h
  | _ => simp only [Cell]; exact h

theorem Imm.slot {w : World} {D : Names} {x : AV} {v : Value} (h : Imm w D.M x v) : Slot w D x v := by
  cases x with
  | msl => cases h
  | ref => cases h
  | agg => cases h
  | tup => cases h
  | _ => simp only [Slot, Val, Cell]; exact h

theorem cell_ofC (w : World) (D : Names) (v : Value) : Cell w D (ofC v) v := (imm_ofC w D.M v).cell

theorem slot_ofV (w : World) (D : Names) (v : Value) : Slot w D (ofV v) v := by
  unfold ofV
  split
  · rename_i cs
    split
    · rename_i h
      refine ⟨cs.toList, by simp, by simp, fun i x hx => ?_⟩
      rw [List.getElem?_map] at hx
      cases hc : cs.toList[i]? with
      | none => simp [hc] at hx
      | some c =>
        simp [hc] at hx
        subst hx
        simp only [List.getD, hc, Option.getD_some]
        refine ⟨cell_ofC w D c, ?_⟩
        have := List.all_eq_true.1 h c (List.mem_of_getElem? hc)
        exact this
    · simp [Slot, Val, Cell]; exact .any _
  · exact (imm_ofC w D.M v).slot

def EnvRep (w : World) (D : Names) (env : List AV) (tmps : Array Value) : Prop :=
  tmps.size = env.length ∧ ∀ (i : Nat) (x : AV), env[i]? = some x → Slot w D x (tmps.getD i undef)

theorem slot_any (w : World) (D : Names) (v : Value) : Slot w D .any v := by simp [Slot, Val, Cell]; exact .any v

theorem ev_sound {w : World} {D : Names} {env : List AV} {a : Act} (h : EnvRep w D env a.tmps) (x : Operand) : Slot w D (ev env x) (a.eval x) := by
  cases x with
  | tmp t =>
    simp only [ev, Act.eval, List.getD]
    cases ht : env[t]? with
    | none => exact slot_any _ _ _
    | some x => exact h.2 t x ht
  | const v => exact slot_ofV w D v
  | global g => exact slot_any _ _ _
  | func f => exact slot_any _ _ _

/-! tables -/
def fieldOf (P : Program) (T k : Nat) : Option (Nat × Bool × Nat) :=
  match P.underlying T with
  | some (.struct fs) => match fs[k]? with
    | some f => match P.info? f.type, P.underlying f.type with
      | some i, some d => if i.size = 0 then none else some (f.offset, (match d with | .struct _ | .array _ _ => true | _ => false), i.size)
      | _, _ => none
    | none => none
  | _ => none
def sliceElem (P : Program) (T : Nat) : Option Nat := match P.underlying T with | some (.slice e) => (P.info? e).map (·.size) | _ => none
def arrElem (P : Program) (T : Nat) : Option (Nat × Nat) := match P.underlying T with | some (.array n e) => (P.info? e).map fun i => (n, i.size) | _ => none
def cellTy (P : Program) (T : Nat) : Option (Bool × Nat) :=
  match P.underlying T, P.info? T with
  | some (.struct _), some i => some (true, i.size)
  | some (.array _ _), some i => some (true, i.size)
  | some _, some i => some (false, i.size)
  | _, _ => none
def intTy (P : Program) (T : Nat) : Option IntKind := match P.underlying T with | some (.int k) => some k | _ => none
def strTy (P : Program) (T : Nat) : Bool := match P.underlying T with | some .string => true | _ => false
def boolTy (P : Program) (T : Nat) : Bool := match P.underlying T with | some .bool => true | _ => false

theorem fieldOf_spec {P : Program} {T k o n : Nat} {g : Bool} (h : fieldOf P T k = some (o, g, n)) :
    ∃ fs f i d, P.underlying T = some (.struct fs) ∧ fs[k]? = some f ∧ P.info? f.type = some i ∧ P.underlying f.type = some d ∧ i.size ≠ 0 ∧ f.offset = o ∧ i.size = n ∧
      g = (match d with | .struct _ | .array _ _ => true | _ => false) := by
  unfold fieldOf at h
  split at h
  · rename_i fs hu
    split at h
    · rename_i f hf
      split at h
      · rename_i i d hi hd
        split at h
        · cases h
        · rename_i hz
          simp only [Option.some.injEq, Prod.mk.injEq] at h
          exact ⟨fs, f, i, d, hu, hf, hi, hd, hz, h.1, h.2.2, h.2.1.symm⟩
      · cases h
    · cases h
  · cases h

def cellsAt (objs : List (Nat × Obj)) (m sz i off : Nat) : Option (List AV) :=
  match look m objs with
  | some (.box cs) => if i = 0 then some (cs.drop off) else none
  | some (.arr sz' l) => if sz = sz' ∧ i < l.length then some ((l.getD i []).drop off) else none
  | none => none

def ldCells (g : Bool) (n : Nat) (cs : List AV) : Option AV :=
  if g then (if n ≤ cs.length then some (.agg (cs.take n)) else none) else cs.head?

theorem world_cell {w : World} {b o : Nat} {vs : List Value} {T : TypeId} {fz : Nat × Nat} (h : w.heap[b]? = some (.cells vs.toArray T fz)) (ho : o < vs.length) :
    w.cell? ⟨b, o, none⟩ = some (vs.getD o undef) := by
  simp [World.cell?, h, List.getD, ho]

theorem below_cell {w w' : World} (h : Below w.heap.size w w') {b o : Nat} (hb : b < w.heap.size) : w'.cell? ⟨b, o, none⟩ = w.cell? ⟨b, o, none⟩ := h.cell (p := ⟨b, o, none⟩) hb

/-- What lies at an address: cells in a row. -/
def Row (w : World) (D : Names) (b o : Nat) (cs : List AV) : Prop :=
  b < w.heap.size ∧ ∃ f : Nat → Value, ∀ (i : Nat) (x : AV), cs[i]? = some x → w.cell? ⟨b, o + i, none⟩ = some (f i) ∧ Cell w D x (f i) ∧ (f i).oneCell' = true

theorem Row.drop {w : World} {D : Names} {b o : Nat} {cs : List AV} (h : Row w D b o cs) (n : Nat) : Row w D b (o + n) (cs.drop n) := by
  obtain ⟨hb, f, h⟩ := h
  refine ⟨hb, fun i => f (n + i), fun i x hx => ?_⟩
  rw [List.getElem?_drop] at hx
  have := h _ _ hx
  rwa [← Nat.add_assoc] at this

theorem addr_add (b o n : Nat) : (⟨b, o, none⟩ : Addr).add n = ⟨b, o + n, none⟩ := by
  unfold Addr.add; split <;> simp_all

/-- Loading a cell or an aggregate from a row. -/
theorem Row.load {P : Program} {w : World} {D : Names} {b o : Nat} {cs : List AV} (h : Row w D b o cs) {T n : Nat} {g : Bool} (ht : cellTy P T = some (g, n)) {x : AV} (hx : ldCells g n cs = some x) :
    ∃ v, Slot w D x v ∧ ∀ w', Below w.heap.size w w' → (loadVar T ⟨b, o, none⟩).run P w' = .ok v w' := by
  obtain ⟨hb, f, h⟩ := h
  unfold cellTy at ht
  have key : ∀ (d : TypeDesc) (i : TypeInfo), P.underlying T = some d → P.info? T = some i → i.size = n →
      g = (match d with | .struct _ | .array _ _ => true | _ => false) → ∃ v, Slot w D x v ∧ ∀ w', Below w.heap.size w w' → (loadVar T ⟨b, o, none⟩).run P w' = .ok v w' := by
    intro d i hu hi hn hg
    unfold ldCells at hx
    cases g with
    | true =>
      simp only [if_true] at hx
      split at hx
      · rename_i hle
        simp only [Option.some.injEq] at hx
        subst hx
        refine ⟨.agg ((List.range n).map f).toArray, ⟨(List.range n).map f, rfl, by simp [hle], fun j y hy => ?_⟩, fun w' hw' => ?_⟩
        · rw [List.getElem?_take] at hy
          split at hy
          · rename_i hj
            have := (h j y hy).2
            simpa [List.getD, hj] using this
          · cases hy
        · have hl := run_loadCells (P := P) w' ⟨b, o, none⟩ n f (fun j hj => by
            rw [addr_add, below_cell hw' hb]
            exact (h j _ (List.getElem?_eq_getElem (by omega))).1)
          cases d <;> simp at hg <;> simp [loadVar, Go.isAgg, run_underlying hu, sizeOf, typeInfo, hi, hn, hl]
      · cases hx
    | false =>
      simp only [Bool.false_eq_true, if_false] at hx
      cases cs with
      | nil => simp at hx
      | cons c cs =>
        simp only [List.head?_cons, Option.some.injEq] at hx
        subst hx
        have h0 := h 0 c rfl
        refine ⟨f 0, ?_, fun w' hw' => ?_⟩
        · have hc := h0.2.1
          have h1 := h0.2.2
          cases c with
          | agg l => simp only [Cell] at hc; cases hc
          | tup l => simp only [Cell] at hc; cases hc
          | _ => simp only [Slot, Val]; exact hc
        · have hc : w'.cell? ⟨b, o, none⟩ = some (f 0) := by rw [below_cell hw' hb]; simpa using h0.1
          cases d <;> simp at hg <;> simp [loadVar, Go.isAgg, run_underlying hu, run_load, hc]
  split at ht
  · rename_i fs i hu hi
    simp only [Option.some.injEq, Prod.mk.injEq] at ht
    exact key _ i hu hi ht.2 (by simp [← ht.1])
  · rename_i k e i hu hi
    simp only [Option.some.injEq, Prod.mk.injEq] at ht
    exact key _ i hu hi ht.2 (by simp [← ht.1])
  · rename_i d i h1 h2 hu hi
    simp only [Option.some.injEq, Prod.mk.injEq] at ht
    refine key _ i hu hi ht.2 ?_
    rw [← ht.1]
    cases d <;> simp_all
  · cases ht

theorem row_at {w : World} {D : Names} {cs : List AV} {v : Value} (h : Imm w D.M (.at_ cs) v) : ∃ b o, v = .pointer (some ⟨b, o, none⟩) ∧ Row w D b o cs ∧ ¬ D.M b := by
  cases h with
  | at_ _ b off f hb hM hc h1 h => exact ⟨b, off, rfl, ⟨hb, f, fun i x hx => ⟨hc i x hx, by
      have := h i x hx
      cases x with
      | msl => cases this
      | ref => cases this
      | _ => simp only [Cell]; exact this, h1 i x hx⟩⟩, hM⟩

theorem row_obj {w0 w : World} {M0 : Nat → Prop} {D : Names} {objs : List (Nat × Obj)} (hm : Mem w0 M0 objs D w) {m sz i off : Nat} {cs : List AV} (h : cellsAt objs m sz i off = some cs)
    {b : Nat} (hD : D m = some (some b)) : Row w D b (i * sz + off) cs := by
  unfold cellsAt at h
  have hb := hm.lt b ⟨m, hD⟩
  split at h
  · rename_i bs hl
    split at h
    · rename_i hi
      simp only [Option.some.injEq] at h
      subst hi; subst h
      obtain ⟨vs, T, h1, h2, h3⟩ := hm.rep m _ _ hl hD
      simp only [Nat.zero_mul]
      refine Row.drop (o := 0) ⟨hb, fun i => vs.getD i undef, fun i x hx => ⟨?_, h3 i x hx⟩⟩ off
      rw [Nat.zero_add]
      exact world_cell h1 (by rw [h2]; exact (List.getElem?_eq_some_iff.1 hx).1)
    · cases h
  · rename_i sz' l hl
    split at h
    · rename_i hi
      obtain ⟨rfl, hi⟩ := hi
      simp only [Option.some.injEq] at h
      subst h
      obtain ⟨vs, T, fz, h1, h2, h3, h4, h5, h6⟩ := hm.rep m _ _ hl hD
      refine Row.drop (o := i * sz) ⟨hb, fun j => vs.getD (i * sz + j) undef, fun j x hx => ?_⟩ off
      have hli : l[i]? = some (l.getD i []) := by simp [List.getD, List.getElem?_eq_getElem hi]
      obtain ⟨h7, h8⟩ := h6 i _ j x hli hx
      refine ⟨world_cell h1 ?_, h7.cell, h8⟩
      have hs := h5 i _ hli
      have hj : j < sz := by rw [← hs]; exact (List.getElem?_eq_some_iff.1 hx).1
      have : (i + 1) * sz ≤ l.length * sz := Nat.mul_le_mul_right _ hi
      rw [Nat.add_mul, Nat.one_mul] at this
      omega
    · cases h
  · cases h

end Go.Abs
