/- The abstract semantics of the operations that only compute or read, and its soundness. -/
import Derived.Test.YtplngcjkghnkcaaAbsB
namespace Go.Abs
open Go.RowKit

/-- the run of an operation that yields a value and leaves the world alone -/
def Yields1 (P : Program) (w : World) (D : Names) (s : Sem Value) (x : AV) : Prop :=
  ∃ v, Slot w D x v ∧ ∀ w', Below w.heap.size w w' → s.run P w' = .ok v w'

def ibin (op : BinOp) (k : IntKind) (a b : Int) : Option AV :=
  match op with
  | .add => some (.int k (k.wrap (a + b)))
  | .sub => some (.int k (k.wrap (a - b)))
  | .mul => some (.int k (k.wrap (a * b)))
  | .quo => if b = 0 then none else some (.int k (k.wrap (a.tdiv b)))
  | .rem => if b = 0 then none else some (.int k (a.tmod b))
  | .and => some (.int k (k.wrap (BitVec.ofInt k.bits a &&& BitVec.ofInt k.bits b).toNat))
  | .or => some (.int k (k.wrap (BitVec.ofInt k.bits a ||| BitVec.ofInt k.bits b).toNat))
  | .xor => some (.int k (k.wrap (BitVec.ofInt k.bits a ^^^ BitVec.ofInt k.bits b).toNat))
  | .andNot => some (.int k (k.wrap (BitVec.ofInt k.bits a &&& ~~~ BitVec.ofInt k.bits b).toNat))
  | .shl => if b < 0 then none else some (.int k (k.wrap (a * 2 ^ (min b.toNat k.bits))))
  | .shr => if b < 0 then none else some (.int k (a.fdiv (2 ^ (min b.toNat k.bits))))
  | .eql => some (.bool (a == b))
  | .neq => some (.bool (a != b))
  | .lss => some (.bool (decide (a < b)))
  | .leq => some (.bool (decide (a ≤ b)))
  | .gtr => some (.bool (decide (b < a)))
  | .geq => some (.bool (decide (b ≤ a)))

def isShift : BinOp → Bool | .shl | .shr => true | _ => false

def sbin (op : BinOp) (a b : List UInt8) : Option AV :=
  match op with
  | .add => if a.length + b.length ≤ lim then some (.str (a ++ b)) else none
  | .eql => some (.bool (a == b))
  | .neq => some (.bool (!(a == b)))
  | .lss => some (.bool (Op.bytesLess a b))
  | .leq => some (.bool (Op.bytesLess a b || a == b))
  | .gtr => some (.bool (!(Op.bytesLess a b || a == b)))
  | .geq => some (.bool (!(Op.bytesLess a b)))
  | _ => none

theorem run_eqGuard_int {P : Program} (op : BinOp) (t : TypeId) (x y : Operand) (k k' : IntKind) (a b : Int) (w : World) : (eqGuard op t x y (.int k a) (.int k' b)).run P w = .ok () w := by
  unfold eqGuard
  cases op <;> simp
theorem run_eqGuard_bool {P : Program} (op : BinOp) (t : TypeId) (x y : Operand) (a b : Bool) (w : World) : (eqGuard op t x y (.bool a) (.bool b)).run P w = .ok () w := by
  unfold eqGuard
  cases op <;> simp
theorem run_eqGuard_string {P : Program} (op : BinOp) (t : TypeId) (x y : Operand) (a b : ByteArray) (w : World) : (eqGuard op t x y (.string a) (.string b)).run P w = .ok () w := by
  unfold eqGuard
  cases op <;> simp

theorem slot_int {w : World} {D : Names} {k : IntKind} {n : Int} {v : Value} (h : Slot w D (.int k n) v) : v = .int k n := by
  simp only [Slot, Val, Cell] at h; cases h; rfl
theorem slot_bool {w : World} {D : Names} {b : Bool} {v : Value} (h : Slot w D (.bool b) v) : v = .bool b := by
  simp only [Slot, Val, Cell] at h; cases h; rfl
theorem slot_str {w : World} {D : Names} {s : List UInt8} {v : Value} (h : Slot w D (.str s) v) : v = .string ⟨s.toArray⟩ ∧ s.length ≤ lim := by
  simp only [Slot, Val, Cell] at h; cases h; exact ⟨rfl, by assumption⟩
theorem slot_nsl {w : World} {D : Names} {v : Value} (h : Slot w D .nsl v) : v = .slice none 0 0 := by
  simp only [Slot, Val, Cell] at h; cases h; rfl
theorem slot_mk_int {w : World} {D : Names} (k : IntKind) (n : Int) : Slot w D (.int k n) (.int k n) := Imm.slot (.int k n)
theorem slot_mk_bool {w : World} {D : Names} (b : Bool) : Slot w D (.bool b) (.bool b) := Imm.slot (.bool b)
theorem slot_mk_str {w : World} {D : Names} (s : List UInt8) (h : s.length ≤ lim) : Slot w D (.str s) (.string ⟨s.toArray⟩) := Imm.slot (.str s h)

theorem lim_i64 {a b : Nat} (h : a + b ≤ lim) : ¬ (((a + b : Nat) : Int) > IntKind.i64.max) := by
  have : IntKind.i64.max = 9223372036854775807 := by decide
  rw [this]; simp only [lim] at h; omega

theorem ibin_sound {P : Program} {op : BinOp} {k k' : IntKind} {a b : Int} {x : AV} (hk : isShift op = true ∨ k = k') (h : ibin op k a b = some x) (t : TypeId) (X Y : Operand) (w : World) (D : Names) :
    ∃ v, Slot w D x v ∧ ∀ w', (do eqGuard op t X Y (.int k a) (.int k' b); binOp op t (.int k a) (.int k' b) : Sem Value).run P w' = .ok v w' := by
  cases op <;> simp only [ibin, isShift, Bool.false_eq_true, false_or, true_or] at h hk <;> (try subst hk)
  case quo =>
    split at h
    · cases h
    · simp only [Option.some.injEq] at h; subst h
      exact ⟨_, slot_mk_int _ _, fun w' => by simp [run_eqGuard_int, binOp, Op.intDiv, *]⟩
  case rem =>
    split at h
    · cases h
    · simp only [Option.some.injEq] at h; subst h
      exact ⟨_, slot_mk_int _ _, fun w' => by simp [run_eqGuard_int, binOp, Op.intDiv, *]⟩
  case shl =>
    split at h
    · cases h
    · simp only [Option.some.injEq] at h; subst h
      exact ⟨_, slot_mk_int _ _, fun w' => by simp [run_eqGuard_int, binOp, Op.shift, *]⟩
  case shr =>
    split at h
    · cases h
    · simp only [Option.some.injEq] at h; subst h
      exact ⟨_, slot_mk_int _ _, fun w' => by simp [run_eqGuard_int, binOp, Op.shift, *]⟩
  all_goals
    simp only [Option.some.injEq] at h
    subst h
    first
      | exact ⟨_, slot_mk_int _ _, fun w' => by simp [run_eqGuard_int, binOp, Op.intArith, Op.intBits]⟩
      | exact ⟨_, slot_mk_bool _, fun w' => by simp [run_eqGuard_int, binOp, Op.intCmp]⟩

theorem toList_mk (s : List UInt8) : (⟨s.toArray⟩ : ByteArray).toList = s := by rw [ByteArray.toList_eq]

theorem sbin_sound {P : Program} {op : BinOp} {a b : List UInt8} {x : AV} (h : sbin op a b = some x) (t : TypeId) (X Y : Operand) (w : World) (D : Names) :
    ∃ v, Slot w D x v ∧ ∀ w', (do eqGuard op t X Y (.string ⟨a.toArray⟩) (.string ⟨b.toArray⟩); binOp op t (.string ⟨a.toArray⟩) (.string ⟨b.toArray⟩) : Sem Value).run P w' = .ok v w' := by
  cases op <;> simp only [sbin] at h
  case add =>
    split at h
    · rename_i hl
      simp only [Option.some.injEq] at h; subst h
      refine ⟨_, slot_mk_str _ (by simpa using hl), fun w' => ?_⟩
      have h2 : ¬ ((((⟨a.toArray⟩ : ByteArray).size + (⟨b.toArray⟩ : ByteArray).size : Nat) : Int) > IntKind.i64.max) := lim_i64 (by simpa [ByteArray.size] using hl)
      simp only [Sem.run_bind, run_eqGuard_string, Result.andThen_ok, binOp, Op.stringOp, h2, if_false, Sem.run_pure]
      congr 2
    · cases h
  all_goals first
    | (cases h; done)
    | (simp only [Option.some.injEq] at h
       subst h
       exact ⟨_, slot_mk_bool _, fun w' => by simp [run_eqGuard_string, binOp, Op.stringOp]⟩)

/-- A slice that is read: its elements, each a row of cells. -/
def SliceRep (w : World) (D : Names) (sz : Nat) (l : List (List AV)) (v : Value) : Prop :=
  ∃ a cap, v = .slice a l.length cap ∧ l.length ≤ cap ∧ l.length ≤ lim ∧ (l = [] ∨ ∃ b off, a = some ⟨b, off, none⟩ ∧ b < w.heap.size ∧
    (∀ (j : Nat) (cs : List AV), l[j]? = some cs → cs.length = sz) ∧ ∃ f : Nat → Nat → Value,
    ∀ (j : Nat) (cs : List AV) (i : Nat) (x : AV), l[j]? = some cs → cs[i]? = some x →
      w.cell? ⟨b, off + (j * sz + i), none⟩ = some (f j i) ∧ (f j i).oneCell' = true ∧ Imm w D.M x (f j i))

def viewSl (objs : List (Nat × Obj)) (sz : Nat) : AV → Option (List (List AV))
  | .nsl => some []
  | .sl sz' l => if sz' = sz then some l else none
  | .msl n sz' off len => match look n objs with
    | some (.arr sz'' l) => if sz' = sz ∧ sz'' = sz ∧ off + len ≤ l.length then some ((l.drop off).take len) else none
    | _ => none
  | _ => none

theorem viewSl_sound {w0 w : World} {M0 : Nat → Prop} {D : Names} {objs : List (Nat × Obj)} (hm : Mem w0 M0 objs D w) {sz : Nat} {x : AV} {l : List (List AV)} (h : viewSl objs sz x = some l) {v : Value}
    (hv : Slot w D x v) : SliceRep w D sz l v := by
  unfold viewSl at h
  split at h
  · simp only [Option.some.injEq] at h; subst h
    rw [slot_nsl hv]; exact ⟨none, 0, rfl, Nat.le_refl _, Nat.zero_le _, .inl rfl⟩
  · rename_i sz' l'
    split at h
    · rename_i hs
      simp only [Option.some.injEq] at h; subst h; subst hs
      simp only [Slot, Val, Cell] at hv
      cases hv with
      | slnil _ a cap => exact ⟨a, cap, rfl, Nat.zero_le _, Nat.zero_le _, .inl rfl⟩
      | sl _ _ b off cap f hb hM hcap hn hs hc h1 hi => exact ⟨_, cap, rfl, hcap, hn, .inr ⟨b, off, rfl, hb, hs, f, fun j cs i x hj hx => ⟨hc j cs i x hj hx, h1 j cs i x hj hx, hi j cs i x hj hx⟩⟩⟩
    · cases h
  · rename_i n sz' off len
    split at h
    · rename_i sz'' l' hl
      split at h
      · rename_i hc
        obtain ⟨rfl, rfl, hle⟩ := hc
        simp only [Option.some.injEq] at h; subst h
        have hlen : ((l'.drop off).take len).length = len := by simp; omega
        simp only [Slot, Val, Cell] at hv
        rcases hv with ⟨h1, rfl, a, rfl⟩ | ⟨b, cap, N, h1, rfl, h3, h4, h5⟩
        · simp only [List.take_zero]
          exact ⟨a, 0, rfl, Nat.le_refl _, Nat.zero_le _, .inl rfl⟩
        · obtain ⟨vs, T, fz, g1, g2, g3, g4, g5, g6⟩ := hm.rep n _ _ hl h1
          have key : ∀ (j : Nat) (cs : List AV), ((l'.drop off).take len)[j]? = some cs → l'[off + j]? = some cs := by
            intro j cs hj
            rw [List.getElem?_take] at hj
            split at hj
            · rwa [List.getElem?_drop] at hj
            · cases hj
          refine ⟨_, cap, by rw [hlen], by rw [hlen]; exact h3, by rw [hlen]; omega, .inr ⟨b, _, rfl, hm.lt b ⟨n, h1⟩, fun j cs hj => g5 _ _ (key j cs hj), fun j i => vs.getD ((off + j) * sz'' + i) undef, ?_⟩⟩
          intro j cs i x hj hx
          obtain ⟨k1, k2⟩ := g6 _ _ _ _ (key j cs hj) hx
          refine ⟨?_, k2, k1⟩
          have hlt : off + j < l'.length := (List.getElem?_eq_some_iff.1 (key j cs hj)).1
          have hi : i < sz'' := by rw [← g5 _ _ (key j cs hj)]; exact (List.getElem?_eq_some_iff.1 hx).1
          have hmul : (off + j + 1) * sz'' ≤ l'.length * sz'' := Nat.mul_le_mul_right _ hlt
          rw [Nat.add_mul, Nat.one_mul] at hmul
          have hE : off * sz'' + (j * sz'' + i) = (off + j) * sz'' + i := by rw [Nat.add_mul]; omega
          rw [hE]
          exact world_cell g1 (by omega)
      · cases h
    · cases h
  · cases h

end Go.Abs
