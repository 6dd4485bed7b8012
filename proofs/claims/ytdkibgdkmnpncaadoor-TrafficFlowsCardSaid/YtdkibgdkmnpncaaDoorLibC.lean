/- The walks' library, part C: what a region of the program does in an abstract state, and its soundness. -/
import Derived.RangeFuncLeaves
import Derived.RangeFuncRecord
import Derived.TacticsIn
import Derived.OrdersIn
import Derived.Test.YtdkibgdkmnpncaaDoorLibB
namespace Go.Abs
open Go.RowKit
def fu (k : Nat) : Operand → Operand
 | .tmp t => .tmp (k + t)
 | x => x
def Ky (k : Nat) (l : Array Operand) : Array Operand := (l.toList.map (fu k)).toArray
def Qb (k : Nat) (l : Array (Nat × Operand)) : Array (Nat × Operand) := (l.toList.map fun p => (p.1, fu k p.2)).toArray
def lN (k : Nat) (c : Call) : Call :=
 { callee := (match c.callee with | .value x => .value (fu k x) | .invoke x n => .invoke (fu k x) n | .builtin b => .builtin b), args := Ky k c.args, argTypes := c.argTypes }
def pX (k : Nat) : Op → Op
 | .move x => .move (fu k x)
 | .assign x => .assign (fu k x)
 | .pick c a b => .pick (fu k c) (fu k a) (fu k b)
 | .alloc T => .alloc T
 | .box T x => .box T (fu k x)
 | .build T ps => .build T (Qb k ps)
 | .buildSlice T n ps => .buildSlice T n (Qb k ps)
 | .insert T a b c => .insert T (fu k a) (fu k b) (fu k c)
 | .load T x => .load T (fu k x)
 | .store T x y => .store T (fu k x) (fu k y)
 | .ready g => .ready g
 | .waits g => .waits g
 | .nilCheck x => .nilCheck (fu k x)
 | .binOp op T x y U => .binOp op T (fu k x) (fu k y) U
 | .unOp op T x => .unOp op T (fu k x)
 | .convert S T x => .convert S T (fu k x)
 | .sliceToArrayPointer T x => .sliceToArrayPointer T (fu k x)
 | .makeInterface T x => .makeInterface T (fu k x)
 | .makeFunc f a b => .makeFunc f (Ky k a) (Ky k b)
 | .makeMap T r => .makeMap T (r.map (fu k))
 | .makeChan T x => .makeChan T (fu k x)
 | .makeSlice T x y => .makeSlice T (fu k x) (fu k y)
 | .slice T x a b c => .slice T (fu k x) (a.map (fu k)) (b.map (fu k)) (c.map (fu k))
 | .fieldAddr T x f => .fieldAddr T (fu k x) f
 | .field T x f => .field T (fu k x) f
 | .indexAddr T x y => .indexAddr T (fu k x) (fu k y)
 | .index T x y => .index T (fu k x) (fu k y)
 | .lookup T x y b => .lookup T (fu k x) (fu k y) b
 | .mapUpdate T a b c => .mapUpdate T (fu k a) (fu k b) (fu k c)
 | .mapEntry T a b => .mapEntry T (fu k a) (fu k b)
 | .entryStore T a b c => .entryStore T (fu k a) (fu k b) (fu k c)
 | .range T x => .range T (fu k x)
 | .next x b => .next (fu k x) b
 | .entry x => .entry (fu k x)
 | .typeAssert x S T b => .typeAssert (fu k x) S T b
 | .extract x i => .extract (fu k x) i
 | .call c => .call (lN k c)
 | .go c => .go (lN k c)
 | .defer c => .defer (lN k c)
 | .panic x => .panic (fu k x)
 | .send x y => .send (fu k x) (fu k y)
 | .recv T x b => .recv T (fu k x) b
 | .select cs b => .select cs b
def rA (k : Nat) (o : Oper) : Oper := { dst := o.dst.map (k + ·), op := pX k o.op, type := o.type, pos := o.pos, after := o.after, guard := o.guard }
def kR (k : Nat) (ops : Array Oper) : Array Oper := (ops.toList.map (rA k)).toArray
def mL (k : Nat) : Code → Code
 | .region id ops draw => .region id (kR k ops) draw
 | .seq a b => .seq (mL k a) (mL k b)
 | .cond c a b => .cond (fu k c) (mL k a) (mL k b)
 | .block id a => .block id (mL k a)
 | .loop a => .loop (mL k a)
 | c => c
theorem map_toArray {α β : Type} (f : α → β) (a : Array α) : (a.toList.map f).toArray = a.map f := by
 apply Array.ext'; simp
theorem oe (k : Nat) (ρ : Operand → Value) (c : Call) (ty : TypeId) : resolve ρ (lN k c) ty = resolve (fun x => ρ (fu k x)) c ty := by
 obtain ⟨callee, args, tys⟩ := c
 have h1 : (Ky k args).map ρ = args.map fun x => ρ (fu k x) := by simp [Ky, map_toArray]
 have h2 : ∀ F : Operand → Bool, (∀ x, F (fu k x) = F x) → (Ky k args).map F = args.map F := by
  intro F hF
  simp only [Ky, map_toArray, Array.map_map]
  apply Array.map_congr_left
  intro x _
  exact hF x
 cases callee with
 | value x => simp only [resolve, lN, h1]
 | invoke x n => simp only [resolve, lN, h1]
 | builtin b =>
  simp only [resolve, lN, h1]
  rw [h2 _ (fun x => by cases x <;> rfl)]
theorem zQ (k : Nat) (ρ : Operand → Value) (ps : Array (Nat × Operand)) : (Qb k ps).map (fun p => (p.1, ρ p.2)) = ps.map fun p => (p.1, ρ (fu k p.2)) := by
 simp [Qb, map_toArray]
theorem It (k : Nat) (op : BinOp) (T : TypeId) (x y : Operand) (a b : Value) : eqGuard op T (fu k x) (fu k y) a b = eqGuard op T x y a b := by
 cases x <;> cases y <;> rfl
theorem GG (k : Nat) (ρ : Operand → Value) (o : Oper) (hs : ∀ cs b, o.op ≠ .select cs b) : execOp ρ (rA k o) = execOp (fun x => ρ (fu k x)) o := by
 obtain ⟨dst, op, ty, pos, aft, guard⟩ := o
 cases op with
 | select cs b => exact absurd rfl (hs cs b)
 | call c => simp only [rA, pX, execOp, oe]
 | go c => simp only [rA, pX, execOp, oe]
 | defer c => simp only [rA, pX, execOp, oe]
 | binOp op T x y U => simp only [rA, pX, execOp, It]
 | build T ps => simp only [rA, pX, execOp]; rw [← zQ]
 | buildSlice T n ps => simp only [rA, pX, execOp]; rw [← zQ]
 | makeFunc f a b => simp only [rA, pX, execOp, Ky, map_toArray, Array.map_map]; rfl
 | makeMap T r => simp only [rA, pX, execOp, Option.map_map]; rfl
 | slice T x a b c => simp only [rA, pX, execOp, Option.map_map]; rfl
 | _ => rfl
def gX (g : Array Value) (dl : List Deferred) (a : Act) : Act := ⟨g ++ a.tmps, dl⟩
abbrev ext (g : Array Value) (a : Act) : Act := gX g [] a
theorem ext_nil {a : Act} (h : a.defers = []) : ext #[] a = a := by
 obtain ⟨t, d⟩ := a
 simp only at h; subst h
 simp [ext, gX]
theorem zj (g : Array Value) (dl : List Deferred) (a : Act) (x : Operand) : (gX g dl a).eval (fu g.size x) = a.eval x := by
 cases x with
 | tmp t =>
  have h : ¬ g.size + t < g.size := by omega
  simp [fu, Act.eval, gX, Array.getD_eq_getD_getElem?, Array.getElem?_append, h]
 | _ => rfl
theorem jx (g : Array Value) (dl : List Deferred) (a : Act) (dst : Option Tmp) (v : Value) : (gX g dl a).put (dst.map (g.size + ·)) v = gX g dl (a.put dst v) := by
 cases dst with
 | none => rfl
 | some d =>
  simp only [Option.map_some, Act.put, gX]
  congr 1
  apply Array.ext
  ·simp
  ·intro i h1 h2
   simp only [Array.size_setIfInBounds, Array.size_append] at h1
   rw [Array.getElem_setIfInBounds (by simpa using h1)]
   by_cases hi : g.size + d = i
   ·subst hi
    simp only [if_true]
    rw [Array.getElem_append_right (by omega)]
    simp
   ·rw [if_neg hi]
    by_cases hlt : i < g.size
    ·rw [Array.getElem_append_left hlt, Array.getElem_append_left hlt]
    ·rw [Array.getElem_append_right (by omega), Array.getElem_append_right (by omega), Array.getElem_setIfInBounds (by omega), if_neg (by omega)]
theorem Ij (g : Array Value) (dl : List Deferred) (a : Act) (o : Oper) (hs : ∀ cs b, o.op ≠ .select cs b) : execOp (gX g dl a).eval (rA g.size o) = execOp a.eval o := by
 rw [GG _ _ _ hs]
 congr 1
 funext x
 exact zj g dl a x
theorem mM (k : Nat) (ops : Array Oper) (i : Nat) : (kR k ops)[i]? = (ops[i]?).map (rA k) := by simp [kR]
theorem BN (g : Array Value) (dl : List Deferred) (a : Act) (ops : Array Oper) : yielded (kR g.size ops) (gX g dl a).tmps = yielded ops a.tmps := by
 funext j
 unfold yielded
 rw [mM]
 cases ops[j]? with
 | none => rfl
 | some o =>
  obtain ⟨dst, op, ty, pos, aft, guard⟩ := o
  cases dst with
  | none => rfl
  | some d =>
   have : (g ++ a.tmps)[g.size + d]? = a.tmps[d]? := by
    rw [Array.getElem?_append_right (by omega)]; simp
   simp only [Option.map_some, Option.bind_some, rA, gX, this]
theorem vz (g : Array Value) (dl : List Deferred) (a : Act) (ops : Array Oper) (o : Oper) : Region.wanted (rA g.size o) (yielded (kR g.size ops) (gX g dl a).tmps) = Region.wanted o (yielded ops a.tmps) := by
 rw [BN]; rfl
def yP (R : Act → World → Prop) (e : Exit) (a : Act) (w : World) : Prop := e = .normal ∧ R a w
theorem m6 {R : Act → World → Prop} : ¬ LetsOut (yP R) := fun ⟨_, _, h, _⟩ => by cases h
def FR (rd : Option Nat) : Fence := { Fence.wide with round := rd }
def mo (o : Oper) : Bool := match o.op with | .defer _ => true | _ => false
theorem oO {o : Oper} (h : mo o = false) : ∀ c, o.op ≠ .defer c := fun c e => by simp [mo, e] at h
section
variable {P : Program} {g : Array Value} {rd : Option Nat} {R R' : Act → World → Prop}
theorem CC {n : Nat} {f : FuncId} {args : Array Value} {w : World} {R : Ending → World → Prop} (h : Calls P f args w R) : CallsIn (FR rd) n P f args w R :=
 (callsIn_wide (n := n)).2 h
theorem He {n : Nat} {row : String} {args : Array Value} {w : World} {R : Value → World → Prop} (h : Rows P row args w R) : RowsIn (FR rd) n P row args w R :=
 fun c cs _ => let ⟨v, w', r, s⟩ := h c cs; ⟨v, w', r, (stepsIn_wide (P := P)).2 s⟩
theorem vB {o : Oper} (hd : ∀ c, o.op ≠ .defer c) {a : Act} {w : World} {K : Act → World → Prop} {Q : Exit → Act → World → Prop} (h : o.wp P a w K Q) : o.wpIn (FR rd) 0 P a w K Q := by
 refine ⟨fun _ _ => trivial, ?_⟩
 rw [Oper.semAt_eq _ _ _ hd]
 unfold Oper.wp at h
 generalize (execOp a.eval o).run P w = r at *
 cases r with
 | ok n w' =>
  cases n <;> simp only [Oper.upon] at h <;> simp only [Oper.uponIn]
  case value v => exact h
  case skip => exact h
  case defer d => exact h
  case enter f args => exact ⟨(fun h => by cases h), CC h⟩
  case row row args => exact ⟨(fun h => by cases h), He h⟩
 | halt x w' =>
  cases x <;> simp only [Oper.upon] at h <;> simp only [Oper.uponIn]
  exact h
theorem rF {ops : Array Oper} : ∀ (l : List Oper) (_ : ∀ o ∈ l, mo o = false) (a : Act) (w : World), wpList P ops (yP R) l a w → wpListIn (FR rd) 0 P ops (yP R) l a w
 | [], _, a, w, h => h
 | o :: l, hs, a, w, h => by
  have ih := rF (ops := ops) l (fun o ho => hs o (List.mem_cons_of_mem _ ho))
  simp only [wpList] at h
  simp only [wpListIn]
  split
  ·rename_i hw
   rw [if_pos hw] at h
   rcases h with h | ⟨_, h⟩
   ·exact vB (oO (hs o (List.mem_cons_self ..))) (Oper.wp_mono (fun a w h => ih a w h) h)
   ·exact absurd h m6
  ·rename_i hw
   rw [if_neg hw] at h
   exact ⟨fun _ _ => trivial, ih _ _ h⟩
theorem vA {md : Region.Mode} {ops : Array Oper} (hs : ∀ (j : Nat) (o : Oper), ops[j]? = some o → mo o = false) : ∀ (f : Nat) (listed : Array Bool) (a : Act) (w : World),
  wpAny P md ops (yP R) f listed a w → wpAnyIn (FR rd) 0 P md ops (yP R) f listed a w
 | 0, listed, a, w, h => h
 | f + 1, listed, a, w, h => by
  refine ⟨h.1, fun i hi => ?_⟩
  have ih := vA (md := md) hs f (listed.setIfInBounds i true)
  have h1 := h.2 i hi
  unfold wpOp at h1
  unfold wpOpIn
  cases ho : ops[i]? with
  | none => rw [ho] at h1; exact ih a w h1
  | some o =>
   rw [ho] at h1
   simp only at h1 ⊢
   split
   ·rename_i hw
    rw [if_pos hw] at h1
    rcases h1 with h1 | ⟨_, h1⟩
    ·exact vB (oO (hs i o ho)) (Oper.wp_mono (fun a w h => ih a w h) h1)
    ·exact absurd h1 m6
   ·rename_i hw
    rw [if_neg hw] at h1
    exact ⟨fun _ _ => trivial, ih _ _ h1⟩
theorem Ke {ds0 : List Deferred} {o : Oper} (hs : ∀ cs b, o.op ≠ .select cs b) (hd : ∀ c, o.op ≠ .defer c) {dl : List Deferred} {a : Act} (ha : a.defers = dl ++ ds0) {w : World} {K' K : Act → World → Prop}
  (hK : ∀ dl' a' w', a'.defers = dl' ++ ds0 → K' (gX g dl' a') w' → K a' w') {Q : Exit → Act → World → Prop} (h : (rA g.size o).wpIn (FR rd) 0 P (gX g dl a) w K' (yP R')) : o.wpIn (FR rd) 0 P a w K Q := by
 refine ⟨fun _ _ => trivial, ?_⟩
 have h := h.2
 have hd' : ∀ c, (rA g.size o).op ≠ .defer c := fun c e => by
  cases ho : o.op with
  | defer c' => exact hd c' ho
  | _ => simp only [rA, pX, ho] at e; cases e
 rw [Oper.semAt_eq _ _ _ hd', Ij g dl a o hs] at h
 rw [Oper.semAt_eq _ _ _ hd]
 have pd : ∀ v, (a.put o.dst v).defers = dl ++ ds0 := fun v => by rw [← ha]; cases o.dst <;> rfl
 generalize (execOp a.eval o).run P w = r at *
 cases r with
 | ok n w' =>
  cases n <;> simp only [Oper.uponIn] at h ⊢
  case value v => exact hK _ _ _ (pd v) (by rw [← jx]; exact h)
  case skip => exact hK _ _ _ (pd _) (by rw [← jx]; exact h)
  case defer d =>
   refine hK (d :: dl) _ _ ?_ ?_
   ·cases o.dst <;> simp [Act.put, ha]
   ·rw [← jx]; exact h
  case enter f args =>
   refine ⟨h.1, CallsIn.mono h.2 fun e w'' he => ?_⟩
   cases e with
   | returned v => exact hK _ _ _ (pd v) (by rw [← jx]; exact he)
   | panicked c => exact absurd he.1 (by simp)
   | outgrown => exact absurd he m6
  case row row args => exact ⟨h.1, RowsIn.mono h.2 fun v w'' hv => hK _ _ _ (pd v) (by rw [← jx]; exact hv)⟩
  case round l f tmps as bd =>
   refine ⟨h.1, RoundIn.mono h.2 fun e w'' he => ?_⟩
   cases e with
   | returned v => exact hK _ _ _ (pd v) (by rw [← jx]; exact he)
   | panicked c => exact absurd he.1 (by simp)
   | outgrown => exact absurd he m6
 | halt x w' =>
  cases x <;> simp only [Oper.uponIn] at h ⊢
  exact absurd h.1 (by simp)
theorem p9 {ds0 : List Deferred} {ops : Array Oper} {R : Act → World → Prop} (hR : ∀ dl a w, a.defers = dl ++ ds0 → R' (gX g dl a) w → R a w) : ∀ (l : List Oper) (_ : ∀ o ∈ l, (∀ cs b, o.op ≠ .select cs b) ∧ mo o = false) (dl : List Deferred) (a : Act) (w : World), a.defers = dl ++ ds0 →
  wpListIn (FR rd) 0 P (kR g.size ops) (yP R') (l.map (rA g.size)) (gX g dl a) w → wpListIn (FR rd) 0 P ops (yP R) l a w
 | [], _, dl, a, w, ha, h => ⟨rfl, hR dl a w ha h.2⟩
 | o :: l, hs, dl, a, w, ha, h => by
  have ih := p9 (ops := ops) hR l (fun o ho => hs o (List.mem_cons_of_mem _ ho))
  simp only [List.map_cons, wpListIn, vz] at h ⊢
  split
  ·rename_i hw
   rw [if_pos hw] at h
   exact Ke (hs o (List.mem_cons_self ..)).1 (oO (hs o (List.mem_cons_self ..)).2) ha (fun dl' a w ha h => ih dl' a w ha h) h
  ·rename_i hw
   rw [if_neg hw] at h
   refine ⟨fun _ _ => trivial, ih dl _ _ (by rw [← ha]; cases o.dst <;> rfl) ?_⟩
   rw [← jx]
   exact h.2
theorem uV (k : Nat) (ops : Array Oper) (listed : Array Bool) : Region.ready .any (kR k ops) listed = Region.ready .any ops listed := by
 unfold Region.ready
 have : (kR k ops).size = ops.size := by simp [kR]
 rw [this]
 congr 1
 funext i
 rw [mM]
 cases ops[i]? <;> rfl
theorem rE {ds0 : List Deferred} {ops : Array Oper} {R : Act → World → Prop} (hs : ∀ (j : Nat) (o : Oper), ops[j]? = some o → (∀ cs b, o.op ≠ .select cs b) ∧ mo o = false) (hR : ∀ dl a w, a.defers = dl ++ ds0 → R' (gX g dl a) w → R a w) :
  ∀ (f : Nat) (listed : Array Bool) (dl : List Deferred) (a : Act) (w : World), a.defers = dl ++ ds0 → wpAnyIn (FR rd) 0 P .any (kR g.size ops) (yP R') f listed (gX g dl a) w → wpAnyIn (FR rd) 0 P .any ops (yP R) f listed a w
 | 0, listed, dl, a, w, ha, h => ⟨by rw [← uV g.size]; exact h.1, rfl, hR dl a w ha h.2.2⟩
 | f + 1, listed, dl, a, w, ha, h => by
  refine ⟨fun h0 => ⟨rfl, hR dl a w ha (h.1 (by rw [uV]; exact h0)).2⟩, fun i hi => ?_⟩
  have ih := rE hs hR f (listed.setIfInBounds i true)
  have h1 := h.2 i (by rw [uV]; exact hi)
  unfold wpOpIn at h1 ⊢
  rw [mM] at h1
  cases ho : ops[i]? with
  | none =>
   rw [ho] at h1
   exact ih dl a w ha h1
  | some o =>
   rw [ho] at h1
   simp only [Option.map_some, vz] at h1
   simp only
   split
   ·rename_i hw
    rw [if_pos hw] at h1
    exact Ke (hs i o ho).1 (oO (hs i o ho).2) ha (fun dl' a w ha h => ih dl' a w ha h) h1
   ·rename_i hw
    rw [if_neg hw] at h1
    refine ⟨fun _ _ => trivial, ih dl _ _ (by rw [← ha]; cases o.dst <;> rfl) ?_⟩
    rw [← jx]
    exact h1.2
end
section
variable {P : Program} {ops : Array Oper} {C : World → Prop}
theorem Gr {Q : Exit → Act → World → Prop} {a : Act} {w : World} (hB : Region.lexB .any ops = true) (hC : C { w with drawn := w.drawn + 1 })
  (h : wpQuiet P ops C (fun a' => ∀ w', C w' → Q .normal a' w') ops.toList a) : wpAny P .any ops Q ops.size (Array.replicate ops.size false) a { w with drawn := w.drawn + 1 } := by
 simp only [Region.lexB, Bool.and_eq_true] at hB
 refine wpAny_of_quiet (Q := fun a' => ∀ w', C w' → Q .normal a' w') (fun _ w' hw' h => h w' hw') _ _ _ _ hC ?_
 have := wpAnyQ_lex (C := C) (md := .any) hB.1 ops.toList 0 (Array.replicate ops.size false) a (by simp) (by simpa using hB.2) h
 simpa using this
theorem NL {Q : Exit → Act → World → Prop} {a : Act} {w : World} {l : List Oper} (n : Nat) (hB : Region.lexTailB .any l.toArray n = true) (hC : C { w with drawn := w.drawn + 1 })
  (h : wpQuiet P l.toArray C (fun a' => ∀ w', C w' → wpList P l.toArray Q (l.drop n) a' w') (l.take n) a) :
  wpAny P .any l.toArray Q l.toArray.size (Array.replicate l.toArray.size false) a { w with drawn := w.drawn + 1 } := by
 simp only [Region.lexTailB, Bool.and_eq_true, decide_eq_true_eq] at hB
 obtain ⟨⟨⟨⟨hsel, hn⟩, hs⟩, hc⟩, hlex⟩ := hB
 have hn' : n < l.length := by simpa using hn
 have htl : (l.take n).length = n := by simp; omega
 have hdl : (l.drop n).length = l.toArray.size - n := by simp
 have inv0 : HeadInv .any l.toArray n (Array.replicate l.toArray.size false) :=
  ⟨by simp, fun j oj _ hl => (by rw [getD_replicate_false] at hl; cases hl), fun t _ ht => getD_in (by simpa using ht) (getD_replicate_false _ _)⟩
 have H := zy (md := .any) (g := l.toArray.size - n) hsel hs hc hn (l.take n) 0 _ a (fun j hj => by
  have hj' : j < n := by rw [htl] at hj; exact hj
  simp [hj']) (by simpa using htl) inv0 (by rw [htl]; exact hlex) h
 have := qF (Q' := Q) (g := l.toArray.size - n) (fun listed a' w' hw' hL => by
  have := wpAny_of_seq (md := .any) (Q' := Q) (l.drop n) n listed a' w' (fun j => by simp [List.getElem?_drop]) (by rw [hdl]; exact hL.1) (hL.2 w' hw')
  rwa [hdl] at this) _ _ _ _ hC H
 rw [htl, show n + (l.toArray.size - n) = l.toArray.size by omega] at this
 exact this
end
def ja (pins : List Nat) (D0 : Names) : Prop := ∀ n, n < top → (D0 n).isSome = true → n ∈ pins
def tC (w0 : World) (M0 : Nat → Prop) (D0 : Names) (Q : St → Prop) (a : Act) (w : World) : Prop := ∃ s', Q s' ∧ Sat w0 M0 D0 s' a w
def vW (P : Program) (pins : List Nat) (ops : Array Oper) (draw : Bool) (s : St) (Q : St → Prop) : Prop :=
 ∀ w0 M0 D0 a w, ja pins D0 → Sat w0 M0 D0 s a w →
  (draw = false → ∀ rd, wpListIn (FR rd) 0 P ops (yP (tC w0 M0 D0 Q)) ops.toList a w) ∧
  (draw = true → wpAny P .any ops (yP (tC w0 M0 D0 Q)) ops.size (Array.replicate ops.size false) a { w with drawn := w.drawn + 1 })
def lU (n : Nat) (a : Act) (w : World) : Prop := ∃ X : List Nat, a.defers = X.map (fun b => ({ target := .collected b, args := #[] } : Deferred)) ∧ X.Nodup ∧ ∀ b ∈ X, n ≤ b ∧ w.heap[b]? = some (.deferred (some []))
theorem lU.keep {n : Nat} {a a' : Act} {w w' : World} (h : lU n a w) (hd : a'.defers = a.defers) (k : ∀ b : Nat, w.heap[b]? = some (.deferred (some [])) → w'.heap[b]? = w.heap[b]?) : lU n a' w' := by
 obtain ⟨X, h1, h2, h3⟩ := h
 exact ⟨X, hd.trans h1, h2, fun b hb => ⟨(h3 b hb).1, (k b (h3 b hb).2).trans (h3 b hb).2⟩⟩
theorem lU.nil {n : Nat} {a : Act} {w : World} (h : a.defers = []) : lU n a w := ⟨[], h, List.nodup_nil, fun _ h => by cases h⟩
section
variable {w : World} {b : Nat} {ds : Option (List Deferred)} (o' : _root_.Go.Obj) (hb : w.heap[b]? = some (.deferred ds))
include hb
theorem tK {c off : Nat} {v : Value} (h : w.cell? ⟨c, off, none⟩ = some v) : (w.putObj b o').cell? ⟨c, off, none⟩ = some v := by
 have hne : c ≠ b := fun e => by subst e; simp [World.cell?, hb] at h
 rw [World.cell?_of_block (w := w) (a := ⟨c, off, none⟩) (World.putObj_heap_other hne)]; exact h
theorem xu {M : Nat → Prop} {x : AV} {v : Value} (h : cU w M x v) : cU (w.putObj b o') M x v := by
 induction h with
 | any v => exact .any v
 | gO => exact .gO
 | int k n => exact .int k n
 | bool b => exact .bool b
 | str s hn => exact .str s hn
 | gE => exact .gE
 | cW v => exact .cW v
 | qb t g l f h1 _ ih => exact .qb t g l f h1 ih
 | slnil sz a cap => exact .slnil sz a cap
 | sl sz l b' off cap f hb' hM' hcap hn hs hc h1 _ ih =>
  exact .sl sz l b' off cap f (by rw [World.putObj_size]; exact hb') hM' hcap hn hs (fun j cs i x hj hi => tK o' hb (hc j cs i x hj hi)) h1 (fun j cs i x hj hi => ih j cs i x hj hi)
 | at_ cs b' off f hb' hM' hc h1 _ ih =>
  exact .at_ cs b' off f (by rw [World.putObj_size]; exact hb') hM' (fun i x hi => tK o' hb (hc i x hi)) h1 (fun i x hi => ih i x hi)
theorem Lx {c N : Nat} (h : World.row w c = some N) : World.row (w.putObj b o') c = some N := by
 have hne : c ≠ b := fun e => by subst e; simp [World.row, World.shape?, hb] at h
 simp only [World.row, World.shape?, World.putObj_heap_other hne] at h ⊢; exact h
theorem qm {D : Names} {x : AV} {v : Value} (h : Cell w D x v) : Cell (w.putObj b o') D x v := by
 cases x with
 | cw n sz off len =>
  rcases h with h | ⟨c, cap, N, h1, h2, h3, h4, h5⟩
  ·exact .inl h
  ·exact .inr ⟨c, cap, N, h1, h2, h3, Lx o' hb h4, h5⟩
 | ref n sz i off => exact h
 | cm f ns => exact h
 | _ => exact xu o' hb h
theorem BH {D : Names} {x : AV} {v : Value} (h : cM w D x v) : cM (w.putObj b o') D x v := by
 cases x with
 | agg l => obtain ⟨vs, h1, h2, h3⟩ := h; exact ⟨vs, h1, h2, fun i x hx => ⟨qm o' hb (h3 i x hx).1, (h3 i x hx).2⟩⟩
 | _ => simp only [cM] at h ⊢; exact qm o' hb h
theorem Hq {D : Names} {x : AV} {v : Value} (h : Slot w D x v) : Slot (w.putObj b o') D x v := by
 cases x with
 | cI l => obtain ⟨vs, h1, h2, h3⟩ := h; exact ⟨vs, h1, h2, fun i x hx => BH o' hb (h3 i x hx)⟩
 | _ => simp only [Slot] at h ⊢; exact BH o' hb h
theorem Lw {D : Names} {o : Obj} {d : Option Nat} (h : dm w D o d) : dm (w.putObj b o') D o d := by
 have hne : ∀ (c : Nat) (o1 : _root_.Go.Obj), w.heap[c]? = some o1 → (∀ ds, o1 ≠ .deferred ds) → (w.putObj b o').heap[c]? = some o1 := fun c o1 h1 h2 => by
  rw [World.putObj_heap_other (fun e => by subst e; rw [hb] at h1; exact h2 ds (Option.some.inj h1).symm)]; exact h1
 cases o with
 | box cs =>
  cases d with
  | none => exact h.elim
  | some c =>
   obtain ⟨vs, T, h1, h2, h3⟩ := h
   exact ⟨vs, T, hne _ _ h1 (fun _ e => by cases e), h2, fun i x hx => ⟨qm o' hb (h3 i x hx).1, (h3 i x hx).2⟩⟩
 | arr sz l =>
  cases d with
  | none => exact h
  | some c =>
   obtain ⟨vs, T, fz, h1, h2, h3, h4, h5, h6⟩ := h
   exact ⟨vs, T, fz, hne _ _ h1 (fun _ e => by cases e), h2, h3, h4, h5, fun j cs i x hj hi => ⟨xu o' hb (h6 j cs i x hj hi).1, (h6 j cs i x hj hi).2⟩⟩
 | mp kk k l =>
  cases d with
  | none => exact h.elim
  | some c =>
   obtain ⟨es, clock, h1, h2⟩ := h
   exact ⟨es, clock, hne _ _ h1 (fun _ e => by cases e), h2⟩
theorem LB {w0 : World} {M0 : Nat → Prop} {D0 : Names} {s : St} {a : Act} (hn : w0.heap.size ≤ b) (h : Sat w0 M0 D0 s a w) : Sat w0 M0 D0 s a (w.putObj b o') := by
 obtain ⟨hd, D, hm, he, hp⟩ := h
 refine ⟨hd, D, ⟨hm.lQ, hm.small, fun n o d h1 h2 => Lw o' hb (hm.rep n o d h1 h2), hm.inj, fun c hc => by rw [World.putObj_size]; exact hm.lt c hc, hm.own, ?_, hm.os, hm.tape, hm.output, fun g cs hg => ?_⟩, ⟨he.1, fun i x hx => Hq o' hb (he.2 i x hx)⟩, hp⟩
 ·refine ⟨⟨by rw [World.putObj_size]; exact hm.grow.size, fun c hc hM => ?_⟩, fun c hc => ?_⟩
  ·rw [World.putObj_heap_other (by omega)]; exact hm.grow.same c hc hM
  ·rw [← hm.grow.row c hc]
   have hne : c ≠ b := by omega
   simp only [World.row, World.shape?, World.putObj_heap_other hne]
 ·obtain ⟨h1, h2, f, h3⟩ := hm.bq g cs hg
  exact ⟨by rw [World.putObj_size]; exact h1, h2, f, fun i x hx => ⟨tK o' hb (h3 i x hx).1, xu o' hb (h3 i x hx).2.1, (h3 i x hx).2.2⟩⟩
end
theorem uz {P : Program} {fn : Func} {tmps : Array Value} {R : Ending → World → Prop} {w0 : World} {M0 : Nat → Prop} {D0 : Names} {s : St} {al a : Act} {w : World} (hx : lU w0.heap.size a w) (hs : Sat w0 M0 D0 s al w)
  (h : ∀ w', Sat w0 M0 D0 s al w' → ∃ v, (results fn tmps).run P w' = .ok v w' ∧ R (.returned v) w') : LeavesInM (FR none) 0 P fn tmps R a.defers .returning w := by
 obtain ⟨X, h1, h2, h3⟩ := hx
 rw [h1]
 clear h1
 induction X generalizing w with
 | nil => exact h w hs
 | cons b X ih =>
  obtain ⟨k1, k2⟩ := h3 b (List.mem_cons_self ..)
  rw [List.nodup_cons] at h2
  refine ⟨by simp, .inl ⟨b, _, rfl, run_takeDeferred k2, ?_⟩⟩
  refine ih (LB _ k2 k1 hs) h2.2 fun c hc => ⟨(h3 c (List.mem_cons_of_mem _ hc)).1, ?_⟩
  rw [World.putObj_heap_other (fun e => by subst e; exact h2.1 hc)]
  exact (h3 c (List.mem_cons_of_mem _ hc)).2
theorem zV {w : World} {D : Names} {o : Obj} {b : Nat} (h : dm w D o (some b)) {ds : Option (List Deferred)} (hb : w.heap[b]? = some (.deferred ds)) : False := by
 cases o with
 | box cs => obtain ⟨vs, T, h1, _⟩ := h; rw [hb] at h1; cases h1
 | arr sz l => obtain ⟨vs, T, fz, h1, _⟩ := h; rw [hb] at h1; cases h1
 | mp kk k l => obtain ⟨es, c, h1, _⟩ := h; rw [hb] at h1; cases h1
theorem Sat.base {w0 : World} {M0 : Nat → Prop} {D0 : Names} {s : St} {a : Act} {w : World} (h : Sat w0 M0 D0 s a w) : ∃ M' : Nat → Prop, (∀ b ds, w.heap[b]? = some (.deferred ds) → ¬ M' b) ∧ Sat w M' D0 s a w ∧
  ∀ s' a' w', Sat w M' D0 s' a' w' → Sat w0 M0 D0 s' a' w' ∧ Keep w w' M' := by
 obtain ⟨hd, D, hm, he, hp⟩ := h
 refine ⟨D.N, fun b ds hb hN => ?_, ⟨hd, D, ⟨hm.lQ, hm.small, hm.rep, hm.inj, hm.lt, fun b hb => .inl hb, .refl w _, rfl, rfl, rfl, hm.bq⟩, he, hp⟩, fun s' a' w' hs => ?_⟩
 ·obtain ⟨n, hn, hD⟩ := hN
  have h1 := hm.lQ n hn
  rw [hD] at h1
  obtain ⟨o, ho⟩ := Option.isSome_iff_exists.1 h1.symm
  exact zV (hm.rep n o (some b) ho hD) hb
 ·obtain ⟨hd', D', hm', he', hp'⟩ := hs
  refine ⟨⟨hd', D', ⟨hm'.lQ, hm'.small, hm'.rep, hm'.inj, hm'.lt, fun b hb => ?_, ?_, hm'.os.trans hm.os, hm'.tape.trans hm.tape, hm'.output.trans hm.output, hm'.bq⟩, he', hp'⟩, hm'.grow.toKeep⟩
  ·rcases hm'.own b hb with h | h
   ·exact hm.own b h
   ·exact .inr (Nat.le_trans hm.grow.size h)
  ·exact hm.grow.trans hm'.grow (fun x hx hD => by
    rcases hm.own x hD with h | h
    ·exact h
    ·omega)
def vY (P : Program) (k : Nat) (tp : Bool) (pins : List Nat) (c : Code) (Q : Exit → St → Prop) (s : St) : Prop :=
 ∀ rd g w0 M0 D0 a w, (tp = true → rd = none) → g.size = k → ja pins D0 → lU w0.heap.size a w → Sat w0 M0 D0 s (ext g a) w → c.wpIn (FR rd) 0 P (fun e a' w' => lU w0.heap.size a' w' ∧ ∃ s', Q e s' ∧ Sat w0 M0 D0 s' (ext g a') w') a w
section
variable {P : Program} {k : Nat} {tp : Bool} {pins : List Nat} {Q Q' : Exit → St → Prop} {s s' : St}
theorem vY.mono {c : Code} (h : vY P k tp pins c Q s) (hq : ∀ e s, Q e s → Q' e s) : vY P k tp pins c Q' s :=
 fun rd g w0 M0 D0 a w ht hg hp hx hs => Code.wpIn_mono (fun _ _ _ ⟨h0, s', h1, h2⟩ => ⟨h0, s', hq _ _ h1, h2⟩) (h rd g w0 M0 D0 a w ht hg hp hx hs)
theorem Kl (h : Q .normal s) : vY P k tp pins .skip Q s := fun _ _ _ _ _ _ _ _ _ _ hx hs => wpIn_skip ⟨hx, s, h, hs⟩
theorem Nh (h : Q .ret s) : vY P k tp pins .ret Q s := fun _ _ _ _ _ _ _ _ _ _ hx hs => wpIn_ret ⟨hx, s, h, hs⟩
theorem Kj {id : Nat} (h : Q (.exit id) s) : vY P k tp pins (.exit id) Q s := fun _ _ _ _ _ _ _ _ _ _ hx hs => wpIn_exit ⟨hx, s, h, hs⟩
def SJ (P : Program) (k : Nat) (tp : Bool) (pins : List Nat) (y : Code) (Q : Exit → St → Prop) : Exit → St → Prop
 | .normal, s => vY P k tp pins y Q s
 | e, s => Q e s
theorem Gm {x y : Code} (h : vY P k tp pins x (SJ P k tp pins y Q) s) : vY P k tp pins (.seq x y) Q s := by
 intro rd g w0 M0 D0 a w ht hg hp hx hs
 refine wpIn_seq (Code.wpIn_mono ?_ (h rd g w0 M0 D0 a w ht hg hp hx hs))
 rintro e a' w' ⟨h0, s', h1, h2⟩
 cases e with
 | normal => exact h1 rd g w0 M0 D0 a' w' ht hg hp h0 h2
 | _ => exact ⟨h0, s', h1, h2⟩
theorem HI {id : Nat} {x : Code} (h : vY P k tp pins x (CB id Q) s) : vY P k tp pins (.block id x) Q s := by
 intro rd g w0 M0 D0 a w ht hg hp hx hs
 refine wpIn_block (Code.wpIn_mono ?_ (h rd g w0 M0 D0 a w ht hg hp hx hs))
 rintro e a' w' ⟨h0, s', h1, h2⟩
 cases e with
 | exit i =>
  simp only [CB] at h1
  simp only [Exit.inBlock]
  split
  ·rename_i hi; rw [if_pos hi] at h1; exact ⟨h0, s', h1, h2⟩
  ·rename_i hi; rw [if_neg hi] at h1; exact ⟨h0, s', h1, h2⟩
 | _ => exact ⟨h0, s', h1, h2⟩
theorem Ki {c : Operand} {x y : Code} {t : Bool} (hc : ev s.env (fu k c) = .bool t) (ht : t = true → vY P k tp pins x Q s) (hf : t = false → vY P k tp pins y Q s) : vY P k tp pins (.cond c x y) Q s := by
 intro rd g w0 M0 D0 a w htp hg hp hx hs
 have hs0 := hs
 obtain ⟨hd, D, hm, he, hpin⟩ := hs
 have hv := aj hm.bq he (fu k c)
 rw [hc, ← hg, zj] at hv
 refine wpIn_cond_split (fL hv) (fun h => ht h rd g w0 M0 D0 a w htp hg hp hx hs0) (fun h => hf h rd g w0 M0 D0 a w htp hg hp hx hs0)
theorem vC {c : Code} (hw : lY pins s s') (h : vY P k tp pins c Q s') : vY P k tp pins c Q s :=
 fun rd g w0 M0 D0 a w ht hg hp hx hs => h rd g w0 M0 D0 a w ht hg hp hx (hw w0 M0 D0 _ w hp hs)
theorem Kk {c : Code} (I : Nat → St → Prop) {n : Nat} (h0 : I n s) (hr : ∀ n s, I n s → vY P k tp pins c (Rz I n Q) s) : vY P k tp pins (.loop c) Q s := by
 intro rd g w0 M0 D0 a w ht hg hp hx hs
 let R : Act → World → Nat → Prop := fun a w n => lU w0.heap.size a w ∧ ∃ s, I n s ∧ Sat w0 M0 D0 s (ext g a) w
 refine wpIn_loop (fun a w => ∃ n, R a w n) (fun a w => Db (R a w)) ⟨n, hx, s, h0, hs⟩ fun a w hI => ?_
 obtain ⟨⟨hx1, s1, hI1, hs1⟩, _⟩ := q6 hI
 refine Code.wpIn_mono ?_ (hr _ s1 hI1 rd g w0 M0 D0 a w ht hg hp hx1 hs1)
 rintro e a' w' ⟨hx2, s', h1, h2⟩
 cases e with
 | normal =>
  obtain ⟨m, hm, hI'⟩ := h1
  exact ⟨⟨m, hx2, s', hI', h2⟩, Nat.lt_of_le_of_lt ((q6 ⟨m, hx2, s', hI', h2⟩).2 m ⟨hx2, s', hI', h2⟩) hm⟩
 | _ => exact ⟨hx2, s', h1, h2⟩
def EM (ops : Array Oper) : Bool := ops.toList.all fun o => !mo o
theorem n7 {ops : Array Oper} (h : EM ops = true) : ∀ (j : Nat) (o : Oper), ops[j]? = some o → mo o = false := fun j o ho => by
 have := List.all_eq_true.1 h o (by simpa using Array.mem_of_getElem? ho)
 simpa using this
theorem OM {k : Nat} {ops : Array Oper} (hs : Region.noSelect (kR k ops) = true) : ∀ (j : Nat) (o : Oper) cs b, ops[j]? = some o → o.op ≠ .select cs b := by
 intro j o cs b hj ho
 refine Region.noSelect_spec hs j (rA k o) cs b (by rw [mM, hj]; rfl) ?_
 simp only [rA, ho, pX]
theorem ID (k : Nat) (o : Oper) : mo (rA k o) = mo o := by
 obtain ⟨dst, op, ty, pos, aft, guard⟩ := o
 cases op <;> rfl
theorem D6 {id : Nat} {ops : Array Oper} {draw : Bool} {R : St → Prop} (hm : P.follows .mixedOrders = true) (hs : Region.noSelect (kR k ops) = true) (hnd : EM (kR k ops) = true) (h : vW P pins (kR k ops) draw s R) (hq : ∀ s, R s → Q .normal s) : vY P k tp pins (.region id ops draw) Q s := by
 intro rd g w0 M0 D0 a w _ hg hp hx hsat
 have hsel := OM hs
 have hdf : ∀ (j : Nat) (o : Oper), ops[j]? = some o → mo o = false := fun j o hj => by
  have := n7 hnd j (rA k o) (by rw [mM, hj]; rfl)
  rwa [ID] at this
 subst hg
 obtain ⟨M', hM, hsat', hback⟩ := hsat.base
 have fin : ∀ e a' w', yP (fun a' w' => a'.defers = a.defers ∧ tC w M' D0 R (ext g a') w') e a' w' → lU w0.heap.size a' w' ∧ ∃ s', Q e s' ∧ Sat w0 M0 D0 s' (ext g a') w' := by
  rintro e a' w' ⟨rfl, hd, s', h1, h2⟩
  obtain ⟨k1, k2⟩ := hback _ _ _ h2
  exact ⟨hx.keep hd fun b hb => k2.same b (Array.getElem?_eq_some_iff.1 hb).1 (hM b _ hb), s', hq _ h1, k1⟩
 have hR : ∀ dl a' w', a'.defers = dl ++ a.defers → tC w M' D0 R (gX g dl a') w' → a'.defers = a.defers ∧ tC w M' D0 R (ext g a') w' := by
  rintro dl a' w' hd ⟨s', h1, h2⟩
  have : dl = [] := h2.1
  subst this
  exact ⟨hd, s', h1, h2⟩
 obtain ⟨h1, h2⟩ := h w M' D0 _ w hp hsat'
 cases draw with
 | false =>
  refine Code.wpIn_mono fin (wpIn_region_list (p9 (R' := tC w M' D0 R) hR ops.toList (fun o ho => ?_) [] a w rfl ?_))
  ·obtain ⟨j, hj⟩ := List.getElem?_of_mem ho
   exact ⟨fun cs b => hsel j o cs b (by simpa using hj), hdf j o (by simpa using hj)⟩
  ·have := h1 rfl rd
   simpa [kR] using this
 | true =>
  refine Code.wpIn_mono fin (wpIn_region_any hm (rE (fun j o ho => ⟨fun cs b => hsel j o cs b ho, hdf j o ho⟩) (R' := tC w M' D0 R) hR _ _ [] a _ rfl ?_))
  have := vA (rd := rd) (n7 hnd) _ _ _ _ (h2 rfl)
  have e : (kR g.size ops).size = ops.size := by simp [kR]
  rw [e] at this
  exact this
end
theorem kS (x : Operand) : fu 0 x = x := by cases x <;> simp [fu]
theorem AX (l : Array Operand) : Ky 0 l = l := by
 rw [Ky, map_toArray, show fu 0 = id from funext kS, Array.map_id]
theorem JL (l : Array (Nat × Operand)) : Qb 0 l = l := by
 rw [Qb, map_toArray]
 have : (fun p : Nat × Operand => (p.1, fu 0 p.2)) = id := funext fun p => by rw [kS]; rfl
 rw [this, Array.map_id]
theorem AY (c : Call) : lN 0 c = c := by
 obtain ⟨callee, args, tys⟩ := c
 cases callee <;> simp only [lN, AX, kS]
theorem Hn (o : Op) : pX 0 o = o := by
 have hm : ∀ r : Option Operand, r.map (fu 0) = r := fun r => by cases r <;> simp [kS]
 cases o <;> simp only [pX, kS, AX, JL, AY, hm]
theorem JK (o : Oper) : rA 0 o = o := by
 obtain ⟨dst, op, ty, pos, aft, guard⟩ := o
 have : dst.map (0 + ·) = dst := by cases dst <;> simp
 simp only [rA, Hn, this]
theorem fc : ∀ c : Code, mL 0 c = c
 | .region id ops draw => by
  have : kR 0 ops = ops := by rw [kR, map_toArray, show rA 0 = _root_.id from funext JK, Array.map_id]
  simp only [mL, this]
 | .seq a b => by simp only [mL, fc a, fc b]
 | .cond c a b => by simp only [mL, kS, fc a, fc b]
 | .block id a => by simp only [mL, fc a]
 | .loop a => by simp only [mL, fc a]
 | .skip => rfl
 | .exit _ => rfl
 | .ret => rfl
 | .rangeFunc .. => rfl
 | .scope .. => rfl
 | .label .. => rfl
 | .goto .. => rfl
 | .refuse .. => rfl
end Go.Abs
namespace Go.Abs
open Go.RowKit
mutual
def Ty.beq : Ty → Ty → Bool
  | .int k, .int k' => decide (k = k')
  | .bool, .bool => true
  | .str, .str => true
  | .sl a, .sl b => a.beq b
  | _, _ => false
def cf.beq : cf → cf → Bool
  | .nil, .nil => true
  | .cons t ts, .cons u us => t.beq u && ts.beq us
  | _, _ => false
end
mutual
theorem Ty.beq_eq : ∀ (t u : Ty), t.beq u = true → t = u
  | .int k, .int k', h => by simp only [Ty.beq, decide_eq_true_eq] at h; rw [h]
  | .bool, .bool, _ => rfl
  | .str, .str, _ => rfl
  | .sl a, .sl b, h => by simp only [Ty.beq] at h; rw [cf.beq_eq a b h]
  | .int _, .bool, h => by simp [Ty.beq] at h
  | .int _, .str, h => by simp [Ty.beq] at h
  | .int _, .sl _, h => by simp [Ty.beq] at h
  | .bool, .int _, h => by simp [Ty.beq] at h
  | .bool, .str, h => by simp [Ty.beq] at h
  | .bool, .sl _, h => by simp [Ty.beq] at h
  | .str, .int _, h => by simp [Ty.beq] at h
  | .str, .bool, h => by simp [Ty.beq] at h
  | .str, .sl _, h => by simp [Ty.beq] at h
  | .sl _, .int _, h => by simp [Ty.beq] at h
  | .sl _, .bool, h => by simp [Ty.beq] at h
  | .sl _, .str, h => by simp [Ty.beq] at h
theorem cf.beq_eq : ∀ (t u : cf), t.beq u = true → t = u
  | .nil, .nil, _ => rfl
  | .cons t ts, .cons u us, h => by
    simp only [cf.beq, Bool.and_eq_true] at h
    rw [Ty.beq_eq t u h.1, cf.beq_eq ts us h.2]
  | .nil, .cons _ _, h => by simp [cf.beq] at h
  | .cons _ _, .nil, h => by simp [cf.beq] at h
end
inductive KV where
  | int (k : IntKind) (n : Int)
  | bool (b : Bool)
  | str (s : List UInt8)
  | sl (ts : cf) (l : List ts.T)
inductive KC where
  | rJ
  | xD
  | qy
  | fn (f : FuncId)
  deriving DecidableEq
def KC.val : KC → Value
  | .rJ => .pointer none
  | .xD => .nilFunc
  | .qy => .nilIface
  | .fn f => .func (.func f) #[] #[]
inductive CV where
  | any
  | gO
  | gE
  | k (v : KV)
  | own (n : Nat)
  | cw (n sz off len : Nat)
  | at_ (cs : List KV)
  | ref (n sz i off : Nat)
  | raw (a : AV)
  | cW (c : KC)
  | cm (f : Option FuncId × TypeId) (ns : List (Nat × Nat))
  | qb (t : TypeId) (g : Bool) (l : List KV)
  | Vi (ts : cf) (l : List ts.T)
inductive VV where
  | c (x : CV)
  | g (l : List CV)
inductive SV where
  | v (x : VV)
  | cI (l : List VV)
inductive SO where
  | box (cs : List CV)
  | arr (ts : cf) (l : List ts.T)
  | mp (kk k : IntKind) (l : List (Int × Int))
def SV.any : SV := .v (.c .any)
def SV.gO : SV := .v (.c .gO)
def SV.kv (x : KV) : SV := .v (.c (.k x))
def SV.bool (b : Bool) : SV := .kv (.bool b)
def Ty.kv : (t : Ty) → t.T → KV
  | .int k, n => .int k n
  | .bool, b => .bool b
  | .str, s => .str s
  | .sl ts, l => .sl ts l
def cf.qZ : (ts : cf) → ts.T → List KV
  | .nil, _ => []
  | .cons t ts, x => t.kv x.1 :: ts.qZ x.2
def Ty.zc : Ty → CV
  | .int k => .k (.int k 0)
  | .bool => .k (.bool false)
  | .str => .k (.str [])
  | .sl _ => .gE
def cf.zc : cf → List CV
  | .nil => []
  | .cons t ts => t.zc :: ts.zc
def KV.to : (t : Ty) → KV → Option t.T
  | .int k, .int k' n => if k = k' then some n else none
  | .bool, .bool b => some b
  | .str, .str s => some s
  | .sl ts, .sl us l => if h : us.beq ts = true then some (cf.beq_eq us ts h ▸ l) else none
  | _, _ => none
abbrev ah := List (Nat × SO)
def ad (n : Nat) : ah → Option SO
  | [] => none
  | (m, o) :: r => if m = n then some o else ad n r
def du (n : Nat) : ah → ah
  | [] => []
  | (m, o) :: r => if m = n then du n r else (m, o) :: du n r
def c8 (n : Nat) (o : SO) : ah → ah
  | [] => []
  | (m, p) :: r => if m = n then (m, o) :: c8 n o r else (m, p) :: c8 n o r
def KV.av : KV → AV
  | .int k n => .int k n
  | .bool b => .bool b
  | .str s => .str s
  | .sl ts l => .sl ts.len (l.map ts.cF)
def CV.av (O : ah) : CV → AV
  | .any => .any
  | .gO => .gO
  | .gE => .gE
  | .k v => v.av
  | .own n => match ad n O with
    | some (.arr ts l) => .cw n ts.len 0 l.length
    | _ => .any
  | .cw n sz off len => .cw n sz off len
  | .at_ cs => .at_ (cs.map KV.av)
  | .ref n sz i off => .ref n sz i off
  | .raw a => match a with | .sl sz l => .sl sz l | _ => .any
  | .cW c => .cW c.val
  | .cm f ns => .cm (f.1.map Fn.func, f.2) (ns.map (·.1))
  | .qb t g l => .qb t g (l.map KV.av)
  | .Vi ts l => .at_ (l.flatMap ts.cF)
def VV.av (O : ah) : VV → AV
  | .c x => x.av O
  | .g l => .agg (l.map (CV.av O))
def SV.av (O : ah) : SV → AV
  | .v x => x.av O
  | .cI l => .cI (l.map (VV.av O))
def SO.av (O : ah) : SO → Obj
  | .box cs => .box (cs.map (CV.av O))
  | .arr ts l => .arr ts.len (l.map ts.cF)
  | .mp kk k l => .mp kk k l
structure SS where
  env : List (Nat × SV)
  objs : ah
def cr : List (Nat × SV) → Nat → SV
  | [], _ => .any
  | (m, x) :: r, n => if m = n then x else cr r n
def SS.get (N : Nat) (s : SS) (t : Nat) : SV := if t < N then cr s.env t else .any
def ai (O : ah) : ah → List (Nat × Obj)
  | [] => []
  | (n, o) :: r => (n, o.av O) :: ai O r
def SS.st (N : Nat) (s : SS) : St := ⟨(List.range N).map fun i => (cr s.env i).av s.objs, ai s.objs s.objs⟩
def SS.put (s : SS) : Option Tmp → SV → SS
  | some d, x => ⟨(d, x) :: s.env, s.objs⟩
  | none, _ => s
inductive TD where
  | int (k : IntKind)
  | bool
  | str
  | slice (ts : cf) (bytes : Nat)
  | struct (ts : cf) (fs : List (Nat × Bool × Nat)) (eq : Bool)
  | arr (n : Nat) (ts : cf)
  | nl (c : KC)
  | map (kk k : IntKind)
def gQ : List (Nat × TD) → Nat → Option TD
  | [], _ => none
  | (m, x) :: r, n => if m = n then some x else gQ r n
def TD.cell : TD → Bool × Nat
  | .struct ts _ _ => (true, ts.len)
  | .arr n ts => (true, n * ts.len)
  | _ => (false, 1)
end Go.Abs
namespace Go.Abs
open Go.RowKit
def Ri (a b : Int) : Int := a + b
def Ro (a b : Int) : Int := a - b
def N7 (a b : Int) : Int := a * b
def Rk (a b : Int) : Int := a.tdiv b
def Rl (a b : Int) : Int := a.tmod b
def ui (k : IntKind) (a : Int) : Int := k.wrap a
def Rj (k : IntKind) (a b : Int) : Int := k.wrap (BitVec.ofInt k.bits a &&& BitVec.ofInt k.bits b).toNat
def YD (k : IntKind) (a b : Int) : Int := k.wrap (BitVec.ofInt k.bits a ||| BitVec.ofInt k.bits b).toNat
def N8 (k : IntKind) (a b : Int) : Int := k.wrap (BitVec.ofInt k.bits a ^^^ BitVec.ofInt k.bits b).toNat
def Eo (k : IntKind) (a b : Int) : Int := k.wrap (BitVec.ofInt k.bits a &&& ~~~ BitVec.ofInt k.bits b).toNat
def Rm (k : IntKind) (a b : Int) : Int := k.wrap (a * 2 ^ (min b.toNat k.bits))
def Rn (k : IntKind) (a b : Int) : Int := a.fdiv (2 ^ (min b.toNat k.bits))
def Vo (a : Int) : Int := 0 - a
def Vm (a b : Int) : Int := if b > a then b else a
def Vn (a b : Int) : Int := if b < a then b else a
def Tv (a b : Int) : Bool := a == b
def PW (a b : Int) : Bool := a != b
def Tx (a b : Int) : Bool := decide (a < b)
def vG (a b : Int) : Bool := decide (a ≤ b)
def y3 (a : Bool) : Bool := !a
def NS (a b : Bool) : Bool := a && b
def Tz (a b : Bool) : Bool := a || b
def Tw (a b : Bool) : Bool := a == b
def Qa (a b : List UInt8) : Bool := a == b
def IV (a b : Nat) : Bool := decide (a ≤ b)
def Tb (a b : Nat) : Bool := decide (a = b)
def eE {α : Type} (l : List α) : Nat := l.length
def GO {α : Type} (l : List α) : Int := l.length
def uh (n : Nat) : Int := n
def iA (n : Int) : Nat := n.toNat
def vO (a b : Nat) : Nat := a + b
def Di (a b : Nat) : Nat := a - b
def RC (a b : Nat) : Nat := a * b
def rH {α : Type} (a b : List α) : List α := a ++ b
def Og {α : Type} (l : List α) (n : Nat) (x : α) : List α := l.set n x
def zB {α : Type} (n : Nat) (x : α) : List α := List.replicate n x
def IG {α : Type} (l : List α) (n : Nat) (d : α) : α := l.getD n d
def lA {α : Type} (l : List α) (off len : Nat) : List α := (l.drop off).take len
def br {α : Type} (b : Bool) (x y : α) : α := if b = true then x else y
def gR {α β : Type} (x : Option α) (f : α → Option β) : Option β := x.bind f
def bg {α : Type} (d : α) (l : List α) (n : Int) : α := l.getD n.toNat d
def EZ (s : List UInt8) (n : Int) : Int := (s.getD n.toNat 0).toNat
def bt (n : Int) (len : Nat) : Bool := decide (0 ≤ n) && decide (n < len)
def ig {α : Type} (l : List α) (lo hi : Int) : List α := (l.drop lo.toNat).take (hi.toNat - lo.toNat)
def fa (lo hi : Int) (len : Nat) : Bool := decide (0 ≤ lo) && (decide (lo ≤ hi) && decide (hi ≤ len))
def Nl : SV → Option KV
 | .v (.c (.k x)) => some x
 | _ => none
def Ks : SV → Option CV
 | .v (.c x) => some x
 | _ => none
def Nk : SV → Option Int
 | .v (.c (.k (.int _ n))) => some n
 | _ => none
def Dm : Value → CV
 | .int k n => .k (.int k n)
 | .bool b => .k (.bool b)
 | .string s => if s.size ≤ cj then .k (.str s.data.toList) else .any
 | .slice none 0 0 => .gE
 | .pointer none => .cW .rJ
 | .nilFunc => .cW .xD
 | .nilIface => .cW .qy
 | _ => .any
def I8 : Value → SV
 | .agg cs => if cs.toList.all (·.oneCell') then .v (.g (cs.toList.map Dm)) else .any
 | v => .v (.c (Dm v))
abbrev qe := List ((TypeId × String) × (FuncId × Option (Bool × Nat)))
def VB : qe → TypeId → String → Option (FuncId × Option (Bool × Nat))
 | [], _, _ => none
 | ((t', n'), r) :: l, t, n => if t' = t ∧ n' = n then some r else VB l t n
structure eN where
 G : List (Nat × TD)
 N : Nat
 fuel : Nat
 M : qe
def aq (C : eN) (s : SS) : Operand → SV
 | .tmp t => s.get C.N t
 | .const v => I8 v
 | .func f => .v (.c (.cW (.fn f)))
 | .global g => match GX Em g with
  | some e => match e with
   | ⟨ts, [x]⟩ => .v (.c (.at_ (ts.qZ x)))
   | ⟨ts, l⟩ => .v (.c (.Vi ts l))
  | none => .any
def VT (op : BinOp) (k : IntKind) (a b : Int) : Option (List Bool × KV) :=
 match op with
 | .add => some ([], .int k (ui k (Ri a b)))
 | .sub => some ([], .int k (ui k (Ro a b)))
 | .mul => some ([], .int k (ui k (N7 a b)))
 | .quo => some ([PW b 0], .int k (ui k (Rk a b)))
 | .rem => some ([PW b 0], .int k (Rl a b))
 | .and => some ([], .int k (Rj k a b))
 | .or => some ([], .int k (YD k a b))
 | .xor => some ([], .int k (N8 k a b))
 | .andNot => some ([], .int k (Eo k a b))
 | .shl => some ([vG 0 b], .int k (Rm k a b))
 | .shr => some ([vG 0 b], .int k (Rn k a b))
 | .eql => some ([], .bool (Tv a b))
 | .neq => some ([], .bool (PW a b))
 | .lss => some ([], .bool (Tx a b))
 | .leq => some ([], .bool (vG a b))
 | .gtr => some ([], .bool (Tx b a))
 | .geq => some ([], .bool (vG b a))
def VZ (op : BinOp) (a b : List UInt8) : Option (List Bool × KV) :=
 match op with
 | .add => some ([IV (vO (eE a) (eE b)) cj], .str (rH a b))
 | .eql => some ([], .bool (Qa a b))
 | .neq => some ([], .bool (y3 (Qa a b)))
 | .lss => some ([], .bool (Op.bytesLess a b))
 | .leq => some ([], .bool (Tz (Op.bytesLess a b) (Qa a b)))
 | .gtr => some ([], .bool (y3 (Tz (Op.bytesLess a b) (Qa a b))))
 | .geq => some ([], .bool (y3 (Op.bytesLess a b)))
 | _ => none
def u3 : cf → List CV → List CV → Option Bool
 | .nil, [], [] => some true
 | .cons (.int k) ts, .k (.int k1 a) :: xs, .k (.int k2 b) :: ys => if k1 = k ∧ k2 = k then (match u3 ts xs ys with
  | some q => some (NS (Tv a b) q)
  | none => none) else none
 | .cons .bool ts, .k (.bool a) :: xs, .k (.bool b) :: ys => match u3 ts xs ys with
  | some q => some (NS (Tw a b) q)
  | none => none
 | .cons .str ts, .k (.str a) :: xs, .k (.str b) :: ys => match u3 ts xs ys with
  | some q => some (NS (Qa a b) q)
  | none => none
 | _, _, _ => none
def OK (G : List (Nat × TD)) (T : TypeId) (op : BinOp) (x y : SV) : Option (List Bool × KV) :=
 match x, y with
 | .v (.c (.k a)), .v (.c (.k b)) => match a, b with
  | .int k a, .int k' b => if rS op = true ∨ k = k' then VT op k a b else none
  | .str a, .str b => VZ op a b
  | .bool a, .bool b => match gQ G T, op with
   | some .bool, .eql => some ([], .bool (Tw a b))
   | some .bool, .neq => some ([], .bool (y3 (Tw a b)))
   | _, _ => none
  | _, _ => none
 | .v (.g a), .v (.g b) => match gQ G T, op with
  | some (.struct ts _ true), .eql => (u3 ts a b).map fun r => ([], .bool r)
  | some (.struct ts _ true), .neq => (u3 ts a b).map fun r => ([], .bool (y3 r))
  | _, _ => none
 | _, _ => none
def M6 (op : UnOp) (x : KV) : Option KV :=
 match op, x with
 | .not, .bool b => some (.bool (y3 b))
 | .neg, .int k n => some (.int k (ui k (Vo n)))
 | .xor, .int k n => some (.int k (N8 k (if k.signed then -1 else k.max) n))
 | _, _ => none
def fw : cf := .cons (.int .u8) .nil
def xw (G : List (Nat × TD)) (T : TypeId) : Bool := match gQ G T with | some (.slice ts _) => ts.beq fw | _ => false
def toBytes (l : List fw.T) : List UInt8 := l.map fun x => UInt8.ofNat (x.1 : Int).toNat
def ofBytes (s : List UInt8) : List fw.T := s.map fun b => ((b.toNat : Int), ())
def mF (O : ah) (ts : cf) : SV → Option (List Bool × List ts.T)
 | .v (.c .gE) => some ([], [])
 | .v (.c (.k (.sl us l))) => if h : us.beq ts = true then some ([], cf.beq_eq us ts h ▸ l) else none
 | .v (.c (.own n)) => match ad n O with
  | some (.arr us l) => if h : us.beq ts = true then some ([], cf.beq_eq us ts h ▸ l) else none
  | _ => none
 | .v (.c (.cw n sz off len)) => match ad n O with
  | some (.arr us l) => if h : us.beq ts = true then (if sz = ts.len then some ([IV (vO off len) (eE l)], lA (cf.beq_eq us ts h ▸ l : List ts.T) off len) else none) else none
  | _ => none
 | _ => none
def ff : Option TD → Bool
 | some (.slice _ _) => true
 | _ => false
def DN (O : ah) (D : Option TD) : SV → Option Int
 | .v (.c (.k (.str s))) => match D with | some .str => some (GO s) | _ => none
 | .v (.c (.k (.sl _ l))) => if ff D then some (GO l) else none
 | .v (.c .gE) => if ff D then some 0 else none
 | .v (.c (.own n)) => match ad n O with
  | some (.arr _ l) => if ff D then some (GO l) else none
  | _ => none
 | .v (.c (.cw _ _ _ len)) => if ff D then some (uh len) else none
 | _ => none
def gM (C : eN) (s : SS) (d : Int) : Option Operand → Option Int
 | none => some d
 | some o => Nk (aq C s o)
def DV (C : eN) (s : SS) (T : TypeId) (x : SV) (lo hi : Option Operand) : Option (List Bool × CV) :=
 match x with
 | .v (.c (.k (.str b))) => match gQ C.G T, gM C s 0 lo, gM C s (GO b) hi with
  | some .str, some l, some h => some ([fa l h (eE b)], .k (.str (ig b l h)))
  | _, _, _ => none
 | .v (.c (.k (.sl us b))) => match gQ C.G T, gM C s 0 lo, gM C s (GO b) hi with
  | some (.slice ts _), some l, some h => if us.len = ts.len then some ([fa l h (eE b)], .k (.sl us (ig b l h))) else none
  | _, _, _ => none
 | .v (.c .gE) => match gQ C.G T, gM C s 0 lo, gM C s 0 hi with
  | some (.slice _ _), some l, some h => some ([fa l h 0], .gE)
  | _, _, _ => none
 | .v (.c (.own n)) => match ad n s.objs with
  | some (.arr us b) => match gQ C.G T, gM C s 0 lo, gM C s (GO b) hi with
   | some (.slice ts _), some l, some h => if us.len = ts.len then some ([fa l h (eE b)], .cw n us.len (iA l) (Di (iA h) (iA l))) else none
   | _, _, _ => none
  | _ => none
 | .v (.c (.cw n sz off len)) => match gQ C.G T, gM C s 0 lo, gM C s (uh len) hi with
  | some (.slice ts _), some l, some h => if sz = ts.len then some ([fa l h len], .cw n sz (vO off (iA l)) (Di (iA h) (iA l))) else none
  | _, _, _ => none
 | .v (.c (.ref n sz 0 0)) => match ad n s.objs, gQ C.G T, lo, hi with
  | some (.arr us b), some (.arr len ts), none, none => if us.len = ts.len ∧ sz = ts.len then some ([Tb (eE b) len], .own n) else none
  | some (.arr us b), some (.arr len ts), lo, hi => match gM C s 0 lo, gM C s (uh len) hi with
   | some l, some h => if us.len = ts.len ∧ sz = ts.len then some ([Tb (eE b) len, fa l h len], .cw n sz (iA l) (Di (iA h) (iA l))) else none
   | _, _ => none
  | _, _, _, _ => none
 | _ => none
def vr (C : eN) (s : SS) (T : TypeId) (x : SV) (lo : Option Operand) (hi mx : Operand) : Option (List Bool × CV) := match x with
 | .v (.c (.own n)) => match ad n s.objs with
  | some (.arr us b) => match gQ C.G T, gM C s 0 lo, gM C s 0 (some hi), gM C s 0 (some mx) with
   | some (.slice ts _), some l, some h, some m => if us.len = ts.len then some ([vG 0 l, vG l h, vG h m, vG m (uh (eE b))], .cw n us.len (iA l) (Di (iA h) (iA l))) else none
   | _, _, _, _ => none
  | _ => none
 | .v (.c (.cw n sz off len)) => match gQ C.G T, gM C s 0 lo, gM C s 0 (some hi), gM C s 0 (some mx) with
  | some (.slice ts _), some l, some h, some m => if sz = ts.len then some ([vG 0 l, vG l h, vG h m, vG m (uh len)], .cw n sz (vO off (iA l)) (Di (iA h) (iA l))) else none
  | _, _, _, _ => none
 | _ => none
def Ku (D : Bool × Nat) (cs : List CV) : Option VV :=
 if D.1 then (if D.2 ≤ cs.length then some (.g (cs.take D.2)) else none) else cs.head?.map .c
def mD (O : ah) (n sz i off : Nat) : Option (List Bool × List CV) :=
 match ad n O with
 | some (.box cs) => match i with
  | 0 => some ([], cs.drop off)
  | _ => none
 | some (.arr ts l) => if sz = ts.len then some ([IV (vO i 1) (eE l)], (((ts.qZ (IG l i ts.d)).map CV.k).drop off)) else none
 | _ => none
def ib (O : ah) : CV → Bool
 | .k _ | .gE | .cw _ _ _ _ | .at_ _ | .ref _ _ _ _ | .cW _ | .cm _ _ => true
 | .own n => (match ad n O with | some (.arr _ _) => true | _ => false)
 | _ => false
def iN : CV → Bool
 | .k _ | .gE | .at_ _ | .cW _ => true
 | _ => false
def fk (O : ah) : SV → Option (List CV)
 | .v (.g l) => some l
 | .v (.c x) => if ib O x then some [x] else none
 | _ => none
def o8 (O : ah) (pl : List (Nat × Bool × Nat)) : List CV → List (Nat × SV) → Option (List CV)
 | cells, [] => some cells
 | cells, (i, x) :: rest => match pl[i]?, fk O x with
  | some (off, _, n), some cs => if cs.length = n ∧ off + n ≤ cells.length then o8 O pl (cells.take off ++ (cs ++ cells.drop (off + n))) rest else none
  | _, _ => none
def oD : List SV → Option (List (Nat × Nat))
 | [] => some []
 | .v (.c (.ref n sz 0 0)) :: r => match oD r with
  | some l => some ((n, sz) :: l)
  | none => none
 | _ => none
def Ld (f : FuncId) : List SV → Option CV
 | [] => some (.cW (.fn f))
 | x :: l => match oD (x :: l) with
  | some ns => some (.cm (some f, 0) ns)
  | none => none
def wc (D : Option TD) : Bool := match D with
 | some (.nl .qy) => false
 | some (.nl (.fn _)) => false
 | some _ => true
 | none => false
def IF : List CV → Option (List KV)
 | [] => some []
 | .k v :: r => match IF r with
  | some l => some (v :: l)
  | none => none
 | _ => none
def Le (D : Option TD) (T : TypeId) (x : SV) : Option CV := if wc D = true then (match x with
 | .v (.c (.ref n sz 0 0)) => some (.cm (none, T) [(n, sz)])
 | .v (.g l) => (IF l).map (.qb T true)
 | .v (.c (.k v)) => some (.qb T false [v])
 | _ => none) else none
def Gi (ok : Bool) (x : VV) : SV := if ok = true then .cI [x, .c (.k (.bool true))] else .v x
def M7 (D : Option TD) (T : TypeId) (ok : Bool) (x : SV) : Option SV := if wc D = true then (match x with
 | .v (.c (.qb t true l)) => if t = T then some (Gi ok (.g (l.map CV.k))) else none
 | .v (.c (.qb t false [v])) => if t = T then some (Gi ok (.c (.k v))) else none
 | _ => none) else none
def SY (op : BinOp) (b : Bool) : Option KV := match op with
 | .eql => some (.bool b)
 | .neq => some (.bool (!b))
 | _ => none
def Oc (D : Option TD) : Bool := match D with | some (.nl .qy) => true | _ => false
def P6 (D : Option TD) : Bool := match D with | some (.nl .rJ) => true | _ => false
def OL (D : Option TD) (X Y : Operand) (x y : SV) : Option Bool := match x, y with
 | .v (.c x), .v (.c y) => match x, y with
  | .cW .qy, .cW .qy => if (Oc D && (P5 .nilIface X || P5 .nilIface Y)) = true then some true else none
  | .cW .qy, .qb _ _ _ => if Oc D = true then some false else none
  | .qb _ _ _, .cW .qy => if Oc D = true then some false else none
  | .cW .qy, .cm (none, _) _ => if Oc D = true then some false else none
  | .cm (none, _) _, .cW .qy => if Oc D = true then some false else none
  | .cW .rJ, .cW .rJ => if P6 D = true then some true else none
  | .cW .rJ, .ref _ _ _ _ => if P6 D = true then some false else none
  | .ref _ _ _ _, .cW .rJ => if P6 D = true then some false else none
  | .ref n _ 0 off, .ref m _ 0 off' => if P6 D = true ∧ n = m ∧ off = off' then some true else none
  | _, _ => none
 | _, _ => none
def Qc (mx : Bool) : List SV → Option KV
 | [.v (.c (.k (.int k a))), .v (.c (.k (.int k' b)))] => if k = k' then some (.int k (if mx = true then Vm a b else Vn a b)) else none
 | _ => none
def sR (C : eN) (s : SS) : Op → Option (List Bool × SV)
 | .move x => some ([], aq C s x)
 | .assign x => some ([], aq C s x)
 | .fieldAddr T x k => match Ks (aq C s x), gQ C.G T with
  | some (.at_ cs), some (.struct _ fs _) => match fs[k]? with
   | some (o, _, _) => some ([], .v (.c (.at_ (cs.drop o))))
   | none => none
  | some (.ref n sz i off), some (.struct _ fs _) => match fs[k]? with
   | some (o, _, _) => some ([], .v (.c (.ref n sz i (off + o))))
   | none => none
  | _, _ => none
 | .field T x k => match aq C s x, gQ C.G T with
  | .v (.g cs), some (.struct _ fs _) => match fs[k]? with
   | some (o, true, n) => if o + n ≤ cs.length then some ([], .v (.g ((cs.drop o).take n))) else none
   | some (o, false, _) => cs[o]?.map fun x => ([], .v (.c x))
   | none => none
  | _, _ => none
 | .indexAddr T x i => match Nk (aq C s i), Ks (aq C s x), gQ C.G T with
  | some n, some (.k (.sl us l)), some (.slice ts _) => if us.len = ts.len then some ([bt n (eE l)], .v (.c (.at_ (us.qZ (bg us.d l n))))) else none
  | some n, some (.own m), some (.slice ts _) => match ad m s.objs with
   | some (.arr us l) => if us.len = ts.len then some ([bt n (eE l)], .v (.c (.ref m us.len (iA n) 0))) else none
   | _ => none
  | some n, some (.cw m sz off len), some (.slice ts _) => if sz = ts.len then some ([bt n len], .v (.c (.ref m sz (vO off (iA n)) 0))) else none
  | some n, some (.ref m sz 0 0), some (.arr len ts) => if sz = ts.len then some ([bt n len], .v (.c (.ref m sz (iA n) 0))) else none
  | some n, some (.Vi us l), some (.arr len ts) => if us.len = ts.len then some ([bt n len, bt n (eE l)], .v (.c (.at_ (us.qZ (bg us.d l n))))) else none
  | _, _, _ => none
 | .index T x i => match Nk (aq C s i), Nl (aq C s x), gQ C.G T with
  | some n, some (.str b), some .str => some ([bt n (eE b)], .kv (.int .u8 (EZ b n)))
  | _, _, _ => none
 | .load T x => match Ks (aq C s x), gQ C.G T with
  | some (.at_ cs), some D => (Ku D.cell (cs.map CV.k)).map fun x => ([], .v x)
  | some (.ref n sz i off), some D => match mD s.objs n sz i off with
   | some (c, cs) => (Ku D.cell cs).map fun x => (c, .v x)
   | none => none
  | _, _ => none
 | .nilCheck x => match Ks (aq C s x) with
  | some (.at_ cs) => some ([], .v (.c (.at_ cs)))
  | some (.ref n sz i off) => some ([], .v (.c (.ref n sz i off)))
  | some (.cW (.fn f)) => some ([], .v (.c (.cW (.fn f))))
  | some (.cm (some f, 0) ns) => some ([], .v (.c (.cm (some f, 0) ns)))
  | some (.cm (none, t) ns) => some ([], .v (.c (.cm (none, t) ns)))
  | _ => none
 | .binOp op T x y _ => match OK C.G T op (aq C s x) (aq C s y) with
  | some r => some (r.1, .kv r.2)
  | none => match OL (gQ C.G T) x y (aq C s x) (aq C s y) with
   | some b => (SY op b).map fun r => ([], .kv r)
   | none => none
 | .unOp op _ x => match Nl (aq C s x) with
  | some k => (M6 op k).map fun r => ([], .kv r)
  | none => none
 | .convert S T x => match aq C s x, gQ C.G S, gQ C.G T with
  | .v (.c (.k (.int _ n))), some _, some (.int k) => some ([], .kv (.int k (ui k n)))
  | .v (.c (.k (.str b))), some _, some .str => some ([], .kv (.str b))
  | x, some (.slice ts _), some .str => if ts.beq fw then (mF s.objs fw x).map fun r => (r.1, .kv (.str (toBytes r.2))) else none
  | _, _, _ => none
 | .slice T x lo hi none => (DV C s T (aq C s x) lo hi).map fun r => (r.1, .v (.c r.2))
 | .slice T x lo (some hi) (some mx) => (vr C s T (aq C s x) lo hi mx).map fun r => (r.1, .v (.c r.2))
 | .extract t i => match aq C s t with
  | .cI l => l[i]?.map fun x => ([], .v x)
  | _ => none
 | .build T parts => match gQ C.G T with
  | some (.struct ts fs _) => (o8 s.objs fs ts.zc (parts.toList.map fun p => (p.1, aq C s p.2))).map fun cs => ([], .v (.g cs))
  | _ => none
 | .call { callee := .builtin .len, args, argTypes } => match args.toList, argTypes.toList with
  | [x], [T] => (DN s.objs (gQ C.G T) (aq C s x)).map fun n => ([], .kv (.int .i64 n))
  | _, _ => none
 | .makeFunc (.func f) first captured => match first.toList with
  | [] => (Ld f (captured.toList.map (aq C s))).map fun x => ([], .v (.c x))
  | _ => none
 | .makeInterface T x => (Le (gQ C.G T) T (aq C s x)).map fun x => ([], .v (.c x))
 | .typeAssert x _ T ok => (M7 (gQ C.G T) T ok (aq C s x)).map fun x => ([], x)
 | .call { callee := .builtin .min, args, argTypes := _ } => (Qc false (args.toList.map (aq C s))).map fun x => ([], .kv x)
 | .call { callee := .builtin .max, args, argTypes := _ } => (Qc true (args.toList.map (aq C s))).map fun x => ([], .kv x)
 | .call { callee := .builtin .cap, args, argTypes } => match args.toList, argTypes.toList with
  | [x], [T] => (match aq C s x with | .v (.c .gE) => if ff (gQ C.G T) then some ([], .kv (.int .i64 0)) else none | _ => none)
  | _, _ => none
 | _ => none
def eG (κ : CV → CV) : VV → VV
 | .c x => .c (κ x)
 | .g l => .g (l.map κ)
def dk (κ : CV → CV) : SV → SV
 | .v x => .v (eG κ x)
 | .cI l => .cI (l.map (eG κ))
def cD (κ : CV → CV) : List (Nat × SV) → List (Nat × SV)
 | [] => []
 | (n, x) :: r => (n, dk κ x) :: cD κ r
def az (κ : CV → CV) : ah → ah
 | [] => []
 | (n, .box cs) :: r => (n, .box (cs.map κ)) :: az κ r
 | (n, .arr ts l) :: r => (n, .arr ts l) :: az κ r
 | (n, .mp kk k l) :: r => (n, .mp kk k l) :: az κ r
def aw (n : Nat) : CV → CV
 | .own m => if m = n then .any else .own m
 | .cw m sz off len => if m = n then .any else .cw m sz off len
 | .ref m sz i off => if m = n then .any else .ref m sz i off
 | .cm f ns => if (ns.map (·.1)).contains n = true then .any else .cm f ns
 | x => x
def jP (n : Nat) (ts : cf) (l : List ts.T) : CV → CV
 | .own m => if m = n then .k (.sl ts l) else .own m
 | .cw m sz off len => if m = n then .raw (if sz = ts.len ∧ off + len ≤ l.length then .sl ts.len (((l.map ts.cF).drop off).take len) else .any) else .cw m sz off len
 | .ref m sz i off => if m = n then .any else .ref m sz i off
 | .cm f ns => if (ns.map (·.1)).contains n = true then .any else .cm f ns
 | x => x
def db (n : Nat) (s : SS) : Option SS :=
 match ad n s.objs with
 | some (.arr ts l) => some ⟨cD (jP n ts l) s.env, az (jP n ts l) (du n s.objs)⟩
 | _ => none
def bw : SV → List CV
 | .v (.g l) => l
 | .v (.c x) => [x]
 | .cI _ => []
def cg : List CV → Option Nat
 | [] => none
 | .own n :: _ => some n
 | .cw n _ _ _ :: _ => some n
 | _ :: r => cg r
def dy (C : eN) : Nat → List Operand → SS → Option SS
 | 0, _, s => some s
 | f + 1, xs, s => match cg (xs.flatMap fun o => bw (aq C s o)) with
  | none => some s
  | some n => match db n s with
   | some r => dy C f xs r
   | none => none
def toKVs : (ts : cf) → List CV → Option ts.T
 | .nil, [] => some ()
 | .cons t ts, x :: xs => match x with
  | .k v => match v.to t, toKVs ts xs with
   | some a, some b => some (a, b)
   | _, _ => none
  | .gE => match t with
   | .sl us => match toKVs ts xs with
    | some b => some (([] : List us.T), b)
    | none => none
   | _ => none
  | _ => none
 | _, _ => none
def toRows (O : ah) (ts : cf) : List SV → Option (List ts.T)
 | [] => some []
 | x :: r => match fk O x with
  | some cs => match toKVs ts cs, toRows O ts r with
   | some a, some b => some (a :: b)
   | _, _ => none
  | none => none
def cR (d : Nat) (s : SS) : Option SS := match ad d s.objs with
 | none => some ⟨cD (aw d) s.env, az (aw d) s.objs⟩
 | some _ => none
def zO (cs : List CV) (off : Nat) (us : List CV) : List CV := cs.take off ++ (us ++ cs.drop (off + us.length))
def ie (C : eN) (xs : List Operand) (s : SS) : Option SS := match dy C 8 xs s with
 | some s => match cg (xs.flatMap fun o => bw (aq C s o)) with
  | none => some s
  | some _ => none
 | none => none
def jF (C : eN) (d : Nat) (xs : List Operand) (s : SS) : Option SS := match ie C xs s with
 | some s => match cR d s with
  | some s => match cg (xs.flatMap fun o => bw (aq C s o)) with
   | none => some s
   | some _ => none
  | none => none
 | none => none
def rP (C : eN) (s : SS) (ts : cf) (T2 : TypeId) (y : SV) : Option (List Bool × List ts.T) := match y with
 | .v (.c (.k (.str b))) => (match gQ C.G T2 with
  | some .str => if h : fw.beq ts = true then some ([], cf.beq_eq _ _ h ▸ ofBytes b) else none
  | _ => none)
 | y => if ff (gQ C.G T2) then mF s.objs ts y else none
def sH (C : eN) (s : SS) (dst : Option Tmp) (o : Op) : Option (List Bool × SV × SS) :=
 match o, dst with
 | .box _ x, some d => if d < top then (match cR d s with
  | some s => match fk s.objs (aq C s x) with
   | some cs => some ([], .v (.c (.ref d cs.length 0 0)), ⟨s.env, (d, .box cs) :: s.objs⟩)
   | none => none
  | none => none) else none
 | .alloc T, some d => if d < top then (match cR d s with
  | some s => match gQ C.G T with
   | some (.arr n ts) => some ([], .v (.c (.ref d ts.len 0 0)), ⟨s.env, (d, .arr ts (zB n ts.d)) :: s.objs⟩)
   | some (.struct ts _ _) => some ([], .v (.c (.ref d ts.len 0 0)), ⟨s.env, (d, .box ts.zc) :: s.objs⟩)
   | some (.int k) => some ([], .v (.c (.ref d 1 0 0)), ⟨s.env, (d, .box [.k (.int k 0)]) :: s.objs⟩)
   | some .bool => some ([], .v (.c (.ref d 1 0 0)), ⟨s.env, (d, .box [.k (.bool false)]) :: s.objs⟩)
   | some .str => some ([], .v (.c (.ref d 1 0 0)), ⟨s.env, (d, .box [.k (.str [])]) :: s.objs⟩)
   | some (.slice _ _) => some ([], .v (.c (.ref d 1 0 0)), ⟨s.env, (d, .box [.gE]) :: s.objs⟩)
   | some (.nl c) => some ([], .v (.c (.ref d 1 0 0)), ⟨s.env, (d, .box [.cW c]) :: s.objs⟩)
   | _ => none
  | none => none) else none
 | .buildSlice T len parts, some d => if d < top then (match jF C d (parts.toList.map (·.2)) s, gQ C.G T with
  | some s, some (.slice ts _) => match toRows s.objs ts ((parts.toList.map (·.2)).map (aq C s)) with
   | some rows => if parts.toList.map (·.1) = List.range len ∧ 0 < ts.len ∧ len * ts.len ≤ 16777216 then some ([], .v (.c (.own d)), ⟨s.env, (d, .arr ts rows) :: s.objs⟩) else none
   | none => none
  | _, _ => none) else none
 | .makeSlice T l c, some d => if d < top then (match cR d s with
  | some s => match gQ C.G T, Nk (aq C s l), Nk (aq C s c) with
   | some (.slice ts by_), some n, some m => some ([vG 0 n, vG n m, vG m (uh cj), vG (N7 (uh by_) m) (uh cj)], .v (.c (.own d)), ⟨s.env, (d, .arr ts (zB (iA n) ts.d)) :: s.objs⟩)
   | _, _, _ => none
  | none => none) else none
 | .convert S T x, some d => if d < top then (match cR d s with
  | some s => match gQ C.G S, Nl (aq C s x) with
   | some .str, some (.str b) => if xw C.G T then some ([IV (eE b) cj], .v (.c (.own d)), ⟨s.env, (d, .arr fw (ofBytes b)) :: s.objs⟩) else none
   | _, _ => none
  | none => none) else none
 | .store T x y, none => match Ks (aq C s x), gQ C.G T with
  | some (.ref n sz i off), some D => match ad n s.objs with
   | some (.box cs) => match i, fk s.objs (aq C s y) with
    | 0, some us => if us.length = D.cell.2 ∧ off + us.length ≤ cs.length then some ([], .gO, ⟨s.env, c8 n (.box (zO cs off us)) s.objs⟩) else none
    | _, _ => none
   | some (.arr _ _) => match ie C [y] s with
    | some s => match ad n s.objs, fk s.objs (aq C s y), Ks (aq C s x) with
     | some (.arr ts l), some us, some (.ref n' sz' i' off') =>
      if sz = ts.len ∧ us.length = D.cell.2 ∧ off + us.length ≤ ts.len ∧ us.all iN = true ∧ n' = n ∧ sz' = sz ∧ off' = off then
       (match toKVs ts (zO ((ts.qZ (IG l i' ts.d)).map CV.k) off us) with
       | some row => some ([IV (vO i' 1) (eE l)], .gO, ⟨s.env, c8 n (.arr ts (Og l i' row)) s.objs⟩)
       | none => none)
      else none
     | _, _, _ => none
    | none => none
   | _ => none
  | _, _ => none
 | .call { callee := .builtin .append, args, argTypes }, some d => if d < top then
   (match args.toList, argTypes.toList with
   | [x, y], [T, T2] => match gQ C.G T with
    | some (.slice ts by_) =>
     match rP C s ts T2 (aq C s y) with
     | some (c, rows) => match aq C s x with
      | .v (.c .gE) => (match cR d s with
       | some s => some (c ++ [IV (eE rows) cj, IV (RC (eE rows) by_) cj], .v (.c (.own d)), ⟨s.env, (d, .arr ts rows) :: s.objs⟩)
       | none => none)
      | .v (.c (.own m)) => (match ad m s.objs with
       | some (.arr us l) => if h : us.beq ts = true then
         (match cR d ⟨cD (aw m) s.env, az (aw m) (du m s.objs)⟩ with
         | some s => some (c ++ [IV (vO (eE l) (eE rows)) cj, IV (RC (vO (eE l) (eE rows)) by_) cj], .v (.c (.own d)), ⟨s.env, (d, .arr ts (rH (cf.beq_eq us ts h ▸ l : List ts.T) rows)) :: s.objs⟩)
         | none => none)
        else none
       | _ => none)
      | _ => none
     | none => none
    | _ => none
   | _, _ => none) else none
 | _, _ => none
def need {α : Type} : List Bool → Option α → Option α
 | [], m => m
 | c :: l, m => br c (need l m) none
inductive CT where
 | ty (t : Ty)
 | ag (ts : cf)
@[reducible] def CT.T : CT → Type
 | .ty t => t.T
 | .ag ts => ts.T
inductive AT where
 | v (c : CT)
 | bx (ts : cf)
@[reducible] def AT.T : AT → Type
 | .v c => c.T
 | .bx ts => ts.T
@[reducible] def eF : List AT → Type
 | [] => Unit
 | a :: l => a.T × eF l
@[reducible] def jc : List CT → Type
 | [] => Unit
 | a :: l => a.T × jc l
inductive RT where
 | v (c : CT)
 | cI (l : List CT)
 | own (ts : cf)
 | box (ts : cf)
 | unit
@[reducible] def RT.T : RT → Type
 | .v c => c.T
 | .cI l => jc l
 | .own ts => List ts.T
 | .box ts => ts.T
 | .unit => Unit
def fp : List AT → List cf
 | [] => []
 | .bx ts :: l => ts :: fp l
 | .v _ :: l => fp l
@[reducible] def kG : List cf → Type
 | [] => Unit
 | ts :: l => ts.T × kG l
structure ee where
 args : List AT
 ret : RT
@[reducible] def ee.R (g : ee) : Type := g.ret.T × kG (fp g.args)
structure Entry where
 sig : ee
 F : eF sig.args → Option sig.R
def toT (O : ah) : (t : Ty) → CV → Option t.T
 | t, .k v => v.to t
 | .sl _, .gE => some []
 | .sl ts, .own n => match ad n O with
  | some (.arr us l) => if h : us.beq ts = true then some (cf.beq_eq us ts h ▸ l) else none
  | _ => none
 | _, _ => none
def toTs (O : ah) : (ts : cf) → List CV → Option ts.T
 | .nil, [] => some ()
 | .cons t ts, x :: xs => match toT O t x, toTs O ts xs with
  | some a, some b => some (a, b)
  | _, _ => none
 | _, _ => none
def toCT (O : ah) : (c : CT) → SV → Option c.T
 | .ty t, .v (.c x) => toT O t x
 | .ag ts, .v (.g l) => toTs O ts l
 | _, _ => none
def toAT (O : ah) : (a : AT) → SV → Option a.T
 | .v c, x => toCT O c x
 | .bx ts, .v (.c (.ref n sz 0 0)) => if sz = ts.len then (match ad n O with
  | some (.box cs) => toKVs ts cs
  | _ => none) else none
 | _, _ => none
def toArgs (O : ah) : (l : List AT) → List SV → Option (eF l)
 | [], [] => some ()
 | a :: l, x :: xs => match toAT O a x, toArgs O l xs with
  | some p, some q => some (p, q)
  | _, _ => none
 | _, _ => none
def CT.sv : (c : CT) → c.T → SV
 | .ty t, x => .v (.c (.k (t.kv x)))
 | .ag ts, x => .v (.g ((ts.qZ x).map CV.k))
def CT.vv : (c : CT) → c.T → VV
 | .ty t, x => .c (.k (t.kv x))
 | .ag ts, x => .g ((ts.qZ x).map CV.k)
def Tl : (l : List CT) → jc l → List VV
 | [], _ => []
 | c :: l, x => c.vv x.1 :: Tl l x.2
def ay : (l : List AT) → List SV → kG (fp l) → ah → ah
 | .bx ts :: l, .v (.c (.ref n _ _ _)) :: xs, x, O => ay l xs x.2 (c8 n (.box ((ts.qZ x.1).map CV.k)) O)
 | .v _ :: l, _ :: xs, x, O => ay l xs x O
 | _, _, _, O => O
def eJ (d : Nat) (s : SS) : (r : RT) → r.T → SV × SS
 | .v c, x => (c.sv x, s)
 | .cI l, x => (.cI (Tl l x), s)
 | .own ts, x => (.v (.c (.own d)), ⟨s.env, (d, .arr ts x) :: s.objs⟩)
 | .box ts, x => (.v (.c (.ref d ts.len 0 0)), ⟨s.env, (d, .box ((ts.qZ x).map CV.k)) :: s.objs⟩)
 | .unit, _ => (.cI [], s)
def P7 : List (Nat × Entry) → Nat → Option Entry
 | [], _ => none
 | (m, x) :: r, n => if m = n then some x else P7 r n
def S4 : Ty → Bool
 | .sl _ => false
 | _ => true
def KS : cf → Bool
 | .nil => true
 | .cons t ts => S4 t && KS ts
def S3 : CT → Bool
 | .ty t => S4 t
 | .ag ts => KS ts
def CK : RT → Bool
 | .v c => S3 c
 | .cI l => l.all S3
 | _ => false
def bp : List AT → List SV → List Nat
 | .bx _ :: l, .v (.c (.ref n _ _ _)) :: xs => n :: bp l xs
 | .v _ :: l, _ :: xs => bp l xs
 | _, _ => []
def fJ : List Nat → Bool
 | [] => true
 | n :: l => !(l.contains n) && (decide (n < top) && (!(n == 999999) && fJ l))
def iw {R : Type} (C : eN) (FT : List (Nat × Entry)) (q : Bool) (s : SS) (dst : Option Tmp) (f : FuncId) (xs : List Operand) (K : SS → Option R) : Option R :=
 match P7 FT f with
 | none => none
 | some e =>
  match (match (fp e.sig.args).isEmpty && CK e.sig.ret, q with
   | true, true => some s
   | true, false => cR (dst.getD 999998) s
   | false, false => jF C (dst.getD 999998) xs s
   | false, true => none) with
  | none => none
  | some s => match toArgs s.objs e.sig.args (xs.map (aq C s)) with
   | none => none
   | some a => if dst.getD 999998 < top ∧ e.sig.args.length ≤ 1000 ∧ fJ (bp e.sig.args (xs.map (aq C s))) = true then
    gR (e.F a) fun r =>
     K ((eJ (dst.getD 999998) ⟨s.env, ay e.sig.args (xs.map (aq C s)) r.2 s.objs⟩ e.sig.ret r.1).2.put dst
      (eJ (dst.getD 999998) ⟨s.env, ay e.sig.args (xs.map (aq C s)) r.2 s.objs⟩ e.sig.ret r.1).1)
    else none
def gL : List (Int × Int) → Int → Int
 | [], _ => 0
 | (a, b) :: l, n => if a == n then b else gL l n
def nz : List (Int × Int) → Int → Int → List (Int × Int)
 | [], n, v => [(n, v)]
 | (a, b) :: l, n, v => if a == n then (n, v) :: l else (a, b) :: nz l n v
def Nu (l : List (Int × Int)) (n : Int) : Int := gL l n
def Nv (l : List (Int × Int)) (n v : Int) : List (Int × Int) := nz l n v
def HW : SV → Option (IntKind × Int)
 | .v (.c (.k (.int k n))) => some (k, n)
 | _ => none
def SQ : SV → Option Nat
 | .v (.c (.cm (some _, 1) [(n, _)])) => some n
 | _ => none
def VL (C : eN) (s : SS) (dst : Option Tmp) (o : Op) : Option (SV × SS) := match o, dst with
 | .makeMap T none, some d => if d < top then (match cR d s, gQ C.G T with
  | some s, some (.map kk k) => some (.v (.c (.cm (some 0, 1) [(d, 0)])), ⟨s.env, (d, .mp kk k []) :: s.objs⟩)
  | _, _ => none) else none
 | .lookup T m i false, _ => match SQ (aq C s m), HW (aq C s i), gQ C.G T with
  | some n, some (k1, i), some (.map kk k) => match ad n s.objs with
   | some (.mp kk' k' l) => if k1 = kk ∧ kk' = kk ∧ k' = k then some (.kv (.int k (Nu l i)), s) else none
   | _ => none
  | _, _, _ => none
 | .mapUpdate T m i x, none => match SQ (aq C s m), HW (aq C s i), HW (aq C s x), gQ C.G T with
  | some n, some (k1, i), some (k2, v), some (.map kk k) => match ad n s.objs with
   | some (.mp kk' k' l) => if k1 = kk ∧ k2 = k ∧ kk' = kk ∧ k' = k then some (.gO, ⟨s.env, c8 n (.mp kk k (Nv l i v)) s.objs⟩) else none
   | _ => none
  | _, _, _, _ => none
 | _, _ => none
def ey (n sz k : Nat) : CV → CV
 | .own m => if m = n then .cw n sz 0 k else .own m
 | x => x
def setCell (b i : Nat) (x : CV) (s : SS) : SS := match ad b s.objs with
 | some (.box cs) => ⟨s.env, c8 b (.box (cs.set i x)) s.objs⟩
 | _ => s
def p6 {R : Type} (s : SS) (x : CV) (put : Nat → SS → SS) (K : SS → Option R) : Option R := match x with
 | .cw n sz off k => match ad n s.objs with
  | some (.arr ts l) => if sz = ts.len then need [Tb off 0, IV k (eE l)] (K (put n ⟨cD (ey n ts.len (eE l)) s.env, c8 n (.arr ts (lA l 0 k)) (az (ey n ts.len (eE l)) s.objs)⟩)) else K s
  | _ => K s
 | _ => K s
def iF {R : Type} (N : Nat) : List (Nat × Nat) → SS → (SS → Option R) → Option R
 | [], s, K => K s
 | (b, i) :: r, s, K => match Nat.ble top b with
  | true => match s.get N i with
   | .v (.c x) => p6 s x (fun n s => s.put (some i) (.v (.c (.own n)))) fun s => iF N r s K
   | _ => iF N r s K
  | false => match ad b s.objs with
   | some (.box cs) => p6 s (cs.getD i .any) (fun n s => setCell b i (.own n) s) fun s => iF N r s K
   | _ => iF N r s K
def iP {R : Type} (C : eN) (FT : List (Nat × Entry)) (q : Bool) (s : SS) (dst : Option Tmp) (o : Op) (K : SS → Option R) : Option R :=
 match o with
 | .call { callee := .value (.func f), args, argTypes := _ } => iw C FT q s dst f args.toList K
 | .pick c a b => match Nl (aq C s c) with
  | some (.bool t) => br t (K (s.put dst (aq C s a))) (K (s.put dst (aq C s b)))
  | _ => none
 | o => match sR C s o with
  | some (c, x) => need c (K (s.put dst x))
  | none => if q then none else match sH C s dst o with
   | some (c, x, s') => need c (K (s'.put dst x))
   | none => none
def BY : Op → Option Nat
 | .call { callee := .builtin .append, args, argTypes := _ } => match args.toList with
  | .tmp t :: _ => some t
  | _ => none
 | _ => none
def lS {R : Type} (C : eN) (FT : List (Nat × Entry)) (q : Bool) (s : SS) (dst : Option Tmp) (o : Op) (K : SS → Option R) : Option R :=
 match q with
 | true => iP C FT true s dst o K
 | false => match BY o with
  | some t => iF C.N [(top, t)] s fun s => iP C FT false s dst o K
  | none => iP C FT false s dst o K
def qQ : List Oper → Nat → Option Tmp
 | [], _ => none
 | o :: _, 0 => o.dst
 | _ :: l, n + 1 => qQ l n
def AB {R : Type} (C : eN) (FT : List (Nat × Entry)) (q : Bool) (ops : List Oper) : List Oper → SS → (SS → Option R) → Option R
 | [], s, K => K s
 | o :: l, s, K => match o.guard with
  | none => lS C FT q s o.dst o.op fun s => AB C FT q ops l s K
  | some (j, want) => match qQ ops j with
   | none => none
   | some t => match s.get C.N t with
    | .v (.c (.k (.bool b))) =>
     br b (match want with
      | true => lS C FT q ⟨(t, .bool true) :: s.env, s.objs⟩ o.dst o.op fun s => AB C FT q ops l s K
      | false => AB C FT q ops l (SS.put ⟨(t, .bool true) :: s.env, s.objs⟩ o.dst .gO) K)
      (match want with
      | false => lS C FT q ⟨(t, .bool false) :: s.env, s.objs⟩ o.dst o.op fun s => AB C FT q ops l s K
      | true => AB C FT q ops l (SS.put ⟨(t, .bool false) :: s.env, s.objs⟩ o.dst .gO) K)
    | .v (.c .gO) => AB C FT q ops l (s.put o.dst .gO) K
    | _ => none
end Go.Abs
namespace Go.Abs
open Go.RowKit
inductive cp where
 | d (c : CT)
 | own (n : Nat)
 | ref (n sz : Nat)
 | cW (c : KC)
 | cm (f : Option FuncId × TypeId) (ns : List (Nat × Nat))
 | cw (n sz : Nat)
inductive PC where
 | d (t : Ty)
 | own (n : Nat)
 | cW (c : KC)
 | ref (n sz : Nat)
 | cm (f : Option FuncId × TypeId) (ns : List (Nat × Nat))
inductive eO where
 | mp (kk k : IntKind)
 | arr (ts : cf)
 | box (cs : List PC)
structure Plan where
 slots : List (Nat × cp)
 objs : List (Nat × eO)
 wR : List (Nat × Nat) := []
def ij : List PC → cf
 | [] => .nil
 | .d t :: l => .cons t (ij l)
 | .own _ :: l => ij l
 | .cW _ :: l => ij l
 | .ref _ _ :: l => ij l
 | .cm _ _ :: l => ij l
@[reducible] def eO.T : eO → Type
 | .mp _ _ => List (Int × Int)
 | .arr ts => List ts.T
 | .box cs => (ij cs).T
@[reducible] def mz : List (Nat × eO) → Type
 | [] => Unit
 | (_, o) :: l => o.T × mz l
@[reducible] def hP (R : Type) : List (Nat × cp) → Type
 | [] => R
 | (_, .d c) :: l => c.T × hP R l
 | (_, .own _) :: l => hP R l
 | (_, .ref _ _) :: l => hP R l
 | (_, .cW _) :: l => hP R l
 | (_, .cm _ _) :: l => hP R l
 | (_, .cw _ _) :: l => (Nat × Nat) × hP R l
@[reducible] def Plan.T (p : Plan) : Type := hP (mz p.objs) p.slots
def ju {R : Type} : (l : List (Nat × cp)) → hP R l → List (Nat × SV)
 | [], _ => []
 | (n, .d c) :: l, x => (n, c.sv x.1) :: ju l x.2
 | (n, .own m) :: l, x => (n, .v (.c (.own m))) :: ju l x
 | (n, .ref m sz) :: l, x => (n, .v (.c (.ref m sz 0 0))) :: ju l x
 | (n, .cW c) :: l, x => (n, .v (.c (.cW c))) :: ju l x
 | (n, .cm f ns) :: l, x => (n, .v (.c (.cm f ns))) :: ju l x
 | (n, .cw m sz) :: l, x => (n, .v (.c (.cw m sz x.1.1 x.1.2))) :: ju l x.2
def kL {R : Type} : (l : List (Nat × cp)) → hP R l → R
 | [], x => x
 | (_, .d _) :: l, x => kL l x.2
 | (_, .own _) :: l, x => kL l x
 | (_, .ref _ _) :: l, x => kL l x
 | (_, .cW _) :: l, x => kL l x
 | (_, .cm _ _) :: l, x => kL l x
 | (_, .cw _ _) :: l, x => kL l x.2
def iH : (l : List PC) → (ij l).T → List CV
 | [], _ => []
 | .d t :: l, x => .k (t.kv x.1) :: iH l x.2
 | .own n :: l, x => .own n :: iH l x
 | .cW c :: l, x => .cW c :: iH l x
 | .ref n sz :: l, x => .ref n sz 0 0 :: iH l x
 | .cm f ns :: l, x => .cm f ns :: iH l x
def fT : (l : List (Nat × eO)) → mz l → ah
 | [], _ => []
 | (n, .mp kk k) :: l, x => (n, .mp kk k x.1) :: fT l x.2
 | (n, .arr ts) :: l, x => (n, .arr ts x.1) :: fT l x.2
 | (n, .box cs) :: l, x => (n, .box (iH cs x.1)) :: fT l x.2
def Plan.enc (p : Plan) (x : p.T) : SS := ⟨ju p.slots x, fT p.objs (kL p.slots x)⟩
abbrev eZ := List (Nat × Option Nat)
def jt : eZ → Nat → Option (Option Nat)
 | [], _ => none
 | (m, x) :: r, n => if m = n then some x else jt r n
def vF (μ : eZ) (n : Nat) (x : Option Nat) : Option eZ := match jt μ n with
 | none => some ((n, x) :: μ)
 | some y => match x, y with
  | some a, some b => if a = b then some μ else none
  | none, none => some μ
  | _, _ => none
def yW : List (Nat × Nat) → List (Nat × Nat) → eZ → Option eZ
 | [], [], μ => some μ
 | (n, sz) :: l, (k, sz') :: r, μ => if sz = sz' then (match vF μ n (some k) with | some μ => yW l r μ | none => none) else none
 | _, _, _ => none
def dg (N : Nat) (s : SS) : List (Nat × cp) → eZ → Option eZ
 | [], μ => some μ
 | (_, .d _) :: l, μ => dg N s l μ
 | (n, .own m) :: l, μ => match s.get N n with
  | .v (.c (.own k)) => match vF μ m (some k) with | some μ => dg N s l μ | none => none
  | .v (.c .gE) => match vF μ m none with | some μ => dg N s l μ | none => none
  | _ => none
 | (n, .ref m sz) :: l, μ => match s.get N n with
  | .v (.c (.ref k sz' 0 0)) => if sz = sz' then (match vF μ m (some k) with | some μ => dg N s l μ | none => none) else none
  | _ => none
 | (n, .cW c) :: l, μ => match s.get N n with
  | .v (.c (.cW c')) => if c = c' then dg N s l μ else none
  | _ => none
 | (n, .cm f ns) :: l, μ => match s.get N n with
  | .v (.c (.cm f' ms)) => if f = f' then (match yW ns ms μ with | some μ => dg N s l μ | none => none) else none
  | _ => none
 | (n, .cw m sz) :: l, μ => match s.get N n with
  | .v (.c (.cw k sz' _ _)) => if sz = sz' then (match vF μ m (some k) with | some μ => dg N s l μ | none => none) else none
  | _ => none
def cz : List PC → List CV → eZ → Option eZ
 | [], [], μ => some μ
 | .d _ :: l, _ :: xs, μ => cz l xs μ
 | .own m :: l, .own k :: xs, μ => match vF μ m (some k) with | some μ => cz l xs μ | none => none
 | .own m :: l, .gE :: xs, μ => match vF μ m none with | some μ => cz l xs μ | none => none
 | .cW c :: l, .cW c' :: xs, μ => if c = c' then cz l xs μ else none
 | .ref m sz :: l, .ref k sz' 0 0 :: xs, μ => if sz = sz' then (match vF μ m (some k) with | some μ => cz l xs μ | none => none) else none
 | .cm f ns :: l, .cm f' ms :: xs, μ => if f = f' then (match yW ns ms μ with | some μ => cz l xs μ | none => none) else none
 | _, _, _ => none
def lD (O : ah) : List (Nat × eO) → eZ → Option eZ
 | [], μ => some μ
 | (_, .mp _ _) :: l, μ => lD O l μ
 | (_, .arr _) :: l, μ => lD O l μ
 | (n, .box cs) :: l, μ => match jt μ n with
  | some (some k) => match ad k O with
   | some (.box xs) => match cz cs xs μ with | some μ => lD O l μ | none => none
   | _ => none
  | _ => none
def xK : List Nat → eZ
 | [] => []
 | p :: l => (p, some p) :: xK l
def Nw : SV → Option (Nat × Nat)
 | .v (.c (.cw _ _ off len)) => some (off, len)
 | _ => none
def xJ : List CV → List Nat
 | [] => []
 | .own k :: l => k :: xJ l
 | _ :: l => xJ l
def vJ {R : Type} (N : Nat) (s : SS) (z : Option R) : (l : List (Nat × cp)) → Option (hP R l)
 | [] => z
 | (n, .d c) :: l => match toCT s.objs c (s.get N n), vJ N s z l with
  | some a, some b => some (a, b)
  | _, _ => none
 | (_, .own _) :: l => vJ N s z l
 | (_, .ref _ _) :: l => vJ N s z l
 | (_, .cW _) :: l => vJ N s z l
 | (_, .cm _ _) :: l => vJ N s z l
 | (n, .cw _ _) :: l => match Nw (s.get N n), vJ N s z l with
  | some a, some b => some (a, b)
  | _, _ => none
def ny (O : ah) : (l : List PC) → List CV → Option (ij l).T
 | [], [] => some ()
 | .d t :: l, x :: xs => match toT O t x, ny O l xs with
  | some a, some b => some (a, b)
  | _, _ => none
 | .own _ :: l, _ :: xs => ny O l xs
 | .cW _ :: l, _ :: xs => ny O l xs
 | .ref _ _ :: l, _ :: xs => ny O l xs
 | .cm _ _ :: l, _ :: xs => ny O l xs
 | _, _ => none
def zg (μ : eZ) (O : ah) : (l : List (Nat × eO)) → Option (mz l)
 | [] => some ()
 | (n, .mp kk k) :: l => match jt μ n, zg μ O l with
  | some (some m), some b => match ad m O with
   | some (.mp kk' k' x) => if kk' = kk ∧ k' = k then some (x, b) else none
   | _ => none
  | _, _ => none
 | (n, .arr ts) :: l => match jt μ n, zg μ O l with
  | some (some k), some b => match ad k O with
   | some (.arr us x) => if h : us.beq ts = true then some ((cf.beq_eq us ts h ▸ x : List ts.T), b) else none
   | _ => none
  | some none, some b => some (([] : List ts.T), b)
  | _, _ => none
 | (n, .box cs) :: l => match jt μ n, zg μ O l with
  | some (some k), some b => match ad k O with
   | some (.box xs) => match ny O cs xs with
    | some a => some (a, b)
    | none => none
   | _ => none
  | _, _ => none
def fF (N : Nat) (s : SS) : List (Nat × cp) → List Nat
 | [] => []
 | (n, .d _) :: l => match s.get N n with
  | .v (.c (.own k)) => k :: fF N s l
  | .v (.g xs) => xJ xs ++ fF N s l
  | _ => fF N s l
 | _ :: l => fF N s l
def fq : List PC → List CV → List Nat
 | .d _ :: l, .own k :: xs => k :: fq l xs
 | _ :: l, _ :: xs => fq l xs
 | _, _ => []
def iI (μ : eZ) (O : ah) : List (Nat × eO) → List Nat
 | [] => []
 | (_, .mp _ _) :: l => iI μ O l
 | (_, .arr _) :: l => iI μ O l
 | (n, .box cs) :: l => match jt μ n with
  | some (some k) => match ad k O with
   | some (.box xs) => fq cs xs ++ iI μ O l
   | _ => iI μ O l
  | _ => iI μ O l
def kJ : eZ → List Nat
 | [] => []
 | (_, some k) :: l => k :: kJ l
 | (_, none) :: l => kJ l
def nodupB : List Nat → Bool
 | [] => true
 | x :: l => !(l.contains x) && nodupB l
def BX (a b : List Nat) : Bool := a.all fun x => !(b.contains x)
def jf (n : Nat) : List (Nat × eO) → Bool
 | [] => false
 | (m, .box _) :: l => if m = n then true else jf n l
 | (m, .mp _ _) :: l => if m = n then false else jf n l
 | (m, .arr _) :: l => if m = n then false else jf n l
def fA (n : Nat) : List (Nat × eO) → Bool
 | [] => false
 | (m, _) :: l => if m = n then true else fA n l
def fY (os : List (Nat × eO)) : List (Nat × cp) → Bool
 | [] => true
 | (_, .ref m _) :: l => fA m os && fY os l
 | (_, .own m) :: l => fA m os && fY os l
 | (_, .cm _ ns) :: l => (ns.all fun p => fA p.1 os) && fY os l
 | (_, .cw m _) :: l => fA m os && fY os l
 | _ :: l => fY os l
def ia (os : List (Nat × eO)) : List PC → Bool
 | [] => true
 | .ref m _ :: l => fA m os && ia os l
 | .cm _ ns :: l => (ns.all fun p => fA p.1 os) && ia os l
 | _ :: l => ia os l
def uJ (os : List (Nat × eO)) : List (Nat × eO) → Bool
 | [] => true
 | (_, .box cs) :: l => ia os cs && uJ os l
 | _ :: l => uJ os l
def Plan.YI (pins : List Nat) (p : Plan) : Bool := (p.objs.all fun x => decide (x.1 < top)) && (fY p.objs p.slots && (uJ p.objs p.objs && pins.all fun n => jf n p.objs))
def Plan.dec (N : Nat) (pins : List Nat) (p : Plan) (s : SS) : Option p.T :=
 match dg N s p.slots (xK pins) with
 | none => none
 | some μ => match lD s.objs p.objs μ with
  | none => none
  | some μ => if p.YI pins = true ∧ nodupB (kJ μ) = true ∧ BX (fF N s p.slots ++ iI μ s.objs p.objs) (kJ μ) = true then
    vJ N s (zg μ s.objs p.objs) p.slots
   else none
def de (d : Nat) : CV → Bool
 | .own m => !(m == d)
 | .cw m _ _ _ => !(m == d)
 | .ref m _ _ _ => !(m == d)
 | .cm _ ns => ns.all fun p => !(p.1 == d)
 | _ => true
def jM (d : Nat) : VV → Bool
 | .c x => de d x
 | .g l => l.all (de d)
def eP (d : Nat) : SV → Bool
 | .v x => jM d x
 | .cI l => l.all (jM d)
def Ee (d : Nat) : List (Nat × SV) → Bool
 | [] => true
 | (_, x) :: r => eP d x && Ee d r
def qI (d : Nat) : ah → Bool
 | [] => true
 | (_, .box cs) :: r => cs.all (de d) && qI d r
 | (_, .arr _ _) :: r => qI d r
 | (_, .mp _ _ _) :: r => qI d r
def CE (d : Nat) (s : SS) : Bool := (ad d s.objs).isNone && (Ee d s.env && qI d s.objs)
inductive RM where
 | x
 | q
 | qt (n : Nat)
 | da (n : Nat)
 | w (n : Nat) (ord : List (Nat × Nat))
inductive HT where
 | e
 | r (m : RM)
 | ri (m : RM) (l : List (Nat × Nat × HT))
 | n (a b : HT)
 | j (p : Plan) (a b : HT)
 | u (a : HT)
 | l (p : Plan) (a : HT)
abbrev Hint := List (Nat × Nat × HT)
def YG : Hint → Nat → Option (Nat × HT)
 | [], _ => none
 | (k, r) :: l, n => if k = n then some r else YG l n
abbrev JT (R : Type) := eN → FuncId → List SV → Nat → HT → SS → (SV → SS → Option R) → Option R
def KI : List (Nat × Nat) → List SV
 | [] => []
 | (n, sz) :: l => .v (.c (.ref n sz 0 0)) :: KI l
def mC (C : eN) (s : SS) (c : Call) : Option (FuncId × List SV) := match c.callee with
 | .value x => match aq C s x with
  | .v (.c (.cW (.fn f))) => some (f, c.args.toList.map (aq C s))
  | .v (.c (.cm (some f, 0) ns)) => some (f, c.args.toList.map (aq C s) ++ KI ns)
  | _ => none
 | .invoke x name => match aq C s x with
  | .v (.c (.cm (none, t) [(n, sz)])) => match VB C.M t name with
   | some (f, none) => some (f, .v (.c (.ref n sz 0 0)) :: c.args.toList.map (aq C s))
   | some (f, some D) => match mD s.objs n sz 0 0 with
    | some ([], cs) => match Ku D cs with
     | some v => some (f, .v v :: c.args.toList.map (aq C s))
     | none => none
    | _ => none
   | none => none
  | _ => none
 | .builtin _ => none
def Hj {R : Type} (J : JT R) (L : Hint) (C : eN) (FT : List (Nat × Entry)) (s : SS) (dst : Option Tmp) (o : Op) (K : SS → Option R) : Option R :=
 match o with
 | .call c => match YG L (dst.getD 999998) with
  | some (gap, ht) => match mC C s c with
   | some (f, xs) => J C f xs gap ht s fun x s' => K (s'.put dst x)
   | none => none
  | none => lS C FT false s dst (.call c) K
 | o => match VL C s dst o with
  | some (x, s') => K (s'.put dst x)
  | none => lS C FT false s dst o K
def mE {R : Type} (J : JT R) (L : Hint) (C : eN) (FT : List (Nat × Entry)) (ops : List Oper) : List Oper → SS → (SS → Option R) → Option R
 | [], s, K => K s
 | o :: l, s, K => match o.guard with
  | none => Hj J L C FT s o.dst o.op fun s => mE J L C FT ops l s K
  | some (j, want) => match qQ ops j with
   | none => none
   | some t => match s.get C.N t with
    | .v (.c (.k (.bool b))) =>
     br b (match want with
      | true => Hj J L C FT ⟨(t, .bool true) :: s.env, s.objs⟩ o.dst o.op fun s => mE J L C FT ops l s K
      | false => mE J L C FT ops l (SS.put ⟨(t, .bool true) :: s.env, s.objs⟩ o.dst .gO) K)
      (match want with
      | false => Hj J L C FT ⟨(t, .bool false) :: s.env, s.objs⟩ o.dst o.op fun s => mE J L C FT ops l s K
      | true => mE J L C FT ops l (SS.put ⟨(t, .bool false) :: s.env, s.objs⟩ o.dst .gO) K)
    | .v (.c .gO) => mE J L C FT ops l (s.put o.dst .gO) K
    | _ => none
def gB : Op → Bool
 | .alloc _ => true
 | .box _ _ => true
 | .buildSlice _ _ _ => true
 | .makeSlice _ _ _ => true
 | _ => false
def GQ : Op → Bool
 | .buildSlice _ _ _ => true
 | _ => false
def qz : CV → Bool
 | .own _ => false
 | .cw _ _ _ _ => false
 | .ref _ _ _ _ => false
 | .cm _ _ => false
 | _ => true
def zL : VV → Bool
 | .c x => qz x
 | .g l => l.all qz
def gu : SV → Bool
 | .v x => zL x
 | .cI l => l.all zL
def cY (ops : Array Oper) (j : Nat) : Option Tmp := (ops[j]?).bind (·.dst)
def Xs (C : eN) (ops : Array Oper) (l : List (Nat × Nat)) (s : SS) (i : Nat) : Bool := match ops[i]? with
 | none => false
 | some o => match o.dst with
  | none => false
  | some d => CE d s && o.op.operands.toList.all fun x => match x with
   | .tmp t => (l.any fun p => cY ops p.2 == some t) || gu (s.get C.N t)
   | _ => true
def QJ (C : eN) (ops : Array Oper) (l : List (Nat × Nat)) (s : SS) : Bool := l.all fun p => !(Nat.ble 4 p.1) || Xs C ops l s p.2
def reach (ops : Array Oper) : Nat → Nat → Nat → Bool
 | 0, _, _ => false
 | d + 1, i, j => match ops[i]? with
  | some o => o.after.toList.any fun e => Region.binds .any e && (e.on == j || reach ops d e.on j)
  | none => false
def Dj : CV → List Nat
 | .own n => [n]
 | .cw n _ _ _ => [n]
 | .ref n _ _ _ => [n]
 | .cm _ ns => ns.map (·.1)
 | _ => []
def Oy : VV → List Nat
 | .c x => Dj x
 | .g l => l.flatMap Dj
def G3 : SV → List Nat
 | .v x => Oy x
 | .cI l => l.flatMap Oy
def vR (C : eN) (s : SS) (o : Oper) : List Nat := o.dst.getD 999998 :: o.op.operands.toList.flatMap fun y => G3 (aq C s y)
def wQ (C : eN) (s : SS) (o : Oper) : List Nat := match o.dst, o.op with
 | none, .store _ _ y => match gu (aq C s y) with
  | true => [999998]
  | false => vR C s o
 | d, .call { callee := .value (.func _), args, argTypes := _ } => match (cg (args.toList.flatMap fun y => bw (aq C s y))).isNone with
  | true => [d.getD 999998]
  | false => vR C s o
 | d, .call { callee := .builtin .append, args, argTypes := _ } => match args.toList with
  | [x, _] => d.getD 999998 :: G3 (aq C s x)
  | _ => vR C s o
 | _, _ => vR C s o
def Nb (C : eN) (s : SS) (o : Oper) (op : Op) : List Nat := match op with
 | .move _ => wQ C s o
 | _ => vR C s o
def V1 (C : eN) (ops : Array Oper) (s : SS) (T : Op → List Nat) (i : Nat) : Bool := match ops[i]? with
 | none => false
 | some o => match o.dst with
  | none => false
  | some t => (T o.op).all fun m => eP m (cr s.env t) && o.op.operands.toList.all fun y => eP m (aq C s y)
def AD {R : Type} (C : eN) (FT : List (Nat × Entry)) (ops : Array Oper) : List Nat → List (Nat × Nat) → SS → (SS → Option R) → Option R
 | _, [], s, K => K s
 | dn, (k, i) :: l, s, K => match QJ C ops ((k, i) :: l) s with
  | false => none
  | true => match ops[i]? with
  | none => none
  | some o => match Nat.ble 2 k with
   | false => match sR C s o.op with
    | some (c, x) => need c (AD C FT ops (i :: dn) l (s.put o.dst x) K)
    | none => none
   | true => match Nat.ble 4 k with
    | false => match dn.all fun j => reach ops 3 i j || V1 C ops s (Nb C s o) j with
     | true => lS C FT false s o.dst o.op fun s => AD C FT ops dn l s K
     | false => none
    | true => match k with
     | 5 => match GQ o.op with
      | true => lS C FT false s o.dst o.op fun s => match db (o.dst.getD 999998) s with
       | some s => AD C FT ops dn l s K
       | none => none
      | false => none
     | _ => match gB o.op with
      | true => lS C FT false s o.dst o.op fun s => AD C FT ops dn l s K
      | false => none
def Iv : HT → Option (RM × Hint)
 | .r m => some (m, [])
 | .ri m L => some (m, L)
 | _ => none
def iter {σ R : Type} : Nat → ((σ → Option R) → σ → Option R) → σ → Option R
 | 0, _, _ => none
 | n + 1, F, z => F (iter n F) z
def aa {σ R : Type} (k : σ → Option R) (f : (σ → Option R) → Option R) : Option R := f k
def exec {R : Type} (C : eN) (FT : List (Nat × Entry)) (pins : List Nat) (J : JT R) : Code → HT → SS → (Exit → SS → Option R) → Option R
 | .skip, _, s, k => k .normal s
 | .exit id, _, s, k => k (.exit id) s
 | .ret, _, s, k => k .ret s
 | .region _ ops draw, h, s, k => match Iv h with
  | some (m, L) => match draw, m with
   | false, .x => mE J L C FT ops.toList ops.toList s (k .normal)
   | true, .q => AB C FT true ops.toList ops.toList s (k .normal)
   | true, .qt n => AB C FT true ops.toList (ops.toList.take n) s fun s => mE J L C FT ops.toList (ops.toList.drop n) s (k .normal)
   | true, .da n => AB C FT true ops.toList (ops.toList.take n) s fun s => match ops.toList.drop n with
    | o :: tl => AB C FT false ops.toList [o] (s.put o.dst .gO) fun s => mE J L C FT ops.toList tl s (k .normal)
    | [] => none
   | true, .w n ord => AD C FT ops [] ord s fun s => mE J L C FT ops.toList (ops.toList.drop n) s (k .normal)
   | _, _ => none
  | none => none
 | .seq x y, .n a b, s, k => exec C FT pins J x a s fun e s' => match e with
  | .normal => exec C FT pins J y b s' k
  | e => k e s'
 | .seq x y, .j p a b, s, k => aa (fun z => exec C FT pins J y b (p.enc z) k) fun j => exec C FT pins J x a s fun e s' => match e with
  | .normal => iF C.N p.wR s' fun s' => match p.dec C.N pins s' with
   | some z => j z
   | none => none
  | e => k e s'
 | .cond c x y, .n a b, s, k => match Nl (aq C s c) with
  | some (.bool t) => br t (exec C FT pins J x a s k) (exec C FT pins J y b s k)
  | _ => none
 | .block id x, .u a, s, k => exec C FT pins J x a s fun e s' => match e with
  | .exit i => if i = id then k .normal s' else k (.exit i) s'
  | e => k e s'
 | .loop x, .l p a, s, k => iF C.N p.wR s fun s => match p.dec C.N pins s with
  | some z => iter C.fuel (fun rec z => exec C FT pins J x a (p.enc z) fun e s' => match e with
   | .normal => iF C.N p.wR s' fun s' => match p.dec C.N pins s' with
    | some z' => rec z'
    | none => none
   | e => k e s') z
  | none => none
 | _, _, _, _ => none
def iB : List AT → Nat → List Nat
 | [], _ => []
 | .bx _ :: l, i => (900000 + i) :: iB l (i + 1)
 | .v _ :: l, i => iB l (i + 1)
def l7 : (l : List AT) → Nat → eF l → List (Nat × SV)
 | [], _, _ => []
 | .v c :: l, i, x => (i, c.sv x.1) :: l7 l (i + 1) x.2
 | .bx ts :: l, i, x => (i, .v (.c (.ref (900000 + i) ts.len 0 0))) :: l7 l (i + 1) x.2
def qh : (l : List AT) → Nat → eF l → ah
 | [], _, _ => []
 | .v _ :: l, i, x => qh l (i + 1) x.2
 | .bx ts :: l, i, x => (900000 + i, .box ((ts.qZ x.1).map CV.k)) :: qh l (i + 1) x.2
def EX (C : eN) (s : SS) : ResultVar → Option SV
 | .tmp t => some (s.get C.N t)
 | .cell b T => match Ks (s.get C.N b), gQ C.G T with
  | some (.ref n sz i off), some D => match mD s.objs n sz i off with
   | some ([], cs) => (Ku D.cell cs).map SV.v
   | _ => none
  | _, _ => none
def zW (C : eN) (s : SS) : List ResultVar → Nat → Option (List (Nat × SV))
 | [], _ => some []
 | r :: l, i => match EX C s r, zW C s l (i + 1) with
  | some x, some xs => some ((i, x) :: xs)
  | _, _ => none
def nL : cf → List PC
 | .nil => []
 | .cons t ts => .d t :: nL ts
def gS : List AT → Nat → List (Nat × eO)
 | [], _ => []
 | .bx ts :: l, i => (900000 + i, .box (nL ts)) :: gS l (i + 1)
 | .v _ :: l, i => gS l (i + 1)
def vS : List CT → Nat → List (Nat × cp)
 | [], _ => []
 | c :: l, i => (i, .d c) :: vS l (i + 1)
def cd (g : ee) (N : Nat) : Plan := match g.ret with
 | .v c => ⟨[(N, .d c)], gS g.args 0, []⟩
 | .cI l => ⟨vS l N, gS g.args 0, []⟩
 | .own ts => ⟨[(N, .own rn)], (rn, .arr ts) :: gS g.args 0, []⟩
 | .box ts => ⟨[(N, .ref rn ts.len)], (rn, .box (nL ts)) :: gS g.args 0, []⟩
 | .unit => ⟨[], gS g.args 0, []⟩
def nv : (ts : cf) → (ij (nL ts)).T → ts.T
 | .nil, _ => ()
 | .cons _ ts, x => (x.1, nv ts x.2)
def eS : (l : List AT) → (i : Nat) → mz (gS l i) → kG (fp l)
 | [], _, _ => ()
 | .v _ :: l, i, x => eS l (i + 1) x
 | .bx ts :: l, i, x => (nv ts x.1, eS l (i + 1) x.2)
def jK {R : Type} : (l : List CT) → (i : Nat) → hP R (vS l i) → jc l × R
 | [], _, x => ((), x)
 | _ :: l, i, x => ((x.1, (jK l (i + 1) x.2).1), (jK l (i + 1) x.2).2)
def fK (N : Nat) : (g : ee) → (cd g N).T → g.R
 | ⟨args, .v _⟩, x => (x.1, eS args 0 x.2)
 | ⟨args, .cI l⟩, x => ((jK l N x).1, eS args 0 (jK l N x).2)
 | ⟨args, .own _⟩, x => (x.1, eS args 0 x.2)
 | ⟨args, .box ts⟩, x => (nv ts x.1, eS args 0 x.2)
 | ⟨args, .unit⟩, x => ((), eS args 0 x)
def GH (C : eN) (g : ee) (rv : List ResultVar) (e : Exit) (s : SS) : Option g.R :=
 match e with
 | .normal | .ret => match zW C s rv C.N with
  | some xs => match (cd g C.N).dec (C.N + rv.length) (iB g.args 0) ⟨xs ++ s.env, s.objs⟩ with
   | some z => some (fK C.N g z)
   | none => none
  | none => none
 | _ => none
def NY (ops : Array Oper) (n : Nat) : Bool := match ops.toList.drop n with
 | o :: _ => (match o.op, o.dst, o.guard with
  | .alloc _, some d, none => Region.lexTailB .any ops (n + 1) && HU ops (n + 1) n d
  | _, _, _ => false)
 | [] => false
def isFun : Op → Bool
 | .call { callee := .value (.func _), .. } => true
 | _ => false
def YK (ops : Array Oper) (n i : Nat) : Bool := match ops[i]? with
 | none => false
 | some o => o.guard.isNone && ((o.after.toList.all fun e => !Region.binds .any e || decide (e.on < i)) && ((o.looksAt ops).all fun t => (List.range n).all fun j => !(cY ops j == some t) || (o.after.toList.any fun e => Region.binds .any e && e.on == j)))
def xb (ops : Array Oper) (q p : Nat) : Bool := match ops[q]?, cY ops p with
 | some o, some t => !((o.looksAt ops).contains t) && !(o.dst == some t)
 | some _, none => true
 | none, _ => false
def E6 (ops : Array Oper) (i : Nat) : Bool := match ops[i]? with
 | some o => (match o.dst with | some t => !((o.looksAt ops).contains t) | none => true)
 | none => false
def QI (ops : Array Oper) (k i : Nat) (l : List (Nat × Nat)) : Bool := match cY ops i with
 | some d => !(d == 999998) && (k == 5 || l.all fun p => !(Nat.ble 4 p.1) || (match ops[p.2]? with | some o => !((o.looksAt ops).contains d) | none => false))
 | none => false
def BR (ops : Array Oper) : Option Nat → List Nat → List (Nat × Nat) → Bool
 | _, _, [] => true
 | cur, fl, (k, i) :: l => (E6 ops i && l.all fun p => xb ops i p.2) &&
  (match Nat.ble 4 k with
  | true => QI ops k i l && BR ops cur (i :: fl) l
  | false => ((match cur with | none => true | some e => reach ops 3 i e) && fl.all fun e => reach ops 3 i e) &&
   (match Nat.ble 2 k with
   | true => BR ops (some i) [] l
   | false => BR ops cur fl l))
def wB (ops : Array Oper) (n : Nat) (ord : List (Nat × Nat)) : Bool :=
 (ord.all fun p => decide (p.2 < n)) && ((List.range n).all (fun i => (ord.map (·.2)).contains i) && (nodupB (ord.map (·.2)) && ((List.range n).all (YK ops n) && BR ops none [] ord)))
def uK : Code → HT → Bool
 | .region _ ops draw, h => match Iv h with
  | some (m, _) => Region.noSelect ops && (EM ops && (match draw, m with
   | true, .q => Region.lexB .any ops
   | true, .qt n => Region.lexTailB .any ops n
   | true, .da n => NY ops n
   | true, .w n ord => (Region.lexTailB .any ops n || decide (n = ops.size)) && wB ops n ord
   | _, _ => true))
  | none => true
 | .seq x y, .n a b => uK x a && uK y b
 | .seq x y, .j _ a b => uK x a && uK y b
 | .cond _ x y, .n a b => uK x a && uK y b
 | .block _ x, .u a => uK x a
 | .loop x, .l _ a => uK x a
 | _, _ => true
structure yO where
 n : Nat
 rv : List ResultVar
 code : Code
def Ta : List (Nat × yO) → Nat → Option yO
 | [], _ => none
 | (m, x) :: r, n => if m = n then some x else Ta r n
def yX : Nat → List SV → List (Nat × SV)
 | _, [] => []
 | i, x :: l => (i, x) :: yX (i + 1) l
def mP (N : Nat) : List (Nat × SV) → List (Nat × SV)
 | [] => []
 | (n, x) :: r => if Nat.ble N n = true then mP N r else (n, x) :: mP N r
def Pg (k : Nat) : ResultVar → ResultVar
 | .tmp t => .tmp (k + t)
 | .cell b T => .cell (k + b) T
def BI : List (Nat × SV) → Option (List VV)
 | [] => some []
 | (_, .v x) :: l => match BI l with
  | some r => some (x :: r)
  | none => none
 | _ => none
def G8 : List (Nat × SV) → Option SV
 | [(_, x)] => some x
 | l => match BI l with
  | some r => some (.cI r)
  | none => none
def N9 {R : Type} (IT : List (Nat × yO)) (E : eN → Code → HT → SS → (Exit → SS → Option R) → Option R) : JT R := fun C f xs gap ht s K =>
 match Ta IT f with
 | none => none
 | some i => match Nat.ble xs.length i.n && uK (mL (C.N + gap) i.code) ht with
  | false => none
  | true => E { G := C.G, N := C.N + gap + i.n, fuel := C.fuel, M := C.M } (mL (C.N + gap) i.code) ht ⟨yX (C.N + gap) xs ++ mP C.N s.env, s.objs⟩ fun e s' => match e with
   | .normal | .ret => match zW { G := C.G, N := C.N + gap + i.n, fuel := C.fuel, M := C.M } s' (i.rv.map (Pg (C.N + gap))) 0 with
    | some rs => match G8 rs with
     | some x => K x ⟨mP C.N s'.env, s'.objs⟩
     | none => none
    | none => none
   | _ => none
def Ii {R : Type} (FT : List (Nat × Entry)) (pins : List Nat) (IT : List (Nat × yO)) : Nat → JT R
 | 0 => fun _ _ _ _ _ _ _ => none
 | d + 1 => N9 IT fun C c h s k => exec C FT pins (Ii FT pins IT d) c h s k
def call (G : List (Nat × TD)) (M : qe) (FT : List (Nat × Entry)) (IT : List (Nat × yO)) (dep : Nat) (g : ee) (N : Nat) (rv : List ResultVar) (c : Code) (h : HT) (fuel : Nat) (x : eF g.args) : Option g.R :=
 exec ⟨G, N, fuel, M⟩ FT (iB g.args 0) (Ii FT (iB g.args 0) IT dep) c h ⟨l7 g.args 0 x, qh g.args 0 x⟩ (GH ⟨G, N, fuel, M⟩ g rv)
end Go.Abs
namespace Go.Abs
open Go.RowKit
variable {c : List Bool}
theorem ur : ∀ (t : Ty) (x : t.T), (t.kv x).av = t.av x
 | .int _, _ => rfl
 | .bool, _ => rfl
 | .str, _ => rfl
 | .sl _, _ => rfl
theorem qv : ∀ (ts : cf) (x : ts.T), (ts.qZ x).map KV.av = ts.cF x
 | .nil, _ => rfl
 | .cons t ts, x => by simp only [cf.qZ, cf.cF, List.map_cons, ur, qv ts]
theorem Eu : ∀ (ts : cf) (x : ts.T), (ts.qZ x).length = ts.len
 | .nil, _ => rfl
 | .cons t ts, x => by simp only [cf.qZ, cf.len, List.length_cons, Eu ts]
theorem fX (ts : cf) (x : ts.T) : (ts.cF x).length = ts.len := by rw [← qv, List.length_map, Eu]
theorem bk (O : ah) (n : Nat) : ∀ O' : ah, look n (ai O O') = (ad n O').map (SO.av O)
 | [] => rfl
 | (m, o) :: r => by
  have ih := bk O n r
  by_cases h : m = n <;> simp [ai, look, ad, h, ih]
theorem vt (N : Nat) (s : SS) (t : Nat) : (s.st N).env.getD t .any = (s.get N t).av s.objs := by
 unfold SS.get SS.st
 by_cases h : t < N
 ·simp [h, List.getD]
 ·simp [h, List.getD, SV.any, SV.av, VV.av, CV.av]
theorem jq (N : Nat) (s : SS) : (s.st N).env.length = N := by simp [SS.st]
theorem EN (O : ah) (v : Value) : (Dm v).av O = I7 v := by
 unfold Dm I7
 split
 ·rfl
 ·rfl
 ·rename_i s
  by_cases h : s.size ≤ cj <;> simp [h, CV.av, KV.av]
 ·rfl
 ·rfl
 ·rfl
 ·rfl
 ·rename_i h1 h2 h3 h4 h5 h6 h7
  split
  ·exact (h1 _ _ rfl).elim
  ·exact (h2 _ rfl).elim
  ·exact (h3 _ rfl).elim
  ·exact (h4 rfl).elim
  ·exact (h5 rfl).elim
  ·exact (h6 rfl).elim
  ·exact (h7 rfl).elim
  ·rfl
theorem Lm (O : ah) (v : Value) : (I8 v).av O = RG v := by
 unfold I8 RG
 split
 ·rename_i cs
  by_cases h : (cs.toList.all (·.oneCell')) = true
  ·simp only [h, if_true, SV.av, VV.av, List.map_map]
   have : (CV.av O ∘ Dm) = I7 := funext fun x => EN O x
   rw [this]
  ·simp only [h, Bool.false_eq_true, if_false]; rfl
 ·simp only [SV.av, VV.av, EN]
theorem bz (C : eN) (s : SS) (o : Operand) : (aq C s o).av s.objs = ev (s.st C.N).env o := by
 cases o with
 | tmp t => simp only [aq, ev, vt]
 | const v => simp only [aq, ev, Lm]
 | global g =>
  simp only [aq, ev, Is, EI]
  cases GX Em g with
  | none => rfl
  | some e =>
   obtain ⟨ts, l⟩ := e
   match l with
   | [] => rfl
   | [x] => simp only [SV.av, VV.av, CV.av, Option.map_some, qv, List.flatMap_cons, List.flatMap_nil, List.append_nil]
   | x :: y :: l => rfl
 | func f => rfl
theorem dt (N : Nat) (s : SS) (dst : Option Tmp) (x : SV) : (s.put dst x).st N = ⟨eW (s.st N).env dst (x.av s.objs), (s.st N).objs⟩ := by
 cases dst with
 | none => rfl
 | some d =>
  simp only [SS.put, SS.st, eW]
  congr 1
  apply List.ext_getElem?
  intro i
  simp only [List.getElem?_map, List.getElem?_set, List.length_map, List.length_range]
  by_cases hi : i < N
  ·by_cases hd : d = i
   ·subst hd; simp [cr, hi]
   ·simp [cr, hd, hi]
  ·simp [hi]
   intro h1; omega
theorem zd (O : ah) (l : List KV) : (l.map CV.k).map (CV.av O) = l.map KV.av := by
 rw [List.map_map]; rfl
theorem ly (O : ah) (ts : cf) (x : ts.T) : ((ts.qZ x).map CV.k).map (CV.av O) = ts.cF x := by rw [zd, qv]
theorem NA : ∀ (t : Ty) (v : KV) (x : t.T), v.to t = some x → v = t.kv x
 | .int k, .int k' n, x, h => by
  simp only [KV.to] at h
  split at h
  ·rename_i e; subst e; simp only [Option.some.injEq] at h; subst h; rfl
  ·cases h
 | .bool, .bool b, x, h => by simp only [KV.to, Option.some.injEq] at h; subst h; rfl
 | .str, .str s, x, h => by simp only [KV.to, Option.some.injEq] at h; subst h; rfl
 | .sl ts, .sl us l, x, h => by
  simp only [KV.to] at h
  split at h
  ·rename_i hb
   have e := cf.beq_eq us ts hb
   subst e
   simp only [Option.some.injEq] at h; subst h; rfl
  ·cases h
 | .int _, .bool _, x, h => by simp [KV.to] at h
 | .int _, .str _, x, h => by simp [KV.to] at h
 | .int _, .sl _ _, x, h => by simp [KV.to] at h
 | .bool, .int _ _, x, h => by simp [KV.to] at h
 | .bool, .str _, x, h => by simp [KV.to] at h
 | .bool, .sl _ _, x, h => by simp [KV.to] at h
 | .str, .int _ _, x, h => by simp [KV.to] at h
 | .str, .bool _, x, h => by simp [KV.to] at h
 | .str, .sl _ _, x, h => by simp [KV.to] at h
 | .sl _, .int _ _, x, h => by simp [KV.to] at h
 | .sl _, .bool _, x, h => by simp [KV.to] at h
 | .sl _, .str _, x, h => by simp [KV.to] at h
def gy : List Bool → Prop
 | [] => True
 | b :: l => b = true ∧ gy l
theorem fI {α : Type} {r : α} : ∀ {l : List Bool} {m : Option α}, need l m = some r → gy l ∧ m = some r
 | [], m, h => ⟨trivial, h⟩
 | c :: l, m, h => by
  simp only [need, br] at h
  split at h
  ·rename_i hc
   obtain ⟨h1, h2⟩ := fI h
   exact ⟨⟨hc, h1⟩, h2⟩
  ·cases h
theorem lZ : ∀ {a b : List Bool}, gy (a ++ b) → gy a ∧ gy b
 | [], b, h => ⟨trivial, h⟩
 | x :: a, b, h => by
  obtain ⟨h1, h2⟩ := lZ (a := a) h.2
  exact ⟨⟨h.1, h1⟩, h2⟩
theorem jg {n : Int} {len : Nat} (h : bt n len = true) : 0 ≤ n ∧ n < len := by simpa [bt] using h
theorem CQ {l h : Int} {len : Nat} (hh : fa l h len = true) : 0 ≤ l ∧ l ≤ h ∧ h ≤ len := by simpa [fa] using hh
theorem Ho {op : BinOp} {k : IntKind} {a b : Int} {v : KV} (h : VT op k a b = some (c, v)) (hc : gy c) : CO op k a b = some v.av := by
 cases op <;> simp only [VT, Option.some.injEq, Prod.mk.injEq] at h <;> obtain ⟨rfl, rfl⟩ := h <;> simp only [CO, KV.av, ui, Ri, Ro, N7, Rk, Rl, Rj, YD, N8, Eo, Rm, Rn, Tv, PW, Tx, vG]
 ·have h0 : b ≠ 0 := by simpa [gy, PW] using hc
  rw [if_neg h0]
 ·have h0 : b ≠ 0 := by simpa [gy, PW] using hc
  rw [if_neg h0]
 ·have h0 : 0 ≤ b := by simpa [gy, vG] using hc
  rw [if_neg (by omega)]
 ·have h0 : 0 ≤ b := by simpa [gy, vG] using hc
  rw [if_neg (by omega)]
theorem HB {op : BinOp} {a b : List UInt8} {v : KV} (h : VZ op a b = some (c, v)) (hc : gy c) : Jt op a b = some v.av := by
 cases op <;> simp only [VZ, Option.some.injEq, Prod.mk.injEq, reduceCtorEq] at h <;> obtain ⟨rfl, rfl⟩ := h <;> simp only [Jt, KV.av, Qa, y3, Tz, rH]
 have h0 : a.length + b.length ≤ cj := of_decide_eq_true hc.1
 rw [if_pos h0]
def vT : List TypeDesc → cf → Bool
 | [], .nil => true
 | .int k :: l, .cons (.int k') ts => decide (k = k') && vT l ts
 | .bool :: l, .cons .bool ts => vT l ts
 | .string :: l, .cons .str ts => vT l ts
 | _, _ => false
def N1 (P : Program) (T : TypeId) (ts : cf) : Bool := (match P.underlying T with | some (.struct _) => true | _ => false) && !(P.eqGuardType P.depth T) && (match jO P 20 T with | some ks => vT ks ts | none => false)
def Nq (P : Program) (T : TypeId) : Bool := match P.underlying T with
 | some (.func _ _ _) => true
 | _ => false
def Li (P : Program) (T : TypeId) : KC → Bool
 | .rJ => Dw P T
 | .qy => lq P T
 | .xD => Nq P T
 | .fn _ => false
def Oo (P : Program) (T : TypeId) : Option (IntKind × TypeId) := match P.underlying T with
 | some (.map K E) => match P.underlying K with
  | some (.int k) => some (k, E)
  | _ => none
 | _ => none
def n5 (P : Program) (T : TypeId) (kk k : IntKind) : Bool := match Oo P T with
 | some (kk', E) => decide (kk' = kk) && (match P.info? E with
  | some i => (match i.zero with
   | some (.int k' n) => decide (k' = k) && decide (n = 0)
   | _ => false)
  | none => false)
 | none => false
def TD.ok (P : Program) (T : TypeId) : TD → Prop
 | .map kk k => n5 P T kk k = true ∧ cJ P T = some (false, 1)
 | .nl c => Li P T c = true ∧ cJ P T = some (false, 1) ∧ zeroCells P T = some [.cW c.val] ∧ cN P T = none
 | .int k => wo P T = some k ∧ cJ P T = some (false, 1) ∧ zeroCells P T = some [.int k 0] ∧ cN P T = none
 | .bool => ql P T = true ∧ cJ P T = some (false, 1) ∧ zeroCells P T = some [.bool false] ∧ cN P T = none
 | .str => iE P T = true ∧ cJ P T = some (false, 1) ∧ zeroCells P T = some [.str []] ∧ cN P T = none
 | .slice ts b => bf P T = some ts.len ∧ (jN P T).bind (wM P) = some b ∧ (jN P T).bind (zeroCells P) = some (ts.zc.map (CV.av [])) ∧ cJ P T = some (false, 1) ∧
   zeroCells P T = some [.gE] ∧ cN P T = none ∧ (ts.beq fw = true → mc P T = true)
 | .struct ts fs eq => cJ P T = some (true, ts.len) ∧ (∀ k r, fs[k]? = some r → jy P T k = some r) ∧ places P T = some (fs.map fun f => (f.1, f.2.2)) ∧ zeroCells P T = some (ts.zc.map (CV.av [])) ∧
   cN P T = none ∧ (eq = true → N1 P T ts = true)
 | .arr n ts => cN P T = some (n, ts.len) ∧ cJ P T = some (true, n * ts.len) ∧ n ≤ cj ∧ ∃ z, zeroCells P T = some z ∧ n * ts.len = z.length ∧ chunk ts.len n z = List.replicate n (ts.zc.map (CV.av []))
def Good (P : Program) (G : List (Nat × TD)) : Prop := ∀ T d, gQ G T = some d → d.ok P T
theorem TD.Dn {P : Program} {T : TypeId} {d : TD} (h : d.ok P T) : (P.underlying T).isSome = true := by
 have key : ∀ r, cJ P T = some r → (P.underlying T).isSome = true := by
  intro r h
  unfold cJ at h
  cases hu : P.underlying T with
  | none => simp [hu] at h
  | some _ => rfl
 cases d with
 | int k => exact key _ h.2.1
 | bool => exact key _ h.2.1
 | str => exact key _ h.2.1
 | slice ts b => exact key _ h.2.2.2.1
 | struct ts fs eq => exact key _ h.1
 | arr n ts => exact key _ h.2.1
 | nl c => exact key _ h.2.1
 | map _ _ => exact key _ h.2
theorem TD.rW {P : Program} {T : TypeId} {d : TD} (h : d.ok P T) : cJ P T = some d.cell := by
 cases d with
 | int k => exact h.2.1
 | bool => exact h.2.1
 | str => exact h.2.1
 | slice ts b => exact h.2.2.2.1
 | struct ts fs eq => exact h.1
 | arr n ts => exact h.2.1
 | nl c => exact h.2.1
 | map _ _ => exact h.2
theorem Km : ∀ (ts : cf) (O O' : ah), ts.zc.map (CV.av O) = ts.zc.map (CV.av O')
 | .nil, _, _ => rfl
 | .cons t ts, O, O' => by
  simp only [cf.zc, List.map_cons, Km ts O O']
  cases t <;> rfl
theorem vD : ∀ ts : cf, ts.zc.length = ts.len
 | .nil => rfl
 | .cons _ ts => by simp only [cf.zc, cf.len, List.length_cons, vD ts]
theorem DG {O : ah} : ∀ {ks : List TypeDesc} {ts : cf} {a b : List CV} {r : Bool}, vT ks ts = true → u3 ts a b = some r → qS ks (a.map (CV.av O)) (b.map (CV.av O)) = some r := by
 intro ks
 induction ks with
 | nil =>
  intro ts a b r hk h
  cases ts with
  | nil =>
   cases a <;> cases b <;> simp [u3] at h
   subst h; rfl
  | cons t ts => simp [vT] at hk
 | cons d ks ih =>
  intro ts a b r hk h
  cases ts with
  | nil => cases d <;> simp [vT] at hk
  | cons t ts =>
   unfold u3 at h
   split at h
   ·rename_i e; cases e
   ·rename_i k ts' k1 a xs k2 b ys e
    cases e
    split at h
    ·rename_i hkk
     obtain ⟨rfl, rfl⟩ := hkk
     split at h
     ·rename_i q hq
      simp only [Option.some.injEq] at h; subst h
      cases d <;> simp only [vT, Bool.and_eq_true, decide_eq_true_eq, Bool.false_eq_true] at hk
      obtain ⟨rfl, hk⟩ := hk
      simp only [List.map_cons, CV.av, KV.av, qS, PY, if_true, ih hk hq]
      rfl
     ·cases h
    ·cases h
   ·rename_i ts' a xs b ys e
    cases e
    split at h
    ·rename_i q hq
     simp only [Option.some.injEq] at h; subst h
     cases d <;> simp only [vT, Bool.false_eq_true] at hk
     simp only [List.map_cons, CV.av, KV.av, qS, PY, ih hk hq]
     rfl
    ·cases h
   ·rename_i ts' a xs b ys e
    cases e
    split at h
    ·rename_i q hq
     simp only [Option.some.injEq] at h; subst h
     cases d <;> simp only [vT, Bool.false_eq_true] at hk
     simp only [List.map_cons, CV.av, KV.av, qS, PY, ih hk hq]
     rfl
    ·cases h
   ·cases h
theorem DE {P : Program} {G : List (Nat × TD)} (hG : Good P G) {O : ah} {T : TypeId} {op : BinOp} {x y : SV} {v : KV} (h : OK G T op x y = some (c, v)) (hc : gy c) :
  KE P T op (x.av O) (y.av O) = some v.av := by
 unfold OK at h
 split at h
 ·rename_i a b
  split at h
  ·rename_i k a k' b
   simp only [SV.av, VV.av, CV.av, KV.av, KE]
   split at h
   ·rename_i hk
    rw [if_pos hk]
    exact Ho h hc
   ·cases h
  ·rename_i a b
   simp only [SV.av, VV.av, CV.av, KV.av, KE]
   exact HB h hc
  ·rename_i a b
   simp only [SV.av, VV.av, CV.av, KV.av, KE]
   split at h
   ·rename_i e1
    have := hG T _ e1
    simp only [Option.some.injEq, Prod.mk.injEq] at h; obtain ⟨_, rfl⟩ := h
    rw [if_pos this.1]; rfl
   ·rename_i e1
    have := hG T _ e1
    simp only [Option.some.injEq, Prod.mk.injEq] at h; obtain ⟨_, rfl⟩ := h
    rw [if_pos this.1]; rfl
   ·cases h
  ·cases h
 ·rename_i a b
  simp only [SV.av, VV.av, KE]
  have key : ∀ ts fs r, gQ G T = some (.struct ts fs true) → u3 ts a b = some r → wh P T (a.map (CV.av O)) (b.map (CV.av O)) = some r := by
   intro ts fs r e hr
   have hq := (hG T _ e).2.2.2.2.2 rfl
   unfold N1 at hq
   simp only [Bool.and_eq_true, Bool.not_eq_true'] at hq
   obtain ⟨⟨h1, h2⟩, h3⟩ := hq
   unfold wh
   split at h1
   ·rename_i fs' hu
    simp only [hu, h2, if_true]
    split at h3
    ·rename_i ks hks
     simp only [hks]
     exact DG h3 hr
    ·cases h3
   ·cases h1
  split at h
  ·rename_i ts fs e1
   cases hs : u3 ts a b with
   | none => simp [hs] at h
   | some r =>
    simp only [hs, Option.map_some, Option.some.injEq, Prod.mk.injEq] at h
    obtain ⟨_, rfl⟩ := h
    simp only [key ts fs r e1 hs, Option.map_some, KV.av]
  ·rename_i ts fs e1
   cases hs : u3 ts a b with
   | none => simp [hs] at h
   | some r =>
    simp only [hs, Option.map_some, Option.some.injEq, Prod.mk.injEq] at h
    obtain ⟨_, rfl⟩ := h
    simp only [key ts fs r e1 hs, Option.map_some, KV.av, y3]
  ·cases h
 ·cases h
theorem DZ {op : UnOp} {x v : KV} (h : M6 op x = some v) : Tk op x.av = some v.av := by
 unfold M6 at h
 split at h
 ·simp only [Option.some.injEq] at h; subst h; rfl
 ·simp only [Option.some.injEq] at h; subst h; rfl
 ·simp only [Option.some.injEq] at h; subst h; rfl
 ·cases h
theorem ru {O : ah} {ts : cf} {x : SV} {l : List ts.T} (h : mF O ts x = some (c, l)) (hc : gy c) : eM (ai O O) ts.len (x.av O) = some (l.map ts.cF) := by
 unfold mF at h
 split at h
 ·simp only [Option.some.injEq, Prod.mk.injEq] at h; obtain ⟨_, rfl⟩ := h; rfl
 ·rename_i us l'
  split at h
  ·rename_i hb
   simp only [Option.some.injEq, Prod.mk.injEq] at h; obtain ⟨_, rfl⟩ := h
   have e := cf.beq_eq us ts hb
   subst e
   simp [SV.av, VV.av, CV.av, KV.av, eM]
  ·cases h
 ·rename_i n
  split at h
  ·rename_i us l' hl
   split at h
   ·rename_i hb
    simp only [Option.some.injEq, Prod.mk.injEq] at h; obtain ⟨_, rfl⟩ := h
    have e := cf.beq_eq us ts hb
    subst e
    have e2 : List.take l'.length (List.map us.cF l') = List.map us.cF l' := List.take_of_length_le (by simp)
    simp [SV.av, VV.av, CV.av, hl, eM, bk, SO.av, e2]
   ·cases h
  ·cases h
 ·rename_i n sz off len
  split at h
  ·rename_i us l' hl
   split at h
   ·rename_i hb
    split at h
    ·rename_i hsz
     simp only [Option.some.injEq, Prod.mk.injEq] at h; obtain ⟨rfl, rfl⟩ := h
     have e := cf.beq_eq us ts hb
     subst e; subst hsz
     have h0 : off + len ≤ l'.length := of_decide_eq_true hc.1
     simp [SV.av, VV.av, CV.av, eM, bk, hl, SO.av, h0, lA]
    ·cases h
   ·cases h
  ·cases h
 ·cases h
theorem tP : ∀ l : List fw.T, xg (l.map fw.cF) = some (toBytes l)
 | [] => rfl
 | x :: l => by
  have ih := tP l
  show (xg (l.map fw.cF)).map (UInt8.ofNat (x.1 : Int).toNat :: ·) = _
  rw [ih]; rfl
theorem tI : ∀ s : List UInt8, (ofBytes s).map fw.cF = bytesOf s
 | [] => rfl
 | b :: s => congrArg (List.cons [AV.int .u8 (b.toNat : Int)]) (tI s)
end Go.Abs
