/- The walks' library, part C: what a region of the program does in an abstract state, and its soundness. -/
import Derived.RangeFuncLeaves
import Derived.RangeFuncRecord
import Derived.TacticsIn
import Derived.OrdersIn
import Derived.Test.YtjficagemeiecaaDoorLibB
namespace Go.Abs
open Go.RowKit
def shX (k : Nat) : Operand → Operand
 | .tmp t => .tmp (k + t)
 | x => x
def shA (k : Nat) (l : Array Operand) : Array Operand := (l.toList.map (shX k)).toArray
def shP (k : Nat) (l : Array (Nat × Operand)) : Array (Nat × Operand) := (l.toList.map fun p => (p.1, shX k p.2)).toArray
def shCall (k : Nat) (c : Call) : Call :=
 { callee := (match c.callee with | .value x => .value (shX k x) | .invoke x n => .invoke (shX k x) n | .builtin b => .builtin b), args := shA k c.args, argTypes := c.argTypes }
def shOp (k : Nat) : Op → Op
 | .move x => .move (shX k x)
 | .assign x => .assign (shX k x)
 | .pick c a b => .pick (shX k c) (shX k a) (shX k b)
 | .alloc T => .alloc T
 | .box T x => .box T (shX k x)
 | .build T ps => .build T (shP k ps)
 | .buildSlice T n ps => .buildSlice T n (shP k ps)
 | .insert T a b c => .insert T (shX k a) (shX k b) (shX k c)
 | .load T x => .load T (shX k x)
 | .store T x y => .store T (shX k x) (shX k y)
 | .ready g => .ready g
 | .waits g => .waits g
 | .nilCheck x => .nilCheck (shX k x)
 | .binOp op T x y U => .binOp op T (shX k x) (shX k y) U
 | .unOp op T x => .unOp op T (shX k x)
 | .convert S T x => .convert S T (shX k x)
 | .sliceToArrayPointer T x => .sliceToArrayPointer T (shX k x)
 | .makeInterface T x => .makeInterface T (shX k x)
 | .makeFunc f a b => .makeFunc f (shA k a) (shA k b)
 | .makeMap T r => .makeMap T (r.map (shX k))
 | .makeChan T x => .makeChan T (shX k x)
 | .makeSlice T x y => .makeSlice T (shX k x) (shX k y)
 | .slice T x a b c => .slice T (shX k x) (a.map (shX k)) (b.map (shX k)) (c.map (shX k))
 | .fieldAddr T x f => .fieldAddr T (shX k x) f
 | .field T x f => .field T (shX k x) f
 | .indexAddr T x y => .indexAddr T (shX k x) (shX k y)
 | .index T x y => .index T (shX k x) (shX k y)
 | .lookup T x y b => .lookup T (shX k x) (shX k y) b
 | .mapUpdate T a b c => .mapUpdate T (shX k a) (shX k b) (shX k c)
 | .mapEntry T a b => .mapEntry T (shX k a) (shX k b)
 | .entryStore T a b c => .entryStore T (shX k a) (shX k b) (shX k c)
 | .range T x => .range T (shX k x)
 | .next x b => .next (shX k x) b
 | .entry x => .entry (shX k x)
 | .typeAssert x S T b => .typeAssert (shX k x) S T b
 | .extract x i => .extract (shX k x) i
 | .call c => .call (shCall k c)
 | .go c => .go (shCall k c)
 | .defer c => .defer (shCall k c)
 | .panic x => .panic (shX k x)
 | .send x y => .send (shX k x) (shX k y)
 | .recv T x b => .recv T (shX k x) b
 | .select cs b => .select cs b
def shO (k : Nat) (o : Oper) : Oper := { dst := o.dst.map (k + ·), op := shOp k o.op, type := o.type, pos := o.pos, after := o.after, guard := o.guard }
def shOs (k : Nat) (ops : Array Oper) : Array Oper := (ops.toList.map (shO k)).toArray
def shC (k : Nat) : Code → Code
 | .region id ops draw => .region id (shOs k ops) draw
 | .seq a b => .seq (shC k a) (shC k b)
 | .cond c a b => .cond (shX k c) (shC k a) (shC k b)
 | .block id a => .block id (shC k a)
 | .loop a => .loop (shC k a)
 | c => c
theorem map_toArray {α β : Type} (f : α → β) (a : Array α) : (a.toList.map f).toArray = a.map f := by
 apply Array.ext'; simp
theorem resolve_sh (k : Nat) (ρ : Operand → Value) (c : Call) (ty : TypeId) : resolve ρ (shCall k c) ty = resolve (fun x => ρ (shX k x)) c ty := by
 obtain ⟨callee, args, tys⟩ := c
 have h1 : (shA k args).map ρ = args.map fun x => ρ (shX k x) := by simp [shA, map_toArray]
 have h2 : ∀ F : Operand → Bool, (∀ x, F (shX k x) = F x) → (shA k args).map F = args.map F := by
  intro F hF
  simp only [shA, map_toArray, Array.map_map]
  apply Array.map_congr_left
  intro x _
  exact hF x
 cases callee with
 | value x => simp only [resolve, shCall, h1]
 | invoke x n => simp only [resolve, shCall, h1]
 | builtin b =>
  simp only [resolve, shCall, h1]
  rw [h2 _ (fun x => by cases x <;> rfl)]
theorem parts_sh (k : Nat) (ρ : Operand → Value) (ps : Array (Nat × Operand)) : (shP k ps).map (fun p => (p.1, ρ p.2)) = ps.map fun p => (p.1, ρ (shX k p.2)) := by
 simp [shP, map_toArray]
theorem guard_sh (k : Nat) (op : BinOp) (T : TypeId) (x y : Operand) (a b : Value) : eqGuard op T (shX k x) (shX k y) a b = eqGuard op T x y a b := by
 cases x <;> cases y <;> rfl
theorem exec_shop (k : Nat) (ρ : Operand → Value) (o : Oper) (hs : ∀ cs b, o.op ≠ .select cs b) : execOp ρ (shO k o) = execOp (fun x => ρ (shX k x)) o := by
 obtain ⟨dst, op, ty, pos, aft, guard⟩ := o
 cases op with
 | select cs b => exact absurd rfl (hs cs b)
 | call c => simp only [shO, shOp, execOp, resolve_sh]
 | go c => simp only [shO, shOp, execOp, resolve_sh]
 | defer c => simp only [shO, shOp, execOp, resolve_sh]
 | binOp op T x y U => simp only [shO, shOp, execOp, guard_sh]
 | build T ps => simp only [shO, shOp, execOp]; rw [← parts_sh]
 | buildSlice T n ps => simp only [shO, shOp, execOp]; rw [← parts_sh]
 | makeFunc f a b => simp only [shO, shOp, execOp, shA, map_toArray, Array.map_map]; rfl
 | makeMap T r => simp only [shO, shOp, execOp, Option.map_map]; rfl
 | slice T x a b c => simp only [shO, shOp, execOp, Option.map_map]; rfl
 | _ => rfl
def extd (g : Array Value) (dl : List Deferred) (a : Act) : Act := ⟨g ++ a.tmps, dl⟩
abbrev ext (g : Array Value) (a : Act) : Act := extd g [] a
theorem ext_nil {a : Act} (h : a.defers = []) : ext #[] a = a := by
 obtain ⟨t, d⟩ := a
 simp only at h; subst h
 simp [ext, extd]
theorem ext_eval (g : Array Value) (dl : List Deferred) (a : Act) (x : Operand) : (extd g dl a).eval (shX g.size x) = a.eval x := by
 cases x with
 | tmp t =>
  have h : ¬ g.size + t < g.size := by omega
  simp [shX, Act.eval, extd, Array.getD_eq_getD_getElem?, Array.getElem?_append, h]
 | _ => rfl
theorem ext_put (g : Array Value) (dl : List Deferred) (a : Act) (dst : Option Tmp) (v : Value) : (extd g dl a).put (dst.map (g.size + ·)) v = extd g dl (a.put dst v) := by
 cases dst with
 | none => rfl
 | some d =>
  simp only [Option.map_some, Act.put, extd]
  congr 1
  apply Array.ext
  ·simp
  ·intro i h1 h2
   simp only [Array.size_setIfInBounds, Array.size_append] at h1
   rw [Array.getElem_setIfInBounds (by simpa using h1)]
   by_cases hi : g.size + d = i
   ·subst hi
    simp only [if_true]
    rw [Array.getElem_append_right (by omega)]
    simp
   ·rw [if_neg hi]
    by_cases hlt : i < g.size
    ·rw [Array.getElem_append_left hlt, Array.getElem_append_left hlt]
    ·rw [Array.getElem_append_right (by omega), Array.getElem_append_right (by omega), Array.getElem_setIfInBounds (by omega), if_neg (by omega)]
theorem exec_ext (g : Array Value) (dl : List Deferred) (a : Act) (o : Oper) (hs : ∀ cs b, o.op ≠ .select cs b) : execOp (extd g dl a).eval (shO g.size o) = execOp a.eval o := by
 rw [exec_shop _ _ _ hs]
 congr 1
 funext x
 exact ext_eval g dl a x
theorem shOs_get (k : Nat) (ops : Array Oper) (i : Nat) : (shOs k ops)[i]? = (ops[i]?).map (shO k) := by simp [shOs]
theorem yielded_ext (g : Array Value) (dl : List Deferred) (a : Act) (ops : Array Oper) : yielded (shOs g.size ops) (extd g dl a).tmps = yielded ops a.tmps := by
 funext j
 unfold yielded
 rw [shOs_get]
 cases ops[j]? with
 | none => rfl
 | some o =>
  obtain ⟨dst, op, ty, pos, aft, guard⟩ := o
  cases dst with
  | none => rfl
  | some d =>
   have : (g ++ a.tmps)[g.size + d]? = a.tmps[d]? := by
    rw [Array.getElem?_append_right (by omega)]; simp
   simp only [Option.map_some, Option.bind_some, shO, extd, this]
theorem wanted_ext (g : Array Value) (dl : List Deferred) (a : Act) (ops : Array Oper) (o : Oper) : Region.wanted (shO g.size o) (yielded (shOs g.size ops) (extd g dl a).tmps) = Region.wanted o (yielded ops a.tmps) := by
 rw [yielded_ext]; rfl
def Nrm (R : Act → World → Prop) (e : Exit) (a : Act) (w : World) : Prop := e = .normal ∧ R a w
theorem nrm_out {R : Act → World → Prop} : ¬ LetsOut (Nrm R) := fun ⟨_, _, h, _⟩ => by cases h
def FR (rd : Option Nat) : Fence := { Fence.wide with round := rd }
def isDef (o : Oper) : Bool := match o.op with | .defer _ => true | _ => false
theorem isDef_ne {o : Oper} (h : isDef o = false) : ∀ c, o.op ≠ .defer c := fun c e => by simp [isDef, e] at h
section
variable {P : Program} {g : Array Value} {rd : Option Nat} {R R' : Act → World → Prop}
theorem callsIn_FR {n : Nat} {f : FuncId} {args : Array Value} {w : World} {R : Ending → World → Prop} (h : Calls P f args w R) : CallsIn (FR rd) n P f args w R :=
 (callsIn_wide (n := n)).2 h
theorem rowsIn_FR {n : Nat} {row : String} {args : Array Value} {w : World} {R : Value → World → Prop} (h : Rows P row args w R) : RowsIn (FR rd) n P row args w R :=
 fun c cs _ => let ⟨v, w', r, s⟩ := h c cs; ⟨v, w', r, (stepsIn_wide (P := P)).2 s⟩
theorem wpIn_of_wp {o : Oper} (hd : ∀ c, o.op ≠ .defer c) {a : Act} {w : World} {K : Act → World → Prop} {Q : Exit → Act → World → Prop} (h : o.wp P a w K Q) : o.wpIn (FR rd) 0 P a w K Q := by
 refine ⟨fun _ _ => trivial, ?_⟩
 rw [Oper.semAt_eq _ _ _ hd]
 unfold Oper.wp at h
 generalize (execOp a.eval o).run P w = r at *
 cases r with
 | ok n w' =>
  cases n <;> simp only [Oper.upon] at h <;> simp only [Oper.uponIn]
  case value v => exact h
  case skip => exact h
  case defer d => exact h
  case enter f args => exact ⟨(fun h => by cases h), callsIn_FR h⟩
  case row row args => exact ⟨(fun h => by cases h), rowsIn_FR h⟩
 | halt x w' =>
  cases x <;> simp only [Oper.upon] at h <;> simp only [Oper.uponIn]
  exact h
theorem wpListIn_of {ops : Array Oper} : ∀ (l : List Oper) (_ : ∀ o ∈ l, isDef o = false) (a : Act) (w : World), wpList P ops (Nrm R) l a w → wpListIn (FR rd) 0 P ops (Nrm R) l a w
 | [], _, a, w, h => h
 | o :: l, hs, a, w, h => by
  have ih := wpListIn_of (ops := ops) l (fun o ho => hs o (List.mem_cons_of_mem _ ho))
  simp only [wpList] at h
  simp only [wpListIn]
  split
  ·rename_i hw
   rw [if_pos hw] at h
   rcases h with h | ⟨_, h⟩
   ·exact wpIn_of_wp (isDef_ne (hs o (List.mem_cons_self ..))) (Oper.wp_mono (fun a w h => ih a w h) h)
   ·exact absurd h nrm_out
  ·rename_i hw
   rw [if_neg hw] at h
   exact ⟨fun _ _ => trivial, ih _ _ h⟩
theorem wpAnyIn_of {md : Region.Mode} {ops : Array Oper} (hs : ∀ (j : Nat) (o : Oper), ops[j]? = some o → isDef o = false) : ∀ (f : Nat) (listed : Array Bool) (a : Act) (w : World),
  wpAny P md ops (Nrm R) f listed a w → wpAnyIn (FR rd) 0 P md ops (Nrm R) f listed a w
 | 0, listed, a, w, h => h
 | f + 1, listed, a, w, h => by
  refine ⟨h.1, fun i hi => ?_⟩
  have ih := wpAnyIn_of (md := md) hs f (listed.setIfInBounds i true)
  have h1 := h.2 i hi
  unfold wpOp at h1
  unfold wpOpIn
  cases ho : ops[i]? with
  | none => rw [ho] at h1; exact ih a w h1
  | some o =>
   rw [ho] at h1
   simp only at h1 ⊢
   split
   ·rename_i hw
    rw [if_pos hw] at h1
    rcases h1 with h1 | ⟨_, h1⟩
    ·exact wpIn_of_wp (isDef_ne (hs i o ho)) (Oper.wp_mono (fun a w h => ih a w h) h1)
    ·exact absurd h1 nrm_out
   ·rename_i hw
    rw [if_neg hw] at h1
    exact ⟨fun _ _ => trivial, ih _ _ h1⟩
theorem wp_ext {ds0 : List Deferred} {o : Oper} (hs : ∀ cs b, o.op ≠ .select cs b) (hd : ∀ c, o.op ≠ .defer c) {dl : List Deferred} {a : Act} (ha : a.defers = dl ++ ds0) {w : World} {K' K : Act → World → Prop}
  (hK : ∀ dl' a' w', a'.defers = dl' ++ ds0 → K' (extd g dl' a') w' → K a' w') {Q : Exit → Act → World → Prop} (h : (shO g.size o).wpIn (FR rd) 0 P (extd g dl a) w K' (Nrm R')) : o.wpIn (FR rd) 0 P a w K Q := by
 refine ⟨fun _ _ => trivial, ?_⟩
 have h := h.2
 have hd' : ∀ c, (shO g.size o).op ≠ .defer c := fun c e => by
  cases ho : o.op with
  | defer c' => exact hd c' ho
  | _ => simp only [shO, shOp, ho] at e; cases e
 rw [Oper.semAt_eq _ _ _ hd', exec_ext g dl a o hs] at h
 rw [Oper.semAt_eq _ _ _ hd]
 have pd : ∀ v, (a.put o.dst v).defers = dl ++ ds0 := fun v => by rw [← ha]; cases o.dst <;> rfl
 generalize (execOp a.eval o).run P w = r at *
 cases r with
 | ok n w' =>
  cases n <;> simp only [Oper.uponIn] at h ⊢
  case value v => exact hK _ _ _ (pd v) (by rw [← ext_put]; exact h)
  case skip => exact hK _ _ _ (pd _) (by rw [← ext_put]; exact h)
  case defer d =>
   refine hK (d :: dl) _ _ ?_ ?_
   ·cases o.dst <;> simp [Act.put, ha]
   ·rw [← ext_put]; exact h
  case enter f args =>
   refine ⟨h.1, CallsIn.mono h.2 fun e w'' he => ?_⟩
   cases e with
   | returned v => exact hK _ _ _ (pd v) (by rw [← ext_put]; exact he)
   | panicked c => exact absurd he.1 (by simp)
   | outgrown => exact absurd he nrm_out
  case row row args => exact ⟨h.1, RowsIn.mono h.2 fun v w'' hv => hK _ _ _ (pd v) (by rw [← ext_put]; exact hv)⟩
  case round l f tmps as bd =>
   refine ⟨h.1, RoundIn.mono h.2 fun e w'' he => ?_⟩
   cases e with
   | returned v => exact hK _ _ _ (pd v) (by rw [← ext_put]; exact he)
   | panicked c => exact absurd he.1 (by simp)
   | outgrown => exact absurd he nrm_out
 | halt x w' =>
  cases x <;> simp only [Oper.uponIn] at h ⊢
  exact absurd h.1 (by simp)
theorem wpListIn_ext {ds0 : List Deferred} {ops : Array Oper} {R : Act → World → Prop} (hR : ∀ dl a w, a.defers = dl ++ ds0 → R' (extd g dl a) w → R a w) : ∀ (l : List Oper) (_ : ∀ o ∈ l, (∀ cs b, o.op ≠ .select cs b) ∧ isDef o = false) (dl : List Deferred) (a : Act) (w : World), a.defers = dl ++ ds0 →
  wpListIn (FR rd) 0 P (shOs g.size ops) (Nrm R') (l.map (shO g.size)) (extd g dl a) w → wpListIn (FR rd) 0 P ops (Nrm R) l a w
 | [], _, dl, a, w, ha, h => ⟨rfl, hR dl a w ha h.2⟩
 | o :: l, hs, dl, a, w, ha, h => by
  have ih := wpListIn_ext (ops := ops) hR l (fun o ho => hs o (List.mem_cons_of_mem _ ho))
  simp only [List.map_cons, wpListIn, wanted_ext] at h ⊢
  split
  ·rename_i hw
   rw [if_pos hw] at h
   exact wp_ext (hs o (List.mem_cons_self ..)).1 (isDef_ne (hs o (List.mem_cons_self ..)).2) ha (fun dl' a w ha h => ih dl' a w ha h) h
  ·rename_i hw
   rw [if_neg hw] at h
   refine ⟨fun _ _ => trivial, ih dl _ _ (by rw [← ha]; cases o.dst <;> rfl) ?_⟩
   rw [← ext_put]
   exact h.2
theorem ready_sh (k : Nat) (ops : Array Oper) (listed : Array Bool) : Region.ready .any (shOs k ops) listed = Region.ready .any ops listed := by
 unfold Region.ready
 have : (shOs k ops).size = ops.size := by simp [shOs]
 rw [this]
 congr 1
 funext i
 rw [shOs_get]
 cases ops[i]? <;> rfl
theorem wpAnyIn_ext {ds0 : List Deferred} {ops : Array Oper} {R : Act → World → Prop} (hs : ∀ (j : Nat) (o : Oper), ops[j]? = some o → (∀ cs b, o.op ≠ .select cs b) ∧ isDef o = false) (hR : ∀ dl a w, a.defers = dl ++ ds0 → R' (extd g dl a) w → R a w) :
  ∀ (f : Nat) (listed : Array Bool) (dl : List Deferred) (a : Act) (w : World), a.defers = dl ++ ds0 → wpAnyIn (FR rd) 0 P .any (shOs g.size ops) (Nrm R') f listed (extd g dl a) w → wpAnyIn (FR rd) 0 P .any ops (Nrm R) f listed a w
 | 0, listed, dl, a, w, ha, h => ⟨by rw [← ready_sh g.size]; exact h.1, rfl, hR dl a w ha h.2.2⟩
 | f + 1, listed, dl, a, w, ha, h => by
  refine ⟨fun h0 => ⟨rfl, hR dl a w ha (h.1 (by rw [ready_sh]; exact h0)).2⟩, fun i hi => ?_⟩
  have ih := wpAnyIn_ext hs hR f (listed.setIfInBounds i true)
  have h1 := h.2 i (by rw [ready_sh]; exact hi)
  unfold wpOpIn at h1 ⊢
  rw [shOs_get] at h1
  cases ho : ops[i]? with
  | none =>
   rw [ho] at h1
   exact ih dl a w ha h1
  | some o =>
   rw [ho] at h1
   simp only [Option.map_some, wanted_ext] at h1
   simp only
   split
   ·rename_i hw
    rw [if_pos hw] at h1
    exact wp_ext (hs i o ho).1 (isDef_ne (hs i o ho).2) ha (fun dl' a w ha h => ih dl' a w ha h) h1
   ·rename_i hw
    rw [if_neg hw] at h1
    refine ⟨fun _ _ => trivial, ih dl _ _ (by rw [← ha]; cases o.dst <;> rfl) ?_⟩
    rw [← ext_put]
    exact h1.2
end
section
variable {P : Program} {ops : Array Oper} {C : World → Prop}
theorem any_quiet {Q : Exit → Act → World → Prop} {a : Act} {w : World} (hB : Region.lexB .any ops = true) (hC : C { w with drawn := w.drawn + 1 })
  (h : wpQuiet P ops C (fun a' => ∀ w', C w' → Q .normal a' w') ops.toList a) : wpAny P .any ops Q ops.size (Array.replicate ops.size false) a { w with drawn := w.drawn + 1 } := by
 simp only [Region.lexB, Bool.and_eq_true] at hB
 refine wpAny_of_quiet (Q := fun a' => ∀ w', C w' → Q .normal a' w') (fun _ w' hw' h => h w' hw') _ _ _ _ hC ?_
 have := wpAnyQ_lex (C := C) (md := .any) hB.1 ops.toList 0 (Array.replicate ops.size false) a (by simp) (by simpa using hB.2) h
 simpa using this
theorem any_qt {Q : Exit → Act → World → Prop} {a : Act} {w : World} {l : List Oper} (n : Nat) (hB : Region.lexTailB .any l.toArray n = true) (hC : C { w with drawn := w.drawn + 1 })
  (h : wpQuiet P l.toArray C (fun a' => ∀ w', C w' → wpList P l.toArray Q (l.drop n) a' w') (l.take n) a) :
  wpAny P .any l.toArray Q l.toArray.size (Array.replicate l.toArray.size false) a { w with drawn := w.drawn + 1 } := by
 simp only [Region.lexTailB, Bool.and_eq_true, decide_eq_true_eq] at hB
 obtain ⟨⟨⟨⟨hsel, hn⟩, hs⟩, hc⟩, hlex⟩ := hB
 have hn' : n < l.length := by simpa using hn
 have htl : (l.take n).length = n := by simp; omega
 have hdl : (l.drop n).length = l.toArray.size - n := by simp
 have inv0 : HeadInv .any l.toArray n (Array.replicate l.toArray.size false) :=
  ⟨by simp, fun j oj _ hl => (by rw [getD_replicate_false] at hl; cases hl), fun t _ ht => getD_in (by simpa using ht) (getD_replicate_false _ _)⟩
 have H := head_lex (md := .any) (g := l.toArray.size - n) hsel hs hc hn (l.take n) 0 _ a (fun j hj => by
  have hj' : j < n := by rw [htl] at hj; exact hj
  simp [hj']) (by simpa using htl) inv0 (by rw [htl]; exact hlex) h
 have := any_of_head (Q' := Q) (g := l.toArray.size - n) (fun listed a' w' hw' hL => by
  have := wpAny_of_seq (md := .any) (Q' := Q) (l.drop n) n listed a' w' (fun j => by simp [List.getElem?_drop]) (by rw [hdl]; exact hL.1) (hL.2 w' hw')
  rwa [hdl] at this) _ _ _ _ hC H
 rw [htl, show n + (l.toArray.size - n) = l.toArray.size by omega] at this
 exact this
end
def PinsOk (pins : List Nat) (D0 : Names) : Prop := ∀ n, n < top → (D0 n).isSome = true → n ∈ pins
def SatQ (w0 : World) (M0 : Nat → Prop) (D0 : Names) (Q : St → Prop) (a : Act) (w : World) : Prop := ∃ s', Q s' ∧ Sat w0 M0 D0 s' a w
def RegOk (P : Program) (pins : List Nat) (ops : Array Oper) (draw : Bool) (s : St) (Q : St → Prop) : Prop :=
 ∀ w0 M0 D0 a w, PinsOk pins D0 → Sat w0 M0 D0 s a w →
  (draw = false → ∀ rd, wpListIn (FR rd) 0 P ops (Nrm (SatQ w0 M0 D0 Q)) ops.toList a w) ∧
  (draw = true → wpAny P .any ops (Nrm (SatQ w0 M0 D0 Q)) ops.size (Array.replicate ops.size false) a { w with drawn := w.drawn + 1 })
def DefX (n : Nat) (a : Act) (w : World) : Prop := ∃ X : List Nat, a.defers = X.map (fun b => ({ target := .collected b, args := #[] } : Deferred)) ∧ X.Nodup ∧ ∀ b ∈ X, n ≤ b ∧ w.heap[b]? = some (.deferred (some []))
theorem DefX.keep {n : Nat} {a a' : Act} {w w' : World} (h : DefX n a w) (hd : a'.defers = a.defers) (k : ∀ b : Nat, w.heap[b]? = some (.deferred (some [])) → w'.heap[b]? = w.heap[b]?) : DefX n a' w' := by
 obtain ⟨X, h1, h2, h3⟩ := h
 exact ⟨X, hd.trans h1, h2, fun b hb => ⟨(h3 b hb).1, (k b (h3 b hb).2).trans (h3 b hb).2⟩⟩
theorem DefX.nil {n : Nat} {a : Act} {w : World} (h : a.defers = []) : DefX n a w := ⟨[], h, List.nodup_nil, fun _ h => by cases h⟩
section
variable {w : World} {b : Nat} {ds : Option (List Deferred)} (o' : _root_.Go.Obj) (hb : w.heap[b]? = some (.deferred ds))
include hb
theorem cell_put {c off : Nat} {v : Value} (h : w.cell? ⟨c, off, none⟩ = some v) : (w.putObj b o').cell? ⟨c, off, none⟩ = some v := by
 have hne : c ≠ b := fun e => by subst e; simp [World.cell?, hb] at h
 rw [World.cell?_of_block (w := w) (a := ⟨c, off, none⟩) (World.putObj_heap_other hne)]; exact h
theorem imm_put {M : Nat → Prop} {x : AV} {v : Value} (h : Imm w M x v) : Imm (w.putObj b o') M x v := by
 induction h with
 | any v => exact .any v
 | und => exact .und
 | int k n => exact .int k n
 | bool b => exact .bool b
 | str s hn => exact .str s hn
 | nsl => exact .nsl
 | cst v => exact .cst v
 | ifc t g l f h1 _ ih => exact .ifc t g l f h1 ih
 | slnil sz a cap => exact .slnil sz a cap
 | sl sz l b' off cap f hb' hM' hcap hn hs hc h1 _ ih =>
  exact .sl sz l b' off cap f (by rw [World.putObj_size]; exact hb') hM' hcap hn hs (fun j cs i x hj hi => cell_put o' hb (hc j cs i x hj hi)) h1 (fun j cs i x hj hi => ih j cs i x hj hi)
 | at_ cs b' off f hb' hM' hc h1 _ ih =>
  exact .at_ cs b' off f (by rw [World.putObj_size]; exact hb') hM' (fun i x hi => cell_put o' hb (hc i x hi)) h1 (fun i x hi => ih i x hi)
theorem row_put {c N : Nat} (h : World.row w c = some N) : World.row (w.putObj b o') c = some N := by
 have hne : c ≠ b := fun e => by subst e; simp [World.row, World.shape?, hb] at h
 simp only [World.row, World.shape?, World.putObj_heap_other hne] at h ⊢; exact h
theorem cellR_put {D : Names} {x : AV} {v : Value} (h : Cell w D x v) : Cell (w.putObj b o') D x v := by
 cases x with
 | msl n sz off len =>
  rcases h with h | ⟨c, cap, N, h1, h2, h3, h4, h5⟩
  ·exact .inl h
  ·exact .inr ⟨c, cap, N, h1, h2, h3, row_put o' hb h4, h5⟩
 | ref n sz i off => exact h
 | wrp f ns => exact h
 | _ => exact imm_put o' hb h
theorem valR_put {D : Names} {x : AV} {v : Value} (h : Val w D x v) : Val (w.putObj b o') D x v := by
 cases x with
 | agg l => obtain ⟨vs, h1, h2, h3⟩ := h; exact ⟨vs, h1, h2, fun i x hx => ⟨cellR_put o' hb (h3 i x hx).1, (h3 i x hx).2⟩⟩
 | _ => simp only [Val] at h ⊢; exact cellR_put o' hb h
theorem slotR_put {D : Names} {x : AV} {v : Value} (h : Slot w D x v) : Slot (w.putObj b o') D x v := by
 cases x with
 | tup l => obtain ⟨vs, h1, h2, h3⟩ := h; exact ⟨vs, h1, h2, fun i x hx => valR_put o' hb (h3 i x hx)⟩
 | _ => simp only [Slot] at h ⊢; exact valR_put o' hb h
theorem rep_put {D : Names} {o : Obj} {d : Option Nat} (h : ObjRep w D o d) : ObjRep (w.putObj b o') D o d := by
 have hne : ∀ (c : Nat) (o1 : _root_.Go.Obj), w.heap[c]? = some o1 → (∀ ds, o1 ≠ .deferred ds) → (w.putObj b o').heap[c]? = some o1 := fun c o1 h1 h2 => by
  rw [World.putObj_heap_other (fun e => by subst e; rw [hb] at h1; exact h2 ds (Option.some.inj h1).symm)]; exact h1
 cases o with
 | box cs =>
  cases d with
  | none => exact h.elim
  | some c =>
   obtain ⟨vs, T, h1, h2, h3⟩ := h
   exact ⟨vs, T, hne _ _ h1 (fun _ e => by cases e), h2, fun i x hx => ⟨cellR_put o' hb (h3 i x hx).1, (h3 i x hx).2⟩⟩
 | arr sz l =>
  cases d with
  | none => exact h
  | some c =>
   obtain ⟨vs, T, fz, h1, h2, h3, h4, h5, h6⟩ := h
   exact ⟨vs, T, fz, hne _ _ h1 (fun _ e => by cases e), h2, h3, h4, h5, fun j cs i x hj hi => ⟨imm_put o' hb (h6 j cs i x hj hi).1, (h6 j cs i x hj hi).2⟩⟩
 | mp kk k l =>
  cases d with
  | none => exact h.elim
  | some c =>
   obtain ⟨es, clock, h1, h2⟩ := h
   exact ⟨es, clock, hne _ _ h1 (fun _ e => by cases e), h2⟩
theorem sat_put {w0 : World} {M0 : Nat → Prop} {D0 : Names} {s : St} {a : Act} (hn : w0.heap.size ≤ b) (h : Sat w0 M0 D0 s a w) : Sat w0 M0 D0 s a (w.putObj b o') := by
 obtain ⟨hd, D, hm, he, hp⟩ := h
 refine ⟨hd, D, ⟨hm.dom, hm.small, fun n o d h1 h2 => rep_put o' hb (hm.rep n o d h1 h2), hm.inj, fun c hc => by rw [World.putObj_size]; exact hm.lt c hc, hm.own, ?_, hm.os, hm.tape, hm.output, fun g cs hg => ?_⟩, ⟨he.1, fun i x hx => slotR_put o' hb (he.2 i x hx)⟩, hp⟩
 ·refine ⟨⟨by rw [World.putObj_size]; exact hm.grow.size, fun c hc hM => ?_⟩, fun c hc => ?_⟩
  ·rw [World.putObj_heap_other (by omega)]; exact hm.grow.same c hc hM
  ·rw [← hm.grow.row c hc]
   have hne : c ≠ b := by omega
   simp only [World.row, World.shape?, World.putObj_heap_other hne]
 ·obtain ⟨h1, h2, f, h3⟩ := hm.glob g cs hg
  exact ⟨by rw [World.putObj_size]; exact h1, h2, f, fun i x hx => ⟨cell_put o' hb (h3 i x hx).1, imm_put o' hb (h3 i x hx).2.1, (h3 i x hx).2.2⟩⟩
end
theorem leaves_sat {P : Program} {fn : Func} {tmps : Array Value} {R : Ending → World → Prop} {w0 : World} {M0 : Nat → Prop} {D0 : Names} {s : St} {al a : Act} {w : World} (hx : DefX w0.heap.size a w) (hs : Sat w0 M0 D0 s al w)
  (h : ∀ w', Sat w0 M0 D0 s al w' → ∃ v, (results fn tmps).run P w' = .ok v w' ∧ R (.returned v) w') : LeavesInM (FR none) 0 P fn tmps R a.defers .returning w := by
 obtain ⟨X, h1, h2, h3⟩ := hx
 rw [h1]
 clear h1
 induction X generalizing w with
 | nil => exact h w hs
 | cons b X ih =>
  obtain ⟨k1, k2⟩ := h3 b (List.mem_cons_self ..)
  rw [List.nodup_cons] at h2
  refine ⟨by simp, .inl ⟨b, _, rfl, run_takeDeferred k2, ?_⟩⟩
  refine ih (sat_put _ k2 k1 hs) h2.2 fun c hc => ⟨(h3 c (List.mem_cons_of_mem _ hc)).1, ?_⟩
  rw [World.putObj_heap_other (fun e => by subst e; exact h2.1 hc)]
  exact (h3 c (List.mem_cons_of_mem _ hc)).2
theorem rep_not_def {w : World} {D : Names} {o : Obj} {b : Nat} (h : ObjRep w D o (some b)) {ds : Option (List Deferred)} (hb : w.heap[b]? = some (.deferred ds)) : False := by
 cases o with
 | box cs => obtain ⟨vs, T, h1, _⟩ := h; rw [hb] at h1; cases h1
 | arr sz l => obtain ⟨vs, T, fz, h1, _⟩ := h; rw [hb] at h1; cases h1
 | mp kk k l => obtain ⟨es, c, h1, _⟩ := h; rw [hb] at h1; cases h1
theorem Sat.base {w0 : World} {M0 : Nat → Prop} {D0 : Names} {s : St} {a : Act} {w : World} (h : Sat w0 M0 D0 s a w) : ∃ M' : Nat → Prop, (∀ b ds, w.heap[b]? = some (.deferred ds) → ¬ M' b) ∧ Sat w M' D0 s a w ∧
  ∀ s' a' w', Sat w M' D0 s' a' w' → Sat w0 M0 D0 s' a' w' ∧ Keep w w' M' := by
 obtain ⟨hd, D, hm, he, hp⟩ := h
 refine ⟨D.N, fun b ds hb hN => ?_, ⟨hd, D, ⟨hm.dom, hm.small, hm.rep, hm.inj, hm.lt, fun b hb => .inl hb, .refl w _, rfl, rfl, rfl, hm.glob⟩, he, hp⟩, fun s' a' w' hs => ?_⟩
 ·obtain ⟨n, hn, hD⟩ := hN
  have h1 := hm.dom n hn
  rw [hD] at h1
  obtain ⟨o, ho⟩ := Option.isSome_iff_exists.1 h1.symm
  exact rep_not_def (hm.rep n o (some b) ho hD) hb
 ·obtain ⟨hd', D', hm', he', hp'⟩ := hs
  refine ⟨⟨hd', D', ⟨hm'.dom, hm'.small, hm'.rep, hm'.inj, hm'.lt, fun b hb => ?_, ?_, hm'.os.trans hm.os, hm'.tape.trans hm.tape, hm'.output.trans hm.output, hm'.glob⟩, he', hp'⟩, hm'.grow.toKeep⟩
  ·rcases hm'.own b hb with h | h
   ·exact hm.own b h
   ·exact .inr (Nat.le_trans hm.grow.size h)
  ·exact hm.grow.trans hm'.grow (fun x hx hD => by
    rcases hm.own x hD with h | h
    ·exact h
    ·omega)
def XWP (P : Program) (k : Nat) (tp : Bool) (pins : List Nat) (c : Code) (Q : Exit → St → Prop) (s : St) : Prop :=
 ∀ rd g w0 M0 D0 a w, (tp = true → rd = none) → g.size = k → PinsOk pins D0 → DefX w0.heap.size a w → Sat w0 M0 D0 s (ext g a) w → c.wpIn (FR rd) 0 P (fun e a' w' => DefX w0.heap.size a' w' ∧ ∃ s', Q e s' ∧ Sat w0 M0 D0 s' (ext g a') w') a w
section
variable {P : Program} {k : Nat} {tp : Bool} {pins : List Nat} {Q Q' : Exit → St → Prop} {s s' : St}
theorem XWP.mono {c : Code} (h : XWP P k tp pins c Q s) (hq : ∀ e s, Q e s → Q' e s) : XWP P k tp pins c Q' s :=
 fun rd g w0 M0 D0 a w ht hg hp hx hs => Code.wpIn_mono (fun _ _ _ ⟨h0, s', h1, h2⟩ => ⟨h0, s', hq _ _ h1, h2⟩) (h rd g w0 M0 D0 a w ht hg hp hx hs)
theorem xwp_skip (h : Q .normal s) : XWP P k tp pins .skip Q s := fun _ _ _ _ _ _ _ _ _ _ hx hs => wpIn_skip ⟨hx, s, h, hs⟩
theorem xwp_ret (h : Q .ret s) : XWP P k tp pins .ret Q s := fun _ _ _ _ _ _ _ _ _ _ hx hs => wpIn_ret ⟨hx, s, h, hs⟩
theorem xwp_exit {id : Nat} (h : Q (.exit id) s) : XWP P k tp pins (.exit id) Q s := fun _ _ _ _ _ _ _ _ _ _ hx hs => wpIn_exit ⟨hx, s, h, hs⟩
def xseqQ (P : Program) (k : Nat) (tp : Bool) (pins : List Nat) (y : Code) (Q : Exit → St → Prop) : Exit → St → Prop
 | .normal, s => XWP P k tp pins y Q s
 | e, s => Q e s
theorem xwp_seq {x y : Code} (h : XWP P k tp pins x (xseqQ P k tp pins y Q) s) : XWP P k tp pins (.seq x y) Q s := by
 intro rd g w0 M0 D0 a w ht hg hp hx hs
 refine wpIn_seq (Code.wpIn_mono ?_ (h rd g w0 M0 D0 a w ht hg hp hx hs))
 rintro e a' w' ⟨h0, s', h1, h2⟩
 cases e with
 | normal => exact h1 rd g w0 M0 D0 a' w' ht hg hp h0 h2
 | _ => exact ⟨h0, s', h1, h2⟩
theorem xwp_block {id : Nat} {x : Code} (h : XWP P k tp pins x (blockQ id Q) s) : XWP P k tp pins (.block id x) Q s := by
 intro rd g w0 M0 D0 a w ht hg hp hx hs
 refine wpIn_block (Code.wpIn_mono ?_ (h rd g w0 M0 D0 a w ht hg hp hx hs))
 rintro e a' w' ⟨h0, s', h1, h2⟩
 cases e with
 | exit i =>
  simp only [blockQ] at h1
  simp only [Exit.inBlock]
  split
  ·rename_i hi; rw [if_pos hi] at h1; exact ⟨h0, s', h1, h2⟩
  ·rename_i hi; rw [if_neg hi] at h1; exact ⟨h0, s', h1, h2⟩
 | _ => exact ⟨h0, s', h1, h2⟩
theorem xwp_cond {c : Operand} {x y : Code} {t : Bool} (hc : ev s.env (shX k c) = .bool t) (ht : t = true → XWP P k tp pins x Q s) (hf : t = false → XWP P k tp pins y Q s) : XWP P k tp pins (.cond c x y) Q s := by
 intro rd g w0 M0 D0 a w htp hg hp hx hs
 have hs0 := hs
 obtain ⟨hd, D, hm, he, hpin⟩ := hs
 have hv := ev_sound hm.glob he (shX k c)
 rw [hc, ← hg, ext_eval] at hv
 refine wpIn_cond_split (slot_bool hv) (fun h => ht h rd g w0 M0 D0 a w htp hg hp hx hs0) (fun h => hf h rd g w0 M0 D0 a w htp hg hp hx hs0)
theorem xwp_weaken {c : Code} (hw : Weaker pins s s') (h : XWP P k tp pins c Q s') : XWP P k tp pins c Q s :=
 fun rd g w0 M0 D0 a w ht hg hp hx hs => h rd g w0 M0 D0 a w ht hg hp hx (hw w0 M0 D0 _ w hp hs)
theorem xwp_loop {c : Code} (I : Nat → St → Prop) {n : Nat} (h0 : I n s) (hr : ∀ n s, I n s → XWP P k tp pins c (loopQ I n Q) s) : XWP P k tp pins (.loop c) Q s := by
 intro rd g w0 M0 D0 a w ht hg hp hx hs
 let R : Act → World → Nat → Prop := fun a w n => DefX w0.heap.size a w ∧ ∃ s, I n s ∧ Sat w0 M0 D0 s (ext g a) w
 refine wpIn_loop (fun a w => ∃ n, R a w n) (fun a w => leastN (R a w)) ⟨n, hx, s, h0, hs⟩ fun a w hI => ?_
 obtain ⟨⟨hx1, s1, hI1, hs1⟩, _⟩ := leastN_spec hI
 refine Code.wpIn_mono ?_ (hr _ s1 hI1 rd g w0 M0 D0 a w ht hg hp hx1 hs1)
 rintro e a' w' ⟨hx2, s', h1, h2⟩
 cases e with
 | normal =>
  obtain ⟨m, hm, hI'⟩ := h1
  exact ⟨⟨m, hx2, s', hI', h2⟩, Nat.lt_of_le_of_lt ((leastN_spec ⟨m, hx2, s', hI', h2⟩).2 m ⟨hx2, s', hI', h2⟩) hm⟩
 | _ => exact ⟨hx2, s', h1, h2⟩
def noDef (ops : Array Oper) : Bool := ops.toList.all fun o => !isDef o
theorem noDef_spec {ops : Array Oper} (h : noDef ops = true) : ∀ (j : Nat) (o : Oper), ops[j]? = some o → isDef o = false := fun j o ho => by
 have := List.all_eq_true.1 h o (by simpa using Array.mem_of_getElem? ho)
 simpa using this
theorem sel_sh {k : Nat} {ops : Array Oper} (hs : Region.noSelect (shOs k ops) = true) : ∀ (j : Nat) (o : Oper) cs b, ops[j]? = some o → o.op ≠ .select cs b := by
 intro j o cs b hj ho
 refine Region.noSelect_spec hs j (shO k o) cs b (by rw [shOs_get, hj]; rfl) ?_
 simp only [shO, ho, shOp]
theorem isDef_sh (k : Nat) (o : Oper) : isDef (shO k o) = isDef o := by
 obtain ⟨dst, op, ty, pos, aft, guard⟩ := o
 cases op <;> rfl
theorem xwp_region {id : Nat} {ops : Array Oper} {draw : Bool} {R : St → Prop} (hm : P.follows .mixedOrders = true) (hs : Region.noSelect (shOs k ops) = true) (hnd : noDef (shOs k ops) = true) (h : RegOk P pins (shOs k ops) draw s R) (hq : ∀ s, R s → Q .normal s) : XWP P k tp pins (.region id ops draw) Q s := by
 intro rd g w0 M0 D0 a w _ hg hp hx hsat
 have hsel := sel_sh hs
 have hdf : ∀ (j : Nat) (o : Oper), ops[j]? = some o → isDef o = false := fun j o hj => by
  have := noDef_spec hnd j (shO k o) (by rw [shOs_get, hj]; rfl)
  rwa [isDef_sh] at this
 subst hg
 obtain ⟨M', hM, hsat', hback⟩ := hsat.base
 have fin : ∀ e a' w', Nrm (fun a' w' => a'.defers = a.defers ∧ SatQ w M' D0 R (ext g a') w') e a' w' → DefX w0.heap.size a' w' ∧ ∃ s', Q e s' ∧ Sat w0 M0 D0 s' (ext g a') w' := by
  rintro e a' w' ⟨rfl, hd, s', h1, h2⟩
  obtain ⟨k1, k2⟩ := hback _ _ _ h2
  exact ⟨hx.keep hd fun b hb => k2.same b (Array.getElem?_eq_some_iff.1 hb).1 (hM b _ hb), s', hq _ h1, k1⟩
 have hR : ∀ dl a' w', a'.defers = dl ++ a.defers → SatQ w M' D0 R (extd g dl a') w' → a'.defers = a.defers ∧ SatQ w M' D0 R (ext g a') w' := by
  rintro dl a' w' hd ⟨s', h1, h2⟩
  have : dl = [] := h2.1
  subst this
  exact ⟨hd, s', h1, h2⟩
 obtain ⟨h1, h2⟩ := h w M' D0 _ w hp hsat'
 cases draw with
 | false =>
  refine Code.wpIn_mono fin (wpIn_region_list (wpListIn_ext (R' := SatQ w M' D0 R) hR ops.toList (fun o ho => ?_) [] a w rfl ?_))
  ·obtain ⟨j, hj⟩ := List.getElem?_of_mem ho
   exact ⟨fun cs b => hsel j o cs b (by simpa using hj), hdf j o (by simpa using hj)⟩
  ·have := h1 rfl rd
   simpa [shOs] using this
 | true =>
  refine Code.wpIn_mono fin (wpIn_region_any hm (wpAnyIn_ext (fun j o ho => ⟨fun cs b => hsel j o cs b ho, hdf j o ho⟩) (R' := SatQ w M' D0 R) hR _ _ [] a _ rfl ?_))
  have := wpAnyIn_of (rd := rd) (noDef_spec hnd) _ _ _ _ (h2 rfl)
  have e : (shOs g.size ops).size = ops.size := by simp [shOs]
  rw [e] at this
  exact this
end
theorem shX_zero (x : Operand) : shX 0 x = x := by cases x <;> simp [shX]
theorem shA_zero (l : Array Operand) : shA 0 l = l := by
 rw [shA, map_toArray, show shX 0 = id from funext shX_zero, Array.map_id]
theorem shP_zero (l : Array (Nat × Operand)) : shP 0 l = l := by
 rw [shP, map_toArray]
 have : (fun p : Nat × Operand => (p.1, shX 0 p.2)) = id := funext fun p => by rw [shX_zero]; rfl
 rw [this, Array.map_id]
theorem shCall_zero (c : Call) : shCall 0 c = c := by
 obtain ⟨callee, args, tys⟩ := c
 cases callee <;> simp only [shCall, shA_zero, shX_zero]
theorem shOp_zero (o : Op) : shOp 0 o = o := by
 have hm : ∀ r : Option Operand, r.map (shX 0) = r := fun r => by cases r <;> simp [shX_zero]
 cases o <;> simp only [shOp, shX_zero, shA_zero, shP_zero, shCall_zero, hm]
theorem shO_zero (o : Oper) : shO 0 o = o := by
 obtain ⟨dst, op, ty, pos, aft, guard⟩ := o
 have : dst.map (0 + ·) = dst := by cases dst <;> simp
 simp only [shO, shOp_zero, this]
theorem shC_zero : ∀ c : Code, shC 0 c = c
 | .region id ops draw => by
  have : shOs 0 ops = ops := by rw [shOs, map_toArray, show shO 0 = _root_.id from funext shO_zero, Array.map_id]
  simp only [shC, this]
 | .seq a b => by simp only [shC, shC_zero a, shC_zero b]
 | .cond c a b => by simp only [shC, shX_zero, shC_zero a, shC_zero b]
 | .block id a => by simp only [shC, shC_zero a]
 | .loop a => by simp only [shC, shC_zero a]
 | .skip => rfl
 | .exit _ => rfl
 | .ret => rfl
 | .rangeFunc .. => rfl
 | .scope .. => rfl
 | .label .. => rfl
 | .goto .. => rfl
 | .refuse .. => rfl
end Go.Abs
namespace Go.Abs
open Go.RowKit
mutual
def Ty.beq : Ty → Ty → Bool
  | .int k, .int k' => decide (k = k')
  | .bool, .bool => true
  | .str, .str => true
  | .sl a, .sl b => a.beq b
  | _, _ => false
def Tys.beq : Tys → Tys → Bool
  | .nil, .nil => true
  | .cons t ts, .cons u us => t.beq u && ts.beq us
  | _, _ => false
end
mutual
theorem Ty.beq_eq : ∀ (t u : Ty), t.beq u = true → t = u
  | .int k, .int k', h => by simp only [Ty.beq, decide_eq_true_eq] at h; rw [h]
  | .bool, .bool, _ => rfl
  | .str, .str, _ => rfl
  | .sl a, .sl b, h => by simp only [Ty.beq] at h; rw [Tys.beq_eq a b h]
  | .int _, .bool, h => by simp [Ty.beq] at h
  | .int _, .str, h => by simp [Ty.beq] at h
  | .int _, .sl _, h => by simp [Ty.beq] at h
  | .bool, .int _, h => by simp [Ty.beq] at h
  | .bool, .str, h => by simp [Ty.beq] at h
  | .bool, .sl _, h => by simp [Ty.beq] at h
  | .str, .int _, h => by simp [Ty.beq] at h
  | .str, .bool, h => by simp [Ty.beq] at h
  | .str, .sl _, h => by simp [Ty.beq] at h
  | .sl _, .int _, h => by simp [Ty.beq] at h
  | .sl _, .bool, h => by simp [Ty.beq] at h
  | .sl _, .str, h => by simp [Ty.beq] at h
theorem Tys.beq_eq : ∀ (t u : Tys), t.beq u = true → t = u
  | .nil, .nil, _ => rfl
  | .cons t ts, .cons u us, h => by
    simp only [Tys.beq, Bool.and_eq_true] at h
    rw [Ty.beq_eq t u h.1, Tys.beq_eq ts us h.2]
  | .nil, .cons _ _, h => by simp [Tys.beq] at h
  | .cons _ _, .nil, h => by simp [Tys.beq] at h
end
inductive KV where
  | int (k : IntKind) (n : Int)
  | bool (b : Bool)
  | str (s : List UInt8)
  | sl (ts : Tys) (l : List ts.T)
inductive KC where
  | nilP
  | nilF
  | nilI
  | fn (f : FuncId)
  deriving DecidableEq
def KC.val : KC → Value
  | .nilP => .pointer none
  | .nilF => .nilFunc
  | .nilI => .nilIface
  | .fn f => .func (.func f) #[] #[]
inductive CV where
  | any
  | und
  | nsl
  | k (v : KV)
  | own (n : Nat)
  | msl (n sz off len : Nat)
  | at_ (cs : List KV)
  | ref (n sz i off : Nat)
  | raw (a : AV)
  | cst (c : KC)
  | wrp (f : Option FuncId × TypeId) (ns : List (Nat × Nat))
  | ifc (t : TypeId) (g : Bool) (l : List KV)
  | gar (ts : Tys) (l : List ts.T)
inductive VV where
  | c (x : CV)
  | g (l : List CV)
inductive SV where
  | v (x : VV)
  | tup (l : List VV)
inductive SO where
  | box (cs : List CV)
  | arr (ts : Tys) (l : List ts.T)
  | mp (kk k : IntKind) (l : List (Int × Int))
def SV.any : SV := .v (.c .any)
def SV.und : SV := .v (.c .und)
def SV.kv (x : KV) : SV := .v (.c (.k x))
def SV.bool (b : Bool) : SV := .kv (.bool b)
def Ty.kv : (t : Ty) → t.T → KV
  | .int k, n => .int k n
  | .bool, b => .bool b
  | .str, s => .str s
  | .sl ts, l => .sl ts l
def Tys.kvs : (ts : Tys) → ts.T → List KV
  | .nil, _ => []
  | .cons t ts, x => t.kv x.1 :: ts.kvs x.2
def Ty.zc : Ty → CV
  | .int k => .k (.int k 0)
  | .bool => .k (.bool false)
  | .str => .k (.str [])
  | .sl _ => .nsl
def Tys.zc : Tys → List CV
  | .nil => []
  | .cons t ts => t.zc :: ts.zc
def KV.to : (t : Ty) → KV → Option t.T
  | .int k, .int k' n => if k = k' then some n else none
  | .bool, .bool b => some b
  | .str, .str s => some s
  | .sl ts, .sl us l => if h : us.beq ts = true then some (Tys.beq_eq us ts h ▸ l) else none
  | _, _ => none
abbrev SObjs := List (Nat × SO)
def lookS (n : Nat) : SObjs → Option SO
  | [] => none
  | (m, o) :: r => if m = n then some o else lookS n r
def dropS (n : Nat) : SObjs → SObjs
  | [] => []
  | (m, o) :: r => if m = n then dropS n r else (m, o) :: dropS n r
def updS (n : Nat) (o : SO) : SObjs → SObjs
  | [] => []
  | (m, p) :: r => if m = n then (m, o) :: updS n o r else (m, p) :: updS n o r
def KV.av : KV → AV
  | .int k n => .int k n
  | .bool b => .bool b
  | .str s => .str s
  | .sl ts l => .sl ts.len (l.map ts.avs)
def CV.av (O : SObjs) : CV → AV
  | .any => .any
  | .und => .und
  | .nsl => .nsl
  | .k v => v.av
  | .own n => match lookS n O with
    | some (.arr ts l) => .msl n ts.len 0 l.length
    | _ => .any
  | .msl n sz off len => .msl n sz off len
  | .at_ cs => .at_ (cs.map KV.av)
  | .ref n sz i off => .ref n sz i off
  | .raw a => match a with | .sl sz l => .sl sz l | _ => .any
  | .cst c => .cst c.val
  | .wrp f ns => .wrp (f.1.map Fn.func, f.2) (ns.map (·.1))
  | .ifc t g l => .ifc t g (l.map KV.av)
  | .gar ts l => .at_ (l.flatMap ts.avs)
def VV.av (O : SObjs) : VV → AV
  | .c x => x.av O
  | .g l => .agg (l.map (CV.av O))
def SV.av (O : SObjs) : SV → AV
  | .v x => x.av O
  | .tup l => .tup (l.map (VV.av O))
def SO.av (O : SObjs) : SO → Obj
  | .box cs => .box (cs.map (CV.av O))
  | .arr ts l => .arr ts.len (l.map ts.avs)
  | .mp kk k l => .mp kk k l
structure SS where
  env : List (Nat × SV)
  objs : SObjs
def lkE : List (Nat × SV) → Nat → SV
  | [], _ => .any
  | (m, x) :: r, n => if m = n then x else lkE r n
def SS.get (N : Nat) (s : SS) (t : Nat) : SV := if t < N then lkE s.env t else .any
def objsAV (O : SObjs) : SObjs → List (Nat × Obj)
  | [] => []
  | (n, o) :: r => (n, o.av O) :: objsAV O r
def SS.st (N : Nat) (s : SS) : St := ⟨(List.range N).map fun i => (lkE s.env i).av s.objs, objsAV s.objs s.objs⟩
def SS.put (s : SS) : Option Tmp → SV → SS
  | some d, x => ⟨(d, x) :: s.env, s.objs⟩
  | none, _ => s
inductive TD where
  | int (k : IntKind)
  | bool
  | str
  | slice (ts : Tys) (bytes : Nat)
  | struct (ts : Tys) (fs : List (Nat × Bool × Nat)) (eq : Bool)
  | arr (n : Nat) (ts : Tys)
  | nl (c : KC)
  | map (kk k : IntKind)
def lkT : List (Nat × TD) → Nat → Option TD
  | [], _ => none
  | (m, x) :: r, n => if m = n then some x else lkT r n
def TD.cell : TD → Bool × Nat
  | .struct ts _ _ => (true, ts.len)
  | .arr n ts => (true, n * ts.len)
  | _ => (false, 1)
end Go.Abs
namespace Go.Abs
open Go.RowKit
def iAdd (a b : Int) : Int := a + b
def iSub (a b : Int) : Int := a - b
def iMul (a b : Int) : Int := a * b
def iQuo (a b : Int) : Int := a.tdiv b
def iRem (a b : Int) : Int := a.tmod b
def iWrap (k : IntKind) (a : Int) : Int := k.wrap a
def iAnd (k : IntKind) (a b : Int) : Int := k.wrap (BitVec.ofInt k.bits a &&& BitVec.ofInt k.bits b).toNat
def iOr (k : IntKind) (a b : Int) : Int := k.wrap (BitVec.ofInt k.bits a ||| BitVec.ofInt k.bits b).toNat
def iXor (k : IntKind) (a b : Int) : Int := k.wrap (BitVec.ofInt k.bits a ^^^ BitVec.ofInt k.bits b).toNat
def iAndNot (k : IntKind) (a b : Int) : Int := k.wrap (BitVec.ofInt k.bits a &&& ~~~ BitVec.ofInt k.bits b).toNat
def iShl (k : IntKind) (a b : Int) : Int := k.wrap (a * 2 ^ (min b.toNat k.bits))
def iShr (k : IntKind) (a b : Int) : Int := a.fdiv (2 ^ (min b.toNat k.bits))
def iNeg (a : Int) : Int := 0 - a
def iMax (a b : Int) : Int := if b > a then b else a
def iMin (a b : Int) : Int := if b < a then b else a
def bEq (a b : Int) : Bool := a == b
def bNe (a b : Int) : Bool := a != b
def bLt (a b : Int) : Bool := decide (a < b)
def bLe (a b : Int) : Bool := decide (a ≤ b)
def bNot (a : Bool) : Bool := !a
def bAnd (a b : Bool) : Bool := a && b
def bOr (a b : Bool) : Bool := a || b
def bIs (a b : Bool) : Bool := a == b
def sIs (a b : List UInt8) : Bool := a == b
def nLe (a b : Nat) : Bool := decide (a ≤ b)
def nEq (a b : Nat) : Bool := decide (a = b)
def lLen {α : Type} (l : List α) : Nat := l.length
def iLen {α : Type} (l : List α) : Int := l.length
def iNat (n : Nat) : Int := n
def nInt (n : Int) : Nat := n.toNat
def nAdd (a b : Nat) : Nat := a + b
def nSub (a b : Nat) : Nat := a - b
def nMul (a b : Nat) : Nat := a * b
def lApp {α : Type} (a b : List α) : List α := a ++ b
def lSet {α : Type} (l : List α) (n : Nat) (x : α) : List α := l.set n x
def lRep {α : Type} (n : Nat) (x : α) : List α := List.replicate n x
def lGet {α : Type} (l : List α) (n : Nat) (d : α) : α := l.getD n d
def lSub {α : Type} (l : List α) (off len : Nat) : List α := (l.drop off).take len
def br {α : Type} (b : Bool) (x y : α) : α := if b = true then x else y
def obind {α β : Type} (x : Option α) (f : α → Option β) : Option β := x.bind f
def lAt {α : Type} (d : α) (l : List α) (n : Int) : α := l.getD n.toNat d
def sAt (s : List UInt8) (n : Int) : Int := (s.getD n.toNat 0).toNat
def inR (n : Int) (len : Nat) : Bool := decide (0 ≤ n) && decide (n < len)
def cutL {α : Type} (l : List α) (lo hi : Int) : List α := (l.drop lo.toNat).take (hi.toNat - lo.toNat)
def inCut (lo hi : Int) (len : Nat) : Bool := decide (0 ≤ lo) && (decide (lo ≤ hi) && decide (hi ≤ len))
def asK : SV → Option KV
 | .v (.c (.k x)) => some x
 | _ => none
def asC : SV → Option CV
 | .v (.c x) => some x
 | _ => none
def asI : SV → Option Int
 | .v (.c (.k (.int _ n))) => some n
 | _ => none
def ofCS : Value → CV
 | .int k n => .k (.int k n)
 | .bool b => .k (.bool b)
 | .string s => if s.size ≤ lim then .k (.str s.data.toList) else .any
 | .slice none 0 0 => .nsl
 | .pointer none => .cst .nilP
 | .nilFunc => .cst .nilF
 | .nilIface => .cst .nilI
 | _ => .any
def ofVS : Value → SV
 | .agg cs => if cs.toList.all (·.oneCell') then .v (.g (cs.toList.map ofCS)) else .any
 | v => .v (.c (ofCS v))
abbrev MTab := List ((TypeId × String) × (FuncId × Option (Bool × Nat)))
def lkM : MTab → TypeId → String → Option (FuncId × Option (Bool × Nat))
 | [], _, _ => none
 | ((t', n'), r) :: l, t, n => if t' = t ∧ n' = n then some r else lkM l t n
structure Cfg where
 G : List (Nat × TD)
 N : Nat
 fuel : Nat
 M : MTab
def sev (C : Cfg) (s : SS) : Operand → SV
 | .tmp t => s.get C.N t
 | .const v => ofVS v
 | .func f => .v (.c (.cst (.fn f)))
 | .global g => match lkGS gtabS g with
  | some e => match e with
   | ⟨ts, [x]⟩ => .v (.c (.at_ (ts.kvs x)))
   | ⟨ts, l⟩ => .v (.c (.gar ts l))
  | none => .any
def sib (op : BinOp) (k : IntKind) (a b : Int) : Option (List Bool × KV) :=
 match op with
 | .add => some ([], .int k (iWrap k (iAdd a b)))
 | .sub => some ([], .int k (iWrap k (iSub a b)))
 | .mul => some ([], .int k (iWrap k (iMul a b)))
 | .quo => some ([bNe b 0], .int k (iWrap k (iQuo a b)))
 | .rem => some ([bNe b 0], .int k (iRem a b))
 | .and => some ([], .int k (iAnd k a b))
 | .or => some ([], .int k (iOr k a b))
 | .xor => some ([], .int k (iXor k a b))
 | .andNot => some ([], .int k (iAndNot k a b))
 | .shl => some ([bLe 0 b], .int k (iShl k a b))
 | .shr => some ([bLe 0 b], .int k (iShr k a b))
 | .eql => some ([], .bool (bEq a b))
 | .neq => some ([], .bool (bNe a b))
 | .lss => some ([], .bool (bLt a b))
 | .leq => some ([], .bool (bLe a b))
 | .gtr => some ([], .bool (bLt b a))
 | .geq => some ([], .bool (bLe b a))
def ssb (op : BinOp) (a b : List UInt8) : Option (List Bool × KV) :=
 match op with
 | .add => some ([nLe (nAdd (lLen a) (lLen b)) lim], .str (lApp a b))
 | .eql => some ([], .bool (sIs a b))
 | .neq => some ([], .bool (bNot (sIs a b)))
 | .lss => some ([], .bool (Op.bytesLess a b))
 | .leq => some ([], .bool (bOr (Op.bytesLess a b) (sIs a b)))
 | .gtr => some ([], .bool (bNot (bOr (Op.bytesLess a b) (sIs a b))))
 | .geq => some ([], .bool (bNot (Op.bytesLess a b)))
 | _ => none
def seqL : Tys → List CV → List CV → Option Bool
 | .nil, [], [] => some true
 | .cons (.int k) ts, .k (.int k1 a) :: xs, .k (.int k2 b) :: ys => if k1 = k ∧ k2 = k then (match seqL ts xs ys with
  | some q => some (bAnd (bEq a b) q)
  | none => none) else none
 | .cons .bool ts, .k (.bool a) :: xs, .k (.bool b) :: ys => match seqL ts xs ys with
  | some q => some (bAnd (bIs a b) q)
  | none => none
 | .cons .str ts, .k (.str a) :: xs, .k (.str b) :: ys => match seqL ts xs ys with
  | some q => some (bAnd (sIs a b) q)
  | none => none
 | _, _, _ => none
def sbop (G : List (Nat × TD)) (T : TypeId) (op : BinOp) (x y : SV) : Option (List Bool × KV) :=
 match x, y with
 | .v (.c (.k a)), .v (.c (.k b)) => match a, b with
  | .int k a, .int k' b => if isShift op = true ∨ k = k' then sib op k a b else none
  | .str a, .str b => ssb op a b
  | .bool a, .bool b => match lkT G T, op with
   | some .bool, .eql => some ([], .bool (bIs a b))
   | some .bool, .neq => some ([], .bool (bNot (bIs a b)))
   | _, _ => none
  | _, _ => none
 | .v (.g a), .v (.g b) => match lkT G T, op with
  | some (.struct ts _ true), .eql => (seqL ts a b).map fun r => ([], .bool r)
  | some (.struct ts _ true), .neq => (seqL ts a b).map fun r => ([], .bool (bNot r))
  | _, _ => none
 | _, _ => none
def suop (op : UnOp) (x : KV) : Option KV :=
 match op, x with
 | .not, .bool b => some (.bool (bNot b))
 | .neg, .int k n => some (.int k (iWrap k (iNeg n)))
 | .xor, .int k n => some (.int k (iXor k (if k.signed then -1 else k.max) n))
 | _, _ => none
def byteTs : Tys := .cons (.int .u8) .nil
def isBytes (G : List (Nat × TD)) (T : TypeId) : Bool := match lkT G T with | some (.slice ts _) => ts.beq byteTs | _ => false
def toBytes (l : List byteTs.T) : List UInt8 := l.map fun x => UInt8.ofNat (x.1 : Int).toNat
def ofBytes (s : List UInt8) : List byteTs.T := s.map fun b => ((b.toNat : Int), ())
def sView (O : SObjs) (ts : Tys) : SV → Option (List Bool × List ts.T)
 | .v (.c .nsl) => some ([], [])
 | .v (.c (.k (.sl us l))) => if h : us.beq ts = true then some ([], Tys.beq_eq us ts h ▸ l) else none
 | .v (.c (.own n)) => match lookS n O with
  | some (.arr us l) => if h : us.beq ts = true then some ([], Tys.beq_eq us ts h ▸ l) else none
  | _ => none
 | .v (.c (.msl n sz off len)) => match lookS n O with
  | some (.arr us l) => if h : us.beq ts = true then (if sz = ts.len then some ([nLe (nAdd off len) (lLen l)], lSub (Tys.beq_eq us ts h ▸ l : List ts.T) off len) else none) else none
  | _ => none
 | _ => none
def isSliceTD : Option TD → Bool
 | some (.slice _ _) => true
 | _ => false
def slen (O : SObjs) (D : Option TD) : SV → Option Int
 | .v (.c (.k (.str s))) => match D with | some .str => some (iLen s) | _ => none
 | .v (.c (.k (.sl _ l))) => if isSliceTD D then some (iLen l) else none
 | .v (.c .nsl) => if isSliceTD D then some 0 else none
 | .v (.c (.own n)) => match lookS n O with
  | some (.arr _ l) => if isSliceTD D then some (iLen l) else none
  | _ => none
 | .v (.c (.msl _ _ _ len)) => if isSliceTD D then some (iNat len) else none
 | _ => none
def sbnd (C : Cfg) (s : SS) (d : Int) : Option Operand → Option Int
 | none => some d
 | some o => asI (sev C s o)
def sslc (C : Cfg) (s : SS) (T : TypeId) (x : SV) (lo hi : Option Operand) : Option (List Bool × CV) :=
 match x with
 | .v (.c (.k (.str b))) => match lkT C.G T, sbnd C s 0 lo, sbnd C s (iLen b) hi with
  | some .str, some l, some h => some ([inCut l h (lLen b)], .k (.str (cutL b l h)))
  | _, _, _ => none
 | .v (.c (.k (.sl us b))) => match lkT C.G T, sbnd C s 0 lo, sbnd C s (iLen b) hi with
  | some (.slice ts _), some l, some h => if us.len = ts.len then some ([inCut l h (lLen b)], .k (.sl us (cutL b l h))) else none
  | _, _, _ => none
 | .v (.c .nsl) => match lkT C.G T, sbnd C s 0 lo, sbnd C s 0 hi with
  | some (.slice _ _), some l, some h => some ([inCut l h 0], .nsl)
  | _, _, _ => none
 | .v (.c (.own n)) => match lookS n s.objs with
  | some (.arr us b) => match lkT C.G T, sbnd C s 0 lo, sbnd C s (iLen b) hi with
   | some (.slice ts _), some l, some h => if us.len = ts.len then some ([inCut l h (lLen b)], .msl n us.len (nInt l) (nSub (nInt h) (nInt l))) else none
   | _, _, _ => none
  | _ => none
 | .v (.c (.msl n sz off len)) => match lkT C.G T, sbnd C s 0 lo, sbnd C s (iNat len) hi with
  | some (.slice ts _), some l, some h => if sz = ts.len then some ([inCut l h len], .msl n sz (nAdd off (nInt l)) (nSub (nInt h) (nInt l))) else none
  | _, _, _ => none
 | .v (.c (.ref n sz 0 0)) => match lookS n s.objs, lkT C.G T, lo, hi with
  | some (.arr us b), some (.arr len ts), none, none => if us.len = ts.len ∧ sz = ts.len then some ([nEq (lLen b) len], .own n) else none
  | some (.arr us b), some (.arr len ts), lo, hi => match sbnd C s 0 lo, sbnd C s (iNat len) hi with
   | some l, some h => if us.len = ts.len ∧ sz = ts.len then some ([nEq (lLen b) len, inCut l h len], .msl n sz (nInt l) (nSub (nInt h) (nInt l))) else none
   | _, _ => none
  | _, _, _, _ => none
 | _ => none
def sslc3 (C : Cfg) (s : SS) (T : TypeId) (x : SV) (lo : Option Operand) (hi mx : Operand) : Option (List Bool × CV) := match x with
 | .v (.c (.own n)) => match lookS n s.objs with
  | some (.arr us b) => match lkT C.G T, sbnd C s 0 lo, sbnd C s 0 (some hi), sbnd C s 0 (some mx) with
   | some (.slice ts _), some l, some h, some m => if us.len = ts.len then some ([bLe 0 l, bLe l h, bLe h m, bLe m (iNat (lLen b))], .msl n us.len (nInt l) (nSub (nInt h) (nInt l))) else none
   | _, _, _, _ => none
  | _ => none
 | .v (.c (.msl n sz off len)) => match lkT C.G T, sbnd C s 0 lo, sbnd C s 0 (some hi), sbnd C s 0 (some mx) with
  | some (.slice ts _), some l, some h, some m => if sz = ts.len then some ([bLe 0 l, bLe l h, bLe h m, bLe m (iNat len)], .msl n sz (nAdd off (nInt l)) (nSub (nInt h) (nInt l))) else none
  | _, _, _, _ => none
 | _ => none
def ldC (D : Bool × Nat) (cs : List CV) : Option VV :=
 if D.1 then (if D.2 ≤ cs.length then some (.g (cs.take D.2)) else none) else cs.head?.map .c
def sCells (O : SObjs) (n sz i off : Nat) : Option (List Bool × List CV) :=
 match lookS n O with
 | some (.box cs) => match i with
  | 0 => some ([], cs.drop off)
  | _ => none
 | some (.arr ts l) => if sz = ts.len then some ([nLe (nAdd i 1) (lLen l)], (((ts.kvs (lGet l i ts.d)).map CV.k).drop off)) else none
 | _ => none
def plainNC (O : SObjs) : CV → Bool
 | .k _ | .nsl | .msl _ _ _ _ | .at_ _ | .ref _ _ _ _ | .cst _ | .wrp _ _ => true
 | .own n => (match lookS n O with | some (.arr _ _) => true | _ => false)
 | _ => false
def plainCC : CV → Bool
 | .k _ | .nsl | .at_ _ | .cst _ => true
 | _ => false
def cellsS (O : SObjs) : SV → Option (List CV)
 | .v (.g l) => some l
 | .v (.c x) => if plainNC O x then some [x] else none
 | _ => none
def sFill (O : SObjs) (pl : List (Nat × Bool × Nat)) : List CV → List (Nat × SV) → Option (List CV)
 | cells, [] => some cells
 | cells, (i, x) :: rest => match pl[i]?, cellsS O x with
  | some (off, _, n), some cs => if cs.length = n ∧ off + n ≤ cells.length then sFill O pl (cells.take off ++ (cs ++ cells.drop (off + n))) rest else none
  | _, _ => none
def asRefsS : List SV → Option (List (Nat × Nat))
 | [] => some []
 | .v (.c (.ref n sz 0 0)) :: r => match asRefsS r with
  | some l => some ((n, sz) :: l)
  | none => none
 | _ => none
def mkFS (f : FuncId) : List SV → Option CV
 | [] => some (.cst (.fn f))
 | x :: l => match asRefsS (x :: l) with
  | some ns => some (.wrp (some f, 0) ns)
  | none => none
def concS (D : Option TD) : Bool := match D with
 | some (.nl .nilI) => false
 | some (.nl (.fn _)) => false
 | some _ => true
 | none => false
def ksOf : List CV → Option (List KV)
 | [] => some []
 | .k v :: r => match ksOf r with
  | some l => some (v :: l)
  | none => none
 | _ => none
def mkIS (D : Option TD) (T : TypeId) (x : SV) : Option CV := if concS D = true then (match x with
 | .v (.c (.ref n sz 0 0)) => some (.wrp (none, T) [(n, sz)])
 | .v (.g l) => (ksOf l).map (.ifc T true)
 | .v (.c (.k v)) => some (.ifc T false [v])
 | _ => none) else none
def tasVS (ok : Bool) (x : VV) : SV := if ok = true then .tup [x, .c (.k (.bool true))] else .v x
def tasS (D : Option TD) (T : TypeId) (ok : Bool) (x : SV) : Option SV := if concS D = true then (match x with
 | .v (.c (.ifc t true l)) => if t = T then some (tasVS ok (.g (l.map CV.k))) else none
 | .v (.c (.ifc t false [v])) => if t = T then some (tasVS ok (.c (.k v))) else none
 | _ => none) else none
def eqK (op : BinOp) (b : Bool) : Option KV := match op with
 | .eql => some (.bool b)
 | .neq => some (.bool (!b))
 | _ => none
def isI (D : Option TD) : Bool := match D with | some (.nl .nilI) => true | _ => false
def isP (D : Option TD) : Bool := match D with | some (.nl .nilP) => true | _ => false
def scmp (D : Option TD) (X Y : Operand) (x y : SV) : Option Bool := match x, y with
 | .v (.c x), .v (.c y) => match x, y with
  | .cst .nilI, .cst .nilI => if (isI D && (isC .nilIface X || isC .nilIface Y)) = true then some true else none
  | .cst .nilI, .ifc _ _ _ => if isI D = true then some false else none
  | .ifc _ _ _, .cst .nilI => if isI D = true then some false else none
  | .cst .nilI, .wrp (none, _) _ => if isI D = true then some false else none
  | .wrp (none, _) _, .cst .nilI => if isI D = true then some false else none
  | .cst .nilP, .cst .nilP => if isP D = true then some true else none
  | .cst .nilP, .ref _ _ _ _ => if isP D = true then some false else none
  | .ref _ _ _ _, .cst .nilP => if isP D = true then some false else none
  | .ref n _ 0 off, .ref m _ 0 off' => if isP D = true ∧ n = m ∧ off = off' then some true else none
  | _, _ => none
 | _, _ => none
def smm (mx : Bool) : List SV → Option KV
 | [.v (.c (.k (.int k a))), .v (.c (.k (.int k' b)))] => if k = k' then some (.int k (if mx = true then iMax a b else iMin a b)) else none
 | _ => none
def sR (C : Cfg) (s : SS) : Op → Option (List Bool × SV)
 | .move x => some ([], sev C s x)
 | .assign x => some ([], sev C s x)
 | .fieldAddr T x k => match asC (sev C s x), lkT C.G T with
  | some (.at_ cs), some (.struct _ fs _) => match fs[k]? with
   | some (o, _, _) => some ([], .v (.c (.at_ (cs.drop o))))
   | none => none
  | some (.ref n sz i off), some (.struct _ fs _) => match fs[k]? with
   | some (o, _, _) => some ([], .v (.c (.ref n sz i (off + o))))
   | none => none
  | _, _ => none
 | .field T x k => match sev C s x, lkT C.G T with
  | .v (.g cs), some (.struct _ fs _) => match fs[k]? with
   | some (o, true, n) => if o + n ≤ cs.length then some ([], .v (.g ((cs.drop o).take n))) else none
   | some (o, false, _) => cs[o]?.map fun x => ([], .v (.c x))
   | none => none
  | _, _ => none
 | .indexAddr T x i => match asI (sev C s i), asC (sev C s x), lkT C.G T with
  | some n, some (.k (.sl us l)), some (.slice ts _) => if us.len = ts.len then some ([inR n (lLen l)], .v (.c (.at_ (us.kvs (lAt us.d l n))))) else none
  | some n, some (.own m), some (.slice ts _) => match lookS m s.objs with
   | some (.arr us l) => if us.len = ts.len then some ([inR n (lLen l)], .v (.c (.ref m us.len (nInt n) 0))) else none
   | _ => none
  | some n, some (.msl m sz off len), some (.slice ts _) => if sz = ts.len then some ([inR n len], .v (.c (.ref m sz (nAdd off (nInt n)) 0))) else none
  | some n, some (.ref m sz 0 0), some (.arr len ts) => if sz = ts.len then some ([inR n len], .v (.c (.ref m sz (nInt n) 0))) else none
  | some n, some (.gar us l), some (.arr len ts) => if us.len = ts.len then some ([inR n len, inR n (lLen l)], .v (.c (.at_ (us.kvs (lAt us.d l n))))) else none
  | _, _, _ => none
 | .index T x i => match asI (sev C s i), asK (sev C s x), lkT C.G T with
  | some n, some (.str b), some .str => some ([inR n (lLen b)], .kv (.int .u8 (sAt b n)))
  | _, _, _ => none
 | .load T x => match asC (sev C s x), lkT C.G T with
  | some (.at_ cs), some D => (ldC D.cell (cs.map CV.k)).map fun x => ([], .v x)
  | some (.ref n sz i off), some D => match sCells s.objs n sz i off with
   | some (c, cs) => (ldC D.cell cs).map fun x => (c, .v x)
   | none => none
  | _, _ => none
 | .nilCheck x => match asC (sev C s x) with
  | some (.at_ cs) => some ([], .v (.c (.at_ cs)))
  | some (.ref n sz i off) => some ([], .v (.c (.ref n sz i off)))
  | some (.cst (.fn f)) => some ([], .v (.c (.cst (.fn f))))
  | some (.wrp (some f, 0) ns) => some ([], .v (.c (.wrp (some f, 0) ns)))
  | some (.wrp (none, t) ns) => some ([], .v (.c (.wrp (none, t) ns)))
  | _ => none
 | .binOp op T x y _ => match sbop C.G T op (sev C s x) (sev C s y) with
  | some r => some (r.1, .kv r.2)
  | none => match scmp (lkT C.G T) x y (sev C s x) (sev C s y) with
   | some b => (eqK op b).map fun r => ([], .kv r)
   | none => none
 | .unOp op _ x => match asK (sev C s x) with
  | some k => (suop op k).map fun r => ([], .kv r)
  | none => none
 | .convert S T x => match sev C s x, lkT C.G S, lkT C.G T with
  | .v (.c (.k (.int _ n))), some _, some (.int k) => some ([], .kv (.int k (iWrap k n)))
  | .v (.c (.k (.str b))), some _, some .str => some ([], .kv (.str b))
  | x, some (.slice ts _), some .str => if ts.beq byteTs then (sView s.objs byteTs x).map fun r => (r.1, .kv (.str (toBytes r.2))) else none
  | _, _, _ => none
 | .slice T x lo hi none => (sslc C s T (sev C s x) lo hi).map fun r => (r.1, .v (.c r.2))
 | .slice T x lo (some hi) (some mx) => (sslc3 C s T (sev C s x) lo hi mx).map fun r => (r.1, .v (.c r.2))
 | .extract t i => match sev C s t with
  | .tup l => l[i]?.map fun x => ([], .v x)
  | _ => none
 | .build T parts => match lkT C.G T with
  | some (.struct ts fs _) => (sFill s.objs fs ts.zc (parts.toList.map fun p => (p.1, sev C s p.2))).map fun cs => ([], .v (.g cs))
  | _ => none
 | .call { callee := .builtin .len, args, argTypes } => match args.toList, argTypes.toList with
  | [x], [T] => (slen s.objs (lkT C.G T) (sev C s x)).map fun n => ([], .kv (.int .i64 n))
  | _, _ => none
 | .makeFunc (.func f) first captured => match first.toList with
  | [] => (mkFS f (captured.toList.map (sev C s))).map fun x => ([], .v (.c x))
  | _ => none
 | .makeInterface T x => (mkIS (lkT C.G T) T (sev C s x)).map fun x => ([], .v (.c x))
 | .typeAssert x _ T ok => (tasS (lkT C.G T) T ok (sev C s x)).map fun x => ([], x)
 | .call { callee := .builtin .min, args, argTypes := _ } => (smm false (args.toList.map (sev C s))).map fun x => ([], .kv x)
 | .call { callee := .builtin .max, args, argTypes := _ } => (smm true (args.toList.map (sev C s))).map fun x => ([], .kv x)
 | .call { callee := .builtin .cap, args, argTypes } => match args.toList, argTypes.toList with
  | [x], [T] => (match sev C s x with | .v (.c .nsl) => if isSliceTD (lkT C.G T) then some ([], .kv (.int .i64 0)) else none | _ => none)
  | _, _ => none
 | _ => none
def mapVC (κ : CV → CV) : VV → VV
 | .c x => .c (κ x)
 | .g l => .g (l.map κ)
def mapSC (κ : CV → CV) : SV → SV
 | .v x => .v (mapVC κ x)
 | .tup l => .tup (l.map (mapVC κ))
def mapEC (κ : CV → CV) : List (Nat × SV) → List (Nat × SV)
 | [] => []
 | (n, x) :: r => (n, mapSC κ x) :: mapEC κ r
def mapOC (κ : CV → CV) : SObjs → SObjs
 | [] => []
 | (n, .box cs) :: r => (n, .box (cs.map κ)) :: mapOC κ r
 | (n, .arr ts l) :: r => (n, .arr ts l) :: mapOC κ r
 | (n, .mp kk k l) :: r => (n, .mp kk k l) :: mapOC κ r
def killC (n : Nat) : CV → CV
 | .own m => if m = n then .any else .own m
 | .msl m sz off len => if m = n then .any else .msl m sz off len
 | .ref m sz i off => if m = n then .any else .ref m sz i off
 | .wrp f ns => if (ns.map (·.1)).contains n = true then .any else .wrp f ns
 | x => x
def frzC (n : Nat) (ts : Tys) (l : List ts.T) : CV → CV
 | .own m => if m = n then .k (.sl ts l) else .own m
 | .msl m sz off len => if m = n then .raw (if sz = ts.len ∧ off + len ≤ l.length then .sl ts.len (((l.map ts.avs).drop off).take len) else .any) else .msl m sz off len
 | .ref m sz i off => if m = n then .any else .ref m sz i off
 | .wrp f ns => if (ns.map (·.1)).contains n = true then .any else .wrp f ns
 | x => x
def freezeS (n : Nat) (s : SS) : Option SS :=
 match lookS n s.objs with
 | some (.arr ts l) => some ⟨mapEC (frzC n ts l) s.env, mapOC (frzC n ts l) (dropS n s.objs)⟩
 | _ => none
def cellsOfS : SV → List CV
 | .v (.g l) => l
 | .v (.c x) => [x]
 | .tup _ => []
def firstC : List CV → Option Nat
 | [] => none
 | .own n :: _ => some n
 | .msl n _ _ _ :: _ => some n
 | _ :: r => firstC r
def settleS (C : Cfg) : Nat → List Operand → SS → Option SS
 | 0, _, s => some s
 | f + 1, xs, s => match firstC (xs.flatMap fun o => cellsOfS (sev C s o)) with
  | none => some s
  | some n => match freezeS n s with
   | some r => settleS C f xs r
   | none => none
def toKVs : (ts : Tys) → List CV → Option ts.T
 | .nil, [] => some ()
 | .cons t ts, x :: xs => match x with
  | .k v => match v.to t, toKVs ts xs with
   | some a, some b => some (a, b)
   | _, _ => none
  | .nsl => match t with
   | .sl us => match toKVs ts xs with
    | some b => some (([] : List us.T), b)
    | none => none
   | _ => none
  | _ => none
 | _, _ => none
def toRows (O : SObjs) (ts : Tys) : List SV → Option (List ts.T)
 | [] => some []
 | x :: r => match cellsS O x with
  | some cs => match toKVs ts cs, toRows O ts r with
   | some a, some b => some (a :: b)
   | _, _ => none
  | none => none
def freshS (d : Nat) (s : SS) : Option SS := match lookS d s.objs with
 | none => some ⟨mapEC (killC d) s.env, mapOC (killC d) s.objs⟩
 | some _ => none
def overC (cs : List CV) (off : Nat) (us : List CV) : List CV := cs.take off ++ (us ++ cs.drop (off + us.length))
def calmS (C : Cfg) (xs : List Operand) (s : SS) : Option SS := match settleS C 8 xs s with
 | some s => match firstC (xs.flatMap fun o => cellsOfS (sev C s o)) with
  | none => some s
  | some _ => none
 | none => none
def prepS (C : Cfg) (d : Nat) (xs : List Operand) (s : SS) : Option SS := match calmS C xs s with
 | some s => match freshS d s with
  | some s => match firstC (xs.flatMap fun o => cellsOfS (sev C s o)) with
   | none => some s
   | some _ => none
  | none => none
 | none => none
def appRows (C : Cfg) (s : SS) (ts : Tys) (T2 : TypeId) (y : SV) : Option (List Bool × List ts.T) := match y with
 | .v (.c (.k (.str b))) => (match lkT C.G T2 with
  | some .str => if h : byteTs.beq ts = true then some ([], Tys.beq_eq _ _ h ▸ ofBytes b) else none
  | _ => none)
 | y => if isSliceTD (lkT C.G T2) then sView s.objs ts y else none
def sH (C : Cfg) (s : SS) (dst : Option Tmp) (o : Op) : Option (List Bool × SV × SS) :=
 match o, dst with
 | .box _ x, some d => if d < top then (match freshS d s with
  | some s => match cellsS s.objs (sev C s x) with
   | some cs => some ([], .v (.c (.ref d cs.length 0 0)), ⟨s.env, (d, .box cs) :: s.objs⟩)
   | none => none
  | none => none) else none
 | .alloc T, some d => if d < top then (match freshS d s with
  | some s => match lkT C.G T with
   | some (.arr n ts) => some ([], .v (.c (.ref d ts.len 0 0)), ⟨s.env, (d, .arr ts (lRep n ts.d)) :: s.objs⟩)
   | some (.struct ts _ _) => some ([], .v (.c (.ref d ts.len 0 0)), ⟨s.env, (d, .box ts.zc) :: s.objs⟩)
   | some (.int k) => some ([], .v (.c (.ref d 1 0 0)), ⟨s.env, (d, .box [.k (.int k 0)]) :: s.objs⟩)
   | some .bool => some ([], .v (.c (.ref d 1 0 0)), ⟨s.env, (d, .box [.k (.bool false)]) :: s.objs⟩)
   | some .str => some ([], .v (.c (.ref d 1 0 0)), ⟨s.env, (d, .box [.k (.str [])]) :: s.objs⟩)
   | some (.slice _ _) => some ([], .v (.c (.ref d 1 0 0)), ⟨s.env, (d, .box [.nsl]) :: s.objs⟩)
   | some (.nl c) => some ([], .v (.c (.ref d 1 0 0)), ⟨s.env, (d, .box [.cst c]) :: s.objs⟩)
   | _ => none
  | none => none) else none
 | .buildSlice T len parts, some d => if d < top then (match prepS C d (parts.toList.map (·.2)) s, lkT C.G T with
  | some s, some (.slice ts _) => match toRows s.objs ts ((parts.toList.map (·.2)).map (sev C s)) with
   | some rows => if parts.toList.map (·.1) = List.range len ∧ 0 < ts.len ∧ len * ts.len ≤ 16777216 then some ([], .v (.c (.own d)), ⟨s.env, (d, .arr ts rows) :: s.objs⟩) else none
   | none => none
  | _, _ => none) else none
 | .makeSlice T l c, some d => if d < top then (match freshS d s with
  | some s => match lkT C.G T, asI (sev C s l), asI (sev C s c) with
   | some (.slice ts by_), some n, some m => some ([bLe 0 n, bLe n m, bLe m (iNat lim), bLe (iMul (iNat by_) m) (iNat lim)], .v (.c (.own d)), ⟨s.env, (d, .arr ts (lRep (nInt n) ts.d)) :: s.objs⟩)
   | _, _, _ => none
  | none => none) else none
 | .convert S T x, some d => if d < top then (match freshS d s with
  | some s => match lkT C.G S, asK (sev C s x) with
   | some .str, some (.str b) => if isBytes C.G T then some ([nLe (lLen b) lim], .v (.c (.own d)), ⟨s.env, (d, .arr byteTs (ofBytes b)) :: s.objs⟩) else none
   | _, _ => none
  | none => none) else none
 | .store T x y, none => match asC (sev C s x), lkT C.G T with
  | some (.ref n sz i off), some D => match lookS n s.objs with
   | some (.box cs) => match i, cellsS s.objs (sev C s y) with
    | 0, some us => if us.length = D.cell.2 ∧ off + us.length ≤ cs.length then some ([], .und, ⟨s.env, updS n (.box (overC cs off us)) s.objs⟩) else none
    | _, _ => none
   | some (.arr _ _) => match calmS C [y] s with
    | some s => match lookS n s.objs, cellsS s.objs (sev C s y), asC (sev C s x) with
     | some (.arr ts l), some us, some (.ref n' sz' i' off') =>
      if sz = ts.len ∧ us.length = D.cell.2 ∧ off + us.length ≤ ts.len ∧ us.all plainCC = true ∧ n' = n ∧ sz' = sz ∧ off' = off then
       (match toKVs ts (overC ((ts.kvs (lGet l i' ts.d)).map CV.k) off us) with
       | some row => some ([nLe (nAdd i' 1) (lLen l)], .und, ⟨s.env, updS n (.arr ts (lSet l i' row)) s.objs⟩)
       | none => none)
      else none
     | _, _, _ => none
    | none => none
   | _ => none
  | _, _ => none
 | .call { callee := .builtin .append, args, argTypes }, some d => if d < top then
   (match args.toList, argTypes.toList with
   | [x, y], [T, T2] => match lkT C.G T with
    | some (.slice ts by_) =>
     match appRows C s ts T2 (sev C s y) with
     | some (c, rows) => match sev C s x with
      | .v (.c .nsl) => (match freshS d s with
       | some s => some (c ++ [nLe (lLen rows) lim, nLe (nMul (lLen rows) by_) lim], .v (.c (.own d)), ⟨s.env, (d, .arr ts rows) :: s.objs⟩)
       | none => none)
      | .v (.c (.own m)) => (match lookS m s.objs with
       | some (.arr us l) => if h : us.beq ts = true then
         (match freshS d ⟨mapEC (killC m) s.env, mapOC (killC m) (dropS m s.objs)⟩ with
         | some s => some (c ++ [nLe (nAdd (lLen l) (lLen rows)) lim, nLe (nMul (nAdd (lLen l) (lLen rows)) by_) lim], .v (.c (.own d)), ⟨s.env, (d, .arr ts (lApp (Tys.beq_eq us ts h ▸ l : List ts.T) rows)) :: s.objs⟩)
         | none => none)
        else none
       | _ => none)
      | _ => none
     | none => none
    | _ => none
   | _, _ => none) else none
 | _, _ => none
def need {α : Type} : List Bool → Option α → Option α
 | [], m => m
 | c :: l, m => br c (need l m) none
inductive CT where
 | ty (t : Ty)
 | ag (ts : Tys)
@[reducible] def CT.T : CT → Type
 | .ty t => t.T
 | .ag ts => ts.T
inductive AT where
 | v (c : CT)
 | bx (ts : Tys)
@[reducible] def AT.T : AT → Type
 | .v c => c.T
 | .bx ts => ts.T
@[reducible] def argsT : List AT → Type
 | [] => Unit
 | a :: l => a.T × argsT l
@[reducible] def compsT : List CT → Type
 | [] => Unit
 | a :: l => a.T × compsT l
inductive RT where
 | v (c : CT)
 | tup (l : List CT)
 | own (ts : Tys)
 | box (ts : Tys)
 | unit
@[reducible] def RT.T : RT → Type
 | .v c => c.T
 | .tup l => compsT l
 | .own ts => List ts.T
 | .box ts => ts.T
 | .unit => Unit
def bxsOf : List AT → List Tys
 | [] => []
 | .bx ts :: l => ts :: bxsOf l
 | .v _ :: l => bxsOf l
@[reducible] def outsT : List Tys → Type
 | [] => Unit
 | ts :: l => ts.T × outsT l
structure Sig where
 args : List AT
 ret : RT
@[reducible] def Sig.R (g : Sig) : Type := g.ret.T × outsT (bxsOf g.args)
structure Entry where
 sig : Sig
 F : argsT sig.args → Option sig.R
def toT (O : SObjs) : (t : Ty) → CV → Option t.T
 | t, .k v => v.to t
 | .sl _, .nsl => some []
 | .sl ts, .own n => match lookS n O with
  | some (.arr us l) => if h : us.beq ts = true then some (Tys.beq_eq us ts h ▸ l) else none
  | _ => none
 | _, _ => none
def toTs (O : SObjs) : (ts : Tys) → List CV → Option ts.T
 | .nil, [] => some ()
 | .cons t ts, x :: xs => match toT O t x, toTs O ts xs with
  | some a, some b => some (a, b)
  | _, _ => none
 | _, _ => none
def toCT (O : SObjs) : (c : CT) → SV → Option c.T
 | .ty t, .v (.c x) => toT O t x
 | .ag ts, .v (.g l) => toTs O ts l
 | _, _ => none
def toAT (O : SObjs) : (a : AT) → SV → Option a.T
 | .v c, x => toCT O c x
 | .bx ts, .v (.c (.ref n sz 0 0)) => if sz = ts.len then (match lookS n O with
  | some (.box cs) => toKVs ts cs
  | _ => none) else none
 | _, _ => none
def toArgs (O : SObjs) : (l : List AT) → List SV → Option (argsT l)
 | [], [] => some ()
 | a :: l, x :: xs => match toAT O a x, toArgs O l xs with
  | some p, some q => some (p, q)
  | _, _ => none
 | _, _ => none
def CT.sv : (c : CT) → c.T → SV
 | .ty t, x => .v (.c (.k (t.kv x)))
 | .ag ts, x => .v (.g ((ts.kvs x).map CV.k))
def CT.vv : (c : CT) → c.T → VV
 | .ty t, x => .c (.k (t.kv x))
 | .ag ts, x => .g ((ts.kvs x).map CV.k)
def vvs : (l : List CT) → compsT l → List VV
 | [], _ => []
 | c :: l, x => c.vv x.1 :: vvs l x.2
def setBoxes : (l : List AT) → List SV → outsT (bxsOf l) → SObjs → SObjs
 | .bx ts :: l, .v (.c (.ref n _ _ _)) :: xs, x, O => setBoxes l xs x.2 (updS n (.box ((ts.kvs x.1).map CV.k)) O)
 | .v _ :: l, _ :: xs, x, O => setBoxes l xs x O
 | _, _, _, O => O
def retS (d : Nat) (s : SS) : (r : RT) → r.T → SV × SS
 | .v c, x => (c.sv x, s)
 | .tup l, x => (.tup (vvs l x), s)
 | .own ts, x => (.v (.c (.own d)), ⟨s.env, (d, .arr ts x) :: s.objs⟩)
 | .box ts, x => (.v (.c (.ref d ts.len 0 0)), ⟨s.env, (d, .box ((ts.kvs x).map CV.k)) :: s.objs⟩)
 | .unit, _ => (.tup [], s)
def lkF : List (Nat × Entry) → Nat → Option Entry
 | [], _ => none
 | (m, x) :: r, n => if m = n then some x else lkF r n
def gTy : Ty → Bool
 | .sl _ => false
 | _ => true
def gTys : Tys → Bool
 | .nil => true
 | .cons t ts => gTy t && gTys ts
def gCT : CT → Bool
 | .ty t => gTy t
 | .ag ts => gTys ts
def gRT : RT → Bool
 | .v c => gCT c
 | .tup l => l.all gCT
 | _ => false
def bxNames : List AT → List SV → List Nat
 | .bx _ :: l, .v (.c (.ref n _ _ _)) :: xs => n :: bxNames l xs
 | .v _ :: l, _ :: xs => bxNames l xs
 | _, _ => []
def okNames : List Nat → Bool
 | [] => true
 | n :: l => !(l.contains n) && (decide (n < top) && (!(n == 999999) && okNames l))
def sCall {R : Type} (C : Cfg) (FT : List (Nat × Entry)) (q : Bool) (s : SS) (dst : Option Tmp) (f : FuncId) (xs : List Operand) (K : SS → Option R) : Option R :=
 match lkF FT f with
 | none => none
 | some e =>
  match (match (bxsOf e.sig.args).isEmpty && gRT e.sig.ret, q with
   | true, true => some s
   | true, false => freshS (dst.getD 999998) s
   | false, false => prepS C (dst.getD 999998) xs s
   | false, true => none) with
  | none => none
  | some s => match toArgs s.objs e.sig.args (xs.map (sev C s)) with
   | none => none
   | some a => if dst.getD 999998 < top ∧ e.sig.args.length ≤ 1000 ∧ okNames (bxNames e.sig.args (xs.map (sev C s))) = true then
    obind (e.F a) fun r =>
     K ((retS (dst.getD 999998) ⟨s.env, setBoxes e.sig.args (xs.map (sev C s)) r.2 s.objs⟩ e.sig.ret r.1).2.put dst
      (retS (dst.getD 999998) ⟨s.env, setBoxes e.sig.args (xs.map (sev C s)) r.2 s.objs⟩ e.sig.ret r.1).1)
    else none
def mGet : List (Int × Int) → Int → Int
 | [], _ => 0
 | (a, b) :: l, n => if a == n then b else mGet l n
def mSet : List (Int × Int) → Int → Int → List (Int × Int)
 | [], n, v => [(n, v)]
 | (a, b) :: l, n, v => if a == n then (n, v) :: l else (a, b) :: mSet l n v
def mpGet (l : List (Int × Int)) (n : Int) : Int := mGet l n
def mpSet (l : List (Int × Int)) (n v : Int) : List (Int × Int) := mSet l n v
def asKI : SV → Option (IntKind × Int)
 | .v (.c (.k (.int k n))) => some (k, n)
 | _ => none
def asM : SV → Option Nat
 | .v (.c (.wrp (some _, 1) [(n, _)])) => some n
 | _ => none
def sMp (C : Cfg) (s : SS) (dst : Option Tmp) (o : Op) : Option (SV × SS) := match o, dst with
 | .makeMap T none, some d => if d < top then (match freshS d s, lkT C.G T with
  | some s, some (.map kk k) => some (.v (.c (.wrp (some 0, 1) [(d, 0)])), ⟨s.env, (d, .mp kk k []) :: s.objs⟩)
  | _, _ => none) else none
 | .lookup T m i false, _ => match asM (sev C s m), asKI (sev C s i), lkT C.G T with
  | some n, some (k1, i), some (.map kk k) => match lookS n s.objs with
   | some (.mp kk' k' l) => if k1 = kk ∧ kk' = kk ∧ k' = k then some (.kv (.int k (mpGet l i)), s) else none
   | _ => none
  | _, _, _ => none
 | .mapUpdate T m i x, none => match asM (sev C s m), asKI (sev C s i), asKI (sev C s x), lkT C.G T with
  | some n, some (k1, i), some (k2, v), some (.map kk k) => match lookS n s.objs with
   | some (.mp kk' k' l) => if k1 = kk ∧ k2 = k ∧ kk' = kk ∧ k' = k then some (.und, ⟨s.env, updS n (.mp kk k (mpSet l i v)) s.objs⟩) else none
   | _ => none
  | _, _, _, _ => none
 | _, _ => none
def unownC (n sz k : Nat) : CV → CV
 | .own m => if m = n then .msl n sz 0 k else .own m
 | x => x
def setCell (b i : Nat) (x : CV) (s : SS) : SS := match lookS b s.objs with
 | some (.box cs) => ⟨s.env, updS b (.box (cs.set i x)) s.objs⟩
 | _ => s
def trimC {R : Type} (s : SS) (x : CV) (put : Nat → SS → SS) (K : SS → Option R) : Option R := match x with
 | .msl n sz off k => match lookS n s.objs with
  | some (.arr ts l) => if sz = ts.len then need [nEq off 0, nLe k (lLen l)] (K (put n ⟨mapEC (unownC n ts.len (lLen l)) s.env, updS n (.arr ts (lSub l 0 k)) (mapOC (unownC n ts.len (lLen l)) s.objs)⟩)) else K s
  | _ => K s
 | _ => K s
def trimB {R : Type} (N : Nat) : List (Nat × Nat) → SS → (SS → Option R) → Option R
 | [], s, K => K s
 | (b, i) :: r, s, K => match Nat.ble top b with
  | true => match s.get N i with
   | .v (.c x) => trimC s x (fun n s => s.put (some i) (.v (.c (.own n)))) fun s => trimB N r s K
   | _ => trimB N r s K
  | false => match lookS b s.objs with
   | some (.box cs) => trimC s (cs.getD i .any) (fun n s => setCell b i (.own n) s) fun s => trimB N r s K
   | _ => trimB N r s K
def sOp0 {R : Type} (C : Cfg) (FT : List (Nat × Entry)) (q : Bool) (s : SS) (dst : Option Tmp) (o : Op) (K : SS → Option R) : Option R :=
 match o with
 | .call { callee := .value (.func f), args, argTypes := _ } => sCall C FT q s dst f args.toList K
 | .pick c a b => match asK (sev C s c) with
  | some (.bool t) => br t (K (s.put dst (sev C s a))) (K (s.put dst (sev C s b)))
  | _ => none
 | o => match sR C s o with
  | some (c, x) => need c (K (s.put dst x))
  | none => if q then none else match sH C s dst o with
   | some (c, x, s') => need c (K (s'.put dst x))
   | none => none
def appT : Op → Option Nat
 | .call { callee := .builtin .append, args, argTypes := _ } => match args.toList with
  | .tmp t :: _ => some t
  | _ => none
 | _ => none
def sOp {R : Type} (C : Cfg) (FT : List (Nat × Entry)) (q : Bool) (s : SS) (dst : Option Tmp) (o : Op) (K : SS → Option R) : Option R :=
 match q with
 | true => sOp0 C FT true s dst o K
 | false => match appT o with
  | some t => trimB C.N [(top, t)] s fun s => sOp0 C FT false s dst o K
  | none => sOp0 C FT false s dst o K
def dstOf : List Oper → Nat → Option Tmp
 | [], _ => none
 | o :: _, 0 => o.dst
 | _ :: l, n + 1 => dstOf l n
def sGo {R : Type} (C : Cfg) (FT : List (Nat × Entry)) (q : Bool) (ops : List Oper) : List Oper → SS → (SS → Option R) → Option R
 | [], s, K => K s
 | o :: l, s, K => match o.guard with
  | none => sOp C FT q s o.dst o.op fun s => sGo C FT q ops l s K
  | some (j, want) => match dstOf ops j with
   | none => none
   | some t => match s.get C.N t with
    | .v (.c (.k (.bool b))) =>
     br b (match want with
      | true => sOp C FT q ⟨(t, .bool true) :: s.env, s.objs⟩ o.dst o.op fun s => sGo C FT q ops l s K
      | false => sGo C FT q ops l (SS.put ⟨(t, .bool true) :: s.env, s.objs⟩ o.dst .und) K)
      (match want with
      | false => sOp C FT q ⟨(t, .bool false) :: s.env, s.objs⟩ o.dst o.op fun s => sGo C FT q ops l s K
      | true => sGo C FT q ops l (SS.put ⟨(t, .bool false) :: s.env, s.objs⟩ o.dst .und) K)
    | .v (.c .und) => sGo C FT q ops l (s.put o.dst .und) K
    | _ => none
end Go.Abs
namespace Go.Abs
open Go.RowKit
inductive PSlot where
 | d (c : CT)
 | own (n : Nat)
 | ref (n sz : Nat)
 | cst (c : KC)
 | wrp (f : Option FuncId × TypeId) (ns : List (Nat × Nat))
 | msl (n sz : Nat)
inductive PC where
 | d (t : Ty)
 | own (n : Nat)
 | cst (c : KC)
 | ref (n sz : Nat)
 | wrp (f : Option FuncId × TypeId) (ns : List (Nat × Nat))
inductive PObj where
 | mp (kk k : IntKind)
 | arr (ts : Tys)
 | box (cs : List PC)
structure Plan where
 slots : List (Nat × PSlot)
 objs : List (Nat × PObj)
 trims : List (Nat × Nat) := []
def dtsP : List PC → Tys
 | [] => .nil
 | .d t :: l => .cons t (dtsP l)
 | .own _ :: l => dtsP l
 | .cst _ :: l => dtsP l
 | .ref _ _ :: l => dtsP l
 | .wrp _ _ :: l => dtsP l
@[reducible] def PObj.T : PObj → Type
 | .mp _ _ => List (Int × Int)
 | .arr ts => List ts.T
 | .box cs => (dtsP cs).T
@[reducible] def objsT : List (Nat × PObj) → Type
 | [] => Unit
 | (_, o) :: l => o.T × objsT l
@[reducible] def slotsT (R : Type) : List (Nat × PSlot) → Type
 | [] => R
 | (_, .d c) :: l => c.T × slotsT R l
 | (_, .own _) :: l => slotsT R l
 | (_, .ref _ _) :: l => slotsT R l
 | (_, .cst _) :: l => slotsT R l
 | (_, .wrp _ _) :: l => slotsT R l
 | (_, .msl _ _) :: l => (Nat × Nat) × slotsT R l
@[reducible] def Plan.T (p : Plan) : Type := slotsT (objsT p.objs) p.slots
def encE {R : Type} : (l : List (Nat × PSlot)) → slotsT R l → List (Nat × SV)
 | [], _ => []
 | (n, .d c) :: l, x => (n, c.sv x.1) :: encE l x.2
 | (n, .own m) :: l, x => (n, .v (.c (.own m))) :: encE l x
 | (n, .ref m sz) :: l, x => (n, .v (.c (.ref m sz 0 0))) :: encE l x
 | (n, .cst c) :: l, x => (n, .v (.c (.cst c))) :: encE l x
 | (n, .wrp f ns) :: l, x => (n, .v (.c (.wrp f ns))) :: encE l x
 | (n, .msl m sz) :: l, x => (n, .v (.c (.msl m sz x.1.1 x.1.2))) :: encE l x.2
def restE {R : Type} : (l : List (Nat × PSlot)) → slotsT R l → R
 | [], x => x
 | (_, .d _) :: l, x => restE l x.2
 | (_, .own _) :: l, x => restE l x
 | (_, .ref _ _) :: l, x => restE l x
 | (_, .cst _) :: l, x => restE l x
 | (_, .wrp _ _) :: l, x => restE l x
 | (_, .msl _ _) :: l, x => restE l x.2
def encC : (l : List PC) → (dtsP l).T → List CV
 | [], _ => []
 | .d t :: l, x => .k (t.kv x.1) :: encC l x.2
 | .own n :: l, x => .own n :: encC l x
 | .cst c :: l, x => .cst c :: encC l x
 | .ref n sz :: l, x => .ref n sz 0 0 :: encC l x
 | .wrp f ns :: l, x => .wrp f ns :: encC l x
def encO : (l : List (Nat × PObj)) → objsT l → SObjs
 | [], _ => []
 | (n, .mp kk k) :: l, x => (n, .mp kk k x.1) :: encO l x.2
 | (n, .arr ts) :: l, x => (n, .arr ts x.1) :: encO l x.2
 | (n, .box cs) :: l, x => (n, .box (encC cs x.1)) :: encO l x.2
def Plan.enc (p : Plan) (x : p.T) : SS := ⟨encE p.slots x, encO p.objs (restE p.slots x)⟩
abbrev NMap := List (Nat × Option Nat)
def lkN : NMap → Nat → Option (Option Nat)
 | [], _ => none
 | (m, x) :: r, n => if m = n then some x else lkN r n
def addN (μ : NMap) (n : Nat) (x : Option Nat) : Option NMap := match lkN μ n with
 | none => some ((n, x) :: μ)
 | some y => match x, y with
  | some a, some b => if a = b then some μ else none
  | none, none => some μ
  | _, _ => none
def addL : List (Nat × Nat) → List (Nat × Nat) → NMap → Option NMap
 | [], [], μ => some μ
 | (n, sz) :: l, (k, sz') :: r, μ => if sz = sz' then (match addN μ n (some k) with | some μ => addL l r μ | none => none) else none
 | _, _, _ => none
def mapSlots (N : Nat) (s : SS) : List (Nat × PSlot) → NMap → Option NMap
 | [], μ => some μ
 | (_, .d _) :: l, μ => mapSlots N s l μ
 | (n, .own m) :: l, μ => match s.get N n with
  | .v (.c (.own k)) => match addN μ m (some k) with | some μ => mapSlots N s l μ | none => none
  | .v (.c .nsl) => match addN μ m none with | some μ => mapSlots N s l μ | none => none
  | _ => none
 | (n, .ref m sz) :: l, μ => match s.get N n with
  | .v (.c (.ref k sz' 0 0)) => if sz = sz' then (match addN μ m (some k) with | some μ => mapSlots N s l μ | none => none) else none
  | _ => none
 | (n, .cst c) :: l, μ => match s.get N n with
  | .v (.c (.cst c')) => if c = c' then mapSlots N s l μ else none
  | _ => none
 | (n, .wrp f ns) :: l, μ => match s.get N n with
  | .v (.c (.wrp f' ms)) => if f = f' then (match addL ns ms μ with | some μ => mapSlots N s l μ | none => none) else none
  | _ => none
 | (n, .msl m sz) :: l, μ => match s.get N n with
  | .v (.c (.msl k sz' _ _)) => if sz = sz' then (match addN μ m (some k) with | some μ => mapSlots N s l μ | none => none) else none
  | _ => none
def mapCells : List PC → List CV → NMap → Option NMap
 | [], [], μ => some μ
 | .d _ :: l, _ :: xs, μ => mapCells l xs μ
 | .own m :: l, .own k :: xs, μ => match addN μ m (some k) with | some μ => mapCells l xs μ | none => none
 | .own m :: l, .nsl :: xs, μ => match addN μ m none with | some μ => mapCells l xs μ | none => none
 | .cst c :: l, .cst c' :: xs, μ => if c = c' then mapCells l xs μ else none
 | .ref m sz :: l, .ref k sz' 0 0 :: xs, μ => if sz = sz' then (match addN μ m (some k) with | some μ => mapCells l xs μ | none => none) else none
 | .wrp f ns :: l, .wrp f' ms :: xs, μ => if f = f' then (match addL ns ms μ with | some μ => mapCells l xs μ | none => none) else none
 | _, _, _ => none
def mapObjs (O : SObjs) : List (Nat × PObj) → NMap → Option NMap
 | [], μ => some μ
 | (_, .mp _ _) :: l, μ => mapObjs O l μ
 | (_, .arr _) :: l, μ => mapObjs O l μ
 | (n, .box cs) :: l, μ => match lkN μ n with
  | some (some k) => match lookS k O with
   | some (.box xs) => match mapCells cs xs μ with | some μ => mapObjs O l μ | none => none
   | _ => none
  | _ => none
def pinMap : List Nat → NMap
 | [] => []
 | p :: l => (p, some p) :: pinMap l
def mslOf : SV → Option (Nat × Nat)
 | .v (.c (.msl _ _ off len)) => some (off, len)
 | _ => none
def ownsOf : List CV → List Nat
 | [] => []
 | .own k :: l => k :: ownsOf l
 | _ :: l => ownsOf l
def decE {R : Type} (N : Nat) (s : SS) (z : Option R) : (l : List (Nat × PSlot)) → Option (slotsT R l)
 | [] => z
 | (n, .d c) :: l => match toCT s.objs c (s.get N n), decE N s z l with
  | some a, some b => some (a, b)
  | _, _ => none
 | (_, .own _) :: l => decE N s z l
 | (_, .ref _ _) :: l => decE N s z l
 | (_, .cst _) :: l => decE N s z l
 | (_, .wrp _ _) :: l => decE N s z l
 | (n, .msl _ _) :: l => match mslOf (s.get N n), decE N s z l with
  | some a, some b => some (a, b)
  | _, _ => none
def decC (O : SObjs) : (l : List PC) → List CV → Option (dtsP l).T
 | [], [] => some ()
 | .d t :: l, x :: xs => match toT O t x, decC O l xs with
  | some a, some b => some (a, b)
  | _, _ => none
 | .own _ :: l, _ :: xs => decC O l xs
 | .cst _ :: l, _ :: xs => decC O l xs
 | .ref _ _ :: l, _ :: xs => decC O l xs
 | .wrp _ _ :: l, _ :: xs => decC O l xs
 | _, _ => none
def decO (μ : NMap) (O : SObjs) : (l : List (Nat × PObj)) → Option (objsT l)
 | [] => some ()
 | (n, .mp kk k) :: l => match lkN μ n, decO μ O l with
  | some (some m), some b => match lookS m O with
   | some (.mp kk' k' x) => if kk' = kk ∧ k' = k then some (x, b) else none
   | _ => none
  | _, _ => none
 | (n, .arr ts) :: l => match lkN μ n, decO μ O l with
  | some (some k), some b => match lookS k O with
   | some (.arr us x) => if h : us.beq ts = true then some ((Tys.beq_eq us ts h ▸ x : List ts.T), b) else none
   | _ => none
  | some none, some b => some (([] : List ts.T), b)
  | _, _ => none
 | (n, .box cs) :: l => match lkN μ n, decO μ O l with
  | some (some k), some b => match lookS k O with
   | some (.box xs) => match decC O cs xs with
    | some a => some (a, b)
    | none => none
   | _ => none
  | _, _ => none
def frozenE (N : Nat) (s : SS) : List (Nat × PSlot) → List Nat
 | [] => []
 | (n, .d _) :: l => match s.get N n with
  | .v (.c (.own k)) => k :: frozenE N s l
  | .v (.g xs) => ownsOf xs ++ frozenE N s l
  | _ => frozenE N s l
 | _ :: l => frozenE N s l
def frozenC : List PC → List CV → List Nat
 | .d _ :: l, .own k :: xs => k :: frozenC l xs
 | _ :: l, _ :: xs => frozenC l xs
 | _, _ => []
def frozenO (μ : NMap) (O : SObjs) : List (Nat × PObj) → List Nat
 | [] => []
 | (_, .mp _ _) :: l => frozenO μ O l
 | (_, .arr _) :: l => frozenO μ O l
 | (n, .box cs) :: l => match lkN μ n with
  | some (some k) => match lookS k O with
   | some (.box xs) => frozenC cs xs ++ frozenO μ O l
   | _ => frozenO μ O l
  | _ => frozenO μ O l
def ranN : NMap → List Nat
 | [] => []
 | (_, some k) :: l => k :: ranN l
 | (_, none) :: l => ranN l
def nodupB : List Nat → Bool
 | [] => true
 | x :: l => !(l.contains x) && nodupB l
def apartB (a b : List Nat) : Bool := a.all fun x => !(b.contains x)
def hasBox (n : Nat) : List (Nat × PObj) → Bool
 | [] => false
 | (m, .box _) :: l => if m = n then true else hasBox n l
 | (m, .mp _ _) :: l => if m = n then false else hasBox n l
 | (m, .arr _) :: l => if m = n then false else hasBox n l
def hasObj (n : Nat) : List (Nat × PObj) → Bool
 | [] => false
 | (m, _) :: l => if m = n then true else hasObj n l
def slotsOk (os : List (Nat × PObj)) : List (Nat × PSlot) → Bool
 | [] => true
 | (_, .ref m _) :: l => hasObj m os && slotsOk os l
 | (_, .own m) :: l => hasObj m os && slotsOk os l
 | (_, .wrp _ ns) :: l => (ns.all fun p => hasObj p.1 os) && slotsOk os l
 | (_, .msl m _) :: l => hasObj m os && slotsOk os l
 | _ :: l => slotsOk os l
def cellsOk (os : List (Nat × PObj)) : List PC → Bool
 | [] => true
 | .ref m _ :: l => hasObj m os && cellsOk os l
 | .wrp _ ns :: l => (ns.all fun p => hasObj p.1 os) && cellsOk os l
 | _ :: l => cellsOk os l
def objsOk (os : List (Nat × PObj)) : List (Nat × PObj) → Bool
 | [] => true
 | (_, .box cs) :: l => cellsOk os cs && objsOk os l
 | _ :: l => objsOk os l
def Plan.okP (pins : List Nat) (p : Plan) : Bool := (p.objs.all fun x => decide (x.1 < top)) && (slotsOk p.objs p.slots && (objsOk p.objs p.objs && pins.all fun n => hasBox n p.objs))
def Plan.dec (N : Nat) (pins : List Nat) (p : Plan) (s : SS) : Option p.T :=
 match mapSlots N s p.slots (pinMap pins) with
 | none => none
 | some μ => match mapObjs s.objs p.objs μ with
  | none => none
  | some μ => if p.okP pins = true ∧ nodupB (ranN μ) = true ∧ apartB (frozenE N s p.slots ++ frozenO μ s.objs p.objs) (ranN μ) = true then
    decE N s (decO μ s.objs p.objs) p.slots
   else none
def clCV (d : Nat) : CV → Bool
 | .own m => !(m == d)
 | .msl m _ _ _ => !(m == d)
 | .ref m _ _ _ => !(m == d)
 | .wrp _ ns => ns.all fun p => !(p.1 == d)
 | _ => true
def clVV (d : Nat) : VV → Bool
 | .c x => clCV d x
 | .g l => l.all (clCV d)
def clSV (d : Nat) : SV → Bool
 | .v x => clVV d x
 | .tup l => l.all (clVV d)
def clEnv (d : Nat) : List (Nat × SV) → Bool
 | [] => true
 | (_, x) :: r => clSV d x && clEnv d r
def clObj (d : Nat) : SObjs → Bool
 | [] => true
 | (_, .box cs) :: r => cs.all (clCV d) && clObj d r
 | (_, .arr _ _) :: r => clObj d r
 | (_, .mp _ _ _) :: r => clObj d r
def cleanB (d : Nat) (s : SS) : Bool := (lookS d s.objs).isNone && (clEnv d s.env && clObj d s.objs)
inductive RM where
 | x
 | q
 | qt (n : Nat)
 | da (n : Nat)
 | w (n : Nat) (ord : List (Nat × Nat))
 | c (n c t : Nat) (b : Bool) (ord : List (Nat × Nat)) (m : RM)
inductive HT where
 | e
 | r (m : RM)
 | ri (m : RM) (l : List (Nat × Nat × HT))
 | n (a b : HT)
 | j (p : Plan) (a b : HT)
 | u (a : HT)
 | l (p : Plan) (a : HT)
abbrev Hint := List (Nat × Nat × HT)
def lkH : Hint → Nat → Option (Nat × HT)
 | [], _ => none
 | (k, r) :: l, n => if k = n then some r else lkH l n
abbrev JT (R : Type) := Cfg → FuncId → List SV → Nat → HT → SS → (SV → SS → Option R) → Option R
def capS : List (Nat × Nat) → List SV
 | [] => []
 | (n, sz) :: l => .v (.c (.ref n sz 0 0)) :: capS l
def resolveS (C : Cfg) (s : SS) (c : Call) : Option (FuncId × List SV) := match c.callee with
 | .value x => match sev C s x with
  | .v (.c (.cst (.fn f))) => some (f, c.args.toList.map (sev C s))
  | .v (.c (.wrp (some f, 0) ns)) => some (f, c.args.toList.map (sev C s) ++ capS ns)
  | _ => none
 | .invoke x name => match sev C s x with
  | .v (.c (.wrp (none, t) [(n, sz)])) => match lkM C.M t name with
   | some (f, none) => some (f, .v (.c (.ref n sz 0 0)) :: c.args.toList.map (sev C s))
   | some (f, some D) => match sCells s.objs n sz 0 0 with
    | some ([], cs) => match ldC D cs with
     | some v => some (f, .v v :: c.args.toList.map (sev C s))
     | none => none
    | _ => none
   | none => none
  | _ => none
 | .builtin _ => none
def sOpJ {R : Type} (J : JT R) (L : Hint) (C : Cfg) (FT : List (Nat × Entry)) (s : SS) (dst : Option Tmp) (o : Op) (K : SS → Option R) : Option R :=
 match o with
 | .call c => match lkH L (dst.getD 999998) with
  | some (gap, ht) => match resolveS C s c with
   | some (f, xs) => J C f xs gap ht s fun x s' => K (s'.put dst x)
   | none => none
  | none => sOp C FT false s dst (.call c) K
 | o => match sMp C s dst o with
  | some (x, s') => K (s'.put dst x)
  | none => sOp C FT false s dst o K
def sGoJ {R : Type} (J : JT R) (L : Hint) (C : Cfg) (FT : List (Nat × Entry)) (ops : List Oper) : List Oper → SS → (SS → Option R) → Option R
 | [], s, K => K s
 | o :: l, s, K => match o.guard with
  | none => sOpJ J L C FT s o.dst o.op fun s => sGoJ J L C FT ops l s K
  | some (j, want) => match dstOf ops j with
   | none => none
   | some t => match s.get C.N t with
    | .v (.c (.k (.bool b))) =>
     br b (match want with
      | true => sOpJ J L C FT ⟨(t, .bool true) :: s.env, s.objs⟩ o.dst o.op fun s => sGoJ J L C FT ops l s K
      | false => sGoJ J L C FT ops l (SS.put ⟨(t, .bool true) :: s.env, s.objs⟩ o.dst .und) K)
      (match want with
      | false => sOpJ J L C FT ⟨(t, .bool false) :: s.env, s.objs⟩ o.dst o.op fun s => sGoJ J L C FT ops l s K
      | true => sGoJ J L C FT ops l (SS.put ⟨(t, .bool false) :: s.env, s.objs⟩ o.dst .und) K)
    | .v (.c .und) => sGoJ J L C FT ops l (s.put o.dst .und) K
    | _ => none
def gentleO : Op → Bool
 | .alloc _ => true
 | .box _ _ => true
 | .buildSlice _ _ _ => true
 | .makeSlice _ _ _ => true
 | _ => false
def isBS : Op → Bool
 | .buildSlice _ _ _ => true
 | _ => false
def nlCV : CV → Bool
 | .own _ => false
 | .msl _ _ _ _ => false
 | .ref _ _ _ _ => false
 | .wrp _ _ => false
 | _ => true
def nlVV : VV → Bool
 | .c x => nlCV x
 | .g l => l.all nlCV
def nlSV : SV → Bool
 | .v x => nlVV x
 | .tup l => l.all nlVV
def dstJ (ops : Array Oper) (j : Nat) : Option Tmp := (ops[j]?).bind (·.dst)
def flB (C : Cfg) (ops : Array Oper) (l : List (Nat × Nat)) (s : SS) (i : Nat) : Bool := match ops[i]? with
 | none => false
 | some o => match o.dst with
  | none => false
  | some d => cleanB d s && o.op.operands.toList.all fun x => match x with
   | .tmp t => (l.any fun p => dstJ ops p.2 == some t) || nlSV (s.get C.N t)
   | _ => true
def flsB (C : Cfg) (ops : Array Oper) (l : List (Nat × Nat)) (s : SS) : Bool := l.all fun p => !(Nat.ble 4 p.1) || flB C ops l s p.2
def reach (ops : Array Oper) : Nat → Nat → Nat → Bool
 | 0, _, _ => false
 | d + 1, i, j => match ops[i]? with
  | some o => o.after.toList.any fun e => Region.binds .any e && (e.on == j || reach ops d e.on j)
  | none => false
def nmCV : CV → List Nat
 | .own n => [n]
 | .msl n _ _ _ => [n]
 | .ref n _ _ _ => [n]
 | .wrp _ ns => ns.map (·.1)
 | _ => []
def nmVV : VV → List Nat
 | .c x => nmCV x
 | .g l => l.flatMap nmCV
def nmSV : SV → List Nat
 | .v x => nmVV x
 | .tup l => l.flatMap nmVV
def tnS (C : Cfg) (s : SS) (o : Oper) : List Nat := o.dst.getD 999998 :: o.op.operands.toList.flatMap fun y => nmSV (sev C s y)
def tnE (C : Cfg) (s : SS) (o : Oper) : List Nat := match o.dst, o.op with
 | none, .store _ _ y => match nlSV (sev C s y) with
  | true => [999998]
  | false => tnS C s o
 | d, .call { callee := .value (.func _), args, argTypes := _ } => match (firstC (args.toList.flatMap fun y => cellsOfS (sev C s y))).isNone with
  | true => [d.getD 999998]
  | false => tnS C s o
 | d, .call { callee := .builtin .append, args, argTypes := _ } => match args.toList with
  | [x, _] => d.getD 999998 :: nmSV (sev C s x)
  | _ => tnS C s o
 | _, _ => tnS C s o
def tnR (C : Cfg) (s : SS) (o : Oper) (op : Op) : List Nat := match op with
 | .move _ => tnE C s o
 | _ => tnS C s o
def stB (C : Cfg) (ops : Array Oper) (s : SS) (T : Op → List Nat) (i : Nat) : Bool := match ops[i]? with
 | none => false
 | some o => match o.dst with
  | none => false
  | some t => (T o.op).all fun m => clSV m (lkE s.env t) && o.op.operands.toList.all fun y => clSV m (sev C s y)
def sGoW {R : Type} (C : Cfg) (FT : List (Nat × Entry)) (ops : Array Oper) : List Nat → List (Nat × Nat) → SS → (SS → Option R) → Option R
 | _, [], s, K => K s
 | dn, (k, i) :: l, s, K => match flsB C ops ((k, i) :: l) s with
  | false => none
  | true => match ops[i]? with
  | none => none
  | some o => match Nat.ble 2 k with
   | false => match sR C s o.op with
    | some (c, x) => need c (sGoW C FT ops (i :: dn) l (s.put o.dst x) K)
    | none => none
   | true => match Nat.ble 4 k with
    | false => match dn.all fun j => reach ops 3 i j || stB C ops s (tnR C s o) j with
     | true => sOp C FT false s o.dst o.op fun s => sGoW C FT ops dn l s K
     | false => none
    | true => match k with
     | 5 => match isBS o.op with
      | true => sOp C FT false s o.dst o.op fun s => match freezeS (o.dst.getD 999998) s with
       | some s => sGoW C FT ops dn l s K
       | none => none
      | false => none
     | _ => match gentleO o.op with
      | true => sOp C FT false s o.dst o.op fun s => sGoW C FT ops dn l s K
      | false => none
def shG (n : Nat) : Option (Nat × Bool) → Option (Nat × Bool)
 | none => none
 | some (c, b) => match Nat.ble n c with | true => some (c - n, b) | false => none
def cutP (t : Nat) (b : Bool) : Op → Op
 | .pick (.tmp q) x y => match Nat.beq q t with
  | true => .move (match b with | true => x | false => y)
  | false => .pick (.tmp q) x y
 | op => op
def shT (n t : Nat) (b : Bool) (o : Oper) : Oper := ⟨o.dst, cutP t b o.op, o.type, o.pos, ((o.after.toList.filter fun e => Nat.ble n e.on).map fun e => ⟨e.on - n, e.ground⟩).toArray, shG n o.guard⟩
def tailA (ops : Array Oper) (n t : Nat) (b : Bool) : Array Oper := ((ops.toList.drop n).map (shT n t b)).toArray
def wantB : Bool → Bool → Bool
 | true, x => x
 | false, x => bNot x
def sGoC {R : Type} (C : Cfg) (FT : List (Nat × Entry)) : RM → Array Oper → SS → (SS → Option R) → Option R
 | .w _ ord, ops, s, K => sGoW C FT ops [] ord s K
 | .c n _ t b ord m, ops, s, K => sGoW C FT ops [] ord s fun s => match asK (sev C s (.tmp t)) with
  | some (.bool x) => br (wantB b x) (sGoC C FT m (tailA ops n t b) s K) none
  | _ => none
 | _, _, _, _ => none
def hintOf : HT → Option (RM × Hint)
 | .r m => some (m, [])
 | .ri m L => some (m, L)
 | _ => none
def iter {σ R : Type} : Nat → ((σ → Option R) → σ → Option R) → σ → Option R
 | 0, _, _ => none
 | n + 1, F, z => F (iter n F) z
def joinK {σ R : Type} (k : σ → Option R) (f : (σ → Option R) → Option R) : Option R := f k
def exec {R : Type} (C : Cfg) (FT : List (Nat × Entry)) (pins : List Nat) (J : JT R) : Code → HT → SS → (Exit → SS → Option R) → Option R
 | .skip, _, s, k => k .normal s
 | .exit id, _, s, k => k (.exit id) s
 | .ret, _, s, k => k .ret s
 | .region _ ops draw, h, s, k => match hintOf h with
  | some (m, L) => match draw, m with
   | false, .x => sGoJ J L C FT ops.toList ops.toList s (k .normal)
   | true, .q => sGo C FT true ops.toList ops.toList s (k .normal)
   | true, .qt n => sGo C FT true ops.toList (ops.toList.take n) s fun s => sGoJ J L C FT ops.toList (ops.toList.drop n) s (k .normal)
   | true, .da n => sGo C FT true ops.toList (ops.toList.take n) s fun s => match ops.toList.drop n with
    | o :: tl => sGo C FT false ops.toList [o] (s.put o.dst .und) fun s => sGoJ J L C FT ops.toList tl s (k .normal)
    | [] => none
   | true, .w n ord => sGoW C FT ops [] ord s fun s => sGoJ J L C FT ops.toList (ops.toList.drop n) s (k .normal)
   | true, .c n c t b ord m => sGoC C FT (.c n c t b ord m) ops s (k .normal)
   | _, _ => none
  | none => none
 | .seq x y, .n a b, s, k => exec C FT pins J x a s fun e s' => match e with
  | .normal => exec C FT pins J y b s' k
  | e => k e s'
 | .seq x y, .j p a b, s, k => joinK (fun z => exec C FT pins J y b (p.enc z) k) fun j => exec C FT pins J x a s fun e s' => match e with
  | .normal => trimB C.N p.trims s' fun s' => match p.dec C.N pins s' with
   | some z => j z
   | none => none
  | e => k e s'
 | .cond c x y, .n a b, s, k => match asK (sev C s c) with
  | some (.bool t) => br t (exec C FT pins J x a s k) (exec C FT pins J y b s k)
  | _ => none
 | .block id x, .u a, s, k => exec C FT pins J x a s fun e s' => match e with
  | .exit i => if i = id then k .normal s' else k (.exit i) s'
  | e => k e s'
 | .loop x, .l p a, s, k => trimB C.N p.trims s fun s => match p.dec C.N pins s with
  | some z => iter C.fuel (fun rec z => exec C FT pins J x a (p.enc z) fun e s' => match e with
   | .normal => trimB C.N p.trims s' fun s' => match p.dec C.N pins s' with
    | some z' => rec z'
    | none => none
   | e => k e s') z
  | none => none
 | _, _, _, _ => none
def pinsOf : List AT → Nat → List Nat
 | [], _ => []
 | .bx _ :: l, i => (900000 + i) :: pinsOf l (i + 1)
 | .v _ :: l, i => pinsOf l (i + 1)
def argE : (l : List AT) → Nat → argsT l → List (Nat × SV)
 | [], _, _ => []
 | .v c :: l, i, x => (i, c.sv x.1) :: argE l (i + 1) x.2
 | .bx ts :: l, i, x => (i, .v (.c (.ref (900000 + i) ts.len 0 0))) :: argE l (i + 1) x.2
def argO : (l : List AT) → Nat → argsT l → SObjs
 | [], _, _ => []
 | .v _ :: l, i, x => argO l (i + 1) x.2
 | .bx ts :: l, i, x => (900000 + i, .box ((ts.kvs x.1).map CV.k)) :: argO l (i + 1) x.2
def resS1 (C : Cfg) (s : SS) : ResultVar → Option SV
 | .tmp t => some (s.get C.N t)
 | .cell b T => match asC (s.get C.N b), lkT C.G T with
  | some (.ref n sz i off), some D => match sCells s.objs n sz i off with
   | some ([], cs) => (ldC D.cell cs).map SV.v
   | _ => none
  | _, _ => none
def resS (C : Cfg) (s : SS) : List ResultVar → Nat → Option (List (Nat × SV))
 | [], _ => some []
 | r :: l, i => match resS1 C s r, resS C s l (i + 1) with
  | some x, some xs => some ((i, x) :: xs)
  | _, _ => none
def tysPC : Tys → List PC
 | .nil => []
 | .cons t ts => .d t :: tysPC ts
def pinsP : List AT → Nat → List (Nat × PObj)
 | [], _ => []
 | .bx ts :: l, i => (900000 + i, .box (tysPC ts)) :: pinsP l (i + 1)
 | .v _ :: l, i => pinsP l (i + 1)
def tupP : List CT → Nat → List (Nat × PSlot)
 | [], _ => []
 | c :: l, i => (i, .d c) :: tupP l (i + 1)
def retPlan (g : Sig) (N : Nat) : Plan := match g.ret with
 | .v c => ⟨[(N, .d c)], pinsP g.args 0, []⟩
 | .tup l => ⟨tupP l N, pinsP g.args 0, []⟩
 | .own ts => ⟨[(N, .own rn)], (rn, .arr ts) :: pinsP g.args 0, []⟩
 | .box ts => ⟨[(N, .ref rn ts.len)], (rn, .box (tysPC ts)) :: pinsP g.args 0, []⟩
 | .unit => ⟨[], pinsP g.args 0, []⟩
def tysBack : (ts : Tys) → (dtsP (tysPC ts)).T → ts.T
 | .nil, _ => ()
 | .cons _ ts, x => (x.1, tysBack ts x.2)
def outsBack : (l : List AT) → (i : Nat) → objsT (pinsP l i) → outsT (bxsOf l)
 | [], _, _ => ()
 | .v _ :: l, i, x => outsBack l (i + 1) x
 | .bx ts :: l, i, x => (tysBack ts x.1, outsBack l (i + 1) x.2)
def tupBack {R : Type} : (l : List CT) → (i : Nat) → slotsT R (tupP l i) → compsT l × R
 | [], _, x => ((), x)
 | _ :: l, i, x => ((x.1, (tupBack l (i + 1) x.2).1), (tupBack l (i + 1) x.2).2)
def retBack (N : Nat) : (g : Sig) → (retPlan g N).T → g.R
 | ⟨args, .v _⟩, x => (x.1, outsBack args 0 x.2)
 | ⟨args, .tup l⟩, x => ((tupBack l N x).1, outsBack args 0 (tupBack l N x).2)
 | ⟨args, .own _⟩, x => (x.1, outsBack args 0 x.2)
 | ⟨args, .box ts⟩, x => (tysBack ts x.1, outsBack args 0 x.2)
 | ⟨args, .unit⟩, x => ((), outsBack args 0 x)
def finK (C : Cfg) (g : Sig) (rv : List ResultVar) (e : Exit) (s : SS) : Option g.R :=
 match e with
 | .normal | .ret => match resS C s rv C.N with
  | some xs => match (retPlan g C.N).dec (C.N + rv.length) (pinsOf g.args 0) ⟨xs ++ s.env, s.objs⟩ with
   | some z => some (retBack C.N g z)
   | none => none
  | none => none
 | _ => none
def daOk (ops : Array Oper) (n : Nat) : Bool := match ops.toList.drop n with
 | o :: _ => (match o.op, o.dst, o.guard with
  | .alloc _, some d, none => Region.lexTailB .any ops (n + 1) && aloneB ops (n + 1) n d
  | _, _, _ => false)
 | [] => false
def isFun : Op → Bool
 | .call { callee := .value (.func _), .. } => true
 | _ => false
def wB1 (ops : Array Oper) (n i : Nat) : Bool := match ops[i]? with
 | none => false
 | some o => o.guard.isNone && ((o.after.toList.all fun e => !Region.binds .any e || decide (e.on < i)) && ((o.looksAt ops).all fun t => (List.range n).all fun j => !(dstJ ops j == some t) || (o.after.toList.any fun e => Region.binds .any e && e.on == j)))
def clearB (ops : Array Oper) (q p : Nat) : Bool := match ops[q]?, dstJ ops p with
 | some o, some t => !((o.looksAt ops).contains t) && !(o.dst == some t)
 | some _, none => true
 | none, _ => false
def selfB (ops : Array Oper) (i : Nat) : Bool := match ops[i]? with
 | some o => (match o.dst with | some t => !((o.looksAt ops).contains t) | none => true)
 | none => false
def flS (ops : Array Oper) (k i : Nat) (l : List (Nat × Nat)) : Bool := match dstJ ops i with
 | some d => !(d == 999998) && (k == 5 || l.all fun p => !(Nat.ble 4 p.1) || (match ops[p.2]? with | some o => !((o.looksAt ops).contains d) | none => false))
 | none => false
def wB2 (ops : Array Oper) : Option Nat → List Nat → List (Nat × Nat) → Bool
 | _, _, [] => true
 | cur, fl, (k, i) :: l => (selfB ops i && l.all fun p => clearB ops i p.2) &&
  (match Nat.ble 4 k with
  | true => flS ops k i l && wB2 ops cur (i :: fl) l
  | false => ((match cur with | none => true | some e => reach ops 3 i e) && fl.all fun e => reach ops 3 i e) &&
   (match Nat.ble 2 k with
   | true => wB2 ops (some i) [] l
   | false => wB2 ops cur fl l))
def wB (ops : Array Oper) (n : Nat) (ord : List (Nat × Nat)) : Bool :=
 (ord.all fun p => decide (p.2 < n)) && ((List.range n).all (fun i => (ord.map (·.2)).contains i) && (nodupB (ord.map (·.2)) && ((List.range n).all (wB1 ops n) && wB2 ops none [] ord)))
def wfB (ops : Array Oper) (j i : Nat) : Bool := match ops[j]? with
 | some o => o.after.toList.any fun e => Region.binds .any e && e.on == i
 | none => false
def cutB (ops : Array Oper) (n c t : Nat) (b : Bool) : Bool :=
 (decide (n ≤ ops.size) && (decide (c < n) && dstJ ops c == some t)) &&
 (((List.range n).all fun i => i == c || (List.range n).any fun j => decide (i < j) && wfB ops j i) &&
 ((List.range (ops.size - n)).all fun j => match ops[n + j]? with
  | none => false
  | some o => (o.after.toList.any fun e => Region.binds .any e && (e.on == c || decide (n ≤ e.on))) && (!(o.dst == some t) && (match o.guard with | none => true | some (g, x) => decide (n ≤ g) || (g == c && x == b)))))
def cB : RM → Array Oper → Bool
 | .w n ord, ops => decide (n = ops.size) && wB ops n ord
 | .c n c t b ord m, ops => (wB ops n ord && cutB ops n c t b) && cB m (tailA ops n t b)
 | _, _ => false
def okC : Code → HT → Bool
 | .region _ ops draw, h => match hintOf h with
  | some (m, _) => Region.noSelect ops && (noDef ops && (match draw, m with
   | true, .q => Region.lexB .any ops
   | true, .qt n => Region.lexTailB .any ops n
   | true, .da n => daOk ops n
   | true, .w n ord => (Region.lexTailB .any ops n || decide (n = ops.size)) && wB ops n ord
   | true, .c n c t b ord m => cB (.c n c t b ord m) ops
   | _, _ => true))
  | none => true
 | .seq x y, .n a b => okC x a && okC y b
 | .seq x y, .j _ a b => okC x a && okC y b
 | .cond _ x y, .n a b => okC x a && okC y b
 | .block _ x, .u a => okC x a
 | .loop x, .l _ a => okC x a
 | _, _ => true
structure Inl where
 n : Nat
 rv : List ResultVar
 code : Code
def lkI : List (Nat × Inl) → Nat → Option Inl
 | [], _ => none
 | (m, x) :: r, n => if m = n then some x else lkI r n
def argsE : Nat → List SV → List (Nat × SV)
 | _, [] => []
 | i, x :: l => (i, x) :: argsE (i + 1) l
def trimE (N : Nat) : List (Nat × SV) → List (Nat × SV)
 | [] => []
 | (n, x) :: r => if Nat.ble N n = true then trimE N r else (n, x) :: trimE N r
def shR (k : Nat) : ResultVar → ResultVar
 | .tmp t => .tmp (k + t)
 | .cell b T => .cell (k + b) T
def vsOf : List (Nat × SV) → Option (List VV)
 | [] => some []
 | (_, .v x) :: l => match vsOf l with
  | some r => some (x :: r)
  | none => none
 | _ => none
def oneR : List (Nat × SV) → Option SV
 | [(_, x)] => some x
 | l => match vsOf l with
  | some r => some (.tup r)
  | none => none
def inlJ {R : Type} (IT : List (Nat × Inl)) (E : Cfg → Code → HT → SS → (Exit → SS → Option R) → Option R) : JT R := fun C f xs gap ht s K =>
 match lkI IT f with
 | none => none
 | some i => match Nat.ble xs.length i.n && okC (shC (C.N + gap) i.code) ht with
  | false => none
  | true => E { G := C.G, N := C.N + gap + i.n, fuel := C.fuel, M := C.M } (shC (C.N + gap) i.code) ht ⟨argsE (C.N + gap) xs ++ trimE C.N s.env, s.objs⟩ fun e s' => match e with
   | .normal | .ret => match resS { G := C.G, N := C.N + gap + i.n, fuel := C.fuel, M := C.M } s' (i.rv.map (shR (C.N + gap))) 0 with
    | some rs => match oneR rs with
     | some x => K x ⟨trimE C.N s'.env, s'.objs⟩
     | none => none
    | none => none
   | _ => none
def exJ {R : Type} (FT : List (Nat × Entry)) (pins : List Nat) (IT : List (Nat × Inl)) : Nat → JT R
 | 0 => fun _ _ _ _ _ _ _ => none
 | d + 1 => inlJ IT fun C c h s k => exec C FT pins (exJ FT pins IT d) c h s k
def call (G : List (Nat × TD)) (M : MTab) (FT : List (Nat × Entry)) (IT : List (Nat × Inl)) (dep : Nat) (g : Sig) (N : Nat) (rv : List ResultVar) (c : Code) (h : HT) (fuel : Nat) (x : argsT g.args) : Option g.R :=
 exec ⟨G, N, fuel, M⟩ FT (pinsOf g.args 0) (exJ FT (pinsOf g.args 0) IT dep) c h ⟨argE g.args 0 x, argO g.args 0 x⟩ (finK ⟨G, N, fuel, M⟩ g rv)
end Go.Abs
namespace Go.Abs
open Go.RowKit
variable {c : List Bool}
theorem kv_av : ∀ (t : Ty) (x : t.T), (t.kv x).av = t.av x
 | .int _, _ => rfl
 | .bool, _ => rfl
 | .str, _ => rfl
 | .sl _, _ => rfl
theorem kvs_av : ∀ (ts : Tys) (x : ts.T), (ts.kvs x).map KV.av = ts.avs x
 | .nil, _ => rfl
 | .cons t ts, x => by simp only [Tys.kvs, Tys.avs, List.map_cons, kv_av, kvs_av ts]
theorem kvs_len : ∀ (ts : Tys) (x : ts.T), (ts.kvs x).length = ts.len
 | .nil, _ => rfl
 | .cons t ts, x => by simp only [Tys.kvs, Tys.len, List.length_cons, kvs_len ts]
theorem avs_len (ts : Tys) (x : ts.T) : (ts.avs x).length = ts.len := by rw [← kvs_av, List.length_map, kvs_len]
theorem lookS_av (O : SObjs) (n : Nat) : ∀ O' : SObjs, look n (objsAV O O') = (lookS n O').map (SO.av O)
 | [] => rfl
 | (m, o) :: r => by
  have ih := lookS_av O n r
  by_cases h : m = n <;> simp [objsAV, look, lookS, h, ih]
theorem st_get (N : Nat) (s : SS) (t : Nat) : (s.st N).env.getD t .any = (s.get N t).av s.objs := by
 unfold SS.get SS.st
 by_cases h : t < N
 ·simp [h, List.getD]
 ·simp [h, List.getD, SV.any, SV.av, VV.av, CV.av]
theorem st_len (N : Nat) (s : SS) : (s.st N).env.length = N := by simp [SS.st]
theorem ofCS_av (O : SObjs) (v : Value) : (ofCS v).av O = ofC v := by
 unfold ofCS ofC
 split
 ·rfl
 ·rfl
 ·rename_i s
  by_cases h : s.size ≤ lim <;> simp [h, CV.av, KV.av]
 ·rfl
 ·rfl
 ·rfl
 ·rfl
 ·rename_i h1 h2 h3 h4 h5 h6 h7
  split
  ·exact (h1 _ _ rfl).elim
  ·exact (h2 _ rfl).elim
  ·exact (h3 _ rfl).elim
  ·exact (h4 rfl).elim
  ·exact (h5 rfl).elim
  ·exact (h6 rfl).elim
  ·exact (h7 rfl).elim
  ·rfl
theorem ofVS_av (O : SObjs) (v : Value) : (ofVS v).av O = ofV v := by
 unfold ofVS ofV
 split
 ·rename_i cs
  by_cases h : (cs.toList.all (·.oneCell')) = true
  ·simp only [h, if_true, SV.av, VV.av, List.map_map]
   have : (CV.av O ∘ ofCS) = ofC := funext fun x => ofCS_av O x
   rw [this]
  ·simp only [h, Bool.false_eq_true, if_false]; rfl
 ·simp only [SV.av, VV.av, ofCS_av]
theorem sev_av (C : Cfg) (s : SS) (o : Operand) : (sev C s o).av s.objs = ev (s.st C.N).env o := by
 cases o with
 | tmp t => simp only [sev, ev, st_get]
 | const v => simp only [sev, ev, ofVS_av]
 | global g =>
  simp only [sev, ev, gtab, lkG_map]
  cases lkGS gtabS g with
  | none => rfl
  | some e =>
   obtain ⟨ts, l⟩ := e
   match l with
   | [] => rfl
   | [x] => simp only [SV.av, VV.av, CV.av, Option.map_some, kvs_av, List.flatMap_cons, List.flatMap_nil, List.append_nil]
   | x :: y :: l => rfl
 | func f => rfl
theorem put_st (N : Nat) (s : SS) (dst : Option Tmp) (x : SV) : (s.put dst x).st N = ⟨putA (s.st N).env dst (x.av s.objs), (s.st N).objs⟩ := by
 cases dst with
 | none => rfl
 | some d =>
  simp only [SS.put, SS.st, putA]
  congr 1
  apply List.ext_getElem?
  intro i
  simp only [List.getElem?_map, List.getElem?_set, List.length_map, List.length_range]
  by_cases hi : i < N
  ·by_cases hd : d = i
   ·subst hd; simp [lkE, hi]
   ·simp [lkE, hd, hi]
  ·simp [hi]
   intro h1; omega
theorem ck_av (O : SObjs) (l : List KV) : (l.map CV.k).map (CV.av O) = l.map KV.av := by
 rw [List.map_map]; rfl
theorem kvs_cav (O : SObjs) (ts : Tys) (x : ts.T) : ((ts.kvs x).map CV.k).map (CV.av O) = ts.avs x := by rw [ck_av, kvs_av]
theorem to_kv : ∀ (t : Ty) (v : KV) (x : t.T), v.to t = some x → v = t.kv x
 | .int k, .int k' n, x, h => by
  simp only [KV.to] at h
  split at h
  ·rename_i e; subst e; simp only [Option.some.injEq] at h; subst h; rfl
  ·cases h
 | .bool, .bool b, x, h => by simp only [KV.to, Option.some.injEq] at h; subst h; rfl
 | .str, .str s, x, h => by simp only [KV.to, Option.some.injEq] at h; subst h; rfl
 | .sl ts, .sl us l, x, h => by
  simp only [KV.to] at h
  split at h
  ·rename_i hb
   have e := Tys.beq_eq us ts hb
   subst e
   simp only [Option.some.injEq] at h; subst h; rfl
  ·cases h
 | .int _, .bool _, x, h => by simp [KV.to] at h
 | .int _, .str _, x, h => by simp [KV.to] at h
 | .int _, .sl _ _, x, h => by simp [KV.to] at h
 | .bool, .int _ _, x, h => by simp [KV.to] at h
 | .bool, .str _, x, h => by simp [KV.to] at h
 | .bool, .sl _ _, x, h => by simp [KV.to] at h
 | .str, .int _ _, x, h => by simp [KV.to] at h
 | .str, .bool _, x, h => by simp [KV.to] at h
 | .str, .sl _ _, x, h => by simp [KV.to] at h
 | .sl _, .int _ _, x, h => by simp [KV.to] at h
 | .sl _, .bool _, x, h => by simp [KV.to] at h
 | .sl _, .str _, x, h => by simp [KV.to] at h
def allT : List Bool → Prop
 | [] => True
 | b :: l => b = true ∧ allT l
theorem need_some {α : Type} {r : α} : ∀ {l : List Bool} {m : Option α}, need l m = some r → allT l ∧ m = some r
 | [], m, h => ⟨trivial, h⟩
 | c :: l, m, h => by
  simp only [need, br] at h
  split at h
  ·rename_i hc
   obtain ⟨h1, h2⟩ := need_some h
   exact ⟨⟨hc, h1⟩, h2⟩
  ·cases h
theorem allT_append : ∀ {a b : List Bool}, allT (a ++ b) → allT a ∧ allT b
 | [], b, h => ⟨trivial, h⟩
 | x :: a, b, h => by
  obtain ⟨h1, h2⟩ := allT_append (a := a) h.2
  exact ⟨⟨h.1, h1⟩, h2⟩
theorem inR_spec {n : Int} {len : Nat} (h : inR n len = true) : 0 ≤ n ∧ n < len := by simpa [inR] using h
theorem inCut_spec {l h : Int} {len : Nat} (hh : inCut l h len = true) : 0 ≤ l ∧ l ≤ h ∧ h ≤ len := by simpa [inCut] using hh
theorem sib_sound {op : BinOp} {k : IntKind} {a b : Int} {v : KV} (h : sib op k a b = some (c, v)) (hc : allT c) : ibin op k a b = some v.av := by
 cases op <;> simp only [sib, Option.some.injEq, Prod.mk.injEq] at h <;> obtain ⟨rfl, rfl⟩ := h <;> simp only [ibin, KV.av, iWrap, iAdd, iSub, iMul, iQuo, iRem, iAnd, iOr, iXor, iAndNot, iShl, iShr, bEq, bNe, bLt, bLe]
 ·have h0 : b ≠ 0 := by simpa [allT, bNe] using hc
  rw [if_neg h0]
 ·have h0 : b ≠ 0 := by simpa [allT, bNe] using hc
  rw [if_neg h0]
 ·have h0 : 0 ≤ b := by simpa [allT, bLe] using hc
  rw [if_neg (by omega)]
 ·have h0 : 0 ≤ b := by simpa [allT, bLe] using hc
  rw [if_neg (by omega)]
theorem ssb_sound {op : BinOp} {a b : List UInt8} {v : KV} (h : ssb op a b = some (c, v)) (hc : allT c) : sbin op a b = some v.av := by
 cases op <;> simp only [ssb, Option.some.injEq, Prod.mk.injEq, reduceCtorEq] at h <;> obtain ⟨rfl, rfl⟩ := h <;> simp only [sbin, KV.av, sIs, bNot, bOr, lApp]
 have h0 : a.length + b.length ≤ lim := of_decide_eq_true hc.1
 rw [if_pos h0]
def tyKs : List TypeDesc → Tys → Bool
 | [], .nil => true
 | .int k :: l, .cons (.int k') ts => decide (k = k') && tyKs l ts
 | .bool :: l, .cons .bool ts => tyKs l ts
 | .string :: l, .cons .str ts => tyKs l ts
 | _, _ => false
def eqOk (P : Program) (T : TypeId) (ts : Tys) : Bool := (match P.underlying T with | some (.struct _) => true | _ => false) && !(P.eqGuardType P.depth T) && (match eqPlan P 20 T with | some ks => tyKs ks ts | none => false)
def funcT (P : Program) (T : TypeId) : Bool := match P.underlying T with
 | some (.func _ _ _) => true
 | _ => false
def nlOk (P : Program) (T : TypeId) : KC → Bool
 | .nilP => ptrZ P T
 | .nilI => ifaceT P T
 | .nilF => funcT P T
 | .fn _ => false
def mapT (P : Program) (T : TypeId) : Option (IntKind × TypeId) := match P.underlying T with
 | some (.map K E) => match P.underlying K with
  | some (.int k) => some (k, E)
  | _ => none
 | _ => none
def mapOkB (P : Program) (T : TypeId) (kk k : IntKind) : Bool := match mapT P T with
 | some (kk', E) => decide (kk' = kk) && (match P.info? E with
  | some i => (match i.zero with
   | some (.int k' n) => decide (k' = k) && decide (n = 0)
   | _ => false)
  | none => false)
 | none => false
def TD.ok (P : Program) (T : TypeId) : TD → Prop
 | .map kk k => mapOkB P T kk k = true ∧ cellTy P T = some (false, 1)
 | .nl c => nlOk P T c = true ∧ cellTy P T = some (false, 1) ∧ zeroCells P T = some [.cst c.val] ∧ arrElem P T = none
 | .int k => intTy P T = some k ∧ cellTy P T = some (false, 1) ∧ zeroCells P T = some [.int k 0] ∧ arrElem P T = none
 | .bool => boolTy P T = true ∧ cellTy P T = some (false, 1) ∧ zeroCells P T = some [.bool false] ∧ arrElem P T = none
 | .str => strTy P T = true ∧ cellTy P T = some (false, 1) ∧ zeroCells P T = some [.str []] ∧ arrElem P T = none
 | .slice ts b => sliceElem P T = some ts.len ∧ (elemId P T).bind (sizeB P) = some b ∧ (elemId P T).bind (zeroCells P) = some (ts.zc.map (CV.av [])) ∧ cellTy P T = some (false, 1) ∧
   zeroCells P T = some [.nsl] ∧ arrElem P T = none ∧ (ts.beq byteTs = true → byteSl P T = true)
 | .struct ts fs eq => cellTy P T = some (true, ts.len) ∧ (∀ k r, fs[k]? = some r → fieldOf P T k = some r) ∧ places P T = some (fs.map fun f => (f.1, f.2.2)) ∧ zeroCells P T = some (ts.zc.map (CV.av [])) ∧
   arrElem P T = none ∧ (eq = true → eqOk P T ts = true)
 | .arr n ts => arrElem P T = some (n, ts.len) ∧ cellTy P T = some (true, n * ts.len) ∧ n ≤ lim ∧ ∃ z, zeroCells P T = some z ∧ n * ts.len = z.length ∧ chunk ts.len n z = List.replicate n (ts.zc.map (CV.av []))
def Good (P : Program) (G : List (Nat × TD)) : Prop := ∀ T d, lkT G T = some d → d.ok P T
theorem TD.ok_und {P : Program} {T : TypeId} {d : TD} (h : d.ok P T) : (P.underlying T).isSome = true := by
 have key : ∀ r, cellTy P T = some r → (P.underlying T).isSome = true := by
  intro r h
  unfold cellTy at h
  cases hu : P.underlying T with
  | none => simp [hu] at h
  | some _ => rfl
 cases d with
 | int k => exact key _ h.2.1
 | bool => exact key _ h.2.1
 | str => exact key _ h.2.1
 | slice ts b => exact key _ h.2.2.2.1
 | struct ts fs eq => exact key _ h.1
 | arr n ts => exact key _ h.2.1
 | nl c => exact key _ h.2.1
 | map _ _ => exact key _ h.2
theorem TD.ok_cell {P : Program} {T : TypeId} {d : TD} (h : d.ok P T) : cellTy P T = some d.cell := by
 cases d with
 | int k => exact h.2.1
 | bool => exact h.2.1
 | str => exact h.2.1
 | slice ts b => exact h.2.2.2.1
 | struct ts fs eq => exact h.1
 | arr n ts => exact h.2.1
 | nl c => exact h.2.1
 | map _ _ => exact h.2
theorem zc_av : ∀ (ts : Tys) (O O' : SObjs), ts.zc.map (CV.av O) = ts.zc.map (CV.av O')
 | .nil, _, _ => rfl
 | .cons t ts, O, O' => by
  simp only [Tys.zc, List.map_cons, zc_av ts O O']
  cases t <;> rfl
theorem zc_len : ∀ ts : Tys, ts.zc.length = ts.len
 | .nil => rfl
 | .cons _ ts => by simp only [Tys.zc, Tys.len, List.length_cons, zc_len ts]
theorem seqL_sound {O : SObjs} : ∀ {ks : List TypeDesc} {ts : Tys} {a b : List CV} {r : Bool}, tyKs ks ts = true → seqL ts a b = some r → eqL ks (a.map (CV.av O)) (b.map (CV.av O)) = some r := by
 intro ks
 induction ks with
 | nil =>
  intro ts a b r hk h
  cases ts with
  | nil =>
   cases a <;> cases b <;> simp [seqL] at h
   subst h; rfl
  | cons t ts => simp [tyKs] at hk
 | cons d ks ih =>
  intro ts a b r hk h
  cases ts with
  | nil => cases d <;> simp [tyKs] at hk
  | cons t ts =>
   unfold seqL at h
   split at h
   ·rename_i e; cases e
   ·rename_i k ts' k1 a xs k2 b ys e
    cases e
    split at h
    ·rename_i hkk
     obtain ⟨rfl, rfl⟩ := hkk
     split at h
     ·rename_i q hq
      simp only [Option.some.injEq] at h; subst h
      cases d <;> simp only [tyKs, Bool.and_eq_true, decide_eq_true_eq, Bool.false_eq_true] at hk
      obtain ⟨rfl, hk⟩ := hk
      simp only [List.map_cons, CV.av, KV.av, eqL, eqT, if_true, ih hk hq]
      rfl
     ·cases h
    ·cases h
   ·rename_i ts' a xs b ys e
    cases e
    split at h
    ·rename_i q hq
     simp only [Option.some.injEq] at h; subst h
     cases d <;> simp only [tyKs, Bool.false_eq_true] at hk
     simp only [List.map_cons, CV.av, KV.av, eqL, eqT, ih hk hq]
     rfl
    ·cases h
   ·rename_i ts' a xs b ys e
    cases e
    split at h
    ·rename_i q hq
     simp only [Option.some.injEq] at h; subst h
     cases d <;> simp only [tyKs, Bool.false_eq_true] at hk
     simp only [List.map_cons, CV.av, KV.av, eqL, eqT, ih hk hq]
     rfl
    ·cases h
   ·cases h
theorem sbop_sound {P : Program} {G : List (Nat × TD)} (hG : Good P G) {O : SObjs} {T : TypeId} {op : BinOp} {x y : SV} {v : KV} (h : sbop G T op x y = some (c, v)) (hc : allT c) :
  bop P T op (x.av O) (y.av O) = some v.av := by
 unfold sbop at h
 split at h
 ·rename_i a b
  split at h
  ·rename_i k a k' b
   simp only [SV.av, VV.av, CV.av, KV.av, bop]
   split at h
   ·rename_i hk
    rw [if_pos hk]
    exact sib_sound h hc
   ·cases h
  ·rename_i a b
   simp only [SV.av, VV.av, CV.av, KV.av, bop]
   exact ssb_sound h hc
  ·rename_i a b
   simp only [SV.av, VV.av, CV.av, KV.av, bop]
   split at h
   ·rename_i e1
    have := hG T _ e1
    simp only [Option.some.injEq, Prod.mk.injEq] at h; obtain ⟨_, rfl⟩ := h
    rw [if_pos this.1]; rfl
   ·rename_i e1
    have := hG T _ e1
    simp only [Option.some.injEq, Prod.mk.injEq] at h; obtain ⟨_, rfl⟩ := h
    rw [if_pos this.1]; rfl
   ·cases h
  ·cases h
 ·rename_i a b
  simp only [SV.av, VV.av, bop]
  have key : ∀ ts fs r, lkT G T = some (.struct ts fs true) → seqL ts a b = some r → eqAgg P T (a.map (CV.av O)) (b.map (CV.av O)) = some r := by
   intro ts fs r e hr
   have hq := (hG T _ e).2.2.2.2.2 rfl
   unfold eqOk at hq
   simp only [Bool.and_eq_true, Bool.not_eq_true'] at hq
   obtain ⟨⟨h1, h2⟩, h3⟩ := hq
   unfold eqAgg
   split at h1
   ·rename_i fs' hu
    simp only [hu, h2, if_true]
    split at h3
    ·rename_i ks hks
     simp only [hks]
     exact seqL_sound h3 hr
    ·cases h3
   ·cases h1
  split at h
  ·rename_i ts fs e1
   cases hs : seqL ts a b with
   | none => simp [hs] at h
   | some r =>
    simp only [hs, Option.map_some, Option.some.injEq, Prod.mk.injEq] at h
    obtain ⟨_, rfl⟩ := h
    simp only [key ts fs r e1 hs, Option.map_some, KV.av]
  ·rename_i ts fs e1
   cases hs : seqL ts a b with
   | none => simp [hs] at h
   | some r =>
    simp only [hs, Option.map_some, Option.some.injEq, Prod.mk.injEq] at h
    obtain ⟨_, rfl⟩ := h
    simp only [key ts fs r e1 hs, Option.map_some, KV.av, bNot]
  ·cases h
 ·cases h
theorem suop_sound {op : UnOp} {x v : KV} (h : suop op x = some v) : uop op x.av = some v.av := by
 unfold suop at h
 split at h
 ·simp only [Option.some.injEq] at h; subst h; rfl
 ·simp only [Option.some.injEq] at h; subst h; rfl
 ·simp only [Option.some.injEq] at h; subst h; rfl
 ·cases h
theorem sView_sound {O : SObjs} {ts : Tys} {x : SV} {l : List ts.T} (h : sView O ts x = some (c, l)) (hc : allT c) : viewSl (objsAV O O) ts.len (x.av O) = some (l.map ts.avs) := by
 unfold sView at h
 split at h
 ·simp only [Option.some.injEq, Prod.mk.injEq] at h; obtain ⟨_, rfl⟩ := h; rfl
 ·rename_i us l'
  split at h
  ·rename_i hb
   simp only [Option.some.injEq, Prod.mk.injEq] at h; obtain ⟨_, rfl⟩ := h
   have e := Tys.beq_eq us ts hb
   subst e
   simp [SV.av, VV.av, CV.av, KV.av, viewSl]
  ·cases h
 ·rename_i n
  split at h
  ·rename_i us l' hl
   split at h
   ·rename_i hb
    simp only [Option.some.injEq, Prod.mk.injEq] at h; obtain ⟨_, rfl⟩ := h
    have e := Tys.beq_eq us ts hb
    subst e
    have e2 : List.take l'.length (List.map us.avs l') = List.map us.avs l' := List.take_of_length_le (by simp)
    simp [SV.av, VV.av, CV.av, hl, viewSl, lookS_av, SO.av, e2]
   ·cases h
  ·cases h
 ·rename_i n sz off len
  split at h
  ·rename_i us l' hl
   split at h
   ·rename_i hb
    split at h
    ·rename_i hsz
     simp only [Option.some.injEq, Prod.mk.injEq] at h; obtain ⟨rfl, rfl⟩ := h
     have e := Tys.beq_eq us ts hb
     subst e; subst hsz
     have h0 : off + len ≤ l'.length := of_decide_eq_true hc.1
     simp [SV.av, VV.av, CV.av, viewSl, lookS_av, hl, SO.av, h0, lSub]
    ·cases h
   ·cases h
  ·cases h
 ·cases h
theorem decB_bytes : ∀ l : List byteTs.T, decB (l.map byteTs.avs) = some (toBytes l)
 | [] => rfl
 | x :: l => by
  have ih := decB_bytes l
  show (decB (l.map byteTs.avs)).map (UInt8.ofNat (x.1 : Int).toNat :: ·) = _
  rw [ih]; rfl
theorem bytes_av : ∀ s : List UInt8, (ofBytes s).map byteTs.avs = bytesOf s
 | [] => rfl
 | b :: s => congrArg (List.cons [AV.int .u8 (b.toNat : Int)]) (bytes_av s)
end Go.Abs
