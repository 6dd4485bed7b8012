import Derived.Test.YtdkibgdkmnpncaaDoorLibG
import Derived.RangeFuncNested
import Derived.RangeFuncBound
import Derived.RangeFuncCalls
import Derived.RangeFuncLeaves
open Go Go.Abs Go.RowKit
set_option linter.unusedVariables false
namespace Go.Abs
structure Kept (B : Nat) (w w' : World) : Prop where
 os : w'.os = w.os
 tape : w'.tape = w.tape
 output : w'.output = w.output
 size : w.heap.size ≤ w'.heap.size
 low : ∀ k, k < B → w'.heap[k]? = w.heap[k]?
 cells : ∀ (k : Nat) (o : Go.Obj), w.heap[k]? = some o → o.isCells = true → w'.heap[k]? = some o
theorem Kept.zN {B : Nat} {w w' : World} {row : Option Nat} (hB : B ≤ w.heap.size) (hg : w.grownBy w' row) (hr : ∀ r, row = some r → B ≤ r ∧ ∃ o : Go.Obj, w.heap[r]? = some o ∧ o.isCells = false) : Kept B w w' where
 os := hg.os
 tape := hg.tape
 output := hg.output
 size := hg.size
 low := fun k hk => hg.block k (Nat.lt_of_lt_of_le hk hB) fun e => by have := (hr k e.symm).1; omega
 cells := fun k o ho hc => (grownBy_keeps_cells hg (fun r e => (hr r e).2) ho hc).trans ho
theorem Kept.cell {B : Nat} {w w' : World} (h : Kept B w w') {a : Addr} {v : Value} (hv : w.cell? a = some v) : w'.cell? a = some v := by
 obtain ⟨o, ho, hc⟩ := cells_of_cell hv
 exact (World.cell?_of_block ((h.cells _ _ ho hc).trans ho.symm)).trans hv
theorem Kept.row {B : Nat} {w w' : World} (h : Kept B w w') {b N : Nat} (hr : World.row w b = some N) : World.row w' b = some N := by
 unfold World.row at hr ⊢
 unfold World.shape? at hr ⊢
 cases ho : w.heap[b]? with
 | none => simp [ho] at hr
 | some o =>
  cases o with
  | cells c e z => rw [h.cells b _ ho rfl]; simpa [ho] using hr
  | _ => simp [ho] at hr
theorem uj {B : Nat} {w w' : World} {M : Nat → Prop} {x : AV} {v : Value} (h : cU w M x v) (k : Kept B w w') : cU w' M x v := by
 induction h with
 | any v => exact .any v
 | gO => exact .gO
 | int k n => exact .int k n
 | bool b => exact .bool b
 | str s hn => exact .str s hn
 | gE => exact .gE
 | cW v => exact .cW v
 | qb t g l f h1 _ ih => exact .qb t g l f h1 ih
 | slnil sz a cap => exact .slnil sz a cap
 | sl sz l b off cap f hb hM' hcap hn hs hc h1 _ ih =>
  exact .sl sz l b off cap f (Nat.lt_of_lt_of_le hb k.size) hM' hcap hn hs (fun j cs i x hj hi => k.cell (hc j cs i x hj hi)) h1 (fun j cs i x hj hi => ih j cs i x hj hi)
 | at_ cs b off f hb hM' hc h1 _ ih =>
  exact .at_ cs b off f (Nat.lt_of_lt_of_le hb k.size) hM' (fun i x hi => k.cell (hc i x hi)) h1 (fun i x hi => ih i x hi)
theorem CD {B : Nat} {w w' : World} {D : Names} {x : AV} {v : Value} (h : Cell w D x v) (k : Kept B w w') : Cell w' D x v := by
 cases x with
 | cw n sz off len =>
  rcases h with h | ⟨b, cap, N, h1, h2, h3, h4, h5⟩
  ·exact .inl h
  ·exact .inr ⟨b, cap, N, h1, h2, h3, k.row h4, h5⟩
 | ref n sz i off => exact h
 | cm f ns => exact h
 | _ => exact uj h k
def Dk : Obj → Bool
 | .mp _ _ _ => false
 | _ => true
theorem I6 {B : Nat} {w w' : World} {D : Names} {o : Obj} {d : Option Nat} (h : dm w D o d) (hn : Dk o = true) (k : Kept B w w') : dm w' D o d := by
 cases o with
 | box cs =>
  cases d with
  | none => exact h.elim
  | some b =>
   obtain ⟨vs, T, h1, h2, h3⟩ := h
   exact ⟨vs, T, k.cells b _ h1 rfl, h2, fun i x hx => ⟨CD (h3 i x hx).1 k, (h3 i x hx).2⟩⟩
 | arr sz l =>
  cases d with
  | none => exact h
  | some b =>
   obtain ⟨vs, T, fz, h1, h2, h3, h4, h5, h6⟩ := h
   exact ⟨vs, T, fz, k.cells b _ h1 rfl, h2, h3, h4, h5, fun j cs i x hj hi => ⟨uj (h6 j cs i x hj hi).1 k, (h6 j cs i x hj hi).2⟩⟩
 | mp kk k l => cases hn
theorem IS {w0 : World} {M0 : Nat → Prop} {objs : List (Nat × Obj)} {D : Names} {w w' : World} (h : Mem w0 M0 objs D w) (hn : ∀ n o, look n objs = some o → Dk o = true) (k : Kept w0.heap.size w w') : Mem w0 M0 objs D w' where
 lQ := h.lQ
 small := h.small
 rep := fun n o d ho hd => I6 (h.rep n o d ho hd) (hn n o ho) k
 inj := h.inj
 lt := fun b hb => Nat.lt_of_lt_of_le (h.lt b hb) k.size
 own := h.own
 grow := ⟨⟨Nat.le_trans h.grow.size k.size, fun b hb hM => (k.low b hb).trans (h.grow.same b hb hM)⟩, fun b hb => by
  rw [← h.grow.row b hb]
  simp only [World.row, World.shape?, k.low b hb]⟩
 os := k.os.trans h.os
 tape := k.tape.trans h.tape
 output := k.output.trans h.output
 bq := fun g cs hg => by
  obtain ⟨h1, h2, f, h3⟩ := h.bq g cs hg
  exact ⟨Nat.lt_of_lt_of_le h1 k.size, h2, f, fun i x hx => ⟨k.cell (h3 i x hx).1, uj (h3 i x hx).2.1 k, (h3 i x hx).2.2⟩⟩
theorem Df {w0 : World} {M0 : Nat → Prop} {objs : List (Nat × Obj)} {D : Names} {w : World} (h : Mem w0 M0 objs D w) : Mem w D.N objs D w where
 lQ := h.lQ
 small := h.small
 rep := h.rep
 inj := h.inj
 lt := h.lt
 own := fun b hb => .inl hb
 grow := cB.refl _ _
 os := rfl
 tape := rfl
 output := rfl
 bq := h.bq
theorem zH {w0 : World} {M0 : Nat → Prop} {objs objs' : List (Nat × Obj)} {D D' : Names} {w w' : World} (h : Mem w0 M0 objs D w) (k : Mem w D.N objs' D' w') : Mem w0 M0 objs' D' w' where
 lQ := k.lQ
 small := k.small
 rep := k.rep
 inj := k.inj
 lt := k.lt
 own := fun b hb => by
  rcases k.own b hb with hb | hb
  ·exact h.own b hb
  ·exact .inr (Nat.le_trans h.grow.size hb)
 grow := h.grow.trans k.grow fun x hx hN => by
  rcases h.own x hN with h | h
  ·exact h
  ·omega
 os := k.os.trans h.os
 tape := k.tape.trans h.tape
 output := k.output.trans h.output
 bq := k.bq
theorem zK {w0 : World} {M0 : Nat → Prop} {objs : List (Nat × Obj)} {D : Names} {w : World} (h : Mem w0 M0 objs D w) (hn : ∀ n o, look n objs = some o → Dk o = true) {b : Nat} (hb : D.N b) : ∃ o : Go.Obj, w.heap[b]? = some o ∧ o.isCells = true := by
 obtain ⟨n, hlt, hd⟩ := hb
 have h1 := h.lQ n hlt
 rw [hd] at h1
 obtain ⟨o, ho⟩ := Option.isSome_iff_exists.1 h1.symm
 have h2 := h.rep n o _ ho hd
 cases o with
 | box cs => obtain ⟨vs, T, e, _⟩ := h2; exact ⟨_, e, rfl⟩
 | arr sz l => obtain ⟨vs, T, fz, e, _⟩ := h2; exact ⟨_, e, rfl⟩
 | mp kk k l => exact absurd (hn n _ ho) (by simp [Dk])
theorem zz {w0 : World} {M0 : Nat → Prop} {objs objs' : List (Nat × Obj)} {D D' : Names} {w w' : World} (h : Mem w0 M0 objs D w) (hn : ∀ n o, look n objs = some o → Dk o = true) (k : Mem w D.N objs' D' w') (B : Nat) : KeepsFrom B w w' :=
 ⟨k.grow.size, fun i o _ ho hc => by
  have hlt := (Array.getElem?_eq_some_iff.1 ho).1
  rw [k.grow.same i hlt fun hN => ?_]
  ·exact ho
  ·obtain ⟨o', ho', hc'⟩ := zK h hn hN
   rw [ho] at ho'; cases ho'; rw [hc] at hc'; cases hc'⟩
def RJ (pins : List Nat) : AV → Bool
 | .any => true
 | .ref n _ _ _ => pins.contains n
 | .cm _ ns => ns.all pins.contains
 | .int _ _ => true
 | .bool _ => true
 | _ => false
theorem tS {pins : List Nat} {w w' : World} {D D' : Names} {env : List AV} {t : Array Value} (h : ax w D env t) (he : env.all (RJ pins) = true) (hp : ∀ n ∈ pins, ∀ d, D n = some d → D' n = some d) : ax w' D' env t := by
 refine ⟨h.1, fun i x hx => ?_⟩
 have h1 := h.2 i x hx
 have h2 := List.all_eq_true.1 he x (List.mem_of_getElem? hx)
 cases x with
 | any => exact jn _ _ _
 | int k n =>
  have h1 : cU w D.M (.int k n) (t.getD i undef) := h1
  show cU w' D'.M (.int k n) (t.getD i undef)
  generalize t.getD i undef = v at h1 ⊢
  cases h1
  exact .int _ _
 | bool b =>
  have h1 : cU w D.M (.bool b) (t.getD i undef) := h1
  show cU w' D'.M (.bool b) (t.getD i undef)
  generalize t.getD i undef = v at h1 ⊢
  cases h1
  exact .bool _
 | ref n sz i off =>
  have h2 : pins.contains n = true := h2
  have h1 : Cell w D (.ref n sz i off) _ := h1
  obtain ⟨b, e1, e2⟩ := h1
  exact ⟨b, hp n (by simpa using h2) _ e1, e2⟩
 | cm f ns =>
  have h2 : ns.all pins.contains = true := h2
  have h1 : Cell w D (.cm f ns) _ := h1
  obtain ⟨bs, e1, e2, e3⟩ := h1
  exact ⟨bs, e1, fun i n b hi hb => hp n (by simpa using List.all_eq_true.1 h2 n (List.mem_of_getElem? hi)) _ (e2 i n b hi hb), e3⟩
 | _ => cases h2
end Go.Abs
