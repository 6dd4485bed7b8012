import Derived.Test.YtdkibgdkmnpncaaDoorWt
import Derived.WalkKit
import Derived.Lib.Hide
open Go Go.Proofs Go.Abs Go.RowKit
set_option linter.unusedVariables false
set_option maxRecDepth 100000
namespace Go.Proofs.YtdkibgdkmnpncaaDoor
abbrev NN : Abs.Names := fun _ => none
abbrev GR (w : World) : Prop := cO w (Names.M NN)
theorem I2 (b : Nat) : ¬ Names.M NN b := fun ⟨_, h⟩ => by cases h
theorem RF (b : Nat) : ¬ Names.N NN b := fun ⟨_, _, h⟩ => by cases h
theorem GR.below {B : Nat} {w w' : World} (h : GR w) (hB : w.heap.size ≤ B) (b : Below B w w') : GR w' := cO.mono h ⟨b.size, fun k hk _ => b.block k (Nat.lt_of_lt_of_le hk hB)⟩ fun _ _ h => h
theorem y4 {w w' : World} {os : List (Nat × Abs.Obj)} {D' : Abs.Names} (m : Mem w (Names.N NN) os D' w') : Below w.heap.size w w' :=
 ⟨m.os, m.tape, m.output, m.grow.size, fun k hk => m.grow.same k hk (RF k)⟩
theorem nW {w w' : World} {D : Abs.Names} {x : AV} {v : Value} (h : cU w D.M x v) (b : Below w.heap.size w w') : cU w' (Names.M NN) x v :=
 h.mono ⟨b.size, fun k hk _ => b.block k hk⟩ fun k _ hm => absurd hm (I2 k)
theorem nX {w : World} {M : Nat → Prop} {sz n : Nat} {l : List (List AV)} {v : Value} (h : cU w M (.sl sz l) v) (hn : l.length = n) :
  ∃ a cap, v = .slice a n cap ∧ n ≤ cap ∧ n ≤ cj ∧ ∀ (j : Nat) cs, l[j]? = some cs → ∃ b off, a = some ⟨b, off, none⟩ ∧ b < w.heap.size ∧ ∃ f : Nat → Value, ∀ (i : Nat) x, cs[i]? = some x → w.cell? ⟨b, off + (j * sz + i), none⟩ = some (f i) ∧ cU w M x (f i) := by
 subst hn
 cases h with
 | slnil _ a cap => exact ⟨a, cap, rfl, Nat.zero_le _, Nat.zero_le _, fun j cs hj => by simp at hj⟩
 | sl _ _ b off cap f hb hM hcap hn hs hc h1 h =>
  exact ⟨_, cap, rfl, hcap, hn, fun j cs hj => ⟨b, off, rfl, hb, f j, fun i x hi => ⟨hc j cs i x hj hi, h j cs i x hj hi⟩⟩⟩
theorem mY {w : World} {M : Nat → Prop} {k : IntKind} {n : Int} {v : Value} (h : cU w M (.int k n) v) : v = .int k n := by cases h; rfl
theorem Ix {w : World} {M : Nat → Prop} {n : Bool} {v : Value} (h : cU w M (.bool n) v) : v = .bool n := by cases h; rfl
theorem xB {α β : Type} (f : α → β) (l : List α) (d : α) (j : Nat) (hj : j < l.length) : (l.map f)[j]? = some (f (l.getD j d)) := by
 rw [List.getElem?_map, List.getD_eq_getElem?_getD, List.getElem?_eq_getElem hj]; rfl
theorem Q9 {w : World} {D : Abs.Names} (hm : Mem w D.N [] D w) : GR w := cO.mono hm.bq ⟨Nat.le_refl _, fun _ _ _ => rfl⟩ fun b _ h => absurd h (I2 b)
theorem GY {w w' : World} {D : Abs.Names} (h : Mem w D.N [] D w) (b : Below w.heap.size w w') : Mem w D.N [] D w' where
 lQ := h.lQ
 small := h.small
 rep := fun n o d hn _ => by cases hn
 inj := h.inj
 lt := fun k hk => Nat.lt_of_lt_of_le (h.lt k hk) b.size
 own := h.own
 grow := ⟨⟨b.size, fun k hk _ => b.block k hk⟩, fun k hk => by simp only [World.row, World.shape?, b.block k hk]⟩
 os := b.os
 tape := b.tape
 output := b.output
 bq := cO.mono h.bq ⟨b.size, fun k hk _ => b.block k hk⟩ fun k hk h => h
theorem ji (w : World) (hg : GR w) : Mem w (Names.N NN) [] NN w where
 lQ := fun n _ => rfl
 small := fun n h => by simp [Go.Abs.look] at h
 rep := fun n o d hn _ => by cases hn
 inj := fun n m b h _ => by cases h
 lt := fun b hb => absurd hb (I2 b)
 own := fun b hb => absurd hb (RF b)
 grow := ⟨⟨Nat.le_refl _, fun _ _ _ => rfl⟩, fun _ _ => rfl⟩
 os := rfl
 tape := rfl
 output := rfl
 bq := hg
theorem vp {x : AV} {v : Value} {w W' : World} (h : Slot w NN x v) (k : Below w.heap.size w W') : Slot W' NN x v :=
 h.mono ⟨⟨k.size, fun i hi _ => k.block i hi⟩, fun i hi => by simp only [World.row, World.shape?, k.block i hi]⟩ (fun _ _ h => h) (fun b hb => absurd hb (I2 b)) fun b _ hb => absurd hb (I2 b)
def Tn (w : World) (l : List (Int × Unit)) (v : Value) : Prop :=
 ∃ a cap, v = .slice a l.length cap ∧ l.length ≤ cap ∧ l.length ≤ cj ∧ ∀ j, j < l.length → ∃ b off, a = some ⟨b, off, none⟩ ∧ b < w.heap.size ∧ w.cell? ⟨b, off + j, none⟩ = some (.int .i64 (l.getD j (0, ())).1)
theorem Ep {w : World} {l : List (Int × Unit)} {v : Value} (h : cU w (Names.M NN) ((Ty.sl (.cons (.int .i64) .nil)).av l) v) : Tn w l v := by
 obtain ⟨a, cap, rfl, hcap, hlim, hcells⟩ := nX (n := l.length) h (List.length_map ..)
 refine ⟨a, cap, rfl, hcap, hlim, fun j hj => ?_⟩
 obtain ⟨b, off, rfl, hb, f, hf⟩ := hcells j _ (xB (α := (cf.cons (.int .i64) .nil).T) (cf.cons (.int .i64) .nil).cF l (0, ()) j hj)
 obtain ⟨c0, i0⟩ := hf 0 _ rfl
 have e0 : f 0 = .int .i64 (l.getD j (0, ())).1 := mY i0
 rw [e0] at c0
 have c1 : w.cell? ⟨b, off + (j * 1 + 0), none⟩ = some (.int .i64 (l.getD j (0, ())).1) := c0
 exact ⟨b, off, rfl, hb, by simpa using c1⟩
theorem Ll {w : World} {L : ez} {v : Value} (h : Slot w NN (.agg (ka.cF L)) v) : ∃ a cap dv, v = .agg #[.slice a L.1.length cap, dv] ∧ L.1.length ≤ cap ∧ L.1.length ≤ cj ∧
  ∀ j, j < L.1.length → ∃ b off s0 z3 ea el ec, a = some ⟨b, off, none⟩ ∧ b < w.heap.size ∧ w.cell? ⟨b, off + j * 5, none⟩ = some (.string s0) ∧ w.cell? ⟨b, off + j * 5 + 1, none⟩ = some (.int .i64 (L.1.getD j ([], 0, 0, 0, [], ())).2.1) ∧
   w.cell? ⟨b, off + j * 5 + 2, none⟩ = some (.int .i64 (L.1.getD j ([], 0, 0, 0, [], ())).2.2.1) ∧ w.cell? ⟨b, off + j * 5 + 3, none⟩ = some (.int .i64 z3) ∧ w.cell? ⟨b, off + j * 5 + 4, none⟩ = some (.slice ea el ec) := by
 obtain ⟨vs, rfl, hl, hc⟩ := h
 match vs, hl with
 | [n, d], _ =>
  have h0 : cU w (Names.M NN) ((Ty.sl BF).av L.1) n := (hc 0 _ rfl).1
  obtain ⟨a, cap, rfl, hcap, hlim, hcells⟩ := nX (n := L.1.length) h0 (List.length_map ..)
  refine ⟨a, cap, d, rfl, hcap, hlim, fun j hj => ?_⟩
  obtain ⟨b, off, rfl, hb, f, hf⟩ := hcells j (BF.cF (L.1.getD j ([], 0, 0, 0, [], ()))) (xB (α := BF.T) BF.cF L.1 _ j hj)
  obtain ⟨c0, i0⟩ := hf 0 _ rfl
  obtain ⟨c1, i1⟩ := hf 1 _ rfl
  obtain ⟨c2, i2⟩ := hf 2 _ rfl
  obtain ⟨c3, i3⟩ := hf 3 _ rfl
  obtain ⟨c4, i4⟩ := hf 4 _ rfl
  have e1 : f 1 = .int .i64 (L.1.getD j ([], 0, 0, 0, [], ())).2.1 := mY i1
  have e2 : f 2 = .int .i64 (L.1.getD j ([], 0, 0, 0, [], ())).2.2.1 := mY i2
  have e3 : f 3 = .int .i64 (L.1.getD j ([], 0, 0, 0, [], ())).2.2.2.1 := mY i3
  obtain ⟨ea, ec, e4, _⟩ := nX (n := (L.1.getD j ([], 0, 0, 0, [], ())).2.2.2.2.1.length) (show cU w (Names.M NN) ((Ty.sl (.cons (.int .i64) .nil)).av (L.1.getD j ([], 0, 0, 0, [], ())).2.2.2.2.1) (f 4) from i4) (List.length_map ..)
  obtain ⟨s0, e0⟩ : ∃ s0, f 0 = .string s0 := by
   have i0 : cU w (Names.M NN) (.str (L.1.getD j ([], 0, 0, 0, [], ())).1) (f 0) := i0
   generalize f 0 = x at i0
   cases i0; exact ⟨_, rfl⟩
  rw [e0] at c0
  rw [e1] at c1
  rw [e2] at c2
  rw [e3] at c3
  rw [e4] at c4
  exact ⟨b, off, s0, _, ea, _, ec, rfl, hb, (show w.cell? ⟨b, off + (j * 5 + 0), none⟩ = some (.string s0) from c0), by rw [Nat.add_assoc]; exact c1, by rw [Nat.add_assoc]; exact c2, by rw [Nat.add_assoc]; exact c3, by rw [Nat.add_assoc]; exact c4⟩
theorem J2 {w : World} {l : List (List (Int × Unit) × Unit)} {v : Value} (h : cU w (Names.M NN) ((Ty.sl (.cons (.sl (.cons (.int .i64) .nil)) .nil)).av l) v) : ∃ a cap, v = .slice a l.length cap ∧ l.length ≤ cap ∧ l.length ≤ cj ∧
  ∀ j, j < l.length → ∃ b off v', a = some ⟨b, off, none⟩ ∧ b < w.heap.size ∧ w.cell? ⟨b, off + j, none⟩ = some v' ∧ cU w (Names.M NN) ((Ty.sl (.cons (.int .i64) .nil)).av (l.getD j ([], ())).1) v' := by
 obtain ⟨a, cap, rfl, hcap, hlim, hcells⟩ := nX (n := l.length) h (List.length_map ..)
 refine ⟨a, cap, rfl, hcap, hlim, fun j hj => ?_⟩
 obtain ⟨b, off, rfl, hb, f, hf⟩ := hcells j _ (xB (α := (cf.cons (.sl (.cons (.int .i64) .nil)) .nil).T) (cf.cons (.sl (.cons (.int .i64) .nil)) .nil).cF l ([], ()) j hj)
 obtain ⟨c0, i0⟩ := hf 0 _ rfl
 have c1 : w.cell? ⟨b, off + (j * 1 + 0), none⟩ = some (f 0) := c0
 exact ⟨b, off, f 0, rfl, hb, by simpa using c1, i0⟩
theorem Vx {w : World} (hg : GR w) {l : List (Int × Unit)} {v : Value} (hv : cU w (Names.M NN) ((Ty.sl (.cons (.int .i64) .nil)).av l) v) (k : Int) {r : Bool} (hs : yI (l, k, ()) = some (r, ())) : Calls Tryd.prog 23 #[v, .int .i64 k] w fun e w' => e = .returned (.bool r) ∧ Below w.heap.size w w' :=
 (M9 (l, k, ()) (r, ()) hs w NN [v, .int .i64 k] (ji w hg) ⟨rfl, fun i x hx => match i, hx with | 0, rfl => hv | 1, rfl => cU.int _ _⟩).mono
  fun e w' ⟨x, D', he, hm, hs, _⟩ => by
   have hs : cU w' D'.M (.bool r) x := hs
   rw [he, Ix hs]; exact ⟨rfl, y4 hm⟩
theorem Vy {w : World} (hg : GR w) {L : ez} {lv fv : Value} {fs : List rG} (hl : Slot w NN (.agg (ka.cF L)) lv) (hf : Slot w NN ((Ty.sl lT).av fs) fv) (n : Int) {A : List (Int × Unit)} (hs : Hv (L, fs, n, ()) = some (A, ())) (hA : 0 < A.length) :
  Calls Tryd.prog 38 #[lv, fv, .int .i64 n] w fun e w' => Below w.heap.size w w' ∧ ∃ b cap, e = .returned (.slice (some ⟨b, 0, none⟩) A.length cap) ∧ A.length ≤ cap ∧ b < w'.heap.size ∧ ∀ j, j < A.length → w'.cell? ⟨b, j, none⟩ = some (.int .i64 (A.getD j (0, ())).1) :=
 (Wj (L, fs, n, ()) (A, ()) hs w NN [lv, fv, .int .i64 n] (ji w hg) ⟨rfl, fun i x hx => match i, hx with | 0, rfl => hl | 1, rfl => hf | 2, rfl => cU.int _ _⟩).mono
  fun e w' ⟨x, D', he, hm, hs, _⟩ => by
   refine ⟨y4 hm, ?_⟩
   have hs : Cell w' D' (.cw rn 1 0 A.length) x := hs
   rcases hs with ⟨_, h0, _⟩ | ⟨b, cap, N, hD, hv, hcap, _, _⟩
   ·omega
   subst hv
   have hr := hm.rep rn (.arr 1 (A.map (cf.cons (.int .i64) .nil).cF)) (some b) (by show Go.Abs.look rn ((rn, _) :: _) = _; exact if_pos rfl) hD
   obtain ⟨vs, T, fz, hb, _, _, hlen, _, hc⟩ := hr
   simp only [Nat.zero_mul] at he
   refine ⟨b, cap, he, hcap, hm.lt b ⟨_, hD⟩, fun j hj => ?_⟩
   obtain ⟨h1, h2⟩ := hc j _ 0 _ (xB (α := (cf.cons (.int .i64) .nil).T) (cf.cons (.int .i64) .nil).cF A (0, ()) j hj) rfl
   have e := mY h1
   simp only [List.length_map] at hlen
   rw [show j * 1 + 0 = j by omega] at e
   have hjv : j < vs.length := by omega
   rw [World.cell?, hb]
   rw [List.getD_eq_getElem?_getD, List.getElem?_eq_getElem hjv] at e
   simp only [Option.getD_some] at e
   simp [hjv, e]
end Go.Proofs.YtdkibgdkmnpncaaDoor
