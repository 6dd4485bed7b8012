/- The walks' library, part B: what a region of the program does in an abstract state, and its soundness. -/
import Derived.StillTail
import Derived.Test.YtdkibgdkmnpncaaDoorLibA
namespace Go.Abs
open Go.RowKit
variable {objs : List (Nat × Obj)} {D : Names} {d : Nat} {w : World} {env : List AV} {P : Program}
def chunk (sz : Nat) : Nat → List AV → List (List AV)
 | 0, _ => []
 | n + 1, l => l.take sz :: chunk sz n (l.drop sz)
theorem tN (sz : Nat) : ∀ (n : Nat) (l : List AV), n * sz ≤ l.length → (chunk sz n l).length = n ∧ ∀ (j : Nat) (cs : List AV), (chunk sz n l)[j]? = some cs → cs.length = sz ∧ ∀ (i : Nat) (x : AV), cs[i]? = some x → l[j * sz + i]? = some x
 | 0, l, _ => by simp [chunk]
 | n + 1, l, h => by
  rw [Nat.add_mul, Nat.one_mul] at h
  obtain ⟨h1, h2⟩ := tN sz n (l.drop sz) (by simp; omega)
  refine ⟨by simp [chunk, h1], fun j cs hj => ?_⟩
  cases j with
  | zero =>
   simp only [chunk, List.getElem?_cons_zero, Option.some.injEq] at hj
   subst hj
   refine ⟨by simp; omega, fun i x hx => ?_⟩
   rw [List.getElem?_take] at hx
   split at hx
   ·simpa using hx
   ·cases hx
  | succ j =>
   simp only [chunk, List.getElem?_cons_succ] at hj
   obtain ⟨g1, g2⟩ := h2 j cs hj
   refine ⟨g1, fun i x hx => ?_⟩
   have := g2 i x hx
   rw [List.getElem?_drop] at this
   rw [← this]; congr 1; rw [Nat.add_mul]; omega
structure HR where
 x : AV
 env : List AV
 objs : List (Nat × Obj)
def wM (P : Program) (T : TypeId) : Option Nat := (P.info? T).map (·.bytes)
def jN (P : Program) (T : TypeId) : Option TypeId := match P.underlying T with | some (.slice e) => some e | _ => none
def KW (env : List AV) (objs : List (Nat × Obj)) (d : Nat) (x : AV) : Option HR :=
 match look d objs, cellsOf x with
 | none, some cs => some ⟨.ref d cs.length 0 0, env, (d, .box cs) :: objs⟩
 | _, _ => none
def uf (P : Program) (env : List AV) (objs : List (Nat × Obj)) (d : Nat) (T : TypeId) : Option HR :=
 match look d objs, zeroCells P T with
 | none, some z => match cN P T with
  | some (n, sz) => if n * sz = z.length ∧ n ≤ cj then some ⟨.ref d sz 0 0, env, (d, .arr sz (chunk sz n z)) :: objs⟩ else none
  | none => some ⟨.ref d z.length 0 0, env, (d, .box z) :: objs⟩
 | _, _ => none
def qf (D0 D : Names) (objs : List (Nat × Obj)) : Prop := ∀ n d, D0 n = some d → D n = some d ∧ (n < top → ∃ cs, look n objs = some (.box cs))
theorem qf.ins {D0 D : Names} (h : qf D0 D objs) (hd : D d = none) (y : Option Nat) (obj : Obj) : qf D0 (D.ins d y) ((d, obj) :: objs) := by
 intro n e hn
 obtain ⟨h1, h2⟩ := h n e hn
 have hne : n ≠ d := fun h => by subst h; rw [hd] at h1; cases h1
 exact ⟨by simp [Names.ins, hne, h1], fun hK => by simpa [look, Ne.symm hne] using h2 hK⟩
theorem qf.EF {D0 D : Names} (h : qf D0 D objs) {m sz : Nat} {l : List (List AV)} (hm : look m objs = some (.arr sz l)) (hK : m < top) (φ : AV → AV) : qf D0 (D.del m) (iu φ (drop m objs)) := by
 intro n e hn
 obtain ⟨h1, h2⟩ := h n e hn
 have hne : n ≠ m := fun he => by
  subst he
  obtain ⟨cs, hc⟩ := h2 hK
  rw [hm] at hc; cases hc
 refine ⟨by simp [Names.del, hne, h1], fun hK' => ?_⟩
 obtain ⟨cs, hc⟩ := h2 hK'
 exact ⟨cs.map φ, by rw [fh, cS (Ne.symm hne), hc]; rfl⟩
theorem qf.js {D0 D : Names} (h : qf D0 D objs) {m : Nat} {o o' : Obj} (hm : look m objs = some o) (ho : (∃ cs, o' = .box cs) ∨ (∃ sz l, o = .arr sz l) ∨ ∃ kk k l, o = .mp kk k l) : qf D0 D (js m o' objs) := by
 intro n e hn
 obtain ⟨h1, h2⟩ := h n e hn
 refine ⟨h1, fun hK => ?_⟩
 by_cases hne : n = m
 ·subst hne
  rw [jh o' objs (by simp [hm])]
  rcases ho with ⟨cs, rfl⟩ | ⟨sz, l, rfl⟩ | ⟨kk, k, l, rfl⟩
  ·exact ⟨cs, rfl⟩
  ·obtain ⟨cs, hc⟩ := h2 hK
   rw [hm] at hc; cases hc
  ·obtain ⟨cs, hc⟩ := h2 hK
   rw [hm] at hc; cases hc
 ·rw [dY o' (Ne.symm hne)]; exact h2 hK
def iX (P : Program) (w0 : World) (M0 : Nat → Prop) (a : Act) (w : World) (D : Names) (objs : List (Nat × Obj)) (s : Sem Next) (r : HR) : Prop :=
 ∃ v w' D', (s.run P w = .ok (.value v) w' ∨ (s.run P w = .ok .skip w' ∧ v = undef)) ∧ Slot w' D' r.x v ∧ Mem w0 M0 r.objs D' w' ∧ ax w' D' r.env a.tmps ∧ ∀ D0, qf D0 D objs → qf D0 D' r.objs
theorem IA (hlt : ∀ b, D.M b → b < w.heap.size) (hd : D d = none) (o : _root_.Go.Obj) {x : AV} {v : Value} (h : Cell w D x v) : Cell (w.alloc o) (D.ins d (some w.heap.size)) x v := by
 obtain ⟨c1, c2⟩ := kf (w := w) (x := some w.heap.size) hd (fun b h => by cases h; exact Nat.le_refl _)
 exact h.mono (gY w o D.M) c1 hlt c2
theorem K2 (hd : D d = none) (o : _root_.Go.Obj) {x : AV} {v : Value} (h : cU w D.M x v) : cU (w.alloc o) (D.ins d (some w.heap.size)).M x v := by
 obtain ⟨c1, c2⟩ := kf (w := w) (x := some w.heap.size) hd (fun b h => by cases h; exact Nat.le_refl _)
 exact h.mono (gY w o D.M).toKeep c2
theorem xv (hlt : ∀ b, D.M b → b < w.heap.size) (hd : D d = none) (o : _root_.Go.Obj) {tmps : Array Value} (h : ax w D env tmps) : ax (w.alloc o) (D.ins d (some w.heap.size)) env tmps := by
 obtain ⟨c1, c2⟩ := kf (w := w) (x := some w.heap.size) hd (fun b h => by cases h; exact Nat.le_refl _)
 exact h.mono (gY w o D.M) c1 hlt c2
theorem mn (D : Names) (d : Nat) (y : Option Nat) : (D.ins d y) d = some y := by simp [Names.ins]
theorem zh {w0 w : World} {M0 : Nat → Prop} (hm : Mem w0 M0 objs D w) {a : Act} (he : ax w D env a.tmps) (hd : look d objs = none) (hK : d < top)
  {cs : List AV} {vs : List Value} (hc : cL w D cs vs) (T : TypeId) {s : Sem Next} (hs : s.run P w = .ok (.value (.pointer (some ⟨w.heap.size, 0, none⟩))) (w.alloc (.cells vs.toArray T))) (n : Nat) :
  iX P w0 M0 a w D objs s ⟨.ref d n 0 0, env, (d, .box cs) :: objs⟩ := by
 have hfr := hm.fresh hd hK
 refine ⟨_, _, D.ins d (some w.heap.size), .inl hs, ?_, hm.alloc hd hK _ _ ?_, xv hm.lt hfr _ he, fun _ hp => hp.ins hfr _ _⟩
 ·simp only [Slot, cM, Cell]; exact ⟨w.heap.size, mn _ _ _, by simp⟩
 ·exact ⟨vs, T, ke _ _, hc.1, fun i x hx => ⟨IA hm.lt hfr _ (hc.2 i x hx).1, (hc.2 i x hx).2⟩⟩
def cV (w : World) (M : Nat → Prop) (sz : Nat) (l : List (List AV)) (vs : List Value) : Prop :=
 l.length * sz ≤ vs.length ∧ (∀ (j : Nat) (cs : List AV), l[j]? = some cs → cs.length = sz) ∧
  ∀ (j : Nat) (cs : List AV) (i : Nat) (x : AV), l[j]? = some cs → cs[i]? = some x → cU w M x (vs.getD (j * sz + i) undef) ∧ (vs.getD (j * sz + i) undef).oneCell' = true
theorem mh {w0 w w1 : World} {M0 : Nat → Prop} (hm : Mem w0 M0 objs D w) {a : Act} (he : ax w D env a.tmps) (hd : look d objs = none) (hK : d < top)
  {sz : Nat} {l : List (List AV)} {vs : List Value} (hr : cV w D.M sz l vs) (hlim : l.length ≤ cj) (T : TypeId) (fz : Nat × Nat) (hfz : mQ fz vs.length) {s : Sem Next} {v : Value} (x : AV)
  (hs : s.run P w1 = .ok (.value v) (w.alloc (.cells vs.toArray T fz)))
  (hx : ∀ D', D' d = some (some w.heap.size) → Slot (w.alloc (.cells vs.toArray T fz)) D' x v) :
  iX P w0 M0 a w1 D objs s ⟨x, env, (d, .arr sz l) :: objs⟩ := by
 have hfr := hm.fresh hd hK
 refine ⟨_, _, D.ins d (some w.heap.size), .inl hs, hx _ (mn _ _ _), hm.alloc hd hK _ _ ?_, xv hm.lt hfr _ he, fun _ hp => hp.ins hfr _ _⟩
 exact ⟨vs, T, fz, ke _ _, hfz, hlim, hr.1, hr.2.1, fun j cs i x hj hi => ⟨K2 hfr _ (hr.2.2 j cs i x hj hi).1, (hr.2.2 j cs i x hj hi).2⟩⟩
theorem fj (n : Nat) : mQ (0, 0) n := by intro j _ h; simp at h
theorem gK {T : TypeId} {vs : List Value} {fz : Nat × Nat} {D' : Names} {d sz len cap : Nat} (hD : D' d = some (some w.heap.size)) (hle : len ≤ cap) (hroom : cap * sz ≤ vs.length) :
  Slot (w.alloc (.cells vs.toArray T fz)) D' (.cw d sz 0 len) (.slice (some ⟨w.heap.size, 0, none⟩) len cap) := by
 simp only [Slot, cM, Cell]
 refine .inr ⟨w.heap.size, cap, vs.length, hD, by simp, hle, ?_, by simpa using hroom⟩
 simp only [World.row, World.shape?, ke]
 simp
theorem QC {w0 w : World} {M0 : Nat → Prop} (hm : Mem w0 M0 objs D w) {a : Act} (he : ax w D env a.tmps) (hK : d < top) {x : AV} {r : HR}
  (h : KW env objs d x = some r) {v : Value} (hv : Slot w D x v) (T : TypeId) : iX P w0 M0 a w D objs (do pure (.value (← Instr.box T v))) r := by
 unfold KW at h
 split at h
 ·rename_i cs hd hc
  simp only [Option.some.injEq] at h; subst h
  obtain ⟨vs, hvs, hone⟩ := fS hv hc
  exact zh hm he hd hK hone T (by simp [Instr.box, newVar, newRow, hvs]) _
 ·cases h
theorem KJ {w0 w : World} {M0 : Nat → Prop} (hm : Mem w0 M0 objs D w) {a : Act} (he : ax w D env a.tmps) (hK : d < top) {T : TypeId} {r : HR}
  (h : uf P env objs d T = some r) : iX P w0 M0 a w D objs (do pure (.value (← Instr.alloc T true (.tuple #[])))) r := by
 unfold uf at h
 split at h
 ·rename_i z hd hz
  obtain ⟨i, zv, hi, hzv, hone, himm⟩ := fe w D hz
  have hs : (do pure (.value (← Instr.alloc T true (.tuple #[]))) : Sem Next).run P w = .ok (.value (.pointer (some ⟨w.heap.size, 0, none⟩))) (w.alloc (.cells zv.cells.toList.toArray T)) := by
   simp [Instr.alloc, zeroValue, typeInfo, hi, hzv, newVar, newRow]
  split at h
  ·rename_i n sz hA
   split at h
   ·rename_i hc
    simp only [Option.some.injEq] at h; subst h
    obtain ⟨c1, c2⟩ := tN sz n z (by omega)
    refine mh hm he hd hK (vs := zv.cells.toList) ⟨by rw [c1, hone.1]; omega, fun j cs hj => (c2 j cs hj).1, fun j cs i x hj hx => ?_⟩ (by rw [c1]; exact hc.2) T (0, 0) (fj _) _ hs (fun D' hD' => ?_)
    ·have := (c2 j cs hj).2 i x hx
     exact ⟨himm _ _ this, (hone.2 _ _ this).2⟩
    ·simp only [Slot, cM, Cell]; exact ⟨w.heap.size, hD', by simp⟩
   ·cases h
  ·simp only [Option.some.injEq] at h; subst h
   exact zh hm he hd hK hone T hs _
 ·cases h
end Go.Abs
namespace Go.Abs
open Go.RowKit
variable {objs objs' : List (Nat × Obj)} {w w0 : World} {D : Names} {env : List AV}
def BQ (n sz : Nat) (l : List (List AV)) : AV → AV
 | .cw m sz' off len => if m = n then (if sz' = sz ∧ off + len ≤ l.length then .sl sz ((l.drop off).take len) else .any) else .cw m sz' off len
 | .ref m sz' i off => if m = n then .any else .ref m sz' i off
 | .cm f ns => if n ∈ ns then .any else .cm f ns
 | x => x
def freeze (n : Nat) (env : List AV) (objs : List (Nat × Obj)) : Option (List AV × List (Nat × Obj)) :=
 match look n objs with
 | some (.arr sz l) => some (env.map (fB (BQ n sz l)), iu (BQ n sz l) (drop n objs))
 | _ => none
theorem np {sz : Nat} {l : List (List AV)} {v : Value} (h : oA w D sz l v) {M' : Nat → Prop} (hb : ∀ b o n cap, v = .slice (some ⟨b, o, none⟩) n cap → l ≠ [] → ¬ M' b)
  (hM : ∀ b, b < w.heap.size → M' b → D.M b) : cU w M' (.sl sz l) v := by
 obtain ⟨a, cap, rfl, hcap, hlim, hcase⟩ := h
 rcases hcase with rfl | ⟨b, off, rfl, hbs, hsz, f, hf⟩
 ·exact .slnil sz a cap
 ·by_cases hl : l = []
  ·subst hl; exact .slnil sz _ cap
  ·exact .sl sz l b off cap f hbs (hb b off _ cap rfl hl) hcap hlim hsz (fun j cs i x hj hx => (hf j cs i x hj hx).1) (fun j cs i x hj hx => (hf j cs i x hj hx).2.1)
    (fun j cs i x hj hx => (hf j cs i x hj hx).2.2.mono (cB.refl w _).toKeep hM)
theorem Gu {M0 : Nat → Prop} (hm : Mem w0 M0 objs D w) {n sz : Nat} {l : List (List AV)} (hl : look n objs = some (.arr sz l)) : Carry w w D (D.del n) (BQ n sz l) where
 cell := fun x v h => by
  cases x with
  | cw m sz' off len =>
   simp only [BQ]
   split
   ·rename_i hmn
    subst hmn
    split
    ·rename_i hc
     obtain ⟨rfl, hle⟩ := hc
     have hrep := fM hm (sz := sz') (x := .cw m sz' off len) (l := (l.drop off).take len) (by simp [eM, hl, hle]) h.slot
     simp only [Cell]
     refine np hrep (fun b o p cap hv hne hM => ?_) (fun b _ hM => Names.qP hM)
     rcases h with ⟨_, rfl, a, rfl⟩ | ⟨b', cap', N, h1, rfl, _⟩
     ·exact hne (by simp)
     ·simp only [Value.slice.injEq, Option.some.injEq, Addr.mk.injEq] at hv
      obtain ⟨⟨rfl, _⟩, _⟩ := hv
      obtain ⟨q, hq⟩ := hM
      unfold Names.del at hq
      split at hq
      ·cases hq
      ·rename_i hne'
       exact hne' (hm.inj q m b' hq h1)
    ·exact iJ _ _ _
   ·rename_i hne
    have := (nT (w := w) (D := D) n).cell (.cw m sz' off len) v h
    simpa [kill, hne] using this
  | ref m sz' i off =>
   have := (nT (w := w) (D := D) n).cell (.ref m sz' i off) v h
   simpa only [kill, BQ] using this
  | cm f ns =>
   have := (nT (w := w) (D := D) n).cell (.cm f ns) v h
   simpa only [kill, BQ] using this
  | _ =>
   simp only [BQ, Cell] at h ⊢
   exact h.mono (cB.refl w _).toKeep (fun b _ hM => Names.qP hM)
theorem oM {M0 : Nat → Prop} (hm : Mem w0 M0 objs D w) {tmps : Array Value} (he : ax w D env tmps) {n : Nat} {env' : List AV}
  (h : freeze n env objs = some (env', objs')) : ∃ D', Mem w0 M0 objs' D' w ∧ ax w D' env' tmps ∧ ∀ D0, qf D0 D objs → qf D0 D' objs' := by
 unfold freeze at h
 split at h
 ·rename_i sz l hl
  simp only [Option.some.injEq, Prod.mk.injEq] at h
  obtain ⟨rfl, rfl⟩ := h
  have c := Gu hm hl
  exact ⟨D.del n, hm.EF n c, c.env he, fun _ hp => hp.EF hl (hm.small n (by simp [hl])) _⟩
 ·cases h
def gA : AV → List AV
 | .agg l => l
 | x => [x]
def bm : List AV → Option Nat
 | [] => none
 | .cw n _ _ _ :: _ => some n
 | _ :: r => bm r
def settle : Nat → List Operand → List AV → List (Nat × Obj) → Option (List AV × List (Nat × Obj))
 | 0, _, env, objs => some (env, objs)
 | f + 1, xs, env, objs => match bm (xs.flatMap fun o => gA (ev env o)) with
  | none => some (env, objs)
  | some n => match freeze n env objs with
   | some r => settle f xs r.1 r.2
   | none => none
theorem iQ {M0 : Nat → Prop} {tmps : Array Value} (xs : List Operand) : ∀ (f : Nat) {D : Names} {env : List AV} {objs : List (Nat × Obj)}, Mem w0 M0 objs D w → ax w D env tmps → ∀ {r}, settle f xs env objs = some r →
  ∃ D', Mem w0 M0 r.2 D' w ∧ ax w D' r.1 tmps ∧ ∀ D0, qf D0 D objs → qf D0 D' r.2
 | 0, D, env, objs, hm, he, r, h => by simp only [settle, Option.some.injEq] at h; subst h; exact ⟨D, hm, he, fun _ h => h⟩
 | f + 1, D, env, objs, hm, he, r, h => by
  simp only [settle] at h
  split at h
  ·simp only [Option.some.injEq] at h; subst h; exact ⟨D, hm, he, fun _ h => h⟩
  ·split at h
   ·rename_i r' hf
    obtain ⟨D', h1, h2, h3⟩ := oM hm he (env' := r'.1) (objs' := r'.2) (by rw [hf])
    obtain ⟨D'', g1, g2, g3⟩ := iQ xs f h1 h2 h
    exact ⟨D'', g1, g2, fun D0 hp => g3 D0 (h3 D0 hp)⟩
   ·cases h
def rowsOf (sz : Nat) : List AV → Option (List (List AV))
 | [] => some []
 | x :: r => match cellsOf x, rowsOf sz r with
  | some cs, some l => if cs.length = sz ∧ cs.all dh = true then some (cs :: l) else none
  | _, _ => none
theorem oa {x : AV} {v : Value} (h : Cell w D x v) (hp : dh x = true) : cU w D.M x v := by
 cases x <;> first | (simp [dh] at hp; done) | (simpa only [Cell] using h)
theorem o7 {a : Act} (hg : cO w D.M) (he : ax w D env a.tmps) {sz : Nat} : ∀ (xs : List Operand) (l : List (List AV)), rowsOf sz (xs.map (ev env)) = some l →
  l.length = xs.length ∧ (∀ v ∈ xs.map a.eval, v.cells.size = sz) ∧ cV w D.M sz l ((xs.map a.eval).flatMap fun v => v.cells.toList)
 | [], l, h => by simp [rowsOf] at h; subst h; simp [cV]
 | x :: xs, l, h => by
  simp only [List.map_cons, rowsOf] at h
  split at h
  ·rename_i cs l' hcs hl'
   split at h
   ·rename_i hc
    simp only [Option.some.injEq] at h; subst h
    obtain ⟨h1, h2, h3, h4, h5⟩ := o7 hg he xs l' hl'
    obtain ⟨vs, hvs, hone⟩ := fS (aj hg he x) hcs
    have hlen : vs.length = sz := by rw [hone.1]; exact hc.1
    refine ⟨by simp [h1], fun v hv => ?_, ?_, fun j cs' hj => ?_, fun j cs' i y hj hy => ?_⟩
    ·simp only [List.map_cons, List.mem_cons] at hv
     rcases hv with rfl | hv
     ·rw [hvs]; simpa using hlen
     ·exact h2 v hv
    ·simp only [List.map_cons, List.flatMap_cons, hvs, List.length_append, List.length_cons]
     rw [Nat.add_mul, Nat.one_mul]
     have : vs.length = sz := hlen
     omega
    ·cases j with
     | zero => simp at hj; subst hj; exact hc.1
     | succ j => simp at hj; exact h4 j cs' hj
    ·simp only [List.map_cons, List.flatMap_cons, hvs]
     cases j with
     | zero =>
      simp at hj; subst hj
      have hi : i < vs.length := by rw [hone.1]; exact (List.getElem?_eq_some_iff.1 hy).1
      have := hone.2 i y hy
      have hp : dh y = true := List.all_eq_true.1 hc.2 y (List.mem_of_getElem? hy)
      have e : (vs ++ (xs.map a.eval).flatMap fun v => v.cells.toList).getD (0 * sz + i) undef = vs.getD i undef := by
       simp [List.getD, List.getElem?_append, hi]
      rw [e]
      exact ⟨oa this.1 hp, this.2⟩
     | succ j =>
      simp at hj
      have := h5 j cs' i y hj hy
      have e : (vs ++ (xs.map a.eval).flatMap fun v => v.cells.toList).getD ((j + 1) * sz + i) undef = ((xs.map a.eval).flatMap fun v => v.cells.toList).getD (j * sz + i) undef := by
       have e1 : ¬ (j + 1) * sz + i < vs.length := by rw [hlen, Nat.add_mul, Nat.one_mul]; omega
       have e2 : (j + 1) * sz + i - vs.length = j * sz + i := by rw [hlen, Nat.add_mul, Nat.one_mul]; omega
       simp only [List.getD, List.getElem?_append, e1, if_false, e2]
      rw [e]
      exact this
   ·cases h
  ·cases h
theorem iX.pins {P : Program} {M0 : Nat → Prop} {a : Act} {D D' : Names} {s : Sem Next} {r : HR} (hp : ∀ D0, qf D0 D objs → qf D0 D' objs')
  (h : iX P w0 M0 a w D' objs' s r) : iX P w0 M0 a w D objs s r :=
 let ⟨v, w', D'', h1, h2, h3, h4, h5⟩ := h
 ⟨v, w', D'', h1, h2, h3, h4, fun D0 h => h5 D0 (hp D0 h)⟩
def jA (P : Program) (env : List AV) (objs : List (Nat × Obj)) (d : Nat) (T : TypeId) (len : Nat) (parts : List (Nat × Operand)) : Option HR :=
 match settle 8 (parts.map (·.2)) env objs with
 | some r => match look d r.2, bf P T, (jN P T).bind (zeroCells P) with
  | none, some sz, some _ => match rowsOf sz ((parts.map (·.2)).map (ev r.1)) with
   | some rows => if parts.map (·.1) = List.range len ∧ 0 < sz ∧ len * sz ≤ 16777216 then some ⟨.cw d sz 0 len, r.1, (d, .arr sz rows) :: r.2⟩ else none
   | none => none
  | _, _, _ => none
 | none => none
theorem mi {P : Program} {T sz : Nat} (h : bf P T = some sz) : ∃ e i, jN P T = some e ∧ P.underlying T = some (.slice e) ∧ P.info? e = some i ∧ i.size = sz := by
 obtain ⟨e, i, hu, hi, hs⟩ := cH h
 exact ⟨e, i, by simp [jN, hu], hu, hi, hs⟩
theorem HJ {α : Type} (l : List (Nat × α)) (n : Nat) (h : l.map (·.1) = List.range n) : l = ((l.map (·.2)).zipIdx 0).map fun x => (x.2, x.1) := by
 apply List.ext_getElem?
 intro k
 have hlen : l.length = n := by have := congrArg List.length h; simpa using this
 by_cases hk : k < l.length
 ·have h1 : (l.map (·.1))[k]? = (List.range n)[k]? := by rw [h]
  simp only [List.getElem?_map, List.getElem?_eq_getElem hk, Option.map_some] at h1
  rw [List.getElem?_range (by omega)] at h1
  simp only [Option.some.injEq] at h1
  simp only [List.getElem?_map, List.getElem?_zipIdx, List.getElem?_eq_getElem hk, Option.map_some, Nat.zero_add]
  congr 1
  exact Prod.ext h1 rfl
 ·rw [List.getElem?_eq_none (by omega), List.getElem?_eq_none (by simp; omega)]
theorem xf {P : Program} {M0 : Nat → Prop} (hm : Mem w0 M0 objs D w) {a : Act} (he : ax w D env a.tmps) {d : Nat} (hK : d < top) {T : TypeId} {len : Nat}
  {parts : Array (Nat × Operand)} {r : HR} (h : jA P env objs d T len parts.toList = some r) : iX P w0 M0 a w D objs (do pure (.value (← Instr.buildSlice T len (parts.map fun (i, x) => (i, a.eval x))))) r := by
 unfold jA at h
 split at h
 ·rename_i q hq
  obtain ⟨D', hm', he', hpin⟩ := iQ _ 8 hm he hq
  split at h
  ·rename_i sz z hd hsz hz
   split at h
   ·rename_i rows hrows
    split at h
    ·rename_i hc
     obtain ⟨hidx, hpos, hsmall⟩ := hc
     simp only [Option.some.injEq] at h; subst h
     obtain ⟨e, i, he1, hu, hi, hs⟩ := mi hsz
     rw [he1] at hz
     obtain ⟨i', zv, hi', hzv, _, _⟩ := fe w D' hz
     rw [hi] at hi'; cases hi'
     obtain ⟨hrl, hsize, hR⟩ := o7 hm'.bq he' (parts.toList.map (·.2)) rows hrows
     have hlen : parts.toList.length = len := by have := congrArg List.length hidx; simpa using this
     have hvl : (parts.toList.map (fun p => a.eval p.2)).length = len := by simpa using hlen
     let vs : List Value := parts.toList.map fun p => a.eval p.2
     have hvs : (parts.toList.map (·.2)).map a.eval = vs := by simp [vs]
     rw [hvs] at hsize hR
     have hparts : (parts.map fun (i, x) => (i, a.eval x)).toList = (vs.zipIdx 0).map fun x => (x.2, x.1) := by
      have := HJ ((parts.map fun (i, x) => (i, a.eval x)).toList) len (by simpa [Function.comp_def] using hidx)
      rw [this]; simp [vs, Function.comp_def]
     have hrun : (Instr.buildSlice T len (parts.map fun (i, x) => (i, a.eval x))).run P w = .ok (.slice (some ⟨w.heap.size, 0, none⟩) len len) (w.alloc (.cells (vs.flatMap fun v => v.cells.toList).toArray e)) := by
      by_cases h0 : len = 0
      ·subst h0
       have hv0 : vs = [] := List.eq_nil_of_length_eq_zero hvl
       have hp0 : (parts.map fun (i, x) => (i, a.eval x)).toList = [] := by rw [hparts, hv0]; rfl
       simp only [Instr.buildSlice, Sem.run_bind, run_underlying hu, Result.andThen_ok, sizeOf, typeInfo, run_program, hi, Sem.run_pure, Nat.zero_mul, hp0, hv0]
       simp [Instr.fill, newRow, Array.range_zero']
      ·refine run_buildSlice w T e len _ _ i zv hu hi hzv (by rw [hs]; omega) (by rw [hs]; exact Nat.mul_ne_zero h0 (by omega)) ?_
       rw [hparts, hs]
       exact Go.Great.fill_whole hpos vs _ hsize (by simp only [Array.size_map, Array.size_range]; rw [hvl])
     refine iX.pins hpin (mh hm' he' hd hK hR (by rw [hrl]; simp only [List.length_map, hlen, cj]; have : len * 1 ≤ len * sz := Nat.mul_le_mul_left _ hpos; omega) e (0, 0) (fj _) _ (by simp [hrun]; rfl) (fun D'' hD'' => ?_))
     refine gK hD'' (Nat.le_refl _) ?_
     have := hR.1
     rw [hrl] at this
     simpa [hlen] using this
    ·cases h
   ·cases h
  ·cases h
 ·cases h
end Go.Abs
namespace Go.Abs
open Go.RowKit
variable {objs : List (Nat × Obj)} {P : Program} {w : World} {env : List AV} {D : Names}
def En (P : Program) (env : List AV) (objs : List (Nat × Obj)) (d : Nat) (T : TypeId) (l c : AV) : Option HR :=
 match look d objs, bf P T, jN P T, idx l, idx c with
 | none, some sz, some e, some n, some m => match zeroCells P e, wM P e with
  | some z, some by_ => if z.length = sz ∧ 0 ≤ n ∧ n ≤ m ∧ m ≤ cj ∧ (by_ : Int) * m ≤ cj then some ⟨.cw d sz 0 n.toNat, env, (d, .arr sz (List.replicate n.toNat z)) :: objs⟩ else none
  | _, _ => none
 | _, _, _, _, _ => none
theorem NX {w0 w : World} {M0 : Nat → Prop} (hm : Mem w0 M0 objs D w) {a : Act} (he : ax w D env a.tmps) {d : Nat} (hK : d < top) {T : TypeId} {l c : AV} {r : HR}
  (h : En P env objs d T l c = some r) {vl vc : Value} (hvl : Slot w D l vl) (hvc : Slot w D c vc) : iX P w0 M0 a w D objs (do pure (.value (← Instr.makeSlice T vl vc))) r := by
 unfold En at h
 split at h
 ·rename_i sz e n m hd hsz hel hn hmm
  split at h
  ·rename_i z by_ hz hby
   split at h
   ·rename_i hc
    obtain ⟨hzl, h0, h1, h2, h3⟩ := hc
    simp only [Option.some.injEq] at h; subst h
    obtain ⟨e', i, he1, hu, hi, hs⟩ := mi hsz
    rw [hel] at he1; cases he1
    obtain ⟨i', zv, hi', hzv, hone, himm⟩ := fe w D hz
    rw [hi] at hi'; cases hi'
    have hb : i.bytes = by_ := by simpa [wM, hi] using hby
    obtain ⟨k1, rfl⟩ := jo hn hvl
    obtain ⟨k2, rfl⟩ := jo hmm hvc
    have hrun := run_make (P := P) w T e i zv hu hi hzv k1 k2 n m h0 h1 (by rw [hb]; simp only [cj] at h3; omega) (by simp only [cj] at h2; omega)
    have hzs : zv.cells.size = sz := by have := hone.1; simp at this; omega
    have hmade : (madeCells zv.cells (m.toNat * i.size)) = (madeCells zv.cells (m.toNat * i.size)).toList.toArray := by simp
    rw [hmade] at hrun
    have hlen : (madeCells zv.cells (m.toNat * i.size)).toList.length = m.toNat * sz := by simp [size_madeCells, hs]
    have hle : n.toNat * sz ≤ m.toNat * sz := Nat.mul_le_mul_right _ (by omega)
    refine mh hm he hd hK (vs := (madeCells zv.cells (m.toNat * i.size)).toList) ⟨by rw [hlen]; simpa using hle, fun j cs hj => ?_, fun j cs p x hj hx => ?_⟩ (by simp only [List.length_replicate]; omega) e (0, 0) (fj _) _ (by simp [hrun]; rfl) (fun D' hD' => ?_)
    ·rw [List.getElem?_replicate] at hj
     split at hj
     ·simp only [Option.some.injEq] at hj; subst hj; exact hzl
     ·cases hj
    ·rw [List.getElem?_replicate] at hj
     split at hj
     ·rename_i hjn
      simp only [Option.some.injEq] at hj; subst hj
      have hp : p < sz := by rw [← hzl]; exact (List.getElem?_eq_some_iff.1 hx).1
      have hlt : j * sz + p < m.toNat * sz := by
       have : (j + 1) * sz ≤ n.toNat * sz := Nat.mul_le_mul_right _ hjn
       rw [Nat.add_mul, Nat.one_mul] at this; omega
      have e1 : (madeCells zv.cells (m.toNat * i.size)).toList.getD (j * sz + p) undef = zv.cells.toList.getD p undef := by
       have hpz : p < zv.cells.size := by omega
       have hmod : (j * sz + p) % sz = p := by rw [Nat.mul_comm, Nat.mul_add_mod, Nat.mod_eq_of_lt hp]
       have hget : zv.cells[p]! = zv.cells[p] := getElem!_pos zv.cells p hpz
       simp [List.getD, madeCells, hs, hlt, hzs, hmod, hget, Array.getElem?_eq_getElem hpz]
      rw [e1]
      exact ⟨himm p x hx, (hone.2 p x hx).2⟩
     ·cases hj
    ·refine gK hD' (by omega) ?_
     rw [hlen]; exact Nat.le_refl _
   ·cases h
  ·cases h
 ·cases h
def bytesOf (s : List UInt8) : List (List AV) := s.map fun b => [.int .u8 b.toNat]
def xq (P : Program) (env : List AV) (objs : List (Nat × Obj)) (d : Nat) (S T : TypeId) (x : AV) : Option HR :=
 match look d objs, x with
 | none, .str s => if iE P S = true ∧ mc P T = true ∧ s.length ≤ cj then some ⟨.cw d 1 0 s.length, env, (d, .arr 1 (bytesOf s)) :: objs⟩ else none
 | _, _ => none
theorem tJ (w : World) (M : Nat → Prop) (s : List UInt8) (rest : List Value) : cV w M 1 (bytesOf s) ((s.map fun b => Value.int .u8 b.toNat) ++ rest) := by
 refine ⟨by simp [bytesOf], fun j cs hj => ?_, fun j cs i x hj hx => ?_⟩
 ·simp only [bytesOf, List.getElem?_map] at hj
  obtain ⟨b, _, rfl⟩ := Option.map_eq_some_iff.1 hj
  rfl
 ·simp only [bytesOf, List.getElem?_map] at hj
  obtain ⟨b, hb, rfl⟩ := Option.map_eq_some_iff.1 hj
  cases i with
  | zero =>
   simp only [List.getElem?_cons_zero, Option.some.injEq] at hx; subst hx
   have hlt : j < s.length := (List.getElem?_eq_some_iff.1 hb).1
   have e : ((s.map fun b => Value.int .u8 b.toNat) ++ rest).getD (j * 1 + 0) undef = .int .u8 b.toNat := by
    have hbj : s[j] = b := (List.getElem?_eq_some_iff.1 hb).2
    simp [List.getD, List.getElem?_append, hlt, hbj]
   rw [e]
   exact ⟨.int _ _, rfl⟩
  | succ i => simp at hx
theorem xp (w : World) (c : Array Value) (e : TypeId) (n : Nat) : (w.alloc (.cells c e)).freeze ⟨w.heap.size, n, none⟩ 1 = w.alloc (.cells c e (n, n + 1)) := by
 unfold World.freeze
 rw [if_neg (by decide)]
 show ({ w with heap := (w.heap.push (.cells c e)).modify w.heap.size _ } : World) = { w with heap := w.heap.push (.cells c e (n, n + 1)) }
 congr 1
 apply Array.ext
 ·simp
 ·intro i h1 h2
  simp only [Array.getElem_modify, Array.getElem_push]
  by_cases hi : i < w.heap.size
  ·have : ¬ w.heap.size = i := by omega
   simp [hi, this]
  ·have : w.heap.size = i := by simp at h2; omega
   simp [this]
theorem KK {w0 w : World} {M0 : Nat → Prop} (hm : Mem w0 M0 objs D w) {a : Act} (he : ax w D env a.tmps) {d : Nat} (hK : d < top) {S T : TypeId} {x : AV} {r : HR}
  (h : xq P env objs d S T x = some r) {v : Value} (hv : Slot w D x v) : iX P w0 M0 a w D objs (do pure (.value (← convert S T v))) r := by
 unfold xq at h
 split at h
 ·rename_i s hd
  split at h
  ·rename_i hc
   obtain ⟨hS, hT, hl⟩ := hc
   simp only [Option.some.injEq] at h; subst h
   obtain ⟨rfl, _⟩ := fW hv
   obtain ⟨e, hu, hue⟩ := qG hT
   have hz : (⟨s.toArray⟩ : ByteArray).size = s.length := by simp [ByteArray.size]
   let cap := grownCap w s.length 0 e
   let vs : List Value := (s.map fun b => Value.int .u8 b.toNat) ++ List.replicate (cap - s.length) (.int .u8 0)
   have hcap : s.length ≤ cap := by simp only [cap, grownCap, Question.cut]; omega
   have hvl : vs.length = cap := by simp [vs]; omega
   have hrun : (convert S T (.string ⟨s.toArray⟩)).run P w = .ok (.slice (some ⟨w.heap.size, 0, none⟩) s.length cap) (w.drew.alloc (.cells vs.toArray e (vs.length, vs.length + 1))) := by
    have harr : ((⟨s.toArray⟩ : ByteArray).data.map fun b => Value.int .u8 b.toNat) ++ Array.replicate (cap - s.length) (.int .u8 0) = vs.toArray := by
     apply Array.ext'
     simp [vs]
    have hfz := xp w.drew vs.toArray e vs.length
    simp only [convert, Sem.run_bind, run_underlying (gi hS), run_underlying hu, Result.andThen_ok, run_underlying hue, Conv.stringToBytes, run_choose_drew, hz, Question.forced, Bool.false_eq_true, if_false]
    have hcapE : (Question.appendCap s.length 0 e).cut (w.tape w.drawn (Question.appendCap s.length 0 e)) = cap := rfl
    rw [hcapE, harr]
    simp only [newRow, Sem.run_bind, run_newObj_alloc, Result.andThen_ok, Sem.run_pure, markStringish, run_shape]
    have hsh : (w.drew.alloc (.cells vs.toArray e)).shape? w.drew.heap.size = some (e, vs.length) := by
     simp only [World.shape?, ke]; simp
    simp only [hsh, run_freeze, Result.andThen_ok]
    rw [hfz]
    rfl
   have hm' := hm.drew
   have he' : ax w.drew D env a.tmps := he.mono ⟨⟨Nat.le_refl _, fun _ _ _ => rfl⟩, fun _ _ => rfl⟩ (fun _ _ h => h) hm.lt (fun _ _ h => h)
   refine mh (P := P) hm' he' hd hK (tJ w.drew D.M s (List.replicate (cap - s.length) (.int .u8 0))) (by simpa [bytesOf] using hl) e (vs.length, vs.length + 1) (fun j hj hf => by have h1 : vs.length ≤ j := hf.1; have h2 : j < vs.length := hj; omega) _ (by rw [Sem.run_bind, hrun]; rfl) (fun D' hD' => ?_)
   have := gK (w := w.drew) (T := e) (vs := vs) (fz := (vs.length, vs.length + 1)) (sz := 1) hD' hcap (by omega)
   exact this
  ·cases h
 ·cases h
def over (cs : List AV) (off : Nat) (us : List AV) : List AV := cs.take off ++ (us ++ cs.drop (off + us.length))
def ug (P : Program) (env : List AV) (objs : List (Nat × Obj)) (T : TypeId) (x : Operand) (y : Operand) : Option HR :=
 match ev env x with
 | .ref n sz i off => match look n objs with
  | some (.box cs) => match cJ P T, cellsOf (ev env y) with
   | some (_, k), some us => if i = 0 ∧ us.length = k ∧ off + k ≤ cs.length then some ⟨.gO, env, js n (.box (over cs off us)) objs⟩ else none
   | _, _ => none
  | some (.arr _ _) => match settle 8 [y] env objs with
   | some r => match look n r.2, cJ P T, cellsOf (ev r.1 y), ev r.1 x with
    | some (.arr sz' l), some (_, k), some us, .ref n' sz'' i' off' => if sz = sz' ∧ i < l.length ∧ us.length = k ∧ off + k ≤ (l.getD i []).length ∧ us.all dh = true ∧ n' = n ∧ sz'' = sz ∧ i' = i ∧ off' = off then
      some ⟨.gO, r.1, js n (.arr sz (l.set i (over (l.getD i []) off us))) r.2⟩ else none
    | _, _, _, _ => none
   | none => none
  | _ => none
 | _ => none
theorem za {T n : Nat} {g : Bool} (h : cJ P T = some (g, n)) : ∃ i, P.info? T = some i ∧ i.size = n := by
 unfold cJ at h
 split at h
 ·rename_i i _ hi; simp only [Option.some.injEq, Prod.mk.injEq] at h; exact ⟨i, hi, h.2⟩
 ·rename_i i _ hi; simp only [Option.some.injEq, Prod.mk.injEq] at h; exact ⟨i, hi, h.2⟩
 ·rename_i i _ _ _ hi; simp only [Option.some.injEq, Prod.mk.injEq] at h; exact ⟨i, hi, h.2⟩
 ·cases h
theorem rr {T k b o : Nat} {g : Bool} (ht : cJ P T = some (g, k)) {v : Value} {vs : List Value} (hv : v.cells = vs.toArray) (hk : vs.length = k) {cur : List Value} {Te : TypeId} {fz : Nat × Nat}
  (hg : w.heap[b]? = some (.cells cur.toArray Te fz)) (hu : mQ fz cur.length) (hfit : o + k ≤ cur.length) (h1 : ∀ u ∈ vs, u.oneCell' = true) :
  (Instr.storeAt T (.pointer (some ⟨b, o, none⟩)) v).run P w = .ok () (w.setRow b (cur.take o ++ (vs ++ cur.drop (o + vs.length))).toArray) := by
 obtain ⟨i, hi, rfl⟩ := za ht
 have := gI (P := P) b Te fz vs o 0 cur.toArray w hg (by simpa using hu) (by simp; omega) h1
 simp only [Nat.add_zero] at this
 simp [Instr.storeAt, Instr.sureAddr, storeVar, sizeOf, typeInfo, hi, hv, hk, this]
theorem I9 {cs : List AV} {vs : List Value} (h : cL w D cs vs) : ∀ u ∈ vs, u.oneCell' = true := by
 intro u hu
 obtain ⟨i, hi, rfl⟩ := List.getElem_of_mem hu
 have hlt : i < cs.length := by rw [← h.1]; exact hi
 have := (h.2 i _ (List.getElem?_eq_getElem hlt)).2
 simpa [List.getD, List.getElem?_eq_getElem hi] using this
theorem KL {w0 w : World} {M0 : Nat → Prop} (hm : Mem w0 M0 objs D w) {a : Act} (he : ax w D env a.tmps) {T : TypeId} {x y : Operand} {r : HR}
  (h : ug P env objs T x y = some r) : iX P w0 M0 a w D objs (do Instr.storeAt T (a.eval x) (a.eval y); pure .skip) r := by
 unfold ug at h
 have hX := aj hm.bq he x
 split at h
 ·rename_i n sz i off hx
  rw [hx] at hX
  split at h
  ·rename_i cs hl
   split at h
   ·rename_i g k us ht hus
    split at h
    ·rename_i hc
     obtain ⟨rfl, hk, hfit⟩ := hc
     simp only [Option.some.injEq] at h; subst h
     simp only [Slot, cM, Cell] at hX
     obtain ⟨b, hD, hp⟩ := hX
     obtain ⟨cur, Te, g1, g2, g3⟩ := hm.rep n _ _ hl hD
     obtain ⟨vs, hvs, hone⟩ := fS (aj hm.bq he y) hus
     have hvk : vs.length = k := by rw [hone.1]; exact hk
     have hrun := rr (P := P) ht hvs hvk g1 (fj _) (o := off) (by rw [g2]; exact hfit) (I9 hone)
     let new := cur.take off ++ (vs ++ cur.drop (off + vs.length))
     have hsz : new.toArray.size = cur.toArray.size := by simp [new]; omega
     have kN : cB w (w.setRow b new.toArray) D.N := mm g1 hsz ⟨n, hm.small n (by simp [hl]), hD⟩
     have kg : cB w (w.setRow b new.toArray) D.M := kN.weaken (fun _ _ h => Names.KA h)
     have hcur : cL w D cs cur := ⟨g2, g3⟩
     have hnew : cL w D (over cs off us) new := by
      unfold over
      rw [hk, ← hvk]
      exact (hcur.take off).append (hone.append (hcur.drop (off + vs.length)))
     refine ⟨undef, w.setRow b new.toArray, D, .inr ⟨?_, rfl⟩, by simp only [Slot, cM, Cell]; exact .gO, hm.js hl hD kN (fun c hc => setRow_other w b c _ hc) ?_ rfl rfl rfl, he.mono kg (fun _ _ h => h) hm.lt (fun _ _ h => h), fun _ hp => hp.js hl (.inl ⟨_, rfl⟩)⟩
     ·rw [hp]; simp only [Nat.zero_mul, Nat.zero_add, Sem.run_bind, hrun]; rfl
     ·exact ⟨new, Te, setRow_heap w b _ _ Te _ g1, hnew.1, fun j z hz => ⟨(hnew.2 j z hz).1.mono kg (fun _ _ h => h) hm.lt (fun _ _ h => h), (hnew.2 j z hz).2⟩⟩
    ·cases h
   ·cases h
  ·split at h
   ·rename_i q hq
    obtain ⟨D', hm', he', hpin⟩ := iQ _ 8 hm he hq
    split at h
    ·rename_i sz' l g k us n' sz'' i' off' hl ht hus hx'
     split at h
     ·rename_i hc
      obtain ⟨e1, hi, hk, hfit, hpl, e2, e3, e4, e5⟩ := hc
      subst e1
      rw [e2, e3, e4, e5] at hx'
      simp only [Option.some.injEq] at h; subst h
      have hX' := aj hm'.bq he' x
      rw [hx'] at hX'
      simp only [Slot, cM, Cell] at hX'
      obtain ⟨b, hD, hp⟩ := hX'
      obtain ⟨cur, Te, fz, g1, g2, g3, g4, g5, g6⟩ := hm'.rep n _ _ hl hD
      obtain ⟨vs, hvs, hone⟩ := fS (aj hm'.bq he' y) hus
      have hvk : vs.length = k := by rw [hone.1]; exact hk
      have hli : l[i]? = some (l.getD i []) := by simp [List.getD, List.getElem?_eq_getElem hi]
      have hrl := g5 i _ hli
      have hmul : (i + 1) * sz ≤ l.length * sz := Nat.mul_le_mul_right _ hi
      rw [Nat.add_mul, Nat.one_mul] at hmul
      have hrun := rr (P := P) ht hvs hvk g1 g2 (o := i * sz + off) (by omega) (I9 hone)
      let new := cur.take (i * sz + off) ++ (vs ++ cur.drop (i * sz + off + vs.length))
      have hnl : new.length = cur.length := by simp [new]; omega
      have hsz : new.toArray.size = cur.toArray.size := by simp [hnl]
      have kN : cB w (w.setRow b new.toArray) D'.N := mm g1 hsz ⟨n, hm'.small n (by simp [hl]), hD⟩
      have kg : cB w (w.setRow b new.toArray) D'.M := kN.weaken (fun _ _ h => Names.KA h)
      have hget : ∀ p, p < cur.length → new.getD p undef = if p < i * sz + off then cur.getD p undef else if p < i * sz + off + vs.length then vs.getD (p - (i * sz + off)) undef else cur.getD p undef := by
       intro p hp'
       simp only [new, List.getD, List.getElem?_append, List.length_take, List.getElem?_take, List.getElem?_drop]
       have hmin : min (i * sz + off) cur.length = i * sz + off := by omega
       rw [hmin]
       by_cases h1 : p < i * sz + off
       ·simp [h1]
       ·simp only [h1, if_false]
        by_cases h2 : p < i * sz + off + vs.length
        ·simp [h2, show p - (i * sz + off) < vs.length by omega]
        ·simp only [h2, if_false, show ¬ (p - (i * sz + off) < vs.length) by omega]
         congr 2; omega
      refine ⟨undef, w.setRow b new.toArray, D', .inr ⟨?_, rfl⟩, by simp only [Slot, cM, Cell]; exact .gO, hm'.js hl hD kN (fun c hc => setRow_other w b c _ hc) ?_ rfl rfl rfl, he'.mono kg (fun _ _ h => h) hm'.lt (fun _ _ h => h), fun D0 hp => (hpin D0 hp).js hl (.inr (.inl ⟨_, _, rfl⟩))⟩
      ·rw [hp]; simp only [Sem.run_bind, hrun]; rfl
      ·have hol : (over (l.getD i []) off us).length = sz := by simp only [over, List.length_append, List.length_take, List.length_drop]; omega
       refine ⟨new, Te, fz, setRow_heap w b _ _ Te _ g1, by rw [hnl]; exact g2, by simpa using g3, by rw [hnl]; simpa using g4, fun j cs hj => ?_, fun j cs p z hj hz => ?_⟩
       ·rw [List.getElem?_set] at hj
        split at hj
        ·simp only [Option.some.injEq] at hj; rw [← hj]; exact hol
        ·exact g5 j cs hj
       ·have base : ∀ z (u : Value), cU w D'.M z u → cU (w.setRow b new.toArray) D'.M z u := fun z u hu => hu.mono kg.toKeep (fun _ _ h => h)
        rw [List.getElem?_set] at hj
        split at hj
        ·rename_i hij
         subst hij
         simp only [Option.some.injEq] at hj; subst hj
         have hp' : p < sz := by rw [← hol]; exact (List.getElem?_eq_some_iff.1 hz).1
         rw [hget _ (by omega)]
         simp only [over, List.getElem?_append, List.length_take, List.getElem?_take, List.getElem?_drop] at hz
         have hmin : min off (l.getD i []).length = off := by omega
         rw [hmin] at hz
         by_cases h1 : p < off
         ·simp only [h1, if_true] at hz
          rw [if_pos (by omega)]
          have := g6 i _ p z hli hz
          exact ⟨base _ _ this.1, this.2⟩
         ·simp only [h1, if_false] at hz
          rw [if_neg (by omega)]
          by_cases h2 : p - off < us.length
          ·simp only [h2, if_true] at hz
           rw [if_pos (by omega)]
           have := hone.2 _ z hz
           have hpz : dh z = true := List.all_eq_true.1 hpl z (List.mem_of_getElem? hz)
           rw [show i * sz + p - (i * sz + off) = p - off by omega]
           exact ⟨base _ _ (oa this.1 hpz), this.2⟩
          ·simp only [h2, if_false] at hz
           rw [if_neg (by omega)]
           rw [show off + us.length + (p - off - us.length) = p by omega] at hz
           have := g6 i _ p z hli hz
           exact ⟨base _ _ this.1, this.2⟩
        ·rename_i hij
         have hjl : j < l.length := (List.getElem?_eq_some_iff.1 hj).1
         have hp' : p < sz := by rw [← g5 j cs hj]; exact (List.getElem?_eq_some_iff.1 hz).1
         have hmul2 : (j + 1) * sz ≤ l.length * sz := Nat.mul_le_mul_right _ hjl
         rw [Nat.add_mul, Nat.one_mul] at hmul2
         have := g6 j cs p z hj hz
         rw [hget _ (by omega)]
         have hne : j < i ∨ i < j := by omega
         rcases hne with hlt | hlt
         ·have hmul3 : (j + 1) * sz ≤ i * sz := Nat.mul_le_mul_right _ hlt
          rw [Nat.add_mul, Nat.one_mul] at hmul3
          rw [if_pos (by omega)]
          exact ⟨base _ _ this.1, this.2⟩
         ·have hmul3 : (i + 1) * sz ≤ j * sz := Nat.mul_le_mul_right _ hlt
          rw [Nat.add_mul, Nat.one_mul] at hmul3
          rw [if_neg (by omega), if_neg (by omega)]
          exact ⟨base _ _ this.1, this.2⟩
     ·cases h
    ·cases h
   ·cases h
  ·cases h
 ·cases h
end Go.Abs
namespace Go.Abs
open Go.RowKit
def nr (P : Program) (objs : List (Nat × Obj)) (T2 : TypeId) (sz : Nat) (y : AV) : Option (List (List AV)) :=
  match y with
  | .str s => if iE P T2 = true ∧ sz = 1 then some (bytesOf s) else none
  | y => if (bf P T2).isSome then eM objs sz y else none
def hAppend (P : Program) (env : List AV) (objs : List (Nat × Obj)) (d : Nat) (T T2 : TypeId) (x y : AV) : Option HR :=
  match bf P T, (jN P T).bind (wM P), (jN P T).bind (zeroCells P) with
  | some sz, some by_, some z => match nr P objs T2 sz y with
    | some rows => match x with
      | .gE => if look d objs = none ∧ rows.length ≤ cj ∧ rows.length * by_ ≤ cj ∧ z.length = sz then some ⟨.cw d sz 0 rows.length, env, (d, .arr sz rows) :: objs⟩ else none
      | .cw m sz' 0 len => match look m objs with
        | some (.arr sz'' l) => if sz' = sz ∧ sz'' = sz ∧ l.length = len ∧ look d (drop m objs) = none ∧ len + rows.length ≤ cj ∧ (len + rows.length) * by_ ≤ cj ∧ z.length = sz then
            some ⟨.cw d sz 0 (len + rows.length), env.map (fB (kill m)), (d, .arr sz (l ++ rows)) :: iu (kill m) (drop m objs)⟩ else none
        | _ => none
      | _ => none
    | none => none
  | _, _, _ => none
structure Src (P : Program) (w : World) (M : Nat → Prop) (sz : Nat) (l : List (List AV)) (v : Value) (news : List Value) : Prop where
  len : news.length = l.length * sz
  rows : cV w M sz l news
  one : ∀ u ∈ news, u.oneCell' = true
  lenOf : ∀ w', (Builtin.lenOf v).run P w' = .ok l.length w'
  cells : ∀ w', w'.heap = w.heap → (Builtin.firstCells sz l.length v).run P w' = .ok news.toArray w'
theorem Gv {w w' : World} (h : w'.heap = w.heap) (a : Addr) : w'.cell? a = w.cell? a := by simp [World.cell?, h]
theorem HA {P : Program} {w : World} {D : Names} {sz : Nat} {l : List (List AV)} {v : Value} (h : oA w D sz l v) : ∃ news, Src P w D.M sz l v news := by
  obtain ⟨a, cap, rfl, hcap, hlim, hcase⟩ := h
  rcases hcase with rfl | ⟨b, off, rfl, hb, hsz, f, hf⟩
  · refine ⟨[], by simp, ⟨by simp, by simp, by simp⟩, by simp, fun w' => by simp [Builtin.lenOf], fun w' _ => ?_⟩
    cases a <;> simp [Builtin.firstCells, loadCells, loadCellsFrom]
  · let news : List Value := (List.range (l.length * sz)).map fun k => f (k / sz) (k % sz)
    have hn : ∀ j i, j < l.length → i < sz → news.getD (j * sz + i) undef = f j i := by
      intro j i hj hi
      have hmul : (j + 1) * sz ≤ l.length * sz := Nat.mul_le_mul_right _ hj
      rw [Nat.add_mul, Nat.one_mul] at hmul
      have h1 : (j * sz + i) / sz = j := by rw [Nat.mul_comm, Nat.mul_add_div (by omega), Nat.div_eq_of_lt hi, Nat.add_zero]
      have h2 : (j * sz + i) % sz = i := by rw [Nat.mul_comm, Nat.mul_add_mod, Nat.mod_eq_of_lt hi]
      have h3 : j * sz + i < l.length * sz := by omega
      simp [news, List.getD, h3, h1, h2]
    have hk : ∀ k, k < l.length * sz → k / sz < l.length ∧ k % sz < sz ∧ k / sz * sz + k % sz = k := by
      intro k hk
      have hs0 : 0 < sz := by rcases Nat.eq_zero_or_pos sz with h | h; · rw [h] at hk; simp at hk
                              · exact h
      refine ⟨(Nat.div_lt_iff_lt_mul hs0).2 hk, Nat.mod_lt _ hs0, by rw [Nat.mul_comm]; exact Nat.div_add_mod k sz⟩
    have hcell : ∀ k, k < l.length * sz → w.cell? ⟨b, off + k, none⟩ = some (f (k / sz) (k % sz)) ∧ (f (k / sz) (k % sz)).oneCell' = true := by
      intro k hkl
      obtain ⟨g1, g2, g3⟩ := hk k hkl
      have hj := List.getElem?_eq_getElem g1
      have hi : k % sz < l[k / sz].length := by rw [hsz _ _ hj]; exact g2
      have := hf _ _ _ _ hj (List.getElem?_eq_getElem hi)
      rw [g3] at this
      exact ⟨this.1, this.2.1⟩
    refine ⟨news, by simp [news], ⟨by simp [news], hsz, fun j cs i x hj hx => ?_⟩, fun u hu => ?_, fun w' => by simp [Builtin.lenOf], fun w' hw' => ?_⟩
    · have hjl : j < l.length := (List.getElem?_eq_some_iff.1 hj).1
      have hi : i < sz := by rw [← hsz j cs hj]; exact (List.getElem?_eq_some_iff.1 hx).1
      rw [hn j i hjl hi]
      have := hf j cs i x hj hx
      exact ⟨this.2.2, this.2.1⟩
    · simp only [news, List.mem_map, List.mem_range] at hu
      obtain ⟨k, hkl, rfl⟩ := hu
      exact (hcell k hkl).2
    · simp only [Builtin.firstCells]
      rw [run_loadCells (P := P) w' ⟨b, off, none⟩ (l.length * sz) (fun k => f (k / sz) (k % sz)) (fun k hkl => by rw [cX, Gv hw']; exact (hcell k hkl).1)]
theorem M3 {P : Program} {w : World} {M : Nat → Prop} {s : List UInt8} : Src P w M 1 (bytesOf s) (.string ⟨s.toArray⟩) (s.map fun b => Value.int .u8 b.toNat) := by
  have hz : (⟨s.toArray⟩ : ByteArray).size = s.length := by simp [ByteArray.size]
  refine ⟨by simp [bytesOf], by simpa using tJ w M s [], fun u hu => ?_, fun w' => by simp [Builtin.lenOf, hz, bytesOf], fun w' _ => ?_⟩
  · obtain ⟨b, _, rfl⟩ := List.mem_map.1 hu; rfl
  · have hx : ((⟨s.toArray⟩ : ByteArray).extract 0 s.length).data = s.toArray := by
      simp [ByteArray.data_extract]
    simp only [Builtin.firstCells, bytesOf, List.length_map, hx, Sem.run_pure]
    simp
theorem vQ {P : Program} {w0 w : World} {M0 : Nat → Prop} {D : Names} {objs : List (Nat × Obj)} (hm : Mem w0 M0 objs D w) {T2 : TypeId} {sz : Nat} {y : AV} {rows : List (List AV)} (h : nr P objs T2 sz y = some rows)
    {v : Value} (hv : Slot w D y v) : (∃ news, Src P w D.M sz rows v news) ∧ (P.underlying T2 = some .string ∨ ∃ e2, P.underlying T2 = some (.slice e2)) := by
  unfold nr at h
  split at h
  · split at h
    · rename_i hc
      obtain ⟨hT, rfl⟩ := hc
      simp only [Option.some.injEq] at h; subst h
      obtain ⟨rfl, _⟩ := fW hv
      exact ⟨⟨_, M3⟩, .inl (gi hT)⟩
    · cases h
  · split at h
    · rename_i hT
      obtain ⟨s2, hs2⟩ := Option.isSome_iff_exists.1 hT
      obtain ⟨e, i, hu, _, _⟩ := cH hs2
      exact ⟨HA (fM hm h hv), .inr ⟨_, hu⟩⟩
    · cases h
theorem jT {P : Program} {w : World} {M : Nat → Prop} {T T2 ty e : TypeId} {i : TypeInfo} (hu : P.underlying T = some (.slice e)) (hi : P.info? e = some i) (hu2 : P.underlying T2 = some .string ∨ ∃ e2, P.underlying T2 = some (.slice e2))
    {l : List (List AV)} {v : Value} {news : List Value} (hs : Src P w M i.size l v news) (a : Option Addr) (sLen sCap : Nat) (hroom : sLen + l.length ≤ sCap) :
    (Builtin.append_ #[T, T2] ty #[.slice a sLen sCap, v]).run P w = match a with
      | some a => ((storeCells (a.add (sLen * i.size)) news).run P w).andThen fun _ w => .ok (.slice (some a) (sLen + l.length) sCap) w
      | none => .ok (.slice none (sLen + l.length) sCap) w := by
  have hl := hs.lenOf w
  have hc := hs.cells w rfl
  rcases hu2 with hu2 | ⟨e2, hu2⟩ <;> cases a <;> simp [Builtin.append_, run_underlying hu, run_underlying hu2, sizeOf, typeInfo, hi, hl, hroom, hc]
theorem jk {P : Program} {w : World} {M : Nat → Prop} {T T2 ty e : TypeId} {i : TypeInfo} (hu : P.underlying T = some (.slice e)) (hi : P.info? e = some i) (hu2 : P.underlying T2 = some .string ∨ ∃ e2, P.underlying T2 = some (.slice e2))
    {z : Value} (hz : i.zero = some z) {l : List (List AV)} {v : Value} {news : List Value} (hs : Src P w M i.size l v news) (a : Option Addr) (sLen sCap : Nat) (hroom : ¬ sLen + l.length ≤ sCap) (hlim : sLen + l.length ≤ cj)
    (hby : (sLen + l.length) * i.bytes ≤ cj) {olds : List Value} (hold : (Builtin.firstCells i.size sLen (.slice a sLen sCap)).run P w.drew = .ok olds.toArray w.drew) :
    ∃ cap rest, sLen + l.length ≤ cap ∧ rest = Builtin.zeroCells z.cells (cap - (sLen + l.length)) ∧ (Builtin.append_ #[T, T2] ty #[.slice a sLen sCap, v]).run P w =
      .ok (.slice (some ⟨w.heap.size, 0, none⟩) (sLen + l.length) cap) (w.drew.alloc (.cells (olds ++ (news ++ rest.toList)).toArray e)) := by
  refine ⟨grownCap w (sLen + l.length) sCap e, _, by simp only [grownCap, Question.cut]; omega, rfl, ?_⟩
  have hl := hs.lenOf w
  have hc := hs.cells w.drew rfl
  have h63' : ¬ (9223372036854775807 < ((sLen : Int) + (l.length : Int))) := by simp only [cj] at hlim; omega
  have hfit := growslice_fits (need := sLen + l.length) (old := sCap) (bytes := i.bytes) (by omega) (by simpa only [cj] using hby)
  have h48' : ¬ (281474976710656 < Builtin.nextslicecap (sLen + l.length) sCap * i.bytes) := by omega
  rcases hu2 with hu2 | ⟨e2, hu2⟩ <;> simp [Builtin.append_, run_underlying hu, run_underlying hu2, sizeOf, typeInfo, zeroValue, hi, hz, hl, hroom, h63', h48', Question.forced, hold, hc, newRow, grownCap] <;> (congr 2; apply Array.ext'; simp)
theorem DY {w0 w : World} {M0 : Nat → Prop} {D : Names} {objs : List (Nat × Obj)} (hm : Mem w0 M0 objs D w) {m d : Nat} {y : Option Nat} (hd : look d (drop m objs) = none) (hK : d < top)
    (hy : ∀ b, y = some b → w.heap.size ≤ b ∨ D m = some (some b)) :
    (∀ n e, n ≠ m → D n = some e → ((D.del m).ins d y) n = some e) ∧ (∀ b, b < w.heap.size → ((D.del m).ins d y).M b → D.M b) := by
  refine ⟨fun n e hne hn => ?_, ?_⟩
  · by_cases h : n = d
    · subst h
      rw [cS (Ne.symm hne)] at hd
      rw [hm.fresh hd hK] at hn; cases hn
    · simp only [Names.ins, h, if_false, Names.del, hne]; exact hn
  · rintro b hb ⟨n, hn⟩
    unfold Names.ins at hn
    split at hn
    · simp only [Option.some.injEq] at hn
      rcases hy b hn with h | h
      · omega
      · exact ⟨m, h⟩
    · exact Names.qP ⟨n, hn⟩
theorem Mem.W1 {w0 w : World} {M0 : Nat → Prop} {D : Names} {objs : List (Nat × Obj)} (hm : Mem w0 M0 objs D w) {d sz : Nat} (hd : look d objs = none) (hK : d < top) :
    Mem w0 M0 ((d, .arr sz []) :: objs) (D.ins d none) w ∧ (∀ n e, D n = some e → (D.ins d none) n = some e) ∧ (∀ b, (D.ins d none).M b → D.M b) := by
  obtain ⟨c1, c2⟩ := kf (w := w) (x := none) (hm.fresh hd hK) (fun b h => by cases h)
  have c3 : ∀ b, (D.ins d none).M b → D.M b := by
    rintro b ⟨n, hn⟩
    unfold Names.ins at hn
    split at hn
    · cases hn
    · exact ⟨n, hn⟩
  have c4 : ∀ b, (D.ins d none).N b → D.N b := by
    rintro b ⟨n, hK, hn⟩
    unfold Names.ins at hn
    split at hn
    · cases hn
    · exact ⟨n, hK, hn⟩
  refine ⟨⟨fun n hn => ?_, fun n hn => ?_, fun n ob e hl hn => ?_, fun n p b h1 h2 => ?_, fun b hb => hm.lt b (c3 b hb), fun b hb => hm.own b (c4 b hb), hm.grow, hm.os, hm.tape, hm.output, hm.bq.mono (cB.refl w _).toKeep fun b _ h => c3 b h⟩, c1, c3⟩
  · unfold Names.ins
    by_cases h : n = d
    · subst h; simp [look]
    · simp only [h, if_false, look, if_neg (Ne.symm h)]; exact hm.lQ n hn
  · by_cases h : n = d
    · subst h; exact hK
    · simp only [look, if_neg (Ne.symm h)] at hn; exact hm.small n hn
  · by_cases h : n = d
    · subst h
      simp only [look, if_true, Option.some.injEq] at hl
      subst hl
      simp only [Names.ins, if_true, Option.some.injEq] at hn
      subst hn
      rfl
    · simp only [look, if_neg (Ne.symm h)] at hl
      simp only [Names.ins, h, if_false] at hn
      exact (hm.rep n ob e hl hn).mono (cB.refl w _) c1 hm.lt c2 (fun _ _ => rfl)
  · unfold Names.ins at h1 h2
    split at h1
    · cases h1
    · split at h2
      · cases h2
      · exact hm.inj n p b h1 h2
theorem cV.append {w : World} {M : Nat → Prop} {sz : Nat} {l k : List (List AV)} {vs us rest : List Value} (h : cV w M sz l vs) (hl : vs.length = l.length * sz) (g : cV w M sz k us) : cV w M sz (l ++ k) (vs ++ (us ++ rest)) := by
  refine ⟨?_, fun j cs hj => ?_, fun j cs i x hj hx => ?_⟩
  · simp only [List.length_append, Nat.add_mul]
    have := g.1
    omega
  · rw [List.getElem?_append] at hj
    split at hj
    · exact h.2.1 j cs hj
    · exact g.2.1 _ cs hj
  · rw [List.getElem?_append] at hj
    split at hj
    · rename_i hjl
      have hi : i < sz := by rw [← h.2.1 j cs hj]; exact (List.getElem?_eq_some_iff.1 hx).1
      have hmul : (j + 1) * sz ≤ l.length * sz := Nat.mul_le_mul_right _ hjl
      rw [Nat.add_mul, Nat.one_mul] at hmul
      have e : (vs ++ (us ++ rest)).getD (j * sz + i) undef = vs.getD (j * sz + i) undef := by
        have : j * sz + i < vs.length := by omega
        simp [List.getD, List.getElem?_append, this]
      rw [e]; exact h.2.2 j cs i x hj hx
    · rename_i hjl
      have hi : i < sz := by rw [← g.2.1 _ cs hj]; exact (List.getElem?_eq_some_iff.1 hx).1
      have hjk : j - l.length < k.length := (List.getElem?_eq_some_iff.1 hj).1
      have hmul : (j - l.length + 1) * sz ≤ k.length * sz := Nat.mul_le_mul_right _ hjk
      rw [Nat.add_mul, Nat.one_mul] at hmul
      have hg1 := g.1
      have hsub : j * sz = l.length * sz + (j - l.length) * sz := by rw [← Nat.add_mul]; congr 1; omega
      have e : (vs ++ (us ++ rest)).getD (j * sz + i) undef = us.getD ((j - l.length) * sz + i) undef := by
        have h1 : ¬ j * sz + i < vs.length := by omega
        have h2 : j * sz + i - vs.length = (j - l.length) * sz + i := by omega
        have h3 : (j - l.length) * sz + i < us.length := by omega
        simp [List.getD, List.getElem?_append, h1, h2, h3]
      rw [e]; exact g.2.2 _ cs i x hj hx
theorem cV.mono {w w' : World} {M M' : Nat → Prop} {sz : Nat} {l : List (List AV)} {vs : List Value} (h : cV w M sz l vs) (k : Keep w w' M) (hM : ∀ b, b < w.heap.size → M' b → M b) : cV w' M' sz l vs :=
  ⟨h.1, h.2.1, fun j cs i x hj hx => ⟨(h.2.2 j cs i x hj hx).1.mono k hM, (h.2.2 j cs i x hj hx).2⟩⟩
theorem cV.take {w : World} {M : Nat → Prop} {sz : Nat} {l : List (List AV)} {vs : List Value} (h : cV w M sz l vs) : cV w M sz l (vs.take (l.length * sz)) ∧ (vs.take (l.length * sz)).length = l.length * sz := by
  have h1 : (vs.take (l.length * sz)).length = l.length * sz := by simp [h.1]
  refine ⟨⟨by rw [h1]; exact Nat.le_refl _, h.2.1, fun j cs i x hj hx => ?_⟩, h1⟩
  have hjl : j < l.length := (List.getElem?_eq_some_iff.1 hj).1
  have hi : i < sz := by rw [← h.2.1 j cs hj]; exact (List.getElem?_eq_some_iff.1 hx).1
  have hmul : (j + 1) * sz ≤ l.length * sz := Nat.mul_le_mul_right _ hjl
  rw [Nat.add_mul, Nat.one_mul] at hmul
  have e : (vs.take (l.length * sz)).getD (j * sz + i) undef = vs.getD (j * sz + i) undef := by
    have : j * sz + i < l.length * sz := by omega
    simp [List.getD, this]
  rw [e]; exact h.2.2 j cs i x hj hx
theorem zX (w : World) (M : Nat → Prop) (sz : Nat) (vs : List Value) : cV w M sz [] vs := ⟨by simp, by simp, by simp⟩
theorem lR (w : World) (o : _root_.Go.Obj) (M : Nat → Prop) : cB w (w.drew.alloc o) M :=
  cB.trans (N := M) (b := w.drew) ⟨⟨Nat.le_refl _, fun _ _ _ => rfl⟩, fun _ _ => rfl⟩ (gY w.drew o M) (fun _ _ h => h)
theorem H4 {P : Program} {w0 w : World} {M0 : Nat → Prop} {D : Names} {objs : List (Nat × Obj)} (hm : Mem w0 M0 objs D w) {env : List AV} {a : Act} (he : ax w D env a.tmps) {d : Nat} (hK : d < top) {T T2 ty : TypeId} {x y : AV} {r : HR}
    (h : hAppend P env objs d T T2 x y = some r) {v u : Value} (hv : Slot w D x v) (hu : Slot w D y u) : iX P w0 M0 a w D objs (do pure (.value (← Builtin.append_ #[T, T2] ty #[v, u]))) r := by
  unfold hAppend at h
  split at h
  · rename_i sz by_ z hsz hby hz
    obtain ⟨e, i, he1, hut, hi, hs⟩ := mi hsz
    rw [he1] at hby hz
    have hbe : i.bytes = by_ := by simpa [wM, hi] using hby
    obtain ⟨i', zv, hi', hzv, hzone, _⟩ := fe w D hz
    rw [hi] at hi'; cases hi'
    subst hs
    split at h
    · rename_i rows hrows
      obtain ⟨⟨news, hsrc⟩, hu2⟩ := vQ hm hrows hu
      have hdrew : ax w.drew D env a.tmps := he.mono ⟨⟨Nat.le_refl _, fun _ _ _ => rfl⟩, fun _ _ => rfl⟩ (fun _ _ h => h) hm.lt (fun _ _ h => h)
      have hrd : cV w.drew D.M i.size rows news := hsrc.rows.mono ⟨Nat.le_refl _, fun _ _ _ => rfl⟩ (fun _ _ h => h)
      split at h
      ·
        split at h
        · rename_i hc
          obtain ⟨hd, hl1, hl2, hzl⟩ := hc
          simp only [Option.some.injEq] at h; subst h
          rw [kT hv]
          by_cases hr0 : rows.length = 0
          · have hrn : rows = [] := List.eq_nil_of_length_eq_zero hr0
            have hrun := jT (ty := ty) hut hi hu2 hsrc none 0 0 (by omega)
            obtain ⟨m1, m2, m3⟩ := hm.W1 (sz := i.size) hd hK
            subst hrn
            refine ⟨.slice none 0 0, w, D.ins d none, .inl (by rw [Sem.run_bind, hrun]; rfl), by simp only [Slot, cM, Cell]; exact .inl ⟨by simp [mn], rfl, none, rfl⟩, m1, ?_⟩
            exact ⟨he.mono (cB.refl w _) m2 hm.lt (fun b _ hb => m3 b hb), fun _ hp => hp.ins (hm.fresh hd hK) _ _⟩
          · obtain ⟨cap, rest, hcap, _, hrun⟩ := jk (ty := ty) (olds := []) hut hi hu2 hzv hsrc none 0 0 (by omega) (by omega) (by rw [hbe]; simpa using hl2) (by simp [Builtin.firstCells])
            simp only [Nat.zero_add, List.nil_append] at hrun hcap
            refine mh hm.drew hdrew hd hK (vs := news ++ rest.toList) ?_ hl1 e (0, 0) (fj _) _ (by rw [Sem.run_bind, hrun]; rfl) (fun D' hD' => ?_)
            · have := cV.append (rest := rest.toList) (zX w.drew D.M i.size []) (by simp) hrd
              simpa using this
            · refine gK (w := w.drew) hD' hcap ?_
              have h1 := hsrc.len
              simp only [List.length_append, Array.length_toList]
              have h2 : rest.size = (cap - rows.length) * i.size := by
                rename_i hre
                rw [hre, size_zeroCells]
                congr 1
                · simp
                · have := hzone.1; simp at this; omega
              rw [h1, h2, ← Nat.add_mul]
              exact Nat.mul_le_mul_right _ (by omega)
        · cases h
      ·
        rename_i m sz' len
        split at h
        · rename_i sz'' l hl
          split at h
          · rename_i hc
            obtain ⟨rfl, rfl, rfl, hd, hl1, hl2, hzl⟩ := hc
            simp only [Option.some.injEq] at h; subst h
            have hzs : zv.cells.size = i.size := by have := hzone.1; simp at this; omega
            have fin : ∀ {w' : World} {y : Option Nat} {vv : Value} (hrun : (Builtin.append_ #[T, T2] ty #[v, u]).run P w = .ok vv w') (kN : cB w w' D.N)
                (hy : ∀ b, y = some b → b < w'.heap.size ∧ (w.heap.size ≤ b ∨ D m = some (some b))) (hoth : ∀ b, D.M b → D m ≠ some (some b) → w'.heap[b]? = w.heap[b]?)
                (hrep : ∀ D', (∀ b, b < w.heap.size → D'.M b → D.M b) → dm w' D' (.arr i.size (l ++ rows)) y) (hos : w'.os = w.os) (htape : w'.tape = w.tape) (hout : w'.output = w.output)
                (hslot : ∀ D' : Names, D' d = some y → Slot w' D' (.cw d i.size 0 (l.length + rows.length)) vv),
                iX P w0 M0 a w D objs (do pure (.value (← Builtin.append_ #[T, T2] ty #[v, u]))) ⟨.cw d i.size 0 (l.length + rows.length), env.map (fB (kill m)), (d, .arr i.size (l ++ rows)) :: iu (kill m) (drop m objs)⟩ := by
              intro w' y vv hrun kN hy hoth hrep hos htape hout hslot
              have k : cB w w' D.M := kN.weaken (fun _ _ h => Names.KA h)
              have hmK : m < top := hm.small m (by simp [hl])
              obtain ⟨c1, c2⟩ := DY hm hd hK (fun b hb => (hy b hb).2)
              have c := y8 (D' := (D.del m).ins d y) k hm.lt c1 c2
              refine ⟨vv, w', (D.del m).ins d y, .inl (by rw [Sem.run_bind, hrun]; rfl), hslot _ (mn _ _ _), hm.step hd hK c kN (fun _ _ => hmK) hy hoth (hrep _ c2) hos htape hout, c.env he, fun D0 hp => ?_⟩
              have hp2 := hp.EF hl hmK (kill m)
              refine hp2.ins ?_ y _
              unfold Names.del
              split
              · rfl
              · rename_i hne
                exact hm.fresh (by rw [← cS (Ne.symm hne)]; exact hd) hK
            have growOut : ∀ (olds : List Value) (cap : Nat) (rest : Array Value), cV w D.M i.size l olds → olds.length = l.length * i.size → l.length + rows.length ≤ cap → rest = Builtin.zeroCells zv.cells (cap - (l.length + rows.length)) →
                (Builtin.append_ #[T, T2] ty #[v, u]).run P w = .ok (.slice (some ⟨w.heap.size, 0, none⟩) (l.length + rows.length) cap) (w.drew.alloc (.cells (olds ++ (news ++ rest.toList)).toArray e)) →
                iX P w0 M0 a w D objs (do pure (.value (← Builtin.append_ #[T, T2] ty #[v, u]))) ⟨.cw d i.size 0 (l.length + rows.length), env.map (fB (kill m)), (d, .arr i.size (l ++ rows)) :: iu (kill m) (drop m objs)⟩ := by
              intro olds cap rest hro hlo hcap hre hrun
              have hrest : rest.size = (cap - (l.length + rows.length)) * i.size := by rw [hre, size_zeroCells, hzs]
              have hn := hsrc.len
              have hlen : (olds ++ (news ++ rest.toList)).length = cap * i.size := by
                simp only [List.length_append, Array.length_toList, hlo, hn, hrest]
                rw [← Nat.add_mul, ← Nat.add_mul]; congr 1; omega
              have kg : cB w (w.drew.alloc (.cells (olds ++ (news ++ rest.toList)).toArray e)) D.M := lR w _ D.M
              refine fin (y := some w.heap.size) hrun (lR w _ D.N) (fun b hb => by cases hb; exact ⟨by rw [kV]; exact Nat.lt_succ_self _, .inl (Nat.le_refl _)⟩)
                (fun b hb _ => Below.heap_alloc w.drew _ b (hm.lt b hb)) (fun D' hM => ?_) rfl rfl rfl (fun D' hD' => ?_)
              · have hr := cV.append (rest := rest.toList) hro hlo hsrc.rows
                have hr' := hr.mono kg.toKeep hM
                exact ⟨_, e, (0, 0), ke w.drew _, fj _, by simpa using hl1, hr'.1, hr'.2.1, hr'.2.2⟩
              · exact gK (w := w.drew) hD' hcap (by rw [hlen]; exact Nat.le_refl _)
            simp only [Slot, cM, Cell] at hv
            rcases hv with ⟨hsome, hlen0, ao, rfl⟩ | ⟨b, cap, N, hD, rfl, hcapl, hrow, hroom⟩
            · have hl0 : l = [] := List.eq_nil_of_length_eq_zero hlen0
              subst hl0
              simp only [List.length_nil] at *
              by_cases hr0 : rows.length = 0
              · have hrn : rows = [] := List.eq_nil_of_length_eq_zero hr0
                subst hrn
                have hnews : news = [] := List.eq_nil_of_length_eq_zero (by have := hsrc.len; simpa using this)
                have hrun := jT (ty := ty) hut hi hu2 hsrc ao 0 0 (by simp)
                have hrun' : (Builtin.append_ #[T, T2] ty #[.slice ao 0 0, u]).run P w = .ok (.slice ao 0 0) w := by
                  rw [hrun, hnews]; cases ao <;> simp [storeCells]
                exact fin (y := none) hrun' (cB.refl w _) (fun b hb => by cases hb) (fun _ _ _ => rfl) (fun D' _ => rfl) rfl rfl rfl (fun D' hD' => by simp only [Slot, cM, Cell]; exact .inl ⟨by simp [hD'], rfl, ao, rfl⟩)
              · obtain ⟨cap, rest, hcap, hre, hrun⟩ := jk (ty := ty) (olds := []) hut hi hu2 hzv hsrc ao 0 0 (by omega) (by omega) (by rw [hbe]; exact hl2) (by cases ao <;> simp [Builtin.firstCells, loadCells, loadCellsFrom])
                exact growOut [] cap rest (zX _ _ _ _) (by simp) hcap hre hrun
            · obtain ⟨cur, Te, fz, g1, g2, g3, g4, g5, g6⟩ := hm.rep m _ _ hl hD
              have hN : N = cur.length := by
                simp [World.row, World.shape?, g1] at hrow; exact hrow.symm
              subst hN
              rw [Nat.zero_mul] at *
              rw [Nat.zero_add] at hroom
              have hcurR : cV w D.M i.size l cur := ⟨g4, g5, g6⟩
              obtain ⟨htR, htl⟩ := hcurR.take
              by_cases hfit : l.length + rows.length ≤ cap
              · have hrun := jT (ty := ty) hut hi hu2 hsrc (some ⟨b, 0, none⟩) l.length cap hfit
                have hn := hsrc.len
                have hspace : l.length * i.size + news.length ≤ cur.length := by
                  have : (l.length + rows.length) * i.size ≤ cap * i.size := Nat.mul_le_mul_right _ hfit
                  rw [Nat.add_mul] at this; omega
                have hst := gI (P := P) b Te fz news (0 + l.length * i.size) 0 cur.toArray w g1 (by simpa using g2) (by simp; omega) hsrc.one
                simp only [cX, Nat.zero_add] at hrun
                simp only [Nat.zero_add, Nat.add_zero] at hst
                rw [hst, Result.andThen_ok] at hrun
                let new := cur.take (l.length * i.size) ++ (news ++ cur.drop (l.length * i.size + news.length))
                have hnl : new.length = cur.length := by simp [new]; omega
                have kN : cB w (w.setRow b new.toArray) D.N := mm g1 (by simp [hnl]) ⟨m, hm.small m (by simp [hl]), hD⟩
                have kg : cB w (w.setRow b new.toArray) D.M := kN.weaken (fun _ _ h => Names.KA h)
                refine fin (y := some b) hrun kN (fun c hc => by cases hc; exact ⟨by rw [setRow_size]; exact hm.lt b ⟨m, hD⟩, .inr hD⟩) (fun c _ hne => setRow_other w b c _ (fun e => hne (by rw [hD, e]))) (fun D' hM => ?_) rfl rfl rfl (fun D' hD' => ?_)
                · have hr := cV.append (rest := cur.drop (l.length * i.size + news.length)) htR htl hsrc.rows
                  have hr' := hr.mono kg.toKeep hM
                  exact ⟨new, Te, fz, setRow_heap w b _ _ Te _ g1, by rw [hnl]; exact g2, by simpa using hl1, hr'.1, hr'.2.1, hr'.2.2⟩
                · simp only [Slot, cM, Cell]
                  exact .inr ⟨b, cap, cur.length, hD', by simp, hfit, by rw [kg.row b (hm.lt b ⟨m, hD⟩)]; simp [World.row, World.shape?, g1], by simpa using hroom⟩
              · have hload : (Builtin.firstCells i.size l.length (.slice (some ⟨b, 0, none⟩) l.length cap)).run P w.drew = .ok (cur.take (l.length * i.size)).toArray w.drew := by
                  refine run_firstCells_some w.drew i.size l.length ⟨b, 0, none⟩ l.length cap _ htl (fun j vv hj => ?_)
                  have hce : w.drew.cell? ⟨b, j, none⟩ = w.cell? ⟨b, j, none⟩ := rfl
                  rw [cX, Nat.zero_add, hce]
                  rw [List.getElem?_take] at hj
                  split at hj
                  · rename_i hjl
                    have hjc : j < cur.length := by omega
                    rw [lO g1 hjc]
                    simp [List.getD, hj]
                  · cases hj
                obtain ⟨cap', rest, hcap', hre, hrun⟩ := jk (ty := ty) hut hi hu2 hzv hsrc (some ⟨b, 0, none⟩) l.length cap hfit (by omega) (by rw [hbe]; exact hl2) hload
                exact growOut _ cap' rest htR htl hcap' hre hrun
          · cases h
        · cases h
      · cases h
    · cases h
  · cases h
end Go.Abs
namespace Go.Abs
open Go.RowKit
def CL (P : Program) (env : List AV) (objs : List (Nat × Obj)) (dst : Option Tmp) (o : Op) : Option HR :=
 match o, dst with
 | .store T x y, none => ug P env objs T x y
 | .box _ x, some d => if d < top then KW env objs d (ev env x) else none
 | .alloc T, some d => if d < top then uf P env objs d T else none
 | .buildSlice T len parts, some d => if d < top then jA P env objs d T len parts.toList else none
 | .makeSlice T l c, some d => if d < top then En P env objs d T (ev env l) (ev env c) else none
 | .convert S T x, some d => if d < top then xq P env objs d S T (ev env x) else none
 | .call { callee := .builtin .append, args, argTypes }, some d => if d < top then
   (match args.toList, argTypes.toList with
   | [x, y], [T, T2] => hAppend P env objs d T T2 (ev env x) (ev env y)
   | _, _ => none) else none
 | _, _ => none
theorem GN {P : Program} {w0 w : World} {M0 : Nat → Prop} {D : Names} {objs : List (Nat × Obj)} (hm : Mem w0 M0 objs D w) {env : List AV} {a : Act} (he : ax w D env a.tmps) {o : Oper} {r : HR}
  (h : CL P env objs o.dst o.op = some r) : iX P w0 M0 a w D objs (execOp a.eval o) r := by
 have eqv : ∀ {s t : Sem Next}, t = s → iX P w0 M0 a w D objs s r → iX P w0 M0 a w D objs t r := fun e h => e ▸ h
 unfold CL at h
 split at h
 ·rename_i T x y hop hdst
  exact eqv (by simp [execOp, hop]) (KL hm he h)
 ·rename_i T x d hop hdst
  split at h
  ·rename_i hK
   exact eqv (by simp [execOp, hop]) (QC hm he hK h (aj hm.bq he x) T)
  ·cases h
 ·rename_i T d hop hdst
  split at h
  ·rename_i hK
   exact eqv (by simp [execOp, hop]) (KJ hm he hK h)
  ·cases h
 ·rename_i T len parts d hop hdst
  split at h
  ·rename_i hK
   exact eqv (by simp [execOp, hop]) (xf hm he hK h)
  ·cases h
 ·rename_i T l c d hop hdst
  split at h
  ·rename_i hK
   exact eqv (by simp [execOp, hop]) (NX hm he hK h (aj hm.bq he l) (aj hm.bq he c))
  ·cases h
 ·rename_i S T x d hop hdst
  split at h
  ·rename_i hK
   exact eqv (by simp [execOp, hop]) (KK hm he hK h (aj hm.bq he x))
  ·cases h
 ·rename_i args argTypes d hop hdst
  split at h
  ·rename_i hK
   split at h
   ·rename_i x y T T2 hA hT
    have e1 : args = #[x, y] := by apply Array.ext'; simpa using hA
    have e2 : argTypes = #[T, T2] := by apply Array.ext'; simpa using hT
    subst e1; subst e2
    exact eqv (by simp [execOp, hop, resolve, invoke, builtin]) (H4 (ty := o.type) hm he hK h (aj hm.bq he x) (aj hm.bq he y))
   ·cases h
  ·cases h
 ·cases h
def rn : Nat := 999999
structure CR where
 x : AV
 os : List (Nat × Obj) := []
 new : Option Obj := none
def CR.objs (r : CR) : List (Nat × Obj) := match r.new with | some o => (rn, o) :: r.os | none => r.os
def mS (w : World) (D : Names) (args : List AV) (vs : List Value) : Prop := vs.length = args.length ∧ ∀ (i : Nat) (x : AV), args[i]? = some x → Slot w D x (vs.getD i undef)
def au (P : Program) (f : FuncId) : Bool := match P.funcs[f]? with | some fn => !(fn.name == "runtime.NumGoroutine") && fn.body.isSome | none => false
abbrev Table := FuncId → List AV → List (Nat × Obj) → Option CR
def fQ (P : Program) (f : FuncId) (args : List AV) (os : List (Nat × Obj)) (r : CR) : Prop :=
 ∀ (w : World) (D : Names) (vs : List Value), Mem w D.N os D w → mS w D args vs →
  Calls P f vs.toArray w fun e w' => ∃ v D', e = .returned v ∧ Mem w D.N r.objs D' w' ∧ Slot w' D' r.x v ∧ ∀ n d, D n = some d → D' n = some d
def Sound (P : Program) (Φ : Table) : Prop := ∀ f args os r, Φ f args os = some r → au P f = true ∧ fQ P f args os r
def cy : AV → Bool
 | .int _ _ | .bool _ | .str _ => true
 | _ => false
def ground : AV → Bool
 | .agg l => l.all cy
 | .cI l => l.all fun x => match x with | .agg l => l.all cy | x => cy x
 | x => cy x
def nK : AV → Bool
 | .cw _ _ _ _ | .ref _ _ _ _ | .cm _ _ => false
 | _ => true
def IX : AV → Bool
 | .agg l => l.all nK
 | x => nK x
def nf : AV → Bool
 | .cI l => l.all IX
 | x => IX x
def mu (objs : List (Nat × Obj)) : AV → Option AV
 | .cw n sz off len => (eM objs sz (.cw n sz off len)).map (.sl sz)
 | x => some x
def rI (objs : List (Nat × Obj)) (x : AV) : Option AV :=
 match x with
 | .agg l => (l.mapM (mu objs)).map .agg
 | x => mu objs x
def l9 : AV → Bool
 | .ref _ _ i off => i == 0 && off == 0
 | .agg l => l.all nK
 | x => nf x
def fD (xs : List AV) : List Nat := xs.filterMap fun x => match x with | .ref n _ 0 0 => some n | _ => none
def eB (ns : List Nat) (objs : List (Nat × Obj)) : List (Nat × Obj) := ns.filterMap fun n => (look n objs).map fun o => (n, o)
def eY : List (Nat × Obj) → List (Nat × Obj) → List (Nat × Obj)
 | [], objs => objs
 | (n, o) :: r, objs => eY r (js n o objs)
def fE : List (Nat × Obj) → Bool
 | [] => true
 | (_, .box cs) :: r => cs.all dh && fE r
 | _ => false
def rf (x : AV) : Option Obj → Bool
 | none => nf x
 | some (.arr sz l) => match x with | .cw n s off len => n == rn && s == sz && off == 0 && len == l.length | _ => false
 | some (.box cs) => (match x with | .ref n s i off => n == rn && s == cs.length && i == 0 && off == 0 | _ => false) && cs.all dh
 | some (.mp _ _ _) => false
def rename (d : Nat) : AV → AV
 | .cw n sz off len => if n = rn then .cw d sz off len else .cw n sz off len
 | .ref n sz i off => if n = rn then .ref d sz i off else .ref n sz i off
 | x => x
def oH (Φ : Table) (env : List AV) (objs : List (Nat × Obj)) (f : FuncId) (xs : List Operand) : Option HR :=
 match (xs.map (ev env)).mapM (rI objs) with
 | some as => if as.all nf = true then (match Φ f as [] with
  | some ⟨x, [], none⟩ => if ground x then some ⟨x, env, objs⟩ else none
  | _ => none) else none
 | none => none
def v7 (Φ : Table) (env : List AV) (objs : List (Nat × Obj)) (d : Nat) (f : FuncId) (xs : List Operand) : Option HR :=
 let as := xs.map (ev env)
 let ns := fD as
 let os := eB ns objs
 if as.all l9 = true ∧ os.map (·.1) = ns ∧ ns.Nodup ∧ fE os = true ∧ look d objs = none ∧ d < top ∧ rn ∉ ns then
  match Φ f as os with
  | some r => if r.os.map (·.1) = ns ∧ fE r.os = true ∧ rf r.x r.new = true then
    some ⟨rename d r.x, env, (match r.new with | some o => (d, o) :: eY r.os objs | none => eY r.os objs)⟩ else none
  | none => none
 else none
def NV (Φ : Table) (env : List AV) (objs : List (Nat × Obj)) (d : Nat) (f : FuncId) (xs : List Operand) : Option HR :=
 match bm ((xs.map (ev env)).flatMap gA) with
 | none => v7 Φ env objs d f xs
 | some _ => match oH Φ env objs f xs with
  | some r => some r
  | none => match settle 8 xs env objs with
   | some r => v7 Φ r.1 r.2 d f xs
   | none => none
theorem u0 {P : Program} {a : Act} {o : Oper} {f : FuncId} {args : Array Operand} {tys : Array TypeId} (hop : o.op = .call { callee := .value (.func f), args := args, argTypes := tys }) (hf : au P f = true) (w : World) :
  (execOp a.eval o).run P w = .ok (.enter f (args.map a.eval)) w := by
 unfold au at hf
 split at hf
 ·rename_i fn hfn
  simp only [Bool.and_eq_true, Bool.not_eq_true'] at hf
  have hb : fn.body.isNone = false := by cases hh : fn.body <;> simp [hh] at hf ⊢
  simp only [execOp, hop, resolve, Sem.run_bind, Act.eval, Deferred.ofValue, Sem.run_pure, Result.andThen_ok, invoke, callFunc, run_program, hfn, hf.1, hb, Bool.false_eq_true, if_false]
  simp
 ·cases hf
def tz (P : Program) (w0 : World) (M0 : Nat → Prop) (a : Act) (w : World) (D : Names) (objs : List (Nat × Obj)) (f : FuncId) (vs : Array Value) (r : HR) : Prop :=
 Calls P f vs w fun e w' => ∃ v D', e = .returned v ∧ Slot w' D' r.x v ∧ Mem w0 M0 r.objs D' w' ∧ ax w' D' r.env a.tmps ∧ ∀ D0, qf D0 D objs → qf D0 D' r.objs
theorem Mem.ext {w0 w w' : World} {M0 : Nat → Prop} {D : Names} {objs : List (Nat × Obj)} (hm : Mem w0 M0 objs D w) (k : cB w w' (fun _ => False)) (hos : w'.os = w.os) (htape : w'.tape = w.tape) (hout : w'.output = w.output) : Mem w0 M0 objs D w' := by
 have kM : cB w w' D.M := k.weaken (fun _ _ h => h.elim)
 exact ⟨hm.lQ, hm.small, fun n o d h1 h2 => (hm.rep n o d h1 h2).mono kM (fun _ _ h => h) hm.lt (fun _ _ h => h) (fun b hb => k.same b (hm.lt b ⟨n, by rw [h2, hb]⟩) (fun h => h)), hm.inj,
  fun b hb => Nat.lt_of_lt_of_le (hm.lt b hb) k.size, hm.own, hm.grow.trans k (fun _ _ h => h.elim), hos.trans hm.os, htape.trans hm.tape, hout.trans hm.output, hm.bq.mono kM.toKeep fun _ _ h => h⟩
theorem qW {w w' : World} {D D' : Names} {x : AV} {v : Value} (h : Cell w D x v) (hg : cy x = true) : Cell w' D' x v := by
 cases x <;> simp only [cy, Bool.false_eq_true] at hg <;> simp only [Cell] at h ⊢ <;> cases h
 ·exact .int _ _
 ·exact .bool _
 ·exact .str _ (by assumption)
theorem lh {w w' : World} {D D' : Names} {x : AV} {v : Value} (h : cM w D x v) (hg : (match x with | .agg l => l.all cy | x => cy x) = true) : cM w' D' x v := by
 cases x with
 | agg l =>
  obtain ⟨vs, h1, h2, h3⟩ := h
  exact ⟨vs, h1, h2, fun i y hy => ⟨qW (h3 i y hy).1 (List.all_eq_true.1 hg y (List.mem_of_getElem? hy)), (h3 i y hy).2⟩⟩
 | _ => simp only [cM] at h ⊢; exact qW h hg
theorem qX {w w' : World} {D D' : Names} {x : AV} {v : Value} (h : Slot w D x v) (hg : ground x = true) : Slot w' D' x v := by
 cases x with
 | cI l =>
  obtain ⟨vs, h1, h2, h3⟩ := h
  refine ⟨vs, h1, h2, fun i y hy => lh (h3 i y hy) ?_⟩
  have := List.all_eq_true.1 hg y (List.mem_of_getElem? hy)
  cases y <;> exact this
 | agg l => simp only [Slot] at h ⊢; exact lh h hg
 | _ => simp only [Slot] at h ⊢; exact lh h hg
theorem ji (w : World) (hg : cO w (Names.M (fun _ => none))) : Mem w (Names.N (fun _ => none)) [] (fun _ => none) w where
 lQ := by simp [look]
 small := by simp [look]
 rep := by simp [look]
 inj := by simp
 lt := by rintro b ⟨n, hn⟩; cases hn
 own := by rintro b ⟨n, _, hn⟩; cases hn
 grow := cB.refl w _
 os := rfl
 tape := rfl
 output := rfl
 bq := hg
theorem uH {w : World} {D D' : Names} (hM : ∀ b, b < w.heap.size → D'.M b → D.M b) :
  (∀ {x : AV} {v : Value}, Cell w D x v → nK x = true → Cell w D' x v) ∧ (∀ {x : AV} {v : Value}, cM w D x v → IX x = true → cM w D' x v) ∧ (∀ {x : AV} {v : Value}, Slot w D x v → nf x = true → Slot w D' x v) := by
 have hC : ∀ {x : AV} {v : Value}, Cell w D x v → nK x = true → Cell w D' x v := by
  intro x v h hn
  cases x with
  | cw => simp [nK] at hn
  | ref => simp [nK] at hn
  | cm => simp [nK] at hn
  | _ => simp only [Cell] at h ⊢; exact h.mono (cB.refl w _).toKeep hM
 have hV : ∀ {x : AV} {v : Value}, cM w D x v → IX x = true → cM w D' x v := by
  intro x v h hn
  cases x with
  | agg l =>
   obtain ⟨vs, h1, h2, h3⟩ := h
   exact ⟨vs, h1, h2, fun i y hy => ⟨hC (h3 i y hy).1 (List.all_eq_true.1 hn y (List.mem_of_getElem? hy)), (h3 i y hy).2⟩⟩
  | _ => simp only [cM] at h ⊢; exact hC h hn
 refine ⟨hC, hV, fun {x v} h hn => ?_⟩
 cases x with
 | cI l =>
  obtain ⟨vs, h1, h2, h3⟩ := h
  exact ⟨vs, h1, h2, fun i y hy => hV (h3 i y hy) (List.all_eq_true.1 hn y (List.mem_of_getElem? hy))⟩
 | _ => simp only [Slot] at h ⊢; exact hV h hn
theorem oT {α β : Type} {f : α → Option β} : ∀ {l : List α} {r : List β}, l.mapM f = some r → r.length = l.length ∧ ∀ (i : Nat) (y : β), r[i]? = some y → ∃ x, l[i]? = some x ∧ f x = some y
 | [], r, h => by simp at h; subst h; simp
 | x :: l, r, h => by
  simp only [List.mapM_cons, Option.bind_eq_bind, Option.pure_def] at h
  obtain ⟨b, hb, h⟩ := Option.bind_eq_some_iff.1 h
  obtain ⟨bs, hbs, h⟩ := Option.bind_eq_some_iff.1 h
  simp only [Option.some.injEq] at h; subst h
  obtain ⟨h1, h2⟩ := oT hbs
  refine ⟨by simp [h1], fun i y hy => ?_⟩
  cases i with
  | zero => simp at hy; subst hy; exact ⟨x, rfl, hb⟩
  | succ i => simpa using h2 i y (by simpa using hy)
theorem uB {w0 w : World} {M0 : Nat → Prop} {D : Names} {objs : List (Nat × Obj)} (hm : Mem w0 M0 objs D w) {x y : AV} {v : Value} (hv : Slot w D x v) (h : rI objs x = some y) (hn : nf y = true) : Slot w (fun _ => none) y v := by
 have low := uH (w := w) (D := D) (D' := fun _ => none) (fun b _ hb => by obtain ⟨n, hn⟩ := hb; cases hn)
 unfold rI at h
 split at h
 ·rename_i l
  obtain ⟨ys, hys, rfl⟩ := Option.map_eq_some_iff.1 h
  obtain ⟨vs, h1, h2, h3⟩ := hv
  obtain ⟨g1, g2⟩ := oT hys
  refine ⟨vs, h1, h2.trans g1.symm, fun i y hy => ?_⟩
  obtain ⟨x, hx, hxy⟩ := g2 i y hy
  obtain ⟨k1, k2⟩ := h3 i x hx
  refine ⟨?_, k2⟩
  have hny : nK y = true := List.all_eq_true.1 (by simpa [nf, IX] using hn : ys.all nK = true) y (List.mem_of_getElem? hy)
  unfold mu at hxy
  split at hxy
  ·rename_i n sz off len
   obtain ⟨l', hl, rfl⟩ := Option.map_eq_some_iff.1 hxy
   have := fM hm hl k1
   exact (np (D := D) this (fun b o n cap _ _ hb => by obtain ⟨n, hn⟩ := hb; cases hn) (fun b _ hb => by obtain ⟨n, hn⟩ := hb; cases hn)).cell (D := fun _ => none)
  ·simp only [Option.some.injEq] at hxy; subst hxy
   exact low.1 k1 hny
 ·unfold mu at h
  split at h
  ·rename_i n sz off len
   obtain ⟨l, hl, rfl⟩ := Option.map_eq_some_iff.1 h
   have := fM hm hl hv
   exact cU.slot (D := fun _ => none) (np (D := D) this (fun b o n cap _ _ hb => by obtain ⟨n, hn⟩ := hb; cases hn) (fun b _ hb => by obtain ⟨n, hn⟩ := hb; cases hn))
  ·simp only [Option.some.injEq] at h; subst h
   exact low.2.2 hv hn
theorem y7 {P : Program} {Φ : Table} (hΦ : Sound P Φ) {w0 w : World} {M0 : Nat → Prop} {D : Names} {objs : List (Nat × Obj)} (hm : Mem w0 M0 objs D w) {env : List AV} {a : Act} (he : ax w D env a.tmps) {f : FuncId} {xs : List Operand} {r : HR}
  (h : oH Φ env objs f xs = some r) : au P f = true ∧ tz P w0 M0 a w D objs f (xs.map a.eval).toArray r := by
 unfold oH at h
 split at h
 ·rename_i as has
  split at h
  ·rename_i hnf
   split at h
   ·rename_i x hx
    split at h
    ·rename_i hg
     simp only [Option.some.injEq] at h; subst h
     obtain ⟨hf, hc⟩ := hΦ f as [] ⟨x, [], none⟩ hx
     refine ⟨hf, ?_⟩
     obtain ⟨hlen, hget⟩ := oT has
     have hargs : mS w (fun _ => none) as (xs.map a.eval) := by
      refine ⟨by simp [hlen], fun i y hy => ?_⟩
      obtain ⟨z, hz, hl⟩ := hget i y hy
      rw [List.getElem?_map] at hz
      obtain ⟨o, ho, rfl⟩ := Option.map_eq_some_iff.1 hz
      have e : (xs.map a.eval).getD i undef = a.eval o := by simp [List.getD, List.getElem?_map, ho]
      rw [e]
      exact uB hm (aj hm.bq he o) hl (List.all_eq_true.1 hnf y (List.mem_of_getElem? hy))
     refine (hc w _ _ (ji w (hm.bq.mono (cB.refl w _).toKeep fun b _ h => by obtain ⟨n, hn⟩ := h; cases hn)) hargs).mono fun e w' hpost => ?_
     obtain ⟨v, D', rfl, hm', hs, _⟩ := hpost
     have k : cB w w' (fun _ => False) := hm'.grow.weaken (fun b _ hb => by obtain ⟨n, _, hn⟩ := hb; cases hn)
     exact ⟨v, D, rfl, qX hs hg, hm.ext k hm'.os hm'.tape hm'.output, he.mono (k.weaken (fun _ _ h => h.elim)) (fun _ _ h => h) hm.lt (fun _ _ h => h), fun _ h => h⟩
    ·cases h
   ·cases h
  ·cases h
 ·cases h
theorem gD (n : Nat) (objs : List (Nat × Obj)) : ∀ ns : List Nat, look n (eB ns objs) = if n ∈ ns then look n objs else none
 | [] => rfl
 | m :: ns => by
  have ih := gD n objs ns
  unfold eB at ih ⊢
  simp only [List.filterMap_cons]
  by_cases hm : m = n
  ·subst hm
   cases h : look m objs with
   | none => simp only [Option.map_none]; rw [ih]; simp [h]
   | some o => simp [look]
  ·have hmem : n ∈ m :: ns ↔ n ∈ ns := by simp [Ne.symm hm]
   cases h : look m objs with
   | none => simp only [Option.map_none]; rw [ih]; simp only [hmem]
   | some o => simp only [Option.map_some, look, hm, if_false]; rw [ih]; simp only [hmem]
theorem oS {n : Nat} {o : Obj} : ∀ {l : List (Nat × Obj)}, look n l = some o → n ∈ l.map (·.1)
 | [], h => by simp [look] at h
 | (m, p) :: r, h => by
  by_cases hm : m = n
  ·subst hm; simp
  ·simp only [look, hm, if_false] at h
   simp only [List.map_cons, List.mem_cons]
   exact .inr (oS h)
theorem ir {n : Nat} : ∀ {l : List (Nat × Obj)}, n ∈ l.map (·.1) → (look n l).isSome = true
 | [], h => by simp at h
 | (m, p) :: r, h => by
  by_cases hm : m = n
  ·simp [look, hm]
  ·simp only [look, hm, if_false]
   simp only [List.map_cons, List.mem_cons] at h
   exact ir (h.resolve_left (Ne.symm hm))
theorem gz {n : Nat} {o : Obj} : ∀ {l : List (Nat × Obj)}, fE l = true → look n l = some o → ∃ cs, o = .box cs ∧ cs.all dh = true
 | [], _, h => by simp [look] at h
 | (m, .box cs) :: r, hb, h => by
  simp only [fE, Bool.and_eq_true] at hb
  by_cases hm : m = n
  ·simp only [look, hm, if_true, Option.some.injEq] at h; exact ⟨cs, h.symm, hb.1⟩
  ·simp only [look, hm, if_false] at h; exact gz hb.2 h
 | (m, .arr sz l) :: r, hb, h => by simp [fE] at hb
theorem ra (n : Nat) : ∀ (os objs : List (Nat × Obj)), (os.map (·.1)).Nodup → (∀ m ∈ os.map (·.1), (look m objs).isSome = true) → look n (eY os objs) = match look n os with | some o => some o | none => look n objs
 | [], objs, _, _ => by simp [eY, look]
 | (m, o) :: r, objs, hnd, hp => by
  simp only [List.map_cons, List.nodup_cons] at hnd
  have hp' : ∀ k ∈ r.map (·.1), (look k (js m o objs)).isSome = true := fun k hk => by
   by_cases hkm : m = k
   ·subst hkm; exact absurd hk hnd.1
   ·rw [dY o hkm]; exact hp k (by simp only [List.map_cons, List.mem_cons]; exact .inr hk)
  simp only [eY]
  rw [ra n r (js m o objs) hnd.2 hp']
  by_cases hmn : m = n
  ·subst hmn
   have hr : look m r = none := by
    cases hl : look m r with
    | none => rfl
    | some q => exact absurd (oS hl) hnd.1
   rw [hr]
   simp only [look, if_true]
   exact jh o objs (hp m (by simp))
  ·simp only [look, hmn, if_false]
   rw [dY o hmn]
theorem kY {w : World} {D D' : Names} {cs : List AV} {d : Option Nat} (h : dm w D (.box cs) d) (hc : cs.all dh = true) (hM : ∀ b, b < w.heap.size → D'.M b → D.M b) : dm w D' (.box cs) d := by
 cases d with
 | none => exact h.elim
 | some b =>
  obtain ⟨vs, T, h1, h2, h3⟩ := h
  refine ⟨vs, T, h1, h2, fun i x hx => ⟨?_, (h3 i x hx).2⟩⟩
  have hp := List.all_eq_true.1 hc x (List.mem_of_getElem? hx)
  exact ((oa (h3 i x hx).1 hp).mono (cB.refl w _).toKeep hM).cell
theorem oC {w : World} {D D' : Names} {sz : Nat} {l : List (List AV)} {d : Option Nat} (h : dm w D (.arr sz l) d) (hM : ∀ b, b < w.heap.size → D'.M b → D.M b) : dm w D' (.arr sz l) d := by
 cases d with
 | none => exact h
 | some b =>
  obtain ⟨vs, T, fz, h1, h2, h3, h4, h5, h6⟩ := h
  exact ⟨vs, T, fz, h1, h2, h3, h4, h5, fun j cs i x hj hx => ⟨(h6 j cs i x hj hx).1.mono (cB.refl w _).toKeep hM, (h6 j cs i x hj hx).2⟩⟩
def handed (D : Names) (ns : List Nat) : Names := fun n => if n < top then (if n ∈ ns then D n else none) else (if n - top ∈ ns then none else D (n - top))
theorem ky {D : Names} {ns : List Nat} {n : Nat} (h : n ∈ ns) (hK : n < top) : handed D ns n = D n := by simp [handed, h, hK]
theorem CM {D : Names} {ns : List Nat} {n : Nat} (h : n ∉ ns) : handed D ns (top + n) = D n := by
 unfold handed
 rw [if_neg (by omega)]
 have : top + n - top = n := by omega
 simp [this, h]
theorem ik {D : Names} {ns : List Nat} {n : Nat} {b : Nat} (h : handed D ns n = some (some b)) : (n < top ∧ n ∈ ns ∧ D n = some (some b)) ∨ ∃ m, n = top + m ∧ m ∉ ns ∧ D m = some (some b) := by
 unfold handed at h
 split at h
 ·rename_i hK
  split at h
  ·rename_i hn; exact .inl ⟨hK, hn, h⟩
  ·cases h
 ·rename_i hK
  split at h
  ·cases h
  ·rename_i hn
   exact .inr ⟨n - top, by omega, hn, h⟩
theorem qH {P : Program} {Φ : Table} (hΦ : Sound P Φ) {w0 w : World} {M0 : Nat → Prop} {D : Names} {objs : List (Nat × Obj)} (hm : Mem w0 M0 objs D w) {env : List AV} {a : Act} (he : ax w D env a.tmps) {d : Nat} {f : FuncId} {xs : List Operand} {r : HR}
  (h : v7 Φ env objs d f xs = some r) : au P f = true ∧ tz P w0 M0 a w D objs f (xs.map a.eval).toArray r := by
 unfold v7 at h
 simp only at h
 split at h
 ·rename_i hc
  obtain ⟨hargs, hns, hnd, hbox, hd, hdK, hrn⟩ := hc
  split at h
  ·rename_i q hq
   split at h
   ·rename_i hr
    obtain ⟨hr1, hr2, hr3⟩ := hr
    simp only [Option.some.injEq] at h; subst h
    obtain ⟨hf, hcon⟩ := hΦ f _ _ q hq
    refine ⟨hf, ?_⟩
    generalize hnsd : fD (xs.map (ev env)) = ns at *
    have hnsK : ∀ n ∈ ns, (look n objs).isSome = true ∧ n < top := by
     intro n hn
     rw [← hns] at hn
     have h1 := ir hn
     rw [gD] at h1
     split at h1
     ·exact ⟨h1, hm.small n h1⟩
     ·simp at h1
    let Dc : Names := handed D ns
    have hMc : ∀ b, Dc.M b → D.M b := by
     rintro b ⟨n, hn⟩
     rcases ik hn with ⟨_, _, h⟩ | ⟨m, _, _, h⟩
     ·exact ⟨n, h⟩
     ·exact ⟨m, h⟩
    have hNc : ∀ b, Dc.N b → ∃ n ∈ ns, D n = some (some b) := by
     rintro b ⟨n, hK, hn⟩
     rcases ik hn with ⟨_, h1, h2⟩ | ⟨m, h1, _⟩
     ·exact ⟨n, h1, h2⟩
     ·omega
    have hNcN : ∀ b, Dc.N b → D.N b := fun b hb => by obtain ⟨n, hn, h⟩ := hNc b hb; exact ⟨n, (hnsK n hn).2, h⟩
    have hmc : Mem w Dc.N (eB ns objs) Dc w := by
     refine ⟨fun n hK => ?_, fun n hn => ?_, fun n o e hl hn => ?_, fun n m b h1 h2 => ?_, fun b hb => hm.lt b (hMc b hb), fun b hb => .inl hb, cB.refl w _, rfl, rfl, rfl, hm.bq.mono (cB.refl w _).toKeep fun b _ h => hMc b h⟩
     ·rw [gD]
      by_cases hmem : n ∈ ns
      ·simp only [hmem, if_true]; rw [show Dc n = D n from ky hmem hK]; exact hm.lQ n hK
      ·simp only [hmem, if_false]; simp [Dc, handed, hK, hmem]
     ·rw [gD] at hn
      split at hn
      ·exact hm.small n hn
      ·simp at hn
     ·have hl0 := hl
      rw [gD] at hl
      split at hl
      ·rename_i hmem
       rw [show Dc n = D n from ky hmem (hnsK n hmem).2] at hn
       obtain ⟨cs, rfl, hpc⟩ := gz hbox hl0
       exact kY (hm.rep n _ e hl hn) hpc (fun b _ hb => hMc b hb)
      ·cases hl
     ·rcases ik h1 with ⟨k1, k2, k3⟩ | ⟨p, k1, k2, k3⟩
      ·rcases ik h2 with ⟨g1, g2, g3⟩ | ⟨q', g1, g2, g3⟩
       ·exact hm.inj n m b k3 g3
       ·have := hm.inj n q' b k3 g3; subst this; exact absurd k2 g2
      ·rcases ik h2 with ⟨g1, g2, g3⟩ | ⟨q', g1, g2, g3⟩
       ·have := hm.inj p m b k3 g3; subst this; exact absurd g2 k2
       ·rw [k1, g1, hm.inj p q' b k3 g3]
    have low := uH (w := w) (D := D) (D' := Dc) (fun b _ hb => hMc b hb)
    have hargsR : mS w Dc (xs.map (ev env)) (xs.map a.eval) := by
     refine ⟨by simp, fun i y hy => ?_⟩
     rw [List.getElem?_map] at hy
     obtain ⟨o, ho, rfl⟩ := Option.map_eq_some_iff.1 hy
     have e : (xs.map a.eval).getD i undef = a.eval o := by simp [List.getD, List.getElem?_map, ho]
     rw [e]
     have hs := aj hm.bq he o
     have hok : l9 (ev env o) = true := List.all_eq_true.1 hargs _ (List.mem_map_of_mem (List.mem_of_getElem? ho))
     generalize hx : ev env o = x at hs hok
     cases x with
     | ref n sz p off =>
      simp only [l9, Bool.and_eq_true, beq_iff_eq] at hok
      obtain ⟨rfl, rfl⟩ := hok
      have hmem : n ∈ ns := by
       rw [← hnsd]
       refine List.mem_filterMap.2 ⟨.ref n sz 0 0, ?_, rfl⟩
       rw [← hx]; exact List.mem_map_of_mem (List.mem_of_getElem? ho)
      simp only [Slot, cM, Cell] at hs ⊢
      obtain ⟨b, h1, h2⟩ := hs
      exact ⟨b, by rw [show Dc n = D n from ky hmem (hnsK n hmem).2]; exact h1, h2⟩
     | agg l => exact low.2.2 hs (by simpa only [l9, nf, IX] using hok)
     | _ => exact low.2.2 hs (by simpa only [l9] using hok)
    refine (hcon w Dc _ hmc hargsR).mono fun e w' hpost => ?_
    obtain ⟨v, Dd, rfl, hm', hs, hkeep⟩ := hpost
    have hback : ∀ n b, D n = some (some b) → ∃ m, Dd m = some (some b) ∧ (m = n ∧ n ∈ ns ∨ m = top + n ∧ n ∉ ns) := by
     intro n b hn
     by_cases hmem : n ∈ ns
     ·exact ⟨n, hkeep n _ (by rw [show Dc n = D n from ky hmem (hnsK n hmem).2]; exact hn), .inl ⟨rfl, hmem⟩⟩
     ·exact ⟨top + n, hkeep _ _ (by rw [show Dc (top + n) = D n from CM hmem]; exact hn), .inr ⟨rfl, hmem⟩⟩
    have hDd : D d = none := hm.fresh hd hdK
    have hdns : d ∉ ns := fun hmem => by have := (hnsK d hmem).1; rw [hd] at this; simp at this
    let D' : Names := fun n => if n = d ∧ q.new.isSome then Dd rn else D n
    have hD'ne : ∀ n, n ≠ d → D' n = D n := fun n hn => by simp [D', hn]
    have hD'ext : ∀ n e, D n = some e → D' n = some e := fun n e hn => by
     rw [hD'ne n (fun hh => by subst hh; rw [hDd] at hn; cases hn)]; exact hn
    have hD'M : ∀ b, D'.M b → Dd.M b := by
     rintro b ⟨n, hn⟩
     by_cases hc : n = d ∧ q.new.isSome
     ·simp only [D', hc, and_self, if_true] at hn; exact ⟨rn, hn⟩
     ·simp only [D', hc, if_false] at hn
      obtain ⟨m, hm1, _⟩ := hback n b hn; exact ⟨m, hm1⟩
    have hrnK : rn < top := by decide
    have hownb : ∀ b, Dd rn = some (some b) → D.N b ∨ w.heap.size ≤ b := fun b hb => by
     rcases hm'.own b ⟨rn, hrnK, hb⟩ with h | h
     ·exact .inl (hNcN b h)
     ·exact .inr h
    have hM'old : ∀ b, b < w.heap.size → D'.M b → D.M b := by
     rintro b hb ⟨n, hn⟩
     by_cases hc : n = d ∧ q.new.isSome
     ·simp only [D', hc, and_self, if_true] at hn
      rcases hownb b hn with h | h
      ·exact Names.KA h
      ·omega
     ·simp only [D', hc, if_false] at hn; exact ⟨n, hn⟩
    have kc : cB w w' Dc.N := hm'.grow
    have kM : cB w w' D.M := kc.weaken (fun b _ hb => Names.KA (hNcN b hb))
    have hlk : ∀ n, look n (eY q.os objs) = if n ∈ ns then look n q.os else look n objs := by
     intro n
     rw [ra n q.os objs (by rw [hr1]; exact hnd) (fun m hmm => (hnsK m (by rw [← hr1]; exact hmm)).1)]
     by_cases hmem : n ∈ ns
     ·have : (look n q.os).isSome = true := ir (by rw [hr1]; exact hmem)
      obtain ⟨o, ho⟩ := Option.isSome_iff_exists.1 this
      simp [ho, hmem]
     ·have : look n q.os = none := by
       cases hl : look n q.os with
       | none => rfl
       | some o => exact absurd (by rw [← hr1]; exact oS hl) hmem
      simp [this, hmem]
    have hlk' : ∀ n, (look n (eY q.os objs)).isSome = (look n objs).isSome := by
     intro n; rw [hlk n]
     by_cases hmem : n ∈ ns
     ·simp only [hmem, if_true, (hnsK n hmem).1]; exact ir (by rw [hr1]; exact hmem)
     ·simp only [hmem, if_false]
    have hrepOld : ∀ n o e, look n (eY q.os objs) = some o → D n = some e → dm w' D' o e := by
     intro n o e hl hn
     rw [hlk n] at hl
     by_cases hmem : n ∈ ns
     ·simp only [hmem, if_true] at hl
      obtain ⟨cs, rfl, hpc⟩ := gz hr2 hl
      have hl' : look n q.objs = some (.box cs) := by
       unfold CR.objs
       cases q.new with
       | none => exact hl
       | some o' => simp only [look, if_neg (fun h : rn = n => hrn (h ▸ hmem))]; exact hl
      have := hm'.rep n _ e hl' (hkeep n e (by rw [show Dc n = D n from ky hmem (hnsK n hmem).2]; exact hn))
      exact kY this hpc (fun b _ hb => hD'M b hb)
     ·simp only [hmem, if_false] at hl
      exact (hm.rep n o e hl hn).mono kM hD'ext hm.lt hM'old (fun b hb => kc.same b (hm.lt b ⟨n, by rw [hn, hb]⟩) (fun hN => by
       obtain ⟨m, hmm, hmb⟩ := hNc b hN
       exact hmem (hm.inj n m b (by rw [hn, hb]) hmb ▸ hmm)))
    have hsepd : ∀ n b, n ≠ d → D n = some (some b) → Dd rn = some (some b) → False := by
     intro n b _ hn hb
     obtain ⟨m, hm1, hm2⟩ := hback n b hn
     have := hm'.inj rn m b hb hm1
     rcases hm2 with ⟨h1, h2⟩ | ⟨h1, _⟩
     ·exact hrn (by rw [this, h1]; exact h2)
     ·have : rn < top := hrnK; omega
    have hgrow : cB w0 w' M0 := hm.grow.trans kc (fun x hx hN => by
     rcases hm.own x (hNcN x hN) with h | h
     ·exact h
     ·omega)
    have hinj : ∀ n m b, D' n = some (some b) → D' m = some (some b) → n = m := by
     intro n m b h1 h2
     by_cases e1 : n = d ∧ q.new.isSome = true
     ·by_cases e2 : m = d ∧ q.new.isSome = true
      ·rw [e1.1, e2.1]
      ·simp only [D', e1, and_self, if_true] at h1
       simp only [D', e2, if_false] at h2
       have hmd : m ≠ d := fun hh => e2 ⟨hh, e1.2⟩
       exact (hsepd m b hmd h2 h1).elim
     ·by_cases e2 : m = d ∧ q.new.isSome = true
      ·simp only [D', e1, if_false] at h1
       simp only [D', e2, and_self, if_true] at h2
       have hnd' : n ≠ d := fun hh => e1 ⟨hh, e2.2⟩
       exact (hsepd n b hnd' h1 h2).elim
      ·simp only [D', e1, if_false] at h1
       simp only [D', e2, if_false] at h2
       exact hm.inj n m b h1 h2
    have hown : ∀ b, D'.N b → M0 b ∨ w0.heap.size ≤ b := by
     rintro b ⟨n, hK, hn⟩
     by_cases e1 : n = d ∧ q.new.isSome = true
     ·simp only [D', e1, and_self, if_true] at hn
      rcases hownb b hn with h | h
      ·exact hm.own b h
      ·exact .inr (Nat.le_trans hm.grow.size h)
     ·simp only [D', e1, if_false] at hn
      exact hm.own b ⟨n, hK, hn⟩
    have henv : ax w' D' env a.tmps := he.mono kM hD'ext hm.lt hM'old
    have hpinOld : ∀ D0, qf D0 D objs → ∀ n e, D0 n = some e → D' n = some e ∧ (n < top → ∃ cs, look n (eY q.os objs) = some (.box cs)) := by
     intro D0 hp n e hn
     obtain ⟨h1, h2⟩ := hp n e hn
     refine ⟨hD'ext n e h1, fun hK => ?_⟩
     rw [hlk n]
     by_cases hmem : n ∈ ns
     ·simp only [hmem, if_true]
      obtain ⟨o, ho⟩ := Option.isSome_iff_exists.1 (ir (l := q.os) (n := n) (by rw [hr1]; exact hmem))
      obtain ⟨cs, rfl, _⟩ := gz hr2 ho
      exact ⟨cs, ho⟩
     ·simp only [hmem, if_false]; exact h2 hK
    have lowB := uH (w := w') (D := Dd) (D' := D') (fun b _ hb => hD'M b hb)
    cases hnew : q.new with
    | none =>
     have hD'eq : ∀ n, D' n = D n := fun n => by simp [D', hnew]
     have hx : nf q.x = true := by simpa only [rf, hnew] using hr3
     have hxr : rename d q.x = q.x := by
      cases hqx : q.x <;> first | rfl | (rw [hqx] at hx; simp [nf, IX, nK] at hx)
     refine ⟨v, D', rfl, by simp only; rw [hxr]; exact lowB.2.2 hs hx, ?_, henv, fun D0 hp => hpinOld D0 hp⟩
     exact ⟨fun n hK => by rw [hD'eq, hlk' n]; exact hm.lQ n hK, fun n hn => hm.small n (by rw [← hlk' n]; exact hn), fun n o e hl hn => hrepOld n o e hl (by rw [← hD'eq]; exact hn), hinj,
      fun b hb => hm'.lt b (hD'M b hb), hown, hgrow, hm'.os.trans hm.os, hm'.tape.trans hm.tape, hm'.output.trans hm.output, hm.bq.mono kM.toKeep hM'old⟩
    | some o =>
     have hD'd : D' d = Dd rn := by simp [D', hnew]
     have hlrn : look rn q.objs = some o := by simp [CR.objs, hnew, look]
     have hdrn := hm'.lQ rn hrnK
     rw [hlrn] at hdrn
     refine ⟨v, D', rfl, ?_, ?_, henv, fun D0 hp n e hn => ?_⟩
     ·
      simp only [rf, hnew] at hr3
      cases o with
      | arr sz l =>
       simp only at hr3
       split at hr3
       ·rename_i n s off len hx
        simp only [Bool.and_eq_true, beq_iff_eq] at hr3
        obtain ⟨⟨⟨rfl, rfl⟩, rfl⟩, rfl⟩ := hr3
        rw [hx] at hs ⊢
        simp only [rename, if_true]
        simp only [Slot, cM, Cell] at hs ⊢
        rw [hD'd]; exact hs
       ·cases hr3
      | box cs =>
       simp only [Bool.and_eq_true] at hr3
       obtain ⟨hr3, _⟩ := hr3
       split at hr3
       ·rename_i n s p off hx
        simp only [Bool.and_eq_true, beq_iff_eq] at hr3
        obtain ⟨⟨⟨rfl, rfl⟩, rfl⟩, rfl⟩ := hr3
        rw [hx] at hs ⊢
        simp only [rename, if_true]
        simp only [Slot, cM, Cell] at hs ⊢
        rw [hD'd]; exact hs
       ·cases hr3
      | mp => simp at hr3
     ·refine ⟨fun n hK => ?_, fun n hn => ?_, fun n p e hl hn => ?_, hinj, fun b hb => hm'.lt b (hD'M b hb), hown, hgrow, hm'.os.trans hm.os, hm'.tape.trans hm.tape, hm'.output.trans hm.output, hm.bq.mono kM.toKeep hM'old⟩
      ·by_cases hnd' : n = d
       ·subst hnd'; rw [hD'd, hdrn]; simp [look]
       ·simp only [look, if_neg (Ne.symm hnd')]; rw [hD'ne n hnd', hlk' n]; exact hm.lQ n hK
      ·by_cases hnd' : n = d
       ·subst hnd'; exact hdK
       ·simp only [look, if_neg (Ne.symm hnd')] at hn; exact hm.small n (by rw [← hlk' n]; exact hn)
      ·by_cases hnd' : n = d
       ·subst hnd'
        simp only [look, if_true, Option.some.injEq] at hl; subst hl
        rw [hD'd] at hn
        have hrep := hm'.rep rn o e hlrn hn
        cases o with
        | arr sz l => exact oC hrep (fun b _ hb => hD'M b hb)
        | box cs =>
         simp only [rf, hnew, Bool.and_eq_true] at hr3
         exact kY hrep hr3.2 (fun b _ hb => hD'M b hb)
        | mp => simp [rf, hnew] at hr3
       ·simp only [look, if_neg (Ne.symm hnd')] at hl
        exact hrepOld n p e hl (by rw [← hD'ne n hnd']; exact hn)
     ·obtain ⟨h1, h2⟩ := hpinOld D0 hp n e hn
      refine ⟨h1, fun hK => ?_⟩
      obtain ⟨cs, hcs⟩ := h2 hK
      have hnd' : n ≠ d := fun hh => by
       subst hh
       have := (hp n e hn).1
       rw [hDd] at this; cases this
      exact ⟨cs, by simp only [look, if_neg (Ne.symm hnd')]; exact hcs⟩
   ·cases h
  ·cases h
 ·cases h
theorem Gs {P : Program} {Φ : Table} (hΦ : Sound P Φ) {w0 w : World} {M0 : Nat → Prop} {D : Names} {objs : List (Nat × Obj)} (hm : Mem w0 M0 objs D w) {env : List AV} {a : Act} (he : ax w D env a.tmps) {d : Nat} {f : FuncId} {xs : List Operand} {r : HR}
  (h : NV Φ env objs d f xs = some r) : au P f = true ∧ tz P w0 M0 a w D objs f (xs.map a.eval).toArray r := by
 unfold NV at h
 split at h
 ·exact qH hΦ hm he h
 ·split at h
  ·rename_i q hq
   simp only [Option.some.injEq] at h; subst h
   exact y7 hΦ hm he hq
  ·split at h
   ·rename_i q hq
    obtain ⟨D1, hm1, he1, hp1⟩ := iQ _ 8 hm he hq
    obtain ⟨hf, hcd⟩ := qH hΦ hm1 he1 h
    exact ⟨hf, hcd.mono fun e w' ⟨v, D', h1, h2, h3, h4, h5⟩ => ⟨v, D', h1, h2, h3, h4, fun D0 hp => h5 D0 (hp1 D0 hp)⟩⟩
   ·cases h
end Go.Abs
namespace Go.Abs
open Go.RowKit
variable {w : World} {D : Names} {v : Value} {env : List AV}
def eW (env : List AV) (dst : Option Tmp) (x : AV) : List AV := match dst with | some d => env.set d x | none => env
theorem ax.put {a : Act} (h : ax w D env a.tmps) (dst : Option Tmp) {x : AV} (hx : Slot w D x v) : ax w D (eW env dst x) (a.put dst v).tmps := by
 cases dst with
 | none => exact h
 | some d =>
  refine ⟨by simp [eW, Act.put, h.1], fun i y hy => ?_⟩
  simp only [eW, List.getElem?_set] at hy
  simp only [Act.put]
  split at hy
  ·rename_i hdi
   subst hdi
   split at hy
   ·rename_i hlt
    simp only [Option.some.injEq] at hy; subst hy
    have : d < a.tmps.size := by rw [h.1]; exact hlt
    simpa [Array.getD, this] using hx
   ·cases hy
  ·rename_i hdi
   have := h.2 i y hy
   have e : (a.tmps.setIfInBounds d v).getD i undef = a.tmps.getD i undef := by
    simp only [Array.getD_eq_getD_getElem?, Array.getElem?_setIfInBounds, hdi, if_false]
   rw [e]; exact this
def guardOf (ops : Array Oper) (env : List AV) (o : Oper) : Option Bool :=
 match o.guard with
 | none => some true
 | some (j, want) => match (ops[j]?).bind (·.dst) with
  | some t => match env.getD t .any with
   | .bool b => some (b == want)
   | .gO => some false
   | _ => none
  | none => none
theorem JO (h : Slot w D .gO v) : v = undef := by
 simp only [Slot, cM, Cell] at h; cases h; rfl
theorem dW {ops : Array Oper} {tmps : Array Value} (he : ax w D env tmps) {o : Oper} {b : Bool} (h : guardOf ops env o = some b) : Region.wanted o (yielded ops tmps) = b := by
 unfold guardOf at h
 unfold Region.wanted
 split at h
 ·rename_i hg
  simp only [Option.some.injEq] at h; subst h
  simp [hg]
 ·rename_i j want hg
  simp only [hg]
  split at h
  ·rename_i t ht
   simp only [yielded, ht, Option.bind_some]
   have hs : Slot w D (env.getD t .any) (tmps.getD t undef) := by
    simp only [List.getD]
    cases hx : env[t]? with
    | none => exact jn _ _ _
    | some x => exact he.2 t x hx
   split at h
   ·rename_i c hc
    simp only [Option.some.injEq] at h; subst h
    have hlt : t < env.length := by
     rcases Nat.lt_or_ge t env.length with h | h
     ·exact h
     ·simp [List.getD, List.getElem?_eq_none h] at hc
    rw [hc] at hs
    have := fL hs
    have hts : t < tmps.size := by rw [he.1]; exact hlt
    have e : tmps[t]? = some (.bool c) := by
     rw [Array.getElem?_eq_getElem hts]
     simp only [Array.getD_eq_getD_getElem?, Array.getElem?_eq_getElem hts, Option.getD_some] at this
     rw [this]
    simp only [e]
    cases c <;> cases want <;> rfl
   ·rename_i hc
    simp only [Option.some.injEq] at h; subst h
    rw [hc] at hs
    have hu : tmps.getD t undef = undef := JO hs
    cases hx : tmps[t]? with
    | none => rfl
    | some v =>
     simp only [Array.getD_eq_getD_getElem?, hx, Option.getD_some] at hu
     subst hu; rfl
   ·cases h
  ·cases h
def HL (P : Program) (Φ : Table) (ops : Array Oper) (o : Oper) (s : St) : Option St :=
 match guardOf ops s.env o with
 | none => none
 | some false => some ⟨eW s.env o.dst .gO, s.objs⟩
 | some true => match o.op with
  | .call { callee := .value (.func f), args, argTypes := _ } => (NV Φ s.env s.objs (o.dst.getD 999998) f args.toList).map fun r => ⟨eW r.env o.dst r.x, r.objs⟩
  | op => match iU P s.env s.objs op with
   | some x => some ⟨eW s.env o.dst x, s.objs⟩
   | none => (CL P s.env s.objs o.dst op).map fun r => ⟨eW r.env o.dst r.x, r.objs⟩
def Sat (w0 : World) (M0 : Nat → Prop) (D0 : Names) (s : St) (a : Act) (w : World) : Prop :=
 a.defers = [] ∧ ∃ D, Mem w0 M0 s.objs D w ∧ ax w D s.env a.tmps ∧ qf D0 D s.objs
theorem put_defers (a : Act) (dst : Option Tmp) (v : Value) : (a.put dst v).defers = a.defers := by cases dst <;> rfl
theorem hZ {P : Program} {Φ : Table} (hΦ : Sound P Φ) {ops : Array Oper} {o : Oper} {s s' : St} (h : HL P Φ ops o s = some s') {w0 : World} {M0 : Nat → Prop} {D0 : Names} {a : Act} (hs : Sat w0 M0 D0 s a w)
  {rest : List Oper} {Q : Exit → Act → World → Prop} (hq : ∀ a' w', Sat w0 M0 D0 s' a' w' → wpList P ops Q rest a' w') : wpList P ops Q (o :: rest) a w := by
 obtain ⟨hd, D, hm, he, hp⟩ := hs
 unfold HL at h
 split at h
 ·cases h
 ·rename_i hg
  simp only [Option.some.injEq] at h; subst h
  refine wpList_skip (dW he hg) (hq _ _ ⟨by rw [put_defers]; exact hd, D, hm, he.put _ ?_, hp⟩)
  simp only [Slot, cM, Cell]; exact .gO
 ·rename_i hg
  have hw := dW he hg
  refine wpList_step fun K hK => ?_
  rw [if_pos hw]
  split at h
  ·rename_i f args tys hop
   obtain ⟨r, hr, rfl⟩ := Option.map_eq_some_iff.1 h
   obtain ⟨hf, hc⟩ := Gs hΦ hm he hr
   unfold Oper.wp
   rw [u0 hop hf w]
   have : (args.map a.eval) = (args.toList.map a.eval).toArray := Array.ext' (by simp)
   rw [Oper.upon_enter, this]
   refine hc.mono fun e w' hpost => ?_
   obtain ⟨v, D', rfl, h1, h2, h3, h4⟩ := hpost
   exact hK _ _ (hq _ _ ⟨by rw [put_defers]; exact hd, D', h2, h3.put _ h1, h4 D0 hp⟩)
  ·split at h
   ·rename_i x hx
    simp only [Option.some.injEq] at h; subst h
    obtain ⟨v, h1, h2⟩ := m8 hm he hx
    unfold Oper.wp
    rw [h2 w (Below.refl _ _)]
    exact hK _ _ (hq _ _ ⟨by rw [put_defers]; exact hd, D, hm, he.put _ h1, hp⟩)
   ·obtain ⟨r, hr, rfl⟩ := Option.map_eq_some_iff.1 h
    obtain ⟨v, w', D', h1, h2, h3, h4, h5⟩ := GN hm he hr
    unfold Oper.wp
    rcases h1 with h1 | ⟨h1, rfl⟩
    ·rw [h1]
     exact hK _ _ (hq _ _ ⟨by rw [put_defers]; exact hd, D', h3, h4.put _ h2, h5 D0 hp⟩)
    ·rw [h1]
     exact hK _ _ (hq _ _ ⟨by rw [put_defers]; exact hd, D', h3, h4.put _ h2, h5 D0 hp⟩)
def toV : AV → Value
 | .int k n => .int k n
 | .bool b => .bool b
 | .str s => .string ⟨s.toArray⟩
 | _ => undef
def toVV : AV → Value
 | .agg l => .agg (l.map toV).toArray
 | x => toV x
def toVS : AV → Value
 | .cI l => .tuple (l.map toVV).toArray
 | x => toVV x
theorem toV_eq {x : AV} (h : Cell w D x v) (hg : cy x = true) : v = toV x := by
 cases x <;> simp only [cy, Bool.false_eq_true] at hg <;> simp only [Cell] at h <;> cases h <;> rfl
theorem q8 (f : AV → Value) {l : List AV} {vs : List Value} (hl : vs.length = l.length) (h : ∀ (i : Nat) (x : AV), l[i]? = some x → vs.getD i undef = f x) : vs = l.map f := by
 apply List.ext_getElem?
 intro i
 by_cases hi : i < l.length
 ·have := h i _ (List.getElem?_eq_getElem hi)
  rw [List.getElem?_map, List.getElem?_eq_getElem hi, List.getElem?_eq_getElem (by omega)]
  simp only [List.getD, List.getElem?_eq_getElem (show i < vs.length by omega), Option.getD_some] at this
  simp [this]
 ·rw [List.getElem?_eq_none (by omega), List.getElem?_eq_none (by simp; omega)]
theorem toVV_eq {x : AV} (h : cM w D x v) (hg : (match x with | .agg l => l.all cy | x => cy x) = true) : v = toVV x := by
 cases x with
 | agg l =>
  obtain ⟨vs, rfl, h2, h3⟩ := h
  have := q8 toV h2 (fun i y hy => toV_eq (h3 i y hy).1 (List.all_eq_true.1 hg y (List.mem_of_getElem? hy)))
  rw [this]; rfl
 | _ => simp only [cM] at h; exact toV_eq h hg
theorem toVS_eq {x : AV} (h : Slot w D x v) (hg : ground x = true) : v = toVS x := by
 cases x with
 | cI l =>
  obtain ⟨vs, rfl, h2, h3⟩ := h
  have := q8 toVV h2 (fun i y hy => toVV_eq (h3 i y hy) (by
   have := List.all_eq_true.1 hg y (List.mem_of_getElem? hy)
   cases y <;> exact this))
  rw [this]; rfl
 | agg l => simp only [Slot] at h; exact toVV_eq h hg
 | _ => simp only [Slot] at h; exact toVV_eq h hg
def rL (P : Program) (Φ : Table) (ops : Array Oper) (o : Oper) (s : St) : Option St :=
 match guardOf ops s.env o with
 | none => none
 | some false => some ⟨eW s.env o.dst .gO, s.objs⟩
 | some true => match o.op with
  | .call { callee := .value (.func f), args, argTypes := _ } => (oH Φ s.env s.objs f args.toList).map fun r => ⟨eW r.env o.dst r.x, r.objs⟩
  | op => (iU P s.env s.objs op).map fun x => ⟨eW s.env o.dst x, s.objs⟩
theorem cA {w w' : World} (h : Below w.heap.size w w') : cB w w' (fun _ => False) :=
 ⟨⟨h.size, fun b hb _ => h.block b hb⟩, fun b hb => by unfold World.row World.shape?; rw [h.block b hb]⟩
theorem nG {w w' : World} (h : cB w w' (fun _ => False)) (ho : w'.os = w.os) (ht : w'.tape = w.tape) (hp : w'.output = w.output) : Below w.heap.size w w' :=
 ⟨ho, ht, hp, h.size, fun b hb => h.same b hb (fun h => h)⟩
theorem me {P : Program} {Φ : Table} (hΦ : Sound P Φ) {w0 w : World} {M0 : Nat → Prop} {objs : List (Nat × Obj)} (hm : Mem w0 M0 objs D w) {a : Act} (he : ax w D env a.tmps) {f : FuncId} {xs : List Operand} {r : HR}
  (h : oH Φ env objs f xs = some r) : r.env = env ∧ r.objs = objs ∧ au P f = true ∧ Slot w D r.x (toVS r.x) ∧
   ∀ w', Below w.heap.size w w' → Calls P f (xs.map a.eval).toArray w' (fun e w'' => e = .returned (toVS r.x) ∧ Below w.heap.size w w'') := by
 unfold oH at h
 split at h
 ·rename_i as has
  split at h
  ·rename_i hnf
   split at h
   ·rename_i x hx
    split at h
    ·rename_i hg
     simp only [Option.some.injEq] at h; subst h
     obtain ⟨hf, hc⟩ := hΦ f as [] ⟨x, [], none⟩ hx
     obtain ⟨hlen, hget⟩ := oT has
     have hargs : ∀ w', Below w.heap.size w w' → mS w' (fun _ => none) as (xs.map a.eval) := by
      intro w' hw'
      refine ⟨by simp [hlen], fun i y hy => ?_⟩
      obtain ⟨z, hz, hl⟩ := hget i y hy
      rw [List.getElem?_map] at hz
      obtain ⟨o, ho, rfl⟩ := Option.map_eq_some_iff.1 hz
      have e : (xs.map a.eval).getD i undef = a.eval o := by simp [List.getD, List.getElem?_map, ho]
      rw [e]
      have hl0 := uB hm (aj hm.bq he o) hl (List.all_eq_true.1 hnf y (List.mem_of_getElem? hy))
      exact hl0.mono ((cA hw').weaken (fun _ _ h => h.elim)) (fun _ _ h => h) (fun b hb => by obtain ⟨n, hn⟩ := hb; cases hn) (fun b _ h => h)
     have gs : Slot w D x (toVS x) := by
      obtain ⟨e, w'', fr, ⟨v, D', _, _, hs, _⟩, _⟩ := hc w _ _ (ji w (hm.bq.mono (cB.refl w _).toKeep fun b _ h => by obtain ⟨n, hn⟩ := h; cases hn)) (hargs w (Below.refl _ _)) []
      have hv := toVS_eq hs hg
      rw [← hv]
      exact qX hs hg
     refine ⟨rfl, rfl, hf, gs, fun w' hw' => ?_⟩
     refine (hc w' _ _ (ji w' (hm.bq.mono ((cA hw').weaken (M' := D.M) fun _ _ h => h.elim).toKeep fun b _ h => by obtain ⟨n, hn⟩ := h; cases hn)) (hargs w' hw')).mono fun e w'' hpost => ?_
     obtain ⟨v, D', rfl, hm', hs, _⟩ := hpost
     have k : cB w' w'' (fun _ => False) := hm'.grow.weaken (fun b _ hb => by obtain ⟨n, _, hn⟩ := hb; cases hn)
     have hb := nG k hm'.os hm'.tape hm'.output
     exact ⟨by rw [toVS_eq hs hg], hw'.trans (hb.mono hw'.size)⟩
    ·cases h
   ·cases h
  ·cases h
 ·cases h
end Go.Abs
namespace Go.Abs
open Go.RowKit
theorem uQ {P : Program} {Φ : Table} (hΦ : Sound P Φ) {ops : Array Oper} {o : Oper} {s s' : St} (h : rL P Φ ops o s = some s') {w0 w : World} {M0 : Nat → Prop} {D : Names} {a : Act} (hm : Mem w0 M0 s.objs D w) (he : ax w D s.env a.tmps) {C : World → Prop}
  (hC : ∀ w', C w' ↔ Below w.heap.size w w') {K : Act → Prop} (hK : ∀ a', a'.defers = a.defers → ax w D s'.env a'.tmps → K a') (hobj : s'.objs = s.objs → True) :
  s'.objs = s.objs ∧ (if Region.wanted o (yielded ops a.tmps) then o.quiet P a C K else K (a.put o.dst undef)) := by
 unfold rL at h
 split at h
 ·cases h
 ·rename_i hg
  simp only [Option.some.injEq] at h; subst h
  rw [if_neg (by rw [dW he hg]; decide)]
  exact ⟨rfl, hK _ (put_defers _ _ _) (he.put _ (by simp only [Slot, cM, Cell]; exact .gO))⟩
 ·rename_i hg
  rw [if_pos (dW he hg)]
  split at h
  ·rename_i f args tys hop
   obtain ⟨r, hr, rfl⟩ := Option.map_eq_some_iff.1 h
   obtain ⟨h1, h2, hf, h3, h4⟩ := me hΦ hm he hr
   refine ⟨h2, toVS r.x, fun w' hw' => ?_, hK _ (put_defers _ _ _) ?_⟩
   ·unfold Oper.quietAt
    rw [u0 hop hf w']
    refine ⟨rfl, ?_⟩
    have : (args.map a.eval) = (args.toList.map a.eval).toArray := Array.ext' (by simp)
    rw [this]
    exact (h4 w' ((hC w').1 hw')).mono fun e w'' ⟨g1, g2⟩ => ⟨g1, (hC w'').2 g2⟩
   ·simp only [h1]; exact he.put _ h3
  ·obtain ⟨x, hx, rfl⟩ := Option.map_eq_some_iff.1 h
   obtain ⟨v, h1, h2⟩ := m8 hm he hx
   refine ⟨rfl, v, fun w' hw' => ?_, hK _ (put_defers _ _ _) (he.put _ h1)⟩
   unfold Oper.quietAt
   rw [h2 w' ((hC w').1 hw')]
   exact ⟨rfl, rfl⟩
def CB (id : Nat) (Q : Exit → St → Prop) : Exit → St → Prop
 | .exit i, s => if i = id then Q .normal s else Q (.exit i) s
 | e, s => Q e s
theorem IJ {R : Nat → Prop} (h : ∃ n, R n) : ∃ n, R n ∧ ∀ m, R m → n ≤ m := by
 obtain ⟨n, hn⟩ := h
 induction n using Nat.strongRecOn with
 | _ n ih =>
  by_cases hc : ∃ m, m < n ∧ R m
  ·obtain ⟨m, hm, hr⟩ := hc; exact ih m hm hr
  ·refine ⟨n, hn, fun m hr => ?_⟩
   rcases Nat.lt_or_ge m n with hlt | hge
   ·exact (hc ⟨m, hlt, hr⟩).elim
   ·exact hge
noncomputable def Db (R : Nat → Prop) : Nat := Classical.epsilon fun n => R n ∧ ∀ m, R m → n ≤ m
theorem q6 {R : Nat → Prop} (h : ∃ n, R n) : R (Db R) ∧ ∀ m, R m → Db R ≤ m := Classical.epsilon_spec (IJ h)
def Rz (I : Nat → St → Prop) (n : Nat) (Q : Exit → St → Prop) : Exit → St → Prop
 | .normal, s => ∃ m, m < n ∧ I m s
 | e, s => Q e s
def lY (pins : List Nat) (s s' : St) : Prop := ∀ w0 M0 D0 a w, (∀ n, n < top → (D0 n).isSome = true → n ∈ pins) → Sat w0 M0 D0 s a w → Sat w0 M0 D0 s' a w
end Go.Abs
namespace Go.Abs
open Go.RowKit
def gt : List AV → Nat → AV
 | [], _ => .any
 | x :: _, 0 => x
 | _ :: l, n + 1 => gt l n
theorem zt : ∀ (l : List AV) (n : Nat), l.getD n .any = gt l n
 | [], _ => rfl
 | _ :: _, 0 => rfl
 | _ :: l, n + 1 => by simpa [gt] using zt l n
def Hc (P : Program) (s : St) : ResultVar → Option AV
 | .tmp t => some (gt s.env t)
 | .cell b T => match gt s.env b, cJ P T with
  | .ref m sz i off, some (g, n) => (jw s.objs m sz i off).bind (iK g n)
  | _, _ => none
def DB (P : Program) (s : St) : List ResultVar → Option (List AV)
 | [] => some []
 | r :: l => match Hc P s r, DB P s l with
  | some x, some xs => some (x :: xs)
  | _, _ => none
def kQ (tmps : Array Value) : ResultVar → Sem Value
 | .tmp t => pure (tmps.getD t undef)
 | .cell b T => do loadVar T (← asAddr (tmps.getD b undef))
theorem u1 {P : Program} {w0 w : World} {M0 : Nat → Prop} {D : Names} {s : St} {a : Act} (hm : Mem w0 M0 s.objs D w) (he : ax w D s.env a.tmps) : ∀ (l : List ResultVar) (xs : List AV), DB P s l = some xs →
  ∃ vs : List Value, vs.length = xs.length ∧ (∀ i x, xs[i]? = some x → Slot w D x (vs.getD i undef)) ∧
   (l.mapM (kQ a.tmps)).run P w = .ok vs w
 | [], xs, h => by
  simp only [DB, Option.some.injEq] at h; subst h
  exact ⟨[], rfl, fun i x hx => by simp at hx, by simp⟩
 | r :: l, xs, h => by
  simp only [DB] at h
  split at h
  ·rename_i x xs' hx hxs
   simp only [Option.some.injEq] at h; subst h
   obtain ⟨vs, h1, h2, h3⟩ := u1 hm he l xs' hxs
   have key : ∃ v, Slot w D x v ∧ (kQ a.tmps r).run P w = .ok v w := by
    cases r with
    | tmp t =>
     simp only [Hc, Option.some.injEq] at hx; subst hx
     refine ⟨a.tmps.getD t undef, ?_, by simp [kQ]⟩
     have := aj hm.bq he (.tmp t)
     simpa only [ev, zt, Act.eval] using this
    | cell b T =>
     simp only [Hc] at hx
     have hv := aj hm.bq he (.tmp b)
     simp only [ev, zt, Act.eval] at hv
     split at hx
     ·rename_i m sz i off g n hg hT
      rw [hg] at hv
      simp only [Slot, cM, Cell] at hv
      obtain ⟨bl, hD, hv⟩ := hv
      obtain ⟨cs, hcs, hx⟩ := Option.bind_eq_some_iff.1 hx
      obtain ⟨u, g1, g2⟩ := (xS hm hcs hD).load (P := P) hT hx
      refine ⟨u, g1, ?_⟩
      simp only [kQ, hv, Sem.run_bind]
      have := g2 w ⟨rfl, rfl, rfl, Nat.le_refl _, fun _ _ => rfl⟩
      simpa [asAddr] using this
     ·cases hx
   obtain ⟨v, k1, k2⟩ := key
   refine ⟨v :: vs, by simp [h1], fun i y hy => ?_, ?_⟩
   ·cases i with
    | zero => simp only [List.getElem?_cons_zero, Option.some.injEq] at hy; subst hy; simpa using k1
    | succ i => simpa using h2 i y (by simpa using hy)
   ·simp only [List.mapM_cons, Sem.run_bind, k2, Result.andThen_ok, h3, Sem.run_pure]
  ·cases h
def I3 : Table := fun _ _ _ => none
theorem G4 {P : Program} : Sound P I3 := fun _ _ _ _ h => by cases h
end Go.Abs
namespace Go.Abs
open Go.RowKit
section
variable {P : Program} {ops : Array Oper} {md : Region.Mode} {C : World → Prop}
def oB (P : Program) (md : Region.Mode) (ops : Array Oper) (C : World → Prop) (n : Nat) (L : Array Bool → Act → Prop) : Nat → Array Bool → Act → Prop
 | 0, listed, a => L listed a
 | f + 1, listed, a => Region.ready md ops listed ≠ [] ∧ ∀ i ∈ Region.ready md ops listed, i < n ∧ qOp P ops C i (oB P md ops C n L f (listed.setIfInBounds i true)) a
theorem qF {n g : Nat} {L : Array Bool → Act → Prop} {Q' : Exit → Act → World → Prop} (hL : ∀ listed a w, C w → L listed a → wpAny P md ops Q' g listed a w) :
  ∀ (f : Nat) (listed : Array Bool) (a : Act) (w : World), C w → oB P md ops C n L f listed a → wpAny P md ops Q' (f + g) listed a w
 | 0, _, _, _, hw, h => by rw [Nat.zero_add]; exact hL _ _ _ hw h
 | f + 1, listed, a, w, hw, h => by
  rw [show f + 1 + g = (f + g) + 1 by omega]
  exact ⟨fun h0 => absurd h0 h.1, fun i hi => wpOp_of_qOp hw (fun a' w' hw' h' => qF hL f _ a' w' hw' h') (h.2 i hi).2⟩
theorem CN {n i : Nat} {oi : Oper} {v : Value} {L : Array Bool → Act → Prop} (hi : ops[i]? = some oi) (hsel : ∀ (j : Nat) (o : Oper) cs b, ops[j]? = some o → o.op ≠ .select cs b)
  (hs : Region.sinkB md ops n = true) (hc : Region.chainB md ops n = true) (hn : n < ops.size) (hin : i < n) (hdone : ∀ listed a, L listed a → ∀ j ∈ Region.ready md ops listed, n ≤ j) :
  ∀ (f : Nat) (listed : Array Bool) (a : Act), HeadInv md ops n listed →
   (∀ j oj, ops[j]? = some oj → j ≠ i → listed.getD j true = false → (∀ e ∈ oj.after, Region.binds md e = true → e.on ≠ i) → oi.apart ops oj = true) →
   i ∈ Region.ready md ops listed → YieldsIn P ops C oi v a →
   oB P md ops C n L f (listed.setIfInBounds i true) (a.put oi.dst v) → oB P md ops C n L (f + 1) listed a := by
 intro f
 induction f with
 | zero =>
  intro listed a inv _ hr hy H
  have hun := (mem_ready.1 hr).1
  refine ⟨fun h => (by rw [h] at hr; cases hr), fun j hj => ?_⟩
  have hjn : j < n := by
   rcases Nat.lt_or_ge j n with h | h
   ·exact h
   ·exact absurd hj (tail_waits hs hc hn inv _ i rfl hin hun j h)
  refine ⟨hjn, ?_⟩
  rcases Classical.em (j = i) with rfl | hji
  ·exact hy.qOp hi H
  ·have := hdone _ _ H j (ready_mono hj hji)
   omega
 | succ f ih =>
  intro listed a inv hfree hr hy H
  have hun := (mem_ready.1 hr).1
  refine ⟨fun h => (by rw [h] at hr; cases hr), fun j hj => ?_⟩
  have hjn : j < n := by
   rcases Nat.lt_or_ge j n with h | h
   ·exact h
   ·exact absurd hj (tail_waits hs hc hn inv _ i rfl hin hun j h)
  refine ⟨hjn, ?_⟩
  rcases Classical.em (j = i) with rfl | hji
  ·exact hy.qOp hi H
  ·have h1 := (H.2 j (ready_mono hj hji)).2
   obtain ⟨hjun, oj, hoj, hall⟩ := mem_ready.1 hj
   have hnot : ∀ e ∈ oj.after, Region.binds md e = true → e.on ≠ i := fun e he hb heq => by
    have h1 := hall e he hb
    rw [heq, getD_both hun] at h1
    cases h1
   have h2 := qOp_put hoj (hfree j oj hoj hji hjun hnot) (fun cs b => hsel i oi cs b hi) (fun cs b => hsel j oj cs b hoj) hy h1
   refine qOp_mono (fun a' h3 => ih (listed.setIfInBounds j true) a' (inv.set hj hjn) (fun k ok hk hki hun' hno => hfree k ok hk hki ?_ hno) (ready_mono hr (Ne.symm hji)) h3.1 ?_) h2
   ·rcases Classical.em (j = k) with rfl | hjk
    ·exact hjun
    ·rw [getD_set_ne true hjk] at hun'; exact hun'
   ·rw [Array.setIfInBounds_comm _ _ hji]
    exact h3.2
theorem zy {n g : Nat} {Lq : Act → Prop} (hsel : Region.noSelect ops = true) (hs : Region.sinkB md ops n = true) (hc : Region.chainB md ops n = true) (hn : n < ops.size) :
  ∀ (l : List Oper) (k : Nat) (listed : Array Bool) (a : Act), (∀ j, j < l.length → l[j]? = ops[k + j]?) → k + l.length = n → HeadInv md ops n listed →
  Region.lexHead md ops g l.length k listed = true → wpQuiet P ops C Lq l a →
  oB P md ops C n (fun listed' a' => Region.seqB md ops g n listed' = true ∧ Lq a') l.length listed a
 | [], k, listed, a, _, hk, _, hB, h => by
  have : k = n := by simpa using hk
  subst this
  exact ⟨by simpa [Region.lexHead] using hB, h⟩
 | o :: l, k, listed, a, hl, hk, inv, hB, h => by
  have h0 : ops[k]? = some o := by simpa using (hl 0 (by simp)).symm
  simp only [List.length_cons, Region.lexHead, Bool.and_eq_true] at hB
  obtain ⟨⟨hr, hf⟩, hB'⟩ := hB
  have hkn : k < n := by simp only [List.length_cons] at hk; omega
  have hr' : k ∈ Region.ready md ops listed := by simpa using hr
  have hst : qOp P ops C k (wpQuiet P ops C Lq l) a := by unfold qOp; simp only [h0]; exact h
  obtain ⟨v, hy, hK⟩ := yieldsIn_of_qOp h0 hst
  exact CN h0 (Region.noSelect_spec hsel) hs hc hn hkn (fun listed' a' hL => seqB_ready hL.1) l.length listed a inv (Region.free_spec h0 hf) hr' hy
   (zy hsel hs hc hn l (k + 1) _ _ (fun j hj => by have := hl (j + 1) (by simp; omega); simpa [Nat.add_assoc, Nat.add_comm 1 j] using this) (by simp only [List.length_cons] at hk; omega) (inv.set hr' hkn) hB' hK)
end
end Go.Abs
namespace Go.Abs
theorem ch {x : Int} (h1 : -9223372036854775808 ≤ x) (h2 : x ≤ 9223372036854775807) : IntKind.i64.wrap x = x := by
 have e1 : ((2 : Int) ^ IntKind.i64.bits) = 18446744073709551616 := by decide
 have e2 : ((2 : Int) ^ (IntKind.i64.bits - 1)) = 9223372036854775808 := by decide
 simp only [IntKind.wrap, e1, e2, IntKind.signed, Bool.true_and, decide_eq_true_eq]
 split <;> omega
theorem AK {xs : List Operand} {env : List AV} {objs : List (Nat × Abs.Obj)} (h : bm (xs.flatMap fun o => gA (ev env o)) = none) : Go.Abs.settle 8 xs env objs = some (env, objs) := by
 show Go.Abs.settle (7 + 1) xs env objs = _; simp only [Go.Abs.settle, h]
end Go.Abs
namespace Go.Abs
open Go.RowKit
variable {v : Value} {i : Nat}
section
variable {P : Program} {ops : Array Oper} {md : Region.Mode} {B : World} {k : Nat}
def Je (P : Program) (o : Oper) (a : Act) (B : World) (v : Value) : Prop :=
 ∀ w1, Below B.heap.size B w1 → ∀ w, Below w1.heap.size w1 w → o.quietAt P a (fun w' => Below w1.heap.size w1 w') w v
def Yd (P : Program) (ops : Array Oper) (B : World) (k i : Nat) (o : Oper) (v : Value) (a : Act) : Prop :=
 (i = k ∧ v = undef) ∨ (i ≠ k ∧ ((Region.wanted o (yielded ops a.tmps) = true ∧ Je P o a B v) ∨ (Region.wanted o (yielded ops a.tmps) = false ∧ v = undef)))
def qK (P : Program) (ops : Array Oper) (B : World) (k i : Nat) (K : Act → Prop) (a : Act) : Prop :=
 match ops[i]? with
 | none => K a
 | some o => ∃ v, Yd P ops B k i o v a ∧ K (a.put o.dst v)
theorem Yd.same {o : Oper} {a a' : Act} (hy : Yd P ops B k i o v a) (he : execOp a'.eval o = execOp a.eval o)
  (hw : Region.wanted o (yielded ops a'.tmps) = Region.wanted o (yielded ops a.tmps)) : Yd P ops B k i o v a' := by
 unfold Yd Je Oper.quietAt at *
 rw [he, hw]
 exact hy
theorem Yd.q {o : Oper} {a : Act} (hi : ops[i]? = some o) (hy : Yd P ops B k i o v a) {K : Act → Prop} (h : K (a.put o.dst v)) : qK P ops B k i K a := by
 unfold qK; simp only [hi]; exact ⟨v, hy, h⟩
theorem Lp {a : Act} {K K' : Act → Prop} (h : ∀ a, K a → K' a) (hh : qK P ops B k i K a) : qK P ops B k i K' a := by
 unfold qK at *
 split
 ·rename_i ho; simp only [ho] at hh; exact h _ hh
 ·rename_i o ho; simp only [ho] at hh; obtain ⟨v, h1, h2⟩ := hh; exact ⟨v, h1, h _ h2⟩
theorem OB {i j : Nat} {oi oj : Oper} (hj : ops[j]? = some oj) (hap : oi.apart ops oj = true)
  (hsi : ∀ cs b, oi.op ≠ .select cs b) (hsj : ∀ cs b, oj.op ≠ .select cs b) {K : Act → Prop} {a : Act}
  (hy : Yd P ops B k i oi v a) (h : qK P ops B k j K (a.put oi.dst v)) : qK P ops B k j (fun a' => Yd P ops B k i oi v a' ∧ K (a'.put oi.dst v)) a := by
 obtain ⟨h1, h2, h3⟩ := Oper.apart_spec hap
 unfold qK at *
 simp only [hj] at *
 obtain ⟨u, hu, hn⟩ := h
 refine ⟨u, hu.same (execOp_put oj hsj a oi.dst v h1).symm (wanted_put oj a oi.dst v h1).symm, hy.same (execOp_put oi hsi a oj.dst u h3) (wanted_put oi a oj.dst u h3), ?_⟩
 rw [← Act.put_comm a v u h2]; exact hn
def zw (P : Program) (md : Region.Mode) (ops : Array Oper) (B : World) (k n : Nat) (L : Array Bool → Act → Prop) : Nat → Array Bool → Act → Prop
 | 0, listed, a => L listed a
 | f + 1, listed, a => Region.ready md ops listed ≠ [] ∧ ∀ i ∈ Region.ready md ops listed, i < n ∧ qK P ops B k i (zw P md ops B k n L f (listed.setIfInBounds i true)) a
theorem zx {n i : Nat} {oi : Oper} {L : Array Bool → Act → Prop} (hi : ops[i]? = some oi) (hsel : ∀ (j : Nat) (o : Oper) cs b, ops[j]? = some o → o.op ≠ .select cs b)
  (hs : Region.sinkB md ops n = true) (hc : Region.chainB md ops n = true) (hn : n < ops.size) (hin : i < n) (hdone : ∀ listed a, L listed a → ∀ j ∈ Region.ready md ops listed, n ≤ j) :
  ∀ (f : Nat) (listed : Array Bool) (a : Act), HeadInv md ops n listed →
   (∀ j oj, ops[j]? = some oj → j ≠ i → listed.getD j true = false → (∀ e ∈ oj.after, Region.binds md e = true → e.on ≠ i) → oi.apart ops oj = true) →
   i ∈ Region.ready md ops listed → Yd P ops B k i oi v a →
   zw P md ops B k n L f (listed.setIfInBounds i true) (a.put oi.dst v) → zw P md ops B k n L (f + 1) listed a := by
 intro f
 induction f with
 | zero =>
  intro listed a inv _ hr hy H
  have hun := (mem_ready.1 hr).1
  refine ⟨fun h => (by rw [h] at hr; cases hr), fun j hj => ?_⟩
  have hjn : j < n := by
   rcases Nat.lt_or_ge j n with h | h
   ·exact h
   ·exact absurd hj (tail_waits hs hc hn inv _ i rfl hin hun j h)
  refine ⟨hjn, ?_⟩
  rcases Classical.em (j = i) with rfl | hji
  ·exact hy.q hi H
  ·have := hdone _ _ H j (ready_mono hj hji)
   omega
 | succ f ih =>
  intro listed a inv hfree hr hy H
  have hun := (mem_ready.1 hr).1
  refine ⟨fun h => (by rw [h] at hr; cases hr), fun j hj => ?_⟩
  have hjn : j < n := by
   rcases Nat.lt_or_ge j n with h | h
   ·exact h
   ·exact absurd hj (tail_waits hs hc hn inv _ i rfl hin hun j h)
  refine ⟨hjn, ?_⟩
  rcases Classical.em (j = i) with rfl | hji
  ·exact hy.q hi H
  ·have h1 := (H.2 j (ready_mono hj hji)).2
   obtain ⟨hjun, oj, hoj, hall⟩ := mem_ready.1 hj
   have hnot : ∀ e ∈ oj.after, Region.binds md e = true → e.on ≠ i := fun e he hb heq => by
    have h1 := hall e he hb
    rw [heq, getD_both hun] at h1
    cases h1
   have h2 := OB hoj (hfree j oj hoj hji hjun hnot) (fun cs b => hsel i oi cs b hi) (fun cs b => hsel j oj cs b hoj) hy h1
   refine Lp (fun a' h3 => ih (listed.setIfInBounds j true) a' (inv.set hj hjn) (fun x ox hk hki hun' hno => hfree x ox hk hki ?_ hno) (ready_mono hr (Ne.symm hji)) h3.1 ?_) h2
   ·rcases Classical.em (j = x) with rfl | hjk
    ·exact hjun
    ·rw [getD_set_ne true hjk] at hun'; exact hun'
   ·rw [Array.setIfInBounds_comm _ _ hji]
    exact h3.2
def SI (P : Program) (ops : Array Oper) (B : World) (k : Nat) (Q : Act → Prop) : List Oper → Nat → Act → Prop
 | [], _, a => Q a
 | o :: l, i, a => ∃ v, Yd P ops B k i o v a ∧ SI P ops B k Q l (i + 1) (a.put o.dst v)
theorem wm {n g : Nat} {Lq : Act → Prop} (hsel : Region.noSelect ops = true) (hs : Region.sinkB md ops n = true) (hc : Region.chainB md ops n = true) (hn : n < ops.size) :
  ∀ (l : List Oper) (j : Nat) (listed : Array Bool) (a : Act), (∀ i, i < l.length → l[i]? = ops[j + i]?) → j + l.length = n → HeadInv md ops n listed →
  Region.lexHead md ops g l.length j listed = true → SI P ops B k Lq l j a →
  zw P md ops B k n (fun listed' a' => Region.seqB md ops g n listed' = true ∧ Lq a') l.length listed a
 | [], j, listed, a, _, hk, _, hB, h => by
  have : j = n := by simpa using hk
  subst this
  exact ⟨by simpa [Region.lexHead] using hB, h⟩
 | o :: l, j, listed, a, hl, hk, inv, hB, h => by
  have h0 : ops[j]? = some o := by simpa using (hl 0 (by simp)).symm
  simp only [List.length_cons, Region.lexHead, Bool.and_eq_true] at hB
  obtain ⟨⟨hr, hf⟩, hB'⟩ := hB
  have hkn : j < n := by simp only [List.length_cons] at hk; omega
  have hr' : j ∈ Region.ready md ops listed := by simpa using hr
  obtain ⟨v, hy, hK⟩ := h
  exact zx h0 (Region.noSelect_spec hsel) hs hc hn hkn (fun listed' a' hL => seqB_ready hL.1) l.length listed a inv (Region.free_spec h0 hf) hr' hy
   (wm hsel hs hc hn l (j + 1) _ _ (fun i hi => by have := hl (i + 1) (by simp; omega); simpa [Nat.add_assoc, Nat.add_comm 1 i] using this) (by simp only [List.length_cons] at hk; omega) (inv.set hr' hkn) hB' hK)
def Qe (B : World) (d : Tmp) (ob : _root_.Go.Obj) (a' a : Act) (w : World) : Prop :=
 ∃ w1, Below B.heap.size B w1 ∧ Below (w1.alloc ob).heap.size (w1.alloc ob) w ∧ a = a'.put (some d) (.pointer (some ⟨w1.heap.size, 0, none⟩))
theorem pY {n g : Nat} {L : Array Bool → Act → Prop} {Q' : Exit → Act → World → Prop} {ok : Oper} {d : Tmp} {ob : _root_.Go.Obj} (hk : ops[k]? = some ok) (hkg : ok.guard = none) (hkd : ok.dst = some d)
  (hrun : ∀ (ρ : Operand → Value) (w : World), (execOp ρ ok).run P w = .ok (.value (.pointer (some ⟨w.heap.size, 0, none⟩))) (w.alloc ob))
  (hsel : ∀ (j : Nat) (o : Oper) cs b, ops[j]? = some o → o.op ≠ .select cs b)
  (hnr : ∀ i o, i < n → i ≠ k → ops[i]? = some o → d ∉ o.looksAt ops ∧ o.dst ≠ some d)
  (hL : ∀ listed a' a w, L listed a' → HeadInv md ops n listed → (if listed.getD k false = true then Qe B d ob a' a w else a = a' ∧ Below B.heap.size B w) → wpAny P md ops Q' g listed a w) :
  ∀ (f : Nat) (listed : Array Bool) (a' a : Act) (w : World), zw P md ops B k n L f listed a' → HeadInv md ops n listed →
   (if listed.getD k false = true then Qe B d ob a' a w else a = a' ∧ Below B.heap.size B w) → wpAny P md ops Q' (f + g) listed a w
 | 0, _, _, _, _, h, inv, hc => by rw [Nat.zero_add]; exact hL _ _ _ _ h inv hc
 | f + 1, listed, a', a, w, h, inv, hc => by
  rw [show f + 1 + g = (f + g) + 1 by omega]
  refine ⟨fun h0 => absurd h0 h.1, fun i hi => ?_⟩
  obtain ⟨hin, hq⟩ := h.2 i hi
  have inv' := inv.set hi hin
  obtain ⟨hun, oi, hoi, hall⟩ := mem_ready.1 hi
  unfold wpOp
  simp only [hoi]
  unfold qK at hq
  simp only [hoi] at hq
  obtain ⟨v, hy, hn⟩ := hq
  rcases Classical.em (i = k) with hik | hik
  ·
   have : oi = ok := Option.some.inj (hoi.symm.trans (by rw [hik]; exact hk))
   subst this
   rw [if_neg (by rw [← hik, getD_both hun]; decide)] at hc
   obtain ⟨rfl, hw⟩ := hc
   rw [if_pos (by simp [Region.wanted, hkg])]
   refine .inl ?_
   unfold Oper.wp
   rw [hrun]
   obtain rfl : v = undef := by
    rcases hy with ⟨_, e⟩ | ⟨e, _⟩
    ·exact e
    ·exact absurd hik e
   refine pY hk hkg hkd hrun hsel hnr hL f _ (a.put (some d) undef) _ _ (by rw [hkd] at hn; exact hn) inv' ?_
   rw [if_pos (by
    have hlt : i < listed.size := by
     rcases Nat.lt_or_ge i listed.size with h | h
     ·exact h
     ·simp [h] at hun
    rw [← hik]; simp [hlt])]
   refine ⟨w, hw, Below.refl _ _, ?_⟩
   rw [hkd]
   simp [Act.put]
  ·rcases hy with ⟨h, _⟩ | ⟨_, hy⟩
   ·exact absurd h hik
   obtain ⟨hd1, hd2⟩ := hnr i oi hin hik hoi
   have hset : (listed.setIfInBounds i true).getD k false = listed.getD k false := getD_set_ne false hik
   by_cases hkl : listed.getD k false = true
   ·rw [if_pos hkl] at hc
    obtain ⟨w1, hw1, hw2, rfl⟩ := hc
    have e1 : execOp (a'.put (some d) (.pointer (some ⟨w1.heap.size, 0, none⟩))).eval oi = execOp a'.eval oi := execOp_put (ops := ops) oi (fun cs b => hsel i oi cs b hoi) a' (some d) _ (fun x hx => by cases hx; exact hd1)
    have e2 := wanted_put (ops := ops) oi a' (some d) (.pointer (some ⟨w1.heap.size, 0, none⟩)) (fun x hx => by cases hx; exact hd1)
    have next : ∀ w', Below (w1.alloc ob).heap.size (w1.alloc ob) w' → wpAny P md ops Q' (f + g) (listed.setIfInBounds i true) ((a'.put (some d) (.pointer (some ⟨w1.heap.size, 0, none⟩))).put oi.dst v) w' := fun w' hw' => by
     refine pY hk hkg hkd hrun hsel hnr hL f _ (a'.put oi.dst v) _ w' hn inv' ?_
     rw [hset, if_pos hkl]
     exact ⟨w1, hw1, hw', Act.put_comm a' _ v (fun x hx h => hd2 (by cases hx; exact h))⟩
    rw [e2]
    rcases hy with ⟨hwn, hyq⟩ | ⟨hwn, rfl⟩
    ·rw [if_pos hwn]
     refine .inl (Oper.wp_of_quiet (C := fun w' => Below (w1.alloc ob).heap.size (w1.alloc ob) w') (K := fun a'' => a'' = (a'.put (some d) (.pointer (some ⟨w1.heap.size, 0, none⟩))).put oi.dst v) hw2 (fun a'' w'' hw'' ha => by subst ha; exact next w'' hw'') ⟨v, fun w' hw' => ?_, rfl⟩)
     unfold Oper.quietAt
     rw [e1]
     exact hyq (w1.alloc ob) (Below.alloc hw1 hw1.size ob) w' hw'
    ·rw [if_neg (by rw [hwn]; decide)]
     exact next w hw2
   ·rw [if_neg hkl] at hc
    obtain ⟨rfl, hw⟩ := hc
    have next : ∀ w', Below B.heap.size B w' → wpAny P md ops Q' (f + g) (listed.setIfInBounds i true) (a.put oi.dst v) w' := fun w' hw' => by
     refine pY hk hkg hkd hrun hsel hnr hL f _ (a.put oi.dst v) _ w' hn inv' ?_
     rw [hset, if_neg hkl]
     exact ⟨rfl, hw'⟩
    rcases hy with ⟨hwn, hyq⟩ | ⟨hwn, rfl⟩
    ·rw [if_pos hwn]
     exact .inl (Oper.wp_of_quiet (C := fun w' => Below B.heap.size B w') (K := fun a'' => a'' = a.put oi.dst v) hw (fun a'' w'' hw'' ha => by subst ha; exact next w'' hw'') ⟨v, fun w' hw' => hyq B (Below.refl _ _) w' hw', rfl⟩)
    ·rw [if_neg (by rw [hwn]; decide)]
     exact next w hw
end
end Go.Abs
namespace Go.Abs
open Go.RowKit
theorem y5 {a b c : World} (h : Below a.heap.size a b) (k : Below b.heap.size b c) : Below a.heap.size a c := h.trans (k.mono h.size)
theorem kZ {w w' : World} {D : Names} {env : List AV} {tmps : Array Value} (h : ax w D env tmps) (k : Below w.heap.size w w') (hlt : ∀ b, D.M b → b < w.heap.size) : ax w' D env tmps :=
 h.mono ((cA k).weaken (fun _ _ h => h.elim)) (fun _ _ h => h) hlt (fun _ _ h => h)
theorem Lr {P : Program} {Φ : Table} (hΦ : Sound P Φ) {ops : Array Oper} {o : Oper} {s s' : St} (h : rL P Φ ops o s = some s') {w0 B : World} {M0 : Nat → Prop} {D : Names} {a : Act} (hm : Mem w0 M0 s.objs D B) (he : ax B D s.env a.tmps)
  {k i : Nat} (hik : i ≠ k) : s'.objs = s.objs ∧ ∃ v, Yd P ops B k i o v a ∧ ax B D s'.env (a.put o.dst v).tmps := by
 unfold rL at h
 split at h
 ·cases h
 ·rename_i hg
  simp only [Option.some.injEq] at h; subst h
  exact ⟨rfl, undef, .inr ⟨hik, .inr ⟨dW he hg, rfl⟩⟩, he.put _ (by simp only [Slot, cM, Cell]; exact .gO)⟩
 ·rename_i hg
  have hwn := dW he hg
  split at h
  ·rename_i f args tys hop
   obtain ⟨r, hr, rfl⟩ := Option.map_eq_some_iff.1 h
   obtain ⟨h1, h2, hf, h3, _⟩ := me hΦ hm he hr
   refine ⟨h2, toVS r.x, .inr ⟨hik, .inl ⟨hwn, fun w1 hw1 w' hw' => ?_⟩⟩, ?_⟩
   ·unfold Oper.quietAt
    rw [u0 hop hf w']
    refine ⟨rfl, ?_⟩
    have : (args.map a.eval) = (args.toList.map a.eval).toArray := Array.ext' (by simp)
    rw [this]
    obtain ⟨_, _, _, _, g⟩ := me hΦ (hm.ext (cA hw1) hw1.os hw1.tape hw1.output) (kZ he hw1 hm.lt) hr
    exact g w' hw'
   ·simp only [h1]; exact he.put _ h3
  ·obtain ⟨x, hx, rfl⟩ := Option.map_eq_some_iff.1 h
   obtain ⟨v, h1, h2⟩ := m8 hm he hx
   refine ⟨rfl, v, .inr ⟨hik, .inl ⟨hwn, fun w1 hw1 w' hw' => ?_⟩⟩, he.put _ h1⟩
   unfold Oper.quietAt
   rw [h2 w' (y5 hw1 hw')]
   exact ⟨rfl, rfl⟩
def HU (ops : Array Oper) (n k : Nat) (d : Tmp) : Bool := (List.range n).all fun i => i == k || (match ops[i]? with | some o => !(o.looksAt ops).contains d && o.dst != some d | none => true)
end Go.Abs
