/- The walks' library, part B: what a region of the program does in an abstract state, and its soundness. -/
import Derived.StillTail
import Derived.Test.YtjficagemeiecaaDoorLibA
namespace Go.Abs
open Go.RowKit
variable {objs : List (Nat × Obj)} {D : Names} {d : Nat} {w : World} {env : List AV} {P : Program}
def chunk (sz : Nat) : Nat → List AV → List (List AV)
 | 0, _ => []
 | n + 1, l => l.take sz :: chunk sz n (l.drop sz)
theorem chunk_spec (sz : Nat) : ∀ (n : Nat) (l : List AV), n * sz ≤ l.length → (chunk sz n l).length = n ∧ ∀ (j : Nat) (cs : List AV), (chunk sz n l)[j]? = some cs → cs.length = sz ∧ ∀ (i : Nat) (x : AV), cs[i]? = some x → l[j * sz + i]? = some x
 | 0, l, _ => by simp [chunk]
 | n + 1, l, h => by
  rw [Nat.add_mul, Nat.one_mul] at h
  obtain ⟨h1, h2⟩ := chunk_spec sz n (l.drop sz) (by simp; omega)
  refine ⟨by simp [chunk, h1], fun j cs hj => ?_⟩
  cases j with
  | zero =>
   simp only [chunk, List.getElem?_cons_zero, Option.some.injEq] at hj
   subst hj
   refine ⟨by simp; omega, fun i x hx => ?_⟩
   rw [List.getElem?_take] at hx
   split at hx
   ·simpa using hx
   ·cases hx
  | succ j =>
   simp only [chunk, List.getElem?_cons_succ] at hj
   obtain ⟨g1, g2⟩ := h2 j cs hj
   refine ⟨g1, fun i x hx => ?_⟩
   have := g2 i x hx
   rw [List.getElem?_drop] at this
   rw [← this]; congr 1; rw [Nat.add_mul]; omega
structure HR where
 x : AV
 env : List AV
 objs : List (Nat × Obj)
def sizeB (P : Program) (T : TypeId) : Option Nat := (P.info? T).map (·.bytes)
def elemId (P : Program) (T : TypeId) : Option TypeId := match P.underlying T with | some (.slice e) => some e | _ => none
def hBox (env : List AV) (objs : List (Nat × Obj)) (d : Nat) (x : AV) : Option HR :=
 match look d objs, cellsOf x with
 | none, some cs => some ⟨.ref d cs.length 0 0, env, (d, .box cs) :: objs⟩
 | _, _ => none
def hAlloc (P : Program) (env : List AV) (objs : List (Nat × Obj)) (d : Nat) (T : TypeId) : Option HR :=
 match look d objs, zeroCells P T with
 | none, some z => match arrElem P T with
  | some (n, sz) => if n * sz = z.length ∧ n ≤ lim then some ⟨.ref d sz 0 0, env, (d, .arr sz (chunk sz n z)) :: objs⟩ else none
  | none => some ⟨.ref d z.length 0 0, env, (d, .box z) :: objs⟩
 | _, _ => none
def Pin (D0 D : Names) (objs : List (Nat × Obj)) : Prop := ∀ n d, D0 n = some d → D n = some d ∧ (n < top → ∃ cs, look n objs = some (.box cs))
theorem Pin.ins {D0 D : Names} (h : Pin D0 D objs) (hd : D d = none) (y : Option Nat) (obj : Obj) : Pin D0 (D.ins d y) ((d, obj) :: objs) := by
 intro n e hn
 obtain ⟨h1, h2⟩ := h n e hn
 have hne : n ≠ d := fun h => by subst h; rw [hd] at h1; cases h1
 exact ⟨by simp [Names.ins, hne, h1], fun hK => by simpa [look, Ne.symm hne] using h2 hK⟩
theorem Pin.letgo {D0 D : Names} (h : Pin D0 D objs) {m sz : Nat} {l : List (List AV)} (hm : look m objs = some (.arr sz l)) (hK : m < top) (φ : AV → AV) : Pin D0 (D.del m) (mapO φ (drop m objs)) := by
 intro n e hn
 obtain ⟨h1, h2⟩ := h n e hn
 have hne : n ≠ m := fun he => by
  subst he
  obtain ⟨cs, hc⟩ := h2 hK
  rw [hm] at hc; cases hc
 refine ⟨by simp [Names.del, hne, h1], fun hK' => ?_⟩
 obtain ⟨cs, hc⟩ := h2 hK'
 exact ⟨cs.map φ, by rw [look_mapO, look_drop_ne (Ne.symm hne), hc]; rfl⟩
theorem Pin.upd {D0 D : Names} (h : Pin D0 D objs) {m : Nat} {o o' : Obj} (hm : look m objs = some o) (ho : (∃ cs, o' = .box cs) ∨ (∃ sz l, o = .arr sz l) ∨ ∃ kk k l, o = .mp kk k l) : Pin D0 D (upd m o' objs) := by
 intro n e hn
 obtain ⟨h1, h2⟩ := h n e hn
 refine ⟨h1, fun hK => ?_⟩
 by_cases hne : n = m
 ·subst hne
  rw [look_upd o' objs (by simp [hm])]
  rcases ho with ⟨cs, rfl⟩ | ⟨sz, l, rfl⟩ | ⟨kk, k, l, rfl⟩
  ·exact ⟨cs, rfl⟩
  ·obtain ⟨cs, hc⟩ := h2 hK
   rw [hm] at hc; cases hc
  ·obtain ⟨cs, hc⟩ := h2 hK
   rw [hm] at hc; cases hc
 ·rw [look_upd_ne o' (Ne.symm hne)]; exact h2 hK
def Done (P : Program) (w0 : World) (M0 : Nat → Prop) (a : Act) (w : World) (D : Names) (objs : List (Nat × Obj)) (s : Sem Next) (r : HR) : Prop :=
 ∃ v w' D', (s.run P w = .ok (.value v) w' ∨ (s.run P w = .ok .skip w' ∧ v = undef)) ∧ Slot w' D' r.x v ∧ Mem w0 M0 r.objs D' w' ∧ EnvRep w' D' r.env a.tmps ∧ ∀ D0, Pin D0 D objs → Pin D0 D' r.objs
theorem ins_mono (hlt : ∀ b, D.M b → b < w.heap.size) (hd : D d = none) (o : _root_.Go.Obj) {x : AV} {v : Value} (h : Cell w D x v) : Cell (w.alloc o) (D.ins d (some w.heap.size)) x v := by
 obtain ⟨c1, c2⟩ := carry_ins (w := w) (x := some w.heap.size) hd (fun b h => by cases h; exact Nat.le_refl _)
 exact h.mono (grow_alloc w o D.M) c1 hlt c2
theorem ins_imm (hd : D d = none) (o : _root_.Go.Obj) {x : AV} {v : Value} (h : Imm w D.M x v) : Imm (w.alloc o) (D.ins d (some w.heap.size)).M x v := by
 obtain ⟨c1, c2⟩ := carry_ins (w := w) (x := some w.heap.size) hd (fun b h => by cases h; exact Nat.le_refl _)
 exact h.mono (grow_alloc w o D.M).toKeep c2
theorem ins_env (hlt : ∀ b, D.M b → b < w.heap.size) (hd : D d = none) (o : _root_.Go.Obj) {tmps : Array Value} (h : EnvRep w D env tmps) : EnvRep (w.alloc o) (D.ins d (some w.heap.size)) env tmps := by
 obtain ⟨c1, c2⟩ := carry_ins (w := w) (x := some w.heap.size) hd (fun b h => by cases h; exact Nat.le_refl _)
 exact h.mono (grow_alloc w o D.M) c1 hlt c2
theorem ins_self (D : Names) (d : Nat) (y : Option Nat) : (D.ins d y) d = some y := by simp [Names.ins]
theorem done_box {w0 w : World} {M0 : Nat → Prop} (hm : Mem w0 M0 objs D w) {a : Act} (he : EnvRep w D env a.tmps) (hd : look d objs = none) (hK : d < top)
  {cs : List AV} {vs : List Value} (hc : CellsOne w D cs vs) (T : TypeId) {s : Sem Next} (hs : s.run P w = .ok (.value (.pointer (some ⟨w.heap.size, 0, none⟩))) (w.alloc (.cells vs.toArray T))) (n : Nat) :
  Done P w0 M0 a w D objs s ⟨.ref d n 0 0, env, (d, .box cs) :: objs⟩ := by
 have hfr := hm.fresh hd hK
 refine ⟨_, _, D.ins d (some w.heap.size), .inl hs, ?_, hm.alloc hd hK _ _ ?_, ins_env hm.lt hfr _ he, fun _ hp => hp.ins hfr _ _⟩
 ·simp only [Slot, Val, Cell]; exact ⟨w.heap.size, ins_self _ _ _, by simp⟩
 ·exact ⟨vs, T, alloc_at _ _, hc.1, fun i x hx => ⟨ins_mono hm.lt hfr _ (hc.2 i x hx).1, (hc.2 i x hx).2⟩⟩
def RowsOne (w : World) (M : Nat → Prop) (sz : Nat) (l : List (List AV)) (vs : List Value) : Prop :=
 l.length * sz ≤ vs.length ∧ (∀ (j : Nat) (cs : List AV), l[j]? = some cs → cs.length = sz) ∧
  ∀ (j : Nat) (cs : List AV) (i : Nat) (x : AV), l[j]? = some cs → cs[i]? = some x → Imm w M x (vs.getD (j * sz + i) undef) ∧ (vs.getD (j * sz + i) undef).oneCell' = true
theorem done_arr {w0 w w1 : World} {M0 : Nat → Prop} (hm : Mem w0 M0 objs D w) {a : Act} (he : EnvRep w D env a.tmps) (hd : look d objs = none) (hK : d < top)
  {sz : Nat} {l : List (List AV)} {vs : List Value} (hr : RowsOne w D.M sz l vs) (hlim : l.length ≤ lim) (T : TypeId) (fz : Nat × Nat) (hfz : unfrozen fz vs.length) {s : Sem Next} {v : Value} (x : AV)
  (hs : s.run P w1 = .ok (.value v) (w.alloc (.cells vs.toArray T fz)))
  (hx : ∀ D', D' d = some (some w.heap.size) → Slot (w.alloc (.cells vs.toArray T fz)) D' x v) :
  Done P w0 M0 a w1 D objs s ⟨x, env, (d, .arr sz l) :: objs⟩ := by
 have hfr := hm.fresh hd hK
 refine ⟨_, _, D.ins d (some w.heap.size), .inl hs, hx _ (ins_self _ _ _), hm.alloc hd hK _ _ ?_, ins_env hm.lt hfr _ he, fun _ hp => hp.ins hfr _ _⟩
 exact ⟨vs, T, fz, alloc_at _ _, hfz, hlim, hr.1, hr.2.1, fun j cs i x hj hi => ⟨ins_imm hfr _ (hr.2.2 j cs i x hj hi).1, (hr.2.2 j cs i x hj hi).2⟩⟩
theorem unfrozen_zero (n : Nat) : unfrozen (0, 0) n := by intro j _ h; simp at h
theorem slot_msl_new {T : TypeId} {vs : List Value} {fz : Nat × Nat} {D' : Names} {d sz len cap : Nat} (hD : D' d = some (some w.heap.size)) (hle : len ≤ cap) (hroom : cap * sz ≤ vs.length) :
  Slot (w.alloc (.cells vs.toArray T fz)) D' (.msl d sz 0 len) (.slice (some ⟨w.heap.size, 0, none⟩) len cap) := by
 simp only [Slot, Val, Cell]
 refine .inr ⟨w.heap.size, cap, vs.length, hD, by simp, hle, ?_, by simpa using hroom⟩
 simp only [World.row, World.shape?, alloc_at]
 simp
theorem d_box {w0 w : World} {M0 : Nat → Prop} (hm : Mem w0 M0 objs D w) {a : Act} (he : EnvRep w D env a.tmps) (hK : d < top) {x : AV} {r : HR}
  (h : hBox env objs d x = some r) {v : Value} (hv : Slot w D x v) (T : TypeId) : Done P w0 M0 a w D objs (do pure (.value (← Instr.box T v))) r := by
 unfold hBox at h
 split at h
 ·rename_i cs hd hc
  simp only [Option.some.injEq] at h; subst h
  obtain ⟨vs, hvs, hone⟩ := cellsOf_sound hv hc
  exact done_box hm he hd hK hone T (by simp [Instr.box, newVar, newRow, hvs]) _
 ·cases h
theorem d_alloc {w0 w : World} {M0 : Nat → Prop} (hm : Mem w0 M0 objs D w) {a : Act} (he : EnvRep w D env a.tmps) (hK : d < top) {T : TypeId} {r : HR}
  (h : hAlloc P env objs d T = some r) : Done P w0 M0 a w D objs (do pure (.value (← Instr.alloc T true (.tuple #[])))) r := by
 unfold hAlloc at h
 split at h
 ·rename_i z hd hz
  obtain ⟨i, zv, hi, hzv, hone, himm⟩ := cellsOne_zero w D hz
  have hs : (do pure (.value (← Instr.alloc T true (.tuple #[]))) : Sem Next).run P w = .ok (.value (.pointer (some ⟨w.heap.size, 0, none⟩))) (w.alloc (.cells zv.cells.toList.toArray T)) := by
   simp [Instr.alloc, zeroValue, typeInfo, hi, hzv, newVar, newRow]
  split at h
  ·rename_i n sz hA
   split at h
   ·rename_i hc
    simp only [Option.some.injEq] at h; subst h
    obtain ⟨c1, c2⟩ := chunk_spec sz n z (by omega)
    refine done_arr hm he hd hK (vs := zv.cells.toList) ⟨by rw [c1, hone.1]; omega, fun j cs hj => (c2 j cs hj).1, fun j cs i x hj hx => ?_⟩ (by rw [c1]; exact hc.2) T (0, 0) (unfrozen_zero _) _ hs (fun D' hD' => ?_)
    ·have := (c2 j cs hj).2 i x hx
     exact ⟨himm _ _ this, (hone.2 _ _ this).2⟩
    ·simp only [Slot, Val, Cell]; exact ⟨w.heap.size, hD', by simp⟩
   ·cases h
  ·simp only [Option.some.injEq] at h; subst h
   exact done_box hm he hd hK hone T hs _
 ·cases h
end Go.Abs
namespace Go.Abs
open Go.RowKit
variable {objs objs' : List (Nat × Obj)} {w w0 : World} {D : Names} {env : List AV}
def frz (n sz : Nat) (l : List (List AV)) : AV → AV
 | .msl m sz' off len => if m = n then (if sz' = sz ∧ off + len ≤ l.length then .sl sz ((l.drop off).take len) else .any) else .msl m sz' off len
 | .ref m sz' i off => if m = n then .any else .ref m sz' i off
 | .wrp f ns => if n ∈ ns then .any else .wrp f ns
 | x => x
def freeze (n : Nat) (env : List AV) (objs : List (Nat × Obj)) : Option (List AV × List (Nat × Obj)) :=
 match look n objs with
 | some (.arr sz l) => some (env.map (mapS (frz n sz l)), mapO (frz n sz l) (drop n objs))
 | _ => none
theorem slice_imm {sz : Nat} {l : List (List AV)} {v : Value} (h : SliceRep w D sz l v) {M' : Nat → Prop} (hb : ∀ b o n cap, v = .slice (some ⟨b, o, none⟩) n cap → l ≠ [] → ¬ M' b)
  (hM : ∀ b, b < w.heap.size → M' b → D.M b) : Imm w M' (.sl sz l) v := by
 obtain ⟨a, cap, rfl, hcap, hlim, hcase⟩ := h
 rcases hcase with rfl | ⟨b, off, rfl, hbs, hsz, f, hf⟩
 ·exact .slnil sz a cap
 ·by_cases hl : l = []
  ·subst hl; exact .slnil sz _ cap
  ·exact .sl sz l b off cap f hbs (hb b off _ cap rfl hl) hcap hlim hsz (fun j cs i x hj hx => (hf j cs i x hj hx).1) (fun j cs i x hj hx => (hf j cs i x hj hx).2.1)
    (fun j cs i x hj hx => (hf j cs i x hj hx).2.2.mono (Grow.refl w _).toKeep hM)
theorem carry_frz {M0 : Nat → Prop} (hm : Mem w0 M0 objs D w) {n sz : Nat} {l : List (List AV)} (hl : look n objs = some (.arr sz l)) : Carry w w D (D.del n) (frz n sz l) where
 cell := fun x v h => by
  cases x with
  | msl m sz' off len =>
   simp only [frz]
   split
   ·rename_i hmn
    subst hmn
    split
    ·rename_i hc
     obtain ⟨rfl, hle⟩ := hc
     have hrep := viewSl_sound hm (sz := sz') (x := .msl m sz' off len) (l := (l.drop off).take len) (by simp [viewSl, hl, hle]) h.slot
     simp only [Cell]
     refine slice_imm hrep (fun b o p cap hv hne hM => ?_) (fun b _ hM => Names.del_M hM)
     rcases h with ⟨_, rfl, a, rfl⟩ | ⟨b', cap', N, h1, rfl, _⟩
     ·exact hne (by simp)
     ·simp only [Value.slice.injEq, Option.some.injEq, Addr.mk.injEq] at hv
      obtain ⟨⟨rfl, _⟩, _⟩ := hv
      obtain ⟨q, hq⟩ := hM
      unfold Names.del at hq
      split at hq
      ·cases hq
      ·rename_i hne'
       exact hne' (hm.inj q m b' hq h1)
    ·exact imm_any _ _ _
   ·rename_i hne
    have := (carry_kill (w := w) (D := D) n).cell (.msl m sz' off len) v h
    simpa [kill, hne] using this
  | ref m sz' i off =>
   have := (carry_kill (w := w) (D := D) n).cell (.ref m sz' i off) v h
   simpa only [kill, frz] using this
  | wrp f ns =>
   have := (carry_kill (w := w) (D := D) n).cell (.wrp f ns) v h
   simpa only [kill, frz] using this
  | _ =>
   simp only [frz, Cell] at h ⊢
   exact h.mono (Grow.refl w _).toKeep (fun b _ hM => Names.del_M hM)
theorem freeze_sound {M0 : Nat → Prop} (hm : Mem w0 M0 objs D w) {tmps : Array Value} (he : EnvRep w D env tmps) {n : Nat} {env' : List AV}
  (h : freeze n env objs = some (env', objs')) : ∃ D', Mem w0 M0 objs' D' w ∧ EnvRep w D' env' tmps ∧ ∀ D0, Pin D0 D objs → Pin D0 D' objs' := by
 unfold freeze at h
 split at h
 ·rename_i sz l hl
  simp only [Option.some.injEq, Prod.mk.injEq] at h
  obtain ⟨rfl, rfl⟩ := h
  have c := carry_frz hm hl
  exact ⟨D.del n, hm.letgo n c, c.env he, fun _ hp => hp.letgo hl (hm.small n (by simp [hl])) _⟩
 ·cases h
def cellList : AV → List AV
 | .agg l => l
 | x => [x]
def firstName : List AV → Option Nat
 | [] => none
 | .msl n _ _ _ :: _ => some n
 | _ :: r => firstName r
def settle : Nat → List Operand → List AV → List (Nat × Obj) → Option (List AV × List (Nat × Obj))
 | 0, _, env, objs => some (env, objs)
 | f + 1, xs, env, objs => match firstName (xs.flatMap fun o => cellList (ev env o)) with
  | none => some (env, objs)
  | some n => match freeze n env objs with
   | some r => settle f xs r.1 r.2
   | none => none
theorem settle_sound {M0 : Nat → Prop} {tmps : Array Value} (xs : List Operand) : ∀ (f : Nat) {D : Names} {env : List AV} {objs : List (Nat × Obj)}, Mem w0 M0 objs D w → EnvRep w D env tmps → ∀ {r}, settle f xs env objs = some r →
  ∃ D', Mem w0 M0 r.2 D' w ∧ EnvRep w D' r.1 tmps ∧ ∀ D0, Pin D0 D objs → Pin D0 D' r.2
 | 0, D, env, objs, hm, he, r, h => by simp only [settle, Option.some.injEq] at h; subst h; exact ⟨D, hm, he, fun _ h => h⟩
 | f + 1, D, env, objs, hm, he, r, h => by
  simp only [settle] at h
  split at h
  ·simp only [Option.some.injEq] at h; subst h; exact ⟨D, hm, he, fun _ h => h⟩
  ·split at h
   ·rename_i r' hf
    obtain ⟨D', h1, h2, h3⟩ := freeze_sound hm he (env' := r'.1) (objs' := r'.2) (by rw [hf])
    obtain ⟨D'', g1, g2, g3⟩ := settle_sound xs f h1 h2 h
    exact ⟨D'', g1, g2, fun D0 hp => g3 D0 (h3 D0 hp)⟩
   ·cases h
def rowsOf (sz : Nat) : List AV → Option (List (List AV))
 | [] => some []
 | x :: r => match cellsOf x, rowsOf sz r with
  | some cs, some l => if cs.length = sz ∧ cs.all plainC = true then some (cs :: l) else none
  | _, _ => none
theorem plainC_imm {x : AV} {v : Value} (h : Cell w D x v) (hp : plainC x = true) : Imm w D.M x v := by
 cases x <;> first | (simp [plainC] at hp; done) | (simpa only [Cell] using h)
theorem rowsOf_sound {a : Act} (hg : GlobRep w D.M) (he : EnvRep w D env a.tmps) {sz : Nat} : ∀ (xs : List Operand) (l : List (List AV)), rowsOf sz (xs.map (ev env)) = some l →
  l.length = xs.length ∧ (∀ v ∈ xs.map a.eval, v.cells.size = sz) ∧ RowsOne w D.M sz l ((xs.map a.eval).flatMap fun v => v.cells.toList)
 | [], l, h => by simp [rowsOf] at h; subst h; simp [RowsOne]
 | x :: xs, l, h => by
  simp only [List.map_cons, rowsOf] at h
  split at h
  ·rename_i cs l' hcs hl'
   split at h
   ·rename_i hc
    simp only [Option.some.injEq] at h; subst h
    obtain ⟨h1, h2, h3, h4, h5⟩ := rowsOf_sound hg he xs l' hl'
    obtain ⟨vs, hvs, hone⟩ := cellsOf_sound (ev_sound hg he x) hcs
    have hlen : vs.length = sz := by rw [hone.1]; exact hc.1
    refine ⟨by simp [h1], fun v hv => ?_, ?_, fun j cs' hj => ?_, fun j cs' i y hj hy => ?_⟩
    ·simp only [List.map_cons, List.mem_cons] at hv
     rcases hv with rfl | hv
     ·rw [hvs]; simpa using hlen
     ·exact h2 v hv
    ·simp only [List.map_cons, List.flatMap_cons, hvs, List.length_append, List.length_cons]
     rw [Nat.add_mul, Nat.one_mul]
     have : vs.length = sz := hlen
     omega
    ·cases j with
     | zero => simp at hj; subst hj; exact hc.1
     | succ j => simp at hj; exact h4 j cs' hj
    ·simp only [List.map_cons, List.flatMap_cons, hvs]
     cases j with
     | zero =>
      simp at hj; subst hj
      have hi : i < vs.length := by rw [hone.1]; exact (List.getElem?_eq_some_iff.1 hy).1
      have := hone.2 i y hy
      have hp : plainC y = true := List.all_eq_true.1 hc.2 y (List.mem_of_getElem? hy)
      have e : (vs ++ (xs.map a.eval).flatMap fun v => v.cells.toList).getD (0 * sz + i) undef = vs.getD i undef := by
       simp [List.getD, List.getElem?_append, hi]
      rw [e]
      exact ⟨plainC_imm this.1 hp, this.2⟩
     | succ j =>
      simp at hj
      have := h5 j cs' i y hj hy
      have e : (vs ++ (xs.map a.eval).flatMap fun v => v.cells.toList).getD ((j + 1) * sz + i) undef = ((xs.map a.eval).flatMap fun v => v.cells.toList).getD (j * sz + i) undef := by
       have e1 : ¬ (j + 1) * sz + i < vs.length := by rw [hlen, Nat.add_mul, Nat.one_mul]; omega
       have e2 : (j + 1) * sz + i - vs.length = j * sz + i := by rw [hlen, Nat.add_mul, Nat.one_mul]; omega
       simp only [List.getD, List.getElem?_append, e1, if_false, e2]
      rw [e]
      exact this
   ·cases h
  ·cases h
theorem Done.pins {P : Program} {M0 : Nat → Prop} {a : Act} {D D' : Names} {s : Sem Next} {r : HR} (hp : ∀ D0, Pin D0 D objs → Pin D0 D' objs')
  (h : Done P w0 M0 a w D' objs' s r) : Done P w0 M0 a w D objs s r :=
 let ⟨v, w', D'', h1, h2, h3, h4, h5⟩ := h
 ⟨v, w', D'', h1, h2, h3, h4, fun D0 h => h5 D0 (hp D0 h)⟩
def hBuildSlice (P : Program) (env : List AV) (objs : List (Nat × Obj)) (d : Nat) (T : TypeId) (len : Nat) (parts : List (Nat × Operand)) : Option HR :=
 match settle 8 (parts.map (·.2)) env objs with
 | some r => match look d r.2, sliceElem P T, (elemId P T).bind (zeroCells P) with
  | none, some sz, some _ => match rowsOf sz ((parts.map (·.2)).map (ev r.1)) with
   | some rows => if parts.map (·.1) = List.range len ∧ 0 < sz ∧ len * sz ≤ 16777216 then some ⟨.msl d sz 0 len, r.1, (d, .arr sz rows) :: r.2⟩ else none
   | none => none
  | _, _, _ => none
 | none => none
theorem elemId_spec {P : Program} {T sz : Nat} (h : sliceElem P T = some sz) : ∃ e i, elemId P T = some e ∧ P.underlying T = some (.slice e) ∧ P.info? e = some i ∧ i.size = sz := by
 obtain ⟨e, i, hu, hi, hs⟩ := sliceElem_spec h
 exact ⟨e, i, by simp [elemId, hu], hu, hi, hs⟩
theorem zip_range {α : Type} (l : List (Nat × α)) (n : Nat) (h : l.map (·.1) = List.range n) : l = ((l.map (·.2)).zipIdx 0).map fun x => (x.2, x.1) := by
 apply List.ext_getElem?
 intro k
 have hlen : l.length = n := by have := congrArg List.length h; simpa using this
 by_cases hk : k < l.length
 ·have h1 : (l.map (·.1))[k]? = (List.range n)[k]? := by rw [h]
  simp only [List.getElem?_map, List.getElem?_eq_getElem hk, Option.map_some] at h1
  rw [List.getElem?_range (by omega)] at h1
  simp only [Option.some.injEq] at h1
  simp only [List.getElem?_map, List.getElem?_zipIdx, List.getElem?_eq_getElem hk, Option.map_some, Nat.zero_add]
  congr 1
  exact Prod.ext h1 rfl
 ·rw [List.getElem?_eq_none (by omega), List.getElem?_eq_none (by simp; omega)]
theorem d_buildSlice {P : Program} {M0 : Nat → Prop} (hm : Mem w0 M0 objs D w) {a : Act} (he : EnvRep w D env a.tmps) {d : Nat} (hK : d < top) {T : TypeId} {len : Nat}
  {parts : Array (Nat × Operand)} {r : HR} (h : hBuildSlice P env objs d T len parts.toList = some r) : Done P w0 M0 a w D objs (do pure (.value (← Instr.buildSlice T len (parts.map fun (i, x) => (i, a.eval x))))) r := by
 unfold hBuildSlice at h
 split at h
 ·rename_i q hq
  obtain ⟨D', hm', he', hpin⟩ := settle_sound _ 8 hm he hq
  split at h
  ·rename_i sz z hd hsz hz
   split at h
   ·rename_i rows hrows
    split at h
    ·rename_i hc
     obtain ⟨hidx, hpos, hsmall⟩ := hc
     simp only [Option.some.injEq] at h; subst h
     obtain ⟨e, i, he1, hu, hi, hs⟩ := elemId_spec hsz
     rw [he1] at hz
     obtain ⟨i', zv, hi', hzv, _, _⟩ := cellsOne_zero w D' hz
     rw [hi] at hi'; cases hi'
     obtain ⟨hrl, hsize, hR⟩ := rowsOf_sound hm'.glob he' (parts.toList.map (·.2)) rows hrows
     have hlen : parts.toList.length = len := by have := congrArg List.length hidx; simpa using this
     have hvl : (parts.toList.map (fun p => a.eval p.2)).length = len := by simpa using hlen
     let vs : List Value := parts.toList.map fun p => a.eval p.2
     have hvs : (parts.toList.map (·.2)).map a.eval = vs := by simp [vs]
     rw [hvs] at hsize hR
     have hparts : (parts.map fun (i, x) => (i, a.eval x)).toList = (vs.zipIdx 0).map fun x => (x.2, x.1) := by
      have := zip_range ((parts.map fun (i, x) => (i, a.eval x)).toList) len (by simpa [Function.comp_def] using hidx)
      rw [this]; simp [vs, Function.comp_def]
     have hrun : (Instr.buildSlice T len (parts.map fun (i, x) => (i, a.eval x))).run P w = .ok (.slice (some ⟨w.heap.size, 0, none⟩) len len) (w.alloc (.cells (vs.flatMap fun v => v.cells.toList).toArray e)) := by
      by_cases h0 : len = 0
      ·subst h0
       have hv0 : vs = [] := List.eq_nil_of_length_eq_zero hvl
       have hp0 : (parts.map fun (i, x) => (i, a.eval x)).toList = [] := by rw [hparts, hv0]; rfl
       simp only [Instr.buildSlice, Sem.run_bind, run_underlying hu, Result.andThen_ok, sizeOf, typeInfo, run_program, hi, Sem.run_pure, Nat.zero_mul, hp0, hv0]
       simp [Instr.fill, newRow, Array.range_zero']
      ·refine run_buildSlice w T e len _ _ i zv hu hi hzv (by rw [hs]; omega) (by rw [hs]; exact Nat.mul_ne_zero h0 (by omega)) ?_
       rw [hparts, hs]
       exact Go.Great.fill_whole hpos vs _ hsize (by simp only [Array.size_map, Array.size_range]; rw [hvl])
     refine Done.pins hpin (done_arr hm' he' hd hK hR (by rw [hrl]; simp only [List.length_map, hlen, lim]; have : len * 1 ≤ len * sz := Nat.mul_le_mul_left _ hpos; omega) e (0, 0) (unfrozen_zero _) _ (by simp [hrun]; rfl) (fun D'' hD'' => ?_))
     refine slot_msl_new hD'' (Nat.le_refl _) ?_
     have := hR.1
     rw [hrl] at this
     simpa [hlen] using this
    ·cases h
   ·cases h
  ·cases h
 ·cases h
end Go.Abs
namespace Go.Abs
open Go.RowKit
variable {objs : List (Nat × Obj)} {P : Program} {w : World} {env : List AV} {D : Names}
def hMake (P : Program) (env : List AV) (objs : List (Nat × Obj)) (d : Nat) (T : TypeId) (l c : AV) : Option HR :=
 match look d objs, sliceElem P T, elemId P T, idx l, idx c with
 | none, some sz, some e, some n, some m => match zeroCells P e, sizeB P e with
  | some z, some by_ => if z.length = sz ∧ 0 ≤ n ∧ n ≤ m ∧ m ≤ lim ∧ (by_ : Int) * m ≤ lim then some ⟨.msl d sz 0 n.toNat, env, (d, .arr sz (List.replicate n.toNat z)) :: objs⟩ else none
  | _, _ => none
 | _, _, _, _, _ => none
theorem d_make {w0 w : World} {M0 : Nat → Prop} (hm : Mem w0 M0 objs D w) {a : Act} (he : EnvRep w D env a.tmps) {d : Nat} (hK : d < top) {T : TypeId} {l c : AV} {r : HR}
  (h : hMake P env objs d T l c = some r) {vl vc : Value} (hvl : Slot w D l vl) (hvc : Slot w D c vc) : Done P w0 M0 a w D objs (do pure (.value (← Instr.makeSlice T vl vc))) r := by
 unfold hMake at h
 split at h
 ·rename_i sz e n m hd hsz hel hn hmm
  split at h
  ·rename_i z by_ hz hby
   split at h
   ·rename_i hc
    obtain ⟨hzl, h0, h1, h2, h3⟩ := hc
    simp only [Option.some.injEq] at h; subst h
    obtain ⟨e', i, he1, hu, hi, hs⟩ := elemId_spec hsz
    rw [hel] at he1; cases he1
    obtain ⟨i', zv, hi', hzv, hone, himm⟩ := cellsOne_zero w D hz
    rw [hi] at hi'; cases hi'
    have hb : i.bytes = by_ := by simpa [sizeB, hi] using hby
    obtain ⟨k1, rfl⟩ := slot_idx hn hvl
    obtain ⟨k2, rfl⟩ := slot_idx hmm hvc
    have hrun := run_make (P := P) w T e i zv hu hi hzv k1 k2 n m h0 h1 (by rw [hb]; simp only [lim] at h3; omega) (by simp only [lim] at h2; omega)
    have hzs : zv.cells.size = sz := by have := hone.1; simp at this; omega
    have hmade : (madeCells zv.cells (m.toNat * i.size)) = (madeCells zv.cells (m.toNat * i.size)).toList.toArray := by simp
    rw [hmade] at hrun
    have hlen : (madeCells zv.cells (m.toNat * i.size)).toList.length = m.toNat * sz := by simp [size_madeCells, hs]
    have hle : n.toNat * sz ≤ m.toNat * sz := Nat.mul_le_mul_right _ (by omega)
    refine done_arr hm he hd hK (vs := (madeCells zv.cells (m.toNat * i.size)).toList) ⟨by rw [hlen]; simpa using hle, fun j cs hj => ?_, fun j cs p x hj hx => ?_⟩ (by simp only [List.length_replicate]; omega) e (0, 0) (unfrozen_zero _) _ (by simp [hrun]; rfl) (fun D' hD' => ?_)
    ·rw [List.getElem?_replicate] at hj
     split at hj
     ·simp only [Option.some.injEq] at hj; subst hj; exact hzl
     ·cases hj
    ·rw [List.getElem?_replicate] at hj
     split at hj
     ·rename_i hjn
      simp only [Option.some.injEq] at hj; subst hj
      have hp : p < sz := by rw [← hzl]; exact (List.getElem?_eq_some_iff.1 hx).1
      have hlt : j * sz + p < m.toNat * sz := by
       have : (j + 1) * sz ≤ n.toNat * sz := Nat.mul_le_mul_right _ hjn
       rw [Nat.add_mul, Nat.one_mul] at this; omega
      have e1 : (madeCells zv.cells (m.toNat * i.size)).toList.getD (j * sz + p) undef = zv.cells.toList.getD p undef := by
       have hpz : p < zv.cells.size := by omega
       have hmod : (j * sz + p) % sz = p := by rw [Nat.mul_comm, Nat.mul_add_mod, Nat.mod_eq_of_lt hp]
       have hget : zv.cells[p]! = zv.cells[p] := getElem!_pos zv.cells p hpz
       simp [List.getD, madeCells, hs, hlt, hzs, hmod, hget, Array.getElem?_eq_getElem hpz]
      rw [e1]
      exact ⟨himm p x hx, (hone.2 p x hx).2⟩
     ·cases hj
    ·refine slot_msl_new hD' (by omega) ?_
     rw [hlen]; exact Nat.le_refl _
   ·cases h
  ·cases h
 ·cases h
def bytesOf (s : List UInt8) : List (List AV) := s.map fun b => [.int .u8 b.toNat]
def hBytes (P : Program) (env : List AV) (objs : List (Nat × Obj)) (d : Nat) (S T : TypeId) (x : AV) : Option HR :=
 match look d objs, x with
 | none, .str s => if strTy P S = true ∧ byteSl P T = true ∧ s.length ≤ lim then some ⟨.msl d 1 0 s.length, env, (d, .arr 1 (bytesOf s)) :: objs⟩ else none
 | _, _ => none
theorem bytes_rows (w : World) (M : Nat → Prop) (s : List UInt8) (rest : List Value) : RowsOne w M 1 (bytesOf s) ((s.map fun b => Value.int .u8 b.toNat) ++ rest) := by
 refine ⟨by simp [bytesOf], fun j cs hj => ?_, fun j cs i x hj hx => ?_⟩
 ·simp only [bytesOf, List.getElem?_map] at hj
  obtain ⟨b, _, rfl⟩ := Option.map_eq_some_iff.1 hj
  rfl
 ·simp only [bytesOf, List.getElem?_map] at hj
  obtain ⟨b, hb, rfl⟩ := Option.map_eq_some_iff.1 hj
  cases i with
  | zero =>
   simp only [List.getElem?_cons_zero, Option.some.injEq] at hx; subst hx
   have hlt : j < s.length := (List.getElem?_eq_some_iff.1 hb).1
   have e : ((s.map fun b => Value.int .u8 b.toNat) ++ rest).getD (j * 1 + 0) undef = .int .u8 b.toNat := by
    have hbj : s[j] = b := (List.getElem?_eq_some_iff.1 hb).2
    simp [List.getD, List.getElem?_append, hlt, hbj]
   rw [e]
   exact ⟨.int _ _, rfl⟩
  | succ i => simp at hx
theorem freeze_alloc (w : World) (c : Array Value) (e : TypeId) (n : Nat) : (w.alloc (.cells c e)).freeze ⟨w.heap.size, n, none⟩ 1 = w.alloc (.cells c e (n, n + 1)) := by
 unfold World.freeze
 rw [if_neg (by decide)]
 show ({ w with heap := (w.heap.push (.cells c e)).modify w.heap.size _ } : World) = { w with heap := w.heap.push (.cells c e (n, n + 1)) }
 congr 1
 apply Array.ext
 ·simp
 ·intro i h1 h2
  simp only [Array.getElem_modify, Array.getElem_push]
  by_cases hi : i < w.heap.size
  ·have : ¬ w.heap.size = i := by omega
   simp [hi, this]
  ·have : w.heap.size = i := by simp at h2; omega
   simp [this]
theorem d_bytes {w0 w : World} {M0 : Nat → Prop} (hm : Mem w0 M0 objs D w) {a : Act} (he : EnvRep w D env a.tmps) {d : Nat} (hK : d < top) {S T : TypeId} {x : AV} {r : HR}
  (h : hBytes P env objs d S T x = some r) {v : Value} (hv : Slot w D x v) : Done P w0 M0 a w D objs (do pure (.value (← convert S T v))) r := by
 unfold hBytes at h
 split at h
 ·rename_i s hd
  split at h
  ·rename_i hc
   obtain ⟨hS, hT, hl⟩ := hc
   simp only [Option.some.injEq] at h; subst h
   obtain ⟨rfl, _⟩ := slot_str hv
   obtain ⟨e, hu, hue⟩ := byteSl_spec hT
   have hz : (⟨s.toArray⟩ : ByteArray).size = s.length := by simp [ByteArray.size]
   let cap := grownCap w s.length 0 e
   let vs : List Value := (s.map fun b => Value.int .u8 b.toNat) ++ List.replicate (cap - s.length) (.int .u8 0)
   have hcap : s.length ≤ cap := by simp only [cap, grownCap, Question.cut]; omega
   have hvl : vs.length = cap := by simp [vs]; omega
   have hrun : (convert S T (.string ⟨s.toArray⟩)).run P w = .ok (.slice (some ⟨w.heap.size, 0, none⟩) s.length cap) (w.drew.alloc (.cells vs.toArray e (vs.length, vs.length + 1))) := by
    have harr : ((⟨s.toArray⟩ : ByteArray).data.map fun b => Value.int .u8 b.toNat) ++ Array.replicate (cap - s.length) (.int .u8 0) = vs.toArray := by
     apply Array.ext'
     simp [vs]
    have hfz := freeze_alloc w.drew vs.toArray e vs.length
    simp only [convert, Sem.run_bind, run_underlying (strTy_spec hS), run_underlying hu, Result.andThen_ok, run_underlying hue, Conv.stringToBytes, run_choose_drew, hz, Question.forced, Bool.false_eq_true, if_false]
    have hcapE : (Question.appendCap s.length 0 e).cut (w.tape w.drawn (Question.appendCap s.length 0 e)) = cap := rfl
    rw [hcapE, harr]
    simp only [newRow, Sem.run_bind, run_newObj_alloc, Result.andThen_ok, Sem.run_pure, markStringish, run_shape]
    have hsh : (w.drew.alloc (.cells vs.toArray e)).shape? w.drew.heap.size = some (e, vs.length) := by
     simp only [World.shape?, alloc_at]; simp
    simp only [hsh, run_freeze, Result.andThen_ok]
    rw [hfz]
    rfl
   have hm' := hm.drew
   have he' : EnvRep w.drew D env a.tmps := he.mono ⟨⟨Nat.le_refl _, fun _ _ _ => rfl⟩, fun _ _ => rfl⟩ (fun _ _ h => h) hm.lt (fun _ _ h => h)
   refine done_arr (P := P) hm' he' hd hK (bytes_rows w.drew D.M s (List.replicate (cap - s.length) (.int .u8 0))) (by simpa [bytesOf] using hl) e (vs.length, vs.length + 1) (fun j hj hf => by have h1 : vs.length ≤ j := hf.1; have h2 : j < vs.length := hj; omega) _ (by rw [Sem.run_bind, hrun]; rfl) (fun D' hD' => ?_)
   have := slot_msl_new (w := w.drew) (T := e) (vs := vs) (fz := (vs.length, vs.length + 1)) (sz := 1) hD' hcap (by omega)
   exact this
  ·cases h
 ·cases h
def over (cs : List AV) (off : Nat) (us : List AV) : List AV := cs.take off ++ (us ++ cs.drop (off + us.length))
def hStore (P : Program) (env : List AV) (objs : List (Nat × Obj)) (T : TypeId) (x : Operand) (y : Operand) : Option HR :=
 match ev env x with
 | .ref n sz i off => match look n objs with
  | some (.box cs) => match cellTy P T, cellsOf (ev env y) with
   | some (_, k), some us => if i = 0 ∧ us.length = k ∧ off + k ≤ cs.length then some ⟨.und, env, upd n (.box (over cs off us)) objs⟩ else none
   | _, _ => none
  | some (.arr _ _) => match settle 8 [y] env objs with
   | some r => match look n r.2, cellTy P T, cellsOf (ev r.1 y), ev r.1 x with
    | some (.arr sz' l), some (_, k), some us, .ref n' sz'' i' off' => if sz = sz' ∧ i < l.length ∧ us.length = k ∧ off + k ≤ (l.getD i []).length ∧ us.all plainC = true ∧ n' = n ∧ sz'' = sz ∧ i' = i ∧ off' = off then
      some ⟨.und, r.1, upd n (.arr sz (l.set i (over (l.getD i []) off us))) r.2⟩ else none
    | _, _, _, _ => none
   | none => none
  | _ => none
 | _ => none
theorem cellTy_spec {T n : Nat} {g : Bool} (h : cellTy P T = some (g, n)) : ∃ i, P.info? T = some i ∧ i.size = n := by
 unfold cellTy at h
 split at h
 ·rename_i i _ hi; simp only [Option.some.injEq, Prod.mk.injEq] at h; exact ⟨i, hi, h.2⟩
 ·rename_i i _ hi; simp only [Option.some.injEq, Prod.mk.injEq] at h; exact ⟨i, hi, h.2⟩
 ·rename_i i _ _ _ hi; simp only [Option.some.injEq, Prod.mk.injEq] at h; exact ⟨i, hi, h.2⟩
 ·cases h
theorem run_storeAt {T k b o : Nat} {g : Bool} (ht : cellTy P T = some (g, k)) {v : Value} {vs : List Value} (hv : v.cells = vs.toArray) (hk : vs.length = k) {cur : List Value} {Te : TypeId} {fz : Nat × Nat}
  (hg : w.heap[b]? = some (.cells cur.toArray Te fz)) (hu : unfrozen fz cur.length) (hfit : o + k ≤ cur.length) (h1 : ∀ u ∈ vs, u.oneCell' = true) :
  (Instr.storeAt T (.pointer (some ⟨b, o, none⟩)) v).run P w = .ok () (w.setRow b (cur.take o ++ (vs ++ cur.drop (o + vs.length))).toArray) := by
 obtain ⟨i, hi, rfl⟩ := cellTy_spec ht
 have := run_storeCells_un (P := P) b Te fz vs o 0 cur.toArray w hg (by simpa using hu) (by simp; omega) h1
 simp only [Nat.add_zero] at this
 simp [Instr.storeAt, Instr.sureAddr, storeVar, sizeOf, typeInfo, hi, hv, hk, this]
theorem oneAll {cs : List AV} {vs : List Value} (h : CellsOne w D cs vs) : ∀ u ∈ vs, u.oneCell' = true := by
 intro u hu
 obtain ⟨i, hi, rfl⟩ := List.getElem_of_mem hu
 have hlt : i < cs.length := by rw [← h.1]; exact hi
 have := (h.2 i _ (List.getElem?_eq_getElem hlt)).2
 simpa [List.getD, List.getElem?_eq_getElem hi] using this
theorem d_store {w0 w : World} {M0 : Nat → Prop} (hm : Mem w0 M0 objs D w) {a : Act} (he : EnvRep w D env a.tmps) {T : TypeId} {x y : Operand} {r : HR}
  (h : hStore P env objs T x y = some r) : Done P w0 M0 a w D objs (do Instr.storeAt T (a.eval x) (a.eval y); pure .skip) r := by
 unfold hStore at h
 have hX := ev_sound hm.glob he x
 split at h
 ·rename_i n sz i off hx
  rw [hx] at hX
  split at h
  ·rename_i cs hl
   split at h
   ·rename_i g k us ht hus
    split at h
    ·rename_i hc
     obtain ⟨rfl, hk, hfit⟩ := hc
     simp only [Option.some.injEq] at h; subst h
     simp only [Slot, Val, Cell] at hX
     obtain ⟨b, hD, hp⟩ := hX
     obtain ⟨cur, Te, g1, g2, g3⟩ := hm.rep n _ _ hl hD
     obtain ⟨vs, hvs, hone⟩ := cellsOf_sound (ev_sound hm.glob he y) hus
     have hvk : vs.length = k := by rw [hone.1]; exact hk
     have hrun := run_storeAt (P := P) ht hvs hvk g1 (unfrozen_zero _) (o := off) (by rw [g2]; exact hfit) (oneAll hone)
     let new := cur.take off ++ (vs ++ cur.drop (off + vs.length))
     have hsz : new.toArray.size = cur.toArray.size := by simp [new]; omega
     have kN : Grow w (w.setRow b new.toArray) D.N := grow_setRow g1 hsz ⟨n, hm.small n (by simp [hl]), hD⟩
     have kg : Grow w (w.setRow b new.toArray) D.M := kN.weaken (fun _ _ h => Names.N_M h)
     have hcur : CellsOne w D cs cur := ⟨g2, g3⟩
     have hnew : CellsOne w D (over cs off us) new := by
      unfold over
      rw [hk, ← hvk]
      exact (hcur.take off).append (hone.append (hcur.drop (off + vs.length)))
     refine ⟨undef, w.setRow b new.toArray, D, .inr ⟨?_, rfl⟩, by simp only [Slot, Val, Cell]; exact .und, hm.upd hl hD kN (fun c hc => setRow_other w b c _ hc) ?_ rfl rfl rfl, he.mono kg (fun _ _ h => h) hm.lt (fun _ _ h => h), fun _ hp => hp.upd hl (.inl ⟨_, rfl⟩)⟩
     ·rw [hp]; simp only [Nat.zero_mul, Nat.zero_add, Sem.run_bind, hrun]; rfl
     ·exact ⟨new, Te, setRow_heap w b _ _ Te _ g1, hnew.1, fun j z hz => ⟨(hnew.2 j z hz).1.mono kg (fun _ _ h => h) hm.lt (fun _ _ h => h), (hnew.2 j z hz).2⟩⟩
    ·cases h
   ·cases h
  ·split at h
   ·rename_i q hq
    obtain ⟨D', hm', he', hpin⟩ := settle_sound _ 8 hm he hq
    split at h
    ·rename_i sz' l g k us n' sz'' i' off' hl ht hus hx'
     split at h
     ·rename_i hc
      obtain ⟨e1, hi, hk, hfit, hpl, e2, e3, e4, e5⟩ := hc
      subst e1
      rw [e2, e3, e4, e5] at hx'
      simp only [Option.some.injEq] at h; subst h
      have hX' := ev_sound hm'.glob he' x
      rw [hx'] at hX'
      simp only [Slot, Val, Cell] at hX'
      obtain ⟨b, hD, hp⟩ := hX'
      obtain ⟨cur, Te, fz, g1, g2, g3, g4, g5, g6⟩ := hm'.rep n _ _ hl hD
      obtain ⟨vs, hvs, hone⟩ := cellsOf_sound (ev_sound hm'.glob he' y) hus
      have hvk : vs.length = k := by rw [hone.1]; exact hk
      have hli : l[i]? = some (l.getD i []) := by simp [List.getD, List.getElem?_eq_getElem hi]
      have hrl := g5 i _ hli
      have hmul : (i + 1) * sz ≤ l.length * sz := Nat.mul_le_mul_right _ hi
      rw [Nat.add_mul, Nat.one_mul] at hmul
      have hrun := run_storeAt (P := P) ht hvs hvk g1 g2 (o := i * sz + off) (by omega) (oneAll hone)
      let new := cur.take (i * sz + off) ++ (vs ++ cur.drop (i * sz + off + vs.length))
      have hnl : new.length = cur.length := by simp [new]; omega
      have hsz : new.toArray.size = cur.toArray.size := by simp [hnl]
      have kN : Grow w (w.setRow b new.toArray) D'.N := grow_setRow g1 hsz ⟨n, hm'.small n (by simp [hl]), hD⟩
      have kg : Grow w (w.setRow b new.toArray) D'.M := kN.weaken (fun _ _ h => Names.N_M h)
      have hget : ∀ p, p < cur.length → new.getD p undef = if p < i * sz + off then cur.getD p undef else if p < i * sz + off + vs.length then vs.getD (p - (i * sz + off)) undef else cur.getD p undef := by
       intro p hp'
       simp only [new, List.getD, List.getElem?_append, List.length_take, List.getElem?_take, List.getElem?_drop]
       have hmin : min (i * sz + off) cur.length = i * sz + off := by omega
       rw [hmin]
       by_cases h1 : p < i * sz + off
       ·simp [h1]
       ·simp only [h1, if_false]
        by_cases h2 : p < i * sz + off + vs.length
        ·simp [h2, show p - (i * sz + off) < vs.length by omega]
        ·simp only [h2, if_false, show ¬ (p - (i * sz + off) < vs.length) by omega]
         congr 2; omega
      refine ⟨undef, w.setRow b new.toArray, D', .inr ⟨?_, rfl⟩, by simp only [Slot, Val, Cell]; exact .und, hm'.upd hl hD kN (fun c hc => setRow_other w b c _ hc) ?_ rfl rfl rfl, he'.mono kg (fun _ _ h => h) hm'.lt (fun _ _ h => h), fun D0 hp => (hpin D0 hp).upd hl (.inr (.inl ⟨_, _, rfl⟩))⟩
      ·rw [hp]; simp only [Sem.run_bind, hrun]; rfl
      ·have hol : (over (l.getD i []) off us).length = sz := by simp only [over, List.length_append, List.length_take, List.length_drop]; omega
       refine ⟨new, Te, fz, setRow_heap w b _ _ Te _ g1, by rw [hnl]; exact g2, by simpa using g3, by rw [hnl]; simpa using g4, fun j cs hj => ?_, fun j cs p z hj hz => ?_⟩
       ·rw [List.getElem?_set] at hj
        split at hj
        ·simp only [Option.some.injEq] at hj; rw [← hj]; exact hol
        ·exact g5 j cs hj
       ·have base : ∀ z (u : Value), Imm w D'.M z u → Imm (w.setRow b new.toArray) D'.M z u := fun z u hu => hu.mono kg.toKeep (fun _ _ h => h)
        rw [List.getElem?_set] at hj
        split at hj
        ·rename_i hij
         subst hij
         simp only [Option.some.injEq] at hj; subst hj
         have hp' : p < sz := by rw [← hol]; exact (List.getElem?_eq_some_iff.1 hz).1
         rw [hget _ (by omega)]
         simp only [over, List.getElem?_append, List.length_take, List.getElem?_take, List.getElem?_drop] at hz
         have hmin : min off (l.getD i []).length = off := by omega
         rw [hmin] at hz
         by_cases h1 : p < off
         ·simp only [h1, if_true] at hz
          rw [if_pos (by omega)]
          have := g6 i _ p z hli hz
          exact ⟨base _ _ this.1, this.2⟩
         ·simp only [h1, if_false] at hz
          rw [if_neg (by omega)]
          by_cases h2 : p - off < us.length
          ·simp only [h2, if_true] at hz
           rw [if_pos (by omega)]
           have := hone.2 _ z hz
           have hpz : plainC z = true := List.all_eq_true.1 hpl z (List.mem_of_getElem? hz)
           rw [show i * sz + p - (i * sz + off) = p - off by omega]
           exact ⟨base _ _ (plainC_imm this.1 hpz), this.2⟩
          ·simp only [h2, if_false] at hz
           rw [if_neg (by omega)]
           rw [show off + us.length + (p - off - us.length) = p by omega] at hz
           have := g6 i _ p z hli hz
           exact ⟨base _ _ this.1, this.2⟩
        ·rename_i hij
         have hjl : j < l.length := (List.getElem?_eq_some_iff.1 hj).1
         have hp' : p < sz := by rw [← g5 j cs hj]; exact (List.getElem?_eq_some_iff.1 hz).1
         have hmul2 : (j + 1) * sz ≤ l.length * sz := Nat.mul_le_mul_right _ hjl
         rw [Nat.add_mul, Nat.one_mul] at hmul2
         have := g6 j cs p z hj hz
         rw [hget _ (by omega)]
         have hne : j < i ∨ i < j := by omega
         rcases hne with hlt | hlt
         ·have hmul3 : (j + 1) * sz ≤ i * sz := Nat.mul_le_mul_right _ hlt
          rw [Nat.add_mul, Nat.one_mul] at hmul3
          rw [if_pos (by omega)]
          exact ⟨base _ _ this.1, this.2⟩
         ·have hmul3 : (i + 1) * sz ≤ j * sz := Nat.mul_le_mul_right _ hlt
          rw [Nat.add_mul, Nat.one_mul] at hmul3
          rw [if_neg (by omega), if_neg (by omega)]
          exact ⟨base _ _ this.1, this.2⟩
     ·cases h
    ·cases h
   ·cases h
  ·cases h
 ·cases h
end Go.Abs
namespace Go.Abs
open Go.RowKit
def srcRows (P : Program) (objs : List (Nat × Obj)) (T2 : TypeId) (sz : Nat) (y : AV) : Option (List (List AV)) :=
  match y with
  | .str s => if strTy P T2 = true ∧ sz = 1 then some (bytesOf s) else none
  | y => if (sliceElem P T2).isSome then viewSl objs sz y else none
def hAppend (P : Program) (env : List AV) (objs : List (Nat × Obj)) (d : Nat) (T T2 : TypeId) (x y : AV) : Option HR :=
  match sliceElem P T, (elemId P T).bind (sizeB P), (elemId P T).bind (zeroCells P) with
  | some sz, some by_, some z => match srcRows P objs T2 sz y with
    | some rows => match x with
      | .nsl => if look d objs = none ∧ rows.length ≤ lim ∧ rows.length * by_ ≤ lim ∧ z.length = sz then some ⟨.msl d sz 0 rows.length, env, (d, .arr sz rows) :: objs⟩ else none
      | .msl m sz' 0 len => match look m objs with
        | some (.arr sz'' l) => if sz' = sz ∧ sz'' = sz ∧ l.length = len ∧ look d (drop m objs) = none ∧ len + rows.length ≤ lim ∧ (len + rows.length) * by_ ≤ lim ∧ z.length = sz then
            some ⟨.msl d sz 0 (len + rows.length), env.map (mapS (kill m)), (d, .arr sz (l ++ rows)) :: mapO (kill m) (drop m objs)⟩ else none
        | _ => none
      | _ => none
    | none => none
  | _, _, _ => none
structure Src (P : Program) (w : World) (M : Nat → Prop) (sz : Nat) (l : List (List AV)) (v : Value) (news : List Value) : Prop where
  len : news.length = l.length * sz
  rows : RowsOne w M sz l news
  one : ∀ u ∈ news, u.oneCell' = true
  lenOf : ∀ w', (Builtin.lenOf v).run P w' = .ok l.length w'
  cells : ∀ w', w'.heap = w.heap → (Builtin.firstCells sz l.length v).run P w' = .ok news.toArray w'
theorem cell_heap {w w' : World} (h : w'.heap = w.heap) (a : Addr) : w'.cell? a = w.cell? a := by simp [World.cell?, h]
theorem src_slice {P : Program} {w : World} {D : Names} {sz : Nat} {l : List (List AV)} {v : Value} (h : SliceRep w D sz l v) : ∃ news, Src P w D.M sz l v news := by
  obtain ⟨a, cap, rfl, hcap, hlim, hcase⟩ := h
  rcases hcase with rfl | ⟨b, off, rfl, hb, hsz, f, hf⟩
  · refine ⟨[], by simp, ⟨by simp, by simp, by simp⟩, by simp, fun w' => by simp [Builtin.lenOf], fun w' _ => ?_⟩
    cases a <;> simp [Builtin.firstCells, loadCells, loadCellsFrom]
  · let news : List Value := (List.range (l.length * sz)).map fun k => f (k / sz) (k % sz)
    have hn : ∀ j i, j < l.length → i < sz → news.getD (j * sz + i) undef = f j i := by
      intro j i hj hi
      have hmul : (j + 1) * sz ≤ l.length * sz := Nat.mul_le_mul_right _ hj
      rw [Nat.add_mul, Nat.one_mul] at hmul
      have h1 : (j * sz + i) / sz = j := by rw [Nat.mul_comm, Nat.mul_add_div (by omega), Nat.div_eq_of_lt hi, Nat.add_zero]
      have h2 : (j * sz + i) % sz = i := by rw [Nat.mul_comm, Nat.mul_add_mod, Nat.mod_eq_of_lt hi]
      have h3 : j * sz + i < l.length * sz := by omega
      simp [news, List.getD, h3, h1, h2]
    have hk : ∀ k, k < l.length * sz → k / sz < l.length ∧ k % sz < sz ∧ k / sz * sz + k % sz = k := by
      intro k hk
      have hs0 : 0 < sz := by rcases Nat.eq_zero_or_pos sz with h | h; · rw [h] at hk; simp at hk
                              · exact h
      refine ⟨(Nat.div_lt_iff_lt_mul hs0).2 hk, Nat.mod_lt _ hs0, by rw [Nat.mul_comm]; exact Nat.div_add_mod k sz⟩
    have hcell : ∀ k, k < l.length * sz → w.cell? ⟨b, off + k, none⟩ = some (f (k / sz) (k % sz)) ∧ (f (k / sz) (k % sz)).oneCell' = true := by
      intro k hkl
      obtain ⟨g1, g2, g3⟩ := hk k hkl
      have hj := List.getElem?_eq_getElem g1
      have hi : k % sz < l[k / sz].length := by rw [hsz _ _ hj]; exact g2
      have := hf _ _ _ _ hj (List.getElem?_eq_getElem hi)
      rw [g3] at this
      exact ⟨this.1, this.2.1⟩
    refine ⟨news, by simp [news], ⟨by simp [news], hsz, fun j cs i x hj hx => ?_⟩, fun u hu => ?_, fun w' => by simp [Builtin.lenOf], fun w' hw' => ?_⟩
    · have hjl : j < l.length := (List.getElem?_eq_some_iff.1 hj).1
      have hi : i < sz := by rw [← hsz j cs hj]; exact (List.getElem?_eq_some_iff.1 hx).1
      rw [hn j i hjl hi]
      have := hf j cs i x hj hx
      exact ⟨this.2.2, this.2.1⟩
    · simp only [news, List.mem_map, List.mem_range] at hu
      obtain ⟨k, hkl, rfl⟩ := hu
      exact (hcell k hkl).2
    · simp only [Builtin.firstCells]
      rw [run_loadCells (P := P) w' ⟨b, off, none⟩ (l.length * sz) (fun k => f (k / sz) (k % sz)) (fun k hkl => by rw [addr_add, cell_heap hw']; exact (hcell k hkl).1)]
theorem src_str {P : Program} {w : World} {M : Nat → Prop} {s : List UInt8} : Src P w M 1 (bytesOf s) (.string ⟨s.toArray⟩) (s.map fun b => Value.int .u8 b.toNat) := by
  have hz : (⟨s.toArray⟩ : ByteArray).size = s.length := by simp [ByteArray.size]
  refine ⟨by simp [bytesOf], by simpa using bytes_rows w M s [], fun u hu => ?_, fun w' => by simp [Builtin.lenOf, hz, bytesOf], fun w' _ => ?_⟩
  · obtain ⟨b, _, rfl⟩ := List.mem_map.1 hu; rfl
  · have hx : ((⟨s.toArray⟩ : ByteArray).extract 0 s.length).data = s.toArray := by
      simp [ByteArray.data_extract]
    simp only [Builtin.firstCells, bytesOf, List.length_map, hx, Sem.run_pure]
    simp
theorem srcRows_sound {P : Program} {w0 w : World} {M0 : Nat → Prop} {D : Names} {objs : List (Nat × Obj)} (hm : Mem w0 M0 objs D w) {T2 : TypeId} {sz : Nat} {y : AV} {rows : List (List AV)} (h : srcRows P objs T2 sz y = some rows)
    {v : Value} (hv : Slot w D y v) : (∃ news, Src P w D.M sz rows v news) ∧ (P.underlying T2 = some .string ∨ ∃ e2, P.underlying T2 = some (.slice e2)) := by
  unfold srcRows at h
  split at h
  · split at h
    · rename_i hc
      obtain ⟨hT, rfl⟩ := hc
      simp only [Option.some.injEq] at h; subst h
      obtain ⟨rfl, _⟩ := slot_str hv
      exact ⟨⟨_, src_str⟩, .inl (strTy_spec hT)⟩
    · cases h
  · split at h
    · rename_i hT
      obtain ⟨s2, hs2⟩ := Option.isSome_iff_exists.1 hT
      obtain ⟨e, i, hu, _, _⟩ := sliceElem_spec hs2
      exact ⟨src_slice (viewSl_sound hm h hv), .inr ⟨_, hu⟩⟩
    · cases h
theorem run_append_in {P : Program} {w : World} {M : Nat → Prop} {T T2 ty e : TypeId} {i : TypeInfo} (hu : P.underlying T = some (.slice e)) (hi : P.info? e = some i) (hu2 : P.underlying T2 = some .string ∨ ∃ e2, P.underlying T2 = some (.slice e2))
    {l : List (List AV)} {v : Value} {news : List Value} (hs : Src P w M i.size l v news) (a : Option Addr) (sLen sCap : Nat) (hroom : sLen + l.length ≤ sCap) :
    (Builtin.append_ #[T, T2] ty #[.slice a sLen sCap, v]).run P w = match a with
      | some a => ((storeCells (a.add (sLen * i.size)) news).run P w).andThen fun _ w => .ok (.slice (some a) (sLen + l.length) sCap) w
      | none => .ok (.slice none (sLen + l.length) sCap) w := by
  have hl := hs.lenOf w
  have hc := hs.cells w rfl
  rcases hu2 with hu2 | ⟨e2, hu2⟩ <;> cases a <;> simp [Builtin.append_, run_underlying hu, run_underlying hu2, sizeOf, typeInfo, hi, hl, hroom, hc]
theorem run_append_out {P : Program} {w : World} {M : Nat → Prop} {T T2 ty e : TypeId} {i : TypeInfo} (hu : P.underlying T = some (.slice e)) (hi : P.info? e = some i) (hu2 : P.underlying T2 = some .string ∨ ∃ e2, P.underlying T2 = some (.slice e2))
    {z : Value} (hz : i.zero = some z) {l : List (List AV)} {v : Value} {news : List Value} (hs : Src P w M i.size l v news) (a : Option Addr) (sLen sCap : Nat) (hroom : ¬ sLen + l.length ≤ sCap) (hlim : sLen + l.length ≤ lim)
    (hby : (sLen + l.length) * i.bytes ≤ lim) {olds : List Value} (hold : (Builtin.firstCells i.size sLen (.slice a sLen sCap)).run P w.drew = .ok olds.toArray w.drew) :
    ∃ cap rest, sLen + l.length ≤ cap ∧ rest = Builtin.zeroCells z.cells (cap - (sLen + l.length)) ∧ (Builtin.append_ #[T, T2] ty #[.slice a sLen sCap, v]).run P w =
      .ok (.slice (some ⟨w.heap.size, 0, none⟩) (sLen + l.length) cap) (w.drew.alloc (.cells (olds ++ (news ++ rest.toList)).toArray e)) := by
  refine ⟨grownCap w (sLen + l.length) sCap e, _, by simp only [grownCap, Question.cut]; omega, rfl, ?_⟩
  have hl := hs.lenOf w
  have hc := hs.cells w.drew rfl
  have h63' : ¬ (9223372036854775807 < ((sLen : Int) + (l.length : Int))) := by simp only [lim] at hlim; omega
  have hfit := growslice_fits (need := sLen + l.length) (old := sCap) (bytes := i.bytes) (by omega) (by simpa only [lim] using hby)
  have h48' : ¬ (281474976710656 < Builtin.nextslicecap (sLen + l.length) sCap * i.bytes) := by omega
  rcases hu2 with hu2 | ⟨e2, hu2⟩ <;> simp [Builtin.append_, run_underlying hu, run_underlying hu2, sizeOf, typeInfo, zeroValue, hi, hz, hl, hroom, h63', h48', Question.forced, hold, hc, newRow, grownCap] <;> (congr 2; apply Array.ext'; simp)
theorem step_conds {w0 w : World} {M0 : Nat → Prop} {D : Names} {objs : List (Nat × Obj)} (hm : Mem w0 M0 objs D w) {m d : Nat} {y : Option Nat} (hd : look d (drop m objs) = none) (hK : d < top)
    (hy : ∀ b, y = some b → w.heap.size ≤ b ∨ D m = some (some b)) :
    (∀ n e, n ≠ m → D n = some e → ((D.del m).ins d y) n = some e) ∧ (∀ b, b < w.heap.size → ((D.del m).ins d y).M b → D.M b) := by
  refine ⟨fun n e hne hn => ?_, ?_⟩
  · by_cases h : n = d
    · subst h
      rw [look_drop_ne (Ne.symm hne)] at hd
      rw [hm.fresh hd hK] at hn; cases hn
    · simp only [Names.ins, h, if_false, Names.del, hne]; exact hn
  · rintro b hb ⟨n, hn⟩
    unfold Names.ins at hn
    split at hn
    · simp only [Option.some.injEq] at hn
      rcases hy b hn with h | h
      · omega
      · exact ⟨m, h⟩
    · exact Names.del_M ⟨n, hn⟩
theorem Mem.virt {w0 w : World} {M0 : Nat → Prop} {D : Names} {objs : List (Nat × Obj)} (hm : Mem w0 M0 objs D w) {d sz : Nat} (hd : look d objs = none) (hK : d < top) :
    Mem w0 M0 ((d, .arr sz []) :: objs) (D.ins d none) w ∧ (∀ n e, D n = some e → (D.ins d none) n = some e) ∧ (∀ b, (D.ins d none).M b → D.M b) := by
  obtain ⟨c1, c2⟩ := carry_ins (w := w) (x := none) (hm.fresh hd hK) (fun b h => by cases h)
  have c3 : ∀ b, (D.ins d none).M b → D.M b := by
    rintro b ⟨n, hn⟩
    unfold Names.ins at hn
    split at hn
    · cases hn
    · exact ⟨n, hn⟩
  have c4 : ∀ b, (D.ins d none).N b → D.N b := by
    rintro b ⟨n, hK, hn⟩
    unfold Names.ins at hn
    split at hn
    · cases hn
    · exact ⟨n, hK, hn⟩
  refine ⟨⟨fun n hn => ?_, fun n hn => ?_, fun n ob e hl hn => ?_, fun n p b h1 h2 => ?_, fun b hb => hm.lt b (c3 b hb), fun b hb => hm.own b (c4 b hb), hm.grow, hm.os, hm.tape, hm.output, hm.glob.mono (Grow.refl w _).toKeep fun b _ h => c3 b h⟩, c1, c3⟩
  · unfold Names.ins
    by_cases h : n = d
    · subst h; simp [look]
    · simp only [h, if_false, look, if_neg (Ne.symm h)]; exact hm.dom n hn
  · by_cases h : n = d
    · subst h; exact hK
    · simp only [look, if_neg (Ne.symm h)] at hn; exact hm.small n hn
  · by_cases h : n = d
    · subst h
      simp only [look, if_true, Option.some.injEq] at hl
      subst hl
      simp only [Names.ins, if_true, Option.some.injEq] at hn
      subst hn
      rfl
    · simp only [look, if_neg (Ne.symm h)] at hl
      simp only [Names.ins, h, if_false] at hn
      exact (hm.rep n ob e hl hn).mono (Grow.refl w _) c1 hm.lt c2 (fun _ _ => rfl)
  · unfold Names.ins at h1 h2
    split at h1
    · cases h1
    · split at h2
      · cases h2
      · exact hm.inj n p b h1 h2
theorem RowsOne.append {w : World} {M : Nat → Prop} {sz : Nat} {l k : List (List AV)} {vs us rest : List Value} (h : RowsOne w M sz l vs) (hl : vs.length = l.length * sz) (g : RowsOne w M sz k us) : RowsOne w M sz (l ++ k) (vs ++ (us ++ rest)) := by
  refine ⟨?_, fun j cs hj => ?_, fun j cs i x hj hx => ?_⟩
  · simp only [List.length_append, Nat.add_mul]
    have := g.1
    omega
  · rw [List.getElem?_append] at hj
    split at hj
    · exact h.2.1 j cs hj
    · exact g.2.1 _ cs hj
  · rw [List.getElem?_append] at hj
    split at hj
    · rename_i hjl
      have hi : i < sz := by rw [← h.2.1 j cs hj]; exact (List.getElem?_eq_some_iff.1 hx).1
      have hmul : (j + 1) * sz ≤ l.length * sz := Nat.mul_le_mul_right _ hjl
      rw [Nat.add_mul, Nat.one_mul] at hmul
      have e : (vs ++ (us ++ rest)).getD (j * sz + i) undef = vs.getD (j * sz + i) undef := by
        have : j * sz + i < vs.length := by omega
        simp [List.getD, List.getElem?_append, this]
      rw [e]; exact h.2.2 j cs i x hj hx
    · rename_i hjl
      have hi : i < sz := by rw [← g.2.1 _ cs hj]; exact (List.getElem?_eq_some_iff.1 hx).1
      have hjk : j - l.length < k.length := (List.getElem?_eq_some_iff.1 hj).1
      have hmul : (j - l.length + 1) * sz ≤ k.length * sz := Nat.mul_le_mul_right _ hjk
      rw [Nat.add_mul, Nat.one_mul] at hmul
      have hg1 := g.1
      have hsub : j * sz = l.length * sz + (j - l.length) * sz := by rw [← Nat.add_mul]; congr 1; omega
      have e : (vs ++ (us ++ rest)).getD (j * sz + i) undef = us.getD ((j - l.length) * sz + i) undef := by
        have h1 : ¬ j * sz + i < vs.length := by omega
        have h2 : j * sz + i - vs.length = (j - l.length) * sz + i := by omega
        have h3 : (j - l.length) * sz + i < us.length := by omega
        simp [List.getD, List.getElem?_append, h1, h2, h3]
      rw [e]; exact g.2.2 _ cs i x hj hx
theorem RowsOne.mono {w w' : World} {M M' : Nat → Prop} {sz : Nat} {l : List (List AV)} {vs : List Value} (h : RowsOne w M sz l vs) (k : Keep w w' M) (hM : ∀ b, b < w.heap.size → M' b → M b) : RowsOne w' M' sz l vs :=
  ⟨h.1, h.2.1, fun j cs i x hj hx => ⟨(h.2.2 j cs i x hj hx).1.mono k hM, (h.2.2 j cs i x hj hx).2⟩⟩
theorem RowsOne.take {w : World} {M : Nat → Prop} {sz : Nat} {l : List (List AV)} {vs : List Value} (h : RowsOne w M sz l vs) : RowsOne w M sz l (vs.take (l.length * sz)) ∧ (vs.take (l.length * sz)).length = l.length * sz := by
  have h1 : (vs.take (l.length * sz)).length = l.length * sz := by simp [h.1]
  refine ⟨⟨by rw [h1]; exact Nat.le_refl _, h.2.1, fun j cs i x hj hx => ?_⟩, h1⟩
  have hjl : j < l.length := (List.getElem?_eq_some_iff.1 hj).1
  have hi : i < sz := by rw [← h.2.1 j cs hj]; exact (List.getElem?_eq_some_iff.1 hx).1
  have hmul : (j + 1) * sz ≤ l.length * sz := Nat.mul_le_mul_right _ hjl
  rw [Nat.add_mul, Nat.one_mul] at hmul
  have e : (vs.take (l.length * sz)).getD (j * sz + i) undef = vs.getD (j * sz + i) undef := by
    have : j * sz + i < l.length * sz := by omega
    simp [List.getD, this]
  rw [e]; exact h.2.2 j cs i x hj hx
theorem rows_nil (w : World) (M : Nat → Prop) (sz : Nat) (vs : List Value) : RowsOne w M sz [] vs := ⟨by simp, by simp, by simp⟩
theorem grow_drew_alloc (w : World) (o : _root_.Go.Obj) (M : Nat → Prop) : Grow w (w.drew.alloc o) M :=
  Grow.trans (N := M) (b := w.drew) ⟨⟨Nat.le_refl _, fun _ _ _ => rfl⟩, fun _ _ => rfl⟩ (grow_alloc w.drew o M) (fun _ _ h => h)
theorem d_append {P : Program} {w0 w : World} {M0 : Nat → Prop} {D : Names} {objs : List (Nat × Obj)} (hm : Mem w0 M0 objs D w) {env : List AV} {a : Act} (he : EnvRep w D env a.tmps) {d : Nat} (hK : d < top) {T T2 ty : TypeId} {x y : AV} {r : HR}
    (h : hAppend P env objs d T T2 x y = some r) {v u : Value} (hv : Slot w D x v) (hu : Slot w D y u) : Done P w0 M0 a w D objs (do pure (.value (← Builtin.append_ #[T, T2] ty #[v, u]))) r := by
  unfold hAppend at h
  split at h
  · rename_i sz by_ z hsz hby hz
    obtain ⟨e, i, he1, hut, hi, hs⟩ := elemId_spec hsz
    rw [he1] at hby hz
    have hbe : i.bytes = by_ := by simpa [sizeB, hi] using hby
    obtain ⟨i', zv, hi', hzv, hzone, _⟩ := cellsOne_zero w D hz
    rw [hi] at hi'; cases hi'
    subst hs
    split at h
    · rename_i rows hrows
      obtain ⟨⟨news, hsrc⟩, hu2⟩ := srcRows_sound hm hrows hu
      have hdrew : EnvRep w.drew D env a.tmps := he.mono ⟨⟨Nat.le_refl _, fun _ _ _ => rfl⟩, fun _ _ => rfl⟩ (fun _ _ h => h) hm.lt (fun _ _ h => h)
      have hrd : RowsOne w.drew D.M i.size rows news := hsrc.rows.mono ⟨Nat.le_refl _, fun _ _ _ => rfl⟩ (fun _ _ h => h)
      split at h
      ·
        split at h
        · rename_i hc
          obtain ⟨hd, hl1, hl2, hzl⟩ := hc
          simp only [Option.some.injEq] at h; subst h
          rw [slot_nsl hv]
          by_cases hr0 : rows.length = 0
          · have hrn : rows = [] := List.eq_nil_of_length_eq_zero hr0
            have hrun := run_append_in (ty := ty) hut hi hu2 hsrc none 0 0 (by omega)
            obtain ⟨m1, m2, m3⟩ := hm.virt (sz := i.size) hd hK
            subst hrn
            refine ⟨.slice none 0 0, w, D.ins d none, .inl (by rw [Sem.run_bind, hrun]; rfl), by simp only [Slot, Val, Cell]; exact .inl ⟨by simp [ins_self], rfl, none, rfl⟩, m1, ?_⟩
            exact ⟨he.mono (Grow.refl w _) m2 hm.lt (fun b _ hb => m3 b hb), fun _ hp => hp.ins (hm.fresh hd hK) _ _⟩
          · obtain ⟨cap, rest, hcap, _, hrun⟩ := run_append_out (ty := ty) (olds := []) hut hi hu2 hzv hsrc none 0 0 (by omega) (by omega) (by rw [hbe]; simpa using hl2) (by simp [Builtin.firstCells])
            simp only [Nat.zero_add, List.nil_append] at hrun hcap
            refine done_arr hm.drew hdrew hd hK (vs := news ++ rest.toList) ?_ hl1 e (0, 0) (unfrozen_zero _) _ (by rw [Sem.run_bind, hrun]; rfl) (fun D' hD' => ?_)
            · have := RowsOne.append (rest := rest.toList) (rows_nil w.drew D.M i.size []) (by simp) hrd
              simpa using this
            · refine slot_msl_new (w := w.drew) hD' hcap ?_
              have h1 := hsrc.len
              simp only [List.length_append, Array.length_toList]
              have h2 : rest.size = (cap - rows.length) * i.size := by
                rename_i hre
                rw [hre, size_zeroCells]
                congr 1
                · simp
                · have := hzone.1; simp at this; omega
              rw [h1, h2, ← Nat.add_mul]
              exact Nat.mul_le_mul_right _ (by omega)
        · cases h
      ·
        rename_i m sz' len
        split at h
        · rename_i sz'' l hl
          split at h
          · rename_i hc
            obtain ⟨rfl, rfl, rfl, hd, hl1, hl2, hzl⟩ := hc
            simp only [Option.some.injEq] at h; subst h
            have hzs : zv.cells.size = i.size := by have := hzone.1; simp at this; omega
            have fin : ∀ {w' : World} {y : Option Nat} {vv : Value} (hrun : (Builtin.append_ #[T, T2] ty #[v, u]).run P w = .ok vv w') (kN : Grow w w' D.N)
                (hy : ∀ b, y = some b → b < w'.heap.size ∧ (w.heap.size ≤ b ∨ D m = some (some b))) (hoth : ∀ b, D.M b → D m ≠ some (some b) → w'.heap[b]? = w.heap[b]?)
                (hrep : ∀ D', (∀ b, b < w.heap.size → D'.M b → D.M b) → ObjRep w' D' (.arr i.size (l ++ rows)) y) (hos : w'.os = w.os) (htape : w'.tape = w.tape) (hout : w'.output = w.output)
                (hslot : ∀ D' : Names, D' d = some y → Slot w' D' (.msl d i.size 0 (l.length + rows.length)) vv),
                Done P w0 M0 a w D objs (do pure (.value (← Builtin.append_ #[T, T2] ty #[v, u]))) ⟨.msl d i.size 0 (l.length + rows.length), env.map (mapS (kill m)), (d, .arr i.size (l ++ rows)) :: mapO (kill m) (drop m objs)⟩ := by
              intro w' y vv hrun kN hy hoth hrep hos htape hout hslot
              have k : Grow w w' D.M := kN.weaken (fun _ _ h => Names.N_M h)
              have hmK : m < top := hm.small m (by simp [hl])
              obtain ⟨c1, c2⟩ := step_conds hm hd hK (fun b hb => (hy b hb).2)
              have c := carry_kill' (D' := (D.del m).ins d y) k hm.lt c1 c2
              refine ⟨vv, w', (D.del m).ins d y, .inl (by rw [Sem.run_bind, hrun]; rfl), hslot _ (ins_self _ _ _), hm.step hd hK c kN (fun _ _ => hmK) hy hoth (hrep _ c2) hos htape hout, c.env he, fun D0 hp => ?_⟩
              have hp2 := hp.letgo hl hmK (kill m)
              refine hp2.ins ?_ y _
              unfold Names.del
              split
              · rfl
              · rename_i hne
                exact hm.fresh (by rw [← look_drop_ne (Ne.symm hne)]; exact hd) hK
            have growOut : ∀ (olds : List Value) (cap : Nat) (rest : Array Value), RowsOne w D.M i.size l olds → olds.length = l.length * i.size → l.length + rows.length ≤ cap → rest = Builtin.zeroCells zv.cells (cap - (l.length + rows.length)) →
                (Builtin.append_ #[T, T2] ty #[v, u]).run P w = .ok (.slice (some ⟨w.heap.size, 0, none⟩) (l.length + rows.length) cap) (w.drew.alloc (.cells (olds ++ (news ++ rest.toList)).toArray e)) →
                Done P w0 M0 a w D objs (do pure (.value (← Builtin.append_ #[T, T2] ty #[v, u]))) ⟨.msl d i.size 0 (l.length + rows.length), env.map (mapS (kill m)), (d, .arr i.size (l ++ rows)) :: mapO (kill m) (drop m objs)⟩ := by
              intro olds cap rest hro hlo hcap hre hrun
              have hrest : rest.size = (cap - (l.length + rows.length)) * i.size := by rw [hre, size_zeroCells, hzs]
              have hn := hsrc.len
              have hlen : (olds ++ (news ++ rest.toList)).length = cap * i.size := by
                simp only [List.length_append, Array.length_toList, hlo, hn, hrest]
                rw [← Nat.add_mul, ← Nat.add_mul]; congr 1; omega
              have kg : Grow w (w.drew.alloc (.cells (olds ++ (news ++ rest.toList)).toArray e)) D.M := grow_drew_alloc w _ D.M
              refine fin (y := some w.heap.size) hrun (grow_drew_alloc w _ D.N) (fun b hb => by cases hb; exact ⟨by rw [alloc_size]; exact Nat.lt_succ_self _, .inl (Nat.le_refl _)⟩)
                (fun b hb _ => Below.heap_alloc w.drew _ b (hm.lt b hb)) (fun D' hM => ?_) rfl rfl rfl (fun D' hD' => ?_)
              · have hr := RowsOne.append (rest := rest.toList) hro hlo hsrc.rows
                have hr' := hr.mono kg.toKeep hM
                exact ⟨_, e, (0, 0), alloc_at w.drew _, unfrozen_zero _, by simpa using hl1, hr'.1, hr'.2.1, hr'.2.2⟩
              · exact slot_msl_new (w := w.drew) hD' hcap (by rw [hlen]; exact Nat.le_refl _)
            simp only [Slot, Val, Cell] at hv
            rcases hv with ⟨hsome, hlen0, ao, rfl⟩ | ⟨b, cap, N, hD, rfl, hcapl, hrow, hroom⟩
            · have hl0 : l = [] := List.eq_nil_of_length_eq_zero hlen0
              subst hl0
              simp only [List.length_nil] at *
              by_cases hr0 : rows.length = 0
              · have hrn : rows = [] := List.eq_nil_of_length_eq_zero hr0
                subst hrn
                have hnews : news = [] := List.eq_nil_of_length_eq_zero (by have := hsrc.len; simpa using this)
                have hrun := run_append_in (ty := ty) hut hi hu2 hsrc ao 0 0 (by simp)
                have hrun' : (Builtin.append_ #[T, T2] ty #[.slice ao 0 0, u]).run P w = .ok (.slice ao 0 0) w := by
                  rw [hrun, hnews]; cases ao <;> simp [storeCells]
                exact fin (y := none) hrun' (Grow.refl w _) (fun b hb => by cases hb) (fun _ _ _ => rfl) (fun D' _ => rfl) rfl rfl rfl (fun D' hD' => by simp only [Slot, Val, Cell]; exact .inl ⟨by simp [hD'], rfl, ao, rfl⟩)
              · obtain ⟨cap, rest, hcap, hre, hrun⟩ := run_append_out (ty := ty) (olds := []) hut hi hu2 hzv hsrc ao 0 0 (by omega) (by omega) (by rw [hbe]; exact hl2) (by cases ao <;> simp [Builtin.firstCells, loadCells, loadCellsFrom])
                exact growOut [] cap rest (rows_nil _ _ _ _) (by simp) hcap hre hrun
            · obtain ⟨cur, Te, fz, g1, g2, g3, g4, g5, g6⟩ := hm.rep m _ _ hl hD
              have hN : N = cur.length := by
                simp [World.row, World.shape?, g1] at hrow; exact hrow.symm
              subst hN
              rw [Nat.zero_mul] at *
              rw [Nat.zero_add] at hroom
              have hcurR : RowsOne w D.M i.size l cur := ⟨g4, g5, g6⟩
              obtain ⟨htR, htl⟩ := hcurR.take
              by_cases hfit : l.length + rows.length ≤ cap
              · have hrun := run_append_in (ty := ty) hut hi hu2 hsrc (some ⟨b, 0, none⟩) l.length cap hfit
                have hn := hsrc.len
                have hspace : l.length * i.size + news.length ≤ cur.length := by
                  have : (l.length + rows.length) * i.size ≤ cap * i.size := Nat.mul_le_mul_right _ hfit
                  rw [Nat.add_mul] at this; omega
                have hst := run_storeCells_un (P := P) b Te fz news (0 + l.length * i.size) 0 cur.toArray w g1 (by simpa using g2) (by simp; omega) hsrc.one
                simp only [addr_add, Nat.zero_add] at hrun
                simp only [Nat.zero_add, Nat.add_zero] at hst
                rw [hst, Result.andThen_ok] at hrun
                let new := cur.take (l.length * i.size) ++ (news ++ cur.drop (l.length * i.size + news.length))
                have hnl : new.length = cur.length := by simp [new]; omega
                have kN : Grow w (w.setRow b new.toArray) D.N := grow_setRow g1 (by simp [hnl]) ⟨m, hm.small m (by simp [hl]), hD⟩
                have kg : Grow w (w.setRow b new.toArray) D.M := kN.weaken (fun _ _ h => Names.N_M h)
                refine fin (y := some b) hrun kN (fun c hc => by cases hc; exact ⟨by rw [setRow_size]; exact hm.lt b ⟨m, hD⟩, .inr hD⟩) (fun c _ hne => setRow_other w b c _ (fun e => hne (by rw [hD, e]))) (fun D' hM => ?_) rfl rfl rfl (fun D' hD' => ?_)
                · have hr := RowsOne.append (rest := cur.drop (l.length * i.size + news.length)) htR htl hsrc.rows
                  have hr' := hr.mono kg.toKeep hM
                  exact ⟨new, Te, fz, setRow_heap w b _ _ Te _ g1, by rw [hnl]; exact g2, by simpa using hl1, hr'.1, hr'.2.1, hr'.2.2⟩
                · simp only [Slot, Val, Cell]
                  exact .inr ⟨b, cap, cur.length, hD', by simp, hfit, by rw [kg.row b (hm.lt b ⟨m, hD⟩)]; simp [World.row, World.shape?, g1], by simpa using hroom⟩
              · have hload : (Builtin.firstCells i.size l.length (.slice (some ⟨b, 0, none⟩) l.length cap)).run P w.drew = .ok (cur.take (l.length * i.size)).toArray w.drew := by
                  refine run_firstCells_some w.drew i.size l.length ⟨b, 0, none⟩ l.length cap _ htl (fun j vv hj => ?_)
                  have hce : w.drew.cell? ⟨b, j, none⟩ = w.cell? ⟨b, j, none⟩ := rfl
                  rw [addr_add, Nat.zero_add, hce]
                  rw [List.getElem?_take] at hj
                  split at hj
                  · rename_i hjl
                    have hjc : j < cur.length := by omega
                    rw [world_cell g1 hjc]
                    simp [List.getD, hj]
                  · cases hj
                obtain ⟨cap', rest, hcap', hre, hrun⟩ := run_append_out (ty := ty) hut hi hu2 hzv hsrc (some ⟨b, 0, none⟩) l.length cap hfit (by omega) (by rw [hbe]; exact hl2) hload
                exact growOut _ cap' rest htR htl hcap' hre hrun
          · cases h
        · cases h
      · cases h
    · cases h
  · cases h
end Go.Abs
namespace Go.Abs
open Go.RowKit
def hOp (P : Program) (env : List AV) (objs : List (Nat × Obj)) (dst : Option Tmp) (o : Op) : Option HR :=
 match o, dst with
 | .store T x y, none => hStore P env objs T x y
 | .box _ x, some d => if d < top then hBox env objs d (ev env x) else none
 | .alloc T, some d => if d < top then hAlloc P env objs d T else none
 | .buildSlice T len parts, some d => if d < top then hBuildSlice P env objs d T len parts.toList else none
 | .makeSlice T l c, some d => if d < top then hMake P env objs d T (ev env l) (ev env c) else none
 | .convert S T x, some d => if d < top then hBytes P env objs d S T (ev env x) else none
 | .call { callee := .builtin .append, args, argTypes }, some d => if d < top then
   (match args.toList, argTypes.toList with
   | [x, y], [T, T2] => hAppend P env objs d T T2 (ev env x) (ev env y)
   | _, _ => none) else none
 | _, _ => none
theorem hOp_sound {P : Program} {w0 w : World} {M0 : Nat → Prop} {D : Names} {objs : List (Nat × Obj)} (hm : Mem w0 M0 objs D w) {env : List AV} {a : Act} (he : EnvRep w D env a.tmps) {o : Oper} {r : HR}
  (h : hOp P env objs o.dst o.op = some r) : Done P w0 M0 a w D objs (execOp a.eval o) r := by
 have eqv : ∀ {s t : Sem Next}, t = s → Done P w0 M0 a w D objs s r → Done P w0 M0 a w D objs t r := fun e h => e ▸ h
 unfold hOp at h
 split at h
 ·rename_i T x y hop hdst
  exact eqv (by simp [execOp, hop]) (d_store hm he h)
 ·rename_i T x d hop hdst
  split at h
  ·rename_i hK
   exact eqv (by simp [execOp, hop]) (d_box hm he hK h (ev_sound hm.glob he x) T)
  ·cases h
 ·rename_i T d hop hdst
  split at h
  ·rename_i hK
   exact eqv (by simp [execOp, hop]) (d_alloc hm he hK h)
  ·cases h
 ·rename_i T len parts d hop hdst
  split at h
  ·rename_i hK
   exact eqv (by simp [execOp, hop]) (d_buildSlice hm he hK h)
  ·cases h
 ·rename_i T l c d hop hdst
  split at h
  ·rename_i hK
   exact eqv (by simp [execOp, hop]) (d_make hm he hK h (ev_sound hm.glob he l) (ev_sound hm.glob he c))
  ·cases h
 ·rename_i S T x d hop hdst
  split at h
  ·rename_i hK
   exact eqv (by simp [execOp, hop]) (d_bytes hm he hK h (ev_sound hm.glob he x))
  ·cases h
 ·rename_i args argTypes d hop hdst
  split at h
  ·rename_i hK
   split at h
   ·rename_i x y T T2 hA hT
    have e1 : args = #[x, y] := by apply Array.ext'; simpa using hA
    have e2 : argTypes = #[T, T2] := by apply Array.ext'; simpa using hT
    subst e1; subst e2
    exact eqv (by simp [execOp, hop, resolve, invoke, builtin]) (d_append (ty := o.type) hm he hK h (ev_sound hm.glob he x) (ev_sound hm.glob he y))
   ·cases h
  ·cases h
 ·cases h
def rn : Nat := 999999
structure CR where
 x : AV
 os : List (Nat × Obj) := []
 new : Option Obj := none
def CR.objs (r : CR) : List (Nat × Obj) := match r.new with | some o => (rn, o) :: r.os | none => r.os
def ArgsRep (w : World) (D : Names) (args : List AV) (vs : List Value) : Prop := vs.length = args.length ∧ ∀ (i : Nat) (x : AV), args[i]? = some x → Slot w D x (vs.getD i undef)
def funOk (P : Program) (f : FuncId) : Bool := match P.funcs[f]? with | some fn => !(fn.name == "runtime.NumGoroutine") && fn.body.isSome | none => false
abbrev Table := FuncId → List AV → List (Nat × Obj) → Option CR
def Contract (P : Program) (f : FuncId) (args : List AV) (os : List (Nat × Obj)) (r : CR) : Prop :=
 ∀ (w : World) (D : Names) (vs : List Value), Mem w D.N os D w → ArgsRep w D args vs →
  Calls P f vs.toArray w fun e w' => ∃ v D', e = .returned v ∧ Mem w D.N r.objs D' w' ∧ Slot w' D' r.x v ∧ ∀ n d, D n = some d → D' n = some d
def Sound (P : Program) (Φ : Table) : Prop := ∀ f args os r, Φ f args os = some r → funOk P f = true ∧ Contract P f args os r
def groundC : AV → Bool
 | .int _ _ | .bool _ | .str _ => true
 | _ => false
def ground : AV → Bool
 | .agg l => l.all groundC
 | .tup l => l.all fun x => match x with | .agg l => l.all groundC | x => groundC x
 | x => groundC x
def nfC : AV → Bool
 | .msl _ _ _ _ | .ref _ _ _ _ | .wrp _ _ => false
 | _ => true
def nfV : AV → Bool
 | .agg l => l.all nfC
 | x => nfC x
def nf : AV → Bool
 | .tup l => l.all nfV
 | x => nfV x
def lendC (objs : List (Nat × Obj)) : AV → Option AV
 | .msl n sz off len => (viewSl objs sz (.msl n sz off len)).map (.sl sz)
 | x => some x
def lend (objs : List (Nat × Obj)) (x : AV) : Option AV :=
 match x with
 | .agg l => (l.mapM (lendC objs)).map .agg
 | x => lendC objs x
def argOk : AV → Bool
 | .ref _ _ i off => i == 0 && off == 0
 | .agg l => l.all nfC
 | x => nf x
def refsOf (xs : List AV) : List Nat := xs.filterMap fun x => match x with | .ref n _ 0 0 => some n | _ => none
def lookAll (ns : List Nat) (objs : List (Nat × Obj)) : List (Nat × Obj) := ns.filterMap fun n => (look n objs).map fun o => (n, o)
def updAll : List (Nat × Obj) → List (Nat × Obj) → List (Nat × Obj)
 | [], objs => objs
 | (n, o) :: r, objs => updAll r (upd n o objs)
def boxesOk : List (Nat × Obj) → Bool
 | [] => true
 | (_, .box cs) :: r => cs.all plainC && boxesOk r
 | _ => false
def newOk (x : AV) : Option Obj → Bool
 | none => nf x
 | some (.arr sz l) => match x with | .msl n s off len => n == rn && s == sz && off == 0 && len == l.length | _ => false
 | some (.box cs) => (match x with | .ref n s i off => n == rn && s == cs.length && i == 0 && off == 0 | _ => false) && cs.all plainC
 | some (.mp _ _ _) => false
def rename (d : Nat) : AV → AV
 | .msl n sz off len => if n = rn then .msl d sz off len else .msl n sz off len
 | .ref n sz i off => if n = rn then .ref d sz i off else .ref n sz i off
 | x => x
def cLend (Φ : Table) (env : List AV) (objs : List (Nat × Obj)) (f : FuncId) (xs : List Operand) : Option HR :=
 match (xs.map (ev env)).mapM (lend objs) with
 | some as => if as.all nf = true then (match Φ f as [] with
  | some ⟨x, [], none⟩ => if ground x then some ⟨x, env, objs⟩ else none
  | _ => none) else none
 | none => none
def cGive (Φ : Table) (env : List AV) (objs : List (Nat × Obj)) (d : Nat) (f : FuncId) (xs : List Operand) : Option HR :=
 let as := xs.map (ev env)
 let ns := refsOf as
 let os := lookAll ns objs
 if as.all argOk = true ∧ os.map (·.1) = ns ∧ ns.Nodup ∧ boxesOk os = true ∧ look d objs = none ∧ d < top ∧ rn ∉ ns then
  match Φ f as os with
  | some r => if r.os.map (·.1) = ns ∧ boxesOk r.os = true ∧ newOk r.x r.new = true then
    some ⟨rename d r.x, env, (match r.new with | some o => (d, o) :: updAll r.os objs | none => updAll r.os objs)⟩ else none
  | none => none
 else none
def cOp (Φ : Table) (env : List AV) (objs : List (Nat × Obj)) (d : Nat) (f : FuncId) (xs : List Operand) : Option HR :=
 match firstName ((xs.map (ev env)).flatMap cellList) with
 | none => cGive Φ env objs d f xs
 | some _ => match cLend Φ env objs f xs with
  | some r => some r
  | none => match settle 8 xs env objs with
   | some r => cGive Φ r.1 r.2 d f xs
   | none => none
theorem run_call {P : Program} {a : Act} {o : Oper} {f : FuncId} {args : Array Operand} {tys : Array TypeId} (hop : o.op = .call { callee := .value (.func f), args := args, argTypes := tys }) (hf : funOk P f = true) (w : World) :
  (execOp a.eval o).run P w = .ok (.enter f (args.map a.eval)) w := by
 unfold funOk at hf
 split at hf
 ·rename_i fn hfn
  simp only [Bool.and_eq_true, Bool.not_eq_true'] at hf
  have hb : fn.body.isNone = false := by cases hh : fn.body <;> simp [hh] at hf ⊢
  simp only [execOp, hop, resolve, Sem.run_bind, Act.eval, Deferred.ofValue, Sem.run_pure, Result.andThen_ok, invoke, callFunc, run_program, hfn, hf.1, hb, Bool.false_eq_true, if_false]
  simp
 ·cases hf
def CallDone (P : Program) (w0 : World) (M0 : Nat → Prop) (a : Act) (w : World) (D : Names) (objs : List (Nat × Obj)) (f : FuncId) (vs : Array Value) (r : HR) : Prop :=
 Calls P f vs w fun e w' => ∃ v D', e = .returned v ∧ Slot w' D' r.x v ∧ Mem w0 M0 r.objs D' w' ∧ EnvRep w' D' r.env a.tmps ∧ ∀ D0, Pin D0 D objs → Pin D0 D' r.objs
theorem Mem.ext {w0 w w' : World} {M0 : Nat → Prop} {D : Names} {objs : List (Nat × Obj)} (hm : Mem w0 M0 objs D w) (k : Grow w w' (fun _ => False)) (hos : w'.os = w.os) (htape : w'.tape = w.tape) (hout : w'.output = w.output) : Mem w0 M0 objs D w' := by
 have kM : Grow w w' D.M := k.weaken (fun _ _ h => h.elim)
 exact ⟨hm.dom, hm.small, fun n o d h1 h2 => (hm.rep n o d h1 h2).mono kM (fun _ _ h => h) hm.lt (fun _ _ h => h) (fun b hb => k.same b (hm.lt b ⟨n, by rw [h2, hb]⟩) (fun h => h)), hm.inj,
  fun b hb => Nat.lt_of_lt_of_le (hm.lt b hb) k.size, hm.own, hm.grow.trans k (fun _ _ h => h.elim), hos.trans hm.os, htape.trans hm.tape, hout.trans hm.output, hm.glob.mono kM.toKeep fun _ _ h => h⟩
theorem groundC_imm {w w' : World} {D D' : Names} {x : AV} {v : Value} (h : Cell w D x v) (hg : groundC x = true) : Cell w' D' x v := by
 cases x <;> simp only [groundC, Bool.false_eq_true] at hg <;> simp only [Cell] at h ⊢ <;> cases h
 ·exact .int _ _
 ·exact .bool _
 ·exact .str _ (by assumption)
theorem groundV_slot {w w' : World} {D D' : Names} {x : AV} {v : Value} (h : Val w D x v) (hg : (match x with | .agg l => l.all groundC | x => groundC x) = true) : Val w' D' x v := by
 cases x with
 | agg l =>
  obtain ⟨vs, h1, h2, h3⟩ := h
  exact ⟨vs, h1, h2, fun i y hy => ⟨groundC_imm (h3 i y hy).1 (List.all_eq_true.1 hg y (List.mem_of_getElem? hy)), (h3 i y hy).2⟩⟩
 | _ => simp only [Val] at h ⊢; exact groundC_imm h hg
theorem ground_slot {w w' : World} {D D' : Names} {x : AV} {v : Value} (h : Slot w D x v) (hg : ground x = true) : Slot w' D' x v := by
 cases x with
 | tup l =>
  obtain ⟨vs, h1, h2, h3⟩ := h
  refine ⟨vs, h1, h2, fun i y hy => groundV_slot (h3 i y hy) ?_⟩
  have := List.all_eq_true.1 hg y (List.mem_of_getElem? hy)
  cases y <;> exact this
 | agg l => simp only [Slot] at h ⊢; exact groundV_slot h hg
 | _ => simp only [Slot] at h ⊢; exact groundV_slot h hg
theorem mem_none (w : World) (hg : GlobRep w (Names.M (fun _ => none))) : Mem w (Names.N (fun _ => none)) [] (fun _ => none) w where
 dom := by simp [look]
 small := by simp [look]
 rep := by simp [look]
 inj := by simp
 lt := by rintro b ⟨n, hn⟩; cases hn
 own := by rintro b ⟨n, _, hn⟩; cases hn
 grow := Grow.refl w _
 os := rfl
 tape := rfl
 output := rfl
 glob := hg
theorem nf_lower {w : World} {D D' : Names} (hM : ∀ b, b < w.heap.size → D'.M b → D.M b) :
  (∀ {x : AV} {v : Value}, Cell w D x v → nfC x = true → Cell w D' x v) ∧ (∀ {x : AV} {v : Value}, Val w D x v → nfV x = true → Val w D' x v) ∧ (∀ {x : AV} {v : Value}, Slot w D x v → nf x = true → Slot w D' x v) := by
 have hC : ∀ {x : AV} {v : Value}, Cell w D x v → nfC x = true → Cell w D' x v := by
  intro x v h hn
  cases x with
  | msl => simp [nfC] at hn
  | ref => simp [nfC] at hn
  | wrp => simp [nfC] at hn
  | _ => simp only [Cell] at h ⊢; exact h.mono (Grow.refl w _).toKeep hM
 have hV : ∀ {x : AV} {v : Value}, Val w D x v → nfV x = true → Val w D' x v := by
  intro x v h hn
  cases x with
  | agg l =>
   obtain ⟨vs, h1, h2, h3⟩ := h
   exact ⟨vs, h1, h2, fun i y hy => ⟨hC (h3 i y hy).1 (List.all_eq_true.1 hn y (List.mem_of_getElem? hy)), (h3 i y hy).2⟩⟩
  | _ => simp only [Val] at h ⊢; exact hC h hn
 refine ⟨hC, hV, fun {x v} h hn => ?_⟩
 cases x with
 | tup l =>
  obtain ⟨vs, h1, h2, h3⟩ := h
  exact ⟨vs, h1, h2, fun i y hy => hV (h3 i y hy) (List.all_eq_true.1 hn y (List.mem_of_getElem? hy))⟩
 | _ => simp only [Slot] at h ⊢; exact hV h hn
theorem mapM_get {α β : Type} {f : α → Option β} : ∀ {l : List α} {r : List β}, l.mapM f = some r → r.length = l.length ∧ ∀ (i : Nat) (y : β), r[i]? = some y → ∃ x, l[i]? = some x ∧ f x = some y
 | [], r, h => by simp at h; subst h; simp
 | x :: l, r, h => by
  simp only [List.mapM_cons, Option.bind_eq_bind, Option.pure_def] at h
  obtain ⟨b, hb, h⟩ := Option.bind_eq_some_iff.1 h
  obtain ⟨bs, hbs, h⟩ := Option.bind_eq_some_iff.1 h
  simp only [Option.some.injEq] at h; subst h
  obtain ⟨h1, h2⟩ := mapM_get hbs
  refine ⟨by simp [h1], fun i y hy => ?_⟩
  cases i with
  | zero => simp at hy; subst hy; exact ⟨x, rfl, hb⟩
  | succ i => simpa using h2 i y (by simpa using hy)
theorem lend_sound {w0 w : World} {M0 : Nat → Prop} {D : Names} {objs : List (Nat × Obj)} (hm : Mem w0 M0 objs D w) {x y : AV} {v : Value} (hv : Slot w D x v) (h : lend objs x = some y) (hn : nf y = true) : Slot w (fun _ => none) y v := by
 have low := nf_lower (w := w) (D := D) (D' := fun _ => none) (fun b _ hb => by obtain ⟨n, hn⟩ := hb; cases hn)
 unfold lend at h
 split at h
 ·rename_i l
  obtain ⟨ys, hys, rfl⟩ := Option.map_eq_some_iff.1 h
  obtain ⟨vs, h1, h2, h3⟩ := hv
  obtain ⟨g1, g2⟩ := mapM_get hys
  refine ⟨vs, h1, h2.trans g1.symm, fun i y hy => ?_⟩
  obtain ⟨x, hx, hxy⟩ := g2 i y hy
  obtain ⟨k1, k2⟩ := h3 i x hx
  refine ⟨?_, k2⟩
  have hny : nfC y = true := List.all_eq_true.1 (by simpa [nf, nfV] using hn : ys.all nfC = true) y (List.mem_of_getElem? hy)
  unfold lendC at hxy
  split at hxy
  ·rename_i n sz off len
   obtain ⟨l', hl, rfl⟩ := Option.map_eq_some_iff.1 hxy
   have := viewSl_sound hm hl k1
   exact (slice_imm (D := D) this (fun b o n cap _ _ hb => by obtain ⟨n, hn⟩ := hb; cases hn) (fun b _ hb => by obtain ⟨n, hn⟩ := hb; cases hn)).cell (D := fun _ => none)
  ·simp only [Option.some.injEq] at hxy; subst hxy
   exact low.1 k1 hny
 ·unfold lendC at h
  split at h
  ·rename_i n sz off len
   obtain ⟨l, hl, rfl⟩ := Option.map_eq_some_iff.1 h
   have := viewSl_sound hm hl hv
   exact Imm.slot (D := fun _ => none) (slice_imm (D := D) this (fun b o n cap _ _ hb => by obtain ⟨n, hn⟩ := hb; cases hn) (fun b _ hb => by obtain ⟨n, hn⟩ := hb; cases hn))
  ·simp only [Option.some.injEq] at h; subst h
   exact low.2.2 hv hn
theorem cLend_sound {P : Program} {Φ : Table} (hΦ : Sound P Φ) {w0 w : World} {M0 : Nat → Prop} {D : Names} {objs : List (Nat × Obj)} (hm : Mem w0 M0 objs D w) {env : List AV} {a : Act} (he : EnvRep w D env a.tmps) {f : FuncId} {xs : List Operand} {r : HR}
  (h : cLend Φ env objs f xs = some r) : funOk P f = true ∧ CallDone P w0 M0 a w D objs f (xs.map a.eval).toArray r := by
 unfold cLend at h
 split at h
 ·rename_i as has
  split at h
  ·rename_i hnf
   split at h
   ·rename_i x hx
    split at h
    ·rename_i hg
     simp only [Option.some.injEq] at h; subst h
     obtain ⟨hf, hc⟩ := hΦ f as [] ⟨x, [], none⟩ hx
     refine ⟨hf, ?_⟩
     obtain ⟨hlen, hget⟩ := mapM_get has
     have hargs : ArgsRep w (fun _ => none) as (xs.map a.eval) := by
      refine ⟨by simp [hlen], fun i y hy => ?_⟩
      obtain ⟨z, hz, hl⟩ := hget i y hy
      rw [List.getElem?_map] at hz
      obtain ⟨o, ho, rfl⟩ := Option.map_eq_some_iff.1 hz
      have e : (xs.map a.eval).getD i undef = a.eval o := by simp [List.getD, List.getElem?_map, ho]
      rw [e]
      exact lend_sound hm (ev_sound hm.glob he o) hl (List.all_eq_true.1 hnf y (List.mem_of_getElem? hy))
     refine (hc w _ _ (mem_none w (hm.glob.mono (Grow.refl w _).toKeep fun b _ h => by obtain ⟨n, hn⟩ := h; cases hn)) hargs).mono fun e w' hpost => ?_
     obtain ⟨v, D', rfl, hm', hs, _⟩ := hpost
     have k : Grow w w' (fun _ => False) := hm'.grow.weaken (fun b _ hb => by obtain ⟨n, _, hn⟩ := hb; cases hn)
     exact ⟨v, D, rfl, ground_slot hs hg, hm.ext k hm'.os hm'.tape hm'.output, he.mono (k.weaken (fun _ _ h => h.elim)) (fun _ _ h => h) hm.lt (fun _ _ h => h), fun _ h => h⟩
    ·cases h
   ·cases h
  ·cases h
 ·cases h
theorem look_lookAll (n : Nat) (objs : List (Nat × Obj)) : ∀ ns : List Nat, look n (lookAll ns objs) = if n ∈ ns then look n objs else none
 | [] => rfl
 | m :: ns => by
  have ih := look_lookAll n objs ns
  unfold lookAll at ih ⊢
  simp only [List.filterMap_cons]
  by_cases hm : m = n
  ·subst hm
   cases h : look m objs with
   | none => simp only [Option.map_none]; rw [ih]; simp [h]
   | some o => simp [look]
  ·have hmem : n ∈ m :: ns ↔ n ∈ ns := by simp [Ne.symm hm]
   cases h : look m objs with
   | none => simp only [Option.map_none]; rw [ih]; simp only [hmem]
   | some o => simp only [Option.map_some, look, hm, if_false]; rw [ih]; simp only [hmem]
theorem look_mem {n : Nat} {o : Obj} : ∀ {l : List (Nat × Obj)}, look n l = some o → n ∈ l.map (·.1)
 | [], h => by simp [look] at h
 | (m, p) :: r, h => by
  by_cases hm : m = n
  ·subst hm; simp
  ·simp only [look, hm, if_false] at h
   simp only [List.map_cons, List.mem_cons]
   exact .inr (look_mem h)
theorem look_of_mem {n : Nat} : ∀ {l : List (Nat × Obj)}, n ∈ l.map (·.1) → (look n l).isSome = true
 | [], h => by simp at h
 | (m, p) :: r, h => by
  by_cases hm : m = n
  ·simp [look, hm]
  ·simp only [look, hm, if_false]
   simp only [List.map_cons, List.mem_cons] at h
   exact look_of_mem (h.resolve_left (Ne.symm hm))
theorem boxesOk_look {n : Nat} {o : Obj} : ∀ {l : List (Nat × Obj)}, boxesOk l = true → look n l = some o → ∃ cs, o = .box cs ∧ cs.all plainC = true
 | [], _, h => by simp [look] at h
 | (m, .box cs) :: r, hb, h => by
  simp only [boxesOk, Bool.and_eq_true] at hb
  by_cases hm : m = n
  ·simp only [look, hm, if_true, Option.some.injEq] at h; exact ⟨cs, h.symm, hb.1⟩
  ·simp only [look, hm, if_false] at h; exact boxesOk_look hb.2 h
 | (m, .arr sz l) :: r, hb, h => by simp [boxesOk] at hb
theorem look_updAll (n : Nat) : ∀ (os objs : List (Nat × Obj)), (os.map (·.1)).Nodup → (∀ m ∈ os.map (·.1), (look m objs).isSome = true) → look n (updAll os objs) = match look n os with | some o => some o | none => look n objs
 | [], objs, _, _ => by simp [updAll, look]
 | (m, o) :: r, objs, hnd, hp => by
  simp only [List.map_cons, List.nodup_cons] at hnd
  have hp' : ∀ k ∈ r.map (·.1), (look k (upd m o objs)).isSome = true := fun k hk => by
   by_cases hkm : m = k
   ·subst hkm; exact absurd hk hnd.1
   ·rw [look_upd_ne o hkm]; exact hp k (by simp only [List.map_cons, List.mem_cons]; exact .inr hk)
  simp only [updAll]
  rw [look_updAll n r (upd m o objs) hnd.2 hp']
  by_cases hmn : m = n
  ·subst hmn
   have hr : look m r = none := by
    cases hl : look m r with
    | none => rfl
    | some q => exact absurd (look_mem hl) hnd.1
   rw [hr]
   simp only [look, if_true]
   exact look_upd o objs (hp m (by simp))
  ·simp only [look, hmn, if_false]
   rw [look_upd_ne o hmn]
theorem boxRep_lower {w : World} {D D' : Names} {cs : List AV} {d : Option Nat} (h : ObjRep w D (.box cs) d) (hc : cs.all plainC = true) (hM : ∀ b, b < w.heap.size → D'.M b → D.M b) : ObjRep w D' (.box cs) d := by
 cases d with
 | none => exact h.elim
 | some b =>
  obtain ⟨vs, T, h1, h2, h3⟩ := h
  refine ⟨vs, T, h1, h2, fun i x hx => ⟨?_, (h3 i x hx).2⟩⟩
  have hp := List.all_eq_true.1 hc x (List.mem_of_getElem? hx)
  exact ((plainC_imm (h3 i x hx).1 hp).mono (Grow.refl w _).toKeep hM).cell
theorem arrRep_lower {w : World} {D D' : Names} {sz : Nat} {l : List (List AV)} {d : Option Nat} (h : ObjRep w D (.arr sz l) d) (hM : ∀ b, b < w.heap.size → D'.M b → D.M b) : ObjRep w D' (.arr sz l) d := by
 cases d with
 | none => exact h
 | some b =>
  obtain ⟨vs, T, fz, h1, h2, h3, h4, h5, h6⟩ := h
  exact ⟨vs, T, fz, h1, h2, h3, h4, h5, fun j cs i x hj hx => ⟨(h6 j cs i x hj hx).1.mono (Grow.refl w _).toKeep hM, (h6 j cs i x hj hx).2⟩⟩
def handed (D : Names) (ns : List Nat) : Names := fun n => if n < top then (if n ∈ ns then D n else none) else (if n - top ∈ ns then none else D (n - top))
theorem handed_in {D : Names} {ns : List Nat} {n : Nat} (h : n ∈ ns) (hK : n < top) : handed D ns n = D n := by simp [handed, h, hK]
theorem handed_out {D : Names} {ns : List Nat} {n : Nat} (h : n ∉ ns) : handed D ns (top + n) = D n := by
 unfold handed
 rw [if_neg (by omega)]
 have : top + n - top = n := by omega
 simp [this, h]
theorem handed_from {D : Names} {ns : List Nat} {n : Nat} {b : Nat} (h : handed D ns n = some (some b)) : (n < top ∧ n ∈ ns ∧ D n = some (some b)) ∨ ∃ m, n = top + m ∧ m ∉ ns ∧ D m = some (some b) := by
 unfold handed at h
 split at h
 ·rename_i hK
  split at h
  ·rename_i hn; exact .inl ⟨hK, hn, h⟩
  ·cases h
 ·rename_i hK
  split at h
  ·cases h
  ·rename_i hn
   exact .inr ⟨n - top, by omega, hn, h⟩
theorem cGive_sound {P : Program} {Φ : Table} (hΦ : Sound P Φ) {w0 w : World} {M0 : Nat → Prop} {D : Names} {objs : List (Nat × Obj)} (hm : Mem w0 M0 objs D w) {env : List AV} {a : Act} (he : EnvRep w D env a.tmps) {d : Nat} {f : FuncId} {xs : List Operand} {r : HR}
  (h : cGive Φ env objs d f xs = some r) : funOk P f = true ∧ CallDone P w0 M0 a w D objs f (xs.map a.eval).toArray r := by
 unfold cGive at h
 simp only at h
 split at h
 ·rename_i hc
  obtain ⟨hargs, hns, hnd, hbox, hd, hdK, hrn⟩ := hc
  split at h
  ·rename_i q hq
   split at h
   ·rename_i hr
    obtain ⟨hr1, hr2, hr3⟩ := hr
    simp only [Option.some.injEq] at h; subst h
    obtain ⟨hf, hcon⟩ := hΦ f _ _ q hq
    refine ⟨hf, ?_⟩
    generalize hnsd : refsOf (xs.map (ev env)) = ns at *
    have hnsK : ∀ n ∈ ns, (look n objs).isSome = true ∧ n < top := by
     intro n hn
     rw [← hns] at hn
     have h1 := look_of_mem hn
     rw [look_lookAll] at h1
     split at h1
     ·exact ⟨h1, hm.small n h1⟩
     ·simp at h1
    let Dc : Names := handed D ns
    have hMc : ∀ b, Dc.M b → D.M b := by
     rintro b ⟨n, hn⟩
     rcases handed_from hn with ⟨_, _, h⟩ | ⟨m, _, _, h⟩
     ·exact ⟨n, h⟩
     ·exact ⟨m, h⟩
    have hNc : ∀ b, Dc.N b → ∃ n ∈ ns, D n = some (some b) := by
     rintro b ⟨n, hK, hn⟩
     rcases handed_from hn with ⟨_, h1, h2⟩ | ⟨m, h1, _⟩
     ·exact ⟨n, h1, h2⟩
     ·omega
    have hNcN : ∀ b, Dc.N b → D.N b := fun b hb => by obtain ⟨n, hn, h⟩ := hNc b hb; exact ⟨n, (hnsK n hn).2, h⟩
    have hmc : Mem w Dc.N (lookAll ns objs) Dc w := by
     refine ⟨fun n hK => ?_, fun n hn => ?_, fun n o e hl hn => ?_, fun n m b h1 h2 => ?_, fun b hb => hm.lt b (hMc b hb), fun b hb => .inl hb, Grow.refl w _, rfl, rfl, rfl, hm.glob.mono (Grow.refl w _).toKeep fun b _ h => hMc b h⟩
     ·rw [look_lookAll]
      by_cases hmem : n ∈ ns
      ·simp only [hmem, if_true]; rw [show Dc n = D n from handed_in hmem hK]; exact hm.dom n hK
      ·simp only [hmem, if_false]; simp [Dc, handed, hK, hmem]
     ·rw [look_lookAll] at hn
      split at hn
      ·exact hm.small n hn
      ·simp at hn
     ·have hl0 := hl
      rw [look_lookAll] at hl
      split at hl
      ·rename_i hmem
       rw [show Dc n = D n from handed_in hmem (hnsK n hmem).2] at hn
       obtain ⟨cs, rfl, hpc⟩ := boxesOk_look hbox hl0
       exact boxRep_lower (hm.rep n _ e hl hn) hpc (fun b _ hb => hMc b hb)
      ·cases hl
     ·rcases handed_from h1 with ⟨k1, k2, k3⟩ | ⟨p, k1, k2, k3⟩
      ·rcases handed_from h2 with ⟨g1, g2, g3⟩ | ⟨q', g1, g2, g3⟩
       ·exact hm.inj n m b k3 g3
       ·have := hm.inj n q' b k3 g3; subst this; exact absurd k2 g2
      ·rcases handed_from h2 with ⟨g1, g2, g3⟩ | ⟨q', g1, g2, g3⟩
       ·have := hm.inj p m b k3 g3; subst this; exact absurd g2 k2
       ·rw [k1, g1, hm.inj p q' b k3 g3]
    have low := nf_lower (w := w) (D := D) (D' := Dc) (fun b _ hb => hMc b hb)
    have hargsR : ArgsRep w Dc (xs.map (ev env)) (xs.map a.eval) := by
     refine ⟨by simp, fun i y hy => ?_⟩
     rw [List.getElem?_map] at hy
     obtain ⟨o, ho, rfl⟩ := Option.map_eq_some_iff.1 hy
     have e : (xs.map a.eval).getD i undef = a.eval o := by simp [List.getD, List.getElem?_map, ho]
     rw [e]
     have hs := ev_sound hm.glob he o
     have hok : argOk (ev env o) = true := List.all_eq_true.1 hargs _ (List.mem_map_of_mem (List.mem_of_getElem? ho))
     generalize hx : ev env o = x at hs hok
     cases x with
     | ref n sz p off =>
      simp only [argOk, Bool.and_eq_true, beq_iff_eq] at hok
      obtain ⟨rfl, rfl⟩ := hok
      have hmem : n ∈ ns := by
       rw [← hnsd]
       refine List.mem_filterMap.2 ⟨.ref n sz 0 0, ?_, rfl⟩
       rw [← hx]; exact List.mem_map_of_mem (List.mem_of_getElem? ho)
      simp only [Slot, Val, Cell] at hs ⊢
      obtain ⟨b, h1, h2⟩ := hs
      exact ⟨b, by rw [show Dc n = D n from handed_in hmem (hnsK n hmem).2]; exact h1, h2⟩
     | agg l => exact low.2.2 hs (by simpa only [argOk, nf, nfV] using hok)
     | _ => exact low.2.2 hs (by simpa only [argOk] using hok)
    refine (hcon w Dc _ hmc hargsR).mono fun e w' hpost => ?_
    obtain ⟨v, Dd, rfl, hm', hs, hkeep⟩ := hpost
    have hback : ∀ n b, D n = some (some b) → ∃ m, Dd m = some (some b) ∧ (m = n ∧ n ∈ ns ∨ m = top + n ∧ n ∉ ns) := by
     intro n b hn
     by_cases hmem : n ∈ ns
     ·exact ⟨n, hkeep n _ (by rw [show Dc n = D n from handed_in hmem (hnsK n hmem).2]; exact hn), .inl ⟨rfl, hmem⟩⟩
     ·exact ⟨top + n, hkeep _ _ (by rw [show Dc (top + n) = D n from handed_out hmem]; exact hn), .inr ⟨rfl, hmem⟩⟩
    have hDd : D d = none := hm.fresh hd hdK
    have hdns : d ∉ ns := fun hmem => by have := (hnsK d hmem).1; rw [hd] at this; simp at this
    let D' : Names := fun n => if n = d ∧ q.new.isSome then Dd rn else D n
    have hD'ne : ∀ n, n ≠ d → D' n = D n := fun n hn => by simp [D', hn]
    have hD'ext : ∀ n e, D n = some e → D' n = some e := fun n e hn => by
     rw [hD'ne n (fun hh => by subst hh; rw [hDd] at hn; cases hn)]; exact hn
    have hD'M : ∀ b, D'.M b → Dd.M b := by
     rintro b ⟨n, hn⟩
     by_cases hc : n = d ∧ q.new.isSome
     ·simp only [D', hc, and_self, if_true] at hn; exact ⟨rn, hn⟩
     ·simp only [D', hc, if_false] at hn
      obtain ⟨m, hm1, _⟩ := hback n b hn; exact ⟨m, hm1⟩
    have hrnK : rn < top := by decide
    have hownb : ∀ b, Dd rn = some (some b) → D.N b ∨ w.heap.size ≤ b := fun b hb => by
     rcases hm'.own b ⟨rn, hrnK, hb⟩ with h | h
     ·exact .inl (hNcN b h)
     ·exact .inr h
    have hM'old : ∀ b, b < w.heap.size → D'.M b → D.M b := by
     rintro b hb ⟨n, hn⟩
     by_cases hc : n = d ∧ q.new.isSome
     ·simp only [D', hc, and_self, if_true] at hn
      rcases hownb b hn with h | h
      ·exact Names.N_M h
      ·omega
     ·simp only [D', hc, if_false] at hn; exact ⟨n, hn⟩
    have kc : Grow w w' Dc.N := hm'.grow
    have kM : Grow w w' D.M := kc.weaken (fun b _ hb => Names.N_M (hNcN b hb))
    have hlk : ∀ n, look n (updAll q.os objs) = if n ∈ ns then look n q.os else look n objs := by
     intro n
     rw [look_updAll n q.os objs (by rw [hr1]; exact hnd) (fun m hmm => (hnsK m (by rw [← hr1]; exact hmm)).1)]
     by_cases hmem : n ∈ ns
     ·have : (look n q.os).isSome = true := look_of_mem (by rw [hr1]; exact hmem)
      obtain ⟨o, ho⟩ := Option.isSome_iff_exists.1 this
      simp [ho, hmem]
     ·have : look n q.os = none := by
       cases hl : look n q.os with
       | none => rfl
       | some o => exact absurd (by rw [← hr1]; exact look_mem hl) hmem
      simp [this, hmem]
    have hlk' : ∀ n, (look n (updAll q.os objs)).isSome = (look n objs).isSome := by
     intro n; rw [hlk n]
     by_cases hmem : n ∈ ns
     ·simp only [hmem, if_true, (hnsK n hmem).1]; exact look_of_mem (by rw [hr1]; exact hmem)
     ·simp only [hmem, if_false]
    have hrepOld : ∀ n o e, look n (updAll q.os objs) = some o → D n = some e → ObjRep w' D' o e := by
     intro n o e hl hn
     rw [hlk n] at hl
     by_cases hmem : n ∈ ns
     ·simp only [hmem, if_true] at hl
      obtain ⟨cs, rfl, hpc⟩ := boxesOk_look hr2 hl
      have hl' : look n q.objs = some (.box cs) := by
       unfold CR.objs
       cases q.new with
       | none => exact hl
       | some o' => simp only [look, if_neg (fun h : rn = n => hrn (h ▸ hmem))]; exact hl
      have := hm'.rep n _ e hl' (hkeep n e (by rw [show Dc n = D n from handed_in hmem (hnsK n hmem).2]; exact hn))
      exact boxRep_lower this hpc (fun b _ hb => hD'M b hb)
     ·simp only [hmem, if_false] at hl
      exact (hm.rep n o e hl hn).mono kM hD'ext hm.lt hM'old (fun b hb => kc.same b (hm.lt b ⟨n, by rw [hn, hb]⟩) (fun hN => by
       obtain ⟨m, hmm, hmb⟩ := hNc b hN
       exact hmem (hm.inj n m b (by rw [hn, hb]) hmb ▸ hmm)))
    have hsepd : ∀ n b, n ≠ d → D n = some (some b) → Dd rn = some (some b) → False := by
     intro n b _ hn hb
     obtain ⟨m, hm1, hm2⟩ := hback n b hn
     have := hm'.inj rn m b hb hm1
     rcases hm2 with ⟨h1, h2⟩ | ⟨h1, _⟩
     ·exact hrn (by rw [this, h1]; exact h2)
     ·have : rn < top := hrnK; omega
    have hgrow : Grow w0 w' M0 := hm.grow.trans kc (fun x hx hN => by
     rcases hm.own x (hNcN x hN) with h | h
     ·exact h
     ·omega)
    have hinj : ∀ n m b, D' n = some (some b) → D' m = some (some b) → n = m := by
     intro n m b h1 h2
     by_cases e1 : n = d ∧ q.new.isSome = true
     ·by_cases e2 : m = d ∧ q.new.isSome = true
      ·rw [e1.1, e2.1]
      ·simp only [D', e1, and_self, if_true] at h1
       simp only [D', e2, if_false] at h2
       have hmd : m ≠ d := fun hh => e2 ⟨hh, e1.2⟩
       exact (hsepd m b hmd h2 h1).elim
     ·by_cases e2 : m = d ∧ q.new.isSome = true
      ·simp only [D', e1, if_false] at h1
       simp only [D', e2, and_self, if_true] at h2
       have hnd' : n ≠ d := fun hh => e1 ⟨hh, e2.2⟩
       exact (hsepd n b hnd' h1 h2).elim
      ·simp only [D', e1, if_false] at h1
       simp only [D', e2, if_false] at h2
       exact hm.inj n m b h1 h2
    have hown : ∀ b, D'.N b → M0 b ∨ w0.heap.size ≤ b := by
     rintro b ⟨n, hK, hn⟩
     by_cases e1 : n = d ∧ q.new.isSome = true
     ·simp only [D', e1, and_self, if_true] at hn
      rcases hownb b hn with h | h
      ·exact hm.own b h
      ·exact .inr (Nat.le_trans hm.grow.size h)
     ·simp only [D', e1, if_false] at hn
      exact hm.own b ⟨n, hK, hn⟩
    have henv : EnvRep w' D' env a.tmps := he.mono kM hD'ext hm.lt hM'old
    have hpinOld : ∀ D0, Pin D0 D objs → ∀ n e, D0 n = some e → D' n = some e ∧ (n < top → ∃ cs, look n (updAll q.os objs) = some (.box cs)) := by
     intro D0 hp n e hn
     obtain ⟨h1, h2⟩ := hp n e hn
     refine ⟨hD'ext n e h1, fun hK => ?_⟩
     rw [hlk n]
     by_cases hmem : n ∈ ns
     ·simp only [hmem, if_true]
      obtain ⟨o, ho⟩ := Option.isSome_iff_exists.1 (look_of_mem (l := q.os) (n := n) (by rw [hr1]; exact hmem))
      obtain ⟨cs, rfl, _⟩ := boxesOk_look hr2 ho
      exact ⟨cs, ho⟩
     ·simp only [hmem, if_false]; exact h2 hK
    have lowB := nf_lower (w := w') (D := Dd) (D' := D') (fun b _ hb => hD'M b hb)
    cases hnew : q.new with
    | none =>
     have hD'eq : ∀ n, D' n = D n := fun n => by simp [D', hnew]
     have hx : nf q.x = true := by simpa only [newOk, hnew] using hr3
     have hxr : rename d q.x = q.x := by
      cases hqx : q.x <;> first | rfl | (rw [hqx] at hx; simp [nf, nfV, nfC] at hx)
     refine ⟨v, D', rfl, by simp only; rw [hxr]; exact lowB.2.2 hs hx, ?_, henv, fun D0 hp => hpinOld D0 hp⟩
     exact ⟨fun n hK => by rw [hD'eq, hlk' n]; exact hm.dom n hK, fun n hn => hm.small n (by rw [← hlk' n]; exact hn), fun n o e hl hn => hrepOld n o e hl (by rw [← hD'eq]; exact hn), hinj,
      fun b hb => hm'.lt b (hD'M b hb), hown, hgrow, hm'.os.trans hm.os, hm'.tape.trans hm.tape, hm'.output.trans hm.output, hm.glob.mono kM.toKeep hM'old⟩
    | some o =>
     have hD'd : D' d = Dd rn := by simp [D', hnew]
     have hlrn : look rn q.objs = some o := by simp [CR.objs, hnew, look]
     have hdrn := hm'.dom rn hrnK
     rw [hlrn] at hdrn
     refine ⟨v, D', rfl, ?_, ?_, henv, fun D0 hp n e hn => ?_⟩
     ·
      simp only [newOk, hnew] at hr3
      cases o with
      | arr sz l =>
       simp only at hr3
       split at hr3
       ·rename_i n s off len hx
        simp only [Bool.and_eq_true, beq_iff_eq] at hr3
        obtain ⟨⟨⟨rfl, rfl⟩, rfl⟩, rfl⟩ := hr3
        rw [hx] at hs ⊢
        simp only [rename, if_true]
        simp only [Slot, Val, Cell] at hs ⊢
        rw [hD'd]; exact hs
       ·cases hr3
      | box cs =>
       simp only [Bool.and_eq_true] at hr3
       obtain ⟨hr3, _⟩ := hr3
       split at hr3
       ·rename_i n s p off hx
        simp only [Bool.and_eq_true, beq_iff_eq] at hr3
        obtain ⟨⟨⟨rfl, rfl⟩, rfl⟩, rfl⟩ := hr3
        rw [hx] at hs ⊢
        simp only [rename, if_true]
        simp only [Slot, Val, Cell] at hs ⊢
        rw [hD'd]; exact hs
       ·cases hr3
      | mp => simp at hr3
     ·refine ⟨fun n hK => ?_, fun n hn => ?_, fun n p e hl hn => ?_, hinj, fun b hb => hm'.lt b (hD'M b hb), hown, hgrow, hm'.os.trans hm.os, hm'.tape.trans hm.tape, hm'.output.trans hm.output, hm.glob.mono kM.toKeep hM'old⟩
      ·by_cases hnd' : n = d
       ·subst hnd'; rw [hD'd, hdrn]; simp [look]
       ·simp only [look, if_neg (Ne.symm hnd')]; rw [hD'ne n hnd', hlk' n]; exact hm.dom n hK
      ·by_cases hnd' : n = d
       ·subst hnd'; exact hdK
       ·simp only [look, if_neg (Ne.symm hnd')] at hn; exact hm.small n (by rw [← hlk' n]; exact hn)
      ·by_cases hnd' : n = d
       ·subst hnd'
        simp only [look, if_true, Option.some.injEq] at hl; subst hl
        rw [hD'd] at hn
        have hrep := hm'.rep rn o e hlrn hn
        cases o with
        | arr sz l => exact arrRep_lower hrep (fun b _ hb => hD'M b hb)
        | box cs =>
         simp only [newOk, hnew, Bool.and_eq_true] at hr3
         exact boxRep_lower hrep hr3.2 (fun b _ hb => hD'M b hb)
        | mp => simp [newOk, hnew] at hr3
       ·simp only [look, if_neg (Ne.symm hnd')] at hl
        exact hrepOld n p e hl (by rw [← hD'ne n hnd']; exact hn)
     ·obtain ⟨h1, h2⟩ := hpinOld D0 hp n e hn
      refine ⟨h1, fun hK => ?_⟩
      obtain ⟨cs, hcs⟩ := h2 hK
      have hnd' : n ≠ d := fun hh => by
       subst hh
       have := (hp n e hn).1
       rw [hDd] at this; cases this
      exact ⟨cs, by simp only [look, if_neg (Ne.symm hnd')]; exact hcs⟩
   ·cases h
  ·cases h
 ·cases h
theorem cOp_sound {P : Program} {Φ : Table} (hΦ : Sound P Φ) {w0 w : World} {M0 : Nat → Prop} {D : Names} {objs : List (Nat × Obj)} (hm : Mem w0 M0 objs D w) {env : List AV} {a : Act} (he : EnvRep w D env a.tmps) {d : Nat} {f : FuncId} {xs : List Operand} {r : HR}
  (h : cOp Φ env objs d f xs = some r) : funOk P f = true ∧ CallDone P w0 M0 a w D objs f (xs.map a.eval).toArray r := by
 unfold cOp at h
 split at h
 ·exact cGive_sound hΦ hm he h
 ·split at h
  ·rename_i q hq
   simp only [Option.some.injEq] at h; subst h
   exact cLend_sound hΦ hm he hq
  ·split at h
   ·rename_i q hq
    obtain ⟨D1, hm1, he1, hp1⟩ := settle_sound _ 8 hm he hq
    obtain ⟨hf, hcd⟩ := cGive_sound hΦ hm1 he1 h
    exact ⟨hf, hcd.mono fun e w' ⟨v, D', h1, h2, h3, h4, h5⟩ => ⟨v, D', h1, h2, h3, h4, fun D0 hp => h5 D0 (hp1 D0 hp)⟩⟩
   ·cases h
end Go.Abs
namespace Go.Abs
open Go.RowKit
variable {w : World} {D : Names} {v : Value} {env : List AV}
def putA (env : List AV) (dst : Option Tmp) (x : AV) : List AV := match dst with | some d => env.set d x | none => env
theorem EnvRep.put {a : Act} (h : EnvRep w D env a.tmps) (dst : Option Tmp) {x : AV} (hx : Slot w D x v) : EnvRep w D (putA env dst x) (a.put dst v).tmps := by
 cases dst with
 | none => exact h
 | some d =>
  refine ⟨by simp [putA, Act.put, h.1], fun i y hy => ?_⟩
  simp only [putA, List.getElem?_set] at hy
  simp only [Act.put]
  split at hy
  ·rename_i hdi
   subst hdi
   split at hy
   ·rename_i hlt
    simp only [Option.some.injEq] at hy; subst hy
    have : d < a.tmps.size := by rw [h.1]; exact hlt
    simpa [Array.getD, this] using hx
   ·cases hy
  ·rename_i hdi
   have := h.2 i y hy
   have e : (a.tmps.setIfInBounds d v).getD i undef = a.tmps.getD i undef := by
    simp only [Array.getD_eq_getD_getElem?, Array.getElem?_setIfInBounds, hdi, if_false]
   rw [e]; exact this
def guardOf (ops : Array Oper) (env : List AV) (o : Oper) : Option Bool :=
 match o.guard with
 | none => some true
 | some (j, want) => match (ops[j]?).bind (·.dst) with
  | some t => match env.getD t .any with
   | .bool b => some (b == want)
   | .und => some false
   | _ => none
  | none => none
theorem slot_und (h : Slot w D .und v) : v = undef := by
 simp only [Slot, Val, Cell] at h; cases h; rfl
theorem guardOf_sound {ops : Array Oper} {tmps : Array Value} (he : EnvRep w D env tmps) {o : Oper} {b : Bool} (h : guardOf ops env o = some b) : Region.wanted o (yielded ops tmps) = b := by
 unfold guardOf at h
 unfold Region.wanted
 split at h
 ·rename_i hg
  simp only [Option.some.injEq] at h; subst h
  simp [hg]
 ·rename_i j want hg
  simp only [hg]
  split at h
  ·rename_i t ht
   simp only [yielded, ht, Option.bind_some]
   have hs : Slot w D (env.getD t .any) (tmps.getD t undef) := by
    simp only [List.getD]
    cases hx : env[t]? with
    | none => exact slot_any _ _ _
    | some x => exact he.2 t x hx
   split at h
   ·rename_i c hc
    simp only [Option.some.injEq] at h; subst h
    have hlt : t < env.length := by
     rcases Nat.lt_or_ge t env.length with h | h
     ·exact h
     ·simp [List.getD, List.getElem?_eq_none h] at hc
    rw [hc] at hs
    have := slot_bool hs
    have hts : t < tmps.size := by rw [he.1]; exact hlt
    have e : tmps[t]? = some (.bool c) := by
     rw [Array.getElem?_eq_getElem hts]
     simp only [Array.getD_eq_getD_getElem?, Array.getElem?_eq_getElem hts, Option.getD_some] at this
     rw [this]
    simp only [e]
    cases c <;> cases want <;> rfl
   ·rename_i hc
    simp only [Option.some.injEq] at h; subst h
    rw [hc] at hs
    have hu : tmps.getD t undef = undef := slot_und hs
    cases hx : tmps[t]? with
    | none => rfl
    | some v =>
     simp only [Array.getD_eq_getD_getElem?, hx, Option.getD_some] at hu
     subst hu; rfl
   ·cases h
  ·cases h
def xOp (P : Program) (Φ : Table) (ops : Array Oper) (o : Oper) (s : St) : Option St :=
 match guardOf ops s.env o with
 | none => none
 | some false => some ⟨putA s.env o.dst .und, s.objs⟩
 | some true => match o.op with
  | .call { callee := .value (.func f), args, argTypes := _ } => (cOp Φ s.env s.objs (o.dst.getD 999998) f args.toList).map fun r => ⟨putA r.env o.dst r.x, r.objs⟩
  | op => match rOp P s.env s.objs op with
   | some x => some ⟨putA s.env o.dst x, s.objs⟩
   | none => (hOp P s.env s.objs o.dst op).map fun r => ⟨putA r.env o.dst r.x, r.objs⟩
def Sat (w0 : World) (M0 : Nat → Prop) (D0 : Names) (s : St) (a : Act) (w : World) : Prop :=
 a.defers = [] ∧ ∃ D, Mem w0 M0 s.objs D w ∧ EnvRep w D s.env a.tmps ∧ Pin D0 D s.objs
theorem put_defers (a : Act) (dst : Option Tmp) (v : Value) : (a.put dst v).defers = a.defers := by cases dst <;> rfl
theorem xOp_sound {P : Program} {Φ : Table} (hΦ : Sound P Φ) {ops : Array Oper} {o : Oper} {s s' : St} (h : xOp P Φ ops o s = some s') {w0 : World} {M0 : Nat → Prop} {D0 : Names} {a : Act} (hs : Sat w0 M0 D0 s a w)
  {rest : List Oper} {Q : Exit → Act → World → Prop} (hq : ∀ a' w', Sat w0 M0 D0 s' a' w' → wpList P ops Q rest a' w') : wpList P ops Q (o :: rest) a w := by
 obtain ⟨hd, D, hm, he, hp⟩ := hs
 unfold xOp at h
 split at h
 ·cases h
 ·rename_i hg
  simp only [Option.some.injEq] at h; subst h
  refine wpList_skip (guardOf_sound he hg) (hq _ _ ⟨by rw [put_defers]; exact hd, D, hm, he.put _ ?_, hp⟩)
  simp only [Slot, Val, Cell]; exact .und
 ·rename_i hg
  have hw := guardOf_sound he hg
  refine wpList_step fun K hK => ?_
  rw [if_pos hw]
  split at h
  ·rename_i f args tys hop
   obtain ⟨r, hr, rfl⟩ := Option.map_eq_some_iff.1 h
   obtain ⟨hf, hc⟩ := cOp_sound hΦ hm he hr
   unfold Oper.wp
   rw [run_call hop hf w]
   have : (args.map a.eval) = (args.toList.map a.eval).toArray := Array.ext' (by simp)
   rw [Oper.upon_enter, this]
   refine hc.mono fun e w' hpost => ?_
   obtain ⟨v, D', rfl, h1, h2, h3, h4⟩ := hpost
   exact hK _ _ (hq _ _ ⟨by rw [put_defers]; exact hd, D', h2, h3.put _ h1, h4 D0 hp⟩)
  ·split at h
   ·rename_i x hx
    simp only [Option.some.injEq] at h; subst h
    obtain ⟨v, h1, h2⟩ := rOp_sound hm he hx
    unfold Oper.wp
    rw [h2 w (Below.refl _ _)]
    exact hK _ _ (hq _ _ ⟨by rw [put_defers]; exact hd, D, hm, he.put _ h1, hp⟩)
   ·obtain ⟨r, hr, rfl⟩ := Option.map_eq_some_iff.1 h
    obtain ⟨v, w', D', h1, h2, h3, h4, h5⟩ := hOp_sound hm he hr
    unfold Oper.wp
    rcases h1 with h1 | ⟨h1, rfl⟩
    ·rw [h1]
     exact hK _ _ (hq _ _ ⟨by rw [put_defers]; exact hd, D', h3, h4.put _ h2, h5 D0 hp⟩)
    ·rw [h1]
     exact hK _ _ (hq _ _ ⟨by rw [put_defers]; exact hd, D', h3, h4.put _ h2, h5 D0 hp⟩)
def toV : AV → Value
 | .int k n => .int k n
 | .bool b => .bool b
 | .str s => .string ⟨s.toArray⟩
 | _ => undef
def toVV : AV → Value
 | .agg l => .agg (l.map toV).toArray
 | x => toV x
def toVS : AV → Value
 | .tup l => .tuple (l.map toVV).toArray
 | x => toVV x
theorem toV_eq {x : AV} (h : Cell w D x v) (hg : groundC x = true) : v = toV x := by
 cases x <;> simp only [groundC, Bool.false_eq_true] at hg <;> simp only [Cell] at h <;> cases h <;> rfl
theorem list_eq_map (f : AV → Value) {l : List AV} {vs : List Value} (hl : vs.length = l.length) (h : ∀ (i : Nat) (x : AV), l[i]? = some x → vs.getD i undef = f x) : vs = l.map f := by
 apply List.ext_getElem?
 intro i
 by_cases hi : i < l.length
 ·have := h i _ (List.getElem?_eq_getElem hi)
  rw [List.getElem?_map, List.getElem?_eq_getElem hi, List.getElem?_eq_getElem (by omega)]
  simp only [List.getD, List.getElem?_eq_getElem (show i < vs.length by omega), Option.getD_some] at this
  simp [this]
 ·rw [List.getElem?_eq_none (by omega), List.getElem?_eq_none (by simp; omega)]
theorem toVV_eq {x : AV} (h : Val w D x v) (hg : (match x with | .agg l => l.all groundC | x => groundC x) = true) : v = toVV x := by
 cases x with
 | agg l =>
  obtain ⟨vs, rfl, h2, h3⟩ := h
  have := list_eq_map toV h2 (fun i y hy => toV_eq (h3 i y hy).1 (List.all_eq_true.1 hg y (List.mem_of_getElem? hy)))
  rw [this]; rfl
 | _ => simp only [Val] at h; exact toV_eq h hg
theorem toVS_eq {x : AV} (h : Slot w D x v) (hg : ground x = true) : v = toVS x := by
 cases x with
 | tup l =>
  obtain ⟨vs, rfl, h2, h3⟩ := h
  have := list_eq_map toVV h2 (fun i y hy => toVV_eq (h3 i y hy) (by
   have := List.all_eq_true.1 hg y (List.mem_of_getElem? hy)
   cases y <;> exact this))
  rw [this]; rfl
 | agg l => simp only [Slot] at h; exact toVV_eq h hg
 | _ => simp only [Slot] at h; exact toVV_eq h hg
def qOp1 (P : Program) (Φ : Table) (ops : Array Oper) (o : Oper) (s : St) : Option St :=
 match guardOf ops s.env o with
 | none => none
 | some false => some ⟨putA s.env o.dst .und, s.objs⟩
 | some true => match o.op with
  | .call { callee := .value (.func f), args, argTypes := _ } => (cLend Φ s.env s.objs f args.toList).map fun r => ⟨putA r.env o.dst r.x, r.objs⟩
  | op => (rOp P s.env s.objs op).map fun x => ⟨putA s.env o.dst x, s.objs⟩
theorem grow_of_below {w w' : World} (h : Below w.heap.size w w') : Grow w w' (fun _ => False) :=
 ⟨⟨h.size, fun b hb _ => h.block b hb⟩, fun b hb => by unfold World.row World.shape?; rw [h.block b hb]⟩
theorem below_of_grow {w w' : World} (h : Grow w w' (fun _ => False)) (ho : w'.os = w.os) (ht : w'.tape = w.tape) (hp : w'.output = w.output) : Below w.heap.size w w' :=
 ⟨ho, ht, hp, h.size, fun b hb => h.same b hb (fun h => h)⟩
theorem cLend_quiet {P : Program} {Φ : Table} (hΦ : Sound P Φ) {w0 w : World} {M0 : Nat → Prop} {objs : List (Nat × Obj)} (hm : Mem w0 M0 objs D w) {a : Act} (he : EnvRep w D env a.tmps) {f : FuncId} {xs : List Operand} {r : HR}
  (h : cLend Φ env objs f xs = some r) : r.env = env ∧ r.objs = objs ∧ funOk P f = true ∧ Slot w D r.x (toVS r.x) ∧
   ∀ w', Below w.heap.size w w' → Calls P f (xs.map a.eval).toArray w' (fun e w'' => e = .returned (toVS r.x) ∧ Below w.heap.size w w'') := by
 unfold cLend at h
 split at h
 ·rename_i as has
  split at h
  ·rename_i hnf
   split at h
   ·rename_i x hx
    split at h
    ·rename_i hg
     simp only [Option.some.injEq] at h; subst h
     obtain ⟨hf, hc⟩ := hΦ f as [] ⟨x, [], none⟩ hx
     obtain ⟨hlen, hget⟩ := mapM_get has
     have hargs : ∀ w', Below w.heap.size w w' → ArgsRep w' (fun _ => none) as (xs.map a.eval) := by
      intro w' hw'
      refine ⟨by simp [hlen], fun i y hy => ?_⟩
      obtain ⟨z, hz, hl⟩ := hget i y hy
      rw [List.getElem?_map] at hz
      obtain ⟨o, ho, rfl⟩ := Option.map_eq_some_iff.1 hz
      have e : (xs.map a.eval).getD i undef = a.eval o := by simp [List.getD, List.getElem?_map, ho]
      rw [e]
      have hl0 := lend_sound hm (ev_sound hm.glob he o) hl (List.all_eq_true.1 hnf y (List.mem_of_getElem? hy))
      exact hl0.mono ((grow_of_below hw').weaken (fun _ _ h => h.elim)) (fun _ _ h => h) (fun b hb => by obtain ⟨n, hn⟩ := hb; cases hn) (fun b _ h => h)
     have gs : Slot w D x (toVS x) := by
      obtain ⟨e, w'', fr, ⟨v, D', _, _, hs, _⟩, _⟩ := hc w _ _ (mem_none w (hm.glob.mono (Grow.refl w _).toKeep fun b _ h => by obtain ⟨n, hn⟩ := h; cases hn)) (hargs w (Below.refl _ _)) []
      have hv := toVS_eq hs hg
      rw [← hv]
      exact ground_slot hs hg
     refine ⟨rfl, rfl, hf, gs, fun w' hw' => ?_⟩
     refine (hc w' _ _ (mem_none w' (hm.glob.mono ((grow_of_below hw').weaken (M' := D.M) fun _ _ h => h.elim).toKeep fun b _ h => by obtain ⟨n, hn⟩ := h; cases hn)) (hargs w' hw')).mono fun e w'' hpost => ?_
     obtain ⟨v, D', rfl, hm', hs, _⟩ := hpost
     have k : Grow w' w'' (fun _ => False) := hm'.grow.weaken (fun b _ hb => by obtain ⟨n, _, hn⟩ := hb; cases hn)
     have hb := below_of_grow k hm'.os hm'.tape hm'.output
     exact ⟨by rw [toVS_eq hs hg], hw'.trans (hb.mono hw'.size)⟩
    ·cases h
   ·cases h
  ·cases h
 ·cases h
end Go.Abs
namespace Go.Abs
open Go.RowKit
theorem qOp1_frame {P : Program} {Φ : Table} (hΦ : Sound P Φ) {ops : Array Oper} {o : Oper} {s s' : St} (h : qOp1 P Φ ops o s = some s') {w0 w : World} {M0 : Nat → Prop} {D : Names} {a : Act} (hm : Mem w0 M0 s.objs D w) (he : EnvRep w D s.env a.tmps) {C : World → Prop}
  (hC : ∀ w', C w' ↔ Below w.heap.size w w') {K : Act → Prop} (hK : ∀ a', a'.defers = a.defers → EnvRep w D s'.env a'.tmps → K a') (hobj : s'.objs = s.objs → True) :
  s'.objs = s.objs ∧ (if Region.wanted o (yielded ops a.tmps) then o.quiet P a C K else K (a.put o.dst undef)) := by
 unfold qOp1 at h
 split at h
 ·cases h
 ·rename_i hg
  simp only [Option.some.injEq] at h; subst h
  rw [if_neg (by rw [guardOf_sound he hg]; decide)]
  exact ⟨rfl, hK _ (put_defers _ _ _) (he.put _ (by simp only [Slot, Val, Cell]; exact .und))⟩
 ·rename_i hg
  rw [if_pos (guardOf_sound he hg)]
  split at h
  ·rename_i f args tys hop
   obtain ⟨r, hr, rfl⟩ := Option.map_eq_some_iff.1 h
   obtain ⟨h1, h2, hf, h3, h4⟩ := cLend_quiet hΦ hm he hr
   refine ⟨h2, toVS r.x, fun w' hw' => ?_, hK _ (put_defers _ _ _) ?_⟩
   ·unfold Oper.quietAt
    rw [run_call hop hf w']
    refine ⟨rfl, ?_⟩
    have : (args.map a.eval) = (args.toList.map a.eval).toArray := Array.ext' (by simp)
    rw [this]
    exact (h4 w' ((hC w').1 hw')).mono fun e w'' ⟨g1, g2⟩ => ⟨g1, (hC w'').2 g2⟩
   ·simp only [h1]; exact he.put _ h3
  ·obtain ⟨x, hx, rfl⟩ := Option.map_eq_some_iff.1 h
   obtain ⟨v, h1, h2⟩ := rOp_sound hm he hx
   refine ⟨rfl, v, fun w' hw' => ?_, hK _ (put_defers _ _ _) (he.put _ h1)⟩
   unfold Oper.quietAt
   rw [h2 w' ((hC w').1 hw')]
   exact ⟨rfl, rfl⟩
def blockQ (id : Nat) (Q : Exit → St → Prop) : Exit → St → Prop
 | .exit i, s => if i = id then Q .normal s else Q (.exit i) s
 | e, s => Q e s
theorem least_of {R : Nat → Prop} (h : ∃ n, R n) : ∃ n, R n ∧ ∀ m, R m → n ≤ m := by
 obtain ⟨n, hn⟩ := h
 induction n using Nat.strongRecOn with
 | _ n ih =>
  by_cases hc : ∃ m, m < n ∧ R m
  ·obtain ⟨m, hm, hr⟩ := hc; exact ih m hm hr
  ·refine ⟨n, hn, fun m hr => ?_⟩
   rcases Nat.lt_or_ge m n with hlt | hge
   ·exact (hc ⟨m, hlt, hr⟩).elim
   ·exact hge
noncomputable def leastN (R : Nat → Prop) : Nat := Classical.epsilon fun n => R n ∧ ∀ m, R m → n ≤ m
theorem leastN_spec {R : Nat → Prop} (h : ∃ n, R n) : R (leastN R) ∧ ∀ m, R m → leastN R ≤ m := Classical.epsilon_spec (least_of h)
def loopQ (I : Nat → St → Prop) (n : Nat) (Q : Exit → St → Prop) : Exit → St → Prop
 | .normal, s => ∃ m, m < n ∧ I m s
 | e, s => Q e s
def Weaker (pins : List Nat) (s s' : St) : Prop := ∀ w0 M0 D0 a w, (∀ n, n < top → (D0 n).isSome = true → n ∈ pins) → Sat w0 M0 D0 s a w → Sat w0 M0 D0 s' a w
end Go.Abs
namespace Go.Abs
open Go.RowKit
def gt : List AV → Nat → AV
 | [], _ => .any
 | x :: _, 0 => x
 | _ :: l, n + 1 => gt l n
theorem gt_eq : ∀ (l : List AV) (n : Nat), l.getD n .any = gt l n
 | [], _ => rfl
 | _ :: _, 0 => rfl
 | _ :: l, n + 1 => by simpa [gt] using gt_eq l n
def resA (P : Program) (s : St) : ResultVar → Option AV
 | .tmp t => some (gt s.env t)
 | .cell b T => match gt s.env b, cellTy P T with
  | .ref m sz i off, some (g, n) => (cellsAt s.objs m sz i off).bind (ldCells g n)
  | _, _ => none
def resL (P : Program) (s : St) : List ResultVar → Option (List AV)
 | [] => some []
 | r :: l => match resA P s r, resL P s l with
  | some x, some xs => some (x :: xs)
  | _, _ => none
def rvRun (tmps : Array Value) : ResultVar → Sem Value
 | .tmp t => pure (tmps.getD t undef)
 | .cell b T => do loadVar T (← asAddr (tmps.getD b undef))
theorem run_resL {P : Program} {w0 w : World} {M0 : Nat → Prop} {D : Names} {s : St} {a : Act} (hm : Mem w0 M0 s.objs D w) (he : EnvRep w D s.env a.tmps) : ∀ (l : List ResultVar) (xs : List AV), resL P s l = some xs →
  ∃ vs : List Value, vs.length = xs.length ∧ (∀ i x, xs[i]? = some x → Slot w D x (vs.getD i undef)) ∧
   (l.mapM (rvRun a.tmps)).run P w = .ok vs w
 | [], xs, h => by
  simp only [resL, Option.some.injEq] at h; subst h
  exact ⟨[], rfl, fun i x hx => by simp at hx, by simp⟩
 | r :: l, xs, h => by
  simp only [resL] at h
  split at h
  ·rename_i x xs' hx hxs
   simp only [Option.some.injEq] at h; subst h
   obtain ⟨vs, h1, h2, h3⟩ := run_resL hm he l xs' hxs
   have key : ∃ v, Slot w D x v ∧ (rvRun a.tmps r).run P w = .ok v w := by
    cases r with
    | tmp t =>
     simp only [resA, Option.some.injEq] at hx; subst hx
     refine ⟨a.tmps.getD t undef, ?_, by simp [rvRun]⟩
     have := ev_sound hm.glob he (.tmp t)
     simpa only [ev, gt_eq, Act.eval] using this
    | cell b T =>
     simp only [resA] at hx
     have hv := ev_sound hm.glob he (.tmp b)
     simp only [ev, gt_eq, Act.eval] at hv
     split at hx
     ·rename_i m sz i off g n hg hT
      rw [hg] at hv
      simp only [Slot, Val, Cell] at hv
      obtain ⟨bl, hD, hv⟩ := hv
      obtain ⟨cs, hcs, hx⟩ := Option.bind_eq_some_iff.1 hx
      obtain ⟨u, g1, g2⟩ := (row_obj hm hcs hD).load (P := P) hT hx
      refine ⟨u, g1, ?_⟩
      simp only [rvRun, hv, Sem.run_bind]
      have := g2 w ⟨rfl, rfl, rfl, Nat.le_refl _, fun _ _ => rfl⟩
      simpa [asAddr] using this
     ·cases hx
   obtain ⟨v, k1, k2⟩ := key
   refine ⟨v :: vs, by simp [h1], fun i y hy => ?_, ?_⟩
   ·cases i with
    | zero => simp only [List.getElem?_cons_zero, Option.some.injEq] at hy; subst hy; simpa using k1
    | succ i => simpa using h2 i y (by simpa using hy)
   ·simp only [List.mapM_cons, Sem.run_bind, k2, Result.andThen_ok, h3, Sem.run_pure]
  ·cases h
def noT : Table := fun _ _ _ => none
theorem noT_sound {P : Program} : Sound P noT := fun _ _ _ _ h => by cases h
end Go.Abs
namespace Go.Abs
open Go.RowKit
section
variable {P : Program} {ops : Array Oper} {md : Region.Mode} {C : World → Prop}
def anyHead (P : Program) (md : Region.Mode) (ops : Array Oper) (C : World → Prop) (n : Nat) (L : Array Bool → Act → Prop) : Nat → Array Bool → Act → Prop
 | 0, listed, a => L listed a
 | f + 1, listed, a => Region.ready md ops listed ≠ [] ∧ ∀ i ∈ Region.ready md ops listed, i < n ∧ qOp P ops C i (anyHead P md ops C n L f (listed.setIfInBounds i true)) a
theorem any_of_head {n g : Nat} {L : Array Bool → Act → Prop} {Q' : Exit → Act → World → Prop} (hL : ∀ listed a w, C w → L listed a → wpAny P md ops Q' g listed a w) :
  ∀ (f : Nat) (listed : Array Bool) (a : Act) (w : World), C w → anyHead P md ops C n L f listed a → wpAny P md ops Q' (f + g) listed a w
 | 0, _, _, _, hw, h => by rw [Nat.zero_add]; exact hL _ _ _ hw h
 | f + 1, listed, a, w, hw, h => by
  rw [show f + 1 + g = (f + g) + 1 by omega]
  exact ⟨fun h0 => absurd h0 h.1, fun i hi => wpOp_of_qOp hw (fun a' w' hw' h' => any_of_head hL f _ a' w' hw' h') (h.2 i hi).2⟩
theorem head_first {n i : Nat} {oi : Oper} {v : Value} {L : Array Bool → Act → Prop} (hi : ops[i]? = some oi) (hsel : ∀ (j : Nat) (o : Oper) cs b, ops[j]? = some o → o.op ≠ .select cs b)
  (hs : Region.sinkB md ops n = true) (hc : Region.chainB md ops n = true) (hn : n < ops.size) (hin : i < n) (hdone : ∀ listed a, L listed a → ∀ j ∈ Region.ready md ops listed, n ≤ j) :
  ∀ (f : Nat) (listed : Array Bool) (a : Act), HeadInv md ops n listed →
   (∀ j oj, ops[j]? = some oj → j ≠ i → listed.getD j true = false → (∀ e ∈ oj.after, Region.binds md e = true → e.on ≠ i) → oi.apart ops oj = true) →
   i ∈ Region.ready md ops listed → YieldsIn P ops C oi v a →
   anyHead P md ops C n L f (listed.setIfInBounds i true) (a.put oi.dst v) → anyHead P md ops C n L (f + 1) listed a := by
 intro f
 induction f with
 | zero =>
  intro listed a inv _ hr hy H
  have hun := (mem_ready.1 hr).1
  refine ⟨fun h => (by rw [h] at hr; cases hr), fun j hj => ?_⟩
  have hjn : j < n := by
   rcases Nat.lt_or_ge j n with h | h
   ·exact h
   ·exact absurd hj (tail_waits hs hc hn inv _ i rfl hin hun j h)
  refine ⟨hjn, ?_⟩
  rcases Classical.em (j = i) with rfl | hji
  ·exact hy.qOp hi H
  ·have := hdone _ _ H j (ready_mono hj hji)
   omega
 | succ f ih =>
  intro listed a inv hfree hr hy H
  have hun := (mem_ready.1 hr).1
  refine ⟨fun h => (by rw [h] at hr; cases hr), fun j hj => ?_⟩
  have hjn : j < n := by
   rcases Nat.lt_or_ge j n with h | h
   ·exact h
   ·exact absurd hj (tail_waits hs hc hn inv _ i rfl hin hun j h)
  refine ⟨hjn, ?_⟩
  rcases Classical.em (j = i) with rfl | hji
  ·exact hy.qOp hi H
  ·have h1 := (H.2 j (ready_mono hj hji)).2
   obtain ⟨hjun, oj, hoj, hall⟩ := mem_ready.1 hj
   have hnot : ∀ e ∈ oj.after, Region.binds md e = true → e.on ≠ i := fun e he hb heq => by
    have h1 := hall e he hb
    rw [heq, getD_both hun] at h1
    cases h1
   have h2 := qOp_put hoj (hfree j oj hoj hji hjun hnot) (fun cs b => hsel i oi cs b hi) (fun cs b => hsel j oj cs b hoj) hy h1
   refine qOp_mono (fun a' h3 => ih (listed.setIfInBounds j true) a' (inv.set hj hjn) (fun k ok hk hki hun' hno => hfree k ok hk hki ?_ hno) (ready_mono hr (Ne.symm hji)) h3.1 ?_) h2
   ·rcases Classical.em (j = k) with rfl | hjk
    ·exact hjun
    ·rw [getD_set_ne true hjk] at hun'; exact hun'
   ·rw [Array.setIfInBounds_comm _ _ hji]
    exact h3.2
theorem head_lex {n g : Nat} {Lq : Act → Prop} (hsel : Region.noSelect ops = true) (hs : Region.sinkB md ops n = true) (hc : Region.chainB md ops n = true) (hn : n < ops.size) :
  ∀ (l : List Oper) (k : Nat) (listed : Array Bool) (a : Act), (∀ j, j < l.length → l[j]? = ops[k + j]?) → k + l.length = n → HeadInv md ops n listed →
  Region.lexHead md ops g l.length k listed = true → wpQuiet P ops C Lq l a →
  anyHead P md ops C n (fun listed' a' => Region.seqB md ops g n listed' = true ∧ Lq a') l.length listed a
 | [], k, listed, a, _, hk, _, hB, h => by
  have : k = n := by simpa using hk
  subst this
  exact ⟨by simpa [Region.lexHead] using hB, h⟩
 | o :: l, k, listed, a, hl, hk, inv, hB, h => by
  have h0 : ops[k]? = some o := by simpa using (hl 0 (by simp)).symm
  simp only [List.length_cons, Region.lexHead, Bool.and_eq_true] at hB
  obtain ⟨⟨hr, hf⟩, hB'⟩ := hB
  have hkn : k < n := by simp only [List.length_cons] at hk; omega
  have hr' : k ∈ Region.ready md ops listed := by simpa using hr
  have hst : qOp P ops C k (wpQuiet P ops C Lq l) a := by unfold qOp; simp only [h0]; exact h
  obtain ⟨v, hy, hK⟩ := yieldsIn_of_qOp h0 hst
  exact head_first h0 (Region.noSelect_spec hsel) hs hc hn hkn (fun listed' a' hL => seqB_ready hL.1) l.length listed a inv (Region.free_spec h0 hf) hr' hy
   (head_lex hsel hs hc hn l (k + 1) _ _ (fun j hj => by have := hl (j + 1) (by simp; omega); simpa [Nat.add_assoc, Nat.add_comm 1 j] using this) (by simp only [List.length_cons] at hk; omega) (inv.set hr' hkn) hB' hK)
end
end Go.Abs
namespace Go.Abs
theorem wrapI {x : Int} (h1 : -9223372036854775808 ≤ x) (h2 : x ≤ 9223372036854775807) : IntKind.i64.wrap x = x := by
 have e1 : ((2 : Int) ^ IntKind.i64.bits) = 18446744073709551616 := by decide
 have e2 : ((2 : Int) ^ (IntKind.i64.bits - 1)) = 9223372036854775808 := by decide
 simp only [IntKind.wrap, e1, e2, IntKind.signed, Bool.true_and, decide_eq_true_eq]
 split <;> omega
theorem settle_8 {xs : List Operand} {env : List AV} {objs : List (Nat × Abs.Obj)} (h : firstName (xs.flatMap fun o => cellList (ev env o)) = none) : Go.Abs.settle 8 xs env objs = some (env, objs) := by
 show Go.Abs.settle (7 + 1) xs env objs = _; simp only [Go.Abs.settle, h]
end Go.Abs
namespace Go.Abs
open Go.RowKit
variable {v : Value} {i : Nat}
section
variable {P : Program} {ops : Array Oper} {md : Region.Mode} {B : World} {k : Nat}
def quietF (P : Program) (o : Oper) (a : Act) (B : World) (v : Value) : Prop :=
 ∀ w1, Below B.heap.size B w1 → ∀ w, Below w1.heap.size w1 w → o.quietAt P a (fun w' => Below w1.heap.size w1 w') w v
def Yd (P : Program) (ops : Array Oper) (B : World) (k i : Nat) (o : Oper) (v : Value) (a : Act) : Prop :=
 (i = k ∧ v = undef) ∨ (i ≠ k ∧ ((Region.wanted o (yielded ops a.tmps) = true ∧ quietF P o a B v) ∨ (Region.wanted o (yielded ops a.tmps) = false ∧ v = undef)))
def qK (P : Program) (ops : Array Oper) (B : World) (k i : Nat) (K : Act → Prop) (a : Act) : Prop :=
 match ops[i]? with
 | none => K a
 | some o => ∃ v, Yd P ops B k i o v a ∧ K (a.put o.dst v)
theorem Yd.same {o : Oper} {a a' : Act} (hy : Yd P ops B k i o v a) (he : execOp a'.eval o = execOp a.eval o)
  (hw : Region.wanted o (yielded ops a'.tmps) = Region.wanted o (yielded ops a.tmps)) : Yd P ops B k i o v a' := by
 unfold Yd quietF Oper.quietAt at *
 rw [he, hw]
 exact hy
theorem Yd.q {o : Oper} {a : Act} (hi : ops[i]? = some o) (hy : Yd P ops B k i o v a) {K : Act → Prop} (h : K (a.put o.dst v)) : qK P ops B k i K a := by
 unfold qK; simp only [hi]; exact ⟨v, hy, h⟩
theorem qK_mono {a : Act} {K K' : Act → Prop} (h : ∀ a, K a → K' a) (hh : qK P ops B k i K a) : qK P ops B k i K' a := by
 unfold qK at *
 split
 ·rename_i ho; simp only [ho] at hh; exact h _ hh
 ·rename_i o ho; simp only [ho] at hh; obtain ⟨v, h1, h2⟩ := hh; exact ⟨v, h1, h _ h2⟩
theorem qK_put {i j : Nat} {oi oj : Oper} (hj : ops[j]? = some oj) (hap : oi.apart ops oj = true)
  (hsi : ∀ cs b, oi.op ≠ .select cs b) (hsj : ∀ cs b, oj.op ≠ .select cs b) {K : Act → Prop} {a : Act}
  (hy : Yd P ops B k i oi v a) (h : qK P ops B k j K (a.put oi.dst v)) : qK P ops B k j (fun a' => Yd P ops B k i oi v a' ∧ K (a'.put oi.dst v)) a := by
 obtain ⟨h1, h2, h3⟩ := Oper.apart_spec hap
 unfold qK at *
 simp only [hj] at *
 obtain ⟨u, hu, hn⟩ := h
 refine ⟨u, hu.same (execOp_put oj hsj a oi.dst v h1).symm (wanted_put oj a oi.dst v h1).symm, hy.same (execOp_put oi hsi a oj.dst u h3) (wanted_put oi a oj.dst u h3), ?_⟩
 rw [← Act.put_comm a v u h2]; exact hn
def headK (P : Program) (md : Region.Mode) (ops : Array Oper) (B : World) (k n : Nat) (L : Array Bool → Act → Prop) : Nat → Array Bool → Act → Prop
 | 0, listed, a => L listed a
 | f + 1, listed, a => Region.ready md ops listed ≠ [] ∧ ∀ i ∈ Region.ready md ops listed, i < n ∧ qK P ops B k i (headK P md ops B k n L f (listed.setIfInBounds i true)) a
theorem headK_first {n i : Nat} {oi : Oper} {L : Array Bool → Act → Prop} (hi : ops[i]? = some oi) (hsel : ∀ (j : Nat) (o : Oper) cs b, ops[j]? = some o → o.op ≠ .select cs b)
  (hs : Region.sinkB md ops n = true) (hc : Region.chainB md ops n = true) (hn : n < ops.size) (hin : i < n) (hdone : ∀ listed a, L listed a → ∀ j ∈ Region.ready md ops listed, n ≤ j) :
  ∀ (f : Nat) (listed : Array Bool) (a : Act), HeadInv md ops n listed →
   (∀ j oj, ops[j]? = some oj → j ≠ i → listed.getD j true = false → (∀ e ∈ oj.after, Region.binds md e = true → e.on ≠ i) → oi.apart ops oj = true) →
   i ∈ Region.ready md ops listed → Yd P ops B k i oi v a →
   headK P md ops B k n L f (listed.setIfInBounds i true) (a.put oi.dst v) → headK P md ops B k n L (f + 1) listed a := by
 intro f
 induction f with
 | zero =>
  intro listed a inv _ hr hy H
  have hun := (mem_ready.1 hr).1
  refine ⟨fun h => (by rw [h] at hr; cases hr), fun j hj => ?_⟩
  have hjn : j < n := by
   rcases Nat.lt_or_ge j n with h | h
   ·exact h
   ·exact absurd hj (tail_waits hs hc hn inv _ i rfl hin hun j h)
  refine ⟨hjn, ?_⟩
  rcases Classical.em (j = i) with rfl | hji
  ·exact hy.q hi H
  ·have := hdone _ _ H j (ready_mono hj hji)
   omega
 | succ f ih =>
  intro listed a inv hfree hr hy H
  have hun := (mem_ready.1 hr).1
  refine ⟨fun h => (by rw [h] at hr; cases hr), fun j hj => ?_⟩
  have hjn : j < n := by
   rcases Nat.lt_or_ge j n with h | h
   ·exact h
   ·exact absurd hj (tail_waits hs hc hn inv _ i rfl hin hun j h)
  refine ⟨hjn, ?_⟩
  rcases Classical.em (j = i) with rfl | hji
  ·exact hy.q hi H
  ·have h1 := (H.2 j (ready_mono hj hji)).2
   obtain ⟨hjun, oj, hoj, hall⟩ := mem_ready.1 hj
   have hnot : ∀ e ∈ oj.after, Region.binds md e = true → e.on ≠ i := fun e he hb heq => by
    have h1 := hall e he hb
    rw [heq, getD_both hun] at h1
    cases h1
   have h2 := qK_put hoj (hfree j oj hoj hji hjun hnot) (fun cs b => hsel i oi cs b hi) (fun cs b => hsel j oj cs b hoj) hy h1
   refine qK_mono (fun a' h3 => ih (listed.setIfInBounds j true) a' (inv.set hj hjn) (fun x ox hk hki hun' hno => hfree x ox hk hki ?_ hno) (ready_mono hr (Ne.symm hji)) h3.1 ?_) h2
   ·rcases Classical.em (j = x) with rfl | hjk
    ·exact hjun
    ·rw [getD_set_ne true hjk] at hun'; exact hun'
   ·rw [Array.setIfInBounds_comm _ _ hji]
    exact h3.2
def wpK (P : Program) (ops : Array Oper) (B : World) (k : Nat) (Q : Act → Prop) : List Oper → Nat → Act → Prop
 | [], _, a => Q a
 | o :: l, i, a => ∃ v, Yd P ops B k i o v a ∧ wpK P ops B k Q l (i + 1) (a.put o.dst v)
theorem headK_lex {n g : Nat} {Lq : Act → Prop} (hsel : Region.noSelect ops = true) (hs : Region.sinkB md ops n = true) (hc : Region.chainB md ops n = true) (hn : n < ops.size) :
  ∀ (l : List Oper) (j : Nat) (listed : Array Bool) (a : Act), (∀ i, i < l.length → l[i]? = ops[j + i]?) → j + l.length = n → HeadInv md ops n listed →
  Region.lexHead md ops g l.length j listed = true → wpK P ops B k Lq l j a →
  headK P md ops B k n (fun listed' a' => Region.seqB md ops g n listed' = true ∧ Lq a') l.length listed a
 | [], j, listed, a, _, hk, _, hB, h => by
  have : j = n := by simpa using hk
  subst this
  exact ⟨by simpa [Region.lexHead] using hB, h⟩
 | o :: l, j, listed, a, hl, hk, inv, hB, h => by
  have h0 : ops[j]? = some o := by simpa using (hl 0 (by simp)).symm
  simp only [List.length_cons, Region.lexHead, Bool.and_eq_true] at hB
  obtain ⟨⟨hr, hf⟩, hB'⟩ := hB
  have hkn : j < n := by simp only [List.length_cons] at hk; omega
  have hr' : j ∈ Region.ready md ops listed := by simpa using hr
  obtain ⟨v, hy, hK⟩ := h
  exact headK_first h0 (Region.noSelect_spec hsel) hs hc hn hkn (fun listed' a' hL => seqB_ready hL.1) l.length listed a inv (Region.free_spec h0 hf) hr' hy
   (headK_lex hsel hs hc hn l (j + 1) _ _ (fun i hi => by have := hl (i + 1) (by simp; omega); simpa [Nat.add_assoc, Nat.add_comm 1 i] using this) (by simp only [List.length_cons] at hk; omega) (inv.set hr' hkn) hB' hK)
def Come (B : World) (d : Tmp) (ob : _root_.Go.Obj) (a' a : Act) (w : World) : Prop :=
 ∃ w1, Below B.heap.size B w1 ∧ Below (w1.alloc ob).heap.size (w1.alloc ob) w ∧ a = a'.put (some d) (.pointer (some ⟨w1.heap.size, 0, none⟩))
theorem sim_head {n g : Nat} {L : Array Bool → Act → Prop} {Q' : Exit → Act → World → Prop} {ok : Oper} {d : Tmp} {ob : _root_.Go.Obj} (hk : ops[k]? = some ok) (hkg : ok.guard = none) (hkd : ok.dst = some d)
  (hrun : ∀ (ρ : Operand → Value) (w : World), (execOp ρ ok).run P w = .ok (.value (.pointer (some ⟨w.heap.size, 0, none⟩))) (w.alloc ob))
  (hsel : ∀ (j : Nat) (o : Oper) cs b, ops[j]? = some o → o.op ≠ .select cs b)
  (hnr : ∀ i o, i < n → i ≠ k → ops[i]? = some o → d ∉ o.looksAt ops ∧ o.dst ≠ some d)
  (hL : ∀ listed a' a w, L listed a' → HeadInv md ops n listed → (if listed.getD k false = true then Come B d ob a' a w else a = a' ∧ Below B.heap.size B w) → wpAny P md ops Q' g listed a w) :
  ∀ (f : Nat) (listed : Array Bool) (a' a : Act) (w : World), headK P md ops B k n L f listed a' → HeadInv md ops n listed →
   (if listed.getD k false = true then Come B d ob a' a w else a = a' ∧ Below B.heap.size B w) → wpAny P md ops Q' (f + g) listed a w
 | 0, _, _, _, _, h, inv, hc => by rw [Nat.zero_add]; exact hL _ _ _ _ h inv hc
 | f + 1, listed, a', a, w, h, inv, hc => by
  rw [show f + 1 + g = (f + g) + 1 by omega]
  refine ⟨fun h0 => absurd h0 h.1, fun i hi => ?_⟩
  obtain ⟨hin, hq⟩ := h.2 i hi
  have inv' := inv.set hi hin
  obtain ⟨hun, oi, hoi, hall⟩ := mem_ready.1 hi
  unfold wpOp
  simp only [hoi]
  unfold qK at hq
  simp only [hoi] at hq
  obtain ⟨v, hy, hn⟩ := hq
  rcases Classical.em (i = k) with hik | hik
  ·
   have : oi = ok := Option.some.inj (hoi.symm.trans (by rw [hik]; exact hk))
   subst this
   rw [if_neg (by rw [← hik, getD_both hun]; decide)] at hc
   obtain ⟨rfl, hw⟩ := hc
   rw [if_pos (by simp [Region.wanted, hkg])]
   refine .inl ?_
   unfold Oper.wp
   rw [hrun]
   obtain rfl : v = undef := by
    rcases hy with ⟨_, e⟩ | ⟨e, _⟩
    ·exact e
    ·exact absurd hik e
   refine sim_head hk hkg hkd hrun hsel hnr hL f _ (a.put (some d) undef) _ _ (by rw [hkd] at hn; exact hn) inv' ?_
   rw [if_pos (by
    have hlt : i < listed.size := by
     rcases Nat.lt_or_ge i listed.size with h | h
     ·exact h
     ·simp [h] at hun
    rw [← hik]; simp [hlt])]
   refine ⟨w, hw, Below.refl _ _, ?_⟩
   rw [hkd]
   simp [Act.put]
  ·rcases hy with ⟨h, _⟩ | ⟨_, hy⟩
   ·exact absurd h hik
   obtain ⟨hd1, hd2⟩ := hnr i oi hin hik hoi
   have hset : (listed.setIfInBounds i true).getD k false = listed.getD k false := getD_set_ne false hik
   by_cases hkl : listed.getD k false = true
   ·rw [if_pos hkl] at hc
    obtain ⟨w1, hw1, hw2, rfl⟩ := hc
    have e1 : execOp (a'.put (some d) (.pointer (some ⟨w1.heap.size, 0, none⟩))).eval oi = execOp a'.eval oi := execOp_put (ops := ops) oi (fun cs b => hsel i oi cs b hoi) a' (some d) _ (fun x hx => by cases hx; exact hd1)
    have e2 := wanted_put (ops := ops) oi a' (some d) (.pointer (some ⟨w1.heap.size, 0, none⟩)) (fun x hx => by cases hx; exact hd1)
    have next : ∀ w', Below (w1.alloc ob).heap.size (w1.alloc ob) w' → wpAny P md ops Q' (f + g) (listed.setIfInBounds i true) ((a'.put (some d) (.pointer (some ⟨w1.heap.size, 0, none⟩))).put oi.dst v) w' := fun w' hw' => by
     refine sim_head hk hkg hkd hrun hsel hnr hL f _ (a'.put oi.dst v) _ w' hn inv' ?_
     rw [hset, if_pos hkl]
     exact ⟨w1, hw1, hw', Act.put_comm a' _ v (fun x hx h => hd2 (by cases hx; exact h))⟩
    rw [e2]
    rcases hy with ⟨hwn, hyq⟩ | ⟨hwn, rfl⟩
    ·rw [if_pos hwn]
     refine .inl (Oper.wp_of_quiet (C := fun w' => Below (w1.alloc ob).heap.size (w1.alloc ob) w') (K := fun a'' => a'' = (a'.put (some d) (.pointer (some ⟨w1.heap.size, 0, none⟩))).put oi.dst v) hw2 (fun a'' w'' hw'' ha => by subst ha; exact next w'' hw'') ⟨v, fun w' hw' => ?_, rfl⟩)
     unfold Oper.quietAt
     rw [e1]
     exact hyq (w1.alloc ob) (Below.alloc hw1 hw1.size ob) w' hw'
    ·rw [if_neg (by rw [hwn]; decide)]
     exact next w hw2
   ·rw [if_neg hkl] at hc
    obtain ⟨rfl, hw⟩ := hc
    have next : ∀ w', Below B.heap.size B w' → wpAny P md ops Q' (f + g) (listed.setIfInBounds i true) (a.put oi.dst v) w' := fun w' hw' => by
     refine sim_head hk hkg hkd hrun hsel hnr hL f _ (a.put oi.dst v) _ w' hn inv' ?_
     rw [hset, if_neg hkl]
     exact ⟨rfl, hw'⟩
    rcases hy with ⟨hwn, hyq⟩ | ⟨hwn, rfl⟩
    ·rw [if_pos hwn]
     exact .inl (Oper.wp_of_quiet (C := fun w' => Below B.heap.size B w') (K := fun a'' => a'' = a.put oi.dst v) hw (fun a'' w'' hw'' ha => by subst ha; exact next w'' hw'') ⟨v, fun w' hw' => hyq B (Below.refl _ _) w' hw', rfl⟩)
    ·rw [if_neg (by rw [hwn]; decide)]
     exact next w hw
end
end Go.Abs
namespace Go.Abs
open Go.RowKit
theorem below_trans {a b c : World} (h : Below a.heap.size a b) (k : Below b.heap.size b c) : Below a.heap.size a c := h.trans (k.mono h.size)
theorem envRep_below {w w' : World} {D : Names} {env : List AV} {tmps : Array Value} (h : EnvRep w D env tmps) (k : Below w.heap.size w w') (hlt : ∀ b, D.M b → b < w.heap.size) : EnvRep w' D env tmps :=
 h.mono ((grow_of_below k).weaken (fun _ _ h => h.elim)) (fun _ _ h => h) hlt (fun _ _ h => h)
theorem qOp1_yd {P : Program} {Φ : Table} (hΦ : Sound P Φ) {ops : Array Oper} {o : Oper} {s s' : St} (h : qOp1 P Φ ops o s = some s') {w0 B : World} {M0 : Nat → Prop} {D : Names} {a : Act} (hm : Mem w0 M0 s.objs D B) (he : EnvRep B D s.env a.tmps)
  {k i : Nat} (hik : i ≠ k) : s'.objs = s.objs ∧ ∃ v, Yd P ops B k i o v a ∧ EnvRep B D s'.env (a.put o.dst v).tmps := by
 unfold qOp1 at h
 split at h
 ·cases h
 ·rename_i hg
  simp only [Option.some.injEq] at h; subst h
  exact ⟨rfl, undef, .inr ⟨hik, .inr ⟨guardOf_sound he hg, rfl⟩⟩, he.put _ (by simp only [Slot, Val, Cell]; exact .und)⟩
 ·rename_i hg
  have hwn := guardOf_sound he hg
  split at h
  ·rename_i f args tys hop
   obtain ⟨r, hr, rfl⟩ := Option.map_eq_some_iff.1 h
   obtain ⟨h1, h2, hf, h3, _⟩ := cLend_quiet hΦ hm he hr
   refine ⟨h2, toVS r.x, .inr ⟨hik, .inl ⟨hwn, fun w1 hw1 w' hw' => ?_⟩⟩, ?_⟩
   ·unfold Oper.quietAt
    rw [run_call hop hf w']
    refine ⟨rfl, ?_⟩
    have : (args.map a.eval) = (args.toList.map a.eval).toArray := Array.ext' (by simp)
    rw [this]
    obtain ⟨_, _, _, _, g⟩ := cLend_quiet hΦ (hm.ext (grow_of_below hw1) hw1.os hw1.tape hw1.output) (envRep_below he hw1 hm.lt) hr
    exact g w' hw'
   ·simp only [h1]; exact he.put _ h3
  ·obtain ⟨x, hx, rfl⟩ := Option.map_eq_some_iff.1 h
   obtain ⟨v, h1, h2⟩ := rOp_sound hm he hx
   refine ⟨rfl, v, .inr ⟨hik, .inl ⟨hwn, fun w1 hw1 w' hw' => ?_⟩⟩, he.put _ h1⟩
   unfold Oper.quietAt
   rw [h2 w' (below_trans hw1 hw')]
   exact ⟨rfl, rfl⟩
def aloneB (ops : Array Oper) (n k : Nat) (d : Tmp) : Bool := (List.range n).all fun i => i == k || (match ops[i]? with | some o => !(o.looksAt ops).contains d && o.dst != some d | none => true)
end Go.Abs
