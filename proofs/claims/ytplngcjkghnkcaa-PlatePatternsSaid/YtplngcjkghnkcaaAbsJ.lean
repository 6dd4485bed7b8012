/- The operations that make or change objects, 1: box, alloc, buildSlice, makeSlice, string to bytes. -/
import Derived.Test.YtplngcjkghnkcaaAbsI
namespace Go.Abs
open Go.RowKit

def chunk (sz : Nat) : Nat → List AV → List (List AV)
  | 0, _ => []
  | n + 1, l => l.take sz :: chunk sz n (l.drop sz)

theorem chunk_spec (sz : Nat) : ∀ (n : Nat) (l : List AV), n * sz ≤ l.length → (chunk sz n l).length = n ∧ ∀ (j : Nat) (cs : List AV), (chunk sz n l)[j]? = some cs → cs.length = sz ∧ ∀ (i : Nat) (x : AV), cs[i]? = some x → l[j * sz + i]? = some x
  | 0, l, _ => by simp [chunk]
  | n + 1, l, h => by
    rw [Nat.add_mul, Nat.one_mul] at h
    obtain ⟨h1, h2⟩ := chunk_spec sz n (l.drop sz) (by simp; omega)
    refine ⟨by simp [chunk, h1], fun j cs hj => ?_⟩
    cases j with
    | zero =>
      simp only [chunk, List.getElem?_cons_zero, Option.some.injEq] at hj
      subst hj
      refine ⟨by simp; omega, fun i x hx => ?_⟩
      rw [List.getElem?_take] at hx
      split at hx
      · simpa using hx
      · cases hx
    | succ j =>
      simp only [chunk, List.getElem?_cons_succ] at hj
      obtain ⟨g1, g2⟩ := h2 j cs hj
      refine ⟨g1, fun i x hx => ?_⟩
      have := g2 i x hx
      rw [List.getElem?_drop] at this
      rw [← this]; congr 1; rw [Nat.add_mul]; omega

structure HR where
  x : AV
  env : List AV
  objs : List (Nat × Obj)

def sizeB (P : Program) (T : TypeId) : Option Nat := (P.info? T).map (·.bytes)
def elemId (P : Program) (T : TypeId) : Option TypeId := match P.underlying T with | some (.slice e) => some e | _ => none

def hBox (env : List AV) (objs : List (Nat × Obj)) (d : Nat) (x : AV) : Option HR :=
  match look d objs, cellsOf x with
  | none, some cs => some ⟨.ref d cs.length 0 0, env, (d, .box cs) :: objs⟩
  | _, _ => none

def hAlloc (P : Program) (env : List AV) (objs : List (Nat × Obj)) (d : Nat) (T : TypeId) : Option HR :=
  match look d objs, zeroCells P T with
  | none, some z => match arrElem P T with
    | some (n, sz) => if n * sz = z.length ∧ n ≤ lim then some ⟨.ref d sz 0 0, env, (d, .arr sz (chunk sz n z)) :: objs⟩ else none
    | none => some ⟨.ref d z.length 0 0, env, (d, .box z) :: objs⟩
  | _, _ => none

/-- The names that were handed in (boxes) stand for what they stood for. -/
def Pin (D0 D : Names) (objs : List (Nat × Obj)) : Prop := ∀ n d, D0 n = some d → D n = some d ∧ (n < top → ∃ cs, look n objs = some (.box cs))

theorem Pin.ins {D0 D : Names} {objs : List (Nat × Obj)} (h : Pin D0 D objs) {d : Nat} (hd : D d = none) (y : Option Nat) (obj : Obj) : Pin D0 (D.ins d y) ((d, obj) :: objs) := by
  intro n e hn
  obtain ⟨h1, h2⟩ := h n e hn
  have hne : n ≠ d := fun h => by subst h; rw [hd] at h1; cases h1
  exact ⟨by simp [Names.ins, hne, h1], fun hK => by simpa [look, Ne.symm hne] using h2 hK⟩

theorem Pin.letgo {D0 D : Names} {objs : List (Nat × Obj)} (h : Pin D0 D objs) {m sz : Nat} {l : List (List AV)} (hm : look m objs = some (.arr sz l)) (hK : m < top) (φ : AV → AV) : Pin D0 (D.del m) (mapO φ (drop m objs)) := by
  intro n e hn
  obtain ⟨h1, h2⟩ := h n e hn
  have hne : n ≠ m := fun he => by
    subst he
    obtain ⟨cs, hc⟩ := h2 hK
    rw [hm] at hc; cases hc
  refine ⟨by simp [Names.del, hne, h1], fun hK' => ?_⟩
  obtain ⟨cs, hc⟩ := h2 hK'
  exact ⟨cs.map φ, by rw [look_mapO, look_drop_ne (Ne.symm hne), hc]; rfl⟩

theorem Pin.upd {D0 D : Names} {objs : List (Nat × Obj)} (h : Pin D0 D objs) {m : Nat} {o o' : Obj} (hm : look m objs = some o) (ho : (∃ cs, o' = .box cs) ∨ ∃ sz l, o = .arr sz l) : Pin D0 D (upd m o' objs) := by
  intro n e hn
  obtain ⟨h1, h2⟩ := h n e hn
  refine ⟨h1, fun hK => ?_⟩
  by_cases hne : n = m
  · subst hne
    rw [look_upd o' objs (by simp [hm])]
    rcases ho with ⟨cs, rfl⟩ | ⟨sz, l, rfl⟩
    · exact ⟨cs, rfl⟩
    · obtain ⟨cs, hc⟩ := h2 hK
      rw [hm] at hc; cases hc
  · rw [look_upd_ne o' (Ne.symm hne)]; exact h2 hK

def Done (P : Program) (w0 : World) (M0 : Nat → Prop) (a : Act) (w : World) (D : Names) (objs : List (Nat × Obj)) (s : Sem Next) (r : HR) : Prop :=
  ∃ v w' D', (s.run P w = .ok (.value v) w' ∨ (s.run P w = .ok .skip w' ∧ v = undef)) ∧ Slot w' D' r.x v ∧ Mem w0 M0 r.objs D' w' ∧ EnvRep w' D' r.env a.tmps ∧ ∀ D0, Pin D0 D objs → Pin D0 D' r.objs

theorem ins_mono {w : World} {D : Names} (hlt : ∀ b, D.M b → b < w.heap.size) {d : Nat} (hd : D d = none) (o : _root_.Go.Obj) {x : AV} {v : Value} (h : Cell w D x v) : Cell (w.alloc o) (D.ins d (some w.heap.size)) x v := by
  obtain ⟨c1, c2⟩ := carry_ins (w := w) (x := some w.heap.size) hd (fun b h => by cases h; exact Nat.le_refl _)
  exact h.mono (grow_alloc w o D.M) c1 hlt c2

theorem ins_imm {w : World} {D : Names} {d : Nat} (hd : D d = none) (o : _root_.Go.Obj) {x : AV} {v : Value} (h : Imm w D.M x v) : Imm (w.alloc o) (D.ins d (some w.heap.size)).M x v := by
  obtain ⟨c1, c2⟩ := carry_ins (w := w) (x := some w.heap.size) hd (fun b h => by cases h; exact Nat.le_refl _)
  exact h.mono (grow_alloc w o D.M).toKeep c2

theorem ins_env {w : World} {D : Names} (hlt : ∀ b, D.M b → b < w.heap.size) {d : Nat} (hd : D d = none) (o : _root_.Go.Obj) {env : List AV} {tmps : Array Value} (h : EnvRep w D env tmps) : EnvRep (w.alloc o) (D.ins d (some w.heap.size)) env tmps := by
  obtain ⟨c1, c2⟩ := carry_ins (w := w) (x := some w.heap.size) hd (fun b h => by cases h; exact Nat.le_refl _)
  exact h.mono (grow_alloc w o D.M) c1 hlt c2

theorem ins_self (D : Names) (d : Nat) (y : Option Nat) : (D.ins d y) d = some y := by simp [Names.ins]

/-- A new box: cells vs that stand for cs. -/
theorem done_box {P : Program} {w0 w : World} {M0 : Nat → Prop} {D : Names} {objs : List (Nat × Obj)} (hm : Mem w0 M0 objs D w) {env : List AV} {a : Act} (he : EnvRep w D env a.tmps) {d : Nat} (hd : look d objs = none) (hK : d < top)
    {cs : List AV} {vs : List Value} (hc : CellsOne w D cs vs) (T : TypeId) {s : Sem Next} (hs : s.run P w = .ok (.value (.pointer (some ⟨w.heap.size, 0, none⟩))) (w.alloc (.cells vs.toArray T))) (n : Nat) :
    Done P w0 M0 a w D objs s ⟨.ref d n 0 0, env, (d, .box cs) :: objs⟩ := by
  have hfr := hm.fresh hd hK
  refine ⟨_, _, D.ins d (some w.heap.size), .inl hs, ?_, hm.alloc hd hK _ _ ?_, ins_env hm.lt hfr _ he, fun _ hp => hp.ins hfr _ _⟩
  · simp only [Slot, Val, Cell]; exact ⟨w.heap.size, ins_self _ _ _, by simp⟩
  · exact ⟨vs, T, alloc_at _ _, hc.1, fun i x hx => ⟨ins_mono hm.lt hfr _ (hc.2 i x hx).1, (hc.2 i x hx).2⟩⟩

/-- Rows of immutable cells. -/
def RowsOne (w : World) (M : Nat → Prop) (sz : Nat) (l : List (List AV)) (vs : List Value) : Prop :=
  l.length * sz ≤ vs.length ∧ (∀ (j : Nat) (cs : List AV), l[j]? = some cs → cs.length = sz) ∧
    ∀ (j : Nat) (cs : List AV) (i : Nat) (x : AV), l[j]? = some cs → cs[i]? = some x → Imm w M x (vs.getD (j * sz + i) undef) ∧ (vs.getD (j * sz + i) undef).oneCell' = true

/-- A new array: rows in a new block. -/
theorem done_arr {P : Program} {w0 w w1 : World} {M0 : Nat → Prop} {D : Names} {objs : List (Nat × Obj)} (hm : Mem w0 M0 objs D w) {env : List AV} {a : Act} (he : EnvRep w D env a.tmps) {d : Nat} (hd : look d objs = none) (hK : d < top)
    {sz : Nat} {l : List (List AV)} {vs : List Value} (hr : RowsOne w D.M sz l vs) (hlim : l.length ≤ lim) (T : TypeId) (fz : Nat × Nat) (hfz : unfrozen fz vs.length) {s : Sem Next} {v : Value} (x : AV)
    (hs : s.run P w1 = .ok (.value v) (w.alloc (.cells vs.toArray T fz)))
    (hx : ∀ D', D' d = some (some w.heap.size) → Slot (w.alloc (.cells vs.toArray T fz)) D' x v) :
    Done P w0 M0 a w1 D objs s ⟨x, env, (d, .arr sz l) :: objs⟩ := by
  have hfr := hm.fresh hd hK
  refine ⟨_, _, D.ins d (some w.heap.size), .inl hs, hx _ (ins_self _ _ _), hm.alloc hd hK _ _ ?_, ins_env hm.lt hfr _ he, fun _ hp => hp.ins hfr _ _⟩
  exact ⟨vs, T, fz, alloc_at _ _, hfz, hlim, hr.1, hr.2.1, fun j cs i x hj hi => ⟨ins_imm hfr _ (hr.2.2 j cs i x hj hi).1, (hr.2.2 j cs i x hj hi).2⟩⟩

theorem unfrozen_zero (n : Nat) : unfrozen (0, 0) n := by intro j _ h; simp at h

theorem slot_msl_new {w : World} {T : TypeId} {vs : List Value} {fz : Nat × Nat} {D' : Names} {d sz len cap : Nat} (hD : D' d = some (some w.heap.size)) (hle : len ≤ cap) (hroom : cap * sz ≤ vs.length) :
    Slot (w.alloc (.cells vs.toArray T fz)) D' (.msl d sz 0 len) (.slice (some ⟨w.heap.size, 0, none⟩) len cap) := by
  simp only [Slot, Val, Cell]
  refine .inr ⟨w.heap.size, cap, vs.length, hD, by simp, hle, ?_, by simpa using hroom⟩
  simp only [World.row, World.shape?, alloc_at]
  simp

theorem d_box {P : Program} {w0 w : World} {M0 : Nat → Prop} {D : Names} {objs : List (Nat × Obj)} (hm : Mem w0 M0 objs D w) {env : List AV} {a : Act} (he : EnvRep w D env a.tmps) {d : Nat} (hK : d < top) {x : AV} {r : HR}
    (h : hBox env objs d x = some r) {v : Value} (hv : Slot w D x v) (T : TypeId) : Done P w0 M0 a w D objs (do pure (.value (← Instr.box T v))) r := by
  unfold hBox at h
  split at h
  · rename_i cs hd hc
    simp only [Option.some.injEq] at h; subst h
    obtain ⟨vs, hvs, hone⟩ := cellsOf_sound hv hc
    exact done_box hm he hd hK hone T (by simp [Instr.box, newVar, newRow, hvs]) _
  · cases h

theorem d_alloc {P : Program} {w0 w : World} {M0 : Nat → Prop} {D : Names} {objs : List (Nat × Obj)} (hm : Mem w0 M0 objs D w) {env : List AV} {a : Act} (he : EnvRep w D env a.tmps) {d : Nat} (hK : d < top) {T : TypeId} {r : HR}
    (h : hAlloc P env objs d T = some r) : Done P w0 M0 a w D objs (do pure (.value (← Instr.alloc T true (.tuple #[])))) r := by
  unfold hAlloc at h
  split at h
  · rename_i z hd hz
    obtain ⟨i, zv, hi, hzv, hone, himm⟩ := cellsOne_zero w D hz
    have hs : (do pure (.value (← Instr.alloc T true (.tuple #[]))) : Sem Next).run P w = .ok (.value (.pointer (some ⟨w.heap.size, 0, none⟩))) (w.alloc (.cells zv.cells.toList.toArray T)) := by
      simp [Instr.alloc, zeroValue, typeInfo, hi, hzv, newVar, newRow]
    split at h
    · rename_i n sz hA
      split at h
      · rename_i hc
        simp only [Option.some.injEq] at h; subst h
        obtain ⟨c1, c2⟩ := chunk_spec sz n z (by omega)
        refine done_arr hm he hd hK (vs := zv.cells.toList) ⟨by rw [c1, hone.1]; omega, fun j cs hj => (c2 j cs hj).1, fun j cs i x hj hx => ?_⟩ (by rw [c1]; exact hc.2) T (0, 0) (unfrozen_zero _) _ hs (fun D' hD' => ?_)
        · have := (c2 j cs hj).2 i x hx
          exact ⟨himm _ _ this, (hone.2 _ _ this).2⟩
        · simp only [Slot, Val, Cell]; exact ⟨w.heap.size, hD', by simp⟩
      · cases h
    · simp only [Option.some.injEq] at h; subst h
      exact done_box hm he hd hK hone T hs _
  · cases h

end Go.Abs
