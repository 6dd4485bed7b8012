/- The operations that make or change objects, 2: freezing, buildSlice, makeSlice, string to bytes. -/
import Derived.Test.YtplngcjkghnkcaaAbsJ
namespace Go.Abs
open Go.RowKit

/-- An array is let go and becomes an immutable value wherever it stands. -/
def frz (n sz : Nat) (l : List (List AV)) : AV → AV
  | .msl m sz' off len => if m = n then (if sz' = sz ∧ off + len ≤ l.length then .sl sz ((l.drop off).take len) else .any) else .msl m sz' off len
  | .ref m sz' i off => if m = n then .any else .ref m sz' i off
  | x => x

def freeze (n : Nat) (env : List AV) (objs : List (Nat × Obj)) : Option (List AV × List (Nat × Obj)) :=
  match look n objs with
  | some (.arr sz l) => some (env.map (mapS (frz n sz l)), mapO (frz n sz l) (drop n objs))
  | _ => none

theorem slice_imm {w : World} {D : Names} {sz : Nat} {l : List (List AV)} {v : Value} (h : SliceRep w D sz l v) {M' : Nat → Prop} (hb : ∀ b o n cap, v = .slice (some ⟨b, o, none⟩) n cap → l ≠ [] → ¬ M' b)
    (hM : ∀ b, b < w.heap.size → M' b → D.M b) : Imm w M' (.sl sz l) v := by
  obtain ⟨a, cap, rfl, hcap, hlim, hcase⟩ := h
  rcases hcase with rfl | ⟨b, off, rfl, hbs, hsz, f, hf⟩
  · exact .slnil sz a cap
  · by_cases hl : l = []
    · subst hl; exact .slnil sz _ cap
    · exact .sl sz l b off cap f hbs (hb b off _ cap rfl hl) hcap hlim hsz (fun j cs i x hj hx => (hf j cs i x hj hx).1) (fun j cs i x hj hx => (hf j cs i x hj hx).2.1)
        (fun j cs i x hj hx => (hf j cs i x hj hx).2.2.mono (Grow.refl w _).toKeep hM)

theorem carry_frz {w0 w : World} {M0 : Nat → Prop} {D : Names} {objs : List (Nat × Obj)} (hm : Mem w0 M0 objs D w) {n sz : Nat} {l : List (List AV)} (hl : look n objs = some (.arr sz l)) : Carry w w D (D.del n) (frz n sz l) where
  cell := fun x v h => by
    cases x with
    | msl m sz' off len =>
      simp only [frz]
      split
      · rename_i hmn
        subst hmn
        split
        · rename_i hc
          obtain ⟨rfl, hle⟩ := hc
          have hrep := viewSl_sound hm (sz := sz') (x := .msl m sz' off len) (l := (l.drop off).take len) (by simp [viewSl, hl, hle]) h.slot
          simp only [Cell]
          refine slice_imm hrep (fun b o p cap hv hne hM => ?_) (fun b _ hM => Names.del_M hM)
          rcases h with ⟨_, rfl, a, rfl⟩ | ⟨b', cap', N, h1, rfl, _⟩
          · exact hne (by simp)
          · simp only [Value.slice.injEq, Option.some.injEq, Addr.mk.injEq] at hv
            obtain ⟨⟨rfl, _⟩, _⟩ := hv
            obtain ⟨q, hq⟩ := hM
            unfold Names.del at hq
            split at hq
            · cases hq
            · rename_i hne'
              exact hne' (hm.inj q m b' hq h1)
        · exact imm_any _ _ _
      · rename_i hne
        have := (carry_kill (w := w) (D := D) n).cell (.msl m sz' off len) v h
        simpa [kill, hne] using this
    | ref m sz' i off =>
      have := (carry_kill (w := w) (D := D) n).cell (.ref m sz' i off) v h
      simpa only [kill, frz] using this
    | _ =>
      simp only [frz, Cell] at h ⊢
      exact h.mono (Grow.refl w _).toKeep (fun b _ hM => Names.del_M hM)

theorem freeze_sound {w0 w : World} {M0 : Nat → Prop} {D : Names} {objs : List (Nat × Obj)} (hm : Mem w0 M0 objs D w) {env : List AV} {tmps : Array Value} (he : EnvRep w D env tmps) {n : Nat} {env' : List AV} {objs' : List (Nat × Obj)}
    (h : freeze n env objs = some (env', objs')) : ∃ D', Mem w0 M0 objs' D' w ∧ EnvRep w D' env' tmps ∧ ∀ D0, Pin D0 D objs → Pin D0 D' objs' := by
  unfold freeze at h
  split at h
  · rename_i sz l hl
    simp only [Option.some.injEq, Prod.mk.injEq] at h
    obtain ⟨rfl, rfl⟩ := h
    have c := carry_frz hm hl
    exact ⟨D.del n, hm.letgo n c, c.env he, fun _ hp => hp.letgo hl (hm.small n (by simp [hl])) _⟩
  · cases h

def cellList : AV → List AV
  | .agg l => l
  | x => [x]
def firstName : List AV → Option Nat
  | [] => none
  | .msl n _ _ _ :: _ => some n
  | _ :: r => firstName r

/-- The arrays that some operands name are frozen. -/
def settle : Nat → List Operand → List AV → List (Nat × Obj) → Option (List AV × List (Nat × Obj))
  | 0, _, env, objs => some (env, objs)
  | f + 1, xs, env, objs => match firstName (xs.flatMap fun o => cellList (ev env o)) with
    | none => some (env, objs)
    | some n => match freeze n env objs with
      | some r => settle f xs r.1 r.2
      | none => none

theorem settle_sound {w0 w : World} {M0 : Nat → Prop} {tmps : Array Value} (xs : List Operand) : ∀ (f : Nat) {D : Names} {env : List AV} {objs : List (Nat × Obj)}, Mem w0 M0 objs D w → EnvRep w D env tmps → ∀ {r}, settle f xs env objs = some r →
    ∃ D', Mem w0 M0 r.2 D' w ∧ EnvRep w D' r.1 tmps ∧ ∀ D0, Pin D0 D objs → Pin D0 D' r.2
  | 0, D, env, objs, hm, he, r, h => by simp only [settle, Option.some.injEq] at h; subst h; exact ⟨D, hm, he, fun _ h => h⟩
  | f + 1, D, env, objs, hm, he, r, h => by
    simp only [settle] at h
    split at h
    · simp only [Option.some.injEq] at h; subst h; exact ⟨D, hm, he, fun _ h => h⟩
    · split at h
      · rename_i r' hf
        obtain ⟨D', h1, h2, h3⟩ := freeze_sound hm he (env' := r'.1) (objs' := r'.2) (by rw [hf])
        obtain ⟨D'', g1, g2, g3⟩ := settle_sound xs f h1 h2 h
        exact ⟨D'', g1, g2, fun D0 hp => g3 D0 (h3 D0 hp)⟩
      · cases h

def rowsOf (sz : Nat) : List AV → Option (List (List AV))
  | [] => some []
  | x :: r => match cellsOf x, rowsOf sz r with
    | some cs, some l => if cs.length = sz ∧ cs.all plainC = true then some (cs :: l) else none
    | _, _ => none

theorem plainC_imm {w : World} {D : Names} {x : AV} {v : Value} (h : Cell w D x v) (hp : plainC x = true) : Imm w D.M x v := by
  cases x <;> first | (simp [plainC] at hp; done) | (simpa only [Cell] using h)

theorem rowsOf_sound {w : World} {D : Names} {env : List AV} {a : Act} (he : EnvRep w D env a.tmps) {sz : Nat} : ∀ (xs : List Operand) (l : List (List AV)), rowsOf sz (xs.map (ev env)) = some l →
    l.length = xs.length ∧ (∀ v ∈ xs.map a.eval, v.cells.size = sz) ∧ RowsOne w D.M sz l ((xs.map a.eval).flatMap fun v => v.cells.toList)
  | [], l, h => by simp [rowsOf] at h; subst h; simp [RowsOne]
  | x :: xs, l, h => by
    simp only [List.map_cons, rowsOf] at h
    split at h
    · rename_i cs l' hcs hl'
      split at h
      · rename_i hc
        simp only [Option.some.injEq] at h; subst h
        obtain ⟨h1, h2, h3, h4, h5⟩ := rowsOf_sound he xs l' hl'
        obtain ⟨vs, hvs, hone⟩ := cellsOf_sound (ev_sound he x) hcs
        have hlen : vs.length = sz := by rw [hone.1]; exact hc.1
        refine ⟨by simp [h1], fun v hv => ?_, ?_, fun j cs' hj => ?_, fun j cs' i y hj hy => ?_⟩
        · simp only [List.map_cons, List.mem_cons] at hv
          rcases hv with rfl | hv
          · rw [hvs]; simpa using hlen
          · exact h2 v hv
        · simp only [List.map_cons, List.flatMap_cons, hvs, List.length_append, List.length_cons]
          rw [Nat.add_mul, Nat.one_mul]
          have : vs.length = sz := hlen
          omega
        · cases j with
          | zero => simp at hj; subst hj; exact hc.1
          | succ j => simp at hj; exact h4 j cs' hj
        · simp only [List.map_cons, List.flatMap_cons, hvs]
          cases j with
          | zero =>
            simp at hj; subst hj
            have hi : i < vs.length := by rw [hone.1]; exact (List.getElem?_eq_some_iff.1 hy).1
            have := hone.2 i y hy
            have hp : plainC y = true := List.all_eq_true.1 hc.2 y (List.mem_of_getElem? hy)
            have e : (vs ++ (xs.map a.eval).flatMap fun v => v.cells.toList).getD (0 * sz + i) undef = vs.getD i undef := by
              simp [List.getD, List.getElem?_append, hi]
            rw [e]
            exact ⟨plainC_imm this.1 hp, this.2⟩
          | succ j =>
            simp at hj
            have := h5 j cs' i y hj hy
            have e : (vs ++ (xs.map a.eval).flatMap fun v => v.cells.toList).getD ((j + 1) * sz + i) undef = ((xs.map a.eval).flatMap fun v => v.cells.toList).getD (j * sz + i) undef := by
              have e1 : ¬ (j + 1) * sz + i < vs.length := by rw [hlen, Nat.add_mul, Nat.one_mul]; omega
              have e2 : (j + 1) * sz + i - vs.length = j * sz + i := by rw [hlen, Nat.add_mul, Nat.one_mul]; omega
              simp only [List.getD, List.getElem?_append, e1, if_false, e2]
            rw [e]
            exact this
      · cases h
    · cases h

theorem Done.pins {P : Program} {w0 : World} {M0 : Nat → Prop} {a : Act} {w : World} {D D' : Names} {objs objs' : List (Nat × Obj)} {s : Sem Next} {r : HR} (hp : ∀ D0, Pin D0 D objs → Pin D0 D' objs')
    (h : Done P w0 M0 a w D' objs' s r) : Done P w0 M0 a w D objs s r :=
  let ⟨v, w', D'', h1, h2, h3, h4, h5⟩ := h
  ⟨v, w', D'', h1, h2, h3, h4, fun D0 h => h5 D0 (hp D0 h)⟩

def hBuildSlice (P : Program) (env : List AV) (objs : List (Nat × Obj)) (d : Nat) (T : TypeId) (len : Nat) (parts : List (Nat × Operand)) : Option HR :=
  match settle 8 (parts.map (·.2)) env objs with
  | some r => match look d r.2, sliceElem P T, (elemId P T).bind (zeroCells P) with
    | none, some sz, some _ => match rowsOf sz ((parts.map (·.2)).map (ev r.1)) with
      | some rows => if parts.map (·.1) = List.range len ∧ 0 < sz ∧ len * sz ≤ 16777216 then some ⟨.msl d sz 0 len, r.1, (d, .arr sz rows) :: r.2⟩ else none
      | none => none
    | _, _, _ => none
  | none => none

theorem elemId_spec {P : Program} {T sz : Nat} (h : sliceElem P T = some sz) : ∃ e i, elemId P T = some e ∧ P.underlying T = some (.slice e) ∧ P.info? e = some i ∧ i.size = sz := by
  obtain ⟨e, i, hu, hi, hs⟩ := sliceElem_spec h
  exact ⟨e, i, by simp [elemId, hu], hu, hi, hs⟩

theorem zip_range {α : Type} (l : List (Nat × α)) (n : Nat) (h : l.map (·.1) = List.range n) : l = ((l.map (·.2)).zipIdx 0).map fun x => (x.2, x.1) := by
  apply List.ext_getElem?
  intro k
  have hlen : l.length = n := by have := congrArg List.length h; simpa using this
  by_cases hk : k < l.length
  · have h1 : (l.map (·.1))[k]? = (List.range n)[k]? := by rw [h]
    simp only [List.getElem?_map, List.getElem?_eq_getElem hk, Option.map_some] at h1
    rw [List.getElem?_range (by omega)] at h1
    simp only [Option.some.injEq] at h1
    simp only [List.getElem?_map, List.getElem?_zipIdx, List.getElem?_eq_getElem hk, Option.map_some, Nat.zero_add]
    congr 1
    exact Prod.ext h1 rfl
  · rw [List.getElem?_eq_none (by omega), List.getElem?_eq_none (by simp; omega)]

theorem d_buildSlice {P : Program} {w0 w : World} {M0 : Nat → Prop} {D : Names} {objs : List (Nat × Obj)} (hm : Mem w0 M0 objs D w) {env : List AV} {a : Act} (he : EnvRep w D env a.tmps) {d : Nat} (hK : d < top) {T : TypeId} {len : Nat}
    {parts : Array (Nat × Operand)} {r : HR} (h : hBuildSlice P env objs d T len parts.toList = some r) : Done P w0 M0 a w D objs (do pure (.value (← Instr.buildSlice T len (parts.map fun (i, x) => (i, a.eval x))))) r := by
  unfold hBuildSlice at h
  split at h
  · rename_i q hq
    obtain ⟨D', hm', he', hpin⟩ := settle_sound _ 8 hm he hq
    split at h
    · rename_i sz z hd hsz hz
      split at h
      · rename_i rows hrows
        split at h
        · rename_i hc
          obtain ⟨hidx, hpos, hsmall⟩ := hc
          simp only [Option.some.injEq] at h; subst h
          obtain ⟨e, i, he1, hu, hi, hs⟩ := elemId_spec hsz
          rw [he1] at hz
          obtain ⟨i', zv, hi', hzv, _, _⟩ := cellsOne_zero w D' hz
          rw [hi] at hi'; cases hi'
          obtain ⟨hrl, hsize, hR⟩ := rowsOf_sound he' (parts.toList.map (·.2)) rows hrows
          have hlen : parts.toList.length = len := by have := congrArg List.length hidx; simpa using this
          have hvl : (parts.toList.map (fun p => a.eval p.2)).length = len := by simpa using hlen
          let vs : List Value := parts.toList.map fun p => a.eval p.2
          have hvs : (parts.toList.map (·.2)).map a.eval = vs := by simp [vs]
          rw [hvs] at hsize hR
          have hparts : (parts.map fun (i, x) => (i, a.eval x)).toList = (vs.zipIdx 0).map fun x => (x.2, x.1) := by
            have := zip_range ((parts.map fun (i, x) => (i, a.eval x)).toList) len (by simpa [Function.comp_def] using hidx)
            rw [this]; simp [vs, Function.comp_def]
          have hrun : (Instr.buildSlice T len (parts.map fun (i, x) => (i, a.eval x))).run P w = .ok (.slice (some ⟨w.heap.size, 0, none⟩) len len) (w.alloc (.cells (vs.flatMap fun v => v.cells.toList).toArray e)) := by
            by_cases h0 : len = 0
            · subst h0
              have hv0 : vs = [] := List.eq_nil_of_length_eq_zero hvl
              have hp0 : (parts.map fun (i, x) => (i, a.eval x)).toList = [] := by rw [hparts, hv0]; rfl
              simp only [Instr.buildSlice, Sem.run_bind, run_underlying hu, Result.andThen_ok, sizeOf, typeInfo, run_program, hi, Sem.run_pure, Nat.zero_mul, hp0, hv0]
              simp [Instr.fill, newRow, Array.range_zero']
            · refine run_buildSlice w T e len _ _ i zv hu hi hzv (by rw [hs]; omega) (by rw [hs]; exact Nat.mul_ne_zero h0 (by omega)) ?_
              rw [hparts, hs]
              exact Go.Great.fill_whole hpos vs _ hsize (by simp only [Array.size_map, Array.size_range]; rw [hvl])
          refine Done.pins hpin (done_arr hm' he' hd hK hR (by rw [hrl]; simp only [List.length_map, hlen, lim]; have : len * 1 ≤ len * sz := Nat.mul_le_mul_left _ hpos; omega) e (0, 0) (unfrozen_zero _) _ (by simp [hrun]; rfl) (fun D'' hD'' => ?_))
          refine slot_msl_new hD'' (Nat.le_refl _) ?_
          have := hR.1
          rw [hrl] at this
          simpa [hlen] using this
        · cases h
      · cases h
    · cases h
  · cases h

end Go.Abs
