/- The operations that make or change objects, 3: makeSlice, string to bytes, store. -/
import Derived.Test.YtplngcjkghnkcaaAbsK
namespace Go.Abs
open Go.RowKit

def hMake (P : Program) (env : List AV) (objs : List (Nat × Obj)) (d : Nat) (T : TypeId) (l c : AV) : Option HR :=
  match look d objs, sliceElem P T, elemId P T, idx l, idx c with
  | none, some sz, some e, some n, some m => match zeroCells P e, sizeB P e with
    | some z, some by_ => if z.length = sz ∧ 0 ≤ n ∧ n ≤ m ∧ m ≤ lim ∧ (by_ : Int) * m ≤ lim then some ⟨.msl d sz 0 n.toNat, env, (d, .arr sz (List.replicate n.toNat z)) :: objs⟩ else none
    | _, _ => none
  | _, _, _, _, _ => none

theorem d_make {P : Program} {w0 w : World} {M0 : Nat → Prop} {D : Names} {objs : List (Nat × Obj)} (hm : Mem w0 M0 objs D w) {env : List AV} {a : Act} (he : EnvRep w D env a.tmps) {d : Nat} (hK : d < top) {T : TypeId} {l c : AV} {r : HR}
    (h : hMake P env objs d T l c = some r) {vl vc : Value} (hvl : Slot w D l vl) (hvc : Slot w D c vc) : Done P w0 M0 a w D objs (do pure (.value (← Instr.makeSlice T vl vc))) r := by
  unfold hMake at h
  split at h
  · rename_i sz e n m hd hsz hel hn hmm
    split at h
    · rename_i z by_ hz hby
      split at h
      · rename_i hc
        obtain ⟨hzl, h0, h1, h2, h3⟩ := hc
        simp only [Option.some.injEq] at h; subst h
        obtain ⟨e', i, he1, hu, hi, hs⟩ := elemId_spec hsz
        rw [hel] at he1; cases he1
        obtain ⟨i', zv, hi', hzv, hone, himm⟩ := cellsOne_zero w D hz
        rw [hi] at hi'; cases hi'
        have hb : i.bytes = by_ := by simpa [sizeB, hi] using hby
        obtain ⟨k1, rfl⟩ := slot_idx hn hvl
        obtain ⟨k2, rfl⟩ := slot_idx hmm hvc
        have hrun := run_make (P := P) w T e i zv hu hi hzv k1 k2 n m h0 h1 (by rw [hb]; simp only [lim] at h3; omega) (by simp only [lim] at h2; omega)
        have hzs : zv.cells.size = sz := by have := hone.1; simp at this; omega
        have hmade : (madeCells zv.cells (m.toNat * i.size)) = (madeCells zv.cells (m.toNat * i.size)).toList.toArray := by simp
        rw [hmade] at hrun
        have hlen : (madeCells zv.cells (m.toNat * i.size)).toList.length = m.toNat * sz := by simp [size_madeCells, hs]
        have hle : n.toNat * sz ≤ m.toNat * sz := Nat.mul_le_mul_right _ (by omega)
        refine done_arr hm he hd hK (vs := (madeCells zv.cells (m.toNat * i.size)).toList) ⟨by rw [hlen]; simpa using hle, fun j cs hj => ?_, fun j cs p x hj hx => ?_⟩ (by simp only [List.length_replicate]; omega) e (0, 0) (unfrozen_zero _) _ (by simp [hrun]; rfl) (fun D' hD' => ?_)
        · rw [List.getElem?_replicate] at hj
          split at hj
          · simp only [Option.some.injEq] at hj; subst hj; exact hzl
          · cases hj
        · rw [List.getElem?_replicate] at hj
          split at hj
          · rename_i hjn
            simp only [Option.some.injEq] at hj; subst hj
            have hp : p < sz := by rw [← hzl]; exact (List.getElem?_eq_some_iff.1 hx).1
            have hlt : j * sz + p < m.toNat * sz := by
              have : (j + 1) * sz ≤ n.toNat * sz := Nat.mul_le_mul_right _ hjn
              rw [Nat.add_mul, Nat.one_mul] at this; omega
            have e1 : (madeCells zv.cells (m.toNat * i.size)).toList.getD (j * sz + p) undef = zv.cells.toList.getD p undef := by
              have hpz : p < zv.cells.size := by omega
              have hmod : (j * sz + p) % sz = p := by rw [Nat.mul_comm, Nat.mul_add_mod, Nat.mod_eq_of_lt hp]
              have hget : zv.cells[p]! = zv.cells[p] := getElem!_pos zv.cells p hpz
              simp [List.getD, madeCells, hs, hlt, hzs, hmod, hget, Array.getElem?_eq_getElem hpz]
            rw [e1]
            exact ⟨himm p x hx, (hone.2 p x hx).2⟩
          · cases hj
        · refine slot_msl_new hD' (by omega) ?_
          rw [hlen]; exact Nat.le_refl _
      · cases h
    · cases h
  · cases h

def bytesOf (s : List UInt8) : List (List AV) := s.map fun b => [.int .u8 b.toNat]

def hBytes (P : Program) (env : List AV) (objs : List (Nat × Obj)) (d : Nat) (S T : TypeId) (x : AV) : Option HR :=
  match look d objs, x with
  | none, .str s => if strTy P S = true ∧ byteSl P T = true ∧ s.length ≤ lim then some ⟨.msl d 1 0 s.length, env, (d, .arr 1 (bytesOf s)) :: objs⟩ else none
  | _, _ => none

theorem bytes_rows (w : World) (M : Nat → Prop) (s : List UInt8) (rest : List Value) : RowsOne w M 1 (bytesOf s) ((s.map fun b => Value.int .u8 b.toNat) ++ rest) := by
  refine ⟨by simp [bytesOf], fun j cs hj => ?_, fun j cs i x hj hx => ?_⟩
  · simp only [bytesOf, List.getElem?_map] at hj
    obtain ⟨b, _, rfl⟩ := Option.map_eq_some_iff.1 hj
    rfl
  · simp only [bytesOf, List.getElem?_map] at hj
    obtain ⟨b, hb, rfl⟩ := Option.map_eq_some_iff.1 hj
    cases i with
    | zero =>
      simp only [List.getElem?_cons_zero, Option.some.injEq] at hx; subst hx
      have hlt : j < s.length := (List.getElem?_eq_some_iff.1 hb).1
      have e : ((s.map fun b => Value.int .u8 b.toNat) ++ rest).getD (j * 1 + 0) undef = .int .u8 b.toNat := by
        have hbj : s[j] = b := (List.getElem?_eq_some_iff.1 hb).2
        simp [List.getD, List.getElem?_append, hlt, hbj]
      rw [e]
      exact ⟨.int _ _, rfl⟩
    | succ i => simp at hx

theorem freeze_alloc (w : World) (c : Array Value) (e : TypeId) (n : Nat) : (w.alloc (.cells c e)).freeze ⟨w.heap.size, n, none⟩ 1 = w.alloc (.cells c e (n, n + 1)) := by
  unfold World.freeze
  rw [if_neg (by decide)]
  show ({ w with heap := (w.heap.push (.cells c e)).modify w.heap.size _ } : World) = { w with heap := w.heap.push (.cells c e (n, n + 1)) }
  congr 1
  apply Array.ext
  · simp
  · intro i h1 h2
    simp only [Array.getElem_modify, Array.getElem_push]
    by_cases hi : i < w.heap.size
    · have : ¬ w.heap.size = i := by omega
      simp [hi, this]
    · have : w.heap.size = i := by simp at h2; omega
      simp [this]

theorem d_bytes {P : Program} {w0 w : World} {M0 : Nat → Prop} {D : Names} {objs : List (Nat × Obj)} (hm : Mem w0 M0 objs D w) {env : List AV} {a : Act} (he : EnvRep w D env a.tmps) {d : Nat} (hK : d < top) {S T : TypeId} {x : AV} {r : HR}
    (h : hBytes P env objs d S T x = some r) {v : Value} (hv : Slot w D x v) : Done P w0 M0 a w D objs (do pure (.value (← convert S T v))) r := by
  unfold hBytes at h
  split at h
  · rename_i s hd
    split at h
    · rename_i hc
      obtain ⟨hS, hT, hl⟩ := hc
      simp only [Option.some.injEq] at h; subst h
      obtain ⟨rfl, _⟩ := slot_str hv
      obtain ⟨e, hu, hue⟩ := byteSl_spec hT
      have hz : (⟨s.toArray⟩ : ByteArray).size = s.length := by simp [ByteArray.size]
      let cap := grownCap w s.length 0 e
      let vs : List Value := (s.map fun b => Value.int .u8 b.toNat) ++ List.replicate (cap - s.length) (.int .u8 0)
      have hcap : s.length ≤ cap := by simp only [cap, grownCap, Question.cut]; omega
      have hvl : vs.length = cap := by simp [vs]; omega
      have hrun : (convert S T (.string ⟨s.toArray⟩)).run P w = .ok (.slice (some ⟨w.heap.size, 0, none⟩) s.length cap) (w.drew.alloc (.cells vs.toArray e (vs.length, vs.length + 1))) := by
        have harr : ((⟨s.toArray⟩ : ByteArray).data.map fun b => Value.int .u8 b.toNat) ++ Array.replicate (cap - s.length) (.int .u8 0) = vs.toArray := by
          apply Array.ext'
          simp [vs]
        have hfz := freeze_alloc w.drew vs.toArray e vs.length
        simp only [convert, Sem.run_bind, run_underlying (strTy_spec hS), run_underlying hu, Result.andThen_ok, run_underlying hue, Conv.stringToBytes, run_choose_drew, hz, Question.forced, Bool.false_eq_true, if_false]
        have hcapE : (Question.appendCap s.length 0 e).cut (w.tape w.drawn (Question.appendCap s.length 0 e)) = cap := rfl
        rw [hcapE, harr]
        simp only [newRow, Sem.run_bind, run_newObj_alloc, Result.andThen_ok, Sem.run_pure, markStringish, run_shape]
        have hsh : (w.drew.alloc (.cells vs.toArray e)).shape? w.drew.heap.size = some (e, vs.length) := by
          simp only [World.shape?, alloc_at]; simp
        simp only [hsh, run_freeze, Result.andThen_ok]
        rw [hfz]
        rfl
      have hm' := hm.drew
      have he' : EnvRep w.drew D env a.tmps := he.mono ⟨⟨Nat.le_refl _, fun _ _ _ => rfl⟩, fun _ _ => rfl⟩ (fun _ _ h => h) hm.lt (fun _ _ h => h)
      refine done_arr (P := P) hm' he' hd hK (bytes_rows w.drew D.M s (List.replicate (cap - s.length) (.int .u8 0))) (by simpa [bytesOf] using hl) e (vs.length, vs.length + 1) (fun j hj hf => by have h1 : vs.length ≤ j := hf.1; have h2 : j < vs.length := hj; omega) _ (by rw [Sem.run_bind, hrun]; rfl) (fun D' hD' => ?_)
      have := slot_msl_new (w := w.drew) (T := e) (vs := vs) (fz := (vs.length, vs.length + 1)) (sz := 1) hD' hcap (by omega)
      exact this
    · cases h
  · cases h


/-- cells overwritten from a place on -/
def over (cs : List AV) (off : Nat) (us : List AV) : List AV := cs.take off ++ (us ++ cs.drop (off + us.length))

def hStore (P : Program) (env : List AV) (objs : List (Nat × Obj)) (T : TypeId) (x : Operand) (y : Operand) : Option HR :=
  match ev env x with
  | .ref n sz i off => match look n objs with
    | some (.box cs) => match cellTy P T, cellsOf (ev env y) with
      | some (_, k), some us => if i = 0 ∧ us.length = k ∧ off + k ≤ cs.length then some ⟨.und, env, upd n (.box (over cs off us)) objs⟩ else none
      | _, _ => none
    | some (.arr _ _) => match settle 8 [y] env objs with
      | some r => match look n r.2, cellTy P T, cellsOf (ev r.1 y), ev r.1 x with
        | some (.arr sz' l), some (_, k), some us, .ref n' sz'' i' off' => if sz = sz' ∧ i < l.length ∧ us.length = k ∧ off + k ≤ (l.getD i []).length ∧ us.all plainC = true ∧ n' = n ∧ sz'' = sz ∧ i' = i ∧ off' = off then
            some ⟨.und, r.1, upd n (.arr sz (l.set i (over (l.getD i []) off us))) r.2⟩ else none
        | _, _, _, _ => none
      | none => none
    | none => none
  | _ => none

theorem cellTy_spec {P : Program} {T n : Nat} {g : Bool} (h : cellTy P T = some (g, n)) : ∃ i, P.info? T = some i ∧ i.size = n := by
  unfold cellTy at h
  split at h
  · rename_i i _ hi; simp only [Option.some.injEq, Prod.mk.injEq] at h; exact ⟨i, hi, h.2⟩
  · rename_i i _ hi; simp only [Option.some.injEq, Prod.mk.injEq] at h; exact ⟨i, hi, h.2⟩
  · rename_i i _ _ _ hi; simp only [Option.some.injEq, Prod.mk.injEq] at h; exact ⟨i, hi, h.2⟩
  · cases h

theorem run_storeAt {P : Program} {w : World} {T k b o : Nat} {g : Bool} (ht : cellTy P T = some (g, k)) {v : Value} {vs : List Value} (hv : v.cells = vs.toArray) (hk : vs.length = k) {cur : List Value} {Te : TypeId} {fz : Nat × Nat}
    (hg : w.heap[b]? = some (.cells cur.toArray Te fz)) (hu : unfrozen fz cur.length) (hfit : o + k ≤ cur.length) (h1 : ∀ u ∈ vs, u.oneCell' = true) :
    (Instr.storeAt T (.pointer (some ⟨b, o, none⟩)) v).run P w = .ok () (w.setRow b (cur.take o ++ (vs ++ cur.drop (o + vs.length))).toArray) := by
  obtain ⟨i, hi, rfl⟩ := cellTy_spec ht
  have := run_storeCells_un (P := P) b Te fz vs o 0 cur.toArray w hg (by simpa using hu) (by simp; omega) h1
  simp only [Nat.add_zero] at this
  simp [Instr.storeAt, Instr.sureAddr, storeVar, sizeOf, typeInfo, hi, hv, hk, this]

theorem oneAll {w : World} {D : Names} {cs : List AV} {vs : List Value} (h : CellsOne w D cs vs) : ∀ u ∈ vs, u.oneCell' = true := by
  intro u hu
  obtain ⟨i, hi, rfl⟩ := List.getElem_of_mem hu
  have hlt : i < cs.length := by rw [← h.1]; exact hi
  have := (h.2 i _ (List.getElem?_eq_getElem hlt)).2
  simpa [List.getD, List.getElem?_eq_getElem hi] using this

theorem d_store {P : Program} {w0 w : World} {M0 : Nat → Prop} {D : Names} {objs : List (Nat × Obj)} (hm : Mem w0 M0 objs D w) {env : List AV} {a : Act} (he : EnvRep w D env a.tmps) {T : TypeId} {x y : Operand} {r : HR}
    (h : hStore P env objs T x y = some r) : Done P w0 M0 a w D objs (do Instr.storeAt T (a.eval x) (a.eval y); pure .skip) r := by
  unfold hStore at h
  have hX := ev_sound he x
  split at h
  · rename_i n sz i off hx
    rw [hx] at hX
    split at h
    · rename_i cs hl
      split at h
      · rename_i g k us ht hus
        split at h
        · rename_i hc
          obtain ⟨rfl, hk, hfit⟩ := hc
          simp only [Option.some.injEq] at h; subst h
          simp only [Slot, Val, Cell] at hX
          obtain ⟨b, hD, hp⟩ := hX
          obtain ⟨cur, Te, g1, g2, g3⟩ := hm.rep n _ _ hl hD
          obtain ⟨vs, hvs, hone⟩ := cellsOf_sound (ev_sound he y) hus
          have hvk : vs.length = k := by rw [hone.1]; exact hk
          have hrun := run_storeAt (P := P) ht hvs hvk g1 (unfrozen_zero _) (o := off) (by rw [g2]; exact hfit) (oneAll hone)
          let new := cur.take off ++ (vs ++ cur.drop (off + vs.length))
          have hsz : new.toArray.size = cur.toArray.size := by simp [new]; omega
          have kN : Grow w (w.setRow b new.toArray) D.N := grow_setRow g1 hsz ⟨n, hm.small n (by simp [hl]), hD⟩
          have kg : Grow w (w.setRow b new.toArray) D.M := kN.weaken (fun _ _ h => Names.N_M h)
          have hcur : CellsOne w D cs cur := ⟨g2, g3⟩
          have hnew : CellsOne w D (over cs off us) new := by
            unfold over
            rw [hk, ← hvk]
            exact (hcur.take off).append (hone.append (hcur.drop (off + vs.length)))
          refine ⟨undef, w.setRow b new.toArray, D, .inr ⟨?_, rfl⟩, by simp only [Slot, Val, Cell]; exact .und, hm.upd hl hD kN (fun c hc => setRow_other w b c _ hc) ?_ rfl rfl rfl, he.mono kg (fun _ _ h => h) hm.lt (fun _ _ h => h), fun _ hp => hp.upd hl (.inl ⟨_, rfl⟩)⟩
          · rw [hp]; simp only [Nat.zero_mul, Nat.zero_add, Sem.run_bind, hrun]; rfl
          · exact ⟨new, Te, setRow_heap w b _ _ Te _ g1, hnew.1, fun j z hz => ⟨(hnew.2 j z hz).1.mono kg (fun _ _ h => h) hm.lt (fun _ _ h => h), (hnew.2 j z hz).2⟩⟩
        · cases h
      · cases h
    · split at h
      · rename_i q hq
        obtain ⟨D', hm', he', hpin⟩ := settle_sound _ 8 hm he hq
        split at h
        · rename_i sz' l g k us n' sz'' i' off' hl ht hus hx'
          split at h
          · rename_i hc
            obtain ⟨e1, hi, hk, hfit, hpl, e2, e3, e4, e5⟩ := hc
            subst e1
            rw [e2, e3, e4, e5] at hx'
            simp only [Option.some.injEq] at h; subst h
            have hX' := ev_sound he' x
            rw [hx'] at hX'
            simp only [Slot, Val, Cell] at hX'
            obtain ⟨b, hD, hp⟩ := hX'
            obtain ⟨cur, Te, fz, g1, g2, g3, g4, g5, g6⟩ := hm'.rep n _ _ hl hD
            obtain ⟨vs, hvs, hone⟩ := cellsOf_sound (ev_sound he' y) hus
            have hvk : vs.length = k := by rw [hone.1]; exact hk
            have hli : l[i]? = some (l.getD i []) := by simp [List.getD, List.getElem?_eq_getElem hi]
            have hrl := g5 i _ hli
            have hmul : (i + 1) * sz ≤ l.length * sz := Nat.mul_le_mul_right _ hi
            rw [Nat.add_mul, Nat.one_mul] at hmul
            have hrun := run_storeAt (P := P) ht hvs hvk g1 g2 (o := i * sz + off) (by omega) (oneAll hone)
            let new := cur.take (i * sz + off) ++ (vs ++ cur.drop (i * sz + off + vs.length))
            have hnl : new.length = cur.length := by simp [new]; omega
            have hsz : new.toArray.size = cur.toArray.size := by simp [hnl]
            have kN : Grow w (w.setRow b new.toArray) D'.N := grow_setRow g1 hsz ⟨n, hm'.small n (by simp [hl]), hD⟩
            have kg : Grow w (w.setRow b new.toArray) D'.M := kN.weaken (fun _ _ h => Names.N_M h)
            have hget : ∀ p, p < cur.length → new.getD p undef = if p < i * sz + off then cur.getD p undef else if p < i * sz + off + vs.length then vs.getD (p - (i * sz + off)) undef else cur.getD p undef := by
              intro p hp'
              simp only [new, List.getD, List.getElem?_append, List.length_take, List.getElem?_take, List.getElem?_drop]
              have hmin : min (i * sz + off) cur.length = i * sz + off := by omega
              rw [hmin]
              by_cases h1 : p < i * sz + off
              · simp [h1]
              · simp only [h1, if_false]
                by_cases h2 : p < i * sz + off + vs.length
                · simp [h2, show p - (i * sz + off) < vs.length by omega]
                · simp only [h2, if_false, show ¬ (p - (i * sz + off) < vs.length) by omega]
                  congr 2; omega
            refine ⟨undef, w.setRow b new.toArray, D', .inr ⟨?_, rfl⟩, by simp only [Slot, Val, Cell]; exact .und, hm'.upd hl hD kN (fun c hc => setRow_other w b c _ hc) ?_ rfl rfl rfl, he'.mono kg (fun _ _ h => h) hm'.lt (fun _ _ h => h), fun D0 hp => (hpin D0 hp).upd hl (.inr ⟨_, _, rfl⟩)⟩
            · rw [hp]; simp only [Sem.run_bind, hrun]; rfl
            · have hol : (over (l.getD i []) off us).length = sz := by simp only [over, List.length_append, List.length_take, List.length_drop]; omega
              refine ⟨new, Te, fz, setRow_heap w b _ _ Te _ g1, by rw [hnl]; exact g2, by simpa using g3, by rw [hnl]; simpa using g4, fun j cs hj => ?_, fun j cs p z hj hz => ?_⟩
              · rw [List.getElem?_set] at hj
                split at hj
                · simp only [Option.some.injEq] at hj; rw [← hj]; exact hol
                · exact g5 j cs hj
              · have base : ∀ z (u : Value), Imm w D'.M z u → Imm (w.setRow b new.toArray) D'.M z u := fun z u hu => hu.mono kg.toKeep (fun _ _ h => h)
                rw [List.getElem?_set] at hj
                split at hj
                · rename_i hij
                  subst hij
                  simp only [Option.some.injEq] at hj; subst hj
                  have hp' : p < sz := by rw [← hol]; exact (List.getElem?_eq_some_iff.1 hz).1
                  rw [hget _ (by omega)]
                  simp only [over, List.getElem?_append, List.length_take, List.getElem?_take, List.getElem?_drop] at hz
                  have hmin : min off (l.getD i []).length = off := by omega
                  rw [hmin] at hz
                  by_cases h1 : p < off
                  · simp only [h1, if_true] at hz
                    rw [if_pos (by omega)]
                    have := g6 i _ p z hli hz
                    exact ⟨base _ _ this.1, this.2⟩
                  · simp only [h1, if_false] at hz
                    rw [if_neg (by omega)]
                    by_cases h2 : p - off < us.length
                    · simp only [h2, if_true] at hz
                      rw [if_pos (by omega)]
                      have := hone.2 _ z hz
                      have hpz : plainC z = true := List.all_eq_true.1 hpl z (List.mem_of_getElem? hz)
                      rw [show i * sz + p - (i * sz + off) = p - off by omega]
                      exact ⟨base _ _ (plainC_imm this.1 hpz), this.2⟩
                    · simp only [h2, if_false] at hz
                      rw [if_neg (by omega)]
                      rw [show off + us.length + (p - off - us.length) = p by omega] at hz
                      have := g6 i _ p z hli hz
                      exact ⟨base _ _ this.1, this.2⟩
                · rename_i hij
                  have hjl : j < l.length := (List.getElem?_eq_some_iff.1 hj).1
                  have hp' : p < sz := by rw [← g5 j cs hj]; exact (List.getElem?_eq_some_iff.1 hz).1
                  have hmul2 : (j + 1) * sz ≤ l.length * sz := Nat.mul_le_mul_right _ hjl
                  rw [Nat.add_mul, Nat.one_mul] at hmul2
                  have := g6 j cs p z hj hz
                  rw [hget _ (by omega)]
                  have hne : j < i ∨ i < j := by omega
                  rcases hne with hlt | hlt
                  · have hmul3 : (j + 1) * sz ≤ i * sz := Nat.mul_le_mul_right _ hlt
                    rw [Nat.add_mul, Nat.one_mul] at hmul3
                    rw [if_pos (by omega)]
                    exact ⟨base _ _ this.1, this.2⟩
                  · have hmul3 : (i + 1) * sz ≤ j * sz := Nat.mul_le_mul_right _ hlt
                    rw [Nat.add_mul, Nat.one_mul] at hmul3
                    rw [if_neg (by omega), if_neg (by omega)]
                    exact ⟨base _ _ this.1, this.2⟩
          · cases h
        · cases h
      · cases h
    · cases h
  · cases h

end Go.Abs
