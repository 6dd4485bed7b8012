/- append and copy. -/
import Derived.Test.YtplngcjkghnkcaaAbsL
namespace Go.Abs
open Go.RowKit

def srcRows (P : Program) (objs : List (Nat × Obj)) (T2 : TypeId) (sz : Nat) (y : AV) : Option (List (List AV)) :=
  match y with
  | .str s => if strTy P T2 = true ∧ sz = 1 then some (bytesOf s) else none
  | y => if (sliceElem P T2).isSome then viewSl objs sz y else none

def hAppend (P : Program) (env : List AV) (objs : List (Nat × Obj)) (d : Nat) (T T2 : TypeId) (x y : AV) : Option HR :=
  match sliceElem P T, (elemId P T).bind (sizeB P), (elemId P T).bind (zeroCells P) with
  | some sz, some by_, some z => match srcRows P objs T2 sz y with
    | some rows => match x with
      | .nsl => if look d objs = none ∧ rows.length ≤ lim ∧ rows.length * by_ ≤ lim ∧ z.length = sz then some ⟨.msl d sz 0 rows.length, env, (d, .arr sz rows) :: objs⟩ else none
      | .msl m sz' 0 len => match look m objs with
        | some (.arr sz'' l) => if sz' = sz ∧ sz'' = sz ∧ l.length = len ∧ look d (drop m objs) = none ∧ len + rows.length ≤ lim ∧ (len + rows.length) * by_ ≤ lim ∧ z.length = sz then
            some ⟨.msl d sz 0 (len + rows.length), env.map (mapS (kill m)), (d, .arr sz (l ++ rows)) :: mapO (kill m) (drop m objs)⟩ else none
        | _ => none
      | _ => none
    | none => none
  | _, _, _ => none

/-- What is read of a source: its cells, in the present world and in one that is as it but for draws. -/
structure Src (P : Program) (w : World) (M : Nat → Prop) (sz : Nat) (l : List (List AV)) (v : Value) (news : List Value) : Prop where
  len : news.length = l.length * sz
  rows : RowsOne w M sz l news
  one : ∀ u ∈ news, u.oneCell' = true
  lenOf : ∀ w', (Builtin.lenOf v).run P w' = .ok l.length w'
  cells : ∀ w', w'.heap = w.heap → (Builtin.firstCells sz l.length v).run P w' = .ok news.toArray w'

theorem cell_heap {w w' : World} (h : w'.heap = w.heap) (a : Addr) : w'.cell? a = w.cell? a := by simp [World.cell?, h]

theorem src_slice {P : Program} {w : World} {D : Names} {sz : Nat} {l : List (List AV)} {v : Value} (h : SliceRep w D sz l v) : ∃ news, Src P w D.M sz l v news := by
  obtain ⟨a, cap, rfl, hcap, hlim, hcase⟩ := h
  rcases hcase with rfl | ⟨b, off, rfl, hb, hsz, f, hf⟩
  · refine ⟨[], by simp, ⟨by simp, by simp, by simp⟩, by simp, fun w' => by simp [Builtin.lenOf], fun w' _ => ?_⟩
    cases a <;> simp [Builtin.firstCells, loadCells, loadCellsFrom]
  · let news : List Value := (List.range (l.length * sz)).map fun k => f (k / sz) (k % sz)
    have hn : ∀ j i, j < l.length → i < sz → news.getD (j * sz + i) undef = f j i := by
      intro j i hj hi
      have hmul : (j + 1) * sz ≤ l.length * sz := Nat.mul_le_mul_right _ hj
      rw [Nat.add_mul, Nat.one_mul] at hmul
      have h1 : (j * sz + i) / sz = j := by rw [Nat.mul_comm, Nat.mul_add_div (by omega), Nat.div_eq_of_lt hi, Nat.add_zero]
      have h2 : (j * sz + i) % sz = i := by rw [Nat.mul_comm, Nat.mul_add_mod, Nat.mod_eq_of_lt hi]
      have h3 : j * sz + i < l.length * sz := by omega
      simp [news, List.getD, h3, h1, h2]
    have hk : ∀ k, k < l.length * sz → k / sz < l.length ∧ k % sz < sz ∧ k / sz * sz + k % sz = k := by
      intro k hk
      have hs0 : 0 < sz := by rcases Nat.eq_zero_or_pos sz with h | h; · rw [h] at hk; simp at hk
                              · exact h
      refine ⟨(Nat.div_lt_iff_lt_mul hs0).2 hk, Nat.mod_lt _ hs0, by rw [Nat.mul_comm]; exact Nat.div_add_mod k sz⟩
    have hcell : ∀ k, k < l.length * sz → w.cell? ⟨b, off + k, none⟩ = some (f (k / sz) (k % sz)) ∧ (f (k / sz) (k % sz)).oneCell' = true := by
      intro k hkl
      obtain ⟨g1, g2, g3⟩ := hk k hkl
      have hj := List.getElem?_eq_getElem g1
      have hi : k % sz < l[k / sz].length := by rw [hsz _ _ hj]; exact g2
      have := hf _ _ _ _ hj (List.getElem?_eq_getElem hi)
      rw [g3] at this
      exact ⟨this.1, this.2.1⟩
    refine ⟨news, by simp [news], ⟨by simp [news], hsz, fun j cs i x hj hx => ?_⟩, fun u hu => ?_, fun w' => by simp [Builtin.lenOf], fun w' hw' => ?_⟩
    · have hjl : j < l.length := (List.getElem?_eq_some_iff.1 hj).1
      have hi : i < sz := by rw [← hsz j cs hj]; exact (List.getElem?_eq_some_iff.1 hx).1
      rw [hn j i hjl hi]
      have := hf j cs i x hj hx
      exact ⟨this.2.2, this.2.1⟩
    · simp only [news, List.mem_map, List.mem_range] at hu
      obtain ⟨k, hkl, rfl⟩ := hu
      exact (hcell k hkl).2
    · simp only [Builtin.firstCells]
      rw [run_loadCells (P := P) w' ⟨b, off, none⟩ (l.length * sz) (fun k => f (k / sz) (k % sz)) (fun k hkl => by rw [addr_add, cell_heap hw']; exact (hcell k hkl).1)]

theorem src_str {P : Program} {w : World} {M : Nat → Prop} {s : List UInt8} : Src P w M 1 (bytesOf s) (.string ⟨s.toArray⟩) (s.map fun b => Value.int .u8 b.toNat) := by
  have hz : (⟨s.toArray⟩ : ByteArray).size = s.length := by simp [ByteArray.size]
  refine ⟨by simp [bytesOf], by simpa using bytes_rows w M s [], fun u hu => ?_, fun w' => by simp [Builtin.lenOf, hz, bytesOf], fun w' _ => ?_⟩
  · obtain ⟨b, _, rfl⟩ := List.mem_map.1 hu; rfl
  · have hx : ((⟨s.toArray⟩ : ByteArray).extract 0 s.length).data = s.toArray := by
      simp [ByteArray.data_extract]
    simp only [Builtin.firstCells, bytesOf, List.length_map, hx, Sem.run_pure]
    simp

theorem srcRows_sound {P : Program} {w0 w : World} {M0 : Nat → Prop} {D : Names} {objs : List (Nat × Obj)} (hm : Mem w0 M0 objs D w) {T2 : TypeId} {sz : Nat} {y : AV} {rows : List (List AV)} (h : srcRows P objs T2 sz y = some rows)
    {v : Value} (hv : Slot w D y v) : (∃ news, Src P w D.M sz rows v news) ∧ (P.underlying T2 = some .string ∨ ∃ e2, P.underlying T2 = some (.slice e2)) := by
  unfold srcRows at h
  split at h
  · split at h
    · rename_i hc
      obtain ⟨hT, rfl⟩ := hc
      simp only [Option.some.injEq] at h; subst h
      obtain ⟨rfl, _⟩ := slot_str hv
      exact ⟨⟨_, src_str⟩, .inl (strTy_spec hT)⟩
    · cases h
  · split at h
    · rename_i hT
      obtain ⟨s2, hs2⟩ := Option.isSome_iff_exists.1 hT
      obtain ⟨e, i, hu, _, _⟩ := sliceElem_spec hs2
      exact ⟨src_slice (viewSl_sound hm h hv), .inr ⟨_, hu⟩⟩
    · cases h

theorem run_append_in {P : Program} {w : World} {M : Nat → Prop} {T T2 ty e : TypeId} {i : TypeInfo} (hu : P.underlying T = some (.slice e)) (hi : P.info? e = some i) (hu2 : P.underlying T2 = some .string ∨ ∃ e2, P.underlying T2 = some (.slice e2))
    {l : List (List AV)} {v : Value} {news : List Value} (hs : Src P w M i.size l v news) (a : Option Addr) (sLen sCap : Nat) (hroom : sLen + l.length ≤ sCap) :
    (Builtin.append_ #[T, T2] ty #[.slice a sLen sCap, v]).run P w = match a with
      | some a => ((storeCells (a.add (sLen * i.size)) news).run P w).andThen fun _ w => .ok (.slice (some a) (sLen + l.length) sCap) w
      | none => .ok (.slice none (sLen + l.length) sCap) w := by
  have hl := hs.lenOf w
  have hc := hs.cells w rfl
  rcases hu2 with hu2 | ⟨e2, hu2⟩ <;> cases a <;> simp [Builtin.append_, run_underlying hu, run_underlying hu2, sizeOf, typeInfo, hi, hl, hroom, hc]

theorem run_append_out {P : Program} {w : World} {M : Nat → Prop} {T T2 ty e : TypeId} {i : TypeInfo} (hu : P.underlying T = some (.slice e)) (hi : P.info? e = some i) (hu2 : P.underlying T2 = some .string ∨ ∃ e2, P.underlying T2 = some (.slice e2))
    {z : Value} (hz : i.zero = some z) {l : List (List AV)} {v : Value} {news : List Value} (hs : Src P w M i.size l v news) (a : Option Addr) (sLen sCap : Nat) (hroom : ¬ sLen + l.length ≤ sCap) (hlim : sLen + l.length ≤ lim)
    (hby : (sLen + l.length) * i.bytes ≤ lim) {olds : List Value} (hold : (Builtin.firstCells i.size sLen (.slice a sLen sCap)).run P w.drew = .ok olds.toArray w.drew) :
    ∃ cap rest, sLen + l.length ≤ cap ∧ rest = Builtin.zeroCells z.cells (cap - (sLen + l.length)) ∧ (Builtin.append_ #[T, T2] ty #[.slice a sLen sCap, v]).run P w =
      .ok (.slice (some ⟨w.heap.size, 0, none⟩) (sLen + l.length) cap) (w.drew.alloc (.cells (olds ++ (news ++ rest.toList)).toArray e)) := by
  refine ⟨grownCap w (sLen + l.length) sCap e, _, by simp only [grownCap, Question.cut]; omega, rfl, ?_⟩
  have hl := hs.lenOf w
  have hc := hs.cells w.drew rfl
  have h63' : ¬ (9223372036854775807 < ((sLen : Int) + (l.length : Int))) := by simp only [lim] at hlim; omega
  have hfit := growslice_fits (need := sLen + l.length) (old := sCap) (bytes := i.bytes) (by omega) (by simpa only [lim] using hby)
  have h48' : ¬ (281474976710656 < Builtin.nextslicecap (sLen + l.length) sCap * i.bytes) := by omega
  rcases hu2 with hu2 | ⟨e2, hu2⟩ <;> simp [Builtin.append_, run_underlying hu, run_underlying hu2, sizeOf, typeInfo, zeroValue, hi, hz, hl, hroom, h63', h48', Question.forced, hold, hc, newRow, grownCap] <;> (congr 2; apply Array.ext'; simp)


theorem step_conds {w0 w : World} {M0 : Nat → Prop} {D : Names} {objs : List (Nat × Obj)} (hm : Mem w0 M0 objs D w) {m d : Nat} {y : Option Nat} (hd : look d (drop m objs) = none) (hK : d < top)
    (hy : ∀ b, y = some b → w.heap.size ≤ b ∨ D m = some (some b)) :
    (∀ n e, n ≠ m → D n = some e → ((D.del m).ins d y) n = some e) ∧ (∀ b, b < w.heap.size → ((D.del m).ins d y).M b → D.M b) := by
  refine ⟨fun n e hne hn => ?_, ?_⟩
  · by_cases h : n = d
    · subst h
      rw [look_drop_ne (Ne.symm hne)] at hd
      rw [hm.fresh hd hK] at hn; cases hn
    · simp only [Names.ins, h, if_false, Names.del, hne]; exact hn
  · rintro b hb ⟨n, hn⟩
    unfold Names.ins at hn
    split at hn
    · simp only [Option.some.injEq] at hn
      rcases hy b hn with h | h
      · omega
      · exact ⟨m, h⟩
    · exact Names.del_M ⟨n, hn⟩

theorem Mem.virt {w0 w : World} {M0 : Nat → Prop} {D : Names} {objs : List (Nat × Obj)} (hm : Mem w0 M0 objs D w) {d sz : Nat} (hd : look d objs = none) (hK : d < top) :
    Mem w0 M0 ((d, .arr sz []) :: objs) (D.ins d none) w ∧ (∀ n e, D n = some e → (D.ins d none) n = some e) ∧ (∀ b, (D.ins d none).M b → D.M b) := by
  obtain ⟨c1, c2⟩ := carry_ins (w := w) (x := none) (hm.fresh hd hK) (fun b h => by cases h)
  have c3 : ∀ b, (D.ins d none).M b → D.M b := by
    rintro b ⟨n, hn⟩
    unfold Names.ins at hn
    split at hn
    · cases hn
    · exact ⟨n, hn⟩
  have c4 : ∀ b, (D.ins d none).N b → D.N b := by
    rintro b ⟨n, hK, hn⟩
    unfold Names.ins at hn
    split at hn
    · cases hn
    · exact ⟨n, hK, hn⟩
  refine ⟨⟨fun n hn => ?_, fun n hn => ?_, fun n ob e hl hn => ?_, fun n p b h1 h2 => ?_, fun b hb => hm.lt b (c3 b hb), fun b hb => hm.own b (c4 b hb), hm.grow, hm.os, hm.tape, hm.output⟩, c1, c3⟩
  · unfold Names.ins
    by_cases h : n = d
    · subst h; simp [look]
    · simp only [h, if_false, look, if_neg (Ne.symm h)]; exact hm.dom n hn
  · by_cases h : n = d
    · subst h; exact hK
    · simp only [look, if_neg (Ne.symm h)] at hn; exact hm.small n hn
  · by_cases h : n = d
    · subst h
      simp only [look, if_true, Option.some.injEq] at hl
      subst hl
      simp only [Names.ins, if_true, Option.some.injEq] at hn
      subst hn
      rfl
    · simp only [look, if_neg (Ne.symm h)] at hl
      simp only [Names.ins, h, if_false] at hn
      exact (hm.rep n ob e hl hn).mono (Grow.refl w _) c1 hm.lt c2 (fun _ _ => rfl)
  · unfold Names.ins at h1 h2
    split at h1
    · cases h1
    · split at h2
      · cases h2
      · exact hm.inj n p b h1 h2

theorem RowsOne.append {w : World} {M : Nat → Prop} {sz : Nat} {l k : List (List AV)} {vs us rest : List Value} (h : RowsOne w M sz l vs) (hl : vs.length = l.length * sz) (g : RowsOne w M sz k us) : RowsOne w M sz (l ++ k) (vs ++ (us ++ rest)) := by
  refine ⟨?_, fun j cs hj => ?_, fun j cs i x hj hx => ?_⟩
  · simp only [List.length_append, Nat.add_mul]
    have := g.1
    omega
  · rw [List.getElem?_append] at hj
    split at hj
    · exact h.2.1 j cs hj
    · exact g.2.1 _ cs hj
  · rw [List.getElem?_append] at hj
    split at hj
    · rename_i hjl
      have hi : i < sz := by rw [← h.2.1 j cs hj]; exact (List.getElem?_eq_some_iff.1 hx).1
      have hmul : (j + 1) * sz ≤ l.length * sz := Nat.mul_le_mul_right _ hjl
      rw [Nat.add_mul, Nat.one_mul] at hmul
      have e : (vs ++ (us ++ rest)).getD (j * sz + i) undef = vs.getD (j * sz + i) undef := by
        have : j * sz + i < vs.length := by omega
        simp [List.getD, List.getElem?_append, this]
      rw [e]; exact h.2.2 j cs i x hj hx
    · rename_i hjl
      have hi : i < sz := by rw [← g.2.1 _ cs hj]; exact (List.getElem?_eq_some_iff.1 hx).1
      have hjk : j - l.length < k.length := (List.getElem?_eq_some_iff.1 hj).1
      have hmul : (j - l.length + 1) * sz ≤ k.length * sz := Nat.mul_le_mul_right _ hjk
      rw [Nat.add_mul, Nat.one_mul] at hmul
      have hg1 := g.1
      have hsub : j * sz = l.length * sz + (j - l.length) * sz := by rw [← Nat.add_mul]; congr 1; omega
      have e : (vs ++ (us ++ rest)).getD (j * sz + i) undef = us.getD ((j - l.length) * sz + i) undef := by
        have h1 : ¬ j * sz + i < vs.length := by omega
        have h2 : j * sz + i - vs.length = (j - l.length) * sz + i := by omega
        have h3 : (j - l.length) * sz + i < us.length := by omega
        simp [List.getD, List.getElem?_append, h1, h2, h3]
      rw [e]; exact g.2.2 _ cs i x hj hx

theorem RowsOne.mono {w w' : World} {M M' : Nat → Prop} {sz : Nat} {l : List (List AV)} {vs : List Value} (h : RowsOne w M sz l vs) (k : Keep w w' M) (hM : ∀ b, b < w.heap.size → M' b → M b) : RowsOne w' M' sz l vs :=
  ⟨h.1, h.2.1, fun j cs i x hj hx => ⟨(h.2.2 j cs i x hj hx).1.mono k hM, (h.2.2 j cs i x hj hx).2⟩⟩

theorem RowsOne.take {w : World} {M : Nat → Prop} {sz : Nat} {l : List (List AV)} {vs : List Value} (h : RowsOne w M sz l vs) : RowsOne w M sz l (vs.take (l.length * sz)) ∧ (vs.take (l.length * sz)).length = l.length * sz := by
  have h1 : (vs.take (l.length * sz)).length = l.length * sz := by simp [h.1]
  refine ⟨⟨by rw [h1]; exact Nat.le_refl _, h.2.1, fun j cs i x hj hx => ?_⟩, h1⟩
  have hjl : j < l.length := (List.getElem?_eq_some_iff.1 hj).1
  have hi : i < sz := by rw [← h.2.1 j cs hj]; exact (List.getElem?_eq_some_iff.1 hx).1
  have hmul : (j + 1) * sz ≤ l.length * sz := Nat.mul_le_mul_right _ hjl
  rw [Nat.add_mul, Nat.one_mul] at hmul
  have e : (vs.take (l.length * sz)).getD (j * sz + i) undef = vs.getD (j * sz + i) undef := by
    have : j * sz + i < l.length * sz := by omega
    simp [List.getD, this]
  rw [e]; exact h.2.2 j cs i x hj hx

theorem rows_nil (w : World) (M : Nat → Prop) (sz : Nat) (vs : List Value) : RowsOne w M sz [] vs := ⟨by simp, by simp, by simp⟩

theorem grow_drew_alloc (w : World) (o : _root_.Go.Obj) (M : Nat → Prop) : Grow w (w.drew.alloc o) M :=
  Grow.trans (N := M) (b := w.drew) ⟨⟨Nat.le_refl _, fun _ _ _ => rfl⟩, fun _ _ => rfl⟩ (grow_alloc w.drew o M) (fun _ _ h => h)

theorem d_append {P : Program} {w0 w : World} {M0 : Nat → Prop} {D : Names} {objs : List (Nat × Obj)} (hm : Mem w0 M0 objs D w) {env : List AV} {a : Act} (he : EnvRep w D env a.tmps) {d : Nat} (hK : d < top) {T T2 ty : TypeId} {x y : AV} {r : HR}
    (h : hAppend P env objs d T T2 x y = some r) {v u : Value} (hv : Slot w D x v) (hu : Slot w D y u) : Done P w0 M0 a w D objs (do pure (.value (← Builtin.append_ #[T, T2] ty #[v, u]))) r := by
  unfold hAppend at h
  split at h
  · rename_i sz by_ z hsz hby hz
    obtain ⟨e, i, he1, hut, hi, hs⟩ := elemId_spec hsz
    rw [he1] at hby hz
    have hbe : i.bytes = by_ := by simpa [sizeB, hi] using hby
    obtain ⟨i', zv, hi', hzv, hzone, _⟩ := cellsOne_zero w D hz
    rw [hi] at hi'; cases hi'
    subst hs
    split at h
    · rename_i rows hrows
      obtain ⟨⟨news, hsrc⟩, hu2⟩ := srcRows_sound hm hrows hu
      have hdrew : EnvRep w.drew D env a.tmps := he.mono ⟨⟨Nat.le_refl _, fun _ _ _ => rfl⟩, fun _ _ => rfl⟩ (fun _ _ h => h) hm.lt (fun _ _ h => h)
      have hrd : RowsOne w.drew D.M i.size rows news := hsrc.rows.mono ⟨Nat.le_refl _, fun _ _ _ => rfl⟩ (fun _ _ h => h)
      split at h
      · -- nil
        split at h
        · rename_i hc
          obtain ⟨hd, hl1, hl2, hzl⟩ := hc
          simp only [Option.some.injEq] at h; subst h
          rw [slot_nsl hv]
          by_cases hr0 : rows.length = 0
          · have hrn : rows = [] := List.eq_nil_of_length_eq_zero hr0
            have hrun := run_append_in (ty := ty) hut hi hu2 hsrc none 0 0 (by omega)
            obtain ⟨m1, m2, m3⟩ := hm.virt (sz := i.size) hd hK
            subst hrn
            refine ⟨.slice none 0 0, w, D.ins d none, .inl (by rw [Sem.run_bind, hrun]; rfl), by simp only [Slot, Val, Cell]; exact .inl ⟨by simp [ins_self], rfl, none, rfl⟩, m1, ?_⟩
            exact ⟨he.mono (Grow.refl w _) m2 hm.lt (fun b _ hb => m3 b hb), fun _ hp => hp.ins (hm.fresh hd hK) _ _⟩
          · obtain ⟨cap, rest, hcap, _, hrun⟩ := run_append_out (ty := ty) (olds := []) hut hi hu2 hzv hsrc none 0 0 (by omega) (by omega) (by rw [hbe]; simpa using hl2) (by simp [Builtin.firstCells])
            simp only [Nat.zero_add, List.nil_append] at hrun hcap
            refine done_arr hm.drew hdrew hd hK (vs := news ++ rest.toList) ?_ hl1 e (0, 0) (unfrozen_zero _) _ (by rw [Sem.run_bind, hrun]; rfl) (fun D' hD' => ?_)
            · have := RowsOne.append (rest := rest.toList) (rows_nil w.drew D.M i.size []) (by simp) hrd
              simpa using this
            · refine slot_msl_new (w := w.drew) hD' hcap ?_
              have h1 := hsrc.len
              simp only [List.length_append, Array.length_toList]
              have h2 : rest.size = (cap - rows.length) * i.size := by
                rename_i hre
                rw [hre, size_zeroCells]
                congr 1
                · simp
                · have := hzone.1; simp at this; omega
              rw [h1, h2, ← Nat.add_mul]
              exact Nat.mul_le_mul_right _ (by omega)
        · cases h
      · -- msl
        rename_i m sz' len
        split at h
        · rename_i sz'' l hl
          split at h
          · rename_i hc
            obtain ⟨rfl, rfl, rfl, hd, hl1, hl2, hzl⟩ := hc
            simp only [Option.some.injEq] at h; subst h
            have hzs : zv.cells.size = i.size := by have := hzone.1; simp at this; omega
            -- the state behind it, once the run is known
            have fin : ∀ {w' : World} {y : Option Nat} {vv : Value} (hrun : (Builtin.append_ #[T, T2] ty #[v, u]).run P w = .ok vv w') (kN : Grow w w' D.N)
                (hy : ∀ b, y = some b → b < w'.heap.size ∧ (w.heap.size ≤ b ∨ D m = some (some b))) (hoth : ∀ b, D.M b → D m ≠ some (some b) → w'.heap[b]? = w.heap[b]?)
                (hrep : ∀ D', (∀ b, b < w.heap.size → D'.M b → D.M b) → ObjRep w' D' (.arr i.size (l ++ rows)) y) (hos : w'.os = w.os) (htape : w'.tape = w.tape) (hout : w'.output = w.output)
                (hslot : ∀ D' : Names, D' d = some y → Slot w' D' (.msl d i.size 0 (l.length + rows.length)) vv),
                Done P w0 M0 a w D objs (do pure (.value (← Builtin.append_ #[T, T2] ty #[v, u]))) ⟨.msl d i.size 0 (l.length + rows.length), env.map (mapS (kill m)), (d, .arr i.size (l ++ rows)) :: mapO (kill m) (drop m objs)⟩ := by
              intro w' y vv hrun kN hy hoth hrep hos htape hout hslot
              have k : Grow w w' D.M := kN.weaken (fun _ _ h => Names.N_M h)
              have hmK : m < top := hm.small m (by simp [hl])
              obtain ⟨c1, c2⟩ := step_conds hm hd hK (fun b hb => (hy b hb).2)
              have c := carry_kill' (D' := (D.del m).ins d y) k hm.lt c1 c2
              refine ⟨vv, w', (D.del m).ins d y, .inl (by rw [Sem.run_bind, hrun]; rfl), hslot _ (ins_self _ _ _), hm.step hd hK c kN (fun _ _ => hmK) hy hoth (hrep _ c2) hos htape hout, c.env he, fun D0 hp => ?_⟩
              have hp2 := hp.letgo hl hmK (kill m)
              refine hp2.ins ?_ y _
              unfold Names.del
              split
              · rfl
              · rename_i hne
                exact hm.fresh (by rw [← look_drop_ne (Ne.symm hne)]; exact hd) hK
            have growOut : ∀ (olds : List Value) (cap : Nat) (rest : Array Value), RowsOne w D.M i.size l olds → olds.length = l.length * i.size → l.length + rows.length ≤ cap → rest = Builtin.zeroCells zv.cells (cap - (l.length + rows.length)) →
                (Builtin.append_ #[T, T2] ty #[v, u]).run P w = .ok (.slice (some ⟨w.heap.size, 0, none⟩) (l.length + rows.length) cap) (w.drew.alloc (.cells (olds ++ (news ++ rest.toList)).toArray e)) →
                Done P w0 M0 a w D objs (do pure (.value (← Builtin.append_ #[T, T2] ty #[v, u]))) ⟨.msl d i.size 0 (l.length + rows.length), env.map (mapS (kill m)), (d, .arr i.size (l ++ rows)) :: mapO (kill m) (drop m objs)⟩ := by
              intro olds cap rest hro hlo hcap hre hrun
              have hrest : rest.size = (cap - (l.length + rows.length)) * i.size := by rw [hre, size_zeroCells, hzs]
              have hn := hsrc.len
              have hlen : (olds ++ (news ++ rest.toList)).length = cap * i.size := by
                simp only [List.length_append, Array.length_toList, hlo, hn, hrest]
                rw [← Nat.add_mul, ← Nat.add_mul]; congr 1; omega
              have kg : Grow w (w.drew.alloc (.cells (olds ++ (news ++ rest.toList)).toArray e)) D.M := grow_drew_alloc w _ D.M
              refine fin (y := some w.heap.size) hrun (grow_drew_alloc w _ D.N) (fun b hb => by cases hb; exact ⟨by rw [alloc_size]; exact Nat.lt_succ_self _, .inl (Nat.le_refl _)⟩)
                (fun b hb _ => Below.heap_alloc w.drew _ b (hm.lt b hb)) (fun D' hM => ?_) rfl rfl rfl (fun D' hD' => ?_)
              · have hr := RowsOne.append (rest := rest.toList) hro hlo hsrc.rows
                have hr' := hr.mono kg.toKeep hM
                exact ⟨_, e, (0, 0), alloc_at w.drew _, unfrozen_zero _, by simpa using hl1, hr'.1, hr'.2.1, hr'.2.2⟩
              · exact slot_msl_new (w := w.drew) hD' hcap (by rw [hlen]; exact Nat.le_refl _)
            simp only [Slot, Val, Cell] at hv
            rcases hv with ⟨hsome, hlen0, ao, rfl⟩ | ⟨b, cap, N, hD, rfl, hcapl, hrow, hroom⟩
            · have hl0 : l = [] := List.eq_nil_of_length_eq_zero hlen0
              subst hl0
              simp only [List.length_nil] at *
              by_cases hr0 : rows.length = 0
              · have hrn : rows = [] := List.eq_nil_of_length_eq_zero hr0
                subst hrn
                have hnews : news = [] := List.eq_nil_of_length_eq_zero (by have := hsrc.len; simpa using this)
                have hrun := run_append_in (ty := ty) hut hi hu2 hsrc ao 0 0 (by simp)
                have hrun' : (Builtin.append_ #[T, T2] ty #[.slice ao 0 0, u]).run P w = .ok (.slice ao 0 0) w := by
                  rw [hrun, hnews]; cases ao <;> simp [storeCells]
                exact fin (y := none) hrun' (Grow.refl w _) (fun b hb => by cases hb) (fun _ _ _ => rfl) (fun D' _ => rfl) rfl rfl rfl (fun D' hD' => by simp only [Slot, Val, Cell]; exact .inl ⟨by simp [hD'], rfl, ao, rfl⟩)
              · obtain ⟨cap, rest, hcap, hre, hrun⟩ := run_append_out (ty := ty) (olds := []) hut hi hu2 hzv hsrc ao 0 0 (by omega) (by omega) (by rw [hbe]; exact hl2) (by cases ao <;> simp [Builtin.firstCells, loadCells, loadCellsFrom])
                exact growOut [] cap rest (rows_nil _ _ _ _) (by simp) hcap hre hrun
            · obtain ⟨cur, Te, fz, g1, g2, g3, g4, g5, g6⟩ := hm.rep m _ _ hl hD
              have hN : N = cur.length := by
                simp [World.row, World.shape?, g1] at hrow; exact hrow.symm
              subst hN
              rw [Nat.zero_mul] at *
              rw [Nat.zero_add] at hroom
              have hcurR : RowsOne w D.M i.size l cur := ⟨g4, g5, g6⟩
              obtain ⟨htR, htl⟩ := hcurR.take
              by_cases hfit : l.length + rows.length ≤ cap
              · have hrun := run_append_in (ty := ty) hut hi hu2 hsrc (some ⟨b, 0, none⟩) l.length cap hfit
                have hn := hsrc.len
                have hspace : l.length * i.size + news.length ≤ cur.length := by
                  have : (l.length + rows.length) * i.size ≤ cap * i.size := Nat.mul_le_mul_right _ hfit
                  rw [Nat.add_mul] at this; omega
                have hst := run_storeCells_un (P := P) b Te fz news (0 + l.length * i.size) 0 cur.toArray w g1 (by simpa using g2) (by simp; omega) hsrc.one
                simp only [addr_add, Nat.zero_add] at hrun
                simp only [Nat.zero_add, Nat.add_zero] at hst
                rw [hst, Result.andThen_ok] at hrun
                let new := cur.take (l.length * i.size) ++ (news ++ cur.drop (l.length * i.size + news.length))
                have hnl : new.length = cur.length := by simp [new]; omega
                have kN : Grow w (w.setRow b new.toArray) D.N := grow_setRow g1 (by simp [hnl]) ⟨m, hm.small m (by simp [hl]), hD⟩
                have kg : Grow w (w.setRow b new.toArray) D.M := kN.weaken (fun _ _ h => Names.N_M h)
                refine fin (y := some b) hrun kN (fun c hc => by cases hc; exact ⟨by rw [setRow_size]; exact hm.lt b ⟨m, hD⟩, .inr hD⟩) (fun c _ hne => setRow_other w b c _ (fun e => hne (by rw [hD, e]))) (fun D' hM => ?_) rfl rfl rfl (fun D' hD' => ?_)
                · have hr := RowsOne.append (rest := cur.drop (l.length * i.size + news.length)) htR htl hsrc.rows
                  have hr' := hr.mono kg.toKeep hM
                  exact ⟨new, Te, fz, setRow_heap w b _ _ Te _ g1, by rw [hnl]; exact g2, by simpa using hl1, hr'.1, hr'.2.1, hr'.2.2⟩
                · simp only [Slot, Val, Cell]
                  exact .inr ⟨b, cap, cur.length, hD', by simp, hfit, by rw [kg.row b (hm.lt b ⟨m, hD⟩)]; simp [World.row, World.shape?, g1], by simpa using hroom⟩
              · have hload : (Builtin.firstCells i.size l.length (.slice (some ⟨b, 0, none⟩) l.length cap)).run P w.drew = .ok (cur.take (l.length * i.size)).toArray w.drew := by
                  refine run_firstCells_some w.drew i.size l.length ⟨b, 0, none⟩ l.length cap _ htl (fun j vv hj => ?_)
                  have hce : w.drew.cell? ⟨b, j, none⟩ = w.cell? ⟨b, j, none⟩ := rfl
                  rw [addr_add, Nat.zero_add, hce]
                  rw [List.getElem?_take] at hj
                  split at hj
                  · rename_i hjl
                    have hjc : j < cur.length := by omega
                    rw [world_cell g1 hjc]
                    simp [List.getD, hj]
                  · cases hj
                obtain ⟨cap', rest, hcap', hre, hrun⟩ := run_append_out (ty := ty) hut hi hu2 hzv hsrc (some ⟨b, 0, none⟩) l.length cap hfit (by omega) (by rw [hbe]; exact hl2) hload
                exact growOut _ cap' rest htR htl hcap' hre hrun
          · cases h
        · cases h
      · cases h
    · cases h
  · cases h

end Go.Abs
