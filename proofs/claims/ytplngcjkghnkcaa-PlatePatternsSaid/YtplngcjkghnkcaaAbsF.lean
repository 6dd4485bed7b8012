/- Soundness of the read operations, 2. -/
import Derived.Test.YtplngcjkghnkcaaAbsE
namespace Go.Abs
open Go.RowKit

theorem r_fieldAddr {P : Program} {w : World} {D : Names} {T k o n : Nat} {g : Bool} (hf : fieldOf P T k = some (o, g, n)) {v : Value} :
    (∀ cs, Slot w D (.at_ cs) v → Yields1 P w D (Instr.fieldAt T v k) (.at_ (cs.drop o))) ∧
    (∀ m sz i off, Slot w D (.ref m sz i off) v → Yields1 P w D (Instr.fieldAt T v k) (.ref m sz i (off + o))) := by
  obtain ⟨fs, f, i, d, hu, hk, hi, hd, hz, rfl, rfl, hg⟩ := fieldOf_spec hf
  constructor
  · intro cs hv
    simp only [Slot, Val, Cell] at hv
    cases hv with
    | at_ _ b off fn hb hM hc h1 hh =>
      have hI := Imm.at_ (w := w) (M := D.M) (cs.drop f.offset) b (off + f.offset) (fun i => fn (f.offset + i)) hb hM
        (fun i x hx => by rw [List.getElem?_drop] at hx; have := hc _ _ hx; rwa [← Nat.add_assoc] at this)
        (fun i x hx => by rw [List.getElem?_drop] at hx; exact h1 _ _ hx)
        (fun i x hx => by rw [List.getElem?_drop] at hx; exact hh _ _ hx)
      refine ⟨_, Imm.slot hI, fun w' _ => ?_⟩
      simp [Instr.fieldAt, run_underlying hu, hk, Instr.sureAddr, fieldPlace, sizeOf, typeInfo, hi, hz, addr_add]
  · intro m sz j off hv
    simp only [Slot, Val, Cell] at hv
    obtain ⟨b, hD, rfl⟩ := hv
    refine ⟨.pointer (some ⟨b, j * sz + (off + f.offset), none⟩), by simp only [Slot, Val, Cell]; exact ⟨b, hD, rfl⟩, fun w' _ => ?_⟩
    simp [Instr.fieldAt, run_underlying hu, hk, Instr.sureAddr, fieldPlace, sizeOf, typeInfo, hi, hz, addr_add, Nat.add_assoc]

theorem slot_agg {w : World} {D : Names} {l : List AV} {v : Value} (h : Slot w D (.agg l) v) : ∃ vs : List Value, v = .agg vs.toArray ∧ vs.length = l.length ∧
    ∀ (i : Nat) (x : AV), l[i]? = some x → Cell w D x (vs.getD i undef) ∧ (vs.getD i undef).oneCell' = true := by simpa [Slot, Val] using h

theorem Cell.slot {w : World} {D : Names} {x : AV} {v : Value} (h : Cell w D x v) : Slot w D x v := by
  cases x with
  | agg => simp only [Cell] at h; cases h
  | tup => simp only [Cell] at h; cases h
  | _ => simp only [Slot, Val]; exact h

theorem r_field {P : Program} {w : World} {D : Names} {T k o n : Nat} {g : Bool} (hf : fieldOf P T k = some (o, g, n)) {v : Value} {cs : List AV} (hv : Slot w D (.agg cs) v) :
    (g = true → o + n ≤ cs.length → Yields1 P w D (Instr.field T v k) (.agg ((cs.drop o).take n))) ∧
    (g = false → ∀ x, cs[o]? = some x → Yields1 P w D (Instr.field T v k) x) := by
  obtain ⟨fs, f, i, d, hu, hk, hi, hd, hz, rfl, rfl, hg⟩ := fieldOf_spec hf
  obtain ⟨vs, rfl, hl, hc⟩ := slot_agg hv
  constructor
  · intro hgt hle
    rw [hgt] at hg
    refine ⟨.agg ((vs.drop f.offset).take i.size).toArray, ⟨_, rfl, by simp [hl], fun j x hx => ?_⟩, fun w' _ => ?_⟩
    · rw [List.getElem?_take] at hx
      split at hx
      · rename_i hj
        rw [List.getElem?_drop] at hx
        have := hc _ _ hx
        simpa [List.getD, List.getElem?_take, List.getElem?_drop, hj] using this
      · cases hx
    · have e : (vs.toArray.extract f.offset (f.offset + i.size)) = ((vs.drop f.offset).take i.size).toArray := by simp
      cases d <;> simp at hg <;> simp [Instr.field, run_underlying hu, hk, asAgg, part, Go.isAgg, run_underlying hd, sizeOf, typeInfo, hi]
  · intro hgf x hx
    rw [hgf] at hg
    have h := hc _ _ hx
    have hlt : f.offset < vs.length := by rw [hl]; exact (List.getElem?_eq_some_iff.1 hx).1
    refine ⟨vs.getD f.offset undef, h.1.slot, fun w' _ => ?_⟩
    cases d <;> simp at hg <;> simp [Instr.field, run_underlying hu, hk, asAgg, part, Go.isAgg, run_underlying hd, List.getElem?_eq_getElem hlt, List.getD]

theorem r_indexAddr_sl {P : Program} {w : World} {D : Names} {T sz : Nat} (hs : sliceElem P T = some sz) {l : List (List AV)} {v : Value} (hv : Slot w D (.sl sz l) v) (k : IntKind) {n : Int} (h0 : 0 ≤ n) (h1 : n < l.length) :
    Yields1 P w D (Instr.indexAt T v (.int k n)) (.at_ (l.getD n.toNat [])) := by
  obtain ⟨e, i, hu, hi, rfl⟩ := sliceElem_spec hs
  simp only [Slot, Val, Cell] at hv
  cases hv with
  | slnil _ a cap => simp at h1; omega
  | sl _ _ b off cap f hb hM hcap hn hsz hc h1' hi' =>
    have hlt : n.toNat < l.length := by omega
    have hj : l[n.toNat]? = some (l.getD n.toNat []) := by simp [List.getD, List.getElem?_eq_getElem hlt]
    have hI := Imm.at_ (w := w) (M := D.M) (l.getD n.toNat []) b (off + n.toNat * i.size) (fun c => f n.toNat c) hb hM
      (fun c x hx => by have := hc _ _ _ _ hj hx; rwa [← Nat.add_assoc] at this) (fun c x hx => h1' _ _ _ _ hj hx) (fun c x hx => hi' _ _ _ _ hj hx)
    refine ⟨_, Imm.slot hI, fun w' _ => ?_⟩
    simp [Instr.indexAt, asIntOf, run_underlying hu, h0, h1, sizeOf, typeInfo, hi, addr_add]

theorem r_indexAddr_msl {P : Program} {w : World} {D : Names} {T sz : Nat} (hs : sliceElem P T = some sz) {m off len : Nat} {v : Value} (hv : Slot w D (.msl m sz off len) v) (k : IntKind) {n : Int} (h0 : 0 ≤ n) (h1 : n < len) :
    Yields1 P w D (Instr.indexAt T v (.int k n)) (.ref m sz (off + n.toNat) 0) := by
  obtain ⟨e, i, hu, hi, rfl⟩ := sliceElem_spec hs
  simp only [Slot, Val, Cell] at hv
  rcases hv with ⟨_, rfl, _⟩ | ⟨b, cap, N, g1, rfl, g3, g4, g5⟩
  · simp at h1; omega
  · refine ⟨.pointer (some ⟨b, (off + n.toNat) * i.size + 0, none⟩), by simp only [Slot, Val, Cell]; exact ⟨b, g1, rfl⟩, fun w' _ => ?_⟩
    simp [Instr.indexAt, asIntOf, run_underlying hu, h0, h1, sizeOf, typeInfo, hi, addr_add, Nat.add_mul]

theorem r_indexAddr_ref {P : Program} {w : World} {D : Names} {T sz len : Nat} (hs : arrElem P T = some (len, sz)) {m : Nat} {v : Value} (hv : Slot w D (.ref m sz 0 0) v) (k : IntKind) {n : Int} (h0 : 0 ≤ n) (h1 : n < len) :
    Yields1 P w D (Instr.indexAt T v (.int k n)) (.ref m sz n.toNat 0) := by
  obtain ⟨e, i, hu, hi, rfl⟩ := arrElem_spec hs
  simp only [Slot, Val, Cell] at hv
  obtain ⟨b, g1, rfl⟩ := hv
  refine ⟨.pointer (some ⟨b, n.toNat * i.size + 0, none⟩), by simp only [Slot, Val, Cell]; exact ⟨b, g1, rfl⟩, fun w' _ => ?_⟩
  simp [Instr.indexAt, asIntOf, run_underlying hu, Instr.sureAddr, h0, h1, sizeOf, typeInfo, hi, addr_add]

theorem r_index_str {P : Program} {w : World} {D : Names} {T : Nat} (hs : strTy P T = true) {s : List UInt8} {v : Value} (hv : Slot w D (.str s) v) (k : IntKind) {n : Int} (h0 : 0 ≤ n) (h1 : n < s.length) :
    Yields1 P w D (Instr.index T v (.int k n)) (.int .u8 (s.getD n.toNat 0).toNat) := by
  obtain ⟨rfl, _⟩ := slot_str hv
  have hlt : n.toNat < s.length := by omega
  refine ⟨_, slot_mk_int _ _, fun w' _ => ?_⟩
  have hb : (⟨s.toArray⟩ : ByteArray)[n.toNat]? = some s[n.toNat] := by
    rw [ByteArray.getElem?_lt' _ _ (by simpa [ByteArray.size] using hlt)]
    simp [ByteArray.getElem_eq_getElem_data]
  simp only [Instr.index, Sem.run_bind, asIntOf, Sem.run_pure, Result.andThen_ok, run_underlying (strTy_spec hs), h0, if_true, hb]
  simp [List.getD, List.getElem?_eq_getElem hlt]

theorem r_load {P : Program} {w0 w : World} {M0 : Nat → Prop} {D : Names} {objs : List (Nat × Obj)} (hm : Mem w0 M0 objs D w) {T n : Nat} {g : Bool} (ht : cellTy P T = some (g, n)) {v : Value} {x : AV} :
    (∀ cs, Slot w D (.at_ cs) v → ldCells g n cs = some x → Yields1 P w D (Instr.loadAt T v) x) ∧
    (∀ m sz i off, Slot w D (.ref m sz i off) v → (cellsAt objs m sz i off).bind (ldCells g n) = some x → Yields1 P w D (Instr.loadAt T v) x) := by
  constructor
  · intro cs hv hx
    simp only [Slot, Val, Cell] at hv
    obtain ⟨b, o, rfl, hrow, _⟩ := row_at hv
    obtain ⟨u, h1, h2⟩ := hrow.load (P := P) ht hx
    exact ⟨u, h1, fun w' hw' => by simpa [Instr.loadAt, Instr.sureAddr] using h2 w' hw'⟩
  · intro m sz i off hv hx
    simp only [Slot, Val, Cell] at hv
    obtain ⟨b, hD, rfl⟩ := hv
    obtain ⟨cs, hcs, hx⟩ := Option.bind_eq_some_iff.1 hx
    obtain ⟨u, h1, h2⟩ := (row_obj hm hcs hD).load (P := P) ht hx
    exact ⟨u, h1, fun w' hw' => by simpa [Instr.loadAt, Instr.sureAddr] using h2 w' hw'⟩

theorem r_uop {P : Program} {w : World} {D : Names} {op : UnOp} {x y : AV} (h : uop op x = some y) {v : Value} (hv : Slot w D x v) : Yields1 P w D (Op.unary op v) y := by
  unfold uop at h
  split at h
  · rw [slot_bool hv]; simp only [Option.some.injEq] at h; subst h
    exact ⟨_, slot_mk_bool _, fun w' _ => by simp [Op.unary]⟩
  · rw [slot_int hv]; simp only [Option.some.injEq] at h; subst h
    exact ⟨_, slot_mk_int _ _, fun w' _ => by simp [Op.unary, Op.intArith]⟩
  · rw [slot_int hv]; simp only [ibin, Option.some.injEq] at h; subst h
    exact ⟨_, slot_mk_int _ _, fun w' _ => by simp [Op.unary, Op.intBits]⟩
  · cases h

theorem decB_spec : ∀ (l : List (List AV)) (bs : List UInt8), decB l = some bs → bs.length = l.length ∧ ∀ (j : Nat) (cs : List AV), l[j]? = some cs → ∃ n : Int, cs = [.int .u8 n] ∧ bs[j]? = some (UInt8.ofNat n.toNat)
  | [], bs, h => by simp [decB] at h; subst h; simp
  | cs :: l, bs, h => by
    unfold decB at h
    split at h
    · rename_i e; cases e
    · rename_i n r e
      cases e
      obtain ⟨bs', h', rfl⟩ := Option.map_eq_some_iff.1 h
      obtain ⟨ih1, ih2⟩ := decB_spec l bs' h'
      refine ⟨by simp [ih1], fun j cs hj => ?_⟩
      cases j with
      | zero => simp at hj; exact ⟨n, hj.symm, rfl⟩
      | succ j => simp at hj; simpa using ih2 j cs hj
    · cases h

theorem byteSl_spec {P : Program} {T : TypeId} (h : byteSl P T = true) : ∃ e, P.underlying T = some (.slice e) ∧ P.underlying e = some (.int .u8) := by
  unfold byteSl at h
  split at h
  · rename_i e hu
    split at h
    · rename_i h2; exact ⟨e, hu, h2⟩
    · cases h
  · cases h

theorem foldl_push : ∀ (ns : List Int) (s : ByteArray), (ns.foldl (fun r n => r.push (UInt8.ofNat n.toNat)) s).data.toList = s.data.toList ++ ns.map fun n => UInt8.ofNat n.toNat
  | [], s => by simp
  | n :: ns, s => by
    rw [List.foldl_cons, foldl_push ns]
    simp

theorem r_bytes {P : Program} {w : World} {D : Names} {S T : TypeId} (hS : byteSl P S = true) (hT : strTy P T = true) {l : List (List AV)} {bs : List UInt8} (hd : decB l = some bs) {v : Value} (hv : SliceRep w D 1 l v) :
    Yields1 P w D (convert S T v) (.str bs) := by
  obtain ⟨e, hu, he⟩ := byteSl_spec hS
  obtain ⟨hlen, hj⟩ := decB_spec l bs hd
  obtain ⟨a, cap, rfl, hcap, hlim, hcase⟩ := hv
  refine ⟨_, slot_mk_str bs (by omega), fun w' hw' => ?_⟩
  rw [run_convert_bytes_string w' S T e a l.length cap hu he (strTy_spec hT)]
  rcases hcase with rfl | ⟨b, off, rfl, hb, hsz, f, hf⟩
  · have : bs = [] := List.eq_nil_of_length_eq_zero (by simpa using hlen)
    subst this
    cases a with
    | none => simp [Conv.bytesToString]; rfl
    | some a => simp [Conv.bytesToString, loadCells, loadCellsFrom]; rfl
  · let ns : List Int := l.map fun cs => match cs with | [.int _ n] => n | _ => 0
    have hns : ∀ (j : Nat) (cs : List AV), l[j]? = some cs → w.cell? ⟨b, off + j, none⟩ = some (.int .u8 (ns.getD j 0)) ∧ bs[j]? = some (UInt8.ofNat (ns.getD j 0).toNat) := by
      intro j cs hjc
      obtain ⟨n, rfl, hbj⟩ := hj j cs hjc
      have h := hf j _ 0 _ hjc rfl
      have hi := h.2.2
      have hn : ns.getD j 0 = n := by simp [ns, List.getD, List.getElem?_map, hjc]
      rw [hn]
      refine ⟨?_, hbj⟩
      have h1 := h.1
      simp only [Nat.mul_one, Nat.add_zero] at h1
      rw [h1]
      generalize f j 0 = u at hi
      cases hi
      rfl
    have hload : (loadCells ⟨b, off, none⟩ l.length).run P w' = .ok (ns.map (Value.int .u8)).toArray w' := by
      rw [run_loadCells (P := P) w' ⟨b, off, none⟩ l.length (fun j => .int .u8 (ns.getD j 0)) (fun j hjl => by
        rw [addr_add, below_cell hw' hb]
        exact (hns j _ (List.getElem?_eq_getElem hjl)).1)]
      congr 2
      apply List.ext_getElem?
      intro j
      by_cases hjl : j < l.length
      · have : j < ns.length := by simp [ns, hjl]
        simp [hjl, List.getD, List.getElem?_eq_getElem this]
      · have : ¬ j < ns.length := by simp [ns]; omega
        simp [hjl, List.getElem?_eq_none (Nat.le_of_not_lt this)]
    rw [run_bytesToString w' _ _ _ ns hload]
    congr 2
    apply ByteArray.ext
    apply Array.ext'
    rw [foldl_push]
    simp only [ByteArray.data_empty, List.nil_append]
    apply List.ext_getElem?
    intro j
    by_cases hjl : j < l.length
    · have h := (hns j _ (List.getElem?_eq_getElem hjl)).2
      have h2 : j < ns.length := by simp [ns, hjl]
      rw [List.getElem?_map, List.getElem?_eq_getElem h2]
      simp only [List.getD, List.getElem?_eq_getElem h2] at h
      simpa using h.symm
    · have h2 : ¬ j < ns.length := by simp [ns]; omega
      rw [List.getElem?_eq_none (by simp; omega), List.getElem?_eq_none (by simp [hlen]; omega)]

end Go.Abs
