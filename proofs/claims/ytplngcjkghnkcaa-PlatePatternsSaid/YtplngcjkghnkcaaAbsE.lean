/- Soundness of the read operations. -/
import Derived.Test.YtplngcjkghnkcaaAbsD
namespace Go.Abs
open Go.RowKit

theorem run_bound_ok {P : Program} {w : World} (k : IntKind) (i : Int) (y : Nat) (code : BoundsCode) (h0 : 0 ≤ i) (h1 : i ≤ y) : (Instr.sliceBound (.int k i) y code).run P w = .ok i.toNat w := by
  simp [Instr.sliceBound, asIntOf, h0, h1]

theorem slot_idx {w : World} {D : Names} {x : AV} {v : Value} {n : Int} (h : idx x = some n) (hv : Slot w D x v) : ∃ k, v = .int k n := by
  unfold idx at h
  split at h
  · rename_i k m
    simp only [Option.some.injEq] at h; subst h
    exact ⟨k, slot_int hv⟩
  · cases h

/-- The bounds of a slice expression. -/
theorem bounds_sound {P : Program} {w : World} {D : Names} {env : List AV} {a : Act} (he : EnvRep w D env a.tmps) {lo hi : Option Operand} {l h : Int} {len cap : Nat} (b : Bool)
    (hl : bnd env 0 lo = some l) (hh : bnd env len hi = some h) (h0 : 0 ≤ l) (h1 : l ≤ h) (h2 : h ≤ cap) (w' : World) :
    (Instr.sliceBounds b len cap (lo.map a.eval) (hi.map a.eval) none).run P w' = .ok (l.toNat, h.toNat, cap) w' := by
  have H : (match hi.map a.eval with | some v => Instr.sliceBound v cap (if b then .sliceAcap else .sliceAlen) | none => pure len : Sem Nat).run P w' = .ok h.toNat w' := by
    cases hi with
    | none => simp only [bnd, Option.some.injEq] at hh; subst hh; simp
    | some o =>
      obtain ⟨k, hk⟩ := slot_idx hh (ev_sound he o)
      simp only [Option.map_some, hk]
      exact run_bound_ok k h cap _ (by omega) h2
  have L : (match lo.map a.eval with | some v => Instr.sliceBound v h.toNat .sliceB | none => pure 0 : Sem Nat).run P w' = .ok l.toNat w' := by
    cases lo with
    | none => simp only [bnd, Option.some.injEq] at hl; subst hl; simp
    | some o =>
      obtain ⟨k, hk⟩ := slot_idx hl (ev_sound he o)
      simp only [Option.map_some, hk]
      exact run_bound_ok k l _ _ h0 (by omega)
  unfold Instr.sliceBounds
  cases hi with
  | none =>
    cases lo with
    | none => simp_all
    | some o => simp_all
  | some o' =>
    cases lo with
    | none => simp_all
    | some o => simp_all


theorem strTy_spec {P : Program} {T : TypeId} (h : strTy P T = true) : P.underlying T = some .string := by
  unfold strTy at h; split at h <;> simp_all
theorem boolTy_spec {P : Program} {T : TypeId} (h : boolTy P T = true) : P.underlying T = some .bool := by
  unfold boolTy at h; split at h <;> simp_all
theorem intTy_spec {P : Program} {T : TypeId} {k : IntKind} (h : intTy P T = some k) : P.underlying T = some (.int k) := by
  unfold intTy at h; split at h <;> simp_all
theorem sliceElem_spec {P : Program} {T sz : Nat} (h : sliceElem P T = some sz) : ∃ e i, P.underlying T = some (.slice e) ∧ P.info? e = some i ∧ i.size = sz := by
  unfold sliceElem at h
  split at h
  · rename_i e hu
    cases hi : P.info? e with
    | none => simp [hi] at h
    | some i => simp [hi] at h; exact ⟨e, i, hu, hi, h⟩
  · cases h
theorem arrElem_spec {P : Program} {T n sz : Nat} (h : arrElem P T = some (n, sz)) : ∃ e i, P.underlying T = some (.array n e) ∧ P.info? e = some i ∧ i.size = sz := by
  unfold arrElem at h
  split at h
  · rename_i n' e hu
    cases hi : P.info? e with
    | none => simp [hi] at h
    | some i => simp [hi] at h; obtain ⟨rfl, rfl⟩ := h; exact ⟨e, i, hu, hi, rfl⟩
  · cases h

theorem run_slice_of {P : Program} {w : World} {T : TypeId} {sz : Nat} (hs : sliceElem P T = some sz) (a : Option Addr) (len cap : Nat) (lo hi : Option Value) {l h m : Nat}
    (hb : (Instr.sliceBounds true len cap lo hi none).run P w = .ok (l, h, m) w) :
    (Instr.sliceAt T (.slice a len cap) lo hi none).run P w = .ok (.slice (if m = l then a else a.map (·.add (l * sz))) (h - l) (m - l)) w := by
  obtain ⟨e, i, hu, hi', rfl⟩ := sliceElem_spec hs
  simp [Instr.sliceAt, run_underlying hu, Instr.slice, hb, sizeOf, typeInfo, hi']

theorem r_slc {P : Program} {w0 w : World} {M0 : Nat → Prop} {D : Names} {objs : List (Nat × Obj)} (hm : Mem w0 M0 objs D w) {env : List AV} {a : Act} (he : EnvRep w D env a.tmps)
    {T : TypeId} {lo hi : Option Operand} {x y : AV} (h : slc P T objs env x lo hi = some y) {v : Value} (hv : Slot w D x v) :
    Yields1 P w D (Instr.sliceAt T v (lo.map a.eval) (hi.map a.eval) none) y := by
  unfold slc at h
  split at h
  · -- str
    rename_i s
    split at h
    · rename_i hT
      split at h
      · rename_i l u hl hu
        split at h
        · rename_i hc
          simp only [Option.some.injEq] at h; subst h
          obtain ⟨h0, h1, h2⟩ := hc
          obtain ⟨rfl, hlim⟩ := slot_str hv
          have hle : ((s.drop l.toNat).take (u.toNat - l.toNat)).length ≤ lim := by simp; omega
          refine ⟨_, slot_mk_str _ hle, fun w' _ => ?_⟩
          have hb := bounds_sound (P := P) (cap := s.length) (len := s.length) he false hl hu h0 h1 h2 w'
          have hz : (⟨s.toArray⟩ : ByteArray).size = s.length := by simp [ByteArray.size]
          simp only [Instr.sliceAt, Sem.run_bind, run_underlying (strTy_spec hT), Result.andThen_ok, Instr.slice, Option.isSome_none, Bool.false_eq_true, if_false, hz, hb, Sem.run_pure]
          congr 2
          apply ByteArray.ext
          simp [ByteArray.data_extract]
        · cases h
      · cases h
    · cases h
  · -- nsl
    split at h
    · rename_i hT
      split at h
      · rename_i l u hl hu
        split at h
        · rename_i hc
          simp only [Option.some.injEq] at h; subst h
          obtain ⟨h0, h1, h2⟩ := hc
          rw [slot_nsl hv]
          obtain ⟨sz, hsz⟩ := Option.isSome_iff_exists.1 hT
          refine ⟨_, Imm.slot .nsl, fun w' _ => ?_⟩
          have hb := bounds_sound (P := P) (cap := 0) (len := 0) he true hl hu h0 h1 h2 w'
          rw [run_slice_of hsz _ _ _ _ _ hb]
          have : l.toNat = 0 := by omega
          have : u.toNat = 0 := by omega
          simp [*]
        · cases h
      · cases h
    · cases h
  · -- sl
    rename_i sz s
    split at h
    · rename_i hT
      split at h
      · rename_i l u hl hu
        split at h
        · rename_i hc
          simp only [Option.some.injEq] at h; subst h
          obtain ⟨h0, h1, h2⟩ := hc
          simp only [Slot, Val, Cell] at hv
          cases hv with
          | slnil _ b cap =>
            have e1 : l = 0 := by simp at h2; omega
            have e2 : u = 0 := by simp at h2; omega
            subst e1; subst e2
            refine ⟨_, Imm.slot (.slnil sz (if cap = 0 then b else b.map (·.add (0 * sz))) (cap - 0)), fun w' _ => ?_⟩
            have hb := bounds_sound (P := P) (cap := cap) (len := 0) he true hl hu h0 h1 (by omega) w'
            rw [run_slice_of hT _ _ _ _ _ hb]
            rfl
          | sl _ _ b off cap f hb hM hcap hn hs hcl h1' hi' =>
            by_cases hml : cap = l.toNat
            · have hz : u.toNat - l.toNat = 0 := by omega
              rw [hz, List.take_zero]
              refine ⟨_, Imm.slot (.slnil sz (some ⟨b, off, none⟩) (cap - l.toNat)), fun w' _ => ?_⟩
              have hbb := bounds_sound (P := P) (cap := cap) (len := s.length) he true hl hu h0 h1 (by omega) w'
              rw [run_slice_of hT _ _ _ _ _ hbb, if_pos hml, hz]
            · have hlen : ((s.drop l.toNat).take (u.toNat - l.toNat)).length = u.toNat - l.toNat := by simp; omega
              have key : ∀ (j : Nat) (cs : List AV), ((s.drop l.toNat).take (u.toNat - l.toNat))[j]? = some cs → s[l.toNat + j]? = some cs := by
                intro j cs hj
                rw [List.getElem?_take] at hj
                split at hj
                · rwa [List.getElem?_drop] at hj
                · cases hj
              have hI := Imm.sl (w := w) (M := D.M) sz ((s.drop l.toNat).take (u.toNat - l.toNat)) b (off + l.toNat * sz) (cap - l.toNat) (fun j i => f (l.toNat + j) i) hb hM (by omega) (by omega)
                (fun j cs hj => hs _ _ (key j cs hj))
                (fun j cs i x hj hx => by
                  have := hcl _ _ _ _ (key j cs hj) hx
                  rw [show off + l.toNat * sz + (j * sz + i) = off + ((l.toNat + j) * sz + i) by rw [Nat.add_mul]; omega]
                  exact this)
                (fun j cs i x hj hx => h1' _ _ _ _ (key j cs hj) hx)
                (fun j cs i x hj hx => hi' _ _ _ _ (key j cs hj) hx)
              refine ⟨_, Imm.slot hI, fun w' _ => ?_⟩
              have hbb := bounds_sound (P := P) (cap := cap) (len := s.length) he true hl hu h0 h1 (by omega) w'
              rw [run_slice_of hT _ _ _ _ _ hbb, if_neg hml, hlen]
              simp [addr_add]
        · cases h
      · cases h
    · cases h
  · -- msl
    rename_i n sz off len
    split at h
    · rename_i hT
      split at h
      · rename_i l u hl hu
        split at h
        · rename_i hc
          simp only [Option.some.injEq] at h; subst h
          obtain ⟨h0, h1, h2⟩ := hc
          simp only [Slot, Val, Cell] at hv
          rcases hv with ⟨g1, rfl, b, rfl⟩ | ⟨b, cap, N, g1, rfl, g3, g4, g5⟩
          · have e1 : l = 0 := by omega
            have e2 : u = 0 := by omega
            subst e1; subst e2
            refine ⟨.slice b 0 0, by simp only [Slot, Val, Cell]; exact .inl ⟨g1, rfl, b, rfl⟩, fun w' _ => ?_⟩
            have hb := bounds_sound (P := P) (cap := 0) (len := 0) he true hl hu h0 h1 (by omega) w'
            rw [run_slice_of hT _ _ _ _ _ hb]
            rfl
          · by_cases hml : cap = l.toNat
            · have hz : u.toNat - l.toNat = 0 := by omega
              refine ⟨.slice (some ⟨b, off * sz, none⟩) 0 0, by simp only [Slot, Val, Cell]; exact .inl ⟨by simp [g1], hz, _, rfl⟩, fun w' _ => ?_⟩
              have hbb := bounds_sound (P := P) (cap := cap) (len := len) he true hl hu h0 h1 (by omega) w'
              rw [run_slice_of hT _ _ _ _ _ hbb, if_pos hml, hz]
              simp [hml]
            · refine ⟨.slice (some ⟨b, (off + l.toNat) * sz, none⟩) (u.toNat - l.toNat) (cap - l.toNat), by
                simp only [Slot, Val, Cell]; exact .inr ⟨b, cap - l.toNat, N, g1, rfl, by omega, g4, by
                  rw [show off + l.toNat + (cap - l.toNat) = off + cap by omega]; exact g5⟩, fun w' _ => ?_⟩
              have hbb := bounds_sound (P := P) (cap := cap) (len := len) he true hl hu h0 h1 (by omega) w'
              rw [run_slice_of hT _ _ _ _ _ hbb, if_neg hml]
              simp [addr_add, Nat.add_mul]
        · cases h
      · cases h
    · cases h
  · -- ref
    rename_i n sz
    split at h
    · rename_i len sz' sz'' rows hA hlk
      split at h
      · rename_i hs
        obtain ⟨rfl, rfl, hr⟩ := hs
        split at h
        · rename_i l u hl hu
          split at h
          · rename_i hc
            simp only [Option.some.injEq] at h; subst h
            obtain ⟨h0, h1, h2⟩ := hc
            simp only [Slot, Val, Cell] at hv
            obtain ⟨b, g1, rfl⟩ := hv
            obtain ⟨vs, Ty, fz, k1, k2, k3, k4, k5, k6⟩ := hm.rep n _ _ hlk g1
            obtain ⟨e, i, hu', hi', hsz⟩ := arrElem_spec hA
            have hrow : World.row w b = some vs.length := by simp [World.row, World.shape?, k1]
            have hN : (l.toNat + (len - l.toNat)) * sz ≤ vs.length := by
              rw [show l.toNat + (len - l.toNat) = len by omega, ← hr]; exact k4
            by_cases hml : len = l.toNat
            · have hz : u.toNat - l.toNat = 0 := by omega
              refine ⟨.slice (some ⟨b, 0, none⟩) 0 0, by simp only [Slot, Val, Cell]; exact .inl ⟨by simp [g1], hz, _, rfl⟩, fun w' _ => ?_⟩
              have hbb := bounds_sound (P := P) (cap := len) (len := len) he false hl hu h0 h1 h2 w'
              simp [Instr.sliceAt, run_underlying hu', Instr.sureAddr, hbb, sizeOf, typeInfo, hi']
              exact ⟨by simp [hml], hz, by omega⟩
            · refine ⟨.slice (some ⟨b, l.toNat * sz, none⟩) (u.toNat - l.toNat) (len - l.toNat), by
                simp only [Slot, Val, Cell]; exact .inr ⟨b, len - l.toNat, vs.length, g1, rfl, by omega, hrow, hN⟩, fun w' _ => ?_⟩
              have hbb := bounds_sound (P := P) (cap := len) (len := len) he false hl hu h0 h1 h2 w'
              simp [Instr.sliceAt, run_underlying hu', Instr.sureAddr, hbb, sizeOf, typeInfo, hi', hml, hsz, addr_add]
          · cases h
        · cases h
      · cases h
    · cases h
  · cases h

end Go.Abs
