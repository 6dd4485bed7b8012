/- Equality of aggregates; all read operations together. -/
import Derived.Test.YtplngcjkghnkcaaAbsF
namespace Go.Abs
open Go.RowKit

theorem eqL_append : ∀ (k1 k2 : List TypeDesc) (a b : List AV) (r : Bool), eqL (k1 ++ k2) a b = some r →
    ∃ r1 r2, eqL k1 (a.take k1.length) (b.take k1.length) = some r1 ∧ eqL k2 (a.drop k1.length) (b.drop k1.length) = some r2 ∧ r = (r1 && r2)
  | [], k2, a, b, r, h => ⟨true, r, by simp [eqL], by simpa using h, by simp⟩
  | k :: k1, k2, [], b, r, h => by simp [eqL] at h
  | k :: k1, k2, x :: a, [], r, h => by simp [eqL] at h
  | k :: k1, k2, x :: a, y :: b, r, h => by
    simp only [List.cons_append, eqL] at h
    split at h
    · rename_i p q hp hq
      simp only [Option.some.injEq] at h
      obtain ⟨r1, r2, h1, h2, h3⟩ := eqL_append k1 k2 a b q hq
      refine ⟨p && r1, r2, ?_, by simpa using h2, by rw [← h, h3, Bool.and_assoc]⟩
      simp only [List.length_cons, List.take_succ_cons, eqL, hp, h1]
    · cases h

theorem eqL_length : ∀ (k : List TypeDesc) (a b : List AV) (r : Bool), eqL k a b = some r → a.length = k.length ∧ b.length = k.length
  | [], [], [], _, _ => by simp
  | [], _ :: _, _, _, h => by simp [eqL] at h
  | [], [], _ :: _, _, h => by simp [eqL] at h
  | _ :: _, [], _, _, h => by simp [eqL] at h
  | _ :: _, _ :: _, [], _, h => by simp [eqL] at h
  | k :: ks, x :: xs, y :: ys, r, h => by
    simp only [eqL] at h
    split at h
    · rename_i p q hp hq
      have := eqL_length ks xs ys q hq
      simp [this]
    · cases h

def CellsRep (w : World) (D : Names) (a : List AV) (vs : List Value) : Prop := vs.length = a.length ∧ ∀ (i : Nat) (x : AV), a[i]? = some x → Cell w D x (vs.getD i undef)

theorem CellsRep.take {w : World} {D : Names} {a : List AV} {vs : List Value} (h : CellsRep w D a vs) (n : Nat) : CellsRep w D (a.take n) (vs.take n) := by
  refine ⟨by simp [h.1], fun i x hx => ?_⟩
  rw [List.getElem?_take] at hx
  split at hx
  · rename_i hi
    have := h.2 i x hx
    simpa [List.getD, List.getElem?_take, hi] using this
  · cases hx
theorem CellsRep.drop {w : World} {D : Names} {a : List AV} {vs : List Value} (h : CellsRep w D a vs) (n : Nat) : CellsRep w D (a.drop n) (vs.drop n) := by
  refine ⟨by simp [h.1], fun i x hx => ?_⟩
  rw [List.getElem?_drop] at hx
  have := h.2 _ x hx
  simpa [List.getD, List.getElem?_drop] using this

theorem eqT_sound {P : Program} {w : World} {D : Names} {d : TypeDesc} {x y : AV} {r : Bool} (h : eqT d x y = some r) {T : TypeId} (hu : P.underlying T = some d) {v u : Value} (hv : Cell w D x v) (hw : Cell w D y u)
    (e : Nat) (w' : World) : (Op.equalIn (e + 1) T v u).run P w' = .ok r w' := by
  unfold eqT at h
  split at h
  · have h1 := slot_bool hv.slot; have h2 := slot_bool hw.slot; subst h1; subst h2
    simp only [Option.some.injEq] at h; subst h
    simp [Op.equalIn, run_underlying hu]
  · have h1 := slot_int hv.slot; have h2 := slot_int hw.slot; subst h1; subst h2
    split at h
    · rename_i hk
      simp only [Option.some.injEq] at h; subst h
      simp [Op.equalIn, run_underlying hu, hk]
    · cases h
  · obtain ⟨h1, _⟩ := slot_str hv.slot; obtain ⟨h2, _⟩ := slot_str hw.slot; subst h1; subst h2
    simp only [Option.some.injEq] at h; subst h
    simp [Op.equalIn, run_underlying hu, beq_toListBytes]
  · cases h

def mkV (P : Program) (T : TypeId) (vs : List Value) : Value := match P.underlying T with | some (.struct _) => .agg vs.toArray | _ => vs.getD 0 undef

theorem eqFields_sound (P : Program) {w : World} {D : Names} (rec : TypeId → Option (List TypeDesc)) (e : Nat)
    (ih : ∀ T ks, rec T = some ks → (∀ d, P.underlying T = some d → (leafTy d = true ∧ ks.length = 1) ∨ ∃ fs, d = .struct fs) ∧ ∀ a b r vs ws, eqL ks a b = some r → CellsRep w D a vs → CellsRep w D b ws → ∀ w', (Op.equalIn e T (mkV P T vs) (mkV P T ws)).run P w' = .ok r w')
    (hund : ∀ T ks, rec T = some ks → ∃ d, P.underlying T = some d) :
    ∀ (fs : List Field) (acc ks : List TypeDesc), eqFields P rec fs acc = some ks → ∃ rest, ks = acc ++ rest ∧ ∀ a b r (vs ws : List Value), eqL rest (a.drop acc.length) (b.drop acc.length) = some r →
      CellsRep w D a vs → CellsRep w D b ws → ∀ w', (Op.eqFields e vs.toArray ws.toArray fs).run P w' = .ok r w'
  | [], acc, ks, h => by
    simp only [eqFields, Option.some.injEq] at h
    refine ⟨[], by simp [h], fun a b r vs ws hr _ _ w' => ?_⟩
    have hl := eqL_length _ _ _ _ hr
    have h1 : a.drop acc.length = [] := List.eq_nil_of_length_eq_zero (by simpa using hl.1)
    have h2 : b.drop acc.length = [] := List.eq_nil_of_length_eq_zero (by simpa using hl.2)
    rw [h1, h2] at hr
    simp [eqL] at hr
    subst hr
    simp [Op.eqFields]
  | f :: fs, acc, ks, h => by
    simp only [eqFields] at h
    split at h
    · cases h
    · rename_i hne
      simp only [not_or, Decidable.not_not] at hne
      obtain ⟨hname, hoff⟩ := hne
      split at h
      · rename_i l i hl hi
        split at h
        · rename_i hsz
          obtain ⟨rest, hks, hrest⟩ := eqFields_sound P rec e ih hund fs (acc ++ l) ks h
          refine ⟨l ++ rest, by rw [hks, List.append_assoc], fun a b r vs ws hr ha hb w' => ?_⟩
          obtain ⟨r1, r2, h1, h2, h3⟩ := eqL_append l rest _ _ r hr
          have h2' : eqL rest (a.drop (acc ++ l).length) (b.drop (acc ++ l).length) = some r2 := by
            rw [List.drop_drop, List.drop_drop] at h2
            rw [List.length_append]; exact h2
          have hcont := hrest a b r2 vs ws h2' ha hb
          obtain ⟨hform, hih⟩ := ih f.type l hl
          have hv := hih _ _ r1 _ _ h1 ((ha.drop acc.length).take l.length) ((hb.drop acc.length).take l.length)
          obtain ⟨dsc, hu⟩ := hund _ _ hl
          have hlen := eqL_length _ _ _ _ hr
          have e1 : ∀ (us : List Value) (c : List AV), CellsRep w D c us → (c.drop acc.length).length = (l ++ rest).length → ∀ w', (part f.type us.toArray f.offset).run P w' = .ok (mkV P f.type ((us.drop acc.length).take l.length)) w' := by
            intro us c hc hcl w'
            rcases hform _ hu with ⟨hleaf, hl1⟩ | ⟨gs, rfl⟩
            · have hlt : acc.length < us.length := by
                rw [hc.1]; simp at hcl; omega
              have hx : us.toArray[f.offset]? = some (us.getD acc.length undef) := by
                rw [hoff]; simp [List.getD, List.getElem?_eq_getElem hlt]
              have hget : ((us.drop acc.length).take l.length).getD 0 undef = us.getD acc.length undef := by
                rw [hl1]; simp [List.getD, List.getElem?_drop]
              cases dsc <;> simp [leafTy] at hleaf <;> simp [part, Go.isAgg, run_underlying hu, mkV, hu] <;> simp at hx <;> simp [hx] <;> simpa using hget.symm
            · simp [part, Go.isAgg, run_underlying hu, sizeOf, typeInfo, hi, mkV, hu, hoff, hsz]
          simp only [Op.eqFields, hname, ne_eq, not_false_eq_true, if_true, Sem.run_bind, e1 vs a ha (by rw [hlen.1]), e1 ws b hb (by rw [hlen.2]), Result.andThen_ok, hv]
          cases r1 with
          | false => simp [h3]
          | true => simp only [Bool.not_true, Bool.false_eq_true, if_false]; rw [hcont]; simp [h3]
        · cases h
      · cases h

theorem eqPlan_und {P : Program} : ∀ {d : Nat} {T : TypeId} {ks : List TypeDesc}, eqPlan P d T = some ks → ∃ t, P.underlying T = some t ∧ ((leafTy t = true ∧ ks = [t]) ∨ ∃ fs, t = .struct fs)
  | 0, _, _, h => by simp [eqPlan] at h
  | d + 1, T, ks, h => by
    simp only [eqPlan] at h
    split at h
    · rename_i fs hu; exact ⟨_, hu, .inr ⟨fs, rfl⟩⟩
    · rename_i t _ hu
      split at h
      · rename_i hl; simp only [Option.some.injEq] at h; exact ⟨t, hu, .inl ⟨hl, h.symm⟩⟩
      · cases h
    · cases h

theorem eqPlan_sound {P : Program} {w : World} {D : Names} : ∀ (d : Nat) (T : TypeId) (ks : List TypeDesc), eqPlan P d T = some ks → ∀ (a b : List AV) (r : Bool) (vs ws : List Value), eqL ks a b = some r →
    CellsRep w D a vs → CellsRep w D b ws → ∀ (e : Nat), d ≤ e → ∀ w', (Op.equalIn e T (mkV P T vs) (mkV P T ws)).run P w' = .ok r w'
  | 0, _, _, h => by simp [eqPlan] at h
  | d + 1, T, ks, h => by
    intro a b r vs ws hr ha hb e he w'
    obtain ⟨e, rfl⟩ : ∃ e', e = e' + 1 := ⟨e - 1, by omega⟩
    obtain ⟨t, hu, hcase⟩ := eqPlan_und h
    rcases hcase with ⟨hl, rfl⟩ | ⟨fs, rfl⟩
    · have hlen := eqL_length _ _ _ _ hr
      match a, b, hlen, hr, ha, hb with
      | [x], [y], _, hr, ha, hb =>
        simp only [eqL] at hr
        split at hr
        · rename_i p q hp hq
          simp only [Option.some.injEq] at hr hq
          subst hq; simp only [Bool.and_true] at hr; subst hr
          have hx := ha.2 0 x rfl
          have hy := hb.2 0 y rfl
          have hm : ∀ us : List Value, mkV P T us = us.getD 0 undef := by
            intro us; unfold mkV; rw [hu]; cases t <;> simp_all [leafTy]
          rw [hm, hm]
          exact eqT_sound hp hu hx hy e w'
        · cases hr
    · simp only [eqPlan, hu] at h
      split at h
      · cases h
      · rename_i hst
        obtain ⟨rest, hks, hrest⟩ := eqFields_sound P (w := w) (D := D) (eqPlan P d) e
          (fun T ks hk => ⟨fun dd hd => by
            obtain ⟨t', hu', hc'⟩ := eqPlan_und hk
            rw [hu'] at hd; cases hd
            rcases hc' with ⟨h1, h2⟩ | h2
            · exact .inl ⟨h1, by simp [h2]⟩
            · exact .inr h2, fun a b r vs ws hr ha hb => eqPlan_sound d T ks hk a b r vs ws hr ha hb e (by omega)⟩)
          (fun T ks hk => by obtain ⟨t', hu', _⟩ := eqPlan_und hk; exact ⟨t', hu'⟩) fs.toList [] ks h
        simp only [List.nil_append] at hks
        subst hks
        have hF : P.fieldsOf T = fs := by simp [Program.fieldsOf, hu]
        have := run_equalIn_struct (P := P) w' e T vs.toArray ws.toArray (by rw [hF]; exact hu) (by simpa using hst)
        simp only [mkV, hu]
        rw [this, hF]
        exact hrest a b r vs ws (by simpa using hr) ha hb w'


theorem r_bop {P : Program} {w : World} {D : Names} {T : TypeId} {op : BinOp} {x y z : AV} (h : bop P T op x y = some z) {v u : Value} (hv : Slot w D x v) (hu : Slot w D y u) (X Y : Operand) :
    Yields1 P w D (do eqGuard op T X Y v u; binOp op T v u) z := by
  unfold bop at h
  split at h
  · rename_i k a k' b
    rw [slot_int hv, slot_int hu]
    split at h
    · rename_i hk
      obtain ⟨r, h1, h2⟩ := ibin_sound (P := P) hk h T X Y w D
      exact ⟨r, h1, fun w' _ => h2 w'⟩
    · cases h
  · rw [(slot_str hv).1, (slot_str hu).1]
    obtain ⟨r, h1, h2⟩ := sbin_sound (P := P) h T X Y w D
    exact ⟨r, h1, fun w' _ => h2 w'⟩
  · rw [slot_bool hv, slot_bool hu]
    split at h
    · rename_i a b hT
      have heq : ∀ w', (Op.equal T (.bool a) (.bool b)).run P w' = .ok (a == b) w' := fun w' => run_equalIn_bool' w' 9999 T a b (boolTy_spec hT)
      split at h
      · simp only [Option.some.injEq] at h; subst h
        exact ⟨_, slot_mk_bool _, fun w' _ => by simp [run_eqGuard_bool, binOp, heq]⟩
      · simp only [Option.some.injEq] at h; subst h
        exact ⟨_, slot_mk_bool _, fun w' _ => by simp [run_eqGuard_bool, binOp, heq]⟩
      · cases h
    · cases h
  · rename_i a b
    obtain ⟨vs, rfl, hl1, hc1⟩ := slot_agg hv
    obtain ⟨ws, rfl, hl2, hc2⟩ := slot_agg hu
    have ha : CellsRep w D a vs := ⟨hl1, fun i x hx => (hc1 i x hx).1⟩
    have hb : CellsRep w D b ws := ⟨hl2, fun i x hx => (hc2 i x hx).1⟩
    have key : ∀ r, eqAgg P T a b = some r → (∀ w', (Op.equal T (.agg vs.toArray) (.agg ws.toArray)).run P w' = .ok r w') ∧
        (∀ op w', (eqGuard op T X Y (.agg vs.toArray) (.agg ws.toArray)).run P w' = .ok () w') := by
      intro r hr
      unfold eqAgg at hr
      split at hr
      · rename_i fs hus
        split at hr
        · rename_i hg
          split at hr
          · rename_i ks hks
            have := eqPlan_sound (w := w) (D := D) 20 T ks hks a b r vs ws hr ha hb Op.maxDepth (by decide)
            simp only [mkV, hus] at this
            refine ⟨this, fun op w' => ?_⟩
            unfold eqGuard
            cases op <;> simp [hg]
          · cases hr
        · cases hr
      · cases hr
    split at h
    · obtain ⟨r, hr, rfl⟩ := Option.map_eq_some_iff.1 h
      obtain ⟨k1, k2⟩ := key r hr
      exact ⟨_, slot_mk_bool _, fun w' _ => by simp [k2, binOp, k1]⟩
    · obtain ⟨r, hr, rfl⟩ := Option.map_eq_some_iff.1 h
      obtain ⟨k1, k2⟩ := key r hr
      exact ⟨_, slot_mk_bool _, fun w' _ => by simp [k2, binOp, k1]⟩
    · cases h
  · cases h

theorem r_cvt {P : Program} {w0 w : World} {M0 : Nat → Prop} {D : Names} {objs : List (Nat × Obj)} (hm : Mem w0 M0 objs D w) {S T : TypeId} {x y : AV} (h : cvt P S T objs x = some y) {v : Value} (hv : Slot w D x v) :
    Yields1 P w D (convert S T v) y := by
  unfold cvt at h
  split at h
  · rename_i k n
    split at h
    · rename_i hS
      obtain ⟨s, hs⟩ := Option.isSome_iff_exists.1 hS
      obtain ⟨k', hk, rfl⟩ := Option.map_eq_some_iff.1 h
      rw [slot_int hv]
      refine ⟨_, slot_mk_int _ _, fun w' _ => ?_⟩
      simp only [convert, Sem.run_bind, run_underlying hs, run_underlying (intTy_spec hk), Result.andThen_ok]
      cases s <;> simp [Conv.intToInt]
    · cases h
  · rename_i s
    split at h
    · rename_i hc
      simp only [Bool.and_eq_true] at hc
      obtain ⟨d, hd⟩ := Option.isSome_iff_exists.1 hc.1
      simp only [Option.some.injEq] at h; subst h
      obtain ⟨rfl, hl⟩ := slot_str hv
      refine ⟨_, slot_mk_str _ hl, fun w' _ => ?_⟩
      simp only [convert, Sem.run_bind, run_underlying hd, run_underlying (strTy_spec hc.2), Result.andThen_ok]
      cases d <;> simp
    · cases h
  · split at h
    · rename_i hc
      simp only [Bool.and_eq_true] at hc
      obtain ⟨bs, hb, rfl⟩ := Option.map_eq_some_iff.1 h
      obtain ⟨l, hl, hd⟩ := Option.bind_eq_some_iff.1 hb
      exact r_bytes hc.1 hc.2 hd (viewSl_sound hm hl hv)
    · cases h

theorem r_len {P : Program} {w : World} {D : Names} {T ty : TypeId} {x y : AV} (h : lenOf P T x = some y) {v : Value} (hv : Slot w D x v) : Yields1 P w D (Builtin.len_ #[T] ty #[v]) y := by
  unfold lenOf at h
  split at h
  · rename_i s
    split at h
    · rename_i hT
      simp only [Option.some.injEq] at h; subst h
      obtain ⟨rfl, _⟩ := slot_str hv
      have hz : (⟨s.toArray⟩ : ByteArray).size = s.length := by simp [ByteArray.size]
      exact ⟨_, slot_mk_int _ _, fun w' _ => by simp [Builtin.len_, run_underlying (strTy_spec hT), goInt, hz]⟩
    · cases h
  · split at h
    · rename_i hT
      obtain ⟨sz, hs⟩ := Option.isSome_iff_exists.1 hT
      obtain ⟨e, i, hu, _, _⟩ := sliceElem_spec hs
      simp only [Option.some.injEq] at h; subst h
      refine ⟨_, slot_mk_int _ _, fun w' _ => ?_⟩
      simp only [Slot, Val, Cell] at hv
      cases hv <;> simp [Builtin.len_, run_underlying hu, goInt]
    · cases h
  · split at h
    · rename_i hT
      obtain ⟨sz, hs⟩ := Option.isSome_iff_exists.1 hT
      obtain ⟨e, i, hu, _, _⟩ := sliceElem_spec hs
      simp only [Option.some.injEq] at h; subst h
      refine ⟨_, slot_mk_int _ _, fun w' _ => ?_⟩
      simp only [Slot, Val, Cell] at hv
      rcases hv with ⟨_, rfl, a, rfl⟩ | ⟨b, cap, N, g1, rfl, _⟩ <;> simp [Builtin.len_, run_underlying hu, goInt]
    · cases h
  · split at h
    · rename_i hT
      obtain ⟨sz, hs⟩ := Option.isSome_iff_exists.1 hT
      obtain ⟨e, i, hu, _, _⟩ := sliceElem_spec hs
      simp only [Option.some.injEq] at h; subst h
      rw [slot_nsl hv]
      exact ⟨_, slot_mk_int _ _, fun w' _ => by simp [Builtin.len_, run_underlying hu, goInt]⟩
    · cases h
  · cases h

theorem plainN_one {w : World} {D : Names} {x : AV} {v : Value} (h : Cell w D x v) (hp : plainN x = true) : v.oneCell' = true := by
  cases x with
  | msl n sz off len => rcases h with ⟨_, _, a, rfl⟩ | ⟨b, cap, N, _, rfl, _⟩ <;> rfl
  | ref n sz i off => obtain ⟨b, _, rfl⟩ := h; rfl
  | any => simp [plainN] at hp
  | und => simp [plainN] at hp
  | agg => simp [plainN] at hp
  | tup => simp [plainN] at hp
  | _ => simp only [Cell] at h; cases h <;> rfl

theorem cells_one {v : Value} (h : v.oneCell' = true) : v.cells = #[v] := by
  cases v <;> first | rfl | (simp [Value.oneCell'] at h)

def CellsOne (w : World) (D : Names) (cs : List AV) (vs : List Value) : Prop := vs.length = cs.length ∧ ∀ (i : Nat) (x : AV), cs[i]? = some x → Cell w D x (vs.getD i undef) ∧ (vs.getD i undef).oneCell' = true

theorem cellsOf_sound {w : World} {D : Names} {x : AV} {v : Value} {cs : List AV} (h : Slot w D x v) (hc : cellsOf x = some cs) : ∃ vs : List Value, v.cells = vs.toArray ∧ CellsOne w D cs vs := by
  have key : plainN x = true → cs = [x] → ∃ vs : List Value, v.cells = vs.toArray ∧ CellsOne w D cs vs := by
    intro hp he
    subst he
    have hcell : Cell w D x v := by
      cases x <;> first | (simp only [Slot, Val] at h; exact h) | (simp [plainN] at hp)
    have h1 := plainN_one hcell hp
    refine ⟨[v], cells_one h1, rfl, fun i y hy => ?_⟩
    cases i with
    | zero => simp at hy; subst hy; exact ⟨hcell, h1⟩
    | succ i => simp at hy
  cases x with
  | agg l =>
    simp only [cellsOf, Option.some.injEq] at hc; subst hc
    obtain ⟨vs, rfl, h1, h2⟩ := slot_agg h
    exact ⟨vs, rfl, h1, h2⟩
  | _ =>
    simp only [cellsOf] at hc
    split at hc
    · rename_i hp
      simp only [Option.some.injEq] at hc
      exact key hp hc.symm
    · cases hc

theorem foldl_set (off : Nat) : ∀ (c : List Value) (k : Nat) (cells : Array Value), off + k + c.length ≤ cells.size →
    ((c.zipIdx k).foldl (fun (cs : Array Value) (x : Value × Nat) => cs.setIfInBounds (off + x.2) x.1) cells).toList = cells.toList.take (off + k) ++ (c ++ cells.toList.drop (off + k + c.length))
  | [], k, cells, _ => by simp
  | x :: c, k, cells, h => by
    simp only [List.zipIdx_cons, List.foldl_cons]
    rw [foldl_set off c (k + 1) _ (by simp at h ⊢; omega)]
    simp only [List.length_cons] at h
    have hlt : off + k < cells.toList.length := by simp; omega
    simp only [Array.toList_setIfInBounds]
    have e1 : (cells.toList.set (off + k) x).take (off + (k + 1)) = cells.toList.take (off + k) ++ [x] := by
      rw [← Nat.add_assoc, List.take_succ_eq_append_getElem (by simpa using hlt), List.take_set_of_le (Nat.le_refl _)]
      simp
    have e2 : (cells.toList.set (off + k) x).drop (off + (k + 1) + c.length) = cells.toList.drop (off + k + (x :: c).length) := by
      rw [List.drop_set_of_lt (by omega)]
      simp only [List.length_cons]
      congr 1
      omega
    rw [e1, e2]
    simp [List.append_assoc]

theorem CellsOne.append {w : World} {D : Names} {a b : List AV} {vs us : List Value} (h : CellsOne w D a vs) (k : CellsOne w D b us) : CellsOne w D (a ++ b) (vs ++ us) := by
  refine ⟨by simp [h.1, k.1], fun i x hx => ?_⟩
  rw [List.getElem?_append] at hx
  split at hx
  · rename_i hi
    have := h.2 i x hx
    simpa [List.getD, List.getElem?_append, h.1, hi] using this
  · rename_i hi
    have := k.2 _ x hx
    simpa [List.getD, List.getElem?_append, h.1, hi] using this
theorem CellsOne.take {w : World} {D : Names} {a : List AV} {vs : List Value} (h : CellsOne w D a vs) (n : Nat) : CellsOne w D (a.take n) (vs.take n) := by
  refine ⟨by simp [h.1], fun i x hx => ?_⟩
  rw [List.getElem?_take] at hx
  split at hx
  · rename_i hi
    have := h.2 i x hx
    simpa [List.getD, List.getElem?_take, hi] using this
  · cases hx
theorem CellsOne.drop {w : World} {D : Names} {a : List AV} {vs : List Value} (h : CellsOne w D a vs) (n : Nat) : CellsOne w D (a.drop n) (vs.drop n) := by
  refine ⟨by simp [h.1], fun i x hx => ?_⟩
  rw [List.getElem?_drop] at hx
  have := h.2 _ x hx
  simpa [List.getD, List.getElem?_drop] using this

theorem fillA_sound {w : World} {D : Names} {env : List AV} {a : Act} (he : EnvRep w D env a.tmps) (pl : List (Nat × Nat)) (place : Nat → Option (Nat × Nat)) (hpl : ∀ i, place i = pl[i]?) :
    ∀ (parts : List (Nat × Operand)) (cells : List AV) (vs : List Value) (r : List AV), CellsOne w D cells vs → fillA pl cells (parts.map fun p => (p.1, ev env p.2)) = some r →
      ∃ us, Instr.fill place vs.toArray (parts.map fun p => (p.1, a.eval p.2)) = some us.toArray ∧ CellsOne w D r us
  | [], cells, vs, r, hc, h => by simp [fillA] at h; subst h; exact ⟨vs, rfl, hc⟩
  | (i, x) :: rest, cells, vs, r, hc, h => by
    simp only [List.map_cons, fillA] at h
    split at h
    · rename_i off n cs hp hcs
      split at h
      · rename_i hle
        obtain ⟨us, hus, hone⟩ := cellsOf_sound (ev_sound he x) hcs
        have hlen : us.length = n := by rw [hone.1]; exact hle.1
        have hv : vs.length = cells.length := hc.1
        have hnew : CellsOne w D (cells.take off ++ (cs ++ cells.drop (off + n))) (vs.take off ++ (us ++ vs.drop (off + n))) := (hc.take off).append (hone.append (hc.drop (off + n)))
        obtain ⟨ws, h1, h2⟩ := fillA_sound he pl place hpl rest _ _ r hnew h
        refine ⟨ws, ?_, h2⟩
        rw [← h1]
        simp only [List.map_cons, Instr.fill, hpl, hp, hus]
        rw [if_neg (by simp [hlen]; omega)]
        congr 1
        apply Array.ext'
        have := foldl_set off us 0 vs.toArray (by simp; omega)
        simp only [Nat.add_zero] at this
        rw [← hlen]
        rw [← Array.foldl_toList]
        simpa using this
      · cases h
    · cases h

theorem cellsOne_zero {P : Program} (w : World) (D : Names) {T : TypeId} {z : List AV} (h : zeroCells P T = some z) : ∃ i zv, P.info? T = some i ∧ i.zero = some zv ∧ CellsOne w D z zv.cells.toList ∧
    ∀ (j : Nat) (x : AV), z[j]? = some x → Imm w D.M x (zv.cells.toList.getD j undef) := by
  unfold zeroCells zeroVals at h
  obtain ⟨l, hl, h⟩ := Option.bind_eq_some_iff.1 h
  obtain ⟨zv, hzv, rfl⟩ := Option.map_eq_some_iff.1 hl
  obtain ⟨i, hi, hz⟩ := Option.bind_eq_some_iff.1 hzv
  split at h
  · rename_i hall
    simp only [Option.some.injEq] at h; subst h
    have key : ∀ (j : Nat) (x : AV), (zv.cells.toList.map ofC)[j]? = some x → x = ofC (zv.cells.toList.getD j undef) ∧ (zv.cells.toList.getD j undef).oneCell' = true := by
      intro j x hx
      rw [List.getElem?_map] at hx
      obtain ⟨c, hc, rfl⟩ := Option.map_eq_some_iff.1 hx
      simp only [List.getD, hc, Option.getD_some]
      exact ⟨trivial, List.all_eq_true.1 hall c (List.mem_of_getElem? hc)⟩
    refine ⟨i, zv, hi, hz, ⟨by simp, fun j x hx => ?_⟩, fun j x hx => ?_⟩
    · obtain ⟨rfl, h1⟩ := key j x hx
      exact ⟨cell_ofC _ _ _, h1⟩
    · obtain ⟨rfl, h1⟩ := key j x hx
      exact imm_ofC _ _ _
  · cases h

theorem mapM_places {P : Program} {w : World} : ∀ (fs : List Field) (pl : List (Nat × Nat)), (fs.mapM fun f => (P.info? f.type).map fun i => (f.offset, i.size)) = some pl →
    (fs.mapM fun f => (do pure (f.offset, ← sizeOf f.type) : Sem (Nat × Nat))).run P w = .ok pl w
  | [], pl, h => by simp at h; subst h; simp
  | f :: fs, pl, h => by
    simp only [List.mapM_cons, Option.bind_eq_bind, Option.pure_def] at h ⊢
    obtain ⟨b, hb, h⟩ := Option.bind_eq_some_iff.1 h
    obtain ⟨pl', h', h⟩ := Option.bind_eq_some_iff.1 h
    simp only [Option.some.injEq] at h
    subst h
    cases hi : P.info? f.type with
    | none => simp [hi] at hb
    | some i =>
      simp only [hi, Option.map_some, Option.some.injEq] at hb
      subst hb
      have ih := mapM_places (P := P) (w := w) fs pl' h'
      simp only [Sem.run_bind, sizeOf, typeInfo, run_program, Result.andThen_ok, hi, Sem.run_pure]
      simp only [sizeOf, typeInfo] at ih
      rw [ih]
      rfl

theorem r_build {P : Program} {w : World} {D : Names} {env : List AV} {a : Act} (he : EnvRep w D env a.tmps) {T : TypeId} {parts : Array (Nat × Operand)} {x : AV}
    (h : bld P T (parts.toList.map fun p => (p.1, ev env p.2)) = some x) : Yields1 P w D (Instr.build T (parts.map fun (i, x) => (i, a.eval x))) x := by
  unfold bld at h
  split at h
  · rename_i pl z hpl hz
    obtain ⟨r, hr, rfl⟩ := Option.map_eq_some_iff.1 h
    obtain ⟨i, zv, hi, hzv, hone, _⟩ := cellsOne_zero w D hz
    unfold places at hpl
    split at hpl
    · rename_i fs hu
      obtain ⟨us, h1, h2⟩ := fillA_sound he pl (pl.toArray[·]?) (fun i => by simp) parts.toList z _ r hone hr
      refine ⟨.agg us.toArray, ⟨us, rfl, h2.1, h2.2⟩, fun w' _ => ?_⟩
      have hm := mapM_places (P := P) (w := w') fs.toList pl hpl
      have hma : (fs.mapM fun f => (do pure (f.offset, ← sizeOf f.type) : Sem (Nat × Nat))).run P w' = .ok pl.toArray w' := by
        rw [Array.mapM_eq_mapM_toList, Sem.run_map, hm]; rfl
      have e3 : (parts.map fun (i, x) => (i, a.eval x)).toList = parts.toList.map fun p => (p.1, a.eval p.2) := by simp
      simp only [Instr.build, Sem.run_bind, zeroValue, typeInfo, run_program, Result.andThen_ok, hi, Sem.run_pure, hzv, run_underlying hu, hma, e3]
      rw [show zv.cells = zv.cells.toList.toArray by simp, h1]
      simp
    · cases hpl
  · cases h

/-- An operation that is read: it yields one value, in every world that extends the present one. -/
theorem rOp_sound {P : Program} {w0 w : World} {M0 : Nat → Prop} {D : Names} {objs : List (Nat × Obj)} (hm : Mem w0 M0 objs D w) {env : List AV} {a : Act} (he : EnvRep w D env a.tmps)
    {o : Oper} {x : AV} (h : rOp P env objs o.op = some x) :
    ∃ v, Slot w D x v ∧ ∀ w', Below w.heap.size w w' → (execOp a.eval o).run P w' = .ok (.value v) w' := by
  have lift : ∀ {s : Sem Value}, Yields1 P w D s x → (execOp a.eval o = (do pure (.value (← s)) : Sem Next)) → ∃ v, Slot w D x v ∧ ∀ w', Below w.heap.size w w' → (execOp a.eval o).run P w' = .ok (.value v) w' := by
    rintro s ⟨v, h1, h2⟩ heq
    refine ⟨v, h1, fun w' hw' => ?_⟩
    rw [heq]
    simp [h2 w' hw']
  unfold rOp at h
  split at h
  · rename_i X hop
    simp only [Option.some.injEq] at h; subst h
    exact ⟨_, ev_sound he X, fun w' _ => by simp [execOp, hop]⟩
  · rename_i X hop
    simp only [Option.some.injEq] at h; subst h
    exact ⟨_, ev_sound he X, fun w' _ => by simp [execOp, hop]⟩
  · rename_i c A B hop
    split at h
    · rename_i t ht
      simp only [Option.some.injEq] at h; subst h
      have hc := ev_sound he c
      rw [ht] at hc
      have hb := slot_bool hc
      refine ⟨if t then a.eval A else a.eval B, ?_, fun w' _ => ?_⟩
      · cases t
        · exact ev_sound he B
        · exact ev_sound he A
      · simp [execOp, hop, hb, asBool]
    · cases h
  · rename_i T X k hop
    have hX := ev_sound he X
    split at h
    · rename_i cs o' g n hx hf
      rw [hx] at hX
      simp only [Option.some.injEq] at h; subst h
      exact lift ((r_fieldAddr hf).1 _ hX) (by simp [execOp, hop])
    · rename_i m sz i off o' g n hx hf
      rw [hx] at hX
      simp only [Option.some.injEq] at h; subst h
      exact lift ((r_fieldAddr hf).2 _ _ _ _ hX) (by simp [execOp, hop])
    · cases h
  · rename_i T X k hop
    have hX := ev_sound he X
    split at h
    · rename_i cs o' n hx hf
      rw [hx] at hX
      split at h
      · rename_i hle
        simp only [Option.some.injEq] at h; subst h
        exact lift ((r_field hf hX).1 rfl hle) (by simp [execOp, hop])
      · cases h
    · rename_i cs o' n hx hf
      rw [hx] at hX
      exact lift ((r_field hf hX).2 rfl _ h) (by simp [execOp, hop])
    · cases h
  · rename_i T X I hop
    have hX := ev_sound he X
    have hI := ev_sound he I
    split at h
    · rename_i k n hi
      rw [hi] at hI
      have hI := slot_int hI
      split at h
      · rename_i sz l hx
        rw [hx] at hX
        split at h
        · rename_i hc
          simp only [Option.some.injEq] at h; subst h
          exact lift (r_indexAddr_sl hc.2.2 hX k hc.1 hc.2.1) (by simp [execOp, hop, hI])
        · cases h
      · rename_i m sz off len hx
        rw [hx] at hX
        split at h
        · rename_i hc
          simp only [Option.some.injEq] at h; subst h
          exact lift (r_indexAddr_msl hc.2.2 hX k hc.1 hc.2.1) (by simp [execOp, hop, hI])
        · cases h
      · rename_i m sz hx
        rw [hx] at hX
        split at h
        · rename_i len sz' hA
          split at h
          · rename_i hc
            obtain ⟨rfl, h0, h1⟩ := hc
            simp only [Option.some.injEq] at h; subst h
            exact lift (r_indexAddr_ref hA hX k h0 h1) (by simp [execOp, hop, hI])
          · cases h
        · cases h
      · cases h
    · cases h
  · rename_i T X I hop
    have hX := ev_sound he X
    have hI := ev_sound he I
    split at h
    · rename_i k n hi
      rw [hi] at hI
      have hI := slot_int hI
      split at h
      · rename_i s hx
        rw [hx] at hX
        split at h
        · rename_i hc
          simp only [Option.some.injEq] at h; subst h
          exact lift (r_index_str hc.1 hX k hc.2.1 hc.2.2) (by simp [execOp, hop, hI])
        · cases h
      · cases h
    · cases h
  · rename_i T X hop
    have hX := ev_sound he X
    split at h
    · rename_i cs g n hx ht
      rw [hx] at hX
      exact lift ((r_load hm ht).1 _ hX h) (by simp [execOp, hop])
    · rename_i m sz i off g n hx ht
      rw [hx] at hX
      exact lift ((r_load hm ht).2 _ _ _ _ hX h) (by simp [execOp, hop])
    · cases h
  · rename_i X hop
    have hX := ev_sound he X
    split at h
    · rename_i cs hx
      rw [hx] at hX
      simp only [Option.some.injEq] at h; subst h
      refine ⟨_, hX, fun w' _ => ?_⟩
      simp only [Slot, Val, Cell] at hX
      obtain ⟨b, o', hv, _⟩ := row_at hX
      simp [execOp, hop, hv]
    · rename_i m sz i off hx
      rw [hx] at hX
      simp only [Option.some.injEq] at h; subst h
      refine ⟨_, hX, fun w' _ => ?_⟩
      simp only [Slot, Val, Cell] at hX
      obtain ⟨b, _, hv⟩ := hX
      simp [execOp, hop, hv]
    · cases h
  · rename_i op T X Y yT hop
    exact lift (r_bop h (ev_sound he X) (ev_sound he Y) X Y) (by simp [execOp, hop])
  · rename_i op T X hop
    exact lift (r_uop h (ev_sound he X)) (by simp [execOp, hop])
  · rename_i S T X hop
    exact lift (r_cvt hm h (ev_sound he X)) (by simp [execOp, hop])
  · rename_i T X lo hi hop
    exact lift (r_slc hm he h (ev_sound he X)) (by simp [execOp, hop])
  · rename_i t i hop
    have hX := ev_sound he t
    split at h
    · rename_i l hx
      rw [hx] at hX
      simp only [Slot] at hX
      obtain ⟨vs, hv, hl, hc⟩ := hX
      have hval := hc i x h
      have hlt : i < vs.length := by rw [hl]; exact (List.getElem?_eq_some_iff.1 h).1
      refine lift (s := Instr.extract (a.eval t) i) ⟨vs.getD i undef, ?_, fun w' _ => ?_⟩ (by simp [execOp, hop])
      · cases x with
        | tup => simp only [Val, Cell] at hval; cases hval
        | _ => simp only [Slot]; exact hval
      · rw [hv]; simp [Instr.extract, List.getElem?_eq_getElem hlt, List.getD]
    · cases h
  · rename_i T parts hop
    exact lift (r_build he h) (by simp [execOp, hop])
  · rename_i args argTypes hop
    split at h
    · rename_i X T hA hT
      have e1 : args = #[X] := by apply Array.ext'; simpa using hA
      have e2 : argTypes = #[T] := by apply Array.ext'; simpa using hT
      subst e1; subst e2
      exact lift (s := Builtin.len_ #[T] o.type #[a.eval X]) (r_len h (ev_sound he X)) (by simp [execOp, hop, resolve, invoke, builtin])
    · cases h
  · cases h

end Go.Abs
