/- Making, consuming and changing objects: the memory part. -/
import Derived.Test.YtplngcjkghnkcaaAbsH
import Derived.Great.FillDense
import Derived.Great.BuildSlice
namespace Go.Abs
open Go.RowKit

/-- Names other than m carry over; what names m is let go. -/
theorem carry_kill' {w w' : World} {D D' : Names} {m : Nat} (k : Grow w w' D.M) (hlt : ∀ b, D.M b → b < w.heap.size) (hn : ∀ n e, n ≠ m → D n = some e → D' n = some e)
    (hM : ∀ b, b < w.heap.size → D'.M b → D.M b) : Carry w w' D D' (kill m) where
  cell := fun x v h => by
    cases x with
    | msl n sz off len =>
      simp only [kill]
      split
      · exact imm_any _ _ _
      · rename_i hne
        rcases h with ⟨h1, h2⟩ | ⟨b, cap, N, h1, h2, h3, h4, h5⟩
        · obtain ⟨e, he⟩ := Option.isSome_iff_exists.1 h1
          exact .inl ⟨by rw [hn n e hne he]; rfl, h2⟩
        · exact .inr ⟨b, cap, N, hn _ _ hne h1, h2, h3, by rw [k.row b (hlt b ⟨n, h1⟩)]; exact h4, h5⟩
    | ref n sz i off =>
      simp only [kill]
      split
      · exact imm_any _ _ _
      · rename_i hne
        obtain ⟨b, h1, h2⟩ := h
        exact ⟨b, hn _ _ hne h1, h2⟩
    | _ =>
      simp only [kill, Cell] at h ⊢
      exact h.mono k.toKeep hM

/-- An object under a new name d, in place of the one named m (if it is there): in a new block, in m's own, or in none. -/
theorem Mem.step {w0 w w' : World} {M0 : Nat → Prop} {D : Names} {objs : List (Nat × Obj)} (hm : Mem w0 M0 objs D w) {m d : Nat} {y : Option Nat} {obj : Obj} (hd : look d (drop m objs) = none) (hK : d < top)
    (c : Carry w w' D ((D.del m).ins d y) (kill m)) (kN : Grow w w' D.N)
    (hmK : ∀ b, D m = some (some b) → m < top) (hy : ∀ b, y = some b → b < w'.heap.size ∧ (w.heap.size ≤ b ∨ D m = some (some b))) (hoth : ∀ b, D.M b → D m ≠ some (some b) → w'.heap[b]? = w.heap[b]?)
    (hrep : ObjRep w' ((D.del m).ins d y) obj y) (hos : w'.os = w.os) (htape : w'.tape = w.tape) (hout : w'.output = w.output) :
    Mem w0 M0 ((d, obj) :: mapO (kill m) (drop m objs)) ((D.del m).ins d y) w' := by
  have k : Grow w w' D.M := kN.weaken (fun _ _ h => Names.N_M h)
  have hM : ∀ b, b < w.heap.size → ((D.del m).ins d y).M b → D.M b := by
    rintro b hb ⟨n, hn⟩
    unfold Names.ins at hn
    split at hn
    · simp only [Option.some.injEq] at hn
      rcases (hy b hn).2 with h | h
      · omega
      · exact ⟨m, h⟩
    · exact Names.del_M ⟨n, hn⟩
  have hdel : (D.del m) d = none := by
    unfold Names.del
    split
    · rfl
    · rename_i hne
      rw [look_drop_ne (Ne.symm hne)] at hd
      exact hm.fresh hd hK
  have sep : ∀ n b, n ≠ d → ((D.del m).ins d y) n = some (some b) → D n = some (some b) ∧ n ≠ m := by
    intro n b hne hn
    simp only [Names.ins, hne, if_false, Names.del] at hn
    split at hn
    · cases hn
    · exact ⟨hn, by assumption⟩
  refine ⟨fun n hn => ?_, fun n hn => ?_, fun n ob e hl hn => ?_, fun n p b h1 h2 => ?_, fun b hb => ?_, fun b hb => ?_, ?_, hos.trans hm.os, htape.trans hm.tape, hout.trans hm.output⟩
  · unfold Names.ins
    by_cases h : n = d
    · subst h; simp [look]
    · simp only [h, if_false, look, if_neg (Ne.symm h), look_mapO, Option.isSome_map]
      by_cases h' : n = m
      · subst h'; simp [Names.del, look_drop]
      · simp only [Names.del, h', if_false, look_drop_ne (Ne.symm h')]; exact hm.dom n hn
  · by_cases h : n = d
    · subst h; exact hK
    · simp only [look, if_neg (Ne.symm h), look_mapO, Option.isSome_map] at hn
      by_cases h' : n = m
      · subst h'; simp [look_drop] at hn
      · rw [look_drop_ne (Ne.symm h')] at hn; exact hm.small n hn
  · by_cases h : n = d
    · subst h
      simp only [look, if_true, Option.some.injEq] at hl
      subst hl
      simp only [Names.ins, if_true, Option.some.injEq] at hn
      subst hn
      exact hrep
    · simp only [look, if_neg (Ne.symm h), look_mapO] at hl
      obtain ⟨o', ho, rfl⟩ := Option.map_eq_some_iff.1 hl
      simp only [Names.ins, h, if_false, Names.del] at hn
      split at hn
      · cases hn
      · rename_i hnm
        rw [look_drop_ne (Ne.symm hnm)] at ho
        refine objRep_map c k.toKeep hM (hm.rep n o' e ho hn) (fun b hb => hoth b ⟨n, by rw [hn, hb]⟩ (fun hc => ?_))
        exact hnm (hm.inj n m b (by rw [hn, hb]) hc)
  · by_cases e1 : n = d
    · by_cases e2 : p = d
      · rw [e1, e2]
      · exfalso
        obtain ⟨g1, g2⟩ := sep p b e2 h2
        simp only [Names.ins, e1, if_true, Option.some.injEq] at h1
        rcases (hy b h1).2 with h | h
        · have := hm.lt b ⟨p, g1⟩; omega
        · exact g2 (hm.inj p m b g1 h)
    · by_cases e2 : p = d
      · exfalso
        obtain ⟨g1, g2⟩ := sep n b e1 h1
        simp only [Names.ins, e2, if_true, Option.some.injEq] at h2
        rcases (hy b h2).2 with h | h
        · have := hm.lt b ⟨n, g1⟩; omega
        · exact g2 (hm.inj n m b g1 h)
      · exact hm.inj n p b (sep n b e1 h1).1 (sep p b e2 h2).1
  · obtain ⟨n, hn⟩ := hb
    by_cases e1 : n = d
    · simp only [Names.ins, e1, if_true, Option.some.injEq] at hn
      exact (hy b hn).1
    · exact Nat.lt_of_lt_of_le (hm.lt b ⟨n, (sep n b e1 hn).1⟩) k.size
  · obtain ⟨n, hnK, hn⟩ := hb
    by_cases e1 : n = d
    · simp only [Names.ins, e1, if_true, Option.some.injEq] at hn
      rcases (hy b hn).2 with h | h
      · right; exact Nat.le_trans hm.grow.size h
      · exact hm.own b ⟨m, hmK b h, h⟩
    · exact hm.own b ⟨n, hnK, (sep n b e1 hn).1⟩
  · exact hm.grow.trans kN (fun x hx hD => by
      rcases hm.own x hD with h | h
      · exact h
      · omega)

/-- An object is changed in its own block. -/
theorem Mem.upd {w0 w w' : World} {M0 : Nat → Prop} {D : Names} {objs : List (Nat × Obj)} (hm : Mem w0 M0 objs D w) {n b : Nat} {obj obj' : Obj} (hl : look n objs = some obj) (hD : D n = some (some b)) (kN : Grow w w' D.N)
    (hoth : ∀ c, c ≠ b → w'.heap[c]? = w.heap[c]?) (hrep : ObjRep w' D obj' (some b)) (hos : w'.os = w.os) (htape : w'.tape = w.tape) (hout : w'.output = w.output) : Mem w0 M0 (upd n obj' objs) D w' := by
  have k : Grow w w' D.M := kN.weaken (fun _ _ h => Names.N_M h)
  refine ⟨fun m hK => ?_, fun m hK => ?_, fun m o d h1 h2 => ?_, hm.inj, fun c hc => Nat.lt_of_lt_of_le (hm.lt c hc) k.size, hm.own, ?_, hos.trans hm.os, htape.trans hm.tape, hout.trans hm.output⟩
  · by_cases h : m = n
    · subst h; rw [look_upd obj' objs (by simp [hl])]; simp [hD]
    · rw [look_upd_ne obj' (Ne.symm h)]; exact hm.dom m hK
  · by_cases h : m = n
    · subst h; exact hm.small m (by simp [hl])
    · rw [look_upd_ne obj' (Ne.symm h)] at hK; exact hm.small m hK
  · by_cases h : m = n
    · subst h
      rw [look_upd obj' objs (by simp [hl])] at h1
      simp only [Option.some.injEq] at h1; subst h1
      rw [hD] at h2; simp only [Option.some.injEq] at h2; subst h2
      exact hrep
    · rw [look_upd_ne obj' (Ne.symm h)] at h1
      exact (hm.rep m o d h1 h2).mono k (fun _ _ h => h) hm.lt (fun _ _ h => h) (fun c hc => hoth c (fun e => h (hm.inj m n b (by rw [h2, hc, e]) hD)))
  · exact hm.grow.trans kN (fun x hx hD => by
      rcases hm.own x hD with h | h
      · exact h
      · omega)

theorem Mem.drew {w0 w : World} {M0 : Nat → Prop} {D : Names} {objs : List (Nat × Obj)} (hm : Mem w0 M0 objs D w) : Mem w0 M0 objs D w.drew := by
  have g : Grow w w.drew D.M := ⟨⟨Nat.le_refl _, fun _ _ _ => rfl⟩, fun _ _ => rfl⟩
  exact ⟨hm.dom, hm.small, fun n o d h1 h2 => (hm.rep n o d h1 h2).mono g (fun _ _ h => h) hm.lt (fun _ _ h => h) (fun _ _ => rfl), hm.inj, hm.lt, hm.own,
    hm.grow.trans (⟨⟨Nat.le_refl _, fun _ _ _ => rfl⟩, fun _ _ => rfl⟩ : Grow w w.drew (fun _ => False)) (fun _ _ h => h.elim), hm.os, hm.tape, hm.output⟩

/-- Setting a row of the same size. -/
theorem grow_setRow {w : World} {b : Nat} {old cs : Array Value} {T : TypeId} {fz : Nat × Nat} (hg : w.heap[b]? = some (.cells old T fz)) (hs : cs.size = old.size) {M : Nat → Prop} (hM : M b) : Grow w (w.setRow b cs) M where
  size := by rw [setRow_size]; exact Nat.le_refl _
  same := fun c _ hc => setRow_other w b c cs (fun e => hc (e ▸ hM))
  row := fun c _ => by
    by_cases h : c = b
    · subst h; simp [World.row, World.shape?, setRow_heap w c old cs T fz hg, hg, hs]
    · simp [World.row, World.shape?, setRow_other w b c cs h]

theorem run_storeCells_un {P : Program} (g : Nat) (t : TypeId) (fz : Nat × Nat) : ∀ (vs : List Value) (o i : Nat) (cur : Array Value) (w : World), w.heap[g]? = some (.cells cur t fz) → unfrozen fz cur.size → o + i + vs.length ≤ cur.size → (∀ v ∈ vs, v.oneCell' = true) →
    (storeCells ⟨g, o, none⟩ vs i).run P w = .ok () (w.setRow g (cur.toList.take (o + i) ++ (vs ++ cur.toList.drop (o + i + vs.length))).toArray)
  | [], o, i, cur, w, hg, _, _, _ => by
    simp only [storeCells, List.nil_append, List.length_nil, Nat.add_zero, List.take_append_drop, Array.toArray_toList]
    rw [setRow_self w g cur t fz hg]
    rfl
  | v :: rest, o, i, cur, w, hg, hu, hl, h1 => by
    have hi : o + i < cur.size := by simp at hl; omega
    have hcell : w.cell? ⟨g, o + i, none⟩ = some cur[o + i] := by simp [World.cell?, hg, hi]
    have hfro : w.frozen? ⟨g, o + i, none⟩ = false := by
      have := hu (o + i) hi
      simp only [World.frozen?, hg]
      simpa using this
    have hst : (store ((⟨g, o, none⟩ : Addr).add i) v).run P w = .ok () (w.setRow g (cur.setIfInBounds (o + i) v)) := by
      rw [addr_add, run_store P w _ v _ (h1 v (by simp)), hcell]
      simp [hfro, setCell_eq_setRow w g (o + i) cur t fz v hg]
    have ih := run_storeCells_un (P := P) g t fz rest o (i + 1) (cur.setIfInBounds (o + i) v) (w.setRow g (cur.setIfInBounds (o + i) v)) (setRow_heap w g cur _ t _ hg) (by simpa using hu) (by simp at hl ⊢; omega) (fun x hx => h1 x (by simp [hx]))
    simp only [storeCells, Sem.run_bind, hst, Result.andThen_ok, ih, setRow_setRow]
    congr 3
    have hlt : o + i < cur.toList.length := by simpa using hi
    simp only [Array.toList_setIfInBounds]
    have e1 : (cur.toList.set (o + i) v).take (o + (i + 1)) = cur.toList.take (o + i) ++ [v] := by
      rw [← Nat.add_assoc, List.take_succ_eq_append_getElem (by simpa using hlt), List.take_set_of_le (Nat.le_refl _)]
      simp
    have e2 : (cur.toList.set (o + i) v).drop (o + (i + 1) + rest.length) = cur.toList.drop (o + i + (v :: rest).length) := by
      rw [List.drop_set_of_lt (by omega)]
      simp only [List.length_cons]
      congr 1
      omega
    rw [e1, e2]
    simp [List.append_assoc]

end Go.Abs
