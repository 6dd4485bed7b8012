/- The rule for regions that draw their order and hold one alloc ahead of a forced tail. -/
import Derived.Test.YtplngcjkghnkcaaAbsX
namespace Go.Abs
open Go.RowKit

theorem below_trans {a b c : World} (h : Below a.heap.size a b) (k : Below b.heap.size b c) : Below a.heap.size a c := h.trans (k.mono h.size)

theorem envRep_below {w w' : World} {D : Names} {env : List AV} {tmps : Array Value} (h : EnvRep w D env tmps) (k : Below w.heap.size w w') (hlt : ∀ b, D.M b → b < w.heap.size) : EnvRep w' D env tmps :=
  h.mono ((grow_of_below k).weaken (fun _ _ h => h.elim)) (fun _ _ h => h) hlt (fun _ _ h => h)

theorem qOp1_yd {P : Program} {Φ : Table} (hΦ : Sound P Φ) {ops : Array Oper} {o : Oper} {s s' : St} (h : qOp1 P Φ ops o s = some s') {w0 B : World} {M0 : Nat → Prop} {D : Names} {a : Act} (hm : Mem w0 M0 s.objs D B) (he : EnvRep B D s.env a.tmps)
    {k i : Nat} (hik : i ≠ k) : s'.objs = s.objs ∧ ∃ v, Yd P ops B k i o v a ∧ EnvRep B D s'.env (a.put o.dst v).tmps := by
  unfold qOp1 at h
  split at h
  · cases h
  · rename_i hg
    simp only [Option.some.injEq] at h; subst h
    exact ⟨rfl, undef, .inr ⟨hik, .inr ⟨guardOf_sound he hg, rfl⟩⟩, he.put _ (by simp only [Slot, Val, Cell]; exact .und)⟩
  · rename_i hg
    have hwn := guardOf_sound he hg
    split at h
    · rename_i f args tys hop
      obtain ⟨r, hr, rfl⟩ := Option.map_eq_some_iff.1 h
      obtain ⟨h1, h2, hf, h3, _⟩ := cLend_quiet hΦ hm he hr
      refine ⟨h2, toVS r.x, .inr ⟨hik, .inl ⟨hwn, fun w1 hw1 w' hw' => ?_⟩⟩, ?_⟩
      · unfold Oper.quietAt
        rw [run_call hop hf w']
        refine ⟨rfl, ?_⟩
        have : (args.map a.eval) = (args.toList.map a.eval).toArray := Array.ext' (by simp)
        rw [this]
        obtain ⟨_, _, _, _, g⟩ := cLend_quiet hΦ (hm.ext (grow_of_below hw1) hw1.os hw1.tape hw1.output) (envRep_below he hw1 hm.lt) hr
        exact g w' hw'
      · simp only [h1]; exact he.put _ h3
    · obtain ⟨x, hx, rfl⟩ := Option.map_eq_some_iff.1 h
      obtain ⟨v, h1, h2⟩ := rOp_sound hm he hx
      refine ⟨rfl, v, .inr ⟨hik, .inl ⟨hwn, fun w1 hw1 w' hw' => ?_⟩⟩, he.put _ h1⟩
      unfold Oper.quietAt
      rw [h2 w' (below_trans hw1 hw')]
      exact ⟨rfl, rfl⟩

theorem wpK_of_qOps {P : Program} {Φ : Table} (hΦ : Sound P Φ) {ops : Array Oper} {w0 B : World} {M0 : Nat → Prop} {D : Names} {k : Nat} {Q : Act → Prop} {rest : List Oper} : ∀ (l : List Oper) (i : Nat) {s s' : St} {a : Act},
    qOps P Φ ops l s = some s' → i + l.length = k → Mem w0 M0 s.objs D B → EnvRep B D s.env a.tmps → (∀ a', a'.defers = a.defers → s'.objs = s.objs → EnvRep B D s'.env a'.tmps → wpK P ops B k Q rest k a') → wpK P ops B k Q (l ++ rest) i a
  | [], i, s, s', a, h, hi, hm, he, hq => by
    simp only [qOps, Option.some.injEq] at h; subst h
    simp only [List.length_nil, Nat.add_zero] at hi; subst hi
    exact hq a rfl rfl he
  | o :: l, i, s, s', a, h, hi, hm, he, hq => by
    simp only [qOps] at h
    split at h
    · rename_i s1 h1
      simp only [List.length_cons] at hi
      obtain ⟨e, v, hy, he'⟩ := qOp1_yd hΦ h1 hm he (k := k) (i := i) (by omega)
      exact ⟨v, hy, wpK_of_qOps hΦ l (i + 1) h (by omega) (by rw [e]; exact hm) he' (fun a' hd ho he'' => hq a' (hd.trans (put_defers _ _ _)) (ho.trans e) he'')⟩
    · cases h

/-- No other operation of the head looks at slot d or writes it. -/
def aloneB (ops : Array Oper) (n k : Nat) (d : Tmp) : Bool := (List.range n).all fun i => i == k || (match ops[i]? with | some o => !(o.looksAt ops).contains d && o.dst != some d | none => true)

theorem awp_region_da {P : Program} {pins : List Nat} {Q : Exit → St → Prop} {s s1 s2 : St} {Φ : Table} (hΦ : Sound P Φ) (hm : P.follows .mixedOrders = true) {id : Nat} {hd tl : List Oper} {d : Tmp} {T : TypeId} {ty : TypeId} {pos : String} {aft : Array Edge}
    (hB : Region.lexTailB .any (hd ++ ⟨some d, .alloc T, ty, pos, aft, none⟩ :: tl).toArray (hd.length + 1) = true) (hA : aloneB (hd ++ ⟨some d, .alloc T, ty, pos, aft, none⟩ :: tl).toArray (hd.length + 1) hd.length d = true) (hz : (zeroCells P T).isSome = true)
    (hx : qOps P Φ (hd ++ ⟨some d, .alloc T, ty, pos, aft, none⟩ :: tl).toArray hd s = some s1) (hx2 : xOps P Φ (hd ++ ⟨some d, .alloc T, ty, pos, aft, none⟩ :: tl).toArray (⟨some d, .alloc T, ty, pos, aft, none⟩ :: tl) ⟨putA s1.env (some d) .und, s1.objs⟩ = some s2) (h : Q .normal s2) :
    AWP P pins (.region id (hd ++ ⟨some d, .alloc T, ty, pos, aft, none⟩ :: tl).toArray true) Q s := by
  intro w0 M0 D0 a w _ hs
  obtain ⟨hdf, D, hmem, he, hpin⟩ := hs
  generalize hok : (⟨some d, .alloc T, ty, pos, aft, none⟩ : Oper) = ok at *
  generalize hl : hd ++ ok :: tl = l at *
  have hokl : l.toArray[hd.length]? = some ok := by rw [← hl]; simp
  obtain ⟨z, hz⟩ := Option.isSome_iff_exists.1 hz
  obtain ⟨i, zv, hi, hzv, _, _⟩ := cellsOne_zero w D hz
  have hrun : ∀ (ρ : Operand → Value) (w : World), (execOp ρ ok).run P w = .ok (.value (.pointer (some ⟨w.heap.size, 0, none⟩))) (w.alloc (.cells zv.cells.toList.toArray T)) := by
    intro ρ w
    rw [← hok]
    simp [execOp, Instr.alloc, zeroValue, typeInfo, hi, hzv, newVar, newRow]
  simp only [Region.lexTailB, Bool.and_eq_true, decide_eq_true_eq] at hB
  obtain ⟨⟨⟨⟨hsel, hn⟩, hsk⟩, hc⟩, hlex⟩ := hB
  have hsz : l.toArray.size = hd.length + 1 + tl.length := by rw [← hl]; simp; omega
  have inv0 : HeadInv .any l.toArray (hd.length + 1) (Array.replicate l.toArray.size false) :=
    ⟨by simp, fun j oj _ hl => (by rw [getD_replicate_false] at hl; cases hl), fun t _ ht => getD_in (by simpa using ht) (getD_replicate_false _ _)⟩
  have hw1 : Below w.heap.size w { w with drawn := w.drawn + 1 } := ⟨rfl, rfl, rfl, Nat.le_refl _, fun _ _ => rfl⟩
  let Lq : Act → Prop := fun a' => a'.defers = a.defers ∧ s1.objs = s.objs ∧ EnvRep w D (putA s1.env (some d) .und) a'.tmps
  have hwk : wpK P l.toArray w hd.length Lq (hd ++ [ok]) 0 a := wpK_of_qOps hΦ hd 0 hx (by simp) hmem he (fun a' hd' ho he' => by
    refine ⟨undef, .inl ⟨rfl, rfl⟩, (put_defers _ _ _).trans hd', ho, ?_⟩
    rw [← hok]
    exact he'.put (some d) (by simp only [Slot, Val, Cell]; exact .und))
  have H := headK_lex (P := P) (md := .any) (g := tl.length) hsel hsk hc hn (hd ++ [ok]) 0 _ a (fun j hj => by
    have hj' : j < hd.length + 1 := by simpa using hj
    rw [← hl]
    simp only [Nat.zero_add, List.getElem?_toArray]
    rw [List.getElem?_append, List.getElem?_append]
    split
    · rfl
    · rename_i hge
      have : j - hd.length = 0 := by omega
      rw [this]; rfl) (by simp) inv0 (by rw [show l.toArray.size - (hd.length + 1) = tl.length by omega] at hlex; simpa using hlex) hwk
  refine wp_region_any hm ?_
  have fin := sim_head (P := P) (ops := l.toArray) (md := .any) (B := w) (k := hd.length) (n := hd.length + 1) (g := tl.length) (Q' := fun e a' w' => ∃ s', Q e s' ∧ Sat w0 M0 D0 s' a' w') (ok := ok) (d := d) hokl (by rw [← hok]) (by rw [← hok]) hrun (Region.noSelect_spec hsel)
    (fun i o hin hik hio => by
      have := List.all_eq_true.1 hA i (List.mem_range.2 hin)
      simp only [hio, Bool.or_eq_true, beq_iff_eq, Bool.and_eq_true, Bool.not_eq_true'] at this
      rcases this with h | h
      · exact absurd h hik
      · exact ⟨by simpa using h.1, by simpa using h.2⟩)
    (fun listed a' a2 w2 hL inv hcome => by
      obtain ⟨hseq, hdef, hobj, he1⟩ := hL
      by_cases hkl : listed.getD hd.length false = true
      · rw [if_pos hkl] at hcome
        obtain ⟨w1, hb1, hb2, rfl⟩ := hcome
        simp only [xOps] at hx2
        split at hx2
        · rename_i s2' hs2'
          have hmem1 : Mem w0 M0 s1.objs D w1 := by rw [hobj]; exact hmem.ext (grow_of_below hb1) hb1.os hb1.tape hb1.output
          have hsat1 : Sat w0 M0 D0 ⟨putA s1.env (some d) .und, s1.objs⟩ a' w1 := ⟨hdef.trans hdf, D, hmem1, envRep_below he1 hb1 hmem.lt, by simp only [hobj]; exact hpin⟩
          have hx := xOp_sound hΦ hs2' hsat1 (rest := []) (Q := fun e a'' w'' => e = .normal ∧ Sat w0 M0 D0 s2' a'' w'') (fun a'' w'' h => ⟨rfl, h⟩)
          have hsat2 : Sat w0 M0 D0 s2' (a'.put (some d) (.pointer (some ⟨w1.heap.size, 0, none⟩))) (w1.alloc (.cells zv.cells.toList.toArray T)) := by
            have hgw : Region.wanted ok (yielded l.toArray a'.tmps) = true := by rw [← hok]; simp [Region.wanted]
            simp only [wpList, hgw, if_true] at hx
            unfold Oper.wp at hx
            rw [hrun] at hx
            rw [← hok] at hx
            rcases hx with hx | ⟨_, hx⟩
            · simpa [Oper.upon] using hx
            · simp [LetsOut] at hx
          have hsat3 : Sat w0 M0 D0 s2' (a'.put (some d) (.pointer (some ⟨w1.heap.size, 0, none⟩))) w2 := by
            obtain ⟨q1, D2, q2, q3, q4⟩ := hsat2
            exact ⟨q1, D2, q2.ext (grow_of_below hb2) hb2.os hb2.tape hb2.output, envRep_below q3 hb2 q2.lt, q4⟩
          refine wpAny_of_seq tl (hd.length + 1) listed _ w2 (fun j => ?_) hseq (xOps_sound hΦ tl hx2 hsat3 fun a'' w'' hs'' => ⟨s2, h, hs''⟩)
          rw [← hl]
          simp only [List.getElem?_toArray]
          rw [List.getElem?_append_right (by omega), show hd.length + 1 + j - hd.length = j + 1 by omega]
          rfl
        · cases hx2
      · exfalso
        have hkf : listed.getD hd.length false = false := by simpa using hkl
        have hlt : hd.length < listed.size := by rw [inv.size, hsz]; omega
        have hnr := tail_waits hsk hc hn inv _ hd.length rfl (Nat.lt_succ_self _) (getD_in hlt hkf) (hd.length + 1) (Nat.le_refl _)
        have hpos : tl.length = (tl.length - 1) + 1 := by omega
        rw [hpos] at hseq
        simp only [Region.seqB, Bool.and_eq_true, decide_eq_true_eq] at hseq
        rw [hseq.1] at hnr
        exact hnr (by simp)) _ _ a a { w with drawn := w.drawn + 1 } H inv0 (by rw [if_neg (by rw [getD_replicate_false]; decide)]; exact ⟨rfl, hw1⟩)
  rw [show (hd ++ [ok]).length + tl.length = l.toArray.size by rw [hsz]; simp] at fin
  exact fin
end Go.Abs

namespace Go.Abs
theorem awp_drawa {P : Program} {pins : List Nat} {Q : Exit → St → Prop} {s : St} {Φ : Table} (hΦ : Sound P Φ) (hm : P.follows .mixedOrders = true) {id : Nat} {ops hd tl : List Oper} {d : Tmp} {T : TypeId} {ty : TypeId} {pos : String} {aft : Array Edge} (n : Nat)
    (h0 : (ops.take (ops.length - n), ops.drop (ops.length - n)) = (hd, ⟨some d, .alloc T, ty, pos, aft, none⟩ :: tl))
    (hB : Region.lexTailB .any ops.toArray (hd.length + 1) = true) (hA : aloneB ops.toArray (hd.length + 1) hd.length d = true) (hz : (zeroCells P T).isSome = true)
    (h : ∀ K K1 : St → Prop, (∀ s, Q .normal s → K s) → (∀ s, xGo P Φ ops K (⟨some d, .alloc T, ty, pos, aft, none⟩ :: tl) ⟨pt s.env (some d) .und, s.objs⟩ → K1 s) → qGo P Φ ops K1 hd s) : AWP P pins (.region id ops.toArray true) Q s := by
  obtain ⟨h1, h2⟩ := Prod.mk.inj h0
  have e : ops = hd ++ ⟨some d, .alloc T, ty, pos, aft, none⟩ :: tl := by rw [← h1, ← h2, List.take_append_drop]
  obtain ⟨s1, g1, g2⟩ := qGo_ops _ (h _ _ (fun _ h => h) (fun _ h => h))
  obtain ⟨s2, g3, g4⟩ := xGo_ops _ g2
  clear h h0 h1 h2
  subst e
  exact awp_region_da hΦ hm hB hA hz g1 (by rw [← pt_eq] at g3; exact g3) g4

theorem awp_drawt' {P : Program} {pins : List Nat} {Q : Exit → St → Prop} {s : St} {Φ : Table} (hΦ : Sound P Φ) (hm : P.follows .mixedOrders = true) {id : Nat} {ops hd tl : List Oper} (n : Nat) (h0 : (ops.take (ops.length - n), ops.drop (ops.length - n)) = (hd, tl)) (_ : hd.all quietOp = true) (hB : Region.lexTailB .any ops.toArray (ops.length - n) = true)
    (h : ∀ K K1 : St → Prop, (∀ s, Q .normal s → K s) → (∀ s, xGo P Φ ops K tl s → K1 s) → qGo P Φ ops K1 hd s) : AWP P pins (.region id ops.toArray true) Q s := awp_drawt hΦ hm (ops.length - n) h0 hB h
end Go.Abs

namespace Go.Abs
theorem hStore_arr {P : Program} {env : List AV} {objs : List (Nat × Abs.Obj)} {T n sz i off : Nat} {g : Bool} {x y : Operand} {rows : List (List AV)} {u : AV} (hx : ev env x = .ref n sz i off) (hy : ev env y = u) (hu : cellsOf u = some [u]) (hp : plainC u = true) (ht : cellTy P T = some (g, 1))
    (hn : firstName (cellList u) = none) (hl : Go.Abs.look n objs = some (.arr sz rows)) (hi : i < rows.length) (hr : off + 1 ≤ (rows.getD i []).length) :
    hStore P env objs T x y = some ⟨.und, env, upd n (.arr sz (rows.set i (over (rows.getD i []) off [u]))) objs⟩ := by
  have hs : Go.Abs.settle 8 [y] env objs = some (env, objs) := settle_8 (by simp only [List.flatMap_cons, List.flatMap_nil, List.append_nil, hy]; exact hn)
  simp only [hStore, hx, hl, hs, ht, hy, hu]
  rw [if_pos (by simp only [List.getD, List.getElem?_eq_getElem hi, Option.getD_some] at hr; simp [hi, hp, hr])]
theorem slc_arr {P : Program} {T : TypeId} {objs : List (Nat × Abs.Obj)} {env : List AV} {n sz len : Nat} {rows : List (List AV)} (ha : arrElem P T = some (len, sz)) (hl : Go.Abs.look n objs = some (.arr sz rows)) (hr : rows.length = len) :
    slc P T objs env (.ref n sz 0 0) none none = some (.msl n sz 0 len) := by
  simp [slc, ha, hl, hr, bnd]
theorem decB_map : ∀ (l : List UInt8), decB (l.map fun d => [AV.int .u8 d.toNat]) = some l
  | [] => rfl
  | d :: l => by simp [decB, decB_map l]
theorem cvt_arr {P : Program} {S T : TypeId} {objs : List (Nat × Abs.Obj)} {n len : Nat} {bs : List UInt8} (h1 : byteSl P S = true) (h2 : strTy P T = true) (hl : Go.Abs.look n objs = some (.arr 1 (bs.map fun d => [AV.int .u8 d.toNat]))) (hn : bs.length = len) :
    cvt P S T objs (.msl n 1 0 len) = some (.str bs) := by
  simp [cvt, h1, h2, viewSl, hl, ← hn, decB_map, List.take_of_length_le]
end Go.Abs
