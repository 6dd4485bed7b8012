/- The walk of a list of operations: soundness. -/
import Derived.Test.YtplngcjkghnkcaaExM
namespace Go.Abs
open Go.RowKit

theorem noT_ok {P : Program} : Sound P noT := noT_sound

theorem xOp_r {P : Program} {Φ : Table} {ops : Array Oper} {o : Oper} {s : St} {x : AV} (hg : guardOf ops s.env o = some true) (hf : isFun o.op = false) (h : rOp P s.env s.objs o.op = some x) :
    xOp P Φ ops o s = some ⟨putA s.env o.dst x, s.objs⟩ := by
  simp only [xOp, hg]
  cases hop : o.op with
  | call c =>
    obtain ⟨callee, args, tys⟩ := c
    rw [hop] at hf h
    cases callee with
    | value x => cases x with
      | func f => simp [isFun] at hf
      | _ => simp only [h]
    | _ => simp only [h]
  | _ => rw [hop] at h; simp only [h]
theorem xOp_h {P : Program} {Φ : Table} {ops : Array Oper} {o : Oper} {s : St} {r : HR} (hg : guardOf ops s.env o = some true) (hf : isFun o.op = false) (h0 : rOp P s.env s.objs o.op = none) (h : hOp P s.env s.objs o.dst o.op = some r) :
    xOp P Φ ops o s = some ⟨putA r.env o.dst r.x, r.objs⟩ := by
  simp only [xOp, hg]
  cases hop : o.op with
  | call c =>
    obtain ⟨callee, args, tys⟩ := c
    rw [hop] at hf h0 h
    cases callee with
    | value x => cases x with
      | func f => simp [isFun] at hf
      | _ => simp only [h0, h, Option.map_some]
    | _ => simp only [h0, h, Option.map_some]
  | _ => rw [hop] at h0 h; simp only [h0, h, Option.map_some]
theorem qOp_r {P : Program} {Φ : Table} {ops : Array Oper} {o : Oper} {s : St} {x : AV} (hg : guardOf ops s.env o = some true) (hf : isFun o.op = false) (h : rOp P s.env s.objs o.op = some x) :
    qOp1 P Φ ops o s = some ⟨putA s.env o.dst x, s.objs⟩ := by
  simp only [qOp1, hg]
  cases hop : o.op with
  | call c =>
    obtain ⟨callee, args, tys⟩ := c
    rw [hop] at hf h
    cases callee with
    | value x => cases x with
      | func f => simp [isFun] at hf
      | _ => simp only [h, Option.map_some]
    | _ => simp only [h, Option.map_some]
  | _ => rw [hop] at h; simp only [h, Option.map_some]

theorem sOp_wp {P : Program} {C : Cfg} {FT : List (Nat × Entry)} (hG : Good P C.G) (hFT : FTok P FT) {R : Type} {ops : Array Oper} {o : Oper} {s : SS} {K : SS → Option R} {r : R}
    (h : sOp C FT false s o.dst o.op K = some r) (hg : ∀ s1, keepsB s s1 → guardOf ops (s1.st C.N).env o = some true) {w0 : World} {M0 : Nat → Prop} {D0 : Names} {a : Act} {w : World} (hs : Sat w0 M0 D0 (s.st C.N) a w)
    {rest : List Oper} {Q : Exit → Act → World → Prop} (hq : ∀ s' a' w', K s' = some r → Sat w0 M0 D0 (s'.st C.N) a' w' → wpList P ops Q rest a' w') : wpList P ops Q (o :: rest) a w := by
  unfold sOp at h
  split at h
  · rename_i f args tys hop
    obtain ⟨s1, f', Φ, hr, a1, a2, a3, a4, a5, a6⟩ := sCall_sound hFT h
    have hx : xOp P Φ ops o (s1.st C.N) = some ⟨putA hr.env o.dst hr.x, hr.objs⟩ := by
      simp only [xOp, hg s1 a2, hop, a4, Option.map_some]
    exact xOp_sound a3 hx (a1 _ _ _ _ _ hs) fun a' w' hs' => hq f' a' w' a6 (by rw [← a5]; exact hs')
  · rename_i c x y hop
    split at h
    · rename_i t ht
      have hev := asK_ev ht
      simp only [br] at h
      have hx : xOp P noT ops o (s.st C.N) = some ⟨putA (s.st C.N).env o.dst (if t = true then ev (s.st C.N).env x else ev (s.st C.N).env y), (s.st C.N).objs⟩ :=
        xOp_r (hg s (.rfl' _)) (by rw [hop]; rfl) (by rw [hop]; simp only [rOp, hev, KV.av])
      split at h
      · rename_i ht'
        rw [if_pos ht'] at hx
        exact xOp_sound noT_ok hx hs fun a' w' hs' => hq _ a' w' h (by rw [put_st, sev_av]; exact hs')
      · rename_i ht'
        rw [if_neg ht'] at hx
        exact xOp_sound noT_ok hx hs fun a' w' hs' => hq _ a' w' h (by rw [put_st, sev_av]; exact hs')
    · cases h
  · rename_i hn1 hn2
    have hf : isFun o.op = false := by
      cases hop : o.op with
      | call c =>
        obtain ⟨callee, args, tys⟩ := c
        cases callee with
        | value x => cases x with
          | func f => exact absurd hop (hn1 _ _ _)
          | _ => rfl
        | _ => rfl
      | _ => rfl
    split at h
    · rename_i c x hr
      obtain ⟨hc, hK⟩ := need_some h
      have hx : xOp P noT ops o (s.st C.N) = some ⟨putA (s.st C.N).env o.dst (x.av s.objs), (s.st C.N).objs⟩ := xOp_r (hg s (.rfl' _)) hf (sR_sound hG hr hc)
      exact xOp_sound noT_ok hx hs fun a' w' hs' => hq _ a' w' hK (by rw [put_st]; exact hs')
    · simp only [Bool.false_eq_true, if_false] at h
      split at h
      · rename_i c x s' hr
        obtain ⟨hc, hK⟩ := need_some h
        obtain ⟨s1, hr, b1, b2, b3, b4, b5, b6⟩ := sH_sound hG hr hc
        exact xOp_sound noT_ok (xOp_h (hg s1 b2) b3 b4 b5) (b1 _ _ _ _ _ hs) fun a' w' hs' => hq _ a' w' hK (b6 _ _ _ _ _ hs')
      · cases h

theorem sOp_q {P : Program} {C : Cfg} {FT : List (Nat × Entry)} (hG : Good P C.G) (hFT : FTok P FT) {R : Type} {ops : Array Oper} {o : Oper} {s : SS} {K : SS → Option R} {r : R}
    (h : sOp C FT true s o.dst o.op K = some r) (hg : guardOf ops (s.st C.N).env o = some true) : ∃ f' Φ, Sound P Φ ∧ qOp1 P Φ ops o (s.st C.N) = some (f'.st C.N) ∧ K f' = some r := by
  unfold sOp at h
  split at h
  · rename_i f args tys hop
    obtain ⟨f', Φ, hr, a3, a4, a5, a6⟩ := sCall_quiet hFT h
    refine ⟨f', Φ, a3, ?_, a6⟩
    simp only [qOp1, hg, hop, a4, Option.map_some, a5]
  · rename_i c x y hop
    split at h
    · rename_i t ht
      have hev := asK_ev ht
      simp only [br] at h
      have hx : qOp1 P noT ops o (s.st C.N) = some ⟨putA (s.st C.N).env o.dst (if t = true then ev (s.st C.N).env x else ev (s.st C.N).env y), (s.st C.N).objs⟩ :=
        qOp_r hg (by rw [hop]; rfl) (by rw [hop]; simp only [rOp, hev, KV.av])
      split at h
      · rename_i ht'
        rw [if_pos ht'] at hx
        exact ⟨_, noT, noT_ok, by rw [hx, put_st, sev_av], h⟩
      · rename_i ht'
        rw [if_neg ht'] at hx
        exact ⟨_, noT, noT_ok, by rw [hx, put_st, sev_av], h⟩
    · cases h
  · rename_i hn1 hn2
    have hf : isFun o.op = false := by
      cases hop : o.op with
      | call c =>
        obtain ⟨callee, args, tys⟩ := c
        cases callee with
        | value x => cases x with
          | func f => exact absurd hop (hn1 _ _ _)
          | _ => rfl
        | _ => rfl
      | _ => rfl
    split at h
    · rename_i c x hr
      obtain ⟨hc, hK⟩ := need_some h
      exact ⟨_, noT, noT_ok, by rw [qOp_r hg hf (sR_sound hG hr hc), put_st], hK⟩
    · cases h

theorem dstOf_eq : ∀ (l : List Oper) (j : Nat), (l[j]?).bind (·.dst) = dstOf l j
  | [], j => by simp [dstOf]
  | o :: _, 0 => rfl
  | _ :: l, j + 1 => by simpa [dstOf] using dstOf_eq l j

theorem st_same {N t : Nat} {x : SV} {s : SS} (h : s.get N t = x) (hx : x ≠ .any) : SS.st N ⟨(t, x) :: s.env, s.objs⟩ = s.st N ∧ lkE s.env t = x ∧ t < N := by
  unfold SS.get at h
  split at h
  · rename_i hlt
    refine ⟨?_, h, hlt⟩
    simp only [SS.st]
    congr 1
    apply List.map_congr_left
    intro i _
    by_cases e : t = i
    · subst e; simp [lkE, h]
    · simp [lkE, e]
  · exact absurd h.symm hx

/-- what a guard says -/
theorem guard_none {ops : Array Oper} {env : List AV} {o : Oper} (h : o.guard = none) : guardOf ops env o = some true := by simp [guardOf, h]
theorem guard_bool {C : Cfg} {ops : Array Oper} {o : Oper} {j t : Nat} {want b : Bool} {s : SS} (h : o.guard = some (j, want)) (hd : dstOf ops.toList j = some t) (ht : t < C.N) (hl : lkE s.env t = SV.bool b) :
    guardOf ops (s.st C.N).env o = some (b == want) := by
  have e : (ops[j]?).bind (·.dst) = some t := by
    rw [← hd, ← dstOf_eq]
    simp
  have e2 : (s.st C.N).env.getD t .any = .bool b := by
    rw [st_get]; simp [SS.get, ht, hl]; rfl
  simp only [guardOf, h, e, e2]
theorem guard_und {C : Cfg} {ops : Array Oper} {o : Oper} {j t : Nat} {want : Bool} {s : SS} (h : o.guard = some (j, want)) (hd : dstOf ops.toList j = some t) (hl : s.get C.N t = .v (.c .und)) :
    guardOf ops (s.st C.N).env o = some false := by
  have e : (ops[j]?).bind (·.dst) = some t := by
    rw [← hd, ← dstOf_eq]
    simp
  have e2 : (s.st C.N).env.getD t .any = .und := by
    rw [st_get, hl]; rfl
  simp only [guardOf, h, e, e2]
theorem xOp_skip {P : Program} {ops : Array Oper} {o : Oper} {s : St} (h : guardOf ops s.env o = some false) : xOp P noT ops o s = some ⟨putA s.env o.dst .und, s.objs⟩ := by simp only [xOp, h]
theorem qOp_skip {P : Program} {ops : Array Oper} {o : Oper} {s : St} (h : guardOf ops s.env o = some false) : qOp1 P noT ops o s = some ⟨putA s.env o.dst .und, s.objs⟩ := by simp only [qOp1, h]

/-- The cases of a step of the walk. -/
theorem sGo_cons {R : Type} {C : Cfg} {FT : List (Nat × Entry)} {q : Bool} {ops : Array Oper} {o : Oper} {l : List Oper} {s : SS} {K : SS → Option R} {r : R} (h : sGo C FT q ops.toList (o :: l) s K = some r) :
    ∃ s', s'.st C.N = s.st C.N ∧ ((sOp C FT q s' o.dst o.op (fun s => sGo C FT q ops.toList l s K) = some r ∧ ∀ s1, keepsB s' s1 → guardOf ops (s1.st C.N).env o = some true) ∨
      (sGo C FT q ops.toList l (s'.put o.dst .und) K = some r ∧ guardOf ops (s.st C.N).env o = some false)) := by
  unfold sGo at h
  split at h
  · rename_i hgd
    exact ⟨s, rfl, .inl ⟨h, fun s1 _ => guard_none hgd⟩⟩
  · rename_i j want hgd
    split at h
    · cases h
    · rename_i t ht
      split at h
      · rename_i b hb
        obtain ⟨e1, e2, e3⟩ := st_same (x := .v (.c (.k (.bool b)))) hb (by simp [SV.any])
        have hl1 : ∀ c, lkE (((t, SV.bool c) :: s.env) : List (Nat × SV)) t = SV.bool c := fun c => by simp [lkE]
        simp only [br] at h
        split at h
        · rename_i hbt
          subst hbt
          split at h
          · refine ⟨_, e1, .inl ⟨h, fun s1 hk => ?_⟩⟩
            exact guard_bool hgd ht e3 (hk t true (hl1 true))
          · refine ⟨_, e1, .inr ⟨h, ?_⟩⟩
            exact guard_bool hgd ht e3 e2
        · rename_i hbt
          have hbt : b = false := by simpa using hbt
          subst hbt
          split at h
          · refine ⟨_, e1, .inl ⟨h, fun s1 hk => ?_⟩⟩
            exact guard_bool hgd ht e3 (hk t false (hl1 false))
          · refine ⟨_, e1, .inr ⟨h, ?_⟩⟩
            exact guard_bool hgd ht e3 e2
      · rename_i hb
        exact ⟨s, rfl, .inr ⟨h, guard_und hgd ht hb⟩⟩
      · cases h

theorem sGo_wp {P : Program} {C : Cfg} {FT : List (Nat × Entry)} (hG : Good P C.G) (hFT : FTok P FT) {R : Type} {ops : Array Oper} {K : SS → Option R} {r : R} {w0 : World} {M0 : Nat → Prop} {D0 : Names} {Q : Exit → Act → World → Prop} :
    ∀ (l : List Oper) {s : SS}, sGo C FT false ops.toList l s K = some r → ∀ {a w}, Sat w0 M0 D0 (s.st C.N) a w → (∀ s' a' w', K s' = some r → Sat w0 M0 D0 (s'.st C.N) a' w' → Q .normal a' w') → wpList P ops Q l a w
  | [], s, h, a, w, hs, hq => hq s a w h hs
  | o :: l, s, h, a, w, hs, hq => by
    obtain ⟨s', e, h⟩ := sGo_cons h
    rw [← e] at hs
    rcases h with ⟨h, hg⟩ | ⟨h, hg⟩
    · exact sOp_wp hG hFT h hg hs fun s2 a' w' h2 hs2 => sGo_wp hG hFT l h2 hs2 hq
    · rw [← e] at hg
      exact xOp_sound noT_ok (xOp_skip hg) hs fun a' w' hs' => sGo_wp hG hFT l h (by rw [put_st]; exact hs') hq

theorem sGo_q {P : Program} {C : Cfg} {FT : List (Nat × Entry)} (hG : Good P C.G) (hFT : FTok P FT) {R : Type} {ops : Array Oper} {K : SS → Option R} {r : R} :
    ∀ (l : List Oper) {s : SS}, sGo C FT true ops.toList l s K = some r → ∃ s', qSteps P ops l (s.st C.N) (s'.st C.N) ∧ K s' = some r
  | [], s, h => ⟨s, rfl, h⟩
  | o :: l, s, h => by
    obtain ⟨s', e, h⟩ := sGo_cons h
    rcases h with ⟨h, hg⟩ | ⟨h, hg⟩
    · obtain ⟨f', Φ, h1, h2, h3⟩ := sOp_q (ops := ops) hG hFT h (hg s' (.rfl' _))
      obtain ⟨s2, h4, h5⟩ := sGo_q hG hFT l h3
      exact ⟨s2, ⟨_, Φ, h1, by rw [← e]; exact h2, h4⟩, h5⟩
    · rw [← e] at hg
      obtain ⟨s2, h4, h5⟩ := sGo_q hG hFT l h
      refine ⟨s2, ⟨_, noT, noT_ok, by rw [← e]; exact qOp_skip hg, ?_⟩, h5⟩
      rw [put_st] at h4; exact h4
end Go.Abs
