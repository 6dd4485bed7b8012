/- Hoare triples on abstract states; contracts of functions. -/
import Derived.Test.YtplngcjkghnkcaaAbsP
namespace Go.Abs
open Go.RowKit

theorem qOp1_frame {P : Program} {Φ : Table} (hΦ : Sound P Φ) {ops : Array Oper} {o : Oper} {s s' : St} (h : qOp1 P Φ ops o s = some s') {w0 w : World} {M0 : Nat → Prop} {D : Names} {a : Act} (hm : Mem w0 M0 s.objs D w) (he : EnvRep w D s.env a.tmps) {C : World → Prop}
    (hC : ∀ w', C w' ↔ Below w.heap.size w w') {K : Act → Prop} (hK : ∀ a', a'.defers = a.defers → EnvRep w D s'.env a'.tmps → K a') (hobj : s'.objs = s.objs → True) :
    s'.objs = s.objs ∧ (if Region.wanted o (yielded ops a.tmps) then o.quiet P a C K else K (a.put o.dst undef)) := by
  unfold qOp1 at h
  split at h
  · cases h
  · rename_i hg
    simp only [Option.some.injEq] at h; subst h
    rw [if_neg (by rw [guardOf_sound he hg]; decide)]
    exact ⟨rfl, hK _ (put_defers _ _ _) (he.put _ (by simp only [Slot, Val, Cell]; exact .und))⟩
  · rename_i hg
    rw [if_pos (guardOf_sound he hg)]
    split at h
    · rename_i f args tys hop
      obtain ⟨r, hr, rfl⟩ := Option.map_eq_some_iff.1 h
      obtain ⟨h1, h2, hf, h3, h4⟩ := cLend_quiet hΦ hm he hr
      refine ⟨h2, toVS r.x, fun w' hw' => ?_, hK _ (put_defers _ _ _) ?_⟩
      · unfold Oper.quietAt
        rw [run_call hop hf w']
        refine ⟨rfl, ?_⟩
        have : (args.map a.eval) = (args.toList.map a.eval).toArray := Array.ext' (by simp)
        rw [this]
        exact (h4 w' ((hC w').1 hw')).mono fun e w'' ⟨g1, g2⟩ => ⟨g1, (hC w'').2 g2⟩
      · simp only [h1]; exact he.put _ h3
    · obtain ⟨x, hx, rfl⟩ := Option.map_eq_some_iff.1 h
      obtain ⟨v, h1, h2⟩ := rOp_sound hm he hx
      refine ⟨rfl, v, fun w' hw' => ?_, hK _ (put_defers _ _ _) (he.put _ h1)⟩
      unfold Oper.quietAt
      rw [h2 w' ((hC w').1 hw')]
      exact ⟨rfl, rfl⟩

theorem qOps_sound {P : Program} {Φ : Table} (hΦ : Sound P Φ) {ops : Array Oper} {w0 w : World} {M0 : Nat → Prop} {D : Names} {C : World → Prop} (hC : ∀ w', C w' ↔ Below w.heap.size w w') {Q : Act → Prop} :
    ∀ (l : List Oper) {s s' : St} {a : Act}, qOps P Φ ops l s = some s' → Mem w0 M0 s.objs D w → EnvRep w D s.env a.tmps → (s'.objs = s.objs → ∀ a', a'.defers = a.defers → EnvRep w D s'.env a'.tmps → Q a') → wpQuiet P ops C Q l a
  | [], s, s', a, h, hm, he, hq => by simp only [qOps, Option.some.injEq] at h; subst h; exact hq rfl a rfl he
  | o :: l, s, s', a, h, hm, he, hq => by
    simp only [qOps] at h
    split at h
    · rename_i s1 h1
      have hobj : s1.objs = s.objs := (qOp1_frame hΦ h1 hm he hC (K := fun _ => True) (fun _ _ _ => trivial) (fun _ => trivial)).1
      refine wpQuiet_step fun K hK => (qOp1_frame hΦ h1 hm he hC (fun a' hd' he' => hK _ ?_) (fun _ => trivial)).2
      exact qOps_sound hΦ hC l h (by rw [hobj]; exact hm) he' (fun h2 a'' hd'' he'' => hq (h2.trans hobj) a'' (hd''.trans hd') he'')
    · cases h

/-- A Hoare triple on abstract states. pins: the names that the function was handed. -/
def AWP (P : Program) (pins : List Nat) (c : Code) (Q : Exit → St → Prop) (s : St) : Prop :=
  ∀ w0 M0 D0 a w, (∀ n, n < top → (D0 n).isSome = true → n ∈ pins) → Sat w0 M0 D0 s a w → c.wp P (fun e a' w' => ∃ s', Q e s' ∧ Sat w0 M0 D0 s' a' w') a w

section rules
variable {P : Program} {pins : List Nat} {Q Q' : Exit → St → Prop} {s s' : St}

theorem AWP.mono {c : Code} (h : AWP P pins c Q s) (hq : ∀ e s, Q e s → Q' e s) : AWP P pins c Q' s :=
  fun w0 M0 D0 a w hp hs => Code.wp_mono (fun _ _ _ ⟨s', h1, h2⟩ => ⟨s', hq _ _ h1, h2⟩) (h w0 M0 D0 a w hp hs)

theorem awp_skip (h : Q .normal s) : AWP P pins .skip Q s := fun _ _ _ _ _ _ hs => wp_skip ⟨s, h, hs⟩
theorem awp_ret (h : Q .ret s) : AWP P pins .ret Q s := fun _ _ _ _ _ _ hs => wp_ret ⟨s, h, hs⟩
theorem awp_exit {id : Nat} (h : Q (.exit id) s) : AWP P pins (.exit id) Q s := fun _ _ _ _ _ _ hs => wp_exit ⟨s, h, hs⟩

def seqQ (P : Program) (pins : List Nat) (y : Code) (Q : Exit → St → Prop) : Exit → St → Prop
  | .normal, s => AWP P pins y Q s
  | e, s => Q e s
def blockQ (id : Nat) (Q : Exit → St → Prop) : Exit → St → Prop
  | .exit i, s => if i = id then Q .normal s else Q (.exit i) s
  | e, s => Q e s

theorem awp_seq {x y : Code} (h : AWP P pins x (seqQ P pins y Q) s) : AWP P pins (.seq x y) Q s := by
  intro w0 M0 D0 a w hp hs
  refine wp_seq (Code.wp_mono ?_ (h w0 M0 D0 a w hp hs))
  rintro e a' w' ⟨s', h1, h2⟩
  cases e with
  | normal => exact h1 w0 M0 D0 a' w' hp h2
  | _ => exact ⟨s', h1, h2⟩

theorem awp_block {id : Nat} {x : Code} (h : AWP P pins x (blockQ id Q) s) : AWP P pins (.block id x) Q s := by
  intro w0 M0 D0 a w hp hs
  refine wp_block (Code.wp_mono ?_ (h w0 M0 D0 a w hp hs))
  rintro e a' w' ⟨s', h1, h2⟩
  cases e with
  | exit i =>
    simp only [blockQ] at h1
    simp only [Exit.inBlock]
    split
    · rename_i hi; rw [if_pos hi] at h1; exact ⟨s', h1, h2⟩
    · rename_i hi; rw [if_neg hi] at h1; exact ⟨s', h1, h2⟩
  | _ => exact ⟨s', h1, h2⟩

theorem awp_cond {c : Operand} {x y : Code} {t : Bool} (hc : ev s.env c = .bool t) (ht : t = true → AWP P pins x Q s) (hf : t = false → AWP P pins y Q s) : AWP P pins (.cond c x y) Q s := by
  intro w0 M0 D0 a w hp hs
  obtain ⟨hd, D, hm, he, hpin⟩ := hs
  have hv := ev_sound he c
  rw [hc] at hv
  refine wp_cond_split (slot_bool hv) (fun h => ht h w0 M0 D0 a w hp ⟨hd, D, hm, he, hpin⟩) (fun h => hf h w0 M0 D0 a w hp ⟨hd, D, hm, he, hpin⟩)

theorem awp_region {Φ : Table} (hΦ : Sound P Φ) {id : Nat} {ops : Array Oper} (hx : xOps P Φ ops ops.toList s = some s') (h : Q .normal s') : AWP P pins (.region id ops false) Q s := by
  intro w0 M0 D0 a w _ hs
  exact wp_region_list (xOps_sound hΦ ops.toList hx hs fun a' w' hs' => ⟨s', h, hs'⟩)

theorem awp_region_draw {Φ : Table} (hΦ : Sound P Φ) (hm : P.follows .mixedOrders = true) {id : Nat} {ops : Array Oper} (hB : Region.lexB .any ops = true) (hx : qOps P Φ ops ops.toList s = some s') (h : Q .normal s') : AWP P pins (.region id ops true) Q s := by
  intro w0 M0 D0 a w _ hs
  obtain ⟨hd, D, hmem, he, hpin⟩ := hs
  refine wp_region_quiet (C := fun w' => Below w.heap.size w w') hm hB ⟨rfl, rfl, rfl, Nat.le_refl _, fun _ _ => rfl⟩ ?_
  refine qOps_sound hΦ (fun _ => Iff.rfl) ops.toList hx hmem he fun hobj a' hd' he' w' hw' => ⟨s', h, hd'.trans hd, D, ?_, ?_, ?_⟩
  · rw [hobj]
    exact hmem.ext (grow_of_below hw') hw'.os hw'.tape hw'.output
  · exact he'.mono ((grow_of_below hw').weaken (fun _ _ h => h.elim)) (fun _ _ h => h) hmem.lt (fun _ _ h => h)
  · rw [hobj]; exact hpin

theorem least_of {R : Nat → Prop} (h : ∃ n, R n) : ∃ n, R n ∧ ∀ m, R m → n ≤ m := by
  obtain ⟨n, hn⟩ := h
  induction n using Nat.strongRecOn with
  | _ n ih =>
    by_cases hc : ∃ m, m < n ∧ R m
    · obtain ⟨m, hm, hr⟩ := hc; exact ih m hm hr
    · refine ⟨n, hn, fun m hr => ?_⟩
      rcases Nat.lt_or_ge m n with hlt | hge
      · exact (hc ⟨m, hlt, hr⟩).elim
      · exact hge

noncomputable def leastN (R : Nat → Prop) : Nat := Classical.epsilon fun n => R n ∧ ∀ m, R m → n ≤ m
theorem leastN_spec {R : Nat → Prop} (h : ∃ n, R n) : R (leastN R) ∧ ∀ m, R m → leastN R ≤ m := Classical.epsilon_spec (least_of h)

def loopQ (I : Nat → St → Prop) (n : Nat) (Q : Exit → St → Prop) : Exit → St → Prop
  | .normal, s => ∃ m, m < n ∧ I m s
  | e, s => Q e s

theorem awp_loop {c : Code} (I : Nat → St → Prop) {n : Nat} (h0 : I n s) (hr : ∀ n s, I n s → AWP P pins c (loopQ I n Q) s) : AWP P pins (.loop c) Q s := by
  intro w0 M0 D0 a w hp hs
  let R : Act → World → Nat → Prop := fun a w n => ∃ s, I n s ∧ Sat w0 M0 D0 s a w
  refine wp_loop (fun a w => ∃ n, R a w n) (fun a w => leastN (R a w)) ⟨n, s, h0, hs⟩ fun a w hI => ?_
  obtain ⟨⟨s1, hI1, hs1⟩, _⟩ := leastN_spec hI
  refine Code.wp_mono ?_ (hr _ s1 hI1 w0 M0 D0 a w hp hs1)
  rintro e a' w' ⟨s', h1, h2⟩
  cases e with
  | normal =>
    obtain ⟨m, hm, hI'⟩ := h1
    exact ⟨⟨m, s', hI', h2⟩, Nat.lt_of_le_of_lt ((leastN_spec ⟨m, s', hI', h2⟩).2 m ⟨s', hI', h2⟩) hm⟩
  | _ => exact ⟨s', h1, h2⟩

/-- One state says no more than another. -/
def Weaker (pins : List Nat) (s s' : St) : Prop := ∀ w0 M0 D0 a w, (∀ n, n < top → (D0 n).isSome = true → n ∈ pins) → Sat w0 M0 D0 s a w → Sat w0 M0 D0 s' a w

theorem awp_weaken {c : Code} (hw : Weaker pins s s') (h : AWP P pins c Q s') : AWP P pins c Q s := fun w0 M0 D0 a w hp hs => h w0 M0 D0 a w hp (hw w0 M0 D0 a w hp hs)

theorem Weaker.refl : Weaker pins s s := fun _ _ _ _ _ _ h => h
theorem Weaker.trans {s1 s2 s3 : St} (h : Weaker pins s1 s2) (k : Weaker pins s2 s3) : Weaker pins s1 s3 := fun w0 M0 D0 a w hp hs => k w0 M0 D0 a w hp (h w0 M0 D0 a w hp hs)

/-- Only the slots listed are kept. -/
def keepE (l : List Nat) : Nat → List AV → List AV
  | _, [] => []
  | i, x :: r => (if l.contains i then x else .any) :: keepE l (i + 1) r

theorem keepE_get (l : List Nat) : ∀ (env : List AV) (k i : Nat) (x : AV), (keepE l k env)[i]? = some x → x = .any ∨ env[i]? = some x
  | [], k, i, x, h => by simp [keepE] at h
  | y :: r, k, 0, x, h => by
    simp only [keepE, List.getElem?_cons_zero, Option.some.injEq] at h ⊢
    split at h
    · exact .inr h
    · exact .inl h.symm
  | y :: r, k, i + 1, x, h => by
    simp only [keepE, List.getElem?_cons_succ] at h ⊢
    exact keepE_get l r (k + 1) i x h
theorem keepE_length (l : List Nat) : ∀ (env : List AV) (k : Nat), (keepE l k env).length = env.length
  | [], _ => rfl
  | _ :: r, k => by simp [keepE, keepE_length l r (k + 1)]

theorem weaker_keep (l : List Nat) : Weaker pins s ⟨keepE l 0 s.env, s.objs⟩ := by
  rintro w0 M0 D0 a w _ ⟨hd, D, hm, he, hpin⟩
  refine ⟨hd, D, hm, ⟨by rw [he.1, keepE_length], fun i x hx => ?_⟩, hpin⟩
  rcases keepE_get l s.env 0 i x hx with rfl | h
  · exact slot_any _ _ _
  · exact he.2 i x h

def dropO (n : Nat) (s : St) : St := ⟨s.env.map (mapS (kill n)), mapO (kill n) (drop n s.objs)⟩

theorem weaker_drop {n : Nat} (hn : n ∉ pins) (hK : n < top) : Weaker pins s (dropO n s) := by
  rintro w0 M0 D0 a w hp ⟨hd, D, hm, he, hpin⟩
  refine ⟨hd, D.del n, hm.letgo n (carry_kill n), (carry_kill n).env he, fun m e hm0 => ?_⟩
  obtain ⟨h1, h2⟩ := hpin m e hm0
  have hne : m ≠ n := fun h => by subst h; exact hn (hp m hK (by simp [hm0]))
  refine ⟨by simp [Names.del, hne, h1], fun hK' => ?_⟩
  obtain ⟨cs, hc⟩ := h2 hK'
  exact ⟨cs.map (kill n), by simp only [dropO]; rw [look_mapO, look_drop_ne (Ne.symm hne), hc]; rfl⟩

/-- A nil slice is an array of its own without elements. -/
theorem weaker_virt {d sz i : Nat} (hd : look d s.objs = none) (hK : d < top) (hi : s.env[i]? = some .nsl) : Weaker pins s ⟨s.env.set i (.msl d sz 0 0), (d, .arr sz []) :: s.objs⟩ := by
  rintro w0 M0 D0 a w _ ⟨hdf, D, hm, he, hpin⟩
  obtain ⟨m1, m2, m3⟩ := hm.virt (sz := sz) hd hK
  have he' : EnvRep w (D.ins d none) s.env a.tmps := he.mono (Grow.refl w _) m2 hm.lt (fun b _ hb => m3 b hb)
  refine ⟨hdf, D.ins d none, m1, ⟨by simp [he'.1], fun j x hx => ?_⟩, hpin.ins (hm.fresh hd hK) _ _⟩
  simp only [List.getElem?_set] at hx
  split at hx
  · rename_i hij
    subst hij
    split at hx
    · simp only [Option.some.injEq] at hx; subst hx
      have := slot_nsl (he.2 i _ hi)
      rw [this]
      simp only [Slot, Val, Cell]
      exact .inl ⟨by simp [ins_self], trivial, none, rfl⟩
    · cases hx
  · exact he'.2 j x hx


/-! ## the end of a function -/
def resOps (fn : Func) : Option (List Operand) := fn.results.toList.mapM fun r => match r with | .tmp t => some (.tmp t) | .cell _ _ => none

/-- What a function hands back of a state: one result, or a tuple. -/
def fin1 (pins : List Nat) (objs : List (Nat × Obj)) (x : AV) : Option CR :=
  let os := lookAll pins objs
  if os.map (·.1) = pins ∧ boxesOk os = true ∧ rn ∉ pins then
    match x with
    | .msl n sz off len => match look n objs with
      | some (.arr sz' l) => if sz = sz' ∧ off = 0 ∧ len = l.length ∧ n ∉ pins then some ⟨.msl rn sz 0 len, os, some (.arr sz l)⟩ else none
      | _ => none
    | .ref n sz i off => match look n objs with
      | some (.box cs) => if i = 0 ∧ off = 0 ∧ n ∉ pins ∧ cs.all plainC = true ∧ sz = cs.length then some ⟨.ref rn sz 0 0, os, some (.box cs)⟩ else none
      | _ => none
    | x => if nf x = true then some ⟨x, os, none⟩ else none
  else none

def notTup : AV → Bool
  | .tup _ => false
  | _ => true

def finish (pins : List Nat) (rs : List Operand) (s : St) : Option CR :=
  match rs with
  | [o] => match ev s.env o with
    | .agg _ => match settle 8 rs s.env s.objs with
      | some r => fin1 pins r.2 (ev r.1 o)
      | none => none
    | .ref n _ _ _ => match look n s.objs with
      | some (.box cs) => match firstName cs with
        | none => fin1 pins s.objs (ev s.env o)
        | some m => match freeze m s.env s.objs with
          | some r => fin1 pins r.2 (ev r.1 o)
          | none => none
      | _ => none
    | x => fin1 pins s.objs x
  | os => match settle 8 os s.env s.objs with
    | some r => if (os.map (ev r.1)).all notTup = true then fin1 pins r.2 (.tup (os.map (ev r.1))) else none
    | none => none

end rules

def resVal (a : Act) : List Operand → Value
  | [o] => a.eval o
  | os => .tuple (os.map a.eval).toArray

theorem run_results {P : Program} {fn : Func} {rs : List Operand} (h : resOps fn = some rs) (a : Act) (w : World) :
    (results fn a.tmps).run P w = .ok (resVal a rs) w := by
  unfold resOps at h
  have key : ∀ (l : List ResultVar) (rs : List Operand), (l.mapM fun (r : ResultVar) => (match r with | .tmp t => some (Operand.tmp t) | .cell _ _ => none : Option Operand)) = some rs →
      (l.mapM fun (r : ResultVar) => (match r with | .tmp t => (pure (a.tmps.getD t undef) : Sem Value) | .cell b T => do loadVar T (← asAddr (a.tmps.getD b undef)) : Sem Value)).run P w = .ok (rs.map a.eval) w := by
    intro l
    induction l with
    | nil => intro rs h; simp at h; subst h; simp
    | cons r l ih =>
      intro rs h
      simp only [List.mapM_cons, Option.bind_eq_bind, Option.pure_def] at h
      obtain ⟨b, hb, h⟩ := Option.bind_eq_some_iff.1 h
      obtain ⟨bs, hbs, h⟩ := Option.bind_eq_some_iff.1 h
      simp only [Option.some.injEq] at h; subst h
      cases r with
      | cell _ _ => cases hb
      | tmp t =>
        simp only [Option.some.injEq] at hb; subst hb
        simp only [List.mapM_cons, Sem.run_bind, Sem.run_pure, Result.andThen_ok, ih bs hbs, List.map_cons, Act.eval]
  have := key fn.results.toList rs h
  unfold results
  rw [Array.mapM_eq_mapM_toList]
  simp only [Sem.run_bind, Sem.run_map, Sem.run_pure]
  refine (congrArg (fun r => (Result.andThen (Result.andThen r fun (l : List Value) w => .ok l.toArray w) fun vs w => .ok (if h : vs.size = 1 then vs[0] else .tuple vs) w)) this).trans ?_
  simp only [Result.andThen_ok]
  congr 1
  match rs with
  | [] => rfl
  | [o] => rfl
  | o :: p :: r =>
    have : ¬ ((o :: p :: r).map a.eval).toArray.size = 1 := by simp
    rw [dif_neg this]
    rfl

end Go.Abs
