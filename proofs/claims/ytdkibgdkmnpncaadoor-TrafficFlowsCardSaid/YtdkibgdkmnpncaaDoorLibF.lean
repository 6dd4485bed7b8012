/- The walks' library, part F: what a region of the program does in an abstract state, and its soundness. -/
import Derived.Test.YtdkibgdkmnpncaaDoorLibE
namespace Go.Abs
open Go.RowKit
structure KT (T : Nat → Prop) (κ : CV → CV) : Prop where
  fix : ∀ c, (∀ m, T m → de m c = true) → κ c = c
  cl : ∀ d c, de d c = true → de d (κ c) = true
theorem Er {d m : Nat} {c : CV} (h : de d c = true) : de d (aw m c) = true := by
  cases c <;> simp only [aw] <;> first | exact h | (split <;> first | rfl | exact h)
theorem Iq {m d : Nat} {ts : cf} {l : List ts.T} {c : CV} (h : de m c = true) : de m (jP d ts l c) = true := by
  cases c <;> simp only [jP] <;> first | exact h | (split <;> first | rfl | exact h)
theorem J9 {d m sz k : Nat} {c : CV} (h : de d c = true) : de d (ey m sz k c) = true := by
  cases c <;> simp only [ey] <;> first | exact h | skip
  rename_i n
  split
  · rename_i e; subst e; exact h
  · exact h
theorem KT.of {T : Nat → Prop} {m : Nat} {κ : CV → CV} (h : BT m κ) (hc : ∀ d c, de d c = true → de d (κ c) = true) (hT : T m) : KT T κ := ⟨fun c hx => h.fix c (hx m hT), hc⟩
theorem KT.S9 (T : Nat → Prop) : KT T (fun c => c) := ⟨fun _ _ => rfl, fun _ _ h => h⟩
theorem KT.comp {T : Nat → Prop} {κ κ' : CV → CV} (h : KT T κ) (k : KT T κ') : KT T (fun c => κ' (κ c)) := ⟨fun c hc => by rw [h.fix c hc, k.fix c hc], fun d c hc => k.cl d _ (h.cl d c hc)⟩
theorem KT.k {T : Nat → Prop} {κ : CV → CV} (h : KT T κ) (v : KV) : κ (.k v) = .k v := h.fix _ fun _ _ => rfl
theorem KT.vv {T : Nat → Prop} {κ : CV → CV} (h : KT T κ) {x : VV} (hx : ∀ m, T m → jM m x = true) : eG κ x = x := by
  cases x with
  | c x => simp only [eG, h.fix x hx]
  | g l => simp only [eG]; congr 1; exact (List.map_congr_left fun a ha => h.fix a fun m hm => List.all_eq_true.1 (hx m hm) a ha).trans (List.map_id' l)
theorem KT.sv {T : Nat → Prop} {κ : CV → CV} (h : KT T κ) {x : SV} (hx : ∀ m, T m → eP m x = true) : dk κ x = x := by
  cases x with
  | v x => simp only [dk, h.vv hx]
  | cI l => simp only [dk]; congr 1; exact (List.map_congr_left fun a ha => h.vv fun m hm => List.all_eq_true.1 (hx m hm) a ha).trans (List.map_id' l)
theorem KT.Xi {T : Nat → Prop} {κ : CV → CV} (h : KT T κ) {d : Nat} {x : VV} (hx : jM d x = true) : jM d (eG κ x) = true := by
  cases x with
  | c x => exact h.cl d x hx
  | g l => simp only [eG, jM, List.all_map]; exact List.all_eq_true.2 fun c hc => h.cl d c (List.all_eq_true.1 hx c hc)
theorem KT.Xh {T : Nat → Prop} {κ : CV → CV} (h : KT T κ) {d : Nat} {x : SV} (hx : eP d x = true) : eP d (dk κ x) = true := by
  cases x with
  | v x => exact h.Xi hx
  | cI l => simp only [dk, eP, List.all_map]; exact List.all_eq_true.2 fun c hc => h.Xi (List.all_eq_true.1 hx c hc)
theorem DP (κ κ' : CV → CV) (o : SO) : gT κ' (gT κ o) = gT (fun c => κ' (κ c)) o := by
  cases o with
  | box cs => simp only [gT, List.map_map]; rfl
  | arr ts l => rfl
  | mp _ _ _ => rfl
theorem BA (o : SO) : gT (fun c => c) o = o := by cases o <;> simp [gT]
structure Fp (T : Nat → Prop) (dst : Option Tmp) (s s' : SS) : Prop where
  same : ∀ t, dst ≠ some t → (∀ m, T m → eP m (cr s.env t) = true) → cr s'.env t = cr s.env t
  cl : ∀ t d, dst ≠ some t → eP d (cr s.env t) = true → eP d (cr s'.env t) = true
  obj : ∃ κ, KT T κ ∧ ∀ n, ¬ T n → ad n s'.objs = (ad n s.objs).map (gT κ)
section
variable {T : Nat → Prop}
theorem Fp.bh (dst : Option Tmp) (s : SS) : Fp T dst s s := ⟨fun _ _ _ => rfl, fun _ _ _ h => h, _, KT.S9 T, fun n _ => by cases ad n s.objs <;> simp [BA]⟩
theorem Fp.yN {dst : Option Tmp} {s s' : SS} (h : Fp T none s s') : Fp T dst s s' := ⟨fun t _ => h.same t (by simp), fun t d _ => h.cl t d (by simp), h.obj⟩
theorem Fp.trans {dst : Option Tmp} {a b c : SS} (h : Fp T dst a b) (k : Fp T dst b c) : Fp T dst a c := by
  obtain ⟨κ, h1, h2⟩ := h.obj
  obtain ⟨κ', k1, k2⟩ := k.obj
  refine ⟨fun t ht hc => ?_, fun t d ht hc => k.cl t d ht (h.cl t d ht hc), _, h1.comp k1, fun n hn => ?_⟩
  · have e := h.same t ht hc
    rw [k.same t ht (by rw [e]; exact hc), e]
  · rw [k2 n hn, h2 n hn]
    cases ad n a.objs with
    | none => rfl
    | some o => simp only [Option.map_some]; rw [DP]
theorem Fp.map {s : SS} {κ : CV → CV} (h : KT T κ) {O : ah} (ho : ∀ n, ¬ T n → ad n O = ad n s.objs) : Fp T none s ⟨cD κ s.env, az κ O⟩ := by
  have ha : κ .any = .any := h.fix _ fun _ _ => rfl
  refine ⟨fun t _ hc => ?_, fun t d _ hc => ?_, κ, h, fun n hn => ?_⟩
  · simp only [dw κ ha]; exact h.sv hc
  · simp only [dw κ ha]; exact h.Xh hc
  · simp only [cZ, ho n hn]
theorem Fp.put {dst : Option Tmp} {s s' : SS} (h : Fp T none s s') (v : SV) : Fp T dst s (s'.put dst v) := by
  cases dst with
  | none => exact h
  | some d =>
    refine ⟨fun t ht hc => ?_, fun t e ht hc => ?_, h.obj⟩
    · simp only [SS.put, cr]; rw [if_neg fun e => ht (by rw [e])]; exact h.same t (by simp) hc
    · simp only [SS.put, cr]; rw [if_neg fun e => ht (by rw [e])]; exact h.cl t e (by simp) hc
theorem Fp.objs {s s' : SS} (h : Fp T none s s') {O : ah} (ho : ∀ n, ¬ T n → ad n O = ad n s'.objs) : Fp T none s ⟨s'.env, O⟩ := by
  obtain ⟨κ, h1, h2⟩ := h.obj
  exact ⟨h.same, h.cl, κ, h1, fun n hn => by simp only; rw [ho n hn, h2 n hn]⟩
theorem iG {d : Nat} {o : SO} {O : ah} (hd : T d) : ∀ n, ¬ T n → ad n ((d, o) :: O) = ad n O := fun n hn => by
  simp only [ad]; rw [if_neg fun e => hn (by rw [← e]; exact hd)]
theorem vy {d : Nat} {o : SO} {O : ah} (hd : T d) : ∀ n, ¬ T n → ad n (c8 d o O) = ad n O := fun n hn => cu o (fun e => hn (by rw [← e]; exact hd)) O
theorem Eg {d : Nat} {O : ah} (hd : T d) : ∀ n, ¬ T n → ad n (du d O) = ad n O := fun n hn => dX (fun e => hn (by rw [← e]; exact hd)) O
theorem fx {d : Nat} {s s' : SS} (hd : T d) (h : cR d s = some s') : Fp T none s s' := by
  unfold cR at h
  split at h
  · cases h; exact .map (KT.of (eR d) (fun _ _ h => Er h) hd) fun _ _ => rfl
  · cases h
theorem GK {n : Nat} {s s' : SS} (hn : T n) (h : db n s = some s') : Fp T none s s' := by
  unfold db at h
  split at h
  · cases h; exact .map (KT.of (jC n _ _) (fun _ _ h => Iq h) hn) (Eg hn)
  · cases h
theorem EL {C : eN} {s s' : SS} (h : Fp T none s s') {o : Operand} (ho : oz T (aq C s o)) : oz T (aq C s' o) := fun d hd => by
  have hc := ho d hd
  cases o with
  | tmp t =>
    simp only [aq, SS.get] at hc ⊢
    split
    · rename_i ht
      rw [if_pos ht] at hc
      exact h.cl t d (by simp) hc
    · rfl
  | _ => exact hc
theorem zk : ∀ {l : List CV} {n : Nat}, (∀ c ∈ l, Kq T c) → cg l = some n → T n
  | [], n, _, h => by cases h
  | c :: r, n, hl, h => by
    have hc := hl c (List.mem_cons_self ..)
    have ih : cg r = some n → T n := zk fun c hc => hl c (List.mem_cons_of_mem _ hc)
    cases c with
    | own m => simp only [cg, Option.some.injEq] at h; subst h; exact hc.own
    | cw m _ _ _ => simp only [cg, Option.some.injEq] at h; subst h; exact hc.cw
    | _ => exact ih h
theorem N2 {C : eN} {s : SS} {xs : List Operand} (hx : ∀ o ∈ xs, oz T (aq C s o)) : ∀ c ∈ (xs.flatMap fun o => bw (aq C s o)), Kq T c := by
  intro c hc d hd
  obtain ⟨o, ho, hc⟩ := List.mem_flatMap.1 hc
  have := hx o ho d hd
  cases hv : aq C s o with
  | cI l => rw [hv] at hc; cases hc
  | v x => cases x with
    | g l => rw [hv] at hc this; exact List.all_eq_true.1 this c hc
    | c y => rw [hv] at hc this; simp only [bw, List.mem_singleton] at hc; subst hc; exact this
theorem wK {C : eN} {xs : List Operand} : ∀ (f : Nat) {s s' : SS}, (∀ o ∈ xs, oz T (aq C s o)) → dy C f xs s = some s' → Fp T none s s'
  | 0, s, s', _, h => by simp only [dy, Option.some.injEq] at h; subst h; exact .bh _ _
  | f + 1, s, s', hx, h => by
    simp only [dy] at h
    split at h
    · cases h; exact .bh _ _
    · rename_i n hn
      split at h
      · rename_i s2 h2
        have h3 := GK (zk (N2 hx) hn) h2
        exact h3.trans (wK f (fun o ho => EL h3 (hx o ho)) h)
      · cases h
theorem Ec {C : eN} {xs : List Operand} {s s' : SS} (hx : ∀ o ∈ xs, oz T (aq C s o)) (h : ie C xs s = some s') : Fp T none s s' := by
  unfold ie at h
  split at h
  · rename_i s2 h2
    split at h
    · cases h; exact wK 8 hx h2
    · cases h
  · cases h
theorem xL {C : eN} {d : Nat} {xs : List Operand} {s s' : SS} (hd : T d) (hx : ∀ o ∈ xs, oz T (aq C s o)) (h : jF C d xs s = some s') : Fp T none s s' := by
  unfold jF at h
  split at h
  · rename_i s2 h2
    split at h
    · rename_i s3 h3
      split at h
      · cases h; exact (Ec hx h2).trans (fx hd h3)
      · cases h
    · cases h
  · cases h
def HE : Op → List Operand
  | .call { callee := .builtin .append, args, argTypes := _ } => args.toList.take 1
  | op => op.operands.toList
theorem Na : ∀ (op : Op), ∀ o ∈ HE op, o ∈ op.operands.toList := by
  intro op o ho
  unfold HE at ho
  split at ho
  · simp only [Op.operands, Call.operands]
    have := List.mem_of_mem_take ho
    simpa using this
  · exact ho
theorem R0 {C : eN} {s : SS} {dst : Option Tmp} {op : Op} {c : List Bool} {v : SV} {s' : SS} (hd : ∀ d, dst = some d → T d) (hx : ∀ o ∈ HE op, oz T (aq C s o)) (hr : sH C s dst op = some (c, v, s')) : Fp T none s s' := by
  unfold sH at hr
  split at hr
  · rename_i d
    have hd := hd d rfl
    split at hr
    · split at hr
      · rename_i s2 h2
        split at hr
        · simp only [Option.some.injEq, Prod.mk.injEq] at hr
          obtain ⟨_, _, rfl⟩ := hr
          exact (fx hd h2).objs (iG hd)
        · cases hr
      · cases hr
    · cases hr
  · rename_i d
    have hd := hd d rfl
    split at hr
    · split at hr
      · rename_i s2 h2
        split at hr
        all_goals first
          | (simp only [Option.some.injEq, Prod.mk.injEq] at hr
             obtain ⟨_, _, rfl⟩ := hr
             exact (fx hd h2).objs (iG hd))
          | cases hr
      · cases hr
    · cases hr
  · rename_i T' len parts d
    have hd := hd d rfl
    split at hr
    · split at hr
      · rename_i s2 ts by_ h2 e
        split at hr
        · split at hr
          · simp only [Option.some.injEq, Prod.mk.injEq] at hr
            obtain ⟨_, _, rfl⟩ := hr
            exact (xL hd (fun o ho => hx o (by simpa [HE, Op.operands] using ho)) h2).objs (iG hd)
          · cases hr
        · cases hr
      · cases hr
    · cases hr
  · rename_i d
    have hd := hd d rfl
    split at hr
    · split at hr
      · rename_i s2 h2
        split at hr
        · simp only [Option.some.injEq, Prod.mk.injEq] at hr
          obtain ⟨_, _, rfl⟩ := hr
          exact (fx hd h2).objs (iG hd)
        · cases hr
      · cases hr
    · cases hr
  · rename_i d
    have hd := hd d rfl
    split at hr
    · split at hr
      · rename_i s2 h2
        split at hr
        · split at hr
          · simp only [Option.some.injEq, Prod.mk.injEq] at hr
            obtain ⟨_, _, rfl⟩ := hr
            exact (fx hd h2).objs (iG hd)
          · cases hr
        · cases hr
      · cases hr
    · cases hr
  · rename_i T' x y
    have hxx := hx x (by simp [HE, Op.operands])
    have hxy := hx y (by simp [HE, Op.operands])
    split at hr
    · rename_i n sz i off D e1 e2
      rw [qi e1] at hxx
      have hn : T n := hxx.c.ref
      split at hr
      · split at hr
        · split at hr
          · simp only [Option.some.injEq, Prod.mk.injEq] at hr
            obtain ⟨_, _, rfl⟩ := hr
            exact (Fp.bh none s).objs (vy hn)
          · cases hr
        · cases hr
      · split at hr
        · rename_i s2 h2
          split at hr
          · split at hr
            · split at hr
              · simp only [Option.some.injEq, Prod.mk.injEq] at hr
                obtain ⟨_, _, rfl⟩ := hr
                exact (Ec (fun o ho => by simp only [List.mem_singleton] at ho; subst ho; exact hxy) h2).objs (vy hn)
              · cases hr
            · cases hr
          · cases hr
        · cases hr
      · cases hr
    · cases hr
  · rename_i args at_ d
    have hd := hd d rfl
    split at hr
    · split at hr
      · rename_i x y T1 T2 e1 e2
        have hxx := hx x (by simp [HE, e1])
        split at hr
        · split at hr
          · split at hr
            · split at hr
              · rename_i s2 h2
                simp only [Option.some.injEq, Prod.mk.injEq] at hr
                obtain ⟨_, _, rfl⟩ := hr
                exact (fx hd h2).objs (iG hd)
              · cases hr
            · rename_i m e3
              have hm : T m := by rw [e3] at hxx; exact hxx.c.own
              split at hr
              · split at hr
                · split at hr
                  · rename_i s2 h2
                    simp only [Option.some.injEq, Prod.mk.injEq] at hr
                    obtain ⟨_, _, rfl⟩ := hr
                    exact ((Fp.map (KT.of (eR m) (fun _ _ h => Er h) hm) (Eg hm)).trans (fx hd h2)).objs (iG hd)
                  · cases hr
                · cases hr
              · cases hr
            · cases hr
          · cases hr
        · cases hr
      · cases hr
    · cases hr
  · cases hr
theorem Ji {d : Nat} {s : SS} (hd : T d) : ∀ (r : RT) (y : r.T), ∀ n, ¬ T n → ad n (eJ d s r y).2.objs = ad n s.objs
  | .v _, _ => fun _ _ => rfl
  | .cI _, _ => fun _ _ => rfl
  | .own _, _ => iG hd
  | .box _, _ => iG hd
  | .unit, _ => fun _ _ => rfl
theorem oG : ∀ {l : List AT} {xs : List SV} {o : kG (fp l)} {O : ah}, (∀ x ∈ xs, oz T x) → ∀ n, ¬ T n → ad n (ay l xs o O) = ad n O
  | [], xs, _, O, _, n, _ => by cases xs <;> rfl
  | .v _ :: l, [], _, O, _, n, _ => rfl
  | .v _ :: l, _ :: xs, o, O, hx, n, hn => oG (l := l) (fun x h => hx x (List.mem_cons_of_mem _ h)) n hn
  | .bx ts :: l, [], _, O, _, n, _ => rfl
  | .bx ts :: l, x :: xs, o, O, hx, n, hn => by
    have h0 := hx x (List.mem_cons_self ..)
    have hx' : ∀ x ∈ xs, oz T x := fun x h => hx x (List.mem_cons_of_mem _ h)
    cases x with
    | cI _ => rfl
    | v y => cases y with
      | g _ => rfl
      | c z => cases z with
        | ref m a b c =>
          have e : ay (.bx ts :: l) (.v (.c (.ref m a b c)) :: xs) o O = ay l xs o.2 (c8 m (.box ((ts.qZ o.1).map CV.k)) O) := rfl
          rw [e, oG hx' n hn]
          exact vy h0.c.ref n hn
        | _ => rfl
theorem JX {s : SS} {E : List (Nat × SV)} (h : s.env = E) : s = ⟨E, s.objs⟩ := by cases s; subst h; rfl
variable {R R1 : Type} {r : R} {r1 : R1} {K : SS → Option R} {K1 : SS → Option R1}
theorem Jn {C : eN} {FT : List (Nat × Entry)} {s : SS} {dst : Option Tmp} {f : FuncId} {xs : List Operand} (hd : T (dst.getD 999998)) (hx : ∀ o ∈ xs, oz T (aq C s o))
    (hK : ∀ s', Fp T dst s s' → K s' = some r → K1 s' = some r1) (hr : iw C FT false s dst f xs K = some r) : iw C FT false s dst f xs K1 = some r1 := by
  unfold iw at hr ⊢
  split at hr
  · cases hr
  · rename_i e he
    have key : ∀ s2, Fp T none s s2 → (match toArgs s2.objs e.sig.args (xs.map (aq C s2)) with
      | none => none
      | some a => if dst.getD 999998 < top ∧ e.sig.args.length ≤ 1000 ∧ fJ (bp e.sig.args (xs.map (aq C s2))) = true then
        gR (e.F a) fun r =>
          K ((eJ (dst.getD 999998) ⟨s2.env, ay e.sig.args (xs.map (aq C s2)) r.2 s2.objs⟩ e.sig.ret r.1).2.put dst
            (eJ (dst.getD 999998) ⟨s2.env, ay e.sig.args (xs.map (aq C s2)) r.2 s2.objs⟩ e.sig.ret r.1).1)
        else none) = some r → (match toArgs s2.objs e.sig.args (xs.map (aq C s2)) with
      | none => none
      | some a => if dst.getD 999998 < top ∧ e.sig.args.length ≤ 1000 ∧ fJ (bp e.sig.args (xs.map (aq C s2))) = true then
        gR (e.F a) fun r =>
          K1 ((eJ (dst.getD 999998) ⟨s2.env, ay e.sig.args (xs.map (aq C s2)) r.2 s2.objs⟩ e.sig.ret r.1).2.put dst
            (eJ (dst.getD 999998) ⟨s2.env, ay e.sig.args (xs.map (aq C s2)) r.2 s2.objs⟩ e.sig.ret r.1).1)
        else none) = some r1 := by
      intro s2 h2 hr
      split at hr
      · cases hr
      · rename_i a ha
        split at hr
        · rename_i hc; rw [if_pos hc]
          obtain ⟨y, hy, hr⟩ := lG hr
          rw [hy]
          simp only [gR, Option.bind]
          refine hK _ (Fp.put ?_ _) hr
          have e1 := JX (s := (eJ (dst.getD 999998) ⟨s2.env, ay e.sig.args (xs.map (aq C s2)) y.2 s2.objs⟩ e.sig.ret y.1).2) (E := s2.env) (by rw [xQ])
          rw [e1]
          refine h2.objs fun n hn => ?_
          rw [Ji hd _ _ n hn]
          exact oG (fun z hz => by obtain ⟨o, ho, rfl⟩ := List.mem_map.1 hz; exact EL h2 (hx o ho)) n hn
        · cases hr
    cases hb : (fp e.sig.args).isEmpty && CK e.sig.ret with
    | true =>
      rw [hb] at hr
      simp only at hr ⊢
      split at hr
      · cases hr
      · rename_i s2 h2
        exact key s2 (fx hd h2) hr
    | false =>
      rw [hb] at hr
      simp only at hr ⊢
      split at hr
      · cases hr
      · rename_i s2 h2
        exact key s2 (xL hd hx h2) hr
theorem E2 {C : eN} {FT : List (Nat × Entry)} {s : SS} {dst : Option Tmp} {op : Op} (hd : T (dst.getD 999998)) (hx : ∀ o ∈ HE op, oz T (aq C s o))
    (hK : ∀ s', Fp T dst s s' → K s' = some r → K1 s' = some r1) (hr : iP C FT false s dst op K = some r) : iP C FT false s dst op K1 = some r1 := by
  unfold iP at hr ⊢
  split at hr
  · exact Jn hd (fun o ho => hx o (by simp only [HE, Op.operands, Call.operands]; simpa using Or.inr ho)) hK hr
  · rename_i c a b
    split at hr
    · rename_i t e
      rcases tH hr with ⟨h1, h2⟩ | ⟨h1, h2⟩
      · subst h1; simp only [br, if_true]; exact hK _ ((Fp.bh none s).put _) h2
      · subst h1; simp only [br]; exact hK _ ((Fp.bh none s).put _) h2
    · cases hr
  · split at hr
    · rename_i c v e
      exact fV hr fun hr => hK _ ((Fp.bh none s).put _) hr
    · rename_i e
      simp only [Bool.false_eq_true, if_false] at hr ⊢
      split at hr
      · rename_i c v s' e2
        exact fV hr fun hr => hK _ ((R0 (fun d h => by subst h; exact hd) hx e2).put _) hr
      · cases hr
theorem Jr {C : eN} {FT : List (Nat × Entry)} {s : SS} {dst : Option Tmp} {op : Op} (hd : T (dst.getD 999998)) (hx : ∀ o ∈ HE op, oz T (aq C s o))
    (hK : ∀ s', Fp T dst s s' → K s' = some r → K1 s' = some r1) (hr : lS C FT false s dst op K = some r) : lS C FT false s dst op K1 = some r1 := by
  unfold lS at hr ⊢
  simp only at hr ⊢
  split at hr
  · rename_i t e
    have ht : Operand.tmp t ∈ HE op := by
      unfold BY at e
      split at e
      · split at e
        · rename_i args _ t' _ e2
          cases e
          simp [HE, e2]
        · cases e
      · cases e
    have go : ∀ s2, Fp T none s s2 → iP C FT false s2 dst op K = some r → iP C FT false s2 dst op K1 = some r1 :=
      fun s2 h2 hr => E2 hd (fun o ho => EL h2 (hx o ho)) (fun s' h' => hK s' (h2.yN.trans h')) hr
    simp only [iF, show Nat.ble top top = true from rfl] at hr ⊢
    split at hr
    · rename_i y e2
      have hn0 := hx _ ht
      have e3 : aq C s (.tmp t) = .v (.c y) := e2
      rw [e3] at hn0
      unfold p6 at hr ⊢
      split at hr
      · rename_i n sz off j
        have hn : T n := hn0.c.cw
        split at hr
        · rename_i ts l e4
          split at hr
          · rename_i hsz
            rw [if_pos hsz]
            refine fV hr fun hr => go _ ?_ hr
            have h1 : Fp T none s ⟨cD (ey n ts.len (eE l)) s.env, c8 n (.arr ts (lA l 0 j)) (az (ey n ts.len (eE l)) s.objs)⟩ :=
              (Fp.map (KT.of (qu n _ _) (fun _ _ h => J9 h) hn) (fun _ _ => rfl)).objs (vy hn)
            refine ⟨fun t' _ hc => ?_, fun t' d _ hc => ?_, h1.obj⟩
            · have hne : t ≠ t' := fun e5 => by
                subst e5
                have := hc n hn
                unfold SS.get at e2
                split at e2
                · rw [e2] at this; simp [eP, jM, de] at this
                · cases e2
              simp only [SS.put, cr, if_neg hne]
              exact h1.same t' (by simp) hc
            · simp only [SS.put, cr]
              split
              · rename_i e5
                subst e5
                unfold SS.get at e2
                split at e2
                · rw [e2] at hc; simpa [eP, jM, de] using hc
                · cases e2
              · exact h1.cl t' d (by simp) hc
          · rename_i hsz
            rw [if_neg hsz]
            exact go _ (.bh _ _) hr
        · exact go _ (.bh _ _) hr
      · exact go _ (.bh _ _) hr
    · exact go _ (.bh _ _) hr
  · exact E2 hd hx hK hr
structure Gn (T E : Nat → Prop) (dst : Option Tmp) (s s' : SS) : Prop where
  same : ∀ t, dst ≠ some t → (∀ m, E m → eP m (cr s.env t) = true) → cr s'.env t = cr s.env t
  cl : ∀ t d, dst ≠ some t → eP d (cr s.env t) = true → eP d (cr s'.env t) = true
  obj : ∃ κ, KT E κ ∧ ∀ n, ¬ T n → ad n s'.objs = (ad n s.objs).map (gT κ)
theorem Fp.two {dst : Option Tmp} {s s' : SS} (h : Fp T dst s s') : Gn T T dst s s' := ⟨h.same, h.cl, h.obj⟩
theorem Fp.WY {T E : Nat → Prop} (hET : ∀ n, E n → T n) {dst : Option Tmp} {s s' : SS} (h : Fp E dst s s') : Gn T E dst s s' := ⟨h.same, h.cl, by
  obtain ⟨κ, h1, h2⟩ := h.obj
  exact ⟨κ, h1, fun n hn => h2 n fun h => hn (hET n h)⟩⟩
theorem KH {C : eN} {s s2 : SS} {y : Operand} (hy : gu (aq C s y) = true) (h : ie C [y] s = some s2) : s2 = s := by
  have hf : cg ([y].flatMap fun o => bw (aq C s o)) = none := qp <| List.all_eq_true.2 fun c hc => by
    simp only [List.flatMap_cons, List.flatMap_nil, List.append_nil] at hc
    cases hv : aq C s y with
    | cI l => rw [hv] at hc; cases hc
    | v x => cases x with
      | g l => rw [hv] at hc hy; exact List.all_eq_true.1 hy c hc
      | c z => rw [hv] at hc hy; simp only [bw, List.mem_singleton] at hc; subst hc; exact hy
  unfold ie at h
  simp only [dy, hf] at h
  cases h; rfl
theorem J0 {C : eN} {FT : List (Nat × Entry)} {s : SS} {X : TypeId} {x y : Operand} (hx : oz T (aq C s x)) (hy : gu (aq C s y) = true) {E : Nat → Prop}
    (hK : ∀ s', Gn T E none s s' → K s' = some r → K1 s' = some r1) (hr : lS C FT false s none (.store X x y) K = some r) : lS C FT false s none (.store X x y) K1 = some r1 := by
  unfold lS at hr ⊢
  simp only [BY] at hr ⊢
  unfold iP at hr ⊢
  simp only [Bool.false_eq_true, if_false] at hr ⊢
  split at hr
  · rename_i c v e
    simp [sR] at e
  · rename_i e
    split at hr
    · rename_i c v s' e2
      refine fV hr fun hr => hK _ ?_ hr
      have hb : ∀ {n : Nat} {o : SO}, T n → Gn T E none s ⟨s.env, c8 n o s.objs⟩ := fun hn => ⟨fun _ _ _ => rfl, fun _ _ _ h => h, _, KT.S9 E, fun n' hn' => by rw [vy hn n' hn']; cases ad n' s.objs <;> simp [BA]⟩
      unfold sH at e2
      simp only at e2
      split at e2
      · rename_i n sz i off D e3 e4
        rw [qi e3] at hx
        have hn : T n := hx.c.ref
        split at e2
        · split at e2
          · split at e2
            · simp only [Option.some.injEq, Prod.mk.injEq] at e2
              obtain ⟨_, _, rfl⟩ := e2
              exact hb hn
            · cases e2
          · cases e2
        · split at e2
          · rename_i s2 h2
            have h2 := KH hy h2
            subst h2
            split at e2
            · split at e2
              · split at e2
                · simp only [Option.some.injEq, Prod.mk.injEq] at e2
                  obtain ⟨_, _, rfl⟩ := e2
                  exact hb hn
                · cases e2
              · cases e2
            · cases e2
          · cases e2
        · cases e2
      · cases e2
    · cases hr
theorem Gt {C : eN} {s s2 : SS} {xs : List Operand} (hf : cg (xs.flatMap fun o => bw (aq C s o)) = none) (h : ie C xs s = some s2) : s2 = s := by
  unfold ie at h
  simp only [dy, hf] at h
  cases h; rfl
theorem HX {C : eN} {FT : List (Nat × Entry)} {s : SS} {dst : Option Tmp} {f : FuncId} {xs : List Operand} {E : Nat → Prop} (hET : ∀ n, E n → T n) (hd : E (dst.getD 999998)) (hx : ∀ o ∈ xs, oz T (aq C s o))
    (hf : cg (xs.flatMap fun o => bw (aq C s o)) = none)
    (hK : ∀ s', Gn T E dst s s' → K s' = some r → K1 s' = some r1) (hr : iw C FT false s dst f xs K = some r) : iw C FT false s dst f xs K1 = some r1 := by
  unfold iw at hr ⊢
  split at hr
  · cases hr
  · rename_i e he
    have key : ∀ s2, Fp E none s s2 → Fp T none s s2 → (match toArgs s2.objs e.sig.args (xs.map (aq C s2)) with
      | none => none
      | some a => if dst.getD 999998 < top ∧ e.sig.args.length ≤ 1000 ∧ fJ (bp e.sig.args (xs.map (aq C s2))) = true then
        gR (e.F a) fun r =>
          K ((eJ (dst.getD 999998) ⟨s2.env, ay e.sig.args (xs.map (aq C s2)) r.2 s2.objs⟩ e.sig.ret r.1).2.put dst
            (eJ (dst.getD 999998) ⟨s2.env, ay e.sig.args (xs.map (aq C s2)) r.2 s2.objs⟩ e.sig.ret r.1).1)
        else none) = some r → (match toArgs s2.objs e.sig.args (xs.map (aq C s2)) with
      | none => none
      | some a => if dst.getD 999998 < top ∧ e.sig.args.length ≤ 1000 ∧ fJ (bp e.sig.args (xs.map (aq C s2))) = true then
        gR (e.F a) fun r =>
          K1 ((eJ (dst.getD 999998) ⟨s2.env, ay e.sig.args (xs.map (aq C s2)) r.2 s2.objs⟩ e.sig.ret r.1).2.put dst
            (eJ (dst.getD 999998) ⟨s2.env, ay e.sig.args (xs.map (aq C s2)) r.2 s2.objs⟩ e.sig.ret r.1).1)
        else none) = some r1 := by
      intro s2 h2 h2T hr
      split at hr
      · cases hr
      · rename_i a ha
        split at hr
        · rename_i hc; rw [if_pos hc]
          obtain ⟨y, hy, hr⟩ := lG hr
          rw [hy]
          simp only [gR, Option.bind]
          refine hK _ ?_ hr
          have e1 := JX (s := (eJ (dst.getD 999998) ⟨s2.env, ay e.sig.args (xs.map (aq C s2)) y.2 s2.objs⟩ e.sig.ret y.1).2) (E := s2.env) (by rw [xQ])
          have ho : ∀ n, ¬ T n → ad n (eJ (dst.getD 999998) ⟨s2.env, ay e.sig.args (xs.map (aq C s2)) y.2 s2.objs⟩ e.sig.ret y.1).2.objs = ad n s2.objs := fun n hn => by
            rw [Ji (hET _ hd) _ _ n hn]
            exact oG (fun z hz => by obtain ⟨o, ho, rfl⟩ := List.mem_map.1 hz; exact EL h2T (hx o ho)) n hn
          generalize (eJ (dst.getD 999998) ⟨s2.env, ay e.sig.args (xs.map (aq C s2)) y.2 s2.objs⟩ e.sig.ret y.1).2 = s3 at e1 ho
          generalize (eJ (dst.getD 999998) ⟨s2.env, ay e.sig.args (xs.map (aq C s2)) y.2 s2.objs⟩ e.sig.ret y.1).1 = v
          have hlk : ∀ t, dst ≠ some t → cr (s3.put dst v).env t = cr s2.env t := fun t ht => by
            rw [e1]
            cases dst with
            | none => rfl
            | some d => simp only [SS.put, cr]; rw [if_neg (fun e => ht (by rw [e]))]
          have hob : (s3.put dst v).objs = s3.objs := by cases dst <;> rfl
          obtain ⟨κ, hκ, hko⟩ := h2.obj
          refine ⟨fun t ht hc => (hlk t ht).trans (h2.same t (by simp) hc), fun t d ht hc => by rw [hlk t ht]; exact h2.cl t d (by simp) hc, κ, hκ, fun n hn => ?_⟩
          rw [hob, ho n hn]
          exact hko n fun h => hn (hET n h)
        · cases hr
    cases hb : (fp e.sig.args).isEmpty && CK e.sig.ret with
    | true =>
      rw [hb] at hr
      simp only at hr ⊢
      split at hr
      · cases hr
      · rename_i s2 h2
        exact key s2 (fx hd h2) (fx (hET _ hd) h2) hr
    | false =>
      rw [hb] at hr
      simp only at hr ⊢
      split at hr
      · cases hr
      · rename_i s2 h2
        refine key s2 ?_ (xL (hET _ hd) hx h2) hr
        unfold jF at h2
        split at h2
        · rename_i s3 h3
          have := Gt hf h3
          subst this
          split at h2
          · rename_i s4 h4
            split at h2
            · cases h2; exact fx hd h4
            · cases h2
          · cases h2
        · cases h2
end
end Go.Abs
namespace Go.Abs
open Go.RowKit
variable {s s1 : SS} {d : Nat} {dst : Option Tmp} {l1 : List (Nat × Nat)}
def wW (s s1 : SS) : Prop := Ext (fun _ => false) (fun _ => false) none none s s1
theorem qa : Eb (fun _ => false) none none := fun m _ => ⟨fun y h => (by cases h), fun cs h => (by cases h)⟩
theorem wW.of (h : ∀ t, cr s1.env t = cr s.env t) (k : ∀ n, ad n s1.objs = ad n s.objs) : wW s s1 := ⟨fun t _ => h t, fun _ _ h => (by cases h), fun n => by simp [k n], fun n h => by cases h⟩
theorem wW.e (h : wW s s1) (t : Nat) : cr s1.env t = cr s.env t := h.env t rfl
theorem wW.o (h : wW s s1) (n : Nat) : ad n s1.objs = ad n s.objs := by rw [h.obj]; simp
theorem wW.bh (s : SS) : wW s s := .of (fun _ => rfl) fun _ => rfl
theorem wW.trans {a b c : SS} (h : wW a b) (k : wW b c) : wW a c := .of (fun t => (k.e t).trans (h.e t)) fun n => (k.o n).trans (h.o n)
structure Cl (d : Nat) (s : SS) : Prop where
 no : ad d s.objs = none
 env : ∀ t, eP d (cr s.env t) = true
 obj : ∀ n cs, ad n s.objs = some (.box cs) → cs.all (de d) = true
theorem H0 : ∀ {E : List (Nat × SV)}, Ee d E = true → ∀ t, eP d (cr E t) = true
 | [], _, t => rfl
 | (n, x) :: r, h, t => by
  simp only [Ee, Bool.and_eq_true] at h
  simp only [cr]
  split
  ·exact h.1
  ·exact H0 h.2 t
theorem xa : ∀ {O : ah}, qI d O = true → ∀ n cs, ad n O = some (.box cs) → cs.all (de d) = true
 | [], _, n, cs, h => by cases h
 | (m, .box cs') :: r, h, n, cs, hl => by
  simp only [qI, Bool.and_eq_true] at h
  simp only [ad] at hl
  split at hl
  ·cases hl; exact h.1
  ·exact xa h.2 n cs hl
 | (m, .arr ts l) :: r, h, n, cs, hl => by
  simp only [qI] at h
  simp only [ad] at hl
  split at hl
  ·cases hl
  ·exact xa h n cs hl
 | (m, .mp _ _ _) :: r, h, n, cs, hl => by
  simp only [qI] at h
  simp only [ad] at hl
  split at hl
  ·cases hl
  ·exact xa h n cs hl
theorem QB (h : CE d s = true) : Cl d s := by
 simp only [CE, Bool.and_eq_true, Option.isNone_iff_eq_none] at h
 exact ⟨h.1, H0 h.2.1, xa h.2.2⟩
theorem Cl.ext {kE kO : Nat → Bool} {x : Option SV} {ob : Option SO} (h : Cl d s) (he : Ext kE kO x ob s s1) (hz : Eb kO x ob) (hd : kO d = false) (hx : ∀ t, kE t = true → x = none → eP d (cr s1.env t) = true) : Cl d s1 := by
 obtain ⟨z1, z2⟩ := hz d hd
 refine ⟨he.YH hd h.no, fun t => ?_, fun n cs hn => ?_⟩
 ·cases hk : kE t with
  | false => rw [he.env t hk]; exact h.env t
  | true =>
   cases x with
   | none => exact hx t hk rfl
   | some y => rw [he.at_ t y hk rfl]; exact z1 y rfl
 ·rw [he.obj] at hn
  split at hn
  ·exact z2 cs hn
  ·exact h.obj n cs hn
open Classical in
noncomputable def PK (p : Prop) : Option Unit := if p then some () else none
theorem iD {p : Prop} (h : p) : PK p = some () := by unfold PK; rw [if_pos h]
theorem gp {p : Prop} (h : PK p = some ()) : p := by
 unfold PK at h
 split at h
 ·assumption
 ·cases h
theorem v5 {op : Op} (h : GQ op = true) : gB op = true := by cases op <;> first | rfl | (simp [GQ] at h)
section
variable (C : eN) (FT : List (Nat × Entry)) (ops : Array Oper) (Q : SS → Prop)
def SM (l : List (Nat × Nat)) (s : SS) : Prop := ∀ p ∈ l, 4 ≤ p.1 → ∃ o d, ops[p.2]? = some o ∧ o.dst = some d ∧ Cl d s ∧ ∀ t, .tmp t ∈ o.op.operands.toList → (∃ q ∈ l, cY ops q.2 = some t) ∨ gu (s.get C.N t) = true
def Sb (s : SS) (T : Op → List Nat) (j : Nat) : Prop := ∃ o t, ops[j]? = some o ∧ o.dst = some t ∧ ∀ m ∈ T o.op, eP m (cr s.env t) = true ∧ ∀ y ∈ o.op.operands.toList, eP m (aq C s y) = true
def WX : List Nat → List (Nat × Nat) → SS → Prop
 | _, [], s => ∃ s0, wW s0 s ∧ Q s0
 | dn, (k, i) :: l, s => SM C ops ((k, i) :: l) s ∧ ∃ o, ops[i]? = some o ∧
   ((k < 2 ∧ ∃ c v, sR C s o.op = some (c, v) ∧ gy c ∧ WX (i :: dn) l (s.put o.dst v)) ∨
   (2 ≤ k ∧ k ≠ 5 ∧ (4 ≤ k → gB o.op = true) ∧ (k < 4 → ∀ j ∈ dn, reach ops 3 i j = true ∨ Sb C ops s (Nb C s o) j) ∧ lS C FT false s o.dst o.op (fun s' => PK (WX dn l s')) = some ()) ∨
   (k = 5 ∧ GQ o.op = true ∧ lS C FT false s o.dst o.op (fun s' => PK (∃ s2, db (o.dst.getD 999998) s' = some s2 ∧ WX dn l s2)) = some ()))
variable {C FT ops Q}
theorem N3 {l : List (Nat × Nat)} (h : QJ C ops l s = true) : SM C ops l s := by
 intro p hp hk
 have h1 := List.all_eq_true.1 h p hp
 simp only [Nat.ble_eq_true_of_le hk, Bool.not_true, Bool.false_or] at h1
 unfold Xs at h1
 split at h1
 ·cases h1
 ·rename_i o ho
  split at h1
  ·cases h1
  ·rename_i d hd
   simp only [Bool.and_eq_true] at h1
   refine ⟨o, d, ho, hd, QB h1.1, fun t ht => ?_⟩
   have h2 := List.all_eq_true.1 h1.2 _ ht
   simp only [Bool.or_eq_true, List.any_eq_true, beq_iff_eq] at h2
   exact h2
theorem Sj {T : Op → List Nat} {j : Nat} (h : V1 C ops s T j = true) : Sb C ops s T j := by
 unfold V1 at h
 split at h
 ·cases h
 ·rename_i o ho
  split at h
  ·cases h
  ·rename_i t ht
   refine ⟨o, t, ho, ht, fun m hm => ?_⟩
   have h1 := List.all_eq_true.1 h m hm
   simp only [Bool.and_eq_true] at h1
   exact ⟨h1.1, fun y hy => List.all_eq_true.1 h1.2 y hy⟩
theorem o9 {R : Type} {K : SS → Option R} {r : R} : ∀ (l : List (Nat × Nat)) {dn : List Nat} {s : SS}, AD C FT ops dn l s K = some r → WX C FT ops (fun s => K s = some r) dn l s
 | [], dn, s, h => ⟨s, .bh s, h⟩
 | (k, i) :: l, dn, s, h => by
  unfold AD at h
  split at h
  ·cases h
  rename_i hfl
  refine ⟨N3 hfl, ?_⟩
  split at h
  ·cases h
  rename_i o ho
  refine ⟨o, ho, ?_⟩
  split at h
  ·rename_i hk
   have hk2 : k < 2 := by
    rcases Nat.lt_or_ge k 2 with h | h
    ·exact h
    ·rw [Nat.ble_eq_true_of_le h] at hk; cases hk
   split at h
   ·rename_i c x hr
    obtain ⟨hc, hn⟩ := fI h
    exact .inl ⟨hk2, c, x, hr, hc, o9 l hn⟩
   ·cases h
  ·rename_i hk
   have hk2 := Nat.le_of_ble_eq_true hk
   split at h
   ·rename_i hk4
    have hk4 : k < 4 := by
     rcases Nat.lt_or_ge k 4 with h | h
     ·exact h
     ·rw [Nat.ble_eq_true_of_le h] at hk4; cases hk4
    split at h
    ·rename_i hst
     refine .inr (.inl ⟨hk2, by omega, fun h => by omega, fun _ j hj => ?_, ?_⟩)
     ·have := List.all_eq_true.1 hst j hj
      simp only [Bool.or_eq_true] at this
      exact this.imp id Sj
     ·exact gJ (fun s' _ h => iD (o9 l h)) h
    ·cases h
   ·rename_i hk4
    have hk4 := Nat.le_of_ble_eq_true hk4
    split at h
    ·split at h
     ·rename_i hg
      refine .inr (.inr ⟨rfl, hg, ?_⟩)
      refine gJ (fun s' _ h => iD ?_) h
      split at h
      ·rename_i s2 h2; exact ⟨s2, h2, o9 l h⟩
      ·cases h
     ·cases h
    ·rename_i h5
     have h5 : k ≠ 5 := h5
     split at h
     ·rename_i hg
      refine .inr (.inl ⟨hk2, h5, fun _ => hg, fun h => by omega, ?_⟩)
      exact gJ (fun s' _ h => iD (o9 l h)) h
     ·cases h
theorem qA (o : Operand) : gG (fun _ => false) o = true := by cases o <;> rfl
theorem nu {o : Oper} (h : ∀ y ∈ o.op.operands.toList, aq C s1 y = aq C s y) : vR C s1 o = vR C s o := by
 have : ∀ l : List Operand, (∀ y ∈ l, aq C s1 y = aq C s y) → (l.flatMap fun y => G3 (aq C s1 y)) = l.flatMap fun y => G3 (aq C s y) := by
  intro l
  induction l with
  | nil => intro _; rfl
  | cons a r ih => intro h; simp only [List.flatMap_cons]; rw [h a (List.mem_cons_self ..), ih fun y hy => h y (List.mem_cons_of_mem _ hy)]
 unfold vR
 rw [this _ h]
theorem Gj {o : Oper} (h : ∀ y ∈ o.op.operands.toList, aq C s1 y = aq C s y) : wQ C s1 o = wQ C s o := by
 unfold wQ
 split
 ·rename_i x y e1 e2
  rw [h y (by rw [e2]; simp [Op.operands]), nu h]
 ·rename_i f args ats e2
  have h' : ∀ l : List Operand, (∀ y ∈ l, aq C s1 y = aq C s y) → (l.flatMap fun y => bw (aq C s1 y)) = l.flatMap fun y => bw (aq C s y) := by
   intro l
   induction l with
   | nil => intro _; rfl
   | cons a r ih => intro h; simp only [List.flatMap_cons]; rw [h a (List.mem_cons_self ..), ih fun y hy => h y (List.mem_cons_of_mem _ hy)]
  rw [h' args.toList fun y hy => h y (by rw [e2]; simp [Op.operands, Call.operands]; exact .inr (by simpa using hy)), nu h]
 ·rename_i args ats e2
  split
  ·rename_i x y e3
   rw [h x (by rw [e2]; simp [Op.operands, Call.operands, e3])]
  ·exact nu h
 ·exact nu h
theorem yL {o : Oper} (h : ∀ y ∈ o.op.operands.toList, aq C s1 y = aq C s y) : Nb C s1 o = Nb C s o := by
 funext op
 unfold Nb
 split
 ·exact Gj h
 ·exact nu h
theorem WX.eqv : ∀ {l : List (Nat × Nat)} {dn : List Nat} {s s1 : SS}, WX C FT ops Q dn l s → wW s s1 → WX C FT ops Q dn l s1
 | [], dn, s, s1, h, e => by
  obtain ⟨s0, h0, hq⟩ := h
  exact ⟨s0, h0.trans e, hq⟩
 | (k, i) :: l, dn, s, s1, h, e => by
  obtain ⟨hf, o, ho, h⟩ := h
  have hsv : ∀ x, aq C s1 x = aq C s x := fun x => Ext.aq e (qA x)
  refine ⟨fun p hp hk => ?_, o, ho, ?_⟩
  ·obtain ⟨o, d, h1, h2, h3, h4⟩ := hf p hp hk
   refine ⟨o, d, h1, h2, h3.ext e qa rfl (fun _ h _ => by cases h), fun t ht => ?_⟩
   rw [Ext.get e rfl]; exact h4 t ht
  ·rcases h with ⟨h1, c, v, h3, h4, h5⟩ | ⟨h1, h2, h3, hst, h4⟩ | ⟨h1, h2, h3⟩
   ·exact .inl ⟨h1, c, v, AH e.up (fun x _ => hsv x) h3, h4, WX.eqv h5 (e.put (fun _ _ => rfl) v)⟩
   ·refine .inr (.inl ⟨h1, h2, h3, fun hk j hj => ?_, pa e qa (fun x _ => qA x) (fun _ _ => rfl) (fun _ _ => rfl) rfl (fun s' s1' e' h' => iD (WX.eqv (gp h') e')) h4⟩)
    refine (hst hk j hj).imp id fun ⟨oj, tj, h5, h7, h6⟩ => ⟨oj, tj, h5, h7, fun m hm => ?_⟩
    rw [yL fun y _ => hsv y] at hm
    refine ⟨?_, fun y hy => ?_⟩
    ·rw [e.e]; exact (h6 m hm).1
    ·rw [hsv]; exact (h6 m hm).2 y hy
   ·refine .inr (.inr ⟨h1, h2, pa e qa (fun x _ => qA x) (fun _ _ => rfl) (fun _ _ => rfl) rfl (fun s' s1' e' h' => iD ?_) h3⟩)
    obtain ⟨s2, g1, g2⟩ := gp h'
    obtain ⟨s3, g3, g4⟩ := Ext.freeze e' qa g1
    exact ⟨s3, g3, WX.eqv g2 g4⟩
theorem WX.mono : ∀ {l : List (Nat × Nat)} {dn dn' : List Nat} {s : SS}, WX C FT ops Q dn l s → (∀ j ∈ dn', j ∈ dn) → WX C FT ops Q dn' l s
 | [], dn, dn', s, h, _ => h
 | (k, i) :: l, dn, dn', s, h, hd => by
  obtain ⟨hf, o, ho, h⟩ := h
  refine ⟨hf, o, ho, ?_⟩
  rcases h with ⟨h1, c, v, h3, h4, h5⟩ | ⟨h1, h2, h3, hst, h4⟩ | ⟨h1, h2, h3⟩
  ·refine .inl ⟨h1, c, v, h3, h4, h5.mono fun j hj => ?_⟩
   rcases List.mem_cons.1 hj with rfl | hj
   ·exact List.mem_cons_self ..
   ·exact List.mem_cons_of_mem _ (hd j hj)
  ·exact .inr (.inl ⟨h1, h2, h3, fun hk j hj => hst hk j (hd j hj), gJ (fun s' _ h => iD ((gp h).mono hd)) h4⟩)
  ·refine .inr (.inr ⟨h1, h2, gJ (fun s' _ h => iD ?_) h3⟩)
   obtain ⟨s2, g1, g2⟩ := gp h
   exact ⟨s2, g1, g2.mono hd⟩
theorem xV {v : SV} {x : Operand} (h : ∀ t, x = .tmp t → dst ≠ some t) : aq C (s.put dst v) x = aq C s x := by
 cases x with
 | tmp t =>
  cases dst with
  | none => rfl
  | some d =>
   have hne : d ≠ t := fun e => h t rfl (by rw [e])
   simp only [aq, SS.get, SS.put, cr, if_neg hne]
 | _ => rfl
theorem Ju {s s' : SS} (hk : Kd dst s s') {x : Operand} (h : ∀ t, x = .tmp t → dst ≠ some t ∧ gu (s.get C.N t) = true) : aq C s' x = aq C s x := by
 cases x with
 | tmp t =>
  obtain ⟨h1, h2⟩ := h t rfl
  simp only [aq, SS.get] at h2 ⊢
  split
  ·rename_i ht
   rw [if_pos ht] at h2
   exact hk t h1 h2
  ·rfl
 | _ => rfl
theorem Kd.kp {s s' s2 : SS} (h : Kd dst s s') (k : Kp s' s2) : Kd dst s s2 := fun t ht hn => by
 have h1 := h t ht hn
 rw [k t (by rw [h1]; exact hn), h1]
theorem Nx {op : Op} (h : ∀ t, .tmp t ∈ op.operands.toList → gu (s.get C.N t) = true) : ∀ o ∈ op.operands.toList, gu (aq C s o) = true := fun o ho => by
 cases o with
 | tmp t => exact h t ho
 | const v => exact Lj v
 | global g =>
  simp only [aq]
  cases GX Em g with
  | none => rfl
  | some e =>
   obtain ⟨ts, l⟩ := e
   match l with
   | [] => rfl
   | [x] => rfl
   | x :: y :: l => rfl
 | func f => rfl
theorem wY {k i d : Nat} {o : Oper} (ho : ops[i]? = some o) (hd : o.dst = some d) (hk : 4 ≤ k) {l2 : List (Nat × Nat)} : ∀ {l1 : List (Nat × Nat)} {dn : List Nat} {s : SS}, WX C FT ops Q dn (l1 ++ (k, i) :: l2) s →
  (∀ t, .tmp t ∈ o.op.operands.toList → ∀ q ∈ l1 ++ (k, i) :: l2, cY ops q.2 ≠ some t) → gB o.op = true ∧ ∃ v ob, vE C FT d o.op s v ob
 | l1, dn, s, h, hop => by
  have hnl : ∀ t, .tmp t ∈ o.op.operands.toList → gu (s.get C.N t) = true := by
   intro t ht
   have hf : SM C ops (l1 ++ (k, i) :: l2) s := by cases l1 with | nil => exact h.1 | cons a l => exact h.1
   obtain ⟨o', d', h1, _, _, h4⟩ := hf (k, i) (by simp) hk
   rw [ho] at h1; cases h1
   rcases h4 t ht with ⟨q, hq, hqt⟩ | h5
   ·exact absurd hqt (hop t ht q hq)
   ·exact h5
  cases l1 with
  | nil =>
   obtain ⟨_, o', ho', h⟩ := h
   rw [ho] at ho'; cases ho'
   rcases h with ⟨h1, _⟩ | ⟨h1, h2, h3, _, h4⟩ | ⟨h1, h2, h3⟩
   ·omega
   ·have hg := h3 (by omega)
    rw [hd] at h4
    exact ⟨hg, ud hg (Nx hnl) h4⟩
   ·rw [hd] at h3
    exact ⟨v5 h2, ud (v5 h2) (Nx hnl) h3⟩
  | cons q l1 =>
   obtain ⟨kq, j⟩ := q
   obtain ⟨_, oq, hoq, h⟩ := h
   have hop' : ∀ t, .tmp t ∈ o.op.operands.toList → ∀ q ∈ l1 ++ (k, i) :: l2, cY ops q.2 ≠ some t := fun t ht q hq => hop t ht q (by simp only [List.cons_append, List.mem_cons]; exact .inr hq)
   have hdq : ∀ t, .tmp t ∈ o.op.operands.toList → oq.dst ≠ some t := fun t ht e => hop t ht (kq, j) (by simp) (by simp [cY, hoq, e])
   have back : ∀ s', Kd oq.dst s s' → (gB o.op = true ∧ ∃ v ob, vE C FT d o.op s' v ob) → gB o.op = true ∧ ∃ v ob, vE C FT d o.op s v ob := by
    rintro s' hkd ⟨hg, v, ob, hG⟩
    refine ⟨hg, v, ob, hG.same fun x hx => ?_⟩
    symm
    exact Ju hkd fun t e => by subst e; exact ⟨hdq t hx, hnl t hx⟩
   rcases h with ⟨h1, c, v, h3, h4, h5⟩ | ⟨h1, h2, h3, _, h4⟩ | ⟨h1, h2, h3⟩
   ·have := wY ho hd hk h5 hop'
    exact back _ ((Kp.bh s).put oq.dst v) this
   ·apply Classical.byContradiction
    intro hno
    refine pb (gJ (r1 := ()) (K1 := fun _ => (none : Option Unit)) (fun s' hkd h' => ?_) h4)
    exact absurd (back s' hkd (wY ho hd hk (gp h') hop')) hno
   ·apply Classical.byContradiction
    intro hno
    refine pb (gJ (r1 := ()) (K1 := fun _ => (none : Option Unit)) (fun s' hkd h' => ?_) h3)
    obtain ⟨s2, g1, g2⟩ := gp h'
    exact absurd (back s2 (hkd.kp (qq g1)) (wY ho hd hk g2 hop')) hno
termination_by l1 => l1.length
def vM (d : Nat) : Nat → Bool := fun n => n == d
theorem mq {d n : Nat} (h : n ≠ d) : vM d n = false := by simp [vM, h]
theorem CW {d n : Nat} (h : vM d n = false) : n ≠ d := by simpa [vM] using h
theorem CU {d n : Nat} (h : vM d n = true) : n = d := by simpa [vM] using h
abbrev NI (d : Nat) (x : SV) (ob : Option SO) (s s1 : SS) : Prop := Ext (vM d) (vM d) (some x) ob s s1
theorem Ext.uniq {x : SV} {ob : Option SO} {s a b : SS} (h : NI d x ob s a) (h' : NI d x ob s b) : wW a b :=
 .of (fun t => by
  cases hk : vM d t with
  | false => rw [h'.env t hk, h.env t hk]
  | true => rw [h'.at_ t x hk rfl, h.at_ t x hk rfl]) fun n => by rw [h'.obj, h.obj]
def zl (d : Nat) (v : SV) (ob : SO) (s : SS) : SS := ⟨(d, v) :: cD (aw d) s.env, (d, ob) :: az (aw d) s.objs⟩
theorem xl {v : SV} {ob : SO} (h : Cl d s) : NI d v (some ob) s (zl d v ob s) := by
 refine ⟨fun t ht => ?_, fun t y ht hy => ?_, fun n => ?_, fun n hn => by rw [CU hn]; exact h.no⟩
 ·have e := CW ht
  simp only [zl, cr]
  rw [if_neg (Ne.symm e), dw _ (eR d).any, (eR d).sv (h.env t)]
 ·have e := CU ht
  subst e; cases hy
  simp [zl, cr]
 ·simp only [zl, ad]
  by_cases e : d = n
  ·subst e; simp [vM]
  ·rw [if_neg e, mq (Ne.symm e), cZ]
   simp only [Bool.false_eq_true, if_false]
   cases hl : ad n s.objs with
   | none => rfl
   | some o => simp only [Option.map_some]; rw [(eR d).so fun cs e => h.obj n cs (by rw [hl, e])]
theorem El {v : SV} {ts : cf} {l : List ts.T} (h : Cl d s) : ∃ s2, db d (zl d v (.arr ts l) s) = some s2 ∧ NI d (dk (jP d ts l) v) none s s2 := by
 have e1 := xl (v := v) (ob := .arr ts l) h
 have hl : ad d (zl d v (.arr ts l) s).objs = some (.arr ts l) := by simp [zl, ad]
 refine ⟨_, by unfold db; rw [hl], fun t ht => ?_, fun t y ht hy => ?_, fun n => ?_, fun n hn => by rw [CU hn]; exact h.no⟩
 ·simp only
  rw [dw _ (jC d ts l).any, e1.env t ht]
  exact (jC d ts l).sv (h.env t)
 ·cases hy
  simp only
  rw [dw _ (jC d ts l).any, e1.at_ t v ht rfl]
 ·simp only
  rw [cZ]
  by_cases e : d = n
  ·subst e; rw [lC]; simp [vM]
  ·rw [dX e, e1.obj, mq (Ne.symm e)]
   simp only [Bool.false_eq_true, if_false]
   cases hl : ad n s.objs with
   | none => rfl
   | some o => simp only [Option.map_some]; rw [(jC d ts l).so fun cs e => h.obj n cs (by rw [hl, e])]
theorem KQ {m d : Nat} {ts : cf} {l : List ts.T} {x : SV} (h : eP m x = true) : eP m (dk (jP d ts l) x) = true := (KT.of (T := fun n => n = d) (jC d ts l) (fun _ _ h => Iq h) rfl).Xh h
variable {k i d : Nat} {o : Oper} {l2 : List (Nat × Nat)} {v x : SV} {ob : SO} {obz : Option SO}
theorem HQ (hd : ∀ p : Nat × Nat, p.2 = i → cY ops p.2 = some d) (hd9 : d ≠ 999998) (hz : Eb (vM d) (some x) obz)
  (hfin : ∀ dn s s1, NI d x obz s s1 → vE C FT d o.op s v ob → WX C FT ops Q dn ((k, i) :: l2) s → WX C FT ops Q dn l2 s1) :
  ∀ (l1 : List (Nat × Nat)) {dn : List Nat} {s s1 : SS}, WX C FT ops Q dn (l1 ++ (k, i) :: l2) s → NI d x obz s s1 → vE C FT d o.op s v ob → (∀ t, .tmp t ∈ o.op.operands.toList → gu (s.get C.N t) = true) →
  (∀ j ∈ dn, ∀ oq, ops[j]? = some oq → (∀ y ∈ oq.op.operands.toList, gG (vM d) y = true) ∧ oq.dst ≠ some d) →
  (∀ q ∈ l1, ∀ oq, ops[q.2]? = some oq → (∀ y ∈ oq.op.operands.toList, gG (vM d) y = true) ∧ oq.dst ≠ some d) → (∀ p ∈ l1 ++ l2, cY ops p.2 ≠ some d) →
  (∀ t, .tmp t ∈ o.op.operands.toList → ∀ q ∈ l1, cY ops q.2 ≠ some t) →
  (gu x = true ∨ ∀ p ∈ l1 ++ l2, 4 ≤ p.1 → ∀ op, ops[p.2]? = some op → .tmp d ∉ op.op.operands.toList) → WX C FT ops Q dn (l1 ++ l2) s1
 | [], dn, s, s1, h, he, hG, _, _, _, _, _, _ => hfin dn s s1 he hG h
 | (kq, j) :: l1, dn, s, s1, h, he, hG, hnl, hcd, hcl, hdd, hop, hfl => by
  obtain ⟨hf, oq, hoq, h⟩ := h
  have hoff : ∀ y ∈ oq.op.operands.toList, gG (vM d) y = true := (hcl (kq, j) (List.mem_cons_self ..) oq hoq).1
  have hdq : ∀ t, oq.dst = some t → vM d t = false := fun t e => mq fun e2 => hdd (kq, j) (by simp) (by simp [cY, hoq, e, e2])
  have hsev : ∀ y ∈ oq.op.operands.toList, aq C s1 y = aq C s y := fun y hy => he.aq (hoff y hy)
  have ih := fun {dn' : List Nat} {s' s1' : SS} (h' : WX C FT ops Q dn' (l1 ++ (k, i) :: l2) s') (he' : NI d x obz s' s1') (hkd : Kd oq.dst s s') (hcd' : ∀ j ∈ dn', ∀ oq, ops[j]? = some oq → (∀ y ∈ oq.op.operands.toList, gG (vM d) y = true) ∧ oq.dst ≠ some d) => by
   have hdo : ∀ t, .tmp t ∈ o.op.operands.toList → oq.dst ≠ some t := fun t ht e => hop t ht (kq, j) (List.mem_cons_self ..) (by simp [cY, hoq, e])
   have hsv : ∀ y ∈ o.op.operands.toList, aq C s' y = aq C s y := fun y hy => Ju hkd fun t e => by subst e; exact ⟨hdo t hy, hnl t hy⟩
   refine HQ hd hd9 hz hfin l1 h' he' (hG.same hsv) (fun t ht => ?_) hcd' (fun q hq => hcl q (List.mem_cons_of_mem _ hq)) (fun p hp => hdd p (List.mem_cons_of_mem _ hp)) (fun t ht q hq => hop t ht q (List.mem_cons_of_mem _ hq)) ?_
   ·have := hsv (.tmp t) ht
    simp only [aq] at this
    rw [this]; exact hnl t ht
   ·rcases hfl with h | h
    ·exact .inl h
    ·exact .inr fun p hp => h p (List.mem_cons_of_mem _ hp)
  refine ⟨fun p hp hk => ?_, oq, hoq, ?_⟩
  ·have hp' : p ∈ (kq, j) :: l1 ++ l2 := hp
   have hp2 : p ∈ (kq, j) :: (l1 ++ (k, i) :: l2) := by
    simp only [List.cons_append, List.mem_cons, List.mem_append] at hp' ⊢
    rcases hp' with h | h | h
    ·exact .inl h
    ·exact .inr (.inl h)
    ·exact .inr (.inr (.inr h))
   obtain ⟨op, dp, h1, h2, h3, h4⟩ := hf p hp2 hk
   have hne : dp ≠ d := fun e => hdd p hp' (by simp [cY, h1, h2, e])
   refine ⟨op, dp, h1, h2, h3.ext he hz (mq hne) (fun _ _ h => by cases h), fun t ht => ?_⟩
   by_cases e : t = d
   ·subst e
    rcases hfl with hx | hx
    ·refine .inr ?_
     unfold SS.get
     split
     ·rw [he.at_ t x (by simp [vM]) rfl]; exact hx
     ·rfl
    ·exact absurd ht (hx p hp' hk op h1)
   ·rcases h4 t ht with ⟨q, hq, hqt⟩ | h5
    ·refine .inl ⟨q, ?_, hqt⟩
     have hq : q ∈ (kq, j) :: (l1 ++ (k, i) :: l2) := hq
     show q ∈ (kq, j) :: (l1 ++ l2)
     simp only [List.mem_cons, List.mem_append] at hq ⊢
     rcases hq with h | h | h | h
     ·exact .inl h
     ·exact .inr (.inl h)
     ·exfalso
      have := hd q (by rw [h])
      rw [this] at hqt
      cases hqt; exact e rfl
     ·exact .inr (.inr h)
    ·refine .inr ?_
     rw [he.get (mq e)]; exact h5
  ·rcases h with ⟨h1, c, w, h3, h4, h5⟩ | ⟨h1, h2, h3, hst, h4⟩ | ⟨h1, h2, h3⟩
   ·refine .inl ⟨h1, c, w, AH he.up hsev h3, h4, ih h5 (he.put hdq w) ((Kp.bh s).put oq.dst w) fun j' hj' => ?_⟩
    rcases List.mem_cons.1 hj' with rfl | hj'
    ·exact hcl (kq, j') (List.mem_cons_self ..)
    ·exact hcd j' hj'
   ·refine .inr (.inl ⟨h1, h2, h3, fun hk j' hj' => ?_, ?_⟩)
    ·refine (hst hk j' hj').imp id fun ⟨oj, tj, h5, h7, h6⟩ => ⟨oj, tj, h5, h7, fun m hm => ?_⟩
     rw [yL hsev] at hm
     obtain ⟨g1, g2⟩ := hcd j' hj' oj h5
     refine ⟨?_, fun y hy => ?_⟩
     ·rw [he.env tj (mq fun e => g2 (by rw [h7, e]))]; exact (h6 m hm).1
     ·rw [he.aq (g1 y hy)]; exact (h6 m hm).2 y hy
    ·have h4' := gJ (r1 := ()) (K1 := fun s' => PK (Kd oq.dst s s' ∧ WX C FT ops Q dn (l1 ++ (k, i) :: l2) s')) (fun s' hkd h' => iD ⟨hkd, gp h'⟩) h4
     exact pa he hz hoff hdq hdq (mq (Ne.symm hd9)) (fun s' s1' e' h' => iD (ih (gp h').2 e' (gp h').1 hcd)) h4'
   ·refine .inr (.inr ⟨h1, h2, ?_⟩)
    have h3' := gJ (r1 := ()) (K1 := fun s' => PK (Kd oq.dst s s' ∧ ∃ s2, db (oq.dst.getD 999998) s' = some s2 ∧ WX C FT ops Q dn (l1 ++ (k, i) :: l2) s2)) (fun s' hkd h' => iD ⟨hkd, gp h'⟩) h3
    refine pa he hz hoff hdq hdq (mq (Ne.symm hd9)) (fun s' s1' e' h' => iD ?_) h3'
    obtain ⟨hkd, s2, g1, g2⟩ := gp h'
    obtain ⟨s3, g3, g4⟩ := Ext.freeze e' hz g1
    exact ⟨s3, g3, ih g2 g4 (hkd.kp (qq g1)) hcd⟩
theorem wk {dn : List Nat} {p : Nat × Nat} (h : WX C FT ops Q dn (l1 ++ p :: l2) s) : SM C ops (l1 ++ p :: l2) s := by
 cases l1 with | nil => exact h.1 | cons a l => exact h.1
theorem HP (ho : ops[i]? = some o) (hd : o.dst = some d) (hk : 4 ≤ k) (hd9 : d ≠ 999998) (h : WX C FT ops Q [] (l1 ++ (k, i) :: l2) s)
  (hcl : ∀ q ∈ l1, ∀ oq, ops[q.2]? = some oq → (∀ y ∈ oq.op.operands.toList, gG (vM d) y = true) ∧ oq.dst ≠ some d) (hdd : ∀ p ∈ l1 ++ l2, cY ops p.2 ≠ some d)
  (hop : ∀ t, .tmp t ∈ o.op.operands.toList → ∀ q ∈ l1 ++ (k, i) :: l2, cY ops q.2 ≠ some t)
  (hfl : k = 5 ∨ ∀ p ∈ l1 ++ l2, 4 ≤ p.1 → ∀ op, ops[p.2]? = some op → .tmp d ∉ op.op.operands.toList) :
  gB o.op = true ∧ lS C FT false s o.dst o.op (fun s' => PK (∃ s2, (s' = s2 ∨ db d s' = some s2) ∧ WX C FT ops Q [] (l1 ++ l2) s2)) = some () := by
 obtain ⟨hg, v, ob, hG⟩ := wY ho hd hk h hop
 refine ⟨hg, ?_⟩
 obtain ⟨o', d', h1, h2, hcl0, h4⟩ := wk h (k, i) (by simp) hk
 rw [ho] at h1; cases h1
 rw [hd] at h2; cases h2
 have hnl : ∀ t, .tmp t ∈ o.op.operands.toList → gu (s.get C.N t) = true := fun t ht => by
  rcases h4 t ht with ⟨q, hq, hqt⟩ | h5
  ·exact absurd hqt (hop t ht q hq)
  ·exact h5
 have hdj : ∀ p : Nat × Nat, p.2 = i → cY ops p.2 = some d := fun p e => by simp [cY, e, ho, hd]
 have hcln : ∀ dn s, WX C FT ops Q dn ((k, i) :: l2) s → Cl d s := fun dn s h => by
  obtain ⟨o', d', h1, h2, h3, _⟩ := h.1 (k, i) (List.mem_cons_self ..) hk
  rw [ho] at h1; cases h1
  rw [hd] at h2; cases h2
  exact h3
 rw [hd, hG.run s (fun _ _ => rfl) hcl0.no]
 refine iD ?_
 by_cases h5 : k = 5
 ·subst h5
  have hbs : GQ o.op = true := by
   apply Classical.byContradiction
   intro hno
   have key : ∀ (l1 : List (Nat × Nat)) (dn : List Nat) (s : SS), WX C FT ops Q dn (l1 ++ (5, i) :: l2) s → False := by
    intro l1
    induction l1 with
    | nil =>
     intro dn s h
     obtain ⟨_, o', ho', h⟩ := h
     rw [ho] at ho'; cases ho'
     rcases h with ⟨h1, _⟩ | ⟨_, h2, _⟩ | ⟨_, h2, _⟩
     ·omega
     ·exact h2 rfl
     ·exact hno h2
    | cons q l1 ih =>
     intro dn s h
     obtain ⟨_, oq, _, h⟩ := h
     rcases h with ⟨_, c, w, _, _, h5⟩ | ⟨_, _, _, _, h4⟩ | ⟨_, _, h3⟩
     ·exact ih _ _ h5
     ·exact pb (gJ (r1 := ()) (K1 := fun _ => (none : Option Unit)) (fun s' _ h' => (ih _ s' (gp h')).elim) h4)
     ·refine pb (gJ (r1 := ()) (K1 := fun _ => (none : Option Unit)) (fun s' _ h' => ?_) h3)
      obtain ⟨s2, _, g2⟩ := gp h'
      exact (ih _ s2 g2).elim
   exact key l1 _ s h
  obtain ⟨ts, l, rfl, rfl⟩ := hG.arr hbs
  obtain ⟨s2, g1, g2⟩ := El (v := .v (.c (.own d))) (ts := ts) (l := l) hcl0
  refine ⟨s2, .inr g1, HQ (x := dk (jP d ts l) (.v (.c (.own d)))) (obz := none) hdj hd9 (fun m hm => ⟨fun y e => by cases e; exact KQ (hG.TB m (CW hm)), fun cs e => by cases e⟩) (fun dn s s1 he hG' h => ?_) l1 h g2 hG hnl (fun _ h => by cases h) hcl hdd (fun t ht q hq => hop t ht q (List.mem_append_left _ hq)) ?_⟩
  ·have hc := hcln dn s h
   obtain ⟨_, o', ho', h⟩ := h
   rw [ho] at ho'; cases ho'
   rcases h with ⟨h1, _⟩ | ⟨_, h2, _⟩ | ⟨_, _, h3⟩
   ·omega
   ·exact absurd rfl h2
   ·rw [hd, hG'.run s (fun _ _ => rfl) hc.no] at h3
    obtain ⟨s3, e1, e2⟩ := gp h3
    obtain ⟨s4, e3, e4⟩ := El (v := .v (.c (.own d))) (ts := ts) (l := l) hc
    have : s3 = s4 := by
     have e1' : db d (zl d (.v (.c (.own d))) (.arr ts l) s) = some s3 := e1
     rw [e3] at e1'; cases e1'; rfl
    subst this
    exact e2.eqv (e4.uniq he)
  ·exact hfl.elim (fun _ => .inl (by simp [dk, eG, jP, gu, zL, qz])) .inr
 ·refine ⟨_, .inl rfl, HQ (x := v) (obz := some ob) hdj hd9 (fun m hm => ⟨fun y e => by cases e; exact hG.TB m (CW hm), fun cs e => hG.Xj m cs (by cases e; rfl)⟩) (fun dn s s1 he hG' h => ?_) l1 h (xl hcl0) hG hnl (fun _ h => by cases h) hcl hdd (fun t ht q hq => hop t ht q (List.mem_append_left _ hq)) (.inr (hfl.resolve_left h5))⟩
  have hc := hcln dn s h
  obtain ⟨_, o', ho', h⟩ := h
  rw [ho] at ho'; cases ho'
  rcases h with ⟨h1, _⟩ | ⟨_, _, _, _, h4⟩ | ⟨h3, _⟩
  ·omega
  ·rw [hd, hG'.run s (fun _ _ => rfl) hc.no] at h4
   exact (gp h4).eqv ((xl hc).uniq he)
  ·exact absurd h3 h5
end
end Go.Abs
namespace Go.Abs
open Go.RowKit
variable {s : SS} {d : Option Tmp}
section
variable {C : eN} {FT : List (Nat × Entry)} {ops : Array Oper} {Q : SS → Prop}
theorem wW.swap {a b : Option Tmp} {v w : SV} (h : ∀ t, a = some t → b ≠ some t) : wW ((s.put a v).put b w) ((s.put b w).put a v) := by
 cases a with
 | none => exact .bh _
 | some a =>
  cases b with
  | none => exact .bh _
  | some b =>
   have hab : a ≠ b := fun e => h a rfl (by rw [e])
   refine .of (fun t => ?_) fun _ => rfl
   simp only [SS.put, cr]
   by_cases e : a = t
   ·subst e; simp [Ne.symm hab]
   ·by_cases e2 : b = t
    ·subst e2; simp [hab]
    ·simp [e, e2]
theorem PR {v : SV} : Up s.objs (s.put d v).objs := by cases d <;> exact fun _ _ h => h
theorem Nc {v : SV} : Up (s.put d v).objs s.objs := by cases d <;> exact fun _ _ h => h
theorem kI (s : SS) (d : Option Tmp) (v : SV) : (s.put d v).objs = s.objs := by cases d <;> rfl
theorem gg (s : SS) (d : Option Tmp) (v : SV) (t : Nat) : cr (s.put d v).env t = if d = some t then v else cr s.env t := by
 cases d with
 | none => simp [SS.put]
 | some d =>
  simp only [SS.put, cr, Option.some.injEq]
theorem uP {N : Nat} {v : SV} {t : Nat} (h : d ≠ some t) : (s.put d v).get N t = s.get N t := by
 unfold SS.get; rw [gg, if_neg h]
theorem Cl.put {d : Nat} (h : Cl d s) {t : Option Tmp} {v : SV} (hv : t ≠ none → eP d v = true) : Cl d (s.put t v) :=
 ⟨by rw [kI]; exact h.no, fun t' => by
  rw [gg]; split
  ·rename_i e; exact hv (by rw [e]; simp)
  ·exact h.env t', fun n cs hn => h.obj n cs (by rw [kI] at hn; exact hn)⟩
variable {k i : Nat} {o : Oper} {l2 : List (Nat × Nat)}
structure vU (ops : Array Oper) (q : Nat × Nat) (o : Oper) : Prop where
 here : ∃ oq, ops[q.2]? = some oq
 a : ∀ oq t, ops[q.2]? = some oq → oq.dst = some t → .tmp t ∉ o.op.operands.toList
 b : ∀ oq t, ops[q.2]? = some oq → o.dst = some t → .tmp t ∉ oq.op.operands.toList
 c : ∀ oq t, ops[q.2]? = some oq → o.dst = some t → oq.dst ≠ some t
structure BS (ops : Array Oper) (q : Nat × Nat) (o : Oper) : Prop where
 b : ∀ oq t, ops[q.2]? = some oq → o.dst = some t → .tmp t ∉ oq.op.operands.toList
 c : ∀ oq t, ops[q.2]? = some oq → o.dst = some t → oq.dst ≠ some t
theorem Ea (ho : ops[i]? = some o) (hk : k < 2) : ∀ (rs : List (Nat × Nat)) {dn : List Nat} {s : SS}, (∀ q ∈ rs, q.1 < 2) → (∀ q ∈ rs, vU ops q o) → WX C FT ops Q dn (rs ++ (k, i) :: l2) s →
  ∃ c v, sR C s o.op = some (c, v) ∧ gy c ∧ WX C FT ops Q dn (rs ++ l2) (s.put o.dst v)
 | [], dn, s, _, _, h => by
  obtain ⟨_, o', ho', h⟩ := h
  rw [ho] at ho'; cases ho'
  rcases h with ⟨_, c, v, h3, h4, h5⟩ | ⟨h1, _⟩ | ⟨h1, _⟩
  ·exact ⟨c, v, h3, h4, h5.mono fun j hj => List.mem_cons_of_mem _ hj⟩
  ·omega
  ·omega
 | (kq, j) :: rs, dn, s, hr, ha, h => by
  obtain ⟨hf, oq, hoq, h⟩ := h
  have hkq : kq < 2 := hr (kq, j) (List.mem_cons_self ..)
  obtain ⟨_, a1, a2, a3⟩ := ha (kq, j) (List.mem_cons_self ..)
  rcases h with ⟨_, cq, vq, h3, h4, h5⟩ | ⟨h1, _⟩ | ⟨h1, _⟩
  ·obtain ⟨c, v, g1, g2, g3⟩ := Ea ho hk rs (fun q hq => hr q (List.mem_cons_of_mem _ hq)) (fun q hq => ha q (List.mem_cons_of_mem _ hq)) h5
   have hx : ∀ y ∈ o.op.operands.toList, aq C s y = aq C (s.put oq.dst vq) y := fun y hy => (xV fun t e ht => a1 oq t hoq ht (by subst e; exact hy)).symm
   have hq : ∀ y ∈ oq.op.operands.toList, aq C (s.put o.dst v) y = aq C s y := fun y hy => xV fun t e ht => a2 oq t hoq ht (by subst e; exact hy)
   refine ⟨c, v, AH Nc hx g1, g2, fun p hp hp4 => ?_, oq, hoq, .inl ⟨hkq, cq, vq, AH PR hq h3, h4, g3.eqv (wW.swap fun t e1 e2 => a3 oq t hoq e2 e1)⟩⟩
   have hpl : p ∈ l2 := by
    have hp : p ∈ (kq, j) :: (rs ++ l2) := hp
    simp only [List.mem_cons, List.mem_append] at hp
    rcases hp with rfl | hp | hp
    ·simp at hp4; omega
    ·have := hr p (List.mem_cons_of_mem _ hp); omega
    ·exact hp
   obtain ⟨l3, l4, hsp⟩ := List.append_of_mem hpl
   have g4 := wk (l1 := rs ++ l3) (p := p) (l2 := l4) (by rw [List.append_assoc, ← hsp]; exact g3)
   obtain ⟨op, dp, e1, e2, e3, e4⟩ := g4 p (by simp) hp4
   obtain ⟨op', dp', f1, f2, f3, _⟩ := hf p (by simp [hpl]) hp4
   rw [e1] at f1; cases f1
   rw [e2] at f2; cases f2
   refine ⟨op, dp, e1, e2, f3.put fun ht => ?_, fun t ht => ?_⟩
   ·obtain ⟨t, ht⟩ := Option.ne_none_iff_exists'.1 ht
    have := e3.env t
    rw [gg, if_pos ht] at this
    exact this
   ·rcases e4 t ht with ⟨q, hq, hqt⟩ | h7
    ·refine .inl ⟨q, ?_, hqt⟩
     have hq' : q ∈ (rs ++ l3) ++ p :: l4 := hq
     rw [List.append_assoc, ← hsp] at hq'
     exact List.mem_cons_of_mem _ hq'
    ·by_cases ed : oq.dst = some t
     ·exact .inl ⟨(kq, j), List.mem_cons_self .., by simp [cY, hoq, ed]⟩
     ·refine .inr ?_
      by_cases ex : o.dst = some t
      ·unfold SS.get at h7 ⊢
       split
       ·rename_i hN
        rw [if_pos hN, gg, if_pos ex] at h7
        rw [gg, if_pos ex]; exact h7
       ·rfl
      ·rw [uP ex, uP ed] at h7
       rw [uP ex]; exact h7
  ·omega
  ·omega
def Rd (C : eN) (ops : Array Oper) (T : Op → List Nat) : List (Nat × Nat) → SS → SS → Prop
 | [], s, s' => s = s'
 | (k, j) :: rs, s, s' => k < 2 ∧ ∃ oq c v, ops[j]? = some oq ∧ sR C s oq.op = some (c, v) ∧ gy c ∧ (oq.dst ≠ none ∧ ∀ m ∈ T oq.op, eP m v = true) ∧ (∀ m ∈ T oq.op, ∀ y ∈ oq.op.operands.toList, eP m (aq C s y) = true) ∧ Rd C ops T rs (s.put oq.dst v) s'
theorem Rd.lk {T : Op → List Nat} : ∀ {rs : List (Nat × Nat)} {s s' : SS}, Rd C ops T rs s s' → (∀ n, ad n s'.objs = ad n s.objs) ∧ ∀ t, (∀ q ∈ rs, cY ops q.2 ≠ some t) → cr s'.env t = cr s.env t
 | [], s, s', h => by cases h; exact ⟨fun _ => rfl, fun _ _ => rfl⟩
 | (k, j) :: rs, s, s', ⟨_, oq, c, v, h1, _, _, _, _, h6⟩ => by
  obtain ⟨a, b⟩ := Rd.lk h6
  refine ⟨fun n => by rw [a, kI], fun t ht => ?_⟩
  rw [b t fun q hq => ht q (List.mem_cons_of_mem _ hq), gg, if_neg fun e => ht (k, j) (List.mem_cons_self ..) (by simp [cY, h1, e])]
theorem Ni (ho : ops[i]? = some o) (hk2 : 2 ≤ k) (hk4 : k < 4) {T : Op → List Nat} : ∀ (rs : List (Nat × Nat)) {dn : List Nat} {s : SS}, (∀ q ∈ rs, q.1 < 2) → (∀ q ∈ rs, vU ops q o) → rs.Pairwise (fun q p => ∀ op, ops[p.2]? = some op → BS ops q op) →
  (∀ q ∈ rs, reach ops 3 i q.2 = false) → (∀ q ∈ rs, ∀ oq t, ops[q.2]? = some oq → oq.dst = some t → .tmp t ∉ oq.op.operands.toList) → T = Nb C s o → WX C FT ops Q dn (rs ++ (k, i) :: l2) s →
  ∃ s' dn', Rd C ops T rs s s' ∧ (∀ j ∈ dn, j ∈ dn') ∧ (∀ q ∈ rs, q.2 ∈ dn') ∧ WX C FT ops Q dn' ((k, i) :: l2) s' ∧ (∀ y ∈ o.op.operands.toList, aq C s' y = aq C s y) ∧
   ∀ j ∈ dn, reach ops 3 i j = true ∨ Sb C ops s' T j
 | [], dn, s, _, _, _, _, _, hT, h => by
  refine ⟨s, dn, rfl, fun _ h => h, fun _ h => (by cases h), h, fun _ _ => rfl, ?_⟩
  obtain ⟨_, o', ho', h⟩ := h
  rw [ho] at ho'; cases ho'
  rcases h with ⟨h1, _⟩ | ⟨_, _, _, hst, _⟩ | ⟨h1, _⟩
  ·omega
  ·rw [hT]; exact hst hk4
  ·omega
 | (kq, j) :: rs, dn, s, hr, ha, hpw, hrc, hse, hT, h => by
  obtain ⟨hf, oq, hoq, h⟩ := h
  have hkq : kq < 2 := hr (kq, j) (List.mem_cons_self ..)
  obtain ⟨_, a1, a2, a3⟩ := ha (kq, j) (List.mem_cons_self ..)
  have hpw2 := List.pairwise_cons.1 hpw
  rcases h with ⟨_, cq, vq, h3, h4, h5⟩ | ⟨h1, _⟩ | ⟨h1, _⟩
  ·have hx : ∀ y ∈ o.op.operands.toList, aq C (s.put oq.dst vq) y = aq C s y := fun y hy => xV fun t e ht => a1 oq t hoq ht (by subst e; exact hy)
   obtain ⟨s', dn', g1, g2, g3, g4, g5, g6⟩ := Ni ho hk2 hk4 (T := T) rs (fun q hq => hr q (List.mem_cons_of_mem _ hq)) (fun q hq => ha q (List.mem_cons_of_mem _ hq)) hpw2.2 (fun q hq => hrc q (List.mem_cons_of_mem _ hq)) (fun q hq => hse q (List.mem_cons_of_mem _ hq)) (by rw [hT, yL hx]) h5
   have hlk := g1.lk
   have hst : Sb C ops s' T j := (g6 j (List.mem_cons_self ..)).resolve_left (by rw [hrc (kq, j) (List.mem_cons_self ..)]; simp)
   obtain ⟨oj, tj, e1, e0, e2⟩ := hst
   rw [hoq] at e1; cases e1
   have hrest : ∀ t, (oq.dst = some t ∨ .tmp t ∈ oq.op.operands.toList) → ∀ q ∈ rs, cY ops q.2 ≠ some t := fun t ht q hq e => by
    obtain ⟨op, hop⟩ := (ha q (List.mem_cons_of_mem _ hq)).here
    have hA := hpw2.1 q hq op hop
    have hpd : op.dst = some t := by simpa [cY, hop] using e
    rcases ht with h | h
    ·exact hA.c oq t hoq hpd h
    ·exact hA.b oq t hoq hpd h
   refine ⟨s', dn', ⟨hkq, oq, cq, vq, hoq, h3, h4, ⟨by rw [e0]; simp, fun m hm => ?_⟩, fun m hm y hy => ?_, g1⟩, fun j' hj' => g2 j' (List.mem_cons_of_mem _ hj'), fun q hq => ?_, g4, fun y hy => (g5 y hy).trans (hx y hy), fun j' hj' => g6 j' (List.mem_cons_of_mem _ hj')⟩
   ·have := (e2 m hm).1
    rw [hlk.2 tj (hrest tj (.inl e0)), gg, if_pos e0] at this
    exact this
   ·have h8 := (e2 m hm).2 y hy
    have : aq C s' y = aq C s y := by
     cases y with
     | tmp t =>
      simp only [aq, SS.get]
      rw [hlk.2 t (hrest t (.inr hy)), gg, if_neg fun e => hse (kq, j) (List.mem_cons_self ..) oq t hoq e hy]
     | _ => rfl
    rw [this] at h8; exact h8
   ·rcases List.mem_cons.1 hq with rfl | hq
    ·exact g2 j (List.mem_cons_self ..)
    ·exact g3 q hq
  ·omega
  ·omega
theorem Gn.VJ {T E : Nat → Prop} {dst d : Option Tmp} {s s' : SS} (h : Gn T E dst s s') (v : SV) : Gn T E dst (s.put d v) (s'.put d v) :=
 ⟨fun t ht hc => by
  rw [gg, gg]; split
  ·rfl
  ·rename_i e; rw [gg, if_neg e] at hc; exact h.same t ht hc, fun t m ht hc => by
  rw [gg] at hc ⊢; split
  ·rename_i e; rw [if_pos e] at hc; exact hc
  ·rename_i e; rw [if_neg e] at hc; exact h.cl t m ht hc, by
  obtain ⟨κ, h1, h2⟩ := h.obj
  exact ⟨κ, h1, fun n hn => by rw [kI, kI]; exact h2 n hn⟩⟩
theorem yV {T : Op → List Nat} {TS TE : List Nat} (hTT : ∀ op, (∃ x, op = .move x ∧ T op = TE) ∨ T op = TS) (hES : ∀ m ∈ TE, m ∈ TS) {dn2 : List Nat} {s2 : SS} (h2 : WX C FT ops Q dn2 l2 s2) {sE : SS} (hfE : Gn (· ∈ TS) (· ∈ TE) o.dst sE s2) :
  ∀ (rs : List (Nat × Nat)) {dn : List Nat} {s s1 : SS}, (∀ q ∈ rs, q.1 < 2) → (∀ q ∈ rs, vU ops q o) → rs.Pairwise (fun q p => ∀ op, ops[p.2]? = some op → BS ops q op) → Rd C ops T rs s sE → Gn (· ∈ TS) (· ∈ TE) o.dst s s1 →
   (∀ t, (∀ q ∈ rs, cY ops q.2 ≠ some t) → cr s1.env t = cr s2.env t) → (∀ n, ad n s1.objs = ad n s2.objs) →
   (∀ p ∈ l2, 4 ≤ p.1 → ∀ op dp, ops[p.2]? = some op → op.dst = some dp → ∀ t, eP dp (cr s1.env t) = true) → (∀ j ∈ dn, j ∈ dn2) → (∀ q ∈ rs, q.2 ∈ dn2) → WX C FT ops Q dn (rs ++ l2) s1
 | [], dn, s, s1, _, _, _, _, _, he, ho', _, hdn, _ => (h2.eqv (.of (fun t => he t (fun _ h => by cases h)) ho')).mono hdn
 | (kq, j) :: rs, dn, s, s1, hr, ha, hpw, hrd, hfp, he, ho', hcl, hdn, hrs => by
  obtain ⟨hkq, oq, c, v, hoq, h3, h4, h5, h6, h7⟩ := hrd
  obtain ⟨_, a1, a2, a3⟩ := ha (kq, j) (List.mem_cons_self ..)
  have hpw2 := List.pairwise_cons.1 hpw
  have hEq : ∀ m ∈ TE, m ∈ T oq.op := fun m hm => by
   rcases hTT oq.op with ⟨_, _, e⟩ | e
   ·rw [e]; exact hm
   ·rw [e]; exact hES m hm
  have hsev : ∀ y ∈ oq.op.operands.toList, aq C s1 y = aq C s y := fun y hy => by
   cases y with
   | tmp t =>
    have hne : o.dst ≠ some t := fun e => a2 oq t hoq e hy
    simp only [aq, SS.get]
    split
    ·rename_i hN
     refine hfp.same t hne fun m hm => ?_
     have := h6 m (hEq m hm) _ hy
     simp only [aq, SS.get, if_pos hN] at this
     exact this
    ·rfl
   | _ => rfl
  obtain ⟨κ, hκ, hκo⟩ := hfp.obj
  have hrd' : sR C s1 oq.op = some (c, v) := by
   rcases hTT oq.op with ⟨x, ex, _⟩ | eT
   ·rw [ex] at h3 hsev ⊢
    simp only [sR] at h3 ⊢
    rw [hsev x (by simp [Op.operands])]; exact h3
   ·have hN : ∀ y ∈ oq.op.operands.toList, oz (fun n => ¬ n ∈ TS) (aq C s y) := fun y hy d hd => h6 d (by rw [eT]; exact Classical.not_not.1 hd) y hy
    have hup : Gq (fun n => ¬ n ∈ TS) κ s.objs s1.objs := fun n o hn hl => by rw [hκo n hn, hl]; rfl
    exact R4 hup hκ.k hsev hN (hκ.sv fun m hm => h5.2 m (hEq m hm)) h3
  obtain ⟨tq, htq⟩ := Option.ne_none_iff_exists'.1 h5.1
  have hdq : ∀ q ∈ rs, cY ops q.2 ≠ some tq := fun q hq e => by
   obtain ⟨op, hop⟩ := (ha q (List.mem_cons_of_mem _ hq)).here
   exact (hpw2.1 q hq op hop).c oq tq hoq (by simpa [cY, hop] using e) htq
  have hv2 : cr s2.env tq = v := by
   have e1 : cr sE.env tq = v := by rw [h7.lk.2 tq hdq, gg, if_pos htq]
   rw [hfE.same tq (fun e => a3 oq tq hoq e htq) (fun m hm => by rw [e1]; exact h5.2 m (hEq m hm)), e1]
  have hdj : cY ops j = some tq := by simp [cY, hoq, htq]
  refine ⟨fun p hp hp4 => ?_, oq, hoq, .inl ⟨hkq, c, v, hrd', h4, yV hTT hES h2 hfE rs (fun q hq => hr q (List.mem_cons_of_mem _ hq)) (fun q hq => ha q (List.mem_cons_of_mem _ hq)) hpw2.2 h7 (hfp.VJ v) (fun t ht => ?_) (fun n => by rw [kI]; exact ho' n) (fun p hp hp4 op dp e1 e2 t => ?_) (fun j' hj' => ?_) (fun q hq => hrs q (List.mem_cons_of_mem _ hq))⟩⟩
  ·have hpl : p ∈ l2 := by
    have hp : p ∈ (kq, j) :: (rs ++ l2) := hp
    simp only [List.mem_cons, List.mem_append] at hp
    rcases hp with rfl | hp | hp
    ·simp at hp4; omega
    ·have := hr p (List.mem_cons_of_mem _ hp); omega
    ·exact hp
   obtain ⟨l3, l4, hsp⟩ := List.append_of_mem hpl
   obtain ⟨op, dp, e1, e2, e3, e4⟩ := wk (l1 := l3) (p := p) (l2 := l4) (by rw [← hsp]; exact h2) p (by simp) hp4
   refine ⟨op, dp, e1, e2, ⟨by rw [ho']; exact e3.no, hcl p hpl hp4 op dp e1 e2, fun n cs hn => e3.obj n cs (by rw [← ho']; exact hn)⟩, fun t ht => ?_⟩
   rcases e4 t ht with ⟨q, hq, hqt⟩ | h8
   ·refine .inl ⟨q, ?_, hqt⟩
    rw [← hsp] at hq
    show q ∈ (kq, j) :: (rs ++ l2)
    exact List.mem_cons_of_mem _ (List.mem_append_right _ hq)
   ·by_cases hex : ∃ q ∈ (kq, j) :: rs, cY ops q.2 = some t
    ·obtain ⟨q, hq, hqt⟩ := hex
     refine .inl ⟨q, ?_, hqt⟩
     show q ∈ ((kq, j) :: rs) ++ l2
     exact List.mem_append_left _ hq
    ·refine .inr ?_
     unfold SS.get at h8 ⊢
     split
     ·rename_i hN'
      rw [if_pos hN'] at h8
      rw [he t fun q hq e => hex ⟨q, hq, e⟩]; exact h8
     ·rfl
  ·rw [gg]
   split
   ·rename_i e
    rw [htq] at e; cases e
    exact hv2.symm
   ·rename_i e
    refine he t fun q hq => ?_
    rcases List.mem_cons.1 hq with rfl | hq
    ·rw [hdj]; rw [← htq]; exact e
    ·exact ht q hq
  ·rw [gg]
   split
   ·obtain ⟨l3, l4, hsp⟩ := List.append_of_mem hp
    obtain ⟨op', dp', f1, f2, f3, _⟩ := wk (l1 := l3) (p := p) (l2 := l4) (by rw [← hsp]; exact h2) p (by simp) hp4
    rw [e1] at f1; cases f1
    rw [e2] at f2; cases f2
    rw [← hv2]; exact f3.env tq
   ·exact hcl p hp hp4 op dp e1 e2 t
  ·rcases List.mem_cons.1 hj' with rfl | hj'
   ·exact hrs (kq, j') (List.mem_cons_self ..)
   ·exact hdn j' hj'
theorem I0 {T : List Nat} {x : SV} (h : ∀ n, n ∈ G3 x → n ∈ T) : oz (· ∈ T) x := by
 have hc : ∀ c : CV, (∀ n ∈ Dj c, n ∈ T) → ∀ d, ¬ d ∈ T → de d c = true := by
  intro c hc d hd
  cases c with
  | own n => have := hc n (by simp [Dj]); simp only [de, Bool.not_eq_true', beq_eq_false_iff_ne]; exact fun e => hd (e ▸ this)
  | cw n _ _ _ => have := hc n (by simp [Dj]); simp only [de, Bool.not_eq_true', beq_eq_false_iff_ne]; exact fun e => hd (e ▸ this)
  | ref n _ _ _ => have := hc n (by simp [Dj]); simp only [de, Bool.not_eq_true', beq_eq_false_iff_ne]; exact fun e => hd (e ▸ this)
  | cm f ns =>
   simp only [de]
   refine List.all_eq_true.2 fun p hp => ?_
   have := hc p.1 (by simp only [Dj]; exact List.mem_map.2 ⟨p, hp, rfl⟩)
   simp only [Bool.not_eq_true', beq_eq_false_iff_ne]; exact fun e => hd (e ▸ this)
  | _ => rfl
 have hv : ∀ y : VV, (∀ n ∈ Oy y, n ∈ T) → ∀ d, ¬ d ∈ T → jM d y = true := by
  intro y hy d hd
  cases y with
  | c c => exact hc c hy d hd
  | g l => exact List.all_eq_true.2 fun c hcm => hc c (fun n hn => hy n (List.mem_flatMap.2 ⟨c, hcm, hn⟩)) d hd
 intro d hd
 cases x with
 | v y => exact hv y h d hd
 | cI l => exact List.all_eq_true.2 fun c hcm => hv c (fun n hn => h n (List.mem_flatMap.2 ⟨c, hcm, hn⟩)) d hd
theorem I1 {o : Oper} : (o.dst.getD 999998) ∈ vR C s o ∧ ∀ y ∈ o.op.operands.toList, oz (· ∈ vR C s o) (aq C s y) :=
 ⟨List.mem_cons_self .., fun y hy => I0 fun _ hn => List.mem_cons_of_mem _ (List.mem_flatMap.2 ⟨y, hy, hn⟩)⟩
theorem J6 (C : eN) (s : SS) (o : Oper) (op : Op) : (∃ x, op = .move x ∧ Nb C s o op = wQ C s o) ∨ Nb C s o op = vR C s o := by
 cases op <;> first | exact .inl ⟨_, rfl, rfl⟩ | exact .inr rfl
theorem D5 {o : Oper} : ∀ m ∈ wQ C s o, m ∈ vR C s o := by
 intro m hm
 unfold wQ at hm
 split at hm
 ·rename_i e1 _
  split at hm
  ·simp only [List.mem_singleton] at hm
   simp [vR, e1, hm]
  ·exact hm
 ·split at hm
  ·simp only [List.mem_singleton] at hm
   simp [vR, hm]
  ·exact hm
 ·rename_i args ats e2
  split at hm
  ·rename_i x y e3
   rcases List.mem_cons.1 hm with rfl | hm
   ·exact List.mem_cons_self ..
   ·exact List.mem_cons_of_mem _ (List.mem_flatMap.2 ⟨x, by rw [e2]; simp [Op.operands, Call.operands, e3], hm⟩)
  ·exact hm
 ·exact hm
theorem E4 {R R1 : Type} {r : R} {r1 : R1} {K : SS → Option R} {K1 : SS → Option R1} {o : Oper}
  (hK : ∀ s', Gn (· ∈ vR C s o) (· ∈ wQ C s o) o.dst s s' → K s' = some r → K1 s' = some r1) (hr : lS C FT false s o.dst o.op K = some r) : lS C FT false s o.dst o.op K1 = some r1 := by
 obtain ⟨n1, n2⟩ := I1 (C := C) (s := s) (o := o)
 by_cases hc : ∃ X x y, o.dst = none ∧ o.op = .store X x y ∧ gu (aq C s y) = true
 ·obtain ⟨X, x, y, e1, e2, e3⟩ := hc
  have hx := n2 x (by rw [e2]; simp [Op.operands])
  rw [e1] at hK
  rw [e1, e2] at hr ⊢
  exact J0 hx e3 hK hr
 by_cases hk : ∃ f args ats, o.op = .call { callee := .value (.func f), args := args, argTypes := ats } ∧ (cg (args.toList.flatMap fun y => bw (aq C s y))).isNone = true
 ·obtain ⟨f, args, ats, e1, e2⟩ := hk
  have hE : ∀ m, m ∈ wQ C s o ↔ m = o.dst.getD 999998 := fun m => by
   unfold wQ
   rw [e1]
   cases o.dst <;> simp only [e2] <;> simp
  have hsub := D5 (C := C) (s := s) (o := o)
  rw [e1] at hr ⊢
  unfold lS at hr ⊢
  simp only [BY] at hr ⊢
  unfold iP at hr ⊢
  exact HX (T := (· ∈ vR C s o)) (E := (· ∈ wQ C s o)) hsub ((hE _).2 rfl) (fun y hy => n2 y (by rw [e1]; simp only [Op.operands, Call.operands]; simpa using Or.inr hy)) (Option.isNone_iff_eq_none.1 e2) hK hr
 by_cases hap : ∃ args ats x y, o.op = .call { callee := .builtin .append, args := args, argTypes := ats } ∧ args.toList = [x, y]
 ·obtain ⟨args, ats, x, y, e1, e2⟩ := hap
  have hE : wQ C s o = o.dst.getD 999998 :: G3 (aq C s x) := by
   unfold wQ
   rw [e1]
   cases o.dst <;> simp only [e2]
  refine Jr (T := (· ∈ wQ C s o)) (by rw [hE]; exact List.mem_cons_self ..) (fun z hz => ?_) (fun s' h => hK s' (h.WY D5)) hr
  rw [e1] at hz
  simp only [HE, e2, List.take_succ_cons, List.take_zero, List.mem_singleton] at hz
  subst hz
  rw [hE]
  exact I0 fun _ hn => List.mem_cons_of_mem _ hn
 ·have he : wQ C s o = vR C s o := by
   unfold wQ
   split
   ·rename_i X x y e1 e2
    split
    ·rename_i e3; exact absurd ⟨X, x, y, e1, e2, e3⟩ hc
    ·rfl
   ·rename_i f args ats e2
    split
    ·rename_i e3; exact absurd ⟨f, args, ats, e2, e3⟩ hk
    ·rfl
   ·rename_i args ats e2
    split
    ·rename_i x y e3; exact absurd ⟨args, ats, x, y, e2, e3⟩ hap
    ·rfl
   ·rfl
  rw [he] at hK
  exact Jr n1 (fun y hy => n2 y (Na _ y hy)) (fun s' h => hK s' h.two) hr
theorem NK (ho : ops[i]? = some o) (hk2 : 2 ≤ k) (hk4 : k < 4) (rs : List (Nat × Nat)) (hr : ∀ q ∈ rs, q.1 < 2) (ha : ∀ q ∈ rs, vU ops q o) (hpw : rs.Pairwise (fun q p => ∀ op, ops[p.2]? = some op → BS ops q op))
  (hrc : ∀ q ∈ rs, reach ops 3 i q.2 = false) (hse : ∀ q ∈ rs, ∀ oq t, ops[q.2]? = some oq → oq.dst = some t → .tmp t ∉ oq.op.operands.toList) (h : WX C FT ops Q [] (rs ++ (k, i) :: l2) s) :
  lS C FT false s o.dst o.op (fun s' => PK (WX C FT ops Q [] (rs ++ l2) s')) = some () := by
 have hf0 := wk h
 obtain ⟨sE, dn', g1, _, g3, g4, g5, _⟩ := Ni ho hk2 hk4 (T := Nb C s o) rs hr ha hpw hrc hse rfl h
 obtain ⟨_, o', ho', h4⟩ := g4
 rw [ho] at ho'; cases ho'
 rcases h4 with ⟨h1, _⟩ | ⟨_, _, _, _, h4⟩ | ⟨h1, _⟩
 case inl => omega
 case inr.inr => omega
 have hlk := g1.lk
 have hTE : vR C sE o = vR C s o := nu g5
 obtain ⟨n1, n2⟩ := I1 (C := C) (s := sE) (o := o)
 rw [hTE] at n1 n2
 have hEE : wQ C sE o = wQ C s o := Gj g5
 have h5 := E4 (FT := FT) (o := o) (s := sE) (r1 := ()) (K1 := fun s' => PK (Gn (· ∈ vR C s o) (· ∈ wQ C s o) o.dst sE s' ∧ WX C FT ops Q dn' l2 s')) (fun s' hfp h' => iD ⟨by rw [hTE, hEE] at hfp; exact hfp, gp h'⟩) h4
 have hE : Ext (fun t => rs.any fun q => cY ops q.2 == some t) (fun _ => false) none none sE s := by
  refine ⟨fun t ht => ?_, fun _ _ _ h => (by cases h), fun n => by simp [hlk.1 n], fun _ h => (by cases h)⟩
  symm
  refine hlk.2 t fun q hq e => ?_
  have : (rs.any fun q => cY ops q.2 == some t) = true := List.any_eq_true.2 ⟨q, hq, by simp [e]⟩
  rw [ht] at this; cases this
 have hoff : ∀ y ∈ o.op.operands.toList, gG (fun t => rs.any fun q => cY ops q.2 == some t) y = true := fun y hy => by
  cases y with
  | tmp t =>
   simp only [gG, Bool.not_eq_true']
   refine Bool.eq_false_iff.2 fun h => ?_
   obtain ⟨q, hq, e⟩ := List.any_eq_true.1 h
   obtain ⟨oq, hoq⟩ := (ha q hq).here
   exact (ha q hq).a oq t hoq (by simpa [cY, hoq] using e) hy
  | _ => rfl
 have hdd : ∀ t, o.dst = some t → (rs.any fun q => cY ops q.2 == some t) = false := fun t ht => by
  refine Bool.eq_false_iff.2 fun h => ?_
  obtain ⟨q, hq, e⟩ := List.any_eq_true.1 h
  obtain ⟨oq, hoq⟩ := (ha q hq).here
  exact (ha q hq).c oq t hoq ht (by simpa [cY, hoq] using e)
 have h6 := pa (K1 := fun s' => PK (∃ s2, Ext (fun t => rs.any fun q => cY ops q.2 == some t) (fun _ => false) none none s2 s' ∧ Gn (· ∈ vR C s o) (· ∈ wQ C s o) o.dst sE s2 ∧ WX C FT ops Q dn' l2 s2)) hE (fun m _ => ⟨fun y h => (by cases h), fun cs h => (by cases h)⟩) hoff hdd (fun _ _ => rfl) rfl
  (fun s2 s1 he h' => iD ⟨s2, he, gp h'⟩) h5
 obtain ⟨m1, m2⟩ := I1 (C := C) (s := s) (o := o)
 refine E4 (FT := FT) (o := o) (r1 := ()) (fun s1 hfp h' => iD ?_) h6
 obtain ⟨s2, he, hf2, hw⟩ := gp h'
 refine yV (J6 C s o) D5 hw hf2 rs hr ha hpw g1 hfp (fun t ht => ?_) (fun n => by rw [he.obj]; simp) (fun p hp hp4 op dp e1 e2 t => ?_) (fun _ h => by cases h) g3
 ·refine he.env t (Bool.eq_false_iff.2 fun h => ?_)
  obtain ⟨q, hq, e⟩ := List.any_eq_true.1 h
  exact ht q hq (by simpa using e)
 ·obtain ⟨l3, l4, hsp⟩ := List.append_of_mem hp
  obtain ⟨op', dp', f1, f2, f3, _⟩ := wk (l1 := l3) (p := p) (l2 := l4) (by rw [← hsp]; exact hw) p (by simp) hp4
  rw [e1] at f1; cases f1
  rw [e2] at f2; cases f2
  cases hk : rs.any fun q => cY ops q.2 == some t with
  | false => rw [he.env t hk]; exact f3.env t
  | true =>
   obtain ⟨op', dp', f1, f2, f4, _⟩ := hf0 p (by simp [hp]) hp4
   rw [e1] at f1; cases f1
   rw [e2] at f2; cases f2
   exact hfp.cl t dp (fun e => by rw [hdd t e] at hk; cases hk) (f4.env t)
end
end Go.Abs
namespace Go.Abs
open Go.RowKit
variable {l ord : List (Nat × Nat)} {listed : Array Bool}
section
variable {P : Program} {ops : Array Oper} {n : Nat} {pins : List Nat}
structure Agr (U : Nat → Prop) (a b : Act) : Prop where
 df : a.defers = b.defers
 sz : a.tmps.size = b.tmps.size
 eq : ∀ t, ¬ U t → a.tmps[t]? = b.tmps[t]?
def Clear (ops : Array Oper) (q p : Nat × Nat) : Prop := ∀ oq op t, ops[q.2]? = some oq → ops[p.2]? = some op → op.dst = some t → t ∉ oq.looksAt ops ∧ oq.dst ≠ some t
structure W8 (ops : Array Oper) (n : Nat) (ord : List (Nat × Nat)) : Prop where
 lt : ∀ p ∈ ord, p.2 < n
 all : ∀ i, i < n → ∃ k, (k, i) ∈ ord
 uniq : ∀ p ∈ ord, ∀ q ∈ ord, p.2 = q.2 → p = q
 nodup : ord.Nodup
 op : ∀ i, i < n → ∃ o, ops[i]? = some o ∧ o.guard = none
 back : ∀ i o, i < n → ops[i]? = some o → ∀ e ∈ o.after, Region.binds .any e = true → e.on < i
 looks : ∀ i o, i < n → ops[i]? = some o → ∀ t ∈ o.looksAt ops, ∀ j oj, j < n → ops[j]? = some oj → oj.dst = some t → ∃ e ∈ o.after, Region.binds .any e = true ∧ e.on = j
 self : ∀ i o, i < n → ops[i]? = some o → ∀ t, o.dst = some t → t ∉ o.looksAt ops
 clear : ord.Pairwise (Clear ops)
 wait : ∀ listed, HeadInv .any ops n listed → ord.Pairwise fun q p => 2 ≤ q.1 → p.1 < 4 → (∀ o, ops[p.2]? = some o → ∀ e ∈ o.after, Region.binds .any e = true → listed.getD e.on false = true) → listed.getD q.2 false = true
 Zz : ∀ p ∈ ord, 4 ≤ p.1 → ∃ d, cY ops p.2 = some d ∧ d ≠ 999998
 Zy : ord.Pairwise fun q p => 4 ≤ q.1 → q.1 ≠ 5 → 4 ≤ p.1 → ∀ op d, ops[p.2]? = some op → cY ops q.2 = some d → d ∉ op.looksAt ops
variable {C : eN} {FT : List (Nat × Entry)} {Q : SS → Prop}
def NJ (C : eN) (FT : List (Nat × Entry)) (ops : Array Oper) (ord : List (Nat × Nat)) (Q : SS → Prop) (w0 : World) (M0 : Nat → Prop) (D0 : Names) (listed : Array Bool) (a : Act) (w : World) : Prop :=
 ∃ rest s, rest.Sublist ord ∧ (∀ p ∈ ord, p ∈ rest ∨ listed.getD p.2 false = true) ∧ (∀ p ∈ rest, listed.getD p.2 false = false) ∧ WX C FT ops Q [] rest s ∧ Sat w0 M0 D0 (s.st C.N) a w
theorem PU {o : Oper} {a : Act} {w : World} {R : Act → World → Prop} (hg : o.guard = none) (hR : ∀ b w, R b w → b.defers = []) (h : wpList P ops (yP R) [o] a w) {K : Act → World → Prop} {Q' : Exit → Act → World → Prop}
  (hK : ∀ b w', R b w' → K b w') : o.wp P a w K Q' := by
 simp only [wpList, Region.wanted, hg, if_true] at h
 rcases h with h | ⟨_, h⟩
 case inr => exact absurd h m6
 unfold Oper.wp at *
 generalize hr : (execOp a.eval o).run P w = r at *
 cases r with
 | ok x w' =>
  cases x <;> simp only [Oper.upon] at h ⊢
  case value v => exact hK _ w' h.2
  case skip => exact hK _ w' h.2
  case defer d =>
   have h0 := hR _ _ h.2
   rw [put_defers] at h0
   cases h0
  case enter f args =>
   refine Calls.mono h fun e w2 he => ?_
   cases e with
   | returned v => exact hK _ w2 he.2
   | panicked c => exact absurd he.1 (by simp)
   | outgrown => exact absurd he m6
  case row row args => exact Rows.mono h fun v w2 he => hK _ w2 he.2
 | halt x w' =>
  cases x <;> simp only [Oper.upon] at h ⊢
  exact absurd h.1 (by simp)
theorem LA {s0 s : SS} {N : Nat} (h : wW s0 s) {w0 : World} {M0 : Nat → Prop} {D0 : Names} {a : Act} {w : World} (hs : Sat w0 M0 D0 (s.st N) a w) : Sat w0 M0 D0 (s0.st N) a w := by
 have hl : ∀ n, ad n s.objs = ad n s0.objs := fun n => by rw [h.obj]; simp
 have hE : ∀ t, cr s.env t = cr s0.env t := fun t => by rw [h.env]; simp
 have hc : ∀ x : CV, x.av s.objs = x.av s0.objs := fun x => by cases x <;> first | rfl | (simp only [CV.av, hl])
 have hv : ∀ x : VV, x.av s.objs = x.av s0.objs := fun x => by
  cases x with
  | c x => exact hc x
  | g l => simp only [VV.av]; congr 1; exact List.map_congr_left fun c _ => hc c
 have hx : ∀ x : SV, x.av s.objs = x.av s0.objs := fun x => by
  cases x with
  | v x => exact hv x
  | cI l => simp only [SV.av]; congr 1; exact List.map_congr_left fun c _ => hv c
 have ho : ∀ o : SO, o.av s.objs = o.av s0.objs := fun o => by
  cases o with
  | box cs => simp only [SO.av]; congr 1; exact List.map_congr_left fun c _ => hc c
  | arr ts l => rfl
  | mp _ _ _ => rfl
 have henv : (s.st N).env = (s0.st N).env := List.map_congr_left fun i _ => by rw [hE, hx]
 have hobj : ∀ n, look n (s0.st N).objs = look n (s.st N).objs := fun n => by
  show look n (ai s0.objs s0.objs) = look n (ai s.objs s.objs)
  rw [bk, bk, hl]
  cases ad n s0.objs with
  | none => rfl
  | some o => simp only [Option.map_some, ho]
 have := AI (objs := (s.st N).objs) (objs' := (s0.st N).objs) hobj (env := (s.st N).env) hs
 rw [henv] at this
 exact this
theorem NZ (hG : Good P C.G) (hFT : gv P FT) {o : Oper} (hg : o.guard = none) {s : SS} {d : Nat} (h : lS C FT false s o.dst o.op (fun s' => PK (∃ s2, (s' = s2 ∨ db d s' = some s2) ∧ WX C FT ops Q [] l s2)) = some ())
  {w0 : World} {M0 : Nat → Prop} {D0 : Names} {a : Act} {w : World} (hs : Sat w0 M0 D0 (s.st C.N) a w) : wpList P ops (yP (tC w0 M0 D0 fun S' => ∃ s2 : SS, S' = s2.st C.N ∧ WX C FT ops Q [] l s2)) [o] a w :=
 DC hG hFT h (fun s1 _ => lj hg) hs fun s' a' w' h1 h2 => by
  obtain ⟨s2, h3, h4⟩ := gp h1
  refine ⟨rfl, _, ⟨s2, rfl, h4⟩, ?_⟩
  rcases h3 with rfl | h3
  ·exact h2
  ·exact (ub h3).1 _ _ _ _ _ h2
theorem G7 {d : Nat} {o : Oper} (h : d ∉ o.looksAt ops) : ∀ y ∈ o.op.operands.toList, gG (vM d) y = true := fun y hy => by
 cases y with
 | tmp t =>
  have : t ≠ d := fun e => by subst e; exact h (List.mem_append_left _ (List.mem_filterMap.2 ⟨.tmp t, hy, rfl⟩))
  simp [gG, vM, this]
 | _ => rfl
theorem iV {t : Nat} {o : Oper} (h : Operand.tmp t ∈ o.op.operands.toList) : t ∈ o.looksAt ops := List.mem_append_left _ (List.mem_filterMap.2 ⟨.tmp t, h, rfl⟩)
theorem NB (hG : Good P C.G) (hFT : gv P FT) (ok : W8 ops n ord) {g : Nat} {Q' : Exit → Act → World → Prop} {w0 : World} {M0 : Nat → Prop} {D0 : Names}
  (hdone : ∀ listed, HeadInv .any ops n listed → (∃ j, j < n ∧ listed.getD j true = false) → ∀ i ∈ Region.ready .any ops listed, i < n)
  (htail : ∀ listed a w s, HeadInv .any ops n listed → (∀ j, j < n → listed.getD j false = true) → Q s → Sat w0 M0 D0 (s.st C.N) a w → wpAny P .any ops Q' g listed a w) :
  ∀ (f : Nat) (listed : Array Bool) (a : Act) (w : World), left n listed = f → HeadInv .any ops n listed → NJ C FT ops ord Q w0 M0 D0 listed a w → wpAny P .any ops Q' (f + g) listed a w
 | 0, listed, a, w, hf, inv, N => by
  have hall : ∀ j, j < n → listed.getD j false = true := by
   intro j hj
   have := List.countP_eq_zero.1 hf j (List.mem_range.2 hj)
   simpa using this
  obtain ⟨rest, s, e1, e3, e5, e6, e7⟩ := N
  have hrest : rest = [] := by
   cases rest with
   | nil => rfl
   | cons p m =>
    exfalso
    have h1 := e5 p (List.mem_cons_self ..)
    rw [hall p.2 (ok.lt p (e1.subset (List.mem_cons_self ..)))] at h1
    cases h1
  subst hrest
  rw [Nat.zero_add]
  obtain ⟨s0, h0, hq⟩ := e6
  exact htail listed a w s0 inv hall hq (LA h0 e7)
 | f + 1, listed, a, w, hf, inv, N => by
  rw [show f + 1 + g = (f + g) + 1 by omega]
  have hex : ∃ j, j < n ∧ listed.getD j false = false := by
   have hpos : 0 < left n listed := by rw [hf]; exact Nat.succ_pos f
   obtain ⟨j, h1, h2⟩ := List.countP_pos_iff.1 hpos
   exact ⟨j, List.mem_range.1 h1, by simpa using h2⟩
  have hready : ∀ (m j : Nat), j ≤ m → j < n → listed.getD j false = false → Region.ready .any ops listed ≠ [] := by
   intro m
   induction m with
   | zero =>
    intro j hj hjn hjf hnil
    obtain ⟨o, ho, _⟩ := ok.op j hjn
    have hmem : j ∈ Region.ready .any ops listed := mem_ready.2 ⟨getD_in (by rw [inv.size]; exact (Array.getElem?_eq_some_iff.1 ho).1) hjf, o, ho, fun e he hb => by have := ok.back j o hjn ho e he hb; omega⟩
    rw [hnil] at hmem; cases hmem
   | succ m ih =>
    intro j hj hjn hjf hnil
    obtain ⟨o, ho, _⟩ := ok.op j hjn
    by_cases hal : ∀ e ∈ o.after, Region.binds .any e = true → listed.getD e.on false = true
    ·have hmem : j ∈ Region.ready .any ops listed := mem_ready.2 ⟨getD_in (by rw [inv.size]; exact (Array.getElem?_eq_some_iff.1 ho).1) hjf, o, ho, hal⟩
     rw [hnil] at hmem; cases hmem
    ·have : ∃ e, e ∈ o.after ∧ Region.binds .any e = true ∧ listed.getD e.on false = false := by
      apply Classical.byContradiction
      intro hno
      refine hal fun e he hb => ?_
      cases hl : listed.getD e.on false with
      | true => rfl
      | false => exact absurd ⟨e, he, hb, hl⟩ hno
     obtain ⟨e, he, hb, hl⟩ := this
     have := ok.back j o hjn ho e he hb
     exact ih e.on (by omega) (by omega) hl hnil
  obtain ⟨j, hjn, hjf⟩ := hex
  refine ⟨fun hnil => absurd hnil (hready j j (Nat.le_refl _) hjn hjf), fun i hi => ?_⟩
  have hjt : listed.getD j true = false := by
   obtain ⟨o, ho, _⟩ := ok.op j hjn
   exact getD_in (by rw [inv.size]; exact (Array.getElem?_eq_some_iff.1 ho).1) hjf
  have hin : i < n := hdone listed inv ⟨j, hjn, hjt⟩ i hi
  obtain ⟨o, ho, hg⟩ := ok.op i hin
  obtain ⟨hun, o', ho', hall⟩ := mem_ready.1 hi
  rw [ho] at ho'; cases ho'
  have hlt : i < listed.size := by rw [inv.size]; exact (Array.getElem?_eq_some_iff.1 ho).1
  have hunf := getD_both hun
  have hf' : left n (listed.setIfInBounds i true) = f := by
   have := we (f := fun j => !(listed.getD j false)) (g := fun j => !((listed.setIfInBounds i true).getD j false)) (i := i) (by simp [hunf]) (by simp [hlt]) (fun j hj => by rw [getD_set_ne false (Ne.symm hj)]) n hin
   unfold left at hf ⊢
   omega
  have hseti : (listed.setIfInBounds i true).getD i false = true := by simp [hlt]
  have hsetn : ∀ m, m ≠ i → (listed.setIfInBounds i true).getD m false = listed.getD m false := fun m hm => getD_set_ne false (Ne.symm hm)
  have hsett : ∀ m, listed.getD m false = true → (listed.setIfInBounds i true).getD m false = true := fun m hm => by
   by_cases e : m = i
   ·rw [e]; exact hseti
   ·rw [hsetn _ e]; exact hm
  have next : ∀ a2 w2, NJ C FT ops ord Q w0 M0 D0 (listed.setIfInBounds i true) a2 w2 → wpAny P .any ops Q' (f + g) (listed.setIfInBounds i true) a2 w2 :=
   fun a2 w2 h => NB hG hFT ok hdone htail f _ a2 w2 hf' (inv.set hi hin) h
  obtain ⟨rest, s, e1, e3, e5, e6, e7⟩ := N
  have hrst : ∀ p ∈ rest, p ∈ ord := fun p hp => e1.subset hp
  obtain ⟨k, hk⟩ := ok.all i hin
  have hk : (k, i) ∈ rest := by
   rcases e3 (k, i) hk with h | h
   ·exact h
   ·rw [hunf] at h; cases h
  unfold wpOp
  simp only [ho, Region.wanted, hg, if_true]
  refine .inl ?_
  obtain ⟨l1, l2, hsp⟩ := List.append_of_mem hk
  rw [hsp] at e1
  have hnd : (l1 ++ (k, i) :: l2).Nodup := e1.nodup ok.nodup
  have hcl : (l1 ++ (k, i) :: l2).Pairwise (Clear ops) := ok.clear.sublist e1
  have hpw2 := List.pairwise_append.1 hcl
  have hpw3 := List.pairwise_cons.1 hpw2.2.1
  have hsub : (l1 ++ l2).Sublist ord := (List.Sublist.append (List.Sublist.refl _) (List.sublist_cons_self ..)).trans e1
  have hm1 : ∀ p ∈ l1 ++ l2, p ∈ rest := fun p hp => by
   rw [hsp]
   rcases List.mem_append.1 hp with h | h
   ·exact List.mem_append_left _ h
   ·exact List.mem_append_right _ (List.mem_cons_of_mem _ h)
  have hne : ∀ p ∈ l1 ++ l2, p.2 ≠ i := fun p hp he => by
   have heq := ok.uniq p (hrst p (hm1 p hp)) (k, i) (hrst _ hk) he
   subst heq
   rw [List.nodup_append, List.nodup_cons] at hnd
   rcases List.mem_append.1 hp with h | h
   ·exact hnd.2.2 _ h _ (by simp) rfl
   ·exact hnd.2.1.1 h
  have hopq : ∀ p ∈ rest, ∃ op, ops[p.2]? = some op := fun p hp => by
   obtain ⟨op, h, _⟩ := ok.op p.2 (ok.lt p (hrst p hp))
   exact ⟨op, h⟩
  have hlook : ∀ t, .tmp t ∈ o.op.operands.toList → ∀ q ∈ rest, cY ops q.2 ≠ some t := fun t ht q hq e => by
   obtain ⟨oq, hoq⟩ := hopq q hq
   obtain ⟨e', he', hb, heq⟩ := ok.looks i o hin ho t (iV ht) q.2 oq (ok.lt q (hrst q hq)) hoq (by simpa [cY, hoq] using e)
   have := hall e' he' hb
   rw [heq, e5 q hq] at this; cases this
  have fin : ∀ s2 a2 w2, WX C FT ops Q [] (l1 ++ l2) s2 → Sat w0 M0 D0 (s2.st C.N) a2 w2 → wpAny P .any ops Q' (f + g) (listed.setIfInBounds i true) a2 w2 := fun s2 a2 w2 hW hS => by
   refine next a2 w2 ⟨l1 ++ l2, s2, hsub, fun p hp => ?_, fun p hp => ?_, hW, hS⟩
   ·rcases e3 p hp with h | h
    ·by_cases e : p = (k, i)
     ·subst e; exact .inr hseti
     ·refine .inl ?_
      rw [hsp] at h
      simp only [List.mem_append, List.mem_cons] at h ⊢
      rcases h with h | h | h
      ·exact .inl h
      ·exact absurd h e
      ·exact .inr h
    ·exact .inr (hsett _ h)
   ·rw [hsetn _ (hne p hp)]; exact e5 p (hm1 p hp)
  have step : ∀ d, lS C FT false s o.dst o.op (fun s' => PK (∃ s2, (s' = s2 ∨ db d s' = some s2) ∧ WX C FT ops Q [] (l1 ++ l2) s2)) = some () → o.wp P a w (fun a2 w2 => wpAny P .any ops Q' (f + g) (listed.setIfInBounds i true) a2 w2) Q' := by
   intro d hst
   refine PU hg (fun b w hb => by obtain ⟨_, _, hb, _⟩ := hb; exact hb) (NZ hG hFT hg hst e7) fun b w' hR => ?_
   obtain ⟨S', ⟨s2, rfl, hW⟩, hS'⟩ := hR
   exact fin s2 _ _ hW hS'
  rw [hsp] at e6
  rcases Nat.lt_or_ge k 4 with hk4 | hk4
  ·
   have hr : ∀ q ∈ l1, q.1 < 2 := fun q hq => by
    rcases Nat.lt_or_ge q.1 2 with h | h
    ·exact h
    ·have hw := (List.pairwise_append.1 ((ok.wait listed inv).sublist e1)).2.2 q hq (k, i) (by simp) h hk4 (fun o' ho' => by rw [ho] at ho'; cases ho'; exact hall)
     rw [e5 q (hm1 q (List.mem_append_left _ hq))] at hw; cases hw
   have hin1 : ∀ q ∈ l1, q ∈ rest := fun q hq => hm1 q (List.mem_append_left _ hq)
   have apart : ∀ q ∈ rest, ∀ p ∈ rest, ∀ op, ops[p.2]? = some op → Clear ops q p → (∀ oq t, ops[q.2]? = some oq → oq.dst = some t → .tmp t ∉ op.op.operands.toList) → vU ops q op := fun q hq p hp op hop hcl ha =>
    ⟨hopq q hq, ha, fun oq t hoq ht h => (hcl oq op t hoq hop ht).1 (iV h), fun oq t hoq ht => (hcl oq op t hoq hop ht).2⟩
   have ha : ∀ q ∈ l1, vU ops q o := fun q hq => apart q (hin1 q hq) (k, i) hk o ho (hpw2.2.2 q hq (k, i) (by simp)) fun oq t hoq ht h => hlook t h q (hin1 q hq) (by simp [cY, hoq, ht])
   rcases Nat.lt_or_ge k 2 with hk2 | hk2
   ·obtain ⟨c, x, h1, h2, h3⟩ := Ea ho hk2 l1 hr ha e6
    obtain ⟨hd, D, hm, he, hpin⟩ := e7
    obtain ⟨v, hv, hrun⟩ := m8 hm he (u2 hG h1 h2)
    unfold Oper.wp
    rw [hrun w (Below.refl _ _)]
    refine fin _ _ _ h3 ?_
    rw [dt]
    exact ⟨by rw [put_defers]; exact hd, D, hm, he.put _ hv, hpin⟩
   ·refine step 0 (gJ (fun s' _ h => iD ⟨s', .inl rfl, gp h⟩) (NK ho hk2 hk4 l1 hr ha ?_ (fun q hq => ?_) (fun q hq oq t hoq ht h => ?_) e6))
    ·exact hpw2.1.imp fun {q p} h op hop => ⟨fun oq t hoq ht hm => (h oq op t hoq hop ht).1 (iV hm), fun oq t hoq ht => (h oq op t hoq hop ht).2⟩
    ·refine Bool.eq_false_iff.2 fun h => ?_
     have := iO inv 3 i q.2 o ho hall h
     rw [e5 q (hin1 q hq)] at this; cases this
    ·exact ok.self q.2 oq (ok.lt q (hrst q (hin1 q hq))) hoq t ht (iV h)
  ·
   obtain ⟨d, hd, hd9⟩ := ok.Zz (k, i) (hrst _ hk) hk4
   have hd : o.dst = some d := by simpa [cY, ho] using hd
   have hcl1 : ∀ q ∈ l1, Clear ops q (k, i) := fun q hq => hpw2.2.2 q hq (k, i) (by simp)
   have hcl3 : ∀ q ∈ l2, Clear ops (k, i) q := fun q hq => hpw3.1 q hq
   have hdd : ∀ p ∈ l1 ++ l2, cY ops p.2 ≠ some d := fun p hp e => by
    obtain ⟨op, hop⟩ := hopq p (hm1 p hp)
    have hpd : op.dst = some d := by simpa [cY, hop] using e
    rcases List.mem_append.1 hp with h | h
    ·exact (hcl1 p h op o d hop ho hd).2 hpd
    ·exact (hcl3 p h o op d ho hop hpd).2 hd
   obtain ⟨hgt, hst⟩ := HP ho hd hk4 hd9 e6 (fun q hq oq hoq => ⟨G7 (ops := ops) (hcl1 q hq oq o d hoq ho hd).1, (hcl1 q hq oq o d hoq ho hd).2⟩) hdd (fun t ht q hq => hlook t ht q (by rw [hsp]; exact hq)) (by
    by_cases h5 : k = 5
    ·exact .inl h5
    ·refine .inr fun p hp hp4 op hop ht => ?_
     rcases List.mem_append.1 hp with h | h
     ·exact (hcl1 p h op o d hop ho hd).1 (iV ht)
     ·have hf4 := (List.pairwise_append.1 (ok.Zy.sublist e1)).2.1
      exact (List.pairwise_cons.1 hf4).1 p h hk4 h5 hp4 op d hop (by simp [cY, ho, hd]) (iV ht))
   exact step d hst
theorem H2 {q p : Nat × Nat} (h : xb ops q.2 p.2 = true) : Clear ops q p := by
 intro oq op t hq hp hd
 have e : cY ops p.2 = some t := by simp [cY, hp, hd]
 simp only [xb, hq, e, Bool.and_eq_true, Bool.not_eq_true'] at h
 refine ⟨fun hc => ?_, fun hc => ?_⟩
 ·have : (oq.looksAt ops).contains t = true := by simpa using hc
  rw [this] at h; cases h.1
 ·have := h.2
  rw [hc] at this
  simp at this
theorem mR {cur : Option Nat} {fl : List Nat} {k i : Nat} (h : BR ops cur fl ((k, i) :: l) = true) : E6 ops i = true ∧ (∀ p ∈ l, xb ops i p.2 = true) ∧
  ((4 ≤ k ∧ QI ops k i l = true ∧ BR ops cur (i :: fl) l = true) ∨
  (k < 4 ∧ ((∀ e, cur = some e → reach ops 3 i e = true) ∧ ∀ e ∈ fl, reach ops 3 i e = true) ∧
   ((2 ≤ k ∧ BR ops (some i) [] l = true) ∨ (k < 2 ∧ BR ops cur fl l = true)))) := by
 simp only [BR, Bool.and_eq_true] at h
 obtain ⟨⟨h1, h2⟩, h3⟩ := h
 refine ⟨h1, fun p hp => List.all_eq_true.1 h2 p hp, ?_⟩
 cases hk : Nat.ble 4 k with
 | true =>
  simp only [hk, Bool.and_eq_true] at h3
  exact .inl ⟨Nat.le_of_ble_eq_true hk, h3.1, h3.2⟩
 | false =>
  simp only [hk, Bool.and_eq_true] at h3
  have hk4 : k < 4 := by
   rcases Nat.lt_or_ge k 4 with h | h
   ·exact h
   ·rw [Nat.ble_eq_true_of_le h] at hk; cases hk
  refine .inr ⟨hk4, ⟨fun e he => ?_, fun e he => List.all_eq_true.1 h3.1.2 e he⟩, ?_⟩
  ·have := h3.1.1
   rw [he] at this; exact this
  ·have h4 := h3.2
   cases hk2 : Nat.ble 2 k with
   | true =>
    simp only [hk2] at h4
    exact .inl ⟨Nat.le_of_ble_eq_true hk2, h4⟩
   | false =>
    simp only [hk2] at h4
    have : k < 2 := by
     rcases Nat.lt_or_ge k 2 with h | h
     ·exact h
     ·rw [Nat.ble_eq_true_of_le h] at hk2; cases hk2
    exact .inr ⟨this, h4⟩
theorem p8 {cur : Option Nat} {fl : List Nat} {k i : Nat} (h : BR ops cur fl ((k, i) :: l) = true) : ∃ cur' fl', BR ops cur' fl' l = true ∧ (2 ≤ k → cur' = some i ∨ i ∈ fl') := by
 obtain ⟨_, _, h⟩ := mR h
 rcases h with ⟨_, _, h⟩ | ⟨_, _, ⟨_, h⟩ | ⟨_, h⟩⟩
 ·exact ⟨_, _, h, fun _ => .inr (List.mem_cons_self ..)⟩
 ·exact ⟨_, _, h, fun _ => .inl rfl⟩
 ·exact ⟨_, _, h, fun _ => by omega⟩
theorem rl : ∀ (l : List (Nat × Nat)) {cur : Option Nat} {fl : List Nat}, BR ops cur fl l = true → l.Pairwise (Clear ops)
 | [], _, _, _ => List.Pairwise.nil
 | (k, i) :: l, cur, fl, h => by
  obtain ⟨_, _, h', _⟩ := p8 h
  exact List.pairwise_cons.2 ⟨fun p hp => H2 (q := (k, i)) ((mR h).2.1 p hp), rl l h'⟩
theorem tx (inv : HeadInv .any ops n listed) : ∀ (l : List (Nat × Nat)) {cur : Option Nat} {fl : List Nat}, (∀ p ∈ l, ∃ o, ops[p.2]? = some o) → BR ops cur fl l = true →
  ∀ p ∈ l, p.1 < 4 → (∀ o, ops[p.2]? = some o → ∀ e ∈ o.after, Region.binds .any e = true → listed.getD e.on false = true) → (∀ e, cur = some e → listed.getD e false = true) ∧ ∀ e ∈ fl, listed.getD e false = true
 | [], _, _, _, _, p, hp, _, _ => by cases hp
 | (k, i) :: l, cur, fl, hop, h, p, hp, hp4, hr => by
  obtain ⟨_, _, h⟩ := mR h
  obtain ⟨o, ho⟩ := hop (k, i) (List.mem_cons_self ..)
  have hop' : ∀ p ∈ l, ∃ o, ops[p.2]? = some o := fun p hp => hop p (List.mem_cons_of_mem _ hp)
  have here : ((∀ e, cur = some e → reach ops 3 i e = true) ∧ ∀ e ∈ fl, reach ops 3 i e = true) → (∀ e ∈ o.after, Region.binds .any e = true → listed.getD e.on false = true) → (∀ e, cur = some e → listed.getD e false = true) ∧ ∀ e ∈ fl, listed.getD e false = true :=
   fun h hall => ⟨fun e he => iO inv 3 i e o ho hall (h.1 e he), fun e he => iO inv 3 i e o ho hall (h.2 e he)⟩
  rcases List.mem_cons.1 hp with rfl | hp
  ·rcases h with ⟨h4, _⟩ | ⟨_, h1, _⟩
   ·simp at hp4; omega
   ·exact here h1 (hr o ho)
  ·rcases h with ⟨_, _, h⟩ | ⟨_, h1, ⟨_, h⟩ | ⟨_, h⟩⟩
   ·obtain ⟨a, b⟩ := tx inv l hop' h p hp hp4 hr
    exact ⟨a, fun e he => b e (List.mem_cons_of_mem _ he)⟩
   ·obtain ⟨a, _⟩ := tx inv l hop' h p hp hp4 hr
    exact here h1 (inv.closed i o ho (a i rfl))
   ·exact tx inv l hop' h p hp hp4 hr
theorem BJ (inv : HeadInv .any ops n listed) : ∀ (l : List (Nat × Nat)) {cur : Option Nat} {fl : List Nat}, (∀ p ∈ l, ∃ o, ops[p.2]? = some o) → BR ops cur fl l = true →
  l.Pairwise fun q p => 2 ≤ q.1 → p.1 < 4 → (∀ o, ops[p.2]? = some o → ∀ e ∈ o.after, Region.binds .any e = true → listed.getD e.on false = true) → listed.getD q.2 false = true
 | [], _, _, _, _ => List.Pairwise.nil
 | (k, i) :: l, cur, fl, hop, h => by
  obtain ⟨cur', fl', h', hc⟩ := p8 h
  have hop' : ∀ p ∈ l, ∃ o, ops[p.2]? = some o := fun p hp => hop p (List.mem_cons_of_mem _ hp)
  refine List.pairwise_cons.2 ⟨fun p hp hk hp4 hr => ?_, BJ inv l hop' h'⟩
  obtain ⟨a, b⟩ := tx inv l hop' h' p hp hp4 hr
  rcases hc hk with e | e
  ·exact a i e
  ·exact b i e
theorem Ik {k i : Nat} (h : QI ops k i l = true) : ∃ d, cY ops i = some d ∧ d ≠ 999998 ∧ (k ≠ 5 → ∀ p ∈ l, 4 ≤ p.1 → ∀ op, ops[p.2]? = some op → d ∉ op.looksAt ops) := by
 unfold QI at h
 split at h
 ·rename_i d hd
  simp only [Bool.and_eq_true, Bool.not_eq_true', beq_eq_false_iff_ne, Bool.or_eq_true, beq_iff_eq] at h
  refine ⟨d, hd, h.1, fun h5 p hp hp4 op hop hc => ?_⟩
  have := List.all_eq_true.1 (h.2.resolve_left h5) p hp
  simp only [Nat.ble_eq_true_of_le hp4, Bool.not_true, Bool.false_or, hop, Bool.not_eq_true'] at this
  have hc : (op.looksAt ops).contains d = true := by simpa using hc
  rw [this] at hc; cases hc
 ·cases h
theorem Il : ∀ (l : List (Nat × Nat)) {cur : Option Nat} {fl : List Nat}, BR ops cur fl l = true → (∀ p ∈ l, 4 ≤ p.1 → ∃ d, cY ops p.2 = some d ∧ d ≠ 999998) ∧
  l.Pairwise fun q p => 4 ≤ q.1 → q.1 ≠ 5 → 4 ≤ p.1 → ∀ op d, ops[p.2]? = some op → cY ops q.2 = some d → d ∉ op.looksAt ops
 | [], _, _, _ => ⟨fun p hp => (by cases hp), List.Pairwise.nil⟩
 | (k, i) :: l, cur, fl, h => by
  obtain ⟨_, _, h', _⟩ := p8 h
  obtain ⟨a, b⟩ := Il l h'
  obtain ⟨_, _, h⟩ := mR h
  have hfs : 4 ≤ k → QI ops k i l = true := fun hk => by
   rcases h with ⟨_, h, _⟩ | ⟨h, _⟩
   ·exact h
   ·omega
  refine ⟨fun p hp hp4 => ?_, List.pairwise_cons.2 ⟨fun p hp hk h5 hp4 op d' hop hd' => ?_, b⟩⟩
  ·rcases List.mem_cons.1 hp with rfl | hp
   ·obtain ⟨d', h1, h2, _⟩ := Ik (hfs hp4)
    exact ⟨d', h1, h2⟩
   ·exact a p hp hp4
  ·obtain ⟨d2, h1, _, h3⟩ := Ik (hfs hk)
   have hd' : cY ops i = some d' := hd'
   rw [h1] at hd'; cases hd'
   exact h3 h5 p hp hp4 op hop
theorem E7 : ∀ (l : List (Nat × Nat)) {cur : Option Nat} {fl : List Nat}, BR ops cur fl l = true → ∀ p ∈ l, E6 ops p.2 = true
 | [], _, _, _, p, hp => by cases hp
 | (k, i) :: l, cur, fl, h, p, hp => by
  rcases List.mem_cons.1 hp with rfl | hp
  ·exact (mR h).1
  ·obtain ⟨_, _, h', _⟩ := p8 h
   exact E7 l h' p hp
theorem my : ∀ {l : List Nat}, nodupB l = true → l.Nodup
 | [], _ => List.nodup_nil
 | x :: l, h => by
  simp only [nodupB, Bool.and_eq_true, Bool.not_eq_true'] at h
  refine List.nodup_cons.2 ⟨fun hm => ?_, my h.2⟩
  have : l.contains x = true := by simpa using hm
  rw [this] at h; cases h.1
theorem uk {α β : Type} {f : α → β} : ∀ {l : List α}, (l.map f).Nodup → ∀ {p q : α}, p ∈ l → q ∈ l → f p = f q → p = q
 | [], _, p, q, hp, _, _ => by cases hp
 | a :: l, h, p, q, hp, hq, e => by
  simp only [List.map_cons, List.nodup_cons] at h
  rcases List.mem_cons.1 hp with h1 | h1 <;> rcases List.mem_cons.1 hq with h2 | h2
  ·rw [h1, h2]
  ·rw [h1] at e; exact absurd (e ▸ List.mem_map_of_mem h2) h.1
  ·rw [h2] at e; exact absurd (e ▸ List.mem_map_of_mem h1) h.1
  ·exact uk h.2 h1 h2 e
theorem PT (h : wB ops n ord = true) : W8 ops n ord := by
 simp only [wB, Bool.and_eq_true] at h
 obtain ⟨h1, h2, h3, h4, h5⟩ := h
 have hb1 : ∀ i, i < n → ∃ o, ops[i]? = some o ∧ o.guard.isNone = true ∧ (o.after.toList.all fun e => !Region.binds .any e || decide (e.on < i)) = true ∧
   ((o.looksAt ops).all fun t => (List.range n).all fun j => !(cY ops j == some t) || (o.after.toList.any fun e => Region.binds .any e && e.on == j)) = true := by
  intro i hi
  have := List.all_eq_true.1 h4 i (List.mem_range.2 hi)
  unfold YK at this
  split at this
  ·cases this
  ·rename_i o ho
   simp only [Bool.and_eq_true] at this
   exact ⟨o, ho, this.1, this.2.1, this.2.2⟩
 have hnd := my h3
 have hnd2 : ord.Nodup := List.Pairwise.of_map (f := fun p : Nat × Nat => p.2) (R := (· ≠ ·)) (fun a b h e => h (by rw [e])) hnd
 have hlt : ∀ p ∈ ord, p.2 < n := fun p hp => by simpa using List.all_eq_true.1 h1 p hp
 have hopo : ∀ p ∈ ord, ∃ o, ops[p.2]? = some o := fun p hp => by
  obtain ⟨o, ho, _⟩ := hb1 p.2 (hlt p hp)
  exact ⟨o, ho⟩
 refine ⟨hlt, fun i hi => ?_, fun p hp q hq e => ?_, hnd2, fun i hi => ?_, fun i o hi ho e he hb => ?_, fun i o hi ho t ht j oj hj hoj hd => ?_, fun i o hi ho t ht => ?_, rl ord h5, fun listed inv => BJ inv ord hopo h5, (Il ord h5).1, (Il ord h5).2⟩
 ·have := List.all_eq_true.1 h2 i (List.mem_range.2 hi)
  have : i ∈ ord.map (·.2) := by simpa using this
  obtain ⟨p, hp, rfl⟩ := List.mem_map.1 this
  exact ⟨p.1, hp⟩
 ·exact uk hnd hp hq e
 ·obtain ⟨o, ho, hg, _⟩ := hb1 i hi
  exact ⟨o, ho, by simpa using hg⟩
 ·obtain ⟨o', ho', _, hbk, _⟩ := hb1 i hi
  rw [ho] at ho'; cases ho'
  have := List.all_eq_true.1 hbk e (by simpa using he)
  simpa [hb] using this
 ·obtain ⟨o', ho', _, _, hlk⟩ := hb1 i hi
  rw [ho] at ho'; cases ho'
  have := List.all_eq_true.1 (List.all_eq_true.1 hlk t ht) j (List.mem_range.2 hj)
  have e : cY ops j = some t := by simp [cY, hoj, hd]
  simp only [e, beq_self_eq_true, Bool.not_true, Bool.false_or, List.any_eq_true, Bool.and_eq_true, beq_iff_eq] at this
  obtain ⟨e, g1, g2, g3⟩ := this
  exact ⟨e, by simpa using g1, g2, g3⟩
 ·have : i ∈ ord.map (·.2) := by simpa using List.all_eq_true.1 h2 i (List.mem_range.2 hi)
  obtain ⟨p, hp, hpi⟩ := List.mem_map.1 this
  have h7 := E7 ord h5 p hp
  rw [hpi] at h7
  simp only [E6, ho, ht, Bool.not_eq_true'] at h7
  intro hc
  have : (o.looksAt ops).contains t = true := by simpa using hc
  rw [this] at h7; cases h7
theorem RW (hG : Good P C.G) (hFT : gv P FT) {Q : St → Prop} {R : Type} {r : R} {K : SS → Option R} (hK : ∀ s', K s' = some r → tE P pins ops Q (ops.toList.drop n) (s'.st C.N)) {s : SS} (hB : (Region.lexTailB .any ops n || decide (n = ops.size)) = true) (hW : wB ops n ord = true)
  (hx : AD C FT ops [] ord s K = some r) : vW P pins ops true (s.st C.N) Q := by
 intro w0 M0 D0 a w hpp hs
 refine ⟨fun h => by (cases h), fun _ => ?_⟩
 have hne : n ≤ ops.size := by
  simp only [Region.lexTailB, Bool.or_eq_true, Bool.and_eq_true, decide_eq_true_eq] at hB
  rcases hB with h | h
  ·exact Nat.le_of_lt h.1.1.1.2
  ·exact Nat.le_of_eq h
 have ok := PT hW
 have inv0 : HeadInv .any ops n (Array.replicate ops.size false) :=
  ⟨by simp, fun j oj _ hl => (by rw [getD_replicate_false] at hl; cases hl), fun t _ ht => getD_in (by simpa using ht) (getD_replicate_false _ _)⟩
 have hw1 : Below w.heap.size w { w with drawn := w.drawn + 1 } := ⟨rfl, rfl, rfl, Nat.le_refl _, fun _ _ => rfl⟩
 have hs1 : Sat w0 M0 D0 (s.st C.N) a { w with drawn := w.drawn + 1 } := by
  obtain ⟨hd, D, hmem, he, hpin⟩ := hs
  exact ⟨hd, D, hmem.ext (cA hw1) hw1.os hw1.tape hw1.output, he.mono ((cA hw1).weaken (fun _ _ h => h.elim)) (fun _ _ h => h) hmem.lt (fun _ _ h => h), hpin⟩
 have hleft : left n (Array.replicate ops.size false) = n := by
  unfold left
  have : (List.range n).countP (fun j => !((Array.replicate ops.size false).getD j false)) = (List.range n).length := List.countP_eq_length.2 fun j _ => by rw [getD_replicate_false]; rfl
  rw [this, List.length_range]
 have N0 : NJ C FT ops ord (fun s' => K s' = some r) w0 M0 D0 (Array.replicate ops.size false) a { w with drawn := w.drawn + 1 } :=
  ⟨ord, s, List.Sublist.refl _, fun p hp => .inl hp, fun p _ => getD_replicate_false _ _, o9 ord hx, hs1⟩
 have hdone : ∀ listed, HeadInv .any ops n listed → (∃ j, j < n ∧ listed.getD j true = false) → ∀ i ∈ Region.ready .any ops listed, i < n := fun listed inv ⟨j, hjn, hjt⟩ i hi => by
  simp only [Region.lexTailB, Bool.or_eq_true, Bool.and_eq_true, decide_eq_true_eq] at hB
  rcases hB with ⟨⟨⟨⟨_, hn⟩, hsk⟩, hc⟩, _⟩ | h
  ·rcases Nat.lt_or_ge i n with h | h
   ·exact h
   ·exact absurd hi (tail_waits hsk hc hn inv _ j rfl hjn hjt i h)
  ·obtain ⟨_, o, ho, _⟩ := mem_ready.1 hi
   rw [h]; exact (Array.getElem?_eq_some_iff.1 ho).1
 have hall0 : ∀ listed : Array Bool, HeadInv .any ops n listed → (∀ j, j < n → listed.getD j false = true) → listed = jV n 0 (Array.replicate ops.size false) := fun listed inv hall => by
  refine Array.ext (by rw [ry, inv.size]; simp) fun j hj hj' => ?_
  have hjs : j < ops.size := by rw [← inv.size]; exact hj
  have e := u4 n 0 (Array.replicate ops.size false) j (by simpa using hjs)
  rw [getD_replicate_false] at e
  have e1 : listed.getD j false = if 0 ≤ j ∧ j < 0 + n then true else false := by
   by_cases hjn : j < n
   ·rw [if_pos (by omega), hall j hjn]
   ·rw [if_neg (by omega), getD_both (inv.tail j (by omega) hjs)]
  rw [← e] at e1
  have a1 : listed.getD j false = listed[j] := by rw [Array.getD_eq_getD_getElem?, Array.getElem?_eq_getElem hj]; rfl
  have a2 : (jV n 0 (Array.replicate ops.size false)).getD j false = (jV n 0 (Array.replicate ops.size false))[j] := by rw [Array.getD_eq_getD_getElem?, Array.getElem?_eq_getElem hj']; rfl
  rw [a1, a2] at e1
  exact e1
 have fin := NB hG hFT (Q' := yP (tC w0 M0 D0 Q)) (g := ops.size - n) ok hdone (fun listed a w s inv hall hQ hsat => by
  have hL := hall0 listed inv hall
  have hseq : Region.seqB .any ops (ops.size - n) n listed = true := by
   simp only [Region.lexTailB, Bool.or_eq_true, Bool.and_eq_true, decide_eq_true_eq] at hB
   rcases hB with ⟨_, hlex'⟩ | h
   ·have hseq := q7 n 0 _ hlex'
    rw [← hL, Nat.zero_add] at hseq
    exact hseq
   ·have e0 : ops.size - n = 0 := by omega
    rw [e0]
    simp only [Region.seqB, List.isEmpty_iff]
    apply List.eq_nil_iff_forall_not_mem.2
    intro i hi
    obtain ⟨hun, o, ho, _⟩ := mem_ready.1 hi
    have hin : i < n := by rw [h]; exact (Array.getElem?_eq_some_iff.1 ho).1
    have := hall i hin
    rw [getD_both hun] at this; cases this
  have hdl : (ops.toList.drop n).length = ops.size - n := by simp
  rw [← hdl] at hseq ⊢
  exact wpAny_of_seq (ops.toList.drop n) n listed a w (fun j => by simp [List.getElem?_drop]) hseq (hK s hQ w0 M0 D0 a w hpp hsat)) n _ a _ hleft inv0 N0
 rw [show n + (ops.size - n) = ops.size by omega] at fin
 exact fin
end
end Go.Abs
namespace Go.Abs
open Go.RowKit
variable {os : List (Nat × eO)}
theorem gj {μ μ' : eZ} {n : Nat} {x : Option Nat} (h : vF μ n x = some μ') : jt μ' n = some x ∧ ∀ m y, jt μ m = some y → jt μ' m = some y := by
 unfold vF at h
 split at h
 ·rename_i hn
  simp only [Option.some.injEq] at h; subst h
  refine ⟨by simp [jt], fun m y hm => ?_⟩
  have : n ≠ m := by rintro rfl; rw [hn] at hm; cases hm
  simp [jt, this, hm]
 ·rename_i y hy
  split at h
  ·rename_i a b
   split at h
   ·rename_i e
    subst e
    simp only [Option.some.injEq] at h; subst h
    exact ⟨hy, fun _ _ h => h⟩
   ·cases h
  ·simp only [Option.some.injEq] at h; subst h
   exact ⟨hy, fun _ _ h => h⟩
  ·cases h
def BU (μ μ' : eZ) : Prop := ∀ m y, jt μ m = some y → jt μ' m = some y
theorem BU.bh (μ : eZ) : BU μ μ := fun _ _ h => h
theorem BU.trans {a b c : eZ} (h : BU a b) (k : BU b c) : BU a c := fun m y hy => k m y (h m y hy)
def nE (μ : eZ) : List (Nat × Nat) → List (Nat × Nat) → Prop
 | [], [] => True
 | (n, sz) :: l, (k, sz') :: r => sz = sz' ∧ jt μ n = some (some k) ∧ nE μ l r
 | _, _ => False
theorem nE.mono {μ μ' : eZ} (hle : BU μ μ') : ∀ {l r : List (Nat × Nat)}, nE μ l r → nE μ' l r
 | [], [], _ => trivial
 | (_, _) :: _, (_, _) :: _, ⟨h1, h2, h3⟩ => ⟨h1, hle _ _ h2, nE.mono hle h3⟩
 | [], _ :: _, h => h.elim
 | _ :: _, [], h => by cases h
theorem qg : ∀ {l r : List (Nat × Nat)} {μ μ' : eZ}, yW l r μ = some μ' → BU μ μ' ∧ nE μ' l r
 | [], [], μ, μ', h => by simp only [yW, Option.some.injEq] at h; subst h; exact ⟨.bh _, trivial⟩
 | (n, sz) :: l, (k, sz') :: r, μ, μ', h => by
  simp only [yW] at h
  split at h
  ·rename_i e
   split at h
   ·rename_i μ1 h1
    obtain ⟨g1, g2⟩ := gj h1
    obtain ⟨k1, k2⟩ := qg h
    exact ⟨BU.trans g2 k1, e, k1 _ _ g1, k2⟩
   ·cases h
  ·cases h
 | [], _ :: _, μ, μ', h => by simp [yW] at h
 | _ :: _, [], μ, μ', h => by simp [yW] at h
def tD (μ : eZ) (x : SV) : cp → Prop
 | .d _ => True
 | .own m => (∃ k, x = .v (.c (.own k)) ∧ jt μ m = some (some k)) ∨ (x = .v (.c .gE) ∧ jt μ m = some none)
 | .ref m sz => ∃ k, x = .v (.c (.ref k sz 0 0)) ∧ jt μ m = some (some k)
 | .cW c => x = .v (.c (.cW c))
 | .cm f ns => ∃ ms, x = .v (.c (.cm f ms)) ∧ nE μ ns ms
 | .cw m sz => ∃ k off len, x = .v (.c (.cw k sz off len)) ∧ jt μ m = some (some k)
theorem tD.mono {μ μ' : eZ} (hle : BU μ μ') {x : SV} {p : cp} (h : tD μ x p) : tD μ' x p := by
 cases p with
 | d c => trivial
 | own m => exact h.imp (fun ⟨k, h1, h2⟩ => ⟨k, h1, hle _ _ h2⟩) (fun ⟨h1, h2⟩ => ⟨h1, hle _ _ h2⟩)
 | ref m sz => obtain ⟨k, h1, h2⟩ := h; exact ⟨k, h1, hle _ _ h2⟩
 | cW c => exact h
 | cm f ns => obtain ⟨ms, h1, h2⟩ := h; exact ⟨ms, h1, h2.mono hle⟩
 | cw m sz => obtain ⟨k, off, len, h1, h2⟩ := h; exact ⟨k, off, len, h1, hle _ _ h2⟩
theorem vN {N : Nat} {s : SS} {i : Nat} {p : cp} {l : List (Nat × cp)} {μ μ' : eZ} (h : dg N s ((i, p) :: l) μ = some μ') :
  ∃ μ1, BU μ μ1 ∧ tD μ1 (s.get N i) p ∧ dg N s l μ1 = some μ' := by
 cases p with
 | d c => exact ⟨μ, .bh _, trivial, h⟩
 | own m =>
  simp only [dg] at h
  split at h
  ·rename_i k hk
   split at h
   ·rename_i μ1 h1
    obtain ⟨g1, g2⟩ := gj h1
    exact ⟨μ1, g2, .inl ⟨k, hk, g1⟩, h⟩
   ·cases h
  ·rename_i hk
   split at h
   ·rename_i μ1 h1
    obtain ⟨g1, g2⟩ := gj h1
    exact ⟨μ1, g2, .inr ⟨hk, g1⟩, h⟩
   ·cases h
  ·cases h
 | ref m sz =>
  simp only [dg] at h
  split at h
  ·rename_i k sz' hk
   split at h
   ·rename_i e
    subst e
    split at h
    ·rename_i μ1 h1
     obtain ⟨g1, g2⟩ := gj h1
     exact ⟨μ1, g2, ⟨k, hk, g1⟩, h⟩
    ·cases h
   ·cases h
  ·cases h
 | cW c =>
  simp only [dg] at h
  split at h
  ·rename_i c' hk
   split at h
   ·rename_i e; subst e; exact ⟨μ, .bh _, hk, h⟩
   ·cases h
  ·cases h
 | cm f ns =>
  simp only [dg] at h
  split at h
  ·rename_i f' ms hk
   split at h
   ·rename_i e
    subst e
    split at h
    ·rename_i μ1 h1
     obtain ⟨g1, g2⟩ := qg h1
     exact ⟨μ1, g1, ⟨ms, hk, g2⟩, h⟩
    ·cases h
   ·cases h
  ·cases h
 | cw m sz =>
  simp only [dg] at h
  split at h
  ·rename_i k sz' off len hk
   split at h
   ·rename_i e
    subst e
    split at h
    ·rename_i μ1 h1
     obtain ⟨g1, g2⟩ := gj h1
     exact ⟨μ1, g2, ⟨k, off, len, hk, g1⟩, h⟩
    ·cases h
   ·cases h
  ·cases h
theorem nJ {N : Nat} {s : SS} : ∀ {l : List (Nat × cp)} {μ μ' : eZ}, dg N s l μ = some μ' → BU μ μ' ∧ ∀ i p, (i, p) ∈ l → tD μ' (s.get N i) p
 | [], μ, μ', h => by simp only [dg, Option.some.injEq] at h; subst h; exact ⟨.bh _, by simp⟩
 | (i, p) :: l, μ, μ', h => by
  obtain ⟨μ1, h1, h2, h3⟩ := vN h
  obtain ⟨k1, k2⟩ := nJ h3
  refine ⟨h1.trans k1, fun j q hm => ?_⟩
  rcases List.mem_cons.1 hm with e | hm
  ·cases e; exact h2.mono k1
  ·exact k2 j q hm
inductive dj (μ : eZ) : List PC → List CV → Prop
 | nil : dj μ [] []
 | d {t : Ty} {x : CV} {l : List PC} {xs : List CV} (h : dj μ l xs) : dj μ (.d t :: l) (x :: xs)
 | own {m k : Nat} {l : List PC} {xs : List CV} (hk : jt μ m = some (some k)) (h : dj μ l xs) : dj μ (.own m :: l) (.own k :: xs)
 | gE {m : Nat} {l : List PC} {xs : List CV} (hk : jt μ m = some none) (h : dj μ l xs) : dj μ (.own m :: l) (.gE :: xs)
 | cW {c : KC} {l : List PC} {xs : List CV} (h : dj μ l xs) : dj μ (.cW c :: l) (.cW c :: xs)
 | ref {m k sz : Nat} {l : List PC} {xs : List CV} (hk : jt μ m = some (some k)) (h : dj μ l xs) : dj μ (.ref m sz :: l) (.ref k sz 0 0 :: xs)
 | cm {f : Option FuncId × TypeId} {ns ms : List (Nat × Nat)} {l : List PC} {xs : List CV} (hk : nE μ ns ms) (h : dj μ l xs) : dj μ (.cm f ns :: l) (.cm f ms :: xs)
theorem dj.mono {μ μ' : eZ} (hle : BU μ μ') {l : List PC} {xs : List CV} (h : dj μ l xs) : dj μ' l xs := by
 induction h with
 | nil => exact .nil
 | d _ ih => exact .d ih
 | own hk _ ih => exact .own (hle _ _ hk) ih
 | gE hk _ ih => exact .gE (hle _ _ hk) ih
 | cW _ ih => exact .cW ih
 | ref hk _ ih => exact .ref (hle _ _ hk) ih
 | cm hk _ ih => exact .cm (hk.mono hle) ih
theorem eK : ∀ {l : List PC} {xs : List CV} {μ μ' : eZ}, cz l xs μ = some μ' → BU μ μ' ∧ dj μ' l xs
 | [], [], μ, μ', h => by simp only [cz, Option.some.injEq] at h; subst h; exact ⟨fun _ _ h => h, .nil⟩
 | [], _ :: _, μ, μ', h => by simp [cz] at h
 | p :: l, [], μ, μ', h => by cases p <;> simp [cz] at h
 | .d t :: l, x :: xs, μ, μ', h => by
  simp only [cz] at h
  obtain ⟨h1, h2⟩ := eK h
  exact ⟨h1, .d h2⟩
 | .own m :: l, x :: xs, μ, μ', h => by
  cases x with
  | own k =>
   simp only [cz] at h
   split at h
   ·rename_i μ1 h1
    obtain ⟨g1, g2⟩ := gj h1
    obtain ⟨k1, k2⟩ := eK h
    exact ⟨fun a y hy => k1 a y (g2 a y hy), .own (k1 _ _ g1) k2⟩
   ·cases h
  | gE =>
   simp only [cz] at h
   split at h
   ·rename_i μ1 h1
    obtain ⟨g1, g2⟩ := gj h1
    obtain ⟨k1, k2⟩ := eK h
    exact ⟨fun a y hy => k1 a y (g2 a y hy), .gE (k1 _ _ g1) k2⟩
   ·cases h
  | _ => simp [cz] at h
 | .cW c :: l, x :: xs, μ, μ', h => by
  cases x with
  | cW c' =>
   simp only [cz] at h
   split at h
   ·rename_i e
    subst e
    obtain ⟨k1, k2⟩ := eK h
    exact ⟨k1, .cW k2⟩
   ·cases h
  | _ => simp [cz] at h
 | .ref m sz :: l, x :: xs, μ, μ', h => by
  cases x with
  | ref k sz' i off =>
   cases i with
   | succ i => simp [cz] at h
   | zero =>
    cases off with
    | succ off => simp [cz] at h
    | zero =>
     simp only [cz] at h
     split at h
     ·rename_i e
      subst e
      split at h
      ·rename_i μ1 h1
       obtain ⟨g1, g2⟩ := gj h1
       obtain ⟨k1, k2⟩ := eK h
       exact ⟨fun a y hy => k1 a y (g2 a y hy), .ref (k1 _ _ g1) k2⟩
      ·cases h
     ·cases h
  | _ => simp [cz] at h
 | .cm f ns :: l, x :: xs, μ, μ', h => by
  cases x with
  | cm f' ms =>
   simp only [cz] at h
   split at h
   ·rename_i e
    subst e
    split at h
    ·rename_i μ1 h1
     obtain ⟨g1, g2⟩ := qg h1
     obtain ⟨k1, k2⟩ := eK h
     exact ⟨g1.trans k1, .cm (g2.mono k1) k2⟩
    ·cases h
   ·cases h
  | _ => simp [cz] at h
theorem iL {O : ah} : ∀ {l : List (Nat × eO)} {μ μ' : eZ}, lD O l μ = some μ' → BU μ μ' ∧
  ∀ n cs, (n, .box cs) ∈ l → ∃ k xs, jt μ' n = some (some k) ∧ ad k O = some (.box xs) ∧ dj μ' cs xs
 | [], μ, μ', h => by simp only [lD, Option.some.injEq] at h; subst h; exact ⟨fun _ _ h => h, by simp⟩
 | (n, .arr ts) :: l, μ, μ', h => by
  obtain ⟨h1, h2⟩ := iL (l := l) h
  exact ⟨h1, fun m cs hm => h2 m cs (by simpa using hm)⟩
 | (n, .mp kk k) :: l, μ, μ', h => by
  obtain ⟨h1, h2⟩ := iL (l := l) h
  exact ⟨h1, fun m cs hm => h2 m cs (by simpa using hm)⟩
 | (n, .box cs) :: l, μ, μ', h => by
  simp only [lD] at h
  split at h
  ·rename_i k hk
   split at h
   ·rename_i xs hxs
    split at h
    ·rename_i μ1 h1
     obtain ⟨g1, g2⟩ := eK h1
     obtain ⟨k1, k2⟩ := iL (l := l) h
     refine ⟨fun a y hy => k1 a y (g1 a y hy), fun m cs' hm => ?_⟩
     simp only [List.mem_cons, Prod.mk.injEq, eO.box.injEq] at hm
     rcases hm with ⟨rfl, rfl⟩ | hm
     ·exact ⟨k, xs, k1 _ _ (g1 _ _ hk), hxs, g2.mono k1⟩
     ·exact k2 m cs' hm
    ·cases h
   ·cases h
  ·cases h
theorem rm : ∀ {l : List Nat} {n : Nat}, n ∈ l → jt (xK l) n = some (some n)
 | [], n, h => by simp at h
 | p :: l, n, h => by
  simp only [xK, jt]
  by_cases e : p = n
  ·subst e; simp
  ·simp only [e, if_false]
   exact rm (by simpa [Ne.symm e] using h)
theorem oZ : ∀ {μ : eZ} {n k : Nat}, jt μ n = some (some k) → k ∈ kJ μ
 | [], n, k, h => by simp [jt] at h
 | (m, x) :: r, n, k, h => by
  simp only [jt] at h
  split at h
  ·simp only [Option.some.injEq] at h; subst h; simp [kJ]
  ·have := oZ h
   cases x <;> simp [kJ, this]
theorem zS : ∀ {μ : eZ}, (kJ μ).Nodup → ∀ {n m k : Nat}, jt μ n = some (some k) → jt μ m = some (some k) → n = m
 | [], _, n, m, k, h, _ => by simp [jt] at h
 | (a, x) :: r, hn, n, m, k, h1, h2 => by
  simp only [jt] at h1 h2
  have hr : (kJ r).Nodup := by cases x <;> simp_all [kJ]
  split at h1
  ·rename_i e1
   simp only [Option.some.injEq] at h1; subst h1
   split at h2
   ·rename_i e2; rw [← e1, ← e2]
   ·simp only [kJ, List.nodup_cons] at hn
    exact absurd (oZ h2) hn.1
  ·split at h2
   ·simp only [Option.some.injEq] at h2; subst h2
    simp only [kJ, List.nodup_cons] at hn
    exact absurd (oZ h1) hn.1
   ·exact zS hr h1 h2
def Ic : cp → Option SV
 | .d _ => none
 | .own m => some (.v (.c (.own m)))
 | .ref m sz => some (.v (.c (.ref m sz 0 0)))
 | .cW c => some (.v (.c (.cW c)))
 | .cm f ns => some (.v (.c (.cm f ns)))
 | .cw _ _ => none
theorem gV {R : Type} {N : Nat} {s : SS} {b : Option R} : ∀ {l : List (Nat × cp)} {z : hP R l}, vJ N s b l = some z → b = some (kL l z) ∧
  ∀ i sv, (i, sv) ∈ ju l z → (∃ c x, sv = CT.sv c x ∧ toCT s.objs c (s.get N i) = some x ∧ (i, .d c) ∈ l) ∨ (∃ p, (i, p) ∈ l ∧ Ic p = some sv) ∨ ∃ m sz k sz' off len, (i, .cw m sz) ∈ l ∧ s.get N i = .v (.c (.cw k sz' off len)) ∧ sv = .v (.c (.cw m sz off len))
 | [], z, h => ⟨h, by simp [ju]⟩
 | (n, .d c) :: l, z, h => by
  simp only [vJ] at h
  split at h
  ·rename_i x y h1 h2
   simp only [Option.some.injEq] at h; subst h
   obtain ⟨k1, k2⟩ := gV (l := l) h2
   refine ⟨k1, fun i sv hm => ?_⟩
   simp only [ju, List.mem_cons, Prod.mk.injEq] at hm
   rcases hm with ⟨rfl, rfl⟩ | hm
   ·exact .inl ⟨c, x, rfl, h1, List.mem_cons_self ..⟩
   ·rcases k2 i sv hm with ⟨c', x', e1, e2, e3⟩ | ⟨p, e1, e2⟩ | ⟨m', sz', k', sz'', off', len', e1, e2, e3⟩
    ·exact .inl ⟨c', x', e1, e2, List.mem_cons_of_mem _ e3⟩
    ·exact .inr (.inl ⟨p, List.mem_cons_of_mem _ e1, e2⟩)
    ·exact .inr (.inr ⟨m', sz', k', sz'', off', len', List.mem_cons_of_mem _ e1, e2, e3⟩)
  ·cases h
 | (n, .own m) :: l, z, h => by
  obtain ⟨k1, k2⟩ := gV (l := l) (z := z) h
  refine ⟨k1, fun i sv hm => ?_⟩
  simp only [ju, List.mem_cons, Prod.mk.injEq] at hm
  rcases hm with ⟨rfl, rfl⟩ | hm
  ·exact .inr (.inl ⟨_, List.mem_cons_self .., rfl⟩)
  ·rcases k2 i sv hm with ⟨c', x', e1, e2, e3⟩ | ⟨p, e1, e2⟩ | ⟨m', sz', k', sz'', off', len', e1, e2, e3⟩
   ·exact .inl ⟨c', x', e1, e2, List.mem_cons_of_mem _ e3⟩
   ·exact .inr (.inl ⟨p, List.mem_cons_of_mem _ e1, e2⟩)
   ·exact .inr (.inr ⟨m', sz', k', sz'', off', len', List.mem_cons_of_mem _ e1, e2, e3⟩)
 | (n, .ref m sz) :: l, z, h => by
  obtain ⟨k1, k2⟩ := gV (l := l) (z := z) h
  refine ⟨k1, fun i sv hm => ?_⟩
  simp only [ju, List.mem_cons, Prod.mk.injEq] at hm
  rcases hm with ⟨rfl, rfl⟩ | hm
  ·exact .inr (.inl ⟨_, List.mem_cons_self .., rfl⟩)
  ·rcases k2 i sv hm with ⟨c', x', e1, e2, e3⟩ | ⟨p, e1, e2⟩ | ⟨m', sz', k', sz'', off', len', e1, e2, e3⟩
   ·exact .inl ⟨c', x', e1, e2, List.mem_cons_of_mem _ e3⟩
   ·exact .inr (.inl ⟨p, List.mem_cons_of_mem _ e1, e2⟩)
   ·exact .inr (.inr ⟨m', sz', k', sz'', off', len', List.mem_cons_of_mem _ e1, e2, e3⟩)
 | (n, .cW c) :: l, z, h => by
  obtain ⟨k1, k2⟩ := gV (l := l) (z := z) h
  refine ⟨k1, fun i sv hm => ?_⟩
  simp only [ju, List.mem_cons, Prod.mk.injEq] at hm
  rcases hm with ⟨rfl, rfl⟩ | hm
  ·exact .inr (.inl ⟨_, List.mem_cons_self .., rfl⟩)
  ·rcases k2 i sv hm with ⟨c', x', e1, e2, e3⟩ | ⟨p, e1, e2⟩ | ⟨m', sz', k', sz'', off', len', e1, e2, e3⟩
   ·exact .inl ⟨c', x', e1, e2, List.mem_cons_of_mem _ e3⟩
   ·exact .inr (.inl ⟨p, List.mem_cons_of_mem _ e1, e2⟩)
   ·exact .inr (.inr ⟨m', sz', k', sz'', off', len', List.mem_cons_of_mem _ e1, e2, e3⟩)
 | (n, .cm f ns) :: l, z, h => by
  obtain ⟨k1, k2⟩ := gV (l := l) (z := z) h
  refine ⟨k1, fun i sv hm => ?_⟩
  simp only [ju, List.mem_cons, Prod.mk.injEq] at hm
  rcases hm with ⟨rfl, rfl⟩ | hm
  ·exact .inr (.inl ⟨_, List.mem_cons_self .., rfl⟩)
  ·rcases k2 i sv hm with ⟨c', x', e1, e2, e3⟩ | ⟨p, e1, e2⟩ | ⟨m', sz', k', sz'', off', len', e1, e2, e3⟩
   ·exact .inl ⟨c', x', e1, e2, List.mem_cons_of_mem _ e3⟩
   ·exact .inr (.inl ⟨p, List.mem_cons_of_mem _ e1, e2⟩)
   ·exact .inr (.inr ⟨m', sz', k', sz'', off', len', List.mem_cons_of_mem _ e1, e2, e3⟩)
 | (n, .cw m sz) :: l, z, h => by
  simp only [vJ] at h
  split at h
  ·rename_i x y h1 h2
   simp only [Option.some.injEq] at h; subst h
   obtain ⟨k1, k2⟩ := gV (l := l) h2
   refine ⟨k1, fun i sv hm => ?_⟩
   simp only [ju, List.mem_cons, Prod.mk.injEq] at hm
   rcases hm with ⟨rfl, rfl⟩ | hm
   ·unfold Nw at h1
    split at h1
    ·rename_i k sz' off len e
     cases h1
     exact .inr (.inr ⟨m, sz, k, sz', off, len, List.mem_cons_self .., e, rfl⟩)
    ·cases h1
   ·rcases k2 i sv hm with ⟨c', x', e1, e2, e3⟩ | ⟨p, e1, e2⟩ | ⟨m', sz', k', sz'', off', len', e1, e2, e3⟩
    ·exact .inl ⟨c', x', e1, e2, List.mem_cons_of_mem _ e3⟩
    ·exact .inr (.inl ⟨p, List.mem_cons_of_mem _ e1, e2⟩)
    ·exact .inr (.inr ⟨m', sz', k', sz'', off', len', List.mem_cons_of_mem _ e1, e2, e3⟩)
  ·cases h
def lW (μ : eZ) (O : ah) (n : Nat) (l : List (Nat × eO)) : SO → Prop
 | .arr ts x => (∃ k, jt μ n = some (some k) ∧ ad k O = some (.arr ts x)) ∨ (jt μ n = some none ∧ x = [])
 | .mp kk v x => ∃ k, jt μ n = some (some k) ∧ ad k O = some (.mp kk v x)
 | .box ys => ∃ cs xs k y, ys = iH cs y ∧ jt μ n = some (some k) ∧ ad k O = some (.box xs) ∧ ny O cs xs = some y ∧ (n, .box cs) ∈ l
theorem lW.mem {μ : eZ} {O : ah} {n : Nat} {l l' : List (Nat × eO)} (hl : ∀ x ∈ l, x ∈ l') : ∀ {so : SO}, lW μ O n l so → lW μ O n l' so
 | .arr _ _, h => h
 | .mp _ _ _, h => h
 | .box _, ⟨cs, xs, k, y, h1, h2, h3, h4, h5⟩ => ⟨cs, xs, k, y, h1, h2, h3, h4, hl _ h5⟩
theorem kx {μ : eZ} {O : ah} : ∀ {l : List (Nat × eO)} {b : mz l}, zg μ O l = some b → ∀ n so, (n, so) ∈ fT l b → lW μ O n l so
 | [], b, h => by simp [fT]
 | (m, .mp kk v) :: l, b, h => by
  intro n so hm
  have ext : ∀ x ∈ l, x ∈ (m, eO.mp kk v) :: l := fun x hx => List.mem_cons_of_mem _ hx
  simp only [zg] at h
  split at h
  ·rename_i k y h1 h2
   split at h
   ·rename_i kk' k' x hx
    split at h
    ·rename_i hb
     obtain ⟨rfl, rfl⟩ := hb
     simp only [Option.some.injEq] at h; subst h
     simp only [fT, List.mem_cons, Prod.mk.injEq] at hm
     rcases hm with ⟨rfl, rfl⟩ | hm
     ·exact ⟨k, h1, hx⟩
     ·exact (kx h2 n so hm).mem ext
    ·cases h
   ·cases h
  ·cases h
 | (m, .arr ts) :: l, b, h => by
  intro n so hm
  have ext : ∀ x ∈ l, x ∈ (m, eO.arr ts) :: l := fun x hx => List.mem_cons_of_mem _ hx
  simp only [zg] at h
  split at h
  ·rename_i k y h1 h2
   split at h
   ·rename_i us x hx
    split at h
    ·rename_i hb
     have e := cf.beq_eq us ts hb
     subst e
     simp only [Option.some.injEq] at h; subst h
     simp only [fT, List.mem_cons, Prod.mk.injEq] at hm
     rcases hm with ⟨rfl, rfl⟩ | hm
     ·exact .inl ⟨k, h1, hx⟩
     ·exact (kx h2 n so hm).mem ext
    ·cases h
   ·cases h
  ·rename_i y h1 h2
   simp only [Option.some.injEq] at h; subst h
   simp only [fT, List.mem_cons, Prod.mk.injEq] at hm
   rcases hm with ⟨rfl, rfl⟩ | hm
   ·exact .inr ⟨h1, rfl⟩
   ·exact (kx h2 n so hm).mem ext
  ·cases h
 | (m, .box cs) :: l, b, h => by
  intro n so hm
  have ext : ∀ x ∈ l, x ∈ (m, eO.box cs) :: l := fun x hx => List.mem_cons_of_mem _ hx
  simp only [zg] at h
  split at h
  ·rename_i k y h1 h2
   split at h
   ·rename_i xs hx
    split at h
    ·rename_i a ha
     simp only [Option.some.injEq] at h; subst h
     simp only [fT, List.mem_cons, Prod.mk.injEq] at hm
     rcases hm with ⟨rfl, rfl⟩ | hm
     ·exact ⟨cs, xs, k, a, rfl, h1, hx, ha, List.mem_cons_self ..⟩
     ·exact (kx h2 n so hm).mem ext
    ·cases h
   ·cases h
  ·cases h
theorem qx : ∀ {O : ah} {n : Nat} {o : SO}, ad n O = some o → (n, o) ∈ O
 | [], n, o, h => by simp [ad] at h
 | (m, p) :: r, n, o, h => by
  simp only [ad] at h
  split at h
  ·rename_i e
   subst e
   simp only [Option.some.injEq] at h; subst h; exact List.mem_cons_self ..
  ·exact List.mem_cons_of_mem _ (qx h)
theorem EH : ∀ {E : List (Nat × SV)} {n : Nat}, cr E n = .any ∨ (n, cr E n) ∈ E
 | [], n => .inl rfl
 | (m, x) :: r, n => by
  by_cases e : m = n
  ·subst e; simp [cr]
  ·simp only [cr, e, if_false]
   rcases EH (E := r) (n := n) with h | h
   ·exact .inl h
   ·exact .inr (List.mem_cons_of_mem _ h)
theorem qY : ∀ {l : List (Nat × eO)} {n : Nat} (b : mz l), fA n l = true → (ad n (fT l b)).isSome = true
 | [], n, b, h => by simp [fA] at h
 | (m, o) :: l, n, b, h => by
  by_cases e : m = n
  ·subst e; cases o <;> simp [fT, ad]
  ·simp only [fA, e, if_false] at h
   have := qY (l := l) b.2 h
   cases o <;> simp [fT, ad, e, this]
theorem jB : ∀ {l : List (Nat × eO)} {n : Nat} (b : mz l), jf n l = true → ∃ cs, ad n (fT l b) = some (.box cs)
 | [], n, b, h => by simp [jf] at h
 | (m, .arr ts) :: l, n, b, h => by
  by_cases e : m = n
  ·simp [jf, e] at h
  ·simp only [jf, e, if_false] at h
   obtain ⟨cs, hcs⟩ := jB (l := l) b.2 h
   exact ⟨cs, by simp [fT, ad, e, hcs]⟩
 | (m, .mp kk k) :: l, n, b, h => by
  by_cases e : m = n
  ·simp [jf, e] at h
  ·simp only [jf, e, if_false] at h
   obtain ⟨cs, hcs⟩ := jB (l := l) b.2 h
   exact ⟨cs, by simp [fT, ad, e, hcs]⟩
 | (m, .box cs) :: l, n, b, h => by
  by_cases e : m = n
  ·subst e; exact ⟨_, by simp [fT, ad]; rfl⟩
  ·simp only [jf, e, if_false] at h
   obtain ⟨cs, hcs⟩ := jB (l := l) b.2 h
   exact ⟨cs, by simp [fT, ad, e, hcs]⟩
def Lk : cp → List Nat
 | .own m => [m]
 | .ref m _ => [m]
 | .cm _ ns => ns.map (·.1)
 | .cw m _ => [m]
 | _ => []
theorem pZ : ∀ {l : List (Nat × cp)}, fY os l = true → ∀ i p, (i, p) ∈ l → ∀ n ∈ Lk p, fA n os = true
 | [], _ => by simp
 | (j, q) :: l, h => by
  have key : (∀ n ∈ Lk q, fA n os = true) ∧ fY os l = true := by
   cases q with
   | d c => exact ⟨by simp [Lk], h⟩
   | cW c => exact ⟨by simp [Lk], h⟩
   | own m => simp only [fY, Bool.and_eq_true] at h; exact ⟨by simpa [Lk] using h.1, h.2⟩
   | ref m sz => simp only [fY, Bool.and_eq_true] at h; exact ⟨by simpa [Lk] using h.1, h.2⟩
   | cw m sz => simp only [fY, Bool.and_eq_true] at h; exact ⟨by simpa [Lk] using h.1, h.2⟩
   | cm f ns =>
    simp only [fY, Bool.and_eq_true, List.all_eq_true] at h
    refine ⟨fun n hn => ?_, h.2⟩
    obtain ⟨x, hx, rfl⟩ := List.mem_map.1 hn
    exact h.1 x hx
  intro i p hm
  rcases List.mem_cons.1 hm with e | hm
  ·cases e; exact key.1
  ·exact pZ key.2 i p hm
theorem jE : ∀ {l : List (Nat × eO)}, uJ os l = true → ∀ n cs, (n, .box cs) ∈ l → ia os cs = true
 | [], _ => by simp
 | (j, .arr ts) :: l, h => fun n cs hm => jE (l := l) h n cs (by simpa using hm)
 | (j, .mp kk k) :: l, h => fun n cs hm => jE (l := l) h n cs (by simpa using hm)
 | (j, .box ds) :: l, h => fun n cs hm => by
  simp only [uJ, Bool.and_eq_true] at h
  rcases List.mem_cons.1 hm with e | hm
  ·cases e; exact h.1
  ·exact jE h.2 n cs hm
theorem CG {l : List (Nat × eO)} : ∀ {b : mz l}, (l.all fun x => decide (x.1 < top)) = true → ∀ n so, ad n (fT l b) = some so → n < top := by
 induction l with
 | nil => intro b _ n so h; simp [fT, ad] at h
 | cons p l ih =>
  obtain ⟨m, o⟩ := p
  intro b h n so hl
  simp only [List.all_cons, Bool.and_eq_true, decide_eq_true_eq] at h
  by_cases e : m = n
  ·subst e; exact h.1
  ·have : ad n (fT l b.2) = some so := by cases o <;> simpa [fT, ad, e] using hl
   exact ih h.2 n so this
end Go.Abs
