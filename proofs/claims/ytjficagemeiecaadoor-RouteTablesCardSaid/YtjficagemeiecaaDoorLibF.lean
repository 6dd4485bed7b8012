/- The walks' library, part F: what a region of the program does in an abstract state, and its soundness. -/
import Derived.Test.YtjficagemeiecaaDoorLibE
namespace Go.Abs
open Go.RowKit
structure KT (T : Nat → Prop) (κ : CV → CV) : Prop where
  fix : ∀ c, (∀ m, T m → clCV m c = true) → κ c = c
  cl : ∀ d c, clCV d c = true → clCV d (κ c) = true
theorem kill_cl {d m : Nat} {c : CV} (h : clCV d c = true) : clCV d (killC m c) = true := by
  cases c <;> simp only [killC] <;> first | exact h | (split <;> first | rfl | exact h)
theorem frz_cl {m d : Nat} {ts : Tys} {l : List ts.T} {c : CV} (h : clCV m c = true) : clCV m (frzC d ts l c) = true := by
  cases c <;> simp only [frzC] <;> first | exact h | (split <;> first | rfl | exact h)
theorem unown_cl {d m sz k : Nat} {c : CV} (h : clCV d c = true) : clCV d (unownC m sz k c) = true := by
  cases c <;> simp only [unownC] <;> first | exact h | skip
  rename_i n
  split
  · rename_i e; subst e; exact h
  · exact h
theorem KT.of {T : Nat → Prop} {m : Nat} {κ : CV → CV} (h : Kap m κ) (hc : ∀ d c, clCV d c = true → clCV d (κ c) = true) (hT : T m) : KT T κ := ⟨fun c hx => h.fix c (hx m hT), hc⟩
theorem KT.id' (T : Nat → Prop) : KT T (fun c => c) := ⟨fun _ _ => rfl, fun _ _ h => h⟩
theorem KT.comp {T : Nat → Prop} {κ κ' : CV → CV} (h : KT T κ) (k : KT T κ') : KT T (fun c => κ' (κ c)) := ⟨fun c hc => by rw [h.fix c hc, k.fix c hc], fun d c hc => k.cl d _ (h.cl d c hc)⟩
theorem KT.k {T : Nat → Prop} {κ : CV → CV} (h : KT T κ) (v : KV) : κ (.k v) = .k v := h.fix _ fun _ _ => rfl
theorem KT.vv {T : Nat → Prop} {κ : CV → CV} (h : KT T κ) {x : VV} (hx : ∀ m, T m → clVV m x = true) : mapVC κ x = x := by
  cases x with
  | c x => simp only [mapVC, h.fix x hx]
  | g l => simp only [mapVC]; congr 1; exact (List.map_congr_left fun a ha => h.fix a fun m hm => List.all_eq_true.1 (hx m hm) a ha).trans (List.map_id' l)
theorem KT.sv {T : Nat → Prop} {κ : CV → CV} (h : KT T κ) {x : SV} (hx : ∀ m, T m → clSV m x = true) : mapSC κ x = x := by
  cases x with
  | v x => simp only [mapSC, h.vv hx]
  | tup l => simp only [mapSC]; congr 1; exact (List.map_congr_left fun a ha => h.vv fun m hm => List.all_eq_true.1 (hx m hm) a ha).trans (List.map_id' l)
theorem KT.clV {T : Nat → Prop} {κ : CV → CV} (h : KT T κ) {d : Nat} {x : VV} (hx : clVV d x = true) : clVV d (mapVC κ x) = true := by
  cases x with
  | c x => exact h.cl d x hx
  | g l => simp only [mapVC, clVV, List.all_map]; exact List.all_eq_true.2 fun c hc => h.cl d c (List.all_eq_true.1 hx c hc)
theorem KT.clS {T : Nat → Prop} {κ : CV → CV} (h : KT T κ) {d : Nat} {x : SV} (hx : clSV d x = true) : clSV d (mapSC κ x) = true := by
  cases x with
  | v x => exact h.clV hx
  | tup l => simp only [mapSC, clSV, List.all_map]; exact List.all_eq_true.2 fun c hc => h.clV (List.all_eq_true.1 hx c hc)
theorem soMap_comp (κ κ' : CV → CV) (o : SO) : soMap κ' (soMap κ o) = soMap (fun c => κ' (κ c)) o := by
  cases o with
  | box cs => simp only [soMap, List.map_map]; rfl
  | arr ts l => rfl
  | mp _ _ _ => rfl
theorem soMap_id (o : SO) : soMap (fun c => c) o = o := by cases o <;> simp [soMap]
structure Fp (T : Nat → Prop) (dst : Option Tmp) (s s' : SS) : Prop where
  same : ∀ t, dst ≠ some t → (∀ m, T m → clSV m (lkE s.env t) = true) → lkE s'.env t = lkE s.env t
  cl : ∀ t d, dst ≠ some t → clSV d (lkE s.env t) = true → clSV d (lkE s'.env t) = true
  obj : ∃ κ, KT T κ ∧ ∀ n, ¬ T n → lookS n s'.objs = (lookS n s.objs).map (soMap κ)
section
variable {T : Nat → Prop}
theorem Fp.rfl' (dst : Option Tmp) (s : SS) : Fp T dst s s := ⟨fun _ _ _ => rfl, fun _ _ _ h => h, _, KT.id' T, fun n _ => by cases lookS n s.objs <;> simp [soMap_id]⟩
theorem Fp.weak {dst : Option Tmp} {s s' : SS} (h : Fp T none s s') : Fp T dst s s' := ⟨fun t _ => h.same t (by simp), fun t d _ => h.cl t d (by simp), h.obj⟩
theorem Fp.trans {dst : Option Tmp} {a b c : SS} (h : Fp T dst a b) (k : Fp T dst b c) : Fp T dst a c := by
  obtain ⟨κ, h1, h2⟩ := h.obj
  obtain ⟨κ', k1, k2⟩ := k.obj
  refine ⟨fun t ht hc => ?_, fun t d ht hc => k.cl t d ht (h.cl t d ht hc), _, h1.comp k1, fun n hn => ?_⟩
  · have e := h.same t ht hc
    rw [k.same t ht (by rw [e]; exact hc), e]
  · rw [k2 n hn, h2 n hn]
    cases lookS n a.objs with
    | none => rfl
    | some o => simp only [Option.map_some]; rw [soMap_comp]
theorem Fp.map {s : SS} {κ : CV → CV} (h : KT T κ) {O : SObjs} (ho : ∀ n, ¬ T n → lookS n O = lookS n s.objs) : Fp T none s ⟨mapEC κ s.env, mapOC κ O⟩ := by
  have ha : κ .any = .any := h.fix _ fun _ _ => rfl
  refine ⟨fun t _ hc => ?_, fun t d _ hc => ?_, κ, h, fun n hn => ?_⟩
  · simp only [lkE_map κ ha]; exact h.sv hc
  · simp only [lkE_map κ ha]; exact h.clS hc
  · simp only [lookS_map, ho n hn]
theorem Fp.put {dst : Option Tmp} {s s' : SS} (h : Fp T none s s') (v : SV) : Fp T dst s (s'.put dst v) := by
  cases dst with
  | none => exact h
  | some d =>
    refine ⟨fun t ht hc => ?_, fun t e ht hc => ?_, h.obj⟩
    · simp only [SS.put, lkE]; rw [if_neg fun e => ht (by rw [e])]; exact h.same t (by simp) hc
    · simp only [SS.put, lkE]; rw [if_neg fun e => ht (by rw [e])]; exact h.cl t e (by simp) hc
theorem Fp.objs {s s' : SS} (h : Fp T none s s') {O : SObjs} (ho : ∀ n, ¬ T n → lookS n O = lookS n s'.objs) : Fp T none s ⟨s'.env, O⟩ := by
  obtain ⟨κ, h1, h2⟩ := h.obj
  exact ⟨h.same, h.cl, κ, h1, fun n hn => by simp only; rw [ho n hn, h2 n hn]⟩
theorem cons_ne {d : Nat} {o : SO} {O : SObjs} (hd : T d) : ∀ n, ¬ T n → lookS n ((d, o) :: O) = lookS n O := fun n hn => by
  simp only [lookS]; rw [if_neg fun e => hn (by rw [← e]; exact hd)]
theorem upd_ne {d : Nat} {o : SO} {O : SObjs} (hd : T d) : ∀ n, ¬ T n → lookS n (updS d o O) = lookS n O := fun n hn => lookS_upd_ne o (fun e => hn (by rw [← e]; exact hd)) O
theorem drop_ne {d : Nat} {O : SObjs} (hd : T d) : ∀ n, ¬ T n → lookS n (dropS d O) = lookS n O := fun n hn => lookS_drop_ne (fun e => hn (by rw [← e]; exact hd)) O
theorem fresh_fp {d : Nat} {s s' : SS} (hd : T d) (h : freshS d s = some s') : Fp T none s s' := by
  unfold freshS at h
  split at h
  · cases h; exact .map (KT.of (kap_kill d) (fun _ _ h => kill_cl h) hd) fun _ _ => rfl
  · cases h
theorem freeze_fp {n : Nat} {s s' : SS} (hn : T n) (h : freezeS n s = some s') : Fp T none s s' := by
  unfold freezeS at h
  split at h
  · cases h; exact .map (KT.of (kap_frz n _ _) (fun _ _ h => frz_cl h) hn) (drop_ne hn)
  · cases h
theorem nm_fp {C : Cfg} {s s' : SS} (h : Fp T none s s') {o : Operand} (ho : NmS T (sev C s o)) : NmS T (sev C s' o) := fun d hd => by
  have hc := ho d hd
  cases o with
  | tmp t =>
    simp only [sev, SS.get] at hc ⊢
    split
    · rename_i ht
      rw [if_pos ht] at hc
      exact h.cl t d (by simp) hc
    · rfl
  | _ => exact hc
theorem firstC_T : ∀ {l : List CV} {n : Nat}, (∀ c ∈ l, NmC T c) → firstC l = some n → T n
  | [], n, _, h => by cases h
  | c :: r, n, hl, h => by
    have hc := hl c (List.mem_cons_self ..)
    have ih : firstC r = some n → T n := firstC_T fun c hc => hl c (List.mem_cons_of_mem _ hc)
    cases c with
    | own m => simp only [firstC, Option.some.injEq] at h; subst h; exact hc.own
    | msl m _ _ _ => simp only [firstC, Option.some.injEq] at h; subst h; exact hc.msl
    | _ => exact ih h
theorem flat_T {C : Cfg} {s : SS} {xs : List Operand} (hx : ∀ o ∈ xs, NmS T (sev C s o)) : ∀ c ∈ (xs.flatMap fun o => cellsOfS (sev C s o)), NmC T c := by
  intro c hc d hd
  obtain ⟨o, ho, hc⟩ := List.mem_flatMap.1 hc
  have := hx o ho d hd
  cases hv : sev C s o with
  | tup l => rw [hv] at hc; cases hc
  | v x => cases x with
    | g l => rw [hv] at hc this; exact List.all_eq_true.1 this c hc
    | c y => rw [hv] at hc this; simp only [cellsOfS, List.mem_singleton] at hc; subst hc; exact this
theorem settle_fp {C : Cfg} {xs : List Operand} : ∀ (f : Nat) {s s' : SS}, (∀ o ∈ xs, NmS T (sev C s o)) → settleS C f xs s = some s' → Fp T none s s'
  | 0, s, s', _, h => by simp only [settleS, Option.some.injEq] at h; subst h; exact .rfl' _ _
  | f + 1, s, s', hx, h => by
    simp only [settleS] at h
    split at h
    · cases h; exact .rfl' _ _
    · rename_i n hn
      split at h
      · rename_i s2 h2
        have h3 := freeze_fp (firstC_T (flat_T hx) hn) h2
        exact h3.trans (settle_fp f (fun o ho => nm_fp h3 (hx o ho)) h)
      · cases h
theorem calm_fp {C : Cfg} {xs : List Operand} {s s' : SS} (hx : ∀ o ∈ xs, NmS T (sev C s o)) (h : calmS C xs s = some s') : Fp T none s s' := by
  unfold calmS at h
  split at h
  · rename_i s2 h2
    split at h
    · cases h; exact settle_fp 8 hx h2
    · cases h
  · cases h
theorem prep_fp {C : Cfg} {d : Nat} {xs : List Operand} {s s' : SS} (hd : T d) (hx : ∀ o ∈ xs, NmS T (sev C s o)) (h : prepS C d xs s = some s') : Fp T none s s' := by
  unfold prepS at h
  split at h
  · rename_i s2 h2
    split at h
    · rename_i s3 h3
      split at h
      · cases h; exact (calm_fp hx h2).trans (fresh_fp hd h3)
      · cases h
    · cases h
  · cases h
def tcO : Op → List Operand
  | .call { callee := .builtin .append, args, argTypes := _ } => args.toList.take 1
  | op => op.operands.toList
theorem tcO_sub : ∀ (op : Op), ∀ o ∈ tcO op, o ∈ op.operands.toList := by
  intro op o ho
  unfold tcO at ho
  split at ho
  · simp only [Op.operands, Call.operands]
    have := List.mem_of_mem_take ho
    simpa using this
  · exact ho
theorem sH_fp {C : Cfg} {s : SS} {dst : Option Tmp} {op : Op} {c : List Bool} {v : SV} {s' : SS} (hd : ∀ d, dst = some d → T d) (hx : ∀ o ∈ tcO op, NmS T (sev C s o)) (hr : sH C s dst op = some (c, v, s')) : Fp T none s s' := by
  unfold sH at hr
  split at hr
  · rename_i d
    have hd := hd d rfl
    split at hr
    · split at hr
      · rename_i s2 h2
        split at hr
        · simp only [Option.some.injEq, Prod.mk.injEq] at hr
          obtain ⟨_, _, rfl⟩ := hr
          exact (fresh_fp hd h2).objs (cons_ne hd)
        · cases hr
      · cases hr
    · cases hr
  · rename_i d
    have hd := hd d rfl
    split at hr
    · split at hr
      · rename_i s2 h2
        split at hr
        all_goals first
          | (simp only [Option.some.injEq, Prod.mk.injEq] at hr
             obtain ⟨_, _, rfl⟩ := hr
             exact (fresh_fp hd h2).objs (cons_ne hd))
          | cases hr
      · cases hr
    · cases hr
  · rename_i T' len parts d
    have hd := hd d rfl
    split at hr
    · split at hr
      · rename_i s2 ts by_ h2 e
        split at hr
        · split at hr
          · simp only [Option.some.injEq, Prod.mk.injEq] at hr
            obtain ⟨_, _, rfl⟩ := hr
            exact (prep_fp hd (fun o ho => hx o (by simpa [tcO, Op.operands] using ho)) h2).objs (cons_ne hd)
          · cases hr
        · cases hr
      · cases hr
    · cases hr
  · rename_i d
    have hd := hd d rfl
    split at hr
    · split at hr
      · rename_i s2 h2
        split at hr
        · simp only [Option.some.injEq, Prod.mk.injEq] at hr
          obtain ⟨_, _, rfl⟩ := hr
          exact (fresh_fp hd h2).objs (cons_ne hd)
        · cases hr
      · cases hr
    · cases hr
  · rename_i d
    have hd := hd d rfl
    split at hr
    · split at hr
      · rename_i s2 h2
        split at hr
        · split at hr
          · simp only [Option.some.injEq, Prod.mk.injEq] at hr
            obtain ⟨_, _, rfl⟩ := hr
            exact (fresh_fp hd h2).objs (cons_ne hd)
          · cases hr
        · cases hr
      · cases hr
    · cases hr
  · rename_i T' x y
    have hxx := hx x (by simp [tcO, Op.operands])
    have hxy := hx y (by simp [tcO, Op.operands])
    split at hr
    · rename_i n sz i off D e1 e2
      rw [asC_eq e1] at hxx
      have hn : T n := hxx.c.ref
      split at hr
      · split at hr
        · split at hr
          · simp only [Option.some.injEq, Prod.mk.injEq] at hr
            obtain ⟨_, _, rfl⟩ := hr
            exact (Fp.rfl' none s).objs (upd_ne hn)
          · cases hr
        · cases hr
      · split at hr
        · rename_i s2 h2
          split at hr
          · split at hr
            · split at hr
              · simp only [Option.some.injEq, Prod.mk.injEq] at hr
                obtain ⟨_, _, rfl⟩ := hr
                exact (calm_fp (fun o ho => by simp only [List.mem_singleton] at ho; subst ho; exact hxy) h2).objs (upd_ne hn)
              · cases hr
            · cases hr
          · cases hr
        · cases hr
      · cases hr
    · cases hr
  · rename_i args at_ d
    have hd := hd d rfl
    split at hr
    · split at hr
      · rename_i x y T1 T2 e1 e2
        have hxx := hx x (by simp [tcO, e1])
        split at hr
        · split at hr
          · split at hr
            · split at hr
              · rename_i s2 h2
                simp only [Option.some.injEq, Prod.mk.injEq] at hr
                obtain ⟨_, _, rfl⟩ := hr
                exact (fresh_fp hd h2).objs (cons_ne hd)
              · cases hr
            · rename_i m e3
              have hm : T m := by rw [e3] at hxx; exact hxx.c.own
              split at hr
              · split at hr
                · split at hr
                  · rename_i s2 h2
                    simp only [Option.some.injEq, Prod.mk.injEq] at hr
                    obtain ⟨_, _, rfl⟩ := hr
                    exact ((Fp.map (KT.of (kap_kill m) (fun _ _ h => kill_cl h) hm) (drop_ne hm)).trans (fresh_fp hd h2)).objs (cons_ne hd)
                  · cases hr
                · cases hr
              · cases hr
            · cases hr
          · cases hr
        · cases hr
      · cases hr
    · cases hr
  · cases hr
theorem ret_fp {d : Nat} {s : SS} (hd : T d) : ∀ (r : RT) (y : r.T), ∀ n, ¬ T n → lookS n (retS d s r y).2.objs = lookS n s.objs
  | .v _, _ => fun _ _ => rfl
  | .tup _, _ => fun _ _ => rfl
  | .own _, _ => cons_ne hd
  | .box _, _ => cons_ne hd
  | .unit, _ => fun _ _ => rfl
theorem boxes_fp : ∀ {l : List AT} {xs : List SV} {o : outsT (bxsOf l)} {O : SObjs}, (∀ x ∈ xs, NmS T x) → ∀ n, ¬ T n → lookS n (setBoxes l xs o O) = lookS n O
  | [], xs, _, O, _, n, _ => by cases xs <;> rfl
  | .v _ :: l, [], _, O, _, n, _ => rfl
  | .v _ :: l, _ :: xs, o, O, hx, n, hn => boxes_fp (l := l) (fun x h => hx x (List.mem_cons_of_mem _ h)) n hn
  | .bx ts :: l, [], _, O, _, n, _ => rfl
  | .bx ts :: l, x :: xs, o, O, hx, n, hn => by
    have h0 := hx x (List.mem_cons_self ..)
    have hx' : ∀ x ∈ xs, NmS T x := fun x h => hx x (List.mem_cons_of_mem _ h)
    cases x with
    | tup _ => rfl
    | v y => cases y with
      | g _ => rfl
      | c z => cases z with
        | ref m a b c =>
          have e : setBoxes (.bx ts :: l) (.v (.c (.ref m a b c)) :: xs) o O = setBoxes l xs o.2 (updS m (.box ((ts.kvs o.1).map CV.k)) O) := rfl
          rw [e, boxes_fp hx' n hn]
          exact upd_ne h0.c.ref n hn
        | _ => rfl
theorem ss_eta {s : SS} {E : List (Nat × SV)} (h : s.env = E) : s = ⟨E, s.objs⟩ := by cases s; subst h; rfl
variable {R R1 : Type} {r : R} {r1 : R1} {K : SS → Option R} {K1 : SS → Option R1}
theorem sCall_fp {C : Cfg} {FT : List (Nat × Entry)} {s : SS} {dst : Option Tmp} {f : FuncId} {xs : List Operand} (hd : T (dst.getD 999998)) (hx : ∀ o ∈ xs, NmS T (sev C s o))
    (hK : ∀ s', Fp T dst s s' → K s' = some r → K1 s' = some r1) (hr : sCall C FT false s dst f xs K = some r) : sCall C FT false s dst f xs K1 = some r1 := by
  unfold sCall at hr ⊢
  split at hr
  · cases hr
  · rename_i e he
    have key : ∀ s2, Fp T none s s2 → (match toArgs s2.objs e.sig.args (xs.map (sev C s2)) with
      | none => none
      | some a => if dst.getD 999998 < top ∧ e.sig.args.length ≤ 1000 ∧ okNames (bxNames e.sig.args (xs.map (sev C s2))) = true then
        obind (e.F a) fun r =>
          K ((retS (dst.getD 999998) ⟨s2.env, setBoxes e.sig.args (xs.map (sev C s2)) r.2 s2.objs⟩ e.sig.ret r.1).2.put dst
            (retS (dst.getD 999998) ⟨s2.env, setBoxes e.sig.args (xs.map (sev C s2)) r.2 s2.objs⟩ e.sig.ret r.1).1)
        else none) = some r → (match toArgs s2.objs e.sig.args (xs.map (sev C s2)) with
      | none => none
      | some a => if dst.getD 999998 < top ∧ e.sig.args.length ≤ 1000 ∧ okNames (bxNames e.sig.args (xs.map (sev C s2))) = true then
        obind (e.F a) fun r =>
          K1 ((retS (dst.getD 999998) ⟨s2.env, setBoxes e.sig.args (xs.map (sev C s2)) r.2 s2.objs⟩ e.sig.ret r.1).2.put dst
            (retS (dst.getD 999998) ⟨s2.env, setBoxes e.sig.args (xs.map (sev C s2)) r.2 s2.objs⟩ e.sig.ret r.1).1)
        else none) = some r1 := by
      intro s2 h2 hr
      split at hr
      · cases hr
      · rename_i a ha
        split at hr
        · rename_i hc; rw [if_pos hc]
          obtain ⟨y, hy, hr⟩ := obind_some hr
          rw [hy]
          simp only [obind, Option.bind]
          refine hK _ (Fp.put ?_ _) hr
          have e1 := ss_eta (s := (retS (dst.getD 999998) ⟨s2.env, setBoxes e.sig.args (xs.map (sev C s2)) y.2 s2.objs⟩ e.sig.ret y.1).2) (E := s2.env) (by rw [ret_env])
          rw [e1]
          refine h2.objs fun n hn => ?_
          rw [ret_fp hd _ _ n hn]
          exact boxes_fp (fun z hz => by obtain ⟨o, ho, rfl⟩ := List.mem_map.1 hz; exact nm_fp h2 (hx o ho)) n hn
        · cases hr
    cases hb : (bxsOf e.sig.args).isEmpty && gRT e.sig.ret with
    | true =>
      rw [hb] at hr
      simp only at hr ⊢
      split at hr
      · cases hr
      · rename_i s2 h2
        exact key s2 (fresh_fp hd h2) hr
    | false =>
      rw [hb] at hr
      simp only at hr ⊢
      split at hr
      · cases hr
      · rename_i s2 h2
        exact key s2 (prep_fp hd hx h2) hr
theorem sOp0_fp {C : Cfg} {FT : List (Nat × Entry)} {s : SS} {dst : Option Tmp} {op : Op} (hd : T (dst.getD 999998)) (hx : ∀ o ∈ tcO op, NmS T (sev C s o))
    (hK : ∀ s', Fp T dst s s' → K s' = some r → K1 s' = some r1) (hr : sOp0 C FT false s dst op K = some r) : sOp0 C FT false s dst op K1 = some r1 := by
  unfold sOp0 at hr ⊢
  split at hr
  · exact sCall_fp hd (fun o ho => hx o (by simp only [tcO, Op.operands, Call.operands]; simpa using Or.inr ho)) hK hr
  · rename_i c a b
    split at hr
    · rename_i t e
      rcases br_cases hr with ⟨h1, h2⟩ | ⟨h1, h2⟩
      · subst h1; simp only [br, if_true]; exact hK _ ((Fp.rfl' none s).put _) h2
      · subst h1; simp only [br]; exact hK _ ((Fp.rfl' none s).put _) h2
    · cases hr
  · split at hr
    · rename_i c v e
      exact need_ext hr fun hr => hK _ ((Fp.rfl' none s).put _) hr
    · rename_i e
      simp only [Bool.false_eq_true, if_false] at hr ⊢
      split at hr
      · rename_i c v s' e2
        exact need_ext hr fun hr => hK _ ((sH_fp (fun d h => by subst h; exact hd) hx e2).put _) hr
      · cases hr
theorem sOp_fp {C : Cfg} {FT : List (Nat × Entry)} {s : SS} {dst : Option Tmp} {op : Op} (hd : T (dst.getD 999998)) (hx : ∀ o ∈ tcO op, NmS T (sev C s o))
    (hK : ∀ s', Fp T dst s s' → K s' = some r → K1 s' = some r1) (hr : sOp C FT false s dst op K = some r) : sOp C FT false s dst op K1 = some r1 := by
  unfold sOp at hr ⊢
  simp only at hr ⊢
  split at hr
  · rename_i t e
    have ht : Operand.tmp t ∈ tcO op := by
      unfold appT at e
      split at e
      · split at e
        · rename_i args _ t' _ e2
          cases e
          simp [tcO, e2]
        · cases e
      · cases e
    have go : ∀ s2, Fp T none s s2 → sOp0 C FT false s2 dst op K = some r → sOp0 C FT false s2 dst op K1 = some r1 :=
      fun s2 h2 hr => sOp0_fp hd (fun o ho => nm_fp h2 (hx o ho)) (fun s' h' => hK s' (h2.weak.trans h')) hr
    simp only [trimB, show Nat.ble top top = true from rfl] at hr ⊢
    split at hr
    · rename_i y e2
      have hn0 := hx _ ht
      have e3 : sev C s (.tmp t) = .v (.c y) := e2
      rw [e3] at hn0
      unfold trimC at hr ⊢
      split at hr
      · rename_i n sz off j
        have hn : T n := hn0.c.msl
        split at hr
        · rename_i ts l e4
          split at hr
          · rename_i hsz
            rw [if_pos hsz]
            refine need_ext hr fun hr => go _ ?_ hr
            have h1 : Fp T none s ⟨mapEC (unownC n ts.len (lLen l)) s.env, updS n (.arr ts (lSub l 0 j)) (mapOC (unownC n ts.len (lLen l)) s.objs)⟩ :=
              (Fp.map (KT.of (kap_unown n _ _) (fun _ _ h => unown_cl h) hn) (fun _ _ => rfl)).objs (upd_ne hn)
            refine ⟨fun t' _ hc => ?_, fun t' d _ hc => ?_, h1.obj⟩
            · have hne : t ≠ t' := fun e5 => by
                subst e5
                have := hc n hn
                unfold SS.get at e2
                split at e2
                · rw [e2] at this; simp [clSV, clVV, clCV] at this
                · cases e2
              simp only [SS.put, lkE, if_neg hne]
              exact h1.same t' (by simp) hc
            · simp only [SS.put, lkE]
              split
              · rename_i e5
                subst e5
                unfold SS.get at e2
                split at e2
                · rw [e2] at hc; simpa [clSV, clVV, clCV] using hc
                · cases e2
              · exact h1.cl t' d (by simp) hc
          · rename_i hsz
            rw [if_neg hsz]
            exact go _ (.rfl' _ _) hr
        · exact go _ (.rfl' _ _) hr
      · exact go _ (.rfl' _ _) hr
    · exact go _ (.rfl' _ _) hr
  · exact sOp0_fp hd hx hK hr
structure Fp2 (T E : Nat → Prop) (dst : Option Tmp) (s s' : SS) : Prop where
  same : ∀ t, dst ≠ some t → (∀ m, E m → clSV m (lkE s.env t) = true) → lkE s'.env t = lkE s.env t
  cl : ∀ t d, dst ≠ some t → clSV d (lkE s.env t) = true → clSV d (lkE s'.env t) = true
  obj : ∃ κ, KT E κ ∧ ∀ n, ¬ T n → lookS n s'.objs = (lookS n s.objs).map (soMap κ)
theorem Fp.two {dst : Option Tmp} {s s' : SS} (h : Fp T dst s s') : Fp2 T T dst s s' := ⟨h.same, h.cl, h.obj⟩
theorem Fp.two' {T E : Nat → Prop} (hET : ∀ n, E n → T n) {dst : Option Tmp} {s s' : SS} (h : Fp E dst s s') : Fp2 T E dst s s' := ⟨h.same, h.cl, by
  obtain ⟨κ, h1, h2⟩ := h.obj
  exact ⟨κ, h1, fun n hn => h2 n fun h => hn (hET n h)⟩⟩
theorem calm_nl {C : Cfg} {s s2 : SS} {y : Operand} (hy : nlSV (sev C s y) = true) (h : calmS C [y] s = some s2) : s2 = s := by
  have hf : firstC ([y].flatMap fun o => cellsOfS (sev C s o)) = none := firstC_nl <| List.all_eq_true.2 fun c hc => by
    simp only [List.flatMap_cons, List.flatMap_nil, List.append_nil] at hc
    cases hv : sev C s y with
    | tup l => rw [hv] at hc; cases hc
    | v x => cases x with
      | g l => rw [hv] at hc hy; exact List.all_eq_true.1 hy c hc
      | c z => rw [hv] at hc hy; simp only [cellsOfS, List.mem_singleton] at hc; subst hc; exact hy
  unfold calmS at h
  simp only [settleS, hf] at h
  cases h; rfl
theorem store_fp {C : Cfg} {FT : List (Nat × Entry)} {s : SS} {X : TypeId} {x y : Operand} (hx : NmS T (sev C s x)) (hy : nlSV (sev C s y) = true) {E : Nat → Prop}
    (hK : ∀ s', Fp2 T E none s s' → K s' = some r → K1 s' = some r1) (hr : sOp C FT false s none (.store X x y) K = some r) : sOp C FT false s none (.store X x y) K1 = some r1 := by
  unfold sOp at hr ⊢
  simp only [appT] at hr ⊢
  unfold sOp0 at hr ⊢
  simp only [Bool.false_eq_true, if_false] at hr ⊢
  split at hr
  · rename_i c v e
    simp [sR] at e
  · rename_i e
    split at hr
    · rename_i c v s' e2
      refine need_ext hr fun hr => hK _ ?_ hr
      have hb : ∀ {n : Nat} {o : SO}, T n → Fp2 T E none s ⟨s.env, updS n o s.objs⟩ := fun hn => ⟨fun _ _ _ => rfl, fun _ _ _ h => h, _, KT.id' E, fun n' hn' => by rw [upd_ne hn n' hn']; cases lookS n' s.objs <;> simp [soMap_id]⟩
      unfold sH at e2
      simp only at e2
      split at e2
      · rename_i n sz i off D e3 e4
        rw [asC_eq e3] at hx
        have hn : T n := hx.c.ref
        split at e2
        · split at e2
          · split at e2
            · simp only [Option.some.injEq, Prod.mk.injEq] at e2
              obtain ⟨_, _, rfl⟩ := e2
              exact hb hn
            · cases e2
          · cases e2
        · split at e2
          · rename_i s2 h2
            have h2 := calm_nl hy h2
            subst h2
            split at e2
            · split at e2
              · split at e2
                · simp only [Option.some.injEq, Prod.mk.injEq] at e2
                  obtain ⟨_, _, rfl⟩ := e2
                  exact hb hn
                · cases e2
              · cases e2
            · cases e2
          · cases e2
        · cases e2
      · cases e2
    · cases hr
theorem calm_none {C : Cfg} {s s2 : SS} {xs : List Operand} (hf : firstC (xs.flatMap fun o => cellsOfS (sev C s o)) = none) (h : calmS C xs s = some s2) : s2 = s := by
  unfold calmS at h
  simp only [settleS, hf] at h
  cases h; rfl
theorem call_fp2 {C : Cfg} {FT : List (Nat × Entry)} {s : SS} {dst : Option Tmp} {f : FuncId} {xs : List Operand} {E : Nat → Prop} (hET : ∀ n, E n → T n) (hd : E (dst.getD 999998)) (hx : ∀ o ∈ xs, NmS T (sev C s o))
    (hf : firstC (xs.flatMap fun o => cellsOfS (sev C s o)) = none)
    (hK : ∀ s', Fp2 T E dst s s' → K s' = some r → K1 s' = some r1) (hr : sCall C FT false s dst f xs K = some r) : sCall C FT false s dst f xs K1 = some r1 := by
  unfold sCall at hr ⊢
  split at hr
  · cases hr
  · rename_i e he
    have key : ∀ s2, Fp E none s s2 → Fp T none s s2 → (match toArgs s2.objs e.sig.args (xs.map (sev C s2)) with
      | none => none
      | some a => if dst.getD 999998 < top ∧ e.sig.args.length ≤ 1000 ∧ okNames (bxNames e.sig.args (xs.map (sev C s2))) = true then
        obind (e.F a) fun r =>
          K ((retS (dst.getD 999998) ⟨s2.env, setBoxes e.sig.args (xs.map (sev C s2)) r.2 s2.objs⟩ e.sig.ret r.1).2.put dst
            (retS (dst.getD 999998) ⟨s2.env, setBoxes e.sig.args (xs.map (sev C s2)) r.2 s2.objs⟩ e.sig.ret r.1).1)
        else none) = some r → (match toArgs s2.objs e.sig.args (xs.map (sev C s2)) with
      | none => none
      | some a => if dst.getD 999998 < top ∧ e.sig.args.length ≤ 1000 ∧ okNames (bxNames e.sig.args (xs.map (sev C s2))) = true then
        obind (e.F a) fun r =>
          K1 ((retS (dst.getD 999998) ⟨s2.env, setBoxes e.sig.args (xs.map (sev C s2)) r.2 s2.objs⟩ e.sig.ret r.1).2.put dst
            (retS (dst.getD 999998) ⟨s2.env, setBoxes e.sig.args (xs.map (sev C s2)) r.2 s2.objs⟩ e.sig.ret r.1).1)
        else none) = some r1 := by
      intro s2 h2 h2T hr
      split at hr
      · cases hr
      · rename_i a ha
        split at hr
        · rename_i hc; rw [if_pos hc]
          obtain ⟨y, hy, hr⟩ := obind_some hr
          rw [hy]
          simp only [obind, Option.bind]
          refine hK _ ?_ hr
          have e1 := ss_eta (s := (retS (dst.getD 999998) ⟨s2.env, setBoxes e.sig.args (xs.map (sev C s2)) y.2 s2.objs⟩ e.sig.ret y.1).2) (E := s2.env) (by rw [ret_env])
          have ho : ∀ n, ¬ T n → lookS n (retS (dst.getD 999998) ⟨s2.env, setBoxes e.sig.args (xs.map (sev C s2)) y.2 s2.objs⟩ e.sig.ret y.1).2.objs = lookS n s2.objs := fun n hn => by
            rw [ret_fp (hET _ hd) _ _ n hn]
            exact boxes_fp (fun z hz => by obtain ⟨o, ho, rfl⟩ := List.mem_map.1 hz; exact nm_fp h2T (hx o ho)) n hn
          generalize (retS (dst.getD 999998) ⟨s2.env, setBoxes e.sig.args (xs.map (sev C s2)) y.2 s2.objs⟩ e.sig.ret y.1).2 = s3 at e1 ho
          generalize (retS (dst.getD 999998) ⟨s2.env, setBoxes e.sig.args (xs.map (sev C s2)) y.2 s2.objs⟩ e.sig.ret y.1).1 = v
          have hlk : ∀ t, dst ≠ some t → lkE (s3.put dst v).env t = lkE s2.env t := fun t ht => by
            rw [e1]
            cases dst with
            | none => rfl
            | some d => simp only [SS.put, lkE]; rw [if_neg (fun e => ht (by rw [e]))]
          have hob : (s3.put dst v).objs = s3.objs := by cases dst <;> rfl
          obtain ⟨κ, hκ, hko⟩ := h2.obj
          refine ⟨fun t ht hc => (hlk t ht).trans (h2.same t (by simp) hc), fun t d ht hc => by rw [hlk t ht]; exact h2.cl t d (by simp) hc, κ, hκ, fun n hn => ?_⟩
          rw [hob, ho n hn]
          exact hko n fun h => hn (hET n h)
        · cases hr
    cases hb : (bxsOf e.sig.args).isEmpty && gRT e.sig.ret with
    | true =>
      rw [hb] at hr
      simp only at hr ⊢
      split at hr
      · cases hr
      · rename_i s2 h2
        exact key s2 (fresh_fp hd h2) (fresh_fp (hET _ hd) h2) hr
    | false =>
      rw [hb] at hr
      simp only at hr ⊢
      split at hr
      · cases hr
      · rename_i s2 h2
        refine key s2 ?_ (prep_fp (hET _ hd) hx h2) hr
        unfold prepS at h2
        split at h2
        · rename_i s3 h3
          have := calm_none hf h3
          subst this
          split at h2
          · rename_i s4 h4
            split at h2
            · cases h2; exact fresh_fp hd h4
            · cases h2
          · cases h2
        · cases h2
end
end Go.Abs
namespace Go.Abs
open Go.RowKit
variable {s s1 : SS} {d : Nat} {dst : Option Tmp} {l1 : List (Nat × Nat)}
def Eqv (s s1 : SS) : Prop := Ext (fun _ => false) (fun _ => false) none none s s1
theorem zok_none : Zok (fun _ => false) none none := fun m _ => ⟨fun y h => (by cases h), fun cs h => (by cases h)⟩
theorem Eqv.of (h : ∀ t, lkE s1.env t = lkE s.env t) (k : ∀ n, lookS n s1.objs = lookS n s.objs) : Eqv s s1 := ⟨fun t _ => h t, fun _ _ h => (by cases h), fun n => by simp [k n], fun n h => by cases h⟩
theorem Eqv.e (h : Eqv s s1) (t : Nat) : lkE s1.env t = lkE s.env t := h.env t rfl
theorem Eqv.o (h : Eqv s s1) (n : Nat) : lookS n s1.objs = lookS n s.objs := by rw [h.obj]; simp
theorem Eqv.rfl' (s : SS) : Eqv s s := .of (fun _ => rfl) fun _ => rfl
theorem Eqv.trans {a b c : SS} (h : Eqv a b) (k : Eqv b c) : Eqv a c := .of (fun t => (k.e t).trans (h.e t)) fun n => (k.o n).trans (h.o n)
structure Cl (d : Nat) (s : SS) : Prop where
 no : lookS d s.objs = none
 env : ∀ t, clSV d (lkE s.env t) = true
 obj : ∀ n cs, lookS n s.objs = some (.box cs) → cs.all (clCV d) = true
theorem cl_env : ∀ {E : List (Nat × SV)}, clEnv d E = true → ∀ t, clSV d (lkE E t) = true
 | [], _, t => rfl
 | (n, x) :: r, h, t => by
  simp only [clEnv, Bool.and_eq_true] at h
  simp only [lkE]
  split
  ·exact h.1
  ·exact cl_env h.2 t
theorem cl_obj : ∀ {O : SObjs}, clObj d O = true → ∀ n cs, lookS n O = some (.box cs) → cs.all (clCV d) = true
 | [], _, n, cs, h => by cases h
 | (m, .box cs') :: r, h, n, cs, hl => by
  simp only [clObj, Bool.and_eq_true] at h
  simp only [lookS] at hl
  split at hl
  ·cases hl; exact h.1
  ·exact cl_obj h.2 n cs hl
 | (m, .arr ts l) :: r, h, n, cs, hl => by
  simp only [clObj] at h
  simp only [lookS] at hl
  split at hl
  ·cases hl
  ·exact cl_obj h n cs hl
 | (m, .mp _ _ _) :: r, h, n, cs, hl => by
  simp only [clObj] at h
  simp only [lookS] at hl
  split at hl
  ·cases hl
  ·exact cl_obj h n cs hl
theorem cl_of (h : cleanB d s = true) : Cl d s := by
 simp only [cleanB, Bool.and_eq_true, Option.isNone_iff_eq_none] at h
 exact ⟨h.1, cl_env h.2.1, cl_obj h.2.2⟩
theorem Cl.ext {kE kO : Nat → Bool} {x : Option SV} {ob : Option SO} (h : Cl d s) (he : Ext kE kO x ob s s1) (hz : Zok kO x ob) (hd : kO d = false) (hx : ∀ t, kE t = true → x = none → clSV d (lkE s1.env t) = true) : Cl d s1 := by
 obtain ⟨z1, z2⟩ := hz d hd
 refine ⟨he.no' hd h.no, fun t => ?_, fun n cs hn => ?_⟩
 ·cases hk : kE t with
  | false => rw [he.env t hk]; exact h.env t
  | true =>
   cases x with
   | none => exact hx t hk rfl
   | some y => rw [he.at_ t y hk rfl]; exact z1 y rfl
 ·rw [he.obj] at hn
  split at hn
  ·exact z2 cs hn
  ·exact h.obj n cs hn
open Classical in
noncomputable def PK (p : Prop) : Option Unit := if p then some () else none
theorem pk_of {p : Prop} (h : p) : PK p = some () := by unfold PK; rw [if_pos h]
theorem of_pk {p : Prop} (h : PK p = some ()) : p := by
 unfold PK at h
 split at h
 ·assumption
 ·cases h
theorem bs_gentle {op : Op} (h : isBS op = true) : gentleO op = true := by cases op <;> first | rfl | (simp [isBS] at h)
section
variable (C : Cfg) (FT : List (Nat × Entry)) (ops : Array Oper) (Q : SS → Prop)
def Fls (l : List (Nat × Nat)) (s : SS) : Prop := ∀ p ∈ l, 4 ≤ p.1 → ∃ o d, ops[p.2]? = some o ∧ o.dst = some d ∧ Cl d s ∧ ∀ t, .tmp t ∈ o.op.operands.toList → (∃ q ∈ l, dstJ ops q.2 = some t) ∨ nlSV (s.get C.N t) = true
def Sb (s : SS) (T : Op → List Nat) (j : Nat) : Prop := ∃ o t, ops[j]? = some o ∧ o.dst = some t ∧ ∀ m ∈ T o.op, clSV m (lkE s.env t) = true ∧ ∀ y ∈ o.op.operands.toList, clSV m (sev C s y) = true
def WX : List Nat → List (Nat × Nat) → SS → Prop
 | _, [], s => ∃ s0, Eqv s0 s ∧ Q s0
 | dn, (k, i) :: l, s => Fls C ops ((k, i) :: l) s ∧ ∃ o, ops[i]? = some o ∧
   ((k < 2 ∧ ∃ c v, sR C s o.op = some (c, v) ∧ allT c ∧ WX (i :: dn) l (s.put o.dst v)) ∨
   (2 ≤ k ∧ k ≠ 5 ∧ (4 ≤ k → gentleO o.op = true) ∧ (k < 4 → ∀ j ∈ dn, reach ops 3 i j = true ∨ Sb C ops s (tnR C s o) j) ∧ sOp C FT false s o.dst o.op (fun s' => PK (WX dn l s')) = some ()) ∨
   (k = 5 ∧ isBS o.op = true ∧ sOp C FT false s o.dst o.op (fun s' => PK (∃ s2, freezeS (o.dst.getD 999998) s' = some s2 ∧ WX dn l s2)) = some ()))
variable {C FT ops Q}
theorem fls_of {l : List (Nat × Nat)} (h : flsB C ops l s = true) : Fls C ops l s := by
 intro p hp hk
 have h1 := List.all_eq_true.1 h p hp
 simp only [Nat.ble_eq_true_of_le hk, Bool.not_true, Bool.false_or] at h1
 unfold flB at h1
 split at h1
 ·cases h1
 ·rename_i o ho
  split at h1
  ·cases h1
  ·rename_i d hd
   simp only [Bool.and_eq_true] at h1
   refine ⟨o, d, ho, hd, cl_of h1.1, fun t ht => ?_⟩
   have h2 := List.all_eq_true.1 h1.2 _ ht
   simp only [Bool.or_eq_true, List.any_eq_true, beq_iff_eq] at h2
   exact h2
theorem st_of {T : Op → List Nat} {j : Nat} (h : stB C ops s T j = true) : Sb C ops s T j := by
 unfold stB at h
 split at h
 ·cases h
 ·rename_i o ho
  split at h
  ·cases h
  ·rename_i t ht
   refine ⟨o, t, ho, ht, fun m hm => ?_⟩
   have h1 := List.all_eq_true.1 h m hm
   simp only [Bool.and_eq_true] at h1
   exact ⟨h1.1, fun y hy => List.all_eq_true.1 h1.2 y hy⟩
theorem sGoW_wx {R : Type} {K : SS → Option R} {r : R} : ∀ (l : List (Nat × Nat)) {dn : List Nat} {s : SS}, sGoW C FT ops dn l s K = some r → WX C FT ops (fun s => K s = some r) dn l s
 | [], dn, s, h => ⟨s, .rfl' s, h⟩
 | (k, i) :: l, dn, s, h => by
  unfold sGoW at h
  split at h
  ·cases h
  rename_i hfl
  refine ⟨fls_of hfl, ?_⟩
  split at h
  ·cases h
  rename_i o ho
  refine ⟨o, ho, ?_⟩
  split at h
  ·rename_i hk
   have hk2 : k < 2 := by
    rcases Nat.lt_or_ge k 2 with h | h
    ·exact h
    ·rw [Nat.ble_eq_true_of_le h] at hk; cases hk
   split at h
   ·rename_i c x hr
    obtain ⟨hc, hn⟩ := need_some h
    exact .inl ⟨hk2, c, x, hr, hc, sGoW_wx l hn⟩
   ·cases h
  ·rename_i hk
   have hk2 := Nat.le_of_ble_eq_true hk
   split at h
   ·rename_i hk4
    have hk4 : k < 4 := by
     rcases Nat.lt_or_ge k 4 with h | h
     ·exact h
     ·rw [Nat.ble_eq_true_of_le h] at hk4; cases hk4
    split at h
    ·rename_i hst
     refine .inr (.inl ⟨hk2, by omega, fun h => by omega, fun _ j hj => ?_, ?_⟩)
     ·have := List.all_eq_true.1 hst j hj
      simp only [Bool.or_eq_true] at this
      exact this.imp id st_of
     ·exact sOp_kd (fun s' _ h => pk_of (sGoW_wx l h)) h
    ·cases h
   ·rename_i hk4
    have hk4 := Nat.le_of_ble_eq_true hk4
    split at h
    ·split at h
     ·rename_i hg
      refine .inr (.inr ⟨rfl, hg, ?_⟩)
      refine sOp_kd (fun s' _ h => pk_of ?_) h
      split at h
      ·rename_i s2 h2; exact ⟨s2, h2, sGoW_wx l h⟩
      ·cases h
     ·cases h
    ·rename_i h5
     have h5 : k ≠ 5 := h5
     split at h
     ·rename_i hg
      refine .inr (.inl ⟨hk2, h5, fun _ => hg, fun h => by omega, ?_⟩)
      exact sOp_kd (fun s' _ h => pk_of (sGoW_wx l h)) h
     ·cases h
theorem offO_none (o : Operand) : offO (fun _ => false) o = true := by cases o <;> rfl
theorem tn_same {o : Oper} (h : ∀ y ∈ o.op.operands.toList, sev C s1 y = sev C s y) : tnS C s1 o = tnS C s o := by
 have : ∀ l : List Operand, (∀ y ∈ l, sev C s1 y = sev C s y) → (l.flatMap fun y => nmSV (sev C s1 y)) = l.flatMap fun y => nmSV (sev C s y) := by
  intro l
  induction l with
  | nil => intro _; rfl
  | cons a r ih => intro h; simp only [List.flatMap_cons]; rw [h a (List.mem_cons_self ..), ih fun y hy => h y (List.mem_cons_of_mem _ hy)]
 unfold tnS
 rw [this _ h]
theorem te_same {o : Oper} (h : ∀ y ∈ o.op.operands.toList, sev C s1 y = sev C s y) : tnE C s1 o = tnE C s o := by
 unfold tnE
 split
 ·rename_i x y e1 e2
  rw [h y (by rw [e2]; simp [Op.operands]), tn_same h]
 ·rename_i f args ats e2
  have h' : ∀ l : List Operand, (∀ y ∈ l, sev C s1 y = sev C s y) → (l.flatMap fun y => cellsOfS (sev C s1 y)) = l.flatMap fun y => cellsOfS (sev C s y) := by
   intro l
   induction l with
   | nil => intro _; rfl
   | cons a r ih => intro h; simp only [List.flatMap_cons]; rw [h a (List.mem_cons_self ..), ih fun y hy => h y (List.mem_cons_of_mem _ hy)]
  rw [h' args.toList fun y hy => h y (by rw [e2]; simp [Op.operands, Call.operands]; exact .inr (by simpa using hy)), tn_same h]
 ·rename_i args ats e2
  split
  ·rename_i x y e3
   rw [h x (by rw [e2]; simp [Op.operands, Call.operands, e3])]
  ·exact tn_same h
 ·exact tn_same h
theorem tr_same {o : Oper} (h : ∀ y ∈ o.op.operands.toList, sev C s1 y = sev C s y) : tnR C s1 o = tnR C s o := by
 funext op
 unfold tnR
 split
 ·exact te_same h
 ·exact tn_same h
theorem WX.eqv : ∀ {l : List (Nat × Nat)} {dn : List Nat} {s s1 : SS}, WX C FT ops Q dn l s → Eqv s s1 → WX C FT ops Q dn l s1
 | [], dn, s, s1, h, e => by
  obtain ⟨s0, h0, hq⟩ := h
  exact ⟨s0, h0.trans e, hq⟩
 | (k, i) :: l, dn, s, s1, h, e => by
  obtain ⟨hf, o, ho, h⟩ := h
  have hsv : ∀ x, sev C s1 x = sev C s x := fun x => Ext.sev e (offO_none x)
  refine ⟨fun p hp hk => ?_, o, ho, ?_⟩
  ·obtain ⟨o, d, h1, h2, h3, h4⟩ := hf p hp hk
   refine ⟨o, d, h1, h2, h3.ext e zok_none rfl (fun _ h _ => by cases h), fun t ht => ?_⟩
   rw [Ext.get e rfl]; exact h4 t ht
  ·rcases h with ⟨h1, c, v, h3, h4, h5⟩ | ⟨h1, h2, h3, hst, h4⟩ | ⟨h1, h2, h3⟩
   ·exact .inl ⟨h1, c, v, sR_up e.up (fun x _ => hsv x) h3, h4, WX.eqv h5 (e.put (fun _ _ => rfl) v)⟩
   ·refine .inr (.inl ⟨h1, h2, h3, fun hk j hj => ?_, sOp_ext e zok_none (fun x _ => offO_none x) (fun _ _ => rfl) (fun _ _ => rfl) rfl (fun s' s1' e' h' => pk_of (WX.eqv (of_pk h') e')) h4⟩)
    refine (hst hk j hj).imp id fun ⟨oj, tj, h5, h7, h6⟩ => ⟨oj, tj, h5, h7, fun m hm => ?_⟩
    rw [tr_same fun y _ => hsv y] at hm
    refine ⟨?_, fun y hy => ?_⟩
    ·rw [e.e]; exact (h6 m hm).1
    ·rw [hsv]; exact (h6 m hm).2 y hy
   ·refine .inr (.inr ⟨h1, h2, sOp_ext e zok_none (fun x _ => offO_none x) (fun _ _ => rfl) (fun _ _ => rfl) rfl (fun s' s1' e' h' => pk_of ?_) h3⟩)
    obtain ⟨s2, g1, g2⟩ := of_pk h'
    obtain ⟨s3, g3, g4⟩ := Ext.freeze e' zok_none g1
    exact ⟨s3, g3, WX.eqv g2 g4⟩
theorem WX.mono : ∀ {l : List (Nat × Nat)} {dn dn' : List Nat} {s : SS}, WX C FT ops Q dn l s → (∀ j ∈ dn', j ∈ dn) → WX C FT ops Q dn' l s
 | [], dn, dn', s, h, _ => h
 | (k, i) :: l, dn, dn', s, h, hd => by
  obtain ⟨hf, o, ho, h⟩ := h
  refine ⟨hf, o, ho, ?_⟩
  rcases h with ⟨h1, c, v, h3, h4, h5⟩ | ⟨h1, h2, h3, hst, h4⟩ | ⟨h1, h2, h3⟩
  ·refine .inl ⟨h1, c, v, h3, h4, h5.mono fun j hj => ?_⟩
   rcases List.mem_cons.1 hj with rfl | hj
   ·exact List.mem_cons_self ..
   ·exact List.mem_cons_of_mem _ (hd j hj)
  ·exact .inr (.inl ⟨h1, h2, h3, fun hk j hj => hst hk j (hd j hj), sOp_kd (fun s' _ h => pk_of ((of_pk h).mono hd)) h4⟩)
  ·refine .inr (.inr ⟨h1, h2, sOp_kd (fun s' _ h => pk_of ?_) h3⟩)
   obtain ⟨s2, g1, g2⟩ := of_pk h
   exact ⟨s2, g1, g2.mono hd⟩
theorem sev_put {v : SV} {x : Operand} (h : ∀ t, x = .tmp t → dst ≠ some t) : sev C (s.put dst v) x = sev C s x := by
 cases x with
 | tmp t =>
  cases dst with
  | none => rfl
  | some d =>
   have hne : d ≠ t := fun e => h t rfl (by rw [e])
   simp only [sev, SS.get, SS.put, lkE, if_neg hne]
 | _ => rfl
theorem sev_kd {s s' : SS} (hk : Kd dst s s') {x : Operand} (h : ∀ t, x = .tmp t → dst ≠ some t ∧ nlSV (s.get C.N t) = true) : sev C s' x = sev C s x := by
 cases x with
 | tmp t =>
  obtain ⟨h1, h2⟩ := h t rfl
  simp only [sev, SS.get] at h2 ⊢
  split
  ·rename_i ht
   rw [if_pos ht] at h2
   exact hk t h1 h2
  ·rfl
 | _ => rfl
theorem Kd.kp {s s' s2 : SS} (h : Kd dst s s') (k : Kp s' s2) : Kd dst s s2 := fun t ht hn => by
 have h1 := h t ht hn
 rw [k t (by rw [h1]; exact hn), h1]
theorem nl_op {op : Op} (h : ∀ t, .tmp t ∈ op.operands.toList → nlSV (s.get C.N t) = true) : ∀ o ∈ op.operands.toList, nlSV (sev C s o) = true := fun o ho => by
 cases o with
 | tmp t => exact h t ho
 | const v => exact nl_ofVS v
 | global g =>
  simp only [sev]
  cases lkGS gtabS g with
  | none => rfl
  | some e =>
   obtain ⟨ts, l⟩ := e
   match l with
   | [] => rfl
   | [x] => rfl
   | x :: y :: l => rfl
 | func f => rfl
theorem WX_out {k i d : Nat} {o : Oper} (ho : ops[i]? = some o) (hd : o.dst = some d) (hk : 4 ≤ k) {l2 : List (Nat × Nat)} : ∀ {l1 : List (Nat × Nat)} {dn : List Nat} {s : SS}, WX C FT ops Q dn (l1 ++ (k, i) :: l2) s →
  (∀ t, .tmp t ∈ o.op.operands.toList → ∀ q ∈ l1 ++ (k, i) :: l2, dstJ ops q.2 ≠ some t) → gentleO o.op = true ∧ ∃ v ob, GOut C FT d o.op s v ob
 | l1, dn, s, h, hop => by
  have hnl : ∀ t, .tmp t ∈ o.op.operands.toList → nlSV (s.get C.N t) = true := by
   intro t ht
   have hf : Fls C ops (l1 ++ (k, i) :: l2) s := by cases l1 with | nil => exact h.1 | cons a l => exact h.1
   obtain ⟨o', d', h1, _, _, h4⟩ := hf (k, i) (by simp) hk
   rw [ho] at h1; cases h1
   rcases h4 t ht with ⟨q, hq, hqt⟩ | h5
   ·exact absurd hqt (hop t ht q hq)
   ·exact h5
  cases l1 with
  | nil =>
   obtain ⟨_, o', ho', h⟩ := h
   rw [ho] at ho'; cases ho'
   rcases h with ⟨h1, _⟩ | ⟨h1, h2, h3, _, h4⟩ | ⟨h1, h2, h3⟩
   ·omega
   ·have hg := h3 (by omega)
    rw [hd] at h4
    exact ⟨hg, gentle_out hg (nl_op hnl) h4⟩
   ·rw [hd] at h3
    exact ⟨bs_gentle h2, gentle_out (bs_gentle h2) (nl_op hnl) h3⟩
  | cons q l1 =>
   obtain ⟨kq, j⟩ := q
   obtain ⟨_, oq, hoq, h⟩ := h
   have hop' : ∀ t, .tmp t ∈ o.op.operands.toList → ∀ q ∈ l1 ++ (k, i) :: l2, dstJ ops q.2 ≠ some t := fun t ht q hq => hop t ht q (by simp only [List.cons_append, List.mem_cons]; exact .inr hq)
   have hdq : ∀ t, .tmp t ∈ o.op.operands.toList → oq.dst ≠ some t := fun t ht e => hop t ht (kq, j) (by simp) (by simp [dstJ, hoq, e])
   have back : ∀ s', Kd oq.dst s s' → (gentleO o.op = true ∧ ∃ v ob, GOut C FT d o.op s' v ob) → gentleO o.op = true ∧ ∃ v ob, GOut C FT d o.op s v ob := by
    rintro s' hkd ⟨hg, v, ob, hG⟩
    refine ⟨hg, v, ob, hG.same fun x hx => ?_⟩
    symm
    exact sev_kd hkd fun t e => by subst e; exact ⟨hdq t hx, hnl t hx⟩
   rcases h with ⟨h1, c, v, h3, h4, h5⟩ | ⟨h1, h2, h3, _, h4⟩ | ⟨h1, h2, h3⟩
   ·have := WX_out ho hd hk h5 hop'
    exact back _ ((Kp.rfl' s).put oq.dst v) this
   ·apply Classical.byContradiction
    intro hno
    refine sOp_none (sOp_kd (r1 := ()) (K1 := fun _ => (none : Option Unit)) (fun s' hkd h' => ?_) h4)
    exact absurd (back s' hkd (WX_out ho hd hk (of_pk h') hop')) hno
   ·apply Classical.byContradiction
    intro hno
    refine sOp_none (sOp_kd (r1 := ()) (K1 := fun _ => (none : Option Unit)) (fun s' hkd h' => ?_) h3)
    obtain ⟨s2, g1, g2⟩ := of_pk h'
    exact absurd (back s2 (hkd.kp (freeze_kp g1)) (WX_out ho hd hk g2 hop')) hno
termination_by l1 => l1.length
def isN (d : Nat) : Nat → Bool := fun n => n == d
theorem isN_ne {d n : Nat} (h : n ≠ d) : isN d n = false := by simp [isN, h]
theorem isN_no {d n : Nat} (h : isN d n = false) : n ≠ d := by simpa [isN] using h
theorem isN_is {d n : Nat} (h : isN d n = true) : n = d := by simpa [isN] using h
abbrev ExN (d : Nat) (x : SV) (ob : Option SO) (s s1 : SS) : Prop := Ext (isN d) (isN d) (some x) ob s s1
theorem Ext.uniq {x : SV} {ob : Option SO} {s a b : SS} (h : ExN d x ob s a) (h' : ExN d x ob s b) : Eqv a b :=
 .of (fun t => by
  cases hk : isN d t with
  | false => rw [h'.env t hk, h.env t hk]
  | true => rw [h'.at_ t x hk rfl, h.at_ t x hk rfl]) fun n => by rw [h'.obj, h.obj]
def flS1 (d : Nat) (v : SV) (ob : SO) (s : SS) : SS := ⟨(d, v) :: mapEC (killC d) s.env, (d, ob) :: mapOC (killC d) s.objs⟩
theorem ext_fl1 {v : SV} {ob : SO} (h : Cl d s) : ExN d v (some ob) s (flS1 d v ob s) := by
 refine ⟨fun t ht => ?_, fun t y ht hy => ?_, fun n => ?_, fun n hn => by rw [isN_is hn]; exact h.no⟩
 ·have e := isN_no ht
  simp only [flS1, lkE]
  rw [if_neg (Ne.symm e), lkE_map _ (kap_kill d).any, (kap_kill d).sv (h.env t)]
 ·have e := isN_is ht
  subst e; cases hy
  simp [flS1, lkE]
 ·simp only [flS1, lookS]
  by_cases e : d = n
  ·subst e; simp [isN]
  ·rw [if_neg e, isN_ne (Ne.symm e), lookS_map]
   simp only [Bool.false_eq_true, if_false]
   cases hl : lookS n s.objs with
   | none => rfl
   | some o => simp only [Option.map_some]; rw [(kap_kill d).so fun cs e => h.obj n cs (by rw [hl, e])]
theorem ext_fl5 {v : SV} {ts : Tys} {l : List ts.T} (h : Cl d s) : ∃ s2, freezeS d (flS1 d v (.arr ts l) s) = some s2 ∧ ExN d (mapSC (frzC d ts l) v) none s s2 := by
 have e1 := ext_fl1 (v := v) (ob := .arr ts l) h
 have hl : lookS d (flS1 d v (.arr ts l) s).objs = some (.arr ts l) := by simp [flS1, lookS]
 refine ⟨_, by unfold freezeS; rw [hl], fun t ht => ?_, fun t y ht hy => ?_, fun n => ?_, fun n hn => by rw [isN_is hn]; exact h.no⟩
 ·simp only
  rw [lkE_map _ (kap_frz d ts l).any, e1.env t ht]
  exact (kap_frz d ts l).sv (h.env t)
 ·cases hy
  simp only
  rw [lkE_map _ (kap_frz d ts l).any, e1.at_ t v ht rfl]
 ·simp only
  rw [lookS_map]
  by_cases e : d = n
  ·subst e; rw [lookS_drop]; simp [isN]
  ·rw [lookS_drop_ne e, e1.obj, isN_ne (Ne.symm e)]
   simp only [Bool.false_eq_true, if_false]
   cases hl : lookS n s.objs with
   | none => rfl
   | some o => simp only [Option.map_some]; rw [(kap_frz d ts l).so fun cs e => h.obj n cs (by rw [hl, e])]
theorem frz_clS {m d : Nat} {ts : Tys} {l : List ts.T} {x : SV} (h : clSV m x = true) : clSV m (mapSC (frzC d ts l) x) = true := (KT.of (T := fun n => n = d) (kap_frz d ts l) (fun _ _ h => frz_cl h) rfl).clS h
variable {k i d : Nat} {o : Oper} {l2 : List (Nat × Nat)} {v x : SV} {ob : SO} {obz : Option SO}
theorem WX_go (hd : ∀ p : Nat × Nat, p.2 = i → dstJ ops p.2 = some d) (hd9 : d ≠ 999998) (hz : Zok (isN d) (some x) obz)
  (hfin : ∀ dn s s1, ExN d x obz s s1 → GOut C FT d o.op s v ob → WX C FT ops Q dn ((k, i) :: l2) s → WX C FT ops Q dn l2 s1) :
  ∀ (l1 : List (Nat × Nat)) {dn : List Nat} {s s1 : SS}, WX C FT ops Q dn (l1 ++ (k, i) :: l2) s → ExN d x obz s s1 → GOut C FT d o.op s v ob → (∀ t, .tmp t ∈ o.op.operands.toList → nlSV (s.get C.N t) = true) →
  (∀ j ∈ dn, ∀ oq, ops[j]? = some oq → (∀ y ∈ oq.op.operands.toList, offO (isN d) y = true) ∧ oq.dst ≠ some d) →
  (∀ q ∈ l1, ∀ oq, ops[q.2]? = some oq → (∀ y ∈ oq.op.operands.toList, offO (isN d) y = true) ∧ oq.dst ≠ some d) → (∀ p ∈ l1 ++ l2, dstJ ops p.2 ≠ some d) →
  (∀ t, .tmp t ∈ o.op.operands.toList → ∀ q ∈ l1, dstJ ops q.2 ≠ some t) →
  (nlSV x = true ∨ ∀ p ∈ l1 ++ l2, 4 ≤ p.1 → ∀ op, ops[p.2]? = some op → .tmp d ∉ op.op.operands.toList) → WX C FT ops Q dn (l1 ++ l2) s1
 | [], dn, s, s1, h, he, hG, _, _, _, _, _, _ => hfin dn s s1 he hG h
 | (kq, j) :: l1, dn, s, s1, h, he, hG, hnl, hcd, hcl, hdd, hop, hfl => by
  obtain ⟨hf, oq, hoq, h⟩ := h
  have hoff : ∀ y ∈ oq.op.operands.toList, offO (isN d) y = true := (hcl (kq, j) (List.mem_cons_self ..) oq hoq).1
  have hdq : ∀ t, oq.dst = some t → isN d t = false := fun t e => isN_ne fun e2 => hdd (kq, j) (by simp) (by simp [dstJ, hoq, e, e2])
  have hsev : ∀ y ∈ oq.op.operands.toList, sev C s1 y = sev C s y := fun y hy => he.sev (hoff y hy)
  have ih := fun {dn' : List Nat} {s' s1' : SS} (h' : WX C FT ops Q dn' (l1 ++ (k, i) :: l2) s') (he' : ExN d x obz s' s1') (hkd : Kd oq.dst s s') (hcd' : ∀ j ∈ dn', ∀ oq, ops[j]? = some oq → (∀ y ∈ oq.op.operands.toList, offO (isN d) y = true) ∧ oq.dst ≠ some d) => by
   have hdo : ∀ t, .tmp t ∈ o.op.operands.toList → oq.dst ≠ some t := fun t ht e => hop t ht (kq, j) (List.mem_cons_self ..) (by simp [dstJ, hoq, e])
   have hsv : ∀ y ∈ o.op.operands.toList, sev C s' y = sev C s y := fun y hy => sev_kd hkd fun t e => by subst e; exact ⟨hdo t hy, hnl t hy⟩
   refine WX_go hd hd9 hz hfin l1 h' he' (hG.same hsv) (fun t ht => ?_) hcd' (fun q hq => hcl q (List.mem_cons_of_mem _ hq)) (fun p hp => hdd p (List.mem_cons_of_mem _ hp)) (fun t ht q hq => hop t ht q (List.mem_cons_of_mem _ hq)) ?_
   ·have := hsv (.tmp t) ht
    simp only [sev] at this
    rw [this]; exact hnl t ht
   ·rcases hfl with h | h
    ·exact .inl h
    ·exact .inr fun p hp => h p (List.mem_cons_of_mem _ hp)
  refine ⟨fun p hp hk => ?_, oq, hoq, ?_⟩
  ·have hp' : p ∈ (kq, j) :: l1 ++ l2 := hp
   have hp2 : p ∈ (kq, j) :: (l1 ++ (k, i) :: l2) := by
    simp only [List.cons_append, List.mem_cons, List.mem_append] at hp' ⊢
    rcases hp' with h | h | h
    ·exact .inl h
    ·exact .inr (.inl h)
    ·exact .inr (.inr (.inr h))
   obtain ⟨op, dp, h1, h2, h3, h4⟩ := hf p hp2 hk
   have hne : dp ≠ d := fun e => hdd p hp' (by simp [dstJ, h1, h2, e])
   refine ⟨op, dp, h1, h2, h3.ext he hz (isN_ne hne) (fun _ _ h => by cases h), fun t ht => ?_⟩
   by_cases e : t = d
   ·subst e
    rcases hfl with hx | hx
    ·refine .inr ?_
     unfold SS.get
     split
     ·rw [he.at_ t x (by simp [isN]) rfl]; exact hx
     ·rfl
    ·exact absurd ht (hx p hp' hk op h1)
   ·rcases h4 t ht with ⟨q, hq, hqt⟩ | h5
    ·refine .inl ⟨q, ?_, hqt⟩
     have hq : q ∈ (kq, j) :: (l1 ++ (k, i) :: l2) := hq
     show q ∈ (kq, j) :: (l1 ++ l2)
     simp only [List.mem_cons, List.mem_append] at hq ⊢
     rcases hq with h | h | h | h
     ·exact .inl h
     ·exact .inr (.inl h)
     ·exfalso
      have := hd q (by rw [h])
      rw [this] at hqt
      cases hqt; exact e rfl
     ·exact .inr (.inr h)
    ·refine .inr ?_
     rw [he.get (isN_ne e)]; exact h5
  ·rcases h with ⟨h1, c, w, h3, h4, h5⟩ | ⟨h1, h2, h3, hst, h4⟩ | ⟨h1, h2, h3⟩
   ·refine .inl ⟨h1, c, w, sR_up he.up hsev h3, h4, ih h5 (he.put hdq w) ((Kp.rfl' s).put oq.dst w) fun j' hj' => ?_⟩
    rcases List.mem_cons.1 hj' with rfl | hj'
    ·exact hcl (kq, j') (List.mem_cons_self ..)
    ·exact hcd j' hj'
   ·refine .inr (.inl ⟨h1, h2, h3, fun hk j' hj' => ?_, ?_⟩)
    ·refine (hst hk j' hj').imp id fun ⟨oj, tj, h5, h7, h6⟩ => ⟨oj, tj, h5, h7, fun m hm => ?_⟩
     rw [tr_same hsev] at hm
     obtain ⟨g1, g2⟩ := hcd j' hj' oj h5
     refine ⟨?_, fun y hy => ?_⟩
     ·rw [he.env tj (isN_ne fun e => g2 (by rw [h7, e]))]; exact (h6 m hm).1
     ·rw [he.sev (g1 y hy)]; exact (h6 m hm).2 y hy
    ·have h4' := sOp_kd (r1 := ()) (K1 := fun s' => PK (Kd oq.dst s s' ∧ WX C FT ops Q dn (l1 ++ (k, i) :: l2) s')) (fun s' hkd h' => pk_of ⟨hkd, of_pk h'⟩) h4
     exact sOp_ext he hz hoff hdq hdq (isN_ne (Ne.symm hd9)) (fun s' s1' e' h' => pk_of (ih (of_pk h').2 e' (of_pk h').1 hcd)) h4'
   ·refine .inr (.inr ⟨h1, h2, ?_⟩)
    have h3' := sOp_kd (r1 := ()) (K1 := fun s' => PK (Kd oq.dst s s' ∧ ∃ s2, freezeS (oq.dst.getD 999998) s' = some s2 ∧ WX C FT ops Q dn (l1 ++ (k, i) :: l2) s2)) (fun s' hkd h' => pk_of ⟨hkd, of_pk h'⟩) h3
    refine sOp_ext he hz hoff hdq hdq (isN_ne (Ne.symm hd9)) (fun s' s1' e' h' => pk_of ?_) h3'
    obtain ⟨hkd, s2, g1, g2⟩ := of_pk h'
    obtain ⟨s3, g3, g4⟩ := Ext.freeze e' hz g1
    exact ⟨s3, g3, ih g2 g4 (hkd.kp (freeze_kp g1)) hcd⟩
theorem hdFls {dn : List Nat} {p : Nat × Nat} (h : WX C FT ops Q dn (l1 ++ p :: l2) s) : Fls C ops (l1 ++ p :: l2) s := by
 cases l1 with | nil => exact h.1 | cons a l => exact h.1
theorem WX_float (ho : ops[i]? = some o) (hd : o.dst = some d) (hk : 4 ≤ k) (hd9 : d ≠ 999998) (h : WX C FT ops Q [] (l1 ++ (k, i) :: l2) s)
  (hcl : ∀ q ∈ l1, ∀ oq, ops[q.2]? = some oq → (∀ y ∈ oq.op.operands.toList, offO (isN d) y = true) ∧ oq.dst ≠ some d) (hdd : ∀ p ∈ l1 ++ l2, dstJ ops p.2 ≠ some d)
  (hop : ∀ t, .tmp t ∈ o.op.operands.toList → ∀ q ∈ l1 ++ (k, i) :: l2, dstJ ops q.2 ≠ some t)
  (hfl : k = 5 ∨ ∀ p ∈ l1 ++ l2, 4 ≤ p.1 → ∀ op, ops[p.2]? = some op → .tmp d ∉ op.op.operands.toList) :
  gentleO o.op = true ∧ sOp C FT false s o.dst o.op (fun s' => PK (∃ s2, (s' = s2 ∨ freezeS d s' = some s2) ∧ WX C FT ops Q [] (l1 ++ l2) s2)) = some () := by
 obtain ⟨hg, v, ob, hG⟩ := WX_out ho hd hk h hop
 refine ⟨hg, ?_⟩
 obtain ⟨o', d', h1, h2, hcl0, h4⟩ := hdFls h (k, i) (by simp) hk
 rw [ho] at h1; cases h1
 rw [hd] at h2; cases h2
 have hnl : ∀ t, .tmp t ∈ o.op.operands.toList → nlSV (s.get C.N t) = true := fun t ht => by
  rcases h4 t ht with ⟨q, hq, hqt⟩ | h5
  ·exact absurd hqt (hop t ht q hq)
  ·exact h5
 have hdj : ∀ p : Nat × Nat, p.2 = i → dstJ ops p.2 = some d := fun p e => by simp [dstJ, e, ho, hd]
 have hcln : ∀ dn s, WX C FT ops Q dn ((k, i) :: l2) s → Cl d s := fun dn s h => by
  obtain ⟨o', d', h1, h2, h3, _⟩ := h.1 (k, i) (List.mem_cons_self ..) hk
  rw [ho] at h1; cases h1
  rw [hd] at h2; cases h2
  exact h3
 rw [hd, hG.run s (fun _ _ => rfl) hcl0.no]
 refine pk_of ?_
 by_cases h5 : k = 5
 ·subst h5
  have hbs : isBS o.op = true := by
   apply Classical.byContradiction
   intro hno
   have key : ∀ (l1 : List (Nat × Nat)) (dn : List Nat) (s : SS), WX C FT ops Q dn (l1 ++ (5, i) :: l2) s → False := by
    intro l1
    induction l1 with
    | nil =>
     intro dn s h
     obtain ⟨_, o', ho', h⟩ := h
     rw [ho] at ho'; cases ho'
     rcases h with ⟨h1, _⟩ | ⟨_, h2, _⟩ | ⟨_, h2, _⟩
     ·omega
     ·exact h2 rfl
     ·exact hno h2
    | cons q l1 ih =>
     intro dn s h
     obtain ⟨_, oq, _, h⟩ := h
     rcases h with ⟨_, c, w, _, _, h5⟩ | ⟨_, _, _, _, h4⟩ | ⟨_, _, h3⟩
     ·exact ih _ _ h5
     ·exact sOp_none (sOp_kd (r1 := ()) (K1 := fun _ => (none : Option Unit)) (fun s' _ h' => (ih _ s' (of_pk h')).elim) h4)
     ·refine sOp_none (sOp_kd (r1 := ()) (K1 := fun _ => (none : Option Unit)) (fun s' _ h' => ?_) h3)
      obtain ⟨s2, _, g2⟩ := of_pk h'
      exact (ih _ s2 g2).elim
   exact key l1 _ s h
  obtain ⟨ts, l, rfl, rfl⟩ := hG.arr hbs
  obtain ⟨s2, g1, g2⟩ := ext_fl5 (v := .v (.c (.own d))) (ts := ts) (l := l) hcl0
  refine ⟨s2, .inr g1, WX_go (x := mapSC (frzC d ts l) (.v (.c (.own d)))) (obz := none) hdj hd9 (fun m hm => ⟨fun y e => by cases e; exact frz_clS (hG.clv m (isN_no hm)), fun cs e => by cases e⟩) (fun dn s s1 he hG' h => ?_) l1 h g2 hG hnl (fun _ h => by cases h) hcl hdd (fun t ht q hq => hop t ht q (List.mem_append_left _ hq)) ?_⟩
  ·have hc := hcln dn s h
   obtain ⟨_, o', ho', h⟩ := h
   rw [ho] at ho'; cases ho'
   rcases h with ⟨h1, _⟩ | ⟨_, h2, _⟩ | ⟨_, _, h3⟩
   ·omega
   ·exact absurd rfl h2
   ·rw [hd, hG'.run s (fun _ _ => rfl) hc.no] at h3
    obtain ⟨s3, e1, e2⟩ := of_pk h3
    obtain ⟨s4, e3, e4⟩ := ext_fl5 (v := .v (.c (.own d))) (ts := ts) (l := l) hc
    have : s3 = s4 := by
     have e1' : freezeS d (flS1 d (.v (.c (.own d))) (.arr ts l) s) = some s3 := e1
     rw [e3] at e1'; cases e1'; rfl
    subst this
    exact e2.eqv (e4.uniq he)
  ·exact hfl.elim (fun _ => .inl (by simp [mapSC, mapVC, frzC, nlSV, nlVV, nlCV])) .inr
 ·refine ⟨_, .inl rfl, WX_go (x := v) (obz := some ob) hdj hd9 (fun m hm => ⟨fun y e => by cases e; exact hG.clv m (isN_no hm), fun cs e => hG.clo m cs (by cases e; rfl)⟩) (fun dn s s1 he hG' h => ?_) l1 h (ext_fl1 hcl0) hG hnl (fun _ h => by cases h) hcl hdd (fun t ht q hq => hop t ht q (List.mem_append_left _ hq)) (.inr (hfl.resolve_left h5))⟩
  have hc := hcln dn s h
  obtain ⟨_, o', ho', h⟩ := h
  rw [ho] at ho'; cases ho'
  rcases h with ⟨h1, _⟩ | ⟨_, _, _, _, h4⟩ | ⟨h3, _⟩
  ·omega
  ·rw [hd, hG'.run s (fun _ _ => rfl) hc.no] at h4
   exact (of_pk h4).eqv ((ext_fl1 hc).uniq he)
  ·exact absurd h3 h5
end
end Go.Abs
namespace Go.Abs
open Go.RowKit
variable {s : SS} {d : Option Tmp}
section
variable {C : Cfg} {FT : List (Nat × Entry)} {ops : Array Oper} {Q : SS → Prop}
theorem Eqv.swap {a b : Option Tmp} {v w : SV} (h : ∀ t, a = some t → b ≠ some t) : Eqv ((s.put a v).put b w) ((s.put b w).put a v) := by
 cases a with
 | none => exact .rfl' _
 | some a =>
  cases b with
  | none => exact .rfl' _
  | some b =>
   have hab : a ≠ b := fun e => h a rfl (by rw [e])
   refine .of (fun t => ?_) fun _ => rfl
   simp only [SS.put, lkE]
   by_cases e : a = t
   ·subst e; simp [Ne.symm hab]
   ·by_cases e2 : b = t
    ·subst e2; simp [hab]
    ·simp [e, e2]
theorem up_put {v : SV} : Up s.objs (s.put d v).objs := by cases d <;> exact fun _ _ h => h
theorem up_put' {v : SV} : Up (s.put d v).objs s.objs := by cases d <;> exact fun _ _ h => h
theorem put_objs (s : SS) (d : Option Tmp) (v : SV) : (s.put d v).objs = s.objs := by cases d <;> rfl
theorem put_lk (s : SS) (d : Option Tmp) (v : SV) (t : Nat) : lkE (s.put d v).env t = if d = some t then v else lkE s.env t := by
 cases d with
 | none => simp [SS.put]
 | some d =>
  simp only [SS.put, lkE, Option.some.injEq]
theorem put_get' {N : Nat} {v : SV} {t : Nat} (h : d ≠ some t) : (s.put d v).get N t = s.get N t := by
 unfold SS.get; rw [put_lk, if_neg h]
theorem Cl.put {d : Nat} (h : Cl d s) {t : Option Tmp} {v : SV} (hv : t ≠ none → clSV d v = true) : Cl d (s.put t v) :=
 ⟨by rw [put_objs]; exact h.no, fun t' => by
  rw [put_lk]; split
  ·rename_i e; exact hv (by rw [e]; simp)
  ·exact h.env t', fun n cs hn => h.obj n cs (by rw [put_objs] at hn; exact hn)⟩
variable {k i : Nat} {o : Oper} {l2 : List (Nat × Nat)}
structure Apart (ops : Array Oper) (q : Nat × Nat) (o : Oper) : Prop where
 here : ∃ oq, ops[q.2]? = some oq
 a : ∀ oq t, ops[q.2]? = some oq → oq.dst = some t → .tmp t ∉ o.op.operands.toList
 b : ∀ oq t, ops[q.2]? = some oq → o.dst = some t → .tmp t ∉ oq.op.operands.toList
 c : ∀ oq t, ops[q.2]? = some oq → o.dst = some t → oq.dst ≠ some t
structure Apart2 (ops : Array Oper) (q : Nat × Nat) (o : Oper) : Prop where
 b : ∀ oq t, ops[q.2]? = some oq → o.dst = some t → .tmp t ∉ oq.op.operands.toList
 c : ∀ oq t, ops[q.2]? = some oq → o.dst = some t → oq.dst ≠ some t
theorem WX_read (ho : ops[i]? = some o) (hk : k < 2) : ∀ (rs : List (Nat × Nat)) {dn : List Nat} {s : SS}, (∀ q ∈ rs, q.1 < 2) → (∀ q ∈ rs, Apart ops q o) → WX C FT ops Q dn (rs ++ (k, i) :: l2) s →
  ∃ c v, sR C s o.op = some (c, v) ∧ allT c ∧ WX C FT ops Q dn (rs ++ l2) (s.put o.dst v)
 | [], dn, s, _, _, h => by
  obtain ⟨_, o', ho', h⟩ := h
  rw [ho] at ho'; cases ho'
  rcases h with ⟨_, c, v, h3, h4, h5⟩ | ⟨h1, _⟩ | ⟨h1, _⟩
  ·exact ⟨c, v, h3, h4, h5.mono fun j hj => List.mem_cons_of_mem _ hj⟩
  ·omega
  ·omega
 | (kq, j) :: rs, dn, s, hr, ha, h => by
  obtain ⟨hf, oq, hoq, h⟩ := h
  have hkq : kq < 2 := hr (kq, j) (List.mem_cons_self ..)
  obtain ⟨_, a1, a2, a3⟩ := ha (kq, j) (List.mem_cons_self ..)
  rcases h with ⟨_, cq, vq, h3, h4, h5⟩ | ⟨h1, _⟩ | ⟨h1, _⟩
  ·obtain ⟨c, v, g1, g2, g3⟩ := WX_read ho hk rs (fun q hq => hr q (List.mem_cons_of_mem _ hq)) (fun q hq => ha q (List.mem_cons_of_mem _ hq)) h5
   have hx : ∀ y ∈ o.op.operands.toList, sev C s y = sev C (s.put oq.dst vq) y := fun y hy => (sev_put fun t e ht => a1 oq t hoq ht (by subst e; exact hy)).symm
   have hq : ∀ y ∈ oq.op.operands.toList, sev C (s.put o.dst v) y = sev C s y := fun y hy => sev_put fun t e ht => a2 oq t hoq ht (by subst e; exact hy)
   refine ⟨c, v, sR_up up_put' hx g1, g2, fun p hp hp4 => ?_, oq, hoq, .inl ⟨hkq, cq, vq, sR_up up_put hq h3, h4, g3.eqv (Eqv.swap fun t e1 e2 => a3 oq t hoq e2 e1)⟩⟩
   have hpl : p ∈ l2 := by
    have hp : p ∈ (kq, j) :: (rs ++ l2) := hp
    simp only [List.mem_cons, List.mem_append] at hp
    rcases hp with rfl | hp | hp
    ·simp at hp4; omega
    ·have := hr p (List.mem_cons_of_mem _ hp); omega
    ·exact hp
   obtain ⟨l3, l4, hsp⟩ := List.append_of_mem hpl
   have g4 := hdFls (l1 := rs ++ l3) (p := p) (l2 := l4) (by rw [List.append_assoc, ← hsp]; exact g3)
   obtain ⟨op, dp, e1, e2, e3, e4⟩ := g4 p (by simp) hp4
   obtain ⟨op', dp', f1, f2, f3, _⟩ := hf p (by simp [hpl]) hp4
   rw [e1] at f1; cases f1
   rw [e2] at f2; cases f2
   refine ⟨op, dp, e1, e2, f3.put fun ht => ?_, fun t ht => ?_⟩
   ·obtain ⟨t, ht⟩ := Option.ne_none_iff_exists'.1 ht
    have := e3.env t
    rw [put_lk, if_pos ht] at this
    exact this
   ·rcases e4 t ht with ⟨q, hq, hqt⟩ | h7
    ·refine .inl ⟨q, ?_, hqt⟩
     have hq' : q ∈ (rs ++ l3) ++ p :: l4 := hq
     rw [List.append_assoc, ← hsp] at hq'
     exact List.mem_cons_of_mem _ hq'
    ·by_cases ed : oq.dst = some t
     ·exact .inl ⟨(kq, j), List.mem_cons_self .., by simp [dstJ, hoq, ed]⟩
     ·refine .inr ?_
      by_cases ex : o.dst = some t
      ·unfold SS.get at h7 ⊢
       split
       ·rename_i hN
        rw [if_pos hN, put_lk, if_pos ex] at h7
        rw [put_lk, if_pos ex]; exact h7
       ·rfl
      ·rw [put_get' ex, put_get' ed] at h7
       rw [put_get' ex]; exact h7
  ·omega
  ·omega
def Rd (C : Cfg) (ops : Array Oper) (T : Op → List Nat) : List (Nat × Nat) → SS → SS → Prop
 | [], s, s' => s = s'
 | (k, j) :: rs, s, s' => k < 2 ∧ ∃ oq c v, ops[j]? = some oq ∧ sR C s oq.op = some (c, v) ∧ allT c ∧ (oq.dst ≠ none ∧ ∀ m ∈ T oq.op, clSV m v = true) ∧ (∀ m ∈ T oq.op, ∀ y ∈ oq.op.operands.toList, clSV m (sev C s y) = true) ∧ Rd C ops T rs (s.put oq.dst v) s'
theorem Rd.lk {T : Op → List Nat} : ∀ {rs : List (Nat × Nat)} {s s' : SS}, Rd C ops T rs s s' → (∀ n, lookS n s'.objs = lookS n s.objs) ∧ ∀ t, (∀ q ∈ rs, dstJ ops q.2 ≠ some t) → lkE s'.env t = lkE s.env t
 | [], s, s', h => by cases h; exact ⟨fun _ => rfl, fun _ _ => rfl⟩
 | (k, j) :: rs, s, s', ⟨_, oq, c, v, h1, _, _, _, _, h6⟩ => by
  obtain ⟨a, b⟩ := Rd.lk h6
  refine ⟨fun n => by rw [a, put_objs], fun t ht => ?_⟩
  rw [b t fun q hq => ht q (List.mem_cons_of_mem _ hq), put_lk, if_neg fun e => ht (k, j) (List.mem_cons_self ..) (by simp [dstJ, h1, e])]
theorem WX_rd (ho : ops[i]? = some o) (hk2 : 2 ≤ k) (hk4 : k < 4) {T : Op → List Nat} : ∀ (rs : List (Nat × Nat)) {dn : List Nat} {s : SS}, (∀ q ∈ rs, q.1 < 2) → (∀ q ∈ rs, Apart ops q o) → rs.Pairwise (fun q p => ∀ op, ops[p.2]? = some op → Apart2 ops q op) →
  (∀ q ∈ rs, reach ops 3 i q.2 = false) → (∀ q ∈ rs, ∀ oq t, ops[q.2]? = some oq → oq.dst = some t → .tmp t ∉ oq.op.operands.toList) → T = tnR C s o → WX C FT ops Q dn (rs ++ (k, i) :: l2) s →
  ∃ s' dn', Rd C ops T rs s s' ∧ (∀ j ∈ dn, j ∈ dn') ∧ (∀ q ∈ rs, q.2 ∈ dn') ∧ WX C FT ops Q dn' ((k, i) :: l2) s' ∧ (∀ y ∈ o.op.operands.toList, sev C s' y = sev C s y) ∧
   ∀ j ∈ dn, reach ops 3 i j = true ∨ Sb C ops s' T j
 | [], dn, s, _, _, _, _, _, hT, h => by
  refine ⟨s, dn, rfl, fun _ h => h, fun _ h => (by cases h), h, fun _ _ => rfl, ?_⟩
  obtain ⟨_, o', ho', h⟩ := h
  rw [ho] at ho'; cases ho'
  rcases h with ⟨h1, _⟩ | ⟨_, _, _, hst, _⟩ | ⟨h1, _⟩
  ·omega
  ·rw [hT]; exact hst hk4
  ·omega
 | (kq, j) :: rs, dn, s, hr, ha, hpw, hrc, hse, hT, h => by
  obtain ⟨hf, oq, hoq, h⟩ := h
  have hkq : kq < 2 := hr (kq, j) (List.mem_cons_self ..)
  obtain ⟨_, a1, a2, a3⟩ := ha (kq, j) (List.mem_cons_self ..)
  have hpw2 := List.pairwise_cons.1 hpw
  rcases h with ⟨_, cq, vq, h3, h4, h5⟩ | ⟨h1, _⟩ | ⟨h1, _⟩
  ·have hx : ∀ y ∈ o.op.operands.toList, sev C (s.put oq.dst vq) y = sev C s y := fun y hy => sev_put fun t e ht => a1 oq t hoq ht (by subst e; exact hy)
   obtain ⟨s', dn', g1, g2, g3, g4, g5, g6⟩ := WX_rd ho hk2 hk4 (T := T) rs (fun q hq => hr q (List.mem_cons_of_mem _ hq)) (fun q hq => ha q (List.mem_cons_of_mem _ hq)) hpw2.2 (fun q hq => hrc q (List.mem_cons_of_mem _ hq)) (fun q hq => hse q (List.mem_cons_of_mem _ hq)) (by rw [hT, tr_same hx]) h5
   have hlk := g1.lk
   have hst : Sb C ops s' T j := (g6 j (List.mem_cons_self ..)).resolve_left (by rw [hrc (kq, j) (List.mem_cons_self ..)]; simp)
   obtain ⟨oj, tj, e1, e0, e2⟩ := hst
   rw [hoq] at e1; cases e1
   have hrest : ∀ t, (oq.dst = some t ∨ .tmp t ∈ oq.op.operands.toList) → ∀ q ∈ rs, dstJ ops q.2 ≠ some t := fun t ht q hq e => by
    obtain ⟨op, hop⟩ := (ha q (List.mem_cons_of_mem _ hq)).here
    have hA := hpw2.1 q hq op hop
    have hpd : op.dst = some t := by simpa [dstJ, hop] using e
    rcases ht with h | h
    ·exact hA.c oq t hoq hpd h
    ·exact hA.b oq t hoq hpd h
   refine ⟨s', dn', ⟨hkq, oq, cq, vq, hoq, h3, h4, ⟨by rw [e0]; simp, fun m hm => ?_⟩, fun m hm y hy => ?_, g1⟩, fun j' hj' => g2 j' (List.mem_cons_of_mem _ hj'), fun q hq => ?_, g4, fun y hy => (g5 y hy).trans (hx y hy), fun j' hj' => g6 j' (List.mem_cons_of_mem _ hj')⟩
   ·have := (e2 m hm).1
    rw [hlk.2 tj (hrest tj (.inl e0)), put_lk, if_pos e0] at this
    exact this
   ·have h8 := (e2 m hm).2 y hy
    have : sev C s' y = sev C s y := by
     cases y with
     | tmp t =>
      simp only [sev, SS.get]
      rw [hlk.2 t (hrest t (.inr hy)), put_lk, if_neg fun e => hse (kq, j) (List.mem_cons_self ..) oq t hoq e hy]
     | _ => rfl
    rw [this] at h8; exact h8
   ·rcases List.mem_cons.1 hq with rfl | hq
    ·exact g2 j (List.mem_cons_self ..)
    ·exact g3 q hq
  ·omega
  ·omega
theorem Fp2.put2 {T E : Nat → Prop} {dst d : Option Tmp} {s s' : SS} (h : Fp2 T E dst s s') (v : SV) : Fp2 T E dst (s.put d v) (s'.put d v) :=
 ⟨fun t ht hc => by
  rw [put_lk, put_lk]; split
  ·rfl
  ·rename_i e; rw [put_lk, if_neg e] at hc; exact h.same t ht hc, fun t m ht hc => by
  rw [put_lk] at hc ⊢; split
  ·rename_i e; rw [if_pos e] at hc; exact hc
  ·rename_i e; rw [if_neg e] at hc; exact h.cl t m ht hc, by
  obtain ⟨κ, h1, h2⟩ := h.obj
  exact ⟨κ, h1, fun n hn => by rw [put_objs, put_objs]; exact h2 n hn⟩⟩
theorem WX_after {T : Op → List Nat} {TS TE : List Nat} (hTT : ∀ op, (∃ x, op = .move x ∧ T op = TE) ∨ T op = TS) (hES : ∀ m ∈ TE, m ∈ TS) {dn2 : List Nat} {s2 : SS} (h2 : WX C FT ops Q dn2 l2 s2) {sE : SS} (hfE : Fp2 (· ∈ TS) (· ∈ TE) o.dst sE s2) :
  ∀ (rs : List (Nat × Nat)) {dn : List Nat} {s s1 : SS}, (∀ q ∈ rs, q.1 < 2) → (∀ q ∈ rs, Apart ops q o) → rs.Pairwise (fun q p => ∀ op, ops[p.2]? = some op → Apart2 ops q op) → Rd C ops T rs s sE → Fp2 (· ∈ TS) (· ∈ TE) o.dst s s1 →
   (∀ t, (∀ q ∈ rs, dstJ ops q.2 ≠ some t) → lkE s1.env t = lkE s2.env t) → (∀ n, lookS n s1.objs = lookS n s2.objs) →
   (∀ p ∈ l2, 4 ≤ p.1 → ∀ op dp, ops[p.2]? = some op → op.dst = some dp → ∀ t, clSV dp (lkE s1.env t) = true) → (∀ j ∈ dn, j ∈ dn2) → (∀ q ∈ rs, q.2 ∈ dn2) → WX C FT ops Q dn (rs ++ l2) s1
 | [], dn, s, s1, _, _, _, _, _, he, ho', _, hdn, _ => (h2.eqv (.of (fun t => he t (fun _ h => by cases h)) ho')).mono hdn
 | (kq, j) :: rs, dn, s, s1, hr, ha, hpw, hrd, hfp, he, ho', hcl, hdn, hrs => by
  obtain ⟨hkq, oq, c, v, hoq, h3, h4, h5, h6, h7⟩ := hrd
  obtain ⟨_, a1, a2, a3⟩ := ha (kq, j) (List.mem_cons_self ..)
  have hpw2 := List.pairwise_cons.1 hpw
  have hEq : ∀ m ∈ TE, m ∈ T oq.op := fun m hm => by
   rcases hTT oq.op with ⟨_, _, e⟩ | e
   ·rw [e]; exact hm
   ·rw [e]; exact hES m hm
  have hsev : ∀ y ∈ oq.op.operands.toList, sev C s1 y = sev C s y := fun y hy => by
   cases y with
   | tmp t =>
    have hne : o.dst ≠ some t := fun e => a2 oq t hoq e hy
    simp only [sev, SS.get]
    split
    ·rename_i hN
     refine hfp.same t hne fun m hm => ?_
     have := h6 m (hEq m hm) _ hy
     simp only [sev, SS.get, if_pos hN] at this
     exact this
    ·rfl
   | _ => rfl
  obtain ⟨κ, hκ, hκo⟩ := hfp.obj
  have hrd' : sR C s1 oq.op = some (c, v) := by
   rcases hTT oq.op with ⟨x, ex, _⟩ | eT
   ·rw [ex] at h3 hsev ⊢
    simp only [sR] at h3 ⊢
    rw [hsev x (by simp [Op.operands])]; exact h3
   ·have hN : ∀ y ∈ oq.op.operands.toList, NmS (fun n => ¬ n ∈ TS) (sev C s y) := fun y hy d hd => h6 d (by rw [eT]; exact Classical.not_not.1 hd) y hy
    have hup : UpK (fun n => ¬ n ∈ TS) κ s.objs s1.objs := fun n o hn hl => by rw [hκo n hn, hl]; rfl
    exact sR_k hup hκ.k hsev hN (hκ.sv fun m hm => h5.2 m (hEq m hm)) h3
  obtain ⟨tq, htq⟩ := Option.ne_none_iff_exists'.1 h5.1
  have hdq : ∀ q ∈ rs, dstJ ops q.2 ≠ some tq := fun q hq e => by
   obtain ⟨op, hop⟩ := (ha q (List.mem_cons_of_mem _ hq)).here
   exact (hpw2.1 q hq op hop).c oq tq hoq (by simpa [dstJ, hop] using e) htq
  have hv2 : lkE s2.env tq = v := by
   have e1 : lkE sE.env tq = v := by rw [h7.lk.2 tq hdq, put_lk, if_pos htq]
   rw [hfE.same tq (fun e => a3 oq tq hoq e htq) (fun m hm => by rw [e1]; exact h5.2 m (hEq m hm)), e1]
  have hdj : dstJ ops j = some tq := by simp [dstJ, hoq, htq]
  refine ⟨fun p hp hp4 => ?_, oq, hoq, .inl ⟨hkq, c, v, hrd', h4, WX_after hTT hES h2 hfE rs (fun q hq => hr q (List.mem_cons_of_mem _ hq)) (fun q hq => ha q (List.mem_cons_of_mem _ hq)) hpw2.2 h7 (hfp.put2 v) (fun t ht => ?_) (fun n => by rw [put_objs]; exact ho' n) (fun p hp hp4 op dp e1 e2 t => ?_) (fun j' hj' => ?_) (fun q hq => hrs q (List.mem_cons_of_mem _ hq))⟩⟩
  ·have hpl : p ∈ l2 := by
    have hp : p ∈ (kq, j) :: (rs ++ l2) := hp
    simp only [List.mem_cons, List.mem_append] at hp
    rcases hp with rfl | hp | hp
    ·simp at hp4; omega
    ·have := hr p (List.mem_cons_of_mem _ hp); omega
    ·exact hp
   obtain ⟨l3, l4, hsp⟩ := List.append_of_mem hpl
   obtain ⟨op, dp, e1, e2, e3, e4⟩ := hdFls (l1 := l3) (p := p) (l2 := l4) (by rw [← hsp]; exact h2) p (by simp) hp4
   refine ⟨op, dp, e1, e2, ⟨by rw [ho']; exact e3.no, hcl p hpl hp4 op dp e1 e2, fun n cs hn => e3.obj n cs (by rw [← ho']; exact hn)⟩, fun t ht => ?_⟩
   rcases e4 t ht with ⟨q, hq, hqt⟩ | h8
   ·refine .inl ⟨q, ?_, hqt⟩
    rw [← hsp] at hq
    show q ∈ (kq, j) :: (rs ++ l2)
    exact List.mem_cons_of_mem _ (List.mem_append_right _ hq)
   ·by_cases hex : ∃ q ∈ (kq, j) :: rs, dstJ ops q.2 = some t
    ·obtain ⟨q, hq, hqt⟩ := hex
     refine .inl ⟨q, ?_, hqt⟩
     show q ∈ ((kq, j) :: rs) ++ l2
     exact List.mem_append_left _ hq
    ·refine .inr ?_
     unfold SS.get at h8 ⊢
     split
     ·rename_i hN'
      rw [if_pos hN'] at h8
      rw [he t fun q hq e => hex ⟨q, hq, e⟩]; exact h8
     ·rfl
  ·rw [put_lk]
   split
   ·rename_i e
    rw [htq] at e; cases e
    exact hv2.symm
   ·rename_i e
    refine he t fun q hq => ?_
    rcases List.mem_cons.1 hq with rfl | hq
    ·rw [hdj]; rw [← htq]; exact e
    ·exact ht q hq
  ·rw [put_lk]
   split
   ·obtain ⟨l3, l4, hsp⟩ := List.append_of_mem hp
    obtain ⟨op', dp', f1, f2, f3, _⟩ := hdFls (l1 := l3) (p := p) (l2 := l4) (by rw [← hsp]; exact h2) p (by simp) hp4
    rw [e1] at f1; cases f1
    rw [e2] at f2; cases f2
    rw [← hv2]; exact f3.env tq
   ·exact hcl p hp hp4 op dp e1 e2 t
  ·rcases List.mem_cons.1 hj' with rfl | hj'
   ·exact hrs (kq, j') (List.mem_cons_self ..)
   ·exact hdn j' hj'
theorem nm_all {T : List Nat} {x : SV} (h : ∀ n, n ∈ nmSV x → n ∈ T) : NmS (· ∈ T) x := by
 have hc : ∀ c : CV, (∀ n ∈ nmCV c, n ∈ T) → ∀ d, ¬ d ∈ T → clCV d c = true := by
  intro c hc d hd
  cases c with
  | own n => have := hc n (by simp [nmCV]); simp only [clCV, Bool.not_eq_true', beq_eq_false_iff_ne]; exact fun e => hd (e ▸ this)
  | msl n _ _ _ => have := hc n (by simp [nmCV]); simp only [clCV, Bool.not_eq_true', beq_eq_false_iff_ne]; exact fun e => hd (e ▸ this)
  | ref n _ _ _ => have := hc n (by simp [nmCV]); simp only [clCV, Bool.not_eq_true', beq_eq_false_iff_ne]; exact fun e => hd (e ▸ this)
  | wrp f ns =>
   simp only [clCV]
   refine List.all_eq_true.2 fun p hp => ?_
   have := hc p.1 (by simp only [nmCV]; exact List.mem_map.2 ⟨p, hp, rfl⟩)
   simp only [Bool.not_eq_true', beq_eq_false_iff_ne]; exact fun e => hd (e ▸ this)
  | _ => rfl
 have hv : ∀ y : VV, (∀ n ∈ nmVV y, n ∈ T) → ∀ d, ¬ d ∈ T → clVV d y = true := by
  intro y hy d hd
  cases y with
  | c c => exact hc c hy d hd
  | g l => exact List.all_eq_true.2 fun c hcm => hc c (fun n hn => hy n (List.mem_flatMap.2 ⟨c, hcm, hn⟩)) d hd
 intro d hd
 cases x with
 | v y => exact hv y h d hd
 | tup l => exact List.all_eq_true.2 fun c hcm => hv c (fun n hn => h n (List.mem_flatMap.2 ⟨c, hcm, hn⟩)) d hd
theorem nm_tn {o : Oper} : (o.dst.getD 999998) ∈ tnS C s o ∧ ∀ y ∈ o.op.operands.toList, NmS (· ∈ tnS C s o) (sev C s y) :=
 ⟨List.mem_cons_self .., fun y hy => nm_all fun _ hn => List.mem_cons_of_mem _ (List.mem_flatMap.2 ⟨y, hy, hn⟩)⟩
theorem tr_cases (C : Cfg) (s : SS) (o : Oper) (op : Op) : (∃ x, op = .move x ∧ tnR C s o op = tnE C s o) ∨ tnR C s o op = tnS C s o := by
 cases op <;> first | exact .inl ⟨_, rfl, rfl⟩ | exact .inr rfl
theorem te_sub {o : Oper} : ∀ m ∈ tnE C s o, m ∈ tnS C s o := by
 intro m hm
 unfold tnE at hm
 split at hm
 ·rename_i e1 _
  split at hm
  ·simp only [List.mem_singleton] at hm
   simp [tnS, e1, hm]
  ·exact hm
 ·split at hm
  ·simp only [List.mem_singleton] at hm
   simp [tnS, hm]
  ·exact hm
 ·rename_i args ats e2
  split at hm
  ·rename_i x y e3
   rcases List.mem_cons.1 hm with rfl | hm
   ·exact List.mem_cons_self ..
   ·exact List.mem_cons_of_mem _ (List.mem_flatMap.2 ⟨x, by rw [e2]; simp [Op.operands, Call.operands, e3], hm⟩)
  ·exact hm
 ·exact hm
theorem sOp_fp2 {R R1 : Type} {r : R} {r1 : R1} {K : SS → Option R} {K1 : SS → Option R1} {o : Oper}
  (hK : ∀ s', Fp2 (· ∈ tnS C s o) (· ∈ tnE C s o) o.dst s s' → K s' = some r → K1 s' = some r1) (hr : sOp C FT false s o.dst o.op K = some r) : sOp C FT false s o.dst o.op K1 = some r1 := by
 obtain ⟨n1, n2⟩ := nm_tn (C := C) (s := s) (o := o)
 by_cases hc : ∃ X x y, o.dst = none ∧ o.op = .store X x y ∧ nlSV (sev C s y) = true
 ·obtain ⟨X, x, y, e1, e2, e3⟩ := hc
  have hx := n2 x (by rw [e2]; simp [Op.operands])
  rw [e1] at hK
  rw [e1, e2] at hr ⊢
  exact store_fp hx e3 hK hr
 by_cases hk : ∃ f args ats, o.op = .call { callee := .value (.func f), args := args, argTypes := ats } ∧ (firstC (args.toList.flatMap fun y => cellsOfS (sev C s y))).isNone = true
 ·obtain ⟨f, args, ats, e1, e2⟩ := hk
  have hE : ∀ m, m ∈ tnE C s o ↔ m = o.dst.getD 999998 := fun m => by
   unfold tnE
   rw [e1]
   cases o.dst <;> simp only [e2] <;> simp
  have hsub := te_sub (C := C) (s := s) (o := o)
  rw [e1] at hr ⊢
  unfold sOp at hr ⊢
  simp only [appT] at hr ⊢
  unfold sOp0 at hr ⊢
  exact call_fp2 (T := (· ∈ tnS C s o)) (E := (· ∈ tnE C s o)) hsub ((hE _).2 rfl) (fun y hy => n2 y (by rw [e1]; simp only [Op.operands, Call.operands]; simpa using Or.inr hy)) (Option.isNone_iff_eq_none.1 e2) hK hr
 by_cases hap : ∃ args ats x y, o.op = .call { callee := .builtin .append, args := args, argTypes := ats } ∧ args.toList = [x, y]
 ·obtain ⟨args, ats, x, y, e1, e2⟩ := hap
  have hE : tnE C s o = o.dst.getD 999998 :: nmSV (sev C s x) := by
   unfold tnE
   rw [e1]
   cases o.dst <;> simp only [e2]
  refine sOp_fp (T := (· ∈ tnE C s o)) (by rw [hE]; exact List.mem_cons_self ..) (fun z hz => ?_) (fun s' h => hK s' (h.two' te_sub)) hr
  rw [e1] at hz
  simp only [tcO, e2, List.take_succ_cons, List.take_zero, List.mem_singleton] at hz
  subst hz
  rw [hE]
  exact nm_all fun _ hn => List.mem_cons_of_mem _ hn
 ·have he : tnE C s o = tnS C s o := by
   unfold tnE
   split
   ·rename_i X x y e1 e2
    split
    ·rename_i e3; exact absurd ⟨X, x, y, e1, e2, e3⟩ hc
    ·rfl
   ·rename_i f args ats e2
    split
    ·rename_i e3; exact absurd ⟨f, args, ats, e2, e3⟩ hk
    ·rfl
   ·rename_i args ats e2
    split
    ·rename_i x y e3; exact absurd ⟨args, ats, x, y, e2, e3⟩ hap
    ·rfl
   ·rfl
  rw [he] at hK
  exact sOp_fp n1 (fun y hy => n2 y (tcO_sub _ y hy)) (fun s' h => hK s' h.two) hr
theorem WX_eff (ho : ops[i]? = some o) (hk2 : 2 ≤ k) (hk4 : k < 4) (rs : List (Nat × Nat)) (hr : ∀ q ∈ rs, q.1 < 2) (ha : ∀ q ∈ rs, Apart ops q o) (hpw : rs.Pairwise (fun q p => ∀ op, ops[p.2]? = some op → Apart2 ops q op))
  (hrc : ∀ q ∈ rs, reach ops 3 i q.2 = false) (hse : ∀ q ∈ rs, ∀ oq t, ops[q.2]? = some oq → oq.dst = some t → .tmp t ∉ oq.op.operands.toList) (h : WX C FT ops Q [] (rs ++ (k, i) :: l2) s) :
  sOp C FT false s o.dst o.op (fun s' => PK (WX C FT ops Q [] (rs ++ l2) s')) = some () := by
 have hf0 := hdFls h
 obtain ⟨sE, dn', g1, _, g3, g4, g5, _⟩ := WX_rd ho hk2 hk4 (T := tnR C s o) rs hr ha hpw hrc hse rfl h
 obtain ⟨_, o', ho', h4⟩ := g4
 rw [ho] at ho'; cases ho'
 rcases h4 with ⟨h1, _⟩ | ⟨_, _, _, _, h4⟩ | ⟨h1, _⟩
 case inl => omega
 case inr.inr => omega
 have hlk := g1.lk
 have hTE : tnS C sE o = tnS C s o := tn_same g5
 obtain ⟨n1, n2⟩ := nm_tn (C := C) (s := sE) (o := o)
 rw [hTE] at n1 n2
 have hEE : tnE C sE o = tnE C s o := te_same g5
 have h5 := sOp_fp2 (FT := FT) (o := o) (s := sE) (r1 := ()) (K1 := fun s' => PK (Fp2 (· ∈ tnS C s o) (· ∈ tnE C s o) o.dst sE s' ∧ WX C FT ops Q dn' l2 s')) (fun s' hfp h' => pk_of ⟨by rw [hTE, hEE] at hfp; exact hfp, of_pk h'⟩) h4
 have hE : Ext (fun t => rs.any fun q => dstJ ops q.2 == some t) (fun _ => false) none none sE s := by
  refine ⟨fun t ht => ?_, fun _ _ _ h => (by cases h), fun n => by simp [hlk.1 n], fun _ h => (by cases h)⟩
  symm
  refine hlk.2 t fun q hq e => ?_
  have : (rs.any fun q => dstJ ops q.2 == some t) = true := List.any_eq_true.2 ⟨q, hq, by simp [e]⟩
  rw [ht] at this; cases this
 have hoff : ∀ y ∈ o.op.operands.toList, offO (fun t => rs.any fun q => dstJ ops q.2 == some t) y = true := fun y hy => by
  cases y with
  | tmp t =>
   simp only [offO, Bool.not_eq_true']
   refine Bool.eq_false_iff.2 fun h => ?_
   obtain ⟨q, hq, e⟩ := List.any_eq_true.1 h
   obtain ⟨oq, hoq⟩ := (ha q hq).here
   exact (ha q hq).a oq t hoq (by simpa [dstJ, hoq] using e) hy
  | _ => rfl
 have hdd : ∀ t, o.dst = some t → (rs.any fun q => dstJ ops q.2 == some t) = false := fun t ht => by
  refine Bool.eq_false_iff.2 fun h => ?_
  obtain ⟨q, hq, e⟩ := List.any_eq_true.1 h
  obtain ⟨oq, hoq⟩ := (ha q hq).here
  exact (ha q hq).c oq t hoq ht (by simpa [dstJ, hoq] using e)
 have h6 := sOp_ext (K1 := fun s' => PK (∃ s2, Ext (fun t => rs.any fun q => dstJ ops q.2 == some t) (fun _ => false) none none s2 s' ∧ Fp2 (· ∈ tnS C s o) (· ∈ tnE C s o) o.dst sE s2 ∧ WX C FT ops Q dn' l2 s2)) hE (fun m _ => ⟨fun y h => (by cases h), fun cs h => (by cases h)⟩) hoff hdd (fun _ _ => rfl) rfl
  (fun s2 s1 he h' => pk_of ⟨s2, he, of_pk h'⟩) h5
 obtain ⟨m1, m2⟩ := nm_tn (C := C) (s := s) (o := o)
 refine sOp_fp2 (FT := FT) (o := o) (r1 := ()) (fun s1 hfp h' => pk_of ?_) h6
 obtain ⟨s2, he, hf2, hw⟩ := of_pk h'
 refine WX_after (tr_cases C s o) te_sub hw hf2 rs hr ha hpw g1 hfp (fun t ht => ?_) (fun n => by rw [he.obj]; simp) (fun p hp hp4 op dp e1 e2 t => ?_) (fun _ h => by cases h) g3
 ·refine he.env t (Bool.eq_false_iff.2 fun h => ?_)
  obtain ⟨q, hq, e⟩ := List.any_eq_true.1 h
  exact ht q hq (by simpa using e)
 ·obtain ⟨l3, l4, hsp⟩ := List.append_of_mem hp
  obtain ⟨op', dp', f1, f2, f3, _⟩ := hdFls (l1 := l3) (p := p) (l2 := l4) (by rw [← hsp]; exact hw) p (by simp) hp4
  rw [e1] at f1; cases f1
  rw [e2] at f2; cases f2
  cases hk : rs.any fun q => dstJ ops q.2 == some t with
  | false => rw [he.env t hk]; exact f3.env t
  | true =>
   obtain ⟨op', dp', f1, f2, f4, _⟩ := hf0 p (by simp [hp]) hp4
   rw [e1] at f1; cases f1
   rw [e2] at f2; cases f2
   exact hfp.cl t dp (fun e => by rw [hdd t e] at hk; cases hk) (f4.env t)
end
end Go.Abs
namespace Go.Abs
open Go.RowKit
variable {l ord : List (Nat × Nat)} {listed : Array Bool}
section
variable {P : Program} {ops : Array Oper} {n : Nat} {pins : List Nat}
theorem put_get (a : Act) (d : Option Tmp) (v : Value) (t : Nat) : (a.put d v).tmps[t]? = if d = some t ∧ t < a.tmps.size then some v else a.tmps[t]? := by
 cases d with
 | none => simp [Act.put]
 | some d =>
  simp only [Act.put, Option.some.injEq, Array.getElem?_setIfInBounds]
  by_cases h : d = t
  ·subst h
   by_cases hl : d < a.tmps.size
   ·simp [hl]
   ·simp [hl]
  ·simp [h]
structure Agr (U : Nat → Prop) (a b : Act) : Prop where
 df : a.defers = b.defers
 sz : a.tmps.size = b.tmps.size
 eq : ∀ t, ¬ U t → a.tmps[t]? = b.tmps[t]?
def Clear (ops : Array Oper) (q p : Nat × Nat) : Prop := ∀ oq op t, ops[q.2]? = some oq → ops[p.2]? = some op → op.dst = some t → t ∉ oq.looksAt ops ∧ oq.dst ≠ some t
structure WOk (ops : Array Oper) (n : Nat) (ord : List (Nat × Nat)) : Prop where
 lt : ∀ p ∈ ord, p.2 < n
 all : ∀ i, i < n → ∃ k, (k, i) ∈ ord
 uniq : ∀ p ∈ ord, ∀ q ∈ ord, p.2 = q.2 → p = q
 nodup : ord.Nodup
 op : ∀ i, i < n → ∃ o, ops[i]? = some o ∧ o.guard = none
 back : ∀ i o, i < n → ops[i]? = some o → ∀ e ∈ o.after, Region.binds .any e = true → e.on < i
 looks : ∀ i o, i < n → ops[i]? = some o → ∀ t ∈ o.looksAt ops, ∀ j oj, j < n → ops[j]? = some oj → oj.dst = some t → ∃ e ∈ o.after, Region.binds .any e = true ∧ e.on = j
 self : ∀ i o, i < n → ops[i]? = some o → ∀ t, o.dst = some t → t ∉ o.looksAt ops
 clear : ord.Pairwise (Clear ops)
 wait : ∀ listed, HeadInv .any ops n listed → ord.Pairwise fun q p => 2 ≤ q.1 → p.1 < 4 → (∀ o, ops[p.2]? = some o → ∀ e ∈ o.after, Region.binds .any e = true → listed.getD e.on false = true) → listed.getD q.2 false = true
 flo : ∀ p ∈ ord, 4 ≤ p.1 → ∃ d, dstJ ops p.2 = some d ∧ d ≠ 999998
 fl4 : ord.Pairwise fun q p => 4 ≤ q.1 → q.1 ≠ 5 → 4 ≤ p.1 → ∀ op d, ops[p.2]? = some op → dstJ ops q.2 = some d → d ∉ op.looksAt ops
variable {C : Cfg} {FT : List (Nat × Entry)} {Q : SS → Prop}
def WInv (C : Cfg) (FT : List (Nat × Entry)) (ops : Array Oper) (ord : List (Nat × Nat)) (Q : SS → Prop) (w0 : World) (M0 : Nat → Prop) (D0 : Names) (listed : Array Bool) (a : Act) (w : World) : Prop :=
 ∃ rest s, rest.Sublist ord ∧ (∀ p ∈ ord, p ∈ rest ∨ listed.getD p.2 false = true) ∧ (∀ p ∈ rest, listed.getD p.2 false = false) ∧ WX C FT ops Q [] rest s ∧ Sat w0 M0 D0 (s.st C.N) a w
theorem wp_one {o : Oper} {a : Act} {w : World} {R : Act → World → Prop} (hg : o.guard = none) (hR : ∀ b w, R b w → b.defers = []) (h : wpList P ops (Nrm R) [o] a w) {K : Act → World → Prop} {Q' : Exit → Act → World → Prop}
  (hK : ∀ b w', R b w' → K b w') : o.wp P a w K Q' := by
 simp only [wpList, Region.wanted, hg, if_true] at h
 rcases h with h | ⟨_, h⟩
 case inr => exact absurd h nrm_out
 unfold Oper.wp at *
 generalize hr : (execOp a.eval o).run P w = r at *
 cases r with
 | ok x w' =>
  cases x <;> simp only [Oper.upon] at h ⊢
  case value v => exact hK _ w' h.2
  case skip => exact hK _ w' h.2
  case defer d =>
   have h0 := hR _ _ h.2
   rw [put_defers] at h0
   cases h0
  case enter f args =>
   refine Calls.mono h fun e w2 he => ?_
   cases e with
   | returned v => exact hK _ w2 he.2
   | panicked c => exact absurd he.1 (by simp)
   | outgrown => exact absurd he nrm_out
  case row row args => exact Rows.mono h fun v w2 he => hK _ w2 he.2
 | halt x w' =>
  cases x <;> simp only [Oper.upon] at h ⊢
  exact absurd h.1 (by simp)
theorem sat_eqv {s0 s : SS} {N : Nat} (h : Eqv s0 s) {w0 : World} {M0 : Nat → Prop} {D0 : Names} {a : Act} {w : World} (hs : Sat w0 M0 D0 (s.st N) a w) : Sat w0 M0 D0 (s0.st N) a w := by
 have hl : ∀ n, lookS n s.objs = lookS n s0.objs := fun n => by rw [h.obj]; simp
 have hE : ∀ t, lkE s.env t = lkE s0.env t := fun t => by rw [h.env]; simp
 have hc : ∀ x : CV, x.av s.objs = x.av s0.objs := fun x => by cases x <;> first | rfl | (simp only [CV.av, hl])
 have hv : ∀ x : VV, x.av s.objs = x.av s0.objs := fun x => by
  cases x with
  | c x => exact hc x
  | g l => simp only [VV.av]; congr 1; exact List.map_congr_left fun c _ => hc c
 have hx : ∀ x : SV, x.av s.objs = x.av s0.objs := fun x => by
  cases x with
  | v x => exact hv x
  | tup l => simp only [SV.av]; congr 1; exact List.map_congr_left fun c _ => hv c
 have ho : ∀ o : SO, o.av s.objs = o.av s0.objs := fun o => by
  cases o with
  | box cs => simp only [SO.av]; congr 1; exact List.map_congr_left fun c _ => hc c
  | arr ts l => rfl
  | mp _ _ _ => rfl
 have henv : (s.st N).env = (s0.st N).env := List.map_congr_left fun i _ => by rw [hE, hx]
 have hobj : ∀ n, look n (s0.st N).objs = look n (s.st N).objs := fun n => by
  show look n (objsAV s0.objs s0.objs) = look n (objsAV s.objs s.objs)
  rw [lookS_av, lookS_av, hl]
  cases lookS n s0.objs with
  | none => rfl
  | some o => simp only [Option.map_some, ho]
 have := sat_look (objs := (s.st N).objs) (objs' := (s0.st N).objs) hobj (env := (s.st N).env) hs
 rw [henv] at this
 exact this
theorem eff_wp (hG : Good P C.G) (hFT : FTok P FT) {o : Oper} (hg : o.guard = none) {s : SS} {d : Nat} (h : sOp C FT false s o.dst o.op (fun s' => PK (∃ s2, (s' = s2 ∨ freezeS d s' = some s2) ∧ WX C FT ops Q [] l s2)) = some ())
  {w0 : World} {M0 : Nat → Prop} {D0 : Names} {a : Act} {w : World} (hs : Sat w0 M0 D0 (s.st C.N) a w) : wpList P ops (Nrm (SatQ w0 M0 D0 fun S' => ∃ s2 : SS, S' = s2.st C.N ∧ WX C FT ops Q [] l s2)) [o] a w :=
 sOp_wp hG hFT h (fun s1 _ => guard_none hg) hs fun s' a' w' h1 h2 => by
  obtain ⟨s2, h3, h4⟩ := of_pk h1
  refine ⟨rfl, _, ⟨s2, rfl, h4⟩, ?_⟩
  rcases h3 with rfl | h3
  ·exact h2
  ·exact (freeze_cov h3).1 _ _ _ _ _ h2
theorem off_looks {d : Nat} {o : Oper} (h : d ∉ o.looksAt ops) : ∀ y ∈ o.op.operands.toList, offO (isN d) y = true := fun y hy => by
 cases y with
 | tmp t =>
  have : t ≠ d := fun e => by subst e; exact h (List.mem_append_left _ (List.mem_filterMap.2 ⟨.tmp t, hy, rfl⟩))
  simp [offO, isN, this]
 | _ => rfl
theorem tmp_looks {t : Nat} {o : Oper} (h : Operand.tmp t ∈ o.op.operands.toList) : t ∈ o.looksAt ops := List.mem_append_left _ (List.mem_filterMap.2 ⟨.tmp t, h, rfl⟩)
theorem w_sim (hG : Good P C.G) (hFT : FTok P FT) (ok : WOk ops n ord) {g : Nat} {Q' : Exit → Act → World → Prop} {w0 : World} {M0 : Nat → Prop} {D0 : Names}
  (hdone : ∀ listed, HeadInv .any ops n listed → (∃ j, j < n ∧ listed.getD j true = false) → ∀ i ∈ Region.ready .any ops listed, i < n)
  (htail : ∀ listed a w s, HeadInv .any ops n listed → (∀ j, j < n → listed.getD j false = true) → Q s → Sat w0 M0 D0 (s.st C.N) a w → wpAny P .any ops Q' g listed a w) :
  ∀ (f : Nat) (listed : Array Bool) (a : Act) (w : World), left n listed = f → HeadInv .any ops n listed → WInv C FT ops ord Q w0 M0 D0 listed a w → wpAny P .any ops Q' (f + g) listed a w
 | 0, listed, a, w, hf, inv, N => by
  have hall : ∀ j, j < n → listed.getD j false = true := by
   intro j hj
   have := List.countP_eq_zero.1 hf j (List.mem_range.2 hj)
   simpa using this
  obtain ⟨rest, s, e1, e3, e5, e6, e7⟩ := N
  have hrest : rest = [] := by
   cases rest with
   | nil => rfl
   | cons p m =>
    exfalso
    have h1 := e5 p (List.mem_cons_self ..)
    rw [hall p.2 (ok.lt p (e1.subset (List.mem_cons_self ..)))] at h1
    cases h1
  subst hrest
  rw [Nat.zero_add]
  obtain ⟨s0, h0, hq⟩ := e6
  exact htail listed a w s0 inv hall hq (sat_eqv h0 e7)
 | f + 1, listed, a, w, hf, inv, N => by
  rw [show f + 1 + g = (f + g) + 1 by omega]
  have hex : ∃ j, j < n ∧ listed.getD j false = false := by
   have hpos : 0 < left n listed := by rw [hf]; exact Nat.succ_pos f
   obtain ⟨j, h1, h2⟩ := List.countP_pos_iff.1 hpos
   exact ⟨j, List.mem_range.1 h1, by simpa using h2⟩
  have hready : ∀ (m j : Nat), j ≤ m → j < n → listed.getD j false = false → Region.ready .any ops listed ≠ [] := by
   intro m
   induction m with
   | zero =>
    intro j hj hjn hjf hnil
    obtain ⟨o, ho, _⟩ := ok.op j hjn
    have hmem : j ∈ Region.ready .any ops listed := mem_ready.2 ⟨getD_in (by rw [inv.size]; exact (Array.getElem?_eq_some_iff.1 ho).1) hjf, o, ho, fun e he hb => by have := ok.back j o hjn ho e he hb; omega⟩
    rw [hnil] at hmem; cases hmem
   | succ m ih =>
    intro j hj hjn hjf hnil
    obtain ⟨o, ho, _⟩ := ok.op j hjn
    by_cases hal : ∀ e ∈ o.after, Region.binds .any e = true → listed.getD e.on false = true
    ·have hmem : j ∈ Region.ready .any ops listed := mem_ready.2 ⟨getD_in (by rw [inv.size]; exact (Array.getElem?_eq_some_iff.1 ho).1) hjf, o, ho, hal⟩
     rw [hnil] at hmem; cases hmem
    ·have : ∃ e, e ∈ o.after ∧ Region.binds .any e = true ∧ listed.getD e.on false = false := by
      apply Classical.byContradiction
      intro hno
      refine hal fun e he hb => ?_
      cases hl : listed.getD e.on false with
      | true => rfl
      | false => exact absurd ⟨e, he, hb, hl⟩ hno
     obtain ⟨e, he, hb, hl⟩ := this
     have := ok.back j o hjn ho e he hb
     exact ih e.on (by omega) (by omega) hl hnil
  obtain ⟨j, hjn, hjf⟩ := hex
  refine ⟨fun hnil => absurd hnil (hready j j (Nat.le_refl _) hjn hjf), fun i hi => ?_⟩
  have hjt : listed.getD j true = false := by
   obtain ⟨o, ho, _⟩ := ok.op j hjn
   exact getD_in (by rw [inv.size]; exact (Array.getElem?_eq_some_iff.1 ho).1) hjf
  have hin : i < n := hdone listed inv ⟨j, hjn, hjt⟩ i hi
  obtain ⟨o, ho, hg⟩ := ok.op i hin
  obtain ⟨hun, o', ho', hall⟩ := mem_ready.1 hi
  rw [ho] at ho'; cases ho'
  have hlt : i < listed.size := by rw [inv.size]; exact (Array.getElem?_eq_some_iff.1 ho).1
  have hunf := getD_both hun
  have hf' : left n (listed.setIfInBounds i true) = f := by
   have := count_one (f := fun j => !(listed.getD j false)) (g := fun j => !((listed.setIfInBounds i true).getD j false)) (i := i) (by simp [hunf]) (by simp [hlt]) (fun j hj => by rw [getD_set_ne false (Ne.symm hj)]) n hin
   unfold left at hf ⊢
   omega
  have hseti : (listed.setIfInBounds i true).getD i false = true := by simp [hlt]
  have hsetn : ∀ m, m ≠ i → (listed.setIfInBounds i true).getD m false = listed.getD m false := fun m hm => getD_set_ne false (Ne.symm hm)
  have hsett : ∀ m, listed.getD m false = true → (listed.setIfInBounds i true).getD m false = true := fun m hm => by
   by_cases e : m = i
   ·rw [e]; exact hseti
   ·rw [hsetn _ e]; exact hm
  have next : ∀ a2 w2, WInv C FT ops ord Q w0 M0 D0 (listed.setIfInBounds i true) a2 w2 → wpAny P .any ops Q' (f + g) (listed.setIfInBounds i true) a2 w2 :=
   fun a2 w2 h => w_sim hG hFT ok hdone htail f _ a2 w2 hf' (inv.set hi hin) h
  obtain ⟨rest, s, e1, e3, e5, e6, e7⟩ := N
  have hrst : ∀ p ∈ rest, p ∈ ord := fun p hp => e1.subset hp
  obtain ⟨k, hk⟩ := ok.all i hin
  have hk : (k, i) ∈ rest := by
   rcases e3 (k, i) hk with h | h
   ·exact h
   ·rw [hunf] at h; cases h
  unfold wpOp
  simp only [ho, Region.wanted, hg, if_true]
  refine .inl ?_
  obtain ⟨l1, l2, hsp⟩ := List.append_of_mem hk
  rw [hsp] at e1
  have hnd : (l1 ++ (k, i) :: l2).Nodup := e1.nodup ok.nodup
  have hcl : (l1 ++ (k, i) :: l2).Pairwise (Clear ops) := ok.clear.sublist e1
  have hpw2 := List.pairwise_append.1 hcl
  have hpw3 := List.pairwise_cons.1 hpw2.2.1
  have hsub : (l1 ++ l2).Sublist ord := (List.Sublist.append (List.Sublist.refl _) (List.sublist_cons_self ..)).trans e1
  have hm1 : ∀ p ∈ l1 ++ l2, p ∈ rest := fun p hp => by
   rw [hsp]
   rcases List.mem_append.1 hp with h | h
   ·exact List.mem_append_left _ h
   ·exact List.mem_append_right _ (List.mem_cons_of_mem _ h)
  have hne : ∀ p ∈ l1 ++ l2, p.2 ≠ i := fun p hp he => by
   have heq := ok.uniq p (hrst p (hm1 p hp)) (k, i) (hrst _ hk) he
   subst heq
   rw [List.nodup_append, List.nodup_cons] at hnd
   rcases List.mem_append.1 hp with h | h
   ·exact hnd.2.2 _ h _ (by simp) rfl
   ·exact hnd.2.1.1 h
  have hopq : ∀ p ∈ rest, ∃ op, ops[p.2]? = some op := fun p hp => by
   obtain ⟨op, h, _⟩ := ok.op p.2 (ok.lt p (hrst p hp))
   exact ⟨op, h⟩
  have hlook : ∀ t, .tmp t ∈ o.op.operands.toList → ∀ q ∈ rest, dstJ ops q.2 ≠ some t := fun t ht q hq e => by
   obtain ⟨oq, hoq⟩ := hopq q hq
   obtain ⟨e', he', hb, heq⟩ := ok.looks i o hin ho t (tmp_looks ht) q.2 oq (ok.lt q (hrst q hq)) hoq (by simpa [dstJ, hoq] using e)
   have := hall e' he' hb
   rw [heq, e5 q hq] at this; cases this
  have fin : ∀ s2 a2 w2, WX C FT ops Q [] (l1 ++ l2) s2 → Sat w0 M0 D0 (s2.st C.N) a2 w2 → wpAny P .any ops Q' (f + g) (listed.setIfInBounds i true) a2 w2 := fun s2 a2 w2 hW hS => by
   refine next a2 w2 ⟨l1 ++ l2, s2, hsub, fun p hp => ?_, fun p hp => ?_, hW, hS⟩
   ·rcases e3 p hp with h | h
    ·by_cases e : p = (k, i)
     ·subst e; exact .inr hseti
     ·refine .inl ?_
      rw [hsp] at h
      simp only [List.mem_append, List.mem_cons] at h ⊢
      rcases h with h | h | h
      ·exact .inl h
      ·exact absurd h e
      ·exact .inr h
    ·exact .inr (hsett _ h)
   ·rw [hsetn _ (hne p hp)]; exact e5 p (hm1 p hp)
  have step : ∀ d, sOp C FT false s o.dst o.op (fun s' => PK (∃ s2, (s' = s2 ∨ freezeS d s' = some s2) ∧ WX C FT ops Q [] (l1 ++ l2) s2)) = some () → o.wp P a w (fun a2 w2 => wpAny P .any ops Q' (f + g) (listed.setIfInBounds i true) a2 w2) Q' := by
   intro d hst
   refine wp_one hg (fun b w hb => by obtain ⟨_, _, hb, _⟩ := hb; exact hb) (eff_wp hG hFT hg hst e7) fun b w' hR => ?_
   obtain ⟨S', ⟨s2, rfl, hW⟩, hS'⟩ := hR
   exact fin s2 _ _ hW hS'
  rw [hsp] at e6
  rcases Nat.lt_or_ge k 4 with hk4 | hk4
  ·
   have hr : ∀ q ∈ l1, q.1 < 2 := fun q hq => by
    rcases Nat.lt_or_ge q.1 2 with h | h
    ·exact h
    ·have hw := (List.pairwise_append.1 ((ok.wait listed inv).sublist e1)).2.2 q hq (k, i) (by simp) h hk4 (fun o' ho' => by rw [ho] at ho'; cases ho'; exact hall)
     rw [e5 q (hm1 q (List.mem_append_left _ hq))] at hw; cases hw
   have hin1 : ∀ q ∈ l1, q ∈ rest := fun q hq => hm1 q (List.mem_append_left _ hq)
   have apart : ∀ q ∈ rest, ∀ p ∈ rest, ∀ op, ops[p.2]? = some op → Clear ops q p → (∀ oq t, ops[q.2]? = some oq → oq.dst = some t → .tmp t ∉ op.op.operands.toList) → Apart ops q op := fun q hq p hp op hop hcl ha =>
    ⟨hopq q hq, ha, fun oq t hoq ht h => (hcl oq op t hoq hop ht).1 (tmp_looks h), fun oq t hoq ht => (hcl oq op t hoq hop ht).2⟩
   have ha : ∀ q ∈ l1, Apart ops q o := fun q hq => apart q (hin1 q hq) (k, i) hk o ho (hpw2.2.2 q hq (k, i) (by simp)) fun oq t hoq ht h => hlook t h q (hin1 q hq) (by simp [dstJ, hoq, ht])
   rcases Nat.lt_or_ge k 2 with hk2 | hk2
   ·obtain ⟨c, x, h1, h2, h3⟩ := WX_read ho hk2 l1 hr ha e6
    obtain ⟨hd, D, hm, he, hpin⟩ := e7
    obtain ⟨v, hv, hrun⟩ := rOp_sound hm he (sR_sound hG h1 h2)
    unfold Oper.wp
    rw [hrun w (Below.refl _ _)]
    refine fin _ _ _ h3 ?_
    rw [put_st]
    exact ⟨by rw [put_defers]; exact hd, D, hm, he.put _ hv, hpin⟩
   ·refine step 0 (sOp_kd (fun s' _ h => pk_of ⟨s', .inl rfl, of_pk h⟩) (WX_eff ho hk2 hk4 l1 hr ha ?_ (fun q hq => ?_) (fun q hq oq t hoq ht h => ?_) e6))
    ·exact hpw2.1.imp fun {q p} h op hop => ⟨fun oq t hoq ht hm => (h oq op t hoq hop ht).1 (tmp_looks hm), fun oq t hoq ht => (h oq op t hoq hop ht).2⟩
    ·refine Bool.eq_false_iff.2 fun h => ?_
     have := reach_listed inv 3 i q.2 o ho hall h
     rw [e5 q (hin1 q hq)] at this; cases this
    ·exact ok.self q.2 oq (ok.lt q (hrst q (hin1 q hq))) hoq t ht (tmp_looks h)
  ·
   obtain ⟨d, hd, hd9⟩ := ok.flo (k, i) (hrst _ hk) hk4
   have hd : o.dst = some d := by simpa [dstJ, ho] using hd
   have hcl1 : ∀ q ∈ l1, Clear ops q (k, i) := fun q hq => hpw2.2.2 q hq (k, i) (by simp)
   have hcl3 : ∀ q ∈ l2, Clear ops (k, i) q := fun q hq => hpw3.1 q hq
   have hdd : ∀ p ∈ l1 ++ l2, dstJ ops p.2 ≠ some d := fun p hp e => by
    obtain ⟨op, hop⟩ := hopq p (hm1 p hp)
    have hpd : op.dst = some d := by simpa [dstJ, hop] using e
    rcases List.mem_append.1 hp with h | h
    ·exact (hcl1 p h op o d hop ho hd).2 hpd
    ·exact (hcl3 p h o op d ho hop hpd).2 hd
   obtain ⟨hgt, hst⟩ := WX_float ho hd hk4 hd9 e6 (fun q hq oq hoq => ⟨off_looks (ops := ops) (hcl1 q hq oq o d hoq ho hd).1, (hcl1 q hq oq o d hoq ho hd).2⟩) hdd (fun t ht q hq => hlook t ht q (by rw [hsp]; exact hq)) (by
    by_cases h5 : k = 5
    ·exact .inl h5
    ·refine .inr fun p hp hp4 op hop ht => ?_
     rcases List.mem_append.1 hp with h | h
     ·exact (hcl1 p h op o d hop ho hd).1 (tmp_looks ht)
     ·have hf4 := (List.pairwise_append.1 (ok.fl4.sublist e1)).2.1
      exact (List.pairwise_cons.1 hf4).1 p h hk4 h5 hp4 op d hop (by simp [dstJ, ho, hd]) (tmp_looks ht))
   exact step d hst
theorem clear_of {q p : Nat × Nat} (h : clearB ops q.2 p.2 = true) : Clear ops q p := by
 intro oq op t hq hp hd
 have e : dstJ ops p.2 = some t := by simp [dstJ, hp, hd]
 simp only [clearB, hq, e, Bool.and_eq_true, Bool.not_eq_true'] at h
 refine ⟨fun hc => ?_, fun hc => ?_⟩
 ·have : (oq.looksAt ops).contains t = true := by simpa using hc
  rw [this] at h; cases h.1
 ·have := h.2
  rw [hc] at this
  simp at this
theorem wB2_step {cur : Option Nat} {fl : List Nat} {k i : Nat} (h : wB2 ops cur fl ((k, i) :: l) = true) : selfB ops i = true ∧ (∀ p ∈ l, clearB ops i p.2 = true) ∧
  ((4 ≤ k ∧ flS ops k i l = true ∧ wB2 ops cur (i :: fl) l = true) ∨
  (k < 4 ∧ ((∀ e, cur = some e → reach ops 3 i e = true) ∧ ∀ e ∈ fl, reach ops 3 i e = true) ∧
   ((2 ≤ k ∧ wB2 ops (some i) [] l = true) ∨ (k < 2 ∧ wB2 ops cur fl l = true)))) := by
 simp only [wB2, Bool.and_eq_true] at h
 obtain ⟨⟨h1, h2⟩, h3⟩ := h
 refine ⟨h1, fun p hp => List.all_eq_true.1 h2 p hp, ?_⟩
 cases hk : Nat.ble 4 k with
 | true =>
  simp only [hk, Bool.and_eq_true] at h3
  exact .inl ⟨Nat.le_of_ble_eq_true hk, h3.1, h3.2⟩
 | false =>
  simp only [hk, Bool.and_eq_true] at h3
  have hk4 : k < 4 := by
   rcases Nat.lt_or_ge k 4 with h | h
   ·exact h
   ·rw [Nat.ble_eq_true_of_le h] at hk; cases hk
  refine .inr ⟨hk4, ⟨fun e he => ?_, fun e he => List.all_eq_true.1 h3.1.2 e he⟩, ?_⟩
  ·have := h3.1.1
   rw [he] at this; exact this
  ·have h4 := h3.2
   cases hk2 : Nat.ble 2 k with
   | true =>
    simp only [hk2] at h4
    exact .inl ⟨Nat.le_of_ble_eq_true hk2, h4⟩
   | false =>
    simp only [hk2] at h4
    have : k < 2 := by
     rcases Nat.lt_or_ge k 2 with h | h
     ·exact h
     ·rw [Nat.ble_eq_true_of_le h] at hk2; cases hk2
    exact .inr ⟨this, h4⟩
theorem wB2_next {cur : Option Nat} {fl : List Nat} {k i : Nat} (h : wB2 ops cur fl ((k, i) :: l) = true) : ∃ cur' fl', wB2 ops cur' fl' l = true ∧ (2 ≤ k → cur' = some i ∨ i ∈ fl') := by
 obtain ⟨_, _, h⟩ := wB2_step h
 rcases h with ⟨_, _, h⟩ | ⟨_, _, ⟨_, h⟩ | ⟨_, h⟩⟩
 ·exact ⟨_, _, h, fun _ => .inr (List.mem_cons_self ..)⟩
 ·exact ⟨_, _, h, fun _ => .inl rfl⟩
 ·exact ⟨_, _, h, fun _ => by omega⟩
theorem pairwise_of : ∀ (l : List (Nat × Nat)) {cur : Option Nat} {fl : List Nat}, wB2 ops cur fl l = true → l.Pairwise (Clear ops)
 | [], _, _, _ => List.Pairwise.nil
 | (k, i) :: l, cur, fl, h => by
  obtain ⟨_, _, h', _⟩ := wB2_next h
  exact List.pairwise_cons.2 ⟨fun p hp => clear_of (q := (k, i)) ((wB2_step h).2.1 p hp), pairwise_of l h'⟩
theorem wait_of (inv : HeadInv .any ops n listed) : ∀ (l : List (Nat × Nat)) {cur : Option Nat} {fl : List Nat}, (∀ p ∈ l, ∃ o, ops[p.2]? = some o) → wB2 ops cur fl l = true →
  ∀ p ∈ l, p.1 < 4 → (∀ o, ops[p.2]? = some o → ∀ e ∈ o.after, Region.binds .any e = true → listed.getD e.on false = true) → (∀ e, cur = some e → listed.getD e false = true) ∧ ∀ e ∈ fl, listed.getD e false = true
 | [], _, _, _, _, p, hp, _, _ => by cases hp
 | (k, i) :: l, cur, fl, hop, h, p, hp, hp4, hr => by
  obtain ⟨_, _, h⟩ := wB2_step h
  obtain ⟨o, ho⟩ := hop (k, i) (List.mem_cons_self ..)
  have hop' : ∀ p ∈ l, ∃ o, ops[p.2]? = some o := fun p hp => hop p (List.mem_cons_of_mem _ hp)
  have here : ((∀ e, cur = some e → reach ops 3 i e = true) ∧ ∀ e ∈ fl, reach ops 3 i e = true) → (∀ e ∈ o.after, Region.binds .any e = true → listed.getD e.on false = true) → (∀ e, cur = some e → listed.getD e false = true) ∧ ∀ e ∈ fl, listed.getD e false = true :=
   fun h hall => ⟨fun e he => reach_listed inv 3 i e o ho hall (h.1 e he), fun e he => reach_listed inv 3 i e o ho hall (h.2 e he)⟩
  rcases List.mem_cons.1 hp with rfl | hp
  ·rcases h with ⟨h4, _⟩ | ⟨_, h1, _⟩
   ·simp at hp4; omega
   ·exact here h1 (hr o ho)
  ·rcases h with ⟨_, _, h⟩ | ⟨_, h1, ⟨_, h⟩ | ⟨_, h⟩⟩
   ·obtain ⟨a, b⟩ := wait_of inv l hop' h p hp hp4 hr
    exact ⟨a, fun e he => b e (List.mem_cons_of_mem _ he)⟩
   ·obtain ⟨a, _⟩ := wait_of inv l hop' h p hp hp4 hr
    exact here h1 (inv.closed i o ho (a i rfl))
   ·exact wait_of inv l hop' h p hp hp4 hr
theorem waits_of (inv : HeadInv .any ops n listed) : ∀ (l : List (Nat × Nat)) {cur : Option Nat} {fl : List Nat}, (∀ p ∈ l, ∃ o, ops[p.2]? = some o) → wB2 ops cur fl l = true →
  l.Pairwise fun q p => 2 ≤ q.1 → p.1 < 4 → (∀ o, ops[p.2]? = some o → ∀ e ∈ o.after, Region.binds .any e = true → listed.getD e.on false = true) → listed.getD q.2 false = true
 | [], _, _, _, _ => List.Pairwise.nil
 | (k, i) :: l, cur, fl, hop, h => by
  obtain ⟨cur', fl', h', hc⟩ := wB2_next h
  have hop' : ∀ p ∈ l, ∃ o, ops[p.2]? = some o := fun p hp => hop p (List.mem_cons_of_mem _ hp)
  refine List.pairwise_cons.2 ⟨fun p hp hk hp4 hr => ?_, waits_of inv l hop' h'⟩
  obtain ⟨a, b⟩ := wait_of inv l hop' h' p hp hp4 hr
  rcases hc hk with e | e
  ·exact a i e
  ·exact b i e
theorem flS_of {k i : Nat} (h : flS ops k i l = true) : ∃ d, dstJ ops i = some d ∧ d ≠ 999998 ∧ (k ≠ 5 → ∀ p ∈ l, 4 ≤ p.1 → ∀ op, ops[p.2]? = some op → d ∉ op.looksAt ops) := by
 unfold flS at h
 split at h
 ·rename_i d hd
  simp only [Bool.and_eq_true, Bool.not_eq_true', beq_eq_false_iff_ne, Bool.or_eq_true, beq_iff_eq] at h
  refine ⟨d, hd, h.1, fun h5 p hp hp4 op hop hc => ?_⟩
  have := List.all_eq_true.1 (h.2.resolve_left h5) p hp
  simp only [Nat.ble_eq_true_of_le hp4, Bool.not_true, Bool.false_or, hop, Bool.not_eq_true'] at this
  have hc : (op.looksAt ops).contains d = true := by simpa using hc
  rw [this] at hc; cases hc
 ·cases h
theorem fl_of : ∀ (l : List (Nat × Nat)) {cur : Option Nat} {fl : List Nat}, wB2 ops cur fl l = true → (∀ p ∈ l, 4 ≤ p.1 → ∃ d, dstJ ops p.2 = some d ∧ d ≠ 999998) ∧
  l.Pairwise fun q p => 4 ≤ q.1 → q.1 ≠ 5 → 4 ≤ p.1 → ∀ op d, ops[p.2]? = some op → dstJ ops q.2 = some d → d ∉ op.looksAt ops
 | [], _, _, _ => ⟨fun p hp => (by cases hp), List.Pairwise.nil⟩
 | (k, i) :: l, cur, fl, h => by
  obtain ⟨_, _, h', _⟩ := wB2_next h
  obtain ⟨a, b⟩ := fl_of l h'
  obtain ⟨_, _, h⟩ := wB2_step h
  have hfs : 4 ≤ k → flS ops k i l = true := fun hk => by
   rcases h with ⟨_, h, _⟩ | ⟨h, _⟩
   ·exact h
   ·omega
  refine ⟨fun p hp hp4 => ?_, List.pairwise_cons.2 ⟨fun p hp hk h5 hp4 op d' hop hd' => ?_, b⟩⟩
  ·rcases List.mem_cons.1 hp with rfl | hp
   ·obtain ⟨d', h1, h2, _⟩ := flS_of (hfs hp4)
    exact ⟨d', h1, h2⟩
   ·exact a p hp hp4
  ·obtain ⟨d2, h1, _, h3⟩ := flS_of (hfs hk)
   have hd' : dstJ ops i = some d' := hd'
   rw [h1] at hd'; cases hd'
   exact h3 h5 p hp hp4 op hop
theorem self_of : ∀ (l : List (Nat × Nat)) {cur : Option Nat} {fl : List Nat}, wB2 ops cur fl l = true → ∀ p ∈ l, selfB ops p.2 = true
 | [], _, _, _, p, hp => by cases hp
 | (k, i) :: l, cur, fl, h, p, hp => by
  rcases List.mem_cons.1 hp with rfl | hp
  ·exact (wB2_step h).1
  ·obtain ⟨_, _, h', _⟩ := wB2_next h
   exact self_of l h' p hp
theorem nodupB_spec : ∀ {l : List Nat}, nodupB l = true → l.Nodup
 | [], _ => List.nodup_nil
 | x :: l, h => by
  simp only [nodupB, Bool.and_eq_true, Bool.not_eq_true'] at h
  refine List.nodup_cons.2 ⟨fun hm => ?_, nodupB_spec h.2⟩
  have : l.contains x = true := by simpa using hm
  rw [this] at h; cases h.1
theorem inj_of_map {α β : Type} {f : α → β} : ∀ {l : List α}, (l.map f).Nodup → ∀ {p q : α}, p ∈ l → q ∈ l → f p = f q → p = q
 | [], _, p, q, hp, _, _ => by cases hp
 | a :: l, h, p, q, hp, hq, e => by
  simp only [List.map_cons, List.nodup_cons] at h
  rcases List.mem_cons.1 hp with h1 | h1 <;> rcases List.mem_cons.1 hq with h2 | h2
  ·rw [h1, h2]
  ·rw [h1] at e; exact absurd (e ▸ List.mem_map_of_mem h2) h.1
  ·rw [h2] at e; exact absurd (e ▸ List.mem_map_of_mem h1) h.1
  ·exact inj_of_map h.2 h1 h2 e
theorem wok_of (h : wB ops n ord = true) : WOk ops n ord := by
 simp only [wB, Bool.and_eq_true] at h
 obtain ⟨h1, h2, h3, h4, h5⟩ := h
 have hb1 : ∀ i, i < n → ∃ o, ops[i]? = some o ∧ o.guard.isNone = true ∧ (o.after.toList.all fun e => !Region.binds .any e || decide (e.on < i)) = true ∧
   ((o.looksAt ops).all fun t => (List.range n).all fun j => !(dstJ ops j == some t) || (o.after.toList.any fun e => Region.binds .any e && e.on == j)) = true := by
  intro i hi
  have := List.all_eq_true.1 h4 i (List.mem_range.2 hi)
  unfold wB1 at this
  split at this
  ·cases this
  ·rename_i o ho
   simp only [Bool.and_eq_true] at this
   exact ⟨o, ho, this.1, this.2.1, this.2.2⟩
 have hnd := nodupB_spec h3
 have hnd2 : ord.Nodup := List.Pairwise.of_map (f := fun p : Nat × Nat => p.2) (R := (· ≠ ·)) (fun a b h e => h (by rw [e])) hnd
 have hlt : ∀ p ∈ ord, p.2 < n := fun p hp => by simpa using List.all_eq_true.1 h1 p hp
 have hopo : ∀ p ∈ ord, ∃ o, ops[p.2]? = some o := fun p hp => by
  obtain ⟨o, ho, _⟩ := hb1 p.2 (hlt p hp)
  exact ⟨o, ho⟩
 refine ⟨hlt, fun i hi => ?_, fun p hp q hq e => ?_, hnd2, fun i hi => ?_, fun i o hi ho e he hb => ?_, fun i o hi ho t ht j oj hj hoj hd => ?_, fun i o hi ho t ht => ?_, pairwise_of ord h5, fun listed inv => waits_of inv ord hopo h5, (fl_of ord h5).1, (fl_of ord h5).2⟩
 ·have := List.all_eq_true.1 h2 i (List.mem_range.2 hi)
  have : i ∈ ord.map (·.2) := by simpa using this
  obtain ⟨p, hp, rfl⟩ := List.mem_map.1 this
  exact ⟨p.1, hp⟩
 ·exact inj_of_map hnd hp hq e
 ·obtain ⟨o, ho, hg, _⟩ := hb1 i hi
  exact ⟨o, ho, by simpa using hg⟩
 ·obtain ⟨o', ho', _, hbk, _⟩ := hb1 i hi
  rw [ho] at ho'; cases ho'
  have := List.all_eq_true.1 hbk e (by simpa using he)
  simpa [hb] using this
 ·obtain ⟨o', ho', _, _, hlk⟩ := hb1 i hi
  rw [ho] at ho'; cases ho'
  have := List.all_eq_true.1 (List.all_eq_true.1 hlk t ht) j (List.mem_range.2 hj)
  have e : dstJ ops j = some t := by simp [dstJ, hoj, hd]
  simp only [e, beq_self_eq_true, Bool.not_true, Bool.false_or, List.any_eq_true, Bool.and_eq_true, beq_iff_eq] at this
  obtain ⟨e, g1, g2, g3⟩ := this
  exact ⟨e, by simpa using g1, g2, g3⟩
 ·have : i ∈ ord.map (·.2) := by simpa using List.all_eq_true.1 h2 i (List.mem_range.2 hi)
  obtain ⟨p, hp, hpi⟩ := List.mem_map.1 this
  have h7 := self_of ord h5 p hp
  rw [hpi] at h7
  simp only [selfB, ho, ht, Bool.not_eq_true'] at h7
  intro hc
  have : (o.looksAt ops).contains t = true := by simpa using hc
  rw [this] at h7; cases h7
theorem reg_w (hG : Good P C.G) (hFT : FTok P FT) {Q : St → Prop} {R : Type} {r : R} {K : SS → Option R} (hK : ∀ s', K s' = some r → TailOk P pins ops Q (ops.toList.drop n) (s'.st C.N)) {s : SS} (hB : (Region.lexTailB .any ops n || decide (n = ops.size)) = true) (hW : wB ops n ord = true)
  (hx : sGoW C FT ops [] ord s K = some r) : RegOk P pins ops true (s.st C.N) Q := by
 intro w0 M0 D0 a w hpp hs
 refine ⟨fun h => by (cases h), fun _ => ?_⟩
 have hne : n ≤ ops.size := by
  simp only [Region.lexTailB, Bool.or_eq_true, Bool.and_eq_true, decide_eq_true_eq] at hB
  rcases hB with h | h
  ·exact Nat.le_of_lt h.1.1.1.2
  ·exact Nat.le_of_eq h
 have ok := wok_of hW
 have inv0 : HeadInv .any ops n (Array.replicate ops.size false) :=
  ⟨by simp, fun j oj _ hl => (by rw [getD_replicate_false] at hl; cases hl), fun t _ ht => getD_in (by simpa using ht) (getD_replicate_false _ _)⟩
 have hw1 : Below w.heap.size w { w with drawn := w.drawn + 1 } := ⟨rfl, rfl, rfl, Nat.le_refl _, fun _ _ => rfl⟩
 have hs1 : Sat w0 M0 D0 (s.st C.N) a { w with drawn := w.drawn + 1 } := by
  obtain ⟨hd, D, hmem, he, hpin⟩ := hs
  exact ⟨hd, D, hmem.ext (grow_of_below hw1) hw1.os hw1.tape hw1.output, he.mono ((grow_of_below hw1).weaken (fun _ _ h => h.elim)) (fun _ _ h => h) hmem.lt (fun _ _ h => h), hpin⟩
 have hleft : left n (Array.replicate ops.size false) = n := by
  unfold left
  have : (List.range n).countP (fun j => !((Array.replicate ops.size false).getD j false)) = (List.range n).length := List.countP_eq_length.2 fun j _ => by rw [getD_replicate_false]; rfl
  rw [this, List.length_range]
 have N0 : WInv C FT ops ord (fun s' => K s' = some r) w0 M0 D0 (Array.replicate ops.size false) a { w with drawn := w.drawn + 1 } :=
  ⟨ord, s, List.Sublist.refl _, fun p hp => .inl hp, fun p _ => getD_replicate_false _ _, sGoW_wx ord hx, hs1⟩
 have hdone : ∀ listed, HeadInv .any ops n listed → (∃ j, j < n ∧ listed.getD j true = false) → ∀ i ∈ Region.ready .any ops listed, i < n := fun listed inv ⟨j, hjn, hjt⟩ i hi => by
  simp only [Region.lexTailB, Bool.or_eq_true, Bool.and_eq_true, decide_eq_true_eq] at hB
  rcases hB with ⟨⟨⟨⟨_, hn⟩, hsk⟩, hc⟩, _⟩ | h
  ·rcases Nat.lt_or_ge i n with h | h
   ·exact h
   ·exact absurd hi (tail_waits hsk hc hn inv _ j rfl hjn hjt i h)
  ·obtain ⟨_, o, ho, _⟩ := mem_ready.1 hi
   rw [h]; exact (Array.getElem?_eq_some_iff.1 ho).1
 have hall0 : ∀ listed : Array Bool, HeadInv .any ops n listed → (∀ j, j < n → listed.getD j false = true) → listed = setAll n 0 (Array.replicate ops.size false) := fun listed inv hall => by
  refine Array.ext (by rw [setAll_size, inv.size]; simp) fun j hj hj' => ?_
  have hjs : j < ops.size := by rw [← inv.size]; exact hj
  have e := setAll_get n 0 (Array.replicate ops.size false) j (by simpa using hjs)
  rw [getD_replicate_false] at e
  have e1 : listed.getD j false = if 0 ≤ j ∧ j < 0 + n then true else false := by
   by_cases hjn : j < n
   ·rw [if_pos (by omega), hall j hjn]
   ·rw [if_neg (by omega), getD_both (inv.tail j (by omega) hjs)]
  rw [← e] at e1
  have a1 : listed.getD j false = listed[j] := by rw [Array.getD_eq_getD_getElem?, Array.getElem?_eq_getElem hj]; rfl
  have a2 : (setAll n 0 (Array.replicate ops.size false)).getD j false = (setAll n 0 (Array.replicate ops.size false))[j] := by rw [Array.getD_eq_getD_getElem?, Array.getElem?_eq_getElem hj']; rfl
  rw [a1, a2] at e1
  exact e1
 have fin := w_sim hG hFT (Q' := Nrm (SatQ w0 M0 D0 Q)) (g := ops.size - n) ok hdone (fun listed a w s inv hall hQ hsat => by
  have hL := hall0 listed inv hall
  have hseq : Region.seqB .any ops (ops.size - n) n listed = true := by
   simp only [Region.lexTailB, Bool.or_eq_true, Bool.and_eq_true, decide_eq_true_eq] at hB
   rcases hB with ⟨_, hlex'⟩ | h
   ·have hseq := lexHead_seq n 0 _ hlex'
    rw [← hL, Nat.zero_add] at hseq
    exact hseq
   ·have e0 : ops.size - n = 0 := by omega
    rw [e0]
    simp only [Region.seqB, List.isEmpty_iff]
    apply List.eq_nil_iff_forall_not_mem.2
    intro i hi
    obtain ⟨hun, o, ho, _⟩ := mem_ready.1 hi
    have hin : i < n := by rw [h]; exact (Array.getElem?_eq_some_iff.1 ho).1
    have := hall i hin
    rw [getD_both hun] at this; cases this
  have hdl : (ops.toList.drop n).length = ops.size - n := by simp
  rw [← hdl] at hseq ⊢
  exact wpAny_of_seq (ops.toList.drop n) n listed a w (fun j => by simp [List.getElem?_drop]) hseq (hK s hQ w0 M0 D0 a w hpp hsat)) n _ a _ hleft inv0 N0
 rw [show n + (ops.size - n) = ops.size by omega] at fin
 exact fin
end
end Go.Abs
namespace Go.Abs
open Go.RowKit
section
variable {P : Program} {ops : Array Oper} {n : Nat} {pins : List Nat}
def AnyOk (P : Program) (pins : List Nat) (ops : Array Oper) (s : St) (Q : St → Prop) : Prop :=
 ∀ w0 M0 D0 a w, PinsOk pins D0 → Sat w0 M0 D0 s a w → wpAny P .any ops (Nrm (SatQ w0 M0 D0 Q)) ops.size (Array.replicate ops.size false) a w
theorem AnyOk.reg {s : St} {Q : St → Prop} (h : AnyOk P pins ops s Q) : RegOk P pins ops true s Q := by
 intro w0 M0 D0 a w hpp hs
 refine ⟨fun h => by (cases h), fun _ => h w0 M0 D0 a _ hpp ?_⟩
 have hw1 : Below w.heap.size w { w with drawn := w.drawn + 1 } := ⟨rfl, rfl, rfl, Nat.le_refl _, fun _ _ => rfl⟩
 obtain ⟨hd, D, hmem, he, hpin⟩ := hs
 exact ⟨hd, D, hmem.ext (grow_of_below hw1) hw1.os hw1.tape hw1.output, he.mono ((grow_of_below hw1).weaken (fun _ _ h => h.elim)) (fun _ _ h => h) hmem.lt (fun _ _ h => h), hpin⟩
theorem left_all (n m : Nat) : left n (Array.replicate m false) = n := by
 unfold left
 have : (List.range n).countP (fun j => !((Array.replicate m false).getD j false)) = (List.range n).length := List.countP_eq_length.2 fun j _ => by rw [getD_replicate_false]; rfl
 rw [this, List.length_range]
theorem inv_none (hn : n ≤ ops.size) : HeadInv .any ops n (Array.replicate ops.size false) :=
 ⟨by simp, fun j oj _ hl => (by rw [getD_replicate_false] at hl; cases hl), fun t _ ht => getD_in (by simpa using ht) (getD_replicate_false _ _)⟩
variable {C : Cfg} {FT : List (Nat × Entry)}
theorem any_w (hG : Good P C.G) (hFT : FTok P FT) {Q : St → Prop} {R : Type} {r : R} {K : SS → Option R} {s : SS} {ord : List (Nat × Nat)} (hn : n ≤ ops.size) (hW : wB ops n ord = true)
  (hdone : ∀ listed, HeadInv .any ops n listed → (∃ j, j < n ∧ listed.getD j true = false) → ∀ i ∈ Region.ready .any ops listed, i < n)
  (htail : ∀ w0 M0 D0 listed a w s', PinsOk pins D0 → HeadInv .any ops n listed → (∀ j, j < n → listed.getD j false = true) → K s' = some r → Sat w0 M0 D0 (s'.st C.N) a w → wpAny P .any ops (Nrm (SatQ w0 M0 D0 Q)) (ops.size - n) listed a w)
  (hx : sGoW C FT ops [] ord s K = some r) : AnyOk P pins ops (s.st C.N) Q := by
 intro w0 M0 D0 a w hpp hs
 have N0 : WInv C FT ops ord (fun s' => K s' = some r) w0 M0 D0 (Array.replicate ops.size false) a w :=
  ⟨ord, s, List.Sublist.refl _, fun p hp => .inl hp, fun p _ => getD_replicate_false _ _, sGoW_wx ord hx, hs⟩
 have fin := w_sim hG hFT (Q' := Nrm (SatQ w0 M0 D0 Q)) (g := ops.size - n) (wok_of hW) hdone (fun listed a w s inv hall hQ hsat => htail w0 M0 D0 listed a w s hpp inv hall hQ hsat) n _ a _ (left_all _ _) (inv_none hn) N0
 rw [show n + (ops.size - n) = ops.size by omega] at fin
 exact fin
theorem any_end (hG : Good P C.G) (hFT : FTok P FT) {Q : St → Prop} {R : Type} {r : R} {K : SS → Option R} (hK : ∀ s', K s' = some r → Q (s'.st C.N)) {s : SS} {ord : List (Nat × Nat)} (hn : n = ops.size) (hW : wB ops n ord = true)
  (hx : sGoW C FT ops [] ord s K = some r) : AnyOk P pins ops (s.st C.N) Q := by
 refine any_w hG hFT (Nat.le_of_eq hn) hW (fun listed inv _ i hi => ?_) (fun w0 M0 D0 listed a w s' _ inv hall h hs => ?_) hx
 ·obtain ⟨_, o, ho, _⟩ := mem_ready.1 hi
  rw [hn]; exact (Array.getElem?_eq_some_iff.1 ho).1
 ·have e0 : ops.size - n = 0 := by omega
  rw [e0]
  refine ⟨List.eq_nil_iff_forall_not_mem.2 fun i hi => ?_, rfl, _, hK _ h, hs⟩
  obtain ⟨hun, o, ho, _⟩ := mem_ready.1 hi
  have hin : i < n := by rw [hn]; exact (Array.getElem?_eq_some_iff.1 ho).1
  have := hall i hin
  rw [getD_both hun] at this; cases this
theorem wfB_spec {j i : Nat} (h : wfB ops j i = true) : ∃ oj, ops[j]? = some oj ∧ ∃ e ∈ oj.after, Region.binds .any e = true ∧ e.on = i := by
 unfold wfB at h
 split at h
 ·rename_i oj hj
  obtain ⟨e, he, hb⟩ := List.any_eq_true.1 h
  simp only [Bool.and_eq_true, beq_iff_eq] at hb
  exact ⟨oj, hj, e, by simpa using he, hb.1, hb.2⟩
 ·cases h
structure CutOk (ops : Array Oper) (n c t : Nat) (b : Bool) : Prop where
 le : n ≤ ops.size
 lt : c < n
 dst : dstJ ops c = some t
 sink : ∀ i, i < n → i ≠ c → ∃ j, j < n ∧ i < j ∧ wfB ops j i = true
 tail : ∀ j, n + j < ops.size → ∃ o, ops[n + j]? = some o ∧ (∃ e ∈ o.after, Region.binds .any e = true ∧ (e.on = c ∨ n ≤ e.on)) ∧ o.dst ≠ some t ∧ ∀ g x, o.guard = some (g, x) → n ≤ g ∨ (g = c ∧ x = b)
theorem cut_of {c t : Nat} {b : Bool} (h : cutB ops n c t b = true) : CutOk ops n c t b := by
 unfold cutB at h
 simp only [Bool.and_eq_true, decide_eq_true_eq, beq_iff_eq] at h
 obtain ⟨⟨h1, h2, h3⟩, h4, h5⟩ := h
 refine ⟨h1, h2, h3, fun i hi hc => ?_, fun j hj => ?_⟩
 ·have := List.all_eq_true.1 h4 i (List.mem_range.2 hi)
  simp only [Bool.or_eq_true, beq_iff_eq] at this
  rcases this with h | h
  ·exact absurd h hc
  ·obtain ⟨j, g1, g2⟩ := List.any_eq_true.1 h
   simp only [Bool.and_eq_true, decide_eq_true_eq] at g2
   exact ⟨j, List.mem_range.1 g1, g2.1, g2.2⟩
 ·have := List.all_eq_true.1 h5 j (List.mem_range.2 (by omega))
  cases ho : ops[n + j]? with
  | none => rw [ho] at this; cases this
  | some o =>
   rw [ho] at this
   simp only [Bool.and_eq_true, Bool.not_eq_true', beq_eq_false_iff_ne] at this
   obtain ⟨g1, g2, g3⟩ := this
   obtain ⟨e, e1, e2⟩ := List.any_eq_true.1 g1
   simp only [Bool.and_eq_true, Bool.or_eq_true, beq_iff_eq, decide_eq_true_eq] at e2
   refine ⟨o, rfl, ⟨e, by simpa using e1, e2.1, e2.2⟩, g2, fun g x hg => ?_⟩
   rw [hg] at g3
   simp only [Bool.or_eq_true, Bool.and_eq_true, beq_iff_eq, decide_eq_true_eq] at g3
   exact g3
theorem cut_all {c t : Nat} {b : Bool} (k : CutOk ops n c t b) {listed : Array Bool} (inv : HeadInv .any ops n listed) (hc : listed.getD c false = true) : ∀ (d i : Nat), n - i = d → i < n → listed.getD i false = true := by
 intro d
 induction d using Nat.strongRecOn with
 | _ d ih =>
  intro i hd hi
  by_cases e : i = c
  ·rw [e]; exact hc
  ·obtain ⟨j, hj, hij, hw⟩ := k.sink i hi e
   obtain ⟨oj, ho, ed, he, hb, hon⟩ := wfB_spec hw
   rw [← hon]
   exact inv.closed j oj ho (ih (n - j) (by omega) j rfl hj) ed he hb
theorem cut_waits {c t : Nat} {b : Bool} (k : CutOk ops n c t b) {listed : Array Bool} (inv : HeadInv .any ops n listed) (hx : ∃ j, j < n ∧ listed.getD j true = false) : ∀ i ∈ Region.ready .any ops listed, i < n := by
 intro i hi
 refine Nat.lt_of_not_le fun hni => ?_
 obtain ⟨hun, o, ho, hall⟩ := mem_ready.1 hi
 have his : i < ops.size := (Array.getElem?_eq_some_iff.1 ho).1
 obtain ⟨o', ho', ⟨e, he, hb, hon⟩, _⟩ := k.tail (i - n) (by omega)
 rw [show n + (i - n) = i by omega, ho] at ho'
 cases ho'
 have hl := hall e he hb
 rcases hon with h | h
 ·obtain ⟨j, hj, hjf⟩ := hx
  rw [h] at hl
  have := cut_all k inv hl _ j rfl hj
  rw [getD_both hjf] at this; cases this
 ·by_cases hs : e.on < ops.size
  ·have := getD_both (inv.tail e.on h hs)
   rw [hl] at this; cases this
  ·have : listed.getD e.on false = false := by simp [Array.getElem?_eq_none (xs := listed) (i := e.on) (by rw [inv.size]; omega)]
   rw [hl] at this; cases this
theorem tailA_get (ops : Array Oper) (n t : Nat) (b : Bool) (j : Nat) : (tailA ops n t b)[j]? = (ops[n + j]?).map (shT n t b) := by
 unfold tailA
 rw [List.getElem?_toArray, List.getElem?_map, List.getElem?_drop, Array.getElem?_toList]
theorem tailA_size (ops : Array Oper) (n t : Nat) (b : Bool) : (tailA ops n t b).size = ops.size - n := by simp [tailA]
theorem wp_frame {o : Oper} {a : Act} {w : World} {K K2 : Act → World → Prop} {R : Act → World → Prop} (h : o.wp P a w K (Nrm R))
  (hK : ∀ a' w', (∀ t : Nat, o.dst ≠ some t → a'.tmps[t]? = a.tmps[t]?) → K a' w' → K2 a' w') : o.wp P a w K2 (Nrm R) := by
 have hp : ∀ (b : Act) (v : Value), b.tmps = a.tmps → ∀ t : Nat, o.dst ≠ some t → (b.put o.dst v).tmps[t]? = a.tmps[t]? := fun b v hb t ht => by
  rw [put_get, if_neg (fun h => ht h.1), hb]
 unfold Oper.wp at *
 generalize hr : (execOp a.eval o).run P w = r at *
 cases r with
 | ok x w' =>
  cases x <;> simp only [Oper.upon] at h ⊢
  case value v => exact hK _ w' (hp a v rfl) h
  case skip => exact hK _ w' (hp a _ rfl) h
  case defer d => exact hK _ w' (hp _ _ rfl) h
  case enter f args =>
   refine Calls.mono h fun e w2 he => ?_
   cases e with
   | returned v => exact hK _ w2 (hp a v rfl) he
   | panicked c => exact he
   | outgrown => exact he
  case row row args => exact Rows.mono h fun v w2 he => hK _ w2 (hp a v rfl) he
 | halt x w' =>
  cases x <;> simp only [Oper.upon] at h ⊢
  exact h
theorem cutP_exec {n t : Nat} {b : Bool} {o : Oper} {a : Act} (ht : a.tmps[t]? = some (.bool b)) : execOp a.eval (shT n t b o) = execOp a.eval o := by
 obtain ⟨dst, op, ty, pos, aft, gd⟩ := o
 cases op with
 | pick c x y =>
  cases c with
  | tmp q =>
   cases hq : Nat.beq q t with
   | true =>
    have := Nat.eq_of_beq_eq_true hq
    subst this
    have e : a.eval (.tmp q) = .bool b := by simp [Act.eval, ht]
    simp only [shT, cutP, hq, execOp, e]
    cases b <;> rfl
   | false => simp only [shT, cutP, hq]; rfl
  | _ => rfl
 | _ => rfl
theorem shT_wp {n t : Nat} {b : Bool} {o : Oper} {a : Act} {w : World} {K : Act → World → Prop} {Q : Exit → Act → World → Prop} (ht : a.tmps[t]? = some (.bool b)) (h : (shT n t b o).wp P a w K Q) : o.wp P a w K Q := by
 unfold Oper.wp at *
 rw [cutP_exec ht] at h
 exact h
theorem yielded_tail {t : Nat} {b : Bool} (tmps : Array Value) (j : Nat) : yielded (tailA ops n t b) tmps j = yielded ops tmps (n + j) := by
 unfold yielded
 rw [tailA_get]
 cases ops[n + j]? <;> rfl
theorem tail_any {c t : Nat} {b : Bool} (k : CutOk ops n c t b) {R : Act → World → Prop} : ∀ (g : Nat) (LT listed : Array Bool) (a : Act) (w : World), LT.size = ops.size - n → listed.size = ops.size → (∀ j, j < n → listed.getD j false = true) → (∀ j d, listed.getD (n + j) d = LT.getD j d) → a.tmps[t]? = some (.bool b) →
  wpAny P .any (tailA ops n t b) (Nrm R) g LT a w → wpAny P .any ops (Nrm R) g listed a w := by
 have fwd : ∀ (LT listed : Array Bool), (∀ j, j < n → listed.getD j false = true) → (∀ j d, listed.getD (n + j) d = LT.getD j d) → ∀ i ∈ Region.ready .any ops listed, ∃ j, i = n + j ∧ j ∈ Region.ready .any (tailA ops n t b) LT := fun LT listed h1 h2 i hi => by
  obtain ⟨hun, o, ho, hall⟩ := mem_ready.1 hi
  have hni : n ≤ i := Nat.le_of_not_lt fun h => by
   have := h1 i h
   rw [getD_both hun] at this; cases this
  obtain ⟨j, rfl⟩ : ∃ j, i = n + j := ⟨i - n, by omega⟩
  refine ⟨j, rfl, mem_ready.2 ⟨by rw [← h2]; exact hun, shT n t b o, by rw [tailA_get, ho]; rfl, fun e he hb => ?_⟩⟩
  have he : e ∈ ((o.after.toList.filter fun e => Nat.ble n e.on).map fun e : Edge => (⟨e.on - n, e.ground⟩ : Edge)) := by simpa [shT] using he
  obtain ⟨e0, he0, rfl⟩ := List.mem_map.1 he
  obtain ⟨m1, m2⟩ := List.mem_filter.1 he0
  have m2 := Nat.le_of_ble_eq_true m2
  have := hall e0 (by simpa using m1) hb
  rw [← h2, show n + (e0.on - n) = e0.on by omega]
  exact this
 have bwd : ∀ (LT listed : Array Bool), (∀ j, j < n → listed.getD j false = true) → (∀ j d, listed.getD (n + j) d = LT.getD j d) → ∀ j ∈ Region.ready .any (tailA ops n t b) LT, n + j ∈ Region.ready .any ops listed := fun LT listed h1 h2 j hj => by
  obtain ⟨hun, o', ho', hall⟩ := mem_ready.1 hj
  rw [tailA_get] at ho'
  obtain ⟨o, ho, rfl⟩ := Option.map_eq_some_iff.1 ho'
  refine mem_ready.2 ⟨by rw [h2]; exact hun, o, ho, fun e he hb => ?_⟩
  by_cases hen : e.on < n
  ·exact h1 _ hen
  ·have := hall ⟨e.on - n, e.ground⟩ (by
    simp only [shT, List.mem_toArray]
    exact List.mem_map.2 ⟨e, List.mem_filter.2 ⟨by simpa using he, Nat.ble_eq_true_of_le (by omega)⟩, rfl⟩) hb
   rw [← h2] at this
   rwa [show n + (e.on - n) = e.on by omega] at this
 intro g
 induction g with
 | zero =>
  intro LT listed a w _ _ h1 h2 _ h
  refine ⟨List.eq_nil_iff_forall_not_mem.2 fun i hi => ?_, h.2⟩
  obtain ⟨j, _, hj⟩ := fwd LT listed h1 h2 i hi
  rw [h.1] at hj; cases hj
 | succ g ih =>
  intro LT listed a w hs1 hs2 h1 h2 ht h
  obtain ⟨g1, g2⟩ := h
  refine ⟨fun hnil => g1 (List.eq_nil_iff_forall_not_mem.2 fun j hj => by have := bwd LT listed h1 h2 j hj; rw [hnil] at this; cases this), fun i hi => ?_⟩
  obtain ⟨j, rfl, hj⟩ := fwd LT listed h1 h2 i hi
  obtain ⟨_, o, ho, _⟩ := mem_ready.1 hi
  have his : n + j < ops.size := (Array.getElem?_eq_some_iff.1 ho).1
  obtain ⟨o2, ho2, _, hdst, hgd⟩ := k.tail j his
  rw [ho] at ho2; cases ho2
  have hw := g2 j hj
  have hT : (tailA ops n t b)[j]? = some (shT n t b o) := by rw [tailA_get, ho]; rfl
  have hnext : ∀ a' w', (∀ q : Nat, o.dst ≠ some q → a'.tmps[q]? = a.tmps[q]?) → wpAny P .any (tailA ops n t b) (Nrm R) g (LT.setIfInBounds j true) a' w' → wpAny P .any ops (Nrm R) g (listed.setIfInBounds (n + j) true) a' w' := fun a' w' hf hh =>
   ih _ _ a' w' (by simpa using hs1) (by simpa using hs2) (fun q hq => by rw [getD_set_ne false (by omega)]; exact h1 q hq) (fun q d => by
    by_cases e : q = j
    ·subst e
     have l1 : n + q < listed.size := by omega
     have l2 : q < LT.size := by omega
     simp [l1, l2]
    ·rw [getD_set_ne d (by omega), getD_set_ne d (fun h => e h.symm), h2]) (by rw [hf t hdst]; exact ht) hh
  have hwant : Region.wanted (shT n t b o) (yielded (tailA ops n t b) a.tmps) = Region.wanted o (yielded ops a.tmps) := by
   unfold Region.wanted
   show (match shG n o.guard with | none => true | some (j, want) => yielded (tailA ops n t b) a.tmps j == some want) = _
   cases hg : o.guard with
   | none => rfl
   | some p =>
    obtain ⟨q, x⟩ := p
    simp only [shG]
    rcases hgd q x hg with hq | ⟨rfl, rfl⟩
    ·rw [Nat.ble_eq_true_of_le hq]
     simp only
     rw [yielded_tail, show n + (q - n) = q by omega]
    ·rw [show Nat.ble n q = false by rw [← Bool.not_eq_true]; exact fun h => by have := Nat.le_of_ble_eq_true h; have := k.lt; omega]
     have hy : yielded ops a.tmps q = some x := by
      unfold yielded
      have hd := k.dst
      unfold dstJ at hd
      rw [hd]
      simp only [Option.bind_some, ht]
     simp only [hy, beq_self_eq_true]
  unfold wpOp at hw ⊢
  rw [hT] at hw
  simp only [ho] at hw ⊢
  rw [hwant] at hw
  by_cases hwt : Region.wanted o (yielded ops a.tmps) = true
  ·rw [if_pos hwt] at hw ⊢
   rcases hw with hw | ⟨_, hw⟩
   ·exact .inl (wp_frame (shT_wp ht hw) hnext)
   ·exact absurd hw nrm_out
  ·rw [if_neg hwt] at hw ⊢
   exact hnext _ _ (fun q hq => by rw [put_get, if_neg (fun h => hq h.1)]) hw
theorem sGoC_any (hG : Good P C.G) (hFT : FTok P FT) {Q : St → Prop} {R : Type} {r : R} {K : SS → Option R} (hK : ∀ s', K s' = some r → Q (s'.st C.N)) : ∀ (m : RM) {ops : Array Oper} {s : SS}, cB m ops = true → sGoC C FT m ops s K = some r → AnyOk P pins ops (s.st C.N) Q
 | .x, _, _, h, _ => by cases h
 | .q, _, _, h, _ => by cases h
 | .qt _, _, _, h, _ => by cases h
 | .da _, _, _, h, _ => by cases h
 | .w n ord, ops, s, h, hx => by
  simp only [cB, Bool.and_eq_true, decide_eq_true_eq] at h
  exact any_end hG hFT hK h.1 h.2 hx
 | .c n c t b ord m, ops, s, h, hx => by
  simp only [cB, Bool.and_eq_true] at h
  obtain ⟨⟨hW, hB⟩, hm⟩ := h
  have k := cut_of hB
  refine any_w hG hFT k.le hW (fun listed inv => cut_waits k inv) (fun w0 M0 D0 listed a w s' hpp inv hall hx hs => ?_) hx
  split at hx
  ·rename_i x hx0
   simp only [br] at hx
   have hb : wantB b x = true := Classical.byContradiction fun h => by
    rw [if_neg h] at hx; cases hx
   rw [if_pos hb] at hx
   have hxb : x = b := by cases b <;> cases x <;> first | rfl | cases hb
   have ht : a.tmps[t]? = some (.bool b) := by
    obtain ⟨_, D, hmem, he, _⟩ := hs
    have hv := ev_sound hmem.glob he (.tmp t)
    rw [asK_ev hx0] at hv
    have hv := slot_bool (b := x) hv
    rw [hxb] at hv
    simp only [Act.eval] at hv
    cases h : a.tmps[t]? with
    | none => simp [h, undef] at hv
    | some v => simpa [h] using hv
   have key := sGoC_any hG hFT hK m hm hx w0 M0 D0 a w hpp hs
   rw [tailA_size] at key
   refine tail_any k _ (Array.replicate (ops.size - n) false) listed a w (by simp) inv.size hall (fun j d => ?_) ht key
   by_cases hj : n + j < ops.size
   ·have e1 := inv.tail (n + j) (by omega) hj
    have l1 : n + j < listed.size := by rw [inv.size]; exact hj
    have l2 : j < (Array.replicate (ops.size - n) false).size := by simp; omega
    have : listed[n + j] = false := by simpa [l1] using e1
    simp [l1, this]
    have : j < ops.size - n := by omega
    simp [this]
   ·have : ¬ n + j < listed.size := by rw [inv.size]; exact hj
    have : ¬ j < ops.size - n := by omega
    simp [*]
  ·cases hx
end
end Go.Abs
