import Derived.Test.YtdkibgdkmnpncaaDoorH4
import Derived.Test.YtdkibgdkmnpncaaDoorWt
open Go Go.Proofs Go.Abs Go.RowKit Go.Shelf
attribute [local go_sem] Oper.semAt_some
set_option linter.unusedVariables false
set_option maxRecDepth 100000
set_option maxHeartbeats 4000000
namespace Go.Proofs.YtdkibgdkmnpncaaDoor
theorem fo46 : funOk Tryd.prog 46 = true := by kernel_rfl
theorem ft29 : FTok Tryd.prog FT29 := FTok_cons fo45 tc45 (FTok_cons fo47 tc47 (FTok_cons fo48 tc48 (FTok_cons fo49 tc49 (FTok_cons fo31 tc31 FTok_nil))))
theorem it29 : ITok Tryd.prog IT29 := ITok_cons (fn := Tryd.f46) fo46 Tryd.func46 (by kernel_rfl) (by kernel_rfl) (by kernel_rfl) ITok_nil
abbrev ob29 (z : P29.T) : List (Nat × Abs.Obj) := ((P29.enc z).st 158).objs
abbrev en29 (z : P29.T) : List AV := ((P29.enc z).st 158).env
theorem look108 (z : P29.T) : Abs.look 500108 (ob29 z) = some (Abs.Obj.box [AV.sl 1 (z.2.2.2.2.2.2.2.2.1.1.map fun p : Int × Unit => [AV.int .i64 p.1])]) := by kernel_rfl
theorem env_eq (z z' : P29.T) (h1 : z'.1 = z.1) (h2 : z'.2.1 = z.2.1) : en29 z' = en29 z := by
 have e : ∀ z : P29.T, en29 z = en29 (z.1, z.2.1, ([], [], [], ()), (), ([], [], ()), (), (), ([], ()), ([], ()), [], [], [], [], ()) := fun z => by kernel_rfl
 rw [e z', e z, h1, h2]
theorem env_pin (z : P29.T) : (en29 z).all (pinV pins29) = true := by kernel_rfl
theorem env54 (z : P29.T) : (en29 z)[54]? = some (.wrp (some (.func 68), 0) [500108]) := by kernel_rfl
theorem keys29 (z : P29.T) : ∀ n ∈ pins29, ∃ cs, Abs.look n (ob29 z) = some (.box cs) := by
 intro n hn
 simp only [pins29, List.mem_cons, List.not_mem_nil, or_false] at hn
 rcases hn with rfl | rfl | rfl | rfl | rfl | rfl | rfl <;> exact ⟨_, rfl⟩
theorem nomp29 (z : P29.T) : ∀ n o, Abs.look n (ob29 z) = some o → noMp o = true := by
 have h : (ob29 z).all (fun p => noMp p.2) = true := by kernel_rfl
 intro n o ho
 have := List.all_eq_true.1 h (n, o) (by
  generalize ob29 z = L at ho
  induction L with
  | nil => cases ho
  | cons p r ih =>
   obtain ⟨m, q⟩ := p
   unfold Abs.look at ho
   split at ho
   ·rename_i e; cases ho; subst e; exact List.mem_cons_self ..
   ·exact List.mem_cons_of_mem _ (ih ho))
 exact this
noncomputable def BLK : Code := rgt (lft (rgt C29))
noncomputable def ASG : Code := match BLK with
 | .block _ (.rangeFunc _ _ a _) => a
 | _ => .skip
theorem blk_eq : BLK = .block 2 (.rangeFunc (.tmp 54) #[55, 56] ASG BODY) := by kernel_rfl
theorem asg_eq : ASG = .region 10 #[{ dst := some 13, op := .assign (.tmp 56), type := 3, pos := "engine.go:130", after := #[], guard := none }] false := by kernel_rfl
theorem asg_wp (l : Nat) (n : Nat) (K : Act → World → Prop) (Q : Exit → Act → World → Prop) (a : Act) (W : World) (h : K (a.put (some 13) (a.eval (.tmp 56))) W) : ASG.wpIn (Fence.wide.inRound l) n Tryd.prog (Exit.then K Q) a W := by
 rw [asg_eq]
 gi_wp2
 have e : a.tmps[56]?.getD undef = a.eval (.tmp 56) := by show _ = a.tmps.getD 56 undef; simp
 rw [e]
 exact h
theorem wpIn_to {c : Code} {Q : Exit → Act → World → Prop} {a : Act} {w : World} {n : Nat} (h : c.wpIn Fence.wide n Tryd.prog Q a w) : c.wpIn (FR none) 0 Tryd.prog Q a w := fun b k cs hro hb _ => h b k cs hro hb (fun _ h => by cases h)
theorem ord_of {w : World} {M0 : Nat → Prop} {D : Abs.Names} {w1 : World} {z : P29.T} (hm : Mem w M0 (ob29 z) D w1) {bx : Nat} (hb : D 500108 = some (some bx)) : OrdAt bx (ord29 z) w1 := by
 obtain ⟨vs, T, h1, h2, h3⟩ := hm.rep 500108 _ _ (look108 z) hb
 match vs, h2 with
 | [v], _ =>
  have h4 : Imm w1 D.M (AV.sl 1 (z.2.2.2.2.2.2.2.2.1.1.map fun p : Int × Unit => [AV.int .i64 p.1])) v := (h3 0 _ rfl).1
  have hc : w1.cell? ⟨bx, 0, none⟩ = some v := by simp [World.cell?, h1]
  have hl : (z.2.2.2.2.2.2.2.2.1.1.map fun p : Int × Unit => [AV.int .i64 p.1]).length = (ord29 z).length := by simp [ord29]
  generalize hL : (z.2.2.2.2.2.2.2.2.1.1.map fun p : Int × Unit => [AV.int .i64 p.1]) = L at h4 hl
  have hLj : ∀ (j : Nat) x, (ord29 z)[j]? = some x → L[j]? = some [AV.int .i64 x] := fun j x hx => by
   rw [← hL]
   simp only [ord29, List.getElem?_map, Option.map_eq_some_iff] at hx ⊢
   obtain ⟨p, hp, rfl⟩ := hx
   exact ⟨p, hp, rfl⟩
  cases h4 with
  | slnil _ a cap => exact ⟨a, cap, by rw [hc, ← hl]; rfl, fun j x hx => by have := hLj j x hx; simp at this⟩
  | sl _ _ b off cap f hb2 hM hcap hn hs hcc h1c hh =>
   refine ⟨some ⟨b, off, none⟩, cap, by rw [hc, hl], fun j x hx => ⟨b, off, rfl, ?_⟩⟩
   have e1 := hcc j _ 0 _ (hLj j x hx) rfl
   have e2 : Imm w1 D.M (.int .i64 x) (f j 0) := hh j _ 0 _ (hLj j x hx) rfl
   have e3 : f j 0 = .int .i64 x := by
    generalize f j 0 = u at e2
    cases e2; rfl
   rw [e3] at e1
   simpa using e1
theorem fold_snoc (z z' : S29) (pre : List Int) (n : Int) (h : fold29 z pre = some z') : fold29 z (pre ++ [n]) = r29 100000 some z' n := by
 unfold fold29 at h ⊢
 rw [List.foldlM_append, h]
 simp
theorem fold_enc (l : List Int) (x : E29 l) (t : Array Value) : ((#[55, 56] : Array Nat).zip (enc29 l x)).foldl (fun t (p, v) => t.setIfInBounds p v) t = (t.setIfInBounds 55 (.int .i64 ((x.1 : Nat) : Int))).setIfInBounds 56 (.int .i64 l[x]) := by
 simp [enc29]
section
variable {w0 : World} {D0 : Abs.Names}
theorem loop29 (hD0 : PinsOk [900000] D0) (z : P29.T) (hok : Ok29 z) (hlen : (ord29 z).length ≤ 100000) (a : Act) (w : World) (hd : DefX w0.heap.size a w) (hs : Sat w0 D0.N D0 ((P29.enc z).st 158) (ext #[] a) w)
  (Q : Exit → Act → World → Prop) (hQ : ∀ z' a' w', fold29 z (ord29 z).reverse = some z' → DefX w0.heap.size a' w' → Sat w0 D0.N D0 ((P29.enc z').st 158) (ext #[] a') w' → Q .normal a' w') :
  BLK.wpIn (FR none) 0 Tryd.prog Q a w := by
 obtain ⟨_, D, hm, he, hp⟩ := hs
 have he : EnvRep w D (en29 z) a.tmps := by simpa [ext, extd] using he
 have hw0 : w0.heap.size ≤ w.heap.size := hm.grow.size
 have h54 := he.2 54 _ (env54 z)
 obtain ⟨bs, hbl, hbs, t54⟩ := (show ∃ bs : List Nat, bs.length = [500108].length ∧ (∀ (i : Nat) (n b : Nat), [500108][i]? = some n → bs[i]? = some b → D n = some (some b)) ∧ a.tmps.getD 54 undef = .func (.func 68) #[] (bs.map fun b => Value.pointer (some ⟨b, 0, none⟩)).toArray from h54)
 match bs, hbl with
 | [bx], _ =>
 have hbx : D 500108 = some (some bx) := hbs 0 500108 bx rfl rfl
 generalize hl : ord29 z = l at *
 have hO : OrdAt bx l w := hl ▸ ord_of hm hbx
 obtain ⟨Dp, hDp⟩ : ∃ Dp : Abs.Names, Dp = fun n => if n ∈ pins29 ∨ top ≤ n then D n else none := ⟨_, rfl⟩
 have hpok : PinsOk pins29 Dp := fun n hn h => by
  rw [hDp] at h
  simp only at h
  split at h
  ·rename_i h'; rcases h' with h' | h'
   ·exact h'
   ·exact absurd hn (Nat.not_lt.2 h')
  ·cases h
 have hDpD : ∀ n ∈ pins29, ∀ d, D n = some d → Dp n = some d := fun n hn d h => by rw [hDp]; simp only; rw [if_pos (.inl hn)]; exact h
 have hpin0 : Abs.Pin Dp D (ob29 z) := fun n d h => by
  rw [hDp] at h
  simp only at h
  split at h
  ·rename_i h'
   refine ⟨h, fun hn => ?_⟩
   rcases h' with h' | h'
   ·exact keys29 z n h'
   ·exact absurd hn (Nat.not_lt.2 h')
  ·cases h
 have hD0p : ∀ n d, D0 n = some d → Dp n = some d := fun n d h => by
  rw [hDp]; simp only
  have h1 := (hp n d h).1
  rw [if_pos]
  ·exact h1
  ·by_cases hn : n < top
   ·have := hD0 n hn (by rw [h]; rfl)
    simp only [List.mem_cons, List.not_mem_nil, or_false] at this
    subst this
    exact .inl (by simp [pins29])
   ·exact .inr (Nat.not_lt.1 hn)
 obtain ⟨I, hI⟩ : ∃ I : List (E29 l) → World → Prop, I = fun pre W => ∃ z', fold29 z (pre.map fun k : E29 l => l[k]) = some z' ∧ z'.1 = z.1 ∧ z'.2.1 = z.2.1 ∧ z'.2.2.2.2.2.2.2.2.1 = z.2.2.2.2.2.2.2.2.1 ∧ (∃ D', Mem w0 D0.N (ob29 z') D' W ∧ Abs.Pin Dp D' (ob29 z')) ∧
  (∀ b : Nat, w.heap[b]? = some (.deferred (some [])) → W.heap[b]? = some (.deferred (some []))) ∧ w.heap.size ≤ W.heap.size := ⟨_, rfl⟩
 rw [blk_eq]
 refine wpIn_to (n := 2) (wpIn_block ?_)
 have hsz : a.tmps.size = 158 := by have := he.1; simpa [en29, SS.st] using this
 have hItr : ∀ pre W W', I pre W → Kept w.heap.size W W' → I pre W' := fun pre W W' h k => by
  rw [hI] at h ⊢
  obtain ⟨z', h1, h2, h3, h4, ⟨D', hm', hp'⟩, h5, h6⟩ := h
  have k0 : Kept w0.heap.size W W' := ⟨k.os, k.tape, k.output, k.size, fun i hi => k.low i (by omega), k.cells⟩
  refine ⟨z', h1, h2, h3, h4, ⟨D', mem_kept hm' (nomp29 z') k0, hp'⟩, fun b hb => ?_, Nat.le_trans h6 k.size⟩
  rw [k.low b (Array.getElem?_eq_some_iff.1 hb).1]
  exact h5 b hb
 refine wpIn_rangeFunc_ownH (F := Fence.wide) (n := 2) rfl (by omega) (gf := 68) (lb := #[.pointer (some ⟨bx, 0, none⟩)]) t54 trivial (enters_of Tryd.func68 (by kernel_rfl) rfl)
  (back_stops (2 - 1) (by omega) w bx l hlen hO) (fun h k o => k (h o)) (fun W i o o' hi ho hc hw h => ord_kept (B := 0) h ?kb) (Below.refl _ _) (fun _ => rfl)
  I (fun _ _ _ => False) ?hI (fun c s A B row h _ _ => h) ?h0 (fun x a' W => a' = { tmps := (((#[55, 56] : Array Nat).zip (enc29 l x)).foldl (fun t (p, v) => t.setIfInBounds p v) a.tmps).setIfInBounds 13 (.int .i64 l[x]), defers := [] }) (fun x a' s A B row h _ _ => h) ?assign ?body ?done ?stop
 case kb => exact Kept.of_grown (Nat.zero_le _) (grownBy_putObj' W i o') fun r e => by cases e; exact ⟨Nat.zero_le _, o, ho, hc⟩
 case hI =>
  intro pre A B row h hg hr
  have hA : w.heap.size ≤ A.heap.size := by rw [hI] at h; exact h.choose_spec.2.2.2.2.2.2
  exact hItr pre A B h (Kept.of_grown hA hg hr)
 case h0 =>
  rw [hI]
  exact ⟨z, rfl, rfl, rfl, rfl, ⟨D, hm, hpin0⟩, fun b h => h, Nat.le_refl _⟩
 case assign =>
  intro lp pre x W K hIp hK
  refine asg_wp lp _ K _ _ W ?_
  refine hK _ W ((KeepsOthers.refl W).from _) (fun h => h) hIp ?_
  have e56 : (((#[55, 56] : Array Nat).zip (enc29 l x)).foldl (fun t (p, v) => t.setIfInBounds p v) a.tmps).getD 56 undef = .int .i64 l[x] := by
   rw [fold_enc, Array.getD_eq_getD_getElem?, Array.getElem?_setIfInBounds_self_of_lt (by rw [Array.size_setIfInBounds, hsz]; decide)]
   rfl
  show ({ tmps := (((#[55, 56] : Array Nat).zip (enc29 l x)).foldl (fun t (p, v) => t.setIfInBounds p v) a.tmps).setIfInBounds 13 ((((#[55, 56] : Array Nat).zip (enc29 l x)).foldl (fun t (p, v) => t.setIfInBounds p v) a.tmps).getD 56 undef), defers := [] } : Act) = _
  rw [e56]
 case body =>
  rintro lp pre x a' W hlp _ hIp rfl hlt
  have hIp2 := hIp
  rw [hI] at hIp
  obtain ⟨z', h1, h2, h3, h4, ⟨D', hm', hp'⟩, h5, h6⟩ := hIp
  have hoz' : ord29 z' = l := by rw [← hl]; show z'.2.2.2.2.2.2.2.2.1.1.map _ = _; rw [h4]
  have hpp : ∀ n ∈ pins29, ∀ d, D n = some d → D' n = some d := fun n hn d h => (hp' n d (hDpD n hn d h)).1
  have hx : l[x] ∈ l := List.getElem_mem x.2
  obtain ⟨z2, g1, g2, g3, g4⟩ := hok ((pre ++ [x]).map fun k : E29 l => l[k]) (fun n hn => by
   rw [hl]
   obtain ⟨k, _, rfl⟩ := List.mem_map.1 hn
   exact List.getElem_mem k.2) (by rw [hl, List.length_map, List.length_append, List.length_cons, List.length_nil]; omega)
  have g1' := g1
  rw [List.map_append, List.map_cons, List.map_nil, fold_snoc z z' _ _ h1] at g1'
  have henv : EnvRep W D' (en29 z') a.tmps := by rw [env_eq z z' h2 h3]; exact env_pinned he (env_pin z) hpp
  have p1 := (henv.put (a := ⟨a.tmps, []⟩) (some 55) (x := .int .i64 ((x.1 : Nat) : Int)) (v := .int .i64 ((x.1 : Nat) : Int)) (Imm.int _ _))
  have p2 := p1.put (some 56) (x := .int .i64 l[x]) (v := .int .i64 l[x]) (Imm.int _ _)
  have p3 := p2.put (some 13) (x := .int .i64 l[x]) (v := .int .i64 l[x]) (Imm.int _ _)
  have hsat : Sat W D'.N Dp (SS.st 158 ⟨(13, .v (.c (.k (.int .i64 l[x])))) :: (56, .v (.c (.k (.int .i64 l[x])))) :: (55, .v (.c (.k (.int .i64 ((x.1 : Nat) : Int))))) :: (P29.enc z').env, (P29.enc z').objs⟩) (ext #[] { tmps := (((#[55, 56] : Array Nat).zip (enc29 l x)).foldl (fun t (p, v) => t.setIfInBounds p v) a.tmps).setIfInBounds 13 (.int .i64 l[x]), defers := [] }) W := by
   refine ⟨rfl, D', ?_, ?_, ?_⟩
   ·exact mem_rebase hm'
   ·rw [fold_enc]
    show EnvRep W D' (SS.st 158 ((((P29.enc z').put (some 55) (.v (.c (.k (.int .i64 ((x.1 : Nat) : Int)))))).put (some 56) (.v (.c (.k (.int .i64 l[x]))))).put (some 13) (.v (.c (.k (.int .i64 l[x])))))).env _
    rw [put_st, put_st, put_st]
    simp only [ext, extd, Array.empty_append]
    exact p3
   ·exact hp'
  have hx2 := exec_sound (C := ⟨G, 158, 100000, []⟩) good MtOk_nil ft29 wide (pins := pins29) (exJ_ok ft29 wide it29 8) 0 false BODY hBODY (by rw [shC_zero]; kernel_rfl) (by rw [shC_zero]; exact (rnd29 100000 z' ((x.1 : Nat) : Int) l[x]).trans g1')
  have hx3 := hx2 (some lp) #[] W D'.N Dp _ W (fun h => by cases h) rfl hpok (DefX.nil rfl) hsat
  refine Code.wpIn_mono ?_ hx3
  rintro e a2 W2 ⟨_, s', ⟨fs, rfl, hk⟩, hs2⟩
  cases e with
  | normal =>
   have hk : P29.dec 158 pins29 fs = some z2 := hk
   have hs3 := dec_weaker hk W D'.N Dp _ W2 hpok hs2
   obtain ⟨_, D2, hm2, _, hp2⟩ := hs3
   refine ⟨keeps_of hm' (nomp29 z') hm2 _, fun _ => ?_, ?_⟩
   ·have hb2 : D2 500108 = some (some bx) := (hp2 500108 _ (hDpD 500108 (by simp [pins29]) _ hbx)).1
    have ho2 : ord29 z2 = l := by rw [← hl]; show z2.2.2.2.2.2.2.2.2.1.1.map _ = _; rw [g4]
    rw [← ho2]
    exact ord_of hm2 hb2
   ·rw [hI]
    refine ⟨z2, g1, g2, g3, g4, ⟨D2, mem_compose hm' hm2, hp2⟩, fun b hb => ?_, Nat.le_trans h6 hm2.grow.size⟩
    exact (keeps_of hm' (nomp29 z') hm2 0).same b _ (Nat.zero_le _) (h5 b hb) rfl
  | _ => cases hk
 case done =>
  rintro Dd xs W hDd rfl hIp hdd
  rw [hI] at hIp
  obtain ⟨z', h1, h2, h3, h4, ⟨D', hm', hp'⟩, h5, h6⟩ := hIp
  have hfull : (full29 l).map (fun k : E29 l => l[k]) = l.reverse := by
   unfold full29
   rw [List.map_reverse]
   congr 1
   apply List.ext_getElem (by simp)
   intro i h1 h2
   simp
  rw [hfull] at h1
  have hpp : ∀ n ∈ pins29, ∀ d, D n = some d → D' n = some d := fun n hn d h => (hp' n d (hDpD n hn d h)).1
  have henv : EnvRep W D' (en29 z') a.tmps := by rw [env_eq z z' h2 h3]; exact env_pinned he (env_pin z) hpp
  refine hQ z' _ W h1 ?_ ⟨rfl, D', hm', by simpa [ext, extd] using henv, fun n d h => ⟨(hp' n d (hD0p n d h)).1, fun hn => ?_⟩⟩
  ·obtain ⟨X, q1, q2, q3⟩ := hd
   refine ⟨Dd :: X, by rw [q1]; rfl, List.nodup_cons.2 ⟨fun hm2 => ?_, q2⟩, fun b hb => ?_⟩
   ·have := (Array.getElem?_eq_some_iff.1 (q3 Dd hm2).2).1; omega
   ·rcases List.mem_cons.1 hb with rfl | hb
    ·exact ⟨Nat.le_trans hw0 hDd, hdd⟩
    ·exact ⟨(q3 b hb).1, h5 b (q3 b hb).2⟩
  ·exact (hp' n d (hD0p n d h)).2 hn
 case stop =>
  rintro Dd c pre W _ _ h _
  exact h.elim
end
end Go.Proofs.YtdkibgdkmnpncaaDoor
