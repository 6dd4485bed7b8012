import Derived.Test.YtdkibgdkmnpncaaDoorH4
import Derived.Test.YtdkibgdkmnpncaaDoorWt
open Go Go.Proofs Go.Abs Go.RowKit Go.Shelf
attribute [local go_sem] Oper.semAt_some
set_option linter.unusedVariables false
set_option maxRecDepth 100000
set_option maxHeartbeats 4000000
namespace Go.Proofs.YtdkibgdkmnpncaaDoor
theorem Uo : au Tryd.prog 46 = true := by kernel_rfl
theorem KR : gv Tryd.prog lV := ab Un Wm (ab Uq Wn (ab Ip J4 (ab Ur Wo (ab QS Su af))))
theorem Rr : ow Tryd.prog wX := dZ (fn := Tryd.f46) Uo Tryd.func46 (by kernel_rfl) (by kernel_rfl) (by kernel_rfl) ic
abbrev xE (z : nw.T) : List (Nat × Abs.Obj) := ((nw.enc z).st 158).objs
abbrev vK (z : nw.T) : List AV := ((nw.enc z).st 158).env
theorem Lb (z : nw.T) : Abs.look 500108 (xE z) = some (Abs.Obj.box [AV.sl 1 (z.2.2.2.2.2.2.2.2.1.1.map fun p : Int × Unit => [AV.int .i64 p.1])]) := by kernel_rfl
theorem Ie (z z' : nw.T) (h1 : z'.1 = z.1) (h2 : z'.2.1 = z.2.1) : vK z' = vK z := by
 have e : ∀ z : nw.T, vK z = vK (z.1, z.2.1, ([], [], [], ()), (), ([], [], ()), (), (), ([], ()), ([], ()), [], [], [], [], ()) := fun z => by kernel_rfl
 rw [e z', e z, h1, h2]
theorem Ej (z : nw.T) : (vK z).all (RJ gb) = true := by kernel_rfl
theorem QH (z : nw.T) : (vK z)[54]? = some (.cm (some (.func 68), 0) [500108]) := by kernel_rfl
theorem Od (z : nw.T) : ∀ n ∈ gb, ∃ cs, Abs.look n (xE z) = some (.box cs) := by
 intro n hn
 simp only [gb, List.mem_cons, List.not_mem_nil, or_false] at hn
 rcases hn with rfl | rfl | rfl | rfl | rfl | rfl | rfl <;> exact ⟨_, rfl⟩
theorem Dl (z : nw.T) : ∀ n o, Abs.look n (xE z) = some o → Dk o = true := by
 have h : (xE z).all (fun p => Dk p.2) = true := by kernel_rfl
 intro n o ho
 have := List.all_eq_true.1 h (n, o) (by
  generalize xE z = L at ho
  induction L with
  | nil => cases ho
  | cons p r ih =>
   obtain ⟨m, q⟩ := p
   unfold Abs.look at ho
   split at ho
   ·rename_i e; cases ho; subst e; exact List.mem_cons_self ..
   ·exact List.mem_cons_of_mem _ (ih ho))
 exact this
noncomputable def SL : Code := yU (yQ (yU Ko))
noncomputable def Tm : Code := match SL with
 | .block _ (.rangeFunc _ _ a _) => a
 | _ => .skip
theorem NT : SL = .block 2 (.rangeFunc (.tmp 54) #[55, 56] Tm NG) := by kernel_rfl
theorem NP : Tm = .region 10 #[{ dst := some 13, op := .assign (.tmp 56), type := 3, pos := "engine.go:130", after := #[], guard := none }] false := by kernel_rfl
theorem NQ (l : Nat) (n : Nat) (K : Act → World → Prop) (Q : Exit → Act → World → Prop) (a : Act) (W : World) (h : K (a.put (some 13) (a.eval (.tmp 56))) W) : Tm.wpIn (Fence.wide.inRound l) n Tryd.prog (Exit.then K Q) a W := by
 rw [NP]
 gi_wp2
 have e : a.tmps[56]?.getD undef = a.eval (.tmp 56) := by show _ = a.tmps.getD 56 undef; simp
 rw [e]
 exact h
theorem Ng {c : Code} {Q : Exit → Act → World → Prop} {a : Act} {w : World} {n : Nat} (h : c.wpIn Fence.wide n Tryd.prog Q a w) : c.wpIn (FR none) 0 Tryd.prog Q a w := fun b k cs hro hb _ => h b k cs hro hb (fun _ h => by cases h)
theorem Jb {w : World} {M0 : Nat → Prop} {D : Abs.Names} {w1 : World} {z : nw.T} (hm : Mem w M0 (xE z) D w1) {bx : Nat} (hb : D 500108 = some (some bx)) : lX bx (gq z) w1 := by
 obtain ⟨vs, T, h1, h2, h3⟩ := hm.rep 500108 _ _ (Lb z) hb
 match vs, h2 with
 | [v], _ =>
  have h4 : cU w1 D.M (AV.sl 1 (z.2.2.2.2.2.2.2.2.1.1.map fun p : Int × Unit => [AV.int .i64 p.1])) v := (h3 0 _ rfl).1
  have hc : w1.cell? ⟨bx, 0, none⟩ = some v := by simp [World.cell?, h1]
  have hl : (z.2.2.2.2.2.2.2.2.1.1.map fun p : Int × Unit => [AV.int .i64 p.1]).length = (gq z).length := by simp [gq]
  generalize hL : (z.2.2.2.2.2.2.2.2.1.1.map fun p : Int × Unit => [AV.int .i64 p.1]) = L at h4 hl
  have hLj : ∀ (j : Nat) x, (gq z)[j]? = some x → L[j]? = some [AV.int .i64 x] := fun j x hx => by
   rw [← hL]
   simp only [gq, List.getElem?_map, Option.map_eq_some_iff] at hx ⊢
   obtain ⟨p, hp, rfl⟩ := hx
   exact ⟨p, hp, rfl⟩
  cases h4 with
  | slnil _ a cap => exact ⟨a, cap, by rw [hc, ← hl]; rfl, fun j x hx => by have := hLj j x hx; simp at this⟩
  | sl _ _ b off cap f hb2 hM hcap hn hs hcc h1c hh =>
   refine ⟨some ⟨b, off, none⟩, cap, by rw [hc, hl], fun j x hx => ⟨b, off, rfl, ?_⟩⟩
   have e1 := hcc j _ 0 _ (hLj j x hx) rfl
   have e2 : cU w1 D.M (.int .i64 x) (f j 0) := hh j _ 0 _ (hLj j x hx) rfl
   have e3 : f j 0 = .int .i64 x := by
    generalize f j 0 = u at e2
    cases e2; rfl
   rw [e3] at e1
   simpa using e1
theorem GJ (z z' : vX) (pre : List Int) (n : Int) (h : lg z pre = some z') : lg z (pre ++ [n]) = RO 100000 some z' n := by
 unfold lg at h ⊢
 rw [List.foldlM_append, h]
 simp
theorem zn (l : List Int) (x : NH l) (t : Array Value) : ((#[55, 56] : Array Nat).zip (qR l x)).foldl (fun t (p, v) => t.setIfInBounds p v) t = (t.setIfInBounds 55 (.int .i64 ((x.1 : Nat) : Int))).setIfInBounds 56 (.int .i64 l[x]) := by
 simp [qR]
section
variable {w0 : World} {D0 : Abs.Names}
theorem Ol (hD0 : ja [900000] D0) (z : nw.T) (hok : HM z) (hlen : (gq z).length ≤ 100000) (a : Act) (w : World) (hd : lU w0.heap.size a w) (hs : Sat w0 D0.N D0 ((nw.enc z).st 158) (ext #[] a) w)
  (Q : Exit → Act → World → Prop) (hQ : ∀ z' a' w', lg z (gq z).reverse = some z' → lU w0.heap.size a' w' → Sat w0 D0.N D0 ((nw.enc z').st 158) (ext #[] a') w' → Q .normal a' w') :
  SL.wpIn (FR none) 0 Tryd.prog Q a w := by
 obtain ⟨_, D, hm, he, hp⟩ := hs
 have he : ax w D (vK z) a.tmps := by simpa [ext, gX] using he
 have hw0 : w0.heap.size ≤ w.heap.size := hm.grow.size
 have S7 := he.2 54 _ (QH z)
 obtain ⟨bs, hbl, hbs, t54⟩ := (show ∃ bs : List Nat, bs.length = [500108].length ∧ (∀ (i : Nat) (n b : Nat), [500108][i]? = some n → bs[i]? = some b → D n = some (some b)) ∧ a.tmps.getD 54 undef = .func (.func 68) #[] (bs.map fun b => Value.pointer (some ⟨b, 0, none⟩)).toArray from S7)
 match bs, hbl with
 | [bx], _ =>
 have hbx : D 500108 = some (some bx) := hbs 0 500108 bx rfl rfl
 generalize hl : gq z = l at *
 have hO : lX bx l w := hl ▸ Jb hm hbx
 obtain ⟨Dp, hDp⟩ : ∃ Dp : Abs.Names, Dp = fun n => if n ∈ gb ∨ top ≤ n then D n else none := ⟨_, rfl⟩
 have hpok : ja gb Dp := fun n hn h => by
  rw [hDp] at h
  simp only at h
  split at h
  ·rename_i h'; rcases h' with h' | h'
   ·exact h'
   ·exact absurd hn (Nat.not_lt.2 h')
  ·cases h
 have hDpD : ∀ n ∈ gb, ∀ d, D n = some d → Dp n = some d := fun n hn d h => by rw [hDp]; simp only; rw [if_pos (.inl hn)]; exact h
 have hpin0 : Abs.qf Dp D (xE z) := fun n d h => by
  rw [hDp] at h
  simp only at h
  split at h
  ·rename_i h'
   refine ⟨h, fun hn => ?_⟩
   rcases h' with h' | h'
   ·exact Od z n h'
   ·exact absurd hn (Nat.not_lt.2 h')
  ·cases h
 have hD0p : ∀ n d, D0 n = some d → Dp n = some d := fun n d h => by
  rw [hDp]; simp only
  have h1 := (hp n d h).1
  rw [if_pos]
  ·exact h1
  ·by_cases hn : n < top
   ·have := hD0 n hn (by rw [h]; rfl)
    simp only [List.mem_cons, List.not_mem_nil, or_false] at this
    subst this
    exact .inl (by simp [gb])
   ·exact .inr (Nat.not_lt.1 hn)
 obtain ⟨I, hI⟩ : ∃ I : List (NH l) → World → Prop, I = fun pre W => ∃ z', lg z (pre.map fun k : NH l => l[k]) = some z' ∧ z'.1 = z.1 ∧ z'.2.1 = z.2.1 ∧ z'.2.2.2.2.2.2.2.2.1 = z.2.2.2.2.2.2.2.2.1 ∧ (∃ D', Mem w0 D0.N (xE z') D' W ∧ Abs.qf Dp D' (xE z')) ∧
  (∀ b : Nat, w.heap[b]? = some (.deferred (some [])) → W.heap[b]? = some (.deferred (some []))) ∧ w.heap.size ≤ W.heap.size := ⟨_, rfl⟩
 rw [NT]
 refine Ng (n := 2) (wpIn_block ?_)
 have hsz : a.tmps.size = 158 := by have := he.1; simpa [vK, SS.st] using this
 have hItr : ∀ pre W W', I pre W → Kept w.heap.size W W' → I pre W' := fun pre W W' h k => by
  rw [hI] at h ⊢
  obtain ⟨z', h1, h2, h3, h4, ⟨D', hm', hp'⟩, h5, h6⟩ := h
  have k0 : Kept w0.heap.size W W' := ⟨k.os, k.tape, k.output, k.size, fun i hi => k.low i (by omega), k.cells⟩
  refine ⟨z', h1, h2, h3, h4, ⟨D', IS hm' (Dl z') k0, hp'⟩, fun b hb => ?_, Nat.le_trans h6 k.size⟩
  rw [k.low b (Array.getElem?_eq_some_iff.1 hb).1]
  exact h5 b hb
 refine wpIn_rangeFunc_ownH (F := Fence.wide) (n := 2) rfl (by omega) (gf := 68) (lb := #[.pointer (some ⟨bx, 0, none⟩)]) t54 trivial (enters_of Tryd.func68 (by kernel_rfl) rfl)
  (CA (2 - 1) (by omega) w bx l hlen hO) (fun h k o => k (h o)) (fun W i o o' hi ho hc hw h => Ja (B := 0) h ?kb) (Below.refl _ _) (fun _ => rfl)
  I (fun _ _ _ => False) ?hI (fun c s A B row h _ _ => h) ?h0 (fun x a' W => a' = { tmps := (((#[55, 56] : Array Nat).zip (qR l x)).foldl (fun t (p, v) => t.setIfInBounds p v) a.tmps).setIfInBounds 13 (.int .i64 l[x]), defers := [] }) (fun x a' s A B row h _ _ => h) ?assign ?body ?done ?stop
 case kb => exact Kept.zN (Nat.zero_le _) (grownBy_putObj' W i o') fun r e => by cases e; exact ⟨Nat.zero_le _, o, ho, hc⟩
 case hI =>
  intro pre A B row h hg hr
  have hA : w.heap.size ≤ A.heap.size := by rw [hI] at h; exact h.choose_spec.2.2.2.2.2.2
  exact hItr pre A B h (Kept.zN hA hg hr)
 case h0 =>
  rw [hI]
  exact ⟨z, rfl, rfl, rfl, rfl, ⟨D, hm, hpin0⟩, fun b h => h, Nat.le_refl _⟩
 case assign =>
  intro lp pre x W K hIp hK
  refine NQ lp _ K _ _ W ?_
  refine hK _ W ((KeepsOthers.refl W).from _) (fun h => h) hIp ?_
  have SX : (((#[55, 56] : Array Nat).zip (qR l x)).foldl (fun t (p, v) => t.setIfInBounds p v) a.tmps).getD 56 undef = .int .i64 l[x] := by
   rw [zn, Array.getD_eq_getD_getElem?, Array.getElem?_setIfInBounds_self_of_lt (by rw [Array.size_setIfInBounds, hsz]; decide)]
   rfl
  show ({ tmps := (((#[55, 56] : Array Nat).zip (qR l x)).foldl (fun t (p, v) => t.setIfInBounds p v) a.tmps).setIfInBounds 13 ((((#[55, 56] : Array Nat).zip (qR l x)).foldl (fun t (p, v) => t.setIfInBounds p v) a.tmps).getD 56 undef), defers := [] } : Act) = _
  rw [SX]
 case body =>
  rintro lp pre x a' W hlp _ hIp rfl hlt
  have hIp2 := hIp
  rw [hI] at hIp
  obtain ⟨z', h1, h2, h3, h4, ⟨D', hm', hp'⟩, h5, h6⟩ := hIp
  have hoz' : gq z' = l := by rw [← hl]; show z'.2.2.2.2.2.2.2.2.1.1.map _ = _; rw [h4]
  have hpp : ∀ n ∈ gb, ∀ d, D n = some d → D' n = some d := fun n hn d h => (hp' n d (hDpD n hn d h)).1
  have hx : l[x] ∈ l := List.getElem_mem x.2
  obtain ⟨z2, g1, g2, g3, g4⟩ := hok ((pre ++ [x]).map fun k : NH l => l[k]) (fun n hn => by
   rw [hl]
   obtain ⟨k, _, rfl⟩ := List.mem_map.1 hn
   exact List.getElem_mem k.2) (by rw [hl, List.length_map, List.length_append, List.length_cons, List.length_nil]; omega)
  have g1' := g1
  rw [List.map_append, List.map_cons, List.map_nil, GJ z z' _ _ h1] at g1'
  have henv : ax W D' (vK z') a.tmps := by rw [Ie z z' h2 h3]; exact tS he (Ej z) hpp
  have p1 := (henv.put (a := ⟨a.tmps, []⟩) (some 55) (x := .int .i64 ((x.1 : Nat) : Int)) (v := .int .i64 ((x.1 : Nat) : Int)) (cU.int _ _))
  have p2 := p1.put (some 56) (x := .int .i64 l[x]) (v := .int .i64 l[x]) (cU.int _ _)
  have p3 := p2.put (some 13) (x := .int .i64 l[x]) (v := .int .i64 l[x]) (cU.int _ _)
  have hsat : Sat W D'.N Dp (SS.st 158 ⟨(13, .v (.c (.k (.int .i64 l[x])))) :: (56, .v (.c (.k (.int .i64 l[x])))) :: (55, .v (.c (.k (.int .i64 ((x.1 : Nat) : Int))))) :: (nw.enc z').env, (nw.enc z').objs⟩) (ext #[] { tmps := (((#[55, 56] : Array Nat).zip (qR l x)).foldl (fun t (p, v) => t.setIfInBounds p v) a.tmps).setIfInBounds 13 (.int .i64 l[x]), defers := [] }) W := by
   refine ⟨rfl, D', ?_, ?_, ?_⟩
   ·exact Df hm'
   ·rw [zn]
    show ax W D' (SS.st 158 ((((nw.enc z').put (some 55) (.v (.c (.k (.int .i64 ((x.1 : Nat) : Int)))))).put (some 56) (.v (.c (.k (.int .i64 l[x]))))).put (some 13) (.v (.c (.k (.int .i64 l[x])))))).env _
    rw [dt, dt, dt]
    simp only [ext, gX, Array.empty_append]
    exact p3
   ·exact hp'
  have hx2 := dq (C := ⟨G, 158, 100000, []⟩) vL gw KR wide (pins := gb) (xj KR wide Rr 8) 0 false NG Ns (by rw [fc]; kernel_rfl) (by rw [fc]; exact (RZ 100000 z' ((x.1 : Nat) : Int) l[x]).trans g1')
  have hx3 := hx2 (some lp) #[] W D'.N Dp _ W (fun h => by cases h) rfl hpok (lU.nil rfl) hsat
  refine Code.wpIn_mono ?_ hx3
  rintro e a2 W2 ⟨_, s', ⟨fs, rfl, hk⟩, hs2⟩
  cases e with
  | normal =>
   have hk : nw.dec 158 gb fs = some z2 := hk
   have hs3 := fZ hk W D'.N Dp _ W2 hpok hs2
   obtain ⟨_, D2, hm2, _, hp2⟩ := hs3
   refine ⟨zz hm' (Dl z') hm2 _, fun _ => ?_, ?_⟩
   ·have hb2 : D2 500108 = some (some bx) := (hp2 500108 _ (hDpD 500108 (by simp [gb]) _ hbx)).1
    have ho2 : gq z2 = l := by rw [← hl]; show z2.2.2.2.2.2.2.2.2.1.1.map _ = _; rw [g4]
    rw [← ho2]
    exact Jb hm2 hb2
   ·rw [hI]
    refine ⟨z2, g1, g2, g3, g4, ⟨D2, zH hm' hm2, hp2⟩, fun b hb => ?_, Nat.le_trans h6 hm2.grow.size⟩
    exact (zz hm' (Dl z') hm2 0).same b _ (Nat.zero_le _) (h5 b hb) rfl
  | _ => cases hk
 case done =>
  rintro Dd xs W hDd rfl hIp hdd
  rw [hI] at hIp
  obtain ⟨z', h1, h2, h3, h4, ⟨D', hm', hp'⟩, h5, h6⟩ := hIp
  have hfull : (je l).map (fun k : NH l => l[k]) = l.reverse := by
   unfold je
   rw [List.map_reverse]
   congr 1
   apply List.ext_getElem (by simp)
   intro i h1 h2
   simp
  rw [hfull] at h1
  have hpp : ∀ n ∈ gb, ∀ d, D n = some d → D' n = some d := fun n hn d h => (hp' n d (hDpD n hn d h)).1
  have henv : ax W D' (vK z') a.tmps := by rw [Ie z z' h2 h3]; exact tS he (Ej z) hpp
  refine hQ z' _ W h1 ?_ ⟨rfl, D', hm', by simpa [ext, gX] using henv, fun n d h => ⟨(hp' n d (hD0p n d h)).1, fun hn => ?_⟩⟩
  ·obtain ⟨X, q1, q2, q3⟩ := hd
   refine ⟨Dd :: X, by rw [q1]; rfl, List.nodup_cons.2 ⟨fun hm2 => ?_, q2⟩, fun b hb => ?_⟩
   ·have := (Array.getElem?_eq_some_iff.1 (q3 Dd hm2).2).1; omega
   ·rcases List.mem_cons.1 hb with rfl | hb
    ·exact ⟨Nat.le_trans hw0 hDd, hdd⟩
    ·exact ⟨(q3 b hb).1, h5 b (q3 b hb).2⟩
  ·exact (hp' n d (hD0p n d h)).2 hn
 case stop =>
  rintro Dd c pre W _ _ h _
  exact h.elim
end
end Go.Proofs.YtdkibgdkmnpncaaDoor
