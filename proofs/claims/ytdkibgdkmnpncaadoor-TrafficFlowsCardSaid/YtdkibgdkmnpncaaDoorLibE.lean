/- The walks' library, part E: what a region of the program does in an abstract state, and its soundness. -/
import Derived.MapKept
import Derived.Test.YtdkibgdkmnpncaaDoorLibD
namespace Go.Abs
open Go.RowKit
variable {objs : List (Nat × Obj)} {FT : List (Nat × Entry)}
theorem xG {ν : Nat → Nat} : ∀ {l : List AT} {i : Nat} {a : eF l}, rK l = true → lH ν l i a = []
 | [], _, _, _ => rfl
 | .v _ :: l, i, a, h => xG (l := l) (i := i + 1) (a := a.2) h
 | .bx _ :: _, _, _, h => by simp [rK] at h
theorem wE {ν : Nat → Nat} : ∀ {l : List AT} {i : Nat} {o : kG (fp l)}, rK l = true → er ν l i o = []
 | [], _, _, _ => rfl
 | .v _ :: l, i, o, h => wE (l := l) (i := i + 1) (o := o) h
 | .bx _ :: _, _, _, h => by simp [rK] at h
theorem Ih {C : eN} {s : SS} (xs : List Operand) : xs.map (ev (s.st C.N).env) = (xs.map (aq C s)).map (SV.av s.objs) := by
 have : (SV.av s.objs) ∘ (aq C s) = ev (s.st C.N).env := funext fun o => bz C s o
 rw [List.map_map, this]
theorem uR {P : Program} (hFT : gv P FT) {C : eN} {s : SS} {f : FuncId} {e : Entry} {xs : List Operand} {a : eF e.sig.args} {q : e.sig.R}
  (he : P7 FT f = some e) (hb : (fp e.sig.args).isEmpty = true) (hg : CK e.sig.ret = true) (ha : toArgs s.objs e.sig.args (xs.map (aq C s)) = some a) (hF : e.F a = some q) :
  ∃ ys, (xs.map (ev (s.st C.N).env)).mapM (rI (s.st C.N).objs) = some ys ∧ ys.all nf = true ∧ fQ P f ys [] ⟨e.sig.ret.av q.1, [], none⟩ := by
 obtain ⟨hfun, hTC⟩ := hFT f e he
 have hno := rV hb
 obtain ⟨ys, h1, h2, h3⟩ := wx (ν := canon) (i := 0) hno ha
 refine ⟨ys, by rw [Ih]; exact h1, h3, ?_⟩
 have hc := hTC a q hF
 have hcr : jd canon e.sig q = ⟨e.sig.ret.av q.1, [], none⟩ := by
  simp only [jd, wE hno, (ue e.sig.ret q.1 hg).2.1]
 rw [hcr, xG hno] at hc
 exact qN hc h2 trivial
theorem zY {P : Program} {R : Type} (hFT : gv P FT) {C : eN} {s : SS} {dst : Option Tmp} {f : FuncId} {xs : List Operand} {K : SS → Option R} {r : R}
  (h : iw C FT true s dst f xs K = some r) : ∃ f' Φ hr, Sound P Φ ∧ oH Φ (s.st C.N).env (s.st C.N).objs f xs = some hr ∧ (⟨eW hr.env dst hr.x, hr.objs⟩ : St) = f'.st C.N ∧ K f' = some r := by
 unfold iw at h
 split at h
 ·cases h
 ·rename_i e he
  cases hbg : ((fp e.sig.args).isEmpty && CK e.sig.ret) with
  | false => simp only [hbg] at h; cases h
  | true =>
   simp only [hbg] at h
   simp only [Bool.and_eq_true] at hbg
   split at h
   ·cases h
   ·rename_i a ha
    split at h
    ·simp only [gR] at h
     obtain ⟨q, hF, hK⟩ := Option.bind_eq_some_iff.1 h
     obtain ⟨ys, h1, h2, h3⟩ := uR hFT he hbg.1 hbg.2 ha hF
     obtain ⟨g1, g2, g3, g4⟩ := ue e.sig.ret q.1 hbg.2
     refine ⟨_, one f ys [] ⟨e.sig.ret.av q.1, [], none⟩, ⟨e.sig.ret.av q.1, (s.st C.N).env, (s.st C.N).objs⟩, qB (hFT f e he).1 h3, ?_, ?_, hK⟩
     ·unfold oH
      rw [h1]
      simp only [h2, if_true, xF, g1]
     ·have hset : ay e.sig.args (xs.map (aq C s)) q.2 s.objs = s.objs := mG (rV hbg.1)
      have key : ∀ (rt : RT) (y : rt.T), CK rt = true → (eJ (dst.getD 999998) ⟨s.env, s.objs⟩ rt y).2 = s ∧ (eJ (dst.getD 999998) ⟨s.env, s.objs⟩ rt y).1.av s.objs = rt.av y := by
       intro rt y hg
       cases rt with
       | v c => exact ⟨rfl, nU c y⟩
       | cI l => exact ⟨rfl, by simp only [eJ, SV.av, yM, RT.av]⟩
       | _ => simp [CK] at hg
      rw [hset]
      obtain ⟨k1, k2⟩ := key e.sig.ret q.1 hbg.2
      rw [k1, dt, k2]
    ·cases h
theorem zE : ∀ {l ys : List AV}, bm l = none → l.mapM (mu objs) = some ys → ys = l
 | [], ys, _, h => by simp at h; exact h
 | x :: l, ys, hn, h => by
  simp only [List.mapM_cons, Option.bind_eq_bind, Option.pure_def] at h
  obtain ⟨y, h1, h⟩ := Option.bind_eq_some_iff.1 h
  obtain ⟨zs, h2, h⟩ := Option.bind_eq_some_iff.1 h
  simp only [Option.some.injEq] at h; subst h
  cases x with
  | cw n sz off len => simp [bm] at hn
  | _ => rw [zE (by exact hn) h2]; simp only [mu, Option.some.injEq] at h1; rw [h1]
theorem EE : ∀ {as ys : List AV}, bm (as.flatMap gA) = none → as.mapM (rI objs) = some ys → ys = as
 | [], ys, _, h => by simp at h; exact h
 | x :: as, ys, hn, h => by
  simp only [List.mapM_cons, Option.bind_eq_bind, Option.pure_def] at h
  obtain ⟨y, h1, h⟩ := Option.bind_eq_some_iff.1 h
  obtain ⟨zs, h2, h⟩ := Option.bind_eq_some_iff.1 h
  simp only [Option.some.injEq] at h; subst h
  have app : ∀ {a b : List AV}, bm (a ++ b) = none → bm b = none := by
   intro a b hab
   induction a with
   | nil => exact hab
   | cons x a ih => cases x <;> simp only [List.cons_append, bm, reduceCtorEq] at hab <;> exact ih hab
  simp only [List.flatMap_cons] at hn
  rw [EE (app hn) h2]
  congr 1
  cases x with
  | cw n sz off len => simp [gA, bm] at hn
  | agg l =>
   simp only [rI] at h1
   obtain ⟨zs, hz, rfl⟩ := Option.map_eq_some_iff.1 h1
   have hl : bm l = none := by
    have : ∀ {a b : List AV}, bm (a ++ b) = none → bm a = none := by
     intro a b hab
     induction a with
     | nil => rfl
     | cons x a ih => cases x <;> simp only [List.cons_append, bm, reduceCtorEq] at hab ⊢ <;> exact ih hab
    exact this hn
   rw [zE hl hz]
  | _ => simp only [rI, mu, Option.some.injEq] at h1; exact h1.symm
theorem Ov {x : AV} (h : nf x = true) : l9 x = true ∧ fD [x] = [] := by
 cases x with
 | ref n sz i off => simp [nf, IX, nK] at h
 | agg l => exact ⟨h, rfl⟩
 | _ => first | exact ⟨rfl, rfl⟩ | exact ⟨h, rfl⟩
theorem EJ : ∀ {l : List AV}, l.all nf = true → l.all l9 = true ∧ fD l = []
 | [], _ => ⟨rfl, rfl⟩
 | x :: l, h => by
  simp only [List.all_cons, Bool.and_eq_true] at h
  obtain ⟨h1, h2⟩ := EJ h.2
  obtain ⟨h3, h4⟩ := Ov h.1
  refine ⟨by simp [h1, h3], ?_⟩
  have : fD (x :: l) = fD [x] ++ fD l := by simp only [fD, ← List.filterMap_append, List.singleton_append]
  rw [this, h2, h4]; rfl
theorem nS : ∀ (l : List AT) (i : Nat), (∀ j ∈ fR l i, i ≤ j ∧ j < i + l.length) ∧ (fR l i).Nodup
 | [], i => by simp [fR]
 | .v _ :: l, i => by
  obtain ⟨h1, h2⟩ := nS l (i + 1)
  refine ⟨fun j hj => ?_, h2⟩
  have := h1 j hj
  simp only [List.length_cons]; omega
 | .bx _ :: l, i => by
  obtain ⟨h1, h2⟩ := nS l (i + 1)
  refine ⟨fun j hj => ?_, ?_⟩
  ·simp only [fR, List.mem_cons] at hj
   simp only [List.length_cons]
   rcases hj with rfl | hj
   ·omega
   ·have := h1 j hj; omega
  ·simp only [fR, List.nodup_cons]
   exact ⟨fun hi => by have := h1 i hi; omega, h2⟩
theorem oX : ∀ {l : List Nat}, fJ l = true → l.Nodup ∧ (∀ n ∈ l, n < top ∧ n ≠ rn) ∧ rn ∉ l
 | [], _ => ⟨List.nodup_nil, by simp, by simp⟩
 | n :: l, h => by
  simp only [fJ, Bool.and_eq_true, Bool.not_eq_true', decide_eq_true_eq, beq_eq_false_iff_ne] at h
  obtain ⟨h1, h2, h3, h4⟩ := h
  obtain ⟨g1, g2, g3⟩ := oX h4
  have hn : n ∉ l := by
   intro hm
   have : l.contains n = true := by simpa using hm
   rw [this] at h1; cases h1
  refine ⟨List.nodup_cons.2 ⟨hn, g1⟩, fun m hm => ?_, fun hm => ?_⟩
  ·rcases List.mem_cons.1 hm with rfl | hm
   ·exact ⟨h2, h3⟩
   ·exact g2 m hm
  ·rcases List.mem_cons.1 hm with e | hm
   ·exact h3 e.symm
   ·exact g3 hm
theorem mb : ∀ {l : List AT} {xs : List SV} {O : ah} {a : eF l} (i : Nat), toArgs O l xs = some a → (fR l i).length = (bp l xs).length
 | [], [], O, a, i, _ => rfl
 | [], _ :: _, O, a, i, h => by simp [toArgs] at h
 | _ :: _, [], O, a, i, h => by simp [toArgs] at h
 | .v c :: l, x :: xs, O, a, i, h => by
  simp only [toArgs] at h
  split at h
  ·rename_i p q h1 h2; exact mb (l := l) (i + 1) h2
  ·cases h
 | .bx ts :: l, x :: xs, O, a, i, h => by
  simp only [toArgs] at h
  split at h
  ·rename_i p q h1 h2
   have ih := mb (l := l) (i + 1) h2
   cases x with
   | cI l => simp [toAT] at h1
   | v x =>
    cases x with
    | g l => simp [toAT] at h1
    | c y =>
     cases y with
     | ref n sz i off => simp only [fR, bp, List.length_cons, ih]
     | _ => simp [toAT] at h1
  ·cases h
theorem jW {ν : Nat → Nat} : ∀ {l : List AT} {xs : List SV} {i : Nat} {o : kG (fp l)} {O : ah}, (fR l i).map ν = bp l xs → l.length = xs.length → (∀ n ∈ bp l xs, ∃ cs, ad n O = some (.box cs)) →
  (∀ O', ai O' (ay l xs o O) = eY (er ν l i o) (ai O' O)) ∧ (∀ x : CV, x.av (ay l xs o O) = x.av O) ∧ (∀ d, ad d O = none → ad d (ay l xs o O) = none) ∧
   (∀ d, ay l xs o (az (aw d) O) = az (aw d) (ay l xs o O))
 | [], xs, i, o, O, _, _, _ => ⟨fun _ => by cases xs <;> rfl, fun _ => by cases xs <;> rfl, fun _ h => by cases xs <;> exact h, fun _ => by cases xs <;> rfl⟩
 | .v c :: l, [], i, o, O, _, h, _ => by simp at h
 | .v c :: l, x :: xs, i, o, O, hν, hl, hb => jW (l := l) (xs := xs) (i := i + 1) (o := o) (O := O) hν (by simpa using hl) hb
 | .bx ts :: l, [], i, o, O, _, h, _ => by simp at h
 | .bx ts :: l, x :: xs, i, o, O, hν, hl, hb => by
  have hx : ∃ n sz j off, x = .v (.c (.ref n sz j off)) := by
   cases x with
   | cI _ => simp [fR, bp] at hν
   | v y =>
    cases y with
    | g _ => simp [fR, bp] at hν
    | c z =>
     cases z with
     | ref n sz j off => exact ⟨_, _, _, _, rfl⟩
     | _ => simp [fR, bp] at hν
  obtain ⟨n, sz, j, off, rfl⟩ := hx
  simp only [fR, List.map_cons, bp, List.cons.injEq] at hν
  obtain ⟨hνi, hν⟩ := hν
  obtain ⟨cs, hcs⟩ := hb n (by simp [bp])
  have hb' : ∀ m ∈ bp l xs, ∃ cs, ad m (c8 n (.box ((ts.qZ o.1).map CV.k)) O) = some (.box cs) := by
   intro m hm
   by_cases e : n = m
   ·subst e; exact ⟨_, fH _ (by rw [hcs]; rfl)⟩
   ·rw [cu _ e]; exact hb m (by simp [bp, hm])
  obtain ⟨h1, h2, h3, h4⟩ := jW (ν := ν) (l := l) (xs := xs) (i := i + 1) (o := o.2) (O := c8 n (.box ((ts.qZ o.1).map CV.k)) O) hν (by simpa using hl) hb'
  refine ⟨fun O' => ?_, fun x => ?_, fun d hd => ?_, fun d => ?_⟩
  ·show ai O' (ay l xs o.2 _) = eY ((ν i, .box (ts.cF o.1)) :: er ν l (i + 1) o.2) _
   rw [h1, jj, hνi]
   simp only [eY, SO.av, ly]
  ·show x.av (ay l xs o.2 _) = _
   rw [h2]
   exact tG hcs (.inl ⟨_, _, rfl, rfl⟩) x
  ·show ad d (ay l xs o.2 _) = none
   refine h3 d ?_
   by_cases e : n = d
   ·subst e; rw [hcs] at hd; cases hd
   ·rw [cu _ e]; exact hd
  ·show ay l xs o.2 (c8 n _ (az (aw d) O)) = az (aw d) (ay l xs o.2 _)
   rw [← h4]
   have : ∀ O : ah, c8 n (.box ((ts.qZ o.1).map CV.k)) (az (aw d) O) = az (aw d) (c8 n (.box ((ts.qZ o.1).map CV.k)) O) := by
    intro O
    induction O with
    | nil => rfl
    | cons p r ih =>
     obtain ⟨m, so⟩ := p
     have hk : ((ts.qZ o.1).map CV.k).map (aw d) = (ts.qZ o.1).map CV.k := by
      rw [List.map_map]; rfl
     by_cases e : m = n
     ·cases so <;> simp [az, c8, e, ih, hk]
     ·cases so <;> simp [az, c8, e, ih]
   rw [this O]
theorem q9 : ∀ {ns : List Nat}, (∀ n ∈ ns, (look n objs).isSome = true) → (eB ns objs).map (·.1) = ns
 | [], _ => rfl
 | n :: ns, h => by
  have ih := q9 (ns := ns) (fun m hm => h m (List.mem_cons_of_mem _ hm))
  obtain ⟨o, ho⟩ := Option.isSome_iff_exists.1 (h n (List.mem_cons_self ..))
  have : eB (n :: ns) objs = (n, o) :: eB ns objs := by simp only [eB, List.filterMap_cons, ho, Option.map_some]
  rw [this, List.map_cons, ih]
theorem oY {ν : Nat → Nat} : ∀ {l : List AT} {i : Nat} {o : kG (fp l)}, (er ν l i o).map (·.1) = (fR l i).map ν
 | [], _, _ => rfl
 | .v _ :: l, i, o => oY (l := l) (i := i + 1) (o := o)
 | .bx ts :: l, i, o => by
  have ih := oY (ν := ν) (l := l) (i := i + 1) (o := o.2)
  exact congrArg (ν i :: ·) ih
theorem Lo : ∀ (t : Ty) (x : t.T), dh (t.av x) = true ∧ nK (t.av x) = true
 | .int _, _ => ⟨rfl, rfl⟩
 | .bool, _ => ⟨rfl, rfl⟩
 | .str, _ => ⟨rfl, rfl⟩
 | .sl _, _ => ⟨rfl, rfl⟩
theorem kH : ∀ (ts : cf) (x : ts.T), (ts.cF x).all dh = true ∧ (ts.cF x).all nK = true
 | .nil, _ => ⟨rfl, rfl⟩
 | .cons t ts, x => by
  obtain ⟨h1, h2⟩ := Lo t x.1
  obtain ⟨h3, h4⟩ := kH ts x.2
  exact ⟨by simp [cf.cF, h1, h3], by simp [cf.cF, h2, h4]⟩
theorem xI {ν : Nat → Nat} : ∀ {l : List AT} {i : Nat} {o : kG (fp l)}, fE (er ν l i o) = true
 | [], _, _ => rfl
 | .v _ :: l, i, o => xI (l := l) (i := i + 1) (o := o)
 | .bx ts :: l, i, o => by
  have ih := xI (ν := ν) (l := l) (i := i + 1) (o := o.2)
  show ((ts.cF o.1).all dh && fE (er ν l (i + 1) o.2)) = true
  rw [(kH ts o.1).1, ih]; rfl
theorem RE (c : CT) (x : c.T) : IX (c.av x) = true ∧ nf (c.av x) = true := by
 cases c with
 | ty t => cases t <;> exact ⟨rfl, rfl⟩
 | ag ts => exact ⟨(kH ts x).2, (kH ts x).2⟩
theorem Lg (r : RT) (x : r.T) : rf (r.av x) (r.new x) = true := by
 cases r with
 | v c => exact (RE c x).2
 | cI l =>
  show nf (.cI (cQ l x)) = true
  simp only [nf]
  have : ∀ (l : List CT) (x : jc l), (cQ l x).all IX = true := by
   intro l
   induction l with
   | nil => intro _; rfl
   | cons c l ih => intro x; simp only [cQ, List.all_cons, (RE c x.1).1, ih, Bool.and_self]
  exact this l x
 | own ts => simp [RT.av, RT.new, rf]
 | box ts => simp [RT.av, RT.new, rf, fX, (kH ts x).1]
 | unit => rfl
theorem nH : ∀ {ns : List Nat}, (∀ n ∈ ns, ∃ cs, look n objs = some (.box cs) ∧ cs.all dh = true) → fE (eB ns objs) = true
 | [], _ => rfl
 | n :: ns, h => by
  have ih := nH (ns := ns) (fun m hm => h m (List.mem_cons_of_mem _ hm))
  obtain ⟨cs, h1, h2⟩ := h n (List.mem_cons_self ..)
  have : eB (n :: ns) objs = (n, .box cs) :: eB ns objs := by simp only [eB, List.filterMap_cons, h1, Option.map_some]
  rw [this]
  simp only [fE, h2, ih, Bool.and_self]
end Go.Abs
namespace Go.Abs
open Go.RowKit
theorem Hd {N : Nat} {s : SS} {dst : Option Tmp} {objs' : List (Nat × Obj)} {g : RT} {y : g.T} (hno : tA (dst.getD 999998) s) (hobj : (s.st N).objs = objs') :
    ((eJ (dst.getD 999998) s g y).2.put dst (eJ (dst.getD 999998) s g y).1).st N =
      ⟨eW (s.st N).env dst (rename (dst.getD 999998) (g.av y)), (match g.new y with | some o => (dst.getD 999998, o) :: objs' | none => objs')⟩ := by
  subst hobj
  have cren : ∀ (c : CT) (x : c.T) d, rename d (c.av x) = c.av x := by
    intro c x d
    cases c with
    | ty t => cases t <;> rfl
    | ag ts => rfl
  cases g with
  | v c => simp only [eJ, RT.new, RT.av]; rw [dt, nU, cren]
  | cI l =>
    simp only [eJ, RT.new, RT.av]
    rw [dt]
    simp only [SV.av, yM, rename]
  | own ts =>
    simp only [eJ, RT.new, RT.av]
    generalize hd : dst.getD 999998 = d at *
    have h1 : rename d (.cw rn ts.len 0 y.length) = .cw d ts.len 0 y.length := by simp [rename]
    rw [h1, dt, n9, (nt (N := N) hno _).1]
    congr 1
    show ai ((d, SO.arr ts y) :: s.objs) ((d, SO.arr ts y) :: s.objs) = _
    simp only [ai, (nt (N := N) hno _).2]; rfl
  | box ts =>
    simp only [eJ, RT.new, RT.av]
    generalize hd : dst.getD 999998 = d at *
    have h1 : rename d (.ref rn ts.len 0 0) = .ref d ts.len 0 0 := by simp [rename]
    rw [h1, dt, (nt (N := N) hno _).1]
    congr 1
    show ai ((d, SO.box ((ts.qZ y).map CV.k)) :: s.objs) ((d, SO.box ((ts.qZ y).map CV.k)) :: s.objs) = _
    simp only [ai, (nt (N := N) hno _).2, SO.av, ly]; rfl
  | unit => simp only [eJ, RT.new, RT.av]; rw [dt]; rfl
theorem toArgs_len : ∀ {l : List AT} {xs : List SV} {O : ah} {a : eF l}, toArgs O l xs = some a → l.length = xs.length
  | [], [], _, _, _ => rfl
  | [], _ :: _, _, _, h => by simp [toArgs] at h
  | _ :: _, [], _, _, h => by simp [toArgs] at h
  | c :: l, x :: xs, O, a, h => by
    simp only [toArgs] at h
    split at h
    · rename_i p q h1 h2; simp [toArgs_len h2]
    · cases h
theorem CH {C : eN} {s : SS} (xs : List Operand) : (xs.map (aq C s)).flatMap bw = xs.flatMap fun o => bw (aq C s o) := by
  rw [List.flatMap_map]
theorem GM {P : Program} {FT : List (Nat × Entry)} (hFT : gv P FT) {C : eN} {s : SS} {dst : Option Tmp} {f : FuncId} {e : Entry} {xs : List Operand} {a : eF e.sig.args} {q : e.sig.R}
    (he : P7 FT f = some e) (hno : tA (dst.getD 999998) s) (hnm : cg (xs.flatMap fun o => bw (aq C s o)) = none) (ha : toArgs s.objs e.sig.args (xs.map (aq C s)) = some a) (hF : e.F a = some q)
    (hd : dst.getD 999998 < top) (hl : e.sig.args.length ≤ 1000) (hn : fJ (bp e.sig.args (xs.map (aq C s))) = true) :
    ∃ Φ hr, Sound P Φ ∧ NV Φ (s.st C.N).env (s.st C.N).objs (dst.getD 999998) f xs = some hr ∧
      (⟨eW hr.env dst hr.x, hr.objs⟩ : St) = ((eJ (dst.getD 999998) ⟨s.env, ay e.sig.args (xs.map (aq C s)) q.2 s.objs⟩ e.sig.ret q.1).2.put dst
            (eJ (dst.getD 999998) ⟨s.env, ay e.sig.args (xs.map (aq C s)) q.2 s.objs⟩ e.sig.ret q.1).1).st C.N ∧
      bm ((xs.map (ev (s.st C.N).env)).flatMap gA) = none ∧ (∀ n, n ≠ dst.getD 999998 → n ∉ bp e.sig.args (xs.map (aq C s)) → look n hr.objs = look n (s.st C.N).objs) := by
  obtain ⟨hfun, hTC⟩ := hFT f e he
  obtain ⟨n1, n2, n3⟩ := oX hn
  obtain ⟨b1, b2⟩ := nS e.sig.args 0
  have hcl : ((fR e.sig.args 0).map canon).length = (bp e.sig.args (xs.map (aq C s))).length := by
    rw [List.length_map]; exact mb 0 ha
  have hcn : ((fR e.sig.args 0).map canon).Nodup := by
    have : ∀ l : List Nat, l.Nodup → (l.map canon).Nodup := by
      intro l
      induction l with
      | nil => intro _; exact List.nodup_nil
      | cons x l ih =>
        intro h
        simp only [List.nodup_cons] at h
        simp only [List.map_cons, List.nodup_cons, List.mem_map, not_exists, not_and]
        exact ⟨fun y hy e => h.1 (by have : y = x := by unfold canon at e; omega
                                     rwa [← this]), ih h.2⟩
    exact this _ b2
  have hct : ∀ n ∈ (fR e.sig.args 0).map canon, n < top ∧ n ≠ rn := by
    intro n hn
    obtain ⟨j, hj, rfl⟩ := List.mem_map.1 hn
    have := b1 j hj
    unfold canon top rn
    omega
  obtain ⟨π, hπ⟩ := EP _ _ hcl hcn n1 hct n2
  have hν : (fR e.sig.args 0).map (fun i => π.g (canon i)) = bp e.sig.args (xs.map (aq C s)) := by
    rw [← hπ, List.map_map]; rfl
  obtain ⟨k1, k2, k3, k4, k5⟩ := qs (ν := fun i => π.g (canon i)) (i := 0) ha (by rw [CH]; exact hnm) hν
  have hc := xc π (hTC a q hF)
  rw [uX, DA, OF] at hc
  have hc := qN hc k1 k5
  rw [← Ih] at hc k2 k3
  have hlk : ∀ n ∈ bp e.sig.args (xs.map (aq C s)), ∃ cs, look n (s.st C.N).objs = some (.box cs) ∧ cs.all dh = true := by
    intro n hn
    obtain ⟨cs, h1, h2⟩ := k4 n hn
    refine ⟨cs.map (CV.av s.objs), ?_, mA h2⟩
    show look n (ai s.objs s.objs) = _
    rw [bk, h1]; rfl
  obtain ⟨s1, s2, s3, s4⟩ := jW (ν := fun i => π.g (canon i)) (i := 0) (o := q.2) (O := s.objs) hν (toArgs_len ha) (fun n hn => by obtain ⟨cs, h1, _⟩ := k4 n hn; exact ⟨cs, h1⟩)
  refine ⟨one f (xs.map (ev (s.st C.N).env)) (eB (bp e.sig.args (xs.map (aq C s))) (s.st C.N).objs) (jd (fun i => π.g (canon i)) e.sig q),
    ⟨rename (dst.getD 999998) (e.sig.ret.av q.1), (s.st C.N).env, (match e.sig.ret.new q.1 with | some o => (dst.getD 999998, o) :: eY (er (fun i => π.g (canon i)) e.sig.args 0 q.2) (s.st C.N).objs | none => eY (er (fun i => π.g (canon i)) e.sig.args 0 q.2) (s.st C.N).objs)⟩, qB hfun hc, ?_, ?_, ?_, ?_⟩
  rotate_left 2
  · rw [List.flatMap_map]; exact lE hnm
  · intro n hn1 hn2
    have hup : ∀ (l : List (Nat × Obj)) (O : List (Nat × Obj)), n ∉ l.map (·.1) → look n (eY l O) = look n O := by
      intro l
      induction l with
      | nil => intro O _; rfl
      | cons p l ih =>
        obtain ⟨m, o⟩ := p
        intro O hm
        simp only [List.map_cons, List.mem_cons, not_or] at hm
        rw [eY, ih _ hm.2, dY _ (Ne.symm hm.1)]
    have hup2 := hup (er (fun i => π.g (canon i)) e.sig.args 0 q.2) (s.st C.N).objs (by rw [oY, hν]; exact hn2)
    cases e.sig.ret.new q.1 with
    | none => exact hup2
    | some o => simp only [look, if_neg (Ne.symm hn1)]; exact hup2
  · unfold NV
    have hfn : bm ((xs.map (ev (s.st C.N).env)).flatMap gA) = none := by
      rw [List.flatMap_map]; exact lE hnm
    rw [hfn]
    simp only [v7, k3]
    rw [if_pos ⟨k2, q9 (fun n hn => by obtain ⟨cs, h1, _⟩ := hlk n hn; rw [h1]; rfl), n1, nH hlk, fi hno.1, hd, n3⟩]
    simp only [xF]
    have h2 : (jd (fun i => π.g (canon i)) e.sig q).os.map (·.1) = bp e.sig.args (xs.map (aq C s)) := by
      show (er _ _ _ _).map (·.1) = _
      rw [oY, hν]
    rw [if_pos ⟨h2, xI, Lg e.sig.ret q.1⟩]
    rfl
  · have hidem : ∀ (d : Nat) (O : ah), az (aw d) (az (aw d) O) = az (aw d) O := by
      intro d O
      rw [iv]
      congr 1
      funext x
      cases x with
      | own m => by_cases h : m = d <;> simp [aw, h]
      | cw m sz off len => by_cases h : m = d <;> simp [aw, h]
      | ref m sz i off => by_cases h : m = d <;> simp [aw, h]
      | cm f ns =>
        by_cases h : (ns.map (·.1)).contains d = true
        · rw [show aw d (.cm f ns) = .any from if_pos h]; rfl
        · rw [show aw d (.cm f ns) = .cm f ns from if_neg h, show aw d (.cm f ns) = .cm f ns from if_neg h]
      | _ => rfl
    have hno2 : tA (dst.getD 999998) ⟨s.env, ay e.sig.args (xs.map (aq C s)) q.2 s.objs⟩ := by
      obtain ⟨hl, E, O, hs⟩ := hno
      refine ⟨s3 _ hl, E, ay e.sig.args (xs.map (aq C s)) q.2 s.objs, ?_⟩
      rw [← s4]
      have h1 : s.env = cD (aw (dst.getD 999998)) E := by rw [hs]
      have h2 : az (aw (dst.getD 999998)) s.objs = s.objs := by rw [hs]; exact hidem _ _
      rw [h2, h1]
    rw [Hd (objs' := eY (er (fun i => π.g (canon i)) e.sig.args 0 q.2) (s.st C.N).objs) hno2 ?_]
    · congr 1
      · congr 1
        have kv : ∀ x : VV, x.av (ay e.sig.args (xs.map (aq C s)) q.2 s.objs) = x.av s.objs := by
          intro x
          cases x with
          | c x => exact s2 x
          | g l =>
            simp only [VV.av]
            congr 1
            apply List.map_congr_left
            intro x _; exact s2 x
        simp only [SS.st]
        apply List.map_congr_left
        intro i _
        cases cr s.env i with
        | v x => exact (kv x).symm
        | cI l =>
          simp only [SV.av]
          congr 1
          apply List.map_congr_left
          intro x _; exact (kv x).symm
    · show ai _ (ay _ _ _ _) = _
      have ko : ∀ O : ah, ai (ay e.sig.args (xs.map (aq C s)) q.2 s.objs) O = ai s.objs O := by
        intro O
        induction O with
        | nil => rfl
        | cons p r ih =>
          obtain ⟨m, o⟩ := p
          have : o.av (ay e.sig.args (xs.map (aq C s)) q.2 s.objs) = o.av s.objs := by
            cases o with
            | box cs =>
              simp only [SO.av]
              congr 1
              apply List.map_congr_left
              intro x _; exact s2 x
            | arr ts l => rfl
            | mp _ _ _ => rfl
          simp only [ai, ih, this]
      rw [ko, s1]; rfl
theorem zZ {P : Program} {R : Type} {FT : List (Nat × Entry)} (hFT : gv P FT) {C : eN} {s : SS} {dst : Option Tmp} {f : FuncId} {xs : List Operand} {K : SS → Option R} {r : R}
    (h : iw C FT false s dst f xs K = some r) : ∃ s1 f' Φ hr, wV (s.st C.N) (s1.st C.N) ∧ dr s s1 ∧ Sound P Φ ∧ NV Φ (s1.st C.N).env (s1.st C.N).objs (dst.getD 999998) f xs = some hr ∧
      (⟨eW hr.env dst hr.x, hr.objs⟩ : St) = f'.st C.N ∧ K f' = some r := by
  unfold iw at h
  split at h
  · cases h
  · rename_i e he
    cases hbg : ((fp e.sig.args).isEmpty && CK e.sig.ret) with
    | true =>
      simp only [hbg] at h
      simp only [Bool.and_eq_true] at hbg
      split at h
      · cases h
      · rename_i s1 hs1
        obtain ⟨a1, a2, a3⟩ := gl (N := C.N) hs1
        split at h
        · cases h
        · rename_i a ha
          split at h
          · rename_i hcond
            simp only [gR] at h
            obtain ⟨q, hF, hK⟩ := Option.bind_eq_some_iff.1 h
            obtain ⟨ys, h1, h2, h3⟩ := uR hFT he hbg.1 hbg.2 ha hF
            obtain ⟨g1, g2, g3, g4⟩ := ue e.sig.ret q.1 hbg.2
            refine ⟨s1, _, one f ys [] ⟨e.sig.ret.av q.1, [], none⟩, ⟨e.sig.ret.av q.1, (s1.st C.N).env, (s1.st C.N).objs⟩, a1, a2, qB (hFT f e he).1 h3, ?_, ?_, hK⟩
            · unfold NV
              split
              · rename_i hn
                have e1 := EE hn h1
                subst e1
                obtain ⟨m1, m2⟩ := EJ h2
                simp only [v7, m2, eB, List.filterMap_nil, List.map_nil, fE, xF]
                rw [if_pos ⟨m1, trivial, List.nodup_nil, trivial, fi a3.1, hcond.1, by simp⟩]
                simp only [g3, eY]
                rw [if_pos ⟨trivial, trivial, g4⟩]
              · unfold oH
                rw [h1]
                simp only [h2, if_true, xF, g1]
            · have hset : ay e.sig.args (xs.map (aq C s1)) q.2 s1.objs = s1.objs := mG (rV hbg.1)
              have key : ∀ (rt : RT) (y : rt.T), CK rt = true → (eJ (dst.getD 999998) ⟨s1.env, s1.objs⟩ rt y).2 = s1 ∧ (eJ (dst.getD 999998) ⟨s1.env, s1.objs⟩ rt y).1.av s1.objs = rt.av y := by
                intro rt y hg
                cases rt with
                | v c => exact ⟨rfl, nU c y⟩
                | cI l => exact ⟨rfl, by simp only [eJ, SV.av, yM, RT.av]⟩
                | _ => simp [CK] at hg
              rw [hset]
              obtain ⟨k1, k2⟩ := key e.sig.ret q.1 hbg.2
              rw [k1, dt, k2]
          · cases h
    | false =>
      simp only [hbg] at h
      split at h
      · cases h
      · rename_i s1 hs1
        obtain ⟨a1, a2, a3, a4⟩ := wF hs1
        split at h
        · cases h
        · rename_i a ha
          split at h
          · rename_i hcond
            simp only [gR] at h
            obtain ⟨q, hF, hK⟩ := Option.bind_eq_some_iff.1 h
            obtain ⟨Φ, hr, h1, h2, h3, _, _⟩ := GM (dst := dst) hFT he a3 a4 ha hF hcond.1 hcond.2.1 hcond.2.2
            exact ⟨s1, _, Φ, hr, a1, a2, h1, h2, h3, hK⟩
          · cases h
end Go.Abs
namespace Go.Abs
open Go.RowKit
variable {P : Program} {ops : Array Oper} {pins : List Nat}
def oc (P : Program) (ops : Array Oper) : List Oper → St → St → Prop
 | [], s, s' => s = s'
 | o :: l, s, s' => ∃ s1 Φ, Sound P Φ ∧ rL P Φ ops o s = some s1 ∧ oc P ops l s1 s'
def tE (P : Program) (pins : List Nat) (ops : Array Oper) (Q : St → Prop) (l : List Oper) (s : St) : Prop :=
 ∀ w0 M0 D0 a w, ja pins D0 → Sat w0 M0 D0 s a w → wpList P ops (yP (tC w0 M0 D0 Q)) l a w
theorem lI {w0 w : World} {M0 : Nat → Prop} {D : Names} {C : World → Prop} (hC : ∀ w', C w' ↔ Below w.heap.size w w') {Q : Act → Prop} :
  ∀ (l : List Oper) {s s' : St} {a : Act}, oc P ops l s s' → Mem w0 M0 s.objs D w → ax w D s.env a.tmps → (s'.objs = s.objs → ∀ a', a'.defers = a.defers → ax w D s'.env a'.tmps → Q a') → wpQuiet P ops C Q l a
 | [], s, s', a, h, hm, he, hq => by cases h; exact hq rfl a rfl he
 | o :: l, s, s', a, h, hm, he, hq => by
  obtain ⟨s1, Φ, hΦ, h1, h⟩ := h
  have hobj : s1.objs = s.objs := (uQ hΦ h1 hm he hC (K := fun _ => True) (fun _ _ _ => trivial) (fun _ => trivial)).1
  refine wpQuiet_step fun K hK => (uQ hΦ h1 hm he hC (fun a' hd' he' => hK _ ?_) (fun _ => trivial)).2
  exact lI hC l h (by rw [hobj]; exact hm) he' (fun h2 a'' hd'' he'' => hq (h2.trans hobj) a'' (hd''.trans hd') he'')
theorem nM {w0 B : World} {M0 : Nat → Prop} {D : Names} {k : Nat} {Q : Act → Prop} {rest : List Oper} : ∀ (l : List Oper) (i : Nat) {s s' : St} {a : Act},
  oc P ops l s s' → i + l.length = k → Mem w0 M0 s.objs D B → ax B D s.env a.tmps → (∀ a', a'.defers = a.defers → s'.objs = s.objs → ax B D s'.env a'.tmps → SI P ops B k Q rest k a') → SI P ops B k Q (l ++ rest) i a
 | [], i, s, s', a, h, hi, hm, he, hq => by
  cases h
  simp only [List.length_nil, Nat.add_zero] at hi; subst hi
  exact hq a rfl rfl he
 | o :: l, i, s, s', a, h, hi, hm, he, hq => by
  obtain ⟨s1, Φ, hΦ, h1, h⟩ := h
  simp only [List.length_cons] at hi
  obtain ⟨e, v, hy, he'⟩ := Lr hΦ h1 hm he (k := k) (i := i) (by omega)
  exact ⟨v, hy, nM l (i + 1) h (by omega) (by rw [e]; exact hm) he' (fun a' hd ho he'' => hq a' (hd.trans (put_defers _ _ _)) (ho.trans e) he'')⟩
theorem RX {Q : St → Prop} {s : St} (hnd : EM ops = true) (h : tE P pins ops Q ops.toList s) : vW P pins ops false s Q :=
 fun w0 M0 D0 a w hp hs => ⟨fun _ _ => rF ops.toList (fun o ho => by
  obtain ⟨j, hj⟩ := List.getElem?_of_mem ho
  exact n7 hnd j o (by simpa using hj)) a w (h w0 M0 D0 a w hp hs), fun h => by cases h⟩
theorem RV {Q : St → Prop} {s s' : St} (hB : Region.lexB .any ops = true) (hx : oc P ops ops.toList s s') (h : Q s') : vW P pins ops true s Q := by
 intro w0 M0 D0 a w _ hs
 obtain ⟨hd, D, hmem, he, hpin⟩ := hs
 refine ⟨fun h => by (cases h), fun _ => Gr (C := fun w' => Below w.heap.size w w') hB ⟨rfl, rfl, rfl, Nat.le_refl _, fun _ _ => rfl⟩ ?_⟩
 refine lI (fun _ => Iff.rfl) ops.toList hx hmem he fun hobj a' hd' he' w' hw' => ⟨rfl, s', h, hd'.trans hd, D, ?_, ?_, ?_⟩
 ·rw [hobj]
  exact hmem.ext (cA hw') hw'.os hw'.tape hw'.output
 ·exact he'.mono ((cA hw').weaken (fun _ _ h => h.elim)) (fun _ _ h => h) hmem.lt (fun _ _ h => h)
 ·rw [hobj]; exact hpin
theorem OE {Q : St → Prop} {s s1 : St} {l : List Oper} (n : Nat) (hB : Region.lexTailB .any l.toArray n = true)
  (hx : oc P l.toArray (l.take n) s s1) (h : tE P pins l.toArray Q (l.drop n) s1) : vW P pins l.toArray true s Q := by
 intro w0 M0 D0 a w hp hs
 obtain ⟨hd, D, hmem, he, hpin⟩ := hs
 refine ⟨fun h => by (cases h), fun _ => NL (C := fun w' => Below w.heap.size w w') n hB ⟨rfl, rfl, rfl, Nat.le_refl _, fun _ _ => rfl⟩ ?_⟩
 refine lI (fun _ => Iff.rfl) (l.take n) hx hmem he fun hobj a' hd' he' w' hw' => ?_
 refine h w0 M0 D0 a' w' hp ⟨hd'.trans hd, D, ?_, ?_, ?_⟩
 ·rw [hobj]
  exact hmem.ext (cA hw') hw'.os hw'.tape hw'.output
 ·exact he'.mono ((cA hw').weaken (fun _ _ h => h.elim)) (fun _ _ h => h) hmem.lt (fun _ _ h => h)
 ·rw [hobj]; exact hpin
theorem OD {Q : St → Prop} {s s1 s2' : St} {hd tl : List Oper} {d : Tmp} {T : TypeId} {ty : TypeId} {pos : String} {aft : Array Edge}
  (hB : Region.lexTailB .any (hd ++ ⟨some d, .alloc T, ty, pos, aft, none⟩ :: tl).toArray (hd.length + 1) = true) (hA : HU (hd ++ ⟨some d, .alloc T, ty, pos, aft, none⟩ :: tl).toArray (hd.length + 1) hd.length d = true) (hz : (zeroCells P T).isSome = true)
  (hx : oc P (hd ++ ⟨some d, .alloc T, ty, pos, aft, none⟩ :: tl).toArray hd s s1)
  (hx1 : ∀ w0 M0 D0 a w, Sat w0 M0 D0 ⟨eW s1.env (some d) .gO, s1.objs⟩ a w → wpList P (hd ++ ⟨some d, .alloc T, ty, pos, aft, none⟩ :: tl).toArray (fun e a' w' => e = .normal ∧ Sat w0 M0 D0 s2' a' w') [⟨some d, .alloc T, ty, pos, aft, none⟩] a w)
  (h : tE P pins (hd ++ ⟨some d, .alloc T, ty, pos, aft, none⟩ :: tl).toArray Q tl s2') :
  vW P pins (hd ++ ⟨some d, .alloc T, ty, pos, aft, none⟩ :: tl).toArray true s Q := by
 intro w0 M0 D0 a w hpp hs
 obtain ⟨hdf, D, hmem, he, hpin⟩ := hs
 generalize hok : (⟨some d, .alloc T, ty, pos, aft, none⟩ : Oper) = ok at *
 generalize hl : hd ++ ok :: tl = l at *
 have hokl : l.toArray[hd.length]? = some ok := by rw [← hl]; simp
 obtain ⟨z, hz⟩ := Option.isSome_iff_exists.1 hz
 obtain ⟨i, zv, hi, hzv, _, _⟩ := fe w D hz
 have hrun : ∀ (ρ : Operand → Value) (w : World), (execOp ρ ok).run P w = .ok (.value (.pointer (some ⟨w.heap.size, 0, none⟩))) (w.alloc (.cells zv.cells.toList.toArray T)) := by
  intro ρ w
  rw [← hok]
  simp [execOp, Instr.alloc, zeroValue, typeInfo, hi, hzv, newVar, newRow]
 simp only [Region.lexTailB, Bool.and_eq_true, decide_eq_true_eq] at hB
 obtain ⟨⟨⟨⟨hsel, hn⟩, hsk⟩, hc⟩, hlex⟩ := hB
 have hsz : l.toArray.size = hd.length + 1 + tl.length := by rw [← hl]; simp; omega
 have inv0 : HeadInv .any l.toArray (hd.length + 1) (Array.replicate l.toArray.size false) :=
  ⟨by simp, fun j oj _ hl => (by rw [getD_replicate_false] at hl; cases hl), fun t _ ht => getD_in (by simpa using ht) (getD_replicate_false _ _)⟩
 have hw1 : Below w.heap.size w { w with drawn := w.drawn + 1 } := ⟨rfl, rfl, rfl, Nat.le_refl _, fun _ _ => rfl⟩
 let Lq : Act → Prop := fun a' => a'.defers = a.defers ∧ s1.objs = s.objs ∧ ax w D (eW s1.env (some d) .gO) a'.tmps
 have hwk : SI P l.toArray w hd.length Lq (hd ++ [ok]) 0 a := nM hd 0 hx (by simp) hmem he (fun a' hd' ho he' => by
  refine ⟨undef, .inl ⟨rfl, rfl⟩, (put_defers _ _ _).trans hd', ho, ?_⟩
  rw [← hok]
  exact he'.put (some d) (by simp only [Slot, cM, Cell]; exact .gO))
 have H := wm (P := P) (md := .any) (g := tl.length) hsel hsk hc hn (hd ++ [ok]) 0 _ a (fun j hj => by
  have hj' : j < hd.length + 1 := by simpa using hj
  rw [← hl]
  simp only [Nat.zero_add, List.getElem?_toArray]
  rw [List.getElem?_append, List.getElem?_append]
  split
  ·rfl
  ·rename_i hge
   have : j - hd.length = 0 := by omega
   rw [this]; rfl) (by simp) inv0 (by rw [show l.toArray.size - (hd.length + 1) = tl.length by omega] at hlex; simpa using hlex) hwk
 refine ⟨fun h => by (cases h), fun _ => ?_⟩
 have fin := pY (P := P) (ops := l.toArray) (md := .any) (B := w) (k := hd.length) (n := hd.length + 1) (g := tl.length) (Q' := yP (tC w0 M0 D0 Q)) (ok := ok) (d := d) hokl (by rw [← hok]) (by rw [← hok]) hrun (Region.noSelect_spec hsel)
  (fun i o hin hik hio => by
   have := List.all_eq_true.1 hA i (List.mem_range.2 hin)
   simp only [hio, Bool.or_eq_true, beq_iff_eq, Bool.and_eq_true, Bool.not_eq_true'] at this
   rcases this with h | h
   ·exact absurd h hik
   ·exact ⟨by simpa using h.1, by simpa using h.2⟩)
  (fun listed a' a2 w2 hL inv hcome => by
   obtain ⟨hseq, hdef, hobj, he1⟩ := hL
   by_cases hkl : listed.getD hd.length false = true
   ·rw [if_pos hkl] at hcome
    obtain ⟨w1, hb1, hb2, rfl⟩ := hcome
    ·
     have hmem1 : Mem w0 M0 s1.objs D w1 := by rw [hobj]; exact hmem.ext (cA hb1) hb1.os hb1.tape hb1.output
     have hsat1 : Sat w0 M0 D0 ⟨eW s1.env (some d) .gO, s1.objs⟩ a' w1 := ⟨hdef.trans hdf, D, hmem1, kZ he1 hb1 hmem.lt, by simp only [hobj]; exact hpin⟩
     have hx := hx1 w0 M0 D0 a' w1 hsat1
     have hsat2 : Sat w0 M0 D0 s2' (a'.put (some d) (.pointer (some ⟨w1.heap.size, 0, none⟩))) (w1.alloc (.cells zv.cells.toList.toArray T)) := by
      have hgw : Region.wanted ok (yielded l.toArray a'.tmps) = true := by rw [← hok]; simp [Region.wanted]
      simp only [wpList, hgw, if_true] at hx
      unfold Oper.wp at hx
      rw [hrun] at hx
      rw [← hok] at hx
      rcases hx with hx | ⟨_, hx⟩
      ·simpa [Oper.upon] using hx
      ·simp [LetsOut] at hx
     have hsat3 : Sat w0 M0 D0 s2' (a'.put (some d) (.pointer (some ⟨w1.heap.size, 0, none⟩))) w2 := by
      obtain ⟨q1, D2, q2, q3, q4⟩ := hsat2
      exact ⟨q1, D2, q2.ext (cA hb2) hb2.os hb2.tape hb2.output, kZ q3 hb2 q2.lt, q4⟩
     refine wpAny_of_seq tl (hd.length + 1) listed _ w2 (fun j => ?_) hseq (h w0 M0 D0 _ w2 hpp hsat3)
     rw [← hl]
     simp only [List.getElem?_toArray]
     rw [List.getElem?_append_right (by omega), show hd.length + 1 + j - hd.length = j + 1 by omega]
     rfl
   ·exfalso
    have hkf : listed.getD hd.length false = false := by simpa using hkl
    have hlt : hd.length < listed.size := by rw [inv.size, hsz]; omega
    have hnr := tail_waits hsk hc hn inv _ hd.length rfl (Nat.lt_succ_self _) (getD_in hlt hkf) (hd.length + 1) (Nat.le_refl _)
    have hpos : tl.length = (tl.length - 1) + 1 := by omega
    rw [hpos] at hseq
    simp only [Region.seqB, Bool.and_eq_true, decide_eq_true_eq] at hseq
    rw [hseq.1] at hnr
    exact hnr (by simp)) _ _ a a { w with drawn := w.drawn + 1 } H inv0 (by rw [if_neg (by rw [getD_replicate_false]; decide)]; exact ⟨rfl, hw1⟩)
 rw [show (hd ++ [ok]).length + tl.length = l.toArray.size by rw [hsz]; simp] at fin
 exact fin
end Go.Abs
namespace Go.Abs
open Go.RowKit Go.MapKept
variable {k kk : IntKind} {l : List (Int × Int)} {n : Nat} {w : World}
theorem xh {P : Program} {ops : Array Oper} {o : Oper} {s : St} {r : HR} (hg : guardOf ops s.env o = some true) {w0 : World} {M0 : Nat → Prop} {D0 : Names} {a : Act} (hs : Sat w0 M0 D0 s a w)
  (hdn : ∀ D, Mem w0 M0 s.objs D w → ax w D s.env a.tmps → iX P w0 M0 a w D s.objs (execOp a.eval o) r)
  {rest : List Oper} {Q : Exit → Act → World → Prop} (hq : ∀ a' w', Sat w0 M0 D0 ⟨eW r.env o.dst r.x, r.objs⟩ a' w' → wpList P ops Q rest a' w') : wpList P ops Q (o :: rest) a w := by
 obtain ⟨hd, D, hm, he, hp⟩ := hs
 have hw := dW he hg
 refine wpList_step fun K hK => ?_
 rw [if_pos hw]
 obtain ⟨v, w', D', h1, h2, h3, h4, h5⟩ := hdn D hm he
 unfold Oper.wp
 rcases h1 with h1 | ⟨h1, rfl⟩
 ·rw [h1]
  exact hK _ _ (hq _ _ ⟨by rw [put_defers]; exact hd, D', h3, h4.put _ h2, h5 D0 hp⟩)
 ·rw [h1]
  exact hK _ _ (hq _ _ ⟨by rw [put_defers]; exact hd, D', h3, h4.put _ h2, h5 D0 hp⟩)
theorem AZ {D : Names} {f : Fn} {v : Value} (h : Slot w D (.cm (some f, 1) [n]) v) : ∃ b, D n = some (some b) ∧ v = .map (some b) := by
 simp only [Slot, cM, Cell] at h
 obtain ⟨bs, h1, h2, h3⟩ := h
 match bs, h1 with
 | [b], _ => exact ⟨b, h2 0 n b rfl rfl, h3⟩
theorem By {D : Names} (f : Fn) {n b : Nat} (h : D n = some (some b)) : Slot w D (.cm (some f, 1) [n]) (.map (some b)) := by
 simp only [Slot, cM, Cell]
 refine ⟨[b], rfl, fun i m c hm hc => ?_, rfl⟩
 cases i with
 | zero => simp only [List.getElem?_cons_zero, Option.some.injEq] at hm hc; subst hm; subst hc; exact h
 | succ i => simp at hm
def mw : List (Int × Int) → Int → Nat → Option (Nat × Int)
 | [], _, _ => none
 | (a, b) :: l, n, i => if a == n then some (i, b) else mw l n (i + 1)
abbrev nN (kk k : IntKind) (es : List MapEntry) (l : List (Int × Int)) : Prop := es.map (fun e => (e.key, e.val)) = l.map fun p => (Value.int kk p.1, Value.int k p.2)
theorem ml (n : Int) : ∀ (es : List MapEntry) (l : List (Int × Int)) (i : Nat), nN kk k es l →
  Instr.findNow (.int kk) (.int kk n) es i = some ((mw l n i).map fun p => (p.1, Value.int k p.2))
 | [], [], _, _ => rfl
 | e :: es, (a, b) :: l, i, h => by
  simp only [nN, List.map_cons, List.cons.injEq, Prod.mk.injEq] at h
  obtain ⟨⟨h1, h2⟩, h3⟩ := h
  have ih := ml n es l (i + 1) h3
  simp only [Instr.findNow, h1, Instr.sameNow, if_true, mw]
  by_cases hc : a = n
  ·subst hc; simp [h2]
  ·have h4 : (n == a) = false := by simp [Ne.symm hc]
   have h5 : (a == n) = false := by simp [hc]
   simp only [h4, h5, ih, Bool.false_eq_true, if_false]
 | [], _ :: _, _, h => by simp [nN] at h
 | _ :: _, [], _, h => by simp [nN] at h
theorem wz : ∀ (l : List (Int × Int)) (n : Int) (i : Nat), gL l n = ((mw l n i).map (·.2)).getD 0
 | [], _, _ => rfl
 | (a, b) :: l, n, i => by
  simp only [gL, mw]
  split
  ·rfl
  ·exact wz l n (i + 1)
theorem uD : ∀ {l : List (Int × Int)} {n : Int} {i : Nat}, mw l n i = none → ∀ v, nz l n v = l ++ [(n, v)]
 | [], _, _, _, _ => rfl
 | (a, b) :: l, n, i, h, v => by
  simp only [mw] at h
  split at h
  ·cases h
  ·rename_i hc
   simp only [nz, hc, Bool.false_eq_true, if_false, uD h v, List.cons_append]
theorem uE : ∀ {l : List (Int × Int)} {n : Int} {i j : Nat} {b : Int}, mw l n i = some (j, b) → ∃ q, j = i + q ∧ l[q]? = some (n, b) ∧ ∀ v, nz l n v = l.set q (n, v)
 | [], _, _, _, _, h => by cases h
 | (a, c) :: l, n, i, j, b, h => by
  simp only [mw] at h
  split at h
  ·rename_i hc
   simp only [Option.some.injEq, Prod.mk.injEq] at h
   obtain ⟨rfl, rfl⟩ := h
   have := beq_iff_eq.1 hc
   subst this
   exact ⟨0, rfl, rfl, fun v => by simp [nz]⟩
  ·rename_i hc
   obtain ⟨q, h1, h2, h3⟩ := uE h
   exact ⟨q + 1, by omega, by simpa using h2, fun v => by simp only [nz, hc, Bool.false_eq_true, if_false, h3 v, List.set_cons_succ]⟩
theorem zr {r : Nat} {es es' : Array MapEntry} {c c' : Nat} (hb : w.heap[r]? = some (.map es c)) {M : Nat → Prop} (hM : M r) : cB w { w with heap := w.heap.setIfInBounds r (.map es' c') } M where
 size := by simp
 same := fun b _ hn => (MapKept.heap_set hb).2 b fun e => hn (e ▸ hM)
 row := fun b _ => by
  by_cases h : b = r
  ·subst h
   have h1 := (MapKept.heap_set (o' := .map es' c') hb).1
   simp only [World.row, World.shape?, h1, hb]
  ·have h1 := (MapKept.heap_set (o' := .map es' c') hb).2 b h
   simp only [World.row, World.shape?, h1]
theorem uF {P : Program} {T : TypeId} (h : n5 P T kk k = true) : ∃ K E i, P.underlying T = some (.map K E) ∧ P.underlying K = some (.int kk) ∧ P.info? E = some i ∧ i.zero = some (.int k 0) := by
 unfold n5 at h
 split at h
 case h_2 => cases h
 rename_i kk' E hT
 simp only [Bool.and_eq_true, decide_eq_true_eq] at h
 obtain ⟨rfl, h⟩ := h
 unfold Oo at hT
 split at hT
 case h_2 => cases hT
 rename_i K E' hu
 split at hT
 case h_2 => cases hT
 rename_i k2 hK
 simp only [Option.some.injEq, Prod.mk.injEq] at hT
 obtain ⟨rfl, rfl⟩ := hT
 split at h
 case h_2 => cases h
 rename_i i hi
 split at h
 case h_2 => cases h
 rename_i k' n hz
 simp only [Bool.and_eq_true, decide_eq_true_eq] at h
 obtain ⟨rfl, rfl⟩ := h
 exact ⟨K, E', i, hu, hK, hi, hz⟩
section
variable {P : Program} {w0 w : World} {M0 : Nat → Prop} {D : Names} {objs : List (Nat × Obj)} {env : List AV} {a : Act}
theorem Gz (hm : Mem w0 M0 objs D w) (he : ax w D env a.tmps) {d : Nat} (hd : look d objs = none) (hK : d < top) (f : Fn) (kk k : IntKind) (T : TypeId) {s : Sem Next} (hs : s.run P w = .ok (.value (.map (some w.heap.size))) (w.alloc (.map #[] 0))) :
  iX P w0 M0 a w D objs s ⟨.cm (some f, 1) [d], env, (d, .mp kk k []) :: objs⟩ := by
 have hfr := hm.fresh hd hK
 refine ⟨_, _, D.ins d (some w.heap.size), .inl hs, By f (mn _ _ _), hm.alloc hd hK _ _ ⟨#[], 0, ke _ _, rfl⟩, xv hm.lt hfr _ he, fun _ hp => hp.ins hfr _ _⟩
theorem H5 (hm : Mem w0 M0 objs D w) (he : ax w D env a.tmps) {T : TypeId} (hT : n5 P T kk k = true) (hl : look n objs = some (.mp kk k l)) {f : Fn} {vm : Value}
  (hv : Slot w D (.cm (some f, 1) [n]) vm) (i : Int) {s : Sem Next} (hs : s = (do let v ← Instr.lookup T vm (.int kk i) false; pure (.value v))) : iX P w0 M0 a w D objs s ⟨.int k (gL l i), env, objs⟩ := by
 obtain ⟨b, hD, rfl⟩ := AZ hv
 obtain ⟨es, clock, hb, hes⟩ := hm.rep n _ _ hl hD
 obtain ⟨K, E, inf, hu, hKu, hi, hz⟩ := uF hT
 have hk : IsKey (.int kk) (.int kk i) := rfl
 have hf := ml (k := k) i es.toList l 0 hes
 refine ⟨.int k (gL l i), w, D, .inl ?_, ct _ _, hm, he, fun _ hp => hp⟩
 subst hs
 rw [wz l i 0]
 have hzr : (zeroValue E).run P w = .ok (.int k 0) w := by simp [zeroValue, typeInfo, hi, hz]
 cases hfd : mw l i 0 with
 | none =>
  rw [hfd] at hf
  simp [Instr.lookup, run_underlying hu, MapKept.run_getObj_map hb, MapKept.run_checkKey hKu hk, MapKept.run_findKey hKu hf, hzr, Result.andThen]
 | some p =>
  rw [hfd] at hf
  simp [Instr.lookup, run_underlying hu, MapKept.run_getObj_map hb, MapKept.run_checkKey hKu hk, MapKept.run_findKey hKu hf, Result.andThen]
theorem ze (hm : Mem w0 M0 objs D w) (he : ax w D env a.tmps) {T : TypeId} (hT : n5 P T kk k = true) (hl : look n objs = some (.mp kk k l)) {f : Fn} {vm : Value}
  (hv : Slot w D (.cm (some f, 1) [n]) vm) (i x : Int) {s : Sem Next} (hs : s = (do Instr.mapUpdate T vm (.int kk i) (.int k x); pure .skip)) : iX P w0 M0 a w D objs s ⟨.gO, env, js n (.mp kk k (nz l i x)) objs⟩ := by
 obtain ⟨b, hD, rfl⟩ := AZ hv
 obtain ⟨es, clock, hb, hes⟩ := hm.rep n _ _ hl hD
 obtain ⟨K, E, inf, hu, hKu, hi, hz⟩ := uF hT
 have hk : IsKey (.int kk) (.int kk i) := rfl
 have hf := ml (k := k) i es.toList l 0 hes
 have fin : ∀ (es' : Array MapEntry) (c' : Nat), s.run P w = .ok .skip { w with heap := w.heap.setIfInBounds b (.map es' c') } → nN kk k es'.toList (nz l i x) →
   iX P w0 M0 a w D objs s ⟨.gO, env, js n (.mp kk k (nz l i x)) objs⟩ := by
  intro es' c' hrun hrep
  have kN : cB w { w with heap := w.heap.setIfInBounds b (.map es' c') } D.N := zr hb ⟨n, hm.small n (by simp [hl]), hD⟩
  have kg : cB w { w with heap := w.heap.setIfInBounds b (.map es' c') } D.M := kN.weaken (fun _ _ h => Names.KA h)
  exact ⟨undef, _, D, .inr ⟨hrun, rfl⟩, by simp only [Slot, cM, Cell]; exact .gO, hm.js hl hD kN (fun c hc => (MapKept.heap_set hb).2 c hc) ⟨es', c', (MapKept.heap_set hb).1, hrep⟩ rfl rfl rfl, he.mono kg (fun _ _ h => h) hm.lt (fun _ _ h => h), fun _ hp => hp.js hl (.inr (.inr ⟨_, _, _, rfl⟩))⟩
 subst hs
 cases hfd : mw l i 0 with
 | none =>
  rw [hfd] at hf
  refine fin (es.push { key := .int kk i, val := .int k x, born := clock }) (clock + 1) ?_ ?_
  ·simp [Instr.mapUpdate, run_underlying hu, MapKept.run_getObj_map hb, MapKept.run_checkKey hKu hk, MapKept.run_findKey hKu hf, MapKept.run_setObj_map _ hb, Result.andThen]
  ·rw [uD hfd x]
   simp only [nN, Array.toList_push, List.map_append, List.map_cons, List.map_nil]
   rw [show es.toList.map (fun e => (e.key, e.val)) = _ from hes]
 | some p =>
  obtain ⟨j, c⟩ := p
  rw [hfd] at hf
  obtain ⟨q, hq, hlq, hset⟩ := uE hfd
  have hq : j = q := by omega
  subst hq
  have hej : ∃ e, es[j]? = some e ∧ e.key = .int kk i := by
   have h1 := congrArg (fun t => t[j]?) hes
   simp only [List.getElem?_map, hlq, Option.map_some] at h1
   cases he2 : es.toList[j]? with
   | none => rw [he2] at h1; simp at h1
   | some e =>
    rw [he2] at h1
    simp only [Option.map_some, Option.some.injEq, Prod.mk.injEq] at h1
    exact ⟨e, by simpa using he2, h1.1⟩
  obtain ⟨e, he3, hek⟩ := hej
  refine fin (es.modify j fun e => { e with key := .int kk i, val := .int k x }) clock ?_ ?_
  ·simp [Instr.mapUpdate, run_underlying hu, MapKept.run_getObj_map hb, MapKept.run_checkKey hKu hk, MapKept.run_findKey hKu hf, he3, hek, MapKept.run_keyThatStays hk, MapKept.run_setObj_map _ hb, Result.andThen]
  ·rw [hset x]
   simp only [nN]
   apply List.ext_getElem?
   intro m
   have h1 := congrArg (fun t => t[m]?) hes
   simp only [List.getElem?_map, Array.getElem?_toList] at h1
   simp only [List.getElem?_map, Array.getElem?_toList, Array.getElem?_modify, List.getElem?_set]
   by_cases hjm : j = m
   ·subst hjm
    have hlt : j < l.length := (List.getElem?_eq_some_iff.1 hlq).1
    simp [he3, hlt]
   ·simp only [hjm, if_false]; exact h1
end
theorem yY {s : SS} {x : SV} (h : SQ x = some n) : ∃ f, x.av s.objs = .cm (some (Fn.func f), 1) [n] := by
 unfold SQ at h
 split at h
 ·simp only [Option.some.injEq] at h; subst h; exact ⟨_, rfl⟩
 ·cases h
theorem qj {s : SS} {x : SV} {n : Int} (h : HW x = some (k, n)) : x.av s.objs = .int k n := by
 unfold HW at h
 split at h
 ·simp only [Option.some.injEq, Prod.mk.injEq] at h; obtain ⟨rfl, rfl⟩ := h; rfl
 ·cases h
theorem M5 {N n : Nat} {s : SS} {l l' : List (Int × Int)} (ho : ad n s.objs = some (.mp kk k l)) :
  (SS.st N ⟨s.env, c8 n (.mp kk k l') s.objs⟩) = ⟨(s.st N).env, js n (.mp kk k l') (s.st N).objs⟩ := by
 have key : ∀ x : CV, x.av (c8 n (.mp kk k l') s.objs) = x.av s.objs := fun x => rQ fun m _ => by
  by_cases h : n = m
  ·subst h; rw [fH _ (by rw [ho]; rfl), ho]
  ·rw [cu _ h]
 have kv : ∀ x : VV, x.av (c8 n (.mp kk k l') s.objs) = x.av s.objs := fun x => by
  cases x with
  | c x => exact key x
  | g l => simp only [VV.av]; congr 1; exact List.map_congr_left fun c _ => key c
 have ks : ∀ x : SV, x.av (c8 n (.mp kk k l') s.objs) = x.av s.objs := fun x => by
  cases x with
  | v x => exact kv x
  | cI l => simp only [SV.av]; congr 1; exact List.map_congr_left fun c _ => kv c
 have ko : ∀ x : SO, x.av (c8 n (.mp kk k l') s.objs) = x.av s.objs := fun x => by
  cases x with
  | box cs => simp only [SO.av]; congr 1; exact List.map_congr_left fun c _ => key c
  | arr ts l => rfl
  | mp _ _ _ => rfl
 have kos : ∀ q : ah, ai (c8 n (.mp kk k l') s.objs) q = ai s.objs q := by
  intro q
  induction q with
  | nil => rfl
  | cons p r ih => obtain ⟨m, o⟩ := p; simp only [ai, ih, ko]
 simp only [SS.st]
 rw [kos, jj]
 congr 1
 exact List.map_congr_left fun i _ => ks _
theorem OJ {P : Program} {C : eN} (hG : Good P C.G) {ops : Array Oper} {o : Oper} {s s' : SS} {x : SV} (h : VL C s o.dst o.op = some (x, s')) (hg : ∀ s1, dr s s1 → guardOf ops (s1.st C.N).env o = some true)
  {w0 : World} {M0 : Nat → Prop} {D0 : Names} {a : Act} {w : World} (hs : Sat w0 M0 D0 (s.st C.N) a w) {rest : List Oper} {Q : Exit → Act → World → Prop}
  (hq : ∀ a' w', Sat w0 M0 D0 ((s'.put o.dst x).st C.N) a' w' → wpList P ops Q rest a' w') : wpList P ops Q (o :: rest) a w := by
 unfold VL at h
 split at h
 ·rename_i T d hop hdst
  split at h
  case isFalse => cases h
  rename_i hd
  split at h
  case h_2 => cases h
  rename_i s1 kk k h1 hT
  simp only [Option.some.injEq, Prod.mk.injEq] at h
  obtain ⟨rfl, rfl⟩ := h
  obtain ⟨a1, a2, a3⟩ := gl (N := C.N) h1
  refine xh (hg s1 a2) (a1 _ _ _ _ _ hs) (fun D hm he => Gz hm he (fi a3.1) hd (.func 0) kk k T ?_) fun a' w' hs' => hq a' w' ?_
  ·simp only [execOp, hop, Option.map_none, Sem.run_bind, run_makeMap, Result.andThen_ok, Sem.run_pure]
  ·rw [hdst] at hs' ⊢
   rw [jJ a3]
   exact hs'
 ·rename_i T m i hop
  split at h
  case h_2 => cases h
  rename_i n k1 i' kk k hm' hi' hT
  split at h
  case h_2 => cases h
  rename_i kk' k' l hl
  split at h
  case isFalse => cases h
  rename_i hc
  obtain ⟨rfl, rfl, rfl⟩ := hc
  simp only [Option.some.injEq, Prod.mk.injEq] at h
  obtain ⟨rfl, rfl⟩ := h
  obtain ⟨f, hmv⟩ := yY (s := s) hm'
  have hiv := qj (s := s) hi'
  rw [bz] at hmv hiv
  refine xh (r := ⟨.int k' (Nu l i'), (s.st C.N).env, (s.st C.N).objs⟩) (hg s (.bh _)) hs (fun D hm he => ?_) fun a' w' hs' => hq a' w' (by rw [dt]; exact hs')
  have e1 := aj (a := a) hm.bq he m
  have e2 := aj (a := a) hm.bq he i
  rw [hmv] at e1
  rw [hiv] at e2
  refine H5 hm he (hG T _ hT).1 (n := n) (l := l) ?_ e1 i' ?_
  ·show look n (ai s.objs s.objs) = _
   rw [bk, hl]; rfl
  ·simp only [execOp, hop, eu e2]
 ·rename_i T m i x' hop hdst
  split at h
  case h_2 => cases h
  rename_i n k1 i' k2 v kk k hm' hi' hx' hT
  split at h
  case h_2 => cases h
  rename_i kk' k' l hl
  split at h
  case isFalse => cases h
  rename_i hc
  obtain ⟨rfl, rfl, rfl, rfl⟩ := hc
  simp only [Option.some.injEq, Prod.mk.injEq] at h
  obtain ⟨rfl, rfl⟩ := h
  obtain ⟨f, hmv⟩ := yY (s := s) hm'
  have hiv := qj (s := s) hi'
  have hxv := qj (s := s) hx'
  rw [bz] at hmv hiv hxv
  refine xh (r := ⟨.gO, (s.st C.N).env, js n (.mp kk' k' (Nv l i' v)) (s.st C.N).objs⟩) (hg s (.bh _)) hs (fun D hm he => ?_) fun a' w' hs' => hq a' w' (by rw [dt, M5 hl]; rw [hdst] at hs' ⊢; exact hs')
  have e1 := aj (a := a) hm.bq he m
  have e2 := aj (a := a) hm.bq he i
  have e3 := aj (a := a) hm.bq he x'
  rw [hmv] at e1
  rw [hiv] at e2
  rw [hxv] at e3
  refine ze hm he (hG T _ hT).1 (n := n) (l := l) ?_ e1 i' v ?_
  ·show look n (ai s.objs s.objs) = _
   rw [bk, hl]; rfl
  ·simp only [execOp, hop, eu e2, eu e3]
 ·cases h
end Go.Abs
namespace Go.Abs
open Go.RowKit
variable {ops : Array Oper} {FT : List (Nat × Entry)} {P : Program} {o : Oper} {C : eN} {s : SS} {D : Names} {w : World} {R : Type}
theorem jQ : Sound P I3 := G4
theorem ND {Φ : Table} {s : St} {x : AV} (hg : guardOf ops s.env o = some true) (hf : isFun o.op = false) (h : iU P s.env s.objs o.op = some x) :
  HL P Φ ops o s = some ⟨eW s.env o.dst x, s.objs⟩ := by
 simp only [HL, hg]
 cases hop : o.op with
 | call c =>
  obtain ⟨callee, args, tys⟩ := c
  rw [hop] at hf h
  cases callee with
  | value x => cases x with
   | func f => simp [isFun] at hf
   | _ => simp only [h]
  | _ => simp only [h]
 | _ => rw [hop] at h; simp only [h]
theorem NC {Φ : Table} {s : St} {r : HR} (hg : guardOf ops s.env o = some true) (hf : isFun o.op = false) (h0 : iU P s.env s.objs o.op = none) (h : CL P s.env s.objs o.dst o.op = some r) :
  HL P Φ ops o s = some ⟨eW r.env o.dst r.x, r.objs⟩ := by
 simp only [HL, hg]
 cases hop : o.op with
 | call c =>
  obtain ⟨callee, args, tys⟩ := c
  rw [hop] at hf h0 h
  cases callee with
  | value x => cases x with
   | func f => simp [isFun] at hf
   | _ => simp only [h0, h, Option.map_some]
  | _ => simp only [h0, h, Option.map_some]
 | _ => rw [hop] at h0 h; simp only [h0, h, Option.map_some]
theorem Ny {Φ : Table} {s : St} {x : AV} (hg : guardOf ops s.env o = some true) (hf : isFun o.op = false) (h : iU P s.env s.objs o.op = some x) :
  rL P Φ ops o s = some ⟨eW s.env o.dst x, s.objs⟩ := by
 simp only [rL, hg]
 cases hop : o.op with
 | call c =>
  obtain ⟨callee, args, tys⟩ := c
  rw [hop] at hf h
  cases callee with
  | value x => cases x with
   | func f => simp [isFun] at hf
   | _ => simp only [h, Option.map_some]
  | _ => simp only [h, Option.map_some]
 | _ => rw [hop] at h; simp only [h, Option.map_some]
theorem E3 (hG : Good P C.G) (hFT : gv P FT) {K : SS → Option R} {r : R}
  (h : iP C FT false s o.dst o.op K = some r) (hg : ∀ s1, dr s s1 → guardOf ops (s1.st C.N).env o = some true) {w0 : World} {M0 : Nat → Prop} {D0 : Names} {a : Act} {w : World} (hs : Sat w0 M0 D0 (s.st C.N) a w)
  {rest : List Oper} {Q : Exit → Act → World → Prop} (hq : ∀ s' a' w', K s' = some r → Sat w0 M0 D0 (s'.st C.N) a' w' → wpList P ops Q rest a' w') : wpList P ops Q (o :: rest) a w := by
 unfold iP at h
 split at h
 ·rename_i f args tys hop
  obtain ⟨s1, f', Φ, hr, a1, a2, a3, a4, a5, a6⟩ := zZ hFT h
  have hx : HL P Φ ops o (s1.st C.N) = some ⟨eW hr.env o.dst hr.x, hr.objs⟩ := by
   simp only [HL, hg s1 a2, hop, a4, Option.map_some]
  exact hZ a3 hx (a1 _ _ _ _ _ hs) fun a' w' hs' => hq f' a' w' a6 (by rw [← a5]; exact hs')
 ·rename_i c x y hop
  split at h
  ·rename_i t ht
   have hev := qk ht
   simp only [br] at h
   have hx : HL P I3 ops o (s.st C.N) = some ⟨eW (s.st C.N).env o.dst (if t = true then ev (s.st C.N).env x else ev (s.st C.N).env y), (s.st C.N).objs⟩ :=
    ND (hg s (.bh _)) (by rw [hop]; rfl) (by rw [hop]; simp only [iU, hev, KV.av])
   split at h
   ·rename_i ht'
    rw [if_pos ht'] at hx
    exact hZ jQ hx hs fun a' w' hs' => hq _ a' w' h (by rw [dt, bz]; exact hs')
   ·rename_i ht'
    rw [if_neg ht'] at hx
    exact hZ jQ hx hs fun a' w' hs' => hq _ a' w' h (by rw [dt, bz]; exact hs')
  ·cases h
 ·rename_i hn1 hn2
  have hf : isFun o.op = false := by
   cases hop : o.op with
   | call c =>
    obtain ⟨callee, args, tys⟩ := c
    cases callee with
    | value x => cases x with
     | func f => exact absurd hop (hn1 _ _ _)
     | _ => rfl
    | _ => rfl
   | _ => rfl
  split at h
  ·rename_i c x hr
   obtain ⟨hc, hK⟩ := fI h
   have hx : HL P I3 ops o (s.st C.N) = some ⟨eW (s.st C.N).env o.dst (x.av s.objs), (s.st C.N).objs⟩ := ND (hg s (.bh _)) hf (u2 hG hr hc)
   exact hZ jQ hx hs fun a' w' hs' => hq _ a' w' hK (by rw [dt]; exact hs')
  ·simp only [Bool.false_eq_true, if_false] at h
   split at h
   ·rename_i c x s' hr
    obtain ⟨hc, hK⟩ := fI h
    obtain ⟨s1, hr, b1, b2, b3, b4, b5, b6⟩ := AF hG hr hc
    exact hZ jQ (NC (hg s1 b2) b3 b4 b5) (b1 _ _ _ _ _ hs) fun a' w' hs' => hq _ a' w' hK (b6 _ _ _ _ _ hs')
   ·cases h
theorem DC (hG : Good P C.G) (hFT : gv P FT) {K : SS → Option R} {r : R}
  (h : lS C FT false s o.dst o.op K = some r) (hg : ∀ s1, dr s s1 → guardOf ops (s1.st C.N).env o = some true) {w0 : World} {M0 : Nat → Prop} {D0 : Names} {a : Act} {w : World} (hs : Sat w0 M0 D0 (s.st C.N) a w)
  {rest : List Oper} {Q : Exit → Act → World → Prop} (hq : ∀ s' a' w', K s' = some r → Sat w0 M0 D0 (s'.st C.N) a' w' → wpList P ops Q rest a' w') : wpList P ops Q (o :: rest) a w := by
 unfold lS at h
 simp only at h
 split at h
 ·obtain ⟨s2, h1, h2, h3⟩ := eV _ h
  exact E3 hG hFT h1 (fun s1 hk => hg s1 (h3.trans hk)) (h2 _ _ _ _ _ hs) hq
 ·exact E3 hG hFT h hg hs hq
theorem R3 (hG : Good P C.G) (hFT : gv P FT) {K : SS → Option R} {r : R}
  (h : lS C FT true s o.dst o.op K = some r) (hg : guardOf ops (s.st C.N).env o = some true) : ∃ f' Φ, Sound P Φ ∧ rL P Φ ops o (s.st C.N) = some (f'.st C.N) ∧ K f' = some r := by
 have h : iP C FT true s o.dst o.op K = some r := h
 unfold iP at h
 split at h
 ·rename_i f args tys hop
  obtain ⟨f', Φ, hr, a3, a4, a5, a6⟩ := zY hFT h
  refine ⟨f', Φ, a3, ?_, a6⟩
  simp only [rL, hg, hop, a4, Option.map_some, a5]
 ·rename_i c x y hop
  split at h
  ·rename_i t ht
   have hev := qk ht
   simp only [br] at h
   have hx : rL P I3 ops o (s.st C.N) = some ⟨eW (s.st C.N).env o.dst (if t = true then ev (s.st C.N).env x else ev (s.st C.N).env y), (s.st C.N).objs⟩ :=
    Ny hg (by rw [hop]; rfl) (by rw [hop]; simp only [iU, hev, KV.av])
   split at h
   ·rename_i ht'
    rw [if_pos ht'] at hx
    exact ⟨_, I3, jQ, by rw [hx, dt, bz], h⟩
   ·rename_i ht'
    rw [if_neg ht'] at hx
    exact ⟨_, I3, jQ, by rw [hx, dt, bz], h⟩
  ·cases h
 ·rename_i hn1 hn2
  have hf : isFun o.op = false := by
   cases hop : o.op with
   | call c =>
    obtain ⟨callee, args, tys⟩ := c
    cases callee with
    | value x => cases x with
     | func f => exact absurd hop (hn1 _ _ _)
     | _ => rfl
    | _ => rfl
   | _ => rfl
  split at h
  ·rename_i c x hr
   obtain ⟨hc, hK⟩ := fI h
   exact ⟨_, I3, jQ, by rw [Ny hg hf (u2 hG hr hc), dt], hK⟩
  ·cases h
theorem tQ : ∀ (l : List Oper) (j : Nat), (l[j]?).bind (·.dst) = qQ l j
 | [], j => by simp [qQ]
 | o :: _, 0 => rfl
 | _ :: l, j + 1 => by simpa [qQ] using tQ l j
theorem Gh {N t : Nat} {x : SV} (h : s.get N t = x) (hx : x ≠ .any) : SS.st N ⟨(t, x) :: s.env, s.objs⟩ = s.st N ∧ cr s.env t = x ∧ t < N := by
 unfold SS.get at h
 split at h
 ·rename_i hlt
  refine ⟨?_, h, hlt⟩
  simp only [SS.st]
  congr 1
  apply List.map_congr_left
  intro i _
  by_cases e : t = i
  ·subst e; simp [cr, h]
  ·simp [cr, e]
 ·exact absurd h.symm hx
theorem lj {env : List AV} (h : o.guard = none) : guardOf ops env o = some true := by simp [guardOf, h]
theorem fy {j t : Nat} {want b : Bool} (h : o.guard = some (j, want)) (hd : qQ ops.toList j = some t) (ht : t < C.N) (hl : cr s.env t = SV.bool b) :
  guardOf ops (s.st C.N).env o = some (b == want) := by
 have e : (ops[j]?).bind (·.dst) = some t := by
  rw [← hd, ← tQ]
  simp
 have e2 : (s.st C.N).env.getD t .any = .bool b := by
  rw [vt]; simp [SS.get, ht, hl]; rfl
 simp only [guardOf, h, e, e2]
theorem wj {j t : Nat} {want : Bool} (h : o.guard = some (j, want)) (hd : qQ ops.toList j = some t) (hl : s.get C.N t = .v (.c .gO)) :
  guardOf ops (s.st C.N).env o = some false := by
 have e : (ops[j]?).bind (·.dst) = some t := by
  rw [← hd, ← tQ]
  simp
 have e2 : (s.st C.N).env.getD t .any = .gO := by
  rw [vt, hl]; rfl
 simp only [guardOf, h, e, e2]
theorem Kh {s : St} (h : guardOf ops s.env o = some false) : HL P I3 ops o s = some ⟨eW s.env o.dst .gO, s.objs⟩ := by simp only [HL, h]
theorem Jd {s : St} (h : guardOf ops s.env o = some false) : rL P I3 ops o s = some ⟨eW s.env o.dst .gO, s.objs⟩ := by simp only [rL, h]
theorem Jq {q : Bool} {l : List Oper} {K : SS → Option R} {r : R} (h : AB C FT q ops.toList (o :: l) s K = some r) :
  ∃ s', s'.st C.N = s.st C.N ∧ ((lS C FT q s' o.dst o.op (fun s => AB C FT q ops.toList l s K) = some r ∧ ∀ s1, dr s' s1 → guardOf ops (s1.st C.N).env o = some true) ∨
   (AB C FT q ops.toList l (s'.put o.dst .gO) K = some r ∧ guardOf ops (s.st C.N).env o = some false)) := by
 unfold AB at h
 split at h
 ·rename_i hgd
  exact ⟨s, rfl, .inl ⟨h, fun s1 _ => lj hgd⟩⟩
 ·rename_i j want hgd
  split at h
  ·cases h
  ·rename_i t ht
   split at h
   ·rename_i b hb
    obtain ⟨e1, e2, e3⟩ := Gh (x := .v (.c (.k (.bool b)))) hb (by simp [SV.any])
    have hl1 : ∀ c, cr (((t, SV.bool c) :: s.env) : List (Nat × SV)) t = SV.bool c := fun c => by simp [cr]
    simp only [br] at h
    split at h
    ·rename_i hbt
     subst hbt
     split at h
     ·refine ⟨_, e1, .inl ⟨h, fun s1 hk => ?_⟩⟩
      exact fy hgd ht e3 (hk t true (hl1 true))
     ·refine ⟨_, e1, .inr ⟨h, ?_⟩⟩
      exact fy hgd ht e3 e2
    ·rename_i hbt
     have hbt : b = false := by simpa using hbt
     subst hbt
     split at h
     ·refine ⟨_, e1, .inl ⟨h, fun s1 hk => ?_⟩⟩
      exact fy hgd ht e3 (hk t false (hl1 false))
     ·refine ⟨_, e1, .inr ⟨h, ?_⟩⟩
      exact fy hgd ht e3 e2
   ·rename_i hb
    exact ⟨s, rfl, .inr ⟨h, wj hgd ht hb⟩⟩
   ·cases h
theorem AE (hG : Good P C.G) (hFT : gv P FT) {K : SS → Option R} {r : R} :
  ∀ (l : List Oper) {s : SS}, AB C FT true ops.toList l s K = some r → ∃ s', oc P ops l (s.st C.N) (s'.st C.N) ∧ K s' = some r
 | [], s, h => ⟨s, rfl, h⟩
 | o :: l, s, h => by
  obtain ⟨s', e, h⟩ := Jq h
  rcases h with ⟨h, hg⟩ | ⟨h, hg⟩
  ·obtain ⟨f', Φ, h1, h2, h3⟩ := R3 (ops := ops) hG hFT h (hg s' (.bh _))
   obtain ⟨s2, h4, h5⟩ := AE hG hFT l h3
   exact ⟨s2, ⟨_, Φ, h1, by rw [← e]; exact h2, h4⟩, h5⟩
  ·rw [← e] at hg
   obtain ⟨s2, h4, h5⟩ := AE hG hFT l h
   refine ⟨s2, ⟨_, I3, jQ, by rw [← e]; exact Jd hg, ?_⟩, h5⟩
   rw [dt] at h4; exact h4
def oy (P : Program) (M : qe) : Prop := ∀ t name f r, VB M t name = some (f, r) → match r with
 | none => ∀ b w, (method (P.types.size + Made.depth) t (.pointer (some ⟨b, 0, none⟩)) name).run P w = .ok (f, .pointer (some ⟨b, 0, none⟩)) w
 | some D => ∃ e, cJ P e = some D ∧ ∀ b w v, (loadVar e ⟨b, 0, none⟩).run P w = .ok v w → (method (P.types.size + Made.depth) t (.pointer (some ⟨b, 0, none⟩)) name).run P w = .ok (f, v) w
def ep (w : World) (D : Names) (O : ah) (xs : List SV) (vs : List Value) : Prop := vs.length = xs.length ∧ ∀ (i : Nat) (x : SV), xs[i]? = some x → Slot w D (x.av O) (vs.getD i undef)
def PV {R : Type} (P : Program) (pins : List Nat) (J : JT R) : Prop :=
 ∀ (C : eN) (f : FuncId) (xs : List SV) (gap : Nat) (ht : HT) (s : SS) (K : SV → SS → Option R) (r : R), Good P C.G → oy P C.M → J C f xs gap ht s K = some r →
  au P f = true ∧ ∀ (w0 : World) (M0 : Nat → Prop) (D0 D : Names) (a : Act) (w : World) (vs : List Value), ja pins D0 → Mem w0 M0 (s.st C.N).objs D w → ax w D (s.st C.N).env a.tmps → qf D0 D (s.st C.N).objs → ep w D s.objs xs vs →
   Calls P f vs.toArray w fun e w' => ∃ v x s' D', e = .returned v ∧ K x s' = some r ∧ Mem w0 M0 (s'.st C.N).objs D' w' ∧ ax w' D' (s'.st C.N).env a.tmps ∧ qf D0 D' (s'.st C.N).objs ∧ Slot w' D' (x.av s'.objs) v
theorem Hr {a : Act} (hg : cO w D.M) (he : ax w D (s.st C.N).env a.tmps) (xs : List Operand) : ep w D s.objs (xs.map (aq C s)) (xs.map a.eval) := by
 refine ⟨by simp, fun i x hx => ?_⟩
 rw [List.getElem?_map] at hx
 obtain ⟨o, ho, rfl⟩ := Option.map_eq_some_iff.1 hx
 have e : (xs.map a.eval).getD i undef = a.eval o := by simp [List.getD, List.getElem?_map, ho]
 rw [e, bz]
 exact aj hg he o
theorem ep.append {O : ah} {xs ys : List SV} {us vs : List Value} (h : ep w D O xs us) (k : ep w D O ys vs) : ep w D O (xs ++ ys) (us ++ vs) := by
 refine ⟨by simp [h.1, k.1], fun i x hx => ?_⟩
 rw [List.getElem?_append] at hx
 split at hx
 ·rename_i hi
  have := h.2 i x hx
  have hi' : i < us.length := by rw [h.1]; exact hi
  simpa [List.getD, List.getElem?_append, hi'] using this
 ·rename_i hi
  have := k.2 _ x hx
  have hi' : ¬ i < us.length := by rw [h.1]; exact hi
  rw [← h.1] at this
  simpa [List.getD, List.getElem?_append, hi'] using this
theorem ep.cons {O : ah} {x : SV} {ys : List SV} {u : Value} {vs : List Value} (h : Slot w D (x.av O) u) (k : ep w D O ys vs) : ep w D O (x :: ys) (u :: vs) :=
 ep.append (xs := [x]) (us := [u]) ⟨rfl, fun i y hy => by
  cases i with
  | zero => simp only [List.getElem?_cons_zero, Option.some.injEq] at hy; subst hy; exact h
  | succ i => simp at hy⟩ k
theorem wO {O : ah} : ∀ {ns : List (Nat × Nat)} {bs : List Nat}, bs.length = ns.length → (∀ (i : Nat) (n b : Nat), (ns.map (·.1))[i]? = some n → bs[i]? = some b → D n = some (some b)) →
  ep w D O (KI ns) (bs.map fun b => Value.pointer (some ⟨b, 0, none⟩))
 | [], [], _, _ => ⟨rfl, fun i x hx => by simp [KI] at hx⟩
 | (n, sz) :: ns, b :: bs, hl, h => by
  refine ep.cons ?_ (wO (by simpa using hl) fun i m c hm hc => h (i + 1) m c (by simpa using hm) (by simpa using hc))
  simp only [SV.av, VV.av, CV.av, Slot, cM, Cell]
  exact ⟨b, h 0 n b rfl rfl, by simp⟩
 | [], _ :: _, hl, _ => by simp at hl
 | _ :: _, [], hl, _ => by simp at hl
theorem lJ {f : FuncId} (hf : au P f = true) (vs : Array Value) (w : World) : (callFunc f vs).run P w = .ok (.enter f vs) w := by
 unfold au at hf
 split at hf
 ·rename_i fn hfn
  simp only [Bool.and_eq_true, Bool.not_eq_true'] at hf
  have hb : fn.body.isNone = false := by cases hh : fn.body <;> simp [hh] at hf ⊢
  simp only [callFunc, Sem.run_bind, run_program, Result.andThen_ok, hfn, hf.1, hb, Bool.false_eq_true, if_false]
  simp
 ·cases hf
theorem uZ (hM : oy P C.M) {c : Call} {ty : TypeId} {f : FuncId} {xs : List SV} (h : mC C s c = some (f, xs)) (hf : au P f = true) {w0 w : World} {M0 : Nat → Prop} {a : Act}
  (hm : Mem w0 M0 (s.st C.N).objs D w) (he : ax w D (s.st C.N).env a.tmps) : ∃ vs, ep w D s.objs xs vs ∧ (do let d ← resolve a.eval c ty; invoke d.target d.args : Sem Next).run P w = .ok (.enter f vs.toArray) w := by
 obtain ⟨callee, args, tys⟩ := c
 have hargs := Hr hm.bq he args.toList
 have earr : (args.toList.map a.eval).toArray = args.map a.eval := by apply Array.ext'; simp
 cases callee with
 | builtin b => simp [mC] at h
 | value x =>
  have hx := aj hm.bq he x
  rw [← bz] at hx
  simp only [mC] at h
  split at h
  ·rename_i g e
   simp only [Option.some.injEq, Prod.mk.injEq] at h; obtain ⟨rfl, rfl⟩ := h
   rw [e] at hx
   simp only [SV.av, VV.av, CV.av, KC.val, Slot, cM, Cell] at hx
   have hv : a.eval x = .func (.func g) #[] #[] := by
    generalize a.eval x = y at hx
    cases hx; rfl
   refine ⟨_, hargs, ?_⟩
   rw [earr]
   simp only [resolve, hv, Deferred.ofValue, Sem.run_bind, Sem.run_pure, Result.andThen_ok, invoke]
   simpa using lJ hf (args.map a.eval) w
  ·rename_i g t ns e
   simp only [Option.some.injEq, Prod.mk.injEq] at h; obtain ⟨rfl, rfl⟩ := h
   rw [e] at hx
   simp only [SV.av, VV.av, CV.av, Slot, cM, Cell, Option.map_some] at hx
   obtain ⟨bs, g1, g2, hv⟩ := hx
   refine ⟨_, hargs.append (wO (by simpa using g1) g2), ?_⟩
   simp only [resolve, hv, Deferred.ofValue, Sem.run_bind, Sem.run_pure, Result.andThen_ok, invoke]
   have : (args.toList.map a.eval ++ bs.map fun b => Value.pointer (some ⟨b, 0, none⟩)).toArray = #[] ++ args.map a.eval ++ (bs.map fun b => Value.pointer (some ⟨b, 0, none⟩)).toArray := by
    apply Array.ext'; simp
   rw [this]
   exact lJ hf _ w
  ·cases h
 | invoke x name =>
  have hx := aj hm.bq he x
  rw [← bz] at hx
  simp only [mC] at h
  split at h
  case h_2 => cases h
  rename_i t n sz e
  rw [e] at hx
  simp only [SV.av, VV.av, CV.av, Slot, cM, Cell, Option.map_none, List.map_cons, List.map_nil] at hx
  obtain ⟨bs, g1, g2, hv⟩ := hx
  match bs, g1 with
  | [b], _ =>
   have hD := g2 0 n b rfl rfl
   simp only [List.headD_cons] at hv
   have run : ∀ v, (method (P.types.size + Made.depth) t (.pointer (some ⟨b, 0, none⟩)) name).run P w = .ok (f, v) w →
     (do let d ← resolve a.eval ⟨.invoke x name, args, tys⟩ ty; invoke d.target d.args : Sem Next).run P w = .ok (.enter f (v :: args.toList.map a.eval).toArray) w := by
    intro v hr
    have e2 : (#[Value.iface t (.pointer (some ⟨b, 0, none⟩))] ++ args.map a.eval).extract 1 (#[Value.iface t (.pointer (some ⟨b, 0, none⟩))] ++ args.map a.eval).size = args.map a.eval := by
     apply Array.ext'
     simp
     exact List.take_of_length_le (by simp)
    have e0 : (#[Value.iface t (.pointer (some ⟨b, 0, none⟩))] ++ args.map a.eval)[0]? = some (.iface t (.pointer (some ⟨b, 0, none⟩))) := by
     rw [Array.getElem?_append_left (by simp)]; rfl
    simp only [resolve, hv, Sem.run_bind, Sem.run_pure, Result.andThen_ok, invoke, e0, e2, callMethod, run_program, hr]
    have e3 : (v :: args.toList.map a.eval).toArray = #[v] ++ args.map a.eval := by apply Array.ext'; simp
    rw [e3]
    exact lJ hf _ w
   split at h
   ·rename_i g hg
    simp only [Option.some.injEq, Prod.mk.injEq] at h; obtain ⟨rfl, rfl⟩ := h
    refine ⟨_, ep.cons ?_ hargs, run _ (hM _ _ _ _ hg b w)⟩
    simp only [SV.av, VV.av, CV.av, Slot, cM, Cell]
    exact ⟨b, hD, by simp⟩
   ·rename_i g Dc hg
    split at h
    ·rename_i cs hcs
     split at h
     ·rename_i v hld
      simp only [Option.some.injEq, Prod.mk.injEq] at h; obtain ⟨rfl, rfl⟩ := h
      obtain ⟨e', hT, hrun⟩ := hM _ _ _ _ hg
      have h1 := qD hcs trivial
      obtain ⟨u, k1, k2⟩ := (xS hm h1 hD).load (P := P) hT (xz hld)
      have k3 := k2 w (Below.refl _ _)
      simp only [Nat.zero_mul, Nat.zero_add] at k3
      exact ⟨_, ep.cons k1 hargs, run u (hrun b w u k3)⟩
     ·cases h
    ·cases h
   ·cases h
section
variable {P : Program} {pins : List Nat} {R : Type} {J : JT R} {L : Hint}
theorem Ly (hG : Good P C.G) (hM : oy P C.M) (hFT : gv P FT) (hJ : PV P pins J) {K : SS → Option R} {r : R}
  (h : Hj J L C FT s o.dst o.op K = some r) (hg : ∀ s1, dr s s1 → guardOf ops (s1.st C.N).env o = some true) {w0 : World} {M0 : Nat → Prop} {D0 : Names} {a : Act} {w : World} (hp : ja pins D0) (hs : Sat w0 M0 D0 (s.st C.N) a w)
  {rest : List Oper} {Q : Exit → Act → World → Prop} (hq : ∀ s' a' w', K s' = some r → Sat w0 M0 D0 (s'.st C.N) a' w' → wpList P ops Q rest a' w') : wpList P ops Q (o :: rest) a w := by
 unfold Hj at h
 split at h
 ·rename_i c hop
  split at h
  ·rename_i gap ht hl
   split at h
   ·rename_i f xs hr
    obtain ⟨hf, hJ⟩ := hJ _ _ _ _ _ _ _ _ hG hM h
    obtain ⟨hd, D, hm, he, hpin⟩ := hs
    have hgd := dW he (hg s (.bh _))
    obtain ⟨vs, hvs, hrun⟩ := uZ (ty := o.type) hM hr hf hm he
    have hcall := hJ w0 M0 D0 D a w vs hp hm he hpin hvs
    refine wpList_step fun K' hK => ?_
    rw [if_pos hgd]
    unfold Oper.wp
    have hex : execOp a.eval o = (do let d ← resolve a.eval c o.type; invoke d.target d.args : Sem Next) := by
     simp only [execOp, hop]
    rw [hex, hrun, Oper.upon_enter]
    refine hcall.mono fun e w' hpost => ?_
    obtain ⟨v, x, s', D', rfl, k1, k2, k3, k4, k5⟩ := hpost
    refine hK _ _ (hq _ _ _ k1 ?_)
    rw [dt]
    exact ⟨by rw [put_defers]; exact hd, D', k2, k3.put _ k5, k4⟩
   ·cases h
  ·rename_i hop2
   exact DC hG hFT (by rw [hop]; exact h) hg hs hq
 ·split at h
  ·rename_i x s' hmp
   exact OJ hG hmp hg hs fun a' w' hs' => hq _ a' w' h hs'
  ·exact DC hG hFT h hg hs hq
theorem Hi {l : List Oper} {K : SS → Option R} {r : R} (h : mE J L C FT ops.toList (o :: l) s K = some r) :
  ∃ s', s'.st C.N = s.st C.N ∧ ((Hj J L C FT s' o.dst o.op (fun s => mE J L C FT ops.toList l s K) = some r ∧ ∀ s1, dr s' s1 → guardOf ops (s1.st C.N).env o = some true) ∨
   (mE J L C FT ops.toList l (s'.put o.dst .gO) K = some r ∧ guardOf ops (s.st C.N).env o = some false)) := by
 unfold mE at h
 split at h
 ·rename_i hgd
  exact ⟨s, rfl, .inl ⟨h, fun s1 _ => lj hgd⟩⟩
 ·rename_i j want hgd
  split at h
  ·cases h
  ·rename_i t ht
   split at h
   ·rename_i b hb
    obtain ⟨e1, e2, e3⟩ := Gh (x := .v (.c (.k (.bool b)))) hb (by simp [SV.any])
    have hl1 : ∀ c, cr (((t, SV.bool c) :: s.env) : List (Nat × SV)) t = SV.bool c := fun c => by simp [cr]
    simp only [br] at h
    split at h
    ·rename_i hbt
     subst hbt
     split at h
     ·refine ⟨_, e1, .inl ⟨h, fun s1 hk => ?_⟩⟩
      exact fy hgd ht e3 (hk t true (hl1 true))
     ·refine ⟨_, e1, .inr ⟨h, ?_⟩⟩
      exact fy hgd ht e3 e2
    ·rename_i hbt
     have hbt : b = false := by simpa using hbt
     subst hbt
     split at h
     ·refine ⟨_, e1, .inl ⟨h, fun s1 hk => ?_⟩⟩
      exact fy hgd ht e3 (hk t false (hl1 false))
     ·refine ⟨_, e1, .inr ⟨h, ?_⟩⟩
      exact fy hgd ht e3 e2
   ·rename_i hb
    exact ⟨s, rfl, .inr ⟨h, wj hgd ht hb⟩⟩
   ·cases h
theorem xT (hG : Good P C.G) (hM : oy P C.M) (hFT : gv P FT) (hJ : PV P pins J) {K : SS → Option R} {r : R} {w0 : World} {M0 : Nat → Prop} {D0 : Names} (hp : ja pins D0) {Q : Exit → Act → World → Prop} :
  ∀ (l : List Oper) {s : SS}, mE J L C FT ops.toList l s K = some r → ∀ {a w}, Sat w0 M0 D0 (s.st C.N) a w → (∀ s' a' w', K s' = some r → Sat w0 M0 D0 (s'.st C.N) a' w' → Q .normal a' w') → wpList P ops Q l a w
 | [], s, h, a, w, hs, hq => hq s a w h hs
 | o :: l, s, h, a, w, hs, hq => by
  obtain ⟨s', e, h⟩ := Hi h
  rw [← e] at hs
  rcases h with ⟨h, hg⟩ | ⟨h, hg⟩
  ·exact Ly hG hM hFT hJ h hg hp hs fun s2 a' w' h2 hs2 => xT hG hM hFT hJ hp l h2 hs2 hq
  ·rw [← e] at hg
   exact hZ jQ (Kh hg) hs fun a' w' hs' => xT hG hM hFT hJ hp l h (by rw [dt]; exact hs') hq
end
end Go.Abs
namespace Go.Abs
open Go.RowKit
section
variable {P : Program} {ops : Array Oper} {n : Nat} {listed : Array Bool}
theorem iO (inv : HeadInv .any ops n listed) : ∀ (d i j : Nat) (o : Oper), ops[i]? = some o → (∀ e ∈ o.after, Region.binds .any e = true → listed.getD e.on false = true) → reach ops d i j = true → listed.getD j false = true
 | 0, _, _, _, _, _, h => by simp [reach] at h
 | d + 1, i, j, o, ho, hall, h => by
  simp only [reach, ho, List.any_eq_true, Bool.and_eq_true, Bool.or_eq_true, beq_iff_eq] at h
  obtain ⟨e, he, hb, h⟩ := h
  have hl := hall e (by simpa using he) hb
  rcases h with rfl | h
  ·exact hl
  ·cases d with
   | zero => simp [reach] at h
   | succ d =>
    cases ho' : ops[e.on]? with
    | none => simp [reach, ho'] at h
    | some o' => exact iO inv (d + 1) e.on j o' ho' (inv.closed _ _ ho' hl) h
theorem count_eq {f g : Nat → Bool} : ∀ n : Nat, (∀ j, j < n → f j = g j) → (List.range n).countP f = (List.range n).countP g
 | 0, _ => rfl
 | n + 1, h => by
  rw [List.range_succ, List.countP_append, List.countP_append, count_eq n fun j hj => h j (by omega)]
  simp [h n (Nat.lt_succ_self n)]
theorem we {f g : Nat → Bool} {i : Nat} (hf : f i = true) (hg : g i = false) (h : ∀ j, j ≠ i → f j = g j) : ∀ n : Nat, i < n → (List.range n).countP f = (List.range n).countP g + 1
 | 0, hi => by omega
 | n + 1, hi => by
  rw [List.range_succ, List.countP_append, List.countP_append]
  by_cases hin : i = n
  ·subst hin
   rw [count_eq i fun j hj => h j (by omega)]
   simp [hf, hg]
  ·rw [we hf hg h n (by omega)]
   simp [h n (Ne.symm hin)]; omega
def left (n : Nat) (listed : Array Bool) : Nat := (List.range n).countP fun j => !(listed.getD j false)
def jV : Nat → Nat → Array Bool → Array Bool
 | 0, _, L => L
 | f + 1, k, L => jV f (k + 1) (L.setIfInBounds k true)
theorem ry : ∀ (f k : Nat) (L : Array Bool), (jV f k L).size = L.size
 | 0, _, _ => rfl
 | f + 1, k, L => by rw [jV, ry f]; simp
theorem u4 : ∀ (f k : Nat) (L : Array Bool) (j : Nat), j < L.size → (jV f k L).getD j false = if k ≤ j ∧ j < k + f then true else L.getD j false
 | 0, k, L, j, _ => by rw [jV, if_neg (by omega)]
 | f + 1, k, L, j, hj => by
  rw [jV, u4 f (k + 1) _ j (by simpa using hj)]
  by_cases h : j = k
  ·subst h
   rw [if_neg (by omega), if_pos (by omega)]
   simp [hj]
  ·rw [getD_set_ne false (Ne.symm h)]
   by_cases h2 : k ≤ j ∧ j < k + (f + 1)
   ·rw [if_pos h2, if_pos (by omega)]
   ·rw [if_neg h2, if_neg (by omega)]
theorem q7 {g : Nat} : ∀ (f k : Nat) (L : Array Bool), Region.lexHead .any ops g f k L = true → Region.seqB .any ops g (k + f) (jV f k L) = true
 | 0, _, _, h => h
 | f + 1, k, L, h => by
  simp only [Region.lexHead, Bool.and_eq_true] at h
  have := q7 f (k + 1) _ h.2
  rw [show k + (f + 1) = k + 1 + f by omega]
  exact this
end
end Go.Abs
namespace Go.Abs
open Go.RowKit
variable {O1 O : ah} {x : SV} {C : eN}
def Up (O O1 : ah) : Prop := ∀ n o, ad n O = some o → ad n O1 = some o
def Gq (N : Nat → Prop) (κ : CV → CV) (O O1 : ah) : Prop := ∀ n o, N n → ad n O = some o → ad n O1 = some (gT κ o)
def Kq (N : Nat → Prop) (c : CV) : Prop := ∀ d, ¬ N d → de d c = true
def oz (N : Nat → Prop) (x : SV) : Prop := ∀ d, ¬ N d → eP d x = true
theorem Kq.own {N : Nat → Prop} {n : Nat} (h : Kq N (.own n)) : N n := Classical.byContradiction fun hn => by have := h n hn; simp [de] at this
theorem Kq.cw {N : Nat → Prop} {n a b c : Nat} (h : Kq N (.cw n a b c)) : N n := Classical.byContradiction fun hn => by have := h n hn; simp [de] at this
theorem Kq.ref {N : Nat → Prop} {n a b c : Nat} (h : Kq N (.ref n a b c)) : N n := Classical.byContradiction fun hn => by have := h n hn; simp [de] at this
theorem oz.c {N : Nat → Prop} {c : CV} (h : oz N (.v (.c c))) : Kq N c := h
theorem Gq.arr {N : Nat → Prop} {κ : CV → CV} (h : Gq N κ O O1) {n : Nat} {ts : cf} {l : List ts.T} (hn : N n) (hl : ad n O = some (.arr ts l)) : ad n O1 = some (.arr ts l) := h n _ hn hl
theorem Up.k (h : Up O O1) : Gq (fun _ => True) (fun c => c) O O1 := fun n o _ hl => by
 rw [h n o hl]
 cases o with
 | box cs => simp [gT]
 | arr ts l => rfl
 | mp _ _ _ => rfl
theorem oz.tr (x : SV) : oz (fun _ => True) x := fun _ h => absurd trivial h
section
variable {N : Nat → Prop} {κ : CV → CV} {O O1 : ah}
theorem E5 (h : Gq N κ O O1) {ts : cf} (hx' : oz N x) {y : List Bool × List ts.T} (hx : mF O ts x = some y) : mF O1 ts x = some y := by
 unfold mF at hx ⊢
 split at hx
 ·exact hx
 ·exact hx
 ·rename_i n
  split at hx
  ·rename_i us l hl; rw [h.arr hx'.c.own hl]; exact hx
  ·cases hx
 ·rename_i n _ _ _
  split at hx
  ·rename_i us l hl; rw [h.arr hx'.c.cw hl]; exact hx
  ·cases hx
 ·cases hx
theorem Ph (h : Gq N κ O O1) {D : Option TD} (hx' : oz N x) {y : Int} (hx : DN O D x = some y) : DN O1 D x = some y := by
 unfold DN at hx ⊢
 split at hx
 ·exact hx
 ·exact hx
 ·exact hx
 ·rename_i n
  split at hx
  ·rename_i us l hl; rw [h.arr hx'.c.own hl]; exact hx
  ·cases hx
 ·exact hx
 ·cases hx
theorem Jp (h : Gq N κ O O1) (hκ : ∀ v, κ (.k v) = .k v) {n sz i off : Nat} (hn : N n) {c : List Bool} {cs : List CV} (hx : mD O n sz i off = some (c, cs)) : mD O1 n sz i off = some (c, cs.map κ) := by
 unfold mD at hx ⊢
 split at hx
 ·rename_i cs0 hl
  rw [h n _ hn hl]
  simp only [gT]
  split at hx
  ·simp only [Option.some.injEq, Prod.mk.injEq] at hx
   obtain ⟨rfl, rfl⟩ := hx
   simp [List.map_drop]
  ·cases hx
 ·rename_i ts l hl
  rw [h.arr hn hl]
  simp only
  split at hx
  ·rename_i hs; rw [if_pos hs]
   simp only [Option.some.injEq, Prod.mk.injEq] at hx ⊢
   obtain ⟨rfl, rfl⟩ := hx
   refine ⟨rfl, ?_⟩
   rw [List.map_drop, List.map_map]
   congr 1
   exact List.map_congr_left fun v _ => (hκ v).symm
  ·cases hx
 ·cases hx
theorem Ha (h : Gq N κ O O1) {x : CV} (hx' : Kq N x) (hx : ib O x = true) : ib O1 x = true := by
 unfold ib at hx ⊢
 split at hx
 all_goals first | rfl | skip
 ·rename_i n
  split at hx
  ·rename_i us l hl; rw [h.arr hx'.own hl]
  ·cases hx
 ·cases hx
theorem HY (h : Gq N κ O O1) (hx' : oz N x) {y : List CV} (hx : fk O x = some y) : fk O1 x = some y := by
 unfold fk at hx ⊢
 split at hx
 ·exact hx
 ·split at hx
  ·rename_i hp; rw [if_pos (Ha h hx'.c hp)]; exact hx
  ·cases hx
 ·cases hx
theorem E0 (h : Gq N κ O O1) {pl : List (Nat × Bool × Nat)} : ∀ {parts : List (Nat × SV)} {cells y : List CV}, (∀ p ∈ parts, oz N p.2) → o8 O pl cells parts = some y → o8 O1 pl cells parts = some y
 | [], _, _, _, hx => hx
 | (i, x) :: rest, cells, y, hp, hx => by
  unfold o8 at hx ⊢
  split at hx
  ·rename_i off g n cs h1 h2
   rw [h1, HY h (hp (i, x) (List.mem_cons_self ..)) h2]
   dsimp only
   split at hx
   ·rename_i hc; rw [if_pos hc]; exact E0 h (fun p hp' => hp p (List.mem_cons_of_mem _ hp')) hx
   ·cases hx
  ·cases hx
end
theorem Js (h : Up O O1) {ts : cf} {y : List Bool × List ts.T} (hx : mF O ts x = some y) : mF O1 ts x = some y := by
 unfold mF at hx ⊢
 split at hx
 ·exact hx
 ·exact hx
 ·rename_i n
  cases hl : ad n O with
  | none => simp [hl] at hx
  | some o => rw [hl] at hx; rw [h _ _ hl]; exact hx
 ·rename_i n _ _ _
  cases hl : ad n O with
  | none => simp [hl] at hx
  | some o => rw [hl] at hx; rw [h _ _ hl]; exact hx
 ·cases hx
theorem Dt (h : Up O O1) {x : CV} (hx : ib O x = true) : ib O1 x = true := by
 unfold ib at hx ⊢
 split at hx
 all_goals first | rfl | skip
 ·rename_i n
  cases hl : ad n O with
  | none => simp [hl] at hx
  | some o => rw [hl] at hx; rw [h _ _ hl]; exact hx
 ·cases hx
theorem mU (h : Up O O1) {y : List CV} (hx : fk O x = some y) : fk O1 x = some y := by
 unfold fk at hx ⊢
 split at hx
 ·exact hx
 ·split at hx
  ·rename_i hp; rw [if_pos (Dt h hp)]; exact hx
  ·cases hx
 ·cases hx
theorem toT_up (h : Up O O1) {t : Ty} {x : CV} {y : t.T} (hx : toT O t x = some y) : toT O1 t x = some y := by
 unfold toT at hx ⊢
 split at hx
 ·exact hx
 ·exact hx
 ·rename_i ts n
  cases hl : ad n O with
  | none => simp [hl] at hx
  | some o => rw [hl] at hx; rw [h _ _ hl]; exact hx
 ·cases hx
theorem toTs_up (h : Up O O1) : ∀ {ts : cf} {l : List CV} {y : ts.T}, toTs O ts l = some y → toTs O1 ts l = some y
 | .nil, [], _, hx => hx
 | .nil, _ :: _, _, hx => by simp [toTs] at hx
 | .cons _ _, [], _, hx => by simp [toTs] at hx
 | .cons t ts, c :: l, y, hx => by
  simp only [toTs] at hx ⊢
  split at hx
  ·rename_i a b h1 h2
   rw [toT_up h h1, toTs_up h h2]; exact hx
  ·cases hx
theorem toCT_up (h : Up O O1) {c : CT} {y : c.T} (hx : toCT O c x = some y) : toCT O1 c x = some y := by
 unfold toCT at hx ⊢
 split at hx
 ·exact toT_up h hx
 ·exact toTs_up h hx
 ·cases hx
theorem toAT_up (h : Up O O1) {c : AT} {y : c.T} (hx : toAT O c x = some y) : toAT O1 c x = some y := by
 unfold toAT at hx ⊢
 split at hx
 ·exact toCT_up h hx
 ·rename_i n sz
  split at hx
  ·rename_i hs; rw [if_pos hs]
   cases hl : ad n O with
   | none => simp [hl] at hx
   | some o => rw [hl] at hx; rw [h _ _ hl]; exact hx
  ·cases hx
 ·cases hx
theorem toArgs_up (h : Up O O1) : ∀ {l : List AT} {xs : List SV} {y : eF l}, toArgs O l xs = some y → toArgs O1 l xs = some y
 | [], [], _, hx => hx
 | a :: l, x :: xs, y, hx => by
  unfold toArgs at hx ⊢
  split at hx
  ·rename_i p q h1 h2
   rw [toAT_up h h1, toArgs_up h h2]; exact hx
  ·cases hx
 | [], _ :: _, _, hx => by cases hx
 | _ :: _, [], _, hx => by cases hx
theorem toRows_up (h : Up O O1) {ts : cf} : ∀ {xs : List SV} {y : List ts.T}, toRows O ts xs = some y → toRows O1 ts xs = some y
 | [], _, hx => hx
 | x :: r, y, hx => by
  unfold toRows at hx ⊢
  split at hx
  ·rename_i cs h1
   rw [mU h h1]
   dsimp only
   split at hx
   ·rename_i a b h2 h3
    rw [h2, toRows_up h h3]; exact hx
   ·cases hx
  ·cases hx
theorem lK {s s1 : SS} {d : Int} {o : Option Operand} (hs : ∀ x, o = some x → aq C s1 x = aq C s x) : gM C s1 d o = gM C s d o := by
 cases o with
 | none => rfl
 | some o => simp only [gM, hs o rfl]
theorem PI {N : Nat → Prop} {κ : CV → CV} {s s1 : SS} (h : Gq N κ s.objs s1.objs) {T : TypeId} (hx' : oz N x) {lo hi : Option Operand} (hl : ∀ x, lo = some x → aq C s1 x = aq C s x) (hh : ∀ x, hi = some x → aq C s1 x = aq C s x) {y : List Bool × CV}
  (hx : DV C s T x lo hi = some y) : DV C s1 T x lo hi = some y := by
 unfold DV at hx ⊢
 simp only [lK hl, lK hh]
 split at hx
 ·exact hx
 ·exact hx
 ·exact hx
 ·rename_i n
  split at hx
  ·rename_i us l hl; rw [h.arr hx'.c.own hl]; exact hx
  ·cases hx
 ·exact hx
 ·rename_i n sz
  split at hx
  ·rename_i e1 e2
   rw [h.arr hx'.c.ref e1]
   first | exact hx | (rw [e2]; exact hx)
  ·rename_i e1 e2 e3
   rw [h.arr hx'.c.ref e1]
   first | exact hx | (rw [e2]; exact hx) | (simp only [e2, lK hl, lK hh]; exact hx)
  ·cases hx
 ·cases hx
theorem M4 {N : Nat → Prop} {κ : CV → CV} {s s1 : SS} (h : Gq N κ s.objs s1.objs) {T : TypeId} (hx' : oz N x) {lo : Option Operand} {hi mx : Operand} (hl : ∀ x, lo = some x → aq C s1 x = aq C s x) (hh : aq C s1 hi = aq C s hi) (hm : aq C s1 mx = aq C s mx) {y : List Bool × CV}
  (hx : vr C s T x lo hi mx = some y) : vr C s1 T x lo hi mx = some y := by
 unfold vr at hx ⊢
 have e1 : ∀ d, gM C s1 d (some hi) = gM C s d (some hi) := fun d => lK fun x e => by cases e; exact hh
 have e2 : ∀ d, gM C s1 d (some mx) = gM C s d (some mx) := fun d => lK fun x e => by cases e; exact hm
 simp only [lK hl, e1, e2]
 split at hx
 ·rename_i n
  split at hx
  ·rename_i us l hl; rw [h.arr hx'.c.own hl]; exact hx
  ·cases hx
 ·exact hx
 ·cases hx
theorem m7 {α β : Type} {x x1 : Option α} {f : α → β} {y : β} (h : ∀ a, x = some a → x1 = some a) (hx : x.map f = some y) : x1.map f = some y := by
 obtain ⟨a, ha, rfl⟩ := Option.map_eq_some_iff.1 hx
 rw [h a ha]; rfl
theorem oV {s s1 : SS} {l : List Operand} (hs : ∀ o ∈ l, aq C s1 o = aq C s o) : l.map (aq C s1) = l.map (aq C s) := List.map_congr_left hs
set_option maxHeartbeats 1000000 in
theorem R4 {N : Nat → Prop} {κ : CV → CV} {C : eN} {s s1 : SS} (h : Gq N κ s.objs s1.objs) (hκ : ∀ v, κ (.k v) = .k v) {op : Op} (hs : ∀ o ∈ op.operands.toList, aq C s1 o = aq C s o) (hN : ∀ o ∈ op.operands.toList, oz N (aq C s o)) {y : List Bool × SV} (hy : dk κ y.2 = y.2)
  (hr : sR C s op = some y) : sR C s1 op = some y := by
 cases op with
 | move x => simp only [Op.operands, List.mem_singleton, forall_eq] at hs; simp only [sR, hs] at hr ⊢; exact hr
 | assign x => simp only [Op.operands, List.mem_singleton, forall_eq] at hs; simp only [sR, hs] at hr ⊢; exact hr
 | fieldAddr T x k => simp only [Op.operands, List.mem_singleton, forall_eq] at hs; simp only [sR, hs] at hr ⊢; exact hr
 | field T x k => simp only [Op.operands, List.mem_singleton, forall_eq] at hs; simp only [sR, hs] at hr ⊢; exact hr
 | indexAddr T x i =>
  have h1 := hs x (by simp [Op.operands])
  have h2 := hs i (by simp [Op.operands])
  simp only [sR, h1, h2] at hr ⊢
  split at hr
  ·rename_i n us l ts b e1 e2 e3
   exact hr
  ·rename_i n m ts b e1 e2 e3
   have hm : N m := by
    have := hN x (by simp [Op.operands])
    rw [qi e2] at this
    exact this.c.own
   split at hr
   ·rename_i us l hl; rw [h.arr hm hl]; exact hr
   ·cases hr
  ·rename_i n m sz off len ts b e1 e2 e3
   exact hr
  ·rename_i n m sz len ts e1 e2 e3
   exact hr
  ·exact hr
  ·cases hr
 | index T x i =>
  have h1 := hs x (by simp [Op.operands])
  have h2 := hs i (by simp [Op.operands])
  simp only [sR, h1, h2] at hr ⊢; exact hr
 | load T x =>
  have h1 := hs x (by simp [Op.operands])
  simp only [sR, h1] at hr ⊢
  split at hr
  ·rename_i cs D e1 e2
   exact hr
  ·rename_i n sz i off D e1 e2
   have hm : N n := by
    have := hN x (by simp [Op.operands])
    rw [qi e1] at this
    exact this.c.ref
   split at hr
   ·rename_i c cs e3
    rw [Jp h hκ hm e3]
    simp only
    obtain ⟨v, hv, rfl⟩ := Option.map_eq_some_iff.1 hr
    have hy : eG κ v = v := by simpa [dk] using hy
    have : Ku D.cell (cs.map κ) = some v := by
     rw [← hy]
     unfold Ku at hv ⊢
     split at hv
     ·rename_i hc
      rw [if_pos hc]
      split at hv
      ·rename_i hl
       cases hv
       rw [if_pos (by simpa using hl)]
       simp [eG, List.map_take]
      ·cases hv
     ·rename_i hc
      rw [if_neg hc]
      cases cs with
      | nil => simp at hv
      | cons c0 cs => simp only [List.head?_cons, Option.map_some, Option.some.injEq] at hv; subst hv; rfl
    rw [this]; rfl
   ·cases hr
  ·cases hr
 | nilCheck x => simp only [Op.operands, List.mem_singleton, forall_eq] at hs; simp only [sR, hs] at hr ⊢; exact hr
 | binOp op T x y U =>
  have h1 := hs x (by simp [Op.operands])
  have h2 := hs y (by simp [Op.operands])
  simp only [sR, h1, h2] at hr ⊢; exact hr
 | unOp op T x => simp only [Op.operands, List.mem_singleton, forall_eq] at hs; simp only [sR, hs] at hr ⊢; exact hr
 | convert S T x =>
  have h1 := hs x (by simp [Op.operands])
  simp only [sR, h1] at hr ⊢
  split at hr
  ·rename_i n D k e1 e2 e3
   exact hr
  ·rename_i b D e1 e2 e3
   exact hr
  ·split at hr
   ·rename_i hb
    first
     | (rw [if_pos hb]; exact m7 (fun a ha => E5 h (hN x (by simp [Op.operands])) ha) hr)
     | exact m7 (fun a ha => E5 h (hN _ (by simp [Op.operands])) ha) hr
   ·cases hr
  ·cases hr
 | slice T x lo hi mx =>
  have h1 := hs x (by simp [Op.operands])
  have h2 : ∀ x, lo = some x → aq C s1 x = aq C s x := fun x e => hs x (by simp [Op.operands, e])
  have h3 : ∀ x, hi = some x → aq C s1 x = aq C s x := fun x e => hs x (by simp [Op.operands, e])
  have h4 : ∀ x, mx = some x → aq C s1 x = aq C s x := fun x e => hs x (by simp [Op.operands, e])
  cases mx with
  | none =>
   simp only [sR, h1] at hr ⊢
   exact m7 (fun a ha => PI h (hN x (by simp [Op.operands])) h2 h3 ha) hr
  | some m => cases hi with
   | none => simp [sR] at hr
   | some hi =>
    simp only [sR, h1] at hr ⊢
    exact m7 (fun a ha => M4 h (hN x (by simp [Op.operands])) h2 (h3 _ rfl) (h4 _ rfl) ha) hr
 | extract t i => simp only [Op.operands, List.mem_singleton, forall_eq] at hs; simp only [sR, hs] at hr ⊢; exact hr
 | build T parts =>
  have h1 : (parts.toList.map fun p => (p.1, aq C s1 p.2)) = parts.toList.map fun p => (p.1, aq C s p.2) := List.map_congr_left fun p hp => by
   rw [hs p.2 (by simp only [Op.operands, List.mem_map]; exact ⟨p, hp, rfl⟩)]
  simp only [sR, h1] at hr ⊢
  split at hr
  ·rename_i ts fs b e1
   exact m7 (fun a ha => E0 h (fun p hp => by obtain ⟨q, hq, rfl⟩ := List.mem_map.1 hp; exact hN q.2 (by simp only [Op.operands, List.mem_map]; exact ⟨q, hq, rfl⟩)) ha) hr
  ·cases hr
 | makeFunc f first captured =>
  have h1 : captured.toList.map (aq C s1) = captured.toList.map (aq C s) := oV fun o ho => hs o (by simp only [Op.operands, Array.toList_append, List.mem_append]; exact .inr ho)
  cases f with
  | func f => simp only [sR, h1] at hr ⊢; exact hr
  | _ => simp [sR] at hr
 | makeInterface T x => simp only [Op.operands, List.mem_singleton, forall_eq] at hs; simp only [sR, hs] at hr ⊢; exact hr
 | typeAssert x S T ok => simp only [Op.operands, List.mem_singleton, forall_eq] at hs; simp only [sR, hs] at hr ⊢; exact hr
 | call c =>
  obtain ⟨cal, args, argTypes⟩ := c
  cases cal with
  | builtin b =>
   have h1 : ∀ o ∈ args.toList, aq C s1 o = aq C s o := fun o ho => hs o (by simpa [Op.operands, Call.operands] using ho)
   cases b with
   | len =>
    simp only [sR] at hr ⊢
    split at hr
    ·rename_i x T e1 e2
     rw [e1] at h1
     simp only [List.mem_singleton, forall_eq] at h1
     simp only [h1]
     exact m7 (fun a ha => Ph h (hN x (by simp [Op.operands, Call.operands, e1])) ha) hr
    ·cases hr
   | cap =>
    simp only [sR] at hr ⊢
    split at hr
    ·rename_i x T e1 e2
     rw [e1] at h1
     simp only [List.mem_singleton, forall_eq] at h1
     simp only [h1]
     exact hr
    ·cases hr
   | min => simp only [sR, oV h1] at hr ⊢; exact hr
   | max => simp only [sR, oV h1] at hr ⊢; exact hr
   | _ => simp [sR] at hr
  | _ => simp [sR] at hr
 | _ => simp [sR] at hr
theorem zG (x : VV) : eG (fun c => c) x = x := by cases x <;> simp [eG]
theorem IN (x : SV) : dk (fun c => c) x = x := by
 cases x with
 | v x => simp only [dk, zG]
 | cI l => simp only [dk]; congr 1; exact (List.map_congr_left fun c _ => zG c).trans (List.map_id' l)
theorem AH {s s1 : SS} (h : Up s.objs s1.objs) {op : Op} (hs : ∀ o ∈ op.operands.toList, aq C s1 o = aq C s o) {y : List Bool × SV} (hr : sR C s op = some y) : sR C s1 op = some y :=
 R4 h.k (fun _ => rfl) hs (fun _ _ => oz.tr _) (IN _) hr
end Go.Abs
namespace Go.Abs
open Go.RowKit
variable {m : Nat} {xs : List Operand} {C : eN} {dst : Option Tmp} {s' : SS}
structure Ext (kE kO : Nat → Bool) (x : Option SV) (ob : Option SO) (s s1 : SS) : Prop where
 env : ∀ t, kE t = false → cr s1.env t = cr s.env t
 at_ : ∀ t y, kE t = true → x = some y → cr s1.env t = y
 obj : ∀ n, ad n s1.objs = if kO n = true then ob else ad n s.objs
 no : ∀ n, kO n = true → ad n s.objs = none
structure BT (m : Nat) (κ : CV → CV) : Prop where
 fix : ∀ c, de m c = true → κ c = c
theorem I5 {ns : List (Nat × Nat)} (h : (ns.all fun p => !(p.1 == m)) = true) : (ns.map (·.1)).contains m = false := by
 cases hc : (ns.map (·.1)).contains m with
 | false => rfl
 | true =>
  have : m ∈ ns.map (·.1) := by simpa using hc
  obtain ⟨p, hp, rfl⟩ := List.mem_map.1 this
  have := List.all_eq_true.1 h p hp
  simp at this
theorem eR (m : Nat) : BT m (aw m) := ⟨fun c h => by
 cases c with
 | own n => simp only [de, Bool.not_eq_true', beq_eq_false_iff_ne] at h; simp [aw, h]
 | cw n _ _ _ => simp only [de, Bool.not_eq_true', beq_eq_false_iff_ne] at h; simp [aw, h]
 | ref n _ _ _ => simp only [de, Bool.not_eq_true', beq_eq_false_iff_ne] at h; simp [aw, h]
 | cm f ns => simp only [de] at h; simp only [aw, I5 h, Bool.false_eq_true, if_false]
 | _ => rfl⟩
theorem jC (m : Nat) (ts : cf) (l : List ts.T) : BT m (jP m ts l) := ⟨fun c h => by
 cases c with
 | own n => simp only [de, Bool.not_eq_true', beq_eq_false_iff_ne] at h; simp [jP, h]
 | cw n _ _ _ => simp only [de, Bool.not_eq_true', beq_eq_false_iff_ne] at h; simp [jP, h]
 | ref n _ _ _ => simp only [de, Bool.not_eq_true', beq_eq_false_iff_ne] at h; simp [jP, h]
 | cm f ns => simp only [de] at h; simp only [jP, I5 h, Bool.false_eq_true, if_false]
 | _ => rfl⟩
theorem qu (m sz k : Nat) : BT m (ey m sz k) := ⟨fun c h => by
 cases c with
 | own n => simp only [de, Bool.not_eq_true', beq_eq_false_iff_ne] at h; simp [ey, h]
 | _ => rfl⟩
theorem BT.any {κ : CV → CV} (h : BT m κ) : κ .any = .any := h.fix _ rfl
theorem BT.vv {κ : CV → CV} (h : BT m κ) {x : VV} (hx : jM m x = true) : eG κ x = x := by
 cases x with
 | c x => simp only [eG, h.fix x hx]
 | g l =>
  simp only [eG]
  congr 1
  exact (List.map_congr_left fun a ha => h.fix a (List.all_eq_true.1 hx a ha)).trans (List.map_id' l)
theorem BT.sv {κ : CV → CV} (h : BT m κ) {x : SV} (hx : eP m x = true) : dk κ x = x := by
 cases x with
 | v x => simp only [dk, h.vv hx]
 | cI l =>
  simp only [dk]
  congr 1
  exact (List.map_congr_left fun a ha => h.vv (List.all_eq_true.1 hx a ha)).trans (List.map_id' l)
theorem BT.so {κ : CV → CV} (h : BT m κ) {o : SO} (hx : ∀ cs, o = .box cs → cs.all (de m) = true) : gT κ o = o := by
 cases o with
 | box cs =>
  simp only [gT]
  congr 1
  exact (List.map_congr_left fun a ha => h.fix a (List.all_eq_true.1 (hx cs rfl) a ha)).trans (List.map_id' cs)
 | arr ts l => rfl
 | mp _ _ _ => rfl
def Eb (k : Nat → Bool) (x : Option SV) (ob : Option SO) : Prop := ∀ m, k m = false → (∀ y, x = some y → eP m y = true) ∧ ∀ cs, ob = some (.box cs) → cs.all (de m) = true
section
variable {kE kO : Nat → Bool} {x : Option SV} {ob : Option SO} {s s1 : SS}
theorem Ext.up (h : Ext kE kO x ob s s1) : Up s.objs s1.objs := fun n o hn => by
 rw [h.obj]
 split
 ·rename_i hk; rw [h.no n hk] at hn; cases hn
 ·exact hn
theorem Ext.nk (h : Ext kE kO x ob s s1) {n : Nat} {o : SO} (hn : ad n s.objs = some o) : kO n = false := by
 cases hk : kO n with
 | false => rfl
 | true => rw [h.no n hk] at hn; cases hn
theorem Ext.YH (h : Ext kE kO x ob s s1) {n : Nat} (hk : kO n = false) (hn : ad n s.objs = none) : ad n s1.objs = none := by
 rw [h.obj, hk]; exact hn
theorem Ext.get (h : Ext kE kO x ob s s1) {N t : Nat} (ht : kE t = false) : s1.get N t = s.get N t := by
 unfold SS.get; rw [h.env t ht]
def gG (k : Nat → Bool) : Operand → Bool
 | .tmp t => !k t
 | _ => true
theorem Ext.aq (h : Ext kE kO x ob s s1) {o : Operand} (ho : gG kE o = true) : aq C s1 o = aq C s o := by
 cases o with
 | tmp t => simp only [gG, Bool.not_eq_true'] at ho; simp only [Go.Abs.aq, h.get ho]
 | _ => rfl
theorem Ext.map (h : Ext kE kO x ob s s1) (hz : Eb kO x ob) {κ : CV → CV} (hκ : BT m κ) (hm : kO m = false) {O O1 : ah} (ho : ∀ n, ad n O1 = if kO n = true then ob else ad n O) (hn : ∀ n, kO n = true → ad n O = none) :
  Ext kE kO x ob ⟨cD κ s.env, az κ O⟩ ⟨cD κ s1.env, az κ O1⟩ := by
 obtain ⟨z1, z2⟩ := hz m hm
 refine ⟨fun t ht => ?_, fun t y ht hy => ?_, fun n => ?_, fun n hk => ?_⟩
 ·simp only
  rw [dw κ hκ.any, dw κ hκ.any, h.env t ht]
 ·simp only
  rw [dw κ hκ.any, h.at_ t y ht hy]
  exact hκ.sv (z1 y hy)
 ·simp only
  rw [cZ, cZ, ho]
  split
  ·cases ob with
   | none => rfl
   | some o => simp only [Option.map_some]; rw [hκ.so fun cs e => z2 cs (by rw [e])]
  ·rfl
 ·simp only; rw [cZ, hn n hk]; rfl
theorem Ext.YF (h : Ext kE kO x ob s s1) (hz : Eb kO x ob) {κ : CV → CV} (hκ : BT m κ) (hm : kO m = false) : Ext kE kO x ob ⟨cD κ s.env, az κ s.objs⟩ ⟨cD κ s1.env, az κ s1.objs⟩ := h.map hz hκ hm h.obj h.no
theorem Ext.Eh (h : Ext kE kO x ob s s1) (hm : kO m = false) : (∀ n, ad n (du m s1.objs) = if kO n = true then ob else ad n (du m s.objs)) ∧ ∀ n, kO n = true → ad n (du m s.objs) = none := by
 refine ⟨fun n => ?_, fun n hk => ?_⟩
 ·by_cases e : m = n
  ·subst e; rw [lC, lC, hm]; rfl
  ·rw [dX e, dX e, h.obj]
 ·have e : m ≠ n := fun e => by rw [e, hk] at hm; cases hm
  rw [dX e, h.no n hk]
theorem Ext.put (h : Ext kE kO x ob s s1) (hd : ∀ t, dst = some t → kE t = false) (v : SV) : Ext kE kO x ob (s.put dst v) (s1.put dst v) := by
 cases dst with
 | none => exact h
 | some d =>
  refine ⟨fun t ht => ?_, fun t y ht hy => ?_, h.obj, h.no⟩
  ·simp only [SS.put, cr]
   by_cases e : d = t
   ·rw [if_pos e, if_pos e]
   ·rw [if_neg e, if_neg e]; exact h.env t ht
  ·simp only [SS.put, cr]
   rw [if_neg fun e => ?_]
   ·exact h.at_ t y ht hy
   ·subst e; rw [hd d rfl] at ht; cases ht
theorem Ext.cons (h : Ext kE kO x ob s s1) (hm : kO m = false) (o : SO) : Ext kE kO x ob ⟨s.env, (m, o) :: s.objs⟩ ⟨s1.env, (m, o) :: s1.objs⟩ := by
 refine ⟨h.env, h.at_, fun n => ?_, fun n hk => ?_⟩
 ·simp only [ad]
  by_cases e : m = n
  ·subst e; simp [hm]
  ·rw [if_neg e, if_neg e]; exact h.obj n
 ·have e : m ≠ n := fun e => by rw [e, hk] at hm; cases hm
  simp only [ad, if_neg e]; exact h.no n hk
theorem uC (n m : Nat) (o : SO) (O : ah) : ad m (c8 n o O) = if n = m then (ad n O).map (fun _ => o) else ad m O := by
 by_cases e : n = m
 ·subst e
  rw [if_pos rfl]
  cases hl : ad n O with
  | some p => rw [fH o (by rw [hl]; rfl)]; rfl
  | none =>
   have : ∀ O : ah, ad n O = none → ad n (c8 n o O) = none := by
    intro O
    induction O with
    | nil => intro _; rfl
    | cons p r ih =>
     obtain ⟨a, b⟩ := p
     intro h
     by_cases e : a = n
     ·simp [ad, e] at h
     ·simp only [ad, e, if_false] at h
      simp only [c8, e, if_false, ad]; exact ih h
   rw [this O hl]; rfl
 ·rw [if_neg e, cu o e]
theorem Ext.js (h : Ext kE kO x ob s s1) (hm : kO m = false) (o : SO) : Ext kE kO x ob ⟨s.env, c8 m o s.objs⟩ ⟨s1.env, c8 m o s1.objs⟩ := by
 refine ⟨h.env, h.at_, fun n => ?_, fun n hk => ?_⟩
 ·simp only [uC]
  by_cases e : m = n
  ·subst e; rw [if_pos rfl, if_pos rfl, hm, h.obj, hm]; rfl
  ·rw [if_neg e, if_neg e]; exact h.obj n
 ·have e : m ≠ n := fun e => by rw [e, hk] at hm; cases hm
  simp only [uC, if_neg e]; exact h.no n hk
theorem Ext.fresh (h : Ext kE kO x ob s s1) (hz : Eb kO x ob) {d : Nat} (hd : kO d = false) (hf : cR d s = some s') : ∃ s1', cR d s1 = some s1' ∧ Ext kE kO x ob s' s1' := by
 unfold cR at hf ⊢
 split at hf
 ·rename_i hn
  cases hf
  rw [h.YH hd hn]
  exact ⟨_, rfl, h.YF hz (eR d) hd⟩
 ·cases hf
theorem Ext.freeze (h : Ext kE kO x ob s s1) (hz : Eb kO x ob) {n : Nat} (hf : db n s = some s') : ∃ s1', db n s1 = some s1' ∧ Ext kE kO x ob s' s1' := by
 unfold db at hf ⊢
 split at hf
 ·rename_i ts l hn
  cases hf
  rw [h.up _ _ hn]
  have hk := h.nk hn
  exact ⟨_, rfl, h.map hz (jC n ts l) hk (h.Eh hk).1 (h.Eh hk).2⟩
 ·cases hf
theorem ua (h : Ext kE kO x ob s s1) (hx : ∀ o ∈ xs, gG kE o = true) : (xs.flatMap fun o => bw (aq C s1 o)) = xs.flatMap fun o => bw (aq C s o) := by
 induction xs with
 | nil => rfl
 | cons a r ih =>
  simp only [List.flatMap_cons]
  rw [h.aq (hx a (List.mem_cons_self ..)), ih fun o ho => hx o (List.mem_cons_of_mem _ ho)]
theorem Ext.settle (hz : Eb kO x ob) (hx : ∀ o ∈ xs, gG kE o = true) : ∀ (f : Nat) {s s1 s' : SS}, Ext kE kO x ob s s1 → dy C f xs s = some s' → ∃ s1', dy C f xs s1 = some s1' ∧ Ext kE kO x ob s' s1'
 | 0, s, s1, s', h, hf => by
  simp only [dy, Option.some.injEq] at hf ⊢
  exact ⟨_, rfl, hf ▸ h⟩
 | f + 1, s, s1, s', h, hf => by
  simp only [dy] at hf ⊢
  rw [ua h hx]
  split at hf
  ·cases hf; exact ⟨_, rfl, h⟩
  ·split at hf
   ·rename_i n _ s2 h2
    obtain ⟨s3, h3, h4⟩ := h.freeze hz h2
    simp only [h3]
    exact Ext.settle hz hx f h4 hf
   ·cases hf
theorem Ext.calm (h : Ext kE kO x ob s s1) (hz : Eb kO x ob) (hx : ∀ o ∈ xs, gG kE o = true) (hf : ie C xs s = some s') : ∃ s1', ie C xs s1 = some s1' ∧ Ext kE kO x ob s' s1' := by
 unfold ie at hf ⊢
 split at hf
 ·rename_i s2 h2
  obtain ⟨s3, h3, h4⟩ := Ext.settle hz hx 8 h h2
  simp only [h3]
  rw [ua h4 hx]
  split at hf
  ·cases hf; exact ⟨_, rfl, h4⟩
  ·cases hf
 ·cases hf
theorem Ext.RL (h : Ext kE kO x ob s s1) (hz : Eb kO x ob) (hx : ∀ o ∈ xs, gG kE o = true) {d : Nat} (hd : kO d = false) (hf : jF C d xs s = some s') : ∃ s1', jF C d xs s1 = some s1' ∧ Ext kE kO x ob s' s1' := by
 unfold jF at hf ⊢
 split at hf
 ·rename_i s2 h2
  obtain ⟨s3, h3, h4⟩ := h.calm hz hx h2
  simp only [h3]
  split at hf
  ·rename_i s4 h5
   obtain ⟨s5, h6, h7⟩ := h4.fresh hz hd h5
   simp only [h6]
   rw [ua h7 hx]
   split at hf
   ·cases hf; exact ⟨_, rfl, h7⟩
   ·cases hf
  ·cases hf
 ·cases hf
theorem OI (h : Ext kE kO x ob s s1) (hz : Eb kO x ob) {op : Op} (ho : ∀ o ∈ op.operands.toList, gG kE o = true) (hd : ∀ t, dst = some t → kO t = false) {c : List Bool} {v : SV}
  (hr : sH C s dst op = some (c, v, s')) : ∃ s1', sH C s1 dst op = some (c, v, s1') ∧ Ext kE kO x ob s' s1' := by
 cases op with
 | box T y =>
  cases dst with
  | none => simp [sH] at hr
  | some d =>
   have hd := hd d rfl
   have hy : gG kE y = true := ho y (by simp [Op.operands])
   simp only [sH] at hr ⊢
   split at hr
   ·rename_i hlt
    rw [if_pos hlt]
    split at hr
    ·rename_i s2 h2
     obtain ⟨s3, h3, h4⟩ := h.fresh hz hd h2
     simp only [h3]
     split at hr
     ·rename_i cs h5
      rw [h4.aq hy, mU h4.up h5]
      simp only [Option.some.injEq, Prod.mk.injEq] at hr
      obtain ⟨rfl, rfl, rfl⟩ := hr
      exact ⟨_, rfl, h4.cons hd _⟩
     ·cases hr
    ·cases hr
   ·cases hr
 | alloc T =>
  cases dst with
  | none => simp [sH] at hr
  | some d =>
   have hd := hd d rfl
   simp only [sH] at hr ⊢
   split at hr
   ·rename_i hlt
    rw [if_pos hlt]
    split at hr
    ·rename_i s2 h2
     obtain ⟨s3, h3, h4⟩ := h.fresh hz hd h2
     simp only [h3]
     split at hr
     case h_8 => cases hr
     all_goals
      rename_i e
      simp only [Option.some.injEq, Prod.mk.injEq] at hr
      obtain ⟨rfl, rfl, rfl⟩ := hr
      exact ⟨_, rfl, h4.cons hd _⟩
    ·cases hr
   ·cases hr
 | buildSlice T len parts =>
  cases dst with
  | none => simp [sH] at hr
  | some d =>
   have hd := hd d rfl
   have hp : ∀ o ∈ parts.toList.map (·.2), gG kE o = true := fun o hm => ho o (by simpa [Op.operands] using hm)
   simp only [sH] at hr ⊢
   split at hr
   ·rename_i hlt
    rw [if_pos hlt]
    split at hr
    ·rename_i s2 ts by_ h2 e
     obtain ⟨s3, h3, h4⟩ := h.RL hz hp hd h2
     simp only [h3, e]
     split at hr
     ·rename_i rows h5
      rw [oV (fun o hm => h4.aq (hp o hm)), toRows_up h4.up h5]
      simp only
      split at hr
      ·rename_i hc; rw [if_pos hc]
       simp only [Option.some.injEq, Prod.mk.injEq] at hr
       obtain ⟨rfl, rfl, rfl⟩ := hr
       exact ⟨_, rfl, h4.cons hd _⟩
      ·cases hr
     ·cases hr
    ·cases hr
   ·cases hr
 | makeSlice T l m =>
  cases dst with
  | none => simp [sH] at hr
  | some d =>
   have hd := hd d rfl
   have hl : gG kE l = true := ho l (by simp [Op.operands])
   have hm : gG kE m = true := ho m (by simp [Op.operands])
   simp only [sH] at hr ⊢
   split at hr
   ·rename_i hlt
    rw [if_pos hlt]
    split at hr
    ·rename_i s2 h2
     obtain ⟨s3, h3, h4⟩ := h.fresh hz hd h2
     simp only [h3, h4.aq hl, h4.aq hm]
     split at hr
     ·rename_i ts by_ n m e1 e2 e3
      simp only [Option.some.injEq, Prod.mk.injEq] at hr
      obtain ⟨rfl, rfl, rfl⟩ := hr
      exact ⟨_, rfl, h4.cons hd _⟩
     ·cases hr
    ·cases hr
   ·cases hr
 | convert S T y =>
  cases dst with
  | none => simp [sH] at hr
  | some d =>
   have hd := hd d rfl
   have hy : gG kE y = true := ho y (by simp [Op.operands])
   simp only [sH] at hr ⊢
   split at hr
   ·rename_i hlt
    rw [if_pos hlt]
    split at hr
    ·rename_i s2 h2
     obtain ⟨s3, h3, h4⟩ := h.fresh hz hd h2
     simp only [h3, h4.aq hy]
     split at hr
     ·rename_i b e1 e2
      split at hr
      ·rename_i hb; rw [if_pos hb]
       simp only [Option.some.injEq, Prod.mk.injEq] at hr
       obtain ⟨rfl, rfl, rfl⟩ := hr
       exact ⟨_, rfl, h4.cons hd _⟩
      ·cases hr
     ·cases hr
    ·cases hr
   ·cases hr
 | store T y z =>
  cases dst with
  | some d => simp [sH] at hr
  | none =>
   have hy : gG kE y = true := ho y (by simp [Op.operands])
   have hz' : gG kE z = true := ho z (by simp [Op.operands])
   simp only [sH] at hr ⊢
   rw [h.aq hy]
   split at hr
   ·rename_i n sz i off D e1 e2
    split at hr
    ·rename_i cs e3
     have hk := h.nk e3
     rw [h.up _ _ e3, h.aq hz']
     simp only
     split at hr
     ·rename_i us e4
      rw [mU h.up e4]
      simp only
      split at hr
      ·rename_i hc; rw [if_pos hc]
       simp only [Option.some.injEq, Prod.mk.injEq] at hr
       obtain ⟨rfl, rfl, rfl⟩ := hr
       exact ⟨_, rfl, h.js hk _⟩
      ·cases hr
     ·cases hr
    ·rename_i ts0 l0 e3
     rw [h.up _ _ e3]
     simp only
     split at hr
     ·rename_i s2 h2
      obtain ⟨s3, h3, h4⟩ := h.calm hz (fun o hm => by simp only [List.mem_singleton] at hm; subst hm; exact hz') h2
      simp only [h3, h4.aq hz', h4.aq hy]
      split at hr
      ·rename_i ts l us n' sz' i' off' e4 e5 e6
       have hk := h4.nk e4
       rw [h4.up _ _ e4, mU h4.up e5, e6]
       simp only
       split at hr
       ·rename_i hc; rw [if_pos hc]
        split at hr
        ·rename_i row e7
         simp only [Option.some.injEq, Prod.mk.injEq] at hr
         obtain ⟨rfl, rfl, rfl⟩ := hr
         exact ⟨_, rfl, h4.js hk _⟩
        ·cases hr
       ·cases hr
      ·cases hr
     ·cases hr
    ·cases hr
   ·cases hr
 | call c =>
  obtain ⟨cal, args, argTypes⟩ := c
  cases cal with
  | builtin b =>
   cases b with
   | append =>
    cases dst with
    | none => simp [sH] at hr
    | some d =>
     have hd := hd d rfl
     have ha : ∀ o ∈ args.toList, gG kE o = true := fun o hm => ho o (by simpa [Op.operands, Call.operands] using hm)
     simp only [sH] at hr ⊢
     split at hr
     ·rename_i hlt
      rw [if_pos hlt]
      split at hr
      ·rename_i y z T T2 e1 e2
       rw [e1] at ha
       have hy := ha y (by simp)
       have hz' := ha z (by simp)
       simp only [h.aq hy, h.aq hz']
       split at hr
       ·rename_i ts by_ e3
        split at hr
        ·rename_i c' rows e4
         have e5 : rP C s1 ts T2 (aq C s z) = some (c', rows) := by
          unfold rP at e4 ⊢
          split at e4
          ·exact e4
          ·split at e4
           ·rename_i hi; rw [if_pos hi]; exact Js h.up e4
           ·cases e4
         rw [e5]
         simp only
         split at hr
         ·split at hr
          ·rename_i s2 h2
           obtain ⟨s3, h3, h4⟩ := h.fresh hz hd h2
           simp only [h3]
           simp only [Option.some.injEq, Prod.mk.injEq] at hr
           obtain ⟨rfl, rfl, rfl⟩ := hr
           exact ⟨_, rfl, h4.cons hd _⟩
          ·cases hr
         ·rename_i m e6
          split at hr
          ·rename_i us l e7
           have hk := h.nk e7
           rw [h.up _ _ e7]
           simp only
           split at hr
           ·rename_i hb; rw [dif_pos hb]
            split at hr
            ·rename_i s2 h2
             have hm := h.map hz (eR m) hk (h.Eh hk).1 (h.Eh hk).2
             obtain ⟨s3, h3, h4⟩ := hm.fresh hz hd h2
             simp only [h3]
             simp only [Option.some.injEq, Prod.mk.injEq] at hr
             obtain ⟨rfl, rfl, rfl⟩ := hr
             exact ⟨_, rfl, h4.cons hd _⟩
            ·cases hr
           ·cases hr
          ·cases hr
         ·cases hr
        ·cases hr
       ·cases hr
      ·cases hr
     ·cases hr
   | _ => simp [sH] at hr
  | _ => simp [sH] at hr
 | _ => simp [sH] at hr
theorem Lz {s s1 : SS} {op : Op} (hs : ∀ o ∈ op.operands.toList, aq C s1 o = aq C s o) {d0 : Nat} {y : List Bool × SV × SS} (hr : sH C s dst op = some y) : d0 = d0 → sR C s op = none → sR C s1 op = none := by
 intro _ hn
 cases op with
 | convert S T z =>
  have e : aq C s1 z = aq C s z := hs z (by simp [Op.operands])
  cases dst with
  | none => simp [sH] at hr
  | some d =>
   simp only [sH] at hr
   split at hr
   ·split at hr
    ·rename_i s2 h2
     split at hr
     ·rename_i b e1 e2
      split at hr
      ·rename_i hb
       have hT : ∃ ts by_, gQ C.G T = some (.slice ts by_) := by
        unfold xw at hb
        split at hb
        ·exact ⟨_, _, by assumption⟩
        ·cases hb
       obtain ⟨ts, by_, hT⟩ := hT
       simp [sR, hT]
      ·cases hr
     ·cases hr
    ·cases hr
   ·cases hr
 | call c =>
  obtain ⟨cal, args, argTypes⟩ := c
  cases cal with
  | builtin b => cases b <;> first | (simp [sH] at hr; done) | rfl
  | _ => simp [sH] at hr
 | _ => first | (simp [sH] at hr; done) | rfl
end
end Go.Abs
namespace Go.Abs
open Go.RowKit
variable {FT : List (Nat × Entry)} {dst : Option Tmp}
theorem toAT_bx {O : ah} {ts : cf} {y : SV} {p : ts.T} (h1 : toAT O (.bx ts) y = some p) : ∃ n cs, y = .v (.c (.ref n ts.len 0 0)) ∧ ad n O = some (.box cs) := by
 cases y with
 | cI l => simp [toAT] at h1
 | v x =>
  cases x with
  | g l => simp [toAT] at h1
  | c y =>
   cases y with
   | ref n sz i off =>
    cases i with
    | succ i => simp [toAT] at h1
    | zero =>
     cases off with
     | succ off => simp [toAT] at h1
     | zero =>
      simp only [toAT] at h1
      split at h1
      ·rename_i hs
       subst hs
       split at h1
       ·rename_i cs hl; exact ⟨n, cs, rfl, hl⟩
       ·cases h1
      ·cases h1
   | _ => simp [toAT] at h1
section
variable {kE kO : Nat → Bool} {x : Option SV} {ob : Option SO} {s s1 : SS}
theorem Ext.boxes {O0 : ah} : ∀ {l : List AT} {xs : List SV} {a : eF l} {o : kG (fp l)} {E E1 : List (Nat × SV)} {O O1 : ah}, toArgs O0 l xs = some a → (∀ n o, ad n O0 = some o → kO n = false) → Ext kE kO x ob ⟨E, O⟩ ⟨E1, O1⟩ →
  Ext kE kO x ob ⟨E, ay l xs o O⟩ ⟨E1, ay l xs o O1⟩
 | [], [], _, _, _, _, _, _, _, _, h => h
 | .v c :: l, y :: xs, a, o, E, E1, O, O1, ha, hk, h => by
  unfold toArgs at ha
  split at ha
  ·rename_i p q h1 h2
   exact Ext.boxes (l := l) h2 hk h
  ·cases ha
 | .bx ts :: l, y :: xs, a, o, E, E1, O, O1, ha, hk, h => by
  unfold toArgs at ha
  split at ha
  ·rename_i p q h1 h2
   obtain ⟨n, cs, rfl, hl⟩ := toAT_bx h1
   exact Ext.boxes (l := l) h2 hk (h.js (hk n _ hl) _)
  ·cases ha
 | [], _ :: _, _, _, _, _, _, _, ha, _, _ => by cases ha
 | _ :: _, [], _, _, _, _, _, _, ha, _, _ => by cases ha
theorem Ext.ret (h : Ext kE kO x ob s s1) {d : Nat} (hd : kO d = false) : ∀ (r : RT) (y : r.T), (eJ d s1 r y).1 = (eJ d s r y).1 ∧ Ext kE kO x ob (eJ d s r y).2 (eJ d s1 r y).2
 | .v _, _ => ⟨rfl, h⟩
 | .cI _, _ => ⟨rfl, h⟩
 | .own _, _ => ⟨rfl, h.cons hd _⟩
 | .box _, _ => ⟨rfl, h.cons hd _⟩
 | .unit, _ => ⟨rfl, h⟩
variable {R : Type} {r : R} {K K1 : SS → Option R}
theorem lG {α β : Type} {y : Option α} {f : α → Option β} {r : β} (h : gR y f = some r) : ∃ a, y = some a ∧ f a = some r := by
 unfold gR at h
 cases y with
 | none => simp at h
 | some a => exact ⟨a, rfl, h⟩
theorem Hg {C : eN} (h : Ext kE kO x ob s s1) (hz : Eb kO x ob) {f : FuncId} {xs : List Operand} (hx : ∀ o ∈ xs, gG kE o = true) (hd : ∀ t, dst = some t → kE t = false) (hdO : ∀ t, dst = some t → kO t = false) (hd9 : kO 999998 = false)
  (hK : ∀ s' s1', Ext kE kO x ob s' s1' → K s' = some r → K1 s1' = some r) (hr : iw C FT false s dst f xs K = some r) : iw C FT false s1 dst f xs K1 = some r := by
 have hdd : kO (dst.getD 999998) = false := by cases dst with | none => exact hd9 | some d => exact hdO d rfl
 unfold iw at hr ⊢
 split at hr
 ·cases hr
 ·rename_i e he
  have key : ∀ s2 s3, Ext kE kO x ob s2 s3 → (match toArgs s2.objs e.sig.args (xs.map (aq C s2)) with
   | none => none
   | some a => if dst.getD 999998 < top ∧ e.sig.args.length ≤ 1000 ∧ fJ (bp e.sig.args (xs.map (aq C s2))) = true then
    gR (e.F a) fun r =>
     K ((eJ (dst.getD 999998) ⟨s2.env, ay e.sig.args (xs.map (aq C s2)) r.2 s2.objs⟩ e.sig.ret r.1).2.put dst
      (eJ (dst.getD 999998) ⟨s2.env, ay e.sig.args (xs.map (aq C s2)) r.2 s2.objs⟩ e.sig.ret r.1).1)
    else none) = some r → (match toArgs s3.objs e.sig.args (xs.map (aq C s3)) with
   | none => none
   | some a => if dst.getD 999998 < top ∧ e.sig.args.length ≤ 1000 ∧ fJ (bp e.sig.args (xs.map (aq C s3))) = true then
    gR (e.F a) fun r =>
     K1 ((eJ (dst.getD 999998) ⟨s3.env, ay e.sig.args (xs.map (aq C s3)) r.2 s3.objs⟩ e.sig.ret r.1).2.put dst
      (eJ (dst.getD 999998) ⟨s3.env, ay e.sig.args (xs.map (aq C s3)) r.2 s3.objs⟩ e.sig.ret r.1).1)
    else none) = some r := by
   intro s2 s3 h4 hr
   rw [oV fun o ho => h4.aq (hx o ho)]
   split at hr
   ·cases hr
   ·rename_i a ha
    rw [toArgs_up h4.up ha]
    simp only
    split at hr
    ·rename_i hc; rw [if_pos hc]
     obtain ⟨y, hy, hr⟩ := lG hr
     rw [hy]
     have hb := Ext.boxes (o := y.2) ha (fun n o hn => h4.nk hn) (E := s2.env) (E1 := s3.env) (O := s2.objs) (O1 := s3.objs) h4
     obtain ⟨g1, g2⟩ := hb.ret hdd e.sig.ret y.1
     simp only [gR, Option.bind]
     rw [g1]
     exact hK _ _ (g2.put hd _) hr
    ·cases hr
  cases hb : (fp e.sig.args).isEmpty && CK e.sig.ret with
  | true =>
   rw [hb] at hr
   simp only at hr ⊢
   split at hr
   ·cases hr
   ·rename_i s2 h2
    obtain ⟨s3, h3, h4⟩ := h.fresh hz hdd h2
    simp only [h3]
    exact key s2 s3 h4 hr
  | false =>
   rw [hb] at hr
   simp only at hr ⊢
   split at hr
   ·cases hr
   ·rename_i s2 h2
    obtain ⟨s3, h3, h4⟩ := h.RL hz hx hdd h2
    simp only [h3]
    exact key s2 s3 h4 hr
theorem tH {α : Type} {b : Bool} {y z : Option α} {r : α} (h : br b y z = some r) : (b = true ∧ y = some r) ∨ (b = false ∧ z = some r) := by
 cases b <;> simp [br] at h
 ·exact .inr ⟨rfl, h⟩
 ·exact .inl ⟨rfl, h⟩
theorem xC {α : Type} {m : Option α} : ∀ {l : List Bool}, gy l → need l m = m
 | [], _ => rfl
 | c :: l, h => by
  obtain ⟨h1, h2⟩ := h
  subst h1
  simp only [need, br, if_true]
  exact xC h2
theorem fV {R1 : Type} {r1 : R1} {l : List Bool} {m : Option R} {m1 : Option R1} (h : need l m = some r) (hm : m = some r → m1 = some r1) : need l m1 = some r1 := by
 obtain ⟨h1, h2⟩ := fI h
 rw [xC h1]; exact hm h2
theorem AG {C : eN} (h : Ext kE kO x ob s s1) (hz : Eb kO x ob) {op : Op} (ho : ∀ o ∈ op.operands.toList, gG kE o = true) (hd : ∀ t, dst = some t → kE t = false) (hdO : ∀ t, dst = some t → kO t = false) (hd9 : kO 999998 = false)
  (hK : ∀ s' s1', Ext kE kO x ob s' s1' → K s' = some r → K1 s1' = some r) (hr : iP C FT false s dst op K = some r) : iP C FT false s1 dst op K1 = some r := by
 unfold iP at hr ⊢
 split at hr
 ·rename_i f args _
  exact Hg h hz (fun o hm => ho o (by simp only [Op.operands, Call.operands]; simpa using Or.inr hm)) hd hdO hd9 hK hr
 ·rename_i c a b
  have hc := h.aq (C := C) (ho c (by simp [Op.operands]))
  have ha := h.aq (C := C) (ho a (by simp [Op.operands]))
  have hb := h.aq (C := C) (ho b (by simp [Op.operands]))
  simp only [hc, ha, hb]
  split at hr
  ·rename_i t e
   rcases tH hr with ⟨h1, h2⟩ | ⟨h1, h2⟩
   ·subst h1; simp only [br, if_true]; exact hK _ _ (h.put hd _) h2
   ·subst h1; simp only [br]; exact hK _ _ (h.put hd _) h2
  ·cases hr
 ·rename_i hn1 hn2
  have hs : ∀ o ∈ op.operands.toList, aq C s1 o = aq C s o := fun o hm => h.aq (ho o hm)
  split at hr
  ·rename_i c v e
   rw [AH h.up hs e]
   exact fV hr fun hr => hK _ _ (h.put hd _) hr
  ·rename_i e
   simp only [Bool.false_eq_true, if_false] at hr ⊢
   split at hr
   ·rename_i c v s' e2
    rw [Lz hs (d0 := 0) e2 rfl e]
    obtain ⟨s3, h3, h4⟩ := OI h hz ho hdO e2
    simp only [h3]
    exact fV hr fun hr => hK _ _ (h4.put hd _) hr
   ·cases hr
theorem pa {C : eN} (h : Ext kE kO x ob s s1) (hz : Eb kO x ob) {op : Op} (ho : ∀ o ∈ op.operands.toList, gG kE o = true) (hd : ∀ t, dst = some t → kE t = false) (hdO : ∀ t, dst = some t → kO t = false) (hd9 : kO 999998 = false)
  (hK : ∀ s' s1', Ext kE kO x ob s' s1' → K s' = some r → K1 s1' = some r) (hr : lS C FT false s dst op K = some r) : lS C FT false s1 dst op K1 = some r := by
 unfold lS at hr ⊢
 simp only at hr ⊢
 split at hr
 ·rename_i t e
  have ht : kE t = false := by
   have : Operand.tmp t ∈ op.operands.toList := by
    unfold BY at e
    split at e
    ·split at e
     ·rename_i args _ t' _ e2
      cases e
      simp [Op.operands, Call.operands, e2]
     ·cases e
    ·cases e
   simpa [gG] using ho _ this
  have go : ∀ s' s1', Ext kE kO x ob s' s1' → iP C FT false s' dst op K = some r → iP C FT false s1' dst op K1 = some r := fun s' s1' h' hr => AG h' hz ho hd hdO hd9 hK hr
  simp only [iF, show Nat.ble top top = true from rfl] at hr ⊢
  rw [h.get ht]
  split at hr
  ·rename_i y e2
   unfold p6 at hr ⊢
   split at hr
   ·rename_i n sz off j
    split at hr
    ·rename_i ts l e3
     rw [h.up _ _ e3]
     simp only
     have hk := h.nk e3
     split at hr
     ·rename_i hsz; rw [if_pos hsz]
      refine fV hr fun hr => go _ _ ?_ hr
      refine Ext.put ?_ (fun t' e' => by cases e'; exact ht) _
      exact (h.YF hz (qu n ts.len (eE l)) hk).js hk _
     ·rename_i hsz; rw [if_neg hsz]
      exact go _ _ h hr
    ·rename_i e3
     split
     ·rename_i ts l e4
      exfalso
      cases hk : kO n with
      | false => rw [h.obj, hk] at e4; exact e3 ts l e4
      | true =>
       have hn := h.no n hk
       have := go
       unfold iP at hr
       revert hr
       unfold BY at e
       split at e
       ·split at e
        ·rename_i args at_ t' l' e5
         cases e
         simp only [sR, sH, Bool.false_eq_true, if_false]
         intro hr
         split at hr
         ·rename_i e6
          cases dst with
          | none => simp at e6
          | some d =>
           simp only at e6
           split at e6
           ·split at e6
            ·rename_i y2 z2 T T2 e7 e8
             rw [e5] at e7
             cases e7
             have e9 : aq C s (.tmp t) = .v (.c (.cw n sz off j)) := e2
             rw [e9] at e6
             split at e6
             ·split at e6
              ·simp at e6
              ·cases e6
             ·cases e6
            ·cases e6
           ·cases e6
         ·cases hr
        ·cases e
       ·cases e
     ·exact go _ _ h hr
   ·exact go _ _ h hr
  ·exact go _ _ h hr
 ·exact AG h hz ho hd hdO hd9 hK hr
end
end Go.Abs
namespace Go.Abs
open Go.RowKit
def Kp (s s' : SS) : Prop := ∀ t, gu (cr s.env t) = true → cr s'.env t = cr s.env t
theorem IY {c : CV} (h : qz c = true) (m : Nat) : de m c = true := by
  cases c <;> first | rfl | (simp [qz] at h)
theorem IZ {c : VV} (h : zL c = true) (m : Nat) : jM m c = true := by
  cases c with
  | c c => exact IY h m
  | g l => exact List.all_eq_true.2 fun a ha => IY (List.all_eq_true.1 h a ha) m
theorem Ox {c : SV} (h : gu c = true) (m : Nat) : eP m c = true := by
  cases c with
  | v c => exact IZ h m
  | cI l => exact List.all_eq_true.2 fun a ha => IZ (List.all_eq_true.1 h a ha) m
theorem Kp.bh (s : SS) : Kp s s := fun _ _ => rfl
theorem Kp.trans {a b c : SS} (h : Kp a b) (k : Kp b c) : Kp a c := fun t ht => by
  have h1 := h t ht
  rw [k t (by rw [h1]; exact ht), h1]
theorem Kp.map {s : SS} {m : Nat} {κ : CV → CV} (hκ : BT m κ) (O : ah) : Kp s ⟨cD κ s.env, O⟩ := fun t ht => by
  simp only [dw κ hκ.any]
  exact hκ.sv (Ox ht m)
theorem Kp.jR {s s' : SS} (h : s'.env = s.env) : Kp s s' := fun t _ => by rw [h]
theorem eQ {d : Nat} {s s' : SS} (h : cR d s = some s') : Kp s s' := by
  unfold cR at h
  split at h
  · cases h; exact .map (eR d) _
  · cases h
theorem qq {n : Nat} {s s' : SS} (h : db n s = some s') : Kp s s' := by
  unfold db at h
  split at h
  · cases h; exact .map (jC n _ _) _
  · cases h
theorem wL {C : eN} {xs : List Operand} : ∀ (f : Nat) {s s' : SS}, dy C f xs s = some s' → Kp s s'
  | 0, s, s', h => by simp only [dy, Option.some.injEq] at h; subst h; exact .bh _
  | f + 1, s, s', h => by
    simp only [dy] at h
    split at h
    · cases h; exact .bh _
    · split at h
      · rename_i s2 h2; exact (qq h2).trans (wL f h)
      · cases h
theorem Ed {C : eN} {xs : List Operand} {s s' : SS} (h : ie C xs s = some s') : Kp s s' := by
  unfold ie at h
  split at h
  · rename_i s2 h2
    split at h
    · cases h; exact wL 8 h2
    · cases h
  · cases h
theorem ER {C : eN} {d : Nat} {xs : List Operand} {s s' : SS} (h : jF C d xs s = some s') : Kp s s' := by
  unfold jF at h
  split at h
  · rename_i s2 h2
    split at h
    · rename_i s3 h3
      split at h
      · cases h; exact (Ed h2).trans (eQ h3)
      · cases h
    · cases h
  · cases h
theorem R2 {C : eN} {s : SS} {dst : Option Tmp} {op : Op} {c : List Bool} {v : SV} {s' : SS} (hr : sH C s dst op = some (c, v, s')) : Kp s s' := by
  unfold sH at hr
  split at hr
  · split at hr
    · split at hr
      · rename_i s2 h2
        split at hr
        · simp only [Option.some.injEq, Prod.mk.injEq] at hr
          obtain ⟨_, _, rfl⟩ := hr
          exact (eQ h2).trans (.jR rfl)
        · cases hr
      · cases hr
    · cases hr
  · split at hr
    · split at hr
      · rename_i s2 h2
        split at hr
        all_goals first
          | (simp only [Option.some.injEq, Prod.mk.injEq] at hr
             obtain ⟨_, _, rfl⟩ := hr
             exact (eQ h2).trans (.jR rfl))
          | cases hr
      · cases hr
    · cases hr
  · split at hr
    · split at hr
      · rename_i s2 ts by_ h2 e
        split at hr
        · split at hr
          · simp only [Option.some.injEq, Prod.mk.injEq] at hr
            obtain ⟨_, _, rfl⟩ := hr
            exact (ER h2).trans (.jR rfl)
          · cases hr
        · cases hr
      · cases hr
    · cases hr
  · split at hr
    · split at hr
      · rename_i s2 h2
        split at hr
        · simp only [Option.some.injEq, Prod.mk.injEq] at hr
          obtain ⟨_, _, rfl⟩ := hr
          exact (eQ h2).trans (.jR rfl)
        · cases hr
      · cases hr
    · cases hr
  · split at hr
    · split at hr
      · rename_i s2 h2
        split at hr
        · split at hr
          · simp only [Option.some.injEq, Prod.mk.injEq] at hr
            obtain ⟨_, _, rfl⟩ := hr
            exact (eQ h2).trans (.jR rfl)
          · cases hr
        · cases hr
      · cases hr
    · cases hr
  · split at hr
    · split at hr
      · split at hr
        · split at hr
          · simp only [Option.some.injEq, Prod.mk.injEq] at hr
            obtain ⟨_, _, rfl⟩ := hr
            exact .jR rfl
          · cases hr
        · cases hr
      · split at hr
        · rename_i s2 h2
          split at hr
          · split at hr
            · split at hr
              · simp only [Option.some.injEq, Prod.mk.injEq] at hr
                obtain ⟨_, _, rfl⟩ := hr
                exact (Ed h2).trans (.jR rfl)
              · cases hr
            · cases hr
          · cases hr
        · cases hr
      · cases hr
    · cases hr
  · split at hr
    · split at hr
      · split at hr
        · split at hr
          · split at hr
            · split at hr
              · rename_i s2 h2
                simp only [Option.some.injEq, Prod.mk.injEq] at hr
                obtain ⟨_, _, rfl⟩ := hr
                exact (eQ h2).trans (.jR rfl)
              · cases hr
            · split at hr
              · split at hr
                · split at hr
                  · rename_i s2 h2
                    simp only [Option.some.injEq, Prod.mk.injEq] at hr
                    obtain ⟨_, _, rfl⟩ := hr
                    exact ((Kp.map (eR _) _).trans (eQ h2)).trans (.jR rfl)
                  · cases hr
                · cases hr
              · cases hr
            · cases hr
          · cases hr
        · cases hr
      · cases hr
    · cases hr
  · cases hr
def Kd (dst : Option Tmp) (s s' : SS) : Prop := ∀ t, dst ≠ some t → gu (cr s.env t) = true → cr s'.env t = cr s.env t
theorem Kp.put {s s' : SS} (h : Kp s s') (dst : Option Tmp) (v : SV) : Kd dst s (s'.put dst v) := fun t ht hn => by
  cases dst with
  | none => exact h t hn
  | some d =>
    simp only [SS.put, cr]
    rw [if_neg fun e => ht (by rw [e])]
    exact h t hn
theorem Kp.kd {s s' s2 : SS} {dst : Option Tmp} (h : Kp s s') (k : Kd dst s' s2) : Kd dst s s2 := fun t ht hn => by
  have h1 := h t hn
  rw [k t ht (by rw [h1]; exact hn), h1]
theorem xQ {d : Nat} {s : SS} : ∀ (r : RT) (y : r.T), (eJ d s r y).2.env = s.env
  | .v _, _ => rfl
  | .cI _, _ => rfl
  | .own _, _ => rfl
  | .box _, _ => rfl
  | .unit, _ => rfl
section
variable {R R1 : Type} {r : R} {r1 : R1} {K : SS → Option R} {K1 : SS → Option R1}
theorem Jo {C : eN} {FT : List (Nat × Entry)} {s : SS} {dst : Option Tmp} {f : FuncId} {xs : List Operand}
    (hK : ∀ s', Kd dst s s' → K s' = some r → K1 s' = some r1) (hr : iw C FT false s dst f xs K = some r) : iw C FT false s dst f xs K1 = some r1 := by
  unfold iw at hr ⊢
  split at hr
  · cases hr
  · rename_i e he
    have key : ∀ s2, Kp s s2 → (match toArgs s2.objs e.sig.args (xs.map (aq C s2)) with
      | none => none
      | some a => if dst.getD 999998 < top ∧ e.sig.args.length ≤ 1000 ∧ fJ (bp e.sig.args (xs.map (aq C s2))) = true then
        gR (e.F a) fun r =>
          K ((eJ (dst.getD 999998) ⟨s2.env, ay e.sig.args (xs.map (aq C s2)) r.2 s2.objs⟩ e.sig.ret r.1).2.put dst
            (eJ (dst.getD 999998) ⟨s2.env, ay e.sig.args (xs.map (aq C s2)) r.2 s2.objs⟩ e.sig.ret r.1).1)
        else none) = some r → (match toArgs s2.objs e.sig.args (xs.map (aq C s2)) with
      | none => none
      | some a => if dst.getD 999998 < top ∧ e.sig.args.length ≤ 1000 ∧ fJ (bp e.sig.args (xs.map (aq C s2))) = true then
        gR (e.F a) fun r =>
          K1 ((eJ (dst.getD 999998) ⟨s2.env, ay e.sig.args (xs.map (aq C s2)) r.2 s2.objs⟩ e.sig.ret r.1).2.put dst
            (eJ (dst.getD 999998) ⟨s2.env, ay e.sig.args (xs.map (aq C s2)) r.2 s2.objs⟩ e.sig.ret r.1).1)
        else none) = some r1 := by
      intro s2 h2 hr
      split at hr
      · cases hr
      · rename_i a ha
        split at hr
        · rename_i hc; rw [if_pos hc]
          obtain ⟨y, hy, hr⟩ := lG hr
          rw [hy]
          simp only [gR, Option.bind]
          exact hK _ ((h2.trans (.jR (by rw [xQ]))).put dst _) hr
        · cases hr
    cases hb : (fp e.sig.args).isEmpty && CK e.sig.ret with
    | true =>
      rw [hb] at hr
      simp only at hr ⊢
      split at hr
      · cases hr
      · rename_i s2 h2
        exact key s2 (eQ h2) hr
    | false =>
      rw [hb] at hr
      simp only at hr ⊢
      split at hr
      · cases hr
      · rename_i s2 h2
        exact key s2 (ER h2) hr
theorem xU {C : eN} {FT : List (Nat × Entry)} {s : SS} {dst : Option Tmp} {op : Op}
    (hK : ∀ s', Kd dst s s' → K s' = some r → K1 s' = some r1) (hr : iP C FT false s dst op K = some r) : iP C FT false s dst op K1 = some r1 := by
  unfold iP at hr ⊢
  split at hr
  · exact Jo hK hr
  · rename_i c a b
    split at hr
    · rename_i t e
      rcases tH hr with ⟨h1, h2⟩ | ⟨h1, h2⟩
      · subst h1; simp only [br, if_true]; exact hK _ ((Kp.bh s).put dst _) h2
      · subst h1; simp only [br]; exact hK _ ((Kp.bh s).put dst _) h2
    · cases hr
  · rename_i hn1 hn2
    split at hr
    · rename_i c v e
      exact fV hr fun hr => hK _ ((Kp.bh s).put dst _) hr
    · rename_i e
      simp only [Bool.false_eq_true, if_false] at hr ⊢
      split at hr
      · rename_i c v s' e2
        exact fV hr fun hr => hK _ ((R2 e2).put dst _) hr
      · cases hr
theorem J7 {s : SS} {x : CV} {put : Nat → SS → SS} {Q : SS → Prop} (hput : ∀ n sz off j s', x = .cw n sz off j → Kp s s' → Q (put n s')) (h0 : Q s) (hK : ∀ s', Q s' → K s' = some r → K1 s' = some r1) (hr : p6 s x put K = some r) : p6 s x put K1 = some r1 := by
  unfold p6 at hr ⊢
  split at hr
  · split at hr
    · split at hr
      · rename_i hsz
        rw [if_pos hsz]
        exact fV hr fun hr => hK _ (hput _ _ _ _ _ rfl (.map (qu _ _ _) _)) hr
      · rename_i hsz
        rw [if_neg hsz]
        exact hK _ h0 hr
    · exact hK _ h0 hr
  · exact hK _ h0 hr
theorem gJ {C : eN} {FT : List (Nat × Entry)} {s : SS} {dst : Option Tmp} {op : Op}
    (hK : ∀ s', Kd dst s s' → K s' = some r → K1 s' = some r1) (hr : lS C FT false s dst op K = some r) : lS C FT false s dst op K1 = some r1 := by
  unfold lS at hr ⊢
  simp only at hr ⊢
  split at hr
  · rename_i t e
    simp only [iF, show Nat.ble top top = true from rfl] at hr ⊢
    split at hr
    · rename_i y e2
      refine J7 (Q := fun s' => Kp s s') (fun n sz off j s' hy h' => ?_) (.bh s) (fun s' h' hr => ?_) hr
      · intro t' ht'
        have hne : t ≠ t' := fun e3 => by
          subst e3
          unfold SS.get at e2
          split at e2
          · rw [e2, hy] at ht'
            simp [gu, zL, qz] at ht'
          · cases e2; cases hy
        simp only [SS.put, cr, if_neg hne]
        exact h' t' ht'
      · exact xU (fun s2 h2 => hK s2 (h'.kd h2)) hr
    · exact xU hK hr
  · exact xU hK hr
end
end Go.Abs
namespace Go.Abs
open Go.RowKit
variable {FT : List (Nat × Entry)} {C : eN} {s : SS} {d : Nat}
theorem pb {dst : Option Tmp} {op : Op} {R : Type} {r : R} (h : lS C FT false s dst op (fun _ => (none : Option R)) = some r) : False := by
 have h1 := gJ (r1 := true) (K1 := fun _ => (none : Option Bool)) (fun _ _ h => by cases h) h
 have h2 := gJ (r1 := false) (K1 := fun _ => (none : Option Bool)) (fun _ _ h => by cases h) h
 rw [h1] at h2; cases h2
theorem EK (v : Value) : qz (Dm v) = true := by
 unfold Dm
 split <;> first | rfl | (split <;> rfl)
theorem Lj (v : Value) : gu (I8 v) = true := by
 unfold I8
 split
 ·split
  ·simp only [gu, zL, List.all_map]
   exact List.all_eq_true.2 fun x _ => EK x
  ·rfl
 ·exact EK _
theorem lL {s s' : SS} (h : Kp s s') {o : Operand} (hn : gu (aq C s o) = true) : aq C s' o = aq C s o := by
 cases o with
 | tmp t =>
  simp only [aq, SS.get] at hn ⊢
  split
  ·rename_i ht
   rw [if_pos ht] at hn
   exact h t hn
  ·rfl
 | _ => rfl
theorem wa {O O' : ah} {x : SV} (hn : gu x = true) : fk O x = fk O' x := by
 cases x with
 | cI l => rfl
 | v x => cases x with
  | g l => rfl
  | c c => cases c <;> first | rfl | (simp [gu, zL, qz] at hn)
theorem HZ {O : ah} {x : SV} {cs : List CV} (hn : gu x = true) (h : fk O x = some cs) : cs.all qz = true := by
 cases x with
 | cI l => cases h
 | v x => cases x with
  | g l => simp only [fk, Option.some.injEq] at h; subst h; exact hn
  | c c =>
   simp only [fk] at h
   split at h
   ·cases h; simpa [gu, zL] using hn
   ·cases h
theorem toRows_nl {O O' : ah} {ts : cf} : ∀ {xs : List SV}, xs.all gu = true → toRows O ts xs = toRows O' ts xs
 | [], _ => rfl
 | x :: r, h => by
  simp only [List.all_cons, Bool.and_eq_true] at h
  simp only [toRows]
  rw [wa (O' := O') h.1, toRows_nl (O' := O') h.2]
theorem qp : ∀ {l : List CV}, l.all qz = true → cg l = none
 | [], _ => rfl
 | x :: r, h => by
  simp only [List.all_cons, Bool.and_eq_true] at h
  have ih := qp h.2
  cases x <;> first | exact ih | (simp [qz] at h)
theorem xn {xs : List Operand} (h : ∀ o ∈ xs, gu (aq C s o) = true) : cg (xs.flatMap fun o => bw (aq C s o)) = none := by
 refine qp (List.all_eq_true.2 fun c hc => ?_)
 obtain ⟨o, ho, hc⟩ := List.mem_flatMap.1 hc
 have := h o ho
 cases hx : aq C s o with
 | cI l => rw [hx] at hc; cases hc
 | v x => cases x with
  | g l => rw [hx] at hc this; exact List.all_eq_true.1 this c hc
  | c y =>
   rw [hx] at hc this
   simp only [bw, List.mem_singleton] at hc
   subst hc; exact this
theorem NF : ∀ ts : cf, ts.zc.all qz = true
 | .nil => rfl
 | .cons t ts => by
  simp only [cf.zc, List.all_cons, Bool.and_eq_true]
  exact ⟨by cases t <;> rfl, NF ts⟩
theorem HS {cs : List CV} (h : cs.all qz = true) (m : Nat) : cs.all (de m) = true := List.all_eq_true.2 fun c hc => IY (List.all_eq_true.1 h c hc) m
theorem jm {dst : Option Tmp} {op : Op} (hg : gB op = true) {R : Type} (K : SS → Option R) : lS C FT false s dst op K = match sH C s dst op with
  | some (c, x, s') => need c (K (s'.put dst x))
  | none => none := by
 cases op <;> first | rfl | (simp [gB] at hg)
structure vE (C : eN) (FT : List (Nat × Entry)) (d : Nat) (op : Op) (s : SS) (v : SV) (ob : SO) : Prop where
 TB : ∀ m, m ≠ d → eP m v = true
 Xj : ∀ m cs, ob = .box cs → cs.all (de m) = true
 arr : GQ op = true → ∃ ts l, ob = .arr ts l ∧ v = .v (.c (.own d))
 run : ∀ s2, (∀ o ∈ op.operands.toList, aq C s2 o = aq C s o) → ad d s2.objs = none → ∀ {R : Type} (K : SS → Option R), lS C FT false s2 (some d) op K = K ⟨(d, v) :: cD (aw d) s2.env, (d, ob) :: az (aw d) s2.objs⟩
theorem vE.same {op : Op} {s s' : SS} {v : SV} {ob : SO} (h : vE C FT d op s v ob) (he : ∀ o ∈ op.operands.toList, aq C s' o = aq C s o) : vE C FT d op s' v ob :=
 ⟨h.TB, h.Xj, h.arr, fun s2 h2 hn _ K => h.run s2 (fun o ho => (h2 o ho).trans (he o ho)) hn K⟩
theorem fU (h : ad d s.objs = none) : cR d s = some ⟨cD (aw d) s.env, az (aw d) s.objs⟩ := by
 unfold cR; rw [h]
theorem ES {xs : List Operand} (hn : ∀ o ∈ xs, gu (aq C s o) = true) : jF C d xs s = cR d s := by
 have h1 : dy C 8 xs s = some s := by simp only [dy, xn hn]
 have h2 : ie C xs s = some s := by simp only [ie, h1, xn hn]
 unfold jF
 rw [h2]
 simp only
 cases hf : cR d s with
 | none => rfl
 | some s2 =>
  have : cg (xs.flatMap fun o => bw (aq C s2 o)) = none := xn fun o ho => by
   rw [lL (eQ hf) (hn o ho)]; exact hn o ho
  simp only [this]
theorem ga {T : TypeId} {v : SV} {ob : SO} (hx : ∀ s, ad d s.objs = none → sH C s (some d) (.alloc T) = some ([], v, ⟨cD (aw d) s.env, (d, ob) :: az (aw d) s.objs⟩))
  (hv : ∀ m, m ≠ d → eP m v = true) (ho : ∀ m cs, ob = .box cs → cs.all (de m) = true) : vE C FT d (.alloc T) s v ob :=
 ⟨hv, ho, fun h => (by cases h), fun s3 _ hn3 R K => by rw [jm rfl, hx s3 hn3]; rfl⟩
theorem ud {op : Op} (hg : gB op = true) (hn : ∀ o ∈ op.operands.toList, gu (aq C s o) = true) {R : Type} {K : SS → Option R} {r : R} (hr : lS C FT false s (some d) op K = some r) :
  ∃ v ob, vE C FT d op s v ob := by
 rw [jm hg] at hr
 cases op with
 | box T y =>
  simp only [sH] at hr
  split at hr
  case h_2 => cases hr
  rename_i c x s' h1
  split at h1
  case isFalse => cases h1
  rename_i hd
  split at h1
  case h_2 => cases h1
  rename_i s2 h2
  split at h1
  case h_2 => cases h1
  rename_i cs h3
  have hy := hn y (by simp [Op.operands])
  rw [lL (eQ h2) hy] at h3
  refine ⟨.v (.c (.ref d cs.length 0 0)), .box cs, fun m hm => ?_, fun m cs' e => ?_, fun h => (by cases h), fun s3 hs hn3 R K => ?_⟩
  ·simp [eP, jM, de, hm.symm]
  ·cases e; exact HS (HZ hy h3) m
  ·rw [jm rfl]
   simp only [sH, if_pos hd, fU hn3]
   have e1 := hs y (by simp [Op.operands])
   have e2 : aq C ⟨cD (aw d) s3.env, az (aw d) s3.objs⟩ y = aq C s y := by
    rw [← e1]; exact lL (.map (eR d) _) (by rw [e1]; exact hy)
   rw [e2, wa (O' := s2.objs) hy, h3]
   rfl
 | alloc T =>
  simp only [sH] at hr
  split at hr
  case h_2 => cases hr
  rename_i c x s' h1
  split at h1
  case isFalse => cases h1
  rename_i hd
  split at h1
  case h_2 => cases h1
  rename_i s2 h2
  split at h1
  ·rename_i n ts e
   exact ⟨_, _, ga (v := .v (.c (.ref d ts.len 0 0))) (ob := .arr ts (zB n ts.d)) (fun s3 hn3 => by simp only [sH, if_pos hd, fU hn3, e]) (fun m hm => by simp [eP, jM, de, hm.symm]) (fun m cs' e' => by cases e')⟩
  ·rename_i ts fs b e
   exact ⟨_, _, ga (v := .v (.c (.ref d ts.len 0 0))) (ob := .box ts.zc) (fun s3 hn3 => by simp only [sH, if_pos hd, fU hn3, e]) (fun m hm => by simp [eP, jM, de, hm.symm]) (fun m cs' e' => by cases e'; exact HS (NF _) m)⟩
  ·rename_i k e
   exact ⟨_, _, ga (v := .v (.c (.ref d 1 0 0))) (ob := .box [.k (.int k 0)]) (fun s3 hn3 => by simp only [sH, if_pos hd, fU hn3, e]) (fun m hm => by simp [eP, jM, de, hm.symm]) (fun m cs' e' => by cases e'; rfl)⟩
  ·rename_i  e
   exact ⟨_, _, ga (v := .v (.c (.ref d 1 0 0))) (ob := .box [.k (.bool false)]) (fun s3 hn3 => by simp only [sH, if_pos hd, fU hn3, e]) (fun m hm => by simp [eP, jM, de, hm.symm]) (fun m cs' e' => by cases e'; rfl)⟩
  ·rename_i  e
   exact ⟨_, _, ga (v := .v (.c (.ref d 1 0 0))) (ob := .box [.k (.str [])]) (fun s3 hn3 => by simp only [sH, if_pos hd, fU hn3, e]) (fun m hm => by simp [eP, jM, de, hm.symm]) (fun m cs' e' => by cases e'; rfl)⟩
  ·rename_i ts b e
   exact ⟨_, _, ga (v := .v (.c (.ref d 1 0 0))) (ob := .box [.gE]) (fun s3 hn3 => by simp only [sH, if_pos hd, fU hn3, e]) (fun m hm => by simp [eP, jM, de, hm.symm]) (fun m cs' e' => by cases e'; rfl)⟩
  ·rename_i c0 e
   exact ⟨_, _, ga (v := .v (.c (.ref d 1 0 0))) (ob := .box [.cW c0]) (fun s3 hn3 => by simp only [sH, if_pos hd, fU hn3, e]) (fun m hm => by simp [eP, jM, de, hm.symm]) (fun m cs' e' => by cases e'; rfl)⟩
  ·cases h1
 | buildSlice T len parts =>
  have hp : ∀ o ∈ parts.toList.map (·.2), gu (aq C s o) = true := fun o ho => hn o (by simpa [Op.operands] using ho)
  simp only [sH] at hr
  split at hr
  case h_2 => cases hr
  rename_i c x s' h1
  split at h1
  case isFalse => cases h1
  rename_i hd
  rw [ES hp] at h1
  split at h1
  case h_2 => cases h1
  rename_i s2 ts by_ h2 e
  split at h1
  case h_2 => cases h1
  rename_i rows h3
  split at h1
  case isFalse => cases h1
  rename_i hc
  have e0 : ((parts.toList.map (·.2)).map (aq C s2)) = (parts.toList.map (·.2)).map (aq C s) := List.map_congr_left fun o ho => lL (eQ h2) (hp o ho)
  rw [e0] at h3
  refine ⟨.v (.c (.own d)), .arr ts rows, fun m hm => ?_, fun m cs' e => (by cases e), fun _ => ⟨_, _, rfl, rfl⟩, fun s3 hs hn3 R K => ?_⟩
  ·simp [eP, jM, de, hm.symm]
  ·rw [jm rfl]
   have hs' : ∀ o ∈ parts.toList.map (·.2), aq C s3 o = aq C s o := fun o ho => hs o (by simpa [Op.operands] using ho)
   simp only [sH, if_pos hd]
   rw [ES (fun o ho => by rw [hs' o ho]; exact hp o ho), fU hn3, e]
   simp only
   have e1 : ((parts.toList.map (·.2)).map (aq C ⟨cD (aw d) s3.env, az (aw d) s3.objs⟩)) = (parts.toList.map (·.2)).map (aq C s) := List.map_congr_left fun o ho => by
    rw [← hs' o ho]; exact lL (.map (eR d) _) (by rw [hs' o ho]; exact hp o ho)
   rw [e1, toRows_nl (O' := s2.objs) (by simp only [List.all_map]; exact List.all_eq_true.2 fun p hp' => hp p.2 (List.mem_map.2 ⟨p, hp', rfl⟩)), h3]
   simp only [if_pos hc]
   rfl
 | makeSlice T l m =>
  have hl := hn l (by simp [Op.operands])
  have hm := hn m (by simp [Op.operands])
  simp only [sH] at hr
  split at hr
  case h_2 => cases hr
  rename_i c x s' h1
  split at h1
  case isFalse => cases h1
  rename_i hd
  split at h1
  case h_2 => cases h1
  rename_i s2 h2
  split at h1
  case h_2 => cases h1
  rename_i ts by_ n k e en ek
  rw [lL (eQ h2) hl] at en
  rw [lL (eQ h2) hm] at ek
  simp only [Option.some.injEq, Prod.mk.injEq] at h1
  obtain ⟨rfl, rfl, rfl⟩ := h1
  have hc := (fI hr).1
  refine ⟨.v (.c (.own d)), .arr ts (zB (iA n) ts.d), fun m' hm' => ?_, fun m' cs e' => (by cases e'), fun h => (by cases h), fun s3 hs hn3 R K => ?_⟩
  ·simp [eP, jM, de, hm'.symm]
  ·rw [jm rfl]
   have e1 := hs l (by simp [Op.operands])
   have e2 := hs m (by simp [Op.operands])
   have f1 : aq C ⟨cD (aw d) s3.env, az (aw d) s3.objs⟩ l = aq C s l := by
    rw [← e1]; exact lL (.map (eR d) _) (by rw [e1]; exact hl)
   have f2 : aq C ⟨cD (aw d) s3.env, az (aw d) s3.objs⟩ m = aq C s m := by
    rw [← e2]; exact lL (.map (eR d) _) (by rw [e2]; exact hm)
   simp only [sH, if_pos hd, fU hn3, e, f1, f2, en, ek]
   exact xC hc
 | _ => simp [gB] at hg
end Go.Abs
