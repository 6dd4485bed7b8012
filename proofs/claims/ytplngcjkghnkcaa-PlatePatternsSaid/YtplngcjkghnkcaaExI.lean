/- Contracts: weakening, renaming; what typed arguments and answers stand for. -/
import Derived.Test.YtplngcjkghnkcaaExH
namespace Go.Abs
open Go.RowKit

theorem mem_le {w0 w : World} {M0 : Nat → Prop} {D : Names} {os os' : List (Nat × Obj)} (ho : leOs os os') (hm : Mem w0 M0 os D w) : Mem w0 M0 os' D w where
  dom := fun n hn => by rw [hm.dom n hn, (leOs_look ho).1]
  small := fun n hn => hm.small n (by rw [(leOs_look ho).1]; exact hn)
  rep := fun n o' d ho' hD => by
    obtain ⟨o, h1, h2⟩ := (leOs_look ho).2 o' ho'
    exact leO_rep h2 (hm.rep n o d h1 hD)
  inj := hm.inj
  lt := hm.lt
  own := hm.own
  grow := hm.grow
  os := hm.os
  tape := hm.tape
  output := hm.output

theorem contract_le {P : Program} {f : FuncId} {args args' : List AV} {os os' : List (Nat × Obj)} {r : CR} (h : Contract P f args' os' r) (ha : leE args args') (ho : leOs os os') : Contract P f args os r := by
  intro w D vs hm hr
  refine h w D vs (mem_le ho hm) ⟨by rw [hr.1, ha.1], fun i y hy => ?_⟩
  obtain ⟨x, hx, hxy⟩ := ha.2 i y hy
  exact leS_slot hxy (hr.2 i x hx)

/-! renaming -/
structure Perm where
  f : Nat → Nat
  g : Nat → Nat
  fg : ∀ n, f (g n) = n
  gf : ∀ n, g (f n) = n
  top_ : ∀ n, top ≤ n → f n = n
  rn_ : f rn = rn
theorem Perm.gtop (π : Perm) {n : Nat} (h : top ≤ n) : π.g n = n := by have := π.gf n; rw [π.top_ n h] at this; exact this
theorem Perm.grn (π : Perm) : π.g rn = rn := by have := π.gf rn; rw [π.rn_] at this; exact this
theorem Perm.flt (π : Perm) {n : Nat} (h : n < top) : π.f n < top := by
  rcases Nat.lt_or_ge (π.f n) top with h1 | h1
  · exact h1
  · have := π.gf n
    rw [π.gtop h1] at this
    omega
theorem Perm.glt (π : Perm) {n : Nat} (h : n < top) : π.g n < top := by
  rcases Nat.lt_or_ge (π.g n) top with h1 | h1
  · exact h1
  · have := π.fg n
    rw [π.top_ _ h1] at this
    omega
def Perm.id' : Perm := ⟨id, id, fun _ => rfl, fun _ => rfl, fun _ _ => rfl, rfl⟩
def swapN (a b n : Nat) : Nat := if n = a then b else if n = b then a else n
theorem swapN_swapN (a b n : Nat) : swapN a b (swapN a b n) = n := by
  unfold swapN
  by_cases h1 : n = a
  · subst h1
    by_cases h2 : b = n <;> simp [h2]
  · by_cases h2 : n = b
    · subst h2; simp [h1]
    · simp [h1, h2]
def Perm.swap (a b : Nat) (ha : a < top) (hb : b < top) (ha' : a ≠ rn) (hb' : b ≠ rn) : Perm :=
  ⟨swapN a b, swapN a b, swapN_swapN a b, swapN_swapN a b, fun n hn => by unfold swapN; rw [if_neg (by omega), if_neg (by omega)], by unfold swapN; rw [if_neg (Ne.symm ha'), if_neg (Ne.symm hb')]⟩
def Perm.comp (π ρ : Perm) : Perm :=
  ⟨fun n => π.f (ρ.f n), fun n => ρ.g (π.g n), fun n => by simp [π.fg, ρ.fg], fun n => by simp [π.gf, ρ.gf], fun n hn => by rw [ρ.top_ n hn, π.top_ n hn], by rw [ρ.rn_, π.rn_]⟩

def renC (h : Nat → Nat) : AV → AV
  | .msl n sz off len => .msl (h n) sz off len
  | .ref n sz i off => .ref (h n) sz i off
  | x => x
def renO (h : Nat → Nat) : List (Nat × Obj) → List (Nat × Obj)
  | [] => []
  | (n, o) :: r => (h n, objMap (renC h) o) :: renO h r
theorem look_renO (π : Perm) (n : Nat) : ∀ l, look (π.g n) (renO π.g l) = (look n l).map (objMap (renC π.g))
  | [] => rfl
  | (m, o) :: r => by
    have ih := look_renO π n r
    by_cases h : m = n
    · subst h; simp [renO, look]
    · have : π.g m ≠ π.g n := fun e => h (by have := congrArg π.f e; simpa [π.fg] using this)
      simp [renO, look, h, this, ih]
theorem look_renO' (π : Perm) (n : Nat) (l : List (Nat × Obj)) : look n (renO π.g l) = (look (π.f n) l).map (objMap (renC π.g)) := by
  have := look_renO π (π.f n) l
  rwa [π.gf] at this
def Names.ren (D : Names) (π : Perm) : Names := fun n => D (π.f n)
theorem ren_M (D : Names) (π : Perm) : (D.ren π).M = D.M := by
  funext b
  apply propext
  constructor
  · rintro ⟨n, h⟩; exact ⟨π.f n, h⟩
  · rintro ⟨n, h⟩; exact ⟨π.g n, by show D (π.f (π.g n)) = _; rw [π.fg]; exact h⟩
theorem ren_N (D : Names) (π : Perm) : (D.ren π).N = D.N := by
  funext b
  apply propext
  constructor
  · rintro ⟨n, hn, h⟩; exact ⟨π.f n, π.flt hn, h⟩
  · rintro ⟨n, hn, h⟩; exact ⟨π.g n, π.glt hn, by show D (π.f (π.g n)) = _; rw [π.fg]; exact h⟩
theorem ren_cell {w : World} {D : Names} (π : Perm) {x : AV} {v : Value} (h : Cell w D x v) : Cell w (D.ren π) (renC π.g x) v := by
  cases x with
  | msl n sz off len =>
    rcases h with ⟨h1, h2⟩ | ⟨b, cap, N, h1, h2⟩
    · exact .inl ⟨by show (D (π.f (π.g n))).isSome = true; rw [π.fg]; exact h1, h2⟩
    · exact .inr ⟨b, cap, N, by show D (π.f (π.g n)) = _; rw [π.fg]; exact h1, h2⟩
  | ref n sz i off => obtain ⟨b, h1, h2⟩ := h; exact ⟨b, by show D (π.f (π.g n)) = _; rw [π.fg]; exact h1, h2⟩
  | _ => simp only [Cell, renC] at h ⊢; rw [ren_M]; exact h
theorem ren_carry (w : World) (D : Names) (π : Perm) : Carry w w D (D.ren π) (renC π.g) := ⟨fun _ _ h => ren_cell π h⟩
theorem ren_rep {w : World} {D : Names} (π : Perm) {o : Obj} {d : Option Nat} (h : ObjRep w D o d) : ObjRep w (D.ren π) (objMap (renC π.g) o) d := by
  cases o with
  | box cs =>
    cases d with
    | none => exact h.elim
    | some b =>
      obtain ⟨vs, T, h1, h2, h3⟩ := h
      refine ⟨vs, T, h1, by simp [h2], fun i x hx => ?_⟩
      rw [List.getElem?_map] at hx
      obtain ⟨y, hy, rfl⟩ := Option.map_eq_some_iff.1 hx
      exact ⟨ren_cell π (h3 i y hy).1, (h3 i y hy).2⟩
  | arr sz l =>
    cases d with
    | none => exact h
    | some b =>
      obtain ⟨vs, T, fz, h1, h2, h3, h4, h5, h6⟩ := h
      exact ⟨vs, T, fz, h1, h2, h3, h4, h5, fun j cs i x hj hx => by rw [ren_M]; exact h6 j cs i x hj hx⟩
theorem ren_mem {w0 w : World} {M0 : Nat → Prop} {D : Names} {objs : List (Nat × Obj)} (π : Perm) (hm : Mem w0 M0 objs D w) : Mem w0 M0 (renO π.g objs) (D.ren π) w where
  dom := fun n hn => by
    rw [look_renO']
    show (D (π.f n)).isSome = _
    rw [hm.dom _ (π.flt hn)]
    cases look (π.f n) objs <;> rfl
  small := fun n hn => by
    rw [look_renO'] at hn
    have h1 : (look (π.f n) objs).isSome = true := by revert hn; cases look (π.f n) objs <;> simp
    have h2 := hm.small _ h1
    rcases Nat.lt_or_ge n top with h | h
    · exact h
    · rw [π.top_ n h] at h2; omega
  rep := fun n o d ho hD => by
    rw [look_renO'] at ho
    obtain ⟨o', ho', rfl⟩ := Option.map_eq_some_iff.1 ho
    exact ren_rep π (hm.rep _ o' d ho' hD)
  inj := fun n m b h1 h2 => by
    have := hm.inj _ _ b h1 h2
    have := congrArg π.g this
    simpa [π.gf] using this
  lt := fun b hb => hm.lt b (by rw [← ren_M D π]; exact hb)
  own := fun b hb => hm.own b (by rw [← ren_N D π]; exact hb)
  grow := hm.grow
  os := hm.os
  tape := hm.tape
  output := hm.output

def CR.ren (π : Perm) (r : CR) : CR := ⟨mapS (renC π.g) r.x, renO π.g r.os, r.new.map (objMap (renC π.g))⟩
theorem CR.ren_objs (π : Perm) (r : CR) : (r.ren π).objs = renO π.g r.objs := by
  obtain ⟨x, os, new⟩ := r
  cases new with
  | none => rfl
  | some o => simp [CR.ren, CR.objs, renO, π.grn]

/-- A contract under other names. -/
theorem contract_ren {P : Program} {f : FuncId} {args : List AV} {os : List (Nat × Obj)} {r : CR} (π : Perm) (h : Contract P f args os r) : Contract P f (args.map (mapS (renC π.g))) (renO π.g os) (r.ren π) := by
  let ρ : Perm := ⟨π.g, π.f, π.gf, π.fg, fun n hn => π.gtop hn, π.grn⟩
  have hρ : ∀ D : Names, (D.ren ρ).ren π = D := fun D => by funext n; show D (π.g (π.f n)) = D n; rw [π.gf]
  have hC : ∀ x, renC ρ.g (renC π.g x) = x := by
    intro x
    cases x with
    | msl n sz off len => show AV.msl (π.f (π.g n)) sz off len = _; rw [π.fg]
    | ref n sz i off => show AV.ref (π.f (π.g n)) sz i off = _; rw [π.fg]
    | _ => rfl
  have hO : ∀ l, renO ρ.g (renO π.g l) = l := by
    intro l
    induction l with
    | nil => rfl
    | cons p l ih =>
      obtain ⟨n, o⟩ := p
      simp only [renO, ih]
      have e1 : ρ.g (π.g n) = n := π.fg n
      rw [e1]
      cases o with
      | box cs =>
        have : (renC ρ.g) ∘ (renC π.g) = id := funext hC
        simp [objMap, this]
      | arr sz l => rfl
  have hS : ∀ x, mapS (renC ρ.g) (mapS (renC π.g) x) = x := by
    have hid : (renC ρ.g) ∘ (renC π.g) = id := funext hC
    have hV : ∀ x, mapV (renC ρ.g) (mapV (renC π.g) x) = x := by
      intro x
      cases x with
      | agg l => simp [mapV, hid]
      | msl n sz off len => exact hC (.msl n sz off len)
      | ref n sz i off => exact hC (.ref n sz i off)
      | _ => rfl
    intro x
    cases x with
    | tup l =>
      have : (mapV (renC ρ.g)) ∘ (mapV (renC π.g)) = id := funext hV
      simp [mapS, this]
    | agg l => exact hV (.agg l)
    | msl n sz off len => exact hC (.msl n sz off len)
    | ref n sz i off => exact hC (.ref n sz i off)
    | _ => rfl
  intro w D vs hm hr
  have hm' := ren_mem ρ hm
  rw [hO] at hm'
  have hr' : ArgsRep w (D.ren ρ) args vs := by
    refine ⟨by simpa using hr.1, fun i x hx => ?_⟩
    have := hr.2 i (mapS (renC π.g) x) (by rw [List.getElem?_map, hx]; rfl)
    have := (ren_carry w D ρ).slot this
    rwa [hS] at this
  have hN : (D.ren ρ).N = D.N := ren_N D ρ
  refine (h w (D.ren ρ) vs (by rw [hN]; exact hm') hr').mono fun e w' hp => ?_
  obtain ⟨v, D', he, h1, h2, h3⟩ := hp
  refine ⟨v, D'.ren π, he, ?_, ?_, fun n d hn => ?_⟩
  · rw [CR.ren_objs]
    rw [hN] at h1
    exact ren_mem π h1
  · exact (ren_carry w' D' π).slot h2
  · refine h3 (π.f n) d ?_
    show D (π.g (π.f n)) = some d
    rw [π.gf]; exact hn

/-- There is a renaming that takes some names to others. -/
theorem perm_of : ∀ (cs ns : List Nat), cs.length = ns.length → cs.Nodup → ns.Nodup → (∀ n ∈ cs, n < top ∧ n ≠ rn) → (∀ n ∈ ns, n < top ∧ n ≠ rn) → ∃ π : Perm, cs.map π.g = ns
  | [], [], _, _, _, _, _ => ⟨Perm.id', rfl⟩
  | c :: cs, n :: ns, hl, hc, hn, hct, hnt => by
    simp only [List.nodup_cons] at hc hn
    obtain ⟨π, hπ⟩ := perm_of cs ns (by simpa using hl) hc.2 hn.2 (fun m hm => hct m (List.mem_cons_of_mem _ hm)) (fun m hm => hnt m (List.mem_cons_of_mem _ hm))
    -- behind π, the image of c and n change places
    have h1 : π.g c < top := π.glt (hct c (List.mem_cons_self ..)).1
    have h2 : π.g c ≠ rn := fun e => (hct c (List.mem_cons_self ..)).2 (by have := congrArg π.f e; rwa [π.fg, π.rn_] at this)
    obtain ⟨h3, h4⟩ := hnt n (List.mem_cons_self ..)
    refine ⟨π.comp (Perm.swap (π.g c) n h1 h3 h2 h4), ?_⟩
    have e : ∀ m, (π.comp (Perm.swap (π.g c) n h1 h3 h2 h4)).g m = swapN (π.g c) n (π.g m) := fun m => rfl
    simp only [List.map_cons, e]
    have hh : swapN (π.g c) n (π.g c) = n := by simp [swapN]
    rw [hh]
    congr 1
    rw [← hπ]
    apply List.map_congr_left
    intro m hm
    rw [e]
    unfold swapN
    rw [if_neg (fun e => hc.1 (by have := congrArg π.f e; rw [π.fg, π.fg] at this; rwa [← this])), if_neg (fun e => hn.1 (by rw [← hπ, ← e]; exact List.mem_map_of_mem hm))]
  | [], _ :: _, h, _, _, _, _ => by simp at h
  | _ :: _, [], h, _, _, _, _ => by simp at h

/-! typed arguments and answers -/
def CT.av : (c : CT) → c.T → AV
  | .ty t, x => t.av x
  | .ag ts, x => .agg (ts.avs x)
def argsAV (ν : Nat → Nat) : (l : List AT) → Nat → argsT l → List AV
  | [], _, _ => []
  | .v c :: l, i, x => c.av x.1 :: argsAV ν l (i + 1) x.2
  | .bx ts :: l, i, x => .ref (ν i) ts.len 0 0 :: argsAV ν l (i + 1) x.2
def osAV (ν : Nat → Nat) : (l : List AT) → Nat → argsT l → List (Nat × Obj)
  | [], _, _ => []
  | .v _ :: l, i, x => osAV ν l (i + 1) x.2
  | .bx ts :: l, i, x => (ν i, .box (ts.avs x.1)) :: osAV ν l (i + 1) x.2
def outsAV (ν : Nat → Nat) : (l : List AT) → Nat → outsT (bxsOf l) → List (Nat × Obj)
  | [], _, _ => []
  | .v _ :: l, i, x => outsAV ν l (i + 1) x
  | .bx ts :: l, i, x => (ν i, .box (ts.avs x.1)) :: outsAV ν l (i + 1) x.2
def compsAV : (l : List CT) → compsT l → List AV
  | [], _ => []
  | c :: l, x => c.av x.1 :: compsAV l x.2
def RT.av : (r : RT) → r.T → AV
  | .v c, x => c.av x
  | .tup l, x => .tup (compsAV l x)
  | .own ts, x => .msl rn ts.len 0 x.length
  | .box ts, _ => .ref rn ts.len 0 0
  | .unit, _ => .tup []
def RT.new : (r : RT) → r.T → Option Obj
  | .own ts, x => some (.arr ts.len (x.map ts.avs))
  | .box ts, x => some (.box (ts.avs x))
  | _, _ => none
def crAV (ν : Nat → Nat) (g : Sig) (r : g.R) : CR := ⟨g.ret.av r.1, outsAV ν g.args 0 r.2, g.ret.new r.1⟩
def canon (i : Nat) : Nat := 900000 + i
/-- A function's typed contract. -/
def TC (P : Program) (f : FuncId) (e : Entry) : Prop := ∀ x r, e.F x = some r → Contract P f (argsAV canon e.sig.args 0 x) (osAV canon e.sig.args 0 x) (crAV canon e.sig r)
def FTok (P : Program) (FT : List (Nat × Entry)) : Prop := ∀ f e, lkF FT f = some e → funOk P f = true ∧ TC P f e

/-! constants are not renamed -/
theorem ren_tav (h : Nat → Nat) : ∀ (t : Ty) (x : t.T), renC h (t.av x) = t.av x
  | .int _, _ => rfl
  | .bool, _ => rfl
  | .str, _ => rfl
  | .sl _, _ => rfl
theorem ren_avs (h : Nat → Nat) : ∀ (ts : Tys) (x : ts.T), (ts.avs x).map (renC h) = ts.avs x
  | .nil, _ => rfl
  | .cons t ts, x => by simp only [Tys.avs, List.map_cons, ren_tav, ren_avs h ts]
theorem mapS_tav (φ : AV → AV) (t : Ty) (x : t.T) : mapS φ (t.av x) = φ (t.av x) := by cases t <;> rfl
theorem ren_cav (h : Nat → Nat) (c : CT) (x : c.T) : mapS (renC h) (c.av x) = c.av x ∧ mapV (renC h) (c.av x) = c.av x := by
  cases c with
  | ty t => exact ⟨by show mapS _ (t.av x) = _; rw [mapS_tav, ren_tav]; rfl, by cases t <;> rfl⟩
  | ag ts => simp [CT.av, mapS, mapV, ren_avs]
theorem ren_args (π : Perm) (ν : Nat → Nat) : ∀ (l : List AT) (i : Nat) (x : argsT l), (argsAV ν l i x).map (mapS (renC π.g)) = argsAV (fun i => π.g (ν i)) l i x
  | [], _, _ => rfl
  | .v c :: l, i, x => by simp only [argsAV, List.map_cons, (ren_cav _ c x.1).1, ren_args π ν l]
  | .bx ts :: l, i, x => by simp only [argsAV, List.map_cons, ren_args π ν l]; rfl
theorem ren_os (π : Perm) (ν : Nat → Nat) : ∀ (l : List AT) (i : Nat) (x : argsT l), renO π.g (osAV ν l i x) = osAV (fun i => π.g (ν i)) l i x
  | [], _, _ => rfl
  | .v c :: l, i, x => by simp only [osAV, ren_os π ν l]
  | .bx ts :: l, i, x => by simp only [osAV, renO, ren_os π ν l, objMap, ren_avs]
theorem ren_outs (π : Perm) (ν : Nat → Nat) : ∀ (l : List AT) (i : Nat) (x : outsT (bxsOf l)), renO π.g (outsAV ν l i x) = outsAV (fun i => π.g (ν i)) l i x
  | [], _, _ => rfl
  | .v c :: l, i, x => ren_outs π ν l (i + 1) x
  | .bx ts :: l, i, x => by simp only [outsAV, renO, ren_outs π ν l, objMap, ren_avs]
theorem ren_comps (π : Perm) : ∀ (l : List CT) (x : compsT l), (compsAV l x).map (mapV (renC π.g)) = compsAV l x
  | [], _ => rfl
  | c :: l, x => by simp only [compsAV, List.map_cons, (ren_cav _ c x.1).2, ren_comps π l]
theorem ren_cr (π : Perm) (ν : Nat → Nat) (g : Sig) (r : g.R) : (crAV ν g r).ren π = crAV (fun i => π.g (ν i)) g r := by
  obtain ⟨args, ret⟩ := g
  simp only [CR.ren, crAV, ren_outs]
  congr 1
  · cases ret with
    | v c => exact (ren_cav _ c _).1
    | tup l => simp only [RT.av, mapS, ren_comps]
    | own ts => simp only [RT.av, mapS, mapV, renC, π.grn]
    | box ts => simp only [RT.av, mapS, mapV, renC, π.grn]
    | unit => rfl
  · cases ret with
    | box ts => simp [RT.new, objMap, ren_avs]
    | _ => rfl
theorem argsAV_congr {ν ν' : Nat → Nat} : ∀ (l : List AT) (i : Nat) (x : argsT l), (∀ j, ν j = ν' j) → argsAV ν l i x = argsAV ν' l i x := by
  intro l i x h
  have : ν = ν' := funext h
  rw [this]
end Go.Abs
