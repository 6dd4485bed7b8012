/- The walks' library, part E: what a region of the program does in an abstract state, and its soundness. -/
import Derived.MapKept
import Derived.Test.YtodandhnddjfpaaDoorLibD
/- Contracts: weakening, renaming; what typed arguments and answers stand for. -/
namespace Go.Abs
open Go.RowKit

theorem mem_le {w0 w : World} {M0 : Nat → Prop} {D : Names} {os os' : List (Nat × Obj)} (ho : leOs os os') (hm : Mem w0 M0 os D w) : Mem w0 M0 os' D w where
  dom := fun n hn => by rw [hm.dom n hn, (leOs_look ho).1]
  small := fun n hn => hm.small n (by rw [(leOs_look ho).1]; exact hn)
  rep := fun n o' d ho' hD => by
    obtain ⟨o, h1, h2⟩ := (leOs_look ho).2 o' ho'
    exact leO_rep h2 (hm.rep n o d h1 hD)
  inj := hm.inj
  lt := hm.lt
  own := hm.own
  grow := hm.grow
  os := hm.os
  tape := hm.tape
  output := hm.output
  glob := hm.glob

theorem contract_le {P : Program} {f : FuncId} {args args' : List AV} {os os' : List (Nat × Obj)} {r : CR} (h : Contract P f args' os' r) (ha : leE args args') (ho : leOs os os') : Contract P f args os r := by
  intro w D vs hm hr
  refine h w D vs (mem_le ho hm) ⟨by rw [hr.1, ha.1], fun i y hy => ?_⟩
  obtain ⟨x, hx, hxy⟩ := ha.2 i y hy
  exact leS_slot hxy (hr.2 i x hx)

/-! renaming -/
structure Perm where
  f : Nat → Nat
  g : Nat → Nat
  fg : ∀ n, f (g n) = n
  gf : ∀ n, g (f n) = n
  top_ : ∀ n, top ≤ n → f n = n
  rn_ : f rn = rn
theorem Perm.gtop (π : Perm) {n : Nat} (h : top ≤ n) : π.g n = n := by have := π.gf n; rw [π.top_ n h] at this; exact this
theorem Perm.grn (π : Perm) : π.g rn = rn := by have := π.gf rn; rw [π.rn_] at this; exact this
theorem Perm.flt (π : Perm) {n : Nat} (h : n < top) : π.f n < top := by
  rcases Nat.lt_or_ge (π.f n) top with h1 | h1
  · exact h1
  · have := π.gf n
    rw [π.gtop h1] at this
    omega
theorem Perm.glt (π : Perm) {n : Nat} (h : n < top) : π.g n < top := by
  rcases Nat.lt_or_ge (π.g n) top with h1 | h1
  · exact h1
  · have := π.fg n
    rw [π.top_ _ h1] at this
    omega
def Perm.id' : Perm := ⟨id, id, fun _ => rfl, fun _ => rfl, fun _ _ => rfl, rfl⟩
def swapN (a b n : Nat) : Nat := if n = a then b else if n = b then a else n
theorem swapN_swapN (a b n : Nat) : swapN a b (swapN a b n) = n := by
  unfold swapN
  by_cases h1 : n = a
  · subst h1
    by_cases h2 : b = n <;> simp [h2]
  · by_cases h2 : n = b
    · subst h2; simp [h1]
    · simp [h1, h2]
def Perm.swap (a b : Nat) (ha : a < top) (hb : b < top) (ha' : a ≠ rn) (hb' : b ≠ rn) : Perm :=
  ⟨swapN a b, swapN a b, swapN_swapN a b, swapN_swapN a b, fun n hn => by unfold swapN; rw [if_neg (by omega), if_neg (by omega)], by unfold swapN; rw [if_neg (Ne.symm ha'), if_neg (Ne.symm hb')]⟩
def Perm.comp (π ρ : Perm) : Perm :=
  ⟨fun n => π.f (ρ.f n), fun n => ρ.g (π.g n), fun n => by simp [π.fg, ρ.fg], fun n => by simp [π.gf, ρ.gf], fun n hn => by rw [ρ.top_ n hn, π.top_ n hn], by rw [ρ.rn_, π.rn_]⟩

def renC (h : Nat → Nat) : AV → AV
  | .msl n sz off len => .msl (h n) sz off len
  | .ref n sz i off => .ref (h n) sz i off
  | .wrp f ns => .wrp f (ns.map h)
  | x => x
def renO (h : Nat → Nat) : List (Nat × Obj) → List (Nat × Obj)
  | [] => []
  | (n, o) :: r => (h n, objMap (renC h) o) :: renO h r
theorem look_renO (π : Perm) (n : Nat) : ∀ l, look (π.g n) (renO π.g l) = (look n l).map (objMap (renC π.g))
  | [] => rfl
  | (m, o) :: r => by
    have ih := look_renO π n r
    by_cases h : m = n
    · subst h; simp [renO, look]
    · have : π.g m ≠ π.g n := fun e => h (by have := congrArg π.f e; simpa [π.fg] using this)
      simp [renO, look, h, this, ih]
theorem look_renO' (π : Perm) (n : Nat) (l : List (Nat × Obj)) : look n (renO π.g l) = (look (π.f n) l).map (objMap (renC π.g)) := by
  have := look_renO π (π.f n) l
  rwa [π.gf] at this
def Names.ren (D : Names) (π : Perm) : Names := fun n => D (π.f n)
theorem ren_M (D : Names) (π : Perm) : (D.ren π).M = D.M := by
  funext b
  apply propext
  constructor
  · rintro ⟨n, h⟩; exact ⟨π.f n, h⟩
  · rintro ⟨n, h⟩; exact ⟨π.g n, by show D (π.f (π.g n)) = _; rw [π.fg]; exact h⟩
theorem ren_N (D : Names) (π : Perm) : (D.ren π).N = D.N := by
  funext b
  apply propext
  constructor
  · rintro ⟨n, hn, h⟩; exact ⟨π.f n, π.flt hn, h⟩
  · rintro ⟨n, hn, h⟩; exact ⟨π.g n, π.glt hn, by show D (π.f (π.g n)) = _; rw [π.fg]; exact h⟩
theorem ren_cell {w : World} {D : Names} (π : Perm) {x : AV} {v : Value} (h : Cell w D x v) : Cell w (D.ren π) (renC π.g x) v := by
  cases x with
  | msl n sz off len =>
    rcases h with ⟨h1, h2⟩ | ⟨b, cap, N, h1, h2⟩
    · exact .inl ⟨by show (D (π.f (π.g n))).isSome = true; rw [π.fg]; exact h1, h2⟩
    · exact .inr ⟨b, cap, N, by show D (π.f (π.g n)) = _; rw [π.fg]; exact h1, h2⟩
  | ref n sz i off => obtain ⟨b, h1, h2⟩ := h; exact ⟨b, by show D (π.f (π.g n)) = _; rw [π.fg]; exact h1, h2⟩
  | wrp f ns =>
    obtain ⟨bs, h1, h2, h3⟩ := h
    refine ⟨bs, by rw [h1, List.length_map], fun i n b hn hb => ?_, h3⟩
    rw [List.getElem?_map] at hn
    obtain ⟨m, hm, rfl⟩ := Option.map_eq_some_iff.1 hn
    show D (π.f (π.g m)) = _
    rw [π.fg]; exact h2 i m b hm hb
  | _ => simp only [Cell, renC] at h ⊢; rw [ren_M]; exact h
theorem ren_carry (w : World) (D : Names) (π : Perm) : Carry w w D (D.ren π) (renC π.g) := ⟨fun _ _ h => ren_cell π h⟩
theorem ren_rep {w : World} {D : Names} (π : Perm) {o : Obj} {d : Option Nat} (h : ObjRep w D o d) : ObjRep w (D.ren π) (objMap (renC π.g) o) d := by
  cases o with
  | box cs =>
    cases d with
    | none => exact h.elim
    | some b =>
      obtain ⟨vs, T, h1, h2, h3⟩ := h
      refine ⟨vs, T, h1, by simp [h2], fun i x hx => ?_⟩
      rw [List.getElem?_map] at hx
      obtain ⟨y, hy, rfl⟩ := Option.map_eq_some_iff.1 hx
      exact ⟨ren_cell π (h3 i y hy).1, (h3 i y hy).2⟩
  | arr sz l =>
    cases d with
    | none => exact h
    | some b =>
      obtain ⟨vs, T, fz, h1, h2, h3, h4, h5, h6⟩ := h
      exact ⟨vs, T, fz, h1, h2, h3, h4, h5, fun j cs i x hj hx => by rw [ren_M]; exact h6 j cs i x hj hx⟩
  | mp kk k l =>
    cases d with
    | none => exact h.elim
    | some b => exact h
theorem ren_mem {w0 w : World} {M0 : Nat → Prop} {D : Names} {objs : List (Nat × Obj)} (π : Perm) (hm : Mem w0 M0 objs D w) : Mem w0 M0 (renO π.g objs) (D.ren π) w where
  dom := fun n hn => by
    rw [look_renO']
    show (D (π.f n)).isSome = _
    rw [hm.dom _ (π.flt hn)]
    cases look (π.f n) objs <;> rfl
  small := fun n hn => by
    rw [look_renO'] at hn
    have h1 : (look (π.f n) objs).isSome = true := by revert hn; cases look (π.f n) objs <;> simp
    have h2 := hm.small _ h1
    rcases Nat.lt_or_ge n top with h | h
    · exact h
    · rw [π.top_ n h] at h2; omega
  rep := fun n o d ho hD => by
    rw [look_renO'] at ho
    obtain ⟨o', ho', rfl⟩ := Option.map_eq_some_iff.1 ho
    exact ren_rep π (hm.rep _ o' d ho' hD)
  inj := fun n m b h1 h2 => by
    have := hm.inj _ _ b h1 h2
    have := congrArg π.g this
    simpa [π.gf] using this
  lt := fun b hb => hm.lt b (by rw [← ren_M D π]; exact hb)
  own := fun b hb => hm.own b (by rw [← ren_N D π]; exact hb)
  grow := hm.grow
  os := hm.os
  tape := hm.tape
  output := hm.output
  glob := by rw [ren_M]; exact hm.glob

def CR.ren (π : Perm) (r : CR) : CR := ⟨mapS (renC π.g) r.x, renO π.g r.os, r.new.map (objMap (renC π.g))⟩
theorem CR.ren_objs (π : Perm) (r : CR) : (r.ren π).objs = renO π.g r.objs := by
  obtain ⟨x, os, new⟩ := r
  cases new with
  | none => rfl
  | some o => simp [CR.ren, CR.objs, renO, π.grn]

/-- A contract under other names. -/
theorem contract_ren {P : Program} {f : FuncId} {args : List AV} {os : List (Nat × Obj)} {r : CR} (π : Perm) (h : Contract P f args os r) : Contract P f (args.map (mapS (renC π.g))) (renO π.g os) (r.ren π) := by
  let ρ : Perm := ⟨π.g, π.f, π.gf, π.fg, fun n hn => π.gtop hn, π.grn⟩
  have hρ : ∀ D : Names, (D.ren ρ).ren π = D := fun D => by funext n; show D (π.g (π.f n)) = D n; rw [π.gf]
  have hC : ∀ x, renC ρ.g (renC π.g x) = x := by
    intro x
    cases x with
    | msl n sz off len => show AV.msl (π.f (π.g n)) sz off len = _; rw [π.fg]
    | ref n sz i off => show AV.ref (π.f (π.g n)) sz i off = _; rw [π.fg]
    | wrp f ns =>
      show AV.wrp f ((ns.map π.g).map π.f) = _
      rw [List.map_map, show (π.f ∘ π.g) = id from funext π.fg, List.map_id]
    | _ => rfl
  have hO : ∀ l, renO ρ.g (renO π.g l) = l := by
    intro l
    induction l with
    | nil => rfl
    | cons p l ih =>
      obtain ⟨n, o⟩ := p
      simp only [renO, ih]
      have e1 : ρ.g (π.g n) = n := π.fg n
      rw [e1]
      cases o with
      | box cs =>
        have : (renC ρ.g) ∘ (renC π.g) = id := funext hC
        simp [objMap, this]
      | arr sz l => rfl
      | mp _ _ _ => rfl
  have hS : ∀ x, mapS (renC ρ.g) (mapS (renC π.g) x) = x := by
    have hid : (renC ρ.g) ∘ (renC π.g) = id := funext hC
    have hV : ∀ x, mapV (renC ρ.g) (mapV (renC π.g) x) = x := by
      intro x
      cases x with
      | agg l => simp [mapV, hid]
      | msl n sz off len => exact hC (.msl n sz off len)
      | ref n sz i off => exact hC (.ref n sz i off)
      | wrp f ns => exact hC (.wrp f ns)
      | _ => rfl
    intro x
    cases x with
    | tup l =>
      have : (mapV (renC ρ.g)) ∘ (mapV (renC π.g)) = id := funext hV
      simp [mapS, this]
    | agg l => exact hV (.agg l)
    | msl n sz off len => exact hC (.msl n sz off len)
    | ref n sz i off => exact hC (.ref n sz i off)
    | wrp f ns => exact hC (.wrp f ns)
    | _ => rfl
  intro w D vs hm hr
  have hm' := ren_mem ρ hm
  rw [hO] at hm'
  have hr' : ArgsRep w (D.ren ρ) args vs := by
    refine ⟨by simpa using hr.1, fun i x hx => ?_⟩
    have := hr.2 i (mapS (renC π.g) x) (by rw [List.getElem?_map, hx]; rfl)
    have := (ren_carry w D ρ).slot this
    rwa [hS] at this
  have hN : (D.ren ρ).N = D.N := ren_N D ρ
  refine (h w (D.ren ρ) vs (by rw [hN]; exact hm') hr').mono fun e w' hp => ?_
  obtain ⟨v, D', he, h1, h2, h3⟩ := hp
  refine ⟨v, D'.ren π, he, ?_, ?_, fun n d hn => ?_⟩
  · rw [CR.ren_objs]
    rw [hN] at h1
    exact ren_mem π h1
  · exact (ren_carry w' D' π).slot h2
  · refine h3 (π.f n) d ?_
    show D (π.g (π.f n)) = some d
    rw [π.gf]; exact hn

/-- There is a renaming that takes some names to others. -/
theorem perm_of : ∀ (cs ns : List Nat), cs.length = ns.length → cs.Nodup → ns.Nodup → (∀ n ∈ cs, n < top ∧ n ≠ rn) → (∀ n ∈ ns, n < top ∧ n ≠ rn) → ∃ π : Perm, cs.map π.g = ns
  | [], [], _, _, _, _, _ => ⟨Perm.id', rfl⟩
  | c :: cs, n :: ns, hl, hc, hn, hct, hnt => by
    simp only [List.nodup_cons] at hc hn
    obtain ⟨π, hπ⟩ := perm_of cs ns (by simpa using hl) hc.2 hn.2 (fun m hm => hct m (List.mem_cons_of_mem _ hm)) (fun m hm => hnt m (List.mem_cons_of_mem _ hm))
    -- behind π, the image of c and n change places
    have h1 : π.g c < top := π.glt (hct c (List.mem_cons_self ..)).1
    have h2 : π.g c ≠ rn := fun e => (hct c (List.mem_cons_self ..)).2 (by have := congrArg π.f e; rwa [π.fg, π.rn_] at this)
    obtain ⟨h3, h4⟩ := hnt n (List.mem_cons_self ..)
    refine ⟨π.comp (Perm.swap (π.g c) n h1 h3 h2 h4), ?_⟩
    have e : ∀ m, (π.comp (Perm.swap (π.g c) n h1 h3 h2 h4)).g m = swapN (π.g c) n (π.g m) := fun m => rfl
    simp only [List.map_cons, e]
    have hh : swapN (π.g c) n (π.g c) = n := by simp [swapN]
    rw [hh]
    congr 1
    rw [← hπ]
    apply List.map_congr_left
    intro m hm
    rw [e]
    unfold swapN
    rw [if_neg (fun e => hc.1 (by have := congrArg π.f e; rw [π.fg, π.fg] at this; rwa [← this])), if_neg (fun e => hn.1 (by rw [← hπ, ← e]; exact List.mem_map_of_mem hm))]
  | [], _ :: _, h, _, _, _, _ => by simp at h
  | _ :: _, [], h, _, _, _, _ => by simp at h

/-! typed arguments and answers -/
def CT.av : (c : CT) → c.T → AV
  | .ty t, x => t.av x
  | .ag ts, x => .agg (ts.avs x)
def argsAV (ν : Nat → Nat) : (l : List AT) → Nat → argsT l → List AV
  | [], _, _ => []
  | .v c :: l, i, x => c.av x.1 :: argsAV ν l (i + 1) x.2
  | .bx ts :: l, i, x => .ref (ν i) ts.len 0 0 :: argsAV ν l (i + 1) x.2
def osAV (ν : Nat → Nat) : (l : List AT) → Nat → argsT l → List (Nat × Obj)
  | [], _, _ => []
  | .v _ :: l, i, x => osAV ν l (i + 1) x.2
  | .bx ts :: l, i, x => (ν i, .box (ts.avs x.1)) :: osAV ν l (i + 1) x.2
def outsAV (ν : Nat → Nat) : (l : List AT) → Nat → outsT (bxsOf l) → List (Nat × Obj)
  | [], _, _ => []
  | .v _ :: l, i, x => outsAV ν l (i + 1) x
  | .bx ts :: l, i, x => (ν i, .box (ts.avs x.1)) :: outsAV ν l (i + 1) x.2
def compsAV : (l : List CT) → compsT l → List AV
  | [], _ => []
  | c :: l, x => c.av x.1 :: compsAV l x.2
def RT.av : (r : RT) → r.T → AV
  | .v c, x => c.av x
  | .tup l, x => .tup (compsAV l x)
  | .own ts, x => .msl rn ts.len 0 x.length
  | .box ts, _ => .ref rn ts.len 0 0
  | .unit, _ => .tup []
def RT.new : (r : RT) → r.T → Option Obj
  | .own ts, x => some (.arr ts.len (x.map ts.avs))
  | .box ts, x => some (.box (ts.avs x))
  | _, _ => none
def crAV (ν : Nat → Nat) (g : Sig) (r : g.R) : CR := ⟨g.ret.av r.1, outsAV ν g.args 0 r.2, g.ret.new r.1⟩
def canon (i : Nat) : Nat := 900000 + i
/-- A function's typed contract. -/
def TC (P : Program) (f : FuncId) (e : Entry) : Prop := ∀ x r, e.F x = some r → Contract P f (argsAV canon e.sig.args 0 x) (osAV canon e.sig.args 0 x) (crAV canon e.sig r)
def FTok (P : Program) (FT : List (Nat × Entry)) : Prop := ∀ f e, lkF FT f = some e → funOk P f = true ∧ TC P f e

/-! constants are not renamed -/
theorem ren_tav (h : Nat → Nat) : ∀ (t : Ty) (x : t.T), renC h (t.av x) = t.av x
  | .int _, _ => rfl
  | .bool, _ => rfl
  | .str, _ => rfl
  | .sl _, _ => rfl
theorem ren_avs (h : Nat → Nat) : ∀ (ts : Tys) (x : ts.T), (ts.avs x).map (renC h) = ts.avs x
  | .nil, _ => rfl
  | .cons t ts, x => by simp only [Tys.avs, List.map_cons, ren_tav, ren_avs h ts]
theorem mapS_tav (φ : AV → AV) (t : Ty) (x : t.T) : mapS φ (t.av x) = φ (t.av x) := by cases t <;> rfl
theorem ren_cav (h : Nat → Nat) (c : CT) (x : c.T) : mapS (renC h) (c.av x) = c.av x ∧ mapV (renC h) (c.av x) = c.av x := by
  cases c with
  | ty t => exact ⟨by show mapS _ (t.av x) = _; rw [mapS_tav, ren_tav]; rfl, by cases t <;> rfl⟩
  | ag ts => simp [CT.av, mapS, mapV, ren_avs]
theorem ren_args (π : Perm) (ν : Nat → Nat) : ∀ (l : List AT) (i : Nat) (x : argsT l), (argsAV ν l i x).map (mapS (renC π.g)) = argsAV (fun i => π.g (ν i)) l i x
  | [], _, _ => rfl
  | .v c :: l, i, x => by simp only [argsAV, List.map_cons, (ren_cav _ c x.1).1, ren_args π ν l]
  | .bx ts :: l, i, x => by simp only [argsAV, List.map_cons, ren_args π ν l]; rfl
theorem ren_os (π : Perm) (ν : Nat → Nat) : ∀ (l : List AT) (i : Nat) (x : argsT l), renO π.g (osAV ν l i x) = osAV (fun i => π.g (ν i)) l i x
  | [], _, _ => rfl
  | .v c :: l, i, x => by simp only [osAV, ren_os π ν l]
  | .bx ts :: l, i, x => by simp only [osAV, renO, ren_os π ν l, objMap, ren_avs]
theorem ren_outs (π : Perm) (ν : Nat → Nat) : ∀ (l : List AT) (i : Nat) (x : outsT (bxsOf l)), renO π.g (outsAV ν l i x) = outsAV (fun i => π.g (ν i)) l i x
  | [], _, _ => rfl
  | .v c :: l, i, x => ren_outs π ν l (i + 1) x
  | .bx ts :: l, i, x => by simp only [outsAV, renO, ren_outs π ν l, objMap, ren_avs]
theorem ren_comps (π : Perm) : ∀ (l : List CT) (x : compsT l), (compsAV l x).map (mapV (renC π.g)) = compsAV l x
  | [], _ => rfl
  | c :: l, x => by simp only [compsAV, List.map_cons, (ren_cav _ c x.1).2, ren_comps π l]
theorem ren_cr (π : Perm) (ν : Nat → Nat) (g : Sig) (r : g.R) : (crAV ν g r).ren π = crAV (fun i => π.g (ν i)) g r := by
  obtain ⟨args, ret⟩ := g
  simp only [CR.ren, crAV, ren_outs]
  congr 1
  · cases ret with
    | v c => exact (ren_cav _ c _).1
    | tup l => simp only [RT.av, mapS, ren_comps]
    | own ts => simp only [RT.av, mapS, mapV, renC, π.grn]
    | box ts => simp only [RT.av, mapS, mapV, renC, π.grn]
    | unit => rfl
  · cases ret with
    | box ts => simp [RT.new, objMap, ren_avs]
    | _ => rfl
theorem argsAV_congr {ν ν' : Nat → Nat} : ∀ (l : List AT) (i : Nat) (x : argsT l), (∀ j, ν j = ν' j) → argsAV ν l i x = argsAV ν' l i x := by
  intro l i x h
  have : ν = ν' := funext h
  rw [this]
end Go.Abs

/- Calls: soundness. -/
namespace Go.Abs
open Go.RowKit

open Classical in
noncomputable def one (f : FuncId) (as : List AV) (os : List (Nat × Obj)) (r : CR) : Table := fun f' as' os' => if f' = f ∧ as' = as ∧ os' = os then some r else none
theorem one_eq (f : FuncId) (as : List AV) (os : List (Nat × Obj)) (r : CR) : one f as os r f as os = some r := by unfold one; rw [if_pos ⟨rfl, rfl, rfl⟩]
theorem one_sound {P : Program} {f : FuncId} {as : List AV} {os : List (Nat × Obj)} {r : CR} (hf : funOk P f = true) (hc : Contract P f as os r) : Sound P (one f as os r) := by
  intro f' as' os' r' h
  unfold one at h
  split at h
  · rename_i e
    obtain ⟨rfl, rfl, rfl⟩ := e
    simp only [Option.some.injEq] at h; subst h
    exact ⟨hf, hc⟩
  · cases h

theorem toT_le {O : SObjs} {t : Ty} {x : CV} {a : t.T} (h : toT O t x = some a) (hn : ∀ n, x ≠ .own n) : leC (x.av O) (t.av a) := by
  cases x with
  | k v =>
    simp only [toT] at h
    have := to_kv t v a h
    subst this
    show leC (t.kv a).av _
    rw [kv_av]; exact .rfl' _
  | nsl =>
    cases t with
    | sl ts =>
      simp only [toT, Option.some.injEq] at h; subst h
      exact .inr (.inr ⟨rfl, _, rfl⟩)
    | _ => simp [toT] at h
  | own n => exact absurd rfl (hn n)
  | _ => cases t <;> simp [toT] at h
theorem toT_own {O : SObjs} {t : Ty} {n : Nat} {a : t.T} (h : toT O t (.own n) = some a) : ∃ ts l, lookS n O = some (.arr ts l) ∧ t.av a = .sl ts.len (l.map ts.avs) := by
  cases t with
  | sl ts =>
    simp only [toT] at h
    split at h
    · rename_i us l hl
      split at h
      · rename_i hb
        have e := Tys.beq_eq us ts hb
        subst e
        simp only [Option.some.injEq] at h; subst h
        exact ⟨_, _, hl, rfl⟩
      · cases h
    · cases h
  | _ => simp [toT] at h
theorem toT_cases {O : SObjs} {t : Ty} {x : CV} {a : t.T} (h : toT O t x = some a) : (∃ n, x = .own n) ∨ ((∀ n, x ≠ .own n) ∧ nfC (x.av O) = true ∧ plainCC x = true) := by
  cases x with
  | own n => exact .inl ⟨n, rfl⟩
  | k v => exact .inr ⟨by simp, by cases v <;> rfl, rfl⟩
  | nsl => exact .inr ⟨by simp, rfl, rfl⟩
  | _ => cases t <;> simp [toT] at h

theorem nfV_of {O : SObjs} {l : List CV} (h : l.all plainCC = true) : (l.map (CV.av O)).all nfC = true := by
  rw [List.all_map]
  rw [List.all_eq_true] at h ⊢
  intro x hx
  have := h x hx
  cases x with
  | k v => cases v <;> rfl
  | nsl => rfl
  | at_ cs => rfl
  | cst c => rfl
  | _ => simp [plainCC] at this

theorem lend_cell {O : SObjs} {t : Ty} {x : CV} {a : t.T} (h : toT O t x = some a) : ∃ y, lendC (objsAV O O) (x.av O) = some y ∧ leC y (t.av a) ∧ nfC y = true := by
  rcases toT_cases h with ⟨n, rfl⟩ | ⟨hn, hnf, _⟩
  · obtain ⟨ts, l, hl, e⟩ := toT_own h
    refine ⟨.sl ts.len (l.map ts.avs), ?_, ?_, rfl⟩
    · have hv : viewSl (objsAV O O) ts.len (.msl n ts.len 0 l.length) = some (l.map ts.avs) := by
        have e2 : List.take l.length (List.map ts.avs l) = List.map ts.avs l := List.take_of_length_le (by simp)
        simp [viewSl, lookS_av, hl, SO.av, e2]
      simp only [CV.av, hl, lendC, hv, Option.map_some]
    · rw [e]; exact .rfl' _
  · refine ⟨x.av O, ?_, toT_le h hn, hnf⟩
    cases hx : x.av O with
    | msl => rw [hx] at hnf; simp [nfC] at hnf
    | _ => rfl
theorem lend_cells {O : SObjs} : ∀ {ts : Tys} {l : List CV} {x : ts.T}, toTs O ts l = some x → ∃ ys, (l.map (CV.av O)).mapM (lendC (objsAV O O)) = some ys ∧ leL ys (ts.avs x) ∧ ys.all nfC = true
  | .nil, [], _, _ => ⟨[], rfl, leL.rfl' _, rfl⟩
  | .nil, _ :: _, _, h => by simp [toTs] at h
  | .cons _ _, [], _, h => by simp [toTs] at h
  | .cons t ts, c :: l, x, h => by
    simp only [toTs] at h
    split at h
    case h_2 => cases h
    rename_i a b h1 h2
    cases h
    obtain ⟨y, g1, g2, g3⟩ := lend_cell h1
    obtain ⟨ys, k1, k2, k3⟩ := lend_cells h2
    refine ⟨y :: ys, by simp [List.mapM_cons, g1, k1], ?_, by simp [g3, k3]⟩
    exact leL.append (a := [y]) (b := [t.av a]) ⟨rfl, fun i z hz => by
      cases i with
      | zero => simp at hz; subst hz; exact ⟨y, rfl, g2⟩
      | succ i => simp at hz⟩ k2
/-- nothing that is owned lies in it -/
theorem plain_cells {O : SObjs} : ∀ {ts : Tys} {l : List CV} {x : ts.T}, toTs O ts l = some x → firstC l = none → leL (l.map (CV.av O)) (ts.avs x) ∧ (l.map (CV.av O)).all nfC = true
  | .nil, [], _, _, _ => ⟨leL.rfl' _, rfl⟩
  | .nil, _ :: _, _, h, _ => by simp [toTs] at h
  | .cons _ _, [], _, h, _ => by simp [toTs] at h
  | .cons t ts, c :: l, x, h, hf => by
    simp only [toTs] at h
    split at h
    case h_2 => cases h
    rename_i a b h1 h2
    cases h
    have hno : ∀ n, c ≠ .own n := by intro n e; subst e; simp [firstC] at hf
    have hf2 : firstC l = none := by
      cases c <;> first | exact hf | (simp [firstC] at hf; done)
    obtain ⟨k1, k2⟩ := plain_cells h2 hf2
    rcases toT_cases h1 with ⟨n, e⟩ | ⟨hn, hnf, _⟩
    · exact absurd e (hno n)
    · refine ⟨leL.append (a := [c.av O]) (b := [t.av a]) ⟨rfl, fun i z hz => by
        cases i with
        | zero => simp at hz; subst hz; exact ⟨c.av O, rfl, toT_le h1 hn⟩
        | succ i => simp at hz⟩ k1, by simp only [List.map_cons, List.all_cons, hnf, k2, Bool.and_self]⟩

/-- An argument as it is lent. -/
theorem lend_arg {O : SObjs} {c : CT} {x : SV} {a : c.T} (h : toCT O c x = some a) : ∃ y, lend (objsAV O O) (x.av O) = some y ∧ leS y (c.av a) ∧ nf y = true := by
  unfold toCT at h
  split at h
  · rename_i t x
    rcases toT_cases h with ⟨n, rfl⟩ | ⟨hn, hnf, _⟩
    · obtain ⟨ts, l, hl, e⟩ := toT_own h
      refine ⟨.sl ts.len (l.map ts.avs), ?_, ?_, rfl⟩
      · have hv : viewSl (objsAV O O) ts.len (.msl n ts.len 0 l.length) = some (l.map ts.avs) := by
          have e2 : List.take l.length (List.map ts.avs l) = List.map ts.avs l := List.take_of_length_le (by simp)
          simp [viewSl, lookS_av, hl, SO.av, e2]
        simp only [SV.av, VV.av, CV.av, hl, lend, lendC, hv, Option.map_some]
      · show leS _ (t.av a)
        rw [e]; exact .rfl' _
    · have hle := toT_le h hn
      have key : ∀ y : AV, (∀ l, y ≠ .agg l) → (∀ l, y ≠ .tup l) → nfC y = true → lend (objsAV O O) y = some y ∧ nf y = true := by
        intro y h1 h2 h3
        cases y with
        | agg l => exact absurd rfl (h1 l)
        | tup l => exact absurd rfl (h2 l)
        | msl => simp [nfC] at h3
        | ref => simp [nfC] at h3
        | wrp => simp [nfC] at h3
        | _ => exact ⟨rfl, rfl⟩
      obtain ⟨k1, k2⟩ := key (x.av O) (not_agg.1) (not_agg.2) hnf
      refine ⟨_, k1, ?_, k2⟩
      show leS (x.av O) (t.av a)
      cases hx : x.av O with
      | agg l => exact absurd hx (not_agg.1 l)
      | tup l => exact absurd hx (not_agg.2 l)
      | _ => rw [hx] at hle; exact hle
  · rename_i ts l
    obtain ⟨ys, h1, h2, h3⟩ := lend_cells h
    refine ⟨.agg ys, ?_, .inr ⟨_, rfl, h2⟩, h3⟩
    simp only [SV.av, VV.av, lend, h1, Option.map_some]
  · cases h

def noBx : List AT → Bool
  | [] => true
  | .v _ :: l => noBx l
  | .bx _ :: _ => false
theorem noBx_of : ∀ {l : List AT}, (bxsOf l).isEmpty = true → noBx l = true
  | [], _ => rfl
  | .v _ :: l, h => noBx_of (l := l) h
  | .bx _ :: l, h => by simp [bxsOf] at h

theorem leE_cons {x y : AV} {l m : List AV} (h : leS x y) (k : leE l m) : leE (x :: l) (y :: m) := by
  refine ⟨by simp [k.1], fun i z hz => ?_⟩
  cases i with
  | zero => simp only [List.getElem?_cons_zero, Option.some.injEq] at hz ⊢; subst hz; exact ⟨x, rfl, h⟩
  | succ i => simp only [List.getElem?_cons_succ] at hz ⊢; exact k.2 i z hz

theorem lend_args {O : SObjs} {ν : Nat → Nat} : ∀ {l : List AT} {xs : List SV} {i : Nat} {a : argsT l}, noBx l = true → toArgs O l xs = some a →
    ∃ ys, (xs.map (SV.av O)).mapM (lend (objsAV O O)) = some ys ∧ leE ys (argsAV ν l i a) ∧ ys.all nf = true
  | [], [], i, a, _, _ => ⟨[], rfl, leE.rfl' _, rfl⟩
  | [], _ :: _, i, a, _, h => by simp [toArgs] at h
  | _ :: _, [], i, a, _, h => by simp [toArgs] at h
  | .bx _ :: _, _ :: _, i, a, hb, h => by simp [noBx] at hb
  | .v c :: l, x :: xs, i, a, hb, h => by
    simp only [toArgs] at h
    split at h
    · rename_i p q h1 h2
      simp only [Option.some.injEq] at h; subst h
      obtain ⟨ys, k1, k2, k3⟩ := lend_args (l := l) (ν := ν) (i := i + 1) hb h2
      obtain ⟨y, g1, g2, g3⟩ := lend_arg (c := c) h1
      refine ⟨y :: ys, ?_, leE_cons g2 k2, by simp [g3, k3]⟩
      simp only [List.map_cons, List.mapM_cons, g1, k1]
      rfl
    · cases h

def bxPos : List AT → Nat → List Nat
  | [], _ => []
  | .bx _ :: l, i => i :: bxPos l (i + 1)
  | .v _ :: l, i => bxPos l (i + 1)

theorem firstC_cons {x : CV} {l : List CV} (h : firstC (x :: l) = none) : (∀ n, x ≠ .own n) ∧ (∀ n a b c, x ≠ .msl n a b c) ∧ firstC l = none := by
  cases x <;> simp_all [firstC]
theorem firstC_app {a b : List CV} (hab : firstC (a ++ b) = none) : firstC a = none ∧ firstC b = none := by
  induction a with
  | nil => exact ⟨rfl, hab⟩
  | cons x a ih => cases x <;> simp only [List.cons_append, firstC, reduceCtorEq] at hab <;> simp only [firstC] <;> exact ih hab

/-- Arguments as they are given. -/
theorem give_args {O : SObjs} {ν : Nat → Nat} : ∀ {l : List AT} {xs : List SV} {i : Nat} {a : argsT l}, toArgs O l xs = some a → firstC (xs.flatMap cellsOfS) = none → (bxPos l i).map ν = bxNames l xs →
    leE (xs.map (SV.av O)) (argsAV ν l i a) ∧ (xs.map (SV.av O)).all argOk = true ∧ refsOf (xs.map (SV.av O)) = bxNames l xs ∧ (∀ n ∈ bxNames l xs, ∃ cs, lookS n O = some (.box cs) ∧ cs.all plainCC = true) ∧
      leOs (lookAll (bxNames l xs) (objsAV O O)) (osAV ν l i a)
  | [], [], i, a, _, _, _ => ⟨leE.rfl' _, rfl, rfl, by simp [bxNames], trivial⟩
  | [], _ :: _, i, a, h, _, _ => by simp [toArgs] at h
  | _ :: _, [], i, a, h, _, _ => by simp [toArgs] at h
  | .v c :: l, x :: xs, i, a, h, hf, hν => by
    simp only [toArgs] at h
    split at h
    · rename_i p q h1 h2
      simp only [Option.some.injEq] at h; subst h
      simp only [List.flatMap_cons] at hf
      obtain ⟨f1, f2⟩ := firstC_app hf
      obtain ⟨k1, k2, k3, k4, k5⟩ := give_args (l := l) (ν := ν) (i := i + 1) h2 f2 hν
      have hx : leS (x.av O) (c.av p) ∧ argOk (x.av O) = true ∧ refsOf [x.av O] = [] := by
        have h1 : toCT O c x = some p := h1
        cases c with
        | ty t =>
          cases x with
          | tup l => simp [toCT] at h1
          | v x =>
            cases x with
            | g l => simp [toCT] at h1
            | c y =>
              simp only [toCT] at h1
              have hno : ∀ n, y ≠ .own n := by
                intro n e; subst e; simp [cellsOfS, firstC] at f1
              rcases toT_cases h1 with ⟨n, e⟩ | ⟨hn, hnf, _⟩
              · exact absurd e (hno n)
              · have hle := toT_le h1 hn
                show leS (y.av O) (t.av p) ∧ argOk (y.av O) = true ∧ refsOf [y.av O] = []
                cases hxa : y.av O with
                | agg l => exact absurd hxa (not_agg.1 l)
                | tup l => exact absurd hxa (not_agg.2 l)
                | msl => rw [hxa] at hnf; simp [nfC] at hnf
                | ref => rw [hxa] at hnf; simp [nfC] at hnf
                | wrp => rw [hxa] at hnf; simp [nfC] at hnf
                | _ =>
                  rw [hxa] at hle
                  exact ⟨hle, rfl, rfl⟩
        | ag ts =>
          cases x with
          | tup l => simp [toCT] at h1
          | v x =>
            cases x with
            | c y => simp [toCT] at h1
            | g l' =>
              simp only [toCT] at h1
              obtain ⟨g1, hnf⟩ := plain_cells (O := O) h1 (by simpa [cellsOfS] using f1)
              exact ⟨.inr ⟨_, rfl, g1⟩, hnf, rfl⟩
      refine ⟨leE_cons hx.1 k1, by simp only [List.map_cons, List.all_cons, hx.2.1, k2, Bool.and_self], ?_, k4, k5⟩
      have e1 : refsOf ((x :: xs).map (SV.av O)) = refsOf [x.av O] ++ refsOf (xs.map (SV.av O)) := by
        simp only [refsOf, List.map_cons, ← List.filterMap_append, List.singleton_append]
      rw [e1, hx.2.2, k3]; rfl
    · cases h
  | .bx ts :: l, x :: xs, i, a, h, hf, hν => by
    simp only [toArgs] at h
    split at h
    · rename_i p q h1 h2
      simp only [Option.some.injEq] at h; subst h
      simp only [List.flatMap_cons] at hf
      obtain ⟨f1, f2⟩ := firstC_app hf
      have hxx : ∃ n sz, x = .v (.c (.ref n sz 0 0)) := by
        cases x with
        | tup l => simp [toAT] at h1
        | v x =>
          cases x with
          | g l => simp [toAT] at h1
          | c y =>
            cases y with
            | ref n sz i off =>
              cases i with
              | succ i => simp [toAT] at h1
              | zero =>
                cases off with
                | succ off => simp [toAT] at h1
                | zero => exact ⟨n, sz, rfl⟩
            | _ => simp [toAT] at h1
      obtain ⟨n, sz, rfl⟩ := hxx
      · simp only [toAT] at h1
        split at h1
        case isFalse => cases h1
        rename_i hsz
        split at h1
        case h_2 => cases h1
        rename_i cs hcs
        simp only [bxPos, List.map_cons, bxNames, List.cons.injEq] at hν
        obtain ⟨hνi, hν⟩ := hν
        obtain ⟨k1, k2, k3, k4, k5⟩ := give_args (l := l) (ν := ν) (i := i + 1) h2 f2 hν
        obtain ⟨g1, g2, _⟩ := toKVs_av (O := O) h1
        refine ⟨leE_cons ?_ k1, ?_, ?_, ?_, ?_⟩
        · show leS (AV.ref n sz 0 0) (.ref (ν i) _ 0 0)
          rw [hνi, hsz]; exact .rfl' _
        · have : argOk ((SV.v (.c (.ref n sz 0 0))).av O) = true := rfl
          simp only [List.map_cons, List.all_cons, this, k2, Bool.and_self]
        · have e1 : refsOf ((SV.v (.c (.ref n sz 0 0)) :: xs).map (SV.av O)) = n :: refsOf (xs.map (SV.av O)) := rfl
          rw [e1, k3]; rfl
        · intro m hm
          simp only [bxNames, List.mem_cons] at hm
          rcases hm with rfl | hm
          · exact ⟨cs, hcs, g2⟩
          · exact k4 m hm
        · have e2 : lookAll (bxNames (.bx ts :: l) (SV.v (.c (.ref n sz 0 0)) :: xs)) (objsAV O O) = (n, .box (cs.map (CV.av O))) :: lookAll (bxNames l xs) (objsAV O O) := by
            simp only [bxNames, lookAll, List.filterMap_cons, lookS_av, hcs, Option.map_some, SO.av]
          rw [e2]
          exact ⟨hνi.symm, g1, k5⟩
    · cases h

theorem csv_av {O : SObjs} (c : CT) (x : c.T) : (c.sv x).av O = c.av x := by
  cases c with
  | ty t => exact kv_av t x
  | ag ts => simp only [CT.sv, SV.av, VV.av, CT.av, kvs_cav]
theorem cvv_av {O : SObjs} (c : CT) (x : c.T) : (c.vv x).av O = c.av x := by
  cases c with
  | ty t => exact kv_av t x
  | ag ts => simp only [CT.vv, VV.av, CT.av, kvs_cav]
theorem vvs_av {O : SObjs} : ∀ (l : List CT) (x : compsT l), (vvs l x).map (VV.av O) = compsAV l x
  | [], _ => rfl
  | c :: l, x => by simp only [vvs, compsAV, List.map_cons, cvv_av, vvs_av l]

theorem setBoxes_no : ∀ {l : List AT} {xs : List SV} {o : outsT (bxsOf l)} {O : SObjs}, noBx l = true → setBoxes l xs o O = O
  | [], xs, o, O, _ => by cases xs <;> rfl
  | .v _ :: l, [], o, O, h => rfl
  | .v _ :: l, _ :: xs, o, O, h => setBoxes_no (l := l) h
  | .bx _ :: _, _, _, _, h => by simp [noBx] at h

theorem ground_t : ∀ (t : Ty) (x : t.T), gTy t = true → groundC (t.av x) = true
  | .int _, _, _ => rfl
  | .bool, _, _ => rfl
  | .str, _, _ => rfl
  | .sl _, _, h => by simp [gTy] at h
theorem ground_ts : ∀ (ts : Tys) (x : ts.T), gTys ts = true → (ts.avs x).all groundC = true
  | .nil, _, _ => rfl
  | .cons t ts, x, h => by
    simp only [gTys, Bool.and_eq_true] at h
    simp only [Tys.avs, List.all_cons, ground_t t _ h.1, ground_ts ts _ h.2, Bool.and_self]
theorem ground_c (c : CT) (x : c.T) (h : gCT c = true) : (match c.av x with | .agg l => l.all groundC | y => groundC y) = true ∧ (∀ l, c.av x ≠ .tup l) := by
  cases c with
  | ty t =>
    have := ground_t t x h
    refine ⟨?_, ?_⟩
    · show (match t.av x with | .agg l => l.all groundC | y => groundC y) = true
      cases hx : t.av x with
      | agg l => rw [hx] at this; simp [groundC] at this
      | _ => rw [hx] at this; exact this
    · intro l e
      have e : t.av x = .tup l := e
      rw [e] at this; simp [groundC] at this
  | ag ts => exact ⟨ground_ts ts x h, by simp [CT.av]⟩
theorem ground_r (r : RT) (x : r.T) (h : gRT r = true) : ground (r.av x) = true ∧ r.new x = none ∧ (∀ d, rename d (r.av x) = r.av x) ∧ nf (r.av x) = true := by
  have key : ∀ y : AV, ground y = true → (∀ d, rename d y = y) ∧ nf y = true := by
    intro y hy
    have gn : ∀ l : List AV, l.all groundC = true → l.all nfC = true := fun l hl => by
      rw [List.all_eq_true] at hl ⊢
      intro z hz
      have := hl z hz
      cases z <;> simp_all [groundC, nfC]
    cases y with
    | msl => simp [ground, groundC] at hy
    | ref => simp [ground, groundC] at hy
    | agg l => exact ⟨fun _ => rfl, gn l hy⟩
    | tup l =>
      refine ⟨fun _ => rfl, ?_⟩
      simp only [ground, nf] at hy ⊢
      rw [List.all_eq_true] at hy ⊢
      intro z hz
      have := hy z hz
      cases z with
      | agg l => exact gn l this
      | _ => simp_all [groundC, nfV, nfC]
    | _ => first | exact ⟨fun _ => rfl, rfl⟩ | simp [ground, groundC] at hy
  cases r with
  | v c =>
    obtain ⟨h1, h2⟩ := ground_c c x h
    have hg : ground (c.av x) = true := by
      cases hx : c.av x with
      | tup l => exact absurd hx (h2 l)
      | _ => rw [hx] at h1; exact h1
    exact ⟨hg, rfl, key _ hg⟩
  | tup l =>
    have hg : ground (.tup (compsAV l x)) = true := by
      simp only [gRT] at h
      simp only [ground]
      have : ∀ (l : List CT) (x : compsT l), l.all gCT = true → (compsAV l x).all (fun x => match x with | .agg l => l.all groundC | x => groundC x) = true := by
        intro l
        induction l with
        | nil => intro _ _; rfl
        | cons c l ih =>
          intro x h
          simp only [List.all_cons, Bool.and_eq_true] at h
          simp only [compsAV, List.all_cons, Bool.and_eq_true]
          exact ⟨(ground_c c x.1 h.1).1, ih x.2 h.2⟩
      exact this l x h
    exact ⟨hg, rfl, key _ hg⟩
  | _ => simp [gRT] at h
end Go.Abs

/- Calls: soundness, 2. -/
namespace Go.Abs
open Go.RowKit

theorem osAV_no {ν : Nat → Nat} : ∀ {l : List AT} {i : Nat} {a : argsT l}, noBx l = true → osAV ν l i a = []
  | [], _, _, _ => rfl
  | .v _ :: l, i, a, h => osAV_no (l := l) (i := i + 1) (a := a.2) h
  | .bx _ :: _, _, _, h => by simp [noBx] at h
theorem outsAV_no {ν : Nat → Nat} : ∀ {l : List AT} {i : Nat} {o : outsT (bxsOf l)}, noBx l = true → outsAV ν l i o = []
  | [], _, _, _ => rfl
  | .v _ :: l, i, o, h => outsAV_no (l := l) (i := i + 1) (o := o) h
  | .bx _ :: _, _, _, h => by simp [noBx] at h

theorem evs_av {C : Cfg} {s : SS} (xs : List Operand) : xs.map (ev (s.st C.N).env) = (xs.map (sev C s)).map (SV.av s.objs) := by
  have : (SV.av s.objs) ∘ (sev C s) = ev (s.st C.N).env := funext fun o => sev_av C s o
  rw [List.map_map, this]

/-- A call that only reads. -/
theorem quiet_call {P : Program} {FT : List (Nat × Entry)} (hFT : FTok P FT) {C : Cfg} {s : SS} {f : FuncId} {e : Entry} {xs : List Operand} {a : argsT e.sig.args} {q : e.sig.R}
    (he : lkF FT f = some e) (hb : (bxsOf e.sig.args).isEmpty = true) (hg : gRT e.sig.ret = true) (ha : toArgs s.objs e.sig.args (xs.map (sev C s)) = some a) (hF : e.F a = some q) :
    ∃ ys, (xs.map (ev (s.st C.N).env)).mapM (lend (s.st C.N).objs) = some ys ∧ ys.all nf = true ∧ Contract P f ys [] ⟨e.sig.ret.av q.1, [], none⟩ := by
  obtain ⟨hfun, hTC⟩ := hFT f e he
  have hno := noBx_of hb
  obtain ⟨ys, h1, h2, h3⟩ := lend_args (ν := canon) (i := 0) hno ha
  refine ⟨ys, by rw [evs_av]; exact h1, h3, ?_⟩
  have hc := hTC a q hF
  have hcr : crAV canon e.sig q = ⟨e.sig.ret.av q.1, [], none⟩ := by
    simp only [crAV, outsAV_no hno, (ground_r e.sig.ret q.1 hg).2.1]
  rw [hcr, osAV_no hno] at hc
  exact contract_le hc h2 trivial

theorem sCall_quiet {P : Program} {R : Type} {FT : List (Nat × Entry)} (hFT : FTok P FT) {C : Cfg} {s : SS} {dst : Option Tmp} {f : FuncId} {xs : List Operand} {K : SS → Option R} {r : R}
    (h : sCall C FT true s dst f xs K = some r) : ∃ f' Φ hr, Sound P Φ ∧ cLend Φ (s.st C.N).env (s.st C.N).objs f xs = some hr ∧ (⟨putA hr.env dst hr.x, hr.objs⟩ : St) = f'.st C.N ∧ K f' = some r := by
  unfold sCall at h
  split at h
  · cases h
  · rename_i e he
    cases hbg : ((bxsOf e.sig.args).isEmpty && gRT e.sig.ret) with
    | false => simp only [hbg] at h; cases h
    | true =>
      simp only [hbg] at h
      simp only [Bool.and_eq_true] at hbg
      split at h
      · cases h
      · rename_i a ha
        split at h
        · simp only [obind] at h
          obtain ⟨q, hF, hK⟩ := Option.bind_eq_some_iff.1 h
          obtain ⟨ys, h1, h2, h3⟩ := quiet_call hFT he hbg.1 hbg.2 ha hF
          obtain ⟨g1, g2, g3, g4⟩ := ground_r e.sig.ret q.1 hbg.2
          refine ⟨_, one f ys [] ⟨e.sig.ret.av q.1, [], none⟩, ⟨e.sig.ret.av q.1, (s.st C.N).env, (s.st C.N).objs⟩, one_sound (hFT f e he).1 h3, ?_, ?_, hK⟩
          · unfold cLend
            rw [h1]
            simp only [h2, if_true, one_eq, g1]
          · have hset : setBoxes e.sig.args (xs.map (sev C s)) q.2 s.objs = s.objs := setBoxes_no (noBx_of hbg.1)
            have key : ∀ (rt : RT) (y : rt.T), gRT rt = true → (retS (dst.getD 999998) ⟨s.env, s.objs⟩ rt y).2 = s ∧ (retS (dst.getD 999998) ⟨s.env, s.objs⟩ rt y).1.av s.objs = rt.av y := by
              intro rt y hg
              cases rt with
              | v c => exact ⟨rfl, csv_av c y⟩
              | tup l => exact ⟨rfl, by simp only [retS, SV.av, vvs_av, RT.av]⟩
              | _ => simp [gRT] at hg
            rw [hset]
            obtain ⟨k1, k2⟩ := key e.sig.ret q.1 hbg.2
            rw [k1, put_st, k2]
        · cases h

theorem lendC_id {objs : List (Nat × Obj)} : ∀ {l ys : List AV}, firstName l = none → l.mapM (lendC objs) = some ys → ys = l
  | [], ys, _, h => by simp at h; exact h
  | x :: l, ys, hn, h => by
    simp only [List.mapM_cons, Option.bind_eq_bind, Option.pure_def] at h
    obtain ⟨y, h1, h⟩ := Option.bind_eq_some_iff.1 h
    obtain ⟨zs, h2, h⟩ := Option.bind_eq_some_iff.1 h
    simp only [Option.some.injEq] at h; subst h
    cases x with
    | msl n sz off len => simp [firstName] at hn
    | _ => rw [lendC_id (by exact hn) h2]; simp only [lendC, Option.some.injEq] at h1; rw [h1]
theorem lend_id {objs : List (Nat × Obj)} : ∀ {as ys : List AV}, firstName (as.flatMap cellList) = none → as.mapM (lend objs) = some ys → ys = as
  | [], ys, _, h => by simp at h; exact h
  | x :: as, ys, hn, h => by
    simp only [List.mapM_cons, Option.bind_eq_bind, Option.pure_def] at h
    obtain ⟨y, h1, h⟩ := Option.bind_eq_some_iff.1 h
    obtain ⟨zs, h2, h⟩ := Option.bind_eq_some_iff.1 h
    simp only [Option.some.injEq] at h; subst h
    have app : ∀ {a b : List AV}, firstName (a ++ b) = none → firstName b = none := by
      intro a b hab
      induction a with
      | nil => exact hab
      | cons x a ih => cases x <;> simp only [List.cons_append, firstName, reduceCtorEq] at hab <;> exact ih hab
    simp only [List.flatMap_cons] at hn
    rw [lend_id (app hn) h2]
    congr 1
    cases x with
    | msl n sz off len => simp [cellList, firstName] at hn
    | agg l =>
      simp only [lend] at h1
      obtain ⟨zs, hz, rfl⟩ := Option.map_eq_some_iff.1 h1
      have hl : firstName l = none := by
        have : ∀ {a b : List AV}, firstName (a ++ b) = none → firstName a = none := by
          intro a b hab
          induction a with
          | nil => rfl
          | cons x a ih => cases x <;> simp only [List.cons_append, firstName, reduceCtorEq] at hab ⊢ <;> exact ih hab
        exact this hn
      rw [lendC_id hl hz]
    | _ => simp only [lend, lendC, Option.some.injEq] at h1; exact h1.symm
theorem nf_arg {x : AV} (h : nf x = true) : argOk x = true ∧ refsOf [x] = [] := by
  cases x with
  | ref n sz i off => simp [nf, nfV, nfC] at h
  | agg l => exact ⟨h, rfl⟩
  | _ => first | exact ⟨rfl, rfl⟩ | exact ⟨h, rfl⟩
theorem nf_args : ∀ {l : List AV}, l.all nf = true → l.all argOk = true ∧ refsOf l = []
  | [], _ => ⟨rfl, rfl⟩
  | x :: l, h => by
    simp only [List.all_cons, Bool.and_eq_true] at h
    obtain ⟨h1, h2⟩ := nf_args h.2
    obtain ⟨h3, h4⟩ := nf_arg h.1
    refine ⟨by simp [h1, h3], ?_⟩
    have : refsOf (x :: l) = refsOf [x] ++ refsOf l := by simp only [refsOf, ← List.filterMap_append, List.singleton_append]
    rw [this, h2, h4]; rfl

theorem bxPos_spec : ∀ (l : List AT) (i : Nat), (∀ j ∈ bxPos l i, i ≤ j ∧ j < i + l.length) ∧ (bxPos l i).Nodup
  | [], i => by simp [bxPos]
  | .v _ :: l, i => by
    obtain ⟨h1, h2⟩ := bxPos_spec l (i + 1)
    refine ⟨fun j hj => ?_, h2⟩
    have := h1 j hj
    simp only [List.length_cons]; omega
  | .bx _ :: l, i => by
    obtain ⟨h1, h2⟩ := bxPos_spec l (i + 1)
    refine ⟨fun j hj => ?_, ?_⟩
    · simp only [bxPos, List.mem_cons] at hj
      simp only [List.length_cons]
      rcases hj with rfl | hj
      · omega
      · have := h1 j hj; omega
    · simp only [bxPos, List.nodup_cons]
      exact ⟨fun hi => by have := h1 i hi; omega, h2⟩
theorem okNames_spec : ∀ {l : List Nat}, okNames l = true → l.Nodup ∧ (∀ n ∈ l, n < top ∧ n ≠ rn) ∧ rn ∉ l
  | [], _ => ⟨List.nodup_nil, by simp, by simp⟩
  | n :: l, h => by
    simp only [okNames, Bool.and_eq_true, Bool.not_eq_true', decide_eq_true_eq, beq_eq_false_iff_ne] at h
    obtain ⟨h1, h2, h3, h4⟩ := h
    obtain ⟨g1, g2, g3⟩ := okNames_spec h4
    have hn : n ∉ l := by
      intro hm
      have : l.contains n = true := by simpa using hm
      rw [this] at h1; cases h1
    refine ⟨List.nodup_cons.2 ⟨hn, g1⟩, fun m hm => ?_, fun hm => ?_⟩
    · rcases List.mem_cons.1 hm with rfl | hm
      · exact ⟨h2, h3⟩
      · exact g2 m hm
    · rcases List.mem_cons.1 hm with e | hm
      · exact h3 e.symm
      · exact g3 hm
theorem bxNames_len : ∀ {l : List AT} {xs : List SV} {O : SObjs} {a : argsT l} (i : Nat), toArgs O l xs = some a → (bxPos l i).length = (bxNames l xs).length
  | [], [], O, a, i, _ => rfl
  | [], _ :: _, O, a, i, h => by simp [toArgs] at h
  | _ :: _, [], O, a, i, h => by simp [toArgs] at h
  | .v c :: l, x :: xs, O, a, i, h => by
    simp only [toArgs] at h
    split at h
    · rename_i p q h1 h2; exact bxNames_len (l := l) (i + 1) h2
    · cases h
  | .bx ts :: l, x :: xs, O, a, i, h => by
    simp only [toArgs] at h
    split at h
    · rename_i p q h1 h2
      have ih := bxNames_len (l := l) (i + 1) h2
      cases x with
      | tup l => simp [toAT] at h1
      | v x =>
        cases x with
        | g l => simp [toAT] at h1
        | c y =>
          cases y with
          | ref n sz i off => simp only [bxPos, bxNames, List.length_cons, ih]
          | _ => simp [toAT] at h1
    · cases h

theorem setBoxes_spec {ν : Nat → Nat} : ∀ {l : List AT} {xs : List SV} {i : Nat} {o : outsT (bxsOf l)} {O : SObjs}, (bxPos l i).map ν = bxNames l xs → l.length = xs.length → (∀ n ∈ bxNames l xs, ∃ cs, lookS n O = some (.box cs)) →
    (∀ O', objsAV O' (setBoxes l xs o O) = updAll (outsAV ν l i o) (objsAV O' O)) ∧ (∀ x : CV, x.av (setBoxes l xs o O) = x.av O) ∧ (∀ d, lookS d O = none → lookS d (setBoxes l xs o O) = none) ∧
      (∀ d, setBoxes l xs o (mapOC (killC d) O) = mapOC (killC d) (setBoxes l xs o O))
  | [], xs, i, o, O, _, _, _ => ⟨fun _ => by cases xs <;> rfl, fun _ => by cases xs <;> rfl, fun _ h => by cases xs <;> exact h, fun _ => by cases xs <;> rfl⟩
  | .v c :: l, [], i, o, O, _, h, _ => by simp at h
  | .v c :: l, x :: xs, i, o, O, hν, hl, hb => setBoxes_spec (l := l) (xs := xs) (i := i + 1) (o := o) (O := O) hν (by simpa using hl) hb
  | .bx ts :: l, [], i, o, O, _, h, _ => by simp at h
  | .bx ts :: l, x :: xs, i, o, O, hν, hl, hb => by
    have hx : ∃ n sz j off, x = .v (.c (.ref n sz j off)) := by
      cases x with
      | tup _ => simp [bxPos, bxNames] at hν
      | v y =>
        cases y with
        | g _ => simp [bxPos, bxNames] at hν
        | c z =>
          cases z with
          | ref n sz j off => exact ⟨_, _, _, _, rfl⟩
          | _ => simp [bxPos, bxNames] at hν
    obtain ⟨n, sz, j, off, rfl⟩ := hx
    simp only [bxPos, List.map_cons, bxNames, List.cons.injEq] at hν
    obtain ⟨hνi, hν⟩ := hν
    obtain ⟨cs, hcs⟩ := hb n (by simp [bxNames])
    have hb' : ∀ m ∈ bxNames l xs, ∃ cs, lookS m (updS n (.box ((ts.kvs o.1).map CV.k)) O) = some (.box cs) := by
      intro m hm
      by_cases e : n = m
      · subst e; exact ⟨_, lookS_upd _ (by rw [hcs]; rfl)⟩
      · rw [lookS_upd_ne _ e]; exact hb m (by simp [bxNames, hm])
    obtain ⟨h1, h2, h3, h4⟩ := setBoxes_spec (ν := ν) (l := l) (xs := xs) (i := i + 1) (o := o.2) (O := updS n (.box ((ts.kvs o.1).map CV.k)) O) hν (by simpa using hl) hb'
    refine ⟨fun O' => ?_, fun x => ?_, fun d hd => ?_, fun d => ?_⟩
    · show objsAV O' (setBoxes l xs o.2 _) = updAll ((ν i, .box (ts.avs o.1)) :: outsAV ν l (i + 1) o.2) _
      rw [h1, objsAV_upd, hνi]
      simp only [updAll, SO.av, kvs_cav]
    · show x.av (setBoxes l xs o.2 _) = _
      rw [h2]
      exact av_upd_len hcs (.inl ⟨_, _, rfl, rfl⟩) x
    · show lookS d (setBoxes l xs o.2 _) = none
      refine h3 d ?_
      by_cases e : n = d
      · subst e; rw [hcs] at hd; cases hd
      · rw [lookS_upd_ne _ e]; exact hd
    · show setBoxes l xs o.2 (updS n _ (mapOC (killC d) O)) = mapOC (killC d) (setBoxes l xs o.2 _)
      rw [← h4]
      have : ∀ O : SObjs, updS n (.box ((ts.kvs o.1).map CV.k)) (mapOC (killC d) O) = mapOC (killC d) (updS n (.box ((ts.kvs o.1).map CV.k)) O) := by
        intro O
        induction O with
        | nil => rfl
        | cons p r ih =>
          obtain ⟨m, so⟩ := p
          have hk : ((ts.kvs o.1).map CV.k).map (killC d) = (ts.kvs o.1).map CV.k := by
            rw [List.map_map]; rfl
          by_cases e : m = n
          · cases so <;> simp [mapOC, updS, e, ih, hk]
          · cases so <;> simp [mapOC, updS, e, ih]
      rw [this O]

theorem lookAll_fst {objs : List (Nat × Obj)} : ∀ {ns : List Nat}, (∀ n ∈ ns, (look n objs).isSome = true) → (lookAll ns objs).map (·.1) = ns
  | [], _ => rfl
  | n :: ns, h => by
    have ih := lookAll_fst (ns := ns) (fun m hm => h m (List.mem_cons_of_mem _ hm))
    obtain ⟨o, ho⟩ := Option.isSome_iff_exists.1 (h n (List.mem_cons_self ..))
    have : lookAll (n :: ns) objs = (n, o) :: lookAll ns objs := by simp only [lookAll, List.filterMap_cons, ho, Option.map_some]
    rw [this, List.map_cons, ih]
theorem outs_fst {ν : Nat → Nat} : ∀ {l : List AT} {i : Nat} {o : outsT (bxsOf l)}, (outsAV ν l i o).map (·.1) = (bxPos l i).map ν
  | [], _, _ => rfl
  | .v _ :: l, i, o => outs_fst (l := l) (i := i + 1) (o := o)
  | .bx ts :: l, i, o => by
    have ih := outs_fst (ν := ν) (l := l) (i := i + 1) (o := o.2)
    exact congrArg (ν i :: ·) ih
theorem plain_t : ∀ (t : Ty) (x : t.T), plainC (t.av x) = true ∧ nfC (t.av x) = true
  | .int _, _ => ⟨rfl, rfl⟩
  | .bool, _ => ⟨rfl, rfl⟩
  | .str, _ => ⟨rfl, rfl⟩
  | .sl _, _ => ⟨rfl, rfl⟩
theorem plain_ts : ∀ (ts : Tys) (x : ts.T), (ts.avs x).all plainC = true ∧ (ts.avs x).all nfC = true
  | .nil, _ => ⟨rfl, rfl⟩
  | .cons t ts, x => by
    obtain ⟨h1, h2⟩ := plain_t t x.1
    obtain ⟨h3, h4⟩ := plain_ts ts x.2
    exact ⟨by simp [Tys.avs, h1, h3], by simp [Tys.avs, h2, h4]⟩
theorem outs_ok {ν : Nat → Nat} : ∀ {l : List AT} {i : Nat} {o : outsT (bxsOf l)}, boxesOk (outsAV ν l i o) = true
  | [], _, _ => rfl
  | .v _ :: l, i, o => outs_ok (l := l) (i := i + 1) (o := o)
  | .bx ts :: l, i, o => by
    have ih := outs_ok (ν := ν) (l := l) (i := i + 1) (o := o.2)
    show ((ts.avs o.1).all plainC && boxesOk (outsAV ν l (i + 1) o.2)) = true
    rw [(plain_ts ts o.1).1, ih]; rfl
theorem nf_c (c : CT) (x : c.T) : nfV (c.av x) = true ∧ nf (c.av x) = true := by
  cases c with
  | ty t => cases t <;> exact ⟨rfl, rfl⟩
  | ag ts => exact ⟨(plain_ts ts x).2, (plain_ts ts x).2⟩
theorem newOk_r (r : RT) (x : r.T) : newOk (r.av x) (r.new x) = true := by
  cases r with
  | v c => exact (nf_c c x).2
  | tup l =>
    show nf (.tup (compsAV l x)) = true
    simp only [nf]
    have : ∀ (l : List CT) (x : compsT l), (compsAV l x).all nfV = true := by
      intro l
      induction l with
      | nil => intro _; rfl
      | cons c l ih => intro x; simp only [compsAV, List.all_cons, (nf_c c x.1).1, ih, Bool.and_self]
    exact this l x
  | own ts => simp [RT.av, RT.new, newOk]
  | box ts => simp [RT.av, RT.new, newOk, avs_len, (plain_ts ts x).1]
  | unit => rfl
theorem boxesOk_look' {objs : List (Nat × Obj)} : ∀ {ns : List Nat}, (∀ n ∈ ns, ∃ cs, look n objs = some (.box cs) ∧ cs.all plainC = true) → boxesOk (lookAll ns objs) = true
  | [], _ => rfl
  | n :: ns, h => by
    have ih := boxesOk_look' (ns := ns) (fun m hm => h m (List.mem_cons_of_mem _ hm))
    obtain ⟨cs, h1, h2⟩ := h n (List.mem_cons_self ..)
    have : lookAll (n :: ns) objs = (n, .box cs) :: lookAll ns objs := by simp only [lookAll, List.filterMap_cons, h1, Option.map_some]
    rw [this]
    simp only [boxesOk, h2, ih, Bool.and_self]
end Go.Abs

/- Calls: soundness, 3; one operation, a list of operations. -/
namespace Go.Abs
open Go.RowKit

theorem retS_made {N : Nat} {s : SS} {dst : Option Tmp} {objs' : List (Nat × Obj)} {g : RT} {y : g.T} (hno : NoOwn (dst.getD 999998) s) (hobj : (s.st N).objs = objs') :
    ((retS (dst.getD 999998) s g y).2.put dst (retS (dst.getD 999998) s g y).1).st N =
      ⟨putA (s.st N).env dst (rename (dst.getD 999998) (g.av y)), (match g.new y with | some o => (dst.getD 999998, o) :: objs' | none => objs')⟩ := by
  subst hobj
  have cren : ∀ (c : CT) (x : c.T) d, rename d (c.av x) = c.av x := by
    intro c x d
    cases c with
    | ty t => cases t <;> rfl
    | ag ts => rfl
  cases g with
  | v c => simp only [retS, RT.new, RT.av]; rw [put_st, csv_av, cren]
  | tup l =>
    simp only [retS, RT.new, RT.av]
    rw [put_st]
    simp only [SV.av, vvs_av, rename]
  | own ts =>
    simp only [retS, RT.new, RT.av]
    generalize hd : dst.getD 999998 = d at *
    have h1 : rename d (.msl rn ts.len 0 y.length) = .msl d ts.len 0 y.length := by simp [rename]
    rw [h1, put_st, own_av, (st_cons (N := N) hno _).1]
    congr 1
    show objsAV ((d, SO.arr ts y) :: s.objs) ((d, SO.arr ts y) :: s.objs) = _
    simp only [objsAV, (st_cons (N := N) hno _).2]; rfl
  | box ts =>
    simp only [retS, RT.new, RT.av]
    generalize hd : dst.getD 999998 = d at *
    have h1 : rename d (.ref rn ts.len 0 0) = .ref d ts.len 0 0 := by simp [rename]
    rw [h1, put_st, (st_cons (N := N) hno _).1]
    congr 1
    show objsAV ((d, SO.box ((ts.kvs y).map CV.k)) :: s.objs) ((d, SO.box ((ts.kvs y).map CV.k)) :: s.objs) = _
    simp only [objsAV, (st_cons (N := N) hno _).2, SO.av, kvs_cav]; rfl
  | unit => simp only [retS, RT.new, RT.av]; rw [put_st]; rfl

theorem toArgs_len : ∀ {l : List AT} {xs : List SV} {O : SObjs} {a : argsT l}, toArgs O l xs = some a → l.length = xs.length
  | [], [], _, _, _ => rfl
  | [], _ :: _, _, _, h => by simp [toArgs] at h
  | _ :: _, [], _, _, h => by simp [toArgs] at h
  | c :: l, x :: xs, O, a, h => by
    simp only [toArgs] at h
    split at h
    · rename_i p q h1 h2; simp [toArgs_len h2]
    · cases h

theorem flat_names {C : Cfg} {s : SS} (xs : List Operand) : (xs.map (sev C s)).flatMap cellsOfS = xs.flatMap fun o => cellsOfS (sev C s o) := by
  rw [List.flatMap_map]

/-- A call that is given what it takes. -/
theorem give_call {P : Program} {FT : List (Nat × Entry)} (hFT : FTok P FT) {C : Cfg} {s : SS} {dst : Option Tmp} {f : FuncId} {e : Entry} {xs : List Operand} {a : argsT e.sig.args} {q : e.sig.R}
    (he : lkF FT f = some e) (hno : NoOwn (dst.getD 999998) s) (hnm : firstC (xs.flatMap fun o => cellsOfS (sev C s o)) = none) (ha : toArgs s.objs e.sig.args (xs.map (sev C s)) = some a) (hF : e.F a = some q)
    (hd : dst.getD 999998 < top) (hl : e.sig.args.length ≤ 1000) (hn : okNames (bxNames e.sig.args (xs.map (sev C s))) = true) :
    ∃ Φ hr, Sound P Φ ∧ cOp Φ (s.st C.N).env (s.st C.N).objs (dst.getD 999998) f xs = some hr ∧
      (⟨putA hr.env dst hr.x, hr.objs⟩ : St) = ((retS (dst.getD 999998) ⟨s.env, setBoxes e.sig.args (xs.map (sev C s)) q.2 s.objs⟩ e.sig.ret q.1).2.put dst
            (retS (dst.getD 999998) ⟨s.env, setBoxes e.sig.args (xs.map (sev C s)) q.2 s.objs⟩ e.sig.ret q.1).1).st C.N ∧
      firstName ((xs.map (ev (s.st C.N).env)).flatMap cellList) = none ∧ (∀ n, n ≠ dst.getD 999998 → n ∉ bxNames e.sig.args (xs.map (sev C s)) → look n hr.objs = look n (s.st C.N).objs) := by
  obtain ⟨hfun, hTC⟩ := hFT f e he
  obtain ⟨n1, n2, n3⟩ := okNames_spec hn
  -- names
  obtain ⟨b1, b2⟩ := bxPos_spec e.sig.args 0
  have hcl : ((bxPos e.sig.args 0).map canon).length = (bxNames e.sig.args (xs.map (sev C s))).length := by
    rw [List.length_map]; exact bxNames_len 0 ha
  have hcn : ((bxPos e.sig.args 0).map canon).Nodup := by
    have : ∀ l : List Nat, l.Nodup → (l.map canon).Nodup := by
      intro l
      induction l with
      | nil => intro _; exact List.nodup_nil
      | cons x l ih =>
        intro h
        simp only [List.nodup_cons] at h
        simp only [List.map_cons, List.nodup_cons, List.mem_map, not_exists, not_and]
        exact ⟨fun y hy e => h.1 (by have : y = x := by unfold canon at e; omega
                                     rwa [← this]), ih h.2⟩
    exact this _ b2
  have hct : ∀ n ∈ (bxPos e.sig.args 0).map canon, n < top ∧ n ≠ rn := by
    intro n hn
    obtain ⟨j, hj, rfl⟩ := List.mem_map.1 hn
    have := b1 j hj
    unfold canon top rn
    omega
  obtain ⟨π, hπ⟩ := perm_of _ _ hcl hcn n1 hct n2
  have hν : (bxPos e.sig.args 0).map (fun i => π.g (canon i)) = bxNames e.sig.args (xs.map (sev C s)) := by
    rw [← hπ, List.map_map]; rfl
  obtain ⟨k1, k2, k3, k4, k5⟩ := give_args (ν := fun i => π.g (canon i)) (i := 0) ha (by rw [flat_names]; exact hnm) hν
  have hc := contract_ren π (hTC a q hF)
  rw [ren_args, ren_os, ren_cr] at hc
  have hc := contract_le hc k1 k5
  rw [← evs_av] at hc k2 k3
  have hlk : ∀ n ∈ bxNames e.sig.args (xs.map (sev C s)), ∃ cs, look n (s.st C.N).objs = some (.box cs) ∧ cs.all plainC = true := by
    intro n hn
    obtain ⟨cs, h1, h2⟩ := k4 n hn
    refine ⟨cs.map (CV.av s.objs), ?_, plainCC_all h2⟩
    show look n (objsAV s.objs s.objs) = _
    rw [lookS_av, h1]; rfl
  obtain ⟨s1, s2, s3, s4⟩ := setBoxes_spec (ν := fun i => π.g (canon i)) (i := 0) (o := q.2) (O := s.objs) hν (toArgs_len ha) (fun n hn => by obtain ⟨cs, h1, _⟩ := k4 n hn; exact ⟨cs, h1⟩)
  refine ⟨one f (xs.map (ev (s.st C.N).env)) (lookAll (bxNames e.sig.args (xs.map (sev C s))) (s.st C.N).objs) (crAV (fun i => π.g (canon i)) e.sig q),
    ⟨rename (dst.getD 999998) (e.sig.ret.av q.1), (s.st C.N).env, (match e.sig.ret.new q.1 with | some o => (dst.getD 999998, o) :: updAll (outsAV (fun i => π.g (canon i)) e.sig.args 0 q.2) (s.st C.N).objs | none => updAll (outsAV (fun i => π.g (canon i)) e.sig.args 0 q.2) (s.st C.N).objs)⟩, one_sound hfun hc, ?_, ?_, ?_, ?_⟩
  rotate_left 2
  · rw [List.flatMap_map]; exact names_none hnm
  · intro n hn1 hn2
    have hup : ∀ (l : List (Nat × Obj)) (O : List (Nat × Obj)), n ∉ l.map (·.1) → look n (updAll l O) = look n O := by
      intro l
      induction l with
      | nil => intro O _; rfl
      | cons p l ih =>
        obtain ⟨m, o⟩ := p
        intro O hm
        simp only [List.map_cons, List.mem_cons, not_or] at hm
        rw [updAll, ih _ hm.2, look_upd_ne _ (Ne.symm hm.1)]
    have hup2 := hup (outsAV (fun i => π.g (canon i)) e.sig.args 0 q.2) (s.st C.N).objs (by rw [outs_fst, hν]; exact hn2)
    cases e.sig.ret.new q.1 with
    | none => exact hup2
    | some o => simp only [look, if_neg (Ne.symm hn1)]; exact hup2
  · unfold cOp
    have hfn : firstName ((xs.map (ev (s.st C.N).env)).flatMap cellList) = none := by
      rw [List.flatMap_map]; exact names_none hnm
    rw [hfn]
    simp only [cGive, k3]
    rw [if_pos ⟨k2, lookAll_fst (fun n hn => by obtain ⟨cs, h1, _⟩ := hlk n hn; rw [h1]; rfl), n1, boxesOk_look' hlk, look_none hno.1, hd, n3⟩]
    simp only [one_eq]
    have h2 : (crAV (fun i => π.g (canon i)) e.sig q).os.map (·.1) = bxNames e.sig.args (xs.map (sev C s)) := by
      show (outsAV _ _ _ _).map (·.1) = _
      rw [outs_fst, hν]
    rw [if_pos ⟨h2, outs_ok, newOk_r e.sig.ret q.1⟩]
    rfl
  · have hidem : ∀ (d : Nat) (O : SObjs), mapOC (killC d) (mapOC (killC d) O) = mapOC (killC d) O := by
      intro d O
      rw [mapOC_mapOC]
      congr 1
      funext x
      cases x with
      | own m => by_cases h : m = d <;> simp [killC, h]
      | msl m sz off len => by_cases h : m = d <;> simp [killC, h]
      | ref m sz i off => by_cases h : m = d <;> simp [killC, h]
      | wrp f ns =>
        by_cases h : (ns.map (·.1)).contains d = true
        · rw [show killC d (.wrp f ns) = .any from if_pos h]; rfl
        · rw [show killC d (.wrp f ns) = .wrp f ns from if_neg h, show killC d (.wrp f ns) = .wrp f ns from if_neg h]
      | _ => rfl
    have hno2 : NoOwn (dst.getD 999998) ⟨s.env, setBoxes e.sig.args (xs.map (sev C s)) q.2 s.objs⟩ := by
      obtain ⟨hl, E, O, hs⟩ := hno
      refine ⟨s3 _ hl, E, setBoxes e.sig.args (xs.map (sev C s)) q.2 s.objs, ?_⟩
      rw [← s4]
      have h1 : s.env = mapEC (killC (dst.getD 999998)) E := by rw [hs]
      have h2 : mapOC (killC (dst.getD 999998)) s.objs = s.objs := by rw [hs]; exact hidem _ _
      rw [h2, h1]
    rw [retS_made (objs' := updAll (outsAV (fun i => π.g (canon i)) e.sig.args 0 q.2) (s.st C.N).objs) hno2 ?_]
    · congr 1
      · congr 1
        have kv : ∀ x : VV, x.av (setBoxes e.sig.args (xs.map (sev C s)) q.2 s.objs) = x.av s.objs := by
          intro x
          cases x with
          | c x => exact s2 x
          | g l =>
            simp only [VV.av]
            congr 1
            apply List.map_congr_left
            intro x _; exact s2 x
        simp only [SS.st]
        apply List.map_congr_left
        intro i _
        cases lkE s.env i with
        | v x => exact (kv x).symm
        | tup l =>
          simp only [SV.av]
          congr 1
          apply List.map_congr_left
          intro x _; exact (kv x).symm
    · show objsAV _ (setBoxes _ _ _ _) = _
      have ko : ∀ O : SObjs, objsAV (setBoxes e.sig.args (xs.map (sev C s)) q.2 s.objs) O = objsAV s.objs O := by
        intro O
        induction O with
        | nil => rfl
        | cons p r ih =>
          obtain ⟨m, o⟩ := p
          have : o.av (setBoxes e.sig.args (xs.map (sev C s)) q.2 s.objs) = o.av s.objs := by
            cases o with
            | box cs =>
              simp only [SO.av]
              congr 1
              apply List.map_congr_left
              intro x _; exact s2 x
            | arr ts l => rfl
            | mp _ _ _ => rfl
          simp only [objsAV, ih, this]
      rw [ko, s1]; rfl

theorem sCall_sound {P : Program} {R : Type} {FT : List (Nat × Entry)} (hFT : FTok P FT) {C : Cfg} {s : SS} {dst : Option Tmp} {f : FuncId} {xs : List Operand} {K : SS → Option R} {r : R}
    (h : sCall C FT false s dst f xs K = some r) : ∃ s1 f' Φ hr, Cov (s.st C.N) (s1.st C.N) ∧ keepsB s s1 ∧ Sound P Φ ∧ cOp Φ (s1.st C.N).env (s1.st C.N).objs (dst.getD 999998) f xs = some hr ∧
      (⟨putA hr.env dst hr.x, hr.objs⟩ : St) = f'.st C.N ∧ K f' = some r := by
  unfold sCall at h
  split at h
  · cases h
  · rename_i e he
    cases hbg : ((bxsOf e.sig.args).isEmpty && gRT e.sig.ret) with
    | true =>
      simp only [hbg] at h
      simp only [Bool.and_eq_true] at hbg
      split at h
      · cases h
      · rename_i s1 hs1
        obtain ⟨a1, a2, a3⟩ := freshS_no (N := C.N) hs1
        split at h
        · cases h
        · rename_i a ha
          split at h
          · rename_i hcond
            simp only [obind] at h
            obtain ⟨q, hF, hK⟩ := Option.bind_eq_some_iff.1 h
            obtain ⟨ys, h1, h2, h3⟩ := quiet_call hFT he hbg.1 hbg.2 ha hF
            obtain ⟨g1, g2, g3, g4⟩ := ground_r e.sig.ret q.1 hbg.2
            refine ⟨s1, _, one f ys [] ⟨e.sig.ret.av q.1, [], none⟩, ⟨e.sig.ret.av q.1, (s1.st C.N).env, (s1.st C.N).objs⟩, a1, a2, one_sound (hFT f e he).1 h3, ?_, ?_, hK⟩
            · unfold cOp
              split
              · rename_i hn
                have e1 := lend_id hn h1
                subst e1
                obtain ⟨m1, m2⟩ := nf_args h2
                simp only [cGive, m2, lookAll, List.filterMap_nil, List.map_nil, boxesOk, one_eq]
                rw [if_pos ⟨m1, trivial, List.nodup_nil, trivial, look_none a3.1, hcond.1, by simp⟩]
                simp only [g3, updAll]
                rw [if_pos ⟨trivial, trivial, g4⟩]
              · unfold cLend
                rw [h1]
                simp only [h2, if_true, one_eq, g1]
            · have hset : setBoxes e.sig.args (xs.map (sev C s1)) q.2 s1.objs = s1.objs := setBoxes_no (noBx_of hbg.1)
              have key : ∀ (rt : RT) (y : rt.T), gRT rt = true → (retS (dst.getD 999998) ⟨s1.env, s1.objs⟩ rt y).2 = s1 ∧ (retS (dst.getD 999998) ⟨s1.env, s1.objs⟩ rt y).1.av s1.objs = rt.av y := by
                intro rt y hg
                cases rt with
                | v c => exact ⟨rfl, csv_av c y⟩
                | tup l => exact ⟨rfl, by simp only [retS, SV.av, vvs_av, RT.av]⟩
                | _ => simp [gRT] at hg
              rw [hset]
              obtain ⟨k1, k2⟩ := key e.sig.ret q.1 hbg.2
              rw [k1, put_st, k2]
          · cases h
    | false =>
      simp only [hbg] at h
      split at h
      · cases h
      · rename_i s1 hs1
        obtain ⟨a1, a2, a3, a4⟩ := prepS_cov hs1
        split at h
        · cases h
        · rename_i a ha
          split at h
          · rename_i hcond
            simp only [obind] at h
            obtain ⟨q, hF, hK⟩ := Option.bind_eq_some_iff.1 h
            obtain ⟨Φ, hr, h1, h2, h3, _, _⟩ := give_call (dst := dst) hFT he a3 a4 ha hF hcond.1 hcond.2.1 hcond.2.2
            exact ⟨s1, _, Φ, hr, a1, a2, h1, h2, h3, hK⟩
          · cases h
end Go.Abs

/- Regions: rules that take one operation after another, each with a table of its own. -/
namespace Go.Abs
open Go.RowKit

/-- Operations that are read, one after another. -/
def qSteps (P : Program) (ops : Array Oper) : List Oper → St → St → Prop
  | [], s, s' => s = s'
  | o :: l, s, s' => ∃ s1 Φ, Sound P Φ ∧ qOp1 P Φ ops o s = some s1 ∧ qSteps P ops l s1 s'
/-- Operations in their order, whatever the state stands for. -/
def TailOk (P : Program) (pins : List Nat) (ops : Array Oper) (Q : St → Prop) (l : List Oper) (s : St) : Prop :=
  ∀ w0 M0 D0 a w, PinsOk pins D0 → Sat w0 M0 D0 s a w → wpList P ops (Nrm (SatQ w0 M0 D0 Q)) l a w

theorem qSteps_sound {P : Program} {ops : Array Oper} {w0 w : World} {M0 : Nat → Prop} {D : Names} {C : World → Prop} (hC : ∀ w', C w' ↔ Below w.heap.size w w') {Q : Act → Prop} :
    ∀ (l : List Oper) {s s' : St} {a : Act}, qSteps P ops l s s' → Mem w0 M0 s.objs D w → EnvRep w D s.env a.tmps → (s'.objs = s.objs → ∀ a', a'.defers = a.defers → EnvRep w D s'.env a'.tmps → Q a') → wpQuiet P ops C Q l a
  | [], s, s', a, h, hm, he, hq => by cases h; exact hq rfl a rfl he
  | o :: l, s, s', a, h, hm, he, hq => by
    obtain ⟨s1, Φ, hΦ, h1, h⟩ := h
    have hobj : s1.objs = s.objs := (qOp1_frame hΦ h1 hm he hC (K := fun _ => True) (fun _ _ _ => trivial) (fun _ => trivial)).1
    refine wpQuiet_step fun K hK => (qOp1_frame hΦ h1 hm he hC (fun a' hd' he' => hK _ ?_) (fun _ => trivial)).2
    exact qSteps_sound hC l h (by rw [hobj]; exact hm) he' (fun h2 a'' hd'' he'' => hq (h2.trans hobj) a'' (hd''.trans hd') he'')

theorem wpK_of_qSteps {P : Program} {ops : Array Oper} {w0 B : World} {M0 : Nat → Prop} {D : Names} {k : Nat} {Q : Act → Prop} {rest : List Oper} : ∀ (l : List Oper) (i : Nat) {s s' : St} {a : Act},
    qSteps P ops l s s' → i + l.length = k → Mem w0 M0 s.objs D B → EnvRep B D s.env a.tmps → (∀ a', a'.defers = a.defers → s'.objs = s.objs → EnvRep B D s'.env a'.tmps → wpK P ops B k Q rest k a') → wpK P ops B k Q (l ++ rest) i a
  | [], i, s, s', a, h, hi, hm, he, hq => by
    cases h
    simp only [List.length_nil, Nat.add_zero] at hi; subst hi
    exact hq a rfl rfl he
  | o :: l, i, s, s', a, h, hi, hm, he, hq => by
    obtain ⟨s1, Φ, hΦ, h1, h⟩ := h
    simp only [List.length_cons] at hi
    obtain ⟨e, v, hy, he'⟩ := qOp1_yd hΦ h1 hm he (k := k) (i := i) (by omega)
    exact ⟨v, hy, wpK_of_qSteps l (i + 1) h (by omega) (by rw [e]; exact hm) he' (fun a' hd ho he'' => hq a' (hd.trans (put_defers _ _ _)) (ho.trans e) he'')⟩

theorem reg_x {P : Program} {pins : List Nat} {Q : St → Prop} {s : St} {ops : Array Oper} (hnd : noDef ops = true) (h : TailOk P pins ops Q ops.toList s) : RegOk P pins ops false s Q :=
  fun w0 M0 D0 a w hp hs => ⟨fun _ _ => wpListIn_of ops.toList (fun o ho => by
    obtain ⟨j, hj⟩ := List.getElem?_of_mem ho
    exact noDef_spec hnd j o (by simpa using hj)) a w (h w0 M0 D0 a w hp hs), fun h => by cases h⟩
theorem reg_q {P : Program} {pins : List Nat} {Q : St → Prop} {s s' : St} {ops : Array Oper} (hB : Region.lexB .any ops = true) (hx : qSteps P ops ops.toList s s') (h : Q s') : RegOk P pins ops true s Q := by
  intro w0 M0 D0 a w _ hs
  obtain ⟨hd, D, hmem, he, hpin⟩ := hs
  refine ⟨fun h => by (cases h), fun _ => any_quiet (C := fun w' => Below w.heap.size w w') hB ⟨rfl, rfl, rfl, Nat.le_refl _, fun _ _ => rfl⟩ ?_⟩
  refine qSteps_sound (fun _ => Iff.rfl) ops.toList hx hmem he fun hobj a' hd' he' w' hw' => ⟨rfl, s', h, hd'.trans hd, D, ?_, ?_, ?_⟩
  · rw [hobj]
    exact hmem.ext (grow_of_below hw') hw'.os hw'.tape hw'.output
  · exact he'.mono ((grow_of_below hw').weaken (fun _ _ h => h.elim)) (fun _ _ h => h) hmem.lt (fun _ _ h => h)
  · rw [hobj]; exact hpin

theorem reg_qt {P : Program} {pins : List Nat} {Q : St → Prop} {s s1 : St} {l : List Oper} (n : Nat) (hB : Region.lexTailB .any l.toArray n = true)
    (hx : qSteps P l.toArray (l.take n) s s1) (h : TailOk P pins l.toArray Q (l.drop n) s1) : RegOk P pins l.toArray true s Q := by
  intro w0 M0 D0 a w hp hs
  obtain ⟨hd, D, hmem, he, hpin⟩ := hs
  refine ⟨fun h => by (cases h), fun _ => any_qt (C := fun w' => Below w.heap.size w w') n hB ⟨rfl, rfl, rfl, Nat.le_refl _, fun _ _ => rfl⟩ ?_⟩
  refine qSteps_sound (fun _ => Iff.rfl) (l.take n) hx hmem he fun hobj a' hd' he' w' hw' => ?_
  refine h w0 M0 D0 a' w' hp ⟨hd'.trans hd, D, ?_, ?_, ?_⟩
  · rw [hobj]
    exact hmem.ext (grow_of_below hw') hw'.os hw'.tape hw'.output
  · exact he'.mono ((grow_of_below hw').weaken (fun _ _ h => h.elim)) (fun _ _ h => h) hmem.lt (fun _ _ h => h)
  · rw [hobj]; exact hpin

theorem reg_da {P : Program} {pins : List Nat} {Q : St → Prop} {s s1 s2' : St} {hd tl : List Oper} {d : Tmp} {T : TypeId} {ty : TypeId} {pos : String} {aft : Array Edge}
    (hB : Region.lexTailB .any (hd ++ ⟨some d, .alloc T, ty, pos, aft, none⟩ :: tl).toArray (hd.length + 1) = true) (hA : aloneB (hd ++ ⟨some d, .alloc T, ty, pos, aft, none⟩ :: tl).toArray (hd.length + 1) hd.length d = true) (hz : (zeroCells P T).isSome = true)
    (hx : qSteps P (hd ++ ⟨some d, .alloc T, ty, pos, aft, none⟩ :: tl).toArray hd s s1)
    (hx1 : ∀ w0 M0 D0 a w, Sat w0 M0 D0 ⟨putA s1.env (some d) .und, s1.objs⟩ a w → wpList P (hd ++ ⟨some d, .alloc T, ty, pos, aft, none⟩ :: tl).toArray (fun e a' w' => e = .normal ∧ Sat w0 M0 D0 s2' a' w') [⟨some d, .alloc T, ty, pos, aft, none⟩] a w)
    (h : TailOk P pins (hd ++ ⟨some d, .alloc T, ty, pos, aft, none⟩ :: tl).toArray Q tl s2') :
    RegOk P pins (hd ++ ⟨some d, .alloc T, ty, pos, aft, none⟩ :: tl).toArray true s Q := by
  intro w0 M0 D0 a w hpp hs
  obtain ⟨hdf, D, hmem, he, hpin⟩ := hs
  generalize hok : (⟨some d, .alloc T, ty, pos, aft, none⟩ : Oper) = ok at *
  generalize hl : hd ++ ok :: tl = l at *
  have hokl : l.toArray[hd.length]? = some ok := by rw [← hl]; simp
  obtain ⟨z, hz⟩ := Option.isSome_iff_exists.1 hz
  obtain ⟨i, zv, hi, hzv, _, _⟩ := cellsOne_zero w D hz
  have hrun : ∀ (ρ : Operand → Value) (w : World), (execOp ρ ok).run P w = .ok (.value (.pointer (some ⟨w.heap.size, 0, none⟩))) (w.alloc (.cells zv.cells.toList.toArray T)) := by
    intro ρ w
    rw [← hok]
    simp [execOp, Instr.alloc, zeroValue, typeInfo, hi, hzv, newVar, newRow]
  simp only [Region.lexTailB, Bool.and_eq_true, decide_eq_true_eq] at hB
  obtain ⟨⟨⟨⟨hsel, hn⟩, hsk⟩, hc⟩, hlex⟩ := hB
  have hsz : l.toArray.size = hd.length + 1 + tl.length := by rw [← hl]; simp; omega
  have inv0 : HeadInv .any l.toArray (hd.length + 1) (Array.replicate l.toArray.size false) :=
    ⟨by simp, fun j oj _ hl => (by rw [getD_replicate_false] at hl; cases hl), fun t _ ht => getD_in (by simpa using ht) (getD_replicate_false _ _)⟩
  have hw1 : Below w.heap.size w { w with drawn := w.drawn + 1 } := ⟨rfl, rfl, rfl, Nat.le_refl _, fun _ _ => rfl⟩
  let Lq : Act → Prop := fun a' => a'.defers = a.defers ∧ s1.objs = s.objs ∧ EnvRep w D (putA s1.env (some d) .und) a'.tmps
  have hwk : wpK P l.toArray w hd.length Lq (hd ++ [ok]) 0 a := wpK_of_qSteps hd 0 hx (by simp) hmem he (fun a' hd' ho he' => by
    refine ⟨undef, .inl ⟨rfl, rfl⟩, (put_defers _ _ _).trans hd', ho, ?_⟩
    rw [← hok]
    exact he'.put (some d) (by simp only [Slot, Val, Cell]; exact .und))
  have H := headK_lex (P := P) (md := .any) (g := tl.length) hsel hsk hc hn (hd ++ [ok]) 0 _ a (fun j hj => by
    have hj' : j < hd.length + 1 := by simpa using hj
    rw [← hl]
    simp only [Nat.zero_add, List.getElem?_toArray]
    rw [List.getElem?_append, List.getElem?_append]
    split
    · rfl
    · rename_i hge
      have : j - hd.length = 0 := by omega
      rw [this]; rfl) (by simp) inv0 (by rw [show l.toArray.size - (hd.length + 1) = tl.length by omega] at hlex; simpa using hlex) hwk
  refine ⟨fun h => by (cases h), fun _ => ?_⟩
  have fin := sim_head (P := P) (ops := l.toArray) (md := .any) (B := w) (k := hd.length) (n := hd.length + 1) (g := tl.length) (Q' := Nrm (SatQ w0 M0 D0 Q)) (ok := ok) (d := d) hokl (by rw [← hok]) (by rw [← hok]) hrun (Region.noSelect_spec hsel)
    (fun i o hin hik hio => by
      have := List.all_eq_true.1 hA i (List.mem_range.2 hin)
      simp only [hio, Bool.or_eq_true, beq_iff_eq, Bool.and_eq_true, Bool.not_eq_true'] at this
      rcases this with h | h
      · exact absurd h hik
      · exact ⟨by simpa using h.1, by simpa using h.2⟩)
    (fun listed a' a2 w2 hL inv hcome => by
      obtain ⟨hseq, hdef, hobj, he1⟩ := hL
      by_cases hkl : listed.getD hd.length false = true
      · rw [if_pos hkl] at hcome
        obtain ⟨w1, hb1, hb2, rfl⟩ := hcome
        ·
          have hmem1 : Mem w0 M0 s1.objs D w1 := by rw [hobj]; exact hmem.ext (grow_of_below hb1) hb1.os hb1.tape hb1.output
          have hsat1 : Sat w0 M0 D0 ⟨putA s1.env (some d) .und, s1.objs⟩ a' w1 := ⟨hdef.trans hdf, D, hmem1, envRep_below he1 hb1 hmem.lt, by simp only [hobj]; exact hpin⟩
          have hx := hx1 w0 M0 D0 a' w1 hsat1
          have hsat2 : Sat w0 M0 D0 s2' (a'.put (some d) (.pointer (some ⟨w1.heap.size, 0, none⟩))) (w1.alloc (.cells zv.cells.toList.toArray T)) := by
            have hgw : Region.wanted ok (yielded l.toArray a'.tmps) = true := by rw [← hok]; simp [Region.wanted]
            simp only [wpList, hgw, if_true] at hx
            unfold Oper.wp at hx
            rw [hrun] at hx
            rw [← hok] at hx
            rcases hx with hx | ⟨_, hx⟩
            · simpa [Oper.upon] using hx
            · simp [LetsOut] at hx
          have hsat3 : Sat w0 M0 D0 s2' (a'.put (some d) (.pointer (some ⟨w1.heap.size, 0, none⟩))) w2 := by
            obtain ⟨q1, D2, q2, q3, q4⟩ := hsat2
            exact ⟨q1, D2, q2.ext (grow_of_below hb2) hb2.os hb2.tape hb2.output, envRep_below q3 hb2 q2.lt, q4⟩
          refine wpAny_of_seq tl (hd.length + 1) listed _ w2 (fun j => ?_) hseq (h w0 M0 D0 _ w2 hpp hsat3)
          rw [← hl]
          simp only [List.getElem?_toArray]
          rw [List.getElem?_append_right (by omega), show hd.length + 1 + j - hd.length = j + 1 by omega]
          rfl
      · exfalso
        have hkf : listed.getD hd.length false = false := by simpa using hkl
        have hlt : hd.length < listed.size := by rw [inv.size, hsz]; omega
        have hnr := tail_waits hsk hc hn inv _ hd.length rfl (Nat.lt_succ_self _) (getD_in hlt hkf) (hd.length + 1) (Nat.le_refl _)
        have hpos : tl.length = (tl.length - 1) + 1 := by omega
        rw [hpos] at hseq
        simp only [Region.seqB, Bool.and_eq_true, decide_eq_true_eq] at hseq
        rw [hseq.1] at hnr
        exact hnr (by simp)) _ _ a a { w with drawn := w.drawn + 1 } H inv0 (by rw [if_neg (by rw [getD_replicate_false]; decide)]; exact ⟨rfl, hw1⟩)
  rw [show (hd ++ [ok]).length + tl.length = l.toArray.size by rw [hsz]; simp] at fin
  exact fin
end Go.Abs

/- Maps of integers: making, reading, changing: soundness. -/
namespace Go.Abs
open Go.RowKit Go.MapKept

/-- An operation that is done: what follows goes on from the state behind it. -/
theorem done_wp {P : Program} {ops : Array Oper} {o : Oper} {s : St} {r : HR} (hg : guardOf ops s.env o = some true) {w0 : World} {M0 : Nat → Prop} {D0 : Names} {a : Act} {w : World} (hs : Sat w0 M0 D0 s a w)
    (hdn : ∀ D, Mem w0 M0 s.objs D w → EnvRep w D s.env a.tmps → Done P w0 M0 a w D s.objs (execOp a.eval o) r)
    {rest : List Oper} {Q : Exit → Act → World → Prop} (hq : ∀ a' w', Sat w0 M0 D0 ⟨putA r.env o.dst r.x, r.objs⟩ a' w' → wpList P ops Q rest a' w') : wpList P ops Q (o :: rest) a w := by
  obtain ⟨hd, D, hm, he, hp⟩ := hs
  have hw := guardOf_sound he hg
  refine wpList_step fun K hK => ?_
  rw [if_pos hw]
  obtain ⟨v, w', D', h1, h2, h3, h4, h5⟩ := hdn D hm he
  unfold Oper.wp
  rcases h1 with h1 | ⟨h1, rfl⟩
  · rw [h1]
    exact hK _ _ (hq _ _ ⟨by rw [put_defers]; exact hd, D', h3, h4.put _ h2, h5 D0 hp⟩)
  · rw [h1]
    exact hK _ _ (hq _ _ ⟨by rw [put_defers]; exact hd, D', h3, h4.put _ h2, h5 D0 hp⟩)

theorem slot_map {w : World} {D : Names} {f : Fn} {n : Nat} {v : Value} (h : Slot w D (.wrp (some f, 1) [n]) v) : ∃ b, D n = some (some b) ∧ v = .map (some b) := by
  simp only [Slot, Val, Cell] at h
  obtain ⟨bs, h1, h2, h3⟩ := h
  match bs, h1 with
  | [b], _ => exact ⟨b, h2 0 n b rfl rfl, h3⟩
theorem slot_mk_map {w : World} {D : Names} (f : Fn) {n b : Nat} (h : D n = some (some b)) : Slot w D (.wrp (some f, 1) [n]) (.map (some b)) := by
  simp only [Slot, Val, Cell]
  refine ⟨[b], rfl, fun i m c hm hc => ?_, rfl⟩
  cases i with
  | zero => simp only [List.getElem?_cons_zero, Option.some.injEq] at hm hc; subst hm; subst hc; exact h
  | succ i => simp at hm

def mFind : List (Int × Int) → Int → Nat → Option (Nat × Int)
  | [], _, _ => none
  | (a, b) :: l, n, i => if a == n then some (i, b) else mFind l n (i + 1)
abbrev EntRep (kk k : IntKind) (es : List MapEntry) (l : List (Int × Int)) : Prop := es.map (fun e => (e.key, e.val)) = l.map fun p => (Value.int kk p.1, Value.int k p.2)
theorem findNow_int {kk k : IntKind} (n : Int) : ∀ (es : List MapEntry) (l : List (Int × Int)) (i : Nat), EntRep kk k es l →
    Instr.findNow (.int kk) (.int kk n) es i = some ((mFind l n i).map fun p => (p.1, Value.int k p.2))
  | [], [], _, _ => rfl
  | e :: es, (a, b) :: l, i, h => by
    simp only [EntRep, List.map_cons, List.cons.injEq, Prod.mk.injEq] at h
    obtain ⟨⟨h1, h2⟩, h3⟩ := h
    have ih := findNow_int n es l (i + 1) h3
    simp only [Instr.findNow, h1, Instr.sameNow, if_true, mFind]
    by_cases hc : a = n
    · subst hc; simp [h2]
    · have h4 : (n == a) = false := by simp [Ne.symm hc]
      have h5 : (a == n) = false := by simp [hc]
      simp only [h4, h5, ih, Bool.false_eq_true, if_false]
  | [], _ :: _, _, h => by simp [EntRep] at h
  | _ :: _, [], _, h => by simp [EntRep] at h
theorem mGet_find : ∀ (l : List (Int × Int)) (n : Int) (i : Nat), mGet l n = ((mFind l n i).map (·.2)).getD 0
  | [], _, _ => rfl
  | (a, b) :: l, n, i => by
    simp only [mGet, mFind]
    split
    · rfl
    · exact mGet_find l n (i + 1)
theorem mFind_none : ∀ {l : List (Int × Int)} {n : Int} {i : Nat}, mFind l n i = none → ∀ v, mSet l n v = l ++ [(n, v)]
  | [], _, _, _, _ => rfl
  | (a, b) :: l, n, i, h, v => by
    simp only [mFind] at h
    split at h
    · cases h
    · rename_i hc
      simp only [mSet, hc, Bool.false_eq_true, if_false, mFind_none h v, List.cons_append]
theorem mFind_some : ∀ {l : List (Int × Int)} {n : Int} {i j : Nat} {b : Int}, mFind l n i = some (j, b) → ∃ q, j = i + q ∧ l[q]? = some (n, b) ∧ ∀ v, mSet l n v = l.set q (n, v)
  | [], _, _, _, _, h => by cases h
  | (a, c) :: l, n, i, j, b, h => by
    simp only [mFind] at h
    split at h
    · rename_i hc
      simp only [Option.some.injEq, Prod.mk.injEq] at h
      obtain ⟨rfl, rfl⟩ := h
      have := beq_iff_eq.1 hc
      subst this
      exact ⟨0, rfl, rfl, fun v => by simp [mSet]⟩
    · rename_i hc
      obtain ⟨q, h1, h2, h3⟩ := mFind_some h
      exact ⟨q + 1, by omega, by simpa using h2, fun v => by simp only [mSet, hc, Bool.false_eq_true, if_false, h3 v, List.set_cons_succ]⟩

/-- A map is changed in its place. -/
theorem grow_setMap {w : World} {r : Nat} {es es' : Array MapEntry} {c c' : Nat} (hb : w.heap[r]? = some (.map es c)) {M : Nat → Prop} (hM : M r) : Grow w { w with heap := w.heap.setIfInBounds r (.map es' c') } M where
  size := by simp
  same := fun b _ hn => (MapKept.heap_set hb).2 b fun e => hn (e ▸ hM)
  row := fun b _ => by
    by_cases h : b = r
    · subst h
      have h1 := (MapKept.heap_set (o' := .map es' c') hb).1
      simp only [World.row, World.shape?, h1, hb]
    · have h1 := (MapKept.heap_set (o' := .map es' c') hb).2 b h
      simp only [World.row, World.shape?, h1]

theorem mapOk_spec {P : Program} {T : TypeId} {kk k : IntKind} (h : mapOkB P T kk k = true) : ∃ K E i, P.underlying T = some (.map K E) ∧ P.underlying K = some (.int kk) ∧ P.info? E = some i ∧ i.zero = some (.int k 0) := by
  unfold mapOkB at h
  split at h
  case h_2 => cases h
  rename_i kk' E hT
  simp only [Bool.and_eq_true, decide_eq_true_eq] at h
  obtain ⟨rfl, h⟩ := h
  unfold mapT at hT
  split at hT
  case h_2 => cases hT
  rename_i K E' hu
  split at hT
  case h_2 => cases hT
  rename_i k2 hK
  simp only [Option.some.injEq, Prod.mk.injEq] at hT
  obtain ⟨rfl, rfl⟩ := hT
  split at h
  case h_2 => cases h
  rename_i i hi
  split at h
  case h_2 => cases h
  rename_i k' n hz
  simp only [Bool.and_eq_true, decide_eq_true_eq] at h
  obtain ⟨rfl, rfl⟩ := h
  exact ⟨K, E', i, hu, hK, hi, hz⟩

section
variable {P : Program} {w0 w : World} {M0 : Nat → Prop} {D : Names} {objs : List (Nat × Obj)} {env : List AV} {a : Act}
theorem d_makeMap (hm : Mem w0 M0 objs D w) (he : EnvRep w D env a.tmps) {d : Nat} (hd : look d objs = none) (hK : d < top) (f : Fn) (kk k : IntKind) (T : TypeId) {s : Sem Next} (hs : s.run P w = .ok (.value (.map (some w.heap.size))) (w.alloc (.map #[] 0))) :
    Done P w0 M0 a w D objs s ⟨.wrp (some f, 1) [d], env, (d, .mp kk k []) :: objs⟩ := by
  have hfr := hm.fresh hd hK
  refine ⟨_, _, D.ins d (some w.heap.size), .inl hs, slot_mk_map f (ins_self _ _ _), hm.alloc hd hK _ _ ⟨#[], 0, alloc_at _ _, rfl⟩, ins_env hm.lt hfr _ he, fun _ hp => hp.ins hfr _ _⟩

theorem d_lookup (hm : Mem w0 M0 objs D w) (he : EnvRep w D env a.tmps) {T : TypeId} {kk k : IntKind} (hT : mapOkB P T kk k = true) {n : Nat} {l : List (Int × Int)} (hl : look n objs = some (.mp kk k l)) {f : Fn} {vm : Value}
    (hv : Slot w D (.wrp (some f, 1) [n]) vm) (i : Int) {s : Sem Next} (hs : s = (do let v ← Instr.lookup T vm (.int kk i) false; pure (.value v))) : Done P w0 M0 a w D objs s ⟨.int k (mGet l i), env, objs⟩ := by
  obtain ⟨b, hD, rfl⟩ := slot_map hv
  obtain ⟨es, clock, hb, hes⟩ := hm.rep n _ _ hl hD
  obtain ⟨K, E, inf, hu, hKu, hi, hz⟩ := mapOk_spec hT
  have hk : IsKey (.int kk) (.int kk i) := rfl
  have hf := findNow_int (k := k) i es.toList l 0 hes
  refine ⟨.int k (mGet l i), w, D, .inl ?_, slot_mk_int _ _, hm, he, fun _ hp => hp⟩
  subst hs
  rw [mGet_find l i 0]
  have hzr : (zeroValue E).run P w = .ok (.int k 0) w := by simp [zeroValue, typeInfo, hi, hz]
  cases hfd : mFind l i 0 with
  | none =>
    rw [hfd] at hf
    simp [Instr.lookup, run_underlying hu, MapKept.run_getObj_map hb, MapKept.run_checkKey hKu hk, MapKept.run_findKey hKu hf, hzr, Result.andThen]
  | some p =>
    rw [hfd] at hf
    simp [Instr.lookup, run_underlying hu, MapKept.run_getObj_map hb, MapKept.run_checkKey hKu hk, MapKept.run_findKey hKu hf, Result.andThen]

theorem d_mapUpdate (hm : Mem w0 M0 objs D w) (he : EnvRep w D env a.tmps) {T : TypeId} {kk k : IntKind} (hT : mapOkB P T kk k = true) {n : Nat} {l : List (Int × Int)} (hl : look n objs = some (.mp kk k l)) {f : Fn} {vm : Value}
    (hv : Slot w D (.wrp (some f, 1) [n]) vm) (i x : Int) {s : Sem Next} (hs : s = (do Instr.mapUpdate T vm (.int kk i) (.int k x); pure .skip)) : Done P w0 M0 a w D objs s ⟨.und, env, upd n (.mp kk k (mSet l i x)) objs⟩ := by
  obtain ⟨b, hD, rfl⟩ := slot_map hv
  obtain ⟨es, clock, hb, hes⟩ := hm.rep n _ _ hl hD
  obtain ⟨K, E, inf, hu, hKu, hi, hz⟩ := mapOk_spec hT
  have hk : IsKey (.int kk) (.int kk i) := rfl
  have hf := findNow_int (k := k) i es.toList l 0 hes
  have fin : ∀ (es' : Array MapEntry) (c' : Nat), s.run P w = .ok .skip { w with heap := w.heap.setIfInBounds b (.map es' c') } → EntRep kk k es'.toList (mSet l i x) →
      Done P w0 M0 a w D objs s ⟨.und, env, upd n (.mp kk k (mSet l i x)) objs⟩ := by
    intro es' c' hrun hrep
    have kN : Grow w { w with heap := w.heap.setIfInBounds b (.map es' c') } D.N := grow_setMap hb ⟨n, hm.small n (by simp [hl]), hD⟩
    have kg : Grow w { w with heap := w.heap.setIfInBounds b (.map es' c') } D.M := kN.weaken (fun _ _ h => Names.N_M h)
    exact ⟨undef, _, D, .inr ⟨hrun, rfl⟩, by simp only [Slot, Val, Cell]; exact .und, hm.upd hl hD kN (fun c hc => (MapKept.heap_set hb).2 c hc) ⟨es', c', (MapKept.heap_set hb).1, hrep⟩ rfl rfl rfl, he.mono kg (fun _ _ h => h) hm.lt (fun _ _ h => h), fun _ hp => hp.upd hl (.inr (.inr ⟨_, _, _, rfl⟩))⟩
  subst hs
  cases hfd : mFind l i 0 with
  | none =>
    rw [hfd] at hf
    refine fin (es.push { key := .int kk i, val := .int k x, born := clock }) (clock + 1) ?_ ?_
    · simp [Instr.mapUpdate, run_underlying hu, MapKept.run_getObj_map hb, MapKept.run_checkKey hKu hk, MapKept.run_findKey hKu hf, MapKept.run_setObj_map _ hb, Result.andThen]
    · rw [mFind_none hfd x]
      simp only [EntRep, Array.toList_push, List.map_append, List.map_cons, List.map_nil]
      rw [show es.toList.map (fun e => (e.key, e.val)) = _ from hes]
  | some p =>
    obtain ⟨j, c⟩ := p
    rw [hfd] at hf
    obtain ⟨q, hq, hlq, hset⟩ := mFind_some hfd
    have hq : j = q := by omega
    subst hq
    have hej : ∃ e, es[j]? = some e ∧ e.key = .int kk i := by
      have h1 := congrArg (fun t => t[j]?) hes
      simp only [List.getElem?_map, hlq, Option.map_some] at h1
      cases he2 : es.toList[j]? with
      | none => rw [he2] at h1; simp at h1
      | some e =>
        rw [he2] at h1
        simp only [Option.map_some, Option.some.injEq, Prod.mk.injEq] at h1
        exact ⟨e, by simpa using he2, h1.1⟩
    obtain ⟨e, he3, hek⟩ := hej
    refine fin (es.modify j fun e => { e with key := .int kk i, val := .int k x }) clock ?_ ?_
    · simp [Instr.mapUpdate, run_underlying hu, MapKept.run_getObj_map hb, MapKept.run_checkKey hKu hk, MapKept.run_findKey hKu hf, he3, hek, MapKept.run_keyThatStays hk, MapKept.run_setObj_map _ hb, Result.andThen]
    · rw [hset x]
      simp only [EntRep]
      apply List.ext_getElem?
      intro m
      have h1 := congrArg (fun t => t[m]?) hes
      simp only [List.getElem?_map, Array.getElem?_toList] at h1
      simp only [List.getElem?_map, Array.getElem?_toList, Array.getElem?_modify, List.getElem?_set]
      by_cases hjm : j = m
      · subst hjm
        have hlt : j < l.length := (List.getElem?_eq_some_iff.1 hlq).1
        simp [he3, hlt]
      · simp only [hjm, if_false]; exact h1
end

theorem asM_spec {s : SS} {x : SV} {n : Nat} (h : asM x = some n) : ∃ f, x.av s.objs = .wrp (some (Fn.func f), 1) [n] := by
  unfold asM at h
  split at h
  · simp only [Option.some.injEq] at h; subst h; exact ⟨_, rfl⟩
  · cases h
theorem asKI_spec {s : SS} {x : SV} {k : IntKind} {n : Int} (h : asKI x = some (k, n)) : x.av s.objs = .int k n := by
  unfold asKI at h
  split at h
  · simp only [Option.some.injEq, Prod.mk.injEq] at h; obtain ⟨rfl, rfl⟩ := h; rfl
  · cases h
theorem st_updM {N n : Nat} {s : SS} {kk k : IntKind} {l l' : List (Int × Int)} (ho : lookS n s.objs = some (.mp kk k l)) :
    (SS.st N ⟨s.env, updS n (.mp kk k l') s.objs⟩) = ⟨(s.st N).env, upd n (.mp kk k l') (s.st N).objs⟩ := by
  have key : ∀ x : CV, x.av (updS n (.mp kk k l') s.objs) = x.av s.objs := fun x => av_objs fun m _ => by
    by_cases h : n = m
    · subst h; rw [lookS_upd _ (by rw [ho]; rfl), ho]
    · rw [lookS_upd_ne _ h]
  have kv : ∀ x : VV, x.av (updS n (.mp kk k l') s.objs) = x.av s.objs := fun x => by
    cases x with
    | c x => exact key x
    | g l => simp only [VV.av]; congr 1; exact List.map_congr_left fun c _ => key c
  have ks : ∀ x : SV, x.av (updS n (.mp kk k l') s.objs) = x.av s.objs := fun x => by
    cases x with
    | v x => exact kv x
    | tup l => simp only [SV.av]; congr 1; exact List.map_congr_left fun c _ => kv c
  have ko : ∀ x : SO, x.av (updS n (.mp kk k l') s.objs) = x.av s.objs := fun x => by
    cases x with
    | box cs => simp only [SO.av]; congr 1; exact List.map_congr_left fun c _ => key c
    | arr ts l => rfl
    | mp _ _ _ => rfl
  have kos : ∀ q : SObjs, objsAV (updS n (.mp kk k l') s.objs) q = objsAV s.objs q := by
    intro q
    induction q with
    | nil => rfl
    | cons p r ih => obtain ⟨m, o⟩ := p; simp only [objsAV, ih, ko]
  simp only [SS.st]
  rw [kos, objsAV_upd]
  congr 1
  exact List.map_congr_left fun i _ => ks _

theorem sMp_wp {P : Program} {C : Cfg} (hG : Good P C.G) {ops : Array Oper} {o : Oper} {s s' : SS} {x : SV} (h : sMp C s o.dst o.op = some (x, s')) (hg : ∀ s1, keepsB s s1 → guardOf ops (s1.st C.N).env o = some true)
    {w0 : World} {M0 : Nat → Prop} {D0 : Names} {a : Act} {w : World} (hs : Sat w0 M0 D0 (s.st C.N) a w) {rest : List Oper} {Q : Exit → Act → World → Prop}
    (hq : ∀ a' w', Sat w0 M0 D0 ((s'.put o.dst x).st C.N) a' w' → wpList P ops Q rest a' w') : wpList P ops Q (o :: rest) a w := by
  unfold sMp at h
  split at h
  · rename_i T d hop hdst
    split at h
    case isFalse => cases h
    rename_i hd
    split at h
    case h_2 => cases h
    rename_i s1 kk k h1 hT
    simp only [Option.some.injEq, Prod.mk.injEq] at h
    obtain ⟨rfl, rfl⟩ := h
    obtain ⟨a1, a2, a3⟩ := freshS_no (N := C.N) h1
    refine done_wp (hg s1 a2) (a1 _ _ _ _ _ hs) (fun D hm he => d_makeMap hm he (look_none a3.1) hd (.func 0) kk k T ?_) fun a' w' hs' => hq a' w' ?_
    · simp only [execOp, hop, Option.map_none, Sem.run_bind, run_makeMap, Result.andThen_ok, Sem.run_pure]
    · rw [hdst] at hs' ⊢
      rw [st_made a3]
      exact hs'
  · rename_i T m i hop
    split at h
    case h_2 => cases h
    rename_i n k1 i' kk k hm' hi' hT
    split at h
    case h_2 => cases h
    rename_i kk' k' l hl
    split at h
    case isFalse => cases h
    rename_i hc
    obtain ⟨rfl, rfl, rfl⟩ := hc
    simp only [Option.some.injEq, Prod.mk.injEq] at h
    obtain ⟨rfl, rfl⟩ := h
    obtain ⟨f, hmv⟩ := asM_spec (s := s) hm'
    have hiv := asKI_spec (s := s) hi'
    rw [sev_av] at hmv hiv
    refine done_wp (r := ⟨.int k' (mpGet l i'), (s.st C.N).env, (s.st C.N).objs⟩) (hg s (.rfl' _)) hs (fun D hm he => ?_) fun a' w' hs' => hq a' w' (by rw [put_st]; exact hs')
    have e1 := ev_sound (a := a) hm.glob he m
    have e2 := ev_sound (a := a) hm.glob he i
    rw [hmv] at e1
    rw [hiv] at e2
    refine d_lookup hm he (hG T _ hT).1 (n := n) (l := l) ?_ e1 i' ?_
    · show look n (objsAV s.objs s.objs) = _
      rw [lookS_av, hl]; rfl
    · simp only [execOp, hop, slot_int e2]
  · rename_i T m i x' hop hdst
    split at h
    case h_2 => cases h
    rename_i n k1 i' k2 v kk k hm' hi' hx' hT
    split at h
    case h_2 => cases h
    rename_i kk' k' l hl
    split at h
    case isFalse => cases h
    rename_i hc
    obtain ⟨rfl, rfl, rfl, rfl⟩ := hc
    simp only [Option.some.injEq, Prod.mk.injEq] at h
    obtain ⟨rfl, rfl⟩ := h
    obtain ⟨f, hmv⟩ := asM_spec (s := s) hm'
    have hiv := asKI_spec (s := s) hi'
    have hxv := asKI_spec (s := s) hx'
    rw [sev_av] at hmv hiv hxv
    refine done_wp (r := ⟨.und, (s.st C.N).env, upd n (.mp kk' k' (mpSet l i' v)) (s.st C.N).objs⟩) (hg s (.rfl' _)) hs (fun D hm he => ?_) fun a' w' hs' => hq a' w' (by rw [put_st, st_updM hl]; rw [hdst] at hs' ⊢; exact hs')
    have e1 := ev_sound (a := a) hm.glob he m
    have e2 := ev_sound (a := a) hm.glob he i
    have e3 := ev_sound (a := a) hm.glob he x'
    rw [hmv] at e1
    rw [hiv] at e2
    rw [hxv] at e3
    refine d_mapUpdate hm he (hG T _ hT).1 (n := n) (l := l) ?_ e1 i' v ?_
    · show look n (objsAV s.objs s.objs) = _
      rw [lookS_av, hl]; rfl
    · simp only [execOp, hop, slot_int e2, slot_int e3]
  · cases h
end Go.Abs

/- The walk of a list of operations: soundness. -/
namespace Go.Abs
open Go.RowKit

theorem noT_ok {P : Program} : Sound P noT := noT_sound

theorem xOp_r {P : Program} {Φ : Table} {ops : Array Oper} {o : Oper} {s : St} {x : AV} (hg : guardOf ops s.env o = some true) (hf : isFun o.op = false) (h : rOp P s.env s.objs o.op = some x) :
    xOp P Φ ops o s = some ⟨putA s.env o.dst x, s.objs⟩ := by
  simp only [xOp, hg]
  cases hop : o.op with
  | call c =>
    obtain ⟨callee, args, tys⟩ := c
    rw [hop] at hf h
    cases callee with
    | value x => cases x with
      | func f => simp [isFun] at hf
      | _ => simp only [h]
    | _ => simp only [h]
  | _ => rw [hop] at h; simp only [h]
theorem xOp_h {P : Program} {Φ : Table} {ops : Array Oper} {o : Oper} {s : St} {r : HR} (hg : guardOf ops s.env o = some true) (hf : isFun o.op = false) (h0 : rOp P s.env s.objs o.op = none) (h : hOp P s.env s.objs o.dst o.op = some r) :
    xOp P Φ ops o s = some ⟨putA r.env o.dst r.x, r.objs⟩ := by
  simp only [xOp, hg]
  cases hop : o.op with
  | call c =>
    obtain ⟨callee, args, tys⟩ := c
    rw [hop] at hf h0 h
    cases callee with
    | value x => cases x with
      | func f => simp [isFun] at hf
      | _ => simp only [h0, h, Option.map_some]
    | _ => simp only [h0, h, Option.map_some]
  | _ => rw [hop] at h0 h; simp only [h0, h, Option.map_some]
theorem qOp_r {P : Program} {Φ : Table} {ops : Array Oper} {o : Oper} {s : St} {x : AV} (hg : guardOf ops s.env o = some true) (hf : isFun o.op = false) (h : rOp P s.env s.objs o.op = some x) :
    qOp1 P Φ ops o s = some ⟨putA s.env o.dst x, s.objs⟩ := by
  simp only [qOp1, hg]
  cases hop : o.op with
  | call c =>
    obtain ⟨callee, args, tys⟩ := c
    rw [hop] at hf h
    cases callee with
    | value x => cases x with
      | func f => simp [isFun] at hf
      | _ => simp only [h, Option.map_some]
    | _ => simp only [h, Option.map_some]
  | _ => rw [hop] at h; simp only [h, Option.map_some]

theorem sOp0_wp {P : Program} {C : Cfg} {FT : List (Nat × Entry)} (hG : Good P C.G) (hFT : FTok P FT) {R : Type} {ops : Array Oper} {o : Oper} {s : SS} {K : SS → Option R} {r : R}
    (h : sOp0 C FT false s o.dst o.op K = some r) (hg : ∀ s1, keepsB s s1 → guardOf ops (s1.st C.N).env o = some true) {w0 : World} {M0 : Nat → Prop} {D0 : Names} {a : Act} {w : World} (hs : Sat w0 M0 D0 (s.st C.N) a w)
    {rest : List Oper} {Q : Exit → Act → World → Prop} (hq : ∀ s' a' w', K s' = some r → Sat w0 M0 D0 (s'.st C.N) a' w' → wpList P ops Q rest a' w') : wpList P ops Q (o :: rest) a w := by
  unfold sOp0 at h
  split at h
  · rename_i f args tys hop
    obtain ⟨s1, f', Φ, hr, a1, a2, a3, a4, a5, a6⟩ := sCall_sound hFT h
    have hx : xOp P Φ ops o (s1.st C.N) = some ⟨putA hr.env o.dst hr.x, hr.objs⟩ := by
      simp only [xOp, hg s1 a2, hop, a4, Option.map_some]
    exact xOp_sound a3 hx (a1 _ _ _ _ _ hs) fun a' w' hs' => hq f' a' w' a6 (by rw [← a5]; exact hs')
  · rename_i c x y hop
    split at h
    · rename_i t ht
      have hev := asK_ev ht
      simp only [br] at h
      have hx : xOp P noT ops o (s.st C.N) = some ⟨putA (s.st C.N).env o.dst (if t = true then ev (s.st C.N).env x else ev (s.st C.N).env y), (s.st C.N).objs⟩ :=
        xOp_r (hg s (.rfl' _)) (by rw [hop]; rfl) (by rw [hop]; simp only [rOp, hev, KV.av])
      split at h
      · rename_i ht'
        rw [if_pos ht'] at hx
        exact xOp_sound noT_ok hx hs fun a' w' hs' => hq _ a' w' h (by rw [put_st, sev_av]; exact hs')
      · rename_i ht'
        rw [if_neg ht'] at hx
        exact xOp_sound noT_ok hx hs fun a' w' hs' => hq _ a' w' h (by rw [put_st, sev_av]; exact hs')
    · cases h
  · rename_i hn1 hn2
    have hf : isFun o.op = false := by
      cases hop : o.op with
      | call c =>
        obtain ⟨callee, args, tys⟩ := c
        cases callee with
        | value x => cases x with
          | func f => exact absurd hop (hn1 _ _ _)
          | _ => rfl
        | _ => rfl
      | _ => rfl
    split at h
    · rename_i c x hr
      obtain ⟨hc, hK⟩ := need_some h
      have hx : xOp P noT ops o (s.st C.N) = some ⟨putA (s.st C.N).env o.dst (x.av s.objs), (s.st C.N).objs⟩ := xOp_r (hg s (.rfl' _)) hf (sR_sound hG hr hc)
      exact xOp_sound noT_ok hx hs fun a' w' hs' => hq _ a' w' hK (by rw [put_st]; exact hs')
    · simp only [Bool.false_eq_true, if_false] at h
      split at h
      · rename_i c x s' hr
        obtain ⟨hc, hK⟩ := need_some h
        obtain ⟨s1, hr, b1, b2, b3, b4, b5, b6⟩ := sH_sound hG hr hc
        exact xOp_sound noT_ok (xOp_h (hg s1 b2) b3 b4 b5) (b1 _ _ _ _ _ hs) fun a' w' hs' => hq _ a' w' hK (b6 _ _ _ _ _ hs')
      · cases h

theorem sOp_wp {P : Program} {C : Cfg} {FT : List (Nat × Entry)} (hG : Good P C.G) (hFT : FTok P FT) {R : Type} {ops : Array Oper} {o : Oper} {s : SS} {K : SS → Option R} {r : R}
    (h : sOp C FT false s o.dst o.op K = some r) (hg : ∀ s1, keepsB s s1 → guardOf ops (s1.st C.N).env o = some true) {w0 : World} {M0 : Nat → Prop} {D0 : Names} {a : Act} {w : World} (hs : Sat w0 M0 D0 (s.st C.N) a w)
    {rest : List Oper} {Q : Exit → Act → World → Prop} (hq : ∀ s' a' w', K s' = some r → Sat w0 M0 D0 (s'.st C.N) a' w' → wpList P ops Q rest a' w') : wpList P ops Q (o :: rest) a w := by
  unfold sOp at h
  simp only at h
  split at h
  · obtain ⟨s2, h1, h2, h3⟩ := trimB_sound _ h
    exact sOp0_wp hG hFT h1 (fun s1 hk => hg s1 (h3.trans hk)) (h2 _ _ _ _ _ hs) hq
  · exact sOp0_wp hG hFT h hg hs hq

theorem sOp_q {P : Program} {C : Cfg} {FT : List (Nat × Entry)} (hG : Good P C.G) (hFT : FTok P FT) {R : Type} {ops : Array Oper} {o : Oper} {s : SS} {K : SS → Option R} {r : R}
    (h : sOp C FT true s o.dst o.op K = some r) (hg : guardOf ops (s.st C.N).env o = some true) : ∃ f' Φ, Sound P Φ ∧ qOp1 P Φ ops o (s.st C.N) = some (f'.st C.N) ∧ K f' = some r := by
  have h : sOp0 C FT true s o.dst o.op K = some r := h
  unfold sOp0 at h
  split at h
  · rename_i f args tys hop
    obtain ⟨f', Φ, hr, a3, a4, a5, a6⟩ := sCall_quiet hFT h
    refine ⟨f', Φ, a3, ?_, a6⟩
    simp only [qOp1, hg, hop, a4, Option.map_some, a5]
  · rename_i c x y hop
    split at h
    · rename_i t ht
      have hev := asK_ev ht
      simp only [br] at h
      have hx : qOp1 P noT ops o (s.st C.N) = some ⟨putA (s.st C.N).env o.dst (if t = true then ev (s.st C.N).env x else ev (s.st C.N).env y), (s.st C.N).objs⟩ :=
        qOp_r hg (by rw [hop]; rfl) (by rw [hop]; simp only [rOp, hev, KV.av])
      split at h
      · rename_i ht'
        rw [if_pos ht'] at hx
        exact ⟨_, noT, noT_ok, by rw [hx, put_st, sev_av], h⟩
      · rename_i ht'
        rw [if_neg ht'] at hx
        exact ⟨_, noT, noT_ok, by rw [hx, put_st, sev_av], h⟩
    · cases h
  · rename_i hn1 hn2
    have hf : isFun o.op = false := by
      cases hop : o.op with
      | call c =>
        obtain ⟨callee, args, tys⟩ := c
        cases callee with
        | value x => cases x with
          | func f => exact absurd hop (hn1 _ _ _)
          | _ => rfl
        | _ => rfl
      | _ => rfl
    split at h
    · rename_i c x hr
      obtain ⟨hc, hK⟩ := need_some h
      exact ⟨_, noT, noT_ok, by rw [qOp_r hg hf (sR_sound hG hr hc), put_st], hK⟩
    · cases h

theorem dstOf_eq : ∀ (l : List Oper) (j : Nat), (l[j]?).bind (·.dst) = dstOf l j
  | [], j => by simp [dstOf]
  | o :: _, 0 => rfl
  | _ :: l, j + 1 => by simpa [dstOf] using dstOf_eq l j

theorem st_same {N t : Nat} {x : SV} {s : SS} (h : s.get N t = x) (hx : x ≠ .any) : SS.st N ⟨(t, x) :: s.env, s.objs⟩ = s.st N ∧ lkE s.env t = x ∧ t < N := by
  unfold SS.get at h
  split at h
  · rename_i hlt
    refine ⟨?_, h, hlt⟩
    simp only [SS.st]
    congr 1
    apply List.map_congr_left
    intro i _
    by_cases e : t = i
    · subst e; simp [lkE, h]
    · simp [lkE, e]
  · exact absurd h.symm hx

/-- what a guard says -/
theorem guard_none {ops : Array Oper} {env : List AV} {o : Oper} (h : o.guard = none) : guardOf ops env o = some true := by simp [guardOf, h]
theorem guard_bool {C : Cfg} {ops : Array Oper} {o : Oper} {j t : Nat} {want b : Bool} {s : SS} (h : o.guard = some (j, want)) (hd : dstOf ops.toList j = some t) (ht : t < C.N) (hl : lkE s.env t = SV.bool b) :
    guardOf ops (s.st C.N).env o = some (b == want) := by
  have e : (ops[j]?).bind (·.dst) = some t := by
    rw [← hd, ← dstOf_eq]
    simp
  have e2 : (s.st C.N).env.getD t .any = .bool b := by
    rw [st_get]; simp [SS.get, ht, hl]; rfl
  simp only [guardOf, h, e, e2]
theorem guard_und {C : Cfg} {ops : Array Oper} {o : Oper} {j t : Nat} {want : Bool} {s : SS} (h : o.guard = some (j, want)) (hd : dstOf ops.toList j = some t) (hl : s.get C.N t = .v (.c .und)) :
    guardOf ops (s.st C.N).env o = some false := by
  have e : (ops[j]?).bind (·.dst) = some t := by
    rw [← hd, ← dstOf_eq]
    simp
  have e2 : (s.st C.N).env.getD t .any = .und := by
    rw [st_get, hl]; rfl
  simp only [guardOf, h, e, e2]
theorem xOp_skip {P : Program} {ops : Array Oper} {o : Oper} {s : St} (h : guardOf ops s.env o = some false) : xOp P noT ops o s = some ⟨putA s.env o.dst .und, s.objs⟩ := by simp only [xOp, h]
theorem qOp_skip {P : Program} {ops : Array Oper} {o : Oper} {s : St} (h : guardOf ops s.env o = some false) : qOp1 P noT ops o s = some ⟨putA s.env o.dst .und, s.objs⟩ := by simp only [qOp1, h]

/-- The cases of a step of the walk. -/
theorem sGo_cons {R : Type} {C : Cfg} {FT : List (Nat × Entry)} {q : Bool} {ops : Array Oper} {o : Oper} {l : List Oper} {s : SS} {K : SS → Option R} {r : R} (h : sGo C FT q ops.toList (o :: l) s K = some r) :
    ∃ s', s'.st C.N = s.st C.N ∧ ((sOp C FT q s' o.dst o.op (fun s => sGo C FT q ops.toList l s K) = some r ∧ ∀ s1, keepsB s' s1 → guardOf ops (s1.st C.N).env o = some true) ∨
      (sGo C FT q ops.toList l (s'.put o.dst .und) K = some r ∧ guardOf ops (s.st C.N).env o = some false)) := by
  unfold sGo at h
  split at h
  · rename_i hgd
    exact ⟨s, rfl, .inl ⟨h, fun s1 _ => guard_none hgd⟩⟩
  · rename_i j want hgd
    split at h
    · cases h
    · rename_i t ht
      split at h
      · rename_i b hb
        obtain ⟨e1, e2, e3⟩ := st_same (x := .v (.c (.k (.bool b)))) hb (by simp [SV.any])
        have hl1 : ∀ c, lkE (((t, SV.bool c) :: s.env) : List (Nat × SV)) t = SV.bool c := fun c => by simp [lkE]
        simp only [br] at h
        split at h
        · rename_i hbt
          subst hbt
          split at h
          · refine ⟨_, e1, .inl ⟨h, fun s1 hk => ?_⟩⟩
            exact guard_bool hgd ht e3 (hk t true (hl1 true))
          · refine ⟨_, e1, .inr ⟨h, ?_⟩⟩
            exact guard_bool hgd ht e3 e2
        · rename_i hbt
          have hbt : b = false := by simpa using hbt
          subst hbt
          split at h
          · refine ⟨_, e1, .inl ⟨h, fun s1 hk => ?_⟩⟩
            exact guard_bool hgd ht e3 (hk t false (hl1 false))
          · refine ⟨_, e1, .inr ⟨h, ?_⟩⟩
            exact guard_bool hgd ht e3 e2
      · rename_i hb
        exact ⟨s, rfl, .inr ⟨h, guard_und hgd ht hb⟩⟩
      · cases h

theorem sGo_wp {P : Program} {C : Cfg} {FT : List (Nat × Entry)} (hG : Good P C.G) (hFT : FTok P FT) {R : Type} {ops : Array Oper} {K : SS → Option R} {r : R} {w0 : World} {M0 : Nat → Prop} {D0 : Names} {Q : Exit → Act → World → Prop} :
    ∀ (l : List Oper) {s : SS}, sGo C FT false ops.toList l s K = some r → ∀ {a w}, Sat w0 M0 D0 (s.st C.N) a w → (∀ s' a' w', K s' = some r → Sat w0 M0 D0 (s'.st C.N) a' w' → Q .normal a' w') → wpList P ops Q l a w
  | [], s, h, a, w, hs, hq => hq s a w h hs
  | o :: l, s, h, a, w, hs, hq => by
    obtain ⟨s', e, h⟩ := sGo_cons h
    rw [← e] at hs
    rcases h with ⟨h, hg⟩ | ⟨h, hg⟩
    · exact sOp_wp hG hFT h hg hs fun s2 a' w' h2 hs2 => sGo_wp hG hFT l h2 hs2 hq
    · rw [← e] at hg
      exact xOp_sound noT_ok (xOp_skip hg) hs fun a' w' hs' => sGo_wp hG hFT l h (by rw [put_st]; exact hs') hq

theorem sGo_q {P : Program} {C : Cfg} {FT : List (Nat × Entry)} (hG : Good P C.G) (hFT : FTok P FT) {R : Type} {ops : Array Oper} {K : SS → Option R} {r : R} :
    ∀ (l : List Oper) {s : SS}, sGo C FT true ops.toList l s K = some r → ∃ s', qSteps P ops l (s.st C.N) (s'.st C.N) ∧ K s' = some r
  | [], s, h => ⟨s, rfl, h⟩
  | o :: l, s, h => by
    obtain ⟨s', e, h⟩ := sGo_cons h
    rcases h with ⟨h, hg⟩ | ⟨h, hg⟩
    · obtain ⟨f', Φ, h1, h2, h3⟩ := sOp_q (ops := ops) hG hFT h (hg s' (.rfl' _))
      obtain ⟨s2, h4, h5⟩ := sGo_q hG hFT l h3
      exact ⟨s2, ⟨_, Φ, h1, by rw [← e]; exact h2, h4⟩, h5⟩
    · rw [← e] at hg
      obtain ⟨s2, h4, h5⟩ := sGo_q hG hFT l h
      refine ⟨s2, ⟨_, noT, noT_ok, by rw [← e]; exact qOp_skip hg, ?_⟩, h5⟩
      rw [put_st] at h4; exact h4

/-! ## calls that are entered in place -/
/-- The methods' table: what a method of a pointer type comes to. -/
def MtOk (P : Program) (M : MTab) : Prop := ∀ t name f r, lkM M t name = some (f, r) → match r with
  | none => ∀ b w, (method (P.types.size + Made.depth) t (.pointer (some ⟨b, 0, none⟩)) name).run P w = .ok (f, .pointer (some ⟨b, 0, none⟩)) w
  | some D => ∃ e, cellTy P e = some D ∧ ∀ b w v, (loadVar e ⟨b, 0, none⟩).run P w = .ok v w → (method (P.types.size + Made.depth) t (.pointer (some ⟨b, 0, none⟩)) name).run P w = .ok (f, v) w
/-- values that stand for what is handed over -/
def SlotsRep (w : World) (D : Names) (O : SObjs) (xs : List SV) (vs : List Value) : Prop := vs.length = xs.length ∧ ∀ (i : Nat) (x : SV), xs[i]? = some x → Slot w D (x.av O) (vs.getD i undef)
def JOk {R : Type} (P : Program) (pins : List Nat) (J : JT R) : Prop :=
  ∀ (C : Cfg) (f : FuncId) (xs : List SV) (gap : Nat) (ht : HT) (s : SS) (K : SV → SS → Option R) (r : R), Good P C.G → MtOk P C.M → J C f xs gap ht s K = some r →
    funOk P f = true ∧ ∀ (w0 : World) (M0 : Nat → Prop) (D0 D : Names) (a : Act) (w : World) (vs : List Value), PinsOk pins D0 → Mem w0 M0 (s.st C.N).objs D w → EnvRep w D (s.st C.N).env a.tmps → Pin D0 D (s.st C.N).objs → SlotsRep w D s.objs xs vs →
      Calls P f vs.toArray w fun e w' => ∃ v x s' D', e = .returned v ∧ K x s' = some r ∧ Mem w0 M0 (s'.st C.N).objs D' w' ∧ EnvRep w' D' (s'.st C.N).env a.tmps ∧ Pin D0 D' (s'.st C.N).objs ∧ Slot w' D' (x.av s'.objs) v

theorem slots_map {C : Cfg} {s : SS} {w : World} {D : Names} {a : Act} (hg : GlobRep w D.M) (he : EnvRep w D (s.st C.N).env a.tmps) (xs : List Operand) : SlotsRep w D s.objs (xs.map (sev C s)) (xs.map a.eval) := by
  refine ⟨by simp, fun i x hx => ?_⟩
  rw [List.getElem?_map] at hx
  obtain ⟨o, ho, rfl⟩ := Option.map_eq_some_iff.1 hx
  have e : (xs.map a.eval).getD i undef = a.eval o := by simp [List.getD, List.getElem?_map, ho]
  rw [e, sev_av]
  exact ev_sound hg he o
theorem SlotsRep.append {w : World} {D : Names} {O : SObjs} {xs ys : List SV} {us vs : List Value} (h : SlotsRep w D O xs us) (k : SlotsRep w D O ys vs) : SlotsRep w D O (xs ++ ys) (us ++ vs) := by
  refine ⟨by simp [h.1, k.1], fun i x hx => ?_⟩
  rw [List.getElem?_append] at hx
  split at hx
  · rename_i hi
    have := h.2 i x hx
    have hi' : i < us.length := by rw [h.1]; exact hi
    simpa [List.getD, List.getElem?_append, hi'] using this
  · rename_i hi
    have := k.2 _ x hx
    have hi' : ¬ i < us.length := by rw [h.1]; exact hi
    rw [← h.1] at this
    simpa [List.getD, List.getElem?_append, hi'] using this
theorem SlotsRep.cons {w : World} {D : Names} {O : SObjs} {x : SV} {ys : List SV} {u : Value} {vs : List Value} (h : Slot w D (x.av O) u) (k : SlotsRep w D O ys vs) : SlotsRep w D O (x :: ys) (u :: vs) :=
  SlotsRep.append (xs := [x]) (us := [u]) ⟨rfl, fun i y hy => by
    cases i with
    | zero => simp only [List.getElem?_cons_zero, Option.some.injEq] at hy; subst hy; exact h
    | succ i => simp at hy⟩ k
theorem slots_cap {w : World} {D : Names} {O : SObjs} : ∀ {ns : List (Nat × Nat)} {bs : List Nat}, bs.length = ns.length → (∀ (i : Nat) (n b : Nat), (ns.map (·.1))[i]? = some n → bs[i]? = some b → D n = some (some b)) →
    SlotsRep w D O (capS ns) (bs.map fun b => Value.pointer (some ⟨b, 0, none⟩))
  | [], [], _, _ => ⟨rfl, fun i x hx => by simp [capS] at hx⟩
  | (n, sz) :: ns, b :: bs, hl, h => by
    refine SlotsRep.cons ?_ (slots_cap (by simpa using hl) fun i m c hm hc => h (i + 1) m c (by simpa using hm) (by simpa using hc))
    simp only [SV.av, VV.av, CV.av, Slot, Val, Cell]
    exact ⟨b, h 0 n b rfl rfl, by simp⟩
  | [], _ :: _, hl, _ => by simp at hl
  | _ :: _, [], hl, _ => by simp at hl

theorem run_callFunc {P : Program} {f : FuncId} (hf : funOk P f = true) (vs : Array Value) (w : World) : (callFunc f vs).run P w = .ok (.enter f vs) w := by
  unfold funOk at hf
  split at hf
  · rename_i fn hfn
    simp only [Bool.and_eq_true, Bool.not_eq_true'] at hf
    have hb : fn.body.isNone = false := by cases hh : fn.body <;> simp [hh] at hf ⊢
    simp only [callFunc, Sem.run_bind, run_program, Result.andThen_ok, hfn, hf.1, hb, Bool.false_eq_true, if_false]
    simp
  · cases hf

theorem resolveS_sound {P : Program} {C : Cfg} (hM : MtOk P C.M) {s : SS} {c : Call} {ty : TypeId} {f : FuncId} {xs : List SV} (h : resolveS C s c = some (f, xs)) (hf : funOk P f = true) {w0 w : World} {M0 : Nat → Prop} {D : Names} {a : Act}
    (hm : Mem w0 M0 (s.st C.N).objs D w) (he : EnvRep w D (s.st C.N).env a.tmps) : ∃ vs, SlotsRep w D s.objs xs vs ∧ (do let d ← resolve a.eval c ty; invoke d.target d.args : Sem Next).run P w = .ok (.enter f vs.toArray) w := by
  obtain ⟨callee, args, tys⟩ := c
  have hargs := slots_map hm.glob he args.toList
  have earr : (args.toList.map a.eval).toArray = args.map a.eval := by apply Array.ext'; simp
  cases callee with
  | builtin b => simp [resolveS] at h
  | value x =>
    have hx := ev_sound hm.glob he x
    rw [← sev_av] at hx
    simp only [resolveS] at h
    split at h
    · rename_i g e
      simp only [Option.some.injEq, Prod.mk.injEq] at h; obtain ⟨rfl, rfl⟩ := h
      rw [e] at hx
      simp only [SV.av, VV.av, CV.av, KC.val, Slot, Val, Cell] at hx
      have hv : a.eval x = .func (.func g) #[] #[] := by
        generalize a.eval x = y at hx
        cases hx; rfl
      refine ⟨_, hargs, ?_⟩
      rw [earr]
      simp only [resolve, hv, Deferred.ofValue, Sem.run_bind, Sem.run_pure, Result.andThen_ok, invoke]
      simpa using run_callFunc hf (args.map a.eval) w
    · rename_i g t ns e
      simp only [Option.some.injEq, Prod.mk.injEq] at h; obtain ⟨rfl, rfl⟩ := h
      rw [e] at hx
      simp only [SV.av, VV.av, CV.av, Slot, Val, Cell, Option.map_some] at hx
      obtain ⟨bs, g1, g2, hv⟩ := hx
      refine ⟨_, hargs.append (slots_cap (by simpa using g1) g2), ?_⟩
      simp only [resolve, hv, Deferred.ofValue, Sem.run_bind, Sem.run_pure, Result.andThen_ok, invoke]
      have : (args.toList.map a.eval ++ bs.map fun b => Value.pointer (some ⟨b, 0, none⟩)).toArray = #[] ++ args.map a.eval ++ (bs.map fun b => Value.pointer (some ⟨b, 0, none⟩)).toArray := by
        apply Array.ext'; simp
      rw [this]
      exact run_callFunc hf _ w
    · cases h
  | invoke x name =>
    have hx := ev_sound hm.glob he x
    rw [← sev_av] at hx
    simp only [resolveS] at h
    split at h
    case h_2 => cases h
    rename_i t n sz e
    rw [e] at hx
    simp only [SV.av, VV.av, CV.av, Slot, Val, Cell, Option.map_none, List.map_cons, List.map_nil] at hx
    obtain ⟨bs, g1, g2, hv⟩ := hx
    match bs, g1 with
    | [b], _ =>
      have hD := g2 0 n b rfl rfl
      simp only [List.headD_cons] at hv
      have run : ∀ v, (method (P.types.size + Made.depth) t (.pointer (some ⟨b, 0, none⟩)) name).run P w = .ok (f, v) w →
          (do let d ← resolve a.eval ⟨.invoke x name, args, tys⟩ ty; invoke d.target d.args : Sem Next).run P w = .ok (.enter f (v :: args.toList.map a.eval).toArray) w := by
        intro v hr
        have e2 : (#[Value.iface t (.pointer (some ⟨b, 0, none⟩))] ++ args.map a.eval).extract 1 (#[Value.iface t (.pointer (some ⟨b, 0, none⟩))] ++ args.map a.eval).size = args.map a.eval := by
          apply Array.ext'
          simp
          exact List.take_of_length_le (by simp)
        have e0 : (#[Value.iface t (.pointer (some ⟨b, 0, none⟩))] ++ args.map a.eval)[0]? = some (.iface t (.pointer (some ⟨b, 0, none⟩))) := by
          rw [Array.getElem?_append_left (by simp)]; rfl
        simp only [resolve, hv, Sem.run_bind, Sem.run_pure, Result.andThen_ok, invoke, e0, e2, callMethod, run_program, hr]
        have e3 : (v :: args.toList.map a.eval).toArray = #[v] ++ args.map a.eval := by apply Array.ext'; simp
        rw [e3]
        exact run_callFunc hf _ w
      split at h
      · rename_i g hg
        simp only [Option.some.injEq, Prod.mk.injEq] at h; obtain ⟨rfl, rfl⟩ := h
        refine ⟨_, SlotsRep.cons ?_ hargs, run _ (hM _ _ _ _ hg b w)⟩
        simp only [SV.av, VV.av, CV.av, Slot, Val, Cell]
        exact ⟨b, hD, by simp⟩
      · rename_i g Dc hg
        split at h
        · rename_i cs hcs
          split at h
          · rename_i v hld
            simp only [Option.some.injEq, Prod.mk.injEq] at h; obtain ⟨rfl, rfl⟩ := h
            obtain ⟨e', hT, hrun⟩ := hM _ _ _ _ hg
            have h1 := sCells_av hcs trivial
            obtain ⟨u, k1, k2⟩ := (row_obj hm h1 hD).load (P := P) hT (ldC_av hld)
            have k3 := k2 w (Below.refl _ _)
            simp only [Nat.zero_mul, Nat.zero_add] at k3
            exact ⟨_, SlotsRep.cons k1 hargs, run u (hrun b w u k3)⟩
          · cases h
        · cases h
      · cases h

section
variable {P : Program} {pins : List Nat} {R : Type} {J : JT R} {L : Hint}

theorem sOpJ_wp {C : Cfg} {FT : List (Nat × Entry)} (hG : Good P C.G) (hM : MtOk P C.M) (hFT : FTok P FT) (hJ : JOk P pins J) {ops : Array Oper} {o : Oper} {s : SS} {K : SS → Option R} {r : R}
    (h : sOpJ J L C FT s o.dst o.op K = some r) (hg : ∀ s1, keepsB s s1 → guardOf ops (s1.st C.N).env o = some true) {w0 : World} {M0 : Nat → Prop} {D0 : Names} {a : Act} {w : World} (hp : PinsOk pins D0) (hs : Sat w0 M0 D0 (s.st C.N) a w)
    {rest : List Oper} {Q : Exit → Act → World → Prop} (hq : ∀ s' a' w', K s' = some r → Sat w0 M0 D0 (s'.st C.N) a' w' → wpList P ops Q rest a' w') : wpList P ops Q (o :: rest) a w := by
  unfold sOpJ at h
  split at h
  · rename_i c hop
    split at h
    · rename_i gap ht hl
      split at h
      · rename_i f xs hr
        obtain ⟨hf, hJ⟩ := hJ _ _ _ _ _ _ _ _ hG hM h
        obtain ⟨hd, D, hm, he, hpin⟩ := hs
        have hgd := guardOf_sound he (hg s (.rfl' _))
        obtain ⟨vs, hvs, hrun⟩ := resolveS_sound (ty := o.type) hM hr hf hm he
        have hcall := hJ w0 M0 D0 D a w vs hp hm he hpin hvs
        refine wpList_step fun K' hK => ?_
        rw [if_pos hgd]
        unfold Oper.wp
        have hex : execOp a.eval o = (do let d ← resolve a.eval c o.type; invoke d.target d.args : Sem Next) := by
          simp only [execOp, hop]
        rw [hex, hrun, Oper.upon_enter]
        refine hcall.mono fun e w' hpost => ?_
        obtain ⟨v, x, s', D', rfl, k1, k2, k3, k4, k5⟩ := hpost
        refine hK _ _ (hq _ _ _ k1 ?_)
        rw [put_st]
        exact ⟨by rw [put_defers]; exact hd, D', k2, k3.put _ k5, k4⟩
      · cases h
    · rename_i hop2
      exact sOp_wp hG hFT (by rw [hop]; exact h) hg hs hq
  · split at h
    · rename_i x s' hmp
      exact sMp_wp hG hmp hg hs fun a' w' hs' => hq _ a' w' h hs'
    · exact sOp_wp hG hFT h hg hs hq

theorem sGoJ_cons {C : Cfg} {FT : List (Nat × Entry)} {ops : Array Oper} {o : Oper} {l : List Oper} {s : SS} {K : SS → Option R} {r : R} (h : sGoJ J L C FT ops.toList (o :: l) s K = some r) :
    ∃ s', s'.st C.N = s.st C.N ∧ ((sOpJ J L C FT s' o.dst o.op (fun s => sGoJ J L C FT ops.toList l s K) = some r ∧ ∀ s1, keepsB s' s1 → guardOf ops (s1.st C.N).env o = some true) ∨
      (sGoJ J L C FT ops.toList l (s'.put o.dst .und) K = some r ∧ guardOf ops (s.st C.N).env o = some false)) := by
  unfold sGoJ at h
  split at h
  · rename_i hgd
    exact ⟨s, rfl, .inl ⟨h, fun s1 _ => guard_none hgd⟩⟩
  · rename_i j want hgd
    split at h
    · cases h
    · rename_i t ht
      split at h
      · rename_i b hb
        obtain ⟨e1, e2, e3⟩ := st_same (x := .v (.c (.k (.bool b)))) hb (by simp [SV.any])
        have hl1 : ∀ c, lkE (((t, SV.bool c) :: s.env) : List (Nat × SV)) t = SV.bool c := fun c => by simp [lkE]
        simp only [br] at h
        split at h
        · rename_i hbt
          subst hbt
          split at h
          · refine ⟨_, e1, .inl ⟨h, fun s1 hk => ?_⟩⟩
            exact guard_bool hgd ht e3 (hk t true (hl1 true))
          · refine ⟨_, e1, .inr ⟨h, ?_⟩⟩
            exact guard_bool hgd ht e3 e2
        · rename_i hbt
          have hbt : b = false := by simpa using hbt
          subst hbt
          split at h
          · refine ⟨_, e1, .inl ⟨h, fun s1 hk => ?_⟩⟩
            exact guard_bool hgd ht e3 (hk t false (hl1 false))
          · refine ⟨_, e1, .inr ⟨h, ?_⟩⟩
            exact guard_bool hgd ht e3 e2
      · rename_i hb
        exact ⟨s, rfl, .inr ⟨h, guard_und hgd ht hb⟩⟩
      · cases h

theorem sGoJ_wp {C : Cfg} {FT : List (Nat × Entry)} (hG : Good P C.G) (hM : MtOk P C.M) (hFT : FTok P FT) (hJ : JOk P pins J) {ops : Array Oper} {K : SS → Option R} {r : R} {w0 : World} {M0 : Nat → Prop} {D0 : Names} (hp : PinsOk pins D0) {Q : Exit → Act → World → Prop} :
    ∀ (l : List Oper) {s : SS}, sGoJ J L C FT ops.toList l s K = some r → ∀ {a w}, Sat w0 M0 D0 (s.st C.N) a w → (∀ s' a' w', K s' = some r → Sat w0 M0 D0 (s'.st C.N) a' w' → Q .normal a' w') → wpList P ops Q l a w
  | [], s, h, a, w, hs, hq => hq s a w h hs
  | o :: l, s, h, a, w, hs, hq => by
    obtain ⟨s', e, h⟩ := sGoJ_cons h
    rw [← e] at hs
    rcases h with ⟨h, hg⟩ | ⟨h, hg⟩
    · exact sOpJ_wp hG hM hFT hJ h hg hp hs fun s2 a' w' h2 hs2 => sGoJ_wp hG hM hFT hJ hp l h2 hs2 hq
    · rw [← e] at hg
      exact xOp_sound noT_ok (xOp_skip hg) hs fun a' w' hs' => sGoJ_wp hG hM hFT hJ hp l h (by rw [put_st]; exact hs') hq
end
end Go.Abs

/- Regions in which reads and calls, the calls one behind the other, come in any order; behind them a tail in a forced order. The machine's side. -/
namespace Go.Abs
open Go.RowKit

/-! an operation looks at its operands alone -/
theorem rOp_env {P : Program} {env env' : List AV} {objs : List (Nat × Obj)} {op : Op} (h : ∀ x ∈ op.operands, ev env x = ev env' x) : rOp P env objs op = rOp P env' objs op := by
  have hb : ∀ (d : Int) (o : Option Operand), (∀ x, o = some x → ev env x = ev env' x) → bnd env d o = bnd env' d o := by
    intro d o ho
    cases o with
    | none => rfl
    | some x => simp only [bnd, ho x rfl]
  cases op with
  | slice T x lo hi m =>
    cases m with
    | some m =>
      cases hi with
      | none => rfl
      | some hi =>
        have h1 := h x (by simp [Op.operands])
        have h2 := fun d => hb d lo (fun y hy => h y (by simp [Op.operands, hy]))
        have h3 := fun d => hb d (some hi) (fun y hy => h y (by cases hy; simp [Op.operands]))
        have h4 := fun d => hb d (some m) (fun y hy => h y (by cases hy; simp [Op.operands]))
        simp only [rOp, h1, slc3, h2, h3, h4]
    | none =>
      have h1 := h x (by simp [Op.operands])
      have h2 := fun d => hb d lo (fun y hy => h y (by simp [Op.operands, hy]))
      have h3 := fun d => hb d hi (fun y hy => h y (by simp [Op.operands, hy]))
      simp only [rOp, h1, slc, h2, h3]
  | build T ps =>
    simp only [rOp]
    congr 1
    apply List.map_congr_left
    intro p hp
    rw [h p.2 (by simp only [Op.operands, List.mem_toArray, List.mem_map]; exact ⟨p, hp, rfl⟩)]
  | call c =>
    obtain ⟨callee, args, tys⟩ := c
    cases callee with
    | builtin b =>
      have hargs : args.toList.map (ev env) = args.toList.map (ev env') := List.map_congr_left fun x hx => h x (by simp only [Op.operands, Call.operands]; simp; first | exact hx | simpa using hx)
      cases b with
      | min => simp only [rOp, rOp2, hargs]
      | max => simp only [rOp, rOp2, hargs]
      | cap =>
        simp only [rOp, rOp2]
        split
        · rename_i x T hx hT
          have hmem : x ∈ args.toList := by rw [hx]; simp
          rw [h x (by simp only [Op.operands, Call.operands]; simp; first | exact hmem | simpa using hmem)]
        · rfl
      | len =>
        simp only [rOp]
        split
        · rename_i x T hx hT
          have hmem : x ∈ args.toList := by rw [hx]; simp
          rw [h x (by simp only [Op.operands, Call.operands]; simp; first | exact hmem | simpa using hmem)]
        · rfl
      | _ => rfl
    | _ => rfl
  | pick c x y => simp only [rOp, h c (by simp [Op.operands]), h x (by simp [Op.operands]), h y (by simp [Op.operands])]
  | move x => simp only [rOp, h x (by simp [Op.operands])]
  | assign x => simp only [rOp, h x (by simp [Op.operands])]
  | load T x => simp only [rOp, h x (by simp [Op.operands])]
  | nilCheck x => simp only [rOp, h x (by simp [Op.operands])]
  | unOp _ _ x => simp only [rOp, h x (by simp [Op.operands])]
  | convert _ _ x => simp only [rOp, h x (by simp [Op.operands])]
  | extract x _ => simp only [rOp, h x (by simp [Op.operands])]
  | fieldAddr _ x _ => simp only [rOp, h x (by simp [Op.operands])]
  | field _ x _ => simp only [rOp, h x (by simp [Op.operands])]
  | binOp _ _ x y _ => simp only [rOp, h x (by simp [Op.operands]), h y (by simp [Op.operands])]
  | indexAddr _ x y => simp only [rOp, h x (by simp [Op.operands]), h y (by simp [Op.operands])]
  | index _ x y => simp only [rOp, h x (by simp [Op.operands]), h y (by simp [Op.operands])]
  | makeInterface _ x => simp only [rOp, rOp2, h x (by simp [Op.operands])]
  | typeAssert x _ _ _ => simp only [rOp, rOp2, h x (by simp [Op.operands])]
  | makeFunc fn a b =>
    have hargs : b.toList.map (ev env) = b.toList.map (ev env') := List.map_congr_left fun x hx => h x (by simp only [Op.operands]; rw [Array.mem_append]; exact .inr (by simpa using hx))
    simp only [rOp, rOp2, hargs]
  | _ => rfl

/-- The names that a value bears. -/
def nmA : AV → List Nat
  | .msl n _ _ _ => [n]
  | .ref n _ _ _ => [n]
  | _ => []
def Agree (U : List Nat) (O O' : List (Nat × Obj)) : Prop := ∀ n, n ∉ U → look n O' = look n O
theorem rOp_objs {P : Program} {env : List AV} {objs objs' : List (Nat × Obj)} {op : Op} {U : List Nat} (h : ∀ x, rTouch op = some x → ∀ n ∈ nmA (ev env x), n ∉ U) (ha : Agree U objs objs') : rOp P env objs' op = rOp P env objs op := by
  cases op with
  | load T x =>
    have h := h x rfl
    simp only [rOp]
    cases hx : ev env x with
    | ref n sz i off =>
      rw [hx] at h
      have hc : cellsAt objs' n sz i off = cellsAt objs n sz i off := by simp only [cellsAt, ha n (h n (by simp [nmA]))]
      cases cellTy P T with
      | none => rfl
      | some p => obtain ⟨g, k⟩ := p; simp only [hc]
    | _ => cases cellTy P T <;> rfl
  | convert S T x =>
    have h := h x rfl
    simp only [rOp]
    cases hx : ev env x with
    | msl n sz off len => rw [hx] at h; simp only [cvt, viewSl, ha n (h n (by simp [nmA]))]
    | _ => rfl
  | slice T x lo hi m =>
    cases m with
    | some _ => cases hi <;> rfl
    | none =>
      have h := h x rfl
      simp only [rOp]
      cases hx : ev env x with
      | ref n sz i off =>
        rw [hx] at h
        cases i with
        | zero => cases off with
          | zero => simp only [slc, ha n (h n (by simp [nmA]))]
          | succ k => rfl
        | succ k => rfl
      | _ => rfl
  | call c =>
    obtain ⟨callee, args, tys⟩ := c
    cases callee with
    | builtin b => cases b <;> rfl
    | _ => rfl
  | _ => rfl

/-- A call that freezes nothing: what it answers and what memory is then. -/
def cLoc (Φ : Table) (env : List AV) (objs : List (Nat × Obj)) (d : Nat) (f : FuncId) (xs : List Operand) : Option (AV × List (Nat × Obj)) :=
  match firstName ((xs.map (ev env)).flatMap cellList) with
  | none => (cGive Φ env objs d f xs).map fun r => (r.x, r.objs)
  | some _ => (cLend Φ env objs f xs).map fun r => (r.x, r.objs)
theorem cGive_env {Φ : Table} {env : List AV} {objs : List (Nat × Obj)} {d : Nat} {f : FuncId} {xs : List Operand} {r : HR} (h : cGive Φ env objs d f xs = some r) : r.env = env := by
  simp only [cGive] at h
  split at h
  · split at h
    · split at h
      · simp only [Option.some.injEq] at h; rw [← h]
      · cases h
    · cases h
  · cases h
theorem cLend_env {Φ : Table} {env : List AV} {objs : List (Nat × Obj)} {f : FuncId} {xs : List Operand} {r : HR} (h : cLend Φ env objs f xs = some r) : r.env = env := by
  simp only [cLend] at h
  split at h
  · split at h
    · split at h
      · split at h
        · simp only [Option.some.injEq] at h; rw [← h]
        · cases h
      · cases h
    · cases h
  · cases h
theorem cGive_loc {Φ : Table} {env env' : List AV} {objs : List (Nat × Obj)} {d : Nat} {f : FuncId} {xs : List Operand} (h : xs.map (ev env) = xs.map (ev env')) :
    (cGive Φ env objs d f xs).map (fun r => (r.x, r.objs)) = (cGive Φ env' objs d f xs).map (fun r => (r.x, r.objs)) := by
  simp only [cGive, h]
  split
  · split
    · split <;> rfl
    · rfl
  · rfl
theorem cLend_loc {Φ : Table} {env env' : List AV} {objs : List (Nat × Obj)} {f : FuncId} {xs : List Operand} (h : xs.map (ev env) = xs.map (ev env')) :
    (cLend Φ env objs f xs).map (fun r => (r.x, r.objs)) = (cLend Φ env' objs f xs).map (fun r => (r.x, r.objs)) := by
  simp only [cLend, h]
  split
  · split
    · split
      · split <;> rfl
      · rfl
    · rfl
  · rfl
theorem cLoc_env {Φ : Table} {env env' : List AV} {objs : List (Nat × Obj)} {d : Nat} {f : FuncId} {xs : List Operand} (h : xs.map (ev env) = xs.map (ev env')) : cLoc Φ env objs d f xs = cLoc Φ env' objs d f xs := by
  unfold cLoc
  rw [h]
  split
  · exact cGive_loc h
  · exact cLend_loc h
theorem cLoc_cOp {Φ : Table} {env : List AV} {objs objs' : List (Nat × Obj)} {d : Nat} {f : FuncId} {xs : List Operand} {x : AV} (h : cLoc Φ env objs d f xs = some (x, objs')) : cOp Φ env objs d f xs = some ⟨x, env, objs'⟩ := by
  unfold cLoc at h
  unfold cOp
  split at h
  · rename_i hn
    simp only [hn]
    obtain ⟨r, hr, he⟩ := Option.map_eq_some_iff.1 h
    rw [hr]
    have := cGive_env hr
    obtain ⟨rx, re, ro⟩ := r
    simp only [Prod.mk.injEq] at he
    simp only at this
    rw [this, he.1, he.2]
  · rename_i n hn
    simp only [hn]
    obtain ⟨r, hr, he⟩ := Option.map_eq_some_iff.1 h
    rw [hr]
    have := cLend_env hr
    obtain ⟨rx, re, ro⟩ := r
    simp only [Prod.mk.injEq] at he
    simp only at this
    simp only [this, he.1, he.2]

/-- One operation of the head. -/
def mStep (P : Program) (ops : Array Oper) (U : List Nat) (o : Oper) (s s1 : St) : Prop :=
  ∃ x, s1.env = putA s.env o.dst x ∧
    ((guardOf ops s.env o = some false ∧ x = .und ∧ s1.objs = s.objs) ∨
     (guardOf ops s.env o = some true ∧ isFun o.op = false ∧ s1.objs = s.objs ∧ (∀ y, rTouch o.op = some y → ∀ n ∈ nmA (ev s.env y), n ∉ U) ∧ rOp P s.env s.objs o.op = some x) ∨
     (guardOf ops s.env o = some true ∧ Agree U s.objs s1.objs ∧ ∃ Φ f args tys, Sound P Φ ∧ o.op = .call { callee := .value (.func f), args := args, argTypes := tys } ∧ cLoc Φ s.env s.objs (o.dst.getD 999998) f args.toList = some (x, s1.objs)))
def mSteps (P : Program) (ops : Array Oper) (U : List Nat) : List Oper → St → St → Prop
  | [], s, s' => s = s'
  | o :: l, s, s' => ∃ s1, mStep P ops U o s s1 ∧ mSteps P ops U l s1 s'
theorem mSteps_trace {P : Program} {ops : Array Oper} {U : List Nat} : ∀ (l : List Oper) {s s' : St}, mSteps P ops U l s s' → ∃ S : Nat → St, S 0 = s ∧ S l.length = s' ∧ ∀ (i : Nat) (o : Oper), l[i]? = some o → mStep P ops U o (S i) (S (i + 1))
  | [], s, s', h => ⟨fun _ => s, rfl, h, fun i o hi => by simp at hi⟩
  | o :: l, s, s', h => by
    obtain ⟨s1, h1, h2⟩ := h
    obtain ⟨S, a1, a2, a3⟩ := mSteps_trace l h2
    refine ⟨fun i => match i with | 0 => s | i + 1 => S i, rfl, a2, fun i p hp => ?_⟩
    cases i with
    | zero =>
      simp only [List.getElem?_cons_zero, Option.some.injEq] at hp; subst hp
      show mStep P ops U o s (S 0)
      rw [a1]; exact h1
    | succ i => exact a3 i p (by simpa using hp)
theorem guard_loc {ops : Array Oper} {env env' : List AV} {o : Oper} (h : ∀ t ∈ o.looksAt ops, env.getD t .any = env'.getD t .any) : guardOf ops env o = guardOf ops env' o := by
  unfold guardOf
  cases hg : o.guard with
  | none => rfl
  | some p =>
    obtain ⟨j, want⟩ := p
    cases hd : (ops[j]?).bind (·.dst) with
    | none => simp only [hd]
    | some t =>
      have := h t (by unfold Oper.looksAt; simp [hg, hd])
      simp only [hd, this]
theorem ev_loc {ops : Array Oper} {env env' : List AV} {o : Oper} (h : ∀ t ∈ o.looksAt ops, env.getD t .any = env'.getD t .any) : ∀ x ∈ o.op.operands, ev env x = ev env' x := by
  intro x hx
  cases x with
  | tmp t => exact h t (by unfold Oper.looksAt; rw [List.mem_append]; left; rw [List.mem_filterMap]; exact ⟨.tmp t, by simpa using hx, rfl⟩)
  | _ => rfl
/-- The same step in a state that agrees on what the operation looks at. -/
theorem mStep_loc {P : Program} {ops : Array Oper} {U : List Nat} {o : Oper} {s s1 : St} (h : mStep P ops U o s s1) {env : List AV} {objs : List (Nat × Obj)} (he : ∀ t ∈ o.looksAt ops, s.env.getD t .any = env.getD t .any)
    (ho : if isFun o.op = true then objs = s.objs else Agree U s.objs objs) : ∃ x Φ, s1.env = putA s.env o.dst x ∧ Sound P Φ ∧ xOp P Φ ops o ⟨env, objs⟩ = some ⟨putA env o.dst x, if isFun o.op = true then s1.objs else objs⟩ := by
  obtain ⟨x, hx, h⟩ := h
  have hg := guard_loc he
  have hev := ev_loc he
  rcases h with ⟨g, rfl, h1⟩ | ⟨g, h0, h1, h2, h3⟩ | ⟨g, h1, Φ, f, args, tys, h2, h3, h4⟩
  · refine ⟨.und, noT, hx, noT_ok, ?_⟩
    rw [xOp_skip (s := ⟨env, objs⟩) (by rw [← hg]; exact g)]
    split
    · rename_i hf
      rw [if_pos hf] at ho
      rw [h1, ho]
    · rfl
  · refine ⟨x, noT, hx, noT_ok, ?_⟩
    rw [if_neg (by rw [h0]; decide)] at ho ⊢
    have hr : rOp P env objs o.op = some x := by
      rw [← h3, ← rOp_env hev]
      exact rOp_objs h2 ho
    exact xOp_r (s := ⟨env, objs⟩) (by rw [← hg]; exact g) h0 hr
  · refine ⟨x, Φ, hx, h2, ?_⟩
    have hf : isFun o.op = true := by rw [h3]; rfl
    rw [if_pos hf] at ho ⊢
    subst ho
    have hargs : args.toList.map (ev s.env) = args.toList.map (ev env) := by
      apply List.map_congr_left
      intro y hy
      refine hev y ?_
      rw [h3]
      simp only [Op.operands, Call.operands]
      simp
      first | exact .inr (by simpa using hy) | simpa using hy
    rw [cLoc_env hargs] at h4
    simp only [xOp, ← hg, g, h3, cLoc_cOp h4, Option.map_some]
end Go.Abs

/- Regions in which reads and calls, the calls one behind the other, come in any order: the simulation. -/
namespace Go.Abs
open Go.RowKit

structure MOk (ops : Array Oper) (n : Nat) : Prop where
  back : ∀ i o, i < n → ops[i]? = some o → ∀ e ∈ o.after, Region.binds .any e = true → e.on < i
  looks : ∀ i o, i < n → ops[i]? = some o → ∀ t ∈ o.looksAt ops, ∀ j, j < n → dstJ ops j = some t → ∃ e ∈ o.after, Region.binds .any e = true ∧ e.on = j
  uniq : ∀ i j t, i < n → j < i → dstJ ops i = some t → dstJ ops j ≠ some t
  link : ∀ i o, i < n → ops[i]? = some o → isFun o.op = true → ∀ j, j < i → chB ops j = true → (∃ k, j < k ∧ k < i ∧ chB ops k = true) ∨ reach ops 3 i j = true
  all : ∀ i, i < n → ∃ o, ops[i]? = some o
theorem mOk_of {ops : Array Oper} {n : Nat} (h : mB ops n = true) : MOk ops n := by
  have key : ∀ i, i < n → ∃ o, ops[i]? = some o ∧ mB1 ops n i o = true := by
    intro i hi
    have := List.all_eq_true.1 h i (List.mem_range.2 hi)
    cases ho : ops[i]? with
    | none => simp [ho] at this
    | some o => exact ⟨o, rfl, by simpa [ho] using this⟩
  have key2 : ∀ i o, i < n → ops[i]? = some o → mB1 ops n i o = true := by
    intro i o hi ho
    obtain ⟨o', h1, h2⟩ := key i hi
    rw [ho] at h1
    cases h1; exact h2
  refine ⟨fun i o hi ho e he hb => ?_, fun i o hi ho t ht j hj hd => ?_, fun i j t hi hj hd => ?_, fun i o hi ho hf j hj hc => ?_, fun i hi => let ⟨o, h, _⟩ := key i hi; ⟨o, h⟩⟩
  · have := key2 i o hi ho
    simp only [mB1, Bool.and_eq_true] at this
    have := List.all_eq_true.1 this.1 e (by simpa using he)
    simpa [hb] using this
  · have := key2 i o hi ho
    simp only [mB1, Bool.and_eq_true] at this
    have := List.all_eq_true.1 (List.all_eq_true.1 this.2.1 t ht) j (List.mem_range.2 hj)
    simp only [hd, beq_self_eq_true, Bool.not_true, Bool.false_or, List.any_eq_true, Bool.and_eq_true, beq_iff_eq] at this
    obtain ⟨e, h1, h2, h3⟩ := this
    exact ⟨e, by simpa using h1, h2, h3⟩
  · obtain ⟨o, ho, h1⟩ := key i hi
    simp only [mB1, Bool.and_eq_true] at h1
    have hdo : o.dst = some t := by simpa [dstJ, ho] using hd
    have h2 := h1.2.2.1
    simp only [hdo] at h2
    have := List.all_eq_true.1 h2 j (List.mem_range.2 hj)
    intro hc
    simp [hc] at this
  · have := key2 i o hi ho
    simp only [mB1, Bool.and_eq_true, hf, Bool.not_true, Bool.false_or] at this
    have := List.all_eq_true.1 this.2.2.2 j (List.mem_range.2 hj)
    simp only [hc, Bool.not_true, Bool.false_or, Bool.or_eq_true, List.any_eq_true, List.mem_range, Bool.and_eq_true, decide_eq_true_eq] at this
    rcases this with ⟨k, h1, h2, h3⟩ | h
    · exact .inl ⟨k, h2, h1, h3⟩
    · exact .inr h

section
variable {P : Program} {ops : Array Oper} {n : Nat} {listed : Array Bool}

theorem reach_listed (inv : HeadInv .any ops n listed) : ∀ (d i j : Nat) (o : Oper), ops[i]? = some o → (∀ e ∈ o.after, Region.binds .any e = true → listed.getD e.on false = true) → reach ops d i j = true → listed.getD j false = true
  | 0, _, _, _, _, _, h => by simp [reach] at h
  | d + 1, i, j, o, ho, hall, h => by
    simp only [reach, ho, List.any_eq_true, Bool.and_eq_true, Bool.or_eq_true, beq_iff_eq] at h
    obtain ⟨e, he, hb, h⟩ := h
    have hl := hall e (by simpa using he) hb
    rcases h with rfl | h
    · exact hl
    · cases d with
      | zero => simp [reach] at h
      | succ d =>
        cases ho' : ops[e.on]? with
        | none => simp [reach, ho'] at h
        | some o' => exact reach_listed inv (d + 1) e.on j o' ho' (inv.closed _ _ ho' hl) h

theorem before (mk : MOk ops n) (inv : HeadInv .any ops n listed) : ∀ (m i j : Nat) (o : Oper), i - j ≤ m → i < n → ops[i]? = some o → isFun o.op = true → (∀ e ∈ o.after, Region.binds .any e = true → listed.getD e.on false = true) → j < i → chB ops j = true → listed.getD j false = true
  | 0, i, j, _, h, _, _, _, _, hj, _ => by omega
  | m + 1, i, j, o, h, hi, ho, hf, hall, hj, hc => by
    rcases mk.link i o hi ho hf j hj hc with ⟨k, h1, h2, h3⟩ | hr
    · have hk := before mk inv m i k o (by omega) hi ho hf hall h2 h3
      unfold chB at h3
      cases hok : ops[k]? with
      | none => simp [hok] at h3
      | some ok =>
        simp only [hok] at h3
        exact before mk inv m k j ok (by omega) (by omega) hok h3 (inv.closed _ _ hok hk) h1 hc
    · exact reach_listed inv 3 i j o ho hall hr

theorem putA_get {env : List AV} {dst : Option Tmp} {x : AV} {t : Nat} : (putA env dst x).getD t .any = if dst = some t ∧ t < env.length then x else env.getD t .any := by
  cases dst with
  | none => simp [putA]
  | some d =>
    simp only [putA, List.getD, List.getElem?_set]
    by_cases h : d = t
    · subst h
      by_cases hl : d < env.length
      · simp [hl]
      · simp [hl]
    · simp [h]
theorem putA_len {env : List AV} {dst : Option Tmp} {x : AV} : (putA env dst x).length = env.length := by cases dst <;> simp [putA]

/-- A trace. -/
structure Trace (P : Program) (ops : Array Oper) (U : List Nat) (n : Nat) (S : Nat → St) : Prop where
  step : ∀ i o, i < n → ops[i]? = some o → mStep P ops U o (S i) (S (i + 1))
  ok : MOk ops n
variable {U : List Nat} {S : Nat → St}

theorem Trace.len (T : Trace P ops U n S) : ∀ k, k ≤ n → (S k).env.length = (S 0).env.length
  | 0, _ => rfl
  | k + 1, h => by
    obtain ⟨o, ho⟩ := T.ok.all k h
    obtain ⟨x, hx, _⟩ := T.step k o h ho
    rw [hx, putA_len, T.len k (by omega)]
theorem Trace.same (T : Trace P ops U n S) {t : Nat} {a : Nat} : ∀ b, a ≤ b → b ≤ n → (∀ j, a ≤ j → j < b → dstJ ops j ≠ some t) → (S b).env.getD t .any = (S a).env.getD t .any
  | 0, h, _, _ => by have : a = 0 := by omega
                     rw [this]
  | b + 1, h, hb, hd => by
    rcases Nat.eq_or_lt_of_le h with rfl | hlt
    · rfl
    obtain ⟨o, ho⟩ := T.ok.all b hb
    obtain ⟨x, hx, _⟩ := T.step b o hb ho
    rw [hx, putA_get, if_neg ?_]
    · exact T.same b (by omega) (by omega) (fun j h1 h2 => hd j h1 (by omega))
    · rintro ⟨h1, _⟩
      exact hd b (by omega) (by omega) (by simp [dstJ, ho, h1])
theorem Trace.env (T : Trace P ops U n S) {t k : Nat} (hk : k ≤ n) : (S k).env.getD t .any = if (List.range k).any (fun j => dstJ ops j == some t) = true then (S n).env.getD t .any else (S 0).env.getD t .any := by
  by_cases h : (List.range k).any (fun j => dstJ ops j == some t) = true
  · rw [if_pos h]
    simp only [List.any_eq_true, List.mem_range, beq_iff_eq] at h
    obtain ⟨j, hj, hd⟩ := h
    refine (T.same n hk (Nat.le_refl _) fun i h1 h2 hi => ?_).symm
    exact T.ok.uniq i j t h2 (by omega) hi hd
  · rw [if_neg h]
    refine T.same k (Nat.zero_le _) hk fun j _ h2 hj => h ?_
    simp only [List.any_eq_true, List.mem_range, beq_iff_eq]
    exact ⟨j, h2, hj⟩
theorem Trace.objs (T : Trace P ops U n S) {a : Nat} : ∀ b, a ≤ b → b ≤ n → (∀ j, a ≤ j → j < b → chB ops j = false) → (S b).objs = (S a).objs
  | 0, h, _, _ => by have : a = 0 := by omega
                     rw [this]
  | b + 1, h, hb, hd => by
    rcases Nat.eq_or_lt_of_le h with rfl | hlt
    · rfl
    obtain ⟨o, ho⟩ := T.ok.all b hb
    have ih := T.objs b (by omega) (by omega) (fun j h1 h2 => hd j h1 (by omega))
    have hc := hd b (by omega) (by omega)
    obtain ⟨x, _, h1 | h1 | ⟨_, _, Φ, f, args, tys, _, h3, _⟩⟩ := T.step b o hb ho
    · rw [h1.2.2, ih]
    · rw [h1.2.2.1, ih]
    · simp [chB, ho, h3, isFun] at hc
theorem Trace.agree (T : Trace P ops U n S) : ∀ k, k ≤ n → Agree U (S 0).objs (S k).objs
  | 0, _ => fun _ _ => rfl
  | k + 1, h => by
    obtain ⟨o, ho⟩ := T.ok.all k h
    have ih := T.agree k (by omega)
    obtain ⟨x, _, h1 | h1 | ⟨_, h2, _⟩⟩ := T.step k o h ho
    · rw [h1.2.2]; exact ih
    · rw [h1.2.2.1]; exact ih
    · exact fun m hm => (h2 m hm).trans (ih m hm)

/-- The state in which some operations have come. -/
structure Now (ops : Array Oper) (n : Nat) (S : Nat → St) (listed : Array Bool) (s : St) : Prop where
  len : s.env.length = (S 0).env.length
  env : ∀ t, s.env.getD t .any = if (List.range n).any (fun j => listed.getD j false && dstJ ops j == some t) = true then (S n).env.getD t .any else (S 0).env.getD t .any
  objs : ∃ p, p ≤ n ∧ s.objs = (S p).objs ∧ ∀ j, j < n → chB ops j = true → (listed.getD j false = true ↔ j < p)

theorem Now.step (T : Trace P ops U n S) (inv : HeadInv .any ops n listed) {s : St} (N : Now ops n S listed s) {i : Nat} {o : Oper} (hi : i < n) (ho : ops[i]? = some o) (hr : i ∈ Region.ready .any ops listed) :
    ∃ s' Φ, Sound P Φ ∧ xOp P Φ ops o s = some s' ∧ Now ops n S (listed.setIfInBounds i true) s' := by
  obtain ⟨hun, o', ho', hall⟩ := mem_ready.1 hr
  have : o' = o := Option.some.inj (ho'.symm.trans ho)
  subst this
  have hst := T.step i o' hi ho
  have hlt : i < listed.size := by rw [inv.size]; exact (Array.getElem?_eq_some_iff.1 ho).1
  have hget : ∀ j, (listed.setIfInBounds i true).getD j false = if j = i then true else listed.getD j false := by
    intro j
    by_cases h : j = i
    · subst h; simp [hlt]
    · rw [if_neg h, getD_set_ne false (Ne.symm h)]
  obtain ⟨p, hp, hobj, hch⟩ := N.objs
  -- what it looks at
  have hlook : ∀ t ∈ o'.looksAt ops, (S i).env.getD t .any = s.env.getD t .any := by
    intro t ht
    rw [T.env (Nat.le_of_lt hi), N.env]
    have e : (List.range i).any (fun j => dstJ ops j == some t) = (List.range n).any (fun j => listed.getD j false && dstJ ops j == some t) := by
      rw [Bool.eq_iff_iff]
      simp only [List.any_eq_true, List.mem_range, beq_iff_eq, Bool.and_eq_true]
      constructor
      · rintro ⟨j, hj, hd⟩
        obtain ⟨e, he, hb, hon⟩ := T.ok.looks i o' hi ho t ht j (by omega) hd
        have := hall e he hb
        rw [hon] at this
        exact ⟨j, by omega, this, hd⟩
      · rintro ⟨j, hj, _, hd⟩
        obtain ⟨e, he, hb, hon⟩ := T.ok.looks i o' hi ho t ht j hj hd
        have := T.ok.back i o' hi ho e he hb
        exact ⟨j, by omega, hd⟩
    rw [e]
  -- memory
  have hmem : isFun o'.op = true → s.objs = (S i).objs ∧ ∀ j, j < n → chB ops j = true → (listed.getD j false = true ↔ j < i) := by
    intro hf
    have hci : chB ops i = true := by simp [chB, ho, hf]
    have hbe : ∀ j, j < n → chB ops j = true → (listed.getD j false = true ↔ j < i) := by
      intro j hj hc
      constructor
      · intro hl
        rcases Nat.lt_trichotomy j i with h | h | h
        · exact h
        · subst h; rw [getD_both hun] at hl; cases hl
        · exfalso
          have hok := hc
          unfold chB at hok
          cases hoj : ops[j]? with
          | none => simp [hoj] at hok
          | some oj =>
            simp only [hoj] at hok
            have := before T.ok inv (j - i) j i oj (Nat.le_refl _) hj hoj hok (inv.closed _ _ hoj hl) h hci
            rw [getD_both hun] at this; cases this
      · intro h
        exact before T.ok inv (i - j) i j o' (Nat.le_refl _) hi ho hf hall h hc
    refine ⟨?_, hbe⟩
    rw [hobj]
    rcases Nat.le_total p i with h | h
    · refine (T.objs i h (Nat.le_of_lt hi) fun j h1 h2 => ?_).symm
      cases hc : chB ops j with
      | false => rfl
      | true =>
        have := (hch j (by omega) hc).1 ((hbe j (by omega) hc).2 h2)
        omega
    · refine T.objs p h hp fun j h1 h2 => ?_
      cases hc : chB ops j with
      | false => rfl
      | true =>
        have := (hbe j (by omega) hc).1 ((hch j (by omega) hc).2 h2)
        omega
  obtain ⟨x, Φ, hx, hΦ, hop⟩ := mStep_loc hst (env := s.env) (objs := s.objs) hlook (by
    split
    · rename_i hf; exact (hmem hf).1
    · rw [hobj]
      intro m hm
      rw [T.agree p hp m hm, T.agree i (Nat.le_of_lt hi) m hm])
  refine ⟨_, Φ, hΦ, hop, by rw [putA_len]; exact N.len, fun t => ?_, ?_⟩
  · show (putA s.env o'.dst x).getD t .any = _
    rw [putA_get]
    by_cases hd : dstJ ops i = some t
    · have hdo : o'.dst = some t := by simpa [dstJ, ho] using hd
      have hany : (List.range n).any (fun j => (listed.setIfInBounds i true).getD j false && dstJ ops j == some t) = true := by
        simp only [List.any_eq_true, List.mem_range]
        exact ⟨i, hi, by rw [hget, if_pos rfl, hd]; simp⟩
      rw [if_pos hany]
      have hsn : (S n).env.getD t .any = (S (i + 1)).env.getD t .any := T.same n (by omega) (Nat.le_refl _) fun j h1 h2 hj => T.ok.uniq j i t h2 (by omega) hj hd
      rw [hsn, hx, putA_get, N.len, T.len i (Nat.le_of_lt hi)]
      by_cases hl : t < (S 0).env.length
      · rw [if_pos ⟨hdo, hl⟩, if_pos ⟨hdo, hl⟩]
      · rw [if_neg (fun h => hl h.2), if_neg (fun h => hl h.2)]
        have h1 : s.env.getD t .any = .any := by rw [List.getD, List.getElem?_eq_none (by rw [N.len]; omega)]; rfl
        have h2 : (S i).env.getD t .any = .any := by rw [List.getD, List.getElem?_eq_none (by rw [T.len i (Nat.le_of_lt hi)]; omega)]; rfl
        rw [h1, h2]
    · have hdo : ¬ (o'.dst = some t ∧ t < s.env.length) := fun h => hd (by simp [dstJ, ho, h.1])
      rw [if_neg hdo, N.env]
      have e : (List.range n).any (fun j => (listed.setIfInBounds i true).getD j false && dstJ ops j == some t) = (List.range n).any (fun j => listed.getD j false && dstJ ops j == some t) := by
        congr 1
        funext j
        rw [hget]
        by_cases hj : j = i
        · subst hj
          have : (dstJ ops j == some t) = false := by simpa using hd
          rw [this, Bool.and_false, Bool.and_false]
        · rw [if_neg hj]
      rw [e]
  · by_cases hf : isFun o'.op = true
    · refine ⟨i + 1, hi, by simp only [hf, if_true], fun j hj hc => ?_⟩
      rw [hget]
      by_cases hji : j = i
      · rw [if_pos hji]; exact ⟨fun _ => by omega, fun _ => rfl⟩
      · rw [if_neg hji, (hmem hf).2 j hj hc]; omega
    · refine ⟨p, hp, by simp only [hf, Bool.false_eq_true, if_false]; exact hobj, fun j hj hc => ?_⟩
      rw [hget, if_neg ?_]
      · exact hch j hj hc
      · intro h
        subst h
        simp [chB, ho, hf] at hc
end
end Go.Abs

