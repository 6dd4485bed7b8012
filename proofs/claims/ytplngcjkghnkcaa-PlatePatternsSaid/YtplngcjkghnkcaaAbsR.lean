/- From a triple to a function's contract. -/
import Derived.Test.YtplngcjkghnkcaaAbsQ
namespace Go.Abs
open Go.RowKit

/-- The names behind a function: those that it was handed, and the one of what it made. -/
def outN (D : Names) (pins : List Nat) (nm : Option Nat) : Names := fun k => if k = rn then nm.bind D else if k < top then (if k ∈ pins then D k else none) else D k

theorem outN_from {D : Names} {pins : List Nat} {nm : Option Nat} {k : Nat} {e : Option Nat} (h : outN D pins nm k = some e) : (k = rn ∧ ∃ n, nm = some n ∧ D n = some e) ∨ (k ≠ rn ∧ (k < top → k ∈ pins) ∧ D k = some e) := by
  unfold outN at h
  split at h
  · rename_i hk
    obtain ⟨n, hn, he⟩ := Option.bind_eq_some_iff.1 h
    exact .inl ⟨hk, n, hn, he⟩
  · rename_i hk
    split at h
    · split at h
      · rename_i hm; exact .inr ⟨hk, fun _ => hm, h⟩
      · cases h
    · rename_i hK; exact .inr ⟨hk, fun h => absurd h hK, h⟩

theorem rn_top : rn < top := by decide

def addO (o : Option Obj) (os : List (Nat × Obj)) : List (Nat × Obj) := match o with | some ob => (rn, ob) :: os | none => os

theorem out_mem {w0 w : World} {M0 : Nat → Prop} {D : Names} {objs : List (Nat × Obj)} (hm : Mem w0 M0 objs D w) {pins : List Nat} (h1 : (lookAll pins objs).map (·.1) = pins) (h2 : boxesOk (lookAll pins objs) = true) (h3 : rn ∉ pins)
    (nm : Option Nat) (o : Option Obj) (hno : (nm = none ∧ o = none) ∨ ∃ n ob, nm = some n ∧ o = some ob ∧ look n objs = some ob ∧ n ∉ pins ∧ (match ob with | .box cs => cs.all plainC = true | .arr _ _ => True)) :
    Mem w0 M0 (addO o (lookAll pins objs)) (outN D pins nm) w ∧ (∀ b, (outN D pins nm).M b → D.M b) := by
  have hM : ∀ b, (outN D pins nm).M b → D.M b := by
    rintro b ⟨k, hk⟩
    rcases outN_from hk with ⟨_, n, _, he⟩ | ⟨_, _, he⟩
    · exact ⟨n, he⟩
    · exact ⟨k, he⟩
  have hnK : ∀ n, nm = some n → n < top ∧ n ∉ pins := by
    intro n hn
    rcases hno with ⟨h, _⟩ | ⟨n', ob, h, _, hl, hp, _⟩
    · rw [h] at hn; cases hn
    · rw [h] at hn; cases hn; exact ⟨hm.small n (by simp [hl]), hp⟩
  have hlk : ∀ k, k ≠ rn → look k (addO o (lookAll pins objs)) = if k ∈ pins then look k objs else none := by
    intro k hk
    cases o with
    | none => exact look_lookAll k objs pins
    | some ob => simp only [addO, look, if_neg (Ne.symm hk)]; exact look_lookAll k objs pins
  have hlkrn : look rn (addO o (lookAll pins objs)) = o := by
    cases o with
    | none => simp only [addO]; rw [look_lookAll]; simp [h3]
    | some ob => simp [addO, look]
  have hpK : ∀ k ∈ pins, (look k objs).isSome = true := by
    intro k hk
    rw [← h1] at hk
    have := look_of_mem hk
    rw [look_lookAll] at this
    split at this
    · exact this
    · simp at this
  refine ⟨⟨fun k hK => ?_, fun k hk => ?_, fun k ob d hl hd => ?_, fun k k' b hk hk' => ?_, fun b hb => hm.lt b (hM b hb), fun b hb => ?_, hm.grow, hm.os, hm.tape, hm.output⟩, hM⟩
  · by_cases hk : k = rn
    · subst hk
      rw [hlkrn]
      simp only [outN, if_true]
      rcases hno with ⟨rfl, rfl⟩ | ⟨n, ob, rfl, rfl, hl, hp, _⟩
      · rfl
      · simp only [Option.bind_some]
        rw [hm.dom n (hm.small n (by simp [hl])), hl]
    · rw [hlk k hk]
      simp only [outN, hk, if_false, hK, if_true]
      by_cases hp : k ∈ pins
      · simp only [hp, if_true]; exact hm.dom k hK
      · simp only [hp, if_false]; rfl
  · by_cases hkr : k = rn
    · subst hkr; exact rn_top
    · rw [hlk k hkr] at hk
      split at hk
      · exact hm.small k hk
      · simp at hk
  · by_cases hkr : k = rn
    · subst hkr
      rw [hlkrn] at hl
      rcases outN_from hd with ⟨_, n, hn, he⟩ | ⟨h, _⟩
      · rcases hno with ⟨h, _⟩ | ⟨n', ob', h, ho, hl', hp, hpl⟩
        · rw [h] at hn; cases hn
        · rw [h] at hn; cases hn
          rw [ho] at hl; cases hl
          have hrep := hm.rep n _ d hl' he
          cases ob with
          | box cs => exact boxRep_lower hrep hpl (fun b _ hb => hM b hb)
          | arr sz l => exact arrRep_lower hrep (fun b _ hb => hM b hb)
      · exact absurd rfl h
    · rw [hlk k hkr] at hl
      split at hl
      · rename_i hp
        rcases outN_from hd with ⟨h, _⟩ | ⟨_, _, he⟩
        · exact absurd h hkr
        · have hl2 : look k (lookAll pins objs) = some ob := by rw [look_lookAll]; simp [hp, hl]
          obtain ⟨cs, rfl, hpc⟩ := boxesOk_look h2 hl2
          exact boxRep_lower (hm.rep k _ d hl he) hpc (fun b _ hb => hM b hb)
      · cases hl
  · rcases outN_from hk with ⟨e1, n, hn, he⟩ | ⟨e1, hp1, he⟩
    · rcases outN_from hk' with ⟨e2, n', hn', he'⟩ | ⟨e2, hp2, he'⟩
      · rw [e1, e2]
      · have := hm.inj n k' b he he'; subst this
        obtain ⟨g1, g2⟩ := hnK n hn
        exact absurd (hp2 g1) g2
    · rcases outN_from hk' with ⟨e2, n', hn', he'⟩ | ⟨e2, hp2, he'⟩
      · have := hm.inj k n' b he he'; subst this
        obtain ⟨g1, g2⟩ := hnK k hn'
        exact absurd (hp1 g1) g2
      · exact hm.inj k k' b he he'
  · obtain ⟨k, hK, hk⟩ := hb
    rcases outN_from hk with ⟨e1, n, hn, he⟩ | ⟨e1, hp1, he⟩
    · exact hm.own b ⟨n, (hnK n hn).1, he⟩
    · exact hm.own b ⟨k, hK, he⟩

theorem fin1_sound {w0 w : World} {M0 : Nat → Prop} {D D0 : Names} {objs : List (Nat × Obj)} (hm : Mem w0 M0 objs D w) {pins : List Nat} (hp : ∀ n, n < top → (D0 n).isSome = true → n ∈ pins) (hpin : Pin D0 D objs) {x : AV} {v : Value} (hv : Slot w D x v) {r : CR}
    (h : fin1 pins objs x = some r) : ∃ D', Mem w0 M0 r.objs D' w ∧ Slot w D' r.x v ∧ ∀ n d, D0 n = some d → D' n = some d := by
  unfold fin1 at h
  simp only at h
  split at h
  · rename_i hc
    obtain ⟨h1, h2, h3⟩ := hc
    have hkeep : ∀ nm, ∀ n d, D0 n = some d → outN D pins nm n = some d := by
      intro nm n d hn
      have hD := (hpin n d hn).1
      by_cases hK : n < top
      · have hmem := hp n hK (by simp [hn])
        have hne : n ≠ rn := fun e => h3 (e ▸ hmem)
        simp only [outN, hne, if_false, hK, if_true, hmem]; exact hD
      · have hne : n ≠ rn := fun e => hK (e ▸ rn_top)
        simp only [outN, hne, if_false, hK]; exact hD
    split at h
    · rename_i n sz off len
      split at h
      · rename_i sz' l hl
        split at h
        · rename_i hc
          obtain ⟨rfl, rfl, rfl, hnp⟩ := hc
          simp only [Option.some.injEq] at h; subst h
          obtain ⟨m1, m2⟩ := out_mem hm h1 h2 h3 (some n) (some (.arr sz l)) (.inr ⟨n, _, rfl, rfl, hl, hnp, trivial⟩)
          refine ⟨_, m1, ?_, hkeep (some n)⟩
          have : outN D pins (some n) rn = D n := by simp [outN]
          simp only [Slot, Val, Cell] at hv ⊢
          rw [this]; exact hv
        · cases h
      · cases h
    · rename_i n sz i off
      split at h
      · rename_i cs hl
        split at h
        · rename_i hc
          obtain ⟨rfl, rfl, hnp, hpc, rfl⟩ := hc
          simp only [Option.some.injEq] at h; subst h
          obtain ⟨m1, m2⟩ := out_mem hm h1 h2 h3 (some n) (some (.box cs)) (.inr ⟨n, _, rfl, rfl, hl, hnp, hpc⟩)
          refine ⟨_, m1, ?_, hkeep (some n)⟩
          have : outN D pins (some n) rn = D n := by simp [outN]
          simp only [Slot, Val, Cell] at hv ⊢
          rw [this]; exact hv
        · cases h
      · cases h
    · split at h
      · rename_i hn
        simp only [Option.some.injEq] at h; subst h
        obtain ⟨m1, m2⟩ := out_mem hm h1 h2 h3 none none (.inl ⟨rfl, rfl⟩)
        exact ⟨_, m1, (nf_lower (w := w) (fun b _ hb => m2 b hb)).2.2 hv hn, hkeep none⟩
      · cases h
  · cases h

theorem tup_slot {w : World} {D : Names} {env : List AV} {a : Act} (he : EnvRep w D env a.tmps) (os : List Operand) (hn : (os.map (ev env)).all notTup = true) : Slot w D (.tup (os.map (ev env))) (.tuple (os.map a.eval).toArray) := by
  refine ⟨os.map a.eval, rfl, by simp, fun i x hx => ?_⟩
  have hnx := List.all_eq_true.1 hn x (List.mem_of_getElem? hx)
  rw [List.getElem?_map] at hx
  obtain ⟨o, ho, rfl⟩ := Option.map_eq_some_iff.1 hx
  have e : (os.map a.eval).getD i undef = a.eval o := by simp [List.getD, List.getElem?_map, ho]
  rw [e]
  have := ev_sound he o
  generalize ev env o = y at this hnx
  cases y with
  | tup l => simp [notTup] at hnx
  | _ => simpa only [Slot] using this

theorem finish_sound {w0 w : World} {M0 : Nat → Prop} {D D0 : Names} {s : St} {a : Act} (hm : Mem w0 M0 s.objs D w) (he : EnvRep w D s.env a.tmps) {pins : List Nat} (hp : ∀ n, n < top → (D0 n).isSome = true → n ∈ pins) (hpin : Pin D0 D s.objs) {rs : List Operand} {r : CR}
    (h : finish pins rs s = some r) : ∃ D', Mem w0 M0 r.objs D' w ∧ Slot w D' r.x (resVal a rs) ∧ ∀ n d, D0 n = some d → D' n = some d := by
  unfold finish at h
  split at h
  · rename_i o
    split at h
    · split at h
      · rename_i q hq
        obtain ⟨D1, h1, h2, h3⟩ := settle_sound _ 8 hm he hq
        exact fin1_sound h1 hp (h3 D0 hpin) (ev_sound h2 o) h
      · cases h
    · split at h
      · split at h
        · exact fin1_sound hm hp hpin (ev_sound he o) h
        · split at h
          · rename_i q hq
            obtain ⟨D1, h1, h2, h3⟩ := freeze_sound hm he hq
            exact fin1_sound h1 hp (h3 D0 hpin) (ev_sound h2 o) h
          · cases h
      · cases h
    · exact fin1_sound hm hp hpin (ev_sound he o) h
  · rename_i hne
    split at h
    · rename_i q hq
      obtain ⟨D1, h1, h2, h3⟩ := settle_sound _ 8 hm he hq
      split at h
      · rename_i hn
        have hs := tup_slot h2 rs hn
        have e : resVal a rs = .tuple (rs.map a.eval).toArray := by
          unfold resVal
          split
          · rename_i o; exact absurd rfl (hne o)
          · rfl
        rw [e]
        exact fin1_sound h1 hp (h3 D0 hpin) hs h
      · cases h
    · cases h

/-- A FUNCTION's CONTRACT: from the triple of its body. -/
theorem contract_of_awp {P : Program} {f : FuncId} {fn : Func} {c : Code} {rs : List Operand} {args : List AV} {os : List (Nat × Obj)} {r : CR} (hf : P.funcs[f]? = some fn) (hb : fn.body = some c) (hr : resOps fn = some rs)
    (hbox : boxesOk os = true) (h : AWP P (os.map (·.1)) c (fun e s => (e = .normal ∨ e = .ret) ∧ finish (os.map (·.1)) rs s = some r) ⟨args ++ List.replicate (fn.ntmps - args.length) .und, os⟩) : Contract P f args os r := by
  intro w D vs hm hargs
  refine calls_of_wp hf hb ?_
  have hpins : ∀ n, n < top → (D n).isSome = true → n ∈ os.map (·.1) := by
    intro n hK hn
    rw [hm.dom n hK] at hn
    obtain ⟨o, ho⟩ := Option.isSome_iff_exists.1 hn
    exact look_mem ho
  have hsat : Sat w D.N D ⟨args ++ List.replicate (fn.ntmps - args.length) .und, os⟩ { tmps := vs.toArray ++ Array.replicate (fn.ntmps - vs.toArray.size) undef, defers := [] } w := by
    refine ⟨rfl, D, hm, ⟨by simp [hargs.1], fun i x hx => ?_⟩, fun n d hn => ⟨hn, fun hK => ?_⟩⟩
    · rw [List.getElem?_append] at hx
      split at hx
      · rename_i hi
        have hlt : i < vs.length := by rw [hargs.1]; exact hi
        have := hargs.2 i x hx
        simpa [Array.getD_eq_getD_getElem?, Array.getElem?_append, hlt, List.getD] using this
      · rename_i hi
        rw [List.getElem?_replicate] at hx
        split at hx
        · rename_i hi2
          simp only [Option.some.injEq] at hx; subst hx
          have h1 : ¬ i < vs.length := by rw [hargs.1]; exact hi
          have h2 : i - vs.length < fn.ntmps - vs.length := by rw [hargs.1]; exact hi2
          have : (vs.toArray ++ Array.replicate (fn.ntmps - vs.toArray.size) undef).getD i undef = undef := by
            simp [Array.getD_eq_getD_getElem?, Array.getElem?_append, h1, h2]
          simp only [this]
          simp only [Slot, Val, Cell]; exact .und
        · cases hx
    · have hs := hm.dom n hK
      rw [hn] at hs
      obtain ⟨o, ho⟩ := Option.isSome_iff_exists.1 hs.symm
      obtain ⟨cs, rfl, _⟩ := boxesOk_look hbox ho
      exact ⟨cs, ho⟩
  refine Code.wp_mono ?_ (h w D.N D _ w hpins hsat)
  rintro e a' w' ⟨s', ⟨hexit, hfin⟩, hd, D1, hm1, he1, hpin1⟩
  obtain ⟨D', g1, g2, g3⟩ := finish_sound hm1 he1 hpins hpin1 hfin
  have post : a'.defers = [] ∧ ∃ v, (results fn a'.tmps).run P w' = .ok v w' ∧ (∃ v' D', Ending.returned v = .returned v' ∧ Mem w D.N r.objs D' w' ∧ Slot w' D' r.x v' ∧ ∀ n d, D n = some d → D' n = some d) :=
    ⟨hd, _, run_results hr a' w', _, D', rfl, g1, g2, g3⟩
  rcases hexit with rfl | rfl
  · exact post
  · exact post

end Go.Abs
