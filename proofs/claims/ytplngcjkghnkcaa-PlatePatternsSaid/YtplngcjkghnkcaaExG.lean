/- The making and changing operations: soundness. -/
import Derived.Test.YtplngcjkghnkcaaExF
namespace Go.Abs
open Go.RowKit

def keepsB (s s' : SS) : Prop := ∀ t b, lkE s.env t = SV.bool b → lkE s'.env t = SV.bool b
theorem keepsB.rfl' (s : SS) : keepsB s s := fun _ _ h => h
theorem keepsB.trans {a b c : SS} (h : keepsB a b) (k : keepsB b c) : keepsB a c := fun t x hx => k t x (h t x hx)
theorem keepsB_map {s : SS} {κ : CV → CV} {O : SObjs} (hk : κ .any = .any) (h : ∀ v, κ (.k v) = .k v) : keepsB s ⟨mapEC κ s.env, O⟩ := fun t b hb => by
  show lkE (mapEC κ s.env) t = _
  rw [lkE_map κ hk, hb]
  simp [SV.bool, SV.kv, mapSC, mapVC, h]

theorem freeze_cov {N n : Nat} {s s' : SS} (h : freezeS n s = some s') : Cov (s.st N) (s'.st N) ∧ keepsB s s' := by
  refine ⟨?_, ?_⟩
  · rintro w0 M0 D0 a w ⟨hd, D, hm, hE, hp⟩
    obtain ⟨D', h1, h2, h3⟩ := freeze_sound hm hE (freezeS_av (N := N) h)
    exact ⟨hd, D', h1, h2, h3 D0 hp⟩
  · unfold freezeS at h
    split at h
    · simp only [Option.some.injEq] at h; subst h
      exact keepsB_map rfl fun v => rfl
    · cases h
theorem settleS_cov {C : Cfg} : ∀ {f : Nat} {xs : List Operand} {s s' : SS}, settleS C f xs s = some s' → Cov (s.st C.N) (s'.st C.N) ∧ keepsB s s'
  | 0, xs, s, s', h => by simp only [settleS, Option.some.injEq] at h; subst h; exact ⟨.rfl' _, .rfl' _⟩
  | f + 1, xs, s, s', h => by
    simp only [settleS] at h
    split at h
    · simp only [Option.some.injEq] at h; subst h; exact ⟨.rfl' _, .rfl' _⟩
    · split at h
      · rename_i r hr
        obtain ⟨h1, h2⟩ := freeze_cov (N := C.N) hr
        obtain ⟨h3, h4⟩ := settleS_cov h
        exact ⟨h1.trans h3, h2.trans h4⟩
      · cases h
theorem names_none {C : Cfg} {xs : List Operand} {s : SS} (h : firstC (xs.flatMap fun o => cellsOfS (sev C s o)) = none) : firstName (xs.flatMap fun o => cellList (ev (s.st C.N).env o)) = none := by
  have app : ∀ {a b : List AV}, firstName a = none → firstName b = none → firstName (a ++ b) = none := by
    intro a b ha hb
    induction a with
    | nil => exact hb
    | cons x a ih => cases x <;> simp only [firstName, reduceCtorEq] at ha <;> simp only [List.cons_append, firstName] <;> exact ih ha
  have app2 : ∀ {a b : List CV}, firstC (a ++ b) = none → firstC a = none ∧ firstC b = none := by
    intro a b hab
    induction a with
    | nil => exact ⟨rfl, hab⟩
    | cons x a ih => cases x <;> simp only [List.cons_append, firstC, reduceCtorEq] at hab <;> simp only [firstC] <;> exact ih hab
  induction xs with
  | nil => rfl
  | cons x xs ih =>
    simp only [List.flatMap_cons] at h ⊢
    obtain ⟨h1, h2⟩ := app2 h
    refine app ?_ (ih h2)
    rw [← sev_av, cellList_av]
    exact firstC_av h1
theorem calmS_cov {C : Cfg} {xs : List Operand} {s s' : SS} (h : calmS C xs s = some s') : Cov (s.st C.N) (s'.st C.N) ∧ keepsB s s' ∧ firstC (xs.flatMap fun o => cellsOfS (sev C s' o)) = none := by
  unfold calmS at h
  split at h
  · rename_i s1 h1
    split at h
    · rename_i hn
      simp only [Option.some.injEq] at h; subst h
      obtain ⟨h2, h3⟩ := settleS_cov h1
      exact ⟨h2, h3, hn⟩
    · cases h
  · cases h

/-- d names nothing -/
def NoOwn (d : Nat) (s : SS) : Prop := lookS d s.objs = none ∧ ∃ E O, s = ⟨mapEC (killC d) E, mapOC (killC d) O⟩
theorem freshS_no {N d : Nat} {s s' : SS} (h : freshS d s = some s') : Cov (s.st N) (s'.st N) ∧ keepsB s s' ∧ NoOwn d s' := by
  obtain ⟨h1, h2⟩ := freshS_cov (N := N) h
  refine ⟨h1, ?_, h2, ?_⟩
  · unfold freshS at h
    split at h
    · simp only [Option.some.injEq] at h; subst h
      exact keepsB_map rfl fun v => rfl
    · cases h
  · unfold freshS at h
    split at h
    · simp only [Option.some.injEq] at h; exact ⟨_, _, h.symm⟩
    · cases h
theorem prepS_cov {C : Cfg} {d : Nat} {xs : List Operand} {s s' : SS} (h : prepS C d xs s = some s') : Cov (s.st C.N) (s'.st C.N) ∧ keepsB s s' ∧ NoOwn d s' ∧ firstC (xs.flatMap fun o => cellsOfS (sev C s' o)) = none := by
  unfold prepS at h
  split at h
  · rename_i s1 h1
    split at h
    · rename_i s2 h2
      split at h
      · rename_i hn
        simp only [Option.some.injEq] at h; subst h
        obtain ⟨a1, a2, _⟩ := calmS_cov h1
        obtain ⟨b1, b2, b3⟩ := freshS_no (N := C.N) h2
        exact ⟨a1.trans b1, a2.trans b2, b3, hn⟩
      · cases h
    · cases h
  · cases h

theorem killC_cons {d : Nat} {o : SO} {O : SObjs} (x : CV) : (killC d x).av ((d, o) :: O) = (killC d x).av O := by
  refine av_objs fun n hn => ?_
  have : d ≠ n := by
    rintro rfl
    cases x <;> simp only [killC] at hn <;> (try (split at hn <;> cases hn)) <;> (try cases hn)
    contradiction
  simp only [lookS, this, if_false]
theorem sv_congr {κ : CV → CV} {O O' : SObjs} (h : ∀ x, (κ x).av O = (κ x).av O') (x : SV) : (mapSC κ x).av O = (mapSC κ x).av O' := by
  have hv : ∀ x : VV, (mapVC κ x).av O = (mapVC κ x).av O' := by
    intro x
    cases x with
    | c x => exact h x
    | g l =>
      simp only [mapVC, VV.av, List.map_map]
      congr 1
      apply List.map_congr_left
      intro x _; exact h x
  cases x with
  | v x => exact hv x
  | tup l =>
    simp only [mapSC, SV.av, List.map_map]
    congr 1
    apply List.map_congr_left
    intro x _; exact hv x
theorem objsAV_congr {κ : CV → CV} {O O' : SObjs} (h : ∀ x, (κ x).av O = (κ x).av O') : ∀ l : SObjs, objsAV O (mapOC κ l) = objsAV O' (mapOC κ l)
  | [] => rfl
  | (n, .box cs) :: r => by
    simp only [mapOC, objsAV, SO.av, objsAV_congr h r, List.map_map]
    congr 3
    apply List.map_congr_left
    intro x _; exact h x
  | (n, .arr ts l) :: r => by simp only [mapOC, objsAV, SO.av, objsAV_congr h r]
theorem st_congr {κ : CV → CV} (hk : κ .any = .any) {O O' : SObjs} (h : ∀ x, (κ x).av O = (κ x).av O') (N : Nat) (E : List (Nat × SV)) : (SS.st N ⟨mapEC κ E, O⟩).env = (SS.st N ⟨mapEC κ E, O'⟩).env := by
  simp only [SS.st]
  apply List.map_congr_left
  intro i _
  rw [lkE_map κ hk]
  exact sv_congr h _
theorem st_cons {N d : Nat} {s : SS} (h : NoOwn d s) (o : SO) : (SS.st N ⟨s.env, (d, o) :: s.objs⟩).env = (s.st N).env ∧ objsAV ((d, o) :: s.objs) s.objs = objsAV s.objs s.objs := by
  obtain ⟨_, E, O, rfl⟩ := h
  exact ⟨st_congr rfl (fun x => killC_cons x) N E, objsAV_congr (fun x => killC_cons x) O⟩
theorem look_none {N d : Nat} {s : SS} (h : lookS d s.objs = none) : look d (s.st N).objs = none := by
  show look d (objsAV s.objs s.objs) = none
  rw [lookS_av, h]; rfl

/-- The state behind the making of an object. -/
theorem st_made {N d : Nat} {s : SS} (h : NoOwn d s) (o : SO) (x : SV) :
    (SS.put ⟨s.env, (d, o) :: s.objs⟩ (some d) x).st N = ⟨putA (s.st N).env (some d) (x.av ((d, o) :: s.objs)), (d, o.av ((d, o) :: s.objs)) :: (s.st N).objs⟩ := by
  rw [put_st, (st_cons (N := N) h o).1]
  have : (SS.st N ⟨s.env, (d, o) :: s.objs⟩).objs = (d, o.av ((d, o) :: s.objs)) :: (s.st N).objs := by
    show objsAV ((d, o) :: s.objs) ((d, o) :: s.objs) = _
    simp only [objsAV, (st_cons (N := N) h o).2]; rfl
  rw [this]

def isFun : Op → Bool
  | .call { callee := .value (.func _), .. } => true
  | _ => false
/-- What an operation that makes or changes something comes to. -/
def HDone (P : Program) (N : Nat) (s : SS) (dst : Option Tmp) (o : Op) (f : SS) : Prop :=
  ∃ s1 r, Cov (s.st N) (s1.st N) ∧ keepsB s s1 ∧ isFun o = false ∧ rOp P (s1.st N).env (s1.st N).objs o = none ∧ hOp P (s1.st N).env (s1.st N).objs dst o = some r ∧ Cov ⟨putA r.env dst r.x, r.objs⟩ (f.st N)

theorem zc_leL (ts : Tys) : leL (ts.zc.map (CV.av [])) (ts.avs ts.d) := by
  have : ∀ ts : Tys, leL (ts.zc.map (CV.av [])) (ts.avs ts.d) := by
    intro ts
    induction ts using Tys.rec (motive_1 := fun _ => True) with
    | int | bool | str => trivial
    | sl => trivial
    | nil => exact .rfl' _
    | cons t ts _ ih =>
      simp only [Tys.zc, Tys.avs, List.map_cons, Tys.d]
      refine leL.append (a := [_]) (b := [_]) ⟨rfl, fun i y hy => ?_⟩ ih
      cases i with
      | zero =>
        simp only [List.getElem?_cons_zero, Option.some.injEq] at hy ⊢; subst hy
        refine ⟨_, rfl, ?_⟩
        cases t with
        | sl us => exact .inr (.inr ⟨rfl, _, rfl⟩)
        | _ => exact .rfl' _
      | succ i => simp at hy
  exact this ts
theorem leR_rep {a b : List AV} (h : leL a b) (n : Nat) : leR (List.replicate n a) (List.replicate n b) := by
  refine ⟨by simp, fun j cs hj => ?_⟩
  rw [List.getElem?_replicate] at hj ⊢
  split at hj
  · rename_i hlt
    simp only [Option.some.injEq] at hj; subst hj
    exact ⟨a, by rw [if_pos hlt], h⟩
  · cases hj

theorem toKVs_av {O : SObjs} : ∀ {ts : Tys} {cs : List CV} {x : ts.T}, toKVs ts cs = some x → leL (cs.map (CV.av O)) (ts.avs x) ∧ cs.all plainCC = true ∧ cs.length = ts.len := by
  intro ts
  induction ts using Tys.rec (motive_1 := fun _ => True) with
  | int | bool | str => trivial
  | sl => trivial
  | nil =>
    intro cs x h
    cases cs with
    | nil => exact ⟨.rfl' _, rfl, rfl⟩
    | cons c cs => simp [toKVs] at h
  | cons t ts _ ih =>
    intro cs x h
    cases cs with
    | nil => simp [toKVs] at h
    | cons c cs =>
      have one : ∀ a b, leC a b → leL [a] [b] := fun a b hab => ⟨rfl, fun i y hy => by
        cases i with
        | zero => simp only [List.getElem?_cons_zero, Option.some.injEq] at hy ⊢; subst hy; exact ⟨a, rfl, hab⟩
        | succ i => simp at hy⟩
      cases c with
      | k v =>
        simp only [toKVs] at h
        split at h
        · rename_i a b h1 h2
          simp only [Option.some.injEq] at h; subst h
          obtain ⟨i1, i2, i3⟩ := ih h2
          have e := to_kv t v a h1
          subst e
          refine ⟨?_, by simp [plainCC, i2], by simp [Tys.len, i3]⟩
          exact leL.append (one _ _ (by rw [show (CV.k (t.kv a)).av O = (t.kv a).av from rfl, kv_av]; exact .rfl' _)) i1
        · cases h
      | nsl =>
        cases t with
        | sl us =>
          simp only [toKVs] at h
          split at h
          · rename_i b h2
            simp only [Option.some.injEq] at h; subst h
            obtain ⟨i1, i2, i3⟩ := ih h2
            refine ⟨?_, by simp [plainCC, i2], by simp [Tys.len, i3]⟩
            exact leL.append (one _ _ (.inr (.inr ⟨rfl, _, rfl⟩))) i1
          · cases h
        | _ => simp [toKVs] at h
      | _ => simp [toKVs] at h

theorem plainCC_av {O : SObjs} {x : CV} (h : plainCC x = true) : plainC (x.av O) = true := by
  cases x with
  | k v => cases v <;> rfl
  | _ => first | rfl | simp [plainCC] at h
theorem plainCC_all {O : SObjs} {l : List CV} (h : l.all plainCC = true) : (l.map (CV.av O)).all plainC = true := by
  rw [List.all_map]
  rw [List.all_eq_true] at h ⊢
  intro x hx
  exact plainCC_av (h x hx)

theorem toRows_av {O : SObjs} {ts : Tys} : ∀ {xs : List SV} {rows : List ts.T}, toRows O ts xs = some rows → ∃ l, rowsOf ts.len (xs.map (SV.av O)) = some l ∧ leR l (rows.map ts.avs)
  | [], rows, h => by simp only [toRows, Option.some.injEq] at h; subst h; exact ⟨[], rfl, .rfl' _⟩
  | x :: xs, rows, h => by
    simp only [toRows] at h
    split at h
    · rename_i cs hcs
      split at h
      · rename_i a b h1 h2
        simp only [Option.some.injEq] at h; subst h
        obtain ⟨l, hl, hle⟩ := toRows_av h2
        obtain ⟨i1, i2, i3⟩ := toKVs_av (O := O) h1
        refine ⟨cs.map (CV.av O) :: l, ?_, ?_⟩
        · simp only [List.map_cons, rowsOf, cellsS_av hcs, hl]
          rw [if_pos ⟨by simp [i3], plainCC_all i2⟩]
        · refine ⟨by simp [hle.1], fun j cs' hj => ?_⟩
          cases j with
          | zero => simp only [List.map_cons, List.getElem?_cons_zero, Option.some.injEq] at hj ⊢; subst hj; exact ⟨_, rfl, i1⟩
          | succ j => simp only [List.map_cons, List.getElem?_cons_succ] at hj ⊢; exact hle.2 j cs' hj
      · cases h
    · cases h
end Go.Abs
