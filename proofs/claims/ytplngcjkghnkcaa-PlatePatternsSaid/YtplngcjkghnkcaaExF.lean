/- Weakening of abstract states; killing and freezing of names. -/
import Derived.Test.YtplngcjkghnkcaaExE
namespace Go.Abs
open Go.RowKit

/-- The second says no more of a cell than the first. -/
def leC (x y : AV) : Prop := y = .any ∨ x = y ∨ (x = .nsl ∧ ∃ sz, y = .sl sz [])
theorem leC.rfl' (x : AV) : leC x x := .inr (.inl rfl)
theorem leC.any (x : AV) : leC x .any := .inl rfl
theorem leC_cell {w : World} {D : Names} {x y : AV} {v : Value} (h : leC x y) (hv : Cell w D x v) : Cell w D y v := by
  rcases h with rfl | rfl | ⟨rfl, sz, rfl⟩
  · exact imm_any _ _ _
  · exact hv
  · simp only [Cell] at hv ⊢
    cases hv
    exact .slnil sz none 0
theorem leC_imm {w : World} {M : Nat → Prop} {x y : AV} {v : Value} (h : leC x y) (hv : Imm w M x v) : Imm w M y v := by
  rcases h with rfl | rfl | ⟨rfl, sz, rfl⟩
  · exact .any v
  · exact hv
  · cases hv
    exact .slnil sz none 0
def leL (l m : List AV) : Prop := l.length = m.length ∧ ∀ (i : Nat) (y : AV), m[i]? = some y → ∃ x, l[i]? = some x ∧ leC x y
theorem leL.rfl' (l : List AV) : leL l l := ⟨rfl, fun _ y h => ⟨y, h, leC.rfl' y⟩⟩
theorem leL_map {α : Type} {f g : α → AV} (l : List α) (h : ∀ x ∈ l, leC (f x) (g x)) : leL (l.map f) (l.map g) := by
  refine ⟨by simp, fun i y hy => ?_⟩
  rw [List.getElem?_map] at hy
  obtain ⟨x, hx, rfl⟩ := Option.map_eq_some_iff.1 hy
  exact ⟨f x, by rw [List.getElem?_map, hx]; rfl, h x (List.mem_of_getElem? hx)⟩
theorem leL.append {a b c d : List AV} (h : leL a b) (k : leL c d) : leL (a ++ c) (b ++ d) := by
  refine ⟨by simp [h.1, k.1], fun i y hy => ?_⟩
  by_cases hi : i < b.length
  · rw [List.getElem?_append_left hi] at hy
    rw [List.getElem?_append_left (by rw [h.1]; exact hi)]
    exact h.2 i y hy
  · rw [List.getElem?_append_right (by omega)] at hy
    rw [List.getElem?_append_right (by rw [h.1]; omega), h.1]
    exact k.2 _ y hy
theorem leL.take {a b : List AV} (h : leL a b) (n : Nat) : leL (a.take n) (b.take n) := by
  refine ⟨by simp [h.1], fun i y hy => ?_⟩
  rw [List.getElem?_take] at hy ⊢
  split at hy
  · rename_i hi
    rw [if_pos hi]; exact h.2 i y hy
  · cases hy
theorem leL.drop {a b : List AV} (h : leL a b) (n : Nat) : leL (a.drop n) (b.drop n) := by
  refine ⟨by simp [h.1], fun i y hy => ?_⟩
  rw [List.getElem?_drop] at hy ⊢
  exact h.2 _ y hy
def leV : AV → AV → Prop
  | .agg l, y => y = .any ∨ ∃ m, y = .agg m ∧ leL l m
  | x, y => leC x y
def leLV (l m : List AV) : Prop := l.length = m.length ∧ ∀ (i : Nat) (y : AV), m[i]? = some y → ∃ x, l[i]? = some x ∧ leV x y
def leS : AV → AV → Prop
  | .tup l, y => y = .any ∨ ∃ m, y = .tup m ∧ leLV l m
  | x, y => leV x y
theorem leV.rfl' (x : AV) : leV x x := by
  cases x with
  | agg l => exact .inr ⟨l, rfl, leL.rfl' l⟩
  | _ => exact leC.rfl' _
theorem leS.rfl' (x : AV) : leS x x := by
  cases x with
  | tup l => exact .inr ⟨l, rfl, rfl, fun _ y h => ⟨y, h, leV.rfl' y⟩⟩
  | agg l => exact leV.rfl' (.agg l)
  | _ => exact leC.rfl' _
theorem leS.any (x : AV) : leS x .any := by
  cases x with
  | tup l => exact .inl rfl
  | agg l => exact .inl rfl
  | _ => exact .inl rfl
theorem leC_val {w : World} {D : Names} {x y : AV} {v : Value} (h : leC x y) (hx : ∀ l, x ≠ .agg l) (hv : Val w D x v) : Val w D y v := by
  have hv' : Cell w D x v := by
    cases x with
    | agg l => exact absurd rfl (hx l)
    | _ => exact hv
  have := leC_cell h hv'
  cases y with
  | agg l =>
    rcases h with h | h | ⟨_, sz, h⟩
    · cases h
    · exact absurd h (hx l)
    · cases h
  | _ => exact this
theorem leV_val {w : World} {D : Names} {x y : AV} {v : Value} (h : leV x y) (hv : Val w D x v) : Val w D y v := by
  cases x with
  | agg l =>
    rcases h with rfl | ⟨m, rfl, hl, hm⟩
    · simp [Val, Cell]; exact .any v
    · obtain ⟨vs, h1, h2, h3⟩ := hv
      refine ⟨vs, h1, by rw [h2, hl], fun i y hy => ?_⟩
      obtain ⟨x, hx, hxy⟩ := hm i y hy
      exact ⟨leC_cell hxy (h3 i x hx).1, (h3 i x hx).2⟩
  | _ => exact leC_val h (by simp) hv
theorem leS_slot {w : World} {D : Names} {x y : AV} {v : Value} (h : leS x y) (hv : Slot w D x v) : Slot w D y v := by
  have key : ∀ z, (∀ l, z ≠ .tup l) → leS z y → Slot w D z v → Slot w D y v := by
    intro z hz h hv
    have h : leV z y := by
      cases z with
      | tup l => exact absurd rfl (hz l)
      | _ => exact h
    have hv : Val w D z v := by
      cases z with
      | tup l => exact absurd rfl (hz l)
      | _ => exact hv
    have h2 := leV_val h hv
    cases y with
    | tup l =>
      exfalso
      cases z with
      | tup l => exact hz l rfl
      | agg l => rcases h with h | ⟨m, h, _⟩ <;> cases h
      | _ => rcases h with h | h | ⟨_, _, h⟩ <;> cases h
    | _ => exact h2
  cases x with
  | tup l =>
    rcases h with rfl | ⟨m, rfl, hl, hm⟩
    · exact slot_any _ _ _
    · obtain ⟨vs, h1, h2, h3⟩ := hv
      refine ⟨vs, h1, by rw [h2, hl], fun i y hy => ?_⟩
      obtain ⟨x, hx, hxy⟩ := hm i y hy
      exact leV_val hxy (h3 i x hx)
  | _ => exact key _ (by simp) h hv
def leE (l m : List AV) : Prop := l.length = m.length ∧ ∀ (i : Nat) (y : AV), m[i]? = some y → ∃ x, l[i]? = some x ∧ leS x y
theorem leE.rfl' (l : List AV) : leE l l := ⟨rfl, fun _ y h => ⟨y, h, leS.rfl' y⟩⟩
def leR (l m : List (List AV)) : Prop := l.length = m.length ∧ ∀ (j : Nat) (cs : List AV), m[j]? = some cs → ∃ bs, l[j]? = some bs ∧ leL bs cs
def leO : Obj → Obj → Prop
  | .box cs, .box ds => leL cs ds
  | .arr sz l, .arr sz' m => sz = sz' ∧ leR l m
  | _, _ => False
theorem leR.rfl' (l : List (List AV)) : leR l l := ⟨rfl, fun _ y h => ⟨y, h, leL.rfl' y⟩⟩
theorem leO.rfl' : ∀ o : Obj, leO o o
  | .box cs => leL.rfl' cs
  | .arr _ l => ⟨rfl, leR.rfl' l⟩
def leOs : List (Nat × Obj) → List (Nat × Obj) → Prop
  | [], [] => True
  | (n, o) :: r, (m, o') :: r' => n = m ∧ leO o o' ∧ leOs r r'
  | _, _ => False
theorem leOs.rfl' : ∀ l, leOs l l
  | [] => trivial
  | (_, o) :: r => ⟨rfl, leO.rfl' o, leOs.rfl' r⟩
theorem leOs_look {n : Nat} : ∀ {l m : List (Nat × Obj)}, leOs l m → (look n l).isSome = (look n m).isSome ∧ ∀ o', look n m = some o' → ∃ o, look n l = some o ∧ leO o o'
  | [], [], _ => by simp [look]
  | (k, o) :: r, (j, o') :: r', h => by
    obtain ⟨rfl, h1, h2⟩ := h
    have ih := leOs_look (n := n) h2
    by_cases hk : k = n
    · subst hk; simp only [look, if_true]; exact ⟨rfl, fun p hp => ⟨o, rfl, by cases hp; exact h1⟩⟩
    · simp only [look, hk, if_false]; exact ih
  | [], _ :: _, h => h.elim
  | _ :: _, [], h => h.elim
theorem leOs_look' {n : Nat} {l m : List (Nat × Obj)} (h : leOs l m) {o : Obj} (ho : look n l = some o) : ∃ o', look n m = some o' ∧ leO o o' := by
  have h1 := (leOs_look (n := n) h).1
  rw [ho] at h1
  obtain ⟨o', ho'⟩ := Option.isSome_iff_exists.1 h1.symm
  obtain ⟨o2, h2, h3⟩ := (leOs_look (n := n) h).2 o' ho'
  rw [ho] at h2; cases h2
  exact ⟨o', ho', h3⟩
theorem leO_rep {w : World} {D : Names} {o o' : Obj} {d : Option Nat} (h : leO o o') (hr : ObjRep w D o d) : ObjRep w D o' d := by
  cases o with
  | box cs =>
    cases o' with
    | arr _ _ => exact h.elim
    | box ds =>
      cases d with
      | none => exact hr.elim
      | some b =>
        obtain ⟨vs, T, h1, h2, h3⟩ := hr
        refine ⟨vs, T, h1, by rw [h2, h.1], fun i y hy => ?_⟩
        obtain ⟨x, hx, hxy⟩ := h.2 i y hy
        exact ⟨leC_cell hxy (h3 i x hx).1, (h3 i x hx).2⟩
  | arr sz l =>
    cases o' with
    | box _ => exact h.elim
    | arr sz' m =>
      obtain ⟨rfl, hl, hm⟩ := h
      cases d with
      | none =>
        simp only [ObjRep] at hr ⊢
        subst hr
        cases m with
        | nil => rfl
        | cons a m => simp at hl
      | some b =>
        obtain ⟨vs, T, fz, h1, h2, h3, h4, h5, h6⟩ := hr
        refine ⟨vs, T, fz, h1, h2, by rw [← hl]; exact h3, by rw [← hl]; exact h4, fun j cs hj => ?_, fun j cs i y hj hy => ?_⟩
        · obtain ⟨bs, hb, hbl, _⟩ := hm j cs hj
          rw [← hbl]; exact h5 j bs hb
        · obtain ⟨bs, hb, _, hbl⟩ := hm j cs hj
          obtain ⟨x, hx, hxy⟩ := hbl i y hy
          exact ⟨leC_imm hxy (h6 j bs i x hb hx).1, (h6 j bs i x hb hx).2⟩

/-- The second state says no more than the first. -/
def Cov (s s' : St) : Prop := ∀ w0 M0 D0 a w, Sat w0 M0 D0 s a w → Sat w0 M0 D0 s' a w
theorem Cov.rfl' (s : St) : Cov s s := fun _ _ _ _ _ h => h
theorem Cov.trans {a b c : St} (h : Cov a b) (k : Cov b c) : Cov a c := fun w0 M0 D0 x w hs => k w0 M0 D0 x w (h w0 M0 D0 x w hs)
theorem cov_le {s s' : St} (he : leE s.env s'.env) (ho : leOs s.objs s'.objs) : Cov s s' := by
  rintro w0 M0 D0 a w ⟨hd, D, hm, hE, hp⟩
  refine ⟨hd, D, ⟨fun n hn => ?_, fun n hn => ?_, fun n o' d ho' hD => ?_, hm.inj, hm.lt, hm.own, hm.grow, hm.os, hm.tape, hm.output⟩, ⟨by rw [hE.1, he.1], fun i y hy => ?_⟩, fun n d hn => ?_⟩
  · rw [hm.dom n hn, (leOs_look ho).1]
  · exact hm.small n (by rw [(leOs_look ho).1]; exact hn)
  · obtain ⟨o, h1, h2⟩ := (leOs_look ho).2 o' ho'
    exact leO_rep h2 (hm.rep n o d h1 hD)
  · obtain ⟨x, hx, hxy⟩ := he.2 i y hy
    exact leS_slot hxy (hE.2 i x hx)
  · obtain ⟨h1, h2⟩ := hp n d hn
    refine ⟨h1, fun hK => ?_⟩
    obtain ⟨cs, hcs⟩ := h2 hK
    obtain ⟨o', ho', hle⟩ := leOs_look' ho hcs
    cases o' with
    | box ds => exact ⟨ds, ho'⟩
    | arr _ _ => exact hle.elim

/-! mapping cells -/
theorem mapS_v {φ : AV → AV} {κ : CV → CV} {O O' : SObjs} (h : ∀ x : CV, leC (φ (x.av O)) ((κ x).av O')) (x : VV) : leV (mapV φ (x.av O)) ((mapVC κ x).av O') := by
  cases x with
  | c x =>
    have e : mapV φ (x.av O) = φ (x.av O) := by
      cases hx : x.av O with
      | agg l => exact absurd hx (not_agg.1 l)
      | _ => rfl
    simp only [VV.av, mapVC, e]
    cases hy : φ (x.av O) with
    | agg l =>
      have := h x
      rw [hy] at this
      rcases this with h1 | h1 | ⟨h1, _⟩
      · exact .inl h1
      · exact absurd h1.symm (not_agg.1 l)
      · cases h1
    | _ => rw [← hy]; simpa only [hy, leV] using h x
  | g l =>
    simp only [VV.av, mapVC, mapV]
    refine .inr ⟨_, rfl, ?_⟩
    rw [List.map_map, List.map_map]
    exact leL_map l fun x _ => h x
theorem mapS_s {φ : AV → AV} {κ : CV → CV} {O O' : SObjs} (h : ∀ x : CV, leC (φ (x.av O)) ((κ x).av O')) (x : SV) : leS (mapS φ (x.av O)) ((mapSC κ x).av O') := by
  cases x with
  | v x =>
    have e : mapS φ (x.av O) = mapV φ (x.av O) := by
      cases x with
      | c x =>
        cases hx : x.av O with
        | tup l => exact absurd hx (not_agg.2 l)
        | _ => simp only [VV.av, hx, mapS]
      | g l => rfl
    simp only [SV.av, mapSC, e]
    have hv := mapS_v h x
    cases hy : mapV φ (x.av O) with
    | tup l =>
      rw [hy] at hv
      rcases hv with h1 | h1 | ⟨h1, _⟩
      · exact .inl h1
      · exfalso
        cases x with
        | c x => exact not_agg.2 l h1.symm
        | g l => simp [VV.av, mapV] at hy
      · cases h1
    | _ => rw [hy] at hv; exact hv
  | tup l =>
    simp only [SV.av, mapSC, mapS]
    refine .inr ⟨_, rfl, by simp, fun i y hy => ?_⟩
    rw [List.map_map, List.getElem?_map] at hy
    obtain ⟨x, hx, rfl⟩ := Option.map_eq_some_iff.1 hy
    refine ⟨_, ?_, mapS_v h x⟩
    rw [List.map_map, List.getElem?_map, hx]; rfl
theorem lkE_map (κ : CV → CV) (hk : κ .any = .any) : ∀ (E : List (Nat × SV)) (i : Nat), lkE (mapEC κ E) i = mapSC κ (lkE E i)
  | [], i => by simp [mapEC, lkE, SV.any, mapSC, mapVC, hk]
  | (n, x) :: r, i => by
    have ih := lkE_map κ hk r i
    by_cases h : n = i <;> simp [mapEC, lkE, h, ih]
theorem leE_map {φ : AV → AV} {κ : CV → CV} {O O' : SObjs} (hk : κ .any = .any) (h : ∀ x : CV, leC (φ (x.av O)) ((κ x).av O')) (N : Nat) (E : List (Nat × SV)) :
    leE ((SS.st N ⟨E, O⟩).env.map (mapS φ)) (SS.st N ⟨mapEC κ E, O'⟩).env := by
  refine ⟨by simp [SS.st], fun i y hy => ?_⟩
  simp only [SS.st, List.getElem?_map] at hy ⊢
  obtain ⟨j, hj, rfl⟩ := Option.map_eq_some_iff.1 hy
  refine ⟨_, by rw [hj]; rfl, ?_⟩
  rw [lkE_map κ hk]
  exact mapS_s h _
theorem leOs_map {φ : AV → AV} {κ : CV → CV} {O O' : SObjs} (h : ∀ x : CV, leC (φ (x.av O)) ((κ x).av O')) : ∀ l : SObjs, leOs (mapO φ (objsAV O l)) (objsAV O' (mapOC κ l))
  | [] => trivial
  | (n, .box cs) :: r => by
    refine ⟨rfl, ?_, leOs_map h r⟩
    simp only [SO.av, leO]
    rw [List.map_map, List.map_map]
    exact leL_map cs fun x _ => h x
  | (n, .arr ts l) :: r => ⟨rfl, leO.rfl' _, leOs_map h r⟩
theorem objsAV_drop (O : SObjs) (n : Nat) : ∀ l : SObjs, objsAV O (dropS n l) = drop n (objsAV O l)
  | [] => rfl
  | (m, o) :: r => by
    have ih := objsAV_drop O n r
    by_cases h : m = n <;> simp [dropS, objsAV, drop, h, ih]
theorem objsAV_upd (O : SObjs) (n : Nat) (o : SO) : ∀ l : SObjs, objsAV O (updS n o l) = upd n (o.av O) (objsAV O l)
  | [] => rfl
  | (m, p) :: r => by
    have ih := objsAV_upd O n o r
    by_cases h : m = n <;> simp [updS, objsAV, upd, h, ih]
theorem lookS_drop_ne {n m : Nat} (h : n ≠ m) : ∀ l : SObjs, lookS m (dropS n l) = lookS m l
  | [] => rfl
  | (k, o) :: r => by
    have ih := lookS_drop_ne h r
    by_cases hk : k = n
    · subst hk; simp [dropS, lookS, h, ih]
    · by_cases hm : k = m
      · subst hm; simp [dropS, lookS, hk]
      · simp [dropS, lookS, hk, hm, ih]
theorem lookS_drop (n : Nat) : ∀ l : SObjs, lookS n (dropS n l) = none
  | [] => rfl
  | (k, o) :: r => by
    have ih := lookS_drop n r
    by_cases hk : k = n
    · simp [dropS, hk, ih]
    · simp [dropS, lookS, hk, ih]
def soMap (κ : CV → CV) : SO → SO
  | .box cs => .box (cs.map κ)
  | .arr ts l => .arr ts l
theorem lookS_map (κ : CV → CV) (n : Nat) : ∀ l : SObjs, lookS n (mapOC κ l) = (lookS n l).map (soMap κ)
  | [] => rfl
  | (m, .box cs) :: r => by
    have ih := lookS_map κ n r
    by_cases h : m = n <;> simp [mapOC, lookS, h, soMap, ih]
  | (m, .arr ts l) :: r => by
    have ih := lookS_map κ n r
    by_cases h : m = n <;> simp [mapOC, lookS, h, soMap, ih]
theorem lookS_upd_ne {n m : Nat} (o : SO) (h : n ≠ m) : ∀ l : SObjs, lookS m (updS n o l) = lookS m l
  | [] => rfl
  | (k, p) :: r => by
    have ih := lookS_upd_ne o h r
    by_cases hk : k = n
    · subst hk; simp [updS, lookS, h, ih]
    · by_cases hm : k = m
      · subst hm; simp [updS, lookS, hk]
      · simp [updS, lookS, hk, hm, ih]
theorem lookS_upd {n : Nat} (o : SO) : ∀ {l : SObjs}, (lookS n l).isSome = true → lookS n (updS n o l) = some o
  | [], h => by simp [lookS] at h
  | (k, p) :: r, h => by
    by_cases hk : k = n
    · simp [updS, lookS, hk]
    · simp only [lookS, hk, if_false] at h
      simp [updS, lookS, hk, lookS_upd o h]

/-- What stands for a slice that is owned depends on the arrays' lengths alone. -/
theorem av_objs {O O' : SObjs} {x : CV} (h : ∀ n, x = .own n → (match lookS n O with | some (.arr ts l) => some (ts.len, l.length) | _ => none) = (match lookS n O' with | some (.arr ts l) => some (ts.len, l.length) | _ => none)) : x.av O = x.av O' := by
  cases x with
  | own n =>
    have := h n rfl
    simp only [CV.av]
    revert this
    cases lookS n O with
    | none =>
      cases lookS n O' with
      | none => intro _; rfl
      | some o' => cases o' <;> simp
    | some o =>
      cases o with
      | box _ =>
        cases lookS n O' with
        | none => intro _; rfl
        | some o' => cases o' <;> simp
      | arr ts l =>
        cases lookS n O' with
        | none => simp
        | some o' =>
          cases o' with
          | box _ => simp
          | arr ts' l' => simp only [Option.some.injEq, Prod.mk.injEq]; rintro ⟨h1, h2⟩; rw [h1, h2]
  | _ => rfl

theorem map_id_mapS (l : List AV) : l.map (mapS id) = l := by
  have : mapS id = id := by
    funext x
    cases x with
    | tup l =>
      have hv : mapV id = id := by
        funext x
        cases x with
        | agg l => simp [mapV]
        | _ => rfl
      simp [mapS, hv]
    | agg l => simp [mapS, mapV]
    | _ => rfl
  rw [this, List.map_id]
theorem mapO_id : ∀ l : List (Nat × Obj), mapO id l = l
  | [] => rfl
  | (n, .box cs) :: r => by simp [mapO, mapO_id r]
  | (n, .arr sz l) :: r => by simp [mapO, mapO_id r]

/-! a fresh name -/
theorem freshS_cov {N d : Nat} {s s' : SS} (h : freshS d s = some s') : Cov (s.st N) (s'.st N) ∧ lookS d s'.objs = none := by
  unfold freshS at h
  split at h
  · rename_i hn
    simp only [Option.some.injEq] at h; subst h
    have key : ∀ x : CV, leC (id (x.av s.objs)) ((killC d x).av (mapOC (killC d) s.objs)) := by
      intro x
      cases x with
      | own m =>
        simp only [killC]
        split
        · exact .any _
        · simp only [CV.av, lookS_map, id]
          cases lookS m s.objs with
          | none => exact .rfl' _
          | some o => cases o <;> exact .rfl' _
      | msl m sz off len => simp only [killC]; split <;> first | exact .any _ | exact .rfl' _
      | ref m sz i off => simp only [killC]; split <;> first | exact .any _ | exact .rfl' _
      | _ => exact .rfl' _
    refine ⟨cov_le ?_ ?_, by simp [lookS_map, hn]⟩
    · have := leE_map (φ := id) (κ := killC d) (by rfl) key N s.env
      rw [map_id_mapS] at this
      exact this
    · have := leOs_map (φ := id) (κ := killC d) key s.objs
      rw [mapO_id] at this
      exact this
  · cases h
/-! freezing -/
theorem frz_av {n : Nat} {ts : Tys} {l : List ts.T} {O : SObjs} (h : lookS n O = some (.arr ts l)) (x : CV) :
    frz n ts.len (l.map ts.avs) (x.av O) = (frzC n ts l x).av (mapOC (frzC n ts l) (dropS n O)) := by
  cases x with
  | own m =>
    simp only [frzC]
    split
    · rename_i e; subst e
      simp only [CV.av, h, frz, if_true, List.length_map, Nat.zero_add]
      rw [if_pos ⟨trivial, Nat.le_refl _⟩]
      simp only [List.drop_zero, CV.av, KV.av]
      rw [List.take_of_length_le (by simp)]
    · rename_i hne
      simp only [CV.av, lookS_map, lookS_drop_ne (Ne.symm hne)]
      cases lookS m O with
      | none => rfl
      | some o =>
        cases o with
        | box _ => rfl
        | arr us l' => simp [soMap, frz, hne]
  | msl m sz off len =>
    simp only [frzC]
    split
    · rename_i e; subst e
      simp only [CV.av, frz, if_true, List.length_map]
      split <;> simp [CV.av, *]
    · rename_i hne; simp [CV.av, frz, hne]
  | ref m sz i off =>
    simp only [frzC]
    split
    · rename_i e; subst e; simp [CV.av, frz]
    · rename_i hne; simp [CV.av, frz, hne]
  | k v => cases v <;> rfl
  | raw a => cases a <;> rfl
  | _ => rfl
theorem mapS_eq {φ : AV → AV} {κ : CV → CV} {O O' : SObjs} (h : ∀ x : CV, φ (x.av O) = (κ x).av O') (x : SV) : mapS φ (x.av O) = (mapSC κ x).av O' := by
  have hv : ∀ x : VV, mapV φ (x.av O) = (mapVC κ x).av O' := by
    intro x
    cases x with
    | c x =>
      simp only [VV.av, mapVC, ← h x]
      cases hx : x.av O with
      | agg l => exact absurd hx (not_agg.1 l)
      | _ => rfl
    | g l =>
      simp only [VV.av, mapVC, mapV, List.map_map]
      congr 1
      apply List.map_congr_left
      intro x _; exact h x
  cases x with
  | v x =>
    simp only [SV.av, mapSC, ← hv x]
    cases x with
    | c x =>
      cases hx : x.av O with
      | tup l => exact absurd hx (not_agg.2 l)
      | _ => simp only [VV.av, hx, mapS]
    | g l => rfl
  | tup l =>
    simp only [SV.av, mapSC, mapS, List.map_map]
    congr 1
    apply List.map_congr_left
    intro x _; exact hv x
theorem freezeS_av {N n : Nat} {s s' : SS} (h : freezeS n s = some s') : freeze n (s.st N).env (s.st N).objs = some ((s'.st N).env, (s'.st N).objs) := by
  unfold freezeS at h
  split at h
  · rename_i ts l hl
    simp only [Option.some.injEq] at h; subst h
    have hlk : look n (s.st N).objs = some (.arr ts.len (l.map ts.avs)) := by
      show look n (objsAV s.objs s.objs) = _
      rw [lookS_av, hl]; rfl
    simp only [freeze, hlk, Option.some.injEq, Prod.mk.injEq]
    have key := frz_av hl
    constructor
    · simp only [SS.st, List.map_map]
      apply List.map_congr_left
      intro i _
      simp only [Function.comp]
      rw [lkE_map _ (by rfl)]
      exact mapS_eq key _
    · show mapO _ (drop n (objsAV s.objs s.objs)) = objsAV _ _
      rw [← objsAV_drop]
      generalize dropS n s.objs = O at key ⊢
      generalize hO' : mapOC (frzC n ts l) O = O' at key
      have : ∀ l' : SObjs, mapO (frz n ts.len (l.map ts.avs)) (objsAV s.objs l') = objsAV O' (mapOC (frzC n ts l) l') := by
        intro l'
        induction l' with
        | nil => rfl
        | cons p r ih =>
          obtain ⟨m, o⟩ := p
          cases o with
          | box cs =>
            simp only [objsAV, SO.av, mapO, mapOC, ih, List.map_map]
            congr 2
            congr 1
            apply List.map_congr_left
            intro x _; exact key x
          | arr us l'' => simp only [objsAV, SO.av, mapO, mapOC, ih]
      rw [this, hO']
  · cases h
theorem firstC_av {O : SObjs} : ∀ {l : List CV}, firstC l = none → firstName (l.map (CV.av O)) = none
  | [], _ => rfl
  | x :: r, h => by
    cases x with
    | own n => simp [firstC] at h
    | msl n sz off len => simp [firstC] at h
    | k v =>
      simp only [firstC] at h
      have := firstC_av (O := O) h
      cases v <;> simpa [CV.av, KV.av, firstName] using this
    | raw a =>
      simp only [firstC] at h
      have := firstC_av (O := O) h
      cases a <;> simpa [CV.av, firstName] using this
    | _ =>
      simp only [firstC] at h
      have := firstC_av (O := O) h
      simpa [CV.av, firstName] using this
theorem cellList_av {O : SObjs} (x : SV) : firstName (cellList (x.av O)) = firstName ((cellsOfS x).map (CV.av O)) := by
  cases x with
  | v x =>
    cases x with
    | c x =>
      simp only [SV.av, VV.av, cellsOfS, List.map_cons, List.map_nil]
      cases hx : x.av O with
      | agg l => exact absurd hx (not_agg.1 l)
      | _ => rfl
    | g l => rfl
  | tup l => rfl
end Go.Abs
