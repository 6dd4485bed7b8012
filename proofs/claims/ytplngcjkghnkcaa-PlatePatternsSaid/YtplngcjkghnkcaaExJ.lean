/- Calls: soundness. -/
import Derived.Test.YtplngcjkghnkcaaExI
namespace Go.Abs
open Go.RowKit

open Classical in
noncomputable def one (f : FuncId) (as : List AV) (os : List (Nat × Obj)) (r : CR) : Table := fun f' as' os' => if f' = f ∧ as' = as ∧ os' = os then some r else none
theorem one_eq (f : FuncId) (as : List AV) (os : List (Nat × Obj)) (r : CR) : one f as os r f as os = some r := by unfold one; rw [if_pos ⟨rfl, rfl, rfl⟩]
theorem one_sound {P : Program} {f : FuncId} {as : List AV} {os : List (Nat × Obj)} {r : CR} (hf : funOk P f = true) (hc : Contract P f as os r) : Sound P (one f as os r) := by
  intro f' as' os' r' h
  unfold one at h
  split at h
  · rename_i e
    obtain ⟨rfl, rfl, rfl⟩ := e
    simp only [Option.some.injEq] at h; subst h
    exact ⟨hf, hc⟩
  · cases h

theorem toT_le {O : SObjs} {t : Ty} {x : CV} {a : t.T} (h : toT O t x = some a) (hn : ∀ n, x ≠ .own n) : leC (x.av O) (t.av a) := by
  cases x with
  | k v =>
    simp only [toT] at h
    have := to_kv t v a h
    subst this
    show leC (t.kv a).av _
    rw [kv_av]; exact .rfl' _
  | nsl =>
    cases t with
    | sl ts =>
      simp only [toT, Option.some.injEq] at h; subst h
      exact .inr (.inr ⟨rfl, _, rfl⟩)
    | _ => simp [toT] at h
  | own n => exact absurd rfl (hn n)
  | _ => cases t <;> simp [toT] at h
theorem toT_own {O : SObjs} {t : Ty} {n : Nat} {a : t.T} (h : toT O t (.own n) = some a) : ∃ ts l, lookS n O = some (.arr ts l) ∧ t.av a = .sl ts.len (l.map ts.avs) := by
  cases t with
  | sl ts =>
    simp only [toT] at h
    split at h
    · rename_i us l hl
      split at h
      · rename_i hb
        have e := Tys.beq_eq us ts hb
        subst e
        simp only [Option.some.injEq] at h; subst h
        exact ⟨_, _, hl, rfl⟩
      · cases h
    · cases h
  | _ => simp [toT] at h
theorem toT_cases {O : SObjs} {t : Ty} {x : CV} {a : t.T} (h : toT O t x = some a) : (∃ n, x = .own n) ∨ ((∀ n, x ≠ .own n) ∧ nfC (x.av O) = true ∧ plainCC x = true) := by
  cases x with
  | own n => exact .inl ⟨n, rfl⟩
  | k v => exact .inr ⟨by simp, by cases v <;> rfl, rfl⟩
  | nsl => exact .inr ⟨by simp, rfl, rfl⟩
  | _ => cases t <;> simp [toT] at h

theorem nfV_of {O : SObjs} {l : List CV} (h : l.all plainCC = true) : (l.map (CV.av O)).all nfC = true := by
  rw [List.all_map]
  rw [List.all_eq_true] at h ⊢
  intro x hx
  have := h x hx
  cases x with
  | k v => cases v <;> rfl
  | nsl => rfl
  | at_ cs => rfl
  | _ => simp [plainCC] at this

/-- An argument as it is lent. -/
theorem lend_arg {O : SObjs} {c : CT} {x : SV} {a : c.T} (h : toCT O c x = some a) : ∃ y, lend (objsAV O O) (x.av O) = some y ∧ leS y (c.av a) ∧ nf y = true := by
  unfold toCT at h
  split at h
  · rename_i t x
    rcases toT_cases h with ⟨n, rfl⟩ | ⟨hn, hnf, _⟩
    · obtain ⟨ts, l, hl, e⟩ := toT_own h
      refine ⟨.sl ts.len (l.map ts.avs), ?_, ?_, rfl⟩
      · have hv : viewSl (objsAV O O) ts.len (.msl n ts.len 0 l.length) = some (l.map ts.avs) := by
          have e2 : List.take l.length (List.map ts.avs l) = List.map ts.avs l := List.take_of_length_le (by simp)
          simp [viewSl, lookS_av, hl, SO.av, e2]
        simp only [SV.av, VV.av, CV.av, hl, lend, lendC, hv, Option.map_some]
      · show leS _ (t.av a)
        rw [e]; exact .rfl' _
    · have hle := toT_le h hn
      have key : ∀ y : AV, (∀ l, y ≠ .agg l) → (∀ l, y ≠ .tup l) → nfC y = true → lend (objsAV O O) y = some y ∧ nf y = true := by
        intro y h1 h2 h3
        cases y with
        | agg l => exact absurd rfl (h1 l)
        | tup l => exact absurd rfl (h2 l)
        | msl => simp [nfC] at h3
        | ref => simp [nfC] at h3
        | _ => exact ⟨rfl, rfl⟩
      obtain ⟨k1, k2⟩ := key (x.av O) (not_agg.1) (not_agg.2) hnf
      refine ⟨_, k1, ?_, k2⟩
      show leS (x.av O) (t.av a)
      cases hx : x.av O with
      | agg l => exact absurd hx (not_agg.1 l)
      | tup l => exact absurd hx (not_agg.2 l)
      | _ => rw [hx] at hle; exact hle
  · rename_i ts l
    obtain ⟨h1, h2, _⟩ := toKVs_av (O := O) h
    have hnf := nfV_of (O := O) h2
    refine ⟨.agg (l.map (CV.av O)), ?_, .inr ⟨_, rfl, h1⟩, hnf⟩
    simp only [SV.av, VV.av, lend, hnf, if_true]
  · cases h

def noBx : List AT → Bool
  | [] => true
  | .v _ :: l => noBx l
  | .bx _ :: _ => false
theorem noBx_of : ∀ {l : List AT}, (bxsOf l).isEmpty = true → noBx l = true
  | [], _ => rfl
  | .v _ :: l, h => noBx_of (l := l) h
  | .bx _ :: l, h => by simp [bxsOf] at h

theorem leE_cons {x y : AV} {l m : List AV} (h : leS x y) (k : leE l m) : leE (x :: l) (y :: m) := by
  refine ⟨by simp [k.1], fun i z hz => ?_⟩
  cases i with
  | zero => simp only [List.getElem?_cons_zero, Option.some.injEq] at hz ⊢; subst hz; exact ⟨x, rfl, h⟩
  | succ i => simp only [List.getElem?_cons_succ] at hz ⊢; exact k.2 i z hz

theorem lend_args {O : SObjs} {ν : Nat → Nat} : ∀ {l : List AT} {xs : List SV} {i : Nat} {a : argsT l}, noBx l = true → toArgs O l xs = some a →
    ∃ ys, (xs.map (SV.av O)).mapM (lend (objsAV O O)) = some ys ∧ leE ys (argsAV ν l i a) ∧ ys.all nf = true
  | [], [], i, a, _, _ => ⟨[], rfl, leE.rfl' _, rfl⟩
  | [], _ :: _, i, a, _, h => by simp [toArgs] at h
  | _ :: _, [], i, a, _, h => by simp [toArgs] at h
  | .bx _ :: _, _ :: _, i, a, hb, h => by simp [noBx] at hb
  | .v c :: l, x :: xs, i, a, hb, h => by
    simp only [toArgs] at h
    split at h
    · rename_i p q h1 h2
      simp only [Option.some.injEq] at h; subst h
      obtain ⟨ys, k1, k2, k3⟩ := lend_args (l := l) (ν := ν) (i := i + 1) hb h2
      obtain ⟨y, g1, g2, g3⟩ := lend_arg (c := c) h1
      refine ⟨y :: ys, ?_, leE_cons g2 k2, by simp [g3, k3]⟩
      simp only [List.map_cons, List.mapM_cons, g1, k1]
      rfl
    · cases h

def bxPos : List AT → Nat → List Nat
  | [], _ => []
  | .bx _ :: l, i => i :: bxPos l (i + 1)
  | .v _ :: l, i => bxPos l (i + 1)

theorem firstC_cons {x : CV} {l : List CV} (h : firstC (x :: l) = none) : (∀ n, x ≠ .own n) ∧ (∀ n a b c, x ≠ .msl n a b c) ∧ firstC l = none := by
  cases x <;> simp_all [firstC]
theorem firstC_app {a b : List CV} (hab : firstC (a ++ b) = none) : firstC a = none ∧ firstC b = none := by
  induction a with
  | nil => exact ⟨rfl, hab⟩
  | cons x a ih => cases x <;> simp only [List.cons_append, firstC, reduceCtorEq] at hab <;> simp only [firstC] <;> exact ih hab

/-- Arguments as they are given. -/
theorem give_args {O : SObjs} {ν : Nat → Nat} : ∀ {l : List AT} {xs : List SV} {i : Nat} {a : argsT l}, toArgs O l xs = some a → firstC (xs.flatMap cellsOfS) = none → (bxPos l i).map ν = bxNames l xs →
    leE (xs.map (SV.av O)) (argsAV ν l i a) ∧ (xs.map (SV.av O)).all argOk = true ∧ refsOf (xs.map (SV.av O)) = bxNames l xs ∧ (∀ n ∈ bxNames l xs, ∃ cs, lookS n O = some (.box cs) ∧ cs.all plainCC = true) ∧
      leOs (lookAll (bxNames l xs) (objsAV O O)) (osAV ν l i a)
  | [], [], i, a, _, _, _ => ⟨leE.rfl' _, rfl, rfl, by simp [bxNames], trivial⟩
  | [], _ :: _, i, a, h, _, _ => by simp [toArgs] at h
  | _ :: _, [], i, a, h, _, _ => by simp [toArgs] at h
  | .v c :: l, x :: xs, i, a, h, hf, hν => by
    simp only [toArgs] at h
    split at h
    · rename_i p q h1 h2
      simp only [Option.some.injEq] at h; subst h
      simp only [List.flatMap_cons] at hf
      obtain ⟨f1, f2⟩ := firstC_app hf
      obtain ⟨k1, k2, k3, k4, k5⟩ := give_args (l := l) (ν := ν) (i := i + 1) h2 f2 hν
      have hx : leS (x.av O) (c.av p) ∧ argOk (x.av O) = true ∧ refsOf [x.av O] = [] := by
        have h1 : toCT O c x = some p := h1
        cases c with
        | ty t =>
          cases x with
          | tup l => simp [toCT] at h1
          | v x =>
            cases x with
            | g l => simp [toCT] at h1
            | c y =>
              simp only [toCT] at h1
              have hno : ∀ n, y ≠ .own n := by
                intro n e; subst e; simp [cellsOfS, firstC] at f1
              rcases toT_cases h1 with ⟨n, e⟩ | ⟨hn, hnf, _⟩
              · exact absurd e (hno n)
              · have hle := toT_le h1 hn
                show leS (y.av O) (t.av p) ∧ argOk (y.av O) = true ∧ refsOf [y.av O] = []
                cases hxa : y.av O with
                | agg l => exact absurd hxa (not_agg.1 l)
                | tup l => exact absurd hxa (not_agg.2 l)
                | msl => rw [hxa] at hnf; simp [nfC] at hnf
                | ref => rw [hxa] at hnf; simp [nfC] at hnf
                | _ =>
                  rw [hxa] at hle
                  exact ⟨hle, rfl, rfl⟩
        | ag ts =>
          cases x with
          | tup l => simp [toCT] at h1
          | v x =>
            cases x with
            | c y => simp [toCT] at h1
            | g l' =>
              simp only [toCT] at h1
              obtain ⟨g1, g2, _⟩ := toKVs_av (O := O) h1
              have hnf := nfV_of (O := O) g2
              exact ⟨.inr ⟨_, rfl, g1⟩, hnf, rfl⟩
      refine ⟨leE_cons hx.1 k1, by simp only [List.map_cons, List.all_cons, hx.2.1, k2, Bool.and_self], ?_, k4, k5⟩
      have e1 : refsOf ((x :: xs).map (SV.av O)) = refsOf [x.av O] ++ refsOf (xs.map (SV.av O)) := by
        simp only [refsOf, List.map_cons, ← List.filterMap_append, List.singleton_append]
      rw [e1, hx.2.2, k3]; rfl
    · cases h
  | .bx ts :: l, x :: xs, i, a, h, hf, hν => by
    simp only [toArgs] at h
    split at h
    · rename_i p q h1 h2
      simp only [Option.some.injEq] at h; subst h
      simp only [List.flatMap_cons] at hf
      obtain ⟨f1, f2⟩ := firstC_app hf
      have hxx : ∃ n sz, x = .v (.c (.ref n sz 0 0)) := by
        cases x with
        | tup l => simp [toAT] at h1
        | v x =>
          cases x with
          | g l => simp [toAT] at h1
          | c y =>
            cases y with
            | ref n sz i off =>
              cases i with
              | succ i => simp [toAT] at h1
              | zero =>
                cases off with
                | succ off => simp [toAT] at h1
                | zero => exact ⟨n, sz, rfl⟩
            | _ => simp [toAT] at h1
      obtain ⟨n, sz, rfl⟩ := hxx
      · simp only [toAT] at h1
        split at h1
        case isFalse => cases h1
        rename_i hsz
        split at h1
        case h_2 => cases h1
        rename_i cs hcs
        simp only [bxPos, List.map_cons, bxNames, List.cons.injEq] at hν
        obtain ⟨hνi, hν⟩ := hν
        obtain ⟨k1, k2, k3, k4, k5⟩ := give_args (l := l) (ν := ν) (i := i + 1) h2 f2 hν
        obtain ⟨g1, g2, _⟩ := toKVs_av (O := O) h1
        refine ⟨leE_cons ?_ k1, ?_, ?_, ?_, ?_⟩
        · show leS (AV.ref n sz 0 0) (.ref (ν i) _ 0 0)
          rw [hνi, hsz]; exact .rfl' _
        · have : argOk ((SV.v (.c (.ref n sz 0 0))).av O) = true := rfl
          simp only [List.map_cons, List.all_cons, this, k2, Bool.and_self]
        · have e1 : refsOf ((SV.v (.c (.ref n sz 0 0)) :: xs).map (SV.av O)) = n :: refsOf (xs.map (SV.av O)) := rfl
          rw [e1, k3]; rfl
        · intro m hm
          simp only [bxNames, List.mem_cons] at hm
          rcases hm with rfl | hm
          · exact ⟨cs, hcs, g2⟩
          · exact k4 m hm
        · have e2 : lookAll (bxNames (.bx ts :: l) (SV.v (.c (.ref n sz 0 0)) :: xs)) (objsAV O O) = (n, .box (cs.map (CV.av O))) :: lookAll (bxNames l xs) (objsAV O O) := by
            simp only [bxNames, lookAll, List.filterMap_cons, lookS_av, hcs, Option.map_some, SO.av]
          rw [e2]
          exact ⟨hνi.symm, g1, k5⟩
    · cases h

theorem csv_av {O : SObjs} (c : CT) (x : c.T) : (c.sv x).av O = c.av x := by
  cases c with
  | ty t => exact kv_av t x
  | ag ts => simp only [CT.sv, SV.av, VV.av, CT.av, kvs_cav]
theorem cvv_av {O : SObjs} (c : CT) (x : c.T) : (c.vv x).av O = c.av x := by
  cases c with
  | ty t => exact kv_av t x
  | ag ts => simp only [CT.vv, VV.av, CT.av, kvs_cav]
theorem vvs_av {O : SObjs} : ∀ (l : List CT) (x : compsT l), (vvs l x).map (VV.av O) = compsAV l x
  | [], _ => rfl
  | c :: l, x => by simp only [vvs, compsAV, List.map_cons, cvv_av, vvs_av l]

theorem setBoxes_no : ∀ {l : List AT} {xs : List SV} {o : outsT (bxsOf l)} {O : SObjs}, noBx l = true → setBoxes l xs o O = O
  | [], xs, o, O, _ => by cases xs <;> rfl
  | .v _ :: l, [], o, O, h => rfl
  | .v _ :: l, _ :: xs, o, O, h => setBoxes_no (l := l) h
  | .bx _ :: _, _, _, _, h => by simp [noBx] at h

theorem ground_t : ∀ (t : Ty) (x : t.T), gTy t = true → groundC (t.av x) = true
  | .int _, _, _ => rfl
  | .bool, _, _ => rfl
  | .str, _, _ => rfl
  | .sl _, _, h => by simp [gTy] at h
theorem ground_ts : ∀ (ts : Tys) (x : ts.T), gTys ts = true → (ts.avs x).all groundC = true
  | .nil, _, _ => rfl
  | .cons t ts, x, h => by
    simp only [gTys, Bool.and_eq_true] at h
    simp only [Tys.avs, List.all_cons, ground_t t _ h.1, ground_ts ts _ h.2, Bool.and_self]
theorem ground_c (c : CT) (x : c.T) (h : gCT c = true) : (match c.av x with | .agg l => l.all groundC | y => groundC y) = true ∧ (∀ l, c.av x ≠ .tup l) := by
  cases c with
  | ty t =>
    have := ground_t t x h
    refine ⟨?_, ?_⟩
    · show (match t.av x with | .agg l => l.all groundC | y => groundC y) = true
      cases hx : t.av x with
      | agg l => rw [hx] at this; simp [groundC] at this
      | _ => rw [hx] at this; exact this
    · intro l e
      have e : t.av x = .tup l := e
      rw [e] at this; simp [groundC] at this
  | ag ts => exact ⟨ground_ts ts x h, by simp [CT.av]⟩
theorem ground_r (r : RT) (x : r.T) (h : gRT r = true) : ground (r.av x) = true ∧ r.new x = none ∧ (∀ d, rename d (r.av x) = r.av x) ∧ nf (r.av x) = true := by
  have key : ∀ y : AV, ground y = true → (∀ d, rename d y = y) ∧ nf y = true := by
    intro y hy
    have gn : ∀ l : List AV, l.all groundC = true → l.all nfC = true := fun l hl => by
      rw [List.all_eq_true] at hl ⊢
      intro z hz
      have := hl z hz
      cases z <;> simp_all [groundC, nfC]
    cases y with
    | msl => simp [ground, groundC] at hy
    | ref => simp [ground, groundC] at hy
    | agg l => exact ⟨fun _ => rfl, gn l hy⟩
    | tup l =>
      refine ⟨fun _ => rfl, ?_⟩
      simp only [ground, nf] at hy ⊢
      rw [List.all_eq_true] at hy ⊢
      intro z hz
      have := hy z hz
      cases z with
      | agg l => exact gn l this
      | _ => simp_all [groundC, nfV, nfC]
    | _ => first | exact ⟨fun _ => rfl, rfl⟩ | simp [ground, groundC] at hy
  cases r with
  | v c =>
    obtain ⟨h1, h2⟩ := ground_c c x h
    have hg : ground (c.av x) = true := by
      cases hx : c.av x with
      | tup l => exact absurd hx (h2 l)
      | _ => rw [hx] at h1; exact h1
    exact ⟨hg, rfl, key _ hg⟩
  | tup l =>
    have hg : ground (.tup (compsAV l x)) = true := by
      simp only [gRT] at h
      simp only [ground]
      have : ∀ (l : List CT) (x : compsT l), l.all gCT = true → (compsAV l x).all (fun x => match x with | .agg l => l.all groundC | x => groundC x) = true := by
        intro l
        induction l with
        | nil => intro _ _; rfl
        | cons c l ih =>
          intro x h
          simp only [List.all_cons, Bool.and_eq_true] at h
          simp only [compsAV, List.all_cons, Bool.and_eq_true]
          exact ⟨(ground_c c x.1 h.1).1, ih x.2 h.2⟩
      exact this l x h
    exact ⟨hg, rfl, key _ hg⟩
  | _ => simp [gRT] at h
end Go.Abs
