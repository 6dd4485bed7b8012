/- Plans: the state that is built anew covers what was there. -/
import Derived.Test.YtplngcjkghnkcaaExO
namespace Go.Abs
open Go.RowKit

theorem apartB_spec {a b : List Nat} (h : apartB a b = true) {x : Nat} (hx : x ∈ a) : x ∉ b := by
  unfold apartB at h
  rw [List.all_eq_true] at h
  have := h x hx
  simp only [Bool.not_eq_true'] at this
  intro hm
  have h2 : b.contains x = true := by simpa using hm
  rw [this] at h2; cases h2
theorem frozenE_mem {N : Nat} {s : SS} : ∀ {l : List (Nat × PSlot)} {i : Nat} {c : CT} {k : Nat}, (i, .d c) ∈ l → s.get N i = .v (.c (.own k)) → k ∈ frozenE N s l
  | [], i, c, k, h, _ => by simp at h
  | (j, p) :: l, i, c, k, h, hg => by
    rcases List.mem_cons.1 h with e | h
    · cases e
      simp only [frozenE, hg]; exact List.mem_cons_self ..
    · have := frozenE_mem h hg
      cases p with
      | d c' => simp only [frozenE]; split <;> simp [this]
      | _ => simp only [frozenE]; exact this
theorem frozenO_mem {μ : NMap} {O : SObjs} : ∀ {l : List (Nat × PObj)} {n k : Nat} {cs : List PC} {xs : List CV} {m : Nat}, (n, .box cs) ∈ l → lkN μ n = some (some k) → lookS k O = some (.box xs) → m ∈ frozenC cs xs → m ∈ frozenO μ O l
  | [], n, k, cs, xs, m, h, _, _, _ => by simp at h
  | (j, p) :: l, n, k, cs, xs, m, h, h1, h2, h3 => by
    rcases List.mem_cons.1 h with e | h
    · cases e
      simp only [frozenO, h1, h2, List.mem_append]; exact .inl h3
    · have := frozenO_mem h h1 h2 h3
      cases p with
      | arr ts => exact this
      | box cs' =>
        simp only [frozenO]
        split
        · split
          · exact List.mem_append.2 (.inr this)
          · exact this
        · exact this

/-- The names behind the building anew. -/
def newN (μ : NMap) (O' : SObjs) (D : Names) : Names := fun n =>
  if n < top then (match lookS n O' with
    | some _ => (match lkN μ n with | some (some k) => D k | some none => some none | none => none)
    | none => none)
  else D n

section
variable {N : Nat} {pins : List Nat} {p : Plan} {s : SS} {z : p.T} {w0 w : World} {M0 : Nat → Prop} {D : Names} {μ : NMap}

theorem newN_M {O' : SObjs} {b : Nat} (h : (newN μ O' D).M b) : ∃ n, D n = some (some b) ∧ (n ∈ ranN μ ∨ top ≤ n) := by
  obtain ⟨n, hn⟩ := h
  unfold newN at hn
  split at hn
  · split at hn
    · split at hn
      · rename_i k hk; exact ⟨k, hn, .inl (ranN_mem hk)⟩
      · simp at hn
      · cases hn
    · cases hn
  · exact ⟨n, hn, .inr (by omega)⟩
theorem newN_lt {O' : SObjs} {n : Nat} (hn : n < top) {so : SO} (h : lookS n O' = some so) : newN μ O' D n = (match lkN μ n with | some (some k) => D k | some none => some none | none => none) := by
  simp only [newN, hn, if_true, h]

/-- A cell that is frozen or constant. -/
theorem cell_toT (hm : Mem w0 M0 (objsAV s.objs s.objs) D w) {O' : SObjs} {t : Ty} {x : CV} {a : t.T} (h : toT s.objs t x = some a) (hf : ∀ k, x = .own k → k ∉ ranN μ) {v : Value} (hv : Cell w D (x.av s.objs) v) :
    Cell w (newN μ O' D) (t.av a) v := by
  have low : ∀ b, b < w.heap.size → (newN μ O' D).M b → D.M b := fun b _ hb => by obtain ⟨n, h1, _⟩ := newN_M hb; exact ⟨n, h1⟩
  rcases toT_cases h with ⟨n, rfl⟩ | ⟨hn, hnf, _⟩
  · obtain ⟨ts, l, hl, e⟩ := toT_own h
    rw [e]
    have hlk : look n (objsAV s.objs s.objs) = some (.arr ts.len (l.map ts.avs)) := by rw [lookS_av, hl]; rfl
    have hav : (CV.own n).av s.objs = .msl n ts.len 0 l.length := by simp [CV.av, hl]
    rw [hav] at hv
    have hview : viewSl (objsAV s.objs s.objs) ts.len (.msl n ts.len 0 l.length) = some (l.map ts.avs) := by
      have e2 : List.take l.length (List.map ts.avs l) = List.map ts.avs l := List.take_of_length_le (by simp)
      simp [viewSl, hlk, e2]
    have hrep := viewSl_sound hm hview hv.slot
    refine slice_imm (D := D) hrep (fun b o k cap hv2 hne hM => ?_) low
    -- the block would be named twice
    obtain ⟨m, h1, h2⟩ := newN_M hM
    have hDn : D n = some (some b) := by
      rcases hv with ⟨_, h3, h4⟩ | ⟨b', cap', N', h3, h4, _⟩
      · have : l = [] := List.length_eq_zero_iff.1 h3
        subst this
        exact absurd rfl hne
      · rw [h4] at hv2
        have : b' = b := by injection hv2 with e1 e2 e3; injection e1 with e1; injection e1
        rw [← this]; exact h3
    have hnm := hm.inj m n b h1 hDn
    subst hnm
    rcases h2 with h2 | h2
    · exact hf m rfl h2
    · have := hm.small m (by rw [hlk]; rfl)
      omega
  · have hle := toT_le h hn
    have hv' : Imm w D.M (x.av s.objs) v := by
      cases hx : x.av s.objs with
      | msl => rw [hx] at hnf; simp [nfC] at hnf
      | ref => rw [hx] at hnf; simp [nfC] at hnf
      | _ => rw [hx] at hv; exact hv
    have := (leC_imm hle hv').mono (Grow.refl w _).toKeep low
    exact this.cell

theorem imm_low {O' : SObjs} : ∀ b, b < w.heap.size → (newN μ O' D).M b → D.M b := fun b _ hb => by obtain ⟨n, h1, _⟩ := newN_M hb; exact ⟨n, h1⟩

theorem cells_toKVs {O' : SObjs} : ∀ {ts : Tys} {cs : List CV} {x : ts.T}, toKVs ts cs = some x → ∀ {vs : List Value}, vs.length = cs.length →
    (∀ (i : Nat) (y : AV), (cs.map (CV.av s.objs))[i]? = some y → Cell w D y (vs.getD i undef) ∧ (vs.getD i undef).oneCell' = true) →
    (∀ (i : Nat) (y : AV), (ts.avs x)[i]? = some y → Cell w (newN μ O' D) y (vs.getD i undef) ∧ (vs.getD i undef).oneCell' = true) := by
  intro ts cs x h vs hl hc i y hy
  obtain ⟨h1, h2, _⟩ := toKVs_av (O := s.objs) h
  obtain ⟨a, ha, hle⟩ := h1.2 i y hy
  obtain ⟨g1, g2⟩ := hc i a ha
  refine ⟨?_, g2⟩
  have hp : plainC a = true := List.all_eq_true.1 (plainCC_all (O := s.objs) h2) a (List.mem_of_getElem? ha)
  exact ((leC_imm hle (plainC_imm g1 hp)).mono (Grow.refl w _).toKeep imm_low).cell

theorem decC_d {O : SObjs} {t : Ty} {cs : List PC} {x : CV} {xs : List CV} {y : (dtsP (.d t :: cs)).T} (h : decC O (.d t :: cs) (x :: xs) = some y) : ∃ a b, toT O t x = some a ∧ decC O cs xs = some b ∧ y = (a, b) := by
  have h : (match toT O t x, decC O cs xs with
    | some a, some b => some (a, b)
    | _, _ => none : Option (t.T × (dtsP cs).T)) = some y := h
  split at h
  · rename_i a b h1 h2
    exact ⟨a, b, h1, h2, (Option.some.inj h).symm⟩
  · cases h
theorem decC_len {O : SObjs} : ∀ {cs : List PC} {xs : List CV} {y : (dtsP cs).T}, decC O cs xs = some y → xs.length = (encC cs y).length
  | [], [], y, _ => rfl
  | [], _ :: _, y, h => by cases (show (none : Option (dtsP []).T) = some y from h)
  | .d t :: cs, [], y, h => by cases (show (none : Option (dtsP (.d t :: cs)).T) = some y from h)
  | .own m :: cs, [], y, h => by cases (show (none : Option (dtsP (.own m :: cs)).T) = some y from h)
  | .d t :: cs, x :: xs, y, h => by
    obtain ⟨a, b, h1, h2, rfl⟩ := decC_d h
    exact congrArg (· + 1) (decC_len h2)
  | .own m :: cs, x :: xs, y, h => by
    exact congrArg (· + 1) (decC_len (y := y) (cs := cs) h)

/-- What an owned slice is behind the building anew. -/
theorem own_cell (hm : Mem w0 M0 (objsAV s.objs s.objs) D w) {O' : SObjs} (hO : ∀ n so, lookS n O' = some so → n < top ∧ ∃ l, ObjOk μ s.objs n l so) {m : Nat} {v : Value}
    (h : (∃ k, lkN μ m = some (some k) ∧ Cell w D ((CV.own k).av s.objs) v) ∨ (lkN μ m = some none ∧ v = .slice none 0 0)) :
    Cell w (newN μ O' D) ((CV.own m).av O') v := by
  simp only [CV.av]
  split
  · rename_i ts x hx
    obtain ⟨hmt, l, hob⟩ := hO m _ hx
    have hN := newN_lt (μ := μ) (D := D) hmt hx
    rcases hob with ⟨k, hk, hlk⟩ | ⟨hk, rfl⟩
    · rcases h with ⟨k', hk', hv⟩ | ⟨hk', _⟩
      · rw [hk] at hk'; cases hk'
        simp only [CV.av, hlk] at hv
        rcases hv with ⟨h1, h2⟩ | ⟨b, cap, N', h1, h2⟩
        · exact .inl ⟨by rw [hN, hk]; exact h1, h2⟩
        · exact .inr ⟨b, cap, N', by rw [hN, hk]; exact h1, h2⟩
      · rw [hk] at hk'; cases hk'
    · rcases h with ⟨k', hk', _⟩ | ⟨_, hv⟩
      · rw [hk] at hk'; cases hk'
      · exact .inl ⟨by rw [hN, hk]; rfl, rfl, none, hv⟩
  · exact imm_any _ _ _

theorem box_cells (hm : Mem w0 M0 (objsAV s.objs s.objs) D w) {O' : SObjs} (hO : ∀ n so, lookS n O' = some so → n < top ∧ ∃ l, ObjOk μ s.objs n l so) :
    ∀ {cs : List PC} {xs : List CV} {y : (dtsP cs).T} {vs : List Value}, decC s.objs cs xs = some y → CellsOk μ cs xs → (∀ m ∈ frozenC cs xs, m ∉ ranN μ) → vs.length = xs.length →
    (∀ (i : Nat) (a : AV), (xs.map (CV.av s.objs))[i]? = some a → Cell w D a (vs.getD i undef) ∧ (vs.getD i undef).oneCell' = true) →
    (∀ (i : Nat) (a : AV), ((encC cs y).map (CV.av O'))[i]? = some a → Cell w (newN μ O' D) a (vs.getD i undef) ∧ (vs.getD i undef).oneCell' = true)
  | [], [], y, vs, _, _, _, _, _ => by intro i a h; cases (show (none : Option AV) = some a by rw [← h]; rfl)
  | .d t :: cs, x :: xs, y, [], _, _, _, hl, _ => by simp at hl
  | .d t :: cs, x :: xs, y, v :: vs, h, hc, hf, hl, hv => by
    obtain ⟨a, b, h1, h2, rfl⟩ := decC_d h
    · cases hc with
      | d hc =>
        have hf' : ∀ m ∈ frozenC cs xs, m ∉ ranN μ := fun m hmem => hf m (by cases x <;> simp only [frozenC, List.mem_cons, hmem, or_true])
        intro i c hi
        cases i with
        | zero =>
          simp only [encC, List.map_cons, List.getElem?_cons_zero, Option.some.injEq] at hi; subst hi
          obtain ⟨g1, g2⟩ := hv 0 (x.av s.objs) (by rw [List.map_cons, List.getElem?_cons_zero])
          refine ⟨?_, g2⟩
          have := cell_toT (μ := μ) (O' := O') hm h1 (fun k e => by subst e; exact hf k (by simp [frozenC])) g1
          show Cell w _ (t.kv a).av _
          rw [kv_av]; exact this
        | succ i =>
          simp only [encC, List.map_cons, List.getElem?_cons_succ] at hi
          have := box_cells hm hO (vs := vs) h2 hc hf' (by simpa using hl) (fun i a ha => by simpa using hv (i + 1) a (by simpa using ha)) i c hi
          simpa using this
  | .own m :: cs, x :: xs, y, [], _, _, _, hl, _ => by simp at hl
  | .own m :: cs, x :: xs, y, v :: vs, h, hc, hf, hl, hv => by
    have h : decC s.objs cs xs = some y := h
    have hx : ((∃ k, lkN μ m = some (some k) ∧ Cell w D ((CV.own k).av s.objs) v) ∨ (lkN μ m = some none ∧ v = .slice none 0 0)) ∧ CellsOk μ cs xs ∧ ∀ m ∈ frozenC cs xs, m ∉ ranN μ := by
      cases hc with
      | own hk hc => exact ⟨.inl ⟨_, hk, by simpa using (hv 0 _ (by rw [List.map_cons, List.getElem?_cons_zero])).1⟩, hc, fun m hmem => hf m (by simp [frozenC, hmem])⟩
      | nsl hk hc =>
        refine ⟨.inr ⟨hk, ?_⟩, hc, fun m hmem => hf m (by simp [frozenC, hmem])⟩
        have := (hv 0 .nsl (by simp [CV.av])).1
        simp only [Cell, List.getD_cons_zero] at this
        cases this; rfl
    intro i c hi
    cases i with
    | zero =>
      simp only [encC, List.map_cons, List.getElem?_cons_zero, Option.some.injEq] at hi; subst hi
      exact ⟨own_cell hm hO hx.1, (hv 0 (x.av s.objs) (by simp)).2⟩
    | succ i =>
      simp only [encC, List.map_cons, List.getElem?_cons_succ] at hi
      have := box_cells hm hO (vs := vs) h hx.2.1 hx.2.2 (by simpa using hl) (fun i a ha => by simpa using hv (i + 1) a (by simpa using ha)) i c hi
      simpa using this
  | [], _ :: _, y, vs, h, _, _, _, _ => by cases (show (none : Option (dtsP []).T) = some y from h)
  | .d t :: cs, [], y, vs, h, _, _, _, _ => by cases (show (none : Option (dtsP (.d t :: cs)).T) = some y from h)
  | .own m :: cs, [], y, vs, h, _, _, _, _ => by cases (show (none : Option (dtsP (.own m :: cs)).T) = some y from h)
end

theorem dec_weaker {N : Nat} {pins : List Nat} {p : Plan} {s : SS} {z : p.T} (h : p.dec N pins s = some z) : Weaker pins (s.st N) ((p.enc z).st N) := by
  unfold Plan.dec at h
  split at h
  · cases h
  rename_i μ1 h1
  split at h
  · cases h
  rename_i μ h2
  split at h
  case isFalse => cases h
  rename_i hcond
  obtain ⟨hok, hnd, hap⟩ := hcond
  obtain ⟨hE1, hE2⟩ := decE_spec h
  have hO0 := decO_spec hE1
  obtain ⟨m1, m2, m3⟩ := mapSlots_spec h1
  obtain ⟨m4, m5⟩ := mapObjs_spec h2
  unfold Plan.okP at hok
  simp only [Bool.and_eq_true] at hok
  obtain ⟨ok1, ok2, ok3⟩ := hok
  obtain ⟨ok4, ok5⟩ := slotsOk_spec ok2
  have hnd := nodupB_spec hnd
  rintro w0 M0 D0 a w hp ⟨hdf, D, hm, he, hpin⟩
  have hm : Mem w0 M0 (objsAV s.objs s.objs) D w := hm
  generalize hO' : encO p.objs (restE p.slots z) = O' at *
  have hO : ∀ n so, lookS n O' = some so → n < top ∧ ∃ l, ObjOk μ s.objs n l so := fun n so hl => by
    rw [← hO'] at hl
    exact ⟨encO_small ok1 n so hl, _, hO0 n so (by rw [← hO']; exact lookS_mem hl)⟩
  have hO2 : ∀ n so, lookS n O' = some so → ObjOk μ s.objs n p.objs so := fun n so hl => hO0 n so (lookS_mem hl)
  have htop : ∀ k, (lookS k s.objs).isSome = true → k < top := fun k hk => hm.small k (by rw [lookS_av]; revert hk; cases lookS k s.objs <;> simp)
  have hDk : ∀ k, (lookS k s.objs).isSome = true → (D k).isSome = true := fun k hk => by
    rw [hm.dom k (htop k hk), lookS_av]; revert hk; cases lookS k s.objs <;> simp
  have hkO : ∀ n so k, lookS n O' = some so → lkN μ n = some (some k) → (lookS k s.objs).isSome = true := by
    intro n so k hl hk
    have := hO2 n so hl
    cases so with
    | arr ts x =>
      rcases this with ⟨k', hk', hl'⟩ | ⟨hk', _⟩
      · rw [hk] at hk'; cases hk'; rw [hl']; rfl
      · rw [hk] at hk'; cases hk'
    | box ys =>
      obtain ⟨cs, xs, k', y, _, hk', hl', _⟩ := this
      rw [hk] at hk'; cases hk'; rw [hl']; rfl
  have hst : ((p.enc z).st N).objs = objsAV O' O' := by
    show objsAV (p.enc z).objs (p.enc z).objs = _
    simp only [Plan.enc, hO']
  refine ⟨hdf, newN μ O' D, ?_, ?_, ?_⟩
  · rw [hst]
    refine ⟨fun n hn => ?_, fun n hn => ?_, fun n o' d ho' hD => ?_, fun n m b e1 e2 => ?_, fun b hb => ?_, fun b hb => ?_, hm.grow, hm.os, hm.tape, hm.output⟩
    · rw [lookS_av]
      cases hl : lookS n O' with
      | none => simp [newN, hn, hl]
      | some so =>
        rw [newN_lt hn hl]
        have := hO2 n so hl
        cases so with
        | arr ts x =>
          rcases this with ⟨k, hk, hl'⟩ | ⟨hk, _⟩
          · simp only [hk]; rw [hDk k (by rw [hl']; rfl)]; rfl
          · simp only [hk]; rfl
        | box ys =>
          obtain ⟨cs, xs, k, y, _, hk, hl', _⟩ := this
          simp only [hk]; rw [hDk k (by rw [hl']; rfl)]; rfl
    · rw [lookS_av] at hn
      cases hl : lookS n O' with
      | none => rw [hl] at hn; simp at hn
      | some so => exact (hO n so hl).1
    · rw [lookS_av] at ho'
      cases hl : lookS n O' with
      | none => rw [hl] at ho'; simp at ho'
      | some so =>
        rw [hl] at ho'
        simp only [Option.map_some, Option.some.injEq] at ho'; subst ho'
        have hnt := (hO n so hl).1
        rw [newN_lt hnt hl] at hD
        have := hO2 n so hl
        cases so with
        | arr ts x =>
          rcases this with ⟨k, hk, hl'⟩ | ⟨hk, rfl⟩
          · simp only [hk] at hD
            have hr := hm.rep k (.arr ts.len (x.map ts.avs)) d (by rw [lookS_av, hl']; rfl) hD
            exact arrRep_lower hr imm_low
          · simp only [hk, Option.some.injEq] at hD; subst hD
            rfl
        | box ys =>
          obtain ⟨cs, xs, k, y, rfl, hk, hl', hdec, hmem⟩ := this
          simp only [hk] at hD
          have hr := hm.rep k (.box (xs.map (CV.av s.objs))) d (by rw [lookS_av, hl']; rfl) hD
          obtain ⟨k2, xs2, hk2, hl2, hcells⟩ := m5 n cs hmem
          rw [hk] at hk2; cases hk2
          rw [hl'] at hl2; cases hl2
          cases d with
          | none => exact hr.elim
          | some b =>
            obtain ⟨vs, T, g1, g2, g3⟩ := hr
            have hlen : vs.length = xs.length := by rw [g2, List.length_map]
            refine ⟨vs, T, g1, by rw [hlen, List.length_map]; exact decC_len hdec, ?_⟩
            exact box_cells hm hO hdec hcells (fun m hmf => apartB_spec hap (List.mem_append.2 (.inr (frozenO_mem hmem hk hl' hmf)))) hlen g3
    · -- different names, different blocks
      have key : ∀ n, newN μ O' D n = some (some b) → (n < top ∧ ∃ k, lkN μ n = some (some k) ∧ D k = some (some b) ∧ k < top) ∨ (top ≤ n ∧ D n = some (some b)) := by
        intro n hn
        rcases Nat.lt_or_ge n top with hlt | hge
        · refine .inl ⟨hlt, ?_⟩
          simp only [newN, hlt, if_true] at hn
          split at hn
          · rename_i so hl
            split at hn
            · rename_i k hk; exact ⟨k, hk, hn, htop k (hkO n so k hl hk)⟩
            · simp at hn
            · cases hn
          · cases hn
        · refine .inr ⟨hge, ?_⟩
          simpa [newN, Nat.not_lt.2 hge] using hn
      rcases key n e1 with ⟨_, k1, q1, q2, q3⟩ | ⟨q1, q2⟩
      · rcases key m e2 with ⟨_, k2, r1, r2, r3⟩ | ⟨r1, r2⟩
        · have := hm.inj k1 k2 b q2 r2
          subst this
          exact ranN_inj hnd q1 r1
        · have := hm.inj k1 m b q2 r2; omega
      · rcases key m e2 with ⟨_, k2, r1, r2, r3⟩ | ⟨r1, r2⟩
        · have := hm.inj n k2 b q2 r2; omega
        · exact hm.inj n m b q2 r2
    · obtain ⟨n, h1, _⟩ := newN_M hb; exact hm.lt b ⟨n, h1⟩
    · obtain ⟨n, hn, h1⟩ := hb
      simp only [newN, hn, if_true] at h1
      split at h1
      · rename_i so hl
        split at h1
        · rename_i k hk; exact hm.own b ⟨k, htop k (hkO n so k hl hk), h1⟩
        · simp at h1
        · cases h1
      · cases h1
  · -- the slots
    refine ⟨by rw [st_len, he.1, st_len], fun i y hy => ?_⟩
    simp only [SS.st, List.getElem?_map] at hy
    obtain ⟨j, hj, rfl⟩ := Option.map_eq_some_iff.1 hy
    have hji : j = i ∧ i < N := by
      by_cases hi : i < N
      · rw [List.getElem?_range hi] at hj
        simp only [Option.some.injEq] at hj
        exact ⟨hj.symm, hi⟩
      · rw [List.getElem?_eq_none (by simpa using hi)] at hj; cases hj
    obtain ⟨rfl, hi⟩ := hji
    have hold : Slot w D ((s.get N j).av s.objs) (a.tmps.getD j undef) := by
      refine he.2 j _ ?_
      simp only [SS.st, List.getElem?_map, List.getElem?_range hi, Option.map_some, SS.get, hi, if_true]
    show Slot w _ ((lkE (encE p.slots z) j).av (encO p.objs (restE p.slots z))) _
    rw [hO']
    rcases lkE_mem (E := encE p.slots z) (n := j) with e | hmem
    · rw [e]; exact slot_any _ _ _
    · rcases hE2 j _ hmem with ⟨c, x, e1, e2, e3⟩ | ⟨m, e1, e2⟩ | ⟨m, sz, e1, e2⟩
      · rw [e1, csv_av]
        have hfz : ∀ k, s.get N j = .v (.c (.own k)) → k ∉ ranN μ := fun k hk => apartB_spec hap (List.mem_append.2 (.inl (frozenE_mem e3 hk)))
        generalize s.get N j = g at *
        cases c with
        | ty t =>
          cases g with
          | tup l => simp [toCT] at e2
          | v y =>
            cases y with
            | g l => simp [toCT] at e2
            | c y =>
              have e2 : toT s.objs t y = some x := e2
              have hcell : Cell w D (y.av s.objs) (a.tmps.getD j undef) := by
                simp only [SV.av, VV.av] at hold
                cases hy : y.av s.objs with
                | agg l => exact absurd hy (not_agg.1 l)
                | tup l => exact absurd hy (not_agg.2 l)
                | _ => rw [hy] at hold; exact hold
              exact (cell_toT hm e2 (fun k hk => hfz k (by rw [hk])) hcell).slot
        | ag ts =>
          cases g with
          | tup l => simp [toCT] at e2
          | v y =>
            cases y with
            | c y => simp [toCT] at e2
            | g l =>
              have e2 : toKVs ts l = some x := e2
              obtain ⟨vs, g1, g2, g3⟩ := hold
              refine ⟨vs, g1, ?_, ?_⟩
              · rw [g2, List.length_map, (toKVs_av (O := s.objs) e2).2.2, avs_len]
              · exact cells_toKVs e2 (by rw [g2, List.length_map]) g3
      · rw [e1]
        have := m2 j m e2
        refine Cell.slot (own_cell hm hO ?_)
        rcases this with ⟨k, hk, hk2⟩ | ⟨hk, hk2⟩
        · refine .inl ⟨k, m4 _ _ hk2, ?_⟩
          rw [hk] at hold
          simp only [SV.av, VV.av] at hold
          cases hy : (CV.own k).av s.objs with
          | agg l => exact absurd hy (not_agg.1 l)
          | tup l => exact absurd hy (not_agg.2 l)
          | _ => rw [hy] at hold; exact hold
        · refine .inr ⟨m4 _ _ hk2, ?_⟩
          rw [hk] at hold
          exact slot_nsl hold
      · rw [e1]
        obtain ⟨k, hk, hk2⟩ := m3 j m sz e2
        rw [hk] at hold
        obtain ⟨b, h3, h4⟩ := hold
        have hob := ok4 j m sz e2
        obtain ⟨so, hso⟩ := Option.isSome_iff_exists.1 (hasObj_spec (restE p.slots z) hob)
        rw [hO'] at hso
        refine ⟨b, ?_, h4⟩
        rw [newN_lt (hO m so hso).1 hso, m4 _ _ hk2]
        exact h3
  · intro n d hn
    obtain ⟨q1, q2⟩ := hpin n d hn
    rcases Nat.lt_or_ge n top with hlt | hge
    · have hnp := hp n hlt (by rw [hn]; rfl)
      rw [List.all_eq_true] at ok3
      obtain ⟨cs, hcs⟩ := hasBox_spec (restE p.slots z) (ok3 n hnp)
      rw [hO'] at hcs
      refine ⟨?_, fun _ => ?_⟩
      · rw [newN_lt hlt hcs, m4 _ _ (m1 _ _ (pinMap_spec hnp))]
        exact q1
      · rw [hst, lookS_av, hcs]
        exact ⟨_, rfl⟩
    · refine ⟨?_, fun h => by omega⟩
      simp only [newN, Nat.not_lt.2 hge, if_false]; exact q1
end Go.Abs
