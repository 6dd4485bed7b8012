/- Plans: what is read out of a state says no more than the state. -/
import Derived.Test.YtplngcjkghnkcaaExN
namespace Go.Abs
open Go.RowKit

theorem addN_spec {μ μ' : NMap} {n : Nat} {x : Option Nat} (h : addN μ n x = some μ') : lkN μ' n = some x ∧ ∀ m y, lkN μ m = some y → lkN μ' m = some y := by
  unfold addN at h
  split at h
  · rename_i hn
    simp only [Option.some.injEq] at h; subst h
    refine ⟨by simp [lkN], fun m y hm => ?_⟩
    have : n ≠ m := by rintro rfl; rw [hn] at hm; cases hm
    simp [lkN, this, hm]
  · rename_i y hy
    split at h
    · rename_i a b
      split at h
      · rename_i e
        subst e
        simp only [Option.some.injEq] at h; subst h
        exact ⟨hy, fun _ _ h => h⟩
      · cases h
    · simp only [Option.some.injEq] at h; subst h
      exact ⟨hy, fun _ _ h => h⟩
    · cases h
def NLe (μ μ' : NMap) : Prop := ∀ m y, lkN μ m = some y → lkN μ' m = some y
theorem mapSlots_spec {N : Nat} {s : SS} : ∀ {l : List (Nat × PSlot)} {μ μ' : NMap}, mapSlots N s l μ = some μ' → NLe μ μ' ∧
    (∀ i m, (i, .own m) ∈ l → (∃ k, s.get N i = .v (.c (.own k)) ∧ lkN μ' m = some (some k)) ∨ (s.get N i = .v (.c .nsl) ∧ lkN μ' m = some none)) ∧
    (∀ i m sz, (i, .ref m sz) ∈ l → ∃ k, s.get N i = .v (.c (.ref k sz 0 0)) ∧ lkN μ' m = some (some k))
  | [], μ, μ', h => by simp only [mapSlots, Option.some.injEq] at h; subst h; exact ⟨fun _ _ h => h, by simp, by simp⟩
  | (i, .d c) :: l, μ, μ', h => by
    obtain ⟨h1, h2, h3⟩ := mapSlots_spec (l := l) h
    exact ⟨h1, fun j m hm => h2 j m (by simpa using hm), fun j m sz hm => h3 j m sz (by simpa using hm)⟩
  | (i, .own m) :: l, μ, μ', h => by
    simp only [mapSlots] at h
    split at h
    · rename_i k hk
      split at h
      · rename_i μ1 h1
        obtain ⟨g1, g2⟩ := addN_spec h1
        obtain ⟨k1, k2, k3⟩ := mapSlots_spec (l := l) h
        refine ⟨fun a y hy => k1 a y (g2 a y hy), fun j m' hm => ?_, fun j m' sz hm => k3 j m' sz (by simpa using hm)⟩
        simp only [List.mem_cons, Prod.mk.injEq, PSlot.own.injEq] at hm
        rcases hm with ⟨rfl, rfl⟩ | hm
        · exact .inl ⟨k, hk, k1 _ _ g1⟩
        · exact k2 j m' hm
      · cases h
    · rename_i hk
      split at h
      · rename_i μ1 h1
        obtain ⟨g1, g2⟩ := addN_spec h1
        obtain ⟨k1, k2, k3⟩ := mapSlots_spec (l := l) h
        refine ⟨fun a y hy => k1 a y (g2 a y hy), fun j m' hm => ?_, fun j m' sz hm => k3 j m' sz (by simpa using hm)⟩
        simp only [List.mem_cons, Prod.mk.injEq, PSlot.own.injEq] at hm
        rcases hm with ⟨rfl, rfl⟩ | hm
        · exact .inr ⟨hk, k1 _ _ g1⟩
        · exact k2 j m' hm
      · cases h
    · cases h
  | (i, .ref m sz) :: l, μ, μ', h => by
    simp only [mapSlots] at h
    split at h
    · rename_i k sz' hk
      split at h
      · rename_i e
        subst e
        split at h
        · rename_i μ1 h1
          obtain ⟨g1, g2⟩ := addN_spec h1
          obtain ⟨k1, k2, k3⟩ := mapSlots_spec (l := l) h
          refine ⟨fun a y hy => k1 a y (g2 a y hy), fun j m' hm => k2 j m' (by simpa using hm), fun j m' sz' hm => ?_⟩
          simp only [List.mem_cons, Prod.mk.injEq, PSlot.ref.injEq] at hm
          rcases hm with ⟨rfl, rfl, rfl⟩ | hm
          · exact ⟨k, hk, k1 _ _ g1⟩
          · exact k3 j m' sz' hm
        · cases h
      · cases h
    · cases h
/-- the cells of a box, as a plan has them -/
inductive CellsOk (μ : NMap) : List PC → List CV → Prop
  | nil : CellsOk μ [] []
  | d {t : Ty} {x : CV} {l : List PC} {xs : List CV} (h : CellsOk μ l xs) : CellsOk μ (.d t :: l) (x :: xs)
  | own {m k : Nat} {l : List PC} {xs : List CV} (hk : lkN μ m = some (some k)) (h : CellsOk μ l xs) : CellsOk μ (.own m :: l) (.own k :: xs)
  | nsl {m : Nat} {l : List PC} {xs : List CV} (hk : lkN μ m = some none) (h : CellsOk μ l xs) : CellsOk μ (.own m :: l) (.nsl :: xs)
theorem CellsOk.mono {μ μ' : NMap} (hle : NLe μ μ') {l : List PC} {xs : List CV} (h : CellsOk μ l xs) : CellsOk μ' l xs := by
  induction h with
  | nil => exact .nil
  | d _ ih => exact .d ih
  | own hk _ ih => exact .own (hle _ _ hk) ih
  | nsl hk _ ih => exact .nsl (hle _ _ hk) ih
theorem mapCells_spec : ∀ {l : List PC} {xs : List CV} {μ μ' : NMap}, mapCells l xs μ = some μ' → NLe μ μ' ∧ CellsOk μ' l xs
  | [], [], μ, μ', h => by simp only [mapCells, Option.some.injEq] at h; subst h; exact ⟨fun _ _ h => h, .nil⟩
  | [], _ :: _, μ, μ', h => by simp [mapCells] at h
  | .d t :: l, [], μ, μ', h => by simp [mapCells] at h
  | .d t :: l, x :: xs, μ, μ', h => by
    simp only [mapCells] at h
    obtain ⟨h1, h2⟩ := mapCells_spec h
    exact ⟨h1, .d h2⟩
  | .own m :: l, [], μ, μ', h => by simp [mapCells] at h
  | .own m :: l, x :: xs, μ, μ', h => by
    cases x with
    | own k =>
      simp only [mapCells] at h
      split at h
      · rename_i μ1 h1
        obtain ⟨g1, g2⟩ := addN_spec h1
        obtain ⟨k1, k2⟩ := mapCells_spec h
        exact ⟨fun a y hy => k1 a y (g2 a y hy), .own (k1 _ _ g1) k2⟩
      · cases h
    | nsl =>
      simp only [mapCells] at h
      split at h
      · rename_i μ1 h1
        obtain ⟨g1, g2⟩ := addN_spec h1
        obtain ⟨k1, k2⟩ := mapCells_spec h
        exact ⟨fun a y hy => k1 a y (g2 a y hy), .nsl (k1 _ _ g1) k2⟩
      · cases h
    | _ => simp [mapCells] at h
theorem mapObjs_spec {O : SObjs} : ∀ {l : List (Nat × PObj)} {μ μ' : NMap}, mapObjs O l μ = some μ' → NLe μ μ' ∧
    ∀ n cs, (n, .box cs) ∈ l → ∃ k xs, lkN μ' n = some (some k) ∧ lookS k O = some (.box xs) ∧ CellsOk μ' cs xs
  | [], μ, μ', h => by simp only [mapObjs, Option.some.injEq] at h; subst h; exact ⟨fun _ _ h => h, by simp⟩
  | (n, .arr ts) :: l, μ, μ', h => by
    obtain ⟨h1, h2⟩ := mapObjs_spec (l := l) h
    exact ⟨h1, fun m cs hm => h2 m cs (by simpa using hm)⟩
  | (n, .box cs) :: l, μ, μ', h => by
    simp only [mapObjs] at h
    split at h
    · rename_i k hk
      split at h
      · rename_i xs hxs
        split at h
        · rename_i μ1 h1
          obtain ⟨g1, g2⟩ := mapCells_spec h1
          obtain ⟨k1, k2⟩ := mapObjs_spec (l := l) h
          refine ⟨fun a y hy => k1 a y (g1 a y hy), fun m cs' hm => ?_⟩
          simp only [List.mem_cons, Prod.mk.injEq, PObj.box.injEq] at hm
          rcases hm with ⟨rfl, rfl⟩ | hm
          · exact ⟨k, xs, k1 _ _ (g1 _ _ hk), hxs, g2.mono k1⟩
          · exact k2 m cs' hm
        · cases h
      · cases h
    · cases h
theorem pinMap_spec : ∀ {l : List Nat} {n : Nat}, n ∈ l → lkN (pinMap l) n = some (some n)
  | [], n, h => by simp at h
  | p :: l, n, h => by
    simp only [pinMap, lkN]
    by_cases e : p = n
    · subst e; simp
    · simp only [e, if_false]
      exact pinMap_spec (by simpa [Ne.symm e] using h)
theorem ranN_mem : ∀ {μ : NMap} {n k : Nat}, lkN μ n = some (some k) → k ∈ ranN μ
  | [], n, k, h => by simp [lkN] at h
  | (m, x) :: r, n, k, h => by
    simp only [lkN] at h
    split at h
    · simp only [Option.some.injEq] at h; subst h; simp [ranN]
    · have := ranN_mem h
      cases x <;> simp [ranN, this]
theorem nodupB_spec : ∀ {l : List Nat}, nodupB l = true → l.Nodup
  | [], _ => List.nodup_nil
  | x :: l, h => by
    simp only [nodupB, Bool.and_eq_true, Bool.not_eq_true'] at h
    refine List.nodup_cons.2 ⟨fun hm => ?_, nodupB_spec h.2⟩
    have : l.contains x = true := by simpa using hm
    rw [this] at h; cases h.1
theorem ranN_inj : ∀ {μ : NMap}, (ranN μ).Nodup → ∀ {n m k : Nat}, lkN μ n = some (some k) → lkN μ m = some (some k) → n = m
  | [], _, n, m, k, h, _ => by simp [lkN] at h
  | (a, x) :: r, hn, n, m, k, h1, h2 => by
    simp only [lkN] at h1 h2
    have hr : (ranN r).Nodup := by cases x <;> simp_all [ranN]
    split at h1
    · rename_i e1
      simp only [Option.some.injEq] at h1; subst h1
      split at h2
      · rename_i e2; rw [← e1, ← e2]
      · simp only [ranN, List.nodup_cons] at hn
        exact absurd (ranN_mem h2) hn.1
    · split at h2
      · simp only [Option.some.injEq] at h2; subst h2
        simp only [ranN, List.nodup_cons] at hn
        exact absurd (ranN_mem h1) hn.1
      · exact ranN_inj hr h1 h2

theorem decE_spec {R : Type} {N : Nat} {s : SS} {b : Option R} : ∀ {l : List (Nat × PSlot)} {z : slotsT R l}, decE N s b l = some z → b = some (restE l z) ∧
    ∀ i sv, (i, sv) ∈ encE l z → (∃ c x, sv = CT.sv c x ∧ toCT s.objs c (s.get N i) = some x ∧ (i, .d c) ∈ l) ∨ (∃ m, sv = .v (.c (.own m)) ∧ (i, .own m) ∈ l) ∨ ∃ m sz, sv = .v (.c (.ref m sz 0 0)) ∧ (i, .ref m sz) ∈ l
  | [], z, h => ⟨h, by simp [encE]⟩
  | (n, .d c) :: l, z, h => by
    simp only [decE] at h
    split at h
    · rename_i x y h1 h2
      simp only [Option.some.injEq] at h; subst h
      obtain ⟨k1, k2⟩ := decE_spec (l := l) h2
      refine ⟨k1, fun i sv hm => ?_⟩
      simp only [encE, List.mem_cons, Prod.mk.injEq] at hm
      rcases hm with ⟨rfl, rfl⟩ | hm
      · exact .inl ⟨c, x, rfl, h1, List.mem_cons_self ..⟩
      · rcases k2 i sv hm with ⟨c', x', e1, e2, e3⟩ | ⟨m, e1, e2⟩ | ⟨m, sz, e1, e2⟩
        · exact .inl ⟨c', x', e1, e2, List.mem_cons_of_mem _ e3⟩
        · exact .inr (.inl ⟨m, e1, List.mem_cons_of_mem _ e2⟩)
        · exact .inr (.inr ⟨m, sz, e1, List.mem_cons_of_mem _ e2⟩)
    · cases h
  | (n, .own m) :: l, z, h => by
    obtain ⟨k1, k2⟩ := decE_spec (l := l) (z := z) h
    refine ⟨k1, fun i sv hm => ?_⟩
    simp only [encE, List.mem_cons, Prod.mk.injEq] at hm
    rcases hm with ⟨rfl, rfl⟩ | hm
    · exact .inr (.inl ⟨m, rfl, List.mem_cons_self ..⟩)
    · rcases k2 i sv hm with ⟨c', x', e1, e2, e3⟩ | ⟨m, e1, e2⟩ | ⟨m, sz, e1, e2⟩
      · exact .inl ⟨c', x', e1, e2, List.mem_cons_of_mem _ e3⟩
      · exact .inr (.inl ⟨m, e1, List.mem_cons_of_mem _ e2⟩)
      · exact .inr (.inr ⟨m, sz, e1, List.mem_cons_of_mem _ e2⟩)
  | (n, .ref m sz) :: l, z, h => by
    obtain ⟨k1, k2⟩ := decE_spec (l := l) (z := z) h
    refine ⟨k1, fun i sv hm => ?_⟩
    simp only [encE, List.mem_cons, Prod.mk.injEq] at hm
    rcases hm with ⟨rfl, rfl⟩ | hm
    · exact .inr (.inr ⟨m, sz, rfl, List.mem_cons_self ..⟩)
    · rcases k2 i sv hm with ⟨c', x', e1, e2, e3⟩ | ⟨m, e1, e2⟩ | ⟨m, sz, e1, e2⟩
      · exact .inl ⟨c', x', e1, e2, List.mem_cons_of_mem _ e3⟩
      · exact .inr (.inl ⟨m, e1, List.mem_cons_of_mem _ e2⟩)
      · exact .inr (.inr ⟨m, sz, e1, List.mem_cons_of_mem _ e2⟩)

/-- one object, as a plan has it -/
def ObjOk (μ : NMap) (O : SObjs) (n : Nat) (l : List (Nat × PObj)) : SO → Prop
  | .arr ts x => (∃ k, lkN μ n = some (some k) ∧ lookS k O = some (.arr ts x)) ∨ (lkN μ n = some none ∧ x = [])
  | .box ys => ∃ cs xs k y, ys = encC cs y ∧ lkN μ n = some (some k) ∧ lookS k O = some (.box xs) ∧ decC O cs xs = some y ∧ (n, .box cs) ∈ l
theorem ObjOk.mem {μ : NMap} {O : SObjs} {n : Nat} {l l' : List (Nat × PObj)} (hl : ∀ x ∈ l, x ∈ l') : ∀ {so : SO}, ObjOk μ O n l so → ObjOk μ O n l' so
  | .arr _ _, h => h
  | .box _, ⟨cs, xs, k, y, h1, h2, h3, h4, h5⟩ => ⟨cs, xs, k, y, h1, h2, h3, h4, hl _ h5⟩
theorem decO_spec {μ : NMap} {O : SObjs} : ∀ {l : List (Nat × PObj)} {b : objsT l}, decO μ O l = some b → ∀ n so, (n, so) ∈ encO l b → ObjOk μ O n l so
  | [], b, h => by simp [encO]
  | (m, .arr ts) :: l, b, h => by
    intro n so hm
    have ext : ∀ x ∈ l, x ∈ (m, PObj.arr ts) :: l := fun x hx => List.mem_cons_of_mem _ hx
    simp only [decO] at h
    split at h
    · rename_i k y h1 h2
      split at h
      · rename_i us x hx
        split at h
        · rename_i hb
          have e := Tys.beq_eq us ts hb
          subst e
          simp only [Option.some.injEq] at h; subst h
          simp only [encO, List.mem_cons, Prod.mk.injEq] at hm
          rcases hm with ⟨rfl, rfl⟩ | hm
          · exact .inl ⟨k, h1, hx⟩
          · exact (decO_spec h2 n so hm).mem ext
        · cases h
      · cases h
    · rename_i y h1 h2
      simp only [Option.some.injEq] at h; subst h
      simp only [encO, List.mem_cons, Prod.mk.injEq] at hm
      rcases hm with ⟨rfl, rfl⟩ | hm
      · exact .inr ⟨h1, rfl⟩
      · exact (decO_spec h2 n so hm).mem ext
    · cases h
  | (m, .box cs) :: l, b, h => by
    intro n so hm
    have ext : ∀ x ∈ l, x ∈ (m, PObj.box cs) :: l := fun x hx => List.mem_cons_of_mem _ hx
    simp only [decO] at h
    split at h
    · rename_i k y h1 h2
      split at h
      · rename_i xs hx
        split at h
        · rename_i a ha
          simp only [Option.some.injEq] at h; subst h
          simp only [encO, List.mem_cons, Prod.mk.injEq] at hm
          rcases hm with ⟨rfl, rfl⟩ | hm
          · exact ⟨cs, xs, k, a, rfl, h1, hx, ha, List.mem_cons_self ..⟩
          · exact (decO_spec h2 n so hm).mem ext
        · cases h
      · cases h
    · cases h
theorem lookS_mem : ∀ {O : SObjs} {n : Nat} {o : SO}, lookS n O = some o → (n, o) ∈ O
  | [], n, o, h => by simp [lookS] at h
  | (m, p) :: r, n, o, h => by
    simp only [lookS] at h
    split at h
    · rename_i e
      subst e
      simp only [Option.some.injEq] at h; subst h; exact List.mem_cons_self ..
    · exact List.mem_cons_of_mem _ (lookS_mem h)
theorem lkE_mem : ∀ {E : List (Nat × SV)} {n : Nat}, lkE E n = .any ∨ (n, lkE E n) ∈ E
  | [], n => .inl rfl
  | (m, x) :: r, n => by
    by_cases e : m = n
    · subst e; simp [lkE]
    · simp only [lkE, e, if_false]
      rcases lkE_mem (E := r) (n := n) with h | h
      · exact .inl h
      · exact .inr (List.mem_cons_of_mem _ h)
theorem hasObj_spec : ∀ {l : List (Nat × PObj)} {n : Nat} (b : objsT l), hasObj n l = true → (lookS n (encO l b)).isSome = true
  | [], n, b, h => by simp [hasObj] at h
  | (m, o) :: l, n, b, h => by
    by_cases e : m = n
    · subst e; cases o <;> simp [encO, lookS]
    · simp only [hasObj, e, if_false] at h
      have := hasObj_spec (l := l) b.2 h
      cases o <;> simp [encO, lookS, e, this]
theorem hasBox_spec : ∀ {l : List (Nat × PObj)} {n : Nat} (b : objsT l), hasBox n l = true → ∃ cs, lookS n (encO l b) = some (.box cs)
  | [], n, b, h => by simp [hasBox] at h
  | (m, .arr ts) :: l, n, b, h => by
    by_cases e : m = n
    · simp [hasBox, e] at h
    · simp only [hasBox, e, if_false] at h
      obtain ⟨cs, hcs⟩ := hasBox_spec (l := l) b.2 h
      exact ⟨cs, by simp [encO, lookS, e, hcs]⟩
  | (m, .box cs) :: l, n, b, h => by
    by_cases e : m = n
    · subst e; exact ⟨_, by simp [encO, lookS]; rfl⟩
    · simp only [hasBox, e, if_false] at h
      obtain ⟨cs, hcs⟩ := hasBox_spec (l := l) b.2 h
      exact ⟨cs, by simp [encO, lookS, e, hcs]⟩
theorem slotsOk_spec {os : List (Nat × PObj)} : ∀ {l : List (Nat × PSlot)}, slotsOk os l = true → (∀ i m sz, (i, .ref m sz) ∈ l → hasObj m os = true) ∧ ∀ i m, (i, .own m) ∈ l → hasObj m os = true
  | [], _ => by simp
  | (i, .d c) :: l, h => by
    obtain ⟨h1, h2⟩ := slotsOk_spec (l := l) h
    exact ⟨fun j m sz hm => h1 j m sz (by simpa using hm), fun j m hm => h2 j m (by simpa using hm)⟩
  | (i, .own n) :: l, h => by
    simp only [slotsOk, Bool.and_eq_true] at h
    obtain ⟨h1, h2⟩ := slotsOk_spec (l := l) h.2
    refine ⟨fun j m sz hm => h1 j m sz (by simpa using hm), fun j m hm => ?_⟩
    simp only [List.mem_cons, Prod.mk.injEq, PSlot.own.injEq] at hm
    rcases hm with ⟨_, rfl⟩ | hm
    · exact h.1
    · exact h2 j m hm
  | (i, .ref n sz) :: l, h => by
    simp only [slotsOk, Bool.and_eq_true] at h
    obtain ⟨h1, h2⟩ := slotsOk_spec (l := l) h.2
    refine ⟨fun j m sz' hm => ?_, fun j m hm => h2 j m (by simpa using hm)⟩
    simp only [List.mem_cons, Prod.mk.injEq, PSlot.ref.injEq] at hm
    rcases hm with ⟨_, rfl, _⟩ | hm
    · exact h.1
    · exact h1 j m sz' hm
theorem encO_small {l : List (Nat × PObj)} : ∀ {b : objsT l}, (l.all fun x => decide (x.1 < top)) = true → ∀ n so, lookS n (encO l b) = some so → n < top := by
  induction l with
  | nil => intro b _ n so h; simp [encO, lookS] at h
  | cons p l ih =>
    obtain ⟨m, o⟩ := p
    intro b h n so hl
    simp only [List.all_cons, Bool.and_eq_true, decide_eq_true_eq] at h
    by_cases e : m = n
    · subst e; exact h.1
    · have : lookS n (encO l b.2) = some so := by cases o <;> simpa [encO, lookS, e] using hl
      exact ih h.2 n so this
end Go.Abs
