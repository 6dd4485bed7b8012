/- The walks' library, part G: what a region of the program does in an abstract state, and its soundness. -/
import Derived.ProofKit
import Derived.Carry
import Derived.OpenVars
import Derived.Test.YtjficagemeiecaaDoorLibF
namespace Go.Abs
open Go.RowKit
variable {os : List (Nat × PObj)}
theorem addN_spec {μ μ' : NMap} {n : Nat} {x : Option Nat} (h : addN μ n x = some μ') : lkN μ' n = some x ∧ ∀ m y, lkN μ m = some y → lkN μ' m = some y := by
 unfold addN at h
 split at h
 ·rename_i hn
  simp only [Option.some.injEq] at h; subst h
  refine ⟨by simp [lkN], fun m y hm => ?_⟩
  have : n ≠ m := by rintro rfl; rw [hn] at hm; cases hm
  simp [lkN, this, hm]
 ·rename_i y hy
  split at h
  ·rename_i a b
   split at h
   ·rename_i e
    subst e
    simp only [Option.some.injEq] at h; subst h
    exact ⟨hy, fun _ _ h => h⟩
   ·cases h
  ·simp only [Option.some.injEq] at h; subst h
   exact ⟨hy, fun _ _ h => h⟩
  ·cases h
def NLe (μ μ' : NMap) : Prop := ∀ m y, lkN μ m = some y → lkN μ' m = some y
theorem NLe.rfl' (μ : NMap) : NLe μ μ := fun _ _ h => h
theorem NLe.trans {a b c : NMap} (h : NLe a b) (k : NLe b c) : NLe a c := fun m y hy => k m y (h m y hy)
def CapOk (μ : NMap) : List (Nat × Nat) → List (Nat × Nat) → Prop
 | [], [] => True
 | (n, sz) :: l, (k, sz') :: r => sz = sz' ∧ lkN μ n = some (some k) ∧ CapOk μ l r
 | _, _ => False
theorem CapOk.mono {μ μ' : NMap} (hle : NLe μ μ') : ∀ {l r : List (Nat × Nat)}, CapOk μ l r → CapOk μ' l r
 | [], [], _ => trivial
 | (_, _) :: _, (_, _) :: _, ⟨h1, h2, h3⟩ => ⟨h1, hle _ _ h2, CapOk.mono hle h3⟩
 | [], _ :: _, h => h.elim
 | _ :: _, [], h => by cases h
theorem addL_spec : ∀ {l r : List (Nat × Nat)} {μ μ' : NMap}, addL l r μ = some μ' → NLe μ μ' ∧ CapOk μ' l r
 | [], [], μ, μ', h => by simp only [addL, Option.some.injEq] at h; subst h; exact ⟨.rfl' _, trivial⟩
 | (n, sz) :: l, (k, sz') :: r, μ, μ', h => by
  simp only [addL] at h
  split at h
  ·rename_i e
   split at h
   ·rename_i μ1 h1
    obtain ⟨g1, g2⟩ := addN_spec h1
    obtain ⟨k1, k2⟩ := addL_spec h
    exact ⟨NLe.trans g2 k1, e, k1 _ _ g1, k2⟩
   ·cases h
  ·cases h
 | [], _ :: _, μ, μ', h => by simp [addL] at h
 | _ :: _, [], μ, μ', h => by simp [addL] at h
def SlotOk (μ : NMap) (x : SV) : PSlot → Prop
 | .d _ => True
 | .own m => (∃ k, x = .v (.c (.own k)) ∧ lkN μ m = some (some k)) ∨ (x = .v (.c .nsl) ∧ lkN μ m = some none)
 | .ref m sz => ∃ k, x = .v (.c (.ref k sz 0 0)) ∧ lkN μ m = some (some k)
 | .cst c => x = .v (.c (.cst c))
 | .wrp f ns => ∃ ms, x = .v (.c (.wrp f ms)) ∧ CapOk μ ns ms
 | .msl m sz => ∃ k off len, x = .v (.c (.msl k sz off len)) ∧ lkN μ m = some (some k)
theorem SlotOk.mono {μ μ' : NMap} (hle : NLe μ μ') {x : SV} {p : PSlot} (h : SlotOk μ x p) : SlotOk μ' x p := by
 cases p with
 | d c => trivial
 | own m => exact h.imp (fun ⟨k, h1, h2⟩ => ⟨k, h1, hle _ _ h2⟩) (fun ⟨h1, h2⟩ => ⟨h1, hle _ _ h2⟩)
 | ref m sz => obtain ⟨k, h1, h2⟩ := h; exact ⟨k, h1, hle _ _ h2⟩
 | cst c => exact h
 | wrp f ns => obtain ⟨ms, h1, h2⟩ := h; exact ⟨ms, h1, h2.mono hle⟩
 | msl m sz => obtain ⟨k, off, len, h1, h2⟩ := h; exact ⟨k, off, len, h1, hle _ _ h2⟩
theorem mapSlots_step {N : Nat} {s : SS} {i : Nat} {p : PSlot} {l : List (Nat × PSlot)} {μ μ' : NMap} (h : mapSlots N s ((i, p) :: l) μ = some μ') :
  ∃ μ1, NLe μ μ1 ∧ SlotOk μ1 (s.get N i) p ∧ mapSlots N s l μ1 = some μ' := by
 cases p with
 | d c => exact ⟨μ, .rfl' _, trivial, h⟩
 | own m =>
  simp only [mapSlots] at h
  split at h
  ·rename_i k hk
   split at h
   ·rename_i μ1 h1
    obtain ⟨g1, g2⟩ := addN_spec h1
    exact ⟨μ1, g2, .inl ⟨k, hk, g1⟩, h⟩
   ·cases h
  ·rename_i hk
   split at h
   ·rename_i μ1 h1
    obtain ⟨g1, g2⟩ := addN_spec h1
    exact ⟨μ1, g2, .inr ⟨hk, g1⟩, h⟩
   ·cases h
  ·cases h
 | ref m sz =>
  simp only [mapSlots] at h
  split at h
  ·rename_i k sz' hk
   split at h
   ·rename_i e
    subst e
    split at h
    ·rename_i μ1 h1
     obtain ⟨g1, g2⟩ := addN_spec h1
     exact ⟨μ1, g2, ⟨k, hk, g1⟩, h⟩
    ·cases h
   ·cases h
  ·cases h
 | cst c =>
  simp only [mapSlots] at h
  split at h
  ·rename_i c' hk
   split at h
   ·rename_i e; subst e; exact ⟨μ, .rfl' _, hk, h⟩
   ·cases h
  ·cases h
 | wrp f ns =>
  simp only [mapSlots] at h
  split at h
  ·rename_i f' ms hk
   split at h
   ·rename_i e
    subst e
    split at h
    ·rename_i μ1 h1
     obtain ⟨g1, g2⟩ := addL_spec h1
     exact ⟨μ1, g1, ⟨ms, hk, g2⟩, h⟩
    ·cases h
   ·cases h
  ·cases h
 | msl m sz =>
  simp only [mapSlots] at h
  split at h
  ·rename_i k sz' off len hk
   split at h
   ·rename_i e
    subst e
    split at h
    ·rename_i μ1 h1
     obtain ⟨g1, g2⟩ := addN_spec h1
     exact ⟨μ1, g2, ⟨k, off, len, hk, g1⟩, h⟩
    ·cases h
   ·cases h
  ·cases h
theorem mapSlots_spec {N : Nat} {s : SS} : ∀ {l : List (Nat × PSlot)} {μ μ' : NMap}, mapSlots N s l μ = some μ' → NLe μ μ' ∧ ∀ i p, (i, p) ∈ l → SlotOk μ' (s.get N i) p
 | [], μ, μ', h => by simp only [mapSlots, Option.some.injEq] at h; subst h; exact ⟨.rfl' _, by simp⟩
 | (i, p) :: l, μ, μ', h => by
  obtain ⟨μ1, h1, h2, h3⟩ := mapSlots_step h
  obtain ⟨k1, k2⟩ := mapSlots_spec h3
  refine ⟨h1.trans k1, fun j q hm => ?_⟩
  rcases List.mem_cons.1 hm with e | hm
  ·cases e; exact h2.mono k1
  ·exact k2 j q hm
inductive CellsOk (μ : NMap) : List PC → List CV → Prop
 | nil : CellsOk μ [] []
 | d {t : Ty} {x : CV} {l : List PC} {xs : List CV} (h : CellsOk μ l xs) : CellsOk μ (.d t :: l) (x :: xs)
 | own {m k : Nat} {l : List PC} {xs : List CV} (hk : lkN μ m = some (some k)) (h : CellsOk μ l xs) : CellsOk μ (.own m :: l) (.own k :: xs)
 | nsl {m : Nat} {l : List PC} {xs : List CV} (hk : lkN μ m = some none) (h : CellsOk μ l xs) : CellsOk μ (.own m :: l) (.nsl :: xs)
 | cst {c : KC} {l : List PC} {xs : List CV} (h : CellsOk μ l xs) : CellsOk μ (.cst c :: l) (.cst c :: xs)
 | ref {m k sz : Nat} {l : List PC} {xs : List CV} (hk : lkN μ m = some (some k)) (h : CellsOk μ l xs) : CellsOk μ (.ref m sz :: l) (.ref k sz 0 0 :: xs)
 | wrp {f : Option FuncId × TypeId} {ns ms : List (Nat × Nat)} {l : List PC} {xs : List CV} (hk : CapOk μ ns ms) (h : CellsOk μ l xs) : CellsOk μ (.wrp f ns :: l) (.wrp f ms :: xs)
theorem CellsOk.mono {μ μ' : NMap} (hle : NLe μ μ') {l : List PC} {xs : List CV} (h : CellsOk μ l xs) : CellsOk μ' l xs := by
 induction h with
 | nil => exact .nil
 | d _ ih => exact .d ih
 | own hk _ ih => exact .own (hle _ _ hk) ih
 | nsl hk _ ih => exact .nsl (hle _ _ hk) ih
 | cst _ ih => exact .cst ih
 | ref hk _ ih => exact .ref (hle _ _ hk) ih
 | wrp hk _ ih => exact .wrp (hk.mono hle) ih
theorem mapCells_spec : ∀ {l : List PC} {xs : List CV} {μ μ' : NMap}, mapCells l xs μ = some μ' → NLe μ μ' ∧ CellsOk μ' l xs
 | [], [], μ, μ', h => by simp only [mapCells, Option.some.injEq] at h; subst h; exact ⟨fun _ _ h => h, .nil⟩
 | [], _ :: _, μ, μ', h => by simp [mapCells] at h
 | p :: l, [], μ, μ', h => by cases p <;> simp [mapCells] at h
 | .d t :: l, x :: xs, μ, μ', h => by
  simp only [mapCells] at h
  obtain ⟨h1, h2⟩ := mapCells_spec h
  exact ⟨h1, .d h2⟩
 | .own m :: l, x :: xs, μ, μ', h => by
  cases x with
  | own k =>
   simp only [mapCells] at h
   split at h
   ·rename_i μ1 h1
    obtain ⟨g1, g2⟩ := addN_spec h1
    obtain ⟨k1, k2⟩ := mapCells_spec h
    exact ⟨fun a y hy => k1 a y (g2 a y hy), .own (k1 _ _ g1) k2⟩
   ·cases h
  | nsl =>
   simp only [mapCells] at h
   split at h
   ·rename_i μ1 h1
    obtain ⟨g1, g2⟩ := addN_spec h1
    obtain ⟨k1, k2⟩ := mapCells_spec h
    exact ⟨fun a y hy => k1 a y (g2 a y hy), .nsl (k1 _ _ g1) k2⟩
   ·cases h
  | _ => simp [mapCells] at h
 | .cst c :: l, x :: xs, μ, μ', h => by
  cases x with
  | cst c' =>
   simp only [mapCells] at h
   split at h
   ·rename_i e
    subst e
    obtain ⟨k1, k2⟩ := mapCells_spec h
    exact ⟨k1, .cst k2⟩
   ·cases h
  | _ => simp [mapCells] at h
 | .ref m sz :: l, x :: xs, μ, μ', h => by
  cases x with
  | ref k sz' i off =>
   cases i with
   | succ i => simp [mapCells] at h
   | zero =>
    cases off with
    | succ off => simp [mapCells] at h
    | zero =>
     simp only [mapCells] at h
     split at h
     ·rename_i e
      subst e
      split at h
      ·rename_i μ1 h1
       obtain ⟨g1, g2⟩ := addN_spec h1
       obtain ⟨k1, k2⟩ := mapCells_spec h
       exact ⟨fun a y hy => k1 a y (g2 a y hy), .ref (k1 _ _ g1) k2⟩
      ·cases h
     ·cases h
  | _ => simp [mapCells] at h
 | .wrp f ns :: l, x :: xs, μ, μ', h => by
  cases x with
  | wrp f' ms =>
   simp only [mapCells] at h
   split at h
   ·rename_i e
    subst e
    split at h
    ·rename_i μ1 h1
     obtain ⟨g1, g2⟩ := addL_spec h1
     obtain ⟨k1, k2⟩ := mapCells_spec h
     exact ⟨g1.trans k1, .wrp (g2.mono k1) k2⟩
    ·cases h
   ·cases h
  | _ => simp [mapCells] at h
theorem mapObjs_spec {O : SObjs} : ∀ {l : List (Nat × PObj)} {μ μ' : NMap}, mapObjs O l μ = some μ' → NLe μ μ' ∧
  ∀ n cs, (n, .box cs) ∈ l → ∃ k xs, lkN μ' n = some (some k) ∧ lookS k O = some (.box xs) ∧ CellsOk μ' cs xs
 | [], μ, μ', h => by simp only [mapObjs, Option.some.injEq] at h; subst h; exact ⟨fun _ _ h => h, by simp⟩
 | (n, .arr ts) :: l, μ, μ', h => by
  obtain ⟨h1, h2⟩ := mapObjs_spec (l := l) h
  exact ⟨h1, fun m cs hm => h2 m cs (by simpa using hm)⟩
 | (n, .mp kk k) :: l, μ, μ', h => by
  obtain ⟨h1, h2⟩ := mapObjs_spec (l := l) h
  exact ⟨h1, fun m cs hm => h2 m cs (by simpa using hm)⟩
 | (n, .box cs) :: l, μ, μ', h => by
  simp only [mapObjs] at h
  split at h
  ·rename_i k hk
   split at h
   ·rename_i xs hxs
    split at h
    ·rename_i μ1 h1
     obtain ⟨g1, g2⟩ := mapCells_spec h1
     obtain ⟨k1, k2⟩ := mapObjs_spec (l := l) h
     refine ⟨fun a y hy => k1 a y (g1 a y hy), fun m cs' hm => ?_⟩
     simp only [List.mem_cons, Prod.mk.injEq, PObj.box.injEq] at hm
     rcases hm with ⟨rfl, rfl⟩ | hm
     ·exact ⟨k, xs, k1 _ _ (g1 _ _ hk), hxs, g2.mono k1⟩
     ·exact k2 m cs' hm
    ·cases h
   ·cases h
  ·cases h
theorem pinMap_spec : ∀ {l : List Nat} {n : Nat}, n ∈ l → lkN (pinMap l) n = some (some n)
 | [], n, h => by simp at h
 | p :: l, n, h => by
  simp only [pinMap, lkN]
  by_cases e : p = n
  ·subst e; simp
  ·simp only [e, if_false]
   exact pinMap_spec (by simpa [Ne.symm e] using h)
theorem ranN_mem : ∀ {μ : NMap} {n k : Nat}, lkN μ n = some (some k) → k ∈ ranN μ
 | [], n, k, h => by simp [lkN] at h
 | (m, x) :: r, n, k, h => by
  simp only [lkN] at h
  split at h
  ·simp only [Option.some.injEq] at h; subst h; simp [ranN]
  ·have := ranN_mem h
   cases x <;> simp [ranN, this]
theorem ranN_inj : ∀ {μ : NMap}, (ranN μ).Nodup → ∀ {n m k : Nat}, lkN μ n = some (some k) → lkN μ m = some (some k) → n = m
 | [], _, n, m, k, h, _ => by simp [lkN] at h
 | (a, x) :: r, hn, n, m, k, h1, h2 => by
  simp only [lkN] at h1 h2
  have hr : (ranN r).Nodup := by cases x <;> simp_all [ranN]
  split at h1
  ·rename_i e1
   simp only [Option.some.injEq] at h1; subst h1
   split at h2
   ·rename_i e2; rw [← e1, ← e2]
   ·simp only [ranN, List.nodup_cons] at hn
    exact absurd (ranN_mem h2) hn.1
  ·split at h2
   ·simp only [Option.some.injEq] at h2; subst h2
    simp only [ranN, List.nodup_cons] at hn
    exact absurd (ranN_mem h1) hn.1
   ·exact ranN_inj hr h1 h2
def encP : PSlot → Option SV
 | .d _ => none
 | .own m => some (.v (.c (.own m)))
 | .ref m sz => some (.v (.c (.ref m sz 0 0)))
 | .cst c => some (.v (.c (.cst c)))
 | .wrp f ns => some (.v (.c (.wrp f ns)))
 | .msl _ _ => none
theorem decE_spec {R : Type} {N : Nat} {s : SS} {b : Option R} : ∀ {l : List (Nat × PSlot)} {z : slotsT R l}, decE N s b l = some z → b = some (restE l z) ∧
  ∀ i sv, (i, sv) ∈ encE l z → (∃ c x, sv = CT.sv c x ∧ toCT s.objs c (s.get N i) = some x ∧ (i, .d c) ∈ l) ∨ (∃ p, (i, p) ∈ l ∧ encP p = some sv) ∨ ∃ m sz k sz' off len, (i, .msl m sz) ∈ l ∧ s.get N i = .v (.c (.msl k sz' off len)) ∧ sv = .v (.c (.msl m sz off len))
 | [], z, h => ⟨h, by simp [encE]⟩
 | (n, .d c) :: l, z, h => by
  simp only [decE] at h
  split at h
  ·rename_i x y h1 h2
   simp only [Option.some.injEq] at h; subst h
   obtain ⟨k1, k2⟩ := decE_spec (l := l) h2
   refine ⟨k1, fun i sv hm => ?_⟩
   simp only [encE, List.mem_cons, Prod.mk.injEq] at hm
   rcases hm with ⟨rfl, rfl⟩ | hm
   ·exact .inl ⟨c, x, rfl, h1, List.mem_cons_self ..⟩
   ·rcases k2 i sv hm with ⟨c', x', e1, e2, e3⟩ | ⟨p, e1, e2⟩ | ⟨m', sz', k', sz'', off', len', e1, e2, e3⟩
    ·exact .inl ⟨c', x', e1, e2, List.mem_cons_of_mem _ e3⟩
    ·exact .inr (.inl ⟨p, List.mem_cons_of_mem _ e1, e2⟩)
    ·exact .inr (.inr ⟨m', sz', k', sz'', off', len', List.mem_cons_of_mem _ e1, e2, e3⟩)
  ·cases h
 | (n, .own m) :: l, z, h => by
  obtain ⟨k1, k2⟩ := decE_spec (l := l) (z := z) h
  refine ⟨k1, fun i sv hm => ?_⟩
  simp only [encE, List.mem_cons, Prod.mk.injEq] at hm
  rcases hm with ⟨rfl, rfl⟩ | hm
  ·exact .inr (.inl ⟨_, List.mem_cons_self .., rfl⟩)
  ·rcases k2 i sv hm with ⟨c', x', e1, e2, e3⟩ | ⟨p, e1, e2⟩ | ⟨m', sz', k', sz'', off', len', e1, e2, e3⟩
   ·exact .inl ⟨c', x', e1, e2, List.mem_cons_of_mem _ e3⟩
   ·exact .inr (.inl ⟨p, List.mem_cons_of_mem _ e1, e2⟩)
   ·exact .inr (.inr ⟨m', sz', k', sz'', off', len', List.mem_cons_of_mem _ e1, e2, e3⟩)
 | (n, .ref m sz) :: l, z, h => by
  obtain ⟨k1, k2⟩ := decE_spec (l := l) (z := z) h
  refine ⟨k1, fun i sv hm => ?_⟩
  simp only [encE, List.mem_cons, Prod.mk.injEq] at hm
  rcases hm with ⟨rfl, rfl⟩ | hm
  ·exact .inr (.inl ⟨_, List.mem_cons_self .., rfl⟩)
  ·rcases k2 i sv hm with ⟨c', x', e1, e2, e3⟩ | ⟨p, e1, e2⟩ | ⟨m', sz', k', sz'', off', len', e1, e2, e3⟩
   ·exact .inl ⟨c', x', e1, e2, List.mem_cons_of_mem _ e3⟩
   ·exact .inr (.inl ⟨p, List.mem_cons_of_mem _ e1, e2⟩)
   ·exact .inr (.inr ⟨m', sz', k', sz'', off', len', List.mem_cons_of_mem _ e1, e2, e3⟩)
 | (n, .cst c) :: l, z, h => by
  obtain ⟨k1, k2⟩ := decE_spec (l := l) (z := z) h
  refine ⟨k1, fun i sv hm => ?_⟩
  simp only [encE, List.mem_cons, Prod.mk.injEq] at hm
  rcases hm with ⟨rfl, rfl⟩ | hm
  ·exact .inr (.inl ⟨_, List.mem_cons_self .., rfl⟩)
  ·rcases k2 i sv hm with ⟨c', x', e1, e2, e3⟩ | ⟨p, e1, e2⟩ | ⟨m', sz', k', sz'', off', len', e1, e2, e3⟩
   ·exact .inl ⟨c', x', e1, e2, List.mem_cons_of_mem _ e3⟩
   ·exact .inr (.inl ⟨p, List.mem_cons_of_mem _ e1, e2⟩)
   ·exact .inr (.inr ⟨m', sz', k', sz'', off', len', List.mem_cons_of_mem _ e1, e2, e3⟩)
 | (n, .wrp f ns) :: l, z, h => by
  obtain ⟨k1, k2⟩ := decE_spec (l := l) (z := z) h
  refine ⟨k1, fun i sv hm => ?_⟩
  simp only [encE, List.mem_cons, Prod.mk.injEq] at hm
  rcases hm with ⟨rfl, rfl⟩ | hm
  ·exact .inr (.inl ⟨_, List.mem_cons_self .., rfl⟩)
  ·rcases k2 i sv hm with ⟨c', x', e1, e2, e3⟩ | ⟨p, e1, e2⟩ | ⟨m', sz', k', sz'', off', len', e1, e2, e3⟩
   ·exact .inl ⟨c', x', e1, e2, List.mem_cons_of_mem _ e3⟩
   ·exact .inr (.inl ⟨p, List.mem_cons_of_mem _ e1, e2⟩)
   ·exact .inr (.inr ⟨m', sz', k', sz'', off', len', List.mem_cons_of_mem _ e1, e2, e3⟩)
 | (n, .msl m sz) :: l, z, h => by
  simp only [decE] at h
  split at h
  ·rename_i x y h1 h2
   simp only [Option.some.injEq] at h; subst h
   obtain ⟨k1, k2⟩ := decE_spec (l := l) h2
   refine ⟨k1, fun i sv hm => ?_⟩
   simp only [encE, List.mem_cons, Prod.mk.injEq] at hm
   rcases hm with ⟨rfl, rfl⟩ | hm
   ·unfold mslOf at h1
    split at h1
    ·rename_i k sz' off len e
     cases h1
     exact .inr (.inr ⟨m, sz, k, sz', off, len, List.mem_cons_self .., e, rfl⟩)
    ·cases h1
   ·rcases k2 i sv hm with ⟨c', x', e1, e2, e3⟩ | ⟨p, e1, e2⟩ | ⟨m', sz', k', sz'', off', len', e1, e2, e3⟩
    ·exact .inl ⟨c', x', e1, e2, List.mem_cons_of_mem _ e3⟩
    ·exact .inr (.inl ⟨p, List.mem_cons_of_mem _ e1, e2⟩)
    ·exact .inr (.inr ⟨m', sz', k', sz'', off', len', List.mem_cons_of_mem _ e1, e2, e3⟩)
  ·cases h
def ObjOk (μ : NMap) (O : SObjs) (n : Nat) (l : List (Nat × PObj)) : SO → Prop
 | .arr ts x => (∃ k, lkN μ n = some (some k) ∧ lookS k O = some (.arr ts x)) ∨ (lkN μ n = some none ∧ x = [])
 | .mp kk v x => ∃ k, lkN μ n = some (some k) ∧ lookS k O = some (.mp kk v x)
 | .box ys => ∃ cs xs k y, ys = encC cs y ∧ lkN μ n = some (some k) ∧ lookS k O = some (.box xs) ∧ decC O cs xs = some y ∧ (n, .box cs) ∈ l
theorem ObjOk.mem {μ : NMap} {O : SObjs} {n : Nat} {l l' : List (Nat × PObj)} (hl : ∀ x ∈ l, x ∈ l') : ∀ {so : SO}, ObjOk μ O n l so → ObjOk μ O n l' so
 | .arr _ _, h => h
 | .mp _ _ _, h => h
 | .box _, ⟨cs, xs, k, y, h1, h2, h3, h4, h5⟩ => ⟨cs, xs, k, y, h1, h2, h3, h4, hl _ h5⟩
theorem decO_spec {μ : NMap} {O : SObjs} : ∀ {l : List (Nat × PObj)} {b : objsT l}, decO μ O l = some b → ∀ n so, (n, so) ∈ encO l b → ObjOk μ O n l so
 | [], b, h => by simp [encO]
 | (m, .mp kk v) :: l, b, h => by
  intro n so hm
  have ext : ∀ x ∈ l, x ∈ (m, PObj.mp kk v) :: l := fun x hx => List.mem_cons_of_mem _ hx
  simp only [decO] at h
  split at h
  ·rename_i k y h1 h2
   split at h
   ·rename_i kk' k' x hx
    split at h
    ·rename_i hb
     obtain ⟨rfl, rfl⟩ := hb
     simp only [Option.some.injEq] at h; subst h
     simp only [encO, List.mem_cons, Prod.mk.injEq] at hm
     rcases hm with ⟨rfl, rfl⟩ | hm
     ·exact ⟨k, h1, hx⟩
     ·exact (decO_spec h2 n so hm).mem ext
    ·cases h
   ·cases h
  ·cases h
 | (m, .arr ts) :: l, b, h => by
  intro n so hm
  have ext : ∀ x ∈ l, x ∈ (m, PObj.arr ts) :: l := fun x hx => List.mem_cons_of_mem _ hx
  simp only [decO] at h
  split at h
  ·rename_i k y h1 h2
   split at h
   ·rename_i us x hx
    split at h
    ·rename_i hb
     have e := Tys.beq_eq us ts hb
     subst e
     simp only [Option.some.injEq] at h; subst h
     simp only [encO, List.mem_cons, Prod.mk.injEq] at hm
     rcases hm with ⟨rfl, rfl⟩ | hm
     ·exact .inl ⟨k, h1, hx⟩
     ·exact (decO_spec h2 n so hm).mem ext
    ·cases h
   ·cases h
  ·rename_i y h1 h2
   simp only [Option.some.injEq] at h; subst h
   simp only [encO, List.mem_cons, Prod.mk.injEq] at hm
   rcases hm with ⟨rfl, rfl⟩ | hm
   ·exact .inr ⟨h1, rfl⟩
   ·exact (decO_spec h2 n so hm).mem ext
  ·cases h
 | (m, .box cs) :: l, b, h => by
  intro n so hm
  have ext : ∀ x ∈ l, x ∈ (m, PObj.box cs) :: l := fun x hx => List.mem_cons_of_mem _ hx
  simp only [decO] at h
  split at h
  ·rename_i k y h1 h2
   split at h
   ·rename_i xs hx
    split at h
    ·rename_i a ha
     simp only [Option.some.injEq] at h; subst h
     simp only [encO, List.mem_cons, Prod.mk.injEq] at hm
     rcases hm with ⟨rfl, rfl⟩ | hm
     ·exact ⟨cs, xs, k, a, rfl, h1, hx, ha, List.mem_cons_self ..⟩
     ·exact (decO_spec h2 n so hm).mem ext
    ·cases h
   ·cases h
  ·cases h
theorem lookS_mem : ∀ {O : SObjs} {n : Nat} {o : SO}, lookS n O = some o → (n, o) ∈ O
 | [], n, o, h => by simp [lookS] at h
 | (m, p) :: r, n, o, h => by
  simp only [lookS] at h
  split at h
  ·rename_i e
   subst e
   simp only [Option.some.injEq] at h; subst h; exact List.mem_cons_self ..
  ·exact List.mem_cons_of_mem _ (lookS_mem h)
theorem lkE_mem : ∀ {E : List (Nat × SV)} {n : Nat}, lkE E n = .any ∨ (n, lkE E n) ∈ E
 | [], n => .inl rfl
 | (m, x) :: r, n => by
  by_cases e : m = n
  ·subst e; simp [lkE]
  ·simp only [lkE, e, if_false]
   rcases lkE_mem (E := r) (n := n) with h | h
   ·exact .inl h
   ·exact .inr (List.mem_cons_of_mem _ h)
theorem hasObj_spec : ∀ {l : List (Nat × PObj)} {n : Nat} (b : objsT l), hasObj n l = true → (lookS n (encO l b)).isSome = true
 | [], n, b, h => by simp [hasObj] at h
 | (m, o) :: l, n, b, h => by
  by_cases e : m = n
  ·subst e; cases o <;> simp [encO, lookS]
  ·simp only [hasObj, e, if_false] at h
   have := hasObj_spec (l := l) b.2 h
   cases o <;> simp [encO, lookS, e, this]
theorem hasBox_spec : ∀ {l : List (Nat × PObj)} {n : Nat} (b : objsT l), hasBox n l = true → ∃ cs, lookS n (encO l b) = some (.box cs)
 | [], n, b, h => by simp [hasBox] at h
 | (m, .arr ts) :: l, n, b, h => by
  by_cases e : m = n
  ·simp [hasBox, e] at h
  ·simp only [hasBox, e, if_false] at h
   obtain ⟨cs, hcs⟩ := hasBox_spec (l := l) b.2 h
   exact ⟨cs, by simp [encO, lookS, e, hcs]⟩
 | (m, .mp kk k) :: l, n, b, h => by
  by_cases e : m = n
  ·simp [hasBox, e] at h
  ·simp only [hasBox, e, if_false] at h
   obtain ⟨cs, hcs⟩ := hasBox_spec (l := l) b.2 h
   exact ⟨cs, by simp [encO, lookS, e, hcs]⟩
 | (m, .box cs) :: l, n, b, h => by
  by_cases e : m = n
  ·subst e; exact ⟨_, by simp [encO, lookS]; rfl⟩
  ·simp only [hasBox, e, if_false] at h
   obtain ⟨cs, hcs⟩ := hasBox_spec (l := l) b.2 h
   exact ⟨cs, by simp [encO, lookS, e, hcs]⟩
def nmP : PSlot → List Nat
 | .own m => [m]
 | .ref m _ => [m]
 | .wrp _ ns => ns.map (·.1)
 | .msl m _ => [m]
 | _ => []
theorem slotsOk_spec : ∀ {l : List (Nat × PSlot)}, slotsOk os l = true → ∀ i p, (i, p) ∈ l → ∀ n ∈ nmP p, hasObj n os = true
 | [], _ => by simp
 | (j, q) :: l, h => by
  have key : (∀ n ∈ nmP q, hasObj n os = true) ∧ slotsOk os l = true := by
   cases q with
   | d c => exact ⟨by simp [nmP], h⟩
   | cst c => exact ⟨by simp [nmP], h⟩
   | own m => simp only [slotsOk, Bool.and_eq_true] at h; exact ⟨by simpa [nmP] using h.1, h.2⟩
   | ref m sz => simp only [slotsOk, Bool.and_eq_true] at h; exact ⟨by simpa [nmP] using h.1, h.2⟩
   | msl m sz => simp only [slotsOk, Bool.and_eq_true] at h; exact ⟨by simpa [nmP] using h.1, h.2⟩
   | wrp f ns =>
    simp only [slotsOk, Bool.and_eq_true, List.all_eq_true] at h
    refine ⟨fun n hn => ?_, h.2⟩
    obtain ⟨x, hx, rfl⟩ := List.mem_map.1 hn
    exact h.1 x hx
  intro i p hm
  rcases List.mem_cons.1 hm with e | hm
  ·cases e; exact key.1
  ·exact slotsOk_spec key.2 i p hm
theorem objsOk_spec : ∀ {l : List (Nat × PObj)}, objsOk os l = true → ∀ n cs, (n, .box cs) ∈ l → cellsOk os cs = true
 | [], _ => by simp
 | (j, .arr ts) :: l, h => fun n cs hm => objsOk_spec (l := l) h n cs (by simpa using hm)
 | (j, .mp kk k) :: l, h => fun n cs hm => objsOk_spec (l := l) h n cs (by simpa using hm)
 | (j, .box ds) :: l, h => fun n cs hm => by
  simp only [objsOk, Bool.and_eq_true] at h
  rcases List.mem_cons.1 hm with e | hm
  ·cases e; exact h.1
  ·exact objsOk_spec h.2 n cs hm
theorem encO_small {l : List (Nat × PObj)} : ∀ {b : objsT l}, (l.all fun x => decide (x.1 < top)) = true → ∀ n so, lookS n (encO l b) = some so → n < top := by
 induction l with
 | nil => intro b _ n so h; simp [encO, lookS] at h
 | cons p l ih =>
  obtain ⟨m, o⟩ := p
  intro b h n so hl
  simp only [List.all_cons, Bool.and_eq_true, decide_eq_true_eq] at h
  by_cases e : m = n
  ·subst e; exact h.1
  ·have : lookS n (encO l b.2) = some so := by cases o <;> simpa [encO, lookS, e] using hl
   exact ih h.2 n so this
end Go.Abs
namespace Go.Abs
open Go.RowKit
theorem apartB_spec {a b : List Nat} (h : apartB a b = true) {x : Nat} (hx : x ∈ a) : x ∉ b := by
 unfold apartB at h
 rw [List.all_eq_true] at h
 have := h x hx
 simp only [Bool.not_eq_true'] at this
 intro hm
 have h2 : b.contains x = true := by simpa using hm
 rw [this] at h2; cases h2
theorem frozenE_mem {N : Nat} {s : SS} : ∀ {l : List (Nat × PSlot)} {i : Nat} {c : CT} {k : Nat}, (i, .d c) ∈ l → s.get N i = .v (.c (.own k)) → k ∈ frozenE N s l
 | [], i, c, k, h, _ => by simp at h
 | (j, p) :: l, i, c, k, h, hg => by
  rcases List.mem_cons.1 h with e | h
  ·cases e
   simp only [frozenE, hg]; exact List.mem_cons_self ..
  ·have := frozenE_mem h hg
   cases p with
   | d c' => simp only [frozenE]; split <;> simp [this]
   | _ => simp only [frozenE]; exact this
theorem ownsOf_mem : ∀ {l : List CV} {k : Nat}, CV.own k ∈ l → k ∈ ownsOf l
 | [], _, h => by simp at h
 | x :: l, k, h => by
  rcases List.mem_cons.1 h with e | h
  ·subst e; exact List.mem_cons_self ..
  ·have := ownsOf_mem h
   cases x with
   | own m => exact List.mem_cons_of_mem _ this
   | _ => exact this
theorem frozenE_memG {N : Nat} {s : SS} : ∀ {l : List (Nat × PSlot)} {i : Nat} {c : CT} {xs : List CV} {k : Nat}, (i, .d c) ∈ l → s.get N i = .v (.g xs) → CV.own k ∈ xs → k ∈ frozenE N s l
 | [], i, c, xs, k, h, _, _ => by simp at h
 | (j, p) :: l, i, c, xs, k, h, hg, hx => by
  rcases List.mem_cons.1 h with e | h
  ·cases e
   simp only [frozenE, hg]; exact List.mem_append.2 (.inl (ownsOf_mem hx))
  ·have := frozenE_memG h hg hx
   cases p with
   | d c' => simp only [frozenE]; split <;> simp [this]
   | _ => simp only [frozenE]; exact this
theorem frozenO_mem {μ : NMap} {O : SObjs} : ∀ {l : List (Nat × PObj)} {n k : Nat} {cs : List PC} {xs : List CV} {m : Nat}, (n, .box cs) ∈ l → lkN μ n = some (some k) → lookS k O = some (.box xs) → m ∈ frozenC cs xs → m ∈ frozenO μ O l
 | [], n, k, cs, xs, m, h, _, _, _ => by simp at h
 | (j, p) :: l, n, k, cs, xs, m, h, h1, h2, h3 => by
  rcases List.mem_cons.1 h with e | h
  ·cases e
   simp only [frozenO, h1, h2, List.mem_append]; exact .inl h3
  ·have := frozenO_mem h h1 h2 h3
   cases p with
   | arr ts => exact this
   | mp _ _ => exact this
   | box cs' =>
    simp only [frozenO]
    split
    ·split
     ·exact List.mem_append.2 (.inr this)
     ·exact this
    ·exact this
def newN (μ : NMap) (O' : SObjs) (D : Names) : Names := fun n =>
 if n < top then (match lookS n O' with
  | some _ => (match lkN μ n with | some (some k) => D k | some none => some none | none => none)
  | none => none)
 else D n
section
variable {N : Nat} {pins : List Nat} {p : Plan} {s : SS} {z : p.T} {w0 w : World} {M0 : Nat → Prop} {D : Names} {μ : NMap}
theorem newN_M {O' : SObjs} {b : Nat} (h : (newN μ O' D).M b) : ∃ n, D n = some (some b) ∧ (n ∈ ranN μ ∨ top ≤ n) := by
 obtain ⟨n, hn⟩ := h
 unfold newN at hn
 split at hn
 ·split at hn
  ·split at hn
   ·rename_i k hk; exact ⟨k, hn, .inl (ranN_mem hk)⟩
   ·simp at hn
   ·cases hn
  ·cases hn
 ·exact ⟨n, hn, .inr (by omega)⟩
theorem newN_lt {O' : SObjs} {n : Nat} (hn : n < top) {so : SO} (h : lookS n O' = some so) : newN μ O' D n = (match lkN μ n with | some (some k) => D k | some none => some none | none => none) := by
 simp only [newN, hn, if_true, h]
theorem cell_toT (hm : Mem w0 M0 (objsAV s.objs s.objs) D w) {O' : SObjs} {t : Ty} {x : CV} {a : t.T} (h : toT s.objs t x = some a) (hf : ∀ k, x = .own k → k ∉ ranN μ) {v : Value} (hv : Cell w D (x.av s.objs) v) :
  Cell w (newN μ O' D) (t.av a) v := by
 have low : ∀ b, b < w.heap.size → (newN μ O' D).M b → D.M b := fun b _ hb => by obtain ⟨n, h1, _⟩ := newN_M hb; exact ⟨n, h1⟩
 rcases toT_cases h with ⟨n, rfl⟩ | ⟨hn, hnf, _⟩
 ·obtain ⟨ts, l, hl, e⟩ := toT_own h
  rw [e]
  have hlk : look n (objsAV s.objs s.objs) = some (.arr ts.len (l.map ts.avs)) := by rw [lookS_av, hl]; rfl
  have hav : (CV.own n).av s.objs = .msl n ts.len 0 l.length := by simp [CV.av, hl]
  rw [hav] at hv
  have hview : viewSl (objsAV s.objs s.objs) ts.len (.msl n ts.len 0 l.length) = some (l.map ts.avs) := by
   have e2 : List.take l.length (List.map ts.avs l) = List.map ts.avs l := List.take_of_length_le (by simp)
   simp [viewSl, hlk, e2]
  have hrep := viewSl_sound hm hview hv.slot
  refine slice_imm (D := D) hrep (fun b o k cap hv2 hne hM => ?_) low
  obtain ⟨m, h1, h2⟩ := newN_M hM
  have hDn : D n = some (some b) := by
   rcases hv with ⟨_, h3, h4⟩ | ⟨b', cap', N', h3, h4, _⟩
   ·have : l = [] := List.length_eq_zero_iff.1 h3
    subst this
    exact absurd rfl hne
   ·rw [h4] at hv2
    have : b' = b := by injection hv2 with e1 e2 e3; injection e1 with e1; injection e1
    rw [← this]; exact h3
  have hnm := hm.inj m n b h1 hDn
  subst hnm
  rcases h2 with h2 | h2
  ·exact hf m rfl h2
  ·have := hm.small m (by rw [hlk]; rfl)
   omega
 ·have hle := toT_le h hn
  have hv' : Imm w D.M (x.av s.objs) v := by
   cases hx : x.av s.objs with
   | msl => rw [hx] at hnf; simp [nfC] at hnf
   | ref => rw [hx] at hnf; simp [nfC] at hnf
   | wrp => rw [hx] at hnf; simp [nfC] at hnf
   | _ => rw [hx] at hv; exact hv
  have := (leC_imm hle hv').mono (Grow.refl w _).toKeep low
  exact this.cell
theorem imm_low {O' : SObjs} : ∀ b, b < w.heap.size → (newN μ O' D).M b → D.M b := fun b _ hb => by obtain ⟨n, h1, _⟩ := newN_M hb; exact ⟨n, h1⟩
theorem toTs_len {O : SObjs} : ∀ {ts : Tys} {cs : List CV} {x : ts.T}, toTs O ts cs = some x → cs.length = ts.len
 | .nil, [], _, _ => rfl
 | .nil, _ :: _, _, h => by simp [toTs] at h
 | .cons _ _, [], _, h => by simp [toTs] at h
 | .cons t ts, y :: ys, x, h => by
  simp only [toTs] at h
  split at h
  ·rename_i h2; rw [List.length_cons, toTs_len h2]; rfl
  ·cases h
theorem cells_toTs (hm : Mem w0 M0 (objsAV s.objs s.objs) D w) {O' : SObjs} : ∀ {ts : Tys} {cs : List CV} {x : ts.T}, toTs s.objs ts cs = some x → (∀ k, CV.own k ∈ cs → k ∉ ranN μ) → ∀ (vs : List Value), vs.length = cs.length →
  (∀ (i : Nat) (y : AV), (cs.map (CV.av s.objs))[i]? = some y → Cell w D y (vs.getD i undef) ∧ (vs.getD i undef).oneCell' = true) →
  (∀ (i : Nat) (y : AV), (ts.avs x)[i]? = some y → Cell w (newN μ O' D) y (vs.getD i undef) ∧ (vs.getD i undef).oneCell' = true)
 | .nil, [], _, _, _ => fun _ _ _ i y hy => by simp [Tys.avs] at hy
 | .nil, _ :: _, _, h, _ => by simp [toTs] at h
 | .cons _ _, [], _, h, _ => by simp [toTs] at h
 | .cons t ts, c :: cs, x, h, hf => by
  simp only [toTs] at h
  split at h
  case h_2 => cases h
  rename_i a b h1 h2
  cases h
  intro vs hl hc i y hy
  match vs, hl with
  | v :: vs, hl =>
   cases i with
   | zero =>
    simp only [Tys.avs, List.getElem?_cons_zero, Option.some.injEq] at hy
    subst hy
    obtain ⟨g1, g2⟩ := hc 0 _ rfl
    exact ⟨cell_toT hm h1 (fun k hk => hf k (by rw [hk]; exact List.mem_cons_self ..)) g1, g2⟩
   | succ i =>
    have := cells_toTs (O' := O') hm h2 (fun k hk => hf k (List.mem_cons_of_mem _ hk)) vs (by simpa using hl) (fun i y hi => by simpa using hc (i + 1) y (by simpa using hi)) i y (by simpa [Tys.avs] using hy)
    simpa using this
theorem decC_d {O : SObjs} {t : Ty} {cs : List PC} {x : CV} {xs : List CV} {y : (dtsP (.d t :: cs)).T} (h : decC O (.d t :: cs) (x :: xs) = some y) : ∃ a b, toT O t x = some a ∧ decC O cs xs = some b ∧ y = (a, b) := by
 have h : (match toT O t x, decC O cs xs with
  | some a, some b => some (a, b)
  | _, _ => none : Option (t.T × (dtsP cs).T)) = some y := h
 split at h
 ·rename_i a b h1 h2
  exact ⟨a, b, h1, h2, (Option.some.inj h).symm⟩
 ·cases h
theorem decC_len {O : SObjs} : ∀ {cs : List PC} {xs : List CV} {y : (dtsP cs).T}, decC O cs xs = some y → xs.length = (encC cs y).length
 | [], [], y, _ => rfl
 | [], _ :: _, y, h => by cases (show (none : Option (dtsP []).T) = some y from h)
 | .d t :: cs, [], y, h => by cases (show (none : Option (dtsP (.d t :: cs)).T) = some y from h)
 | .own m :: cs, [], y, h => by cases (show (none : Option (dtsP (.own m :: cs)).T) = some y from h)
 | .cst m :: cs, [], y, h => by cases (show (none : Option (dtsP (.cst m :: cs)).T) = some y from h)
 | .ref m n :: cs, [], y, h => by cases (show (none : Option (dtsP (.ref m n :: cs)).T) = some y from h)
 | .wrp m n :: cs, [], y, h => by cases (show (none : Option (dtsP (.wrp m n :: cs)).T) = some y from h)
 | .d t :: cs, x :: xs, y, h => by
  obtain ⟨a, b, h1, h2, rfl⟩ := decC_d h
  exact congrArg (· + 1) (decC_len h2)
 | .own m :: cs, x :: xs, y, h => by
  exact congrArg (· + 1) (decC_len (y := y) (cs := cs) h)
 | .cst m :: cs, x :: xs, y, h => by
  exact congrArg (· + 1) (decC_len (y := y) (cs := cs) h)
 | .ref m n :: cs, x :: xs, y, h => by
  exact congrArg (· + 1) (decC_len (y := y) (cs := cs) h)
 | .wrp m n :: cs, x :: xs, y, h => by
  exact congrArg (· + 1) (decC_len (y := y) (cs := cs) h)
theorem own_cell (_hm : Mem w0 M0 (objsAV s.objs s.objs) D w) {O' : SObjs} (hO : ∀ n so, lookS n O' = some so → n < top ∧ ∃ l, ObjOk μ s.objs n l so) {m : Nat} {v : Value}
  (h : (∃ k, lkN μ m = some (some k) ∧ Cell w D ((CV.own k).av s.objs) v) ∨ (lkN μ m = some none ∧ v = .slice none 0 0)) :
  Cell w (newN μ O' D) ((CV.own m).av O') v := by
 simp only [CV.av]
 split
 ·rename_i ts x hx
  obtain ⟨hmt, l, hob⟩ := hO m _ hx
  have hN := newN_lt (μ := μ) (D := D) hmt hx
  rcases hob with ⟨k, hk, hlk⟩ | ⟨hk, rfl⟩
  ·rcases h with ⟨k', hk', hv⟩ | ⟨hk', _⟩
   ·rw [hk] at hk'; cases hk'
    simp only [CV.av, hlk] at hv
    rcases hv with ⟨h1, h2⟩ | ⟨b, cap, N', h1, h2⟩
    ·exact .inl ⟨by rw [hN, hk]; exact h1, h2⟩
    ·exact .inr ⟨b, cap, N', by rw [hN, hk]; exact h1, h2⟩
   ·rw [hk] at hk'; cases hk'
  ·rcases h with ⟨k', hk', _⟩ | ⟨_, hv⟩
   ·rw [hk] at hk'; cases hk'
   ·exact .inl ⟨by rw [hN, hk]; rfl, rfl, none, hv⟩
 ·exact imm_any _ _ _
theorem ref_cell {O' : SObjs} (hO : ∀ n so, lookS n O' = some so → n < top ∧ ∃ l, ObjOk μ s.objs n l so) {m k sz : Nat} {v : Value} (hk : lkN μ m = some (some k)) (hob : ∃ so, lookS m O' = some so)
  (h : Cell w D ((CV.ref k sz 0 0).av s.objs) v) : Cell w (newN μ O' D) ((CV.ref m sz 0 0).av O') v := by
 obtain ⟨so, hso⟩ := hob
 obtain ⟨b, h3, h4⟩ := h
 refine ⟨b, ?_, h4⟩
 rw [newN_lt (hO m so hso).1 hso, hk]
 exact h3
theorem cap_names {O' : SObjs} (hO : ∀ n so, lookS n O' = some so → n < top ∧ ∃ l, ObjOk μ s.objs n l so) : ∀ {ns ms : List (Nat × Nat)}, CapOk μ ns ms → (∀ n ∈ ns.map (·.1), ∃ so, lookS n O' = some so) →
  ns.length = ms.length ∧ ∀ (i n : Nat) (d : Option (Option Nat)), (ns.map (·.1))[i]? = some n → (∀ m, (ms.map (·.1))[i]? = some m → D m = d) → newN μ O' D n = d
 | [], [], _, _ => ⟨rfl, fun i n d h => by simp at h⟩
 | (n, sz) :: ns, (k, sz') :: ms, ⟨h1, h2, h3⟩, hob => by
  obtain ⟨g1, g2⟩ := cap_names hO h3 (fun n hn => hob n (by simp only [List.map_cons, List.mem_cons]; exact .inr hn))
  refine ⟨by simp [g1], fun i m d hi hd => ?_⟩
  cases i with
  | zero =>
   simp only [List.map_cons, List.getElem?_cons_zero, Option.some.injEq] at hi hd
   subst hi
   obtain ⟨so, hso⟩ := hob n (by simp)
   rw [newN_lt (hO n so hso).1 hso, h2]
   exact hd k rfl
  | succ i =>
   simp only [List.map_cons, List.getElem?_cons_succ] at hi hd
   exact g2 i m d hi hd
 | [], _ :: _, h, _ => h.elim
 | (_, _) :: _, [], h, _ => h.elim
theorem wrp_cell {O' : SObjs} (hO : ∀ n so, lookS n O' = some so → n < top ∧ ∃ l, ObjOk μ s.objs n l so) {f : Option FuncId × TypeId} {ns ms : List (Nat × Nat)} {v : Value} (hk : CapOk μ ns ms) (hob : ∀ n ∈ ns.map (·.1), ∃ so, lookS n O' = some so)
  (h : Cell w D ((CV.wrp f ms).av s.objs) v) : Cell w (newN μ O' D) ((CV.wrp f ns).av O') v := by
 obtain ⟨g1, g2⟩ := cap_names (D := D) hO hk hob
 obtain ⟨bs, h1, h2, h3⟩ := h
 refine ⟨bs, by rw [h1]; simp [g1], fun i n b hn hb => ?_, h3⟩
 refine g2 i n _ hn fun m hm => ?_
 exact h2 i m b hm hb
theorem box_cells (hm : Mem w0 M0 (objsAV s.objs s.objs) D w) {O' : SObjs} (hO : ∀ n so, lookS n O' = some so → n < top ∧ ∃ l, ObjOk μ s.objs n l so)
  (hob : ∀ n, hasObj n p.objs = true → ∃ so, lookS n O' = some so) :
  ∀ {cs : List PC} {xs : List CV} {y : (dtsP cs).T} {vs : List Value}, cellsOk p.objs cs = true → decC s.objs cs xs = some y → CellsOk μ cs xs → (∀ m ∈ frozenC cs xs, m ∉ ranN μ) → vs.length = xs.length →
  (∀ (i : Nat) (a : AV), (xs.map (CV.av s.objs))[i]? = some a → Cell w D a (vs.getD i undef) ∧ (vs.getD i undef).oneCell' = true) →
  (∀ (i : Nat) (a : AV), ((encC cs y).map (CV.av O'))[i]? = some a → Cell w (newN μ O' D) a (vs.getD i undef) ∧ (vs.getD i undef).oneCell' = true)
 | [], [], y, vs, _, _, _, _, _, _ => by intro i a h; cases (show (none : Option AV) = some a by rw [← h]; rfl)
 | .d t :: cs, x :: xs, y, [], _, _, _, _, hl, _ => by simp at hl
 | .d t :: cs, x :: xs, y, v :: vs, hk0, h, hc, hf, hl, hv => by
  obtain ⟨a, b, h1, h2, rfl⟩ := decC_d h
  ·cases hc with
   | d hc =>
    have hf' : ∀ m ∈ frozenC cs xs, m ∉ ranN μ := fun m hmem => hf m (by cases x <;> simp only [frozenC, List.mem_cons, hmem, or_true])
    intro i c hi
    cases i with
    | zero =>
     simp only [encC, List.map_cons, List.getElem?_cons_zero, Option.some.injEq] at hi; subst hi
     obtain ⟨g1, g2⟩ := hv 0 (x.av s.objs) (by rw [List.map_cons, List.getElem?_cons_zero])
     refine ⟨?_, g2⟩
     have := cell_toT (μ := μ) (O' := O') hm h1 (fun k e => by subst e; exact hf k (by simp [frozenC])) g1
     show Cell w _ (t.kv a).av _
     rw [kv_av]; exact this
    | succ i =>
     simp only [encC, List.map_cons, List.getElem?_cons_succ] at hi
     have := box_cells hm hO hob (cs := cs) (vs := vs) hk0 h2 hc hf' (by simpa using hl) (fun i a ha => by simpa using hv (i + 1) a (by simpa using ha)) i c hi
     simpa using this
 | .own m :: cs, x :: xs, y, [], _, _, _, _, hl, _ => by simp at hl
 | .own m :: cs, x :: xs, y, v :: vs, hk0, h, hc, hf, hl, hv => by
  have h : decC s.objs cs xs = some y := h
  have hx : ((∃ k, lkN μ m = some (some k) ∧ Cell w D ((CV.own k).av s.objs) v) ∨ (lkN μ m = some none ∧ v = .slice none 0 0)) ∧ CellsOk μ cs xs ∧ ∀ m ∈ frozenC cs xs, m ∉ ranN μ := by
   cases hc with
   | own hk hc => exact ⟨.inl ⟨_, hk, by simpa using (hv 0 _ (by rw [List.map_cons, List.getElem?_cons_zero])).1⟩, hc, fun m hmem => hf m (by simp [frozenC, hmem])⟩
   | nsl hk hc =>
    refine ⟨.inr ⟨hk, ?_⟩, hc, fun m hmem => hf m (by simp [frozenC, hmem])⟩
    have := (hv 0 .nsl (by simp [CV.av])).1
    simp only [Cell, List.getD_cons_zero] at this
    cases this; rfl
  intro i c hi
  cases i with
  | zero =>
   simp only [encC, List.map_cons, List.getElem?_cons_zero, Option.some.injEq] at hi; subst hi
   exact ⟨own_cell hm hO hx.1, (hv 0 (x.av s.objs) (by simp)).2⟩
  | succ i =>
   simp only [encC, List.map_cons, List.getElem?_cons_succ] at hi
   have := box_cells hm hO hob (cs := cs) (xs := xs) (y := y) (vs := vs) hk0 h hx.2.1 hx.2.2 (by simpa using hl) (fun i a ha => by simpa using hv (i + 1) a (by simpa using ha)) i c hi
   simpa using this
 | .cst m :: cs, x :: xs, y, [], _, _, _, _, hl, _ => by simp at hl
 | .cst m :: cs, x :: xs, y, v :: vs, hk0, h, hc, hf, hl, hv => by
  have h : decC s.objs cs xs = some y := h
  cases hc with
  | cst hc =>
   intro i c hi
   cases i with
   | zero =>
    simp only [encC, List.map_cons, List.getElem?_cons_zero, Option.some.injEq] at hi; subst hi
    obtain ⟨g1, g2⟩ := hv 0 ((CV.cst m).av s.objs) (by simp)
    refine ⟨?_, g2⟩
    simp only [CV.av, Cell, List.getD_cons_zero] at g1 ⊢
    cases g1; exact .cst _
   | succ i =>
    simp only [encC, List.map_cons, List.getElem?_cons_succ] at hi
    have := box_cells hm hO hob (cs := cs) (xs := xs) (y := y) (vs := vs) hk0 h hc (fun m hmem => hf m (by simp [frozenC, hmem])) (by simpa using hl) (fun i a ha => by simpa using hv (i + 1) a (by simpa using ha)) i c hi
    simpa using this
 | .ref m n :: cs, x :: xs, y, [], _, _, _, _, hl, _ => by simp at hl
 | .ref m n :: cs, x :: xs, y, v :: vs, hk0, h, hc, hf, hl, hv => by
  have h : decC s.objs cs xs = some y := h
  have hk1 : hasObj m p.objs = true ∧ cellsOk p.objs cs = true := by simpa [cellsOk] using hk0
  cases hc with
  | ref hk hc =>
   intro i c hi
   cases i with
   | zero =>
    simp only [encC, List.map_cons, List.getElem?_cons_zero, Option.some.injEq] at hi; subst hi
    obtain ⟨g1, g2⟩ := hv 0 _ (by rw [List.map_cons, List.getElem?_cons_zero])
    exact ⟨ref_cell (s := s) hO hk (hob m hk1.1) g1, g2⟩
   | succ i =>
    simp only [encC, List.map_cons, List.getElem?_cons_succ] at hi
    have := box_cells hm hO hob (cs := cs) (xs := xs) (y := y) (vs := vs) hk1.2 h hc (fun m hmem => hf m (by simp [frozenC, hmem])) (by simpa using hl) (fun i a ha => by simpa using hv (i + 1) a (by simpa using ha)) i c hi
    simpa using this
 | .wrp f ns :: cs, x :: xs, y, [], _, _, _, _, hl, _ => by simp at hl
 | .wrp f ns :: cs, x :: xs, y, v :: vs, hk0, h, hc, hf, hl, hv => by
  have h : decC s.objs cs xs = some y := h
  have hk1 : (∀ n ∈ ns.map (·.1), hasObj n p.objs = true) ∧ cellsOk p.objs cs = true := by
   have hk0 : ((ns.all fun q => hasObj q.1 p.objs) && cellsOk p.objs cs) = true := hk0
   rw [Bool.and_eq_true, List.all_eq_true] at hk0
   refine ⟨fun n hn => ?_, hk0.2⟩
   obtain ⟨q, hq, rfl⟩ := List.mem_map.1 hn
   exact hk0.1 q hq
  cases hc with
  | wrp hk hc =>
   intro i c hi
   cases i with
   | zero =>
    simp only [encC, List.map_cons, List.getElem?_cons_zero, Option.some.injEq] at hi; subst hi
    obtain ⟨g1, g2⟩ := hv 0 _ (by rw [List.map_cons, List.getElem?_cons_zero])
    exact ⟨wrp_cell (s := s) hO hk (fun n hn => hob n (hk1.1 n hn)) g1, g2⟩
   | succ i =>
    simp only [encC, List.map_cons, List.getElem?_cons_succ] at hi
    have := box_cells hm hO hob (cs := cs) (xs := xs) (y := y) (vs := vs) hk1.2 h hc (fun m hmem => hf m (by simp [frozenC, hmem])) (by simpa using hl) (fun i a ha => by simpa using hv (i + 1) a (by simpa using ha)) i c hi
    simpa using this
 | [], _ :: _, y, vs, _, h, _, _, _, _ => by cases (show (none : Option (dtsP []).T) = some y from h)
 | .d t :: cs, [], y, vs, _, h, _, _, _, _ => by cases (show (none : Option (dtsP (.d t :: cs)).T) = some y from h)
 | .own m :: cs, [], y, vs, _, h, _, _, _, _ => by cases (show (none : Option (dtsP (.own m :: cs)).T) = some y from h)
 | .cst m :: cs, [], y, vs, _, h, _, _, _, _ => by cases (show (none : Option (dtsP (.cst m :: cs)).T) = some y from h)
 | .ref m n :: cs, [], y, vs, _, h, _, _, _, _ => by cases (show (none : Option (dtsP (.ref m n :: cs)).T) = some y from h)
 | .wrp f ns :: cs, [], y, vs, _, h, _, _, _, _ => by cases (show (none : Option (dtsP (.wrp f ns :: cs)).T) = some y from h)
end
theorem dec_weaker {N : Nat} {pins : List Nat} {p : Plan} {s : SS} {z : p.T} (h : p.dec N pins s = some z) : Weaker pins (s.st N) ((p.enc z).st N) := by
 unfold Plan.dec at h
 split at h
 ·cases h
 rename_i μ1 h1
 split at h
 ·cases h
 rename_i μ h2
 split at h
 case isFalse => cases h
 rename_i hcond
 obtain ⟨hok, hnd, hap⟩ := hcond
 obtain ⟨hE1, hE2⟩ := decE_spec h
 have hO0 := decO_spec hE1
 obtain ⟨m1, m2⟩ := mapSlots_spec h1
 obtain ⟨m4, m5⟩ := mapObjs_spec h2
 unfold Plan.okP at hok
 simp only [Bool.and_eq_true] at hok
 obtain ⟨ok1, ok2, ok6, ok3⟩ := hok
 have ok4 := slotsOk_spec ok2
 have ok7 := objsOk_spec ok6
 have hnd := nodupB_spec hnd
 rintro w0 M0 D0 a w hp ⟨hdf, D, hm, he, hpin⟩
 have hm : Mem w0 M0 (objsAV s.objs s.objs) D w := hm
 generalize hO' : encO p.objs (restE p.slots z) = O' at *
 have hO : ∀ n so, lookS n O' = some so → n < top ∧ ∃ l, ObjOk μ s.objs n l so := fun n so hl => by
  rw [← hO'] at hl
  exact ⟨encO_small ok1 n so hl, _, hO0 n so (by rw [← hO']; exact lookS_mem hl)⟩
 have hO2 : ∀ n so, lookS n O' = some so → ObjOk μ s.objs n p.objs so := fun n so hl => hO0 n so (lookS_mem hl)
 have hob : ∀ n, hasObj n p.objs = true → ∃ so, lookS n O' = some so := fun n hn => by
  have := hasObj_spec (restE p.slots z) hn
  rw [hO'] at this
  exact Option.isSome_iff_exists.1 this
 have htop : ∀ k, (lookS k s.objs).isSome = true → k < top := fun k hk => hm.small k (by rw [lookS_av]; revert hk; cases lookS k s.objs <;> simp)
 have hDk : ∀ k, (lookS k s.objs).isSome = true → (D k).isSome = true := fun k hk => by
  rw [hm.dom k (htop k hk), lookS_av]; revert hk; cases lookS k s.objs <;> simp
 have hkO : ∀ n so k, lookS n O' = some so → lkN μ n = some (some k) → (lookS k s.objs).isSome = true := by
  intro n so k hl hk
  have := hO2 n so hl
  cases so with
  | arr ts x =>
   rcases this with ⟨k', hk', hl'⟩ | ⟨hk', _⟩
   ·rw [hk] at hk'; cases hk'; rw [hl']; rfl
   ·rw [hk] at hk'; cases hk'
  | mp kk v x =>
   obtain ⟨k', hk', hl'⟩ := this
   rw [hk] at hk'; cases hk'; rw [hl']; rfl
  | box ys =>
   obtain ⟨cs, xs, k', y, _, hk', hl', _⟩ := this
   rw [hk] at hk'; cases hk'; rw [hl']; rfl
 have hst : ((p.enc z).st N).objs = objsAV O' O' := by
  show objsAV (p.enc z).objs (p.enc z).objs = _
  simp only [Plan.enc, hO']
 refine ⟨hdf, newN μ O' D, ?_, ?_, ?_⟩
 ·rw [hst]
  refine ⟨fun n hn => ?_, fun n hn => ?_, fun n o' d ho' hD => ?_, fun n m b e1 e2 => ?_, fun b hb => ?_, fun b hb => ?_, hm.grow, hm.os, hm.tape, hm.output, hm.glob.mono (Grow.refl w _).toKeep fun b _ hb => by obtain ⟨n, h1, _⟩ := newN_M hb; exact ⟨n, h1⟩⟩
  ·rw [lookS_av]
   cases hl : lookS n O' with
   | none => simp [newN, hn, hl]
   | some so =>
    rw [newN_lt hn hl]
    have := hO2 n so hl
    cases so with
    | arr ts x =>
     rcases this with ⟨k, hk, hl'⟩ | ⟨hk, _⟩
     ·simp only [hk]; rw [hDk k (by rw [hl']; rfl)]; rfl
     ·simp only [hk]; rfl
    | mp kk v x =>
     obtain ⟨k, hk, hl'⟩ := this
     simp only [hk]; rw [hDk k (by rw [hl']; rfl)]; rfl
    | box ys =>
     obtain ⟨cs, xs, k, y, _, hk, hl', _⟩ := this
     simp only [hk]; rw [hDk k (by rw [hl']; rfl)]; rfl
  ·rw [lookS_av] at hn
   cases hl : lookS n O' with
   | none => rw [hl] at hn; simp at hn
   | some so => exact (hO n so hl).1
  ·rw [lookS_av] at ho'
   cases hl : lookS n O' with
   | none => rw [hl] at ho'; simp at ho'
   | some so =>
    rw [hl] at ho'
    simp only [Option.map_some, Option.some.injEq] at ho'; subst ho'
    have hnt := (hO n so hl).1
    rw [newN_lt hnt hl] at hD
    have := hO2 n so hl
    cases so with
    | arr ts x =>
     rcases this with ⟨k, hk, hl'⟩ | ⟨hk, rfl⟩
     ·simp only [hk] at hD
      have hr := hm.rep k (.arr ts.len (x.map ts.avs)) d (by rw [lookS_av, hl']; rfl) hD
      exact arrRep_lower hr imm_low
     ·simp only [hk, Option.some.injEq] at hD; subst hD
      rfl
    | mp kk v x =>
     obtain ⟨k, hk, hl'⟩ := this
     simp only [hk] at hD
     have hr := hm.rep k (.mp kk v x) d (by rw [lookS_av, hl']; rfl) hD
     cases d with
     | none => exact hr.elim
     | some b => exact hr
    | box ys =>
     obtain ⟨cs, xs, k, y, rfl, hk, hl', hdec, hmem⟩ := this
     simp only [hk] at hD
     have hr := hm.rep k (.box (xs.map (CV.av s.objs))) d (by rw [lookS_av, hl']; rfl) hD
     obtain ⟨k2, xs2, hk2, hl2, hcells⟩ := m5 n cs hmem
     rw [hk] at hk2; cases hk2
     rw [hl'] at hl2; cases hl2
     cases d with
     | none => exact hr.elim
     | some b =>
      obtain ⟨vs, T, g1, g2, g3⟩ := hr
      have hlen : vs.length = xs.length := by rw [g2, List.length_map]
      refine ⟨vs, T, g1, by rw [hlen, List.length_map]; exact decC_len hdec, ?_⟩
      exact box_cells hm hO hob (ok7 n cs hmem) hdec hcells (fun m hmf => apartB_spec hap (List.mem_append.2 (.inr (frozenO_mem hmem hk hl' hmf)))) hlen g3
  ·
   have key : ∀ n, newN μ O' D n = some (some b) → (n < top ∧ ∃ k, lkN μ n = some (some k) ∧ D k = some (some b) ∧ k < top) ∨ (top ≤ n ∧ D n = some (some b)) := by
    intro n hn
    rcases Nat.lt_or_ge n top with hlt | hge
    ·refine .inl ⟨hlt, ?_⟩
     simp only [newN, hlt, if_true] at hn
     split at hn
     ·rename_i so hl
      split at hn
      ·rename_i k hk; exact ⟨k, hk, hn, htop k (hkO n so k hl hk)⟩
      ·simp at hn
      ·cases hn
     ·cases hn
    ·refine .inr ⟨hge, ?_⟩
     simpa [newN, Nat.not_lt.2 hge] using hn
   rcases key n e1 with ⟨_, k1, q1, q2, q3⟩ | ⟨q1, q2⟩
   ·rcases key m e2 with ⟨_, k2, r1, r2, r3⟩ | ⟨r1, r2⟩
    ·have := hm.inj k1 k2 b q2 r2
     subst this
     exact ranN_inj hnd q1 r1
    ·have := hm.inj k1 m b q2 r2; omega
   ·rcases key m e2 with ⟨_, k2, r1, r2, r3⟩ | ⟨r1, r2⟩
    ·have := hm.inj n k2 b q2 r2; omega
    ·exact hm.inj n m b q2 r2
  ·obtain ⟨n, h1, _⟩ := newN_M hb; exact hm.lt b ⟨n, h1⟩
  ·obtain ⟨n, hn, h1⟩ := hb
   simp only [newN, hn, if_true] at h1
   split at h1
   ·rename_i so hl
    split at h1
    ·rename_i k hk; exact hm.own b ⟨k, htop k (hkO n so k hl hk), h1⟩
    ·simp at h1
    ·cases h1
   ·cases h1
 ·
  refine ⟨by rw [st_len, he.1, st_len], fun i y hy => ?_⟩
  simp only [SS.st, List.getElem?_map] at hy
  obtain ⟨j, hj, rfl⟩ := Option.map_eq_some_iff.1 hy
  have hji : j = i ∧ i < N := by
   by_cases hi : i < N
   ·rw [List.getElem?_range hi] at hj
    simp only [Option.some.injEq] at hj
    exact ⟨hj.symm, hi⟩
   ·rw [List.getElem?_eq_none (by simpa using hi)] at hj; cases hj
  obtain ⟨rfl, hi⟩ := hji
  have hold : Slot w D ((s.get N j).av s.objs) (a.tmps.getD j undef) := by
   refine he.2 j _ ?_
   simp only [SS.st, List.getElem?_map, List.getElem?_range hi, Option.map_some, SS.get, hi, if_true]
  show Slot w _ ((lkE (encE p.slots z) j).av (encO p.objs (restE p.slots z))) _
  rw [hO']
  rcases lkE_mem (E := encE p.slots z) (n := j) with e | hmem
  ·rw [e]; exact slot_any _ _ _
  ·rcases hE2 j _ hmem with ⟨c, x, e1, e2, e3⟩ | ⟨q, e2, e1⟩ | ⟨m, sz, k, sz', off, len, e1, e2, e3⟩
   ·rw [e1, csv_av]
    have hfz : ∀ k, s.get N j = .v (.c (.own k)) → k ∉ ranN μ := fun k hk => apartB_spec hap (List.mem_append.2 (.inl (frozenE_mem e3 hk)))
    have hfg : ∀ xs k, s.get N j = .v (.g xs) → CV.own k ∈ xs → k ∉ ranN μ := fun xs k hk hx => apartB_spec hap (List.mem_append.2 (.inl (frozenE_memG e3 hk hx)))
    generalize s.get N j = g at *
    cases c with
    | ty t =>
     cases g with
     | tup l => simp [toCT] at e2
     | v y =>
      cases y with
      | g l => simp [toCT] at e2
      | c y =>
       have e2 : toT s.objs t y = some x := e2
       have hcell : Cell w D (y.av s.objs) (a.tmps.getD j undef) := by
        simp only [SV.av, VV.av] at hold
        cases hy : y.av s.objs with
        | agg l => exact absurd hy (not_agg.1 l)
        | tup l => exact absurd hy (not_agg.2 l)
        | _ => rw [hy] at hold; exact hold
       exact (cell_toT hm e2 (fun k hk => hfz k (by rw [hk])) hcell).slot
    | ag ts =>
     cases g with
     | tup l => simp [toCT] at e2
     | v y =>
      cases y with
      | c y => simp [toCT] at e2
      | g l =>
       have e2 : toTs s.objs ts l = some x := e2
       obtain ⟨vs, g1, g2, g3⟩ := hold
       refine ⟨vs, g1, ?_, ?_⟩
       ·rw [g2, List.length_map, toTs_len e2, avs_len]
       ·exact cells_toTs hm e2 (fun k hk => hfg l k rfl hk) _ (by rw [g2, List.length_map]) g3
   ·have hsl := (m2 j q e2).mono m4
    have hnames := ok4 j q e2
    cases q with
    | d c => cases e1
    | own m =>
     simp only [encP, Option.some.injEq] at e1
     rw [← e1]
     refine Cell.slot (own_cell hm hO ?_)
     rcases hsl with ⟨k, hk, hk2⟩ | ⟨hk, hk2⟩
     ·refine .inl ⟨k, hk2, ?_⟩
      rw [hk] at hold
      simp only [SV.av, VV.av] at hold
      cases hy : (CV.own k).av s.objs with
      | agg l => exact absurd hy (not_agg.1 l)
      | tup l => exact absurd hy (not_agg.2 l)
      | _ => rw [hy] at hold; exact hold
     ·refine .inr ⟨hk2, ?_⟩
      rw [hk] at hold
      exact slot_nsl hold
    | ref m sz =>
     simp only [encP, Option.some.injEq] at e1
     rw [← e1]
     obtain ⟨k, hk, hk2⟩ := hsl
     rw [hk] at hold
     exact ref_cell (s := s) (w := w) hO hk2 (hob m (hnames m (by simp [nmP]))) hold
    | cst c =>
     simp only [encP, Option.some.injEq] at e1
     rw [← e1]
     have hk : s.get N j = .v (.c (.cst c)) := hsl
     rw [hk] at hold
     have hold : Slot w D (.cst c.val) (a.tmps.getD j undef) := hold
     simp only [Slot, Val, Cell] at hold
     generalize a.tmps.getD j undef = u at hold
     cases hold
     exact (Imm.cst _).slot
    | wrp f ns =>
     simp only [encP, Option.some.injEq] at e1
     rw [← e1]
     obtain ⟨ms, hk, hk2⟩ := hsl
     rw [hk] at hold
     exact wrp_cell (s := s) (w := w) hO hk2 (fun n hn => hob n (hnames n hn)) hold
    | msl m sz => cases e1
   ·obtain ⟨k2, off2, len2, hk, hk2⟩ := (m2 j _ e1).mono m4
    rw [e2] at hk; cases hk
    rw [e2] at hold
    rw [e3]
    obtain ⟨so, hso⟩ := hob m (ok4 j _ e1 m (by simp [nmP]))
    have hN := newN_lt (μ := μ) (D := D) (hO m so hso).1 hso
    rw [hk2] at hN
    rcases hold with ⟨h3, h4⟩ | ⟨b, cap, N', h3, h4⟩
    ·exact .inl ⟨by rw [hN]; exact h3, h4⟩
    ·exact .inr ⟨b, cap, N', by rw [hN]; exact h3, h4⟩
 ·intro n d hn
  obtain ⟨q1, q2⟩ := hpin n d hn
  rcases Nat.lt_or_ge n top with hlt | hge
  ·have hnp := hp n hlt (by rw [hn]; rfl)
   rw [List.all_eq_true] at ok3
   obtain ⟨cs, hcs⟩ := hasBox_spec (restE p.slots z) (ok3 n hnp)
   rw [hO'] at hcs
   refine ⟨?_, fun _ => ?_⟩
   ·rw [newN_lt hlt hcs, m4 _ _ (m1 _ _ (pinMap_spec hnp))]
    exact q1
   ·rw [hst, lookS_av, hcs]
    exact ⟨_, rfl⟩
  ·refine ⟨?_, fun h => by omega⟩
   simp only [newN, Nat.not_lt.2 hge, if_false]; exact q1
end Go.Abs
namespace Go.Abs
open Go.RowKit
variable {FT : List (Nat × Entry)}
def PostK {R : Type} (N : Nat) (k : Exit → SS → Option R) (r : R) (e : Exit) (s : St) : Prop := ∃ f : SS, s = f.st N ∧ k e f = some r
theorem alloc_step {P : Program} {C : Cfg} (hG : Good P C.G) {R : Type} {ops : Array Oper} {d : Tmp} {T : TypeId} {ty : TypeId} {pos : String} {aft : Array Edge} {s : SS} {K : SS → Option R} {r : R}
  (h : sGo C FT false ops.toList [⟨some d, .alloc T, ty, pos, aft, none⟩] s K = some r) :
  ∃ f' : SS, K f' = some r ∧ (zeroCells P T).isSome = true ∧
   ∀ w0 M0 D0 a w, Sat w0 M0 D0 (s.st C.N) a w → wpList P ops (fun e a' w' => e = .normal ∧ Sat w0 M0 D0 (f'.st C.N) a' w') [⟨some d, .alloc T, ty, pos, aft, none⟩] a w := by
 simp only [sGo, sOp, appT, sOp0, sR, Bool.false_eq_true, if_false] at h
 split at h
 ·rename_i c x s' hr
  obtain ⟨hc, hK⟩ := need_some h
  have hz : (zeroCells P T).isSome = true := by
   simp only [sH] at hr
   split at hr
   case isFalse => cases hr
   split at hr
   case h_2 => cases hr
   split at hr
   ·rename_i e; obtain ⟨_, _, _, z, g, _⟩ := hG T _ e; rw [g]; rfl
   ·rename_i e; obtain ⟨_, _, _, g, _⟩ := hG T _ e; rw [g]; rfl
   ·rename_i e; obtain ⟨_, _, g, _⟩ := hG T _ e; rw [g]; rfl
   ·rename_i e; obtain ⟨_, _, g, _⟩ := hG T _ e; rw [g]; rfl
   ·rename_i e; obtain ⟨_, _, g, _⟩ := hG T _ e; rw [g]; rfl
   ·rename_i e; obtain ⟨_, _, _, _, g, _⟩ := hG T _ e; rw [g]; rfl
   ·rename_i e; obtain ⟨_, _, g, _⟩ := hG T _ e; rw [g]; rfl
   ·cases hr
  obtain ⟨s1, r1, b1, b2, b3, b4, b5, b6⟩ := sH_sound hG hr hc
  refine ⟨_, hK, hz, fun w0 M0 D0 a w hs => ?_⟩
  exact xOp_sound (o := ⟨some d, .alloc T, ty, pos, aft, none⟩) noT_ok (xOp_h (guard_none rfl) b3 b4 b5) (b1 _ _ _ _ _ hs) fun a' w' hs' => ⟨rfl, b6 _ _ _ _ _ hs'⟩
 ·cases h
theorem exec_sound {P : Program} {C : Cfg} (hG : Good P C.G) (hM : MtOk P C.M) (hFT : FTok P FT) (hm : P.follows .mixedOrders = true) {pins : List Nat} {R : Type} {J : JT R} (hJ : JOk P pins J) (k : Nat) (tp : Bool) :
  ∀ (c : Code) (h : HT) {s : SS} {kt : Exit → SS → Option R} {r : R}, okC (shC k c) h = true → exec C FT pins J (shC k c) h s kt = some r → XWP P k tp pins c (PostK C.N kt r) (s.st C.N)
 | .skip, h, s, kt, r, _, he => xwp_skip ⟨s, rfl, by simpa [exec, shC] using he⟩
 | .exit id, h, s, kt, r, _, he => xwp_exit ⟨s, rfl, by simpa [exec, shC] using he⟩
 | .ret, h, s, kt, r, _, he => xwp_ret ⟨s, rfl, by simpa [exec, shC] using he⟩
 | .region id ops draw, h, s, kt, r, hok, he => by
  simp only [shC] at hok he
  simp only [exec] at he
  simp only [okC] at hok
  split at he
  case h_2 => cases he
  rename_i m L hh
  rw [hh] at hok
  simp only [Bool.and_eq_true] at hok
  obtain ⟨hsel, hnd, hok⟩ := hok
  refine xwp_region hm hsel hnd (R := fun s' => PostK C.N kt r .normal s') ?_ (fun _ h => h)
  generalize hops : shOs k ops = sops at *
  have hsops : sops.toList.toArray = sops := Array.toArray_toList ..
  have tail : ∀ (l : List Oper) {s1 : SS}, sGoJ J L C FT sops.toList l s1 (kt .normal) = some r → TailOk P pins sops (fun s' => PostK C.N kt r .normal s') l (s1.st C.N) :=
   fun l s1 h w0 M0 D0 a w hp hs => sGoJ_wp hG hM hFT hJ hp l h hs fun s' a' w' h1 h2 => ⟨rfl, _, ⟨s', rfl, h1⟩, h2⟩
  split at he
  ·exact reg_x hnd (tail _ he)
  ·obtain ⟨s', h1, h2⟩ := sGo_q hG hFT sops.toList he
   exact reg_q hok h1 ⟨s', rfl, h2⟩
  ·rename_i n
   obtain ⟨s', h1, h2⟩ := sGo_q hG hFT _ he
   have := reg_qt (pins := pins) (Q := fun s' => PostK C.N kt r .normal s') (l := sops.toList) n (by rw [hsops]; exact hok) (by rw [hsops]; exact h1) (by rw [hsops]; exact tail _ h2)
   rwa [hsops] at this
  ·rename_i n
   obtain ⟨s', h1, h2⟩ := sGo_q hG hFT _ he
   have hok : daOk sops n = true := hok
   unfold daOk at hok
   cases hdr : sops.toList.drop n with
   | nil => rw [hdr] at hok; cases hok
   | cons o tl =>
    rw [hdr] at hok h2
    simp only at hok h2
    obtain ⟨dst, op, ty, pos, aft, guard⟩ := o
    simp only at hok
    split at hok
    case h_2 => cases hok
    rename_i T d
    simp only [Bool.and_eq_true] at hok
    obtain ⟨f', g1, g2, g3⟩ := alloc_step (P := P) hG h2
    have g1 : sGoJ J L C FT sops.toList tl f' (kt .normal) = some r := g1
    have hlen : (sops.toList.take n).length = n := by
     rw [List.length_take]
     have : (sops.toList.drop n).length = tl.length + 1 := by rw [hdr]; rfl
     rw [List.length_drop] at this
     omega
    have hops1 : sops.toList.take n ++ ⟨some d, .alloc T, ty, pos, aft, none⟩ :: tl = sops.toList := by rw [← hdr, List.take_append_drop]
    have hops2 : (sops.toList.take n ++ ⟨some d, .alloc T, ty, pos, aft, none⟩ :: tl).toArray = sops := by rw [hops1, Array.toArray_toList]
    have := reg_da (pins := pins) (Q := fun s' => PostK C.N kt r .normal s') (s := s.st C.N) (s1 := s'.st C.N) (s2' := f'.st C.N) (hd := sops.toList.take n) (tl := tl) (d := d) (T := T) (ty := ty) (pos := pos) (aft := aft)
     (by rw [hops2, hlen]; exact hok.1) (by rw [hops2, hlen]; exact hok.2) g2 (by rw [hops2]; exact h1)
     (fun w0 M0 D0 a w hs => by
      rw [hops2]
      refine g3 w0 M0 D0 a w ?_
      rw [put_st]; exact hs)
     (by rw [hops2]; exact tail tl g1)
    rwa [hops2] at this
  ·rename_i n ord
   simp only [Bool.and_eq_true] at hok
   exact reg_w (pins := pins) (Q := fun s' => PostK C.N kt r .normal s') hG hFT (fun s' h => tail _ h) hok.1 hok.2 he
  ·exact (sGoC_any (pins := pins) (Q := fun s' => PostK C.N kt r .normal s') hG hFT (fun s' h => ⟨s', rfl, h⟩) _ hok he).reg
  ·cases he
 | .seq x y, h, s, kt, r, hok, he => by
  simp only [shC] at hok he
  cases h with
  | n a b =>
   simp only [okC, Bool.and_eq_true] at hok
   have he : exec C FT pins J (shC k x) a s (fun e s' => match e with
    | .normal => exec C FT pins J (shC k y) b s' kt
    | e => kt e s') = some r := he
   refine xwp_seq ((exec_sound hG hM hFT hm hJ k tp x a hok.1 he).mono fun e s' hp => ?_)
   obtain ⟨f, rfl, hk⟩ := hp
   cases e with
   | normal => exact exec_sound hG hM hFT hm hJ k tp y b hok.2 hk
   | _ => exact ⟨f, rfl, hk⟩
  | j p a b =>
   simp only [okC, Bool.and_eq_true] at hok
   have he : exec C FT pins J (shC k x) a s (fun e s' => match e with
    | .normal => trimB C.N p.trims s' fun s' => match p.dec C.N pins s' with
     | some z => exec C FT pins J (shC k y) b (p.enc z) kt
     | none => none
    | e => kt e s') = some r := he
   refine xwp_seq ((exec_sound hG hM hFT hm hJ k tp x a hok.1 he).mono fun e s' hp => ?_)
   obtain ⟨f, rfl, hk⟩ := hp
   cases e with
   | normal =>
    simp only at hk
    obtain ⟨f', hk, hw, _⟩ := trimB_sound _ hk
    split at hk
    ·rename_i z hz
     exact xwp_weaken (hw.weak.trans (dec_weaker hz)) (exec_sound hG hM hFT hm hJ k tp y b hok.2 hk)
    ·cases hk
   | _ => exact ⟨f, rfl, hk⟩
  | _ => simp [exec] at he
 | .cond c x y, h, s, kt, r, hok, he => by
  simp only [shC] at hok he
  cases h with
  | n a b =>
   simp only [okC, Bool.and_eq_true] at hok
   simp only [exec] at he
   split at he
   ·rename_i t ht
    simp only [br] at he
    refine xwp_cond (t := t) (asK_ev ht) (fun h1 => ?_) (fun h1 => ?_)
    ·rw [if_pos h1] at he
     exact exec_sound hG hM hFT hm hJ k tp x a hok.1 he
    ·rw [if_neg (by rw [h1]; decide)] at he
     exact exec_sound hG hM hFT hm hJ k tp y b hok.2 he
   ·cases he
  | _ => simp [exec] at he
 | .block id x, h, s, kt, r, hok, he => by
  simp only [shC] at hok he
  cases h with
  | u a =>
   have he : exec C FT pins J (shC k x) a s (fun e s' => match e with
    | .exit i => if i = id then kt .normal s' else kt (.exit i) s'
    | e => kt e s') = some r := he
   refine xwp_block ((exec_sound hG hM hFT hm hJ k tp x a hok he).mono fun e s' hp => ?_)
   obtain ⟨f, rfl, hk⟩ := hp
   cases e with
   | exit i =>
    simp only at hk
    simp only [blockQ]
    split at hk
    ·rename_i e; rw [if_pos e]; exact ⟨f, rfl, hk⟩
    ·rename_i e; rw [if_neg e]; exact ⟨f, rfl, hk⟩
   | _ => exact ⟨f, rfl, hk⟩
  | _ => simp [exec] at he
 | .loop x, h, s, kt, r, hok, he => by
  simp only [shC] at hok he
  cases h with
  | l p a =>
   simp only [exec] at he
   obtain ⟨s2, he, hw2, _⟩ := trimB_sound _ he
   split at he
   ·rename_i z hz
    generalize hF : (fun (rec : p.T → Option R) (z : p.T) => exec C FT pins J (shC k x) a (p.enc z) fun e s' => match e with
     | .normal => trimB C.N p.trims s' fun s' => match p.dec C.N pins s' with
      | some z' => rec z'
      | none => none
     | e => kt e s') = F at he
    refine xwp_loop (I := fun n st => ∃ z, Weaker pins st ((p.enc z).st C.N) ∧ iter n F z = some r) (n := C.fuel) ⟨z, hw2.weak.trans (dec_weaker hz), he⟩ ?_
    rintro n st ⟨z, hw, hi⟩
    cases n with
    | zero => simp [iter] at hi
    | succ n =>
     simp only [iter] at hi
     rw [← hF] at hi
     refine xwp_weaken hw ((exec_sound hG hM hFT hm hJ k tp x a hok hi).mono fun e s' hp => ?_)
     obtain ⟨f, rfl, hk⟩ := hp
     cases e with
     | normal =>
      simp only at hk
      obtain ⟨f', hk, hw3, _⟩ := trimB_sound _ hk
      split at hk
      ·rename_i z' hz'
       rw [hF] at hk
       exact ⟨n, Nat.lt_succ_self _, z', hw3.weak.trans (dec_weaker hz'), hk⟩
      ·cases hk
     | _ => exact ⟨f, rfl, hk⟩
   ·cases he
  | _ => simp [exec] at he
 | .rangeFunc .., h, s, kt, r, _, he => by cases h <;> simp [exec, shC] at he
 | .scope .., h, s, kt, r, _, he => by cases h <;> simp [exec, shC] at he
 | .label .., h, s, kt, r, _, he => by cases h <;> simp [exec, shC] at he
 | .goto .., h, s, kt, r, _, he => by cases h <;> simp [exec, shC] at he
 | .refuse .., h, s, kt, r, _, he => by cases h <;> simp [exec, shC] at he
end Go.Abs
namespace Go.Abs
open Go.RowKit
variable {P : Program} {FT : List (Nat × Entry)} {IT : List (Nat × Inl)}
theorem resS1_av {C : Cfg} (hG : Good P C.G) {s : SS} {r : ResultVar} {x : SV} (h : resS1 C s r = some x) : resA P (s.st C.N) r = some (x.av s.objs) := by
 cases r with
 | tmp t =>
  simp only [resS1, Option.some.injEq] at h; subst h
  simp only [resA, ← gt_eq, st_get]
 | cell b T =>
  simp only [resS1] at h
  split at h
  ·rename_i n sz i off D e1 e2
   split at h
   ·rename_i cs hcs
    obtain ⟨y, hy, rfl⟩ := Option.map_eq_some_iff.1 h
    have hev : gt (s.st C.N).env b = .ref n sz i off := by rw [← gt_eq, st_get, asC_eq e1]; rfl
    have := sCells_av hcs trivial
    simp only [resA, hev, TD.ok_cell (hG T _ e2)]
    rw [show (s.st C.N).objs = objsAV s.objs s.objs from rfl, this]
    exact ldC_av hy
   ·cases h
  ·cases h
theorem resS_av {C : Cfg} (hG : Good P C.G) {s : SS} : ∀ {l : List ResultVar} {i : Nat} {xs : List (Nat × SV)}, resS C s l i = some xs → resL P (s.st C.N) l = some (xs.map fun p => p.2.av s.objs) ∧ xs.length = l.length ∧ (∀ j, j < xs.length → lkE xs (i + j) = ((xs[j]?).map (·.2)).getD .any) ∧ (∀ k, k < i → lkE xs k = .any ∧ ∀ E, lkE (xs ++ E) k = lkE E k) ∧
   (∀ j, j < xs.length → ∀ E, lkE (xs ++ E) (i + j) = lkE xs (i + j))
 | [], i, xs, h => by simp only [resS, Option.some.injEq] at h; subst h; simp [resL, lkE]
 | r :: l, i, xs, h => by
  simp only [resS] at h
  split at h
  ·rename_i x ys h1 h2
   simp only [Option.some.injEq] at h; subst h
   obtain ⟨k1, k2, k3, k4, k5⟩ := resS_av hG h2
   refine ⟨by simp only [resL, resS1_av hG h1, k1, List.map_cons], by simp [k2], fun j hj => ?_, fun k hk => ?_, fun j hj E => ?_⟩
   ·cases j with
    | zero => simp [lkE]
    | succ j =>
     have e : i ≠ i + (j + 1) := by omega
     simp only [lkE, e, if_false, List.getElem?_cons_succ]
     rw [show i + (j + 1) = i + 1 + j by omega]
     exact k3 j (by simpa using hj)
   ·have e : i ≠ k := by omega
    obtain ⟨g1, g2⟩ := k4 k (by omega)
    exact ⟨by simp [lkE, e, g1], fun E => by simp [lkE, e, g2]⟩
   ·cases j with
    | zero => simp [lkE]
    | succ j =>
     have e : i ≠ i + (j + 1) := by omega
     simp only [List.cons_append, lkE, e, if_false]
     rw [show i + (j + 1) = i + 1 + j by omega]
     exact k5 j (by simpa using hj) E
  ·cases h
theorem argsE_get : ∀ (xs : List SV) (i : Nat) (E : List (Nat × SV)) (j : Nat), lkE (argsE i xs ++ E) j = if i ≤ j ∧ j < i + xs.length then (xs[j - i]?).getD .any else lkE E j
 | [], i, E, j => by
  rw [if_neg (by rw [List.length_nil]; omega)]; rfl
 | x :: l, i, E, j => by
  have ih := argsE_get l (i + 1) E j
  simp only [argsE, List.cons_append, lkE, List.length_cons]
  by_cases h : i = j
  ·subst h
   rw [if_pos rfl, if_pos (by omega)]
   simp
  ·rw [if_neg h, ih]
   by_cases h2 : i + 1 ≤ j ∧ j < i + 1 + l.length
   ·rw [if_pos h2, if_pos (by omega)]
    have : j - i = (j - (i + 1)) + 1 := by omega
    rw [this, List.getElem?_cons_succ]
   ·rw [if_neg h2, if_neg (by omega)]
theorem trimE_get (N : Nat) : ∀ (E : List (Nat × SV)) (j : Nat), lkE (trimE N E) j = if j < N then lkE E j else .any
 | [], j => by simp [trimE, lkE]
 | (n, x) :: r, j => by
  have ih := trimE_get N r j
  simp only [trimE]
  split
  ·rename_i h
   have h : N ≤ n := Nat.le_of_ble_eq_true h
   rw [ih]
   by_cases hj : j < N
   ·rw [if_pos hj, if_pos hj]
    have : n ≠ j := by omega
    simp only [lkE, this, if_false]
   ·rw [if_neg hj, if_neg hj]
  ·rename_i h
   have h : n < N := by
    rcases Nat.lt_or_ge n N with h' | h'
    ·exact h'
    ·exact absurd (Nat.ble_eq_true_of_le h') h
   by_cases e : n = j
   ·subst e; simp [lkE, h]
   ·simp only [lkE, e, if_false, ih]
theorem rvRun_sh (g : Array Value) (a : Act) (r : ResultVar) : rvRun (ext g a).tmps (shR g.size r) = rvRun a.tmps r := by
 have h : ∀ t, (g ++ a.tmps).getD (g.size + t) undef = a.tmps.getD t undef := by
  intro t
  have h : ¬ g.size + t < g.size := by omega
  simp [Array.getD_eq_getD_getElem?, Array.getElem?_append, h]
 cases r <;> simp only [rvRun, shR, ext, extd, h]
theorem vsOf_spec : ∀ {l : List (Nat × SV)} {r : List VV}, vsOf l = some r → l.map (·.2) = r.map SV.v
 | [], r, h => by simp only [vsOf, Option.some.injEq] at h; subst h; rfl
 | (n, x) :: l, r, h => by
  cases x with
  | tup m => simp [vsOf] at h
  | v x =>
   simp only [vsOf] at h
   split at h
   ·rename_i m hm
    simp only [Option.some.injEq] at h; subst h
    simp only [List.map_cons, vsOf_spec hm]
   ·cases h
theorem oneR_sound {w : World} {D : Names} {O : SObjs} {rs : List (Nat × SV)} {x : SV} (h : oneR rs = some x) {vs : List Value} (hl : vs.length = (rs.map fun p => p.2.av O).length)
  (hs : ∀ (i : Nat) (y : AV), (rs.map fun p => p.2.av O)[i]? = some y → Slot w D y (vs.getD i undef)) : Slot w D (x.av O) (if h : vs.toArray.size = 1 then vs.toArray[0] else .tuple vs.toArray) := by
 have tupc : ∀ r, vsOf rs = some r → rs.length ≠ 1 → Slot w D ((SV.tup r).av O) (if h : vs.toArray.size = 1 then vs.toArray[0] else .tuple vs.toArray) := by
  intro r hr hne
  have e := vsOf_spec hr
  have e2 : (rs.map fun p => p.2.av O) = r.map (VV.av O) := by
   have := congrArg (List.map (SV.av O)) e
   rw [List.map_map, List.map_map] at this
   exact this
  have hvl : vs.length = rs.length := by rw [hl, List.length_map]
  rw [dif_neg (by simp; omega)]
  refine ⟨vs, rfl, by rw [hl, e2], fun i y hy => ?_⟩
  have h1 := hs i y (by rw [e2]; exact hy)
  rw [List.getElem?_map] at hy
  obtain ⟨z, hz, rfl⟩ := Option.map_eq_some_iff.1 hy
  cases z with
  | g l => exact h1
  | c z =>
   simp only [VV.av] at h1 ⊢
   cases hz2 : z.av O with
   | tup l => exact absurd hz2 (not_agg.2 l)
   | _ => rw [hz2] at h1; exact h1
 cases rs with
 | nil =>
  simp only [oneR, vsOf, Option.some.injEq] at h; subst h
  exact tupc [] rfl (by simp)
 | cons p rs =>
  obtain ⟨n, y⟩ := p
  cases rs with
  | nil =>
   simp only [oneR, Option.some.injEq] at h; subst h
   have h1 : vs.length = 1 := by rw [hl]; rfl
   rw [dif_pos (by simpa using h1)]
   have : vs.toArray[0]'(by simp; omega) = vs.getD 0 undef := by
    simp [List.getD, List.getElem?_eq_getElem (show 0 < vs.length by omega)]
   rw [this]
   exact hs 0 _ rfl
  | cons q l =>
   simp only [oneR] at h
   split at h
   ·rename_i r hr
    simp only [Option.some.injEq] at h; subst h
    exact tupc r hr (by simp)
   ·cases h
def ITok (P : Program) (IT : List (Nat × Inl)) : Prop := ∀ f i, lkI IT f = some i → funOk P f = true ∧ ∃ fn, P.funcs[f]? = some fn ∧ fn.body = some i.code ∧ fn.results.toList = i.rv ∧ fn.ntmps = i.n
theorem inl_ok (hFT : FTok P FT) (hmx : P.follows .mixedOrders = true) (hIT : ITok P IT) {pins : List Nat} {R : Type} {J : JT R} (hJ : JOk P pins J) :
  JOk P pins (inlJ IT fun C c h s k => exec C FT pins J c h s k) := by
 intro C f xs gap ht s K r hG hM h
 unfold inlJ at h
 split at h
 ·cases h
 rename_i i hi
 obtain ⟨hfo, fn, hf, hb, hrv, hn⟩ := hIT f i hi
 refine ⟨hfo, ?_⟩
 split at h
 ·cases h
 rename_i hc
 simp only [Bool.and_eq_true] at hc
 have hle : xs.length ≤ i.n := Nat.le_of_ble_eq_true hc.1
 generalize hk : C.N + gap = k at h hc
 have hx := exec_sound (C := { G := C.G, N := k + i.n, fuel := C.fuel, M := C.M }) hG hM hFT hmx hJ k true i.code ht hc.2 h
 intro w0 M0 D0 D a w vs hp hm he hpin hvs
 refine (callsIn_wide (n := 0)).1 (callsIn_of_wp_marks hf hb trivial ?_)
 have haN : a.tmps.size = C.N := by rw [he.1, st_len]
 let g : Array Value := a.tmps ++ Array.replicate gap undef
 have hg : g.size = k := by simp [g, haN, hk]
 let a2 : Act := { tmps := vs.toArray ++ Array.replicate (fn.ntmps - vs.toArray.size) undef, defers := [] }
 have ha2 : a2.tmps.size = i.n := by simp [a2, hn, hvs.1]; omega
 have hsat : Sat w0 M0 D0 (SS.st (k + i.n) ⟨argsE k xs ++ trimE C.N s.env, s.objs⟩) (ext g a2) w := by
  refine ⟨rfl, D, hm, ⟨by simp [ext, extd, st_len, hg, ha2], fun j y hy => ?_⟩, hpin⟩
  simp only [SS.st, List.getElem?_map] at hy
  obtain ⟨j', hj, rfl⟩ := Option.map_eq_some_iff.1 hy
  have hji : j' = j ∧ j < k + i.n := by
   by_cases hi : j < k + i.n
   ·rw [List.getElem?_range hi] at hj
    simp only [Option.some.injEq] at hj
    exact ⟨hj.symm, hi⟩
   ·rw [List.getElem?_eq_none (by simpa using hi)] at hj; cases hj
  obtain ⟨rfl, hjlt⟩ := hji
  rw [argsE_get, trimE_get]
  by_cases h1 : k ≤ j' ∧ j' < k + xs.length
  ·rw [if_pos h1]
   have hlt : j' - k < xs.length := by omega
   rw [List.getElem?_eq_getElem hlt]
   have h2 := hvs.2 (j' - k) _ (List.getElem?_eq_getElem hlt)
   have e : (ext g a2).tmps.getD j' undef = vs.getD (j' - k) undef := by
    have c2 : j' - k < vs.toArray.size := by rw [List.size_toArray, hvs.1]; exact hlt
    have c3 : (g ++ a2.tmps)[j']? = vs[j' - k]? := by
     rw [Array.getElem?_append_right (by omega), hg]
     show (vs.toArray ++ Array.replicate (fn.ntmps - vs.toArray.size) undef)[j' - k]? = _
     rw [Array.getElem?_append_left c2, List.getElem?_toArray]
    simp only [ext, extd, Array.getD_eq_getD_getElem?, c3, List.getD]
   rw [e]; exact h2
  ·rw [if_neg h1]
   by_cases h2 : j' < C.N
   ·rw [if_pos h2]
    have e : (ext g a2).tmps.getD j' undef = a.tmps.getD j' undef := by
     have c1 : j' < g.size := by rw [hg]; omega
     have c2 : j' < a.tmps.size := by rw [haN]; exact h2
     have c3 : (g ++ a2.tmps)[j']? = a.tmps[j']? := by
      rw [Array.getElem?_append_left c1]
      show (a.tmps ++ Array.replicate gap undef)[j']? = _
      rw [Array.getElem?_append_left c2]
     simp only [ext, extd, Array.getD_eq_getD_getElem?, c3]
    rw [e]
    exact he.2 j' _ (by simp only [SS.st, List.getElem?_map, List.getElem?_range h2, Option.map_some])
   ·rw [if_neg h2]
    exact slot_any _ _ _
 refine Code.wpIn_mono ?_ (hx none g w0 M0 D0 a2 w (fun _ => rfl) hg hp (.nil rfl) hsat)
 rintro e a' w2 ⟨hdx, s', ⟨fs, rfl, hfin⟩, hsat1⟩
 have hfin2 : (e = .normal ∨ e = .ret) ∧ ∃ rs x, resS { G := C.G, N := k + i.n, fuel := C.fuel, M := C.M } fs (i.rv.map (shR k)) 0 = some rs ∧ oneR rs = some x ∧ K x ⟨trimE C.N fs.env, fs.objs⟩ = some r := by
  dsimp only at hfin
  split at hfin
  ·refine ⟨.inl rfl, ?_⟩
   split at hfin
   ·rename_i rs hrs
    split at hfin
    ·rename_i x hx; exact ⟨rs, x, hrs, hx, hfin⟩
    ·cases hfin
   ·cases hfin
  ·refine ⟨.inr rfl, ?_⟩
   split at hfin
   ·rename_i rs hrs
    split at hfin
    ·rename_i x hx; exact ⟨rs, x, hrs, hx, hfin⟩
    ·cases hfin
   ·cases hfin
  ·cases hfin
 obtain ⟨hexit, rs, x, hrs, hone, hK⟩ := hfin2
 suffices post : ∀ w', Sat w0 M0 D0 (SS.st (k + i.n) fs) (ext g a') w' → ∃ v, (results fn a'.tmps).run P w' = .ok v w' ∧ (∃ v' x s' D', Ending.returned v = .returned v' ∧ K x s' = some r ∧ Mem w0 M0 (s'.st C.N).objs D' w' ∧ EnvRep w' D' (s'.st C.N).env a.tmps ∧ Pin D0 D' (s'.st C.N).objs ∧ Slot w' D' (x.av s'.objs) v') by
  have hl := leaves_sat (P := P) (fn := fn) (tmps := a'.tmps) (R := fun e w' => ∃ v x s' D', e = .returned v ∧ K x s' = some r ∧ Mem w0 M0 (s'.st C.N).objs D' w' ∧ EnvRep w' D' (s'.st C.N).env a.tmps ∧ Pin D0 D' (s'.st C.N).objs ∧ Slot w' D' (x.av s'.objs) v) hdx hsat1 post
  rcases hexit with rfl | rfl
  ·exact hl
  ·exact hl
 rintro w' ⟨hd, D1, hm1, he1, hpin1⟩
 obtain ⟨q1, q2, _⟩ := resS_av (C := { G := C.G, N := k + i.n, fuel := C.fuel, M := C.M }) hG hrs
 obtain ⟨vs', k1, k2, k3⟩ := run_resL hm1 he1 (i.rv.map (shR k)) _ q1
 have hmapM : (i.rv.mapM (rvRun a'.tmps)).run P w' = .ok vs' w' := by
  have e : (i.rv.map (shR k)).mapM (rvRun (ext g a').tmps) = i.rv.mapM (rvRun a'.tmps) := by
   rw [List.mapM_map]
   congr 1
   funext r
   show rvRun (ext g a').tmps (shR k r) = _
   rw [← hg]; exact rvRun_sh g a' r
  rw [← e]; exact k3
 have hres : (results fn a'.tmps).run P w' = .ok (if h : vs'.toArray.size = 1 then vs'.toArray[0] else .tuple vs'.toArray) w' := by
  have k4 : ∀ F : ResultVar → Sem Value, (∀ r, F r = rvRun a'.tmps r) → (List.mapM F fn.results.toList).run P w' = .ok vs' w' := fun F hF => by rw [funext hF, hrv]; exact hmapM
  unfold results
  rw [Array.mapM_eq_mapM_toList]
  simp only [Sem.run_bind, Sem.run_map, Sem.run_pure]
  refine (congrArg (fun r => (Result.andThen (Result.andThen r fun (l : List Value) w => .ok l.toArray w) fun vs w => .ok (if h : vs.size = 1 then vs[0] else .tuple vs) w)) (k4 _ fun r => by cases r <;> rfl)).trans ?_
  simp only [Result.andThen_ok]
 have hslot := oneR_sound (w := w') (D := D1) (O := fs.objs) hone k1 k2
 have henv : EnvRep w' D1 (SS.st C.N ⟨trimE C.N fs.env, fs.objs⟩).env a.tmps := by
  refine ⟨by rw [haN, st_len], fun j y hy => ?_⟩
  simp only [SS.st, List.getElem?_map] at hy
  obtain ⟨j', hj, rfl⟩ := Option.map_eq_some_iff.1 hy
  have hji : j' = j ∧ j < C.N := by
   by_cases hi : j < C.N
   ·rw [List.getElem?_range hi] at hj
    simp only [Option.some.injEq] at hj
    exact ⟨hj.symm, hi⟩
   ·rw [List.getElem?_eq_none (by simpa using hi)] at hj; cases hj
  obtain ⟨rfl, hjlt⟩ := hji
  rw [trimE_get, if_pos hjlt]
  have h1 := he1.2 j' ((lkE fs.env j').av fs.objs) (by simp only [SS.st, List.getElem?_map, List.getElem?_range (show j' < k + i.n by omega), Option.map_some])
  have e : (ext g a').tmps.getD j' undef = a.tmps.getD j' undef := by
   have c1 : j' < g.size := by rw [hg]; omega
   have c2 : j' < a.tmps.size := by rw [haN]; exact hjlt
   have c3 : (g ++ a'.tmps)[j']? = a.tmps[j']? := by
    rw [Array.getElem?_append_left c1]
    show (a.tmps ++ Array.replicate gap undef)[j']? = _
    rw [Array.getElem?_append_left c2]
   simp only [ext, extd, Array.getD_eq_getD_getElem?, c3]
  rw [e] at h1
  exact h1
 exact ⟨_, hres, _, x, ⟨trimE C.N fs.env, fs.objs⟩, D1, rfl, hK, hm1, henv, hpin1, hslot⟩
theorem exJ_ok (hFT : FTok P FT) (hmx : P.follows .mixedOrders = true) (hIT : ITok P IT) {pins : List Nat} {R : Type} : ∀ d, JOk P pins (exJ (R := R) FT pins IT d)
 | 0 => fun _ _ _ _ _ _ _ _ _ _ h => by cases h
 | d + 1 => inl_ok hFT hmx hIT (exJ_ok hFT hmx hIT d)
end Go.Abs
namespace Go.Abs
open Go.RowKit
theorem argE_get {O : SObjs} : ∀ (l : List AT) (i : Nat) (x : argsT l) (j : Nat), (lkE (argE l i x) (i + j)).av O = (argsAV canon l i x).getD j .any ∧ (∀ k, k < i → lkE (argE l i x) k = .any)
 | [], i, x, j => by simp [argE, lkE, argsAV, SV.any, SV.av, VV.av, CV.av]
 | .v c :: l, i, x, j => by
  obtain ⟨_, h2⟩ := argE_get (O := O) l (i + 1) x.2 0
  refine ⟨?_, fun k hk => ?_⟩
  ·cases j with
   | zero => simp [argE, lkE, argsAV, csv_av]
   | succ j =>
    have h1 := (argE_get (O := O) l (i + 1) x.2 j).1
    have e : i ≠ i + (j + 1) := by omega
    simp only [argE, lkE, e, if_false, argsAV, List.getD_cons_succ]
    rw [show i + (j + 1) = i + 1 + j by omega]; exact h1
  ·have e : i ≠ k := by omega
   simp only [argE, lkE, e, if_false]
   exact h2 k (by omega)
 | .bx ts :: l, i, x, j => by
  obtain ⟨_, h2⟩ := argE_get (O := O) l (i + 1) x.2 0
  refine ⟨?_, fun k hk => ?_⟩
  ·cases j with
   | zero => simp [argE, lkE, argsAV, SV.av, VV.av, CV.av, canon]
   | succ j =>
    have h1 := (argE_get (O := O) l (i + 1) x.2 j).1
    have e : i ≠ i + (j + 1) := by omega
    simp only [argE, lkE, e, if_false, argsAV, List.getD_cons_succ]
    rw [show i + (j + 1) = i + 1 + j by omega]; exact h1
  ·have e : i ≠ k := by omega
   simp only [argE, lkE, e, if_false]
   exact h2 k (by omega)
theorem argO_av {O : SObjs} : ∀ (l : List AT) (i : Nat) (x : argsT l), objsAV O (argO l i x) = osAV canon l i x
 | [], _, _ => rfl
 | .v c :: l, i, x => argO_av l (i + 1) x.2
 | .bx ts :: l, i, x => by
  simp only [argO, objsAV, osAV, SO.av, kvs_cav, argO_av l (i + 1) x.2]; rfl
theorem osAV_fst : ∀ (l : List AT) (i : Nat) (x : argsT l), (osAV canon l i x).map (·.1) = pinsOf l i
 | [], _, _ => rfl
 | .v c :: l, i, x => osAV_fst l (i + 1) x.2
 | .bx ts :: l, i, x => by
  simp only [osAV, List.map_cons, pinsOf, osAV_fst l (i + 1) x.2]; rfl
theorem argsAV_len {ν : Nat → Nat} : ∀ (l : List AT) (i : Nat) (x : argsT l), (argsAV ν l i x).length = l.length
 | [], _, _ => rfl
 | .v c :: l, i, x => by simp only [argsAV, List.length_cons, argsAV_len l]
 | .bx ts :: l, i, x => by simp only [argsAV, List.length_cons, argsAV_len l]
theorem osAV_ok : ∀ (l : List AT) (i : Nat) (x : argsT l), boxesOk (osAV canon l i x) = true
 | [], _, _ => rfl
 | .v c :: l, i, x => osAV_ok l (i + 1) x.2
 | .bx ts :: l, i, x => by
  simp only [osAV, boxesOk, (plain_ts ts x.1).1, osAV_ok l (i + 1) x.2, Bool.and_self]
theorem entry_cov (g : Sig) (N : Nat) (hN : g.args.length ≤ N) (x : argsT g.args) :
  Cov ⟨argsAV canon g.args 0 x ++ List.replicate (N - (argsAV canon g.args 0 x).length) .und, osAV canon g.args 0 x⟩ (SS.st N ⟨argE g.args 0 x, argO g.args 0 x⟩) := by
 have hl := argsAV_len (ν := canon) g.args 0 x
 refine cov_le ⟨?_, fun i y hy => ?_⟩ ?_
 ·simp only [SS.st, List.length_append, List.length_replicate, List.length_map, List.length_range, hl]; omega
 ·simp only [SS.st, List.getElem?_map] at hy
  obtain ⟨j, hj, rfl⟩ := Option.map_eq_some_iff.1 hy
  have hji : j = i ∧ i < N := by
   by_cases hi : i < N
   ·rw [List.getElem?_range hi] at hj
    simp only [Option.some.injEq] at hj
    exact ⟨hj.symm, hi⟩
   ·rw [List.getElem?_eq_none (by simpa using hi)] at hj; cases hj
  obtain ⟨rfl, hi⟩ := hji
  have h1 := (argE_get (O := argO g.args 0 x) g.args 0 x j).1
  rw [Nat.zero_add] at h1
  by_cases hlt : j < g.args.length
  ·refine ⟨(argsAV canon g.args 0 x).getD j .any, ?_, ?_⟩
   ·rw [List.getElem?_append_left (by rw [hl]; exact hlt), List.getD, List.getElem?_eq_getElem (by rw [hl]; exact hlt)]; rfl
   ·show leS _ ((lkE (argE g.args 0 x) j).av (argO g.args 0 x))
    rw [h1]; exact .rfl' _
  ·refine ⟨.und, ?_, ?_⟩
   ·rw [List.getElem?_append_right (by rw [hl]; omega), List.getElem?_replicate, if_pos (by rw [hl]; omega)]
   ·show leS _ ((lkE (argE g.args 0 x) j).av (argO g.args 0 x))
    rw [h1]
    have : (argsAV canon g.args 0 x).getD j .any = .any := by
     rw [List.getD, List.getElem?_eq_none (by rw [hl]; omega)]; rfl
    rw [this]; exact .any _
 ·show leOs _ (objsAV (argO g.args 0 x) (argO g.args 0 x))
  rw [argO_av]; exact leOs.rfl' _
def okR (g : Sig) (rv : List ResultVar) : Bool := match g.ret with
 | .tup l => decide (l.length = rv.length) && decide (l.length ≠ 1)
 | .unit => decide (rv.length = 0)
 | _ => decide (rv.length = 1)
theorem tysBack_av {O : SObjs} : ∀ (ts : Tys) (x : (dtsP (tysPC ts)).T), (encC (tysPC ts) x).map (CV.av O) = ts.avs (tysBack ts x)
 | .nil, _ => rfl
 | .cons t ts, x => by
  have ih := tysBack_av (O := O) ts x.2
  show ((CV.k (t.kv x.1)).av O) :: (encC (tysPC ts) x.2).map (CV.av O) = t.av x.1 :: ts.avs (tysBack ts x.2)
  rw [ih]
  congr 1
  exact kv_av t x.1
theorem outsBack_av {O : SObjs} : ∀ (l : List AT) (i : Nat) (x : objsT (pinsP l i)), objsAV O (encO (pinsP l i) x) = outsAV canon l i (outsBack l i x)
 | [], _, _ => rfl
 | .v c :: l, i, x => outsBack_av l (i + 1) x
 | .bx ts :: l, i, x => by
  have ih := outsBack_av (O := O) l (i + 1) x.2
  show (900000 + i, Obj.box ((encC (tysPC ts) x.1).map (CV.av O))) :: objsAV O (encO (pinsP l (i + 1)) x.2) = (canon i, .box (ts.avs (tysBack ts x.1))) :: outsAV canon l (i + 1) (outsBack l (i + 1) x.2)
  rw [ih, tysBack_av]; rfl
theorem tupBack_spec {R : Type} : ∀ (l : List CT) (i : Nat) (z : slotsT R (tupP l i)), restE (tupP l i) z = (tupBack l i z).2 ∧ (∀ k, k < i → lkE (encE (tupP l i) z) k = .any) ∧
  ∀ (O : SObjs) j, j < l.length → (lkE (encE (tupP l i) z) (i + j)).av O = (compsAV l (tupBack l i z).1).getD j .any
 | [], i, z => ⟨rfl, fun _ _ => rfl, fun _ j h => by simp at h⟩
 | c :: l, i, z => by
  obtain ⟨h1, h2, h3⟩ := tupBack_spec l (i + 1) z.2
  refine ⟨h1, fun k hk => ?_, fun O j hj => ?_⟩
  ·have e : i ≠ k := by omega
   show lkE ((i, c.sv z.1) :: encE (tupP l (i + 1)) z.2) k = _
   simp only [lkE, e, if_false]
   exact h2 k (by omega)
  ·cases j with
   | zero =>
    show (lkE ((i, c.sv z.1) :: encE (tupP l (i + 1)) z.2) (i + 0)).av O = (c.av z.1 :: _).getD 0 .any
    simp only [Nat.add_zero, lkE, if_true, List.getD_cons_zero]
    exact csv_av c z.1
   | succ j =>
    have e : i ≠ i + (j + 1) := by omega
    show (lkE ((i, c.sv z.1) :: encE (tupP l (i + 1)) z.2) (i + (j + 1))).av O = (c.av z.1 :: compsAV l (tupBack l (i + 1) z.2).1).getD (j + 1) .any
    simp only [lkE, e, if_false, List.getD_cons_succ]
    rw [show i + (j + 1) = i + 1 + j by omega]
    exact h3 O j (by simpa using hj)
theorem compsAV_len : ∀ (l : List CT) (x : compsT l), (compsAV l x).length = l.length
 | [], _ => rfl
 | c :: l, x => by simp only [compsAV, List.length_cons, compsAV_len l]
theorem compsAV_not : ∀ (l : List CT) (x : compsT l) (i : Nat) (y : AV), (compsAV l x)[i]? = some y → ∀ m, y ≠ .tup m
 | [], x, i, y, h => by simp [compsAV] at h
 | c :: l, x, i, y, h => by
  cases i with
  | zero =>
   simp only [compsAV, List.getElem?_cons_zero, Option.some.injEq] at h; subst h
   intro m
   cases c with
   | ty t => show t.av x.1 ≠ _; cases t <;> simp [Ty.av]
   | ag ts => simp [CT.av]
  | succ i => exact compsAV_not l x.2 i y (by simpa [compsAV] using h)
theorem ret_spec {g : Sig} {N : Nat} {rv : List ResultVar} (hok : okR g rv = true) (z : (retPlan g N).T) {w w' : World} {D D' : Names} {vs : List Value} (hlen : vs.length = rv.length)
  (hm : Mem w D.N (objsAV ((retPlan g N).enc z).objs ((retPlan g N).enc z).objs) D' w')
  (hs : ∀ j, j < vs.length → Slot w' D' ((lkE ((retPlan g N).enc z).env (N + j)).av ((retPlan g N).enc z).objs) (vs.getD j undef)) :
  Mem w D.N (crAV canon g (retBack N g z)).objs D' w' ∧ Slot w' D' (crAV canon g (retBack N g z)).x (if h : vs.toArray.size = 1 then vs.toArray[0] else .tuple vs.toArray) := by
 obtain ⟨args, ret⟩ := g
 have one : ∀ (x : AV), vs.length = 1 → Slot w' D' x (vs.getD 0 undef) → Slot w' D' x (if h : vs.toArray.size = 1 then vs.toArray[0] else .tuple vs.toArray) := by
  intro x h1 hx
  rw [dif_pos (by simpa using h1)]
  have : vs.toArray[0]'(by simp; omega) = vs.getD 0 undef := by
   simp [List.getD, List.getElem?_eq_getElem (show 0 < vs.length by omega)]
  rw [this]; exact hx
 cases ret with
 | v c =>
  simp only [okR, decide_eq_true_eq] at hok
  refine ⟨?_, ?_⟩
  ·have e : objsAV ((retPlan ⟨args, .v c⟩ N).enc z).objs ((retPlan ⟨args, .v c⟩ N).enc z).objs = (crAV canon ⟨args, .v c⟩ (retBack N ⟨args, .v c⟩ z)).objs := outsBack_av args 0 z.2
   rw [← e]; exact hm
  ·refine one _ (by omega) ?_
   have h0 := hs 0 (by omega)
   have e : (lkE ((retPlan ⟨args, .v c⟩ N).enc z).env (N + 0)) = c.sv z.1 := by
    show lkE [(N, c.sv z.1)] (N + 0) = _
    simp [lkE]
   rw [e, csv_av] at h0
   exact h0
 | tup l =>
  simp only [okR, Bool.and_eq_true, decide_eq_true_eq] at hok
  obtain ⟨t1, t2, t3⟩ := tupBack_spec l N z
  refine ⟨?_, ?_⟩
  ·have key : ∀ b : objsT (pinsP args 0), objsAV (encO (pinsP args 0) b) (encO (pinsP args 0) b) = outsAV canon args 0 (outsBack args 0 b) := fun b => outsBack_av args 0 b
   have e : objsAV ((retPlan ⟨args, .tup l⟩ N).enc z).objs ((retPlan ⟨args, .tup l⟩ N).enc z).objs = (crAV canon ⟨args, .tup l⟩ (retBack N ⟨args, .tup l⟩ z)).objs :=
    (key _).trans (congrArg (fun b => outsAV canon args 0 (outsBack args 0 b)) t1)
   rw [← e]; exact hm
  ·rw [dif_neg (by simp; omega)]
   refine ⟨vs, rfl, ?_, fun i y hy => ?_⟩
   ·show vs.length = (compsAV l _).length
    rw [compsAV_len]; omega
   ·have hy : (compsAV l (tupBack l N z).1)[i]? = some y := hy
    have hi : i < l.length := by
     rcases Nat.lt_or_ge i l.length with h | h
     ·exact h
     ·rw [List.getElem?_eq_none (by rw [compsAV_len]; exact h)] at hy; cases hy
    have h0 := hs i (by omega)
    have e : (lkE ((retPlan ⟨args, .tup l⟩ N).enc z).env (N + i)).av ((retPlan ⟨args, .tup l⟩ N).enc z).objs = y := by
     have := t3 ((retPlan ⟨args, .tup l⟩ N).enc z).objs i hi
     rw [List.getD, hy] at this
     exact this
    rw [e] at h0
    cases y with
    | tup m => exact absurd rfl (compsAV_not l _ i _ hy m)
    | _ => exact h0
 | own ts =>
  simp only [okR, decide_eq_true_eq] at hok
  have eo : ((retPlan ⟨args, .own ts⟩ N).enc z).objs = (rn, .arr ts z.1) :: encO (pinsP args 0) z.2 := rfl
  refine ⟨?_, ?_⟩
  ·have e : objsAV ((retPlan ⟨args, .own ts⟩ N).enc z).objs ((retPlan ⟨args, .own ts⟩ N).enc z).objs = (crAV canon ⟨args, .own ts⟩ (retBack N ⟨args, .own ts⟩ z)).objs := by
    rw [eo]
    show (rn, _) :: objsAV _ (encO (pinsP args 0) z.2) = (rn, _) :: outsAV canon args 0 (outsBack args 0 z.2)
    rw [outsBack_av]; rfl
   rw [← e]; exact hm
  ·refine one _ (by omega) ?_
   have h0 := hs 0 (by omega)
   have e : (lkE ((retPlan ⟨args, .own ts⟩ N).enc z).env (N + 0)).av ((retPlan ⟨args, .own ts⟩ N).enc z).objs = .msl rn ts.len 0 z.1.length := by
    have e1 : lkE ((retPlan ⟨args, .own ts⟩ N).enc z).env (N + 0) = .v (.c (.own rn)) := by
     show lkE [(N, SV.v (.c (.own rn)))] (N + 0) = _
     simp [lkE]
    rw [e1, eo, own_av]
   rw [e] at h0
   exact h0
 | box ts =>
  simp only [okR, decide_eq_true_eq] at hok
  have eo : ((retPlan ⟨args, .box ts⟩ N).enc z).objs = (rn, .box (encC (tysPC ts) z.1)) :: encO (pinsP args 0) z.2 := rfl
  refine ⟨?_, ?_⟩
  ·have e : objsAV ((retPlan ⟨args, .box ts⟩ N).enc z).objs ((retPlan ⟨args, .box ts⟩ N).enc z).objs = (crAV canon ⟨args, .box ts⟩ (retBack N ⟨args, .box ts⟩ z)).objs := by
    rw [eo]
    show (rn, Obj.box ((encC (tysPC ts) z.1).map (CV.av _))) :: objsAV _ (encO (pinsP args 0) z.2) = (rn, _) :: outsAV canon args 0 (outsBack args 0 z.2)
    rw [outsBack_av, tysBack_av]; rfl
   rw [← e]; exact hm
  ·refine one _ (by omega) ?_
   have h0 := hs 0 (by omega)
   have e : (lkE ((retPlan ⟨args, .box ts⟩ N).enc z).env (N + 0)).av ((retPlan ⟨args, .box ts⟩ N).enc z).objs = .ref rn ts.len 0 0 := by
    have e1 : lkE ((retPlan ⟨args, .box ts⟩ N).enc z).env (N + 0) = .v (.c (.ref rn ts.len 0 0)) := by
     show lkE [(N, SV.v (.c (.ref rn ts.len 0 0)))] (N + 0) = _
     simp [lkE]
    rw [e1]; rfl
   rw [e] at h0
   exact h0
 | unit =>
  simp only [okR, decide_eq_true_eq] at hok
  refine ⟨?_, ?_⟩
  ·have e : objsAV ((retPlan ⟨args, .unit⟩ N).enc z).objs ((retPlan ⟨args, .unit⟩ N).enc z).objs = (crAV canon ⟨args, .unit⟩ (retBack N ⟨args, .unit⟩ z)).objs := outsBack_av args 0 z
   rw [← e]; exact hm
  ·rw [dif_neg (by simp; omega)]
   exact ⟨vs, rfl, by rw [hlen, hok]; rfl, fun i y hy => by cases (show (none : Option AV) = some y by rw [← hy]; rfl)⟩
def BodyEnd (P : Program) (fn : Func) (g : Sig) (r : g.R) (w : World) (D : Names) : Exit → Act → World → Prop :=
 bodyPostM Fence.wide 0 P fn (fun e w' => ∃ v D', e = .returned v ∧ Mem w D.N (crAV canon g r).objs D' w' ∧ Slot w' D' (crAV canon g r).x v ∧ ∀ n d, D n = some d → D' n = some d)
theorem fin_leaves {P : Program} {G : List (Nat × TD)} {M : MTab} (hG : Good P G) {fn : Func} {g : Sig} {N : Nat} {rv : List ResultVar} {fuel : Nat} {r : g.R} (hr : fn.results.toList = rv) (hokR : okR g rv = true)
  {w w1 : World} {D : Names} {a1 : Act} {e : Exit} {fs : SS} (hpins : PinsOk (pinsOf g.args 0) D) (hdx : DefX w.heap.size a1 w1) (hfin : finK ⟨G, N, fuel, M⟩ g rv e fs = some r) (hsatE1 : Sat w D.N D (fs.st N) (ext #[] a1) w1) :
  BodyEnd P fn g r w D e a1 w1 := by
 have hexit : e = .normal ∨ e = .ret := by
  cases e <;> simp [finK] at hfin <;> simp
 have hex : ∃ xs z, resS ⟨G, N, fuel, M⟩ fs rv N = some xs ∧ (retPlan g N).dec (N + rv.length) (pinsOf g.args 0) ⟨xs ++ fs.env, fs.objs⟩ = some z ∧ retBack N g z = r := by
  rcases hexit with rfl | rfl
  ·unfold finK at hfin
   split at hfin
   ·split at hfin
    ·rename_i xs hxs
     split at hfin
     ·rename_i z hz
      exact ⟨xs, z, hxs, hz, Option.some.inj hfin⟩
     ·cases hfin
    ·cases hfin
   ·split at hfin
    ·rename_i xs hxs
     split at hfin
     ·rename_i z hz
      exact ⟨xs, z, hxs, hz, Option.some.inj hfin⟩
     ·cases hfin
    ·cases hfin
   ·rename_i h1 h2
    exfalso
    first | exact h1 rfl | exact h2 rfl
  ·unfold finK at hfin
   split at hfin
   ·split at hfin
    ·rename_i xs hxs
     split at hfin
     ·rename_i z hz
      exact ⟨xs, z, hxs, hz, Option.some.inj hfin⟩
     ·cases hfin
    ·cases hfin
   ·split at hfin
    ·rename_i xs hxs
     split at hfin
     ·rename_i z hz
      exact ⟨xs, z, hxs, hz, Option.some.inj hfin⟩
     ·cases hfin
    ·cases hfin
   ·rename_i h1 h2
    exfalso
    first | exact h1 rfl | exact h2 rfl
 obtain ⟨xs, z, hxs, hz, rfl⟩ := hex
 suffices post : ∀ w', Sat w D.N D (fs.st N) (ext #[] a1) w' → ∃ v, (results fn a1.tmps).run P w' = .ok v w' ∧ (∃ v' D', Ending.returned v = .returned v' ∧ Mem w D.N (crAV canon g (retBack N g z)).objs D' w' ∧ Slot w' D' (crAV canon g (retBack N g z)).x v' ∧ ∀ n d, D n = some d → D' n = some d) by
  have hl := leaves_sat (P := P) (fn := fn) (tmps := a1.tmps) (R := fun e w' => ∃ v D', e = .returned v ∧ Mem w D.N (crAV canon g (retBack N g z)).objs D' w' ∧ Slot w' D' (crAV canon g (retBack N g z)).x v ∧ ∀ n d, D n = some d → D' n = some d) hdx hsatE1 post
  rcases hexit with rfl | rfl
  ·exact hl
  ·exact hl
 intro w' hsatE
 obtain ⟨hd, D1, hm1, he1, hpin1⟩ := hsatE
 generalize ha' : ext #[] a1 = a' at hd he1
 have hta : a'.tmps = a1.tmps := by subst ha'; simp [ext, extd]
 rw [← hta]
 obtain ⟨q1, q2, q3, q4, q5⟩ := resS_av hG hxs
 obtain ⟨vs', k1, k2, k3⟩ := run_resL hm1 he1 rv _ q1
 have hlen : vs'.length = rv.length := by rw [k1, List.length_map, q2]
 have he1l : a'.tmps.size = N := by rw [he1.1]; exact st_len N fs
 have hsat3 : Sat w D.N D (SS.st (N + rv.length) ⟨xs ++ fs.env, fs.objs⟩) { a' with tmps := a'.tmps ++ vs'.toArray } w' := by
  refine ⟨hd, D1, hm1, ⟨by simp [he1l, st_len, hlen], fun i y hy => ?_⟩, hpin1⟩
  simp only [SS.st, List.getElem?_map] at hy
  obtain ⟨j, hj, rfl⟩ := Option.map_eq_some_iff.1 hy
  have hji : j = i ∧ i < N + rv.length := by
   by_cases hi : i < N + rv.length
   ·rw [List.getElem?_range hi] at hj
    simp only [Option.some.injEq] at hj
    exact ⟨hj.symm, hi⟩
   ·rw [List.getElem?_eq_none (by simpa using hi)] at hj; cases hj
  obtain ⟨rfl, hi⟩ := hji
  by_cases hjN : j < N
  ·rw [(q4 j hjN).2]
   have hlt : j < a'.tmps.size := by rw [he1l]; exact hjN
   have := he1.2 j ((lkE fs.env j).av fs.objs) (by simp only [SS.st, List.getElem?_map, List.getElem?_range hjN, Option.map_some])
   simpa [Array.getD_eq_getD_getElem?, Array.getElem?_append, hlt] using this
  ·have hjlt : j - N < xs.length := by rw [q2]; omega
   have e1 := q5 (j - N) hjlt fs.env
   have e2 := q3 (j - N) hjlt
   rw [show N + (j - N) = j by omega] at e1 e2
   rw [e1, e2]
   have hge : ¬ j < a'.tmps.size := by rw [he1l]; exact hjN
   have hx : xs[j - N]? = some (xs[j - N]'hjlt) := List.getElem?_eq_getElem hjlt
   have := k2 (j - N) ((xs[j - N]'hjlt).2.av fs.objs) (by rw [List.getElem?_map, hx]; rfl)
   rw [hx]
   simpa [Array.getD_eq_getD_getElem?, Array.getElem?_append, hge, hjN, List.getD, he1l] using this
 obtain ⟨_, D2, g1, g2, g3⟩ := dec_weaker hz w D.N D _ w' hpins hsat3
 have hslots : ∀ j, j < vs'.length → Slot w' D2 ((lkE ((retPlan g N).enc z).env (N + j)).av ((retPlan g N).enc z).objs) (vs'.getD j undef) := by
  intro j hj
  have hj' : N + j < N + rv.length := by omega
  have := g2.2 (N + j) ((lkE ((retPlan g N).enc z).env (N + j)).av ((retPlan g N).enc z).objs) (by simp only [SS.st, List.getElem?_map, List.getElem?_range hj', Option.map_some])
  have hge : ¬ N + j < a'.tmps.size := by rw [he1l]; omega
  have hge2 : ¬ N + j < N := by omega
  simpa [Array.getD_eq_getD_getElem?, Array.getElem?_append, hge, hge2, List.getD, he1l] using this
 obtain ⟨r1, r2⟩ := ret_spec hokR z (w := w) (w' := w') (D := D) (D' := D2) hlen g1 hslots
 have hres : (results fn a'.tmps).run P w' = .ok (if h : vs'.toArray.size = 1 then vs'.toArray[0] else .tuple vs'.toArray) w' := by
  have k4 : ∀ F : ResultVar → Sem Value, (∀ r, F r = rvRun a'.tmps r) → (List.mapM F fn.results.toList).run P w' = .ok vs' w' := fun F hF => by rw [funext hF, hr]; exact k3
  unfold results
  rw [Array.mapM_eq_mapM_toList]
  simp only [Sem.run_bind, Sem.run_map, Sem.run_pure]
  refine (congrArg (fun r => (Result.andThen (Result.andThen r fun (l : List Value) w => .ok l.toArray w) fun vs w => .ok (if h : vs.size = 1 then vs[0] else .tuple vs) w)) (k4 _ fun r => by cases r <;> rfl)).trans ?_
  simp only [Result.andThen_ok]
 exact ⟨_, hres, _, D2, rfl, r1, r2, fun n d h => (g3 n d h).1⟩
theorem contract_of {P : Program} {f : FuncId} {fn : Func} {g : Sig} {N : Nat} {c : Code} {x : argsT g.args} {r : g.R}
  (hf : P.funcs[f]? = some fn) (hb : fn.body = some c) (hn : fn.ntmps = N) (hN : g.args.length ≤ N)
  (H : ∀ (w : World) (D : Names) (a : Act), PinsOk (pinsOf g.args 0) D → DefX w.heap.size a w → Sat w D.N D (SS.st N ⟨argE g.args 0 x, argO g.args 0 x⟩) (ext #[] a) w → c.wpIn (FR none) 0 P (BodyEnd P fn g r w D) a w) :
  Contract P f (argsAV canon g.args 0 x) (osAV canon g.args 0 x) (crAV canon g r) := by
 intro w D vs hmem hargs
 refine (callsIn_wide (n := 0)).1 (callsIn_of_wp_marks hf hb trivial ?_)
 have hpins : ∀ n, n < top → (D n).isSome = true → n ∈ pinsOf g.args 0 := by
  intro n hK hn
  rw [hmem.dom n hK] at hn
  obtain ⟨o, ho⟩ := Option.isSome_iff_exists.1 hn
  rw [← osAV_fst g.args 0 x]
  exact look_mem ho
 have hsat : Sat w D.N D ⟨argsAV canon g.args 0 x ++ List.replicate (fn.ntmps - (argsAV canon g.args 0 x).length) .und, osAV canon g.args 0 x⟩ { tmps := vs.toArray ++ Array.replicate (fn.ntmps - vs.toArray.size) undef, defers := [] } w := by
  refine ⟨rfl, D, hmem, ⟨by simp [hargs.1], fun i x hx => ?_⟩, fun n d hn => ⟨hn, fun hK => ?_⟩⟩
  ·rw [List.getElem?_append] at hx
   split at hx
   ·rename_i hi
    have hlt : i < vs.length := by rw [hargs.1]; exact hi
    have := hargs.2 i x hx
    simpa [Array.getD_eq_getD_getElem?, Array.getElem?_append, hlt, List.getD] using this
   ·rename_i hi
    rw [List.getElem?_replicate] at hx
    split at hx
    ·rename_i hi2
     simp only [Option.some.injEq] at hx; subst hx
     have h1 : ¬ i < vs.length := by rw [hargs.1]; exact hi
     have h2 : i - vs.length < fn.ntmps - vs.length := by rw [hargs.1]; exact hi2
     have : (vs.toArray ++ Array.replicate (fn.ntmps - vs.toArray.size) undef).getD i undef = undef := by
      simp [Array.getD_eq_getD_getElem?, Array.getElem?_append, h1, h2]
     simp only [this]
     simp only [Slot, Val, Cell]; exact .und
    ·cases hx
  ·have hs := hmem.dom n hK
   rw [hn] at hs
   obtain ⟨o, ho⟩ := Option.isSome_iff_exists.1 hs.symm
   obtain ⟨cs, rfl, _⟩ := boxesOk_look (osAV_ok g.args 0 x) ho
   exact ⟨cs, ho⟩
 rw [hn] at hsat
 have hsat2 := entry_cov g N hN x _ _ _ _ _ hsat
 rw [hn]
 exact H w D _ hpins (.nil rfl) (by rw [ext_nil rfl]; exact hsat2)
theorem call_contract {P : Program} {G : List (Nat × TD)} {FT : List (Nat × Entry)} {M : MTab} {IT : List (Nat × Inl)} {dep : Nat} (hG : Good P G) (hM : MtOk P M) (hIT : ITok P IT) (hFT : FTok P FT) (hm : P.follows .mixedOrders = true) {f : FuncId} {fn : Func} {g : Sig} {N : Nat} {rv : List ResultVar} {c : Code} {h : HT} {fuel : Nat} {x : argsT g.args} {r : g.R}
  (hf : P.funcs[f]? = some fn) (hb : fn.body = some c) (hr : fn.results.toList = rv) (hn : fn.ntmps = N) (hN : g.args.length ≤ N) (hok : okC c h = true) (hokR : okR g rv = true) (hcall : call G M FT IT dep g N rv c h fuel x = some r) :
  Contract P f (argsAV canon g.args 0 x) (osAV canon g.args 0 x) (crAV canon g r) := by
 refine contract_of hf hb hn hN fun w D a hpins hd hsat => ?_
 have hawp := exec_sound (C := ⟨G, N, fuel, M⟩) hG hM hFT hm (pins := pinsOf g.args 0) (exJ_ok hFT hm hIT dep) 0 true c h (by rw [shC_zero]; exact hok) (by rw [shC_zero]; exact hcall)
 refine Code.wpIn_mono ?_ (hawp none #[] w D.N D a w (fun _ => rfl) rfl hpins hd hsat)
 rintro e a1 w1 ⟨hdx, s', ⟨fs, rfl, hfin⟩, hsatE1⟩
 exact fin_leaves hG hr hokR hpins hdx hfin hsatE1
theorem tc_of {P : Program} {G : List (Nat × TD)} {FT : List (Nat × Entry)} {M : MTab} {IT : List (Nat × Inl)} {dep : Nat} (hG : Good P G) (hM : MtOk P M) (hIT : ITok P IT) (hFT : FTok P FT) (hm : P.follows .mixedOrders = true) {f : FuncId} {fn : Func} {e : Entry} {N : Nat} {rv : List ResultVar} {c : Code} {h : HT}
  (hf : P.funcs[f]? = some fn) (hb : fn.body = some c) (hr : fn.results.toList = rv) (hn : fn.ntmps = N) (hN : e.sig.args.length ≤ N) (hok : okC c h = true) (hokR : okR e.sig rv = true)
  (hF : ∀ x r, e.F x = some r → ∃ fuel, call G M FT IT dep e.sig N rv c h fuel x = some r) : TC P f e := fun x r hx => by
 obtain ⟨fuel, hc⟩ := hF x r hx
 exact call_contract hG hM hIT hFT hm hf hb hr hn hN hok hokR hc
theorem FTok_nil {P : Program} : FTok P [] := fun _ _ h => by cases h
theorem FTok_cons {P : Program} {f : FuncId} {e : Entry} {FT : List (Nat × Entry)} (hf : funOk P f = true) (he : TC P f e) (h : FTok P FT) : FTok P ((f, e) :: FT) := by
 intro g e' hg
 simp only [lkF] at hg
 split at hg
 ·rename_i hfg
  subst hfg
  simp only [Option.some.injEq] at hg; subst hg
  exact ⟨hf, he⟩
 ·exact h g e' hg
theorem ITok_nil {P : Program} : ITok P [] := fun _ _ h => by cases h
theorem ITok_cons {P : Program} {f : FuncId} {i : Inl} {IT : List (Nat × Inl)} {fn : Func} (hf : funOk P f = true) (h1 : P.funcs[f]? = some fn) (h2 : fn.body = some i.code) (h3 : fn.results.toList = i.rv) (h4 : fn.ntmps = i.n) (h : ITok P IT) : ITok P ((f, i) :: IT) := by
 intro g j hg
 simp only [lkI] at hg
 split at hg
 ·rename_i hfg
  subst hfg
  simp only [Option.some.injEq] at hg; subst hg
  exact ⟨hf, fn, h1, h2, h3, h4⟩
 ·exact h g j hg
theorem MtOk_nil {P : Program} : MtOk P [] := fun _ _ _ _ h => by cases h
end Go.Abs
namespace Go.Abs
open Go.RowKit Go.ChangeShapes Go.WideShapes
variable {W : World}
mutual
def Ty.wf : (t : Ty) → t.T → Prop
 | .int k, n => (Lit.int k n).wf = true
 | .bool, _ => True
 | .str, s => s.length ≤ lim
 | .sl ts, l => l.length ≤ lim ∧ ∀ x ∈ l, ts.wf x
def Tys.wf : (ts : Tys) → ts.T → Prop
 | .nil, _ => True
 | .cons t ts, x => t.wf x.1 ∧ ts.wf x.2
end
def CT.wf : (c : CT) → c.T → Prop
 | .ty t, x => t.wf x
 | .ag ts, x => ts.wf x
def argsWf : (l : List AT) → argsT l → Prop
 | [], _ => True
 | .v c :: l, x => c.wf x.1 ∧ argsWf l x.2
 | .bx ts :: l, x => ts.wf x.1 ∧ argsWf l x.2
def takeTs : Nat → Tys → Tys
 | 0, _ => .nil
 | _ + 1, .nil => .nil
 | n + 1, .cons t ts => .cons t (takeTs n ts)
def dropTs : Nat → Tys → Tys
 | 0, ts => ts
 | _ + 1, .nil => .nil
 | n + 1, .cons _ ts => dropTs n ts
def joinTs : (n : Nat) → (ts : Tys) → (takeTs n ts).T → (dropTs n ts).T → ts.T
 | 0, _, _, b => b
 | _ + 1, .nil, _, _ => ()
 | n + 1, .cons _ ts, a, b => (a.1, joinTs n ts a.2 b)
theorem joinTs_av : ∀ (n : Nat) (ts : Tys) (a : (takeTs n ts).T) (b : (dropTs n ts).T), ts.avs (joinTs n ts a b) = (takeTs n ts).avs a ++ (dropTs n ts).avs b
 | 0, _, _, _ => rfl
 | _ + 1, .nil, _, _ => rfl
 | n + 1, .cons t ts, a, b => by
  show t.av a.1 :: ts.avs (joinTs n ts a.2 b) = t.av a.1 :: ((takeTs n ts).avs a.2 ++ (dropTs n ts).avs b)
  rw [joinTs_av n ts a.2 b]
theorem joinTs_wf : ∀ (n : Nat) (ts : Tys) (a : (takeTs n ts).T) (b : (dropTs n ts).T), (takeTs n ts).wf a → (dropTs n ts).wf b → ts.wf (joinTs n ts a b)
 | 0, _, _, _, _, h => h
 | _ + 1, .nil, _, _, _, _ => trivial
 | n + 1, .cons _ ts, a, b, h1, h2 => ⟨h1.1, joinTs_wf n ts a.2 b h1.2 h2⟩
def fitF (P : Program) (fit : TypeId → Tys → Bool) : List Field → Nat → Tys → Bool
 | [], _, ts => ts.beq .nil
 | f :: fs, off, ts => decide (f.offset = off) && (decide ((takeTs (P.cellsOf f.type) ts).len = P.cellsOf f.type) && (fit f.type (takeTs (P.cellsOf f.type) ts) && fitF P fit fs (off + P.cellsOf f.type) (dropTs (P.cellsOf f.type) ts)))
def fitB (P : Program) : Nat → TypeId → Tys → Bool
 | 0, _, _ => false
 | n + 1, T, ts => match P.underlying T with
  | some (.int k) => ts.beq (.cons (.int k) .nil)
  | some .bool => ts.beq (.cons .bool .nil)
  | some .string => ts.beq (.cons .str .nil)
  | some (.slice e) => match ts with
   | .cons (.sl us) .nil => fitB P n e us && (decide (P.cellsOf e = us.len) && (decide (0 < us.len) && decide (0 < P.bytesOf e)))
   | _ => false
  | some (.struct fs) => decide (P.cellsOf T = ts.len) && fitF P (fitB P n) fs.toList 0 ts
  | _ => false
def Stands (W : World) (xs : List AV) (cs : List Value) : Prop := cs.length = xs.length ∧ ∀ (i : Nat) (a : AV), xs[i]? = some a → Imm W (fun _ => False) a (cs.getD i undef) ∧ (cs.getD i undef).oneCell' = true
theorem Stands.append {a b : List AV} {cs ds : List Value} (h : Stands W a cs) (k : Stands W b ds) : Stands W (a ++ b) (cs ++ ds) := by
 refine ⟨by simp [h.1, k.1], fun i x hx => ?_⟩
 by_cases hi : i < a.length
 ·rw [List.getElem?_append_left hi] at hx
  have : (cs ++ ds).getD i undef = cs.getD i undef := by simp [List.getD, List.getElem?_append_left (show i < cs.length by rw [h.1]; exact hi)]
  rw [this]; exact h.2 i x hx
 ·rw [List.getElem?_append_right (by omega)] at hx
  have : (cs ++ ds).getD i undef = ds.getD (i - a.length) undef := by simp [List.getD, List.getElem?_append_right (show cs.length ≤ i by rw [h.1]; omega), h.1]
  rw [this]; exact k.2 _ x hx
theorem stands_one {x : AV} {v : Value} (h : Imm W (fun _ => False) x v) (h1 : v.oneCell' = true) : Stands W [x] [v] := by
 refine ⟨rfl, fun i a ha => ?_⟩
 cases i with
 | zero => simp only [List.getElem?_cons_zero, Option.some.injEq] at ha; subst ha; exact ⟨h, h1⟩
 | succ i => simp at ha
theorem list_of {α : Type} {Q : Nat → α → Prop} : ∀ (n : Nat), (∀ i, i < n → ∃ y, Q i y) → ∃ l : List α, l.length = n ∧ ∀ (i : Nat) (y : α), l[i]? = some y → Q i y
 | 0, _ => ⟨[], rfl, by simp⟩
 | n + 1, h => by
  obtain ⟨l, h1, h2⟩ := list_of n (fun i hi => h i (by omega))
  obtain ⟨y, hy⟩ := h n (by omega)
  refine ⟨l ++ [y], by simp [h1], fun i z hz => ?_⟩
  rw [List.getElem?_append] at hz
  split at hz
  ·exact h2 i z hz
  ·rename_i hi
   have : i - l.length = 0 := by
    rcases Nat.eq_zero_or_pos (i - l.length) with h | h
    ·exact h
    ·rw [List.getElem?_eq_none (by simp; omega)] at hz; cases hz
   rw [this] at hz
   simp only [List.getElem?_cons_zero, Option.some.injEq] at hz; subst hz
   have : i = n := by omega
   subst this; exact hy
theorem weights_mem {H : Type} {P : Program} {e : TypeId} : ∀ {l : List (DataW H)} {d : DataW H} {x : Nat}, d ∈ l → x ∈ d.weights P e → x ∈ DataW.weightsAll P e l
 | [], d, x, h, _ => by simp at h
 | a :: l, d, x, h, hx => by
  rw [DataW.weightsAll]
  rcases List.mem_cons.1 h with rfl | h
  ·exact List.mem_append.2 (.inl hx)
  ·exact List.mem_append.2 (.inr (weights_mem h hx))
theorem reach_lim {n : Nat} (h : n ≤ reachBytes) : n ≤ lim := by
 have : reachBytes ≤ lim := by decide
 omega
section
variable {H : Type} {enc : TypeId × Value → H} {P : Program} {W : World}
theorem open_fields {n : Nat} (ih : ∀ (T : TypeId) (ts : Tys) (fuel : Nat) (cs : List Value) (d : DataW H) (ps : List MemPlace), fitB P n T ts = true → DataW.trod enc P W 0 (fun _ => true) true fuel T cs = some (d, ps) → (∀ x ∈ d.weights P T, x ≤ reachBytes) →
   ∃ y : ts.T, ts.wf y ∧ Stands W (ts.avs y) cs) (fuel : Nat) (all : List Value) :
  ∀ (fs : List Field) (off : Nat) (ts : Tys) (xs : List (DataW H × List MemPlace)), fitF P (fitB P n) fs off ts = true → xs.length = fs.length → off + ts.len = all.length →
   (∀ (i : Nat) (f : Field), fs[i]? = some f → DataW.trod enc P W 0 (fun _ => true) true fuel f.type ((all.drop f.offset).take (P.cellsOf f.type)) = xs[i]?) →
   (∀ x ∈ DataW.weightsEach P (fs.map (·.type)) (xs.map (·.1)), x ≤ reachBytes) → ∃ y : ts.T, ts.wf y ∧ Stands W (ts.avs y) (all.drop off)
 | [], off, ts, xs, h, hl, hall, hx, hw => by
  have := Tys.beq_eq _ _ h
  subst this
  refine ⟨(), trivial, ?_⟩
  have : all.drop off = [] := List.drop_eq_nil_of_le (by simp [Tys.len] at hall; omega)
  rw [this]
  exact ⟨rfl, fun i a ha => by simp [Tys.avs] at ha⟩
 | f :: fs, off, ts, [], h, hl, hall, hx, hw => by simp at hl
 | f :: fs, off, ts, x :: xs, h, hl, hall, hx, hw => by
  simp only [fitF, Bool.and_eq_true, decide_eq_true_eq] at h
  obtain ⟨h1, h2, h3, h4⟩ := h
  obtain ⟨d, ps⟩ := x
  have hx0 := hx 0 f (by simp)
  simp only [List.getElem?_cons_zero] at hx0
  have hwe : DataW.weightsEach P ((f :: fs).map (·.type)) (((d, ps) :: xs).map (·.1)) = d.weights P f.type ++ DataW.weightsEach P (fs.map (·.type)) (xs.map (·.1)) := by
   simp only [List.map_cons]; rw [DataW.weightsEach]
  rw [hwe] at hw
  obtain ⟨a, ha1, ha2⟩ := ih f.type _ fuel _ d ps h3 hx0 (fun x hx => hw x (List.mem_append.2 (.inl hx)))
  have hlen : ∀ (n : Nat) (ts : Tys), (takeTs n ts).len + (dropTs n ts).len = ts.len := by
   intro n
   induction n with
   | zero => intro ts; simp [takeTs, dropTs, Tys.len]
   | succ n ih => intro ts; cases ts with
    | nil => simp [takeTs, dropTs, Tys.len]
    | cons t ts => simp only [takeTs, dropTs, Tys.len]; have := ih ts; omega
  have hl2 := hlen (P.cellsOf f.type) ts
  obtain ⟨b, hb1, hb2⟩ := open_fields ih fuel all fs (off + P.cellsOf f.type) (dropTs (P.cellsOf f.type) ts) xs h4 (by simpa using hl) (by omega) (fun i g hg => by simpa using hx (i + 1) g (by simpa using hg)) (fun x hx => hw x (List.mem_append.2 (.inr hx)))
  refine ⟨joinTs _ ts a b, joinTs_wf _ ts a b ha1 hb1, ?_⟩
  rw [joinTs_av]
  have hsplit : all.drop off = (all.drop off).take (P.cellsOf f.type) ++ all.drop (off + P.cellsOf f.type) := by
   rw [← List.drop_drop, List.take_append_drop]
  rw [hsplit]
  rw [h1] at ha2
  exact ha2.append hb2
theorem open_ts : ∀ (n : Nat) (T : TypeId) (ts : Tys) (fuel : Nat) (cs : List Value) (d : DataW H) (ps : List MemPlace), fitB P n T ts = true → DataW.trod enc P W 0 (fun _ => true) true fuel T cs = some (d, ps) → (∀ x ∈ d.weights P T, x ≤ reachBytes) →
  ∃ y : ts.T, ts.wf y ∧ Stands W (ts.avs y) cs
 | 0, _, _, _, _, _, _, h, _, _ => by simp [fitB] at h
 | n + 1, T, ts, fuel, cs, d, ps, h, ht, hw => by
  unfold fitB at h
  split at h
  ·rename_i k hu
   have := Tys.beq_eq _ _ h
   subst this
   obtain ⟨m, rfl, _, hwf⟩ := DataW.trod_int hu ht
   exact ⟨((m : Int), ()), ⟨hwf, trivial⟩, stands_one (.int k m) rfl⟩
  ·rename_i hu
   have := Tys.beq_eq _ _ h
   subst this
   obtain ⟨b, rfl, _⟩ := DataW.trod_bool hu ht
   exact ⟨(b, ()), ⟨trivial, trivial⟩, stands_one (.bool b) rfl⟩
  ·rename_i hu
   have := Tys.beq_eq _ _ h
   subst this
   obtain ⟨s, rfl, e, _⟩ := DataW.trod_string hu ht
   simp only [Prod.mk.injEq] at e
   rw [e.1] at hw
   have hl : s.data.toList.length ≤ lim := reach_lim (hw _ (by rw [DataW.weights]; exact List.mem_cons_self ..))
   refine ⟨((s.data.toList : List UInt8), ()), ⟨hl, trivial⟩, stands_one ?_ rfl⟩
   have := Imm.str (w := W) (M := fun _ => False) s.data.toList hl
   have e : (⟨s.data.toList.toArray⟩ : ByteArray) = s := by cases s; simp
   rw [e] at this
   exact this
  ·rename_i e hu
   split at h
   ·rename_i us
    simp only [Bool.and_eq_true, decide_eq_true_eq] at h
    obtain ⟨h1, h2, h3, h4⟩ := h
    rcases DataW.trod_slice hu ht with ⟨rfl, _⟩ | ⟨a, len, cap, elems, rest, m, _, rfl, hx, _, hlc, _, hlen, hel, _, _⟩
    ·exact ⟨(([] : List us.T), ()), ⟨⟨by simp [lim], by simp⟩, trivial⟩, stands_one (.slnil us.len none 0) rfl⟩
    ·simp only [Prod.mk.injEq] at hx
     obtain ⟨rfl, _⟩ := hx
     rw [DataW.weights, hu] at hw
     have hle : len ≤ lim := by
      have h5 := hw _ (List.mem_cons_self ..)
      simp only [List.length_map] at h5
      have h6 : len ≤ (elems.length + rest.length) * P.bytesOf e := by
       rw [hlen]
       exact Nat.le_trans (Nat.le_add_right _ _) (Nat.le_mul_of_pos_right _ h4)
      exact reach_lim (by omega)
     have hone : ∀ i, i < len → ∃ y : us.T, us.wf y ∧ ∃ c : List Value, Stands W (us.avs y) c ∧ ∀ j, j < us.len → W.cell? ((a.add (i * us.len)).add j) = c[j]? := by
      intro i hi
      have h5 := hel i hi
      rw [List.getElem?_eq_getElem (by omega), h2] at h5
      obtain ⟨c, hc1, hc2⟩ := Option.bind_eq_some_iff.1 h5
      obtain ⟨_, g1, g2⟩ := World.cells?_some hc1
      have hm : (elems[i]'(by omega)).1 ∈ elems.map (·.1) := List.mem_map_of_mem (List.getElem_mem _)
      obtain ⟨y, y1, y2⟩ := open_ts n e us m c (elems[i]'(by omega)).1 (elems[i]'(by omega)).2 h1 hc2 (fun x hx => hw x (List.mem_cons_of_mem _ (List.mem_append.2 (.inl (weights_mem hm hx)))))
      exact ⟨y, y1, c, y2, g2⟩
     obtain ⟨l, hl1, hl2⟩ := list_of len hone
     refine ⟨((l : List us.T), ()), ⟨⟨by rw [hl1]; exact hle, fun x hx => ?_⟩, trivial⟩, stands_one ?_ rfl⟩
     ·obtain ⟨i, hi, rfl⟩ := List.getElem_of_mem hx
      exact (hl2 i _ (List.getElem?_eq_getElem hi)).1
     ·show Imm W _ (.sl us.len (l.map us.avs)) _
      cases len with
      | zero =>
       have : l = [] := List.length_eq_zero_iff.1 hl1
       subst this
       exact .slnil us.len (some a) cap
      | succ len =>
       obtain ⟨y0, c0, hy0, hs0, hc0⟩ : ∃ y c, l[0]? = some y ∧ Stands W (us.avs y) c ∧ ∀ j, j < us.len → W.cell? ((a.add (0 * us.len)).add j) = c[j]? := by
        obtain ⟨y, hy⟩ : ∃ y, l[0]? = some y := ⟨l[0]'(by omega), List.getElem?_eq_getElem (by omega)⟩
        obtain ⟨_, c, k1, k2⟩ := hl2 0 y hy
        exact ⟨y, c, hy, k1, k2⟩
       have hlen0 : c0.length = us.len := by rw [hs0.1, avs_len]
       have hcell0 : W.cell? a = some (c0[0]'(by omega)) := by
        have := hc0 0 h3
        rw [List.getElem?_eq_getElem (by omega)] at this
        simpa [Addr.add] using this
       obtain ⟨b, off, spot⟩ := a
       have hspot : spot = none := World.cell?_spot hcell0
       subst hspot
       have hb : b < W.heap.size := by
        unfold World.cell? at hcell0
        cases hh : W.heap[b]? with
        | none => simp [hh] at hcell0
        | some o => exact (Array.getElem?_eq_some_iff.1 hh).1
       have hadd : ∀ k j, ((⟨b, off, none⟩ : Addr).add k).add j = ⟨b, off + (k + j), none⟩ := by
        intro k j
        rw [addr_add, addr_add, Nat.add_assoc]
       have hlm : (l.map us.avs).length = len + 1 := by rw [List.length_map, hl1]
       rw [← hlm]
       have key : ∀ (j : Nat) (cs : List AV), (l.map us.avs)[j]? = some cs → ∃ y c, us.avs y = cs ∧ Stands W (us.avs y) c ∧ ∀ i, i < us.len → W.cell? ⟨b, off + (j * us.len + i), none⟩ = c[i]? := by
        intro j cs hj
        rw [List.getElem?_map] at hj
        obtain ⟨y, hy, rfl⟩ := Option.map_eq_some_iff.1 hj
        obtain ⟨_, c, k1, k2⟩ := hl2 j y hy
        exact ⟨y, c, rfl, k1, fun i hi => by rw [← hadd]; exact k2 i hi⟩
       refine Imm.sl us.len (l.map us.avs) b off cap (fun j i => (W.cell? ⟨b, off + (j * us.len + i), none⟩).getD undef) hb (fun h => h) (by rw [hlm]; exact hlc) (by rw [hlm]; exact hle) ?_ ?_ ?_ ?_
       ·intro j cs hj
        obtain ⟨y, c, rfl, k1, k2⟩ := key j cs hj
        exact avs_len us y
       ·intro j cs i x hj hi
        obtain ⟨y, c, rfl, k1, k2⟩ := key j cs hj
        have hi' : i < us.len := by
         rcases Nat.lt_or_ge i us.len with h | h
         ·exact h
         ·rw [List.getElem?_eq_none (by rw [avs_len]; exact h)] at hi; cases hi
        have hc := k2 i hi'
        rw [List.getElem?_eq_getElem (show i < c.length by rw [k1.1, avs_len]; exact hi')] at hc
        rw [hc]; rfl
       ·intro j cs i x hj hi
        obtain ⟨y, c, rfl, k1, k2⟩ := key j cs hj
        have hi' : i < us.len := by
         rcases Nat.lt_or_ge i us.len with h | h
         ·exact h
         ·rw [List.getElem?_eq_none (by rw [avs_len]; exact h)] at hi; cases hi
        have := (k1.2 i x hi).2
        rw [k2 i hi']
        exact this
       ·intro j cs i x hj hi
        obtain ⟨y, c, rfl, k1, k2⟩ := key j cs hj
        have hi' : i < us.len := by
         rcases Nat.lt_or_ge i us.len with h | h
         ·exact h
         ·rw [List.getElem?_eq_none (by rw [avs_len]; exact h)] at hi; cases hi
        have := (k1.2 i x hi).1
        rw [k2 i hi']
        exact this
   ·cases h
  ·rename_i fs hu
   simp only [Bool.and_eq_true, decide_eq_true_eq] at h
   obtain ⟨h1, h2⟩ := h
   obtain ⟨xs, m, _, hx, hcl, hxl, hf⟩ := DataW.trod_struct hu ht
   simp only [Prod.mk.injEq] at hx
   obtain ⟨rfl, _⟩ := hx
   rw [DataW.weights, hu] at hw
   have := open_fields (open_ts n) m cs fs.toList 0 ts xs h2 (by simpa using hxl) (by rw [hcl]; omega) (fun i f hi => hf i f (by simpa using hi)) hw
   simpa using this
  ·cases h
def fitC (P : Program) (T : TypeId) : CT → Bool
 | .ty t => fitB P 20 T (.cons t .nil) && (match P.underlying T with | some (.int _) | some .bool | some .string | some (.slice _) => true | _ => false)
 | .ag ts => fitB P 20 T ts && (match P.underlying T with | some (.struct _) => true | _ => false)
def fitArgs (P : Program) : List TypeId → List CT → Bool
 | [], [] => true
 | T :: Ts, c :: cs => fitC P T c && fitArgs P Ts cs
 | _, _ => false
theorem imm_slot {x : AV} {v : Value} (h : Imm W (fun _ => False) x v) : Slot W (fun _ => none) x v :=
 Imm.slot (D := fun _ => none) (h.mono (Grow.refl W _).toKeep fun b _ hb => by obtain ⟨n, hn⟩ := hb; cases hn)
theorem open_ct {c : CT} {T : TypeId} {v : Value} {d : DataW H} {ps : List MemPlace} {b0 : Nat} (hf : fitC P T c = true) (hv : Value.okWide P W .any b0 T v) (ht : DataW.Trod enc P W 0 (fun _ => true) true T v d ps) (hw : ∀ x ∈ d.weights P T, x ≤ reachBytes) :
  ∃ y : c.T, c.wf y ∧ Slot W (fun _ => none) (c.av y) v := by
 obtain ⟨fuel, ht⟩ := ht
 cases c with
 | ty t =>
  simp only [fitC, Bool.and_eq_true] at hf
  obtain ⟨y, y1, y2⟩ := open_ts 20 T _ fuel _ d ps hf.1 ht hw
  have hone : v.cells = #[v] := by
   have h2 := hf.2
   split at h2
   ·rename_i k hu; obtain ⟨n, rfl⟩ := okWide_int hu hv; rfl
   ·rename_i hu; obtain ⟨n, rfl⟩ := okWide_bool hu hv; rfl
   ·rename_i hu; obtain ⟨n, rfl⟩ := okWide_string hu hv; rfl
   ·rename_i e hu; obtain ⟨a, l, c, rfl⟩ := okWide_slice hu hv; rfl
   ·cases h2
  rw [hone] at y2
  have := (y2.2 0 (t.av y.1) rfl).1
  exact ⟨y.1, y1.1, imm_slot this⟩
 | ag ts =>
  simp only [fitC, Bool.and_eq_true] at hf
  obtain ⟨y, y1, y2⟩ := open_ts 20 T _ fuel _ d ps hf.1 ht hw
  have hagg : ∃ cs, v = .agg cs := by
   have h2 := hf.2
   split at h2
   ·rename_i fs hu; obtain ⟨cs, rfl, _⟩ := okWide_struct hu hv; exact ⟨cs, rfl⟩
   ·cases h2
  obtain ⟨cs, rfl⟩ := hagg
  refine ⟨y, y1, cs.toList, by simp, y2.1, fun i x hx => ?_⟩
  obtain ⟨k1, k2⟩ := y2.2 i x hx
  exact ⟨Imm.cell (D := fun _ => none) (k1.mono (Grow.refl W _).toKeep fun b _ hb => by obtain ⟨n, hn⟩ := hb; cases hn), k2⟩
end
theorem open_args {H : Type} {enc : TypeId × Value → H} {P : Program} {b0 : Nat} : ∀ {Ts : List TypeId} {cts : List CT} {vs : List Value} {ds : List (DataW H)} {ps : List MemPlace}, fitArgs P Ts cts = true →
  (∀ (j : Nat) t v, Ts[j]? = some t → vs[j]? = some v → Value.okWide P W .any b0 t v) → DataW.TrodAll enc P W 0 (fun _ => true) true Ts vs ds ps → (∀ x ∈ DataW.weightsEach P Ts ds, x ≤ reachBytes) →
  ∃ x : argsT (cts.map AT.v), argsWf _ x ∧ (∀ ν i, ArgsRep W (fun _ => none) (argsAV ν (cts.map AT.v) i x) vs) ∧ ds.length = cts.length
 | [], [], vs, ds, ps, _, _, h, _ => by
  cases vs with
  | nil => cases ds with
   | nil => exact ⟨(), trivial, fun _ _ => ⟨rfl, fun i x hx => by cases hx⟩, rfl⟩
   | cons d ds => exact h.elim
  | cons v vs => exact h.elim
 | [], _ :: _, vs, ds, ps, h, _, _, _ => by simp [fitArgs] at h
 | _ :: _, [], vs, ds, ps, h, _, _, _ => by simp [fitArgs] at h
 | T :: Ts, c :: cts, vs, ds, ps, h, hv, ht, hw => by
  simp only [fitArgs, Bool.and_eq_true] at h
  cases vs with
  | nil => exact ht.elim
  | cons v vs =>
   cases ds with
   | nil => exact ht.elim
   | cons d ds =>
    obtain ⟨p, q, h1, h2, _⟩ := ht
    rw [DataW.weightsEach] at hw
    obtain ⟨y, y1, y2⟩ := open_ct h.1 (hv 0 T v rfl rfl) h1 (fun x hx => hw x (List.mem_append.2 (.inl hx)))
    obtain ⟨x, x1, x2, x3⟩ := open_args (cts := cts) h.2 (fun j t v ht hv' => hv (j + 1) t v (by simpa using ht) (by simpa using hv')) h2 (fun x hx => hw x (List.mem_append.2 (.inr hx)))
    refine ⟨(y, x), ⟨y1, x1⟩, fun ν i => ⟨?_, fun j a ha => ?_⟩, by simp [x3]⟩
    ·show (v :: vs).length = (c.av y :: argsAV ν (cts.map AT.v) (i + 1) x).length
     simp only [List.length_cons, (x2 ν (i + 1)).1]
    ·have ha : (c.av y :: argsAV ν (cts.map AT.v) (i + 1) x)[j]? = some a := ha
     cases j with
     | zero => simp only [List.getElem?_cons_zero, Option.some.injEq] at ha; subst ha; simpa using y2
     | succ j => simpa using (x2 ν (i + 1)).2 j a (by simpa using ha)
theorem trod_args {H : Type} {enc : TypeId × Value → H} {P : Program} {W W' : World} (hl : laidOutB P = true) (hb : Below W.heap.size W W') : ∀ {Ts : List TypeId} {vs : List Value} {ds : List (DataW H)} {ps : List MemPlace}, (Ts.all fun t => P.readableRec t && decide (t < P.types.size)) = true →
  DataW.TrodAll enc P W 0 (fun _ => true) true Ts vs ds ps → (∀ x ∈ ps, x.block < W.heap.size) → DataW.TrodAll enc P W' 0 (fun b => decide (b < W.heap.size)) true Ts vs ds ps
 | [], vs, ds, ps, _, h, _ => by
  cases vs with
  | nil => cases ds with
   | nil => exact h
   | cons d ds => exact h.elim
  | cons v vs => exact h.elim
 | T :: Ts, vs, ds, ps, hr, h, hlt => by
  simp only [List.all_cons, Bool.and_eq_true, decide_eq_true_eq] at hr
  cases vs with
  | nil => exact h.elim
  | cons v vs =>
   cases ds with
   | nil => exact h.elim
   | cons d ds =>
    obtain ⟨p, q, h1, h2, rfl⟩ := h
    exact ⟨p, q, Below.trod hl hr.1.1 hr.1.2 h1 hb (fun x hx => hlt x (List.mem_append.2 (.inl hx))), trod_args hl hb (by simpa using hr.2) h2 (fun x hx => hlt x (List.mem_append.2 (.inr hx))), rfl⟩
theorem law_calls {H : Type} {enc : TypeId × Value → H} {C : Checked} {f : FuncId} {fn : Func} {s : ChangeSpec} {cts : List CT} {F : argsT (cts.map AT.v) → Option (Sig.R ⟨cts.map AT.v, .v (.ty .bool)⟩)} {tb : TypeId}
  (hvars : s.vars = []) (hspec : ∀ ds : List (DataW H), ds.length = cts.length → s.fn H ds = ⟨[.lit (.bool true)], ds, []⟩) (hres : fn.resultTypes = #[tb]) (htb : C.prog.underlying tb = some .bool)
  (hfit : fitArgs C.prog fn.params.toList cts = true) (hread : (fn.params.toList.all fun t => C.prog.readableRec t && decide (t < C.prog.types.size)) = true) (hlaid : laidOutB C.prog = true)
  (hTC : TC C.prog f ⟨⟨cts.map AT.v, .v (.ty .bool)⟩, F⟩) (hF : ∀ x, argsWf _ x → ∃ o, F x = some (true, o))
  {W : World} {b0 : Nat} {args : Array Value} {ds gs : List (DataW H)} {before : List MemPlace} (hglob : GlobRep W (Names.M fun _ => none))
  (hval : ∀ (j : Nat) t v, fn.params[j]? = some t → args[j]? = some v → Value.okWide C.prog W .any b0 t v)
  (hW : DataW.Whole enc C.prog fn.params.toList s.vars false W args.toList ds gs before)
  (hsz : (DataW.weightsEach C.prog (fn.params.toList ++ s.plain.varTypes C.prog) (ds ++ gs)).all (· ≤ reachBytes) = true) :
  Calls C.prog f args W fun e W' => ∃ v, e = .returned v ∧ s.post enc C.prog fn false true false false W args v W' := by
 obtain ⟨p, q, hA, hV, hpq, hfz, hnd⟩ := hW
 have hlt : ∀ x ∈ before, x.block < W.heap.size := DataW.Whole.lt ⟨p, q, hA, hV, hpq, hfz, hnd⟩
 have hW : DataW.Whole enc C.prog fn.params.toList s.vars false W args.toList ds gs before := ⟨p, q, hA, hV, hpq, hfz, hnd⟩
 rw [hvars] at hV
 obtain ⟨hgs, hq⟩ : gs = [] ∧ q = [] := by
  cases gs with
  | nil => exact ⟨rfl, hV⟩
  | cons g gs => exact hV.elim
 subst hgs; subst hq
 have hsz2 : ∀ x ∈ DataW.weightsEach C.prog fn.params.toList ds, x ≤ reachBytes := by
  have hvt : s.plain.varTypes C.prog = [] := by
   have : s.plain.vars = [] := hvars
   simp [DataSpec.varTypes, this]
  rw [hvt, List.append_nil, List.append_nil] at hsz
  rw [List.all_eq_true] at hsz
  intro x hx
  simpa using hsz x hx
 obtain ⟨x, x1, x2, x3⟩ := open_args (b0 := b0) hfit (fun j t v ht hv => hval j t v (by simpa using ht) (by simpa using hv)) hA hsz2
 obtain ⟨o, ho⟩ := hF x x1
 have hc := hTC x (true, o) ho
 have hno : noBx (cts.map AT.v) = true := by
  have : ∀ cts : List CT, noBx (cts.map AT.v) = true := by
   intro cts
   induction cts with
   | nil => rfl
   | cons c cts ih => exact ih
  exact this cts
 have hcalls := hc W (fun _ => none) args.toList (by rw [osAV_no hno]; exact mem_none W hglob) (x2 canon 0)
 rw [Array.toArray_toList] at hcalls
 refine hcalls.mono fun e W' hp => ?_
 obtain ⟨v, D', rfl, hm', hs, _⟩ := hp
 have hv : v = .bool true := slot_bool hs
 subst hv
 have hb : Below W.heap.size W W' := below_of_grow (hm'.grow.weaken fun b _ hb => by obtain ⟨n, _, hn⟩ := hb; cases hn) hm'.os hm'.tape hm'.output
 refine ⟨_, rfl, ?_⟩
 have hrl : (Value.bool true).resultList fn.resultTypes.size = [.bool true] := by rw [hres]; rfl
 refine ⟨ds, [], before, [], p, [], hW, ?_, ?_, ?_, hb.frame _, fun h => by cases h⟩
 ·rw [List.append_nil, hspec ds x3, hrl, hres]
  exact trodAll_mk1 (shut_bool htb true)
 ·rw [List.append_nil, hspec ds x3]
  refine trod_args hlaid hb hread hA (fun y hy => hlt y ?_)
  rw [hpq]; exact List.mem_append.2 (.inl hy)
 ·rw [List.append_nil, hspec ds x3, hvars]
  exact rfl
end Go.Abs
namespace Go.Abs
def avB : AV → AV → Bool
 | .int k n, .int k' n' => decide (k = k') && decide (n = n')
 | .bool a, .bool b => a == b
 | .str a, .str b => a.isEmpty && b.isEmpty
 | .nsl, .nsl => true
 | _, _ => false
theorem avB_eq : ∀ {a b : AV}, avB a b = true → a = b := by
 intro a b h
 cases a <;> cases b <;> simp [avB] at h ⊢
 all_goals first | exact h | skip
 obtain ⟨h1, h2⟩ := h
 rw [h1, h2]
def avsB : List AV → List AV → Bool
 | [], [] => true
 | a :: l, b :: m => avB a b && avsB l m
 | _, _ => false
theorem avsB_eq : ∀ {a b : List AV}, avsB a b = true → a = b
 | [], [], _ => rfl
 | a :: l, b :: m, h => by
  simp only [avsB, Bool.and_eq_true] at h
  rw [avB_eq h.1, avsB_eq h.2]
 | [], _ :: _, h => by simp [avsB] at h
 | _ :: _, [], h => by simp [avsB] at h
def oavsB : Option (List AV) → List AV → Bool
 | some a, b => avsB a b
 | none, _ => false
theorem oavsB_eq : ∀ {a : Option (List AV)} {b : List AV}, oavsB a b = true → a = some b
 | some a, b, h => by rw [avsB_eq h]
 | none, _, h => by simp [oavsB] at h
def avssB : List (List AV) → List (List AV) → Bool
 | [], [] => true
 | a :: l, b :: m => avsB a b && avssB l m
 | _, _ => false
theorem avssB_eq : ∀ {a b : List (List AV)}, avssB a b = true → a = b
 | [], [], _ => rfl
 | a :: l, b :: m, h => by
  simp only [avssB, Bool.and_eq_true] at h
  rw [avsB_eq h.1, avssB_eq h.2]
 | [], _ :: _, h => by simp [avssB] at h
 | _ :: _, [], h => by simp [avssB] at h
def nlZ : Option (List AV) → KC → Bool
 | some [.cst (.pointer none)], .nilP => true
 | some [.cst .nilFunc], .nilF => true
 | some [.cst .nilIface], .nilI => true
 | _, _ => false
theorem nlZ_eq {z : Option (List AV)} {c : KC} (h : nlZ z c = true) : z = some [.cst c.val] := by
 unfold nlZ at h
 split at h <;> first | rfl | cases h
def TD.okB (P : Program) (T : TypeId) : TD → Bool
 | .map kk k => mapOkB P T kk k && decide (cellTy P T = some (false, 1))
 | .nl c => nlOk P T c && (decide (cellTy P T = some (false, 1)) && (nlZ (zeroCells P T) c && decide (arrElem P T = none)))
 | .int k => decide (intTy P T = some k) && (decide (cellTy P T = some (false, 1)) && (oavsB (zeroCells P T) [.int k 0] && decide (arrElem P T = none)))
 | .bool => boolTy P T && (decide (cellTy P T = some (false, 1)) && (oavsB (zeroCells P T) [.bool false] && decide (arrElem P T = none)))
 | .str => strTy P T && (decide (cellTy P T = some (false, 1)) && (oavsB (zeroCells P T) [.str []] && decide (arrElem P T = none)))
 | .slice ts b => decide (sliceElem P T = some ts.len) && (decide ((elemId P T).bind (sizeB P) = some b) && (oavsB ((elemId P T).bind (zeroCells P)) (ts.zc.map (CV.av [])) && (decide (cellTy P T = some (false, 1)) &&
   (oavsB (zeroCells P T) [.nsl] && (decide (arrElem P T = none) && (!(ts.beq byteTs) || byteSl P T))))))
 | .struct ts fs eq => decide (cellTy P T = some (true, ts.len)) && ((List.range fs.length).all (fun k => decide (fieldOf P T k = fs[k]?)) && (decide (places P T = some (fs.map fun f => (f.1, f.2.2))) && (oavsB (zeroCells P T) (ts.zc.map (CV.av [])) &&
   (decide (arrElem P T = none) && (!eq || eqOk P T ts)))))
 | .arr n ts => decide (arrElem P T = some (n, ts.len)) && (decide (cellTy P T = some (true, n * ts.len)) && (decide (n ≤ lim) && (match zeroCells P T with
   | some z => decide (n * ts.len = z.length) && avssB (chunk ts.len n z) (List.replicate n (ts.zc.map (CV.av [])))
   | none => false)))
theorem TD.ok_of {P : Program} {T : TypeId} {d : TD} (h : d.okB P T = true) : d.ok P T := by
 cases d with
 | map kk k =>
  simp only [TD.okB, Bool.and_eq_true, decide_eq_true_eq] at h
  exact h
 | nl c =>
  simp only [TD.okB, Bool.and_eq_true, decide_eq_true_eq] at h
  exact ⟨h.1, h.2.1, nlZ_eq h.2.2.1, h.2.2.2⟩
 | int k =>
  simp only [TD.okB, Bool.and_eq_true, decide_eq_true_eq] at h
  exact ⟨h.1, h.2.1, oavsB_eq h.2.2.1, h.2.2.2⟩
 | bool =>
  simp only [TD.okB, Bool.and_eq_true, decide_eq_true_eq] at h
  exact ⟨h.1, h.2.1, oavsB_eq h.2.2.1, h.2.2.2⟩
 | str =>
  simp only [TD.okB, Bool.and_eq_true, decide_eq_true_eq] at h
  exact ⟨h.1, h.2.1, oavsB_eq h.2.2.1, h.2.2.2⟩
 | slice ts b =>
  simp only [TD.okB, Bool.and_eq_true, decide_eq_true_eq, Bool.or_eq_true, Bool.not_eq_true'] at h
  refine ⟨h.1, h.2.1, oavsB_eq h.2.2.1, h.2.2.2.1, oavsB_eq h.2.2.2.2.1, h.2.2.2.2.2.1, fun e => ?_⟩
  rcases h.2.2.2.2.2.2 with k | k
  ·rw [k] at e; cases e
  ·exact k
 | struct ts fs eq =>
  simp only [TD.okB, Bool.and_eq_true, decide_eq_true_eq, Bool.or_eq_true, Bool.not_eq_true', List.all_eq_true, List.mem_range] at h
  refine ⟨h.1, fun k r hk => ?_, h.2.2.1, oavsB_eq h.2.2.2.1, h.2.2.2.2.1, fun e => ?_⟩
  ·rw [h.2.1 k (List.getElem?_eq_some_iff.1 hk).1, hk]
  ·rcases h.2.2.2.2.2 with k | k
   ·rw [k] at e; cases e
   ·exact k
 | arr n ts =>
  simp only [TD.okB, Bool.and_eq_true, decide_eq_true_eq] at h
  obtain ⟨h1, h2, h3, h4⟩ := h
  split at h4
  ·rename_i z hz
   simp only [Bool.and_eq_true, decide_eq_true_eq] at h4
   exact ⟨h1, h2, h3, z, hz, h4.1, avssB_eq h4.2⟩
  ·cases h4
def goodB (P : Program) (G : List (Nat × TD)) : Bool := G.all fun x => x.2.okB P x.1
theorem lkT_mem : ∀ {G : List (Nat × TD)} {T : Nat} {d : TD}, lkT G T = some d → (T, d) ∈ G := by
 intro G T d h
 induction G with
 | nil => simp [lkT] at h
 | cons a G ih =>
  obtain ⟨n, e⟩ := a
  unfold lkT at h
  split at h
  ·simp_all
  ·exact List.mem_cons_of_mem _ (ih h)
theorem good_of {P : Program} {G : List (Nat × TD)} (h : goodB P G = true) : Good P G := by
 intro T d hd
 exact TD.ok_of ((List.all_eq_true.1 h) _ (lkT_mem hd))
end Go.Abs
