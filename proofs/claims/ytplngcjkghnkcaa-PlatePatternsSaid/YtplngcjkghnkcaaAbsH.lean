/- Changing the state: substitution, allocation. -/
import Derived.Test.YtplngcjkghnkcaaAbsG
namespace Go.Abs
open Go.RowKit

def mapV (φ : AV → AV) : AV → AV
  | .agg l => .agg (l.map φ)
  | x => φ x
def mapS (φ : AV → AV) : AV → AV
  | .tup l => .tup (l.map (mapV φ))
  | x => mapV φ x
def mapO (φ : AV → AV) : List (Nat × Obj) → List (Nat × Obj)
  | [] => []
  | (n, .box cs) :: r => (n, .box (cs.map φ)) :: mapO φ r
  | (n, .arr sz l) :: r => (n, .arr sz l) :: mapO φ r

def objMap (φ : AV → AV) : Obj → Obj
  | .box cs => .box (cs.map φ)
  | .arr sz l => .arr sz l

theorem look_mapO (φ : AV → AV) (n : Nat) : ∀ l, look n (mapO φ l) = (look n l).map (objMap φ)
  | [] => rfl
  | (m, .box cs) :: r => by
    have ih := look_mapO φ n r
    by_cases h : m = n <;> simp [mapO, look, h, objMap, ih]
  | (m, .arr sz l) :: r => by
    have ih := look_mapO φ n r
    by_cases h : m = n <;> simp [mapO, look, h, objMap, ih]

/-- A change of cells (φ) carries over: what stood for a value before stands for it now. -/
structure Carry (w w' : World) (D D' : Names) (φ : AV → AV) : Prop where
  cell : ∀ x v, Cell w D x v → Cell w' D' (φ x) v

theorem Carry.val {w w' : World} {D D' : Names} {φ : AV → AV} (c : Carry w w' D D' φ) {x : AV} {v : Value} (h : Val w D x v) : Val w' D' (mapV φ x) v := by
  cases x with
  | agg l =>
    obtain ⟨vs, h1, h2, h3⟩ := h
    refine ⟨vs, h1, by simp [h2], fun i y hy => ?_⟩
    rw [List.getElem?_map] at hy
    obtain ⟨z, hz, rfl⟩ := Option.map_eq_some_iff.1 hy
    exact ⟨c.cell _ _ (h3 i z hz).1, (h3 i z hz).2⟩
  | tup l => simp only [Val, Cell] at h; cases h
  | _ =>
    simp only [Val, mapV] at h ⊢
    have := c.cell _ _ h
    exact (this.slot : Slot w' D' _ _) |> (fun hs => by
      generalize φ _ = y at this
      cases y with
      | agg => simp only [Cell] at this; cases this
      | _ => simpa only [Val] using this)

theorem Carry.slot {w w' : World} {D D' : Names} {φ : AV → AV} (c : Carry w w' D D' φ) {x : AV} {v : Value} (h : Slot w D x v) : Slot w' D' (mapS φ x) v := by
  cases x with
  | tup l =>
    obtain ⟨vs, h1, h2, h3⟩ := h
    refine ⟨vs, h1, by simp [h2], fun i y hy => ?_⟩
    rw [List.getElem?_map] at hy
    obtain ⟨z, hz, rfl⟩ := Option.map_eq_some_iff.1 hy
    exact c.val (h3 i z hz)
  | agg l =>
    simp only [Slot] at h
    have := c.val h
    simpa only [mapS, mapV, Slot] using this
  | _ =>
    simp only [Slot, Val] at h
    have := (c.cell _ _ h).slot
    simpa only [mapS, mapV] using this

theorem Carry.env {w w' : World} {D D' : Names} {φ : AV → AV} (c : Carry w w' D D' φ) {env : List AV} {tmps : Array Value} (h : EnvRep w D env tmps) : EnvRep w' D' (env.map (mapS φ)) tmps := by
  refine ⟨by simp [h.1], fun i y hy => ?_⟩
  rw [List.getElem?_map] at hy
  obtain ⟨z, hz, rfl⟩ := Option.map_eq_some_iff.1 hy
  exact c.slot (h.2 i z hz)

theorem Carry.mono {w w' : World} {D D' : Names} (k : Grow w w' D.M) (hD : ∀ n d, D n = some d → D' n = some d) (hlt : ∀ b, D.M b → b < w.heap.size)
    (hM : ∀ b, b < w.heap.size → D'.M b → D.M b) : Carry w w' D D' id := ⟨fun _ _ h => h.mono k hD hlt hM⟩

theorem EnvRep.mono {w w' : World} {D D' : Names} {env : List AV} {tmps : Array Value} (h : EnvRep w D env tmps) (k : Grow w w' D.M) (hD : ∀ n d, D n = some d → D' n = some d) (hlt : ∀ b, D.M b → b < w.heap.size)
    (hM : ∀ b, b < w.heap.size → D'.M b → D.M b) : EnvRep w' D' env tmps := ⟨h.1, fun i x hx => (h.2 i x hx).mono k hD hlt hM⟩

def Names.ins (D : Names) (d : Nat) (x : Option Nat) : Names := fun n => if n = d then some x else D n
def Names.del (D : Names) (m : Nat) : Names := fun n => if n = m then none else D n

theorem Names.ins_M {D : Names} {d b c : Nat} (h : (D.ins d (some b)).M c) : D.M c ∨ c = b := by
  obtain ⟨n, hn⟩ := h
  unfold Names.ins at hn
  split at hn
  · simp at hn; exact .inr hn.symm
  · exact .inl ⟨n, hn⟩

theorem Names.del_M {D : Names} {m c : Nat} (h : (D.del m).M c) : D.M c := by
  obtain ⟨n, hn⟩ := h
  unfold Names.del at hn
  split at hn
  · cases hn
  · exact ⟨n, hn⟩

theorem Grow.refl (w : World) (M : Nat → Prop) : Grow w w M := ⟨⟨Nat.le_refl _, fun _ _ _ => rfl⟩, fun _ _ => rfl⟩
theorem Grow.weaken {w w' : World} {M M' : Nat → Prop} (h : Grow w w' M) (hM : ∀ b, b < w.heap.size → M b → M' b) : Grow w w' M' := ⟨⟨h.size, fun b hb hm => h.same b hb (fun hk => hm (hM b hb hk))⟩, h.row⟩
theorem Grow.trans {a b c : World} {M N : Nat → Prop} (h : Grow a b M) (k : Grow b c N) (hN : ∀ x, x < a.heap.size → N x → M x) : Grow a c M :=
  ⟨⟨Nat.le_trans h.size k.size, fun x hx hm => by rw [k.same x (Nat.lt_of_lt_of_le hx h.size) (fun hn => hm (hN x hx hn)), h.same x hx hm]⟩,
   fun x hx => by rw [k.row x (Nat.lt_of_lt_of_le hx h.size), h.row x hx]⟩

theorem alloc_size (w : World) (o : _root_.Go.Obj) : (w.alloc o).heap.size = w.heap.size + 1 := by show (w.heap.push o).size = _; simp

theorem grow_alloc (w : World) (o : _root_.Go.Obj) (M : Nat → Prop) : Grow w (w.alloc o) M where
  size := by rw [alloc_size]; omega
  same := fun b hb _ => Below.heap_alloc w o b hb
  row := fun b hb => by
    unfold World.row World.shape?
    rw [Below.heap_alloc w o b hb]

theorem alloc_at (w : World) (o : _root_.Go.Obj) : (w.alloc o).heap[w.heap.size]? = some o := by show (w.heap.push o)[_]? = _; simp

/-- What stood for a value stands for it behind the making of a block under a new name. -/
theorem carry_ins {w : World} {D : Names} {d : Nat} {x : Option Nat} (hd : D d = none) (hx : ∀ b, x = some b → w.heap.size ≤ b) :
    (∀ n e, D n = some e → (D.ins d x) n = some e) ∧ (∀ b, b < w.heap.size → (D.ins d x).M b → D.M b) := by
  refine ⟨fun n e hn => ?_, fun b hb hM => ?_⟩
  · unfold Names.ins
    split
    · rename_i h; subst h; rw [hd] at hn; cases hn
    · exact hn
  · cases x with
    | none =>
      obtain ⟨n, hn⟩ := hM
      unfold Names.ins at hn
      split at hn
      · cases hn
      · exact ⟨n, hn⟩
    | some c =>
      rcases Names.ins_M hM with h | h
      · exact h
      · have := hx c rfl; omega

theorem Mem.fresh {w0 w : World} {M0 : Nat → Prop} {D : Names} {objs : List (Nat × Obj)} (hm : Mem w0 M0 objs D w) {d : Nat} (hd : look d objs = none) (hK : d < top) : D d = none := by
  have := hm.dom d hK
  rw [hd] at this
  simpa using this

/-- A new object in a new block. -/
theorem Mem.alloc {w0 w : World} {M0 : Nat → Prop} {D : Names} {objs : List (Nat × Obj)} (hm : Mem w0 M0 objs D w) {d : Nat} (hd : look d objs = none) (hK : d < top) (o : _root_.Go.Obj) (obj : Obj)
    (hrep : ObjRep (w.alloc o) (D.ins d (some w.heap.size)) obj (some w.heap.size)) : Mem w0 M0 ((d, obj) :: objs) (D.ins d (some w.heap.size)) (w.alloc o) := by
  have hfr := hm.fresh hd hK
  have kg := grow_alloc w o D.M
  obtain ⟨c1, c2⟩ := carry_ins (w := w) (x := some w.heap.size) hfr (fun b h => by cases h; exact Nat.le_refl _)
  refine ⟨fun n hn => ?_, fun n hn => ?_, fun n ob e hl hn => ?_, fun n m b h1 h2 => ?_, fun b hb => ?_, fun b hb => ?_, ?_, hm.os, hm.tape, hm.output⟩
  · unfold Names.ins
    by_cases h : n = d
    · subst h; simp [look]
    · simp only [h, if_false, look, if_neg (Ne.symm h)]; exact hm.dom n hn
  · by_cases h : n = d
    · subst h; exact hK
    · simp only [look, if_neg (Ne.symm h)] at hn; exact hm.small n hn
  · by_cases h : n = d
    · subst h
      simp only [look, if_true, Option.some.injEq] at hl
      subst hl
      simp only [Names.ins, if_true, Option.some.injEq] at hn
      subst hn
      exact hrep
    · simp only [look, if_neg (Ne.symm h)] at hl
      simp only [Names.ins, h, if_false] at hn
      exact (hm.rep n ob e hl hn).mono kg c1 hm.lt c2 (fun b hb => Below.heap_alloc w o b (hm.lt b ⟨n, by rw [hn, hb]⟩))
  · unfold Names.ins at h1 h2
    split at h1 <;> split at h2
    · simp_all
    · simp only [Option.some.injEq] at h1; subst h1
      exact absurd (hm.lt _ ⟨m, h2⟩) (by omega)
    · simp only [Option.some.injEq] at h2; subst h2
      exact absurd (hm.lt _ ⟨n, h1⟩) (by omega)
    · exact hm.inj n m b h1 h2
  · rcases Names.ins_M hb with h | h
    · have := hm.lt b h; rw [alloc_size]; omega
    · rw [alloc_size]; omega
  · obtain ⟨n, hn, hb⟩ := hb
    unfold Names.ins at hb
    split at hb
    · simp only [Option.some.injEq] at hb; right; rw [← hb]; exact hm.grow.size
    · exact hm.own b ⟨n, hn, hb⟩
  · exact hm.grow.trans (grow_alloc w o (fun _ => False)) (fun _ _ h => h.elim)

/-- An object is let go: what names it stands for nothing any more. -/
def kill (n : Nat) : AV → AV
  | .msl m sz off len => if m = n then .any else .msl m sz off len
  | .ref m sz i off => if m = n then .any else .ref m sz i off
  | x => x

theorem imm_any (w : World) (D : Names) (v : Value) : Cell w D .any v := by simp only [Cell]; exact .any v

theorem carry_kill {w : World} {D : Names} (n : Nat) : Carry w w D (D.del n) (kill n) where
  cell := fun x v h => by
    cases x with
    | msl m sz off len =>
      simp only [kill]
      split
      · exact imm_any _ _ _
      · rename_i hne
        have hdel : (D.del n) m = D m := by simp [Names.del, hne]
        rcases h with ⟨h1, h2⟩ | ⟨b, cap, N, h1, h2⟩
        · exact .inl ⟨by rw [hdel]; exact h1, h2⟩
        · exact .inr ⟨b, cap, N, by rw [hdel]; exact h1, h2⟩
    | ref m sz i off =>
      simp only [kill]
      split
      · exact imm_any _ _ _
      · rename_i hne
        obtain ⟨b, h1, h2⟩ := h
        exact ⟨b, by simp [Names.del, hne, h1], h2⟩
    | _ =>
      simp only [kill, Cell] at h ⊢
      exact h.mono (Grow.refl w _).toKeep (fun b _ hM => Names.del_M hM)

/-- Objects carry over under a change of cells, where the others' blocks stay. -/
theorem objRep_map {w w' : World} {D D' : Names} {φ : AV → AV} (c : Carry w w' D D' φ) (k : Keep w w' D.M) (hM : ∀ b, b < w.heap.size → D'.M b → D.M b) {o : Obj} {d : Option Nat} (h : ObjRep w D o d)
    (hb : ∀ b, d = some b → w'.heap[b]? = w.heap[b]?) : ObjRep w' D' (objMap φ o) d := by
  cases o with
  | box cs =>
    cases d with
    | none => exact h.elim
    | some b =>
      obtain ⟨vs, T, h1, h2, h3⟩ := h
      refine ⟨vs, T, by rw [hb b rfl]; exact h1, by simp [h2], fun i x hx => ?_⟩
      rw [List.getElem?_map] at hx
      obtain ⟨z, hz, rfl⟩ := Option.map_eq_some_iff.1 hx
      exact ⟨c.cell _ _ (h3 i z hz).1, (h3 i z hz).2⟩
  | arr sz l =>
    cases d with
    | none => exact h
    | some b =>
      obtain ⟨vs, T, fz, h1, h2, h3, h4, h5, h6⟩ := h
      exact ⟨vs, T, fz, by rw [hb b rfl]; exact h1, h2, h3, h4, h5, fun j cs i x hj hi => ⟨(h6 j cs i x hj hi).1.mono k hM, (h6 j cs i x hj hi).2⟩⟩

theorem Mem.letgo {w0 w : World} {M0 : Nat → Prop} {D : Names} {objs : List (Nat × Obj)} (hm : Mem w0 M0 objs D w) (n : Nat) {φ : AV → AV} (c : Carry w w D (D.del n) φ) : Mem w0 M0 (mapO φ (drop n objs)) (D.del n) w := by
  refine ⟨fun m hK => ?_, fun m hK => ?_, fun m o d hl hn => ?_, fun a b x h1 h2 => ?_, fun b hb => hm.lt b (Names.del_M hb), fun b hb => ?_, hm.grow, hm.os, hm.tape, hm.output⟩
  · rw [look_mapO]
    by_cases h : m = n
    · subst h; simp [Names.del, look_drop]
    · simp only [Names.del, h, if_false, look_drop_ne (Ne.symm h), Option.isSome_map]; exact hm.dom m hK
  · rw [look_mapO, Option.isSome_map] at hK
    by_cases h : m = n
    · subst h; simp [look_drop] at hK
    · rw [look_drop_ne (Ne.symm h)] at hK; exact hm.small m hK
  · rw [look_mapO] at hl
    obtain ⟨o', ho, rfl⟩ := Option.map_eq_some_iff.1 hl
    by_cases h : m = n
    · subst h; simp [look_drop] at ho
    · rw [look_drop_ne (Ne.symm h)] at ho
      simp only [Names.del, h, if_false] at hn
      exact objRep_map c (Grow.refl w _).toKeep (fun b _ hM => Names.del_M hM) (hm.rep m o' d ho hn) (fun _ _ => rfl)
  · unfold Names.del at h1 h2
    split at h1
    · cases h1
    · split at h2
      · cases h2
      · exact hm.inj a b x h1 h2
  · obtain ⟨m, hK, hb⟩ := hb
    unfold Names.del at hb
    split at hb
    · cases hb
    · exact hm.own b ⟨m, hK, hb⟩

end Go.Abs
