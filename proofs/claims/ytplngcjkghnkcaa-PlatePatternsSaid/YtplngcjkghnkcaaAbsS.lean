/- Rules in the form in which they are used: an evaluator that simp can run. -/
import Derived.Test.YtplngcjkghnkcaaAbsR
namespace Go.Abs
open Go.RowKit

/-! frames -/
def gt : List AV → Nat → AV
  | [], _ => .any
  | x :: _, 0 => x
  | _ :: l, n + 1 => gt l n
def st : List AV → Nat → AV → List AV
  | [], _, _ => []
  | _ :: l, 0, y => y :: l
  | x :: l, n + 1, y => x :: st l n y
theorem gt_eq : ∀ (l : List AV) (n : Nat), l.getD n .any = gt l n
  | [], _ => rfl
  | _ :: _, 0 => rfl
  | _ :: l, n + 1 => by simpa [gt] using gt_eq l n
theorem st_eq : ∀ (l : List AV) (n : Nat) (y : AV), l.set n y = st l n y
  | [], _, _ => rfl
  | _ :: _, 0, _ => rfl
  | x :: l, n + 1, y => by simp [st, st_eq l n y]
def pt (env : List AV) : Option Tmp → AV → List AV
  | some d, y => st env d y
  | none, _ => env
theorem pt_eq (env : List AV) (d : Option Tmp) (y : AV) : putA env d y = pt env d y := by cases d <;> simp [putA, pt, st_eq]

def dstAt : List Oper → Nat → Option Tmp
  | [], _ => none
  | o :: _, 0 => o.dst
  | _ :: l, n + 1 => dstAt l n
theorem dstAt_eq : ∀ (l : List Oper) (n : Nat), (l[n]?).bind (·.dst) = dstAt l n
  | [], _ => rfl
  | _ :: _, 0 => rfl
  | _ :: l, n + 1 => by simpa [dstAt] using dstAt_eq l n

/-! continuations, which simp enters only when their turn has come -/
def Gate (b : Bool) (x y : Prop) : Prop := (b = true → x) ∧ (b = false → y)
theorem Gate.congr {b c : Bool} {x y : Prop} (h : b = c) : Gate b x y = Gate c x y := by rw [h]
theorem Gate.yes (x y : Prop) : Gate true x y = x := by simp [Gate]
theorem Gate.no (x y : Prop) : Gate false x y = y := by simp [Gate]
theorem Gate.mk' {b : Bool} {x y : Prop} (h : b = true → x) (g : b = false → y) : Gate b x y := ⟨h, g⟩

def With {α : Type} (o : Option α) (k : α → Prop) : Prop := match o with | some a => k a | none => False
theorem With.congr {α : Type} {o p : Option α} {k : α → Prop} (h : o = p) : With o k = With p k := by rw [h]
theorem With_some {α : Type} (a : α) (k : α → Prop) : With (some a) k = k a := rfl
theorem With.out {α : Type} {o : Option α} {k : α → Prop} (h : With o k) : ∃ a, o = Option.some a ∧ k a := by
  cases o with
  | none => exact False.elim h
  | some a => exact ⟨a, rfl, h⟩

/-- a condition that must hold -/
def Need (p : Prop) (x : Prop) : Prop := p ∧ x

/-- the guard of an operation, its two ways -/
def gd2 (v : AV) (want : Bool) (x y : Prop) : Prop :=
  match v with
  | .bool b => Gate (b == want) x y
  | .und => y
  | _ => False
theorem gd2.congr {v v' : AV} {want : Bool} {x y : Prop} (h : v = v') : gd2 v want x y = gd2 v' want x y := by rw [h]
theorem gd2_bool (b want : Bool) (x y : Prop) : gd2 (.bool b) want x y = Gate (b == want) x y := rfl
theorem gd2_und (want : Bool) (x y : Prop) : gd2 .und want x y = y := rfl
def gd (l : List Oper) (env : List AV) (g : Option (Nat × Bool)) (x y : Prop) : Prop :=
  match g with
  | none => x
  | some (j, want) => With (dstAt l j) fun t => gd2 (gt env t) want x y
theorem gd.congr {l : List Oper} {env env' : List AV} {g : Option (Nat × Bool)} {x y : Prop} (h : env = env') : gd l env g x y = gd l env' g x y := by rw [h]
theorem gd_none (l : List Oper) (env : List AV) (x y : Prop) : gd l env none x y = x := rfl
theorem gd_some (l : List Oper) (env : List AV) (j : Nat) (want : Bool) (x y : Prop) : gd l env (some (j, want)) x y = With (dstAt l j) fun t => gd2 (gt env t) want x y := rfl

/-- the one, else the other -/
def Or2 {α : Type} (o : Option α) (f : α → Prop) (g : Prop) : Prop := match o with | some a => f a | none => g
theorem Or2.congr {α : Type} {o p : Option α} {f : α → Prop} {g : Prop} (h : o = p) : Or2 o f g = Or2 p f g := by rw [h]
theorem Or2_some {α : Type} (a : α) (f : α → Prop) (g : Prop) : Or2 (some a) f g = f a := rfl
theorem Or2_none {α : Type} (f : α → Prop) (g : Prop) : Or2 none f g = g := rfl

def xDo (P : Program) (Φ : Table) (dst : Option Tmp) (s : St) (k : St → Prop) : Op → Prop
  | .move x => k ⟨pt s.env dst (ev s.env x), s.objs⟩
  | .assign x => k ⟨pt s.env dst (ev s.env x), s.objs⟩
  | .call c => match c.callee with
    | .value (.func f) => With (cOp Φ s.env s.objs (dst.getD 999998) f c.args.toList) fun r => k ⟨pt r.env dst r.x, r.objs⟩
    | .builtin .append => With dst fun d => With (if d < top then (match c.args.toList, c.argTypes.toList with
        | [x, y], [T, T2] => hAppend P s.env s.objs d T T2 (ev s.env x) (ev s.env y)
        | _, _ => none) else none) fun r => k ⟨pt r.env (some d) r.x, r.objs⟩
    | .builtin .len => With (match c.args.toList, c.argTypes.toList with
        | [x], [T] => lenOf P T (ev s.env x)
        | _, _ => none) fun y => k ⟨pt s.env dst y, s.objs⟩
    | _ => False
  | .box _ x => With dst fun d => With (if d < top then hBox s.env s.objs d (ev s.env x) else none) fun r => k ⟨pt r.env (some d) r.x, r.objs⟩
  | .alloc T => With dst fun d => With (if d < top then hAlloc P s.env s.objs d T else none) fun r => k ⟨pt r.env (some d) r.x, r.objs⟩
  | .buildSlice T len parts => With dst fun d => With (if d < top then hBuildSlice P s.env s.objs d T len parts.toList else none) fun r => k ⟨pt r.env (some d) r.x, r.objs⟩
  | .makeSlice T l c => With dst fun d => With (if d < top then hMake P s.env s.objs d T (ev s.env l) (ev s.env c) else none) fun r => k ⟨pt r.env (some d) r.x, r.objs⟩
  | .store T x y => match dst with
    | none => With (hStore P s.env s.objs T x y) fun r => k ⟨r.env, r.objs⟩
    | some _ => False
  | .convert S T x => Or2 (cvt P S T s.objs (ev s.env x)) (fun y => k ⟨pt s.env dst y, s.objs⟩) <| With dst fun d => With (if d < top then hBytes P s.env s.objs d S T (ev s.env x) else none) fun r => k ⟨pt r.env (some d) r.x, r.objs⟩
  | .pick c a b => With (match ev s.env c with | .bool t => some (if t then ev s.env a else ev s.env b) | _ => none) fun y => k ⟨pt s.env dst y, s.objs⟩
  | .binOp op T x y _ => With (bop P T op (ev s.env x) (ev s.env y)) fun y => k ⟨pt s.env dst y, s.objs⟩
  | .unOp op _ x => With (uop op (ev s.env x)) fun y => k ⟨pt s.env dst y, s.objs⟩
  | .load T x => With (rOp P s.env s.objs (.load T x)) fun y => k ⟨pt s.env dst y, s.objs⟩
  | .fieldAddr T x i => With (rOp P s.env s.objs (.fieldAddr T x i)) fun y => k ⟨pt s.env dst y, s.objs⟩
  | .field T x i => With (rOp P s.env s.objs (.field T x i)) fun y => k ⟨pt s.env dst y, s.objs⟩
  | .indexAddr T x i => With (rOp P s.env s.objs (.indexAddr T x i)) fun y => k ⟨pt s.env dst y, s.objs⟩
  | .index T x i => With (rOp P s.env s.objs (.index T x i)) fun y => k ⟨pt s.env dst y, s.objs⟩
  | .nilCheck x => With (rOp P s.env s.objs (.nilCheck x)) fun y => k ⟨pt s.env dst y, s.objs⟩
  | .slice T x lo hi mx => With (rOp P s.env s.objs (.slice T x lo hi mx)) fun y => k ⟨pt s.env dst y, s.objs⟩
  | .extract t i => With (rOp P s.env s.objs (.extract t i)) fun y => k ⟨pt s.env dst y, s.objs⟩
  | .build T parts => With (bld P T (parts.toList.map fun p => (p.1, ev s.env p.2))) fun y => k ⟨pt s.env dst y, s.objs⟩
  | _ => False

def xGo (P : Program) (Φ : Table) (ops : List Oper) (K : St → Prop) : List Oper → St → Prop
  | [], s => K s
  | o :: l, s => gd ops s.env o.guard (xDo P Φ o.dst s (xGo P Φ ops K l) o.op) (xGo P Φ ops K l ⟨pt s.env o.dst .und, s.objs⟩)

theorem gd_sound {l : List Oper} {o : Oper} {env : List AV} {x y : Prop} (h : gd l env o.guard x y) : (guardOf l.toArray env o = some true ∧ x) ∨ (guardOf l.toArray env o = some false ∧ y) := by
  unfold gd at h
  unfold guardOf
  split at h
  · rename_i hg; simp only [hg]; exact .inl ⟨by trivial, h⟩
  · rename_i j want hg
    simp only [hg]
    obtain ⟨t, ht, h⟩ := h.out
    have ht' : ((l.toArray)[j]?).bind (·.dst) = some t := by rw [List.getElem?_toArray, dstAt_eq]; exact ht
    rw [ht']
    simp only [gt_eq]
    unfold gd2 at h
    split at h
    · rename_i b hb
      simp only [hb]
      cases hbw : (b == want) with
      | true => exact .inl ⟨rfl, h.1 hbw⟩
      | false => exact .inr ⟨rfl, h.2 hbw⟩
    · rename_i hb; simp only [hb]; exact .inr ⟨by trivial, h⟩
    · exact h.elim

theorem xDo_sound {P : Program} {Φ : Table} {o : Oper} {s : St} {k : St → Prop} {ops : Array Oper} (hg : guardOf ops s.env o = some true) (h : xDo P Φ o.dst s k o.op) : ∃ s', xOp P Φ ops o s = some s' ∧ k s' := by
  have fin : ∀ (op : Op) (x : AV), o.op = op → (∀ c, op ≠ .call c) → rOp P s.env s.objs op = some x → k ⟨pt s.env o.dst x, s.objs⟩ → ∃ s', xOp P Φ ops o s = some s' ∧ k s' := by
    intro op x hop hnc hr hk
    refine ⟨⟨putA s.env o.dst x, s.objs⟩, ?_, by rw [pt_eq]; exact hk⟩
    simp only [xOp, hg]
    cases hop' : o.op <;> rw [hop'] at hop <;> subst hop <;> first | (exact absurd rfl (hnc _)) | (simp only [hr])
  have finH : ∀ (op : Op) (r : HR), o.op = op → (∀ c, op ≠ .call c) → rOp P s.env s.objs op = none → hOp P s.env s.objs o.dst op = some r → k ⟨pt r.env o.dst r.x, r.objs⟩ → ∃ s', xOp P Φ ops o s = some s' ∧ k s' := by
    intro op r hop hnc hr hh hk
    refine ⟨⟨putA r.env o.dst r.x, r.objs⟩, ?_, by rw [pt_eq]; exact hk⟩
    simp only [xOp, hg]
    cases hop' : o.op <;> rw [hop'] at hop <;> subst hop <;> first | (exact absurd rfl (hnc _)) | (simp only [hr, hh, Option.map_some])
  unfold xDo at h
  split at h
  · rename_i x hop; exact fin _ _ hop (by simp) rfl h
  · rename_i x hop; exact fin _ _ hop (by simp) rfl h
  · rename_i c hop
    obtain ⟨callee, args, tys⟩ := c
    simp only at h
    split at h
    · rename_i f
      obtain ⟨r, hr, hk⟩ := h.out
      refine ⟨⟨putA r.env o.dst r.x, r.objs⟩, ?_, by rw [pt_eq]; exact hk⟩
      simp only [xOp, hg, hop, hr, Option.map_some]
    · obtain ⟨d, hd, h⟩ := h.out
      obtain ⟨r, hr, hk⟩ := h.out
      refine ⟨⟨putA r.env o.dst r.x, r.objs⟩, ?_, by rw [pt_eq, hd]; exact hk⟩
      simp only [xOp, hg, hop]
      have : hOp P s.env s.objs o.dst (.call { callee := .builtin .append, args := args, argTypes := tys }) = some r := by rw [hd]; simp only [hOp]; exact hr
      simp only [rOp, this, Option.map_some]
    · obtain ⟨y, hy, hk⟩ := h.out
      refine ⟨⟨putA s.env o.dst y, s.objs⟩, ?_, by rw [pt_eq]; exact hk⟩
      simp only [xOp, hg, hop]
      have : rOp P s.env s.objs (.call { callee := .builtin .len, args := args, argTypes := tys }) = some y := by simp only [rOp]; exact hy
      simp only [this]
    · exact h.elim
  · rename_i T x hop
    obtain ⟨d, hd, h⟩ := h.out; obtain ⟨r, hr, hk⟩ := h.out
    exact finH _ r hop (by simp) rfl (by rw [hd]; exact hr) (by rw [hd]; exact hk)
  · rename_i T hop
    obtain ⟨d, hd, h⟩ := h.out; obtain ⟨r, hr, hk⟩ := h.out
    exact finH _ r hop (by simp) rfl (by rw [hd]; exact hr) (by rw [hd]; exact hk)
  · rename_i T len parts hop
    obtain ⟨d, hd, h⟩ := h.out; obtain ⟨r, hr, hk⟩ := h.out
    exact finH _ r hop (by simp) rfl (by rw [hd]; exact hr) (by rw [hd]; exact hk)
  · rename_i T l c hop
    obtain ⟨d, hd, h⟩ := h.out; obtain ⟨r, hr, hk⟩ := h.out
    exact finH _ r hop (by simp) rfl (by rw [hd]; exact hr) (by rw [hd]; exact hk)
  · rename_i T x y hop
    split at h
    · rename_i hd
      obtain ⟨r, hr, hk⟩ := h.out
      exact finH _ r hop (by simp) rfl (by rw [hd]; exact hr) (by rw [hd]; exact hk)
    · exact h.elim
  · rename_i S T x hop
    unfold Or2 at h
    split at h
    · rename_i y hy; exact fin _ y hop (by simp) hy h
    · rename_i hc
      obtain ⟨d, hd, h⟩ := h.out; obtain ⟨r, hr, hk⟩ := h.out
      exact finH _ r hop (by simp) hc (by rw [hd]; exact hr) (by rw [hd]; exact hk)
  · rename_i c a b hop
    obtain ⟨y, hy, hk⟩ := h.out; exact fin _ y hop (by simp) hy hk
  · rename_i op T x y T2 hop
    obtain ⟨z, hz, hk⟩ := h.out; exact fin _ z hop (by simp) hz hk
  · rename_i op T x hop
    obtain ⟨z, hz, hk⟩ := h.out; exact fin _ z hop (by simp) hz hk
  · rename_i T x hop
    obtain ⟨z, hz, hk⟩ := h.out; exact fin _ z hop (by simp) hz hk
  · rename_i T x i hop
    obtain ⟨z, hz, hk⟩ := h.out; exact fin _ z hop (by simp) hz hk
  · rename_i T x i hop
    obtain ⟨z, hz, hk⟩ := h.out; exact fin _ z hop (by simp) hz hk
  · rename_i T x i hop
    obtain ⟨z, hz, hk⟩ := h.out; exact fin _ z hop (by simp) hz hk
  · rename_i T x i hop
    obtain ⟨z, hz, hk⟩ := h.out; exact fin _ z hop (by simp) hz hk
  · rename_i x hop
    obtain ⟨z, hz, hk⟩ := h.out; exact fin _ z hop (by simp) hz hk
  · rename_i T x lo hi mx hop
    obtain ⟨z, hz, hk⟩ := h.out; exact fin _ z hop (by simp) hz hk
  · rename_i t i hop
    obtain ⟨z, hz, hk⟩ := h.out; exact fin _ z hop (by simp) hz hk
  · rename_i T parts hop
    obtain ⟨z, hz, hk⟩ := h.out; exact fin _ z hop (by simp) hz hk
  · exact h.elim

theorem xGo_ops {P : Program} {Φ : Table} {ops : List Oper} {K : St → Prop} : ∀ (l : List Oper) {s : St}, xGo P Φ ops K l s → ∃ s', xOps P Φ ops.toArray l s = some s' ∧ K s'
  | [], s, h => ⟨s, rfl, h⟩
  | o :: l, s, h => by
    simp only [xGo] at h
    rcases gd_sound h with ⟨hg, h⟩ | ⟨hg, h⟩
    · obtain ⟨s1, h1, h2⟩ := xDo_sound hg h
      obtain ⟨s', h3, h4⟩ := xGo_ops l h2
      exact ⟨s', by simp only [xOps, h1]; exact h3, h4⟩
    · obtain ⟨s', h3, h4⟩ := xGo_ops l h
      refine ⟨s', ?_, h4⟩
      have : xOp P Φ ops.toArray o s = some ⟨putA s.env o.dst .und, s.objs⟩ := by simp only [xOp, hg]
      simp only [xOps, this]
      rw [pt_eq]; exact h3


def qDo (P : Program) (Φ : Table) (dst : Option Tmp) (s : St) (k : St → Prop) : Op → Prop
  | .move x => k ⟨pt s.env dst (ev s.env x), s.objs⟩
  | .assign x => k ⟨pt s.env dst (ev s.env x), s.objs⟩
  | .call c => match c.callee with
    | .value (.func f) => With (cLend Φ s.env s.objs f c.args.toList) fun r => k ⟨pt r.env dst r.x, r.objs⟩
    | .builtin .len => With (match c.args.toList, c.argTypes.toList with
        | [x], [T] => lenOf P T (ev s.env x)
        | _, _ => none) fun y => k ⟨pt s.env dst y, s.objs⟩
    | _ => False
  | .convert S T x => With (cvt P S T s.objs (ev s.env x)) fun y => k ⟨pt s.env dst y, s.objs⟩
  | .pick c a b => With (match ev s.env c with | .bool t => some (if t then ev s.env a else ev s.env b) | _ => none) fun y => k ⟨pt s.env dst y, s.objs⟩
  | .binOp op T x y _ => With (bop P T op (ev s.env x) (ev s.env y)) fun y => k ⟨pt s.env dst y, s.objs⟩
  | .unOp op _ x => With (uop op (ev s.env x)) fun y => k ⟨pt s.env dst y, s.objs⟩
  | .load T x => With (rOp P s.env s.objs (.load T x)) fun y => k ⟨pt s.env dst y, s.objs⟩
  | .fieldAddr T x i => With (rOp P s.env s.objs (.fieldAddr T x i)) fun y => k ⟨pt s.env dst y, s.objs⟩
  | .field T x i => With (rOp P s.env s.objs (.field T x i)) fun y => k ⟨pt s.env dst y, s.objs⟩
  | .indexAddr T x i => With (rOp P s.env s.objs (.indexAddr T x i)) fun y => k ⟨pt s.env dst y, s.objs⟩
  | .index T x i => With (rOp P s.env s.objs (.index T x i)) fun y => k ⟨pt s.env dst y, s.objs⟩
  | .nilCheck x => With (rOp P s.env s.objs (.nilCheck x)) fun y => k ⟨pt s.env dst y, s.objs⟩
  | .slice T x lo hi mx => With (rOp P s.env s.objs (.slice T x lo hi mx)) fun y => k ⟨pt s.env dst y, s.objs⟩
  | .extract t i => With (rOp P s.env s.objs (.extract t i)) fun y => k ⟨pt s.env dst y, s.objs⟩
  | .build T parts => With (bld P T (parts.toList.map fun p => (p.1, ev s.env p.2))) fun y => k ⟨pt s.env dst y, s.objs⟩
  | _ => False

def qGo (P : Program) (Φ : Table) (ops : List Oper) (K : St → Prop) : List Oper → St → Prop
  | [], s => K s
  | o :: l, s => gd ops s.env o.guard (qDo P Φ o.dst s (qGo P Φ ops K l) o.op) (qGo P Φ ops K l ⟨pt s.env o.dst .und, s.objs⟩)

theorem qDo_sound {P : Program} {Φ : Table} {o : Oper} {s : St} {k : St → Prop} {ops : Array Oper} (hg : guardOf ops s.env o = some true) (h : qDo P Φ o.dst s k o.op) : ∃ s', qOp1 P Φ ops o s = some s' ∧ k s' := by
  have fin : ∀ (op : Op) (x : AV), o.op = op → (∀ c, op ≠ .call c) → rOp P s.env s.objs op = some x → k ⟨pt s.env o.dst x, s.objs⟩ → ∃ s', qOp1 P Φ ops o s = some s' ∧ k s' := by
    intro op x hop hnc hr hk
    refine ⟨⟨putA s.env o.dst x, s.objs⟩, ?_, by rw [pt_eq]; exact hk⟩
    simp only [qOp1, hg]
    cases hop' : o.op <;> rw [hop'] at hop <;> subst hop <;> first | (exact absurd rfl (hnc _)) | (simp only [hr, Option.map_some])
  unfold qDo at h
  split at h
  · rename_i x hop; exact fin _ _ hop (by simp) rfl h
  · rename_i x hop; exact fin _ _ hop (by simp) rfl h
  · rename_i c hop
    obtain ⟨callee, args, tys⟩ := c
    simp only at h
    split at h
    · rename_i f
      obtain ⟨r, hr, hk⟩ := h.out
      refine ⟨⟨putA r.env o.dst r.x, r.objs⟩, ?_, by rw [pt_eq]; exact hk⟩
      simp only [qOp1, hg, hop, hr, Option.map_some]
    · obtain ⟨y, hy, hk⟩ := h.out
      refine ⟨⟨putA s.env o.dst y, s.objs⟩, ?_, by rw [pt_eq]; exact hk⟩
      simp only [qOp1, hg, hop]
      have : rOp P s.env s.objs (.call { callee := .builtin .len, args := args, argTypes := tys }) = some y := by simp only [rOp]; exact hy
      simp only [this, Option.map_some]
    · exact h.elim
  · rename_i S T x hop
    obtain ⟨z, hz, hk⟩ := h.out; exact fin _ z hop (by simp) hz hk
  · rename_i c a b hop
    obtain ⟨y, hy, hk⟩ := h.out; exact fin _ y hop (by simp) hy hk
  · rename_i op T x y T2 hop
    obtain ⟨z, hz, hk⟩ := h.out; exact fin _ z hop (by simp) hz hk
  · rename_i op T x hop
    obtain ⟨z, hz, hk⟩ := h.out; exact fin _ z hop (by simp) hz hk
  · rename_i T x hop
    obtain ⟨z, hz, hk⟩ := h.out; exact fin _ z hop (by simp) hz hk
  · rename_i T x i hop
    obtain ⟨z, hz, hk⟩ := h.out; exact fin _ z hop (by simp) hz hk
  · rename_i T x i hop
    obtain ⟨z, hz, hk⟩ := h.out; exact fin _ z hop (by simp) hz hk
  · rename_i T x i hop
    obtain ⟨z, hz, hk⟩ := h.out; exact fin _ z hop (by simp) hz hk
  · rename_i T x i hop
    obtain ⟨z, hz, hk⟩ := h.out; exact fin _ z hop (by simp) hz hk
  · rename_i x hop
    obtain ⟨z, hz, hk⟩ := h.out; exact fin _ z hop (by simp) hz hk
  · rename_i T x lo hi mx hop
    obtain ⟨z, hz, hk⟩ := h.out; exact fin _ z hop (by simp) hz hk
  · rename_i t i hop
    obtain ⟨z, hz, hk⟩ := h.out; exact fin _ z hop (by simp) hz hk
  · rename_i T parts hop
    obtain ⟨z, hz, hk⟩ := h.out; exact fin _ z hop (by simp) hz hk
  · exact h.elim

theorem qGo_ops {P : Program} {Φ : Table} {ops : List Oper} {K : St → Prop} : ∀ (l : List Oper) {s : St}, qGo P Φ ops K l s → ∃ s', qOps P Φ ops.toArray l s = some s' ∧ K s'
  | [], s, h => ⟨s, rfl, h⟩
  | o :: l, s, h => by
    simp only [qGo] at h
    rcases gd_sound h with ⟨hg, h⟩ | ⟨hg, h⟩
    · obtain ⟨s1, h1, h2⟩ := qDo_sound hg h
      obtain ⟨s', h3, h4⟩ := qGo_ops l h2
      exact ⟨s', by simp only [qOps, h1]; exact h3, h4⟩
    · obtain ⟨s', h3, h4⟩ := qGo_ops l h
      refine ⟨s', ?_, h4⟩
      have : qOp1 P Φ ops.toArray o s = some ⟨putA s.env o.dst .und, s.objs⟩ := by simp only [qOp1, hg]
      simp only [qOps, this]
      rw [pt_eq]; exact h3

def tst : AV → Prop → Prop → Prop
  | .bool t, x, y => Gate t x y
  | _, _, _ => False

section
variable {P : Program} {pins : List Nat} {Q : Exit → St → Prop} {s : St}

theorem awp_reg {Φ : Table} (hΦ : Sound P Φ) {id : Nat} {ops : List Oper} (h : ∀ K : St → Prop, (∀ s, Q .normal s → K s) → xGo P Φ ops K ops s) : AWP P pins (.region id ops.toArray false) Q s := by
  obtain ⟨s', hs, hq⟩ := xGo_ops _ (h _ (fun _ h => h))
  exact awp_region hΦ (by simpa using hs) hq

theorem awp_draw {Φ : Table} (hΦ : Sound P Φ) (hm : P.follows .mixedOrders = true) {id : Nat} {ops : List Oper} (hB : Region.lexB .any ops.toArray = true) (h : ∀ K : St → Prop, (∀ s, Q .normal s → K s) → qGo P Φ ops K ops s) :
    AWP P pins (.region id ops.toArray true) Q s := by
  obtain ⟨s', hs, hq⟩ := qGo_ops _ (h _ (fun _ h => h))
  exact awp_region_draw hΦ hm hB (by simpa using hs) hq

theorem awp_if {c : Operand} {x y : Code} (h : ∀ K1 K2 : Prop, (AWP P pins x Q s → K1) → (AWP P pins y Q s → K2) → tst (ev s.env c) K1 K2) : AWP P pins (.cond c x y) Q s := by
  have h := h _ _ (fun h => h) (fun h => h)
  generalize hx : ev s.env c = v at h
  cases v <;> simp only [tst] at h
  exact awp_cond hx h.1 h.2

/-- The postcondition of a function's body. -/
def endQ (os : List (Nat × Obj)) (rs : List Operand) (r : CR) (e : Exit) (s : St) : Prop := (e = .normal ∨ e = .ret) ∧ finish (os.map (·.1)) rs s = some r

theorem contract_k {f : FuncId} {fn : Func} {c : Code} {rs : List Operand} {args : List AV} {os : List (Nat × Obj)} {r : CR} (hf : P.funcs[f]? = some fn) (hb : fn.body = some c) (hr : resOps fn = some rs)
    (hbox : boxesOk os = true) {n : Nat} (hn : fn.ntmps = n) (h : AWP P (os.map (·.1)) c (endQ os rs r) ⟨args ++ List.replicate (n - args.length) .und, os⟩) : Contract P f args os r :=
  contract_of_awp hf hb hr hbox (by rw [hn]; exact h)

theorem awp_retQ {os : List (Nat × Obj)} {rs : List Operand} {r : CR} (h : finish (os.map (·.1)) rs s = some r) : AWP P pins .ret (endQ os rs r) s := awp_ret ⟨.inr rfl, h⟩
theorem endQ_normal {os : List (Nat × Obj)} {rs : List Operand} {r : CR} (h : finish (os.map (·.1)) rs s = some r) : endQ os rs r .normal s := ⟨.inl rfl, h⟩
end

theorem ev_tmp (env : List AV) (t : Tmp) : ev env (.tmp t) = gt env t := gt_eq env t
theorem ev_const (env : List AV) (v : Value) : ev env (.const v) = ofV v := id rfl
theorem ofV_int (k : IntKind) (n : Int) : ofV (.int k n) = .int k n := id rfl
theorem ofV_bool (b : Bool) : ofV (.bool b) = .bool b := id rfl
theorem ofV_nsl : ofV (.slice none 0 0) = .nsl := id rfl
theorem ofV_str (l : List UInt8) (h : l.length ≤ 1000) : ofV (.string ⟨l.toArray⟩) = .str l := by
  have : l.length ≤ lim := Nat.le_trans h (by decide)
  simp only [ofV, ofC]
  rw [if_pos (by simpa [ByteArray.size] using this)]


/-! ## the evaluator's rules: what is still to be run stands as data, so that simp does not run ahead of a test -/
section
variable (P : Program) (Φ : Table) (ops : List Oper) (K : St → Prop)

def xV (o : Option AV) (dst : Option Tmp) (s : St) (l : List Oper) : Prop := With o fun y => xGo P Φ ops K l ⟨pt s.env dst y, s.objs⟩
def xH (r : Option HR) (dst : Option Tmp) (l : List Oper) : Prop := With r fun r => xGo P Φ ops K l ⟨pt r.env dst r.x, r.objs⟩
def xOr (o : Option AV) (r : Option HR) (dst : Option Tmp) (s : St) (l : List Oper) : Prop := Or2 o (fun y => xGo P Φ ops K l ⟨pt s.env dst y, s.objs⟩) (xH P Φ ops K r dst l)
def xFork (b : Bool) (o : Oper) (s : St) (l : List Oper) : Prop := Gate b (xDo P Φ o.dst s (xGo P Φ ops K l) o.op) (xGo P Φ ops K l ⟨pt s.env o.dst .und, s.objs⟩)
def xG (v : AV) (want : Bool) (o : Oper) (s : St) (l : List Oper) : Prop := gd2 v want (xDo P Φ o.dst s (xGo P Φ ops K l) o.op) (xGo P Φ ops K l ⟨pt s.env o.dst .und, s.objs⟩)
def xGt (t : Option Tmp) (want : Bool) (o : Oper) (s : St) (l : List Oper) : Prop := With t fun t => xG P Φ ops K (gt s.env t) want o s l
/-- an operation whose guard, if any, has said yes -/
def xY (o : Oper) (s : St) (l : List Oper) : Prop := xDo P Φ o.dst s (xGo P Φ ops K l) o.op

variable (T : TypeId) (pos : String) (aft : Array Edge) (env : List AV) (objs : List (Nat × Obj)) (l : List Oper) (dst : Option Tmp) (d : Tmp) (g : Option (Nat × Bool))
theorem x_nil (s : St) : xGo P Φ ops K [] s = K s := id rfl
theorem x_cons (op : Op) (s : St) : xGo P Φ ops K (⟨dst, op, T, pos, aft, none⟩ :: l) s = xY P Φ ops K ⟨dst, op, T, pos, aft, none⟩ s l := id rfl
theorem x_guard (op : Op) (s : St) (j : Nat) (want : Bool) : xGo P Φ ops K (⟨dst, op, T, pos, aft, some (j, want)⟩ :: l) s = xGt P Φ ops K (dstAt ops j) want ⟨dst, op, T, pos, aft, some (j, want)⟩ s l := id rfl
theorem x_gt (want : Bool) (o : Oper) (s : St) (t : Tmp) : xGt P Φ ops K (some t) want o s l = xG P Φ ops K (gt s.env t) want o s l := id rfl
theorem x_bool (b want : Bool) (o : Oper) (s : St) : xG P Φ ops K (.bool b) want o s l = xFork P Φ ops K (b == want) o s l := id rfl
theorem x_und (want : Bool) (o : Oper) (s : St) : xG P Φ ops K .und want o s l = xGo P Φ ops K l ⟨pt s.env o.dst .und, s.objs⟩ := id rfl
theorem x_yes (o : Oper) (s : St) : xFork P Φ ops K true o s l = xY P Φ ops K o s l := id (Gate.yes _ _)
theorem x_no (o : Oper) (s : St) : xFork P Φ ops K false o s l = xGo P Φ ops K l ⟨pt s.env o.dst .und, s.objs⟩ := id (Gate.no _ _)
theorem x_fork {b : Bool} {o : Oper} {s : St} (h : b = true → xY P Φ ops K o s l) (k : b = false → xGo P Φ ops K l ⟨pt s.env o.dst .und, s.objs⟩) : xFork P Φ ops K b o s l := ⟨h, k⟩
theorem x_v (y : AV) (s : St) : xV P Φ ops K (some y) dst s l = xGo P Φ ops K l ⟨pt s.env dst y, s.objs⟩ := id rfl
theorem x_h (r : HR) : xH P Φ ops K (some r) dst l = xGo P Φ ops K l ⟨pt r.env dst r.x, r.objs⟩ := id rfl
theorem x_or1 (y : AV) (r : Option HR) (s : St) : xOr P Φ ops K (some y) r dst s l = xGo P Φ ops K l ⟨pt s.env dst y, s.objs⟩ := id rfl
theorem x_or2 (r : Option HR) (s : St) : xOr P Φ ops K none r dst s l = xH P Φ ops K r dst l := id rfl

theorem x_move (x : Operand) : xY P Φ ops K ⟨dst, .move x, T, pos, aft, g⟩ ⟨env, objs⟩ l = xGo P Φ ops K l ⟨pt env dst (ev env x), objs⟩ := id rfl
theorem x_assign (x : Operand) : xY P Φ ops K ⟨dst, .assign x, T, pos, aft, g⟩ ⟨env, objs⟩ l = xGo P Φ ops K l ⟨pt env dst (ev env x), objs⟩ := id rfl
theorem x_call (f : FuncId) (args : Array Operand) (tys : Array TypeId) : xY P Φ ops K ⟨dst, .call { callee := .value (.func f), args := args, argTypes := tys }, T, pos, aft, g⟩ ⟨env, objs⟩ l = xH P Φ ops K (cOp Φ env objs (dst.getD 999998) f args.toList) dst l := id rfl
theorem x_append (x y : Operand) (A B : TypeId) (hd : d < top) : xY P Φ ops K ⟨some d, .call { callee := .builtin .append, args := #[x, y], argTypes := #[A, B] }, T, pos, aft, g⟩ ⟨env, objs⟩ l = xH P Φ ops K (hAppend P env objs d A B (ev env x) (ev env y)) (some d) l := by
  show With (if d < top then _ else none) _ = _
  rw [if_pos hd]; rfl
theorem x_len (x : Operand) (A : TypeId) : xY P Φ ops K ⟨dst, .call { callee := .builtin .len, args := #[x], argTypes := #[A] }, T, pos, aft, g⟩ ⟨env, objs⟩ l = xV P Φ ops K (lenOf P A (ev env x)) dst ⟨env, objs⟩ l := id rfl
theorem x_box (A : TypeId) (x : Operand) (hd : d < top) : xY P Φ ops K ⟨some d, .box A x, T, pos, aft, g⟩ ⟨env, objs⟩ l = xH P Φ ops K (hBox env objs d (ev env x)) (some d) l := by
  show With (if d < top then _ else none) _ = _
  rw [if_pos hd]; rfl
theorem x_alloc (A : TypeId) (hd : d < top) : xY P Φ ops K ⟨some d, .alloc A, T, pos, aft, g⟩ ⟨env, objs⟩ l = xH P Φ ops K (hAlloc P env objs d A) (some d) l := by
  show With (if d < top then _ else none) _ = _
  rw [if_pos hd]; rfl
theorem x_buildSlice (A : TypeId) (n : Nat) (parts : Array (Nat × Operand)) (hd : d < top) : xY P Φ ops K ⟨some d, .buildSlice A n parts, T, pos, aft, g⟩ ⟨env, objs⟩ l = xH P Φ ops K (hBuildSlice P env objs d A n parts.toList) (some d) l := by
  show With (if d < top then _ else none) _ = _
  rw [if_pos hd]; rfl
theorem x_makeSlice (A : TypeId) (x c : Operand) (hd : d < top) : xY P Φ ops K ⟨some d, .makeSlice A x c, T, pos, aft, g⟩ ⟨env, objs⟩ l = xH P Φ ops K (hMake P env objs d A (ev env x) (ev env c)) (some d) l := by
  show With (if d < top then _ else none) _ = _
  rw [if_pos hd]; rfl
theorem x_store (A : TypeId) (x y : Operand) : xY P Φ ops K ⟨none, .store A x y, T, pos, aft, g⟩ ⟨env, objs⟩ l = xH P Φ ops K (hStore P env objs A x y) none l := id rfl
theorem x_convert (S A : TypeId) (x : Operand) (hd : d < top) : xY P Φ ops K ⟨some d, .convert S A x, T, pos, aft, g⟩ ⟨env, objs⟩ l = xOr P Φ ops K (cvt P S A objs (ev env x)) (hBytes P env objs d S A (ev env x)) (some d) ⟨env, objs⟩ l := by
  show Or2 _ _ (With (if d < top then _ else none) _) = _
  rw [if_pos hd]; rfl
def pickA (c a b : AV) : Option AV := match c with | .bool t => some (if t then a else b) | _ => none
theorem x_pick (c a b : Operand) : xY P Φ ops K ⟨dst, .pick c a b, T, pos, aft, g⟩ ⟨env, objs⟩ l = xV P Φ ops K (pickA (ev env c) (ev env a) (ev env b)) dst ⟨env, objs⟩ l := id rfl
theorem x_binOp (op : BinOp) (A B : TypeId) (x y : Operand) : xY P Φ ops K ⟨dst, .binOp op A x y B, T, pos, aft, g⟩ ⟨env, objs⟩ l = xV P Φ ops K (bop P A op (ev env x) (ev env y)) dst ⟨env, objs⟩ l := id rfl
theorem x_unOp (op : UnOp) (A : TypeId) (x : Operand) : xY P Φ ops K ⟨dst, .unOp op A x, T, pos, aft, g⟩ ⟨env, objs⟩ l = xV P Φ ops K (uop op (ev env x)) dst ⟨env, objs⟩ l := id rfl
def loadA (objs : List (Nat × Obj)) (t : Option (Bool × Nat)) (x : AV) : Option AV := match x, t with
  | .at_ cs, some (g, n) => ldCells g n cs
  | .ref m sz i off, some (g, n) => (cellsAt objs m sz i off).bind (ldCells g n)
  | _, _ => none
theorem x_load (A : TypeId) (x : Operand) : xY P Φ ops K ⟨dst, .load A x, T, pos, aft, g⟩ ⟨env, objs⟩ l = xV P Φ ops K (loadA objs (cellTy P A) (ev env x)) dst ⟨env, objs⟩ l := id rfl
def faA (x : AV) (f : Option (Nat × Bool × Nat)) : Option AV := match x, f with
  | .at_ cs, some (o, _, _) => some (.at_ (cs.drop o))
  | .ref n sz i off, some (o, _, _) => some (.ref n sz i (off + o))
  | _, _ => none
theorem x_fieldAddr (A k : Nat) (x : Operand) : xY P Φ ops K ⟨dst, .fieldAddr A x k, T, pos, aft, g⟩ ⟨env, objs⟩ l = xV P Φ ops K (faA (ev env x) (fieldOf P A k)) dst ⟨env, objs⟩ l := id rfl
def fA (x : AV) (f : Option (Nat × Bool × Nat)) : Option AV := match x, f with
  | .agg cs, some (o, true, n) => if o + n ≤ cs.length then some (.agg ((cs.drop o).take n)) else none
  | .agg cs, some (o, false, _) => cs[o]?
  | _, _ => none
theorem x_field (A k : Nat) (x : Operand) : xY P Φ ops K ⟨dst, .field A x k, T, pos, aft, g⟩ ⟨env, objs⟩ l = xV P Φ ops K (fA (ev env x) (fieldOf P A k)) dst ⟨env, objs⟩ l := id rfl
def iaA (P : Program) (A : TypeId) (x i : AV) : Option AV := match i with
  | .int _ n => match x with
    | .sl sz l => if 0 ≤ n ∧ n < l.length ∧ sliceElem P A = some sz then some (.at_ (l.getD n.toNat [])) else none
    | .msl m sz off len => if 0 ≤ n ∧ n < len ∧ sliceElem P A = some sz then some (.ref m sz (off + n.toNat) 0) else none
    | .ref m sz 0 0 => match arrElem P A with
      | some (len, sz') => if sz = sz' ∧ 0 ≤ n ∧ n < len then some (.ref m sz n.toNat 0) else none
      | none => none
    | _ => none
  | _ => none
theorem x_indexAddr (A : TypeId) (x i : Operand) : xY P Φ ops K ⟨dst, .indexAddr A x i, T, pos, aft, g⟩ ⟨env, objs⟩ l = xV P Φ ops K (iaA P A (ev env x) (ev env i)) dst ⟨env, objs⟩ l := id rfl
def ixA (P : Program) (A : TypeId) (x i : AV) : Option AV := match i with
  | .int _ n => match x with
    | .str s => if strTy P A = true ∧ 0 ≤ n ∧ n < s.length then some (.int .u8 (s.getD n.toNat 0).toNat) else none
    | _ => none
  | _ => none
theorem x_index (A : TypeId) (x i : Operand) : xY P Φ ops K ⟨dst, .index A x i, T, pos, aft, g⟩ ⟨env, objs⟩ l = xV P Φ ops K (ixA P A (ev env x) (ev env i)) dst ⟨env, objs⟩ l := id rfl
def ncA (x : AV) : Option AV := match x with
  | .at_ cs => some (.at_ cs)
  | .ref n sz i off => some (.ref n sz i off)
  | _ => none
theorem x_nilCheck (x : Operand) : xY P Φ ops K ⟨dst, .nilCheck x, T, pos, aft, g⟩ ⟨env, objs⟩ l = xV P Φ ops K (ncA (ev env x)) dst ⟨env, objs⟩ l := id rfl
theorem x_slice (A : TypeId) (x : Operand) (lo hi : Option Operand) : xY P Φ ops K ⟨dst, .slice A x lo hi none, T, pos, aft, g⟩ ⟨env, objs⟩ l = xV P Φ ops K (slc P A objs env (ev env x) lo hi) dst ⟨env, objs⟩ l := id rfl
def exA (x : AV) (i : Nat) : Option AV := match x with | .tup l => l[i]? | _ => none
theorem x_extract (t : Operand) (i : Nat) : xY P Φ ops K ⟨dst, .extract t i, T, pos, aft, g⟩ ⟨env, objs⟩ l = xV P Φ ops K (exA (ev env t) i) dst ⟨env, objs⟩ l := id rfl
theorem x_build (A : TypeId) (parts : Array (Nat × Operand)) : xY P Φ ops K ⟨dst, .build A parts, T, pos, aft, g⟩ ⟨env, objs⟩ l = xV P Φ ops K (bld P A (parts.toList.map fun p => (p.1, ev env p.2))) dst ⟨env, objs⟩ l := id rfl
end

/-! the same for a region that draws its order -/
section
variable (P : Program) (Φ : Table) (ops : List Oper) (K : St → Prop)

def qV (o : Option AV) (dst : Option Tmp) (s : St) (l : List Oper) : Prop := With o fun y => qGo P Φ ops K l ⟨pt s.env dst y, s.objs⟩
def qH (r : Option HR) (dst : Option Tmp) (l : List Oper) : Prop := With r fun r => qGo P Φ ops K l ⟨pt r.env dst r.x, r.objs⟩
def qFork (b : Bool) (o : Oper) (s : St) (l : List Oper) : Prop := Gate b (qDo P Φ o.dst s (qGo P Φ ops K l) o.op) (qGo P Φ ops K l ⟨pt s.env o.dst .und, s.objs⟩)
def qG (v : AV) (want : Bool) (o : Oper) (s : St) (l : List Oper) : Prop := gd2 v want (qDo P Φ o.dst s (qGo P Φ ops K l) o.op) (qGo P Φ ops K l ⟨pt s.env o.dst .und, s.objs⟩)
def qGt (t : Option Tmp) (want : Bool) (o : Oper) (s : St) (l : List Oper) : Prop := With t fun t => qG P Φ ops K (gt s.env t) want o s l
/-- an operation whose guard, if any, has said yes -/
def qY (o : Oper) (s : St) (l : List Oper) : Prop := qDo P Φ o.dst s (qGo P Φ ops K l) o.op

variable (T : TypeId) (pos : String) (aft : Array Edge) (env : List AV) (objs : List (Nat × Obj)) (l : List Oper) (dst : Option Tmp) (d : Tmp) (g : Option (Nat × Bool))
theorem q_nil (s : St) : qGo P Φ ops K [] s = K s := id rfl
theorem q_cons (op : Op) (s : St) : qGo P Φ ops K (⟨dst, op, T, pos, aft, none⟩ :: l) s = qY P Φ ops K ⟨dst, op, T, pos, aft, none⟩ s l := id rfl
theorem q_guard (op : Op) (s : St) (j : Nat) (want : Bool) : qGo P Φ ops K (⟨dst, op, T, pos, aft, some (j, want)⟩ :: l) s = qGt P Φ ops K (dstAt ops j) want ⟨dst, op, T, pos, aft, some (j, want)⟩ s l := id rfl
theorem q_gt (want : Bool) (o : Oper) (s : St) (t : Tmp) : qGt P Φ ops K (some t) want o s l = qG P Φ ops K (gt s.env t) want o s l := id rfl
theorem q_bool (b want : Bool) (o : Oper) (s : St) : qG P Φ ops K (.bool b) want o s l = qFork P Φ ops K (b == want) o s l := id rfl
theorem q_und (want : Bool) (o : Oper) (s : St) : qG P Φ ops K .und want o s l = qGo P Φ ops K l ⟨pt s.env o.dst .und, s.objs⟩ := id rfl
theorem q_yes (o : Oper) (s : St) : qFork P Φ ops K true o s l = qY P Φ ops K o s l := id (Gate.yes _ _)
theorem q_no (o : Oper) (s : St) : qFork P Φ ops K false o s l = qGo P Φ ops K l ⟨pt s.env o.dst .und, s.objs⟩ := id (Gate.no _ _)
theorem q_fork {b : Bool} {o : Oper} {s : St} (h : b = true → qY P Φ ops K o s l) (k : b = false → qGo P Φ ops K l ⟨pt s.env o.dst .und, s.objs⟩) : qFork P Φ ops K b o s l := ⟨h, k⟩
theorem q_v (y : AV) (s : St) : qV P Φ ops K (some y) dst s l = qGo P Φ ops K l ⟨pt s.env dst y, s.objs⟩ := id rfl
theorem q_move (x : Operand) : qY P Φ ops K ⟨dst, .move x, T, pos, aft, g⟩ ⟨env, objs⟩ l = qGo P Φ ops K l ⟨pt env dst (ev env x), objs⟩ := id rfl
theorem q_assign (x : Operand) : qY P Φ ops K ⟨dst, .assign x, T, pos, aft, g⟩ ⟨env, objs⟩ l = qGo P Φ ops K l ⟨pt env dst (ev env x), objs⟩ := id rfl
theorem q_len (x : Operand) (A : TypeId) : qY P Φ ops K ⟨dst, .call { callee := .builtin .len, args := #[x], argTypes := #[A] }, T, pos, aft, g⟩ ⟨env, objs⟩ l = qV P Φ ops K (lenOf P A (ev env x)) dst ⟨env, objs⟩ l := id rfl
theorem q_pick (c a b : Operand) : qY P Φ ops K ⟨dst, .pick c a b, T, pos, aft, g⟩ ⟨env, objs⟩ l = qV P Φ ops K (pickA (ev env c) (ev env a) (ev env b)) dst ⟨env, objs⟩ l := id rfl
theorem q_binOp (op : BinOp) (A B : TypeId) (x y : Operand) : qY P Φ ops K ⟨dst, .binOp op A x y B, T, pos, aft, g⟩ ⟨env, objs⟩ l = qV P Φ ops K (bop P A op (ev env x) (ev env y)) dst ⟨env, objs⟩ l := id rfl
theorem q_unOp (op : UnOp) (A : TypeId) (x : Operand) : qY P Φ ops K ⟨dst, .unOp op A x, T, pos, aft, g⟩ ⟨env, objs⟩ l = qV P Φ ops K (uop op (ev env x)) dst ⟨env, objs⟩ l := id rfl
theorem q_load (A : TypeId) (x : Operand) : qY P Φ ops K ⟨dst, .load A x, T, pos, aft, g⟩ ⟨env, objs⟩ l = qV P Φ ops K (loadA objs (cellTy P A) (ev env x)) dst ⟨env, objs⟩ l := id rfl
theorem q_fieldAddr (A k : Nat) (x : Operand) : qY P Φ ops K ⟨dst, .fieldAddr A x k, T, pos, aft, g⟩ ⟨env, objs⟩ l = qV P Φ ops K (faA (ev env x) (fieldOf P A k)) dst ⟨env, objs⟩ l := id rfl
theorem q_field (A k : Nat) (x : Operand) : qY P Φ ops K ⟨dst, .field A x k, T, pos, aft, g⟩ ⟨env, objs⟩ l = qV P Φ ops K (fA (ev env x) (fieldOf P A k)) dst ⟨env, objs⟩ l := id rfl
theorem q_indexAddr (A : TypeId) (x i : Operand) : qY P Φ ops K ⟨dst, .indexAddr A x i, T, pos, aft, g⟩ ⟨env, objs⟩ l = qV P Φ ops K (iaA P A (ev env x) (ev env i)) dst ⟨env, objs⟩ l := id rfl
theorem q_index (A : TypeId) (x i : Operand) : qY P Φ ops K ⟨dst, .index A x i, T, pos, aft, g⟩ ⟨env, objs⟩ l = qV P Φ ops K (ixA P A (ev env x) (ev env i)) dst ⟨env, objs⟩ l := id rfl
theorem q_nilCheck (x : Operand) : qY P Φ ops K ⟨dst, .nilCheck x, T, pos, aft, g⟩ ⟨env, objs⟩ l = qV P Φ ops K (ncA (ev env x)) dst ⟨env, objs⟩ l := id rfl
theorem q_slice (A : TypeId) (x : Operand) (lo hi : Option Operand) : qY P Φ ops K ⟨dst, .slice A x lo hi none, T, pos, aft, g⟩ ⟨env, objs⟩ l = qV P Φ ops K (slc P A objs env (ev env x) lo hi) dst ⟨env, objs⟩ l := id rfl
theorem q_extract (t : Operand) (i : Nat) : qY P Φ ops K ⟨dst, .extract t i, T, pos, aft, g⟩ ⟨env, objs⟩ l = qV P Φ ops K (exA (ev env t) i) dst ⟨env, objs⟩ l := id rfl
theorem q_build (A : TypeId) (parts : Array (Nat × Operand)) : qY P Φ ops K ⟨dst, .build A parts, T, pos, aft, g⟩ ⟨env, objs⟩ l = qV P Φ ops K (bld P A (parts.toList.map fun p => (p.1, ev env p.2))) dst ⟨env, objs⟩ l := id rfl
theorem q_call (f : FuncId) (args : Array Operand) (tys : Array TypeId) : qY P Φ ops K ⟨dst, .call { callee := .value (.func f), args := args, argTypes := tys }, T, pos, aft, g⟩ ⟨env, objs⟩ l = qH P Φ ops K (cLend Φ env objs f args.toList) dst l := id rfl
theorem q_h (r : HR) : qH P Φ ops K (some r) dst l = qGo P Φ ops K l ⟨pt r.env dst r.x, r.objs⟩ := id rfl
theorem q_convert (S A : TypeId) (x : Operand) : qY P Φ ops K ⟨dst, .convert S A x, T, pos, aft, g⟩ ⟨env, objs⟩ l = qV P Φ ops K (cvt P S A objs (ev env x)) dst ⟨env, objs⟩ l := id rfl
end

end Go.Abs
