/- Loops over a family of states; small laws for the evaluator. -/
import Derived.Test.YtplngcjkghnkcaaAbsS
namespace Go.Abs
open Go.RowKit

def sets : List AV → List (Nat × AV) → List AV
  | env, [] => env
  | env, (n, x) :: r => sets (st env n x) r
def forget : List AV → List Nat → List AV
  | env, [] => env
  | env, n :: r => forget (st env n .any) r

/-- The first says all that the second says. -/
def covE : List AV → List AV → Prop
  | [], [] => True
  | x :: l, y :: m => (y = .any ∨ x = y) ∧ covE l m
  | _, _ => False
def covS (s s' : St) : Prop := covE s.env s'.env ∧ s.objs = s'.objs

theorem covE_len : ∀ {l m : List AV}, covE l m → l.length = m.length
  | [], [], _ => rfl
  | _ :: _, _ :: _, h => by simp [covE_len h.2]
  | [], _ :: _, h => h.elim
  | _ :: _, [], h => h.elim
theorem covE_get : ∀ {l m : List AV}, covE l m → ∀ (i : Nat) (y : AV), m[i]? = some y → y = .any ∨ l[i]? = some y
  | [], [], _, i, y, h => by simp at h
  | x :: l, z :: m, h, 0, y, hy => by
    simp only [List.getElem?_cons_zero, Option.some.injEq] at hy ⊢
    subst hy
    rcases h.1 with h | h
    · exact .inl h
    · exact .inr h
  | x :: l, z :: m, h, i + 1, y, hy => by
    simp only [List.getElem?_cons_succ] at hy ⊢
    exact covE_get h.2 i y hy
  | [], _ :: _, h, _, _, _ => h.elim
  | _ :: _, [], h, _, _, _ => h.elim

section
variable {P : Program} {pins : List Nat} {Q : Exit → St → Prop} {s : St}

theorem weaker_cov {s' : St} (h : covS s s') : Weaker pins s s' := by
  rintro w0 M0 D0 a w _ ⟨hd, D, hm, he, hpin⟩
  obtain ⟨h1, h2⟩ := h
  refine ⟨hd, D, by rw [← h2]; exact hm, ⟨by rw [he.1, covE_len h1], fun i x hx => ?_⟩, by rw [← h2]; exact hpin⟩
  rcases covE_get h1 i x hx with rfl | h
  · exact slot_any _ _ _
  · exact he.2 i x h

def dropAll : List Nat → St → St
  | [], s => s
  | n :: r, s => dropAll r (dropO n s)
def okJunk (pins : List Nat) : List Nat → Bool
  | [] => true
  | n :: r => !(pins.contains n) && decide (n < top) && okJunk pins r
theorem weaker_dropAll : ∀ (js : List Nat) (s : St), okJunk pins js = true → Weaker pins s (dropAll js s)
  | [], _, _ => Weaker.refl
  | n :: r, s, h => by
    simp only [okJunk, Bool.and_eq_true, Bool.not_eq_true', decide_eq_true_eq] at h
    exact (weaker_drop (by simpa using h.1.1) h.1.2).trans (weaker_dropAll r _ h.2)

/-- The state at a loop's head. -/
def headS {ι : Type} (env : List AV) (v : ι → List (Nat × AV)) (o : ι → List (Nat × Obj)) (i : ι) : St := ⟨sets env (v i), o i⟩

def forQ {ι : Type} (junk : List Nat) (env : List AV) (v : ι → List (Nat × AV)) (o : ι → List (Nat × Obj)) (inv : ι → Prop) (μ : ι → Nat) (i : ι) (Q : Exit → St → Prop) : Exit → St → Prop
  | .normal, s => ∃ i', inv i' ∧ μ i' < μ i ∧ covS (dropAll junk s) (headS env v o i')
  | e, s => Q e s

/-- A loop: the slots that its rounds write are forgotten but for what v says of them. -/
theorem awp_for {c : Code} {ι : Type} (slots junk : List Nat) (v : ι → List (Nat × AV)) (o : ι → List (Nat × Obj)) (inv : ι → Prop) (μ : ι → Nat) (i0 : ι) (hj : okJunk pins junk = true)
    (h0 : inv i0) (h1 : covS (dropAll junk s) (headS (forget s.env slots) v o i0)) (hr : ∀ i, inv i → AWP P pins c (forQ junk (forget s.env slots) v o inv μ i Q) (headS (forget s.env slots) v o i)) : AWP P pins (.loop c) Q s := by
  generalize forget s.env slots = env at h1 hr
  refine awp_weaken ((weaker_dropAll junk s hj).trans (weaker_cov h1)) ?_
  refine awp_loop (I := fun n s => ∃ i, inv i ∧ μ i = n ∧ s = headS env v o i) (n := μ i0) ⟨i0, h0, rfl, rfl⟩ ?_
  rintro n s' ⟨i, hi, rfl, rfl⟩
  intro w0 M0 D0 a w hp hs
  refine Code.wp_mono ?_ (hr i hi w0 M0 D0 a w hp hs)
  rintro e a' w' ⟨s', h1, h2⟩
  cases e with
  | normal =>
    obtain ⟨i', g1, g2, g3⟩ := h1
    exact ⟨headS env v o i', ⟨_, g2, i', g1, rfl, rfl⟩, (weaker_dropAll junk s' hj).trans (weaker_cov g3) w0 M0 D0 a' w' hp h2⟩
  | _ => exact ⟨s', h1, h2⟩
end

/-! small laws -/
theorem iaA_sl {P : Program} {A sz k : Nat} {l : List (List AV)} (hs : sliceElem P A = some sz) (h : k < l.length) (kd : IntKind) : iaA P A (.sl sz l) (.int kd (k : Int)) = some (.at_ (l.getD k [])) := by
  simp only [iaA]
  rw [if_pos ⟨by omega, by omega, hs⟩]
  simp
theorem iaA_msl {P : Program} {A sz k m off len : Nat} (hs : sliceElem P A = some sz) (h : k < len) (kd : IntKind) : iaA P A (.msl m sz off len) (.int kd (k : Int)) = some (.ref m sz (off + k) 0) := by
  simp only [iaA]
  rw [if_pos ⟨by omega, by omega, hs⟩]
  simp
theorem iaA_arr {P : Program} {A sz k m len : Nat} (hs : arrElem P A = some (len, sz)) (h : k < len) (kd : IntKind) : iaA P A (.ref m sz 0 0) (.int kd (k : Int)) = some (.ref m sz k 0) := by
  simp only [iaA, hs]
  rw [if_pos ⟨by trivial, by omega, by omega⟩]
  simp
theorem ixA_str {P : Program} {A k : Nat} {s : List UInt8} (hs : strTy P A = true) (h : k < s.length) (kd : IntKind) : ixA P A (.str s) (.int kd (k : Int)) = some (.int .u8 (s.getD k 0).toNat) := by
  simp only [ixA]
  rw [if_pos ⟨hs, by omega, by omega⟩]
  simp
theorem len_str {P : Program} {A : Nat} {s : List UInt8} (hs : strTy P A = true) : Go.Abs.lenOf P A (.str s) = some (.int .i64 (s.length : Int)) := by simp [Go.Abs.lenOf, hs]
theorem len_sl {P : Program} {A sz sz' : Nat} {l : List (List AV)} (hs : sliceElem P A = some sz') : Go.Abs.lenOf P A (.sl sz l) = some (.int .i64 (l.length : Int)) := by simp [Go.Abs.lenOf, hs]
theorem len_msl {P : Program} {A sz n off len sz' : Nat} (hs : sliceElem P A = some sz') : Go.Abs.lenOf P A (.msl n sz off len) = some (.int .i64 (len : Int)) := by simp [Go.Abs.lenOf, hs]
theorem len_nsl {P : Program} {A sz' : Nat} (hs : sliceElem P A = some sz') : Go.Abs.lenOf P A .nsl = some (.int .i64 0) := by simp [Go.Abs.lenOf, hs]


section
variable {P : Program} {pins : List Nat} {Q : Exit → St → Prop} {s : St}
theorem exit_seq {y : Code} {i : Nat} (h : Q (.exit i) s) : seqQ P pins y Q (.exit i) s := h
theorem exit_block {i : Nat} (h : Q .normal s) : blockQ i Q (.exit i) s := by simp only [blockQ, if_true]; exact h
theorem exit_block_ne {i j : Nat} (hne : i ≠ j) (h : Q (.exit i) s) : blockQ j Q (.exit i) s := by simp only [blockQ, hne, if_false]; exact h
theorem exit_for {ι : Type} {junk : List Nat} {env : List AV} {v : ι → List (Nat × AV)} {o : ι → List (Nat × Obj)} {inv : ι → Prop} {μ : ι → Nat} {i : ι} {j : Nat} (h : Q (.exit j) s) : forQ junk env v o inv μ i Q (.exit j) s := h
theorem ret_seq {y : Code} (h : Q .ret s) : seqQ P pins y Q .ret s := h
theorem ret_block {j : Nat} (h : Q .ret s) : blockQ j Q .ret s := h
theorem ret_for {ι : Type} {junk : List Nat} {env : List AV} {v : ι → List (Nat × AV)} {o : ι → List (Nat × Obj)} {inv : ι → Prop} {μ : ι → Nat} {i : ι} (h : Q .ret s) : forQ junk env v o inv μ i Q .ret s := h
theorem norm_block {j : Nat} (h : Q .normal s) : blockQ j Q .normal s := h
theorem norm_seq {y : Code} (h : AWP P pins y Q s) : seqQ P pins y Q .normal s := h
theorem ret_end {os : List (Nat × Obj)} {rs : List Operand} {r : CR} (h : finish (os.map (·.1)) rs s = some r) : endQ os rs r .ret s := ⟨.inr rfl, h⟩
theorem norm_end {os : List (Nat × Obj)} {rs : List Operand} {r : CR} (h : finish (os.map (·.1)) rs s = some r) : endQ os rs r .normal s := ⟨.inl rfl, h⟩
theorem for_end {ι : Type} {junk : List Nat} {env : List AV} {v : ι → List (Nat × AV)} {o : ι → List (Nat × Obj)} {inv : ι → Prop} {μ : ι → Nat} {i : ι} (i' : ι) (h1 : inv i') (h2 : μ i' < μ i) (h3 : covS (dropAll junk s) (headS env v o i')) :
    forQ junk env v o inv μ i Q .normal s := ⟨i', h1, h2, h3⟩
end

theorem covE_any {l m : List AV} (x : AV) : covE (x :: l) (.any :: m) = covE l m := by simp [covE]
theorem covE_same {l m : List AV} (x : AV) : covE (x :: l) (x :: m) = covE l m := by simp [covE]
theorem covE_nil : covE [] [] = True := by simp [covE]
theorem covE_cons {x y : AV} {l m : List AV} (h : x = y) (h2 : covE l m) : covE (x :: l) (y :: m) := ⟨.inr h, h2⟩
theorem covS_mk {e e' : List AV} {o o' : List (Nat × Obj)} (h : covE e e') (h2 : o = o') : covS ⟨e, o⟩ ⟨e', o'⟩ := ⟨h, h2⟩

end Go.Abs
