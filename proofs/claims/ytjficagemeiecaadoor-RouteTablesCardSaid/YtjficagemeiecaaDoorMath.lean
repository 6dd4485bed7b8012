import Derived.Test.YtjficagemeiecaaDoorLibG
namespace Go.Proofs.YtjficagemeiecaaDoor
open Go.Abs
theorem iter_inv {σ R : Type} {F : (σ → Option R) → σ → Option R} {r : Option R} (st : Nat → σ) (I : Nat → Prop) (m n : Nat) (hn : m < n) (h0 : I 0) (hs : ∀ rc k, k < m → I k → (F rc (st k) = rc (st (k + 1)) ∧ I (k + 1)) ∨ F rc (st k) = r) (he : ∀ rc, I m → F rc (st m) = r) : iter n F (st 0) = r := by
 suffices h : ∀ n k, m - k < n → k ≤ m → I k → iter n F (st k) = r from h n 0 (by omega) (Nat.zero_le _) h0
 intro n
 induction n with
 | zero => intro k hk; omega
 | succ n ih =>
  intro k hk hkm hi
  rcases Nat.lt_or_ge k m with hlt | hge
  ·rcases hs (iter n F) k hlt hi with ⟨h, h'⟩ | h
   ·exact h.trans (ih (k + 1) (by omega) hlt h')
   ·exact h
  ·have : k = m := by omega
   subst this
   exact he _ hi
theorem iter_count {σ R : Type} {F : (σ → Option R) → σ → Option R} {r : Option R} (st : Nat → σ) (m n : Nat) (hn : m < n) (hs : ∀ rc k, k < m → F rc (st k) = rc (st (k + 1))) (he : ∀ rc, F rc (st m) = r) : iter n F (st 0) = r :=
 iter_inv st (fun _ => True) m n hn trivial (fun rc k hk _ => .inl ⟨hs rc k hk, trivial⟩) (fun rc _ => he rc)
theorem inR_nat {k n : Nat} (h : k < n) : inR (k : Int) n = true := by simp [inR, h]
theorem inCut_nat {a b n : Nat} (h1 : a ≤ b) (h2 : b ≤ n) : inCut (a : Int) (b : Int) n = true := by simp [inCut, h1, h2]
theorem up1 {k n : Nat} (h : k < n) (hn : n ≤ 1000000000000000000) : IntKind.i64.wrap ((k : Int) + 1) = ((k + 1 : Nat) : Int) := wrapI (by omega) (by omega)
theorem lAt_nat {α : Type} (d : α) (l : List α) (k : Nat) (h : k < l.length) : lAt d l (k : Int) = l[k] := by
 show l.getD k d = _
 rw [List.getD, List.getElem?_eq_getElem h]; rfl
theorem iter_list {α σ R : Type} {F : (σ → Option R) → σ → Option R} {bad fin : Option R} (l : List α) (p : α → Bool) (st : Nat → σ) (n : Nat) (hn : l.length < n)
  (hs : ∀ rc k (hk : k < l.length), F rc (st k) = if p l[k] = true then rc (st (k + 1)) else bad) (he : ∀ rc, F rc (st l.length) = fin) : iter n F (st 0) = if l.all p = true then fin else bad := by
 by_cases h : l.all p = true
 ·rw [if_pos h]
  refine iter_count st l.length n hn (fun rc k hk => ?_) he
  rw [hs rc k hk, if_pos (List.all_eq_true.1 h _ (List.getElem_mem hk))]
 ·rw [if_neg h]
  refine iter_inv st (fun k => (l.take k).all p = true) l.length n hn rfl (fun rc k hk hi => ?_) (fun rc hi => ?_)
  ·rw [hs rc k hk]
   by_cases hp : p l[k] = true
   ·exact .inl ⟨if_pos hp, by rw [List.take_add_one, List.getElem?_eq_getElem hk]; simp only [Option.toList, List.all_append, hi, List.all_cons, List.all_nil, hp, Bool.and_self]⟩
   ·exact .inr (if_neg hp)
  ·rw [List.take_length] at hi; exact absurd hi h
theorem up1' {k : Nat} {n : Nat} (h : k < n) (hn : n ≤ 1000000000000000000 := by omega) : IntKind.i64.wrap ((k : Int) + 1) = ((k + 1 : Nat) : Int) := up1 h hn
end Go.Proofs.YtjficagemeiecaaDoor
