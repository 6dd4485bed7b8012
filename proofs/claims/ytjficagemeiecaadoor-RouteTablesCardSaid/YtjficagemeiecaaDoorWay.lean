import Derived.Test.YtjficagemeiecaaDoorWa
open Go Go.Proofs Go.Abs
set_option linter.unusedVariables false
namespace Go.Proofs.YtjficagemeiecaaDoor
section
variable {l : Ty4} {b : BrV} {t : Nat}
def putV (l : Ty4) (b : BrV) (t i : Nat) (best : Int) (x : Int × Unit) : Int := if goV l i x.1.toNat t = true then relV (distV l b t x.1.toNat) (ndV l i).2.2.1 best else best
def bestV (l : Ty4) (b : BrV) (t i k : Nat) : Int := ((ndV l i).2.2.2.2.1.take k).foldl (putV l b t i) (-1)
theorem relV_ge {d n best : Int} (h : -1 ≤ best) (hn : 0 ≤ n) : -1 ≤ relV d n best := by unfold relV; split <;> omega
theorem relV_le {d n best c : Int} (h : best ≤ c) (hd : d + n ≤ c) : relV d n best ≤ c := by unfold relV; split <;> omega
theorem foldl_inv {α β : Type} (P : β → Prop) (f : β → α → β) (L : List α) (z : β) (h0 : P z) (hs : ∀ z x, x ∈ L → P z → P (f z x)) : P (L.foldl f z) := by
 induction L generalizing z with
 | nil => exact h0
 | cons x r ih => exact ih _ (hs z x (List.mem_cons_self ..) h0) fun z y hy => hs z y (List.mem_cons_of_mem _ hy)
theorem foldl_eq {α β : Type} (f g : β → α → β) (L : List α) (z : β) (h : ∀ z x, x ∈ L → f z x = g z x) : L.foldl f z = L.foldl g z := by
 induction L generalizing z with
 | nil => rfl
 | cons x r ih => rw [List.foldl_cons, List.foldl_cons, h z x (List.mem_cons_self ..)]; exact ih _ fun z y hy => h z y (List.mem_cons_of_mem _ hy)
theorem distW_le (hL : LenV l) : ∀ f i, i < l.1.length → -1 ≤ distW l b t f i ∧ distW l b t f i ≤ 1000 * f
 | 0, i, _ => by simp [distW]
 | f + 1, i, hi => by
  have hl := hL.len i hi
  unfold distW
  split
  ·omega
  ·split
   ·omega
   ·refine foldl_inv (fun z : Int => -1 ≤ z ∧ z ≤ 1000 * ((f + 1 : Nat) : Int)) _ _ _ (by omega) fun z x hx hz => ?_
    split
    ·have h2 := distW_le hL f x.1.toNat (by have := hL.ex i hi x hx; omega)
     exact ⟨relV_ge hz.1 hl.1, relV_le hz.2 (by omega)⟩
    ·exact hz
theorem distV_le (hL : LenV l) {i : Nat} (hi : i < l.1.length) : -1 ≤ distV l b t i ∧ distV l b t i ≤ 1001000 := by
 have h := distW_le (b := b) (t := t) hL (l.1.length + 1) i hi
 have := hL.n
 exact ⟨h.1, by have := h.2; unfold distV; omega⟩
theorem distW_st (hL : LenV l) {rk : Nat → Nat} (hr : ∀ i, i < l.1.length → i ≠ t → ∀ x ∈ (ndV l i).2.2.2.2.1, goV l i x.1.toNat t = true → rk x.1.toNat < rk i) :
  ∀ m i f g, rk i < m → i < l.1.length → rk i < f → rk i < g → distW l b t f i = distW l b t g i
 | 0, i, f, g, hm, _, _, _ => by omega
 | m + 1, i, 0, g, hm, hi, hf, _ => by omega
 | m + 1, i, f + 1, 0, hm, hi, _, hg => by omega
 | m + 1, i, f + 1, g + 1, hm, hi, hf, hg => by
  unfold distW
  split
  ·rfl
  ·split
   ·rfl
   ·rename_i hit
    refine foldl_eq _ _ _ _ fun z x hx => ?_
    split
    ·rename_i hgo
     have h := hr i hi hit x hx hgo
     rw [distW_st hL hr m x.1.toNat f g (by omega) (by have := hL.ex i hi x hx; omega) (by omega) (by omega)]
    ·rfl
theorem distV_eq (hL : LenV l) (hr : RkV l t) {i : Nat} (hi : i < l.1.length) :
  distV l b t i = if brkV b i = true then -1 else if i = t then (ndV l i).2.2.1 else bestV l b t i (ndV l i).2.2.2.2.1.length := by
 obtain ⟨rk, h1, h2⟩ := hr
 unfold distV
 rw [distW]
 split
 ·rfl
 ·split
  ·rfl
  ·rename_i hit
   unfold bestV
   rw [List.take_length]
   refine foldl_eq _ _ _ _ fun z x hx => ?_
   unfold putV
   split
   ·rename_i hgo
    have h := h2 i hi hit x hx hgo
    have hb := h1 i
    rw [distW_st (b := b) hL h2 (rk x.1.toNat + 1) x.1.toNat l.1.length (l.1.length + 1) (by omega) (by have := hL.ex i hi x hx; omega) (by omega) (by omega)]
    rfl
   ·rfl
theorem bestV_succ {i k : Nat} {x : Int × Unit} (hx : (ndV l i).2.2.2.2.1[k]? = some x) : bestV l b t i (k + 1) = putV l b t i (bestV l b t i k) x := by
 unfold bestV
 rw [List.take_add_one, hx]
 simp
theorem bestV_le (hL : LenV l) {i : Nat} (hi : i < l.1.length) (k : Nat) : -1 ≤ bestV l b t i k ∧ bestV l b t i k ≤ 1002000 := by
 have hl := hL.len i hi
 refine foldl_inv (fun z : Int => -1 ≤ z ∧ z ≤ 1002000) _ _ _ (by omega) fun z x hx hz => ?_
 unfold putV
 split
 ·have h2 := distV_le (b := b) (t := t) hL (i := x.1.toNat) (by have := hL.ex i hi x (List.mem_of_mem_take hx); omega)
  exact ⟨relV_ge hz.1 hl.1, relV_le hz.2 (by omega)⟩
 ·exact hz
end
end Go.Proofs.YtjficagemeiecaaDoor
