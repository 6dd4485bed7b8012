import Derived.Test.YtdkibgdkmnpncaaDoorH2
import Derived.Test.YtdkibgdkmnpncaaDoorH3
import Derived.RangeFuncNested
import Derived.RangeFuncBound
import Derived.RangeFuncCalls
import Derived.RangeFuncLeaves
import Derived.Shelf.Abstract
import Derived.Shelf.RegionOpen
import Derived.WalkKit
import Derived.OwnWalkIn
import Derived.TacticsInMore
import Derived.LoopNIn
import Derived.LoopIn
open Go Go.Proofs Go.Abs Go.RowKit Go.Shelf
attribute [local go_sem] Oper.semAt_some
set_option linter.unusedVariables false
set_option maxRecDepth 100000
set_option maxHeartbeats 4000000
namespace Go.Proofs.YtdkibgdkmnpncaaDoor
theorem Rh {p : Prop} (h : p) : Hid p := h
def lX (bx : Nat) (l : List Int) (W : World) : Prop := ∃ a cap, W.cell? ⟨bx, 0, none⟩ = some (.slice a l.length cap) ∧ ∀ (j : Nat) x, l[j]? = some x → ∃ b off, a = some ⟨b, off, none⟩ ∧ W.cell? ⟨b, off + j, none⟩ = some (.int .i64 x)
theorem Ja {B bx : Nat} {l : List Int} {W W' : World} (h : lX bx l W) (k : Kept B W W') : lX bx l W' := by
 obtain ⟨a, cap, h1, h2⟩ := h
 refine ⟨a, cap, k.cell h1, fun j x hx => ?_⟩
 obtain ⟨b, off, e, h3⟩ := h2 j x hx
 exact ⟨b, off, e, k.cell h3⟩
theorem G9 {bx : Nat} {l : List Int} {w W : World} (h : lX bx l w) (k : Below w.heap.size w W) : lX bx l W := by
 have lt : ∀ {a : Addr} {v : Value}, w.cell? a = some v → a.block < w.heap.size := fun {a v} h => by
  obtain ⟨o, ho, _⟩ := cells_of_cell h
  exact (Array.getElem?_eq_some_iff.1 ho).1
 obtain ⟨a, cap, h1, h2⟩ := h
 refine ⟨a, cap, (k.cell (lt h1)).trans h1, fun j x hx => ?_⟩
 obtain ⟨b, off, e, h3⟩ := h2 j x hx
 exact ⟨b, off, e, (k.cell (lt h3)).trans h3⟩
abbrev NH (l : List Int) : Type := Fin l.length
def qR (l : List Int) (k : NH l) : Array Value := #[.int .i64 ((k.1 : Nat) : Int), .int .i64 l[k]]
def je (l : List Int) : List (NH l) := (List.finRange l.length).reverse
theorem uc (l : List Int) : (je l).length = l.length := by simp [je]
theorem GL {l : List Int} {k : Nat} (h : k + 1 ≤ l.length) : (je l).take (l.length - (k + 1)) ++ [⟨k, h⟩] = (je l).take (l.length - k) := by
 have e : l.length - k = (l.length - (k + 1)) + 1 := by omega
 have hl : l.length - (k + 1) < (je l).length := by rw [uc]; omega
 rw [e, List.take_add_one, List.getElem?_eq_getElem hl]
 simp only [Option.toList]
 congr 2
 apply Fin.ext
 simp [je]
 omega
theorem CA (n : Nat) (hn : 1 ≤ n) (w : World) (bx : Nat) (l : List Int) (hl : l.length ≤ 100000) (h : lX bx l w) :
  SeqStopsK Fence.wide n Tryd.prog 68 #[.pointer (some ⟨bx, 0, none⟩)] (qR l) (fun A B => lX bx l A → lX bx l B) (fun xs => xs = je l) (fun _ => True) l.length w := by
 intro lp J Jx W hW hJ hJx hY h0
 refine callsIn_of_wp Tryd.func68 rfl trivial ?_ rfl
 simp only [Tryd.ntmps68, List.size_toArray, List.length_cons, List.length_nil, Nat.reduceAdd, Nat.reduceSub, Array.replicate_succ, Array.replicate_zero, List.push_toArray, List.append_toArray, List.nil_append, List.cons_append]
 have hO := G9 h hW
 obtain ⟨a, cap, h1, h2⟩ := hO
 have Hord := (show Hid (lX bx l W) from ⟨a, cap, h1, h2⟩)
 gi_wp2
 have Hh := Rh hY
 clear hY h1 h2
 gi_loopw [3] (fun p wr => ∃ k : Nat, k ≤ l.length ∧ p = .int .i64 ((k : Int) - 1) ∧ J ((je l).take (l.length - k)) wr ∧ Hid (lX bx l wr)) (fun p _ => (intOf p + 1).toNat)
 case atStart => exact ⟨l.length, Nat.le_refl _, rfl, by simpa using h0, Hord⟩
 case round =>
  obtain ⟨k, hk, rfl, hJs, HO⟩ := hrel
  obtain ⟨a, cap, h1, h2⟩ := HO.out
  by_cases hk0 : k = 0
  ·subst hk0
   gi_wp2
   go_end0
   exact ⟨⟨_, rfl⟩, .inl ⟨_, by rw [Nat.sub_zero, ← uc l, List.take_length], hJs⟩⟩
  ·obtain ⟨j, rfl⟩ : ∃ j, k = j + 1 := ⟨k - 1, by omega⟩
   have ej : (((j + 1 : Nat) : Int) - 1) = (j : Int) := by omega
   rw [ej]
   have hjl : j < l.length := by omega
   obtain ⟨b, off, rfl, h3⟩ := h2 j l[j] (List.getElem?_eq_getElem hjl)
   clear h2
   obtain ⟨fn, tmps, assign, body, hy, hR⟩ := Hh.out ((je l).take (l.length - (j + 1))) ⟨j, hjl⟩ wr hJs (by rw [List.length_take, uc]; omega)
   have hy' : (Instr.yield lp #[Value.int IntKind.i64 (j : Int), Value.int IntKind.i64 l[j]]).run Tryd.prog wr = _ := hy
   clear hy
   gi_wp2
   refine hR.mono ?_
   rintro e W3 (⟨rfl, hJ3, hk3⟩ | ⟨rfl, hJx3⟩)
   ·rw [GL] at hJ3
    have HO3 := Rh (hk3 HO.out)
    gi_wp2
    exact ⟨⟨j, by omega, rfl, hJ3, HO3⟩, by simp [intOf]⟩
   ·gi_wp2
    refine bodyPost_ret (results_none rfl _ _ _) rfl ?_
    exact ⟨⟨_, rfl⟩, .inr ⟨_, trivial, hJx3⟩⟩
end Go.Proofs.YtdkibgdkmnpncaaDoor
