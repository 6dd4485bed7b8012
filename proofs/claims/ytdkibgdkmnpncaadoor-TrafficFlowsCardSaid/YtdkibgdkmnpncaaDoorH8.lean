import Derived.Test.YtdkibgdkmnpncaaDoorH7
import Derived.Shelf.Abstract
import Derived.Shelf.RegionOpen
import Derived.OwnWalkIn
import Derived.TacticsInMore
import Derived.LoopNIn
import Derived.LoopIn
import Derived.Deep.RegionWith
import Derived.Deep.OwnRows
import Derived.Lib.Builder
open Go Go.Proofs Go.Abs Go.RowKit Go.Shelf Go.Deep
set_option linter.unusedVariables false
set_option maxRecDepth 100000
set_option maxHeartbeats 4000000
namespace Go.Proofs.YtdkibgdkmnpncaaDoor
theorem im {p : Prop} (h : p) : Hid p := h
theorem kj (w : World) (o : Array Value) (T : TypeId) (i : Nat) : (w.alloc (.cells o T)).cell? ⟨w.heap.size, i, none⟩ = o[i]? := by
 rw [Go.Lib.cell_of_heap (heap_alloc_new w _)]
def w3 (w : World) (a1 a2 b1 b2 c0 c1 c2 c3 c4 : Value) : World := ((w.alloc (.cells #[a1, a2] 28)).alloc (.cells #[b1, b2] 32)).alloc (.cells #[c0, c1, c2, c3, c4] 43)
structure W3 (w : World) (a1 b1 b2 c1 c2 : Value) (W : World) : Prop where
 below : Below w.heap.size w W
 a1 : W.cell? ⟨w.heap.size, 0, none⟩ = some a1
 b1 : W.cell? ⟨w.heap.size + 1, 0, none⟩ = some b1
 b2 : W.cell? ⟨w.heap.size + 1, 1, none⟩ = some b2
 c1 : W.cell? ⟨w.heap.size + 1 + 1, 1, none⟩ = some c1
 c2 : W.cell? ⟨w.heap.size + 1 + 1, 2, none⟩ = some c2
 sz : w.heap.size + 3 ≤ W.heap.size
theorem Gk (w : World) (a1 a2 b1 b2 c0 c1 c2 c3 c4 : Value) : W3 w a1 b1 b2 c1 c2 (w3 w a1 a2 b1 b2 c0 c1 c2 c3 c4) := by
 have k1 : Below (w.heap.size + 1) (w.alloc (.cells #[a1, a2] 28)) (w3 w a1 a2 b1 b2 c0 c1 c2 c3 c4) := ((Below.refl _ _).alloc (by simp) _).alloc (by simp) _
 have k2 : Below (w.heap.size + 1 + 1) ((w.alloc (.cells #[a1, a2] 28)).alloc (.cells #[b1, b2] 32)) (w3 w a1 a2 b1 b2 c0 c1 c2 c3 c4) := (Below.refl _ _).alloc (by simp) _
 have e1 : (w.alloc (.cells #[a1, a2] 28)).heap.size = w.heap.size + 1 := by simp
 have e2 : ((w.alloc (.cells #[a1, a2] 28)).alloc (.cells #[b1, b2] 32)).heap.size = w.heap.size + 1 + 1 := by simp
 refine ⟨(((Below.refl _ _).alloc (Nat.le_refl _) _).alloc (by simp) _).alloc (by simp; try omega) _, ?_, ?_, ?_, ?_, ?_, by simp [w3]⟩
 ·rw [k1.cell (p := ⟨w.heap.size, 0, none⟩) (Nat.lt_succ_self _), kj]; rfl
 ·rw [k2.cell (p := ⟨w.heap.size + 1, 0, none⟩) (Nat.lt_succ_self _), ← e1, kj]; rfl
 ·rw [k2.cell (p := ⟨w.heap.size + 1, 1, none⟩) (Nat.lt_succ_self _), ← e1, kj]; rfl
 ·rw [← e2, w3, kj]; rfl
 ·rw [← e2, w3, kj]; rfl
theorem W3.drew {w W : World} {a1 b1 b2 c1 c2 : Value} (h : W3 w a1 b1 b2 c1 c2 W) : W3 w a1 b1 b2 c1 c2 W.drew := ⟨h.below.drew, h.a1, h.b1, h.b2, h.c1, h.c2, h.sz⟩
theorem W3.next {w W W' : World} {a1 b1 b2 c1 c2 : Value} (h : W3 w a1 b1 b2 c1 c2 W) (k : Below W.heap.size W W') : W3 w a1 b1 b2 c1 c2 W' where
 below := h.below.trans (k.mono (by have := h.sz; omega))
 a1 := (k.cell (p := ⟨w.heap.size, 0, none⟩) (by have := h.sz; simp only; omega)).trans h.a1
 b1 := (k.cell (p := ⟨w.heap.size + 1, 0, none⟩) (by have := h.sz; simp only; omega)).trans h.b1
 b2 := (k.cell (p := ⟨w.heap.size + 1, 1, none⟩) (by have := h.sz; simp only; omega)).trans h.b2
 c1 := (k.cell (p := ⟨w.heap.size + 1 + 1, 1, none⟩) (by have := h.sz; simp only; omega)).trans h.c1
 c2 := (k.cell (p := ⟨w.heap.size + 1 + 1, 2, none⟩) (by have := h.sz; simp only; omega)).trans h.c2
 sz := Nat.le_trans h.sz k.size
section
variable {w : World} {L : ez} {P : jv} {c : ft} {fs : List rG} {lv fv : Value} {na sa ba ca : Option Addr} {nc sc bc cc nb no cb co : Nat} {dv : Value} {s0 : ByteArray} {z3 : Int} {ea : Option Addr} {el ec : Nat} {k : Nat}
theorem C8 (hg : GR w) {va : Option Addr} {vl vc bb bo : Nat}
  (h0 : w.cell? ⟨nb, no + k * 5, none⟩ = some (.string s0)) (h1 : w.cell? ⟨nb, no + k * 5 + 1, none⟩ = some (.int .i64 7)) {len : Int} (h2 : w.cell? ⟨nb, no + k * 5 + 2, none⟩ = some (.int .i64 len))
  (h3 : w.cell? ⟨nb, no + k * 5 + 3, none⟩ = some (.int .i64 z3)) (h4 : w.cell? ⟨nb, no + k * 5 + 4, none⟩ = some (.slice ea el ec)) (hnb : nb < w.heap.size) {nl sl bl cl : Nat} (hkn : k < nl) (hkb : k < bl) (hkc : k < cl) (hn1 : nl ≤ cj) (hb1 : bl ≤ cj) (hc1 : cl ≤ cj) (hn2 : nl ≤ nc) (hb2 : bl ≤ bc) (hc2 : cl ≤ cc)
  {bins : ft} (hbv : w.cell? ⟨bb, bo + k, none⟩ = some (.slice va vl vc)) (hbb : bb < w.heap.size) (hB : Hid (cU w (Names.M NN) ((Ty.sl (.cons (.int .i64) .nil)).av bins) (.slice va vl vc)))
  {cn : Int} (hcv : w.cell? ⟨cb, co + k, none⟩ = some (.int .i64 cn)) (hcb : cb < w.heap.size) {r : Bool} (hs : Hid (yI (bins, cn, ()) = some (r, ()))) :
  Calls Tryd.prog 21 #[.agg #[.slice (some ⟨nb, no, none⟩) nl nc, dv], .agg #[.slice sa sl sc, .slice (some ⟨bb, bo, none⟩) bl bc], .slice (some ⟨cb, co, none⟩) cl cc, fv, .int .i64 (k : Int)] w fun e w' => e = .returned (.int .i64 (if r = true then cn else 0)) ∧ Below w.heap.size w w' := by
 have lim0 : cj = 140737488355328 := rfl
 go_enter Tryd.func21, Tryd.ntmps21
 go_wp2_with fail
 have F := im (Gk w (.slice (some ⟨nb, no, none⟩) nl nc) dv (.slice sa sl sc) (.slice (some ⟨bb, bo, none⟩) bl bc) (.string s0) (.int .i64 7) (.int .i64 len) (.int .i64 z3) (.slice ea el ec)).drew
 have g1 := F.out.b2
 have g2 := (F.out.below.cell (p := ⟨bb, bo + k, none⟩) hbb).trans hbv
 have g3 := (F.out.below.cell (p := ⟨cb, co + k, none⟩) hcb).trans hcv
 simp only [w3] at F g1 g2 g3
 clear h0 h1 h2 h3 h4 hbv hcv
 go_region_with (
  go_at_call 23
  refine (Vx (GR.below hg (Nat.le_refl _) F.out.below) (nW (D := NN) hB.out F.out.below) _ hs.out).mono ?_
  rintro e w1 ⟨rfl, hw1⟩)
 all_goals (
  clear g1 g2
  have g3 := (hw1.cell (p := ⟨cb, co + k, none⟩) (Nat.lt_of_lt_of_le hcb F.out.below.size)).trans g3
  have Hb := im (F.out.below.trans (hw1.mono F.out.below.size))
  clear hw1 F
  cases r with
  | true =>
   go_wp2_with fail
   go_ret
   exact ⟨rfl, Hb.out⟩
  | false =>
   go_wp2_with fail
   go_ret
   exact ⟨rfl, Hb.out⟩)
end
end Go.Proofs.YtdkibgdkmnpncaaDoor
