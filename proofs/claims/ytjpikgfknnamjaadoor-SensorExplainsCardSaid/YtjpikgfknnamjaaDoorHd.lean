import Derived.Test.YtjpikgfknnamjaaDoorHc
open Go Go.Proofs Go.Abs Go.RowKit Go.Shelf
attribute [local go_sem] Oper.semAt_some
set_option linter.unusedVariables false
set_option maxRecDepth 100000
set_option maxHeartbeats 4000000
namespace Go.Proofs.YtjpikgfknnamjaaDoor
noncomputable def K20 : Code := rgt (lft (rgt (rgt C20)))
noncomputable def Z20 : Code := rgt (rgt (rgt C20))
structure KX (w : World) (B8 B9 : Nat) (W : World) : Prop where
 os : W.os = w.os
 tape : W.tape = w.tape
 output : W.output = w.output
 size : w.heap.size ≤ W.heap.size
 block : ∀ k, k < w.heap.size → k ≠ B8 → k ≠ B9 → W.heap[k]? = w.heap[k]?
theorem kx_grown {w W W' : World} {B8 B9 : Nat} {row : Option Nat} (h : KX w B8 B9 W) (hg : W.grownBy W' row) (hr : ∀ r, row = some r → w.heap.size ≤ r) : KX w B8 B9 W' where
 os := hg.os.trans h.os
 tape := hg.tape.trans h.tape
 output := hg.output.trans h.output
 size := Nat.le_trans h.size hg.size
 block := fun k hk h8 h9 => (hg.block k (Nat.lt_of_lt_of_le hk h.size) (fun e => by have := hr k e.symm; omega)).trans (h.block k hk h8 h9)
theorem heap_grown {w W W' : World} {b : Nat} {o : Option Go.Obj} {row : Option Nat} (hb : b < w.heap.size) (hs : w.heap.size ≤ W.heap.size) (h : W.heap[b]? = o) (hg : W.grownBy W' row) (hr : ∀ r, row = some r → w.heap.size ≤ r) : W'.heap[b]? = o :=
 (hg.block b (Nat.lt_of_lt_of_le hb hs) (fun e => by have := hr b e.symm; omega)).trans h
theorem hc1 {W : World} {b : Nat} {v : Value} {T : TypeId} (h : W.heap[b]? = some (.cells #[v] T (0, 0))) : W.cell? ⟨b, 0, none⟩ = some v ∧ W.frozen? ⟨b, 0, none⟩ = false := by simp [World.cell?, World.frozen?, h]
theorem hset {W : World} {b : Nat} {v u : Value} {T : TypeId} (h : W.heap[b]? = some (.cells #[v] T (0, 0))) : (W.setCell ⟨b, 0, none⟩ u).heap[b]? = some (.cells #[u] T (0, 0)) := by simp [World.setCell, Array.getElem?_modify, h]
theorem hset_ne {W : World} {b k : Nat} {u : Value} (h : b ≠ k) : (W.setCell ⟨b, 0, none⟩ u).heap[k]? = W.heap[k]? := by simp [World.setCell, Array.getElem?_modify, h]
theorem kx_set {w W : World} {B8 B9 b : Nat} (h : KX w B8 B9 W) (hb : b = B8 ∨ b = B9) (u : Value) : KX w B8 B9 (W.setCell ⟨b, 0, none⟩ u) where
 os := h.os
 tape := h.tape
 output := h.output
 size := by simpa [World.setCell] using h.size
 block := fun k hk h8 h9 => by rw [hset_ne (by rcases hb with rfl | rfl <;> omega)]; exact h.block k hk h8 h9
theorem kx_of {w W : World} {B8 B9 : Nat} (h : Below w.heap.size w W) : KX w B8 B9 W := ⟨h.os, h.tape, h.output, h.size, fun k hk _ _ => h.block k hk⟩
theorem cell_at {W : World} {b i : Nat} {cs : Array Value} {T : TypeId} {fz : Nat × Nat} {v : Value} (h : W.heap[b]? = some (.cells cs T fz)) (hi : cs[i]? = some v) : W.cell? ⟨b, i, none⟩ = some v := by simp only [World.cell?, h]; simpa using hi
theorem loop20 (t0 t1 t2 t3 t4 t5 t6 t10 t11 t12 t13 t14 t15 t16 t17 t18 t19 t20 t21 t22 t23 t24 t25 t26 t27 t28 t29 t30 t31 t32 t33 t34 t35 t36 t37 t38 t39 t40 t41 t42 t43 t44 t45 t46 t47 t48 t49 t50 t51 t52 t53 t54 t55 t56 t57 t58 t59 t60 t61 t62 t63 t64 t65 t66 t67 t68 t70 t71 t72 t73 : Value) (ds : List Deferred) (w : World) (BV B7 B8 B9 : Nat) (T8 T9 : TypeId) (v : VW) (r : RP) (hv : v.2.2.2.1 = [] ∨ v.2.2.2.1.length = 10) (hl : v.2.2.2.1.length ≤ lim) (hg : GR w)
  (hBV : BV < w.heap.size) (hB7 : B7 < w.heap.size) (hB8 : B8 < w.heap.size) (hB9 : B9 < w.heap.size) (h89 : B8 ≠ B9)
  (b0 : w.cell? ⟨BV, 0, none⟩ = some (.int .i64 v.1)) (b1 : w.cell? ⟨BV, 1, none⟩ = some (.int .i64 v.2.1)) (b2 : w.cell? ⟨BV, 2, none⟩ = some (.int .i64 v.2.2.1)) (b3 : w.cell? ⟨BV, 3, none⟩ = some (.string ⟨v.2.2.2.1.toArray⟩))
  (r0 : w.cell? ⟨B7, 0, none⟩ = some (.int .i64 r.1)) (r1 : w.cell? ⟨B7, 1, none⟩ = some (.bool r.2.1)) (r2 : w.cell? ⟨B7, 2, none⟩ = some (.string ⟨r.2.2.1.toArray⟩))
  (h8 : w.heap[B8]? = some (.cells #[.int .i64 0] T8 (0, 0))) (h9 : w.heap[B9]? = some (.cells #[.bool false] T9 (0, 0)))
  (Q : Exit → Act → World → Prop)
  (hQ : ∀ (a' : Act) (W : World) (D : Nat) (c : Int) (ok : Bool), (if r ∈ faultsV v then (c, ok) = (1, true) else (c, ok) = (0, false)) → a'.tmps.size = 74 → a'.defers = { target := .collected D, args := #[] } :: ds → a'.tmps[8]? = some (.pointer (some ⟨B8, 0, none⟩)) → a'.tmps[9]? = some (.pointer (some ⟨B9, 0, none⟩)) →
   w.heap.size ≤ D → W.heap[D]? = some (.deferred (some [])) → KX w B8 B9 W → W.heap[B8]? = some (.cells #[.int .i64 c] T8 (0, 0)) → W.heap[B9]? = some (.cells #[.bool ok] T9 (0, 0)) → Q .ret a' W) :
  K20.wpIn Fence.wide 4 Tryd.prog (Exit.then (fun a w => Z20.wpIn Fence.wide 4 Tryd.prog Q a w) Q) { tmps := #[t0, t1, t2, t3, t4, t5, t6, .pointer (some ⟨B7, 0, none⟩), .pointer (some ⟨B8, 0, none⟩), .pointer (some ⟨B9, 0, none⟩), t10, t11, t12, t13, t14, t15, t16, t17, t18, t19, t20, t21, t22, t23, t24, t25, t26, t27, t28, t29, t30, t31, t32, t33, t34, t35, t36, t37, t38, t39, t40, t41, t42, t43, t44, t45, t46, t47, t48, t49, t50, t51, t52, t53, t54, t55, t56, t57, t58, t59, t60, t61, t62, t63, t64, t65, t66, t67, t68, .func (.func 55) #[] #[.pointer (some ⟨BV, 0, none⟩)], t70, t71, t72, t73], defers := ds } w := by
 simp only [K20, Z20, C20, c20, Tryd.f20, Option.getD_some, rgt, lft]
 gi_wp2
 refine wpIn_rangeFunc_ownH (F := Fence.wide) (n := 4) rfl (by omega) (gf := 55) (lb := #[.pointer (some ⟨BV, 0, none⟩)]) rfl trivial (enters_of Tryd.func55 (by kernel_rfl) rfl)
  (faulty_stops (4 - 1) (by omega) w BV v hv hl hg hBV b0 b1 b2 b3) belowK_t (belowK_b (Nat.le_refl _)) (Below.refl _ _) (fun _ => rfl)
  (fun pre W => (∀ y ∈ pre, y ≠ r) ∧ Below w.heap.size w W)
  (fun c pre W => c = .ret ∧ r ∈ pre ∧ KX w B8 B9 W ∧ W.heap[B8]? = some (.cells #[.int .i64 1] T8 (0, 0)) ∧ W.heap[B9]? = some (.cells #[.bool true] T9 (0, 0)))
  (OwnFrom.and (ownFrom_pure _ _) (ownFrom_below (Nat.le_refl _) (Nat.le_refl _)))
  (fun c s W W' row hs hg hr => ⟨hs.1, hs.2.1, kx_grown hs.2.2.1 hg fun k e => (hr k e).1, heap_grown hB8 hs.2.2.1.size hs.2.2.2.1 hg fun k e => (hr k e).1, heap_grown hB9 hs.2.2.1.size hs.2.2.2.2 hg fun k e => (hr k e).1⟩)
  ⟨by simp, Below.refl _ _⟩
  (fun x a' W => ∃ Bx, w.heap.size ≤ Bx ∧ W.cell? ⟨Bx, 0, none⟩ = some (.int .i64 x.1) ∧ W.cell? ⟨Bx, 1, none⟩ = some (.bool x.2.1) ∧ W.cell? ⟨Bx, 2, none⟩ = some (.string ⟨x.2.2.1.toArray⟩) ∧ a' = { tmps := #[t0, t1, t2, t3, t4, t5, t6, .pointer (some ⟨B7, 0, none⟩), .pointer (some ⟨B8, 0, none⟩), .pointer (some ⟨B9, 0, none⟩), t10, t11, .pointer (some ⟨Bx, 0, none⟩), t13, t14, t15, t16, t17, t18, t19, t20, t21, t22, t23, t24, t25, t26, t27, t28, t29, t30, t31, t32, t33, t34, t35, t36, t37, t38, t39, t40, t41, t42, t43, t44, t45, t46, t47, t48, t49, t50, t51, t52, t53, t54, t55, t56, t57, t58, t59, t60, t61, t62, t63, t64, t65, t66, t67, t68, .func (.func 55) #[] #[.pointer (some ⟨BV, 0, none⟩)], rv x, t71, t72, t73], defers := [] })
  (fun x a' => Own.from (fun s A B row hs hg hr => by
   obtain ⟨Bx, hx, c0, c1, c2, e⟩ := hs
   exact ⟨Bx, hx, cell_kept c0 hg hr, cell_kept c1 hg hr, cell_kept c2 hg hr, e⟩) _) ?assign ?body ?done ?stop
 case assign =>
  rintro l pre x W K ⟨hne, hB⟩ hK
  unfold rv
  gi_wp2
  have hc := World.alloc_heap_new W (.cells #[Value.int IntKind.i64 x.1, Value.bool x.2.1, Value.string ⟨x.2.2.1.toArray⟩] 50)
  exact hK _ _ ((KeepsOthers.alloc _ _).from _) ((Below.refl _ W).alloc hB.size _) ⟨hne, hB.alloc hB.size _⟩
   ⟨W.heap.size, hB.size, cell_at hc rfl, cell_at hc rfl, cell_at hc rfl, rfl⟩
 case body =>
  rintro l pre x a' W hl' ⟨q0, hq0⟩ ⟨hne, hB⟩ ⟨Bx, hBx, c0, c1, c2, rfl⟩ hlt
  have p0 := (hB.cell (p := ⟨B7, 0, none⟩) hB7).trans r0
  have p1 := (hB.cell (p := ⟨B7, 1, none⟩) hB7).trans r1
  have p2 := (hB.cell (p := ⟨B7, 2, none⟩) hB7).trans r2
  have g8 := (hB.block B8 hB8).trans h8
  have g9 := (hB.block B9 hB9).trans h9
  obtain ⟨e8, f8⟩ := hc1 g8
  have g9' := (hset_ne (u := .int .i64 1) h89).trans g9
  obtain ⟨e9, f9⟩ := hc1 g9'
  gi_wp2
  ·rename_i x1 x2 x3
   have hx : x = r := Prod.ext x1 (Prod.ext x2 (Prod.ext x3 rfl))
   subst hx
   exact ⟨((KeepsOthers.setCell W _ _).trans (KeepsOthers.setCell _ _ _)).from _, rfl, List.mem_append.2 (.inr (by simp)), kx_set (kx_set (kx_of hB) (.inl rfl) _) (.inr rfl) _, by rw [hset_ne (Ne.symm h89)]; exact hset g8, hset g9'⟩
  ·rename_i x1 x2 x3
   exact ⟨(KeepsOthers.refl _).from _, Below.refl _ _, fun y hy => (List.mem_append.1 hy).elim (hne y) fun e e' => by simp only [List.mem_singleton] at e; subst e; subst e'; exact x3 rfl, hB⟩
  ·rename_i x1 x2
   exact ⟨(KeepsOthers.refl _).from _, Below.refl _ _, fun y hy => (List.mem_append.1 hy).elim (hne y) fun e e' => by simp only [List.mem_singleton] at e; subst e; subst e'; exact x2 rfl, hB⟩
  ·rename_i x1
   exact ⟨(KeepsOthers.refl _).from _, Below.refl _ _, fun y hy => (List.mem_append.1 hy).elim (hne y) fun e e' => by simp only [List.mem_singleton] at e; subst e; subst e'; exact x1 rfl, hB⟩
 case done =>
  rintro D ys W hD rfl ⟨hne, hB⟩ hK
  have g8 := (hB.block B8 hB8).trans h8
  have g9 := (hB.block B9 hB9).trans h9
  obtain ⟨e8, f8⟩ := hc1 g8
  have g9' := (hset_ne (u := .int .i64 0) h89).trans g9
  obtain ⟨e9, f9⟩ := hc1 g9'
  gi_wp2
  have hno : ¬ r ∈ faultsV v := fun h => hne r h rfl
  have hne8 : B8 ≠ D := by omega
  have hne9 : B9 ≠ D := by omega
  exact hQ _ _ D 0 false (by rw [if_neg hno]) rfl rfl rfl rfl hD (by rw [hset_ne hne9, hset_ne hne8]; exact hK) (kx_set (kx_set (kx_of hB) (.inl rfl) _) (.inr rfl) _) (by rw [hset_ne (Ne.symm h89)]; exact hset g8) (hset g9')
 case stop =>
  rintro D c pre W hD hpre ⟨rfl, hin, hkx, g8, g9⟩ hK
  gi_wp2
  exact hQ _ _ D 1 true (by rw [if_pos (hpre.subset hin)]) rfl rfl rfl rfl hD hK hkx g8 g9
end Go.Proofs.YtjpikgfknnamjaaDoor
