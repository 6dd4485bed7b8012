import Derived.Test.YtjpikgfknnamjaaDoorHe
open Go Go.Proofs Go.Abs Go.RowKit
set_option linter.unusedVariables false
set_option maxRecDepth 100000
namespace Go.Proofs.YtjpikgfknnamjaaDoor
theorem wpIn_to {c : Code} {Q : Exit → Act → World → Prop} {a : Act} {w : World} (h : c.wpIn Fence.wide 4 Tryd.prog Q a w) : c.wpIn (FR none) 0 Tryd.prog Q a w := fun b k cs hro hb _ => h b k cs hro hb (fun _ h => by cases h)
theorem defx_more {n D B8 B9 : Nat} {a a' : Act} {w W : World} {c8 c9 : Array Value} {T8 T9 : TypeId} {z8 z9 : Nat × Nat} (h : DefX n a w) (hn : n ≤ w.heap.size) (hd : a'.defers = { target := .collected D, args := #[] } :: a.defers) (hD : w.heap.size ≤ D) (hK : W.heap[D]? = some (.deferred (some [])))
  (kx : KX w B8 B9 W) (h8 : w.heap[B8]? = some (.cells c8 T8 z8)) (h9 : w.heap[B9]? = some (.cells c9 T9 z9)) : DefX n a' W := by
 obtain ⟨X, h1, h2, h3⟩ := h
 have lt : ∀ b ∈ X, b < w.heap.size := fun b hb => (Array.getElem?_eq_some_iff.1 (h3 b hb).2).1
 refine ⟨D :: X, by rw [hd, h1]; rfl, List.nodup_cons.2 ⟨fun hm => ?_, h2⟩, fun b hb => ?_⟩
 ·have := lt D hm; omega
 ·rcases List.mem_cons.1 hb with rfl | hb
  ·exact ⟨Nat.le_trans hn hD, hK⟩
  ·refine ⟨(h3 b hb).1, ?_⟩
   rw [kx.block b (lt b hb) (fun e => ?_) (fun e => ?_)]
   ·exact (h3 b hb).2
   ·have := (h3 b hb).2; rw [e, h8] at this; cases this
   ·have := (h3 b hb).2; rw [e, h9] at this; cases this
section
variable {w0 : World} {D0 : Abs.Names}
theorem tail20 (hD0 : PinsOk [] D0) (z : P20.T) (hz8 : z.2.2.2.2.2.1.1 = 0) (hz9 : z.2.2.2.2.2.2.1.1 = false) (v : VW) (r : RP) (hv : v.2.2.2.1 = [] ∨ v.2.2.2.1.length = 10) (res : g20.R) (rep : RP) (hrep : z.2.2.2.2.1 = rep)
  (hres : if rep ∈ faultsV v then res = ((1, true, ()), ()) else res = ((0, false, ()), ())) (a : Act) (w : World) (hd : DefX w0.heap.size a w) (hs : Sat w0 D0.N D0 ((S20 0 z v r).st 74) (ext #[] a) w) :
  K20.wpIn (FR none) 0 Tryd.prog (Exit.then (fun a w => Z20.wpIn (FR none) 0 Tryd.prog (BodyEnd Tryd.prog Tryd.f20 g20 res w0 D0) a w) (BodyEnd Tryd.prog Tryd.f20 g20 res w0 D0)) a w := by
 obtain ⟨_, D, hm, he, hp⟩ := hs
 have hno : ∀ b, ¬ Names.N D0 b := fun b ⟨n, hn, h⟩ => by
  have := hD0 n hn (by rw [h]; rfl)
  cases this
 obtain ⟨B7, d7, t7⟩ := box_ref hm he (i := 7) (by decide) (st7 z v r)
 obtain ⟨B8, d8, t8⟩ := box_ref hm he (i := 8) (by decide) (st8 z v r)
 obtain ⟨B9, d9, t9⟩ := box_ref hm he (i := 9) (by decide) (st9 z v r)
 have s69 := at_slot he (i := 69) (by decide)
 rw [st69] at s69
 obtain ⟨bs, hbl, hbs, t69⟩ := s69
 match bs, hbl with
 | [BV], _ =>
 have dV : D 75 = some (some BV) := hbs 0 75 BV rfl rfl
 have hsz : a.tmps.size = 74 := by have := he.1; simpa [ext, extd, SS.st] using this
 have hg : GR w := GlobRep.mono hm.glob ⟨Nat.le_refl _, fun _ _ _ => rfl⟩ fun b _ h => absurd h (nn_M b)
 obtain ⟨vs, TV, hV, lV, cV⟩ := hm.rep 75 _ _ (ob75 z v r) dV
 obtain ⟨vs7, T7, h7, l7, c7⟩ := hm.rep 500007 _ _ (ob7 z v r) d7
 obtain ⟨vs8, T8, h8, l8, c8⟩ := hm.rep 500008 _ _ (ob8 z v r) d8
 obtain ⟨vs9, T9, h9, l9, c9⟩ := hm.rep 500009 _ _ (ob9 z v r) d9
 rw [hz8] at c8
 rw [hz9] at c9
 match vs, lV, vs7, l7, vs8, l8, vs9, l9 with
 | [x0, x1, x2, x3], _, [y0, y1, y2], _, [e8], _, [e9], _ =>
 have i0 : Imm w D.M (.int .i64 v.1) x0 := (cV 0 _ rfl).1
 have i1 : Imm w D.M (.int .i64 v.2.1) x1 := (cV 1 _ rfl).1
 have i2 : Imm w D.M (.int .i64 v.2.2.1) x2 := (cV 2 _ rfl).1
 have i3 : Imm w D.M (.str v.2.2.2.1) x3 := (cV 3 _ rfl).1
 rw [hrep] at c7
 have k0 : Imm w D.M (.int .i64 rep.1) y0 := (c7 0 _ rfl).1
 have k1 : Imm w D.M (.bool rep.2.1) y1 := (c7 1 _ rfl).1
 have k2 : Imm w D.M (.str rep.2.2.1) y2 := (c7 2 _ rfl).1
 have k8 : Imm w D.M (.int .i64 0) e8 := (c8 0 _ rfl).1
 have k9 : Imm w D.M (.bool false) e9 := (c9 0 _ rfl).1
 cases i0; cases i1; cases i2; cases k0; cases k1; cases k8; cases k9
 obtain ⟨rfl, hl⟩ : x3 = .string ⟨v.2.2.2.1.toArray⟩ ∧ v.2.2.2.1.length ≤ lim := by cases i3 with | str _ hn => exact ⟨rfl, hn⟩
 obtain rfl : y2 = .string ⟨rep.2.2.1.toArray⟩ := by cases k2; rfl
 have h89 : B8 ≠ B9 := fun e => by
  subst e
  have := hm.inj _ _ _ d8 d9
  omega
 obtain ⟨tm, ds⟩ := a
 simp only at hsz t7 t8 t9 t69
 obtain ⟨f, hf⟩ : ∃ f : Nat → Value, f = fun i => tm.getD i undef := ⟨_, rfl⟩
 have ht := arr_of tm 74 hsz
 rw [← hf, lit74] at ht
 have f7 : f 7 = .pointer (some ⟨B7, 0, none⟩) := by rw [hf]; exact t7
 have f8 : f 8 = .pointer (some ⟨B8, 0, none⟩) := by rw [hf]; exact t8
 have f9 : f 9 = .pointer (some ⟨B9, 0, none⟩) := by rw [hf]; exact t9
 have f69 : f 69 = .func (.func 55) #[] #[.pointer (some ⟨BV, 0, none⟩)] := by rw [hf]; exact t69
 rw [f7, f8, f9, f69] at ht
 have main := loop20 (f 0) (f 1) (f 2) (f 3) (f 4) (f 5) (f 6) (f 10) (f 11) (f 12) (f 13) (f 14) (f 15) (f 16) (f 17) (f 18) (f 19) (f 20) (f 21) (f 22) (f 23) (f 24) (f 25) (f 26) (f 27) (f 28) (f 29) (f 30) (f 31) (f 32) (f 33) (f 34) (f 35) (f 36) (f 37) (f 38) (f 39) (f 40) (f 41) (f 42) (f 43) (f 44) (f 45) (f 46) (f 47) (f 48) (f 49) (f 50) (f 51) (f 52) (f 53) (f 54) (f 55) (f 56) (f 57) (f 58) (f 59) (f 60) (f 61) (f 62) (f 63) (f 64) (f 65) (f 66) (f 67) (f 68) (f 70) (f 71) (f 72) (f 73) ds w BV B7 B8 B9 T8 T9 v rep hv hl hg (hm.lt _ ⟨75, dV⟩) (hm.lt _ ⟨500007, d7⟩) (hm.lt _ ⟨500008, d8⟩) (hm.lt _ ⟨500009, d9⟩) h89
  (cell_at hV rfl) (cell_at hV rfl) (cell_at hV rfl) (cell_at hV rfl) (cell_at h7 rfl) (cell_at h7 rfl) (cell_at h7 rfl) h8 h9 (BodyEnd Tryd.prog Tryd.f20 g20 res w0 D0)
  (fun a' W Dd c ok hc hs' hdf q8 q9 hDd hK kx g8 g9 => by
   have hr : res = ((c, ok, ()), ()) := by
    split at hc
    ·rename_i hin
     rw [if_pos hin] at hres
     rw [hres]
     simp only [Prod.mk.injEq] at hc
     rw [hc.1, hc.2]
    ·rename_i hin
     rw [if_neg hin] at hres
     rw [hres]
     simp only [Prod.mk.injEq] at hc
     rw [hc.1, hc.2]
   subst hr
   exact fin_leaves (fs := ⟨[(8, .v (.c (.ref 500008 1 0 0))), (9, .v (.c (.ref 500009 1 0 0)))], [(500008, .box [.k (.int .i64 c)]), (500009, .box [.k (.bool ok)])]⟩) good rfl (by kernel_rfl) hD0 (defx_more hd hm.grow.size hdf hDd hK kx h8 h9) (fin20 c ok) (end20 hno hD0 hm hp d8 d9 hs' q8 q9 kx g8 g9))
 rw [← ht] at main
 refine Code.wpIn_mono ?_ (wpIn_to main)
 intro e a' w' h
 cases e with
 | normal => exact wpIn_to h
 | _ => exact h
end
end Go.Proofs.YtjpikgfknnamjaaDoor
