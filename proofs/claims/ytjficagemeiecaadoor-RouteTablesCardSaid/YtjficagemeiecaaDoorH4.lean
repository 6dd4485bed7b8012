/- Distance: its contract. -/
import Derived.Test.YtjficagemeiecaaDoorH3
open Go Go.Proofs Go.Abs Go.RowKit Go.Shelf Go.Deep
set_option linter.unusedVariables false
set_option maxRecDepth 100000
set_option maxHeartbeats 4000000
namespace Go.Proofs.YtjficagemeiecaaDoor
theorem slot_nn {w : World} {D : Abs.Names} {l : Ty4} {v : Value} (h : Slot w D (.agg (ty4.avs l)) v) : Slot w NN (.agg (ty4.avs l)) v := by
  obtain ⟨vs, rfl, hl, hc⟩ := h
  refine ⟨vs, rfl, hl, fun i x hx => ?_⟩
  match i, hx with
  | 0, hx => cases hx; exact ⟨imm_nn (D := D) (hc 0 _ rfl).1 (Below.refl _ _), (hc 0 _ rfl).2⟩
  | 1, hx => cases hx; exact ⟨imm_nn (D := D) (hc 1 _ rfl).1 (Below.refl _ _), (hc 1 _ rfl).2⟩
theorem gr_of {w : World} {D : Abs.Names} (hm : Mem w D.N [] D w) : GR w := GlobRep.mono hm.glob ⟨Nat.le_refl _, fun _ _ _ => rfl⟩ fun b _ h => absurd h (nn_M b)
theorem mem_below {w w' : World} {D : Abs.Names} (h : Mem w D.N [] D w) (b : Below w.heap.size w w') : Mem w D.N [] D w' where
  dom := h.dom
  small := h.small
  rep := fun n o d hn _ => by cases hn
  inj := h.inj
  lt := fun k hk => Nat.lt_of_lt_of_le (h.lt k hk) b.size
  own := h.own
  grow := ⟨⟨b.size, fun k hk _ => b.block k hk⟩, fun k hk => by simp only [World.row, World.shape?, b.block k hk]⟩
  os := b.os
  tape := b.tape
  output := b.output
  glob := h.glob.mono ⟨b.size, fun k hk _ => b.block k hk⟩ fun _ _ hm => hm
section
variable {w : World} {l : Ty4} {b : BrV} {lv bv : Value}
/-- the function of a way at a node, in the state that it is called in -/
theorem way {na ba : Option Addr} {nc bc : Nat} {dv : Value} {rw : Nat → Nat} {q : Nat} {W : World} {M : Nat → Nat → Int} (hg : GR w) (hl : Slot w NN (.agg (ty4.avs l)) (.agg #[.slice na l.1.length nc, dv])) (hb : BrAt w b (.slice ba b.length bc)) (hL : LenV l) {i t : Nat} (hR : RkV l t) (hi : i < l.1.length) (ht : t < l.1.length)
    (hC : Cl w w.heap.size l.1.length na nc dv (.slice ba b.length bc) rw q M W) (hM : GoodM l b l.1.length M) :
    Calls Tryd.prog 41 #[.int .i64 (i : Int), .int .i64 (t : Int), .pointer (some ⟨w.heap.size + 1 + 1 + 1, 0, none⟩), .pointer (some ⟨w.heap.size + 1, 0, none⟩), .pointer (some ⟨w.heap.size, 0, none⟩), .pointer (some ⟨q, 0, none⟩)] W fun e w' =>
      e = .returned (.int .i64 (distV l b t i)) ∧ Done w l b na nc dv (.slice ba b.length bc) rw q W w' := by
  obtain ⟨rk, h1, h2⟩ := hR
  exact closure hl hg (layAt_of hl) hb hL ⟨rk, h1, h2⟩ ht h2 _ i (Nat.lt_succ_self _) hi W M hC hM
theorem way_t {na ba : Option Addr} {nc bc : Nat} {dv : Value} {rw : Nat → Nat} {q : Nat} {W : World} {M : Nat → Nat → Int} (hg : GR w) (hl : Slot w NN (.agg (ty4.avs l)) (.agg #[.slice na l.1.length nc, dv])) (hb : BrAt w b (.slice ba b.length bc)) (hL : LenV l) {f t : Int} (hw : WayV l f t)
    (hC : Cl w w.heap.size l.1.length na nc dv (.slice ba b.length bc) rw q M W) (hM : GoodM l b l.1.length M) :
    Calls Tryd.prog 41 #[.int .i64 f, .int .i64 t, .pointer (some ⟨w.heap.size + 1 + 1 + 1, 0, none⟩), .pointer (some ⟨w.heap.size + 1, 0, none⟩), .pointer (some ⟨w.heap.size, 0, none⟩), .pointer (some ⟨q, 0, none⟩)] W fun e w' =>
      e = .returned (.int .i64 (distV l b t.toNat f.toNat)) ∧ Done w l b na nc dv (.slice ba b.length bc) rw q W w' := by
  obtain ⟨_, hR, f0, f1, t0, t1⟩ := hw
  have h := way hg hl hb hL (i := f.toNat) (t := t.toNat) hR (by omega) (by omega) hC hM
  rwa [Int.toNat_of_nonneg f0, Int.toNat_of_nonneg t0] at h
theorem goodM0 (n : Nat) : GoodM l b n fun _ _ => -2 := fun _ _ _ _ => .inl rfl
theorem brAt_below {w' : World} (h : BrAt w b bv) (k : Below w.heap.size w w') : BrAt w' b bv := by
  obtain ⟨a, cap, rfl, h1, h2, h3⟩ := h.ex
  refine ⟨a, cap, rfl, h1, h2, fun j hj => ?_⟩
  obtain ⟨bb, off, e, hb, hc⟩ := h3 j hj
  exact ⟨bb, off, e, Nat.lt_of_lt_of_le hb k.size, (k.cell (p := ⟨bb, off + j, none⟩) hb).trans hc⟩
theorem kc12 (hg : GR w) (hl : Slot w NN (.agg (ty4.avs l)) lv) (hb : BrAt w b bv) (f t : Int) {a : Bool} (hs : sp27 (l, f, t, ()) = some (a, ())) (hw : a = true → WayV l f t) :
    Calls Tryd.prog 12 #[lv, bv, .int .i64 f, .int .i64 t] w fun e w' => e = .returned (.int .i64 (if a = false then -1 else distV l b t.toNat f.toNat)) ∧ Below w.heap.size w w' := by
  obtain ⟨na, nc, dv, rfl, hncap, hnlim, hnd⟩ := (layAt_of hl).ex
  obtain ⟨ba, bc, rfl, hbcap, hblim, hbd⟩ := hb.ex
  have Hl := hidJ hl
  have Hb := hidJ hb
  clear hl hb hnd hbd
  go_enter Tryd.func12, Tryd.ntmps12
  have hw0 : Below w.heap.size w (w.alloc (.cells #[.slice na l.1.length nc, dv] 25)) := (Below.refl _ _).alloc (Nat.le_refl _) _
  have c0 := (row_two w (.slice na l.1.length nc) dv 25).cell (i := 0) (by omega)
  have c1 := (row_two w (.slice na l.1.length nc) dv 25).cell (i := 1) (by omega)
  have hsz : (w.alloc (.cells #[.slice na l.1.length nc, dv] 25)).heap.size = w.heap.size + 1 := by simp
  cases a with
  | false =>
    go_wp2_with (
      go_at_call 27
      refine (kc27 (GR.below hg (Nat.le_refl _) hw0) (slot_below Hl.out hw0) f t hs).mono ?_
      rintro e w1 ⟨rfl, hw1⟩
      have d0 := (hw1.cell (p := ⟨w.heap.size, 0, none⟩) (by rw [hsz]; exact Nat.lt_succ_self _)).trans c0
      have d1 := (hw1.cell (p := ⟨w.heap.size, 1, none⟩) (by rw [hsz]; exact Nat.lt_succ_self _)).trans c1
      have hw01 : Below w.heap.size w w1 := hw0.trans (hw1.mono (by rw [hsz]; exact Nat.le_succ _))
      rw [if_pos rfl] at d0
      rw [if_neg (by decide)] at d1)
    go_ret
    exact ⟨rfl, hw01⟩
  | true =>
    have Hw := hidJ (hw rfl)
    clear hw
    go_wp2_with (
      go_at_call 27
      refine (kc27 (GR.below hg (Nat.le_refl _) hw0) (slot_below Hl.out hw0) f t hs).mono ?_
      rintro e w1 ⟨rfl, hw1⟩
      have d0 := (hw1.cell (p := ⟨w.heap.size, 0, none⟩) (by rw [hsz]; exact Nat.lt_succ_self _)).trans c0
      have d1 := (hw1.cell (p := ⟨w.heap.size, 1, none⟩) (by rw [hsz]; exact Nat.lt_succ_self _)).trans c1
      have hw01 : Below w.heap.size w w1 := hw0.trans (hw1.mono (by rw [hsz]; exact Nat.le_succ _))
      rw [if_pos rfl] at d0
      rw [if_neg (by decide)] at d1)
    refine (ways w1 _ na ba nc b.length bc dv Hw.out.1.n).mono ?_
    rintro e w2 ⟨rw, q, rfl, hC⟩
    have HC := hidJ hC
    clear hC
    unfold fnV
    go_wp2_with fail
    refine (way_t (GR.below hg (Nat.le_refl _) hw01) (slot_below Hl.out hw01) (brAt_below Hb.out hw01) Hw.out.1 Hw.out HC.out (goodM0 _)).mono ?_
    rintro e w3 ⟨rfl, M3, hC3, _, _⟩
    have H3 := hidJ (hw01.trans (hC3.bx.below.mono hw01.size))
    clear hC3
    go_wp2_with fail
    go_ret
    exact ⟨rfl, H3.out⟩
end
theorem args4 {w : World} {D : Abs.Names} {l : Ty4} {b : BrV} {f t : Int} {vs : List Value} (hm : Mem w D.N [] D w) (h : ArgsRep w D (argsAV canon g12.args 0 (l, b, f, t, ())) vs) :
    ∃ lv bv, vs = [lv, bv, .int .i64 f, .int .i64 t] ∧ Slot w NN (.agg (ty4.avs l)) lv ∧ BrAt w b bv := by
  obtain ⟨hl, hs⟩ := h
  match vs, hl with
  | [x0, x1, x2, x3], _ =>
    have h0 : Slot w D (.agg (ty4.avs l)) x0 := hs 0 _ rfl
    have h1 : Imm w D.M ((Ty.sl (.cons .bool .nil)).av b) x1 := hs 1 _ rfl
    have h2 : Imm w D.M (.int .i64 f) x2 := hs 2 _ rfl
    have h3 : Imm w D.M (.int .i64 t) x3 := hs 3 _ rfl
    rw [imm_int h2, imm_int h3]
    exact ⟨x0, x1, rfl, slot_nn h0, brAt_of (imm_nn (D := D) h1 (Below.refl _ _))⟩
open Classical in
theorem tc12 : TC Tryd.prog 12 ⟨g12, sp12⟩ := by
  rintro ⟨l, b, f, t, ⟨⟩⟩ r h
  obtain ⟨⟨a, ⟨⟩⟩, ha, h⟩ := Option.bind_eq_some_iff.1 (show (sp27 (l, f, t, ())).bind _ = some r from h)
  intro w D vs hm hv
  obtain ⟨lv, bv, rfl, hl, hb⟩ := args4 hm hv
  have key : (a = true → WayV l f t) ∧ r = ((if a = false then -1 else distV l b t.toNat f.toNat), ()) := by
    cases a with
    | false => cases h; exact ⟨by simp, rfl⟩
    | true =>
      simp only [Bool.true_eq_false, if_false] at h
      split at h
      · rename_i hw; cases h; exact ⟨fun _ => hw, rfl⟩
      · cases h
  obtain ⟨k1, rfl⟩ := key
  exact (kc12 (gr_of hm) hl hb f t ha k1).mono fun e w' ⟨he, hbel⟩ => ⟨_, D, he, mem_below hm hbel, Imm.int _ _, fun _ _ h => h⟩
end Go.Proofs.YtjficagemeiecaaDoor
