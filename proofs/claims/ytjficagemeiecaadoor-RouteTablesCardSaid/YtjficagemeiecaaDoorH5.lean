/- Exit: its contract. -/
import Derived.Test.YtjficagemeiecaaDoorH4
open Go Go.Proofs Go.Abs Go.RowKit Go.Shelf Go.Deep
set_option linter.unusedVariables false
set_option maxRecDepth 100000
set_option maxHeartbeats 4000000
namespace Go.Proofs.YtjficagemeiecaaDoor
def exP (l : Ty4) (b : BrV) (t f : Nat) (x : Int × Unit) : Bool := goV l f x.1.toNat t && (decide (0 ≤ distV l b t f) && (decide (0 ≤ distV l b t x.1.toNat) && decide (distV l b t x.1.toNat + (ndV l f).2.2.1 = distV l b t f)))
theorem exitV_at {l : Ty4} {b : BrV} {t f k : Nat} {x : Int × Unit} (h : ∀ k' < k, ∀ y, (ndV l f).2.2.2.2.1[k']? = some y → exP l b t f y = false) (hx : (ndV l f).2.2.2.2.1[k]? = some x) (hp : exP l b t f x = true) : exitV l b t f = k := by
  have e : (ndV l f).2.2.2.2.1.findIdx? (exP l b t f) = some k := by
    obtain ⟨hk, rfl⟩ := List.getElem?_eq_some_iff.1 hx
    exact List.findIdx?_eq_some_iff_getElem.2 ⟨hk, hp, fun j hj => by rw [h j hj _ (List.getElem?_eq_getElem (by omega))]; simp⟩
  have e2 : exitV l b t f = match (ndV l f).2.2.2.2.1.findIdx? (exP l b t f) with | some k => (k : Int) | none => (-1 : Int) := rfl
  rw [e2, e]
theorem exitV_none {l : Ty4} {b : BrV} {t f : Nat} (h : ∀ k' < (ndV l f).2.2.2.2.1.length, ∀ y, (ndV l f).2.2.2.2.1[k']? = some y → exP l b t f y = false) : exitV l b t f = -1 := by
  have e : (ndV l f).2.2.2.2.1.findIdx? (exP l b t f) = none := List.findIdx?_eq_none_iff.2 fun x hx => by
    obtain ⟨k, hk, rfl⟩ := List.getElem_of_mem hx
    rw [h k hk _ (List.getElem?_eq_getElem hk)]
  have e2 : exitV l b t f = match (ndV l f).2.2.2.2.1.findIdx? (exP l b t f) with | some k => (k : Int) | none => (-1 : Int) := rfl
  rw [e2, e]
section
variable {w : World} {l : Ty4} {b : BrV} {lv bv : Value}
theorem kc14 (hg : GR w) (hl : Slot w NN (.agg (ty4.avs l)) lv) (hb : BrAt w b bv) (f t : Int) {a : Bool} (hs : sp27 (l, f, t, ()) = some (a, ())) (hw : a = true → f ≠ t → WayV l f t) :
    Calls Tryd.prog 14 #[lv, bv, .int .i64 f, .int .i64 t] w fun e w' => e = .returned (.int .i64 (if a = false then -1 else if f = t then -1 else exitV l b t.toNat f.toNat)) ∧ Below w.heap.size w w' := by
  have hla := layAt_of hl
  obtain ⟨na, nc, dv, rfl, hncap, hnlim, hnd⟩ := hla.ex
  obtain ⟨ba, bc, rfl, hbcap, hblim, hbd⟩ := hb.ex
  have lim0 : lim = 140737488355328 := rfl
  have Hl := hidJ hl
  have Hb := hidJ hb
  have Hnd := hidJ hnd
  clear hl hb hnd hbd hla
  go_enter Tryd.func14, Tryd.ntmps14
  have hw0 : Below w.heap.size w (w.alloc (.cells #[.slice na l.1.length nc, dv] 25)) := (Below.refl _ _).alloc (Nat.le_refl _) _
  have c0 := (row_two w (.slice na l.1.length nc) dv 25).cell (i := 0) (by omega)
  have c1 := (row_two w (.slice na l.1.length nc) dv 25).cell (i := 1) (by omega)
  have hsz : (w.alloc (.cells #[.slice na l.1.length nc, dv] 25)).heap.size = w.heap.size + 1 := by simp
  cases a with
  | false =>
    go_wp2_with (
      go_at_call 27
      refine (kc27 (GR.below hg (Nat.le_refl _) hw0) (slot_below Hl.out hw0) _ _ hs).mono ?_
      rintro e w1 ⟨rfl, hw1⟩
      have d0 := (hw1.cell (p := ⟨w.heap.size, 0, none⟩) (by rw [hsz]; exact Nat.lt_succ_self _)).trans c0
      have d1 := (hw1.cell (p := ⟨w.heap.size, 1, none⟩) (by rw [hsz]; exact Nat.lt_succ_self _)).trans c1
      have hw01 : Below w.heap.size w w1 := hw0.trans (hw1.mono (by rw [hsz]; exact Nat.le_succ _))
      rw [if_pos rfl] at d0
      rw [if_neg (by decide)] at d1)
    go_ret
    exact ⟨rfl, hw01⟩
  | true =>
    by_cases hft : f = t
    · subst hft
      clear hw
      go_wp2_with (
        go_at_call 27
        refine (kc27 (GR.below hg (Nat.le_refl _) hw0) (slot_below Hl.out hw0) _ _ hs).mono ?_
        rintro e w1 ⟨rfl, hw1⟩
        have d0 := (hw1.cell (p := ⟨w.heap.size, 0, none⟩) (by rw [hsz]; exact Nat.lt_succ_self _)).trans c0
        have d1 := (hw1.cell (p := ⟨w.heap.size, 1, none⟩) (by rw [hsz]; exact Nat.lt_succ_self _)).trans c1
        have hw01 : Below w.heap.size w w1 := hw0.trans (hw1.mono (by rw [hsz]; exact Nat.le_succ _))
        rw [if_pos rfl] at d0
        rw [if_neg (by decide)] at d1)
      go_ret
      exact ⟨rfl, hw01⟩
    have Hw := hidJ (hw rfl hft)
    clear hw
    obtain ⟨i, rfl⟩ : ∃ i : Nat, f = i := ⟨f.toNat, by have := Hw.out.2.2.1; omega⟩
    obtain ⟨t, rfl⟩ : ∃ j : Nat, t = j := ⟨t.toNat, by have := Hw.out.2.2.2.2.1; omega⟩
    have hi : i < l.1.length := by have := Hw.out.2.2.2.1; omega
    have ht : t < l.1.length := by have := Hw.out.2.2.2.2.2; omega
    have HL := hidJ Hw.out.1
    have HR : Hid (RkV l t) := Hw.out.2.1
    have hn1000 := HL.out.n
    have hlen := HL.out.len i hi
    rw [if_neg (by simp), if_neg hft, Int.toNat_natCast, Int.toNat_natCast]
    have hft' : ((i : Int) == (t : Int)) = false := by simpa using hft
    go_wp2_with (
      go_at_call 27
      refine (kc27 (GR.below hg (Nat.le_refl _) hw0) (slot_below Hl.out hw0) _ _ hs).mono ?_
      rintro e w1 ⟨rfl, hw1⟩
      have d0 := (hw1.cell (p := ⟨w.heap.size, 0, none⟩) (by rw [hsz]; exact Nat.lt_succ_self _)).trans c0
      have d1 := (hw1.cell (p := ⟨w.heap.size, 1, none⟩) (by rw [hsz]; exact Nat.lt_succ_self _)).trans c1
      have hw01 : Below w.heap.size w w1 := hw0.trans (hw1.mono (by rw [hsz]; exact Nat.le_succ _))
      rw [if_pos rfl] at d0
      rw [if_neg (by decide)] at d1)
    refine (ways w1 _ na ba nc b.length bc dv hn1000).mono ?_
    rintro e w2 ⟨rw, q, rfl, hC⟩
    have HC := hidJ hC
    clear hC
    unfold fnV
    go_wp2_with fail
    have hg1 := GR.below hg (Nat.le_refl _) hw01
    have Hb1 := hidJ (brAt_below Hb.out hw01)
    have Hl1 := hidJ (slot_below Hl.out hw01)
    refine (way hg1 Hl1.out Hb1.out HL.out HR.out hi ht HC.out (goodM0 _)).mono ?_
    rintro e w3 ⟨rfl, M3, hC3, hM3, _⟩
    clear HC
    have HC3 := hidJ hC3
    have HM3 := hidJ hM3
    clear hC3 hM3
    obtain ⟨nb, no, ea, ec, rfl, hnb, hn2, hn4, hec, hel, hex⟩ := Hnd.out i hi
    have Hex := hidJ hex
    have hdist := distV_le (b := b) (t := t) HL.out hi
    clear hex Hnd
    have hlt1 : w.heap.size < w1.heap.size := by have := hw1.size; rw [hsz] at this; omega
    have f0 := (HC3.out.bx.below.cell (p := ⟨w.heap.size, 0, none⟩) hlt1).trans d0
    have f1 := (HC3.out.bx.below.cell (p := ⟨w.heap.size, 1, none⟩) hlt1).trans d1
    have n4 := ((hw01.trans (HC3.out.bx.below.mono hw01.size)).cell (p := ⟨nb, no + i * 5 + 4, none⟩) hnb).trans hn4
    go_wp2_with fail
    clear f0 f1 n4
    go_loopw [38] (fun p wr => ∃ (k : Nat) (M' : Nat → Nat → Int), k ≤ (ndV l i).2.2.2.2.1.length ∧ p = .int .i64 (k : Int) ∧ Hid (∀ k' < k, ∀ y, (ndV l i).2.2.2.2.1[k']? = some y → exP l b t i y = false) ∧ Hid (Cl w1 w1.heap.size l.1.length (some ⟨nb, no, none⟩) nc dv (.slice ba b.length bc) rw q M' wr) ∧ Hid (GoodM l b l.1.length M')) (fun p _ => (ndV l i).2.2.2.2.1.length - (intOf p).toNat)
    case atStart => exact ⟨0, M3, Nat.zero_le _, rfl, hidJ fun k' h => absurd h (Nat.not_lt_zero _), HC3, HM3⟩
    case round =>
      obtain ⟨k, M1, hk1, rfl, HP, HC1, HM1⟩ := hrel
      clear HC3 HM3
      have f0 := (HC1.out.bx.below.cell (p := ⟨w.heap.size, 0, none⟩) hlt1).trans d0
      have f1 := (HC1.out.bx.below.cell (p := ⟨w.heap.size, 1, none⟩) hlt1).trans d1
      by_cases hke : k < (ndV l i).2.2.2.2.1.length
      · obtain ⟨x, hx⟩ : ∃ x, (ndV l i).2.2.2.2.1[k]? = some x := ⟨_, List.getElem?_eq_getElem hke⟩
        obtain ⟨xb, xo, rfl, hxb, hxc⟩ := Hex.out k x hx
        have hwr : Below w.heap.size w wr := hw01.trans (HC1.out.bx.below.mono hw01.size)
        have x0 := (hwr.cell (p := ⟨xb, xo + k, none⟩) hxb).trans hxc
        have hxm := List.mem_of_getElem? hx
        obtain ⟨j, hj⟩ : ∃ j : Nat, x.1 = j := ⟨x.1.toNat, by have := HL.out.ex i hi x hxm; omega⟩
        have hjl : j < l.1.length := by have := HL.out.ex i hi x hxm; omega
        have hdk := distV_le (b := b) (t := t) HL.out hjl
        have Hx := hidJ hx
        have Hj := hidJ hj
        have Hnext : Hid (exP l b t i x = false → ∀ k' < k + 1, ∀ y, (ndV l i).2.2.2.2.1[k']? = some y → exP l b t i y = false) := hidJ fun he k' hk' y hy => by
          rcases Nat.lt_succ_iff_lt_or_eq.1 hk' with h | h
          · exact HP.out k' h y hy
          · rw [h, hx] at hy; cases hy; exact he
        rw [hj] at x0
        have Hexp : Hid (exP l b t i x = (goV l i j t && (decide (0 ≤ distV l b t i) && (decide (0 ≤ distV l b t j) && decide (distV l b t j + (ndV l i).2.2.1 = distV l b t i))))) := by
          show exP l b t i x = _
          unfold exP; rw [hj, Int.toNat_natCast]
        clear hx hxc hj hxm
        by_cases hneg : distV l b t i < 0
        · go_wp2_with fail
          go_roundw
          case rel => exact ⟨k + 1, M1, hke, by simp, hidJ (Hnext.out (by rw [Hexp.out, decide_eq_false (show ¬ 0 ≤ distV l b t i by omega)]; simp)), HC1, HM1⟩
          case measure => simp [intOf]; omega
        · by_cases hgo : goV l i j t = true
          · have Hgo := hidJ hgo
            clear hgo
            go_wp2_with (
              go_at_call 31
              refine (kc31 (GR.below hg (Nat.le_refl _) hwr) (slot_below Hl.out hwr) hjl).mono ?_
              rw [Hgo.out]
              rintro e w4 ⟨rfl, hw4⟩
              have HC4 := hidJ (HC1.out.below hw4)
              clear f0 f1)
            refine (way hg1 Hl1.out Hb1.out HL.out HR.out hjl ht HC4.out HM1.out).mono ?_
            rintro e w5 ⟨rfl, M5, hC5, hM5, _⟩
            have HC5 := hidJ hC5
            have HM5 := hidJ hM5
            clear hC5 hM5
            have g0 := (HC5.out.bx.below.cell (p := ⟨w.heap.size, 0, none⟩) hlt1).trans d0
            have g1 := (HC5.out.bx.below.cell (p := ⟨w.heap.size, 1, none⟩) hlt1).trans d1
            have g2 := ((hw01.trans (HC5.out.bx.below.mono hw01.size)).cell (p := ⟨nb, no + i * 5 + 2, none⟩) hnb).trans hn2
            by_cases e1 : 0 ≤ distV l b t j
            case' pos => by_cases e2 : distV l b t j + (ndV l i).2.2.1 = distV l b t i
            · have Hk := hidJ (exitV_at HP.out Hx.out (by rw [Hexp.out, Hgo.out, decide_eq_true e1, decide_eq_true e2, decide_eq_true (show 0 ≤ distV l b t i by omega)]; rfl))
              have Hw5 := hidJ (hw01.trans (HC5.out.bx.below.mono hw01.size))
              have e2' : (distV l b t j + (ndV l i).2.2.1 == distV l b t i) = true := by simpa using e2
              clear e2
              go_wp2_with fail
              go_ret
              exact ⟨by rw [Hk.out]; rfl, Hw5.out⟩
            all_goals (
              have He := hidJ (Hnext.out (by
                rw [Hexp.out, Hgo.out]
                first
                  | (rw [decide_eq_false e1]; simp; done)
                  | (rw [decide_eq_false e2]; simp)))
              try have e2' : (distV l b t j + (ndV l i).2.2.1 == distV l b t i) = false := by simpa using e2
              go_wp2_with fail
              go_roundw
              case rel => exact ⟨k + 1, M5, hke, by simp, He, HC5, HM5⟩
              case measure => simp [intOf]; omega)
          · have Hgo := hidJ (show goV l i j t = false by simpa using hgo)
            clear hgo
            go_wp2_with (
              go_at_call 31
              refine (kc31 (GR.below hg (Nat.le_refl _) hwr) (slot_below Hl.out hwr) hjl).mono ?_
              rw [Hgo.out]
              rintro e w4 ⟨rfl, hw4⟩
              have HC4 := hidJ (HC1.out.below hw4)
              clear f0 f1)
            go_roundw
            case rel => exact ⟨k + 1, M1, hke, by simp, hidJ (Hnext.out (by rw [Hexp.out, Hgo.out]; simp)), HC4, HM1⟩
            case measure => simp [intOf]; omega
      · obtain rfl : k = (ndV l i).2.2.2.2.1.length := by omega
        have He := hidJ (exitV_none HP.out)
        have Hw5 := hidJ (hw01.trans (HC1.out.bx.below.mono hw01.size))
        go_wp2_with fail
        go_ret
        exact ⟨by rw [He.out]; rfl, Hw5.out⟩
end
open Classical in
theorem tc14 : TC Tryd.prog 14 ⟨g14, sp14⟩ := by
  rintro ⟨l, b, f, t, ⟨⟩⟩ r h
  obtain ⟨⟨a, ⟨⟩⟩, ha, h⟩ := Option.bind_eq_some_iff.1 (show (sp27 (l, f, t, ())).bind _ = some r from h)
  intro w D vs hm hv
  obtain ⟨lv, bv, rfl, hl, hb⟩ := args4 hm hv
  have key : (a = true → f ≠ t → WayV l f t) ∧ r = ((if a = false then -1 else if f = t then -1 else exitV l b t.toNat f.toNat), ()) := by
    cases a with
    | false => cases h; exact ⟨by simp, rfl⟩
    | true =>
      simp only [Bool.true_eq_false, if_false] at h ⊢
      by_cases hft : f = t
      · rw [if_pos hft] at h ⊢
        cases h
        exact ⟨fun _ h => absurd hft h, rfl⟩
      · rw [if_neg hft] at h ⊢
        split at h
        · rename_i hw; cases h; exact ⟨fun _ _ => hw, rfl⟩
        · cases h
  obtain ⟨k1, rfl⟩ := key
  exact (kc14 (gr_of hm) hl hb f t ha k1).mono fun e w' ⟨he, hbel⟩ => ⟨_, D, he, mem_below hm hbel, Imm.int _ _, fun _ _ h => h⟩
end Go.Proofs.YtjficagemeiecaaDoor
