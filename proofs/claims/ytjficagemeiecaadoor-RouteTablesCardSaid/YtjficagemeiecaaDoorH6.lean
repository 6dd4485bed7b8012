/- Reach: its contract. -/
import Derived.Test.YtjficagemeiecaaDoorH5
import Derived.Deep.AppendLies
open Go Go.Proofs Go.Abs Go.RowKit Go.Shelf Go.Deep
set_option linter.unusedVariables false
set_option maxRecDepth 100000
set_option maxHeartbeats 4000000
namespace Go.Proofs.YtjficagemeiecaaDoor
theorem owns_block {W W' : World} {B : Nat} {e : TypeId} {size n : Nat} {v : Value} {xs : List Value} (h : W.ownsRow B e size v n xs) (k : ∀ g, B ≤ g → g < W.heap.size → W'.heap[g]? = W.heap[g]?) : W'.ownsRow B e size v n xs := by
  refine ⟨h.1, ?_⟩
  rcases h.2 with h | ⟨g, cap, cur, h1, h2, h3, h4⟩
  · exact .inl h
  · refine .inr ⟨g, cap, cur, h1, h2, ?_, h4⟩
    rw [k g h2 (Array.getElem?_eq_some_iff.1 h3).1]
    exact h3
theorem own_base {W : World} {B : Nat} {e : TypeId} {size n : Nat} {v : Value} {xs : List Value} (h : W.ownsRow B e size v n xs) : ∀ g, v.ownBlock = some g → B ≤ g := fun g hg => by
  rcases h.2 with ⟨rfl, _⟩ | ⟨g', cap, cur, rfl, h2, _⟩
  · cases hg
  · cases hg; exact h2
/-- the bins among the first k nodes that can be reached -/
def reachK (l : Ty4) (b : BrV) (f k : Nat) : List (Int × Unit) := ((List.range k).filter fun i => !stripK (ndV l i).2.1 && decide (0 ≤ distV l b i f)).map fun i : Nat => ((i : Int), ())
theorem reachK_succ (l : Ty4) (b : BrV) (f k : Nat) : reachK l b f (k + 1) = if (!stripK (ndV l k).2.1 && decide (0 ≤ distV l b k f)) = true then reachK l b f k ++ [((k : Int), ())] else reachK l b f k := by
  unfold reachK
  rw [List.range_succ, List.filter_append, List.map_append]
  by_cases h : (!stripK (ndV l k).2.1 && decide (0 ≤ distV l b k f)) = true
  · rw [if_pos h, List.filter_cons_of_pos (by exact h)]; rfl
  · rw [if_neg h, List.filter_cons_of_neg (by exact h)]; simp
theorem reachK_len (l : Ty4) (b : BrV) (f k : Nat) : (reachK l b f k).length ≤ k := by
  unfold reachK
  rw [List.length_map]
  exact Nat.le_trans (List.length_filter_le _ _) (by simp)
def valsI (xs : List (Int × Unit)) : List Value := xs.map fun x => .int .i64 x.1
section
variable {w : World} {l : Ty4} {b : BrV} {lv bv : Value}
theorem Cl.grown {w W W' : World} {S n nc : Nat} {na : Option Addr} {dv bv : Value} {rw : Nat → Nat} {q : Nat} {M : Nat → Nat → Int} {row : Option Nat} {B0 : Nat} (h : Cl w S n na nc dv bv rw q M W) (hg : W.grownBy W' row) (hr : ∀ g, row = some g → B0 ≤ g) (h1 : S + 4 ≤ B0) (h2 : ∀ j, j < n → rw j < B0) (h3 : q < B0) : Cl w S n na nc dv bv rw q M W' := by
  have hb : ∀ k, k < B0 → k < W.heap.size → W'.heap[k]? = W.heap[k]? := fun k hk hl => hg.block k hl fun e => by have := hr k e.symm; omega
  have hs := h.bx.size
  refine ⟨⟨⟨hg.os.trans h.bx.below.os, hg.tape.trans h.bx.below.tape, hg.output.trans h.bx.below.output, Nat.le_trans h.bx.below.size hg.size, fun k hk => (hb k (by omega) (by omega)).trans (h.bx.below.block k hk)⟩, Nat.le_trans hs hg.size, (World.cell?_of_block (w := W) (hb _ (by simp only; omega) (by simp only; omega))).trans h.bx.c0, (World.cell?_of_block (w := W) (hb _ (by simp only; omega) (by simp only; omega))).trans h.bx.c1,
    (World.cell?_of_block (w := W) (hb _ (by simp only; omega) (by simp only; omega))).trans h.bx.c2, (World.cell?_of_block (w := W) (hb _ (by simp only; omega) (by simp only; omega))).trans h.bx.c3⟩,
    ⟨h.tab.hR.of_block (hb _ (by omega) h.tab.hR.lt), fun j hj => ⟨(h.tab.hm j hj).1, (h.tab.hm j hj).2.of_block (hb _ (h2 j hj) (h.tab.hm j hj).2.lt)⟩, h.tab.inj⟩, (World.cell?_of_block (w := W) (hb _ h3 h.ql)).trans h.c5, h.q4, Nat.lt_of_lt_of_le h.ql hg.size, h.ne⟩
theorem kc17 (hg : GR w) (hl : Slot w NN (.agg (ty4.avs l)) lv) (hb : BrAt w b bv) (f : Int) {out : List (Int × Unit)}
    (hs : (f < 0 ∨ (l.1.length : Int) ≤ f) ∧ out = [] ∨ (0 ≤ f ∧ f < l.1.length ∧ ∃ a, sp32 (l, ()) = some (a, ()) ∧ (a ≠ 0 ∧ out = [] ∨ a = 0 ∧ LenV l ∧ (∀ t, t < l.1.length → RkV l t) ∧ out = reachV l b f.toNat))) :
    Calls Tryd.prog 17 #[lv, bv, .int .i64 f] w fun e w' => ∃ ov B, e = .returned ov ∧ Below w.heap.size w w' ∧ w.heap.size ≤ B ∧ w'.ownsRow B 3 1 ov out.length (valsI out) := by
  have hla := layAt_of hl
  obtain ⟨na, nc, dv, rfl, hncap, hnlim, hnd⟩ := hla.ex
  obtain ⟨ba, bc, rfl, hbcap, hblim, hbd⟩ := hb.ex
  have lim0 : lim = 140737488355328 := rfl
  have Hl := hidJ hl
  have Hb := hidJ hb
  clear hl hb hnd hbd hla
  go_enter Tryd.func17, Tryd.ntmps17
  have hw0 : Below w.heap.size w (w.alloc (.cells #[.slice na l.1.length nc, dv] 25)) := (Below.refl _ _).alloc (Nat.le_refl _) _
  have Hw0 := hidJ hw0
  have c0 := (row_two w (.slice na l.1.length nc) dv 25).cell (i := 0) (by omega)
  have c1 := (row_two w (.slice na l.1.length nc) dv 25).cell (i := 1) (by omega)
  have hsz : (w.alloc (.cells #[.slice na l.1.length nc, dv] 25)).heap.size = w.heap.size + 1 := by simp
  have nilOwn : ∀ W : World, W.ownsRow w.heap.size 3 1 (.slice none 0 0) ([] : List (Int × Unit)).length (valsI []) := fun W => ⟨rfl, .inl ⟨rfl, rfl⟩⟩
  rcases hs with ⟨hbad, rfl⟩ | ⟨f0, f1, a, ha, hcase⟩
  · have Hn := hidJ nilOwn
    clear nilOwn
    rcases hbad with h | h
    · go_wp2_with fail
      go_ret
      exact ⟨_, rfl, Hw0.out, _, Nat.le_refl _, Hn.out _⟩
    · by_cases h0 : f < 0
      · go_wp2_with fail
        go_ret
        exact ⟨_, rfl, Hw0.out, _, Nat.le_refl _, Hn.out _⟩
      · go_wp2_with fail
        go_ret
        exact ⟨_, rfl, Hw0.out, _, Nat.le_refl _, Hn.out _⟩
  rcases hcase with ⟨hne, rfl⟩ | ⟨rfl, hL, hR, rfl⟩
  · have Hn := hidJ nilOwn
    clear nilOwn
    have hne' : (a != 0) = true := by simpa using hne
    go_wp2_with (
      go_at_call 32
      refine (kc32 (GR.below hg (Nat.le_refl _) hw0) (slot_below Hl.out hw0) ha).mono ?_
      rintro e w1 ⟨rfl, hw1⟩
      have hw01 := hidJ (hw0.trans (hw1.mono (by rw [hsz]; exact Nat.le_succ _))))
    go_ret
    exact ⟨_, _, rfl, hw01.out, Nat.le_refl _, Hn.out _⟩
  · obtain ⟨i, rfl⟩ : ∃ i : Nat, f = i := ⟨f.toNat, by omega⟩
    have hi : i < l.1.length := by omega
    have HL := hidJ hL
    have HR := hidJ hR
    clear nilOwn hL hR
    rw [Int.toNat_natCast]
    have hn1000 := HL.out.n
    have hdi : decide ((i : Int) < 0) = false := by rw [decide_eq_false_iff_not]; omega
    go_wp2_with (
      go_at_call 32
      refine (kc32 (GR.below hg (Nat.le_refl _) hw0) (slot_below Hl.out hw0) ha).mono ?_
      rintro e w1 ⟨rfl, hw1⟩
      have hw01 : Below w.heap.size w w1 := hw0.trans (hw1.mono (by rw [hsz]; exact Nat.le_succ _))
      have d0 := (hw1.cell (p := ⟨w.heap.size, 0, none⟩) (by rw [hsz]; exact Nat.lt_succ_self _)).trans c0
      have d1 := (hw1.cell (p := ⟨w.heap.size, 1, none⟩) (by rw [hsz]; exact Nat.lt_succ_self _)).trans c1
      rw [if_pos rfl] at d0
      rw [if_neg (by decide)] at d1)
    refine (ways w1 _ na ba nc b.length bc dv hn1000).mono ?_
    rintro e w2 ⟨rw, q, rfl, hC⟩
    have HC := hidJ hC
    clear hC
    unfold fnV
    have hg1 := GR.below hg (Nat.le_refl _) hw01
    have Hb1 := hidJ (brAt_below Hb.out hw01)
    have Hl1 := hidJ (slot_below Hl.out hw01)
    have hlt1 : w.heap.size < w1.heap.size := by have := hw1.size; rw [hsz] at this; omega
    have f0 := (HC.out.bx.below.cell (p := ⟨w.heap.size, 0, none⟩) hlt1).trans d0
    have f1' := (HC.out.bx.below.cell (p := ⟨w.heap.size, 1, none⟩) hlt1).trans d1
    obtain ⟨j3, k3, z0, z1, z2⟩ := info_parts i3
    obtain ⟨B0, hB0⟩ : ∃ B0, B0 = w2.heap.size := ⟨_, rfl⟩
    have hBS : w1.heap.size + 4 ≤ B0 := by rw [hB0]; exact HC.out.bx.size
    have hBq : q < B0 := by rw [hB0]; exact HC.out.ql
    have hBr := hidJ (show ∀ j, j < l.1.length → rw j < B0 by rw [hB0]; exact fun j hj => (HC.out.tab.hm j hj).2.lt)
    have hB2 : B0 ≤ w2.heap.size := Nat.le_of_eq hB0
    have hown0 := hidJ (show w2.ownsRow B0 3 1 (.slice none 0 0) (reachK l b i 0).length (valsI (reachK l b i 0)) from ⟨rfl, .inl ⟨rfl, rfl⟩⟩)
    have hwB : w.heap.size ≤ B0 := by omega
    clear hB0
    go_wp2_with fail
    go_loopw [8, 30] (fun p8 p30 wr => ∃ (k : Nat) (M' : Nat → Nat → Int), k ≤ l.1.length ∧ p30 = .int .i64 (k : Int) ∧ B0 ≤ wr.heap.size ∧ Hid (wr.ownsRow B0 3 1 p8 (reachK l b i k).length (valsI (reachK l b i k))) ∧ Hid (Cl w1 w1.heap.size l.1.length na nc dv (.slice ba b.length bc) rw q M' wr) ∧ Hid (GoodM l b l.1.length M')) (fun _ p30 _ => l.1.length - (intOf p30).toNat)
    case atStart => exact ⟨0, _, Nat.zero_le _, rfl, hB2, hown0, HC, hidJ (goodM0 _)⟩
    case round =>
      obtain ⟨k, M1, hk1, rfl, hBw, HO, HC1, HM1⟩ := hrel
      clear HC hown0 f0 f1'
      have f0 := (HC1.out.bx.below.cell (p := ⟨w.heap.size, 0, none⟩) hlt1).trans d0
      have f1' := (HC1.out.bx.below.cell (p := ⟨w.heap.size, 1, none⟩) hlt1).trans d1
      have hwr : Below w.heap.size w wr := hw01.trans (HC1.out.bx.below.mono hw01.size)
      by_cases hke : k < l.1.length
      · have hdk := distV_le (b := b) (t := k) HL.out hi
        by_cases hst : stripK (ndV l k).2.1 = true
        · have Hst := hidJ hst
          clear hst
          go_wp2_with (
            go_at_call 33
            refine (kc33 (GR.below hg (Nat.le_refl _) hwr) (slot_below Hl.out hwr) hke).mono ?_
            rw [Hst.out]
            rintro e w4 ⟨rfl, hw4⟩
            have HC4 := hidJ (HC1.out.below hw4)
            have HO4 := hidJ (owns_block HO.out fun g _ hg => hw4.block g hg)
            have hB4 : B0 ≤ w4.heap.size := Nat.le_trans hBw hw4.size
            clear f0 f1')
          go_roundw
          case rel => exact ⟨k + 1, M1, hke, by simp, hB4, by rw [reachK_succ, Hst.out]; exact HO4, HC4, HM1⟩
          case measure => simp [intOf]; omega
        · have Hst := hidJ (show stripK (ndV l k).2.1 = false by simpa using hst)
          clear hst
          go_wp2_with (
            go_at_call 33
            refine (kc33 (GR.below hg (Nat.le_refl _) hwr) (slot_below Hl.out hwr) hke).mono ?_
            rw [Hst.out]
            rintro e w4 ⟨rfl, hw4⟩
            have HC4 := hidJ (HC1.out.below hw4)
            have HO4 := hidJ (owns_block HO.out fun g _ hg => hw4.block g hg)
            have hB4 : B0 ≤ w4.heap.size := Nat.le_trans hBw hw4.size
            clear f0 f1')
          refine (way hg1 Hl1.out Hb1.out HL.out (HR.out k hke) hi hke HC4.out HM1.out).mono ?_
          rintro e w5 ⟨rfl, M5, hC5, hM5, hF5⟩
          have HC5 := hidJ hC5
          have HM5 := hidJ hM5
          have HO5 := hidJ (owns_block HO4.out fun g hgB hg => hF5.block g hg fun j hj e => by have := hBr.out j hj; omega)
          have hB5 : B0 ≤ w5.heap.size := Nat.le_trans hB4 hF5.size
          clear hC5 hM5 hF5
          by_cases e1 : 0 ≤ distV l b k i
          · have Hr := hidJ (show reachK l b i (k + 1) = reachK l b i k ++ [((k : Int), ())] by rw [reachK_succ, Hst.out, decide_eq_true e1]; rfl)
            have HO6 := hidJ (owns_block HO5.out fun g _ hg => blk_alloc_lt w5 (.cells #[.int .i64 (k : Int)] 3) g hg)
            have hN := reachK_len l b i k
            have hcell : ∀ (j : Nat) (u : Value), [Value.int .i64 (k : Int)][j]? = some u → (w5.alloc (.cells #[.int .i64 (k : Int)] 3)).cell? ((⟨w5.heap.size, 0, none⟩ : Addr).add j) = some u := World.news_of_block (heap_alloc_new w5 _)
            have Hcell := hidJ hcell
            clear hcell
            go_wp2_with (at_builtin; refine wpList_append_lies _ rfl _ _ _ rfl B0 3 j3 _ 1 8 u26 k3 z0 z1 z2 rfl (by omega) _ _ _ rfl HO6.out ⟨w5.heap.size, 0, none⟩ 1 1 [.int .i64 (k : Int)] rfl rfl Hcell.out (by simp; rfl) (by omega) (by simp [maxLen]; omega) (by omega) (by simp; omega) _ rfl ?_)
            intro g cap w6 hown hgrow hat hlt
            have HO7 := hidJ (show w6.ownsRow B0 3 1 (.slice (some ⟨g, 0, none⟩) ((reachK l b i k).length + 1) cap) (reachK l b i (k + 1)).length (valsI (reachK l b i (k + 1))) by
              rw [Hr.out, List.length_append, valsI, List.map_append]; exact hown)
            have HC7 := hidJ ((HC5.out.below ((Below.refl _ _).alloc (Nat.le_refl _) (.cells #[.int .i64 (k : Int)] 3))).grown hgrow (own_base HO6.out) hBS hBr.out hBq)
            have hB7 : B0 ≤ w6.heap.size := by have := hgrow.size; simp at this; omega
            clear hown hgrow hat hlt
            go_wp2_with fail
            go_roundw
            case rel => exact ⟨k + 1, M5, hke, by simp, hB7, HO7, HC7, HM5⟩
            case measure => simp [intOf]; omega
          · have Hr := hidJ (show reachK l b i (k + 1) = reachK l b i k by rw [reachK_succ, Hst.out, decide_eq_false e1]; rfl)
            go_wp2_with fail
            go_roundw
            case rel => exact ⟨k + 1, M5, hke, by simp, hB5, by rw [Hr.out]; exact HO5, HC5, HM5⟩
            case measure => simp [intOf]; omega
      · obtain rfl : k = l.1.length := by omega
        go_wp2_with fail
        go_ret
        exact ⟨_, _, rfl, hwr, hwB, HO.out⟩
end
theorem args3 {w : World} {D : Abs.Names} {l : Ty4} {b : BrV} {f : Int} {vs : List Value} (h : ArgsRep w D (argsAV canon g17.args 0 (l, b, f, ())) vs) :
    ∃ lv bv, vs = [lv, bv, .int .i64 f] ∧ Slot w NN (.agg (ty4.avs l)) lv ∧ BrAt w b bv := by
  obtain ⟨hl, hs⟩ := h
  match vs, hl with
  | [x0, x1, x2], _ =>
    have h0 : Slot w D (.agg (ty4.avs l)) x0 := hs 0 _ rfl
    have h1 : Imm w D.M ((Ty.sl (.cons .bool .nil)).av b) x1 := hs 1 _ rfl
    have h2 : Imm w D.M (.int .i64 f) x2 := hs 2 _ rfl
    rw [imm_int h2]
    exact ⟨x0, x1, rfl, slot_nn h0, brAt_of (imm_nn (D := D) h1 (Below.refl _ _))⟩
/-- a list that is owned is a value -/
theorem imm_own {w w' : World} {D : Abs.Names} (hm : Mem w D.N [] D w) {B : Nat} {ov : Value} {out : List (Int × Unit)} (hB : w.heap.size ≤ B) (hl : out.length ≤ 100000) (h : w'.ownsRow B 3 1 ov out.length (valsI out)) :
    Imm w' D.M ((Ty.sl (.cons (.int .i64) .nil)).av out) ov := by
  rcases h.2 with ⟨rfl, h0⟩ | ⟨g, cap, cur, rfl, h2, h3, h4, h5, h6, h7⟩
  · obtain rfl : out = [] := List.eq_nil_of_length_eq_zero h0
    exact Imm.slnil _ _ _
  · have hlen : (out.map fun x : Int × Unit => [AV.int .i64 x.1]).length = out.length := List.length_map ..
    have key := Imm.sl (w := w') (M := D.M) 1 (out.map fun x : Int × Unit => [AV.int .i64 x.1]) g 0 cap (fun j _ => .int .i64 (out.getD j (0, ())).1)
      (Array.getElem?_eq_some_iff.1 h3).1 (fun hM => by have := hm.lt _ hM; omega) (by rw [hlen]; exact h4) (by rw [hlen]; unfold lim; omega)
      (fun j cs hj => by
        rw [List.getElem?_map, Option.map_eq_some_iff] at hj
        obtain ⟨x, _, rfl⟩ := hj; rfl)
      (fun j cs i x hj hi => by
        rw [List.getElem?_map, Option.map_eq_some_iff] at hj
        obtain ⟨y, hy, rfl⟩ := hj
        obtain rfl : i = 0 := by
          have := (List.getElem?_eq_some_iff.1 hi).1
          simp at this; omega
        have hjl := (List.getElem?_eq_some_iff.1 hy).1
        have e1 : (valsI out)[j]? = some (.int .i64 y.1) := by rw [valsI, List.getElem?_map, hy]; rfl
        have e2 : cur[j]? = some (.int .i64 y.1) := by
          rw [← h7, List.getElem?_take, if_pos (by omega), Array.getElem?_toList] at e1
          exact e1
        rw [List.getD_eq_getElem?_getD, hy]
        simp only [World.cell?, h3]
        simpa using e2)
      (fun j cs i x hj hi => rfl)
      (fun j cs i x hj hi => by
        rw [List.getElem?_map, Option.map_eq_some_iff] at hj
        obtain ⟨y, hy, rfl⟩ := hj
        obtain rfl : i = 0 := by
          have := (List.getElem?_eq_some_iff.1 hi).1
          simp at this; omega
        cases hi
        rw [List.getD_eq_getElem?_getD, hy]
        exact Imm.int _ _)
    rw [hlen] at key
    exact key
open Classical in
theorem spec17 (l : Ty4) (b : BrV) (f : Int) {r : List (Int × Unit) × Unit} (h : sp17 (l, b, f, ()) = some r) :
    ∃ out : List (Int × Unit), r = (out, ()) ∧ out.length ≤ 100000 ∧ ((f < 0 ∨ (l.1.length : Int) ≤ f) ∧ out = [] ∨ (0 ≤ f ∧ f < l.1.length ∧ ∃ a, sp32 (l, ()) = some (a, ()) ∧ (a ≠ 0 ∧ out = [] ∨ a = 0 ∧ LenV l ∧ (∀ t, t < l.1.length → RkV l t) ∧ out = reachV l b f.toNat))) := by
  unfold sp17 at h
  simp only at h
  split at h
  · rename_i hc
    cases h
    exact ⟨[], rfl, by simp, .inl ⟨hc, rfl⟩⟩
  · rename_i hc
    obtain ⟨⟨a, ⟨⟩⟩, ha, h⟩ := Option.bind_eq_some_iff.1 h
    by_cases h0 : a ≠ 0
    · rw [if_pos h0] at h
      cases h
      exact ⟨[], rfl, by simp, .inr ⟨by omega, by omega, a, ha, .inl ⟨h0, rfl⟩⟩⟩
    · rw [if_neg h0] at h
      split at h
      · rename_i hw
        cases h
        refine ⟨_, rfl, ?_, .inr ⟨by omega, by omega, a, ha, .inr ⟨Classical.not_not.1 h0, hw.1, hw.2, rfl⟩⟩⟩
        have h2 : (reachV l b f.toNat).length ≤ l.1.length := reachK_len l b f.toNat l.1.length
        have h3 := hw.1.n
        omega
      · cases h
theorem tc17 : TC Tryd.prog 17 ⟨g17, sp17⟩ := by
  rintro ⟨l, b, f, ⟨⟩⟩ r h
  intro w D vs hm hv
  obtain ⟨lv, bv, rfl, hl, hb⟩ := args3 hv
  obtain ⟨out, rfl, hlen, hs⟩ := spec17 l b f h
  exact (kc17 (gr_of hm) hl hb f hs).mono fun e w' ⟨ov, B, he, hbel, hB, hown⟩ => ⟨_, D, he, mem_below hm hbel, imm_own hm hB hlen hown, fun _ _ h => h⟩
end Go.Proofs.YtjficagemeiecaaDoor
