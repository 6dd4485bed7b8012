/- The function that ways returns: its contract. -/
import Derived.Test.YtjficagemeiecaaDoorH2
import Derived.Test.YtjficagemeiecaaDoorWay
open Go Go.Proofs Go.Abs Go.RowKit Go.Shelf Go.Deep
set_option linter.unusedVariables false
set_option maxRecDepth 100000
set_option maxHeartbeats 4000000
namespace Go.Proofs.YtjficagemeiecaaDoor
/-- what is known holds the right numbers -/
def GoodM (l : Ty4) (b : BrV) (n : Nat) (M : Nat → Nat → Int) : Prop := ∀ j k, j < n → k < n → M j k = -2 ∨ M j k = distV l b k j
/-- nothing but the rows turns -/
structure Fr (rw : Nat → Nat) (n : Nat) (W W' : World) : Prop where
  os : W'.os = W.os
  tape : W'.tape = W.tape
  output : W'.output = W.output
  size : W.heap.size ≤ W'.heap.size
  block : ∀ k, k < W.heap.size → (∀ j, j < n → k ≠ rw j) → W'.heap[k]? = W.heap[k]?
section
variable {w : World} {l : Ty4} {b : BrV} {n nc bc S : Nat} {na ba : Option Addr} {dv bv : Value} {rw : Nat → Nat} {q : Nat} {t : Nat} {W W' W1 : World} {M : Nat → Nat → Int}
theorem Fr.refl : Fr rw n W W := ⟨rfl, rfl, rfl, Nat.le_refl _, fun _ _ _ => rfl⟩
theorem Fr.trans (h : Fr rw n W W1) (k : Fr rw n W1 W') : Fr rw n W W' :=
  ⟨k.os.trans h.os, k.tape.trans h.tape, k.output.trans h.output, Nat.le_trans h.size k.size, fun i hi hn => (k.block i (Nat.lt_of_lt_of_le hi h.size) hn).trans (h.block i hi hn)⟩
theorem Fr.below (h : Below W.heap.size W W') : Fr rw n W W' := ⟨h.os, h.tape, h.output, h.size, fun k hk _ => h.block k hk⟩
theorem Fr.put {j : Nat} (hj : j < n) (k : Nat) (v : Value) : Fr rw n W (W.setCell ⟨rw j, k, none⟩ v) :=
  ⟨rfl, rfl, rfl, by simp [World.setCell], fun i _ hn => blk_set (hn j hj)⟩
theorem Cl.put (h : Cl w S n na nc dv bv rw q M W) {j : Nat} (hj : j < n) (k : Nat) (v : Int) : Cl w S n na nc dv bv rw q (fun j' k' => if j' = j ∧ k' = k then v else M j' k') (W.setCell ⟨rw j, k, none⟩ (.int .i64 v)) where
  bx := h.bx.set (.inr (h.tab.hm j hj).1) _
  tab := h.tab.put hj k v
  c5 := (World.cell?_of_block (w := W) (blk_set fun e => h.ne j hj e.symm)).trans h.c5
  q4 := h.q4
  ql := by simpa [World.setCell] using h.ql
  ne := h.ne
theorem rowIs_below {b0 : Nat} {T : TypeId} {m : Nat} {f : Nat → Value} (h : W.rowIs b0 T m f) (k : Below W.heap.size W W') : W'.rowIs b0 T m f := h.of_block (k.block _ h.lt)
theorem Cl.below (h : Cl w S n na nc dv bv rw q M W) (k : Below W.heap.size W W') : Cl w S n na nc dv bv rw q M W' where
  bx := by
    have hs := h.bx.size
    have hb : Below S W W' := k.mono (by omega)
    exact ⟨h.bx.below.trans hb, Nat.le_trans hs k.size, (World.cell?_of_block (w := W) (k.block _ (by simp only; omega))).trans h.bx.c0, (World.cell?_of_block (w := W) (k.block _ (by simp only; omega))).trans h.bx.c1,
      (World.cell?_of_block (w := W) (k.block _ (by simp only; omega))).trans h.bx.c2, (World.cell?_of_block (w := W) (k.block _ (by simp only; omega))).trans h.bx.c3⟩
  tab := ⟨rowIs_below h.tab.hR k, fun j hj => ⟨(h.tab.hm j hj).1, rowIs_below (h.tab.hm j hj).2 k⟩, h.tab.inj⟩
  c5 := (World.cell?_of_block (w := W) (k.block _ h.ql)).trans h.c5
  q4 := h.q4
  ql := Nat.lt_of_lt_of_le h.ql k.size
  ne := h.ne
theorem GoodM.put (h : GoodM l b n M) {j k : Nat} {v : Int} (hv : v = distV l b k j) : GoodM l b n (fun j' k' => if j' = j ∧ k' = k then v else M j' k') := fun j' k' hj hk => by
  by_cases e : j' = j ∧ k' = k
  · obtain ⟨rfl, rfl⟩ := e
    simp [hv]
  · simp only [if_neg e]; exact h j' k' hj hk
/-- what the end of a call shows -/
def Done (w : World) (l : Ty4) (b : BrV) (na : Option Addr) (nc : Nat) (dv bv : Value) (rw : Nat → Nat) (q : Nat) (W w' : World) : Prop :=
  ∃ M', Cl w w.heap.size l.1.length na nc dv bv rw q M' w' ∧ GoodM l b l.1.length M' ∧ Fr rw l.1.length W w'
theorem done_put (hC : Cl w w.heap.size l.1.length na nc dv bv rw q M W1) (hM : GoodM l b l.1.length M) (hF : Fr rw l.1.length W W1) {i : Nat} (hi : i < l.1.length) {v : Int} (hv : v = distV l b t i) :
    Done w l b na nc dv bv rw q W (W1.setCell ⟨rw i, t, none⟩ (.int .i64 v)) :=
  ⟨_, hC.put hi t v, hM.put hv, hF.trans (Fr.put hi t _)⟩
theorem slot_below {x : AV} {v : Value} {W' : World} (h : Slot w NN x v) (k : Below w.heap.size w W') : Slot W' NN x v :=
  h.mono ⟨⟨k.size, fun i hi _ => k.block i hi⟩, fun i hi => by simp only [World.row, World.shape?, k.block i hi]⟩ (fun _ _ h => h) (fun b hb => absurd hb (nn_M b)) fun b _ hb => absurd hb (nn_M b)
theorem closure (hsl : Slot w NN (.agg (ty4.avs l)) (.agg #[.slice na l.1.length nc, dv])) (hg : GR w) (hl : LayAt w l (.agg #[.slice na l.1.length nc, dv])) (hb : BrAt w b (.slice ba b.length bc)) (hL : LenV l) (hR : RkV l t) (ht : t < l.1.length)
    {rk : Nat → Nat} (hr : ∀ i, i < l.1.length → i ≠ t → ∀ x ∈ (ndV l i).2.2.2.2.1, goV l i x.1.toNat t = true → rk x.1.toNat < rk i) :
    ∀ (m i : Nat), rk i < m → i < l.1.length → ∀ (W : World) (M : Nat → Nat → Int), Cl w w.heap.size l.1.length na nc dv (.slice ba b.length bc) rw q M W → GoodM l b l.1.length M →
      Calls Tryd.prog 41 #[.int .i64 (i : Int), .int .i64 (t : Int), .pointer (some ⟨w.heap.size + 1 + 1 + 1, 0, none⟩), .pointer (some ⟨w.heap.size + 1, 0, none⟩), .pointer (some ⟨w.heap.size, 0, none⟩), .pointer (some ⟨q, 0, none⟩)] W fun e w' =>
        e = .returned (.int .i64 (distV l b t i)) ∧ Done w l b na nc dv (.slice ba b.length bc) rw q W w' := by
  intro m
  induction m with
  | zero => intro i hi; omega
  | succ m ih =>
    intro i hm hi W M hC hM
    obtain ⟨a, cap, dv', hlv, hncap, hnlim, hnd⟩ := hl.ex
    obtain ⟨⟨rfl, rfl⟩, rfl⟩ : (na = a ∧ nc = cap) ∧ dv = dv' := by simpa using hlv
    obtain ⟨ba', bc', hbv, hbcap, hblim, hbd⟩ := hb.ex
    obtain ⟨rfl, rfl⟩ : ba = ba' ∧ bc = bc' := by simpa using hbv
    have lim0 : lim = 140737488355328 := rfl
    have hn1000 := hL.n
    have hdist := distV_eq (b := b) hL hR hi
    have c0 := hC.bx.c0
    have c1 := hC.bx.c1
    have c2 := hC.bx.c2
    have c3 := hC.bx.c3
    have r1 := hC.tab.hR.cell hi
    rw [rowsF, if_pos hi] at r1
    have s1 := (hC.tab.hm i hi).2.cell ht
    have s2 := (hC.tab.hm i hi).2.frozen t
    have hbr : (i < b.length ∧ ∃ bb off, ba = some ⟨bb, off, none⟩ ∧ W.cell? ⟨bb, off + i, none⟩ = some (.bool (brkV b i))) ∨ (b.length ≤ i ∧ brkV b i = false) := by
      by_cases h : i < b.length
      · obtain ⟨bb, off, h1, h2, h3⟩ := hbd i h
        exact .inl ⟨h, bb, off, h1, (hC.bx.below.cell (p := ⟨bb, off + i, none⟩) h2).trans h3⟩
      · exact .inr ⟨by omega, by rw [brkV, List.getD_eq_getElem?_getD, List.getElem?_eq_none (by omega)]; rfl⟩
    obtain ⟨nb, no, ea, ec, rfl, hnb, hn2, hn4, hec, hel, hex⟩ := hnd i hi
    have n2 := (hC.bx.below.cell (p := ⟨nb, no + i * 5 + 2, none⟩) hnb).trans hn2
    have n4 := (hC.bx.below.cell (p := ⟨nb, no + i * 5 + 4, none⟩) hnb).trans hn4
    have hlen := hL.len i hi
    have HC := hidJ hC
    have HM := hidJ hM
    have Hr := hidJ hr
    have Hih := hidJ ih
    have Hl := hidJ hl
    have Hb := hidJ hb
    have Hex := hidJ hex
    have HL := hidJ hL
    have HR := hidJ hR
    have Hsl := hidJ hsl
    have hsl' : ∀ {W' : World}, Below w.heap.size w W' → Slot W' NN (.agg (ty4.avs l)) (.agg #[.slice (some ⟨nb, no, none⟩) l.1.length nc, dv]) := fun {W'} h => slot_below hsl h
    clear hC hM hnd hbd hr ih hl hb hbv hlv hex hL hR hsl
    generalize Value.slice ba b.length bc = bvv at HC Hih ⊢
    go_enter Tryd.func41, Tryd.ntmps41
    by_cases hk : M i t = -2
    · rw [hk] at s1
      have fin : ∀ v : Int, v = distV l b t i → Hid (Done w l b (some ⟨nb, no, none⟩) nc dv bvv rw q W (W.setCell ⟨rw i, t, none⟩ (.int .i64 v))) := fun v hv => done_put HC.out HM.out Fr.refl hi hv
      rcases hbr with ⟨hib, bb, off, rfl, hbc⟩ | ⟨hib, hbf⟩
      case' inl =>
        by_cases hbv : brkV b i = true
        case pos =>
          rw [hbv] at hbc hdist
          rw [if_pos rfl] at hdist
          have Hdist := hidJ hdist
          clear hdist
          go_wp2_with fail
          go_ret
          exact ⟨by rw [Hdist.out]; rfl, (fin _ Hdist.out.symm).out⟩
        have hbf : brkV b i = false := by simpa using hbv
        clear hbv
        rw [hbf] at hbc
      all_goals (
        rw [hbf, if_neg (by simp)] at hdist
        by_cases hit : i = t
        · subst hit
          rw [if_pos rfl] at hdist
          have Hdist := hidJ hdist
          clear hdist
          go_wp2_with fail
          go_ret
          exact ⟨by rw [Hdist.out]; rfl, (fin _ Hdist.out.symm).out⟩
        rw [if_neg hit] at hdist
        have hit' : ((i : Int) == (t : Int)) = false := by simp only [beq_eq_false_iff_ne]; omega
        have Hdist := hidJ hdist
        clear hdist fin
        go_wp2_with fail
        go_loopw [9, 35] (fun p9 p35 wr => ∃ (k : Nat) (M' : Nat → Nat → Int), k ≤ (ndV l i).2.2.2.2.1.length ∧ p9 = .int .i64 (bestV l b t i k) ∧ p35 = .int .i64 (k : Int) ∧ Hid (Cl w w.heap.size l.1.length (some ⟨nb, no, none⟩) nc dv bvv rw q M' wr) ∧ Hid (GoodM l b l.1.length M') ∧ Hid (Fr rw l.1.length W wr)) (fun _ p35 _ => (ndV l i).2.2.2.2.1.length - (intOf p35).toNat)
        case atStart => exact ⟨0, M, Nat.zero_le _, by simp [bestV], rfl, HC, HM, hidJ Fr.refl⟩
        case round =>
          obtain ⟨k, M1, hk1, rfl, rfl, HC1, HM1, HF1⟩ := hrel
          clear c0 c1 c2 c3 r1 s1 s2 n2 n4
          try clear hbc
          have d0 := HC1.out.bx.c0
          have d1 := HC1.out.bx.c1
          by_cases hke : k < (ndV l i).2.2.2.2.1.length
          · obtain ⟨x, hx⟩ : ∃ x, (ndV l i).2.2.2.2.1[k]? = some x := ⟨_, List.getElem?_eq_getElem hke⟩
            obtain ⟨xb, xo, rfl, hxb, hxc⟩ := Hex.out k x hx
            have x0 := (HC1.out.bx.below.cell (p := ⟨xb, xo + k, none⟩) hxb).trans hxc
            have hxm := List.mem_of_getElem? hx
            obtain ⟨j, hj⟩ : ∃ j : Nat, x.1 = j := ⟨x.1.toNat, by have := HL.out.ex i hi x hxm; omega⟩
            have hjl : j < l.1.length := by have := HL.out.ex i hi x hxm; omega
            have hbk := bestV_le (b := b) (t := t) HL.out hi k
            have hdk := distV_le (b := b) (t := t) HL.out hjl
            have c5 : wr.cell? ⟨q, 0, none⟩ = some (.func (.func 41) #[] #[.pointer (some ⟨w.heap.size + 1 + 1 + 1, 0, none⟩), .pointer (some ⟨w.heap.size + 1, 0, none⟩), .pointer (some ⟨w.heap.size, 0, none⟩), .pointer (some ⟨q, 0, none⟩)]) := HC1.out.c5
            have Hsucc := hidJ (bestV_succ (b := b) (t := t) hx)
            unfold putV at Hsucc
            have hrk : goV l i j t = true → rk j < m := fun h => by
              have := Hr.out i hi hit x hxm (by rw [hj]; exact h)
              rw [hj, Int.toNat_natCast] at this
              omega
            rw [hj] at x0
            rw [hj, Int.toNat_natCast] at Hsucc
            have Hrk := hidJ hrk
            have hgw := HC1.out.bx.below
            clear hrk hx hxc hj hxm
            by_cases hgo : goV l i j t = true
            · rw [if_pos hgo] at Hsucc
              have Hrk2 := hidJ (Hrk.out hgo)
              have Hgo := hidJ hgo
              clear hgo
              have Hrel : Hid (relV (distV l b t j) (ndV l i).2.2.1 (bestV l b t i k) = if 0 ≤ distV l b t j ∧ (bestV l b t i k < 0 ∨ distV l b t j + (ndV l i).2.2.1 < bestV l b t i k) then distV l b t j + (ndV l i).2.2.1 else bestV l b t i k) := rfl
              go_wp2_with (
                go_at_call 31
                refine (kc31 (GR.below hg (Nat.le_refl _) hgw) (hsl' hgw) hjl).mono ?_
                rw [Hgo.out]
                rintro e w1 ⟨rfl, hw1⟩
                have HC2 := hidJ (HC1.out.below hw1)
                have HF2 := hidJ (HF1.out.trans (Fr.below hw1))
                have f5 : w1.cell? ⟨q, 0, none⟩ = some (.func (.func 41) #[] #[.pointer (some ⟨w.heap.size + 1 + 1 + 1, 0, none⟩), .pointer (some ⟨w.heap.size + 1, 0, none⟩), .pointer (some ⟨w.heap.size, 0, none⟩), .pointer (some ⟨q, 0, none⟩)]) := HC2.out.c5
                clear d0 d1 c5 x0)
              refine (Hih.out j (by have := Hrk2.out; omega) hjl w1 M1 HC2.out HM1.out).mono ?_
              rintro e w2 ⟨rfl, M2, HC3', HM3', HF3'⟩
              have HC3 := hidJ HC3'
              have HM3 := hidJ HM3'
              have HF3 := hidJ (HF2.out.trans HF3')
              have f0 := HC3'.bx.c0
              have f1 := HC3'.bx.c1
              have g2 := (HC3'.bx.below.cell (p := ⟨nb, no + i * 5 + 2, none⟩) hnb).trans hn2
              clear HC3' HM3' HF3' f5
              have cs : (0 ≤ distV l b t j ∧ bestV l b t i k < 0) ∨ (0 ≤ distV l b t j ∧ ¬ bestV l b t i k < 0 ∧ distV l b t j + (ndV l i).2.2.1 < bestV l b t i k) ∨ (0 ≤ distV l b t j ∧ ¬ bestV l b t i k < 0 ∧ ¬ distV l b t j + (ndV l i).2.2.1 < bestV l b t i k) ∨ ¬ 0 ≤ distV l b t j := by omega
              rcases cs with ⟨e1, e2⟩ | ⟨e1, e2, e3⟩ | ⟨e1, e2, e3⟩ | e1
              all_goals (
                have Hv := hidJ Hsucc.out
                unfold relV at Hv
                first
                  | rw [if_pos (by omega)] at Hv
                  | rw [if_neg (by omega)] at Hv
                go_wp2_with fail
                go_roundw
                case rel => exact ⟨k + 1, M2, hke, by rw [Hv.out], by simp, HC3, HM3, HF3⟩
                case measure => simp [intOf]; omega)
            · rw [if_neg hgo] at Hsucc
              have Hgo := hidJ (show goV l i j t = false by simpa using hgo)
              clear hgo
              go_wp2_with (
                go_at_call 31
                refine (kc31 (GR.below hg (Nat.le_refl _) hgw) (hsl' hgw) hjl).mono ?_
                rw [Hgo.out]
                rintro e w1 ⟨rfl, hw1⟩)
              go_roundw
              case rel => exact ⟨k + 1, M1, hke, by rw [Hsucc.out], by simp, HC1.out.below hw1, HM1, hidJ (HF1.out.trans (Fr.below hw1))⟩
              case measure => simp [intOf]; omega
          · obtain rfl : k = (ndV l i).2.2.2.2.1.length := by omega
            have c3 := HC1.out.bx.c3
            have r1 := HC1.out.tab.hR.cell hi
            rw [rowsF, if_pos hi] at r1
            have s1 := (HC1.out.tab.hm i hi).2.cell ht
            have s2 := (HC1.out.tab.hm i hi).2.frozen t
            have Hfin := hidJ (done_put HC1.out HM1.out HF1.out hi Hdist.out.symm)
            go_wp2_with fail
            go_ret
            exact ⟨by rw [Hdist.out]; rfl, Hfin.out⟩)
    · have hd := hidJ ((HM.out i t hi ht).resolve_left hk)
      clear hbr hdist
      go_wp2_with fail
      go_ret
      exact ⟨by rw [← hd.out]; rfl, M, HC.out, HM.out, Fr.refl⟩
end
end Go.Proofs.YtjficagemeiecaaDoor
