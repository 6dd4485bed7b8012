import Derived.Test.YtjpikgfknnamjaaDoorHb
import Derived.RangeFuncNested
import Derived.RangeFuncBound
import Derived.RangeFuncCalls
import Derived.RangeFuncLeaves
import Derived.Shelf.Abstract
import Derived.Shelf.RegionOpen
import Derived.WalkKit
import Derived.OwnWalkIn
import Derived.TacticsInMore
import Derived.LoopNIn
import Derived.LoopIn
open Go Go.Proofs Go.Abs Go.RowKit Go.Shelf
attribute [local go_sem] Oper.semAt_some
set_option linter.unusedVariables false
set_option maxRecDepth 100000
set_option maxHeartbeats 4000000
namespace Go.Proofs.YtjpikgfknnamjaaDoor
def ups (v : VW) (k : Nat) : List RP := (List.range k).flatMap fun (i : Nat) => faultsK v ((i : Int) + 3)
theorem ups_all (v : VW) : ups v 4 = faultsV v := by simp [ups, faultsV, List.range_succ]
theorem ups_succ (v : VW) (k : Nat) : ups v (k + 1) = ups v k ++ faultsK v ((k : Int) + 3) := by simp [ups, List.range_succ]
theorem ups_pre (v : VW) {k : Nat} (h : k ≤ 4) : ups v k <+: faultsV v := by
  rw [← ups_all]
  unfold ups
  obtain ⟨d, hd⟩ : ∃ d, 4 = k + d := ⟨4 - k, by omega⟩
  have : List.range 4 = List.range k ++ (List.range d).map (k + ·) := by rw [hd, List.range_add]
  rw [this, List.flatMap_append]
  exact List.prefix_append _ _
theorem ins_pre (v : VW) {k j : Nat} (h : k < 4) (hm : mayV v ((k : Int) + 3) = true) (hj : j ≤ mostV ((k : Int) + 3)) : ups v k ++ (List.range (j + 1)).map (withV v ((k : Int) + 3)) <+: faultsV v := by
  refine List.IsPrefix.trans ?_ (ups_pre v (k := k + 1) (by omega))
  rw [ups_succ, List.prefix_append_right_inj]
  unfold faultsK
  rw [if_pos hm]
  obtain ⟨d, hd⟩ : ∃ d, mostV ((k : Int) + 3) + 1 = (j + 1) + d := ⟨mostV ((k : Int) + 3) - j, by omega⟩
  have : List.range (mostV ((k : Int) + 3) + 1) = List.range (j + 1) ++ (List.range d).map (j + 1 + ·) := by rw [hd, List.range_add]
  rw [this, List.map_append]
  exact List.prefix_append _ _
theorem grown_of {W W' : World} (h : Below W.heap.size W W') : W.grownBy W' none where
  os := h.os
  tape := h.tape
  output := h.output
  size := h.size
  block := fun k hk _ => h.block k hk
theorem faulty_stops (n : Nat) (hn : 2 ≤ n) (w : World) (BV : Nat) (v : VW) (hv : v.2.2.2.1 = [] ∨ v.2.2.2.1.length = 10) (hl : v.2.2.2.1.length ≤ lim) (hg : GR w) (hBV : BV < w.heap.size)
    (b0 : w.cell? ⟨BV, 0, none⟩ = some (.int .i64 v.1)) (b1 : w.cell? ⟨BV, 1, none⟩ = some (.int .i64 v.2.1)) (b2 : w.cell? ⟨BV, 2, none⟩ = some (.int .i64 v.2.2.1)) (b3 : w.cell? ⟨BV, 3, none⟩ = some (.string ⟨v.2.2.2.1.toArray⟩)) :
    SeqStopsK Fence.wide n Tryd.prog 55 #[.pointer (some ⟨BV, 0, none⟩)] (fun r : RP => #[rv r]) (Below w.heap.size) (fun xs => xs = faultsV v) (fun pre => pre <+: faultsV v) (faultsV v).length w := by
  intro l J Jx W hW hJ hJx hY h0
  refine callsIn_of_wp Tryd.func55 rfl trivial ?_ rfl
  simp only [Tryd.ntmps55, List.size_toArray, List.length_cons, List.length_nil, Nat.reduceAdd, Nat.reduceSub, Array.replicate_succ, Array.replicate_zero, List.push_toArray, List.append_toArray, List.nil_append, List.cons_append]
  gi_wp2
  have h1 : 1 ≤ n := by omega
  have key : ∀ (wr : World), Below w.heap.size w wr → GR wr := fun wr h => hg.below h
  gi_loopw [3] (fun p wr => ∃ k : Nat, k ≤ 4 ∧ p = .int .i64 ((k : Int) + 3) ∧ J (ups v k) wr ∧ Below w.heap.size w wr) (fun p wr => (7 - intOf p).toNat)
  case atStart => exact ⟨0, by omega, rfl, h0, hW⟩
  case round =>
    obtain ⟨k, hk, rfl, hJs, hB⟩ := hrel
    by_cases hk4 : k = 4
    · subst hk4
      gi_wp2
      go_end0
      exact ⟨⟨_, rfl⟩, .inl ⟨_, ups_all v, hJs⟩⟩
    · have hle : (k : Int) + 3 ≤ 6 := by omega
      gi_wp2
      gi_loopw [4] (fun p wr => ∃ j : Nat, p = .int .i64 (j : Int) ∧ (mayV v ((k : Int) + 3) = true → j ≤ mostV ((k : Int) + 3) + 1) ∧ (mayV v ((k : Int) + 3) = false → j = 0) ∧ J (ups v k ++ (List.range j).map (withV v ((k : Int) + 3))) wr ∧ Below w.heap.size w wr) (fun p wr => (11 - intOf p).toNat)
      case atStart => exact ⟨0, rfl, fun _ => by omega, fun _ => rfl, by simpa using hJs, hB⟩
      case round =>
        obtain ⟨j, rfl, hj1, hj0, hJ2, hB2⟩ := hrel
        have g2 := key wr hB2
        have hmost : mostV ((k : Int) + 3) ≤ 9 := by unfold mostV; split <;> omega
        by_cases hjm : (j : Int) ≤ (mostV ((k : Int) + 3) : Int)
        · by_cases hm : mayV v ((k : Int) + 3) = true
          · have hcond : ((k : Int) + 3 = 3 ∨ (k : Int) + 3 = 4 ∨ (j < v.2.2.2.1.length ∧ v.2.2.2.1.length ≤ 100)) := by
              by_cases h3 : (k : Int) + 3 = 3
              · exact .inl h3
              by_cases h4 : (k : Int) + 3 = 4
              · exact .inr (.inl h4)
              refine .inr (.inr ?_)
              unfold mayV at hm
              rw [if_neg h3, if_neg h4] at hm
              have hne : v.2.2.2.1 ≠ [] := by
                simp only [Bool.and_eq_true, Bool.not_eq_true', beq_eq_false_iff_ne] at hm
                exact hm.2.2
              rcases hv with h | h
              · exact absurd h hne
              · omega
            gi_wp2_with (first
              | (refine ⟨trivial, ?_⟩
                 gi_at_call 29
                 refine (callsIn_wide.2 (kc29 g2 ((k : Int) + 3))).mono ?_
                 rintro e w1 ⟨rfl, hw1⟩
                 have d1 := hB2.trans (hw1.mono hB2.size)
                 have g1 := key w1 d1
                 have q0 := (d1.cell (p := ⟨BV, 0, none⟩) hBV).trans b0
                 have q1 := (d1.cell (p := ⟨BV, 1, none⟩) hBV).trans b1
                 have q2 := (d1.cell (p := ⟨BV, 2, none⟩) hBV).trans b2
                 have q3 := (d1.cell (p := ⟨BV, 3, none⟩) hBV).trans b3)
              | (refine ⟨trivial, ?_⟩
                 gi_at_call 31
                 refine (callsIn_wide.2 (kc31 g1 v hl ((k : Int) + 3))).mono ?_
                 rw [hm]
                 rintro e w2 ⟨rfl, hw2⟩
                 have d2 := d1.trans (hw2.mono d1.size)
                 have g3 := key w2 d2
                 have r0 := (d2.cell (p := ⟨BV, 0, none⟩) hBV).trans b0
                 have r1 := (d2.cell (p := ⟨BV, 1, none⟩) hBV).trans b1
                 have r2 := (d2.cell (p := ⟨BV, 2, none⟩) hBV).trans b2
                 have r3 := (d2.cell (p := ⟨BV, 3, none⟩) hBV).trans b3)
              | (refine ⟨trivial, ?_⟩
                 gi_at_call 35
                 refine (callsIn_wide.2 (kc35 g3 v hl ((k : Int) + 3) j hcond)).mono ?_
                 rintro e w3 ⟨rfl, hw3⟩
                 have d3 := d2.trans (hw3.mono d2.size)
                 obtain ⟨fn, tmps, assign, body, hy, hR⟩ := hY (ups v k ++ (List.range j).map (withV v ((k : Int) + 3))) (withV v ((k : Int) + 3) j) w3
                   (hJ _ _ _ none (hJ _ _ _ none (hJ _ _ _ none hJ2 (grown_of hw1) (fun r e => by cases e)) (grown_of hw2) (fun r e => by cases e)) (grown_of hw3) (fun r e => by cases e))
                   (by
                     have := (ins_pre v (j := j) (by omega) hm (by omega)).length_le
                     simp only [List.length_append, List.length_map, List.length_range] at this ⊢
                     omega)))
            refine hR.mono ?_
            rintro e W3 (⟨rfl, hJ3, hk3⟩ | ⟨rfl, hJx3⟩)
            · gi_wp2
              go_roundw
              case rel => exact ⟨j + 1, by simp, by intros; omega, by simp [hm], by rw [List.range_succ, List.map_append, ← List.append_assoc]; exact hJ3, d3.trans hk3⟩
              case measure => simp [intOf]; omega
            · gi_wp2
              refine bodyPost_ret (results_none rfl _ _ _) rfl ?_
              refine ⟨⟨_, rfl⟩, .inr ⟨_, ?_, hJx3⟩⟩
              have := ins_pre v (j := j) (by omega) hm (by omega)
              rwa [List.range_succ, List.map_append, ← List.append_assoc] at this
          · have hm' : mayV v ((k : Int) + 3) = false := by simpa using hm
            have hj : j = 0 := hj0 hm'
            gi_wp2_with (first
              | (refine ⟨trivial, ?_⟩
                 gi_at_call 29
                 refine (callsIn_wide.2 (kc29 g2 ((k : Int) + 3))).mono ?_
                 rintro e w1 ⟨rfl, hw1⟩
                 have d1 := hB2.trans (hw1.mono hB2.size)
                 have g1 := key w1 d1
                 have q0 := (d1.cell (p := ⟨BV, 0, none⟩) hBV).trans b0
                 have q1 := (d1.cell (p := ⟨BV, 1, none⟩) hBV).trans b1
                 have q2 := (d1.cell (p := ⟨BV, 2, none⟩) hBV).trans b2
                 have q3 := (d1.cell (p := ⟨BV, 3, none⟩) hBV).trans b3)
              | (refine ⟨trivial, ?_⟩
                 gi_at_call 31
                 refine (callsIn_wide.2 (kc31 g1 v hl ((k : Int) + 3))).mono ?_
                 rw [hm']
                 rintro e w2 ⟨rfl, hw2⟩
                 have d2 := d1.trans (hw2.mono d1.size)))
            subst hj
            refine ⟨⟨k + 1, by omega, by simp; omega, ?_, d2⟩, by simp [intOf]; omega⟩
            have hJ0 : J (ups v k) wr := by simpa using hJ2
            rw [ups_succ]
            unfold faultsK
            rw [if_neg hm, List.append_nil]
            exact hJ _ _ _ none (hJ _ _ _ none hJ0 (grown_of hw1) (fun r e => by cases e)) (grown_of hw2) (fun r e => by cases e)
        · have hm : mayV v ((k : Int) + 3) = true := by
            cases hm : mayV v ((k : Int) + 3) with
            | true => rfl
            | false => have := hj0 hm; omega
          have hj : j = mostV ((k : Int) + 3) + 1 := by have := hj1 hm; omega
          gi_wp2_with (first
              | (refine ⟨trivial, ?_⟩
                 gi_at_call 29
                 refine (callsIn_wide.2 (kc29 g2 ((k : Int) + 3))).mono ?_
                 rintro e w1 ⟨rfl, hw1⟩
                 have d1 := hB2.trans (hw1.mono hB2.size)
                 have g1 := key w1 d1
                 have q0 := (d1.cell (p := ⟨BV, 0, none⟩) hBV).trans b0
                 have q1 := (d1.cell (p := ⟨BV, 1, none⟩) hBV).trans b1
                 have q2 := (d1.cell (p := ⟨BV, 2, none⟩) hBV).trans b2
                 have q3 := (d1.cell (p := ⟨BV, 3, none⟩) hBV).trans b3))
          refine ⟨trivial, ?_⟩
          gi_wp2
          refine ⟨⟨k + 1, by omega, by simp; omega, ?_, d1⟩, by simp [intOf]; omega⟩
          rw [hj] at hJ2
          rw [ups_succ]
          unfold faultsK
          rw [if_pos hm]
          exact hJ _ _ _ none hJ2 (grown_of hw1) (fun r e => by cases e)
end Go.Proofs.YtjpikgfknnamjaaDoor
