import Derived.Test.YtdkibgdkmnpncaaDoorH8
import Derived.BigQuiet
open Go Go.Proofs Go.Abs Go.RowKit Go.Shelf Go.Deep
set_option linter.unusedVariables false
set_option maxRecDepth 100000
set_option maxHeartbeats 4000000
namespace Go.Proofs.YtdkibgdkmnpncaaDoor
theorem ma {B : Nat} {w w' : World} (h : Below B w w') (n : Nat) : Below B w (w'.drewN n) := ⟨h.os, h.tape, h.output, h.size, h.block⟩
theorem Oe (w : World) (k : Int) {r : Bool} (hr : (decide (1 ≤ k) && decide (k ≤ 6)) = r) : Calls Tryd.prog 13 #[.int .i64 k] w fun e w' => e = .returned (.bool r) ∧ w' = w := by
 subst hr
 go_enter Tryd.func13, Tryd.ntmps13
 by_cases h1 : 1 ≤ k
 ·by_cases h2 : k ≤ 6
  ·have e1 : decide (1 ≤ k) = true := decide_eq_true h1
   have e2 : decide (k ≤ 6) = true := decide_eq_true h2
   go_wp2_with fail
   go_ret
   simp [h1, h2]
  ·have e1 : decide (1 ≤ k) = true := decide_eq_true h1
   have e2 : decide (k ≤ 6) = false := decide_eq_false h2
   go_wp2_with fail
   go_ret
   simp [h1, h2]
 ·have e1 : decide (1 ≤ k) = false := decide_eq_false h1
  go_wp2_with fail
  go_ret
  simp [h1]
section
variable {w : World} {L : ez} {P : jv} {c : ft} {fs : List rG} {lv fv : Value} {na sa ba ca : Option Addr} {nc sc bc cc nb no cb co : Nat} {dv : Value} {s0 : ByteArray} {z3 : Int} {ea : Option Addr} {el ec : Nat} {k : Nat}
theorem CZ (hg : GR w)
  (h0 : w.cell? ⟨nb, no + k * 5, none⟩ = some (.string s0)) {kd : Int} (h1 : w.cell? ⟨nb, no + k * 5 + 1, none⟩ = some (.int .i64 kd)) {len : Int} (h2 : w.cell? ⟨nb, no + k * 5 + 2, none⟩ = some (.int .i64 len))
  (h3 : w.cell? ⟨nb, no + k * 5 + 3, none⟩ = some (.int .i64 z3)) (h4 : w.cell? ⟨nb, no + k * 5 + 4, none⟩ = some (.slice ea el ec)) (hnb : nb < w.heap.size) {nl sl bl cl : Nat} (hkn : k < nl) (hn1 : nl ≤ cj) (hn2 : nl ≤ nc) (h7 : (kd == 7) = false)
  (hs : Hid ((decide (1 ≤ kd) && decide (kd ≤ 6)) = false)) {cv : Value} :
  Calls Tryd.prog 21 #[.agg #[.slice (some ⟨nb, no, none⟩) nl nc, dv], .agg #[.slice sa sl sc, .slice ba bl bc], cv, fv, .int .i64 (k : Int)] w fun e w' => e = .returned (.int .i64 0) ∧ Below w.heap.size w w' := by
 have lim0 : cj = 140737488355328 := rfl
 go_enter Tryd.func21, Tryd.ntmps21
 go_wp2_with fail
 have F := im (Gk w (.slice (some ⟨nb, no, none⟩) nl nc) dv (.slice sa sl sc) (.slice ba bl bc) (.string s0) (.int .i64 kd) (.int .i64 len) (.int .i64 z3) (.slice ea el ec))
 have g1 := F.out.c1
 simp only [w3] at F g1
 clear h0 h1 h2 h3 h4
 go_quiet (first | (go_at_call 13; exact Calls.quiet_of_same (Oe _ _ hs.out)))
 have Hb := im (ma F.out.below nq)
 clear F
 go_wp2_with fail
 go_ret
 exact ⟨rfl, Hb.out⟩
theorem GS (hg : GR w)
  (h0 : w.cell? ⟨nb, no + k * 5, none⟩ = some (.string s0)) {kd : Int} (h1 : w.cell? ⟨nb, no + k * 5 + 1, none⟩ = some (.int .i64 kd)) {len : Int} (h2 : w.cell? ⟨nb, no + k * 5 + 2, none⟩ = some (.int .i64 len))
  (h3 : w.cell? ⟨nb, no + k * 5 + 3, none⟩ = some (.int .i64 z3)) (h4 : w.cell? ⟨nb, no + k * 5 + 4, none⟩ = some (.slice ea el ec)) (hnb : nb < w.heap.size) {nl sl bl cl : Nat} (hkn : k < nl) (hn1 : nl ≤ cj) (hn2 : nl ≤ nc) (h7 : (kd == 7) = false)
  (hs : Hid ((decide (1 ≤ kd) && decide (kd ≤ 6)) = true)) (hkc : k < cl) (hc1 : cl ≤ cj) (hc2 : cl ≤ cc) (hcv : w.cell? ⟨cb, co + k, none⟩ = some (.int .i64 (-1))) (hcb : cb < w.heap.size) :
  Calls Tryd.prog 21 #[.agg #[.slice (some ⟨nb, no, none⟩) nl nc, dv], .agg #[.slice sa sl sc, .slice ba bl bc], .slice (some ⟨cb, co, none⟩) cl cc, fv, .int .i64 (k : Int)] w fun e w' => e = .returned (.int .i64 0) ∧ Below w.heap.size w w' := by
 have lim0 : cj = 140737488355328 := rfl
 go_enter Tryd.func21, Tryd.ntmps21
 go_wp2_with fail
 have F := im (Gk w (.slice (some ⟨nb, no, none⟩) nl nc) dv (.slice sa sl sc) (.slice ba bl bc) (.string s0) (.int .i64 kd) (.int .i64 len) (.int .i64 z3) (.slice ea el ec))
 have g1 := F.out.c1
 simp only [w3] at F g1
 clear h0 h1 h2 h3 h4
 have g3 := (F.out.below.cell (p := ⟨cb, co + k, none⟩) hcb).trans hcv
 clear hcv hcb
 go_quiet (first | (go_at_call 13; exact Calls.quiet_of_same (Oe _ _ hs.out)))
 have Hb := im (ma F.out.below nq)
 clear F
 go_wp2_with fail
 go_ret
 exact ⟨rfl, Hb.out⟩
end
end Go.Proofs.YtdkibgdkmnpncaaDoor
