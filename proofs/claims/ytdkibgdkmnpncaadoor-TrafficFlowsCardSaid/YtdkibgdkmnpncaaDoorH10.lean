/- The reference's Last: a strip whose last bag wants to go. -/
import Derived.Test.YtdkibgdkmnpncaaDoorH9
open Go Go.Proofs Go.Abs Go.RowKit Go.Shelf Go.Deep
set_option linter.unusedVariables false
set_option maxRecDepth 100000
set_option maxHeartbeats 8000000
namespace Go.Proofs.YtdkibgdkmnpncaaDoor
theorem SG (w : World) (a1 a2 b1 b2 c0 c1 c2 c3 c4 : Value) : (w3 w a1 a2 b1 b2 c0 c1 c2 c3 c4).cell? ⟨w.heap.size, 1, none⟩ = some a2 := by
  have k1 : Below (w.heap.size + 1) (w.alloc (.cells #[a1, a2] 28)) (w3 w a1 a2 b1 b2 c0 c1 c2 c3 c4) := ((Below.refl _ _).alloc (by simp) _).alloc (by simp) _
  rw [k1.cell (p := ⟨w.heap.size, 1, none⟩) (Nat.lt_succ_self _), kj]; rfl
theorem Rs {w : World} (hg : GR w) {L : ez} {lv fv : Value} {fs : List rG} (hl : Slot w NN (.agg (ka.cF L)) lv) (hf : Slot w NN ((Ty.sl lT).av fs) fv) (n : Int) {A : List (Int × Unit)} {m : Nat} (hs : Hv (L, fs, n, ()) = some (A, ())) (hA : A.length = m + 1) :
    Calls Tryd.prog 38 #[lv, fv, .int .i64 n] w fun e w' => ∃ b cap, e = .returned (.slice (some ⟨b, 0, none⟩) (m + 1) cap) ∧ m + 1 ≤ cap ∧ b < w'.heap.size ∧ w'.cell? ⟨b, m, none⟩ = some (.int .i64 (A.getD m (0, ())).1) ∧ Below w.heap.size w w' :=
  (Vy hg hl hf n hs (by omega)).mono fun e w' ⟨h1, b, cap, h2, h3, h4, h5⟩ => ⟨b, cap, by rw [← hA]; exact h2, by omega, h4, h5 m (by omega), h1⟩
section
variable {w : World} {L : ez} {fs : List rG} {fv : Value} {ba da : Option Addr} {nc sc bc cc nb no cb co sb so tb to dl dc : Nat} {s0 : ByteArray} {z3 : Int} {ea : Option Addr} {el ec : Nat} {k m : Nat}
theorem K4 (hg : GR w) {nl sl bl cl tl tc : Nat}
    (hl : Hid (Slot w NN (.agg (ka.cF L)) (.agg #[.slice (some ⟨nb, no, none⟩) nl nc, .slice da dl dc]))) (hf : Hid (Slot w NN ((Ty.sl lT).av fs) fv))
    (h0 : w.cell? ⟨nb, no + k * 5, none⟩ = some (.string s0)) {kd : Int} (h1 : w.cell? ⟨nb, no + k * 5 + 1, none⟩ = some (.int .i64 kd)) {len : Int} (h2 : w.cell? ⟨nb, no + k * 5 + 2, none⟩ = some (.int .i64 len))
    (h3 : w.cell? ⟨nb, no + k * 5 + 3, none⟩ = some (.int .i64 z3)) (h4 : w.cell? ⟨nb, no + k * 5 + 4, none⟩ = some (.slice ea el ec)) (hnb : nb < w.heap.size) (hkn : k < nl) (hn1 : nl ≤ cj) (hn2 : nl ≤ nc) (h7 : (kd == 7) = false)
    (hs : Hid ((decide (1 ≤ kd) && decide (kd ≤ 6)) = true)) (hkc : k < cl) (hc1 : cl ≤ cj) (hc2 : cl ≤ cc) {cn : Int} (hcv : w.cell? ⟨cb, co + k, none⟩ = some (.int .i64 cn)) (hcb : cb < w.heap.size) (hcn : (cn == -1) = false)
    (hlen : IntKind.i64.wrap (len - 1) = (m : Int)) (hm : m < 1000) {A : List (Int × Unit)} (hA : Hid (Hv (L, fs, (k : Int), ()) = some (A, ()))) (hAl : Hid (A.length = m + 1)) {al : Int} (hal : Hid ((A.getD m (0, ())).1 = al))
    (hks : k < sl) (hs1 : sl ≤ cj) (hs2 : sl ≤ sc) (hsv : w.cell? ⟨sb, so + k, none⟩ = some (.slice (some ⟨tb, to, none⟩) tl tc)) (hsb : sb < w.heap.size) (hmt : m < tl) (ht1 : tl ≤ cj) (ht2 : tl ≤ tc) {v : Int} (htv : w.cell? ⟨tb, to + m, none⟩ = some (.int .i64 v)) (htb : tb < w.heap.size) :
    Calls Tryd.prog 21 #[.agg #[.slice (some ⟨nb, no, none⟩) nl nc, .slice da dl dc], .agg #[.slice (some ⟨sb, so, none⟩) sl sc, .slice ba bl bc], .slice (some ⟨cb, co, none⟩) cl cc, fv, .int .i64 (k : Int)] w fun e w' => e = .returned (.int .i64 (if al = 1 then 0 else v)) ∧ Below w.heap.size w w' := by
  have lim0 : cj = 140737488355328 := rfl
  go_enter Tryd.func21, Tryd.ntmps21
  go_wp2_with fail
  have F := im (Gk w (.slice (some ⟨nb, no, none⟩) nl nc) (.slice da dl dc) (.slice (some ⟨sb, so, none⟩) sl sc) (.slice ba bl bc) (.string s0) (.int .i64 kd) (.int .i64 len) (.int .i64 z3) (.slice ea el ec)).drew
  have g0 := F.out.a1
  have g5 := SG w (.slice (some ⟨nb, no, none⟩) nl nc) (.slice da dl dc) (.slice (some ⟨sb, so, none⟩) sl sc) (.slice ba bl bc) (.string s0) (.int .i64 kd) (.int .i64 len) (.int .i64 z3) (.slice ea el ec)
  have g1 := F.out.c1
  have g2 := F.out.c2
  have g3 := (F.out.below.cell (p := ⟨cb, co + k, none⟩) hcb).trans hcv
  have Hsv := im ((F.out.below.cell (p := ⟨sb, so + k, none⟩) hsb).trans hsv)
  have Htv := im ((F.out.below.cell (p := ⟨tb, to + m, none⟩) htb).trans htv)
  have Hcv := im hcv
  have Hsb := im (Nat.lt_of_lt_of_le hsb F.out.below.size)
  have Htb := im (Nat.lt_of_lt_of_le htb F.out.below.size)
  replace g5 : (w3 w (.slice (some ⟨nb, no, none⟩) nl nc) (.slice da dl dc) (.slice (some ⟨sb, so, none⟩) sl sc) (.slice ba bl bc) (.string s0) (.int .i64 kd) (.int .i64 len) (.int .i64 z3) (.slice ea el ec)).drew.cell? ⟨w.heap.size, 1, none⟩ = some (.slice da dl dc) := g5
  simp only [w3] at F g0 g1 g2 g3 g5 Hsv Htv Hsb Htb
  clear h0 h1 h2 h3 h4 hcv hsv htv hnb hkn hn1 hn2 hcb hsb htb
  go_region_with (first
    | (go_at_call 13
       refine (Oe _ _ hs.out).mono ?_
       rintro e w1 ⟨rfl, rfl⟩)
    | (go_at_call 38
       refine (Rs (GR.below hg (Nat.le_refl _) F.out.below) (vp hl.out F.out.below) (vp hf.out F.out.below) _ hA.out hAl.out).mono ?_
       rintro e w1 ⟨b, cap, rfl, hcap, hbw, hcell, hw1⟩
       rw [hal.out] at hcell
       have F1 := im (F.out.next hw1)
       have g6 := F1.out.c2
       clear hbw))
  all_goals (
    clear g0 g1 g2 g3 g5
    try clear g6
    have k3 := (hw1.cell (p := ⟨sb, so + k, none⟩) Hsb.out).trans Hsv.out
    have k4 := (hw1.cell (p := ⟨tb, to + m, none⟩) Htb.out).trans Htv.out
    have k1 := F1.out.b1
    have k2 := F1.out.c2
    have Hb := im F1.out.below
    clear hw1 F F1 Hsv Htv Hsb Htb hcell hl hf hg
    by_cases e1 : al = 1
    · have e2 : (al == 1) = true := by simpa using e1
      have E1 := im e1
      clear e1 hal
      go_wp2_with fail
      go_ret
      exact ⟨by first | rfl | (rw [if_pos E1.out]; done) | (rw [if_pos E1.out]; rfl), Hb.out⟩
    · have e2 : (al == 1) = false := by simpa using e1
      have E1 := im e1
      clear e1 hal
      go_wp2_with fail
      first
        | go_ret
        | (go_quiet (fail)
           have Hb := im (ma Hb.out nq)
           go_wp2_with fail
           go_ret)
      exact ⟨by first | rfl | (rw [if_neg E1.out]; done) | (rw [if_neg E1.out]; rfl), by first | exact Hb.out | exact Hb.out.drew⟩)
end
end Go.Proofs.YtdkibgdkmnpncaaDoor
