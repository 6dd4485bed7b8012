/- Chapter 12: what the functions come to; the laws. -/
import Derived.Test.YtjpikgfknnamjaaDoorWb
import Derived.KernelRfl
open Go Go.Proofs Go.Abs
set_option linter.unusedVariables false
set_option maxRecDepth 100000
namespace Go.Proofs.YtjpikgfknnamjaaDoor
section
variable {N gate : Nat} {ns : List Nd} {ds : List Dv} {slots bins : LL} {pl : List Dv}
def costR (ds : List Dv) (slots : LL) (pl : List Dv) (r : RP) : Int × Bool × Unit := if r.1 < 0 ∨ (ds.length : Int) ≤ r.1 then (0, false, ()) else costV (viewV ds slots pl r.1.toNat) r
theorem e20 (c : Ctx N gate ns ds slots bins pl) (r : RP) : sp20 ((ns, ds, ()), (slots, bins, ()), pl, r, ()) = some (costR ds slots pl r, ()) := by
 unfold sp20 costR
 simp only
 by_cases h : r.1 < 0 ∨ (ds.length : Int) ≤ r.1
 ·rw [if_pos h, if_pos h]
 rw [if_neg h, if_neg h]
 obtain ⟨d, hd⟩ : ∃ d : Nat, r.1 = d := ⟨r.1.toNat, by omega⟩
 rw [hd] at h ⊢
 have hdl : d < ds.length := by omega
 obtain ⟨n, w, hn, hw, e1, e2, eb, b0, b8, o1⟩ := ctx_dev c hdl
 rw [lAt_nat _ _ _ hdl, e1, if_neg (by omega), lAt_nat _ _ _ hn, e2, if_neg (by omega), e30 c hdl, Option.bind_some]
 simp only [Int.toNat_natCast]
 rw [if_pos (may_text c hdl).2]
theorem rp_beq (x r : RP) : (x.1 == r.1 && (x.2.1 == r.2.1 && (x.2.2.1 == r.2.2.1 && true))) = decide (x = r) := by
 rw [Bool.eq_iff_iff]
 simp only [Bool.and_eq_true, beq_iff_eq, decide_eq_true_eq, ty0_eq, and_true]
theorem mem_faults (v : VW) (k : Int) (r : RP) : r ∈ faultsK v k ↔ mayV v k = true ∧ ∃ w ≤ mostV k, withV v k w = r := by
 unfold faultsK
 by_cases h : mayV v k = true
 ·rw [if_pos h, List.mem_map]
  constructor
  ·rintro ⟨w, hw, e⟩
   exact ⟨h, w, by have := List.mem_range.1 hw; omega, e⟩
  ·rintro ⟨_, w, hw, e⟩
   exact ⟨w, List.mem_range.2 (by omega), e⟩
 ·rw [if_neg h]
  constructor
  ·intro h'; cases h'
  ·intro h'; exact absurd h'.1 h
theorem e21 (c : Ctx N gate ns ds slots bins pl) (r : RP) : sp21 ((ns, ds, ()), (slots, bins, ()), pl, r, ()) = some (costR ds slots pl r, ()) := by
 show sh21 100000 (ns, ds, ()) (slots, bins, ()) pl r = _
 unfold sh21 costR
 simp only [joinK]
 by_cases h0 : r.1 < 0
 ·rw [if_pos (decide_eq_true h0), if_pos (.inl h0)]
  simp only [sh21_K0]
  rw [if_pos trivial]
 rw [if_neg (by simpa using h0)]
 by_cases h1 : (ds.length : Int) ≤ r.1
 ·rw [decide_eq_true h1, if_pos (.inr h1)]
  simp only [sh21_K0]
  rw [if_pos trivial]
 rw [decide_eq_false h1, if_neg (by omega)]
 obtain ⟨d, hd⟩ : ∃ d : Nat, r.1 = d := ⟨r.1.toNat, by omega⟩
 have hdl : d < ds.length := by omega
 simp only [sh21_K0, joinK]
 rw [if_neg (by decide)]
 simp only [hd, Int.toNat_natCast]
 rw [e38 c hdl, Option.bind_some]
 generalize hv : viewV ds slots pl d = v
 have hrb := rp_beq (rightV v) r
 rw [hd] at hrb
 simp only
 rw [hrb]
 unfold costV
 by_cases hr : r = rightV v
 ·rw [if_pos (decide_eq_true hr.symm), if_pos hr]
 rw [if_neg (by simpa using fun e => hr e.symm), if_neg hr]
 have rr : r = (r.1, r.2) := rfl
 refine (iter_idx (F := sh21_L4 100000 sh21_K2) (bad := some ((1, true, ()), ())) (fin := some ((0, false, ()), ())) 4 (fun q => !decide (r ∈ faultsK v ((q + 3 : Nat) : Int))) (fun q : Nat => (((q + 3 : Nat) : Int), (ns, ds, ()), (slots, bins, ()), r, rightV v, ())) 100000 (by decide) (fun rc q hq => ?_) (fun rc => ?_)).trans ?_
 ·have hup : IntKind.i64.wrap (((q + 3 : Nat) : Int) + 1) = ((q + 1 + 3 : Nat) : Int) := by rw [wrapI (by omega) (by omega)]; omega
  simp only [sh21_L4, joinK]
  rw [if_pos (decide_eq_true (by omega))]
  generalize hk : ((q + 3 : Nat) : Int) = k at hup
  have hk36 : 3 ≤ k ∧ k ≤ 6 := by omega
  refine (iter_idx (F := sh21_L7 (sh21_K5 rc)) (bad := some ((1, true, ()), ())) (fin := rc (((q + 1 + 3 : Nat) : Int), (ns, ds, ()), (slots, bins, ()), r, rightV v, ())) 10 (fun w => !(decide (w ≤ mostV k) && (mayV v k && decide (withV v k w = r)))) (fun w : Nat => (k, (w : Int), (ns, ds, ()), (slots, bins, ()), r, rightV v, ())) 100000 (by decide) (fun rc2 w hw => ?_) (fun rc2 => ?_)).trans ?_
  ·have hup2 : IntKind.i64.wrap ((w : Int) + 1) = ((w + 1 : Nat) : Int) := wrapI (by omega) (by omega)
   simp only [sh21_L7, joinK, hd]
   rw [if_pos (decide_eq_true (by omega)), e36 (k, (d : Int), (w : Int), ()) hk36, Option.bind_some]
   simp only [sh21_K8, hup2]
   rw [decide_eq_true (show (0 : Int) ≤ (w : Int) by omega), Bool.true_and]
   by_cases hm : w ≤ mostV k
   ·rw [decide_eq_true (show (w : Int) ≤ (mostV k : Int) by omega), if_pos rfl, e37 c (k, (d : Int), (w : Int), ()) hdl rfl, Option.bind_some, hv, decide_eq_true hm, Bool.true_and]
    simp only
    by_cases hy : mayV v k = true
    ·have hy' := hy
     rw [← hv] at hy'
     have hwo := with_ok c hdl hk36 (w := w) (by omega) hy'
     rw [hv] at hwo
     rw [if_pos hy, e39 v (k, (d : Int), (w : Int), ()) w rfl hwo, Option.bind_some, hy, Bool.true_and]
     have hb := rp_beq (withV v k w) r
     rw [hd] at hb
     simp only
     rw [hb]
     by_cases he : withV v k w = r
     ·rw [decide_eq_true he, if_pos rfl, if_neg (by decide)]
     ·rw [decide_eq_false he, if_neg (by decide), if_pos (by decide)]
    ·rw [if_neg hy, if_neg (by decide)]
     rw [Bool.not_eq_true] at hy
     rw [hy, Bool.false_and, if_pos (by decide)]
   ·rw [decide_eq_false (show ¬ (w : Int) ≤ (mostV k : Int) by omega), if_neg (by decide), if_neg (by decide), decide_eq_false hm, Bool.false_and, if_pos (by decide)]
  ·simp only [sh21_L7]
   rw [if_neg (by simp)]
   simp only [sh21_K5, hup]
  ·have e : (List.range 10).all (fun w => !(decide (w ≤ mostV k) && (mayV v k && decide (withV v k w = r)))) = !decide (r ∈ faultsK v k) := by
    rw [Bool.eq_iff_iff]
    simp only [List.all_eq_true, List.mem_range, Bool.not_eq_true', Bool.and_eq_false_iff, decide_eq_false_iff_not, mem_faults]
    constructor
    ·rintro h ⟨h1, w, h2, h3⟩
     have hm9 : mostV k ≤ 9 := by unfold mostV; split <;> omega
     rcases h w (by omega) with h | h | h
     ·exact h h2
     ·rw [h1] at h; cases h
     ·exact h h3
    ·intro h w hw
     by_cases h2 : w ≤ mostV k
     ·by_cases h1 : mayV v k = true
      ·exact .inr (.inr fun h3 => h ⟨h1, w, h2, h3⟩)
      ·exact .inr (.inl (by simpa using h1))
     ·exact .inl h2
   rw [e]
 ·simp only [sh21_L4]
  rw [if_neg (by simp)]; rfl
 ·have e : (List.range 4).all (fun q => !decide (r ∈ faultsK v ((q + 3 : Nat) : Int))) = !decide (r ∈ faultsV v) := by
   show ((!decide (r ∈ faultsK v 3)) && ((!decide (r ∈ faultsK v 4)) && ((!decide (r ∈ faultsK v 5)) && ((!decide (r ∈ faultsK v 6)) && true)))) = _
   rw [Bool.eq_iff_iff]
   simp only [Bool.and_eq_true, Bool.not_eq_true', decide_eq_false_iff_not, and_true, faultsV, List.mem_append, not_or]
  rw [e]
  by_cases hm : r ∈ faultsV v
  ·rw [decide_eq_true hm, if_neg (by decide), if_pos hm]
  ·rw [decide_eq_false hm, if_pos (by decide), if_neg hm]
end
theorem law4 (x : IL × Ty0 × Int × Int × Unit) (e7 : sp7 () = some (true, ())) : sp4 x = some (true, ()) := by
 obtain ⟨l, raw, at_, by_, ⟨⟩⟩ := x
 show sh4 100000 l raw at_ by_ = _
 unfold sh4
 by_cases h60 : (60 : Int) < (raw.2.2.1.length : Int)
 ·rw [if_pos (decide_eq_true h60), e7]; rfl
 rw [if_neg (by simpa using h60)]
 obtain ⟨s0, h0, k0⟩ := e8 l
 obtain ⟨N, gate, ns, ds, s1, h1, k1, hlay, hdev⟩ := e9 k0
 obtain ⟨slots, bins, s2, h2, k2, hpl⟩ := e10 hlay ds 8 (by decide) (by decide) k1
 obtain ⟨pl, s3, h3, k3, hnum⟩ := e11 k2
 have c : Ctx N gate ns ds slots bins pl := ⟨hlay, hdev, hpl, hnum⟩
 have hdl := hdev.len
 have hpn := hnum.len
 rw [h0, Option.bind_some, h1, Option.bind_some]
 simp only
 rw [h2, Option.bind_some]
 simp only
 rw [h3, Option.bind_some]
 simp only [joinK]
 have st : (at_, by_, (-1 : Int), raw, s3, (ns, ds, ()), (slots, bins, ()), pl, ()) = (at_, by_, ((0 : Nat) : Int) - 1, raw, s3, (ns, ds, ()), (slots, bins, ()), pl, ()) := rfl
 rw [st]
 refine iter_post (F := sh4_L12 100000 sh4_K5) (fun k z => ∃ s : Sr, z = (at_, by_, (k : Int) - 1, raw, s, (ns, ds, ()), (slots, bins, ()), pl, ()) ∧ SrOk s) (fun o => o = some (true, ())) (ds.length + 2) 100000 (by omega) ⟨s3, rfl, k3⟩ (fun rc k z hk hz => ?_) (fun rc z hz => ?_)
 ·obtain ⟨s, rfl, ks⟩ := hz
  obtain ⟨v, s4, hv, v1, v2, k4⟩ := e18 ks 8 (by decide) (by decide)
  obtain ⟨u, hu, u1, u2⟩ := e19 at_ 10 (by decide) (by decide)
  have hup : IntKind.i64.wrap (((k : Int) - 1) + 1) = (((k + 1 : Nat) : Int) - 1) := by rw [wrapI (by omega) (by omega)]; omega
  have hvl : v.toNat < pl.length := by omega
  have hg : pl.getD v.toNat (0, 0, 0, ()) = pl[v.toNat] := by rw [List.getD, List.getElem?_eq_getElem hvl]; rfl
  have hpg := hnum.ok _ (List.getElem_mem hvl)
  have htl := fmtP_len pl[v.toNat]
  have hob : (ofBytes (fmtP pl[v.toNat])).length = 10 := by rw [ofB_len]; exact htl
  simp only [sh4_L12, joinK]
  rw [if_pos (decide_eq_true (by omega)), hv, Option.bind_some]
  simp only
  rw [if_pos (inR_int v1 (by omega)), if_pos (decide_eq_true (by omega)), hg, e17 hpg, Option.bind_some]
  simp only
  rw [if_pos (dlim (by omega)), hu, Option.bind_some]
  simp only
  rw [if_pos (inR_int u1 (by omega)), if_pos (decide_eq_true (by omega)), if_pos (inR_int u1 (by omega)), if_pos (decide_eq_true (by omega))]
  generalize hd : ((k : Int) - 1) = d at hup
  suffices hs : ∀ L : List Ty0, L.length ≤ 1000 → iter 100000 (sh4_L18 (sh4_K13 rc)) (at_, by_, d, (L.length : Int), 0, raw, s4, (ns, ds, ()), (slots, bins, ()), pl, L, ()) = rc (at_, by_, (((k + 1 : Nat) : Int) - 1), raw, s4, (ns, ds, ()), (slots, bins, ()), pl, ()) by
   exact ⟨_, hs _ (by simp), s4, rfl, k4⟩
  intro L hL
  refine iter_count (F := sh4_L18 (sh4_K13 rc)) (fun q : Nat => (at_, by_, d, (L.length : Int), (q : Int), raw, s4, (ns, ds, ()), (slots, bins, ()), pl, L, ())) L.length 100000 (by omega) (fun rc2 q hq => ?_) (fun rc2 => ?_)
  ·simp only [sh4_L18, joinK]
   rw [if_pos (by simpa using hq), if_pos (inR_nat hq), if_pos (decide_eq_true (by simp only [Int.toNat_natCast]; omega)), e20 c, Option.bind_some, e21 c, Option.bind_some]
   simp only
   rw [if_neg (by simp)]
   simp only [sh4_K21]
   rw [if_neg (by simp), up1' hq]
  ·simp only [sh4_L18]
   rw [if_neg (by simp)]
   simp only [sh4_K13, hup]
 ·obtain ⟨s, rfl, ks⟩ := hz
  simp only [sh4_L12]
  rw [if_neg (by simp only [decide_eq_true_eq]; omega)]
  simp only [sh4_K5, joinK, sh4_K8]
  rw [e20 c, Option.bind_some, e21 c, Option.bind_some]
  simp only
  rw [if_pos (by simp), if_pos (by simp), e7]; rfl
section
variable {N gate : Nat} {ns : List Nd} {ds : List Dv} {slots bins : LL} {pl : List Dv}
theorem bag_text (c : Ctx N gate ns ds slots bins pl) {d : Nat} (hd : d < ds.length) (h2 : ds[d].1 = 2) {b : Nat} (hb : b < 12) (hbl : b < pl.length) :
  ((d : Int), true, fmtP pl[b], ()) = rightV (viewV ds slots pl d) ↔ bagV ds slots d = (b : Int) + 1 := by
 obtain ⟨n, w, hn, hw, e1, e2, eb, b0, b8, o1⟩ := ctx_dev c hd
 have hk : (viewV ds slots pl d).2.1 = 2 := by show (ds.getD d (0, 0, 0, ())).1 = _; rw [getDev hd]; exact h2
 have hr : rightV (viewV ds slots pl d) = ((d : Int), bagV ds slots d != 0, (if ((2 : Int) == 2 && bagV ds slots d != 0) = true then textV ds slots pl d else []), ()) := by
  unfold rightV; rw [hk]; rfl
 rw [hr]
 by_cases h0 : bagV ds slots d = 0
 ·rw [h0]
  constructor
  ·intro h
   have := congrArg (fun r : RP => r.2.1) h
   cases this
  ·intro h; omega
 ·have hbb : (bagV ds slots d != 0) = true := by simpa using h0
  obtain ⟨hpl, pg, ht, _⟩ := ctx_plate c hd h0
  rw [hbb, if_pos (by decide), ht]
  constructor
  ·intro h
   have h := congrArg (fun r : RP => r.2.2.1) h
   have he := fmtP_inj (c.num.ok _ (List.getElem_mem hbl)) pg h
   have hi : b = (bagV ds slots d - 1).toNat := (List.getElem_inj c.num.nd).1 he
   omega
  ·intro h
   have hi : (bagV ds slots d - 1).toNat = b := by omega
   simp only [hi]
theorem no_fault (c : Ctx N gate ns ds slots bins pl) {d : Nat} (hd : d < ds.length) (h2 : ds[d].1 = 2) (h0 : bagV ds slots d = 0) : faultsV (viewV ds slots pl d) = [] := by
 have hk : (viewV ds slots pl d).2.1 = 2 := by show (ds.getD d (0, 0, 0, ())).1 = _; rw [getDev hd]; exact h2
 have hb : (viewV ds slots pl d).2.2.1 = 0 := h0
 have hm : ∀ k, mayV (viewV ds slots pl d) k = false := fun k => by
  unfold mayV
  rw [hk, hb]
  split
  ·rfl
  ·split <;> rfl
 unfold faultsV faultsK
 simp only [hm]
 rfl
end
theorem law6 (x : IL × Int × Unit) (e7 : sp7 () = some (true, ())) : sp6 x = some (true, ()) := by
 obtain ⟨l, which, ⟨⟩⟩ := x
 show sh6 100000 l which = _
 unfold sh6
 obtain ⟨s0, h0, k0⟩ := e8 l
 obtain ⟨N, gate, ns, ds, s1, h1, k1, hlay, hdev⟩ := e9 k0
 obtain ⟨slots, bins, s2, h2, k2, hpl⟩ := e10 hlay ds 8 (by decide) (by decide) k1
 obtain ⟨pl, s3, h3, k3, hnum⟩ := e11 k2
 have c : Ctx N gate ns ds slots bins pl := ⟨hlay, hdev, hpl, hnum⟩
 have hdl := hdev.len
 have hpn := hnum.len
 rw [h0, Option.bind_some, h1, Option.bind_some]
 simp only
 rw [h2, Option.bind_some]
 simp only
 rw [h3, Option.bind_some]
 simp only [joinK]
 refine iter_count (F := sh6_L7 sh6_K4) (fun d : Nat => (which, (d : Int), (ns, ds, ()), (slots, bins, ()), pl, ())) ds.length 100000 (by omega) (fun rc d hd => ?_) (fun rc => ?_)
 ·have hup : IntKind.i64.wrap ((d : Int) + 1) = ((d + 1 : Nat) : Int) := wrapI (by omega) (by omega)
  simp only [sh6_L7, joinK]
  rw [if_pos (by simpa using hd), if_pos (inR_nat hd), lAt_nat _ _ _ hd]
  by_cases hk : ds[d].1 = 2
  ·obtain ⟨u, hu, u1, u2⟩ := e19 which 12 (by decide) (by decide)
   obtain ⟨b, rfl⟩ : ∃ b : Nat, u = b := ⟨u.toNat, by omega⟩
   obtain ⟨n, w, hn, hw, e1, e2, eb, b0, b8, o1⟩ := ctx_dev c hd
   have hbl : b < pl.length := by omega
   have w1 : IntKind.i64.wrap (1 + (b : Int)) = (b : Int) + 1 := by rw [wrapI (by omega) (by omega)]; omega
   have w2 : IntKind.i64.wrap ((b : Int) + 1 - 1) = (b : Int) := by rw [wrapI (by omega) (by omega)]; omega
   have hg : pl.getD b (0, 0, 0, ()) = pl[b] := by rw [List.getD, List.getElem?_eq_getElem hbl]; rfl
   rw [if_neg (by rw [hk]; decide), hu, Option.bind_some]
   simp only [w1, w2]
   rw [if_pos (inR_nat hbl), if_pos (decide_eq_true (by simp only [Int.toNat_natCast]; omega))]
   simp only [Int.toNat_natCast, hg]
   rw [e17 (hnum.ok _ (List.getElem_mem hbl)), Option.bind_some, e20 c, Option.bind_some, e1, if_pos (inR_nat hn), lAt_nat _ _ _ hn, e2, if_pos (inR_nat hw), lAt_nat _ _ _ hw, ← eb]
   have hcost : costR ds slots pl ((d : Int), true, fmtP pl[b], ()) = costV (viewV ds slots pl d) ((d : Int), true, fmtP pl[b], ()) := by
    unfold costR
    rw [if_neg (by simp only; omega)]
    rfl
   have hbt := bag_text c hd hk (b := b) (by omega) hbl
   have fin : ∀ z, sh6_K13 (sh6_K8 rc) (which, (d : Int), false, z) = rc (which, ((d + 1 : Nat) : Int), z) := fun z => by
    simp only [sh6_K13, sh6_K8, hup]
    rw [if_neg (by decide)]
   simp only [hcost]
   by_cases hbag : bagV ds slots d = (b : Int) + 1
   ·have hne : bagV ds slots d ≠ 0 := by omega
    have hc : costV (viewV ds slots pl d) ((d : Int), true, fmtP pl[b], ()) = (0, true, ()) := by unfold costV; rw [if_pos (hbt.2 hbag)]
    rw [hc]
    simp only
    rw [if_pos trivial, hbag, if_neg (by simp), if_neg (by simp; omega)]
    exact fin _
   ·have hnr : ¬ ((d : Int), true, fmtP pl[b], ()) = rightV (viewV ds slots pl d) := fun h => hbag (hbt.1 h)
    have hbf : (bagV ds slots d == (b : Int) + 1) = false := by simpa using hbag
    by_cases hmem : ((d : Int), true, fmtP pl[b], ()) ∈ faultsV (viewV ds slots pl d)
    ·have hne : bagV ds slots d ≠ 0 := fun h => by rw [no_fault c hd hk h] at hmem; cases hmem
     have hc : costV (viewV ds slots pl d) ((d : Int), true, fmtP pl[b], ()) = (1, true, ()) := by unfold costV; rw [if_neg hnr, if_pos hmem]
     rw [hc, hbf]
     simp only
     rw [if_pos trivial, if_neg (by decide), if_neg (by simpa using hne)]
     exact fin _
    ·have hc : costV (viewV ds slots pl d) ((d : Int), true, fmtP pl[b], ()) = (0, false, ()) := by unfold costV; rw [if_neg hnr, if_neg hmem]
     rw [hc, hbf]
     simp only
     rw [if_neg (by decide), if_neg (by decide)]
     split <;> exact fin _
  ·rw [if_pos (by simpa using hk)]
   simp only [sh6_K8, hup]
 ·simp only [sh6_L7]
  rw [if_neg (by simp)]
  simp only [sh6_K4]
  rw [e7]; rfl
end Go.Proofs.YtjpikgfknnamjaaDoor
