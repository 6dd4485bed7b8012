/- Chapter 12: what the functions come to; the laws. -/
import Derived.Test.YtjpikgfknnamjaaDoorWb
import Derived.KernelRfl
open Go Go.Proofs Go.Abs
set_option linter.unusedVariables false
set_option maxRecDepth 100000
namespace Go.Proofs.YtjpikgfknnamjaaDoor
section
variable {N gate : Nat} {ns : List Nd} {ds : List Dv} {slots bins : LL} {pl : List Dv}
theorem repQ_right (fs : List Dv) (d : Nat) : ∀ q, (∀ j < q, (fs.getD j (0, 0, 0, ())).2.1 ≠ (d : Int)) → repQ ds slots pl fs q d = rightV (viewV ds slots pl d)
 | 0, _ => rfl
 | q + 1, h => by
  simp only [repQ]
  rw [if_neg (h q (Nat.lt_succ_self q)), repQ_right fs d q fun j hj => h j (Nat.lt_succ_of_lt hj)]
theorem dup_no {fs : List Dv} {q : Nat} (hq : q < fs.length) (h : dupAt fs q = false) {j : Nat} (hj : j < q) : (fs.getD j (0, 0, 0, ())).2.1 ≠ (fs.getD q (0, 0, 0, ())).2.1 := by
 unfold dupAt at h
 have hm : fs[j] ∈ fs.take q := by
  have : (fs.take q)[j]'(by rw [List.length_take]; omega) = fs[j] := List.getElem_take
  rw [← this]; exact List.getElem_mem _
 have := List.any_eq_false.1 h _ hm
 rw [List.getD, List.getElem?_eq_getElem (show j < fs.length by omega)]
 simp only [beq_iff_eq] at this
 exact fun e => this e.symm
theorem k1_15 (c : Ctx N gate ns ds slots bins pl) (fs : List Dv) (h4 : fs.length ≤ 4) (hok : ∀ f ∈ fs, errF ds slots pl f = 0) (hdup : ∀ i < fs.length, dupAt fs i = false) :
  sh15_K1 100000 (pl, fs, (ns, ds, ()), (slots, bins, ()), ()) = some ((repsV ds slots pl fs, 0, ()), ()) := by
 have hdl := c.dev.len
 simp only [sh15_K1, joinK]
 refine iter_count (F := sh15_L4 100000 sh15_K2) (fun d : Nat => (pl, fs, (d : Int), (ns, ds, ()), (slots, bins, ()), (List.range d).map (repQ ds slots pl fs fs.length), ())) ds.length 100000 (by omega) (fun rc d hd => ?_) (fun rc => ?_)
 ·simp only [sh15_L4, joinK]
  rw [if_pos (by simpa using hd), e38 c hd, Option.bind_some]
  simp only
  refine iter_count (F := sh15_L10 (sh15_K8 (sh15_K5 rc))) (fun q : Nat => (pl, fs, (d : Int), (q : Int), (ns, ds, ()), (slots, bins, ()), repQ ds slots pl fs q d, (List.range d).map (repQ ds slots pl fs fs.length), ())) fs.length 100000 (by omega) (fun rc2 q hq => ?_) (fun rc2 => ?_)
  ·have gq : fs.getD q (0, 0, 0, ()) = fs[q] := by rw [List.getD, List.getElem?_eq_getElem hq]; rfl
   have hup : IntKind.i64.wrap ((q : Int) + 1) = ((q + 1 : Nat) : Int) := wrapI (by omega) (by omega)
   simp only [sh15_L10, joinK, sh15_K11, repQ, gq]
   rw [if_pos (by simpa using hq), if_pos (inR_nat hq), lAt_nat _ _ _ hq, hup]
   by_cases hn : fs[q].2.1 = (d : Int)
   ·obtain ⟨k1, k2, n1, n2, w1, w2, hm⟩ := err_ok (hok fs[q] (List.getElem_mem hq))
    obtain ⟨w, ew⟩ : ∃ w : Nat, fs[q].2.2.1 = w := ⟨(fs[q].2.2.1).toNat, by omega⟩
    rw [hn] at hm
    rw [ew] at w2
    simp only [Int.toNat_natCast] at hm
    have hw := with_ok c hd ⟨k1, k2⟩ w2 hm
    have hr := repQ_right (ds := ds) (slots := slots) (pl := pl) fs d q fun j hj => by
     have := dup_no hq (hdup q hq) hj
     rw [gq, hn] at this
     exact this
    rw [if_pos (by simpa using hn), if_pos (inR_nat hq), hr, e39 (viewV ds slots pl d) fs[q] w ew hw, Option.bind_some, if_pos hn, ew]
    rfl
   ·rw [if_neg (by simpa using hn), if_neg hn]
  ·simp only [sh15_L10]
   rw [if_neg (by simp)]
   simp only [sh15_K8, sh15_K5]
   rw [if_pos (dlim (by simp only [List.length_map, List.length_range]; omega)), if_pos (dlim (by simp only [List.length_map, List.length_range]; omega)), up1' hd, List.range_succ, List.map_append]
   rfl
 ·simp only [sh15_L4]
  rw [if_neg (by simp)]
  rfl
theorem e15 (c : Ctx N gate ns ds slots bins pl) (fs : List Dv) (hfs : fs.length ≤ 1000) : sp15 ((ns, ds, ()), (slots, bins, ()), pl, fs, ()) = some (obsV ds slots pl fs, ()) := by
 have hdl := c.dev.len
 show sh15 100000 (ns, ds, ()) (slots, bins, ()) pl fs = _
 unfold sh15 obsV
 by_cases h4 : 4 < fs.length
 ·rw [if_pos (decide_eq_true (by omega)), if_pos h4]
 rw [if_neg (by simp only [decide_eq_true_eq]; omega), if_neg h4]
 simp only [joinK]
 refine (iter_first (F := sh15_L20 (sh15_K0 100000)) (fin := sh15_K0 100000 (pl, fs, (ns, ds, ()), (slots, bins, ()), ())) fs (errF ds slots pl) (fun e => some (([], e, ()), ())) (fun k => (pl, fs, (k : Int), (ns, ds, ()), (slots, bins, ()), ())) 100000 (by omega) (fun rc k hk => ?_) (fun rc => ?_)).trans ?_
 ·have hup : IntKind.i64.wrap ((k : Int) + 1) = ((k + 1 : Nat) : Int) := wrapI (by omega) (by omega)
  simp only [sh15_L20, joinK]
  rw [if_pos (by simpa using hk), if_pos (inR_nat hk), lAt_nat _ _ _ hk]
  by_cases c1 : fs[k].1 < 3
  ·have e : errF ds slots pl fs[k] = 4 := by unfold errF; rw [if_pos (.inl c1)]
   rw [if_pos (decide_eq_true c1), e, if_neg (by decide)]
   rfl
  rw [if_neg (by simpa using c1)]
  simp only [sh15_K21, joinK]
  by_cases c2 : 6 < fs[k].1
  ·have e : errF ds slots pl fs[k] = 4 := by unfold errF; rw [if_pos (.inr c2)]
   rw [decide_eq_true c2, if_pos rfl, e, if_neg (by decide)]
  have nk : ¬ (fs[k].1 < 3 ∨ 6 < fs[k].1) := by omega
  rw [decide_eq_false c2, if_neg (by decide)]
  by_cases n1 : fs[k].2.1 < 0
  ·have e : errF ds slots pl fs[k] = 1 := by unfold errF; rw [if_neg nk, if_pos (.inl n1)]
   rw [if_pos (decide_eq_true n1), e, if_neg (by decide)]; rfl
  rw [if_neg (by simpa using n1)]
  by_cases n2 : (ds.length : Int) ≤ fs[k].2.1
  ·have e : errF ds slots pl fs[k] = 1 := by unfold errF; rw [if_neg nk, if_pos (.inr (.inl n2))]
   rw [if_pos (decide_eq_true n2), e, if_neg (by decide)]; rfl
  rw [if_neg (by simpa using n2), e36 fs[k] (by omega), Option.bind_some]
  simp only [sh15_K22]
  by_cases w1 : fs[k].2.2.1 < 0
  ·have e : errF ds slots pl fs[k] = 1 := by unfold errF; rw [if_neg nk, if_pos (.inr (.inr (.inl w1)))]
   rw [decide_eq_false (show ¬ 0 ≤ fs[k].2.2.1 by omega), Bool.false_and, if_pos (by decide), e, if_neg (by decide)]
  by_cases w2 : (mostV fs[k].1 : Int) < fs[k].2.2.1
  ·have e : errF ds slots pl fs[k] = 1 := by unfold errF; rw [if_neg nk, if_pos (.inr (.inr (.inr w2)))]
   rw [decide_eq_false (show ¬ fs[k].2.2.1 ≤ (mostV fs[k].1 : Int) by omega), Bool.and_false, if_pos (by decide), e, if_neg (by decide)]
  have nw : ¬ (fs[k].2.1 < 0 ∨ (ds.length : Int) ≤ fs[k].2.1 ∨ fs[k].2.2.1 < 0 ∨ (mostV fs[k].1 : Int) < fs[k].2.2.1) := by omega
  rw [decide_eq_true (show 0 ≤ fs[k].2.2.1 by omega), decide_eq_true (show fs[k].2.2.1 ≤ (mostV fs[k].1 : Int) by omega), if_neg (by decide)]
  have ee : errF ds slots pl fs[k] = if mayV (viewV ds slots pl fs[k].2.1.toNat) fs[k].1 = true then 0 else 7 := by unfold errF; rw [if_neg nk, if_neg nw]
  rw [ee]
  obtain ⟨d, ed⟩ : ∃ d : Nat, fs[k].2.1 = d := ⟨(fs[k].2.1).toNat, by omega⟩
  have hd : d < ds.length := by omega
  rw [e37 c fs[k] hd ed, Option.bind_some, hup, ed]
  simp only [Int.toNat_natCast]
  by_cases hm : mayV (viewV ds slots pl d) fs[k].1 = true
  ·rw [if_pos hm, if_pos rfl, if_neg (by rw [hm]; decide)]
  ·rw [if_neg hm, if_pos (by simpa using hm), if_neg (by decide)]
 ·simp only [sh15_L20]
  rw [if_neg (by simp)]
 ·cases hf : fs.find? (fun f => errF ds slots pl f != 0) with
  | some f => rfl
  | none =>
   have hok : ∀ f ∈ fs, errF ds slots pl f = 0 := fun f hf' => by
    have := List.find?_eq_none.1 hf f hf'
    simpa using this
   simp only [sh15_K0, joinK]
   by_cases hall : (List.range fs.length).all (fun i => !dupAt fs i) = true
   ·have hdup : ∀ i < fs.length, dupAt fs i = false := fun i hi => by
     have := List.all_eq_true.1 hall i (List.mem_range.2 hi)
     simpa using this
    rw [if_pos hall, ← k1_15 c fs (by omega) hok hdup]
    refine iter_count (F := sh15_L15 100000 (sh15_K1 100000)) (fun i : Nat => (pl, fs, (i : Int), (ns, ds, ()), (slots, bins, ()), ())) fs.length 100000 (by omega) (fun rc i hi => ?_) (fun rc => ?_)
    ·simp only [sh15_L15, joinK]
     rw [if_pos (by simpa using hi)]
     refine iter_count (F := sh15_L18 (sh15_K16 rc)) (fun k : Nat => (pl, fs, (i : Int), (k : Int), (ns, ds, ()), (slots, bins, ()), ())) i 100000 (by omega) (fun rc2 k hk => ?_) (fun rc2 => ?_)
     ·have hkl : k < fs.length := by omega
      have hne := dup_no hi (hdup i hi) hk
      rw [List.getD, List.getElem?_eq_getElem hkl, List.getD, List.getElem?_eq_getElem hi] at hne
      simp only [sh15_L18]
      rw [if_pos (decide_eq_true (by omega)), if_pos (inR_nat hi), if_pos (inR_nat hkl), lAt_nat _ _ _ hi, lAt_nat _ _ _ hkl, if_neg (by simpa using fun e => hne e.symm), up1' hk]
     ·simp only [sh15_L18]
      rw [if_neg (by simp)]
      simp only [sh15_K16, up1' hi]
    ·simp only [sh15_L15]
     rw [if_neg (by simp)]
   ·rw [if_neg hall]
    refine (iter_idx (F := sh15_L15 100000 (sh15_K1 100000)) (bad := some (([], 5, ()), ())) (fin := sh15_K1 100000 (pl, fs, (ns, ds, ()), (slots, bins, ()), ())) fs.length (fun i => !dupAt fs i) (fun k => (pl, fs, (k : Int), (ns, ds, ()), (slots, bins, ()), ())) 100000 (by omega) (fun rc i hi => ?_) (fun rc => ?_)).trans (if_neg hall)
    ·simp only [sh15_L15, joinK]
     rw [if_pos (by simpa using hi)]
     refine (iter_idx (F := sh15_L18 (sh15_K16 rc)) (bad := some (([], 5, ()), ())) (fin := rc (pl, fs, ((i + 1 : Nat) : Int), (ns, ds, ()), (slots, bins, ()), ())) i (fun k => !(fs[i].2.1 == (fs.getD k (0, 0, 0, ())).2.1)) (fun k : Nat => (pl, fs, (i : Int), (k : Int), (ns, ds, ()), (slots, bins, ()), ())) 100000 (by omega) (fun rc2 k hk => ?_) (fun rc2 => ?_)).trans ?_
     ·have hkl : k < fs.length := by omega
      simp only [sh15_L18]
      rw [if_pos (decide_eq_true (by omega)), if_pos (inR_nat hi), if_pos (inR_nat hkl), lAt_nat _ _ _ hi, lAt_nat _ _ _ hkl, up1' hk, List.getD, List.getElem?_eq_getElem hkl]
      simp only [Option.getD_some]
      by_cases he : fs[i].2.1 = fs[k].2.1
      ·rw [if_pos (by simpa using he), if_neg (by simpa using he)]
      ·rw [if_neg (by simpa using he), if_pos (by simpa using he)]
     ·simp only [sh15_L18]
      rw [if_neg (by simp)]
      simp only [sh15_K16, up1' hi]
     ·have e : (List.range i).all (fun k => !(fs[i].2.1 == (fs.getD k (0, 0, 0, ())).2.1)) = !dupAt fs i := by
       unfold dupAt
       rw [List.getD, List.getElem?_eq_getElem hi]
       simp only [Option.getD_some]
       rw [Bool.eq_iff_iff]
       simp only [List.all_eq_true, List.mem_range, Bool.not_eq_true', beq_eq_false_iff_ne, List.any_eq_false, beq_iff_eq]
       constructor
       ·intro h g hg
        obtain ⟨k, hk, rfl⟩ := List.getElem_of_mem hg
        rw [List.length_take] at hk
        have := h k (by omega)
        rw [List.getD, List.getElem?_eq_getElem (show k < fs.length by omega)] at this
        rw [List.getElem_take]; exact this
       ·intro h k hk
        have hkl : k < fs.length := by omega
        have := h fs[k] (by
         have e : (fs.take i)[k]'(by rw [List.length_take]; omega) = fs[k] := List.getElem_take
         rw [← e]; exact List.getElem_mem _)
        rw [List.getD, List.getElem?_eq_getElem hkl]; exact this
      rw [e]
    ·simp only [sh15_L15]
     rw [if_neg (by simp)]
end
theorem e16 (l : List Ty0) (hl : l.length ≤ 90000) : sp16 (l, l, ()) = some (true, ()) := by
 show sh16 100000 l l = _
 unfold sh16
 rw [if_neg (by simp)]
 simp only [joinK]
 refine iter_count (F := sh16_L2 sh16_K0) (fun k : Nat => (l, l, (k : Int), ())) l.length 100000 (by omega) (fun rc k hk => ?_) (fun rc => ?_)
 ·simp only [sh16_L2]
  rw [if_pos (by simpa using hk), if_pos (inR_nat hk), if_pos (inR_nat hk), if_neg (by simp), up1' hk]
 ·simp only [sh16_L2]
  rw [if_neg (by simp)]; rfl
section
variable {N gate : Nat} {ns : List Nd} {ds : List Dv} {slots bins : LL} {pl : List Dv}
structure GlG (ds : List Dv) (slots : LL) (pl fs : List Dv) (n : Nat) : Prop where
 len : fs.length ≤ n
 ok : ∀ f ∈ fs, errF ds slots pl f = 0
 nd : fs.Pairwise fun a b => a.2.1 ≠ b.2.1
theorem err_of (c : Ctx N gate ns ds slots bins pl) {k : Int} {d : Nat} {w : Int} (hd : d < ds.length) (hk : 3 ≤ k ∧ k ≤ 6) (hw : 0 ≤ w ∧ w ≤ (mostV k : Int)) (hm : mayV (viewV ds slots pl d) k = true) : errF ds slots pl (k, (d : Int), w, ()) = 0 := by
 unfold errF
 simp only [Int.toNat_natCast]
 rw [if_neg (by omega), if_neg (by omega), if_pos hm]
theorem add_gl {fs : List Dv} {n : Nat} (h : GlG ds slots pl fs n) {f : Dv} (hf : errF ds slots pl f = 0) (hn : ∀ g ∈ fs, g.2.1 ≠ f.2.1) : GlG ds slots pl (fs ++ [f]) (n + 1) :=
 ⟨by simp only [List.length_append, List.length_cons, List.length_nil]; have := h.len; omega, fun g hg => by
  rcases List.mem_append.1 hg with hg | hg
  ·exact h.ok g hg
  ·rw [List.mem_singleton.1 hg]; exact hf, List.pairwise_append.2 ⟨h.nd, by simp, fun a ha b hb => by rw [List.mem_singleton.1 hb]; exact hn a ha⟩⟩
theorem GlG.up {fs : List Dv} {n : Nat} (h : GlG ds slots pl fs n) : GlG ds slots pl fs (n + 1) := ⟨by have := h.len; omega, h.ok, h.nd⟩
theorem step12 (c : Ctx N gate ns ds slots bins pl) (rc) (n : Int) (i : Nat) (hi : i ≤ 100) (s : Sr) (hs : SrOk s) (out : List Dv) (ho : GlG ds slots pl out i) (hd0 : 0 < ds.length) (Post : Option (List Dv × Sr × Unit) → Prop)
  (hj : ∀ (s' : Sr) (out' : List Dv), SrOk s' → GlG ds slots pl out' (i + 1) → Post (rc (n, ((i + 1 : Nat) : Int), s', (ns, ds, ()), (slots, bins, ()), out', ()))) (j1) :
  Post (sh12_K3 100000 j1 rc (n, (i : Int), true, s, (ns, ds, ()), (slots, bins, ()), out, ())) := by
 have hol := ho.len
 have hdl := c.dev.len
 have hup : IntKind.i64.wrap ((i : Int) + 1) = ((i + 1 : Nat) : Int) := wrapI (by omega) (by omega)
 obtain ⟨d', s1, hv, v1, v2, k1⟩ := e18 hs (ds.length : Int) (by omega) (by omega)
 obtain ⟨d, rfl⟩ : ∃ d : Nat, d' = d := ⟨d'.toNat, by omega⟩
 have hd : d < ds.length := by omega
 simp only [sh12_K3, joinK]
 rw [if_pos trivial, hv, Option.bind_some]
 simp only
 rw [if_pos (inR_nat hd), lAt_nat _ _ _ hd]
 have k8 : ∀ (known : Bool) (s : Sr) (f : Dv), SrOk s → (known = false → errF ds slots pl f = 0 ∧ ∀ g ∈ out, g.2.1 ≠ f.2.1) → Post (sh12_K8 (sh12_K4 rc) (n, (i : Int), known, s, (ns, ds, ()), (slots, bins, ()), f, out, ())) := by
  intro known s f hs hf
  simp only [sh12_K8, sh12_K4]
  cases known with
  | true =>
   rw [if_neg (by decide), hup]
   exact hj s out hs ho.up
  | false =>
   obtain ⟨h1, h2⟩ := hf rfl
   rw [if_pos (by decide), if_pos (dlim (by omega)), if_pos (dlim (by omega)), hup]
   exact hj s _ hs (add_gl ho h1 h2)
 have hfin : ∀ known : Bool, known = (out.any fun g => g.2.1 == (d : Int)) → Post (sh12_K7 (sh12_K4 rc) (n, (i : Int), known, s1, (ns, ds, ()), (slots, bins, ()), ds[d], (4, (d : Int), 0, ()), out, ())) := by
  intro known hkn
  have hkn' : known = false → ∀ g ∈ out, g.2.1 ≠ (d : Int) := fun e g hg => by
   rw [e] at hkn
   have := List.any_eq_false.1 hkn.symm g hg
   simpa using this
  obtain ⟨a, w, ha, hw, e1, e2, eb, b0, b8, o1⟩ := ctx_dev c hd
  have hkind : (viewV ds slots pl d).2.1 = ds[d].1 := by show (ds.getD d (0, 0, 0, ())).1 = _; rw [getDev hd]
  simp only [sh12_K7, joinK]
  rw [e1, if_pos (inR_nat ha), lAt_nat _ _ _ ha, e2, if_pos (inR_nat hw), lAt_nat _ _ _ hw, ← eb]
  simp only [sh12_K10]
  by_cases hb : bagV ds slots d = 0
  ·rw [hb, if_neg (by decide), if_neg (by decide), show ((0 : Int) != 0) = false from rfl, if_neg (by decide)]
   rcases o1 with o | o
   ·rw [o, if_neg (by decide)]
    refine k8 known s1 _ k1 fun e => ⟨err_of c hd (by omega) (by omega) ?_, hkn' e⟩
    unfold mayV
    rw [if_neg (by decide), if_pos rfl, hkind, o]
    show ((1 : Int) == 1 && bagV ds slots d == 0) = true
    rw [hb]; rfl
   ·rw [o, if_pos (by decide)]
    exact k8 true s1 _ k1 fun e => by cases e
  ·have hbb : (bagV ds slots d != 0) = true := by simpa using hb
   have may3 : mayV (viewV ds slots pl d) 3 = true := by
    unfold mayV; rw [if_pos rfl]; exact hbb
   rw [hbb, if_pos rfl]
   rcases o1 with o | o
   ·rw [o, if_neg (by decide), if_pos rfl]
    exact k8 known s1 _ k1 fun e => ⟨err_of c hd (by omega) (by decide) may3, hkn' e⟩
   ·rw [o, if_pos (by decide)]
    obtain ⟨kd, s2, h2, m2, k2⟩ := e26 k1 [(3, ()), (5, ()), (6, ()), (6, ())] (by decide) (by decide)
    rw [h2, Option.bind_some]
    simp only
    have hkd : kd = 3 ∨ kd = 5 ∨ kd = 6 := by
     simp only [List.mem_cons, Prod.mk.injEq, and_true, List.not_mem_nil, or_false] at m2
     omega
    by_cases h3 : kd = 3
    ·subst h3
     rw [if_neg (by decide)]
     exact k8 known s2 _ k2 fun e => ⟨err_of c hd (by omega) (by decide) may3, hkn' e⟩
    ·obtain ⟨ww, s3, h4, m4, k4⟩ := e26 k2 [(9, ()), (8, ()), (0, ()), (5, ())] (by decide) (by decide)
     rw [if_pos (by simpa using h3), h4, Option.bind_some]
     simp only
     have hww : 0 ≤ ww ∧ ww ≤ 9 := by
      simp only [List.mem_cons, Prod.mk.injEq, and_true, List.not_mem_nil, or_false] at m4
      omega
     have hm9 : mostV kd = 9 := by unfold mostV; rw [if_pos (by omega)]
     refine k8 known s3 _ k4 fun e => ⟨err_of c hd (by omega) ⟨hww.1, by omega⟩ ?_, hkn' e⟩
     unfold mayV
     rw [if_neg h3, if_neg (by omega), hkind, o]
     show ((2 : Int) == 2 && (bagV ds slots d != 0 && !((viewV ds slots pl d).2.2.2.1 == []))) = true
     have hne : ((viewV ds slots pl d).2.2.2.1 == []) = false := by simpa using fun h => hb ((may_text c hd).1.1 h)
     rw [hbb, hne]; rfl
 refine iter_post (F := sh12_L15 (sh12_K7 (sh12_K4 rc))) (fun j z => z = (n, (i : Int), (d : Int), (out.take j).any (fun g => g.2.1 == (d : Int)), (j : Int), s1, (ns, ds, ()), (slots, bins, ()), ds[d], (4, (d : Int), 0, ()), out, ())) Post out.length 100000 (by omega) rfl (fun rc2 j z hjl hz => ?_) (fun rc2 z hz => ?_)
 ·subst hz
  have hup2 : IntKind.i64.wrap ((j : Int) + 1) = ((j + 1 : Nat) : Int) := wrapI (by omega) (by omega)
  have hg : out.getD j (0, 0, 0, ()) = out[j] := by rw [List.getD, List.getElem?_eq_getElem hjl]; rfl
  have ht : (out.take (j + 1)).any (fun g => g.2.1 == (d : Int)) = ((out.take j).any (fun g => g.2.1 == (d : Int)) || (out[j].2.1 == (d : Int))) := by
   rw [List.take_add_one, List.getElem?_eq_getElem hjl, List.any_append]
   simp [Option.toList]
  simp only [sh12_L15, joinK, sh12_K16]
  rw [if_pos (by simpa using hjl), hup2, ht]
  cases (out.take j).any (fun g => g.2.1 == (d : Int)) with
  | true => rw [if_pos rfl]; exact ⟨_, rfl, rfl⟩
  | false =>
   rw [if_neg (by decide), if_pos (inR_nat hjl), if_pos (decide_eq_true (by simp only [Int.toNat_natCast]; omega))]
   simp only [Int.toNat_natCast, hg]
   exact ⟨_, rfl, rfl⟩
 ·subst hz
  simp only [sh12_L15]
  rw [if_neg (by simp), List.take_length]
  exact hfin _ rfl
theorem e12 (c : Ctx N gate ns ds slots bins pl) {s : Sr} (hs : SrOk s) : ∃ fs s', sp12 (s, (ns, ds, ()), (slots, bins, ()), 3, ()) = some (fs, s', ()) ∧ SrOk s' ∧ GlG ds slots pl fs 3 := by
 show ∃ fs s', sh12 100000 s (ns, ds, ()) (slots, bins, ()) 3 = some (fs, s', ()) ∧ _
 unfold sh12
 simp only [joinK]
 by_cases hd0 : 0 < ds.length
 ·refine iter_post (F := sh12_L2 100000 sh12_K0) (fun i z => ∃ (s' : Sr) (out : List Dv), z = ((3 : Int), (i : Int), s', (ns, ds, ()), (slots, bins, ()), out, ()) ∧ SrOk s' ∧ GlG ds slots pl out i) (fun o => ∃ fs s', o = some (fs, s', ()) ∧ SrOk s' ∧ GlG ds slots pl fs 3) 3 100000 (by decide)
   ⟨s, [], rfl, hs, ⟨by simp, by simp, by simp⟩⟩ (fun rc i z hi hz => ?_) (fun rc z hz => ?_)
  ·obtain ⟨s1, out, rfl, k1, ho⟩ := hz
   simp only [sh12_L2, joinK]
   rw [if_pos (decide_eq_true (by omega)), decide_eq_true (show (0 : Int) < (ds.length : Int) by omega)]
   exact step12 c rc 3 i (by omega) s1 k1 out ho hd0 (fun o => ∃ z', o = rc z' ∧ ∃ (s' : Sr) (out : List Dv), z' = ((3 : Int), ((i + 1 : Nat) : Int), s', (ns, ds, ()), (slots, bins, ()), out, ()) ∧ SrOk s' ∧ GlG ds slots pl out (i + 1)) (fun s2 out2 k2 g2 => ⟨_, rfl, s2, out2, rfl, k2, g2⟩) sh12_K0
  ·obtain ⟨s1, out, rfl, k1, ho⟩ := hz
   simp only [sh12_L2, joinK]
   rw [if_neg (by simp)]
   simp only [sh12_K3]
   rw [if_neg (by decide)]
   exact ⟨out, s1, rfl, k1, ho⟩
 ·rw [show (100000 : Nat) = 99999 + 1 from rfl, iter_succ]
  simp only [sh12_L2, joinK]
  rw [if_pos (by simp), decide_eq_false (by omega)]
  simp only [sh12_K3]
  rw [if_neg (by decide)]
  exact ⟨[], s, rfl, hs, ⟨by simp, by simp, by simp⟩⟩
end
theorem law3 (x : IL × List Dv × Dv × Unit) (e7 : sp7 () = some (true, ())) : sp3 x = some (true, ()) := by
 obtain ⟨l, list, odd, ⟨⟩⟩ := x
 show sh3 100000 l list odd = _
 unfold sh3
 by_cases h12 : (12 : Int) < (list.length : Int)
 ·rw [if_pos (decide_eq_true h12), e7]; rfl
 rw [if_neg (by simpa using h12)]
 obtain ⟨s0, h0, k0⟩ := e8 l
 obtain ⟨N, gate, ns, ds, s1, h1, k1, hlay, hdev⟩ := e9 k0
 obtain ⟨slots, bins, s2, h2, k2, hpl⟩ := e10 hlay ds 8 (by decide) (by decide) k1
 obtain ⟨pl, s3, h3, k3, hnum⟩ := e11 k2
 have c : Ctx N gate ns ds slots bins pl := ⟨hlay, hdev, hpl, hnum⟩
 obtain ⟨fs, s4, h4, k4, hgl⟩ := e12 c k3
 have hdl := hdev.len
 obtain ⟨a, s5, h5, a1, a2, k5⟩ := e13 k4 2 7 (by decide) (by decide) (by decide)
 obtain ⟨b, s6, h6, b1, b2, k6⟩ := e13 k5 (-1) (ds.length : Int) (by omega) (by omega) (by omega)
 obtain ⟨d, s7, h7, d1, d2, k7⟩ := e13 k6 (-1) 10 (by decide) (by decide) (by decide)
 have hfl := hgl.len
 rw [h0, Option.bind_some, h1, Option.bind_some]
 simp only
 rw [h2, Option.bind_some]
 simp only
 rw [h3, Option.bind_some]
 simp only
 rw [h4, Option.bind_some]
 simp only
 rw [if_pos (dlim (by omega)), if_pos (dlim (by omega)), h5, Option.bind_some]
 simp only
 rw [h6, Option.bind_some]
 simp only
 rw [h7, Option.bind_some]
 simp only [joinK]
 rw [if_pos (dlim (by omega)), if_pos (dlim (by omega)), if_pos (dlim (by omega)), if_pos (dlim (by omega)), if_pos (dlim (by omega)), if_pos (dlim (by omega))]
 generalize hL : [([], ()), (fs, ()), (fs ++ [(a, b, d, ())], ()), (list, ()), (fs ++ [odd], ())] = L
 have hLl : L.length = 5 := by rw [← hL]; rfl
 have hLs : ∀ y ∈ L, y.1.length ≤ 1000 := fun y hy => by
  rw [← hL] at hy
  simp only [List.mem_cons, List.not_mem_nil, or_false] at hy
  rcases hy with rfl | rfl | rfl | rfl | rfl <;> simp only [List.length_nil, List.length_append, List.length_cons] <;> omega
 refine iter_count (F := sh3_L12 sh3_K9) (fun k : Nat => (pl, (L.length : Int), (k : Int), (ns, ds, ()), (slots, bins, ()), L, ())) L.length 100000 (by omega) (fun rc k hk => ?_) (fun rc => ?_)
 ·have hg : L.getD k ([], ()) = L[k] := by rw [List.getD, List.getElem?_eq_getElem hk]; rfl
  have hl := hLs L[k] (List.getElem_mem hk)
  simp only [sh3_L12, joinK]
  rw [if_pos (by simpa using hk), if_pos (inR_nat hk), if_pos (decide_eq_true (by simp only [Int.toNat_natCast]; omega))]
  simp only [Int.toNat_natCast, hg]
  rw [e14 c L[k].1 hl, Option.bind_some, e15 c L[k].1 hl, Option.bind_some]
  simp only
  have hol : (obsV ds slots pl L[k].1).1.length ≤ 24 := by
   unfold obsV
   split
   ·simp
   ·split
    ·simp
    ·split
     ·show (repsV ds slots pl L[k].1).length ≤ 24
      unfold repsV; rw [List.length_map, List.length_range]; exact hdl
     ·simp
  rw [if_neg (by simp), e16 _ (by omega), Option.bind_some]
  simp only [sh3_K15]
  rw [if_neg (by decide), up1' hk]
 ·simp only [sh3_L12]
  rw [if_neg (by simp)]
  simp only [sh3_K9]
  rw [e7]; rfl
end Go.Proofs.YtjpikgfknnamjaaDoor
