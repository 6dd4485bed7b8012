/- Chapter 10: what the functions come to; the laws. -/
import Derived.Test.YtdkibgdkmnpncaaDoorWb
import Derived.KernelRfl
open Go Go.Proofs Go.Abs
set_option linter.unusedVariables false
set_option maxRecDepth 100000
namespace Go.Proofs.YtdkibgdkmnpncaaDoor
structure MvG (ns : List Nd) (fs : List Dv) : Prop where
 each : ∀ f ∈ fs, (f.1 = 1 ∨ f.1 = 2) ∧ ∃ k : Nat, f.2.1 = k ∧ k < ns.length ∧ 0 ≤ f.2.2.1 ∧ f.2.2.1 < (ndN ns k).2.2.1
 diff : ∀ (i j : Nat) (hi : i < fs.length) (hj : j < fs.length), i < j → ¬ (fs[i].2.1 = fs[j].2.1 ∧ fs[i].2.2.1 = fs[j].2.2.1)
theorem mv_nil (ns : List Nd) : MvG ns [] := ⟨by simp, fun i j hi => absurd hi (Nat.not_lt_zero i)⟩
theorem mv_snoc {ns : List Nd} {fs : List Dv} (h : MvG ns fs) {f : Dv} (h1 : (f.1 = 1 ∨ f.1 = 2) ∧ ∃ k : Nat, f.2.1 = k ∧ k < ns.length ∧ 0 ≤ f.2.2.1 ∧ f.2.2.1 < (ndN ns k).2.2.1) (h2 : ∀ g ∈ fs, ¬ (g.2.1 = f.2.1 ∧ g.2.2.1 = f.2.2.1)) : MvG ns (fs ++ [f]) where
 each := fun g hg => by
  rcases List.mem_append.1 hg with hg | hg
  ·exact h.each g hg
  ·simp only [List.mem_singleton] at hg; subst hg; exact h1
 diff := fun i j hi hj hij => by
  simp only [List.length_append, List.length_cons, List.length_nil] at hi hj
  by_cases ej : j < fs.length
  ·rw [List.getElem_append_left (by omega), List.getElem_append_left ej]
   exact h.diff i j (by omega) ej hij
  ·have : j = fs.length := by omega
   subst this
   rw [List.getElem_append_left (by omega), List.getElem_append_right (Nat.le_refl _)]
   simp only [Nat.sub_self, List.getElem_cons_zero]
   exact h2 _ (List.getElem_mem _)
theorem e12 {N gate : Nat} {ns : List Nd} (h : LayG N gate ns) (dv : List Dv) {s : Sr} (hs : SrOk s) (n : Nat) (hn : n ≤ 10) :
  ∃ fs s', sp12 (s, (ns, dv, ()), (n : Int), ()) = some (fs, s', ()) ∧ SrOk s' ∧ fs.length ≤ n ∧ MvG ns fs := by
 have hl := h.len
 have h11 := h.N11
 have hgN := h.gN
 show ∃ fs s', sh12 100000 s (ns, dv, ()) (n : Int) = some (fs, s', ()) ∧ _
 unfold sh12
 simp only [joinK]
 refine iter_post (F := sh12_L2 100000 sh12_K0) (fun i z => ∃ (s : Sr) (fs : List Dv), z = ((n : Int), (i : Int), s, (ns, dv, ()), fs, ()) ∧ SrOk s ∧ fs.length ≤ i ∧ MvG ns fs)
  (fun o => ∃ fs s', o = some (fs, s', ()) ∧ SrOk s' ∧ fs.length ≤ n ∧ MvG ns fs) n 100000 (by omega) ⟨s, [], rfl, hs, Nat.le_refl _, mv_nil ns⟩ (fun rc i z hi hz => ?_) (fun rc z hz => ?_)
 ·obtain ⟨s, fs, rfl, hs, hfl, hm⟩ := hz
  have fin : ∀ (s' : Sr) (fs' : List Dv), SrOk s' → fs'.length ≤ i + 1 → MvG ns fs' → ∃ z', sh12_K3 rc ((n : Int), (i : Int), s', (ns, dv, ()), fs', ()) = rc z' ∧ ∃ (s : Sr) (fs : List Dv), z' = ((n : Int), ((i + 1 : Nat) : Int), s, (ns, dv, ()), fs, ()) ∧ SrOk s ∧ fs.length ≤ i + 1 ∧ MvG ns fs := fun s' fs' a b c => by
   unfold sh12_K3
   simp only
   rw [up1' hi]
   exact ⟨_, rfl, s', fs', rfl, a, b, c⟩
  simp only [sh12_L2, joinK]
  obtain ⟨k, s1, hk, k0, k1, hs1⟩ := e18 hs (ns.length : Int) (by omega) (by omega)
  obtain ⟨k, rfl⟩ : ∃ m : Nat, k = m := ⟨k.toNat, by omega⟩
  have hkl : k < ns.length := by omega
  rw [if_pos (by simpa using hi), hk, Option.bind_some]
  simp only
  rw [if_pos (inR_nat hkl), lat_nd]
  have hx := nd_get h (show k < N by omega)
  have hxl := node_len hx
  by_cases h0 : (ndN ns k).2.2.1 = 0
  ·rw [if_pos (by simpa using h0)]
   exact fin s1 fs hs1 (by omega) hm
  rw [if_neg (by simpa using h0), if_pos (inR_nat hkl)]
  obtain ⟨a, s2, ha, a0, a1, hs2⟩ := e17 hs1 1 2 (by decide) (by decide) (by decide)
  rw [ha, Option.bind_some]
  simp only
  obtain ⟨w, s3, hw, w0, w1, hs3⟩ := e18 hs2 (ndN ns k).2.2.1 (by omega) (by omega)
  rw [hw, Option.bind_some]
  simp only
  have k8 : ∀ b : Bool, (b = false → ∀ g ∈ fs, ¬ (g.2.1 = (k : Int) ∧ g.2.2.1 = w)) → ∃ z', sh12_K8 (sh12_K3 rc) ((n : Int), (i : Int), b, s3, (ns, dv, ()), (a, (k : Int), w, ()), fs, ()) = rc z' ∧ ∃ (s : Sr) (fs : List Dv), z' = ((n : Int), ((i + 1 : Nat) : Int), s, (ns, dv, ()), fs, ()) ∧ SrOk s ∧ fs.length ≤ i + 1 ∧ MvG ns fs := fun b hb => by
   unfold sh12_K8
   simp only
   cases b with
   | true => rw [if_neg (by simp)]; exact fin s3 fs hs3 (by omega) hm
   | false =>
    rw [if_pos (by rfl), if_pos (dlim (by omega)), if_pos (dlim (by omega))]
    exact fin s3 _ hs3 (by simp; omega) (mv_snoc hm ⟨by show a = 1 ∨ a = 2; omega, k, rfl, hkl, w0, w1⟩ (hb rfl))
  have hit := iter_count (F := sh12_L10 (sh12_K8 (sh12_K3 rc))) (r := sh12_K8 (sh12_K3 rc) ((n : Int), (i : Int), fs.any (fun g => g.2.1 == (k : Int) && g.2.2.1 == w), s3, (ns, dv, ()), (a, (k : Int), w, ()), fs, ()))
   (fun j : Nat => ((n : Int), (i : Int), (fs.take j).any (fun g => g.2.1 == (k : Int) && g.2.2.1 == w), (j : Int), s3, (ns, dv, ()), (a, (k : Int), w, ()), fs, ())) fs.length 100000 (by omega) (fun rc2 j hj => ?_) (fun rc2 => ?_)
  ·simp only [List.take_zero, List.any_nil] at hit
   rw [show ((0 : Nat) : Int) = 0 from rfl] at hit
   rw [hit]
   refine k8 _ fun hb g hg hc => ?_
   have := List.any_eq_false.1 hb g hg
   simp [hc.1, hc.2] at this
  ·have et : (fs.take (j + 1)).any (fun g => g.2.1 == (k : Int) && g.2.2.1 == w) = ((fs.take j).any (fun g => g.2.1 == (k : Int) && g.2.2.1 == w) || (fs[j].2.1 == (k : Int) && fs[j].2.2.1 == w)) := by
    rw [List.take_add_one, List.getElem?_eq_getElem hj, List.any_append]; simp
   have k11 : ∀ b : Bool, sh12_K11 rc2 ((n : Int), (i : Int), b, (j : Int), s3, (ns, dv, ()), (a, (k : Int), w, ()), fs, ()) = rc2 ((n : Int), (i : Int), b, ((j + 1 : Nat) : Int), s3, (ns, dv, ()), (a, (k : Int), w, ()), fs, ()) := fun b => by
    unfold sh12_K11
    simp only
    rw [up1' hj]
   have eg : fs.getD j (0, 0, 0, ()) = fs[j] := by rw [List.getD_eq_getElem?_getD, List.getElem?_eq_getElem hj]; rfl
   unfold sh12_L10
   simp only [joinK]
   rw [et, if_pos (by simpa using hj)]
   cases hb : (fs.take j).any (fun g => g.2.1 == (k : Int) && g.2.2.1 == w) with
   | true => rw [if_pos rfl, k11]; rfl
   | false =>
    rw [if_neg (by simp), if_pos (inR_nat hj), if_pos (decide_eq_true (by rw [Int.toNat_natCast]; omega)), Int.toNat_natCast, eg]
    cases e1 : fs[j].2.1 == (k : Int) with
    | true => rw [if_pos rfl, if_pos (inR_nat hj), if_pos (decide_eq_true (by omega)), k11]; rfl
    | false => rw [if_neg (by simp), k11]; rfl
  ·unfold sh12_L10
   simp only
   rw [if_neg (by simp), List.take_length]
 ·obtain ⟨s, fs, rfl, hs, hfl, hm⟩ := hz
  simp only [sh12_L2]
  rw [if_neg (by simp), sh12_K0]
  exact ⟨fs, s, rfl, hs, hfl, hm⟩
section
variable {N gate : Nat} {ns : List Nd} {ds : List Dv} {od : IL}
theorem lat_dv (fs : List Dv) (k : Nat) (h : k < fs.length) : lAt (0, 0, 0, ()) fs (k : Int) = fs[k] := lAt_nat _ _ _ h
theorem e28m (h : LayG N gate ns) {c : IL} (hc : c.length = N) (hcs : ∀ (j : Nat) (h1 : j < c.length) (h2 : j < ns.length), CmdG ns[j] (c[j]).1) {fs : List Dv} (hf : fs.length ≤ 2) (hm : MvG ns fs) : sp28 ((ns, ds, od, ()), c, fs, ()) = some (0, (ns, ds, od, ()), ()) := by
 have hl := h.len
 have h11 := h.N11
 rw [cmds28 h hc hcs]
 unfold sh28_K0
 simp only [joinK]
 rw [if_neg (by simp; omega)]
 refine iter_count (F := sh28_L13 (sh28_K1 100000)) (fun k : Nat => (fs, fs, (fs.length : Int), (k : Int), (ns, ds, od, ()), ())) fs.length 100000 (by omega) (fun rc k hk => ?_) (fun rc => ?_)
 ·obtain ⟨h1, m, e1, hmN, w0, w1⟩ := hm.each _ (List.getElem_mem hk)
  unfold sh28_L13
  simp only [joinK]
  rw [if_pos (by simpa using hk), if_pos (inR_nat hk), lat_dv fs k hk]
  generalize fs[k] = f at h1 e1 w0 w1
  obtain ⟨a, b, w, ⟨⟩⟩ := f
  simp only at h1 e1 w0 w1
  subst e1
  have k14 : sh28_K14 rc (fs, fs, (fs.length : Int), (k : Int), false, (ns, ds, od, ()), (a, (m : Int), w, ()), ()) = rc (fs, fs, (fs.length : Int), ((k + 1 : Nat) : Int), (ns, ds, od, ()), ()) := by
   unfold sh28_K14
   simp only [joinK]
   rw [if_neg (by simp), if_neg (by simp), if_neg (by simp; omega), if_neg (by simp; omega), if_pos (inR_nat hmN), lat_nd, decide_eq_false (by omega)]
   unfold sh28_K15
   simp only
   rw [if_neg (by simp), up1' hk]
  rcases h1 with rfl | rfl
  ·rw [if_neg (by simp)]; exact k14
  ·rw [if_pos (by simp)]; exact k14
 ·unfold sh28_L13
  simp only
  rw [if_neg (by simp)]
  unfold sh28_K1
  simp only [joinK]
  refine iter_count (F := sh28_L4 100000 sh28_K2) (fun k : Nat => (fs, fs, (fs.length : Int), (k : Int), (ns, ds, od, ()), ())) fs.length 100000 (by omega) (fun rc k hk => ?_) (fun rc => ?_)
  ·unfold sh28_L4
   simp only [joinK]
   have hcut : cutL fs 0 (k : Int) = fs.take k := by simp [cutL]
   rw [if_pos (by simpa using hk), if_pos (inR_nat hk), if_pos (show inCut 0 (k : Int) fs.length = true from inCut_nat (a := 0) (Nat.zero_le _) (by omega)), lat_dv fs k hk, hcut]
   have htl : (fs.take k).length = k := by rw [List.length_take]; omega
   refine iter_count (F := sh28_L9 _ _) (fun j : Nat => (fs, fs, (fs.length : Int), (k : Int), fs.take k, ((fs.take k).length : Int), (j : Int), (ns, ds, od, ()), fs[k], ())) k 100000 (by omega) (fun rc2 j hj => ?_) (fun rc2 => ?_)
   ·unfold sh28_L9
    simp only [joinK]
    have hjt : j < (fs.take k).length := by omega
    have hd := hm.diff j k (by omega) hk hj
    rw [if_pos (by simp; omega), if_pos (inR_nat hjt), lat_dv _ j hjt, List.getElem_take]
    by_cases e1 : fs[k].2.1 = fs[j].2.1
    ·rw [if_pos (by simpa using e1)]
     unfold sh28_K10
     simp only
     rw [if_neg (by simp only [beq_iff_eq]; exact fun e2 => hd ⟨e1.symm, e2.symm⟩), up1' hj]
    ·rw [if_neg (by simpa using e1)]
     unfold sh28_K10
     simp only
     rw [if_neg (by simp), up1' hj]
   ·unfold sh28_L9
    simp only
    rw [if_neg (by simp; omega)]
    unfold sh28_K7 sh28_K5
    simp only
    rw [if_neg (by simp), up1' hk]
  ·unfold sh28_L4
   simp only
   rw [if_neg (by simp)]
   rfl
theorem tg_eq {a b : IL} {j : Nat} (h : wtN a j = wtN b j) : tgN ns a j = tgN ns b j := by unfold tgN; rw [h]
structure Asc (N : Nat) (ns : List Nd) (W : IL) : Prop where
 up : ∀ j, j < N → 0 ≤ wtN W j → (j : Int) ≤ tgN ns W j
 lp : ∀ j, j < N → kdN ns j = 5 → (lAt (0, ()) (ndN ns j).2.2.2.2.1 0).1 = j
structure Inv (N : Nat) (ns : List Nd) (slots : LL) (W : IL) (k : Nat) (p : IL × IL) : Prop where
 l1 : p.1.length = N
 l2 : p.2.length = N
 lv : ∀ j, j < N → wtN p.1 j = -1 ∨ (0 ≤ wtN W j ∧ wtN p.1 j = wtN W j ∧ (k : Int) ≤ tgN ns W j) ∨ (wtN p.1 j = 0 ∧ kdN ns j = 5 ∧ k ≤ j)
 ev : ∀ m, m < N → wtN p.2 m = -1 ∨ (k ≤ m ∧ stN ns m = true ∧ s0N slots m = 0 ∧ ∃ j : Nat, j < N ∧ j ≠ m ∧ wtN p.2 m = j ∧ 0 ≤ wtN p.1 j ∧ tgN ns p.1 j = m ∧ ¬ (0 ≤ wtN p.1 m ∧ tgN ns p.1 m = m))
 lead : ∀ m, k ≤ m → m < N → stN ns m = true → ∀ j, j < N → j ≠ m → 0 ≤ wtN p.1 j → tgN ns p.1 j = m → wtN p.2 m = j
variable {slots : LL} {W : IL}
theorem inv_tg (ha : Asc N ns W) {k : Nat} {p : IL × IL} (h : Inv N ns slots W k p) {j : Nat} (hj : j < N) (h0 : 0 ≤ wtN p.1 j) : (k : Int) ≤ tgN ns p.1 j := by
 rcases h.lv j hj with e | ⟨a, b, c⟩ | ⟨a, b, c⟩
 ·omega
 ·rw [tg_eq b]; exact c
 ·have : tgN ns p.1 j = j := by unfold tgN; rw [a]; exact ha.lp j hj b
  omega
theorem inv_step (ha : Asc N ns W) (hN : N ≤ 11) {n : Nat} (hn : n < N) {p : IL × IL} (h : Inv N ns slots W (n + 1) p) : Inv N ns slots W n (rndV ns slots W N n p.1 p.2) := by
 obtain ⟨le, en⟩ := p
 have hl1 : le.length = N := h.l1
 have hl2 : en.length = N := h.l2
 have hlen := rnd_len ns slots W N n le en
 generalize hE : rndV ns slots W N n le en = q at hlen
 have gen : ∀ j, j < N → wtN q.1 j = wtN le j ∨ (j ≠ n ∧ 0 ≤ wtN W j ∧ tgN ns W j = n ∧ wtN q.1 j = wtN W j) ∨ (j = n ∧ kdN ns n = 5 ∧ wtN le n < 0 ∧ wtN q.1 n = 0) := fun j hj => by
  rcases rnd_le (slots := slots) (W := W) (ns := ns) hN hn le en hl1 j hj with e | e
  ·rw [hE] at e
   rw [leA_at _ _ (by omega)] at e
   by_cases hc : arN ns slots W le n = true ∧ j = n
   ·rw [if_pos hc] at e
    obtain ⟨c1, rfl⟩ := hc
    unfold arN at c1
    simp only [Bool.and_eq_true, decide_eq_true_eq, beq_iff_eq] at c1
    exact .inr (.inr ⟨rfl, c1.1, c1.2.2.1, e⟩)
   ·rw [if_neg hc] at e; exact .inl e
  ·rw [hE] at e; exact .inr (.inl e)
 have keep : ∀ j, j < N → 0 ≤ wtN le j → wtN q.1 j = wtN le j := fun j hj h0 => by
  rcases gen j hj with e | ⟨a, b, c, d⟩ | ⟨a, b, c, d⟩
  ·exact e
  ·rcases h.lv j hj with e | ⟨_, e, _⟩ | ⟨_, _, e⟩
   ·simp only at e; omega
   ·exact d.trans e.symm
   ·have := ha.up j hj b; omega
  ·subst a; omega
 have new : ∀ j, j < N → 0 ≤ wtN q.1 j → wtN q.1 j = wtN le j ∨ tgN ns q.1 j = n := fun j hj h0 => by
  rcases gen j hj with e | ⟨a, b, c, d⟩ | ⟨a, b, c, d⟩
  ·exact .inl e
  ·right; rw [tg_eq d]; exact c
  ·subst a
   right
   unfold tgN; rw [d]; exact ha.lp j hj b
 have old : ∀ j, j < N → 0 ≤ wtN le j → tgN ns le j ≠ n := fun j hj h0 => by
  have := inv_tg ha h hj h0
  simp only at this; omega
 have hev : ∀ m, m < N → m ≠ n → wtN q.2 m = wtN en m := fun m hm hmn => by
  rw [← hE]
  unfold rndV
  split
  ·split
   ·simp only; rw [wt_set _ _ _ _ (by omega), if_neg hmn]
   ·rfl
  ·rfl
 have here : (wtN q.2 n = -1 ∧ (stN ns n = true → ∀ j, j < N → j ≠ n → wtN q.1 j = wtN le j)) ∨ (stN ns n = true ∧ s0N slots n = 0 ∧ ∃ j0 : Nat, j0 < N ∧ j0 ≠ n ∧ wtN q.2 n = j0 ∧ 0 ≤ wtN q.1 j0 ∧ tgN ns q.1 j0 = n ∧ ∀ j, j < N → j ≠ j0 → wtN q.1 j = wtN le j) := by
  have e1 : wtN en n = -1 := by
   rcases h.ev n hn with e | ⟨a, _⟩
   ·exact e
   ·omega
  rw [← hE]
  unfold rndV
  by_cases hst : stN ns n = true
  ·rw [if_pos hst]
   by_cases hc : (csN ns W n N != 0 && (opN ns slots n && !arN ns slots W le n)) = true
   ·right
    rw [if_pos hc]
    simp only [Bool.and_eq_true, bne_iff_ne, ne_eq, Bool.not_eq_true'] at hc
    obtain ⟨h0, ho, hr⟩ := hc
    obtain ⟨a1, a2, _⟩ := low_bits (cs_2048 hN n) h0
    have hm := cs_mem a2
    have eA : leA ns slots W le n = le := by unfold leA; rw [if_neg (by simp [hr])]
    have hs0 : s0N slots n = 0 := by
     unfold opN at ho
     rw [if_pos hst] at ho
     split at ho
     ·cases ho
     ·simpa using ho
    simp only
    rw [eA]
    have eL : wtN (le.set (low (csN ns W n N)) (wtN W (low (csN ns W n N)), ())) (low (csN ns W n N)) = wtN W (low (csN ns W n N)) := by rw [wt_set _ _ _ _ (by omega), if_pos rfl]
    refine ⟨hst, hs0, low (csN ns W n N), hm.1, hm.2.1, ?_, ?_, ?_, fun j hj hj2 => ?_⟩
    ·rw [wt_set _ _ _ _ (by omega), if_pos rfl]
    ·rw [eL]; exact hm.2.2.1
    ·rw [tg_eq eL]; exact hm.2.2.2
    ·rw [wt_set _ _ _ _ (by omega), if_neg hj2]
   ·left
    rw [if_neg hc]
    refine ⟨e1, fun _ j hj hjn => ?_⟩
    simp only
    rw [leA_at _ _ (by omega), if_neg fun h => hjn h.2]
  ·left
   rw [if_neg hst]
   exact ⟨e1, fun hs => absurd hs hst⟩
 refine ⟨hlen.1.trans hl1, hlen.2.trans hl2, fun j hj => ?_, fun m hm => ?_, fun m hnm hm hst j hj hjm h0 ht => ?_⟩
 ·rcases gen j hj with e | ⟨a, b, c, d⟩ | ⟨a, b, c, d⟩
  ·rw [e]
   rcases h.lv j hj with e | ⟨a, b, c⟩ | ⟨a, b, c⟩
   ·exact .inl e
   ·exact .inr (.inl ⟨a, b, by omega⟩)
   ·exact .inr (.inr ⟨a, b, by omega⟩)
  ·exact .inr (.inl ⟨b, d, by omega⟩)
  ·subst a; exact .inr (.inr ⟨d, b, Nat.le_refl _⟩)
 ·by_cases hmn : m = n
  ·subst hmn
   rcases here with ⟨e, _⟩ | ⟨hst, hs0, j0, a, b, c, d, e, f⟩
   ·exact .inl e
   ·refine .inr ⟨Nat.le_refl _, hst, hs0, j0, a, b, c, d, e, fun hc => ?_⟩
    have em := f m hn (fun h => b h.symm)
    rw [em, tg_eq em] at hc
    exact old m hn hc.1 hc.2
  ·rw [hev m hm hmn]
   rcases h.ev m hm with e | ⟨a, b, c, j, d1, d2, d3, d4, d5, d6⟩
   ·exact .inl e
   ·have ej := keep j d1 d4
    refine .inr ⟨by omega, b, c, j, d1, d2, d3, by rw [ej]; exact d4, by rw [tg_eq ej]; exact d5, fun hc => ?_⟩
    rcases new m hm hc.1 with e | e
    ·rw [e, tg_eq e] at hc; exact d6 hc
    ·rw [e] at hc; omega
 ·by_cases hmn : m = n
  ·subst hmn
   rcases here with ⟨_, e⟩ | ⟨_, _, j0, a, b, c, d, e, f⟩
   ·have ej := e hst j hj hjm
    rw [ej] at h0
    rw [tg_eq ej] at ht
    exact absurd ht (old j hj h0)
   ·by_cases ej : j = j0
    ·rw [ej]; exact c
    ·have ej := f j hj ej
     rw [ej] at h0
     rw [tg_eq ej] at ht
     exact absurd ht (old j hj h0)
  ·rw [hev m hm hmn]
   rcases new j hj h0 with e | e
   ·rw [e] at h0
    rw [tg_eq e] at ht
    exact h.lead m (by omega) hm hst j hj hjm h0 ht
   ·rw [e] at ht; omega
theorem inv_run (ha : Asc N ns W) (hN : N ≤ 11) : ∀ (k : Nat) (p : IL × IL), k ≤ N → Inv N ns slots W k p → Inv N ns slots W 0 (runV ns slots W N (List.range k).reverse p)
 | 0, p, _, h => h
 | k + 1, p, hk, h => by
  rw [List.range_succ, List.reverse_append]
  exact inv_run ha hN k _ (by omega) (inv_step ha hN (by omega) h)
theorem inv_mon (N : Nat) (ns : List Nd) (slots : LL) (W : IL) : Inv N ns slots W N (mon N, mon N) := by
 have e : ∀ j, j < N → wtN (mon N) j = -1 := fun j hj => by
  unfold wtN mon
  rw [List.getD_eq_getElem?_getD, List.getElem?_replicate, if_pos hj]; rfl
 exact ⟨by simp [mon], by simp [mon], fun j hj => .inl (e j hj), fun m hm => .inl (e m hm), fun m h1 h2 => by omega⟩
theorem asc_lay (h : LayG N gate ns) (hw : WtG ns N W) : Asc N ns W where
 up := fun j hj h0 => by
  have hx := nd_get h hj
  have hlt := hw.lt j hj h0
  have := hx.ex (wtN W j).toNat (by omega)
  unfold tgN
  rw [← Int.toNat_of_nonneg h0, lAt_nat _ _ _ (show (wtN W j).toNat < _ by omega)]
  unfold ExitG at this
  split at this <;> omega
 lp := fun j hj h5 => by
  have hx := nd_get h hj
  unfold kdN at h5
  have hlen : 0 < (ndN ns j).2.2.2.2.1.length := by rw [hx.cnt, h5]; decide
  have := hx.ex 0 hlen
  rw [show (0 : Int) = ((0 : Nat) : Int) from rfl, lAt_nat _ _ _ hlen]
  unfold ExitG at this
  rwa [if_pos ⟨h5, rfl⟩] at this
end
section
variable {N gate : Nat} {ns : List Nd} {slots : LL} {W : IL}
def ldN (ns : List Nd) (le : IL) (n k : Nat) : Bool := decide (0 ≤ wtN le k) && tgN ns le k == (n : Int)
def cnN (ns : List Nd) (le : IL) (n : Nat) : Nat → Nat
 | 0 => 0
 | k + 1 => cnN ns le n k + if ldN ns le n k = true then 1 else 0
theorem cn_one (le : IL) (n a : Nat) : ∀ k, (∀ j, j < k → ldN ns le n j = true → j = a) → cnN ns le n k = if a < k ∧ ldN ns le n a = true then 1 else 0
 | 0, _ => by simp [cnN]
 | k + 1, h => by
  unfold cnN
  rw [cn_one le n a k fun j hj => h j (by omega)]
  by_cases hk : ldN ns le n k = true
  ·have := h k (by omega) hk
   subst this
   rw [if_neg (by omega), if_pos hk, if_pos ⟨by omega, hk⟩]
  ·rw [if_neg hk]
   by_cases ha : ldN ns le n a = true
   ·have : a ≠ k := fun e => hk (e ▸ ha)
    by_cases hak : a < k
    ·rw [if_pos ⟨hak, ha⟩, if_pos ⟨by omega, ha⟩]
    ·rw [if_neg (fun h => hak h.1), if_neg (fun h => by omega)]
   ·rw [if_neg (fun h => ha h.2), if_neg (fun h => ha h.2)]
theorem e13 (k : Int) : sp13 (k, ()) = some (decide (1 ≤ k) && decide (k ≤ 6), ()) := by
 show sh13 0 k = _
 unfold sh13; simp only [joinK, sh13_K0]; split <;> (try simp_all) <;> omega
structure Fin3 (N : Nat) (ns : List Nd) (slots : LL) (p : IL × IL) : Prop where
 l1 : p.1.length = N
 l2 : p.2.length = N
 rng : ∀ j, j < N → wtN p.1 j = -1 ∨ (0 ≤ wtN p.1 j ∧ wtN p.1 j < (ndN ns j).2.2.2.2.1.length)
 other : ∀ m, m < N → stN ns m = false → wtN p.2 m = -1
 lead : ∀ m, m < N → stN ns m = true → ∀ j, j < N → j ≠ m → ldN ns p.1 m j = true → wtN p.2 m = j
 cnt : ∀ m, m < N → stN ns m = true → cnN ns p.1 m N ≤ 1 ∧ (0 ≤ wtN p.2 m → cnN ns p.1 m N = 1 ∧ s0N slots m = 0)
theorem ld_iff {le : IL} {m j : Nat} : ldN ns le m j = true ↔ 0 ≤ wtN le j ∧ tgN ns le j = m := by unfold ldN; simp
theorem fin3 (h : LayG N gate ns) (hw : WtG ns N W) {p : IL × IL} (hi : Inv N ns slots W 0 p) : Fin3 N ns slots p := by
 have lead : ∀ m, m < N → stN ns m = true → ∀ j, j < N → j ≠ m → ldN ns p.1 m j = true → wtN p.2 m = j := fun m hm hs j hj hjm hl => by
  rw [ld_iff] at hl
  exact hi.lead m (Nat.zero_le _) hm hs j hj hjm hl.1 hl.2
 refine ⟨hi.l1, hi.l2, fun j hj => ?_, fun m hm hs => ?_, lead, fun m hm hs => ?_⟩
 ·rcases hi.lv j hj with e | ⟨a, b, c⟩ | ⟨a, b, c⟩
  ·exact .inl e
  ·right; rw [b]; exact ⟨a, hw.lt j hj a⟩
  ·right
   have hx := nd_get h hj
   unfold kdN at b
   rw [a, hx.cnt, b]; decide
 ·rcases hi.ev m hm with e | ⟨_, b, _⟩
  ·exact e
  ·rw [hs] at b; cases b
 ·rcases hi.ev m hm with e | ⟨_, _, hs0, j0, a, b, c, d, e, f⟩
  ·have := cn_one (ns := ns) p.1 m m N fun j hj hl => by
    by_cases hjm : j = m
    ·exact hjm
    ·have := lead m hm hs j hj hjm hl; omega
   rw [this]
   exact ⟨by split <;> omega, fun h => by omega⟩
  ·have := cn_one (ns := ns) p.1 m j0 N fun j hj hl => by
    by_cases hjm : j = m
    ·subst hjm; exact absurd (ld_iff.1 hl) f
    ·have := lead m hm hs j hj hjm hl; omega
   rw [this, if_pos ⟨a, ld_iff.2 ⟨d, e⟩⟩]
   exact ⟨Nat.le_refl _, fun _ => ⟨rfl, hs0⟩⟩
end
theorem law3 (x : IL × Unit) (e14 : sp14 () = some (true, ())) : sp3 x = some (true, ()) := by
 obtain ⟨l, ⟨⟩⟩ := x
 show sh3 100000 l = _
 unfold sh3
 obtain ⟨s0, h0, k0⟩ := e7 l
 obtain ⟨N, gate, ns, ds, s1, h1, k1, hlay, hdev⟩ := e8 k0
 obtain ⟨slots, bins, s2, h2, k2, hpl⟩ := e9 hlay ds 12 (by decide) (by decide) k1
 obtain ⟨c, s3, h3, k3, hc, hcs⟩ := e10 hlay ds k2
 obtain ⟨fs, s4, h4, k4, hfl, hmv⟩ := e12 hlay ds k3 2 (by decide)
 have hN := hlay.N11
 have hl := hlay.len
 have h11 := e11 hlay hdev hpl hc hcs (fs := fs) (by omega) (e28m hlay hc hcs hfl hmv)
 have hw := wt_lay hlay hpl hc hcs fs
 have hF := fin3 (slots := slots) hlay hw (inv_run (asc_lay hlay hw) hN N _ (Nat.le_refl _) (inv_mon N ns slots _))
 rw [h0, Option.bind_some, h1, Option.bind_some]
 simp only
 rw [h2, Option.bind_some]
 simp only
 rw [h3, Option.bind_some]
 simp only
 rw [show ((2 : Int)) = ((2 : Nat) : Int) from rfl, h4, Option.bind_some]
 simp only
 rw [h11, Option.bind_some]
 simp only [joinK]
 generalize hE : runV ns slots (waL ns slots bins c fs N) N (List.range N).reverse (mon N, mon N) = RV at hF
 have hR1 := hF.l1
 have hR2 := hF.l2
 rw [if_neg (by simp), if_neg (by simp; omega)]
 unfold sh3_K6
 simp only [joinK]
 rw [if_neg (by simp; omega)]
 refine iter_count (F := sh3_L10 100000 sh3_K7) (fun n : Nat => ((n : Int), (ns, ds, ()), (slots, bins, ()), (RV.1, RV.2, ()), ())) N 100000 (by omega) (fun rc n hn => ?_) (fun rc => ?_)
 ·have hnl : n < ns.length := by omega
  have hns : n < slots.length := by rw [hpl.ls]; exact hn
  unfold sh3_L10
  simp only [joinK]
  rw [hl, if_pos (by simpa using hn)]
  refine iter_count (F := sh3_L18 _) (fun k : Nat => ((n : Int), ((cnN ns RV.1 n k : Nat) : Int), (k : Int), (ns, ds, ()), (slots, bins, ()), (RV.1, RV.2, ()), ())) N 100000 (by omega) (fun rc2 k hk => ?_) (fun rc2 => ?_)
  ·have hkl : k < ns.length := by omega
   have hkR : k < RV.1.length := by omega
   unfold sh3_L18
   simp only [joinK]
   rw [hl, if_pos (by simpa using hk), if_pos (inR_nat hkR), if_pos (inR_nat hk), lat_w, lat_nd]
   have hr := hF.rng k hk
   rw [if_neg (by simp; omega), if_pos (inR_nat hkR), decide_eq_false (show ¬ ((List.length (ndN ns k).2.2.2.2.1 : Int) ≤ wtN RV.1 k) by omega)]
   have hcn : cnN ns RV.1 n k ≤ k := by
    clear hk hkl hkR hr
    induction k with
    | zero => exact Nat.le_refl _
    | succ k ih => unfold cnN; split <;> omega
   have hcs' : cnN ns RV.1 n (k + 1) = cnN ns RV.1 n k + if ldN ns RV.1 n k = true then 1 else 0 := rfl
   unfold sh3_K21
   simp only [joinK]
   rw [if_neg Bool.false_ne_true, if_pos (inR_nat hkR), lat_w, lat_nd]
   have skip : ldN ns RV.1 n k = false → sh3_K22 (sh3_K19 rc2) ((n : Int), ((cnN ns RV.1 n k : Nat) : Int), (k : Int), false, (ns, ds, ()), (slots, bins, ()), (RV.1, RV.2, ()), ()) = rc2 ((n : Int), ((cnN ns RV.1 n (k + 1) : Nat) : Int), ((k + 1 : Nat) : Int), (ns, ds, ()), (slots, bins, ()), (RV.1, RV.2, ()), ()) := fun hb => by
    unfold sh3_K22 sh3_K19
    simp only
    rw [if_neg (by simp), up1' hk, hcs', hb, if_neg (by simp)]
    rfl
   rcases hr with hr | ⟨hr0, hr1⟩
   ·rw [if_neg (by simp; omega)]
    exact skip (by unfold ldN; rw [decide_eq_false (by omega)]; rfl)
   ·have hin : inR (wtN RV.1 k) (ndN ns k).2.2.2.2.1.length = true := by simp only [inR, Bool.and_eq_true, decide_eq_true_eq]; omega
    rw [if_pos (by simpa using hr0), if_pos (inR_nat hkl), if_pos (inR_nat hkR), if_pos hin]
    have ht : (lAt (0, ()) (ndN ns k).2.2.2.2.1 (wtN RV.1 k)).1 = tgN ns RV.1 k := rfl
    rw [ht]
    have hld : ldN ns RV.1 n k = (tgN ns RV.1 k == (n : Int)) := by unfold ldN; rw [decide_eq_true hr0]; simp
    rw [← hld]
    cases hb : ldN ns RV.1 n k with
    | false => exact skip hb
    | true =>
     unfold sh3_K22
     simp only [joinK]
     rw [if_pos trivial]
     have k23 : sh3_K23 (sh3_K19 rc2) ((n : Int), ((cnN ns RV.1 n k + 1 : Nat) : Int), (k : Int), false, (ns, ds, ()), (slots, bins, ()), (RV.1, RV.2, ()), ()) = rc2 ((n : Int), ((cnN ns RV.1 n (k + 1) : Nat) : Int), ((k + 1 : Nat) : Int), (ns, ds, ()), (slots, bins, ()), (RV.1, RV.2, ()), ()) := by
      unfold sh3_K23 sh3_K19
      simp only
      rw [if_neg (by simp), up1' hk, hcs', hb, if_pos rfl]
     have ewr : IntKind.i64.wrap (((cnN ns RV.1 n k : Nat) : Int) + 1) = ((cnN ns RV.1 n k + 1 : Nat) : Int) := by rw [wrapI (by omega) (by omega)]; omega
     rw [ewr]
     by_cases hkn : k = n
     ·subst hkn
      rw [if_neg (by simp)]; exact k23
     ·rw [if_pos (by simp only [bne_iff_ne, ne_eq]; omega), if_pos (inR_nat hnl), lat_nd, e13, Option.bind_some]
      simp only
      cases hst : stN ns n with
      | false =>
       have e : (decide (1 ≤ (ndN ns n).2.1) && decide ((ndN ns n).2.1 ≤ 6)) = false := hst
       rw [e, if_neg (by simp)]; exact k23
      | true =>
       have e : (decide (1 ≤ (ndN ns n).2.1) && decide ((ndN ns n).2.1 ≤ 6)) = true := hst
       have := hF.lead n hn hst k hk hkn hb
       rw [e, if_pos rfl, if_pos (inR_nat (show n < RV.2.length by omega)), lat_w, this]
       simp only [bne_self_eq_false]
       exact k23
  ·unfold sh3_L18
   simp only
   rw [hl, if_neg (by simp)]
   unfold sh3_K13
   simp only [joinK]
   have hn2 : n < RV.2.length := by omega
   have k15 : sh3_K15 (sh3_K11 rc) ((n : Int), false, (ns, ds, ()), (slots, bins, ()), (RV.1, RV.2, ()), ()) = rc (((n + 1 : Nat) : Int), (ns, ds, ()), (slots, bins, ()), (RV.1, RV.2, ()), ()) := by
    unfold sh3_K15 sh3_K11
    simp only
    rw [if_neg (by simp), up1' hn]
   rw [if_pos (inR_nat hnl), lat_nd, e13, Option.bind_some]
   simp only
   cases hst : stN ns n with
   | false =>
    have e : (decide (1 ≤ (ndN ns n).2.1) && decide ((ndN ns n).2.1 ≤ 6)) = false := hst
    have := hF.other n hn hst
    rw [e, if_neg (by simp), if_pos (by rfl), if_pos (inR_nat hn2), lat_w, this]
    exact k15
   | true =>
    have e : (decide (1 ≤ (ndN ns n).2.1) && decide ((ndN ns n).2.1 ≤ 6)) = true := hst
    obtain ⟨c1, c2⟩ := hF.cnt n hn hst
    rw [e, if_pos rfl, if_neg (by simp; omega), if_pos (inR_nat hn2), lat_w]
    by_cases h0 : 0 ≤ wtN RV.2 n
    ·obtain ⟨d1, d2⟩ := c2 h0
     have hp1 := st_pos hlay hpl hn hst
     rw [if_pos (by simpa using h0), d1, if_neg (by decide), if_pos (inR_nat hns), lat_sl, if_pos (inR0 hp1.1), lat_z]
     unfold s0N at d2
     rw [d2, if_neg (by decide), if_neg (by decide)]
     exact k15
    ·rw [if_neg (by simpa using h0), if_neg (by decide)]
     exact k15
 ·unfold sh3_L10
  simp only
  rw [hl, if_neg (by simp)]
  unfold sh3_K7
  rw [e14]; rfl
end Go.Proofs.YtdkibgdkmnpncaaDoor
