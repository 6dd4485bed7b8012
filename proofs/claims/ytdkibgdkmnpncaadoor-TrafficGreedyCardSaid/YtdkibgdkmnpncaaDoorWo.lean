/- Chapter 10: what the functions come to; the laws. -/
import Derived.Test.YtdkibgdkmnpncaaDoorWb
import Derived.KernelRfl
open Go Go.Proofs Go.Abs
set_option linter.unusedVariables false
set_option maxRecDepth 100000
namespace Go.Proofs.YtdkibgdkmnpncaaDoor
structure MvG (ns : List Nd) (fs : List Dv) : Prop where
 each : ∀ f ∈ fs, (f.1 = 1 ∨ f.1 = 2) ∧ ∃ k : Nat, f.2.1 = k ∧ k < ns.length ∧ 0 ≤ f.2.2.1 ∧ f.2.2.1 < (ndN ns k).2.2.1
 diff : ∀ (i j : Nat) (hi : i < fs.length) (hj : j < fs.length), i < j → ¬ (fs[i].2.1 = fs[j].2.1 ∧ fs[i].2.2.1 = fs[j].2.2.1)
theorem mv_nil (ns : List Nd) : MvG ns [] := ⟨by simp, fun i j hi => absurd hi (Nat.not_lt_zero i)⟩
theorem mv_snoc {ns : List Nd} {fs : List Dv} (h : MvG ns fs) {f : Dv} (h1 : (f.1 = 1 ∨ f.1 = 2) ∧ ∃ k : Nat, f.2.1 = k ∧ k < ns.length ∧ 0 ≤ f.2.2.1 ∧ f.2.2.1 < (ndN ns k).2.2.1) (h2 : ∀ g ∈ fs, ¬ (g.2.1 = f.2.1 ∧ g.2.2.1 = f.2.2.1)) : MvG ns (fs ++ [f]) where
 each := fun g hg => by
  rcases List.mem_append.1 hg with hg | hg
  ·exact h.each g hg
  ·simp only [List.mem_singleton] at hg; subst hg; exact h1
 diff := fun i j hi hj hij => by
  simp only [List.length_append, List.length_cons, List.length_nil] at hi hj
  by_cases ej : j < fs.length
  ·rw [List.getElem_append_left (by omega), List.getElem_append_left ej]
   exact h.diff i j (by omega) ej hij
  ·have : j = fs.length := by omega
   subst this
   rw [List.getElem_append_left (by omega), List.getElem_append_right (Nat.le_refl _)]
   simp only [Nat.sub_self, List.getElem_cons_zero]
   exact h2 _ (List.getElem_mem _)
theorem e12 {N gate : Nat} {ns : List Nd} (h : LayG N gate ns) (dv : List Dv) {s : Sr} (hs : SrOk s) (n : Nat) (hn : n ≤ 10) :
  ∃ fs s', sp12 (s, (ns, dv, ()), (n : Int), ()) = some (fs, s', ()) ∧ SrOk s' ∧ fs.length ≤ n ∧ MvG ns fs := by
 have hl := h.len
 have h11 := h.N11
 have hgN := h.gN
 show ∃ fs s', sh12 100000 s (ns, dv, ()) (n : Int) = some (fs, s', ()) ∧ _
 unfold sh12
 simp only [joinK]
 refine iter_post (F := sh12_L2 100000 sh12_K0) (fun i z => ∃ (s : Sr) (fs : List Dv), z = ((n : Int), (i : Int), s, (ns, dv, ()), fs, ()) ∧ SrOk s ∧ fs.length ≤ i ∧ MvG ns fs)
  (fun o => ∃ fs s', o = some (fs, s', ()) ∧ SrOk s' ∧ fs.length ≤ n ∧ MvG ns fs) n 100000 (by omega) ⟨s, [], rfl, hs, Nat.le_refl _, mv_nil ns⟩ (fun rc i z hi hz => ?_) (fun rc z hz => ?_)
 ·obtain ⟨s, fs, rfl, hs, hfl, hm⟩ := hz
  have fin : ∀ (s' : Sr) (fs' : List Dv), SrOk s' → fs'.length ≤ i + 1 → MvG ns fs' → ∃ z', sh12_K3 rc ((n : Int), (i : Int), s', (ns, dv, ()), fs', ()) = rc z' ∧ ∃ (s : Sr) (fs : List Dv), z' = ((n : Int), ((i + 1 : Nat) : Int), s, (ns, dv, ()), fs, ()) ∧ SrOk s ∧ fs.length ≤ i + 1 ∧ MvG ns fs := fun s' fs' a b c => by
   unfold sh12_K3
   simp only
   rw [up1' hi]
   exact ⟨_, rfl, s', fs', rfl, a, b, c⟩
  simp only [sh12_L2, joinK]
  obtain ⟨k, s1, hk, k0, k1, hs1⟩ := e18 hs (ns.length : Int) (by omega) (by omega)
  obtain ⟨k, rfl⟩ : ∃ m : Nat, k = m := ⟨k.toNat, by omega⟩
  have hkl : k < ns.length := by omega
  rw [if_pos (by simpa using hi), hk, Option.bind_some]
  simp only
  rw [if_pos (inR_nat hkl), lat_nd]
  have hx := nd_get h (show k < N by omega)
  have hxl := node_len hx
  by_cases h0 : (ndN ns k).2.2.1 = 0
  ·rw [if_pos (by simpa using h0)]
   exact fin s1 fs hs1 (by omega) hm
  rw [if_neg (by simpa using h0), if_pos (inR_nat hkl)]
  obtain ⟨a, s2, ha, a0, a1, hs2⟩ := e17 hs1 1 2 (by decide) (by decide) (by decide)
  rw [ha, Option.bind_some]
  simp only
  obtain ⟨w, s3, hw, w0, w1, hs3⟩ := e18 hs2 (ndN ns k).2.2.1 (by omega) (by omega)
  rw [hw, Option.bind_some]
  simp only
  have k8 : ∀ b : Bool, (b = false → ∀ g ∈ fs, ¬ (g.2.1 = (k : Int) ∧ g.2.2.1 = w)) → ∃ z', sh12_K8 (sh12_K3 rc) ((n : Int), (i : Int), b, s3, (ns, dv, ()), (a, (k : Int), w, ()), fs, ()) = rc z' ∧ ∃ (s : Sr) (fs : List Dv), z' = ((n : Int), ((i + 1 : Nat) : Int), s, (ns, dv, ()), fs, ()) ∧ SrOk s ∧ fs.length ≤ i + 1 ∧ MvG ns fs := fun b hb => by
   unfold sh12_K8
   simp only
   cases b with
   | true => rw [if_neg (by simp)]; exact fin s3 fs hs3 (by omega) hm
   | false =>
    rw [if_pos (by rfl), if_pos (dlim (by omega)), if_pos (dlim (by omega))]
    exact fin s3 _ hs3 (by simp; omega) (mv_snoc hm ⟨by show a = 1 ∨ a = 2; omega, k, rfl, hkl, w0, w1⟩ (hb rfl))
  have hit := iter_count (F := sh12_L10 (sh12_K8 (sh12_K3 rc))) (r := sh12_K8 (sh12_K3 rc) ((n : Int), (i : Int), fs.any (fun g => g.2.1 == (k : Int) && g.2.2.1 == w), s3, (ns, dv, ()), (a, (k : Int), w, ()), fs, ()))
   (fun j : Nat => ((n : Int), (i : Int), (fs.take j).any (fun g => g.2.1 == (k : Int) && g.2.2.1 == w), (j : Int), s3, (ns, dv, ()), (a, (k : Int), w, ()), fs, ())) fs.length 100000 (by omega) (fun rc2 j hj => ?_) (fun rc2 => ?_)
  ·simp only [List.take_zero, List.any_nil] at hit
   rw [show ((0 : Nat) : Int) = 0 from rfl] at hit
   rw [hit]
   refine k8 _ fun hb g hg hc => ?_
   have := List.any_eq_false.1 hb g hg
   simp [hc.1, hc.2] at this
  ·have et : (fs.take (j + 1)).any (fun g => g.2.1 == (k : Int) && g.2.2.1 == w) = ((fs.take j).any (fun g => g.2.1 == (k : Int) && g.2.2.1 == w) || (fs[j].2.1 == (k : Int) && fs[j].2.2.1 == w)) := by
    rw [List.take_add_one, List.getElem?_eq_getElem hj, List.any_append]; simp
   have k11 : ∀ b : Bool, sh12_K11 rc2 ((n : Int), (i : Int), b, (j : Int), s3, (ns, dv, ()), (a, (k : Int), w, ()), fs, ()) = rc2 ((n : Int), (i : Int), b, ((j + 1 : Nat) : Int), s3, (ns, dv, ()), (a, (k : Int), w, ()), fs, ()) := fun b => by
    unfold sh12_K11
    simp only
    rw [up1' hj]
   have eg : fs.getD j (0, 0, 0, ()) = fs[j] := by rw [List.getD_eq_getElem?_getD, List.getElem?_eq_getElem hj]; rfl
   unfold sh12_L10
   simp only [joinK]
   rw [et, if_pos (by simpa using hj)]
   cases hb : (fs.take j).any (fun g => g.2.1 == (k : Int) && g.2.2.1 == w) with
   | true => rw [if_pos rfl, k11]; rfl
   | false =>
    rw [if_neg (by simp), if_pos (inR_nat hj), if_pos (decide_eq_true (by rw [Int.toNat_natCast]; omega)), Int.toNat_natCast, eg]
    cases e1 : fs[j].2.1 == (k : Int) with
    | true => rw [if_pos rfl, if_pos (inR_nat hj), if_pos (decide_eq_true (by omega)), k11]; rfl
    | false => rw [if_neg (by simp), k11]; rfl
  ·unfold sh12_L10
   simp only
   rw [if_neg (by simp), List.take_length]
 ·obtain ⟨s, fs, rfl, hs, hfl, hm⟩ := hz
  simp only [sh12_L2]
  rw [if_neg (by simp), sh12_K0]
  exact ⟨fs, s, rfl, hs, hfl, hm⟩
section
variable {N gate : Nat} {ns : List Nd} {ds : List Dv} {od : IL}
theorem lat_dv (fs : List Dv) (k : Nat) (h : k < fs.length) : lAt (0, 0, 0, ()) fs (k : Int) = fs[k] := lAt_nat _ _ _ h
theorem e28m (h : LayG N gate ns) {c : IL} (hc : c.length = N) (hcs : ∀ (j : Nat) (h1 : j < c.length) (h2 : j < ns.length), CmdG ns[j] (c[j]).1) {fs : List Dv} (hf : fs.length ≤ 2) (hm : MvG ns fs) : sp28 ((ns, ds, od, ()), c, fs, ()) = some (0, (ns, ds, od, ()), ()) := by
 have hl := h.len
 have h11 := h.N11
 rw [cmds28 h hc hcs]
 unfold sh28_K0
 simp only [joinK]
 rw [if_neg (by simp; omega)]
 refine iter_count (F := sh28_L13 (sh28_K1 100000)) (fun k : Nat => (fs, fs, (fs.length : Int), (k : Int), (ns, ds, od, ()), ())) fs.length 100000 (by omega) (fun rc k hk => ?_) (fun rc => ?_)
 ·obtain ⟨h1, m, e1, hmN, w0, w1⟩ := hm.each _ (List.getElem_mem hk)
  unfold sh28_L13
  simp only [joinK]
  rw [if_pos (by simpa using hk), if_pos (inR_nat hk), lat_dv fs k hk]
  generalize fs[k] = f at h1 e1 w0 w1
  obtain ⟨a, b, w, ⟨⟩⟩ := f
  simp only at h1 e1 w0 w1
  subst e1
  have k14 : sh28_K14 rc (fs, fs, (fs.length : Int), (k : Int), false, (ns, ds, od, ()), (a, (m : Int), w, ()), ()) = rc (fs, fs, (fs.length : Int), ((k + 1 : Nat) : Int), (ns, ds, od, ()), ()) := by
   unfold sh28_K14
   simp only [joinK]
   rw [if_neg (by simp), if_neg (by simp), if_neg (by simp; omega), if_neg (by simp; omega), if_pos (inR_nat hmN), lat_nd, decide_eq_false (by omega)]
   unfold sh28_K15
   simp only
   rw [if_neg (by simp), up1' hk]
  rcases h1 with rfl | rfl
  ·rw [if_neg (by simp)]; exact k14
  ·rw [if_pos (by simp)]; exact k14
 ·unfold sh28_L13
  simp only
  rw [if_neg (by simp)]
  unfold sh28_K1
  simp only [joinK]
  refine iter_count (F := sh28_L4 100000 sh28_K2) (fun k : Nat => (fs, fs, (fs.length : Int), (k : Int), (ns, ds, od, ()), ())) fs.length 100000 (by omega) (fun rc k hk => ?_) (fun rc => ?_)
  ·unfold sh28_L4
   simp only [joinK]
   have hcut : cutL fs 0 (k : Int) = fs.take k := by simp [cutL]
   rw [if_pos (by simpa using hk), if_pos (inR_nat hk), if_pos (show inCut 0 (k : Int) fs.length = true from inCut_nat (a := 0) (Nat.zero_le _) (by omega)), lat_dv fs k hk, hcut]
   have htl : (fs.take k).length = k := by rw [List.length_take]; omega
   refine iter_count (F := sh28_L9 _ _) (fun j : Nat => (fs, fs, (fs.length : Int), (k : Int), fs.take k, ((fs.take k).length : Int), (j : Int), (ns, ds, od, ()), fs[k], ())) k 100000 (by omega) (fun rc2 j hj => ?_) (fun rc2 => ?_)
   ·unfold sh28_L9
    simp only [joinK]
    have hjt : j < (fs.take k).length := by omega
    have hd := hm.diff j k (by omega) hk hj
    rw [if_pos (by simp; omega), if_pos (inR_nat hjt), lat_dv _ j hjt, List.getElem_take]
    by_cases e1 : fs[k].2.1 = fs[j].2.1
    ·rw [if_pos (by simpa using e1)]
     unfold sh28_K10
     simp only
     rw [if_neg (by simp only [beq_iff_eq]; exact fun e2 => hd ⟨e1.symm, e2.symm⟩), up1' hj]
    ·rw [if_neg (by simpa using e1)]
     unfold sh28_K10
     simp only
     rw [if_neg (by simp), up1' hj]
   ·unfold sh28_L9
    simp only
    rw [if_neg (by simp; omega)]
    unfold sh28_K7 sh28_K5
    simp only
    rw [if_neg (by simp), up1' hk]
  ·unfold sh28_L4
   simp only
   rw [if_neg (by simp)]
   rfl
theorem tg_eq {a b : IL} {j : Nat} (h : wtN a j = wtN b j) : tgN ns a j = tgN ns b j := by unfold tgN; rw [h]
structure Asc (N : Nat) (ns : List Nd) (W : IL) : Prop where
 up : ∀ j, j < N → 0 ≤ wtN W j → (j : Int) ≤ tgN ns W j
 lp : ∀ j, j < N → kdN ns j = 5 → (lAt (0, ()) (ndN ns j).2.2.2.2.1 0).1 = j
structure Inv (N : Nat) (ns : List Nd) (slots : LL) (W : IL) (k : Nat) (p : IL × IL) : Prop where
 l1 : p.1.length = N
 l2 : p.2.length = N
 lv : ∀ j, j < N → wtN p.1 j = -1 ∨ (0 ≤ wtN W j ∧ wtN p.1 j = wtN W j ∧ (k : Int) ≤ tgN ns W j) ∨ (wtN p.1 j = 0 ∧ kdN ns j = 5 ∧ k ≤ j)
 ev : ∀ m, m < N → wtN p.2 m = -1 ∨ (k ≤ m ∧ stN ns m = true ∧ s0N slots m = 0 ∧ ∃ j : Nat, j < N ∧ j ≠ m ∧ wtN p.2 m = j ∧ 0 ≤ wtN p.1 j ∧ tgN ns p.1 j = m ∧ ¬ (0 ≤ wtN p.1 m ∧ tgN ns p.1 m = m))
 lead : ∀ m, k ≤ m → m < N → stN ns m = true → ∀ j, j < N → j ≠ m → 0 ≤ wtN p.1 j → tgN ns p.1 j = m → wtN p.2 m = j
variable {slots : LL} {W : IL}
theorem inv_tg (ha : Asc N ns W) {k : Nat} {p : IL × IL} (h : Inv N ns slots W k p) {j : Nat} (hj : j < N) (h0 : 0 ≤ wtN p.1 j) : (k : Int) ≤ tgN ns p.1 j := by
 rcases h.lv j hj with e | ⟨a, b, c⟩ | ⟨a, b, c⟩
 ·omega
 ·rw [tg_eq b]; exact c
 ·have : tgN ns p.1 j = j := by unfold tgN; rw [a]; exact ha.lp j hj b
  omega
theorem inv_step (ha : Asc N ns W) (hN : N ≤ 11) {n : Nat} (hn : n < N) {p : IL × IL} (h : Inv N ns slots W (n + 1) p) : Inv N ns slots W n (rndV ns slots W N n p.1 p.2) := by
 obtain ⟨le, en⟩ := p
 have hl1 : le.length = N := h.l1
 have hl2 : en.length = N := h.l2
 have hlen := rnd_len ns slots W N n le en
 generalize hE : rndV ns slots W N n le en = q at hlen
 have gen : ∀ j, j < N → wtN q.1 j = wtN le j ∨ (j ≠ n ∧ 0 ≤ wtN W j ∧ tgN ns W j = n ∧ wtN q.1 j = wtN W j) ∨ (j = n ∧ kdN ns n = 5 ∧ wtN le n < 0 ∧ wtN q.1 n = 0) := fun j hj => by
  rcases rnd_le (slots := slots) (W := W) (ns := ns) hN hn le en hl1 j hj with e | e
  ·rw [hE] at e
   rw [leA_at _ _ (by omega)] at e
   by_cases hc : arN ns slots W le n = true ∧ j = n
   ·rw [if_pos hc] at e
    obtain ⟨c1, rfl⟩ := hc
    unfold arN at c1
    simp only [Bool.and_eq_true, decide_eq_true_eq, beq_iff_eq] at c1
    exact .inr (.inr ⟨rfl, c1.1, c1.2.2.1, e⟩)
   ·rw [if_neg hc] at e; exact .inl e
  ·rw [hE] at e; exact .inr (.inl e)
 have keep : ∀ j, j < N → 0 ≤ wtN le j → wtN q.1 j = wtN le j := fun j hj h0 => by
  rcases gen j hj with e | ⟨a, b, c, d⟩ | ⟨a, b, c, d⟩
  ·exact e
  ·rcases h.lv j hj with e | ⟨_, e, _⟩ | ⟨_, _, e⟩
   ·simp only at e; omega
   ·exact d.trans e.symm
   ·have := ha.up j hj b; omega
  ·subst a; omega
 have new : ∀ j, j < N → 0 ≤ wtN q.1 j → wtN q.1 j = wtN le j ∨ tgN ns q.1 j = n := fun j hj h0 => by
  rcases gen j hj with e | ⟨a, b, c, d⟩ | ⟨a, b, c, d⟩
  ·exact .inl e
  ·right; rw [tg_eq d]; exact c
  ·subst a
   right
   unfold tgN; rw [d]; exact ha.lp j hj b
 have old : ∀ j, j < N → 0 ≤ wtN le j → tgN ns le j ≠ n := fun j hj h0 => by
  have := inv_tg ha h hj h0
  simp only at this; omega
 have hev : ∀ m, m < N → m ≠ n → wtN q.2 m = wtN en m := fun m hm hmn => by
  rw [← hE]
  unfold rndV
  split
  ·split
   ·simp only; rw [wt_set _ _ _ _ (by omega), if_neg hmn]
   ·rfl
  ·rfl
 have here : (wtN q.2 n = -1 ∧ (stN ns n = true → ∀ j, j < N → j ≠ n → wtN q.1 j = wtN le j)) ∨ (stN ns n = true ∧ s0N slots n = 0 ∧ ∃ j0 : Nat, j0 < N ∧ j0 ≠ n ∧ wtN q.2 n = j0 ∧ 0 ≤ wtN q.1 j0 ∧ tgN ns q.1 j0 = n ∧ ∀ j, j < N → j ≠ j0 → wtN q.1 j = wtN le j) := by
  have e1 : wtN en n = -1 := by
   rcases h.ev n hn with e | ⟨a, _⟩
   ·exact e
   ·omega
  rw [← hE]
  unfold rndV
  by_cases hst : stN ns n = true
  ·rw [if_pos hst]
   by_cases hc : (csN ns W n N != 0 && (opN ns slots n && !arN ns slots W le n)) = true
   ·right
    rw [if_pos hc]
    simp only [Bool.and_eq_true, bne_iff_ne, ne_eq, Bool.not_eq_true'] at hc
    obtain ⟨h0, ho, hr⟩ := hc
    obtain ⟨a1, a2, _⟩ := low_bits (cs_2048 hN n) h0
    have hm := cs_mem a2
    have eA : leA ns slots W le n = le := by unfold leA; rw [if_neg (by simp [hr])]
    have hs0 : s0N slots n = 0 := by
     unfold opN at ho
     rw [if_pos hst] at ho
     split at ho
     ·cases ho
     ·simpa using ho
    simp only
    rw [eA]
    have eL : wtN (le.set (low (csN ns W n N)) (wtN W (low (csN ns W n N)), ())) (low (csN ns W n N)) = wtN W (low (csN ns W n N)) := by rw [wt_set _ _ _ _ (by omega), if_pos rfl]
    refine ⟨hst, hs0, low (csN ns W n N), hm.1, hm.2.1, ?_, ?_, ?_, fun j hj hj2 => ?_⟩
    ·rw [wt_set _ _ _ _ (by omega), if_pos rfl]
    ·rw [eL]; exact hm.2.2.1
    ·rw [tg_eq eL]; exact hm.2.2.2
    ·rw [wt_set _ _ _ _ (by omega), if_neg hj2]
   ·left
    rw [if_neg hc]
    refine ⟨e1, fun _ j hj hjn => ?_⟩
    simp only
    rw [leA_at _ _ (by omega), if_neg fun h => hjn h.2]
  ·left
   rw [if_neg hst]
   exact ⟨e1, fun hs => absurd hs hst⟩
 refine ⟨hlen.1.trans hl1, hlen.2.trans hl2, fun j hj => ?_, fun m hm => ?_, fun m hnm hm hst j hj hjm h0 ht => ?_⟩
 ·rcases gen j hj with e | ⟨a, b, c, d⟩ | ⟨a, b, c, d⟩
  ·rw [e]
   rcases h.lv j hj with e | ⟨a, b, c⟩ | ⟨a, b, c⟩
   ·exact .inl e
   ·exact .inr (.inl ⟨a, b, by omega⟩)
   ·exact .inr (.inr ⟨a, b, by omega⟩)
  ·exact .inr (.inl ⟨b, d, by omega⟩)
  ·subst a; exact .inr (.inr ⟨d, b, Nat.le_refl _⟩)
 ·by_cases hmn : m = n
  ·subst hmn
   rcases here with ⟨e, _⟩ | ⟨hst, hs0, j0, a, b, c, d, e, f⟩
   ·exact .inl e
   ·refine .inr ⟨Nat.le_refl _, hst, hs0, j0, a, b, c, d, e, fun hc => ?_⟩
    have em := f m hn (fun h => b h.symm)
    rw [em, tg_eq em] at hc
    exact old m hn hc.1 hc.2
  ·rw [hev m hm hmn]
   rcases h.ev m hm with e | ⟨a, b, c, j, d1, d2, d3, d4, d5, d6⟩
   ·exact .inl e
   ·have ej := keep j d1 d4
    refine .inr ⟨by omega, b, c, j, d1, d2, d3, by rw [ej]; exact d4, by rw [tg_eq ej]; exact d5, fun hc => ?_⟩
    rcases new m hm hc.1 with e | e
    ·rw [e, tg_eq e] at hc; exact d6 hc
    ·rw [e] at hc; omega
 ·by_cases hmn : m = n
  ·subst hmn
   rcases here with ⟨_, e⟩ | ⟨_, _, j0, a, b, c, d, e, f⟩
   ·have ej := e hst j hj hjm
    rw [ej] at h0
    rw [tg_eq ej] at ht
    exact absurd ht (old j hj h0)
   ·by_cases ej : j = j0
    ·rw [ej]; exact c
    ·have ej := f j hj ej
     rw [ej] at h0
     rw [tg_eq ej] at ht
     exact absurd ht (old j hj h0)
  ·rw [hev m hm hmn]
   rcases new j hj h0 with e | e
   ·rw [e] at h0
    rw [tg_eq e] at ht
    exact h.lead m (by omega) hm hst j hj hjm h0 ht
   ·rw [e] at ht; omega
theorem inv_run (ha : Asc N ns W) (hN : N ≤ 11) : ∀ (k : Nat) (p : IL × IL), k ≤ N → Inv N ns slots W k p → Inv N ns slots W 0 (runV ns slots W N (List.range k).reverse p)
 | 0, p, _, h => h
 | k + 1, p, hk, h => by
  rw [List.range_succ, List.reverse_append]
  exact inv_run ha hN k _ (by omega) (inv_step ha hN (by omega) h)
theorem inv_mon (N : Nat) (ns : List Nd) (slots : LL) (W : IL) : Inv N ns slots W N (mon N, mon N) := by
 have e : ∀ j, j < N → wtN (mon N) j = -1 := fun j hj => by
  unfold wtN mon
  rw [List.getD_eq_getElem?_getD, List.getElem?_replicate, if_pos hj]; rfl
 exact ⟨by simp [mon], by simp [mon], fun j hj => .inl (e j hj), fun m hm => .inl (e m hm), fun m h1 h2 => by omega⟩
theorem asc_lay (h : LayG N gate ns) (hw : WtG ns N W) : Asc N ns W where
 up := fun j hj h0 => by
  have hx := nd_get h hj
  have hlt := hw.lt j hj h0
  have := hx.ex (wtN W j).toNat (by omega)
  unfold tgN
  rw [← Int.toNat_of_nonneg h0, lAt_nat _ _ _ (show (wtN W j).toNat < _ by omega)]
  unfold ExitG at this
  split at this <;> omega
 lp := fun j hj h5 => by
  have hx := nd_get h hj
  unfold kdN at h5
  have hlen : 0 < (ndN ns j).2.2.2.2.1.length := by rw [hx.cnt, h5]; decide
  have := hx.ex 0 hlen
  rw [show (0 : Int) = ((0 : Nat) : Int) from rfl, lAt_nat _ _ _ hlen]
  unfold ExitG at this
  rwa [if_pos ⟨h5, rfl⟩] at this
end
section
variable {N gate : Nat} {ns : List Nd} {ds : List Dv} {od : IL} {slots bins : LL} {W : IL} {n0 : Int}
theorem rnd_gen (hN : N ≤ 11) {n : Nat} (hn : n < N) (le en : IL) (hl1 : le.length = N) {j : Nat} (hj : j < N) :
  wtN (rndV ns slots W N n le en).1 j = wtN le j ∨ (j ≠ n ∧ 0 ≤ wtN W j ∧ tgN ns W j = n ∧ wtN (rndV ns slots W N n le en).1 j = wtN W j) ∨ (j = n ∧ kdN ns n = 5 ∧ wtN le n < 0 ∧ wtN (rndV ns slots W N n le en).1 n = 0) := by
 rcases rnd_le (slots := slots) (W := W) (ns := ns) (en := en) hN hn le hl1 j hj with e | e
 ·rw [leA_at _ _ (by omega)] at e
  by_cases hc : arN ns slots W le n = true ∧ j = n
  ·rw [if_pos hc] at e
   obtain ⟨c1, rfl⟩ := hc
   unfold arN at c1
   simp only [Bool.and_eq_true, decide_eq_true_eq, beq_iff_eq] at c1
   exact .inr (.inr ⟨rfl, c1.1, c1.2.2.1, e⟩)
  ·rw [if_neg hc] at e; exact .inl e
 ·exact .inr (.inl e)
theorem rnd_keep (ha : Asc N ns W) (hN : N ≤ 11) {n : Nat} (hn : n < N) {p : IL × IL} (h : Inv N ns slots W (n + 1) p) {j : Nat} (hj : j < N) (h0 : 0 ≤ wtN p.1 j) : wtN (rndV ns slots W N n p.1 p.2).1 j = wtN p.1 j := by
 rcases rnd_gen (slots := slots) (W := W) (ns := ns) hN hn p.1 p.2 h.l1 hj with e | ⟨a, b, c, d⟩ | ⟨a, b, c, d⟩
 ·exact e
 ·rcases h.lv j hj with e | ⟨_, e, _⟩ | ⟨_, _, e⟩
  ·omega
  ·exact d.trans e.symm
  ·have := ha.up j hj b; omega
 ·subst a; omega
theorem rnd_en {n m : Nat} {p : IL × IL} (hmn : m ≠ n) (hn : n < p.2.length) : wtN (rndV ns slots W N n p.1 p.2).2 m = wtN p.2 m := by
 unfold rndV
 split
 ·split
  ·simp only; rw [wt_set _ _ _ _ hn, if_neg hmn]
  ·rfl
 ·rfl
theorem run_stay (ha : Asc N ns W) (hN : N ≤ 11) : ∀ (k : Nat) (p : IL × IL), k ≤ N → Inv N ns slots W k p →
  (∀ j, j < N → 0 ≤ wtN p.1 j → wtN (runV ns slots W N (List.range k).reverse p).1 j = wtN p.1 j) ∧ (∀ m, k ≤ m → wtN (runV ns slots W N (List.range k).reverse p).2 m = wtN p.2 m)
 | 0, p, _, h => ⟨fun _ _ _ => rfl, fun _ _ => rfl⟩
 | k + 1, p, hk, h => by
  rw [List.range_succ, List.reverse_append]
  have hs := inv_step ha hN (show k < N by omega) h
  obtain ⟨r1, r2⟩ := run_stay ha hN k _ (by omega) hs
  refine ⟨fun j hj h0 => ?_, fun m hm => ?_⟩
  ·have e := rnd_keep ha hN (show k < N by omega) h hj h0
   exact (r1 j hj (by rw [e]; exact h0)).trans e
  ·exact (r2 m (by omega)).trans (rnd_en (by omega) (by have := h.l2; omega))
theorem run_at (ha : Asc N ns W) (hN : N ≤ 11) {m : Nat} : ∀ (k : Nat) (p : IL × IL), k ≤ N → m < k → Inv N ns slots W k p →
  ∃ q, Inv N ns slots W (m + 1) q ∧ runV ns slots W N (List.range k).reverse p = runV ns slots W N (List.range m).reverse (rndV ns slots W N m q.1 q.2)
 | 0, p, _, hm, h => absurd hm (Nat.not_lt_zero _)
 | k + 1, p, hk, hm, h => by
  rw [List.range_succ, List.reverse_append]
  by_cases e : m = k
  ·subst e
   exact ⟨p, h, rfl⟩
  ·exact run_at ha hN k _ (by omega) (by omega) (inv_step ha hN (by omega) h)
theorem greedy (ha : Asc N ns W) (hN : N ≤ 11) {n m : Nat} (hn : n < N) (hm : m < N) (hnm : n ≠ m) (h0 : 0 ≤ wtN W n) (ht : tgN ns W n = m) (ho : opN ns slots m = true) {p : IL × IL} (hp : runV ns slots W N (List.range N).reverse (mon N, mon N) = p)
  (hs : wtN p.1 n ≠ wtN W n) : (kdN ns m = 5 ∧ wtN p.1 m = 0) ∨ (0 ≤ wtN p.2 m ∧ wtN p.2 m < n) := by
 obtain ⟨q, hq, hr⟩ := run_at (slots := slots) ha hN (m := m) N _ (Nat.le_refl _) hm (inv_mon N ns slots W)
 rw [hp] at hr
 subst hr
 have hi := inv_step ha hN hm hq
 obtain ⟨r1, r2⟩ := run_stay ha hN m _ (by omega) hi
 have hcs : (csN ns W m N).testBit n = true := by
  rw [cs_bit, decide_eq_true hn]
  unfold comN
  rw [decide_eq_true h0, ht]
  simp [hnm]
 have c0 : csN ns W m N ≠ 0 := fun e => by rw [e] at hcs; simp at hcs
 obtain ⟨a1, a2, a3, a4, a5⟩ := low_bits (cs_2048 (W := W) (ns := ns) hN m) c0
 have hcl := cs_mem a2
 have goes : wtN (rndV ns slots W N m q.1 q.2).1 n = wtN W n → False := fun e => hs ((r1 n hn (by rw [e]; exact h0)).trans e)
 have hla : (leA ns slots W q.1 m).length = N := by unfold leA; split <;> simp [hq.l1]
 by_cases hst : stN ns m = true
 ·by_cases har : arN ns slots W q.1 m = true
  ·left
   have har' := har
   unfold arN at har'
   simp only [Bool.and_eq_true, decide_eq_true_eq, beq_iff_eq] at har'
   refine ⟨har'.1, ?_⟩
   have e : wtN (rndV ns slots W N m q.1 q.2).1 m = 0 := by
    rcases rnd_le (slots := slots) (W := W) (ns := ns) (en := q.2) hN hm q.1 hq.l1 m hm with e | e
    ·rw [e, leA_at _ _ (by have := hq.l1; omega), if_pos ⟨har, rfl⟩]
    ·exact absurd rfl e.1
   exact (r1 m hm (by rw [e]; exact Int.le_refl _)).trans e
  ·right
   have hc : (csN ns W m N != 0 && (opN ns slots m && !arN ns slots W q.1 m)) = true := by
    simp only [Bool.and_eq_true, bne_iff_ne, ne_eq, Bool.not_eq_true', ho, true_and]
    exact ⟨c0, by simpa using har⟩
   have er : rndV ns slots W N m q.1 q.2 = ((leA ns slots W q.1 m).set (low (csN ns W m N)) (wtN W (low (csN ns W m N)), ()), q.2.set m ((low (csN ns W m N) : Nat), ())) := by
    unfold rndV
    rw [if_pos hst, if_pos hc]
   have e2 : wtN (rndV ns slots W N m q.1 q.2).2 m = (low (csN ns W m N) : Nat) := by
    rw [er]; simp only; rw [wt_set _ _ _ _ (by have := hq.l2; omega), if_pos rfl]
   have hle : low (csN ns W m N) ≤ n := by
    rcases Nat.lt_or_ge n (low (csN ns W m N)) with h | h
    ·have := a5 n h
     rw [hcs] at this; cases this
    ·exact h
   have hne : low (csN ns W m N) ≠ n := fun e => goes (by
    rw [er]; simp only; rw [wt_set _ _ _ _ (by omega), if_pos e.symm, e])
   rw [r2 m (Nat.le_refl _), e2]
   omega
 ·exfalso
  refine goes ?_
  unfold rndV
  rw [if_neg hst]
  simp only
  rw [upd_at _ _ _ (by omega), if_pos hcs]
end
section
variable {N gate : Nat} {ns : List Nd} {ds : List Dv} {od : IL} {slots bins : LL} {n0 : Int}
theorem e38 (h : LayG N gate ns) {fs : List Dv} (hf : fs.length ≤ 2) (hm : MvG ns fs) {n : Nat} (hn : n < N) :
  ∃ A, sp38 ((ns, ds, ()), fs, (n : Int), ()) = some (A, ()) ∧ A.length = (ndN ns n).2.2.1.toNat ∧ (fs.any (eqF (1, (n : Int), (ndN ns n).2.2.1 - 1, ())) = true → wtN A ((ndN ns n).2.2.1.toNat - 1) = 1) := by
 have hl := h.len
 have hx := node_len (nd_get h hn)
 have hnl : n < ns.length := by omega
 have hlim : (lim : Int) = 140737488355328 := rfl
 show ∃ A, sh38 100000 (ns, ds, ()) fs (n : Int) = some (A, ()) ∧ _
 unfold sh38
 simp only [joinK]
 rw [if_pos (inR_nat hnl), lat_nd, if_pos (by simp; omega), if_pos (by simp), if_pos (by simp only [decide_eq_true_eq]; omega), if_pos (by simp only [decide_eq_true_eq]; omega)]
 generalize hlen : (ndN ns n).2.2.1 = len at hx
 refine iter_post (F := sh38_L2 sh38_K0) (fun j z => ∃ A : IL, z = (fs, (n : Int), (j : Int), A, ()) ∧ A.length = len.toNat ∧ ((fs.take j).any (eqF (1, (n : Int), len - 1, ())) = true → wtN A (len.toNat - 1) = 1))
  (fun o => ∃ A, o = some (A, ()) ∧ A.length = len.toNat ∧ (fs.any (eqF (1, (n : Int), len - 1, ())) = true → wtN A (len.toNat - 1) = 1)) fs.length 100000 (by omega) ⟨_, rfl, by simp, by simp⟩ (fun rc j z hj hz => ?_) (fun rc z hz => ?_)
 ·obtain ⟨A, rfl, hA, hI⟩ := hz
  obtain ⟨hk, k, e1, hkN, w0, w1⟩ := hm.each _ (List.getElem_mem hj)
  have hd : ∀ i (hi : i < j), ¬ (fs[i].2.1 = fs[j].2.1 ∧ fs[i].2.2.1 = fs[j].2.2.1) := fun i hi => hm.diff i j (by omega) hj hi
  have et : (fs.take (j + 1)).any (eqF (1, (n : Int), len - 1, ())) = ((fs.take j).any (eqF (1, (n : Int), len - 1, ())) || eqF (1, (n : Int), len - 1, ()) fs[j]) := by
   rw [List.take_add_one, List.getElem?_eq_getElem hj, List.any_append]; simp
  unfold sh38_L2
  simp only [joinK]
  rw [if_pos (by simpa using hj), if_pos (inR_nat hj), lat_dv fs j hj]
  have hpast : (fs.take j).any (eqF (1, (n : Int), len - 1, ())) = true → ¬ (fs[j].2.1 = n ∧ fs[j].2.2.1 = len - 1) := fun ha hc => by
   obtain ⟨g, hg, he⟩ := List.any_eq_true.1 ha
   obtain ⟨i, hi, rfl⟩ := List.getElem_of_mem hg
   rw [List.getElem_take] at he
   have hij : i < j := by rw [List.length_take] at hi; omega
   refine hd i hij ?_
   unfold eqF at he
   simp only [Bool.and_eq_true, beq_iff_eq, and_true] at he
   exact ⟨he.2.1.symm.trans hc.1.symm, he.2.2.symm.trans hc.2.symm⟩
  generalize hfe : fs[j] = f at hk e1 w0 w1 et hpast ⊢
  obtain ⟨a, b, w, ⟨⟩⟩ := f
  simp only at hk e1 w0 w1 hpast ⊢
  have fin : ∀ A' : IL, A'.length = len.toNat → ((fs.take (j + 1)).any (eqF (1, (n : Int), len - 1, ())) = true → wtN A' (len.toNat - 1) = 1) → ∃ z', sh38_K3 rc (fs, (n : Int), (j : Int), A', ()) = rc z' ∧ ∃ A : IL, z' = (fs, (n : Int), ((j + 1 : Nat) : Int), A, ()) ∧ A.length = len.toNat ∧ ((fs.take (j + 1)).any (eqF (1, (n : Int), len - 1, ())) = true → wtN A (len.toNat - 1) = 1) := fun A' a1 a2 => by
   unfold sh38_K3
   simp only
   rw [up1' hj]
   exact ⟨_, rfl, A', rfl, a1, a2⟩
  by_cases hb : b = n
  ·subst hb
   have ekn : k = n := by omega
   subst ekn
   rw [hlen] at w1
   rw [if_pos (by simp), if_pos (inR_nat hj), if_pos (inR_nat hj), if_pos (by simp only [inR, Bool.and_eq_true, decide_eq_true_eq]; omega), if_pos (decide_eq_true (by omega))]
   refine fin _ (by rw [List.length_set]; exact hA) fun ha => ?_
   rw [wt_set _ _ _ _ (by omega)]
   rw [et, Bool.or_eq_true] at ha
   rcases ha with ha | ha
   ·have := hpast ha
    rw [if_neg (fun e => this ⟨rfl, by omega⟩)]
    exact hI ha
   ·unfold eqF at ha
    simp only [Bool.and_eq_true, beq_iff_eq, and_true] at ha
    rw [if_pos (by omega)]
    exact ha.1.symm
  ·rw [if_neg (by simpa using hb)]
   refine fin A hA fun ha => ?_
   rw [et, Bool.or_eq_true] at ha
   rcases ha with ha | ha
   ·exact hI ha
   ·unfold eqF at ha
    simp only [Bool.and_eq_true, beq_iff_eq, and_true] at ha
    exact absurd ha.2.1.symm hb
 ·obtain ⟨A, rfl, hA, hI⟩ := hz
  unfold sh38_L2
  simp only
  rw [if_neg (by simp), sh38_K0]
  exact ⟨A, rfl, hA, by rw [List.take_length] at hI; exact hI⟩
theorem e21 (h : LayG N gate ns) (hp : PlG ns n0 N slots bins) {c : IL} (hc : c.length = N) {fs : List Dv} (hf : fs.length ≤ 2) (hm : MvG ns fs) {n : Nat} (hn : n < N) :
  ∃ v, sp21 ((ns, ds, ()), (slots, bins, ()), c, fs, (n : Int), ()) = some (v, ()) ∧ (v ≠ 0 → (waV ns slots bins c fs n = if kdN ns n = 7 then 0 else wtN c n) ∧ (kdN ns n ≠ 7 → wtN c n ≠ -1)) := by
 have hl := h.len
 have hnl : n < ns.length := by omega
 have hb : n < bins.length := by rw [hp.lb]; exact hn
 have hs : n < slots.length := by rw [hp.ls]; exact hn
 have hbl : (slN bins n).length ≤ 1 := by
  have := (hp.bn n hb (by rw [List.getElem?_eq_getElem hs]; rfl)).1
  unfold slN; rw [List.getD_eq_getElem?_getD, List.getElem?_eq_getElem hb]; exact this
 show ∃ v, v21 (ns, ds, ()) (slots, bins, ()) c fs (n : Int) = some (v, ()) ∧ _
 unfold v21 waV
 simp only [Int.toNat_natCast]
 rw [if_pos ⟨by omega, hnl⟩, if_pos ⟨by omega, hs, hb⟩]
 have e1 : ns.getD n ([], 0, 0, 0, [], ()) = ndN ns n := rfl
 have e2 : (c.getD n (0, ())).1 = wtN c n := rfl
 have e3 : (bins.getD n ([], ())).1 = slN bins n := rfl
 have e4 : (slots.getD n ([], ())).1 = slN slots n := rfl
 simp only [e1, e2, e3, e4]
 by_cases h7 : kdN ns n = 7
 ·rw [if_pos (by unfold kdN at h7; exact h7), e23 _ _ (by omega), Option.bind_some, if_pos h7, if_pos h7]
  simp only
  refine ⟨_, rfl, fun hv => ⟨?_, fun h => absurd h7 h⟩⟩
  split at hv
  ·rename_i ha; rw [if_pos ha]
  ·exact absurd rfl hv
 ·rw [if_neg (by unfold kdN at h7; exact h7), if_neg h7, if_neg h7]
  cases hst : stN ns n with
  | false =>
   rw [if_pos (by unfold stN kdN at hst; exact hst)]
   exact ⟨0, rfl, fun h => absurd rfl h⟩
  | true =>
   have hp1 := st_pos h hp hn hst
   have hsl := sl_len h hp hn
   rw [if_neg (by unfold stN kdN at hst; rw [hst]; simp)]
   by_cases hcn : wtN c n = -1
   ·rw [if_pos hcn]
    exact ⟨0, rfl, fun h => absurd rfl h⟩
   ·obtain ⟨A, hA, hAl, hI⟩ := e38 (ds := ds) h hf hm hn
    rw [if_neg hcn, if_pos ⟨by omega, by omega, by omega⟩, hA, Option.bind_some]
    simp only
    rw [if_pos hAl]
    refine ⟨_, rfl, fun hv => ⟨?_, fun _ => hcn⟩⟩
    have hAe : (A.getD ((ndN ns n).2.2.1.toNat - 1) (0, ())).1 = wtN A ((ndN ns n).2.2.1.toNat - 1) := rfl
    rw [hAe] at hv
    split at hv
    ·exact absurd rfl hv
    ·rename_i h1
     rw [if_pos trivial, if_neg]
     rintro (h2 | h2)
     ·exact hv h2
     ·exact h1 (hI h2)
def enV (ns : List Nd) (slots : LL) (k : Nat) : List (Bool × Unit) := (List.range k).map fun n => (opN ns slots n, ())
theorem e15 (h : LayG N gate ns) (hd : DevG ns ds) (hp : PlG ns n0 N slots bins) : sp15 ((ns, ds, ()), (slots, bins, ()), ()) = some (enV ns slots N, ()) := by
 have hl := h.len
 have h11 := h.N11
 show sh15 100000 (ns, ds, ()) (slots, bins, ()) = _
 unfold sh15
 simp only [joinK]
 rw [e40 h hd, Option.bind_some]
 simp only
 rw [if_neg (by simp), e41 h hd, Option.bind_some]
 unfold sh15_K0
 simp only [joinK]
 rw [if_neg (by simp), e27 h hp, Option.bind_some]
 unfold sh15_K1
 simp only [joinK]
 rw [if_neg (by simp), hl]
 refine iter_count (F := sh15_L4 sh15_K2) (fun k : Nat => ((N : Int), (k : Int), (slots, bins, ()), (ns, ds, ilN (ordN ns N N []), ()), enV ns slots k, ())) N 100000 (by omega) (fun rc k hk => ?_) (fun rc => ?_)
 ·unfold sh15_L4
  simp only
  have hlen : (enV ns slots k).length = k := by simp [enV]
  have es : enV ns slots k ++ [(opN ns slots k, ())] = enV ns slots (k + 1) := by unfold enV; rw [List.range_succ, List.map_append]; rfl
  rw [if_pos (by simpa using hk), e31 (rd_lay h hp) hk, Option.bind_some]
  simp only
  rw [if_pos (dlim (by simp [hlen]; omega)), if_pos (dlim (by simp [hlen]; omega)), up1' hk, es]
 ·unfold sh15_L4
  simp only
  rw [if_neg (by simp)]
  rfl
end
theorem en_len (ns : List Nd) (slots : LL) (k : Nat) : (enV ns slots k).length = k := by simp [enV]
theorem en_at (ns : List Nd) (slots : LL) {k n : Nat} (h : n < k) : ((enV ns slots k).getD n (false, ())).1 = opN ns slots n := by
 unfold enV
 rw [List.getD_eq_getElem?_getD, List.getElem?_map, List.getElem?_range h]; rfl
theorem law6 (x : IL × Unit) (e14 : sp14 () = some (true, ())) : sp6 x = some (true, ()) := by
 obtain ⟨l, ⟨⟩⟩ := x
 show sh6 100000 l = _
 unfold sh6
 obtain ⟨s0, h0, k0⟩ := e7 l
 obtain ⟨N, gate, ns, ds, s1, h1, k1, hlay, hdev⟩ := e8 k0
 obtain ⟨slots, bins, s2, h2, k2, hpl⟩ := e9 hlay ds 12 (by decide) (by decide) k1
 obtain ⟨c, s3, h3, k3, hc, hcs⟩ := e10 hlay ds k2
 obtain ⟨fs, s4, h4, k4, hfl, hmv⟩ := e12 hlay ds k3 2 (by decide)
 have hN := hlay.N11
 have hl := hlay.len
 have h11 := e11 hlay hdev hpl hc hcs (fs := fs) (by omega) (e28m hlay hc hcs hfl hmv)
 have hw := wt_lay hlay hpl hc hcs fs
 have ha := asc_lay hlay hw
 have hI := inv_run (slots := slots) ha hN N _ (Nat.le_refl _) (inv_mon N ns slots _)
 rw [h0, Option.bind_some, h1, Option.bind_some]
 simp only
 rw [h2, Option.bind_some]
 simp only
 rw [h3, Option.bind_some]
 simp only
 rw [show ((2 : Int)) = ((2 : Nat) : Int) from rfl, h4, Option.bind_some]
 simp only
 rw [h11, Option.bind_some]
 simp only
 rw [e15 hlay hdev hpl, Option.bind_some]
 simp only [joinK]
 generalize hE : runV ns slots (waL ns slots bins c fs N) N (List.range N).reverse (mon N, mon N) = RV at hI
 have hR1 := hI.l1
 have hR2 := hI.l2
 have hel := en_len ns slots N
 rw [if_neg (by simp), if_neg (by simp; omega), if_neg (by simp; omega)]
 unfold sh6_K7
 simp only [joinK]
 rw [if_neg (by simp; omega)]
 refine iter_count (F := sh6_L11 sh6_K8) (fun n : Nat => (c, fs, (n : Int), (ns, ds, ()), (slots, bins, ()), (RV.1, RV.2, ()), enV ns slots N, ())) N 100000 (by omega) (fun rc n hn => ?_) (fun rc => ?_)
 ·have hnl : n < ns.length := by omega
  have hnc : n < c.length := by omega
  obtain ⟨v, hv, hv0⟩ := e21 (ds := ds) hlay hpl hc hfl hmv hn
  have next : sh6_K12 rc (c, fs, (n : Int), (ns, ds, ()), (slots, bins, ()), (RV.1, RV.2, ()), enV ns slots N, ()) = rc (c, fs, ((n + 1 : Nat) : Int), (ns, ds, ()), (slots, bins, ()), (RV.1, RV.2, ()), enV ns slots N, ()) := by
   unfold sh6_K12
   simp only
   rw [up1' hn]
  have k17 : sh6_K17 (sh6_K12 rc) (c, fs, (n : Int), false, (ns, ds, ()), (slots, bins, ()), (RV.1, RV.2, ()), enV ns slots N, ()) = rc (c, fs, ((n + 1 : Nat) : Int), (ns, ds, ()), (slots, bins, ()), (RV.1, RV.2, ()), enV ns slots N, ()) := by
   unfold sh6_K17
   simp only
   rw [if_neg Bool.false_ne_true]; exact next
  unfold sh6_L11
  simp only [joinK]
  rw [hl, if_pos (by simpa using hn), hv, Option.bind_some]
  simp only
  by_cases hz : v = 0
  ·rw [if_pos (by simpa using hz)]; exact next
  ·rw [if_neg (by simpa using hz), if_pos (inR_nat hnc), if_pos (inR_nat hn), lat_nd, lat_w]
   obtain ⟨hwa, hne⟩ := hv0 hz
   rw [← wa_at ns slots bins c fs hn] at hwa
   generalize hWe : waL ns slots bins c fs N = W at hE hwa hw ha
   have hx := nd_get hlay hn
   have hk1 := hx.kind1
   have hw0 : 0 ≤ wtN W n := by
    rw [hwa]
    split
    ·exact Int.le_refl _
    ·rename_i h7
     rcases Int.lt_or_le (wtN c n) 0 with hneg | hpos
     ·exfalso
      have hcm := hcs n hnc hnl
      have e : ndN ns n = ns[n] := by unfold ndN; rw [List.getD_eq_getElem?_getD, List.getElem?_eq_getElem hnl]; rfl
      have ew : wtN c n = (c[n]).1 := by unfold wtN; rw [List.getD_eq_getElem?_getD, List.getElem?_eq_getElem hnc]; rfl
      have h1 := hne h7
      unfold kdN at h7
      unfold CmdG at hcm
      rw [← e, ← ew, if_neg h7] at hcm
      split at hcm <;> omega
     ·exact hpos
   have hlt := hw.lt n hn hw0
   have hup := ha.up n hn hw0
   obtain ⟨m, hm⟩ : ∃ m : Nat, tgN ns W n = m := ⟨(tgN ns W n).toNat, by omega⟩
   have hmN : m < N := by
    have := hx.ex (wtN W n).toNat (by omega)
    have ht := hm
    unfold tgN at ht
    rw [← Int.toNat_of_nonneg hw0, lAt_nat _ _ _ (show (wtN W n).toNat < _ by omega)] at ht
    unfold ExitG at this
    split at this <;> omega
   have go : sh6_K15 (sh6_K12 rc) (c, fs, (n : Int), wtN W n, (ns, ds, ()), (slots, bins, ()), (RV.1, RV.2, ()), enV ns slots N, ()) = rc (c, fs, ((n + 1 : Nat) : Int), (ns, ds, ()), (slots, bins, ()), (RV.1, RV.2, ()), enV ns slots N, ()) := by
    have hin : inR (wtN W n) (ndN ns n).2.2.2.2.1.length = true := by simp only [inR, Bool.and_eq_true, decide_eq_true_eq]; omega
    have ht : (lAt (0, ()) (ndN ns n).2.2.2.2.1 (wtN W n)).1 = (m : Int) := hm
    have hml : m < ns.length := by omega
    have hm1 : m < RV.1.length := by omega
    have hm2 : m < RV.2.length := by omega
    have hn1 : n < RV.1.length := by omega
    unfold sh6_K15
    simp only [joinK]
    rw [if_pos (inR_nat hnl), lat_nd, if_pos hin, ht, if_pos (inR_nat hml), lat_nd, lat_w]
    have k16 : ∀ own : Bool, (own = false → ¬ (kdN ns m = 5 ∧ wtN RV.1 m = 0)) → sh6_K16 (sh6_K12 rc) (c, fs, (n : Int), wtN W n, (m : Int), own, (ns, ds, ()), (slots, bins, ()), (RV.1, RV.2, ()), enV ns slots N, ()) = rc (c, fs, ((n + 1 : Nat) : Int), (ns, ds, ()), (slots, bins, ()), (RV.1, RV.2, ()), enV ns slots N, ()) := fun own ho => by
     unfold sh6_K16
     simp only [joinK]
     by_cases hmn : m = n
     ·subst hmn
      rw [if_neg (by simp)]; exact k17
     ·rw [if_pos (by simp only [bne_iff_ne, ne_eq]; omega), if_pos (inR_nat (by omega)), if_pos (decide_eq_true (by rw [Int.toNat_natCast]; omega)), Int.toNat_natCast, en_at ns slots hmN]
      cases hop : opN ns slots m with
      | false => rw [if_neg Bool.false_ne_true]; exact k17
      | true =>
       rw [if_pos rfl, if_pos (inR_nat hn1), lat_w]
       by_cases hs : wtN RV.1 n = wtN W n
       ·rw [if_neg (by simpa using hs)]; exact k17
       ·rw [if_pos (by simpa using hs)]
        cases own with
        | true => rw [if_neg (by simp)]; exact k17
        | false =>
         have hgr := (greedy ha hN hn hmN (Ne.symm hmn) hw0 hm hop hE hs).resolve_left (ho rfl)
         rw [if_pos (by rfl), if_pos (inR_nat hm2), lat_w, if_neg (by simp; omega), if_pos (inR_nat hm2), decide_eq_false (by omega)]
         exact k17
    by_cases h5 : kdN ns m = 5
    ·rw [if_pos (by unfold kdN at h5; simpa using h5), if_pos (inR_nat hm1)]
     exact k16 _ fun ho hc => by simp [hc.2] at ho
    ·rw [if_neg (by unfold kdN at h5; simpa using h5)]
     exact k16 _ fun _ hc => h5 hc.1
   by_cases h7 : kdN ns n = 7
   ·rw [if_pos h7] at hwa
    rw [if_pos (by unfold kdN at h7; simpa using h7), ← hwa]
    exact go
   ·rw [if_neg h7] at hwa
    rw [if_neg (by unfold kdN at h7; simpa using h7), ← hwa]
    exact go
 ·unfold sh6_L11
  simp only
  rw [hl, if_neg (by simp)]
  unfold sh6_K8
  rw [e14]; rfl
end Go.Proofs.YtdkibgdkmnpncaaDoor
