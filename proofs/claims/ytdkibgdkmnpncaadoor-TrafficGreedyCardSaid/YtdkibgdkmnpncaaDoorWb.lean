/- Chapter 10: what the functions come to; the laws. -/
import Derived.Test.YtdkibgdkmnpncaaDoorWa
import Derived.Test.YtdkibgdkmnpncaaDoorMath
import Derived.KernelRfl
open Go Go.Proofs Go.Abs
set_option linter.unusedVariables false
set_option maxRecDepth 100000
namespace Go.Proofs.YtdkibgdkmnpncaaDoor
abbrev IL := List (Int × Unit)
theorem iter_succ {σ R : Type} (n : Nat) (F : (σ → Option R) → σ → Option R) (z : σ) : iter (n + 1) F z = F (iter n F) z := rfl
theorem iter_post {σ R : Type} {F : (σ → Option R) → σ → Option R} (I : Nat → σ → Prop) (Post : Option R → Prop) (m n : Nat) (hn : m < n) {z : σ} (h0 : I 0 z)
  (hs : ∀ rc k z, k < m → I k z → ∃ z', F rc z = rc z' ∧ I (k + 1) z') (he : ∀ rc z, I m z → Post (F rc z)) : Post (iter n F z) := by
 suffices h : ∀ n k z, m - k < n → k ≤ m → I k z → Post (iter n F z) from h n 0 z (by omega) (Nat.zero_le _) h0
 intro n
 induction n with
 | zero => intro k z hk; omega
 | succ n ih =>
  intro k z hk hkm hi
  rw [iter_succ]
  rcases Nat.lt_or_ge k m with hlt | hge
  ·obtain ⟨z', h1, h2⟩ := hs (iter n F) k z hlt hi
   rw [h1]; exact ih (k + 1) z' (by omega) hlt h2
  ·have : k = m := by omega
   subst this
   exact he _ z hi
theorem dlim {n : Nat} (h : n ≤ 100000000000) : decide (n ≤ lim) = true := decide_eq_true (Nat.le_trans h (by decide))
theorem lAt_mem {α : Type} (d : α) (l : List α) (k : Int) (h0 : 0 ≤ k) (h1 : k < l.length) : lAt d l k ∈ l := by
 have hk : k.toNat < l.length := by omega
 show l.getD k.toNat d ∈ l
 rw [List.getD, List.getElem?_eq_getElem hk]
 exact List.getElem_mem hk
theorem inR_int {k : Int} {n : Nat} (h0 : 0 ≤ k) (h : k < n) : inR k n = true := by simp [inR, h0, h]
abbrev Sr : Type := IL × Int × Unit
def SrOk (s : Sr) : Prop := s.1.length ≤ 2000 ∧ 0 ≤ s.2.1 ∧ s.2.1 ≤ 2000
theorem e34 {s : Sr} (h : SrOk s) : ∃ v s', sp34 (s, ()) = some (v, s', ()) ∧ SrOk s' := by
 obtain ⟨l, a, _⟩ := s
 obtain ⟨h1, h2, h3⟩ := h
 simp only at h1 h2 h3
 show ∃ v s', sh34 0 (l, a, ()) = some (v, s', ()) ∧ SrOk s'
 unfold sh34
 by_cases hc : (l.length : Int) ≤ a
 ·rw [if_pos (by simpa using hc)]; exact ⟨_, _, rfl, h1, h2, h3⟩
 ·have w1 : IntKind.i64.wrap (a + 1) = a + 1 := wrapI (by omega) (by omega)
  have w2 : IntKind.i64.wrap (a + 1 - 1) = a := by rw [wrapI (by omega) (by omega)]; omega
  rw [if_neg (by simpa using hc)]
  simp only [w1, w2]
  rw [if_pos (by simp [inR]; omega)]
  exact ⟨_, _, rfl, h1, by simp only; omega, by simp only; omega⟩
theorem e33 (x n : Int) (h1 : 1 ≤ n) (h2 : n ≤ 1000000) : ∃ v, sp33 (x, n, ()) = some (v, ()) ∧ 0 ≤ v ∧ v < n := by
 show ∃ v, sh33 0 x n = some (v, ()) ∧ _
 unfold sh33
 rw [if_neg (by simp; omega), if_pos (by simp; omega)]
 simp only [joinK, sh33_K0]
 have b1 : x.tmod n < n := Int.tmod_lt_of_pos x (by omega)
 have b2 : -n < x.tmod n := by have := Int.lt_tmod_of_pos x (show 0 < n by omega); omega
 by_cases hc : x.tmod n < 0
 ·rw [if_pos (by simpa using hc)]; exact ⟨_, rfl, by rw [wrapI (by omega) (by omega)]; omega, by rw [wrapI (by omega) (by omega)]; omega⟩
 ·rw [if_neg (by simpa using hc)]; exact ⟨_, rfl, by omega, b1⟩
theorem e18 {s : Sr} (h : SrOk s) (n : Int) (h1 : 1 ≤ n) (h2 : n ≤ 1000000) : ∃ v s', sp18 (s, n, ()) = some (v, s', ()) ∧ 0 ≤ v ∧ v < n ∧ SrOk s' := by
 obtain ⟨r, s', hr, hs⟩ := e34 h
 obtain ⟨v, hv, k1, k2⟩ := e33 r n h1 h2
 refine ⟨v, s', ?_, k1, k2, hs⟩
 show sh18 0 s n = _
 unfold sh18
 rw [hr, Option.bind_some]
 simp only
 rw [hv]; rfl
theorem e7 (l : IL) : ∃ s, sp7 (l, ()) = some (s, ()) ∧ SrOk s := by
 show ∃ s, sh7 0 l = some (s, ()) ∧ _
 unfold sh7
 simp only [joinK, sh7_K0]
 by_cases h : (2000 : Int) < (l.length : Int)
 ·have hc : inCut 0 2000 l.length = true := inCut_nat (a := 0) (b := 2000) (by decide) (by omega)
  rw [if_pos (by simpa using h), if_pos hc]
  refine ⟨_, rfl, ?_, Int.le_refl 0, show (0 : Int) ≤ 2000 by decide⟩
  show (cutL l 0 2000).length ≤ 2000
  simp only [cutL, List.length_take]; exact Nat.min_le_left _ _
 ·rw [if_neg (by simpa using h)]
  exact ⟨_, rfl, by show l.length ≤ 2000; omega, Int.le_refl 0, show (0 : Int) ≤ 2000 by decide⟩
theorem e25 {s : Sr} (h : SrOk s) (t : IL) (h1 : 1 ≤ t.length) (h2 : t.length ≤ 1000) : ∃ v s', sp25 (s, t, ()) = some (v, s', ()) ∧ (v, ()) ∈ t ∧ SrOk s' := by
 obtain ⟨v, s', hv, k1, k2, hs⟩ := e18 h (t.length : Int) (by omega) (by omega)
 refine ⟨(lAt (0, ()) t v).1, s', ?_, lAt_mem (0, ()) t v k1 k2, hs⟩
 show sh25 0 s t = _
 unfold sh25
 rw [hv, Option.bind_some]
 simp only
 rw [if_pos (by simp [inR]; omega)]
theorem e17 {s : Sr} (h : SrOk s) (lo hi : Int) (h1 : lo ≤ hi) (h2 : -1000 ≤ lo) (h3 : hi ≤ 1000) : ∃ v s', sp17 (s, lo, hi, ()) = some (v, s', ()) ∧ lo ≤ v ∧ v ≤ hi ∧ SrOk s' := by
 obtain ⟨v, s', hv, k1, k2, hs⟩ := e18 h (hi - lo + 1) (by omega) (by omega)
 refine ⟨lo + v, s', ?_, by omega, by omega, hs⟩
 show sh17 0 s lo hi = _
 unfold sh17
 rw [wrapI (x := hi - lo) (by omega) (by omega), wrapI (x := hi - lo + 1) (by omega) (by omega)]
 rw [hv, Option.bind_some]
 simp only
 rw [wrapI (by omega) (by omega)]
theorem e39 {s : Sr} (h : SrOk s) (t : IL) (x : Int) (ht : t.length ≤ 1000) :
  ∃ v s', sp39 (s, t, x, ()) = some (v, s', ()) ∧ SrOk s' ∧ ((v = -1 ∧ ∀ y ∈ t, y.1 = x) ∨ ((v, ()) ∈ t ∧ v ≠ x)) := by
 show ∃ v s', sh39 100000 s t x = some (v, s', ()) ∧ _
 unfold sh39
 simp only [joinK]
 refine iter_post (F := sh39_L3 sh39_K0) (fun k z => ∃ u : IL, z = (t, x, (k : Int), s, u, ()) ∧ u.length ≤ k ∧ (∀ y ∈ u, y ∈ t ∧ y.1 ≠ x) ∧ (u = [] → ∀ y ∈ t.take k, y.1 = x))
  (fun o => ∃ v s', o = some (v, s', ()) ∧ SrOk s' ∧ ((v = -1 ∧ ∀ y ∈ t, y.1 = x) ∨ ((v, ()) ∈ t ∧ v ≠ x))) t.length 100000 (by omega) ⟨[], rfl, by simp, by simp, by simp⟩ (fun rc k z hk hz => ?_) (fun rc z hz => ?_)
 ·obtain ⟨u, rfl, h1, h2, h3⟩ := hz
  simp only [sh39_L3, joinK, sh39_K4]
  rw [if_pos (by simpa using hk), if_pos (inR_nat hk), lAt_nat _ _ _ hk]
  by_cases hx : t[k].1 = x
  ·rw [if_neg (by simpa using hx), up1' hk]
   refine ⟨_, rfl, u, rfl, by omega, h2, fun hu y hy => ?_⟩
   rw [List.take_add_one, List.getElem?_eq_getElem hk] at hy
   rcases List.mem_append.1 hy with hy | hy
   ·exact h3 hu y hy
   ·simp only [Option.toList, List.mem_singleton] at hy; rw [hy]; exact hx
  ·rw [if_pos (by simpa using hx), if_pos (inR_nat hk), if_pos (dlim (by omega)), if_pos (dlim (by omega)), up1' hk]
   refine ⟨_, rfl, u ++ [t[k]], rfl, by simp only [List.length_append, List.length_cons, List.length_nil]; omega, fun y hy => ?_, by simp⟩
   rcases List.mem_append.1 hy with hy | hy
   ·exact h2 y hy
   ·rw [List.mem_singleton.1 hy]; exact ⟨List.getElem_mem hk, hx⟩
 ·obtain ⟨u, rfl, h1, h2, h3⟩ := hz
  simp only [sh39_L3]
  rw [if_neg (by simp)]
  simp only [sh39_K0]
  by_cases hu : u = []
  ·subst hu
   rw [if_pos (by decide)]
   rw [List.take_length] at h3
   exact ⟨_, _, rfl, h, .inl ⟨rfl, h3 rfl⟩⟩
  ·have hl := List.length_pos_iff.2 hu
   obtain ⟨v, s', hv, k1, k2, hs⟩ := e18 h (u.length : Int) (by omega) (by omega)
   have hb : ((u.length : Int) == 0) = false := by simp; omega
   rw [hb, if_neg (by decide), hv, Option.bind_some]
   simp only
   rw [if_pos (inR_int k1 k2), if_pos (decide_eq_true (by omega))]
   have hm : lAt (0, ()) u v ∈ u := lAt_mem (0, ()) u v k1 k2
   exact ⟨_, _, rfl, hs, .inr (h2 _ hm)⟩
abbrev Nd := Ty3
abbrev Dv := Ty1
abbrev Lay := Ty6
def StripG (i zone : Int) (kinds to : IL) (x : Nd) : Prop :=
 x.1 = [] ∧ x.2.2.2.1 = zone ∧ ∃ f : Int, (f, ()) ∈ to ∧
  ((x.2.1 = 5 ∧ (5, ()) ∈ kinds ∧ 2 ≤ x.2.2.1 ∧ x.2.2.1 ≤ 4 ∧ x.2.2.2.2.1 = [(i, ()), (f, ())]) ∨
  (x.2.1 = 4 ∧ (4, ()) ∈ kinds ∧ 1 ≤ x.2.2.1 ∧ x.2.2.1 ≤ 3 ∧ ∃ g : Int, (g, ()) ∈ to ∧ g ≠ f ∧ x.2.2.2.2.1 = [(f, ()), (g, ())]) ∨
  (x.2.1 = 2 ∧ (4, ()) ∈ kinds ∧ 1 ≤ x.2.2.1 ∧ x.2.2.1 ≤ 3 ∧ x.2.2.2.2.1 = [(f, ())]) ∨
  ((x.2.1, ()) ∈ kinds ∧ x.2.1 ≠ 5 ∧ x.2.1 ≠ 4 ∧ 1 ≤ x.2.2.1 ∧ x.2.2.1 ≤ 3 ∧ x.2.2.2.2.1 = [(f, ())]))
theorem e22 {s : Sr} (h : SrOk s) (i zone : Int) (kinds to : IL) (hk1 : 1 ≤ kinds.length) (hk2 : kinds.length ≤ 1000) (ht1 : 1 ≤ to.length) (ht2 : to.length ≤ 1000) (hto : ∀ y ∈ to, 0 ≤ y.1) :
  ∃ x s', sp22 (s, i, zone, kinds, to, ()) = some (x, s', ()) ∧ SrOk s' ∧ StripG i zone kinds to x := by
 obtain ⟨kd, s1, h1, m1, k1⟩ := e25 h kinds hk1 hk2
 obtain ⟨ln, s2, h2, l1, l2, k2⟩ := e17 k1 1 3 (by decide) (by decide) (by decide)
 obtain ⟨f, s3, h3, k3, hf⟩ := e39 k2 to (-1) ht2
 have hf : (f, ()) ∈ to := by
  rcases hf with ⟨_, hf⟩ | ⟨hf, _⟩
  ·have hm : to[0] ∈ to := List.getElem_mem ht1
   have a := hf _ hm
   have b := hto _ hm
   omega
  ·exact hf
 have st : sp22 (s, i, zone, kinds, to, ()) = sh22 0 s i zone kinds to := rfl
 rw [st]
 unfold sh22
 rw [h1, Option.bind_some]
 simp only
 rw [h2, Option.bind_some]
 simp only
 rw [h3, Option.bind_some]
 simp only [joinK, sh22_K3]
 by_cases h5 : kd = 5
 ·subst h5
  rw [if_pos (by decide), wrapI (by omega) (by omega)]
  exact ⟨_, _, rfl, k3, rfl, rfl, f, hf, .inl ⟨rfl, m1, by simp only; omega, by simp only; omega, rfl⟩⟩
 rw [if_neg (by simpa using h5)]
 by_cases h4 : kd = 4
 ·subst h4
  obtain ⟨g, s4, h6, k4, hg⟩ := e39 k3 to f ht2
  rw [if_pos (by decide), h6, Option.bind_some]
  simp only
  by_cases hn : g < 0
  ·rw [if_pos (by simpa using hn)]
   exact ⟨_, _, rfl, k4, rfl, rfl, f, hf, .inr (.inr (.inl ⟨rfl, m1, l1, l2, rfl⟩))⟩
  ·rw [if_neg (by simpa using hn)]
   rcases hg with ⟨hg, _⟩ | ⟨hg, hgf⟩
   ·omega
   ·exact ⟨_, _, rfl, k4, rfl, rfl, f, hf, .inr (.inl ⟨rfl, m1, l1, l2, g, hg, hgf, rfl⟩)⟩
 rw [if_neg (by simpa using h4)]
 exact ⟨_, _, rfl, k3, rfl, rfl, f, hf, .inr (.inr (.inr ⟨m1, h5, h4, l1, l2, rfl⟩))⟩
structure DevG (ns : List Nd) (ds : List Dv) : Prop where
 len : ds.length ≤ 24
 ok : ∀ d ∈ ds, (d.1 = 1 ∨ d.1 = 2) ∧ 0 ≤ d.2.1 ∧ d.2.1 < (ns.length : Int) ∧ 0 ≤ d.2.2.1 ∧ d.2.2.1 < (lAt ([], 0, 0, 0, [], ()) ns d.2.1).2.2.1
 nd : ds.Nodup
structure DevP (ns : List Nd) (ds : List Dv) (i w : Int) (b : Bool) : Prop extends DevG ns ds where
 lt : ∀ d ∈ ds, d.2.1 < i ∨ (d.2.1 = i ∧ d.2.2.1 < w) ∨ (b = true ∧ d.2.1 = i ∧ d.2.2.1 = w ∧ d.1 = 2)
theorem DevP.next {ns : List Nd} {ds : List Dv} {i w : Int} {b : Bool} (h : DevP ns ds i w b) : DevP ns ds i (w + 1) false :=
 ⟨h.toDevG, fun d hd => by rcases h.lt d hd with a | ⟨a, c⟩ | ⟨_, a, c, _⟩ <;> omega⟩
theorem DevP.row {ns : List Nd} {ds : List Dv} {i w : Int} {b : Bool} (h : DevP ns ds i w b) : DevP ns ds (i + 1) 0 false :=
 ⟨h.toDevG, fun d hd => by rcases h.lt d hd with a | ⟨a, c⟩ | ⟨_, a, c, _⟩ <;> omega⟩
theorem DevP.weak {ns : List Nd} {ds : List Dv} {i w : Int} (h : DevP ns ds i w false) : DevP ns ds i w true :=
 ⟨h.toDevG, fun d hd => by rcases h.lt d hd with a | a | ⟨a, _⟩; exact .inl a; exact .inr (.inl a); cases a⟩
theorem DevP.add2 {ns : List Nd} {ds : List Dv} {i w : Int} (h : DevP ns ds i w false) (hl : ds.length < 24) (hi : 0 ≤ i) (hn : i < (ns.length : Int)) (hw : 0 ≤ w) (hx : w < (lAt ([], 0, 0, 0, [], ()) ns i).2.2.1) : DevP ns (ds ++ [(2, i, w, ())]) i w true where
 len := by simp only [List.length_append, List.length_cons, List.length_nil]; omega
 ok := fun d hd => by
  rcases List.mem_append.1 hd with hd | hd
  ·exact h.ok d hd
  ·rw [List.mem_singleton.1 hd]; exact ⟨.inr rfl, hi, hn, hw, hx⟩
 nd := List.nodup_append.2 ⟨h.nd, by simp, fun a ha b hb => by
  rw [List.mem_singleton.1 hb]
  rintro rfl
  rcases h.lt _ ha with c | ⟨_, c⟩ | ⟨c, _⟩
  ·simp only at c; omega
  ·simp only at c; omega
  ·cases c⟩
 lt := fun d hd => by
  rcases List.mem_append.1 hd with hd | hd
  ·exact h.weak.lt d hd
  ·rw [List.mem_singleton.1 hd]; exact .inr (.inr ⟨rfl, rfl, rfl, rfl⟩)
theorem DevP.add1 {ns : List Nd} {ds : List Dv} {i w : Int} (h : DevP ns ds i w true) (hl : ds.length < 24) (hi : 0 ≤ i) (hn : i < (ns.length : Int)) (hw : 0 ≤ w) (hx : w < (lAt ([], 0, 0, 0, [], ()) ns i).2.2.1) : DevP ns (ds ++ [(1, i, w, ())]) i (w + 1) false where
 len := by simp only [List.length_append, List.length_cons, List.length_nil]; omega
 ok := fun d hd => by
  rcases List.mem_append.1 hd with hd | hd
  ·exact h.ok d hd
  ·rw [List.mem_singleton.1 hd]; exact ⟨.inl rfl, hi, hn, hw, hx⟩
 nd := List.nodup_append.2 ⟨h.nd, by simp, fun a ha b hb => by
  rw [List.mem_singleton.1 hb]
  rintro rfl
  rcases h.lt _ ha with c | ⟨_, c⟩ | ⟨_, _, _, c⟩
  ·simp only at c; omega
  ·simp only at c; omega
  ·simp only at c; omega⟩
 lt := fun d hd => by
  rcases List.mem_append.1 hd with hd | hd
  ·exact h.next.lt d hd
  ·rw [List.mem_singleton.1 hd]; exact .inr (.inl ⟨rfl, by simp only; omega⟩)
theorem loop25 (j4) (Post : Option (List Dv × Sr × Unit) → Prop) (ns : List Nd) (dv : List Dv) (i : Nat) (hi : i < ns.length) (hl : ∀ x ∈ ns, x.2.2.1 ≤ 8) {s : Sr} (hs : SrOk s) {ds : List Dv} (hd : DevP ns ds i 0 false)
  (hj : ∀ (s' : Sr) (ds' : List Dv), SrOk s' → DevP ns ds' (i + 1) 0 false → Post (j4 ((i : Int), s', (ns, dv, ()), ds', ()))) : Post (iter 100000 (sh24_L5 j4) ((i : Int), 0, s, (ns, dv, ()), ds, ())) := by
 have hx : lAt ([], 0, 0, 0, [], ()) ns (i : Int) = ns[i] := lAt_nat _ _ _ hi
 have h8 := hl ns[i] (List.getElem_mem hi)
 refine iter_post (F := sh24_L5 j4) (fun k z => ∃ (s' : Sr) (ds' : List Dv), z = ((i : Int), (k : Int), s', (ns, dv, ()), ds', ()) ∧ SrOk s' ∧ DevP ns ds' i k false) Post (ns[i].2.2.1).toNat 100000 (by omega)
  ⟨s, ds, rfl, hs, hd⟩ (fun rc k z hk hz => ?_) (fun rc z hz => ?_)
 ·obtain ⟨s1, d1, rfl, k1, p1⟩ := hz
  have hw : (k : Int) < ns[i].2.2.1 := by omega
  have up : IntKind.i64.wrap ((k : Int) + 1) = ((k + 1 : Nat) : Int) := wrapI (by omega) (by omega)
  simp only [sh24_L5]
  rw [if_pos (inR_nat hi), hx, if_pos (decide_eq_true hw)]
  simp only [joinK]
  rw [if_pos (inR_nat hi)]
  have fin : ∀ (s2 : Sr) (d2 : List Dv), SrOk s2 → DevP ns d2 i k true → ∃ z', sh24_K8 (sh24_K6 rc) ((i : Int), (k : Int), s2, (ns, dv, ()), d2, ()) = rc z' ∧ ∃ (s' : Sr) (ds' : List Dv), z' = ((i : Int), ((k + 1 : Nat) : Int), s', (ns, dv, ()), ds', ()) ∧ SrOk s' ∧ DevP ns ds' i ((k + 1 : Nat) : Int) false := by
   intro s2 d2 k2 p2
   simp only [sh24_K8, joinK]
   by_cases hlen : (d2.length : Int) < 24
   ·obtain ⟨v, s3, hv, v1, v2, k3⟩ := e18 k2 2 (by decide) (by decide)
    rw [if_pos (decide_eq_true hlen), hv, Option.bind_some]
    simp only [sh24_K9, sh24_K6, up]
    cases v == 0 with
    | true =>
     rw [if_pos rfl, if_pos (dlim (by omega)), if_pos (dlim (by omega))]
     exact ⟨_, rfl, s3, _, rfl, k3, by have := p2.add1 (by omega) (by omega) (by omega) (by omega) (by rw [hx]; exact hw); exact this⟩
    | false =>
     rw [if_neg (by decide)]
     exact ⟨_, rfl, s3, _, rfl, k3, p2.next⟩
   ·rw [if_neg (by simpa using hlen)]
    simp only [sh24_K9, sh24_K6, up]
    rw [if_neg (by decide)]
    exact ⟨_, rfl, s2, _, rfl, k2, p2.next⟩
  have mid : ∀ (b : Bool) (s2 : Sr) , d1.length < 24 → SrOk s2 → ∃ z', sh24_K13 (sh24_K8 (sh24_K6 rc)) ((i : Int), (k : Int), b, s2, (ns, dv, ()), d1, ()) = rc z' ∧ ∃ (s' : Sr) (ds' : List Dv), z' = ((i : Int), ((k + 1 : Nat) : Int), s', (ns, dv, ()), ds', ()) ∧ SrOk s' ∧ DevP ns ds' i ((k + 1 : Nat) : Int) false := by
   intro b s2 hlen k2
   simp only [sh24_K13]
   cases b with
   | true =>
    rw [if_pos rfl, if_pos (dlim (by omega)), if_pos (dlim (by omega))]
    exact fin s2 _ k2 (p1.add2 hlen (by omega) (by omega) (by omega) (by rw [hx]; exact hw))
   | false =>
    rw [if_neg (by decide)]
    exact fin s2 _ k2 p1.weak
  by_cases hlen : (d1.length : Int) < 24
  ·obtain ⟨v, s3, hv, v1, v2, k3⟩ := e18 k1 3 (by decide) (by decide)
   rw [if_pos (decide_eq_true hlen), hv, Option.bind_some]
   simp only
   by_cases c1 : (v == 0) = true
   ·rw [if_pos c1]; exact mid true s3 (by omega) k3
   ·rw [if_neg c1]
    by_cases c2 : ((k : Int) == IntKind.i64.wrap (ns[i].2.2.1 - 1)) = true
    ·rw [if_pos c2, if_pos (inR_nat hi)]; exact mid _ s3 (by omega) k3
    ·rw [if_neg c2]; exact mid false s3 (by omega) k3
  ·rw [if_neg (by simpa using hlen)]
   simp only [sh24_K13]
   rw [if_neg (by decide)]
   exact fin s1 d1 k1 p1.weak
 ·obtain ⟨s1, d1, rfl, k1, p1⟩ := hz
  simp only [sh24_L5]
  rw [if_pos (inR_nat hi), hx, if_neg (by simp only [decide_eq_true_eq]; omega)]
  exact hj s1 d1 k1 p1.row
theorem e24 {s : Sr} (hs : SrOk s) (ns : List Nd) (dv : List Dv) (hn : ns.length ≤ 1000) (hl : ∀ x ∈ ns, x.2.2.1 ≤ 8) : ∃ ds s', sp24 (s, (ns, dv, ()), ()) = some (ds, s', ()) ∧ SrOk s' ∧ DevG ns ds := by
 show ∃ ds s', sh24 100000 s (ns, dv, ()) = some (ds, s', ()) ∧ _
 unfold sh24
 simp only [joinK]
 refine iter_post (F := sh24_L2 100000 sh24_K0) (fun k z => ∃ (s' : Sr) (ds : List Dv), z = ((k : Int), s', (ns, dv, ()), ds, ()) ∧ SrOk s' ∧ DevP ns ds k 0 false) (fun o => ∃ ds s', o = some (ds, s', ()) ∧ SrOk s' ∧ DevG ns ds) ns.length 100000 (by omega)
  ⟨s, [], rfl, hs, ⟨⟨by simp, by simp, by simp⟩, by simp⟩⟩ (fun rc k z hk hz => ?_) (fun rc z hz => ?_)
 ·obtain ⟨s1, d1, rfl, k1, p1⟩ := hz
  simp only [sh24_L2, joinK]
  rw [if_pos (by simpa using hk)]
  refine loop25 _ (fun o => ∃ z', o = rc z' ∧ ∃ (s' : Sr) (ds : List Dv), z' = (((k + 1 : Nat) : Int), s', (ns, dv, ()), ds, ()) ∧ SrOk s' ∧ DevP ns ds ((k + 1 : Nat) : Int) 0 false) ns dv k hk hl k1 p1 fun s2 d2 k2 p2 => ?_
  simp only [sh24_K3, up1' hk]
  exact ⟨_, rfl, s2, d2, rfl, k2, p2⟩
 ·obtain ⟨s1, d1, rfl, k1, p1⟩ := hz
  simp only [sh24_L2]
  rw [if_neg (by simp)]
  exact ⟨_, _, rfl, k1, p1.toDevG⟩
theorem e23 (l : IL) (x : Int) (hl : l.length ≤ 90000) : sp23 (l, x, ()) = some (l.any fun y => y.1 == x, ()) := by
 show sh23 100000 l x = _
 unfold sh23
 simp only [joinK]
 refine (iter_list (F := sh23_L2 sh23_K0) l (fun y => !(y.1 == x)) (fun k => (l, x, (k : Int), ())) 100000 (by omega) (bad := some (true, ())) (fin := some (false, ())) (fun rc k hk => ?_) (fun rc => ?_)).trans ?_
 ·simp only [sh23_L2]
  rw [if_pos (by simpa using hk), if_pos (inR_nat hk), lAt_nat _ _ _ hk, up1' hk]
  cases l[k].1 == x <;> rfl
 ·simp only [sh23_L2]
  rw [if_neg (by simp)]; rfl
 ·rw [show (l.any fun y => y.1 == x) = !(l.all fun y => !(y.1 == x)) by induction l with
   | nil => rfl
   | cons a r ih => simp only [List.any_cons, List.all_cons, Bool.not_and, Bool.not_not]; rw [ih (by simp only [List.length_cons] at hl; omega)]]
  cases l.all fun y => !(y.1 == x) <;> rfl
def exitsN (k : Int) : Nat := if k = 8 ∨ k = 9 then 0 else if k = 4 ∨ k = 5 ∨ k = 6 then 2 else 1
def zoneOf (gate N : Nat) (i : Int) : Int := if i ≤ gate ∨ i + 2 = N then 0 else 1
def ExitG (N gate i : Nat) (kind : Int) (k : Nat) (e : Int) : Prop :=
 if kind = 5 ∧ k = 0 then e = i else (i : Int) < e ∧ e < N ∧ zoneOf gate N e = if kind = 6 ∧ k = 1 then 1 else zoneOf gate N i
structure NodeG (N gate i : Nat) (x : Nd) : Prop where
 name : x.1 = [UInt8.ofNat (65 + i)]
 kind1 : 1 ≤ x.2.1
 kind9 : x.2.1 ≤ 9
 entry : x.2.1 = 1 ↔ i = 0
 gate' : x.2.1 = 6 ↔ i = gate
 strip : i ≤ gate → x.2.1 ≤ 6
 len1 : x.2.1 ≤ 6 → 1 ≤ x.2.2.1 ∧ x.2.2.1 ≤ 4
 len5 : x.2.1 = 5 → 2 ≤ x.2.2.1
 len7 : 7 ≤ x.2.1 → x.2.2.1 = 0
 zone : x.2.2.2.1 = zoneOf gate N i
 zk0 : x.2.1 = 1 ∨ x.2.1 = 3 ∨ x.2.1 = 6 → zoneOf gate N i = 0
 zk1 : x.2.1 = 7 ∨ x.2.1 = 8 → zoneOf gate N i = 1
 cnt : x.2.2.2.2.1.length = exitsN x.2.1
 ex : ∀ (k : Nat) (h : k < x.2.2.2.2.1.length), ExitG N gate i x.2.1 k (x.2.2.2.2.1[k]).1
 nd : x.2.2.2.2.1.Nodup
theorem node_strip {N gate i : Nat} {zone : Int} {kinds to : IL} {x : Nd} (h : StripG i zone kinds to x) (nm : List UInt8) (hnm : nm = [UInt8.ofNat (65 + i)]) (hz : zone = zoneOf gate N i)
  (hto : ∀ e : Int, (e, ()) ∈ to → (i : Int) < e ∧ e < N ∧ zoneOf gate N e = zone)
  (hk : ∀ k : Int, (k, ()) ∈ kinds → 1 ≤ k ∧ k ≤ 7 ∧ k ≠ 6 ∧ (k = 1 ↔ i = 0) ∧ (i ≤ gate → k ≤ 6) ∧ (k = 3 → zone = 0) ∧ (k = 7 → zone = 1))
  (h4 : (4, ()) ∈ kinds → i ≠ 0) (hig : i ≠ gate) (hz0 : i = 0 → zone = 0) (len : Int) (hlen : len = if x.2.1 = 7 then 0 else x.2.2.1) :
  NodeG N gate i (nm, x.2.1, len, x.2.2.2.1, x.2.2.2.2.1, ()) := by
 obtain ⟨a1, a2, f, hf, hc⟩ := h
 have hfi := hto f hf
 have two : ∀ {k : Int} {g : Int}, k ≠ 5 → k ≠ 6 → (g, ()) ∈ to → ∀ (q : Nat) (hq : q < [(f, ()), (g, ())].length), ExitG N gate i k q ([(f, ()), (g, ())][q]).1 := fun {k g} k5 k6 hg q hq => by
  have hgi := hto g hg
  unfold ExitG
  rw [if_neg (by omega), if_neg (by omega)]
  match q, hq with
  | 0, _ => exact ⟨hfi.1, hfi.2.1, hfi.2.2.trans hz⟩
  | 1, _ => exact ⟨hgi.1, hgi.2.1, hgi.2.2.trans hz⟩
 have one : ∀ {k : Int}, k ≠ 5 → k ≠ 6 → ∀ (q : Nat) (hq : q < [(f, ())].length), ExitG N gate i k q ([(f, ())][q]).1 := fun {k} k5 k6 q hq => by
  unfold ExitG
  rw [if_neg (by omega), if_neg (by omega)]
  match q, hq with
  | 0, _ => exact ⟨hfi.1, hfi.2.1, hfi.2.2.trans hz⟩
 rcases hc with ⟨c1, c2, c3, c4, c5⟩ | ⟨c1, c2, c3, c4, g, hg, hgf, c5⟩ | ⟨c1, c2, c3, c4, c5⟩ | ⟨c2, k5, k4, c3, c4, c5⟩
 ·have hk' := hk 5 c2
  rw [c1, if_neg (by decide)] at hlen
  refine ⟨hnm, by simp only; omega, by simp only; omega, by simp only [c1]; exact hk'.2.2.2.1, by simp only [c1]; omega, fun _ => by simp only; omega, fun _ => by simp only; omega, fun _ => by simp only; omega, fun h => by simp only at h; omega, by simp only; rw [a2, hz],
   fun h => by simp only at h; omega, fun h => by simp only at h; omega, by simp only [c1, c5]; rfl, fun q hq => ?_, ?_⟩
  ·simp only [c5, c1] at hq ⊢
   unfold ExitG
   match q, hq with
   | 0, _ => rw [if_pos (by decide)]; rfl
   | 1, _ => rw [if_neg (by decide), if_neg (by decide)]; exact ⟨hfi.1, hfi.2.1, hfi.2.2.trans hz⟩
  ·simp only [c5]
   have : (i : Int) ≠ f := by omega
   simp [this]
 ·have hi0 := h4 c2
  rw [c1, if_neg (by decide)] at hlen
  refine ⟨hnm, by simp only; omega, by simp only; omega, by simp only [c1]; omega, by simp only [c1]; omega, fun _ => by simp only; omega, fun _ => by simp only; omega, fun h => by simp only at h; omega, fun h => by simp only at h; omega, by simp only; rw [a2, hz],
   fun h => by simp only at h; omega, fun h => by simp only at h; omega, by simp only [c1, c5]; rfl, fun q hq => ?_, ?_⟩
  ·simp only [c5, c1] at hq ⊢
   exact two (by decide) (by decide) hg q hq
  ·simp only [c5]
   simp [Ne.symm hgf]
 ·have hi0 := h4 c2
  rw [c1, if_neg (by decide)] at hlen
  refine ⟨hnm, by simp only; omega, by simp only; omega, by simp only [c1]; omega, by simp only [c1]; omega, fun _ => by simp only; omega, fun _ => by simp only; omega, fun h => by simp only at h; omega, fun h => by simp only at h; omega, by simp only; rw [a2, hz],
   fun h => by simp only at h; omega, fun h => by simp only at h; omega, by simp only [c1, c5]; rfl, fun q hq => ?_, ?_⟩
  ·simp only [c5, c1] at hq ⊢
   exact one (by decide) (by decide) q hq
  ·simp only [c5]; simp
 ·obtain ⟨b1, b2, b3, b4, b5, b6, b7⟩ := hk _ c2
  refine ⟨hnm, b1, by simp only; omega, b4, ⟨fun h => absurd h b3, fun h => absurd h hig⟩, b5, fun h => ?_, fun h => absurd h k5, fun h => ?_, by simp only; rw [a2, hz],
   fun h => ?_, fun h => ?_, ?_, fun q hq => ?_, ?_⟩
  ·simp only at h; rw [if_neg (by omega)] at hlen; simp only; omega
  ·simp only at h; rw [if_pos (by omega)] at hlen; exact hlen
  ·simp only at h
   rcases h with h | h | h
   ·rw [← hz]; exact hz0 (b4.1 h)
   ·rw [← hz]; exact b6 h
   ·exact absurd h b3
  ·simp only at h
   rw [← hz]
   rcases h with h | h
   ·exact b7 h
   ·omega
  ·simp only [c5]
   unfold exitsN
   rw [if_neg (by omega), if_neg (by omega)]; rfl
  ·simp only [c5] at hq ⊢
   exact one k5 b3 q hq
  ·simp only [c5]; simp
theorem node_gate {N gate : Nat} {e : Int} {ln : Int} (nm : List UInt8) (hnm : nm = [UInt8.ofNat (65 + gate)]) (hg : 1 ≤ gate) (hN : gate + 4 ≤ N) (l1 : 1 ≤ ln) (l2 : ln ≤ 3) (he : (gate : Int) < e ∧ e < N ∧ zoneOf gate N e = 1) :
  NodeG N gate gate (nm, 6, ln, 0, [((N : Int) - 2, ()), (e, ())], ()) := by
 have hz : zoneOf gate N (gate : Int) = 0 := by unfold zoneOf; rw [if_pos (by omega)]
 refine ⟨hnm, show (1 : Int) ≤ 6 by decide, show (6 : Int) ≤ 9 by decide, by simp only; omega, by simp, fun _ => show (6 : Int) ≤ 6 by decide, fun _ => by simp only; omega, fun h => by simp at h, fun h => by simp at h, by simp only; rw [hz], fun _ => hz, fun h => by simp at h, rfl, fun q hq => ?_, ?_⟩
 ·unfold ExitG
  match q, hq with
  | 0, _ =>
   rw [if_neg (show ¬ ((6 : Int) = 5 ∧ 0 = 0) by decide), if_neg (show ¬ ((6 : Int) = 6 ∧ 0 = 1) by decide)]
   refine ⟨by show (gate : Int) < (N : Int) - 2; omega, by show (N : Int) - 2 < N; omega, ?_⟩
   show zoneOf gate N ((N : Int) - 2) = _
   rw [hz]; unfold zoneOf; rw [if_pos (by omega)]
  | 1, _ =>
   rw [if_neg (show ¬ ((6 : Int) = 5 ∧ 1 = 0) by decide), if_pos (show (6 : Int) = 6 ∧ 1 = 1 by decide)]
   exact he
 ·have : (N : Int) - 2 ≠ e := by
   rintro rfl
   have := he.2.2
   unfold zoneOf at this
   rw [if_pos (by omega)] at this
   cases this
  simp [this]
theorem node_bin {N gate i : Nat} {k z : Int} (nm : List UInt8) (hnm : nm = [UInt8.ofNat (65 + i)]) (hk : k = 8 ∨ k = 9) (hi : gate < i) (hz : z = zoneOf gate N i) (h8 : k = 8 → zoneOf gate N i = 1) : NodeG N gate i (nm, k, 0, z, [], ()) := by
 refine ⟨hnm, by simp only; omega, by simp only; omega, by simp only; omega, by simp only; omega, fun h => by omega, fun h => by simp only at h; omega, fun h => by simp only at h; omega, fun _ => rfl, hz, fun h => by simp only at h; omega, fun h => by simp only at h; exact h8 (by omega), ?_, fun q hq => by simp at hq, by simp⟩
 simp only
 unfold exitsN
 rw [if_pos hk]; rfl
theorem node_turn {N gate i : Nat} {x : Nd} (h : NodeG N gate i x) (hN : gate + 4 ≤ N) (hi : i < gate) (k5 : x.2.1 ≠ 5) (hn : (x.2.2.2.2.1.any fun y => y.1 == ((i + 1 : Nat) : Int)) = false) :
  NodeG N gate i (x.1, x.2.1, x.2.2.1, x.2.2.2.1, (((i + 1 : Nat) : Int), ()) :: x.2.2.2.2.1.drop 1, ()) := by
 have k6 : x.2.1 ≠ 6 := fun e => by have := h.gate'.1 e; omega
 have kk := h.strip (by omega)
 have k1 := h.kind1
 have hc := h.cnt
 have hc1 : 1 ≤ x.2.2.2.2.1.length := by
  rw [hc]; unfold exitsN
  rw [if_neg (by omega)]
  split <;> decide
 have hz : zoneOf gate N ((i + 1 : Nat) : Int) = zoneOf gate N i := by
  unfold zoneOf; rw [if_pos (by omega), if_pos (by omega)]
 refine ⟨h.name, h.kind1, h.kind9, h.entry, h.gate', h.strip, h.len1, h.len5, h.len7, h.zone, h.zk0, h.zk1, ?_, fun q hq => ?_, ?_⟩
 ·simp only [List.length_cons, List.length_drop]; omega
 ·match q, hq with
  | 0, _ =>
   unfold ExitG
   rw [if_neg (fun e => k5 e.1), if_neg (fun e => k6 e.1)]
   exact ⟨by show (i : Int) < ((i + 1 : Nat) : Int); omega, by show ((i + 1 : Nat) : Int) < N; omega, hz⟩
  | q + 1, hq =>
   have hq' : q + 1 < x.2.2.2.2.1.length := by simp only [List.length_cons, List.length_drop] at hq; omega
   have e := h.ex (q + 1) hq'
   have e2 : ((((i + 1 : Nat) : Int), ()) :: x.2.2.2.2.1.drop 1)[q + 1] = x.2.2.2.2.1[q + 1] := by
    simp only [List.getElem_cons_succ, List.getElem_drop, Nat.add_comm]
   simp only [e2]
   exact e
 ·refine List.nodup_cons.2 ⟨fun hm => ?_, h.nd.sublist (List.drop_sublist 1 _)⟩
  have hm' := List.mem_of_mem_drop hm
  have := List.any_eq_false.1 hn _ hm'
  simp at this
structure LayG (N gate : Nat) (ns : List Nd) : Prop where
 len : ns.length = N
 g1 : 1 ≤ gate
 gN : gate + 4 ≤ N
 N11 : N ≤ 11
 node : ∀ (j : Nat) (h : j < ns.length), NodeG N gate j ns[j]
section
variable {N gate : Nat} (hg1 : 1 ≤ gate) (hgN : gate + 4 ≤ N) (hN : N ≤ 11)
abbrev PostT := Option (Lay × Sr × Unit) → Prop
theorem loop30 (j29) (Post : PostT) (b : Int) (i : Nat) (s : Sr) (A : List Nd) (B : List Dv) (ns : List Nd) (dv : List Dv) (hi : i < N)
  (hN : N ≤ 11) (hj : ∀ zero : IL, (∀ y ∈ zero, (i : Int) < y.1 ∧ y.1 ≤ gate) → zero.length ≤ 20 → Post (j29 (b, (N : Int), (gate : Int), (N : Int) - 2, (i : Int), s, (), (), zero, [], A, B, ns, dv, ()))) (hgN : gate + 4 ≤ N) :
  Post (iter 100000 (sh8_L30 j29) (b, (N : Int), (gate : Int), (N : Int) - 2, (i : Int), (i : Int) + 1, s, (), (), [], [], A, B, ns, dv, ())) := by
 refine iter_post (F := sh8_L30 j29) (fun q z => ∃ zero : IL, z = (b, (N : Int), (gate : Int), (N : Int) - 2, (i : Int), (i : Int) + 1 + q, s, (), (), zero, [], A, B, ns, dv, ()) ∧ (∀ y ∈ zero, (i : Int) < y.1 ∧ y.1 ≤ gate) ∧ zero.length ≤ q) Post (gate - i) 100000 (by omega)
  ⟨[], by simp, by simp, by simp⟩ (fun rc q z hq hz => ?_) (fun rc z hz => ?_)
 ·obtain ⟨zero, rfl, h1, h2⟩ := hz
  simp only [sh8_L30]
  rw [if_pos (decide_eq_true (by omega)), if_pos (dlim (by omega)), if_pos (dlim (by omega)), wrapI (by omega) (by omega)]
  refine ⟨_, rfl, zero ++ [((i : Int) + 1 + q, ())], by rw [show (i : Int) + 1 + (q : Int) + 1 = (i : Int) + 1 + ((q + 1 : Nat) : Int) by omega], fun y hy => ?_, by simp only [List.length_append, List.length_cons, List.length_nil]; omega⟩
  rcases List.mem_append.1 hy with hy | hy
  ·exact h1 y hy
  ·rw [List.mem_singleton.1 hy]; simp only; omega
 ·obtain ⟨zero, rfl, h1, h2⟩ := hz
  simp only [sh8_L30]
  rw [if_neg (by simp only [decide_eq_true_eq]; omega)]
  exact hj zero h1 (by omega)
theorem loop28 (j27) (Post : PostT) (b : Int) (i m0 : Nat) (hm0 : m0 = if gate > i then gate else i) (s : Sr) (zero : IL) (A : List Nd) (B : List Dv) (ns : List Nd) (dv : List Dv) (hi : i < N)
  (hN : N ≤ 11) (hj : ∀ one : IL, (∀ y ∈ one, (i : Int) < y.1 ∧ (gate : Int) < y.1 ∧ y.1 < (N : Int) - 2) → one.length ≤ 20 → Post (j27 (b, (N : Int), (gate : Int), (N : Int) - 2, (i : Int), s, (), (), zero, one, A, B, ns, dv, ()))) (hgN : gate + 4 ≤ N) :
  Post (iter 100000 (sh8_L28 j27) (b, (N : Int), (gate : Int), (N : Int) - 2, (i : Int), (m0 : Int) + 1, s, (), (), zero, [], A, B, ns, dv, ())) := by
 have hm : gate ≤ m0 ∧ i ≤ m0 := by subst hm0; split <;> omega
 refine iter_post (F := sh8_L28 j27) (fun q z => ∃ one : IL, z = (b, (N : Int), (gate : Int), (N : Int) - 2, (i : Int), (m0 : Int) + 1 + q, s, (), (), zero, one, A, B, ns, dv, ()) ∧ (∀ y ∈ one, (i : Int) < y.1 ∧ (gate : Int) < y.1 ∧ y.1 < (N : Int) - 2) ∧ one.length ≤ q) Post (N - 2 - (m0 + 1)) 100000 (by omega)
  ⟨[], by simp, by simp, by simp⟩ (fun rc q z hq hz => ?_) (fun rc z hz => ?_)
 ·obtain ⟨one, rfl, h1, h2⟩ := hz
  simp only [sh8_L28]
  rw [if_pos (decide_eq_true (by omega)), if_pos (dlim (by omega)), if_pos (dlim (by omega)), wrapI (by omega) (by omega)]
  refine ⟨_, rfl, one ++ [((m0 : Int) + 1 + q, ())], by rw [show (m0 : Int) + 1 + (q : Int) + 1 = (m0 : Int) + 1 + ((q + 1 : Nat) : Int) by omega], fun y hy => ?_, by simp only [List.length_append, List.length_cons, List.length_nil]; omega⟩
  rcases List.mem_append.1 hy with hy | hy
  ·exact h1 y hy
  ·rw [List.mem_singleton.1 hy]; simp only; omega
 ·obtain ⟨one, rfl, h1, h2⟩ := hz
  simp only [sh8_L28]
  rw [if_neg (by simp only [decide_eq_true_eq]; omega)]
  exact hj one h1 (by omega)
theorem nameB (i : Nat) (hi : i ≤ 20) : toBytes [(IntKind.u8.wrap (IntKind.i64.wrap (65 + (i : Int))), ())] = [UInt8.ofNat (65 + i)] := by
 rw [wrapI (by omega) (by omega)]
 have w8 : IntKind.u8.wrap (65 + (i : Int)) = 65 + i := by
  have : IntKind.u8.wrap (65 + (i : Int)) = (65 + (i : Int)) % 256 := by simp [IntKind.wrap, IntKind.bits, IntKind.signed]
  rw [this]; omega
 rw [w8]
 show [UInt8.ofNat (65 + (i : Int)).toNat] = _
 rw [show (65 + (i : Int)).toNat = 65 + i by omega]
theorem step9 (rc15) (b : Nat) (i : Nat) (s : Sr) (A : List Nd) (B : List Dv) (ns : List Nd) (dv : List Dv) (hi : i < N) (hs : SrOk s) (hg1 : 1 ≤ gate) (hgN : gate + 4 ≤ N) (hN : N ≤ 11) (hb : gate + 1 + b + 3 ≤ N)
  (hl : ns.length = i) (hn : ∀ (j : Nat) (h : j < ns.length), NodeG N gate j ns[j]) (Post : PostT)
  (hj : ∀ (s' : Sr) (x : Nd), SrOk s' → NodeG N gate i x → Post (rc15 ((b : Int), (N : Int), (gate : Int), (N : Int) - 2, ((i + 1 : Nat) : Int), s', (), (), A, B, ns ++ [x], dv, ()))) :
  Post (sh8_L15 100000 (sh8_K3 100000) rc15 ((b : Int), (N : Int), (gate : Int), (N : Int) - 2, (i : Int), s, (), (), A, B, ns, dv, ())) := by
 simp only [sh8_L15, joinK]
 rw [if_pos (decide_eq_true (by omega)), wrapI (x := (i : Int) + 1) (by omega) (by omega)]
 refine loop30 _ Post b i s A B ns dv hi hN (fun zero hz hzl => ?_) hgN
 simp only [sh8_K18, joinK]
 rw [if_pos (dlim (by omega)), if_pos (dlim (by omega))]
 have hm : (if (gate : Int) > (i : Int) then (gate : Int) else (i : Int)) = ((if gate > i then gate else i : Nat) : Int) := by split <;> split <;> omega
 rw [hm, wrapI (by split <;> omega) (by split <;> omega)]
 refine loop28 _ Post b i _ rfl s _ A B ns dv hi hN (fun one ho hol => ?_) hgN
 simp only [sh8_K19, joinK]
 rw [if_pos (dlim (by omega)), if_pos (dlim (by omega)), wrapI (x := (N : Int) - 1) (by omega) (by omega)]
 have add : ∀ (s' : Sr) (x : Nd), SrOk s' → NodeG N gate i ([UInt8.ofNat (65 + i)], x.2) → Post (sh8_K20 (sh8_K16 rc15) ((b : Int), (N : Int), (gate : Int), (N : Int) - 2, (i : Int), s', (), (), x, A, B, ns, dv, ())) := by
  intro s' x hs' hx
  simp only [sh8_K20, sh8_K16]
  rw [if_pos (dlim (by simp only [List.length_cons, List.length_nil]; omega)), if_pos (dlim (by simp only [List.length_cons, List.length_nil]; omega)), wrapI (x := (i : Int) + 1) (by omega) (by omega), nameB i (by omega)]
  exact hj s' _ hs' hx
 have zi0 : i ≤ gate → zoneOf gate N i = 0 := fun h => by unfold zoneOf; rw [if_pos (by omega)]
 have hzero : ∀ e : Int, (e, ()) ∈ zero ++ [((N : Int) - 2, ())] → i < gate → (i : Int) < e ∧ e < N ∧ zoneOf gate N e = 0 := fun e he h => by
  rcases List.mem_append.1 he with he | he
  ·have := hz _ he
   simp only at this
   exact ⟨this.1, by omega, by unfold zoneOf; rw [if_pos (by omega)]⟩
  ·have he := List.mem_singleton.1 he
   simp only [Prod.mk.injEq, and_true] at he
   subst he
   exact ⟨by omega, by omega, by unfold zoneOf; rw [if_pos (by omega)]⟩
 have hone : ∀ e : Int, (e, ()) ∈ one ++ [((N : Int) - 1, ())] → i + 3 ≤ N → (i : Int) < e ∧ e < N ∧ zoneOf gate N e = 1 := fun e he h => by
  rcases List.mem_append.1 he with he | he
  ·have := ho _ he
   simp only at this
   exact ⟨this.1, by omega, by unfold zoneOf; rw [if_neg (by omega)]⟩
  ·have he := List.mem_singleton.1 he
   simp only [Prod.mk.injEq, and_true] at he
   subst he
   exact ⟨by omega, by omega, by unfold zoneOf; rw [if_neg (by omega)]⟩
 have pz : ∀ y ∈ zero ++ [((N : Int) - 2, ())], 0 ≤ y.1 := fun y hy => by
  rcases List.mem_append.1 hy with hy | hy
  ·have := hz _ hy; omega
  ·rw [List.mem_singleton.1 hy]; simp only; omega
 have po : ∀ y ∈ one ++ [((N : Int) - 1, ())], 0 ≤ y.1 := fun y hy => by
  rcases List.mem_append.1 hy with hy | hy
  ·have := ho _ hy; omega
  ·rw [List.mem_singleton.1 hy]; simp only; omega
 have lz : ∀ e : Int, (zero ++ [(e, ())]).length = zero.length + 1 := fun e => by simp
 have lo : ∀ e : Int, (one ++ [(e, ())]).length = one.length + 1 := fun e => by simp
 by_cases h0 : i = 0
 ·subst h0
  obtain ⟨x, s', hx, hs', gx⟩ := e22 hs (((0 : Nat) : Int)) 0 [(1, ())] (zero ++ [((N : Int) - 2, ())]) (by simp) (by simp) (by rw [lz]; omega) (by rw [lz]; omega) pz
  rw [if_pos (by simp), hx, Option.bind_some]
  refine add s' x hs' ?_
  have hk7 : x.2.1 ≠ 7 := by
   obtain ⟨_, _, f, _, hc⟩ := gx
   rcases hc with ⟨c, _⟩ | ⟨c, _⟩ | ⟨c, _⟩ | ⟨c, _⟩
   ·omega
   ·omega
   ·omega
   ·simp at c; omega
  have := node_strip (N := N) (gate := gate) gx [UInt8.ofNat (65 + 0)] rfl (zi0 (by omega)).symm (fun e he => hzero e he (by omega)) (fun k hk => by
   simp only [List.mem_singleton, Prod.mk.injEq, and_true] at hk
   subst hk
   exact ⟨by decide, by decide, by decide, by simp, fun _ => by decide, fun _ => rfl, fun h => by cases h⟩) (fun h => by simp at h) (by omega) (fun _ => rfl) x.2.2.1 (by rw [if_neg hk7])
  exact this
 rw [if_neg (by simpa using h0)]
 by_cases h1 : i < gate
 ·obtain ⟨x, s', hx, hs', gx⟩ := e22 hs (i : Int) 0 [(2, ()), (3, ()), (4, ()), (5, ()), (3, ())] (zero ++ [((N : Int) - 2, ())]) (by simp) (by simp) (by rw [lz]; omega) (by rw [lz]; omega) pz
  rw [if_pos (decide_eq_true (by omega)), hx, Option.bind_some]
  refine add s' x hs' ?_
  have hk : ∀ k : Int, (k, ()) ∈ [((2 : Int), ()), (3, ()), (4, ()), (5, ()), (3, ())] → 2 ≤ k ∧ k ≤ 5 := fun k hk => by
   simp only [List.mem_cons, Prod.mk.injEq, and_true, List.not_mem_nil, or_false] at hk
   omega
  have hk7 : x.2.1 ≠ 7 := by
   obtain ⟨_, _, f, _, hc⟩ := gx
   rcases hc with ⟨c, _⟩ | ⟨c, _⟩ | ⟨c, _⟩ | ⟨c, _⟩
   ·omega
   ·omega
   ·omega
   ·have := hk _ c; omega
  have := node_strip (N := N) (gate := gate) gx [UInt8.ofNat (65 + i)] rfl (zi0 (by omega)).symm (fun e he => hzero e he (by omega)) (fun k hk' => by
   have := hk k hk'
   exact ⟨by omega, by omega, by omega, by omega, fun _ => by omega, fun _ => rfl, fun h => by omega⟩) (fun _ => h0) (by omega) (fun h => absurd h h0) x.2.2.1 (by rw [if_neg hk7])
  exact this
 rw [if_neg (by simp only [decide_eq_true_eq]; omega)]
 by_cases h2 : i = gate
 ·obtain ⟨ln, s2, hl2, l1, l2, k2⟩ := e17 hs 1 3 (by decide) (by decide) (by decide)
  obtain ⟨v, s3, hv, v1, v2, k3⟩ := e18 k2 (((one ++ [((N : Int) - 1, ())]).length : Nat) : Int) (by rw [lo]; omega) (by rw [lo]; omega)
  rw [if_pos (by simp only [beq_iff_eq]; omega), hl2, Option.bind_some]
  simp only
  rw [hv, Option.bind_some]
  simp only
  rw [if_pos (inR_int v1 v2), if_pos (decide_eq_true (by omega))]
  have hm : lAt (0, ()) (one ++ [((N : Int) - 1, ())]) v ∈ one ++ [((N : Int) - 1, ())] := lAt_mem _ _ _ v1 v2
  have hm2 : ((lAt (0, ()) (one ++ [((N : Int) - 1, ())]) v).1, ()) ∈ one ++ [((N : Int) - 1, ())] := hm
  refine add s3 _ k3 ?_
  have he := hone _ hm2 (by omega)
  have := node_gate (N := N) (gate := gate) (ln := ln) [UInt8.ofNat (65 + i)] (by rw [h2]) hg1 hgN l1 l2 (by rw [h2] at he; exact he)
  exact (fun j (hj : j = gate) => by subst hj; exact this : ∀ j, j = gate → NodeG N gate j ([UInt8.ofNat (65 + i)], 6, ln, 0, [((N : Int) - 2, ()), ((lAt (0, ()) (one ++ [((N : Int) - 1, ())]) v).1, ())], ())) i h2
 rw [if_neg (by simp only [beq_iff_eq]; omega)]
 rw [show IntKind.i64.wrap (IntKind.i64.wrap ((gate : Int) + 1) + (b : Int)) = ((gate + 1 + b : Nat) : Int) by rw [wrapI (x := (gate : Int) + 1) (by omega) (by omega), wrapI (by omega) (by omega)]; omega]
 have zi1 : i + 3 ≤ N → zoneOf gate N i = 1 := fun h => by unfold zoneOf; rw [if_neg (by omega)]
 by_cases h3 : i < gate + 1 + b
 ·obtain ⟨x, s', hx, hs', gx⟩ := e22 hs (i : Int) 1 [(2, ()), (4, ()), (5, ()), (7, ())] (one ++ [((N : Int) - 1, ())]) (by simp) (by simp) (by rw [lo]; omega) (by rw [lo]; omega) po
  rw [if_pos (decide_eq_true (by omega)), hx, Option.bind_some]
  have hk : ∀ k : Int, (k, ()) ∈ [((2 : Int), ()), (4, ()), (5, ()), (7, ())] → k = 2 ∨ k = 4 ∨ k = 5 ∨ k = 7 := fun k hk => by
   simp only [List.mem_cons, Prod.mk.injEq, and_true, List.not_mem_nil, or_false] at hk
   exact hk
  have fin := fun (len : Int) (hlen : len = if x.2.1 = 7 then 0 else x.2.2.1) => node_strip (N := N) (gate := gate) gx [UInt8.ofNat (65 + i)] rfl (zi1 (by omega)).symm (fun e he => hone e he (by omega)) (fun k hk' => by
   have := hk k hk'
   exact ⟨by omega, by omega, by omega, by omega, fun _ => by omega, fun _ => by omega, fun _ => rfl⟩) (fun _ => h0) h2 (fun h => absurd h h0) len hlen
  simp only
  by_cases h7 : x.2.1 = 7
  ·rw [if_pos (by simpa using h7)]
   exact add s' _ hs' (fin 0 (by rw [if_pos h7]))
  ·rw [if_neg (by simpa using h7)]
   exact add s' x hs' (fin x.2.2.1 (by rw [if_neg h7]))
 rw [if_neg (by simp only [decide_eq_true_eq]; omega)]
 by_cases h4 : i + 2 < N
 ·rw [if_pos (decide_eq_true (by omega))]
  exact add s _ hs (node_bin _ rfl (.inl rfl) (by omega) (zi1 (by omega)).symm (fun _ => zi1 (by omega)))
 ·rw [if_neg (by simp only [decide_eq_true_eq]; omega), wrapI (by omega) (by omega)]
  refine add s _ hs (node_bin _ rfl (.inr rfl) (by omega) ?_ (fun h => absurd h (by decide)))
  unfold zoneOf
  split <;> omega
end
theorem node_len {N gate i : Nat} {x : Nd} (h : NodeG N gate i x) : 0 ≤ x.2.2.1 ∧ x.2.2.1 ≤ 4 := by
 by_cases h6 : 6 < x.2.1
 ·rw [h.len7 (by omega)]; omega
 ·have := h.len1 (by omega); omega
theorem lay_len {N gate : Nat} {ns : List Nd} (h : LayG N gate ns) : ∀ x ∈ ns, 0 ≤ x.2.2.1 ∧ x.2.2.1 ≤ 4 := fun x hx => by
 obtain ⟨j, hj, rfl⟩ := List.getElem_of_mem hx
 exact node_len (h.node j hj)
theorem loop9 {N gate : Nat} (j6) (Post : PostT) (s : Sr) (A : List Nd) (B dv : List Dv) (ns : List Nd) (h : LayG N gate ns)
  (hj : ∀ ns', LayG N gate ns' → Post (j6 (s, (), (), A, B, ns', dv, ()))) : Post (iter 100000 (sh8_L8 j6) ((gate : Int), 0, s, (), (), A, B, ns, dv, ())) := by
 have h11 := h.N11
 have hgN := h.gN
 refine iter_post (F := sh8_L8 j6) (fun q z => ∃ ns', z = ((gate : Int), (q : Int), s, (), (), A, B, ns', dv, ()) ∧ LayG N gate ns') Post gate 100000 (by omega) ⟨ns, rfl, h⟩ (fun rc q z hq hz => ?_) (fun rc z hz => ?_)
 ·obtain ⟨us, rfl, hu⟩ := hz
  have hul := hu.len
  have hqu : q < us.length := by omega
  have nq := hu.node q hqu
  have hg : us.getD q ([], 0, 0, 0, [], ()) = us[q] := by rw [List.getD, List.getElem?_eq_getElem hqu]; rfl
  have hct : us[q].2.2.2.2.1.length ≤ 2 := by rw [nq.cnt]; unfold exitsN; split; exact Nat.zero_le _; split <;> decide
  have up : IntKind.i64.wrap ((q : Int) + 1) = ((q + 1 : Nat) : Int) := wrapI (by omega) (by omega)
  simp only [sh8_L8, joinK]
  rw [if_pos (by simpa using hq), if_pos (inR_nat hqu), if_pos (decide_eq_true (by simp only [Int.toNat_natCast]; omega))]
  simp only [Int.toNat_natCast, hg]
  by_cases h5 : us[q].2.1 = 5
  ·rw [if_neg (by simpa using h5)]
   simp only [sh8_K11, sh8_K9, up]
   rw [if_neg (by decide)]
   exact ⟨_, rfl, us, rfl, hu⟩
  ·rw [if_pos (by simpa using h5), if_pos (inR_nat hqu), if_pos (decide_eq_true (by omega)), up, e23 _ _ (by omega), Option.bind_some]
   simp only [sh8_K11, sh8_K9, up]
   cases hany : us[q].2.2.2.2.1.any fun y => y.1 == ((q + 1 : Nat) : Int) with
   | true =>
    rw [if_neg (by decide)]
    exact ⟨_, rfl, us, rfl, hu⟩
   | false =>
    have hc1 : 1 ≤ us[q].2.2.2.2.1.length := by
     rw [nq.cnt]; unfold exitsN
     have := nq.strip (by omega)
     rw [if_neg (by omega)]; split <;> decide
    have hcut : cutL us[q].2.2.2.2.1 1 ((us[q].2.2.2.2.1.length : Nat) : Int) = us[q].2.2.2.2.1.drop 1 := by
     show (us[q].2.2.2.2.1.drop 1).take _ = _
     rw [List.take_of_length_le]
     simp only [List.length_drop]
     omega
    simp only [Int.toNat_natCast, hg, hcut]
    rw [if_pos (by decide), if_pos (inR_nat hqu), if_pos (decide_eq_true (by omega)), if_pos (by have := inCut_nat (a := 1) hc1 (Nat.le_refl us[q].2.2.2.2.1.length); exact this), if_pos (dlim (by simp only [List.length_cons, List.length_nil, List.length_drop]; omega)), if_pos (dlim (by simp only [List.length_cons, List.length_nil, List.length_drop]; omega)), if_pos (inR_nat hqu), if_pos (decide_eq_true (by omega))]
    refine ⟨_, rfl, _, rfl, ?_⟩
    refine ⟨by rw [List.length_set]; exact hul, hu.g1, hu.gN, hu.N11, fun j hj => ?_⟩
    rw [List.getElem_set]
    split
    ·rename_i e
     subst e
     exact node_turn nq hu.gN hq h5 hany
    ·exact hu.node j (by rw [List.length_set] at hj; exact hj)
 ·obtain ⟨us, rfl, hu⟩ := hz
  simp only [sh8_L8]
  rw [if_neg (by simp)]
  exact hj us hu
theorem e8 {s : Sr} (hs : SrOk s) : ∃ N gate ns ds s', sp8 (s, ()) = some ((ns, ds, ()), s', ()) ∧ SrOk s' ∧ LayG N gate ns ∧ DevG ns ds := by
 obtain ⟨a', s1, ha, a1, a2, k1⟩ := e17 hs 1 3 (by decide) (by decide) (by decide)
 obtain ⟨b', s2, hb, b1, b2, k2⟩ := e17 k1 0 3 (by decide) (by decide) (by decide)
 obtain ⟨c', s3, hc, c1, c2, k3⟩ := e17 k2 1 2 (by decide) (by decide) (by decide)
 obtain ⟨a, rfl⟩ : ∃ n : Nat, a' = n := ⟨a'.toNat, by omega⟩
 obtain ⟨b, rfl⟩ : ∃ n : Nat, b' = n := ⟨b'.toNat, by omega⟩
 obtain ⟨c, rfl⟩ : ∃ n : Nat, c' = n := ⟨c'.toNat, by omega⟩
 have e0 : sp8 (s, ()) = sh8 100000 s := rfl
 rw [e0]
 unfold sh8
 rw [ha, Option.bind_some]
 simp only
 rw [hb, Option.bind_some]
 simp only
 rw [hc, Option.bind_some]
 simp only [joinK]
 obtain ⟨N, hN⟩ : ∃ N : Nat, N = a + 1 + b + c + 2 := ⟨_, rfl⟩
 have w : IntKind.i64.wrap (IntKind.i64.wrap (IntKind.i64.wrap (IntKind.i64.wrap ((a : Int) + 1) + (b : Int)) + (c : Int)) + 2) = (N : Int) := by
  rw [wrapI (x := (a : Int) + 1) (by omega) (by omega), wrapI (x := (a : Int) + 1 + b) (by omega) (by omega), wrapI (x := (a : Int) + 1 + b + c) (by omega) (by omega), wrapI (by omega) (by omega)]; omega
 rw [w, wrapI (x := (N : Int) - 2) (by omega) (by omega)]
 refine iter_post (F := sh8_L15 100000 (sh8_K3 100000)) (fun q z => ∃ (s' : Sr) (ns : List Nd), z = ((b : Int), (N : Int), (a : Int), (N : Int) - 2, (q : Int), s', (), (), [], [], ns, [], ()) ∧ SrOk s' ∧ ns.length = q ∧ ∀ (j : Nat) (h : j < ns.length), NodeG N a j ns[j])
  (fun o => ∃ N gate ns ds s', o = some ((ns, ds, ()), s', ()) ∧ SrOk s' ∧ LayG N gate ns ∧ DevG ns ds) N 100000 (by omega) ⟨s3, [], rfl, k3, rfl, fun j h => absurd h (Nat.not_lt_zero _)⟩ (fun rc q z hq hz => ?_) (fun rc z hz => ?_)
 ·obtain ⟨s4, ns, rfl, k4, l4, n4⟩ := hz
  refine step9 (N := N) (gate := a) rc b q s4 [] [] ns [] hq k4 (by omega) (by omega) (by omega) (by omega) l4 n4 (fun o => ∃ z', o = rc z' ∧ ∃ (s' : Sr) (ns : List Nd), z' = ((b : Int), (N : Int), (a : Int), (N : Int) - 2, ((q + 1 : Nat) : Int), s', (), (), [], [], ns, [], ()) ∧ SrOk s' ∧ ns.length = q + 1 ∧ ∀ (j : Nat) (h : j < ns.length), NodeG N a j ns[j]) fun s5 x k5 gx => ?_
  refine ⟨_, rfl, s5, ns ++ [x], rfl, k5, by simp [l4], fun j hj => ?_⟩
  simp only [List.length_append, List.length_cons, List.length_nil] at hj
  by_cases hjn : j < ns.length
  ·rw [List.getElem_append_left hjn]; exact n4 j hjn
  ·have : j = q := by omega
   subst this
   rw [List.getElem_append_right (by omega)]
   simp only [l4, Nat.sub_self, List.getElem_cons_zero]
   exact gx
 ·obtain ⟨s4, ns, rfl, k4, l4, n4⟩ := hz
  have hL : LayG N a ns := ⟨l4, by omega, by omega, by omega, n4⟩
  simp only [sh8_L15]
  rw [if_neg (by simp)]
  have fin : ∀ (s5 : Sr) (us : List Nd), SrOk s5 → LayG N a us → ∃ N gate ns ds s', sh8_K4 (s5, (), (), [], [], us, [], ()) = some ((ns, ds, ()), s', ()) ∧ SrOk s' ∧ LayG N gate ns ∧ DevG ns ds := by
   intro s5 us k5 hu
   obtain ⟨ds, s6, hd, k6, dd⟩ := e24 k5 us [] (by have := hu.len; have := hu.N11; omega) (fun x hx => by have := lay_len hu x hx; omega)
   simp only [sh8_K4]
   rw [hd, Option.bind_some]
   exact ⟨N, a, us, ds, s6, rfl, k6, hu, dd⟩
  simp only [sh8_K3, joinK]
  obtain ⟨v, s5, hv, v1, v2, k5⟩ := e18 k4 4 (by decide) (by decide)
  rw [hv, Option.bind_some]
  simp only
  by_cases h0 : 0 < v
  ·rw [if_pos (decide_eq_true h0)]
   exact loop9 sh8_K4 (fun o => ∃ N gate ns ds s', o = some ((ns, ds, ()), s', ()) ∧ SrOk s' ∧ LayG N gate ns ∧ DevG ns ds) s5 [] [] [] ns hL fun us hu => fin s5 us k5 hu
  ·rw [if_neg (by simpa using h0)]
   exact fin s5 ns k5 hL
theorem e91 (c : Int) : sp91 (c, ()) = some (decide (65 ≤ c) && decide (c ≤ 90), ()) := by
 show sh91 0 c = _
 unfold sh91; simp only [joinK, sh91_K0]; split <;> (try simp_all) <;> omega
theorem e79 (i : Nat) (hi : i ≤ 20) : sp79 ([UInt8.ofNat (65 + i)], 12, ()) = some (true, ()) := by
 have hc : (UInt8.ofNat (65 + i)).toNat = 65 + i := by rw [UInt8.toNat_ofNat']; omega
 have hs : sAt [UInt8.ofNat (65 + i)] 0 = ((65 + i : Nat) : Int) := by show (((UInt8.ofNat (65 + i)).toNat : Nat) : Int) = _; rw [hc]
 have h86 : sp91 (((65 + i : Nat) : Int), ()) = some (true, ()) := by
  rw [e91, decide_eq_true (by omega), decide_eq_true (by omega)]; rfl
 show sh79 100000 [UInt8.ofNat (65 + i)] 12 = _
 unfold sh79
 simp only [joinK]
 rw [if_pos (by simp), if_pos (by simp), if_pos (by simp [inR]), hs, h86, Option.bind_some]
 simp only
 rw [if_pos trivial, show (100000 : Nat) = 99998 + 1 + 1 from rfl, iter_succ]
 simp only [sh79_L5, joinK]
 rw [if_pos (by simp), if_pos (by simp [inR]), hs, h86, Option.bind_some]
 simp only
 rw [if_pos trivial]
 simp only [sh79_K6]
 rw [if_neg (by decide), iter_succ]
 simp only [sh79_L5]
 rw [if_neg (by rw [wrapI (by decide) (by decide)]; simp)]
 rfl
theorem e48 (k : Int) : sp48 (k, ()) = some (decide (1 ≤ k) && decide (k ≤ 6), ()) := by
 show sh48 0 k = _
 unfold sh48; simp only [joinK, sh48_K0]; split <;> (try simp_all) <;> omega
theorem e80 {N gate i : Nat} {x : Nd} (h : NodeG N gate i x) : sp80 (x, ()) = some (true, ()) := by
 have h1 := h.kind1
 show sh80 0 x = _
 unfold sh80
 rw [e48, Option.bind_some, decide_eq_true h1, Bool.true_and]
 by_cases h6 : x.2.1 ≤ 6
 ·have h7 := h.len1 h6
  rw [decide_eq_true h6, if_neg (by decide)]
  simp only [joinK, sh80_K1, sh80_K3]
  by_cases h5 : x.2.1 = 5
  ·have := h.len5 h5
   rw [if_pos (by simpa using h5), if_pos (by simpa using this), decide_eq_true (by omega)]
  ·rw [if_neg (by simpa using h5), if_pos (decide_eq_true (by omega)), decide_eq_true (by omega)]
 ·rw [decide_eq_false h6, if_pos (by decide), h.len7 (by omega)]; rfl
theorem e95 (k : Int) : sp95 (k, ()) = some ((exitsN k : Int), ()) := by
 show sh95 0 k = _
 unfold sh95 exitsN
 simp only [joinK, sh95_K0, sh95_K1]
 by_cases h8 : k = 8
 ·subst h8; rfl
 by_cases h9 : k = 9
 ·subst h9; rfl
 rw [if_neg (by simpa using h8), show (k == 9) = false by simpa using h9, if_neg (by decide), if_neg (show ¬ (k = 8 ∨ k = 9) by omega)]
 by_cases h4 : k = 4
 ·subst h4; rfl
 by_cases h5 : k = 5
 ·subst h5; rfl
 by_cases h6 : k = 6
 ·subst h6; rfl
 rw [if_neg (by simpa using h4), if_neg (by simpa using h5), show (k == 6) = false by simpa using h6, if_neg (by decide), if_neg (show ¬ (k = 4 ∨ k = 5 ∨ k = 6) by omega)]
 rfl
theorem e66 (l : IL) (x : Int) (hl : l.length ≤ 90000) (h : ∀ y ∈ l, y.1 ≠ x) : sp66 (l, x, ()) = some (false, ()) := by
 have : sp85 (l, x, ()) = some (-1, ()) := by
  show sh85 100000 l x = _
  unfold sh85
  simp only [joinK]
  refine iter_count (F := sh85_L2 sh85_K0) (fun k : Nat => (l, x, (l.length : Int), (k : Int), ())) l.length 100000 (by omega) (fun rc k hk => ?_) (fun rc => ?_)
  ·simp only [sh85_L2]
   have := h l[k] (List.getElem_mem hk)
   rw [if_pos (by simpa using hk), if_pos (inR_nat hk), lAt_nat _ _ _ hk, if_neg (by simpa using fun e => this e.symm), up1' hk]
  ·simp only [sh85_L2]
   rw [if_neg (by simp)]; rfl
 show sh66 0 l x = _
 unfold sh66
 rw [this]; rfl
theorem lat_node {N gate : Nat} {ns : List Nd} (h : LayG N gate ns) {i : Nat} (hi : i < N) : lAt ([], 0, 0, 0, [], ()) ns (i : Int) = ns[i]'(by rw [h.len]; exact hi) := lAt_nat _ _ _ (by rw [h.len]; exact hi)
theorem e81 {N gate : Nat} {ns : List Nd} {ds : List Dv} (h : LayG N gate ns) {i : Nat} (hi : i < N) : sp81 ((ns, ds, ()), (i : Int), ()) = some (true, ()) := by
 have hl := h.len
 have hil : i < ns.length := by omega
 have hn := h.node i hil
 have h11 := h.N11
 generalize hx : ns[i] = x at hn
 have hlat : lAt ([], 0, 0, 0, [], ()) ns (i : Int) = x := by rw [lat_node h hi, hx]
 have hct : x.2.2.2.2.1.length ≤ 2 := by rw [hn.cnt]; unfold exitsN; split; exact Nat.zero_le _; split <;> decide
 show sh81 100000 (ns, ds, ()) (i : Int) = _
 unfold sh81
 simp only
 rw [if_pos (inR_nat hil), hlat, e95, Option.bind_some]
 simp only
 rw [if_neg (by simp [hn.cnt])]
 simp only [joinK]
 refine iter_count (F := sh81_L3 sh81_K1) (fun k : Nat => ((i : Int), x.2.2.2.2.1, (x.2.2.2.2.1.length : Int), (k : Int), (ns, ds, ()), x, ())) x.2.2.2.2.1.length 100000 (by omega) (fun rc k hk => ?_) (fun rc => ?_)
 ·have he := hn.ex k hk
  have own : ∀ b : Bool, b = (decide (x.2.1 = 5) && decide (k = 0)) → sh81_K4 rc ((i : Int), (k : Int), (x.2.2.2.2.1[k]).1, b, x.2.2.2.2.1, (x.2.2.2.2.1.length : Int), (k : Int), (ns, ds, ()), x, ()) = rc ((i : Int), x.2.2.2.2.1, (x.2.2.2.2.1.length : Int), ((k + 1 : Nat) : Int), (ns, ds, ()), x, ()) := by
   intro b hb
   have fact : 0 ≤ (x.2.2.2.2.1[k]).1 ∧ (x.2.2.2.2.1[k]).1 < N ∧ ((x.2.2.2.2.1[k]).1 == (i : Int)) = b := by
    unfold ExitG at he
    by_cases hc : x.2.1 = 5 ∧ k = 0
    ·rw [if_pos hc] at he
     refine ⟨by omega, by omega, ?_⟩
     rw [hb, he, decide_eq_true hc.1, decide_eq_true hc.2]; simp
    ·rw [if_neg hc] at he
     refine ⟨by omega, he.2.1, ?_⟩
     have hb' : b = false := by rw [hb]; simp only [Bool.and_eq_false_iff, decide_eq_false_iff_not]; omega
     rw [hb']; simp; omega
   obtain ⟨f1, f2, f3⟩ := fact
   have f4 : (x.2.2.2.2.1.take k).any (fun y => y.1 == (x.2.2.2.2.1[k]).1) = false := List.any_eq_false.2 fun y hy => by
    obtain ⟨j, hj, rfl⟩ := List.getElem_of_mem hy
    rw [List.length_take] at hj
    have := (List.pairwise_iff_getElem.1 hn.nd) j k (by omega) hk (by omega)
    simp only [List.getElem_take, beq_iff_eq]
    exact fun e => this (Prod.ext e rfl)
   have hcut : cutL x.2.2.2.2.1 0 (k : Int) = x.2.2.2.2.1.take k := by simp [cutL]
   have hc0 : inCut 0 (k : Int) x.2.2.2.2.1.length = true := inCut_nat (a := 0) (Nat.zero_le _) (Nat.le_of_lt hk)
   simp only [sh81_K4, joinK]
   rw [if_neg (by simp only [decide_eq_true_eq]; omega), if_neg (by simp only [decide_eq_true_eq, hl]; omega), f3, if_neg (by cases b <;> decide)]
   rw [if_pos hc0, hcut, e66 _ _ (by rw [List.length_take]; omega) (fun y hy => by have := List.any_eq_false.1 f4 y hy; simpa using this), Option.bind_some]
   simp only [sh81_K5]
   rw [if_neg (by decide), up1' hk]
  simp only [sh81_L3, joinK]
  rw [if_pos (by simpa using hk), if_pos (inR_nat hk), lAt_nat _ _ _ hk]
  by_cases h5 : x.2.1 = 5
  ·rw [if_pos (by simpa using h5)]
   refine own _ ?_
   rw [decide_eq_true h5, Bool.true_and, Bool.eq_iff_iff]
   simp
  ·rw [if_neg (by simpa using h5)]
   refine own _ ?_
   rw [decide_eq_false h5]; rfl
 ·simp only [sh81_L3]
  rw [if_neg (by simp)]; rfl
theorem e57 {N gate : Nat} {ns : List Nd} {ds : List Dv} (h : LayG N gate ns) {i : Nat} (hi : i < N) : sp57 ((ns, ds, ()), (i : Int), ()) = some (0, ()) := by
 have hl := h.len
 have hil : i < ns.length := by omega
 have hn := h.node i hil
 have h11 := h.N11
 have h82 := e81 (ds := ds) h hi
 generalize hx : ns[i] = x at hn
 have hlat : lAt ([], 0, 0, 0, [], ()) ns (i : Int) = x := by rw [lat_node h hi, hx]
 have k1 := hn.kind1
 have k9 := hn.kind9
 show sh57 0 (ns, ds, ()) (i : Int) = _
 unfold sh57
 simp only
 rw [if_pos (inR_nat hil), hlat, hn.name, e79 i (by omega), Option.bind_some]
 simp only [joinK]
 rw [if_neg (by decide), if_neg (by simp only [decide_eq_true_eq]; omega), decide_eq_false (show ¬ 9 < x.2.1 by omega)]
 simp only [sh57_K1, joinK]
 rw [if_neg (by decide), e80 hn, Option.bind_some]
 simp only
 rw [if_neg (by decide), h82, Option.bind_some]
 have hz : x.2.2.2.1 = 0 ∨ x.2.2.2.1 = 1 := by rw [hn.zone]; unfold zoneOf; split <;> simp
 simp only [sh57_K2]
 rcases hz with hz | hz
 ·rw [hz, if_neg (by decide), if_neg (by decide)]
 ·rw [hz, if_pos (by decide), if_neg (by decide), if_neg (by decide)]
theorem e58 {N gate : Nat} {ns : List Nd} {ds : List Dv} (h : LayG N gate ns) : ∃ t : Int, sp58 ((ns, ds, ()), ()) = some (t, ()) ∧ t ≤ 80 := by
 have hl := h.len
 have h11 := h.N11
 show ∃ t : Int, sh58 100000 (ns, ds, ()) = some (t, ()) ∧ _
 unfold sh58
 simp only [joinK]
 refine iter_post (F := sh58_L2 sh58_K0) (fun k z => ∃ t : Int, z = (t, ns, (ns.length : Int), (k : Int), ()) ∧ 0 ≤ t ∧ t ≤ 4 * k) (fun o => ∃ t : Int, o = some (t, ()) ∧ t ≤ 80) ns.length 100000 (by omega) ⟨0, rfl, by omega, by omega⟩ (fun rc k z hk hz => ?_) (fun rc z hz => ?_)
 ·obtain ⟨t, rfl, t1, t2⟩ := hz
  have := lay_len h ns[k] (List.getElem_mem hk)
  simp only [sh58_L2]
  rw [if_pos (by simpa using hk), if_pos (inR_nat hk), lAt_nat _ _ _ hk, up1' hk, wrapI (by omega) (by omega)]
  exact ⟨_, rfl, t + ns[k].2.2.1, rfl, by omega, by omega⟩
 ·obtain ⟨t, rfl, t1, t2⟩ := hz
  simp only [sh58_L2]
  rw [if_neg (by simp)]
  exact ⟨t, rfl, by omega⟩
theorem name_inj {i j : Nat} (hi : i ≤ 20) (hj : j ≤ 20) (h : ([UInt8.ofNat (65 + i)] == [UInt8.ofNat (65 + j)]) = true) : i = j := by
 simp only [beq_iff_eq, List.cons.injEq, and_true] at h
 have := congrArg UInt8.toNat h
 rw [UInt8.toNat_ofNat', UInt8.toNat_ofNat'] at this
 omega
theorem e82 {N gate : Nat} {ns : List Nd} {ds : List Dv} (h : LayG N gate ns) {i : Nat} (hi : i < N) : sp82 ((ns, ds, ()), [UInt8.ofNat (65 + i)], ()) = some ((i : Int), ()) := by
 have hl := h.len
 have h11 := h.N11
 show sh82 100000 (ns, ds, ()) [UInt8.ofNat (65 + i)] = _
 unfold sh82
 simp only [joinK]
 refine iter_count (F := sh82_L4 sh82_K0 (sh82_K2 sh82_K0)) (fun k : Nat => (ns, (ns.length : Int), (k : Int), ([UInt8.ofNat (65 + i)], ()), ())) i 100000 (by omega) (fun rc k hk => ?_) (fun rc => ?_)
 ·have hk' : k < ns.length := by omega
  simp only [sh82_L4]
  rw [if_pos (by simpa using hk'), if_pos (inR_nat hk'), lAt_nat _ _ _ hk', (h.node k hk').name, if_neg (fun e => by have := name_inj (by omega) (by omega) e; omega), up1' hk']
 ·have hi' : i < ns.length := by omega
  simp only [sh82_L4]
  rw [if_pos (by simpa using hi'), if_pos (inR_nat hi'), lAt_nat _ _ _ hi', (h.node i hi').name, if_pos (by simp)]
  rfl
theorem e59 {N gate : Nat} {ns : List Nd} {ds : List Dv} (h : LayG N gate ns) : sp59 ((ns, ds, ()), ()) = some (true, ()) := by
 have hl := h.len
 have h11 := h.N11
 show sh59 100000 (ns, ds, ()) = _
 unfold sh59
 simp only [joinK]
 refine iter_count (F := sh59_L2 sh59_K0) (fun k : Nat => (ns, (ns.length : Int), (k : Int), (ns, ds, ()), ())) ns.length 100000 (by omega) (fun rc k hk => ?_) (fun rc => ?_)
 ·simp only [sh59_L2]
  rw [if_pos (by simpa using hk), if_pos (inR_nat hk), lAt_nat _ _ _ hk, (h.node k hk).name, e82 h (by omega), Option.bind_some]
  simp only
  rw [if_neg (by simp), up1' hk]
 ·simp only [sh59_L2]
  rw [if_neg (by simp)]; rfl
theorem exit_to {N gate : Nat} {ns : List Nd} (h : LayG N gate ns) {i : Nat} (hi : i < ns.length) (k : Nat) (hk : k < ns[i].2.2.2.2.1.length) :
  ∃ (e : Nat) (he : e < ns.length), (ns[i].2.2.2.2.1[k]).1 = (e : Int) ∧ ns[e].2.1 ≠ 1 ∧ ns[e].2.2.2.1 = (if ns[i].2.1 = 6 ∧ k = 1 then 1 else ns[i].2.2.2.1) := by
 have hn := h.node i hi
 have hl := h.len
 have he := hn.ex k hk
 unfold ExitG at he
 by_cases hc : ns[i].2.1 = 5 ∧ k = 0
 ·rw [if_pos hc] at he
  refine ⟨i, hi, he, by omega, ?_⟩
  rw [if_neg (by omega)]
 ·rw [if_neg hc] at he
  obtain ⟨a1, a2, a3⟩ := he
  refine ⟨((ns[i].2.2.2.2.1[k]).1).toNat, by omega, by omega, fun e => ?_, ?_⟩
  ·have := (h.node _ (by omega)).entry.1 e
   omega
  ·rw [(h.node _ (by omega)).zone, hn.zone, show ((((ns[i].2.2.2.2.1[k]).1).toNat : Nat) : Int) = (ns[i].2.2.2.2.1[k]).1 by omega]
   exact a3
theorem e60 {N gate : Nat} {ns : List Nd} {ds : List Dv} (h : LayG N gate ns) {i : Nat} (hi : i < N) : sp60 ((ns, ds, ()), (i : Int), ()) = some (true, ()) := by
 have hl := h.len
 have hil : i < ns.length := by omega
 have hn := h.node i hil
 have h11 := h.N11
 have hex := exit_to h hil
 have hz := hn.zone
 generalize hx : ns[i] = x at hn hex hz
 have hlat : lAt ([], 0, 0, 0, [], ()) ns (i : Int) = x := by rw [lat_node h hi, hx]
 have hct : x.2.2.2.2.1.length ≤ 2 := by rw [hn.cnt]; unfold exitsN; split; exact Nat.zero_le _; split <;> decide
 have main : sh60_K0 100000 ((ns, ds, ()), x, ()) = some (true, ()) := by
  simp only [sh60_K0, joinK]
  refine iter_count (F := sh60_L3 sh60_K1) (fun k : Nat => (x.2.2.2.2.1, (x.2.2.2.2.1.length : Int), (k : Int), (ns, ds, ()), x, ())) x.2.2.2.2.1.length 100000 (by omega) (fun rc k hk => ?_) (fun rc => ?_)
  ·obtain ⟨e, he, e1, e2, e3⟩ := hex k hk
   have fin : ∀ want : Int, want = (if x.2.1 = 6 ∧ k = 1 then 1 else x.2.2.2.1) → sh60_K4 rc ((x.2.2.2.2.1[k]).1, want, x.2.2.2.2.1, (x.2.2.2.2.1.length : Int), (k : Int), (ns, ds, ()), x, ()) = rc (x.2.2.2.2.1, (x.2.2.2.2.1.length : Int), ((k + 1 : Nat) : Int), (ns, ds, ()), x, ()) := by
    intro want hw
    simp only [sh60_K4, joinK]
    rw [e1, if_pos (inR_nat he), lAt_nat _ _ _ he, if_neg (by simpa using e2), if_pos (inR_nat he), e3, ← hw]
    simp only [sh60_K5]
    rw [if_neg (by simp), up1' hk]
   simp only [sh60_L3, joinK]
   rw [if_pos (by simpa using hk), if_pos (inR_nat hk), lAt_nat _ _ _ hk]
   simp only [sh60_K8]
   by_cases h6 : x.2.1 = 6
   ·rw [if_pos (by simpa using h6)]
    by_cases hk1 : k = 1
    ·subst hk1
     rw [if_pos (by simp)]
     exact fin 1 (by rw [if_pos ⟨h6, rfl⟩])
    ·rw [if_neg (by simp; omega)]
     exact fin _ (by rw [if_neg (fun e => hk1 e.2)])
   ·rw [if_neg (by simpa using h6), if_neg (by decide)]
    exact fin _ (by rw [if_neg (fun e => h6 e.1)])
  ·simp only [sh60_L3]
   rw [if_neg (by simp)]; rfl
 show sh60 100000 (ns, ds, ()) (i : Int) = _
 unfold sh60
 simp only
 rw [if_pos (inR_nat hil), hlat]
 simp only [joinK]
 have k11 : ∀ b : Bool, (b = true → x.2.1 = 1 ∨ x.2.1 = 3 ∨ x.2.1 = 6) → sh60_K11 (sh60_K0 100000) (x.2.1, b, (ns, ds, ()), x, ()) = some (true, ()) := by
  intro b hb
  simp only [sh60_K11, joinK]
  cases b with
  | true =>
   have := hn.zk0 (hb rfl)
   rw [if_pos rfl, hz, this, if_neg (by decide)]
   exact main
  | false =>
   rw [if_neg (by decide)]
   have k12 : ∀ b : Bool, (b = true → x.2.1 = 7 ∨ x.2.1 = 8) → sh60_K12 (sh60_K0 100000) (b, (ns, ds, ()), x, ()) = some (true, ()) := by
    intro b hb
    simp only [sh60_K12]
    cases b with
    | true =>
     have := hn.zk1 (hb rfl)
     rw [if_pos rfl, hz, this, if_neg (by decide)]
     exact main
    | false => rw [if_neg (by decide)]; exact main
   by_cases h7 : x.2.1 = 7
   ·rw [if_pos (by simpa using h7)]; exact k12 _ fun _ => .inl h7
   ·rw [if_neg (by simpa using h7)]; exact k12 _ fun h => .inr (by simpa using h)
 by_cases h1 : x.2.1 = 1
 ·rw [if_pos (by simpa using h1)]; exact k11 _ fun _ => .inl h1
 ·rw [if_neg (by simpa using h1)]
  by_cases h3 : x.2.1 = 3
  ·rw [if_pos (by simpa using h3)]; exact k11 _ fun _ => .inr (.inl h3)
  ·rw [if_neg (by simpa using h3)]; exact k11 _ fun h => .inr (.inr (by simpa using h))
theorem mget_set (l : List (Int × Int)) (n v m : Int) : mGet (mSet l n v) m = if n = m then v else mGet l m := by
 induction l with
 | nil =>
  simp only [mSet, mGet]
  by_cases h : n = m
  ·rw [if_pos h, if_pos (by simpa using h)]
  ·rw [if_neg h, if_neg (by simpa using h)]
 | cons p r ih =>
  obtain ⟨a, b⟩ := p
  by_cases ha : a = n
  ·subst ha
   simp only [mSet, beq_self_eq_true, if_true, mGet]
   by_cases h : a = m
   ·subst h; simp
   ·rw [if_neg h, if_neg (by simpa using h), if_neg (by simpa using h)]
  ·have h1 : (a == n) = false := by simpa using ha
   simp only [mSet, h1, Bool.false_eq_true, if_false, mGet]
   by_cases hm : a = m
   ·have h2 : (a == m) = true := by simpa using hm
    simp only [h2, if_true]
    rw [if_neg (by omega)]
   ·have h2 : (a == m) = false := by simpa using hm
    simp only [h2, Bool.false_eq_true, if_false]
    exact ih
def exN (ns : List Nd) (k : Nat) : IL := (ns.getD k ([], 0, 0, 0, [], ())).2.2.2.2.1
def ecN (ns : List Nd) (k i : Nat) : Nat := if k = i then 0 else (exN ns k).countP fun y => y.1 == (i : Int)
def remN (N : Nat) (out : List Nat) : List Nat := (List.range N).filter fun k => !out.contains k
def wN (ns : List Nd) (S : List Nat) (i : Nat) : Nat := (S.map fun k => ecN ns k i).sum
def nextN (ns : List Nd) (N : Nat) (out : List Nat) : Option Nat := (List.range N).find? fun i => !out.contains i && wN ns (remN N out) i == 0
def ordN (ns : List Nd) (N : Nat) : Nat → List Nat → List Nat
 | 0, out => out
 | n + 1, out => match nextN ns N out with
  | some i => ordN ns N n (out ++ [i])
  | none => out
def ilN (l : List Nat) : IL := l.map fun k : Nat => ((k : Int), ())
theorem wN_le {ns : List Nd} {c : Nat} (h : ∀ k i, ecN ns k i ≤ c) (S : List Nat) (i : Nat) : wN ns S i ≤ c * S.length := by
 induction S with
 | nil => simp [wN]
 | cons k r ih =>
  simp only [wN, List.map_cons, List.sum_cons, List.length_cons] at ih ⊢
  have := h k i
  rw [Nat.mul_succ]; omega
theorem wN_rem {ns : List Nd} {N : Nat} {out : List Nat} {x i : Nat} (hx : x < N) (ho : x ∉ out) : wN ns (remN N out) i = ecN ns x i + wN ns (remN N (out ++ [x])) i := by
 have key : ∀ l : List Nat, l.Nodup → x ∈ l → ((l.filter fun k => !out.contains k).map fun k => ecN ns k i).sum = ecN ns x i + ((l.filter fun k => !(out ++ [x]).contains k).map fun k => ecN ns k i).sum := by
  intro l
  induction l with
  | nil => intro _ h; cases h
  | cons a r ih =>
   intro hn hm
   obtain ⟨hn1, hn2⟩ := List.nodup_cons.1 hn
   by_cases hax : a = x
   ·subst hax
    have e1 : (r.filter fun k => !(out ++ [a]).contains k) = r.filter fun k => !out.contains k := List.filter_congr fun k hk => by
     have : k ≠ a := fun e => hn1 (e ▸ hk)
     simp [this]
    rw [List.filter_cons_of_pos (by simpa using ho), List.filter_cons_of_neg (by simp), e1]
    simp
   ·have hm' : x ∈ r := by
     rcases List.mem_cons.1 hm with h | h
     ·exact absurd h.symm hax
     ·exact h
    have ih := ih hn2 hm'
    by_cases hao : a ∈ out
    ·rw [List.filter_cons_of_neg (by simpa using hao), List.filter_cons_of_neg (by simp [hao])]; exact ih
    ·rw [List.filter_cons_of_pos (by simpa using hao), List.filter_cons_of_pos (by simp [hao, hax])]
     simp only [List.map_cons, List.sum_cons]
     rw [ih]; omega
 exact key _ List.nodup_range (List.mem_range.2 hx)
theorem find_range {N : Nat} {p : Nat → Bool} {x : Nat} (h : (List.range N).find? p = some x) : x < N ∧ p x = true ∧ ∀ j < x, p j = false := by
 rw [List.find?_range_eq_some] at h
 obtain ⟨h1, h2, h3⟩ := h
 exact ⟨List.mem_range.1 h2, h1, fun j hj => by simpa using h3 j hj⟩
theorem exN_lay {N gate : Nat} {ns : List Nd} (h : LayG N gate ns) {k : Nat} (hk : k < ns.length) : exN ns k = ns[k].2.2.2.2.1 := by
 unfold exN
 rw [List.getD, List.getElem?_eq_getElem hk]; rfl
theorem exN_len {N gate : Nat} {ns : List Nd} (h : LayG N gate ns) (k : Nat) : (exN ns k).length ≤ 2 := by
 by_cases hk : k < ns.length
 ·rw [exN_lay h hk, (h.node k hk).cnt]; unfold exitsN; split; exact Nat.zero_le _; split <;> decide
 ·unfold exN
  rw [List.getD, List.getElem?_eq_none (by omega)]; exact Nat.zero_le _
theorem ecN_le {N gate : Nat} {ns : List Nd} (h : LayG N gate ns) (k i : Nat) : ecN ns k i ≤ 2 := by
 unfold ecN
 split
 ·exact Nat.zero_le _
 ·exact Nat.le_trans List.countP_le_length (exN_len h k)
theorem ecN_lt {N gate : Nat} {ns : List Nd} (h : LayG N gate ns) {k i : Nat} (hk : k < N) (hi : i ≤ k) : ecN ns k i = 0 := by
 unfold ecN
 by_cases e : k = i
 ·rw [if_pos e]
 ·rw [if_neg e, exN_lay h (by rw [h.len]; exact hk), List.countP_eq_zero]
  intro y hy
  obtain ⟨q, hq, rfl⟩ := List.getElem_of_mem hy
  have := (h.node k (by rw [h.len]; exact hk)).ex q hq
  unfold ExitG at this
  simp only [beq_iff_eq]
  split at this <;> omega
theorem len_sub : ∀ (l out : List Nat), l.Nodup → (∀ k ∈ l, k ∈ out) → l.length ≤ out.length
 | [], out, _, _ => Nat.zero_le _
 | a :: r, out, hn, hs => by
  obtain ⟨h1, h2⟩ := List.nodup_cons.1 hn
  have ha := hs a (List.mem_cons_self ..)
  have := len_sub r (out.erase a) h2 fun k hk => (List.mem_erase_of_ne (fun e : k = a => h1 (by rw [← e]; exact hk))).2 (hs k (List.mem_cons_of_mem _ hk))
  rw [List.length_erase_of_mem ha] at this
  have := List.length_pos_of_mem ha
  simp only [List.length_cons]; omega
theorem sum_zero : ∀ l : List Nat, (∀ v ∈ l, v = 0) → l.sum = 0
 | [], _ => rfl
 | a :: r, h => by rw [List.sum_cons, h a (List.mem_cons_self ..), sum_zero r fun v hv => h v (List.mem_cons_of_mem _ hv)]
theorem next_ex {N gate : Nat} {ns : List Nd} (h : LayG N gate ns) {out : List Nat} (hl : out.length < N) (hr : ∀ k ∈ out, k < N) (hn : out.Nodup) : ∃ x, nextN ns N out = some x := by
 have hmiss : ∃ x, (List.range N).find? (fun i => !out.contains i) = some x := by
  cases hf : (List.range N).find? (fun i => !out.contains i) with
  | some x => exact ⟨x, rfl⟩
  | none =>
   rw [List.find?_eq_none] at hf
   have := len_sub (List.range N) out List.nodup_range fun k hk => by have := hf k hk; simpa using this
   rw [List.length_range] at this
   omega
 obtain ⟨x, hx⟩ := hmiss
 obtain ⟨x1, x2, x3⟩ := find_range hx
 cases hf : nextN ns N out with
 | some y => exact ⟨y, rfl⟩
 | none =>
  unfold nextN at hf
  rw [List.find?_eq_none] at hf
  have := hf x (List.mem_range.2 x1)
  exfalso
  apply this
  rw [x2, Bool.true_and, beq_iff_eq]
  unfold wN
  refine sum_zero _ fun v hv => ?_
  obtain ⟨k, hk, rfl⟩ := List.mem_map.1 hv
  unfold remN at hk
  rw [List.mem_filter] at hk
  have hkN := List.mem_range.1 hk.1
  have hkx : x ≤ k := Nat.le_of_not_lt fun hlt => by
   have := x3 k hlt
   simp only [Bool.not_eq_false'] at this
   rw [this] at hk
   exact absurd hk.2 (by decide)
  exact ecN_lt h hkN hkx
theorem next_spec {ns : List Nd} {N : Nat} {out : List Nat} {x : Nat} (h : nextN ns N out = some x) : x < N ∧ x ∉ out ∧ wN ns (remN N out) x = 0 ∧ ∀ j < x, j ∈ out ∨ wN ns (remN N out) j ≠ 0 := by
 obtain ⟨h1, h2, h3⟩ := find_range h
 simp only [Bool.and_eq_true, Bool.not_eq_true', beq_iff_eq] at h2
 refine ⟨h1, by simpa using h2.1, h2.2, fun j hj => ?_⟩
 have := h3 j hj
 simp only [Bool.and_eq_false_iff, Bool.not_eq_false', beq_eq_false_iff_ne] at this
 rcases this with h | h
 ·exact .inl (by simpa using h)
 ·exact .inr h
abbrev WM := List (Int × Int)
def ecQ (ns : List Nd) (k q i : Nat) : Nat := if k = i then 0 else ((exN ns k).take q).countP fun y => y.1 == (i : Int)
theorem ecQ_all {ns : List Nd} {k i q : Nat} (h : (exN ns k).length ≤ q) : ecQ ns k q i = ecN ns k i := by
 unfold ecQ ecN; rw [List.take_of_length_le h]
theorem ecQ_succ {ns : List Nd} {k q i : Nat} (h : q < (exN ns k).length) : ecQ ns k (q + 1) i = ecQ ns k q i + (if k ≠ i ∧ ((exN ns k)[q]).1 = (i : Int) then 1 else 0) := by
 unfold ecQ
 by_cases e : k = i
 ·rw [if_pos e, if_pos e, if_neg (by simp [e])]
 ·rw [if_neg e, if_neg e, List.take_add_one, List.getElem?_eq_getElem h, List.countP_append]
  congr 1
  simp only [Option.toList, List.countP_cons, List.countP_nil, Nat.zero_add, beq_iff_eq]
  simp only [ne_eq, e, not_false_eq_true, true_and]
theorem wN_range (ns : List Nd) (m i : Nat) : wN ns (List.range (m + 1)) i = wN ns (List.range m) i + ecN ns m i := by
 simp only [wN, List.range_succ, List.map_append, List.sum_append, List.map_cons, List.map_nil, List.sum_cons, List.sum_nil, Nat.add_zero]
section
variable {N gate : Nat} {ns : List Nd} {ds : List Dv}
theorem ex_node (h : LayG N gate ns) {k q : Nat} (hk : k < N) (hq : q < (exN ns k).length) : ∃ e : Nat, e < N ∧ ((exN ns k)[q]).1 = (e : Int) := by
 have hkl : k < ns.length := by rw [h.len]; exact hk
 have hx := exN_lay h hkl
 have hq' : q < ns[k].2.2.2.2.1.length := by rw [hx] at hq; exact hq
 obtain ⟨e, he, h1, _⟩ := exit_to h hkl q hq'
 refine ⟨e, by rw [h.len] at he; exact he, ?_⟩
 rw [← h1]; congr 1; exact List.getElem_of_eq hx hq
theorem wb (h : LayG N gate ns) {S : List Nat} (hS : S.length ≤ 11) (i : Nat) : wN ns S i ≤ 22 := by
 have := wN_le (c := 2) (fun k i => ecN_le h k i) S i
 omega
theorem loop15 (h : LayG N gate ns) (j14) {R : Option (IL × Unit)} (hj : ∀ w : WM, (∀ i : Nat, mGet w (i : Int) = ((wN ns (List.range N) i : Nat) : Int)) → j14 ((ns, ds, ()), w, ()) = R) :
  iter 100000 (sh61_L15 100000 j14) (ns, (ns.length : Int), 0, (ns, ds, ()), [], ()) = R := by
 have hl := h.len
 have h11 := h.N11
 refine iter_post (F := sh61_L15 100000 j14) (fun k z => ∃ w : WM, z = (ns, (ns.length : Int), (k : Int), (ns, ds, ()), w, ()) ∧ ∀ i : Nat, mGet w (i : Int) = ((wN ns (List.range k) i : Nat) : Int)) (fun o => o = R) ns.length 100000 (by omega)
  ⟨[], rfl, fun i => rfl⟩ (fun rc k z hk hz => ?_) (fun rc z hz => ?_)
 ·obtain ⟨w, rfl, hw⟩ := hz
  simp only [sh61_L15, joinK]
  rw [if_pos (by simpa using hk), if_pos (inR_nat hk), lAt_nat _ _ _ hk, ← exN_lay h hk]
  suffices hs : ∃ w' : WM, (iter 100000 (sh61_L18 (sh61_K16 rc)) ((k : Int), ns, (ns.length : Int), (k : Int), exN ns k, ((exN ns k).length : Int), 0, (ns, ds, ()), w, ()) = rc (ns, (ns.length : Int), ((k + 1 : Nat) : Int), (ns, ds, ()), w', ())) ∧ ∀ i : Nat, mGet w' (i : Int) = ((wN ns (List.range (k + 1)) i : Nat) : Int) by
   obtain ⟨w', e, hw'⟩ := hs
   exact ⟨_, e, w', rfl, hw'⟩
  have hl2 := exN_len h k
  have hb : ∀ i, wN ns (List.range k) i ≤ 100 := fun i => by have := wb h (S := List.range k) (by rw [List.length_range]; omega) i; omega
  refine iter_post (F := sh61_L18 (sh61_K16 rc)) (fun q z => ∃ w' : WM, z = ((k : Int), ns, (ns.length : Int), (k : Int), exN ns k, ((exN ns k).length : Int), (q : Int), (ns, ds, ()), w', ()) ∧ ∀ i : Nat, mGet w' (i : Int) = ((wN ns (List.range k) i + ecQ ns k q i : Nat) : Int))
   (fun o => ∃ w' : WM, o = rc (ns, (ns.length : Int), ((k + 1 : Nat) : Int), (ns, ds, ()), w', ()) ∧ ∀ i : Nat, mGet w' (i : Int) = ((wN ns (List.range (k + 1)) i : Nat) : Int)) (exN ns k).length 100000 (by have := exN_len h k; omega)
   ⟨w, rfl, fun i => by rw [hw]; simp [ecQ]⟩ (fun rc2 q z hq hz => ?_) (fun rc2 z hz => ?_)
  ·obtain ⟨w', rfl, hw'⟩ := hz
   obtain ⟨e, he, hex⟩ := ex_node h (by omega) hq
   simp only [sh61_L18, joinK, sh61_K19]
   rw [if_pos (by simpa using hq), if_pos (inR_nat hq), lAt_nat _ _ _ hq, hex, up1' hq]
   by_cases hek : e = k
   ·rw [if_neg (by simp [hek])]
    refine ⟨_, rfl, w', rfl, fun i => ?_⟩
    rw [hw', ecQ_succ hq, if_neg (by rw [hex, hek]; omega)]; simp
   ·rw [if_pos (by simpa using (by omega : (e : Int) ≠ k))]
    refine ⟨_, rfl, _, rfl, fun i => ?_⟩
    rw [mget_set, hw' e, ecQ_succ hq, hex]
    have hbe := hb e
    have hqe : ecQ ns k q e ≤ 2 := by
     unfold ecQ; split; exact Nat.zero_le _
     refine Nat.le_trans List.countP_le_length ?_
     rw [List.length_take]; have := exN_len h k; omega
    rw [wrapI (by omega) (by omega)]
    by_cases hei : e = i
    ·subst hei
     rw [if_pos rfl, if_pos ⟨fun e' => hek e'.symm, rfl⟩]; omega
    ·rw [if_neg (by omega), if_neg (by omega), hw' i]; simp
  ·obtain ⟨w', rfl, hw'⟩ := hz
   simp only [sh61_L18]
   rw [if_neg (by simp)]
   simp only [sh61_K16, up1' hk]
   exact ⟨w', rfl, fun i => by rw [hw', ecQ_all (Nat.le_refl _), wN_range]⟩
 ·obtain ⟨w, rfl, hw⟩ := hz
  simp only [sh61_L15]
  rw [if_neg (by simp)]
  exact hj w (by rw [← hl]; exact hw)
end
section
variable {N gate : Nat} {ns : List Nd} {ds : List Dv}
structure SInv (ns : List Nd) (N r : Nat) (out : List Nat) (w : WM) (done : List (Bool × Unit)) : Prop where
 len : out.length = r
 nd : out.Nodup
 lt : ∀ k ∈ out, k < N
 dl : done.length = N
 dn : ∀ i < N, (done.getD i (false, ())).1 = decide (i ∈ out)
 w : ∀ i : Nat, mGet w (i : Int) = ((wN ns (remN N out) i : Nat) : Int)
 ord : ordN ns N (N - r) out = ordN ns N N []
theorem rem_len (N : Nat) (out : List Nat) : (remN N out).length ≤ N := by
 unfold remN
 refine Nat.le_trans (List.length_filter_le _ _) ?_
 rw [List.length_range]; exact Nat.le_refl _
theorem loop7 (h : LayG N gate ns) (j5) (Post : Option (IL × Unit) → Prop) (x : Nat) (hx : x < N) (r : Nat) (out : List Nat) (ho : x ∉ out) (il : IL) (done : List (Bool × Unit)) (w : WM) (hw : ∀ i : Nat, mGet w (i : Int) = ((wN ns (remN N out) i : Nat) : Int))
  (hj : ∀ w' : WM, (∀ i : Nat, mGet w' (i : Int) = ((wN ns (remN N (out ++ [x])) i : Nat) : Int)) → Post (j5 ((ns.length : Int), (r : Int), (ns, ds, ()), w', il, done, ()))) :
  Post (iter 100000 (sh61_L7 j5) ((x : Int), (ns.length : Int), (r : Int), exN ns x, ((exN ns x).length : Int), 0, (ns, ds, ()), w, il, done, ())) := by
 have hl2 := exN_len h x
 have h11 := h.N11
 have hrem : ∀ i, wN ns (remN N out) i = ecN ns x i + wN ns (remN N (out ++ [x])) i := fun i => wN_rem hx ho
 have hb : ∀ i, wN ns (remN N out) i ≤ 22 := fun i => wb h (by have := rem_len N out; omega) i
 have hqle : ∀ q i, ecQ ns x q i ≤ ecN ns x i := fun q i => by
  unfold ecQ ecN
  split
  ·exact Nat.le_refl _
  ·exact (List.take_sublist q _).countP_le
 refine iter_post (F := sh61_L7 j5) (fun q z => ∃ w' : WM, z = ((x : Int), (ns.length : Int), (r : Int), exN ns x, ((exN ns x).length : Int), (q : Int), (ns, ds, ()), w', il, done, ()) ∧ ∀ i : Nat, mGet w' (i : Int) = ((wN ns (remN N out) i : Nat) : Int) - ((ecQ ns x q i : Nat) : Int)) Post (exN ns x).length 100000 (by omega)
  ⟨w, rfl, fun i => by rw [hw]; simp [ecQ]⟩ (fun rc q z hq hz => ?_) (fun rc z hz => ?_)
 ·obtain ⟨w', rfl, hw'⟩ := hz
  obtain ⟨e, he, hex⟩ := ex_node h hx hq
  simp only [sh61_L7, joinK, sh61_K8]
  rw [if_pos (by simpa using hq), if_pos (inR_nat hq), lAt_nat _ _ _ hq, hex, up1' hq]
  by_cases hek : e = x
  ·rw [if_neg (by simp [hek])]
   refine ⟨_, rfl, w', rfl, fun i => ?_⟩
   rw [hw', ecQ_succ hq, if_neg (by rw [hex, hek]; omega)]; simp
  ·rw [if_pos (by simpa using (by omega : (e : Int) ≠ x))]
   refine ⟨_, rfl, _, rfl, fun i => ?_⟩
   rw [mget_set, hw' e, ecQ_succ hq, hex]
   have hbe := hb e
   have hqe := hqle q e
   have hce := ecN_le h x e
   rw [wrapI (by omega) (by omega)]
   by_cases hei : e = i
   ·subst hei
    rw [if_pos rfl, if_pos ⟨fun e' => hek e'.symm, rfl⟩]; omega
   ·rw [if_neg (by omega), if_neg (by omega), hw' i]; simp
 ·obtain ⟨w', rfl, hw'⟩ := hz
  simp only [sh61_L7]
  rw [if_neg (by simp)]
  refine hj w' fun i => ?_
  rw [hw', ecQ_all (Nat.le_refl _), hrem]; omega
theorem e61 (h : LayG N gate ns) : sp61 ((ns, ds, ()), ()) = some (ilN (ordN ns N N []), ()) ∧ (ordN ns N N []).length = N ∧ (ordN ns N N []).Nodup ∧ ∀ k ∈ ordN ns N N [], k < N := by
 have hl := h.len
 have h11 := h.N11
 suffices hs : ∃ out : List Nat, sp61 ((ns, ds, ()), ()) = some (ilN out, ()) ∧ out = ordN ns N N [] ∧ out.length = N ∧ out.Nodup ∧ ∀ k ∈ out, k < N by
  obtain ⟨out, a, rfl, b⟩ := hs
  exact ⟨a, b⟩
 show ∃ out : List Nat, sh61 100000 (ns, ds, ()) = some (ilN out, ()) ∧ _
 unfold sh61
 simp only [joinK]
 suffices hs : ∀ w : WM, (∀ i : Nat, mGet w (i : Int) = ((wN ns (List.range N) i : Nat) : Int)) → ∃ out : List Nat, sh61_K0 100000 ((ns, ds, ()), w, ()) = some (ilN out, ()) ∧ out = ordN ns N N [] ∧ out.length = N ∧ out.Nodup ∧ ∀ k ∈ out, k < N by
  have main := fun (w : WM) hw => hs w hw
  refine Classical.byContradiction fun hno => ?_
  have hR : ∀ w : WM, (∀ i : Nat, mGet w (i : Int) = ((wN ns (List.range N) i : Nat) : Int)) → sh61_K0 100000 ((ns, ds, ()), w, ()) = some (ilN (ordN ns N N []), ()) := fun w hw => by
   obtain ⟨out, a, rfl, _⟩ := main w hw; exact a
  have e := loop15 (ds := ds) h (sh61_K0 100000) (R := some (ilN (ordN ns N N []), ())) hR
  refine hno ⟨ordN ns N N [], e, rfl, ?_⟩
  obtain ⟨w, hw⟩ : ∃ w : WM, ∀ i : Nat, mGet w (i : Int) = ((wN ns (List.range N) i : Nat) : Int) := by
   refine Classical.byContradiction fun hn => ?_
   have e2 := loop15 (ds := ds) h (fun _ => none) (R := none) fun _ _ => rfl
   have e3 := loop15 (ds := ds) h (fun _ => none) (R := some (ilN [], ())) fun w hw => absurd ⟨w, hw⟩ hn
   rw [e2] at e3; cases e3
  obtain ⟨out, _, rfl, c⟩ := main w hw
  exact c
 intro w hw
 simp only [sh61_K0, joinK]
 have hlim : ((ns.length : Nat) : Int) ≤ (lim : Int) := by have : (lim : Int) = 140737488355328 := rfl; omega
 rw [if_pos (decide_eq_true (by omega)), if_pos (decide_eq_true (Int.le_refl _)), if_pos (decide_eq_true hlim), if_pos (decide_eq_true (show (1 : Int) * ((ns.length : Nat) : Int) ≤ (lim : Int) by omega))]
 have hrange : remN N [] = List.range N := by unfold remN; exact List.filter_eq_self.2 fun _ _ => rfl
 refine iter_post (F := sh61_L3 100000 sh61_K1) (fun r z => ∃ (out : List Nat) (w' : WM) (done : List (Bool × Unit)), z = ((ns.length : Int), (r : Int), (ns, ds, ()), w', ilN out, done, ()) ∧ SInv ns N r out w' done)
  (fun o => ∃ out : List Nat, o = some (ilN out, ()) ∧ out = ordN ns N N [] ∧ out.length = N ∧ out.Nodup ∧ ∀ k ∈ out, k < N) N 100000 (by omega)
  ⟨[], w, _, rfl, rfl, List.nodup_nil, by simp, by simp [hl], fun i hi => ?_, fun i => by rw [hw, hrange], rfl⟩ (fun rc r z hr hz => ?_) (fun rc z hz => ?_)
 ·simp only [Int.toNat_natCast]
  rw [List.getD, List.getElem?_replicate, if_pos (by omega)]; rfl
 ·obtain ⟨out, w', done, rfl, hI⟩ := hz
  obtain ⟨x, hx⟩ := next_ex h (by rw [hI.len]; exact hr) hI.lt hI.nd
  obtain ⟨x1, x2, x3, x4⟩ := next_spec hx
  have hxl : x < ns.length := by omega
  simp only [sh61_L3, joinK]
  rw [if_pos (by simp only [decide_eq_true_eq]; omega)]
  have hK : iter 100000 (sh61_L11 (sh61_K6 100000 sh61_K1 (sh61_K4 rc))) (-1, (ns.length : Int), (r : Int), (ns.length : Int), 0, (ns, ds, ()), w', ilN out, done, ()) = sh61_K6 100000 sh61_K1 (sh61_K4 rc) ((x : Int), (ns.length : Int), (r : Int), (ns, ds, ()), w', ilN out, done, ()) := by
   refine iter_count (F := sh61_L11 (sh61_K6 100000 sh61_K1 (sh61_K4 rc))) (fun i : Nat => ((-1 : Int), (ns.length : Int), (r : Int), (ns.length : Int), (i : Int), (ns, ds, ()), w', ilN out, done, ())) x 100000 (by omega) (fun rc2 i hi => ?_) (fun rc2 => ?_)
   ·have hil : i < ns.length := by omega
    simp only [sh61_L11, joinK]
    rw [if_pos (by simpa using hil), if_pos (inR_nat (by rw [hI.dl]; omega)), if_pos (decide_eq_true (by simp only [Int.toNat_natCast, hI.dl]; omega))]
    simp only [Int.toNat_natCast, hI.dn i (by omega)]
    simp only [sh61_K12]
    by_cases hio : i ∈ out
    ·rw [decide_eq_true hio, if_neg (by decide), if_neg (by decide), up1' hil]
    ·have hne : wN ns (remN N out) i ≠ 0 := (x4 i hi).resolve_left hio
     have hb : (mGet w' (i : Int) == 0) = false := by rw [hI.w]; simp; omega
     rw [decide_eq_false hio, if_pos (by decide), hb, if_neg (by decide), up1' hil]
   ·simp only [sh61_L11, joinK]
    rw [if_pos (by simpa using hxl), if_pos (inR_nat (by rw [hI.dl]; omega)), if_pos (decide_eq_true (by simp only [Int.toNat_natCast, hI.dl]; omega))]
    simp only [Int.toNat_natCast, hI.dn x (by omega)]
    simp only [sh61_K12]
    have hb : (mGet w' (x : Int) == 0) = true := by rw [hI.w, x3]; rfl
    rw [decide_eq_false x2, if_pos (by decide), hb, if_pos rfl]
  rw [hK]
  have hol : (ilN out).length = r := by rw [ilN, List.length_map, hI.len]
  simp only [sh61_K6]
  rw [if_neg (by simp), if_pos (inR_nat (by rw [hI.dl]; omega)), if_pos (decide_eq_true (by simp only [Int.toNat_natCast, hI.dl]; omega)), if_pos (dlim (by omega)), if_pos (dlim (by omega)), if_pos (inR_nat hxl), lAt_nat _ _ _ hxl, ← exN_lay h hxl]
  refine loop7 h (sh61_K4 rc) (fun o => ∃ z', o = rc z' ∧ ∃ (out : List Nat) (w' : WM) (done : List (Bool × Unit)), z' = ((ns.length : Int), ((r + 1 : Nat) : Int), (ns, ds, ()), w', ilN out, done, ()) ∧ SInv ns N (r + 1) out w' done) x x1 r out x2 _ _ w' hI.w fun w2 hw2 => ?_
  simp only [sh61_K4, up1' hr]
  refine ⟨_, rfl, out ++ [x], w2, _, by rw [show ilN out ++ [((x : Int), ())] = ilN (out ++ [x]) by simp [ilN]], ?_⟩
  refine ⟨by simp [hI.len], List.nodup_append.2 ⟨hI.nd, by simp, fun a ha b hb => by rw [List.mem_singleton.1 hb]; rintro rfl; exact x2 ha⟩, fun k hk => ?_, by rw [List.length_set]; exact hI.dl, fun i hi => ?_, hw2, ?_⟩
  ·rcases List.mem_append.1 hk with hk | hk
   ·exact hI.lt k hk
   ·rw [List.mem_singleton.1 hk]; exact x1
  ·simp only [Int.toNat_natCast]
   have hd := hI.dn i hi
   rw [List.getD, List.getElem?_set]
   by_cases hxi : x = i
   ·subst hxi
    rw [if_pos rfl, if_pos (by rw [hI.dl]; exact hi)]
    simp
   ·rw [if_neg hxi]
    rw [List.getD] at hd
    rw [hd]
    have : i ≠ x := fun e => hxi e.symm
    simp [this]
  ·have := hI.ord
   rw [show N - r = (N - (r + 1)) + 1 by omega] at this
   simp only [ordN, hx] at this
   exact this
 ·obtain ⟨out, w', done, rfl, hI⟩ := hz
  simp only [sh61_L3]
  rw [if_neg (by simp only [decide_eq_true_eq]; omega)]
  have := hI.ord
  rw [Nat.sub_self] at this
  exact ⟨out, rfl, this, hI.len, hI.nd, hI.lt⟩
end
theorem dv_eq (x y : Dv) : x = y ↔ x.1 = y.1 ∧ x.2.1 = y.2.1 ∧ x.2.2.1 = y.2.2.1 := by
 obtain ⟨a, b, c, ⟨⟩⟩ := x
 obtain ⟨a', b', c', ⟨⟩⟩ := y
 simp
theorem e83 (l : List Dv) (x : Dv) (hl : l.length ≤ 90000) (h : ∀ y ∈ l, y ≠ x) : sp83 (l, x, ()) = some (false, ()) := by
 have : sp97 (l, x, ()) = some (-1, ()) := by
  show sh97 100000 l x = _
  unfold sh97
  simp only [joinK]
  refine iter_count (F := sh97_L2 sh97_K0) (fun k : Nat => (l, (l.length : Int), (k : Int), x, ())) l.length 100000 (by omega) (fun rc k hk => ?_) (fun rc => ?_)
  ·have hne := h l[k] (List.getElem_mem hk)
   simp only [sh97_L2]
   rw [if_pos (by simpa using hk), if_pos (inR_nat hk), lAt_nat _ _ _ hk, if_neg (fun e => ?_), up1' hk]
   simp only [Bool.and_eq_true, beq_iff_eq] at e
   exact hne ((dv_eq _ _).2 ⟨e.1.symm, e.2.1.symm, e.2.2.1.symm⟩)
  ·simp only [sh97_L2]
   rw [if_neg (by simp)]; rfl
 show sh83 0 l x = _
 unfold sh83
 rw [this]; rfl
section
variable {N gate : Nat} {ns : List Nd} {ds : List Dv}
theorem e62 (hd : DevG ns ds) : sp62 ((ns, ds, ()), ()) = some (0, ()) := by
 have hl := hd.len
 have k0 : sh62_K0 100000 ((ns, ds, ()), ()) = some (0, ()) := by
  simp only [sh62_K0, joinK]
  refine iter_count (F := sh62_L3 sh62_K1) (fun k : Nat => (ds, (ds.length : Int), (k : Int), (ns, ds, ()), ())) ds.length 100000 (by omega) (fun rc k hk => ?_) (fun rc => ?_)
  ·have hc0 : inCut 0 (k : Int) ds.length = true := inCut_nat (a := 0) (Nat.zero_le _) (Nat.le_of_lt hk)
   have hcut : cutL ds 0 (k : Int) = ds.take k := by simp [cutL]
   simp only [sh62_L3]
   rw [if_pos (by simpa using hk), if_pos (inR_nat hk), if_pos hc0, lAt_nat _ _ _ hk, hcut, e83 _ _ (by rw [List.length_take]; omega) (fun y hy => ?_), Option.bind_some]
   ·simp only
    rw [if_neg (by decide), up1' hk]
   ·obtain ⟨j, hj, rfl⟩ := List.getElem_of_mem hy
    rw [List.length_take] at hj
    rw [List.getElem_take]
    exact (List.pairwise_iff_getElem.1 hd.nd) j k (by omega) hk (by omega)
  ·simp only [sh62_L3]
   rw [if_neg (by simp)]; rfl
 show sh62 100000 (ns, ds, ()) = _
 unfold sh62
 simp only [joinK]
 refine iter_count (F := sh62_L6 (sh62_K0 100000)) (fun k : Nat => (ds, (ds.length : Int), (k : Int), (ns, ds, ()), ())) ds.length 100000 (by omega) (fun rc k hk => ?_) (fun rc => ?_)
 ·obtain ⟨o1, o2, o3, o4, o5⟩ := hd.ok ds[k] (List.getElem_mem hk)
  simp only [sh62_L6, joinK]
  rw [if_pos (by simpa using hk), if_pos (inR_nat hk), lAt_nat _ _ _ hk]
  have fin : sh62_K7 rc (ds, (ds.length : Int), (k : Int), false, (ns, ds, ()), ds[k], ()) = rc (ds, (ds.length : Int), ((k + 1 : Nat) : Int), (ns, ds, ()), ()) := by
   simp only [sh62_K7, joinK]
   rw [if_neg (by decide), if_neg (by simp only [decide_eq_true_eq]; omega), if_neg (by simp only [decide_eq_true_eq]; omega), if_neg (by simp only [decide_eq_true_eq]; omega), if_pos (inR_int o2 o3), decide_eq_false (by omega)]
   simp only [sh62_K8]
   rw [if_neg (by decide), up1' hk]
  rcases o1 with o1 | o1
  ·rw [if_neg (by simpa using o1)]; exact fin
  ·rw [if_pos (by rw [o1]; decide), show (ds[k].1 != 2) = false by rw [o1]; rfl]; exact fin
 ·simp only [sh62_L6]
  rw [if_neg (by simp)]
  exact k0
theorem e40 (h : LayG N gate ns) (hd : DevG ns ds) : sp40 ((ns, ds, ()), ()) = some (0, ()) := by
 have hl := h.len
 have h11 := h.N11
 have hdl := hd.len
 have hg := h.gN
 show sh40 100000 (ns, ds, ()) = _
 unfold sh40
 simp only [joinK]
 rw [if_neg (by simp only [decide_eq_true_eq]; omega), decide_eq_false (by omega)]
 simp only [sh40_K0, joinK]
 rw [if_neg (by decide)]
 refine iter_count (F := sh40_L16 (sh40_K1 100000)) (fun k : Nat => ((ns.length : Int), (k : Int), (ns, ds, ()), ())) ns.length 100000 (by omega) (fun rc k hk => ?_) (fun rc => ?_)
 ·simp only [sh40_L16]
  rw [if_pos (by simpa using hk), e57 h (by omega), Option.bind_some]
  simp only
  rw [if_neg (by decide), up1' hk]
 simp only [sh40_L16]
 rw [if_neg (by simp)]
 simp only [sh40_K1, joinK]
 obtain ⟨t, ht, t80⟩ := e58 (ds := ds) h
 rw [ht, Option.bind_some]
 simp only
 rw [if_neg (by simpa using t80), e59 h, Option.bind_some]
 simp only
 rw [if_neg (by decide)]
 refine iter_count (F := sh40_L13 (sh40_K4 100000)) (fun k : Nat => ((ns.length : Int), (k : Int), (ns, ds, ()), ())) ns.length 100000 (by omega) (fun rc k hk => ?_) (fun rc => ?_)
 ·simp only [sh40_L13]
  rw [if_pos (by simpa using hk), e60 h (by omega), Option.bind_some]
  simp only
  rw [if_neg (by decide), up1' hk]
 simp only [sh40_L13]
 rw [if_neg (by simp)]
 simp only [sh40_K4, joinK]
 obtain ⟨hs, hsl, _⟩ := e61 (ds := ds) h
 rw [hs, Option.bind_some]
 simp only
 have hil : (ilN (ordN ns N N [])).length = N := by rw [ilN, List.length_map, hsl]
 rw [if_neg (by simp only [decide_eq_true_eq, hil]; omega), e62 hd, Option.bind_some]
 simp only
 rw [if_neg (by decide)]
 have h0 : 0 < ns.length := by omega
 rw [show (100000 : Nat) = 99999 + 1 from rfl, iter_succ]
 simp only [sh40_L11]
 have hk1 : (lAt ([], 0, 0, 0, [], ()) ns 0).2.1 = 1 := by
  have := lAt_nat ([], 0, 0, 0, [], ()) ns 0 h0
  rw [show ((0 : Nat) : Int) = 0 from rfl] at this
  rw [this]
  exact (h.node 0 h0).entry.2 rfl
 rw [if_pos (by simpa using h0), if_pos (by have := inR_nat h0; exact this), hk1, if_pos (by decide)]
 rfl
theorem e41 (h : LayG N gate ns) (hd : DevG ns ds) : sp41 ((ns, ds, ()), ()) = some (ilN (ordN ns N N []), ()) := by
 show sh41 0 (ns, ds, ()) = _
 unfold sh41
 rw [e40 h hd, Option.bind_some]
 simp only
 rw [if_neg (by decide), (e61 h).1]; rfl
end
abbrev LL := List (IL × Unit)
structure PlG (ns : List Nd) (n0 : Int) (m : Nat) (slots bins : LL) : Prop where
 ls : slots.length = m
 lb : bins.length = m
 sl : ∀ (i : Nat) (h : i < slots.length) (hn : i < ns.length), (slots[i].1.length : Int) = ns[i].2.2.1 ∧ ∀ v ∈ slots[i].1, 0 ≤ v.1 ∧ v.1 ≤ n0
 bn : ∀ (i : Nat) (h : i < bins.length), slots[i]?.isSome → bins[i].1.length ≤ 1 ∧ ∀ v ∈ bins[i].1, 1 ≤ v.1 ∧ v.1 ≤ n0
abbrev PostP := Option (Ty4 × Sr × Unit) → Prop
theorem step10 {N gate : Nat} {ns : List Nd} (h : LayG N gate ns) (dv : List Dv) (n0 : Int) (hn0 : n0 ≤ 1000) (rc) (n bag : Int) (i : Nat) (hi : i < ns.length) (s : Sr) (hs : SrOk s) (A B slots bins : LL) (h1 : 0 ≤ n) (h2 : 1 ≤ bag) (h3 : n + bag = n0 + 1) (hp : PlG ns n0 i slots bins) (j1)
  (Post : PostP) (hj : ∀ (n' bag' : Int) (s' : Sr) (slots' bins' : LL), SrOk s' → 0 ≤ n' → 1 ≤ bag' → n' + bag' = n0 + 1 → PlG ns n0 (i + 1) slots' bins' → Post (rc (n', bag', ((i + 1 : Nat) : Int), s', (ns, dv, ()), (), (), A, B, slots', bins', ()))) :
  Post (sh9_L2 100000 j1 rc (n, bag, (i : Int), s, (ns, dv, ()), (), (), A, B, slots, bins, ())) := by
 have hl := h.len
 have h11 := h.N11
 have hx := node_len (h.node i hi)
 generalize hxe : ns[i] = x at hx
 have hlat : lAt ([], 0, 0, 0, [], ()) ns (i : Int) = x := by rw [lAt_nat _ _ _ hi, hxe]
 have hlim : x.2.2.1 ≤ (lim : Int) := by have : (lim : Int) = 140737488355328 := rfl; omega
 have hlim8 : (8 : Int) * x.2.2.1 ≤ (lim : Int) := by have : (lim : Int) = 140737488355328 := rfl; omega
 simp only [sh9_L2, joinK]
 rw [if_pos (by simpa using hi), if_pos (inR_nat hi), hlat, if_pos (decide_eq_true hx.1), if_pos (decide_eq_true (Int.le_refl _)), if_pos (decide_eq_true hlim), if_pos (decide_eq_true hlim8)]
 have hup : IntKind.i64.wrap ((i : Int) + 1) = ((i + 1 : Nat) : Int) := wrapI (by omega) (by omega)
 have fin : ∀ (n bag : Int) (s : Sr) (w inn : IL), SrOk s → 0 ≤ n → 1 ≤ bag → n + bag = n0 + 1 → (w.length : Int) = x.2.2.1 → (∀ v ∈ w, 0 ≤ v.1 ∧ v.1 ≤ n0) → inn.length ≤ 1 → (∀ v ∈ inn, 1 ≤ v.1 ∧ v.1 ≤ n0) → Post (sh9_K7 (sh9_K3 rc) (n, bag, (i : Int), w, inn, s, (ns, dv, ()), (), (), A, B, slots, bins, ())) := by
  intro n bag s w inn hs h1 h2 h3 hw hv hil hin
  have hls := hp.ls
  have hlb := hp.lb
  simp only [sh9_K7, sh9_K3]
  rw [if_pos (dlim (by omega)), if_pos (dlim (by omega)), if_pos (dlim (by omega)), if_pos (dlim (by omega)), hup]
  refine hj n bag s _ _ hs h1 h2 h3 ⟨by simp [hls], by simp [hlb], fun j hjl hjn => ?_, fun j hjl _ => ?_⟩
  ·by_cases hji : j < slots.length
   ·rw [List.getElem_append_left hji]; exact hp.sl j hji hjn
   ·have : j = i := by simp only [List.length_append, List.length_cons, List.length_nil] at hjl; omega
    subst this
    rw [List.getElem_append_right (by omega)]
    simp only [hls, Nat.sub_self, List.getElem_cons_zero, hxe]
    exact ⟨hw, hv⟩
  ·by_cases hji : j < bins.length
   ·rw [List.getElem_append_left hji]; exact hp.bn j hji (by rw [List.getElem?_eq_getElem (by omega)]; rfl)
   ·have : j = i := by simp only [List.length_append, List.length_cons, List.length_nil] at hjl; omega
    subst this
    rw [List.getElem_append_right (by omega)]
    simp only [hlb, Nat.sub_self, List.getElem_cons_zero]
    exact ⟨hil, hin⟩
 have k9 : ∀ (b : Bool) (n bag : Int) (s : Sr) (w : IL), (b = true → 0 < n) → SrOk s → 0 ≤ n → 1 ≤ bag → n + bag = n0 + 1 → (w.length : Int) = x.2.2.1 → (∀ v ∈ w, 0 ≤ v.1 ∧ v.1 ≤ n0) → Post (sh9_K9 (sh9_K7 (sh9_K3 rc)) (n, bag, (i : Int), b, s, (ns, dv, ()), (), (), w, [], A, B, slots, bins, ())) := by
  intro b n bag s w hb hs h1 h2 h3 hw hv
  simp only [sh9_K9]
  cases b with
  | true =>
   have := hb rfl
   rw [if_pos rfl, if_pos (dlim (by simp)), if_pos (dlim (by simp)), wrapI (by omega) (by omega), wrapI (by omega) (by omega)]
   exact fin _ _ s w _ hs (by omega) (by omega) (by omega) hw hv (by simp) (fun v hv => by simp only [List.nil_append, List.mem_singleton] at hv; rw [hv]; simp only; omega)
  | false =>
   rw [if_neg (by decide)]
   exact fin _ _ s w [] hs h1 h2 h3 hw hv (by simp) (by simp)
 have k6 : ∀ (n bag : Int) (s : Sr) (w : IL), SrOk s → 0 ≤ n → 1 ≤ bag → n + bag = n0 + 1 → (w.length : Int) = x.2.2.1 → (∀ v ∈ w, 0 ≤ v.1 ∧ v.1 ≤ n0) → Post (sh9_K6 (sh9_K3 rc) (n, bag, (i : Int), s, (ns, dv, ()), (), (), x, w, [], A, B, slots, bins, ())) := by
  intro n bag s w hs h1 h2 h3 hw hv
  simp only [sh9_K6, joinK]
  by_cases c1 : (x.2.2.1 == 0) = true
  ·rw [if_pos c1]
   by_cases c2 : 0 < n
   ·obtain ⟨v, s', hv', v1, v2, k'⟩ := e18 hs 3 (by decide) (by decide)
    rw [if_pos (decide_eq_true c2), hv', Option.bind_some]
    exact k9 _ n bag s' w (fun _ => c2) k' h1 h2 h3 hw hv
   ·rw [if_neg (by simpa using c2)]
    exact k9 false n bag s w (fun h => by cases h) hs h1 h2 h3 hw hv
  ·rw [if_neg c1]
   exact k9 false n bag s w (fun h => by cases h) hs h1 h2 h3 hw hv
 have loop : ∀ full : Int, 0 ≤ full → full ≤ 100 → Post (sh9_K5 100000 (sh9_K3 rc) (n, bag, (i : Int), full, s, (ns, dv, ()), (), (), x, List.replicate (Int.toNat x.2.2.1) (0, ()), [], A, B, slots, bins, ())) := by
  intro full hf0 hf1
  simp only [sh9_K5, joinK]
  refine iter_post (F := sh9_L13 (sh9_K6 (sh9_K3 rc))) (fun k z => ∃ (n bag full : Int) (s : Sr) (w : IL), z = (n, bag, (i : Int), full, (k : Int), s, (ns, dv, ()), (), (), x, w, [], A, B, slots, bins, ()) ∧ SrOk s ∧ 0 ≤ n ∧ 1 ≤ bag ∧ n + bag = n0 + 1 ∧ 0 ≤ full ∧ full ≤ 100 ∧ (w.length : Int) = x.2.2.1 ∧ ∀ v ∈ w, 0 ≤ v.1 ∧ v.1 ≤ n0) Post x.2.2.1.toNat 100000 (by omega)
   ⟨n, bag, full, s, _, rfl, hs, h1, h2, h3, hf0, hf1, by rw [List.length_replicate]; omega, fun v hv => by rw [(List.mem_replicate.1 hv).2]; simp only; omega⟩ (fun rc2 k z hk hz => ?_) (fun rc2 z hz => ?_)
  ·obtain ⟨n, bag, full, s, w, rfl, hs, h1, h2, h3, hf0, hf1, hw, hv⟩ := hz
   have hup2 : IntKind.i64.wrap ((k : Int) + 1) = ((k + 1 : Nat) : Int) := wrapI (by omega) (by omega)
   simp only [sh9_L13, joinK]
   rw [if_pos (decide_eq_true (by omega))]
   have k16 : ∀ (b : Bool) (s : Sr), (b = true → 0 < n ∧ 0 < full) → SrOk s → ∃ z', sh9_K16 (sh9_K14 rc2) (n, bag, (i : Int), full, (k : Int), b, s, (ns, dv, ()), (), (), x, w, [], A, B, slots, bins, ()) = rc2 z' ∧
     ∃ (n bag full : Int) (s : Sr) (w : IL), z' = (n, bag, (i : Int), full, ((k + 1 : Nat) : Int), s, (ns, dv, ()), (), (), x, w, [], A, B, slots, bins, ()) ∧ SrOk s ∧ 0 ≤ n ∧ 1 ≤ bag ∧ n + bag = n0 + 1 ∧ 0 ≤ full ∧ full ≤ 100 ∧ (w.length : Int) = x.2.2.1 ∧ ∀ v ∈ w, 0 ≤ v.1 ∧ v.1 ≤ n0 := by
    intro b s hb hs
    simp only [sh9_K16, sh9_K14]
    cases b with
    | true =>
     have := hb rfl
     have hkw : k < w.length := by omega
     rw [if_pos rfl, if_pos (inR_nat hkw), if_pos (decide_eq_true (by simp only [Int.toNat_natCast]; omega)), hup2, wrapI (x := n - 1) (by omega) (by omega), wrapI (x := bag + 1) (by omega) (by omega), wrapI (x := full - 1) (by omega) (by omega)]
     refine ⟨_, rfl, n - 1, bag + 1, full - 1, s, _, rfl, hs, by omega, by omega, by omega, by omega, by omega, by rw [List.length_set]; exact hw, fun v hv' => ?_⟩
     rcases List.mem_or_eq_of_mem_set hv' with hv' | rfl
     ·exact hv v hv'
     ·simp only; omega
    | false =>
     rw [if_neg (by decide), hup2]
     exact ⟨_, rfl, n, bag, full, s, w, rfl, hs, h1, h2, h3, hf0, hf1, hw, hv⟩
   by_cases c1 : 0 < n
   ·rw [if_pos (decide_eq_true c1)]
    by_cases c2 : 0 < full
    ·obtain ⟨v, s', hv', v1, v2, k'⟩ := e18 hs 2 (by decide) (by decide)
     rw [if_pos (decide_eq_true c2), hv', Option.bind_some]
     exact k16 _ s' (fun _ => ⟨c1, c2⟩) k'
    ·rw [if_neg (by simpa using c2)]
     exact k16 false s (fun h => by cases h) hs
   ·rw [if_neg (by simpa using c1)]
    exact k16 false s (fun h => by cases h) hs
  ·obtain ⟨n, bag, full, s, w, rfl, hs, h1, h2, h3, hf0, hf1, hw, hv⟩ := hz
   simp only [sh9_L13]
   rw [if_neg (by simp only [decide_eq_true_eq]; omega)]
   exact k6 n bag s w hs h1 h2 h3 hw hv
 by_cases c5 : x.2.1 = 5
 ·have := (h.node i hi).len5 (by rw [hxe]; exact c5)
  rw [hxe] at this
  rw [if_pos (by simpa using c5), wrapI (by omega) (by omega)]
  exact loop _ (by omega) (by omega)
 ·rw [if_neg (by simpa using c5)]
  exact loop _ hx.1 (by omega)
theorem e9 {N gate : Nat} {ns : List Nd} (h : LayG N gate ns) (dv : List Dv) (n0 : Int) (h0 : 0 ≤ n0) (hn0 : n0 ≤ 1000) {s : Sr} (hs : SrOk s) : ∃ slots bins s', sp9 (s, (ns, dv, ()), n0, ()) = some ((slots, bins, ()), s', ()) ∧ SrOk s' ∧ PlG ns n0 N slots bins := by
 have hl := h.len
 have h11 := h.N11
 show ∃ slots bins s', sh9 100000 s (ns, dv, ()) n0 = some ((slots, bins, ()), s', ()) ∧ _
 unfold sh9
 simp only [joinK]
 refine iter_post (F := sh9_L2 100000 sh9_K0) (fun i z => ∃ (n bag : Int) (s : Sr) (slots bins : LL), z = (n, bag, (i : Int), s, (ns, dv, ()), (), (), [], [], slots, bins, ()) ∧ SrOk s ∧ 0 ≤ n ∧ 1 ≤ bag ∧ n + bag = n0 + 1 ∧ PlG ns n0 i slots bins)
  (fun o => ∃ slots bins s', o = some ((slots, bins, ()), s', ()) ∧ SrOk s' ∧ PlG ns n0 N slots bins) N 100000 (by omega) ⟨n0, 1, s, [], [], rfl, hs, h0, by omega, by omega, ⟨rfl, rfl, by simp, by simp⟩⟩ (fun rc i z hi hz => ?_) (fun rc z hz => ?_)
 ·obtain ⟨n, bag, s, slots, bins, rfl, hs, h1, h2, h3, hp⟩ := hz
  refine step10 h dv n0 hn0 rc n bag i (by omega) s hs [] [] slots bins h1 h2 h3 hp sh9_K0 (fun o => ∃ z', o = rc z' ∧ ∃ (n bag : Int) (s : Sr) (slots bins : LL), z' = (n, bag, ((i + 1 : Nat) : Int), s, (ns, dv, ()), (), (), [], [], slots, bins, ()) ∧ SrOk s ∧ 0 ≤ n ∧ 1 ≤ bag ∧ n + bag = n0 + 1 ∧ PlG ns n0 (i + 1) slots bins) fun n' bag' s' slots' bins' hs' h1' h2' h3' hp' => ?_
  exact ⟨_, rfl, n', bag', s', slots', bins', rfl, hs', h1', h2', h3', hp'⟩
 ·obtain ⟨n, bag, s, slots, bins, rfl, hs, h1, h2, h3, hp⟩ := hz
  simp only [sh9_L2]
  rw [if_neg (by simp only [decide_eq_true_eq]; omega)]
  exact ⟨slots, bins, s, rfl, hs, hp⟩
def CmdG (x : Nd) (c : Int) : Prop := if x.2.1 = 7 then 0 ≤ c ∧ c ≤ 40 else if 8 ≤ x.2.1 then c = 0 else (0 ≤ c ∧ c < x.2.2.2.2.1.length) ∨ (c = -1 ∧ x.2.1 ≠ 5)
theorem cmd_snoc {ns : List Nd} {i : Nat} (hi : i < ns.length) {c : IL} (hl : c.length = i) (h : ∀ (j : Nat) (h1 : j < c.length) (h2 : j < ns.length), CmdG ns[j] (c[j]).1) {v : Int} (hv : CmdG ns[i] v) :
  ∀ (j : Nat) (h1 : j < (c ++ [(v, ())]).length) (h2 : j < ns.length), CmdG ns[j] ((c ++ [(v, ())])[j]).1 := by
 intro j h1 h2
 by_cases hj : j < c.length
 ·rw [List.getElem_append_left hj]; exact h j hj h2
 ·have : j = i := by simp only [List.length_append, List.length_cons, List.length_nil] at h1; omega
  subst this
  rw [List.getElem_append_right (by omega)]
  simpa using hv
theorem e10 {N gate : Nat} {ns : List Nd} (h : LayG N gate ns) (dv : List Dv) {s : Sr} (hs : SrOk s) :
  ∃ c s', sp10 (s, (ns, dv, ()), ()) = some (c, s', ()) ∧ SrOk s' ∧ c.length = N ∧ ∀ (j : Nat) (h1 : j < c.length) (h2 : j < ns.length), CmdG ns[j] (c[j]).1 := by
 have hl := h.len
 have h11 := h.N11
 show ∃ c s', sh10 100000 s (ns, dv, ()) = some (c, s', ()) ∧ _
 unfold sh10
 simp only [joinK]
 refine iter_post (F := sh10_L2 sh10_K0) (fun i z => ∃ (s : Sr) (c : IL), z = ((i : Int), s, (ns, dv, ()), c, ()) ∧ SrOk s ∧ c.length = i ∧ ∀ (j : Nat) (h1 : j < c.length) (h2 : j < ns.length), CmdG ns[j] (c[j]).1)
  (fun o => ∃ c s', o = some (c, s', ()) ∧ SrOk s' ∧ c.length = N ∧ ∀ (j : Nat) (h1 : j < c.length) (h2 : j < ns.length), CmdG ns[j] (c[j]).1) N 100000 (by omega) ⟨s, [], rfl, hs, rfl, fun j h1 => absurd h1 (Nat.not_lt_zero _)⟩ (fun rc i z hi hz => ?_) (fun rc z hz => ?_)
 ·obtain ⟨s, c, rfl, hs, hc, hcs⟩ := hz
  have hi' : i < ns.length := by omega
  have hx := h.node i hi'
  have hsn := fun v (hv : CmdG ns[i] v) => cmd_snoc hi' hc hcs hv
  have hlat : lAt ([], 0, 0, 0, [], ()) ns (i : Int) = ns[i] := lAt_nat _ _ _ hi'
  generalize hxe : ns[i] = x at hx hsn hlat
  have hk1 := hx.kind1
  have hk9 := hx.kind9
  have hcnt := hx.cnt
  simp only [sh10_L2, joinK]
  rw [if_pos (by simp; omega), if_pos (inR_nat hi'), hlat]
  have fin : ∀ (v : Int) (s' : Sr), SrOk s' → CmdG x v → ∃ z', sh10_K3 rc ((i : Int), v, s', (ns, dv, ()), c, ()) = rc z' ∧ ∃ (s : Sr) (c : IL), z' = (((i + 1 : Nat) : Int), s, (ns, dv, ()), c, ()) ∧ SrOk s ∧ c.length = i + 1 ∧ ∀ (j : Nat) (h1 : j < c.length) (h2 : j < ns.length), CmdG ns[j] (c[j]).1 := fun v s' hs' hv => by
   unfold sh10_K3
   simp only
   rw [if_pos (dlim (by omega)), if_pos (dlim (by omega)), up1' hi]
   exact ⟨_, rfl, s', _, rfl, hs', by simp [hc], hsn v hv⟩
  have pick : ∀ (t : IL) (hl1 : 1 ≤ t.length) (hl2 : t.length ≤ 1000), (∀ v, (v, ()) ∈ t → CmdG x v) → ∃ z', ((sp25 (s, t, ())).bind fun r => sh10_K3 rc ((i : Int), r.1, r.2.1, (ns, dv, ()), c, ())) = rc z' ∧ ∃ (s : Sr) (c : IL), z' = (((i + 1 : Nat) : Int), s, (ns, dv, ()), c, ()) ∧ SrOk s ∧ c.length = i + 1 ∧ ∀ (j : Nat) (h1 : j < c.length) (h2 : j < ns.length), CmdG ns[j] (c[j]).1 := fun t hl1 hl2 ht => by
   obtain ⟨v, s', hv, hm, hs'⟩ := e25 hs t hl1 hl2
   rw [hv, Option.bind_some]
   exact fin v s' hs' (ht v hm)
  by_cases h7 : x.2.1 = 7
  ·rw [if_pos (by simpa using h7)]
   obtain ⟨v, s', hv, v0, v1, hs'⟩ := e18 hs 8 (by decide) (by decide)
   rw [hv, Option.bind_some]
   exact fin v s' hs' (by unfold CmdG; rw [if_pos h7]; omega)
  rw [if_neg (by simpa using h7)]
  have h89 : ∀ b : Bool, sh10_K6 (sh10_K3 rc) ((i : Int), 0, x.2.1, b, s, (ns, dv, ()), c, ()) = sh10_K6 (sh10_K3 rc) ((i : Int), 0, x.2.1, b, s, (ns, dv, ()), c, ()) := fun _ => rfl
  have main : ∀ b : Bool, (b = true ↔ 8 ≤ x.2.1) → ∃ z', sh10_K6 (sh10_K3 rc) ((i : Int), 0, x.2.1, b, s, (ns, dv, ()), c, ()) = rc z' ∧ ∃ (s : Sr) (c : IL), z' = (((i + 1 : Nat) : Int), s, (ns, dv, ()), c, ()) ∧ SrOk s ∧ c.length = i + 1 ∧ ∀ (j : Nat) (h1 : j < c.length) (h2 : j < ns.length), CmdG ns[j] (c[j]).1 := fun b hb => by
   unfold sh10_K6
   simp only [joinK]
   by_cases h8 : 8 ≤ x.2.1
   ·rw [hb.2 h8, if_pos rfl]
    exact fin 0 s hs (by unfold CmdG; rw [if_neg h7, if_pos h8])
   have hbf : b = false := by cases b; rfl; exact absurd (hb.1 rfl) h8
   rw [hbf, if_neg (by simp)]
   have ok : ∀ v : Int, (0 ≤ v ∧ v < x.2.2.2.2.1.length) ∨ (v = -1 ∧ x.2.1 ≠ 5) → CmdG x v := fun v hv => by unfold CmdG; rw [if_neg h7, if_neg h8]; exact hv
   by_cases h5 : x.2.1 = 5
   ·rw [if_pos (by simpa using h5)]
    refine pick _ (by decide) (by decide) fun v hv => ok v ?_
    rw [hcnt, h5]
    simp only [List.mem_cons, Prod.mk.injEq, and_true, List.not_mem_nil, or_false] at hv
    rcases hv with rfl | rfl | rfl <;> simp [exitsN]
   rw [if_neg (by simpa using h5)]
   have two : ∀ b2 : Bool, (b2 = true → x.2.1 = 4 ∨ x.2.1 = 6) → ∃ z', sh10_K8 (sh10_K3 rc) ((i : Int), b2, s, (ns, dv, ()), c, ()) = rc z' ∧ ∃ (s : Sr) (c : IL), z' = (((i + 1 : Nat) : Int), s, (ns, dv, ()), c, ()) ∧ SrOk s ∧ c.length = i + 1 ∧ ∀ (j : Nat) (h1 : j < c.length) (h2 : j < ns.length), CmdG ns[j] (c[j]).1 := fun b2 hb2 => by
    unfold sh10_K8
    simp only
    cases b2 with
    | true =>
     rw [if_pos rfl]
     refine pick _ (by decide) (by decide) fun v hv => ok v ?_
     rw [hcnt]
     simp only [List.mem_cons, Prod.mk.injEq, and_true, List.not_mem_nil, or_false] at hv
     rcases hb2 rfl with e | e <;> rw [e] <;> rcases hv with rfl | rfl | rfl | rfl | rfl <;> simp [exitsN]
    | false =>
     rw [if_neg (by simp)]
     refine pick _ (by decide) (by decide) fun v hv => ok v ?_
     have : 1 ≤ x.2.2.2.2.1.length := by
      rw [hcnt]; unfold exitsN
      rw [if_neg (by omega)]
      split <;> omega
     simp only [List.mem_cons, Prod.mk.injEq, and_true, List.not_mem_nil, or_false] at hv
     rcases hv with rfl | rfl | rfl | rfl | rfl
     ·exact .inl ⟨by omega, by omega⟩
     ·exact .inl ⟨by omega, by omega⟩
     ·exact .inl ⟨by omega, by omega⟩
     ·exact .inl ⟨by omega, by omega⟩
     ·exact .inr ⟨rfl, h5⟩
   by_cases h4 : x.2.1 = 4
   ·rw [if_pos (by simpa using h4)]; exact two _ fun _ => .inl h4
   ·rw [if_neg (by simpa using h4)]; exact two _ fun hb => .inr (by simpa using hb)
  by_cases h8 : x.2.1 = 8
  ·rw [if_pos (by simpa using h8)]; exact main _ (by simp; omega)
  ·rw [if_neg (by simpa using h8)]; exact main _ (by simp; omega)
 ·obtain ⟨s, c, rfl, hs, hc, hcs⟩ := hz
  simp only [sh10_L2, joinK]
  rw [if_neg (by simp [hl]), sh10_K0]
  exact ⟨c, s, rfl, hs, hc, hcs⟩
section
variable {N gate : Nat} {ns : List Nd} {ds : List Dv} {od : IL}
theorem e27 (h : LayG N gate ns) {n0 : Int} {slots bins : LL} (hp : PlG ns n0 N slots bins) : sp27 ((ns, ds, od, ()), (slots, bins, ()), ()) = some (true, (ns, ds, od, ()), ()) := by
 have hl := h.len
 have h11 := h.N11
 have e1 := hp.ls
 have e2 := hp.lb
 show sh27 100000 (ns, ds, od, ()) (slots, bins, ()) = _
 unfold sh27
 simp only [joinK]
 rw [if_neg (by simp [hl, e1])]
 unfold sh27_K0
 simp only [joinK]
 rw [if_neg (by simp [hl, e2])]
 refine iter_count (F := sh27_L3 sh27_K1) (fun k : Nat => (ns, (ns.length : Int), (k : Int), (ns, ds, od, ()), (slots, bins, ()), ())) ns.length 100000 (by omega) (fun rc k hk => ?_) (fun rc => ?_)
 ·have hs := (hp.sl k (by omega) hk).1
  unfold sh27_L3
  simp only
  rw [if_pos (by simpa using hk), if_pos (inR_nat hk), if_pos (inR_nat (by omega)), lAt_nat _ _ _ hk, lAt_nat _ _ _ (show k < slots.length by omega), if_neg (by rw [hs]; simp), up1' hk]
 ·unfold sh27_L3
  simp only
  rw [if_neg (by simp)]
  rfl
theorem e42 {i : Nat} {x : Nd} (hx : NodeG N gate i x) {c : Int} (hc : CmdG x c) : sp42 (x, c, ()) = some (true, ()) := by
 show sh42 0 x c = _
 have hk1 := hx.kind1
 unfold CmdG at hc
 unfold sh42
 simp only [joinK]
 rw [e48, Option.bind_some]
 simp only
 by_cases h6 : x.2.1 ≤ 6
 ·rw [if_neg (by omega), if_neg (by omega)] at hc
  rw [decide_eq_true hk1, decide_eq_true h6, if_pos (by rfl)]
  rcases hc with ⟨c0, c1⟩ | ⟨c0, c5⟩
  ·rw [if_pos (by simpa using c0), if_pos (by simpa using c1)]; rfl
  ·subst c0
   rw [if_neg (by decide), if_pos (by rfl)]
   unfold sh42_K1
   simpa using c5
 ·rw [decide_eq_false h6, if_neg (by simp)]
  by_cases h7 : x.2.1 = 7
  ·rw [if_pos h7] at hc
   rw [if_pos (by simpa using h7), if_pos (by simpa using hc.1)]
   unfold sh42_K3
   simp [hc.2]
  ·rw [if_neg h7, if_pos (by omega)] at hc
   rw [if_neg (by simpa using h7), hc]; rfl
theorem cmds28 (h : LayG N gate ns) {c : IL} (hc : c.length = N) (hcs : ∀ (j : Nat) (h1 : j < c.length) (h2 : j < ns.length), CmdG ns[j] (c[j]).1) (fs : List Dv) :
  sp28 ((ns, ds, od, ()), c, fs, ()) = sh28_K0 100000 (fs, (ns, ds, od, ()), ()) := by
 have hl := h.len
 have h11 := h.N11
 show sh28 100000 (ns, ds, od, ()) c fs = _
 unfold sh28
 simp only [joinK]
 rw [if_neg (by simp [hl, hc])]
 refine iter_count (F := sh28_L19 (sh28_K0 100000)) (fun k : Nat => (fs, c, (c.length : Int), (k : Int), (ns, ds, od, ()), ())) c.length 100000 (by omega) (fun rc k hk => ?_) (fun rc => ?_)
 ·have hk2 : k < ns.length := by omega
  unfold sh28_L19
  simp only
  rw [if_pos (by simpa using hk), if_pos (inR_nat hk), if_pos (inR_nat hk2), lAt_nat _ _ _ hk2, lAt_nat _ _ _ hk]
  have hx := e42 (h.node k hk2) (hcs k hk hk2)
  rw [show ((ns[k], c[k]) : Nd × Int × Unit) = (ns[k], (c[k]).1, ()) from rfl, hx, Option.bind_some]
  simp only
  rw [if_neg (by simp), up1' hk]
 ·unfold sh28_L19
  simp only
  rw [if_neg (by simp)]
theorem next_lay (h : LayG N gate ns) {k : Nat} (hk : k < N) : nextN ns N (List.range k) = some k := by
 have hw : ∀ i, i ≤ k → wN ns (remN N (List.range k)) i = 0 := fun i hi => by
  unfold wN
  refine sum_zero _ fun v hv => ?_
  obtain ⟨j, hj, rfl⟩ := List.mem_map.1 hv
  unfold remN at hj
  rw [List.mem_filter] at hj
  have hjN := List.mem_range.1 hj.1
  have hjk : ¬ j < k := by
   have := hj.2
   simp only [List.contains_eq_mem, List.mem_range, decide_not, Bool.not_eq_true', decide_eq_false_iff_not] at this
   simpa using this
  exact ecN_lt h hjN (by omega)
 unfold nextN
 rw [List.find?_range_eq_some]
 refine ⟨?_, List.mem_range.2 hk, fun j hj => ?_⟩
 ·rw [hw k (Nat.le_refl _)]; simp
 ·simp [hj]
theorem ord_lay (h : LayG N gate ns) : ordN ns N N [] = List.range N := by
 have hN := h.N11
 suffices hs : ∀ m k, m + k = N → ordN ns N m (List.range k) = List.range N from hs N 0 (by omega)
 intro m
 induction m with
 | zero => intro k hk; simp only [Nat.zero_add] at hk; subst hk; rfl
 | succ m ih =>
  intro k hk
  have e : ordN ns N (m + 1) (List.range k) = match nextN ns N (List.range k) with
   | some x => ordN ns N m (List.range k ++ [x])
   | none => List.range k := rfl
  rw [e, next_lay h (by omega)]
  simp only
  rw [← List.range_succ]
  exact ih (k + 1) (by omega)
end
theorem find_first {α : Type} {l : List α} {p : α → Bool} (h : l.any p = true) : ∃ j, ∃ hj : j < l.length, p l[j] = true ∧ ∀ k (hk : k < j), p (l[k]'(Nat.lt_trans hk hj)) = false := by
 have hj : l.findIdx p < l.length := by rw [List.findIdx_lt_length]; exact List.any_eq_true.1 h
 exact ⟨_, hj, List.findIdx_getElem (w := hj), fun k hk => by simpa using List.not_of_lt_findIdx hk⟩
theorem f66 (l : IL) (x : Int) (hl : l.length ≤ 90000) : sp66 (l, x, ()) = some (l.any fun y => y.1 == x, ()) := by
 cases ha : l.any fun y => y.1 == x with
 | false =>
  refine e66 l x hl fun y hy => ?_
  have := List.any_eq_false.1 ha y hy
  simpa using this
 | true =>
  obtain ⟨j, hj, hpj, hb⟩ := find_first ha
  have : sp85 (l, x, ()) = some ((j : Int), ()) := by
   show sh85 100000 l x = _
   unfold sh85
   simp only [joinK]
   refine iter_inv (F := sh85_L2 sh85_K0) (fun k : Nat => (l, x, (l.length : Int), (k : Int), ())) (fun k => k ≤ j) l.length 100000 (by omega) (Nat.zero_le _) (fun rc k hk hkj => ?_) (fun rc h => by omega)
   simp only [sh85_L2]
   rw [if_pos (by simpa using hk), if_pos (inR_nat hk), lAt_nat _ _ _ hk]
   rcases Nat.lt_or_ge k j with h | h
   ·left
    have := hb k h
    rw [if_neg (by simp only [beq_eq_false_iff_ne] at this; simp only [beq_iff_eq]; exact fun e => this e.symm), up1' hk]
    exact ⟨rfl, h⟩
   ·right
    have : k = j := by omega
    subst this
    rw [if_pos (by simp only [beq_iff_eq] at hpj ⊢; exact hpj.symm)]
  show sh66 0 l x = _
  unfold sh66
  rw [this]; simp
def eqF (x y : Dv) : Bool := x.1 == y.1 && (x.2.1 == y.2.1 && (x.2.2.1 == y.2.2.1 && true))
theorem f67 (l : List Dv) (x : Dv) (hl : l.length ≤ 90000) : sp67 (l, x, ()) = some (l.any (eqF x), ()) := by
 cases ha : l.any (eqF x) with
 | false =>
  have : sp86 (l, x, ()) = some (-1, ()) := by
   show sh86 100000 l x = _
   unfold sh86
   simp only [joinK]
   refine iter_count (F := sh86_L2 sh86_K0) (fun k : Nat => (l, (l.length : Int), (k : Int), x, ())) l.length 100000 (by omega) (fun rc k hk => ?_) (fun rc => ?_)
   ·simp only [sh86_L2]
    have := List.any_eq_false.1 ha l[k] (List.getElem_mem hk)
    rw [if_pos (by simpa using hk), if_pos (inR_nat hk), lAt_nat _ _ _ hk, if_neg (by unfold eqF at this; exact this), up1' hk]
   ·simp only [sh86_L2]
    rw [if_neg (by simp)]; rfl
  show sh67 0 l x = _
  unfold sh67
  rw [this]; rfl
 | true =>
  obtain ⟨j, hj, hpj, hb⟩ := find_first ha
  have : sp86 (l, x, ()) = some ((j : Int), ()) := by
   show sh86 100000 l x = _
   unfold sh86
   simp only [joinK]
   refine iter_inv (F := sh86_L2 sh86_K0) (fun k : Nat => (l, (l.length : Int), (k : Int), x, ())) (fun k => k ≤ j) l.length 100000 (by omega) (Nat.zero_le _) (fun rc k hk hkj => ?_) (fun rc h => by omega)
   simp only [sh86_L2]
   rw [if_pos (by simpa using hk), if_pos (inR_nat hk), lAt_nat _ _ _ hk]
   rcases Nat.lt_or_ge k j with h | h
   ·left
    have := hb k h
    rw [if_neg (by unfold eqF at this; rw [this]; simp), up1' hk]
    exact ⟨rfl, h⟩
   ·right
    have : k = j := by omega
    subst this
    rw [if_pos (by unfold eqF at hpj; exact hpj)]
  show sh67 0 l x = _
  unfold sh67
  rw [this]; simp
def freeV (l : IL) : Nat := l.countP fun y => y.1 == 0
theorem e54 (l : IL) (hl : l.length ≤ 90000) : sp54 (l, ()) = some ((freeV l : Int), ()) := by
 show sh54 100000 l = _
 unfold sh54
 simp only [joinK]
 have h := iter_count (F := sh54_L2 sh54_K0) (r := some ((freeV l : Int), ())) (fun k : Nat => (((freeV (l.take k) : Nat) : Int), l, (l.length : Int), (k : Int), ())) l.length 100000 (by omega) (fun rc k hk => ?_) (fun rc => ?_)
 ·simpa [freeV] using h
 ·have e : freeV (l.take (k + 1)) = freeV (l.take k) + if l[k].1 == 0 then 1 else 0 := by
   unfold freeV
   rw [List.take_add_one, List.getElem?_eq_getElem hk, List.countP_append]
   simp [List.countP_cons]
  have hb : freeV (l.take k) ≤ 90000 := by
   refine Nat.le_trans List.countP_le_length ?_
   rw [List.length_take]; omega
  unfold sh54_L2
  simp only [joinK]
  rw [if_pos (by simpa using hk), if_pos (inR_nat hk), lAt_nat _ _ _ hk]
  unfold sh54_K3
  simp only
  rw [e, up1' hk]
  by_cases hz : l[k].1 = 0
  ·rw [if_pos (by simpa using hz), hz, wrapI (by omega) (by omega)]; simp
  ·rw [if_neg (by simpa using hz)]; simp [hz]
 ·unfold sh54_L2
  simp only [joinK]
  rw [if_neg (by simp), List.take_length]
  rfl
def low (s : Nat) : Nat := ((List.range 11).find? fun j => s.testBit j).getD 0
theorem all2 {p : Nat → Bool} {n : Nat} (h : (List.range n).all p = true) {s : Nat} (hs : s < n) : p s = true := List.all_eq_true.1 h s (List.mem_range.2 hs)
theorem e49 {s : Nat} (hs : s < 2048) (h0 : s ≠ 0) : sp49 ((s : Int), ()) = some ((low s : Int), ()) := by
 have h : ((List.range 2048).all fun s => s == 0 || decide (sp49 ((s : Int), ()) = some ((low s : Int), ()))) = true := by kernel_rfl
 have := all2 h hs
 simp only [Bool.or_eq_true, beq_iff_eq, decide_eq_true_eq] at this
 exact this.resolve_left h0
theorem or_bit {s m : Nat} (hs : s < 2048) (hm : m < 11) : IntKind.u64.wrap (↑(BitVec.ofInt IntKind.u64.bits (s : Int) ||| BitVec.ofInt IntKind.u64.bits (IntKind.u64.wrap (1 * 2 ^ min ((m : Int)).toNat IntKind.u64.bits))).toNat : Int) = ((s ||| 2 ^ m : Nat) : Int) := by
 have h : ((List.range 2048).all fun s => (List.range 11).all fun m => decide (IntKind.u64.wrap (↑(BitVec.ofInt IntKind.u64.bits (s : Int) ||| BitVec.ofInt IntKind.u64.bits (IntKind.u64.wrap (1 * 2 ^ min ((m : Int)).toNat IntKind.u64.bits))).toNat : Int) = ((s ||| 2 ^ m : Nat) : Int))) = true := by kernel_rfl
 exact of_decide_eq_true (all2 (all2 h hs) hm)
theorem and_less {s : Nat} (hs : s < 2048) (h0 : s ≠ 0) : IntKind.u64.wrap (↑(BitVec.ofInt IntKind.u64.bits (s : Int) &&& BitVec.ofInt IntKind.u64.bits (IntKind.u64.wrap ((s : Int) - 1))).toNat : Int) = ((s &&& (s - 1) : Nat) : Int) := by
 have h : ((List.range 2048).all fun s => s == 0 || decide (IntKind.u64.wrap (↑(BitVec.ofInt IntKind.u64.bits (s : Int) &&& BitVec.ofInt IntKind.u64.bits (IntKind.u64.wrap ((s : Int) - 1))).toNat : Int) = ((s &&& (s - 1) : Nat) : Int))) = true := by kernel_rfl
 have := all2 h hs
 simp only [Bool.or_eq_true, beq_iff_eq, decide_eq_true_eq] at this
 exact this.resolve_left h0
theorem low_bits {s : Nat} (hs : s < 2048) (h0 : s ≠ 0) : low s < 11 ∧ s.testBit (low s) = true ∧ (s &&& (s - 1)) < s ∧ (∀ j, j < 11 → (s &&& (s - 1)).testBit j = (s.testBit j && j != low s)) ∧ ∀ j, j < low s → s.testBit j = false := by
 have h : ((List.range 2048).all fun s => s == 0 || (decide (low s < 11) && (s.testBit (low s) && (decide ((s &&& (s - 1)) < s) && (((List.range 11).all fun j => (s &&& (s - 1)).testBit j == (s.testBit j && j != low s)) && ((List.range 11).all fun j => !decide (j < low s) || !s.testBit j)))))) = true := by kernel_rfl
 have := all2 h hs
 simp only [Bool.or_eq_true, beq_iff_eq, Bool.and_eq_true, decide_eq_true_eq] at this
 obtain ⟨a, b, c, d, e⟩ := this.resolve_left h0
 refine ⟨a, b, c, fun j hj => by simpa using all2 d hj, fun j hj => ?_⟩
 have := all2 e (show j < 11 by omega)
 simp only [Bool.or_eq_true, Bool.not_eq_true', decide_eq_false_iff_not] at this
 rcases this with h | h
 ·exact absurd hj h
 ·exact h
def ndN (ns : List Nd) (i : Nat) : Nd := ns.getD i ([], 0, 0, 0, [], ())
def wtN (W : IL) (i : Nat) : Int := (W.getD i (0, ())).1
def tgN (ns : List Nd) (W : IL) (m : Nat) : Int := (lAt (0, ()) (ndN ns m).2.2.2.2.1 (wtN W m)).1
def comN (ns : List Nd) (W : IL) (n m : Nat) : Bool := m != n && (decide (0 ≤ wtN W m) && tgN ns W m == (n : Int))
def csN (ns : List Nd) (W : IL) (n : Nat) : Nat → Nat
 | 0 => 0
 | k + 1 => if comN ns W n k = true then csN ns W n k ||| 2 ^ k else csN ns W n k
theorem cs_lt (ns : List Nd) (W : IL) (n : Nat) : ∀ k, csN ns W n k < 2 ^ k
 | 0 => by simp [csN]
 | k + 1 => by
  have h := cs_lt ns W n k
  have e : 2 ^ (k + 1) = 2 ^ k + 2 ^ k := by rw [Nat.pow_succ]; omega
  unfold csN
  split
  ·exact Nat.or_lt_two_pow (by omega) (by omega)
  ·omega
theorem cs_bit (ns : List Nd) (W : IL) (n j : Nat) : ∀ k, (csN ns W n k).testBit j = (decide (j < k) && comN ns W n j)
 | 0 => by simp [csN]
 | k + 1 => by
  have h := cs_bit ns W n j k
  unfold csN
  by_cases hc : comN ns W n k = true
  ·rw [if_pos hc, Nat.testBit_or, h, Nat.testBit_two_pow]
   by_cases e : k = j
   ·subst e; simp [hc]
   ·have : decide (j < k + 1) = decide (j < k) := by congr 1; exact propext ⟨fun _ => by omega, fun _ => by omega⟩
    rw [this]; simp [e]
  ·rw [if_neg hc, h]
   by_cases e : k = j
   ·subst e; simp [show comN ns W n k = false by simpa using hc]
   ·have : decide (j < k + 1) = decide (j < k) := by congr 1; exact propext ⟨fun _ => by omega, fun _ => by omega⟩
    rw [this]
theorem lat_nd (ns : List Nd) (i : Nat) : lAt ([], 0, 0, 0, [], ()) ns (i : Int) = ndN ns i := by show ns.getD (i : Int).toNat _ = _; rw [Int.toNat_natCast]; rfl
theorem lat_w (W : IL) (i : Nat) : (lAt (0, ()) W (i : Int)).1 = wtN W i := by show (W.getD (i : Int).toNat _).1 = _; rw [Int.toNat_natCast]; rfl
structure WtG (ns : List Nd) (N : Nat) (W : IL) : Prop where
 len : W.length = N
 lt : ∀ m, m < N → 0 ≤ wtN W m → wtN W m < (ndN ns m).2.2.2.2.1.length
section
variable {N : Nat} {ns : List Nd} {ds : List Dv} {od W : IL}
theorem e47 (hl : ns.length = N) (hN : N ≤ 11) (hw : WtG ns N W) {n : Nat} (hn : n < N) : sp47 ((ns, ds, od, ()), W, (n : Int), ()) = some ((csN ns W n N : Int), (ns, ds, od, ()), ()) := by
 show sh47 100000 (ns, ds, od, ()) W (n : Int) = _
 unfold sh47
 simp only [joinK]
 have hwl := hw.len
 refine iter_count (F := sh47_L2 sh47_K0) (r := some ((csN ns W n N : Int), (ns, ds, od, ()), ())) (fun k : Nat => ((n : Int), ((csN ns W n k : Nat) : Int), W, (W.length : Int), (k : Int), (ns, ds, od, ()), ())) N 100000 (by omega) (fun rc k hk => ?_) (fun rc => ?_)
 ·have hs : csN ns W n k < 2048 := Nat.lt_of_lt_of_le (cs_lt ns W n k) (Nat.pow_le_pow_right (by omega) (by omega : k ≤ 11))
  have ec : csN ns W n (k + 1) = if comN ns W n k = true then csN ns W n k ||| 2 ^ k else csN ns W n k := rfl
  unfold sh47_L2
  simp only [joinK]
  rw [if_pos (by simp; omega), if_pos (inR_nat (by omega)), lat_w, lat_nd]
  have skip : comN ns W n k = false → sh47_K5 (sh47_K3 rc) ((n : Int), ((csN ns W n k : Nat) : Int), (k : Int), W, (W.length : Int), (k : Int), false, (ns, ds, od, ()), ()) = rc ((n : Int), ((csN ns W n (k + 1) : Nat) : Int), W, (W.length : Int), ((k + 1 : Nat) : Int), (ns, ds, od, ()), ()) := fun hc => by
   unfold sh47_K5 sh47_K3
   simp only
   rw [if_neg (by simp), up1' hk, ec, hc, if_neg (by simp)]
  by_cases h1 : k = n
  ·subst h1
   have hc : comN ns W k k = false := by unfold comN; simp
   rw [if_neg (by simp)]
   exact skip hc
  have h1' : ((k : Int) != (n : Int)) = true := by simp only [bne_iff_ne, ne_eq]; omega
  rw [if_pos h1']
  by_cases h2 : 0 ≤ wtN W k
  ·have hlt := hw.lt k hk h2
   have hin : inR (wtN W k) (ndN ns k).2.2.2.2.1.length = true := by simp only [inR, Bool.and_eq_true, decide_eq_true_eq]; omega
   rw [if_pos (by simpa using h2), if_pos (inR_nat (by omega)), if_pos hin]
   have ht : (lAt (0, ()) (ndN ns k).2.2.2.2.1 (wtN W k)).1 = tgN ns W k := rfl
   rw [ht]
   have hcom : comN ns W n k = (tgN ns W k == (n : Int)) := by
    unfold comN
    rw [show (k != n) = true by simpa using h1, decide_eq_true h2]; simp
   cases htn : tgN ns W k == (n : Int) with
   | true =>
    rw [htn] at hcom
    unfold sh47_K5 sh47_K3
    simp only
    rw [if_pos trivial, if_pos (by simp), or_bit hs (by omega), up1' hk, ec, hcom, if_pos rfl]
   | false =>
    rw [htn] at hcom
    exact skip hcom
  ·have hc : comN ns W n k = false := by unfold comN; rw [decide_eq_false h2]; simp
   rw [if_neg (by simpa using h2)]
   exact skip hc
 ·unfold sh47_L2
  simp only
  rw [if_neg (by simp; omega)]
  rfl
end
def updN (W le : IL) (s : Nat) : IL := (List.range le.length).map fun j => if s.testBit j = true then (wtN W j, ()) else le.getD j (0, ())
theorem upd_zero (W le : IL) : updN W le 0 = le := by
 unfold updN
 apply List.ext_getElem (by simp)
 intro i h1 h2
 simp only [List.getElem_map, List.getElem_range, Nat.zero_testBit, Bool.false_eq_true, if_false]
 rw [List.getD_eq_getElem?_getD, List.getElem?_eq_getElem h2]; rfl
theorem upd_len (W le : IL) (s : Nat) : (updN W le s).length = le.length := by simp [updN]
theorem upd_at (W le : IL) (s : Nat) {j : Nat} (hj : j < le.length) : wtN (updN W le s) j = if s.testBit j = true then wtN W j else wtN le j := by
 unfold updN wtN
 rw [List.getD_eq_getElem?_getD, List.getElem?_map, List.getElem?_range hj]
 simp only [Option.map_some, Option.getD_some]
 split <;> rfl
theorem wt_ext {a b : IL} (hl : a.length = b.length) (h : ∀ j, j < a.length → wtN a j = wtN b j) : a = b := by
 apply List.ext_getElem hl
 intro i h1 h2
 have := h i h1
 unfold wtN at this
 rw [List.getD_eq_getElem?_getD, List.getElem?_eq_getElem h1, List.getD_eq_getElem?_getD, List.getElem?_eq_getElem h2] at this
 exact Prod.ext this rfl
theorem wt_set (le : IL) (m : Nat) (v : Int) (j : Nat) (hm : m < le.length) : wtN (le.set m (v, ())) j = if j = m then v else wtN le j := by
 unfold wtN
 rw [List.getD_eq_getElem?_getD, List.getElem?_set]
 by_cases e : m = j
 ·subst e; simp [hm]
 ·rw [if_neg e, if_neg (fun h => e h.symm), List.getD_eq_getElem?_getD]
theorem lat_pair (W : IL) (m : Nat) : lAt (0, ()) W (m : Int) = (wtN W m, ()) := by
 show W.getD (m : Int).toNat _ = _
 rw [Int.toNat_natCast]; rfl
theorem loop8 {R : Type} (rc3 : S29 → Option R) (c : Int) (b : Bool) (L : Ty7) (P : Ty4) (W od x1 x2 en : IL) (N : Nat) (hN : N ≤ 11) (hW : W.length = N) :
  ∀ (f s : Nat) (le : IL), s < f → s < 2048 → le.length = N → (∀ j, N ≤ j → s.testBit j = false) →
   iter f (r29_L8 rc3) ((s : Int), c, b, L, (), P, (), (), (W, ()), (od, ()), x1, x2, le, en, ()) = rc3 (c, b, L, (), P, (), (), (W, ()), (od, ()), x1, x2, updN W le s, en, ()) := by
 intro f
 induction f with
 | zero => intro s le h; omega
 | succ f ih =>
  intro s le hsf hs hle hbits
  rw [iter_succ]
  generalize hF : iter f (r29_L8 rc3) = F
  unfold r29_L8
  simp only
  by_cases h0 : s = 0
  ·subst h0
   rw [if_neg (by simp), upd_zero]
  ·obtain ⟨a1, a2, a3, a4, a5⟩ := low_bits hs h0
   have hlow : low s < N := by
    rcases Nat.lt_or_ge (low s) N with h | h
    ·exact h
    ·rw [hbits _ h] at a2; cases a2
   rw [if_pos (by simp; omega), e49 hs h0, Option.bind_some]
   simp only
   rw [if_pos (inR_nat (by omega)), if_pos (inR_nat (by omega)), if_pos (decide_eq_true (by rw [Int.toNat_natCast]; omega)), and_less hs h0, Int.toNat_natCast, lat_pair]
   rw [← hF, ih _ _ (by omega) (by omega) (by rw [List.length_set]; exact hle) (fun j hj => by
    rcases Nat.lt_or_ge j 11 with h | h
    ·rw [a4 j h, hbits j hj]; rfl
    ·exact Nat.testBit_lt_two_pow (Nat.lt_of_lt_of_le (show (s &&& (s - 1)) < 2 ^ 11 by omega) (Nat.pow_le_pow_right (by omega) h)))]
   congr 1
   have e : updN W (le.set (low s) (wtN W (low s), ())) (s &&& (s - 1)) = updN W le s := by
    refine wt_ext (by rw [upd_len, upd_len, List.length_set]) fun j hj => ?_
    rw [upd_len, List.length_set] at hj
    rw [upd_at _ _ _ (by rw [List.length_set]; exact hj), upd_at _ _ _ hj, a4 j (by omega), wt_set _ _ _ _ (by omega)]
    by_cases e : j = low s
    ·subst e; simp [a2]
    ·cases s.testBit j <;> simp [e]
   rw [e]
def kdN (ns : List Nd) (n : Nat) : Int := (ndN ns n).2.1
def stN (ns : List Nd) (n : Nat) : Bool := decide (1 ≤ kdN ns n) && decide (kdN ns n ≤ 6)
def slN (slots : LL) (n : Nat) : IL := (slots.getD n ([], ())).1
def s0N (slots : LL) (n : Nat) : Int := wtN (slN slots n) 0
def opN (ns : List Nd) (slots : LL) (n : Nat) : Bool := if stN ns n = true then (if kdN ns n = 5 ∧ freeV (slN slots n) < 2 then false else s0N slots n == 0) else true
def arN (ns : List Nd) (slots : LL) (W le : IL) (n : Nat) : Bool := kdN ns n == 5 && (decide (0 ≤ wtN W n) && (decide (wtN le n < 0) && s0N slots n == 0))
def leA (ns : List Nd) (slots : LL) (W le : IL) (n : Nat) : IL := if arN ns slots W le n = true then le.set n (0, ()) else le
def rndV (ns : List Nd) (slots : LL) (W : IL) (N n : Nat) (le en : IL) : IL × IL :=
 if stN ns n = true then
  if (csN ns W n N != 0 && (opN ns slots n && !arN ns slots W le n)) = true then ((leA ns slots W le n).set (low (csN ns W n N)) (wtN W (low (csN ns W n N)), ()), en.set n ((low (csN ns W n N) : Nat), ()))
  else (leA ns slots W le n, en)
 else (updN W (leA ns slots W le n) (csN ns W n N), en)
theorem lat_sl (slots : LL) (n : Nat) : (lAt ([], ()) slots (n : Int)).1 = slN slots n := by show (slots.getD (n : Int).toNat _).1 = _; rw [Int.toNat_natCast]; rfl
theorem lat_pr (slots : LL) (n : Nat) : lAt ([], ()) slots (n : Int) = (slN slots n, ()) := by show slots.getD (n : Int).toNat _ = _; rw [Int.toNat_natCast]; rfl
theorem lat_z (l : IL) : (lAt (0, ()) l 0).1 = wtN l 0 := rfl
theorem inR0 {n : Nat} (h : 0 < n) : inR 0 n = true := by simp [inR, h]
section
variable {N gate : Nat} {ns : List Nd} {ds : List Dv} {od W : IL} {n0 : Int} {slots bins : LL}
theorem nd_get (h : LayG N gate ns) {n : Nat} (hn : n < N) : NodeG N gate n (ndN ns n) := by
 have hl : n < ns.length := by rw [h.len]; exact hn
 have e : ndN ns n = ns[n] := by unfold ndN; rw [List.getD_eq_getElem?_getD, List.getElem?_eq_getElem hl]; rfl
 rw [e]; exact h.node n hl
theorem sl_len (h : LayG N gate ns) (hp : PlG ns n0 N slots bins) {n : Nat} (hn : n < N) : ((slN slots n).length : Int) = (ndN ns n).2.2.1 := by
 have hl : n < ns.length := by rw [h.len]; exact hn
 have hs : n < slots.length := by rw [hp.ls]; exact hn
 have e : ndN ns n = ns[n] := by unfold ndN; rw [List.getD_eq_getElem?_getD, List.getElem?_eq_getElem hl]; rfl
 have e2 : slN slots n = slots[n].1 := by unfold slN; rw [List.getD_eq_getElem?_getD, List.getElem?_eq_getElem hs]; rfl
 rw [e, e2]; exact (hp.sl n hs hl).1
theorem st_pos (h : LayG N gate ns) (hp : PlG ns n0 N slots bins) {n : Nat} (hn : n < N) (hs : stN ns n = true) : 0 < (slN slots n).length ∧ (slN slots n).length ≤ 4 := by
 have hx := nd_get h hn
 have hl := sl_len h hp hn
 unfold stN kdN at hs
 simp only [Bool.and_eq_true, decide_eq_true_eq] at hs
 have := hx.len1 hs.2
 omega
structure RdG (N : Nat) (ns : List Nd) (slots : LL) : Prop where
 N11 : N ≤ 11
 len : ns.length = N
 ls : slots.length = N
 pos : ∀ n, n < N → stN ns n = true → 0 < (slN slots n).length ∧ (slN slots n).length ≤ 4
theorem rd_lay (h : LayG N gate ns) (hp : PlG ns n0 N slots bins) : RdG N ns slots := ⟨h.N11, h.len, hp.ls, fun n hn => st_pos h hp hn⟩
theorem k48 (ns : List Nd) (n : Nat) : sp48 ((ndN ns n).2.1, ()) = some (stN ns n, ()) := e48 _
theorem e31 (h : RdG N ns slots) {n : Nat} (hn : n < N) : sp31 ((ns, ds, od, ()), (slots, bins, ()), (n : Int), ()) = some (opN ns slots n, (ns, ds, od, ()), ()) := by
 have hl : n < ns.length := by rw [h.len]; exact hn
 have hs : n < slots.length := by rw [h.ls]; exact hn
 show sh31 0 (ns, ds, od, ()) (slots, bins, ()) (n : Int) = _
 unfold sh31 opN
 simp only [joinK]
 rw [if_pos (inR_nat hl), lat_nd, k48, Option.bind_some]
 simp only
 cases hst : stN ns n with
 | false => rw [if_pos (by rfl), if_neg (by simp)]
 | true =>
  have hp1 := h.pos n hn hst
  rw [if_neg (by simp), if_pos rfl, if_pos (inR_nat hl)]
  have fin : ∀ b : Bool, sh31_K1 ((n : Int), b, (ns, ds, od, ()), (slots, bins, ()), ()) = some ((if b = true then false else s0N slots n == 0), (ns, ds, od, ()), ()) := fun b => by
   unfold sh31_K1
   simp only
   cases b with
   | true => rfl
   | false => rw [if_neg (by simp), if_pos (inR_nat hs), lat_sl, if_pos (inR0 hp1.1), lat_z]; rfl
  by_cases h5 : kdN ns n = 5
  ·rw [if_pos (by unfold kdN at h5; simpa using h5), if_pos (inR_nat hs), lat_pr, e54 _ (by omega), Option.bind_some]
   simp only
   rw [fin]
   by_cases hf : freeV (slN slots n) < 2
   ·rw [if_pos (decide_eq_true (by omega)), if_pos ⟨h5, hf⟩]
   ·rw [if_neg (by simp; omega), if_neg (fun h => hf h.2)]
  ·rw [if_neg (by unfold kdN at h5; simpa using h5), fin, if_neg (by simp), if_neg (fun h => h5 h.1)]
theorem rnd (h : RdG N ns slots) (hw : WtG ns N W) (c : Int) (b : Bool) (x1 x2 le en : IL) {n : Nat} (hn : n < N) (hle : le.length = N) (hen : en.length = N) :
  r29 100000 (fun z => some z) (c, b, (ns, ds, od, ()), (), (slots, bins, ()), (), (), (W, ()), (od, ()), x1, x2, le, en, ()) (n : Int) =
   some (c, b, (ns, ds, od, ()), (), (slots, bins, ()), (), (), (W, ()), (od, ()), x1, x2, (rndV ns slots W N n le en).1, (rndV ns slots W N n le en).2, ()) := by
 have h11 := h.N11
 have hl : n < ns.length := by rw [h.len]; exact hn
 have hs : n < slots.length := by rw [h.ls]; exact hn
 have hW := hw.len
 have hcs : csN ns W n N < 2048 := Nat.lt_of_lt_of_le (cs_lt ns W n N) (Nat.pow_le_pow_right (by omega) (by omega : N ≤ 11))
 have hbits : ∀ j, N ≤ j → (csN ns W n N).testBit j = false := fun j hj => by rw [cs_bit, decide_eq_false (by omega)]; rfl
 have hla : (leA ns slots W le n).length = N := by unfold leA; split <;> simp [hle]
 have k5 : ∀ ar : Bool, ar = arN ns slots W le n → r29_K5 100000 (fun z : S29 => some z) ((n : Int), ar, c, b, (ns, ds, od, ()), (), (slots, bins, ()), (), (), (W, ()), (od, ()), x1, x2, leA ns slots W le n, en, ()) =
   some (c, b, (ns, ds, od, ()), (), (slots, bins, ()), (), (), (W, ()), (od, ()), x1, x2, (rndV ns slots W N n le en).1, (rndV ns slots W N n le en).2, ()) := fun ar har => by
  unfold r29_K5
  simp only [joinK]
  rw [e47 h.len h11 hw hn, Option.bind_some]
  simp only
  rw [if_pos (inR_nat hl), lat_nd, k48, Option.bind_some]
  simp only
  unfold rndV
  cases hst : stN ns n with
  | false =>
   rw [if_pos (by rfl), if_neg (by simp)]
   exact loop8 _ c b _ _ W od x1 x2 en N h11 hW 100000 _ _ (by omega) hcs hla hbits
  | true =>
   rw [if_neg (by simp), if_pos rfl]
   have k10 : ∀ f : Bool, r29_K10 (fun z : S29 => some z) ((n : Int), ((csN ns W n N : Nat) : Int), c, b, f, (ns, ds, od, ()), (), (slots, bins, ()), (), (), (W, ()), (od, ()), x1, x2, leA ns slots W le n, en, ()) =
     some (c, b, (ns, ds, od, ()), (), (slots, bins, ()), (), (), (W, ()), (od, ()), x1, x2, (if f = true then (leA ns slots W le n).set (low (csN ns W n N)) (wtN W (low (csN ns W n N)), ()) else leA ns slots W le n), (if f = true then en.set n ((low (csN ns W n N) : Nat), ()) else en), ()) ∨ (f = true ∧ csN ns W n N = 0) := fun f => by
    cases f with
    | false => left; unfold r29_K10; simp only; rw [if_neg (by simp)]; rfl
    | true =>
     by_cases h0 : csN ns W n N = 0
     ·exact .inr ⟨rfl, h0⟩
     left
     obtain ⟨a1, a2, _⟩ := low_bits hcs h0
     have hlow : low (csN ns W n N) < N := by
      rcases Nat.lt_or_ge (low (csN ns W n N)) N with h | h
      ·exact h
      ·rw [hbits _ h] at a2; cases a2
     unfold r29_K10
     simp only
     rw [if_pos trivial, e49 hcs h0, Option.bind_some]
     simp only
     rw [if_pos (inR_nat (by omega)), if_pos (inR_nat (by omega)), if_pos (decide_eq_true (by rw [Int.toNat_natCast]; omega)), if_pos (inR_nat (by omega)), if_pos (decide_eq_true (by rw [Int.toNat_natCast]; omega)), Int.toNat_natCast, Int.toNat_natCast, lat_pair]
     rfl
   by_cases h0 : csN ns W n N = 0
   ·rw [h0, if_neg (by simp), if_neg (by simp)]
    have := (k10 false).resolve_right (by simp)
    rw [h0] at this
    rw [this]; rfl
   ·rw [if_pos (by simp; omega), e31 h hn, Option.bind_some]
    simp only
    rw [show (csN ns W n N != 0) = true by simpa using h0, Bool.true_and]
    cases hop : opN ns slots n with
    | true =>
     rw [if_pos rfl, ← har, Bool.true_and]
     rw [(k10 (!ar)).resolve_right (fun h => h0 h.2)]
     cases ar <;> rfl
    | false =>
     rw [if_neg (by simp), if_neg (by simp), (k10 false).resolve_right (by simp)]; rfl
 have k4 : ∀ ar : Bool, ar = arN ns slots W le n → r29_K4 100000 (fun z : S29 => some z) ((n : Int), ar, c, b, (ns, ds, od, ()), (), (slots, bins, ()), (), (), (W, ()), (od, ()), x1, x2, le, en, ()) =
   some (c, b, (ns, ds, od, ()), (), (slots, bins, ()), (), (), (W, ()), (od, ()), x1, x2, (rndV ns slots W N n le en).1, (rndV ns slots W N n le en).2, ()) := fun ar har => by
  have := k5 ar har
  unfold r29_K4
  simp only [joinK]
  cases ar with
  | true =>
   rw [if_pos rfl, if_pos (inR_nat (by omega)), if_pos (decide_eq_true (by rw [Int.toNat_natCast]; omega)), Int.toNat_natCast]
   unfold leA at this
   rw [← har, if_pos rfl] at this
   exact this
  | false =>
   rw [if_neg (by simp)]
   unfold leA at this
   rw [← har, if_neg (by simp)] at this
   exact this
 unfold r29
 simp only [joinK]
 rw [if_pos (inR_nat hl), lat_nd]
 by_cases h5 : kdN ns n = 5
 ·have hst : stN ns n = true := by unfold stN; rw [h5]; rfl
  have hp1 := h.pos n hn hst
  rw [if_pos (by unfold kdN at h5; simpa using h5), if_pos (inR_nat (by omega)), lat_w]
  by_cases hw0 : 0 ≤ wtN W n
  ·rw [if_pos (by simpa using hw0), if_pos (inR_nat (by omega)), if_pos (decide_eq_true (by rw [Int.toNat_natCast]; omega)), Int.toNat_natCast]
   have ew : (le.getD n (0, ())).1 = wtN le n := rfl
   rw [ew]
   by_cases hl0 : wtN le n < 0
   ·rw [if_pos (by simpa using hl0), if_pos (inR_nat hs), lat_sl, if_pos (inR0 hp1.1), lat_z]
    refine k4 _ ?_
    unfold arN
    rw [h5, decide_eq_true hw0, decide_eq_true hl0]; simp [s0N]
   ·rw [if_neg (by simpa using hl0)]
    exact k4 _ (by unfold arN; rw [decide_eq_false hl0]; simp)
  ·rw [if_neg (by simpa using hw0)]
   exact k4 _ (by unfold arN; rw [decide_eq_false hw0]; simp)
 ·rw [if_neg (by unfold kdN at h5; simpa using h5)]
  exact k4 _ (by unfold arN; rw [show (kdN ns n == 5) = false by simpa using h5]; rfl)
end
def runV (ns : List Nd) (slots : LL) (W : IL) (N : Nat) (l : List Nat) (p : IL × IL) : IL × IL := l.foldl (fun p n => rndV ns slots W N n p.1 p.2) p
theorem rnd_len (ns : List Nd) (slots : LL) (W : IL) (N n : Nat) (le en : IL) : (rndV ns slots W N n le en).1.length = le.length ∧ (rndV ns slots W N n le en).2.length = en.length := by
 have h : (leA ns slots W le n).length = le.length := by unfold leA; split <;> simp
 unfold rndV
 split
 ·split <;> simp [h]
 ·simp [upd_len, h]
def lsN (slots : LL) (ns : List Nd) (n : Nat) : Int := wtN (slN slots n) ((ndN ns n).2.2.1.toNat - 1)
def waV (ns : List Nd) (slots bins : LL) (c : IL) (fs : List Dv) (n : Nat) : Int :=
 if kdN ns n = 7 then (if ((slN bins n).any fun y => y.1 == wtN c n) = true then 0 else -1)
 else if stN ns n = true then (if lsN slots ns n = 0 ∨ fs.any (eqF (1, (n : Int), (ndN ns n).2.2.1 - 1, ())) = true then -1 else wtN c n)
 else -1
def waL (ns : List Nd) (slots bins : LL) (c : IL) (fs : List Dv) (k : Nat) : IL := (List.range k).map fun n => (waV ns slots bins c fs n, ())
theorem wa_len (ns : List Nd) (slots bins : LL) (c : IL) (fs : List Dv) (k : Nat) : (waL ns slots bins c fs k).length = k := by simp [waL]
theorem wa_at (ns : List Nd) (slots bins : LL) (c : IL) (fs : List Dv) {k n : Nat} (h : n < k) : wtN (waL ns slots bins c fs k) n = waV ns slots bins c fs n := by
 unfold waL wtN
 rw [List.getD_eq_getElem?_getD, List.getElem?_map, List.getElem?_range h]; rfl
section
variable {N gate : Nat} {ns : List Nd} {ds : List Dv} {od W : IL} {n0 : Int} {slots bins : LL}
theorem fold_run (h : RdG N ns slots) (hw : WtG ns N W) (c : Int) (b : Bool) (x1 x2 : IL) : ∀ (l : List Nat) (le en : IL), (∀ n ∈ l, n < N) → le.length = N → en.length = N →
  fold29 (c, b, (ns, ds, od, ()), (), (slots, bins, ()), (), (), (W, ()), (od, ()), x1, x2, le, en, ()) (l.map fun n : Nat => (n : Int)) =
   some (c, b, (ns, ds, od, ()), (), (slots, bins, ()), (), (), (W, ()), (od, ()), x1, x2, (runV ns slots W N l (le, en)).1, (runV ns slots W N l (le, en)).2, ())
 | [], le, en, _, _, _ => rfl
 | n :: l, le, en, hl, hle, hen => by
  have e1 := rnd (ds := ds) (od := od) (bins := bins) h hw c b x1 x2 le en (hl n (List.mem_cons_self ..)) hle hen
  have hln := rnd_len ns slots W N n le en
  have ih := fold_run h hw c b x1 x2 l _ _ (fun m hm => hl m (List.mem_cons_of_mem _ hm)) (hln.1.trans hle) (hln.2.trans hen)
  unfold fold29 at ih ⊢
  rw [List.map_cons, List.foldlM_cons, e1]
  exact ih
theorem ok29 (h : RdG N ns slots) (hw : WtG ns N W) (hod : od = ilN (List.range N)) (c : Int) (b : Bool) (x1 x2 le en : IL) (hle : le.length = N) (hen : en.length = N) :
  Ok29 (c, b, (ns, ds, od, ()), (), (slots, bins, ()), (), (), (W, ()), (od, ()), x1, x2, le, en, ()) := by
 intro pre hpre _
 have ho : ∀ n ∈ pre, ∃ m : Nat, m < N ∧ n = m := fun n hn => by
  have := hpre n hn
  unfold ord29 at this
  simp only [hod, ilN, List.map_map, List.mem_map, List.mem_range] at this
  obtain ⟨m, hm, e⟩ := this
  exact ⟨m, hm, e.symm⟩
 have e : pre = (pre.map Int.toNat).map fun n : Nat => (n : Int) := by
  rw [List.map_map]
  conv => lhs; rw [← List.map_id pre]
  exact List.map_congr_left fun n hn => by
   obtain ⟨m, _, rfl⟩ := ho n hn
   simp
 have hl : ∀ n ∈ pre.map Int.toNat, n < N := fun n hn => by
  obtain ⟨m, hm, rfl⟩ := List.mem_map.1 hn
  obtain ⟨k, hk, rfl⟩ := ho m hm
  simpa using hk
 rw [e]
 exact ⟨_, fold_run h hw c b x1 x2 _ le en hl hle hen, rfl, rfl, rfl⟩
theorem e45 (h : LayG N gate ns) (hp : PlG ns n0 N slots bins) (c : IL) {fs : List Dv} (hf : fs.length ≤ 90000) {n : Nat} (hn : n < N) :
  sp45 ((ns, ds, od, ()), (slots, bins, ()), (n : Int), wtN c n, fs, ()) = some (waV ns slots bins c fs n, (ns, ds, od, ()), ()) := by
 have hl : n < ns.length := by rw [h.len]; exact hn
 have hs : n < slots.length := by rw [hp.ls]; exact hn
 have hb : n < bins.length := by rw [hp.lb]; exact hn
 have hbl : (slN bins n).length ≤ 1 := by
  have := (hp.bn n hb (by rw [List.getElem?_eq_getElem hs]; rfl)).1
  unfold slN; rw [List.getD_eq_getElem?_getD, List.getElem?_eq_getElem hb]; exact this
 show sh45 0 (ns, ds, od, ()) (slots, bins, ()) (n : Int) (wtN c n) fs = _
 unfold sh45 waV
 rw [if_pos (inR_nat hl), lat_nd]
 by_cases h7 : kdN ns n = 7
 ·rw [if_pos (by unfold kdN at h7; simpa using h7), if_pos (inR_nat hb), lat_sl, f66 (slN bins n) _ (by omega), Option.bind_some, if_pos h7]
  simp only
  cases (slN bins n).any fun y => y.1 == wtN c n <;> rfl
 ·rw [if_neg (by unfold kdN at h7; simpa using h7), k48, Option.bind_some, if_neg h7]
  simp only
  cases hst : stN ns n with
  | false => rw [if_pos (by rfl), if_neg (by simp)]
  | true =>
   have hp1 := st_pos h hp hn hst
   have hsl := sl_len h hp hn
   have hwr : IntKind.i64.wrap ((ndN ns n).2.2.1 - 1) = (((ndN ns n).2.2.1.toNat - 1 : Nat) : Int) := by rw [wrapI (by omega) (by omega)]; omega
   rw [if_neg (by simp), if_pos rfl]
   simp only [joinK]
   rw [if_pos (inR_nat hs), lat_sl, hwr, if_pos (inR_nat (by omega)), lat_w]
   have els : wtN (slN slots n) ((ndN ns n).2.2.1.toNat - 1) = lsN slots ns n := rfl
   rw [els]
   have ew : (((ndN ns n).2.2.1.toNat - 1 : Nat) : Int) = (ndN ns n).2.2.1 - 1 := by omega
   unfold sh45_K2
   simp only
   by_cases h0 : lsN slots ns n = 0
   ·rw [if_pos (by simpa using h0), if_pos trivial, if_pos (.inl h0)]
   ·rw [if_neg (by simpa using h0), f67 _ _ hf, Option.bind_some, ew]
    simp only
    cases hfa : fs.any (eqF (1, (n : Int), (ndN ns n).2.2.1 - 1, ())) with
    | true => rw [if_pos rfl, if_pos (.inr rfl)]
    | false => rw [if_neg (by simp), if_neg (by simp [h0])]
def mon (k : Nat) : IL := List.replicate k (-1, ())
theorem q_lay (h : LayG N gate ns) (hp : PlG ns n0 N slots bins) {c : IL} (hc : c.length = N) {fs : List Dv} (hf : fs.length ≤ 90000) :
  q29 100000 (ns, ds, od, ()) (slots, bins, ()) c fs = some ((N : Int), false, (ns, ds, od, ()), (), (slots, bins, ()), (), (), (waL ns slots bins c fs N, ()), (od, ()), [], [], mon N, mon N, ()) := by
 have hl := h.len
 have h11 := h.N11
 unfold q29
 simp only [joinK]
 rw [hl]
 refine iter_count (F := r29_L17 _) (r := _) (fun k : Nat => (c, fs, (N : Int), (k : Int), (ns, ds, od, ()), (), (slots, bins, ()), (), (), (), [], [], mon k, mon k, waL ns slots bins c fs k, ())) N 100000 (by omega) (fun rc k hk => ?_) (fun rc => ?_)
 ·unfold r29_L17
  simp only
  have hm : (mon k).length = k := by simp [mon]
  have em : mon k ++ [(-1, ())] = mon (k + 1) := by unfold mon; rw [List.replicate_succ']
  have ewa : waL ns slots bins c fs k ++ [(waV ns slots bins c fs k, ())] = waL ns slots bins c fs (k + 1) := by unfold waL; rw [List.range_succ, List.map_append]; rfl
  rw [if_pos (by simpa using hk), hm, if_pos (dlim (by omega)), if_pos (dlim (by omega)), if_pos (dlim (by omega)), if_pos (dlim (by omega)), if_pos (inR_nat (by omega)), lat_w, e45 h hp c hf hk, Option.bind_some]
  simp only
  rw [wa_len, if_pos (dlim (by omega)), if_pos (dlim (by omega)), up1' hk, em, ewa]
 ·unfold r29_L17
  simp only
  rw [if_neg (by simp)]
  simp
theorem wt_lay (h : LayG N gate ns) (hp : PlG ns n0 N slots bins) {c : IL} (hc : c.length = N) (hcs : ∀ (j : Nat) (h1 : j < c.length) (h2 : j < ns.length), CmdG ns[j] (c[j]).1) (fs : List Dv) : WtG ns N (waL ns slots bins c fs N) where
 len := wa_len ..
 lt := fun m hm h0 => by
  rw [wa_at _ _ _ _ _ hm] at h0 ⊢
  have hl : m < ns.length := by rw [h.len]; exact hm
  have hx := nd_get h hm
  have hk1 := hx.kind1
  have hcm := hcs m (by omega) hl
  have e : ndN ns m = ns[m] := by unfold ndN; rw [List.getD_eq_getElem?_getD, List.getElem?_eq_getElem hl]; rfl
  have ew : wtN c m = (c[m]'(by omega)).1 := by unfold wtN; rw [List.getD_eq_getElem?_getD, List.getElem?_eq_getElem (by omega)]; rfl
  unfold waV at h0 ⊢
  by_cases h7 : kdN ns m = 7
  ·rw [if_pos h7] at h0 ⊢
   split at h0
   ·rename_i hb
    rw [if_pos hb, hx.cnt]
    unfold kdN at h7
    rw [h7]; decide
   ·omega
  ·rw [if_neg h7] at h0 ⊢
   by_cases hst : stN ns m = true
   ·rw [if_pos hst] at h0 ⊢
    split at h0
    ·omega
    ·rename_i hb
     rw [if_neg hb]
     unfold stN kdN at hst
     simp only [Bool.and_eq_true, decide_eq_true_eq] at hst
     unfold CmdG at hcm
     rw [← e, ← ew, if_neg (by unfold kdN at h7; exact h7), if_neg (by omega)] at hcm
     rcases hcm with h | h
     ·exact h.2
     ·omega
   ·rw [if_neg hst] at h0; omega
theorem e29 (h : LayG N gate ns) (hp : PlG ns n0 N slots bins) {c : IL} (hc : c.length = N) (hcs : ∀ (j : Nat) (h1 : j < c.length) (h2 : j < ns.length), CmdG ns[j] (c[j]).1) {fs : List Dv} (hf : fs.length ≤ 90000) :
  sp29 ((ns, ds, ilN (List.range N), ()), (slots, bins, ()), c, fs, ()) = some (((runV ns slots (waL ns slots bins c fs N) N (List.range N).reverse (mon N, mon N)).1, (runV ns slots (waL ns slots bins c fs N) N (List.range N).reverse (mon N, mon N)).2, ()), (ns, ds, ilN (List.range N), ()), ()) := by
 have h11 := h.N11
 have hw := wt_lay h hp hc hcs fs
 have hm : (mon N).length = N := by simp [mon]
 unfold sp29
 simp only
 rw [q_lay h hp hc hf, Option.bind_some]
 have hor : ord29 ((N : Int), false, (ns, ds, ilN (List.range N), ()), (), (slots, bins, ()), (), (), (waL ns slots bins c fs N, ()), (ilN (List.range N), ()), [], [], mon N, mon N, ()) = (List.range N).map fun n : Nat => (n : Int) := by
  simp [ord29, ilN]
 rw [if_pos ⟨ok29 (rd_lay h hp) hw rfl _ _ _ _ _ _ hm hm, by rw [hor]; simp; omega⟩, hor, ← List.map_reverse, fold_run (rd_lay h hp) hw _ _ _ _ _ _ _ (fun n hn => by simpa using hn) hm hm]
 rfl
theorem e11 (h : LayG N gate ns) (hd : DevG ns ds) (hp : PlG ns n0 N slots bins) {c : IL} (hc : c.length = N) (hcs : ∀ (j : Nat) (h1 : j < c.length) (h2 : j < ns.length), CmdG ns[j] (c[j]).1) {fs : List Dv} (hf : fs.length ≤ 90000)
  (hr : sp28 ((ns, ds, ilN (List.range N), ()), c, fs, ()) = some (0, (ns, ds, ilN (List.range N), ()), ())) :
  sp11 ((ns, ds, ()), (slots, bins, ()), c, fs, ()) = some ((((runV ns slots (waL ns slots bins c fs N) N (List.range N).reverse (mon N, mon N)).1, (runV ns slots (waL ns slots bins c fs N) N (List.range N).reverse (mon N, mon N)).2, ()), 0, ()), ()) := by
 show sh11 0 (ns, ds, ()) (slots, bins, ()) c fs = _
 unfold sh11
 simp only [joinK]
 rw [e40 h hd, Option.bind_some]
 simp only
 rw [if_neg (by simp), e41 h hd, Option.bind_some, ord_lay h]
 unfold sh11_K0
 simp only [joinK]
 rw [if_neg (by simp), e27 h hp, Option.bind_some]
 unfold sh11_K1
 simp only
 rw [if_neg (by simp), hr, Option.bind_some]
 simp only
 rw [if_neg (by simp), e29 h hp hc hcs hf, Option.bind_some]
end
section
variable {ns : List Nd} {slots : LL} {W : IL} {N : Nat}
theorem leA_at (le : IL) {n : Nat} (j : Nat) (hn : n < le.length) : wtN (leA ns slots W le n) j = if arN ns slots W le n = true ∧ j = n then 0 else wtN le j := by
 unfold leA
 by_cases ha : arN ns slots W le n = true
 ·rw [if_pos ha, wt_set _ _ _ _ hn]
  by_cases e : j = n
  ·rw [if_pos e, if_pos ⟨ha, e⟩]
  ·rw [if_neg e, if_neg fun h => e h.2]
 ·rw [if_neg ha, if_neg fun h => ha h.1]
theorem cs_mem {n j : Nat} (h : (csN ns W n N).testBit j = true) : j < N ∧ j ≠ n ∧ 0 ≤ wtN W j ∧ tgN ns W j = n := by
 rw [cs_bit] at h
 unfold comN at h
 simp only [Bool.and_eq_true, decide_eq_true_eq, bne_iff_ne, ne_eq, beq_iff_eq] at h
 exact ⟨h.1, h.2.1, h.2.2.1, h.2.2.2⟩
theorem cs_2048 (hN : N ≤ 11) (n : Nat) : csN ns W n N < 2048 := Nat.lt_of_lt_of_le (cs_lt ns W n N) (Nat.pow_le_pow_right (by omega) (by omega : N ≤ 11))
theorem rnd_le (hN : N ≤ 11) {n : Nat} (hn : n < N) (le en : IL) (hle : le.length = N) (j : Nat) (hj : j < N) :
  wtN (rndV ns slots W N n le en).1 j = wtN (leA ns slots W le n) j ∨ (j ≠ n ∧ 0 ≤ wtN W j ∧ tgN ns W j = n ∧ wtN (rndV ns slots W N n le en).1 j = wtN W j) := by
 have hla : (leA ns slots W le n).length = N := by unfold leA; split <;> simp [hle]
 unfold rndV
 split
 ·split
  ·rename_i hc
   simp only [Bool.and_eq_true, bne_iff_ne, ne_eq] at hc
   obtain ⟨a1, a2, _⟩ := low_bits (cs_2048 hN n) hc.1
   have hm := cs_mem a2
   simp only
   rw [wt_set _ _ _ _ (by omega)]
   by_cases e : j = low (csN ns W n N)
   ·right
    rw [if_pos e, e]
    exact ⟨hm.2.1, hm.2.2.1, hm.2.2.2, rfl⟩
   ·left; rw [if_neg e]
  ·exact .inl rfl
 ·simp only
  rw [upd_at _ _ _ (by omega)]
  by_cases hb : (csN ns W n N).testBit j = true
  ·right
   have hm := cs_mem hb
   rw [if_pos hb]
   exact ⟨hm.2.1, hm.2.2.1, hm.2.2.2, rfl⟩
  ·left; rw [if_neg hb]
end
def ns0 : List Nd := [([65], 1, 1, 0, [(3, ())], ()), ([66], 2, 1, 0, [(3, ())], ()), ([67], 2, 1, 0, [(3, ())], ()), ([68], 2, 1, 0, [(4, ())], ()), ([77], 9, 0, 0, [], ())]
def sl0 : LL := [([(0, ())], ()), ([(5, ())], ()), ([(6, ())], ()), ([(0, ())], ()), ([], ())]
def bi0 : LL := List.replicate 5 ([], ())
def c0 : IL := List.replicate 5 (0, ())
theorem parse0 : sp30 (lit0, ()) = some (((ns0, [], ()), 0, 0, ()), ()) := by kernel_rfl
theorem v0 : sp40 ((ns0, [], ()), ()) = some (0, ()) := by kernel_rfl
theorem o0 : sp41 ((ns0, [], ()), ()) = some (ilN (List.range 5), ()) := by kernel_rfl
theorem f0 : sp27 ((ns0, [], ilN (List.range 5), ()), (sl0, bi0, ()), ()) = some (true, (ns0, [], ilN (List.range 5), ()), ()) := by kernel_rfl
theorem r0 : sp28 ((ns0, [], ilN (List.range 5), ()), c0, [], ()) = some (0, (ns0, [], ilN (List.range 5), ()), ()) := by kernel_rfl
def W0 : IL := [(-1, ()), (0, ()), (0, ()), (-1, ()), (-1, ())]
theorem q0 : q29 100000 (ns0, [], ilN (List.range 5), ()) (sl0, bi0, ()) c0 [] = some (5, false, (ns0, [], ilN (List.range 5), ()), (), (sl0, bi0, ()), (), (), (W0, ()), (ilN (List.range 5), ()), [], [], mon 5, mon 5, ()) := by kernel_rfl
theorem rd0 : RdG 5 ns0 sl0 := ⟨by decide, rfl, rfl, by decide⟩
theorem wt0 : WtG ns0 5 W0 := ⟨rfl, by decide⟩
theorem run0 : runV ns0 sl0 W0 5 (List.range 5).reverse (mon 5, mon 5) = ([(-1, ()), (0, ()), (-1, ()), (-1, ()), (-1, ())], [(-1, ()), (-1, ()), (-1, ()), (1, ()), (-1, ())]) := by kernel_rfl
theorem e29c : sp29 ((ns0, [], ilN (List.range 5), ()), (sl0, bi0, ()), c0, [], ()) = some ((([(-1, ()), (0, ()), (-1, ()), (-1, ()), (-1, ())], [(-1, ()), (-1, ()), (-1, ()), (1, ()), (-1, ())], ()), (ns0, [], ilN (List.range 5), ()), ())) := by
 unfold sp29
 simp only
 rw [q0, Option.bind_some]
 have hor : ord29 ((5 : Int), false, (ns0, [], ilN (List.range 5), ()), (), (sl0, bi0, ()), (), (), (W0, ()), (ilN (List.range 5), ()), [], [], mon 5, mon 5, ()) = (List.range 5).map fun n : Nat => (n : Int) := by rfl
 rw [if_pos ⟨ok29 rd0 wt0 rfl _ _ _ _ _ _ rfl rfl, by rw [hor]; decide⟩, hor, ← List.map_reverse, fold_run rd0 wt0 _ _ _ _ _ _ _ (by decide) rfl rfl]
 rw [run0]
 rfl
theorem e14 : sp14 () = some (true, ()) := by
 have h11 : sp11 ((ns0, [], ()), (sl0, bi0, ()), c0, [], ()) = some ((([(-1, ()), (0, ()), (-1, ()), (-1, ()), (-1, ())], [(-1, ()), (-1, ()), (-1, ()), (1, ()), (-1, ())], ()), 0, ()), ()) := by
  show sh11 0 (ns0, [], ()) (sl0, bi0, ()) c0 [] = _
  unfold sh11
  simp only [joinK]
  rw [v0, Option.bind_some]
  simp only
  rw [if_neg (by simp), o0, Option.bind_some]
  unfold sh11_K0
  simp only [joinK]
  rw [if_neg (by simp), f0, Option.bind_some]
  unfold sh11_K1
  simp only
  rw [if_neg (by simp), r0, Option.bind_some]
  simp only
  rw [if_neg (by simp), e29c, Option.bind_some]
 show sh14 0 = _
 unfold sh14
 rw [parse0, Option.bind_some]
 rw [if_pos (by decide), if_pos (by decide), if_pos (by decide), if_pos (by decide), if_pos (by decide), if_pos (by decide), if_pos (by decide), if_pos (by decide)]
 change (sp11 ((ns0, [], ()), (sl0, bi0, ()), c0, [], ())).bind _ = _
 rw [h11, Option.bind_some]
 kernel_rfl
end Go.Proofs.YtdkibgdkmnpncaaDoor
