/- Chapter 08: what the functions come to; the law. -/
import Derived.Test.YtjficagemeiecaaDoorWay
import Derived.Test.YtjficagemeiecaaDoorMath
import Derived.KernelRfl
open Go Go.Proofs Go.Abs
set_option linter.unusedVariables false
set_option maxRecDepth 100000
namespace Go.Proofs.YtjficagemeiecaaDoor
abbrev IL := List (Int × Unit)
theorem iter_succ {σ R : Type} (n : Nat) (F : (σ → Option R) → σ → Option R) (z : σ) : iter (n + 1) F z = F (iter n F) z := rfl
theorem iter_post {σ R : Type} {F : (σ → Option R) → σ → Option R} (I : Nat → σ → Prop) (Post : Option R → Prop) (m n : Nat) (hn : m < n) {z : σ} (h0 : I 0 z)
  (hs : ∀ rc k z, k < m → I k z → ∃ z', F rc z = rc z' ∧ I (k + 1) z') (he : ∀ rc z, I m z → Post (F rc z)) : Post (iter n F z) := by
 suffices h : ∀ n k z, m - k < n → k ≤ m → I k z → Post (iter n F z) from h n 0 z (by omega) (Nat.zero_le _) h0
 intro n
 induction n with
 | zero => intro k z hk; omega
 | succ n ih =>
  intro k z hk hkm hi
  rw [iter_succ]
  rcases Nat.lt_or_ge k m with hlt | hge
  ·obtain ⟨z', h1, h2⟩ := hs (iter n F) k z hlt hi
   rw [h1]; exact ih (k + 1) z' (by omega) hlt h2
  ·have : k = m := by omega
   subst this
   exact he _ z hi
theorem dlim {n : Nat} (h : n ≤ 100000000000) : decide (n ≤ lim) = true := decide_eq_true (Nat.le_trans h (by decide))
theorem lAt_mem {α : Type} (d : α) (l : List α) (k : Int) (h0 : 0 ≤ k) (h1 : k < l.length) : lAt d l k ∈ l := by
 have hk : k.toNat < l.length := by omega
 show l.getD k.toNat d ∈ l
 rw [List.getD, List.getElem?_eq_getElem hk]
 exact List.getElem_mem hk
theorem inR_int {k : Int} {n : Nat} (h0 : 0 ≤ k) (h : k < n) : inR k n = true := by simp [inR, h0, h]
abbrev Sr : Type := IL × Int × Unit
def SrOk (s : Sr) : Prop := s.1.length ≤ 2000 ∧ 0 ≤ s.2.1 ∧ s.2.1 ≤ 2000
theorem e34 {s : Sr} (h : SrOk s) : ∃ v s', sp34 (s, ()) = some (v, s', ()) ∧ SrOk s' := by
 obtain ⟨l, a, _⟩ := s
 obtain ⟨h1, h2, h3⟩ := h
 simp only at h1 h2 h3
 show ∃ v s', sh34 0 (l, a, ()) = some (v, s', ()) ∧ SrOk s'
 unfold sh34
 by_cases hc : (l.length : Int) ≤ a
 ·rw [if_pos (by simpa using hc)]; exact ⟨_, _, rfl, h1, h2, h3⟩
 ·have w1 : IntKind.i64.wrap (a + 1) = a + 1 := wrapI (by omega) (by omega)
  have w2 : IntKind.i64.wrap (a + 1 - 1) = a := by rw [wrapI (by omega) (by omega)]; omega
  rw [if_neg (by simpa using hc)]
  simp only [w1, w2]
  rw [if_pos (by simp [inR]; omega)]
  exact ⟨_, _, rfl, h1, by simp only; omega, by simp only; omega⟩
theorem e19 (x n : Int) (h1 : 1 ≤ n) (h2 : n ≤ 1000000) : ∃ v, sp19 (x, n, ()) = some (v, ()) ∧ 0 ≤ v ∧ v < n := by
 show ∃ v, sh19 0 x n = some (v, ()) ∧ _
 unfold sh19
 rw [if_neg (by simp; omega), if_pos (by simp; omega)]
 simp only [joinK, sh19_K0]
 have b1 : x.tmod n < n := Int.tmod_lt_of_pos x (by omega)
 have b2 : -n < x.tmod n := by have := Int.lt_tmod_of_pos x (show 0 < n by omega); omega
 by_cases hc : x.tmod n < 0
 ·rw [if_pos (by simpa using hc)]; exact ⟨_, rfl, by rw [wrapI (by omega) (by omega)]; omega, by rw [wrapI (by omega) (by omega)]; omega⟩
 ·rw [if_neg (by simpa using hc)]; exact ⟨_, rfl, by omega, b1⟩
theorem e22 {s : Sr} (h : SrOk s) (n : Int) (h1 : 1 ≤ n) (h2 : n ≤ 1000000) : ∃ v s', sp22 (s, n, ()) = some (v, s', ()) ∧ 0 ≤ v ∧ v < n ∧ SrOk s' := by
 obtain ⟨r, s', hr, hs⟩ := e34 h
 obtain ⟨v, hv, k1, k2⟩ := e19 r n h1 h2
 refine ⟨v, s', ?_, k1, k2, hs⟩
 show sh22 0 s n = _
 unfold sh22
 rw [hr, Option.bind_some]
 simp only
 rw [hv]; rfl
theorem e9 (l : IL) : ∃ s, sp9 (l, ()) = some (s, ()) ∧ SrOk s := by
 show ∃ s, sh9 0 l = some (s, ()) ∧ _
 unfold sh9
 simp only [joinK, sh9_K0]
 by_cases h : (2000 : Int) < (l.length : Int)
 ·have hc : inCut 0 2000 l.length = true := inCut_nat (a := 0) (b := 2000) (by decide) (by omega)
  rw [if_pos (by simpa using h), if_pos hc]
  refine ⟨_, rfl, ?_, Int.le_refl 0, show (0 : Int) ≤ 2000 by decide⟩
  show (cutL l 0 2000).length ≤ 2000
  simp only [cutL, List.length_take]; exact Nat.min_le_left _ _
 ·rw [if_neg (by simpa using h)]
  exact ⟨_, rfl, by show l.length ≤ 2000; omega, Int.le_refl 0, show (0 : Int) ≤ 2000 by decide⟩
theorem e39 {s : Sr} (h : SrOk s) (t : IL) (h1 : 1 ≤ t.length) (h2 : t.length ≤ 1000) : ∃ v s', sp39 (s, t, ()) = some (v, s', ()) ∧ (v, ()) ∈ t ∧ SrOk s' := by
 obtain ⟨v, s', hv, k1, k2, hs⟩ := e22 h (t.length : Int) (by omega) (by omega)
 refine ⟨(lAt (0, ()) t v).1, s', ?_, lAt_mem (0, ()) t v k1 k2, hs⟩
 show sh39 0 s t = _
 unfold sh39
 rw [hv, Option.bind_some]
 simp only
 rw [if_pos (by simp [inR]; omega)]
theorem e24 {s : Sr} (h : SrOk s) (lo hi : Int) (h1 : lo ≤ hi) (h2 : -1000 ≤ lo) (h3 : hi ≤ 1000) : ∃ v s', sp24 (s, lo, hi, ()) = some (v, s', ()) ∧ lo ≤ v ∧ v ≤ hi ∧ SrOk s' := by
 obtain ⟨v, s', hv, k1, k2, hs⟩ := e22 h (hi - lo + 1) (by omega) (by omega)
 refine ⟨lo + v, s', ?_, by omega, by omega, hs⟩
 show sh24 0 s lo hi = _
 unfold sh24
 rw [wrapI (x := hi - lo) (by omega) (by omega), wrapI (x := hi - lo + 1) (by omega) (by omega)]
 rw [hv, Option.bind_some]
 simp only
 rw [wrapI (by omega) (by omega)]
theorem e40 {s : Sr} (h : SrOk s) (t : IL) (x : Int) (ht : t.length ≤ 1000) :
  ∃ v s', sp40 (s, t, x, ()) = some (v, s', ()) ∧ SrOk s' ∧ ((v = -1 ∧ ∀ y ∈ t, y.1 = x) ∨ ((v, ()) ∈ t ∧ v ≠ x)) := by
 show ∃ v s', sh40 100000 s t x = some (v, s', ()) ∧ _
 unfold sh40
 simp only [joinK]
 refine iter_post (F := sh40_L3 sh40_K0) (fun k z => ∃ u : IL, z = (t, x, (k : Int), s, u, ()) ∧ u.length ≤ k ∧ (∀ y ∈ u, y ∈ t ∧ y.1 ≠ x) ∧ (u = [] → ∀ y ∈ t.take k, y.1 = x))
  (fun o => ∃ v s', o = some (v, s', ()) ∧ SrOk s' ∧ ((v = -1 ∧ ∀ y ∈ t, y.1 = x) ∨ ((v, ()) ∈ t ∧ v ≠ x))) t.length 100000 (by omega) ⟨[], rfl, by simp, by simp, by simp⟩ (fun rc k z hk hz => ?_) (fun rc z hz => ?_)
 ·obtain ⟨u, rfl, h1, h2, h3⟩ := hz
  simp only [sh40_L3, joinK, sh40_K4]
  rw [if_pos (by simpa using hk), if_pos (inR_nat hk), lAt_nat _ _ _ hk]
  by_cases hx : t[k].1 = x
  ·rw [if_neg (by simpa using hx), up1' hk]
   refine ⟨_, rfl, u, rfl, by omega, h2, fun hu y hy => ?_⟩
   rw [List.take_add_one, List.getElem?_eq_getElem hk] at hy
   rcases List.mem_append.1 hy with hy | hy
   ·exact h3 hu y hy
   ·simp only [Option.toList, List.mem_singleton] at hy; rw [hy]; exact hx
  ·rw [if_pos (by simpa using hx), if_pos (inR_nat hk), if_pos (dlim (by omega)), if_pos (dlim (by omega)), up1' hk]
   refine ⟨_, rfl, u ++ [t[k]], rfl, by simp only [List.length_append, List.length_cons, List.length_nil]; omega, fun y hy => ?_, by simp⟩
   rcases List.mem_append.1 hy with hy | hy
   ·exact h2 y hy
   ·rw [List.mem_singleton.1 hy]; exact ⟨List.getElem_mem hk, hx⟩
 ·obtain ⟨u, rfl, h1, h2, h3⟩ := hz
  simp only [sh40_L3]
  rw [if_neg (by simp)]
  simp only [sh40_K0]
  by_cases hu : u = []
  ·subst hu
   rw [if_pos (by decide)]
   rw [List.take_length] at h3
   exact ⟨_, _, rfl, h, .inl ⟨rfl, h3 rfl⟩⟩
  ·have hl := List.length_pos_iff.2 hu
   obtain ⟨v, s', hv, k1, k2, hs⟩ := e22 h (u.length : Int) (by omega) (by omega)
   have hb : ((u.length : Int) == 0) = false := by simp; omega
   rw [hb, if_neg (by decide), hv, Option.bind_some]
   simp only
   rw [if_pos (inR_int k1 k2), if_pos (decide_eq_true (by omega))]
   have hm : lAt (0, ()) u v ∈ u := lAt_mem (0, ()) u v k1 k2
   exact ⟨_, _, rfl, hs, .inr (h2 _ hm)⟩
abbrev Nd := Ty2
abbrev Dv := Ty1
abbrev Lay := Ty4
def StripG (i zone : Int) (kinds to : IL) (x : Nd) : Prop :=
 x.1 = [] ∧ x.2.2.2.1 = zone ∧ ∃ f : Int, (f, ()) ∈ to ∧
  ((x.2.1 = 5 ∧ (5, ()) ∈ kinds ∧ 2 ≤ x.2.2.1 ∧ x.2.2.1 ≤ 4 ∧ x.2.2.2.2.1 = [(i, ()), (f, ())]) ∨
  (x.2.1 = 4 ∧ (4, ()) ∈ kinds ∧ 1 ≤ x.2.2.1 ∧ x.2.2.1 ≤ 3 ∧ ∃ g : Int, (g, ()) ∈ to ∧ g ≠ f ∧ x.2.2.2.2.1 = [(f, ()), (g, ())]) ∨
  (x.2.1 = 2 ∧ (4, ()) ∈ kinds ∧ 1 ≤ x.2.2.1 ∧ x.2.2.1 ≤ 3 ∧ x.2.2.2.2.1 = [(f, ())]) ∨
  ((x.2.1, ()) ∈ kinds ∧ x.2.1 ≠ 5 ∧ x.2.1 ≠ 4 ∧ 1 ≤ x.2.2.1 ∧ x.2.2.1 ≤ 3 ∧ x.2.2.2.2.1 = [(f, ())]))
theorem e25 {s : Sr} (h : SrOk s) (i zone : Int) (kinds to : IL) (hk1 : 1 ≤ kinds.length) (hk2 : kinds.length ≤ 1000) (ht1 : 1 ≤ to.length) (ht2 : to.length ≤ 1000) (hto : ∀ y ∈ to, 0 ≤ y.1) :
  ∃ x s', sp25 (s, i, zone, kinds, to, ()) = some (x, s', ()) ∧ SrOk s' ∧ StripG i zone kinds to x := by
 obtain ⟨kd, s1, h1, m1, k1⟩ := e39 h kinds hk1 hk2
 obtain ⟨ln, s2, h2, l1, l2, k2⟩ := e24 k1 1 3 (by decide) (by decide) (by decide)
 obtain ⟨f, s3, h3, k3, hf⟩ := e40 k2 to (-1) ht2
 have hf : (f, ()) ∈ to := by
  rcases hf with ⟨_, hf⟩ | ⟨hf, _⟩
  ·have hm : to[0] ∈ to := List.getElem_mem ht1
   have a := hf _ hm
   have b := hto _ hm
   omega
  ·exact hf
 have st : sp25 (s, i, zone, kinds, to, ()) = sh25 0 s i zone kinds to := rfl
 rw [st]
 unfold sh25
 rw [h1, Option.bind_some]
 simp only
 rw [h2, Option.bind_some]
 simp only
 rw [h3, Option.bind_some]
 simp only [joinK, sh25_K3]
 by_cases h5 : kd = 5
 ·subst h5
  rw [if_pos (by decide), wrapI (by omega) (by omega)]
  exact ⟨_, _, rfl, k3, rfl, rfl, f, hf, .inl ⟨rfl, m1, by simp only; omega, by simp only; omega, rfl⟩⟩
 rw [if_neg (by simpa using h5)]
 by_cases h4 : kd = 4
 ·subst h4
  obtain ⟨g, s4, h6, k4, hg⟩ := e40 k3 to f ht2
  rw [if_pos (by decide), h6, Option.bind_some]
  simp only
  by_cases hn : g < 0
  ·rw [if_pos (by simpa using hn)]
   exact ⟨_, _, rfl, k4, rfl, rfl, f, hf, .inr (.inr (.inl ⟨rfl, m1, l1, l2, rfl⟩))⟩
  ·rw [if_neg (by simpa using hn)]
   rcases hg with ⟨hg, _⟩ | ⟨hg, hgf⟩
   ·omega
   ·exact ⟨_, _, rfl, k4, rfl, rfl, f, hf, .inr (.inl ⟨rfl, m1, l1, l2, g, hg, hgf, rfl⟩)⟩
 rw [if_neg (by simpa using h4)]
 exact ⟨_, _, rfl, k3, rfl, rfl, f, hf, .inr (.inr (.inr ⟨m1, h5, h4, l1, l2, rfl⟩))⟩
structure DevG (ns : List Nd) (ds : List Dv) : Prop where
 len : ds.length ≤ 24
 ok : ∀ d ∈ ds, (d.1 = 1 ∨ d.1 = 2) ∧ 0 ≤ d.2.1 ∧ d.2.1 < (ns.length : Int) ∧ 0 ≤ d.2.2.1 ∧ d.2.2.1 < (lAt ([], 0, 0, 0, [], ()) ns d.2.1).2.2.1
 nd : ds.Nodup
structure DevP (ns : List Nd) (ds : List Dv) (i w : Int) (b : Bool) : Prop extends DevG ns ds where
 lt : ∀ d ∈ ds, d.2.1 < i ∨ (d.2.1 = i ∧ d.2.2.1 < w) ∨ (b = true ∧ d.2.1 = i ∧ d.2.2.1 = w ∧ d.1 = 2)
theorem DevP.next {ns : List Nd} {ds : List Dv} {i w : Int} {b : Bool} (h : DevP ns ds i w b) : DevP ns ds i (w + 1) false :=
 ⟨h.toDevG, fun d hd => by rcases h.lt d hd with a | ⟨a, c⟩ | ⟨_, a, c, _⟩ <;> omega⟩
theorem DevP.row {ns : List Nd} {ds : List Dv} {i w : Int} {b : Bool} (h : DevP ns ds i w b) : DevP ns ds (i + 1) 0 false :=
 ⟨h.toDevG, fun d hd => by rcases h.lt d hd with a | ⟨a, c⟩ | ⟨_, a, c, _⟩ <;> omega⟩
theorem DevP.weak {ns : List Nd} {ds : List Dv} {i w : Int} (h : DevP ns ds i w false) : DevP ns ds i w true :=
 ⟨h.toDevG, fun d hd => by rcases h.lt d hd with a | a | ⟨a, _⟩; exact .inl a; exact .inr (.inl a); cases a⟩
theorem DevP.add2 {ns : List Nd} {ds : List Dv} {i w : Int} (h : DevP ns ds i w false) (hl : ds.length < 24) (hi : 0 ≤ i) (hn : i < (ns.length : Int)) (hw : 0 ≤ w) (hx : w < (lAt ([], 0, 0, 0, [], ()) ns i).2.2.1) : DevP ns (ds ++ [(2, i, w, ())]) i w true where
 len := by simp only [List.length_append, List.length_cons, List.length_nil]; omega
 ok := fun d hd => by
  rcases List.mem_append.1 hd with hd | hd
  ·exact h.ok d hd
  ·rw [List.mem_singleton.1 hd]; exact ⟨.inr rfl, hi, hn, hw, hx⟩
 nd := List.nodup_append.2 ⟨h.nd, by simp, fun a ha b hb => by
  rw [List.mem_singleton.1 hb]
  rintro rfl
  rcases h.lt _ ha with c | ⟨_, c⟩ | ⟨c, _⟩
  ·simp only at c; omega
  ·simp only at c; omega
  ·cases c⟩
 lt := fun d hd => by
  rcases List.mem_append.1 hd with hd | hd
  ·exact h.weak.lt d hd
  ·rw [List.mem_singleton.1 hd]; exact .inr (.inr ⟨rfl, rfl, rfl, rfl⟩)
theorem DevP.add1 {ns : List Nd} {ds : List Dv} {i w : Int} (h : DevP ns ds i w true) (hl : ds.length < 24) (hi : 0 ≤ i) (hn : i < (ns.length : Int)) (hw : 0 ≤ w) (hx : w < (lAt ([], 0, 0, 0, [], ()) ns i).2.2.1) : DevP ns (ds ++ [(1, i, w, ())]) i (w + 1) false where
 len := by simp only [List.length_append, List.length_cons, List.length_nil]; omega
 ok := fun d hd => by
  rcases List.mem_append.1 hd with hd | hd
  ·exact h.ok d hd
  ·rw [List.mem_singleton.1 hd]; exact ⟨.inl rfl, hi, hn, hw, hx⟩
 nd := List.nodup_append.2 ⟨h.nd, by simp, fun a ha b hb => by
  rw [List.mem_singleton.1 hb]
  rintro rfl
  rcases h.lt _ ha with c | ⟨_, c⟩ | ⟨_, _, _, c⟩
  ·simp only at c; omega
  ·simp only at c; omega
  ·simp only at c; omega⟩
 lt := fun d hd => by
  rcases List.mem_append.1 hd with hd | hd
  ·exact h.next.lt d hd
  ·rw [List.mem_singleton.1 hd]; exact .inr (.inl ⟨rfl, by simp only; omega⟩)
theorem loop25 (j4) (Post : Option (List Dv × Sr × Unit) → Prop) (ns : List Nd) (dv : List Dv) (i : Nat) (hi : i < ns.length) (hl : ∀ x ∈ ns, x.2.2.1 ≤ 8) {s : Sr} (hs : SrOk s) {ds : List Dv} (hd : DevP ns ds i 0 false)
  (hj : ∀ (s' : Sr) (ds' : List Dv), SrOk s' → DevP ns ds' (i + 1) 0 false → Post (j4 ((i : Int), s', (ns, dv, ()), ds', ()))) : Post (iter 100000 (sh26_L5 j4) ((i : Int), 0, s, (ns, dv, ()), ds, ())) := by
 have hx : lAt ([], 0, 0, 0, [], ()) ns (i : Int) = ns[i] := lAt_nat _ _ _ hi
 have h8 := hl ns[i] (List.getElem_mem hi)
 refine iter_post (F := sh26_L5 j4) (fun k z => ∃ (s' : Sr) (ds' : List Dv), z = ((i : Int), (k : Int), s', (ns, dv, ()), ds', ()) ∧ SrOk s' ∧ DevP ns ds' i k false) Post (ns[i].2.2.1).toNat 100000 (by omega)
  ⟨s, ds, rfl, hs, hd⟩ (fun rc k z hk hz => ?_) (fun rc z hz => ?_)
 ·obtain ⟨s1, d1, rfl, k1, p1⟩ := hz
  have hw : (k : Int) < ns[i].2.2.1 := by omega
  have up : IntKind.i64.wrap ((k : Int) + 1) = ((k + 1 : Nat) : Int) := wrapI (by omega) (by omega)
  simp only [sh26_L5]
  rw [if_pos (inR_nat hi), hx, if_pos (decide_eq_true hw)]
  simp only [joinK]
  rw [if_pos (inR_nat hi)]
  have fin : ∀ (s2 : Sr) (d2 : List Dv), SrOk s2 → DevP ns d2 i k true → ∃ z', sh26_K8 (sh26_K6 rc) ((i : Int), (k : Int), s2, (ns, dv, ()), d2, ()) = rc z' ∧ ∃ (s' : Sr) (ds' : List Dv), z' = ((i : Int), ((k + 1 : Nat) : Int), s', (ns, dv, ()), ds', ()) ∧ SrOk s' ∧ DevP ns ds' i ((k + 1 : Nat) : Int) false := by
   intro s2 d2 k2 p2
   simp only [sh26_K8, joinK]
   by_cases hlen : (d2.length : Int) < 24
   ·obtain ⟨v, s3, hv, v1, v2, k3⟩ := e22 k2 2 (by decide) (by decide)
    rw [if_pos (decide_eq_true hlen), hv, Option.bind_some]
    simp only [sh26_K9, sh26_K6, up]
    cases v == 0 with
    | true =>
     rw [if_pos rfl, if_pos (dlim (by omega)), if_pos (dlim (by omega))]
     exact ⟨_, rfl, s3, _, rfl, k3, by have := p2.add1 (by omega) (by omega) (by omega) (by omega) (by rw [hx]; exact hw); exact this⟩
    | false =>
     rw [if_neg (by decide)]
     exact ⟨_, rfl, s3, _, rfl, k3, p2.next⟩
   ·rw [if_neg (by simpa using hlen)]
    simp only [sh26_K9, sh26_K6, up]
    rw [if_neg (by decide)]
    exact ⟨_, rfl, s2, _, rfl, k2, p2.next⟩
  have mid : ∀ (b : Bool) (s2 : Sr) , d1.length < 24 → SrOk s2 → ∃ z', sh26_K13 (sh26_K8 (sh26_K6 rc)) ((i : Int), (k : Int), b, s2, (ns, dv, ()), d1, ()) = rc z' ∧ ∃ (s' : Sr) (ds' : List Dv), z' = ((i : Int), ((k + 1 : Nat) : Int), s', (ns, dv, ()), ds', ()) ∧ SrOk s' ∧ DevP ns ds' i ((k + 1 : Nat) : Int) false := by
   intro b s2 hlen k2
   simp only [sh26_K13]
   cases b with
   | true =>
    rw [if_pos rfl, if_pos (dlim (by omega)), if_pos (dlim (by omega))]
    exact fin s2 _ k2 (p1.add2 hlen (by omega) (by omega) (by omega) (by rw [hx]; exact hw))
   | false =>
    rw [if_neg (by decide)]
    exact fin s2 _ k2 p1.weak
  by_cases hlen : (d1.length : Int) < 24
  ·obtain ⟨v, s3, hv, v1, v2, k3⟩ := e22 k1 3 (by decide) (by decide)
   rw [if_pos (decide_eq_true hlen), hv, Option.bind_some]
   simp only
   by_cases c1 : (v == 0) = true
   ·rw [if_pos c1]; exact mid true s3 (by omega) k3
   ·rw [if_neg c1]
    by_cases c2 : ((k : Int) == IntKind.i64.wrap (ns[i].2.2.1 - 1)) = true
    ·rw [if_pos c2, if_pos (inR_nat hi)]; exact mid _ s3 (by omega) k3
    ·rw [if_neg c2]; exact mid false s3 (by omega) k3
  ·rw [if_neg (by simpa using hlen)]
   simp only [sh26_K13]
   rw [if_neg (by decide)]
   exact fin s1 d1 k1 p1.weak
 ·obtain ⟨s1, d1, rfl, k1, p1⟩ := hz
  simp only [sh26_L5]
  rw [if_pos (inR_nat hi), hx, if_neg (by simp only [decide_eq_true_eq]; omega)]
  exact hj s1 d1 k1 p1.row
theorem e26 {s : Sr} (hs : SrOk s) (ns : List Nd) (dv : List Dv) (hn : ns.length ≤ 1000) (hl : ∀ x ∈ ns, x.2.2.1 ≤ 8) : ∃ ds s', sp26 (s, (ns, dv, ()), ()) = some (ds, s', ()) ∧ SrOk s' ∧ DevG ns ds := by
 show ∃ ds s', sh26 100000 s (ns, dv, ()) = some (ds, s', ()) ∧ _
 unfold sh26
 simp only [joinK]
 refine iter_post (F := sh26_L2 100000 sh26_K0) (fun k z => ∃ (s' : Sr) (ds : List Dv), z = ((k : Int), s', (ns, dv, ()), ds, ()) ∧ SrOk s' ∧ DevP ns ds k 0 false) (fun o => ∃ ds s', o = some (ds, s', ()) ∧ SrOk s' ∧ DevG ns ds) ns.length 100000 (by omega)
  ⟨s, [], rfl, hs, ⟨⟨by simp, by simp, by simp⟩, by simp⟩⟩ (fun rc k z hk hz => ?_) (fun rc z hz => ?_)
 ·obtain ⟨s1, d1, rfl, k1, p1⟩ := hz
  simp only [sh26_L2, joinK]
  rw [if_pos (by simpa using hk)]
  refine loop25 _ (fun o => ∃ z', o = rc z' ∧ ∃ (s' : Sr) (ds : List Dv), z' = (((k + 1 : Nat) : Int), s', (ns, dv, ()), ds, ()) ∧ SrOk s' ∧ DevP ns ds ((k + 1 : Nat) : Int) 0 false) ns dv k hk hl k1 p1 fun s2 d2 k2 p2 => ?_
  simp only [sh26_K3, up1' hk]
  exact ⟨_, rfl, s2, d2, rfl, k2, p2⟩
 ·obtain ⟨s1, d1, rfl, k1, p1⟩ := hz
  simp only [sh26_L2]
  rw [if_neg (by simp)]
  exact ⟨_, _, rfl, k1, p1.toDevG⟩
theorem e21 (l : IL) (x : Int) (hl : l.length ≤ 90000) : sp21 (l, x, ()) = some (l.any fun y => y.1 == x, ()) := by
 show sh21 100000 l x = _
 unfold sh21
 simp only [joinK]
 refine (iter_list (F := sh21_L2 sh21_K0) l (fun y => !(y.1 == x)) (fun k => (l, x, (k : Int), ())) 100000 (by omega) (bad := some (true, ())) (fin := some (false, ())) (fun rc k hk => ?_) (fun rc => ?_)).trans ?_
 ·simp only [sh21_L2]
  rw [if_pos (by simpa using hk), if_pos (inR_nat hk), lAt_nat _ _ _ hk, up1' hk]
  cases l[k].1 == x <;> rfl
 ·simp only [sh21_L2]
  rw [if_neg (by simp)]; rfl
 ·rw [show (l.any fun y => y.1 == x) = !(l.all fun y => !(y.1 == x)) by induction l with
   | nil => rfl
   | cons a r ih => simp only [List.any_cons, List.all_cons, Bool.not_and, Bool.not_not]; rw [ih (by simp only [List.length_cons] at hl; omega)]]
  cases l.all fun y => !(y.1 == x) <;> rfl
def exitsN (k : Int) : Nat := if k = 8 ∨ k = 9 then 0 else if k = 4 ∨ k = 5 ∨ k = 6 then 2 else 1
def zoneOf (gate N : Nat) (i : Int) : Int := if i ≤ gate ∨ i + 2 = N then 0 else 1
def ExitG (N gate i : Nat) (kind : Int) (k : Nat) (e : Int) : Prop :=
 if kind = 5 ∧ k = 0 then e = i else (i : Int) < e ∧ e < N ∧ zoneOf gate N e = if kind = 6 ∧ k = 1 then 1 else zoneOf gate N i
structure NodeG (N gate i : Nat) (x : Nd) : Prop where
 name : x.1 = [UInt8.ofNat (65 + i)]
 kind1 : 1 ≤ x.2.1
 kind9 : x.2.1 ≤ 9
 entry : x.2.1 = 1 ↔ i = 0
 gate' : x.2.1 = 6 ↔ i = gate
 strip : i ≤ gate → x.2.1 ≤ 6
 len1 : x.2.1 ≤ 6 → 1 ≤ x.2.2.1 ∧ x.2.2.1 ≤ 4
 len5 : x.2.1 = 5 → 2 ≤ x.2.2.1
 len7 : 7 ≤ x.2.1 → x.2.2.1 = 0
 zone : x.2.2.2.1 = zoneOf gate N i
 zk0 : x.2.1 = 1 ∨ x.2.1 = 3 ∨ x.2.1 = 6 → zoneOf gate N i = 0
 zk1 : x.2.1 = 7 ∨ x.2.1 = 8 → zoneOf gate N i = 1
 cnt : x.2.2.2.2.1.length = exitsN x.2.1
 ex : ∀ (k : Nat) (h : k < x.2.2.2.2.1.length), ExitG N gate i x.2.1 k (x.2.2.2.2.1[k]).1
 nd : x.2.2.2.2.1.Nodup
theorem node_strip {N gate i : Nat} {zone : Int} {kinds to : IL} {x : Nd} (h : StripG i zone kinds to x) (nm : List UInt8) (hnm : nm = [UInt8.ofNat (65 + i)]) (hz : zone = zoneOf gate N i)
  (hto : ∀ e : Int, (e, ()) ∈ to → (i : Int) < e ∧ e < N ∧ zoneOf gate N e = zone)
  (hk : ∀ k : Int, (k, ()) ∈ kinds → 1 ≤ k ∧ k ≤ 7 ∧ k ≠ 6 ∧ (k = 1 ↔ i = 0) ∧ (i ≤ gate → k ≤ 6) ∧ (k = 3 → zone = 0) ∧ (k = 7 → zone = 1))
  (h4 : (4, ()) ∈ kinds → i ≠ 0) (hig : i ≠ gate) (hz0 : i = 0 → zone = 0) (len : Int) (hlen : len = if x.2.1 = 7 then 0 else x.2.2.1) :
  NodeG N gate i (nm, x.2.1, len, x.2.2.2.1, x.2.2.2.2.1, ()) := by
 obtain ⟨a1, a2, f, hf, hc⟩ := h
 have hfi := hto f hf
 have two : ∀ {k : Int} {g : Int}, k ≠ 5 → k ≠ 6 → (g, ()) ∈ to → ∀ (q : Nat) (hq : q < [(f, ()), (g, ())].length), ExitG N gate i k q ([(f, ()), (g, ())][q]).1 := fun {k g} k5 k6 hg q hq => by
  have hgi := hto g hg
  unfold ExitG
  rw [if_neg (by omega), if_neg (by omega)]
  match q, hq with
  | 0, _ => exact ⟨hfi.1, hfi.2.1, hfi.2.2.trans hz⟩
  | 1, _ => exact ⟨hgi.1, hgi.2.1, hgi.2.2.trans hz⟩
 have one : ∀ {k : Int}, k ≠ 5 → k ≠ 6 → ∀ (q : Nat) (hq : q < [(f, ())].length), ExitG N gate i k q ([(f, ())][q]).1 := fun {k} k5 k6 q hq => by
  unfold ExitG
  rw [if_neg (by omega), if_neg (by omega)]
  match q, hq with
  | 0, _ => exact ⟨hfi.1, hfi.2.1, hfi.2.2.trans hz⟩
 rcases hc with ⟨c1, c2, c3, c4, c5⟩ | ⟨c1, c2, c3, c4, g, hg, hgf, c5⟩ | ⟨c1, c2, c3, c4, c5⟩ | ⟨c2, k5, k4, c3, c4, c5⟩
 ·have hk' := hk 5 c2
  rw [c1, if_neg (by decide)] at hlen
  refine ⟨hnm, by simp only; omega, by simp only; omega, by simp only [c1]; exact hk'.2.2.2.1, by simp only [c1]; omega, fun _ => by simp only; omega, fun _ => by simp only; omega, fun _ => by simp only; omega, fun h => by simp only at h; omega, by simp only; rw [a2, hz],
   fun h => by simp only at h; omega, fun h => by simp only at h; omega, by simp only [c1, c5]; rfl, fun q hq => ?_, ?_⟩
  ·simp only [c5, c1] at hq ⊢
   unfold ExitG
   match q, hq with
   | 0, _ => rw [if_pos (by decide)]; rfl
   | 1, _ => rw [if_neg (by decide), if_neg (by decide)]; exact ⟨hfi.1, hfi.2.1, hfi.2.2.trans hz⟩
  ·simp only [c5]
   have : (i : Int) ≠ f := by omega
   simp [this]
 ·have hi0 := h4 c2
  rw [c1, if_neg (by decide)] at hlen
  refine ⟨hnm, by simp only; omega, by simp only; omega, by simp only [c1]; omega, by simp only [c1]; omega, fun _ => by simp only; omega, fun _ => by simp only; omega, fun h => by simp only at h; omega, fun h => by simp only at h; omega, by simp only; rw [a2, hz],
   fun h => by simp only at h; omega, fun h => by simp only at h; omega, by simp only [c1, c5]; rfl, fun q hq => ?_, ?_⟩
  ·simp only [c5, c1] at hq ⊢
   exact two (by decide) (by decide) hg q hq
  ·simp only [c5]
   simp [Ne.symm hgf]
 ·have hi0 := h4 c2
  rw [c1, if_neg (by decide)] at hlen
  refine ⟨hnm, by simp only; omega, by simp only; omega, by simp only [c1]; omega, by simp only [c1]; omega, fun _ => by simp only; omega, fun _ => by simp only; omega, fun h => by simp only at h; omega, fun h => by simp only at h; omega, by simp only; rw [a2, hz],
   fun h => by simp only at h; omega, fun h => by simp only at h; omega, by simp only [c1, c5]; rfl, fun q hq => ?_, ?_⟩
  ·simp only [c5, c1] at hq ⊢
   exact one (by decide) (by decide) q hq
  ·simp only [c5]; simp
 ·obtain ⟨b1, b2, b3, b4, b5, b6, b7⟩ := hk _ c2
  refine ⟨hnm, b1, by simp only; omega, b4, ⟨fun h => absurd h b3, fun h => absurd h hig⟩, b5, fun h => ?_, fun h => absurd h k5, fun h => ?_, by simp only; rw [a2, hz],
   fun h => ?_, fun h => ?_, ?_, fun q hq => ?_, ?_⟩
  ·simp only at h; rw [if_neg (by omega)] at hlen; simp only; omega
  ·simp only at h; rw [if_pos (by omega)] at hlen; exact hlen
  ·simp only at h
   rcases h with h | h | h
   ·rw [← hz]; exact hz0 (b4.1 h)
   ·rw [← hz]; exact b6 h
   ·exact absurd h b3
  ·simp only at h
   rw [← hz]
   rcases h with h | h
   ·exact b7 h
   ·omega
  ·simp only [c5]
   unfold exitsN
   rw [if_neg (by omega), if_neg (by omega)]; rfl
  ·simp only [c5] at hq ⊢
   exact one k5 b3 q hq
  ·simp only [c5]; simp
theorem node_gate {N gate : Nat} {e : Int} {ln : Int} (nm : List UInt8) (hnm : nm = [UInt8.ofNat (65 + gate)]) (hg : 1 ≤ gate) (hN : gate + 4 ≤ N) (l1 : 1 ≤ ln) (l2 : ln ≤ 3) (he : (gate : Int) < e ∧ e < N ∧ zoneOf gate N e = 1) :
  NodeG N gate gate (nm, 6, ln, 0, [((N : Int) - 2, ()), (e, ())], ()) := by
 have hz : zoneOf gate N (gate : Int) = 0 := by unfold zoneOf; rw [if_pos (by omega)]
 refine ⟨hnm, show (1 : Int) ≤ 6 by decide, show (6 : Int) ≤ 9 by decide, by simp only; omega, by simp, fun _ => show (6 : Int) ≤ 6 by decide, fun _ => by simp only; omega, fun h => by simp at h, fun h => by simp at h, by simp only; rw [hz], fun _ => hz, fun h => by simp at h, rfl, fun q hq => ?_, ?_⟩
 ·unfold ExitG
  match q, hq with
  | 0, _ =>
   rw [if_neg (show ¬ ((6 : Int) = 5 ∧ 0 = 0) by decide), if_neg (show ¬ ((6 : Int) = 6 ∧ 0 = 1) by decide)]
   refine ⟨by show (gate : Int) < (N : Int) - 2; omega, by show (N : Int) - 2 < N; omega, ?_⟩
   show zoneOf gate N ((N : Int) - 2) = _
   rw [hz]; unfold zoneOf; rw [if_pos (by omega)]
  | 1, _ =>
   rw [if_neg (show ¬ ((6 : Int) = 5 ∧ 1 = 0) by decide), if_pos (show (6 : Int) = 6 ∧ 1 = 1 by decide)]
   exact he
 ·have : (N : Int) - 2 ≠ e := by
   rintro rfl
   have := he.2.2
   unfold zoneOf at this
   rw [if_pos (by omega)] at this
   cases this
  simp [this]
theorem node_bin {N gate i : Nat} {k z : Int} (nm : List UInt8) (hnm : nm = [UInt8.ofNat (65 + i)]) (hk : k = 8 ∨ k = 9) (hi : gate < i) (hz : z = zoneOf gate N i) (h8 : k = 8 → zoneOf gate N i = 1) : NodeG N gate i (nm, k, 0, z, [], ()) := by
 refine ⟨hnm, by simp only; omega, by simp only; omega, by simp only; omega, by simp only; omega, fun h => by omega, fun h => by simp only at h; omega, fun h => by simp only at h; omega, fun _ => rfl, hz, fun h => by simp only at h; omega, fun h => by simp only at h; exact h8 (by omega), ?_, fun q hq => by simp at hq, by simp⟩
 simp only
 unfold exitsN
 rw [if_pos hk]; rfl
theorem node_turn {N gate i : Nat} {x : Nd} (h : NodeG N gate i x) (hN : gate + 4 ≤ N) (hi : i < gate) (k5 : x.2.1 ≠ 5) (hn : (x.2.2.2.2.1.any fun y => y.1 == ((i + 1 : Nat) : Int)) = false) :
  NodeG N gate i (x.1, x.2.1, x.2.2.1, x.2.2.2.1, (((i + 1 : Nat) : Int), ()) :: x.2.2.2.2.1.drop 1, ()) := by
 have k6 : x.2.1 ≠ 6 := fun e => by have := h.gate'.1 e; omega
 have kk := h.strip (by omega)
 have k1 := h.kind1
 have hc := h.cnt
 have hc1 : 1 ≤ x.2.2.2.2.1.length := by
  rw [hc]; unfold exitsN
  rw [if_neg (by omega)]
  split <;> decide
 have hz : zoneOf gate N ((i + 1 : Nat) : Int) = zoneOf gate N i := by
  unfold zoneOf; rw [if_pos (by omega), if_pos (by omega)]
 refine ⟨h.name, h.kind1, h.kind9, h.entry, h.gate', h.strip, h.len1, h.len5, h.len7, h.zone, h.zk0, h.zk1, ?_, fun q hq => ?_, ?_⟩
 ·simp only [List.length_cons, List.length_drop]; omega
 ·match q, hq with
  | 0, _ =>
   unfold ExitG
   rw [if_neg (fun e => k5 e.1), if_neg (fun e => k6 e.1)]
   exact ⟨by show (i : Int) < ((i + 1 : Nat) : Int); omega, by show ((i + 1 : Nat) : Int) < N; omega, hz⟩
  | q + 1, hq =>
   have hq' : q + 1 < x.2.2.2.2.1.length := by simp only [List.length_cons, List.length_drop] at hq; omega
   have e := h.ex (q + 1) hq'
   have e2 : ((((i + 1 : Nat) : Int), ()) :: x.2.2.2.2.1.drop 1)[q + 1] = x.2.2.2.2.1[q + 1] := by
    simp only [List.getElem_cons_succ, List.getElem_drop, Nat.add_comm]
   simp only [e2]
   exact e
 ·refine List.nodup_cons.2 ⟨fun hm => ?_, h.nd.sublist (List.drop_sublist 1 _)⟩
  have hm' := List.mem_of_mem_drop hm
  have := List.any_eq_false.1 hn _ hm'
  simp at this
structure LayG (N gate : Nat) (ns : List Nd) : Prop where
 len : ns.length = N
 g1 : 1 ≤ gate
 gN : gate + 4 ≤ N
 N11 : N ≤ 11
 node : ∀ (j : Nat) (h : j < ns.length), NodeG N gate j ns[j]
section
variable {N gate : Nat} (hg1 : 1 ≤ gate) (hgN : gate + 4 ≤ N) (hN : N ≤ 11)
abbrev PostT := Option (Lay × Sr × Unit) → Prop
theorem loop30 (j29) (Post : PostT) (b : Int) (i : Nat) (s : Sr) (A : List Nd) (B : List Dv) (ns : List Nd) (dv : List Dv) (hi : i < N)
  (hN : N ≤ 11) (hj : ∀ zero : IL, (∀ y ∈ zero, (i : Int) < y.1 ∧ y.1 ≤ gate) → zero.length ≤ 20 → Post (j29 (b, (N : Int), (gate : Int), (N : Int) - 2, (i : Int), s, (), (), zero, [], A, B, ns, dv, ()))) (hgN : gate + 4 ≤ N) :
  Post (iter 100000 (sh10_L30 j29) (b, (N : Int), (gate : Int), (N : Int) - 2, (i : Int), (i : Int) + 1, s, (), (), [], [], A, B, ns, dv, ())) := by
 refine iter_post (F := sh10_L30 j29) (fun q z => ∃ zero : IL, z = (b, (N : Int), (gate : Int), (N : Int) - 2, (i : Int), (i : Int) + 1 + q, s, (), (), zero, [], A, B, ns, dv, ()) ∧ (∀ y ∈ zero, (i : Int) < y.1 ∧ y.1 ≤ gate) ∧ zero.length ≤ q) Post (gate - i) 100000 (by omega)
  ⟨[], by simp, by simp, by simp⟩ (fun rc q z hq hz => ?_) (fun rc z hz => ?_)
 ·obtain ⟨zero, rfl, h1, h2⟩ := hz
  simp only [sh10_L30]
  rw [if_pos (decide_eq_true (by omega)), if_pos (dlim (by omega)), if_pos (dlim (by omega)), wrapI (by omega) (by omega)]
  refine ⟨_, rfl, zero ++ [((i : Int) + 1 + q, ())], by rw [show (i : Int) + 1 + (q : Int) + 1 = (i : Int) + 1 + ((q + 1 : Nat) : Int) by omega], fun y hy => ?_, by simp only [List.length_append, List.length_cons, List.length_nil]; omega⟩
  rcases List.mem_append.1 hy with hy | hy
  ·exact h1 y hy
  ·rw [List.mem_singleton.1 hy]; simp only; omega
 ·obtain ⟨zero, rfl, h1, h2⟩ := hz
  simp only [sh10_L30]
  rw [if_neg (by simp only [decide_eq_true_eq]; omega)]
  exact hj zero h1 (by omega)
theorem loop28 (j27) (Post : PostT) (b : Int) (i m0 : Nat) (hm0 : m0 = if gate > i then gate else i) (s : Sr) (zero : IL) (A : List Nd) (B : List Dv) (ns : List Nd) (dv : List Dv) (hi : i < N)
  (hN : N ≤ 11) (hj : ∀ one : IL, (∀ y ∈ one, (i : Int) < y.1 ∧ (gate : Int) < y.1 ∧ y.1 < (N : Int) - 2) → one.length ≤ 20 → Post (j27 (b, (N : Int), (gate : Int), (N : Int) - 2, (i : Int), s, (), (), zero, one, A, B, ns, dv, ()))) (hgN : gate + 4 ≤ N) :
  Post (iter 100000 (sh10_L28 j27) (b, (N : Int), (gate : Int), (N : Int) - 2, (i : Int), (m0 : Int) + 1, s, (), (), zero, [], A, B, ns, dv, ())) := by
 have hm : gate ≤ m0 ∧ i ≤ m0 := by subst hm0; split <;> omega
 refine iter_post (F := sh10_L28 j27) (fun q z => ∃ one : IL, z = (b, (N : Int), (gate : Int), (N : Int) - 2, (i : Int), (m0 : Int) + 1 + q, s, (), (), zero, one, A, B, ns, dv, ()) ∧ (∀ y ∈ one, (i : Int) < y.1 ∧ (gate : Int) < y.1 ∧ y.1 < (N : Int) - 2) ∧ one.length ≤ q) Post (N - 2 - (m0 + 1)) 100000 (by omega)
  ⟨[], by simp, by simp, by simp⟩ (fun rc q z hq hz => ?_) (fun rc z hz => ?_)
 ·obtain ⟨one, rfl, h1, h2⟩ := hz
  simp only [sh10_L28]
  rw [if_pos (decide_eq_true (by omega)), if_pos (dlim (by omega)), if_pos (dlim (by omega)), wrapI (by omega) (by omega)]
  refine ⟨_, rfl, one ++ [((m0 : Int) + 1 + q, ())], by rw [show (m0 : Int) + 1 + (q : Int) + 1 = (m0 : Int) + 1 + ((q + 1 : Nat) : Int) by omega], fun y hy => ?_, by simp only [List.length_append, List.length_cons, List.length_nil]; omega⟩
  rcases List.mem_append.1 hy with hy | hy
  ·exact h1 y hy
  ·rw [List.mem_singleton.1 hy]; simp only; omega
 ·obtain ⟨one, rfl, h1, h2⟩ := hz
  simp only [sh10_L28]
  rw [if_neg (by simp only [decide_eq_true_eq]; omega)]
  exact hj one h1 (by omega)
theorem nameB (i : Nat) (hi : i ≤ 20) : toBytes [(IntKind.u8.wrap (IntKind.i64.wrap (65 + (i : Int))), ())] = [UInt8.ofNat (65 + i)] := by
 rw [wrapI (by omega) (by omega)]
 have w8 : IntKind.u8.wrap (65 + (i : Int)) = 65 + i := by
  have : IntKind.u8.wrap (65 + (i : Int)) = (65 + (i : Int)) % 256 := by simp [IntKind.wrap, IntKind.bits, IntKind.signed]
  rw [this]; omega
 rw [w8]
 show [UInt8.ofNat (65 + (i : Int)).toNat] = _
 rw [show (65 + (i : Int)).toNat = 65 + i by omega]
theorem step9 (rc15) (b : Nat) (i : Nat) (s : Sr) (A : List Nd) (B : List Dv) (ns : List Nd) (dv : List Dv) (hi : i < N) (hs : SrOk s) (hg1 : 1 ≤ gate) (hgN : gate + 4 ≤ N) (hN : N ≤ 11) (hb : gate + 1 + b + 3 ≤ N)
  (hl : ns.length = i) (hn : ∀ (j : Nat) (h : j < ns.length), NodeG N gate j ns[j]) (Post : PostT)
  (hj : ∀ (s' : Sr) (x : Nd), SrOk s' → NodeG N gate i x → Post (rc15 ((b : Int), (N : Int), (gate : Int), (N : Int) - 2, ((i + 1 : Nat) : Int), s', (), (), A, B, ns ++ [x], dv, ()))) :
  Post (sh10_L15 100000 (sh10_K3 100000) rc15 ((b : Int), (N : Int), (gate : Int), (N : Int) - 2, (i : Int), s, (), (), A, B, ns, dv, ())) := by
 simp only [sh10_L15, joinK]
 rw [if_pos (decide_eq_true (by omega)), wrapI (x := (i : Int) + 1) (by omega) (by omega)]
 refine loop30 _ Post b i s A B ns dv hi hN (fun zero hz hzl => ?_) hgN
 simp only [sh10_K18, joinK]
 rw [if_pos (dlim (by omega)), if_pos (dlim (by omega))]
 have hm : (if (gate : Int) > (i : Int) then (gate : Int) else (i : Int)) = ((if gate > i then gate else i : Nat) : Int) := by split <;> split <;> omega
 rw [hm, wrapI (by split <;> omega) (by split <;> omega)]
 refine loop28 _ Post b i _ rfl s _ A B ns dv hi hN (fun one ho hol => ?_) hgN
 simp only [sh10_K19, joinK]
 rw [if_pos (dlim (by omega)), if_pos (dlim (by omega)), wrapI (x := (N : Int) - 1) (by omega) (by omega)]
 have add : ∀ (s' : Sr) (x : Nd), SrOk s' → NodeG N gate i ([UInt8.ofNat (65 + i)], x.2) → Post (sh10_K20 (sh10_K16 rc15) ((b : Int), (N : Int), (gate : Int), (N : Int) - 2, (i : Int), s', (), (), x, A, B, ns, dv, ())) := by
  intro s' x hs' hx
  simp only [sh10_K20, sh10_K16]
  rw [if_pos (dlim (by simp only [List.length_cons, List.length_nil]; omega)), if_pos (dlim (by simp only [List.length_cons, List.length_nil]; omega)), wrapI (x := (i : Int) + 1) (by omega) (by omega), nameB i (by omega)]
  exact hj s' _ hs' hx
 have zi0 : i ≤ gate → zoneOf gate N i = 0 := fun h => by unfold zoneOf; rw [if_pos (by omega)]
 have hzero : ∀ e : Int, (e, ()) ∈ zero ++ [((N : Int) - 2, ())] → i < gate → (i : Int) < e ∧ e < N ∧ zoneOf gate N e = 0 := fun e he h => by
  rcases List.mem_append.1 he with he | he
  ·have := hz _ he
   simp only at this
   exact ⟨this.1, by omega, by unfold zoneOf; rw [if_pos (by omega)]⟩
  ·have he := List.mem_singleton.1 he
   simp only [Prod.mk.injEq, and_true] at he
   subst he
   exact ⟨by omega, by omega, by unfold zoneOf; rw [if_pos (by omega)]⟩
 have hone : ∀ e : Int, (e, ()) ∈ one ++ [((N : Int) - 1, ())] → i + 3 ≤ N → (i : Int) < e ∧ e < N ∧ zoneOf gate N e = 1 := fun e he h => by
  rcases List.mem_append.1 he with he | he
  ·have := ho _ he
   simp only at this
   exact ⟨this.1, by omega, by unfold zoneOf; rw [if_neg (by omega)]⟩
  ·have he := List.mem_singleton.1 he
   simp only [Prod.mk.injEq, and_true] at he
   subst he
   exact ⟨by omega, by omega, by unfold zoneOf; rw [if_neg (by omega)]⟩
 have pz : ∀ y ∈ zero ++ [((N : Int) - 2, ())], 0 ≤ y.1 := fun y hy => by
  rcases List.mem_append.1 hy with hy | hy
  ·have := hz _ hy; omega
  ·rw [List.mem_singleton.1 hy]; simp only; omega
 have po : ∀ y ∈ one ++ [((N : Int) - 1, ())], 0 ≤ y.1 := fun y hy => by
  rcases List.mem_append.1 hy with hy | hy
  ·have := ho _ hy; omega
  ·rw [List.mem_singleton.1 hy]; simp only; omega
 have lz : ∀ e : Int, (zero ++ [(e, ())]).length = zero.length + 1 := fun e => by simp
 have lo : ∀ e : Int, (one ++ [(e, ())]).length = one.length + 1 := fun e => by simp
 by_cases h0 : i = 0
 ·subst h0
  obtain ⟨x, s', hx, hs', gx⟩ := e25 hs (((0 : Nat) : Int)) 0 [(1, ())] (zero ++ [((N : Int) - 2, ())]) (by simp) (by simp) (by rw [lz]; omega) (by rw [lz]; omega) pz
  rw [if_pos (by simp), hx, Option.bind_some]
  refine add s' x hs' ?_
  have hk7 : x.2.1 ≠ 7 := by
   obtain ⟨_, _, f, _, hc⟩ := gx
   rcases hc with ⟨c, _⟩ | ⟨c, _⟩ | ⟨c, _⟩ | ⟨c, _⟩
   ·omega
   ·omega
   ·omega
   ·simp at c; omega
  have := node_strip (N := N) (gate := gate) gx [UInt8.ofNat (65 + 0)] rfl (zi0 (by omega)).symm (fun e he => hzero e he (by omega)) (fun k hk => by
   simp only [List.mem_singleton, Prod.mk.injEq, and_true] at hk
   subst hk
   exact ⟨by decide, by decide, by decide, by simp, fun _ => by decide, fun _ => rfl, fun h => by cases h⟩) (fun h => by simp at h) (by omega) (fun _ => rfl) x.2.2.1 (by rw [if_neg hk7])
  exact this
 rw [if_neg (by simpa using h0)]
 by_cases h1 : i < gate
 ·obtain ⟨x, s', hx, hs', gx⟩ := e25 hs (i : Int) 0 [(2, ()), (3, ()), (4, ()), (5, ()), (3, ())] (zero ++ [((N : Int) - 2, ())]) (by simp) (by simp) (by rw [lz]; omega) (by rw [lz]; omega) pz
  rw [if_pos (decide_eq_true (by omega)), hx, Option.bind_some]
  refine add s' x hs' ?_
  have hk : ∀ k : Int, (k, ()) ∈ [((2 : Int), ()), (3, ()), (4, ()), (5, ()), (3, ())] → 2 ≤ k ∧ k ≤ 5 := fun k hk => by
   simp only [List.mem_cons, Prod.mk.injEq, and_true, List.not_mem_nil, or_false] at hk
   omega
  have hk7 : x.2.1 ≠ 7 := by
   obtain ⟨_, _, f, _, hc⟩ := gx
   rcases hc with ⟨c, _⟩ | ⟨c, _⟩ | ⟨c, _⟩ | ⟨c, _⟩
   ·omega
   ·omega
   ·omega
   ·have := hk _ c; omega
  have := node_strip (N := N) (gate := gate) gx [UInt8.ofNat (65 + i)] rfl (zi0 (by omega)).symm (fun e he => hzero e he (by omega)) (fun k hk' => by
   have := hk k hk'
   exact ⟨by omega, by omega, by omega, by omega, fun _ => by omega, fun _ => rfl, fun h => by omega⟩) (fun _ => h0) (by omega) (fun h => absurd h h0) x.2.2.1 (by rw [if_neg hk7])
  exact this
 rw [if_neg (by simp only [decide_eq_true_eq]; omega)]
 by_cases h2 : i = gate
 ·obtain ⟨ln, s2, hl2, l1, l2, k2⟩ := e24 hs 1 3 (by decide) (by decide) (by decide)
  obtain ⟨v, s3, hv, v1, v2, k3⟩ := e22 k2 (((one ++ [((N : Int) - 1, ())]).length : Nat) : Int) (by rw [lo]; omega) (by rw [lo]; omega)
  rw [if_pos (by simp only [beq_iff_eq]; omega), hl2, Option.bind_some]
  simp only
  rw [hv, Option.bind_some]
  simp only
  rw [if_pos (inR_int v1 v2), if_pos (decide_eq_true (by omega))]
  have hm : lAt (0, ()) (one ++ [((N : Int) - 1, ())]) v ∈ one ++ [((N : Int) - 1, ())] := lAt_mem _ _ _ v1 v2
  have hm2 : ((lAt (0, ()) (one ++ [((N : Int) - 1, ())]) v).1, ()) ∈ one ++ [((N : Int) - 1, ())] := hm
  refine add s3 _ k3 ?_
  have he := hone _ hm2 (by omega)
  have := node_gate (N := N) (gate := gate) (ln := ln) [UInt8.ofNat (65 + i)] (by rw [h2]) hg1 hgN l1 l2 (by rw [h2] at he; exact he)
  exact (fun j (hj : j = gate) => by subst hj; exact this : ∀ j, j = gate → NodeG N gate j ([UInt8.ofNat (65 + i)], 6, ln, 0, [((N : Int) - 2, ()), ((lAt (0, ()) (one ++ [((N : Int) - 1, ())]) v).1, ())], ())) i h2
 rw [if_neg (by simp only [beq_iff_eq]; omega)]
 rw [show IntKind.i64.wrap (IntKind.i64.wrap ((gate : Int) + 1) + (b : Int)) = ((gate + 1 + b : Nat) : Int) by rw [wrapI (x := (gate : Int) + 1) (by omega) (by omega), wrapI (by omega) (by omega)]; omega]
 have zi1 : i + 3 ≤ N → zoneOf gate N i = 1 := fun h => by unfold zoneOf; rw [if_neg (by omega)]
 by_cases h3 : i < gate + 1 + b
 ·obtain ⟨x, s', hx, hs', gx⟩ := e25 hs (i : Int) 1 [(2, ()), (4, ()), (5, ()), (7, ())] (one ++ [((N : Int) - 1, ())]) (by simp) (by simp) (by rw [lo]; omega) (by rw [lo]; omega) po
  rw [if_pos (decide_eq_true (by omega)), hx, Option.bind_some]
  have hk : ∀ k : Int, (k, ()) ∈ [((2 : Int), ()), (4, ()), (5, ()), (7, ())] → k = 2 ∨ k = 4 ∨ k = 5 ∨ k = 7 := fun k hk => by
   simp only [List.mem_cons, Prod.mk.injEq, and_true, List.not_mem_nil, or_false] at hk
   exact hk
  have fin := fun (len : Int) (hlen : len = if x.2.1 = 7 then 0 else x.2.2.1) => node_strip (N := N) (gate := gate) gx [UInt8.ofNat (65 + i)] rfl (zi1 (by omega)).symm (fun e he => hone e he (by omega)) (fun k hk' => by
   have := hk k hk'
   exact ⟨by omega, by omega, by omega, by omega, fun _ => by omega, fun _ => by omega, fun _ => rfl⟩) (fun _ => h0) h2 (fun h => absurd h h0) len hlen
  simp only
  by_cases h7 : x.2.1 = 7
  ·rw [if_pos (by simpa using h7)]
   exact add s' _ hs' (fin 0 (by rw [if_pos h7]))
  ·rw [if_neg (by simpa using h7)]
   exact add s' x hs' (fin x.2.2.1 (by rw [if_neg h7]))
 rw [if_neg (by simp only [decide_eq_true_eq]; omega)]
 by_cases h4 : i + 2 < N
 ·rw [if_pos (decide_eq_true (by omega))]
  exact add s _ hs (node_bin _ rfl (.inl rfl) (by omega) (zi1 (by omega)).symm (fun _ => zi1 (by omega)))
 ·rw [if_neg (by simp only [decide_eq_true_eq]; omega), wrapI (by omega) (by omega)]
  refine add s _ hs (node_bin _ rfl (.inr rfl) (by omega) ?_ (fun h => absurd h (by decide)))
  unfold zoneOf
  split <;> omega
end
theorem node_len {N gate i : Nat} {x : Nd} (h : NodeG N gate i x) : 0 ≤ x.2.2.1 ∧ x.2.2.1 ≤ 4 := by
 by_cases h6 : 6 < x.2.1
 ·rw [h.len7 (by omega)]; omega
 ·have := h.len1 (by omega); omega
theorem lay_len {N gate : Nat} {ns : List Nd} (h : LayG N gate ns) : ∀ x ∈ ns, 0 ≤ x.2.2.1 ∧ x.2.2.1 ≤ 4 := fun x hx => by
 obtain ⟨j, hj, rfl⟩ := List.getElem_of_mem hx
 exact node_len (h.node j hj)
theorem loop9 {N gate : Nat} (j6) (Post : PostT) (s : Sr) (A : List Nd) (B dv : List Dv) (ns : List Nd) (h : LayG N gate ns)
  (hj : ∀ ns', LayG N gate ns' → Post (j6 (s, (), (), A, B, ns', dv, ()))) : Post (iter 100000 (sh10_L8 j6) ((gate : Int), 0, s, (), (), A, B, ns, dv, ())) := by
 have h11 := h.N11
 have hgN := h.gN
 refine iter_post (F := sh10_L8 j6) (fun q z => ∃ ns', z = ((gate : Int), (q : Int), s, (), (), A, B, ns', dv, ()) ∧ LayG N gate ns') Post gate 100000 (by omega) ⟨ns, rfl, h⟩ (fun rc q z hq hz => ?_) (fun rc z hz => ?_)
 ·obtain ⟨us, rfl, hu⟩ := hz
  have hul := hu.len
  have hqu : q < us.length := by omega
  have nq := hu.node q hqu
  have hg : us.getD q ([], 0, 0, 0, [], ()) = us[q] := by rw [List.getD, List.getElem?_eq_getElem hqu]; rfl
  have hct : us[q].2.2.2.2.1.length ≤ 2 := by rw [nq.cnt]; unfold exitsN; split; exact Nat.zero_le _; split <;> decide
  have up : IntKind.i64.wrap ((q : Int) + 1) = ((q + 1 : Nat) : Int) := wrapI (by omega) (by omega)
  simp only [sh10_L8, joinK]
  rw [if_pos (by simpa using hq), if_pos (inR_nat hqu), if_pos (decide_eq_true (by simp only [Int.toNat_natCast]; omega))]
  simp only [Int.toNat_natCast, hg]
  by_cases h5 : us[q].2.1 = 5
  ·rw [if_neg (by simpa using h5)]
   simp only [sh10_K11, sh10_K9, up]
   rw [if_neg (by decide)]
   exact ⟨_, rfl, us, rfl, hu⟩
  ·rw [if_pos (by simpa using h5), if_pos (inR_nat hqu), if_pos (decide_eq_true (by omega)), up, e21 _ _ (by omega), Option.bind_some]
   simp only [sh10_K11, sh10_K9, up]
   cases hany : us[q].2.2.2.2.1.any fun y => y.1 == ((q + 1 : Nat) : Int) with
   | true =>
    rw [if_neg (by decide)]
    exact ⟨_, rfl, us, rfl, hu⟩
   | false =>
    have hc1 : 1 ≤ us[q].2.2.2.2.1.length := by
     rw [nq.cnt]; unfold exitsN
     have := nq.strip (by omega)
     rw [if_neg (by omega)]; split <;> decide
    have hcut : cutL us[q].2.2.2.2.1 1 ((us[q].2.2.2.2.1.length : Nat) : Int) = us[q].2.2.2.2.1.drop 1 := by
     show (us[q].2.2.2.2.1.drop 1).take _ = _
     rw [List.take_of_length_le]
     simp only [List.length_drop]
     omega
    simp only [Int.toNat_natCast, hg, hcut]
    rw [if_pos (by decide), if_pos (inR_nat hqu), if_pos (decide_eq_true (by omega)), if_pos (by have := inCut_nat (a := 1) hc1 (Nat.le_refl us[q].2.2.2.2.1.length); exact this), if_pos (dlim (by simp only [List.length_cons, List.length_nil, List.length_drop]; omega)), if_pos (dlim (by simp only [List.length_cons, List.length_nil, List.length_drop]; omega)), if_pos (inR_nat hqu), if_pos (decide_eq_true (by omega))]
    refine ⟨_, rfl, _, rfl, ?_⟩
    refine ⟨by rw [List.length_set]; exact hul, hu.g1, hu.gN, hu.N11, fun j hj => ?_⟩
    rw [List.getElem_set]
    split
    ·rename_i e
     subst e
     exact node_turn nq hu.gN hq h5 hany
    ·exact hu.node j (by rw [List.length_set] at hj; exact hj)
 ·obtain ⟨us, rfl, hu⟩ := hz
  simp only [sh10_L8]
  rw [if_neg (by simp)]
  exact hj us hu
theorem e10 {s : Sr} (hs : SrOk s) : ∃ N gate ns ds s', sp10 (s, ()) = some ((ns, ds, ()), s', ()) ∧ SrOk s' ∧ LayG N gate ns ∧ DevG ns ds := by
 obtain ⟨a', s1, ha, a1, a2, k1⟩ := e24 hs 1 3 (by decide) (by decide) (by decide)
 obtain ⟨b', s2, hb, b1, b2, k2⟩ := e24 k1 0 3 (by decide) (by decide) (by decide)
 obtain ⟨c', s3, hc, c1, c2, k3⟩ := e24 k2 1 2 (by decide) (by decide) (by decide)
 obtain ⟨a, rfl⟩ : ∃ n : Nat, a' = n := ⟨a'.toNat, by omega⟩
 obtain ⟨b, rfl⟩ : ∃ n : Nat, b' = n := ⟨b'.toNat, by omega⟩
 obtain ⟨c, rfl⟩ : ∃ n : Nat, c' = n := ⟨c'.toNat, by omega⟩
 have e0 : sp10 (s, ()) = sh10 100000 s := rfl
 rw [e0]
 unfold sh10
 rw [ha, Option.bind_some]
 simp only
 rw [hb, Option.bind_some]
 simp only
 rw [hc, Option.bind_some]
 simp only [joinK]
 obtain ⟨N, hN⟩ : ∃ N : Nat, N = a + 1 + b + c + 2 := ⟨_, rfl⟩
 have w : IntKind.i64.wrap (IntKind.i64.wrap (IntKind.i64.wrap (IntKind.i64.wrap ((a : Int) + 1) + (b : Int)) + (c : Int)) + 2) = (N : Int) := by
  rw [wrapI (x := (a : Int) + 1) (by omega) (by omega), wrapI (x := (a : Int) + 1 + b) (by omega) (by omega), wrapI (x := (a : Int) + 1 + b + c) (by omega) (by omega), wrapI (by omega) (by omega)]; omega
 rw [w, wrapI (x := (N : Int) - 2) (by omega) (by omega)]
 refine iter_post (F := sh10_L15 100000 (sh10_K3 100000)) (fun q z => ∃ (s' : Sr) (ns : List Nd), z = ((b : Int), (N : Int), (a : Int), (N : Int) - 2, (q : Int), s', (), (), [], [], ns, [], ()) ∧ SrOk s' ∧ ns.length = q ∧ ∀ (j : Nat) (h : j < ns.length), NodeG N a j ns[j])
  (fun o => ∃ N gate ns ds s', o = some ((ns, ds, ()), s', ()) ∧ SrOk s' ∧ LayG N gate ns ∧ DevG ns ds) N 100000 (by omega) ⟨s3, [], rfl, k3, rfl, fun j h => absurd h (Nat.not_lt_zero _)⟩ (fun rc q z hq hz => ?_) (fun rc z hz => ?_)
 ·obtain ⟨s4, ns, rfl, k4, l4, n4⟩ := hz
  refine step9 (N := N) (gate := a) rc b q s4 [] [] ns [] hq k4 (by omega) (by omega) (by omega) (by omega) l4 n4 (fun o => ∃ z', o = rc z' ∧ ∃ (s' : Sr) (ns : List Nd), z' = ((b : Int), (N : Int), (a : Int), (N : Int) - 2, ((q + 1 : Nat) : Int), s', (), (), [], [], ns, [], ()) ∧ SrOk s' ∧ ns.length = q + 1 ∧ ∀ (j : Nat) (h : j < ns.length), NodeG N a j ns[j]) fun s5 x k5 gx => ?_
  refine ⟨_, rfl, s5, ns ++ [x], rfl, k5, by simp [l4], fun j hj => ?_⟩
  simp only [List.length_append, List.length_cons, List.length_nil] at hj
  by_cases hjn : j < ns.length
  ·rw [List.getElem_append_left hjn]; exact n4 j hjn
  ·have : j = q := by omega
   subst this
   rw [List.getElem_append_right (by omega)]
   simp only [l4, Nat.sub_self, List.getElem_cons_zero]
   exact gx
 ·obtain ⟨s4, ns, rfl, k4, l4, n4⟩ := hz
  have hL : LayG N a ns := ⟨l4, by omega, by omega, by omega, n4⟩
  simp only [sh10_L15]
  rw [if_neg (by simp)]
  have fin : ∀ (s5 : Sr) (us : List Nd), SrOk s5 → LayG N a us → ∃ N gate ns ds s', sh10_K4 (s5, (), (), [], [], us, [], ()) = some ((ns, ds, ()), s', ()) ∧ SrOk s' ∧ LayG N gate ns ∧ DevG ns ds := by
   intro s5 us k5 hu
   obtain ⟨ds, s6, hd, k6, dd⟩ := e26 k5 us [] (by have := hu.len; have := hu.N11; omega) (fun x hx => by have := lay_len hu x hx; omega)
   simp only [sh10_K4]
   rw [hd, Option.bind_some]
   exact ⟨N, a, us, ds, s6, rfl, k6, hu, dd⟩
  simp only [sh10_K3, joinK]
  obtain ⟨v, s5, hv, v1, v2, k5⟩ := e22 k4 4 (by decide) (by decide)
  rw [hv, Option.bind_some]
  simp only
  by_cases h0 : 0 < v
  ·rw [if_pos (decide_eq_true h0)]
   exact loop9 sh10_K4 (fun o => ∃ N gate ns ds s', o = some ((ns, ds, ()), s', ()) ∧ SrOk s' ∧ LayG N gate ns ∧ DevG ns ds) s5 [] [] [] ns hL fun us hu => fin s5 us k5 hu
  ·rw [if_neg (by simpa using h0)]
   exact fin s5 ns k5 hL
theorem e72 (c : Int) : sp72 (c, ()) = some (decide (65 ≤ c) && decide (c ≤ 90), ()) := by
 show sh72 0 c = _
 unfold sh72; simp only [joinK, sh72_K0]; split <;> (try simp_all) <;> omega
theorem e44 (k : Int) : sp44 (k, ()) = some (decide (1 ≤ k) && decide (k ≤ 6), ()) := by
 show sh44 0 k = _
 unfold sh44; simp only [joinK, sh44_K0]; split <;> (try simp_all) <;> omega
theorem e76 (k : Int) : sp76 (k, ()) = some ((exitsN k : Int), ()) := by
 show sh76 0 k = _
 unfold sh76 exitsN
 simp only [joinK, sh76_K0, sh76_K1]
 by_cases h8 : k = 8
 ·subst h8; rfl
 by_cases h9 : k = 9
 ·subst h9; rfl
 rw [if_neg (by simpa using h8), show (k == 9) = false by simpa using h9, if_neg (by decide), if_neg (show ¬ (k = 8 ∨ k = 9) by omega)]
 by_cases h4 : k = 4
 ·subst h4; rfl
 by_cases h5 : k = 5
 ·subst h5; rfl
 by_cases h6 : k = 6
 ·subst h6; rfl
 rw [if_neg (by simpa using h4), if_neg (by simpa using h5), show (k == 6) = false by simpa using h6, if_neg (by decide), if_neg (show ¬ (k = 4 ∨ k = 5 ∨ k = 6) by omega)]
 rfl
theorem mget_set (l : List (Int × Int)) (n v m : Int) : mGet (mSet l n v) m = if n = m then v else mGet l m := by
 induction l with
 | nil =>
  simp only [mSet, mGet]
  by_cases h : n = m
  ·rw [if_pos h, if_pos (by simpa using h)]
  ·rw [if_neg h, if_neg (by simpa using h)]
 | cons p r ih =>
  obtain ⟨a, b⟩ := p
  by_cases ha : a = n
  ·subst ha
   simp only [mSet, beq_self_eq_true, if_true, mGet]
   by_cases h : a = m
   ·subst h; simp
   ·rw [if_neg h, if_neg (by simpa using h), if_neg (by simpa using h)]
  ·have h1 : (a == n) = false := by simpa using ha
   simp only [mSet, h1, Bool.false_eq_true, if_false, mGet]
   by_cases hm : a = m
   ·have h2 : (a == m) = true := by simpa using hm
    simp only [h2, if_true]
    rw [if_neg (by omega)]
   ·have h2 : (a == m) = false := by simpa using hm
    simp only [h2, Bool.false_eq_true, if_false]
    exact ih
def exN (ns : List Nd) (k : Nat) : IL := (ns.getD k ([], 0, 0, 0, [], ())).2.2.2.2.1
def ecN (ns : List Nd) (k i : Nat) : Nat := if k = i then 0 else (exN ns k).countP fun y => y.1 == (i : Int)
def remN (N : Nat) (out : List Nat) : List Nat := (List.range N).filter fun k => !out.contains k
def wN (ns : List Nd) (S : List Nat) (i : Nat) : Nat := (S.map fun k => ecN ns k i).sum
def nextN (ns : List Nd) (N : Nat) (out : List Nat) : Option Nat := (List.range N).find? fun i => !out.contains i && wN ns (remN N out) i == 0
def ordN (ns : List Nd) (N : Nat) : Nat → List Nat → List Nat
 | 0, out => out
 | n + 1, out => match nextN ns N out with
  | some i => ordN ns N n (out ++ [i])
  | none => out
def ilN (l : List Nat) : IL := l.map fun k : Nat => ((k : Int), ())
theorem wN_le {ns : List Nd} {c : Nat} (h : ∀ k i, ecN ns k i ≤ c) (S : List Nat) (i : Nat) : wN ns S i ≤ c * S.length := by
 induction S with
 | nil => simp [wN]
 | cons k r ih =>
  simp only [wN, List.map_cons, List.sum_cons, List.length_cons] at ih ⊢
  have := h k i
  rw [Nat.mul_succ]; omega
theorem wN_rem {ns : List Nd} {N : Nat} {out : List Nat} {x i : Nat} (hx : x < N) (ho : x ∉ out) : wN ns (remN N out) i = ecN ns x i + wN ns (remN N (out ++ [x])) i := by
 have key : ∀ l : List Nat, l.Nodup → x ∈ l → ((l.filter fun k => !out.contains k).map fun k => ecN ns k i).sum = ecN ns x i + ((l.filter fun k => !(out ++ [x]).contains k).map fun k => ecN ns k i).sum := by
  intro l
  induction l with
  | nil => intro _ h; cases h
  | cons a r ih =>
   intro hn hm
   obtain ⟨hn1, hn2⟩ := List.nodup_cons.1 hn
   by_cases hax : a = x
   ·subst hax
    have e1 : (r.filter fun k => !(out ++ [a]).contains k) = r.filter fun k => !out.contains k := List.filter_congr fun k hk => by
     have : k ≠ a := fun e => hn1 (e ▸ hk)
     simp [this]
    rw [List.filter_cons_of_pos (by simpa using ho), List.filter_cons_of_neg (by simp), e1]
    simp
   ·have hm' : x ∈ r := by
     rcases List.mem_cons.1 hm with h | h
     ·exact absurd h.symm hax
     ·exact h
    have ih := ih hn2 hm'
    by_cases hao : a ∈ out
    ·rw [List.filter_cons_of_neg (by simpa using hao), List.filter_cons_of_neg (by simp [hao])]; exact ih
    ·rw [List.filter_cons_of_pos (by simpa using hao), List.filter_cons_of_pos (by simp [hao, hax])]
     simp only [List.map_cons, List.sum_cons]
     rw [ih]; omega
 exact key _ List.nodup_range (List.mem_range.2 hx)
theorem find_range {N : Nat} {p : Nat → Bool} {x : Nat} (h : (List.range N).find? p = some x) : x < N ∧ p x = true ∧ ∀ j < x, p j = false := by
 rw [List.find?_range_eq_some] at h
 obtain ⟨h1, h2, h3⟩ := h
 exact ⟨List.mem_range.1 h2, h1, fun j hj => by simpa using h3 j hj⟩
theorem len_sub : ∀ (l out : List Nat), l.Nodup → (∀ k ∈ l, k ∈ out) → l.length ≤ out.length
 | [], out, _, _ => Nat.zero_le _
 | a :: r, out, hn, hs => by
  obtain ⟨h1, h2⟩ := List.nodup_cons.1 hn
  have ha := hs a (List.mem_cons_self ..)
  have := len_sub r (out.erase a) h2 fun k hk => (List.mem_erase_of_ne (fun e : k = a => h1 (by rw [← e]; exact hk))).2 (hs k (List.mem_cons_of_mem _ hk))
  rw [List.length_erase_of_mem ha] at this
  have := List.length_pos_of_mem ha
  simp only [List.length_cons]; omega
theorem next_spec {ns : List Nd} {N : Nat} {out : List Nat} {x : Nat} (h : nextN ns N out = some x) : x < N ∧ x ∉ out ∧ wN ns (remN N out) x = 0 ∧ ∀ j < x, j ∈ out ∨ wN ns (remN N out) j ≠ 0 := by
 obtain ⟨h1, h2, h3⟩ := find_range h
 simp only [Bool.and_eq_true, Bool.not_eq_true', beq_iff_eq] at h2
 refine ⟨h1, by simpa using h2.1, h2.2, fun j hj => ?_⟩
 have := h3 j hj
 simp only [Bool.and_eq_false_iff, Bool.not_eq_false', beq_eq_false_iff_ne] at this
 rcases this with h | h
 ·exact .inl (by simpa using h)
 ·exact .inr h
abbrev WM := List (Int × Int)
def ecQ (ns : List Nd) (k q i : Nat) : Nat := if k = i then 0 else ((exN ns k).take q).countP fun y => y.1 == (i : Int)
theorem ecQ_all {ns : List Nd} {k i q : Nat} (h : (exN ns k).length ≤ q) : ecQ ns k q i = ecN ns k i := by
 unfold ecQ ecN; rw [List.take_of_length_le h]
theorem ecQ_succ {ns : List Nd} {k q i : Nat} (h : q < (exN ns k).length) : ecQ ns k (q + 1) i = ecQ ns k q i + (if k ≠ i ∧ ((exN ns k)[q]).1 = (i : Int) then 1 else 0) := by
 unfold ecQ
 by_cases e : k = i
 ·rw [if_pos e, if_pos e, if_neg (by simp [e])]
 ·rw [if_neg e, if_neg e, List.take_add_one, List.getElem?_eq_getElem h, List.countP_append]
  congr 1
  simp only [Option.toList, List.countP_cons, List.countP_nil, Nat.zero_add, beq_iff_eq]
  simp only [ne_eq, e, not_false_eq_true, true_and]
theorem wN_range (ns : List Nd) (m i : Nat) : wN ns (List.range (m + 1)) i = wN ns (List.range m) i + ecN ns m i := by
 simp only [wN, List.range_succ, List.map_append, List.sum_append, List.map_cons, List.map_nil, List.sum_cons, List.sum_nil, Nat.add_zero]
section
variable {N gate : Nat} {ns : List Nd} {ds : List Dv}
end
section
variable {N gate : Nat} {ns : List Nd} {ds : List Dv}
structure SInv (ns : List Nd) (N r : Nat) (out : List Nat) (w : WM) (done : List (Bool × Unit)) : Prop where
 len : out.length = r
 nd : out.Nodup
 lt : ∀ k ∈ out, k < N
 dl : done.length = N
 dn : ∀ i < N, (done.getD i (false, ())).1 = decide (i ∈ out)
 w : ∀ i : Nat, mGet w (i : Int) = ((wN ns (remN N out) i : Nat) : Int)
 ord : ordN ns N (N - r) out = ordN ns N N []
theorem rem_len (N : Nat) (out : List Nat) : (remN N out).length ≤ N := by
 unfold remN
 refine Nat.le_trans (List.length_filter_le _ _) ?_
 rw [List.length_range]; exact Nat.le_refl _
end
theorem dv_eq (x y : Dv) : x = y ↔ x.1 = y.1 ∧ x.2.1 = y.2.1 ∧ x.2.2.1 = y.2.2.1 := by
 obtain ⟨a, b, c, ⟨⟩⟩ := x
 obtain ⟨a', b', c', ⟨⟩⟩ := y
 simp
section
variable {N gate : Nat} {ns : List Nd} {ds : List Dv}
end
abbrev exs (l : Ty4) (i : Nat) : List (Int × Unit) := (ndV l i).2.2.2.2.1
abbrev lnV (l : Ty4) (i : Nat) : Int := (ndV l i).2.2.1
abbrev binV (l : Ty4) (i : Nat) : Prop := stripK (ndV l i).2.1 = false
section
variable {l : Ty4} {b : BrV} {t i : Nat}
theorem best_ex (hL : LenV l) (hi : i < l.1.length) : ∀ k, 0 ≤ bestV l b t i k → ∃ x ∈ exs l i, goV l i x.1.toNat t = true ∧ 0 ≤ distV l b t x.1.toNat ∧ distV l b t x.1.toNat + lnV l i = bestV l b t i k
 | 0, h => by simp [bestV] at h
 | k + 1, h => by
  cases hx : (exs l i)[k]? with
  | none =>
   have e : bestV l b t i (k + 1) = bestV l b t i k := by
    unfold bestV
    rw [List.take_add_one, hx]; simp
   rw [e] at h ⊢
   exact best_ex hL hi k h
  | some x =>
   rw [bestV_succ hx] at h ⊢
   have hxm := List.mem_of_getElem? hx
   unfold putV at h ⊢
   by_cases hg : goV l i x.1.toNat t = true
   ·rw [if_pos hg] at h ⊢
    unfold relV at h ⊢
    by_cases hr : 0 ≤ distV l b t x.1.toNat ∧ (bestV l b t i k < 0 ∨ distV l b t x.1.toNat + (ndV l i).2.2.1 < bestV l b t i k)
    ·rw [if_pos hr]; exact ⟨x, hxm, hg, hr.1, rfl⟩
    ·rw [if_neg hr] at h ⊢
     exact best_ex hL hi k h
   ·rw [if_neg hg] at h ⊢
    exact best_ex hL hi k h
variable (hL : LenV l) (hR : RkV l t)
include hL hR
theorem dist_nb (hi : i < l.1.length) (h : 0 ≤ distV l b t i) : brkV b i = false := by
 rw [distV_eq hL hR hi] at h
 by_cases hb : brkV b i = true
 ·rw [if_pos hb] at h; omega
 ·simpa using hb
theorem dist_ex (hi : i < l.1.length) (hit : i ≠ t) (h : 0 ≤ distV l b t i) : ∃ x ∈ exs l i, goV l i x.1.toNat t = true ∧ 0 ≤ distV l b t x.1.toNat ∧ distV l b t x.1.toNat + lnV l i = distV l b t i := by
 have hb := dist_nb hL hR hi h
 have e := distV_eq (b := b) hL hR hi
 rw [hb, if_neg (by simp), if_neg hit] at e
 rw [e] at h ⊢
 exact best_ex hL hi _ h
theorem exit_ex (hi : i < l.1.length) (hit : i ≠ t) (h : 0 ≤ distV l b t i) : ∃ k : Nat, ∃ hk : k < (exs l i).length, exitV l b t i = k ∧ goV l i ((exs l i)[k]).1.toNat t = true ∧ 0 ≤ distV l b t ((exs l i)[k]).1.toNat ∧ distV l b t ((exs l i)[k]).1.toNat + lnV l i = distV l b t i := by
 obtain ⟨x, hx, hg, hd, he⟩ := dist_ex hL hR hi hit h
 unfold exitV
 cases hf : (ndV l i).2.2.2.2.1.findIdx? fun x => goV l i x.1.toNat t && (decide (0 ≤ distV l b t i) && (decide (0 ≤ distV l b t x.1.toNat) && decide (distV l b t x.1.toNat + (ndV l i).2.2.1 = distV l b t i))) with
 | none =>
  rw [List.findIdx?_eq_none_iff] at hf
  have := hf x hx
  rw [hg, decide_eq_true h, decide_eq_true hd, decide_eq_true he] at this
  cases this
 | some k =>
  obtain ⟨hk, hp, _⟩ := List.findIdx?_eq_some_iff_getElem.1 hf
  simp only [Bool.and_eq_true, decide_eq_true_eq] at hp
  exact ⟨k, hk, rfl, hp.1, hp.2.2.1, hp.2.2.2⟩
omit hL hR in
theorem exit_no (h : distV l b t i < 0) : exitV l b t i = -1 := by
 unfold exitV
 rw [List.findIdx?_eq_none_iff.2]
 intro x hx
 rw [decide_eq_false (show ¬ 0 ≤ distV l b t i by omega)]
 simp
end
section
variable {N gate : Nat} {ns : List Nd} {ds : List Dv}
theorem goV_ne {l : Ty4} {i j t : Nat} (h : goV l i j t = true) : j ≠ i := by
 unfold goV at h
 simp only [Bool.and_eq_true, bne_iff_ne] at h
 exact h.1
theorem f44 (k : Int) : sp44 (k, ()) = some (stripK k, ()) := e44 k
theorem e33 (l : Ty4) (t : Int) : sp33 (l, t, ()) = some (decide (0 ≤ t) && (decide (t < l.1.length) && !stripK (ndV l t.toNat).2.1), ()) := by
 show sh33 0 l t = _
 unfold sh33
 simp only [joinK, sh33_K0]
 by_cases h0 : 0 ≤ t
 ·rw [if_pos (decide_eq_true h0), decide_eq_true h0]
  by_cases h1 : t < l.1.length
  ·have hin : inR t l.1.length = true := by simp only [inR, Bool.and_eq_true, decide_eq_true_eq]; omega
   rw [if_pos (decide_eq_true h1), decide_eq_true h1, if_pos hin]
   show (sp44 ((ndV l t.toNat).2.1, ())).bind _ = _
   rw [f44]; simp
  ·rw [if_neg (by simpa using h1), decide_eq_false h1]; simp
 ·rw [if_neg (by simpa using h0), decide_eq_false h0]; simp
open Classical in
open Classical in
open Classical in
theorem e11 (x : Int) (n : Nat) (hn : n ≤ 20) : ∃ b : BrV, sp11 (x, (n : Int), ()) = some (b, ()) ∧ b.length = n := by
 show ∃ b : BrV, sh11 100000 x (n : Int) = some (b, ()) ∧ b.length = n
 unfold sh11
 simp only [joinK]
 refine iter_post (F := sh11_L2 sh11_K0) (fun k z => ∃ b : BrV, z = (x, (n : Int), (k : Int), b, ()) ∧ b.length = k) (fun r => ∃ b : BrV, r = some (b, ()) ∧ b.length = n) n 100000 (by omega) ⟨[], rfl, rfl⟩ ?_ ?_
 ·rintro rc k _ hk ⟨b, rfl, hb⟩
  have hw : IntKind.u64.wrap (k : Int) = k := by simp [IntKind.wrap, IntKind.bits, IntKind.signed]; omega
  unfold sh11_L2
  simp only
  rw [if_pos (by simpa using hk), hw, if_pos (by simp), if_pos (dlim (by simp; omega)), if_pos (dlim (by simp; omega)), up1' hk]
  exact ⟨_, rfl, _, rfl, by simp [hb]⟩
 ·rintro rc _ ⟨b, rfl, hb⟩
  unfold sh11_L2
  simp only
  rw [if_neg (by simp)]
  exact ⟨b, rfl, hb⟩
end
theorem e20 (k : Int) : sp20 (k, ()) = some (stripK k, ()) := by
 show sh20 0 k = _
 unfold sh20 stripK; simp only [joinK, sh20_K0]
 by_cases h : 1 ≤ k <;> simp [h]
theorem goV_of {l : Ty4} {i j t : Nat} (h : j ≠ i) (ht : j = t ∨ ¬ binV l j) : goV l i j t = true := by
 unfold goV
 rw [show (j != i) = true by simpa using h]
 rcases ht with rfl | ht
 ·simp
 ·unfold binV at ht
  rw [show stripK (ndV l j).2.1 = true by simpa using ht]; simp
def lay0 : Ty4 := ([([65], 1, 2, 0, [(1, ())], ()), ([71], 6, 1, 0, [(3, ()), (2, ())], ()), ([67], 8, 0, 1, [], ()), ([77], 9, 0, 0, [], ())], [(2, 1, 0, ())], ())
theorem parse0 : sp23 (lit0, ()) = some ((lay0, 0, 0, ()), ()) := by kernel_rfl
theorem a27 (f t : Int) (h : f = 0 ∧ t = 2 ∨ f = 1 ∧ t = 2) : sp27 (lay0, f, t, ()) = some (true, ()) := by
 rcases h with ⟨rfl, rfl⟩ | ⟨rfl, rfl⟩ <;> kernel_rfl
theorem a32 : sp32 (lay0, ()) = some (0, ()) := by kernel_rfl
theorem lv0 : LenV lay0 where
 n := by decide
 len := by decide
 ex := by decide
theorem rk0 (t : Nat) : RkV lay0 t := by
 refine ⟨fun i => 4 - i, fun i => by show 4 - i ≤ 4; omega, fun i hi _ x hx _ => ?_⟩
 have key : ∀ i < 4, ∀ x ∈ (ndV lay0 i).2.2.2.2.1, 4 - x.1.toNat < 4 - i := by decide
 exact key i hi x hx
open Classical in
theorem e8 : sp8 () = some (true, ()) := by
 have w02 : WayV lay0 0 2 := ⟨lv0, rk0 _, by decide, by decide, by decide, by decide⟩
 have w12 : WayV lay0 1 2 := ⟨lv0, rk0 _, by decide, by decide, by decide, by decide⟩
 have s12 : ∀ b : BrV, sp12 (lay0, b, 0, 2, ()) = some (distV lay0 b 2 0, ()) := fun b => by
  unfold sp12
  simp only
  rw [a27 0 2 (.inl ⟨rfl, rfl⟩), Option.bind_some, if_neg (by simp), if_pos w02]; rfl
 have s14 : sp14 (lay0, [], 1, 2, ()) = some (exitV lay0 [] 2 1, ()) := by
  unfold sp14
  simp only
  rw [a27 1 2 (.inr ⟨rfl, rfl⟩), Option.bind_some, if_neg (by simp), if_neg (by decide), if_pos w12]; rfl
 have s17 : sp17 (lay0, [], 0, ()) = some (reachV lay0 [] 0, ()) := by
  unfold sp17
  simp only
  rw [if_neg (by decide), a32, Option.bind_some, if_neg (by simp), if_pos ⟨lv0, fun t _ => rk0 t⟩]; rfl
 show sh8 0 = _
 unfold sh8
 rw [parse0, Option.bind_some]
 simp only [joinK]
 rw [s12, Option.bind_some, show distV lay0 [] 2 0 = 3 by kernel_rfl]
 simp only
 rw [if_pos (by rfl), s14, Option.bind_some, show exitV lay0 [] 2 1 = 1 by kernel_rfl]
 simp only
 rw [if_pos (by rfl), s17, Option.bind_some, show reachV lay0 [] 0 = [(2, ()), (3, ())] by kernel_rfl]
 simp only
 rw [show sp16 ([(2, ()), (3, ())], [(2, ()), (3, ())], ()) = some (true, ()) by kernel_rfl, Option.bind_some]
 simp only
 rw [if_pos trivial, s12, Option.bind_some, show distV lay0 [(false, ()), (true, ())] 2 0 = -1 by kernel_rfl]
 rfl
end Go.Proofs.YtjficagemeiecaaDoor
