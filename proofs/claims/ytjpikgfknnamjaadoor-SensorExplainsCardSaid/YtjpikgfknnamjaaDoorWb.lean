/- Chapter 12: what the functions come to; the laws. -/
import Derived.Test.YtjpikgfknnamjaaDoorWa
import Derived.Test.YtjpikgfknnamjaaDoorMath
import Derived.KernelRfl
open Go Go.Proofs Go.Abs
set_option linter.unusedVariables false
set_option maxRecDepth 100000
namespace Go.Proofs.YtjpikgfknnamjaaDoor
abbrev IL := List (Int × Unit)
theorem iter_succ {σ R : Type} (n : Nat) (F : (σ → Option R) → σ → Option R) (z : σ) : iter (n + 1) F z = F (iter n F) z := rfl
theorem iter_post {σ R : Type} {F : (σ → Option R) → σ → Option R} (I : Nat → σ → Prop) (Post : Option R → Prop) (m n : Nat) (hn : m < n) {z : σ} (h0 : I 0 z)
  (hs : ∀ rc k z, k < m → I k z → ∃ z', F rc z = rc z' ∧ I (k + 1) z') (he : ∀ rc z, I m z → Post (F rc z)) : Post (iter n F z) := by
 suffices h : ∀ n k z, m - k < n → k ≤ m → I k z → Post (iter n F z) from h n 0 z (by omega) (Nat.zero_le _) h0
 intro n
 induction n with
 | zero => intro k z hk; omega
 | succ n ih =>
  intro k z hk hkm hi
  rw [iter_succ]
  rcases Nat.lt_or_ge k m with hlt | hge
  ·obtain ⟨z', h1, h2⟩ := hs (iter n F) k z hlt hi
   rw [h1]; exact ih (k + 1) z' (by omega) hlt h2
  ·have : k = m := by omega
   subst this
   exact he _ z hi
theorem dlim {n : Nat} (h : n ≤ 100000000000) : decide (n ≤ lim) = true := decide_eq_true (Nat.le_trans h (by decide))
theorem lAt_mem {α : Type} (d : α) (l : List α) (k : Int) (h0 : 0 ≤ k) (h1 : k < l.length) : lAt d l k ∈ l := by
 have hk : k.toNat < l.length := by omega
 show l.getD k.toNat d ∈ l
 rw [List.getD, List.getElem?_eq_getElem hk]
 exact List.getElem_mem hk
theorem inR_int {k : Int} {n : Nat} (h0 : 0 ≤ k) (h : k < n) : inR k n = true := by simp [inR, h0, h]
abbrev Sr : Type := IL × Int × Unit
def SrOk (s : Sr) : Prop := s.1.length ≤ 2000 ∧ 0 ≤ s.2.1 ∧ s.2.1 ≤ 2000
theorem e43 {s : Sr} (h : SrOk s) : ∃ v s', sp43 (s, ()) = some (v, s', ()) ∧ SrOk s' := by
 obtain ⟨l, a, _⟩ := s
 obtain ⟨h1, h2, h3⟩ := h
 simp only at h1 h2 h3
 show ∃ v s', sh43 0 (l, a, ()) = some (v, s', ()) ∧ SrOk s'
 unfold sh43
 by_cases hc : (l.length : Int) ≤ a
 ·rw [if_pos (by simpa using hc)]; exact ⟨_, _, rfl, h1, h2, h3⟩
 ·have w1 : IntKind.i64.wrap (a + 1) = a + 1 := wrapI (by omega) (by omega)
  have w2 : IntKind.i64.wrap (a + 1 - 1) = a := by rw [wrapI (by omega) (by omega)]; omega
  rw [if_neg (by simpa using hc)]
  simp only [w1, w2]
  rw [if_pos (by simp [inR]; omega)]
  exact ⟨_, _, rfl, h1, by simp only; omega, by simp only; omega⟩
theorem e19 (x n : Int) (h1 : 1 ≤ n) (h2 : n ≤ 1000000) : ∃ v, sp19 (x, n, ()) = some (v, ()) ∧ 0 ≤ v ∧ v < n := by
 show ∃ v, sh19 0 x n = some (v, ()) ∧ _
 unfold sh19
 rw [if_neg (by simp; omega), if_pos (by simp; omega)]
 simp only [joinK, sh19_K0]
 have b1 : x.tmod n < n := Int.tmod_lt_of_pos x (by omega)
 have b2 : -n < x.tmod n := by have := Int.lt_tmod_of_pos x (show 0 < n by omega); omega
 by_cases hc : x.tmod n < 0
 ·rw [if_pos (by simpa using hc)]; exact ⟨_, rfl, by rw [wrapI (by omega) (by omega)]; omega, by rw [wrapI (by omega) (by omega)]; omega⟩
 ·rw [if_neg (by simpa using hc)]; exact ⟨_, rfl, by omega, b1⟩
theorem e18 {s : Sr} (h : SrOk s) (n : Int) (h1 : 1 ≤ n) (h2 : n ≤ 1000000) : ∃ v s', sp18 (s, n, ()) = some (v, s', ()) ∧ 0 ≤ v ∧ v < n ∧ SrOk s' := by
 obtain ⟨r, s', hr, hs⟩ := e43 h
 obtain ⟨v, hv, k1, k2⟩ := e19 r n h1 h2
 refine ⟨v, s', ?_, k1, k2, hs⟩
 show sh18 0 s n = _
 unfold sh18
 rw [hr, Option.bind_some]
 simp only
 rw [hv]; rfl
theorem e8 (l : IL) : ∃ s, sp8 (l, ()) = some (s, ()) ∧ SrOk s := by
 show ∃ s, sh8 0 l = some (s, ()) ∧ _
 unfold sh8
 simp only [joinK, sh8_K0]
 by_cases h : (2000 : Int) < (l.length : Int)
 ·have hc : inCut 0 2000 l.length = true := inCut_nat (a := 0) (b := 2000) (by decide) (by omega)
  rw [if_pos (by simpa using h), if_pos hc]
  refine ⟨_, rfl, ?_, Int.le_refl 0, show (0 : Int) ≤ 2000 by decide⟩
  show (cutL l 0 2000).length ≤ 2000
  simp only [cutL, List.length_take]; exact Nat.min_le_left _ _
 ·rw [if_neg (by simpa using h)]
  exact ⟨_, rfl, by show l.length ≤ 2000; omega, Int.le_refl 0, show (0 : Int) ≤ 2000 by decide⟩
theorem e26 {s : Sr} (h : SrOk s) (t : IL) (h1 : 1 ≤ t.length) (h2 : t.length ≤ 1000) : ∃ v s', sp26 (s, t, ()) = some (v, s', ()) ∧ (v, ()) ∈ t ∧ SrOk s' := by
 obtain ⟨v, s', hv, k1, k2, hs⟩ := e18 h (t.length : Int) (by omega) (by omega)
 refine ⟨(lAt (0, ()) t v).1, s', ?_, lAt_mem (0, ()) t v k1 k2, hs⟩
 show sh26 0 s t = _
 unfold sh26
 rw [hv, Option.bind_some]
 simp only
 rw [if_pos (by simp [inR]; omega)]
theorem e13 {s : Sr} (h : SrOk s) (lo hi : Int) (h1 : lo ≤ hi) (h2 : -1000 ≤ lo) (h3 : hi ≤ 1000) : ∃ v s', sp13 (s, lo, hi, ()) = some (v, s', ()) ∧ lo ≤ v ∧ v ≤ hi ∧ SrOk s' := by
 obtain ⟨v, s', hv, k1, k2, hs⟩ := e18 h (hi - lo + 1) (by omega) (by omega)
 refine ⟨lo + v, s', ?_, by omega, by omega, hs⟩
 show sh13 0 s lo hi = _
 unfold sh13
 rw [wrapI (x := hi - lo) (by omega) (by omega), wrapI (x := hi - lo + 1) (by omega) (by omega)]
 rw [hv, Option.bind_some]
 simp only
 rw [wrapI (by omega) (by omega)]
theorem e49 {s : Sr} (h : SrOk s) (t : IL) (x : Int) (ht : t.length ≤ 1000) :
  ∃ v s', sp49 (s, t, x, ()) = some (v, s', ()) ∧ SrOk s' ∧ ((v = -1 ∧ ∀ y ∈ t, y.1 = x) ∨ ((v, ()) ∈ t ∧ v ≠ x)) := by
 show ∃ v s', sh49 100000 s t x = some (v, s', ()) ∧ _
 unfold sh49
 simp only [joinK]
 refine iter_post (F := sh49_L3 sh49_K0) (fun k z => ∃ u : IL, z = (t, x, (k : Int), s, u, ()) ∧ u.length ≤ k ∧ (∀ y ∈ u, y ∈ t ∧ y.1 ≠ x) ∧ (u = [] → ∀ y ∈ t.take k, y.1 = x))
  (fun o => ∃ v s', o = some (v, s', ()) ∧ SrOk s' ∧ ((v = -1 ∧ ∀ y ∈ t, y.1 = x) ∨ ((v, ()) ∈ t ∧ v ≠ x))) t.length 100000 (by omega) ⟨[], rfl, by simp, by simp, by simp⟩ (fun rc k z hk hz => ?_) (fun rc z hz => ?_)
 ·obtain ⟨u, rfl, h1, h2, h3⟩ := hz
  simp only [sh49_L3, joinK, sh49_K4]
  rw [if_pos (by simpa using hk), if_pos (inR_nat hk), lAt_nat _ _ _ hk]
  by_cases hx : t[k].1 = x
  ·rw [if_neg (by simpa using hx), up1' hk]
   refine ⟨_, rfl, u, rfl, by omega, h2, fun hu y hy => ?_⟩
   rw [List.take_add_one, List.getElem?_eq_getElem hk] at hy
   rcases List.mem_append.1 hy with hy | hy
   ·exact h3 hu y hy
   ·simp only [Option.toList, List.mem_singleton] at hy; rw [hy]; exact hx
  ·rw [if_pos (by simpa using hx), if_pos (inR_nat hk), if_pos (dlim (by omega)), if_pos (dlim (by omega)), up1' hk]
   refine ⟨_, rfl, u ++ [t[k]], rfl, by simp only [List.length_append, List.length_cons, List.length_nil]; omega, fun y hy => ?_, by simp⟩
   rcases List.mem_append.1 hy with hy | hy
   ·exact h2 y hy
   ·rw [List.mem_singleton.1 hy]; exact ⟨List.getElem_mem hk, hx⟩
 ·obtain ⟨u, rfl, h1, h2, h3⟩ := hz
  simp only [sh49_L3]
  rw [if_neg (by simp)]
  simp only [sh49_K0]
  by_cases hu : u = []
  ·subst hu
   rw [if_pos (by decide)]
   rw [List.take_length] at h3
   exact ⟨_, _, rfl, h, .inl ⟨rfl, h3 rfl⟩⟩
  ·have hl := List.length_pos_iff.2 hu
   obtain ⟨v, s', hv, k1, k2, hs⟩ := e18 h (u.length : Int) (by omega) (by omega)
   have hb : ((u.length : Int) == 0) = false := by simp; omega
   rw [hb, if_neg (by decide), hv, Option.bind_some]
   simp only
   rw [if_pos (inR_int k1 k2), if_pos (decide_eq_true (by omega))]
   have hm : lAt (0, ()) u v ∈ u := lAt_mem (0, ()) u v k1 k2
   exact ⟨_, _, rfl, hs, .inr (h2 _ hm)⟩
abbrev Nd := Ty4
abbrev Dv := Ty2
abbrev Lay := Ty7
def StripG (i zone : Int) (kinds to : IL) (x : Nd) : Prop :=
 x.1 = [] ∧ x.2.2.2.1 = zone ∧ ∃ f : Int, (f, ()) ∈ to ∧
  ((x.2.1 = 5 ∧ (5, ()) ∈ kinds ∧ 2 ≤ x.2.2.1 ∧ x.2.2.1 ≤ 4 ∧ x.2.2.2.2.1 = [(i, ()), (f, ())]) ∨
  (x.2.1 = 4 ∧ (4, ()) ∈ kinds ∧ 1 ≤ x.2.2.1 ∧ x.2.2.1 ≤ 3 ∧ ∃ g : Int, (g, ()) ∈ to ∧ g ≠ f ∧ x.2.2.2.2.1 = [(f, ()), (g, ())]) ∨
  (x.2.1 = 2 ∧ (4, ()) ∈ kinds ∧ 1 ≤ x.2.2.1 ∧ x.2.2.1 ≤ 3 ∧ x.2.2.2.2.1 = [(f, ())]) ∨
  ((x.2.1, ()) ∈ kinds ∧ x.2.1 ≠ 5 ∧ x.2.1 ≠ 4 ∧ 1 ≤ x.2.2.1 ∧ x.2.2.1 ≤ 3 ∧ x.2.2.2.2.1 = [(f, ())]))
theorem e23 {s : Sr} (h : SrOk s) (i zone : Int) (kinds to : IL) (hk1 : 1 ≤ kinds.length) (hk2 : kinds.length ≤ 1000) (ht1 : 1 ≤ to.length) (ht2 : to.length ≤ 1000) (hto : ∀ y ∈ to, 0 ≤ y.1) :
  ∃ x s', sp23 (s, i, zone, kinds, to, ()) = some (x, s', ()) ∧ SrOk s' ∧ StripG i zone kinds to x := by
 obtain ⟨kd, s1, h1, m1, k1⟩ := e26 h kinds hk1 hk2
 obtain ⟨ln, s2, h2, l1, l2, k2⟩ := e13 k1 1 3 (by decide) (by decide) (by decide)
 obtain ⟨f, s3, h3, k3, hf⟩ := e49 k2 to (-1) ht2
 have hf : (f, ()) ∈ to := by
  rcases hf with ⟨_, hf⟩ | ⟨hf, _⟩
  ·have hm : to[0] ∈ to := List.getElem_mem ht1
   have a := hf _ hm
   have b := hto _ hm
   omega
  ·exact hf
 have st : sp23 (s, i, zone, kinds, to, ()) = sh23 0 s i zone kinds to := rfl
 rw [st]
 unfold sh23
 rw [h1, Option.bind_some]
 simp only
 rw [h2, Option.bind_some]
 simp only
 rw [h3, Option.bind_some]
 simp only [joinK, sh23_K3]
 by_cases h5 : kd = 5
 ·subst h5
  rw [if_pos (by decide), wrapI (by omega) (by omega)]
  exact ⟨_, _, rfl, k3, rfl, rfl, f, hf, .inl ⟨rfl, m1, by simp only; omega, by simp only; omega, rfl⟩⟩
 rw [if_neg (by simpa using h5)]
 by_cases h4 : kd = 4
 ·subst h4
  obtain ⟨g, s4, h6, k4, hg⟩ := e49 k3 to f ht2
  rw [if_pos (by decide), h6, Option.bind_some]
  simp only
  by_cases hn : g < 0
  ·rw [if_pos (by simpa using hn)]
   exact ⟨_, _, rfl, k4, rfl, rfl, f, hf, .inr (.inr (.inl ⟨rfl, m1, l1, l2, rfl⟩))⟩
  ·rw [if_neg (by simpa using hn)]
   rcases hg with ⟨hg, _⟩ | ⟨hg, hgf⟩
   ·omega
   ·exact ⟨_, _, rfl, k4, rfl, rfl, f, hf, .inr (.inl ⟨rfl, m1, l1, l2, g, hg, hgf, rfl⟩)⟩
 rw [if_neg (by simpa using h4)]
 exact ⟨_, _, rfl, k3, rfl, rfl, f, hf, .inr (.inr (.inr ⟨m1, h5, h4, l1, l2, rfl⟩))⟩
structure DevG (ns : List Nd) (ds : List Dv) : Prop where
 len : ds.length ≤ 24
 ok : ∀ d ∈ ds, (d.1 = 1 ∨ d.1 = 2) ∧ 0 ≤ d.2.1 ∧ d.2.1 < (ns.length : Int) ∧ 0 ≤ d.2.2.1 ∧ d.2.2.1 < (lAt ([], 0, 0, 0, [], ()) ns d.2.1).2.2.1
 nd : ds.Nodup
structure DevP (ns : List Nd) (ds : List Dv) (i w : Int) (b : Bool) : Prop extends DevG ns ds where
 lt : ∀ d ∈ ds, d.2.1 < i ∨ (d.2.1 = i ∧ d.2.2.1 < w) ∨ (b = true ∧ d.2.1 = i ∧ d.2.2.1 = w ∧ d.1 = 2)
theorem DevP.next {ns : List Nd} {ds : List Dv} {i w : Int} {b : Bool} (h : DevP ns ds i w b) : DevP ns ds i (w + 1) false :=
 ⟨h.toDevG, fun d hd => by rcases h.lt d hd with a | ⟨a, c⟩ | ⟨_, a, c, _⟩ <;> omega⟩
theorem DevP.row {ns : List Nd} {ds : List Dv} {i w : Int} {b : Bool} (h : DevP ns ds i w b) : DevP ns ds (i + 1) 0 false :=
 ⟨h.toDevG, fun d hd => by rcases h.lt d hd with a | ⟨a, c⟩ | ⟨_, a, c, _⟩ <;> omega⟩
theorem DevP.weak {ns : List Nd} {ds : List Dv} {i w : Int} (h : DevP ns ds i w false) : DevP ns ds i w true :=
 ⟨h.toDevG, fun d hd => by rcases h.lt d hd with a | a | ⟨a, _⟩; exact .inl a; exact .inr (.inl a); cases a⟩
theorem DevP.add2 {ns : List Nd} {ds : List Dv} {i w : Int} (h : DevP ns ds i w false) (hl : ds.length < 24) (hi : 0 ≤ i) (hn : i < (ns.length : Int)) (hw : 0 ≤ w) (hx : w < (lAt ([], 0, 0, 0, [], ()) ns i).2.2.1) : DevP ns (ds ++ [(2, i, w, ())]) i w true where
 len := by simp only [List.length_append, List.length_cons, List.length_nil]; omega
 ok := fun d hd => by
  rcases List.mem_append.1 hd with hd | hd
  ·exact h.ok d hd
  ·rw [List.mem_singleton.1 hd]; exact ⟨.inr rfl, hi, hn, hw, hx⟩
 nd := List.nodup_append.2 ⟨h.nd, by simp, fun a ha b hb => by
  rw [List.mem_singleton.1 hb]
  rintro rfl
  rcases h.lt _ ha with c | ⟨_, c⟩ | ⟨c, _⟩
  ·simp only at c; omega
  ·simp only at c; omega
  ·cases c⟩
 lt := fun d hd => by
  rcases List.mem_append.1 hd with hd | hd
  ·exact h.weak.lt d hd
  ·rw [List.mem_singleton.1 hd]; exact .inr (.inr ⟨rfl, rfl, rfl, rfl⟩)
theorem DevP.add1 {ns : List Nd} {ds : List Dv} {i w : Int} (h : DevP ns ds i w true) (hl : ds.length < 24) (hi : 0 ≤ i) (hn : i < (ns.length : Int)) (hw : 0 ≤ w) (hx : w < (lAt ([], 0, 0, 0, [], ()) ns i).2.2.1) : DevP ns (ds ++ [(1, i, w, ())]) i (w + 1) false where
 len := by simp only [List.length_append, List.length_cons, List.length_nil]; omega
 ok := fun d hd => by
  rcases List.mem_append.1 hd with hd | hd
  ·exact h.ok d hd
  ·rw [List.mem_singleton.1 hd]; exact ⟨.inl rfl, hi, hn, hw, hx⟩
 nd := List.nodup_append.2 ⟨h.nd, by simp, fun a ha b hb => by
  rw [List.mem_singleton.1 hb]
  rintro rfl
  rcases h.lt _ ha with c | ⟨_, c⟩ | ⟨_, _, _, c⟩
  ·simp only at c; omega
  ·simp only at c; omega
  ·simp only at c; omega⟩
 lt := fun d hd => by
  rcases List.mem_append.1 hd with hd | hd
  ·exact h.next.lt d hd
  ·rw [List.mem_singleton.1 hd]; exact .inr (.inl ⟨rfl, by simp only; omega⟩)
theorem loop25 (j4) (Post : Option (List Dv × Sr × Unit) → Prop) (ns : List Nd) (dv : List Dv) (i : Nat) (hi : i < ns.length) (hl : ∀ x ∈ ns, x.2.2.1 ≤ 8) {s : Sr} (hs : SrOk s) {ds : List Dv} (hd : DevP ns ds i 0 false)
  (hj : ∀ (s' : Sr) (ds' : List Dv), SrOk s' → DevP ns ds' (i + 1) 0 false → Post (j4 ((i : Int), s', (ns, dv, ()), ds', ()))) : Post (iter 100000 (sh25_L5 j4) ((i : Int), 0, s, (ns, dv, ()), ds, ())) := by
 have hx : lAt ([], 0, 0, 0, [], ()) ns (i : Int) = ns[i] := lAt_nat _ _ _ hi
 have h8 := hl ns[i] (List.getElem_mem hi)
 refine iter_post (F := sh25_L5 j4) (fun k z => ∃ (s' : Sr) (ds' : List Dv), z = ((i : Int), (k : Int), s', (ns, dv, ()), ds', ()) ∧ SrOk s' ∧ DevP ns ds' i k false) Post (ns[i].2.2.1).toNat 100000 (by omega)
  ⟨s, ds, rfl, hs, hd⟩ (fun rc k z hk hz => ?_) (fun rc z hz => ?_)
 ·obtain ⟨s1, d1, rfl, k1, p1⟩ := hz
  have hw : (k : Int) < ns[i].2.2.1 := by omega
  have up : IntKind.i64.wrap ((k : Int) + 1) = ((k + 1 : Nat) : Int) := wrapI (by omega) (by omega)
  simp only [sh25_L5]
  rw [if_pos (inR_nat hi), hx, if_pos (decide_eq_true hw)]
  simp only [joinK]
  rw [if_pos (inR_nat hi)]
  have fin : ∀ (s2 : Sr) (d2 : List Dv), SrOk s2 → DevP ns d2 i k true → ∃ z', sh25_K8 (sh25_K6 rc) ((i : Int), (k : Int), s2, (ns, dv, ()), d2, ()) = rc z' ∧ ∃ (s' : Sr) (ds' : List Dv), z' = ((i : Int), ((k + 1 : Nat) : Int), s', (ns, dv, ()), ds', ()) ∧ SrOk s' ∧ DevP ns ds' i ((k + 1 : Nat) : Int) false := by
   intro s2 d2 k2 p2
   simp only [sh25_K8, joinK]
   by_cases hlen : (d2.length : Int) < 24
   ·obtain ⟨v, s3, hv, v1, v2, k3⟩ := e18 k2 2 (by decide) (by decide)
    rw [if_pos (decide_eq_true hlen), hv, Option.bind_some]
    simp only [sh25_K9, sh25_K6, up]
    cases v == 0 with
    | true =>
     rw [if_pos rfl, if_pos (dlim (by omega)), if_pos (dlim (by omega))]
     exact ⟨_, rfl, s3, _, rfl, k3, by have := p2.add1 (by omega) (by omega) (by omega) (by omega) (by rw [hx]; exact hw); exact this⟩
    | false =>
     rw [if_neg (by decide)]
     exact ⟨_, rfl, s3, _, rfl, k3, p2.next⟩
   ·rw [if_neg (by simpa using hlen)]
    simp only [sh25_K9, sh25_K6, up]
    rw [if_neg (by decide)]
    exact ⟨_, rfl, s2, _, rfl, k2, p2.next⟩
  have mid : ∀ (b : Bool) (s2 : Sr) , d1.length < 24 → SrOk s2 → ∃ z', sh25_K13 (sh25_K8 (sh25_K6 rc)) ((i : Int), (k : Int), b, s2, (ns, dv, ()), d1, ()) = rc z' ∧ ∃ (s' : Sr) (ds' : List Dv), z' = ((i : Int), ((k + 1 : Nat) : Int), s', (ns, dv, ()), ds', ()) ∧ SrOk s' ∧ DevP ns ds' i ((k + 1 : Nat) : Int) false := by
   intro b s2 hlen k2
   simp only [sh25_K13]
   cases b with
   | true =>
    rw [if_pos rfl, if_pos (dlim (by omega)), if_pos (dlim (by omega))]
    exact fin s2 _ k2 (p1.add2 hlen (by omega) (by omega) (by omega) (by rw [hx]; exact hw))
   | false =>
    rw [if_neg (by decide)]
    exact fin s2 _ k2 p1.weak
  by_cases hlen : (d1.length : Int) < 24
  ·obtain ⟨v, s3, hv, v1, v2, k3⟩ := e18 k1 3 (by decide) (by decide)
   rw [if_pos (decide_eq_true hlen), hv, Option.bind_some]
   simp only
   by_cases c1 : (v == 0) = true
   ·rw [if_pos c1]; exact mid true s3 (by omega) k3
   ·rw [if_neg c1]
    by_cases c2 : ((k : Int) == IntKind.i64.wrap (ns[i].2.2.1 - 1)) = true
    ·rw [if_pos c2, if_pos (inR_nat hi)]; exact mid _ s3 (by omega) k3
    ·rw [if_neg c2]; exact mid false s3 (by omega) k3
  ·rw [if_neg (by simpa using hlen)]
   simp only [sh25_K13]
   rw [if_neg (by decide)]
   exact fin s1 d1 k1 p1.weak
 ·obtain ⟨s1, d1, rfl, k1, p1⟩ := hz
  simp only [sh25_L5]
  rw [if_pos (inR_nat hi), hx, if_neg (by simp only [decide_eq_true_eq]; omega)]
  exact hj s1 d1 k1 p1.row
theorem e25 {s : Sr} (hs : SrOk s) (ns : List Nd) (dv : List Dv) (hn : ns.length ≤ 1000) (hl : ∀ x ∈ ns, x.2.2.1 ≤ 8) : ∃ ds s', sp25 (s, (ns, dv, ()), ()) = some (ds, s', ()) ∧ SrOk s' ∧ DevG ns ds := by
 show ∃ ds s', sh25 100000 s (ns, dv, ()) = some (ds, s', ()) ∧ _
 unfold sh25
 simp only [joinK]
 refine iter_post (F := sh25_L2 100000 sh25_K0) (fun k z => ∃ (s' : Sr) (ds : List Dv), z = ((k : Int), s', (ns, dv, ()), ds, ()) ∧ SrOk s' ∧ DevP ns ds k 0 false) (fun o => ∃ ds s', o = some (ds, s', ()) ∧ SrOk s' ∧ DevG ns ds) ns.length 100000 (by omega)
  ⟨s, [], rfl, hs, ⟨⟨by simp, by simp, by simp⟩, by simp⟩⟩ (fun rc k z hk hz => ?_) (fun rc z hz => ?_)
 ·obtain ⟨s1, d1, rfl, k1, p1⟩ := hz
  simp only [sh25_L2, joinK]
  rw [if_pos (by simpa using hk)]
  refine loop25 _ (fun o => ∃ z', o = rc z' ∧ ∃ (s' : Sr) (ds : List Dv), z' = (((k + 1 : Nat) : Int), s', (ns, dv, ()), ds, ()) ∧ SrOk s' ∧ DevP ns ds ((k + 1 : Nat) : Int) 0 false) ns dv k hk hl k1 p1 fun s2 d2 k2 p2 => ?_
  simp only [sh25_K3, up1' hk]
  exact ⟨_, rfl, s2, d2, rfl, k2, p2⟩
 ·obtain ⟨s1, d1, rfl, k1, p1⟩ := hz
  simp only [sh25_L2]
  rw [if_neg (by simp)]
  exact ⟨_, _, rfl, k1, p1.toDevG⟩
theorem e24 (l : IL) (x : Int) (hl : l.length ≤ 90000) : sp24 (l, x, ()) = some (l.any fun y => y.1 == x, ()) := by
 show sh24 100000 l x = _
 unfold sh24
 simp only [joinK]
 refine (iter_list (F := sh24_L2 sh24_K0) l (fun y => !(y.1 == x)) (fun k => (l, x, (k : Int), ())) 100000 (by omega) (bad := some (true, ())) (fin := some (false, ())) (fun rc k hk => ?_) (fun rc => ?_)).trans ?_
 ·simp only [sh24_L2]
  rw [if_pos (by simpa using hk), if_pos (inR_nat hk), lAt_nat _ _ _ hk, up1' hk]
  cases l[k].1 == x <;> rfl
 ·simp only [sh24_L2]
  rw [if_neg (by simp)]; rfl
 ·rw [show (l.any fun y => y.1 == x) = !(l.all fun y => !(y.1 == x)) by induction l with
   | nil => rfl
   | cons a r ih => simp only [List.any_cons, List.all_cons, Bool.not_and, Bool.not_not]; rw [ih (by simp only [List.length_cons] at hl; omega)]]
  cases l.all fun y => !(y.1 == x) <;> rfl
def exitsN (k : Int) : Nat := if k = 8 ∨ k = 9 then 0 else if k = 4 ∨ k = 5 ∨ k = 6 then 2 else 1
def zoneOf (gate N : Nat) (i : Int) : Int := if i ≤ gate ∨ i + 2 = N then 0 else 1
def ExitG (N gate i : Nat) (kind : Int) (k : Nat) (e : Int) : Prop :=
 if kind = 5 ∧ k = 0 then e = i else (i : Int) < e ∧ e < N ∧ zoneOf gate N e = if kind = 6 ∧ k = 1 then 1 else zoneOf gate N i
structure NodeG (N gate i : Nat) (x : Nd) : Prop where
 name : x.1 = [UInt8.ofNat (65 + i)]
 kind1 : 1 ≤ x.2.1
 kind9 : x.2.1 ≤ 9
 entry : x.2.1 = 1 ↔ i = 0
 gate' : x.2.1 = 6 ↔ i = gate
 strip : i ≤ gate → x.2.1 ≤ 6
 len1 : x.2.1 ≤ 6 → 1 ≤ x.2.2.1 ∧ x.2.2.1 ≤ 4
 len5 : x.2.1 = 5 → 2 ≤ x.2.2.1
 len7 : 7 ≤ x.2.1 → x.2.2.1 = 0
 zone : x.2.2.2.1 = zoneOf gate N i
 zk0 : x.2.1 = 1 ∨ x.2.1 = 3 ∨ x.2.1 = 6 → zoneOf gate N i = 0
 zk1 : x.2.1 = 7 ∨ x.2.1 = 8 → zoneOf gate N i = 1
 cnt : x.2.2.2.2.1.length = exitsN x.2.1
 ex : ∀ (k : Nat) (h : k < x.2.2.2.2.1.length), ExitG N gate i x.2.1 k (x.2.2.2.2.1[k]).1
 nd : x.2.2.2.2.1.Nodup
theorem node_strip {N gate i : Nat} {zone : Int} {kinds to : IL} {x : Nd} (h : StripG i zone kinds to x) (nm : List UInt8) (hnm : nm = [UInt8.ofNat (65 + i)]) (hz : zone = zoneOf gate N i)
  (hto : ∀ e : Int, (e, ()) ∈ to → (i : Int) < e ∧ e < N ∧ zoneOf gate N e = zone)
  (hk : ∀ k : Int, (k, ()) ∈ kinds → 1 ≤ k ∧ k ≤ 7 ∧ k ≠ 6 ∧ (k = 1 ↔ i = 0) ∧ (i ≤ gate → k ≤ 6) ∧ (k = 3 → zone = 0) ∧ (k = 7 → zone = 1))
  (h4 : (4, ()) ∈ kinds → i ≠ 0) (hig : i ≠ gate) (hz0 : i = 0 → zone = 0) (len : Int) (hlen : len = if x.2.1 = 7 then 0 else x.2.2.1) :
  NodeG N gate i (nm, x.2.1, len, x.2.2.2.1, x.2.2.2.2.1, ()) := by
 obtain ⟨a1, a2, f, hf, hc⟩ := h
 have hfi := hto f hf
 have two : ∀ {k : Int} {g : Int}, k ≠ 5 → k ≠ 6 → (g, ()) ∈ to → ∀ (q : Nat) (hq : q < [(f, ()), (g, ())].length), ExitG N gate i k q ([(f, ()), (g, ())][q]).1 := fun {k g} k5 k6 hg q hq => by
  have hgi := hto g hg
  unfold ExitG
  rw [if_neg (by omega), if_neg (by omega)]
  match q, hq with
  | 0, _ => exact ⟨hfi.1, hfi.2.1, hfi.2.2.trans hz⟩
  | 1, _ => exact ⟨hgi.1, hgi.2.1, hgi.2.2.trans hz⟩
 have one : ∀ {k : Int}, k ≠ 5 → k ≠ 6 → ∀ (q : Nat) (hq : q < [(f, ())].length), ExitG N gate i k q ([(f, ())][q]).1 := fun {k} k5 k6 q hq => by
  unfold ExitG
  rw [if_neg (by omega), if_neg (by omega)]
  match q, hq with
  | 0, _ => exact ⟨hfi.1, hfi.2.1, hfi.2.2.trans hz⟩
 rcases hc with ⟨c1, c2, c3, c4, c5⟩ | ⟨c1, c2, c3, c4, g, hg, hgf, c5⟩ | ⟨c1, c2, c3, c4, c5⟩ | ⟨c2, k5, k4, c3, c4, c5⟩
 ·have hk' := hk 5 c2
  rw [c1, if_neg (by decide)] at hlen
  refine ⟨hnm, by simp only; omega, by simp only; omega, by simp only [c1]; exact hk'.2.2.2.1, by simp only [c1]; omega, fun _ => by simp only; omega, fun _ => by simp only; omega, fun _ => by simp only; omega, fun h => by simp only at h; omega, by simp only; rw [a2, hz],
   fun h => by simp only at h; omega, fun h => by simp only at h; omega, by simp only [c1, c5]; rfl, fun q hq => ?_, ?_⟩
  ·simp only [c5, c1] at hq ⊢
   unfold ExitG
   match q, hq with
   | 0, _ => rw [if_pos (by decide)]; rfl
   | 1, _ => rw [if_neg (by decide), if_neg (by decide)]; exact ⟨hfi.1, hfi.2.1, hfi.2.2.trans hz⟩
  ·simp only [c5]
   have : (i : Int) ≠ f := by omega
   simp [this]
 ·have hi0 := h4 c2
  rw [c1, if_neg (by decide)] at hlen
  refine ⟨hnm, by simp only; omega, by simp only; omega, by simp only [c1]; omega, by simp only [c1]; omega, fun _ => by simp only; omega, fun _ => by simp only; omega, fun h => by simp only at h; omega, fun h => by simp only at h; omega, by simp only; rw [a2, hz],
   fun h => by simp only at h; omega, fun h => by simp only at h; omega, by simp only [c1, c5]; rfl, fun q hq => ?_, ?_⟩
  ·simp only [c5, c1] at hq ⊢
   exact two (by decide) (by decide) hg q hq
  ·simp only [c5]
   simp [Ne.symm hgf]
 ·have hi0 := h4 c2
  rw [c1, if_neg (by decide)] at hlen
  refine ⟨hnm, by simp only; omega, by simp only; omega, by simp only [c1]; omega, by simp only [c1]; omega, fun _ => by simp only; omega, fun _ => by simp only; omega, fun h => by simp only at h; omega, fun h => by simp only at h; omega, by simp only; rw [a2, hz],
   fun h => by simp only at h; omega, fun h => by simp only at h; omega, by simp only [c1, c5]; rfl, fun q hq => ?_, ?_⟩
  ·simp only [c5, c1] at hq ⊢
   exact one (by decide) (by decide) q hq
  ·simp only [c5]; simp
 ·obtain ⟨b1, b2, b3, b4, b5, b6, b7⟩ := hk _ c2
  refine ⟨hnm, b1, by simp only; omega, b4, ⟨fun h => absurd h b3, fun h => absurd h hig⟩, b5, fun h => ?_, fun h => absurd h k5, fun h => ?_, by simp only; rw [a2, hz],
   fun h => ?_, fun h => ?_, ?_, fun q hq => ?_, ?_⟩
  ·simp only at h; rw [if_neg (by omega)] at hlen; simp only; omega
  ·simp only at h; rw [if_pos (by omega)] at hlen; exact hlen
  ·simp only at h
   rcases h with h | h | h
   ·rw [← hz]; exact hz0 (b4.1 h)
   ·rw [← hz]; exact b6 h
   ·exact absurd h b3
  ·simp only at h
   rw [← hz]
   rcases h with h | h
   ·exact b7 h
   ·omega
  ·simp only [c5]
   unfold exitsN
   rw [if_neg (by omega), if_neg (by omega)]; rfl
  ·simp only [c5] at hq ⊢
   exact one k5 b3 q hq
  ·simp only [c5]; simp
theorem node_gate {N gate : Nat} {e : Int} {ln : Int} (nm : List UInt8) (hnm : nm = [UInt8.ofNat (65 + gate)]) (hg : 1 ≤ gate) (hN : gate + 4 ≤ N) (l1 : 1 ≤ ln) (l2 : ln ≤ 3) (he : (gate : Int) < e ∧ e < N ∧ zoneOf gate N e = 1) :
  NodeG N gate gate (nm, 6, ln, 0, [((N : Int) - 2, ()), (e, ())], ()) := by
 have hz : zoneOf gate N (gate : Int) = 0 := by unfold zoneOf; rw [if_pos (by omega)]
 refine ⟨hnm, show (1 : Int) ≤ 6 by decide, show (6 : Int) ≤ 9 by decide, by simp only; omega, by simp, fun _ => show (6 : Int) ≤ 6 by decide, fun _ => by simp only; omega, fun h => by simp at h, fun h => by simp at h, by simp only; rw [hz], fun _ => hz, fun h => by simp at h, rfl, fun q hq => ?_, ?_⟩
 ·unfold ExitG
  match q, hq with
  | 0, _ =>
   rw [if_neg (show ¬ ((6 : Int) = 5 ∧ 0 = 0) by decide), if_neg (show ¬ ((6 : Int) = 6 ∧ 0 = 1) by decide)]
   refine ⟨by show (gate : Int) < (N : Int) - 2; omega, by show (N : Int) - 2 < N; omega, ?_⟩
   show zoneOf gate N ((N : Int) - 2) = _
   rw [hz]; unfold zoneOf; rw [if_pos (by omega)]
  | 1, _ =>
   rw [if_neg (show ¬ ((6 : Int) = 5 ∧ 1 = 0) by decide), if_pos (show (6 : Int) = 6 ∧ 1 = 1 by decide)]
   exact he
 ·have : (N : Int) - 2 ≠ e := by
   rintro rfl
   have := he.2.2
   unfold zoneOf at this
   rw [if_pos (by omega)] at this
   cases this
  simp [this]
theorem node_bin {N gate i : Nat} {k z : Int} (nm : List UInt8) (hnm : nm = [UInt8.ofNat (65 + i)]) (hk : k = 8 ∨ k = 9) (hi : gate < i) (hz : z = zoneOf gate N i) (h8 : k = 8 → zoneOf gate N i = 1) : NodeG N gate i (nm, k, 0, z, [], ()) := by
 refine ⟨hnm, by simp only; omega, by simp only; omega, by simp only; omega, by simp only; omega, fun h => by omega, fun h => by simp only at h; omega, fun h => by simp only at h; omega, fun _ => rfl, hz, fun h => by simp only at h; omega, fun h => by simp only at h; exact h8 (by omega), ?_, fun q hq => by simp at hq, by simp⟩
 simp only
 unfold exitsN
 rw [if_pos hk]; rfl
theorem node_turn {N gate i : Nat} {x : Nd} (h : NodeG N gate i x) (hN : gate + 4 ≤ N) (hi : i < gate) (k5 : x.2.1 ≠ 5) (hn : (x.2.2.2.2.1.any fun y => y.1 == ((i + 1 : Nat) : Int)) = false) :
  NodeG N gate i (x.1, x.2.1, x.2.2.1, x.2.2.2.1, (((i + 1 : Nat) : Int), ()) :: x.2.2.2.2.1.drop 1, ()) := by
 have k6 : x.2.1 ≠ 6 := fun e => by have := h.gate'.1 e; omega
 have kk := h.strip (by omega)
 have k1 := h.kind1
 have hc := h.cnt
 have hc1 : 1 ≤ x.2.2.2.2.1.length := by
  rw [hc]; unfold exitsN
  rw [if_neg (by omega)]
  split <;> decide
 have hz : zoneOf gate N ((i + 1 : Nat) : Int) = zoneOf gate N i := by
  unfold zoneOf; rw [if_pos (by omega), if_pos (by omega)]
 refine ⟨h.name, h.kind1, h.kind9, h.entry, h.gate', h.strip, h.len1, h.len5, h.len7, h.zone, h.zk0, h.zk1, ?_, fun q hq => ?_, ?_⟩
 ·simp only [List.length_cons, List.length_drop]; omega
 ·match q, hq with
  | 0, _ =>
   unfold ExitG
   rw [if_neg (fun e => k5 e.1), if_neg (fun e => k6 e.1)]
   exact ⟨by show (i : Int) < ((i + 1 : Nat) : Int); omega, by show ((i + 1 : Nat) : Int) < N; omega, hz⟩
  | q + 1, hq =>
   have hq' : q + 1 < x.2.2.2.2.1.length := by simp only [List.length_cons, List.length_drop] at hq; omega
   have e := h.ex (q + 1) hq'
   have e2 : ((((i + 1 : Nat) : Int), ()) :: x.2.2.2.2.1.drop 1)[q + 1] = x.2.2.2.2.1[q + 1] := by
    simp only [List.getElem_cons_succ, List.getElem_drop, Nat.add_comm]
   simp only [e2]
   exact e
 ·refine List.nodup_cons.2 ⟨fun hm => ?_, h.nd.sublist (List.drop_sublist 1 _)⟩
  have hm' := List.mem_of_mem_drop hm
  have := List.any_eq_false.1 hn _ hm'
  simp at this
structure LayG (N gate : Nat) (ns : List Nd) : Prop where
 len : ns.length = N
 g1 : 1 ≤ gate
 gN : gate + 4 ≤ N
 N11 : N ≤ 11
 node : ∀ (j : Nat) (h : j < ns.length), NodeG N gate j ns[j]
section
variable {N gate : Nat} (hg1 : 1 ≤ gate) (hgN : gate + 4 ≤ N) (hN : N ≤ 11)
abbrev PostT := Option (Lay × Sr × Unit) → Prop
theorem loop30 (j29) (Post : PostT) (b : Int) (i : Nat) (s : Sr) (A : List Nd) (B : List Dv) (ns : List Nd) (dv : List Dv) (hi : i < N)
  (hN : N ≤ 11) (hj : ∀ zero : IL, (∀ y ∈ zero, (i : Int) < y.1 ∧ y.1 ≤ gate) → zero.length ≤ 20 → Post (j29 (b, (N : Int), (gate : Int), (N : Int) - 2, (i : Int), s, (), (), zero, [], A, B, ns, dv, ()))) (hgN : gate + 4 ≤ N) :
  Post (iter 100000 (sh9_L30 j29) (b, (N : Int), (gate : Int), (N : Int) - 2, (i : Int), (i : Int) + 1, s, (), (), [], [], A, B, ns, dv, ())) := by
 refine iter_post (F := sh9_L30 j29) (fun q z => ∃ zero : IL, z = (b, (N : Int), (gate : Int), (N : Int) - 2, (i : Int), (i : Int) + 1 + q, s, (), (), zero, [], A, B, ns, dv, ()) ∧ (∀ y ∈ zero, (i : Int) < y.1 ∧ y.1 ≤ gate) ∧ zero.length ≤ q) Post (gate - i) 100000 (by omega)
  ⟨[], by simp, by simp, by simp⟩ (fun rc q z hq hz => ?_) (fun rc z hz => ?_)
 ·obtain ⟨zero, rfl, h1, h2⟩ := hz
  simp only [sh9_L30]
  rw [if_pos (decide_eq_true (by omega)), if_pos (dlim (by omega)), if_pos (dlim (by omega)), wrapI (by omega) (by omega)]
  refine ⟨_, rfl, zero ++ [((i : Int) + 1 + q, ())], by rw [show (i : Int) + 1 + (q : Int) + 1 = (i : Int) + 1 + ((q + 1 : Nat) : Int) by omega], fun y hy => ?_, by simp only [List.length_append, List.length_cons, List.length_nil]; omega⟩
  rcases List.mem_append.1 hy with hy | hy
  ·exact h1 y hy
  ·rw [List.mem_singleton.1 hy]; simp only; omega
 ·obtain ⟨zero, rfl, h1, h2⟩ := hz
  simp only [sh9_L30]
  rw [if_neg (by simp only [decide_eq_true_eq]; omega)]
  exact hj zero h1 (by omega)
theorem loop28 (j27) (Post : PostT) (b : Int) (i m0 : Nat) (hm0 : m0 = if gate > i then gate else i) (s : Sr) (zero : IL) (A : List Nd) (B : List Dv) (ns : List Nd) (dv : List Dv) (hi : i < N)
  (hN : N ≤ 11) (hj : ∀ one : IL, (∀ y ∈ one, (i : Int) < y.1 ∧ (gate : Int) < y.1 ∧ y.1 < (N : Int) - 2) → one.length ≤ 20 → Post (j27 (b, (N : Int), (gate : Int), (N : Int) - 2, (i : Int), s, (), (), zero, one, A, B, ns, dv, ()))) (hgN : gate + 4 ≤ N) :
  Post (iter 100000 (sh9_L28 j27) (b, (N : Int), (gate : Int), (N : Int) - 2, (i : Int), (m0 : Int) + 1, s, (), (), zero, [], A, B, ns, dv, ())) := by
 have hm : gate ≤ m0 ∧ i ≤ m0 := by subst hm0; split <;> omega
 refine iter_post (F := sh9_L28 j27) (fun q z => ∃ one : IL, z = (b, (N : Int), (gate : Int), (N : Int) - 2, (i : Int), (m0 : Int) + 1 + q, s, (), (), zero, one, A, B, ns, dv, ()) ∧ (∀ y ∈ one, (i : Int) < y.1 ∧ (gate : Int) < y.1 ∧ y.1 < (N : Int) - 2) ∧ one.length ≤ q) Post (N - 2 - (m0 + 1)) 100000 (by omega)
  ⟨[], by simp, by simp, by simp⟩ (fun rc q z hq hz => ?_) (fun rc z hz => ?_)
 ·obtain ⟨one, rfl, h1, h2⟩ := hz
  simp only [sh9_L28]
  rw [if_pos (decide_eq_true (by omega)), if_pos (dlim (by omega)), if_pos (dlim (by omega)), wrapI (by omega) (by omega)]
  refine ⟨_, rfl, one ++ [((m0 : Int) + 1 + q, ())], by rw [show (m0 : Int) + 1 + (q : Int) + 1 = (m0 : Int) + 1 + ((q + 1 : Nat) : Int) by omega], fun y hy => ?_, by simp only [List.length_append, List.length_cons, List.length_nil]; omega⟩
  rcases List.mem_append.1 hy with hy | hy
  ·exact h1 y hy
  ·rw [List.mem_singleton.1 hy]; simp only; omega
 ·obtain ⟨one, rfl, h1, h2⟩ := hz
  simp only [sh9_L28]
  rw [if_neg (by simp only [decide_eq_true_eq]; omega)]
  exact hj one h1 (by omega)
theorem nameB (i : Nat) (hi : i ≤ 20) : toBytes [(IntKind.u8.wrap (IntKind.i64.wrap (65 + (i : Int))), ())] = [UInt8.ofNat (65 + i)] := by
 rw [wrapI (by omega) (by omega)]
 have w8 : IntKind.u8.wrap (65 + (i : Int)) = 65 + i := by
  have : IntKind.u8.wrap (65 + (i : Int)) = (65 + (i : Int)) % 256 := by simp [IntKind.wrap, IntKind.bits, IntKind.signed]
  rw [this]; omega
 rw [w8]
 show [UInt8.ofNat (65 + (i : Int)).toNat] = _
 rw [show (65 + (i : Int)).toNat = 65 + i by omega]
theorem step9 (rc15) (b : Nat) (i : Nat) (s : Sr) (A : List Nd) (B : List Dv) (ns : List Nd) (dv : List Dv) (hi : i < N) (hs : SrOk s) (hg1 : 1 ≤ gate) (hgN : gate + 4 ≤ N) (hN : N ≤ 11) (hb : gate + 1 + b + 3 ≤ N)
  (hl : ns.length = i) (hn : ∀ (j : Nat) (h : j < ns.length), NodeG N gate j ns[j]) (Post : PostT)
  (hj : ∀ (s' : Sr) (x : Nd), SrOk s' → NodeG N gate i x → Post (rc15 ((b : Int), (N : Int), (gate : Int), (N : Int) - 2, ((i + 1 : Nat) : Int), s', (), (), A, B, ns ++ [x], dv, ()))) :
  Post (sh9_L15 100000 (sh9_K3 100000) rc15 ((b : Int), (N : Int), (gate : Int), (N : Int) - 2, (i : Int), s, (), (), A, B, ns, dv, ())) := by
 simp only [sh9_L15, joinK]
 rw [if_pos (decide_eq_true (by omega)), wrapI (x := (i : Int) + 1) (by omega) (by omega)]
 refine loop30 _ Post b i s A B ns dv hi hN (fun zero hz hzl => ?_) hgN
 simp only [sh9_K18, joinK]
 rw [if_pos (dlim (by omega)), if_pos (dlim (by omega))]
 have hm : (if (gate : Int) > (i : Int) then (gate : Int) else (i : Int)) = ((if gate > i then gate else i : Nat) : Int) := by split <;> split <;> omega
 rw [hm, wrapI (by split <;> omega) (by split <;> omega)]
 refine loop28 _ Post b i _ rfl s _ A B ns dv hi hN (fun one ho hol => ?_) hgN
 simp only [sh9_K19, joinK]
 rw [if_pos (dlim (by omega)), if_pos (dlim (by omega)), wrapI (x := (N : Int) - 1) (by omega) (by omega)]
 have add : ∀ (s' : Sr) (x : Nd), SrOk s' → NodeG N gate i ([UInt8.ofNat (65 + i)], x.2) → Post (sh9_K20 (sh9_K16 rc15) ((b : Int), (N : Int), (gate : Int), (N : Int) - 2, (i : Int), s', (), (), x, A, B, ns, dv, ())) := by
  intro s' x hs' hx
  simp only [sh9_K20, sh9_K16]
  rw [if_pos (dlim (by simp only [List.length_cons, List.length_nil]; omega)), if_pos (dlim (by simp only [List.length_cons, List.length_nil]; omega)), wrapI (x := (i : Int) + 1) (by omega) (by omega), nameB i (by omega)]
  exact hj s' _ hs' hx
 have zi0 : i ≤ gate → zoneOf gate N i = 0 := fun h => by unfold zoneOf; rw [if_pos (by omega)]
 have hzero : ∀ e : Int, (e, ()) ∈ zero ++ [((N : Int) - 2, ())] → i < gate → (i : Int) < e ∧ e < N ∧ zoneOf gate N e = 0 := fun e he h => by
  rcases List.mem_append.1 he with he | he
  ·have := hz _ he
   simp only at this
   exact ⟨this.1, by omega, by unfold zoneOf; rw [if_pos (by omega)]⟩
  ·have he := List.mem_singleton.1 he
   simp only [Prod.mk.injEq, and_true] at he
   subst he
   exact ⟨by omega, by omega, by unfold zoneOf; rw [if_pos (by omega)]⟩
 have hone : ∀ e : Int, (e, ()) ∈ one ++ [((N : Int) - 1, ())] → i + 3 ≤ N → (i : Int) < e ∧ e < N ∧ zoneOf gate N e = 1 := fun e he h => by
  rcases List.mem_append.1 he with he | he
  ·have := ho _ he
   simp only at this
   exact ⟨this.1, by omega, by unfold zoneOf; rw [if_neg (by omega)]⟩
  ·have he := List.mem_singleton.1 he
   simp only [Prod.mk.injEq, and_true] at he
   subst he
   exact ⟨by omega, by omega, by unfold zoneOf; rw [if_neg (by omega)]⟩
 have pz : ∀ y ∈ zero ++ [((N : Int) - 2, ())], 0 ≤ y.1 := fun y hy => by
  rcases List.mem_append.1 hy with hy | hy
  ·have := hz _ hy; omega
  ·rw [List.mem_singleton.1 hy]; simp only; omega
 have po : ∀ y ∈ one ++ [((N : Int) - 1, ())], 0 ≤ y.1 := fun y hy => by
  rcases List.mem_append.1 hy with hy | hy
  ·have := ho _ hy; omega
  ·rw [List.mem_singleton.1 hy]; simp only; omega
 have lz : ∀ e : Int, (zero ++ [(e, ())]).length = zero.length + 1 := fun e => by simp
 have lo : ∀ e : Int, (one ++ [(e, ())]).length = one.length + 1 := fun e => by simp
 by_cases h0 : i = 0
 ·subst h0
  obtain ⟨x, s', hx, hs', gx⟩ := e23 hs (((0 : Nat) : Int)) 0 [(1, ())] (zero ++ [((N : Int) - 2, ())]) (by simp) (by simp) (by rw [lz]; omega) (by rw [lz]; omega) pz
  rw [if_pos (by simp), hx, Option.bind_some]
  refine add s' x hs' ?_
  have hk7 : x.2.1 ≠ 7 := by
   obtain ⟨_, _, f, _, hc⟩ := gx
   rcases hc with ⟨c, _⟩ | ⟨c, _⟩ | ⟨c, _⟩ | ⟨c, _⟩
   ·omega
   ·omega
   ·omega
   ·simp at c; omega
  have := node_strip (N := N) (gate := gate) gx [UInt8.ofNat (65 + 0)] rfl (zi0 (by omega)).symm (fun e he => hzero e he (by omega)) (fun k hk => by
   simp only [List.mem_singleton, Prod.mk.injEq, and_true] at hk
   subst hk
   exact ⟨by decide, by decide, by decide, by simp, fun _ => by decide, fun _ => rfl, fun h => by cases h⟩) (fun h => by simp at h) (by omega) (fun _ => rfl) x.2.2.1 (by rw [if_neg hk7])
  exact this
 rw [if_neg (by simpa using h0)]
 by_cases h1 : i < gate
 ·obtain ⟨x, s', hx, hs', gx⟩ := e23 hs (i : Int) 0 [(2, ()), (3, ()), (4, ()), (5, ()), (3, ())] (zero ++ [((N : Int) - 2, ())]) (by simp) (by simp) (by rw [lz]; omega) (by rw [lz]; omega) pz
  rw [if_pos (decide_eq_true (by omega)), hx, Option.bind_some]
  refine add s' x hs' ?_
  have hk : ∀ k : Int, (k, ()) ∈ [((2 : Int), ()), (3, ()), (4, ()), (5, ()), (3, ())] → 2 ≤ k ∧ k ≤ 5 := fun k hk => by
   simp only [List.mem_cons, Prod.mk.injEq, and_true, List.not_mem_nil, or_false] at hk
   omega
  have hk7 : x.2.1 ≠ 7 := by
   obtain ⟨_, _, f, _, hc⟩ := gx
   rcases hc with ⟨c, _⟩ | ⟨c, _⟩ | ⟨c, _⟩ | ⟨c, _⟩
   ·omega
   ·omega
   ·omega
   ·have := hk _ c; omega
  have := node_strip (N := N) (gate := gate) gx [UInt8.ofNat (65 + i)] rfl (zi0 (by omega)).symm (fun e he => hzero e he (by omega)) (fun k hk' => by
   have := hk k hk'
   exact ⟨by omega, by omega, by omega, by omega, fun _ => by omega, fun _ => rfl, fun h => by omega⟩) (fun _ => h0) (by omega) (fun h => absurd h h0) x.2.2.1 (by rw [if_neg hk7])
  exact this
 rw [if_neg (by simp only [decide_eq_true_eq]; omega)]
 by_cases h2 : i = gate
 ·obtain ⟨ln, s2, hl2, l1, l2, k2⟩ := e13 hs 1 3 (by decide) (by decide) (by decide)
  obtain ⟨v, s3, hv, v1, v2, k3⟩ := e18 k2 (((one ++ [((N : Int) - 1, ())]).length : Nat) : Int) (by rw [lo]; omega) (by rw [lo]; omega)
  rw [if_pos (by simp only [beq_iff_eq]; omega), hl2, Option.bind_some]
  simp only
  rw [hv, Option.bind_some]
  simp only
  rw [if_pos (inR_int v1 v2), if_pos (decide_eq_true (by omega))]
  have hm : lAt (0, ()) (one ++ [((N : Int) - 1, ())]) v ∈ one ++ [((N : Int) - 1, ())] := lAt_mem _ _ _ v1 v2
  have hm2 : ((lAt (0, ()) (one ++ [((N : Int) - 1, ())]) v).1, ()) ∈ one ++ [((N : Int) - 1, ())] := hm
  refine add s3 _ k3 ?_
  have he := hone _ hm2 (by omega)
  have := node_gate (N := N) (gate := gate) (ln := ln) [UInt8.ofNat (65 + i)] (by rw [h2]) hg1 hgN l1 l2 (by rw [h2] at he; exact he)
  exact (fun j (hj : j = gate) => by subst hj; exact this : ∀ j, j = gate → NodeG N gate j ([UInt8.ofNat (65 + i)], 6, ln, 0, [((N : Int) - 2, ()), ((lAt (0, ()) (one ++ [((N : Int) - 1, ())]) v).1, ())], ())) i h2
 rw [if_neg (by simp only [beq_iff_eq]; omega)]
 rw [show IntKind.i64.wrap (IntKind.i64.wrap ((gate : Int) + 1) + (b : Int)) = ((gate + 1 + b : Nat) : Int) by rw [wrapI (x := (gate : Int) + 1) (by omega) (by omega), wrapI (by omega) (by omega)]; omega]
 have zi1 : i + 3 ≤ N → zoneOf gate N i = 1 := fun h => by unfold zoneOf; rw [if_neg (by omega)]
 by_cases h3 : i < gate + 1 + b
 ·obtain ⟨x, s', hx, hs', gx⟩ := e23 hs (i : Int) 1 [(2, ()), (4, ()), (5, ()), (7, ())] (one ++ [((N : Int) - 1, ())]) (by simp) (by simp) (by rw [lo]; omega) (by rw [lo]; omega) po
  rw [if_pos (decide_eq_true (by omega)), hx, Option.bind_some]
  have hk : ∀ k : Int, (k, ()) ∈ [((2 : Int), ()), (4, ()), (5, ()), (7, ())] → k = 2 ∨ k = 4 ∨ k = 5 ∨ k = 7 := fun k hk => by
   simp only [List.mem_cons, Prod.mk.injEq, and_true, List.not_mem_nil, or_false] at hk
   exact hk
  have fin := fun (len : Int) (hlen : len = if x.2.1 = 7 then 0 else x.2.2.1) => node_strip (N := N) (gate := gate) gx [UInt8.ofNat (65 + i)] rfl (zi1 (by omega)).symm (fun e he => hone e he (by omega)) (fun k hk' => by
   have := hk k hk'
   exact ⟨by omega, by omega, by omega, by omega, fun _ => by omega, fun _ => by omega, fun _ => rfl⟩) (fun _ => h0) h2 (fun h => absurd h h0) len hlen
  simp only
  by_cases h7 : x.2.1 = 7
  ·rw [if_pos (by simpa using h7)]
   exact add s' _ hs' (fin 0 (by rw [if_pos h7]))
  ·rw [if_neg (by simpa using h7)]
   exact add s' x hs' (fin x.2.2.1 (by rw [if_neg h7]))
 rw [if_neg (by simp only [decide_eq_true_eq]; omega)]
 by_cases h4 : i + 2 < N
 ·rw [if_pos (decide_eq_true (by omega))]
  exact add s _ hs (node_bin _ rfl (.inl rfl) (by omega) (zi1 (by omega)).symm (fun _ => zi1 (by omega)))
 ·rw [if_neg (by simp only [decide_eq_true_eq]; omega), wrapI (by omega) (by omega)]
  refine add s _ hs (node_bin _ rfl (.inr rfl) (by omega) ?_ (fun h => absurd h (by decide)))
  unfold zoneOf
  split <;> omega
end
theorem node_len {N gate i : Nat} {x : Nd} (h : NodeG N gate i x) : 0 ≤ x.2.2.1 ∧ x.2.2.1 ≤ 4 := by
 by_cases h6 : 6 < x.2.1
 ·rw [h.len7 (by omega)]; omega
 ·have := h.len1 (by omega); omega
theorem lay_len {N gate : Nat} {ns : List Nd} (h : LayG N gate ns) : ∀ x ∈ ns, 0 ≤ x.2.2.1 ∧ x.2.2.1 ≤ 4 := fun x hx => by
 obtain ⟨j, hj, rfl⟩ := List.getElem_of_mem hx
 exact node_len (h.node j hj)
theorem loop9 {N gate : Nat} (j6) (Post : PostT) (s : Sr) (A : List Nd) (B dv : List Dv) (ns : List Nd) (h : LayG N gate ns)
  (hj : ∀ ns', LayG N gate ns' → Post (j6 (s, (), (), A, B, ns', dv, ()))) : Post (iter 100000 (sh9_L8 j6) ((gate : Int), 0, s, (), (), A, B, ns, dv, ())) := by
 have h11 := h.N11
 have hgN := h.gN
 refine iter_post (F := sh9_L8 j6) (fun q z => ∃ ns', z = ((gate : Int), (q : Int), s, (), (), A, B, ns', dv, ()) ∧ LayG N gate ns') Post gate 100000 (by omega) ⟨ns, rfl, h⟩ (fun rc q z hq hz => ?_) (fun rc z hz => ?_)
 ·obtain ⟨us, rfl, hu⟩ := hz
  have hul := hu.len
  have hqu : q < us.length := by omega
  have nq := hu.node q hqu
  have hg : us.getD q ([], 0, 0, 0, [], ()) = us[q] := by rw [List.getD, List.getElem?_eq_getElem hqu]; rfl
  have hct : us[q].2.2.2.2.1.length ≤ 2 := by rw [nq.cnt]; unfold exitsN; split; exact Nat.zero_le _; split <;> decide
  have up : IntKind.i64.wrap ((q : Int) + 1) = ((q + 1 : Nat) : Int) := wrapI (by omega) (by omega)
  simp only [sh9_L8, joinK]
  rw [if_pos (by simpa using hq), if_pos (inR_nat hqu), if_pos (decide_eq_true (by simp only [Int.toNat_natCast]; omega))]
  simp only [Int.toNat_natCast, hg]
  by_cases h5 : us[q].2.1 = 5
  ·rw [if_neg (by simpa using h5)]
   simp only [sh9_K11, sh9_K9, up]
   rw [if_neg (by decide)]
   exact ⟨_, rfl, us, rfl, hu⟩
  ·rw [if_pos (by simpa using h5), if_pos (inR_nat hqu), if_pos (decide_eq_true (by omega)), up, e24 _ _ (by omega), Option.bind_some]
   simp only [sh9_K11, sh9_K9, up]
   cases hany : us[q].2.2.2.2.1.any fun y => y.1 == ((q + 1 : Nat) : Int) with
   | true =>
    rw [if_neg (by decide)]
    exact ⟨_, rfl, us, rfl, hu⟩
   | false =>
    have hc1 : 1 ≤ us[q].2.2.2.2.1.length := by
     rw [nq.cnt]; unfold exitsN
     have := nq.strip (by omega)
     rw [if_neg (by omega)]; split <;> decide
    have hcut : cutL us[q].2.2.2.2.1 1 ((us[q].2.2.2.2.1.length : Nat) : Int) = us[q].2.2.2.2.1.drop 1 := by
     show (us[q].2.2.2.2.1.drop 1).take _ = _
     rw [List.take_of_length_le]
     simp only [List.length_drop]
     omega
    simp only [Int.toNat_natCast, hg, hcut]
    rw [if_pos (by decide), if_pos (inR_nat hqu), if_pos (decide_eq_true (by omega)), if_pos (by have := inCut_nat (a := 1) hc1 (Nat.le_refl us[q].2.2.2.2.1.length); exact this), if_pos (dlim (by simp only [List.length_cons, List.length_nil, List.length_drop]; omega)), if_pos (dlim (by simp only [List.length_cons, List.length_nil, List.length_drop]; omega)), if_pos (inR_nat hqu), if_pos (decide_eq_true (by omega))]
    refine ⟨_, rfl, _, rfl, ?_⟩
    refine ⟨by rw [List.length_set]; exact hul, hu.g1, hu.gN, hu.N11, fun j hj => ?_⟩
    rw [List.getElem_set]
    split
    ·rename_i e
     subst e
     exact node_turn nq hu.gN hq h5 hany
    ·exact hu.node j (by rw [List.length_set] at hj; exact hj)
 ·obtain ⟨us, rfl, hu⟩ := hz
  simp only [sh9_L8]
  rw [if_neg (by simp)]
  exact hj us hu
theorem e9 {s : Sr} (hs : SrOk s) : ∃ N gate ns ds s', sp9 (s, ()) = some ((ns, ds, ()), s', ()) ∧ SrOk s' ∧ LayG N gate ns ∧ DevG ns ds := by
 obtain ⟨a', s1, ha, a1, a2, k1⟩ := e13 hs 1 3 (by decide) (by decide) (by decide)
 obtain ⟨b', s2, hb, b1, b2, k2⟩ := e13 k1 0 3 (by decide) (by decide) (by decide)
 obtain ⟨c', s3, hc, c1, c2, k3⟩ := e13 k2 1 2 (by decide) (by decide) (by decide)
 obtain ⟨a, rfl⟩ : ∃ n : Nat, a' = n := ⟨a'.toNat, by omega⟩
 obtain ⟨b, rfl⟩ : ∃ n : Nat, b' = n := ⟨b'.toNat, by omega⟩
 obtain ⟨c, rfl⟩ : ∃ n : Nat, c' = n := ⟨c'.toNat, by omega⟩
 have e0 : sp9 (s, ()) = sh9 100000 s := rfl
 rw [e0]
 unfold sh9
 rw [ha, Option.bind_some]
 simp only
 rw [hb, Option.bind_some]
 simp only
 rw [hc, Option.bind_some]
 simp only [joinK]
 obtain ⟨N, hN⟩ : ∃ N : Nat, N = a + 1 + b + c + 2 := ⟨_, rfl⟩
 have w : IntKind.i64.wrap (IntKind.i64.wrap (IntKind.i64.wrap (IntKind.i64.wrap ((a : Int) + 1) + (b : Int)) + (c : Int)) + 2) = (N : Int) := by
  rw [wrapI (x := (a : Int) + 1) (by omega) (by omega), wrapI (x := (a : Int) + 1 + b) (by omega) (by omega), wrapI (x := (a : Int) + 1 + b + c) (by omega) (by omega), wrapI (by omega) (by omega)]; omega
 rw [w, wrapI (x := (N : Int) - 2) (by omega) (by omega)]
 refine iter_post (F := sh9_L15 100000 (sh9_K3 100000)) (fun q z => ∃ (s' : Sr) (ns : List Nd), z = ((b : Int), (N : Int), (a : Int), (N : Int) - 2, (q : Int), s', (), (), [], [], ns, [], ()) ∧ SrOk s' ∧ ns.length = q ∧ ∀ (j : Nat) (h : j < ns.length), NodeG N a j ns[j])
  (fun o => ∃ N gate ns ds s', o = some ((ns, ds, ()), s', ()) ∧ SrOk s' ∧ LayG N gate ns ∧ DevG ns ds) N 100000 (by omega) ⟨s3, [], rfl, k3, rfl, fun j h => absurd h (Nat.not_lt_zero _)⟩ (fun rc q z hq hz => ?_) (fun rc z hz => ?_)
 ·obtain ⟨s4, ns, rfl, k4, l4, n4⟩ := hz
  refine step9 (N := N) (gate := a) rc b q s4 [] [] ns [] hq k4 (by omega) (by omega) (by omega) (by omega) l4 n4 (fun o => ∃ z', o = rc z' ∧ ∃ (s' : Sr) (ns : List Nd), z' = ((b : Int), (N : Int), (a : Int), (N : Int) - 2, ((q + 1 : Nat) : Int), s', (), (), [], [], ns, [], ()) ∧ SrOk s' ∧ ns.length = q + 1 ∧ ∀ (j : Nat) (h : j < ns.length), NodeG N a j ns[j]) fun s5 x k5 gx => ?_
  refine ⟨_, rfl, s5, ns ++ [x], rfl, k5, by simp [l4], fun j hj => ?_⟩
  simp only [List.length_append, List.length_cons, List.length_nil] at hj
  by_cases hjn : j < ns.length
  ·rw [List.getElem_append_left hjn]; exact n4 j hjn
  ·have : j = q := by omega
   subst this
   rw [List.getElem_append_right (by omega)]
   simp only [l4, Nat.sub_self, List.getElem_cons_zero]
   exact gx
 ·obtain ⟨s4, ns, rfl, k4, l4, n4⟩ := hz
  have hL : LayG N a ns := ⟨l4, by omega, by omega, by omega, n4⟩
  simp only [sh9_L15]
  rw [if_neg (by simp)]
  have fin : ∀ (s5 : Sr) (us : List Nd), SrOk s5 → LayG N a us → ∃ N gate ns ds s', sh9_K4 (s5, (), (), [], [], us, [], ()) = some ((ns, ds, ()), s', ()) ∧ SrOk s' ∧ LayG N gate ns ∧ DevG ns ds := by
   intro s5 us k5 hu
   obtain ⟨ds, s6, hd, k6, dd⟩ := e25 k5 us [] (by have := hu.len; have := hu.N11; omega) (fun x hx => by have := lay_len hu x hx; omega)
   simp only [sh9_K4]
   rw [hd, Option.bind_some]
   exact ⟨N, a, us, ds, s6, rfl, k6, hu, dd⟩
  simp only [sh9_K3, joinK]
  obtain ⟨v, s5, hv, v1, v2, k5⟩ := e18 k4 4 (by decide) (by decide)
  rw [hv, Option.bind_some]
  simp only
  by_cases h0 : 0 < v
  ·rw [if_pos (decide_eq_true h0)]
   exact loop9 sh9_K4 (fun o => ∃ N gate ns ds s', o = some ((ns, ds, ()), s', ()) ∧ SrOk s' ∧ LayG N gate ns ∧ DevG ns ds) s5 [] [] [] ns hL fun us hu => fin s5 us k5 hu
  ·rw [if_neg (by simpa using h0)]
   exact fin s5 ns k5 hL
theorem e86 (c : Int) : sp86 (c, ()) = some (decide (65 ≤ c) && decide (c ≤ 90), ()) := by
 show sh86 0 c = _
 unfold sh86; simp only [joinK, sh86_K0]; split <;> (try simp_all) <;> omega
theorem e80 (i : Nat) (hi : i ≤ 20) : sp80 ([UInt8.ofNat (65 + i)], 12, ()) = some (true, ()) := by
 have hc : (UInt8.ofNat (65 + i)).toNat = 65 + i := by rw [UInt8.toNat_ofNat']; omega
 have hs : sAt [UInt8.ofNat (65 + i)] 0 = ((65 + i : Nat) : Int) := by show (((UInt8.ofNat (65 + i)).toNat : Nat) : Int) = _; rw [hc]
 have h86 : sp86 (((65 + i : Nat) : Int), ()) = some (true, ()) := by
  rw [e86, decide_eq_true (by omega), decide_eq_true (by omega)]; rfl
 show sh80 100000 [UInt8.ofNat (65 + i)] 12 = _
 unfold sh80
 simp only [joinK]
 rw [if_pos (by simp), if_pos (by simp), if_pos (by simp [inR]), hs, h86, Option.bind_some]
 simp only
 rw [if_pos trivial, show (100000 : Nat) = 99998 + 1 + 1 from rfl, iter_succ]
 simp only [sh80_L5, joinK]
 rw [if_pos (by simp), if_pos (by simp [inR]), hs, h86, Option.bind_some]
 simp only
 rw [if_pos trivial]
 simp only [sh80_K6]
 rw [if_neg (by decide), iter_succ]
 simp only [sh80_L5]
 rw [if_neg (by rw [wrapI (by decide) (by decide)]; simp)]
 rfl
theorem e90 (k : Int) : sp90 (k, ()) = some (decide (1 ≤ k) && decide (k ≤ 6), ()) := by
 show sh90 0 k = _
 unfold sh90; simp only [joinK, sh90_K0]; split <;> (try simp_all) <;> omega
theorem e81 {N gate i : Nat} {x : Nd} (h : NodeG N gate i x) : sp81 (x, ()) = some (true, ()) := by
 have h1 := h.kind1
 show sh81 0 x = _
 unfold sh81
 rw [e90, Option.bind_some, decide_eq_true h1, Bool.true_and]
 by_cases h6 : x.2.1 ≤ 6
 ·have h7 := h.len1 h6
  rw [decide_eq_true h6, if_neg (by decide)]
  simp only [joinK, sh81_K1, sh81_K3]
  by_cases h5 : x.2.1 = 5
  ·have := h.len5 h5
   rw [if_pos (by simpa using h5), if_pos (by simpa using this), decide_eq_true (by omega)]
  ·rw [if_neg (by simpa using h5), if_pos (decide_eq_true (by omega)), decide_eq_true (by omega)]
 ·rw [decide_eq_false h6, if_pos (by decide), h.len7 (by omega)]; rfl
theorem e91 (k : Int) : sp91 (k, ()) = some ((exitsN k : Int), ()) := by
 show sh91 0 k = _
 unfold sh91 exitsN
 simp only [joinK, sh91_K0, sh91_K1]
 by_cases h8 : k = 8
 ·subst h8; rfl
 by_cases h9 : k = 9
 ·subst h9; rfl
 rw [if_neg (by simpa using h8), show (k == 9) = false by simpa using h9, if_neg (by decide), if_neg (show ¬ (k = 8 ∨ k = 9) by omega)]
 by_cases h4 : k = 4
 ·subst h4; rfl
 by_cases h5 : k = 5
 ·subst h5; rfl
 by_cases h6 : k = 6
 ·subst h6; rfl
 rw [if_neg (by simpa using h4), if_neg (by simpa using h5), show (k == 6) = false by simpa using h6, if_neg (by decide), if_neg (show ¬ (k = 4 ∨ k = 5 ∨ k = 6) by omega)]
 rfl
theorem e92 (l : IL) (x : Int) (hl : l.length ≤ 90000) (h : ∀ y ∈ l, y.1 ≠ x) : sp92 (l, x, ()) = some (false, ()) := by
 have : sp95 (l, x, ()) = some (-1, ()) := by
  show sh95 100000 l x = _
  unfold sh95
  simp only [joinK]
  refine iter_count (F := sh95_L2 sh95_K0) (fun k : Nat => (l, x, (l.length : Int), (k : Int), ())) l.length 100000 (by omega) (fun rc k hk => ?_) (fun rc => ?_)
  ·simp only [sh95_L2]
   have := h l[k] (List.getElem_mem hk)
   rw [if_pos (by simpa using hk), if_pos (inR_nat hk), lAt_nat _ _ _ hk, if_neg (by simpa using fun e => this e.symm), up1' hk]
  ·simp only [sh95_L2]
   rw [if_neg (by simp)]; rfl
 show sh92 0 l x = _
 unfold sh92
 rw [this]; rfl
theorem lat_node {N gate : Nat} {ns : List Nd} (h : LayG N gate ns) {i : Nat} (hi : i < N) : lAt ([], 0, 0, 0, [], ()) ns (i : Int) = ns[i]'(by rw [h.len]; exact hi) := lAt_nat _ _ _ (by rw [h.len]; exact hi)
theorem e82 {N gate : Nat} {ns : List Nd} {ds : List Dv} (h : LayG N gate ns) {i : Nat} (hi : i < N) : sp82 ((ns, ds, ()), (i : Int), ()) = some (true, ()) := by
 have hl := h.len
 have hil : i < ns.length := by omega
 have hn := h.node i hil
 have h11 := h.N11
 generalize hx : ns[i] = x at hn
 have hlat : lAt ([], 0, 0, 0, [], ()) ns (i : Int) = x := by rw [lat_node h hi, hx]
 have hct : x.2.2.2.2.1.length ≤ 2 := by rw [hn.cnt]; unfold exitsN; split; exact Nat.zero_le _; split <;> decide
 show sh82 100000 (ns, ds, ()) (i : Int) = _
 unfold sh82
 simp only
 rw [if_pos (inR_nat hil), hlat, e91, Option.bind_some]
 simp only
 rw [if_neg (by simp [hn.cnt])]
 simp only [joinK]
 refine iter_count (F := sh82_L3 sh82_K1) (fun k : Nat => ((i : Int), x.2.2.2.2.1, (x.2.2.2.2.1.length : Int), (k : Int), (ns, ds, ()), x, ())) x.2.2.2.2.1.length 100000 (by omega) (fun rc k hk => ?_) (fun rc => ?_)
 ·have he := hn.ex k hk
  have own : ∀ b : Bool, b = (decide (x.2.1 = 5) && decide (k = 0)) → sh82_K4 rc ((i : Int), (k : Int), (x.2.2.2.2.1[k]).1, b, x.2.2.2.2.1, (x.2.2.2.2.1.length : Int), (k : Int), (ns, ds, ()), x, ()) = rc ((i : Int), x.2.2.2.2.1, (x.2.2.2.2.1.length : Int), ((k + 1 : Nat) : Int), (ns, ds, ()), x, ()) := by
   intro b hb
   have fact : 0 ≤ (x.2.2.2.2.1[k]).1 ∧ (x.2.2.2.2.1[k]).1 < N ∧ ((x.2.2.2.2.1[k]).1 == (i : Int)) = b := by
    unfold ExitG at he
    by_cases hc : x.2.1 = 5 ∧ k = 0
    ·rw [if_pos hc] at he
     refine ⟨by omega, by omega, ?_⟩
     rw [hb, he, decide_eq_true hc.1, decide_eq_true hc.2]; simp
    ·rw [if_neg hc] at he
     refine ⟨by omega, he.2.1, ?_⟩
     have hb' : b = false := by rw [hb]; simp only [Bool.and_eq_false_iff, decide_eq_false_iff_not]; omega
     rw [hb']; simp; omega
   obtain ⟨f1, f2, f3⟩ := fact
   have f4 : (x.2.2.2.2.1.take k).any (fun y => y.1 == (x.2.2.2.2.1[k]).1) = false := List.any_eq_false.2 fun y hy => by
    obtain ⟨j, hj, rfl⟩ := List.getElem_of_mem hy
    rw [List.length_take] at hj
    have := (List.pairwise_iff_getElem.1 hn.nd) j k (by omega) hk (by omega)
    simp only [List.getElem_take, beq_iff_eq]
    exact fun e => this (Prod.ext e rfl)
   have hcut : cutL x.2.2.2.2.1 0 (k : Int) = x.2.2.2.2.1.take k := by simp [cutL]
   have hc0 : inCut 0 (k : Int) x.2.2.2.2.1.length = true := inCut_nat (a := 0) (Nat.zero_le _) (Nat.le_of_lt hk)
   simp only [sh82_K4, joinK]
   rw [if_neg (by simp only [decide_eq_true_eq]; omega), if_neg (by simp only [decide_eq_true_eq, hl]; omega), f3, if_neg (by cases b <;> decide)]
   rw [if_pos hc0, hcut, e92 _ _ (by rw [List.length_take]; omega) (fun y hy => by have := List.any_eq_false.1 f4 y hy; simpa using this), Option.bind_some]
   simp only [sh82_K5]
   rw [if_neg (by decide), up1' hk]
  simp only [sh82_L3, joinK]
  rw [if_pos (by simpa using hk), if_pos (inR_nat hk), lAt_nat _ _ _ hk]
  by_cases h5 : x.2.1 = 5
  ·rw [if_pos (by simpa using h5)]
   refine own _ ?_
   rw [decide_eq_true h5, Bool.true_and, Bool.eq_iff_iff]
   simp
  ·rw [if_neg (by simpa using h5)]
   refine own _ ?_
   rw [decide_eq_false h5]; rfl
 ·simp only [sh82_L3]
  rw [if_neg (by simp)]; rfl
theorem e65 {N gate : Nat} {ns : List Nd} {ds : List Dv} (h : LayG N gate ns) {i : Nat} (hi : i < N) : sp65 ((ns, ds, ()), (i : Int), ()) = some (0, ()) := by
 have hl := h.len
 have hil : i < ns.length := by omega
 have hn := h.node i hil
 have h11 := h.N11
 have h82 := e82 (ds := ds) h hi
 generalize hx : ns[i] = x at hn
 have hlat : lAt ([], 0, 0, 0, [], ()) ns (i : Int) = x := by rw [lat_node h hi, hx]
 have k1 := hn.kind1
 have k9 := hn.kind9
 show sh65 0 (ns, ds, ()) (i : Int) = _
 unfold sh65
 simp only
 rw [if_pos (inR_nat hil), hlat, hn.name, e80 i (by omega), Option.bind_some]
 simp only [joinK]
 rw [if_neg (by decide), if_neg (by simp only [decide_eq_true_eq]; omega), decide_eq_false (show ¬ 9 < x.2.1 by omega)]
 simp only [sh65_K1, joinK]
 rw [if_neg (by decide), e81 hn, Option.bind_some]
 simp only
 rw [if_neg (by decide), h82, Option.bind_some]
 have hz : x.2.2.2.1 = 0 ∨ x.2.2.2.1 = 1 := by rw [hn.zone]; unfold zoneOf; split <;> simp
 simp only [sh65_K2]
 rcases hz with hz | hz
 ·rw [hz, if_neg (by decide), if_neg (by decide)]
 ·rw [hz, if_pos (by decide), if_neg (by decide), if_neg (by decide)]
theorem e66 {N gate : Nat} {ns : List Nd} {ds : List Dv} (h : LayG N gate ns) : ∃ t : Int, sp66 ((ns, ds, ()), ()) = some (t, ()) ∧ t ≤ 80 := by
 have hl := h.len
 have h11 := h.N11
 show ∃ t : Int, sh66 100000 (ns, ds, ()) = some (t, ()) ∧ _
 unfold sh66
 simp only [joinK]
 refine iter_post (F := sh66_L2 sh66_K0) (fun k z => ∃ t : Int, z = (t, ns, (ns.length : Int), (k : Int), ()) ∧ 0 ≤ t ∧ t ≤ 4 * k) (fun o => ∃ t : Int, o = some (t, ()) ∧ t ≤ 80) ns.length 100000 (by omega) ⟨0, rfl, by omega, by omega⟩ (fun rc k z hk hz => ?_) (fun rc z hz => ?_)
 ·obtain ⟨t, rfl, t1, t2⟩ := hz
  have := lay_len h ns[k] (List.getElem_mem hk)
  simp only [sh66_L2]
  rw [if_pos (by simpa using hk), if_pos (inR_nat hk), lAt_nat _ _ _ hk, up1' hk, wrapI (by omega) (by omega)]
  exact ⟨_, rfl, t + ns[k].2.2.1, rfl, by omega, by omega⟩
 ·obtain ⟨t, rfl, t1, t2⟩ := hz
  simp only [sh66_L2]
  rw [if_neg (by simp)]
  exact ⟨t, rfl, by omega⟩
theorem name_inj {i j : Nat} (hi : i ≤ 20) (hj : j ≤ 20) (h : ([UInt8.ofNat (65 + i)] == [UInt8.ofNat (65 + j)]) = true) : i = j := by
 simp only [beq_iff_eq, List.cons.injEq, and_true] at h
 have := congrArg UInt8.toNat h
 rw [UInt8.toNat_ofNat', UInt8.toNat_ofNat'] at this
 omega
theorem e83 {N gate : Nat} {ns : List Nd} {ds : List Dv} (h : LayG N gate ns) {i : Nat} (hi : i < N) : sp83 ((ns, ds, ()), [UInt8.ofNat (65 + i)], ()) = some ((i : Int), ()) := by
 have hl := h.len
 have h11 := h.N11
 show sh83 100000 (ns, ds, ()) [UInt8.ofNat (65 + i)] = _
 unfold sh83
 simp only [joinK]
 refine iter_count (F := sh83_L4 sh83_K0 (sh83_K2 sh83_K0)) (fun k : Nat => (ns, (ns.length : Int), (k : Int), ([UInt8.ofNat (65 + i)], ()), ())) i 100000 (by omega) (fun rc k hk => ?_) (fun rc => ?_)
 ·have hk' : k < ns.length := by omega
  simp only [sh83_L4]
  rw [if_pos (by simpa using hk'), if_pos (inR_nat hk'), lAt_nat _ _ _ hk', (h.node k hk').name, if_neg (fun e => by have := name_inj (by omega) (by omega) e; omega), up1' hk']
 ·have hi' : i < ns.length := by omega
  simp only [sh83_L4]
  rw [if_pos (by simpa using hi'), if_pos (inR_nat hi'), lAt_nat _ _ _ hi', (h.node i hi').name, if_pos (by simp)]
  rfl
theorem e67 {N gate : Nat} {ns : List Nd} {ds : List Dv} (h : LayG N gate ns) : sp67 ((ns, ds, ()), ()) = some (true, ()) := by
 have hl := h.len
 have h11 := h.N11
 show sh67 100000 (ns, ds, ()) = _
 unfold sh67
 simp only [joinK]
 refine iter_count (F := sh67_L2 sh67_K0) (fun k : Nat => (ns, (ns.length : Int), (k : Int), (ns, ds, ()), ())) ns.length 100000 (by omega) (fun rc k hk => ?_) (fun rc => ?_)
 ·simp only [sh67_L2]
  rw [if_pos (by simpa using hk), if_pos (inR_nat hk), lAt_nat _ _ _ hk, (h.node k hk).name, e83 h (by omega), Option.bind_some]
  simp only
  rw [if_neg (by simp), up1' hk]
 ·simp only [sh67_L2]
  rw [if_neg (by simp)]; rfl
theorem exit_to {N gate : Nat} {ns : List Nd} (h : LayG N gate ns) {i : Nat} (hi : i < ns.length) (k : Nat) (hk : k < ns[i].2.2.2.2.1.length) :
  ∃ (e : Nat) (he : e < ns.length), (ns[i].2.2.2.2.1[k]).1 = (e : Int) ∧ ns[e].2.1 ≠ 1 ∧ ns[e].2.2.2.1 = (if ns[i].2.1 = 6 ∧ k = 1 then 1 else ns[i].2.2.2.1) := by
 have hn := h.node i hi
 have hl := h.len
 have he := hn.ex k hk
 unfold ExitG at he
 by_cases hc : ns[i].2.1 = 5 ∧ k = 0
 ·rw [if_pos hc] at he
  refine ⟨i, hi, he, by omega, ?_⟩
  rw [if_neg (by omega)]
 ·rw [if_neg hc] at he
  obtain ⟨a1, a2, a3⟩ := he
  refine ⟨((ns[i].2.2.2.2.1[k]).1).toNat, by omega, by omega, fun e => ?_, ?_⟩
  ·have := (h.node _ (by omega)).entry.1 e
   omega
  ·rw [(h.node _ (by omega)).zone, hn.zone, show ((((ns[i].2.2.2.2.1[k]).1).toNat : Nat) : Int) = (ns[i].2.2.2.2.1[k]).1 by omega]
   exact a3
theorem e68 {N gate : Nat} {ns : List Nd} {ds : List Dv} (h : LayG N gate ns) {i : Nat} (hi : i < N) : sp68 ((ns, ds, ()), (i : Int), ()) = some (true, ()) := by
 have hl := h.len
 have hil : i < ns.length := by omega
 have hn := h.node i hil
 have h11 := h.N11
 have hex := exit_to h hil
 have hz := hn.zone
 generalize hx : ns[i] = x at hn hex hz
 have hlat : lAt ([], 0, 0, 0, [], ()) ns (i : Int) = x := by rw [lat_node h hi, hx]
 have hct : x.2.2.2.2.1.length ≤ 2 := by rw [hn.cnt]; unfold exitsN; split; exact Nat.zero_le _; split <;> decide
 have main : sh68_K0 100000 ((ns, ds, ()), x, ()) = some (true, ()) := by
  simp only [sh68_K0, joinK]
  refine iter_count (F := sh68_L3 sh68_K1) (fun k : Nat => (x.2.2.2.2.1, (x.2.2.2.2.1.length : Int), (k : Int), (ns, ds, ()), x, ())) x.2.2.2.2.1.length 100000 (by omega) (fun rc k hk => ?_) (fun rc => ?_)
  ·obtain ⟨e, he, e1, e2, e3⟩ := hex k hk
   have fin : ∀ want : Int, want = (if x.2.1 = 6 ∧ k = 1 then 1 else x.2.2.2.1) → sh68_K4 rc ((x.2.2.2.2.1[k]).1, want, x.2.2.2.2.1, (x.2.2.2.2.1.length : Int), (k : Int), (ns, ds, ()), x, ()) = rc (x.2.2.2.2.1, (x.2.2.2.2.1.length : Int), ((k + 1 : Nat) : Int), (ns, ds, ()), x, ()) := by
    intro want hw
    simp only [sh68_K4, joinK]
    rw [e1, if_pos (inR_nat he), lAt_nat _ _ _ he, if_neg (by simpa using e2), if_pos (inR_nat he), e3, ← hw]
    simp only [sh68_K5]
    rw [if_neg (by simp), up1' hk]
   simp only [sh68_L3, joinK]
   rw [if_pos (by simpa using hk), if_pos (inR_nat hk), lAt_nat _ _ _ hk]
   simp only [sh68_K8]
   by_cases h6 : x.2.1 = 6
   ·rw [if_pos (by simpa using h6)]
    by_cases hk1 : k = 1
    ·subst hk1
     rw [if_pos (by simp)]
     exact fin 1 (by rw [if_pos ⟨h6, rfl⟩])
    ·rw [if_neg (by simp; omega)]
     exact fin _ (by rw [if_neg (fun e => hk1 e.2)])
   ·rw [if_neg (by simpa using h6), if_neg (by decide)]
    exact fin _ (by rw [if_neg (fun e => h6 e.1)])
  ·simp only [sh68_L3]
   rw [if_neg (by simp)]; rfl
 show sh68 100000 (ns, ds, ()) (i : Int) = _
 unfold sh68
 simp only
 rw [if_pos (inR_nat hil), hlat]
 simp only [joinK]
 have k11 : ∀ b : Bool, (b = true → x.2.1 = 1 ∨ x.2.1 = 3 ∨ x.2.1 = 6) → sh68_K11 (sh68_K0 100000) (x.2.1, b, (ns, ds, ()), x, ()) = some (true, ()) := by
  intro b hb
  simp only [sh68_K11, joinK]
  cases b with
  | true =>
   have := hn.zk0 (hb rfl)
   rw [if_pos rfl, hz, this, if_neg (by decide)]
   exact main
  | false =>
   rw [if_neg (by decide)]
   have k12 : ∀ b : Bool, (b = true → x.2.1 = 7 ∨ x.2.1 = 8) → sh68_K12 (sh68_K0 100000) (b, (ns, ds, ()), x, ()) = some (true, ()) := by
    intro b hb
    simp only [sh68_K12]
    cases b with
    | true =>
     have := hn.zk1 (hb rfl)
     rw [if_pos rfl, hz, this, if_neg (by decide)]
     exact main
    | false => rw [if_neg (by decide)]; exact main
   by_cases h7 : x.2.1 = 7
   ·rw [if_pos (by simpa using h7)]; exact k12 _ fun _ => .inl h7
   ·rw [if_neg (by simpa using h7)]; exact k12 _ fun h => .inr (by simpa using h)
 by_cases h1 : x.2.1 = 1
 ·rw [if_pos (by simpa using h1)]; exact k11 _ fun _ => .inl h1
 ·rw [if_neg (by simpa using h1)]
  by_cases h3 : x.2.1 = 3
  ·rw [if_pos (by simpa using h3)]; exact k11 _ fun _ => .inr (.inl h3)
  ·rw [if_neg (by simpa using h3)]; exact k11 _ fun h => .inr (.inr (by simpa using h))
theorem mget_set (l : List (Int × Int)) (n v m : Int) : mGet (mSet l n v) m = if n = m then v else mGet l m := by
 induction l with
 | nil =>
  simp only [mSet, mGet]
  by_cases h : n = m
  ·rw [if_pos h, if_pos (by simpa using h)]
  ·rw [if_neg h, if_neg (by simpa using h)]
 | cons p r ih =>
  obtain ⟨a, b⟩ := p
  by_cases ha : a = n
  ·subst ha
   simp only [mSet, beq_self_eq_true, if_true, mGet]
   by_cases h : a = m
   ·subst h; simp
   ·rw [if_neg h, if_neg (by simpa using h), if_neg (by simpa using h)]
  ·have h1 : (a == n) = false := by simpa using ha
   simp only [mSet, h1, Bool.false_eq_true, if_false, mGet]
   by_cases hm : a = m
   ·have h2 : (a == m) = true := by simpa using hm
    simp only [h2, if_true]
    rw [if_neg (by omega)]
   ·have h2 : (a == m) = false := by simpa using hm
    simp only [h2, Bool.false_eq_true, if_false]
    exact ih
def exN (ns : List Nd) (k : Nat) : IL := (ns.getD k ([], 0, 0, 0, [], ())).2.2.2.2.1
def ecN (ns : List Nd) (k i : Nat) : Nat := if k = i then 0 else (exN ns k).countP fun y => y.1 == (i : Int)
def remN (N : Nat) (out : List Nat) : List Nat := (List.range N).filter fun k => !out.contains k
def wN (ns : List Nd) (S : List Nat) (i : Nat) : Nat := (S.map fun k => ecN ns k i).sum
def nextN (ns : List Nd) (N : Nat) (out : List Nat) : Option Nat := (List.range N).find? fun i => !out.contains i && wN ns (remN N out) i == 0
def ordN (ns : List Nd) (N : Nat) : Nat → List Nat → List Nat
 | 0, out => out
 | n + 1, out => match nextN ns N out with
  | some i => ordN ns N n (out ++ [i])
  | none => out
def ilN (l : List Nat) : IL := l.map fun k : Nat => ((k : Int), ())
theorem wN_le {ns : List Nd} {c : Nat} (h : ∀ k i, ecN ns k i ≤ c) (S : List Nat) (i : Nat) : wN ns S i ≤ c * S.length := by
 induction S with
 | nil => simp [wN]
 | cons k r ih =>
  simp only [wN, List.map_cons, List.sum_cons, List.length_cons] at ih ⊢
  have := h k i
  rw [Nat.mul_succ]; omega
theorem wN_rem {ns : List Nd} {N : Nat} {out : List Nat} {x i : Nat} (hx : x < N) (ho : x ∉ out) : wN ns (remN N out) i = ecN ns x i + wN ns (remN N (out ++ [x])) i := by
 have key : ∀ l : List Nat, l.Nodup → x ∈ l → ((l.filter fun k => !out.contains k).map fun k => ecN ns k i).sum = ecN ns x i + ((l.filter fun k => !(out ++ [x]).contains k).map fun k => ecN ns k i).sum := by
  intro l
  induction l with
  | nil => intro _ h; cases h
  | cons a r ih =>
   intro hn hm
   obtain ⟨hn1, hn2⟩ := List.nodup_cons.1 hn
   by_cases hax : a = x
   ·subst hax
    have e1 : (r.filter fun k => !(out ++ [a]).contains k) = r.filter fun k => !out.contains k := List.filter_congr fun k hk => by
     have : k ≠ a := fun e => hn1 (e ▸ hk)
     simp [this]
    rw [List.filter_cons_of_pos (by simpa using ho), List.filter_cons_of_neg (by simp), e1]
    simp
   ·have hm' : x ∈ r := by
     rcases List.mem_cons.1 hm with h | h
     ·exact absurd h.symm hax
     ·exact h
    have ih := ih hn2 hm'
    by_cases hao : a ∈ out
    ·rw [List.filter_cons_of_neg (by simpa using hao), List.filter_cons_of_neg (by simp [hao])]; exact ih
    ·rw [List.filter_cons_of_pos (by simpa using hao), List.filter_cons_of_pos (by simp [hao, hax])]
     simp only [List.map_cons, List.sum_cons]
     rw [ih]; omega
 exact key _ List.nodup_range (List.mem_range.2 hx)
theorem find_range {N : Nat} {p : Nat → Bool} {x : Nat} (h : (List.range N).find? p = some x) : x < N ∧ p x = true ∧ ∀ j < x, p j = false := by
 rw [List.find?_range_eq_some] at h
 obtain ⟨h1, h2, h3⟩ := h
 exact ⟨List.mem_range.1 h2, h1, fun j hj => by simpa using h3 j hj⟩
theorem exN_lay {N gate : Nat} {ns : List Nd} (h : LayG N gate ns) {k : Nat} (hk : k < ns.length) : exN ns k = ns[k].2.2.2.2.1 := by
 unfold exN
 rw [List.getD, List.getElem?_eq_getElem hk]; rfl
theorem exN_len {N gate : Nat} {ns : List Nd} (h : LayG N gate ns) (k : Nat) : (exN ns k).length ≤ 2 := by
 by_cases hk : k < ns.length
 ·rw [exN_lay h hk, (h.node k hk).cnt]; unfold exitsN; split; exact Nat.zero_le _; split <;> decide
 ·unfold exN
  rw [List.getD, List.getElem?_eq_none (by omega)]; exact Nat.zero_le _
theorem ecN_le {N gate : Nat} {ns : List Nd} (h : LayG N gate ns) (k i : Nat) : ecN ns k i ≤ 2 := by
 unfold ecN
 split
 ·exact Nat.zero_le _
 ·exact Nat.le_trans List.countP_le_length (exN_len h k)
theorem ecN_lt {N gate : Nat} {ns : List Nd} (h : LayG N gate ns) {k i : Nat} (hk : k < N) (hi : i ≤ k) : ecN ns k i = 0 := by
 unfold ecN
 by_cases e : k = i
 ·rw [if_pos e]
 ·rw [if_neg e, exN_lay h (by rw [h.len]; exact hk), List.countP_eq_zero]
  intro y hy
  obtain ⟨q, hq, rfl⟩ := List.getElem_of_mem hy
  have := (h.node k (by rw [h.len]; exact hk)).ex q hq
  unfold ExitG at this
  simp only [beq_iff_eq]
  split at this <;> omega
theorem len_sub : ∀ (l out : List Nat), l.Nodup → (∀ k ∈ l, k ∈ out) → l.length ≤ out.length
 | [], out, _, _ => Nat.zero_le _
 | a :: r, out, hn, hs => by
  obtain ⟨h1, h2⟩ := List.nodup_cons.1 hn
  have ha := hs a (List.mem_cons_self ..)
  have := len_sub r (out.erase a) h2 fun k hk => (List.mem_erase_of_ne (fun e : k = a => h1 (by rw [← e]; exact hk))).2 (hs k (List.mem_cons_of_mem _ hk))
  rw [List.length_erase_of_mem ha] at this
  have := List.length_pos_of_mem ha
  simp only [List.length_cons]; omega
theorem sum_zero : ∀ l : List Nat, (∀ v ∈ l, v = 0) → l.sum = 0
 | [], _ => rfl
 | a :: r, h => by rw [List.sum_cons, h a (List.mem_cons_self ..), sum_zero r fun v hv => h v (List.mem_cons_of_mem _ hv)]
theorem next_ex {N gate : Nat} {ns : List Nd} (h : LayG N gate ns) {out : List Nat} (hl : out.length < N) (hr : ∀ k ∈ out, k < N) (hn : out.Nodup) : ∃ x, nextN ns N out = some x := by
 have hmiss : ∃ x, (List.range N).find? (fun i => !out.contains i) = some x := by
  cases hf : (List.range N).find? (fun i => !out.contains i) with
  | some x => exact ⟨x, rfl⟩
  | none =>
   rw [List.find?_eq_none] at hf
   have := len_sub (List.range N) out List.nodup_range fun k hk => by have := hf k hk; simpa using this
   rw [List.length_range] at this
   omega
 obtain ⟨x, hx⟩ := hmiss
 obtain ⟨x1, x2, x3⟩ := find_range hx
 cases hf : nextN ns N out with
 | some y => exact ⟨y, rfl⟩
 | none =>
  unfold nextN at hf
  rw [List.find?_eq_none] at hf
  have := hf x (List.mem_range.2 x1)
  exfalso
  apply this
  rw [x2, Bool.true_and, beq_iff_eq]
  unfold wN
  refine sum_zero _ fun v hv => ?_
  obtain ⟨k, hk, rfl⟩ := List.mem_map.1 hv
  unfold remN at hk
  rw [List.mem_filter] at hk
  have hkN := List.mem_range.1 hk.1
  have hkx : x ≤ k := Nat.le_of_not_lt fun hlt => by
   have := x3 k hlt
   simp only [Bool.not_eq_false'] at this
   rw [this] at hk
   exact absurd hk.2 (by decide)
  exact ecN_lt h hkN hkx
theorem next_spec {ns : List Nd} {N : Nat} {out : List Nat} {x : Nat} (h : nextN ns N out = some x) : x < N ∧ x ∉ out ∧ wN ns (remN N out) x = 0 ∧ ∀ j < x, j ∈ out ∨ wN ns (remN N out) j ≠ 0 := by
 obtain ⟨h1, h2, h3⟩ := find_range h
 simp only [Bool.and_eq_true, Bool.not_eq_true', beq_iff_eq] at h2
 refine ⟨h1, by simpa using h2.1, h2.2, fun j hj => ?_⟩
 have := h3 j hj
 simp only [Bool.and_eq_false_iff, Bool.not_eq_false', beq_eq_false_iff_ne] at this
 rcases this with h | h
 ·exact .inl (by simpa using h)
 ·exact .inr h
abbrev WM := List (Int × Int)
def ecQ (ns : List Nd) (k q i : Nat) : Nat := if k = i then 0 else ((exN ns k).take q).countP fun y => y.1 == (i : Int)
theorem ecQ_all {ns : List Nd} {k i q : Nat} (h : (exN ns k).length ≤ q) : ecQ ns k q i = ecN ns k i := by
 unfold ecQ ecN; rw [List.take_of_length_le h]
theorem ecQ_succ {ns : List Nd} {k q i : Nat} (h : q < (exN ns k).length) : ecQ ns k (q + 1) i = ecQ ns k q i + (if k ≠ i ∧ ((exN ns k)[q]).1 = (i : Int) then 1 else 0) := by
 unfold ecQ
 by_cases e : k = i
 ·rw [if_pos e, if_pos e, if_neg (by simp [e])]
 ·rw [if_neg e, if_neg e, List.take_add_one, List.getElem?_eq_getElem h, List.countP_append]
  congr 1
  simp only [Option.toList, List.countP_cons, List.countP_nil, Nat.zero_add, beq_iff_eq]
  simp only [ne_eq, e, not_false_eq_true, true_and]
theorem wN_range (ns : List Nd) (m i : Nat) : wN ns (List.range (m + 1)) i = wN ns (List.range m) i + ecN ns m i := by
 simp only [wN, List.range_succ, List.map_append, List.sum_append, List.map_cons, List.map_nil, List.sum_cons, List.sum_nil, Nat.add_zero]
section
variable {N gate : Nat} {ns : List Nd} {ds : List Dv}
theorem ex_node (h : LayG N gate ns) {k q : Nat} (hk : k < N) (hq : q < (exN ns k).length) : ∃ e : Nat, e < N ∧ ((exN ns k)[q]).1 = (e : Int) := by
 have hkl : k < ns.length := by rw [h.len]; exact hk
 have hx := exN_lay h hkl
 have hq' : q < ns[k].2.2.2.2.1.length := by rw [hx] at hq; exact hq
 obtain ⟨e, he, h1, _⟩ := exit_to h hkl q hq'
 refine ⟨e, by rw [h.len] at he; exact he, ?_⟩
 rw [← h1]; congr 1; exact List.getElem_of_eq hx hq
theorem wb (h : LayG N gate ns) {S : List Nat} (hS : S.length ≤ 11) (i : Nat) : wN ns S i ≤ 22 := by
 have := wN_le (c := 2) (fun k i => ecN_le h k i) S i
 omega
theorem loop15 (h : LayG N gate ns) (j14) {R : Option (IL × Unit)} (hj : ∀ w : WM, (∀ i : Nat, mGet w (i : Int) = ((wN ns (List.range N) i : Nat) : Int)) → j14 ((ns, ds, ()), w, ()) = R) :
  iter 100000 (sh69_L15 100000 j14) (ns, (ns.length : Int), 0, (ns, ds, ()), [], ()) = R := by
 have hl := h.len
 have h11 := h.N11
 refine iter_post (F := sh69_L15 100000 j14) (fun k z => ∃ w : WM, z = (ns, (ns.length : Int), (k : Int), (ns, ds, ()), w, ()) ∧ ∀ i : Nat, mGet w (i : Int) = ((wN ns (List.range k) i : Nat) : Int)) (fun o => o = R) ns.length 100000 (by omega)
  ⟨[], rfl, fun i => rfl⟩ (fun rc k z hk hz => ?_) (fun rc z hz => ?_)
 ·obtain ⟨w, rfl, hw⟩ := hz
  simp only [sh69_L15, joinK]
  rw [if_pos (by simpa using hk), if_pos (inR_nat hk), lAt_nat _ _ _ hk, ← exN_lay h hk]
  suffices hs : ∃ w' : WM, (iter 100000 (sh69_L18 (sh69_K16 rc)) ((k : Int), ns, (ns.length : Int), (k : Int), exN ns k, ((exN ns k).length : Int), 0, (ns, ds, ()), w, ()) = rc (ns, (ns.length : Int), ((k + 1 : Nat) : Int), (ns, ds, ()), w', ())) ∧ ∀ i : Nat, mGet w' (i : Int) = ((wN ns (List.range (k + 1)) i : Nat) : Int) by
   obtain ⟨w', e, hw'⟩ := hs
   exact ⟨_, e, w', rfl, hw'⟩
  have hl2 := exN_len h k
  have hb : ∀ i, wN ns (List.range k) i ≤ 100 := fun i => by have := wb h (S := List.range k) (by rw [List.length_range]; omega) i; omega
  refine iter_post (F := sh69_L18 (sh69_K16 rc)) (fun q z => ∃ w' : WM, z = ((k : Int), ns, (ns.length : Int), (k : Int), exN ns k, ((exN ns k).length : Int), (q : Int), (ns, ds, ()), w', ()) ∧ ∀ i : Nat, mGet w' (i : Int) = ((wN ns (List.range k) i + ecQ ns k q i : Nat) : Int))
   (fun o => ∃ w' : WM, o = rc (ns, (ns.length : Int), ((k + 1 : Nat) : Int), (ns, ds, ()), w', ()) ∧ ∀ i : Nat, mGet w' (i : Int) = ((wN ns (List.range (k + 1)) i : Nat) : Int)) (exN ns k).length 100000 (by have := exN_len h k; omega)
   ⟨w, rfl, fun i => by rw [hw]; simp [ecQ]⟩ (fun rc2 q z hq hz => ?_) (fun rc2 z hz => ?_)
  ·obtain ⟨w', rfl, hw'⟩ := hz
   obtain ⟨e, he, hex⟩ := ex_node h (by omega) hq
   simp only [sh69_L18, joinK, sh69_K19]
   rw [if_pos (by simpa using hq), if_pos (inR_nat hq), lAt_nat _ _ _ hq, hex, up1' hq]
   by_cases hek : e = k
   ·rw [if_neg (by simp [hek])]
    refine ⟨_, rfl, w', rfl, fun i => ?_⟩
    rw [hw', ecQ_succ hq, if_neg (by rw [hex, hek]; omega)]; simp
   ·rw [if_pos (by simpa using (by omega : (e : Int) ≠ k))]
    refine ⟨_, rfl, _, rfl, fun i => ?_⟩
    rw [mget_set, hw' e, ecQ_succ hq, hex]
    have hbe := hb e
    have hqe : ecQ ns k q e ≤ 2 := by
     unfold ecQ; split; exact Nat.zero_le _
     refine Nat.le_trans List.countP_le_length ?_
     rw [List.length_take]; have := exN_len h k; omega
    rw [wrapI (by omega) (by omega)]
    by_cases hei : e = i
    ·subst hei
     rw [if_pos rfl, if_pos ⟨fun e' => hek e'.symm, rfl⟩]; omega
    ·rw [if_neg (by omega), if_neg (by omega), hw' i]; simp
  ·obtain ⟨w', rfl, hw'⟩ := hz
   simp only [sh69_L18]
   rw [if_neg (by simp)]
   simp only [sh69_K16, up1' hk]
   exact ⟨w', rfl, fun i => by rw [hw', ecQ_all (Nat.le_refl _), wN_range]⟩
 ·obtain ⟨w, rfl, hw⟩ := hz
  simp only [sh69_L15]
  rw [if_neg (by simp)]
  exact hj w (by rw [← hl]; exact hw)
end
section
variable {N gate : Nat} {ns : List Nd} {ds : List Dv}
structure SInv (ns : List Nd) (N r : Nat) (out : List Nat) (w : WM) (done : List (Bool × Unit)) : Prop where
 len : out.length = r
 nd : out.Nodup
 lt : ∀ k ∈ out, k < N
 dl : done.length = N
 dn : ∀ i < N, (done.getD i (false, ())).1 = decide (i ∈ out)
 w : ∀ i : Nat, mGet w (i : Int) = ((wN ns (remN N out) i : Nat) : Int)
 ord : ordN ns N (N - r) out = ordN ns N N []
theorem rem_len (N : Nat) (out : List Nat) : (remN N out).length ≤ N := by
 unfold remN
 refine Nat.le_trans (List.length_filter_le _ _) ?_
 rw [List.length_range]; exact Nat.le_refl _
theorem loop7 (h : LayG N gate ns) (j5) (Post : Option (IL × Unit) → Prop) (x : Nat) (hx : x < N) (r : Nat) (out : List Nat) (ho : x ∉ out) (il : IL) (done : List (Bool × Unit)) (w : WM) (hw : ∀ i : Nat, mGet w (i : Int) = ((wN ns (remN N out) i : Nat) : Int))
  (hj : ∀ w' : WM, (∀ i : Nat, mGet w' (i : Int) = ((wN ns (remN N (out ++ [x])) i : Nat) : Int)) → Post (j5 ((ns.length : Int), (r : Int), (ns, ds, ()), w', il, done, ()))) :
  Post (iter 100000 (sh69_L7 j5) ((x : Int), (ns.length : Int), (r : Int), exN ns x, ((exN ns x).length : Int), 0, (ns, ds, ()), w, il, done, ())) := by
 have hl2 := exN_len h x
 have h11 := h.N11
 have hrem : ∀ i, wN ns (remN N out) i = ecN ns x i + wN ns (remN N (out ++ [x])) i := fun i => wN_rem hx ho
 have hb : ∀ i, wN ns (remN N out) i ≤ 22 := fun i => wb h (by have := rem_len N out; omega) i
 have hqle : ∀ q i, ecQ ns x q i ≤ ecN ns x i := fun q i => by
  unfold ecQ ecN
  split
  ·exact Nat.le_refl _
  ·exact (List.take_sublist q _).countP_le
 refine iter_post (F := sh69_L7 j5) (fun q z => ∃ w' : WM, z = ((x : Int), (ns.length : Int), (r : Int), exN ns x, ((exN ns x).length : Int), (q : Int), (ns, ds, ()), w', il, done, ()) ∧ ∀ i : Nat, mGet w' (i : Int) = ((wN ns (remN N out) i : Nat) : Int) - ((ecQ ns x q i : Nat) : Int)) Post (exN ns x).length 100000 (by omega)
  ⟨w, rfl, fun i => by rw [hw]; simp [ecQ]⟩ (fun rc q z hq hz => ?_) (fun rc z hz => ?_)
 ·obtain ⟨w', rfl, hw'⟩ := hz
  obtain ⟨e, he, hex⟩ := ex_node h hx hq
  simp only [sh69_L7, joinK, sh69_K8]
  rw [if_pos (by simpa using hq), if_pos (inR_nat hq), lAt_nat _ _ _ hq, hex, up1' hq]
  by_cases hek : e = x
  ·rw [if_neg (by simp [hek])]
   refine ⟨_, rfl, w', rfl, fun i => ?_⟩
   rw [hw', ecQ_succ hq, if_neg (by rw [hex, hek]; omega)]; simp
  ·rw [if_pos (by simpa using (by omega : (e : Int) ≠ x))]
   refine ⟨_, rfl, _, rfl, fun i => ?_⟩
   rw [mget_set, hw' e, ecQ_succ hq, hex]
   have hbe := hb e
   have hqe := hqle q e
   have hce := ecN_le h x e
   rw [wrapI (by omega) (by omega)]
   by_cases hei : e = i
   ·subst hei
    rw [if_pos rfl, if_pos ⟨fun e' => hek e'.symm, rfl⟩]; omega
   ·rw [if_neg (by omega), if_neg (by omega), hw' i]; simp
 ·obtain ⟨w', rfl, hw'⟩ := hz
  simp only [sh69_L7]
  rw [if_neg (by simp)]
  refine hj w' fun i => ?_
  rw [hw', ecQ_all (Nat.le_refl _), hrem]; omega
theorem e69 (h : LayG N gate ns) : sp69 ((ns, ds, ()), ()) = some (ilN (ordN ns N N []), ()) ∧ (ordN ns N N []).length = N ∧ (ordN ns N N []).Nodup ∧ ∀ k ∈ ordN ns N N [], k < N := by
 have hl := h.len
 have h11 := h.N11
 suffices hs : ∃ out : List Nat, sp69 ((ns, ds, ()), ()) = some (ilN out, ()) ∧ out = ordN ns N N [] ∧ out.length = N ∧ out.Nodup ∧ ∀ k ∈ out, k < N by
  obtain ⟨out, a, rfl, b⟩ := hs
  exact ⟨a, b⟩
 show ∃ out : List Nat, sh69 100000 (ns, ds, ()) = some (ilN out, ()) ∧ _
 unfold sh69
 simp only [joinK]
 suffices hs : ∀ w : WM, (∀ i : Nat, mGet w (i : Int) = ((wN ns (List.range N) i : Nat) : Int)) → ∃ out : List Nat, sh69_K0 100000 ((ns, ds, ()), w, ()) = some (ilN out, ()) ∧ out = ordN ns N N [] ∧ out.length = N ∧ out.Nodup ∧ ∀ k ∈ out, k < N by
  have main := fun (w : WM) hw => hs w hw
  refine Classical.byContradiction fun hno => ?_
  have hR : ∀ w : WM, (∀ i : Nat, mGet w (i : Int) = ((wN ns (List.range N) i : Nat) : Int)) → sh69_K0 100000 ((ns, ds, ()), w, ()) = some (ilN (ordN ns N N []), ()) := fun w hw => by
   obtain ⟨out, a, rfl, _⟩ := main w hw; exact a
  have e := loop15 (ds := ds) h (sh69_K0 100000) (R := some (ilN (ordN ns N N []), ())) hR
  refine hno ⟨ordN ns N N [], e, rfl, ?_⟩
  obtain ⟨w, hw⟩ : ∃ w : WM, ∀ i : Nat, mGet w (i : Int) = ((wN ns (List.range N) i : Nat) : Int) := by
   refine Classical.byContradiction fun hn => ?_
   have e2 := loop15 (ds := ds) h (fun _ => none) (R := none) fun _ _ => rfl
   have e3 := loop15 (ds := ds) h (fun _ => none) (R := some (ilN [], ())) fun w hw => absurd ⟨w, hw⟩ hn
   rw [e2] at e3; cases e3
  obtain ⟨out, _, rfl, c⟩ := main w hw
  exact c
 intro w hw
 simp only [sh69_K0, joinK]
 have hlim : ((ns.length : Nat) : Int) ≤ (lim : Int) := by have : (lim : Int) = 140737488355328 := rfl; omega
 rw [if_pos (decide_eq_true (by omega)), if_pos (decide_eq_true (Int.le_refl _)), if_pos (decide_eq_true hlim), if_pos (decide_eq_true (show (1 : Int) * ((ns.length : Nat) : Int) ≤ (lim : Int) by omega))]
 have hrange : remN N [] = List.range N := by unfold remN; exact List.filter_eq_self.2 fun _ _ => rfl
 refine iter_post (F := sh69_L3 100000 sh69_K1) (fun r z => ∃ (out : List Nat) (w' : WM) (done : List (Bool × Unit)), z = ((ns.length : Int), (r : Int), (ns, ds, ()), w', ilN out, done, ()) ∧ SInv ns N r out w' done)
  (fun o => ∃ out : List Nat, o = some (ilN out, ()) ∧ out = ordN ns N N [] ∧ out.length = N ∧ out.Nodup ∧ ∀ k ∈ out, k < N) N 100000 (by omega)
  ⟨[], w, _, rfl, rfl, List.nodup_nil, by simp, by simp [hl], fun i hi => ?_, fun i => by rw [hw, hrange], rfl⟩ (fun rc r z hr hz => ?_) (fun rc z hz => ?_)
 ·simp only [Int.toNat_natCast]
  rw [List.getD, List.getElem?_replicate, if_pos (by omega)]; rfl
 ·obtain ⟨out, w', done, rfl, hI⟩ := hz
  obtain ⟨x, hx⟩ := next_ex h (by rw [hI.len]; exact hr) hI.lt hI.nd
  obtain ⟨x1, x2, x3, x4⟩ := next_spec hx
  have hxl : x < ns.length := by omega
  simp only [sh69_L3, joinK]
  rw [if_pos (by simp only [decide_eq_true_eq]; omega)]
  have hK : iter 100000 (sh69_L11 (sh69_K6 100000 sh69_K1 (sh69_K4 rc))) (-1, (ns.length : Int), (r : Int), (ns.length : Int), 0, (ns, ds, ()), w', ilN out, done, ()) = sh69_K6 100000 sh69_K1 (sh69_K4 rc) ((x : Int), (ns.length : Int), (r : Int), (ns, ds, ()), w', ilN out, done, ()) := by
   refine iter_count (F := sh69_L11 (sh69_K6 100000 sh69_K1 (sh69_K4 rc))) (fun i : Nat => ((-1 : Int), (ns.length : Int), (r : Int), (ns.length : Int), (i : Int), (ns, ds, ()), w', ilN out, done, ())) x 100000 (by omega) (fun rc2 i hi => ?_) (fun rc2 => ?_)
   ·have hil : i < ns.length := by omega
    simp only [sh69_L11, joinK]
    rw [if_pos (by simpa using hil), if_pos (inR_nat (by rw [hI.dl]; omega)), if_pos (decide_eq_true (by simp only [Int.toNat_natCast, hI.dl]; omega))]
    simp only [Int.toNat_natCast, hI.dn i (by omega)]
    simp only [sh69_K12]
    by_cases hio : i ∈ out
    ·rw [decide_eq_true hio, if_neg (by decide), if_neg (by decide), up1' hil]
    ·have hne : wN ns (remN N out) i ≠ 0 := (x4 i hi).resolve_left hio
     have hb : (mGet w' (i : Int) == 0) = false := by rw [hI.w]; simp; omega
     rw [decide_eq_false hio, if_pos (by decide), hb, if_neg (by decide), up1' hil]
   ·simp only [sh69_L11, joinK]
    rw [if_pos (by simpa using hxl), if_pos (inR_nat (by rw [hI.dl]; omega)), if_pos (decide_eq_true (by simp only [Int.toNat_natCast, hI.dl]; omega))]
    simp only [Int.toNat_natCast, hI.dn x (by omega)]
    simp only [sh69_K12]
    have hb : (mGet w' (x : Int) == 0) = true := by rw [hI.w, x3]; rfl
    rw [decide_eq_false x2, if_pos (by decide), hb, if_pos rfl]
  rw [hK]
  have hol : (ilN out).length = r := by rw [ilN, List.length_map, hI.len]
  simp only [sh69_K6]
  rw [if_neg (by simp), if_pos (inR_nat (by rw [hI.dl]; omega)), if_pos (decide_eq_true (by simp only [Int.toNat_natCast, hI.dl]; omega)), if_pos (dlim (by omega)), if_pos (dlim (by omega)), if_pos (inR_nat hxl), lAt_nat _ _ _ hxl, ← exN_lay h hxl]
  refine loop7 h (sh69_K4 rc) (fun o => ∃ z', o = rc z' ∧ ∃ (out : List Nat) (w' : WM) (done : List (Bool × Unit)), z' = ((ns.length : Int), ((r + 1 : Nat) : Int), (ns, ds, ()), w', ilN out, done, ()) ∧ SInv ns N (r + 1) out w' done) x x1 r out x2 _ _ w' hI.w fun w2 hw2 => ?_
  simp only [sh69_K4, up1' hr]
  refine ⟨_, rfl, out ++ [x], w2, _, by rw [show ilN out ++ [((x : Int), ())] = ilN (out ++ [x]) by simp [ilN]], ?_⟩
  refine ⟨by simp [hI.len], List.nodup_append.2 ⟨hI.nd, by simp, fun a ha b hb => by rw [List.mem_singleton.1 hb]; rintro rfl; exact x2 ha⟩, fun k hk => ?_, by rw [List.length_set]; exact hI.dl, fun i hi => ?_, hw2, ?_⟩
  ·rcases List.mem_append.1 hk with hk | hk
   ·exact hI.lt k hk
   ·rw [List.mem_singleton.1 hk]; exact x1
  ·simp only [Int.toNat_natCast]
   have hd := hI.dn i hi
   rw [List.getD, List.getElem?_set]
   by_cases hxi : x = i
   ·subst hxi
    rw [if_pos rfl, if_pos (by rw [hI.dl]; exact hi)]
    simp
   ·rw [if_neg hxi]
    rw [List.getD] at hd
    rw [hd]
    have : i ≠ x := fun e => hxi e.symm
    simp [this]
  ·have := hI.ord
   rw [show N - r = (N - (r + 1)) + 1 by omega] at this
   simp only [ordN, hx] at this
   exact this
 ·obtain ⟨out, w', done, rfl, hI⟩ := hz
  simp only [sh69_L3]
  rw [if_neg (by simp only [decide_eq_true_eq]; omega)]
  have := hI.ord
  rw [Nat.sub_self] at this
  exact ⟨out, rfl, this, hI.len, hI.nd, hI.lt⟩
end
theorem dv_eq (x y : Dv) : x = y ↔ x.1 = y.1 ∧ x.2.1 = y.2.1 ∧ x.2.2.1 = y.2.2.1 := by
 obtain ⟨a, b, c, ⟨⟩⟩ := x
 obtain ⟨a', b', c', ⟨⟩⟩ := y
 simp
theorem e84 (l : List Dv) (x : Dv) (hl : l.length ≤ 90000) (h : ∀ y ∈ l, y ≠ x) : sp84 (l, x, ()) = some (false, ()) := by
 have : sp94 (l, x, ()) = some (-1, ()) := by
  show sh94 100000 l x = _
  unfold sh94
  simp only [joinK]
  refine iter_count (F := sh94_L2 sh94_K0) (fun k : Nat => (l, (l.length : Int), (k : Int), x, ())) l.length 100000 (by omega) (fun rc k hk => ?_) (fun rc => ?_)
  ·have hne := h l[k] (List.getElem_mem hk)
   simp only [sh94_L2]
   rw [if_pos (by simpa using hk), if_pos (inR_nat hk), lAt_nat _ _ _ hk, if_neg (fun e => ?_), up1' hk]
   simp only [Bool.and_eq_true, beq_iff_eq] at e
   exact hne ((dv_eq _ _).2 ⟨e.1.symm, e.2.1.symm, e.2.2.1.symm⟩)
  ·simp only [sh94_L2]
   rw [if_neg (by simp)]; rfl
 show sh84 0 l x = _
 unfold sh84
 rw [this]; rfl
section
variable {N gate : Nat} {ns : List Nd} {ds : List Dv}
theorem e70 (hd : DevG ns ds) : sp70 ((ns, ds, ()), ()) = some (0, ()) := by
 have hl := hd.len
 have k0 : sh70_K0 100000 ((ns, ds, ()), ()) = some (0, ()) := by
  simp only [sh70_K0, joinK]
  refine iter_count (F := sh70_L3 sh70_K1) (fun k : Nat => (ds, (ds.length : Int), (k : Int), (ns, ds, ()), ())) ds.length 100000 (by omega) (fun rc k hk => ?_) (fun rc => ?_)
  ·have hc0 : inCut 0 (k : Int) ds.length = true := inCut_nat (a := 0) (Nat.zero_le _) (Nat.le_of_lt hk)
   have hcut : cutL ds 0 (k : Int) = ds.take k := by simp [cutL]
   simp only [sh70_L3]
   rw [if_pos (by simpa using hk), if_pos (inR_nat hk), if_pos hc0, lAt_nat _ _ _ hk, hcut, e84 _ _ (by rw [List.length_take]; omega) (fun y hy => ?_), Option.bind_some]
   ·simp only
    rw [if_neg (by decide), up1' hk]
   ·obtain ⟨j, hj, rfl⟩ := List.getElem_of_mem hy
    rw [List.length_take] at hj
    rw [List.getElem_take]
    exact (List.pairwise_iff_getElem.1 hd.nd) j k (by omega) hk (by omega)
  ·simp only [sh70_L3]
   rw [if_neg (by simp)]; rfl
 show sh70 100000 (ns, ds, ()) = _
 unfold sh70
 simp only [joinK]
 refine iter_count (F := sh70_L6 (sh70_K0 100000)) (fun k : Nat => (ds, (ds.length : Int), (k : Int), (ns, ds, ()), ())) ds.length 100000 (by omega) (fun rc k hk => ?_) (fun rc => ?_)
 ·obtain ⟨o1, o2, o3, o4, o5⟩ := hd.ok ds[k] (List.getElem_mem hk)
  simp only [sh70_L6, joinK]
  rw [if_pos (by simpa using hk), if_pos (inR_nat hk), lAt_nat _ _ _ hk]
  have fin : sh70_K7 rc (ds, (ds.length : Int), (k : Int), false, (ns, ds, ()), ds[k], ()) = rc (ds, (ds.length : Int), ((k + 1 : Nat) : Int), (ns, ds, ()), ()) := by
   simp only [sh70_K7, joinK]
   rw [if_neg (by decide), if_neg (by simp only [decide_eq_true_eq]; omega), if_neg (by simp only [decide_eq_true_eq]; omega), if_neg (by simp only [decide_eq_true_eq]; omega), if_pos (inR_int o2 o3), decide_eq_false (by omega)]
   simp only [sh70_K8]
   rw [if_neg (by decide), up1' hk]
  rcases o1 with o1 | o1
  ·rw [if_neg (by simpa using o1)]; exact fin
  ·rw [if_pos (by rw [o1]; decide), show (ds[k].1 != 2) = false by rw [o1]; rfl]; exact fin
 ·simp only [sh70_L6]
  rw [if_neg (by simp)]
  exact k0
theorem e50 (h : LayG N gate ns) (hd : DevG ns ds) : sp50 ((ns, ds, ()), ()) = some (0, ()) := by
 have hl := h.len
 have h11 := h.N11
 have hdl := hd.len
 have hg := h.gN
 show sh50 100000 (ns, ds, ()) = _
 unfold sh50
 simp only [joinK]
 rw [if_neg (by simp only [decide_eq_true_eq]; omega), decide_eq_false (by omega)]
 simp only [sh50_K0, joinK]
 rw [if_neg (by decide)]
 refine iter_count (F := sh50_L16 (sh50_K1 100000)) (fun k : Nat => ((ns.length : Int), (k : Int), (ns, ds, ()), ())) ns.length 100000 (by omega) (fun rc k hk => ?_) (fun rc => ?_)
 ·simp only [sh50_L16]
  rw [if_pos (by simpa using hk), e65 h (by omega), Option.bind_some]
  simp only
  rw [if_neg (by decide), up1' hk]
 simp only [sh50_L16]
 rw [if_neg (by simp)]
 simp only [sh50_K1, joinK]
 obtain ⟨t, ht, t80⟩ := e66 (ds := ds) h
 rw [ht, Option.bind_some]
 simp only
 rw [if_neg (by simpa using t80), e67 h, Option.bind_some]
 simp only
 rw [if_neg (by decide)]
 refine iter_count (F := sh50_L13 (sh50_K4 100000)) (fun k : Nat => ((ns.length : Int), (k : Int), (ns, ds, ()), ())) ns.length 100000 (by omega) (fun rc k hk => ?_) (fun rc => ?_)
 ·simp only [sh50_L13]
  rw [if_pos (by simpa using hk), e68 h (by omega), Option.bind_some]
  simp only
  rw [if_neg (by decide), up1' hk]
 simp only [sh50_L13]
 rw [if_neg (by simp)]
 simp only [sh50_K4, joinK]
 obtain ⟨hs, hsl, _⟩ := e69 (ds := ds) h
 rw [hs, Option.bind_some]
 simp only
 have hil : (ilN (ordN ns N N [])).length = N := by rw [ilN, List.length_map, hsl]
 rw [if_neg (by simp only [decide_eq_true_eq, hil]; omega), e70 hd, Option.bind_some]
 simp only
 rw [if_neg (by decide)]
 have h0 : 0 < ns.length := by omega
 rw [show (100000 : Nat) = 99999 + 1 from rfl, iter_succ]
 simp only [sh50_L11]
 have hk1 : (lAt ([], 0, 0, 0, [], ()) ns 0).2.1 = 1 := by
  have := lAt_nat ([], 0, 0, 0, [], ()) ns 0 h0
  rw [show ((0 : Nat) : Int) = 0 from rfl] at this
  rw [this]
  exact (h.node 0 h0).entry.2 rfl
 rw [if_pos (by simpa using h0), if_pos (by have := inR_nat h0; exact this), hk1, if_pos (by decide)]
 rfl
theorem e51 (h : LayG N gate ns) (hd : DevG ns ds) : sp51 ((ns, ds, ()), ()) = some (ilN (ordN ns N N []), ()) := by
 show sh51 0 (ns, ds, ()) = _
 unfold sh51
 rw [e50 h hd, Option.bind_some]
 simp only
 rw [if_neg (by decide), (e69 h).1]; rfl
end
abbrev LL := List (IL × Unit)
structure PlG (ns : List Nd) (n0 : Int) (m : Nat) (slots bins : LL) : Prop where
 ls : slots.length = m
 lb : bins.length = m
 sl : ∀ (i : Nat) (h : i < slots.length) (hn : i < ns.length), (slots[i].1.length : Int) = ns[i].2.2.1 ∧ ∀ v ∈ slots[i].1, 0 ≤ v.1 ∧ v.1 ≤ n0
 bn : ∀ (i : Nat) (h : i < bins.length), slots[i]?.isSome → bins[i].1.length ≤ 1 ∧ ∀ v ∈ bins[i].1, 1 ≤ v.1 ∧ v.1 ≤ n0
abbrev PostP := Option (Ty5 × Sr × Unit) → Prop
theorem step10 {N gate : Nat} {ns : List Nd} (h : LayG N gate ns) (dv : List Dv) (n0 : Int) (hn0 : n0 ≤ 1000) (rc) (n bag : Int) (i : Nat) (hi : i < ns.length) (s : Sr) (hs : SrOk s) (A B slots bins : LL) (h1 : 0 ≤ n) (h2 : 1 ≤ bag) (h3 : n + bag = n0 + 1) (hp : PlG ns n0 i slots bins) (j1)
  (Post : PostP) (hj : ∀ (n' bag' : Int) (s' : Sr) (slots' bins' : LL), SrOk s' → 0 ≤ n' → 1 ≤ bag' → n' + bag' = n0 + 1 → PlG ns n0 (i + 1) slots' bins' → Post (rc (n', bag', ((i + 1 : Nat) : Int), s', (ns, dv, ()), (), (), A, B, slots', bins', ()))) :
  Post (sh10_L2 100000 j1 rc (n, bag, (i : Int), s, (ns, dv, ()), (), (), A, B, slots, bins, ())) := by
 have hl := h.len
 have h11 := h.N11
 have hx := node_len (h.node i hi)
 generalize hxe : ns[i] = x at hx
 have hlat : lAt ([], 0, 0, 0, [], ()) ns (i : Int) = x := by rw [lAt_nat _ _ _ hi, hxe]
 have hlim : x.2.2.1 ≤ (lim : Int) := by have : (lim : Int) = 140737488355328 := rfl; omega
 have hlim8 : (8 : Int) * x.2.2.1 ≤ (lim : Int) := by have : (lim : Int) = 140737488355328 := rfl; omega
 simp only [sh10_L2, joinK]
 rw [if_pos (by simpa using hi), if_pos (inR_nat hi), hlat, if_pos (decide_eq_true hx.1), if_pos (decide_eq_true (Int.le_refl _)), if_pos (decide_eq_true hlim), if_pos (decide_eq_true hlim8)]
 have hup : IntKind.i64.wrap ((i : Int) + 1) = ((i + 1 : Nat) : Int) := wrapI (by omega) (by omega)
 have fin : ∀ (n bag : Int) (s : Sr) (w inn : IL), SrOk s → 0 ≤ n → 1 ≤ bag → n + bag = n0 + 1 → (w.length : Int) = x.2.2.1 → (∀ v ∈ w, 0 ≤ v.1 ∧ v.1 ≤ n0) → inn.length ≤ 1 → (∀ v ∈ inn, 1 ≤ v.1 ∧ v.1 ≤ n0) → Post (sh10_K7 (sh10_K3 rc) (n, bag, (i : Int), w, inn, s, (ns, dv, ()), (), (), A, B, slots, bins, ())) := by
  intro n bag s w inn hs h1 h2 h3 hw hv hil hin
  have hls := hp.ls
  have hlb := hp.lb
  simp only [sh10_K7, sh10_K3]
  rw [if_pos (dlim (by omega)), if_pos (dlim (by omega)), if_pos (dlim (by omega)), if_pos (dlim (by omega)), hup]
  refine hj n bag s _ _ hs h1 h2 h3 ⟨by simp [hls], by simp [hlb], fun j hjl hjn => ?_, fun j hjl _ => ?_⟩
  ·by_cases hji : j < slots.length
   ·rw [List.getElem_append_left hji]; exact hp.sl j hji hjn
   ·have : j = i := by simp only [List.length_append, List.length_cons, List.length_nil] at hjl; omega
    subst this
    rw [List.getElem_append_right (by omega)]
    simp only [hls, Nat.sub_self, List.getElem_cons_zero, hxe]
    exact ⟨hw, hv⟩
  ·by_cases hji : j < bins.length
   ·rw [List.getElem_append_left hji]; exact hp.bn j hji (by rw [List.getElem?_eq_getElem (by omega)]; rfl)
   ·have : j = i := by simp only [List.length_append, List.length_cons, List.length_nil] at hjl; omega
    subst this
    rw [List.getElem_append_right (by omega)]
    simp only [hlb, Nat.sub_self, List.getElem_cons_zero]
    exact ⟨hil, hin⟩
 have k9 : ∀ (b : Bool) (n bag : Int) (s : Sr) (w : IL), (b = true → 0 < n) → SrOk s → 0 ≤ n → 1 ≤ bag → n + bag = n0 + 1 → (w.length : Int) = x.2.2.1 → (∀ v ∈ w, 0 ≤ v.1 ∧ v.1 ≤ n0) → Post (sh10_K9 (sh10_K7 (sh10_K3 rc)) (n, bag, (i : Int), b, s, (ns, dv, ()), (), (), w, [], A, B, slots, bins, ())) := by
  intro b n bag s w hb hs h1 h2 h3 hw hv
  simp only [sh10_K9]
  cases b with
  | true =>
   have := hb rfl
   rw [if_pos rfl, if_pos (dlim (by simp)), if_pos (dlim (by simp)), wrapI (by omega) (by omega), wrapI (by omega) (by omega)]
   exact fin _ _ s w _ hs (by omega) (by omega) (by omega) hw hv (by simp) (fun v hv => by simp only [List.nil_append, List.mem_singleton] at hv; rw [hv]; simp only; omega)
  | false =>
   rw [if_neg (by decide)]
   exact fin _ _ s w [] hs h1 h2 h3 hw hv (by simp) (by simp)
 have k6 : ∀ (n bag : Int) (s : Sr) (w : IL), SrOk s → 0 ≤ n → 1 ≤ bag → n + bag = n0 + 1 → (w.length : Int) = x.2.2.1 → (∀ v ∈ w, 0 ≤ v.1 ∧ v.1 ≤ n0) → Post (sh10_K6 (sh10_K3 rc) (n, bag, (i : Int), s, (ns, dv, ()), (), (), x, w, [], A, B, slots, bins, ())) := by
  intro n bag s w hs h1 h2 h3 hw hv
  simp only [sh10_K6, joinK]
  by_cases c1 : (x.2.2.1 == 0) = true
  ·rw [if_pos c1]
   by_cases c2 : 0 < n
   ·obtain ⟨v, s', hv', v1, v2, k'⟩ := e18 hs 3 (by decide) (by decide)
    rw [if_pos (decide_eq_true c2), hv', Option.bind_some]
    exact k9 _ n bag s' w (fun _ => c2) k' h1 h2 h3 hw hv
   ·rw [if_neg (by simpa using c2)]
    exact k9 false n bag s w (fun h => by cases h) hs h1 h2 h3 hw hv
  ·rw [if_neg c1]
   exact k9 false n bag s w (fun h => by cases h) hs h1 h2 h3 hw hv
 have loop : ∀ full : Int, 0 ≤ full → full ≤ 100 → Post (sh10_K5 100000 (sh10_K3 rc) (n, bag, (i : Int), full, s, (ns, dv, ()), (), (), x, List.replicate (Int.toNat x.2.2.1) (0, ()), [], A, B, slots, bins, ())) := by
  intro full hf0 hf1
  simp only [sh10_K5, joinK]
  refine iter_post (F := sh10_L13 (sh10_K6 (sh10_K3 rc))) (fun k z => ∃ (n bag full : Int) (s : Sr) (w : IL), z = (n, bag, (i : Int), full, (k : Int), s, (ns, dv, ()), (), (), x, w, [], A, B, slots, bins, ()) ∧ SrOk s ∧ 0 ≤ n ∧ 1 ≤ bag ∧ n + bag = n0 + 1 ∧ 0 ≤ full ∧ full ≤ 100 ∧ (w.length : Int) = x.2.2.1 ∧ ∀ v ∈ w, 0 ≤ v.1 ∧ v.1 ≤ n0) Post x.2.2.1.toNat 100000 (by omega)
   ⟨n, bag, full, s, _, rfl, hs, h1, h2, h3, hf0, hf1, by rw [List.length_replicate]; omega, fun v hv => by rw [(List.mem_replicate.1 hv).2]; simp only; omega⟩ (fun rc2 k z hk hz => ?_) (fun rc2 z hz => ?_)
  ·obtain ⟨n, bag, full, s, w, rfl, hs, h1, h2, h3, hf0, hf1, hw, hv⟩ := hz
   have hup2 : IntKind.i64.wrap ((k : Int) + 1) = ((k + 1 : Nat) : Int) := wrapI (by omega) (by omega)
   simp only [sh10_L13, joinK]
   rw [if_pos (decide_eq_true (by omega))]
   have k16 : ∀ (b : Bool) (s : Sr), (b = true → 0 < n ∧ 0 < full) → SrOk s → ∃ z', sh10_K16 (sh10_K14 rc2) (n, bag, (i : Int), full, (k : Int), b, s, (ns, dv, ()), (), (), x, w, [], A, B, slots, bins, ()) = rc2 z' ∧
     ∃ (n bag full : Int) (s : Sr) (w : IL), z' = (n, bag, (i : Int), full, ((k + 1 : Nat) : Int), s, (ns, dv, ()), (), (), x, w, [], A, B, slots, bins, ()) ∧ SrOk s ∧ 0 ≤ n ∧ 1 ≤ bag ∧ n + bag = n0 + 1 ∧ 0 ≤ full ∧ full ≤ 100 ∧ (w.length : Int) = x.2.2.1 ∧ ∀ v ∈ w, 0 ≤ v.1 ∧ v.1 ≤ n0 := by
    intro b s hb hs
    simp only [sh10_K16, sh10_K14]
    cases b with
    | true =>
     have := hb rfl
     have hkw : k < w.length := by omega
     rw [if_pos rfl, if_pos (inR_nat hkw), if_pos (decide_eq_true (by simp only [Int.toNat_natCast]; omega)), hup2, wrapI (x := n - 1) (by omega) (by omega), wrapI (x := bag + 1) (by omega) (by omega), wrapI (x := full - 1) (by omega) (by omega)]
     refine ⟨_, rfl, n - 1, bag + 1, full - 1, s, _, rfl, hs, by omega, by omega, by omega, by omega, by omega, by rw [List.length_set]; exact hw, fun v hv' => ?_⟩
     rcases List.mem_or_eq_of_mem_set hv' with hv' | rfl
     ·exact hv v hv'
     ·simp only; omega
    | false =>
     rw [if_neg (by decide), hup2]
     exact ⟨_, rfl, n, bag, full, s, w, rfl, hs, h1, h2, h3, hf0, hf1, hw, hv⟩
   by_cases c1 : 0 < n
   ·rw [if_pos (decide_eq_true c1)]
    by_cases c2 : 0 < full
    ·obtain ⟨v, s', hv', v1, v2, k'⟩ := e18 hs 2 (by decide) (by decide)
     rw [if_pos (decide_eq_true c2), hv', Option.bind_some]
     exact k16 _ s' (fun _ => ⟨c1, c2⟩) k'
    ·rw [if_neg (by simpa using c2)]
     exact k16 false s (fun h => by cases h) hs
   ·rw [if_neg (by simpa using c1)]
    exact k16 false s (fun h => by cases h) hs
  ·obtain ⟨n, bag, full, s, w, rfl, hs, h1, h2, h3, hf0, hf1, hw, hv⟩ := hz
   simp only [sh10_L13]
   rw [if_neg (by simp only [decide_eq_true_eq]; omega)]
   exact k6 n bag s w hs h1 h2 h3 hw hv
 by_cases c5 : x.2.1 = 5
 ·have := (h.node i hi).len5 (by rw [hxe]; exact c5)
  rw [hxe] at this
  rw [if_pos (by simpa using c5), wrapI (by omega) (by omega)]
  exact loop _ (by omega) (by omega)
 ·rw [if_neg (by simpa using c5)]
  exact loop _ hx.1 (by omega)
theorem e10 {N gate : Nat} {ns : List Nd} (h : LayG N gate ns) (dv : List Dv) (n0 : Int) (h0 : 0 ≤ n0) (hn0 : n0 ≤ 1000) {s : Sr} (hs : SrOk s) : ∃ slots bins s', sp10 (s, (ns, dv, ()), n0, ()) = some ((slots, bins, ()), s', ()) ∧ SrOk s' ∧ PlG ns n0 N slots bins := by
 have hl := h.len
 have h11 := h.N11
 show ∃ slots bins s', sh10 100000 s (ns, dv, ()) n0 = some ((slots, bins, ()), s', ()) ∧ _
 unfold sh10
 simp only [joinK]
 refine iter_post (F := sh10_L2 100000 sh10_K0) (fun i z => ∃ (n bag : Int) (s : Sr) (slots bins : LL), z = (n, bag, (i : Int), s, (ns, dv, ()), (), (), [], [], slots, bins, ()) ∧ SrOk s ∧ 0 ≤ n ∧ 1 ≤ bag ∧ n + bag = n0 + 1 ∧ PlG ns n0 i slots bins)
  (fun o => ∃ slots bins s', o = some ((slots, bins, ()), s', ()) ∧ SrOk s' ∧ PlG ns n0 N slots bins) N 100000 (by omega) ⟨n0, 1, s, [], [], rfl, hs, h0, by omega, by omega, ⟨rfl, rfl, by simp, by simp⟩⟩ (fun rc i z hi hz => ?_) (fun rc z hz => ?_)
 ·obtain ⟨n, bag, s, slots, bins, rfl, hs, h1, h2, h3, hp⟩ := hz
  refine step10 h dv n0 hn0 rc n bag i (by omega) s hs [] [] slots bins h1 h2 h3 hp sh10_K0 (fun o => ∃ z', o = rc z' ∧ ∃ (n bag : Int) (s : Sr) (slots bins : LL), z' = (n, bag, ((i + 1 : Nat) : Int), s, (ns, dv, ()), (), (), [], [], slots, bins, ()) ∧ SrOk s ∧ 0 ≤ n ∧ 1 ≤ bag ∧ n + bag = n0 + 1 ∧ PlG ns n0 (i + 1) slots bins) fun n' bag' s' slots' bins' hs' h1' h2' h3' hp' => ?_
  exact ⟨_, rfl, n', bag', s', slots', bins', rfl, hs', h1', h2', h3', hp'⟩
 ·obtain ⟨n, bag, s, slots, bins, rfl, hs, h1, h2, h3, hp⟩ := hz
  simp only [sh10_L2]
  rw [if_neg (by simp only [decide_eq_true_eq]; omega)]
  exact ⟨slots, bins, s, rfl, hs, hp⟩
structure PlateG (p : Dv) : Prop where
 l0 : 0 ≤ p.1
 l9 : p.1 ≤ 9
 a1 : 1 ≤ p.2.1
 a9 : p.2.1 ≤ 999
 s0 : 0 ≤ p.2.2.1
 s9 : p.2.2.1 ≤ 999999
def numP (p : Dv) : Nat := ((p.1 * 1000 + p.2.1) * 1000000 + p.2.2.1).toNat
theorem numP_int {p : Dv} (h : PlateG p) : ((numP p : Nat) : Int) = (p.1 * 1000 + p.2.1) * 1000000 + p.2.2.1 ∧ numP p < 10000000000 := by
 have := h.l0; have := h.l9; have := h.a1; have := h.a9; have := h.s0; have := h.s9
 unfold numP
 constructor <;> omega
def sfx : Nat → Nat → IL
 | 0, _ => []
 | m + 1, n => (((48 + n / 10 ^ m % 10 : Nat) : Int), ()) :: sfx m n
theorem sfx_len : ∀ m n, (sfx m n).length = m
 | 0, _ => rfl
 | m + 1, n => by rw [sfx, List.length_cons, sfx_len m n]
theorem sfx_inj : ∀ m n n', sfx m n = sfx m n' → n % 10 ^ m = n' % 10 ^ m
 | 0, n, n', _ => by rw [Nat.pow_zero, Nat.mod_one, Nat.mod_one]
 | m + 1, n, n', h => by
  obtain ⟨h1, h2⟩ := List.cons.inj h
  have ih := sfx_inj m n n' h2
  have h1 := congrArg Prod.fst h1
  simp only at h1
  have h3 : n / 10 ^ m % 10 = n' / 10 ^ m % 10 := by omega
  have e : ∀ k : Nat, k % 10 ^ (m + 1) = 10 ^ m * (k / 10 ^ m % 10) + k % 10 ^ m := fun k => by
   rw [Nat.pow_succ, Nat.mod_mul]; omega
  rw [e n, e n', h3, ih]
theorem sfx_dig : ∀ m n, ∀ y ∈ sfx m n, 48 ≤ y.1 ∧ y.1 ≤ 57
 | m + 1, n, y, h => by
  rcases List.mem_cons.1 h with rfl | h
  ·have := Nat.mod_lt (n / 10 ^ m) (show 0 < 10 by decide)
   simp only; omega
  ·exact sfx_dig m n y h
theorem sfx_set (m n : Nat) (hm : m < 10) (d : Int) (hd : d = ((48 + n / 10 ^ m % 10 : Nat) : Int)) : (List.replicate (10 - m) ((0 : Int), ()) ++ sfx m n).set (9 - m) (d, ()) = List.replicate (10 - (m + 1)) ((0 : Int), ()) ++ sfx (m + 1) n := by
 have e : List.replicate (10 - m) ((0 : Int), ()) = List.replicate (9 - m) ((0 : Int), ()) ++ [((0 : Int), ())] := by
  rw [show 10 - m = (9 - m) + 1 by omega, List.replicate_succ']
 rw [e, List.append_assoc, List.set_append_right _ _ (by rw [List.length_replicate]; exact Nat.le_refl _), List.length_replicate, Nat.sub_self, show 10 - (m + 1) = 9 - m by omega]
 subst hd
 rfl
def fmtP (p : Dv) : List UInt8 := toBytes (sfx 10 (numP p))
theorem fmtP_len (p : Dv) : (fmtP p).length = 10 := by
 have h : ∀ l : IL, (toBytes l).length = l.length := fun l => List.length_map ..
 exact (h _).trans (sfx_len _ _)
theorem fmtP_ne (p : Dv) : fmtP p ≠ [] := fun h => by have := fmtP_len p; rw [h] at this; cases this
theorem toBytes_inj : ∀ (a b : IL), (∀ y ∈ a, 0 ≤ y.1 ∧ y.1 ≤ 255) → (∀ y ∈ b, 0 ≤ y.1 ∧ y.1 ≤ 255) → toBytes a = toBytes b → a = b
 | [], [], _, _, _ => rfl
 | [], _ :: _, _, _, h => by cases h
 | _ :: _, [], _, _, h => by cases h
 | x :: a, y :: b, ha, hb, h => by
  have h : UInt8.ofNat x.1.toNat :: toBytes a = UInt8.ofNat y.1.toNat :: toBytes b := h
  obtain ⟨h1, h2⟩ := List.cons.inj h
  have h3 := congrArg UInt8.toNat h1
  rw [UInt8.toNat_ofNat', UInt8.toNat_ofNat'] at h3
  have := ha x (List.mem_cons_self ..)
  have := hb y (List.mem_cons_self ..)
  rw [toBytes_inj a b (fun z hz => ha z (List.mem_cons_of_mem _ hz)) (fun z hz => hb z (List.mem_cons_of_mem _ hz)) h2]
  have : x.1 = y.1 := by omega
  rw [show x = y from Prod.ext this rfl]
theorem fmtP_inj {p q : Dv} (hp : PlateG p) (hq : PlateG q) (h : fmtP p = fmtP q) : p = q := by
 have h1 := toBytes_inj _ _ (fun y hy => by have := sfx_dig _ _ y hy; omega) (fun y hy => by have := sfx_dig _ _ y hy; omega) h
 have h2 := sfx_inj 10 _ _ h1
 obtain ⟨a1, a2⟩ := numP_int hp
 obtain ⟨b1, b2⟩ := numP_int hq
 rw [Nat.mod_eq_of_lt (by omega), Nat.mod_eq_of_lt (by omega)] at h2
 have := hp.l0; have := hp.l9; have := hp.a1; have := hp.a9; have := hp.s0; have := hp.s9
 have := hq.l0; have := hq.l9; have := hq.a1; have := hq.a9; have := hq.s0; have := hq.s9
 rw [dv_eq]
 refine ⟨?_, ?_, ?_⟩ <;> omega
theorem dig8 (n : Nat) (d : Nat) (hd : d < 10) : IntKind.u8.wrap (48 + IntKind.u8.wrap (d : Int)) = ((48 + d : Nat) : Int) := by
 have w : ∀ x : Int, IntKind.u8.wrap x = x % 256 := fun x => by simp [IntKind.wrap, IntKind.bits, IntKind.signed]
 rw [w, w]; omega
theorem dig8' (d : Nat) (hd : d < 10) : IntKind.u8.wrap (48 + (d : Int)) = ((48 + d : Nat) : Int) := by
 have w : ∀ x : Int, IntKind.u8.wrap x = x % 256 := fun x => by simp [IntKind.wrap, IntKind.bits, IntKind.signed]
 rw [w]; omega
theorem divs (n m : Nat) : n / 10 ^ m / 10 = n / 10 ^ (m + 1) := by rw [Nat.pow_succ, Nat.div_div_eq_div_mul]
theorem rep_len (m n : Nat) (hm : m ≤ 10) : (List.replicate (10 - m) ((0 : Int), ()) ++ sfx m n).length = 10 := by rw [List.length_append, List.length_replicate, sfx_len]; omega
theorem e73 {p : Dv} (h : PlateG p) : sp73 (p, ()) = some (true, ()) := by
 have := h.l0; have := h.l9; have := h.a1; have := h.a9; have := h.s0; have := h.s9
 show sh73 0 p = _
 unfold sh73
 simp only [joinK, sh73_K0]
 rw [if_pos (by simpa), if_pos (by simpa), if_pos (by simpa), if_pos (by simpa), if_pos (by simpa), decide_eq_true (by omega)]
theorem e40 {p : Dv} (h : PlateG p) : sp40 (p, ()) = some (true, ()) := by
 have := h.l0; have := h.l9; have := h.a1; have := h.a9; have := h.s0; have := h.s9
 show sh40 0 p = _
 unfold sh40
 simp only [joinK, sh40_K0]
 rw [if_pos (by simpa), if_pos (by simpa), if_pos (by simpa), if_pos (by simpa), if_pos (by simpa), decide_eq_true (by omega)]
theorem wnum {p : Dv} (h : PlateG p) : IntKind.i64.wrap (IntKind.i64.wrap (IntKind.i64.wrap (IntKind.i64.wrap (p.1 * 1000) + p.2.1) * 1000000) + p.2.2.1) = ((numP p : Nat) : Int) := by
 have := h.l0; have := h.l9; have := h.a1; have := h.a9; have := h.s0; have := h.s9
 rw [wrapI (x := p.1 * 1000) (by omega) (by omega), wrapI (x := p.1 * 1000 + p.2.1) (by omega) (by omega), wrapI (x := (p.1 * 1000 + p.2.1) * 1000000) (by omega) (by omega), wrapI (by omega) (by omega), (numP_int h).1]
theorem e52 {p : Dv} (h : PlateG p) : sp52 (p, ()) = some (fmtP p, ()) := by
 have hn := (numP_int h).2
 show sh52 100000 p = _
 unfold sh52
 rw [e73 h, Option.bind_some]
 simp only
 have h74 : sp74 (p, ()) = some (((numP p : Nat) : Int), ()) := by
  show sh74 0 p = _
  unfold sh74; rw [wnum h]
 rw [if_neg (by decide), h74, Option.bind_some]
 simp only [joinK]
 unfold fmtP
 generalize numP p = n at hn
 have hfin : sh52_K2 (sfx 10 n, ()) = some (toBytes (sfx 10 n), ()) := by
  simp only [sh52_K2]
  rw [if_pos (decide_eq_true (sfx_len 10 n))]
 have key : iter 100000 (sh52_L4 sh52_K2) ((fun m : Nat => (((n / 10 ^ m : Nat) : Int), (m : Int), List.replicate (10 - m) ((0 : Int), ()) ++ sfx m n, ())) 0) = some (toBytes (sfx 10 n), ()) := by
  refine iter_count (F := sh52_L4 sh52_K2) (fun m : Nat => (((n / 10 ^ m : Nat) : Int), (m : Int), List.replicate (10 - m) ((0 : Int), ()) ++ sfx m n, ())) 10 100000 (by decide) (fun rc m hm => ?_) (fun rc => ?_)
  ·have hl := rep_len m n (by omega)
   have w9 : IntKind.i64.wrap (9 - (m : Int)) = ((9 - m : Nat) : Int) := by rw [wrapI (by omega) (by omega)]; omega
   have hdiv : (((n / 10 ^ m : Nat) : Int)).tdiv 10 = ((n / 10 ^ (m + 1) : Nat) : Int) := by
    rw [← divs]; exact (Int.ofNat_tdiv _ 10).symm
   have hmod : (((n / 10 ^ m : Nat) : Int)).tmod 10 = ((n / 10 ^ m % 10 : Nat) : Int) := (Int.ofNat_tmod _ 10).symm
   have hle : n / 10 ^ (m + 1) ≤ n := Nat.div_le_self _ _
   have hw1 : IntKind.i64.wrap ((n / 10 ^ (m + 1) : Nat) : Int) = ((n / 10 ^ (m + 1) : Nat) : Int) := by
    generalize n / 10 ^ (m + 1) = q at hle
    exact wrapI (by omega) (by omega)
   simp only [sh52_L4]
   rw [if_pos (decide_eq_true (by omega)), if_pos (by decide), w9, if_pos (inR_nat (by omega)), if_pos (decide_eq_true (by simp only [Int.toNat_natCast, hl]; omega)), if_pos (by decide), hdiv, hmod, hw1, up1' hm, dig8 n _ (Nat.mod_lt _ (by decide))]
   simp only [Int.toNat_natCast]
   rw [sfx_set m n hm _ rfl]
  ·simp only [sh52_L4]
   rw [if_neg (by simp)]
   exact hfin
 have e0 : (fun m : Nat => (((n / 10 ^ m : Nat) : Int), (m : Int), List.replicate (10 - m) ((0 : Int), ()) ++ sfx m n, ())) 0 = ((n : Int), (0 : Int), List.replicate 10 ((0 : Int), ()), ()) := by simp [sfx]
 rw [e0] at key
 exact key
theorem e17 {p : Dv} (h : PlateG p) : sp17 (p, ()) = some (fmtP p, ()) := by
 have hn := (numP_int h).2
 show sh17 0 p = _
 unfold sh17
 rw [e40 h, Option.bind_some]
 simp only
 have h42 : sp42 (p, ()) = some (((numP p : Nat) : Int), ()) := by
  show sh42 0 p = _
  unfold sh42; rw [wnum h]
 rw [if_neg (by decide), h42, Option.bind_some]
 simp only
 unfold fmtP
 generalize numP p = n at hn
 have h41 : sp41 ((n : Int), 10, ()) = some (toBytes (sfx 10 n), ()) := by
  show sh41 100000 (n : Int) 10 = _
  unfold sh41
  rw [if_pos (by decide), if_pos (by decide), if_pos (by decide), if_pos (by decide)]
  simp only [joinK]
  have key : iter 100000 (sh41_L2 sh41_K0) ((fun m : Nat => (((n / 10 ^ m : Nat) : Int), 9 - (m : Int), List.replicate (10 - m) ((0 : Int), ()) ++ sfx m n, ())) 0) = some (toBytes (sfx 10 n), ()) := by
   refine iter_count (F := sh41_L2 sh41_K0) (fun m : Nat => (((n / 10 ^ m : Nat) : Int), 9 - (m : Int), List.replicate (10 - m) ((0 : Int), ()) ++ sfx m n, ())) 10 100000 (by decide) (fun rc m hm => ?_) (fun rc => ?_)
   ·have hl := rep_len m n (by omega)
    have w9 : 9 - (m : Int) = ((9 - m : Nat) : Int) := by omega
    have hdiv : (((n / 10 ^ m : Nat) : Int)).tdiv 10 = ((n / 10 ^ (m + 1) : Nat) : Int) := by
     rw [← divs]; exact (Int.ofNat_tdiv _ 10).symm
    have hmod : (((n / 10 ^ m : Nat) : Int)).tmod 10 = ((n / 10 ^ m % 10 : Nat) : Int) := (Int.ofNat_tmod _ 10).symm
    have hle : n / 10 ^ (m + 1) ≤ n := Nat.div_le_self _ _
    have hw1 : IntKind.i64.wrap ((n / 10 ^ (m + 1) : Nat) : Int) = ((n / 10 ^ (m + 1) : Nat) : Int) := by
     generalize n / 10 ^ (m + 1) = q at hle
     exact wrapI (by omega) (by omega)
    have hlt : n / 10 ^ m % 10 < 10 := Nat.mod_lt _ (by decide)
    simp only [sh41_L2]
    rw [if_pos (decide_eq_true (by omega)), if_pos (by decide), w9, if_pos (inR_nat (by omega)), if_pos (decide_eq_true (by simp only [Int.toNat_natCast, hl]; omega)), if_pos (by decide), hdiv, hmod, hw1, wrapI (x := 48 + ((n / 10 ^ m % 10 : Nat) : Int)) (by omega) (by omega), wrapI (x := ((9 - m : Nat) : Int) - 1) (by omega) (by omega), dig8' _ hlt]
    simp only [Int.toNat_natCast]
    rw [sfx_set m n hm _ rfl, show ((9 - m : Nat) : Int) - 1 = 9 - ((m + 1 : Nat) : Int) by omega]
   ·simp only [sh41_L2]
    rw [if_neg (by simp)]
    simp [sh41_K0]
  have e0 : (fun m : Nat => (((n / 10 ^ m : Nat) : Int), 9 - (m : Int), List.replicate (10 - m) ((0 : Int), ()) ++ sfx m n, ())) 0 = ((n : Int), IntKind.i64.wrap (10 - 1), List.replicate (Int.toNat 10) ((0 : Int), ()), ()) := by
   rw [wrapI (by decide) (by decide)]; simp [sfx]
  rw [e0] at key
  exact key
 rw [h41]; rfl
theorem e28 {N gate : Nat} {ns : List Nd} {ds : List Dv} (h : LayG N gate ns) {n0 : Int} {slots bins : LL} (hp : PlG ns n0 N slots bins) (od : IL) : sp28 ((ns, ds, od, ()), (slots, bins, ()), ()) = some (true, (ns, ds, od, ()), ()) := by
 have hl := h.len
 have h11 := h.N11
 have h1 := hp.ls
 have h2 := hp.lb
 show sh28 100000 (ns, ds, od, ()) (slots, bins, ()) = _
 unfold sh28
 simp only [joinK]
 rw [if_neg (by simp; omega), show ((bins.length : Int) != (ns.length : Int)) = false by simp; omega]
 simp only [sh28_K0, joinK]
 rw [if_neg (by decide)]
 refine iter_count (F := sh28_L3 sh28_K1) (fun k : Nat => (ns, (ns.length : Int), (k : Int), (ns, ds, od, ()), (slots, bins, ()), ())) ns.length 100000 (by omega) (fun rc k hk => ?_) (fun rc => ?_)
 ·have hks : k < slots.length := by omega
  have := (hp.sl k hks hk).1
  simp only [sh28_L3]
  rw [if_pos (by simpa using hk), if_pos (inR_nat hk), if_pos (inR_nat hks), lAt_nat _ _ _ hks, lAt_nat _ _ _ hk, if_neg (by simpa using this), up1' hk]
 ·simp only [sh28_L3]
  rw [if_neg (by simp)]; rfl
structure NumG (l : List Dv) : Prop where
 len : l.length = 40
 ok : ∀ p ∈ l, PlateG p
 nd : l.Nodup
structure NumP (l : List Dv) (i : Nat) : Prop where
 len : l.length = 40
 ok : ∀ p ∈ l, PlateG p
 lo : ∀ (j : Nat) (h : j < l.length), l[j].1 = 0 ∨ (j < i ∧ l[j].1 = 1 ∧ l[j].2.2.1 = j)
 nd : ∀ (a b : Nat) (ha : a < b) (hb : b < i) (h : b < l.length), l[a] ≠ l[b]
structure NumQ (l : List Dv) (i k : Nat) : Prop where
 len : l.length = 40
 ok : ∀ p ∈ l, PlateG p
 lo : ∀ (j : Nat) (h : j < l.length), l[j].1 = 0 ∨ (j ≤ i ∧ l[j].1 = 1 ∧ l[j].2.2.1 = j)
 nd : ∀ (a b : Nat) (ha : a < b) (hb : b < i) (h : b < l.length), l[a] ≠ l[b]
 row : ∀ (a : Nat) (ha : a < k) (hk : k ≤ i) (h : i < l.length), l[a] ≠ l[i]
theorem e11 {s : Sr} (hs : SrOk s) : ∃ l s', sp11 (s, ()) = some (l, s', ()) ∧ SrOk s' ∧ NumG l := by
 obtain ⟨base, s1, h1, b1, b2, k1⟩ := e18 hs 3 (by decide) (by decide)
 show ∃ l s', sh11 100000 s = some (l, s', ()) ∧ _
 unfold sh11
 rw [h1, Option.bind_some]
 simp only [joinK]
 refine iter_post (F := sh11_L11 (sh11_K1 100000)) (fun q z => ∃ (s' : Sr) (l : List Dv), z = (base, (q : Int), s', l, ()) ∧ SrOk s' ∧ l.length = q ∧ ∀ p ∈ l, PlateG p ∧ p.1 = 0) (fun o => ∃ l s', o = some (l, s', ()) ∧ SrOk s' ∧ NumG l) 40 100000 (by decide) ⟨s1, [], rfl, k1, rfl, by simp⟩ (fun rc q z hq hz => ?_) (fun rc z hz => ?_)
 ·obtain ⟨s2, l, rfl, k2, l2, o2⟩ := hz
  obtain ⟨v, s3, hv, v1, v2, k3⟩ := e18 k2 2 (by decide) (by decide)
  simp only [sh11_L11]
  rw [if_pos (decide_eq_true (by omega)), hv, Option.bind_some]
  simp only
  have hv' : v = 0 ∨ v = 1 := by omega
  have hm : (q : Int) * (1 + v) ≤ 78 ∧ 0 ≤ (q : Int) * (1 + v) := by rcases hv' with rfl | rfl <;> omega
  rw [if_pos (dlim (by omega)), if_pos (dlim (by omega)), wrapI (x := (q : Int) + 1) (by omega) (by omega), wrapI (x := 117 + base) (by omega) (by omega), wrapI (x := 1 + v) (by omega) (by omega), wrapI (x := (q : Int) * (1 + v)) (by omega) (by omega)]
  refine ⟨_, rfl, s3, _, rfl, k3, by simp [l2], fun p hp => ?_⟩
  rcases List.mem_append.1 hp with hp | hp
  ·exact o2 p hp
  ·rw [List.mem_singleton.1 hp]
   exact ⟨⟨by simp, by simp, by simp only; omega, by simp only; omega, hm.2, by simp only; omega⟩, rfl⟩
 ·obtain ⟨s2, l, rfl, k2, l2, o2⟩ := hz
  simp only [sh11_L11]
  rw [if_neg (by simp)]
  simp only [sh11_K1, joinK]
  refine iter_post (F := sh11_L4 100000 sh11_K2) (fun i z => ∃ l : List Dv, z = ((i : Int), s2, l, ()) ∧ NumP l i) (fun o => ∃ l s', o = some (l, s', ()) ∧ SrOk s' ∧ NumG l) 40 100000 (by decide)
   ⟨l, rfl, ⟨l2, fun p hp => (o2 p hp).1, fun j h => .inl (o2 _ (List.getElem_mem h)).2, fun a b ha hb => by omega⟩⟩ (fun rc2 i z hi hz => ?_) (fun rc2 z hz => ?_)
  ·obtain ⟨l, rfl, hP⟩ := hz
   have hl := hP.len
   have hil : i < l.length := by omega
   simp only [sh11_L4, joinK]
   rw [if_pos (by simpa using hil)]
   refine iter_post (F := sh11_L7 (sh11_K5 rc2)) (fun k z => ∃ l : List Dv, z = ((i : Int), (k : Int), s2, l, ()) ∧ NumQ l i k) (fun o => ∃ z', o = rc2 z' ∧ ∃ l : List Dv, z' = (((i + 1 : Nat) : Int), s2, l, ()) ∧ NumP l (i + 1)) i 100000 (by omega)
    ⟨l, rfl, ⟨hP.len, hP.ok, fun j h => (hP.lo j h).imp id fun ⟨a, b, c⟩ => ⟨by omega, b, c⟩, hP.nd, fun a ha => absurd ha (Nat.not_lt_zero _)⟩⟩ (fun rc3 k z hk hz => ?_) (fun rc3 z hz => ?_)
   ·obtain ⟨l, rfl, hQ⟩ := hz
    have hl := hQ.len
    have hil : i < l.length := by omega
    have hkl : k < l.length := by omega
    have gi : l.getD i (0, 0, 0, ()) = l[i] := by rw [List.getD, List.getElem?_eq_getElem hil]; rfl
    have gk : l.getD k (0, 0, 0, ()) = l[k] := by rw [List.getD, List.getElem?_eq_getElem hkl]; rfl
    simp only [sh11_L7, joinK, sh11_K8]
    rw [if_pos (decide_eq_true (by omega)), if_pos (inR_nat hkl), if_pos (decide_eq_true (by simp only [Int.toNat_natCast]; omega)), if_pos (inR_nat hil), if_pos (decide_eq_true (by simp only [Int.toNat_natCast]; omega)), up1' hk]
    simp only [Int.toNat_natCast, gi, gk, List.length_set]
    by_cases he : l[k] = l[i]
    ·rw [if_pos (by rw [he]; simp), if_pos (inR_nat hil), if_pos (decide_eq_true (by omega)), if_pos (inR_nat hil), if_pos (decide_eq_true (by omega))]
     have gs : (l.set i (1, l[i].2)).getD i (0, 0, 0, ()) = (1, l[i].2) := by
      rw [List.getD, List.getElem?_set_self (by omega)]; rfl
     rw [gs, List.set_set]
     simp only
     have hpi := hQ.ok l[i] (List.getElem_mem hil)
     refine ⟨_, rfl, _, rfl, ⟨by rw [List.length_set]; exact hl, fun p hp => ?_, fun j hj => ?_, fun a b ha hb hbl => ?_, fun a ha _ hil' => ?_⟩⟩
     ·rcases List.mem_or_eq_of_mem_set hp with hp | rfl
      ·exact hQ.ok p hp
      ·exact ⟨show (0 : Int) ≤ 1 by decide, show (1 : Int) ≤ 9 by decide, hpi.a1, hpi.a9, by simp only; omega, by simp only; omega⟩
     ·rw [List.length_set] at hj
      rw [List.getElem_set]
      split
      ·rename_i e; subst e; exact .inr ⟨Nat.le_refl _, rfl, rfl⟩
      ·exact hQ.lo j hj
     ·rw [List.length_set] at hbl
      rw [List.getElem_set, List.getElem_set, if_neg (by omega), if_neg (by omega)]
      exact hQ.nd a b ha hb hbl
     ·rw [List.getElem_set_self, List.getElem_set, if_neg (by omega)]
      intro e
      have e1 := congrArg (fun p : Dv => p.1) e
      have e2 := congrArg (fun p : Dv => p.2.2.1) e
      simp only at e1 e2
      rcases hQ.lo a (by omega) with c | ⟨_, _, c⟩
      ·omega
      ·omega
    ·rw [if_neg (fun e => ?_)]
     ·refine ⟨_, rfl, l, rfl, ⟨hl, hQ.ok, hQ.lo, hQ.nd, fun a ha hk' hil' => ?_⟩⟩
      by_cases hak : a = k
      ·subst hak; exact he
      ·exact hQ.row a (by omega) (by omega) hil'
     ·simp only [Bool.and_eq_true, beq_iff_eq] at e
      exact he ((dv_eq _ _).2 ⟨e.1, e.2.1, e.2.2.1⟩)
   ·obtain ⟨l, rfl, hQ⟩ := hz
    have hl := hQ.len
    simp only [sh11_L7]
    rw [if_neg (by simp)]
    simp only [sh11_K5, up1' hi]
    refine ⟨_, rfl, l, rfl, ⟨hl, hQ.ok, fun j h => (hQ.lo j h).imp id fun ⟨a, b, c⟩ => ⟨by omega, b, c⟩, fun a b ha hb hbl => ?_⟩⟩
    by_cases hbi : b = i
    ·subst hbi; exact hQ.row a ha (Nat.le_refl _) hbl
    ·exact hQ.nd a b ha (by omega) hbl
  ·obtain ⟨l, rfl, hP⟩ := hz
   have hl := hP.len
   simp only [sh11_L4]
   rw [if_neg (by simp [hl])]
   exact ⟨l, s2, rfl, k2, ⟨hl, hP.ok, List.pairwise_iff_getElem.2 fun a b ha hb hab => hP.nd a b hab (by omega) hb⟩⟩
structure Ctx (N gate : Nat) (ns : List Nd) (ds : List Dv) (slots bins : LL) (pl : List Dv) : Prop where
 lay : LayG N gate ns
 dev : DevG ns ds
 pla : PlG ns 8 N slots bins
 num : NumG pl
def bagV (ds : List Dv) (slots : LL) (d : Nat) : Int :=
 (lAt (0, ()) (lAt ([], ()) slots (ds.getD d (0, 0, 0, ())).2.1).1 (ds.getD d (0, 0, 0, ())).2.2.1).1
def textV (ds : List Dv) (slots : LL) (pl : List Dv) (d : Nat) : List UInt8 := if bagV ds slots d = 0 then [] else fmtP (pl.getD (bagV ds slots d - 1).toNat (0, 0, 0, ()))
def viewV (ds : List Dv) (slots : LL) (pl : List Dv) (d : Nat) : VW := ((d : Int), (ds.getD d (0, 0, 0, ())).1, bagV ds slots d, textV ds slots pl d, ())
section
variable {N gate : Nat} {ns : List Nd} {ds : List Dv} {slots bins : LL} {pl : List Dv}
theorem ctx_dev (c : Ctx N gate ns ds slots bins pl) {d : Nat} (hd : d < ds.length) :
  ∃ (n w : Nat) (hn : n < slots.length) (hw : w < slots[n].1.length), ds[d].2.1 = (n : Int) ∧ ds[d].2.2.1 = (w : Int) ∧ bagV ds slots d = (slots[n].1[w]).1 ∧ 0 ≤ bagV ds slots d ∧ bagV ds slots d ≤ 8 ∧ (ds[d].1 = 1 ∨ ds[d].1 = 2) := by
 obtain ⟨o1, o2, o3, o4, o5⟩ := c.dev.ok ds[d] (List.getElem_mem hd)
 have hl := c.lay.len
 have hs := c.pla.ls
 have gd : ds.getD d (0, 0, 0, ()) = ds[d] := by rw [List.getD, List.getElem?_eq_getElem hd]; rfl
 have hbv : bagV ds slots d = (lAt (0, ()) (lAt ([], ()) slots ds[d].2.1).1 ds[d].2.2.1).1 := by unfold bagV; rw [gd]
 generalize ds[d].2.1 = a at *
 generalize ds[d].2.2.1 = b at *
 obtain ⟨n, rfl⟩ : ∃ n : Nat, a = n := ⟨a.toNat, by omega⟩
 obtain ⟨w, rfl⟩ : ∃ w : Nat, b = w := ⟨b.toNat, by omega⟩
 have hn : n < slots.length := by omega
 have hnn : n < ns.length := by omega
 have hsl := c.pla.sl n hn hnn
 rw [lAt_nat _ _ _ hnn] at o5
 have hw : w < slots[n].1.length := by omega
 rw [lAt_nat _ _ _ hn, lAt_nat _ _ _ hw] at hbv
 have := hsl.2 _ (List.getElem_mem hw)
 exact ⟨n, w, hn, hw, rfl, rfl, hbv, by omega, by omega, o1⟩
theorem ctx_plate (c : Ctx N gate ns ds slots bins pl) {d : Nat} (hd : d < ds.length) (hb : bagV ds slots d ≠ 0) :
  ∃ (h : (bagV ds slots d - 1).toNat < pl.length), PlateG pl[(bagV ds slots d - 1).toNat] ∧ textV ds slots pl d = fmtP pl[(bagV ds slots d - 1).toNat] ∧ lAt (0, 0, 0, ()) pl (bagV ds slots d - 1) = pl[(bagV ds slots d - 1).toNat] := by
 obtain ⟨n, w, hn, hw, e1, e2, eb, b0, b8, _⟩ := ctx_dev c hd
 have hp := c.num.len
 have h : (bagV ds slots d - 1).toNat < pl.length := by omega
 refine ⟨h, c.num.ok _ (List.getElem_mem h), ?_, ?_⟩
 ·unfold textV
  rw [if_neg hb, List.getD, List.getElem?_eq_getElem h]; rfl
 ·show pl.getD _ _ = _
  rw [List.getD, List.getElem?_eq_getElem h]; rfl
theorem getDev {d : Nat} (hd : d < ds.length) : ds.getD d (0, 0, 0, ()) = ds[d] := by rw [List.getD, List.getElem?_eq_getElem hd]; rfl
theorem e30 (c : Ctx N gate ns ds slots bins pl) {d : Nat} (hd : d < ds.length) : sp30 ((ns, ds, ()), (slots, bins, ()), pl, (d : Int), ()) = some (viewV ds slots pl d, ()) := by
 obtain ⟨n, w, hn, hw, e1, e2, eb, b0, b8, _⟩ := ctx_dev c hd
 have hp := c.num.len
 show sh30 0 (ns, ds, ()) (slots, bins, ()) pl (d : Int) = _
 unfold sh30
 simp only
 rw [if_pos (inR_nat hd), lAt_nat _ _ _ hd, e1, if_pos (inR_nat hn), lAt_nat _ _ _ hn, e2, if_pos (inR_nat hw), lAt_nat _ _ _ hw, ← eb]
 simp only [joinK, sh30_K0]
 unfold viewV
 rw [getDev hd]
 by_cases h0 : bagV ds slots d = 0
 ·rw [if_neg (by rw [h0]; decide)]
  simp only [sh30_K2]
  rw [if_neg (by decide)]
  unfold textV; rw [if_pos h0]; rfl
 ·obtain ⟨hpl, pg, ht, hlat⟩ := ctx_plate c hd h0
  rw [if_pos (decide_eq_true (by omega)), decide_eq_true (by omega)]
  simp only [sh30_K2]
  rw [if_pos trivial, wrapI (by omega) (by omega), if_pos (inR_int (by omega) (by omega)), hlat, e52 pg, Option.bind_some, ht]
  rfl
theorem e34 (v : VW) : sp34 (v, ()) = some (rightV v, ()) := by
 obtain ⟨a, k, b, t, ⟨⟩⟩ := v
 show sh34 0 (a, k, b, t, ()) = _
 unfold sh34 rightV
 simp only [joinK, sh34_K0]
 by_cases h2 : k = 2
 ·subst h2
  rw [if_pos (by decide)]
  simp only [sh34_K2]
  by_cases hb : b = 0
  ·subst hb; rfl
  ·have : (b != 0) = true := by simpa using hb
   rw [this]; rfl
 ·have hk : (k == 2) = false := by simpa using h2
  rw [hk, if_neg (by decide)]
  simp only [sh34_K2]
  rfl
theorem e31 (v : VW) (k : Int) : sp31 (v, k, ()) = some (mayV v k, ()) := by
 obtain ⟨a, q, b, t, ⟨⟩⟩ := v
 show sh31 0 (a, q, b, t, ()) k = _
 unfold sh31 mayV
 by_cases h3 : k = 3
 ·subst h3; rfl
 rw [if_neg (by simpa using h3), if_neg h3]
 by_cases h4 : k = 4
 ·subst h4
  rw [if_pos (by decide), if_pos rfl]
  simp only [joinK, sh31_K0]
  cases q == 1 <;> rfl
 rw [if_neg (by simpa using h4), if_neg h4]
 simp only [joinK, sh31_K2]
 cases q == 2 <;> cases b != 0 <;> cases t == [] <;> rfl
theorem ofB_len (t : List UInt8) : (ofBytes t).length = t.length := List.length_map ..
theorem e35 (v : VW) (k : Int) (w : Nat) (hk : k = 3 ∨ k = 4 ∨ (w < v.2.2.2.1.length ∧ v.2.2.2.1.length ≤ 100)) : sp35 (v, k, (w : Int), ()) = some (withV v k w, ()) := by
 show sh35 0 v k (w : Int) = _
 unfold sh35 withV
 rw [e34, Option.bind_some]
 by_cases h3 : k = 3
 ·subst h3; rfl
 rw [if_neg (by simpa using h3), if_neg h3]
 by_cases h4 : k = 4
 ·subst h4; rfl
 rw [if_neg (by simpa using h4), if_neg h4]
 obtain ⟨hw, hlen⟩ : w < v.2.2.2.1.length ∧ v.2.2.2.1.length ≤ 100 := by
  rcases hk with h | h | h
  ·exact absurd h h3
  ·exact absurd h h4
  ·exact h
 have hl := ofB_len v.2.2.2.1
 rw [if_pos (dlim (by omega))]
 simp only [joinK, sh35_K1, Int.toNat_natCast]
 by_cases h5 : k = 5
 ·rw [if_pos (by simpa using h5), if_pos h5, if_pos (inR_nat (by omega)), if_pos (decide_eq_true (by omega))]
  rfl
 ·rw [if_neg (by simpa using h5), if_neg h5, if_pos (inR_nat (by omega)), if_pos (decide_eq_true (by omega)), if_pos (by decide), if_pos (inR_nat (by omega)), if_pos (decide_eq_true (by omega))]
  rfl
theorem e54 (c : Ctx N gate ns ds slots bins pl) {d : Nat} (hd : d < ds.length) : sp54 ((ns, ds, ()), (slots, bins, ()), (d : Int), ()) = some (bagV ds slots d, ()) := by
 obtain ⟨n, w, hn, hw, e1, e2, eb, b0, b8, _⟩ := ctx_dev c hd
 show sh54 0 (ns, ds, ()) (slots, bins, ()) (d : Int) = _
 unfold sh54
 simp only
 rw [if_pos (inR_nat hd), lAt_nat _ _ _ hd, e1, if_pos (inR_nat hn), lAt_nat _ _ _ hn, if_pos (inR_nat hd), e2, if_pos (inR_nat hw), lAt_nat _ _ _ hw, eb]
theorem e38 (c : Ctx N gate ns ds slots bins pl) {d : Nat} (hd : d < ds.length) : sp38 ((ns, ds, ()), (slots, bins, ()), pl, (d : Int), ()) = some (rightV (viewV ds slots pl d), ()) := by
 obtain ⟨n, w, hn, hw, e1, e2, eb, b0, b8, _⟩ := ctx_dev c hd
 have hp := c.num.len
 show sh38 0 (ns, ds, ()) (slots, bins, ()) pl (d : Int) = _
 unfold sh38
 simp only [joinK, sh38_K0]
 rw [e54 c hd, Option.bind_some]
 simp only
 unfold rightV viewV
 rw [getDev hd]
 simp only
 by_cases h0 : bagV ds slots d = 0
 ·rw [h0, if_neg (by decide)]; simp
 ·have hb : (bagV ds slots d != 0) = true := by simpa using h0
  obtain ⟨hpl, pg, ht, hlat⟩ := ctx_plate c hd h0
  rw [hb, if_pos rfl, if_pos (inR_nat hd), lAt_nat _ _ _ hd]
  cases ds[d].1 == 2 with
  | true =>
   rw [if_pos rfl, wrapI (by omega) (by omega), if_pos (inR_int (by omega) (by omega)), hlat, e17 pg, Option.bind_some, ht]; rfl
  | false => rfl
theorem e36 (f : Dv) (hk : 3 ≤ f.1 ∧ f.1 ≤ 6) : sp36 (f, ()) = some (decide (0 ≤ f.2.2.1) && decide (f.2.2.1 ≤ (mostV f.1 : Int)), ()) := by
 show sh36 0 f = _
 unfold sh36 mostV
 simp only [joinK]
 have k36 : ∀ b : Bool, sh36_K0 (b, f, ()) = some (if b = true then decide (0 ≤ f.2.2.1) && decide (f.2.2.1 ≤ 9) else f.2.2.1 == 0, ()) := by
  intro b
  simp only [sh36_K0, joinK, sh36_K1]
  cases b with
  | true =>
   rw [if_pos rfl, if_pos rfl]
   by_cases h : 0 ≤ f.2.2.1
   ·rw [if_pos (by simpa using h), decide_eq_true h]; simp
   ·rw [if_neg (by simpa using h), decide_eq_false h]; rfl
  | false => rfl
 have hz : (f.2.2.1 == 0) = (decide (0 ≤ f.2.2.1) && decide (f.2.2.1 ≤ 0)) := by
  rw [Bool.eq_iff_iff]; simp only [beq_iff_eq, Bool.and_eq_true, decide_eq_true_eq]; omega
 by_cases h5 : f.1 = 5
 ·rw [if_pos (by simpa using h5), k36, if_pos rfl, if_pos (.inl h5)]; rfl
 ·rw [if_neg (by simpa using h5), k36]
  by_cases h6 : f.1 = 6
  ·rw [if_pos (by simpa using h6), if_pos (.inr h6)]; rfl
  ·rw [if_neg (by simpa using h6), if_neg (by omega), hz]; rfl
theorem may_text (c : Ctx N gate ns ds slots bins pl) {d : Nat} (hd : d < ds.length) : ((viewV ds slots pl d).2.2.2.1 = [] ↔ bagV ds slots d = 0) ∧ ((viewV ds slots pl d).2.2.2.1 = [] ∨ (viewV ds slots pl d).2.2.2.1.length = 10) := by
 by_cases h0 : bagV ds slots d = 0
 ·have : (viewV ds slots pl d).2.2.2.1 = [] := by show textV ds slots pl d = []; unfold textV; rw [if_pos h0]
  exact ⟨⟨fun _ => h0, fun _ => this⟩, .inl this⟩
 ·obtain ⟨hpl, pg, ht, hlat⟩ := ctx_plate c hd h0
  have e : (viewV ds slots pl d).2.2.2.1 = fmtP pl[(bagV ds slots d - 1).toNat] := ht
  rw [e]
  exact ⟨⟨fun h => absurd h (fmtP_ne _), fun h => absurd h h0⟩, .inr (fmtP_len _)⟩
theorem e37 (c : Ctx N gate ns ds slots bins pl) (f : Dv) {d : Nat} (hd : d < ds.length) (hf : f.2.1 = (d : Int)) : sp37 ((ns, ds, ()), (slots, bins, ()), f, ()) = some (mayV (viewV ds slots pl d) f.1, ()) := by
 obtain ⟨n, w, hn, hw, e1, e2, eb, b0, b8, o1⟩ := ctx_dev c hd
 have ht := (may_text c hd).1
 show sh37 0 (ns, ds, ()) (slots, bins, ()) f = _
 unfold sh37 mayV
 rw [hf, e54 c hd, Option.bind_some]
 simp only
 rw [if_pos (inR_nat hd), lAt_nat _ _ _ hd]
 have ek : (viewV ds slots pl d).2.1 = ds[d].1 := by show (ds.getD d (0, 0, 0, ())).1 = _; rw [getDev hd]
 have eb' : (viewV ds slots pl d).2.2.1 = bagV ds slots d := rfl
 rw [ek, eb']
 by_cases h3 : f.1 = 3
 ·rw [if_pos (by simpa using h3), if_pos h3]
 rw [if_neg (by simpa using h3), if_neg h3]
 simp only [joinK, sh37_K1, sh37_K3]
 by_cases h4 : f.1 = 4
 ·rw [if_pos (by simpa using h4), if_pos h4]
  by_cases h0 : bagV ds slots d = 0
  ·rw [h0]
   rcases o1 with o | o <;> rw [o] <;> rfl
  ·have hb : (bagV ds slots d != 0) = true := by simpa using h0
   have hb2 : (bagV ds slots d == 0) = false := by simpa using h0
   rw [hb, hb2, if_neg (by decide), Bool.and_false]
 rw [if_neg (by simpa using h4), if_neg h4]
 by_cases h0 : bagV ds slots d = 0
 ·rw [h0]; simp
 ·have hb : (bagV ds slots d != 0) = true := by simpa using h0
  have hne : ((viewV ds slots pl d).2.2.2.1 == []) = false := by simpa using fun h => h0 (ht.1 h)
  rw [hb, hne, if_pos rfl]; simp
theorem e39 (v : VW) (f : Dv) (w : Nat) (hf : f.2.2.1 = (w : Int)) (hk : f.1 = 3 ∨ f.1 = 4 ∨ (w < v.2.2.2.1.length ∧ v.2.2.2.1.length ≤ 100 ∧ v.2.1 = 2 ∧ v.2.2.1 ≠ 0)) : sp39 (rightV v, f, ()) = some (withV v f.1 w, ()) := by
 show sh39 0 (rightV v) f = _
 unfold sh39 withV
 by_cases h3 : f.1 = 3
 ·rw [if_pos (by simpa using h3), if_pos h3]; rfl
 rw [if_neg (by simpa using h3), if_neg h3]
 by_cases h4 : f.1 = 4
 ·rw [if_pos (by simpa using h4), if_pos h4]; rfl
 rw [if_neg (by simpa using h4), if_neg h4]
 obtain ⟨hw, hlen, hv2, hv0⟩ : w < v.2.2.2.1.length ∧ v.2.2.2.1.length ≤ 100 ∧ v.2.1 = 2 ∧ v.2.2.1 ≠ 0 := by
  rcases hk with h | h | h
  ·exact absurd h h3
  ·exact absurd h h4
  ·exact h
 have hr : rightV v = (v.1, v.2.2.1 != 0, v.2.2.2.1, ()) := by
  unfold rightV
  rw [if_pos (by rw [hv2]; simpa using hv0)]
 have hl := ofB_len v.2.2.2.1
 rw [hr, hf]
 simp only [joinK, sh39_K0, Int.toNat_natCast]
 rw [if_pos (dlim (by omega))]
 by_cases h5 : f.1 = 5
 ·rw [if_pos (by simpa using h5), if_pos h5, if_pos (inR_nat (by omega)), if_pos (decide_eq_true (by omega))]
 ·rw [if_neg (by simpa using h5), if_neg h5, if_pos (inR_nat (by omega)), if_pos (decide_eq_true (by omega)), if_pos (by decide), if_pos (inR_nat (by omega)), if_pos (decide_eq_true (by omega))]
  rfl
theorem e29 (k : Int) : sp29 (k, ()) = some ((mostV k : Int), ()) := by
 show sh29 0 k = _
 unfold sh29 mostV
 simp only [joinK, sh29_K0]
 by_cases h5 : k = 5
 ·subst h5; rfl
 rw [if_neg (by simpa using h5)]
 by_cases h6 : k = 6
 ·subst h6; rfl
 rw [show (k == 6) = false by simpa using h6, if_neg (by decide), if_neg (by omega)]; rfl
end
theorem iter_idx {σ R : Type} {F : (σ → Option R) → σ → Option R} {bad fin : Option R} (m : Nat) (p : Nat → Bool) (st : Nat → σ) (n : Nat) (hn : m < n)
  (hs : ∀ rc k (hk : k < m), F rc (st k) = if p k = true then rc (st (k + 1)) else bad) (he : ∀ rc, F rc (st m) = fin) : iter n F (st 0) = if (List.range m).all p = true then fin else bad := by
 refine iter_list (List.range m) p st n (by rw [List.length_range]; exact hn) (fun rc k hk => ?_) (fun rc => ?_)
 ·rw [List.length_range] at hk
  rw [List.getElem_range]; exact hs rc k hk
 ·rw [List.length_range]; exact he rc
theorem iter_first {α σ R : Type} {F : (σ → Option R) → σ → Option R} {fin : Option R} (l : List α) (c : α → Int) (bad : Int → Option R) (st : Nat → σ) (n : Nat) (hn : l.length < n)
  (hs : ∀ rc k (hk : k < l.length), F rc (st k) = if c l[k] = 0 then rc (st (k + 1)) else bad (c l[k])) (he : ∀ rc, F rc (st l.length) = fin) :
  iter n F (st 0) = match l.find? (fun x => c x != 0) with | some x => bad (c x) | none => fin := by
 cases hf : l.find? (fun x => c x != 0) with
 | none =>
  rw [List.find?_eq_none] at hf
  refine iter_count st l.length n hn (fun rc k hk => ?_) he
  have := hf l[k] (List.getElem_mem hk)
  rw [hs rc k hk, if_pos (by simpa using this)]
 | some x =>
  obtain ⟨h1, l1, l2, rfl, h2⟩ := List.find?_eq_some_iff_append.1 hf
  have hl : l1.length < (l1 ++ x :: l2).length := by simp
  refine iter_count st l1.length n (by omega) (fun rc k hk => ?_) (fun rc => ?_)
  ·rw [hs rc k (by omega), List.getElem_append_left hk, if_pos (by have := h2 _ (List.getElem_mem hk); simpa using this)]
  ·rw [hs rc _ hl, List.getElem_append_right (Nat.le_refl _)]
   simp only [Nat.sub_self, List.getElem_cons_zero]
   rw [if_neg (by simpa using h1)]
theorem ty0_eq (x y : Ty0) : x = y ↔ x.1 = y.1 ∧ x.2.1 = y.2.1 ∧ x.2.2.1 = y.2.2.1 := by
 obtain ⟨a, b, c, ⟨⟩⟩ := x
 obtain ⟨a', b', c', ⟨⟩⟩ := y
 simp
abbrev OBS := List Ty0 × Int × Unit
def errF (ds : List Dv) (slots : LL) (pl : List Dv) (f : Dv) : Int :=
 if f.1 < 3 ∨ 6 < f.1 then 4 else if f.2.1 < 0 ∨ (ds.length : Int) ≤ f.2.1 ∨ f.2.2.1 < 0 ∨ (mostV f.1 : Int) < f.2.2.1 then 1 else if mayV (viewV ds slots pl f.2.1.toNat) f.1 = true then 0 else 7
def dupAt (fs : List Dv) (i : Nat) : Bool := (fs.take i).any fun g => (fs.getD i (0, 0, 0, ())).2.1 == g.2.1
def repQ (ds : List Dv) (slots : LL) (pl fs : List Dv) : Nat → Nat → Ty0
 | 0, d => rightV (viewV ds slots pl d)
 | q + 1, d => if (fs.getD q (0, 0, 0, ())).2.1 = (d : Int) then withV (viewV ds slots pl d) (fs.getD q (0, 0, 0, ())).1 (fs.getD q (0, 0, 0, ())).2.2.1.toNat else repQ ds slots pl fs q d
def repsV (ds : List Dv) (slots : LL) (pl fs : List Dv) : List Ty0 := (List.range ds.length).map (repQ ds slots pl fs fs.length)
def obsV (ds : List Dv) (slots : LL) (pl fs : List Dv) : OBS :=
 if 4 < fs.length then ([], 2, ()) else match fs.find? (fun f => errF ds slots pl f != 0) with
  | some f => ([], errF ds slots pl f, ())
  | none => if (List.range fs.length).all (fun i => !dupAt fs i) = true then (repsV ds slots pl fs, 0, ()) else ([], 5, ())
section
variable {N gate : Nat} {ns : List Nd} {ds : List Dv} {slots bins : LL} {pl : List Dv}
theorem err_ok {f : Dv} (h : errF ds slots pl f = 0) : 3 ≤ f.1 ∧ f.1 ≤ 6 ∧ 0 ≤ f.2.1 ∧ f.2.1 < ds.length ∧ 0 ≤ f.2.2.1 ∧ f.2.2.1 ≤ (mostV f.1 : Int) ∧ mayV (viewV ds slots pl f.2.1.toNat) f.1 = true := by
 unfold errF at h
 split at h
 ·cases h
 rename_i h1
 split at h
 ·cases h
 rename_i h2
 split at h
 ·rename_i h3
  exact ⟨by omega, by omega, by omega, by omega, by omega, by omega, h3⟩
 ·cases h
theorem with_ok (c : Ctx N gate ns ds slots bins pl) {k : Int} {d w : Nat} (hd : d < ds.length) (hk : 3 ≤ k ∧ k ≤ 6) (hw : (w : Int) ≤ (mostV k : Int)) (hm : mayV (viewV ds slots pl d) k = true) :
  k = 3 ∨ k = 4 ∨ (w < (viewV ds slots pl d).2.2.2.1.length ∧ (viewV ds slots pl d).2.2.2.1.length ≤ 100 ∧ (viewV ds slots pl d).2.1 = 2 ∧ (viewV ds slots pl d).2.2.1 ≠ 0) := by
 by_cases h3 : k = 3
 ·exact .inl h3
 by_cases h4 : k = 4
 ·exact .inr (.inl h4)
 refine .inr (.inr ?_)
 unfold mayV at hm
 rw [if_neg h3, if_neg h4] at hm
 simp only [Bool.and_eq_true, beq_iff_eq, bne_iff_ne, ne_eq, Bool.not_eq_true', beq_eq_false_iff_ne] at hm
 have hm9 : mostV k = 9 := by unfold mostV; rw [if_pos (by omega)]
 rcases (may_text c hd).2 with h | h
 ·exact absurd h hm.2.2
 ·exact ⟨by omega, by omega, hm.1, hm.2.1⟩
theorem repQ_len (fs : List Dv) (q : Nat) : ((List.range ds.length).map (repQ ds slots pl fs q)).length = ds.length := by rw [List.length_map, List.length_range]
theorem k4_14 (c : Ctx N gate ns ds slots bins pl) (fs : List Dv) (h4 : fs.length ≤ 4) (hok : ∀ f ∈ fs, errF ds slots pl f = 0) :
  sh14_K4 100000 (pl, fs, (ns, ds, ()), (slots, bins, ()), (List.range ds.length).map (repQ ds slots pl fs 0), ()) = some ((repsV ds slots pl fs, 0, ()), ()) := by
 have hdl := c.dev.len
 simp only [sh14_K4, joinK]
 refine iter_count (F := sh14_L7 sh14_K5) (fun q : Nat => (pl, fs, (fs.length : Int), (q : Int), (ns, ds, ()), (slots, bins, ()), (List.range ds.length).map (repQ ds slots pl fs q), ())) fs.length 100000 (by omega) (fun rc q hq => ?_) (fun rc => ?_)
 ·obtain ⟨k1, k2, n1, n2, w1, w2, hm⟩ := err_ok (hok fs[q] (List.getElem_mem hq))
  have gq : fs.getD q (0, 0, 0, ()) = fs[q] := by rw [List.getD, List.getElem?_eq_getElem hq]; rfl
  obtain ⟨d, ed⟩ : ∃ d : Nat, fs[q].2.1 = d := ⟨(fs[q].2.1).toNat, by omega⟩
  obtain ⟨w, ew⟩ : ∃ w : Nat, fs[q].2.2.1 = w := ⟨(fs[q].2.2.1).toNat, by omega⟩
  rw [ed] at n2 hm
  rw [ew] at w2
  simp only [Int.toNat_natCast] at hm
  have hd : d < ds.length := by omega
  have hw := with_ok c hd ⟨k1, k2⟩ w2 hm
  have h35 := e35 (viewV ds slots pl d) fs[q].1 w (by rcases hw with h | h | h; exact .inl h; exact .inr (.inl h); exact .inr (.inr ⟨h.1, h.2.1⟩))
  simp only [sh14_L7]
  rw [if_pos (by simpa using hq), if_pos (inR_nat hq), lAt_nat _ _ _ hq, ed, e30 c hd, Option.bind_some]
  simp only
  rw [show fs[q].2.2 = ((w : Int), ()) from Prod.ext ew rfl, h35, Option.bind_some, if_pos (inR_nat (by rw [repQ_len]; exact hd)), if_pos (decide_eq_true (by rw [repQ_len, Int.toNat_natCast]; omega)), up1' hq]
  simp only [Int.toNat_natCast]
  refine congrArg rc ?_
  have : ((List.range ds.length).map (repQ ds slots pl fs q)).set d (withV (viewV ds slots pl d) fs[q].1 w) = (List.range ds.length).map (repQ ds slots pl fs (q + 1)) := by
   refine List.ext_getElem (by simp) fun j h1 h2 => ?_
   rw [List.getElem_set]
   simp only [List.getElem_map, List.getElem_range, repQ, gq, ed, ew, Int.toNat_natCast]
   by_cases hdj : d = j
   ·subst hdj; simp
   ·rw [if_neg hdj, if_neg (by omega)]
  rw [this]
 ·simp only [sh14_L7]
  rw [if_neg (by simp)]
  rfl
theorem e14 (c : Ctx N gate ns ds slots bins pl) (fs : List Dv) (hfs : fs.length ≤ 1000) : sp14 ((ns, ds, ()), (slots, bins, ()), pl, fs, ()) = some (obsV ds slots pl fs, ()) := by
 have hdl := c.dev.len
 show sh14 100000 (ns, ds, ()) (slots, bins, ()) pl fs = _
 unfold sh14 obsV
 simp only [joinK]
 rw [e50 c.lay c.dev, Option.bind_some]
 simp only
 rw [if_neg (by decide), e51 c.lay c.dev, Option.bind_some]
 simp only [sh14_K0, joinK]
 rw [if_neg (by decide), e28 c.lay c.pla, Option.bind_some]
 simp only [sh14_K1, joinK]
 rw [if_neg (by decide)]
 by_cases h4 : 4 < fs.length
 ·rw [if_pos (decide_eq_true (by omega)), if_pos h4]
 rw [if_neg (by simp only [decide_eq_true_eq]; omega), if_neg h4]
 refine (iter_first (F := sh14_L22 (sh14_K2 100000)) (fin := sh14_K2 100000 (pl, fs, (ns, ds, ()), (slots, bins, ()), ())) fs (errF ds slots pl) (fun e => some (([], e, ()), ())) (fun k => (pl, fs, fs, (fs.length : Int), (k : Int), (ns, ds, ()), (slots, bins, ()), ())) 100000 (by omega) (fun rc k hk => ?_) (fun rc => ?_)).trans ?_
 ·have hup : IntKind.i64.wrap ((k : Int) + 1) = ((k + 1 : Nat) : Int) := wrapI (by omega) (by omega)
  simp only [sh14_L22, joinK]
  rw [if_pos (by simpa using hk), if_pos (inR_nat hk), lAt_nat _ _ _ hk]
  by_cases c1 : fs[k].1 < 3
  ·have e : errF ds slots pl fs[k] = 4 := by unfold errF; rw [if_pos (.inl c1)]
   rw [if_pos (decide_eq_true c1), e, if_neg (by decide)]
   rfl
  rw [if_neg (by simpa using c1)]
  simp only [sh14_K23, joinK]
  by_cases c2 : 6 < fs[k].1
  ·have e : errF ds slots pl fs[k] = 4 := by unfold errF; rw [if_pos (.inr c2)]
   rw [decide_eq_true c2, if_pos rfl, e, if_neg (by decide)]
  have nk : ¬ (fs[k].1 < 3 ∨ 6 < fs[k].1) := by omega
  rw [decide_eq_false c2, if_neg (by decide)]
  by_cases n1 : fs[k].2.1 < 0
  ·have e : errF ds slots pl fs[k] = 1 := by unfold errF; rw [if_neg nk, if_pos (.inl n1)]
   rw [if_pos (decide_eq_true n1), e, if_neg (by decide)]; rfl
  rw [if_neg (by simpa using n1)]
  by_cases n2 : (ds.length : Int) ≤ fs[k].2.1
  ·have e : errF ds slots pl fs[k] = 1 := by unfold errF; rw [if_neg nk, if_pos (.inr (.inl n2))]
   rw [if_pos (decide_eq_true n2), e, if_neg (by decide)]; rfl
  rw [if_neg (by simpa using n2)]
  by_cases w1 : fs[k].2.2.1 < 0
  ·have e : errF ds slots pl fs[k] = 1 := by unfold errF; rw [if_neg nk, if_pos (.inr (.inr (.inl w1)))]
   rw [if_pos (decide_eq_true w1), e, if_neg (by decide)]; rfl
  rw [if_neg (by simpa using w1), e29, Option.bind_some]
  simp only [sh14_K24]
  by_cases w2 : (mostV fs[k].1 : Int) < fs[k].2.2.1
  ·have e : errF ds slots pl fs[k] = 1 := by unfold errF; rw [if_neg nk, if_pos (.inr (.inr (.inr w2)))]
   rw [decide_eq_true w2, if_pos rfl, e, if_neg (by decide)]
  have nw : ¬ (fs[k].2.1 < 0 ∨ (ds.length : Int) ≤ fs[k].2.1 ∨ fs[k].2.2.1 < 0 ∨ (mostV fs[k].1 : Int) < fs[k].2.2.1) := by omega
  rw [decide_eq_false w2, if_neg (by decide)]
  have ee : errF ds slots pl fs[k] = if mayV (viewV ds slots pl fs[k].2.1.toNat) fs[k].1 = true then 0 else 7 := by unfold errF; rw [if_neg nk, if_neg nw]
  rw [ee]
  obtain ⟨d, ed⟩ : ∃ d : Nat, fs[k].2.1 = d := ⟨(fs[k].2.1).toNat, by omega⟩
  have hd : d < ds.length := by omega
  rw [ed, e30 c hd, Option.bind_some]
  simp only
  rw [e31, Option.bind_some, hup]
  simp only [Int.toNat_natCast]
  by_cases hm : mayV (viewV ds slots pl d) fs[k].1 = true
  ·rw [if_pos hm, if_pos rfl, if_neg (by rw [hm]; decide)]
  ·rw [if_neg hm, if_pos (by simpa using hm), if_neg (by decide)]
 ·simp only [sh14_L22]
  rw [if_neg (by simp)]
 ·cases hf : fs.find? (fun f => errF ds slots pl f != 0) with
  | some f => rfl
  | none =>
   have hok : ∀ f ∈ fs, errF ds slots pl f = 0 := fun f hf' => by
    have := List.find?_eq_none.1 hf f hf'
    simpa using this
   simp only [sh14_K2, joinK]
   refine (iter_idx (F := sh14_L15 100000 (sh14_K3 100000)) (bad := some (([], 5, ()), ())) (fin := some ((repsV ds slots pl fs, 0, ()), ())) fs.length (fun i => !dupAt fs i) (fun k => (pl, fs, fs, (fs.length : Int), (k : Int), (ns, ds, ()), (slots, bins, ()), ())) 100000 (by omega) (fun rc k hk => ?_) (fun rc => ?_)).trans ?_
   ·have hup : IntKind.i64.wrap ((k : Int) + 1) = ((k + 1 : Nat) : Int) := wrapI (by omega) (by omega)
    have gk : fs.getD k (0, 0, 0, ()) = fs[k] := by rw [List.getD, List.getElem?_eq_getElem hk]; rfl
    have hc0 : inCut 0 (k : Int) fs.length = true := inCut_nat (a := 0) (Nat.zero_le _) (Nat.le_of_lt hk)
    have hcut : cutL fs 0 (k : Int) = fs.take k := by simp [cutL]
    have htl : (fs.take k).length ≤ 4 := by rw [List.length_take]; omega
    simp only [sh14_L15, joinK]
    rw [if_pos (by simpa using hk), if_pos (inR_nat hk), if_pos hc0, hcut, lAt_nat _ _ _ hk]
    unfold dupAt
    rw [gk]
    by_cases hd : ((fs.take k).any fun g => fs[k].2.1 == g.2.1) = true
    ·rw [hd, if_neg (by decide)]
     obtain ⟨g, hg, hge⟩ := List.any_eq_true.1 hd
     cases hfi : (fs.take k).find? (fun g => fs[k].2.1 == g.2.1) with
     | none => have := List.find?_eq_none.1 hfi g hg; exact absurd hge this
     | some x =>
      obtain ⟨h1, l1, l2, hl12, h2⟩ := List.find?_eq_some_iff_append.1 hfi
      rw [hl12] at htl ⊢
      have hl : l1.length < (l1 ++ x :: l2).length := by simp
      refine iter_count (F := sh14_L20 (sh14_K16 rc) (sh14_K18 (sh14_K16 rc))) (fun q : Nat => (pl, fs, fs, (fs.length : Int), (k : Int), l1 ++ x :: l2, ((l1 ++ x :: l2).length : Int), (q : Int), (ns, ds, ()), (slots, bins, ()), fs[k], ())) l1.length 100000 (by omega) (fun rc2 q hq => ?_) (fun rc2 => ?_)
      ·simp only [sh14_L20]
       have hq' : q < (l1 ++ x :: l2).length := by omega
       have hne := h2 _ (List.getElem_mem hq)
       rw [if_pos (decide_eq_true (Int.ofNat_lt.2 hq')), if_pos (inR_nat hq'), lAt_nat _ _ _ hq', List.getElem_append_left hq, if_neg (by simpa using hne), wrapI (by omega) (by omega)]
       rfl
      ·simp only [sh14_L20]
       rw [if_pos (decide_eq_true (Int.ofNat_lt.2 hl)), if_pos (inR_nat hl), lAt_nat _ _ _ hl, List.getElem_append_right (Nat.le_refl _)]
       simp only [Nat.sub_self, List.getElem_cons_zero]
       rw [if_pos h1]
       simp only [sh14_K16]
       rw [if_pos (decide_eq_true (by omega))]
    ·rw [Bool.not_eq_true] at hd
     rw [hd, if_pos (by decide)]
     refine iter_count (F := sh14_L20 (sh14_K16 rc) (sh14_K18 (sh14_K16 rc))) (fun q : Nat => (pl, fs, fs, (fs.length : Int), (k : Int), fs.take k, ((fs.take k).length : Int), (q : Int), (ns, ds, ()), (slots, bins, ()), fs[k], ())) (fs.take k).length 100000 (by omega) (fun rc2 q hq => ?_) (fun rc2 => ?_)
     ·have hne := List.any_eq_false.1 hd _ (List.getElem_mem hq)
      simp only [sh14_L20]
      rw [if_pos (by simpa using hq), if_pos (inR_nat hq), lAt_nat _ _ _ hq, if_neg (by simpa using hne), wrapI (by omega) (by omega)]
      rfl
     ·simp only [sh14_L20]
      rw [if_neg (by simp)]
      simp only [sh14_K18, sh14_K16]
      rw [if_neg (by decide), hup]
   ·simp only [sh14_L15]
    rw [if_neg (by simp)]
    simp only [sh14_K3, joinK]
    refine iter_count (F := sh14_L11 (sh14_K4 100000)) (fun d : Nat => (pl, fs, (ds.length : Int), (d : Int), (ns, ds, ()), (slots, bins, ()), (List.range d).map (repQ ds slots pl fs 0), ())) ds.length 100000 (by omega) (fun rc d hd => ?_) (fun rc => ?_)
    ·simp only [sh14_L11]
     rw [if_pos (by simpa using hd), e30 c hd, Option.bind_some, e34, Option.bind_some, if_pos (dlim (by simp only [List.length_map, List.length_range]; omega)), if_pos (dlim (by simp only [List.length_map, List.length_range]; omega)), up1' hd]
     rw [List.range_succ, List.map_append]; rfl
    ·simp only [sh14_L11]
     rw [if_neg (by simp)]
     exact k4_14 c fs (by omega) hok
   ·cases (List.range fs.length).all (fun i => !dupAt fs i) <;> rfl
end
theorem e7 : sp7 () = some (true, ()) := by kernel_rfl
end Go.Proofs.YtjpikgfknnamjaaDoor
