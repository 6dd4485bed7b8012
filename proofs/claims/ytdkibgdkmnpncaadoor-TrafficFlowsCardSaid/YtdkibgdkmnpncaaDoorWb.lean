/- Chapter 10: what the functions come to; the laws. -/
import Derived.Test.YtdkibgdkmnpncaaDoorWa
import Derived.Test.YtdkibgdkmnpncaaDoorMath
import Derived.KernelRfl
open Go Go.Proofs Go.Abs
set_option linter.unusedVariables false
set_option maxRecDepth 100000
namespace Go.Proofs.YtdkibgdkmnpncaaDoor
abbrev IL := List (Int × Unit)
theorem gm {σ R : Type} (n : Nat) (F : (σ → Option R) → σ → Option R) (z : σ) : iter (n + 1) F z = F (iter n F) z := rfl
theorem ck {σ R : Type} {F : (σ → Option R) → σ → Option R} (I : Nat → σ → Prop) (Post : Option R → Prop) (m n : Nat) (hn : m < n) {z : σ} (h0 : I 0 z)
  (hs : ∀ rc k z, k < m → I k z → ∃ z', F rc z = rc z' ∧ I (k + 1) z') (he : ∀ rc z, I m z → Post (F rc z)) : Post (iter n F z) := by
 suffices h : ∀ n k z, m - k < n → k ≤ m → I k z → Post (iter n F z) from h n 0 z (by omega) (Nat.zero_le _) h0
 intro n
 induction n with
 | zero => intro k z hk; omega
 | succ n ih =>
  intro k z hk hkm hi
  rw [gm]
  rcases Nat.lt_or_ge k m with hlt | hge
  ·obtain ⟨z', h1, h2⟩ := hs (iter n F) k z hlt hi
   rw [h1]; exact ih (k + 1) z' (by omega) hlt h2
  ·have : k = m := by omega
   subst this
   exact he _ z hi
theorem di {n : Nat} (h : n ≤ 100000000000) : decide (n ≤ cj) = true := decide_eq_true (Nat.le_trans h (by decide))
theorem xy {α : Type} (d : α) (l : List α) (k : Int) (h0 : 0 ≤ k) (h1 : k < l.length) : bg d l k ∈ l := by
 have hk : k.toNat < l.length := by omega
 show l.getD k.toNat d ∈ l
 rw [List.getD, List.getElem?_eq_getElem hk]
 exact List.getElem_mem hk
theorem lu {k : Int} {n : Nat} (h0 : 0 ≤ k) (h : k < n) : bt k n = true := by simp [bt, h0, h]
abbrev Sr : Type := IL × Int × Unit
def cE (s : Sr) : Prop := s.1.length ≤ 2000 ∧ 0 ≤ s.2.1 ∧ s.2.1 ≤ 2000
theorem Y6 {s : Sr} (h : cE s) : ∃ v s', Pq (s, ()) = some (v, s', ()) ∧ cE s' := by
 obtain ⟨l, a, _⟩ := s
 obtain ⟨h1, h2, h3⟩ := h
 simp only at h1 h2 h3
 show ∃ v s', OW 0 (l, a, ()) = some (v, s', ()) ∧ cE s'
 unfold OW
 by_cases hc : (l.length : Int) ≤ a
 ·rw [if_pos (by simpa using hc)]; exact ⟨_, _, rfl, h1, h2, h3⟩
 ·have w1 : IntKind.i64.wrap (a + 1) = a + 1 := ch (by omega) (by omega)
  have w2 : IntKind.i64.wrap (a + 1 - 1) = a := by rw [ch (by omega) (by omega)]; omega
  rw [if_neg (by simpa using hc)]
  simp only [w1, w2]
  rw [if_pos (by simp [bt]; omega)]
  exact ⟨_, _, rfl, h1, by simp only; omega, by simp only; omega⟩
theorem Y5 (x n : Int) (h1 : 1 ≤ n) (h2 : n ≤ 1000000) : ∃ v, Pp (x, n, ()) = some (v, ()) ∧ 0 ≤ v ∧ v < n := by
 show ∃ v, OV 0 x n = some (v, ()) ∧ _
 unfold OV
 rw [if_neg (by simp; omega), if_pos (by simp; omega)]
 simp only [aa, Fq]
 have b1 : x.tmod n < n := Int.tmod_lt_of_pos x (by omega)
 have b2 : -n < x.tmod n := by have := Int.lt_tmod_of_pos x (show 0 < n by omega); omega
 by_cases hc : x.tmod n < 0
 ·rw [if_pos (by simpa using hc)]; exact ⟨_, rfl, by rw [ch (by omega) (by omega)]; omega, by rw [ch (by omega) (by omega)]; omega⟩
 ·rw [if_neg (by simpa using hc)]; exact ⟨_, rfl, by omega, b1⟩
theorem GA {s : Sr} (h : cE s) (n : Int) (h1 : 1 ≤ n) (h2 : n ≤ 1000000) : ∃ v s', oh (s, n, ()) = some (v, s', ()) ∧ 0 ≤ v ∧ v < n ∧ cE s' := by
 obtain ⟨r, s', hr, hs⟩ := Y6 h
 obtain ⟨v, hv, k1, k2⟩ := Y5 r n h1 h2
 refine ⟨v, s', ?_, k1, k2, hs⟩
 show OR 0 s n = _
 unfold OR
 rw [hr, Option.bind_some]
 simp only
 rw [hv]; rfl
theorem e7 (l : IL) : ∃ s, VX (l, ()) = some (s, ()) ∧ cE s := by
 show ∃ s, VO 0 l = some (s, ()) ∧ _
 unfold VO
 simp only [aa, JJ]
 by_cases h : (2000 : Int) < (l.length : Int)
 ·have hc : fa 0 2000 l.length = true := kA (a := 0) (b := 2000) (by decide) (by omega)
  rw [if_pos (by simpa using h), if_pos hc]
  refine ⟨_, rfl, ?_, Int.le_refl 0, show (0 : Int) ≤ 2000 by decide⟩
  show (ig l 0 2000).length ≤ 2000
  simp only [ig, List.length_take]; exact Nat.min_le_left _ _
 ·rw [if_neg (by simpa using h)]
  exact ⟨_, rfl, by show l.length ≤ 2000; omega, Int.le_refl 0, show (0 : Int) ≤ 2000 by decide⟩
theorem Xm {s : Sr} (h : cE s) (t : IL) (h1 : 1 ≤ t.length) (h2 : t.length ≤ 1000) : ∃ v s', DQ (s, t, ()) = some (v, s', ()) ∧ (v, ()) ∈ t ∧ cE s' := by
 obtain ⟨v, s', hv, k1, k2, hs⟩ := GA h (t.length : Int) (by omega) (by omega)
 refine ⟨(bg (0, ()) t v).1, s', ?_, xy (0, ()) t v k1 k2, hs⟩
 show OT 0 s t = _
 unfold OT
 rw [hv, Option.bind_some]
 simp only
 rw [if_pos (by simp [bt]; omega)]
theorem Kt {s : Sr} (h : cE s) (lo hi : Int) (h1 : lo ≤ hi) (h2 : -1000 ≤ lo) (h3 : hi ≤ 1000) : ∃ v s', rO (s, lo, hi, ()) = some (v, s', ()) ∧ lo ≤ v ∧ v ≤ hi ∧ cE s' := by
 obtain ⟨v, s', hv, k1, k2, hs⟩ := GA h (hi - lo + 1) (by omega) (by omega)
 refine ⟨lo + v, s', ?_, by omega, by omega, hs⟩
 show OQ 0 s lo hi = _
 unfold OQ
 rw [ch (x := hi - lo) (by omega) (by omega), ch (x := hi - lo + 1) (by omega) (by omega)]
 rw [hv, Option.bind_some]
 simp only
 rw [ch (by omega) (by omega)]
theorem Xo {s : Sr} (h : cE s) (t : IL) (x : Int) (ht : t.length ≤ 1000) :
  ∃ v s', MK (s, t, x, ()) = some (v, s', ()) ∧ cE s' ∧ ((v = -1 ∧ ∀ y ∈ t, y.1 = x) ∨ ((v, ()) ∈ t ∧ v ≠ x)) := by
 show ∃ v s', LY 100000 s t x = some (v, s', ()) ∧ _
 unfold LY
 simp only [aa]
 refine ck (F := sF yd) (fun k z => ∃ u : IL, z = (t, x, (k : Int), s, u, ()) ∧ u.length ≤ k ∧ (∀ y ∈ u, y ∈ t ∧ y.1 ≠ x) ∧ (u = [] → ∀ y ∈ t.take k, y.1 = x))
  (fun o => ∃ v s', o = some (v, s', ()) ∧ cE s' ∧ ((v = -1 ∧ ∀ y ∈ t, y.1 = x) ∨ ((v, ()) ∈ t ∧ v ≠ x))) t.length 100000 (by omega) ⟨[], rfl, by simp, by simp, by simp⟩ (fun rc k z hk hz => ?_) (fun rc z hz => ?_)
 ·obtain ⟨u, rfl, h1, h2, h3⟩ := hz
  simp only [sF, aa, Ft]
  rw [if_pos (by simpa using hk), if_pos (ae hk), bj _ _ _ hk]
  by_cases hx : t[k].1 = x
  ·rw [if_neg (by simpa using hx), cT hk]
   refine ⟨_, rfl, u, rfl, by omega, h2, fun hu y hy => ?_⟩
   rw [List.take_add_one, List.getElem?_eq_getElem hk] at hy
   rcases List.mem_append.1 hy with hy | hy
   ·exact h3 hu y hy
   ·simp only [Option.toList, List.mem_singleton] at hy; rw [hy]; exact hx
  ·rw [if_pos (by simpa using hx), if_pos (ae hk), if_pos (di (by omega)), if_pos (di (by omega)), cT hk]
   refine ⟨_, rfl, u ++ [t[k]], rfl, by simp only [List.length_append, List.length_cons, List.length_nil]; omega, fun y hy => ?_, by simp⟩
   rcases List.mem_append.1 hy with hy | hy
   ·exact h2 y hy
   ·rw [List.mem_singleton.1 hy]; exact ⟨List.getElem_mem hk, hx⟩
 ·obtain ⟨u, rfl, h1, h2, h3⟩ := hz
  simp only [sF]
  rw [if_neg (by simp)]
  simp only [yd]
  by_cases hu : u = []
  ·subst hu
   rw [if_pos (by decide)]
   rw [List.take_length] at h3
   exact ⟨_, _, rfl, h, .inl ⟨rfl, h3 rfl⟩⟩
  ·have hl := List.length_pos_iff.2 hu
   obtain ⟨v, s', hv, k1, k2, hs⟩ := GA h (u.length : Int) (by omega) (by omega)
   have hb : ((u.length : Int) == 0) = false := by simp; omega
   rw [hb, if_neg (by decide), hv, Option.bind_some]
   simp only
   rw [if_pos (lu k1 k2), if_pos (decide_eq_true (by omega))]
   have hm : bg (0, ()) u v ∈ u := xy (0, ()) u v k1 k2
   exact ⟨_, _, rfl, hs, .inr (h2 _ hm)⟩
abbrev Nd := tF
abbrev Dv := rG
abbrev Lay := ez
def HN (i jY : Int) (kinds to : IL) (x : Nd) : Prop :=
 x.1 = [] ∧ x.2.2.2.1 = jY ∧ ∃ f : Int, (f, ()) ∈ to ∧
  ((x.2.1 = 5 ∧ (5, ()) ∈ kinds ∧ 2 ≤ x.2.2.1 ∧ x.2.2.1 ≤ 4 ∧ x.2.2.2.2.1 = [(i, ()), (f, ())]) ∨
  (x.2.1 = 4 ∧ (4, ()) ∈ kinds ∧ 1 ≤ x.2.2.1 ∧ x.2.2.1 ≤ 3 ∧ ∃ g : Int, (g, ()) ∈ to ∧ g ≠ f ∧ x.2.2.2.2.1 = [(f, ()), (g, ())]) ∨
  (x.2.1 = 2 ∧ (4, ()) ∈ kinds ∧ 1 ≤ x.2.2.1 ∧ x.2.2.1 ≤ 3 ∧ x.2.2.2.2.1 = [(f, ())]) ∨
  ((x.2.1, ()) ∈ kinds ∧ x.2.1 ≠ 5 ∧ x.2.1 ≠ 4 ∧ 1 ≤ x.2.2.1 ∧ x.2.2.1 ≤ 3 ∧ x.2.2.2.2.1 = [(f, ())]))
theorem TJ {s : Sr} (h : cE s) (i jY : Int) (kinds to : IL) (hk1 : 1 ≤ kinds.length) (hk2 : kinds.length ≤ 1000) (ht1 : 1 ≤ to.length) (ht2 : to.length ≤ 1000) (hto : ∀ y ∈ to, 0 ≤ y.1) :
  ∃ x s', Ht (s, i, jY, kinds, to, ()) = some (x, s', ()) ∧ cE s' ∧ HN i jY kinds to x := by
 obtain ⟨kd, s1, h1, m1, k1⟩ := Xm h kinds hk1 hk2
 obtain ⟨ln, s2, h2, l1, l2, k2⟩ := Kt k1 1 3 (by decide) (by decide) (by decide)
 obtain ⟨f, s3, h3, k3, hf⟩ := Xo k2 to (-1) ht2
 have hf : (f, ()) ∈ to := by
  rcases hf with ⟨_, hf⟩ | ⟨hf, _⟩
  ·have hm : to[0] ∈ to := List.getElem_mem ht1
   have a := hf _ hm
   have b := hto _ hm
   omega
  ·exact hf
 have st : Ht (s, i, jY, kinds, to, ()) = OS 0 s i jY kinds to := rfl
 rw [st]
 unfold OS
 rw [h1, Option.bind_some]
 simp only
 rw [h2, Option.bind_some]
 simp only
 rw [h3, Option.bind_some]
 simp only [aa, Ff]
 by_cases h5 : kd = 5
 ·subst h5
  rw [if_pos (by decide), ch (by omega) (by omega)]
  exact ⟨_, _, rfl, k3, rfl, rfl, f, hf, .inl ⟨rfl, m1, by simp only; omega, by simp only; omega, rfl⟩⟩
 rw [if_neg (by simpa using h5)]
 by_cases h4 : kd = 4
 ·subst h4
  obtain ⟨g, s4, h6, k4, hg⟩ := Xo k3 to f ht2
  rw [if_pos (by decide), h6, Option.bind_some]
  simp only
  by_cases hn : g < 0
  ·rw [if_pos (by simpa using hn)]
   exact ⟨_, _, rfl, k4, rfl, rfl, f, hf, .inr (.inr (.inl ⟨rfl, m1, l1, l2, rfl⟩))⟩
  ·rw [if_neg (by simpa using hn)]
   rcases hg with ⟨hg, _⟩ | ⟨hg, hgf⟩
   ·omega
   ·exact ⟨_, _, rfl, k4, rfl, rfl, f, hf, .inr (.inl ⟨rfl, m1, l1, l2, g, hg, hgf, rfl⟩)⟩
 rw [if_neg (by simpa using h4)]
 exact ⟨_, _, rfl, k3, rfl, rfl, f, hf, .inr (.inr (.inr ⟨m1, h5, h4, l1, l2, rfl⟩))⟩
structure DevG (ns : List Nd) (ds : List Dv) : Prop where
 len : ds.length ≤ 24
 ok : ∀ d ∈ ds, (d.1 = 1 ∨ d.1 = 2) ∧ 0 ≤ d.2.1 ∧ d.2.1 < (ns.length : Int) ∧ 0 ≤ d.2.2.1 ∧ d.2.2.1 < (bg ([], 0, 0, 0, [], ()) ns d.2.1).2.2.1
 nd : ds.Nodup
structure iW (ns : List Nd) (ds : List Dv) (i w : Int) (b : Bool) : Prop extends DevG ns ds where
 lt : ∀ d ∈ ds, d.2.1 < i ∨ (d.2.1 = i ∧ d.2.2.1 < w) ∨ (b = true ∧ d.2.1 = i ∧ d.2.2.1 = w ∧ d.1 = 2)
theorem iW.next {ns : List Nd} {ds : List Dv} {i w : Int} {b : Bool} (h : iW ns ds i w b) : iW ns ds i (w + 1) false :=
 ⟨h.toDevG, fun d hd => by rcases h.lt d hd with a | ⟨a, c⟩ | ⟨_, a, c, _⟩ <;> omega⟩
theorem iW.row {ns : List Nd} {ds : List Dv} {i w : Int} {b : Bool} (h : iW ns ds i w b) : iW ns ds (i + 1) 0 false :=
 ⟨h.toDevG, fun d hd => by rcases h.lt d hd with a | ⟨a, c⟩ | ⟨_, a, c, _⟩ <;> omega⟩
theorem iW.yN {ns : List Nd} {ds : List Dv} {i w : Int} (h : iW ns ds i w false) : iW ns ds i w true :=
 ⟨h.toDevG, fun d hd => by rcases h.lt d hd with a | a | ⟨a, _⟩; exact .inl a; exact .inr (.inl a); cases a⟩
theorem iW.Tr {ns : List Nd} {ds : List Dv} {i w : Int} (h : iW ns ds i w false) (hl : ds.length < 24) (hi : 0 ≤ i) (hn : i < (ns.length : Int)) (hw : 0 ≤ w) (hx : w < (bg ([], 0, 0, 0, [], ()) ns i).2.2.1) : iW ns (ds ++ [(2, i, w, ())]) i w true where
 len := by simp only [List.length_append, List.length_cons, List.length_nil]; omega
 ok := fun d hd => by
  rcases List.mem_append.1 hd with hd | hd
  ·exact h.ok d hd
  ·rw [List.mem_singleton.1 hd]; exact ⟨.inr rfl, hi, hn, hw, hx⟩
 nd := List.nodup_append.2 ⟨h.nd, by simp, fun a ha b hb => by
  rw [List.mem_singleton.1 hb]
  rintro rfl
  rcases h.lt _ ha with c | ⟨_, c⟩ | ⟨c, _⟩
  ·simp only at c; omega
  ·simp only at c; omega
  ·cases c⟩
 lt := fun d hd => by
  rcases List.mem_append.1 hd with hd | hd
  ·exact h.yN.lt d hd
  ·rw [List.mem_singleton.1 hd]; exact .inr (.inr ⟨rfl, rfl, rfl, rfl⟩)
theorem iW.Tq {ns : List Nd} {ds : List Dv} {i w : Int} (h : iW ns ds i w true) (hl : ds.length < 24) (hi : 0 ≤ i) (hn : i < (ns.length : Int)) (hw : 0 ≤ w) (hx : w < (bg ([], 0, 0, 0, [], ()) ns i).2.2.1) : iW ns (ds ++ [(1, i, w, ())]) i (w + 1) false where
 len := by simp only [List.length_append, List.length_cons, List.length_nil]; omega
 ok := fun d hd => by
  rcases List.mem_append.1 hd with hd | hd
  ·exact h.ok d hd
  ·rw [List.mem_singleton.1 hd]; exact ⟨.inl rfl, hi, hn, hw, hx⟩
 nd := List.nodup_append.2 ⟨h.nd, by simp, fun a ha b hb => by
  rw [List.mem_singleton.1 hb]
  rintro rfl
  rcases h.lt _ ha with c | ⟨_, c⟩ | ⟨_, _, _, c⟩
  ·simp only at c; omega
  ·simp only at c; omega
  ·simp only at c; omega⟩
 lt := fun d hd => by
  rcases List.mem_append.1 hd with hd | hd
  ·exact h.next.lt d hd
  ·rw [List.mem_singleton.1 hd]; exact .inr (.inl ⟨rfl, by simp only; omega⟩)
theorem Oj (j4) (Post : Option (List Dv × Sr × Unit) → Prop) (ns : List Nd) (dv : List Dv) (i : Nat) (hi : i < ns.length) (hl : ∀ x ∈ ns, x.2.2.1 ≤ 8) {s : Sr} (hs : cE s) {ds : List Dv} (hd : iW ns ds i 0 false)
  (hj : ∀ (s' : Sr) (ds' : List Dv), cE s' → iW ns ds' (i + 1) 0 false → Post (j4 ((i : Int), s', (ns, dv, ()), ds', ()))) : Post (iter 100000 (pt j4) ((i : Int), 0, s, (ns, dv, ()), ds, ())) := by
 have hx : bg ([], 0, 0, 0, [], ()) ns (i : Int) = ns[i] := bj _ _ _ hi
 have h8 := hl ns[i] (List.getElem_mem hi)
 refine ck (F := pt j4) (fun k z => ∃ (s' : Sr) (ds' : List Dv), z = ((i : Int), (k : Int), s', (ns, dv, ()), ds', ()) ∧ cE s' ∧ iW ns ds' i k false) Post (ns[i].2.2.1).toNat 100000 (by omega)
  ⟨s, ds, rfl, hs, hd⟩ (fun rc k z hk hz => ?_) (fun rc z hz => ?_)
 ·obtain ⟨s1, d1, rfl, k1, p1⟩ := hz
  have hw : (k : Int) < ns[i].2.2.1 := by omega
  have up : IntKind.i64.wrap ((k : Int) + 1) = ((k + 1 : Nat) : Int) := ch (by omega) (by omega)
  simp only [pt]
  rw [if_pos (ae hi), hx, if_pos (decide_eq_true hw)]
  simp only [aa]
  rw [if_pos (ae hi)]
  have fin : ∀ (s2 : Sr) (d2 : List Dv), cE s2 → iW ns d2 i k true → ∃ z', sq (pr rc) ((i : Int), (k : Int), s2, (ns, dv, ()), d2, ()) = rc z' ∧ ∃ (s' : Sr) (ds' : List Dv), z' = ((i : Int), ((k + 1 : Nat) : Int), s', (ns, dv, ()), ds', ()) ∧ cE s' ∧ iW ns ds' i ((k + 1 : Nat) : Int) false := by
   intro s2 d2 k2 p2
   simp only [sq, aa]
   by_cases hlen : (d2.length : Int) < 24
   ·obtain ⟨v, s3, hv, v1, v2, k3⟩ := GA k2 2 (by decide) (by decide)
    rw [if_pos (decide_eq_true hlen), hv, Option.bind_some]
    simp only [x6, pr, up]
    cases v == 0 with
    | true =>
     rw [if_pos rfl, if_pos (di (by omega)), if_pos (di (by omega))]
     exact ⟨_, rfl, s3, _, rfl, k3, by have := p2.Tq (by omega) (by omega) (by omega) (by omega) (by rw [hx]; exact hw); exact this⟩
    | false =>
     rw [if_neg (by decide)]
     exact ⟨_, rfl, s3, _, rfl, k3, p2.next⟩
   ·rw [if_neg (by simpa using hlen)]
    simp only [x6, pr, up]
    rw [if_neg (by decide)]
    exact ⟨_, rfl, s2, _, rfl, k2, p2.next⟩
  have mid : ∀ (b : Bool) (s2 : Sr) , d1.length < 24 → cE s2 → ∃ z', pq (sq (pr rc)) ((i : Int), (k : Int), b, s2, (ns, dv, ()), d1, ()) = rc z' ∧ ∃ (s' : Sr) (ds' : List Dv), z' = ((i : Int), ((k + 1 : Nat) : Int), s', (ns, dv, ()), ds', ()) ∧ cE s' ∧ iW ns ds' i ((k + 1 : Nat) : Int) false := by
   intro b s2 hlen k2
   simp only [pq]
   cases b with
   | true =>
    rw [if_pos rfl, if_pos (di (by omega)), if_pos (di (by omega))]
    exact fin s2 _ k2 (p1.Tr hlen (by omega) (by omega) (by omega) (by rw [hx]; exact hw))
   | false =>
    rw [if_neg (by decide)]
    exact fin s2 _ k2 p1.yN
  by_cases hlen : (d1.length : Int) < 24
  ·obtain ⟨v, s3, hv, v1, v2, k3⟩ := GA k1 3 (by decide) (by decide)
   rw [if_pos (decide_eq_true hlen), hv, Option.bind_some]
   simp only
   by_cases c1 : (v == 0) = true
   ·rw [if_pos c1]; exact mid true s3 (by omega) k3
   ·rw [if_neg c1]
    by_cases c2 : ((k : Int) == IntKind.i64.wrap (ns[i].2.2.1 - 1)) = true
    ·rw [if_pos c2, if_pos (ae hi)]; exact mid _ s3 (by omega) k3
    ·rw [if_neg c2]; exact mid false s3 (by omega) k3
  ·rw [if_neg (by simpa using hlen)]
   simp only [pq]
   rw [if_neg (by decide)]
   exact fin s1 d1 k1 p1.yN
 ·obtain ⟨s1, d1, rfl, k1, p1⟩ := hz
  simp only [pt]
  rw [if_pos (ae hi), hx, if_neg (by simp only [decide_eq_true_eq]; omega)]
  exact hj s1 d1 k1 p1.row
theorem Y2 {s : Sr} (hs : cE s) (ns : List Nd) (dv : List Dv) (hn : ns.length ≤ 1000) (hl : ∀ x ∈ ns, x.2.2.1 ≤ 8) : ∃ ds s', Pm (s, (ns, dv, ()), ()) = some (ds, s', ()) ∧ cE s' ∧ DevG ns ds := by
 show ∃ ds s', LK 100000 s (ns, dv, ()) = some (ds, s', ()) ∧ _
 unfold LK
 simp only [aa]
 refine ck (F := sr 100000 Fh) (fun k z => ∃ (s' : Sr) (ds : List Dv), z = ((k : Int), s', (ns, dv, ()), ds, ()) ∧ cE s' ∧ iW ns ds k 0 false) (fun o => ∃ ds s', o = some (ds, s', ()) ∧ cE s' ∧ DevG ns ds) ns.length 100000 (by omega)
  ⟨s, [], rfl, hs, ⟨⟨by simp, by simp, by simp⟩, by simp⟩⟩ (fun rc k z hk hz => ?_) (fun rc z hz => ?_)
 ·obtain ⟨s1, d1, rfl, k1, p1⟩ := hz
  simp only [sr, aa]
  rw [if_pos (by simpa using hk)]
  refine Oj _ (fun o => ∃ z', o = rc z' ∧ ∃ (s' : Sr) (ds : List Dv), z' = (((k + 1 : Nat) : Int), s', (ns, dv, ()), ds, ()) ∧ cE s' ∧ iW ns ds ((k + 1 : Nat) : Int) 0 false) ns dv k hk hl k1 p1 fun s2 d2 k2 p2 => ?_
  simp only [Fi, cT hk]
  exact ⟨_, rfl, s2, d2, rfl, k2, p2⟩
 ·obtain ⟨s1, d1, rfl, k1, p1⟩ := hz
  simp only [sr]
  rw [if_neg (by simp)]
  exact ⟨_, _, rfl, k1, p1.toDevG⟩
theorem QF (l : IL) (x : Int) (hl : l.length ≤ 90000) : yI (l, x, ()) = some (l.any fun y => y.1 == x, ()) := by
 show LJ 100000 l x = _
 unfold LJ
 simp only [aa]
 refine (gZ (F := sn Fg) l (fun y => !(y.1 == x)) (fun k => (l, x, (k : Int), ())) 100000 (by omega) (bad := some (true, ())) (fin := some (false, ())) (fun rc k hk => ?_) (fun rc => ?_)).trans ?_
 ·simp only [sn]
  rw [if_pos (by simpa using hk), if_pos (ae hk), bj _ _ _ hk, cT hk]
  cases l[k].1 == x <;> rfl
 ·simp only [sn]
  rw [if_neg (by simp)]; rfl
 ·rw [show (l.any fun y => y.1 == x) = !(l.all fun y => !(y.1 == x)) by induction l with
   | nil => rfl
   | cons a r ih => simp only [List.any_cons, List.all_cons, Bool.not_and, Bool.not_not]; rw [ih (by simp only [List.length_cons] at hl; omega)]]
  cases l.all fun y => !(y.1 == x) <;> rfl
def fm (k : Int) : Nat := if k = 8 ∨ k = 9 then 0 else if k = 4 ∨ k = 5 ∨ k = 6 then 2 else 1
def cK (gate N : Nat) (i : Int) : Int := if i ≤ gate ∨ i + 2 = N then 0 else 1
def iY (N gate i : Nat) (kind : Int) (k : Nat) (e : Int) : Prop :=
 if kind = 5 ∧ k = 0 then e = i else (i : Int) < e ∧ e < N ∧ cK gate N e = if kind = 6 ∧ k = 1 then 1 else cK gate N i
structure iZ (N gate i : Nat) (x : Nd) : Prop where
 name : x.1 = [UInt8.ofNat (65 + i)]
 oQ : 1 ≤ x.2.1
 Es : x.2.1 ≤ 9
 entry : x.2.1 = 1 ↔ i = 0
 Nr : x.2.1 = 6 ↔ i = gate
 strip : i ≤ gate → x.2.1 ≤ 6
 IK : x.2.1 ≤ 6 → 1 ≤ x.2.2.1 ∧ x.2.2.1 ≤ 4
 K7 : x.2.1 = 5 → 2 ≤ x.2.2.1
 K8 : 7 ≤ x.2.1 → x.2.2.1 = 0
 jY : x.2.2.2.1 = cK gate N i
 W4 : x.2.1 = 1 ∨ x.2.1 = 3 ∨ x.2.1 = 6 → cK gate N i = 0
 W5 : x.2.1 = 7 ∨ x.2.1 = 8 → cK gate N i = 1
 Gy : x.2.2.2.2.1.length = fm x.2.1
 ex : ∀ (k : Nat) (h : k < x.2.2.2.2.1.length), iY N gate i x.2.1 k (x.2.2.2.2.1[k]).1
 nd : x.2.2.2.2.1.Nodup
theorem n8 {N gate i : Nat} {jY : Int} {kinds to : IL} {x : Nd} (h : HN i jY kinds to x) (nm : List UInt8) (hnm : nm = [UInt8.ofNat (65 + i)]) (hz : jY = cK gate N i)
  (hto : ∀ e : Int, (e, ()) ∈ to → (i : Int) < e ∧ e < N ∧ cK gate N e = jY)
  (hk : ∀ k : Int, (k, ()) ∈ kinds → 1 ≤ k ∧ k ≤ 7 ∧ k ≠ 6 ∧ (k = 1 ↔ i = 0) ∧ (i ≤ gate → k ≤ 6) ∧ (k = 3 → jY = 0) ∧ (k = 7 → jY = 1))
  (h4 : (4, ()) ∈ kinds → i ≠ 0) (hig : i ≠ gate) (hz0 : i = 0 → jY = 0) (len : Int) (hlen : len = if x.2.1 = 7 then 0 else x.2.2.1) :
  iZ N gate i (nm, x.2.1, len, x.2.2.2.1, x.2.2.2.2.1, ()) := by
 obtain ⟨a1, a2, f, hf, hc⟩ := h
 have hfi := hto f hf
 have two : ∀ {k : Int} {g : Int}, k ≠ 5 → k ≠ 6 → (g, ()) ∈ to → ∀ (q : Nat) (hq : q < [(f, ()), (g, ())].length), iY N gate i k q ([(f, ()), (g, ())][q]).1 := fun {k g} k5 k6 hg q hq => by
  have hgi := hto g hg
  unfold iY
  rw [if_neg (by omega), if_neg (by omega)]
  match q, hq with
  | 0, _ => exact ⟨hfi.1, hfi.2.1, hfi.2.2.trans hz⟩
  | 1, _ => exact ⟨hgi.1, hgi.2.1, hgi.2.2.trans hz⟩
 have one : ∀ {k : Int}, k ≠ 5 → k ≠ 6 → ∀ (q : Nat) (hq : q < [(f, ())].length), iY N gate i k q ([(f, ())][q]).1 := fun {k} k5 k6 q hq => by
  unfold iY
  rw [if_neg (by omega), if_neg (by omega)]
  match q, hq with
  | 0, _ => exact ⟨hfi.1, hfi.2.1, hfi.2.2.trans hz⟩
 rcases hc with ⟨c1, c2, c3, c4, c5⟩ | ⟨c1, c2, c3, c4, g, hg, hgf, c5⟩ | ⟨c1, c2, c3, c4, c5⟩ | ⟨c2, k5, k4, c3, c4, c5⟩
 ·have hk' := hk 5 c2
  rw [c1, if_neg (by decide)] at hlen
  refine ⟨hnm, by simp only; omega, by simp only; omega, by simp only [c1]; exact hk'.2.2.2.1, by simp only [c1]; omega, fun _ => by simp only; omega, fun _ => by simp only; omega, fun _ => by simp only; omega, fun h => by simp only at h; omega, by simp only; rw [a2, hz],
   fun h => by simp only at h; omega, fun h => by simp only at h; omega, by simp only [c1, c5]; rfl, fun q hq => ?_, ?_⟩
  ·simp only [c5, c1] at hq ⊢
   unfold iY
   match q, hq with
   | 0, _ => rw [if_pos (by decide)]; rfl
   | 1, _ => rw [if_neg (by decide), if_neg (by decide)]; exact ⟨hfi.1, hfi.2.1, hfi.2.2.trans hz⟩
  ·simp only [c5]
   have : (i : Int) ≠ f := by omega
   simp [this]
 ·have hi0 := h4 c2
  rw [c1, if_neg (by decide)] at hlen
  refine ⟨hnm, by simp only; omega, by simp only; omega, by simp only [c1]; omega, by simp only [c1]; omega, fun _ => by simp only; omega, fun _ => by simp only; omega, fun h => by simp only at h; omega, fun h => by simp only at h; omega, by simp only; rw [a2, hz],
   fun h => by simp only at h; omega, fun h => by simp only at h; omega, by simp only [c1, c5]; rfl, fun q hq => ?_, ?_⟩
  ·simp only [c5, c1] at hq ⊢
   exact two (by decide) (by decide) hg q hq
  ·simp only [c5]
   simp [Ne.symm hgf]
 ·have hi0 := h4 c2
  rw [c1, if_neg (by decide)] at hlen
  refine ⟨hnm, by simp only; omega, by simp only; omega, by simp only [c1]; omega, by simp only [c1]; omega, fun _ => by simp only; omega, fun _ => by simp only; omega, fun h => by simp only at h; omega, fun h => by simp only at h; omega, by simp only; rw [a2, hz],
   fun h => by simp only at h; omega, fun h => by simp only at h; omega, by simp only [c1, c5]; rfl, fun q hq => ?_, ?_⟩
  ·simp only [c5, c1] at hq ⊢
   exact one (by decide) (by decide) q hq
  ·simp only [c5]; simp
 ·obtain ⟨b1, b2, b3, b4, b5, b6, b7⟩ := hk _ c2
  refine ⟨hnm, b1, by simp only; omega, b4, ⟨fun h => absurd h b3, fun h => absurd h hig⟩, b5, fun h => ?_, fun h => absurd h k5, fun h => ?_, by simp only; rw [a2, hz],
   fun h => ?_, fun h => ?_, ?_, fun q hq => ?_, ?_⟩
  ·simp only at h; rw [if_neg (by omega)] at hlen; simp only; omega
  ·simp only at h; rw [if_pos (by omega)] at hlen; exact hlen
  ·simp only at h
   rcases h with h | h | h
   ·rw [← hz]; exact hz0 (b4.1 h)
   ·rw [← hz]; exact b6 h
   ·exact absurd h b3
  ·simp only at h
   rw [← hz]
   rcases h with h | h
   ·exact b7 h
   ·omega
  ·simp only [c5]
   unfold fm
   rw [if_neg (by omega), if_neg (by omega)]; rfl
  ·simp only [c5] at hq ⊢
   exact one k5 b3 q hq
  ·simp only [c5]; simp
theorem G5 {N gate : Nat} {e : Int} {ln : Int} (nm : List UInt8) (hnm : nm = [UInt8.ofNat (65 + gate)]) (hg : 1 ≤ gate) (hN : gate + 4 ≤ N) (l1 : 1 ≤ ln) (l2 : ln ≤ 3) (he : (gate : Int) < e ∧ e < N ∧ cK gate N e = 1) :
  iZ N gate gate (nm, 6, ln, 0, [((N : Int) - 2, ()), (e, ())], ()) := by
 have hz : cK gate N (gate : Int) = 0 := by unfold cK; rw [if_pos (by omega)]
 refine ⟨hnm, show (1 : Int) ≤ 6 by decide, show (6 : Int) ≤ 9 by decide, by simp only; omega, by simp, fun _ => show (6 : Int) ≤ 6 by decide, fun _ => by simp only; omega, fun h => by simp at h, fun h => by simp at h, by simp only; rw [hz], fun _ => hz, fun h => by simp at h, rfl, fun q hq => ?_, ?_⟩
 ·unfold iY
  match q, hq with
  | 0, _ =>
   rw [if_neg (show ¬ ((6 : Int) = 5 ∧ 0 = 0) by decide), if_neg (show ¬ ((6 : Int) = 6 ∧ 0 = 1) by decide)]
   refine ⟨by show (gate : Int) < (N : Int) - 2; omega, by show (N : Int) - 2 < N; omega, ?_⟩
   show cK gate N ((N : Int) - 2) = _
   rw [hz]; unfold cK; rw [if_pos (by omega)]
  | 1, _ =>
   rw [if_neg (show ¬ ((6 : Int) = 5 ∧ 1 = 0) by decide), if_pos (show (6 : Int) = 6 ∧ 1 = 1 by decide)]
   exact he
 ·have : (N : Int) - 2 ≠ e := by
   rintro rfl
   have := he.2.2
   unfold cK at this
   rw [if_pos (by omega)] at this
   cases this
  simp [this]
theorem zM {N gate i : Nat} {k z : Int} (nm : List UInt8) (hnm : nm = [UInt8.ofNat (65 + i)]) (hk : k = 8 ∨ k = 9) (hi : gate < i) (hz : z = cK gate N i) (h8 : k = 8 → cK gate N i = 1) : iZ N gate i (nm, k, 0, z, [], ()) := by
 refine ⟨hnm, by simp only; omega, by simp only; omega, by simp only; omega, by simp only; omega, fun h => by omega, fun h => by simp only at h; omega, fun h => by simp only at h; omega, fun _ => rfl, hz, fun h => by simp only at h; omega, fun h => by simp only at h; exact h8 (by omega), ?_, fun q hq => by simp at hq, by simp⟩
 simp only
 unfold fm
 rw [if_pos hk]; rfl
theorem G6 {N gate i : Nat} {x : Nd} (h : iZ N gate i x) (hN : gate + 4 ≤ N) (hi : i < gate) (k5 : x.2.1 ≠ 5) (hn : (x.2.2.2.2.1.any fun y => y.1 == ((i + 1 : Nat) : Int)) = false) :
  iZ N gate i (x.1, x.2.1, x.2.2.1, x.2.2.2.1, (((i + 1 : Nat) : Int), ()) :: x.2.2.2.2.1.drop 1, ()) := by
 have k6 : x.2.1 ≠ 6 := fun e => by have := h.Nr.1 e; omega
 have kk := h.strip (by omega)
 have k1 := h.oQ
 have hc := h.Gy
 have hc1 : 1 ≤ x.2.2.2.2.1.length := by
  rw [hc]; unfold fm
  rw [if_neg (by omega)]
  split <;> decide
 have hz : cK gate N ((i + 1 : Nat) : Int) = cK gate N i := by
  unfold cK; rw [if_pos (by omega), if_pos (by omega)]
 refine ⟨h.name, h.oQ, h.Es, h.entry, h.Nr, h.strip, h.IK, h.K7, h.K8, h.jY, h.W4, h.W5, ?_, fun q hq => ?_, ?_⟩
 ·simp only [List.length_cons, List.length_drop]; omega
 ·match q, hq with
  | 0, _ =>
   unfold iY
   rw [if_neg (fun e => k5 e.1), if_neg (fun e => k6 e.1)]
   exact ⟨by show (i : Int) < ((i + 1 : Nat) : Int); omega, by show ((i + 1 : Nat) : Int) < N; omega, hz⟩
  | q + 1, hq =>
   have hq' : q + 1 < x.2.2.2.2.1.length := by simp only [List.length_cons, List.length_drop] at hq; omega
   have e := h.ex (q + 1) hq'
   have e2 : ((((i + 1 : Nat) : Int), ()) :: x.2.2.2.2.1.drop 1)[q + 1] = x.2.2.2.2.1[q + 1] := by
    simp only [List.getElem_cons_succ, List.getElem_drop, Nat.add_comm]
   simp only [e2]
   exact e
 ·refine List.nodup_cons.2 ⟨fun hm => ?_, h.nd.sublist (List.drop_sublist 1 _)⟩
  have hm' := List.mem_of_mem_drop hm
  have := List.any_eq_false.1 hn _ hm'
  simp at this
structure cG (N gate : Nat) (ns : List Nd) : Prop where
 len : ns.length = N
 g1 : 1 ≤ gate
 gN : gate + 4 ≤ N
 kU : N ≤ 11
 node : ∀ (j : Nat) (h : j < ns.length), iZ N gate j ns[j]
section
variable {N gate : Nat} (hg1 : 1 ≤ gate) (hgN : gate + 4 ≤ N) (hN : N ≤ 11)
abbrev D9 := Option (Lay × Sr × Unit) → Prop
theorem Om (j29) (Post : D9) (b : Int) (i : Nat) (s : Sr) (A : List Nd) (B : List Dv) (ns : List Nd) (dv : List Dv) (hi : i < N)
  (hN : N ≤ 11) (hj : ∀ zero : IL, (∀ y ∈ zero, (i : Int) < y.1 ∧ y.1 ≤ gate) → zero.length ≤ 20 → Post (j29 (b, (N : Int), (gate : Int), (N : Int) - 2, (i : Int), s, (), (), zero, [], A, B, ns, dv, ()))) (hgN : gate + 4 ≤ N) :
  Post (iter 100000 (pW j29) (b, (N : Int), (gate : Int), (N : Int) - 2, (i : Int), (i : Int) + 1, s, (), (), [], [], A, B, ns, dv, ())) := by
 refine ck (F := pW j29) (fun q z => ∃ zero : IL, z = (b, (N : Int), (gate : Int), (N : Int) - 2, (i : Int), (i : Int) + 1 + q, s, (), (), zero, [], A, B, ns, dv, ()) ∧ (∀ y ∈ zero, (i : Int) < y.1 ∧ y.1 ≤ gate) ∧ zero.length ≤ q) Post (gate - i) 100000 (by omega)
  ⟨[], by simp, by simp, by simp⟩ (fun rc q z hq hz => ?_) (fun rc z hz => ?_)
 ·obtain ⟨zero, rfl, h1, h2⟩ := hz
  simp only [pW]
  rw [if_pos (decide_eq_true (by omega)), if_pos (di (by omega)), if_pos (di (by omega)), ch (by omega) (by omega)]
  refine ⟨_, rfl, zero ++ [((i : Int) + 1 + q, ())], by rw [show (i : Int) + 1 + (q : Int) + 1 = (i : Int) + 1 + ((q + 1 : Nat) : Int) by omega], fun y hy => ?_, by simp only [List.length_append, List.length_cons, List.length_nil]; omega⟩
  rcases List.mem_append.1 hy with hy | hy
  ·exact h1 y hy
  ·rw [List.mem_singleton.1 hy]; simp only; omega
 ·obtain ⟨zero, rfl, h1, h2⟩ := hz
  simp only [pW]
  rw [if_neg (by simp only [decide_eq_true_eq]; omega)]
  exact hj zero h1 (by omega)
theorem Ok (j27) (Post : D9) (b : Int) (i m0 : Nat) (hm0 : m0 = if gate > i then gate else i) (s : Sr) (zero : IL) (A : List Nd) (B : List Dv) (ns : List Nd) (dv : List Dv) (hi : i < N)
  (hN : N ≤ 11) (hj : ∀ one : IL, (∀ y ∈ one, (i : Int) < y.1 ∧ (gate : Int) < y.1 ∧ y.1 < (N : Int) - 2) → one.length ≤ 20 → Post (j27 (b, (N : Int), (gate : Int), (N : Int) - 2, (i : Int), s, (), (), zero, one, A, B, ns, dv, ()))) (hgN : gate + 4 ≤ N) :
  Post (iter 100000 (pV j27) (b, (N : Int), (gate : Int), (N : Int) - 2, (i : Int), (m0 : Int) + 1, s, (), (), zero, [], A, B, ns, dv, ())) := by
 have hm : gate ≤ m0 ∧ i ≤ m0 := by subst hm0; split <;> omega
 refine ck (F := pV j27) (fun q z => ∃ one : IL, z = (b, (N : Int), (gate : Int), (N : Int) - 2, (i : Int), (m0 : Int) + 1 + q, s, (), (), zero, one, A, B, ns, dv, ()) ∧ (∀ y ∈ one, (i : Int) < y.1 ∧ (gate : Int) < y.1 ∧ y.1 < (N : Int) - 2) ∧ one.length ≤ q) Post (N - 2 - (m0 + 1)) 100000 (by omega)
  ⟨[], by simp, by simp, by simp⟩ (fun rc q z hq hz => ?_) (fun rc z hz => ?_)
 ·obtain ⟨one, rfl, h1, h2⟩ := hz
  simp only [pV]
  rw [if_pos (decide_eq_true (by omega)), if_pos (di (by omega)), if_pos (di (by omega)), ch (by omega) (by omega)]
  refine ⟨_, rfl, one ++ [((m0 : Int) + 1 + q, ())], by rw [show (m0 : Int) + 1 + (q : Int) + 1 = (m0 : Int) + 1 + ((q + 1 : Nat) : Int) by omega], fun y hy => ?_, by simp only [List.length_append, List.length_cons, List.length_nil]; omega⟩
  rcases List.mem_append.1 hy with hy | hy
  ·exact h1 y hy
  ·rw [List.mem_singleton.1 hy]; simp only; omega
 ·obtain ⟨one, rfl, h1, h2⟩ := hz
  simp only [pV]
  rw [if_neg (by simp only [decide_eq_true_eq]; omega)]
  exact hj one h1 (by omega)
theorem RD (i : Nat) (hi : i ≤ 20) : toBytes [(IntKind.u8.wrap (IntKind.i64.wrap (65 + (i : Int))), ())] = [UInt8.ofNat (65 + i)] := by
 rw [ch (by omega) (by omega)]
 have w8 : IntKind.u8.wrap (65 + (i : Int)) = 65 + i := by
  have : IntKind.u8.wrap (65 + (i : Int)) = (65 + (i : Int)) % 256 := by simp [IntKind.wrap, IntKind.bits, IntKind.signed]
  rw [this]; omega
 rw [w8]
 show [UInt8.ofNat (65 + (i : Int)).toNat] = _
 rw [show (65 + (i : Int)).toNat = 65 + i by omega]
theorem Sk (rc15) (b : Nat) (i : Nat) (s : Sr) (A : List Nd) (B : List Dv) (ns : List Nd) (dv : List Dv) (hi : i < N) (hs : cE s) (hg1 : 1 ≤ gate) (hgN : gate + 4 ≤ N) (hN : N ≤ 11) (hb : gate + 1 + b + 3 ≤ N)
  (hl : ns.length = i) (hn : ∀ (j : Nat) (h : j < ns.length), iZ N gate j ns[j]) (Post : D9)
  (hj : ∀ (s' : Sr) (x : Nd), cE s' → iZ N gate i x → Post (rc15 ((b : Int), (N : Int), (gate : Int), (N : Int) - 2, ((i + 1 : Nat) : Int), s', (), (), A, B, ns ++ [x], dv, ()))) :
  Post (pU 100000 (yB 100000) rc15 ((b : Int), (N : Int), (gate : Int), (N : Int) - 2, (i : Int), s, (), (), A, B, ns, dv, ())) := by
 simp only [pU, aa]
 rw [if_pos (decide_eq_true (by omega)), ch (x := (i : Int) + 1) (by omega) (by omega)]
 refine Om _ Post b i s A B ns dv hi hN (fun zero hz hzl => ?_) hgN
 simp only [Gb, aa]
 rw [if_pos (di (by omega)), if_pos (di (by omega))]
 have hm : (if (gate : Int) > (i : Int) then (gate : Int) else (i : Int)) = ((if gate > i then gate else i : Nat) : Int) := by split <;> split <;> omega
 rw [hm, ch (by split <;> omega) (by split <;> omega)]
 refine Ok _ Post b i _ rfl s _ A B ns dv hi hN (fun one ho hol => ?_) hgN
 simp only [Gc, aa]
 rw [if_pos (di (by omega)), if_pos (di (by omega)), ch (x := (N : Int) - 1) (by omega) (by omega)]
 have add : ∀ (s' : Sr) (x : Nd), cE s' → iZ N gate i ([UInt8.ofNat (65 + i)], x.2) → Post (yA (yz rc15) ((b : Int), (N : Int), (gate : Int), (N : Int) - 2, (i : Int), s', (), (), x, A, B, ns, dv, ())) := by
  intro s' x hs' hx
  simp only [yA, yz]
  rw [if_pos (di (by simp only [List.length_cons, List.length_nil]; omega)), if_pos (di (by simp only [List.length_cons, List.length_nil]; omega)), ch (x := (i : Int) + 1) (by omega) (by omega), RD i (by omega)]
  exact hj s' _ hs' hx
 have zi0 : i ≤ gate → cK gate N i = 0 := fun h => by unfold cK; rw [if_pos (by omega)]
 have hzero : ∀ e : Int, (e, ()) ∈ zero ++ [((N : Int) - 2, ())] → i < gate → (i : Int) < e ∧ e < N ∧ cK gate N e = 0 := fun e he h => by
  rcases List.mem_append.1 he with he | he
  ·have := hz _ he
   simp only at this
   exact ⟨this.1, by omega, by unfold cK; rw [if_pos (by omega)]⟩
  ·have he := List.mem_singleton.1 he
   simp only [Prod.mk.injEq, and_true] at he
   subst he
   exact ⟨by omega, by omega, by unfold cK; rw [if_pos (by omega)]⟩
 have hone : ∀ e : Int, (e, ()) ∈ one ++ [((N : Int) - 1, ())] → i + 3 ≤ N → (i : Int) < e ∧ e < N ∧ cK gate N e = 1 := fun e he h => by
  rcases List.mem_append.1 he with he | he
  ·have := ho _ he
   simp only at this
   exact ⟨this.1, by omega, by unfold cK; rw [if_neg (by omega)]⟩
  ·have he := List.mem_singleton.1 he
   simp only [Prod.mk.injEq, and_true] at he
   subst he
   exact ⟨by omega, by omega, by unfold cK; rw [if_neg (by omega)]⟩
 have pz : ∀ y ∈ zero ++ [((N : Int) - 2, ())], 0 ≤ y.1 := fun y hy => by
  rcases List.mem_append.1 hy with hy | hy
  ·have := hz _ hy; omega
  ·rw [List.mem_singleton.1 hy]; simp only; omega
 have po : ∀ y ∈ one ++ [((N : Int) - 1, ())], 0 ≤ y.1 := fun y hy => by
  rcases List.mem_append.1 hy with hy | hy
  ·have := ho _ hy; omega
  ·rw [List.mem_singleton.1 hy]; simp only; omega
 have lz : ∀ e : Int, (zero ++ [(e, ())]).length = zero.length + 1 := fun e => by simp
 have lo : ∀ e : Int, (one ++ [(e, ())]).length = one.length + 1 := fun e => by simp
 by_cases h0 : i = 0
 ·subst h0
  obtain ⟨x, s', hx, hs', gx⟩ := TJ hs (((0 : Nat) : Int)) 0 [(1, ())] (zero ++ [((N : Int) - 2, ())]) (by simp) (by simp) (by rw [lz]; omega) (by rw [lz]; omega) pz
  rw [if_pos (by simp), hx, Option.bind_some]
  refine add s' x hs' ?_
  have hk7 : x.2.1 ≠ 7 := by
   obtain ⟨_, _, f, _, hc⟩ := gx
   rcases hc with ⟨c, _⟩ | ⟨c, _⟩ | ⟨c, _⟩ | ⟨c, _⟩
   ·omega
   ·omega
   ·omega
   ·simp at c; omega
  have := n8 (N := N) (gate := gate) gx [UInt8.ofNat (65 + 0)] rfl (zi0 (by omega)).symm (fun e he => hzero e he (by omega)) (fun k hk => by
   simp only [List.mem_singleton, Prod.mk.injEq, and_true] at hk
   subst hk
   exact ⟨by decide, by decide, by decide, by simp, fun _ => by decide, fun _ => rfl, fun h => by cases h⟩) (fun h => by simp at h) (by omega) (fun _ => rfl) x.2.2.1 (by rw [if_neg hk7])
  exact this
 rw [if_neg (by simpa using h0)]
 by_cases h1 : i < gate
 ·obtain ⟨x, s', hx, hs', gx⟩ := TJ hs (i : Int) 0 [(2, ()), (3, ()), (4, ()), (5, ()), (3, ())] (zero ++ [((N : Int) - 2, ())]) (by simp) (by simp) (by rw [lz]; omega) (by rw [lz]; omega) pz
  rw [if_pos (decide_eq_true (by omega)), hx, Option.bind_some]
  refine add s' x hs' ?_
  have hk : ∀ k : Int, (k, ()) ∈ [((2 : Int), ()), (3, ()), (4, ()), (5, ()), (3, ())] → 2 ≤ k ∧ k ≤ 5 := fun k hk => by
   simp only [List.mem_cons, Prod.mk.injEq, and_true, List.not_mem_nil, or_false] at hk
   omega
  have hk7 : x.2.1 ≠ 7 := by
   obtain ⟨_, _, f, _, hc⟩ := gx
   rcases hc with ⟨c, _⟩ | ⟨c, _⟩ | ⟨c, _⟩ | ⟨c, _⟩
   ·omega
   ·omega
   ·omega
   ·have := hk _ c; omega
  have := n8 (N := N) (gate := gate) gx [UInt8.ofNat (65 + i)] rfl (zi0 (by omega)).symm (fun e he => hzero e he (by omega)) (fun k hk' => by
   have := hk k hk'
   exact ⟨by omega, by omega, by omega, by omega, fun _ => by omega, fun _ => rfl, fun h => by omega⟩) (fun _ => h0) (by omega) (fun h => absurd h h0) x.2.2.1 (by rw [if_neg hk7])
  exact this
 rw [if_neg (by simp only [decide_eq_true_eq]; omega)]
 by_cases h2 : i = gate
 ·obtain ⟨ln, s2, hl2, l1, l2, k2⟩ := Kt hs 1 3 (by decide) (by decide) (by decide)
  obtain ⟨v, s3, hv, v1, v2, k3⟩ := GA k2 (((one ++ [((N : Int) - 1, ())]).length : Nat) : Int) (by rw [lo]; omega) (by rw [lo]; omega)
  rw [if_pos (by simp only [beq_iff_eq]; omega), hl2, Option.bind_some]
  simp only
  rw [hv, Option.bind_some]
  simp only
  rw [if_pos (lu v1 v2), if_pos (decide_eq_true (by omega))]
  have hm : bg (0, ()) (one ++ [((N : Int) - 1, ())]) v ∈ one ++ [((N : Int) - 1, ())] := xy _ _ _ v1 v2
  have hm2 : ((bg (0, ()) (one ++ [((N : Int) - 1, ())]) v).1, ()) ∈ one ++ [((N : Int) - 1, ())] := hm
  refine add s3 _ k3 ?_
  have he := hone _ hm2 (by omega)
  have := G5 (N := N) (gate := gate) (ln := ln) [UInt8.ofNat (65 + i)] (by rw [h2]) hg1 hgN l1 l2 (by rw [h2] at he; exact he)
  exact (fun j (hj : j = gate) => by subst hj; exact this : ∀ j, j = gate → iZ N gate j ([UInt8.ofNat (65 + i)], 6, ln, 0, [((N : Int) - 2, ()), ((bg (0, ()) (one ++ [((N : Int) - 1, ())]) v).1, ())], ())) i h2
 rw [if_neg (by simp only [beq_iff_eq]; omega)]
 rw [show IntKind.i64.wrap (IntKind.i64.wrap ((gate : Int) + 1) + (b : Int)) = ((gate + 1 + b : Nat) : Int) by rw [ch (x := (gate : Int) + 1) (by omega) (by omega), ch (by omega) (by omega)]; omega]
 have zi1 : i + 3 ≤ N → cK gate N i = 1 := fun h => by unfold cK; rw [if_neg (by omega)]
 by_cases h3 : i < gate + 1 + b
 ·obtain ⟨x, s', hx, hs', gx⟩ := TJ hs (i : Int) 1 [(2, ()), (4, ()), (5, ()), (7, ())] (one ++ [((N : Int) - 1, ())]) (by simp) (by simp) (by rw [lo]; omega) (by rw [lo]; omega) po
  rw [if_pos (decide_eq_true (by omega)), hx, Option.bind_some]
  have hk : ∀ k : Int, (k, ()) ∈ [((2 : Int), ()), (4, ()), (5, ()), (7, ())] → k = 2 ∨ k = 4 ∨ k = 5 ∨ k = 7 := fun k hk => by
   simp only [List.mem_cons, Prod.mk.injEq, and_true, List.not_mem_nil, or_false] at hk
   exact hk
  have fin := fun (len : Int) (hlen : len = if x.2.1 = 7 then 0 else x.2.2.1) => n8 (N := N) (gate := gate) gx [UInt8.ofNat (65 + i)] rfl (zi1 (by omega)).symm (fun e he => hone e he (by omega)) (fun k hk' => by
   have := hk k hk'
   exact ⟨by omega, by omega, by omega, by omega, fun _ => by omega, fun _ => by omega, fun _ => rfl⟩) (fun _ => h0) h2 (fun h => absurd h h0) len hlen
  simp only
  by_cases h7 : x.2.1 = 7
  ·rw [if_pos (by simpa using h7)]
   exact add s' _ hs' (fin 0 (by rw [if_pos h7]))
  ·rw [if_neg (by simpa using h7)]
   exact add s' x hs' (fin x.2.2.1 (by rw [if_neg h7]))
 rw [if_neg (by simp only [decide_eq_true_eq]; omega)]
 by_cases h4 : i + 2 < N
 ·rw [if_pos (decide_eq_true (by omega))]
  exact add s _ hs (zM _ rfl (.inl rfl) (by omega) (zi1 (by omega)).symm (fun _ => zi1 (by omega)))
 ·rw [if_neg (by simp only [decide_eq_true_eq]; omega), ch (by omega) (by omega)]
  refine add s _ hs (zM _ rfl (.inr rfl) (by omega) ?_ (fun h => absurd h (by decide)))
  unfold cK
  split <;> omega
end
theorem oW {N gate i : Nat} {x : Nd} (h : iZ N gate i x) : 0 ≤ x.2.2.1 ∧ x.2.2.1 ≤ 4 := by
 by_cases h6 : 6 < x.2.1
 ·rw [h.K8 (by omega)]; omega
 ·have := h.IK (by omega); omega
theorem rT {N gate : Nat} {ns : List Nd} (h : cG N gate ns) : ∀ x ∈ ns, 0 ≤ x.2.2.1 ∧ x.2.2.1 ≤ 4 := fun x hx => by
 obtain ⟨j, hj, rfl⟩ := List.getElem_of_mem hx
 exact oW (h.node j hj)
theorem Ry {N gate : Nat} (j6) (Post : D9) (s : Sr) (A : List Nd) (B dv : List Dv) (ns : List Nd) (h : cG N gate ns)
  (hj : ∀ ns', cG N gate ns' → Post (j6 (s, (), (), A, B, ns', dv, ()))) : Post (iter 100000 (vn j6) ((gate : Int), 0, s, (), (), A, B, ns, dv, ())) := by
 have ll := h.kU
 have hgN := h.gN
 refine ck (F := vn j6) (fun q z => ∃ ns', z = ((gate : Int), (q : Int), s, (), (), A, B, ns', dv, ()) ∧ cG N gate ns') Post gate 100000 (by omega) ⟨ns, rfl, h⟩ (fun rc q z hq hz => ?_) (fun rc z hz => ?_)
 ·obtain ⟨us, rfl, hu⟩ := hz
  have hul := hu.len
  have hqu : q < us.length := by omega
  have nq := hu.node q hqu
  have hg : us.getD q ([], 0, 0, 0, [], ()) = us[q] := by rw [List.getD, List.getElem?_eq_getElem hqu]; rfl
  have hct : us[q].2.2.2.2.1.length ≤ 2 := by rw [nq.Gy]; unfold fm; split; exact Nat.zero_le _; split <;> decide
  have up : IntKind.i64.wrap ((q : Int) + 1) = ((q + 1 : Nat) : Int) := ch (by omega) (by omega)
  simp only [vn, aa]
  rw [if_pos (by simpa using hq), if_pos (ae hqu), if_pos (decide_eq_true (by simp only [Int.toNat_natCast]; omega))]
  simp only [Int.toNat_natCast, hg]
  by_cases h5 : us[q].2.1 = 5
  ·rw [if_neg (by simpa using h5)]
   simp only [yy, DI, up]
   rw [if_neg (by decide)]
   exact ⟨_, rfl, us, rfl, hu⟩
  ·rw [if_pos (by simpa using h5), if_pos (ae hqu), if_pos (decide_eq_true (by omega)), up, QF _ _ (by omega), Option.bind_some]
   simp only [yy, DI, up]
   cases hany : us[q].2.2.2.2.1.any fun y => y.1 == ((q + 1 : Nat) : Int) with
   | true =>
    rw [if_neg (by decide)]
    exact ⟨_, rfl, us, rfl, hu⟩
   | false =>
    have hc1 : 1 ≤ us[q].2.2.2.2.1.length := by
     rw [nq.Gy]; unfold fm
     have := nq.strip (by omega)
     rw [if_neg (by omega)]; split <;> decide
    have hcut : ig us[q].2.2.2.2.1 1 ((us[q].2.2.2.2.1.length : Nat) : Int) = us[q].2.2.2.2.1.drop 1 := by
     show (us[q].2.2.2.2.1.drop 1).take _ = _
     rw [List.take_of_length_le]
     simp only [List.length_drop]
     omega
    simp only [Int.toNat_natCast, hg, hcut]
    rw [if_pos (by decide), if_pos (ae hqu), if_pos (decide_eq_true (by omega)), if_pos (by have := kA (a := 1) hc1 (Nat.le_refl us[q].2.2.2.2.1.length); exact this), if_pos (di (by simp only [List.length_cons, List.length_nil, List.length_drop]; omega)), if_pos (di (by simp only [List.length_cons, List.length_nil, List.length_drop]; omega)), if_pos (ae hqu), if_pos (decide_eq_true (by omega))]
    refine ⟨_, rfl, _, rfl, ?_⟩
    refine ⟨by rw [List.length_set]; exact hul, hu.g1, hu.gN, hu.kU, fun j hj => ?_⟩
    rw [List.getElem_set]
    split
    ·rename_i e
     subst e
     exact G6 nq hu.gN hq h5 hany
    ·exact hu.node j (by rw [List.length_set] at hj; exact hj)
 ·obtain ⟨us, rfl, hu⟩ := hz
  simp only [vn]
  rw [if_neg (by simp)]
  exact hj us hu
theorem e8 {s : Sr} (hs : cE s) : ∃ N gate ns ds s', Th (s, ()) = some ((ns, ds, ()), s', ()) ∧ cE s' ∧ cG N gate ns ∧ DevG ns ds := by
 obtain ⟨a', s1, ha, a1, a2, k1⟩ := Kt hs 1 3 (by decide) (by decide) (by decide)
 obtain ⟨b', s2, hb, b1, b2, k2⟩ := Kt k1 0 3 (by decide) (by decide) (by decide)
 obtain ⟨c', s3, hc, c1, c2, k3⟩ := Kt k2 1 2 (by decide) (by decide) (by decide)
 obtain ⟨a, rfl⟩ : ∃ n : Nat, a' = n := ⟨a'.toNat, by omega⟩
 obtain ⟨b, rfl⟩ : ∃ n : Nat, b' = n := ⟨b'.toNat, by omega⟩
 obtain ⟨c, rfl⟩ : ∃ n : Nat, c' = n := ⟨c'.toNat, by omega⟩
 have e0 : Th (s, ()) = Tf 100000 s := rfl
 rw [e0]
 unfold Tf
 rw [ha, Option.bind_some]
 simp only
 rw [hb, Option.bind_some]
 simp only
 rw [hc, Option.bind_some]
 simp only [aa]
 obtain ⟨N, hN⟩ : ∃ N : Nat, N = a + 1 + b + c + 2 := ⟨_, rfl⟩
 have w : IntKind.i64.wrap (IntKind.i64.wrap (IntKind.i64.wrap (IntKind.i64.wrap ((a : Int) + 1) + (b : Int)) + (c : Int)) + 2) = (N : Int) := by
  rw [ch (x := (a : Int) + 1) (by omega) (by omega), ch (x := (a : Int) + 1 + b) (by omega) (by omega), ch (x := (a : Int) + 1 + b + c) (by omega) (by omega), ch (by omega) (by omega)]; omega
 rw [w, ch (x := (N : Int) - 2) (by omega) (by omega)]
 refine ck (F := pU 100000 (yB 100000)) (fun q z => ∃ (s' : Sr) (ns : List Nd), z = ((b : Int), (N : Int), (a : Int), (N : Int) - 2, (q : Int), s', (), (), [], [], ns, [], ()) ∧ cE s' ∧ ns.length = q ∧ ∀ (j : Nat) (h : j < ns.length), iZ N a j ns[j])
  (fun o => ∃ N gate ns ds s', o = some ((ns, ds, ()), s', ()) ∧ cE s' ∧ cG N gate ns ∧ DevG ns ds) N 100000 (by omega) ⟨s3, [], rfl, k3, rfl, fun j h => absurd h (Nat.not_lt_zero _)⟩ (fun rc q z hq hz => ?_) (fun rc z hz => ?_)
 ·obtain ⟨s4, ns, rfl, k4, l4, n4⟩ := hz
  refine Sk (N := N) (gate := a) rc b q s4 [] [] ns [] hq k4 (by omega) (by omega) (by omega) (by omega) l4 n4 (fun o => ∃ z', o = rc z' ∧ ∃ (s' : Sr) (ns : List Nd), z' = ((b : Int), (N : Int), (a : Int), (N : Int) - 2, ((q + 1 : Nat) : Int), s', (), (), [], [], ns, [], ()) ∧ cE s' ∧ ns.length = q + 1 ∧ ∀ (j : Nat) (h : j < ns.length), iZ N a j ns[j]) fun s5 x k5 gx => ?_
  refine ⟨_, rfl, s5, ns ++ [x], rfl, k5, by simp [l4], fun j hj => ?_⟩
  simp only [List.length_append, List.length_cons, List.length_nil] at hj
  by_cases hjn : j < ns.length
  ·rw [List.getElem_append_left hjn]; exact n4 j hjn
  ·have : j = q := by omega
   subst this
   rw [List.getElem_append_right (by omega)]
   simp only [l4, Nat.sub_self, List.getElem_cons_zero]
   exact gx
 ·obtain ⟨s4, ns, rfl, k4, l4, n4⟩ := hz
  have hL : cG N a ns := ⟨l4, by omega, by omega, by omega, n4⟩
  simp only [pU]
  rw [if_neg (by simp)]
  have fin : ∀ (s5 : Sr) (us : List Nd), cE s5 → cG N a us → ∃ N gate ns ds s', yC (s5, (), (), [], [], us, [], ()) = some ((ns, ds, ()), s', ()) ∧ cE s' ∧ cG N gate ns ∧ DevG ns ds := by
   intro s5 us k5 hu
   obtain ⟨ds, s6, hd, k6, dd⟩ := Y2 k5 us [] (by have := hu.len; have := hu.kU; omega) (fun x hx => by have := rT hu x hx; omega)
   simp only [yC]
   rw [hd, Option.bind_some]
   exact ⟨N, a, us, ds, s6, rfl, k6, hu, dd⟩
  simp only [yB, aa]
  obtain ⟨v, s5, hv, v1, v2, k5⟩ := GA k4 4 (by decide) (by decide)
  rw [hv, Option.bind_some]
  simp only
  by_cases h0 : 0 < v
  ·rw [if_pos (decide_eq_true h0)]
   exact Ry yC (fun o => ∃ N gate ns ds s', o = some ((ns, ds, ()), s', ()) ∧ cE s' ∧ cG N gate ns ∧ DevG ns ds) s5 [] [] [] ns hL fun us hu => fin s5 us k5 hu
  ·rw [if_neg (by simpa using h0)]
   exact fin s5 ns k5 hL
theorem Zw (c : Int) : Hz (c, ()) = some (decide (65 ≤ c) && decide (c ≤ 90), ()) := by
 show Pe 0 c = _
 unfold Pe; simp only [aa, Gd]; split <;> (try simp_all) <;> omega
theorem Zq (i : Nat) (hi : i ≤ 20) : PA ([UInt8.ofNat (65 + i)], 12, ()) = some (true, ()) := by
 have hc : (UInt8.ofNat (65 + i)).toNat = 65 + i := by rw [UInt8.toNat_ofNat']; omega
 have hs : EZ [UInt8.ofNat (65 + i)] 0 = ((65 + i : Nat) : Int) := by show (((UInt8.ofNat (65 + i)).toNat : Nat) : Int) = _; rw [hc]
 have Rc : Hz (((65 + i : Nat) : Int), ()) = some (true, ()) := by
  rw [Zw, decide_eq_true (by omega), decide_eq_true (by omega)]; rfl
 show Mw 100000 [UInt8.ofNat (65 + i)] 12 = _
 unfold Mw
 simp only [aa]
 rw [if_pos (by simp), if_pos (by simp), if_pos (by simp [bt]), hs, Rc, Option.bind_some]
 simp only
 rw [if_pos trivial, show (100000 : Nat) = 99998 + 1 + 1 from rfl, gm]
 simp only [yt, aa]
 rw [if_pos (by simp), if_pos (by simp [bt]), hs, Rc, Option.bind_some]
 simp only
 rw [if_pos trivial]
 simp only [F4]
 rw [if_neg (by decide), gm]
 simp only [yt]
 rw [if_neg (by rw [ch (by decide) (by decide)]; simp)]
 rfl
theorem TP (k : Int) : yJ (k, ()) = some (decide (1 ≤ k) && decide (k ≤ 6), ()) := by
 show O5 0 k = _
 unfold O5; simp only [aa, Fx]; split <;> (try simp_all) <;> omega
theorem Zr {N gate i : Nat} {x : Nd} (h : iZ N gate i x) : PB (x, ()) = some (true, ()) := by
 have h1 := h.oQ
 show Pb 0 x = _
 unfold Pb
 rw [TP, Option.bind_some, decide_eq_true h1, Bool.true_and]
 by_cases h6 : x.2.1 ≤ 6
 ·have h7 := h.IK h6
  rw [decide_eq_true h6, if_neg (by decide)]
  simp only [aa, F5, F6]
  by_cases h5 : x.2.1 = 5
  ·have := h.K7 h5
   rw [if_pos (by simpa using h5), if_pos (by simpa using this), decide_eq_true (by omega)]
  ·rw [if_neg (by simpa using h5), if_pos (decide_eq_true (by omega)), decide_eq_true (by omega)]
 ·rw [decide_eq_false h6, if_pos (by decide), h.K8 (by omega)]; rfl
theorem Zx (k : Int) : PG (k, ()) = some ((fm k : Int), ()) := by
 show Pf 0 k = _
 unfold Pf fm
 simp only [aa, Ge, Gf]
 by_cases h8 : k = 8
 ·subst h8; rfl
 by_cases h9 : k = 9
 ·subst h9; rfl
 rw [if_neg (by simpa using h8), show (k == 9) = false by simpa using h9, if_neg (by decide), if_neg (show ¬ (k = 8 ∨ k = 9) by omega)]
 by_cases h4 : k = 4
 ·subst h4; rfl
 by_cases h5 : k = 5
 ·subst h5; rfl
 by_cases h6 : k = 6
 ·subst h6; rfl
 rw [if_neg (by simpa using h4), if_neg (by simpa using h5), show (k == 6) = false by simpa using h6, if_neg (by decide), if_neg (show ¬ (k = 4 ∨ k = 5 ∨ k = 6) by omega)]
 rfl
theorem Xr (l : IL) (x : Int) (hl : l.length ≤ 90000) (h : ∀ y ∈ l, y.1 ≠ x) : JV (l, x, ()) = some (false, ()) := by
 have : MZ (l, x, ()) = some (-1, ()) := by
  show Hl 100000 l x = _
  unfold Hl
  simp only [aa]
  refine ak (F := ni yw) (fun k : Nat => (l, x, (l.length : Int), (k : Int), ())) l.length 100000 (by omega) (fun rc k hk => ?_) (fun rc => ?_)
  ·simp only [ni]
   have := h l[k] (List.getElem_mem hk)
   rw [if_pos (by simpa using hk), if_pos (ae hk), bj _ _ _ hk, if_neg (by simpa using fun e => this e.symm), cT hk]
  ·simp only [ni]
   rw [if_neg (by simp)]; rfl
 show JH 0 l x = _
 unfold JH
 rw [this]; rfl
theorem oR {N gate : Nat} {ns : List Nd} (h : cG N gate ns) {i : Nat} (hi : i < N) : bg ([], 0, 0, 0, [], ()) ns (i : Int) = ns[i]'(by rw [h.len]; exact hi) := bj _ _ _ (by rw [h.len]; exact hi)
theorem Zs {N gate : Nat} {ns : List Nd} {ds : List Dv} (h : cG N gate ns) {i : Nat} (hi : i < N) : MY ((ns, ds, ()), (i : Int), ()) = some (true, ()) := by
 have hl := h.len
 have hil : i < ns.length := by omega
 have hn := h.node i hil
 have ll := h.kU
 generalize hx : ns[i] = x at hn
 have hlat : bg ([], 0, 0, 0, [], ()) ns (i : Int) = x := by rw [oR h hi, hx]
 have hct : x.2.2.2.2.1.length ≤ 2 := by rw [hn.Gy]; unfold fm; split; exact Nat.zero_le _; split <;> decide
 show Mz 100000 (ns, ds, ()) (i : Int) = _
 unfold Mz
 simp only
 rw [if_pos (ae hil), hlat, Zx, Option.bind_some]
 simp only
 rw [if_neg (by simp [hn.Gy])]
 simp only [aa]
 refine ak (F := tn F7) (fun k : Nat => ((i : Int), x.2.2.2.2.1, (x.2.2.2.2.1.length : Int), (k : Int), (ns, ds, ()), x, ())) x.2.2.2.2.1.length 100000 (by omega) (fun rc k hk => ?_) (fun rc => ?_)
 ·have he := hn.ex k hk
  have own : ∀ b : Bool, b = (decide (x.2.1 = 5) && decide (k = 0)) → yu rc ((i : Int), (k : Int), (x.2.2.2.2.1[k]).1, b, x.2.2.2.2.1, (x.2.2.2.2.1.length : Int), (k : Int), (ns, ds, ()), x, ()) = rc ((i : Int), x.2.2.2.2.1, (x.2.2.2.2.1.length : Int), ((k + 1 : Nat) : Int), (ns, ds, ()), x, ()) := by
   intro b hb
   have fact : 0 ≤ (x.2.2.2.2.1[k]).1 ∧ (x.2.2.2.2.1[k]).1 < N ∧ ((x.2.2.2.2.1[k]).1 == (i : Int)) = b := by
    unfold iY at he
    by_cases hc : x.2.1 = 5 ∧ k = 0
    ·rw [if_pos hc] at he
     refine ⟨by omega, by omega, ?_⟩
     rw [hb, he, decide_eq_true hc.1, decide_eq_true hc.2]; simp
    ·rw [if_neg hc] at he
     refine ⟨by omega, he.2.1, ?_⟩
     have hb' : b = false := by rw [hb]; simp only [Bool.and_eq_false_iff, decide_eq_false_iff_not]; omega
     rw [hb']; simp; omega
   obtain ⟨f1, f2, f3⟩ := fact
   have f4 : (x.2.2.2.2.1.take k).any (fun y => y.1 == (x.2.2.2.2.1[k]).1) = false := List.any_eq_false.2 fun y hy => by
    obtain ⟨j, hj, rfl⟩ := List.getElem_of_mem hy
    rw [List.length_take] at hj
    have := (List.pairwise_iff_getElem.1 hn.nd) j k (by omega) hk (by omega)
    simp only [List.getElem_take, beq_iff_eq]
    exact fun e => this (Prod.ext e rfl)
   have hcut : ig x.2.2.2.2.1 0 (k : Int) = x.2.2.2.2.1.take k := by simp [ig]
   have hc0 : fa 0 (k : Int) x.2.2.2.2.1.length = true := kA (a := 0) (Nat.zero_le _) (Nat.le_of_lt hk)
   simp only [yu, aa]
   rw [if_neg (by simp only [decide_eq_true_eq]; omega), if_neg (by simp only [decide_eq_true_eq, hl]; omega), f3, if_neg (by cases b <;> decide)]
   rw [if_pos hc0, hcut, Xr _ _ (by rw [List.length_take]; omega) (fun y hy => by have := List.any_eq_false.1 f4 y hy; simpa using this), Option.bind_some]
   simp only [F8]
   rw [if_neg (by decide), cT hk]
  simp only [tn, aa]
  rw [if_pos (by simpa using hk), if_pos (ae hk), bj _ _ _ hk]
  by_cases h5 : x.2.1 = 5
  ·rw [if_pos (by simpa using h5)]
   refine own _ ?_
   rw [decide_eq_true h5, Bool.true_and, Bool.eq_iff_iff]
   simp
  ·rw [if_neg (by simpa using h5)]
   refine own _ ?_
   rw [decide_eq_false h5]; rfl
 ·simp only [tn]
  rw [if_neg (by simp)]; rfl
theorem Zf {N gate : Nat} {ns : List Nd} {ds : List Dv} (h : cG N gate ns) {i : Nat} (hi : i < N) : MR ((ns, ds, ()), (i : Int), ()) = some (0, ()) := by
 have hl := h.len
 have hil : i < ns.length := by omega
 have hn := h.node i hil
 have ll := h.kU
 have S8 := Zs (ds := ds) h hi
 generalize hx : ns[i] = x at hn
 have hlat : bg ([], 0, 0, 0, [], ()) ns (i : Int) = x := by rw [oR h hi, hx]
 have k1 := hn.oQ
 have k9 := hn.Es
 show O7 0 (ns, ds, ()) (i : Int) = _
 unfold O7
 simp only
 rw [if_pos (ae hil), hlat, hn.name, Zq i (by omega), Option.bind_some]
 simp only [aa]
 rw [if_neg (by decide), if_neg (by simp only [decide_eq_true_eq]; omega), decide_eq_false (show ¬ 9 < x.2.1 by omega)]
 simp only [FD, aa]
 rw [if_neg (by decide), Zr hn, Option.bind_some]
 simp only
 rw [if_neg (by decide), S8, Option.bind_some]
 have hz : x.2.2.2.1 = 0 ∨ x.2.2.2.1 = 1 := by rw [hn.jY]; unfold cK; split <;> simp
 simp only [FE]
 rcases hz with hz | hz
 ·rw [hz, if_neg (by decide), if_neg (by decide)]
 ·rw [hz, if_pos (by decide), if_neg (by decide), if_neg (by decide)]
theorem Zg {N gate : Nat} {ns : List Nd} {ds : List Dv} (h : cG N gate ns) : ∃ t : Int, MS ((ns, ds, ()), ()) = some (t, ()) ∧ t ≤ 80 := by
 have hl := h.len
 have ll := h.kU
 show ∃ t : Int, Ml 100000 (ns, ds, ()) = some (t, ()) ∧ _
 unfold Ml
 simp only [aa]
 refine ck (F := sU FF) (fun k z => ∃ t : Int, z = (t, ns, (ns.length : Int), (k : Int), ()) ∧ 0 ≤ t ∧ t ≤ 4 * k) (fun o => ∃ t : Int, o = some (t, ()) ∧ t ≤ 80) ns.length 100000 (by omega) ⟨0, rfl, by omega, by omega⟩ (fun rc k z hk hz => ?_) (fun rc z hz => ?_)
 ·obtain ⟨t, rfl, t1, t2⟩ := hz
  have := rT h ns[k] (List.getElem_mem hk)
  simp only [sU]
  rw [if_pos (by simpa using hk), if_pos (ae hk), bj _ _ _ hk, cT hk, ch (by omega) (by omega)]
  exact ⟨_, rfl, t + ns[k].2.2.1, rfl, by omega, by omega⟩
 ·obtain ⟨t, rfl, t1, t2⟩ := hz
  simp only [sU]
  rw [if_neg (by simp)]
  exact ⟨t, rfl, by omega⟩
theorem zJ {i j : Nat} (hi : i ≤ 20) (hj : j ≤ 20) (h : ([UInt8.ofNat (65 + i)] == [UInt8.ofNat (65 + j)]) = true) : i = j := by
 simp only [beq_iff_eq, List.cons.injEq, and_true] at h
 have := congrArg UInt8.toNat h
 rw [UInt8.toNat_ofNat', UInt8.toNat_ofNat'] at this
 omega
theorem Zt {N gate : Nat} {ns : List Nd} {ds : List Dv} (h : cG N gate ns) {i : Nat} (hi : i < N) : PD ((ns, ds, ()), [UInt8.ofNat (65 + i)], ()) = some ((i : Int), ()) := by
 have hl := h.len
 have ll := h.kU
 show MA 100000 (ns, ds, ()) [UInt8.ofNat (65 + i)] = _
 unfold MA
 simp only [aa]
 refine ak (F := tt yv (F9 yv)) (fun k : Nat => (ns, (ns.length : Int), (k : Int), ([UInt8.ofNat (65 + i)], ()), ())) i 100000 (by omega) (fun rc k hk => ?_) (fun rc => ?_)
 ·have hk' : k < ns.length := by omega
  simp only [tt]
  rw [if_pos (by simpa using hk'), if_pos (ae hk'), bj _ _ _ hk', (h.node k hk').name, if_neg (fun e => by have := zJ (by omega) (by omega) e; omega), cT hk']
 ·have hi' : i < ns.length := by omega
  simp only [tt]
  rw [if_pos (by simpa using hi'), if_pos (ae hi'), bj _ _ _ hi', (h.node i hi').name, if_pos (by simp)]
  rfl
theorem Zh {N gate : Nat} {ns : List Nd} {ds : List Dv} (h : cG N gate ns) : MT ((ns, ds, ()), ()) = some (true, ()) := by
 have hl := h.len
 have ll := h.kU
 show Mm 100000 (ns, ds, ()) = _
 unfold Mm
 simp only [aa]
 refine ak (F := sV FG) (fun k : Nat => (ns, (ns.length : Int), (k : Int), (ns, ds, ()), ())) ns.length 100000 (by omega) (fun rc k hk => ?_) (fun rc => ?_)
 ·simp only [sV]
  rw [if_pos (by simpa using hk), if_pos (ae hk), bj _ _ _ hk, (h.node k hk).name, Zt h (by omega), Option.bind_some]
  simp only
  rw [if_neg (by simp), cT hk]
 ·simp only [sV]
  rw [if_neg (by simp)]; rfl
theorem xk {N gate : Nat} {ns : List Nd} (h : cG N gate ns) {i : Nat} (hi : i < ns.length) (k : Nat) (hk : k < ns[i].2.2.2.2.1.length) :
  ∃ (e : Nat) (he : e < ns.length), (ns[i].2.2.2.2.1[k]).1 = (e : Int) ∧ ns[e].2.1 ≠ 1 ∧ ns[e].2.2.2.1 = (if ns[i].2.1 = 6 ∧ k = 1 then 1 else ns[i].2.2.2.1) := by
 have hn := h.node i hi
 have hl := h.len
 have he := hn.ex k hk
 unfold iY at he
 by_cases hc : ns[i].2.1 = 5 ∧ k = 0
 ·rw [if_pos hc] at he
  refine ⟨i, hi, he, by omega, ?_⟩
  rw [if_neg (by omega)]
 ·rw [if_neg hc] at he
  obtain ⟨a1, a2, a3⟩ := he
  refine ⟨((ns[i].2.2.2.2.1[k]).1).toNat, by omega, by omega, fun e => ?_, ?_⟩
  ·have := (h.node _ (by omega)).entry.1 e
   omega
  ·rw [(h.node _ (by omega)).jY, hn.jY, show ((((ns[i].2.2.2.2.1[k]).1).toNat : Nat) : Int) = (ns[i].2.2.2.2.1[k]).1 by omega]
   exact a3
theorem Zi {N gate : Nat} {ns : List Nd} {ds : List Dv} (h : cG N gate ns) {i : Nat} (hi : i < N) : MU ((ns, ds, ()), (i : Int), ()) = some (true, ()) := by
 have hl := h.len
 have hil : i < ns.length := by omega
 have hn := h.node i hil
 have ll := h.kU
 have hex := xk h hil
 have hz := hn.jY
 generalize hx : ns[i] = x at hn hex hz
 have hlat : bg ([], 0, 0, 0, [], ()) ns (i : Int) = x := by rw [oR h hi, hx]
 have hct : x.2.2.2.2.1.length ≤ 2 := by rw [hn.Gy]; unfold fm; split; exact Nat.zero_le _; split <;> decide
 have main : pN 100000 ((ns, ds, ()), x, ()) = some (true, ()) := by
  simp only [pN, aa]
  refine ak (F := sX FL) (fun k : Nat => (x.2.2.2.2.1, (x.2.2.2.2.1.length : Int), (k : Int), (ns, ds, ()), x, ())) x.2.2.2.2.1.length 100000 (by omega) (fun rc k hk => ?_) (fun rc => ?_)
  ·obtain ⟨e, he, e1, e2, e3⟩ := hex k hk
   have fin : ∀ want : Int, want = (if x.2.1 = 6 ∧ k = 1 then 1 else x.2.2.2.1) → yj rc ((x.2.2.2.2.1[k]).1, want, x.2.2.2.2.1, (x.2.2.2.2.1.length : Int), (k : Int), (ns, ds, ()), x, ()) = rc (x.2.2.2.2.1, (x.2.2.2.2.1.length : Int), ((k + 1 : Nat) : Int), (ns, ds, ()), x, ()) := by
    intro want hw
    simp only [yj, aa]
    rw [e1, if_pos (ae he), bj _ _ _ he, if_neg (by simpa using e2), if_pos (ae he), e3, ← hw]
    simp only [FM]
    rw [if_neg (by simp), cT hk]
   simp only [sX, aa]
   rw [if_pos (by simpa using hk), if_pos (ae hk), bj _ _ _ hk]
   simp only [FN]
   by_cases h6 : x.2.1 = 6
   ·rw [if_pos (by simpa using h6)]
    by_cases hk1 : k = 1
    ·subst hk1
     rw [if_pos (by simp)]
     exact fin 1 (by rw [if_pos ⟨h6, rfl⟩])
    ·rw [if_neg (by simp; omega)]
     exact fin _ (by rw [if_neg (fun e => hk1 e.2)])
   ·rw [if_neg (by simpa using h6), if_neg (by decide)]
    exact fin _ (by rw [if_neg (fun e => h6 e.1)])
  ·simp only [sX]
   rw [if_neg (by simp)]; rfl
 show Mn 100000 (ns, ds, ()) (i : Int) = _
 unfold Mn
 simp only
 rw [if_pos (ae hil), hlat]
 simp only [aa]
 have k11 : ∀ b : Bool, (b = true → x.2.1 = 1 ∨ x.2.1 = 3 ∨ x.2.1 = 6) → vh (pN 100000) (x.2.1, b, (ns, ds, ()), x, ()) = some (true, ()) := by
  intro b hb
  simp only [vh, aa]
  cases b with
  | true =>
   have := hn.W4 (hb rfl)
   rw [if_pos rfl, hz, this, if_neg (by decide)]
   exact main
  | false =>
   rw [if_neg (by decide)]
   have k12 : ∀ b : Bool, (b = true → x.2.1 = 7 ∨ x.2.1 = 8) → vi (pN 100000) (b, (ns, ds, ()), x, ()) = some (true, ()) := by
    intro b hb
    simp only [vi]
    cases b with
    | true =>
     have := hn.W5 (hb rfl)
     rw [if_pos rfl, hz, this, if_neg (by decide)]
     exact main
    | false => rw [if_neg (by decide)]; exact main
   by_cases h7 : x.2.1 = 7
   ·rw [if_pos (by simpa using h7)]; exact k12 _ fun _ => .inl h7
   ·rw [if_neg (by simpa using h7)]; exact k12 _ fun h => .inr (by simpa using h)
 by_cases h1 : x.2.1 = 1
 ·rw [if_pos (by simpa using h1)]; exact k11 _ fun _ => .inl h1
 ·rw [if_neg (by simpa using h1)]
  by_cases h3 : x.2.1 = 3
  ·rw [if_pos (by simpa using h3)]; exact k11 _ fun _ => .inr (.inl h3)
  ·rw [if_neg (by simpa using h3)]; exact k11 _ fun h => .inr (.inr (by simpa using h))
theorem zI (l : List (Int × Int)) (n v m : Int) : gL (nz l n v) m = if n = m then v else gL l m := by
 induction l with
 | nil =>
  simp only [nz, gL]
  by_cases h : n = m
  ·rw [if_pos h, if_pos (by simpa using h)]
  ·rw [if_neg h, if_neg (by simpa using h)]
 | cons p r ih =>
  obtain ⟨a, b⟩ := p
  by_cases ha : a = n
  ·subst ha
   simp only [nz, beq_self_eq_true, if_true, gL]
   by_cases h : a = m
   ·subst h; simp
   ·rw [if_neg h, if_neg (by simpa using h), if_neg (by simpa using h)]
  ·have h1 : (a == n) = false := by simpa using ha
   simp only [nz, h1, Bool.false_eq_true, if_false, gL]
   by_cases hm : a = m
   ·have h2 : (a == m) = true := by simpa using hm
    simp only [h2, if_true]
    rw [if_neg (by omega)]
   ·have h2 : (a == m) = false := by simpa using hm
    simp only [h2, Bool.false_eq_true, if_false]
    exact ih
def rR (ns : List Nd) (k : Nat) : IL := (ns.getD k ([], 0, 0, 0, [], ())).2.2.2.2.1
def BP (ns : List Nd) (k i : Nat) : Nat := if k = i then 0 else (rR ns k).countP fun y => y.1 == (i : Int)
def kK (N : Nat) (out : List Nat) : List Nat := (List.range N).filter fun k => !out.contains k
def wN (ns : List Nd) (S : List Nat) (i : Nat) : Nat := (S.map fun k => BP ns k i).sum
def rh (ns : List Nd) (N : Nat) (out : List Nat) : Option Nat := (List.range N).find? fun i => !out.contains i && wN ns (kK N out) i == 0
def jS (ns : List Nd) (N : Nat) : Nat → List Nat → List Nat
 | 0, out => out
 | n + 1, out => match rh ns N out with
  | some i => jS ns N n (out ++ [i])
  | none => out
def eU (l : List Nat) : IL := l.map fun k : Nat => ((k : Int), ())
theorem SH {ns : List Nd} {c : Nat} (h : ∀ k i, BP ns k i ≤ c) (S : List Nat) (i : Nat) : wN ns S i ≤ c * S.length := by
 induction S with
 | nil => simp [wN]
 | cons k r ih =>
  simp only [wN, List.map_cons, List.sum_cons, List.length_cons] at ih ⊢
  have := h k i
  rw [Nat.mul_succ]; omega
theorem PS {ns : List Nd} {N : Nat} {out : List Nat} {x i : Nat} (hx : x < N) (ho : x ∉ out) : wN ns (kK N out) i = BP ns x i + wN ns (kK N (out ++ [x])) i := by
 have key : ∀ l : List Nat, l.Nodup → x ∈ l → ((l.filter fun k => !out.contains k).map fun k => BP ns k i).sum = BP ns x i + ((l.filter fun k => !(out ++ [x]).contains k).map fun k => BP ns k i).sum := by
  intro l
  induction l with
  | nil => intro _ h; cases h
  | cons a r ih =>
   intro hn hm
   obtain ⟨hn1, hn2⟩ := List.nodup_cons.1 hn
   by_cases hax : a = x
   ·subst hax
    have e1 : (r.filter fun k => !(out ++ [a]).contains k) = r.filter fun k => !out.contains k := List.filter_congr fun k hk => by
     have : k ≠ a := fun e => hn1 (e ▸ hk)
     simp [this]
    rw [List.filter_cons_of_pos (by simpa using ho), List.filter_cons_of_neg (by simp), e1]
    simp
   ·have hm' : x ∈ r := by
     rcases List.mem_cons.1 hm with h | h
     ·exact absurd h.symm hax
     ·exact h
    have ih := ih hn2 hm'
    by_cases hao : a ∈ out
    ·rw [List.filter_cons_of_neg (by simpa using hao), List.filter_cons_of_neg (by simp [hao])]; exact ih
    ·rw [List.filter_cons_of_pos (by simpa using hao), List.filter_cons_of_pos (by simp [hao, hax])]
     simp only [List.map_cons, List.sum_cons]
     rw [ih]; omega
 exact key _ List.nodup_range (List.mem_range.2 hx)
theorem tY {N : Nat} {p : Nat → Bool} {x : Nat} (h : (List.range N).find? p = some x) : x < N ∧ p x = true ∧ ∀ j < x, p j = false := by
 rw [List.find?_range_eq_some] at h
 obtain ⟨h1, h2, h3⟩ := h
 exact ⟨List.mem_range.1 h2, h1, fun j hj => by simpa using h3 j hj⟩
theorem lf {N gate : Nat} {ns : List Nd} (h : cG N gate ns) {k : Nat} (hk : k < ns.length) : rR ns k = ns[k].2.2.2.2.1 := by
 unfold rR
 rw [List.getD, List.getElem?_eq_getElem hk]; rfl
theorem mV {N gate : Nat} {ns : List Nd} (h : cG N gate ns) (k : Nat) : (rR ns k).length ≤ 2 := by
 by_cases hk : k < ns.length
 ·rw [lf h hk, (h.node k hk).Gy]; unfold fm; split; exact Nat.zero_le _; split <;> decide
 ·unfold rR
  rw [List.getD, List.getElem?_eq_none (by omega)]; exact Nat.zero_le _
theorem H9 {N gate : Nat} {ns : List Nd} (h : cG N gate ns) (k i : Nat) : BP ns k i ≤ 2 := by
 unfold BP
 split
 ·exact Nat.zero_le _
 ·exact Nat.le_trans List.countP_le_length (mV h k)
theorem Ia {N gate : Nat} {ns : List Nd} (h : cG N gate ns) {k i : Nat} (hk : k < N) (hi : i ≤ k) : BP ns k i = 0 := by
 unfold BP
 by_cases e : k = i
 ·rw [if_pos e]
 ·rw [if_neg e, lf h (by rw [h.len]; exact hk), List.countP_eq_zero]
  intro y hy
  obtain ⟨q, hq, rfl⟩ := List.getElem_of_mem hy
  have := (h.node k (by rw [h.len]; exact hk)).ex q hq
  unfold iY at this
  simp only [beq_iff_eq]
  split at this <;> omega
theorem ED : ∀ (l out : List Nat), l.Nodup → (∀ k ∈ l, k ∈ out) → l.length ≤ out.length
 | [], out, _, _ => Nat.zero_le _
 | a :: r, out, hn, hs => by
  obtain ⟨h1, h2⟩ := List.nodup_cons.1 hn
  have ha := hs a (List.mem_cons_self ..)
  have := ED r (out.erase a) h2 fun k hk => (List.mem_erase_of_ne (fun e : k = a => h1 (by rw [← e]; exact hk))).2 (hs k (List.mem_cons_of_mem _ hk))
  rw [List.length_erase_of_mem ha] at this
  have := List.length_pos_of_mem ha
  simp only [List.length_cons]; omega
theorem vu : ∀ l : List Nat, (∀ v ∈ l, v = 0) → l.sum = 0
 | [], _ => rfl
 | a :: r, h => by rw [List.sum_cons, h a (List.mem_cons_self ..), vu r fun v hv => h v (List.mem_cons_of_mem _ hv)]
theorem Lh {N gate : Nat} {ns : List Nd} (h : cG N gate ns) {out : List Nat} (hl : out.length < N) (hr : ∀ k ∈ out, k < N) (hn : out.Nodup) : ∃ x, rh ns N out = some x := by
 have hmiss : ∃ x, (List.range N).find? (fun i => !out.contains i) = some x := by
  cases hf : (List.range N).find? (fun i => !out.contains i) with
  | some x => exact ⟨x, rfl⟩
  | none =>
   rw [List.find?_eq_none] at hf
   have := ED (List.range N) out List.nodup_range fun k hk => by have := hf k hk; simpa using this
   rw [List.length_range] at this
   omega
 obtain ⟨x, hx⟩ := hmiss
 obtain ⟨x1, x2, x3⟩ := tY hx
 cases hf : rh ns N out with
 | some y => exact ⟨y, rfl⟩
 | none =>
  unfold rh at hf
  rw [List.find?_eq_none] at hf
  have := hf x (List.mem_range.2 x1)
  exfalso
  apply this
  rw [x2, Bool.true_and, beq_iff_eq]
  unfold wN
  refine vu _ fun v hv => ?_
  obtain ⟨k, hk, rfl⟩ := List.mem_map.1 hv
  unfold kK at hk
  rw [List.mem_filter] at hk
  have hkN := List.mem_range.1 hk.1
  have hkx : x ≤ k := Nat.le_of_not_lt fun hlt => by
   have := x3 k hlt
   simp only [Bool.not_eq_false'] at this
   rw [this] at hk
   exact absurd hk.2 (by decide)
  exact Ia h hkN hkx
theorem G2 {ns : List Nd} {N : Nat} {out : List Nat} {x : Nat} (h : rh ns N out = some x) : x < N ∧ x ∉ out ∧ wN ns (kK N out) x = 0 ∧ ∀ j < x, j ∈ out ∨ wN ns (kK N out) j ≠ 0 := by
 obtain ⟨h1, h2, h3⟩ := tY h
 simp only [Bool.and_eq_true, Bool.not_eq_true', beq_iff_eq] at h2
 refine ⟨h1, by simpa using h2.1, h2.2, fun j hj => ?_⟩
 have := h3 j hj
 simp only [Bool.and_eq_false_iff, Bool.not_eq_false', beq_eq_false_iff_ne] at this
 rcases this with h | h
 ·exact .inl (by simpa using h)
 ·exact .inr h
abbrev WM := List (Int × Int)
def GB (ns : List Nd) (k q i : Nat) : Nat := if k = i then 0 else ((rR ns k).take q).countP fun y => y.1 == (i : Int)
theorem Ei {ns : List Nd} {k i q : Nat} (h : (rR ns k).length ≤ q) : GB ns k q i = BP ns k i := by
 unfold GB BP; rw [List.take_of_length_le h]
theorem oI {ns : List Nd} {k q i : Nat} (h : q < (rR ns k).length) : GB ns k (q + 1) i = GB ns k q i + (if k ≠ i ∧ ((rR ns k)[q]).1 = (i : Int) then 1 else 0) := by
 unfold GB
 by_cases e : k = i
 ·rw [if_pos e, if_pos e, if_neg (by simp [e])]
 ·rw [if_neg e, if_neg e, List.take_add_one, List.getElem?_eq_getElem h, List.countP_append]
  congr 1
  simp only [Option.toList, List.countP_cons, List.countP_nil, Nat.zero_add, beq_iff_eq]
  simp only [ne_eq, e, not_false_eq_true, true_and]
theorem Ka (ns : List Nd) (m i : Nat) : wN ns (List.range (m + 1)) i = wN ns (List.range m) i + BP ns m i := by
 simp only [wN, List.range_succ, List.map_append, List.sum_append, List.map_cons, List.map_nil, List.sum_cons, List.sum_nil, Nat.add_zero]
section
variable {N gate : Nat} {ns : List Nd} {ds : List Dv}
theorem Ek (h : cG N gate ns) {k q : Nat} (hk : k < N) (hq : q < (rR ns k).length) : ∃ e : Nat, e < N ∧ ((rR ns k)[q]).1 = (e : Int) := by
 have hkl : k < ns.length := by rw [h.len]; exact hk
 have hx := lf h hkl
 have hq' : q < ns[k].2.2.2.2.1.length := by rw [hx] at hq; exact hq
 obtain ⟨e, he, h1, _⟩ := xk h hkl q hq'
 refine ⟨e, by rw [h.len] at he; exact he, ?_⟩
 rw [← h1]; congr 1; exact List.getElem_of_eq hx hq
theorem wb (h : cG N gate ns) {S : List Nat} (hS : S.length ≤ 11) (i : Nat) : wN ns S i ≤ 22 := by
 have := SH (c := 2) (fun k i => H9 h k i) S i
 omega
theorem De (h : cG N gate ns) (j14) {R : Option (IL × Unit)} (hj : ∀ w : WM, (∀ i : Nat, gL w (i : Int) = ((wN ns (List.range N) i : Nat) : Int)) → j14 ((ns, ds, ()), w, ()) = R) :
  iter 100000 (mJ 100000 j14) (ns, (ns.length : Int), 0, (ns, ds, ()), [], ()) = R := by
 have hl := h.len
 have ll := h.kU
 refine ck (F := mJ 100000 j14) (fun k z => ∃ w : WM, z = (ns, (ns.length : Int), (k : Int), (ns, ds, ()), w, ()) ∧ ∀ i : Nat, gL w (i : Int) = ((wN ns (List.range k) i : Nat) : Int)) (fun o => o = R) ns.length 100000 (by omega)
  ⟨[], rfl, fun i => rfl⟩ (fun rc k z hk hz => ?_) (fun rc z hz => ?_)
 ·obtain ⟨w, rfl, hw⟩ := hz
  simp only [mJ, aa]
  rw [if_pos (by simpa using hk), if_pos (ae hk), bj _ _ _ hk, ← lf h hk]
  suffices hs : ∃ w' : WM, (iter 100000 (mK (pQ rc)) ((k : Int), ns, (ns.length : Int), (k : Int), rR ns k, ((rR ns k).length : Int), 0, (ns, ds, ()), w, ()) = rc (ns, (ns.length : Int), ((k + 1 : Nat) : Int), (ns, ds, ()), w', ())) ∧ ∀ i : Nat, gL w' (i : Int) = ((wN ns (List.range (k + 1)) i : Nat) : Int) by
   obtain ⟨w', e, hw'⟩ := hs
   exact ⟨_, e, w', rfl, hw'⟩
  have hl2 := mV h k
  have hb : ∀ i, wN ns (List.range k) i ≤ 100 := fun i => by have := wb h (S := List.range k) (by rw [List.length_range]; omega) i; omega
  refine ck (F := mK (pQ rc)) (fun q z => ∃ w' : WM, z = ((k : Int), ns, (ns.length : Int), (k : Int), rR ns k, ((rR ns k).length : Int), (q : Int), (ns, ds, ()), w', ()) ∧ ∀ i : Nat, gL w' (i : Int) = ((wN ns (List.range k) i + GB ns k q i : Nat) : Int))
   (fun o => ∃ w' : WM, o = rc (ns, (ns.length : Int), ((k + 1 : Nat) : Int), (ns, ds, ()), w', ()) ∧ ∀ i : Nat, gL w' (i : Int) = ((wN ns (List.range (k + 1)) i : Nat) : Int)) (rR ns k).length 100000 (by have := mV h k; omega)
   ⟨w, rfl, fun i => by rw [hw]; simp [GB]⟩ (fun rc2 q z hq hz => ?_) (fun rc2 z hz => ?_)
  ·obtain ⟨w', rfl, hw'⟩ := hz
   obtain ⟨e, he, hex⟩ := Ek h (by omega) hq
   simp only [mK, aa, AR]
   rw [if_pos (by simpa using hq), if_pos (ae hq), bj _ _ _ hq, hex, cT hq]
   by_cases hek : e = k
   ·rw [if_neg (by simp [hek])]
    refine ⟨_, rfl, w', rfl, fun i => ?_⟩
    rw [hw', oI hq, if_neg (by rw [hex, hek]; omega)]; simp
   ·rw [if_pos (by simpa using (by omega : (e : Int) ≠ k))]
    refine ⟨_, rfl, _, rfl, fun i => ?_⟩
    rw [zI, hw' e, oI hq, hex]
    have hbe := hb e
    have hqe : GB ns k q e ≤ 2 := by
     unfold GB; split; exact Nat.zero_le _
     refine Nat.le_trans List.countP_le_length ?_
     rw [List.length_take]; have := mV h k; omega
    rw [ch (by omega) (by omega)]
    by_cases hei : e = i
    ·subst hei
     rw [if_pos rfl, if_pos ⟨fun e' => hek e'.symm, rfl⟩]; omega
    ·rw [if_neg (by omega), if_neg (by omega), hw' i]; simp
  ·obtain ⟨w', rfl, hw'⟩ := hz
   simp only [mK]
   rw [if_neg (by simp)]
   simp only [pQ, cT hk]
   exact ⟨w', rfl, fun i => by rw [hw', Ei (Nat.le_refl _), Ka]⟩
 ·obtain ⟨w, rfl, hw⟩ := hz
  simp only [mJ]
  rw [if_neg (by simp)]
  exact hj w (by rw [← hl]; exact hw)
end
section
variable {N gate : Nat} {ns : List Nd} {ds : List Dv}
structure Qy (ns : List Nd) (N r : Nat) (out : List Nat) (w : WM) (done : List (Bool × Unit)) : Prop where
 len : out.length = r
 nd : out.Nodup
 lt : ∀ k ∈ out, k < N
 dl : done.length = N
 dn : ∀ i < N, (done.getD i (false, ())).1 = decide (i ∈ out)
 w : ∀ i : Nat, gL w (i : Int) = ((wN ns (kK N out) i : Nat) : Int)
 ord : jS ns N (N - r) out = jS ns N N []
theorem Lu (N : Nat) (out : List Nat) : (kK N out).length ≤ N := by
 unfold kK
 refine Nat.le_trans (List.length_filter_le _ _) ?_
 rw [List.length_range]; exact Nat.le_refl _
theorem Rw (h : cG N gate ns) (j5) (Post : Option (IL × Unit) → Prop) (x : Nat) (hx : x < N) (r : Nat) (out : List Nat) (ho : x ∉ out) (il : IL) (done : List (Bool × Unit)) (w : WM) (hw : ∀ i : Nat, gL w (i : Int) = ((wN ns (kK N out) i : Nat) : Int))
  (hj : ∀ w' : WM, (∀ i : Nat, gL w' (i : Int) = ((wN ns (kK N (out ++ [x])) i : Nat) : Int)) → Post (j5 ((ns.length : Int), (r : Int), (ns, ds, ()), w', il, done, ()))) :
  Post (iter 100000 (pS j5) ((x : Int), (ns.length : Int), (r : Int), rR ns x, ((rR ns x).length : Int), 0, (ns, ds, ()), w, il, done, ())) := by
 have hl2 := mV h x
 have ll := h.kU
 have hrem : ∀ i, wN ns (kK N out) i = BP ns x i + wN ns (kK N (out ++ [x])) i := fun i => PS hx ho
 have hb : ∀ i, wN ns (kK N out) i ≤ 22 := fun i => wb h (by have := Lu N out; omega) i
 have hqle : ∀ q i, GB ns x q i ≤ BP ns x i := fun q i => by
  unfold GB BP
  split
  ·exact Nat.le_refl _
  ·exact (List.take_sublist q _).countP_le
 refine ck (F := pS j5) (fun q z => ∃ w' : WM, z = ((x : Int), (ns.length : Int), (r : Int), rR ns x, ((rR ns x).length : Int), (q : Int), (ns, ds, ()), w', il, done, ()) ∧ ∀ i : Nat, gL w' (i : Int) = ((wN ns (kK N out) i : Nat) : Int) - ((GB ns x q i : Nat) : Int)) Post (rR ns x).length 100000 (by omega)
  ⟨w, rfl, fun i => by rw [hw]; simp [GB]⟩ (fun rc q z hq hz => ?_) (fun rc z hz => ?_)
 ·obtain ⟨w', rfl, hw'⟩ := hz
  obtain ⟨e, he, hex⟩ := Ek h hx hq
  simp only [pS, aa, FO]
  rw [if_pos (by simpa using hq), if_pos (ae hq), bj _ _ _ hq, hex, cT hq]
  by_cases hek : e = x
  ·rw [if_neg (by simp [hek])]
   refine ⟨_, rfl, w', rfl, fun i => ?_⟩
   rw [hw', oI hq, if_neg (by rw [hex, hek]; omega)]; simp
  ·rw [if_pos (by simpa using (by omega : (e : Int) ≠ x))]
   refine ⟨_, rfl, _, rfl, fun i => ?_⟩
   rw [zI, hw' e, oI hq, hex]
   have hbe := hb e
   have hqe := hqle q e
   have hce := H9 h x e
   rw [ch (by omega) (by omega)]
   by_cases hei : e = i
   ·subst hei
    rw [if_pos rfl, if_pos ⟨fun e' => hek e'.symm, rfl⟩]; omega
   ·rw [if_neg (by omega), if_neg (by omega), hw' i]; simp
 ·obtain ⟨w', rfl, hw'⟩ := hz
  simp only [pS]
  rw [if_neg (by simp)]
  refine hj w' fun i => ?_
  rw [hw', Ei (Nat.le_refl _), hrem]; omega
theorem Xq (h : cG N gate ns) : Hx ((ns, ds, ()), ()) = some (eU (jS ns N N []), ()) ∧ (jS ns N N []).length = N ∧ (jS ns N N []).Nodup ∧ ∀ k ∈ jS ns N N [], k < N := by
 have hl := h.len
 have ll := h.kU
 suffices hs : ∃ out : List Nat, Hx ((ns, ds, ()), ()) = some (eU out, ()) ∧ out = jS ns N N [] ∧ out.length = N ∧ out.Nodup ∧ ∀ k ∈ out, k < N by
  obtain ⟨out, a, rfl, b⟩ := hs
  exact ⟨a, b⟩
 show ∃ out : List Nat, Mo 100000 (ns, ds, ()) = some (eU out, ()) ∧ _
 unfold Mo
 simp only [aa]
 suffices hs : ∀ w : WM, (∀ i : Nat, gL w (i : Int) = ((wN ns (List.range N) i : Nat) : Int)) → ∃ out : List Nat, pO 100000 ((ns, ds, ()), w, ()) = some (eU out, ()) ∧ out = jS ns N N [] ∧ out.length = N ∧ out.Nodup ∧ ∀ k ∈ out, k < N by
  have main := fun (w : WM) hw => hs w hw
  refine Classical.byContradiction fun hno => ?_
  have hR : ∀ w : WM, (∀ i : Nat, gL w (i : Int) = ((wN ns (List.range N) i : Nat) : Int)) → pO 100000 ((ns, ds, ()), w, ()) = some (eU (jS ns N N []), ()) := fun w hw => by
   obtain ⟨out, a, rfl, _⟩ := main w hw; exact a
  have e := De (ds := ds) h (pO 100000) (R := some (eU (jS ns N N []), ())) hR
  refine hno ⟨jS ns N N [], e, rfl, ?_⟩
  obtain ⟨w, hw⟩ : ∃ w : WM, ∀ i : Nat, gL w (i : Int) = ((wN ns (List.range N) i : Nat) : Int) := by
   refine Classical.byContradiction fun hn => ?_
   have e2 := De (ds := ds) h (fun _ => none) (R := none) fun _ _ => rfl
   have e3 := De (ds := ds) h (fun _ => none) (R := some (eU [], ())) fun w hw => absurd ⟨w, hw⟩ hn
   rw [e2] at e3; cases e3
  obtain ⟨out, _, rfl, c⟩ := main w hw
  exact c
 intro w hw
 simp only [pO, aa]
 have hlim : ((ns.length : Nat) : Int) ≤ (cj : Int) := by have : (cj : Int) = 140737488355328 := rfl; omega
 rw [if_pos (decide_eq_true (by omega)), if_pos (decide_eq_true (Int.le_refl _)), if_pos (decide_eq_true hlim), if_pos (decide_eq_true (show (1 : Int) * ((ns.length : Nat) : Int) ≤ (cj : Int) by omega))]
 have hrange : kK N [] = List.range N := by unfold kK; exact List.filter_eq_self.2 fun _ _ => rfl
 refine ck (F := sY 100000 pP) (fun r z => ∃ (out : List Nat) (w' : WM) (done : List (Bool × Unit)), z = ((ns.length : Int), (r : Int), (ns, ds, ()), w', eU out, done, ()) ∧ Qy ns N r out w' done)
  (fun o => ∃ out : List Nat, o = some (eU out, ()) ∧ out = jS ns N N [] ∧ out.length = N ∧ out.Nodup ∧ ∀ k ∈ out, k < N) N 100000 (by omega)
  ⟨[], w, _, rfl, rfl, List.nodup_nil, by simp, by simp [hl], fun i hi => ?_, fun i => by rw [hw, hrange], rfl⟩ (fun rc r z hr hz => ?_) (fun rc z hz => ?_)
 ·simp only [Int.toNat_natCast]
  rw [List.getD, List.getElem?_replicate, if_pos (by omega)]; rfl
 ·obtain ⟨out, w', done, rfl, hI⟩ := hz
  obtain ⟨x, hx⟩ := Lh h (by rw [hI.len]; exact hr) hI.lt hI.nd
  obtain ⟨x1, x2, x3, x4⟩ := G2 hx
  have hxl : x < ns.length := by omega
  simp only [sY, aa]
  rw [if_pos (by simp only [decide_eq_true_eq]; omega)]
  have hK : iter 100000 (mI (pR 100000 pP (nh rc))) (-1, (ns.length : Int), (r : Int), (ns.length : Int), 0, (ns, ds, ()), w', eU out, done, ()) = pR 100000 pP (nh rc) ((x : Int), (ns.length : Int), (r : Int), (ns, ds, ()), w', eU out, done, ()) := by
   refine ak (F := mI (pR 100000 pP (nh rc))) (fun i : Nat => ((-1 : Int), (ns.length : Int), (r : Int), (ns.length : Int), (i : Int), (ns, ds, ()), w', eU out, done, ())) x 100000 (by omega) (fun rc2 i hi => ?_) (fun rc2 => ?_)
   ·have hil : i < ns.length := by omega
    simp only [mI, aa]
    rw [if_pos (by simpa using hil), if_pos (ae (by rw [hI.dl]; omega)), if_pos (decide_eq_true (by simp only [Int.toNat_natCast, hI.dl]; omega))]
    simp only [Int.toNat_natCast, hI.dn i (by omega)]
    simp only [vj]
    by_cases hio : i ∈ out
    ·rw [decide_eq_true hio, if_neg (by decide), if_neg (by decide), cT hil]
    ·have hne : wN ns (kK N out) i ≠ 0 := (x4 i hi).resolve_left hio
     have hb : (gL w' (i : Int) == 0) = false := by rw [hI.w]; simp; omega
     rw [decide_eq_false hio, if_pos (by decide), hb, if_neg (by decide), cT hil]
   ·simp only [mI, aa]
    rw [if_pos (by simpa using hxl), if_pos (ae (by rw [hI.dl]; omega)), if_pos (decide_eq_true (by simp only [Int.toNat_natCast, hI.dl]; omega))]
    simp only [Int.toNat_natCast, hI.dn x (by omega)]
    simp only [vj]
    have hb : (gL w' (x : Int) == 0) = true := by rw [hI.w, x3]; rfl
    rw [decide_eq_false x2, if_pos (by decide), hb, if_pos rfl]
  rw [hK]
  have hol : (eU out).length = r := by rw [eU, List.length_map, hI.len]
  simp only [pR]
  rw [if_neg (by simp), if_pos (ae (by rw [hI.dl]; omega)), if_pos (decide_eq_true (by simp only [Int.toNat_natCast, hI.dl]; omega)), if_pos (di (by omega)), if_pos (di (by omega)), if_pos (ae hxl), bj _ _ _ hxl, ← lf h hxl]
  refine Rw h (nh rc) (fun o => ∃ z', o = rc z' ∧ ∃ (out : List Nat) (w' : WM) (done : List (Bool × Unit)), z' = ((ns.length : Int), ((r + 1 : Nat) : Int), (ns, ds, ()), w', eU out, done, ()) ∧ Qy ns N (r + 1) out w' done) x x1 r out x2 _ _ w' hI.w fun w2 hw2 => ?_
  simp only [nh, cT hr]
  refine ⟨_, rfl, out ++ [x], w2, _, by rw [show eU out ++ [((x : Int), ())] = eU (out ++ [x]) by simp [eU]], ?_⟩
  refine ⟨by simp [hI.len], List.nodup_append.2 ⟨hI.nd, by simp, fun a ha b hb => by rw [List.mem_singleton.1 hb]; rintro rfl; exact x2 ha⟩, fun k hk => ?_, by rw [List.length_set]; exact hI.dl, fun i hi => ?_, hw2, ?_⟩
  ·rcases List.mem_append.1 hk with hk | hk
   ·exact hI.lt k hk
   ·rw [List.mem_singleton.1 hk]; exact x1
  ·simp only [Int.toNat_natCast]
   have hd := hI.dn i hi
   rw [List.getD, List.getElem?_set]
   by_cases hxi : x = i
   ·subst hxi
    rw [if_pos rfl, if_pos (by rw [hI.dl]; exact hi)]
    simp
   ·rw [if_neg hxi]
    rw [List.getD] at hd
    rw [hd]
    have : i ≠ x := fun e => hxi e.symm
    simp [this]
  ·have := hI.ord
   rw [show N - r = (N - (r + 1)) + 1 by omega] at this
   simp only [jS, hx] at this
   exact this
 ·obtain ⟨out, w', done, rfl, hI⟩ := hz
  simp only [sY]
  rw [if_neg (by simp only [decide_eq_true_eq]; omega)]
  have := hI.ord
  rw [Nat.sub_self] at this
  exact ⟨out, rfl, this, hI.len, hI.nd, hI.lt⟩
end
theorem Np (x y : Dv) : x = y ↔ x.1 = y.1 ∧ x.2.1 = y.2.1 ∧ x.2.2.1 = y.2.2.1 := by
 obtain ⟨a, b, c, ⟨⟩⟩ := x
 obtain ⟨a', b', c', ⟨⟩⟩ := y
 simp
theorem Zu (l : List Dv) (x : Dv) (hl : l.length ≤ 90000) (h : ∀ y ∈ l, y ≠ x) : PE (l, x, ()) = some (false, ()) := by
 have : PH (l, x, ()) = some (-1, ()) := by
  show MI 100000 l x = _
  unfold MI
  simp only [aa]
  refine ak (F := tu Gg) (fun k : Nat => (l, (l.length : Int), (k : Int), x, ())) l.length 100000 (by omega) (fun rc k hk => ?_) (fun rc => ?_)
  ·have hne := h l[k] (List.getElem_mem hk)
   simp only [tu]
   rw [if_pos (by simpa using hk), if_pos (ae hk), bj _ _ _ hk, if_neg (fun e => ?_), cT hk]
   simp only [Bool.and_eq_true, beq_iff_eq] at e
   exact hne ((Np _ _).2 ⟨e.1.symm, e.2.1.symm, e.2.2.1.symm⟩)
  ·simp only [tu]
   rw [if_neg (by simp)]; rfl
 show Pc 0 l x = _
 unfold Pc
 rw [this]; rfl
section
variable {N gate : Nat} {ns : List Nd} {ds : List Dv}
theorem Zj (hd : DevG ns ds) : MV ((ns, ds, ()), ()) = some (0, ()) := by
 have hl := hd.len
 have k0 : sZ 100000 ((ns, ds, ()), ()) = some (0, ()) := by
  simp only [sZ, aa]
  refine ak (F := td FP) (fun k : Nat => (ds, (ds.length : Int), (k : Int), (ns, ds, ()), ())) ds.length 100000 (by omega) (fun rc k hk => ?_) (fun rc => ?_)
  ·have hc0 : fa 0 (k : Int) ds.length = true := kA (a := 0) (Nat.zero_le _) (Nat.le_of_lt hk)
   have hcut : ig ds 0 (k : Int) = ds.take k := by simp [ig]
   simp only [td]
   rw [if_pos (by simpa using hk), if_pos (ae hk), if_pos hc0, bj _ _ _ hk, hcut, Zu _ _ (by rw [List.length_take]; omega) (fun y hy => ?_), Option.bind_some]
   ·simp only
    rw [if_neg (by decide), cT hk]
   ·obtain ⟨j, hj, rfl⟩ := List.getElem_of_mem hy
    rw [List.length_take] at hj
    rw [List.getElem_take]
    exact (List.pairwise_iff_getElem.1 hd.nd) j k (by omega) hk (by omega)
  ·simp only [td]
   rw [if_neg (by simp)]; rfl
 show Mp 100000 (ns, ds, ()) = _
 unfold Mp
 simp only [aa]
 refine ak (F := te (sZ 100000)) (fun k : Nat => (ds, (ds.length : Int), (k : Int), (ns, ds, ()), ())) ds.length 100000 (by omega) (fun rc k hk => ?_) (fun rc => ?_)
 ·obtain ⟨o1, o2, o3, o4, o5⟩ := hd.ok ds[k] (List.getElem_mem hk)
  simp only [te, aa]
  rw [if_pos (by simpa using hk), if_pos (ae hk), bj _ _ _ hk]
  have fin : yk rc (ds, (ds.length : Int), (k : Int), false, (ns, ds, ()), ds[k], ()) = rc (ds, (ds.length : Int), ((k + 1 : Nat) : Int), (ns, ds, ()), ()) := by
   simp only [yk, aa]
   rw [if_neg (by decide), if_neg (by simp only [decide_eq_true_eq]; omega), if_neg (by simp only [decide_eq_true_eq]; omega), if_neg (by simp only [decide_eq_true_eq]; omega), if_pos (lu o2 o3), decide_eq_false (by omega)]
   simp only [FQ]
   rw [if_neg (by decide), cT hk]
  rcases o1 with o1 | o1
  ·rw [if_neg (by simpa using o1)]; exact fin
  ·rw [if_pos (by rw [o1]; decide), show (ds[k].1 != 2) = false by rw [o1]; rfl]; exact fin
 ·simp only [te]
  rw [if_neg (by simp)]
  exact k0
theorem SW (h : cG N gate ns) (hd : DevG ns ds) : BC ((ns, ds, ()), ()) = some (0, ()) := by
 have hl := h.len
 have ll := h.kU
 have hdl := hd.len
 have hg := h.gN
 show LZ 100000 (ns, ds, ()) = _
 unfold LZ
 simp only [aa]
 rw [if_neg (by simp only [decide_eq_true_eq]; omega), decide_eq_false (by omega)]
 simp only [Fu, aa]
 rw [if_neg (by decide)]
 refine ak (F := pD (ye 100000)) (fun k : Nat => ((ns.length : Int), (k : Int), (ns, ds, ()), ())) ns.length 100000 (by omega) (fun rc k hk => ?_) (fun rc => ?_)
 ·simp only [pD]
  rw [if_pos (by simpa using hk), Zf h (by omega), Option.bind_some]
  simp only
  rw [if_neg (by decide), cT hk]
 simp only [pD]
 rw [if_neg (by simp)]
 simp only [ye, aa]
 obtain ⟨t, ht, t80⟩ := Zg (ds := ds) h
 rw [ht, Option.bind_some]
 simp only
 rw [if_neg (by simpa using t80), Zh h, Option.bind_some]
 simp only
 rw [if_neg (by decide)]
 refine ak (F := pC (yf 100000)) (fun k : Nat => ((ns.length : Int), (k : Int), (ns, ds, ()), ())) ns.length 100000 (by omega) (fun rc k hk => ?_) (fun rc => ?_)
 ·simp only [pC]
  rw [if_pos (by simpa using hk), Zi h (by omega), Option.bind_some]
  simp only
  rw [if_neg (by decide), cT hk]
 simp only [pC]
 rw [if_neg (by simp)]
 simp only [yf, aa]
 obtain ⟨hs, hsl, _⟩ := Xq (ds := ds) h
 rw [hs, Option.bind_some]
 simp only
 have hil : (eU (jS ns N N [])).length = N := by rw [eU, List.length_map, hsl]
 rw [if_neg (by simp only [decide_eq_true_eq, hil]; omega), Zj hd, Option.bind_some]
 simp only
 rw [if_neg (by decide)]
 have h0 : 0 < ns.length := by omega
 rw [show (100000 : Nat) = 99999 + 1 from rfl, gm]
 simp only [AO]
 have hk1 : (bg ([], 0, 0, 0, [], ()) ns 0).2.1 = 1 := by
  have := bj ([], 0, 0, 0, [], ()) ns 0 h0
  rw [show ((0 : Nat) : Int) = 0 from rfl] at this
  rw [this]
  exact (h.node 0 h0).entry.2 rfl
 rw [if_pos (by simpa using h0), if_pos (by have := ae h0; exact this), hk1, if_pos (by decide)]
 rfl
theorem TO (h : cG N gate ns) (hd : DevG ns ds) : DU ((ns, ds, ()), ()) = some (eU (jS ns N N []), ()) := by
 show OZ 0 (ns, ds, ()) = _
 unfold OZ
 rw [SW h hd, Option.bind_some]
 simp only
 rw [if_neg (by decide), (Xq h).1]; rfl
end
abbrev LL := List (IL × Unit)
structure tB (ns : List Nd) (n0 : Int) (m : Nat) (slots bins : LL) : Prop where
 ls : slots.length = m
 lb : bins.length = m
 sl : ∀ (i : Nat) (h : i < slots.length) (hn : i < ns.length), (slots[i].1.length : Int) = ns[i].2.2.1 ∧ ∀ v ∈ slots[i].1, 0 ≤ v.1 ∧ v.1 ≤ n0
 bn : ∀ (i : Nat) (h : i < bins.length), slots[i]?.isSome → bins[i].1.length ≤ 1 ∧ ∀ v ∈ bins[i].1, 1 ≤ v.1 ∧ v.1 ≤ n0
abbrev Qx := Option (jv × Sr × Unit) → Prop
theorem PJ {N gate : Nat} {ns : List Nd} (h : cG N gate ns) (dv : List Dv) (n0 : Int) (hn0 : n0 ≤ 1000) (rc) (n bag : Int) (i : Nat) (hi : i < ns.length) (s : Sr) (hs : cE s) (A B slots bins : LL) (h1 : 0 ≤ n) (h2 : 1 ≤ bag) (h3 : n + bag = n0 + 1) (hp : tB ns n0 i slots bins) (j1)
  (Post : Qx) (hj : ∀ (n' bag' : Int) (s' : Sr) (slots' bins' : LL), cE s' → 0 ≤ n' → 1 ≤ bag' → n' + bag' = n0 + 1 → tB ns n0 (i + 1) slots' bins' → Post (rc (n', bag', ((i + 1 : Nat) : Int), s', (ns, dv, ()), (), (), A, B, slots', bins', ()))) :
  Post (vo 100000 j1 rc (n, bag, (i : Int), s, (ns, dv, ()), (), (), A, B, slots, bins, ())) := by
 have hl := h.len
 have ll := h.kU
 have hx := oW (h.node i hi)
 generalize hxe : ns[i] = x at hx
 have hlat : bg ([], 0, 0, 0, [], ()) ns (i : Int) = x := by rw [bj _ _ _ hi, hxe]
 have hlim : x.2.2.1 ≤ (cj : Int) := by have : (cj : Int) = 140737488355328 := rfl; omega
 have hlim8 : (8 : Int) * x.2.2.1 ≤ (cj : Int) := by have : (cj : Int) = 140737488355328 := rfl; omega
 simp only [vo, aa]
 rw [if_pos (by simpa using hi), if_pos (ae hi), hlat, if_pos (decide_eq_true hx.1), if_pos (decide_eq_true (Int.le_refl _)), if_pos (decide_eq_true hlim), if_pos (decide_eq_true hlim8)]
 have hup : IntKind.i64.wrap ((i : Int) + 1) = ((i + 1 : Nat) : Int) := ch (by omega) (by omega)
 have fin : ∀ (n bag : Int) (s : Sr) (w inn : IL), cE s → 0 ≤ n → 1 ≤ bag → n + bag = n0 + 1 → (w.length : Int) = x.2.2.1 → (∀ v ∈ w, 0 ≤ v.1 ∧ v.1 ≤ n0) → inn.length ≤ 1 → (∀ v ∈ inn, 1 ≤ v.1 ∧ v.1 ≤ n0) → Post (yG (og rc) (n, bag, (i : Int), w, inn, s, (ns, dv, ()), (), (), A, B, slots, bins, ())) := by
  intro n bag s w inn hs h1 h2 h3 hw hv hil hin
  have hls := hp.ls
  have hlb := hp.lb
  simp only [yG, og]
  rw [if_pos (di (by omega)), if_pos (di (by omega)), if_pos (di (by omega)), if_pos (di (by omega)), hup]
  refine hj n bag s _ _ hs h1 h2 h3 ⟨by simp [hls], by simp [hlb], fun j hjl hjn => ?_, fun j hjl _ => ?_⟩
  ·by_cases hji : j < slots.length
   ·rw [List.getElem_append_left hji]; exact hp.sl j hji hjn
   ·have : j = i := by simp only [List.length_append, List.length_cons, List.length_nil] at hjl; omega
    subst this
    rw [List.getElem_append_right (by omega)]
    simp only [hls, Nat.sub_self, List.getElem_cons_zero, hxe]
    exact ⟨hw, hv⟩
  ·by_cases hji : j < bins.length
   ·rw [List.getElem_append_left hji]; exact hp.bn j hji (by rw [List.getElem?_eq_getElem (by omega)]; rfl)
   ·have : j = i := by simp only [List.length_append, List.length_cons, List.length_nil] at hjl; omega
    subst this
    rw [List.getElem_append_right (by omega)]
    simp only [hlb, Nat.sub_self, List.getElem_cons_zero]
    exact ⟨hil, hin⟩
 have k9 : ∀ (b : Bool) (n bag : Int) (s : Sr) (w : IL), (b = true → 0 < n) → cE s → 0 ≤ n → 1 ≤ bag → n + bag = n0 + 1 → (w.length : Int) = x.2.2.1 → (∀ v ∈ w, 0 ≤ v.1 ∧ v.1 ≤ n0) → Post (DL (yG (og rc)) (n, bag, (i : Int), b, s, (ns, dv, ()), (), (), w, [], A, B, slots, bins, ())) := by
  intro b n bag s w hb hs h1 h2 h3 hw hv
  simp only [DL]
  cases b with
  | true =>
   have := hb rfl
   rw [if_pos rfl, if_pos (di (by simp)), if_pos (di (by simp)), ch (by omega) (by omega), ch (by omega) (by omega)]
   exact fin _ _ s w _ hs (by omega) (by omega) (by omega) hw hv (by simp) (fun v hv => by simp only [List.nil_append, List.mem_singleton] at hv; rw [hv]; simp only; omega)
  | false =>
   rw [if_neg (by decide)]
   exact fin _ _ s w [] hs h1 h2 h3 hw hv (by simp) (by simp)
 have k6 : ∀ (n bag : Int) (s : Sr) (w : IL), cE s → 0 ≤ n → 1 ≤ bag → n + bag = n0 + 1 → (w.length : Int) = x.2.2.1 → (∀ v ∈ w, 0 ≤ v.1 ∧ v.1 ≤ n0) → Post (yF (og rc) (n, bag, (i : Int), s, (ns, dv, ()), (), (), x, w, [], A, B, slots, bins, ())) := by
  intro n bag s w hs h1 h2 h3 hw hv
  simp only [yF, aa]
  by_cases c1 : (x.2.2.1 == 0) = true
  ·rw [if_pos c1]
   by_cases c2 : 0 < n
   ·obtain ⟨v, s', hv', v1, v2, k'⟩ := GA hs 3 (by decide) (by decide)
    rw [if_pos (decide_eq_true c2), hv', Option.bind_some]
    exact k9 _ n bag s' w (fun _ => c2) k' h1 h2 h3 hw hv
   ·rw [if_neg (by simpa using c2)]
    exact k9 false n bag s w (fun h => by cases h) hs h1 h2 h3 hw hv
  ·rw [if_neg c1]
   exact k9 false n bag s w (fun h => by cases h) hs h1 h2 h3 hw hv
 have loop : ∀ full : Int, 0 ≤ full → full ≤ 100 → Post (DK 100000 (og rc) (n, bag, (i : Int), full, s, (ns, dv, ()), (), (), x, List.replicate (Int.toNat x.2.2.1) (0, ()), [], A, B, slots, bins, ())) := by
  intro full hf0 hf1
  simp only [DK, aa]
  refine ck (F := tw (yF (og rc))) (fun k z => ∃ (n bag full : Int) (s : Sr) (w : IL), z = (n, bag, (i : Int), full, (k : Int), s, (ns, dv, ()), (), (), x, w, [], A, B, slots, bins, ()) ∧ cE s ∧ 0 ≤ n ∧ 1 ≤ bag ∧ n + bag = n0 + 1 ∧ 0 ≤ full ∧ full ≤ 100 ∧ (w.length : Int) = x.2.2.1 ∧ ∀ v ∈ w, 0 ≤ v.1 ∧ v.1 ≤ n0) Post x.2.2.1.toNat 100000 (by omega)
   ⟨n, bag, full, s, _, rfl, hs, h1, h2, h3, hf0, hf1, by rw [List.length_replicate]; omega, fun v hv => by rw [(List.mem_replicate.1 hv).2]; simp only; omega⟩ (fun rc2 k z hk hz => ?_) (fun rc2 z hz => ?_)
  ·obtain ⟨n, bag, full, s, w, rfl, hs, h1, h2, h3, hf0, hf1, hw, hv⟩ := hz
   have hup2 : IntKind.i64.wrap ((k : Int) + 1) = ((k + 1 : Nat) : Int) := ch (by omega) (by omega)
   simp only [tw, aa]
   rw [if_pos (decide_eq_true (by omega))]
   have k16 : ∀ (b : Bool) (s : Sr), (b = true → 0 < n ∧ 0 < full) → cE s → ∃ z', yE (yD rc2) (n, bag, (i : Int), full, (k : Int), b, s, (ns, dv, ()), (), (), x, w, [], A, B, slots, bins, ()) = rc2 z' ∧
     ∃ (n bag full : Int) (s : Sr) (w : IL), z' = (n, bag, (i : Int), full, ((k + 1 : Nat) : Int), s, (ns, dv, ()), (), (), x, w, [], A, B, slots, bins, ()) ∧ cE s ∧ 0 ≤ n ∧ 1 ≤ bag ∧ n + bag = n0 + 1 ∧ 0 ≤ full ∧ full ≤ 100 ∧ (w.length : Int) = x.2.2.1 ∧ ∀ v ∈ w, 0 ≤ v.1 ∧ v.1 ≤ n0 := by
    intro b s hb hs
    simp only [yE, yD]
    cases b with
    | true =>
     have := hb rfl
     have hkw : k < w.length := by omega
     rw [if_pos rfl, if_pos (ae hkw), if_pos (decide_eq_true (by simp only [Int.toNat_natCast]; omega)), hup2, ch (x := n - 1) (by omega) (by omega), ch (x := bag + 1) (by omega) (by omega), ch (x := full - 1) (by omega) (by omega)]
     refine ⟨_, rfl, n - 1, bag + 1, full - 1, s, _, rfl, hs, by omega, by omega, by omega, by omega, by omega, by rw [List.length_set]; exact hw, fun v hv' => ?_⟩
     rcases List.mem_or_eq_of_mem_set hv' with hv' | rfl
     ·exact hv v hv'
     ·simp only; omega
    | false =>
     rw [if_neg (by decide), hup2]
     exact ⟨_, rfl, n, bag, full, s, w, rfl, hs, h1, h2, h3, hf0, hf1, hw, hv⟩
   by_cases c1 : 0 < n
   ·rw [if_pos (decide_eq_true c1)]
    by_cases c2 : 0 < full
    ·obtain ⟨v, s', hv', v1, v2, k'⟩ := GA hs 2 (by decide) (by decide)
     rw [if_pos (decide_eq_true c2), hv', Option.bind_some]
     exact k16 _ s' (fun _ => ⟨c1, c2⟩) k'
    ·rw [if_neg (by simpa using c2)]
     exact k16 false s (fun h => by cases h) hs
   ·rw [if_neg (by simpa using c1)]
    exact k16 false s (fun h => by cases h) hs
  ·obtain ⟨n, bag, full, s, w, rfl, hs, h1, h2, h3, hf0, hf1, hw, hv⟩ := hz
   simp only [tw]
   rw [if_neg (by simp only [decide_eq_true_eq]; omega)]
   exact k6 n bag s w hs h1 h2 h3 hw hv
 by_cases c5 : x.2.1 = 5
 ·have := (h.node i hi).K7 (by rw [hxe]; exact c5)
  rw [hxe] at this
  rw [if_pos (by simpa using c5), ch (by omega) (by omega)]
  exact loop _ (by omega) (by omega)
 ·rw [if_neg (by simpa using c5)]
  exact loop _ hx.1 (by omega)
theorem e9 {N gate : Nat} {ns : List Nd} (h : cG N gate ns) (dv : List Dv) (n0 : Int) (h0 : 0 ≤ n0) (hn0 : n0 ≤ 1000) {s : Sr} (hs : cE s) : ∃ slots bins s', VY (s, (ns, dv, ()), n0, ()) = some ((slots, bins, ()), s', ()) ∧ cE s' ∧ tB ns n0 N slots bins := by
 have hl := h.len
 have ll := h.kU
 show ∃ slots bins s', Tg 100000 s (ns, dv, ()) n0 = some ((slots, bins, ()), s', ()) ∧ _
 unfold Tg
 simp only [aa]
 refine ck (F := vo 100000 DJ) (fun i z => ∃ (n bag : Int) (s : Sr) (slots bins : LL), z = (n, bag, (i : Int), s, (ns, dv, ()), (), (), [], [], slots, bins, ()) ∧ cE s ∧ 0 ≤ n ∧ 1 ≤ bag ∧ n + bag = n0 + 1 ∧ tB ns n0 i slots bins)
  (fun o => ∃ slots bins s', o = some ((slots, bins, ()), s', ()) ∧ cE s' ∧ tB ns n0 N slots bins) N 100000 (by omega) ⟨n0, 1, s, [], [], rfl, hs, h0, by omega, by omega, ⟨rfl, rfl, by simp, by simp⟩⟩ (fun rc i z hi hz => ?_) (fun rc z hz => ?_)
 ·obtain ⟨n, bag, s, slots, bins, rfl, hs, h1, h2, h3, hp⟩ := hz
  refine PJ h dv n0 hn0 rc n bag i (by omega) s hs [] [] slots bins h1 h2 h3 hp DJ (fun o => ∃ z', o = rc z' ∧ ∃ (n bag : Int) (s : Sr) (slots bins : LL), z' = (n, bag, ((i + 1 : Nat) : Int), s, (ns, dv, ()), (), (), [], [], slots, bins, ()) ∧ cE s ∧ 0 ≤ n ∧ 1 ≤ bag ∧ n + bag = n0 + 1 ∧ tB ns n0 (i + 1) slots bins) fun n' bag' s' slots' bins' hs' h1' h2' h3' hp' => ?_
  exact ⟨_, rfl, n', bag', s', slots', bins', rfl, hs', h1', h2', h3', hp'⟩
 ·obtain ⟨n, bag, s, slots, bins, rfl, hs, h1, h2, h3, hp⟩ := hz
  simp only [vo]
  rw [if_neg (by simp only [decide_eq_true_eq]; omega)]
  exact ⟨slots, bins, s, rfl, hs, hp⟩
def gU (x : Nd) (c : Int) : Prop := if x.2.1 = 7 then 0 ≤ c ∧ c ≤ 40 else if 8 ≤ x.2.1 then c = 0 else (0 ≤ c ∧ c < x.2.2.2.2.1.length) ∨ (c = -1 ∧ x.2.1 ≠ 5)
theorem H3 {ns : List Nd} {i : Nat} (hi : i < ns.length) {c : IL} (hl : c.length = i) (h : ∀ (j : Nat) (h1 : j < c.length) (h2 : j < ns.length), gU ns[j] (c[j]).1) {v : Int} (hv : gU ns[i] v) :
  ∀ (j : Nat) (h1 : j < (c ++ [(v, ())]).length) (h2 : j < ns.length), gU ns[j] ((c ++ [(v, ())])[j]).1 := by
 intro j h1 h2
 by_cases hj : j < c.length
 ·rw [List.getElem_append_left hj]; exact h j hj h2
 ·have : j = i := by simp only [List.length_append, List.length_cons, List.length_nil] at h1; omega
  subst this
  rw [List.getElem_append_right (by omega)]
  simpa using hv
theorem YX {N gate : Nat} {ns : List Nd} (h : cG N gate ns) (dv : List Dv) {s : Sr} (hs : cE s) :
  ∃ c s', Pj (s, (ns, dv, ()), ()) = some (c, s', ()) ∧ cE s' ∧ c.length = N ∧ ∀ (j : Nat) (h1 : j < c.length) (h2 : j < ns.length), gU ns[j] (c[j]).1 := by
 have hl := h.len
 have ll := h.kU
 show ∃ c s', LC 100000 s (ns, dv, ()) = some (c, s', ()) ∧ _
 unfold LC
 simp only [aa]
 refine ck (F := sd xW) (fun i z => ∃ (s : Sr) (c : IL), z = ((i : Int), s, (ns, dv, ()), c, ()) ∧ cE s ∧ c.length = i ∧ ∀ (j : Nat) (h1 : j < c.length) (h2 : j < ns.length), gU ns[j] (c[j]).1)
  (fun o => ∃ c s', o = some (c, s', ()) ∧ cE s' ∧ c.length = N ∧ ∀ (j : Nat) (h1 : j < c.length) (h2 : j < ns.length), gU ns[j] (c[j]).1) N 100000 (by omega) ⟨s, [], rfl, hs, rfl, fun j h1 => absurd h1 (Nat.not_lt_zero _)⟩ (fun rc i z hi hz => ?_) (fun rc z hz => ?_)
 ·obtain ⟨s, c, rfl, hs, hc, hcs⟩ := hz
  have hi' : i < ns.length := by omega
  have hx := h.node i hi'
  have hsn := fun v (hv : gU ns[i] v) => H3 hi' hc hcs hv
  have hlat : bg ([], 0, 0, 0, [], ()) ns (i : Int) = ns[i] := bj _ _ _ hi'
  generalize hxe : ns[i] = x at hx hsn hlat
  have hk1 := hx.oQ
  have hk9 := hx.Es
  have hcnt := hx.Gy
  simp only [sd, aa]
  rw [if_pos (by simp; omega), if_pos (ae hi'), hlat]
  have fin : ∀ (v : Int) (s' : Sr), cE s' → gU x v → ∃ z', jG rc ((i : Int), v, s', (ns, dv, ()), c, ()) = rc z' ∧ ∃ (s : Sr) (c : IL), z' = (((i + 1 : Nat) : Int), s, (ns, dv, ()), c, ()) ∧ cE s ∧ c.length = i + 1 ∧ ∀ (j : Nat) (h1 : j < c.length) (h2 : j < ns.length), gU ns[j] (c[j]).1 := fun v s' hs' hv => by
   unfold jG
   simp only
   rw [if_pos (di (by omega)), if_pos (di (by omega)), cT hi]
   exact ⟨_, rfl, s', _, rfl, hs', by simp [hc], hsn v hv⟩
  have pick : ∀ (t : IL) (hl1 : 1 ≤ t.length) (hl2 : t.length ≤ 1000), (∀ v, (v, ()) ∈ t → gU x v) → ∃ z', ((DQ (s, t, ())).bind fun r => jG rc ((i : Int), r.1, r.2.1, (ns, dv, ()), c, ())) = rc z' ∧ ∃ (s : Sr) (c : IL), z' = (((i + 1 : Nat) : Int), s, (ns, dv, ()), c, ()) ∧ cE s ∧ c.length = i + 1 ∧ ∀ (j : Nat) (h1 : j < c.length) (h2 : j < ns.length), gU ns[j] (c[j]).1 := fun t hl1 hl2 ht => by
   obtain ⟨v, s', hv, hm, hs'⟩ := Xm hs t hl1 hl2
   rw [hv, Option.bind_some]
   exact fin v s' hs' (ht v hm)
  by_cases h7 : x.2.1 = 7
  ·rw [if_pos (by simpa using h7)]
   obtain ⟨v, s', hv, v0, v1, hs'⟩ := GA hs 8 (by decide) (by decide)
   rw [hv, Option.bind_some]
   exact fin v s' hs' (by unfold gU; rw [if_pos h7]; omega)
  rw [if_neg (by simpa using h7)]
  have Re : ∀ b : Bool, pc (jG rc) ((i : Int), 0, x.2.1, b, s, (ns, dv, ()), c, ()) = pc (jG rc) ((i : Int), 0, x.2.1, b, s, (ns, dv, ()), c, ()) := fun _ => rfl
  have main : ∀ b : Bool, (b = true ↔ 8 ≤ x.2.1) → ∃ z', pc (jG rc) ((i : Int), 0, x.2.1, b, s, (ns, dv, ()), c, ()) = rc z' ∧ ∃ (s : Sr) (c : IL), z' = (((i + 1 : Nat) : Int), s, (ns, dv, ()), c, ()) ∧ cE s ∧ c.length = i + 1 ∧ ∀ (j : Nat) (h1 : j < c.length) (h2 : j < ns.length), gU ns[j] (c[j]).1 := fun b hb => by
   unfold pc
   simp only [aa]
   by_cases h8 : 8 ≤ x.2.1
   ·rw [hb.2 h8, if_pos rfl]
    exact fin 0 s hs (by unfold gU; rw [if_neg h7, if_pos h8])
   have hbf : b = false := by cases b; rfl; exact absurd (hb.1 rfl) h8
   rw [hbf, if_neg (by simp)]
   have ok : ∀ v : Int, (0 ≤ v ∧ v < x.2.2.2.2.1.length) ∨ (v = -1 ∧ x.2.1 ≠ 5) → gU x v := fun v hv => by unfold gU; rw [if_neg h7, if_neg h8]; exact hv
   by_cases h5 : x.2.1 = 5
   ·rw [if_pos (by simpa using h5)]
    refine pick _ (by decide) (by decide) fun v hv => ok v ?_
    rw [hcnt, h5]
    simp only [List.mem_cons, Prod.mk.injEq, and_true, List.not_mem_nil, or_false] at hv
    rcases hv with rfl | rfl | rfl <;> simp [fm]
   rw [if_neg (by simpa using h5)]
   have two : ∀ b2 : Bool, (b2 = true → x.2.1 = 4 ∨ x.2.1 = 6) → ∃ z', xX (jG rc) ((i : Int), b2, s, (ns, dv, ()), c, ()) = rc z' ∧ ∃ (s : Sr) (c : IL), z' = (((i + 1 : Nat) : Int), s, (ns, dv, ()), c, ()) ∧ cE s ∧ c.length = i + 1 ∧ ∀ (j : Nat) (h1 : j < c.length) (h2 : j < ns.length), gU ns[j] (c[j]).1 := fun b2 hb2 => by
    unfold xX
    simp only
    cases b2 with
    | true =>
     rw [if_pos rfl]
     refine pick _ (by decide) (by decide) fun v hv => ok v ?_
     rw [hcnt]
     simp only [List.mem_cons, Prod.mk.injEq, and_true, List.not_mem_nil, or_false] at hv
     rcases hb2 rfl with e | e <;> rw [e] <;> rcases hv with rfl | rfl | rfl | rfl | rfl <;> simp [fm]
    | false =>
     rw [if_neg (by simp)]
     refine pick _ (by decide) (by decide) fun v hv => ok v ?_
     have : 1 ≤ x.2.2.2.2.1.length := by
      rw [hcnt]; unfold fm
      rw [if_neg (by omega)]
      split <;> omega
     simp only [List.mem_cons, Prod.mk.injEq, and_true, List.not_mem_nil, or_false] at hv
     rcases hv with rfl | rfl | rfl | rfl | rfl
     ·exact .inl ⟨by omega, by omega⟩
     ·exact .inl ⟨by omega, by omega⟩
     ·exact .inl ⟨by omega, by omega⟩
     ·exact .inl ⟨by omega, by omega⟩
     ·exact .inr ⟨rfl, h5⟩
   by_cases h4 : x.2.1 = 4
   ·rw [if_pos (by simpa using h4)]; exact two _ fun _ => .inl h4
   ·rw [if_neg (by simpa using h4)]; exact two _ fun hb => .inr (by simpa using hb)
  by_cases h8 : x.2.1 = 8
  ·rw [if_pos (by simpa using h8)]; exact main _ (by simp; omega)
  ·rw [if_neg (by simpa using h8)]; exact main _ (by simp; omega)
 ·obtain ⟨s, c, rfl, hs, hc, hcs⟩ := hz
  simp only [sd, aa]
  rw [if_neg (by simp [hl]), xW]
  exact ⟨c, s, rfl, hs, hc, hcs⟩
section
variable {N gate : Nat} {ns : List Nd} {ds : List Dv} {od : IL}
theorem TK (h : cG N gate ns) {n0 : Int} {slots bins : LL} (hp : tB ns n0 N slots bins) : DR ((ns, ds, od, ()), (slots, bins, ()), ()) = some (true, (ns, ds, od, ()), ()) := by
 have hl := h.len
 have ll := h.kU
 have e1 := hp.ls
 have e2 := hp.lb
 show LM 100000 (ns, ds, od, ()) (slots, bins, ()) = _
 unfold LM
 simp only [aa]
 rw [if_neg (by simp [hl, e1])]
 unfold Fj
 simp only [aa]
 rw [if_neg (by simp [hl, e2])]
 refine ak (F := ss Fk) (fun k : Nat => (ns, (ns.length : Int), (k : Int), (ns, ds, od, ()), (slots, bins, ()), ())) ns.length 100000 (by omega) (fun rc k hk => ?_) (fun rc => ?_)
 ·have hs := (hp.sl k (by omega) hk).1
  unfold ss
  simp only
  rw [if_pos (by simpa using hk), if_pos (ae hk), if_pos (ae (by omega)), bj _ _ _ hk, bj _ _ _ (show k < slots.length by omega), if_neg (by rw [hs]; simp), cT hk]
 ·unfold ss
  simp only
  rw [if_neg (by simp)]
  rfl
theorem IW (h : cG N gate ns) {k : Nat} (hk : k < N) : rh ns N (List.range k) = some k := by
 have hw : ∀ i, i ≤ k → wN ns (kK N (List.range k)) i = 0 := fun i hi => by
  unfold wN
  refine vu _ fun v hv => ?_
  obtain ⟨j, hj, rfl⟩ := List.mem_map.1 hv
  unfold kK at hj
  rw [List.mem_filter] at hj
  have hjN := List.mem_range.1 hj.1
  have hjk : ¬ j < k := by
   have := hj.2
   simp only [List.contains_eq_mem, List.mem_range, decide_not, Bool.not_eq_true', decide_eq_false_iff_not] at this
   simpa using this
  exact Ia h hjN (by omega)
 unfold rh
 rw [List.find?_range_eq_some]
 refine ⟨?_, List.mem_range.2 hk, fun j hj => ?_⟩
 ·rw [hw k (Nat.le_refl _)]; simp
 ·simp [hj]
theorem EO (h : cG N gate ns) : jS ns N N [] = List.range N := by
 have hN := h.kU
 suffices hs : ∀ m k, m + k = N → jS ns N m (List.range k) = List.range N from hs N 0 (by omega)
 intro m
 induction m with
 | zero => intro k hk; simp only [Nat.zero_add] at hk; subst hk; rfl
 | succ m ih =>
  intro k hk
  have e : jS ns N (m + 1) (List.range k) = match rh ns N (List.range k) with
   | some x => jS ns N m (List.range k ++ [x])
   | none => List.range k := rfl
  rw [e, IW h (by omega)]
  simp only
  rw [← List.range_succ]
  exact ih (k + 1) (by omega)
end
theorem tX {α : Type} {l : List α} {p : α → Bool} (h : l.any p = true) : ∃ j, ∃ hj : j < l.length, p l[j] = true ∧ ∀ k (hk : k < j), p (l[k]'(Nat.lt_trans hk hj)) = false := by
 have hj : l.findIdx p < l.length := by rw [List.findIdx_lt_length]; exact List.any_eq_true.1 h
 exact ⟨_, hj, List.findIdx_getElem (w := hj), fun k hk => by simpa using List.not_of_lt_findIdx hk⟩
theorem f66 (l : IL) (x : Int) (hl : l.length ≤ 90000) : JV (l, x, ()) = some (l.any fun y => y.1 == x, ()) := by
 cases ha : l.any fun y => y.1 == x with
 | false =>
  refine Xr l x hl fun y hy => ?_
  have := List.any_eq_false.1 ha y hy
  simpa using this
 | true =>
  obtain ⟨j, hj, hpj, hb⟩ := tX ha
  have : MZ (l, x, ()) = some ((j : Int), ()) := by
   show Hl 100000 l x = _
   unfold Hl
   simp only [aa]
   refine oP (F := ni yw) (fun k : Nat => (l, x, (l.length : Int), (k : Int), ())) (fun k => k ≤ j) l.length 100000 (by omega) (Nat.zero_le _) (fun rc k hk hkj => ?_) (fun rc h => by omega)
   simp only [ni]
   rw [if_pos (by simpa using hk), if_pos (ae hk), bj _ _ _ hk]
   rcases Nat.lt_or_ge k j with h | h
   ·left
    have := hb k h
    rw [if_neg (by simp only [beq_eq_false_iff_ne] at this; simp only [beq_iff_eq]; exact fun e => this e.symm), cT hk]
    exact ⟨rfl, h⟩
   ·right
    have : k = j := by omega
    subst this
    rw [if_pos (by simp only [beq_iff_eq] at hpj ⊢; exact hpj.symm)]
  show JH 0 l x = _
  unfold JH
  rw [this]; simp
def tT (x y : Dv) : Bool := x.1 == y.1 && (x.2.1 == y.2.1 && (x.2.2.1 == y.2.2.1 && true))
theorem f67 (l : List Dv) (x : Dv) (hl : l.length ≤ 90000) : Pv (l, x, ()) = some (l.any (tT x), ()) := by
 cases ha : l.any (tT x) with
 | false =>
  have : M1 (l, x, ()) = some (-1, ()) := by
   show Hm 100000 l x = _
   unfold Hm
   simp only [aa]
   refine ak (F := nj yx) (fun k : Nat => (l, (l.length : Int), (k : Int), x, ())) l.length 100000 (by omega) (fun rc k hk => ?_) (fun rc => ?_)
   ·simp only [nj]
    have := List.any_eq_false.1 ha l[k] (List.getElem_mem hk)
    rw [if_pos (by simpa using hk), if_pos (ae hk), bj _ _ _ hk, if_neg (by unfold tT at this; exact this), cT hk]
   ·simp only [nj]
    rw [if_neg (by simp)]; rfl
  show JI 0 l x = _
  unfold JI
  rw [this]; rfl
 | true =>
  obtain ⟨j, hj, hpj, hb⟩ := tX ha
  have : M1 (l, x, ()) = some ((j : Int), ()) := by
   show Hm 100000 l x = _
   unfold Hm
   simp only [aa]
   refine oP (F := nj yx) (fun k : Nat => (l, (l.length : Int), (k : Int), x, ())) (fun k => k ≤ j) l.length 100000 (by omega) (Nat.zero_le _) (fun rc k hk hkj => ?_) (fun rc h => by omega)
   simp only [nj]
   rw [if_pos (by simpa using hk), if_pos (ae hk), bj _ _ _ hk]
   rcases Nat.lt_or_ge k j with h | h
   ·left
    have := hb k h
    rw [if_neg (by unfold tT at this; rw [this]; simp), cT hk]
    exact ⟨rfl, h⟩
   ·right
    have : k = j := by omega
    subst this
    rw [if_pos (by unfold tT at hpj; exact hpj)]
  show JI 0 l x = _
  unfold JI
  rw [this]; simp
def gk (l : IL) : Nat := l.countP fun y => y.1 == 0
theorem Ze (l : IL) (hl : l.length ≤ 90000) : Pt (l, ()) = some ((gk l : Int), ()) := by
 show Mh 100000 l = _
 unfold Mh
 simp only [aa]
 have h := ak (F := sO FA) (r := some ((gk l : Int), ())) (fun k : Nat => (((gk (l.take k) : Nat) : Int), l, (l.length : Int), (k : Int), ())) l.length 100000 (by omega) (fun rc k hk => ?_) (fun rc => ?_)
 ·simpa [gk] using h
 ·have e : gk (l.take (k + 1)) = gk (l.take k) + if l[k].1 == 0 then 1 else 0 := by
   unfold gk
   rw [List.take_add_one, List.getElem?_eq_getElem hk, List.countP_append]
   simp [List.countP_cons]
  have hb : gk (l.take k) ≤ 90000 := by
   refine Nat.le_trans List.countP_le_length ?_
   rw [List.length_take]; omega
  unfold sO
  simp only [aa]
  rw [if_pos (by simpa using hk), if_pos (ae hk), bj _ _ _ hk]
  unfold FB
  simp only
  rw [e, cT hk]
  by_cases hz : l[k].1 = 0
  ·rw [if_pos (by simpa using hz), hz, ch (by omega) (by omega)]; simp
  ·rw [if_neg (by simpa using hz)]; simp [hz]
 ·unfold sO
  simp only [aa]
  rw [if_neg (by simp), List.take_length]
  rfl
def low (s : Nat) : Nat := ((List.range 11).find? fun j => s.testBit j).getD 0
theorem BV {p : Nat → Bool} {n : Nat} (h : (List.range n).all p = true) {s : Nat} (hs : s < n) : p s = true := List.all_eq_true.1 h s (List.mem_range.2 hs)
theorem Xp {s : Nat} (hs : s < 2048) (h0 : s ≠ 0) : Hw ((s : Int), ()) = some ((low s : Int), ()) := by
 have h : ((List.range 2048).all fun s => s == 0 || decide (Hw ((s : Int), ()) = some ((low s : Int), ()))) = true := by kernel_rfl
 have := BV h hs
 simp only [Bool.or_eq_true, beq_iff_eq, decide_eq_true_eq] at this
 exact this.resolve_left h0
theorem Oz {s m : Nat} (hs : s < 2048) (hm : m < 11) : IntKind.u64.wrap (↑(BitVec.ofInt IntKind.u64.bits (s : Int) ||| BitVec.ofInt IntKind.u64.bits (IntKind.u64.wrap (1 * 2 ^ min ((m : Int)).toNat IntKind.u64.bits))).toNat : Int) = ((s ||| 2 ^ m : Nat) : Int) := by
 have h : ((List.range 2048).all fun s => (List.range 11).all fun m => decide (IntKind.u64.wrap (↑(BitVec.ofInt IntKind.u64.bits (s : Int) ||| BitVec.ofInt IntKind.u64.bits (IntKind.u64.wrap (1 * 2 ^ min ((m : Int)).toNat IntKind.u64.bits))).toNat : Int) = ((s ||| 2 ^ m : Nat) : Int))) = true := by kernel_rfl
 exact of_decide_eq_true (BV (BV h hs) hm)
theorem HV {s : Nat} (hs : s < 2048) (h0 : s ≠ 0) : IntKind.u64.wrap (↑(BitVec.ofInt IntKind.u64.bits (s : Int) &&& BitVec.ofInt IntKind.u64.bits (IntKind.u64.wrap ((s : Int) - 1))).toNat : Int) = ((s &&& (s - 1) : Nat) : Int) := by
 have h : ((List.range 2048).all fun s => s == 0 || decide (IntKind.u64.wrap (↑(BitVec.ofInt IntKind.u64.bits (s : Int) &&& BitVec.ofInt IntKind.u64.bits (IntKind.u64.wrap ((s : Int) - 1))).toNat : Int) = ((s &&& (s - 1) : Nat) : Int))) = true := by kernel_rfl
 have := BV h hs
 simp only [Bool.or_eq_true, beq_iff_eq, decide_eq_true_eq] at this
 exact this.resolve_left h0
theorem mv {s : Nat} (hs : s < 2048) (h0 : s ≠ 0) : low s < 11 ∧ s.testBit (low s) = true ∧ (s &&& (s - 1)) < s ∧ (∀ j, j < 11 → (s &&& (s - 1)).testBit j = (s.testBit j && j != low s)) ∧ ∀ j, j < low s → s.testBit j = false := by
 have h : ((List.range 2048).all fun s => s == 0 || (decide (low s < 11) && (s.testBit (low s) && (decide ((s &&& (s - 1)) < s) && (((List.range 11).all fun j => (s &&& (s - 1)).testBit j == (s.testBit j && j != low s)) && ((List.range 11).all fun j => !decide (j < low s) || !s.testBit j)))))) = true := by kernel_rfl
 have := BV h hs
 simp only [Bool.or_eq_true, beq_iff_eq, Bool.and_eq_true, decide_eq_true_eq] at this
 obtain ⟨a, b, c, d, e⟩ := this.resolve_left h0
 refine ⟨a, b, c, fun j hj => by simpa using BV d hj, fun j hj => ?_⟩
 have := BV e (show j < 11 by omega)
 simp only [Bool.or_eq_true, Bool.not_eq_true', decide_eq_false_iff_not] at this
 rcases this with h | h
 ·exact absurd hj h
 ·exact h
def fo (ns : List Nd) (i : Nat) : Nd := ns.getD i ([], 0, 0, 0, [], ())
def cC (W : IL) (i : Nat) : Int := (W.getD i (0, ())).1
def p4 (ns : List Nd) (W : IL) (m : Nat) : Int := (bg (0, ()) (fo ns m).2.2.2.2.1 (cC W m)).1
def iy (ns : List Nd) (W : IL) (n m : Nat) : Bool := m != n && (decide (0 ≤ cC W m) && p4 ns W m == (n : Int))
def gr (ns : List Nd) (W : IL) (n : Nat) : Nat → Nat
 | 0 => 0
 | k + 1 => if iy ns W n k = true then gr ns W n k ||| 2 ^ k else gr ns W n k
theorem Ef (ns : List Nd) (W : IL) (n : Nat) : ∀ k, gr ns W n k < 2 ^ k
 | 0 => by simp [gr]
 | k + 1 => by
  have h := Ef ns W n k
  have e : 2 ^ (k + 1) = 2 ^ k + 2 ^ k := by rw [Nat.pow_succ]; omega
  unfold gr
  split
  ·exact Nat.or_lt_two_pow (by omega) (by omega)
  ·omega
theorem qo (ns : List Nd) (W : IL) (n j : Nat) : ∀ k, (gr ns W n k).testBit j = (decide (j < k) && iy ns W n j)
 | 0 => by simp [gr]
 | k + 1 => by
  have h := qo ns W n j k
  unfold gr
  by_cases hc : iy ns W n k = true
  ·rw [if_pos hc, Nat.testBit_or, h, Nat.testBit_two_pow]
   by_cases e : k = j
   ·subst e; simp [hc]
   ·have : decide (j < k + 1) = decide (j < k) := by congr 1; exact propext ⟨fun _ => by omega, fun _ => by omega⟩
    rw [this]; simp [e]
  ·rw [if_neg hc, h]
   by_cases e : k = j
   ·subst e; simp [show iy ns W n k = false by simpa using hc]
   ·have : decide (j < k + 1) = decide (j < k) := by congr 1; exact propext ⟨fun _ => by omega, fun _ => by omega⟩
    rw [this]
theorem gC (ns : List Nd) (i : Nat) : bg ([], 0, 0, 0, [], ()) ns (i : Int) = fo ns i := by show ns.getD (i : Int).toNat _ = _; rw [Int.toNat_natCast]; rfl
theorem Ew (W : IL) (i : Nat) : (bg (0, ()) W (i : Int)).1 = cC W i := by show (W.getD (i : Int).toNat _).1 = _; rw [Int.toNat_natCast]; rfl
structure Nj (ns : List Nd) (N : Nat) (W : IL) : Prop where
 len : W.length = N
 lt : ∀ m, m < N → 0 ≤ cC W m → cC W m < (fo ns m).2.2.2.2.1.length
section
variable {N : Nat} {ns : List Nd} {ds : List Dv} {od W : IL}
theorem Zb (hl : ns.length = N) (hN : N ≤ 11) (hw : Nj ns N W) {n : Nat} (hn : n < N) : MN ((ns, ds, od, ()), W, (n : Int), ()) = some ((gr ns W n N : Int), (ns, ds, od, ()), ()) := by
 show L4 100000 (ns, ds, od, ()) W (n : Int) = _
 unfold L4
 simp only [aa]
 have hwl := hw.len
 refine ak (F := sJ Fw) (r := some ((gr ns W n N : Int), (ns, ds, od, ()), ())) (fun k : Nat => ((n : Int), ((gr ns W n k : Nat) : Int), W, (W.length : Int), (k : Int), (ns, ds, od, ()), ())) N 100000 (by omega) (fun rc k hk => ?_) (fun rc => ?_)
 ·have hs : gr ns W n k < 2048 := Nat.lt_of_lt_of_le (Ef ns W n k) (Nat.pow_le_pow_right (by omega) (by omega : k ≤ 11))
  have ec : gr ns W n (k + 1) = if iy ns W n k = true then gr ns W n k ||| 2 ^ k else gr ns W n k := rfl
  unfold sJ
  simp only [aa]
  rw [if_pos (by simp; omega), if_pos (ae (by omega)), Ew, gC]
  have skip : iy ns W n k = false → sI (sG rc) ((n : Int), ((gr ns W n k : Nat) : Int), (k : Int), W, (W.length : Int), (k : Int), false, (ns, ds, od, ()), ()) = rc ((n : Int), ((gr ns W n (k + 1) : Nat) : Int), W, (W.length : Int), ((k + 1 : Nat) : Int), (ns, ds, od, ()), ()) := fun hc => by
   unfold sI sG
   simp only
   rw [if_neg (by simp), cT hk, ec, hc, if_neg (by simp)]
  by_cases h1 : k = n
  ·subst h1
   have hc : iy ns W k k = false := by unfold iy; simp
   rw [if_neg (by simp)]
   exact skip hc
  have h1' : ((k : Int) != (n : Int)) = true := by simp only [bne_iff_ne, ne_eq]; omega
  rw [if_pos h1']
  by_cases h2 : 0 ≤ cC W k
  ·have hlt := hw.lt k hk h2
   have hin : bt (cC W k) (fo ns k).2.2.2.2.1.length = true := by simp only [bt, Bool.and_eq_true, decide_eq_true_eq]; omega
   rw [if_pos (by simpa using h2), if_pos (ae (by omega)), if_pos hin]
   have ht : (bg (0, ()) (fo ns k).2.2.2.2.1 (cC W k)).1 = p4 ns W k := rfl
   rw [ht]
   have hcom : iy ns W n k = (p4 ns W k == (n : Int)) := by
    unfold iy
    rw [show (k != n) = true by simpa using h1, decide_eq_true h2]; simp
   cases htn : p4 ns W k == (n : Int) with
   | true =>
    rw [htn] at hcom
    unfold sI sG
    simp only
    rw [if_pos trivial, if_pos (by simp), Oz hs (by omega), cT hk, ec, hcom, if_pos rfl]
   | false =>
    rw [htn] at hcom
    exact skip hcom
  ·have hc : iy ns W n k = false := by unfold iy; rw [decide_eq_false h2]; simp
   rw [if_neg (by simpa using h2)]
   exact skip hc
 ·unfold sJ
  simp only
  rw [if_neg (by simp; omega)]
  rfl
end
def nD (W le : IL) (s : Nat) : IL := (List.range le.length).map fun j => if s.testBit j = true then (cC W j, ()) else le.getD j (0, ())
theorem BG (W le : IL) : nD W le 0 = le := by
 unfold nD
 apply List.ext_getElem (by simp)
 intro i h1 h2
 simp only [List.getElem_map, List.getElem_range, Nat.zero_testBit, Bool.false_eq_true, if_false]
 rw [List.getD_eq_getElem?_getD, List.getElem?_eq_getElem h2]; rfl
theorem iR (W le : IL) (s : Nat) : (nD W le s).length = le.length := by simp [nD]
theorem vx (W le : IL) (s : Nat) {j : Nat} (hj : j < le.length) : cC (nD W le s) j = if s.testBit j = true then cC W j else cC le j := by
 unfold nD cC
 rw [List.getD_eq_getElem?_getD, List.getElem?_map, List.getElem?_range hj]
 simp only [Option.map_some, Option.getD_some]
 split <;> rfl
theorem Kf {a b : IL} (hl : a.length = b.length) (h : ∀ j, j < a.length → cC a j = cC b j) : a = b := by
 apply List.ext_getElem hl
 intro i h1 h2
 have := h i h1
 unfold cC at this
 rw [List.getD_eq_getElem?_getD, List.getElem?_eq_getElem h1, List.getD_eq_getElem?_getD, List.getElem?_eq_getElem h2] at this
 exact Prod.ext this rfl
theorem lP (le : IL) (m : Nat) (v : Int) (j : Nat) (hm : m < le.length) : cC (le.set m (v, ())) j = if j = m then v else cC le j := by
 unfold cC
 rw [List.getD_eq_getElem?_getD, List.getElem?_set]
 by_cases e : m = j
 ·subst e; simp [hm]
 ·rw [if_neg e, if_neg (fun h => e h.symm), List.getD_eq_getElem?_getD]
theorem mr (W : IL) (m : Nat) : bg (0, ()) W (m : Int) = (cC W m, ()) := by
 show W.getD (m : Int).toNat _ = _
 rw [Int.toNat_natCast]; rfl
theorem Rx {R : Type} (rc3 : vX → Option R) (c : Int) (b : Bool) (L : nO) (P : jv) (W od x1 x2 en : IL) (N : Nat) (hN : N ≤ 11) (hW : W.length = N) :
  ∀ (f s : Nat) (le : IL), s < f → s < 2048 → le.length = N → (∀ j, N ≤ j → s.testBit j = false) →
   iter f (xM rc3) ((s : Int), c, b, L, (), P, (), (), (W, ()), (od, ()), x1, x2, le, en, ()) = rc3 (c, b, L, (), P, (), (), (W, ()), (od, ()), x1, x2, nD W le s, en, ()) := by
 intro f
 induction f with
 | zero => intro s le h; omega
 | succ f ih =>
  intro s le hsf hs hle hbits
  rw [gm]
  generalize hF : iter f (xM rc3) = F
  unfold xM
  simp only
  by_cases h0 : s = 0
  ·subst h0
   rw [if_neg (by simp), BG]
  ·obtain ⟨a1, a2, a3, a4, a5⟩ := mv hs h0
   have hlow : low s < N := by
    rcases Nat.lt_or_ge (low s) N with h | h
    ·exact h
    ·rw [hbits _ h] at a2; cases a2
   rw [if_pos (by simp; omega), Xp hs h0, Option.bind_some]
   simp only
   rw [if_pos (ae (by omega)), if_pos (ae (by omega)), if_pos (decide_eq_true (by rw [Int.toNat_natCast]; omega)), HV hs h0, Int.toNat_natCast, mr]
   rw [← hF, ih _ _ (by omega) (by omega) (by rw [List.length_set]; exact hle) (fun j hj => by
    rcases Nat.lt_or_ge j 11 with h | h
    ·rw [a4 j h, hbits j hj]; rfl
    ·exact Nat.testBit_lt_two_pow (Nat.lt_of_lt_of_le (show (s &&& (s - 1)) < 2 ^ 11 by omega) (Nat.pow_le_pow_right (by omega) h)))]
   congr 1
   have e : nD W (le.set (low s) (cC W (low s), ())) (s &&& (s - 1)) = nD W le s := by
    refine Kf (by rw [iR, iR, List.length_set]) fun j hj => ?_
    rw [iR, List.length_set] at hj
    rw [vx _ _ _ (by rw [List.length_set]; exact hj), vx _ _ _ hj, a4 j (by omega), lP _ _ _ _ (by omega)]
    by_cases e : j = low s
    ·subst e; simp [a2]
    ·cases s.testBit j <;> simp [e]
   rw [e]
def iz (ns : List Nd) (n : Nat) : Int := (fo ns n).2.1
def nB (ns : List Nd) (n : Nat) : Bool := decide (1 ≤ iz ns n) && decide (iz ns n ≤ 6)
def qd (slots : LL) (n : Nat) : IL := (slots.getD n ([], ())).1
def HK (slots : LL) (n : Nat) : Int := cC (qd slots n) 0
def wC (ns : List Nd) (slots : LL) (n : Nat) : Bool := if nB ns n = true then (if iz ns n = 5 ∧ gk (qd slots n) < 2 then false else HK slots n == 0) else true
def l6 (ns : List Nd) (slots : LL) (W le : IL) (n : Nat) : Bool := iz ns n == 5 && (decide (0 ≤ cC W n) && (decide (cC le n < 0) && HK slots n == 0))
def ou (ns : List Nd) (slots : LL) (W le : IL) (n : Nat) : IL := if l6 ns slots W le n = true then le.set n (0, ()) else le
def fP (ns : List Nd) (slots : LL) (W : IL) (N n : Nat) (le en : IL) : IL × IL :=
 if nB ns n = true then
  if (gr ns W n N != 0 && (wC ns slots n && !l6 ns slots W le n)) = true then ((ou ns slots W le n).set (low (gr ns W n N)) (cC W (low (gr ns W n N)), ()), en.set n ((low (gr ns W n N) : Nat), ()))
  else (ou ns slots W le n, en)
 else (nD W (ou ns slots W le n) (gr ns W n N), en)
theorem qw (slots : LL) (n : Nat) : (bg ([], ()) slots (n : Int)).1 = qd slots n := by show (slots.getD (n : Int).toNat _).1 = _; rw [Int.toNat_natCast]; rfl
theorem IH (slots : LL) (n : Nat) : bg ([], ()) slots (n : Int) = (qd slots n, ()) := by show slots.getD (n : Int).toNat _ = _; rw [Int.toNat_natCast]; rfl
theorem Ex (l : IL) : (bg (0, ()) l 0).1 = cC l 0 := rfl
theorem Iz {n : Nat} (h : 0 < n) : bt 0 n = true := by simp [bt, h]
section
variable {N gate : Nat} {ns : List Nd} {ds : List Dv} {od W : IL} {n0 : Int} {slots bins : LL}
theorem n6 (h : cG N gate ns) {n : Nat} (hn : n < N) : iZ N gate n (fo ns n) := by
 have hl : n < ns.length := by rw [h.len]; exact hn
 have e : fo ns n = ns[n] := by unfold fo; rw [List.getD_eq_getElem?_getD, List.getElem?_eq_getElem hl]; rfl
 rw [e]; exact h.node n hl
theorem DM (h : cG N gate ns) (hp : tB ns n0 N slots bins) {n : Nat} (hn : n < N) : ((qd slots n).length : Int) = (fo ns n).2.2.1 := by
 have hl : n < ns.length := by rw [h.len]; exact hn
 have hs : n < slots.length := by rw [hp.ls]; exact hn
 have e : fo ns n = ns[n] := by unfold fo; rw [List.getD_eq_getElem?_getD, List.getElem?_eq_getElem hl]; rfl
 have e2 : qd slots n = slots[n].1 := by unfold qd; rw [List.getD_eq_getElem?_getD, List.getElem?_eq_getElem hs]; rfl
 rw [e, e2]; exact (hp.sl n hs hl).1
theorem DX (h : cG N gate ns) (hp : tB ns n0 N slots bins) {n : Nat} (hn : n < N) (hs : nB ns n = true) : 0 < (qd slots n).length ∧ (qd slots n).length ≤ 4 := by
 have hx := n6 h hn
 have hl := DM h hp hn
 unfold nB iz at hs
 simp only [Bool.and_eq_true, decide_eq_true_eq] at hs
 have := hx.IK hs.2
 omega
structure Kr (N : Nat) (ns : List Nd) (slots : LL) : Prop where
 kU : N ≤ 11
 len : ns.length = N
 ls : slots.length = N
 pos : ∀ n, n < N → nB ns n = true → 0 < (qd slots n).length ∧ (qd slots n).length ≤ 4
theorem uU (h : cG N gate ns) (hp : tB ns n0 N slots bins) : Kr N ns slots := ⟨h.kU, h.len, hp.ls, fun n hn => DX h hp hn⟩
theorem Vv (ns : List Nd) (n : Nat) : yJ ((fo ns n).2.1, ()) = some (nB ns n, ()) := TP _
theorem Xn (h : Kr N ns slots) {n : Nat} (hn : n < N) : Hu ((ns, ds, od, ()), (slots, bins, ()), (n : Int), ()) = some (wC ns slots n, (ns, ds, od, ()), ()) := by
 have hl : n < ns.length := by rw [h.len]; exact hn
 have hs : n < slots.length := by rw [h.ls]; exact hn
 show OU 0 (ns, ds, od, ()) (slots, bins, ()) (n : Int) = _
 unfold OU wC
 simp only [aa]
 rw [if_pos (ae hl), gC, Vv, Option.bind_some]
 simp only
 cases hst : nB ns n with
 | false => rw [if_pos (by rfl), if_neg (by simp)]
 | true =>
  have hp1 := h.pos n hn hst
  rw [if_neg (by simp), if_pos rfl, if_pos (ae hl)]
  have fin : ∀ b : Bool, x8 ((n : Int), b, (ns, ds, od, ()), (slots, bins, ()), ()) = some ((if b = true then false else HK slots n == 0), (ns, ds, od, ()), ()) := fun b => by
   unfold x8
   simp only
   cases b with
   | true => rfl
   | false => rw [if_neg (by simp), if_pos (ae hs), qw, if_pos (Iz hp1.1), Ex]; rfl
  by_cases h5 : iz ns n = 5
  ·rw [if_pos (by unfold iz at h5; simpa using h5), if_pos (ae hs), IH, Ze _ (by omega), Option.bind_some]
   simp only
   rw [fin]
   by_cases hf : gk (qd slots n) < 2
   ·rw [if_pos (decide_eq_true (by omega)), if_pos ⟨h5, hf⟩]
   ·rw [if_neg (by simp; omega), if_neg (fun h => hf h.2)]
  ·rw [if_neg (by unfold iz at h5; simpa using h5), fin, if_neg (by simp), if_neg (fun h => h5 h.1)]
theorem rnd (h : Kr N ns slots) (hw : Nj ns N W) (c : Int) (b : Bool) (x1 x2 le en : IL) {n : Nat} (hn : n < N) (hle : le.length = N) (hen : en.length = N) :
  RO 100000 (fun z => some z) (c, b, (ns, ds, od, ()), (), (slots, bins, ()), (), (), (W, ()), (od, ()), x1, x2, le, en, ()) (n : Int) =
   some (c, b, (ns, ds, od, ()), (), (slots, bins, ()), (), (), (W, ()), (od, ()), x1, x2, (fP ns slots W N n le en).1, (fP ns slots W N n le en).2, ()) := by
 have ll := h.kU
 have hl : n < ns.length := by rw [h.len]; exact hn
 have hs : n < slots.length := by rw [h.ls]; exact hn
 have hW := hw.len
 have hcs : gr ns W n N < 2048 := Nat.lt_of_lt_of_le (Ef ns W n N) (Nat.pow_le_pow_right (by omega) (by omega : N ≤ 11))
 have hbits : ∀ j, N ≤ j → (gr ns W n N).testBit j = false := fun j hj => by rw [qo, decide_eq_false (by omega)]; rfl
 have hla : (ou ns slots W le n).length = N := by unfold ou; split <;> simp [hle]
 have k5 : ∀ ar : Bool, ar = l6 ns slots W le n → Dy 100000 (fun z : vX => some z) ((n : Int), ar, c, b, (ns, ds, od, ()), (), (slots, bins, ()), (), (), (W, ()), (od, ()), x1, x2, ou ns slots W le n, en, ()) =
   some (c, b, (ns, ds, od, ()), (), (slots, bins, ()), (), (), (W, ()), (od, ()), x1, x2, (fP ns slots W N n le en).1, (fP ns slots W N n le en).2, ()) := fun ar har => by
  unfold Dy
  simp only [aa]
  rw [Zb h.len ll hw hn, Option.bind_some]
  simp only
  rw [if_pos (ae hl), gC, Vv, Option.bind_some]
  simp only
  unfold fP
  cases hst : nB ns n with
  | false =>
   rw [if_pos (by rfl), if_neg (by simp)]
   exact Rx _ c b _ _ W od x1 x2 en N ll hW 100000 _ _ (by omega) hcs hla hbits
  | true =>
   rw [if_neg (by simp), if_pos rfl]
   have k10 : ∀ f : Bool, rY (fun z : vX => some z) ((n : Int), ((gr ns W n N : Nat) : Int), c, b, f, (ns, ds, od, ()), (), (slots, bins, ()), (), (), (W, ()), (od, ()), x1, x2, ou ns slots W le n, en, ()) =
     some (c, b, (ns, ds, od, ()), (), (slots, bins, ()), (), (), (W, ()), (od, ()), x1, x2, (if f = true then (ou ns slots W le n).set (low (gr ns W n N)) (cC W (low (gr ns W n N)), ()) else ou ns slots W le n), (if f = true then en.set n ((low (gr ns W n N) : Nat), ()) else en), ()) ∨ (f = true ∧ gr ns W n N = 0) := fun f => by
    cases f with
    | false => left; unfold rY; simp only; rw [if_neg (by simp)]; rfl
    | true =>
     by_cases h0 : gr ns W n N = 0
     ·exact .inr ⟨rfl, h0⟩
     left
     obtain ⟨a1, a2, _⟩ := mv hcs h0
     have hlow : low (gr ns W n N) < N := by
      rcases Nat.lt_or_ge (low (gr ns W n N)) N with h | h
      ·exact h
      ·rw [hbits _ h] at a2; cases a2
     unfold rY
     simp only
     rw [if_pos trivial, Xp hcs h0, Option.bind_some]
     simp only
     rw [if_pos (ae (by omega)), if_pos (ae (by omega)), if_pos (decide_eq_true (by rw [Int.toNat_natCast]; omega)), if_pos (ae (by omega)), if_pos (decide_eq_true (by rw [Int.toNat_natCast]; omega)), Int.toNat_natCast, Int.toNat_natCast, mr]
     rfl
   by_cases h0 : gr ns W n N = 0
   ·rw [h0, if_neg (by simp), if_neg (by simp)]
    have := (k10 false).resolve_right (by simp)
    rw [h0] at this
    rw [this]; rfl
   ·rw [if_pos (by simp; omega), Xn h hn, Option.bind_some]
    simp only
    rw [show (gr ns W n N != 0) = true by simpa using h0, Bool.true_and]
    cases hop : wC ns slots n with
    | true =>
     rw [if_pos rfl, ← har, Bool.true_and]
     rw [(k10 (!ar)).resolve_right (fun h => h0 h.2)]
     cases ar <;> rfl
    | false =>
     rw [if_neg (by simp), if_neg (by simp), (k10 false).resolve_right (by simp)]; rfl
 have k4 : ∀ ar : Bool, ar = l6 ns slots W le n → Dx 100000 (fun z : vX => some z) ((n : Int), ar, c, b, (ns, ds, od, ()), (), (slots, bins, ()), (), (), (W, ()), (od, ()), x1, x2, le, en, ()) =
   some (c, b, (ns, ds, od, ()), (), (slots, bins, ()), (), (), (W, ()), (od, ()), x1, x2, (fP ns slots W N n le en).1, (fP ns slots W N n le en).2, ()) := fun ar har => by
  have := k5 ar har
  unfold Dx
  simp only [aa]
  cases ar with
  | true =>
   rw [if_pos rfl, if_pos (ae (by omega)), if_pos (decide_eq_true (by rw [Int.toNat_natCast]; omega)), Int.toNat_natCast]
   unfold ou at this
   rw [← har, if_pos rfl] at this
   exact this
  | false =>
   rw [if_neg (by simp)]
   unfold ou at this
   rw [← har, if_neg (by simp)] at this
   exact this
 unfold RO
 simp only [aa]
 rw [if_pos (ae hl), gC]
 by_cases h5 : iz ns n = 5
 ·have hst : nB ns n = true := by unfold nB; rw [h5]; rfl
  have hp1 := h.pos n hn hst
  rw [if_pos (by unfold iz at h5; simpa using h5), if_pos (ae (by omega)), Ew]
  by_cases hw0 : 0 ≤ cC W n
  ·rw [if_pos (by simpa using hw0), if_pos (ae (by omega)), if_pos (decide_eq_true (by rw [Int.toNat_natCast]; omega)), Int.toNat_natCast]
   have ew : (le.getD n (0, ())).1 = cC le n := rfl
   rw [ew]
   by_cases hl0 : cC le n < 0
   ·rw [if_pos (by simpa using hl0), if_pos (ae hs), qw, if_pos (Iz hp1.1), Ex]
    refine k4 _ ?_
    unfold l6
    rw [h5, decide_eq_true hw0, decide_eq_true hl0]; simp [HK]
   ·rw [if_neg (by simpa using hl0)]
    exact k4 _ (by unfold l6; rw [decide_eq_false hl0]; simp)
  ·rw [if_neg (by simpa using hw0)]
   exact k4 _ (by unfold l6; rw [decide_eq_false hw0]; simp)
 ·rw [if_neg (by unfold iz at h5; simpa using h5)]
  exact k4 _ (by unfold l6; rw [show (iz ns n == 5) = false by simpa using h5]; rfl)
end
def nA (ns : List Nd) (slots : LL) (W : IL) (N : Nat) (l : List Nat) (p : IL × IL) : IL × IL := l.foldl (fun p n => fP ns slots W N n p.1 p.2) p
theorem xR (ns : List Nd) (slots : LL) (W : IL) (N n : Nat) (le en : IL) : (fP ns slots W N n le en).1.length = le.length ∧ (fP ns slots W N n le en).2.length = en.length := by
 have h : (ou ns slots W le n).length = le.length := by unfold ou; split <;> simp
 unfold fP
 split
 ·split <;> simp [h]
 ·simp [iR, h]
theorem EY (ns : List Nd) (slots : LL) (W : IL) (N : Nat) : ∀ (l : List Nat) (p : IL × IL), (nA ns slots W N l p).1.length = p.1.length ∧ (nA ns slots W N l p).2.length = p.2.length
 | [], p => ⟨rfl, rfl⟩
 | n :: l, p => by
  have h1 := xR ns slots W N n p.1 p.2
  have h2 := EY ns slots W N l (fP ns slots W N n p.1 p.2)
  exact ⟨h2.1.trans h1.1, h2.2.trans h1.2⟩
def RA (slots : LL) (ns : List Nd) (n : Nat) : Int := cC (qd slots n) ((fo ns n).2.2.1.toNat - 1)
def Nf (ns : List Nd) (slots bins : LL) (c : IL) (fs : List Dv) (n : Nat) : Int :=
 if iz ns n = 7 then (if ((qd bins n).any fun y => y.1 == cC c n) = true then 0 else -1)
 else if nB ns n = true then (if RA slots ns n = 0 ∨ fs.any (tT (1, (n : Int), (fo ns n).2.2.1 - 1, ())) = true then -1 else cC c n)
 else -1
def wU (ns : List Nd) (slots bins : LL) (c : IL) (fs : List Dv) (k : Nat) : IL := (List.range k).map fun n => (Nf ns slots bins c fs n, ())
theorem Kc (ns : List Nd) (slots bins : LL) (c : IL) (fs : List Dv) (k : Nat) : (wU ns slots bins c fs k).length = k := by simp [wU]
theorem Kb (ns : List Nd) (slots bins : LL) (c : IL) (fs : List Dv) {k n : Nat} (h : n < k) : cC (wU ns slots bins c fs k) n = Nf ns slots bins c fs n := by
 unfold wU cC
 rw [List.getD_eq_getElem?_getD, List.getElem?_map, List.getElem?_range h]; rfl
section
variable {N gate : Nat} {ns : List Nd} {ds : List Dv} {od W : IL} {n0 : Int} {slots bins : LL}
theorem oL (h : Kr N ns slots) (hw : Nj ns N W) (c : Int) (b : Bool) (x1 x2 : IL) : ∀ (l : List Nat) (le en : IL), (∀ n ∈ l, n < N) → le.length = N → en.length = N →
  lg (c, b, (ns, ds, od, ()), (), (slots, bins, ()), (), (), (W, ()), (od, ()), x1, x2, le, en, ()) (l.map fun n : Nat => (n : Int)) =
   some (c, b, (ns, ds, od, ()), (), (slots, bins, ()), (), (), (W, ()), (od, ()), x1, x2, (nA ns slots W N l (le, en)).1, (nA ns slots W N l (le, en)).2, ())
 | [], le, en, _, _, _ => rfl
 | n :: l, le, en, hl, hle, hen => by
  have e1 := rnd (ds := ds) (od := od) (bins := bins) h hw c b x1 x2 le en (hl n (List.mem_cons_self ..)) hle hen
  have hln := xR ns slots W N n le en
  have ih := oL h hw c b x1 x2 l _ _ (fun m hm => hl m (List.mem_cons_of_mem _ hm)) (hln.1.trans hle) (hln.2.trans hen)
  unfold lg at ih ⊢
  rw [List.map_cons, List.foldlM_cons, e1]
  exact ih
theorem RH (h : Kr N ns slots) (hw : Nj ns N W) (hod : od = eU (List.range N)) (c : Int) (b : Bool) (x1 x2 le en : IL) (hle : le.length = N) (hen : en.length = N) :
  HM (c, b, (ns, ds, od, ()), (), (slots, bins, ()), (), (), (W, ()), (od, ()), x1, x2, le, en, ()) := by
 intro pre hpre _
 have ho : ∀ n ∈ pre, ∃ m : Nat, m < N ∧ n = m := fun n hn => by
  have := hpre n hn
  unfold gq at this
  simp only [hod, eU, List.map_map, List.mem_map, List.mem_range] at this
  obtain ⟨m, hm, e⟩ := this
  exact ⟨m, hm, e.symm⟩
 have e : pre = (pre.map Int.toNat).map fun n : Nat => (n : Int) := by
  rw [List.map_map]
  conv => lhs; rw [← List.map_id pre]
  exact List.map_congr_left fun n hn => by
   obtain ⟨m, _, rfl⟩ := ho n hn
   simp
 have hl : ∀ n ∈ pre.map Int.toNat, n < N := fun n hn => by
  obtain ⟨m, hm, rfl⟩ := List.mem_map.1 hn
  obtain ⟨k, hk, rfl⟩ := ho m hm
  simpa using hk
 rw [e]
 exact ⟨_, oL h hw c b x1 x2 _ le en hl hle hen, rfl, rfl, rfl⟩
theorem Za (h : cG N gate ns) (hp : tB ns n0 N slots bins) (c : IL) {fs : List Dv} (hf : fs.length ≤ 90000) {n : Nat} (hn : n < N) :
  MM ((ns, ds, od, ()), (slots, bins, ()), (n : Int), cC c n, fs, ()) = some (Nf ns slots bins c fs n, (ns, ds, od, ()), ()) := by
 have hl : n < ns.length := by rw [h.len]; exact hn
 have hs : n < slots.length := by rw [hp.ls]; exact hn
 have hb : n < bins.length := by rw [hp.lb]; exact hn
 have hbl : (qd bins n).length ≤ 1 := by
  have := (hp.bn n hb (by rw [List.getElem?_eq_getElem hs]; rfl)).1
  unfold qd; rw [List.getD_eq_getElem?_getD, List.getElem?_eq_getElem hb]; exact this
 show O4 0 (ns, ds, od, ()) (slots, bins, ()) (n : Int) (cC c n) fs = _
 unfold O4 Nf
 rw [if_pos (ae hl), gC]
 by_cases h7 : iz ns n = 7
 ·rw [if_pos (by unfold iz at h7; simpa using h7), if_pos (ae hb), qw, f66 (qd bins n) _ (by omega), Option.bind_some, if_pos h7]
  simp only
  cases (qd bins n).any fun y => y.1 == cC c n <;> rfl
 ·rw [if_neg (by unfold iz at h7; simpa using h7), Vv, Option.bind_some, if_neg h7]
  simp only
  cases hst : nB ns n with
  | false => rw [if_pos (by rfl), if_neg (by simp)]
  | true =>
   have hp1 := DX h hp hn hst
   have hsl := DM h hp hn
   have hwr : IntKind.i64.wrap ((fo ns n).2.2.1 - 1) = (((fo ns n).2.2.1.toNat - 1 : Nat) : Int) := by rw [ch (by omega) (by omega)]; omega
   rw [if_neg (by simp), if_pos rfl]
   simp only [aa]
   rw [if_pos (ae hs), qw, hwr, if_pos (ae (by omega)), Ew]
   have els : cC (qd slots n) ((fo ns n).2.2.1.toNat - 1) = RA slots ns n := rfl
   rw [els]
   have ew : (((fo ns n).2.2.1.toNat - 1 : Nat) : Int) = (fo ns n).2.2.1 - 1 := by omega
   unfold Fv
   simp only
   by_cases h0 : RA slots ns n = 0
   ·rw [if_pos (by simpa using h0), if_pos trivial, if_pos (.inl h0)]
   ·rw [if_neg (by simpa using h0), f67 _ _ hf, Option.bind_some, ew]
    simp only
    cases hfa : fs.any (tT (1, (n : Int), (fo ns n).2.2.1 - 1, ())) with
    | true => rw [if_pos rfl, if_pos (.inr rfl)]
    | false => rw [if_neg (by simp), if_neg (by simp [h0])]
def ix (k : Nat) : IL := List.replicate k (-1, ())
theorem RN (h : cG N gate ns) (hp : tB ns n0 N slots bins) {c : IL} (hc : c.length = N) {fs : List Dv} (hf : fs.length ≤ 90000) :
  P9 100000 (ns, ds, od, ()) (slots, bins, ()) c fs = some ((N : Int), false, (ns, ds, od, ()), (), (slots, bins, ()), (), (), (wU ns slots bins c fs N, ()), (od, ()), [], [], ix N, ix N, ()) := by
 have hl := h.len
 have ll := h.kU
 unfold P9
 simp only [aa]
 rw [hl]
 refine ak (F := rZ _) (r := _) (fun k : Nat => (c, fs, (N : Int), (k : Int), (ns, ds, od, ()), (), (slots, bins, ()), (), (), (), [], [], ix k, ix k, wU ns slots bins c fs k, ())) N 100000 (by omega) (fun rc k hk => ?_) (fun rc => ?_)
 ·unfold rZ
  simp only
  have hm : (ix k).length = k := by simp [ix]
  have em : ix k ++ [(-1, ())] = ix (k + 1) := by unfold ix; rw [List.replicate_succ']
  have ewa : wU ns slots bins c fs k ++ [(Nf ns slots bins c fs k, ())] = wU ns slots bins c fs (k + 1) := by unfold wU; rw [List.range_succ, List.map_append]; rfl
  rw [if_pos (by simpa using hk), hm, if_pos (di (by omega)), if_pos (di (by omega)), if_pos (di (by omega)), if_pos (di (by omega)), if_pos (ae (by omega)), Ew, Za h hp c hf hk, Option.bind_some]
  simp only
  rw [Kc, if_pos (di (by omega)), if_pos (di (by omega)), cT hk, em, ewa]
 ·unfold rZ
  simp only
  rw [if_neg (by simp)]
  simp
theorem Kg (h : cG N gate ns) (hp : tB ns n0 N slots bins) {c : IL} (hc : c.length = N) (hcs : ∀ (j : Nat) (h1 : j < c.length) (h2 : j < ns.length), gU ns[j] (c[j]).1) (fs : List Dv) : Nj ns N (wU ns slots bins c fs N) where
 len := Kc ..
 lt := fun m hm h0 => by
  rw [Kb _ _ _ _ _ hm] at h0 ⊢
  have hl : m < ns.length := by rw [h.len]; exact hm
  have hx := n6 h hm
  have hk1 := hx.oQ
  have hcm := hcs m (by omega) hl
  have e : fo ns m = ns[m] := by unfold fo; rw [List.getD_eq_getElem?_getD, List.getElem?_eq_getElem hl]; rfl
  have ew : cC c m = (c[m]'(by omega)).1 := by unfold cC; rw [List.getD_eq_getElem?_getD, List.getElem?_eq_getElem (by omega)]; rfl
  unfold Nf at h0 ⊢
  by_cases h7 : iz ns m = 7
  ·rw [if_pos h7] at h0 ⊢
   split at h0
   ·rename_i hb
    rw [if_pos hb, hx.Gy]
    unfold iz at h7
    rw [h7]; decide
   ·omega
  ·rw [if_neg h7] at h0 ⊢
   by_cases hst : nB ns m = true
   ·rw [if_pos hst] at h0 ⊢
    split at h0
    ·omega
    ·rename_i hb
     rw [if_neg hb]
     unfold nB iz at hst
     simp only [Bool.and_eq_true, decide_eq_true_eq] at hst
     unfold gU at hcm
     rw [← e, ← ew, if_neg (by unfold iz at h7; exact h7), if_neg (by omega)] at hcm
     rcases hcm with h | h
     ·exact h.2
     ·omega
   ·rw [if_neg hst] at h0; omega
theorem Y3 (h : cG N gate ns) (hp : tB ns n0 N slots bins) {c : IL} (hc : c.length = N) (hcs : ∀ (j : Nat) (h1 : j < c.length) (h2 : j < ns.length), gU ns[j] (c[j]).1) {fs : List Dv} (hf : fs.length ≤ 90000) :
  DT ((ns, ds, eU (List.range N), ()), (slots, bins, ()), c, fs, ()) = some (((nA ns slots (wU ns slots bins c fs N) N (List.range N).reverse (ix N, ix N)).1, (nA ns slots (wU ns slots bins c fs N) N (List.range N).reverse (ix N, ix N)).2, ()), (ns, ds, eU (List.range N), ()), ()) := by
 have ll := h.kU
 have hw := Kg h hp hc hcs fs
 have hm : (ix N).length = N := by simp [ix]
 unfold DT
 simp only
 rw [RN h hp hc hf, Option.bind_some]
 have hor : gq ((N : Int), false, (ns, ds, eU (List.range N), ()), (), (slots, bins, ()), (), (), (wU ns slots bins c fs N, ()), (eU (List.range N), ()), [], [], ix N, ix N, ()) = (List.range N).map fun n : Nat => (n : Int) := by
  simp [gq, eU]
 rw [if_pos ⟨RH (uU h hp) hw rfl _ _ _ _ _ _ hm hm, by rw [hor]; simp; omega⟩, hor, ← List.map_reverse, oL (uU h hp) hw _ _ _ _ _ _ _ (fun n hn => by simpa using hn) hm hm]
 rfl
theorem YY (h : cG N gate ns) (hd : DevG ns ds) (hp : tB ns n0 N slots bins) {c : IL} (hc : c.length = N) (hcs : ∀ (j : Nat) (h1 : j < c.length) (h2 : j < ns.length), gU ns[j] (c[j]).1) {fs : List Dv} (hf : fs.length ≤ 90000)
  (hr : DS ((ns, ds, eU (List.range N), ()), c, fs, ()) = some (0, (ns, ds, eU (List.range N), ()), ())) :
  BB ((ns, ds, ()), (slots, bins, ()), c, fs, ()) = some ((((nA ns slots (wU ns slots bins c fs N) N (List.range N).reverse (ix N, ix N)).1, (nA ns slots (wU ns slots bins c fs N) N (List.range N).reverse (ix N, ix N)).2, ()), 0, ()), ()) := by
 show AL 0 (ns, ds, ()) (slots, bins, ()) c fs = _
 unfold AL
 simp only [aa]
 rw [SW h hd, Option.bind_some]
 simp only
 rw [if_neg (by simp), TO h hd, Option.bind_some, EO h]
 unfold se
 simp only [aa]
 rw [if_neg (by simp), TK h hp, Option.bind_some]
 unfold sf
 simp only
 rw [if_neg (by simp), hr, Option.bind_some]
 simp only
 rw [if_neg (by simp), Y3 h hp hc hcs hf, Option.bind_some]
end
section
variable {ns : List Nd} {slots : LL} {W : IL} {N : Nat}
theorem C9 (le : IL) {n : Nat} (j : Nat) (hn : n < le.length) : cC (ou ns slots W le n) j = if l6 ns slots W le n = true ∧ j = n then 0 else cC le j := by
 unfold ou
 by_cases ha : l6 ns slots W le n = true
 ·rw [if_pos ha, lP _ _ _ _ hn]
  by_cases e : j = n
  ·rw [if_pos e, if_pos ⟨ha, e⟩]
  ·rw [if_neg e, if_neg fun h => e h.2]
 ·rw [if_neg ha, if_neg fun h => ha h.1]
theorem xe {n j : Nat} (h : (gr ns W n N).testBit j = true) : j < N ∧ j ≠ n ∧ 0 ≤ cC W j ∧ p4 ns W j = n := by
 rw [qo] at h
 unfold iy at h
 simp only [Bool.and_eq_true, decide_eq_true_eq, bne_iff_ne, ne_eq, beq_iff_eq] at h
 exact ⟨h.1, h.2.1, h.2.2.1, h.2.2.2⟩
theorem xd (hN : N ≤ 11) (n : Nat) : gr ns W n N < 2048 := Nat.lt_of_lt_of_le (Ef ns W n N) (Nat.pow_le_pow_right (by omega) (by omega : N ≤ 11))
theorem OH (hN : N ≤ 11) {n : Nat} (hn : n < N) (le en : IL) (hle : le.length = N) (j : Nat) (hj : j < N) :
  cC (fP ns slots W N n le en).1 j = cC (ou ns slots W le n) j ∨ (j ≠ n ∧ 0 ≤ cC W j ∧ p4 ns W j = n ∧ cC (fP ns slots W N n le en).1 j = cC W j) := by
 have hla : (ou ns slots W le n).length = N := by unfold ou; split <;> simp [hle]
 unfold fP
 split
 ·split
  ·rename_i hc
   simp only [Bool.and_eq_true, bne_iff_ne, ne_eq] at hc
   obtain ⟨a1, a2, _⟩ := mv (xd hN n) hc.1
   have hm := xe a2
   simp only
   rw [lP _ _ _ _ (by omega)]
   by_cases e : j = low (gr ns W n N)
   ·right
    rw [if_pos e, e]
    exact ⟨hm.2.1, hm.2.2.1, hm.2.2.2, rfl⟩
   ·left; rw [if_neg e]
  ·exact .inl rfl
 ·simp only
  rw [vx _ _ _ (by omega)]
  by_cases hb : (gr ns W n N).testBit j = true
  ·right
   have hm := xe hb
   rw [if_pos hb]
   exact ⟨hm.2.1, hm.2.2.1, hm.2.2.2, rfl⟩
  ·left; rw [if_neg hb]
end
def yR : List Nd := [([65], 1, 1, 0, [(3, ())], ()), ([66], 2, 1, 0, [(3, ())], ()), ([67], 2, 1, 0, [(3, ())], ()), ([68], 2, 1, 0, [(4, ())], ()), ([77], 9, 0, 0, [], ())]
def Kz : LL := [([(0, ())], ()), ([(5, ())], ()), ([(6, ())], ()), ([(0, ())], ()), ([], ())]
def Nn : LL := List.replicate 5 ([], ())
def c0 : IL := List.replicate 5 (0, ())
theorem OA : Pn (Rv, ()) = some (((yR, [], ()), 0, 0, ()), ()) := by kernel_rfl
theorem v0 : BC ((yR, [], ()), ()) = some (0, ()) := by kernel_rfl
theorem o0 : DU ((yR, [], ()), ()) = some (eU (List.range 5), ()) := by kernel_rfl
theorem f0 : DR ((yR, [], eU (List.range 5), ()), (Kz, Nn, ()), ()) = some (true, (yR, [], eU (List.range 5), ()), ()) := by kernel_rfl
theorem r0 : DS ((yR, [], eU (List.range 5), ()), c0, [], ()) = some (0, (yR, [], eU (List.range 5), ()), ()) := by kernel_rfl
def W0 : IL := [(-1, ()), (0, ()), (0, ()), (-1, ()), (-1, ())]
theorem q0 : P9 100000 (yR, [], eU (List.range 5), ()) (Kz, Nn, ()) c0 [] = some (5, false, (yR, [], eU (List.range 5), ()), (), (Kz, Nn, ()), (), (), (W0, ()), (eU (List.range 5), ()), [], [], ix 5, ix 5, ()) := by kernel_rfl
theorem YJ : Kr 5 yR Kz := ⟨by decide, rfl, rfl, by decide⟩
theorem YM : Nj yR 5 W0 := ⟨rfl, by decide⟩
theorem VK : nA yR Kz W0 5 (List.range 5).reverse (ix 5, ix 5) = ([(-1, ()), (0, ()), (-1, ()), (-1, ()), (-1, ())], [(-1, ()), (-1, ()), (-1, ()), (1, ()), (-1, ())]) := by kernel_rfl
theorem TM : DT ((yR, [], eU (List.range 5), ()), (Kz, Nn, ()), c0, [], ()) = some ((([(-1, ()), (0, ()), (-1, ()), (-1, ()), (-1, ())], [(-1, ()), (-1, ()), (-1, ()), (1, ()), (-1, ())], ()), (yR, [], eU (List.range 5), ()), ())) := by
 unfold DT
 simp only
 rw [q0, Option.bind_some]
 have hor : gq ((5 : Int), false, (yR, [], eU (List.range 5), ()), (), (Kz, Nn, ()), (), (), (W0, ()), (eU (List.range 5), ()), [], [], ix 5, ix 5, ()) = (List.range 5).map fun n : Nat => (n : Int) := by rfl
 rw [if_pos ⟨RH YJ YM rfl _ _ _ _ _ _ rfl rfl, by rw [hor]; decide⟩, hor, ← List.map_reverse, oL YJ YM _ _ _ _ _ _ _ (by decide) rfl rfl]
 rw [VK]
 rfl
theorem SU : JP () = some (true, ()) := by
 have ll : BB ((yR, [], ()), (Kz, Nn, ()), c0, [], ()) = some ((([(-1, ()), (0, ()), (-1, ()), (-1, ()), (-1, ())], [(-1, ()), (-1, ()), (-1, ()), (1, ()), (-1, ())], ()), 0, ()), ()) := by
  show AL 0 (yR, [], ()) (Kz, Nn, ()) c0 [] = _
  unfold AL
  simp only [aa]
  rw [v0, Option.bind_some]
  simp only
  rw [if_neg (by simp), o0, Option.bind_some]
  unfold se
  simp only [aa]
  rw [if_neg (by simp), f0, Option.bind_some]
  unfold sf
  simp only
  rw [if_neg (by simp), r0, Option.bind_some]
  simp only
  rw [if_neg (by simp), TM, Option.bind_some]
 show OP 0 = _
 unfold OP
 rw [OA, Option.bind_some]
 rw [if_pos (by decide), if_pos (by decide), if_pos (by decide), if_pos (by decide), if_pos (by decide), if_pos (by decide), if_pos (by decide), if_pos (by decide)]
 change (BB ((yR, [], ()), (Kz, Nn, ()), c0, [], ())).bind _ = _
 rw [ll, Option.bind_some]
 kernel_rfl
end Go.Proofs.YtdkibgdkmnpncaaDoor
