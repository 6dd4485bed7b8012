/- Chapter 10: what the functions come to; the laws. -/
import Derived.Test.YtdkibgdkmnpncaaDoorWb
import Derived.KernelRfl
open Go Go.Proofs Go.Abs
set_option linter.unusedVariables false
set_option maxRecDepth 100000
namespace Go.Proofs.YtdkibgdkmnpncaaDoor
structure D8 (ns : List Nd) (fs : List Dv) : Prop where
 each : ∀ f ∈ fs, (f.1 = 1 ∨ f.1 = 2) ∧ ∃ k : Nat, f.2.1 = k ∧ k < ns.length ∧ 0 ≤ f.2.2.1 ∧ f.2.2.1 < (fo ns k).2.2.1
 diff : ∀ (i j : Nat) (hi : i < fs.length) (hj : j < fs.length), i < j → ¬ (fs[i].2.1 = fs[j].2.1 ∧ fs[i].2.2.1 = fs[j].2.2.1)
theorem Ou (ns : List Nd) : D8 ns [] := ⟨by simp, fun i j hi => absurd hi (Nat.not_lt_zero i)⟩
theorem Lf {ns : List Nd} {fs : List Dv} (h : D8 ns fs) {f : Dv} (h1 : (f.1 = 1 ∨ f.1 = 2) ∧ ∃ k : Nat, f.2.1 = k ∧ k < ns.length ∧ 0 ≤ f.2.2.1 ∧ f.2.2.1 < (fo ns k).2.2.1) (h2 : ∀ g ∈ fs, ¬ (g.2.1 = f.2.1 ∧ g.2.2.1 = f.2.2.1)) : D8 ns (fs ++ [f]) where
 each := fun g hg => by
  rcases List.mem_append.1 hg with hg | hg
  ·exact h.each g hg
  ·simp only [List.mem_singleton] at hg; subst hg; exact h1
 diff := fun i j hi hj hij => by
  simp only [List.length_append, List.length_cons, List.length_nil] at hi hj
  by_cases ej : j < fs.length
  ·rw [List.getElem_append_left (by omega), List.getElem_append_left ej]
   exact h.diff i j (by omega) ej hij
  ·have : j = fs.length := by omega
   subst this
   rw [List.getElem_append_left (by omega), List.getElem_append_right (Nat.le_refl _)]
   simp only [Nat.sub_self, List.getElem_cons_zero]
   exact h2 _ (List.getElem_mem _)
theorem YZ {N gate : Nat} {ns : List Nd} (h : cG N gate ns) (dv : List Dv) {s : Sr} (hs : cE s) (n : Nat) (hn : n ≤ 10) :
  ∃ fs s', Pk (s, (ns, dv, ()), (n : Int), ()) = some (fs, s', ()) ∧ cE s' ∧ fs.length ≤ n ∧ D8 ns fs := by
 have hl := h.len
 have ll := h.kU
 have hgN := h.gN
 show ∃ fs s', LD 100000 s (ns, dv, ()) (n : Int) = some (fs, s', ()) ∧ _
 unfold LD
 simp only [aa]
 refine ck (F := sg 100000 xY) (fun i z => ∃ (s : Sr) (fs : List Dv), z = ((n : Int), (i : Int), s, (ns, dv, ()), fs, ()) ∧ cE s ∧ fs.length ≤ i ∧ D8 ns fs)
  (fun o => ∃ fs s', o = some (fs, s', ()) ∧ cE s' ∧ fs.length ≤ n ∧ D8 ns fs) n 100000 (by omega) ⟨s, [], rfl, hs, Nat.le_refl _, Ou ns⟩ (fun rc i z hi hz => ?_) (fun rc z hz => ?_)
 ·obtain ⟨s, fs, rfl, hs, hfl, hm⟩ := hz
  have fin : ∀ (s' : Sr) (fs' : List Dv), cE s' → fs'.length ≤ i + 1 → D8 ns fs' → ∃ z', m9 rc ((n : Int), (i : Int), s', (ns, dv, ()), fs', ()) = rc z' ∧ ∃ (s : Sr) (fs : List Dv), z' = ((n : Int), ((i + 1 : Nat) : Int), s, (ns, dv, ()), fs, ()) ∧ cE s ∧ fs.length ≤ i + 1 ∧ D8 ns fs := fun s' fs' a b c => by
   unfold m9
   simp only
   rw [cT hi]
   exact ⟨_, rfl, s', fs', rfl, a, b, c⟩
  simp only [sg, aa]
  obtain ⟨k, s1, hk, k0, k1, hs1⟩ := GA hs (ns.length : Int) (by omega) (by omega)
  obtain ⟨k, rfl⟩ : ∃ m : Nat, k = m := ⟨k.toNat, by omega⟩
  have hkl : k < ns.length := by omega
  rw [if_pos (by simpa using hi), hk, Option.bind_some]
  simp only
  rw [if_pos (ae hkl), gC]
  have hx := n6 h (show k < N by omega)
  have hxl := oW hx
  by_cases h0 : (fo ns k).2.2.1 = 0
  ·rw [if_pos (by simpa using h0)]
   exact fin s1 fs hs1 (by omega) hm
  rw [if_neg (by simpa using h0), if_pos (ae hkl)]
  obtain ⟨a, s2, ha, a0, a1, hs2⟩ := Kt hs1 1 2 (by decide) (by decide) (by decide)
  rw [ha, Option.bind_some]
  simp only
  obtain ⟨w, s3, hw, w0, w1, hs3⟩ := GA hs2 (fo ns k).2.2.1 (by omega) (by omega)
  rw [hw, Option.bind_some]
  simp only
  have k8 : ∀ b : Bool, (b = false → ∀ g ∈ fs, ¬ (g.2.1 = (k : Int) ∧ g.2.2.1 = w)) → ∃ z', pe (m9 rc) ((n : Int), (i : Int), b, s3, (ns, dv, ()), (a, (k : Int), w, ()), fs, ()) = rc z' ∧ ∃ (s : Sr) (fs : List Dv), z' = ((n : Int), ((i + 1 : Nat) : Int), s, (ns, dv, ()), fs, ()) ∧ cE s ∧ fs.length ≤ i + 1 ∧ D8 ns fs := fun b hb => by
   unfold pe
   simp only
   cases b with
   | true => rw [if_neg (by simp)]; exact fin s3 fs hs3 (by omega) hm
   | false =>
    rw [if_pos (by rfl), if_pos (di (by omega)), if_pos (di (by omega))]
    exact fin s3 _ hs3 (by simp; omega) (Lf hm ⟨by show a = 1 ∨ a = 2; omega, k, rfl, hkl, w0, w1⟩ (hb rfl))
  have hit := ak (F := pf (pe (m9 rc))) (r := pe (m9 rc) ((n : Int), (i : Int), fs.any (fun g => g.2.1 == (k : Int) && g.2.2.1 == w), s3, (ns, dv, ()), (a, (k : Int), w, ()), fs, ()))
   (fun j : Nat => ((n : Int), (i : Int), (fs.take j).any (fun g => g.2.1 == (k : Int) && g.2.2.1 == w), (j : Int), s3, (ns, dv, ()), (a, (k : Int), w, ()), fs, ())) fs.length 100000 (by omega) (fun rc2 j hj => ?_) (fun rc2 => ?_)
  ·simp only [List.take_zero, List.any_nil] at hit
   rw [show ((0 : Nat) : Int) = 0 from rfl] at hit
   rw [hit]
   refine k8 _ fun hb g hg hc => ?_
   have := List.any_eq_false.1 hb g hg
   simp [hc.1, hc.2] at this
  ·have et : (fs.take (j + 1)).any (fun g => g.2.1 == (k : Int) && g.2.2.1 == w) = ((fs.take j).any (fun g => g.2.1 == (k : Int) && g.2.2.1 == w) || (fs[j].2.1 == (k : Int) && fs[j].2.2.1 == w)) := by
    rw [List.take_add_one, List.getElem?_eq_getElem hj, List.any_append]; simp
   have k11 : ∀ b : Bool, u5 rc2 ((n : Int), (i : Int), b, (j : Int), s3, (ns, dv, ()), (a, (k : Int), w, ()), fs, ()) = rc2 ((n : Int), (i : Int), b, ((j + 1 : Nat) : Int), s3, (ns, dv, ()), (a, (k : Int), w, ()), fs, ()) := fun b => by
    unfold u5
    simp only
    rw [cT hj]
   have eg : fs.getD j (0, 0, 0, ()) = fs[j] := by rw [List.getD_eq_getElem?_getD, List.getElem?_eq_getElem hj]; rfl
   unfold pf
   simp only [aa]
   rw [et, if_pos (by simpa using hj)]
   cases hb : (fs.take j).any (fun g => g.2.1 == (k : Int) && g.2.2.1 == w) with
   | true => rw [if_pos rfl, k11]; rfl
   | false =>
    rw [if_neg (by simp), if_pos (ae hj), if_pos (decide_eq_true (by rw [Int.toNat_natCast]; omega)), Int.toNat_natCast, eg]
    cases e1 : fs[j].2.1 == (k : Int) with
    | true => rw [if_pos rfl, if_pos (ae hj), if_pos (decide_eq_true (by omega)), k11]; rfl
    | false => rw [if_neg (by simp), k11]; rfl
  ·unfold pf
   simp only
   rw [if_neg (by simp), List.take_length]
 ·obtain ⟨s, fs, rfl, hs, hfl, hm⟩ := hz
  simp only [sg]
  rw [if_neg (by simp), xY]
  exact ⟨fs, s, rfl, hs, hfl, hm⟩
section
variable {N gate : Nat} {ns : List Nd} {ds : List Dv} {od : IL}
theorem nY (fs : List Dv) (k : Nat) (h : k < fs.length) : bg (0, 0, 0, ()) fs (k : Int) = fs[k] := bj _ _ _ h
theorem p5 {a b : IL} {j : Nat} (h : cC a j = cC b j) : p4 ns a j = p4 ns b j := by unfold p4; rw [h]
structure SK (N : Nat) (ns : List Nd) (W : IL) : Prop where
 up : ∀ j, j < N → 0 ≤ cC W j → (j : Int) ≤ p4 ns W j
 lp : ∀ j, j < N → iz ns j = 5 → (bg (0, ()) (fo ns j).2.2.2.2.1 0).1 = j
structure Inv (N : Nat) (ns : List Nd) (slots : LL) (W : IL) (k : Nat) (p : IL × IL) : Prop where
 l1 : p.1.length = N
 l2 : p.2.length = N
 lv : ∀ j, j < N → cC p.1 j = -1 ∨ (0 ≤ cC W j ∧ cC p.1 j = cC W j ∧ (k : Int) ≤ p4 ns W j) ∨ (cC p.1 j = 0 ∧ iz ns j = 5 ∧ k ≤ j)
 ev : ∀ m, m < N → cC p.2 m = -1 ∨ (k ≤ m ∧ nB ns m = true ∧ HK slots m = 0 ∧ ∃ j : Nat, j < N ∧ j ≠ m ∧ cC p.2 m = j ∧ 0 ≤ cC p.1 j ∧ p4 ns p.1 j = m ∧ ¬ (0 ≤ cC p.1 m ∧ p4 ns p.1 m = m))
 lead : ∀ m, k ≤ m → m < N → nB ns m = true → ∀ j, j < N → j ≠ m → 0 ≤ cC p.1 j → p4 ns p.1 j = m → cC p.2 m = j
variable {slots : LL} {W : IL}
theorem Ob (ha : SK N ns W) {k : Nat} {p : IL × IL} (h : Inv N ns slots W k p) {j : Nat} (hj : j < N) (h0 : 0 ≤ cC p.1 j) : (k : Int) ≤ p4 ns p.1 j := by
 rcases h.lv j hj with e | ⟨a, b, c⟩ | ⟨a, b, c⟩
 ·omega
 ·rw [p5 b]; exact c
 ·have : p4 ns p.1 j = j := by unfold p4; rw [a]; exact ha.lp j hj b
  omega
theorem IB (ha : SK N ns W) (hN : N ≤ 11) {n : Nat} (hn : n < N) {p : IL × IL} (h : Inv N ns slots W (n + 1) p) : Inv N ns slots W n (fP ns slots W N n p.1 p.2) := by
 obtain ⟨le, en⟩ := p
 have hl1 : le.length = N := h.l1
 have hl2 : en.length = N := h.l2
 have hlen := xR ns slots W N n le en
 generalize hE : fP ns slots W N n le en = q at hlen
 have gen : ∀ j, j < N → cC q.1 j = cC le j ∨ (j ≠ n ∧ 0 ≤ cC W j ∧ p4 ns W j = n ∧ cC q.1 j = cC W j) ∨ (j = n ∧ iz ns n = 5 ∧ cC le n < 0 ∧ cC q.1 n = 0) := fun j hj => by
  rcases OH (slots := slots) (W := W) (ns := ns) hN hn le en hl1 j hj with e | e
  ·rw [hE] at e
   rw [C9 _ _ (by omega)] at e
   by_cases hc : l6 ns slots W le n = true ∧ j = n
   ·rw [if_pos hc] at e
    obtain ⟨c1, rfl⟩ := hc
    unfold l6 at c1
    simp only [Bool.and_eq_true, decide_eq_true_eq, beq_iff_eq] at c1
    exact .inr (.inr ⟨rfl, c1.1, c1.2.2.1, e⟩)
   ·rw [if_neg hc] at e; exact .inl e
  ·rw [hE] at e; exact .inr (.inl e)
 have keep : ∀ j, j < N → 0 ≤ cC le j → cC q.1 j = cC le j := fun j hj h0 => by
  rcases gen j hj with e | ⟨a, b, c, d⟩ | ⟨a, b, c, d⟩
  ·exact e
  ·rcases h.lv j hj with e | ⟨_, e, _⟩ | ⟨_, _, e⟩
   ·simp only at e; omega
   ·exact d.trans e.symm
   ·have := ha.up j hj b; omega
  ·subst a; omega
 have new : ∀ j, j < N → 0 ≤ cC q.1 j → cC q.1 j = cC le j ∨ p4 ns q.1 j = n := fun j hj h0 => by
  rcases gen j hj with e | ⟨a, b, c, d⟩ | ⟨a, b, c, d⟩
  ·exact .inl e
  ·right; rw [p5 d]; exact c
  ·subst a
   right
   unfold p4; rw [d]; exact ha.lp j hj b
 have old : ∀ j, j < N → 0 ≤ cC le j → p4 ns le j ≠ n := fun j hj h0 => by
  have := Ob ha h hj h0
  simp only at this; omega
 have hev : ∀ m, m < N → m ≠ n → cC q.2 m = cC en m := fun m hm hmn => by
  rw [← hE]
  unfold fP
  split
  ·split
   ·simp only; rw [lP _ _ _ _ (by omega), if_neg hmn]
   ·rfl
  ·rfl
 have here : (cC q.2 n = -1 ∧ (nB ns n = true → ∀ j, j < N → j ≠ n → cC q.1 j = cC le j)) ∨ (nB ns n = true ∧ HK slots n = 0 ∧ ∃ j0 : Nat, j0 < N ∧ j0 ≠ n ∧ cC q.2 n = j0 ∧ 0 ≤ cC q.1 j0 ∧ p4 ns q.1 j0 = n ∧ ∀ j, j < N → j ≠ j0 → cC q.1 j = cC le j) := by
  have e1 : cC en n = -1 := by
   rcases h.ev n hn with e | ⟨a, _⟩
   ·exact e
   ·omega
  rw [← hE]
  unfold fP
  by_cases hst : nB ns n = true
  ·rw [if_pos hst]
   by_cases hc : (gr ns W n N != 0 && (wC ns slots n && !l6 ns slots W le n)) = true
   ·right
    rw [if_pos hc]
    simp only [Bool.and_eq_true, bne_iff_ne, ne_eq, Bool.not_eq_true'] at hc
    obtain ⟨h0, ho, hr⟩ := hc
    obtain ⟨a1, a2, _⟩ := mv (xd hN n) h0
    have hm := xe a2
    have eA : ou ns slots W le n = le := by unfold ou; rw [if_neg (by simp [hr])]
    have hs0 : HK slots n = 0 := by
     unfold wC at ho
     rw [if_pos hst] at ho
     split at ho
     ·cases ho
     ·simpa using ho
    simp only
    rw [eA]
    have eL : cC (le.set (low (gr ns W n N)) (cC W (low (gr ns W n N)), ())) (low (gr ns W n N)) = cC W (low (gr ns W n N)) := by rw [lP _ _ _ _ (by omega), if_pos rfl]
    refine ⟨hst, hs0, low (gr ns W n N), hm.1, hm.2.1, ?_, ?_, ?_, fun j hj hj2 => ?_⟩
    ·rw [lP _ _ _ _ (by omega), if_pos rfl]
    ·rw [eL]; exact hm.2.2.1
    ·rw [p5 eL]; exact hm.2.2.2
    ·rw [lP _ _ _ _ (by omega), if_neg hj2]
   ·left
    rw [if_neg hc]
    refine ⟨e1, fun _ j hj hjn => ?_⟩
    simp only
    rw [C9 _ _ (by omega), if_neg fun h => hjn h.2]
  ·left
   rw [if_neg hst]
   exact ⟨e1, fun hs => absurd hs hst⟩
 refine ⟨hlen.1.trans hl1, hlen.2.trans hl2, fun j hj => ?_, fun m hm => ?_, fun m hnm hm hst j hj hjm h0 ht => ?_⟩
 ·rcases gen j hj with e | ⟨a, b, c, d⟩ | ⟨a, b, c, d⟩
  ·rw [e]
   rcases h.lv j hj with e | ⟨a, b, c⟩ | ⟨a, b, c⟩
   ·exact .inl e
   ·exact .inr (.inl ⟨a, b, by omega⟩)
   ·exact .inr (.inr ⟨a, b, by omega⟩)
  ·exact .inr (.inl ⟨b, d, by omega⟩)
  ·subst a; exact .inr (.inr ⟨d, b, Nat.le_refl _⟩)
 ·by_cases hmn : m = n
  ·subst hmn
   rcases here with ⟨e, _⟩ | ⟨hst, hs0, j0, a, b, c, d, e, f⟩
   ·exact .inl e
   ·refine .inr ⟨Nat.le_refl _, hst, hs0, j0, a, b, c, d, e, fun hc => ?_⟩
    have em := f m hn (fun h => b h.symm)
    rw [em, p5 em] at hc
    exact old m hn hc.1 hc.2
  ·rw [hev m hm hmn]
   rcases h.ev m hm with e | ⟨a, b, c, j, d1, d2, d3, d4, d5, d6⟩
   ·exact .inl e
   ·have ej := keep j d1 d4
    refine .inr ⟨by omega, b, c, j, d1, d2, d3, by rw [ej]; exact d4, by rw [p5 ej]; exact d5, fun hc => ?_⟩
    rcases new m hm hc.1 with e | e
    ·rw [e, p5 e] at hc; exact d6 hc
    ·rw [e] at hc; omega
 ·by_cases hmn : m = n
  ·subst hmn
   rcases here with ⟨_, e⟩ | ⟨_, _, j0, a, b, c, d, e, f⟩
   ·have ej := e hst j hj hjm
    rw [ej] at h0
    rw [p5 ej] at ht
    exact absurd ht (old j hj h0)
   ·by_cases ej : j = j0
    ·rw [ej]; exact c
    ·have ej := f j hj ej
     rw [ej] at h0
     rw [p5 ej] at ht
     exact absurd ht (old j hj h0)
  ·rw [hev m hm hmn]
   rcases new j hj h0 with e | e
   ·rw [e] at h0
    rw [p5 e] at ht
    exact h.lead m (by omega) hm hst j hj hjm h0 ht
   ·rw [e] at ht; omega
theorem K3 (N : Nat) (ns : List Nd) (slots : LL) (W : IL) : Inv N ns slots W N (ix N, ix N) := by
 have e : ∀ j, j < N → cC (ix N) j = -1 := fun j hj => by
  unfold cC ix
  rw [List.getD_eq_getElem?_getD, List.getElem?_replicate, if_pos hj]; rfl
 exact ⟨by simp [ix], by simp [ix], fun j hj => .inl (e j hj), fun m hm => .inl (e m hm), fun m h1 h2 => by omega⟩
theorem KB (h : cG N gate ns) (hw : Nj ns N W) : SK N ns W where
 up := fun j hj h0 => by
  have hx := n6 h hj
  have hlt := hw.lt j hj h0
  have := hx.ex (cC W j).toNat (by omega)
  unfold p4
  rw [← Int.toNat_of_nonneg h0, bj _ _ _ (show (cC W j).toNat < _ by omega)]
  unfold iY at this
  split at this <;> omega
 lp := fun j hj h5 => by
  have hx := n6 h hj
  unfold iz at h5
  have hlen : 0 < (fo ns j).2.2.2.2.1.length := by rw [hx.Gy, h5]; decide
  have := hx.ex 0 hlen
  rw [show (0 : Int) = ((0 : Nat) : Int) from rfl, bj _ _ _ hlen]
  unfold iY at this
  rwa [if_pos ⟨h5, rfl⟩] at this
end
theorem TG (k : Int) : yH (k, ()) = some (decide (1 ≤ k) && decide (k ≤ 6), ()) := by
 show OO 0 k = _
 unfold OO; simp only [aa, E8]; split <;> (try simp_all) <;> omega
section
variable {N gate : Nat} {ns : List Nd} {ds : List Dv} {od : IL} {slots bins : LL} {n0 : Int}
def tR (ns : List Nd) (slots : LL) (k : Nat) : List (Bool × Unit) := (List.range k).map fun n => (wC ns slots n, ())
theorem Y0 (h : cG N gate ns) (hd : DevG ns ds) (hp : tB ns n0 N slots bins) : Pl ((ns, ds, ()), (slots, bins, ()), ()) = some (tR ns slots N, ()) := by
 have hl := h.len
 have ll := h.kU
 show LG 100000 (ns, ds, ()) (slots, bins, ()) = _
 unfold LG
 simp only [aa]
 rw [SW h hd, Option.bind_some]
 simp only
 rw [if_neg (by simp), TO h hd, Option.bind_some]
 unfold E9
 simp only [aa]
 rw [if_neg (by simp), TK h hp, Option.bind_some]
 unfold Fa
 simp only [aa]
 rw [if_neg (by simp), hl]
 refine ak (F := sh Fb) (fun k : Nat => ((N : Int), (k : Int), (slots, bins, ()), (ns, ds, eU (jS ns N N []), ()), tR ns slots k, ())) N 100000 (by omega) (fun rc k hk => ?_) (fun rc => ?_)
 ·unfold sh
  simp only
  have hlen : (tR ns slots k).length = k := by simp [tR]
  have es : tR ns slots k ++ [(wC ns slots k, ())] = tR ns slots (k + 1) := by unfold tR; rw [List.range_succ, List.map_append]; rfl
  rw [if_pos (by simpa using hk), Xn (uU h hp) hk, Option.bind_some]
  simp only
  rw [if_pos (di (by simp [hlen]; omega)), if_pos (di (by simp [hlen]; omega)), cT hk, es]
 ·unfold sh
  simp only
  rw [if_neg (by simp)]
  rfl
end
theorem Ib (ns : List Nd) (slots : LL) (k : Nat) : (tR ns slots k).length = k := by simp [tR]
theorem QG (ns : List Nd) (slots : LL) {k n : Nat} (h : n < k) : ((tR ns slots k).getD n (false, ())).1 = wC ns slots n := by
 unfold tR
 rw [List.getD_eq_getElem?_getD, List.getElem?_map, List.getElem?_range h]; rfl
theorem PX (n lo hi : Int) : BD (n, lo, hi, ()) = some (decide (lo ≤ n) && decide (n ≤ hi), ()) := by
 show O9 0 n lo hi = _
 unfold O9; simp only [aa, F2]; split <;> (try simp_all) <;> omega
theorem Zv (c : Int) : JW (c, ()) = some (decide (65 ≤ c) && decide (c ≤ 90), ()) := by
 show Pd 0 c = _
 unfold Pd; simp only [aa, Ga]; split <;> (try simp_all) <;> omega
theorem Zk (i : Nat) (hi : i ≤ 20) : Hy ([UInt8.ofNat (65 + i)], ()) = some (true, ()) := by
 have hc : (UInt8.ofNat (65 + i)).toNat = 65 + i := by rw [UInt8.toNat_ofNat']; omega
 have hs : EZ [UInt8.ofNat (65 + i)] 0 = ((65 + i : Nat) : Int) := by show (((UInt8.ofNat (65 + i)).toNat : Nat) : Int) = _; rw [hc]
 have Re : JW (((65 + i : Nat) : Int), ()) = some (true, ()) := by
  rw [Zv, decide_eq_true (by omega), decide_eq_true (by omega)]; rfl
 show Mr 100000 [UInt8.ofNat (65 + i)] = _
 unfold Mr
 simp only [aa]
 rw [if_neg (by simp), if_neg (by simp), if_pos (by simp [bt]), hs, Re, Option.bind_some]
 simp only [FU, aa]
 rw [if_neg (by simp), show (100000 : Nat) = 99998 + 1 + 1 from rfl, gm]
 simp only [yl, aa]
 rw [if_pos (by simp), if_pos (by simp [bt]), hs, Re, Option.bind_some]
 simp only
 rw [if_neg (by simp)]
 simp only [FV]
 rw [if_neg (by decide), gm]
 simp only [yl]
 rw [if_neg (by rw [ch (by decide) (by decide)]; simp)]
 rfl
theorem Zl (k : Int) : MX (k, ()) = some ((fm k : Int), ()) := by
 show O8 0 k = _
 unfold O8 fm
 simp only [aa, FW, FX]
 by_cases h4 : k = 4
 ·subst h4; rfl
 by_cases h5 : k = 5
 ·subst h5; rfl
 by_cases h6 : k = 6
 ·subst h6; rfl
 by_cases h8 : k = 8
 ·subst h8; rfl
 by_cases h9 : k = 9
 ·subst h9; rfl
 rw [if_neg (by simpa using h4), if_neg (by simpa using h5), show (k == 6) = false by simpa using h6, if_neg (by decide), if_neg (by simpa using h8), show (k == 9) = false by simpa using h9, if_neg (by decide), if_neg (show ¬ (k = 8 ∨ k = 9) by omega), if_neg (show ¬ (k = 4 ∨ k = 5 ∨ k = 6) by omega)]
 rfl
section
variable {N gate : Nat} {ns : List Nd} {ds : List Dv}
theorem Zm (h : cG N gate ns) {i : Nat} (hi : i < N) : Pw ((ns, ds, ()), (i : Int), ()) = some (0, ()) := by
 have hl := h.len
 have hil : i < ns.length := by omega
 have hn := h.node i hil
 have ll := h.kU
 generalize hx : ns[i] = x at hn
 have hlat : bg ([], 0, 0, 0, [], ()) ns (i : Int) = x := by rw [oR h hi, hx]
 have k1 := hn.oQ
 have k9 := hn.Es
 have hz : x.2.2.2.1 = 0 ∨ x.2.2.2.1 = 1 := by rw [hn.jY]; unfold cK; split <;> simp
 have hct : x.2.2.2.2.1.length ≤ 2 := by rw [hn.Gy]; unfold fm; split; exact Nat.zero_le _; split <;> decide
 show Mt 100000 (ns, ds, ()) (i : Int) = _
 unfold Mt
 simp only
 rw [if_pos (ae hil), hlat, hn.name, Zk i (by omega), Option.bind_some]
 simp only [aa]
 rw [if_neg (by decide), PX, Option.bind_some, decide_eq_true k1, decide_eq_true k9]
 simp only
 rw [if_neg (by decide), TG, Option.bind_some]
 have k5 : tf (x, ()) = some (0, ()) := by
  unfold tf
  simp only [aa]
  by_cases h2 : x.2.2.2.2.1.length = 2
  ·have h1l : 1 < x.2.2.2.2.1.length := by omega
   have hne := (List.pairwise_iff_getElem.1 hn.nd) 0 1 (by omega) h1l (by decide)
   have l0 := bj (0, ()) x.2.2.2.2.1 0 (by omega)
   have l1 := bj (0, ()) x.2.2.2.2.1 1 h1l
   rw [show ((0 : Nat) : Int) = 0 from rfl] at l0
   rw [show ((1 : Nat) : Int) = 1 from rfl] at l1
   rw [if_pos (by simp [h2]), if_pos (Iz (by omega)), if_pos (by have := ae h1l; exact this), l0, l1]
   unfold FY
   simp only
   rw [if_neg]
   simp only [beq_iff_eq]
   exact fun e => hne (Prod.ext e rfl)
  ·rw [if_neg (by simp only [beq_iff_eq]; omega)]
   rfl
 have k4 : yo 100000 ((i : Int), false, (ns, ds, ()), x, ()) = some (0, ()) := by
  unfold yo
  simp only [aa]
  rw [if_neg (by simp)]
  refine ak (F := tg tf) (fun k : Nat => ((i : Int), (k : Int), (ns, ds, ()), x, ())) x.2.2.2.2.1.length 100000 (by omega) (fun rc k hk => ?_) (fun rc => ?_)
  ·have he := hn.ex k hk
   have own : ∀ b : Bool, b = (decide (x.2.1 = 5) && decide (k = 0)) → vk rc ((i : Int), (k : Int), b, (ns, ds, ()), x, ()) = rc ((i : Int), ((k + 1 : Nat) : Int), (ns, ds, ()), x, ()) := by
    intro b hb
    have fact : 0 ≤ (x.2.2.2.2.1[k]).1 ∧ (x.2.2.2.2.1[k]).1 < N ∧ ((x.2.2.2.2.1[k]).1 == (i : Int)) = b := by
     unfold iY at he
     by_cases hc : x.2.1 = 5 ∧ k = 0
     ·rw [if_pos hc] at he
      refine ⟨by omega, by omega, ?_⟩
      rw [hb, he, decide_eq_true hc.1, decide_eq_true hc.2]; simp
     ·rw [if_neg hc] at he
      refine ⟨by omega, he.2.1, ?_⟩
      have hb' : b = false := by rw [hb]; simp only [Bool.and_eq_false_iff, decide_eq_false_iff_not]; omega
      rw [hb']; simp; omega
    obtain ⟨f1, f2, f3⟩ := fact
    unfold vk
    simp only [aa]
    rw [if_pos (ae hk), bj _ _ _ hk, PX, Option.bind_some, ch (by omega) (by omega), decide_eq_true f1, decide_eq_true (by omega)]
    simp only
    rw [if_neg (by decide), if_pos (ae hk), f3]
    unfold AS
    simp only
    rw [if_neg (by simp), cT hk]
   unfold tg
   simp only [aa]
   rw [if_pos (by simpa using hk)]
   by_cases h5 : x.2.1 = 5
   ·rw [if_pos (by simpa using h5)]
    refine own _ ?_
    rw [decide_eq_true h5, Bool.true_and, Bool.eq_iff_iff]
    simp
   ·rw [if_neg (by simpa using h5)]
    refine own _ ?_
    rw [decide_eq_false h5]; rfl
  ·unfold tg
   simp only
   rw [if_neg (by simp)]; exact k5
 have k3 : ∀ lo hi : Int, lo ≤ x.2.2.1 → x.2.2.1 ≤ hi → yn 100000 ((i : Int), lo, hi, (ns, ds, ()), x, ()) = some (0, ()) := fun lo hi h1 h2 => by
  unfold yn
  simp only [aa]
  rw [PX, Option.bind_some, decide_eq_true h1, decide_eq_true h2]
  simp only
  rw [if_neg (by decide), PX, Option.bind_some]
  simp only
  rw [if_neg (by rcases hz with hz | hz <;> rw [hz] <;> decide), Zl, Option.bind_some]
  simp only
  rw [← hn.Gy, show ((x.2.2.2.2.1.length : Int) != (x.2.2.2.2.1.length : Int)) = false by simp]
  exact k4
 have k2 : ∀ lo hi : Int, (x.2.1 ≠ 5 → lo ≤ x.2.2.1) → x.2.2.1 ≤ hi → ym 100000 ((i : Int), lo, hi, (ns, ds, ()), x, ()) = some (0, ()) := fun lo hi h1 h2 => by
  unfold ym
  simp only [aa]
  by_cases h5 : x.2.1 = 5
  ·rw [if_pos (by simpa using h5)]; exact k3 2 hi (hn.K7 h5) h2
  ·rw [if_neg (by simpa using h5)]; exact k3 lo hi (h1 h5) h2
 by_cases h6 : x.2.1 ≤ 6
 ·have h7 := hn.IK h6
  rw [decide_eq_true h6]
  simp only
  rw [decide_eq_true k1, if_pos (by decide)]
  exact k2 1 8 (fun _ => h7.1) (by omega)
 ·have h7 := hn.K8 (by omega)
  rw [decide_eq_false h6]
  simp only
  rw [if_neg (by simp)]
  exact k2 0 0 (fun _ => by omega) (by omega)
theorem Zn (h : cG N gate ns) : ∃ t : Int, Px ((ns, ds, ()), ()) = some (t, ()) ∧ t ≤ 80 := by
 have hl := h.len
 have ll := h.kU
 show ∃ t : Int, Mu 100000 (ns, ds, ()) = some (t, ()) ∧ _
 unfold Mu
 simp only [aa]
 refine ck (F := th FZ) (fun k z => ∃ t : Int, z = (t, (k : Int), (ns, ds, ()), ()) ∧ 0 ≤ t ∧ t ≤ 4 * k) (fun o => ∃ t : Int, o = some (t, ()) ∧ t ≤ 80) ns.length 100000 (by omega) ⟨0, rfl, by omega, by omega⟩ (fun rc k z hk hz => ?_) (fun rc z hz => ?_)
 ·obtain ⟨t, rfl, t1, t2⟩ := hz
  have := rT h ns[k] (List.getElem_mem hk)
  unfold th
  simp only
  rw [if_pos (by simpa using hk), if_pos (ae hk), bj _ _ _ hk, cT hk, ch (by omega) (by omega)]
  exact ⟨_, rfl, t + ns[k].2.2.1, rfl, by omega, by omega⟩
 ·obtain ⟨t, rfl, t1, t2⟩ := hz
  unfold th
  simp only
  rw [if_neg (by simp)]
  exact ⟨t, rfl, by omega⟩
theorem Zc (h : cG N gate ns) {i : Nat} (hi : i < N) : MO ((ns, ds, ()), [UInt8.ofNat (65 + i)], ()) = some ((i : Int), ()) := by
 have hl := h.len
 have ll := h.kU
 show Mf 100000 (ns, ds, ()) [UInt8.ofNat (65 + i)] = _
 unfold Mf
 simp only [aa]
 refine ak (F := sK Fy) (fun k : Nat => ([UInt8.ofNat (65 + i)], (k : Int), (ns, ds, ()), ())) i 100000 (by omega) (fun rc k hk => ?_) (fun rc => ?_)
 ·have hk' : k < ns.length := by omega
  unfold sK
  simp only
  rw [if_pos (by simpa using hk'), if_pos (ae hk'), bj _ _ _ hk', (h.node k hk').name, if_neg (fun e => by have := zJ (by omega) (by omega) e; omega), cT hk']
 ·have hi' : i < ns.length := by omega
  unfold sK
  simp only
  rw [if_pos (by simpa using hi'), if_pos (ae hi'), bj _ _ _ hi', (h.node i hi').name, if_pos (by simp)]
theorem Zo (h : cG N gate ns) : Py ((ns, ds, ()), ()) = some (true, ()) := by
 have hl := h.len
 have ll := h.kU
 show Mv 100000 (ns, ds, ()) = _
 unfold Mv
 simp only [aa]
 refine ak (F := ti 100000 F0) (fun k : Nat => ((k : Int), (ns, ds, ()), ())) ns.length 100000 (by omega) (fun rc i hi => ?_) (fun rc => ?_)
 ·have hn := h.node i hi
  have hex := xk h hi
  have hz := hn.jY
  generalize hx : ns[i] = x at hn hex hz
  have hct : x.2.2.2.2.1.length ≤ 2 := by rw [hn.Gy]; unfold fm; split; exact Nat.zero_le _; split <;> decide
  have k7 : pT 100000 (jH rc) ((i : Int), false, (ns, ds, ()), x, ()) = rc (((i + 1 : Nat) : Int), (ns, ds, ()), ()) := by
   unfold pT
   simp only
   rw [if_neg (by simp)]
   refine ak (F := tm (jH rc)) (fun k : Nat => ((i : Int), (k : Int), (ns, ds, ()), x, ())) x.2.2.2.2.1.length 100000 (by omega) (fun rc2 k hk => ?_) (fun rc2 => ?_)
   ·obtain ⟨e, he, e1, e2, e3⟩ := hex k hk
    have k9 : ∀ want : Int, want = (if x.2.1 = 6 ∧ k = 1 then 1 else x.2.2.2.1) → yr rc2 ((i : Int), (k : Int), want, (ns, ds, ()), x, ns[e], ()) = rc2 ((i : Int), ((k + 1 : Nat) : Int), (ns, ds, ()), x, ()) := fun want hw => by
     unfold yr
     simp only [aa]
     rw [if_neg (by simpa using e2), e3, ← hw]
     unfold AU
     simp only
     rw [if_neg (by simp), cT hk]
    unfold tm
    simp only [aa]
    rw [if_pos (by simpa using hk), if_pos (ae hk), bj _ _ _ hk, e1, if_pos (ae he), bj _ _ _ he]
    unfold AW
    simp only
    by_cases h6 : x.2.1 = 6
    ·rw [if_pos (by simpa using h6)]
     by_cases hk1 : k = 1
     ·subst hk1
      rw [if_pos (by simp)]
      exact k9 1 (by rw [if_pos ⟨h6, rfl⟩])
     ·rw [if_neg (by simp; omega)]
      exact k9 _ (by rw [if_neg (fun e => hk1 e.2)])
    ·rw [if_neg (by simpa using h6), if_neg (by decide)]
     exact k9 _ (by rw [if_neg (fun e => h6 e.1)])
   ·unfold tm
    simp only
    rw [if_neg (by simp)]
    unfold jH
    simp only
    rw [cT hi]
  have k6 : ∀ a b : Bool, (a = true → x.2.1 = 1 ∨ x.2.1 = 3 ∨ x.2.1 = 6) → (b = true → x.2.1 = 7 ∨ x.2.1 = 8) → yq 100000 (jH rc) ((i : Int), a, b, (ns, ds, ()), x, ()) = rc (((i + 1 : Nat) : Int), (ns, ds, ()), ()) := fun a b ha hb => by
   have hb' : b = true → x.2.2.2.1 = 1 := fun e => hz.trans (hn.W5 (hb e))
   have second : (if b = true then pT 100000 (jH rc) ((i : Int), x.2.2.2.1 != 1, (ns, ds, ()), x, ()) else pT 100000 (jH rc) ((i : Int), false, (ns, ds, ()), x, ())) = rc (((i + 1 : Nat) : Int), (ns, ds, ()), ()) := by
    cases b with
    | true => rw [if_pos rfl, hb' rfl]; exact k7
    | false => rw [if_neg (by simp)]; exact k7
   unfold yq
   simp only [aa]
   cases a with
   | true =>
    have := hz.trans (hn.W4 (ha rfl))
    rw [if_pos rfl, if_neg (by simp [this])]
    exact second
   | false =>
    rw [if_neg (by simp)]
    exact second
  have k5 : ∀ a : Bool, (a = true → x.2.1 = 1 ∨ x.2.1 = 3 ∨ x.2.1 = 6) → yp 100000 (jH rc) ((i : Int), a, (ns, ds, ()), x, ()) = rc (((i + 1 : Nat) : Int), (ns, ds, ()), ()) := fun a ha => by
   unfold yp
   simp only [aa]
   by_cases h7 : x.2.1 = 7
   ·rw [if_pos (by simpa using h7)]; exact k6 a _ ha fun _ => .inl h7
   ·rw [if_neg (by simpa using h7)]; exact k6 a _ ha fun h => .inr (by simpa using h)
  unfold ti
  simp only [aa]
  rw [if_pos (by simpa using hi), if_pos (ae hi), bj _ _ _ hi, hx]
  by_cases h1 : x.2.1 = 1
  ·rw [if_pos (by simpa using h1)]; exact k5 _ fun _ => .inl h1
  ·rw [if_neg (by simpa using h1)]
   by_cases h3 : x.2.1 = 3
   ·rw [if_pos (by simpa using h3)]; exact k5 _ fun _ => .inr (.inl h3)
   ·rw [if_neg (by simpa using h3)]; exact k5 _ fun h => .inr (.inr (by simpa using h))
 ·unfold ti
  simp only
  rw [if_neg (by simp)]
  rfl
end
section
variable {N gate : Nat} {ns : List Nd} {ds : List Dv}
theorem Zp (h : cG N gate ns) {k : Nat} (hk : k < N) (i : Int) : Pz ((ns, ds, ()), (k : Int), i, ()) = some (decide ((k : Int) ≠ i) && (rR ns k).any (fun y => y.1 == i), ()) := by
 have hkl : k < ns.length := by rw [h.len]; exact hk
 show Pa 0 (ns, ds, ()) (k : Int) i = _
 unfold Pa
 simp only [aa, F3]
 by_cases e : (k : Int) = i
 ·rw [if_neg (by simpa using e), decide_eq_false (by simpa using e)]; rfl
 ·have := mV h k
  rw [if_pos (by simpa using e), decide_eq_true e, if_pos (ae hkl), bj _ _ _ hkl, ← lf h hkl, QF _ _ (by omega), Option.bind_some, Bool.true_and]
theorem Iw (r : Nat) (k : Nat) : ((eU (List.range r)).any fun y => y.1 == (k : Int)) = decide (k < r) := by
 rw [Bool.eq_iff_iff]
 simp only [eU, List.any_map, List.any_eq_true, List.mem_range, Function.comp, beq_iff_eq, decide_eq_true_eq]
 exact ⟨fun ⟨j, h1, h2⟩ => by omega, fun h => ⟨k, h, rfl⟩⟩
theorem lr (r : Nat) : (eU (List.range r)).length = r := by simp [eU]
theorem II (h : cG N gate ns) {k i : Nat} (hk : k < N) (hl : (decide ((k : Int) ≠ (i : Int)) && (rR ns k).any (fun y => y.1 == (i : Int))) = true) : k < i := by
 simp only [Bool.and_eq_true, decide_eq_true_eq, List.any_eq_true, beq_iff_eq] at hl
 obtain ⟨h1, y, hy, h2⟩ := hl
 have hkl : k < ns.length := by rw [h.len]; exact hk
 rw [lf h hkl] at hy
 obtain ⟨q, hq, rfl⟩ := List.getElem_of_mem hy
 have := (h.node k hkl).ex q hq
 unfold iY at this
 split at this <;> omega
theorem SX (h : cG N gate ns) : MQ ((ns, ds, ()), ()) = some (eU (List.range N), ()) := by
 have hl := h.len
 have ll := h.kU
 have hgN := h.gN
 show Mk 100000 (ns, ds, ()) = _
 unfold Mk
 simp only [aa]
 refine ak (F := sS 100000 FC) (fun r : Nat => ((ns, ds, ()), eU (List.range r), ())) N 100000 (by omega) (fun rc r hr => ?_) (fun rc => ?_)
 ·unfold sS
  simp only [aa]
  rw [lr, if_pos (by simpa [hl] using hr), ch (by omega) (by omega)]
  have k3 : pJ rc ((r : Int), (ns, ds, ()), eU (List.range r), ()) = rc ((ns, ds, ()), eU (List.range (r + 1)), ()) := by
   unfold pJ
   simp only
   rw [if_neg (by simp), if_pos (di (by simp [lr]; omega)), if_pos (di (by simp [lr]; omega))]
   rw [show eU (List.range r) ++ [((r : Int), ())] = eU (List.range (r + 1)) by rw [List.range_succ]; simp [eU]]
  rw [← k3]
  refine ck (F := sT 100000 (pJ rc)) (fun j z => ∃ nx : Int, z = (nx, (N : Int) - 1 - (j : Int), (ns, ds, ()), eU (List.range r), ()) ∧ (N - j ≤ r → nx = r)) (fun o => o = pJ rc ((r : Int), (ns, ds, ()), eU (List.range r), ())) N 100000 (by omega) ⟨-1, by simp [hl], fun hh => by omega⟩ (fun rc2 j z hj hz => ?_) (fun rc2 z hz => ?_)
  ·obtain ⟨nx, rfl, hnx⟩ := hz
   obtain ⟨i, hi, ei⟩ : ∃ i : Nat, i < N ∧ (N : Int) - 1 - (j : Int) = i := ⟨N - 1 - j, by omega, by omega⟩
   have hji : N - j = i + 1 := by omega
   unfold sT
   simp only [aa]
   rw [ei, if_pos (by simp), QF _ _ (by rw [lr]; omega), Option.bind_some, Iw]
   simp only
   have fin : ∀ b : Bool, (i = r → b = true) → (i < r → b = false) → ∃ z', sQ (sP rc2) (nx, (i : Int), b, (ns, ds, ()), eU (List.range r), ()) = rc2 z' ∧ ∃ nx : Int, z' = (nx, (N : Int) - 1 - ((j + 1 : Nat) : Int), (ns, ds, ()), eU (List.range r), ()) ∧ (N - (j + 1) ≤ r → nx = r) := fun b hb1 hb2 => by
    have ew : IntKind.i64.wrap ((i : Int) - 1) = (N : Int) - 1 - ((j + 1 : Nat) : Int) := by rw [ch (by omega) (by omega)]; omega
    unfold sQ sP
    simp only
    rw [ew]
    cases b with
    | true =>
     rw [if_pos rfl]
     refine ⟨_, rfl, (i : Int), rfl, fun hh => ?_⟩
     have : ¬ i < r := fun e => by cases hb2 e
     omega
    | false =>
     rw [if_neg (by simp)]
     refine ⟨_, rfl, nx, rfl, fun hh => hnx ?_⟩
     have : i ≠ r := fun e => by cases hb1 e
     omega
   refine ck (F := pK (sQ (sP rc2))) (fun k z => ∃ b : Bool, z = (nx, (i : Int), b, (k : Int), (ns, ds, ()), eU (List.range r), ()) ∧ (i = r → b = true) ∧ (i < r → b = false))
    (fun o => ∃ z', o = rc2 z' ∧ ∃ nx : Int, z' = (nx, (N : Int) - 1 - ((j + 1 : Nat) : Int), (ns, ds, ()), eU (List.range r), ()) ∧ (N - (j + 1) ≤ r → nx = r)) N 100000 (by omega) ⟨_, rfl, fun e => by simp [e], fun e => by simp [e]⟩ (fun rc3 k z hk hz => ?_) (fun rc3 z hz => ?_)
   ·obtain ⟨b, rfl, hb1, hb2⟩ := hz
    have hle := II (i := i) h hk
    unfold pK
    simp only [aa]
    rw [hl, if_pos (by simpa using hk), Zp h hk, Option.bind_some]
    simp only
    generalize (decide ((k : Int) ≠ (i : Int)) && (rR ns k).any (fun y => y.1 == (i : Int))) = L at hle
    have nxt : ∀ b' : Bool, (i = r → b' = true) → (i < r → b' = false) → ∃ z', pI rc3 (nx, (i : Int), b', (k : Int), (ns, ds, ()), eU (List.range r), ()) = rc3 z' ∧ ∃ b : Bool, z' = (nx, (i : Int), b, ((k + 1 : Nat) : Int), (ns, ds, ()), eU (List.range r), ()) ∧ (i = r → b = true) ∧ (i < r → b = false) := fun b' h1 h2 => by
     unfold pI
     simp only
     rw [cT hk]
     exact ⟨_, rfl, b', rfl, h1, h2⟩
    have k14 : ∀ c : Bool, (c = true → r ≤ k ∧ k < i) → ∃ z', vg (pI rc3) (nx, (i : Int), b, (k : Int), c, (ns, ds, ()), eU (List.range r), ()) = rc3 z' ∧ ∃ b : Bool, z' = (nx, (i : Int), b, ((k + 1 : Nat) : Int), (ns, ds, ()), eU (List.range r), ()) ∧ (i = r → b = true) ∧ (i < r → b = false) := fun c hc => by
     unfold vg
     simp only
     cases c with
     | true =>
      have := hc rfl
      rw [if_pos rfl]
      exact nxt false (fun e => by omega) (fun _ => rfl)
     | false => rw [if_neg (by simp)]; exact nxt b hb1 hb2
    cases L with
    | true =>
     rw [if_pos rfl, QF _ _ (by rw [lr]; omega), Option.bind_some, Iw]
     simp only
     refine k14 _ fun e => ⟨?_, hle rfl⟩
     simpa using e
    | false => rw [if_neg (by simp)]; exact k14 _ fun e => by cases e
   ·obtain ⟨b, rfl, hb1, hb2⟩ := hz
    unfold pK
    simp only
    rw [hl, if_neg (by simp)]
    exact fin b hb1 hb2
  ·obtain ⟨nx, rfl, hnx⟩ := hz
   unfold sT
   simp only
   rw [if_neg (by simp only [decide_eq_true_eq]; omega), hnx (by omega)]
 ·unfold sS
  simp only
  rw [lr, if_neg (by simp [hl])]
  rfl
theorem Zd (h : cG N gate ns) (hd : DevG ns ds) : MP ((ns, ds, ()), ()) = some (0, ()) := by
 have hl := h.len
 have ll := h.kU
 have hdl := hd.len
 have hg := h.gN
 show Mg 100000 (ns, ds, ()) = _
 unfold Mg
 simp only [aa]
 rw [if_neg (by simp only [decide_eq_true_eq]; omega), decide_eq_false (by omega)]
 unfold Fz
 simp only [aa]
 rw [if_neg (by decide)]
 have k6 : ∀ en : Nat, 1 ≤ en → sM 100000 ((en : Int), (ns, ds, ()), ()) = some (0, ()) := fun en he => by
  unfold sM
  simp only [aa]
  refine ak (F := sN 100000 yh) (fun k : Nat => ((en : Int), (k : Int), (ns, ds, ()), ())) ds.length 100000 (by omega) (fun rc k hk => ?_) (fun rc => ?_)
  ·unfold sN
   simp only [aa]
   rw [if_pos (by simpa using hk)]
   refine ak (F := pE (ve rc)) (fun j : Nat => ((en : Int), (k : Int), (j : Int), (ns, ds, ()), ())) k 100000 (by omega) (fun rc2 j hj => ?_) (fun rc2 => ?_)
   ·have hjd : j < ds.length := by omega
    have hne := (List.pairwise_iff_getElem.1 hd.nd) j k hjd hk hj
    unfold pE
    simp only
    rw [if_pos (by simpa using hj), if_pos (ae hk), if_pos (ae hjd), bj _ _ _ hk, bj _ _ _ hjd, if_neg (fun e => ?_), cT hj]
    simp only [Bool.and_eq_true, beq_iff_eq] at e
    exact hne ((Np _ _).2 ⟨e.1.symm, e.2.1.symm, e.2.2.1.symm⟩)
   ·unfold pE
    simp only
    rw [if_neg (by simp)]
    unfold ve
    simp only
    rw [cT hk]
  ·unfold sN
   simp only
   rw [if_neg (by simp)]
   unfold yh
   simp only
   rw [if_neg (by simp only [beq_iff_eq]; omega)]
 have k3 : ∀ en : Nat, 1 ≤ en → sL 100000 ((en : Int), (ns, ds, ()), ()) = some (0, ()) := fun en he => by
  unfold sL
  simp only [aa]
  rw [Zo h, Option.bind_some]
  simp only
  rw [if_neg (by decide), SX h, Option.bind_some]
  simp only
  rw [if_neg (by simp only [decide_eq_true_eq, lr]; omega)]
  refine ak (F := pF (sM 100000)) (fun k : Nat => ((en : Int), (k : Int), (ns, ds, ()), ())) ds.length 100000 (by omega) (fun rc k hk => ?_) (fun rc => ?_)
  ·obtain ⟨o1, o2, o3, o4, o5⟩ := hd.ok ds[k] (List.getElem_mem hk)
   have k15 : vf rc ((en : Int), (k : Int), false, (ns, ds, ()), ds[k], ()) = rc ((en : Int), ((k + 1 : Nat) : Int), (ns, ds, ()), ()) := by
    have hlen : (bg ([], 0, 0, 0, [], ()) ns ds[k].2.1).2.2.1 ≤ 4 := by
     rw [← Int.toNat_of_nonneg o2, bj _ _ _ (show (ds[k].2.1).toNat < ns.length by omega)]
     exact (rT h _ (List.getElem_mem _)).2
    unfold vf
    simp only [aa]
    rw [if_neg (by decide), PX, Option.bind_some, ch (by omega) (by omega), decide_eq_true o2, decide_eq_true (by omega)]
    simp only
    rw [if_neg (by decide), if_pos (lu o2 o3), PX, Option.bind_some, ch (by omega) (by omega), decide_eq_true o4, decide_eq_true (by omega)]
    simp only
    unfold AP
    simp only
    rw [if_neg (by decide), cT hk]
   unfold pF
   simp only [aa]
   rw [if_pos (by simpa using hk), if_pos (ae hk), bj _ _ _ hk]
   rcases o1 with o1 | o1
   ·rw [if_neg (by simpa using o1)]; exact k15
   ·rw [if_pos (by rw [o1]; decide), show (ds[k].1 != 2) = false by rw [o1]; rfl]; exact k15
  ·unfold pF
   simp only
   rw [if_neg (by simp)]
   exact k6 en he
 refine ck (F := pH (yg 100000)) (fun k z => ∃ en : Nat, z = ((en : Int), (k : Int), (ns, ds, ()), ()) ∧ (0 < k → 1 ≤ en) ∧ en ≤ k) (fun o => o = some (0, ())) ns.length 100000 (by omega) ⟨0, rfl, fun e => by omega, Nat.le_refl _⟩ (fun rc k z hk hz => ?_) (fun rc z hz => ?_)
 ·obtain ⟨en, rfl, h1, h2⟩ := hz
  unfold pH
  simp only [aa]
  rw [if_pos (by simpa using hk), Zm h (by omega), Option.bind_some]
  simp only
  rw [if_neg (by decide), if_pos (ae hk), bj _ _ _ hk]
  unfold AQ
  simp only
  rw [cT hk]
  by_cases h1k : ns[k].2.1 = 1
  ·rw [if_pos (by simpa using h1k), ch (by omega) (by omega)]
   exact ⟨_, rfl, en + 1, rfl, fun _ => by omega, by omega⟩
  ·rw [if_neg (by simpa using h1k)]
   refine ⟨_, rfl, en, rfl, fun _ => h1 ?_, by omega⟩
   rcases Nat.eq_zero_or_pos k with e | e
   ·exact absurd ((h.node k hk).entry.2 e) h1k
   ·exact e
 ·obtain ⟨en, rfl, h1, h2⟩ := hz
  unfold pH
  simp only
  rw [if_neg (by simp)]
  obtain ⟨t, ht, t80⟩ := Zn (ds := ds) h
  unfold yg
  simp only [aa]
  rw [ht, Option.bind_some]
  simp only
  rw [if_neg (by simpa using t80)]
  refine ak (F := pG (sL 100000)) (fun k : Nat => ((en : Int), (k : Int), (ns, ds, ()), ())) ns.length 100000 (by omega) (fun rc k hk => ?_) (fun rc => ?_)
  ·unfold pG
   simp only
   rw [if_pos (by simpa using hk), if_pos (ae hk), bj _ _ _ hk, (h.node k hk).name, Zc h (by omega), Option.bind_some]
   simp only
   rw [if_neg (by simp), cT hk]
  ·unfold pG
   simp only
   rw [if_neg (by simp)]
   exact k3 en (h1 (by omega))
theorem Y8 (h : cG N gate ns) (hd : DevG ns ds) : Pr ((ns, ds, ()), ()) = some (eU (List.range N), ()) := by
 show OX 0 (ns, ds, ()) = _
 unfold OX
 rw [Zd h hd, Option.bind_some]
 simp only
 rw [if_neg (by decide), SX h, Option.bind_some]
end
theorem um {α σ R : Type} {F : (σ → Option R) → σ → Option R} {fin : Option R} (l : List α) (c : α → Int) (bad : Int → Option R) (st : Nat → σ) (n : Nat) (hn : l.length < n)
  (hs : ∀ rc k (hk : k < l.length), F rc (st k) = if c l[k] = 0 then rc (st (k + 1)) else bad (c l[k])) (he : ∀ rc, F rc (st l.length) = fin) :
  iter n F (st 0) = match l.find? (fun x => c x != 0) with | some x => bad (c x) | none => fin := by
 cases hf : l.find? (fun x => c x != 0) with
 | none =>
  rw [List.find?_eq_none] at hf
  refine ak st l.length n hn (fun rc k hk => ?_) he
  have := hf l[k] (List.getElem_mem hk)
  rw [hs rc k hk, if_pos (by simpa using this)]
 | some x =>
  obtain ⟨h1, l1, l2, rfl, h2⟩ := List.find?_eq_some_iff_append.1 hf
  have hl : l1.length < (l1 ++ x :: l2).length := by simp
  refine ak st l1.length n (by omega) (fun rc k hk => ?_) (fun rc => ?_)
  ·rw [hs rc k (by omega), List.getElem_append_left hk, if_pos (by have := h2 _ (List.getElem_mem hk); simpa using this)]
  ·rw [hs rc _ hl, List.getElem_append_right (Nat.le_refl _)]
   simp only [Nat.sub_self, List.getElem_cons_zero]
   rw [if_neg (by simpa using h1)]
def vI (x : Nd) (c : Int) : Bool := if x.2.1 = 7 then decide (0 ≤ c) && decide (c ≤ 40) else if 1 ≤ x.2.1 ∧ x.2.1 ≤ 6 then (if c = -1 then x.2.1 != 5 else decide (0 ≤ c) && decide (c < x.2.2.2.2.1.length)) else c == 0
theorem f42 (x : Nd) (c : Int) : ML (x, c, ()) = some (vI x c, ()) := by
 show O2 0 x c = _
 unfold O2 vI
 simp only [aa]
 rw [TP, Option.bind_some]
 simp only
 by_cases h7 : x.2.1 = 7
 ·rw [if_pos h7, if_neg (by rw [h7]; decide), if_pos (by simpa using h7)]
  by_cases h0 : 0 ≤ c
  ·rw [if_pos (decide_eq_true h0), decide_eq_true h0, Bool.true_and]; rfl
  ·rw [if_neg (by simpa using h0), decide_eq_false h0]; rfl
 ·rw [if_neg h7]
  by_cases h6 : 1 ≤ x.2.1 ∧ x.2.1 ≤ 6
  ·rw [if_pos (by simpa using h6), if_pos h6]
   by_cases hc : c = -1
   ·rw [if_pos hc, if_neg (by simp; omega), if_pos (by simpa using hc)]; rfl
   ·rw [if_neg hc]
    by_cases h0 : 0 ≤ c
    ·rw [if_pos (decide_eq_true h0), decide_eq_true h0, Bool.true_and]
     by_cases h1 : c < x.2.2.2.2.1.length
     ·rw [if_pos (decide_eq_true h1), decide_eq_true h1]; rfl
     ·rw [if_neg (by simpa using h1), if_neg (by simpa using hc), decide_eq_false h1]; rfl
    ·rw [if_neg (by simpa using h0), if_neg (by simpa using hc), decide_eq_false h0]; rfl
  ·rw [if_neg (by simpa using h6), if_neg (by simpa using h7), if_neg h6]
theorem f55 (x : Nd) (c : Int) : Pu (x, c, ()) = some (vI x c, ()) := by
 show O6 0 x c = _
 unfold O6 vI
 simp only [aa]
 by_cases h7 : x.2.1 = 7
 ·rw [if_pos h7, if_pos (by simpa using h7)]
  by_cases h0 : 0 ≤ c
  ·rw [if_pos (decide_eq_true h0), decide_eq_true h0, Bool.true_and]; rfl
  ·rw [if_neg (by simpa using h0), decide_eq_false h0]; rfl
 ·rw [if_neg h7, if_neg (by simpa using h7), TG, Option.bind_some]
  simp only
  by_cases h6 : 1 ≤ x.2.1 ∧ x.2.1 ≤ 6
  ·rw [if_neg (by simpa using h6), if_pos h6]
   by_cases hc : c = -1
   ·rw [if_pos hc, if_pos (by simpa using hc)]
   ·rw [if_neg hc, if_neg (by simpa using hc)]
    by_cases h0 : 0 ≤ c
    ·rw [if_pos (decide_eq_true h0), decide_eq_true h0, Bool.true_and]; rfl
    ·rw [if_neg (by simpa using h0), decide_eq_false h0]; rfl
  ·rw [if_pos (by simp only [Bool.not_eq_true', Bool.and_eq_false_iff, decide_eq_false_iff_not]; omega), if_neg h6]
def uK (ns : List Nd) (N : Nat) (c : IL) : Bool := (List.range N).all fun j => vI (fo ns j) (cC c j)
def xi (ns : List Nd) (f : Dv) : Int := if f.1 ≠ 1 ∧ f.1 ≠ 2 then 4 else if f.2.1 < 0 ∨ (ns.length : Int) ≤ f.2.1 ∨ f.2.2.1 < 0 ∨ (fo ns f.2.1.toNat).2.2.1 ≤ f.2.2.1 then 1 else 0
def wJ (f g : Dv) : Bool := f.2.1 == g.2.1 && f.2.2.1 == g.2.2.1
def G1 (fs : List Dv) (i : Nat) : Bool := (fs.take i).all fun g => !wJ (fs.getD i (0, 0, 0, ())) g
def zi (fs : List Dv) : Int := if ((List.range fs.length).all (G1 fs)) = true then 0 else 5
def GI (ns : List Nd) (fs : List Dv) : Int := match fs.find? (fun f => xi ns f != 0) with | some f => xi ns f | none => zi fs
def uO (ns : List Nd) (N : Nat) (c : IL) (fs : List Dv) : Int := if c.length = N then (if uK ns N c = true then (if 4 < fs.length then 2 else GI ns fs) else 1) else 1
section
variable {N : Nat} {ns : List Nd} {ds : List Dv} {od : IL}
theorem Ev {f : Int} (h : 0 ≤ f) : bg ([], 0, 0, 0, [], ()) ns f = fo ns f.toNat := by rw [← gC, Int.toNat_of_nonneg h]
theorem QD (fs : List Dv) (hf : fs.length ≤ 4) (L : nO) : su 100000 (fs, L, ()) = some (zi fs, L, ()) := by
 unfold su
 simp only [aa]
 have := gZ (F := sw 100000 Fl) (bad := some (5, L, ())) (fin := some (0, L, ())) (List.range fs.length) (G1 fs) (fun k : Nat => (fs, fs, (fs.length : Int), (k : Int), L, ())) 100000 (by rw [List.length_range]; omega) (fun rc k hk => ?_) (fun rc => ?_)
 ·refine Eq.trans this ?_
  unfold zi
  split <;> rfl
 ·rw [List.getElem_range]
  rw [List.length_range] at hk
  unfold sw
  simp only [aa]
  have hcut : ig fs 0 (k : Int) = fs.take k := by simp [ig]
  rw [if_pos (by simpa using hk), if_pos (ae hk), if_pos (show fa 0 (k : Int) fs.length = true from kA (a := 0) (Nat.zero_le _) (by omega)), nY fs k hk, hcut]
  have htl : (fs.take k).length = k := by rw [List.length_take]; omega
  have hg : fs.getD k (0, 0, 0, ()) = fs[k] := by rw [List.getD_eq_getElem?_getD, List.getElem?_eq_getElem hk]; rfl
  have h5 : ∀ (b : Bool), ng rc (fs, fs, (fs.length : Int), (k : Int), b, L, ()) = if b = true then some (5, L, ()) else rc (fs, fs, (fs.length : Int), ((k + 1 : Nat) : Int), L, ()) := fun b => by
   unfold ng
   simp only
   rw [cT hk]
  refine (gZ (F := sx (ng rc) (x7 (ng rc))) (bad := some (5, L, ())) (fin := rc (fs, fs, (fs.length : Int), ((k + 1 : Nat) : Int), L, ())) (fs.take k) (fun g => !wJ fs[k] g) (fun j : Nat => (fs, fs, (fs.length : Int), (k : Int), fs.take k, ((fs.take k).length : Int), (j : Int), L, fs[k], ())) 100000 (by omega) (fun rc2 j hj => ?_) (fun rc2 => ?_)).trans ?_
  ·unfold sx
   simp only [aa]
   rw [if_pos (by simpa using hj), if_pos (ae hj), nY _ j hj]
   have Rb : ∀ b : Bool, u9 (ng rc) rc2 (fs, fs, (fs.length : Int), (k : Int), fs.take k, (j : Int), ((fs.take k).length : Int), (j : Int), b, L, fs[k], ()) = if (!b) = true then rc2 (fs, fs, (fs.length : Int), (k : Int), fs.take k, ((fs.take k).length : Int), ((j + 1 : Nat) : Int), L, fs[k], ()) else some (5, L, ()) := fun b => by
    unfold u9
    simp only
    cases b with
    | true => rw [if_pos rfl, h5, decide_eq_true (by omega)]; rfl
    | false => rw [if_neg (by simp), cT (show j < 4 by omega)]; rfl
   unfold wJ
   by_cases e1 : fs[k].2.1 = ((fs.take k)[j]).2.1
   ·rw [if_pos (by simpa using e1), Rb, show (fs[k].2.1 == ((fs.take k)[j]).2.1) = true by simpa using e1, Bool.true_and]
   ·rw [if_neg (by simpa using e1), Rb, show (fs[k].2.1 == ((fs.take k)[j]).2.1) = false by simpa using e1, Bool.false_and]
  ·unfold sx
   simp only
   rw [if_neg (by simp)]
   unfold x7
   simp only
   rw [h5, if_neg (by simp)]
  ·unfold G1
   rw [hg]
 ·rw [List.length_range]
  unfold sw
  simp only
  rw [if_neg (by simp)]
  rfl
theorem QE (fs : List Dv) (hf : fs.length ≤ 4) : sA 100000 (fs, ()) = some (zi fs, ()) := by
 unfold sA
 simp only [aa]
 have := gZ (F := sB 100000 Fs) (bad := some (5, ())) (fin := some (0, ())) (List.range fs.length) (G1 fs) (fun k : Nat => (fs, (k : Int), ())) 100000 (by rw [List.length_range]; omega) (fun rc k hk => ?_) (fun rc => ?_)
 ·refine Eq.trans this ?_
  unfold zi
  split <;> rfl
 ·rw [List.getElem_range]
  rw [List.length_range] at hk
  unfold sB
  simp only [aa]
  rw [if_pos (by simpa using hk)]
  have htl : (fs.take k).length = k := by rw [List.length_take]; omega
  have hg : fs.getD k (0, 0, 0, ()) = fs[k] := by rw [List.getD_eq_getElem?_getD, List.getElem?_eq_getElem hk]; rfl
  refine (gZ (F := sC (x9 rc)) (bad := some (5, ())) (fin := rc (fs, ((k + 1 : Nat) : Int), ())) (fs.take k) (fun g => !wJ fs[k] g) (fun j : Nat => (fs, (k : Int), (j : Int), ())) 100000 (by omega) (fun rc2 j hj => ?_) (fun rc2 => ?_)).trans ?_
  ·have hjf : j < fs.length := by omega
   have hgt : (fs.take k)[j] = fs[j] := List.getElem_take
   unfold sC
   simp only [aa]
   rw [if_pos (by simp; omega), if_pos (ae hk), if_pos (ae hjf), nY _ k hk, nY _ j hjf, hgt]
   have h8 : ∀ b : Bool, ya rc2 (fs, (k : Int), (j : Int), b, ()) = if (!b) = true then rc2 (fs, (k : Int), ((j + 1 : Nat) : Int), ()) else some (5, ()) := fun b => by
    unfold ya
    simp only
    cases b with
    | true => rfl
    | false => rw [if_neg (by simp), cT (show j < 4 by omega)]; rfl
   unfold wJ
   by_cases e1 : fs[k].2.1 = fs[j].2.1
   ·rw [if_pos (by simpa using e1), h8, show (fs[k].2.1 == fs[j].2.1) = true by simpa using e1, Bool.true_and, if_pos (ae hk), if_pos (ae hjf)]
   ·rw [if_neg (by simpa using e1), h8, show (fs[k].2.1 == fs[j].2.1) = false by simpa using e1, Bool.false_and]
  ·unfold sC
   simp only
   rw [if_neg (by simp; omega)]
   unfold x9
   simp only
   rw [cT hk]
  ·unfold G1
   rw [hg]
 ·rw [List.length_range]
  unfold sB
  simp only
  rw [if_neg (by simp)]
  rfl
theorem QK (hl : ns.length ≤ 1000) (fs : List Dv) (hf : fs.length ≤ 1000) : pv 100000 (fs, (ns, ds, od, ()), ()) = some (if 4 < fs.length then 2 else GI ns fs, (ns, ds, od, ()), ()) := by
 unfold pv
 simp only [aa]
 by_cases h4 : 4 < fs.length
 ·rw [if_pos (decide_eq_true (by omega)), if_pos h4]
 rw [if_neg (by simp only [decide_eq_true_eq]; omega), if_neg h4]
 refine (um (F := pw (su 100000)) (fin := some (zi fs, (ns, ds, od, ()), ())) fs (xi ns) (fun e => some (e, (ns, ds, od, ()), ())) (fun k : Nat => (fs, fs, (fs.length : Int), (k : Int), (ns, ds, od, ()), ())) 100000 (by omega) (fun rc k hk => ?_) (fun rc => ?_)).trans ?_
 ·unfold pw
  simp only [aa]
  rw [if_pos (by simpa using hk), if_pos (ae hk), nY fs k hk]
  generalize fs[k] = f
  obtain ⟨a, b, w, ⟨⟩⟩ := f
  have k14 : ∀ q : Bool, vb rc (fs, fs, (fs.length : Int), (k : Int), q, (ns, ds, od, ()), (a, b, w, ()), ()) = if q = true then some (4, (ns, ds, od, ()), ()) else if b < 0 ∨ (ns.length : Int) ≤ b ∨ w < 0 ∨ (fo ns b.toNat).2.2.1 ≤ w then some (1, (ns, ds, od, ()), ()) else rc (fs, fs, (fs.length : Int), ((k + 1 : Nat) : Int), (ns, ds, od, ()), ()) := fun q => by
   unfold vb AM
   simp only [aa]
   rw [cT hk]
   cases q with
   | true => rfl
   | false =>
    rw [if_neg Bool.false_ne_true, if_neg Bool.false_ne_true]
    by_cases c1 : b < 0
    ·rw [if_pos (by simpa using c1), if_pos trivial, if_pos (.inl c1)]
    rw [if_neg (by simpa using c1)]
    by_cases c2 : (ns.length : Int) ≤ b
    ·rw [if_pos (by simpa using c2), if_pos trivial, if_pos (.inr (.inl c2))]
    rw [if_neg (by simpa using c2)]
    by_cases c3 : w < 0
    ·rw [if_pos (by simpa using c3), if_pos trivial, if_pos (.inr (.inr (.inl c3)))]
    rw [if_neg (by simpa using c3), if_pos (lu (by omega) (by omega)), Ev (by omega)]
    by_cases c4 : (fo ns b.toNat).2.2.1 ≤ w
    ·rw [decide_eq_true c4, if_pos rfl, if_pos (.inr (.inr (.inr c4)))]
    ·rw [decide_eq_false c4, if_neg (by simp), if_neg (by omega)]
  unfold xi
  simp only
  by_cases a1 : a = 1
  ·rw [if_neg (by simpa using a1), k14, if_neg (by simp), if_neg (show ¬ (a ≠ 1 ∧ a ≠ 2) by omega)]
   split <;> simp
  ·rw [if_pos (by simpa using a1), k14]
   by_cases a2 : a = 2
   ·rw [if_neg (by simpa using a2), if_neg (show ¬ (a ≠ 1 ∧ a ≠ 2) by omega)]
    split <;> simp
   ·rw [if_pos (by simpa using a2), if_pos (⟨a1, a2⟩ : a ≠ 1 ∧ a ≠ 2), if_neg (by decide)]
 ·unfold pw
  simp only
  rw [if_neg (by simp)]
  exact QD fs (by omega) _
 ·unfold GI
  cases fs.find? (fun f => xi ns f != 0) <;> rfl
theorem QL (hl : ns.length ≤ 1000) (fs : List Dv) (hf : fs.length ≤ 1000) : py 100000 (fs, (ns, ds, ()), ()) = some (if 4 < fs.length then 2 else GI ns fs, ()) := by
 unfold py
 simp only [aa]
 by_cases h4 : 4 < fs.length
 ·rw [if_pos (decide_eq_true (by omega)), if_pos h4]
 rw [if_neg (by simp only [decide_eq_true_eq]; omega), if_neg h4]
 refine (um (F := pA (sA 100000)) (fin := some (zi fs, ())) fs (xi ns) (fun e => some (e, ())) (fun k : Nat => (fs, (k : Int), (ns, ds, ()), ())) 100000 (by omega) (fun rc k hk => ?_) (fun rc => ?_)).trans ?_
 ·unfold pA
  simp only [aa]
  rw [if_pos (by simpa using hk), if_pos (ae hk), nY fs k hk]
  generalize fs[k] = f
  obtain ⟨a, b, w, ⟨⟩⟩ := f
  have k12 : ∀ q : Bool, vd rc (fs, (k : Int), q, (ns, ds, ()), (a, b, w, ()), ()) = if q = true then some (4, ()) else if b < 0 ∨ (ns.length : Int) ≤ b ∨ w < 0 ∨ (fo ns b.toNat).2.2.1 ≤ w then some (1, ()) else rc (fs, ((k + 1 : Nat) : Int), (ns, ds, ()), ()) := fun q => by
   unfold vd AN
   simp only [aa]
   rw [cT hk]
   cases q with
   | true => rfl
   | false =>
    rw [if_neg Bool.false_ne_true, if_neg Bool.false_ne_true]
    by_cases c1 : b < 0
    ·rw [if_pos (by simpa using c1), if_pos trivial, if_pos (.inl c1)]
    rw [if_neg (by simpa using c1)]
    by_cases c2 : (ns.length : Int) ≤ b
    ·rw [if_pos (by simpa using c2), if_pos trivial, if_pos (.inr (.inl c2))]
    rw [if_neg (by simpa using c2)]
    by_cases c3 : w < 0
    ·rw [if_pos (by simpa using c3), if_pos trivial, if_pos (.inr (.inr (.inl c3)))]
    rw [if_neg (by simpa using c3), if_pos (lu (by omega) (by omega)), Ev (by omega)]
    by_cases c4 : (fo ns b.toNat).2.2.1 ≤ w
    ·rw [decide_eq_true c4, if_pos rfl, if_pos (.inr (.inr (.inr c4)))]
    ·rw [decide_eq_false c4, if_neg (by simp), if_neg (by omega)]
  unfold xi
  simp only
  by_cases a1 : a = 1
  ·rw [if_neg (by simpa using a1), k12, if_neg (by simp), if_neg (show ¬ (a ≠ 1 ∧ a ≠ 2) by omega)]
   split <;> simp
  ·rw [if_pos (by simpa using a1), k12]
   by_cases a2 : a = 2
   ·rw [if_neg (by simpa using a2), if_neg (show ¬ (a ≠ 1 ∧ a ≠ 2) by omega)]
    split <;> simp
   ·rw [if_pos (by simpa using a2), if_pos (⟨a1, a2⟩ : a ≠ 1 ∧ a ≠ 2), if_neg (by decide)]
 ·unfold pA
  simp only
  rw [if_neg (by simp)]
  exact QE fs (by omega)
 ·unfold GI
  cases fs.find? (fun f => xi ns f != 0) <;> rfl
theorem TL (hl : ns.length = N) (hN : N ≤ 11) (c : IL) (fs : List Dv) (hf : fs.length ≤ 1000) : DS ((ns, ds, od, ()), c, fs, ()) = some (uO ns N c fs, (ns, ds, od, ()), ()) := by
 show LN 100000 (ns, ds, od, ()) c fs = _
 unfold LN uO
 simp only [aa]
 by_cases hc : c.length = N
 ·rw [if_neg (by simp [hl, hc]), if_pos hc]
  refine (gZ (F := px (pv 100000)) (bad := some (1, (ns, ds, od, ()), ())) (fin := pv 100000 (fs, (ns, ds, od, ()), ())) (List.range N) (fun j => vI (fo ns j) (cC c j)) (fun k : Nat => (fs, c, (c.length : Int), (k : Int), (ns, ds, od, ()), ())) 100000 (by rw [List.length_range]; omega) (fun rc k hk => ?_) (fun rc => ?_)).trans ?_
  ·rw [List.getElem_range]
   rw [List.length_range] at hk
   unfold px
   simp only
   rw [if_pos (by simp; omega), if_pos (ae (by omega)), if_pos (ae (by omega)), gC, mr, f42, Option.bind_some]
   simp only
   rw [cT hk]
   cases vI (fo ns k) (cC c k) <;> rfl
  ·rw [List.length_range]
   unfold px
   simp only
   rw [if_neg (by simp; omega)]
  ·unfold uK
   split
   ·exact QK (by omega) fs hf
   ·rfl
 ·rw [if_pos (by simp; omega), if_neg hc]
theorem Y7 (hl : ns.length = N) (hN : N ≤ 11) (c : IL) (fs : List Dv) (hf : fs.length ≤ 1000) : JS ((ns, ds, ()), c, fs, ()) = some (uO ns N c fs, ()) := by
 show LW 100000 (ns, ds, ()) c fs = _
 unfold LW uO
 simp only [aa]
 by_cases hc : c.length = N
 ·rw [if_neg (by simp [hl, hc]), if_pos hc]
  refine (gZ (F := pB (py 100000)) (bad := some (1, ())) (fin := py 100000 (fs, (ns, ds, ()), ())) (List.range N) (fun j => vI (fo ns j) (cC c j)) (fun k : Nat => (c, fs, (k : Int), (ns, ds, ()), ())) 100000 (by rw [List.length_range]; omega) (fun rc k hk => ?_) (fun rc => ?_)).trans ?_
  ·rw [List.getElem_range]
   rw [List.length_range] at hk
   unfold pB
   simp only
   rw [if_pos (by simp; omega), if_pos (ae (by omega)), if_pos (ae (by omega)), gC, mr, f55, Option.bind_some]
   simp only
   rw [cT hk]
   cases vI (fo ns k) (cC c k) <;> rfl
  ·rw [List.length_range]
   unfold pB
   simp only
   rw [if_neg (by simp; omega)]
  ·unfold uK
   split
   ·exact QL (by omega) fs hf
   ·rfl
 ·rw [if_pos (by simp; omega), if_neg hc]
theorem Jc {gate : Nat} (h : cG N gate ns) {c : IL} {fs : List Dv} (hp : uO ns N c fs = 0) : c.length = N ∧ fs.length ≤ 4 ∧ (∀ (j : Nat) (h1 : j < c.length) (h2 : j < ns.length), gU ns[j] (c[j]).1) ∧ D8 ns fs := by
 unfold uO at hp
 by_cases hc : c.length = N
 ·rw [if_pos hc] at hp
  by_cases ho : uK ns N c = true
  ·rw [if_pos ho] at hp
   by_cases h4 : 4 < fs.length
   ·rw [if_pos h4] at hp; omega
   rw [if_neg h4] at hp
   refine ⟨hc, by omega, fun j h1 h2 => ?_, ?_⟩
   ·have hb := List.all_eq_true.1 ho j (List.mem_range.2 (by omega))
    have k1 := (h.node j h2).oQ
    have e : fo ns j = ns[j] := by unfold fo; rw [List.getD_eq_getElem?_getD, List.getElem?_eq_getElem h2]; rfl
    have ew : cC c j = (c[j]).1 := by unfold cC; rw [List.getD_eq_getElem?_getD, List.getElem?_eq_getElem h1]; rfl
    rw [e, ew] at hb
    unfold vI at hb
    unfold gU
    by_cases h7 : ns[j].2.1 = 7
    ·rw [if_pos h7] at hb ⊢; simpa using hb
    ·rw [if_neg h7] at hb ⊢
     by_cases h8 : 8 ≤ ns[j].2.1
     ·rw [if_pos h8]; rw [if_neg (by omega)] at hb; simpa using hb
     ·rw [if_neg h8]; rw [if_pos (by omega)] at hb
      split at hb
      ·rename_i hm
       exact .inr ⟨hm, by simpa using hb⟩
      ·exact .inl (by simpa using hb)
   ·unfold GI at hp
    split at hp
    ·rename_i f hf
     have := List.find?_some hf
     simp [hp] at this
    ·rename_i hf
     rw [List.find?_eq_none] at hf
     unfold zi at hp
     split at hp
     ·rename_i hd
      refine ⟨fun f hm => ?_, fun i j hi hj hij hs => ?_⟩
      ·have := hf f hm
       simp only [bne_iff_ne, ne_eq, Decidable.not_not] at this
       unfold xi at this
       split at this
       ·omega
       ·split at this
        ·omega
        ·refine ⟨by omega, f.2.1.toNat, by omega, by omega, by omega, by omega⟩
      ·have := List.all_eq_true.1 hd j (List.mem_range.2 hj)
       unfold G1 at this
       have hit : i < (fs.take j).length := by rw [List.length_take]; omega
       have := List.all_eq_true.1 this ((fs.take j)[i]) (List.getElem_mem hit)
       rw [List.getElem_take, List.getD_eq_getElem?_getD, List.getElem?_eq_getElem hj] at this
       unfold wJ at this
       simp only [Option.getD_some, Bool.not_eq_true', Bool.and_eq_false_iff, beq_eq_false_iff_ne] at this
       rcases this with h | h
       ·exact h hs.1.symm
       ·exact h hs.2.symm
     ·omega
  ·rw [if_neg ho] at hp; omega
 ·rw [if_neg hc] at hp; omega
end
theorem Y4 (l : IL) (hl : l.length ≤ 90000) : Po (l, ()) = some ((gk l : Int), ()) := by
 show LV 100000 l = _
 unfold LV
 simp only [aa]
 have h := ak (F := sy Fm) (r := some ((gk l : Int), ())) (fun k : Nat => (l, ((gk (l.take k) : Nat) : Int), (k : Int), ())) l.length 100000 (by omega) (fun rc k hk => ?_) (fun rc => ?_)
 ·simpa [gk] using h
 ·have e : gk (l.take (k + 1)) = gk (l.take k) + if l[k].1 == 0 then 1 else 0 := by
   unfold gk
   rw [List.take_add_one, List.getElem?_eq_getElem hk, List.countP_append]
   simp [List.countP_cons]
  have hb : gk (l.take k) ≤ 90000 := by
   refine Nat.le_trans List.countP_le_length ?_
   rw [List.length_take]; omega
  unfold sy
  simp only [aa]
  rw [if_pos (by simpa using hk), if_pos (ae hk), bj _ _ _ hk]
  unfold Fo
  simp only
  rw [e, cT hk]
  by_cases hz : l[k].1 = 0
  ·rw [if_pos (by simpa using hz), hz, ch (by omega) (by omega)]; simp
  ·rw [if_neg (by simpa using hz)]; simp [hz]
 ·unfold sy
  simp only [aa]
  rw [if_neg (by simp), List.take_length]
  rfl
section
variable {N gate : Nat} {ns : List Nd} {ds : List Dv} {od : IL} {slots bins : LL} {n0 : Int}
theorem YE (ns : List Nd) (n : Nat) : yH ((fo ns n).2.1, ()) = some (nB ns n, ()) := TG _
theorem Xk (h : Kr N ns slots) : MJ ((ns, ds, ()), (slots, bins, ()), ()) = some (tR ns slots N, ()) := by
 have hl := h.len
 have hsl := h.ls
 have ll := h.kU
 show LH 100000 (ns, ds, ()) (slots, bins, ()) = _
 unfold LH
 simp only [aa]
 refine ak (F := si Fc) (fun k : Nat => ((k : Int), (ns, ds, ()), (slots, bins, ()), tR ns slots k, ())) N 100000 (by omega) (fun rc k hk => ?_) (fun rc => ?_)
 ·have hkl : k < ns.length := by omega
  have hks : k < slots.length := by omega
  have hlen : (tR ns slots k).length = k := by simp [tR]
  have k3 : xZ rc ((k : Int), wC ns slots k, (ns, ds, ()), (slots, bins, ()), tR ns slots k, ()) = rc (((k + 1 : Nat) : Int), (ns, ds, ()), (slots, bins, ()), tR ns slots (k + 1), ()) := by
   unfold xZ
   simp only
   have es : tR ns slots k ++ [(wC ns slots k, ())] = tR ns slots (k + 1) := by unfold tR; rw [List.range_succ, List.map_append]; rfl
   rw [if_pos (di (by simp [hlen]; omega)), if_pos (di (by simp [hlen]; omega)), cT hk, es]
  unfold si
  simp only [aa]
  rw [if_pos (by simpa using hkl), if_pos (ae hkl), gC, YE, Option.bind_some]
  simp only
  unfold wC at k3
  cases hst : nB ns k with
  | false =>
   rw [if_neg Bool.false_ne_true]
   rw [hst, if_neg Bool.false_ne_true] at k3
   exact k3
  | true =>
   have hp1 := h.pos k hk hst
   rw [hst, if_pos rfl] at k3
   rw [if_pos rfl, if_pos (ae hks), qw, if_pos (Iz hp1.1), Ex]
   by_cases h0 : HK slots k = 0
   ·rw [if_pos (by unfold HK at h0; simpa using h0), if_pos (ae hkl)]
    by_cases h5 : iz ns k = 5
    ·rw [if_neg (by unfold iz at h5; simp [h5]), if_pos (ae hks), IH, Y4 _ (by omega), Option.bind_some]
     simp only
     by_cases hf : gk (qd slots k) < 2
     ·rw [if_pos ⟨h5, hf⟩] at k3
      rw [decide_eq_false (by omega)]
      exact k3
     ·rw [if_neg (fun e => hf e.2), h0] at k3
      rw [decide_eq_true (by omega)]
      exact k3
    ·rw [if_pos (by unfold iz at h5; simpa using h5)]
     rw [if_neg (fun e => h5 e.1), h0] at k3
     exact k3
   ·rw [if_neg (by unfold HK at h0; simpa using h0)]
    rw [show (if iz ns k = 5 ∧ gk (qd slots k) < 2 then false else HK slots k == 0) = false by split; rfl; simpa using h0] at k3
    exact k3
 ·unfold si
  simp only
  rw [if_neg (by simp; omega)]
  rfl
theorem Y9 (hl : ns.length = N) {c : IL} (hc : c.length = N) {n : Nat} (hn : n < N) : JU ((ns, ds, ()), c, (n : Int), ()) = some (if iz ns n = 7 then 0 else cC c n, ()) := by
 show OY 0 (ns, ds, ()) c (n : Int) = _
 unfold OY
 simp only
 rw [if_pos (ae (by omega)), gC]
 by_cases h7 : iz ns n = 7
 ·rw [if_pos (by unfold iz at h7; simpa using h7), if_pos h7]
 ·rw [if_neg (by unfold iz at h7; simpa using h7), if_neg h7, if_pos (ae (by omega)), mr]
theorem TN (h : cG N gate ns) {fs : List Dv} (hf : fs.length ≤ 1000) (hm : D8 ns fs) {n : Nat} (hn : n < N) (h1 : 1 ≤ (fo ns n).2.2.1) :
  ∃ A, Hv ((ns, ds, ()), fs, (n : Int), ()) = some (A, ()) ∧ A.length = (fo ns n).2.2.1.toNat ∧ (cC A ((fo ns n).2.2.1.toNat - 1) = 1 ↔ fs.any (tT (1, (n : Int), (fo ns n).2.2.1 - 1, ())) = true) := by
 have hl := h.len
 have hx := oW (n6 h hn)
 have hnl : n < ns.length := by omega
 have hlim : (cj : Int) = 140737488355328 := rfl
 show ∃ A, LX 100000 (ns, ds, ()) fs (n : Int) = some (A, ()) ∧ _
 unfold LX
 simp only [aa]
 rw [if_pos (ae hnl), gC, if_pos (by simp; omega), if_pos (by simp), if_pos (by simp only [decide_eq_true_eq]; omega), if_pos (by simp only [decide_eq_true_eq]; omega)]
 generalize hlen : (fo ns n).2.2.1 = len at hx h1
 refine ck (F := sD yb) (fun j z => ∃ A : IL, z = (fs, (n : Int), (j : Int), A, ()) ∧ A.length = len.toNat ∧ (cC A (len.toNat - 1) = 1 ↔ (fs.take j).any (tT (1, (n : Int), len - 1, ())) = true))
  (fun o => ∃ A, o = some (A, ()) ∧ A.length = len.toNat ∧ (cC A (len.toNat - 1) = 1 ↔ fs.any (tT (1, (n : Int), len - 1, ())) = true)) fs.length 100000 (by omega) ⟨_, rfl, by simp, ?_⟩ (fun rc j z hj hz => ?_) (fun rc z hz => ?_)
 ·have : cC (List.replicate len.toNat (0, ())) (len.toNat - 1) = 0 := by
   unfold cC
   rw [List.getD_eq_getElem?_getD, List.getElem?_replicate]
   split <;> rfl
  simp only [this, List.take_zero, List.any_nil]
  simp
 ·obtain ⟨A, rfl, hA, hI⟩ := hz
  obtain ⟨hk, k, e1, hkN, w0, w1⟩ := hm.each _ (List.getElem_mem hj)
  have hd : ∀ i (hi : i < j), ¬ (fs[i].2.1 = fs[j].2.1 ∧ fs[i].2.2.1 = fs[j].2.2.1) := fun i hi => hm.diff i j (by omega) hj hi
  have et : (fs.take (j + 1)).any (tT (1, (n : Int), len - 1, ())) = ((fs.take j).any (tT (1, (n : Int), len - 1, ())) || tT (1, (n : Int), len - 1, ()) fs[j]) := by
   rw [List.take_add_one, List.getElem?_eq_getElem hj, List.any_append]; simp
  unfold sD
  simp only [aa]
  rw [if_pos (by simpa using hj), if_pos (ae hj), nY fs j hj]
  have hpast : (fs.take j).any (tT (1, (n : Int), len - 1, ())) = true → ¬ (fs[j].2.1 = n ∧ fs[j].2.2.1 = len - 1) := fun ha hc => by
   obtain ⟨g, hg, he⟩ := List.any_eq_true.1 ha
   obtain ⟨i, hi, rfl⟩ := List.getElem_of_mem hg
   rw [List.getElem_take] at he
   have hij : i < j := by rw [List.length_take] at hi; omega
   refine hd i hij ?_
   unfold tT at he
   simp only [Bool.and_eq_true, beq_iff_eq, and_true] at he
   exact ⟨he.2.1.symm.trans hc.1.symm, he.2.2.symm.trans hc.2.symm⟩
  generalize hfe : fs[j] = f at hk e1 w0 w1 et hpast ⊢
  obtain ⟨a, b, w, ⟨⟩⟩ := f
  simp only at hk e1 w0 w1 hpast ⊢
  have fin : ∀ A' : IL, A'.length = len.toNat → (cC A' (len.toNat - 1) = 1 ↔ (fs.take (j + 1)).any (tT (1, (n : Int), len - 1, ())) = true) → ∃ z', yc rc (fs, (n : Int), (j : Int), A', ()) = rc z' ∧ ∃ A : IL, z' = (fs, (n : Int), ((j + 1 : Nat) : Int), A, ()) ∧ A.length = len.toNat ∧ (cC A (len.toNat - 1) = 1 ↔ (fs.take (j + 1)).any (tT (1, (n : Int), len - 1, ())) = true) := fun A' a1 a2 => by
   unfold yc
   simp only
   rw [cT hj]
   exact ⟨_, rfl, A', rfl, a1, a2⟩
  have other : ¬ (b = n ∧ w = len - 1) → (fs.take (j + 1)).any (tT (1, (n : Int), len - 1, ())) = (fs.take j).any (tT (1, (n : Int), len - 1, ())) := fun hno => by
   rw [et]
   have : tT (1, (n : Int), len - 1, ()) (a, b, w, ()) = false := by
    rw [Bool.eq_false_iff]
    intro ha
    unfold tT at ha
    simp only [Bool.and_eq_true, beq_iff_eq, and_true] at ha
    exact hno ⟨ha.2.1.symm, ha.2.2.symm⟩
   rw [this, Bool.or_false]
  by_cases hb : b = n
  ·subst hb
   have ekn : k = n := by omega
   subst ekn
   rw [hlen] at w1
   rw [if_pos (by simp), if_pos (ae hj), if_pos (ae hj), if_pos (by simp only [bt, Bool.and_eq_true, decide_eq_true_eq]; omega), if_pos (decide_eq_true (by omega))]
   refine fin _ (by rw [List.length_set]; exact hA) ?_
   rw [lP _ _ _ _ (by omega)]
   by_cases hw : w = len - 1
   ·rw [if_pos (by omega), et]
    have hno : (fs.take j).any (tT (1, (k : Int), len - 1, ())) = false := by
     rw [Bool.eq_false_iff]
     exact fun ha => hpast ha ⟨rfl, hw⟩
    rw [hno, Bool.false_or]
    unfold tT
    simp only [Bool.and_eq_true, beq_iff_eq, and_true]
    exact ⟨fun e => ⟨e.symm, trivial, hw.symm⟩, fun e => e.1.symm⟩
   ·rw [if_neg (by omega), other (fun e => hw e.2)]
    exact hI
  ·rw [if_neg (by simpa using hb)]
   exact fin A hA (by rw [other (fun e => hb e.1)]; exact hI)
 ·obtain ⟨A, rfl, hA, hI⟩ := hz
  unfold sD
  simp only
  rw [if_neg (by simp), yb]
  exact ⟨A, rfl, hA, by rw [List.take_length] at hI; exact hI⟩
def YL (ns : List Nd) (c : IL) (n : Nat) : Int := if iz ns n = 7 then 0 else cC c n
theorem TI (h : cG N gate ns) (hp : tB ns n0 N slots bins) {c : IL} (hc : c.length = N) (hcs : ∀ (j : Nat) (h1 : j < c.length) (h2 : j < ns.length), gU ns[j] (c[j]).1) {fs : List Dv} (hf : fs.length ≤ 1000) (hm : D8 ns fs) {n : Nat} (hn : n < N) :
  ∃ v, JR ((ns, ds, ()), (slots, bins, ()), c, fs, (n : Int), ()) = some (v, ()) ∧ (v = 0 ↔ Nf ns slots bins c fs n < 0) ∧ (v ≠ 0 → Nf ns slots bins c fs n = YL ns c n) := by
 have hl := h.len
 have hnl : n < ns.length := by omega
 have hb : n < bins.length := by rw [hp.lb]; exact hn
 have hs : n < slots.length := by rw [hp.ls]; exact hn
 have hbn := hp.bn n hb (by rw [List.getElem?_eq_getElem hs]; rfl)
 have ebn : qd bins n = bins[n].1 := by unfold qd; rw [List.getD_eq_getElem?_getD, List.getElem?_eq_getElem hb]; rfl
 have hbl : (qd bins n).length ≤ 1 := by rw [ebn]; exact hbn.1
 have hx := n6 h hn
 have hk1 := hx.oQ
 have hcm := hcs n (by omega) hnl
 have e : fo ns n = ns[n] := by unfold fo; rw [List.getD_eq_getElem?_getD, List.getElem?_eq_getElem hnl]; rfl
 have ew : cC c n = (c[n]'(by omega)).1 := by unfold cC; rw [List.getD_eq_getElem?_getD, List.getElem?_eq_getElem (by omega)]; rfl
 show ∃ v, SF (ns, ds, ()) (slots, bins, ()) c fs (n : Int) = some (v, ()) ∧ _
 unfold SF Nf YL
 simp only [Int.toNat_natCast]
 rw [if_pos ⟨by omega, hnl⟩, if_pos ⟨by omega, hs, hb⟩]
 have e1 : ns.getD n ([], 0, 0, 0, [], ()) = fo ns n := rfl
 have e2 : (c.getD n (0, ())).1 = cC c n := rfl
 have e3 : (bins.getD n ([], ())).1 = qd bins n := rfl
 have e4 : (slots.getD n ([], ())).1 = qd slots n := rfl
 simp only [e1, e2, e3, e4]
 by_cases h7 : iz ns n = 7
 ·rw [if_pos (by unfold iz at h7; exact h7), QF _ _ (by omega), Option.bind_some, if_pos h7, if_pos h7]
  simp only
  refine ⟨_, rfl, ?_, fun hv => ?_⟩
  ·by_cases ha : ((qd bins n).any fun y => y.1 == cC c n) = true
   ·rw [if_pos ha, if_pos ha]
    obtain ⟨y, hy, hye⟩ := List.any_eq_true.1 ha
    rw [ebn] at hy
    have := hbn.2 y hy
    simp only [beq_iff_eq] at hye
    omega
   ·rw [if_neg ha, if_neg ha]; simp
  ·split at hv
   ·rename_i ha; rw [if_pos ha]
   ·exact absurd rfl hv
 ·rw [if_neg (by unfold iz at h7; exact h7), if_neg h7, if_neg h7]
  cases hst : nB ns n with
  | false =>
   rw [if_pos (by unfold nB iz at hst; exact hst)]
   exact ⟨0, rfl, by simp, fun h => absurd rfl h⟩
  | true =>
   have hp1 := DX h hp hn hst
   have hsl := DM h hp hn
   rw [if_neg (by unfold nB iz at hst; rw [hst]; simp)]
   by_cases hcn : cC c n = -1
   ·rw [if_pos hcn]
    refine ⟨0, rfl, ?_, fun h => absurd rfl h⟩
    rw [if_pos rfl, hcn]
    split <;> simp
   ·have hc0 : 0 ≤ cC c n := by
     unfold nB iz at hst
     unfold iz at h7
     simp only [Bool.and_eq_true, decide_eq_true_eq] at hst
     unfold gU at hcm
     rw [← e, ← ew, if_neg h7, if_neg (by omega)] at hcm
     rcases hcm with h | h
     ·exact h.1
     ·exact absurd h.1 hcn
    obtain ⟨A, hA, hAl, hI⟩ := TN (ds := ds) h hf hm hn (by omega)
    rw [if_neg hcn, if_pos ⟨by omega, by omega, by omega⟩, hA, Option.bind_some]
    simp only
    rw [if_pos hAl]
    have hAe : (A.getD ((fo ns n).2.2.1.toNat - 1) (0, ())).1 = cC A ((fo ns n).2.2.1.toNat - 1) := rfl
    have hls : ((qd slots n).getD ((fo ns n).2.2.1.toNat - 1) (0, ())).1 = RA slots ns n := rfl
    rw [hAe, hls]
    refine ⟨_, rfl, ?_, fun hv => ?_⟩
    ·rw [if_pos trivial]
     by_cases h1 : cC A ((fo ns n).2.2.1.toNat - 1) = 1
     ·rw [if_pos h1, if_pos (.inr (hI.1 h1))]; simp
     ·rw [if_neg h1]
      by_cases h2 : RA slots ns n = 0
      ·rw [if_pos (.inl h2), h2]; simp
      ·rw [if_neg (fun e => e.elim h2 (fun e => h1 (hI.2 e)))]
       exact ⟨fun e => absurd e h2, fun e => by omega⟩
    ·rw [if_pos trivial]
     split at hv
     ·exact absurd rfl hv
     ·rename_i h1
      rw [if_neg (fun e => e.elim hv (fun e => h1 (hI.2 e)))]
end
abbrev BL := List (Bool × Unit)
def bN (op : BL) (n : Nat) : Bool := (op.getD n (false, ())).1
theorem Nm (op : BL) (m : Nat) (v : Bool) (j : Nat) (hm : m < op.length) : bN (op.set m (v, ())) j = if j = m then v else bN op j := by
 unfold bN
 rw [List.getD_eq_getElem?_getD, List.getElem?_set]
 by_cases e : m = j
 ·subst e; simp [hm]
 ·rw [if_neg e, if_neg (fun h => e h.symm), List.getD_eq_getElem?_getD]
structure SN (N : Nat) (ns : List Nd) (ds : List Dv) (slots bins : LL) (c : IL) (fs : List Dv) (W : IL) : Prop where
 wt : Nj ns N W
 la : ∀ n, n < N → ∃ v, JR ((ns, ds, ()), (slots, bins, ()), c, fs, (n : Int), ()) = some (v, ()) ∧ (v = 0 ↔ cC W n < 0) ∧ (v ≠ 0 → JU ((ns, ds, ()), c, (n : Int), ()) = some (cC W n, ()))
section
variable {N gate : Nat} {ns : List Nd} {ds : List Dv} {od : IL} {slots bins : LL} {n0 : Int} {c W : IL} {fs : List Dv}
theorem V0 (hr : Kr N ns slots) (hg : SN N ns ds slots bins c fs W) (j8) (rc) {n k : Nat} (hn : n < N) (hk : k < N) (i : Int) (op : BL) (o1 o2 le en : IL) (hop : op.length = N) (hle : le.length = N) (hen : en.length = N) (ho : bN op n = true) :
  fb j8 rc (c, fs, i, (n : Int), (k : Int), (ns, ds, ()), (slots, bins, ()), (), (), fo ns n, op, od, o1, o2, le, en, ()) =
   if iy ns W n k = true then
    (if nB ns n = true then j8 (c, fs, i, (ns, ds, ()), (slots, bins, ()), (), (), op, od, o1, o2, le.set k (cC W k, ()), en.set n ((k : Int), ()), ())
    else rc (c, fs, i, (n : Int), ((k + 1 : Nat) : Int), (ns, ds, ()), (slots, bins, ()), (), (), fo ns n, op, od, o1, o2, le.set k (cC W k, ()), en, ()))
   else rc (c, fs, i, (n : Int), ((k + 1 : Nat) : Int), (ns, ds, ()), (slots, bins, ()), (), (), fo ns n, op, od, o1, o2, le, en, ()) := by
 have hl := hr.len
 have ll := hr.kU
 obtain ⟨v, hv, hv0, hv1⟩ := hg.la k hk
 have eb : (op.getD n (false, ())).1 = true := ho
 have skip : ∀ le : IL, ph rc (c, fs, i, (n : Int), (k : Int), (ns, ds, ()), (slots, bins, ()), (), (), fo ns n, op, od, o1, o2, le, en, ()) = rc (c, fs, i, (n : Int), ((k + 1 : Nat) : Int), (ns, ds, ()), (slots, bins, ()), (), (), fo ns n, op, od, o1, o2, le, en, ()) := fun le => by
  unfold ph
  simp only
  rw [cT (show k < 20 by omega)]
 have skip2 : ∀ le : IL, pj j8 (ph rc) (c, fs, i, (n : Int), (k : Int), true, (ns, ds, ()), (slots, bins, ()), (), (), fo ns n, op, od, o1, o2, le, en, ()) = rc (c, fs, i, (n : Int), ((k + 1 : Nat) : Int), (ns, ds, ()), (slots, bins, ()), (), (), fo ns n, op, od, o1, o2, le, en, ()) := fun le => by
  unfold pj
  simp only
  rw [if_pos trivial]
  exact skip le
 unfold fb
 simp only [aa]
 rw [hl, if_pos (by simpa using hk), if_pos (ae (by omega)), if_pos (decide_eq_true (by rw [Int.toNat_natCast]; omega)), Int.toNat_natCast, eb]
 unfold pg
 simp only [aa]
 rw [if_pos trivial]
 by_cases h1 : k = n
 ·subst h1
  have hc : iy ns W k k = false := by unfold iy; simp
  rw [if_pos (by simp), skip2, hc, if_neg Bool.false_ne_true]
 rw [if_neg (by simp only [beq_iff_eq]; omega), hv, Option.bind_some]
 simp only
 by_cases h2 : v = 0
 ·have hc : iy ns W n k = false := by unfold iy; rw [decide_eq_false (by have := hv0.1 h2; omega)]; simp
  rw [if_pos (by simpa using h2), skip2, hc, if_neg Bool.false_ne_true]
 have h0 : 0 ≤ cC W k := by
  rcases Int.lt_or_le (cC W k) 0 with h | h
  ·exact absurd (hv0.2 h) h2
  ·exact h
 have hlt := hg.wt.lt k hk h0
 have hin : bt (cC W k) (fo ns k).2.2.2.2.1.length = true := by simp only [bt, Bool.and_eq_true, decide_eq_true_eq]; omega
 rw [if_neg (by simpa using h2), if_pos (ae (by omega)), hv1 h2, Option.bind_some]
 simp only
 rw [gC, if_pos hin]
 have ht : (bg (0, ()) (fo ns k).2.2.2.2.1 (cC W k)).1 = p4 ns W k := rfl
 have hcom : iy ns W n k = (p4 ns W k == (n : Int)) := by
  unfold iy
  rw [show (k != n) = true by simpa using h1, decide_eq_true h0]; simp
 rw [ht, hcom]
 by_cases e : p4 ns W k = (n : Int)
 ·rw [show (p4 ns W k != (n : Int)) = false by simpa using e, if_pos (by simpa using e)]
  unfold pj
  simp only
  rw [if_neg Bool.false_ne_true, hv1 h2, Option.bind_some, if_pos (ae (by omega)), if_pos (decide_eq_true (by rw [Int.toNat_natCast]; omega)), YE, Option.bind_some, Int.toNat_natCast]
  simp only
  by_cases hs : nB ns n = true
  ·rw [if_pos hs, if_pos hs, if_pos (ae (by omega)), if_pos (decide_eq_true (by omega)), Int.toNat_natCast]
  ·rw [if_neg hs, if_neg hs]
   exact skip _
 ·rw [show (p4 ns W k != (n : Int)) = true by simpa using e, if_neg (by simpa using e)]
  exact skip2 _
def GP (ns : List Nd) (W : IL) (N n : Nat) (b : Bool) (le en : IL) : IL × IL :=
 if b = true then (if nB ns n = true then (if gr ns W n N = 0 then (le, en) else (le.set (low (gr ns W n N)) (cC W (low (gr ns W n N)), ()), en.set n ((low (gr ns W n N) : Nat), ()))) else (nD W le (gr ns W n N), en)) else (le, en)
theorem Rq (hr : Kr N ns slots) (hg : SN N ns ds slots bins c fs W) (j8) {n : Nat} (hn : n < N) (i : Int) (op : BL) (o1 o2 le en : IL) (hop : op.length = N) (hle : le.length = N) (hen : en.length = N) :
  iter 100000 (fb j8) (c, fs, i, (n : Int), 0, (ns, ds, ()), (slots, bins, ()), (), (), fo ns n, op, od, o1, o2, le, en, ()) =
   j8 (c, fs, i, (ns, ds, ()), (slots, bins, ()), (), (), op, od, o1, o2, (GP ns W N n (bN op n) le en).1, (GP ns W N n (bN op n) le en).2, ()) := by
 have hl := hr.len
 have ll := hr.kU
 have over : ∀ rc le, fb j8 rc (c, fs, i, (n : Int), (N : Int), (ns, ds, ()), (slots, bins, ()), (), (), fo ns n, op, od, o1, o2, le, en, ()) = j8 (c, fs, i, (ns, ds, ()), (slots, bins, ()), (), (), op, od, o1, o2, le, en, ()) := fun rc le => by
  unfold fb
  simp only [aa]
  rw [hl, if_neg (by simp)]
  unfold pg
  simp only
  rw [if_neg Bool.false_ne_true]
 cases hb : bN op n with
 | false =>
  unfold GP
  rw [if_neg Bool.false_ne_true, gm]
  generalize iter 99999 (fb j8) = rc
  have eb : (op.getD n (false, ())).1 = false := hb
  unfold fb
  simp only [aa]
  rw [hl, if_pos (by simp; omega), if_pos (ae (by omega)), if_pos (decide_eq_true (by rw [Int.toNat_natCast]; omega)), Int.toNat_natCast, eb]
  unfold pg
  simp only
  rw [if_neg Bool.false_ne_true]
 | true =>
  unfold GP
  rw [if_pos rfl]
  have step := fun (rc) (k : Nat) (hk : k < N) (le : IL) (hle : le.length = N) => V0 (od := od) hr hg j8 rc hn hk i op o1 o2 le en hop hle hen hb
  by_cases hs : nB ns n = true
  ·rw [if_pos hs]
   by_cases h0 : gr ns W n N = 0
   ·rw [if_pos h0]
    refine ak (F := fb j8) (fun k : Nat => (c, fs, i, (n : Int), (k : Int), (ns, ds, ()), (slots, bins, ()), (), (), fo ns n, op, od, o1, o2, le, en, ())) N 100000 (by omega) (fun rc k hk => ?_) (fun rc => over rc le)
    have hc : iy ns W n k = false := by
     have := qo ns W n k N
     rw [h0, Nat.zero_testBit, decide_eq_true hk, Bool.true_and] at this
     exact this.symm
    rw [step rc k hk le hle, hc, if_neg Bool.false_ne_true]
   ·rw [if_neg h0]
    obtain ⟨a1, a2, a3, a4, a5⟩ := mv (xd (W := W) (ns := ns) ll n) h0
    have hlow := (xe a2).1
    refine ak (F := fb j8) (fun k : Nat => (c, fs, i, (n : Int), (k : Int), (ns, ds, ()), (slots, bins, ()), (), (), fo ns n, op, od, o1, o2, le, en, ())) (low (gr ns W n N)) 100000 (by omega) (fun rc k hk => ?_) (fun rc => ?_)
    ·have hc : iy ns W n k = false := by
      have := qo ns W n k N
      rw [a5 k hk, decide_eq_true (by omega), Bool.true_and] at this
      exact this.symm
     rw [step rc k (by omega) le hle, hc, if_neg Bool.false_ne_true]
    ·have hc : iy ns W n (low (gr ns W n N)) = true := by
      have := qo ns W n (low (gr ns W n N)) N
      rw [a2, decide_eq_true hlow, Bool.true_and] at this
      exact this.symm
     rw [step rc _ hlow le hle, hc, if_pos rfl, if_pos hs]
  ·rw [if_neg hs]
   have h := ak (F := fb j8) (r := j8 (c, fs, i, (ns, ds, ()), (slots, bins, ()), (), (), op, od, o1, o2, nD W le (gr ns W n N), en, ())) (fun k : Nat => (c, fs, i, (n : Int), (k : Int), (ns, ds, ()), (slots, bins, ()), (), (), fo ns n, op, od, o1, o2, nD W le (gr ns W n k), en, ())) N 100000 (by omega) (fun rc k hk => ?_) (fun rc => over rc _)
   ·rw [← h]
    show _ = iter 100000 (fb j8) (c, fs, i, (n : Int), ((0 : Nat) : Int), (ns, ds, ()), (slots, bins, ()), (), (), fo ns n, op, od, o1, o2, nD W le 0, en, ())
    rw [BG]; rfl
   ·rw [step rc k hk _ (by rw [iR]; exact hle), if_neg hs]
    have ec : gr ns W n (k + 1) = if iy ns W n k = true then gr ns W n k ||| 2 ^ k else gr ns W n k := rfl
    by_cases hc : iy ns W n k = true
    ·rw [if_pos hc]
     rw [if_pos hc] at ec
     have : (nD W le (gr ns W n k)).set k (cC W k, ()) = nD W le (gr ns W n (k + 1)) := by
      refine Kf (by rw [List.length_set, iR, iR]) fun j hj => ?_
      rw [List.length_set, iR] at hj
      rw [lP _ _ _ _ (by rw [iR]; omega), vx _ _ _ hj, vx _ _ _ hj, ec, Nat.testBit_or, Nat.testBit_two_pow]
      by_cases e : j = k
      ·subst e; simp
      ·rw [if_neg e, show decide (k = j) = false by simpa using fun h => e h.symm, Bool.or_false]
     rw [this]
    ·rw [if_neg hc]
     rw [if_neg hc] at ec
     rw [ec]
theorem Jl (n : Nat) (l : List Nat) (p : IL × IL) : nA ns slots W N (n :: l) p = nA ns slots W N l (fP ns slots W N n p.1 p.2) := rfl
theorem Rp {k n : Nat} (h : k < n) : (eU (List.range n)).getD k (0, ()) = ((k : Int), ()) := by
 rw [List.getD_eq_getElem?_getD]
 simp [eU, h]
theorem RY (hr : Kr N ns slots) (hg : SN N ns ds slots bins c fs W) (ha : SK N ns W) (j5) (rc) {n : Nat} (hn : n < N) (op : BL) (o1 o2 le en : IL) (hop : op.length = N) (hoe : ∀ m, m ≤ n → bN op m = wC ns slots m) (hi : Inv N ns slots W (n + 1) (le, en)) :
  ∃ op' : BL, op'.length = N ∧ (∀ m, m < n → bN op' m = wC ns slots m) ∧
  pn 100000 j5 rc (c, fs, (n : Int), (ns, ds, ()), (slots, bins, ()), (), (), op, eU (List.range N), o1, o2, le, en, ()) =
   rc (c, fs, (n : Int) - 1, (ns, ds, ()), (slots, bins, ()), (), (), op', eU (List.range N), o1, o2, (fP ns slots W N n le en).1, (fP ns slots W N n le en).2, ()) := by
 have hl := hr.len
 have ll := hr.kU
 have hsl := hr.ls
 have hle : le.length = N := hi.l1
 have hen : en.length = N := hi.l2
 have hla : (ou ns slots W le n).length = N := by unfold ou; split <;> simp [hle]
 have hll : (eU (List.range N)).length = N := lr N
 obtain ⟨v, hv, hv0, hv1⟩ := hg.la n hn
 have hlv : cC le n = -1 ∨ (0 ≤ cC le n ∧ (iz ns n = 5 → cC le n ≠ 0)) := by
  rcases hi.lv n hn with e | ⟨a, b, d⟩ | ⟨a, b, d⟩
  ·exact .inl e
  ·simp only at b
   refine .inr ⟨by omega, fun h5 e => ?_⟩
   have := ha.lp n hn h5
   unfold p4 at d
   rw [← b, e, this] at d
   omega
  ·omega
 have k10 : mH 100000 (lM rc) (c, fs, (n : Int), (n : Int), (ns, ds, ()), (slots, bins, ()), (), (), fo ns n, (if l6 ns slots W le n = true then op.set n (false, ()) else op), eU (List.range N), o1, o2, ou ns slots W le n, en, ()) =
   rc (c, fs, (n : Int) - 1, (ns, ds, ()), (slots, bins, ()), (), (), (if l6 ns slots W le n = true then op.set n (false, ()) else op), eU (List.range N), o1, o2, (fP ns slots W N n le en).1, (fP ns slots W N n le en).2, ()) := by
  have hol : (if l6 ns slots W le n = true then op.set n (false, ()) else op).length = N := by split <;> simp [hop]
  have hob : bN (if l6 ns slots W le n = true then op.set n (false, ()) else op) n = (wC ns slots n && !l6 ns slots W le n) := by
   cases har : l6 ns slots W le n with
   | true => rw [if_pos rfl, Nm _ _ _ _ (by omega), if_pos rfl]; simp
   | false => rw [if_neg Bool.false_ne_true, hoe n (Nat.le_refl _)]; simp
  unfold mH
  simp only
  rw [Rq hr hg _ hn _ _ _ _ _ _ hol hla hen, hob]
  unfold lM
  simp only
  rw [ch (by omega) (by omega)]
  have : GP ns W N n (wC ns slots n && !l6 ns slots W le n) (ou ns slots W le n) en = fP ns slots W N n le en := by
   unfold GP fP
   by_cases hs : nB ns n = true
   ·rw [if_pos hs, if_pos hs]
    by_cases hb : (wC ns slots n && !l6 ns slots W le n) = true
    ·rw [if_pos hb, hb, Bool.and_true]
     by_cases h0 : gr ns W n N = 0
     ·rw [if_pos h0, if_neg (by simpa using h0)]
     ·rw [if_neg h0, if_pos (by simpa using h0)]
    ·rw [if_neg hb, if_neg (fun h => hb (by simp only [Bool.and_eq_true] at h ⊢; exact h.2))]
   ·have h5 : iz ns n ≠ 5 := fun e => hs (by unfold nB; rw [e]; rfl)
    have ho : wC ns slots n = true := by unfold wC; rw [if_neg hs]
    have har : l6 ns slots W le n = false := by unfold l6; rw [show (iz ns n == 5) = false by simpa using h5]; rfl
    rw [if_neg hs, if_neg hs, ho, har, if_pos (show (true && !false) = true from rfl)]
  rw [this]
 refine ⟨if l6 ns slots W le n = true then op.set n (false, ()) else op, by split <;> simp [hop], fun m hm => ?_, ?_⟩
 ·split
  ·rw [Nm _ _ _ _ (by omega), if_neg (by omega)]; exact hoe m (by omega)
  ·exact hoe m (by omega)
 have k9 : sk 100000 (lM rc) (c, fs, (n : Int), (n : Int), (ns, ds, ()), (slots, bins, ()), (), (), fo ns n, op, eU (List.range N), o1, o2, ou ns slots W le n, en, ()) =
   rc (c, fs, (n : Int) - 1, (ns, ds, ()), (slots, bins, ()), (), (), (if l6 ns slots W le n = true then op.set n (false, ()) else op), eU (List.range N), o1, o2, (fP ns slots W N n le en).1, (fP ns slots W N n le en).2, ()) := by
  rw [← k10]
  have k23 : ∀ b : Bool, b = l6 ns slots W le n → u6 (mH 100000 (lM rc)) (c, fs, (n : Int), (n : Int), b, (ns, ds, ()), (slots, bins, ()), (), (), fo ns n, op, eU (List.range N), o1, o2, ou ns slots W le n, en, ()) =
    mH 100000 (lM rc) (c, fs, (n : Int), (n : Int), (ns, ds, ()), (slots, bins, ()), (), (), fo ns n, (if l6 ns slots W le n = true then op.set n (false, ()) else op), eU (List.range N), o1, o2, ou ns slots W le n, en, ()) := fun b hb => by
   rw [← hb]
   unfold u6
   simp only
   cases b with
   | true => rw [if_pos rfl, if_pos (ae (by omega)), if_pos (decide_eq_true (by rw [Int.toNat_natCast]; omega)), Int.toNat_natCast, if_pos rfl]
   | false => rw [if_neg Bool.false_ne_true, if_neg Bool.false_ne_true]
  unfold sk
  simp only [aa]
  by_cases h5 : iz ns n = 5
  ·rw [if_pos (by unfold iz at h5; simpa using h5), if_pos (ae (by omega)), if_pos (decide_eq_true (by rw [Int.toNat_natCast]; omega)), Int.toNat_natCast]
   refine k23 _ ?_
   have e : ((ou ns slots W le n).getD n (0, ())).1 = cC (ou ns slots W le n) n := rfl
   rw [e, C9 _ _ (by omega)]
   cases har : l6 ns slots W le n with
   | true => rw [if_pos ⟨rfl, rfl⟩]; rfl
   | false =>
    rw [if_neg (by simp)]
    rcases hlv with e | ⟨_, e⟩
    ·rw [e]; rfl
    ·simpa using e h5
  ·rw [if_neg (by unfold iz at h5; simpa using h5)]
   exact k23 _ (by unfold l6; rw [show (iz ns n == 5) = false by simpa using h5]; rfl)
 have k26 : ∀ b : Bool, b = l6 ns slots W le n → u7 (sk 100000 (lM rc)) (c, fs, (n : Int), (n : Int), b, (ns, ds, ()), (slots, bins, ()), (), (), fo ns n, op, eU (List.range N), o1, o2, le, en, ()) =
   rc (c, fs, (n : Int) - 1, (ns, ds, ()), (slots, bins, ()), (), (), (if l6 ns slots W le n = true then op.set n (false, ()) else op), eU (List.range N), o1, o2, (fP ns slots W N n le en).1, (fP ns slots W N n le en).2, ()) := fun b hb => by
  rw [← k9]
  unfold ou
  rw [← hb]
  unfold u7
  simp only
  cases b with
  | true => rw [if_pos rfl, if_pos (ae (by omega)), if_pos (decide_eq_true (by rw [Int.toNat_natCast]; omega)), Int.toNat_natCast, if_pos rfl]
  | false => rw [if_neg Bool.false_ne_true, if_neg Bool.false_ne_true]
 unfold pn
 simp only [aa]
 rw [if_pos (by simp), hll, if_pos (ae (by omega)), if_pos (decide_eq_true (by rw [Int.toNat_natCast]; omega)), Int.toNat_natCast, Rp hn]
 simp only
 rw [if_pos (ae (by omega)), gC]
 by_cases h5 : iz ns n = 5
 ·have hst : nB ns n = true := by unfold nB; rw [h5]; rfl
  have hp1 := hr.pos n hn hst
  rw [if_pos (by unfold iz at h5; simpa using h5), hv, Option.bind_some]
  simp only
  by_cases h2 : v = 0
  ·rw [if_neg (by simpa using h2)]
   exact k26 _ (by unfold l6; rw [decide_eq_false (by have := hv0.1 h2; omega)]; simp)
  ·have h0 : 0 ≤ cC W n := by
    rcases Int.lt_or_le (cC W n) 0 with h | h
    ·exact absurd (hv0.2 h) h2
    ·exact h
   have ew : (le.getD n (0, ())).1 = cC le n := rfl
   rw [if_pos (by simpa using h2), if_pos (ae (by omega)), if_pos (decide_eq_true (by rw [Int.toNat_natCast]; omega)), Int.toNat_natCast, ew]
   by_cases h3 : cC le n = -1
   ·rw [if_pos (by simpa using h3), if_pos (ae (by omega)), qw, if_pos (Iz hp1.1), Ex]
    refine k26 _ ?_
    unfold l6
    rw [h5, decide_eq_true h0, decide_eq_true (by omega)]; simp [HK]
   ·rw [if_neg (by simpa using h3)]
    refine k26 _ ?_
    have := hlv.resolve_left h3
    unfold l6
    rw [decide_eq_false (show ¬ cC le n < 0 by omega)]; simp
 ·rw [if_neg (by unfold iz at h5; simpa using h5)]
  exact k26 _ (by unfold l6; rw [show (iz ns n == 5) = false by simpa using h5]; rfl)
theorem Oh (h : cG N gate ns) (hp : tB ns n0 N slots bins) (hc : c.length = N) (hcs : ∀ (j : Nat) (h1 : j < c.length) (h2 : j < ns.length), gU ns[j] (c[j]).1) (hf : fs.length ≤ 1000) (hm : D8 ns fs) : SN N ns ds slots bins c fs (wU ns slots bins c fs N) where
 wt := Kg h hp hc hcs fs
 la := fun n hn => by
  obtain ⟨v, h1, h2, h3⟩ := TI (ds := ds) h hp hc hcs hf hm hn
  refine ⟨v, h1, ?_, fun hv => ?_⟩
  ·rw [Kb _ _ _ _ _ hn]; exact h2
  ·rw [Kb _ _ _ _ _ hn, h3 hv, Y9 h.len hc hn]; rfl
theorem Y1 (h : cG N gate ns) (hd : DevG ns ds) (hp : tB ns n0 N slots bins) (hc : c.length = N) (hcs : ∀ (j : Nat) (h1 : j < c.length) (h2 : j < ns.length), gU ns[j] (c[j]).1) (hf : fs.length ≤ 1000) (hm : D8 ns fs)
  (hr : JS ((ns, ds, ()), c, fs, ()) = some (0, ())) :
  JQ ((ns, ds, ()), (slots, bins, ()), c, fs, ()) = some ((((nA ns slots (wU ns slots bins c fs N) N (List.range N).reverse (ix N, ix N)).1, (nA ns slots (wU ns slots bins c fs N) N (List.range N).reverse (ix N, ix N)).2, ()), 0, ()), ()) := by
 have hl := h.len
 have ll := h.kU
 have hrd := uU h hp
 have hg := Oh (ds := ds) h hp hc hcs hf hm
 have ha := KB h hg.wt
 generalize hW : wU ns slots bins c fs N = W at hg ha
 generalize hF : nA ns slots W N (List.range N).reverse (ix N, ix N) = F
 show Hk 100000 (ns, ds, ()) (slots, bins, ()) c fs = _
 unfold Hk
 simp only [aa]
 rw [hr, Option.bind_some]
 simp only
 rw [if_neg (by simp)]
 refine ak (F := pk (x5 100000)) (fun k : Nat => (c, fs, (k : Int), (ns, ds, ()), (slots, bins, ()), (), (), [], [], ix k, ix k, ())) N 100000 (by omega) (fun rc k hk => ?_) (fun rc => ?_)
 ·have hmk : (ix k).length = k := by simp [ix]
  have em : ix k ++ [(-1, ())] = ix (k + 1) := by unfold ix; rw [List.replicate_succ']
  unfold pk
  simp only
  rw [hl, if_pos (by simpa using hk), hmk, if_pos (di (by first | omega | (simp; omega))), if_pos (di (by first | omega | (simp; omega))), if_pos (di (by first | omega | (simp; omega))), if_pos (di (by first | omega | (simp; omega))), cT hk, em]
 ·unfold pk
  simp only
  rw [hl, if_neg (by simp)]
  unfold x5
  simp only [aa]
  rw [Xk hrd, Option.bind_some, Y8 h hd, Option.bind_some]
  simp only
  rw [lr, ch (by omega) (by omega)]
  refine ck (F := pn 100000 sj) (fun k z => ∃ (op : BL) (le en : IL), z = (c, fs, (N : Int) - 1 - (k : Int), (ns, ds, ()), (slots, bins, ()), (), (), op, eU (List.range N), [], [], le, en, ()) ∧ op.length = N ∧ (∀ m, m < N - k → bN op m = wC ns slots m) ∧ Inv N ns slots W (N - k) (le, en) ∧ nA ns slots W N (List.range (N - k)).reverse (le, en) = F)
   (fun o => o = some (((F.1, F.2, ()), 0, ()), ())) N 100000 (by omega) ⟨tR ns slots N, ix N, ix N, by simp, Ib .., fun m hm => QG ns slots (by omega), K3 N ns slots W, hF⟩ (fun rc k z hk hz => ?_) (fun rc z hz => ?_)
  ·obtain ⟨op, le, en, rfl, ho, hoe, hi, hF⟩ := hz
   obtain ⟨n, hn, en1, en2⟩ : ∃ n : Nat, n < N ∧ (N : Int) - 1 - (k : Int) = n ∧ N - k = n + 1 := ⟨N - 1 - k, by omega, by omega, by omega⟩
   have en3 : N - (k + 1) = n := by omega
   rw [en2] at hi hF hoe
   obtain ⟨op', h1, h2, h3⟩ := RY hrd hg ha sj rc hn op [] [] le en ho (fun m hm => hoe m (by omega)) hi
   have hi' : Inv N ns slots W n (fP ns slots W N n le en) := IB (p := (le, en)) ha ll hn hi
   have hF' : nA ns slots W N (List.range n).reverse (fP ns slots W N n le en) = F := by
    rw [List.range_succ, List.reverse_append] at hF
    rw [← hF]
    exact (Jl n (List.range n).reverse (le, en)).symm
   rw [en1, h3]
   generalize fP ns slots W N n le en = q at hi' hF'
   obtain ⟨q1, q2⟩ := q
   refine ⟨_, rfl, op', q1, q2, by rw [show (N : Int) - 1 - ((k + 1 : Nat) : Int) = (n : Int) - 1 by omega], h1, ?_, ?_, ?_⟩
   ·rw [en3]; exact h2
   ·rw [en3]; exact hi'
   ·rw [en3]; exact hF'
  ·obtain ⟨op, le, en, rfl, ho, hoe, hi, hF⟩ := hz
   rw [Nat.sub_self] at hF
   unfold pn
   simp only
   rw [if_neg (by simp only [decide_eq_true_eq]; omega)]
   unfold sj
   simp only
   rw [← hF]; rfl
theorem TH (c : IL) (fs : List Dv) {e : Int} (he : e ≠ 0) (hr : JS ((ns, ds, ()), c, fs, ()) = some (e, ())) : JQ ((ns, ds, ()), (slots, bins, ()), c, fs, ()) = some ((([], [], ()), e, ()), ()) := by
 show Hk 100000 (ns, ds, ()) (slots, bins, ()) c fs = _
 unfold Hk
 rw [hr, Option.bind_some]
 simp only
 rw [if_pos (by simpa using he)]
end
theorem Xl (l : IL) (hl : l.length ≤ 90000) : Hs (l, l, ()) = some (true, ()) := by
 show LI 100000 l l = _
 unfold LI
 simp only [aa]
 rw [if_neg (by simp)]
 refine ak (F := sm Fe) (fun k : Nat => (l, l, (k : Int), ())) l.length 100000 (by omega) (fun rc k hk => ?_) (fun rc => ?_)
 ·unfold sm
  simp only
  rw [if_pos (by simpa using hk), if_pos (ae hk), if_pos (ae hk), if_neg (by simp), ch (by omega) (by omega)]
  rfl
 ·unfold sm
  simp only
  rw [if_neg (by simp)]
  rfl
section
variable {N gate : Nat} {ns : List Nd} {ds : List Dv} {slots bins : LL} {n0 : Int}
theorem TF (h : cG N gate ns) (hd : DevG ns ds) (hp : tB ns n0 N slots bins) (c : IL) (fs : List Dv) {e : Int} (he : e ≠ 0) (hr : DS ((ns, ds, eU (List.range N), ()), c, fs, ()) = some (e, (ns, ds, eU (List.range N), ()), ())) :
  BB ((ns, ds, ()), (slots, bins, ()), c, fs, ()) = some ((([], [], ()), e, ()), ()) := by
 show AL 0 (ns, ds, ()) (slots, bins, ()) c fs = _
 unfold AL
 simp only [aa]
 rw [SW h hd, Option.bind_some]
 simp only
 rw [if_neg (by simp), TO h hd, Option.bind_some, EO h]
 unfold se
 simp only [aa]
 rw [if_neg (by simp), TK h hp, Option.bind_some]
 unfold sf
 simp only
 rw [if_neg (by simp), hr, Option.bind_some]
 simp only
 rw [if_pos (by simpa using he)]
theorem Im (h : cG N gate ns) (hd : DevG ns ds) (hp : tB ns n0 N slots bins) (c : IL) (fs : List Dv) (hf : fs.length ≤ 1000) : ∃ (a b : IL) (e : Int), BB ((ns, ds, ()), (slots, bins, ()), c, fs, ()) = some (((a, b, ()), e, ()), ()) ∧
  JQ ((ns, ds, ()), (slots, bins, ()), c, fs, ()) = some (((a, b, ()), e, ()), ()) ∧ a.length ≤ 11 ∧ b.length ≤ 11 := by
 have P3 := TL (ds := ds) (od := eU (List.range N)) h.len h.kU c fs hf
 have P4 := Y7 (ds := ds) h.len h.kU c fs hf
 by_cases h0 : uO ns N c fs = 0
 ·obtain ⟨hc, hf4, hcs, hm⟩ := Jc h h0
  rw [h0] at P3 P4
  have h1 := YY h hd hp hc hcs (fs := fs) (by omega) P3
  have h2 := Y1 h hd hp hc hcs hf hm P4
  have hl := EY ns slots (wU ns slots bins c fs N) N (List.range N).reverse (ix N, ix N)
  have hN := h.kU
  have hm : (ix N).length = N := by simp [ix]
  exact ⟨_, _, _, h1, h2, by rw [hl.1]; simp only; omega, by rw [hl.2]; simp only; omega⟩
 ·exact ⟨[], [], _, TF h hd hp c fs h0 P3, TH c fs h0 P4, by decide, by decide⟩
theorem Rt (h : cG N gate ns) (hd : DevG ns ds) (hp : tB ns n0 N slots bins) (j17) (a b d : List Dv) (k : IL) (m i : Int) (ls : LL) (hs : List (List Dv × Unit)) (hh : ∀ y ∈ hs, y.1.length ≤ 1000) (hl : hs.length ≤ 1000) :
  iter 100000 (pM j17) (a, b, d, k, m, i, (hs.length : Int), 0, (ns, ds, ()), (slots, bins, ()), ls, hs, ()) = j17 (a, b, d, m, i, (ns, ds, ()), (slots, bins, ()), ls, ()) := by
 refine ak (F := pM j17) (fun j : Nat => (a, b, d, k, m, i, (hs.length : Int), (j : Int), (ns, ds, ()), (slots, bins, ()), ls, hs, ())) hs.length 100000 (by omega) (fun rc j hj => ?_) (fun rc => ?_)
 ·have hg : hs.getD j ([], ()) = (hs[j].1, ()) := by rw [List.getD_eq_getElem?_getD, List.getElem?_eq_getElem hj]; rfl
  obtain ⟨u, v, e, f1, f2, f3, f4⟩ := Im h hd hp k hs[j].1 (hh _ (List.getElem_mem hj))
  unfold pM
  simp only [aa]
  rw [if_pos (by simpa using hj), if_pos (ae hj), if_pos (decide_eq_true (by rw [Int.toNat_natCast]; omega)), Int.toNat_natCast, hg, f1, Option.bind_some, f2, Option.bind_some]
  simp only
  rw [if_neg (by simp), Xl _ (by omega), Option.bind_some]
  simp only
  rw [if_neg (by simp), Xl _ (by omega), Option.bind_some]
  unfold FK
  simp only
  rw [if_neg (by simp), ch (by omega) (by omega)]
  rfl
 ·unfold pM
  simp only
  rw [if_neg (by simp)]
theorem Ru (h : cG N gate ns) (hd : DevG ns ds) (hp : tB ns n0 N slots bins) (j14) (a b d : List Dv) (ha : a.length ≤ 1000) (hb : b.length ≤ 1000) (hdd : d.length ≤ 1000) (ls : LL) (hl : ls.length ≤ 1000) :
  iter 100000 (pL 100000 j14) (a, b, d, (ls.length : Int), 0, (ns, ds, ()), (slots, bins, ()), ls, ()) = j14 () := by
 refine ak (F := pL 100000 j14) (fun i : Nat => (a, b, d, (ls.length : Int), (i : Int), (ns, ds, ()), (slots, bins, ()), ls, ())) ls.length 100000 (by omega) (fun rc i hi => ?_) (fun rc => ?_)
 ·unfold pL
  simp only [aa]
  rw [if_pos (by simpa using hi), if_pos (ae hi), if_pos (decide_eq_true (by rw [Int.toNat_natCast]; omega)), Int.toNat_natCast]
  rw [Rt h hd hp _ _ _ _ _ _ _ _ [(b, ()), (a, ()), (d, ())] (fun y hy => by
   simp only [List.mem_cons, List.not_mem_nil, or_false] at hy
   rcases hy with rfl | rfl | rfl <;> assumption) (by simp)]
  unfold FJ
  simp only
  rw [ch (by omega) (by omega)]
  rfl
 ·unfold pL
  simp only
  rw [if_neg (by simp)]
end
theorem Vz (x : IL × IL × List Dv × Unit) (SU : JP () = some (true, ())) : VU x = some (true, ()) := by
 obtain ⟨l, raw, list, ⟨⟩⟩ := x
 show Td 100000 l raw list = _
 unfold Td
 simp only [aa]
 have out : yi 100000 (l, raw, list, true, ()) = some (true, ()) := by
  unfold yi
  simp only
  rw [if_pos trivial, SU]; rfl
 by_cases Vk : 40 < raw.length
 ·rw [if_pos (decide_eq_true (by omega))]; exact out
 rw [if_neg (by simp only [decide_eq_true_eq]; omega)]
 by_cases Vj : 12 < list.length
 ·rw [decide_eq_true (by omega)]; exact out
 rw [decide_eq_false (by omega)]
 unfold yi
 simp only [aa]
 obtain ⟨s0, h0, k0⟩ := e7 l
 obtain ⟨N, gate, ns, ds, s1, h1, k1, hlay, hdev⟩ := e8 k0
 obtain ⟨slots, bins, s2, h2, k2, hpl⟩ := e9 hlay ds 12 (by decide) (by decide) k1
 obtain ⟨c, s3, h3, k3, hc, hcs⟩ := YX hlay ds k2
 obtain ⟨fs, s4, h4, k4, hfl, hmv⟩ := YZ hlay ds k3 3 (by decide)
 have hN := hlay.kU
 have hgN := hlay.gN
 have hl := hlay.len
 have hlim : (cj : Int) = 140737488355328 := rfl
 rw [if_neg Bool.false_ne_true, h0, Option.bind_some, h1, Option.bind_some]
 simp only
 rw [h2, Option.bind_some]
 simp only
 rw [Y0 hlay hdev hpl, Option.bind_some, Xk (uU hlay hpl), Option.bind_some]
 simp only
 have hel := Ib ns slots N
 rw [if_neg (by simp)]
 refine ak (F := sW (DH 100000)) (fun i : Nat => (raw, list, (i : Int), s2, (ns, ds, ()), (slots, bins, ()), tR ns slots N, tR ns slots N, ())) N 100000 (by omega) (fun rc i hi => ?_) (fun rc => ?_)
 ·unfold sW
  simp only
  rw [hel, if_pos (by simpa using hi), if_pos (ae hi), if_pos (decide_eq_true (by rw [Int.toNat_natCast]; omega)), if_pos (ae hi), if_pos (decide_eq_true (by rw [Int.toNat_natCast]; omega)), if_neg (by simp), cT hi]
 ·unfold sW
  simp only
  rw [hel, if_neg (by simp)]
  unfold DH
  simp only [aa]
  rw [h3, Option.bind_some]
  simp only
  rw [show ((3 : Int)) = ((3 : Nat) : Int) from rfl, h4, Option.bind_some]
  unfold JG
  simp only [aa]
  have hc2 : 1 ≤ c.length := by omega
  obtain ⟨v, s5, h5, v0, v1, k5⟩ := GA k4 (c.length : Int) (by omega) (by omega)
  obtain ⟨w, s6, h6, w0, w1, k6⟩ := Kt k5 (-2) 3 (by decide) (by decide) (by decide)
  obtain ⟨o1, s7, h7, p0, p1, k7⟩ := Kt k6 0 3 (by decide) (by decide) (by decide)
  obtain ⟨o2, s8, h8, q0, q1, k8⟩ := Kt k7 (-1) (ns.length : Int) (by omega) (by decide) (by omega)
  obtain ⟨o3, s9, h9, r0, r1, k9⟩ := Kt k8 (-1) 3 (by decide) (by decide) (by decide)
  rw [if_pos (di (by omega)), if_pos (di (by omega)), h5, Option.bind_some]
  simp only
  rw [h6, Option.bind_some]
  simp only
  rw [if_pos (lu v0 v1), if_pos (decide_eq_true (by omega)), if_pos (di (by omega)), if_pos (di (by omega)), h7, Option.bind_some]
  simp only
  rw [h8, Option.bind_some]
  simp only
  rw [h9, Option.bind_some]
  simp only
  rw [if_pos (di (by first | omega | (simp; omega))), if_pos (di (by first | omega | (simp; omega)))]
  unfold FH
  simp only [aa]
  rw [ch (by omega) (by omega), if_pos (by simp only [fa, Bool.and_eq_true, decide_eq_true_eq]; omega)]
  rw [Ru hlay hdev hpl _ _ _ _ (by omega) (by omega) (by simp; omega) _ (by simp)]
  unfold FI
  rw [SU]; rfl
end Go.Proofs.YtdkibgdkmnpncaaDoor
