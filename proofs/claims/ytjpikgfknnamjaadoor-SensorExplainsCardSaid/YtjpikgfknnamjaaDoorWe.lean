/- Chapter 12: the law of explaining. -/
import Derived.Test.YtjpikgfknnamjaaDoorWb
import Derived.KernelRfl
open Go Go.Proofs Go.Abs
set_option linter.unusedVariables false
set_option maxRecDepth 100000
namespace Go.Proofs.YtjpikgfknnamjaaDoor
section
variable {N gate : Nat} {ns : List Nd} {ds : List Dv} {slots bins : LL} {pl : List Dv}
structure GlG (ds : List Dv) (slots : LL) (pl fs : List Dv) (n : Nat) : Prop where
 len : fs.length ≤ n
 ok : ∀ f ∈ fs, errF ds slots pl f = 0
 nd : fs.Pairwise fun a b => a.2.1 ≠ b.2.1
theorem err_of (c : Ctx N gate ns ds slots bins pl) {k : Int} {d : Nat} {w : Int} (hd : d < ds.length) (hk : 3 ≤ k ∧ k ≤ 6) (hw : 0 ≤ w ∧ w ≤ (mostV k : Int)) (hm : mayV (viewV ds slots pl d) k = true) : errF ds slots pl (k, (d : Int), w, ()) = 0 := by
 unfold errF
 simp only [Int.toNat_natCast]
 rw [if_neg (by omega), if_neg (by omega), if_pos hm]
theorem add_gl {fs : List Dv} {n : Nat} (h : GlG ds slots pl fs n) {f : Dv} (hf : errF ds slots pl f = 0) (hn : ∀ g ∈ fs, g.2.1 ≠ f.2.1) : GlG ds slots pl (fs ++ [f]) (n + 1) :=
 ⟨by simp only [List.length_append, List.length_cons, List.length_nil]; have := h.len; omega, fun g hg => by
  rcases List.mem_append.1 hg with hg | hg
  ·exact h.ok g hg
  ·rw [List.mem_singleton.1 hg]; exact hf, List.pairwise_append.2 ⟨h.nd, by simp, fun a ha b hb => by rw [List.mem_singleton.1 hb]; exact hn a ha⟩⟩
theorem GlG.up {fs : List Dv} {n : Nat} (h : GlG ds slots pl fs n) : GlG ds slots pl fs (n + 1) := ⟨by have := h.len; omega, h.ok, h.nd⟩
theorem step12 (c : Ctx N gate ns ds slots bins pl) (rc) (n : Int) (i : Nat) (hi : i ≤ 100) (s : Sr) (hs : SrOk s) (out : List Dv) (ho : GlG ds slots pl out i) (hd0 : 0 < ds.length) (Post : Option (List Dv × Sr × Unit) → Prop)
  (hj : ∀ (s' : Sr) (out' : List Dv), SrOk s' → GlG ds slots pl out' (i + 1) → Post (rc (n, ((i + 1 : Nat) : Int), s', (ns, ds, ()), (slots, bins, ()), out', ()))) (j1) :
  Post (sh12_K3 100000 j1 rc (n, (i : Int), true, s, (ns, ds, ()), (slots, bins, ()), out, ())) := by
 have hol := ho.len
 have hdl := c.dev.len
 have hup : IntKind.i64.wrap ((i : Int) + 1) = ((i + 1 : Nat) : Int) := wrapI (by omega) (by omega)
 obtain ⟨d', s1, hv, v1, v2, k1⟩ := e18 hs (ds.length : Int) (by omega) (by omega)
 obtain ⟨d, rfl⟩ : ∃ d : Nat, d' = d := ⟨d'.toNat, by omega⟩
 have hd : d < ds.length := by omega
 simp only [sh12_K3, joinK]
 rw [if_pos trivial, hv, Option.bind_some]
 simp only
 rw [if_pos (inR_nat hd), lAt_nat _ _ _ hd]
 have k8 : ∀ (known : Bool) (s : Sr) (f : Dv), SrOk s → (known = false → errF ds slots pl f = 0 ∧ ∀ g ∈ out, g.2.1 ≠ f.2.1) → Post (sh12_K8 (sh12_K4 rc) (n, (i : Int), known, s, (ns, ds, ()), (slots, bins, ()), f, out, ())) := by
  intro known s f hs hf
  simp only [sh12_K8, sh12_K4]
  cases known with
  | true =>
   rw [if_neg (by decide), hup]
   exact hj s out hs ho.up
  | false =>
   obtain ⟨h1, h2⟩ := hf rfl
   rw [if_pos (by decide), if_pos (dlim (by omega)), if_pos (dlim (by omega)), hup]
   exact hj s _ hs (add_gl ho h1 h2)
 have hfin : ∀ known : Bool, known = (out.any fun g => g.2.1 == (d : Int)) → Post (sh12_K7 (sh12_K4 rc) (n, (i : Int), known, s1, (ns, ds, ()), (slots, bins, ()), ds[d], (4, (d : Int), 0, ()), out, ())) := by
  intro known hkn
  have hkn' : known = false → ∀ g ∈ out, g.2.1 ≠ (d : Int) := fun e g hg => by
   rw [e] at hkn
   have := List.any_eq_false.1 hkn.symm g hg
   simpa using this
  obtain ⟨a, w, ha, hw, e1, e2, eb, b0, b8, o1⟩ := ctx_dev c hd
  have hkind : (viewV ds slots pl d).2.1 = ds[d].1 := by show (ds.getD d (0, 0, 0, ())).1 = _; rw [getDev hd]
  simp only [sh12_K7, joinK]
  rw [e1, if_pos (inR_nat ha), lAt_nat _ _ _ ha, e2, if_pos (inR_nat hw), lAt_nat _ _ _ hw, ← eb]
  simp only [sh12_K10]
  by_cases hb : bagV ds slots d = 0
  ·rw [hb, if_neg (by decide), if_neg (by decide), show ((0 : Int) != 0) = false from rfl, if_neg (by decide)]
   rcases o1 with o | o
   ·rw [o, if_neg (by decide)]
    refine k8 known s1 _ k1 fun e => ⟨err_of c hd (by omega) (by omega) ?_, hkn' e⟩
    unfold mayV
    rw [if_neg (by decide), if_pos rfl, hkind, o]
    show ((1 : Int) == 1 && bagV ds slots d == 0) = true
    rw [hb]; rfl
   ·rw [o, if_pos (by decide)]
    exact k8 true s1 _ k1 fun e => by cases e
  ·have hbb : (bagV ds slots d != 0) = true := by simpa using hb
   have may3 : mayV (viewV ds slots pl d) 3 = true := by
    unfold mayV; rw [if_pos rfl]; exact hbb
   rw [hbb, if_pos rfl]
   rcases o1 with o | o
   ·rw [o, if_neg (by decide), if_pos rfl]
    exact k8 known s1 _ k1 fun e => ⟨err_of c hd (by omega) (by decide) may3, hkn' e⟩
   ·rw [o, if_pos (by decide)]
    obtain ⟨kd, s2, h2, m2, k2⟩ := e26 k1 [(3, ()), (5, ()), (6, ()), (6, ())] (by decide) (by decide)
    rw [h2, Option.bind_some]
    simp only
    have hkd : kd = 3 ∨ kd = 5 ∨ kd = 6 := by
     simp only [List.mem_cons, Prod.mk.injEq, and_true, List.not_mem_nil, or_false] at m2
     omega
    by_cases h3 : kd = 3
    ·subst h3
     rw [if_neg (by decide)]
     exact k8 known s2 _ k2 fun e => ⟨err_of c hd (by omega) (by decide) may3, hkn' e⟩
    ·obtain ⟨ww, s3, h4, m4, k4⟩ := e26 k2 [(9, ()), (8, ()), (0, ()), (5, ())] (by decide) (by decide)
     rw [if_pos (by simpa using h3), h4, Option.bind_some]
     simp only
     have hww : 0 ≤ ww ∧ ww ≤ 9 := by
      simp only [List.mem_cons, Prod.mk.injEq, and_true, List.not_mem_nil, or_false] at m4
      omega
     have hm9 : mostV kd = 9 := by unfold mostV; rw [if_pos (by omega)]
     refine k8 known s3 _ k4 fun e => ⟨err_of c hd (by omega) ⟨hww.1, by omega⟩ ?_, hkn' e⟩
     unfold mayV
     rw [if_neg h3, if_neg (by omega), hkind, o]
     show ((2 : Int) == 2 && (bagV ds slots d != 0 && !((viewV ds slots pl d).2.2.2.1 == []))) = true
     have hne : ((viewV ds slots pl d).2.2.2.1 == []) = false := by simpa using fun h => hb ((may_text c hd).1.1 h)
     rw [hbb, hne]; rfl
 refine iter_post (F := sh12_L15 (sh12_K7 (sh12_K4 rc))) (fun j z => z = (n, (i : Int), (d : Int), (out.take j).any (fun g => g.2.1 == (d : Int)), (j : Int), s1, (ns, ds, ()), (slots, bins, ()), ds[d], (4, (d : Int), 0, ()), out, ())) Post out.length 100000 (by omega) rfl (fun rc2 j z hjl hz => ?_) (fun rc2 z hz => ?_)
 ·subst hz
  have hup2 : IntKind.i64.wrap ((j : Int) + 1) = ((j + 1 : Nat) : Int) := wrapI (by omega) (by omega)
  have hg : out.getD j (0, 0, 0, ()) = out[j] := by rw [List.getD, List.getElem?_eq_getElem hjl]; rfl
  have ht : (out.take (j + 1)).any (fun g => g.2.1 == (d : Int)) = ((out.take j).any (fun g => g.2.1 == (d : Int)) || (out[j].2.1 == (d : Int))) := by
   rw [List.take_add_one, List.getElem?_eq_getElem hjl, List.any_append]
   simp [Option.toList]
  simp only [sh12_L15, joinK, sh12_K16]
  rw [if_pos (by simpa using hjl), hup2, ht]
  cases (out.take j).any (fun g => g.2.1 == (d : Int)) with
  | true => rw [if_pos rfl]; exact ⟨_, rfl, rfl⟩
  | false =>
   rw [if_neg (by decide), if_pos (inR_nat hjl), if_pos (decide_eq_true (by simp only [Int.toNat_natCast]; omega))]
   simp only [Int.toNat_natCast, hg]
   exact ⟨_, rfl, rfl⟩
 ·subst hz
  simp only [sh12_L15]
  rw [if_neg (by simp), List.take_length]
  exact hfin _ rfl
theorem e12 (c : Ctx N gate ns ds slots bins pl) {s : Sr} (hs : SrOk s) : ∃ fs s', sp12 (s, (ns, ds, ()), (slots, bins, ()), 3, ()) = some (fs, s', ()) ∧ SrOk s' ∧ GlG ds slots pl fs 3 := by
 show ∃ fs s', sh12 100000 s (ns, ds, ()) (slots, bins, ()) 3 = some (fs, s', ()) ∧ _
 unfold sh12
 simp only [joinK]
 by_cases hd0 : 0 < ds.length
 ·refine iter_post (F := sh12_L2 100000 sh12_K0) (fun i z => ∃ (s' : Sr) (out : List Dv), z = ((3 : Int), (i : Int), s', (ns, ds, ()), (slots, bins, ()), out, ()) ∧ SrOk s' ∧ GlG ds slots pl out i) (fun o => ∃ fs s', o = some (fs, s', ()) ∧ SrOk s' ∧ GlG ds slots pl fs 3) 3 100000 (by decide)
   ⟨s, [], rfl, hs, ⟨by simp, by simp, by simp⟩⟩ (fun rc i z hi hz => ?_) (fun rc z hz => ?_)
  ·obtain ⟨s1, out, rfl, k1, ho⟩ := hz
   simp only [sh12_L2, joinK]
   rw [if_pos (decide_eq_true (by omega)), decide_eq_true (show (0 : Int) < (ds.length : Int) by omega)]
   exact step12 c rc 3 i (by omega) s1 k1 out ho hd0 (fun o => ∃ z', o = rc z' ∧ ∃ (s' : Sr) (out : List Dv), z' = ((3 : Int), ((i + 1 : Nat) : Int), s', (ns, ds, ()), (slots, bins, ()), out, ()) ∧ SrOk s' ∧ GlG ds slots pl out (i + 1)) (fun s2 out2 k2 g2 => ⟨_, rfl, s2, out2, rfl, k2, g2⟩) sh12_K0
  ·obtain ⟨s1, out, rfl, k1, ho⟩ := hz
   simp only [sh12_L2, joinK]
   rw [if_neg (by simp)]
   simp only [sh12_K3]
   rw [if_neg (by decide)]
   exact ⟨out, s1, rfl, k1, ho⟩
 ·rw [show (100000 : Nat) = 99999 + 1 from rfl, iter_succ]
  simp only [sh12_L2, joinK]
  rw [if_pos (by simp), decide_eq_false (by omega)]
  simp only [sh12_K3]
  rw [if_neg (by decide)]
  exact ⟨[], s, rfl, hs, ⟨by simp, by simp, by simp⟩⟩
end
section
variable {N gate : Nat} {ns : List Nd} {ds : List Dv} {slots bins : LL} {pl : List Dv}
def costR (ds : List Dv) (slots : LL) (pl : List Dv) (r : RP) : Int × Bool × Unit := if r.1 < 0 ∨ (ds.length : Int) ≤ r.1 then (0, false, ()) else costV (viewV ds slots pl r.1.toNat) r
theorem e20 (c : Ctx N gate ns ds slots bins pl) (r : RP) : sp20 ((ns, ds, ()), (slots, bins, ()), pl, r, ()) = some (costR ds slots pl r, ()) := by
 unfold sp20 costR
 simp only
 by_cases h : r.1 < 0 ∨ (ds.length : Int) ≤ r.1
 ·rw [if_pos h, if_pos h]
 rw [if_neg h, if_neg h]
 obtain ⟨d, hd⟩ : ∃ d : Nat, r.1 = d := ⟨r.1.toNat, by omega⟩
 rw [hd] at h ⊢
 have hdl : d < ds.length := by omega
 obtain ⟨n, w, hn, hw, e1, e2, eb, b0, b8, o1⟩ := ctx_dev c hdl
 rw [lAt_nat _ _ _ hdl, e1, if_neg (by omega), lAt_nat _ _ _ hn, e2, if_neg (by omega), e30 c hdl, Option.bind_some]
 simp only [Int.toNat_natCast]
 rw [if_pos (may_text c hdl).2]
theorem rp_beq (x r : RP) : (x.1 == r.1 && (x.2.1 == r.2.1 && (x.2.2.1 == r.2.2.1 && true))) = decide (x = r) := by
 rw [Bool.eq_iff_iff]
 simp only [Bool.and_eq_true, beq_iff_eq, decide_eq_true_eq, ty0_eq, and_true]
theorem mem_faults (v : VW) (k : Int) (r : RP) : r ∈ faultsK v k ↔ mayV v k = true ∧ ∃ w ≤ mostV k, withV v k w = r := by
 unfold faultsK
 by_cases h : mayV v k = true
 ·rw [if_pos h, List.mem_map]
  constructor
  ·rintro ⟨w, hw, e⟩
   exact ⟨h, w, by have := List.mem_range.1 hw; omega, e⟩
  ·rintro ⟨_, w, hw, e⟩
   exact ⟨w, List.mem_range.2 (by omega), e⟩
 ·rw [if_neg h]
  constructor
  ·intro h'; cases h'
  ·intro h'; exact absurd h'.1 h
end
theorem u8n {n : Nat} (h : n < 256) : (UInt8.ofNat n).toNat = n := by
 show n % 256 = n
 omega
theorem fmtP_dig (p : Dv) : ∀ b ∈ fmtP p, 48 ≤ b.toNat ∧ b.toNat ≤ 57 := by
 intro b hb
 unfold fmtP toBytes at hb
 obtain ⟨y, hy, rfl⟩ := List.mem_map.1 hb
 have := sfx_dig _ _ y hy
 have e := u8n (n := (y.1 : Int).toNat) (by omega)
 exact ⟨by rw [e]; omega, by rw [e]; omega⟩
theorem set_ne {t : List UInt8} {j : Nat} (hj : j < t.length) {x : Int} (hx : 0 ≤ x ∧ x ≤ 255) (hne : x ≠ (t[j].toNat : Int)) : toBytes ((ofBytes t).set j (x, ())) ≠ t := by
 intro h
 have hl : j < (ofBytes t).length := by have e : (ofBytes t).length = t.length := List.length_map ..; omega
 have h2 : (toBytes ((ofBytes t).set j (x, ())))[j]? = t[j]? := by rw [h]
 have h3 : (toBytes ((ofBytes t).set j (x, ())))[j]? = some (UInt8.ofNat x.toNat) := by
  have e3 : ((ofBytes t).set j (x, ()))[j]? = some (x, ()) := List.getElem?_set_self hl
  exact (List.getElem?_map ..).trans (congrArg (Option.map _) e3)
 rw [h3, List.getElem?_eq_getElem hj] at h2
 have h4 := congrArg UInt8.toNat (Option.some.inj h2)
 rw [u8n (by omega)] at h4
 omega
theorem wrong_ne {c : Int} (hc : 48 ≤ c ∧ c ≤ 57) : wrongC c ≠ c ∧ 0 ≤ wrongC c ∧ wrongC c ≤ 255 := by
 have key : ∀ k : Fin 10, wrongC (48 + (k.val : Int)) ≠ 48 + (k.val : Int) ∧ 0 ≤ wrongC (48 + (k.val : Int)) ∧ wrongC (48 + (k.val : Int)) ≤ 255 := by decide
 have := key ⟨(c - 48).toNat, by omega⟩
 have e : (48 + (((c - 48).toNat : Nat) : Int)) = c := by omega
 simp only [e] at this
 exact this
theorem with_mem {v : VW} {k : Int} {w : Nat} (hk : 3 ≤ k ∧ k ≤ 6) (hw : w ≤ mostV k) (hm : mayV v k = true) : withV v k w ∈ faultsV v := by
 have h1 : withV v k w ∈ faultsK v k := by
  unfold faultsK
  rw [if_pos hm]
  exact List.mem_map.2 ⟨w, List.mem_range.2 (by omega), rfl⟩
 unfold faultsV
 have : k = 3 ∨ k = 4 ∨ k = 5 ∨ k = 6 := by omega
 rcases this with rfl | rfl | rfl | rfl
 ·exact List.mem_append.2 (.inl h1)
 ·exact List.mem_append.2 (.inr (List.mem_append.2 (.inl h1)))
 ·exact List.mem_append.2 (.inr (List.mem_append.2 (.inr (List.mem_append.2 (.inl h1)))))
 ·exact List.mem_append.2 (.inr (List.mem_append.2 (.inr (List.mem_append.2 (.inr h1)))))
theorem with_ne {v : VW} {k : Int} {w : Nat} (hk : 3 ≤ k ∧ k ≤ 6) (hw : w ≤ mostV k) (hm : mayV v k = true) (ht : v.2.2.2.1 = [] ∨ v.2.2.2.1.length = 10) (hd : ∀ b ∈ v.2.2.2.1, 48 ≤ b.toNat ∧ b.toNat ≤ 57) : withV v k w ≠ rightV v := by
 intro h
 have h2 : (withV v k w).2.1 = (rightV v).2.1 := by rw [h]
 have h3 : (withV v k w).2.2.1 = (rightV v).2.2.1 := by rw [h]
 have : k = 3 ∨ k = 4 ∨ k = 5 ∨ k = 6 := by omega
 rcases this with rfl | rfl | h5
 ·have hm' : (v.2.2.1 != 0) = true := hm
  have h2' : false = (v.2.2.1 != 0) := h2
  rw [hm'] at h2'
  cases h2'
 ·have hm' : (v.2.1 == 1 && v.2.2.1 == 0) = true := hm
  have h2' : true = (v.2.2.1 != 0) := h2
  simp only [Bool.and_eq_true, beq_iff_eq] at hm'
  rw [hm'.2] at h2'
  cases h2'
 ·have hk3 : k ≠ 3 := by omega
  have hk4 : k ≠ 4 := by omega
  have hm' := hm
  unfold mayV at hm'
  rw [if_neg hk3, if_neg hk4] at hm'
  simp only [Bool.and_eq_true, beq_iff_eq, bne_iff_ne, ne_eq, Bool.not_eq_true', beq_eq_false_iff_ne] at hm'
  have hr : (rightV v).2.2.1 = v.2.2.2.1 := by
   unfold rightV
   simp only
   rw [if_pos (by simp [hm'.1, hm'.2.1])]
  have hlen : v.2.2.2.1.length = 10 := ht.resolve_left hm'.2.2
  have h9 : mostV k = 9 := by unfold mostV; rw [if_pos (by omega)]
  have hj : w < v.2.2.2.1.length := by omega
  have hdj := hd _ (List.getElem_mem hj)
  rw [hr] at h3
  unfold withV at h3
  rw [if_neg hk3, if_neg hk4] at h3
  by_cases e5 : k = 5
  ·rw [if_pos e5] at h3
   exact set_ne hj (x := 63) (by omega) (by omega) h3
  ·rw [if_neg e5] at h3
   have hg : ((ofBytes v.2.2.2.1).getD w (0, ())).1 = ((v.2.2.2.1[w].toNat : Nat) : Int) := by
    have e3 : (ofBytes v.2.2.2.1)[w]? = some ((v.2.2.2.1[w].toNat : Int), ()) := (List.getElem?_map ..).trans (by rw [List.getElem?_eq_getElem hj]; rfl)
    have e4 : (ofBytes v.2.2.2.1).getD w (0, ()) = (((v.2.2.2.1[w].toNat : Nat) : Int), ()) := by show ((ofBytes v.2.2.2.1)[w]?).getD (0, ()) = _; exact (congrArg (fun o => Option.getD o ((0 : Int), ())) e3)
    rw [e4]
   have hw2 := wrong_ne (c := ((v.2.2.2.1[w].toNat : Nat) : Int)) (by omega)
   rw [hg] at h3
   exact set_ne hj hw2.2 hw2.1 h3
theorem cost_with {v : VW} {k : Int} {w : Nat} (hk : 3 ≤ k ∧ k ≤ 6) (hw : w ≤ mostV k) (hm : mayV v k = true) (ht : v.2.2.2.1 = [] ∨ v.2.2.2.1.length = 10) (hd : ∀ b ∈ v.2.2.2.1, 48 ≤ b.toNat ∧ b.toNat ≤ 57) : costV v (withV v k w) = (1, true, ()) := by
 unfold costV
 rw [if_neg (with_ne hk hw hm ht hd), if_pos (with_mem hk hw hm)]
section
variable {N gate : Nat} {ns : List Nd} {ds : List Dv} {slots bins : LL} {pl : List Dv}
theorem view_dig (c : Ctx N gate ns ds slots bins pl) {d : Nat} (hd : d < ds.length) : ∀ b ∈ (viewV ds slots pl d).2.2.2.1, 48 ≤ b.toNat ∧ b.toNat ≤ 57 := by
 intro b hb
 have hb : b ∈ textV ds slots pl d := hb
 by_cases h0 : bagV ds slots d = 0
 ·unfold textV at hb
  rw [if_pos h0] at hb
  cases hb
 ·obtain ⟨_, _, ht, _⟩ := ctx_plate c hd h0
  rw [ht] at hb
  exact fmtP_dig _ b hb
def hits (fs : List Dv) (d : Nat) : Nat → Bool
 | 0 => false
 | q + 1 => (fs.getD q (0, 0, 0, ())).2.1 == (d : Int) || hits fs d q
theorem rep_cost (c : Ctx N gate ns ds slots bins pl) {fs : List Dv} (hok : ∀ f ∈ fs, errF ds slots pl f = 0) {d : Nat} (hd : d < ds.length) : ∀ q, q ≤ fs.length →
  costV (viewV ds slots pl d) (repQ ds slots pl fs q d) = ((if hits fs d q = true then 1 else 0), true, ())
 | 0, _ => by
  unfold costV repQ hits
  rw [if_pos rfl]; rfl
 | q + 1, hq => by
  have hq' : q < fs.length := by omega
  have hg : fs.getD q (0, 0, 0, ()) = fs[q] := by rw [List.getD, List.getElem?_eq_getElem hq']; rfl
  unfold repQ hits
  by_cases h : (fs.getD q (0, 0, 0, ())).2.1 = (d : Int)
  ·rw [if_pos h]
   have he := err_ok (hok _ (List.getElem_mem hq'))
   rw [hg] at h ⊢
   obtain ⟨k3, k6, n0, nl, w0, w9, hm⟩ := he
   have hdn : (fs[q].2.1).toNat = d := by omega
   rw [hdn] at hm
   have hb : ((fs[q].2.1 == (d : Int)) || hits fs d q) = true := by rw [h]; simp
   rw [cost_with ⟨k3, k6⟩ (by omega) hm (may_text c hd).2 (view_dig c hd), if_pos hb]
  ·rw [if_neg h, rep_cost c hok hd q (by omega)]
   have hb : ((fs.getD q (0, 0, 0, ())).2.1 == (d : Int)) = false := by simpa using h
   rw [hb, Bool.false_or]
end
theorem hits_spec {fs : List Dv} {d : Nat} : ∀ q, q ≤ fs.length → hits fs d q = true → ∃ (j : Nat) (hj : j < fs.length), j < q ∧ fs[j].2.1 = (d : Int)
 | 0, _, h => by cases h
 | q + 1, hq, h => by
  have hq' : q < fs.length := by omega
  have hg : fs.getD q (0, 0, 0, ()) = fs[q] := by rw [List.getD, List.getElem?_eq_getElem hq']; rfl
  unfold hits at h
  rw [hg, Bool.or_eq_true] at h
  rcases h with h | h
  ·exact ⟨q, hq', by omega, by simpa using h⟩
  ·obtain ⟨j, hj, h1, h2⟩ := hits_spec q (by omega) h
   exact ⟨j, hj, by omega, h2⟩
theorem hits_count {fs : List Dv} {n : Nat} (hn : ∀ f ∈ fs, 0 ≤ f.2.1 ∧ f.2.1 < (n : Int)) (nd : fs.Pairwise fun a b => a.2.1 ≠ b.2.1) : ∀ q, q ≤ fs.length → (List.range n).countP (fun d => hits fs d q) = q
 | 0, _ => by
  rw [List.countP_eq_zero]
  intro d _
  simp [hits]
 | q + 1, hq => by
  have hq' : q < fs.length := by omega
  have hg : fs.getD q (0, 0, 0, ()) = fs[q] := by rw [List.getD, List.getElem?_eq_getElem hq']; rfl
  have hr := hn _ (List.getElem_mem hq')
  have h1 : (fs[q].2.1 == (((fs[q].2.1).toNat : Nat) : Int)) = true := by rw [beq_iff_eq]; omega
  rw [count_one (f := fun d => hits fs d (q + 1)) (g := fun d => hits fs d q) (i := (fs[q].2.1).toNat) (by simp only [hits, hg, h1, Bool.true_or]) ?_ ?_ n (by omega), hits_count hn nd q (by omega)]
  ·cases hh : hits fs (fs[q].2.1).toNat q with
   | false => rfl
   | true =>
    obtain ⟨j, hj, h2, h3⟩ := hits_spec q (by omega) hh
    have := List.pairwise_iff_getElem.1 nd j q hj hq' h2
    exact absurd (by omega) this
  ·intro d hd
   have : (fs[q].2.1 == (d : Int)) = false := by simp only [beq_eq_false_iff_ne, ne_eq]; omega
   simp only [hits, hg, this, Bool.false_or]
theorem obs_ok {ds : List Dv} {slots : LL} {pl fs : List Dv} {n : Nat} (hn : n ≤ 4) (hg : GlG ds slots pl fs n) : obsV ds slots pl fs = (repsV ds slots pl fs, 0, ()) := by
 unfold obsV
 rw [if_neg (by have := hg.len; omega)]
 have h1 : fs.find? (fun f => errF ds slots pl f != 0) = none := by
  rw [List.find?_eq_none]
  intro f hf
  rw [hg.ok f hf]
  decide
 rw [h1]
 simp only
 have h2 : (List.range fs.length).all (fun i => !dupAt fs i) = true := by
  rw [List.all_eq_true]
  intro i hi
  have hi := List.mem_range.1 hi
  have : dupAt fs i = false := by
   unfold dupAt
   rw [List.any_eq_false]
   intro g hgm
   obtain ⟨j, hj, e⟩ := List.mem_iff_getElem.1 hgm
   rw [List.length_take] at hj
   have := List.pairwise_iff_getElem.1 hg.nd j i (by omega) hi (by omega)
   rw [List.getElem_take] at e
   rw [← e, List.getD, List.getElem?_eq_getElem hi]
   simp only [Option.getD_some, beq_iff_eq]
   exact fun h => this h.symm
  rw [this]; rfl
 rw [if_pos h2]
def totN (fs : List Dv) (d : Nat) : Nat := (List.range d).countP fun d => hits fs d fs.length
theorem law5 (x : IL × Unit) (e7 : sp7 () = some (true, ())) : sp5 x = some (true, ()) := by
 obtain ⟨l, ⟨⟩⟩ := x
 show sh5 100000 l = _
 unfold sh5
 obtain ⟨s0, h0, k0⟩ := e8 l
 obtain ⟨N, gate, ns, ds, s1, h1, k1, hlay, hdev⟩ := e9 k0
 obtain ⟨slots, bins, s2, h2, k2, hpl⟩ := e10 hlay ds 8 (by decide) (by decide) k1
 obtain ⟨pl, s3, h3, k3, hnum⟩ := e11 k2
 have c : Ctx N gate ns ds slots bins pl := ⟨hlay, hdev, hpl, hnum⟩
 obtain ⟨fs, s4, h4, k4, hgl⟩ := e12 c k3
 have hdl := hdev.len
 have hfl := hgl.len
 rw [h0, Option.bind_some, h1, Option.bind_some]
 simp only
 rw [h2, Option.bind_some]
 simp only
 rw [h3, Option.bind_some]
 simp only
 rw [h4, Option.bind_some]
 simp only
 rw [e14 c fs (by omega), Option.bind_some, obs_ok (by decide) hgl]
 have hrl : (repsV ds slots pl fs).length = ds.length := by unfold repsV; simp
 simp only [joinK]
 rw [if_neg (by decide), hrl]
 simp only [sh5_K6, joinK, bne_self_eq_false, Bool.false_eq_true, if_false]
 have hcount := hits_count (fs := fs) (n := ds.length) (fun f hf => by have := err_ok (hgl.ok f hf); exact ⟨this.2.2.1, this.2.2.2.1⟩) hgl.nd fs.length (Nat.le_refl _)
 have htle : ∀ d, totN fs d ≤ d := fun d => by unfold totN; exact Nat.le_trans List.countP_le_length (by simp)
 refine iter_count (F := sh5_L12 sh5_K7) (fun d : Nat => (pl, fs, repsV ds slots pl fs, (totN fs d : Int), (d : Int), (ns, ds, ()), (slots, bins, ()), ())) ds.length 100000 (by omega) (fun rc d hd => ?_) (fun rc => ?_)
 ·have hup : IntKind.i64.wrap ((d : Int) + 1) = ((d + 1 : Nat) : Int) := wrapI (by omega) (by omega)
  have hd' : d < (repsV ds slots pl fs).length := by omega
  have hrep : (repsV ds slots pl fs)[d] = repQ ds slots pl fs fs.length d := (List.getElem_map ..).trans (by rw [List.getElem_range])
  have h1st : (repQ ds slots pl fs fs.length d).1 = (d : Int) := by
   have : ∀ q, (repQ ds slots pl fs q d).1 = (d : Int) := by
    intro q
    induction q with
    | zero => rfl
    | succ q ih =>
     unfold repQ
     split
     ·unfold withV
      split
      ·rfl
      split
      ·rfl
      split <;> rfl
     ·exact ih
   exact this _
  have hcost : costR ds slots pl (repQ ds slots pl fs fs.length d) = ((if hits fs d fs.length = true then 1 else 0), true, ()) := by
   unfold costR
   rw [if_neg (by rw [h1st]; omega), h1st, Int.toNat_natCast]
   exact rep_cost c hgl.ok hd _ (Nat.le_refl _)
  have hsucc : totN fs (d + 1) = totN fs d + (if hits fs d fs.length = true then 1 else 0) := by
   unfold totN
   rw [List.range_succ, List.countP_append, List.countP_singleton]
  simp only [sh5_L12, joinK]
  rw [if_pos (decide_eq_true (by rw [hrl]; omega)), if_pos (inR_nat hd'), lAt_nat _ _ _ hd', hrep, e20 c, Option.bind_some, hcost]
  simp only [Bool.not_true, Bool.false_eq_true, if_false]
  rw [if_pos (inR_nat hd')]
  simp only [sh5_K14, h1st, bne_self_eq_false, Bool.false_eq_true, if_false, hup]
  have ht := htle d
  have hw : IntKind.i64.wrap ((totN fs d : Int) + (if hits fs d fs.length = true then 1 else 0)) = (totN fs (d + 1) : Int) := by
   rw [hsucc]
   split
   ·rw [wrapI (by omega) (by omega)]; omega
   ·rw [wrapI (by omega) (by omega)]; omega
  rw [hw]
 ·simp only [sh5_L12]
  rw [if_neg (by rw [hrl]; simp)]
  simp only [sh5_K7, joinK]
  have : totN fs ds.length = fs.length := hcount
  rw [this, if_pos (by simp), e7]
  rfl
end Go.Proofs.YtjpikgfknnamjaaDoor
