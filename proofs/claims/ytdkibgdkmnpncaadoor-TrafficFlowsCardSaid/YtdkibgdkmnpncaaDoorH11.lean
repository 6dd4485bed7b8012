import Derived.Test.YtdkibgdkmnpncaaDoorH10
open Go Go.Proofs Go.Abs Go.RowKit Go.Shelf Go.Deep
set_option linter.unusedVariables false
set_option maxRecDepth 100000
namespace Go.Proofs.YtdkibgdkmnpncaaDoor
theorem Sd {w : World} {D : Abs.Names} {L : ez} {v : Value} (h : Slot w D (.agg (ka.cF L)) v) : Slot w NN (.agg (ka.cF L)) v := by
 obtain ⟨vs, rfl, hl, hc⟩ := h
 refine ⟨vs, rfl, hl, fun i x hx => ?_⟩
 match i, hx with
 | 0, hx => cases hx; exact ⟨nW (D := D) (hc 0 _ rfl).1 (Below.refl _ _), (hc 0 _ rfl).2⟩
 | 1, hx => cases hx; exact ⟨nW (D := D) (hc 1 _ rfl).1 (Below.refl _ _), (hc 1 _ rfl).2⟩
theorem Sc {w : World} {D : Abs.Names} {P : jv} {v : Value} (h : Slot w D (.agg (HH.cF P)) v) : ∃ s b, v = .agg #[s, b] ∧ cU w (Names.M NN) ((Ty.sl (.cons (.sl (.cons (.int .i64) .nil)) .nil)).av P.1) s ∧ cU w (Names.M NN) ((Ty.sl (.cons (.sl (.cons (.int .i64) .nil)) .nil)).av P.2.1) b := by
 obtain ⟨vs, rfl, hl, hc⟩ := h
 match vs, hl with
 | [s, b], _ => exact ⟨s, b, rfl, nW (D := D) (hc 0 _ rfl).1 (Below.refl _ _), nW (D := D) (hc 1 _ rfl).1 (Below.refl _ _)⟩
theorem I4 {w : World} {L : ez} {v : Value} (h : Slot w NN (.agg (ka.cF L)) v) : ∃ a cap da dl dc, v = .agg #[.slice a L.1.length cap, .slice da dl dc] := by
 obtain ⟨vs, rfl, hl, hc⟩ := h
 match vs, hl with
 | [n, d], _ =>
  have h0 : cU w (Names.M NN) ((Ty.sl BF).av L.1) n := (hc 0 _ rfl).1
  have h1 : cU w (Names.M NN) ((Ty.sl lT).av L.2.1) d := (hc 1 _ rfl).1
  obtain ⟨a, cap, rfl, _⟩ := nX (n := L.1.length) h0 (List.length_map ..)
  obtain ⟨da, dc, rfl, _⟩ := nX (n := L.2.1.length) h1 (List.length_map ..)
  exact ⟨a, cap, da, _, dc, rfl⟩
theorem Vw {w : World} (hg : GR w) {L : ez} {P : jv} {c : ft} {fs : List rG} {n : Int} {lv sv bv cv fv : Value} (hl : Slot w NN (.agg (ka.cF L)) lv) (hsl : cU w (Names.M NN) ((Ty.sl (.cons (.sl (.cons (.int .i64) .nil)) .nil)).av P.1) sv)
  (hbn : cU w (Names.M NN) ((Ty.sl (.cons (.sl (.cons (.int .i64) .nil)) .nil)).av P.2.1) bv) (hc : cU w (Names.M NN) ((Ty.sl (.cons (.int .i64) .nil)).av c) cv) (hf : cU w (Names.M NN) ((Ty.sl lT).av fs) fv) {r : Int} (h : SF L P c fs n = some (r, ())) :
  Calls Tryd.prog 21 #[lv, .agg #[sv, bv], cv, fv, .int .i64 n] w fun e w' => e = .returned (.int .i64 r) ∧ Below w.heap.size w w' := by
 obtain ⟨na, nc, da, dl, dc, rfl⟩ := I4 hl
 obtain ⟨na', nc', dv', hlv, hncap, hnlim, hnode⟩ := Ll hl
 obtain ⟨⟨rfl, rfl⟩, _⟩ : (na = na' ∧ nc = nc') ∧ _ := by simpa using hlv
 obtain ⟨ca, cc, rfl, hccap, hclim, hcc⟩ := Ep hc
 obtain ⟨sa, sc, rfl, hscap, hslim, hss⟩ := J2 hsl
 obtain ⟨ba, bc, rfl, hbcap, hblim, hbb⟩ := J2 hbn
 unfold SF at h
 split at h
 case isFalse => cases h
 rename_i hn
 obtain ⟨k, rfl⟩ : ∃ k : Nat, n = k := ⟨n.toNat, by omega⟩
 simp only [Int.toNat_natCast] at h hn
 split at h
 case isFalse => cases h
 rename_i hk
 obtain ⟨nb, no, s0, z3, ea, el, ec, rfl, hnb, h0, h1, h2, h3, h4⟩ := hnode k hn.2
 obtain ⟨cb, co, rfl, hcb, hcv⟩ := hcc k hk.1
 obtain ⟨sb, so, tv, rfl, hsb, hsv, htv⟩ := hss k hk.2.1
 obtain ⟨bb, bo, uv, rfl, hbb, hbv, huv⟩ := hbb k hk.2.2
 split at h
 ·rename_i h7
  obtain ⟨⟨b, ⟨⟩⟩, hs, h⟩ := Option.bind_eq_some_iff.1 h
  cases h
  obtain ⟨va, vc, rfl, _⟩ := nX (n := (P.2.1.getD k ([], ())).1.length) huv (List.length_map ..)
  rw [h7] at h1
  exact C8 hg h0 h1 h2 h3 h4 hnb hn.2 hk.2.2 hk.1 hnlim hblim hclim hncap hbcap hccap hbv hbb huv hcv hcb hs
 ·rename_i h7
  have h7' : ((L.1.getD k ([], 0, 0, 0, [], ())).2.1 == 7) = false := by simpa using h7
  split at h
  ·rename_i hst
   cases h
   exact CZ (cl := 0) hg h0 h1 h2 h3 h4 hnb hn.2 hnlim hncap h7' hst
  ·rename_i hst
   have hst : (decide (1 ≤ (L.1.getD k ([], 0, 0, 0, [], ())).2.1) && decide ((L.1.getD k ([], 0, 0, 0, [], ())).2.1 ≤ 6)) = true := by simpa only [Bool.not_eq_false] using hst
   split at h
   ·rename_i hcn
    cases h
    rw [hcn] at hcv
    exact GS (cl := c.length) hg h0 h1 h2 h3 h4 hnb hn.2 hnlim hncap h7' hst hk.1 hclim hccap hcv hcb
   ·rename_i hcn
    split at h
    case isFalse => cases h
    rename_i hlen
    obtain ⟨⟨A, ⟨⟩⟩, hs, h⟩ := Option.bind_eq_some_iff.1 h
    simp only at h
    split at h
    case isFalse => cases h
    rename_i hA
    cases h
    obtain ⟨ta, tc, rfl, htcap, htlim, htc⟩ := Ep htv
    have hm : (L.1.getD k ([], 0, 0, 0, [], ())).2.2.1.toNat - 1 < (P.1.getD k ([], ())).1.length := by omega
    obtain ⟨tb, to, rfl, htb, htcell⟩ := htc _ hm
    exact K4 hg hl hf h0 h1 h2 h3 h4 hnb hn.2 hnlim hncap h7' hst hk.1 hclim hccap hcv hcb (by simpa using hcn) (m := (L.1.getD k ([], 0, 0, 0, [], ())).2.2.1.toNat - 1) (by rw [ch (by omega) (by omega)]; omega) (by omega) hs (show A.length = _ by omega) rfl hk.2.1 hslim hscap hsv hsb hm htlim htcap htcell htb
open Classical in
theorem V7 : TC Tryd.prog 21 ⟨ZH, JR⟩ := by
 rintro ⟨L, P, c, fs, n, ⟨⟩⟩ ⟨r, ⟨⟩⟩ h
 intro w D vs hm hv
 obtain ⟨hl, hs⟩ := hv
 match vs, hl with
 | [x0, x1, x2, x3, x4], _ =>
  have h0 : Slot w D (.agg (ka.cF L)) x0 := hs 0 _ rfl
  have h1 : Slot w D (.agg (HH.cF P)) x1 := hs 1 _ rfl
  have h2 : cU w D.M ((Ty.sl (.cons (.int .i64) .nil)).av c) x2 := hs 2 _ rfl
  have h3 : cU w D.M ((Ty.sl lT).av fs) x3 := hs 3 _ rfl
  have h4 : cU w D.M (.int .i64 n) x4 := hs 4 _ rfl
  obtain ⟨s, b, rfl, hs1, hs2⟩ := Sc h1
  rw [mY h4]
  exact (Vw (Q9 hm) (Sd h0) hs1 hs2 (nW (D := D) h2 (Below.refl _ _)) (nW (D := D) h3 (Below.refl _ _)) h).mono fun e w' ⟨he, hbel⟩ => ⟨_, D, he, GY hm hbel, cU.int _ _, fun _ _ h => h⟩
end Go.Proofs.YtdkibgdkmnpncaaDoor
