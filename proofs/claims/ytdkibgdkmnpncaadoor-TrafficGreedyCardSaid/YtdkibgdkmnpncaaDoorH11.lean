import Derived.Test.YtdkibgdkmnpncaaDoorH10
open Go Go.Proofs Go.Abs Go.RowKit Go.Shelf Go.Deep
set_option linter.unusedVariables false
set_option maxRecDepth 100000
namespace Go.Proofs.YtdkibgdkmnpncaaDoor
theorem slot6 {w : World} {D : Abs.Names} {L : Ty6} {v : Value} (h : Slot w D (.agg (ty6.avs L)) v) : Slot w NN (.agg (ty6.avs L)) v := by
 obtain ⟨vs, rfl, hl, hc⟩ := h
 refine ⟨vs, rfl, hl, fun i x hx => ?_⟩
 match i, hx with
 | 0, hx => cases hx; exact ⟨imm_nn (D := D) (hc 0 _ rfl).1 (Below.refl _ _), (hc 0 _ rfl).2⟩
 | 1, hx => cases hx; exact ⟨imm_nn (D := D) (hc 1 _ rfl).1 (Below.refl _ _), (hc 1 _ rfl).2⟩
theorem slot4 {w : World} {D : Abs.Names} {P : Ty4} {v : Value} (h : Slot w D (.agg (ty4.avs P)) v) : ∃ s b, v = .agg #[s, b] ∧ Imm w (Names.M NN) ((Ty.sl (.cons (.sl (.cons (.int .i64) .nil)) .nil)).av P.1) s ∧ Imm w (Names.M NN) ((Ty.sl (.cons (.sl (.cons (.int .i64) .nil)) .nil)).av P.2.1) b := by
 obtain ⟨vs, rfl, hl, hc⟩ := h
 match vs, hl with
 | [s, b], _ => exact ⟨s, b, rfl, imm_nn (D := D) (hc 0 _ rfl).1 (Below.refl _ _), imm_nn (D := D) (hc 1 _ rfl).1 (Below.refl _ _)⟩
theorem node_at2 {w : World} {L : Ty6} {v : Value} (h : Slot w NN (.agg (ty6.avs L)) v) : ∃ a cap da dl dc, v = .agg #[.slice a L.1.length cap, .slice da dl dc] := by
 obtain ⟨vs, rfl, hl, hc⟩ := h
 match vs, hl with
 | [n, d], _ =>
  have h0 : Imm w (Names.M NN) ((Ty.sl ty3).av L.1) n := (hc 0 _ rfl).1
  have h1 : Imm w (Names.M NN) ((Ty.sl ty1).av L.2.1) d := (hc 1 _ rfl).1
  obtain ⟨a, cap, rfl, _⟩ := imm_sl (n := L.1.length) h0 (List.length_map ..)
  obtain ⟨da, dc, rfl, _⟩ := imm_sl (n := L.2.1.length) h1 (List.length_map ..)
  exact ⟨a, cap, da, _, dc, rfl⟩
theorem kc21 {w : World} (hg : GR w) {L : Ty6} {P : Ty4} {c : IntL} {fs : List Ty1} {n : Int} {lv sv bv cv fv : Value} (hl : Slot w NN (.agg (ty6.avs L)) lv) (hsl : Imm w (Names.M NN) ((Ty.sl (.cons (.sl (.cons (.int .i64) .nil)) .nil)).av P.1) sv)
  (hbn : Imm w (Names.M NN) ((Ty.sl (.cons (.sl (.cons (.int .i64) .nil)) .nil)).av P.2.1) bv) (hc : Imm w (Names.M NN) ((Ty.sl (.cons (.int .i64) .nil)).av c) cv) (hf : Imm w (Names.M NN) ((Ty.sl ty1).av fs) fv) {r : Int} (h : v21 L P c fs n = some (r, ())) :
  Calls Tryd.prog 21 #[lv, .agg #[sv, bv], cv, fv, .int .i64 n] w fun e w' => e = .returned (.int .i64 r) ∧ Below w.heap.size w w' := by
 obtain ⟨na, nc, da, dl, dc, rfl⟩ := node_at2 hl
 obtain ⟨na', nc', dv', hlv, hncap, hnlim, hnode⟩ := node_at hl
 obtain ⟨⟨rfl, rfl⟩, _⟩ : (na = na' ∧ nc = nc') ∧ _ := by simpa using hlv
 obtain ⟨ca, cc, rfl, hccap, hclim, hcc⟩ := inAt_of hc
 obtain ⟨sa, sc, rfl, hscap, hslim, hss⟩ := tab_at hsl
 obtain ⟨ba, bc, rfl, hbcap, hblim, hbb⟩ := tab_at hbn
 unfold v21 at h
 split at h
 case isFalse => cases h
 rename_i hn
 obtain ⟨k, rfl⟩ : ∃ k : Nat, n = k := ⟨n.toNat, by omega⟩
 simp only [Int.toNat_natCast] at h hn
 split at h
 case isFalse => cases h
 rename_i hk
 obtain ⟨nb, no, s0, z3, ea, el, ec, rfl, hnb, h0, h1, h2, h3, h4⟩ := hnode k hn.2
 obtain ⟨cb, co, rfl, hcb, hcv⟩ := hcc k hk.1
 obtain ⟨sb, so, tv, rfl, hsb, hsv, htv⟩ := hss k hk.2.1
 obtain ⟨bb, bo, uv, rfl, hbb, hbv, huv⟩ := hbb k hk.2.2
 split at h
 ·rename_i h7
  obtain ⟨⟨b, ⟨⟩⟩, hs, h⟩ := Option.bind_eq_some_iff.1 h
  cases h
  obtain ⟨va, vc, rfl, _⟩ := imm_sl (n := (P.2.1.getD k ([], ())).1.length) huv (List.length_map ..)
  rw [h7] at h1
  exact last_store hg h0 h1 h2 h3 h4 hnb hn.2 hk.2.2 hk.1 hnlim hblim hclim hncap hbcap hccap hbv hbb huv hcv hcb hs
 ·rename_i h7
  have h7' : ((L.1.getD k ([], 0, 0, 0, [], ())).2.1 == 7) = false := by simpa using h7
  split at h
  ·rename_i hst
   cases h
   exact last_other (cl := 0) hg h0 h1 h2 h3 h4 hnb hn.2 hnlim hncap h7' hst
  ·rename_i hst
   have hst : (decide (1 ≤ (L.1.getD k ([], 0, 0, 0, [], ())).2.1) && decide ((L.1.getD k ([], 0, 0, 0, [], ())).2.1 ≤ 6)) = true := by simpa only [Bool.not_eq_false] using hst
   split at h
   ·rename_i hcn
    cases h
    rw [hcn] at hcv
    exact last_stay (cl := c.length) hg h0 h1 h2 h3 h4 hnb hn.2 hnlim hncap h7' hst hk.1 hclim hccap hcv hcb
   ·rename_i hcn
    split at h
    case isFalse => cases h
    rename_i hlen
    obtain ⟨⟨A, ⟨⟩⟩, hs, h⟩ := Option.bind_eq_some_iff.1 h
    simp only at h
    split at h
    case isFalse => cases h
    rename_i hA
    cases h
    obtain ⟨ta, tc, rfl, htcap, htlim, htc⟩ := inAt_of htv
    have hm : (L.1.getD k ([], 0, 0, 0, [], ())).2.2.1.toNat - 1 < (P.1.getD k ([], ())).1.length := by omega
    obtain ⟨tb, to, rfl, htb, htcell⟩ := htc _ hm
    exact last_go hg hl hf h0 h1 h2 h3 h4 hnb hn.2 hnlim hncap h7' hst hk.1 hclim hccap hcv hcb (by simpa using hcn) (m := (L.1.getD k ([], 0, 0, 0, [], ())).2.2.1.toNat - 1) (by rw [wrapI (by omega) (by omega)]; omega) (by omega) hs (show A.length = _ by omega) rfl hk.2.1 hslim hscap hsv hsb hm htlim htcap htcell htb
open Classical in
theorem tc21 : TC Tryd.prog 21 ⟨g21, sp21⟩ := by
 rintro ⟨L, P, c, fs, n, ⟨⟩⟩ ⟨r, ⟨⟩⟩ h
 intro w D vs hm hv
 obtain ⟨hl, hs⟩ := hv
 match vs, hl with
 | [x0, x1, x2, x3, x4], _ =>
  have h0 : Slot w D (.agg (ty6.avs L)) x0 := hs 0 _ rfl
  have h1 : Slot w D (.agg (ty4.avs P)) x1 := hs 1 _ rfl
  have h2 : Imm w D.M ((Ty.sl (.cons (.int .i64) .nil)).av c) x2 := hs 2 _ rfl
  have h3 : Imm w D.M ((Ty.sl ty1).av fs) x3 := hs 3 _ rfl
  have h4 : Imm w D.M (.int .i64 n) x4 := hs 4 _ rfl
  obtain ⟨s, b, rfl, hs1, hs2⟩ := slot4 h1
  rw [imm_int h4]
  exact (kc21 (gr_of hm) (slot6 h0) hs1 hs2 (imm_nn (D := D) h2 (Below.refl _ _)) (imm_nn (D := D) h3 (Below.refl _ _)) h).mono fun e w' ⟨he, hbel⟩ => ⟨_, D, he, mem_below hm hbel, Imm.int _ _, fun _ _ h => h⟩
end Go.Proofs.YtdkibgdkmnpncaaDoor
