import Derived.Test.YtdkibgdkmnpncaaDoorH5
open Go Go.Proofs Go.Abs Go.RowKit
set_option linter.unusedVariables false
set_option maxRecDepth 100000
namespace Go.Proofs.YtdkibgdkmnpncaaDoor
noncomputable def Qz : Code := yU (yU Ko)
noncomputable def R9 : Code := yQ (yQ (yU Ko))
theorem NU : KG = .seq (yQ KG) (.seq (yQ (yU KG)) (.seq (yQ (yU (yU KG))) (.seq (yQ Ko) (.seq (.seq R9 SL) Qz)))) := by kernel_rfl
theorem PM (fuel : Nat) (z : nw.T) : exec ⟨G, 158, fuel, []⟩ lV [900000] (Ii lV [900000] wX 8) Qz (.n (.r .x) .e) (nw.enc z) (GH ⟨G, 158, fuel, []⟩ Q4 [.cell 8 36]) = some ((z.2.2.2.2.2.2.2.2.2.2.2.1, z.2.2.2.2.2.2.2.2.2.2.2.2.1, ()), z.2.2.1, ()) := by kernel_rfl
section
variable {w0 : World} {D0 : Abs.Names}
theorem P2 (hD0 : ja [900000] D0) {R : Type} {x : Code} {h : HT} {s : SS} {kt : Exit → SS → Option R} {r : R} {Q : Exit → Act → World → Prop} (hok : uK x h = true) (he : exec ⟨G, 158, 100000, []⟩ lV [900000] (Ii lV [900000] wX 8) x h s kt = some r)
  (hq : ∀ e s' a w, kt e s' = some r → lU w0.heap.size a w → Sat w0 D0.N D0 (s'.st 158) (ext #[] a) w → Q e a w) (a : Act) (w : World) (hd : lU w0.heap.size a w) (hs : Sat w0 D0.N D0 (s.st 158) (ext #[] a) w) :
  x.wpIn (FR none) 0 Tryd.prog Q a w := by
 have hx := dq (C := ⟨G, 158, 100000, []⟩) vL gw KR wide (pins := [900000]) (xj KR wide Rr 8) 0 true x h (by rw [fc]; exact hok) (by rw [fc]; exact he)
 refine Code.wpIn_mono ?_ (hx none #[] w0 D0.N D0 a w (fun _ => rfl) rfl hD0 hd hs)
 rintro e a' w' ⟨hd', s', ⟨fs, rfl, hk⟩, hs'⟩
 exact hq e fs a' w' hk hd' hs'
noncomputable def ON {R : Type} (y : Code) (h : HT) (k : Exit → SS → Option R) (e : Exit) (s : SS) : Option R := match e with
 | .normal => exec ⟨G, 158, 100000, []⟩ lV [900000] (Ii lV [900000] wX 8) y h s k
 | e => k e s
noncomputable def xx (e : Exit) (s : SS) : Option nw.T := match e with
 | .normal => match P1.dec 158 [900000] s with
  | some z => exec ⟨G, 158, 100000, []⟩ lV [900000] (Ii lV [900000] wX 8) R9 (.ri .x [(54, 0, (.n (.r .x) (.n (.r .x) .e)))]) (P1.enc z) (KP [900000])
  | none => none
 | e => KP [900000] e s
def Vl : HT := match Rf with
 | .n _ (.n _ (.n _ (.j _ a _))) => a
 | _ => .e
theorem Tp (s : SS) : exec ⟨G, 158, 100000, []⟩ lV [900000] (Ii lV [900000] wX 8) (.seq (yQ Ko) (yQ (yQ (yU Ko)))) (.j P1 Vl (.ri .x [(54, 0, (.n (.r .x) (.n (.r .x) .e)))])) s (KP [900000]) = exec ⟨G, 158, 100000, []⟩ lV [900000] (Ii lV [900000] wX 8) (yQ Ko) Vl s xx := by
 simp only [exec, aa]
 congr 1
 funext e s
 cases e with
 | normal =>
  simp only [xx, show P1.wR = [] from rfl, iF, R9]
  cases P1.dec 158 [900000] s <;> rfl
 | _ => rfl
theorem Wb : TC Tryd.prog 29 ⟨Q4, DT⟩ := by
 rintro ⟨x0, x1, x2, x3, ⟨⟩⟩ r h
 refine qO (f := 29) (fn := Tryd.f29) (N := 158) (c := KG) Tryd.func29 (by kernel_rfl) (by kernel_rfl) (by decide) fun w D a hD0 hd hs => ?_
 obtain ⟨z, hz, h⟩ := Option.bind_eq_some_iff.1 (show (P9 100000 x0 x1 x2 x3).bind _ = some r from h)
 have hok : HM z ∧ (gq z).length ≤ 100000 := by
  by_cases hc : HM z ∧ (gq z).length ≤ 100000
  ·exact hc
  ·simp only [if_neg hc] at h; cases h
 simp only [if_pos hok] at h
 obtain ⟨zf, hzf, hr⟩ := Option.map_eq_some_iff.1 h
 have hpre := (RK 100000 x0 x1 x2 x3).trans hz
 rw [NU]
 refine wpIn_seq (P2 hD0 (h := .r .x) (kt := ON _ _ (KP [900000])) (by kernel_rfl) hpre (fun e s1 a1 w1 h1 d1 t1 => ?_) a w hd hs)
 obtain rfl : e = .normal := by cases e <;> first | rfl | exact nomatch (show (none : Option nw.T) = some z from h1)
 refine wpIn_seq (P2 hD0 (h := .r .x) (kt := ON _ _ (KP [900000])) (by kernel_rfl) h1 (fun e s2 a2 w2 h2 d2 t2 => ?_) a1 w1 d1 t1)
 obtain rfl : e = .normal := by cases e <;> first | rfl | exact nomatch (show (none : Option nw.T) = some z from h2)
 refine wpIn_seq (P2 hD0 (h := .r .x) (kt := ON _ _ (KP [900000])) (by kernel_rfl) h2 (fun e s3 a3 w3 h3 d3 t3 => ?_) a2 w2 d2 t2)
 obtain rfl : e = .normal := by cases e <;> first | rfl | exact nomatch (show (none : Option nw.T) = some z from h3)
 have h3' := (Tp s3).symm.trans h3
 refine wpIn_seq (P2 hD0 (h := Vl) (kt := xx) (by kernel_rfl) h3' (fun e s4 a4 w4 h4 d4 t4 => ?_) a3 w3 d3 t3)
 obtain rfl : e = .normal := by cases e <;> first | rfl | exact nomatch (show (none : Option nw.T) = some z from h4)
 unfold xx at h4
 simp only at h4
 split at h4
 case h_2 => cases h4
 rename_i z1 hz1
 have t5 := fZ hz1 w D.N D _ w4 hD0 t4
 refine wpIn_seq (wpIn_seq (P2 hD0 (kt := KP [900000]) (by kernel_rfl) h4 (fun e s6 a6 w6 h6 d6 t6 => ?_) a4 w4 d4 t5))
 obtain rfl : e = .normal := by cases e <;> first | rfl | exact nomatch (show (none : Option nw.T) = some z from h6)
 have h6 : nw.dec 158 [900000] s6 = some z := h6
 have t7 := fZ h6 w D.N D _ w6 hD0 t6
 refine Ol hD0 z hok.1 hok.2 a6 w6 d6 t7 _ fun z' a7 w7 hf d7 t7 => ?_
 have hzz : zf = z' := Option.some.inj (hzf.symm.trans hf)
 subst hzz
 refine P2 hD0 (h := .n (.r .x) .e) (by kernel_rfl) (PM 100000 zf) (fun e s8 a8 w8 h8 d8 t8 => ?_) a7 w7 d7 t7
 exact tW vL rfl (by kernel_rfl) hD0 d8 (h8.trans (congrArg some hr)) t8
end
end Go.Proofs.YtdkibgdkmnpncaaDoor
