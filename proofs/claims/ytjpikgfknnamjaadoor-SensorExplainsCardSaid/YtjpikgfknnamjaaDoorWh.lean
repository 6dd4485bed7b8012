import Derived.Test.YtjpikgfknnamjaaDoorHf
open Go Go.Proofs Go.Abs Go.RowKit
set_option linter.unusedVariables false
set_option maxRecDepth 100000
namespace Go.Proofs.YtjpikgfknnamjaaDoor
theorem fo44 : funOk Tryd.prog 44 = true := by kernel_rfl
theorem ft20 : FTok Tryd.prog FT20 := FTok_cons fo30 tc30 (FTok_cons fo34 tc34 FTok_nil)
theorem it20 : ITok Tryd.prog IT20 := ITok_cons (fn := Tryd.f44) fo44 Tryd.func44 (by kernel_rfl) (by kernel_rfl) (by kernel_rfl) ITok_nil
section
variable {w0 : World} {D0 : Abs.Names}
theorem goT (hD0 : PinsOk [] D0) {R : Type} {x zc : Code} {h : HT} {s : SS} {kt : Exit → SS → Option R} {r : R} {Q : Exit → Act → World → Prop} (hok : okC x h = true) (he : exec ⟨G, 74, 0, []⟩ FT20 [] (exJ FT20 [] IT20 8) x h s kt = some r)
  (hn : ∀ s' a w, kt .normal s' = some r → DefX w0.heap.size a w → Sat w0 D0.N D0 (s'.st 74) (ext #[] a) w → zc.wpIn (FR none) 0 Tryd.prog Q a w)
  (hq : ∀ e s' a w, e ≠ .normal → kt e s' = some r → DefX w0.heap.size a w → Sat w0 D0.N D0 (s'.st 74) (ext #[] a) w → Q e a w) (a : Act) (w : World) (hd : DefX w0.heap.size a w) (hs : Sat w0 D0.N D0 (s.st 74) (ext #[] a) w) :
  (x.seq zc).wpIn (FR none) 0 Tryd.prog Q a w := by
 have hx := exec_sound (C := ⟨G, 74, 0, []⟩) good MtOk_nil ft20 wide (pins := []) (exJ_ok ft20 wide it20 8) 0 true x h (by rw [shC_zero]; exact hok) (by rw [shC_zero]; exact he)
 refine wpIn_seq (Code.wpIn_mono ?_ (hx none #[] w0 D0.N D0 a w (fun _ => rfl) rfl hD0 hd hs))
 rintro e a' w' ⟨hd', s', ⟨fs, rfl, hk⟩, hs'⟩
 cases e with
 | normal => exact hn fs a' w' hk hd' hs'
 | _ => exact hq _ fs a' w' (by simp) hk hd' hs'
end
theorem eq20 (a b : RP) : (a.1 == b.1 && (a.2.1 == b.2.1 && (a.2.2.1 == b.2.2.1 && true))) = true ↔ a = b := by
 obtain ⟨a1, a2, a3, ⟨⟩⟩ := a
 obtain ⟨b1, b2, b3, ⟨⟩⟩ := b
 simp
theorem q_of {x0 : Ty7} {x1 : Ty5} {x2 : List Ty2} {x3 : Ty0} {r : g20.R} (h : sp20 (x0, x1, x2, x3, ()) = some r) :
  ∃ V, q20 x0 x1 x2 x3 = some V ∧ (V = .inl r ∨ ∃ z v r', V = .inr (S20 0 z v r') ∧ z.2.2.2.2.2.1.1 = 0 ∧ z.2.2.2.2.2.2.1.1 = false ∧ z.2.2.2.2.1 = x3 ∧ (v.2.2.2.1 = [] ∨ v.2.2.2.1.length = 10) ∧ (if (x3 : RP) ∈ faultsV v then r = ((1, true, ()), ()) else r = ((0, false, ()), ()))) := by
 unfold sp20 at h
 unfold q20
 simp only [joinK] at h ⊢
 by_cases h1 : x3.1 < 0
 ·rw [if_pos (.inl h1)] at h
  cases h
  rw [if_pos (decide_eq_true h1)]
  exact ⟨_, rfl, .inl rfl⟩
 rw [if_neg (by simpa using h1)]
 by_cases h2 : (x0.2.1.length : Int) ≤ x3.1
 ·rw [if_pos (.inr h2)] at h
  cases h
  refine ⟨_, ?_, .inl rfl⟩
  unfold q20a
  rw [if_pos (decide_eq_true h2)]
  rfl
 rw [if_neg (by omega)] at h
 have hin : inR x3.1 x0.2.1.length = true := by simp only [inR, Bool.and_eq_true, decide_eq_true_eq]; omega
 unfold q20a
 simp only [joinK]
 rw [if_neg (by simpa using h2), if_pos hin]
 have bad : ∀ V : Option (g20.R ⊕ SS), V = q20b (x2, true, x0, x1, x3, (0, ()), (false, ()), ()) → V = some (.inl ((0, false, ()), ())) := fun V e => by
  rw [e]; unfold q20b; rw [if_pos rfl]
 have good' : ∀ (r : g20.R), ((sp30 (x0, x1, x2, x3.1, ())).bind fun v => if v.1.2.2.2.1 = [] ∨ v.1.2.2.2.1.length = 10 then some (costV v.1 x3, ()) else none) = some r →
   ∃ V, q20b (x2, false, x0, x1, x3, (0, ()), (false, ()), ()) = some V ∧ (V = .inl r ∨ ∃ z v r', V = .inr (S20 0 z v r') ∧ z.2.2.2.2.2.1.1 = 0 ∧ z.2.2.2.2.2.2.1.1 = false ∧ z.2.2.2.2.1 = x3 ∧ (v.2.2.2.1 = [] ∨ v.2.2.2.1.length = 10) ∧ (if (x3 : RP) ∈ faultsV v then r = ((1, true, ()), ()) else r = ((0, false, ()), ()))) := fun r h => by
  unfold q20b
  rw [if_neg (by simp)]
  obtain ⟨⟨v, ⟨⟩⟩, hv, h⟩ := Option.bind_eq_some_iff.1 h
  simp only at h
  split at h
  case isFalse => cases h
  rename_i htext
  cases h
  show ∃ V, (sp30 (x0, x1, x2, x3.1, ())).bind _ = some V ∧ _
  rw [hv, Option.bind_some, e34, Option.bind_some]
  by_cases he : x3 = rightV v
  ·rw [if_pos ((eq20 x3 (rightV v)).2 he)]
   refine ⟨_, rfl, .inl ?_⟩
   unfold costV
   rw [if_pos he]
   rfl
  ·rw [if_neg (fun h => he ((eq20 x3 (rightV v)).1 h))]
   refine ⟨_, rfl, .inr ⟨(x2, false, x0, x1, x3, (0, ()), (false, ()), ()), v, rightV v, rfl, rfl, rfl, rfl, htext, ?_⟩⟩
   unfold costV
   rw [if_neg he]
   split <;> rfl
 by_cases h3 : (lAt (0, 0, 0, ()) x0.2.1 x3.1).2.1 < 0
 ·rw [if_pos (.inl h3)] at h
  cases h
  rw [if_pos (decide_eq_true h3)]
  exact ⟨_, bad _ rfl, .inl rfl⟩
 rw [if_neg (by simpa using h3)]
 by_cases h4 : (x1.1.length : Int) ≤ (lAt (0, 0, 0, ()) x0.2.1 x3.1).2.1
 ·rw [if_pos (.inr h4)] at h
  cases h
  rw [if_pos (decide_eq_true h4)]
  exact ⟨_, bad _ rfl, .inl rfl⟩
 rw [if_neg (by omega)] at h
 rw [if_neg (by simpa using h4)]
 by_cases h5 : (lAt (0, 0, 0, ()) x0.2.1 x3.1).2.2.1 < 0
 ·rw [if_pos (.inl h5)] at h
  cases h
  rw [if_pos (decide_eq_true h5)]
  exact ⟨_, bad _ rfl, .inl rfl⟩
 have hin2 : inR (lAt (0, 0, 0, ()) x0.2.1 x3.1).2.1 x1.1.length = true := by simp only [inR, Bool.and_eq_true, decide_eq_true_eq]; omega
 rw [if_neg (by simpa using h5), if_pos hin2]
 by_cases h6 : ((lAt ([], ()) x1.1 (lAt (0, 0, 0, ()) x0.2.1 x3.1).2.1).1.length : Int) ≤ (lAt (0, 0, 0, ()) x0.2.1 x3.1).2.2.1
 ·rw [if_pos (.inr h6)] at h
  cases h
  rw [decide_eq_true h6]
  exact ⟨_, bad _ rfl, .inl rfl⟩
 rw [if_neg (by omega)] at h
 rw [decide_eq_false h6]
 exact good' r h
theorem e20c : c20 = .seq (lft c20) (.seq (lft (rgt c20)) (.seq (lft (rgt (rgt c20))) (.seq (lft C20) (.seq (lft (rgt C20)) (.seq (.seq (lft (lft (rgt (rgt C20)))) K20) Z20))))) := by kernel_rfl
noncomputable def seqK {R : Type} (y : Code) (h : HT) (k : Exit → SS → Option R) (e : Exit) (s : SS) : Option R := match e with
 | .normal => exec ⟨G, 74, 0, []⟩ FT20 [] (exJ FT20 [] IT20 8) y h s k
 | e => k e s
theorem seqK_ne {R : Type} {y : Code} {h : HT} {k : Exit → SS → Option R} {e : Exit} {s : SS} (he : e ≠ .normal) : seqK y h k e s = k e s := by
 cases e <;> first | rfl | exact absurd rfl he
theorem tc20 : TC Tryd.prog 20 ⟨g20, sp20⟩ := by
 rintro ⟨x0, x1, x2, x3, ⟨⟩⟩ r h
 refine contract_of (f := 20) (fn := Tryd.f20) (N := 74) (c := c20) Tryd.func20 (by kernel_rfl) (by kernel_rfl) (by decide) fun w D a hD0 hd hs => ?_
 obtain ⟨V, hV, hcase⟩ := q_of h
 have hpre := (pre20 x0 x1 x2 x3).trans hV
 have hQ : ∀ (e : Exit) (s' : SS) (a : Act) (w1 : World), e ≠ .normal → KT e s' = some V → DefX w.heap.size a w1 → Sat w D.N D (s'.st 74) (ext #[] a) w1 → BodyEnd Tryd.prog Tryd.f20 g20 r w D e a w1 := fun e s' a w1 he hk hd hs => by
  have hk' : (finK ⟨G, 74, 0, []⟩ g20 [.cell 8 3, .cell 9 4] e s').map Sum.inl = some V := by
   rw [← hk]; cases e <;> first | rfl | exact absurd rfl he
  obtain ⟨r0, h0, h1⟩ := Option.map_eq_some_iff.1 hk'
  rcases hcase with e1 | ⟨z, v, r', e1, _⟩
  ·rw [e1] at h1
   cases h1
   exact fin_leaves good rfl (by kernel_rfl) hD0 hd h0 hs
  ·rw [e1] at h1; cases h1
 rw [e20c]
 refine goT hD0 (h := .r .x) (kt := seqK _ _ KT) (by kernel_rfl) hpre (fun s1 a1 w1 h1 d1 t1 => ?_) (fun e s' a w1 he hk => hQ e s' a w1 he (by rw [← hk, seqK_ne he])) a w hd hs
 refine goT hD0 (h := .j O20 (.r .x) hX) (kt := seqK _ _ KT) (by kernel_rfl) h1 (fun s2 a2 w2 h2 d2 t2 => ?_) (fun e s' a w1 he hk => hQ e s' a w1 he (by rw [← hk, seqK_ne he])) a1 w1 d1 t1
 refine goT hD0 (h := .n (.r .x) (.j P20 (.r .q) hX)) (kt := seqK _ _ KT) (by kernel_rfl) h2 (fun s3 a3 w3 h3 d3 t3 => ?_) (fun e s' a w1 he hk => hQ e s' a w1 he (by rw [← hk, seqK_ne he])) a2 w2 d2 t2
 refine goT hD0 (h := .r .x) (kt := seqK _ _ KT) (by kernel_rfl) h3 (fun s4 a4 w4 h4 d4 t4 => ?_) (fun e s' a w1 he hk => hQ e s' a w1 he (by rw [← hk, seqK_ne he])) a3 w3 d3 t3
 refine goT hD0 (h := .n (.r .q) hX) (kt := seqK _ _ KT) (by kernel_rfl) h4 (fun s5 a5 w5 h5 d5 t5 => ?_) (fun e s' a w1 he hk => hQ e s' a w1 he (by rw [← hk, seqK_ne he])) a4 w4 d4 t4
 refine wpIn_seq (goT hD0 (h := h9_20) (kt := KT) (by kernel_rfl) h5 (fun s6 a6 w6 h6 d6 t6 => ?_) (fun e s' a w1 he hk d t => ?_) a5 w5 d5 t5)
 ·have h6 : some (Sum.inr s6) = some V := h6
  rcases hcase with e1 | ⟨z, v, r', e1, z8, z9, zr, hv, hres⟩
  ·rw [e1] at h6; cases h6
  ·rw [e1] at h6
   cases h6
   exact tail20 hD0 z z8 z9 v r' hv r x3 zr hres a6 w6 d6 t6
 ·have := hQ e s' a w1 he hk d t
  cases e with
  | normal => exact absurd rfl he
  | _ => exact this
end Go.Proofs.YtjpikgfknnamjaaDoor
