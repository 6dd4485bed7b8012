/- The contracts of what a way is made of, over values. -/
import Derived.Test.YtjficagemeiecaaDoorWt
import Derived.WalkKit
import Derived.Lib.Hide
open Go Go.Proofs Go.Abs Go.RowKit
set_option linter.unusedVariables false
set_option maxRecDepth 100000
namespace Go.Proofs.YtjficagemeiecaaDoor
abbrev NN : Abs.Names := fun _ => none
abbrev GR (w : World) : Prop := GlobRep w (Names.M NN)
theorem nn_M (b : Nat) : ¬ Names.M NN b := fun ⟨_, h⟩ => by cases h
theorem nn_N (b : Nat) : ¬ Names.N NN b := fun ⟨_, _, h⟩ => by cases h
theorem GR.below {B : Nat} {w w' : World} (h : GR w) (hB : w.heap.size ≤ B) (b : Below B w w') : GR w' := GlobRep.mono h ⟨b.size, fun k hk _ => b.block k (Nat.lt_of_lt_of_le hk hB)⟩ fun _ _ h => h
theorem below_of {w w' : World} {D' : Abs.Names} (m : Mem w (Names.N NN) [] D' w') : Below w.heap.size w w' :=
  ⟨m.os, m.tape, m.output, m.grow.size, fun k hk => m.grow.same k hk (nn_N k)⟩
theorem imm_nn {w w' : World} {D : Abs.Names} {x : AV} {v : Value} (h : Imm w D.M x v) (b : Below w.heap.size w w') : Imm w' (Names.M NN) x v :=
  h.mono ⟨b.size, fun k hk _ => b.block k hk⟩ fun k _ hm => absurd hm (nn_M k)
theorem imm_sl {w : World} {M : Nat → Prop} {sz n : Nat} {l : List (List AV)} {v : Value} (h : Imm w M (.sl sz l) v) (hn : l.length = n) :
    ∃ a cap, v = .slice a n cap ∧ n ≤ cap ∧ n ≤ lim ∧ ∀ (j : Nat) cs, l[j]? = some cs → ∃ b off, a = some ⟨b, off, none⟩ ∧ b < w.heap.size ∧ ∃ f : Nat → Value, ∀ (i : Nat) x, cs[i]? = some x → w.cell? ⟨b, off + (j * sz + i), none⟩ = some (f i) ∧ Imm w M x (f i) := by
  subst hn
  cases h with
  | slnil _ a cap => exact ⟨a, cap, rfl, Nat.zero_le _, Nat.zero_le _, fun j cs hj => by simp at hj⟩
  | sl _ _ b off cap f hb hM hcap hn hs hc h1 h =>
    exact ⟨_, cap, rfl, hcap, hn, fun j cs hj => ⟨b, off, rfl, hb, f j, fun i x hi => ⟨hc j cs i x hj hi, h j cs i x hj hi⟩⟩⟩
theorem imm_int {w : World} {M : Nat → Prop} {k : IntKind} {n : Int} {v : Value} (h : Imm w M (.int k n) v) : v = .int k n := by cases h; rfl
theorem imm_bool {w : World} {M : Nat → Prop} {n : Bool} {v : Value} (h : Imm w M (.bool n) v) : v = .bool n := by cases h; rfl
theorem map_at {α β : Type} (f : α → β) (l : List α) (d : α) (j : Nat) (hj : j < l.length) : (l.map f)[j]? = some (f (l.getD j d)) := by
  rw [List.getElem?_map, List.getD_eq_getElem?_getD, List.getElem?_eq_getElem hj]; rfl
theorem g44e (k : Int) : sp44 (k, ()) = some (stripK k, ()) := by
  unfold sp44 sh44 joinK sh44_K0 stripK
  by_cases h : 1 ≤ k <;> simp [h]
theorem ndV_at (l : Ty4) (i : Int) : lAt ([], 0, 0, 0, [], ()) l.1 i = ndV l i.toNat := rfl
theorem g31e (l : Ty4) (i j t : Nat) (hj : j < l.1.length) : sp31 (l, (i : Int), (j : Int), (t : Int), ()) = some (goV l i j t, ()) := by
  have hin : inR (j : Int) l.1.length = true := by simp only [inR, Bool.and_eq_true, decide_eq_true_eq]; omega
  unfold sp31 sh31 joinK sh31_K0 goV
  simp only
  by_cases h1 : j = i
  · subst h1; simp
  by_cases h2 : j = t
  · subst h2
    have : (j : Int) ≠ i := by omega
    simp [h1, this]
  · have h3 : (j : Int) ≠ i := by omega
    have h4 : (j : Int) ≠ t := by omega
    have h5 : ((j : Int) == t) = false := by simpa using h4
    rw [if_pos (by simpa using h3), if_neg (by simp [h4]), if_pos hin, ndV_at, g44e]
    simp only [Option.bind_some, Int.toNat_natCast]
    rw [show (j != i) = true by simpa using h1, show (j == t) = false by simpa using h2]
    simp
theorem g33e (l : Ty4) (i : Nat) (hi : i < l.1.length) : sp33 (l, (i : Int), ()) = some (!stripK (ndV l i).2.1, ()) := by
  have hin : inR (i : Int) l.1.length = true := by simp only [inR, Bool.and_eq_true, decide_eq_true_eq]; omega
  unfold sp33 sh33 joinK sh33_K0
  simp only
  rw [if_pos (by simp), if_pos (by simp [hi]), if_pos hin, ndV_at, g44e]
  simp
section
variable {w : World} {l : Ty4} {lv : Value}
theorem kc27 (hg : GR w) (hl : Slot w NN (.agg (ty4.avs l)) lv) (f t : Int) {a : Bool} (hs : sp27 (l, f, t, ()) = some (a, ())) : Calls Tryd.prog 27 #[lv, .int .i64 f, .int .i64 t] w fun e w' => e = .returned (.bool a) ∧ Below w.heap.size w w' :=
  (tc27 (l, f, t, ()) (a, ()) hs w NN [lv, .int .i64 f, .int .i64 t] (mem_none w hg) ⟨rfl, fun i x hx => match i, hx with | 0, rfl => hl | 1, rfl => Imm.int _ _ | 2, rfl => Imm.int _ _⟩).mono
    fun e w' ⟨x, D', he, hm, hs, _⟩ => by
      have hx : x = .bool a := by
        have hs : Imm w' D'.M (.bool a) x := hs
        cases hs; rfl
      rw [he, hx]; exact ⟨rfl, below_of hm⟩
theorem kc32 (hg : GR w) (hl : Slot w NN (.agg (ty4.avs l)) lv) {a : Int} (hs : sp32 (l, ()) = some (a, ())) : Calls Tryd.prog 32 #[lv] w fun e w' => e = .returned (.int .i64 a) ∧ Below w.heap.size w w' :=
  (tc32 (l, ()) (a, ()) hs w NN [lv] (mem_none w hg) ⟨rfl, fun i x hx => match i, hx with | 0, rfl => hl⟩).mono
    fun e w' ⟨x, D', he, hm, hs, _⟩ => by
      have hx : x = .int .i64 a := by
        have hs : Imm w' D'.M (.int .i64 a) x := hs
        cases hs; rfl
      rw [he, hx]; exact ⟨rfl, below_of hm⟩
theorem kc33 (hg : GR w) (hl : Slot w NN (.agg (ty4.avs l)) lv) {i : Nat} (hi : i < l.1.length) : Calls Tryd.prog 33 #[lv, .int .i64 (i : Int)] w fun e w' => e = .returned (.bool (!stripK (ndV l i).2.1)) ∧ Below w.heap.size w w' :=
  (tc33 (l, (i : Int), ()) (_, ()) (g33e l i hi) w NN [lv, .int .i64 (i : Int)] (mem_none w hg) ⟨rfl, fun i x hx => match i, hx with | 0, rfl => hl | 1, rfl => Imm.int _ _⟩).mono
    fun e w' ⟨x, D', he, hm, hs, _⟩ => by
      have hx : x = .bool (!stripK (ndV l i).2.1) := by
        have hs : Imm w' D'.M (.bool (!stripK (ndV l i).2.1)) x := hs
        cases hs; rfl
      rw [he, hx]; exact ⟨rfl, below_of hm⟩
theorem kc31 (hg : GR w) (hl : Slot w NN (.agg (ty4.avs l)) lv) {i j t : Nat} (hj : j < l.1.length) : Calls Tryd.prog 31 #[lv, .int .i64 (i : Int), .int .i64 (j : Int), .int .i64 (t : Int)] w fun e w' => e = .returned (.bool (goV l i j t)) ∧ Below w.heap.size w w' :=
  (tc31 (l, (i : Int), (j : Int), (t : Int), ()) (_, ()) (g31e l i j t hj) w NN [lv, .int .i64 (i : Int), .int .i64 (j : Int), .int .i64 (t : Int)] (mem_none w hg) ⟨rfl, fun i x hx => match i, hx with | 0, rfl => hl | 1, rfl => Imm.int _ _ | 2, rfl => Imm.int _ _ | 3, rfl => Imm.int _ _⟩).mono
    fun e w' ⟨x, D', he, hm, hs, _⟩ => by
      have hx : x = .bool (goV l i j t) := by
        have hs : Imm w' D'.M (.bool (goV l i j t)) x := hs
        cases hs; rfl
      rw [he, hx]; exact ⟨rfl, below_of hm⟩
end
/-- a layout's value, as it lies -/
structure LayAt (w : World) (l : Ty4) (lv : Value) : Prop where
  ex : ∃ a cap dv, lv = .agg #[.slice a l.1.length cap, dv] ∧ l.1.length ≤ cap ∧ l.1.length ≤ lim ∧ ∀ j, j < l.1.length → ∃ b off ea ec, a = some ⟨b, off, none⟩ ∧ b < w.heap.size ∧ w.cell? ⟨b, off + j * 5 + 2, none⟩ = some (.int .i64 (ndV l j).2.2.1) ∧
    w.cell? ⟨b, off + j * 5 + 4, none⟩ = some (.slice ea (ndV l j).2.2.2.2.1.length ec) ∧ (ndV l j).2.2.2.2.1.length ≤ ec ∧ (ndV l j).2.2.2.2.1.length ≤ lim ∧
    ∀ (k : Nat) x, (ndV l j).2.2.2.2.1[k]? = some x → ∃ b' off', ea = some ⟨b', off', none⟩ ∧ b' < w.heap.size ∧ w.cell? ⟨b', off' + k, none⟩ = some (.int .i64 x.1)
theorem layAt_of {w : World} {l : Ty4} {lv : Value} (h : Slot w NN (.agg (ty4.avs l)) lv) : LayAt w l lv := by
  obtain ⟨vs, rfl, hl, hc⟩ := h
  match vs, hl with
  | [n, d], _ =>
    have h0 : Imm w (Names.M NN) ((Ty.sl ty2).av l.1) n := (hc 0 _ rfl).1
    obtain ⟨a, cap, rfl, hcap, hlim, hcells⟩ := imm_sl (n := l.1.length) h0 (List.length_map ..)
    refine ⟨a, cap, d, rfl, hcap, hlim, fun j hj => ?_⟩
    obtain ⟨b, off, rfl, hb, f, hf⟩ := hcells j (ty2.avs (ndV l j)) (map_at (α := ty2.T) ty2.avs l.1 _ j hj)
    obtain ⟨c2, i2⟩ := hf 2 _ rfl
    obtain ⟨c4, i4⟩ := hf 4 _ rfl
    have i2 : Imm w (Names.M NN) (.int .i64 (ndV l j).2.2.1) (f 2) := i2
    have i4 : Imm w (Names.M NN) ((Ty.sl (.cons (.int .i64) .nil)).av (ndV l j).2.2.2.2.1) (f 4) := i4
    obtain ⟨ea, ec, e4, hec, hel, hex⟩ := imm_sl (n := (ndV l j).2.2.2.2.1.length) i4 (List.length_map ..)
    have e2 : f 2 = .int .i64 (ndV l j).2.2.1 := imm_int i2
    rw [e2] at c2
    rw [e4] at c4
    have s5 : ty2.avs (ndV l j) = ty2.avs (ndV l j) := rfl
    refine ⟨b, off, ea, ec, rfl, hb, by rw [Nat.add_assoc]; exact c2, by rw [Nat.add_assoc]; exact c4, hec, hel, fun k x hx => ?_⟩
    obtain ⟨b', off', rfl, hb', g, hg⟩ := hex k _ (by rw [List.getElem?_map, hx]; rfl)
    obtain ⟨c0, i0⟩ := hg 0 _ rfl
    have i0 : Imm w (Names.M NN) (.int .i64 x.1) (g 0) := i0
    have e0 : g 0 = .int .i64 x.1 := imm_int i0
    rw [e0] at c0
    have c1 : w.cell? ⟨b', off' + (k * 1 + 0), none⟩ = some (.int .i64 x.1) := c0
    exact ⟨b', off', rfl, hb', by simpa using c1⟩
/-- a list of bools, as it lies -/
structure BrAt (w : World) (b : BrV) (bv : Value) : Prop where
  ex : ∃ a cap, bv = .slice a b.length cap ∧ b.length ≤ cap ∧ b.length ≤ lim ∧ ∀ j, j < b.length → ∃ bb off, a = some ⟨bb, off, none⟩ ∧ bb < w.heap.size ∧ w.cell? ⟨bb, off + j, none⟩ = some (.bool (brkV b j))
theorem brAt_of {w : World} {b : BrV} {bv : Value} (h : Slot w NN ((Ty.sl (.cons .bool .nil)).av b) bv) : BrAt w b bv := by
  have h0 : Imm w (Names.M NN) ((Ty.sl (.cons .bool .nil)).av b) bv := h
  obtain ⟨a, cap, rfl, hcap, hlim, hcells⟩ := imm_sl (n := b.length) h0 (List.length_map ..)
  refine ⟨a, cap, rfl, hcap, hlim, fun j hj => ?_⟩
  obtain ⟨x, hx⟩ : ∃ x, b[j]? = some x := ⟨_, List.getElem?_eq_getElem hj⟩
  obtain ⟨bb, off, rfl, hb, f, hf⟩ := hcells j _ (by rw [List.getElem?_map, hx]; rfl)
  obtain ⟨c0, i0⟩ := hf 0 _ rfl
  have i0 : Imm w (Names.M NN) (.bool x.1) (f 0) := i0
  have e0 : f 0 = .bool x.1 := imm_bool i0
  rw [e0] at c0
  refine ⟨bb, off, rfl, hb, ?_⟩
  rw [brkV, List.getD_eq_getElem?_getD, hx]
  have c1 : w.cell? ⟨bb, off + (j * 1 + 0), none⟩ = some (.bool x.1) := c0
  simpa using c1
end Go.Proofs.YtjficagemeiecaaDoor
