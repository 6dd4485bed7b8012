/- Plain mathematics of chapter 19: a heap in a list, its rise and its fall. -/
import Derived.Test.YtkppmjplkjakkaaLibG
set_option linter.unusedVariables false
namespace Go.Proofs.Ytkppmjplkjakkaa
open Go.Abs

theorem iter_inv {σ R : Type} {F : (σ → Option R) → σ → Option R} {r : Option R} (st : Nat → σ) (I : Nat → Prop) (m n : Nat) (hn : m < n) (h0 : I 0) (hs : ∀ rc k, k < m → I k → (F rc (st k) = rc (st (k + 1)) ∧ I (k + 1)) ∨ F rc (st k) = r) (he : ∀ rc, I m → F rc (st m) = r) : iter n F (st 0) = r := by
  suffices h : ∀ n k, m - k < n → k ≤ m → I k → iter n F (st k) = r from h n 0 (by omega) (Nat.zero_le _) h0
  intro n
  induction n with
  | zero => intro k hk; omega
  | succ n ih =>
    intro k hk hkm hi
    rcases Nat.lt_or_ge k m with hlt | hge
    · rcases hs (iter n F) k hlt hi with ⟨h, h'⟩ | h
      · exact h.trans (ih (k + 1) (by omega) hlt h')
      · exact h
    · have : k = m := by omega
      subst this
      exact he _ hi
theorem iter_ex {σ R : Type} {F : (σ → Option R) → σ → Option R} {r : Option R} (I : Nat → σ → Prop) (m n : Nat) (hn : m < n) {z : σ} (h0 : I 0 z) (hs : ∀ rc k z, k < m → I k z → (∃ z', F rc z = rc z' ∧ I (k + 1) z') ∨ F rc z = r) (he : ∀ rc z, I m z → F rc z = r) : iter n F z = r := by
  suffices h : ∀ n k z, m - k < n → k ≤ m → I k z → iter n F z = r from h n 0 z (by omega) (Nat.zero_le _) h0
  intro n
  induction n with
  | zero => intro k z hk; omega
  | succ n ih =>
    intro k z hk hkm hi
    rcases Nat.lt_or_ge k m with hlt | hge
    · rcases hs (iter n F) k z hlt hi with ⟨z', h, h'⟩ | h
      · exact h.trans (ih (k + 1) z' (by omega) hlt h')
      · exact h
    · have : k = m := by omega
      subst this
      exact he _ z hi
theorem iter_count {σ R : Type} {F : (σ → Option R) → σ → Option R} {r : Option R} (st : Nat → σ) (m n : Nat) (hn : m < n) (hs : ∀ rc k, k < m → F rc (st k) = rc (st (k + 1))) (he : ∀ rc, F rc (st m) = r) : iter n F (st 0) = r :=
  iter_inv st (fun _ => True) m n hn trivial (fun rc k hk _ => .inl ⟨hs rc k hk, trivial⟩) (fun rc _ => he rc)
theorem sAt_nat (s : List UInt8) (k : Nat) : sAt s (k : Int) = ((s.getD k 0).toNat : Int) := rfl
theorem inR_nat {k n : Nat} (h : k < n) : inR (k : Int) n = true := by simp [inR, h]
theorem inCut_nat {a b n : Nat} (h1 : a ≤ b) (h2 : b ≤ n) : inCut (a : Int) (b : Int) n = true := by simp [inCut, h1, h2]
theorem up1 {k n : Nat} (h : k < n) (hn : n ≤ 1000000000000000000) : IntKind.i64.wrap ((k : Int) + 1) = ((k + 1 : Nat) : Int) := wrapI (by omega) (by omega)

theorem lAt_nat {α : Type} (d : α) (l : List α) (k : Nat) : lAt d l (k : Int) = l.getD k d := rfl
abbrev E : Type := Int × Int × Unit
def leB (a b : E) : Bool := decide (a.2.1 < b.2.1) || (decide (a.2.1 = b.2.1) && decide (a.1 ≤ b.1))
theorem leB_iff {a b : E} : leB a b = true ↔ a.2.1 < b.2.1 ∨ (a.2.1 = b.2.1 ∧ a.1 ≤ b.1) := by simp [leB]
theorem leB_not {a b : E} (h : ¬ leB a b = true) : leB b a = true := by rw [leB_iff] at *; omega
theorem leB_refl (a : E) : leB a a = true := by rw [leB_iff]; omega
theorem leB_trans {a b c : E} (h : leB a b = true) (h' : leB b c = true) : leB a c = true := by rw [leB_iff] at *; omega
theorem leB_anti {a b : E} (h : leB a b = true) (h' : leB b a = true) : a = b := by
  rw [leB_iff] at *
  obtain ⟨x, y, _⟩ := a; obtain ⟨x', y', _⟩ := b
  simp only at h h'
  have : x = x' := by omega
  have : y = y' := by omega
  simp [*]
theorem leB_total (a b : E) : (leB a b || leB b a) = true := by
  by_cases h : leB a b = true
  · simp [h]
  · simp [leB_not h]

def d0 : E := (0, 0, ())
def g (L : List E) (k : Nat) : E := L.getD k d0
theorem g_set (L : List E) (i k : Nat) (a : E) (hi : i < L.length) : g (L.set i a) k = if i = k then a else g L k := by
  simp only [g, List.getD_eq_getElem?_getD, List.getElem?_set]
  by_cases h : i = k
  · subst h; simp [hi]
  · simp [h]
def sw (L : List E) (a b : Nat) : List E := (L.set b (g L a)).set a (g L b)
@[simp] theorem sw_len (L : List E) (a b : Nat) : (sw L a b).length = L.length := by simp [sw]
theorem g_sw (L : List E) (a b k : Nat) (ha : a < L.length) (hb : b < L.length) : g (sw L a b) k = if k = a then g L b else if k = b then g L a else g L k := by
  unfold sw
  rw [g_set _ _ _ _ (by simpa using ha)]
  by_cases h : a = k
  · rw [if_pos h, if_pos h.symm]
  · rw [if_neg h, if_neg (Ne.symm h), g_set _ _ _ _ hb]
    by_cases h' : b = k
    · rw [if_pos h', if_pos h'.symm]
    · rw [if_neg h', if_neg (Ne.symm h')]
theorem g_get {L : List E} {k : Nat} (h : k < L.length) : g L k = L[k] := by simp [g, h]
theorem sw_perm (L : List E) (a b : Nat) (ha : a < L.length) (hb : b < L.length) : (sw L a b).Perm L := by
  rw [List.perm_iff_count]
  intro x
  unfold sw
  rw [List.count_set (by simpa using ha), List.count_set hb]
  have ea : g L a = L[a] := g_get ha
  have eb : g L b = L[b] := g_get hb
  have hcb : 0 < L.count L[b] := List.count_pos_iff.2 (List.getElem_mem hb)
  have hca : 0 < L.count L[a] := List.count_pos_iff.2 (List.getElem_mem ha)
  rw [ea, eb, List.getElem_set]
  by_cases hab : b = a
  · subst hab
    simp only [if_true]
    by_cases h1 : L[b] = x
    · subst h1; simp
    · have : (L[b] == x) = false := by simpa using h1
      simp [this]
  · rw [if_neg hab]
    by_cases h1 : L[b] = x
    · by_cases h2 : L[a] = x
      · have e1 : (L[b] == x) = true := by simpa using h1
        have e2 : (L[a] == x) = true := by simpa using h2
        simp only [e1, e2, if_true]
        rw [h1] at hcb
        omega
      · have e1 : (L[b] == x) = true := by simpa using h1
        have e2 : (L[a] == x) = false := by simpa using h2
        simp only [e1, e2, if_true]
        rw [h1] at hcb
        simp; omega
    · by_cases h2 : L[a] = x
      · have e1 : (L[b] == x) = false := by simpa using h1
        have e2 : (L[a] == x) = true := by simpa using h2
        simp only [e1, e2, if_true]
        simp
      · have e1 : (L[b] == x) = false := by simpa using h1
        have e2 : (L[a] == x) = false := by simpa using h2
        simp [e1, e2]

/-- The first n places are a heap. -/
def Heap (L : List E) (n : Nat) : Prop := ∀ k, 0 < k → k < n → leB (g L ((k - 1) / 2)) (g L k) = true
theorem Heap.min {L : List E} {n : Nat} (h : Heap L n) : ∀ k, k < n → leB (g L 0) (g L k) = true := by
  intro k
  induction k using Nat.strongRecOn with
  | _ k ih =>
    intro hk
    by_cases h0 : k = 0
    · subst h0; exact leB_refl _
    · exact leB_trans (ih ((k - 1) / 2) (by omega) (by omega)) (h k (by omega) hk)

/-! rise -/
def upF : Nat → List E → Nat → List E
  | 0, L, _ => L
  | n + 1, L, j => if j = 0 then L else if leB (g L ((j - 1) / 2)) (g L j) = true then L else upF n (sw L j ((j - 1) / 2)) ((j - 1) / 2)
structure UpInv (L : List E) (j n : Nat) : Prop where
  one : ∀ k, 0 < k → k < n → k ≠ j → leB (g L ((k - 1) / 2)) (g L k) = true
  two : ∀ k, 0 < k → k < n → (k - 1) / 2 = j → 0 < j → leB (g L ((j - 1) / 2)) (g L k) = true
theorem upF_len : ∀ (n : Nat) (L : List E) (j : Nat), (upF n L j).length = L.length
  | 0, L, j => rfl
  | n + 1, L, j => by
    unfold upF
    split
    · rfl
    · split
      · rfl
      · rw [upF_len n]; simp
theorem upF_perm : ∀ (n : Nat) (L : List E) (j : Nat), j < L.length → (upF n L j).Perm L
  | 0, L, j, _ => .refl _
  | n + 1, L, j, hj => by
    unfold upF
    split
    · exact .refl _
    · split
      · exact .refl _
      · exact (upF_perm n _ _ (by simp; omega)).trans (sw_perm L j _ hj (by omega))
theorem upF_heap : ∀ (n : Nat) (L : List E) (j : Nat), j < n → j < L.length → UpInv L j L.length → Heap (upF n L j) L.length
  | 0, L, j, h, _, _ => absurd h (Nat.not_lt_zero _)
  | n + 1, L, j, hn, hj, I => by
    unfold upF
    split
    · rename_i h0; subst h0
      exact fun k h1 h2 => I.one k h1 h2 (by omega)
    · rename_i h0
      split
      · rename_i hle
        intro k h1 h2
        by_cases hk : k = j
        · subst hk; exact hle
        · exact I.one k h1 h2 hk
      · rename_i hle
        have hlt := leB_not hle
        have hp : (j - 1) / 2 < L.length := by omega
        have := upF_heap n (sw L j ((j - 1) / 2)) ((j - 1) / 2) (by omega) (by simp; omega) ?_
        · simpa using this
        · have G := fun k => g_sw L j ((j - 1) / 2) k hj hp
          refine ⟨fun k h1 h2 hk => ?_, fun k h1 h2 hk hp0 => ?_⟩
          · simp only [sw_len] at h2
            rw [G, G]
            by_cases hkj : k = j
            · subst hkj
              rw [if_pos rfl, if_neg (by omega), if_pos rfl]
              exact hlt
            · rw [if_neg hkj, if_neg hk]
              by_cases h3 : (k - 1) / 2 = j
              · rw [if_pos h3]
                exact I.two k h1 h2 h3 (by omega)
              · rw [if_neg h3]
                by_cases h4 : (k - 1) / 2 = (j - 1) / 2
                · rw [if_pos h4]
                  have := I.one k h1 h2 hkj
                  rw [h4] at this
                  exact leB_trans hlt this
                · rw [if_neg h4]
                  exact I.one k h1 h2 hkj
          · simp only [sw_len] at h2
            rw [G, G]
            rw [if_neg (show ((j - 1) / 2 - 1) / 2 ≠ j by omega), if_neg (show ((j - 1) / 2 - 1) / 2 ≠ (j - 1) / 2 by omega)]
            have h5 := I.one ((j - 1) / 2) hp0 hp (by omega)
            by_cases hkj : k = j
            · rw [if_pos hkj]; exact h5
            · rw [if_neg hkj, if_neg (by omega)]
              have := I.one k h1 h2 hkj
              rw [hk] at this
              exact leB_trans h5 this

/-! fall -/
def kid (L : List E) (i n : Nat) : Nat := if 2 * i + 2 < n ∧ ¬ leB (g L (2 * i + 1)) (g L (2 * i + 2)) = true then 2 * i + 2 else 2 * i + 1
def downF : Nat → List E → Nat → Nat → List E
  | 0, L, _, _ => L
  | f + 1, L, i, n => if n ≤ 2 * i + 1 then L else if leB (g L i) (g L (kid L i n)) = true then L else downF f (sw L (kid L i n) i) (kid L i n) n
theorem kid_bd {L : List E} {i n : Nat} (h : ¬ n ≤ 2 * i + 1) : kid L i n < n ∧ (kid L i n - 1) / 2 = i ∧ i < kid L i n := by
  unfold kid; split <;> omega
theorem kid_min {L : List E} {i n k : Nat} (h : ¬ n ≤ 2 * i + 1) (hk : 0 < k) (h2 : k < n) (h3 : (k - 1) / 2 = i) : leB (g L (kid L i n)) (g L k) = true := by
  have : k = 2 * i + 1 ∨ k = 2 * i + 2 := by omega
  unfold kid
  split
  · rename_i hc
    rcases this with rfl | rfl
    · exact leB_not hc.2
    · exact leB_refl _
  · rename_i hc
    rcases this with rfl | rfl
    · exact leB_refl _
    · by_cases hl : leB (g L (2 * i + 1)) (g L (2 * i + 2)) = true
      · exact hl
      · exact absurd ⟨h2, hl⟩ hc
structure DownInv (L : List E) (i n : Nat) : Prop where
  one : ∀ k, 0 < k → k < n → (k - 1) / 2 ≠ i → leB (g L ((k - 1) / 2)) (g L k) = true
  two : ∀ k, 0 < k → k < n → (k - 1) / 2 = i → 0 < i → leB (g L ((i - 1) / 2)) (g L k) = true
theorem downF_len : ∀ (f : Nat) (L : List E) (i n : Nat), (downF f L i n).length = L.length
  | 0, L, i, n => rfl
  | f + 1, L, i, n => by
    unfold downF
    split
    · rfl
    · split
      · rfl
      · rw [downF_len f]; simp
theorem downF_perm : ∀ (f : Nat) (L : List E) (i n : Nat), n ≤ L.length → (downF f L i n).Perm L
  | 0, L, i, n, _ => .refl _
  | f + 1, L, i, n, hn => by
    unfold downF
    split
    · exact .refl _
    · rename_i h
      have hb := kid_bd (L := L) h
      split
      · exact .refl _
      · exact (downF_perm f _ _ n (by simpa using hn)).trans (sw_perm L _ i (by omega) (by omega))
/-- What lies behind the first n places stays. -/
theorem downF_rest : ∀ (f : Nat) (L : List E) (i n k : Nat), n ≤ L.length → n ≤ k → g (downF f L i n) k = g L k
  | 0, L, i, n, k, _, _ => rfl
  | f + 1, L, i, n, k, hn, hk => by
    unfold downF
    split
    · rfl
    · rename_i h
      have hb := kid_bd (L := L) h
      split
      · rfl
      · rw [downF_rest f _ _ n k (by simpa using hn) hk, g_sw L _ i k (by omega) (by omega), if_neg (by omega), if_neg (by omega)]
theorem downF_heap : ∀ (f : Nat) (L : List E) (i n : Nat), n < f + i + 1 → n ≤ L.length → DownInv L i n → Heap (downF f L i n) n
  | 0, L, i, n, h, hn, I => fun k h1 h2 => I.one k h1 h2 (by omega)
  | f + 1, L, i, n, hf, hn, I => by
    unfold downF
    split
    · rename_i h
      exact fun k h1 h2 => I.one k h1 h2 (by omega)
    · rename_i h
      have hb := kid_bd (L := L) h
      split
      · rename_i hle
        intro k h1 h2
        by_cases hk : (k - 1) / 2 = i
        · rw [hk]; exact leB_trans hle (kid_min h h1 h2 hk)
        · exact I.one k h1 h2 hk
      · rename_i hle
        have hlt := leB_not hle
        obtain ⟨b1, b2, b3⟩ := hb
        refine downF_heap f _ _ n (by omega) (by simpa using hn) ⟨fun k h1 h2 hk => ?_, fun k h1 h2 hk hk0 => ?_⟩
        · have G := fun x => g_sw L (kid L i n) i x (by omega) (by omega)
          rw [G, G]
          by_cases h3 : (k - 1) / 2 = i
          · rw [h3, if_neg (by omega), if_pos rfl]
            by_cases h4 : k = kid L i n
            · rw [if_pos h4]; exact hlt
            · rw [if_neg h4, if_neg (by omega)]; exact kid_min h h1 h2 h3
          · rw [if_neg hk, if_neg h3]
            by_cases h4 : k = kid L i n
            · exact absurd (by rw [h4]; exact b2) h3
            · rw [if_neg h4]
              by_cases h5 : k = i
              · subst h5
                rw [if_pos rfl]
                exact I.two _ (by omega) b1 b2 h1
              · rw [if_neg h5]; exact I.one k h1 h2 h3
        · have G := fun x => g_sw L (kid L i n) i x (by omega) (by omega)
          rw [G, G, b2, if_neg (by omega), if_pos rfl, if_neg (by omega), if_neg (by omega)]
          have := I.one k h1 h2 (by omega)
          rw [hk] at this
          exact this

/-! adding one, taking the first -/
def pushF (L : List E) (x : E) : List E := upF (L.length + 1) (L ++ [x]) L.length
theorem g_app {L : List E} {x : E} {k : Nat} (h : k < L.length) : g (L ++ [x]) k = g L k := by simp [g, List.getD_eq_getElem?_getD, List.getElem?_append_left h]
theorem pushF_perm (L : List E) (x : E) : (pushF L x).Perm (x :: L) := by
  refine (upF_perm _ _ _ (by simp)).trans ?_
  exact List.perm_append_comm
theorem pushF_heap {L : List E} (x : E) (h : Heap L L.length) : Heap (pushF L x) (pushF L x).length := by
  unfold pushF
  rw [upF_len]
  refine upF_heap _ _ _ (by omega) (by simp) ⟨fun k h1 h2 hk => ?_, fun k h1 h2 hk h0 => ?_⟩
  · simp at h2
    rw [g_app (by omega), g_app (by omega)]
    exact h k h1 (by omega)
  · simp at h2; omega
def popF (L : List E) : List E := (downF L.length (sw L (L.length - 1) 0) 0 (L.length - 1)).take (L.length - 1)
theorem popF_len (L : List E) : (popF L).length = L.length - 1 := by simp [popF, downF_len]
theorem popF_perm {L : List E} (h : 0 < L.length) : (g L 0 :: popF L).Perm L := by
  have hlen : (downF L.length (sw L (L.length - 1) 0) 0 (L.length - 1)).length = L.length := by rw [downF_len]; simp
  have hp : (downF L.length (sw L (L.length - 1) 0) 0 (L.length - 1)).Perm L := (downF_perm _ _ _ _ (by simp)).trans (sw_perm L _ _ (by omega) h)
  have hlast : g (downF L.length (sw L (L.length - 1) 0) 0 (L.length - 1)) (L.length - 1) = g L 0 := by
    rw [downF_rest _ _ _ _ _ (by simp) (Nat.le_refl _), g_sw L _ _ _ (by omega) h, if_pos rfl]
  refine List.Perm.trans ?_ hp
  have e := List.take_append_getElem (l := downF L.length (sw L (L.length - 1) 0) 0 (L.length - 1)) (i := L.length - 1) (by omega)
  have e2 : (downF L.length (sw L (L.length - 1) 0) 0 (L.length - 1)).take (L.length - 1 + 1) = downF L.length (sw L (L.length - 1) 0) 0 (L.length - 1) := List.take_of_length_le (by omega)
  rw [e2, ← g_get (by omega), hlast] at e
  unfold popF
  have := (List.perm_append_comm (l₁ := (downF L.length (sw L (L.length - 1) 0) 0 (L.length - 1)).take (L.length - 1)) (l₂ := [g L 0]))
  rw [e] at this
  exact this.symm
theorem popF_heap {L : List E} (h : Heap L L.length) : Heap (popF L) (popF L).length := by
  rw [popF_len]
  by_cases h0 : L.length = 0
  · intro k h1 h2; omega
  have := downF_heap L.length (sw L (L.length - 1) 0) 0 (L.length - 1) (by omega) (by simp) ⟨fun k h1 h2 hk => ?_, fun k h1 h2 hk h3 => by omega⟩
  · intro k h1 h2
    have hg : ∀ x, x < L.length - 1 → g (popF L) x = g (downF L.length (sw L (L.length - 1) 0) 0 (L.length - 1)) x := fun x hx => by
      simp only [popF, g, List.getD_eq_getElem?_getD, List.getElem?_take, hx, if_true]
    rw [hg _ (by omega), hg _ h2]
    exact this k h1 h2
  · rw [g_sw L _ _ _ (by omega) (by omega), g_sw L _ _ _ (by omega) (by omega), if_neg (by omega), if_neg (by omega), if_neg (by omega), if_neg (by omega)]
    exact h k h1 (by omega)

/-! in order -/
def srt (l : List E) : List E := l.mergeSort leB
theorem srt_perm (l : List E) : (srt l).Perm l := List.mergeSort_perm l leB
theorem srt_sorted (l : List E) : (srt l).Pairwise (fun a b => leB a b = true) := List.pairwise_mergeSort (le := leB) (fun a b c => leB_trans) leB_total l
theorem srt_eq {l S : List E} (h : S.Pairwise (fun a b => leB a b = true)) (hp : S.Perm l) : S = srt l :=
  List.Perm.eq_of_pairwise (fun a b _ _ h1 h2 => leB_anti h1 h2) h (srt_sorted l) (hp.trans (srt_perm l).symm)
/-- The heap's first, then what is left, in order: all in order. -/
theorem srt_pop {L : List E} (h : Heap L L.length) (h0 : 0 < L.length) : srt L = g L 0 :: srt (popF L) := by
  refine (srt_eq (List.pairwise_cons.2 ⟨fun b hb => ?_, srt_sorted _⟩) ?_).symm
  · have : b ∈ L := (popF_perm h0).mem_iff.1 (List.mem_cons_of_mem _ ((srt_perm _).mem_iff.1 hb))
    obtain ⟨k, hk, rfl⟩ := List.getElem_of_mem this
    rw [← g_get hk]
    exact h.min k hk
  · exact ((srt_perm (popF L)).cons _).trans (popF_perm h0)
theorem srt_congr {l l' : List E} (h : l.Perm l') : srt l = srt l' := srt_eq (srt_sorted l) ((srt_perm l).trans h)
theorem srt_len (l : List E) : (srt l).length = l.length := (srt_perm l).length_eq
end Go.Proofs.Ytkppmjplkjakkaa
