/- Contracts of three functions out of the library's shelf and of text's walk: strings.Cut, strings.Split, telegram.text. -/
import Derived.Test.YtodandhnddjfpaaDoorWa
import Derived.Test.YtodandhnddjfpaaDoorTc
set_option linter.unusedVariables false
open Go Go.Proofs Go.Abs Go.RowKit
set_option maxRecDepth 100000
namespace Go.Proofs.YtodandhnddjfpaaDoor
theorem mem_below {w w' : World} {D : Names} (h : Mem w D.N [] D w) (b : Below w.heap.size w w') : Mem w D.N [] D w' where
  dom := h.dom
  small := h.small
  rep := fun n o d hn _ => by cases hn
  inj := h.inj
  lt := fun k hk => Nat.lt_of_lt_of_le (h.lt k hk) b.size
  own := h.own
  grow := ⟨⟨b.size, fun k hk _ => b.block k hk⟩, fun k hk => by simp only [World.row, World.shape?, b.block k hk]⟩
  os := b.os
  tape := b.tape
  output := b.output
  glob := h.glob.mono ⟨b.size, fun k hk _ => b.block k hk⟩ fun _ _ hm => hm
theorem below_drewN (w : World) : ∀ n, Below w.heap.size w (w.drewN n)
  | 0 => Below.refl _ _
  | n + 1 => by
    have h := below_drewN w n
    exact ⟨h.os, h.tape, h.output, h.size, h.block⟩
/-- two strings as arguments -/
theorem args2 {w : World} {D : Names} {a b : List UInt8} {vs : List Value} (h : ArgsRep w D [.str a, .str b] vs) : vs = [.string ⟨a.toArray⟩, .string ⟨b.toArray⟩] ∧ a.length ≤ lim ∧ b.length ≤ lim := by
  obtain ⟨hl, hs⟩ := h
  match vs, hl with
  | [x, y], _ =>
    have h0 := hs 0 (.str a) rfl
    have h1 := hs 1 (.str b) rfl
    simp only [Slot, Val, Cell, List.getD_cons_zero, List.getD_cons_succ] at h0 h1
    cases h0 with
    | str _ hn0 => cases h1 with
      | str _ hn1 => exact ⟨rfl, hn0, hn1⟩
theorem cut_len (l sep : List UInt8) : (Lib.cut l sep).1.length ≤ l.length ∧ (Lib.cut l sep).2.1.length ≤ l.length := by
  unfold Lib.cut
  split
  · exact ⟨by simp only [List.length_take]; omega, by simp only [List.length_drop]; omega⟩
  · exact ⟨Nat.le_refl _, Nat.zero_le _⟩
theorem tc31 : TC Tryd.prog 31 ⟨g31, sp31⟩ := by
  rintro ⟨s, sep, ⟨⟩⟩ r h
  simp only [sp31] at h
  split at h
  case h_2 => cases h
  rename_i c
  cases h
  intro w D vs hm ha
  obtain ⟨rfl, hs, _⟩ := args2 ha
  refine (Y3.cut1 Tryd.laysCut ⟨s.toArray⟩ c w (by show s.length ≤ _; exact hs)).mono fun e w' ⟨he, n, hw⟩ => ?_
  subst hw
  have hb := below_drewN w n
  obtain ⟨l1, l2⟩ := cut_len s [c]
  refine ⟨_, D, he, mem_below hm hb, ⟨_, rfl, rfl, fun i x hx => ?_⟩, fun _ _ h => h⟩
  match i, hx with
  | 0, hx => cases hx; exact Imm.str _ (Nat.le_trans l1 hs)
  | 1, hx => cases hx; exact Imm.str _ (Nat.le_trans l2 hs)
  | 2, hx => cases hx; exact Imm.bool _
/-! strings.Split -/
theorem splitL_miss {c : UInt8} : ∀ {l : List UInt8}, Lib.indexByte l c = -1 → splitL c l = [l]
  | [], _ => rfl
  | x :: r, h => by
    unfold Lib.indexByte at h
    split at h
    · cases h
    · rename_i hx
      split at h
      · rename_i h1
        have h2 := splitL_miss (l := r) (by simpa using h1)
        have hx' : x ≠ c := by simpa using hx
        simp only [splitL, if_neg hx', h2]
      · have := Lib.indexByte_ge r c
        rename_i h1
        have h1' : Lib.indexByte r c ≠ -1 := by simpa using h1
        omega
theorem splitL_hit {c : UInt8} : ∀ {l : List UInt8} {i : Nat}, Lib.indexByte l c = i → splitL c l = l.take i :: splitL c (l.drop (i + 1))
  | [], i, h => by simp [Lib.indexByte] at h
  | x :: r, i, h => by
    unfold Lib.indexByte at h
    split at h
    · rename_i hx
      have hx' : x = c := by simpa using hx
      have : i = 0 := by omega
      subst this
      subst hx'
      simp [splitL]
    · rename_i hx
      have hx' : x ≠ c := by simpa using hx
      split at h
      · omega
      · rename_i h1
        have := Lib.indexByte_ge r c
        have h1' : Lib.indexByte r c ≠ -1 := by simpa using h1
        obtain ⟨k, rfl⟩ : ∃ k, i = k + 1 := ⟨i - 1, by omega⟩
        have ih := splitL_hit (c := c) (l := r) (i := k) (by omega)
        simp only [splitL, if_neg hx', ih, List.take_succ_cons, List.drop_succ_cons]
theorem splitB_eq (c : UInt8) : ∀ (n : Nat) (s : ByteArray), s.size ≤ n → (Lib.splitB ⟨#[c]⟩ 0 (Lib.countB s ⟨#[c]⟩) s).map (·.data.toList) = splitL c s.data.toList := by
  intro n
  induction n with
  | zero =>
    intro s hs
    rcases Lib.indexB_cases s ⟨#[c]⟩ with hix | ⟨i, hix, hroom⟩
    · rw [Lib.countB_miss _ _ hix, Lib.splitB_zero, splitL_miss (by rw [← Y3.indexB_one]; exact hix)]; rfl
    · have : (⟨#[c]⟩ : ByteArray).size = 1 := rfl
      omega
  | succ n ih =>
    intro s hs
    rcases Lib.indexB_cases s ⟨#[c]⟩ with hix | ⟨i, hix, hroom⟩
    · rw [Lib.countB_miss _ _ hix, Lib.splitB_zero, splitL_miss (by rw [← Y3.indexB_one]; exact hix)]; rfl
    · have h1 : (⟨#[c]⟩ : ByteArray).size = 1 := rfl
      rw [h1] at hroom
      have e := splitL_hit (c := c) (l := s.data.toList) (i := i) (by rw [← Y3.indexB_one]; exact hix)
      rw [Lib.countB_hit s ⟨#[c]⟩ i (Nat.le_refl _) hix, Nat.add_comm, Lib.splitB_hit _ _ _ _ _ hix, List.map_cons, h1, ih _ (by rw [ByteArray.size_extract]; omega), e, Lib.extract_to_end]
      congr 1
      simp
theorem splitL_pieces (c : UInt8) : ∀ (l : List UInt8), (splitL c l).length ≤ l.length + 1 ∧ ∀ p ∈ splitL c l, p.length ≤ l.length
  | [] => ⟨Nat.le_refl _, by simp [splitL]⟩
  | x :: r => by
    obtain ⟨h1, h2⟩ := splitL_pieces c r
    unfold splitL
    split
    · exact ⟨by simp only [List.length_cons]; omega, fun p hp => by rcases List.mem_cons.1 hp with rfl | hp; exact Nat.zero_le _; exact Nat.le_succ_of_le (h2 p hp)⟩
    · split
      · exact ⟨by simp, by simp⟩
      · rename_i y ys hy
        rw [hy] at h1 h2
        exact ⟨by simp only [List.length_cons] at h1 ⊢; omega, fun p hp => by
          rcases List.mem_cons.1 hp with rfl | hp
          · exact Nat.succ_le_succ (h2 y (List.mem_cons_self ..))
          · exact Nat.le_succ_of_le (h2 p (List.mem_cons_of_mem _ hp))⟩
theorem tc56 : TC Tryd.prog 56 ⟨g56, sp56⟩ := by
  rintro ⟨s, sep, ⟨⟩⟩ r h
  simp only [sp56] at h
  split at h
  case h_2 => cases h
  rename_i c
  split at h
  case isFalse => cases h
  rename_i hlt
  cases h
  intro w D vs hm ha
  obtain ⟨rfl, hs, _⟩ := args2 ha
  have hb := splitB_eq c _ ⟨s.toArray⟩ (Nat.le_refl _)
  have hlen := Lib.splitB_all ⟨#[c]⟩ (Nat.le_refl _) 0 _ ⟨s.toArray⟩ rfl
  obtain ⟨p1, p2⟩ := splitL_pieces c s
  refine (Y3.split1 Tryd.laysSplit (by kernel_rfl) ⟨s.toArray⟩ c w (by show s.length < _; exact hlt)).mono fun e w' ⟨he, hw⟩ => ?_
  generalize hX : Lib.splitB ⟨#[c]⟩ 0 (Lib.countB ⟨s.toArray⟩ ⟨#[c]⟩) ⟨s.toArray⟩ = X at hb hlen hw
  rw [← hlen] at he
  have hb' : X.map (·.data.toList) = splitL c s := hb
  have hXl : X.length = (splitL c s).length := by rw [← hb', List.length_map]
  subst hw
  have hbl : Below w.heap.size w (w.alloc (.cells (X.map Value.string).toArray (Tryd.laysSplit_ren.t 9))) := (Below.refl _ _).alloc (Nat.le_refl _) _
  refine ⟨_, D, he, mem_below hm hbl, ?_, fun _ _ h => h⟩
  have hcell : ∀ (j : Nat) (x : ByteArray), X[j]? = some x → (w.alloc (.cells (X.map Value.string).toArray (Tryd.laysSplit_ren.t 9))).cell? ⟨w.heap.size, j, none⟩ = some (.string x) := fun j x hx => by
    rw [Lib.cell_of_heap (heap_alloc_new w _)]
    simp [hx]
  show Imm _ D.M (.sl 1 (((splitL c s).map (·, ())).map fun p => [AV.str p.1])) (.slice (some ⟨w.heap.size, 0, none⟩) X.length X.length)
  have el : (((splitL c s).map (·, ())).map fun p : List UInt8 × Unit => [AV.str p.1]) = X.map fun x => [AV.str x.data.toList] := by
    rw [← hb']; simp
  rw [el]
  have hl : (X.map fun x => [AV.str x.data.toList]).length = X.length := List.length_map ..
  have key := Imm.sl (w := w.alloc (.cells (X.map Value.string).toArray (Tryd.laysSplit_ren.t 9))) (M := D.M) 1 (X.map fun x => [AV.str x.data.toList]) w.heap.size 0 X.length (fun j _ => .string (X.getD j default))
    (by simp) (fun h => Nat.lt_irrefl _ (hm.lt _ h)) (by rw [hl]; exact Nat.le_refl _) (by rw [hl, hXl]; unfold lim at hs ⊢; omega)
    (fun j cs hj => by
      rw [List.getElem?_map, Option.map_eq_some_iff] at hj
      obtain ⟨x, _, rfl⟩ := hj; rfl)
    (fun j cs i x hj hi => by
      rw [List.getElem?_map, Option.map_eq_some_iff] at hj
      obtain ⟨y, hy, rfl⟩ := hj
      obtain ⟨rfl⟩ : i = 0 := by
        have := (List.getElem?_eq_some_iff.1 hi).1
        simp at this; omega
      rw [List.getD_eq_getElem?_getD, hy]
      simpa using hcell j y hy)
    (fun j cs i x hj hi => rfl)
    (fun j cs i x hj hi => by
      rw [List.getElem?_map, Option.map_eq_some_iff] at hj
      obtain ⟨y, hy, rfl⟩ := hj
      obtain ⟨rfl⟩ : i = 0 := by
        have := (List.getElem?_eq_some_iff.1 hi).1
        simp at this; omega
      cases hi
      rw [List.getD_eq_getElem?_getD, hy]
      have hmem : y.data.toList ∈ splitL c s := by rw [← hb']; exact List.mem_map_of_mem (List.mem_of_getElem? hy)
      have := p2 _ hmem
      exact Imm.str y.data.toList (Nat.le_trans this hs))
  rw [hl] at key
  exact key
/-! telegram.text -/
theorem imm_str {w : World} {M : Nat → Prop} {s : List UInt8} {v : Value} (h : Imm w M (.str s) v) : v = .string ⟨s.toArray⟩ ∧ s.length ≤ lim := by
  cases h with
  | str _ hn => exact ⟨rfl, hn⟩
theorem imm_sl {w : World} {M : Nat → Prop} {sz : Nat} {l : List (List AV)} {v : Value} (h : Imm w M (.sl sz l) v) :
    ∃ a cap, v = .slice a l.length cap ∧ l.length ≤ cap ∧ ∀ (j : Nat) cs, l[j]? = some cs → ∃ b off, a = some ⟨b, off, none⟩ ∧ b < w.heap.size ∧ ∃ f : Nat → Value, ∀ (i : Nat) x, cs[i]? = some x → w.cell? ⟨b, off + (j * sz + i), none⟩ = some (f i) ∧ Imm w M x (f i) := by
  cases h with
  | slnil _ a cap => exact ⟨a, cap, rfl, Nat.zero_le _, fun j cs hj => by simp at hj⟩
  | sl _ _ b off cap f hb hM hcap hn hs hc h1 h =>
    exact ⟨_, cap, rfl, hcap, fun j cs hj => ⟨b, off, rfl, hb, f j, fun i x hi => ⟨hc j cs i x hj hi, h j cs i x hj hi⟩⟩⟩
abbrev HEl := List UInt8 × List (List UInt8 × Unit) × Unit
def conv (e : HEl) : ByteArray × List ByteArray := (⟨e.1.toArray⟩, e.2.1.map fun p => ⟨p.1.toArray⟩)
theorem elemB_conv (e : HEl) : Y3.elemB (conv e) = elemL e := by
  simp [Y3.elemB, elemL, conv, Function.comp_def]
theorem textB_conv (k c : List UInt8) (es : List HEl) : Y3.textB ⟨k.toArray⟩ ⟨c.toArray⟩ (es.map conv) = textL (k, c, es, ()) := by
  have h1 : Y3.headB ⟨k.toArray⟩ ⟨c.toArray⟩ = headL k c := by
    unfold Y3.headB headL
    have : (⟨c.toArray⟩ : ByteArray) = ByteArray.empty ↔ c = [] := by
      constructor
      · intro h
        have := congrArg (fun b : ByteArray => b.data.toList) h
        simpa using this
      · rintro rfl; rfl
    simp only [this]
  have h2 : (es.map conv).map Y3.elemB = es.map elemL := by rw [List.map_map]; exact List.map_congr_left fun e _ => elemB_conv e
  simp only [Y3.textB, Y3.bodyB, textL, h1, h2]
theorem elAt {w : World} {M : Nat → Prop} {es : List HEl} {a : Option Addr} {cap : Nat} {l : List (List AV)} (hl : l = es.map fun e => [AV.str e.1, AV.sl 1 (e.2.1.map fun p => [AV.str p.1])])
    (h : ∀ (j : Nat) cs, l[j]? = some cs → ∃ b off, a = some ⟨b, off, none⟩ ∧ b < w.heap.size ∧ ∃ f : Nat → Value, ∀ (i : Nat) x, cs[i]? = some x → w.cell? ⟨b, off + (j * 2 + i), none⟩ = some (f i) ∧ Imm w M x (f i)) :
    ∀ (j : Nat) e, (es.map conv)[j]? = some e → Y3.ElAt w a j e := by
  intro j e' he
  rw [List.getElem?_map, Option.map_eq_some_iff] at he
  obtain ⟨e, he, rfl⟩ := he
  obtain ⟨b, off, ha, hb, f, hf⟩ := h j _ (by rw [hl, List.getElem?_map, he]; rfl)
  obtain ⟨c0, i0⟩ := hf 0 _ rfl
  obtain ⟨c1, i1⟩ := hf 1 _ rfl
  obtain ⟨pa, pcap, e1, e2, e3⟩ := imm_sl i1
  rw [(imm_str i0).1] at c0
  rw [e1] at c1
  rw [List.length_map] at c1 e2
  refine ⟨b, off, pa, pcap, ha, hb, c0, ?_, ?_, ?_⟩
  · rw [show off + j * 2 + 1 = off + (j * 2 + 1) from rfl, c1]
    simp [conv]
  · simpa [conv] using e2
  · intro i p hp
    simp only [conv, List.getElem?_map, Option.map_eq_some_iff] at hp
    obtain ⟨q, hq, rfl⟩ := hp
    obtain ⟨b', o', h1, h2, g, h3⟩ := e3 i _ (by rw [List.getElem?_map, hq]; rfl)
    obtain ⟨c2, i2⟩ := h3 0 _ rfl
    rw [(imm_str i2).1] at c2
    exact ⟨b', o', h1, h2, by simpa using c2⟩
theorem tc25 : TC Tryd.prog 25 ⟨g25, sp25⟩ := by
  rintro ⟨⟨k, c, es, ⟨⟩⟩, ⟨⟩⟩ r h
  simp only [sp25] at h
  split at h
  case isFalse => cases h
  rename_i hlen
  cases h
  intro w D vs hm ha
  obtain ⟨hl, hs⟩ := ha
  match vs, hl with
  | [x], _ =>
    have h0 := hs 0 _ rfl
    obtain ⟨us, hx, hul, hu⟩ := h0
    rw [List.getD_cons_zero] at hx
    subst hx
    match us, hul with
    | [u0, u1, u2], _ =>
      have i0 := (hu 0 _ rfl).1
      have i1 := (hu 1 _ rfl).1
      have i2 := (hu 2 _ rfl).1
      obtain ⟨e0, _⟩ := imm_str i0
      obtain ⟨e1, _⟩ := imm_str i1
      obtain ⟨a, cap, e2, hcap, hcells⟩ := imm_sl i2
      simp only [List.getD_cons_zero, List.getD_cons_succ] at e0 e1 e2
      subst e0; subst e1
      have el := elAt (es := es) (cap := cap) rfl hcells
      have hn : (es.map fun e : HEl => [AV.str e.1, AV.sl 1 (e.2.1.map fun p => [AV.str p.1])]).length = es.length := List.length_map ..
      have hn2 : (es.map conv).length = es.length := List.length_map ..
      have e2' : u2 = .slice a (es.map conv).length cap := by rw [e2, hn2]; exact congrArg (fun n => Value.slice a n cap) hn
      subst e2'
      have hcap' : (es.map conv).length ≤ cap := by rw [hn2, ← hn]; exact hcap
      have T := Y3.textC w ⟨k.toArray⟩ ⟨c.toArray⟩ a cap (es.map conv) el hcap' (by rw [textB_conv]; exact hlen)
      rw [textB_conv] at T
      refine T.mono fun e w' ⟨he, hb⟩ => ⟨_, D, he, mem_below hm hb, Imm.str _ hlen, fun _ _ h => h⟩
end Go.Proofs.YtodandhnddjfpaaDoor
