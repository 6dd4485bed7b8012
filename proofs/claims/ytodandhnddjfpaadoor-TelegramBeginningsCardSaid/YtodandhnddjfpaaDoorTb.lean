/- telegram.text: what it returns, walked in the kit's own way. -/
import Derived.Test.YtodandhnddjfpaaDoorTa
import Derived.Deep.RegionWith
namespace Go.Proofs
set_option linter.unusedVariables false
open Go.Shelf Go.RowKit Go.Lib
namespace Y3
def elemB (e : ByteArray × List ByteArray) : List UInt8 := ((([46] ++ e.1.data.toList) ++ [47]) ++ Lib.join (e.2.map (·.data.toList)) [47]) ++ [10]
def headB (k c : ByteArray) : List UInt8 := if c = ByteArray.empty then k.data.toList ++ [10] else (k.data.toList ++ [10]) ++ (c.data.toList ++ [10])
def bodyB (k c : ByteArray) (es : List (ByteArray × List ByteArray)) : List UInt8 := headB k c ++ (es.map elemB).flatten
def textB (k c : ByteArray) (es : List (ByteArray × List ByteArray)) : List UInt8 := bodyB k c es ++ (([69, 78, 68] ++ k.data.toList) ++ [10])
def ElAt (w : World) (a : Option Addr) (j : Nat) (e : ByteArray × List ByteArray) : Prop :=
  ∃ b off pa pcap, a = some ⟨b, off, none⟩ ∧ b < w.heap.size ∧ w.cell? ⟨b, off + j * 2, none⟩ = some (.string e.1) ∧ w.cell? ⟨b, off + j * 2 + 1, none⟩ = some (.slice pa e.2.length pcap) ∧ e.2.length ≤ pcap ∧
    ∀ (i : Nat) p, e.2[i]? = some p → ∃ b' o', pa = some ⟨b', o', none⟩ ∧ b' < w.heap.size ∧ w.cell? ⟨b', o' + i, none⟩ = some (.string p)
def Bd (B b : Nat) (l : List UInt8) (w : World) : Prop := IsBuilder 67 5 B b (byteCells l) w
theorem write (B b : Nat) (l : List UInt8) (s : ByteArray) (w : World) (h : Bd B b l w) (hlen : l.length + s.size ≤ 140737488355328) (hBw : B ≤ w.heap.size) :
    Calls Tryd.prog 37 #[.pointer (some ⟨b, 0, none⟩), .string s] w fun e w' => e = .returned (.tuple #[.int .i64 s.size, .nilIface]) ∧ Bd B b (l ++ s.data.toList) w' ∧ Below B w w' :=
  (Any.Builder_WriteString { Tryd.laysJoin with } Tryd.extra B b (byteCells l) s w h (by rw [byteCells_length]; exact hlen) hBw).mono fun e w' ⟨he, h1, h2⟩ => ⟨he, .inr (by rw [byteCells_append, ← strCells_eq]; exact h1), h2⟩
theorem strg (B b : Nat) (l : List UInt8) (w : World) (h : Bd B b l w) (hBw : B ≤ w.heap.size) :
    Calls Tryd.prog 39 #[.pointer (some ⟨b, 0, none⟩)] w fun e w' => e = .returned (.string ⟨l.toArray⟩) ∧ Below B w w' :=
  Any.Builder_String_any { Tryd.laysJoin with } Tryd.extra B b l w h hBw
theorem joinC (a : Option Addr) (cap : Nat) (xs : List ByteArray) (sep : ByteArray) (w : World) (hcap : xs.length ≤ cap)
    (hx : ∀ (i : Nat) p, xs[i]? = some p → ∃ b o, a = some ⟨b, o, none⟩ ∧ b < w.heap.size ∧ w.cell? ⟨b, o + i, none⟩ = some (.string p)) (hN : xs.length ≤ 140737488355328)
    (hlen : (Lib.join (xs.map (·.data.toList)) sep.data.toList).length ≤ 140737488355328) :
    Calls Tryd.prog 38 #[.slice a xs.length cap, .string sep] w fun e w' => e = .returned (.string ⟨(Lib.join (xs.map (·.data.toList)) sep.data.toList).toArray⟩) ∧ Below w.heap.size w w' := by
  cases xs with
  | nil => exact (Any.strings_Join_none Tryd.laysJoin Tryd.extra a cap sep w).mono fun e w' ⟨he, hw⟩ => ⟨he, hw ▸ Below.refl _ _⟩
  | cons x r =>
    obtain ⟨b, o, rfl, hb, _⟩ := hx 0 x rfl
    refine Any.strings_Join Tryd.laysJoin Tryd.extra b o cap (x :: r) sep w (fun j p hj => ?_) hb hN hcap hlen
    obtain ⟨b', o', h1, _, h2⟩ := hx j p hj
    cases h1
    exact h2
/-- what does not turn while the builder is written -/
structure Fr (w : World) (k c : ByteArray) (v : Value) (wr : World) : Prop where
  below : Below w.heap.size w wr
  size : w.heap.size + 1 ≤ wr.heap.size
  c0 : wr.cell? ⟨w.heap.size, 0, none⟩ = some (.string k)
  c1 : wr.cell? ⟨w.heap.size, 1, none⟩ = some (.string c)
  c2 : wr.cell? ⟨w.heap.size, 2, none⟩ = some v
theorem Fr.step {w wr wr' : World} {k c : ByteArray} {v : Value} (h : Fr w k c v wr) (b : Below (w.heap.size + 1) wr wr') : Fr w k c v wr' where
  below := h.below.trans (b.mono (Nat.le_succ _))
  size := Nat.le_trans h.size b.size
  c0 := by rw [b.cell (p := ⟨w.heap.size, 0, none⟩) (Nat.lt_succ_self _)]; exact h.c0
  c1 := by rw [b.cell (p := ⟨w.heap.size, 1, none⟩) (Nat.lt_succ_self _)]; exact h.c1
  c2 := by rw [b.cell (p := ⟨w.heap.size, 2, none⟩) (Nat.lt_succ_self _)]; exact h.c2
theorem Fr.start (w : World) (k c : ByteArray) (v : Value) (o : Obj) : Fr w k c v ((w.alloc (.cells #[.string k, .string c, v] 24)).alloc o) := by
  refine Fr.step (wr := w.alloc (.cells #[.string k, .string c, v] 24)) ⟨(Below.refl _ _).alloc (Nat.le_refl _) _, by simp, ?_, ?_, ?_⟩ ((Below.refl _ _).alloc (by simp) _) <;>
    (rw [Lib.cell_of_heap (heap_alloc_new w _)]; rfl)
theorem Bd.below {B b : Nat} {l : List UInt8} {w w' : World} (h : Bd B b l w) (k : Below w.heap.size w w') : Bd B b l w' := by
  have go : ∀ p, BuilderAt 67 5 B b p (byteCells l) w → BuilderAt 67 5 B b p (byteCells l) w' := by
    rintro p ⟨h1, v, h2, h3, h4⟩
    have lt : ∀ {i : Nat} {o : Obj}, w.heap[i]? = some o → i < w.heap.size := fun {i o} h => by
      rcases Nat.lt_or_ge i w.heap.size with h' | h'
      · exact h'
      · simp [Array.getElem?_eq_none h'] at h
    refine ⟨h1, v, by rw [k.block b (lt h2)]; exact h2, ⟨h3.1, ?_⟩, h4⟩
    rcases h3.2 with h | ⟨g, cap, cur, e1, e2, e3, e4⟩
    · exact .inl h
    · exact .inr ⟨g, cap, cur, e1, e2, by rw [k.block g (lt e3)]; exact e3, e4⟩
  exact h.imp (go _) (go _)
/-- the state of a round -/
structure St (w : World) (k c : ByteArray) (v : Value) (l : List UInt8) (W : World) : Prop where
  bd : Bd (w.heap.size + 1) (w.heap.size + 1) l W
  fr : Fr w k c v W
theorem St.below {w : World} {k c : ByteArray} {v : Value} {l : List UInt8} {W W' : World} (h : St w k c v l W) (b : Below W.heap.size W W') : St w k c v l W' := ⟨h.bd.below b, h.fr.step (b.mono h.fr.size)⟩
theorem St.alloc {w : World} {k c : ByteArray} {v : Value} {l : List UInt8} {W : World} (h : St w k c v l W) (o : Obj) : St w k c v l (W.alloc o) := h.below ((Below.refl _ _).alloc (Nat.le_refl _) _)
theorem St.drew {w : World} {k c : ByteArray} {v : Value} {l : List UInt8} {W : World} (h : St w k c v l W) : St w k c v l W.drew := h.below ((Below.refl _ _).drew)
theorem joinS {w W : World} {k c : ByteArray} {v : Value} {l : List UInt8} (h : Hid (St w k c v l W)) {pa : Option Addr} {pcap : Nat} {xs : List ByteArray} (hcap : xs.length ≤ pcap)
    (hx : Hid (∀ (i : Nat) p, xs[i]? = some p → ∃ b o, pa = some ⟨b, o, none⟩ ∧ b < w.heap.size ∧ w.cell? ⟨b, o + i, none⟩ = some (.string p)))
    (hlen : (Lib.join (xs.map (·.data.toList)) [47]).length ≤ 140737488355328) (hN : xs.length ≤ 140737488355328) (q : Nat) (hq : q < W.heap.size) :
    Calls Tryd.prog 38 #[.slice pa xs.length pcap, .string ⟨#[47]⟩] W fun e w' => e = .returned (.string ⟨(Lib.join (xs.map (·.data.toList)) [47]).toArray⟩) ∧ Hid (St w k c v l w') ∧ (∀ i, w'.cell? ⟨q, i, none⟩ = W.cell? ⟨q, i, none⟩) ∧ Hid (q < w'.heap.size) := by
  refine (joinC pa pcap xs ⟨#[47]⟩ W hcap (fun i p hi => ?_) hN hlen).mono fun e w' ⟨he, hb⟩ => ⟨he, h.out.below hb, fun i => hb.cell (p := ⟨q, i, none⟩) hq, Nat.lt_of_lt_of_le hq hb.size⟩
  obtain ⟨b, o, h1, h2, h3⟩ := hx.out i p hi
  exact ⟨b, o, h1, Nat.lt_of_lt_of_le h2 h.out.fr.below.size, by rw [h.out.fr.below.cell (p := ⟨b, o + i, none⟩) h2]; exact h3⟩
theorem writeS {w W : World} {k c : ByteArray} {v : Value} {l : List UInt8} (h : Hid (St w k c v l W)) (s : ByteArray) (hlen : l.length + s.size ≤ 140737488355328) :
    Calls Tryd.prog 37 #[.pointer (some ⟨w.heap.size + 1, 0, none⟩), .string s] W fun e w' => e = .returned (.tuple #[.int .i64 s.size, .nilIface]) ∧ Hid (St w k c v (l ++ s.data.toList) w') :=
  (write _ _ l s W h.out.bd hlen h.out.fr.size).mono fun e w' ⟨he, h1, h2⟩ => ⟨he, ⟨h1, h.out.fr.step h2⟩⟩
def elS (e : ByteArray × List ByteArray) : ByteArray := (((⟨#[46]⟩ ++ e.1) ++ ⟨#[47]⟩) ++ ⟨(Lib.join (e.2.map (·.data.toList)) [47]).toArray⟩) ++ ⟨#[10]⟩
theorem elS_list (e : ByteArray × List ByteArray) : (elS e).data.toList = elemB e := by simp [elS, elemB]
theorem elS_size (e : ByteArray × List ByteArray) : (elS e).size = (elemB e).length := by rw [← elS_list]; simp
theorem elemB_length (e : ByteArray × List ByteArray) : (elemB e).length = (Lib.join (e.2.map (·.data.toList)) [47]).length + e.1.size + 3 := by simp only [elemB, List.length_append, List.length_cons, List.length_nil, Array.length_toList, ByteArray.size_data]; omega
theorem parts_le (xs : List (List UInt8)) : xs.length ≤ (Lib.join xs [47]).length + 1 := by
  cases xs with
  | nil => simp
  | cons x r => rw [Lib.join_length]; simp <;> omega
theorem count_le (es : List (ByteArray × List ByteArray)) : es.length ≤ ((es.map elemB).flatten).length := by
  induction es with
  | nil => simp
  | cons e r ih =>
    have := elemB_length e
    simp only [List.map_cons, List.flatten_cons, List.length_append, List.length_cons]
    omega
theorem toList_append (a b : ByteArray) : (a ++ b).data.toList = a.data.toList ++ b.data.toList := by simp
/-- a region of the code by its number -/
def findR (n : Nat) : Code → Option Code
  | .region i ops d => if i = n then some (.region i ops d) else none
  | .seq a b => (findR n a).or (findR n b)
  | .cond _ a b => (findR n a).or (findR n b)
  | .block _ a => findR n a
  | .loop a => findR n a
  | _ => none
noncomputable def r8 : Code := (findR 8 (Tryd.f25.body.getD .skip)).getD .skip
set_option maxHeartbeats 4000000 in
set_option maxRecDepth 100000 in
theorem round8 {w WA : World} {k c : ByteArray} {v : Value} {es : List (ByteArray × List ByteArray)} {j : Nat} {e : ByteArray × List ByteArray} {pa : Option Addr} {pcap q : Nat}
    (Hps : Hid (∀ (i : Nat) p, e.2[i]? = some p → ∃ b o, pa = some ⟨b, o, none⟩ ∧ b < w.heap.size ∧ w.cell? ⟨b, o + i, none⟩ = some (.string p))) (hpc : e.2.length ≤ pcap)
    (hj1 : (Lib.join (e.2.map (·.data.toList)) [47]).length + e.1.size + 3 ≤ 140737488355328) (hj2 : e.2.length ≤ 140737488355328)
    (Hsum : Hid ((headB k c ++ ((es.take j).map elemB).flatten).length + (elemB e).length ≤ 140737488355328))
    (Hstep : Hid (headB k c ++ ((es.take (j + 1)).map elemB).flatten = headB k c ++ ((es.take j).map elemB).flatten ++ elemB e))
    (HS : Hid (St w k c v (headB k c ++ ((es.take j).map elemB).flatten) WA)) (hA : WA.cell? ⟨q, 0, none⟩ = some (.string e.1)) (hB : WA.cell? ⟨q, 1, none⟩ = some (.slice pa e.2.length pcap)) (hq : q < WA.heap.size)
    (cd : Code) (hcd : r8 = cd) (K K2 K3 : Act → World → Prop) (R : Ending → World → Prop) (Q : Exit → Act → World → Prop) (hQd : Q = Exit.then K2 (Exit.inBlock 0 (Exit.then K3 (bodyPost Tryd.prog Tryd.f25 R)))) {x0 x1 x2 x4 x6 x7 x8 x9 x10 x11 x12 x13 x14 x15 x16 x17 x18 x19 x20 x21 x22 x23 x24 x25 x26 x27 x28 x29 x30 x31 x32 x33 x34 x35 x36 x37 x38 x39 x40 : Value}
    (T : Array Value) (hT : T = #[x0, x1, x2, .pointer (some ⟨w.heap.size + 1, 0, none⟩), x4, .pointer (some ⟨q, 0, none⟩), x6, x7, x8, x9, x10, x11, x12, x13, x14, x15, x16, x17, x18, x19, x20, x21, x22, x23, x24, x25, x26, x27, x28, x29, x30, x31, x32, x33, x34, x35, x36, x37, x38, x39, x40])
    (hQ : ∀ y24 y25 y26 y27 y28 y29 y30 y31 y32 y33 w', Hid (St w k c v (headB k c ++ ((es.take (j + 1)).map elemB).flatten) w') → Exit.inBlock 1 (Exit.then K Q) .normal { tmps := #[x0, x1, x2, .pointer (some ⟨w.heap.size + 1, 0, none⟩), x4, .pointer (some ⟨q, 0, none⟩), x6, x7, x8, x9, x10, x11, x12, x13, x14, x15, x16, x17, x18, x19, x20, x21, x22, x23, y24, y25, y26, y27, y28, y29, y30, y31, y32, y33, x34, x35, x36, x37, x38, x39, x40], defers := [] } w') :
    Code.wp Tryd.prog cd (Exit.inBlock 1 (Exit.then K Q)) { tmps := T, defers := [] } WA := by
  subst hcd
  subst hQd
  subst hT
  simp only [r8, Tryd.f25, findR, Option.getD, Option.or, reduceIte, Nat.reduceEqDiff]
  have HSd : Hid (St w k c v (headB k c ++ ((es.take j).map elemB).flatten) WA.drew) := HS.out.drew
  have Hq : Hid (q < WA.drew.heap.size) := hq
  have HcA : Hid (WA.drew.cell? ⟨q, 0, none⟩ = some (.string e.1)) := hA
  have HcB : Hid (WA.drew.cell? ⟨q, 1, none⟩ = some (.slice pa e.2.length pcap)) := hB
  have HQ := Any.hidJ hQ
  clear HS hq hQ
  go_region_with (first
    | (go_at_call 38; refine (joinS HSd hpc Hps (by omega) (by omega) q Hq.out).mono ?_; rintro e' w' ⟨rfl, HS', hcc, hq'⟩; have hA' := (hcc 0).trans HcA.out; have hB' := (hcc 1).trans HcB.out; clear hcc)
    | (go_at_call 37; refine (writeS (by assumption) (elS e) (by rw [elS_size]; exact Hsum.out)).mono ?_; rintro e' w' ⟨rfl, HS'⟩; rw [elS_list, ← Hstep.out] at HS'))
  all_goals exact HQ.out _ _ _ _ _ _ _ _ _ _ _ HS'
end Y3
end Go.Proofs
