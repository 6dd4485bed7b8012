import Derived.Test.YtjpikgfknnamjaaDoorHd
open Go Go.Proofs Go.Abs Go.RowKit
set_option linter.unusedVariables false
set_option maxRecDepth 100000
namespace Go.Proofs.YtjpikgfknnamjaaDoor
theorem lit74 (f : Nat → Value) : ((List.range 74).map f).toArray = #[f 0, f 1, f 2, f 3, f 4, f 5, f 6, f 7, f 8, f 9, f 10, f 11, f 12, f 13, f 14, f 15, f 16, f 17, f 18, f 19, f 20, f 21, f 22, f 23, f 24, f 25, f 26, f 27, f 28, f 29, f 30, f 31, f 32, f 33, f 34, f 35, f 36, f 37, f 38, f 39, f 40, f 41, f 42, f 43, f 44, f 45, f 46, f 47, f 48, f 49, f 50, f 51, f 52, f 53, f 54, f 55, f 56, f 57, f 58, f 59, f 60, f 61, f 62, f 63, f 64, f 65, f 66, f 67, f 68, f 69, f 70, f 71, f 72, f 73] := by rfl
theorem arr_of (t : Array Value) (n : Nat) (h : t.size = n) : t = ((List.range n).map fun i => t.getD i undef).toArray := by
 subst h
 apply Array.ext
 ·simp
 ·intro i h1 h2
  simp [Array.getD, h1]
theorem fin20 (c : Int) (ok : Bool) : finK ⟨G, 74, 0, []⟩ g20 [.cell 8 3, .cell 9 4] .ret ⟨[(8, .v (.c (.ref 500008 1 0 0))), (9, .v (.c (.ref 500009 1 0 0)))], [(500008, .box [.k (.int .i64 c)]), (500009, .box [.k (.bool ok)])]⟩ = some ((c, ok, ()), ()) := by kernel_rfl
section
variable {w0 : World} {M0 : Nat → Prop} {D0 : Abs.Names}
theorem at_slot {S : SS} {w : World} {D : Abs.Names} {a : Act} (he : EnvRep w D (S.st 74).env (ext #[] a).tmps) {i : Nat} (hi : i < 74) : Slot w D ((lkE S.env i).av S.objs) (a.tmps.getD i undef) := by
 have h := he.2 i ((lkE S.env i).av S.objs) (by simp only [SS.st, List.getElem?_map, List.getElem?_range hi, Option.map_some])
 simpa [ext, extd] using h
theorem box_ref {S : SS} {w : World} {D : Abs.Names} {a : Act} (hm : Mem w0 M0 (S.st 74).objs D w) (he : EnvRep w D (S.st 74).env (ext #[] a).tmps) {i n sz : Nat} (hi : i < 74) (h : lkE S.env i = .v (.c (.ref n sz 0 0))) :
  ∃ b, D n = some (some b) ∧ a.tmps.getD i undef = .pointer (some ⟨b, 0, none⟩) := by
 have hs := at_slot he hi
 rw [h] at hs
 obtain ⟨b, h1, h2⟩ := hs
 exact ⟨b, h1, by rw [h2]; simp⟩
theorem end20 {S : SS} {w W : World} {D : Abs.Names} {a' : Act} {B8 B9 : Nat} {T8 T9 : TypeId} {c : Int} {ok : Bool} (hno : ∀ b, ¬ M0 b) (hD0 : PinsOk [] D0) (hm : Mem w0 M0 (S.st 74).objs D w) (hp : Pin D0 D (S.st 74).objs)
  (d8 : D 500008 = some (some B8)) (d9 : D 500009 = some (some B9)) (hs : a'.tmps.size = 74) (t8 : a'.tmps[8]? = some (.pointer (some ⟨B8, 0, none⟩))) (t9 : a'.tmps[9]? = some (.pointer (some ⟨B9, 0, none⟩)))
  (kx : KX w B8 B9 W) (h8 : W.heap[B8]? = some (.cells #[.int .i64 c] T8 (0, 0))) (h9 : W.heap[B9]? = some (.cells #[.bool ok] T9 (0, 0))) :
  Sat w0 M0 D0 (SS.st 74 ⟨[(8, .v (.c (.ref 500008 1 0 0))), (9, .v (.c (.ref 500009 1 0 0)))], [(500008, .box [.k (.int .i64 c)]), (500009, .box [.k (.bool ok)])]⟩) (ext #[] a') W := by
 let D' : Abs.Names := fun n => if n = 500008 ∨ n = 500009 ∨ top ≤ n then D n else none
 have e8 : D' 500008 = some (some B8) := by simp only [D']; rw [if_pos (by simp)]; exact d8
 have e9 : D' 500009 = some (some B9) := by simp only [D']; rw [if_pos (by simp)]; exact d9
 have sub : ∀ n d, D' n = some d → D n = some d := fun n d h => by
  simp only [D'] at h
  split at h
  ·exact h
  ·cases h
 have subM : ∀ b, Names.M D' b → Names.M D b := fun b ⟨n, h⟩ => ⟨n, sub _ _ h⟩
 have t8' : a'.tmps.getD 8 undef = .pointer (some ⟨B8, 0, none⟩) := by simp [Array.getD_eq_getD_getElem?, t8]
 have t9' : a'.tmps.getD 9 undef = .pointer (some ⟨B9, 0, none⟩) := by simp [Array.getD_eq_getD_getElem?, t9]
 have out : ∀ b, b < w0.heap.size → b ≠ B8 ∧ b ≠ B9 := fun b hb => ⟨fun e => by
   subst e
   rcases hm.own b ⟨500008, by decide, d8⟩ with h | h
   ·exact hno _ h
   ·omega, fun e => by
   subst e
   rcases hm.own b ⟨500009, by decide, d9⟩ with h | h
   ·exact hno _ h
   ·omega⟩
 have hlook : ∀ n o, Go.Abs.look n (SS.st 74 ⟨[(8, .v (.c (.ref 500008 1 0 0))), (9, .v (.c (.ref 500009 1 0 0)))], [(500008, .box [.k (.int .i64 c)]), (500009, .box [.k (.bool ok)])]⟩).objs = some o →
   (n = 500008 ∧ o = .box [.int .i64 c]) ∨ (n = 500009 ∧ o = .box [.bool ok]) := fun n o h => by
  have h : (if 500008 = n then some (Go.Abs.Obj.box [.int .i64 c]) else if 500009 = n then some (Go.Abs.Obj.box [.bool ok]) else none) = some o := h
  split at h
  ·rename_i e; cases h; exact .inl ⟨e.symm, rfl⟩
  ·split at h
   ·rename_i e; cases h; exact .inr ⟨e.symm, rfl⟩
   ·cases h
 have mem : Mem w0 M0 (SS.st 74 ⟨[(8, .v (.c (.ref 500008 1 0 0))), (9, .v (.c (.ref 500009 1 0 0)))], [(500008, .box [.k (.int .i64 c)]), (500009, .box [.k (.bool ok)])]⟩).objs D' W := by
  refine ⟨fun n hn => ?_, fun n hn => ?_, fun n o d h1 h2 => ?_, fun n m b h1 h2 => hm.inj n m b (sub _ _ h1) (sub _ _ h2), fun b hb => Nat.lt_of_lt_of_le (hm.lt b (subM b hb)) kx.size, fun b ⟨n, hn, hb⟩ => hm.own b ⟨n, hn, sub _ _ hb⟩, ?_, kx.os.trans hm.os, kx.tape.trans hm.tape, kx.output.trans hm.output,
   hm.glob.mono ⟨kx.size, fun b hb hM => kx.block b hb (fun e => hM (e ▸ ⟨500008, d8⟩)) (fun e => hM (e ▸ ⟨500009, d9⟩))⟩ fun b _ hb => subM b hb⟩
  ·by_cases h1 : n = 500008
   ·subst h1; rw [e8]; rfl
   by_cases h2 : n = 500009
   ·subst h2; rw [e9]; rfl
   have e1 : D' n = none := by simp only [D']; rw [if_neg (by omega)]
   rw [e1]
   cases h3 : Go.Abs.look n (SS.st 74 ⟨[(8, .v (.c (.ref 500008 1 0 0))), (9, .v (.c (.ref 500009 1 0 0)))], [(500008, .box [.k (.int .i64 c)]), (500009, .box [.k (.bool ok)])]⟩).objs with
   | none => rfl
   | some o => rcases hlook n o h3 with ⟨e, _⟩ | ⟨e, _⟩ <;> omega
  ·obtain ⟨o, ho⟩ := Option.isSome_iff_exists.1 hn
   rcases hlook n o ho with ⟨e, _⟩ | ⟨e, _⟩ <;> rw [e] <;> decide
  ·rcases hlook n o h1 with ⟨rfl, rfl⟩ | ⟨rfl, rfl⟩
   ·rw [e8] at h2; cases h2
    exact ⟨[.int .i64 c], T8, h8, rfl, fun i x hx => match i, hx with | 0, rfl => ⟨Imm.int _ _, rfl⟩⟩
   ·rw [e9] at h2; cases h2
    exact ⟨[.bool ok], T9, h9, rfl, fun i x hx => match i, hx with | 0, rfl => ⟨Imm.bool _, rfl⟩⟩
  ·have same : ∀ b, b < w0.heap.size → W.heap[b]? = w.heap[b]? := fun b hb => kx.block b (Nat.lt_of_lt_of_le hb hm.grow.size) (out b hb).1 (out b hb).2
   exact ⟨⟨Nat.le_trans hm.grow.size kx.size, fun b hb hM => (same b hb).trans (hm.grow.same b hb hM)⟩, fun b hb => by rw [← hm.grow.row b hb]; simp only [World.row, World.shape?, same b hb]⟩
 refine ⟨rfl, D', mem, ⟨by simp [ext, extd, SS.st, hs], fun i x hx => ?_⟩, fun n d hn => ?_⟩
 ·simp only [SS.st, List.getElem?_map] at hx
  obtain ⟨j, hj, rfl⟩ := Option.map_eq_some_iff.1 hx
  obtain ⟨hj1, rfl⟩ : i < 74 ∧ j = i := by
   rw [List.getElem?_eq_some_iff] at hj
   obtain ⟨h1, h2⟩ := hj
   simp at h1 h2
   exact ⟨h1, h2.symm⟩
  have et : (ext #[] a').tmps.getD j undef = a'.tmps.getD j undef := by simp [ext, extd]
  rw [et]
  by_cases h1 : j = 8
  ·subst h1
   rw [t8']
   exact ⟨B8, e8, rfl⟩
  by_cases h2 : j = 9
  ·subst h2
   rw [t9']
   exact ⟨B9, e9, rfl⟩
  have e : lkE [(8, SV.v (.c (.ref 500008 1 0 0))), (9, .v (.c (.ref 500009 1 0 0)))] j = .any := by
   simp only [lkE, if_neg (Ne.symm h1), if_neg (Ne.symm h2)]
  rw [e]
  exact slot_any _ _ _
 ·obtain ⟨h1, h2⟩ := hp n d hn
  have hge : top ≤ n := by
   rcases Nat.lt_or_ge n top with h | h
   ·have := hD0 n h (by rw [hn]; rfl)
    cases this
   ·exact h
  exact ⟨by simp only [D']; rw [if_pos (.inr (.inr hge))]; exact h1, fun h => by omega⟩
end
end Go.Proofs.YtjpikgfknnamjaaDoor
