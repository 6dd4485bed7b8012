/- ways: the table of lengths is laid. -/
import Derived.Test.YtjficagemeiecaaDoorH1
import Derived.Shelf.Abstract
import Derived.Shelf.RegionOpen
import Derived.OwnWalkIn
import Derived.TacticsInMore
import Derived.LoopNIn
import Derived.LoopIn
import Derived.Deep.RegionWith
import Derived.Deep.OwnRows
open Go Go.Proofs Go.Abs Go.RowKit Go.Shelf Go.Deep
set_option linter.unusedVariables false
set_option maxRecDepth 100000
set_option maxHeartbeats 4000000
namespace Go.Proofs.YtjficagemeiecaaDoor
theorem u74 : Tryd.prog.underlying 74 = some (.slice 26) := by kernel_rfl
theorem u26 : Tryd.prog.underlying 26 = some (.slice 3) := by kernel_rfl
theorem i26 : (Tryd.prog.info? 26).map (fun i => (i.zero, i.size, i.bytes)) = some (some (.slice none 0 0), 1, 24) := by kernel_rfl
theorem i3 : (Tryd.prog.info? 3).map (fun i => (i.zero, i.size, i.bytes)) = some (some (.int .i64 0), 1, 8) := by kernel_rfl
theorem mk74 (n : Nat) (hn : n ≤ 1000) (w : World) : (Instr.makeSlice 74 (.int .i64 (n : Int)) (.int .i64 (n : Int))).run Tryd.prog w = .ok (.slice (some ⟨w.heap.size, 0, none⟩) n n) (w.alloc (.cells (madeCells #[.slice none 0 0] n) 26)) := run_make_row' (P := Tryd.prog) 74 26 (.slice none 0 0) 24 u74 i26 rfl .i64 .i64 n (by omega) (by omega) w
theorem mk26 (n : Nat) (hn : n ≤ 1000) (w : World) : (Instr.makeSlice 26 (.int .i64 (n : Int)) (.int .i64 (n : Int))).run Tryd.prog w = .ok (.slice (some ⟨w.heap.size, 0, none⟩) n n) (w.alloc (.cells (madeCells #[.int .i64 0] n) 3)) := run_make_row' (P := Tryd.prog) 26 3 (.int .i64 0) 8 u26 i3 rfl .i64 .i64 n (by omega) (by omega) w
theorem run_store_func {P : Program} {w : World} {a : Addr} {m : Mode} (f : Fn) (x y : Array Value) : (store a (.func f x y) m).run P w = stored P w a (.func f x y) m := run_store P w a _ m rfl
attribute [local go_sem] run_store_func
theorem hidJ {p : Prop} (h : p) : Hid p := h
def rowsF (rw : Nat → Nat) (n i : Nat) : Nat → Value := fun j => if j < i then .slice (some ⟨rw j, 0, none⟩) n n else .slice none 0 0
/-- the table, as it lies -/
structure Tab (S n : Nat) (rw : Nat → Nat) (i : Nat) (M : Nat → Nat → Int) (W : World) : Prop where
  hR : W.rowIs (S + 1 + 1) 26 n (rowsF rw n i)
  hm : ∀ j, j < i → S + 4 ≤ rw j ∧ W.rowIs (rw j) 3 n fun k => .int .i64 (M j k)
  inj : ∀ j j', j < i → j' < i → rw j = rw j' → j = j'
/-- what does not turn while the table is laid -/
structure Bx (w : World) (S n : Nat) (na : Option Addr) (nc : Nat) (dv bv : Value) (W : World) : Prop where
  below : Below S w W
  size : S + 4 ≤ W.heap.size
  c0 : W.cell? ⟨S, 0, none⟩ = some (.slice na n nc)
  c1 : W.cell? ⟨S, 1, none⟩ = some dv
  c2 : W.cell? ⟨S + 1, 0, none⟩ = some bv
  c3 : W.cell? ⟨S + 1 + 1 + 1, 0, none⟩ = some (.slice (some ⟨S + 1 + 1, 0, none⟩) n n)
theorem blk_set {W : World} {a : Addr} {v : Value} {k : Nat} (h : k ≠ a.block) : (W.setCell a v).heap[k]? = W.heap[k]? := by simp [World.setCell, Array.getElem?_modify, Ne.symm h]
theorem below_set {S : Nat} {w W : World} (h : Below S w W) {a : Addr} (ha : S ≤ a.block) (v : Value) : Below S w (W.setCell a v) where
  os := h.os
  tape := h.tape
  output := h.output
  size := by simpa [World.setCell] using h.size
  block := fun k hk => by rw [blk_set (by omega)]; exact h.block k hk
theorem below_drew {S : Nat} {w W : World} (h : Below S w W) : Below S w W.drew := ⟨h.os, h.tape, h.output, h.size, h.block⟩
section
variable {w W : World} {S n nc : Nat} {na : Option Addr} {dv bv : Value} {rw : Nat → Nat} {i : Nat} {M : Nat → Nat → Int}
theorem Bx.set (h : Bx w S n na nc dv bv W) {a : Addr} (h1 : a.block = S + 1 + 1 ∨ S + 4 ≤ a.block) (v : Value) : Bx w S n na nc dv bv (W.setCell a v) where
  below := below_set h.below (by omega) v
  size := by simpa [World.setCell] using h.size
  c0 := (World.cell?_of_block (w := W) (blk_set (by simp only; omega))).trans h.c0
  c1 := (World.cell?_of_block (w := W) (blk_set (by simp only; omega))).trans h.c1
  c2 := (World.cell?_of_block (w := W) (blk_set (by simp only; omega))).trans h.c2
  c3 := (World.cell?_of_block (w := W) (blk_set (by simp only; omega))).trans h.c3
theorem Bx.alloc (h : Bx w S n na nc dv bv W) (o : Go.Obj) : Bx w S n na nc dv bv (W.alloc o) where
  below := h.below.alloc (by have := h.size; omega) o
  size := by have := h.size; simp; omega
  c0 := (World.cell?_of_block (w := W) (blk_alloc_lt _ _ _ (by have := h.size; simp only; omega))).trans h.c0
  c1 := (World.cell?_of_block (w := W) (blk_alloc_lt _ _ _ (by have := h.size; simp only; omega))).trans h.c1
  c2 := (World.cell?_of_block (w := W) (blk_alloc_lt _ _ _ (by have := h.size; simp only; omega))).trans h.c2
  c3 := (World.cell?_of_block (w := W) (blk_alloc_lt _ _ _ (by have := h.size; simp only; omega))).trans h.c3
theorem Bx.drew (h : Bx w S n na nc dv bv W) : Bx w S n na nc dv bv W.drew := ⟨below_drew h.below, h.size, h.c0, h.c1, h.c2, h.c3⟩
theorem Tab.alloc (h : Tab S n rw i M W) (o : Go.Obj) : Tab S n rw i M (W.alloc o) := ⟨h.hR.alloc o, fun j hj => ⟨(h.hm j hj).1, (h.hm j hj).2.alloc o⟩, h.inj⟩
theorem Tab.congr {M' : Nat → Nat → Int} (h : Tab S n rw i M W) (e : ∀ j k, j < i → k < n → M j k = M' j k) : Tab S n rw i M' W :=
  ⟨h.hR, fun j hj => ⟨(h.hm j hj).1, (h.hm j hj).2.congr fun k hk => by rw [e j k hj hk]⟩, h.inj⟩
theorem Tab.put (h : Tab S n rw i M W) {j : Nat} (hj : j < i) (k : Nat) (v : Int) : Tab S n rw i (fun j' k' => if j' = j ∧ k' = k then v else M j' k') (W.setCell ⟨rw j, k, none⟩ (.int .i64 v)) where
  hR := h.hR.setOther (by have := (h.hm j hj).1; simp only; omega) _
  hm := fun j' hj' => by
    refine ⟨(h.hm j' hj').1, ?_⟩
    by_cases e : j' = j
    · subst e
      refine ((h.hm j' hj').2.set k (.int .i64 v)).congr fun k' _ => ?_
      by_cases ek : k' = k <;> simp [ek]
    · refine ((h.hm j' hj').2.setOther (fun hb => e (h.inj j' j hj' hj hb)) _).congr fun k' _ => ?_
      simp [e]
  inj := h.inj
theorem Tab.push (hB : Bx w S n na nc dv bv W) (h : Tab S n rw i M W) : Tab S n (fun j => if j = i then W.heap.size else rw j) (i + 1) (fun j k => if j = i then 0 else M j k)
    ((W.alloc (.cells (madeCells #[Value.int IntKind.i64 0] n) 3)).setCell ⟨S + 1 + 1, i, none⟩ (.slice (some ⟨W.heap.size, 0, none⟩) n n)).drew where
  hR := by
    refine ((h.hR.alloc (.cells (madeCells #[Value.int IntKind.i64 0] n) 3)).set i (.slice (some ⟨W.heap.size, 0, none⟩) n n)).congr fun j _ => ?_
    unfold rowsF
    by_cases e : j = i
    · subst e; simp
    · rw [if_neg e]
      by_cases hl : j < i
      · rw [if_pos hl, if_pos (by omega)]; simp only [if_neg e]
      · rw [if_neg hl, if_neg (by omega)]
  hm := fun j hj => by
    by_cases e : j = i
    · subst e
      simp only [if_pos]
      refine ⟨hB.size, ?_⟩
      refine ((World.rowIs_made W (.int .i64 0) n 3).setOther (a := ⟨S + 1 + 1, j, none⟩) (by have := hB.size; simp only; omega) _).drew
    · simp only [if_neg e]
      obtain ⟨h1, h2⟩ := h.hm j (by omega)
      exact ⟨h1, ((h2.alloc _).setOther (a := ⟨S + 1 + 1, i, none⟩) (by simp only; omega) _).drew⟩
  inj := fun j j' hj hj' he => by
    have lt : ∀ j, j < i → rw j < W.heap.size := fun j hj => (h.hm j hj).2.lt
    by_cases e : j = i <;> by_cases e' : j' = i
    · omega
    · simp only [if_pos e, if_neg e'] at he; have := lt j' (by omega); omega
    · simp only [if_neg e, if_pos e'] at he; have := lt j (by omega); omega
    · simp only [if_neg e, if_neg e'] at he; exact h.inj j j' (by omega) (by omega) he
end
/-- the value of the function that ways returns -/
def fnV (S q : Nat) : Value := .func (.func 41) #[] #[.pointer (some ⟨S + 1 + 1 + 1, 0, none⟩), .pointer (some ⟨S + 1, 0, none⟩), .pointer (some ⟨S, 0, none⟩), .pointer (some ⟨q, 0, none⟩)]
/-- the state in which that function is called -/
structure Cl (w : World) (S n : Nat) (na : Option Addr) (nc : Nat) (dv bv : Value) (rw : Nat → Nat) (q : Nat) (M : Nat → Nat → Int) (W : World) : Prop where
  bx : Bx w S n na nc dv bv W
  tab : Tab S n rw n M W
  c5 : W.cell? ⟨q, 0, none⟩ = some (fnV S q)
  q4 : S + 4 ≤ q
  ql : q < W.heap.size
  ne : ∀ j, j < n → rw j ≠ q
theorem row_one (w : World) (v : Value) (t : TypeId) : (w.alloc (.cells #[v] t)).rowIs w.heap.size t 1 fun _ => v :=
  World.rowIs_alloc w #[v] t (fun _ => v) fun i hi => by
    obtain rfl : i = 0 := by simpa using hi
    rfl
theorem row_two (w : World) (v u : Value) (t : TypeId) : (w.alloc (.cells #[v, u] t)).rowIs w.heap.size t 2 fun i => if i = 0 then v else u :=
  World.rowIs_alloc w #[v, u] t (fun i => if i = 0 then v else u) fun i hi => match i, hi with
    | 0, _ => rfl
    | 1, _ => rfl
theorem ways0 (w : World) (n : Nat) (na ba : Option Addr) (nc bn bc : Nat) (dv : Value) : ∃ rw : Nat → Nat, Hid (Bx w w.heap.size n na nc dv (.slice ba bn bc) ((((w.alloc (.cells #[.slice na n nc, dv] 25)).alloc (.cells #[.slice ba bn bc] 27)).alloc (.cells (madeCells #[.slice none 0 0] n) 26)).alloc (.cells #[.slice (some ⟨w.heap.size + 1 + 1, 0, none⟩) n n] 74))) ∧
    Hid (Tab w.heap.size n rw 0 (fun _ _ => -2) ((((w.alloc (.cells #[.slice na n nc, dv] 25)).alloc (.cells #[.slice ba bn bc] 27)).alloc (.cells (madeCells #[.slice none 0 0] n) 26)).alloc (.cells #[.slice (some ⟨w.heap.size + 1 + 1, 0, none⟩) n n] 74))) := by
  have b1 := row_two w (.slice na n nc) dv 25
  have b2 := row_one (w.alloc (.cells #[.slice na n nc, dv] 25)) (.slice ba bn bc) 27
  have b3 := World.rowIs_made ((w.alloc (.cells #[.slice na n nc, dv] 25)).alloc (.cells #[.slice ba bn bc] 27)) (.slice none 0 0) n 26
  have b4 := row_one (((w.alloc (.cells #[.slice na n nc, dv] 25)).alloc (.cells #[.slice ba bn bc] 27)).alloc (.cells (madeCells #[.slice none 0 0] n) 26)) (.slice (some ⟨w.heap.size + 1 + 1, 0, none⟩) n n) 74
  have s1 : (w.alloc (.cells #[.slice na n nc, dv] 25)).heap.size = w.heap.size + 1 := by simp
  have s2 : ((w.alloc (.cells #[.slice na n nc, dv] 25)).alloc (.cells #[.slice ba bn bc] 27)).heap.size = w.heap.size + 1 + 1 := by simp
  have s3 : (((w.alloc (.cells #[.slice na n nc, dv] 25)).alloc (.cells #[.slice ba bn bc] 27)).alloc (.cells (madeCells #[.slice none 0 0] n) 26)).heap.size = w.heap.size + 1 + 1 + 1 := by simp
  rw [s1] at b2
  rw [s2] at b3
  rw [s3] at b4
  refine ⟨fun _ => 0, ?_, ?_⟩
  · exact ⟨((((Below.refl _ _).alloc (Nat.le_refl _) _).alloc (by simp) _).alloc (by simp; omega) _).alloc (by simp; omega) _, by simp, (((b1.alloc _).alloc _).alloc _).cell (i := 0) (by decide), (((b1.alloc _).alloc _).alloc _).cell (i := 1) (by decide), ((b2.alloc _).alloc _).cell (i := 0) (by decide), b4.cell (i := 0) (by decide)⟩
  · exact ⟨(b3.alloc _).congr fun i hi => by simp [rowsF], fun j hj => absurd hj (Nat.not_lt_zero j), fun j j' hj => absurd hj (Nat.not_lt_zero j)⟩
theorem ways (w : World) (n : Nat) (na ba : Option Addr) (nc bn bc : Nat) (dv : Value) (hn : n ≤ 1000) :
    Calls Tryd.prog 28 #[.agg #[.slice na n nc, dv], .slice ba bn bc] w fun e w' => ∃ rw q, e = .returned (fnV w.heap.size q) ∧ Cl w w.heap.size n na nc dv (.slice ba bn bc) rw q (fun _ _ => -2) w' := by
  have m74 := mk74 _ hn
  have m26 := mk26 _ hn
  go_enter Tryd.func28, Tryd.ntmps28
  go_wp2_with fail
  obtain ⟨rw0, H0, H1⟩ := ways0 w n na ba nc bn bc dv
  go_loopw [17] (fun p wr => ∃ (i : Nat) (rw : Nat → Nat), i ≤ n ∧ p = .int .i64 (i : Int) ∧ Hid (Bx w w.heap.size n na nc dv (.slice ba bn bc) wr) ∧ Hid (Tab w.heap.size n rw i (fun _ _ => -2) wr)) (fun p _ => n - (intOf p).toNat)
  case atStart =>
    refine ⟨0, rw0, Nat.zero_le _, rfl, H0, ?_⟩
    exact H1
  case round =>
    obtain ⟨i, rw, hi, rfl, HB, HT⟩ := hrel
    by_cases hin : i < n
    · have c3 := HB.out.c3
      have hsz : w.heap.size + 1 + 1 + 1 < wr.heap.size := by have := HB.out.size; omega
      have r1 := (HT.out.hR).cell hin
      have r2 := (HT.out.hR).frozen i
      rw [rowsF, if_neg (Nat.lt_irrefl i)] at r1
      go_wp2_with fail
      have hrow := HT.out.hR.alloc (.cells (madeCells #[Value.int IntKind.i64 0] n) 3)
      have r3 := hrow.cell hin
      have r4 := hrow.frozen i
      rw [rowsF, if_neg (Nat.lt_irrefl i)] at r3
      have r3' : (wr.alloc (.cells (madeCells #[Value.int IntKind.i64 0] n) 3)).drew.cell? ⟨w.heap.size + 1 + 1, i, none⟩ = some (.slice none 0 0) := r3
      have r4' : (wr.alloc (.cells (madeCells #[Value.int IntKind.i64 0] n) 3)).drew.frozen? ⟨w.heap.size + 1 + 1, i, none⟩ = false := r4
      go_region
      have HB1 := hidJ (((HB.out.alloc (.cells (madeCells #[Value.int IntKind.i64 0] n) 3)).set (a := ⟨w.heap.size + 1 + 1, i, none⟩) (.inl rfl) (.slice (some ⟨wr.heap.size, 0, none⟩) n n)).drew)
      have HT1 := hidJ (HT.out.push HB.out)
      clear r3' r4' r3 r4 hrow r1 r2 c3 hsz
      generalize hW1 : (((wr.alloc (Obj.cells (madeCells #[Value.int IntKind.i64 0] n) 3)).setCell { block := w.heap.size + 1 + 1, off := i } (Value.slice (some { block := wr.heap.size, off := 0 }) n n)).drew) = W1 at HB1 HT1 ⊢
      generalize hrw1 : (fun j => if j = i then wr.heap.size else rw j) = rw1 at HT1
      have c3 := HB1.out.c3
      have r1 := (HT1.out.hR).cell hin
      rw [rowsF, if_pos (Nat.lt_succ_self i)] at r1
      go_wp2_with fail
      go_loopw [30] (fun p wr => ∃ (k : Nat), k ≤ n ∧ p = .int .i64 (k : Int) ∧ Hid (Bx w w.heap.size n na nc dv (.slice ba bn bc) wr) ∧ Hid (Tab w.heap.size n rw1 (i + 1) (fun j k' => if j < i ∨ k' < k then -2 else 0) wr)) (fun p _ => n - (intOf p).toNat)
      case atStart =>
        refine ⟨0, Nat.zero_le _, rfl, HB1, hidJ (HT1.out.congr fun j k hj hk => ?_)⟩
        by_cases e : j = i
        · subst e; simp
        · rw [if_neg e, if_pos (.inl (by omega))]
      case round =>
        clear HB1 HT1 c3 r1 HB HT hW1 hrw1
        obtain ⟨k, hk, rfl, HB, HT⟩ := hrel
        by_cases hkn : k < n
        · have c3 := HB.out.c3
          have r1 := (HT.out.hR).cell hin
          rw [rowsF, if_pos (Nat.lt_succ_self i)] at r1
          have s1 := (HT.out.hm i (Nat.lt_succ_self i)).2.cell hkn
          have s2 := (HT.out.hm i (Nat.lt_succ_self i)).2.frozen k
          have HB2 := hidJ (HB.out.set (a := ⟨rw1 i, k, none⟩) (.inr (HT.out.hm i (Nat.lt_succ_self i)).1) (.int .i64 (-2)))
          have HT2 := hidJ ((HT.out.put (Nat.lt_succ_self i) k (-2)).congr (M' := fun j k' => if j < i ∨ k' < k + 1 then -2 else 0) fun j k' hj hk' => by
            by_cases e : j = i ∧ k' = k
            · rw [if_pos e, if_pos (.inr (by omega))]
            · rw [if_neg e]
              by_cases e2 : j < i ∨ k' < k
              · rw [if_pos e2, if_pos (by omega)]
              · rw [if_neg e2, if_neg (by omega)])
          go_wp2_with fail
          exact ⟨⟨k + 1, by omega, by simp, HB2, HT2⟩, by simp [intOf]; omega⟩
        · obtain rfl : k = n := by omega
          have HT2 := hidJ (HT.out.congr (M' := fun _ _ => -2) fun j k' hj hk' => by rw [if_pos (.inr hk')])
          go_wp2_with fail
          exact ⟨⟨i + 1, rw1, by omega, by simp, HB, HT2⟩, by simp [intOf]; omega⟩
    · obtain rfl : i = n := by omega
      have key : Cl w w.heap.size i na nc dv (.slice ba bn bc) rw wr.heap.size (fun _ _ => -2) (wr.alloc (.cells #[fnV w.heap.size wr.heap.size] 38)) :=
        ⟨HB.out.alloc _, HT.out.alloc _, (row_one wr (fnV w.heap.size wr.heap.size) 38).cell (by decide), HB.out.size, by simp, fun j hj => by have := (HT.out.hm j hj).2.lt; omega⟩
      have Hkey := hidJ key
      clear key
      go_wp2_with fail
      go_ret
      exact ⟨rw, wr.heap.size, rfl, Hkey.out⟩
end Go.Proofs.YtjficagemeiecaaDoor
