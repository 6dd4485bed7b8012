import Derived.Test.YtjpikgfknnamjaaDoorWt
import Derived.Test.YtjpikgfknnamjaaDoorWb
open Go Go.Proofs Go.Abs Go.RowKit
set_option linter.unusedVariables false
set_option maxRecDepth 100000
namespace Go.Proofs.YtjpikgfknnamjaaDoor
abbrev NN : Abs.Names := fun _ => none
abbrev GR (w : World) : Prop := GlobRep w (Names.M NN)
theorem nn_M (b : Nat) : ¬ Names.M NN b := fun ⟨_, h⟩ => by cases h
theorem nn_N (b : Nat) : ¬ Names.N NN b := fun ⟨_, _, h⟩ => by cases h
theorem GR.below {w w' : World} (h : GR w) (b : Below w.heap.size w w') : GR w' := GlobRep.mono h ⟨b.size, fun k hk _ => b.block k hk⟩ fun _ _ h => h
theorem below_of {w w' : World} {D' : Abs.Names} (m : Mem w (Names.N NN) [] D' w') : Below w.heap.size w w' :=
 ⟨m.os, m.tape, m.output, m.grow.size, fun k hk => m.grow.same k hk (nn_N k)⟩
def vv (v : VW) : Value := .agg #[.int .i64 v.1, .int .i64 v.2.1, .int .i64 v.2.2.1, .string ⟨v.2.2.2.1.toArray⟩]
def rv (r : RP) : Value := .agg #[.int .i64 r.1, .bool r.2.1, .string ⟨r.2.2.1.toArray⟩]
theorem vv_slot {w : World} (v : VW) (hl : v.2.2.2.1.length ≤ lim) : Slot w NN (.agg (ty3.avs v)) (vv v) :=
 ⟨[.int .i64 v.1, .int .i64 v.2.1, .int .i64 v.2.2.1, .string ⟨v.2.2.2.1.toArray⟩], rfl, rfl, fun i x hx => match i, hx with
  | 0, rfl => ⟨Imm.int _ _, rfl⟩
  | 1, rfl => ⟨Imm.int _ _, rfl⟩
  | 2, rfl => ⟨Imm.int _ _, rfl⟩
  | 3, rfl => ⟨Imm.str _ hl, rfl⟩⟩
theorem slot_rv {w : World} {D : Abs.Names} {r : RP} {x : Value} (h : Slot w D (.agg (ty0.avs r)) x) : x = rv r ∧ r.2.2.1.length ≤ lim := by
 obtain ⟨vs, rfl, hl, hc⟩ := h
 match vs, hl with
 | [a, b, c], _ =>
  have h0 := (hc 0 _ rfl).1
  have h1 := (hc 1 _ rfl).1
  have h2 := (hc 2 _ rfl).1
  cases h0; cases h1
  cases h2 with
  | str _ hn => exact ⟨rfl, hn⟩
theorem slot_vv {w : World} {D : Abs.Names} {r : VW} {x : Value} (h : Slot w D (.agg (ty3.avs r)) x) : x = vv r ∧ r.2.2.2.1.length ≤ lim := by
 obtain ⟨vs, rfl, hl, hc⟩ := h
 match vs, hl with
 | [a, b, c, d], _ =>
  have h0 := (hc 0 _ rfl).1
  have h1 := (hc 1 _ rfl).1
  have h2 := (hc 2 _ rfl).1
  have h3 := (hc 3 _ rfl).1
  cases h0; cases h1; cases h2
  cases h3 with
  | str _ hn => exact ⟨rfl, hn⟩
theorem kc34 {w : World} (hg : GR w) (v : VW) (hl : v.2.2.2.1.length ≤ lim) : Calls Tryd.prog 34 #[vv v] w fun e w' => e = .returned (rv (rightV v)) ∧ Below w.heap.size w w' :=
 (tc34 (v, ()) (rightV v, ()) (e34 v) w NN [vv v] (mem_none w hg) ⟨rfl, fun i x hx => match i, hx with | 0, rfl => vv_slot v hl⟩).mono
  fun e w' ⟨x, D', he, hm, hs, _⟩ => by rw [he, (slot_rv hs).1]; exact ⟨rfl, below_of hm⟩
theorem kc31 {w : World} (hg : GR w) (v : VW) (hl : v.2.2.2.1.length ≤ lim) (k : Int) : Calls Tryd.prog 31 #[vv v, .int .i64 k] w fun e w' => e = .returned (.bool (mayV v k)) ∧ Below w.heap.size w w' :=
 (tc31 (v, k, ()) (mayV v k, ()) (e31 v k) w NN [vv v, .int .i64 k] (mem_none w hg) ⟨rfl, fun i x hx => match i, hx with | 0, rfl => vv_slot v hl | 1, rfl => Imm.int _ _⟩).mono
  fun e w' ⟨x, D', he, hm, hs, _⟩ => by
   have hx : x = .bool (mayV v k) := by
    have hs : Imm w' D'.M (.bool (mayV v k)) x := hs
    cases hs; rfl
   rw [he, hx]; exact ⟨rfl, below_of hm⟩
theorem kc29 {w : World} (hg : GR w) (k : Int) : Calls Tryd.prog 29 #[.int .i64 k] w fun e w' => e = .returned (.int .i64 (mostV k : Int)) ∧ Below w.heap.size w w' :=
 (tc29 (k, ()) ((mostV k : Int), ()) (e29 k) w NN [.int .i64 k] (mem_none w hg) ⟨rfl, fun i x hx => match i, hx with | 0, rfl => Imm.int _ _⟩).mono
  fun e w' ⟨x, D', he, hm, hs, _⟩ => by
   have hx : x = .int .i64 (mostV k : Int) := by
    have hs : Imm w' D'.M (.int .i64 (mostV k : Int)) x := hs
    cases hs; rfl
   rw [he, hx]; exact ⟨rfl, below_of hm⟩
theorem kc35 {w : World} (hg : GR w) (v : VW) (hl : v.2.2.2.1.length ≤ lim) (k : Int) (j : Nat) (hk : k = 3 ∨ k = 4 ∨ (j < v.2.2.2.1.length ∧ v.2.2.2.1.length ≤ 100)) : Calls Tryd.prog 35 #[vv v, .int .i64 k, .int .i64 (j : Int)] w fun e w' => e = .returned (rv (withV v k j)) ∧ Below w.heap.size w w' :=
 (tc35 (v, k, (j : Int), ()) (withV v k j, ()) (e35 v k j hk) w NN [vv v, .int .i64 k, .int .i64 (j : Int)] (mem_none w hg) ⟨rfl, fun i x hx => match i, hx with | 0, rfl => vv_slot v hl | 1, rfl => Imm.int _ _ | 2, rfl => Imm.int _ _⟩).mono
  fun e w' ⟨x, D', he, hm, hs, _⟩ => by rw [he, (slot_rv hs).1]; exact ⟨rfl, below_of hm⟩
theorem imm_nn {w w' : World} {D : Abs.Names} {x : AV} {v : Value} (h : Imm w D.M x v) (b : Below w.heap.size w w') : Imm w' (Names.M NN) x v :=
 h.mono ⟨b.size, fun k hk _ => b.block k hk⟩ fun k _ hm => absurd hm (nn_M k)
theorem kc30 {w : World} (hg : GR w) {l p pl : Value} {L : Ty7} {P : Ty5} {q : List Ty2} {d : Int} (hl : Slot w NN (.agg (ty7.avs L)) l) (hp : Slot w NN (.agg (ty5.avs P)) p) (hq : Slot w NN ((Ty.sl ty2).av q) pl) {v : VW}
  (hs : sp30 (L, P, q, d, ()) = some (v, ())) : Calls Tryd.prog 30 #[l, p, pl, .int .i64 d] w fun e w' => e = .returned (vv v) ∧ v.2.2.2.1.length ≤ lim ∧ Below w.heap.size w w' :=
 (tc30 (L, P, q, d, ()) (v, ()) hs w NN [l, p, pl, .int .i64 d] (mem_none w hg) ⟨rfl, fun i x hx => match i, hx with | 0, rfl => hl | 1, rfl => hp | 2, rfl => hq | 3, rfl => Imm.int _ _⟩).mono
  fun e w' ⟨x, D', he, hm, hs, _⟩ => by rw [he, (slot_vv hs).1]; exact ⟨rfl, (slot_vv hs).2, below_of hm⟩
end Go.Proofs.YtjpikgfknnamjaaDoor
