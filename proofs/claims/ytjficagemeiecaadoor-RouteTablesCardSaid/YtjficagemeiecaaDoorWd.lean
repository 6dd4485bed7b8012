import Derived.Test.YtjficagemeiecaaDoorCards
import Derived.Test.YtjficagemeiecaaDoorTie
import Derived.LaidMore
import Derived.Lay
import Derived.LaidHandle
import Derived.LaidSub
import Derived.FnData
import Derived.Deep.DeepHandedRow
import Derived.Deep.DeepWitnessRef
import Derived.Lib.LaidTab
import Derived.Test.YtjficagemeiecaaDoorLibG
open Go Go.Proofs Go.Abs
set_option maxRecDepth 100000
namespace Go.Proofs.YtjficagemeiecaaDoor
theorem own : ownKnob Tryd.prog.godebug = none := by kernel_rfl
theorem door_met (os : Os) (args : Array Value) : laidMetH Tryd.prog Rows.routeTablesRow.laid ((World.laidAll Tryd.prog os Rows.routeTablesRow.laid).forCall (fun _ _ => 0) ⟨#[], args, []⟩).memory :=
 laidMetH_of_parts3 (fuel := 8) (laidMet_of_run' 8 (by kernel_rfl) (by kernel_rfl)) (by kernel_rfl) (by kernel_rfl)
theorem door_row {H : Type} {enc : TypeId × Value → H} {os : Os} {f : FuncId} {fn : Func} {s : OpenSpec} {conds : List PathCond} {apart : Bool} {laid : List (String × DataW Unit)} (w0 : World) (args : Array Value) (hos : w0.os = os)
  (hv : (w0.forCall (fun _ _ => 0) ⟨#[], args, []⟩).variablesRefB Tryd.prog = true)
  (hr : ((w0.forCall (fun _ _ => 0) ⟨#[], args, []⟩).heap.toList.drop Tryd.prog.globals.size).take ((begin Tryd.prog (fun _ _ => 0) default).world.heap.size - Tryd.prog.globals.size) =
   (begin Tryd.prog (fun _ _ => 0) default).world.heap.toList.drop Tryd.prog.globals.size)
  (hok : Input.okWideB Tryd.prog (w0.forCall (fun _ _ => 0) ⟨#[], args, []⟩) f ⟨#[], args, []⟩ = true)
  (hrow : s.preRow enc Tryd.prog fn conds apart laid (w0.forCall (fun _ _ => 0) ⟨#[], args, []⟩).memory args) :
  ∃ (w : World) (tape : Tape) (i : Input), w.os = os ∧ (w.forCall tape i).Shaped Tryd.prog ∧ i.vars = [] ∧ Input.okWide Tryd.prog (w.forCall tape i) .any w.heap.size f i ∧
   s.preRow enc Tryd.prog fn conds apart laid (w.forCall tape i).memory i.args ∧ ({ modest := false } : Assume).holds Tryd.prog (lone (Frame.enter Tryd.prog f i.args .normal) [] (w.forCall tape i)) := by
 obtain ⟨w, tape, i, h1, h2, h3, h4, h5, h6, _⟩ := OpenSpec.witness_stopped_atRef (enc := enc) (C := Tryd.checked) (fn := fn) (s := s) (conds := conds) (apart := apart) (laid := laid) false w0 args hos hv hr hok hrow (fun _ _ _ => 0)
 exact ⟨w, tape, i, h1, h2, h3, h4, h5, h6⟩
def wordsG : List (List UInt8) := [[], [101, 110, 116, 114, 121], [98, 101, 108, 116], [115, 99, 114, 101, 101, 110], [100, 105, 118, 101, 114, 116, 101, 114], [108, 111, 111, 112], [103, 97, 116, 101], [115, 116, 111, 114, 101], [99, 104, 117, 116, 101], [109, 97, 110, 117, 97, 108]]
theorem laid_eq : (Rows.routeTablesRow.laid : List (String × DataW Unit)) = [("baggage/baggageref07.words", .slice (wordsG.map fun s => .lit (.string s)) [])] := by rfl
theorem gWords : Tryd.prog.globalNamed "baggage/baggageref07.words" = some 0 := by kernel_rfl
theorem tWords : (Tryd.prog.globals[0]?).map (·.type) = some 62 := by kernel_rfl
theorem uWords : Tryd.prog.underlying 62 = some (.slice 9) := by kernel_rfl
theorem uStr : Tryd.prog.underlying 9 = some .string := by kernel_rfl
theorem cStr : Tryd.prog.cellsOf 9 = 1 := by kernel_rfl
theorem tab_cells : gtab = [(0, [.sl 1 (wordsG.map fun s => [AV.str s])])] := by rfl
theorem words_short : ∀ s ∈ wordsG, s.length ≤ lim := by
 have : (wordsG.all fun s => decide (s.length ≤ 20)) = true := by rfl
 intro s hs
 have := List.all_eq_true.1 this s hs
 have h20 : 20 ≤ lim := by decide
 exact Nat.le_trans (of_decide_eq_true this) h20
theorem glob {W : World} (h : laidMetH Tryd.prog Rows.routeTablesRow.laid W) : GlobRep W (Names.M fun _ => none) := by
 replace h := (laidMetH_iff.1 h).1
 rw [laid_eq, show ([("baggage/baggageref07.words", .slice (wordsG.map fun s => .lit (.string s)) [])] : List (String × DataW Unit)).filter (fun x => x.2.handleName?.isNone) = [("baggage/baggageref07.words", .slice (wordsG.map fun s => .lit (.string s)) [])] from rfl] at h
 obtain ⟨ps, ⟨g', t', cs, fuel, p, q, hg', ht', hvar, hd, _, _⟩, _⟩ := h
 obtain rfl := Option.some.inj (gWords.symm.trans hg')
 obtain rfl := Option.some.inj (tWords.symm.trans ht')
 obtain ⟨a, cap, hcs, hcap, hel⟩ := open_row uWords cStr hd
 have hno : ∀ b, ¬ (Names.M fun _ => none) b := fun b ⟨n, hn⟩ => by cases hn
 have hcell : ∀ (i : Nat) s, wordsG[i]? = some s → ∃ v : Value, W.cell? (a.add i) = some v ∧ v = .string ⟨s.toArray⟩ := fun i s hs => by
  obtain ⟨v, n, q, h1, h2⟩ := hel i (.lit (.string s)) (by rw [List.getElem?_map, hs]; rfl)
  obtain ⟨x, e1, e2, _⟩ := DataW.trod_string uStr h2
  refine ⟨v, h1, ?_⟩
  cases e1
  cases e2
  rfl
 have hsp : a.spot = none := by
  obtain ⟨v, h1, _⟩ := hcell 0 [] rfl
  exact World.cell?_spot h1
 obtain ⟨b, off, sp⟩ := a
 cases hsp
 have hb : b < W.heap.size := by
  obtain ⟨v, h1, _⟩ := hcell 0 [] rfl
  exact Classical.byContradiction fun hn => by
   have : W.heap[b]? = none := Array.getElem?_eq_none (by omega)
   simp [World.cell?, Addr.add, this] at h1
 have hadd : ∀ i, (⟨b, off, none⟩ : Addr).add i = ⟨b, off + i, none⟩ := fun i => by
  unfold Addr.add
  split
  ·rename_i h0; subst h0; rfl
  ·rfl
 have hv0 : W.cell? ⟨0, 0, none⟩ = some (.slice (some ⟨b, off, none⟩) wordsG.length cap) := by
  rw [World.var?_cell gWords hvar 0]
  have : cs[0]? = cs.toList[0]? := by simp
  rw [this, hcs]
  rfl
 have himm : Imm W (Names.M fun _ => none) (.sl 1 (wordsG.map fun s => [AV.str s])) (.slice (some ⟨b, off, none⟩) (wordsG.map fun s => [AV.str s]).length cap) := by
  refine Imm.sl 1 _ b off cap (fun j _ => .string ⟨(wordsG.getD j []).toArray⟩) hb (hno b) (by simpa using hcap) (by decide) (fun j cs hj => ?_) (fun j cs i x hj hi => ?_) (fun j cs i x hj hi => rfl) (fun j cs i x hj hi => ?_)
  ·rw [List.getElem?_map] at hj
   obtain ⟨s, hs, rfl⟩ := Option.map_eq_some_iff.1 hj
   rfl
  ·rw [List.getElem?_map] at hj
   obtain ⟨s, hs, rfl⟩ := Option.map_eq_some_iff.1 hj
   obtain ⟨rfl⟩ : i = 0 := by
    have := (List.getElem?_eq_some_iff.1 hi).1
    simp at this; omega
   obtain ⟨v, h1, rfl⟩ := hcell j s hs
   rw [hadd] at h1
   rw [List.getD, hs]
   simpa using h1
  ·rw [List.getElem?_map] at hj
   obtain ⟨s, hs, rfl⟩ := Option.map_eq_some_iff.1 hj
   obtain ⟨rfl⟩ : i = 0 := by
    have := (List.getElem?_eq_some_iff.1 hi).1
    simp at this; omega
   cases hi
   rw [List.getD, hs]
   exact Imm.str s (words_short s (List.mem_of_getElem? hs))
 intro g cs' hg
 rw [tab_cells] at hg
 simp only [lkG] at hg
 split at hg
 case isFalse => cases hg
 rename_i hgg
 subst hgg
 cases hg
 refine ⟨?_, hno 0, fun _ => .slice (some ⟨b, off, none⟩) wordsG.length cap, fun i x hx => ?_⟩
 ·exact Classical.byContradiction fun hn => by
   have : W.heap[0]? = none := Array.getElem?_eq_none (by omega)
   simp [World.cell?, this] at hv0
 ·obtain ⟨rfl⟩ : i = 0 := by
   have := (List.getElem?_eq_some_iff.1 hx).1
   simp at this; omega
  cases hx
  exact ⟨hv0, himm, rfl⟩
end Go.Proofs.YtjficagemeiecaaDoor
