import Derived.Test.YtdkibgdkmnpncaaDoorCards
import Derived.Test.YtdkibgdkmnpncaaDoorTie
import Derived.LaidMore
import Derived.Lay
import Derived.LaidHandle
import Derived.LaidSub
import Derived.FnData
import Derived.Deep.DeepHandedRow
import Derived.Deep.DeepWitnessRef
import Derived.Lib.LaidTab
import Derived.Test.YtdkibgdkmnpncaaDoorLibG
open Go Go.Proofs Go.Abs
set_option maxRecDepth 100000
namespace Go.Proofs.YtdkibgdkmnpncaaDoor
theorem own : ownKnob Tryd.prog.godebug = none := by kernel_rfl
theorem H7 (os : Os) (args : Array Value) : laidMetH Tryd.prog Rows.trafficFlowsRow.laid ((World.laidAll Tryd.prog os Rows.trafficFlowsRow.laid).forCall (fun _ _ => 0) ⟨#[], args, []⟩).memory :=
 laidMetH_of_parts3 (fuel := 8) (laidMet_of_run' 8 (by kernel_rfl) (by kernel_rfl)) (by kernel_rfl) (by kernel_rfl)
theorem H8 {H : Type} {enc : TypeId × Value → H} {os : Os} {f : FuncId} {fn : Func} {s : OpenSpec} {conds : List PathCond} {apart : Bool} {laid : List (String × DataW Unit)} (w0 : World) (args : Array Value) (hos : w0.os = os)
  (hv : (w0.forCall (fun _ _ => 0) ⟨#[], args, []⟩).variablesRefB Tryd.prog = true)
  (hr : ((w0.forCall (fun _ _ => 0) ⟨#[], args, []⟩).heap.toList.drop Tryd.prog.globals.size).take ((begin Tryd.prog (fun _ _ => 0) default).world.heap.size - Tryd.prog.globals.size) =
   (begin Tryd.prog (fun _ _ => 0) default).world.heap.toList.drop Tryd.prog.globals.size)
  (hok : Input.okWideB Tryd.prog (w0.forCall (fun _ _ => 0) ⟨#[], args, []⟩) f ⟨#[], args, []⟩ = true)
  (hrow : s.preRow enc Tryd.prog fn conds apart laid (w0.forCall (fun _ _ => 0) ⟨#[], args, []⟩).memory args) :
  ∃ (w : World) (tape : Tape) (i : Input), w.os = os ∧ (w.forCall tape i).Shaped Tryd.prog ∧ i.vars = [] ∧ Input.okWide Tryd.prog (w.forCall tape i) .any w.heap.size f i ∧
   s.preRow enc Tryd.prog fn conds apart laid (w.forCall tape i).memory i.args ∧ ({ modest := false } : Assume).holds Tryd.prog (lone (Frame.enter Tryd.prog f i.args .normal) [] (w.forCall tape i)) := by
 obtain ⟨w, tape, i, h1, h2, h3, h4, h5, h6, _⟩ := OpenSpec.witness_stopped_atRef (enc := enc) (C := Tryd.checked) (fn := fn) (s := s) (conds := conds) (apart := apart) (laid := laid) false w0 args hos hv hr hok hrow (fun _ _ _ => 0)
 exact ⟨w, tape, i, h1, h2, h3, h4, h5, h6⟩
def jX : List (List UInt8) := [[], [101, 110, 116, 114, 121], [98, 101, 108, 116], [115, 99, 114, 101, 101, 110], [100, 105, 118, 101, 114, 116, 101, 114], [108, 111, 111, 112], [103, 97, 116, 101], [115, 116, 111, 114, 101], [99, 104, 117, 116, 101], [109, 97, 110, 117, 97, 108]]
theorem Ir : Tryd.prog.globalNamed "baggage/baggageref07.words" = some 0 := by kernel_rfl
theorem PL : (Tryd.prog.globals[0]?).map (·.type) = some 92 := by kernel_rfl
theorem PQ : Tryd.prog.underlying 92 = some (.slice 9) := by kernel_rfl
theorem WZ : Tryd.prog.underlying 9 = some .string := by kernel_rfl
theorem TA : Tryd.prog.cellsOf 9 = 1 := by kernel_rfl
def t32 : List Int := [0, 1, 28, 2, 29, 14, 24, 3, 30, 22, 20, 15, 25, 17, 4, 8, 31, 27, 13, 23, 21, 19, 16, 7, 26, 12, 18, 6, 11, 5, 10, 9]
def t64 : List Int := [0, 1, 56, 2, 57, 49, 28, 3, 61, 58, 42, 50, 38, 29, 17, 4, 62, 47, 59, 36, 45, 43, 51, 22, 53, 39, 33, 30, 24, 18, 12, 5, 63, 55, 48, 27, 60, 41, 37, 16, 46, 35, 44, 21, 52, 32, 23, 11, 54, 26, 40, 15, 34, 20, 31, 10, 25, 14, 19, 9, 13, 8, 7, 6]
theorem HC : Is = [(0, [.sl 1 (jX.map fun s => [AV.str s])]), (1, t32.map fun z => AV.int .u8 z), (2, t64.map fun z => AV.int .u8 z)] := by rfl
theorem BK : ∀ s ∈ jX, s.length ≤ cj := by
 have : (jX.all fun s => decide (s.length ≤ 20)) = true := by rfl
 intro s hs
 have := List.all_eq_true.1 this s hs
 have S6 : 20 ≤ cj := by decide
 exact Nat.le_trans (of_decide_eq_true this) S6
theorem TX : (Rows.trafficFlowsRow.laid.filter fun x => x.1 == "baggage/baggageref07.words") = [("baggage/baggageref07.words", .slice (jX.map fun s => .lit (.string s)) [])] := by kernel_rfl
theorem TY : (Rows.trafficFlowsRow.laid.filter fun x => x.1 == "math/bits.deBruijn32tab") = [("math/bits.deBruijn32tab", Lib.tabData .u8 t32)] := by kernel_rfl
theorem TZ : (Rows.trafficFlowsRow.laid.filter fun x => x.1 == "math/bits.deBruijn64tab") = [("math/bits.deBruijn64tab", Lib.tabData .u8 t64)] := by kernel_rfl
theorem Q6 : Tryd.prog.globalNamed "math/bits.deBruijn32tab" = some 1 := by kernel_rfl
theorem Q7 : Tryd.prog.globalNamed "math/bits.deBruijn64tab" = some 2 := by kernel_rfl
theorem Sl {W : World} (h : laidMetH Tryd.prog Rows.trafficFlowsRow.laid W) : Lib.TabIs Tryd.prog W "math/bits.deBruijn32tab" .u8 t32 := by
 have h1 := h.filter fun x => x.1 == "math/bits.deBruijn32tab"
 rw [TY] at h1
 exact Lib.tabIs_of_head (rest := []) (t := 123) (e := 5) (n := 32) Q6 (by kernel_rfl) (by kernel_rfl) (by kernel_rfl) (by kernel_rfl) (by kernel_rfl) h1
theorem Sm {W : World} (h : laidMetH Tryd.prog Rows.trafficFlowsRow.laid W) : Lib.TabIs Tryd.prog W "math/bits.deBruijn64tab" .u8 t64 := by
 have h1 := h.filter fun x => x.1 == "math/bits.deBruijn64tab"
 rw [TZ] at h1
 exact Lib.tabIs_of_head (rest := []) (t := 124) (e := 5) (n := 64) Q7 (by kernel_rfl) (by kernel_rfl) (by kernel_rfl) (by kernel_rfl) (by kernel_rfl) h1
theorem zo {W : World} {g : Nat} {l : List Int} (hl : 0 < l.length) (hc : ∀ i, i < l.length → W.cell? ⟨g, i, none⟩ = some (.int .u8 (l.getD i 0))) :
  g < W.heap.size ∧ ¬ (Names.M fun _ => none) g ∧ ∃ f : Nat → Value, ∀ (i : Nat) (x : AV), (l.map fun z => AV.int .u8 z)[i]? = some x → W.cell? ⟨g, i, none⟩ = some (f i) ∧ cU W (Names.M fun _ => none) x (f i) ∧ (f i).oneCell' = true := by
 refine ⟨?_, fun hm => ?_, fun i => .int .u8 (l.getD i 0), fun i x hx => ?_⟩
 ·have h0 := hc 0 hl
  exact Classical.byContradiction fun hn => by
   have : W.heap[g]? = none := Array.getElem?_eq_none (by omega)
   simp [World.cell?, this] at h0
 ·obtain ⟨n, hn⟩ := hm
  cases hn
 ·rw [List.getElem?_map] at hx
  obtain ⟨z, hz, rfl⟩ := Option.map_eq_some_iff.1 hx
  have hi : i < l.length := by
   rw [List.getElem?_eq_some_iff] at hz
   exact hz.1
  have hzz : l.getD i 0 = z := by rw [List.getD, hz]; rfl
  have hci := hc i hi
  rw [hzz] at hci
  show W.cell? ⟨g, i, none⟩ = some (.int .u8 (l.getD i 0)) ∧ cU W (Names.M fun _ => none) (.int .u8 z) (.int .u8 (l.getD i 0)) ∧ _
  rw [hzz]
  exact ⟨hci, .int _ _, rfl⟩
theorem bq {W : World} (h : laidMetH Tryd.prog Rows.trafficFlowsRow.laid W) : cO W (Names.M fun _ => none) := by
 have k32 := Sl h
 have k64 := Sm h
 replace h := h.filter fun x => x.1 == "baggage/baggageref07.words"
 rw [TX] at h
 obtain ⟨ps, ⟨g', t', cs, fuel, p, q, hg', ht', hvar, hd, _, _⟩, _⟩ := h
 obtain rfl := Option.some.inj (Ir.symm.trans hg')
 obtain rfl := Option.some.inj (PL.symm.trans ht')
 obtain ⟨a, cap, hcs, hcap, hel⟩ := open_row PQ TA hd
 have hno : ∀ b, ¬ (Names.M fun _ => none) b := fun b ⟨n, hn⟩ => by cases hn
 have hcell : ∀ (i : Nat) s, jX[i]? = some s → ∃ v : Value, W.cell? (a.add i) = some v ∧ v = .string ⟨s.toArray⟩ := fun i s hs => by
  obtain ⟨v, n, q, h1, h2⟩ := hel i (.lit (.string s)) (by rw [List.getElem?_map, hs]; rfl)
  obtain ⟨x, e1, e2, _⟩ := DataW.trod_string WZ h2
  refine ⟨v, h1, ?_⟩
  cases e1
  cases e2
  rfl
 have hsp : a.spot = none := by
  obtain ⟨v, h1, _⟩ := hcell 0 [] rfl
  exact World.cell?_spot h1
 obtain ⟨b, off, sp⟩ := a
 cases hsp
 have hb : b < W.heap.size := by
  obtain ⟨v, h1, _⟩ := hcell 0 [] rfl
  exact Classical.byContradiction fun hn => by
   have : W.heap[b]? = none := Array.getElem?_eq_none (by omega)
   simp [World.cell?, Addr.add, this] at h1
 have hadd : ∀ i, (⟨b, off, none⟩ : Addr).add i = ⟨b, off + i, none⟩ := fun i => by
  unfold Addr.add
  split
  ·rename_i h0; subst h0; rfl
  ·rfl
 have hv0 : W.cell? ⟨0, 0, none⟩ = some (.slice (some ⟨b, off, none⟩) jX.length cap) := by
  rw [World.var?_cell Ir hvar 0]
  have : cs[0]? = cs.toList[0]? := by simp
  rw [this, hcs]
  rfl
 have himm : cU W (Names.M fun _ => none) (.sl 1 (jX.map fun s => [AV.str s])) (.slice (some ⟨b, off, none⟩) (jX.map fun s => [AV.str s]).length cap) := by
  refine cU.sl 1 _ b off cap (fun j _ => .string ⟨(jX.getD j []).toArray⟩) hb (hno b) (by simpa using hcap) (by decide) (fun j cs hj => ?_) (fun j cs i x hj hi => ?_) (fun j cs i x hj hi => rfl) (fun j cs i x hj hi => ?_)
  ·rw [List.getElem?_map] at hj
   obtain ⟨s, hs, rfl⟩ := Option.map_eq_some_iff.1 hj
   rfl
  ·rw [List.getElem?_map] at hj
   obtain ⟨s, hs, rfl⟩ := Option.map_eq_some_iff.1 hj
   obtain ⟨rfl⟩ : i = 0 := by
    have := (List.getElem?_eq_some_iff.1 hi).1
    simp at this; omega
   obtain ⟨v, h1, rfl⟩ := hcell j s hs
   rw [hadd] at h1
   rw [List.getD, hs]
   simpa using h1
  ·rw [List.getElem?_map] at hj
   obtain ⟨s, hs, rfl⟩ := Option.map_eq_some_iff.1 hj
   obtain ⟨rfl⟩ : i = 0 := by
    have := (List.getElem?_eq_some_iff.1 hi).1
    simp at this; omega
   cases hi
   rw [List.getD, hs]
   exact cU.str s (BK s (List.mem_of_getElem? hs))
 intro g cs' hg
 rw [HC] at hg
 simp only [Oi] at hg
 split at hg
 case isFalse =>
  split at hg
  ·rename_i e; subst e; cases hg
   exact zo (by decide) fun i hi => k32.cell Q6 i hi
  ·split at hg
   ·rename_i e; subst e; cases hg
    exact zo (by decide) fun i hi => k64.cell Q7 i hi
   ·cases hg
 rename_i hgg
 subst hgg
 cases hg
 refine ⟨?_, hno 0, fun _ => .slice (some ⟨b, off, none⟩) jX.length cap, fun i x hx => ?_⟩
 ·exact Classical.byContradiction fun hn => by
   have : W.heap[0]? = none := Array.getElem?_eq_none (by omega)
   simp [World.cell?, this] at hv0
 ·obtain ⟨rfl⟩ : i = 0 := by
   have := (List.getElem?_eq_some_iff.1 hx).1
   simp at this; omega
  cases hx
  exact ⟨hv0, himm, rfl⟩
end Go.Proofs.YtdkibgdkmnpncaaDoor
