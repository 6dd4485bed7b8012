/- The table that the rows list, as the walks want it; the world for the witnesses. -/
import Derived.Test.YthoibdbhmacliaaDoorCards
import Derived.Test.YthoibdbhmacliaaDoorTie
import Derived.LaidMore
import Derived.LaidHandle
import Derived.LaidSub
import Derived.Deep.DeepHandedRow
import Derived.Deep.DeepWitnessRef
import Derived.Lib.LaidTab
import Derived.Test.YthoibdbhmacliaaDoorLibH
open Go Go.Proofs Go.Abs
set_option maxRecDepth 100000
namespace Go.Proofs.YthoibdbhmacliaaDoor
theorem own : ownKnob Tryd.prog.godebug = none := by kernel_rfl
theorem door_met (os : Os) (args : Array Value) : laidMetH Tryd.prog Rows.flightTextsRow.laid ((World.doorLaid Tryd.prog 400 os).forCall (fun _ _ => 0) ⟨#[], args, []⟩).memory :=
  laidMetH_of_parts3 (fuel := 8) (laidMet_of_run' 8 (by kernel_rfl) (by kernel_rfl)) (by kernel_rfl) (by kernel_rfl)
theorem door_row {H : Type} {enc : TypeId × Value → H} {os : Os} {f : FuncId} {fn : Func} {s : OpenSpec} {conds : List PathCond} {apart : Bool} {laid : List (String × DataW Unit)} (w0 : World) (args : Array Value) (hos : w0.os = os)
    (hv : (w0.forCall (fun _ _ => 0) ⟨#[], args, []⟩).variablesRefB Tryd.prog = true)
    (hr : ((w0.forCall (fun _ _ => 0) ⟨#[], args, []⟩).heap.toList.drop Tryd.prog.globals.size).take ((begin Tryd.prog (fun _ _ => 0) default).world.heap.size - Tryd.prog.globals.size) =
      (begin Tryd.prog (fun _ _ => 0) default).world.heap.toList.drop Tryd.prog.globals.size)
    (hok : Input.okWideB Tryd.prog (w0.forCall (fun _ _ => 0) ⟨#[], args, []⟩) f ⟨#[], args, []⟩ = true)
    (hrow : s.preRow enc Tryd.prog fn conds apart laid (w0.forCall (fun _ _ => 0) ⟨#[], args, []⟩).memory args) :
    ∃ (w : World) (tape : Tape) (i : Input), w.os = os ∧ (w.forCall tape i).Shaped Tryd.prog ∧ i.vars = [] ∧ Input.okWide Tryd.prog (w.forCall tape i) .any w.heap.size f i ∧
      s.preRow enc Tryd.prog fn conds apart laid (w.forCall tape i).memory i.args ∧ ({ modest := false } : Assume).holds Tryd.prog (lone (Frame.enter Tryd.prog f i.args .normal) [] (w.forCall tape i)) := by
  obtain ⟨w, tape, i, h1, h2, h3, h4, h5, h6, _⟩ := OpenSpec.witness_stopped_atRef (enc := enc) (C := Tryd.checked) (fn := fn) (s := s) (conds := conds) (apart := apart) (laid := laid) false w0 args hos hv hr hok hrow (fun _ _ _ => 0)
  exact ⟨w, tape, i, h1, h2, h3, h4, h5, h6⟩
def tens : List Int := [1, 10, 100, 1000, 10000, 100000, 1000000, 10000000, 100000000, 1000000000, 10000000000, 100000000000, 1000000000000, 10000000000000, 100000000000000, 1000000000000000, 10000000000000000, 100000000000000000, 1000000000000000000, 10000000000000000000]
theorem filtered : (Rows.flightTextsRow.laid.filter fun x => x.1 == "internal/strconv.uint64pow10") = [("internal/strconv.uint64pow10", Lib.tabData .u64 tens)] := by kernel_rfl
theorem gTens : Tryd.prog.globalNamed "internal/strconv.uint64pow10" = some 2 := by kernel_rfl
theorem table {W : World} (h : laidMetH Tryd.prog Rows.flightTextsRow.laid W) : Lib.TabIs Tryd.prog W "internal/strconv.uint64pow10" .u64 tens := by
  have h1 := h.filter fun x => x.1 == "internal/strconv.uint64pow10"
  rw [filtered] at h1
  exact Lib.tabIs_of_head (rest := []) (t := 114) (e := 91) (n := 20) gTens (by kernel_rfl) (by kernel_rfl) (by kernel_rfl) (by kernel_rfl) (by kernel_rfl) h1
theorem tab_cells : gtab = [(2, tens.map fun z => AV.int .u64 z)] := by rfl
theorem glob {W : World} (h : laidMetH Tryd.prog Rows.flightTextsRow.laid W) : GlobRep W (Names.M fun _ => none) := by
  intro g cs hg
  rw [tab_cells] at hg
  simp only [lkG] at hg
  split at hg
  case isFalse => cases hg
  rename_i hgg
  subst hgg
  cases hg
  have ht := table h
  have hc : ∀ i, i < tens.length → W.cell? ⟨2, i, none⟩ = some (.int .u64 (tens.getD i 0)) := fun i hi => ht.cell gTens i hi
  refine ⟨?_, fun hm => ?_, fun i => .int .u64 (tens.getD i 0), fun i x hx => ?_⟩
  · have h0 := hc 0 (by decide)
    exact Classical.byContradiction fun hn => by
      have : W.heap[2]? = none := Array.getElem?_eq_none (by omega)
      simp [World.cell?, this] at h0
  · obtain ⟨n, hn⟩ := hm
    cases hn
  · rw [List.getElem?_map] at hx
    obtain ⟨z, hz, rfl⟩ := Option.map_eq_some_iff.1 hx
    have hi : i < tens.length := by
      rw [List.getElem?_eq_some_iff] at hz
      exact hz.1
    have hzz : tens.getD i 0 = z := by rw [List.getD, hz]; rfl
    have hci := hc i hi
    rw [hzz] at hci
    show W.cell? ⟨2, i, none⟩ = some (.int .u64 (tens.getD i 0)) ∧ Imm W (Names.M fun _ => none) (.int .u64 z) (.int .u64 (tens.getD i 0)) ∧ _
    rw [hzz]
    exact ⟨hci, .int _ _, rfl⟩
end Go.Proofs.YthoibdbhmacliaaDoor
