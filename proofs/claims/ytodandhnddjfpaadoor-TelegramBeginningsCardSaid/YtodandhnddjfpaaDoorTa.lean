/- The library's contracts, laid at this program: strings.Join; strings.Split and strings.Cut at a separator of one byte. -/
import Derived.Test.YtodandhnddjfpaaDoorProg
import Derived.KernelRfl
import Derived.Shelf.Strings.Split
import Derived.Shelf.Strings.Cut
import Derived.Shelf.Strings.OnBuilder
namespace Go.Proofs
set_option linter.unusedVariables false
open Go.Shelf Go.RowKit Go.Lib
def Tryd.laysJoin_ren : Ren :=
 {
  f := fun x =>
    match x with
    | 156 => 38
    | 165 => 51
    | 166 => 37
    | 169 => 39
    | 240 => 50
    | 241 => 58
    | 276 => 57
    | 277 => 64
    | n => n,
  t := fun x =>
    match x with
    | 31 => 32
    | 9 => 9
    | 3 => 3
    | 4 => 4
    | 0 => 0
    | 20 => 20
    | 72 => 67
    | 76 => 70
    | 70 => 65
    | 37 => 64
    | 75 => 69
    | 127 => 83
    | 164 => 87
    | 5 => 5
    | 80 => 73
    | n => n,
  g := fun x =>
    have n := x;
    n }
theorem Tryd.laysJoin : Lays.n156 Tryd.prog Tryd.laysJoin_ren where
  mixed := (by kernel_rfl)
  f156 := Eq.trans Tryd.func38 (congrArg some (by kernel_rfl))
  f165 := Eq.trans Tryd.func51 (congrArg some (by kernel_rfl))
  f166 := Eq.trans Tryd.func37 (congrArg some (by kernel_rfl))
  f169 := Eq.trans Tryd.func39 (congrArg some (by kernel_rfl))
  f240 := Eq.trans Tryd.func50 (congrArg some (by kernel_rfl))
  f241 := Eq.trans Tryd.func58 (congrArg some (by kernel_rfl))
  f276 := Eq.trans Tryd.func57 (congrArg some (by kernel_rfl))
  f277 := Eq.trans Tryd.func64 (congrArg some (by kernel_rfl))
  t0 := Tryd.underlying0
  a0 := Tryd.isAgg0
  z0 := Tryd.sizeOf0
  v0 := Tryd.zeroValue0
  t3 := Tryd.underlying3
  a3 := Tryd.isAgg3
  z3 := Tryd.sizeOf3
  v3 := Tryd.zeroValue3
  t4 := Tryd.underlying4
  a4 := Tryd.isAgg4
  z4 := Tryd.sizeOf4
  v4 := Tryd.zeroValue4
  t9 := Tryd.underlying9
  a9 := Tryd.isAgg9
  z9 := Tryd.sizeOf9
  v9 := Tryd.zeroValue9
  t20 := Tryd.underlying20
  a20 := Tryd.isAgg20
  z20 := Tryd.sizeOf20
  v20 := Tryd.zeroValue20
  t31 := Tryd.underlying32
  a31 := Tryd.isAgg32
  z31 := Tryd.sizeOf32
  v31 := Tryd.zeroValue32
  t37 := Tryd.underlying64
  a37 := Tryd.isAgg64
  z37 := Tryd.sizeOf64
  v37 := Tryd.zeroValue64
  t70 := Tryd.underlying65
  a70 := Tryd.isAgg65
  z70 := Tryd.sizeOf65
  v70 := Tryd.zeroValue65
  t72 := Tryd.underlying67
  a72 := Tryd.isAgg67
  z72 := Tryd.sizeOf67
  v72 := Tryd.zeroValue67
  t75 := Tryd.underlying69
  a75 := Tryd.isAgg69
  z75 := Tryd.sizeOf69
  v75 := Tryd.zeroValue69
  t76 := Tryd.underlying70
  a76 := Tryd.isAgg70
  z76 := Tryd.sizeOf70
  v76 := Tryd.zeroValue70
  t127 := Tryd.underlying83
  a127 := Tryd.isAgg83
  z127 := Tryd.sizeOf83
  v127 := Tryd.zeroValue83
  t164 := Tryd.underlying87
  a164 := Tryd.isAgg87
  z164 := Tryd.sizeOf87
  v164 := Tryd.zeroValue87
def Tryd.laysSplit_ren : Ren :=
 {
  f := fun x =>
    match x with
    | 146 => 56
    | 221 => 63
    | 268 => 67
    | 138 => 68
    | 143 => 69
    | 195 => 70
    | 197 => 71
    | 218 => 72
    | 219 => 55
    | 260 => 73
    | 217 => 59
    | 225 => 60
    | 224 => 61
    | 267 => 62
    | 266 => 65
    | 314 => 66
    | n => n,
  t := fun x =>
    match x with
    | 9 => 9
    | 31 => 32
    | 3 => 3
    | 4 => 4
    | 0 => 0
    | 105 => 98
    | 21 => 21
    | 5 => 5
    | 46 => 90
    | 119 => 100
    | 139 => 103
    | 138 => 102
    | 146 => 94
    | 51 => 93
    | n => n,
  g := fun x =>
    match x with
    | 1 => 0
    | 3 => 1
    | 4 => 2
    | n => n }
theorem Tryd.laysSplit : Lays.n146 Tryd.prog Tryd.laysSplit_ren where
  mixed := (by kernel_rfl)
  f138 := Eq.trans Tryd.func68 (congrArg some (by kernel_rfl))
  f143 := Eq.trans Tryd.func69 (congrArg some (by kernel_rfl))
  f146 := Eq.trans Tryd.func56 (congrArg some (by kernel_rfl))
  f195 := Eq.trans Tryd.func70 (congrArg some (by kernel_rfl))
  f197 := Eq.trans Tryd.func71 (congrArg some (by kernel_rfl))
  f217 := Eq.trans Tryd.func59 (congrArg some (by kernel_rfl))
  f218 := Eq.trans Tryd.func72 (congrArg some (by kernel_rfl))
  f219 := Eq.trans Tryd.func55 (congrArg some (by kernel_rfl))
  f221 := Eq.trans Tryd.func63 (congrArg some (by kernel_rfl))
  f224 := Eq.trans Tryd.func61 (congrArg some (by kernel_rfl))
  f225 := Eq.trans Tryd.func60 (congrArg some (by kernel_rfl))
  f260 := Eq.trans Tryd.func73 (congrArg some (by kernel_rfl))
  f266 := Eq.trans Tryd.func65 (congrArg some (by kernel_rfl))
  f267 := Eq.trans Tryd.func62 (congrArg some (by kernel_rfl))
  f268 := Eq.trans Tryd.func67 (congrArg some (by kernel_rfl))
  f314 := Eq.trans Tryd.func66 (congrArg some (by kernel_rfl))
  t0 := Tryd.underlying0
  a0 := Tryd.isAgg0
  z0 := Tryd.sizeOf0
  v0 := Tryd.zeroValue0
  t3 := Tryd.underlying3
  a3 := Tryd.isAgg3
  z3 := Tryd.sizeOf3
  v3 := Tryd.zeroValue3
  t4 := Tryd.underlying4
  a4 := Tryd.isAgg4
  z4 := Tryd.sizeOf4
  v4 := Tryd.zeroValue4
  t5 := Tryd.underlying5
  a5 := Tryd.isAgg5
  z5 := Tryd.sizeOf5
  v5 := Tryd.zeroValue5
  t9 := Tryd.underlying9
  a9 := Tryd.isAgg9
  z9 := Tryd.sizeOf9
  v9 := Tryd.zeroValue9
  t21 := Tryd.underlying21
  a21 := Tryd.isAgg21
  z21 := Tryd.sizeOf21
  v21 := Tryd.zeroValue21
  t31 := Tryd.underlying32
  a31 := Tryd.isAgg32
  z31 := Tryd.sizeOf32
  v31 := Tryd.zeroValue32
  t46 := Tryd.underlying90
  a46 := Tryd.isAgg90
  z46 := Tryd.sizeOf90
  v46 := Tryd.zeroValue90
  t51 := Tryd.underlying93
  a51 := Tryd.isAgg93
  z51 := Tryd.sizeOf93
  v51 := Tryd.zeroValue93
  t105 := Tryd.underlying98
  a105 := Tryd.isAgg98
  z105 := Tryd.sizeOf98
  v105 := Tryd.zeroValue98
  t119 := Tryd.underlying100
  a119 := Tryd.isAgg100
  z119 := Tryd.sizeOf100
  t138 := Tryd.underlying102
  a138 := Tryd.isAgg102
  z138 := Tryd.sizeOf102
  v138 := Tryd.zeroValue102
  t139 := Tryd.underlying103
  a139 := Tryd.isAgg103
  z139 := Tryd.sizeOf103
  v139 := Tryd.zeroValue103
  t146 := Tryd.underlying94
  a146 := Tryd.isAgg94
  z146 := Tryd.sizeOf94
  v146 := Tryd.zeroValue94
  g1 := (by kernel_rfl)
  g3 := (by kernel_rfl)
  g4 := (by kernel_rfl)
def Tryd.laysCut_ren : Ren :=
 {
  f := fun x =>
    match x with
    | 145 => 31
    | 220 => 48
    | 219 => 55
    | 217 => 59
    | 225 => 60
    | 224 => 61
    | 267 => 62
    | 266 => 65
    | 314 => 66
    | n => n,
  t := fun x =>
    match x with
    | 9 => 9
    | 4 => 4
    | 59 => 57
    | 3 => 3
    | 5 => 5
    | 46 => 90
    | 146 => 94
    | 51 => 93
    | n => n,
  g := fun x =>
    match x with
    | 1 => 0
    | n => n }
theorem Tryd.laysCut : Lays.n145 Tryd.prog Tryd.laysCut_ren where
  mixed := (by kernel_rfl)
  f145 := Eq.trans Tryd.func31 (congrArg some (by kernel_rfl))
  f217 := Eq.trans Tryd.func59 (congrArg some (by kernel_rfl))
  f219 := Eq.trans Tryd.func55 (congrArg some (by kernel_rfl))
  f220 := Eq.trans Tryd.func48 (congrArg some (by kernel_rfl))
  f224 := Eq.trans Tryd.func61 (congrArg some (by kernel_rfl))
  f225 := Eq.trans Tryd.func60 (congrArg some (by kernel_rfl))
  f266 := Eq.trans Tryd.func65 (congrArg some (by kernel_rfl))
  f267 := Eq.trans Tryd.func62 (congrArg some (by kernel_rfl))
  f314 := Eq.trans Tryd.func66 (congrArg some (by kernel_rfl))
  t3 := Tryd.underlying3
  a3 := Tryd.isAgg3
  z3 := Tryd.sizeOf3
  v3 := Tryd.zeroValue3
  t4 := Tryd.underlying4
  a4 := Tryd.isAgg4
  z4 := Tryd.sizeOf4
  v4 := Tryd.zeroValue4
  t5 := Tryd.underlying5
  a5 := Tryd.isAgg5
  z5 := Tryd.sizeOf5
  v5 := Tryd.zeroValue5
  t9 := Tryd.underlying9
  a9 := Tryd.isAgg9
  z9 := Tryd.sizeOf9
  v9 := Tryd.zeroValue9
  t46 := Tryd.underlying90
  a46 := Tryd.isAgg90
  z46 := Tryd.sizeOf90
  v46 := Tryd.zeroValue90
  t51 := Tryd.underlying93
  a51 := Tryd.isAgg93
  z51 := Tryd.sizeOf93
  v51 := Tryd.zeroValue93
  t59 := Tryd.underlying57
  a59 := Tryd.isAgg57
  z59 := Tryd.sizeOf57
  v59 := Tryd.zeroValue57
  t146 := Tryd.underlying94
  a146 := Tryd.isAgg94
  z146 := Tryd.sizeOf94
  v146 := Tryd.zeroValue94
  g1 := (by kernel_rfl)
theorem Tryd.extra : Builder.Extra Tryd.prog Tryd.laysJoin_ren where
  sizeBuilder := by kernel_rfl
  liesBuilder := by kernel_rfl
  t5 := Tryd.laysSplit.t5
  a5 := Tryd.laysSplit.a5
  z5 := Tryd.laysSplit.z5
  v5 := Tryd.laysSplit.v5
  infoByte := by kernel_rfl
  cellsByte := by kernel_rfl
  sizeByte := by kernel_rfl
  neB5 := by decide
namespace Y3
theorem indexB_one (s : ByteArray) (c : UInt8) : indexB s ⟨#[c]⟩ = indexByte s.data.toList c := index_one _ _
set_option maxHeartbeats 2000000 in
set_option maxRecDepth 100000 in
/-- the shelf's stringslite.Cut, at a separator of one byte: nothing is asked -/
theorem slCut {P : Program} {ρ : Ren} (L : Lays.n220 P ρ) (s : ByteArray) (c : UInt8) (w : World) (hs : s.size ≤ 140737488355328) :
    Calls P (ρ.f 220) #[.string s, .string ⟨#[c]⟩] w fun e w' => e = .returned (.tuple #[.string ⟨(Lib.cut s.data.toList [c]).1.toArray⟩, .string ⟨(Lib.cut s.data.toList [c]).2.1.toArray⟩, .bool (Lib.cut s.data.toList [c]).2.2]) ∧ ∃ n, w' = w.drewN n := by
  have hsz : (⟨#[c]⟩ : ByteArray).size = 1 := rfl
  rcases Lib.indexB_cases s ⟨#[c]⟩ with hix | ⟨i, hix, hroom⟩
  · obtain ⟨e1, e2, e3⟩ := Lib.cutB_miss s ⟨#[c]⟩ hix
    have e1' : (⟨(Lib.cut s.data.toList [c]).1.toArray⟩ : ByteArray) = s := e1
    have e2' : (⟨(Lib.cut s.data.toList [c]).2.1.toArray⟩ : ByteArray) = ByteArray.empty := e2
    have e3' : (Lib.cut s.data.toList [c]).2.2 = false := e3
    rw [e1', e2', e3']
    rw [indexB_one] at hix
    have t3 := L.t3; have t4 := L.t4; have t9 := L.t9
    have a3 : ∀ w, (isAgg (ρ.t 3)).run P w = .ok false w := run_isAgg_plain L.t3 rfl; have a4 : ∀ w, (isAgg (ρ.t 4)).run P w = .ok false w := run_isAgg_plain L.t4 rfl; have a9 : ∀ w, (isAgg (ρ.t 9)).run P w = .ok false w := run_isAgg_plain L.t9 rfl
    have e219 : ∀ args w, (callFunc (ρ.f 219) args).run P w = .ok (.enter (ρ.f 219) args) w := enters_of L.f219 (by kernel_rfl) rfl
    have mixed := L.mixed; have z3 := L.z3; have v3 := L.v3; have z4 := L.z4; have v4 := L.v4; have z9 := L.z9; have v9 := L.v9
    go_enter L.f220, Body.n220_ntmps ρ
    go_wp2_with (go_at_fn (ρ.f 219); refine (Any.stringslite_Index_one { L with } _ _ _).mono ?_; rintro e w' ⟨rfl, rfl⟩; rw [hix])
    go_ret3
    exact ⟨rfl, 0, rfl⟩
  · obtain ⟨e1, e2, e3⟩ := Lib.cutB_hit s ⟨#[c]⟩ i hix
    have e1' : (⟨(Lib.cut s.data.toList [c]).1.toArray⟩ : ByteArray) = s.extract 0 i := e1
    have e2' : (⟨(Lib.cut s.data.toList [c]).2.1.toArray⟩ : ByteArray) = s.extract (i + 1) s.size := e2
    have e3' : (Lib.cut s.data.toList [c]).2.2 = true := e3
    rw [e1', e2', e3']
    rw [indexB_one] at hix
    rw [hsz] at hroom
    have c1 : (0 : Int) ≤ ↑i := by omega
    have c2 : (↑i : Int) ≤ ↑s.size := by omega
    have c3 : (0 : Int) ≤ ↑i + 1 := by omega
    have c4 : (↑i + 1 : Int) ≤ ↑s.size := by omega
    have t3 := L.t3; have t4 := L.t4; have t9 := L.t9
    have a3 : ∀ w, (isAgg (ρ.t 3)).run P w = .ok false w := run_isAgg_plain L.t3 rfl; have a4 : ∀ w, (isAgg (ρ.t 4)).run P w = .ok false w := run_isAgg_plain L.t4 rfl; have a9 : ∀ w, (isAgg (ρ.t 9)).run P w = .ok false w := run_isAgg_plain L.t9 rfl
    have e219 : ∀ args w, (callFunc (ρ.f 219) args).run P w = .ok (.enter (ρ.f 219) args) w := enters_of L.f219 (by kernel_rfl) rfl
    have mixed := L.mixed; have z3 := L.z3; have v3 := L.v3; have z4 := L.z4; have v4 := L.v4; have z9 := L.z9; have v9 := L.v9
    go_enter L.f220, Body.n220_ntmps ρ
    go_wp2_with (go_at_fn (ρ.f 219); refine (Any.stringslite_Index_one { L with } _ _ _).mono ?_; rintro e w' ⟨rfl, rfl⟩; rw [hix])
    go_region_o
    go_wp2
    go_ret3
    exact ⟨rfl, 1, rfl⟩
set_option maxHeartbeats 1000000 in
theorem cut1 {P : Program} {ρ : Ren} (L : Lays.n145 P ρ) (s : ByteArray) (c : UInt8) (w : World) (hs : s.size ≤ 140737488355328) :
    Calls P (ρ.f 145) #[.string s, .string ⟨#[c]⟩] w fun e w' => e = .returned (.tuple #[.string ⟨(Lib.cut s.data.toList [c]).1.toArray⟩, .string ⟨(Lib.cut s.data.toList [c]).2.1.toArray⟩, .bool (Lib.cut s.data.toList [c]).2.2]) ∧ ∃ n, w' = w.drewN n := by
  have t4 := L.t4; have t9 := L.t9; have t59 := L.t59
  have a4 : ∀ w, (isAgg (ρ.t 4)).run P w = .ok false w := run_isAgg_plain L.t4 rfl; have a9 : ∀ w, (isAgg (ρ.t 9)).run P w = .ok false w := run_isAgg_plain L.t9 rfl; have a59 : ∀ w, (isAgg (ρ.t 59)).run P w = .ok false w := run_isAgg_plain L.t59 rfl
  have e220 : ∀ args w, (callFunc (ρ.f 220) args).run P w = .ok (.enter (ρ.f 220) args) w := enters_of L.f220 (by kernel_rfl) rfl
  have mixed := L.mixed; have z4 := L.z4; have v4 := L.v4; have z9 := L.z9; have v9 := L.v9; have z59 := L.z59; have v59 := L.v59
  go_enter L.f145, Body.n145_ntmps ρ
  go_wp2_with (go_at_fn (ρ.f 220); refine (slCut { L with } _ _ _ hs).mono ?_; rintro e w' ⟨rfl, n, rfl⟩)
  go_ret3
  exact ⟨rfl, n, rfl⟩
set_option maxHeartbeats 1000000 in
/-- strings.Split at a separator of one byte -/
theorem split1 {P : Program} {ρ : Ren} (L : Lays.n146 P ρ) (hi9 : (P.info? (ρ.t 9)).map (fun i => (i.zero, i.size, i.bytes)) = some (some (.string ByteArray.empty), 1, 16)) (s : ByteArray) (b : UInt8) (w : World)
    (hs : s.size < 4294967281) :
    Calls P (ρ.f 146) #[.string s, .string ⟨#[b]⟩] w fun e w' =>
      e = .returned (.slice (some ⟨w.heap.size, 0, none⟩) (Lib.countB s ⟨#[b]⟩ + 1) (Lib.countB s ⟨#[b]⟩ + 1)) ∧ w' = w.alloc (.cells ((Lib.splitB ⟨#[b]⟩ 0 (Lib.countB s ⟨#[b]⟩) s).map Value.string).toArray (ρ.t 9)) := by
  have h1 : 1 ≤ (⟨#[b]⟩ : ByteArray).size := Nat.le_refl _
  have hle := Lib.countB_le ⟨#[b]⟩ h1 s.size s (Nat.le_refl _)
  have hlen := Lib.splitB_all ⟨#[b]⟩ h1 0 _ s rfl
  have hc : Calls P (ρ.f 138) #[.string s, .string ⟨#[b]⟩] w fun e w' => e = .returned (.int .i64 (Lib.countB s ⟨#[b]⟩)) ∧ w' = w := by
    refine (Any.strings_Count_one { L with } s b w).mono fun e w' ⟨he, hw⟩ => ⟨?_, hw⟩
    rw [he]
    show _ = Ending.returned (Value.int .i64 ((Lib.count s.data.toList [b] : Nat) : Int))
    rw [Lib.count_one]
    rfl
  have c := Any.strings_genSplit_core { L with } hi9 s ⟨#[b]⟩ 0 (-1) (Lib.countB s ⟨#[b]⟩ + 1) w hs h1 (Nat.zero_le _)
    (fun x c hx => by have h := Any.strings_Index_one { L with } x b (w.alloc (.cells c (ρ.t 9))); rw [← indexB_one] at h; exact h) hc (by decide) (by decide) (by rw [if_pos (by decide)]; omega)
  rw [Nat.add_sub_cancel, hlen] at c
  have e2 : Lib.cellsOf (Lib.splitB ⟨#[b]⟩ 0 (Lib.countB s ⟨#[b]⟩) s) (Lib.countB s ⟨#[b]⟩ + 1) = ((Lib.splitB ⟨#[b]⟩ 0 (Lib.countB s ⟨#[b]⟩) s).map Value.string).toArray := by rw [← hlen]; exact Lib.cellsOf_full _
  rw [e2] at c
  have t3 := L.t3; have t9 := L.t9; have t31 := L.t31
  have a3 := L.a3; have a9 := L.a9; have a31 := L.a31
  have z3 := L.z3; have v3 := L.v3; have z9 := L.z9; have v9 := L.v9; have z31 := L.z31; have v31 := L.v31
  have e221 : ∀ args w, (callFunc (ρ.f 221) args).run P w = .ok (.enter (ρ.f 221) args) w := enters_of L.f221 (by kernel_rfl) rfl
  go_enter L.f146, Body.n146_ntmps ρ
  go_wp2_with (go_at_fn (ρ.f 221); refine c.mono ?_; rintro e w' ⟨rfl, hw⟩; rw [hw])
  go_ret
  exact ⟨rfl, rfl⟩
end Y3
end Go.Proofs
