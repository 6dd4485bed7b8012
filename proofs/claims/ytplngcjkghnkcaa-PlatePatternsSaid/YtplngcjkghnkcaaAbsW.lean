/- Arithmetic in range. -/
import Derived.Test.YtplngcjkghnkcaaAbsV
namespace Go.Abs
abbrev Tab := List AV → List (Nat × Abs.Obj) → Option CR
theorem wrapI {x : Int} (h1 : -9223372036854775808 ≤ x) (h2 : x ≤ 9223372036854775807) : IntKind.i64.wrap x = x := by
  have e1 : ((2 : Int) ^ IntKind.i64.bits) = 18446744073709551616 := by decide
  have e2 : ((2 : Int) ^ (IntKind.i64.bits - 1)) = 9223372036854775808 := by decide
  simp only [IntKind.wrap, e1, e2, IntKind.signed, Bool.true_and, decide_eq_true_eq]
  split <;> omega
theorem wrap8 (x : Int) : IntKind.u8.wrap x = x % 256 := by
  have e1 : ((2 : Int) ^ IntKind.u8.bits) = 256 := by decide
  simp [IntKind.wrap, e1, IntKind.signed]
theorem sub8 (c d : UInt8) : IntKind.u8.wrap ((c.toNat : Int) - (d.toNat : Int)) = ((c - d).toNat : Int) := by
  have h1 := c.toNat_lt
  have h2 := d.toNat_lt
  rw [wrap8, UInt8.toNat_sub]
  omega
theorem take_snoc {α : Type} (l : List α) (d : α) (k : Nat) (h : k < l.length) : l.take (k + 1) = l.take k ++ [l.getD k d] := by
  rw [List.take_add_one]; simp [List.getD, h]
theorem hAlloc_box {P : Program} {T : TypeId} {z : List AV} (hz : zeroCells P T = some z) (ha : arrElem P T = none) {env : List AV} {objs : List (Nat × Abs.Obj)} {d : Nat} (hl : Go.Abs.look d objs = none) :
    hAlloc P env objs d T = some ⟨.ref d z.length 0 0, env, (d, .box z) :: objs⟩ := by
  simp only [hAlloc, hl, hz, ha]
theorem hAlloc_arr {P : Program} {T : TypeId} {z : List AV} {n sz : Nat} (hz : zeroCells P T = some z) (ha : arrElem P T = some (n, sz)) (h1 : n * sz = z.length) (h2 : n ≤ lim) {env : List AV} {objs : List (Nat × Abs.Obj)} {d : Nat} (hl : Go.Abs.look d objs = none) :
    hAlloc P env objs d T = some ⟨.ref d sz 0 0, env, (d, .arr sz (chunk sz n z)) :: objs⟩ := by
  simp only [hAlloc, hl, hz, ha]
  rw [if_pos ⟨h1, h2⟩]
theorem bld_zero {P : Program} {T : TypeId} {z : List AV} {pl : List (Nat × Nat)} (hp : places P T = some pl) (hz : zeroCells P T = some z) : bld P T [] = some (.agg z) := by
  simp only [bld, hp, hz]
  cases pl <;> rfl
theorem lt_top' {d : Nat} (h : d < 1000000) : (d < Go.Abs.top) = True := eq_true h
theorem lk_nil (d : Nat) : Go.Abs.look d [] = none := id rfl
theorem lk_cons (d n : Nat) (o : Abs.Obj) (l : List (Nat × Abs.Obj)) : Go.Abs.look d ((n, o) :: l) = if n = d then some o else Go.Abs.look d l := id rfl
theorem settle_8 {xs : List Operand} {env : List AV} {objs : List (Nat × Abs.Obj)} (h : firstName (xs.flatMap fun o => cellList (ev env o)) = none) : Go.Abs.settle 8 xs env objs = some (env, objs) := by
  show Go.Abs.settle (7 + 1) xs env objs = _; simp only [Go.Abs.settle, h]
theorem settle_no {xs : List Operand} {env : List AV} {objs : List (Nat × Abs.Obj)} (h : firstName (xs.flatMap fun o => cellList (ev env o)) = none) (n : Nat) : Go.Abs.settle (OfNat.ofNat n) xs env objs = some (env, objs) := by
  cases n with
  | zero => rfl
  | succ n => show Go.Abs.settle (n + 1) xs env objs = _; simp only [Go.Abs.settle, h]
theorem slc_str {P : Program} {T : TypeId} {objs : List (Nat × Abs.Obj)} {env : List AV} (hs : strTy P T = true) {s : List UInt8} {lo hi : Option Operand} (l h : Nat) (hl : bnd env 0 lo = some (l : Int)) (hh : bnd env s.length hi = some (h : Int)) (h1 : l ≤ h) (h2 : h ≤ s.length) :
    slc P T objs env (.str s) lo hi = some (.str ((s.drop l).take (h - l))) := by
  simp only [slc, hs, hl, hh, if_true]
  rw [if_pos ⟨by omega, by omega, by omega⟩]
  rfl
end Go.Abs
