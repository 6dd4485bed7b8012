/- The walks' library, part D: what a region of the program does in an abstract state, and its soundness. -/
import Derived.Test.YtjficagemeiecaaDoorLibC
namespace Go.Abs
open Go.RowKit
variable {O : SObjs} {G : List (Nat × TD)} {P : Program} {T : TypeId} {x : SV} {C : Cfg} {c : List Bool} {s : SS} {n : Int} {cs : List CV}
theorem asC_eq {c : CV} (h : asC x = some c) : x = .v (.c c) := by
 unfold asC at h; split at h
 ·simp only [Option.some.injEq] at h; subst h; rfl
 ·cases h
theorem asK_eq {k : KV} (h : asK x = some k) : x = .v (.c (.k k)) := by
 unfold asK at h; split at h
 ·simp only [Option.some.injEq] at h; subst h; rfl
 ·cases h
theorem asI_eq (h : asI x = some n) : ∃ k, x = .v (.c (.k (.int k n))) := by
 unfold asI at h; split at h
 ·simp only [Option.some.injEq] at h; subst h; exact ⟨_, rfl⟩
 ·cases h
theorem asC_ev {o : Operand} {c : CV} (h : asC (sev C s o) = some c) : ev (s.st C.N).env o = c.av s.objs := by
 rw [← sev_av, asC_eq h]; rfl
theorem asK_ev {o : Operand} {k : KV} (h : asK (sev C s o) = some k) : ev (s.st C.N).env o = k.av := by
 rw [← sev_av, asK_eq h]; rfl
theorem asI_ev {o : Operand} (h : asI (sev C s o) = some n) : ∃ k, ev (s.st C.N).env o = .int k n := by
 obtain ⟨k, e⟩ := asI_eq h
 exact ⟨k, by rw [← sev_av, e]; rfl⟩
theorem getD_map_lt {α β : Type} (f : α → β) (l : List α) (n : Nat) (d : α) (e : β) (h : n < l.length) : (l.map f).getD n e = f (l.getD n d) := by
 simp [List.getD, h]
theorem lAt_av {ts : Tys} {l : List ts.T} (h0 : 0 ≤ n) (h1 : n < l.length) : (l.map ts.avs).getD n.toNat [] = ts.avs (lAt ts.d l n) := by
 unfold lAt
 exact getD_map_lt _ _ _ _ _ (by omega)
theorem ldC_av {D : Bool × Nat} {x : VV} (h : ldC D cs = some x) : ldCells D.1 D.2 (cs.map (CV.av O)) = some (x.av O) := by
 unfold ldC at h
 unfold ldCells
 split at h
 ·rename_i hg
  split at h
  ·rename_i hn
   simp only [Option.some.injEq] at h; subst h
   simp [hg, hn, VV.av]
  ·cases h
 ·rename_i hg
  cases cs with
  | nil => simp at h
  | cons c cs =>
   simp only [List.head?_cons, Option.map_some, Option.some.injEq] at h; subst h
   simp [hg, VV.av]
theorem sCells_av {n sz i off : Nat} (h : sCells O n sz i off = some (c, cs)) (hc : allT c) : cellsAt (objsAV O O) n sz i off = some (cs.map (CV.av O)) := by
 unfold sCells at h
 split at h
 ·rename_i cs' hl
  split at h
  ·simp only [Option.some.injEq, Prod.mk.injEq] at h; obtain ⟨_, rfl⟩ := h
   simp [cellsAt, lookS_av, hl, SO.av]
  ·cases h
 ·rename_i ts l hl
  split at h
  ·rename_i hsz
   simp only [Option.some.injEq, Prod.mk.injEq] at h; obtain ⟨rfl, rfl⟩ := h
   have h0 : i + 1 ≤ l.length := of_decide_eq_true hc.1
   simp only [cellsAt, lookS_av, hl, Option.map_some, SO.av, List.length_map]
   rw [if_pos ⟨hsz, h0⟩]
   simp only [lGet, List.map_drop, kvs_cav]
   congr 2
   exact getD_map_lt _ _ _ _ _ h0
  ·cases h
 ·cases h
theorem plainNC_av {x : CV} (h : plainNC O x = true) : plainN (x.av O) = true := by
 cases x with
 | k v => cases v <;> rfl
 | own n =>
  simp only [plainNC] at h
  split at h
  ·rename_i ts l e
   simp [CV.av, e, plainN]
  ·cases h
 | cst c => cases c <;> rfl
 | _ => first | rfl | simp [plainNC] at h
theorem not_agg {x : CV} : (∀ l, x.av O ≠ .agg l) ∧ ∀ l, x.av O ≠ .tup l := by
 cases x with
 | k v => cases v <;> simp [CV.av, KV.av]
 | own n => simp only [CV.av]; split <;> simp
 | raw a => simp only [CV.av]; split <;> simp
 | _ => simp [CV.av]
theorem cellsOf_c {x : CV} (h : plainN (x.av O) = true) : cellsOf (x.av O) = some [x.av O] := by
 unfold cellsOf
 split
 ·rename_i l e; exact ((not_agg (O := O) (x := x)).1 l e).elim
 ·rw [if_pos h]
theorem cellsS_av (h : cellsS O x = some cs) : cellsOf (x.av O) = some (cs.map (CV.av O)) := by
 unfold cellsS at h
 split at h
 ·simp only [Option.some.injEq] at h; subst h; rfl
 ·split at h
  ·rename_i hp
   simp only [Option.some.injEq] at h; subst h
   exact cellsOf_c (plainNC_av hp)
  ·cases h
 ·cases h
theorem sFill_av {pl : List (Nat × Bool × Nat)} : ∀ {parts : List (Nat × SV)} {cells r : List CV}, sFill O pl cells parts = some r →
  fillA (pl.map fun f => (f.1, f.2.2)) (cells.map (CV.av O)) (parts.map fun p => (p.1, p.2.av O)) = some (r.map (CV.av O))
 | [], cells, r, h => by simp only [sFill, Option.some.injEq] at h; subst h; rfl
 | (i, x) :: rest, cells, r, h => by
  simp only [sFill] at h
  split at h
  ·rename_i off g n cs hp hcs
   split at h
   ·rename_i hc
    have ih := sFill_av (parts := rest) h
    simp only [List.map_cons, fillA, List.getElem?_map, hp, Option.map_some, cellsS_av hcs, List.length_map]
    rw [if_pos hc]
    simpa only [List.map_append, List.map_take, List.map_drop] using ih
   ·cases h
  ·cases h
theorem slen_sound (hG : Good P G) (h : slen O (lkT G T) x = some n) : lenOf P T (x.av O) = some (.int .i64 n) := by
 have hsl : isSliceTD (lkT G T) = true → (sliceElem P T).isSome = true := by
  intro hi
  unfold isSliceTD at hi
  split at hi
  ·rename_i ts b e
   rw [(hG T _ e).1]; rfl
  ·cases hi
 unfold slen at h
 split at h
 ·split at h
  ·rename_i e
   simp only [Option.some.injEq] at h; subst h
   simp only [SV.av, VV.av, CV.av, KV.av, lenOf, (hG T _ e).1, if_true]; rfl
  ·cases h
 ·split at h
  ·rename_i hi
   simp only [Option.some.injEq] at h; subst h
   simp only [SV.av, VV.av, CV.av, KV.av, lenOf, hsl hi, if_true, List.length_map]; rfl
  ·cases h
 ·split at h
  ·rename_i hi
   simp only [Option.some.injEq] at h; subst h
   simp only [SV.av, VV.av, CV.av, lenOf, hsl hi, if_true]
  ·cases h
 ·split at h
  ·rename_i ts l hl
   split at h
   ·rename_i hi
    simp only [Option.some.injEq] at h; subst h
    simp only [SV.av, VV.av, CV.av, hl, lenOf, hsl hi, if_true]; rfl
   ·cases h
  ·cases h
 ·split at h
  ·rename_i hi
   simp only [Option.some.injEq] at h; subst h
   simp only [SV.av, VV.av, CV.av, lenOf, hsl hi, if_true]; rfl
  ·cases h
 ·cases h
theorem sbnd_av {d n : Int} {o : Option Operand} (h : sbnd C s d o = some n) : bnd (s.st C.N).env d o = some n := by
 cases o with
 | none => exact h
 | some o =>
  simp only [sbnd] at h
  obtain ⟨k, e⟩ := asI_ev h
  simp only [bnd, e, idx]
theorem inCut_if {α : Type} {l h : Int} {len : Nat} {x y : α} (hh : allT [inCut l h len]) : (if 0 ≤ l ∧ l ≤ h ∧ h ≤ (len : Int) then x else y) = x := if_pos (inCut_spec hh.1)
theorem sslc3_sound (hG : Good P C.G) {lo : Option Operand} {hi mx : Operand} {y : CV} (h : sslc3 C s T x lo hi mx = some (c, y)) (hc : allT c) :
  slc3 P T (s.st C.N).env (x.av s.objs) lo hi mx = some (y.av s.objs) := by
 unfold sslc3 at h
 split at h
 ·rename_i n
  split at h
  ·rename_i us b hlk
   split at h
   ·rename_i ts by_ l h' m e1 e2 e3 e4
    split at h
    ·rename_i hlen
     simp only [Option.some.injEq, Prod.mk.injEq] at h; obtain ⟨rfl, rfl⟩ := h
     have hse : sliceElem P T = some us.len := by rw [hlen]; exact (hG T _ e1).1
     obtain ⟨c1, c2, c3, c4, _⟩ := hc
     simp only [bLe, decide_eq_true_eq, iNat, lLen] at c1 c2 c3 c4
     simp only [SV.av, VV.av, CV.av, hlk, slc3, hse, if_true, sbnd_av e2, sbnd_av e3, sbnd_av e4]
     rw [if_pos ⟨c1, c2, c3, of_decide_eq_true c4⟩]
     simp [nInt, nSub]
    ·cases h
   ·cases h
  ·cases h
 ·rename_i n sz off len
  split at h
  ·rename_i ts by_ l h' m e1 e2 e3 e4
   split at h
   ·rename_i hlen
    simp only [Option.some.injEq, Prod.mk.injEq] at h; obtain ⟨rfl, rfl⟩ := h
    have hse : sliceElem P T = some sz := by rw [hlen]; exact (hG T _ e1).1
    obtain ⟨c1, c2, c3, c4, _⟩ := hc
    simp only [bLe, decide_eq_true_eq, iNat] at c1 c2 c3 c4
    simp only [SV.av, VV.av, CV.av, slc3, hse, if_true, sbnd_av e2, sbnd_av e3, sbnd_av e4]
    rw [if_pos ⟨c1, c2, c3, of_decide_eq_true c4⟩]
    simp [nInt, nSub, nAdd]
   ·cases h
  ·cases h
 ·cases h
theorem sslc_sound (hG : Good P C.G) {lo hi : Option Operand} {y : CV} (h : sslc C s T x lo hi = some (c, y)) (hc : allT c) :
  slc P T (s.st C.N).objs (s.st C.N).env (x.av s.objs) lo hi = some (y.av s.objs) := by
 unfold sslc at h
 split at h
 ·rename_i b
  split at h
  ·rename_i l h' e1 e2 e3
   simp only [Option.some.injEq, Prod.mk.injEq] at h; obtain ⟨rfl, rfl⟩ := h
   simp only [SV.av, VV.av, CV.av, KV.av, slc, (hG T _ e1).1, if_true, sbnd_av e2]
   rw [show bnd (s.st C.N).env (b.length : Int) hi = some h' from sbnd_av e3]
   exact inCut_if hc
  ·cases h
 ·rename_i us b
  split at h
  ·rename_i ts bb l h' e1 e2 e3
   split at h
   ·rename_i hlen
    simp only [Option.some.injEq, Prod.mk.injEq] at h; obtain ⟨rfl, rfl⟩ := h
    have hse : sliceElem P T = some us.len := by rw [hlen]; exact (hG T _ e1).1
    simp only [SV.av, VV.av, CV.av, KV.av, slc, hse, if_true, sbnd_av e2, List.length_map]
    rw [show bnd (s.st C.N).env (b.length : Int) hi = some h' from sbnd_av e3]
    simp only [cutL, List.map_take, List.map_drop]
    exact inCut_if hc
   ·cases h
  ·cases h
 ·split at h
  ·rename_i ts bb l h' e1 e2 e3
   simp only [Option.some.injEq, Prod.mk.injEq] at h; obtain ⟨rfl, rfl⟩ := h
   have hse : (sliceElem P T).isSome = true := by rw [(hG T _ e1).1]; rfl
   simp only [SV.av, VV.av, CV.av, slc, hse, if_true, sbnd_av e2, sbnd_av e3]
   exact inCut_if hc
  ·cases h
 ·rename_i n
  split at h
  ·rename_i us b hl
   split at h
   ·rename_i ts bb l h' e1 e2 e3
    split at h
    ·rename_i hlen
     simp only [Option.some.injEq, Prod.mk.injEq] at h; obtain ⟨rfl, rfl⟩ := h
     have hse : sliceElem P T = some us.len := by rw [hlen]; exact (hG T _ e1).1
     simp only [SV.av, VV.av, CV.av, hl, slc, hse, if_true, sbnd_av e2]
     rw [show bnd (s.st C.N).env (b.length : Int) hi = some h' from sbnd_av e3]
     simp only [Nat.zero_add]
     exact inCut_if hc
    ·cases h
   ·cases h
  ·cases h
 ·rename_i n sz off len
  split at h
  ·rename_i ts bb l h' e1 e2 e3
   split at h
   ·rename_i hlen
    simp only [Option.some.injEq, Prod.mk.injEq] at h; obtain ⟨rfl, rfl⟩ := h
    have hse : sliceElem P T = some sz := by rw [hlen]; exact (hG T _ e1).1
    simp only [SV.av, VV.av, CV.av, slc, hse, if_true, sbnd_av e2]
    rw [show bnd (s.st C.N).env (len : Int) hi = some h' from sbnd_av e3]
    exact inCut_if hc
   ·cases h
  ·cases h
 ·rename_i n sz
  split at h
  ·rename_i us b len ts hl e1
   split at h
   ·rename_i hlen
    simp only [Option.some.injEq, Prod.mk.injEq] at h; obtain ⟨rfl, rfl⟩ := h
    have hn : b.length = len := of_decide_eq_true hc.1
    have hae := (hG T _ e1).1
    have hlk : look n (s.st C.N).objs = some (.arr us.len (b.map us.avs)) := by
     show look n (objsAV s.objs s.objs) = _
     rw [lookS_av, hl]; rfl
    simp only [SV.av, VV.av, CV.av, slc, hae, hlk, List.length_map, hl]
    rw [if_pos ⟨hlen.2, by rw [hlen.2, hlen.1], hn⟩]
    simp only [bnd]
    rw [if_pos ⟨by omega, by omega, by omega⟩]
    simp [hlen.1, hlen.2, hn]
   ·cases h
  ·rename_i us b len ts hl e1 nn
   split at h
   ·rename_i l h' e2 e3
    split at h
    ·rename_i hlen
     simp only [Option.some.injEq, Prod.mk.injEq] at h; obtain ⟨rfl, rfl⟩ := h
     have hn : b.length = len := of_decide_eq_true hc.1
     have hae := (hG T _ e1).1
     have hlk : look n (s.st C.N).objs = some (.arr us.len (b.map us.avs)) := by
      show look n (objsAV s.objs s.objs) = _
      rw [lookS_av, hl]; rfl
     simp only [SV.av, VV.av, CV.av, slc, hae, hlk, List.length_map]
     rw [if_pos ⟨hlen.2, by rw [hlen.2, hlen.1], hn⟩]
     have e4 : ∀ o, sbnd C s (iNat len) o = some h' → bnd (s.st C.N).env (len : Int) o = some h' := fun o e => sbnd_av e
     simp only [sbnd_av e2, e4 _ e3]
     exact inCut_if hc.2
    ·cases h
   ·cases h
  ·cases h
 ·cases h
theorem asRefsS_sound : ∀ {l : List SV} {ns : List (Nat × Nat)}, asRefsS l = some ns → asRefs (l.map (SV.av O)) = some (ns.map (·.1))
 | [], ns, h => by simp only [asRefsS, Option.some.injEq] at h; subst h; rfl
 | x :: l, ns, h => by
  unfold asRefsS at h
  split at h
  ·rename_i e; cases e
  ·rename_i n sz r e
   simp only [List.cons.injEq] at e
   obtain ⟨rfl, rfl⟩ := e
   split at h
   ·rename_i ms hms
    simp only [Option.some.injEq] at h; subst h
    simp only [List.map_cons, SV.av, VV.av, CV.av, asRefs, asRefsS_sound hms, Option.map_some]
   ·cases h
  ·cases h
theorem mkFS_sound {f : FuncId} {l : List SV} {x : CV} (h : mkFS f l = some x) : mkF (.func f) (l.map (SV.av O)) = some (x.av O) := by
 unfold mkFS at h
 split at h
 ·simp only [Option.some.injEq] at h; subst h; rfl
 ·split at h
  ·rename_i y l ns hns
   simp only [Option.some.injEq] at h; subst h
   have := asRefsS_sound (O := O) hns
   unfold mkF
   simp only [List.map_cons] at this ⊢
   rw [this]; rfl
  ·cases h
theorem concS_sound (hG : Good P G) (h : concS (lkT G T) = true) : concT P T = true := by
 have key : ∀ d, P.underlying T = some d → (∀ ms, d ≠ .interface ms) → concT P T = true := by
  intro d hu hn
  unfold concT
  rw [hu]
  cases d <;> first | rfl | exact absurd rfl (hn _)
 cases hd : lkT G T with
 | none => simp [hd, concS] at h
 | some D =>
  have hok := hG T D hd
  have hu := TD.ok_und hok
  obtain ⟨d, hu⟩ := Option.isSome_iff_exists.1 hu
  refine key d hu fun ms e => ?_
  subst e
  cases D with
  | int k => have := hok.1; simp [intTy, hu] at this
  | bool => have := hok.1; simp [boolTy, hu] at this
  | str => have := hok.1; simp [strTy, hu] at this
  | slice ts b => have := hok.1; simp [sliceElem, hu] at this
  | struct ts fs eq =>
   have := hok.1
   simp only [cellTy, hu] at this
   split at this <;> simp_all
  | arr n ts => have := hok.1; simp [arrElem, hu] at this
  | map kk k => have := hok.1; simp [mapOkB, mapT, hu] at this
  | nl c =>
   cases c with
   | nilP => have := hok.1; simp [nlOk, ptrZ, hu] at this
   | nilF => have := hok.1; simp [nlOk, funcT, hu] at this
   | nilI => simp [hd, concS] at h
   | fn f => simp [hd, concS] at h
theorem ksOf_eq : ∀ {l : List CV} {ks : List KV}, ksOf l = some ks → l = ks.map CV.k
 | [], ks, h => by simp only [ksOf, Option.some.injEq] at h; subst h; rfl
 | x :: l, ks, h => by
  unfold ksOf at h
  split at h
  ·rename_i e; cases e
  ·rename_i v r e
   simp only [List.cons.injEq] at e
   obtain ⟨rfl, rfl⟩ := e
   split at h
   ·rename_i m hm
    simp only [Option.some.injEq] at h; subst h
    rw [ksOf_eq hm]; rfl
   ·cases h
  ·cases h
theorem kv_plain (v : KV) : plainC v.av = true := by cases v <;> rfl
theorem mkIS_sound (hG : Good P G) {y : CV} (h : mkIS (lkT G T) T x = some y) : mkI P T (x.av O) = some (y.av O) := by
 unfold mkIS at h
 split at h
 case isFalse => cases h
 rename_i hc
 have hc := concS_sound hG hc
 split at h
 ·rename_i n sz
  simp only [Option.some.injEq] at h; subst h
  simp only [mkI, hc, if_true, SV.av, VV.av, CV.av]; rfl
 ·rename_i l
  obtain ⟨ks, hks, rfl⟩ := Option.map_eq_some_iff.1 h
  rw [ksOf_eq hks]
  have hp : ((ks.map CV.k).map (CV.av O)).all plainC = true := by
   rw [ck_av, List.all_map, List.all_eq_true]
   intro v _; exact kv_plain v
  rw [ck_av] at hp
  simp only [mkI, hc, if_true, SV.av, VV.av, CV.av, ck_av, hp]
 ·rename_i v
  simp only [Option.some.injEq] at h; subst h
  have hp := kv_plain v
  simp only [mkI, hc, if_true, SV.av, VV.av, CV.av, List.map_cons, List.map_nil]
  generalize v.av = u at hp
  cases u <;> first | (simp only [hp, if_true]; done) | simp [plainC] at hp
  all_goals simp_all
 ·cases h
theorem tasS_sound (hG : Good P G) {ok : Bool} {x y : SV} (h : tasS (lkT G T) T ok x = some y) : tas P T ok (x.av O) = some (y.av O) := by
 unfold tasS at h
 split at h
 case isFalse => cases h
 rename_i hc
 have hc := concS_sound hG hc
 split at h
 ·rename_i t l
  split at h
  ·rename_i ht
   simp only [Option.some.injEq] at h; subst h
   simp only [tas, hc, if_true, SV.av, VV.av, CV.av, ht]
   cases ok <;> simp [tasV, tasVS, VV.av, CV.av, KV.av]
  ·cases h
 ·rename_i t v
  split at h
  ·rename_i ht
   simp only [Option.some.injEq] at h; subst h
   simp only [tas, hc, if_true, SV.av, VV.av, CV.av, ht, List.map_cons, List.map_nil]
   cases ok <;> simp [tasV, tasVS, VV.av, CV.av, KV.av]
  ·cases h
 ·cases h
theorem eqK_sound {op : BinOp} {b : Bool} {k : KV} (h : eqK op b = some k) : eqOp op b = some k.av := by
 unfold eqK at h
 split at h
 ·simp only [Option.some.injEq] at h; subst h; rfl
 ·simp only [Option.some.injEq] at h; subst h; rfl
 ·cases h
theorem isI_sound (hG : Good P G) (h : isI (lkT G T) = true) : ifaceT P T = true := by
 unfold isI at h
 split at h
 ·rename_i e; exact (hG T _ e).1
 ·cases h
theorem isP_sound (hG : Good P G) (h : isP (lkT G T) = true) : ptrZ P T = true ∧ ptrT P T = true := by
 unfold isP at h
 split at h
 ·rename_i e
  have h1 : ptrZ P T = true := (hG T _ e).1
  refine ⟨h1, ?_⟩
  unfold ptrZ at h1
  unfold ptrT
  split at h1
  ·rename_i e hu; simp
  ·cases h1
 ·cases h
theorem scmp_sound (hG : Good P G) {X Y : Operand} {op : BinOp} {x y : SV} {b : Bool} (h : scmp (lkT G T) X Y x y = some b) :
  bop P T op (x.av O) (y.av O) = none ∧ cmpA P T X Y (x.av O) (y.av O) = some b := by
 unfold scmp at h
 split at h
 case h_2 => cases h
 rename_i x y
 split at h
 ·split at h
  ·rename_i hc
   simp only [Bool.and_eq_true] at hc
   refine ⟨rfl, ?_⟩
   simp only [SV.av, VV.av, CV.av, KC.val, cmpA, isI_sound hG hc.1, hc.2, Bool.and_self, if_true]; exact h
  ·cases h
 ·split at h
  ·rename_i hc
   refine ⟨rfl, ?_⟩
   simp only [SV.av, VV.av, CV.av, KC.val, cmpA, isI_sound hG hc, if_true]; exact h
  ·cases h
 ·split at h
  ·rename_i hc
   refine ⟨rfl, ?_⟩
   simp only [SV.av, VV.av, CV.av, KC.val, cmpA, isI_sound hG hc, if_true]; exact h
  ·cases h
 ·split at h
  ·rename_i hc
   refine ⟨rfl, ?_⟩
   simp only [SV.av, VV.av, CV.av, KC.val, cmpA, isI_sound hG hc, if_true, Option.map_none]; exact h
  ·cases h
 ·split at h
  ·rename_i hc
   refine ⟨rfl, ?_⟩
   simp only [SV.av, VV.av, CV.av, KC.val, cmpA, isI_sound hG hc, if_true, Option.map_none]; exact h
  ·cases h
 ·split at h
  ·rename_i hc
   refine ⟨rfl, ?_⟩
   simp only [SV.av, VV.av, CV.av, KC.val, cmpA, (isP_sound hG hc).2, if_true]; exact h
  ·cases h
 ·split at h
  ·rename_i hc
   refine ⟨rfl, ?_⟩
   simp only [SV.av, VV.av, CV.av, KC.val, cmpA, (isP_sound hG hc).2, if_true]; exact h
  ·cases h
 ·split at h
  ·rename_i hc
   refine ⟨rfl, ?_⟩
   simp only [SV.av, VV.av, CV.av, KC.val, cmpA, (isP_sound hG hc).2, if_true]; exact h
  ·cases h
 ·split at h
  ·rename_i hc
   obtain ⟨h1, rfl, rfl⟩ := hc
   refine ⟨rfl, ?_⟩
   simp only [SV.av, VV.av, CV.av, cmpA, (isP_sound hG h1).1, beq_self_eq_true, Nat.zero_mul, Bool.and_self, if_true]; exact h
  ·cases h
 ·cases h
theorem smm_sound {mx : Bool} {l : List SV} {x : KV} (h : smm mx l = some x) : mmA mx (l.map (SV.av O)) = some x.av := by
 unfold smm at h
 split at h
 ·rename_i k a k' b
  split at h
  ·rename_i hk
   simp only [Option.some.injEq] at h; subst h
   simp only [List.map_cons, List.map_nil, SV.av, VV.av, CV.av, KV.av, mmA, hk, if_true]
   cases mx <;> rfl
  ·cases h
 ·cases h
theorem flat_row {ts : Tys} : ∀ (l : List ts.T) (n : Nat), n < l.length → ((l.flatMap ts.avs).drop (n * ts.len)).take ts.len = ts.avs (l.getD n ts.d)
 | x :: l, 0, _ => by
  simp only [List.flatMap_cons, Nat.zero_mul, List.drop_zero, List.getD, List.getElem?_cons_zero, Option.getD_some]
  rw [List.take_append_of_le_length (by rw [avs_len]; exact Nat.le_refl _), List.take_of_length_le (by rw [avs_len]; exact Nat.le_refl _)]
 | x :: l, n + 1, h => by
  have ih := flat_row l n (by simpa using h)
  simp only [List.flatMap_cons, List.getD, List.getElem?_cons_succ] at ih ⊢
  have e : (ts.avs x ++ List.flatMap ts.avs l).drop ts.len = List.flatMap ts.avs l := List.drop_left' (avs_len ts x)
  rw [Nat.add_mul, Nat.one_mul, Nat.add_comm, ← List.drop_drop, e]
  exact ih
 | [], n, h => by simp at h
theorem sR_sound (hG : Good P C.G) {op : Op} (h : sR C s op = some (c, x)) (hc : allT c) :
  rOp P (s.st C.N).env (s.st C.N).objs op = some (x.av s.objs) := by
 have hob : (s.st C.N).objs = objsAV s.objs s.objs := rfl
 unfold sR at h
 split at h
 ·simp only [Option.some.injEq, Prod.mk.injEq] at h; obtain ⟨_, rfl⟩ := h
  simp only [rOp, sev_av]
 ·simp only [Option.some.injEq, Prod.mk.injEq] at h; obtain ⟨_, rfl⟩ := h
  simp only [rOp, sev_av]
 ·
  rename_i T x' k
  split at h
  ·rename_i cs ts fs eq e1 e2
   split at h
   ·rename_i o g n e3
    simp only [Option.some.injEq, Prod.mk.injEq] at h; obtain ⟨_, rfl⟩ := h
    simp only [rOp, asC_ev e1, CV.av, (hG T _ e2).2.1 k _ e3, SV.av, VV.av, List.map_drop]
   ·cases h
  ·rename_i n sz i off ts fs eq e1 e2
   split at h
   ·rename_i o g n' e3
    simp only [Option.some.injEq, Prod.mk.injEq] at h; obtain ⟨_, rfl⟩ := h
    simp only [rOp, asC_ev e1, CV.av, (hG T _ e2).2.1 k _ e3, SV.av, VV.av]
   ·cases h
  ·cases h
 ·
  rename_i T x' k
  split at h
  ·rename_i cs ts fs eq e1 e2
   have hev : ev (s.st C.N).env x' = .agg (cs.map (CV.av s.objs)) := by rw [← sev_av, e1]; rfl
   split at h
   ·rename_i o n e3
    split at h
    ·rename_i hle
     simp only [Option.some.injEq, Prod.mk.injEq] at h; obtain ⟨_, rfl⟩ := h
     simp only [rOp, hev, (hG T _ e2).2.1 k _ e3, List.length_map, SV.av, VV.av, List.map_take, List.map_drop]
     rw [if_pos hle]
    ·cases h
   ·rename_i o n e3
    cases hx : cs[o]? with
    | none => simp [hx] at h
    | some y =>
     simp only [hx, Option.map_some, Option.some.injEq, Prod.mk.injEq] at h; obtain ⟨_, rfl⟩ := h
     simp only [rOp, hev, (hG T _ e2).2.1 k _ e3, List.getElem?_map, hx, Option.map_some, SV.av, VV.av]
   ·cases h
  ·cases h
 ·
  rename_i T x' i
  split at h
  ·rename_i n us l ts b e0 e1 e2
   obtain ⟨ki, hi⟩ := asI_ev e0
   split at h
   ·rename_i hlen
    simp only [Option.some.injEq, Prod.mk.injEq] at h; obtain ⟨rfl, rfl⟩ := h
    have hr := inR_spec hc.1
    have hse : sliceElem P T = some us.len := by rw [hlen]; exact (hG T _ e2).1
    simp only [rOp, hi, asC_ev e1, CV.av, KV.av, SV.av, VV.av, List.length_map]
    rw [if_pos ⟨hr.1, hr.2, hse⟩, lAt_av hr.1 hr.2, kvs_av]
   ·cases h
  ·rename_i n m ts b e0 e1 e2
   obtain ⟨ki, hi⟩ := asI_ev e0
   split at h
   ·rename_i us l hl
    split at h
    ·rename_i hlen
     simp only [Option.some.injEq, Prod.mk.injEq] at h; obtain ⟨rfl, rfl⟩ := h
     have hr := inR_spec hc.1
     have hse : sliceElem P T = some us.len := by rw [hlen]; exact (hG T _ e2).1
     simp only [rOp, hi, asC_ev e1, CV.av, hl, SV.av, VV.av]
     rw [if_pos ⟨hr.1, hr.2, hse⟩, Nat.zero_add]; rfl
    ·cases h
   ·cases h
  ·rename_i n m sz off len ts b e0 e1 e2
   obtain ⟨ki, hi⟩ := asI_ev e0
   split at h
   ·rename_i hlen
    simp only [Option.some.injEq, Prod.mk.injEq] at h; obtain ⟨rfl, rfl⟩ := h
    have hr := inR_spec hc.1
    have hse : sliceElem P T = some sz := by rw [hlen]; exact (hG T _ e2).1
    simp only [rOp, hi, asC_ev e1, CV.av, SV.av, VV.av]
    rw [if_pos ⟨hr.1, hr.2, hse⟩]; rfl
   ·cases h
  ·rename_i n m sz len ts e0 e1 e2
   obtain ⟨ki, hi⟩ := asI_ev e0
   split at h
   ·rename_i hlen
    simp only [Option.some.injEq, Prod.mk.injEq] at h; obtain ⟨rfl, rfl⟩ := h
    have hr := inR_spec hc.1
    simp only [rOp, hi, asC_ev e1, CV.av, (hG T _ e2).1, SV.av, VV.av]
    rw [if_pos ⟨hlen, hr.1, hr.2⟩]; rfl
   ·cases h
  ·rename_i n us l len ts e0 e1 e2
   obtain ⟨ki, hi⟩ := asI_ev e0
   split at h
   ·rename_i hlen
    simp only [Option.some.injEq, Prod.mk.injEq] at h; obtain ⟨rfl, rfl⟩ := h
    have hr := inR_spec hc.1
    have hr2 := inR_spec hc.2.1
    simp only [rOp, hi, asC_ev e1, CV.av, (hG T _ e2).1, SV.av, VV.av]
    rw [if_pos ⟨hr.1, hr.2⟩, ← hlen, flat_row l n.toNat (by have := hr2.2; unfold lLen at this; omega), kvs_av]
    rfl
   ·cases h
  ·cases h
 ·
  rename_i T x' i
  split at h
  ·rename_i n b e0 e1 e2
   obtain ⟨ki, hi⟩ := asI_ev e0
   simp only [Option.some.injEq, Prod.mk.injEq] at h; obtain ⟨rfl, rfl⟩ := h
   have hr := inR_spec hc.1
   simp only [rOp, hi, asK_ev e1, KV.av]
   rw [if_pos ⟨(hG T _ e2).1, hr.1, hr.2⟩]; rfl
  ·cases h
 ·
  rename_i T x'
  split at h
  ·rename_i cs D e1 e2
   cases hx : ldC D.cell (cs.map CV.k) with
   | none => simp [hx] at h
   | some y =>
    simp only [hx, Option.map_some, Option.some.injEq, Prod.mk.injEq] at h; obtain ⟨_, rfl⟩ := h
    have := ldC_av (O := s.objs) hx
    rw [ck_av] at this
    simp only [rOp, asC_ev e1, CV.av, TD.ok_cell (hG T _ e2), this, SV.av]
  ·rename_i n sz i off D e1 e2
   split at h
   ·rename_i c' cs hcs
    cases hx : ldC D.cell cs with
    | none => simp [hx] at h
    | some y =>
     simp only [hx, Option.map_some, Option.some.injEq, Prod.mk.injEq] at h; obtain ⟨rfl, rfl⟩ := h
     simp only [rOp, asC_ev e1, CV.av, TD.ok_cell (hG T _ e2), hob, sCells_av hcs hc, Option.bind_some, ldC_av hx, SV.av]
   ·cases h
  ·cases h
 ·
  rename_i x'
  split at h
  ·rename_i cs e1
   simp only [Option.some.injEq, Prod.mk.injEq] at h; obtain ⟨_, rfl⟩ := h
   simp only [rOp, asC_ev e1, CV.av, SV.av, VV.av]
  ·rename_i n sz i off e1
   simp only [Option.some.injEq, Prod.mk.injEq] at h; obtain ⟨_, rfl⟩ := h
   simp only [rOp, asC_ev e1, CV.av, SV.av, VV.av]
  ·rename_i f e1
   simp only [Option.some.injEq, Prod.mk.injEq] at h; obtain ⟨_, rfl⟩ := h
   simp only [rOp, asC_ev e1, CV.av, SV.av, VV.av, KC.val]
  ·rename_i f ns e1
   simp only [Option.some.injEq, Prod.mk.injEq] at h; obtain ⟨_, rfl⟩ := h
   simp only [rOp, asC_ev e1, CV.av, SV.av, VV.av, Option.map_some]
  ·rename_i t ns e1
   simp only [Option.some.injEq, Prod.mk.injEq] at h; obtain ⟨_, rfl⟩ := h
   simp only [rOp, asC_ev e1, CV.av, SV.av, VV.av, Option.map_none]
  ·cases h
 ·
  rename_i op T x' y' T2
  split at h
  ·rename_i r hb
   obtain ⟨c', v⟩ := r
   simp only [Option.some.injEq, Prod.mk.injEq] at h; obtain ⟨rfl, rfl⟩ := h
   have := sbop_sound hG (O := s.objs) hb hc
   rw [sev_av, sev_av] at this
   simp only [rOp, bop2, this]; rfl
  ·split at h
   ·rename_i b hb
    cases hk : eqK op b with
    | none => simp [hk] at h
    | some k =>
     simp only [hk, Option.map_some, Option.some.injEq, Prod.mk.injEq] at h; obtain ⟨_, rfl⟩ := h
     obtain ⟨g1, g2⟩ := scmp_sound hG (O := s.objs) (op := op) hb
     rw [sev_av, sev_av] at g1 g2
     simp only [rOp, bop2, g1, g2, Option.bind_some, eqK_sound hk]; rfl
   ·cases h
 ·
  rename_i op T x'
  split at h
  ·rename_i k e1
   cases hb : suop op k with
   | none => simp [hb] at h
   | some r =>
    simp only [hb, Option.map_some, Option.some.injEq, Prod.mk.injEq] at h; obtain ⟨_, rfl⟩ := h
    simp only [rOp, asK_ev e1, suop_sound hb]; rfl
  ·cases h
 ·
  rename_i S T x'
  split at h
  ·rename_i k n D k' e0 e1 e2
   have hev : ev (s.st C.N).env x' = .int k n := by rw [← sev_av, e0]; rfl
   simp only [Option.some.injEq, Prod.mk.injEq] at h; obtain ⟨_, rfl⟩ := h
   simp only [rOp, hev, cvt, TD.ok_und (hG S _ e1), if_true, (hG T _ e2).1, Option.map_some]; rfl
  ·rename_i b D e0 e1 e2
   have hev : ev (s.st C.N).env x' = .str b := by rw [← sev_av, e0]; rfl
   simp only [Option.some.injEq, Prod.mk.injEq] at h; obtain ⟨_, rfl⟩ := h
   simp only [rOp, hev, cvt, TD.ok_und (hG S _ e1), (hG T _ e2).1, Bool.and_self, if_true]; rfl
  ·rename_i ts b e1 e2 hn
   split at h
   ·rename_i hts
    cases hv : sView s.objs byteTs (sev C s x') with
    | none => simp [hv] at h
    | some r =>
     obtain ⟨c', l⟩ := r
     simp only [hv, Option.map_some, Option.some.injEq, Prod.mk.injEq] at h; obtain ⟨rfl, rfl⟩ := h
     have hview := sView_sound hv hc
     rw [sev_av] at hview
     have hb : byteSl P S = true := (hG S _ e1).2.2.2.2.2.2 hts
     have key : cvt P S T (s.st C.N).objs (ev (s.st C.N).env x') = ((viewSl (s.st C.N).objs 1 (ev (s.st C.N).env x')).bind decB).map .str := by
      cases hx : ev (s.st C.N).env x' with
      | int k n => rw [hx] at hview; simp [viewSl] at hview
      | str k => rw [hx] at hview; simp [viewSl] at hview
      | _ => simp only [cvt, hb, (hG T _ e2).1, Bool.and_self, if_true]
     simp only [rOp, key]
     rw [show viewSl (s.st C.N).objs 1 (ev (s.st C.N).env x') = some (l.map byteTs.avs) from hview]
     simp only [Option.bind_some, decB_bytes, Option.map_some]; rfl
   ·cases h
  ·cases h
 ·
  rename_i T x' lo hi
  cases hb : sslc C s T (sev C s x') lo hi with
  | none => simp [hb] at h
  | some r =>
   obtain ⟨c', y⟩ := r
   simp only [hb, Option.map_some, Option.some.injEq, Prod.mk.injEq] at h; obtain ⟨rfl, rfl⟩ := h
   have := sslc_sound hG hb hc
   rw [sev_av] at this
   simp only [rOp, this]; rfl
 ·
  rename_i T x' lo hi mx
  cases hb : sslc3 C s T (sev C s x') lo hi mx with
  | none => simp [hb] at h
  | some r =>
   obtain ⟨c', y⟩ := r
   simp only [hb, Option.map_some, Option.some.injEq, Prod.mk.injEq] at h; obtain ⟨rfl, rfl⟩ := h
   have := sslc3_sound hG hb hc
   rw [sev_av] at this
   simp only [rOp, this]; rfl
 ·
  rename_i t i
  split at h
  ·rename_i l e0
   have hev : ev (s.st C.N).env t = .tup (l.map (VV.av s.objs)) := by rw [← sev_av, e0]; rfl
   cases hx : l[i]? with
   | none => simp [hx] at h
   | some y =>
    simp only [hx, Option.map_some, Option.some.injEq, Prod.mk.injEq] at h; obtain ⟨_, rfl⟩ := h
    simp only [rOp, hev, List.getElem?_map, hx, Option.map_some]; rfl
  ·cases h
 ·
  rename_i T parts
  split at h
  ·rename_i ts fs eq e1
   cases hf : sFill s.objs fs ts.zc (parts.toList.map fun p => (p.1, sev C s p.2)) with
   | none => simp [hf] at h
   | some cs =>
    simp only [hf, Option.map_some, Option.some.injEq, Prod.mk.injEq] at h; obtain ⟨_, rfl⟩ := h
    have := sFill_av hf
    obtain ⟨_, _, hp, hz, _⟩ := hG T _ e1
    simp only [rOp, bld, hp, hz]
    have e : (parts.toList.map fun p => (p.1, ev (s.st C.N).env p.2)) = (parts.toList.map fun p => (p.1, sev C s p.2)).map fun p => (p.1, p.2.av s.objs) := by
     rw [List.map_map]
     apply List.map_congr_left
     intro p _
     simp only [Function.comp, sev_av]
    rw [e, zc_av ts [] s.objs, this]; rfl
  ·cases h
 ·
  rename_i args argTypes
  split at h
  ·rename_i x' T ha ht
   cases hl : slen s.objs (lkT C.G T) (sev C s x') with
   | none => simp [hl] at h
   | some n =>
    simp only [hl, Option.map_some, Option.some.injEq, Prod.mk.injEq] at h; obtain ⟨_, rfl⟩ := h
    have := slen_sound hG hl
    rw [sev_av] at this
    simp only [rOp, ha, ht, this]; rfl
  ·cases h
 ·
  rename_i f first captured
  split at h
  ·rename_i hf
   cases hm : mkFS f (captured.toList.map (sev C s)) with
   | none => simp [hm] at h
   | some y =>
    simp only [hm, Option.map_some, Option.some.injEq, Prod.mk.injEq] at h; obtain ⟨_, rfl⟩ := h
    have := mkFS_sound (O := s.objs) hm
    simp only [rOp, rOp2, hf, List.length_nil, if_true]
    rw [List.map_map, show (SV.av s.objs ∘ sev C s) = ev (s.st C.N).env from funext fun o => sev_av C s o] at this
    exact this
  ·cases h
 ·
  rename_i T x'
  cases hm : mkIS (lkT C.G T) T (sev C s x') with
  | none => simp [hm] at h
  | some y =>
   simp only [hm, Option.map_some, Option.some.injEq, Prod.mk.injEq] at h; obtain ⟨_, rfl⟩ := h
   have := mkIS_sound hG (O := s.objs) hm
   rw [sev_av] at this
   simp only [rOp, rOp2, this]; rfl
 ·
  rename_i x' T' T ok
  cases hm : tasS (lkT C.G T) T ok (sev C s x') with
  | none => simp [hm] at h
  | some y =>
   simp only [hm, Option.map_some, Option.some.injEq, Prod.mk.injEq] at h; obtain ⟨_, rfl⟩ := h
   have := tasS_sound hG (O := s.objs) hm
   rw [sev_av] at this
   simp only [rOp, rOp2, this]
 ·
  rename_i args tys
  cases hm : smm false (args.toList.map (sev C s)) with
  | none => simp [hm] at h
  | some y =>
   simp only [hm, Option.map_some, Option.some.injEq, Prod.mk.injEq] at h; obtain ⟨_, rfl⟩ := h
   have := smm_sound (O := s.objs) hm
   rw [List.map_map, show (SV.av s.objs ∘ sev C s) = ev (s.st C.N).env from funext fun o => sev_av C s o] at this
   simp only [rOp, rOp2, this]; rfl
 ·
  rename_i args tys
  cases hm : smm true (args.toList.map (sev C s)) with
  | none => simp [hm] at h
  | some y =>
   simp only [hm, Option.map_some, Option.some.injEq, Prod.mk.injEq] at h; obtain ⟨_, rfl⟩ := h
   have := smm_sound (O := s.objs) hm
   rw [List.map_map, show (SV.av s.objs ∘ sev C s) = ev (s.st C.N).env from funext fun o => sev_av C s o] at this
   simp only [rOp, rOp2, this]; rfl
 ·
  rename_i args tys
  split at h
  ·rename_i x' T ha ht
   split at h
   ·rename_i e0
    have hev : ev (s.st C.N).env x' = .nsl := by rw [← sev_av, e0]; rfl
    split at h
    ·rename_i hs
     simp only [Option.some.injEq, Prod.mk.injEq] at h; obtain ⟨_, rfl⟩ := h
     have hsl : (sliceElem P T).isSome = true := by
      unfold isSliceTD at hs
      split at hs
      ·rename_i ts b e; rw [(hG T _ e).1]; rfl
      ·cases hs
     simp only [rOp, rOp2, ha, ht, hev, hsl, if_true]; rfl
    ·cases h
   ·cases h
  ·cases h
 ·cases h
end Go.Abs
namespace Go.Abs
open Go.RowKit
def leC (x y : AV) : Prop := y = .any ∨ x = y ∨ (x = .nsl ∧ ∃ sz, y = .sl sz [])
theorem leC.rfl' (x : AV) : leC x x := .inr (.inl rfl)
theorem leC.any (x : AV) : leC x .any := .inl rfl
theorem leC_cell {w : World} {D : Names} {x y : AV} {v : Value} (h : leC x y) (hv : Cell w D x v) : Cell w D y v := by
 rcases h with rfl | rfl | ⟨rfl, sz, rfl⟩
 ·exact imm_any _ _ _
 ·exact hv
 ·simp only [Cell] at hv ⊢
  cases hv
  exact .slnil sz none 0
theorem leC_imm {w : World} {M : Nat → Prop} {x y : AV} {v : Value} (h : leC x y) (hv : Imm w M x v) : Imm w M y v := by
 rcases h with rfl | rfl | ⟨rfl, sz, rfl⟩
 ·exact .any v
 ·exact hv
 ·cases hv
  exact .slnil sz none 0
def leL (l m : List AV) : Prop := l.length = m.length ∧ ∀ (i : Nat) (y : AV), m[i]? = some y → ∃ x, l[i]? = some x ∧ leC x y
theorem leL.rfl' (l : List AV) : leL l l := ⟨rfl, fun _ y h => ⟨y, h, leC.rfl' y⟩⟩
theorem leL_map {α : Type} {f g : α → AV} (l : List α) (h : ∀ x ∈ l, leC (f x) (g x)) : leL (l.map f) (l.map g) := by
 refine ⟨by simp, fun i y hy => ?_⟩
 rw [List.getElem?_map] at hy
 obtain ⟨x, hx, rfl⟩ := Option.map_eq_some_iff.1 hy
 exact ⟨f x, by rw [List.getElem?_map, hx]; rfl, h x (List.mem_of_getElem? hx)⟩
theorem leL.append {a b c d : List AV} (h : leL a b) (k : leL c d) : leL (a ++ c) (b ++ d) := by
 refine ⟨by simp [h.1, k.1], fun i y hy => ?_⟩
 by_cases hi : i < b.length
 ·rw [List.getElem?_append_left hi] at hy
  rw [List.getElem?_append_left (by rw [h.1]; exact hi)]
  exact h.2 i y hy
 ·rw [List.getElem?_append_right (by omega)] at hy
  rw [List.getElem?_append_right (by rw [h.1]; omega), h.1]
  exact k.2 _ y hy
def leV : AV → AV → Prop
 | .agg l, y => y = .any ∨ ∃ m, y = .agg m ∧ leL l m
 | x, y => leC x y
def leLV (l m : List AV) : Prop := l.length = m.length ∧ ∀ (i : Nat) (y : AV), m[i]? = some y → ∃ x, l[i]? = some x ∧ leV x y
def leS : AV → AV → Prop
 | .tup l, y => y = .any ∨ ∃ m, y = .tup m ∧ leLV l m
 | x, y => leV x y
theorem leV.rfl' (x : AV) : leV x x := by
 cases x with
 | agg l => exact .inr ⟨l, rfl, leL.rfl' l⟩
 | _ => exact leC.rfl' _
theorem leS.rfl' (x : AV) : leS x x := by
 cases x with
 | tup l => exact .inr ⟨l, rfl, rfl, fun _ y h => ⟨y, h, leV.rfl' y⟩⟩
 | agg l => exact leV.rfl' (.agg l)
 | _ => exact leC.rfl' _
theorem leS.any (x : AV) : leS x .any := by
 cases x with
 | tup l => exact .inl rfl
 | agg l => exact .inl rfl
 | _ => exact .inl rfl
theorem leC_val {w : World} {D : Names} {x y : AV} {v : Value} (h : leC x y) (hx : ∀ l, x ≠ .agg l) (hv : Val w D x v) : Val w D y v := by
 have hv' : Cell w D x v := by
  cases x with
  | agg l => exact absurd rfl (hx l)
  | _ => exact hv
 have := leC_cell h hv'
 cases y with
 | agg l =>
  rcases h with h | h | ⟨_, sz, h⟩
  ·cases h
  ·exact absurd h (hx l)
  ·cases h
 | _ => exact this
theorem leV_val {w : World} {D : Names} {x y : AV} {v : Value} (h : leV x y) (hv : Val w D x v) : Val w D y v := by
 cases x with
 | agg l =>
  rcases h with rfl | ⟨m, rfl, hl, hm⟩
  ·simp [Val, Cell]; exact .any v
  ·obtain ⟨vs, h1, h2, h3⟩ := hv
   refine ⟨vs, h1, by rw [h2, hl], fun i y hy => ?_⟩
   obtain ⟨x, hx, hxy⟩ := hm i y hy
   exact ⟨leC_cell hxy (h3 i x hx).1, (h3 i x hx).2⟩
 | _ => exact leC_val h (by simp) hv
theorem leS_slot {w : World} {D : Names} {x y : AV} {v : Value} (h : leS x y) (hv : Slot w D x v) : Slot w D y v := by
 have key : ∀ z, (∀ l, z ≠ .tup l) → leS z y → Slot w D z v → Slot w D y v := by
  intro z hz h hv
  have h : leV z y := by
   cases z with
   | tup l => exact absurd rfl (hz l)
   | _ => exact h
  have hv : Val w D z v := by
   cases z with
   | tup l => exact absurd rfl (hz l)
   | _ => exact hv
  have h2 := leV_val h hv
  cases y with
  | tup l =>
   exfalso
   cases z with
   | tup l => exact hz l rfl
   | agg l => rcases h with h | ⟨m, h, _⟩ <;> cases h
   | _ => rcases h with h | h | ⟨_, _, h⟩ <;> cases h
  | _ => exact h2
 cases x with
 | tup l =>
  rcases h with rfl | ⟨m, rfl, hl, hm⟩
  ·exact slot_any _ _ _
  ·obtain ⟨vs, h1, h2, h3⟩ := hv
   refine ⟨vs, h1, by rw [h2, hl], fun i y hy => ?_⟩
   obtain ⟨x, hx, hxy⟩ := hm i y hy
   exact leV_val hxy (h3 i x hx)
 | _ => exact key _ (by simp) h hv
def leE (l m : List AV) : Prop := l.length = m.length ∧ ∀ (i : Nat) (y : AV), m[i]? = some y → ∃ x, l[i]? = some x ∧ leS x y
theorem leE.rfl' (l : List AV) : leE l l := ⟨rfl, fun _ y h => ⟨y, h, leS.rfl' y⟩⟩
def leR (l m : List (List AV)) : Prop := l.length = m.length ∧ ∀ (j : Nat) (cs : List AV), m[j]? = some cs → ∃ bs, l[j]? = some bs ∧ leL bs cs
def leO : Obj → Obj → Prop
 | .box cs, .box ds => leL cs ds
 | .arr sz l, .arr sz' m => sz = sz' ∧ leR l m
 | .mp kk k l, .mp kk' k' m => kk = kk' ∧ k = k' ∧ l = m
 | _, _ => False
theorem leR.rfl' (l : List (List AV)) : leR l l := ⟨rfl, fun _ y h => ⟨y, h, leL.rfl' y⟩⟩
theorem leO.rfl' : ∀ o : Obj, leO o o
 | .box cs => leL.rfl' cs
 | .arr _ l => ⟨rfl, leR.rfl' l⟩
 | .mp _ _ _ => ⟨rfl, rfl, rfl⟩
def leOs : List (Nat × Obj) → List (Nat × Obj) → Prop
 | [], [] => True
 | (n, o) :: r, (m, o') :: r' => n = m ∧ leO o o' ∧ leOs r r'
 | _, _ => False
theorem leOs.rfl' : ∀ l, leOs l l
 | [] => trivial
 | (_, o) :: r => ⟨rfl, leO.rfl' o, leOs.rfl' r⟩
theorem leOs_look {n : Nat} : ∀ {l m : List (Nat × Obj)}, leOs l m → (look n l).isSome = (look n m).isSome ∧ ∀ o', look n m = some o' → ∃ o, look n l = some o ∧ leO o o'
 | [], [], _ => by simp [look]
 | (k, o) :: r, (j, o') :: r', h => by
  obtain ⟨rfl, h1, h2⟩ := h
  have ih := leOs_look (n := n) h2
  by_cases hk : k = n
  ·subst hk; simp only [look, if_true]; exact ⟨rfl, fun p hp => ⟨o, rfl, by cases hp; exact h1⟩⟩
  ·simp only [look, hk, if_false]; exact ih
 | [], _ :: _, h => h.elim
 | _ :: _, [], h => h.elim
theorem leOs_look' {n : Nat} {l m : List (Nat × Obj)} (h : leOs l m) {o : Obj} (ho : look n l = some o) : ∃ o', look n m = some o' ∧ leO o o' := by
 have h1 := (leOs_look (n := n) h).1
 rw [ho] at h1
 obtain ⟨o', ho'⟩ := Option.isSome_iff_exists.1 h1.symm
 obtain ⟨o2, h2, h3⟩ := (leOs_look (n := n) h).2 o' ho'
 rw [ho] at h2; cases h2
 exact ⟨o', ho', h3⟩
theorem leO_rep {w : World} {D : Names} {o o' : Obj} {d : Option Nat} (h : leO o o') (hr : ObjRep w D o d) : ObjRep w D o' d := by
 cases o with
 | box cs =>
  cases o' with
  | arr _ _ => exact h.elim
  | mp _ _ _ => exact h.elim
  | box ds =>
   cases d with
   | none => exact hr.elim
   | some b =>
    obtain ⟨vs, T, h1, h2, h3⟩ := hr
    refine ⟨vs, T, h1, by rw [h2, h.1], fun i y hy => ?_⟩
    obtain ⟨x, hx, hxy⟩ := h.2 i y hy
    exact ⟨leC_cell hxy (h3 i x hx).1, (h3 i x hx).2⟩
 | arr sz l =>
  cases o' with
  | box _ => exact h.elim
  | mp _ _ _ => exact h.elim
  | arr sz' m =>
   obtain ⟨rfl, hl, hm⟩ := h
   cases d with
   | none =>
    simp only [ObjRep] at hr ⊢
    subst hr
    cases m with
    | nil => rfl
    | cons a m => simp at hl
   | some b =>
    obtain ⟨vs, T, fz, h1, h2, h3, h4, h5, h6⟩ := hr
    refine ⟨vs, T, fz, h1, h2, by rw [← hl]; exact h3, by rw [← hl]; exact h4, fun j cs hj => ?_, fun j cs i y hj hy => ?_⟩
    ·obtain ⟨bs, hb, hbl, _⟩ := hm j cs hj
     rw [← hbl]; exact h5 j bs hb
    ·obtain ⟨bs, hb, _, hbl⟩ := hm j cs hj
     obtain ⟨x, hx, hxy⟩ := hbl i y hy
     exact ⟨leC_imm hxy (h6 j bs i x hb hx).1, (h6 j bs i x hb hx).2⟩
 | mp kk k l =>
  cases o' with
  | box _ => exact h.elim
  | arr _ _ => exact h.elim
  | mp kk' k' m =>
   obtain ⟨rfl, rfl, rfl⟩ := h
   exact hr
def Cov (s s' : St) : Prop := ∀ w0 M0 D0 a w, Sat w0 M0 D0 s a w → Sat w0 M0 D0 s' a w
theorem Cov.rfl' (s : St) : Cov s s := fun _ _ _ _ _ h => h
theorem Cov.trans {a b c : St} (h : Cov a b) (k : Cov b c) : Cov a c := fun w0 M0 D0 x w hs => k w0 M0 D0 x w (h w0 M0 D0 x w hs)
theorem cov_le {s s' : St} (he : leE s.env s'.env) (ho : leOs s.objs s'.objs) : Cov s s' := by
 rintro w0 M0 D0 a w ⟨hd, D, hm, hE, hp⟩
 refine ⟨hd, D, ⟨fun n hn => ?_, fun n hn => ?_, fun n o' d ho' hD => ?_, hm.inj, hm.lt, hm.own, hm.grow, hm.os, hm.tape, hm.output, hm.glob⟩, ⟨by rw [hE.1, he.1], fun i y hy => ?_⟩, fun n d hn => ?_⟩
 ·rw [hm.dom n hn, (leOs_look ho).1]
 ·exact hm.small n (by rw [(leOs_look ho).1]; exact hn)
 ·obtain ⟨o, h1, h2⟩ := (leOs_look ho).2 o' ho'
  exact leO_rep h2 (hm.rep n o d h1 hD)
 ·obtain ⟨x, hx, hxy⟩ := he.2 i y hy
  exact leS_slot hxy (hE.2 i x hx)
 ·obtain ⟨h1, h2⟩ := hp n d hn
  refine ⟨h1, fun hK => ?_⟩
  obtain ⟨cs, hcs⟩ := h2 hK
  obtain ⟨o', ho', hle⟩ := leOs_look' ho hcs
  cases o' with
  | box ds => exact ⟨ds, ho'⟩
  | arr _ _ => exact hle.elim
  | mp _ _ _ => exact hle.elim
theorem mapS_v {φ : AV → AV} {κ : CV → CV} {O O' : SObjs} (h : ∀ x : CV, leC (φ (x.av O)) ((κ x).av O')) (x : VV) : leV (mapV φ (x.av O)) ((mapVC κ x).av O') := by
 cases x with
 | c x =>
  have e : mapV φ (x.av O) = φ (x.av O) := by
   cases hx : x.av O with
   | agg l => exact absurd hx (not_agg.1 l)
   | _ => rfl
  simp only [VV.av, mapVC, e]
  cases hy : φ (x.av O) with
  | agg l =>
   have := h x
   rw [hy] at this
   rcases this with h1 | h1 | ⟨h1, _⟩
   ·exact .inl h1
   ·exact absurd h1.symm (not_agg.1 l)
   ·cases h1
  | _ => rw [← hy]; simpa only [hy, leV] using h x
 | g l =>
  simp only [VV.av, mapVC, mapV]
  refine .inr ⟨_, rfl, ?_⟩
  rw [List.map_map, List.map_map]
  exact leL_map l fun x _ => h x
theorem mapS_s {φ : AV → AV} {κ : CV → CV} {O O' : SObjs} (h : ∀ x : CV, leC (φ (x.av O)) ((κ x).av O')) (x : SV) : leS (mapS φ (x.av O)) ((mapSC κ x).av O') := by
 cases x with
 | v x =>
  have e : mapS φ (x.av O) = mapV φ (x.av O) := by
   cases x with
   | c x =>
    cases hx : x.av O with
    | tup l => exact absurd hx (not_agg.2 l)
    | _ => simp only [VV.av, hx, mapS]
   | g l => rfl
  simp only [SV.av, mapSC, e]
  have hv := mapS_v h x
  cases hy : mapV φ (x.av O) with
  | tup l =>
   rw [hy] at hv
   rcases hv with h1 | h1 | ⟨h1, _⟩
   ·exact .inl h1
   ·exfalso
    cases x with
    | c x => exact not_agg.2 l h1.symm
    | g l => simp [VV.av, mapV] at hy
   ·cases h1
  | _ => rw [hy] at hv; exact hv
 | tup l =>
  simp only [SV.av, mapSC, mapS]
  refine .inr ⟨_, rfl, by simp, fun i y hy => ?_⟩
  rw [List.map_map, List.getElem?_map] at hy
  obtain ⟨x, hx, rfl⟩ := Option.map_eq_some_iff.1 hy
  refine ⟨_, ?_, mapS_v h x⟩
  rw [List.map_map, List.getElem?_map, hx]; rfl
theorem lkE_map (κ : CV → CV) (hk : κ .any = .any) : ∀ (E : List (Nat × SV)) (i : Nat), lkE (mapEC κ E) i = mapSC κ (lkE E i)
 | [], i => by simp [mapEC, lkE, SV.any, mapSC, mapVC, hk]
 | (n, x) :: r, i => by
  have ih := lkE_map κ hk r i
  by_cases h : n = i <;> simp [mapEC, lkE, h, ih]
theorem leE_map {φ : AV → AV} {κ : CV → CV} {O O' : SObjs} (hk : κ .any = .any) (h : ∀ x : CV, leC (φ (x.av O)) ((κ x).av O')) (N : Nat) (E : List (Nat × SV)) :
  leE ((SS.st N ⟨E, O⟩).env.map (mapS φ)) (SS.st N ⟨mapEC κ E, O'⟩).env := by
 refine ⟨by simp [SS.st], fun i y hy => ?_⟩
 simp only [SS.st, List.getElem?_map] at hy ⊢
 obtain ⟨j, hj, rfl⟩ := Option.map_eq_some_iff.1 hy
 refine ⟨_, by rw [hj]; rfl, ?_⟩
 rw [lkE_map κ hk]
 exact mapS_s h _
theorem leOs_map {φ : AV → AV} {κ : CV → CV} {O O' : SObjs} (h : ∀ x : CV, leC (φ (x.av O)) ((κ x).av O')) : ∀ l : SObjs, leOs (mapO φ (objsAV O l)) (objsAV O' (mapOC κ l))
 | [] => trivial
 | (n, .box cs) :: r => by
  refine ⟨rfl, ?_, leOs_map h r⟩
  simp only [SO.av, leO]
  rw [List.map_map, List.map_map]
  exact leL_map cs fun x _ => h x
 | (n, .arr ts l) :: r => ⟨rfl, leO.rfl' _, leOs_map h r⟩
 | (n, .mp _ _ _) :: r => ⟨rfl, leO.rfl' _, leOs_map h r⟩
theorem objsAV_drop (O : SObjs) (n : Nat) : ∀ l : SObjs, objsAV O (dropS n l) = drop n (objsAV O l)
 | [] => rfl
 | (m, o) :: r => by
  have ih := objsAV_drop O n r
  by_cases h : m = n <;> simp [dropS, objsAV, drop, h, ih]
theorem objsAV_upd (O : SObjs) (n : Nat) (o : SO) : ∀ l : SObjs, objsAV O (updS n o l) = upd n (o.av O) (objsAV O l)
 | [] => rfl
 | (m, p) :: r => by
  have ih := objsAV_upd O n o r
  by_cases h : m = n <;> simp [updS, objsAV, upd, h, ih]
theorem lookS_drop_ne {n m : Nat} (h : n ≠ m) : ∀ l : SObjs, lookS m (dropS n l) = lookS m l
 | [] => rfl
 | (k, o) :: r => by
  have ih := lookS_drop_ne h r
  by_cases hk : k = n
  ·subst hk; simp [dropS, lookS, h, ih]
  ·by_cases hm : k = m
   ·subst hm; simp [dropS, lookS, hk]
   ·simp [dropS, lookS, hk, hm, ih]
theorem lookS_drop (n : Nat) : ∀ l : SObjs, lookS n (dropS n l) = none
 | [] => rfl
 | (k, o) :: r => by
  have ih := lookS_drop n r
  by_cases hk : k = n
  ·simp [dropS, hk, ih]
  ·simp [dropS, lookS, hk, ih]
def soMap (κ : CV → CV) : SO → SO
 | .box cs => .box (cs.map κ)
 | .arr ts l => .arr ts l
 | .mp kk k l => .mp kk k l
theorem lookS_map (κ : CV → CV) (n : Nat) : ∀ l : SObjs, lookS n (mapOC κ l) = (lookS n l).map (soMap κ)
 | [] => rfl
 | (m, .box cs) :: r => by
  have ih := lookS_map κ n r
  by_cases h : m = n <;> simp [mapOC, lookS, h, soMap, ih]
 | (m, .arr ts l) :: r => by
  have ih := lookS_map κ n r
  by_cases h : m = n <;> simp [mapOC, lookS, h, soMap, ih]
 | (m, .mp kk k l) :: r => by
  have ih := lookS_map κ n r
  by_cases h : m = n <;> simp [mapOC, lookS, h, soMap, ih]
theorem lookS_upd_ne {n m : Nat} (o : SO) (h : n ≠ m) : ∀ l : SObjs, lookS m (updS n o l) = lookS m l
 | [] => rfl
 | (k, p) :: r => by
  have ih := lookS_upd_ne o h r
  by_cases hk : k = n
  ·subst hk; simp [updS, lookS, h, ih]
  ·by_cases hm : k = m
   ·subst hm; simp [updS, lookS, hk]
   ·simp [updS, lookS, hk, hm, ih]
theorem lookS_upd {n : Nat} (o : SO) : ∀ {l : SObjs}, (lookS n l).isSome = true → lookS n (updS n o l) = some o
 | [], h => by simp [lookS] at h
 | (k, p) :: r, h => by
  by_cases hk : k = n
  ·simp [updS, lookS, hk]
  ·simp only [lookS, hk, if_false] at h
   simp [updS, lookS, hk, lookS_upd o h]
theorem av_objs {O O' : SObjs} {x : CV} (h : ∀ n, x = .own n → (match lookS n O with | some (.arr ts l) => some (ts.len, l.length) | _ => none) = (match lookS n O' with | some (.arr ts l) => some (ts.len, l.length) | _ => none)) : x.av O = x.av O' := by
 cases x with
 | own n =>
  have := h n rfl
  simp only [CV.av]
  revert this
  cases lookS n O with
  | none =>
   cases lookS n O' with
   | none => intro _; rfl
   | some o' => cases o' <;> simp
  | some o =>
   cases o with
   | box _ =>
    cases lookS n O' with
    | none => intro _; rfl
    | some o' => cases o' <;> simp
   | mp _ _ _ =>
    cases lookS n O' with
    | none => intro _; rfl
    | some o' => cases o' <;> simp
   | arr ts l =>
    cases lookS n O' with
    | none => simp
    | some o' =>
     cases o' with
     | box _ => simp
     | mp _ _ _ => simp
     | arr ts' l' => simp only [Option.some.injEq, Prod.mk.injEq]; rintro ⟨h1, h2⟩; rw [h1, h2]
 | _ => rfl
theorem map_id_mapS (l : List AV) : l.map (mapS id) = l := by
 have : mapS id = id := by
  funext x
  cases x with
  | tup l =>
   have hv : mapV id = id := by
    funext x
    cases x with
    | agg l => simp [mapV]
    | _ => rfl
   simp [mapS, hv]
  | agg l => simp [mapS, mapV]
  | _ => rfl
 rw [this, List.map_id]
theorem mapO_id : ∀ l : List (Nat × Obj), mapO id l = l
 | [] => rfl
 | (n, .box cs) :: r => by simp [mapO, mapO_id r]
 | (n, .arr sz l) :: r => by simp [mapO, mapO_id r]
 | (n, .mp _ _ _) :: r => by simp [mapO, mapO_id r]
theorem freshS_cov {N d : Nat} {s s' : SS} (h : freshS d s = some s') : Cov (s.st N) (s'.st N) ∧ lookS d s'.objs = none := by
 unfold freshS at h
 split at h
 ·rename_i hn
  simp only [Option.some.injEq] at h; subst h
  have key : ∀ x : CV, leC (id (x.av s.objs)) ((killC d x).av (mapOC (killC d) s.objs)) := by
   intro x
   cases x with
   | own m =>
    simp only [killC]
    split
    ·exact .any _
    ·simp only [CV.av, lookS_map, id]
     cases lookS m s.objs with
     | none => exact .rfl' _
     | some o => cases o <;> exact .rfl' _
   | msl m sz off len => simp only [killC]; split <;> first | exact .any _ | exact .rfl' _
   | ref m sz i off => simp only [killC]; split <;> first | exact .any _ | exact .rfl' _
   | wrp f ns => simp only [killC]; split <;> first | exact .any _ | exact .rfl' _
   | _ => exact .rfl' _
  refine ⟨cov_le ?_ ?_, by simp [lookS_map, hn]⟩
  ·have := leE_map (φ := id) (κ := killC d) (by rfl) key N s.env
   rw [map_id_mapS] at this
   exact this
  ·have := leOs_map (φ := id) (κ := killC d) key s.objs
   rw [mapO_id] at this
   exact this
 ·cases h
theorem wrp_mem {ns : List (Nat × Nat)} {n : Nat} : ((ns.map (·.1)).contains n = true) = (n ∈ ns.map (·.1)) := by simp
theorem frz_av {n : Nat} {ts : Tys} {l : List ts.T} {O : SObjs} (h : lookS n O = some (.arr ts l)) (x : CV) :
  frz n ts.len (l.map ts.avs) (x.av O) = (frzC n ts l x).av (mapOC (frzC n ts l) (dropS n O)) := by
 cases x with
 | own m =>
  simp only [frzC]
  split
  ·rename_i e; subst e
   simp only [CV.av, h, frz, if_true, List.length_map, Nat.zero_add]
   rw [if_pos ⟨trivial, Nat.le_refl _⟩]
   simp only [List.drop_zero, KV.av]
   rw [List.take_of_length_le (by simp)]
  ·rename_i hne
   simp only [CV.av, lookS_map, lookS_drop_ne (Ne.symm hne)]
   cases lookS m O with
   | none => rfl
   | some o =>
    cases o with
    | box _ => rfl
    | mp _ _ _ => rfl
    | arr us l' => simp [soMap, frz, hne]
 | msl m sz off len =>
  simp only [frzC]
  split
  ·rename_i e; subst e
   simp only [CV.av, frz, if_true, List.length_map]
   split <;> simp [*]
  ·rename_i hne; simp [CV.av, frz, hne]
 | ref m sz i off =>
  simp only [frzC]
  split
  ·rename_i e; subst e; simp [CV.av, frz]
  ·rename_i hne; simp [CV.av, frz, hne]
 | wrp f ns =>
  simp only [frzC, CV.av, frz, wrp_mem]
  split <;> rfl
 | k v => cases v <;> rfl
 | raw a => cases a <;> rfl
 | _ => rfl
theorem mapS_eq {φ : AV → AV} {κ : CV → CV} {O O' : SObjs} (h : ∀ x : CV, φ (x.av O) = (κ x).av O') (x : SV) : mapS φ (x.av O) = (mapSC κ x).av O' := by
 have hv : ∀ x : VV, mapV φ (x.av O) = (mapVC κ x).av O' := by
  intro x
  cases x with
  | c x =>
   simp only [VV.av, mapVC, ← h x]
   cases hx : x.av O with
   | agg l => exact absurd hx (not_agg.1 l)
   | _ => rfl
  | g l =>
   simp only [VV.av, mapVC, mapV, List.map_map]
   congr 1
   apply List.map_congr_left
   intro x _; exact h x
 cases x with
 | v x =>
  simp only [SV.av, mapSC, ← hv x]
  cases x with
  | c x =>
   cases hx : x.av O with
   | tup l => exact absurd hx (not_agg.2 l)
   | _ => simp only [VV.av, hx, mapS]
  | g l => rfl
 | tup l =>
  simp only [SV.av, mapSC, mapS, List.map_map]
  congr 1
  apply List.map_congr_left
  intro x _; exact hv x
theorem freezeS_av {N n : Nat} {s s' : SS} (h : freezeS n s = some s') : freeze n (s.st N).env (s.st N).objs = some ((s'.st N).env, (s'.st N).objs) := by
 unfold freezeS at h
 split at h
 ·rename_i ts l hl
  simp only [Option.some.injEq] at h; subst h
  have hlk : look n (s.st N).objs = some (.arr ts.len (l.map ts.avs)) := by
   show look n (objsAV s.objs s.objs) = _
   rw [lookS_av, hl]; rfl
  simp only [freeze, hlk, Option.some.injEq, Prod.mk.injEq]
  have key := frz_av hl
  constructor
  ·simp only [SS.st, List.map_map]
   apply List.map_congr_left
   intro i _
   simp only [Function.comp]
   rw [lkE_map _ (by rfl)]
   exact mapS_eq key _
  ·show mapO _ (drop n (objsAV s.objs s.objs)) = objsAV _ _
   rw [← objsAV_drop]
   generalize dropS n s.objs = O at key ⊢
   generalize hO' : mapOC (frzC n ts l) O = O' at key
   have : ∀ l' : SObjs, mapO (frz n ts.len (l.map ts.avs)) (objsAV s.objs l') = objsAV O' (mapOC (frzC n ts l) l') := by
    intro l'
    induction l' with
    | nil => rfl
    | cons p r ih =>
     obtain ⟨m, o⟩ := p
     cases o with
     | box cs =>
      simp only [objsAV, SO.av, mapO, mapOC, ih, List.map_map]
      congr 2
      congr 1
      apply List.map_congr_left
      intro x _; exact key x
     | arr us l'' => simp only [objsAV, SO.av, mapO, mapOC, ih]
     | mp kk k l'' => simp only [objsAV, SO.av, mapO, mapOC, ih]
   rw [this, hO']
 ·cases h
theorem firstC_av {O : SObjs} : ∀ {l : List CV}, firstC l = none → firstName (l.map (CV.av O)) = none
 | [], _ => rfl
 | x :: r, h => by
  cases x with
  | own n => simp [firstC] at h
  | msl n sz off len => simp [firstC] at h
  | k v =>
   simp only [firstC] at h
   have := firstC_av (O := O) h
   cases v <;> simpa [CV.av, KV.av, firstName] using this
  | raw a =>
   simp only [firstC] at h
   have := firstC_av (O := O) h
   cases a <;> simpa [CV.av, firstName] using this
  | _ =>
   simp only [firstC] at h
   have := firstC_av (O := O) h
   simpa [CV.av, firstName] using this
theorem cellList_av {O : SObjs} (x : SV) : firstName (cellList (x.av O)) = firstName ((cellsOfS x).map (CV.av O)) := by
 cases x with
 | v x =>
  cases x with
  | c x =>
   simp only [SV.av, VV.av, cellsOfS, List.map_cons, List.map_nil]
   cases hx : x.av O with
   | agg l => exact absurd hx (not_agg.1 l)
   | _ => rfl
  | g l => rfl
 | tup l => rfl
end Go.Abs
namespace Go.Abs
open Go.RowKit
variable {O : SObjs} {s : SS} {xs : List Operand} {d : Nat}
def keepsB (s s' : SS) : Prop := ∀ t b, lkE s.env t = SV.bool b → lkE s'.env t = SV.bool b
theorem keepsB.rfl' (s : SS) : keepsB s s := fun _ _ h => h
theorem keepsB.trans {a b c : SS} (h : keepsB a b) (k : keepsB b c) : keepsB a c := fun t x hx => k t x (h t x hx)
theorem keepsB_map {κ : CV → CV} (hk : κ .any = .any) (h : ∀ v, κ (.k v) = .k v) : keepsB s ⟨mapEC κ s.env, O⟩ := fun t b hb => by
 show lkE (mapEC κ s.env) t = _
 rw [lkE_map κ hk, hb]
 simp [SV.bool, SV.kv, mapSC, mapVC, h]
theorem freeze_cov {N n : Nat} {s s' : SS} (h : freezeS n s = some s') : Cov (s.st N) (s'.st N) ∧ keepsB s s' := by
 refine ⟨?_, ?_⟩
 ·rintro w0 M0 D0 a w ⟨hd, D, hm, hE, hp⟩
  obtain ⟨D', h1, h2, h3⟩ := freeze_sound hm hE (freezeS_av (N := N) h)
  exact ⟨hd, D', h1, h2, h3 D0 hp⟩
 ·unfold freezeS at h
  split at h
  ·simp only [Option.some.injEq] at h; subst h
   exact keepsB_map rfl fun v => rfl
  ·cases h
theorem settleS_cov {C : Cfg} : ∀ {f : Nat} {xs : List Operand} {s s' : SS}, settleS C f xs s = some s' → Cov (s.st C.N) (s'.st C.N) ∧ keepsB s s'
 | 0, xs, s, s', h => by simp only [settleS, Option.some.injEq] at h; subst h; exact ⟨.rfl' _, .rfl' _⟩
 | f + 1, xs, s, s', h => by
  simp only [settleS] at h
  split at h
  ·simp only [Option.some.injEq] at h; subst h; exact ⟨.rfl' _, .rfl' _⟩
  ·split at h
   ·rename_i r hr
    obtain ⟨h1, h2⟩ := freeze_cov (N := C.N) hr
    obtain ⟨h3, h4⟩ := settleS_cov h
    exact ⟨h1.trans h3, h2.trans h4⟩
   ·cases h
theorem names_none {C : Cfg} (h : firstC (xs.flatMap fun o => cellsOfS (sev C s o)) = none) : firstName (xs.flatMap fun o => cellList (ev (s.st C.N).env o)) = none := by
 have app : ∀ {a b : List AV}, firstName a = none → firstName b = none → firstName (a ++ b) = none := by
  intro a b ha hb
  induction a with
  | nil => exact hb
  | cons x a ih => cases x <;> simp only [firstName, reduceCtorEq] at ha <;> simp only [List.cons_append, firstName] <;> exact ih ha
 have app2 : ∀ {a b : List CV}, firstC (a ++ b) = none → firstC a = none ∧ firstC b = none := by
  intro a b hab
  induction a with
  | nil => exact ⟨rfl, hab⟩
  | cons x a ih => cases x <;> simp only [List.cons_append, firstC, reduceCtorEq] at hab <;> simp only [firstC] <;> exact ih hab
 induction xs with
 | nil => rfl
 | cons x xs ih =>
  simp only [List.flatMap_cons] at h ⊢
  obtain ⟨h1, h2⟩ := app2 h
  refine app ?_ (ih h2)
  rw [← sev_av, cellList_av]
  exact firstC_av h1
theorem calmS_cov {C : Cfg} {s s' : SS} (h : calmS C xs s = some s') : Cov (s.st C.N) (s'.st C.N) ∧ keepsB s s' ∧ firstC (xs.flatMap fun o => cellsOfS (sev C s' o)) = none := by
 unfold calmS at h
 split at h
 ·rename_i s1 h1
  split at h
  ·rename_i hn
   simp only [Option.some.injEq] at h; subst h
   obtain ⟨h2, h3⟩ := settleS_cov h1
   exact ⟨h2, h3, hn⟩
  ·cases h
 ·cases h
def NoOwn (d : Nat) (s : SS) : Prop := lookS d s.objs = none ∧ ∃ E O, s = ⟨mapEC (killC d) E, mapOC (killC d) O⟩
theorem freshS_no {N d : Nat} {s s' : SS} (h : freshS d s = some s') : Cov (s.st N) (s'.st N) ∧ keepsB s s' ∧ NoOwn d s' := by
 obtain ⟨h1, h2⟩ := freshS_cov (N := N) h
 refine ⟨h1, ?_, h2, ?_⟩
 ·unfold freshS at h
  split at h
  ·simp only [Option.some.injEq] at h; subst h
   exact keepsB_map rfl fun v => rfl
  ·cases h
 ·unfold freshS at h
  split at h
  ·simp only [Option.some.injEq] at h; exact ⟨_, _, h.symm⟩
  ·cases h
theorem prepS_cov {C : Cfg} {s s' : SS} (h : prepS C d xs s = some s') : Cov (s.st C.N) (s'.st C.N) ∧ keepsB s s' ∧ NoOwn d s' ∧ firstC (xs.flatMap fun o => cellsOfS (sev C s' o)) = none := by
 unfold prepS at h
 split at h
 ·rename_i s1 h1
  split at h
  ·rename_i s2 h2
   split at h
   ·rename_i hn
    simp only [Option.some.injEq] at h; subst h
    obtain ⟨a1, a2, _⟩ := calmS_cov h1
    obtain ⟨b1, b2, b3⟩ := freshS_no (N := C.N) h2
    exact ⟨a1.trans b1, a2.trans b2, b3, hn⟩
   ·cases h
  ·cases h
 ·cases h
theorem killC_cons {o : SO} (x : CV) : (killC d x).av ((d, o) :: O) = (killC d x).av O := by
 refine av_objs fun n hn => ?_
 have : d ≠ n := by
  rintro rfl
  cases x <;> simp only [killC] at hn <;> (try (split at hn <;> cases hn)) <;> (try cases hn)
  contradiction
 simp only [lookS, this, if_false]
theorem sv_congr {κ : CV → CV} {O O' : SObjs} (h : ∀ x, (κ x).av O = (κ x).av O') (x : SV) : (mapSC κ x).av O = (mapSC κ x).av O' := by
 have hv : ∀ x : VV, (mapVC κ x).av O = (mapVC κ x).av O' := by
  intro x
  cases x with
  | c x => exact h x
  | g l =>
   simp only [mapVC, VV.av, List.map_map]
   congr 1
   apply List.map_congr_left
   intro x _; exact h x
 cases x with
 | v x => exact hv x
 | tup l =>
  simp only [mapSC, SV.av, List.map_map]
  congr 1
  apply List.map_congr_left
  intro x _; exact hv x
theorem objsAV_congr {κ : CV → CV} {O O' : SObjs} (h : ∀ x, (κ x).av O = (κ x).av O') : ∀ l : SObjs, objsAV O (mapOC κ l) = objsAV O' (mapOC κ l)
 | [] => rfl
 | (n, .box cs) :: r => by
  simp only [mapOC, objsAV, SO.av, objsAV_congr h r, List.map_map]
  congr 3
  apply List.map_congr_left
  intro x _; exact h x
 | (n, .arr ts l) :: r => by simp only [mapOC, objsAV, SO.av, objsAV_congr h r]
 | (n, .mp _ _ _) :: r => by simp only [mapOC, objsAV, SO.av, objsAV_congr h r]
theorem st_congr {κ : CV → CV} (hk : κ .any = .any) {O O' : SObjs} (h : ∀ x, (κ x).av O = (κ x).av O') (N : Nat) (E : List (Nat × SV)) : (SS.st N ⟨mapEC κ E, O⟩).env = (SS.st N ⟨mapEC κ E, O'⟩).env := by
 simp only [SS.st]
 apply List.map_congr_left
 intro i _
 rw [lkE_map κ hk]
 exact sv_congr h _
theorem st_cons {N d : Nat} (h : NoOwn d s) (o : SO) : (SS.st N ⟨s.env, (d, o) :: s.objs⟩).env = (s.st N).env ∧ objsAV ((d, o) :: s.objs) s.objs = objsAV s.objs s.objs := by
 obtain ⟨_, E, O, rfl⟩ := h
 exact ⟨st_congr rfl (fun x => killC_cons x) N E, objsAV_congr (fun x => killC_cons x) O⟩
theorem look_none {N d : Nat} (h : lookS d s.objs = none) : look d (s.st N).objs = none := by
 show look d (objsAV s.objs s.objs) = none
 rw [lookS_av, h]; rfl
theorem st_made {N d : Nat} (h : NoOwn d s) (o : SO) (x : SV) :
  (SS.put ⟨s.env, (d, o) :: s.objs⟩ (some d) x).st N = ⟨putA (s.st N).env (some d) (x.av ((d, o) :: s.objs)), (d, o.av ((d, o) :: s.objs)) :: (s.st N).objs⟩ := by
 rw [put_st, (st_cons (N := N) h o).1]
 have : (SS.st N ⟨s.env, (d, o) :: s.objs⟩).objs = (d, o.av ((d, o) :: s.objs)) :: (s.st N).objs := by
  show objsAV ((d, o) :: s.objs) ((d, o) :: s.objs) = _
  simp only [objsAV, (st_cons (N := N) h o).2]; rfl
 rw [this]
def HDone (P : Program) (N : Nat) (s : SS) (dst : Option Tmp) (o : Op) (f : SS) : Prop :=
 ∃ s1 r, Cov (s.st N) (s1.st N) ∧ keepsB s s1 ∧ isFun o = false ∧ rOp P (s1.st N).env (s1.st N).objs o = none ∧ hOp P (s1.st N).env (s1.st N).objs dst o = some r ∧ Cov ⟨putA r.env dst r.x, r.objs⟩ (f.st N)
theorem zc_leL (ts : Tys) : leL (ts.zc.map (CV.av [])) (ts.avs ts.d) := by
 have : ∀ ts : Tys, leL (ts.zc.map (CV.av [])) (ts.avs ts.d) := by
  intro ts
  induction ts using Tys.rec (motive_1 := fun _ => True) with
  | int | bool | str => trivial
  | sl => trivial
  | nil => exact .rfl' _
  | cons t ts _ ih =>
   simp only [Tys.zc, Tys.avs, List.map_cons, Tys.d]
   refine leL.append (a := [_]) (b := [_]) ⟨rfl, fun i y hy => ?_⟩ ih
   cases i with
   | zero =>
    simp only [List.getElem?_cons_zero, Option.some.injEq] at hy ⊢; subst hy
    refine ⟨_, rfl, ?_⟩
    cases t with
    | sl us => exact .inr (.inr ⟨rfl, _, rfl⟩)
    | _ => exact .rfl' _
   | succ i => simp at hy
 exact this ts
theorem leR_rep {a b : List AV} (h : leL a b) (n : Nat) : leR (List.replicate n a) (List.replicate n b) := by
 refine ⟨by simp, fun j cs hj => ?_⟩
 rw [List.getElem?_replicate] at hj ⊢
 split at hj
 ·rename_i hlt
  simp only [Option.some.injEq] at hj; subst hj
  exact ⟨a, by rw [if_pos hlt], h⟩
 ·cases hj
theorem toKVs_av : ∀ {ts : Tys} {cs : List CV} {x : ts.T}, toKVs ts cs = some x → leL (cs.map (CV.av O)) (ts.avs x) ∧ cs.all plainCC = true ∧ cs.length = ts.len := by
 intro ts
 induction ts using Tys.rec (motive_1 := fun _ => True) with
 | int | bool | str => trivial
 | sl => trivial
 | nil =>
  intro cs x h
  cases cs with
  | nil => exact ⟨.rfl' _, rfl, rfl⟩
  | cons c cs => simp [toKVs] at h
 | cons t ts _ ih =>
  intro cs x h
  cases cs with
  | nil => simp [toKVs] at h
  | cons c cs =>
   have one : ∀ a b, leC a b → leL [a] [b] := fun a b hab => ⟨rfl, fun i y hy => by
    cases i with
    | zero => simp only [List.getElem?_cons_zero, Option.some.injEq] at hy ⊢; subst hy; exact ⟨a, rfl, hab⟩
    | succ i => simp at hy⟩
   cases c with
   | k v =>
    simp only [toKVs] at h
    split at h
    ·rename_i a b h1 h2
     simp only [Option.some.injEq] at h; subst h
     obtain ⟨i1, i2, i3⟩ := ih h2
     have e := to_kv t v a h1
     subst e
     refine ⟨?_, by simp [plainCC, i2], by simp [Tys.len, i3]⟩
     exact leL.append (one _ _ (by rw [show (CV.k (t.kv a)).av O = (t.kv a).av from rfl, kv_av]; exact .rfl' _)) i1
    ·cases h
   | nsl =>
    cases t with
    | sl us =>
     simp only [toKVs] at h
     split at h
     ·rename_i b h2
      simp only [Option.some.injEq] at h; subst h
      obtain ⟨i1, i2, i3⟩ := ih h2
      refine ⟨?_, by simp [plainCC, i2], by simp [Tys.len, i3]⟩
      exact leL.append (one _ _ (.inr (.inr ⟨rfl, _, rfl⟩))) i1
     ·cases h
    | _ => simp [toKVs] at h
   | _ => simp [toKVs] at h
theorem plainCC_av {x : CV} (h : plainCC x = true) : plainC (x.av O) = true := by
 cases x with
 | k v => cases v <;> rfl
 | cst c => cases c <;> rfl
 | _ => first | rfl | simp [plainCC] at h
theorem plainCC_all {l : List CV} (h : l.all plainCC = true) : (l.map (CV.av O)).all plainC = true := by
 rw [List.all_map]
 rw [List.all_eq_true] at h ⊢
 intro x hx
 exact plainCC_av (h x hx)
theorem toRows_av {ts : Tys} : ∀ {xs : List SV} {rows : List ts.T}, toRows O ts xs = some rows → ∃ l, rowsOf ts.len (xs.map (SV.av O)) = some l ∧ leR l (rows.map ts.avs)
 | [], rows, h => by simp only [toRows, Option.some.injEq] at h; subst h; exact ⟨[], rfl, .rfl' _⟩
 | x :: xs, rows, h => by
  simp only [toRows] at h
  split at h
  ·rename_i cs hcs
   split at h
   ·rename_i a b h1 h2
    simp only [Option.some.injEq] at h; subst h
    obtain ⟨l, hl, hle⟩ := toRows_av h2
    obtain ⟨i1, i2, i3⟩ := toKVs_av (O := O) h1
    refine ⟨cs.map (CV.av O) :: l, ?_, ?_⟩
    ·simp only [List.map_cons, rowsOf, cellsS_av hcs, hl]
     rw [if_pos ⟨by simp [i3], plainCC_all i2⟩]
    ·refine ⟨by simp [hle.1], fun j cs' hj => ?_⟩
     cases j with
     | zero => simp only [List.map_cons, List.getElem?_cons_zero, Option.some.injEq] at hj ⊢; subst hj; exact ⟨_, rfl, i1⟩
     | succ j => simp only [List.map_cons, List.getElem?_cons_succ] at hj ⊢; exact hle.2 j cs' hj
   ·cases h
  ·cases h
end Go.Abs
namespace Go.Abs
open Go.RowKit
variable {O : SObjs} {ts : Tys} {n N : Nat} {objs : List (Nat × Obj)}
theorem sat_look {w0 w : World} {M0 : Nat → Prop} {D0 : Names} {a : Act} {env : List AV} {objs objs' : List (Nat × Obj)} (h : ∀ n, look n objs' = look n objs) (hs : Sat w0 M0 D0 ⟨env, objs⟩ a w) : Sat w0 M0 D0 ⟨env, objs'⟩ a w := by
 obtain ⟨hd, D, hm, he, hp⟩ := hs
 refine ⟨hd, D, ⟨fun n hn => ?_, fun n hn => ?_, fun n o d hl hn => ?_, hm.inj, hm.lt, hm.own, hm.grow, hm.os, hm.tape, hm.output, hm.glob⟩, he, fun n d hn => ⟨(hp n d hn).1, fun ht => ?_⟩⟩
 ·rw [h]; exact hm.dom n hn
 ·rw [h] at hn; exact hm.small n hn
 ·rw [h] at hl; exact hm.rep n o d hl hn
 ·rw [h]; exact (hp n d hn).2 ht
theorem sat_take {w0 w : World} {M0 : Nat → Prop} {D0 : Names} {a : Act} {env : List AV} {n sz k : Nat} {L : List (List AV)} (h : look n objs = some (.arr sz L)) (hs : Sat w0 M0 D0 ⟨env, objs⟩ a w) :
  Sat w0 M0 D0 ⟨env, upd n (.arr sz (L.take k)) objs⟩ a w := by
 obtain ⟨hd, D, hm, he, hp⟩ := hs
 have hlk : ∀ m, look m (upd n (.arr sz (L.take k)) objs) = if m = n then some (.arr sz (L.take k)) else look m objs := fun m => by
  by_cases e : m = n
  ·subst e; rw [if_pos rfl]; exact look_upd _ _ (by rw [h]; rfl)
  ·rw [if_neg e]; exact look_upd_ne _ (Ne.symm e) _
 refine ⟨hd, D, ⟨fun m hn => ?_, fun m hn => ?_, fun m o d hl hn => ?_, hm.inj, hm.lt, hm.own, hm.grow, hm.os, hm.tape, hm.output, hm.glob⟩, he, fun m d hn => ⟨(hp m d hn).1, fun ht => ?_⟩⟩
 ·simp only [hlk]
  split
  ·rename_i e; subst e
   have := hm.dom m hn
   simp only at this
   rw [this, h]; rfl
  ·exact hm.dom m hn
 ·simp only [hlk] at hn
  split at hn
  ·rename_i e; subst e; exact hm.small m (by simp only; rw [h]; rfl)
  ·exact hm.small m hn
 ·simp only [hlk] at hl
  split at hl
  ·rename_i e; subst e
   cases hl
   have hr := hm.rep m _ d h hn
   cases d with
   | none =>
    have hr : L = [] := hr
    show L.take k = []
    rw [hr]; simp
   | some b =>
    obtain ⟨vs, T, fz, h1, h2, h3, h4, h5, h6⟩ := hr
    have hle : (L.take k).length ≤ L.length := by rw [List.length_take]; omega
    have hget : ∀ (j : Nat) cs, (L.take k)[j]? = some cs → L[j]? = some cs := fun j cs hj => by
     rw [List.getElem?_take] at hj
     split at hj
     ·exact hj
     ·cases hj
    exact ⟨vs, T, fz, h1, h2, Nat.le_trans hle h3, Nat.le_trans (Nat.mul_le_mul_right _ hle) h4, fun j cs hj => h5 j cs (hget j cs hj), fun j cs i x hj hi => h6 j cs i x (hget j cs hj) hi⟩
  ·exact hm.rep m o d hl hn
 ·have := (hp m d hn).2 ht
  simp only [hlk]
  split
  ·rename_i e; subst e
   obtain ⟨cs, hcs⟩ := this
   simp only at hcs
   rw [h] at hcs; cases hcs
  ·exact this
theorem lookS_mapOC (κ : CV → CV) (m : Nat) : ∀ O : SObjs, lookS m (mapOC κ O) = (lookS m O).map fun | .box cs => .box (cs.map κ) | .arr ts l => .arr ts l | .mp kk k l => .mp kk k l
 | [] => rfl
 | (n, .box cs) :: r => by
  by_cases h : n = m <;> simp [mapOC, lookS, h, lookS_mapOC κ m r]
 | (n, .arr ts l) :: r => by
  by_cases h : n = m <;> simp [mapOC, lookS, h, lookS_mapOC κ m r]
 | (n, .mp kk k l) :: r => by
  by_cases h : n = m <;> simp [mapOC, lookS, h, lookS_mapOC κ m r]
def Imp (s s' : St) : Prop := ∀ w0 M0 D0 a w, Sat w0 M0 D0 s a w → Sat w0 M0 D0 s' a w
theorem Imp.weak {pins : List Nat} {s s' : St} (h : Imp s s') : Weaker pins s s' := fun w0 M0 D0 a w _ hs => h w0 M0 D0 a w hs
structure Trim (n : Nat) (ts : Tys) (l l' : List ts.T) (O O3 : SObjs) : Prop where
 at_ : lookS n O = some (.arr ts l)
 at3 : lookS n O3 = some (.arr ts l')
 arr : ∀ m, m ≠ n → (CV.own m).av O3 = (CV.own m).av O
theorem Trim.cell {l l' : List ts.T} {O O3 : SObjs} (h : Trim n ts l l' O O3) (x : CV) : (unownC n ts.len (lLen l) x).av O3 = x.av O := by
 cases x with
 | own m =>
  simp only [unownC]
  split
  ·rename_i e; subst e
   simp [CV.av, h.at_, lLen]
  ·rename_i e; exact h.arr m e
 | _ => rfl
theorem Trim.vv {l l' : List ts.T} {O O3 : SObjs} (h : Trim n ts l l' O O3) (x : VV) : (mapVC (unownC n ts.len (lLen l)) x).av O3 = x.av O := by
 cases x with
 | c x => exact h.cell x
 | g l =>
  simp only [mapVC, VV.av, List.map_map]
  congr 1
  apply List.map_congr_left
  intro x _; exact h.cell x
theorem Trim.sv {l l' : List ts.T} {O O3 : SObjs} (h : Trim n ts l l' O O3) (x : SV) : (mapSC (unownC n ts.len (lLen l)) x).av O3 = x.av O := by
 cases x with
 | v x => exact h.vv x
 | tup l =>
  simp only [mapSC, SV.av, List.map_map]
  congr 1
  apply List.map_congr_left
  intro x _; exact h.vv x
theorem Trim.os {l l' : List ts.T} {O O3 : SObjs} (h : Trim n ts l l' O O3) : ∀ r : SObjs, objsAV O3 (mapOC (unownC n ts.len (lLen l)) r) = objsAV O r
 | [] => rfl
 | (m, .box cs) :: r => by
  simp only [mapOC, objsAV, SO.av, h.os r, List.map_map]
  congr 3
  apply List.map_congr_left
  intro x _; exact h.cell x
 | (m, .arr us k) :: r => by simp only [mapOC, objsAV, SO.av, h.os r]
 | (m, .mp _ _ _) :: r => by simp only [mapOC, objsAV, SO.av, h.os r]
theorem av_own_congr {O O' : SObjs} {m : Nat} (h : ∀ ts l, lookS m O' = some (.arr ts l) ↔ lookS m O = some (.arr ts l)) : (CV.own m).av O' = (CV.own m).av O := by
 simp only [CV.av]
 cases h1 : lookS m O with
 | none =>
  cases h2 : lookS m O' with
  | none => rfl
  | some o => cases o with
   | box cs => rfl
   | mp _ _ _ => rfl
   | arr ts l => rw [(h ts l).1 h2] at h1; cases h1
 | some o => cases o with
  | box cs =>
   cases h2 : lookS m O' with
   | none => rfl
   | some o => cases o with
    | box cs => rfl
    | mp _ _ _ => rfl
    | arr ts l => rw [(h ts l).1 h2] at h1; cases h1
  | mp _ _ _ =>
   cases h2 : lookS m O' with
   | none => rfl
   | some o => cases o with
    | box cs => rfl
    | mp _ _ _ => rfl
    | arr ts l => rw [(h ts l).1 h2] at h1; cases h1
  | arr ts l => rw [(h ts l).2 h1]
theorem trim_slot {s : SS} {n i off k : Nat} {l : List ts.T} (hn : lookS n s.objs = some (.arr ts l)) (ho : off = 0) (hk : k ≤ l.length) (hx : s.get N i = .v (.c (.msl n ts.len off k))) :
  Imp (s.st N) ((SS.put ⟨mapEC (unownC n ts.len (lLen l)) s.env, updS n (.arr ts (lSub l 0 k)) (mapOC (unownC n ts.len (lLen l)) s.objs)⟩ (some i) (.v (.c (.own n)))).st N) := by
 intro w0 M0 D0 a w hs
 subst ho
 generalize hκ : unownC n ts.len (lLen l) = κ
 have hκa : κ .any = .any := by rw [← hκ]; rfl
 have hO1 : lookS n (mapOC κ s.objs) = some (.arr ts l) := by rw [lookS_mapOC, hn]; rfl
 have T : Trim n ts l (lSub l 0 k) s.objs (updS n (.arr ts (lSub l 0 k)) (mapOC κ s.objs)) := by
  refine ⟨hn, lookS_upd _ (by rw [hO1]; rfl), fun m hm => av_own_congr fun us l2 => ?_⟩
  rw [lookS_upd_ne _ (Ne.symm hm), lookS_mapOC]
  cases lookS m s.objs with
  | none => simp
  | some o => cases o <;> simp
 have h1 := sat_take (k := k) (n := n) (sz := ts.len) (L := l.map ts.avs) (by show look n (objsAV s.objs s.objs) = _; rw [lookS_av, hn]; rfl) hs
 have e1 : (SS.put ⟨mapEC κ s.env, updS n (.arr ts (lSub l 0 k)) (mapOC κ s.objs)⟩ (some i) (.v (.c (.own n)))).st N = ⟨(s.st N).env, upd n (.arr ts.len ((l.map ts.avs).take k)) (s.st N).objs⟩ := by
  simp only [SS.st, SS.put]
  congr 1
  ·apply List.map_congr_left
   intro j hj
   simp only [lkE]
   split
   ·rename_i e; subst e
    have hj : i < N := by simpa using hj
    have hx' : lkE s.env i = .v (.c (.msl n ts.len 0 k)) := by
     simp only [SS.get, hj, if_true] at hx; exact hx
    rw [hx']
    simp only [SV.av, VV.av, CV.av, T.at3]
    congr 1
    simp [lSub]; omega
   ·rw [lkE_map κ hκa, ← hκ]
    have := T.sv (lkE s.env j)
    rw [← hκ] at this
    exact this
  ·rw [objsAV_upd]
   have := T.os s.objs
   rw [hκ] at this
   rw [this]
   congr 1
   simp [SO.av, lSub, List.map_take]
 rw [e1]
 exact h1
theorem trim_box {s : SS} {n b i off k : Nat} {l : List ts.T} {cs : List CV} (hb : lookS b s.objs = some (.box cs)) (hn : lookS n s.objs = some (.arr ts l)) (ho : off = 0) (hk : k ≤ l.length)
  (hx : cs.getD i .any = .msl n ts.len off k) :
  Imp (s.st N) ((setCell b i (.own n) ⟨mapEC (unownC n ts.len (lLen l)) s.env, updS n (.arr ts (lSub l 0 k)) (mapOC (unownC n ts.len (lLen l)) s.objs)⟩).st N) := by
 intro w0 M0 D0 a w hs
 subst ho
 have hbn : b ≠ n := fun e => by subst e; rw [hb] at hn; cases hn
 generalize hκ : unownC n ts.len (lLen l) = κ
 have hκa : κ .any = .any := by rw [← hκ]; rfl
 have hO1 : lookS n (mapOC κ s.objs) = some (.arr ts l) := by rw [lookS_mapOC, hn]; rfl
 have hb2 : lookS b (updS n (.arr ts (lSub l 0 k)) (mapOC κ s.objs)) = some (.box (cs.map κ)) := by
  rw [lookS_upd_ne _ (Ne.symm hbn), lookS_mapOC, hb]; rfl
 generalize hO3 : updS b (.box ((cs.map κ).set i (.own n))) (updS n (.arr ts (lSub l 0 k)) (mapOC κ s.objs)) = O3
 have T : Trim n ts l (lSub l 0 k) s.objs O3 := by
  subst hO3
  refine ⟨hn, ?_, fun m hm => av_own_congr fun us l2 => ?_⟩
  ·rw [lookS_upd_ne _ hbn]; exact lookS_upd _ (by rw [hO1]; rfl)
  ·by_cases hmb : m = b
   ·subst hmb
    rw [lookS_upd _ (by rw [hb2]; rfl), hb]; simp
   ·rw [lookS_upd_ne _ (Ne.symm hmb), lookS_upd_ne _ (Ne.symm hm), lookS_mapOC]
    cases lookS m s.objs with
    | none => simp
    | some o => cases o <;> simp
 have h1 := sat_take (k := k) (n := n) (sz := ts.len) (L := l.map ts.avs) (by show look n (objsAV s.objs s.objs) = _; rw [lookS_av, hn]; rfl) hs
 have e0 : setCell b i (.own n) ⟨mapEC κ s.env, updS n (.arr ts (lSub l 0 k)) (mapOC κ s.objs)⟩ = ⟨mapEC κ s.env, O3⟩ := by
  simp only [setCell, hb2, ← hO3]
 rw [e0]
 have e1 : (SS.st N ⟨mapEC κ s.env, O3⟩).env = (s.st N).env := by
  simp only [SS.st]
  apply List.map_congr_left
  intro j hj
  rw [lkE_map κ hκa, ← hκ]
  exact T.sv (lkE s.env j)
 refine sat_look (objs := upd n (.arr ts.len ((l.map ts.avs).take k)) (s.st N).objs) (fun m => ?_) (by have e2 := e1; simp only [SS.st] at e2 h1 ⊢; rw [e2]; exact h1)
 have hlo : look n (s.st N).objs = some (.arr ts.len (l.map ts.avs)) := by show look n (objsAV s.objs s.objs) = _; rw [lookS_av, hn]; rfl
 show look m (objsAV O3 O3) = _
 have hlk : look m (upd n (.arr ts.len ((l.map ts.avs).take k)) (s.st N).objs) = if m = n then some (.arr ts.len ((l.map ts.avs).take k)) else look m (s.st N).objs := by
  by_cases e : m = n
  ·subst e; rw [if_pos rfl]; exact look_upd _ _ (by rw [hlo]; rfl)
  ·rw [if_neg e]; exact look_upd_ne _ (Ne.symm e) _
 rw [hlk, lookS_av]
 by_cases hmn : m = n
 ·subst hmn
  rw [if_pos rfl, T.at3]
  simp [SO.av, lSub, List.map_take]
 ·rw [if_neg hmn]
  show _ = look m (objsAV s.objs s.objs)
  rw [lookS_av]
  by_cases hmb : m = b
  ·subst hmb
   rw [hb, ← hO3, lookS_upd _ (by rw [hb2]; rfl)]
   rw [hO3]
   simp only [Option.map_some, SO.av, Option.some.injEq, Obj.box.injEq]
   refine List.ext_getElem? fun j => ?_
   simp only [List.getElem?_map, List.getElem?_set, List.length_map]
   by_cases hji : i = j
   ·subst hji
    rw [if_pos rfl]
    by_cases hlt : i < cs.length
    ·rw [if_pos hlt]
     rw [List.getD_eq_getElem?_getD] at hx
     rw [List.getElem?_eq_getElem hlt] at hx ⊢
     simp only [Option.getD_some] at hx
     simp only [Option.map_some, hx, CV.av, T.at3]
     congr 2
     simp [lSub]; omega
    ·rw [if_neg hlt, List.getElem?_eq_none (by omega)]; rfl
   ·rw [if_neg hji]
    cases hc : cs[j]? with
    | none => rfl
    | some x =>
     simp only [Option.map_some]
     rw [← hκ]; exact congrArg some (T.cell x)
  ·rw [← hO3, lookS_upd_ne _ (Ne.symm hmb), lookS_upd_ne _ (Ne.symm hmn), lookS_mapOC, hO3]
   cases lookS m s.objs with
   | none => rfl
   | some o => cases o with
    | arr us k => rfl
    | mp _ _ _ => rfl
    | box ds =>
     simp only [Option.map_some, SO.av, Option.some.injEq, Obj.box.injEq, List.map_map]
     apply List.map_congr_left
     intro x _
     rw [← hκ]; exact T.cell x
theorem Imp.rfl' (s : St) : Imp s s := fun _ _ _ _ _ h => h
theorem Imp.trans {s s' s'' : St} (h : Imp s s') (h' : Imp s' s'') : Imp s s'' := fun w0 M0 D0 a w hs => h' w0 M0 D0 a w (h w0 M0 D0 a w hs)
theorem Weaker.trans {pins : List Nat} {s s' s'' : St} (h : Weaker pins s s') (h' : Weaker pins s' s'') : Weaker pins s s'' := fun w0 M0 D0 a w hp hs => h' w0 M0 D0 a w hp (h w0 M0 D0 a w hp hs)
theorem trimC_sound {R : Type} {s : SS} {x : CV} {put : Nat → SS → SS} {K : SS → Option R} {r : R} (h : trimC s x put K = some r)
  (hp : ∀ n off k ts l, x = .msl n ts.len off k → lookS n s.objs = some (.arr ts l) → off = 0 → k ≤ l.length →
   Imp (s.st N) ((put n ⟨mapEC (unownC n ts.len (lLen l)) s.env, updS n (.arr ts (lSub l 0 k)) (mapOC (unownC n ts.len (lLen l)) s.objs)⟩).st N) ∧
   keepsB s (put n ⟨mapEC (unownC n ts.len (lLen l)) s.env, updS n (.arr ts (lSub l 0 k)) (mapOC (unownC n ts.len (lLen l)) s.objs)⟩)) :
  ∃ s', K s' = some r ∧ Imp (s.st N) (s'.st N) ∧ keepsB s s' := by
 unfold trimC at h
 split at h
 ·rename_i n sz off k
  split at h
  ·rename_i ts l hl
   split at h
   ·rename_i hsz; subst hsz
    obtain ⟨hc, hk⟩ := need_some h
    have h1 : off = 0 := by have := hc.1; simpa [nEq] using this
    have h2 : k ≤ l.length := by have := hc.2.1; simp only [nLe, lLen] at this; exact of_decide_eq_true this
    exact ⟨_, hk, (hp n off k ts l rfl hl h1 h2).1, (hp n off k ts l rfl hl h1 h2).2⟩
   ·exact ⟨s, h, .rfl' _, .rfl' _⟩
  ·exact ⟨s, h, .rfl' _, .rfl' _⟩
 ·exact ⟨s, h, .rfl' _, .rfl' _⟩
theorem keeps_slot {s : SS} {κ : CV → CV} {i : Nat} {x y : CV} (hk : κ .any = .any) (h : ∀ v, κ (.k v) = .k v) (hx : s.get N i = .v (.c x)) (hxb : ∀ v, x ≠ .k v) (hxa : x ≠ .any) :
  keepsB s (SS.put ⟨mapEC κ s.env, O⟩ (some i) (.v (.c y))) := fun t b ht => by
 have h1 : lkE (mapEC κ s.env) t = SV.bool b := keepsB_map (O := O) hk h t b ht
 show lkE ((i, _) :: _) t = _
 simp only [lkE]
 split
 ·rename_i e; subst e
  have hx' : lkE s.env i = .v (.c x) := by
   simp only [SS.get] at hx
   split at hx
   ·exact hx
   ·exact absurd hx (fun e => hxa (by cases e; rfl))
  rw [hx'] at ht
  cases ht
  exact absurd rfl (hxb _)
 ·exact h1
theorem keeps_cell {s : SS} {κ : CV → CV} {b i : Nat} {y : CV} (hk : κ .any = .any) (h : ∀ v, κ (.k v) = .k v) : keepsB s (setCell b i y ⟨mapEC κ s.env, O⟩) := fun t c ht => by
 have h1 : lkE (mapEC κ s.env) t = SV.bool c := keepsB_map (O := O) hk h t c ht
 unfold setCell
 split
 ·exact h1
 ·exact h1
theorem trimB_sound {R : Type} {K : SS → Option R} {r : R} : ∀ (l : List (Nat × Nat)) {s : SS}, trimB N l s K = some r → ∃ s', K s' = some r ∧ Imp (s.st N) (s'.st N) ∧ keepsB s s'
 | [], s, h => ⟨s, h, .rfl' _, .rfl' _⟩
 | (b, i) :: l, s, h => by
  unfold trimB at h
  split at h
  ·split at h
   ·rename_i x hx
    obtain ⟨s1, h1, h2, h2k⟩ := trimC_sound (N := N) h fun n off k ts l' e hl ho hk => by
     subst e
     exact ⟨trim_slot hl ho hk hx, keeps_slot rfl (fun _ => rfl) hx (fun _ e => by cases e) (fun e => by cases e)⟩
    obtain ⟨s2, h3, h4, h5⟩ := trimB_sound l h1
    exact ⟨s2, h3, h2.trans h4, h2k.trans h5⟩
   ·exact trimB_sound l h
  ·split at h
   ·rename_i cs hb
    obtain ⟨s1, h1, h2, h2k⟩ := trimC_sound (N := N) h fun n off k ts l' e hl ho hk => ⟨trim_box hb hl ho hk e, keeps_cell rfl fun _ => rfl⟩
    obtain ⟨s2, h3, h4, h5⟩ := trimB_sound l h1
    exact ⟨s2, h3, h2.trans h4, h2k.trans h5⟩
   ·exact trimB_sound l h
end Go.Abs
namespace Go.Abs
open Go.RowKit
variable {dst : Option Tmp} {c : List Bool} {P : Program} {T : TypeId} {C : Cfg} {s s' : SS} {v : SV} {O : SObjs}
theorem av_cons {d : Nat} {o : SO} {x : CV} (hd : lookS d O = none) (ho : (∃ cs, o = .box cs) ∨ x ≠ .own d) : x.av ((d, o) :: O) = x.av O := by
 refine av_objs fun n hn => ?_
 subst hn
 by_cases h : d = n
 ·subst h
  rcases ho with ⟨cs, rfl⟩ | ho
  ·simp [lookS, hd]
  ·exact absurd rfl ho
 ·simp only [lookS, h, if_false]
theorem Cov.of_eq {a b : St} (h : a = b) : Cov a b := h ▸ .rfl' a
theorem h_box {x : Operand}
  (h : sH C s dst (.box T x) = some (c, v, s')) : HDone P C.N s dst (.box T x) (s'.put dst v) := by
 cases dst with
 | none => simp [sH] at h
 | some d =>
  simp only [sH] at h
  split at h
  ·rename_i hd
   split at h
   ·rename_i s1 h1
    split at h
    ·rename_i cs hcs
     simp only [Option.some.injEq, Prod.mk.injEq] at h; obtain ⟨_, rfl, rfl⟩ := h
     obtain ⟨a1, a2, a3⟩ := freshS_no (N := C.N) h1
     refine ⟨s1, ⟨.ref d cs.length 0 0, (s1.st C.N).env, (d, .box (cs.map (CV.av s1.objs))) :: (s1.st C.N).objs⟩, a1, a2, rfl, rfl, ?_, ?_⟩
     ·have hc : cellsOf (ev (s1.st C.N).env x) = some (cs.map (CV.av s1.objs)) := by rw [← sev_av]; exact cellsS_av hcs
      simp only [hOp, hd, if_true, hBox, look_none a3.1, hc, List.length_map]
     ·refine .of_eq ?_
      rw [st_made a3]
      have : (SO.box cs).av ((d, .box cs) :: s1.objs) = .box (cs.map (CV.av s1.objs)) := by
       simp only [SO.av]
       congr 1
       apply List.map_congr_left
       intro y _
       exact av_cons a3.1 (.inl ⟨_, rfl⟩)
      rw [this]; rfl
    ·cases h
   ·cases h
  ·cases h
theorem h_alloc (hG : Good P C.G)
  (h : sH C s dst (.alloc T) = some (c, v, s')) : HDone P C.N s dst (.alloc T) (s'.put dst v) := by
 cases dst with
 | none => simp [sH] at h
 | some d =>
  simp only [sH] at h
  split at h
  ·rename_i hd
   split at h
   ·rename_i s1 h1
    obtain ⟨a1, a2, a3⟩ := freshS_no (N := C.N) h1
    have box1 : ∀ (cs : List CV) (z : List AV) (D : TD), lkT C.G T = some D → zeroCells P T = some z → arrElem P T = none → (∀ O, cs.map (CV.av O) = z) → v = .v (.c (.ref d cs.length 0 0)) → s' = ⟨s1.env, (d, .box cs) :: s1.objs⟩ →
      HDone P C.N s (some d) (.alloc T) (s'.put (some d) v) := by
     rintro cs z D hD hz ha hcs rfl rfl
     refine ⟨s1, ⟨.ref d z.length 0 0, (s1.st C.N).env, (d, .box z) :: (s1.st C.N).objs⟩, a1, a2, rfl, rfl, ?_, ?_⟩
     ·simp only [hOp, hd, if_true, hAlloc, look_none a3.1, hz, ha]
     ·refine .of_eq ?_
      rw [st_made a3]
      simp only [SO.av, hcs]
      have : z.length = cs.length := by rw [← hcs [], List.length_map]
      rw [this]; rfl
    split at h
    ·rename_i n ts e
     simp only [Option.some.injEq, Prod.mk.injEq] at h; obtain ⟨_, rfl, rfl⟩ := h
     obtain ⟨g1, g2, g3, z, g4, g5, g6⟩ := hG T _ e
     refine ⟨s1, ⟨.ref d ts.len 0 0, (s1.st C.N).env, (d, .arr ts.len (chunk ts.len n z)) :: (s1.st C.N).objs⟩, a1, a2, rfl, rfl, ?_, ?_⟩
     ·simp only [hOp, hd, if_true, hAlloc, look_none a3.1, g4, g1]
      rw [if_pos ⟨g5, g3⟩]
     ·rw [st_made a3]
      refine cov_le (leE.rfl' _) ⟨rfl, ⟨rfl, ?_⟩, leOs.rfl' _⟩
      rw [g6]
      have := leR_rep (zc_leL ts) n
      simpa only [lRep, List.map_replicate] using this
    ·rename_i ts fs eq e
     simp only [Option.some.injEq, Prod.mk.injEq] at h; obtain ⟨_, rfl, rfl⟩ := h
     obtain ⟨_, _, _, g1, g2, _⟩ := hG T _ e
     exact box1 ts.zc _ _ e g1 g2 (fun O => zc_av ts O []) (by rw [zc_len]) rfl
    ·rename_i k e
     simp only [Option.some.injEq, Prod.mk.injEq] at h; obtain ⟨_, rfl, rfl⟩ := h
     obtain ⟨_, _, g1, g2⟩ := hG T _ e
     exact box1 [.k (.int k 0)] _ _ e g1 g2 (fun O => rfl) rfl rfl
    ·rename_i e
     simp only [Option.some.injEq, Prod.mk.injEq] at h; obtain ⟨_, rfl, rfl⟩ := h
     obtain ⟨_, _, g1, g2⟩ := hG T _ e
     exact box1 [.k (.bool false)] _ _ e g1 g2 (fun O => rfl) rfl rfl
    ·rename_i e
     simp only [Option.some.injEq, Prod.mk.injEq] at h; obtain ⟨_, rfl, rfl⟩ := h
     obtain ⟨_, _, g1, g2⟩ := hG T _ e
     exact box1 [.k (.str [])] _ _ e g1 g2 (fun O => rfl) rfl rfl
    ·rename_i ts b e
     simp only [Option.some.injEq, Prod.mk.injEq] at h; obtain ⟨_, rfl, rfl⟩ := h
     obtain ⟨_, _, _, _, g1, g2, _⟩ := hG T _ e
     exact box1 [.nsl] _ _ e g1 g2 (fun O => rfl) rfl rfl
    ·rename_i c e
     simp only [Option.some.injEq, Prod.mk.injEq] at h; obtain ⟨_, rfl, rfl⟩ := h
     obtain ⟨_, _, g1, g2⟩ := hG T _ e
     exact box1 [.cst c] _ _ e g1 g2 (fun O => rfl) rfl rfl
    ·cases h
   ·cases h
  ·cases h
theorem own_av {d : Nat} {ts : Tys} {l : List ts.T} : (SV.v (.c (.own d))).av ((d, .arr ts l) :: O) = .msl d ts.len 0 l.length := by
 simp [SV.av, VV.av, CV.av, lookS]
theorem h_buildSlice (hG : Good P C.G) {len : Nat} {parts : Array (Nat × Operand)}
  (h : sH C s dst (.buildSlice T len parts) = some (c, v, s')) : HDone P C.N s dst (.buildSlice T len parts) (s'.put dst v) := by
 cases dst with
 | none => simp [sH] at h
 | some d =>
  simp only [sH] at h
  split at h
  ·rename_i hd
   split at h
   ·rename_i s1 ts b h1 e
    obtain ⟨a1, a2, a3, a4⟩ := prepS_cov h1
    split at h
    ·rename_i rows hr
     split at h
     ·rename_i hc
      simp only [Option.some.injEq, Prod.mk.injEq] at h; obtain ⟨_, rfl, rfl⟩ := h
      obtain ⟨g1, g2, g3, _⟩ := hG T _ e
      obtain ⟨l, hl, hle⟩ := toRows_av hr
      have hl' : rowsOf ts.len ((parts.toList.map (·.2)).map (ev (s1.st C.N).env)) = some l := by
       rw [← hl]
       have : (SV.av s1.objs) ∘ (sev C s1) = ev (s1.st C.N).env := funext fun o => sev_av C s1 o
       rw [List.map_map (g := SV.av s1.objs), this]
      have hlen : rows.length = len := by
       have h1 := congrArg List.length hc.1
       simp only [List.length_map, List.length_range] at h1
       have h2 := hle.1
       simp only [List.length_map] at h2
       have : ∀ (xs : List AV) (l : List (List AV)), rowsOf ts.len xs = some l → l.length = xs.length := by
        intro xs
        induction xs with
        | nil => intro l h; simp [rowsOf] at h; subst h; rfl
        | cons x xs ih =>
         intro l h
         simp only [rowsOf] at h
         split at h
         ·rename_i cs l' h3 h4
          split at h
          ·simp only [Option.some.injEq] at h; subst h; simp [ih l' h4]
          ·cases h
         ·cases h
       have h3 := this _ _ hl
       simp only [List.length_map] at h3
       omega
      refine ⟨s1, ⟨.msl d ts.len 0 len, (s1.st C.N).env, (d, .arr ts.len l) :: (s1.st C.N).objs⟩, a1, a2, rfl, rfl, ?_, ?_⟩
      ·have hs := settle_8 (objs := (s1.st C.N).objs) (names_none a4)
       simp only [hOp, hd, if_true, hBuildSlice, hs, look_none a3.1, g1, g3, hl']
       rw [if_pos hc]
      ·rw [st_made a3, own_av, hlen]
       exact cov_le (leE.rfl' _) ⟨rfl, ⟨rfl, hle⟩, leOs.rfl' _⟩
     ·cases h
    ·cases h
   ·cases h
  ·cases h
theorem h_makeSlice (hG : Good P C.G) {l m : Operand}
  (h : sH C s dst (.makeSlice T l m) = some (c, v, s')) (hc : allT c) : HDone P C.N s dst (.makeSlice T l m) (s'.put dst v) := by
 cases dst with
 | none => simp [sH] at h
 | some d =>
  simp only [sH] at h
  split at h
  ·rename_i hd
   split at h
   ·rename_i s1 h1
    split at h
    case h_2 => cases h
    rename_i ts b n k e hn hk
    obtain ⟨a1, a2, a3⟩ := freshS_no (N := C.N) h1
    simp only [Option.some.injEq, Prod.mk.injEq] at h; obtain ⟨rfl, rfl, rfl⟩ := h
    obtain ⟨g1, g2, g3, _⟩ := hG T _ e
    obtain ⟨c1, c2, c3, c4, _⟩ := hc
    have c1 : 0 ≤ n := of_decide_eq_true c1
    have c2 : n ≤ k := of_decide_eq_true c2
    have c3 : k ≤ lim := of_decide_eq_true c3
    have c4 : (b : Int) * k ≤ lim := of_decide_eq_true c4
    obtain ⟨kn, en⟩ := asI_ev (C := C) (s := s1) (o := l) hn
    obtain ⟨kk, ek⟩ := asI_ev (C := C) (s := s1) (o := m) hk
    obtain ⟨eid, g2a, g2b⟩ := Option.bind_eq_some_iff.1 g2
    have g3b : zeroCells P eid = some (ts.zc.map (CV.av [])) := by simpa [g2a] using g3
    refine ⟨s1, ⟨.msl d ts.len 0 n.toNat, (s1.st C.N).env, (d, .arr ts.len (List.replicate n.toNat (ts.zc.map (CV.av [])))) :: (s1.st C.N).objs⟩, a1, a2, rfl, rfl, ?_, ?_⟩
    ·simp only [hOp, hd, if_true, hMake, look_none a3.1, g1, g2a, en, ek, idx, g3b, g2b]
     rw [if_pos ⟨by rw [List.length_map, zc_len], c1, c2, c3, c4⟩]
    ·rw [st_made a3, own_av]
     have e1 : (lRep (nInt n) ts.d).length = n.toNat := by simp [lRep, nInt]
     rw [e1]
     refine cov_le (leE.rfl' _) ⟨rfl, ⟨rfl, ?_⟩, leOs.rfl' _⟩
     have := leR_rep (zc_leL ts) n.toNat
     simpa only [lRep, nInt, List.map_replicate] using this
   ·cases h
  ·cases h
theorem slice_not_str {n : Nat} (h : sliceElem P T = some n) : strTy P T = false := by
 unfold sliceElem at h
 unfold strTy
 split at h
 ·rename_i e hu; simp [hu]
 ·cases h
theorem h_bytes (hG : Good P C.G) {S T : TypeId} {x : Operand}
  (h : sH C s dst (.convert S T x) = some (c, v, s')) (hc : allT c) : HDone P C.N s dst (.convert S T x) (s'.put dst v) := by
 cases dst with
 | none => simp [sH] at h
 | some d =>
  simp only [sH] at h
  split at h
  ·rename_i hd
   split at h
   ·rename_i s1 h1
    split at h
    case h_2 => cases h
    rename_i b e hx
    obtain ⟨a1, a2, a3⟩ := freshS_no (N := C.N) h1
    split at h
    ·rename_i hb
     simp only [Option.some.injEq, Prod.mk.injEq] at h; obtain ⟨rfl, rfl, rfl⟩ := h
     have c1 : b.length ≤ lim := of_decide_eq_true hc.1
     unfold isBytes at hb
     split at hb
     ·rename_i ts bb e2
      have hts := Tys.beq_eq _ _ hb
      subst hts
      obtain ⟨g1, _, _, _, _, _, g7⟩ := hG T _ e2
      have ex := asK_ev (C := C) (s := s1) (o := x) hx
      refine ⟨s1, ⟨.msl d 1 0 b.length, (s1.st C.N).env, (d, .arr 1 (bytesOf b)) :: (s1.st C.N).objs⟩, a1, a2, rfl, ?_, ?_, ?_⟩
      ·simp only [rOp, ex, KV.av, cvt, slice_not_str g1, Bool.and_false, Bool.false_eq_true, if_false]
      ·simp only [hOp, hd, if_true, hBytes, look_none a3.1, ex, KV.av]
       rw [if_pos ⟨(hG S _ e).1, g7 hb, c1⟩]
      ·rw [st_made a3, own_av]
       refine .of_eq ?_
       have e1 : (ofBytes b).length = b.length := by unfold ofBytes; exact List.length_map _
       rw [e1]
       have : (SO.arr byteTs (ofBytes b)).av ((d, .arr byteTs (ofBytes b)) :: s1.objs) = .arr 1 (bytesOf b) := by
        simp only [SO.av, bytes_av]; rfl
       rw [this]; rfl
     ·cases hb
    ·cases h
   ·cases h
  ·cases h
theorem av_upd_len {n : Nat} {o o' : SO} (ho : lookS n O = some o) (h : (∃ cs ds, o = .box cs ∧ o' = .box ds) ∨ ∃ ts l l', o = .arr ts l ∧ o' = .arr ts l' ∧ l.length = l'.length) (x : CV) : x.av (updS n o' O) = x.av O := by
 refine av_objs fun m _ => ?_
 by_cases hm : n = m
 ·subst hm
  rw [lookS_upd o' (by rw [ho]; rfl), ho]
  rcases h with ⟨cs, ds, rfl, rfl⟩ | ⟨ts, l, l', rfl, rfl, hl⟩
  ·rfl
  ·simp [hl]
 ·rw [lookS_upd_ne o' hm]
theorem st_upd {N n : Nat} {o o' : SO} (ho : lookS n s.objs = some o) (h : (∃ cs ds, o = .box cs ∧ o' = .box ds) ∨ ∃ ts l l', o = .arr ts l ∧ o' = .arr ts l' ∧ l.length = l'.length) :
  SS.st N ⟨s.env, updS n o' s.objs⟩ = ⟨(s.st N).env, upd n (o'.av s.objs) (s.st N).objs⟩ := by
 have key := av_upd_len ho h
 have kv : ∀ x : VV, x.av (updS n o' s.objs) = x.av s.objs := by
  intro x
  cases x with
  | c x => exact key x
  | g l =>
   simp only [VV.av]
   congr 1
   apply List.map_congr_left
   intro x _; exact key x
 have ks : ∀ x : SV, x.av (updS n o' s.objs) = x.av s.objs := by
  intro x
  cases x with
  | v x => exact kv x
  | tup l =>
   simp only [SV.av]
   congr 1
   apply List.map_congr_left
   intro x _; exact kv x
 have ko : ∀ x : SO, x.av (updS n o' s.objs) = x.av s.objs := by
  intro x
  cases x with
  | box cs =>
   simp only [SO.av]
   congr 1
   apply List.map_congr_left
   intro x _; exact key x
  | arr ts l => rfl
  | mp _ _ _ => rfl
 have kos : ∀ l : SObjs, objsAV (updS n o' s.objs) l = objsAV s.objs l := by
  intro l
  induction l with
  | nil => rfl
  | cons p r ih => obtain ⟨m, o⟩ := p; simp only [objsAV, ih, ko]
 simp only [SS.st]
 rw [kos, objsAV_upd]
 congr 1
 apply List.map_congr_left
 intro i _
 exact ks _
theorem leR_set {l m : List (List AV)} (h : leR l m) (i : Nat) {a b : List AV} (hab : leL a b) : leR (l.set i a) (m.set i b) := by
 refine ⟨by simp [h.1], fun j cs hj => ?_⟩
 rw [List.getElem?_set] at hj ⊢
 split at hj
 ·rename_i e
  subst e
  split at hj
  ·rename_i hlt
   simp only [Option.some.injEq] at hj; subst hj
   exact ⟨a, by rw [if_pos rfl, if_pos (by rw [h.1]; exact hlt)], hab⟩
  ·cases hj
 ·rename_i hne
  rw [if_neg hne]
  exact h.2 j cs hj
theorem leOs_upd {n : Nat} {o o' : Obj} (h : leO o o') : ∀ l : List (Nat × Obj), leOs (upd n o l) (upd n o' l)
 | [] => trivial
 | (m, p) :: r => by
  by_cases hm : m = n
  ·simp only [upd, hm, if_true]; exact ⟨rfl, h, leOs_upd h r⟩
  ·simp only [upd, hm, if_false]; exact ⟨rfl, leO.rfl' p, leOs_upd h r⟩
theorem h_store (hG : Good P C.G) {x y : Operand}
  (h : sH C s dst (.store T x y) = some (c, v, s')) (hc : allT c) : HDone P C.N s dst (.store T x y) (s'.put dst v) := by
 cases dst with
 | some d => simp [sH] at h
 | none =>
  simp only [sH] at h
  split at h
  ·rename_i n sz i off D ex eD
   have hct := TD.ok_cell (hG T _ eD)
   split at h
   ·rename_i cs hl
    split at h
    ·rename_i us hus
     split at h
     ·rename_i hcond
      simp only [Option.some.injEq, Prod.mk.injEq] at h; obtain ⟨_, rfl, rfl⟩ := h
      have hy : cellsOf (ev (s.st C.N).env y) = some (us.map (CV.av s.objs)) := by rw [← sev_av]; exact cellsS_av hus
      have hlk : look n (s.st C.N).objs = some (.box (cs.map (CV.av s.objs))) := by
       show look n (objsAV s.objs s.objs) = _
       rw [lookS_av, hl]; rfl
      refine ⟨s, ⟨.und, (s.st C.N).env, upd n (.box (over (cs.map (CV.av s.objs)) off (us.map (CV.av s.objs)))) (s.st C.N).objs⟩, .rfl' _, .rfl' _, rfl, rfl, ?_, ?_⟩
      ·simp only [hOp, hStore, asC_ev ex, CV.av, hlk, hct, hy, List.length_map]
       rw [if_pos ⟨trivial, hcond.1, by rw [← hcond.1]; exact hcond.2⟩]
      ·refine .of_eq ?_
       simp only [SS.put, putA]
       rw [st_upd hl (.inl ⟨_, _, rfl, rfl⟩)]
       simp only [SO.av, overC, over, List.map_append, List.map_take, List.map_drop, List.length_map]
     ·cases h
    ·cases h
   ·rename_i ts0 l0 hl0
    split at h
    ·rename_i s1 h1
     obtain ⟨a1, a2, a3⟩ := calmS_cov h1
     split at h
     ·rename_i ts l us n' sz' i' off' hl hus ex1
      split at h
      ·rename_i hcond
       obtain ⟨c1, c2, c3, c4, c5, c6, c7⟩ := hcond
       subst c5; subst c6; subst c7
       split at h
       ·rename_i row hrow
        simp only [Option.some.injEq, Prod.mk.injEq] at h; obtain ⟨rfl, rfl, rfl⟩ := h
        have hi : i' < l.length := of_decide_eq_true hc.1
        have hy : cellsOf (ev (s1.st C.N).env y) = some (us.map (CV.av s1.objs)) := by rw [← sev_av]; exact cellsS_av hus
        have hlk : look n' (s1.st C.N).objs = some (.arr ts.len (l.map ts.avs)) := by
         show look n' (objsAV s1.objs s1.objs) = _
         rw [lookS_av, hl]; rfl
        have hrowlen : ((l.map ts.avs).getD i' []).length = ts.len := by
         rw [getD_map_lt ts.avs l i' ts.d [] hi, avs_len]
        refine ⟨s1, ⟨.und, (s1.st C.N).env, upd n' (.arr sz' ((l.map ts.avs).set i' (over ((l.map ts.avs).getD i' []) off' (us.map (CV.av s1.objs))))) (s1.st C.N).objs⟩, a1, a2, rfl, rfl, ?_, ?_⟩
        ·have hs := settle_8 (xs := [y]) (objs := (s1.st C.N).objs) (names_none a3)
         simp only [hOp, hStore, asC_ev ex1, CV.av, hlk, hs, hct, hy, List.length_map, hrowlen]
         rw [if_pos ⟨c1, hi, c2, by rw [← c2]; exact c3, plainCC_all c4, trivial, trivial, trivial, trivial⟩]
        ·simp only [SS.put, putA]
         rw [st_upd hl (.inr ⟨_, _, _, rfl, rfl, by simp [lSet]⟩)]
         refine cov_le (leE.rfl' _) (leOs_upd ?_ _)
         refine ⟨c1, ?_⟩
         have := leR_set (leR.rfl' (l.map ts.avs)) i' (a := over ((l.map ts.avs).getD i' []) off' (us.map (CV.av s1.objs))) (b := ts.avs row) ?_
         ·simpa only [lSet, List.map_set] using this
         ·have hk := (toKVs_av (O := s1.objs) hrow).1
          have e : (overC ((ts.kvs (lGet l i' ts.d)).map CV.k) off' us).map (CV.av s1.objs) = over ((l.map ts.avs).getD i' []) off' (us.map (CV.av s1.objs)) := by
           rw [getD_map_lt ts.avs l i' ts.d [] hi]
           simp only [overC, over, List.map_append, List.map_take, List.map_drop, List.length_map, kvs_cav, lGet]
          rw [← e]; exact hk
       ·cases h
      ·cases h
     ·cases h
    ·cases h
   ·cases h
  ·cases h
theorem kill2_av {m d : Nat} {o : SO} (hd : lookS d (dropS m O) = none) (x : CV) :
  leC (kill m (x.av O)) ((killC d (killC m x)).av ((d, o) :: mapOC (killC d) (mapOC (killC m) (dropS m O)))) := by
 have own : ∀ k, k ≠ m → k ≠ d → (CV.own k).av ((d, o) :: mapOC (killC d) (mapOC (killC m) (dropS m O))) = (CV.own k).av O := by
  intro k h1 h2
  simp only [CV.av, lookS, Ne.symm h2, if_false, lookS_map, lookS_drop_ne (Ne.symm h1)]
  cases lookS k O with
  | none => rfl
  | some o => cases o <;> rfl
 have killAv : ∀ k, k ≠ m → kill m ((CV.own k).av O) = (CV.own k).av O := by
  intro k h
  simp only [CV.av]
  split <;> simp [kill, h]
 cases x with
 | own k =>
  by_cases h1 : k = m
  ·subst h1; simp only [killC, if_true]; exact .any _
  ·by_cases h2 : k = d
   ·subst h2; simp only [killC, h1, if_false, if_true]; exact .any _
   ·simp only [killC, h1, h2, if_false]
    rw [own k h1 h2, killAv k h1]; exact .rfl' _
 | msl k sz off len =>
  by_cases h1 : k = m
  ·subst h1; simp only [killC, if_true]; exact .any _
  ·by_cases h2 : k = d
   ·subst h2; simp only [killC, h1, if_false, if_true]; exact .any _
   ·simp only [killC, h1, h2, if_false, CV.av, kill]; exact .rfl' _
 | ref k sz i off =>
  by_cases h1 : k = m
  ·subst h1; simp only [killC, if_true]; exact .any _
  ·by_cases h2 : k = d
   ·subst h2; simp only [killC, h1, if_false, if_true]; exact .any _
   ·simp only [killC, h1, h2, if_false, CV.av, kill]; exact .rfl' _
 | wrp f ns =>
  by_cases h1 : (ns.map (·.1)).contains m = true
  ·rw [show killC m (.wrp f ns) = .any from if_pos h1]; exact .any _
  ·rw [show killC m (.wrp f ns) = .wrp f ns from if_neg h1]
   by_cases h2 : (ns.map (·.1)).contains d = true
   ·rw [show killC d (.wrp f ns) = .any from if_pos h2]; exact .any _
   ·rw [show killC d (.wrp f ns) = .wrp f ns from if_neg h2]
    have h3 : m ∉ ns.map (·.1) := by rw [← wrp_mem]; exact h1
    simp only [CV.av, kill, if_neg h3]; exact .rfl' _
 | k v => cases v <;> exact .rfl' _
 | raw a => cases a <;> exact .rfl' _
 | _ => exact .rfl' _
theorem mapEC_mapEC (κ κ' : CV → CV) (hk : κ .any = .any) (hk' : κ' .any = .any) (E : List (Nat × SV)) (i : Nat) : lkE (mapEC κ (mapEC κ' E)) i = lkE (mapEC (fun x => κ (κ' x)) E) i := by
 rw [lkE_map κ hk, lkE_map κ' hk', lkE_map (fun x => κ (κ' x)) (by simp [hk, hk'])]
 cases lkE E i with
 | v x => cases x <;> simp [mapSC, mapVC]
 | tup l =>
  simp only [mapSC, List.map_map]
  congr 1
  apply List.map_congr_left
  intro x _
  cases x <;> simp [mapVC]
theorem mapOC_mapOC (κ κ' : CV → CV) : ∀ l : SObjs, mapOC κ (mapOC κ' l) = mapOC (fun x => κ (κ' x)) l
 | [] => rfl
 | (n, .box cs) :: r => by simp [mapOC, mapOC_mapOC κ κ' r]
 | (n, .arr ts l) :: r => by simp [mapOC, mapOC_mapOC κ κ' r]
 | (n, .mp _ _ _) :: r => by simp [mapOC, mapOC_mapOC κ κ' r]
theorem h_append (hG : Good P C.G) {args : Array Operand} {argTypes : Array TypeId}
  (h : sH C s dst (.call { callee := .builtin .append, args, argTypes }) = some (c, v, s')) (hc : allT c) : HDone P C.N s dst (.call { callee := .builtin .append, args, argTypes }) (s'.put dst v) := by
 cases dst with
 | none => simp [sH] at h
 | some d =>
  simp only [sH] at h
  split at h
  case isFalse => cases h
  rename_i hd
  split at h
  case h_2 => cases h
  rename_i x y T T2 ha ht
  split at h
  case h_2 => cases h
  rename_i ts by_ e
  obtain ⟨g1, g2, g3, _⟩ := hG T _ e
  split at h
  case h_2 => cases h
  rename_i c0 rows hrows
  have hz : (ts.zc.map (CV.av [])).length = ts.len := by rw [List.length_map, zc_len]
  have src : ∀ s1 : SS, allT c0 → (s1 = s ∨ ∃ d, freshS d s = some s1) → True := fun _ _ _ => trivial
  have hsrc : allT c0 → srcRows P (s.st C.N).objs T2 ts.len (ev (s.st C.N).env y) = some (rows.map ts.avs) := by
   intro hc0
   unfold appRows at hrows
   split at hrows
   ·rename_i b hy
    split at hrows
    ·rename_i e2
     split at hrows
     ·rename_i hb
      simp only [Option.some.injEq, Prod.mk.injEq] at hrows; obtain ⟨rfl, rfl⟩ := hrows
      have hts := Tys.beq_eq _ _ hb
      subst hts
      have hev : ev (s.st C.N).env y = .str b := by rw [← sev_av, hy]; rfl
      rw [hev]
      simp only [srcRows, (hG T2 _ e2).1]
      rw [if_pos ⟨trivial, rfl⟩]
      exact congrArg some (bytes_av b).symm
     ·cases hrows
    ·cases hrows
   ·rename_i hns
    split at hrows
    ·rename_i hsl
     have hview := sView_sound hrows hc0
     rw [sev_av] at hview
     have hse : (sliceElem P T2).isSome = true := by
      unfold isSliceTD at hsl
      split at hsl
      ·rename_i us bb e2; rw [(hG T2 _ e2).1]; rfl
      ·cases hsl
     cases hx : ev (s.st C.N).env y with
     | str b => rw [hx] at hview; simp [viewSl] at hview
     | _ =>
      rw [hx] at hview
      simp only [srcRows, hse, if_true]
      exact hview
    ·cases hrows
  split at h
  ·rename_i hx
   split at h
   case h_2 => cases h
   rename_i s1 h1
   simp only [Option.some.injEq, Prod.mk.injEq] at h; obtain ⟨rfl, rfl, rfl⟩ := h
   obtain ⟨hc0, hc1⟩ := allT_append hc
   have c1 : rows.length ≤ lim := of_decide_eq_true hc1.1
   have c2 : rows.length * by_ ≤ lim := of_decide_eq_true hc1.2.1
   obtain ⟨a1, a2, a3⟩ := freshS_no (N := C.N) h1
   have hev : ev (s.st C.N).env x = .nsl := by rw [← sev_av, hx]; rfl
   have hn : lookS d s.objs = none := by
    unfold freshS at h1
    split at h1
    ·assumption
    ·cases h1
   refine ⟨s, ⟨.msl d ts.len 0 rows.length, (s.st C.N).env, (d, .arr ts.len (rows.map ts.avs)) :: (s.st C.N).objs⟩, .rfl' _, .rfl' _, rfl, rfl, ?_, ?_⟩
   ·simp only [hOp, hd, if_true, ha, ht, hAppend, g1, g2, g3, hsrc hc0, hev]
    rw [if_pos ⟨look_none hn, by simpa using c1, by simpa using c2, hz⟩, List.length_map]
   ·rw [st_made a3, own_av]
    have hcov : leE (s.st C.N).env (s1.st C.N).env ∧ leOs (s.st C.N).objs (s1.st C.N).objs := by
     unfold freshS at h1
     split at h1
     ·simp only [Option.some.injEq] at h1; subst h1
      have key : ∀ x : CV, leC (id (x.av s.objs)) ((killC d x).av (mapOC (killC d) s.objs)) := by
       intro x
       cases x with
       | own m =>
        simp only [killC]
        split
        ·exact .any _
        ·simp only [CV.av, lookS_map, id]
         cases lookS m s.objs with
         | none => exact .rfl' _
         | some o => cases o <;> exact .rfl' _
       | msl m sz off len => simp only [killC]; split <;> first | exact .any _ | exact .rfl' _
       | ref m sz i off => simp only [killC]; split <;> first | exact .any _ | exact .rfl' _
       | wrp f ns => simp only [killC]; split <;> first | exact .any _ | exact .rfl' _
       | _ => exact .rfl' _
      constructor
      ·have := leE_map (φ := id) (κ := killC d) (by rfl) key C.N s.env
       rw [map_id_mapS] at this
       exact this
      ·have := leOs_map (φ := id) (κ := killC d) key s.objs
       rw [mapO_id] at this
       exact this
     ·cases h1
    refine cov_le ?_ ⟨rfl, leO.rfl' _, hcov.2⟩
    refine ⟨by simp [putA, st_len], fun i z hz => ?_⟩
    simp only [putA, List.getElem?_set, st_len] at hz ⊢
    split at hz
    ·rename_i hdi
     rw [if_pos hdi]
     split at hz
     ·rename_i hlt
      simp only [Option.some.injEq] at hz; subst hz
      exact ⟨_, by rw [if_pos hlt], leS.rfl' _⟩
     ·cases hz
    ·rename_i hdi
     rw [if_neg hdi]
     exact hcov.1.2 i z hz
  ·rename_i m hx
   split at h
   case h_2 => cases h
   rename_i us l hl
   split at h
   case isFalse => cases h
   rename_i hb
   split at h
   case h_2 => cases h
   rename_i s1 h1
   simp only [Option.some.injEq, Prod.mk.injEq] at h; obtain ⟨rfl, rfl, rfl⟩ := h
   have hts := Tys.beq_eq _ _ hb
   subst hts
   obtain ⟨hc0, hc1⟩ := allT_append hc
   have c1 : l.length + rows.length ≤ lim := of_decide_eq_true hc1.1
   have c2 : (l.length + rows.length) * by_ ≤ lim := of_decide_eq_true hc1.2.1
   have hev : ev (s.st C.N).env x = .msl m us.len 0 l.length := by rw [← sev_av, hx]; simp [SV.av, VV.av, CV.av, hl]
   have hlk : look m (s.st C.N).objs = some (.arr us.len (l.map us.avs)) := by
    show look m (objsAV s.objs s.objs) = _
    rw [lookS_av, hl]; rfl
   unfold freshS at h1
   split at h1
   case h_2 => cases h1
   rename_i hn
   simp only [Option.some.injEq] at h1; subst h1
   have hn' : lookS d (dropS m s.objs) = none := by
    simp only [lookS_map] at hn
    cases hq : lookS d (dropS m s.objs) with
    | none => rfl
    | some o => simp [hq] at hn
   have hdr : look d (drop m (s.st C.N).objs) = none := by
    show look d (drop m (objsAV s.objs s.objs)) = none
    rw [← objsAV_drop, lookS_av, hn']; rfl
   refine ⟨s, ⟨.msl d us.len 0 (l.length + rows.length), (s.st C.N).env.map (mapS (kill m)), (d, .arr us.len (l.map us.avs ++ rows.map us.avs)) :: mapO (kill m) (drop m (s.st C.N).objs)⟩, .rfl' _, .rfl' _, rfl, rfl, ?_, ?_⟩
   ·simp only [hOp, hd, if_true, ha, ht, hAppend, g1, g2, g3, hsrc hc0, hev, hlk, List.length_map]
    rw [if_pos ⟨trivial, trivial, trivial, hdr, c1, c2, by rw [zc_len]⟩]
   ·have key := kill2_av (O := s.objs) (m := m) (d := d) (o := .arr us (lApp l rows)) hn'
    have kE := leE_map (φ := kill m) (κ := fun x => killC d (killC m x)) (O := s.objs) (O' := (d, .arr us (lApp l rows)) :: mapOC (killC d) (mapOC (killC m) (dropS m s.objs))) rfl key C.N s.env
    have kO := leOs_map (φ := kill m) (κ := fun x => killC d (killC m x)) (O := s.objs) (O' := (d, .arr us (lApp l rows)) :: mapOC (killC d) (mapOC (killC m) (dropS m s.objs))) key (dropS m s.objs)
    rw [put_st]
    refine cov_le ?_ ?_
    ·have e1 : (SV.v (.c (.own d))).av ((d, .arr us (lApp l rows)) :: mapOC (killC d) (mapOC (killC m) (dropS m s.objs))) = .msl d us.len 0 (l.length + rows.length) := by
      rw [own_av]; simp [lApp]
     show leE (putA _ (some d) _) (putA _ (some d) _)
     rw [e1]
     refine ⟨by simp [putA, st_len], fun i z hz => ?_⟩
     simp only [putA, List.getElem?_set, st_len, List.length_map] at hz ⊢
     split at hz
     ·rename_i hdi
      rw [if_pos hdi]
      split at hz
      ·rename_i hlt
       simp only [Option.some.injEq] at hz; subst hz
       exact ⟨_, by rw [if_pos hlt], leS.rfl' _⟩
      ·cases hz
     ·rename_i hdi
      rw [if_neg hdi]
      refine kE.2 i z ?_
      rw [← hz]
      simp only [SS.st, List.getElem?_map]
      cases (List.range C.N)[i]? with
      | none => rfl
      | some j => simp only [Option.map_some, mapEC_mapEC (killC d) (killC m) rfl rfl]
    ·have e2 : drop m (s.st C.N).objs = objsAV s.objs (dropS m s.objs) := (objsAV_drop _ _ _).symm
     show leOs ((d, Obj.arr us.len (l.map us.avs ++ rows.map us.avs)) :: mapO (kill m) (drop m (s.st C.N).objs))
      ((d, (SO.arr us (lApp l rows)).av ((d, .arr us (lApp l rows)) :: mapOC (killC d) (mapOC (killC m) (dropS m s.objs)))) :: objsAV ((d, .arr us (lApp l rows)) :: mapOC (killC d) (mapOC (killC m) (dropS m s.objs))) (mapOC (killC d) (mapOC (killC m) (dropS m s.objs))))
     refine ⟨rfl, ⟨rfl, ?_⟩, ?_⟩
     ·simp only [lApp, List.map_append]; exact leR.rfl' _
     ·rw [e2]
      rw [← mapOC_mapOC (killC d) (killC m) (dropS m s.objs)] at kO
      exact kO
  ·cases h
theorem sH_sound (hG : Good P C.G) {o : Op}
  (h : sH C s dst o = some (c, v, s')) (hc : allT c) : HDone P C.N s dst o (s'.put dst v) := by
 cases o with
 | box T x => exact h_box h
 | alloc T => exact h_alloc hG h
 | buildSlice T len parts => exact h_buildSlice hG h
 | makeSlice T l m => exact h_makeSlice hG h hc
 | convert S T x => exact h_bytes hG h hc
 | store T x y => exact h_store hG h hc
 | call cl =>
  obtain ⟨callee, args, tys⟩ := cl
  cases callee with
  | builtin b =>
   cases b with
   | append => exact h_append hG h hc
   | _ => cases dst <;> simp [sH] at h
  | _ => cases dst <;> simp [sH] at h
 | _ => cases dst <;> simp [sH] at h
end Go.Abs
namespace Go.Abs
open Go.RowKit
variable {os : List (Nat × Obj)} {D : Names}
theorem mem_le {w0 w : World} {M0 : Nat → Prop} {os os' : List (Nat × Obj)} (ho : leOs os os') (hm : Mem w0 M0 os D w) : Mem w0 M0 os' D w where
 dom := fun n hn => by rw [hm.dom n hn, (leOs_look ho).1]
 small := fun n hn => hm.small n (by rw [(leOs_look ho).1]; exact hn)
 rep := fun n o' d ho' hD => by
  obtain ⟨o, h1, h2⟩ := (leOs_look ho).2 o' ho'
  exact leO_rep h2 (hm.rep n o d h1 hD)
 inj := hm.inj
 lt := hm.lt
 own := hm.own
 grow := hm.grow
 os := hm.os
 tape := hm.tape
 output := hm.output
 glob := hm.glob
theorem contract_le {P : Program} {f : FuncId} {args args' : List AV} {os os' : List (Nat × Obj)} {r : CR} (h : Contract P f args' os' r) (ha : leE args args') (ho : leOs os os') : Contract P f args os r := by
 intro w D vs hm hr
 refine h w D vs (mem_le ho hm) ⟨by rw [hr.1, ha.1], fun i y hy => ?_⟩
 obtain ⟨x, hx, hxy⟩ := ha.2 i y hy
 exact leS_slot hxy (hr.2 i x hx)
structure Perm where
 f : Nat → Nat
 g : Nat → Nat
 fg : ∀ n, f (g n) = n
 gf : ∀ n, g (f n) = n
 top_ : ∀ n, top ≤ n → f n = n
 rn_ : f rn = rn
theorem Perm.gtop (π : Perm) {n : Nat} (h : top ≤ n) : π.g n = n := by have := π.gf n; rw [π.top_ n h] at this; exact this
theorem Perm.grn (π : Perm) : π.g rn = rn := by have := π.gf rn; rw [π.rn_] at this; exact this
theorem Perm.flt (π : Perm) {n : Nat} (h : n < top) : π.f n < top := by
 rcases Nat.lt_or_ge (π.f n) top with h1 | h1
 ·exact h1
 ·have := π.gf n
  rw [π.gtop h1] at this
  omega
theorem Perm.glt (π : Perm) {n : Nat} (h : n < top) : π.g n < top := by
 rcases Nat.lt_or_ge (π.g n) top with h1 | h1
 ·exact h1
 ·have := π.fg n
  rw [π.top_ _ h1] at this
  omega
def Perm.id' : Perm := ⟨id, id, fun _ => rfl, fun _ => rfl, fun _ _ => rfl, rfl⟩
def swapN (a b n : Nat) : Nat := if n = a then b else if n = b then a else n
theorem swapN_swapN (a b n : Nat) : swapN a b (swapN a b n) = n := by
 unfold swapN
 by_cases h1 : n = a
 ·subst h1
  by_cases h2 : b = n <;> simp [h2]
 ·by_cases h2 : n = b
  ·subst h2; simp [h1]
  ·simp [h1, h2]
def Perm.swap (a b : Nat) (ha : a < top) (hb : b < top) (ha' : a ≠ rn) (hb' : b ≠ rn) : Perm :=
 ⟨swapN a b, swapN a b, swapN_swapN a b, swapN_swapN a b, fun n hn => by unfold swapN; rw [if_neg (by omega), if_neg (by omega)], by unfold swapN; rw [if_neg (Ne.symm ha'), if_neg (Ne.symm hb')]⟩
def Perm.comp (π ρ : Perm) : Perm :=
 ⟨fun n => π.f (ρ.f n), fun n => ρ.g (π.g n), fun n => by simp [π.fg, ρ.fg], fun n => by simp [π.gf, ρ.gf], fun n hn => by rw [ρ.top_ n hn, π.top_ n hn], by rw [ρ.rn_, π.rn_]⟩
def renC (h : Nat → Nat) : AV → AV
 | .msl n sz off len => .msl (h n) sz off len
 | .ref n sz i off => .ref (h n) sz i off
 | .wrp f ns => .wrp f (ns.map h)
 | x => x
def renO (h : Nat → Nat) : List (Nat × Obj) → List (Nat × Obj)
 | [] => []
 | (n, o) :: r => (h n, objMap (renC h) o) :: renO h r
theorem look_renO (π : Perm) (n : Nat) : ∀ l, look (π.g n) (renO π.g l) = (look n l).map (objMap (renC π.g))
 | [] => rfl
 | (m, o) :: r => by
  have ih := look_renO π n r
  by_cases h : m = n
  ·subst h; simp [renO, look]
  ·have : π.g m ≠ π.g n := fun e => h (by have := congrArg π.f e; simpa [π.fg] using this)
   simp [renO, look, h, this, ih]
theorem look_renO' (π : Perm) (n : Nat) (l : List (Nat × Obj)) : look n (renO π.g l) = (look (π.f n) l).map (objMap (renC π.g)) := by
 have := look_renO π (π.f n) l
 rwa [π.gf] at this
def Names.ren (D : Names) (π : Perm) : Names := fun n => D (π.f n)
theorem ren_M (D : Names) (π : Perm) : (D.ren π).M = D.M := by
 funext b
 apply propext
 constructor
 ·rintro ⟨n, h⟩; exact ⟨π.f n, h⟩
 ·rintro ⟨n, h⟩; exact ⟨π.g n, by show D (π.f (π.g n)) = _; rw [π.fg]; exact h⟩
theorem ren_N (D : Names) (π : Perm) : (D.ren π).N = D.N := by
 funext b
 apply propext
 constructor
 ·rintro ⟨n, hn, h⟩; exact ⟨π.f n, π.flt hn, h⟩
 ·rintro ⟨n, hn, h⟩; exact ⟨π.g n, π.glt hn, by show D (π.f (π.g n)) = _; rw [π.fg]; exact h⟩
theorem ren_cell {w : World} (π : Perm) {x : AV} {v : Value} (h : Cell w D x v) : Cell w (D.ren π) (renC π.g x) v := by
 cases x with
 | msl n sz off len =>
  rcases h with ⟨h1, h2⟩ | ⟨b, cap, N, h1, h2⟩
  ·exact .inl ⟨by show (D (π.f (π.g n))).isSome = true; rw [π.fg]; exact h1, h2⟩
  ·exact .inr ⟨b, cap, N, by show D (π.f (π.g n)) = _; rw [π.fg]; exact h1, h2⟩
 | ref n sz i off => obtain ⟨b, h1, h2⟩ := h; exact ⟨b, by show D (π.f (π.g n)) = _; rw [π.fg]; exact h1, h2⟩
 | wrp f ns =>
  obtain ⟨bs, h1, h2, h3⟩ := h
  refine ⟨bs, by rw [h1, List.length_map], fun i n b hn hb => ?_, h3⟩
  rw [List.getElem?_map] at hn
  obtain ⟨m, hm, rfl⟩ := Option.map_eq_some_iff.1 hn
  show D (π.f (π.g m)) = _
  rw [π.fg]; exact h2 i m b hm hb
 | _ => simp only [Cell, renC] at h ⊢; rw [ren_M]; exact h
theorem ren_carry (w : World) (D : Names) (π : Perm) : Carry w w D (D.ren π) (renC π.g) := ⟨fun _ _ h => ren_cell π h⟩
theorem ren_rep {w : World} (π : Perm) {o : Obj} {d : Option Nat} (h : ObjRep w D o d) : ObjRep w (D.ren π) (objMap (renC π.g) o) d := by
 cases o with
 | box cs =>
  cases d with
  | none => exact h.elim
  | some b =>
   obtain ⟨vs, T, h1, h2, h3⟩ := h
   refine ⟨vs, T, h1, by simp [h2], fun i x hx => ?_⟩
   rw [List.getElem?_map] at hx
   obtain ⟨y, hy, rfl⟩ := Option.map_eq_some_iff.1 hx
   exact ⟨ren_cell π (h3 i y hy).1, (h3 i y hy).2⟩
 | arr sz l =>
  cases d with
  | none => exact h
  | some b =>
   obtain ⟨vs, T, fz, h1, h2, h3, h4, h5, h6⟩ := h
   exact ⟨vs, T, fz, h1, h2, h3, h4, h5, fun j cs i x hj hx => by rw [ren_M]; exact h6 j cs i x hj hx⟩
 | mp kk k l =>
  cases d with
  | none => exact h.elim
  | some b => exact h
theorem ren_mem {w0 w : World} {M0 : Nat → Prop} {objs : List (Nat × Obj)} (π : Perm) (hm : Mem w0 M0 objs D w) : Mem w0 M0 (renO π.g objs) (D.ren π) w where
 dom := fun n hn => by
  rw [look_renO']
  show (D (π.f n)).isSome = _
  rw [hm.dom _ (π.flt hn)]
  cases look (π.f n) objs <;> rfl
 small := fun n hn => by
  rw [look_renO'] at hn
  have h1 : (look (π.f n) objs).isSome = true := by revert hn; cases look (π.f n) objs <;> simp
  have h2 := hm.small _ h1
  rcases Nat.lt_or_ge n top with h | h
  ·exact h
  ·rw [π.top_ n h] at h2; omega
 rep := fun n o d ho hD => by
  rw [look_renO'] at ho
  obtain ⟨o', ho', rfl⟩ := Option.map_eq_some_iff.1 ho
  exact ren_rep π (hm.rep _ o' d ho' hD)
 inj := fun n m b h1 h2 => by
  have := hm.inj _ _ b h1 h2
  have := congrArg π.g this
  simpa [π.gf] using this
 lt := fun b hb => hm.lt b (by rw [← ren_M D π]; exact hb)
 own := fun b hb => hm.own b (by rw [← ren_N D π]; exact hb)
 grow := hm.grow
 os := hm.os
 tape := hm.tape
 output := hm.output
 glob := by rw [ren_M]; exact hm.glob
def CR.ren (π : Perm) (r : CR) : CR := ⟨mapS (renC π.g) r.x, renO π.g r.os, r.new.map (objMap (renC π.g))⟩
theorem CR.ren_objs (π : Perm) (r : CR) : (r.ren π).objs = renO π.g r.objs := by
 obtain ⟨x, os, new⟩ := r
 cases new with
 | none => rfl
 | some o => simp [CR.ren, CR.objs, renO, π.grn]
theorem contract_ren {P : Program} {f : FuncId} {args : List AV} {r : CR} (π : Perm) (h : Contract P f args os r) : Contract P f (args.map (mapS (renC π.g))) (renO π.g os) (r.ren π) := by
 let ρ : Perm := ⟨π.g, π.f, π.gf, π.fg, fun n hn => π.gtop hn, π.grn⟩
 have hρ : ∀ D : Names, (D.ren ρ).ren π = D := fun D => by funext n; show D (π.g (π.f n)) = D n; rw [π.gf]
 have hC : ∀ x, renC ρ.g (renC π.g x) = x := by
  intro x
  cases x with
  | msl n sz off len => show AV.msl (π.f (π.g n)) sz off len = _; rw [π.fg]
  | ref n sz i off => show AV.ref (π.f (π.g n)) sz i off = _; rw [π.fg]
  | wrp f ns =>
   show AV.wrp f ((ns.map π.g).map π.f) = _
   rw [List.map_map, show (π.f ∘ π.g) = id from funext π.fg, List.map_id]
  | _ => rfl
 have hO : ∀ l, renO ρ.g (renO π.g l) = l := by
  intro l
  induction l with
  | nil => rfl
  | cons p l ih =>
   obtain ⟨n, o⟩ := p
   simp only [renO, ih]
   have e1 : ρ.g (π.g n) = n := π.fg n
   rw [e1]
   cases o with
   | box cs =>
    have : (renC ρ.g) ∘ (renC π.g) = id := funext hC
    simp [objMap, this]
   | arr sz l => rfl
   | mp _ _ _ => rfl
 have hS : ∀ x, mapS (renC ρ.g) (mapS (renC π.g) x) = x := by
  have hid : (renC ρ.g) ∘ (renC π.g) = id := funext hC
  have hV : ∀ x, mapV (renC ρ.g) (mapV (renC π.g) x) = x := by
   intro x
   cases x with
   | agg l => simp [mapV, hid]
   | msl n sz off len => exact hC (.msl n sz off len)
   | ref n sz i off => exact hC (.ref n sz i off)
   | wrp f ns => exact hC (.wrp f ns)
   | _ => rfl
  intro x
  cases x with
  | tup l =>
   have : (mapV (renC ρ.g)) ∘ (mapV (renC π.g)) = id := funext hV
   simp [mapS, this]
  | agg l => exact hV (.agg l)
  | msl n sz off len => exact hC (.msl n sz off len)
  | ref n sz i off => exact hC (.ref n sz i off)
  | wrp f ns => exact hC (.wrp f ns)
  | _ => rfl
 intro w D vs hm hr
 have hm' := ren_mem ρ hm
 rw [hO] at hm'
 have hr' : ArgsRep w (D.ren ρ) args vs := by
  refine ⟨by simpa using hr.1, fun i x hx => ?_⟩
  have := hr.2 i (mapS (renC π.g) x) (by rw [List.getElem?_map, hx]; rfl)
  have := (ren_carry w D ρ).slot this
  rwa [hS] at this
 have hN : (D.ren ρ).N = D.N := ren_N D ρ
 refine (h w (D.ren ρ) vs (by rw [hN]; exact hm') hr').mono fun e w' hp => ?_
 obtain ⟨v, D', he, h1, h2, h3⟩ := hp
 refine ⟨v, D'.ren π, he, ?_, ?_, fun n d hn => ?_⟩
 ·rw [CR.ren_objs]
  rw [hN] at h1
  exact ren_mem π h1
 ·exact (ren_carry w' D' π).slot h2
 ·refine h3 (π.f n) d ?_
  show D (π.g (π.f n)) = some d
  rw [π.gf]; exact hn
theorem perm_of : ∀ (cs ns : List Nat), cs.length = ns.length → cs.Nodup → ns.Nodup → (∀ n ∈ cs, n < top ∧ n ≠ rn) → (∀ n ∈ ns, n < top ∧ n ≠ rn) → ∃ π : Perm, cs.map π.g = ns
 | [], [], _, _, _, _, _ => ⟨Perm.id', rfl⟩
 | c :: cs, n :: ns, hl, hc, hn, hct, hnt => by
  simp only [List.nodup_cons] at hc hn
  obtain ⟨π, hπ⟩ := perm_of cs ns (by simpa using hl) hc.2 hn.2 (fun m hm => hct m (List.mem_cons_of_mem _ hm)) (fun m hm => hnt m (List.mem_cons_of_mem _ hm))
  have h1 : π.g c < top := π.glt (hct c (List.mem_cons_self ..)).1
  have h2 : π.g c ≠ rn := fun e => (hct c (List.mem_cons_self ..)).2 (by have := congrArg π.f e; rwa [π.fg, π.rn_] at this)
  obtain ⟨h3, h4⟩ := hnt n (List.mem_cons_self ..)
  refine ⟨π.comp (Perm.swap (π.g c) n h1 h3 h2 h4), ?_⟩
  have e : ∀ m, (π.comp (Perm.swap (π.g c) n h1 h3 h2 h4)).g m = swapN (π.g c) n (π.g m) := fun m => rfl
  simp only [List.map_cons, e]
  have hh : swapN (π.g c) n (π.g c) = n := by simp [swapN]
  rw [hh]
  congr 1
  rw [← hπ]
  apply List.map_congr_left
  intro m hm
  rw [e]
  unfold swapN
  rw [if_neg (fun e => hc.1 (by have := congrArg π.f e; rw [π.fg, π.fg] at this; rwa [← this])), if_neg (fun e => hn.1 (by rw [← hπ, ← e]; exact List.mem_map_of_mem hm))]
 | [], _ :: _, h, _, _, _, _ => by simp at h
 | _ :: _, [], h, _, _, _, _ => by simp at h
def CT.av : (c : CT) → c.T → AV
 | .ty t, x => t.av x
 | .ag ts, x => .agg (ts.avs x)
def argsAV (ν : Nat → Nat) : (l : List AT) → Nat → argsT l → List AV
 | [], _, _ => []
 | .v c :: l, i, x => c.av x.1 :: argsAV ν l (i + 1) x.2
 | .bx ts :: l, i, x => .ref (ν i) ts.len 0 0 :: argsAV ν l (i + 1) x.2
def osAV (ν : Nat → Nat) : (l : List AT) → Nat → argsT l → List (Nat × Obj)
 | [], _, _ => []
 | .v _ :: l, i, x => osAV ν l (i + 1) x.2
 | .bx ts :: l, i, x => (ν i, .box (ts.avs x.1)) :: osAV ν l (i + 1) x.2
def outsAV (ν : Nat → Nat) : (l : List AT) → Nat → outsT (bxsOf l) → List (Nat × Obj)
 | [], _, _ => []
 | .v _ :: l, i, x => outsAV ν l (i + 1) x
 | .bx ts :: l, i, x => (ν i, .box (ts.avs x.1)) :: outsAV ν l (i + 1) x.2
def compsAV : (l : List CT) → compsT l → List AV
 | [], _ => []
 | c :: l, x => c.av x.1 :: compsAV l x.2
def RT.av : (r : RT) → r.T → AV
 | .v c, x => c.av x
 | .tup l, x => .tup (compsAV l x)
 | .own ts, x => .msl rn ts.len 0 x.length
 | .box ts, _ => .ref rn ts.len 0 0
 | .unit, _ => .tup []
def RT.new : (r : RT) → r.T → Option Obj
 | .own ts, x => some (.arr ts.len (x.map ts.avs))
 | .box ts, x => some (.box (ts.avs x))
 | _, _ => none
def crAV (ν : Nat → Nat) (g : Sig) (r : g.R) : CR := ⟨g.ret.av r.1, outsAV ν g.args 0 r.2, g.ret.new r.1⟩
def canon (i : Nat) : Nat := 900000 + i
def TC (P : Program) (f : FuncId) (e : Entry) : Prop := ∀ x r, e.F x = some r → Contract P f (argsAV canon e.sig.args 0 x) (osAV canon e.sig.args 0 x) (crAV canon e.sig r)
def FTok (P : Program) (FT : List (Nat × Entry)) : Prop := ∀ f e, lkF FT f = some e → funOk P f = true ∧ TC P f e
theorem ren_tav (h : Nat → Nat) : ∀ (t : Ty) (x : t.T), renC h (t.av x) = t.av x
 | .int _, _ => rfl
 | .bool, _ => rfl
 | .str, _ => rfl
 | .sl _, _ => rfl
theorem ren_avs (h : Nat → Nat) : ∀ (ts : Tys) (x : ts.T), (ts.avs x).map (renC h) = ts.avs x
 | .nil, _ => rfl
 | .cons t ts, x => by simp only [Tys.avs, List.map_cons, ren_tav, ren_avs h ts]
theorem mapS_tav (φ : AV → AV) (t : Ty) (x : t.T) : mapS φ (t.av x) = φ (t.av x) := by cases t <;> rfl
theorem ren_cav (h : Nat → Nat) (c : CT) (x : c.T) : mapS (renC h) (c.av x) = c.av x ∧ mapV (renC h) (c.av x) = c.av x := by
 cases c with
 | ty t => exact ⟨by show mapS _ (t.av x) = _; rw [mapS_tav, ren_tav]; rfl, by cases t <;> rfl⟩
 | ag ts => simp [CT.av, mapS, mapV, ren_avs]
theorem ren_args (π : Perm) (ν : Nat → Nat) : ∀ (l : List AT) (i : Nat) (x : argsT l), (argsAV ν l i x).map (mapS (renC π.g)) = argsAV (fun i => π.g (ν i)) l i x
 | [], _, _ => rfl
 | .v c :: l, i, x => by simp only [argsAV, List.map_cons, (ren_cav _ c x.1).1, ren_args π ν l]
 | .bx ts :: l, i, x => by simp only [argsAV, List.map_cons, ren_args π ν l]; rfl
theorem ren_os (π : Perm) (ν : Nat → Nat) : ∀ (l : List AT) (i : Nat) (x : argsT l), renO π.g (osAV ν l i x) = osAV (fun i => π.g (ν i)) l i x
 | [], _, _ => rfl
 | .v c :: l, i, x => by simp only [osAV, ren_os π ν l]
 | .bx ts :: l, i, x => by simp only [osAV, renO, ren_os π ν l, objMap, ren_avs]
theorem ren_outs (π : Perm) (ν : Nat → Nat) : ∀ (l : List AT) (i : Nat) (x : outsT (bxsOf l)), renO π.g (outsAV ν l i x) = outsAV (fun i => π.g (ν i)) l i x
 | [], _, _ => rfl
 | .v c :: l, i, x => ren_outs π ν l (i + 1) x
 | .bx ts :: l, i, x => by simp only [outsAV, renO, ren_outs π ν l, objMap, ren_avs]
theorem ren_comps (π : Perm) : ∀ (l : List CT) (x : compsT l), (compsAV l x).map (mapV (renC π.g)) = compsAV l x
 | [], _ => rfl
 | c :: l, x => by simp only [compsAV, List.map_cons, (ren_cav _ c x.1).2, ren_comps π l]
theorem ren_cr (π : Perm) (ν : Nat → Nat) (g : Sig) (r : g.R) : (crAV ν g r).ren π = crAV (fun i => π.g (ν i)) g r := by
 obtain ⟨args, ret⟩ := g
 simp only [CR.ren, crAV, ren_outs]
 congr 1
 ·cases ret with
  | v c => exact (ren_cav _ c _).1
  | tup l => simp only [RT.av, mapS, ren_comps]
  | own ts => simp only [RT.av, mapS, mapV, renC, π.grn]
  | box ts => simp only [RT.av, mapS, mapV, renC, π.grn]
  | unit => rfl
 ·cases ret with
  | box ts => simp [RT.new, objMap, ren_avs]
  | _ => rfl
end Go.Abs
namespace Go.Abs
open Go.RowKit
open Classical in
noncomputable def one (f : FuncId) (as : List AV) (os : List (Nat × Obj)) (r : CR) : Table := fun f' as' os' => if f' = f ∧ as' = as ∧ os' = os then some r else none
theorem one_eq (f : FuncId) (as : List AV) (os : List (Nat × Obj)) (r : CR) : one f as os r f as os = some r := by unfold one; rw [if_pos ⟨rfl, rfl, rfl⟩]
theorem one_sound {P : Program} {f : FuncId} {as : List AV} {os : List (Nat × Obj)} {r : CR} (hf : funOk P f = true) (hc : Contract P f as os r) : Sound P (one f as os r) := by
 intro f' as' os' r' h
 unfold one at h
 split at h
 ·rename_i e
  obtain ⟨rfl, rfl, rfl⟩ := e
  simp only [Option.some.injEq] at h; subst h
  exact ⟨hf, hc⟩
 ·cases h
theorem toT_le {O : SObjs} {t : Ty} {x : CV} {a : t.T} (h : toT O t x = some a) (hn : ∀ n, x ≠ .own n) : leC (x.av O) (t.av a) := by
 cases x with
 | k v =>
  simp only [toT] at h
  have := to_kv t v a h
  subst this
  show leC (t.kv a).av _
  rw [kv_av]; exact .rfl' _
 | nsl =>
  cases t with
  | sl ts =>
   simp only [toT, Option.some.injEq] at h; subst h
   exact .inr (.inr ⟨rfl, _, rfl⟩)
  | _ => simp [toT] at h
 | own n => exact absurd rfl (hn n)
 | _ => cases t <;> simp [toT] at h
theorem toT_own {O : SObjs} {t : Ty} {n : Nat} {a : t.T} (h : toT O t (.own n) = some a) : ∃ ts l, lookS n O = some (.arr ts l) ∧ t.av a = .sl ts.len (l.map ts.avs) := by
 cases t with
 | sl ts =>
  simp only [toT] at h
  split at h
  ·rename_i us l hl
   split at h
   ·rename_i hb
    have e := Tys.beq_eq us ts hb
    subst e
    simp only [Option.some.injEq] at h; subst h
    exact ⟨_, _, hl, rfl⟩
   ·cases h
  ·cases h
 | _ => simp [toT] at h
theorem toT_cases {O : SObjs} {t : Ty} {x : CV} {a : t.T} (h : toT O t x = some a) : (∃ n, x = .own n) ∨ ((∀ n, x ≠ .own n) ∧ nfC (x.av O) = true ∧ plainCC x = true) := by
 cases x with
 | own n => exact .inl ⟨n, rfl⟩
 | k v => exact .inr ⟨by simp, by cases v <;> rfl, rfl⟩
 | nsl => exact .inr ⟨by simp, rfl, rfl⟩
 | _ => cases t <;> simp [toT] at h
theorem lend_cell {O : SObjs} {t : Ty} {x : CV} {a : t.T} (h : toT O t x = some a) : ∃ y, lendC (objsAV O O) (x.av O) = some y ∧ leC y (t.av a) ∧ nfC y = true := by
 rcases toT_cases h with ⟨n, rfl⟩ | ⟨hn, hnf, _⟩
 ·obtain ⟨ts, l, hl, e⟩ := toT_own h
  refine ⟨.sl ts.len (l.map ts.avs), ?_, ?_, rfl⟩
  ·have hv : viewSl (objsAV O O) ts.len (.msl n ts.len 0 l.length) = some (l.map ts.avs) := by
    have e2 : List.take l.length (List.map ts.avs l) = List.map ts.avs l := List.take_of_length_le (by simp)
    simp [viewSl, lookS_av, hl, SO.av, e2]
   simp only [CV.av, hl, lendC, hv, Option.map_some]
  ·rw [e]; exact .rfl' _
 ·refine ⟨x.av O, ?_, toT_le h hn, hnf⟩
  cases hx : x.av O with
  | msl => rw [hx] at hnf; simp [nfC] at hnf
  | _ => rfl
theorem lend_cells {O : SObjs} : ∀ {ts : Tys} {l : List CV} {x : ts.T}, toTs O ts l = some x → ∃ ys, (l.map (CV.av O)).mapM (lendC (objsAV O O)) = some ys ∧ leL ys (ts.avs x) ∧ ys.all nfC = true
 | .nil, [], _, _ => ⟨[], rfl, leL.rfl' _, rfl⟩
 | .nil, _ :: _, _, h => by simp [toTs] at h
 | .cons _ _, [], _, h => by simp [toTs] at h
 | .cons t ts, c :: l, x, h => by
  simp only [toTs] at h
  split at h
  case h_2 => cases h
  rename_i a b h1 h2
  cases h
  obtain ⟨y, g1, g2, g3⟩ := lend_cell h1
  obtain ⟨ys, k1, k2, k3⟩ := lend_cells h2
  refine ⟨y :: ys, by simp [List.mapM_cons, g1, k1], ?_, by simp [g3, k3]⟩
  exact leL.append (a := [y]) (b := [t.av a]) ⟨rfl, fun i z hz => by
   cases i with
   | zero => simp at hz; subst hz; exact ⟨y, rfl, g2⟩
   | succ i => simp at hz⟩ k2
theorem plain_cells {O : SObjs} : ∀ {ts : Tys} {l : List CV} {x : ts.T}, toTs O ts l = some x → firstC l = none → leL (l.map (CV.av O)) (ts.avs x) ∧ (l.map (CV.av O)).all nfC = true
 | .nil, [], _, _, _ => ⟨leL.rfl' _, rfl⟩
 | .nil, _ :: _, _, h, _ => by simp [toTs] at h
 | .cons _ _, [], _, h, _ => by simp [toTs] at h
 | .cons t ts, c :: l, x, h, hf => by
  simp only [toTs] at h
  split at h
  case h_2 => cases h
  rename_i a b h1 h2
  cases h
  have hno : ∀ n, c ≠ .own n := by intro n e; subst e; simp [firstC] at hf
  have hf2 : firstC l = none := by
   cases c <;> first | exact hf | (simp [firstC] at hf; done)
  obtain ⟨k1, k2⟩ := plain_cells h2 hf2
  rcases toT_cases h1 with ⟨n, e⟩ | ⟨hn, hnf, _⟩
  ·exact absurd e (hno n)
  ·refine ⟨leL.append (a := [c.av O]) (b := [t.av a]) ⟨rfl, fun i z hz => by
    cases i with
    | zero => simp at hz; subst hz; exact ⟨c.av O, rfl, toT_le h1 hn⟩
    | succ i => simp at hz⟩ k1, by simp only [List.map_cons, List.all_cons, hnf, k2, Bool.and_self]⟩
theorem lend_arg {O : SObjs} {c : CT} {x : SV} {a : c.T} (h : toCT O c x = some a) : ∃ y, lend (objsAV O O) (x.av O) = some y ∧ leS y (c.av a) ∧ nf y = true := by
 unfold toCT at h
 split at h
 ·rename_i t x
  rcases toT_cases h with ⟨n, rfl⟩ | ⟨hn, hnf, _⟩
  ·obtain ⟨ts, l, hl, e⟩ := toT_own h
   refine ⟨.sl ts.len (l.map ts.avs), ?_, ?_, rfl⟩
   ·have hv : viewSl (objsAV O O) ts.len (.msl n ts.len 0 l.length) = some (l.map ts.avs) := by
     have e2 : List.take l.length (List.map ts.avs l) = List.map ts.avs l := List.take_of_length_le (by simp)
     simp [viewSl, lookS_av, hl, SO.av, e2]
    simp only [SV.av, VV.av, CV.av, hl, lend, lendC, hv, Option.map_some]
   ·show leS _ (t.av a)
    rw [e]; exact .rfl' _
  ·have hle := toT_le h hn
   have key : ∀ y : AV, (∀ l, y ≠ .agg l) → (∀ l, y ≠ .tup l) → nfC y = true → lend (objsAV O O) y = some y ∧ nf y = true := by
    intro y h1 h2 h3
    cases y with
    | agg l => exact absurd rfl (h1 l)
    | tup l => exact absurd rfl (h2 l)
    | msl => simp [nfC] at h3
    | ref => simp [nfC] at h3
    | wrp => simp [nfC] at h3
    | _ => exact ⟨rfl, rfl⟩
   obtain ⟨k1, k2⟩ := key (x.av O) (not_agg.1) (not_agg.2) hnf
   refine ⟨_, k1, ?_, k2⟩
   show leS (x.av O) (t.av a)
   cases hx : x.av O with
   | agg l => exact absurd hx (not_agg.1 l)
   | tup l => exact absurd hx (not_agg.2 l)
   | _ => rw [hx] at hle; exact hle
 ·rename_i ts l
  obtain ⟨ys, h1, h2, h3⟩ := lend_cells h
  refine ⟨.agg ys, ?_, .inr ⟨_, rfl, h2⟩, h3⟩
  simp only [SV.av, VV.av, lend, h1, Option.map_some]
 ·cases h
def noBx : List AT → Bool
 | [] => true
 | .v _ :: l => noBx l
 | .bx _ :: _ => false
theorem noBx_of : ∀ {l : List AT}, (bxsOf l).isEmpty = true → noBx l = true
 | [], _ => rfl
 | .v _ :: l, h => noBx_of (l := l) h
 | .bx _ :: l, h => by simp [bxsOf] at h
theorem leE_cons {x y : AV} {l m : List AV} (h : leS x y) (k : leE l m) : leE (x :: l) (y :: m) := by
 refine ⟨by simp [k.1], fun i z hz => ?_⟩
 cases i with
 | zero => simp only [List.getElem?_cons_zero, Option.some.injEq] at hz ⊢; subst hz; exact ⟨x, rfl, h⟩
 | succ i => simp only [List.getElem?_cons_succ] at hz ⊢; exact k.2 i z hz
theorem lend_args {O : SObjs} {ν : Nat → Nat} : ∀ {l : List AT} {xs : List SV} {i : Nat} {a : argsT l}, noBx l = true → toArgs O l xs = some a →
  ∃ ys, (xs.map (SV.av O)).mapM (lend (objsAV O O)) = some ys ∧ leE ys (argsAV ν l i a) ∧ ys.all nf = true
 | [], [], i, a, _, _ => ⟨[], rfl, leE.rfl' _, rfl⟩
 | [], _ :: _, i, a, _, h => by simp [toArgs] at h
 | _ :: _, [], i, a, _, h => by simp [toArgs] at h
 | .bx _ :: _, _ :: _, i, a, hb, h => by simp [noBx] at hb
 | .v c :: l, x :: xs, i, a, hb, h => by
  simp only [toArgs] at h
  split at h
  ·rename_i p q h1 h2
   simp only [Option.some.injEq] at h; subst h
   obtain ⟨ys, k1, k2, k3⟩ := lend_args (l := l) (ν := ν) (i := i + 1) hb h2
   obtain ⟨y, g1, g2, g3⟩ := lend_arg (c := c) h1
   refine ⟨y :: ys, ?_, leE_cons g2 k2, by simp [g3, k3]⟩
   simp only [List.map_cons, List.mapM_cons, g1, k1]
   rfl
  ·cases h
def bxPos : List AT → Nat → List Nat
 | [], _ => []
 | .bx _ :: l, i => i :: bxPos l (i + 1)
 | .v _ :: l, i => bxPos l (i + 1)
theorem firstC_app {a b : List CV} (hab : firstC (a ++ b) = none) : firstC a = none ∧ firstC b = none := by
 induction a with
 | nil => exact ⟨rfl, hab⟩
 | cons x a ih => cases x <;> simp only [List.cons_append, firstC, reduceCtorEq] at hab <;> simp only [firstC] <;> exact ih hab
theorem give_args {O : SObjs} {ν : Nat → Nat} : ∀ {l : List AT} {xs : List SV} {i : Nat} {a : argsT l}, toArgs O l xs = some a → firstC (xs.flatMap cellsOfS) = none → (bxPos l i).map ν = bxNames l xs →
  leE (xs.map (SV.av O)) (argsAV ν l i a) ∧ (xs.map (SV.av O)).all argOk = true ∧ refsOf (xs.map (SV.av O)) = bxNames l xs ∧ (∀ n ∈ bxNames l xs, ∃ cs, lookS n O = some (.box cs) ∧ cs.all plainCC = true) ∧
   leOs (lookAll (bxNames l xs) (objsAV O O)) (osAV ν l i a)
 | [], [], i, a, _, _, _ => ⟨leE.rfl' _, rfl, rfl, by simp [bxNames], trivial⟩
 | [], _ :: _, i, a, h, _, _ => by simp [toArgs] at h
 | _ :: _, [], i, a, h, _, _ => by simp [toArgs] at h
 | .v c :: l, x :: xs, i, a, h, hf, hν => by
  simp only [toArgs] at h
  split at h
  ·rename_i p q h1 h2
   simp only [Option.some.injEq] at h; subst h
   simp only [List.flatMap_cons] at hf
   obtain ⟨f1, f2⟩ := firstC_app hf
   obtain ⟨k1, k2, k3, k4, k5⟩ := give_args (l := l) (ν := ν) (i := i + 1) h2 f2 hν
   have hx : leS (x.av O) (c.av p) ∧ argOk (x.av O) = true ∧ refsOf [x.av O] = [] := by
    have h1 : toCT O c x = some p := h1
    cases c with
    | ty t =>
     cases x with
     | tup l => simp [toCT] at h1
     | v x =>
      cases x with
      | g l => simp [toCT] at h1
      | c y =>
       simp only [toCT] at h1
       have hno : ∀ n, y ≠ .own n := by
        intro n e; subst e; simp [cellsOfS, firstC] at f1
       rcases toT_cases h1 with ⟨n, e⟩ | ⟨hn, hnf, _⟩
       ·exact absurd e (hno n)
       ·have hle := toT_le h1 hn
        show leS (y.av O) (t.av p) ∧ argOk (y.av O) = true ∧ refsOf [y.av O] = []
        cases hxa : y.av O with
        | agg l => exact absurd hxa (not_agg.1 l)
        | tup l => exact absurd hxa (not_agg.2 l)
        | msl => rw [hxa] at hnf; simp [nfC] at hnf
        | ref => rw [hxa] at hnf; simp [nfC] at hnf
        | wrp => rw [hxa] at hnf; simp [nfC] at hnf
        | _ =>
         rw [hxa] at hle
         exact ⟨hle, rfl, rfl⟩
    | ag ts =>
     cases x with
     | tup l => simp [toCT] at h1
     | v x =>
      cases x with
      | c y => simp [toCT] at h1
      | g l' =>
       simp only [toCT] at h1
       obtain ⟨g1, hnf⟩ := plain_cells (O := O) h1 (by simpa [cellsOfS] using f1)
       exact ⟨.inr ⟨_, rfl, g1⟩, hnf, rfl⟩
   refine ⟨leE_cons hx.1 k1, by simp only [List.map_cons, List.all_cons, hx.2.1, k2, Bool.and_self], ?_, k4, k5⟩
   have e1 : refsOf ((x :: xs).map (SV.av O)) = refsOf [x.av O] ++ refsOf (xs.map (SV.av O)) := by
    simp only [refsOf, List.map_cons, ← List.filterMap_append, List.singleton_append]
   rw [e1, hx.2.2, k3]; rfl
  ·cases h
 | .bx ts :: l, x :: xs, i, a, h, hf, hν => by
  simp only [toArgs] at h
  split at h
  ·rename_i p q h1 h2
   simp only [Option.some.injEq] at h; subst h
   simp only [List.flatMap_cons] at hf
   obtain ⟨f1, f2⟩ := firstC_app hf
   have hxx : ∃ n sz, x = .v (.c (.ref n sz 0 0)) := by
    cases x with
    | tup l => simp [toAT] at h1
    | v x =>
     cases x with
     | g l => simp [toAT] at h1
     | c y =>
      cases y with
      | ref n sz i off =>
       cases i with
       | succ i => simp [toAT] at h1
       | zero =>
        cases off with
        | succ off => simp [toAT] at h1
        | zero => exact ⟨n, sz, rfl⟩
      | _ => simp [toAT] at h1
   obtain ⟨n, sz, rfl⟩ := hxx
   ·simp only [toAT] at h1
    split at h1
    case isFalse => cases h1
    rename_i hsz
    split at h1
    case h_2 => cases h1
    rename_i cs hcs
    simp only [bxPos, List.map_cons, bxNames, List.cons.injEq] at hν
    obtain ⟨hνi, hν⟩ := hν
    obtain ⟨k1, k2, k3, k4, k5⟩ := give_args (l := l) (ν := ν) (i := i + 1) h2 f2 hν
    obtain ⟨g1, g2, _⟩ := toKVs_av (O := O) h1
    refine ⟨leE_cons ?_ k1, ?_, ?_, ?_, ?_⟩
    ·show leS (AV.ref n sz 0 0) (.ref (ν i) _ 0 0)
     rw [hνi, hsz]; exact .rfl' _
    ·have : argOk ((SV.v (.c (.ref n sz 0 0))).av O) = true := rfl
     simp only [List.map_cons, List.all_cons, this, k2, Bool.and_self]
    ·have e1 : refsOf ((SV.v (.c (.ref n sz 0 0)) :: xs).map (SV.av O)) = n :: refsOf (xs.map (SV.av O)) := rfl
     rw [e1, k3]; rfl
    ·intro m hm
     simp only [bxNames, List.mem_cons] at hm
     rcases hm with rfl | hm
     ·exact ⟨cs, hcs, g2⟩
     ·exact k4 m hm
    ·have e2 : lookAll (bxNames (.bx ts :: l) (SV.v (.c (.ref n sz 0 0)) :: xs)) (objsAV O O) = (n, .box (cs.map (CV.av O))) :: lookAll (bxNames l xs) (objsAV O O) := by
      simp only [bxNames, lookAll, List.filterMap_cons, lookS_av, hcs, Option.map_some, SO.av]
     rw [e2]
     exact ⟨hνi.symm, g1, k5⟩
  ·cases h
theorem csv_av {O : SObjs} (c : CT) (x : c.T) : (c.sv x).av O = c.av x := by
 cases c with
 | ty t => exact kv_av t x
 | ag ts => simp only [CT.sv, SV.av, VV.av, CT.av, kvs_cav]
theorem cvv_av {O : SObjs} (c : CT) (x : c.T) : (c.vv x).av O = c.av x := by
 cases c with
 | ty t => exact kv_av t x
 | ag ts => simp only [CT.vv, VV.av, CT.av, kvs_cav]
theorem vvs_av {O : SObjs} : ∀ (l : List CT) (x : compsT l), (vvs l x).map (VV.av O) = compsAV l x
 | [], _ => rfl
 | c :: l, x => by simp only [vvs, compsAV, List.map_cons, cvv_av, vvs_av l]
theorem setBoxes_no : ∀ {l : List AT} {xs : List SV} {o : outsT (bxsOf l)} {O : SObjs}, noBx l = true → setBoxes l xs o O = O
 | [], xs, o, O, _ => by cases xs <;> rfl
 | .v _ :: l, [], o, O, h => rfl
 | .v _ :: l, _ :: xs, o, O, h => setBoxes_no (l := l) h
 | .bx _ :: _, _, _, _, h => by simp [noBx] at h
theorem ground_t : ∀ (t : Ty) (x : t.T), gTy t = true → groundC (t.av x) = true
 | .int _, _, _ => rfl
 | .bool, _, _ => rfl
 | .str, _, _ => rfl
 | .sl _, _, h => by simp [gTy] at h
theorem ground_ts : ∀ (ts : Tys) (x : ts.T), gTys ts = true → (ts.avs x).all groundC = true
 | .nil, _, _ => rfl
 | .cons t ts, x, h => by
  simp only [gTys, Bool.and_eq_true] at h
  simp only [Tys.avs, List.all_cons, ground_t t _ h.1, ground_ts ts _ h.2, Bool.and_self]
theorem ground_c (c : CT) (x : c.T) (h : gCT c = true) : (match c.av x with | .agg l => l.all groundC | y => groundC y) = true ∧ (∀ l, c.av x ≠ .tup l) := by
 cases c with
 | ty t =>
  have := ground_t t x h
  refine ⟨?_, ?_⟩
  ·show (match t.av x with | .agg l => l.all groundC | y => groundC y) = true
   cases hx : t.av x with
   | agg l => rw [hx] at this; simp [groundC] at this
   | _ => rw [hx] at this; exact this
  ·intro l e
   have e : t.av x = .tup l := e
   rw [e] at this; simp [groundC] at this
 | ag ts => exact ⟨ground_ts ts x h, by simp [CT.av]⟩
theorem ground_r (r : RT) (x : r.T) (h : gRT r = true) : ground (r.av x) = true ∧ r.new x = none ∧ (∀ d, rename d (r.av x) = r.av x) ∧ nf (r.av x) = true := by
 have key : ∀ y : AV, ground y = true → (∀ d, rename d y = y) ∧ nf y = true := by
  intro y hy
  have gn : ∀ l : List AV, l.all groundC = true → l.all nfC = true := fun l hl => by
   rw [List.all_eq_true] at hl ⊢
   intro z hz
   have := hl z hz
   cases z <;> simp_all [groundC, nfC]
  cases y with
  | msl => simp [ground, groundC] at hy
  | ref => simp [ground, groundC] at hy
  | agg l => exact ⟨fun _ => rfl, gn l hy⟩
  | tup l =>
   refine ⟨fun _ => rfl, ?_⟩
   simp only [ground, nf] at hy ⊢
   rw [List.all_eq_true] at hy ⊢
   intro z hz
   have := hy z hz
   cases z with
   | agg l => exact gn l this
   | _ => simp_all [groundC, nfV, nfC]
  | _ => first | exact ⟨fun _ => rfl, rfl⟩ | simp [ground, groundC] at hy
 cases r with
 | v c =>
  obtain ⟨h1, h2⟩ := ground_c c x h
  have hg : ground (c.av x) = true := by
   cases hx : c.av x with
   | tup l => exact absurd hx (h2 l)
   | _ => rw [hx] at h1; exact h1
  exact ⟨hg, rfl, key _ hg⟩
 | tup l =>
  have hg : ground (.tup (compsAV l x)) = true := by
   simp only [gRT] at h
   simp only [ground]
   have : ∀ (l : List CT) (x : compsT l), l.all gCT = true → (compsAV l x).all (fun x => match x with | .agg l => l.all groundC | x => groundC x) = true := by
    intro l
    induction l with
    | nil => intro _ _; rfl
    | cons c l ih =>
     intro x h
     simp only [List.all_cons, Bool.and_eq_true] at h
     simp only [compsAV, List.all_cons, Bool.and_eq_true]
     exact ⟨(ground_c c x.1 h.1).1, ih x.2 h.2⟩
   exact this l x h
  exact ⟨hg, rfl, key _ hg⟩
 | _ => simp [gRT] at h
end Go.Abs
