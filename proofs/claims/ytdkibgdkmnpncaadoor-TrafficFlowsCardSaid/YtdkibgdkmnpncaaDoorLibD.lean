/- The walks' library, part D: what a region of the program does in an abstract state, and its soundness. -/
import Derived.Test.YtdkibgdkmnpncaaDoorLibC
namespace Go.Abs
open Go.RowKit
variable {O : ah} {G : List (Nat × TD)} {P : Program} {T : TypeId} {x : SV} {C : eN} {c : List Bool} {s : SS} {n : Int} {cs : List CV}
theorem qi {c : CV} (h : Ks x = some c) : x = .v (.c c) := by
 unfold Ks at h; split at h
 ·simp only [Option.some.injEq] at h; subst h; rfl
 ·cases h
theorem NO {k : KV} (h : Nl x = some k) : x = .v (.c (.k k)) := by
 unfold Nl at h; split at h
 ·simp only [Option.some.injEq] at h; subst h; rfl
 ·cases h
theorem NM (h : Nk x = some n) : ∃ k, x = .v (.c (.k (.int k n))) := by
 unfold Nk at h; split at h
 ·simp only [Option.some.injEq] at h; subst h; exact ⟨_, rfl⟩
 ·cases h
theorem fO {o : Operand} {c : CV} (h : Ks (aq C s o) = some c) : ev (s.st C.N).env o = c.av s.objs := by
 rw [← bz, qi h]; rfl
theorem qk {o : Operand} {k : KV} (h : Nl (aq C s o) = some k) : ev (s.st C.N).env o = k.av := by
 rw [← bz, NO h]; rfl
theorem kX {o : Operand} (h : Nk (aq C s o) = some n) : ∃ k, ev (s.st C.N).env o = .int k n := by
 obtain ⟨k, e⟩ := NM h
 exact ⟨k, by rw [← bz, e]; rfl⟩
theorem jz {α β : Type} (f : α → β) (l : List α) (n : Nat) (d : α) (e : β) (h : n < l.length) : (l.map f).getD n e = f (l.getD n d) := by
 simp [List.getD, h]
theorem Of {ts : cf} {l : List ts.T} (h0 : 0 ≤ n) (h1 : n < l.length) : (l.map ts.cF).getD n.toNat [] = ts.cF (bg ts.d l n) := by
 unfold bg
 exact jz _ _ _ _ _ (by omega)
theorem xz {D : Bool × Nat} {x : VV} (h : Ku D cs = some x) : iK D.1 D.2 (cs.map (CV.av O)) = some (x.av O) := by
 unfold Ku at h
 unfold iK
 split at h
 ·rename_i hg
  split at h
  ·rename_i hn
   simp only [Option.some.injEq] at h; subst h
   simp [hg, hn, VV.av]
  ·cases h
 ·rename_i hg
  cases cs with
  | nil => simp at h
  | cons c cs =>
   simp only [List.head?_cons, Option.map_some, Option.some.injEq] at h; subst h
   simp [hg, VV.av]
theorem qD {n sz i off : Nat} (h : mD O n sz i off = some (c, cs)) (hc : gy c) : jw (ai O O) n sz i off = some (cs.map (CV.av O)) := by
 unfold mD at h
 split at h
 ·rename_i cs' hl
  split at h
  ·simp only [Option.some.injEq, Prod.mk.injEq] at h; obtain ⟨_, rfl⟩ := h
   simp [jw, bk, hl, SO.av]
  ·cases h
 ·rename_i ts l hl
  split at h
  ·rename_i hsz
   simp only [Option.some.injEq, Prod.mk.injEq] at h; obtain ⟨rfl, rfl⟩ := h
   have h0 : i + 1 ≤ l.length := of_decide_eq_true hc.1
   simp only [jw, bk, hl, Option.map_some, SO.av, List.length_map]
   rw [if_pos ⟨hsz, h0⟩]
   simp only [IG, List.map_drop, ly]
   congr 2
   exact jz _ _ _ _ _ h0
  ·cases h
 ·cases h
theorem Ds {x : CV} (h : ib O x = true) : iC (x.av O) = true := by
 cases x with
 | k v => cases v <;> rfl
 | own n =>
  simp only [ib] at h
  split at h
  ·rename_i ts l e
   simp [CV.av, e, iC]
  ·cases h
 | cW c => cases c <;> rfl
 | _ => first | rfl | simp [ib] at h
theorem dx {x : CV} : (∀ l, x.av O ≠ .agg l) ∧ ∀ l, x.av O ≠ .cI l := by
 cases x with
 | k v => cases v <;> simp [CV.av, KV.av]
 | own n => simp only [CV.av]; split <;> simp
 | raw a => simp only [CV.av]; split <;> simp
 | _ => simp [CV.av]
theorem Gw {x : CV} (h : iC (x.av O) = true) : cellsOf (x.av O) = some [x.av O] := by
 unfold cellsOf
 split
 ·rename_i l e; exact ((dx (O := O) (x := x)).1 l e).elim
 ·rw [if_pos h]
theorem kr (h : fk O x = some cs) : cellsOf (x.av O) = some (cs.map (CV.av O)) := by
 unfold fk at h
 split at h
 ·simp only [Option.some.injEq] at h; subst h; rfl
 ·split at h
  ·rename_i hp
   simp only [Option.some.injEq] at h; subst h
   exact Gw (Ds hp)
  ·cases h
 ·cases h
theorem AA {pl : List (Nat × Bool × Nat)} : ∀ {parts : List (Nat × SV)} {cells r : List CV}, o8 O pl cells parts = some r →
  tV (pl.map fun f => (f.1, f.2.2)) (cells.map (CV.av O)) (parts.map fun p => (p.1, p.2.av O)) = some (r.map (CV.av O))
 | [], cells, r, h => by simp only [o8, Option.some.injEq] at h; subst h; rfl
 | (i, x) :: rest, cells, r, h => by
  simp only [o8] at h
  split at h
  ·rename_i off g n cs hp hcs
   split at h
   ·rename_i hc
    have ih := AA (parts := rest) h
    simp only [List.map_cons, tV, List.getElem?_map, hp, Option.map_some, kr hcs, List.length_map]
    rw [if_pos hc]
    simpa only [List.map_append, List.map_take, List.map_drop] using ih
   ·cases h
  ·cases h
theorem DO (hG : Good P G) (h : DN O (gQ G T) x = some n) : lenOf P T (x.av O) = some (.int .i64 n) := by
 have hsl : ff (gQ G T) = true → (bf P T).isSome = true := by
  intro hi
  unfold ff at hi
  split at hi
  ·rename_i ts b e
   rw [(hG T _ e).1]; rfl
  ·cases hi
 unfold DN at h
 split at h
 ·split at h
  ·rename_i e
   simp only [Option.some.injEq] at h; subst h
   simp only [SV.av, VV.av, CV.av, KV.av, lenOf, (hG T _ e).1, if_true]; rfl
  ·cases h
 ·split at h
  ·rename_i hi
   simp only [Option.some.injEq] at h; subst h
   simp only [SV.av, VV.av, CV.av, KV.av, lenOf, hsl hi, if_true, List.length_map]; rfl
  ·cases h
 ·split at h
  ·rename_i hi
   simp only [Option.some.injEq] at h; subst h
   simp only [SV.av, VV.av, CV.av, lenOf, hsl hi, if_true]
  ·cases h
 ·split at h
  ·rename_i ts l hl
   split at h
   ·rename_i hi
    simp only [Option.some.injEq] at h; subst h
    simp only [SV.av, VV.av, CV.av, hl, lenOf, hsl hi, if_true]; rfl
   ·cases h
  ·cases h
 ·split at h
  ·rename_i hi
   simp only [Option.some.injEq] at h; subst h
   simp only [SV.av, VV.av, CV.av, lenOf, hsl hi, if_true]; rfl
  ·cases h
 ·cases h
theorem eC {d n : Int} {o : Option Operand} (h : gM C s d o = some n) : oF (s.st C.N).env d o = some n := by
 cases o with
 | none => exact h
 | some o =>
  simp only [gM] at h
  obtain ⟨k, e⟩ := kX h
  simp only [oF, e, idx]
theorem kz {α : Type} {l h : Int} {len : Nat} {x y : α} (hh : gy [fa l h len]) : (if 0 ≤ l ∧ l ≤ h ∧ h ≤ (len : Int) then x else y) = x := if_pos (CQ hh.1)
theorem BE (hG : Good P C.G) {lo : Option Operand} {hi mx : Operand} {y : CV} (h : vr C s T x lo hi mx = some (c, y)) (hc : gy c) :
  Hp P T (s.st C.N).env (x.av s.objs) lo hi mx = some (y.av s.objs) := by
 unfold vr at h
 split at h
 ·rename_i n
  split at h
  ·rename_i us b hlk
   split at h
   ·rename_i ts by_ l h' m e1 e2 e3 e4
    split at h
    ·rename_i hlen
     simp only [Option.some.injEq, Prod.mk.injEq] at h; obtain ⟨rfl, rfl⟩ := h
     have hse : bf P T = some us.len := by rw [hlen]; exact (hG T _ e1).1
     obtain ⟨c1, c2, c3, c4, _⟩ := hc
     simp only [vG, decide_eq_true_eq, uh, eE] at c1 c2 c3 c4
     simp only [SV.av, VV.av, CV.av, hlk, Hp, hse, if_true, eC e2, eC e3, eC e4]
     rw [if_pos ⟨c1, c2, c3, of_decide_eq_true c4⟩]
     simp [iA, Di]
    ·cases h
   ·cases h
  ·cases h
 ·rename_i n sz off len
  split at h
  ·rename_i ts by_ l h' m e1 e2 e3 e4
   split at h
   ·rename_i hlen
    simp only [Option.some.injEq, Prod.mk.injEq] at h; obtain ⟨rfl, rfl⟩ := h
    have hse : bf P T = some sz := by rw [hlen]; exact (hG T _ e1).1
    obtain ⟨c1, c2, c3, c4, _⟩ := hc
    simp only [vG, decide_eq_true_eq, uh] at c1 c2 c3 c4
    simp only [SV.av, VV.av, CV.av, Hp, hse, if_true, eC e2, eC e3, eC e4]
    rw [if_pos ⟨c1, c2, c3, of_decide_eq_true c4⟩]
    simp [iA, Di, vO]
   ·cases h
  ·cases h
 ·cases h
theorem DW (hG : Good P C.G) {lo hi : Option Operand} {y : CV} (h : DV C s T x lo hi = some (c, y)) (hc : gy c) :
  JM P T (s.st C.N).objs (s.st C.N).env (x.av s.objs) lo hi = some (y.av s.objs) := by
 unfold DV at h
 split at h
 ·rename_i b
  split at h
  ·rename_i l h' e1 e2 e3
   simp only [Option.some.injEq, Prod.mk.injEq] at h; obtain ⟨rfl, rfl⟩ := h
   simp only [SV.av, VV.av, CV.av, KV.av, JM, (hG T _ e1).1, if_true, eC e2]
   rw [show oF (s.st C.N).env (b.length : Int) hi = some h' from eC e3]
   exact kz hc
  ·cases h
 ·rename_i us b
  split at h
  ·rename_i ts bb l h' e1 e2 e3
   split at h
   ·rename_i hlen
    simp only [Option.some.injEq, Prod.mk.injEq] at h; obtain ⟨rfl, rfl⟩ := h
    have hse : bf P T = some us.len := by rw [hlen]; exact (hG T _ e1).1
    simp only [SV.av, VV.av, CV.av, KV.av, JM, hse, if_true, eC e2, List.length_map]
    rw [show oF (s.st C.N).env (b.length : Int) hi = some h' from eC e3]
    simp only [ig, List.map_take, List.map_drop]
    exact kz hc
   ·cases h
  ·cases h
 ·split at h
  ·rename_i ts bb l h' e1 e2 e3
   simp only [Option.some.injEq, Prod.mk.injEq] at h; obtain ⟨rfl, rfl⟩ := h
   have hse : (bf P T).isSome = true := by rw [(hG T _ e1).1]; rfl
   simp only [SV.av, VV.av, CV.av, JM, hse, if_true, eC e2, eC e3]
   exact kz hc
  ·cases h
 ·rename_i n
  split at h
  ·rename_i us b hl
   split at h
   ·rename_i ts bb l h' e1 e2 e3
    split at h
    ·rename_i hlen
     simp only [Option.some.injEq, Prod.mk.injEq] at h; obtain ⟨rfl, rfl⟩ := h
     have hse : bf P T = some us.len := by rw [hlen]; exact (hG T _ e1).1
     simp only [SV.av, VV.av, CV.av, hl, JM, hse, if_true, eC e2]
     rw [show oF (s.st C.N).env (b.length : Int) hi = some h' from eC e3]
     simp only [Nat.zero_add]
     exact kz hc
    ·cases h
   ·cases h
  ·cases h
 ·rename_i n sz off len
  split at h
  ·rename_i ts bb l h' e1 e2 e3
   split at h
   ·rename_i hlen
    simp only [Option.some.injEq, Prod.mk.injEq] at h; obtain ⟨rfl, rfl⟩ := h
    have hse : bf P T = some sz := by rw [hlen]; exact (hG T _ e1).1
    simp only [SV.av, VV.av, CV.av, JM, hse, if_true, eC e2]
    rw [show oF (s.st C.N).env (len : Int) hi = some h' from eC e3]
    exact kz hc
   ·cases h
  ·cases h
 ·rename_i n sz
  split at h
  ·rename_i us b len ts hl e1
   split at h
   ·rename_i hlen
    simp only [Option.some.injEq, Prod.mk.injEq] at h; obtain ⟨rfl, rfl⟩ := h
    have hn : b.length = len := of_decide_eq_true hc.1
    have hae := (hG T _ e1).1
    have hlk : look n (s.st C.N).objs = some (.arr us.len (b.map us.cF)) := by
     show look n (ai s.objs s.objs) = _
     rw [bk, hl]; rfl
    simp only [SV.av, VV.av, CV.av, JM, hae, hlk, List.length_map, hl]
    rw [if_pos ⟨hlen.2, by rw [hlen.2, hlen.1], hn⟩]
    simp only [oF]
    rw [if_pos ⟨by omega, by omega, by omega⟩]
    simp [hlen.1, hlen.2, hn]
   ·cases h
  ·rename_i us b len ts hl e1 nn
   split at h
   ·rename_i l h' e2 e3
    split at h
    ·rename_i hlen
     simp only [Option.some.injEq, Prod.mk.injEq] at h; obtain ⟨rfl, rfl⟩ := h
     have hn : b.length = len := of_decide_eq_true hc.1
     have hae := (hG T _ e1).1
     have hlk : look n (s.st C.N).objs = some (.arr us.len (b.map us.cF)) := by
      show look n (ai s.objs s.objs) = _
      rw [bk, hl]; rfl
     simp only [SV.av, VV.av, CV.av, JM, hae, hlk, List.length_map]
     rw [if_pos ⟨hlen.2, by rw [hlen.2, hlen.1], hn⟩]
     have e4 : ∀ o, gM C s (uh len) o = some h' → oF (s.st C.N).env (len : Int) o = some h' := fun o e => eC e
     simp only [eC e2, e4 _ e3]
     exact kz hc.2
    ·cases h
   ·cases h
  ·cases h
 ·cases h
theorem nF : ∀ {l : List SV} {ns : List (Nat × Nat)}, oD l = some ns → nQ (l.map (SV.av O)) = some (ns.map (·.1))
 | [], ns, h => by simp only [oD, Option.some.injEq] at h; subst h; rfl
 | x :: l, ns, h => by
  unfold oD at h
  split at h
  ·rename_i e; cases e
  ·rename_i n sz r e
   simp only [List.cons.injEq] at e
   obtain ⟨rfl, rfl⟩ := e
   split at h
   ·rename_i ms hms
    simp only [Option.some.injEq] at h; subst h
    simp only [List.map_cons, SV.av, VV.av, CV.av, nQ, nF hms, Option.map_some]
   ·cases h
  ·cases h
theorem Dg {f : FuncId} {l : List SV} {x : CV} (h : Ld f l = some x) : RB (.func f) (l.map (SV.av O)) = some (x.av O) := by
 unfold Ld at h
 split at h
 ·simp only [Option.some.injEq] at h; subst h; rfl
 ·split at h
  ·rename_i y l ns hns
   simp only [Option.some.injEq] at h; subst h
   have := nF (O := O) hns
   unfold RB
   simp only [List.map_cons] at this ⊢
   rw [this]; rfl
  ·cases h
theorem qL (hG : Good P G) (h : wc (gQ G T) = true) : qM P T = true := by
 have key : ∀ d, P.underlying T = some d → (∀ ms, d ≠ .interface ms) → qM P T = true := by
  intro d hu hn
  unfold qM
  rw [hu]
  cases d <;> first | rfl | exact absurd rfl (hn _)
 cases hd : gQ G T with
 | none => simp [hd, wc] at h
 | some D =>
  have hok := hG T D hd
  have hu := TD.Dn hok
  obtain ⟨d, hu⟩ := Option.isSome_iff_exists.1 hu
  refine key d hu fun ms e => ?_
  subst e
  cases D with
  | int k => have := hok.1; simp [wo, hu] at this
  | bool => have := hok.1; simp [ql, hu] at this
  | str => have := hok.1; simp [iE, hu] at this
  | slice ts b => have := hok.1; simp [bf, hu] at this
  | struct ts fs eq =>
   have := hok.1
   simp only [cJ, hu] at this
   split at this <;> simp_all
  | arr n ts => have := hok.1; simp [cN, hu] at this
  | map kk k => have := hok.1; simp [n5, Oo, hu] at this
  | nl c =>
   cases c with
   | rJ => have := hok.1; simp [Li, Dw, hu] at this
   | xD => have := hok.1; simp [Li, Nq, hu] at this
   | qy => simp [hd, wc] at h
   | fn f => simp [hd, wc] at h
theorem Et : ∀ {l : List CV} {ks : List KV}, IF l = some ks → l = ks.map CV.k
 | [], ks, h => by simp only [IF, Option.some.injEq] at h; subst h; rfl
 | x :: l, ks, h => by
  unfold IF at h
  split at h
  ·rename_i e; cases e
  ·rename_i v r e
   simp only [List.cons.injEq] at e
   obtain ⟨rfl, rfl⟩ := e
   split at h
   ·rename_i m hm
    simp only [Option.some.injEq] at h; subst h
    rw [Et hm]; rfl
   ·cases h
  ·cases h
theorem zA (v : KV) : dh v.av = true := by cases v <;> rfl
theorem Dh (hG : Good P G) {y : CV} (h : Le (gQ G T) T x = some y) : Ot P T (x.av O) = some (y.av O) := by
 unfold Le at h
 split at h
 case isFalse => cases h
 rename_i hc
 have hc := qL hG hc
 split at h
 ·rename_i n sz
  simp only [Option.some.injEq] at h; subst h
  simp only [Ot, hc, if_true, SV.av, VV.av, CV.av]; rfl
 ·rename_i l
  obtain ⟨ks, hks, rfl⟩ := Option.map_eq_some_iff.1 h
  rw [Et hks]
  have hp : ((ks.map CV.k).map (CV.av O)).all dh = true := by
   rw [zd, List.all_map, List.all_eq_true]
   intro v _; exact zA v
  rw [zd] at hp
  simp only [Ot, hc, if_true, SV.av, VV.av, CV.av, zd, hp]
 ·rename_i v
  simp only [Option.some.injEq] at h; subst h
  have hp := zA v
  simp only [Ot, hc, if_true, SV.av, VV.av, CV.av, List.map_cons, List.map_nil]
  generalize v.av = u at hp
  cases u <;> first | (simp only [hp, if_true]; done) | simp [dh] at hp
  all_goals simp_all
 ·cases h
theorem D3 (hG : Good P G) {ok : Bool} {x y : SV} (h : M7 (gQ G T) T ok x = some y) : Qd P T ok (x.av O) = some (y.av O) := by
 unfold M7 at h
 split at h
 case isFalse => cases h
 rename_i hc
 have hc := qL hG hc
 split at h
 ·rename_i t l
  split at h
  ·rename_i ht
   simp only [Option.some.injEq] at h; subst h
   simp only [Qd, hc, if_true, SV.av, VV.av, CV.av, ht]
   cases ok <;> simp [D4, Gi, VV.av, CV.av, KV.av]
  ·cases h
 ·rename_i t v
  split at h
  ·rename_i ht
   simp only [Option.some.injEq] at h; subst h
   simp only [Qd, hc, if_true, SV.av, VV.av, CV.av, ht, List.map_cons, List.map_nil]
   cases ok <;> simp [D4, Gi, VV.av, CV.av, KV.av]
  ·cases h
 ·cases h
theorem GD {op : BinOp} {b : Bool} {k : KV} (h : SY op b = some k) : Ig op b = some k.av := by
 unfold SY at h
 split at h
 ·simp only [Option.some.injEq] at h; subst h; rfl
 ·simp only [Option.some.injEq] at h; subst h; rfl
 ·cases h
theorem kB (hG : Good P G) (h : Oc (gQ G T) = true) : lq P T = true := by
 unfold Oc at h
 split at h
 ·rename_i e; exact (hG T _ e).1
 ·cases h
theorem mZ (hG : Good P G) (h : P6 (gQ G T) = true) : Dw P T = true ∧ Du P T = true := by
 unfold P6 at h
 split at h
 ·rename_i e
  have h1 : Dw P T = true := (hG T _ e).1
  refine ⟨h1, ?_⟩
  unfold Dw at h1
  unfold Du
  split at h1
  ·rename_i e hu; simp
  ·cases h1
 ·cases h
theorem DF (hG : Good P G) {X Y : Operand} {op : BinOp} {x y : SV} {b : Bool} (h : OL (gQ G T) X Y x y = some b) :
  KE P T op (x.av O) (y.av O) = none ∧ qn P T X Y (x.av O) (y.av O) = some b := by
 unfold OL at h
 split at h
 case h_2 => cases h
 rename_i x y
 split at h
 ·split at h
  ·rename_i hc
   simp only [Bool.and_eq_true] at hc
   refine ⟨rfl, ?_⟩
   simp only [SV.av, VV.av, CV.av, KC.val, qn, kB hG hc.1, hc.2, Bool.and_self, if_true]; exact h
  ·cases h
 ·split at h
  ·rename_i hc
   refine ⟨rfl, ?_⟩
   simp only [SV.av, VV.av, CV.av, KC.val, qn, kB hG hc, if_true]; exact h
  ·cases h
 ·split at h
  ·rename_i hc
   refine ⟨rfl, ?_⟩
   simp only [SV.av, VV.av, CV.av, KC.val, qn, kB hG hc, if_true]; exact h
  ·cases h
 ·split at h
  ·rename_i hc
   refine ⟨rfl, ?_⟩
   simp only [SV.av, VV.av, CV.av, KC.val, qn, kB hG hc, if_true, Option.map_none]; exact h
  ·cases h
 ·split at h
  ·rename_i hc
   refine ⟨rfl, ?_⟩
   simp only [SV.av, VV.av, CV.av, KC.val, qn, kB hG hc, if_true, Option.map_none]; exact h
  ·cases h
 ·split at h
  ·rename_i hc
   refine ⟨rfl, ?_⟩
   simp only [SV.av, VV.av, CV.av, KC.val, qn, (mZ hG hc).2, if_true]; exact h
  ·cases h
 ·split at h
  ·rename_i hc
   refine ⟨rfl, ?_⟩
   simp only [SV.av, VV.av, CV.av, KC.val, qn, (mZ hG hc).2, if_true]; exact h
  ·cases h
 ·split at h
  ·rename_i hc
   refine ⟨rfl, ?_⟩
   simp only [SV.av, VV.av, CV.av, KC.val, qn, (mZ hG hc).2, if_true]; exact h
  ·cases h
 ·split at h
  ·rename_i hc
   obtain ⟨h1, rfl, rfl⟩ := hc
   refine ⟨rfl, ?_⟩
   simp only [SV.av, VV.av, CV.av, qn, (mZ hG h1).1, beq_self_eq_true, Nat.zero_mul, Bool.and_self, if_true]; exact h
  ·cases h
 ·cases h
theorem wP {mx : Bool} {l : List SV} {x : KV} (h : Qc mx l = some x) : P8 mx (l.map (SV.av O)) = some x.av := by
 unfold Qc at h
 split at h
 ·rename_i k a k' b
  split at h
  ·rename_i hk
   simp only [Option.some.injEq] at h; subst h
   simp only [List.map_cons, List.map_nil, SV.av, VV.av, CV.av, KV.av, P8, hk, if_true]
   cases mx <;> rfl
  ·cases h
 ·cases h
theorem zm {ts : cf} : ∀ (l : List ts.T) (n : Nat), n < l.length → ((l.flatMap ts.cF).drop (n * ts.len)).take ts.len = ts.cF (l.getD n ts.d)
 | x :: l, 0, _ => by
  simp only [List.flatMap_cons, Nat.zero_mul, List.drop_zero, List.getD, List.getElem?_cons_zero, Option.getD_some]
  rw [List.take_append_of_le_length (by rw [fX]; exact Nat.le_refl _), List.take_of_length_le (by rw [fX]; exact Nat.le_refl _)]
 | x :: l, n + 1, h => by
  have ih := zm l n (by simpa using h)
  simp only [List.flatMap_cons, List.getD, List.getElem?_cons_succ] at ih ⊢
  have e : (ts.cF x ++ List.flatMap ts.cF l).drop ts.len = List.flatMap ts.cF l := List.drop_left' (fX ts x)
  rw [Nat.add_mul, Nat.one_mul, Nat.add_comm, ← List.drop_drop, e]
  exact ih
 | [], n, h => by simp at h
theorem u2 (hG : Good P C.G) {op : Op} (h : sR C s op = some (c, x)) (hc : gy c) :
  iU P (s.st C.N).env (s.st C.N).objs op = some (x.av s.objs) := by
 have hob : (s.st C.N).objs = ai s.objs s.objs := rfl
 unfold sR at h
 split at h
 ·simp only [Option.some.injEq, Prod.mk.injEq] at h; obtain ⟨_, rfl⟩ := h
  simp only [iU, bz]
 ·simp only [Option.some.injEq, Prod.mk.injEq] at h; obtain ⟨_, rfl⟩ := h
  simp only [iU, bz]
 ·
  rename_i T x' k
  split at h
  ·rename_i cs ts fs eq e1 e2
   split at h
   ·rename_i o g n e3
    simp only [Option.some.injEq, Prod.mk.injEq] at h; obtain ⟨_, rfl⟩ := h
    simp only [iU, fO e1, CV.av, (hG T _ e2).2.1 k _ e3, SV.av, VV.av, List.map_drop]
   ·cases h
  ·rename_i n sz i off ts fs eq e1 e2
   split at h
   ·rename_i o g n' e3
    simp only [Option.some.injEq, Prod.mk.injEq] at h; obtain ⟨_, rfl⟩ := h
    simp only [iU, fO e1, CV.av, (hG T _ e2).2.1 k _ e3, SV.av, VV.av]
   ·cases h
  ·cases h
 ·
  rename_i T x' k
  split at h
  ·rename_i cs ts fs eq e1 e2
   have hev : ev (s.st C.N).env x' = .agg (cs.map (CV.av s.objs)) := by rw [← bz, e1]; rfl
   split at h
   ·rename_i o n e3
    split at h
    ·rename_i hle
     simp only [Option.some.injEq, Prod.mk.injEq] at h; obtain ⟨_, rfl⟩ := h
     simp only [iU, hev, (hG T _ e2).2.1 k _ e3, List.length_map, SV.av, VV.av, List.map_take, List.map_drop]
     rw [if_pos hle]
    ·cases h
   ·rename_i o n e3
    cases hx : cs[o]? with
    | none => simp [hx] at h
    | some y =>
     simp only [hx, Option.map_some, Option.some.injEq, Prod.mk.injEq] at h; obtain ⟨_, rfl⟩ := h
     simp only [iU, hev, (hG T _ e2).2.1 k _ e3, List.getElem?_map, hx, Option.map_some, SV.av, VV.av]
   ·cases h
  ·cases h
 ·
  rename_i T x' i
  split at h
  ·rename_i n us l ts b e0 e1 e2
   obtain ⟨ki, hi⟩ := kX e0
   split at h
   ·rename_i hlen
    simp only [Option.some.injEq, Prod.mk.injEq] at h; obtain ⟨rfl, rfl⟩ := h
    have hr := jg hc.1
    have hse : bf P T = some us.len := by rw [hlen]; exact (hG T _ e2).1
    simp only [iU, hi, fO e1, CV.av, KV.av, SV.av, VV.av, List.length_map]
    rw [if_pos ⟨hr.1, hr.2, hse⟩, Of hr.1 hr.2, qv]
   ·cases h
  ·rename_i n m ts b e0 e1 e2
   obtain ⟨ki, hi⟩ := kX e0
   split at h
   ·rename_i us l hl
    split at h
    ·rename_i hlen
     simp only [Option.some.injEq, Prod.mk.injEq] at h; obtain ⟨rfl, rfl⟩ := h
     have hr := jg hc.1
     have hse : bf P T = some us.len := by rw [hlen]; exact (hG T _ e2).1
     simp only [iU, hi, fO e1, CV.av, hl, SV.av, VV.av]
     rw [if_pos ⟨hr.1, hr.2, hse⟩, Nat.zero_add]; rfl
    ·cases h
   ·cases h
  ·rename_i n m sz off len ts b e0 e1 e2
   obtain ⟨ki, hi⟩ := kX e0
   split at h
   ·rename_i hlen
    simp only [Option.some.injEq, Prod.mk.injEq] at h; obtain ⟨rfl, rfl⟩ := h
    have hr := jg hc.1
    have hse : bf P T = some sz := by rw [hlen]; exact (hG T _ e2).1
    simp only [iU, hi, fO e1, CV.av, SV.av, VV.av]
    rw [if_pos ⟨hr.1, hr.2, hse⟩]; rfl
   ·cases h
  ·rename_i n m sz len ts e0 e1 e2
   obtain ⟨ki, hi⟩ := kX e0
   split at h
   ·rename_i hlen
    simp only [Option.some.injEq, Prod.mk.injEq] at h; obtain ⟨rfl, rfl⟩ := h
    have hr := jg hc.1
    simp only [iU, hi, fO e1, CV.av, (hG T _ e2).1, SV.av, VV.av]
    rw [if_pos ⟨hlen, hr.1, hr.2⟩]; rfl
   ·cases h
  ·rename_i n us l len ts e0 e1 e2
   obtain ⟨ki, hi⟩ := kX e0
   split at h
   ·rename_i hlen
    simp only [Option.some.injEq, Prod.mk.injEq] at h; obtain ⟨rfl, rfl⟩ := h
    have hr := jg hc.1
    have hr2 := jg hc.2.1
    simp only [iU, hi, fO e1, CV.av, (hG T _ e2).1, SV.av, VV.av]
    rw [if_pos ⟨hr.1, hr.2⟩, ← hlen, zm l n.toNat (by have := hr2.2; unfold eE at this; omega), qv]
    rfl
   ·cases h
  ·cases h
 ·
  rename_i T x' i
  split at h
  ·rename_i n b e0 e1 e2
   obtain ⟨ki, hi⟩ := kX e0
   simp only [Option.some.injEq, Prod.mk.injEq] at h; obtain ⟨rfl, rfl⟩ := h
   have hr := jg hc.1
   simp only [iU, hi, qk e1, KV.av]
   rw [if_pos ⟨(hG T _ e2).1, hr.1, hr.2⟩]; rfl
  ·cases h
 ·
  rename_i T x'
  split at h
  ·rename_i cs D e1 e2
   cases hx : Ku D.cell (cs.map CV.k) with
   | none => simp [hx] at h
   | some y =>
    simp only [hx, Option.map_some, Option.some.injEq, Prod.mk.injEq] at h; obtain ⟨_, rfl⟩ := h
    have := xz (O := s.objs) hx
    rw [zd] at this
    simp only [iU, fO e1, CV.av, TD.rW (hG T _ e2), this, SV.av]
  ·rename_i n sz i off D e1 e2
   split at h
   ·rename_i c' cs hcs
    cases hx : Ku D.cell cs with
    | none => simp [hx] at h
    | some y =>
     simp only [hx, Option.map_some, Option.some.injEq, Prod.mk.injEq] at h; obtain ⟨rfl, rfl⟩ := h
     simp only [iU, fO e1, CV.av, TD.rW (hG T _ e2), hob, qD hcs hc, Option.bind_some, xz hx, SV.av]
   ·cases h
  ·cases h
 ·
  rename_i x'
  split at h
  ·rename_i cs e1
   simp only [Option.some.injEq, Prod.mk.injEq] at h; obtain ⟨_, rfl⟩ := h
   simp only [iU, fO e1, CV.av, SV.av, VV.av]
  ·rename_i n sz i off e1
   simp only [Option.some.injEq, Prod.mk.injEq] at h; obtain ⟨_, rfl⟩ := h
   simp only [iU, fO e1, CV.av, SV.av, VV.av]
  ·rename_i f e1
   simp only [Option.some.injEq, Prod.mk.injEq] at h; obtain ⟨_, rfl⟩ := h
   simp only [iU, fO e1, CV.av, SV.av, VV.av, KC.val]
  ·rename_i f ns e1
   simp only [Option.some.injEq, Prod.mk.injEq] at h; obtain ⟨_, rfl⟩ := h
   simp only [iU, fO e1, CV.av, SV.av, VV.av, Option.map_some]
  ·rename_i t ns e1
   simp only [Option.some.injEq, Prod.mk.injEq] at h; obtain ⟨_, rfl⟩ := h
   simp only [iU, fO e1, CV.av, SV.av, VV.av, Option.map_none]
  ·cases h
 ·
  rename_i op T x' y' T2
  split at h
  ·rename_i r hb
   obtain ⟨c', v⟩ := r
   simp only [Option.some.injEq, Prod.mk.injEq] at h; obtain ⟨rfl, rfl⟩ := h
   have := DE hG (O := s.objs) hb hc
   rw [bz, bz] at this
   simp only [iU, KF, this]; rfl
  ·split at h
   ·rename_i b hb
    cases hk : SY op b with
    | none => simp [hk] at h
    | some k =>
     simp only [hk, Option.map_some, Option.some.injEq, Prod.mk.injEq] at h; obtain ⟨_, rfl⟩ := h
     obtain ⟨g1, g2⟩ := DF hG (O := s.objs) (op := op) hb
     rw [bz, bz] at g1 g2
     simp only [iU, KF, g1, g2, Option.bind_some, GD hk]; rfl
   ·cases h
 ·
  rename_i op T x'
  split at h
  ·rename_i k e1
   cases hb : M6 op k with
   | none => simp [hb] at h
   | some r =>
    simp only [hb, Option.map_some, Option.some.injEq, Prod.mk.injEq] at h; obtain ⟨_, rfl⟩ := h
    simp only [iU, qk e1, DZ hb]; rfl
  ·cases h
 ·
  rename_i S T x'
  split at h
  ·rename_i k n D k' e0 e1 e2
   have hev : ev (s.st C.N).env x' = .int k n := by rw [← bz, e0]; rfl
   simp only [Option.some.injEq, Prod.mk.injEq] at h; obtain ⟨_, rfl⟩ := h
   simp only [iU, hev, No, TD.Dn (hG S _ e1), if_true, (hG T _ e2).1, Option.map_some]; rfl
  ·rename_i b D e0 e1 e2
   have hev : ev (s.st C.N).env x' = .str b := by rw [← bz, e0]; rfl
   simp only [Option.some.injEq, Prod.mk.injEq] at h; obtain ⟨_, rfl⟩ := h
   simp only [iU, hev, No, TD.Dn (hG S _ e1), (hG T _ e2).1, Bool.and_self, if_true]; rfl
  ·rename_i ts b e1 e2 hn
   split at h
   ·rename_i hts
    cases hv : mF s.objs fw (aq C s x') with
    | none => simp [hv] at h
    | some r =>
     obtain ⟨c', l⟩ := r
     simp only [hv, Option.map_some, Option.some.injEq, Prod.mk.injEq] at h; obtain ⟨rfl, rfl⟩ := h
     have hview := ru hv hc
     rw [bz] at hview
     have hb : mc P S = true := (hG S _ e1).2.2.2.2.2.2 hts
     have key : No P S T (s.st C.N).objs (ev (s.st C.N).env x') = ((eM (s.st C.N).objs 1 (ev (s.st C.N).env x')).bind xg).map .str := by
      cases hx : ev (s.st C.N).env x' with
      | int k n => rw [hx] at hview; simp [eM] at hview
      | str k => rw [hx] at hview; simp [eM] at hview
      | _ => simp only [No, hb, (hG T _ e2).1, Bool.and_self, if_true]
     simp only [iU, key]
     rw [show eM (s.st C.N).objs 1 (ev (s.st C.N).env x') = some (l.map fw.cF) from hview]
     simp only [Option.bind_some, tP, Option.map_some]; rfl
   ·cases h
  ·cases h
 ·
  rename_i T x' lo hi
  cases hb : DV C s T (aq C s x') lo hi with
  | none => simp [hb] at h
  | some r =>
   obtain ⟨c', y⟩ := r
   simp only [hb, Option.map_some, Option.some.injEq, Prod.mk.injEq] at h; obtain ⟨rfl, rfl⟩ := h
   have := DW hG hb hc
   rw [bz] at this
   simp only [iU, this]; rfl
 ·
  rename_i T x' lo hi mx
  cases hb : vr C s T (aq C s x') lo hi mx with
  | none => simp [hb] at h
  | some r =>
   obtain ⟨c', y⟩ := r
   simp only [hb, Option.map_some, Option.some.injEq, Prod.mk.injEq] at h; obtain ⟨rfl, rfl⟩ := h
   have := BE hG hb hc
   rw [bz] at this
   simp only [iU, this]; rfl
 ·
  rename_i t i
  split at h
  ·rename_i l e0
   have hev : ev (s.st C.N).env t = .cI (l.map (VV.av s.objs)) := by rw [← bz, e0]; rfl
   cases hx : l[i]? with
   | none => simp [hx] at h
   | some y =>
    simp only [hx, Option.map_some, Option.some.injEq, Prod.mk.injEq] at h; obtain ⟨_, rfl⟩ := h
    simp only [iU, hev, List.getElem?_map, hx, Option.map_some]; rfl
  ·cases h
 ·
  rename_i T parts
  split at h
  ·rename_i ts fs eq e1
   cases hf : o8 s.objs fs ts.zc (parts.toList.map fun p => (p.1, aq C s p.2)) with
   | none => simp [hf] at h
   | some cs =>
    simp only [hf, Option.map_some, Option.some.injEq, Prod.mk.injEq] at h; obtain ⟨_, rfl⟩ := h
    have := AA hf
    obtain ⟨_, _, hp, hz, _⟩ := hG T _ e1
    simp only [iU, SR, hp, hz]
    have e : (parts.toList.map fun p => (p.1, ev (s.st C.N).env p.2)) = (parts.toList.map fun p => (p.1, aq C s p.2)).map fun p => (p.1, p.2.av s.objs) := by
     rw [List.map_map]
     apply List.map_congr_left
     intro p _
     simp only [Function.comp, bz]
    rw [e, Km ts [] s.objs, this]; rfl
  ·cases h
 ·
  rename_i args argTypes
  split at h
  ·rename_i x' T ha ht
   cases hl : DN s.objs (gQ C.G T) (aq C s x') with
   | none => simp [hl] at h
   | some n =>
    simp only [hl, Option.map_some, Option.some.injEq, Prod.mk.injEq] at h; obtain ⟨_, rfl⟩ := h
    have := DO hG hl
    rw [bz] at this
    simp only [iU, ha, ht, this]; rfl
  ·cases h
 ·
  rename_i f first captured
  split at h
  ·rename_i hf
   cases hm : Ld f (captured.toList.map (aq C s)) with
   | none => simp [hm] at h
   | some y =>
    simp only [hm, Option.map_some, Option.some.injEq, Prod.mk.injEq] at h; obtain ⟨_, rfl⟩ := h
    have := Dg (O := s.objs) hm
    simp only [iU, xN, hf, List.length_nil, if_true]
    rw [List.map_map, show (SV.av s.objs ∘ aq C s) = ev (s.st C.N).env from funext fun o => bz C s o] at this
    exact this
  ·cases h
 ·
  rename_i T x'
  cases hm : Le (gQ C.G T) T (aq C s x') with
  | none => simp [hm] at h
  | some y =>
   simp only [hm, Option.map_some, Option.some.injEq, Prod.mk.injEq] at h; obtain ⟨_, rfl⟩ := h
   have := Dh hG (O := s.objs) hm
   rw [bz] at this
   simp only [iU, xN, this]; rfl
 ·
  rename_i x' T' T ok
  cases hm : M7 (gQ C.G T) T ok (aq C s x') with
  | none => simp [hm] at h
  | some y =>
   simp only [hm, Option.map_some, Option.some.injEq, Prod.mk.injEq] at h; obtain ⟨_, rfl⟩ := h
   have := D3 hG (O := s.objs) hm
   rw [bz] at this
   simp only [iU, xN, this]
 ·
  rename_i args tys
  cases hm : Qc false (args.toList.map (aq C s)) with
  | none => simp [hm] at h
  | some y =>
   simp only [hm, Option.map_some, Option.some.injEq, Prod.mk.injEq] at h; obtain ⟨_, rfl⟩ := h
   have := wP (O := s.objs) hm
   rw [List.map_map, show (SV.av s.objs ∘ aq C s) = ev (s.st C.N).env from funext fun o => bz C s o] at this
   simp only [iU, xN, this]; rfl
 ·
  rename_i args tys
  cases hm : Qc true (args.toList.map (aq C s)) with
  | none => simp [hm] at h
  | some y =>
   simp only [hm, Option.map_some, Option.some.injEq, Prod.mk.injEq] at h; obtain ⟨_, rfl⟩ := h
   have := wP (O := s.objs) hm
   rw [List.map_map, show (SV.av s.objs ∘ aq C s) = ev (s.st C.N).env from funext fun o => bz C s o] at this
   simp only [iU, xN, this]; rfl
 ·
  rename_i args tys
  split at h
  ·rename_i x' T ha ht
   split at h
   ·rename_i e0
    have hev : ev (s.st C.N).env x' = .gE := by rw [← bz, e0]; rfl
    split at h
    ·rename_i hs
     simp only [Option.some.injEq, Prod.mk.injEq] at h; obtain ⟨_, rfl⟩ := h
     have hsl : (bf P T).isSome = true := by
      unfold ff at hs
      split at hs
      ·rename_i ts b e; rw [(hG T _ e).1]; rfl
      ·cases hs
     simp only [iU, xN, ha, ht, hev, hsl, if_true]; rfl
    ·cases h
   ·cases h
  ·cases h
 ·cases h
end Go.Abs
namespace Go.Abs
open Go.RowKit
def rU (x y : AV) : Prop := y = .any ∨ x = y ∨ (x = .gE ∧ ∃ sz, y = .sl sz [])
theorem rU.bh (x : AV) : rU x x := .inr (.inl rfl)
theorem rU.any (x : AV) : rU x .any := .inl rfl
theorem uu {w : World} {D : Names} {x y : AV} {v : Value} (h : rU x y) (hv : Cell w D x v) : Cell w D y v := by
 rcases h with rfl | rfl | ⟨rfl, sz, rfl⟩
 ·exact iJ _ _ _
 ·exact hv
 ·simp only [Cell] at hv ⊢
  cases hv
  exact .slnil sz none 0
theorem Ey {w : World} {M : Nat → Prop} {x y : AV} {v : Value} (h : rU x y) (hv : cU w M x v) : cU w M y v := by
 rcases h with rfl | rfl | ⟨rfl, sz, rfl⟩
 ·exact .any v
 ·exact hv
 ·cases hv
  exact .slnil sz none 0
def qc (l m : List AV) : Prop := l.length = m.length ∧ ∀ (i : Nat) (y : AV), m[i]? = some y → ∃ x, l[i]? = some x ∧ rU x y
theorem qc.bh (l : List AV) : qc l l := ⟨rfl, fun _ y h => ⟨y, h, rU.bh y⟩⟩
theorem Ez {α : Type} {f g : α → AV} (l : List α) (h : ∀ x ∈ l, rU (f x) (g x)) : qc (l.map f) (l.map g) := by
 refine ⟨by simp, fun i y hy => ?_⟩
 rw [List.getElem?_map] at hy
 obtain ⟨x, hx, rfl⟩ := Option.map_eq_some_iff.1 hy
 exact ⟨f x, by rw [List.getElem?_map, hx]; rfl, h x (List.mem_of_getElem? hx)⟩
theorem qc.append {a b c d : List AV} (h : qc a b) (k : qc c d) : qc (a ++ c) (b ++ d) := by
 refine ⟨by simp [h.1, k.1], fun i y hy => ?_⟩
 by_cases hi : i < b.length
 ·rw [List.getElem?_append_left hi] at hy
  rw [List.getElem?_append_left (by rw [h.1]; exact hi)]
  exact h.2 i y hy
 ·rw [List.getElem?_append_right (by omega)] at hy
  rw [List.getElem?_append_right (by rw [h.1]; omega), h.1]
  exact k.2 _ y hy
def Kw : AV → AV → Prop
 | .agg l, y => y = .any ∨ ∃ m, y = .agg m ∧ qc l m
 | x, y => rU x y
def VA (l m : List AV) : Prop := l.length = m.length ∧ ∀ (i : Nat) (y : AV), m[i]? = some y → ∃ x, l[i]? = some x ∧ Kw x y
def wv : AV → AV → Prop
 | .cI l, y => y = .any ∨ ∃ m, y = .cI m ∧ VA l m
 | x, y => Kw x y
theorem Kw.bh (x : AV) : Kw x x := by
 cases x with
 | agg l => exact .inr ⟨l, rfl, qc.bh l⟩
 | _ => exact rU.bh _
theorem wv.bh (x : AV) : wv x x := by
 cases x with
 | cI l => exact .inr ⟨l, rfl, rfl, fun _ y h => ⟨y, h, Kw.bh y⟩⟩
 | agg l => exact Kw.bh (.agg l)
 | _ => exact rU.bh _
theorem wv.any (x : AV) : wv x .any := by
 cases x with
 | cI l => exact .inl rfl
 | agg l => exact .inl rfl
 | _ => exact .inl rfl
theorem K5 {w : World} {D : Names} {x y : AV} {v : Value} (h : rU x y) (hx : ∀ l, x ≠ .agg l) (hv : cM w D x v) : cM w D y v := by
 have hv' : Cell w D x v := by
  cases x with
  | agg l => exact absurd rfl (hx l)
  | _ => exact hv
 have := uu h hv'
 cases y with
 | agg l =>
  rcases h with h | h | ⟨_, sz, h⟩
  ·cases h
  ·exact absurd h (hx l)
  ·cases h
 | _ => exact this
theorem EC {w : World} {D : Names} {x y : AV} {v : Value} (h : Kw x y) (hv : cM w D x v) : cM w D y v := by
 cases x with
 | agg l =>
  rcases h with rfl | ⟨m, rfl, hl, hm⟩
  ·simp [cM, Cell]; exact .any v
  ·obtain ⟨vs, h1, h2, h3⟩ := hv
   refine ⟨vs, h1, by rw [h2, hl], fun i y hy => ?_⟩
   obtain ⟨x, hx, hxy⟩ := hm i y hy
   exact ⟨uu hxy (h3 i x hx).1, (h3 i x hx).2⟩
 | _ => exact K5 h (by simp) hv
theorem zD {w : World} {D : Names} {x y : AV} {v : Value} (h : wv x y) (hv : Slot w D x v) : Slot w D y v := by
 have key : ∀ z, (∀ l, z ≠ .cI l) → wv z y → Slot w D z v → Slot w D y v := by
  intro z hz h hv
  have h : Kw z y := by
   cases z with
   | cI l => exact absurd rfl (hz l)
   | _ => exact h
  have hv : cM w D z v := by
   cases z with
   | cI l => exact absurd rfl (hz l)
   | _ => exact hv
  have h2 := EC h hv
  cases y with
  | cI l =>
   exfalso
   cases z with
   | cI l => exact hz l rfl
   | agg l => rcases h with h | ⟨m, h, _⟩ <;> cases h
   | _ => rcases h with h | h | ⟨_, _, h⟩ <;> cases h
  | _ => exact h2
 cases x with
 | cI l =>
  rcases h with rfl | ⟨m, rfl, hl, hm⟩
  ·exact jn _ _ _
  ·obtain ⟨vs, h1, h2, h3⟩ := hv
   refine ⟨vs, h1, by rw [h2, hl], fun i y hy => ?_⟩
   obtain ⟨x, hx, hxy⟩ := hm i y hy
   exact EC hxy (h3 i x hx)
 | _ => exact key _ (by simp) h hv
def zC (l m : List AV) : Prop := l.length = m.length ∧ ∀ (i : Nat) (y : AV), m[i]? = some y → ∃ x, l[i]? = some x ∧ wv x y
theorem zC.bh (l : List AV) : zC l l := ⟨rfl, fun _ y h => ⟨y, h, wv.bh y⟩⟩
def Kv (l m : List (List AV)) : Prop := l.length = m.length ∧ ∀ (j : Nat) (cs : List AV), m[j]? = some cs → ∃ bs, l[j]? = some bs ∧ qc bs cs
def GV : Obj → Obj → Prop
 | .box cs, .box ds => qc cs ds
 | .arr sz l, .arr sz' m => sz = sz' ∧ Kv l m
 | .mp kk k l, .mp kk' k' m => kk = kk' ∧ k = k' ∧ l = m
 | _, _ => False
theorem Kv.bh (l : List (List AV)) : Kv l l := ⟨rfl, fun _ y h => ⟨y, h, qc.bh y⟩⟩
theorem GV.bh : ∀ o : Obj, GV o o
 | .box cs => qc.bh cs
 | .arr _ l => ⟨rfl, Kv.bh l⟩
 | .mp _ _ _ => ⟨rfl, rfl, rfl⟩
def lB : List (Nat × Obj) → List (Nat × Obj) → Prop
 | [], [] => True
 | (n, o) :: r, (m, o') :: r' => n = m ∧ GV o o' ∧ lB r r'
 | _, _ => False
theorem lB.bh : ∀ l, lB l l
 | [] => trivial
 | (_, o) :: r => ⟨rfl, GV.bh o, lB.bh r⟩
theorem fG {n : Nat} : ∀ {l m : List (Nat × Obj)}, lB l m → (look n l).isSome = (look n m).isSome ∧ ∀ o', look n m = some o' → ∃ o, look n l = some o ∧ GV o o'
 | [], [], _ => by simp [look]
 | (k, o) :: r, (j, o') :: r', h => by
  obtain ⟨rfl, h1, h2⟩ := h
  have ih := fG (n := n) h2
  by_cases hk : k = n
  ·subst hk; simp only [look, if_true]; exact ⟨rfl, fun p hp => ⟨o, rfl, by cases hp; exact h1⟩⟩
  ·simp only [look, hk, if_false]; exact ih
 | [], _ :: _, h => h.elim
 | _ :: _, [], h => h.elim
theorem Da {n : Nat} {l m : List (Nat × Obj)} (h : lB l m) {o : Obj} (ho : look n l = some o) : ∃ o', look n m = some o' ∧ GV o o' := by
 have h1 := (fG (n := n) h).1
 rw [ho] at h1
 obtain ⟨o', ho'⟩ := Option.isSome_iff_exists.1 h1.symm
 obtain ⟨o2, h2, h3⟩ := (fG (n := n) h).2 o' ho'
 rw [ho] at h2; cases h2
 exact ⟨o', ho', h3⟩
theorem EA {w : World} {D : Names} {o o' : Obj} {d : Option Nat} (h : GV o o') (hr : dm w D o d) : dm w D o' d := by
 cases o with
 | box cs =>
  cases o' with
  | arr _ _ => exact h.elim
  | mp _ _ _ => exact h.elim
  | box ds =>
   cases d with
   | none => exact hr.elim
   | some b =>
    obtain ⟨vs, T, h1, h2, h3⟩ := hr
    refine ⟨vs, T, h1, by rw [h2, h.1], fun i y hy => ?_⟩
    obtain ⟨x, hx, hxy⟩ := h.2 i y hy
    exact ⟨uu hxy (h3 i x hx).1, (h3 i x hx).2⟩
 | arr sz l =>
  cases o' with
  | box _ => exact h.elim
  | mp _ _ _ => exact h.elim
  | arr sz' m =>
   obtain ⟨rfl, hl, hm⟩ := h
   cases d with
   | none =>
    simp only [dm] at hr ⊢
    subst hr
    cases m with
    | nil => rfl
    | cons a m => simp at hl
   | some b =>
    obtain ⟨vs, T, fz, h1, h2, h3, h4, h5, h6⟩ := hr
    refine ⟨vs, T, fz, h1, h2, by rw [← hl]; exact h3, by rw [← hl]; exact h4, fun j cs hj => ?_, fun j cs i y hj hy => ?_⟩
    ·obtain ⟨bs, hb, hbl, _⟩ := hm j cs hj
     rw [← hbl]; exact h5 j bs hb
    ·obtain ⟨bs, hb, _, hbl⟩ := hm j cs hj
     obtain ⟨x, hx, hxy⟩ := hbl i y hy
     exact ⟨Ey hxy (h6 j bs i x hb hx).1, (h6 j bs i x hb hx).2⟩
 | mp kk k l =>
  cases o' with
  | box _ => exact h.elim
  | arr _ _ => exact h.elim
  | mp kk' k' m =>
   obtain ⟨rfl, rfl, rfl⟩ := h
   exact hr
def wV (s s' : St) : Prop := ∀ w0 M0 D0 a w, Sat w0 M0 D0 s a w → Sat w0 M0 D0 s' a w
theorem wV.bh (s : St) : wV s s := fun _ _ _ _ _ h => h
theorem wV.trans {a b c : St} (h : wV a b) (k : wV b c) : wV a c := fun w0 M0 D0 x w hs => k w0 M0 D0 x w (h w0 M0 D0 x w hs)
theorem mg {s s' : St} (he : zC s.env s'.env) (ho : lB s.objs s'.objs) : wV s s' := by
 rintro w0 M0 D0 a w ⟨hd, D, hm, hE, hp⟩
 refine ⟨hd, D, ⟨fun n hn => ?_, fun n hn => ?_, fun n o' d ho' hD => ?_, hm.inj, hm.lt, hm.own, hm.grow, hm.os, hm.tape, hm.output, hm.bq⟩, ⟨by rw [hE.1, he.1], fun i y hy => ?_⟩, fun n d hn => ?_⟩
 ·rw [hm.lQ n hn, (fG ho).1]
 ·exact hm.small n (by rw [(fG ho).1]; exact hn)
 ·obtain ⟨o, h1, h2⟩ := (fG ho).2 o' ho'
  exact EA h2 (hm.rep n o d h1 hD)
 ·obtain ⟨x, hx, hxy⟩ := he.2 i y hy
  exact zD hxy (hE.2 i x hx)
 ·obtain ⟨h1, h2⟩ := hp n d hn
  refine ⟨h1, fun hK => ?_⟩
  obtain ⟨cs, hcs⟩ := h2 hK
  obtain ⟨o', ho', hle⟩ := Da ho hcs
  cases o' with
  | box ds => exact ⟨ds, ho'⟩
  | arr _ _ => exact hle.elim
  | mp _ _ _ => exact hle.elim
theorem IQ {φ : AV → AV} {κ : CV → CV} {O O' : ah} (h : ∀ x : CV, rU (φ (x.av O)) ((κ x).av O')) (x : VV) : Kw (hH φ (x.av O)) ((eG κ x).av O') := by
 cases x with
 | c x =>
  have e : hH φ (x.av O) = φ (x.av O) := by
   cases hx : x.av O with
   | agg l => exact absurd hx (dx.1 l)
   | _ => rfl
  simp only [VV.av, eG, e]
  cases hy : φ (x.av O) with
  | agg l =>
   have := h x
   rw [hy] at this
   rcases this with h1 | h1 | ⟨h1, _⟩
   ·exact .inl h1
   ·exact absurd h1.symm (dx.1 l)
   ·cases h1
  | _ => rw [← hy]; simpa only [hy, Kw] using h x
 | g l =>
  simp only [VV.av, eG, hH]
  refine .inr ⟨_, rfl, ?_⟩
  rw [List.map_map, List.map_map]
  exact Ez l fun x _ => h x
theorem On {φ : AV → AV} {κ : CV → CV} {O O' : ah} (h : ∀ x : CV, rU (φ (x.av O)) ((κ x).av O')) (x : SV) : wv (fB φ (x.av O)) ((dk κ x).av O') := by
 cases x with
 | v x =>
  have e : fB φ (x.av O) = hH φ (x.av O) := by
   cases x with
   | c x =>
    cases hx : x.av O with
    | cI l => exact absurd hx (dx.2 l)
    | _ => simp only [VV.av, hx, fB]
   | g l => rfl
  simp only [SV.av, dk, e]
  have hv := IQ h x
  cases hy : hH φ (x.av O) with
  | cI l =>
   rw [hy] at hv
   rcases hv with h1 | h1 | ⟨h1, _⟩
   ·exact .inl h1
   ·exfalso
    cases x with
    | c x => exact dx.2 l h1.symm
    | g l => simp [VV.av, hH] at hy
   ·cases h1
  | _ => rw [hy] at hv; exact hv
 | cI l =>
  simp only [SV.av, dk, fB]
  refine .inr ⟨_, rfl, by simp, fun i y hy => ?_⟩
  rw [List.map_map, List.getElem?_map] at hy
  obtain ⟨x, hx, rfl⟩ := Option.map_eq_some_iff.1 hy
  refine ⟨_, ?_, IQ h x⟩
  rw [List.map_map, List.getElem?_map, hx]; rfl
theorem dw (κ : CV → CV) (hk : κ .any = .any) : ∀ (E : List (Nat × SV)) (i : Nat), cr (cD κ E) i = dk κ (cr E i)
 | [], i => by simp [cD, cr, SV.any, dk, eG, hk]
 | (n, x) :: r, i => by
  have ih := dw κ hk r i
  by_cases h : n = i <;> simp [cD, cr, h, ih]
theorem xA {φ : AV → AV} {κ : CV → CV} {O O' : ah} (hk : κ .any = .any) (h : ∀ x : CV, rU (φ (x.av O)) ((κ x).av O')) (N : Nat) (E : List (Nat × SV)) :
  zC ((SS.st N ⟨E, O⟩).env.map (fB φ)) (SS.st N ⟨cD κ E, O'⟩).env := by
 refine ⟨by simp [SS.st], fun i y hy => ?_⟩
 simp only [SS.st, List.getElem?_map] at hy ⊢
 obtain ⟨j, hj, rfl⟩ := Option.map_eq_some_iff.1 hy
 refine ⟨_, by rw [hj]; rfl, ?_⟩
 rw [dw κ hk]
 exact On h _
theorem kC {φ : AV → AV} {κ : CV → CV} {O O' : ah} (h : ∀ x : CV, rU (φ (x.av O)) ((κ x).av O')) : ∀ l : ah, lB (iu φ (ai O l)) (ai O' (az κ l))
 | [] => trivial
 | (n, .box cs) :: r => by
  refine ⟨rfl, ?_, kC h r⟩
  simp only [SO.av, GV]
  rw [List.map_map, List.map_map]
  exact Ez cs fun x _ => h x
 | (n, .arr ts l) :: r => ⟨rfl, GV.bh _, kC h r⟩
 | (n, .mp _ _ _) :: r => ⟨rfl, GV.bh _, kC h r⟩
theorem jD (O : ah) (n : Nat) : ∀ l : ah, ai O (du n l) = drop n (ai O l)
 | [] => rfl
 | (m, o) :: r => by
  have ih := jD O n r
  by_cases h : m = n <;> simp [du, ai, drop, h, ih]
theorem jj (O : ah) (n : Nat) (o : SO) : ∀ l : ah, ai O (c8 n o l) = js n (o.av O) (ai O l)
 | [] => rfl
 | (m, p) :: r => by
  have ih := jj O n o r
  by_cases h : m = n <;> simp [c8, ai, js, h, ih]
theorem dX {n m : Nat} (h : n ≠ m) : ∀ l : ah, ad m (du n l) = ad m l
 | [] => rfl
 | (k, o) :: r => by
  have ih := dX h r
  by_cases hk : k = n
  ·subst hk; simp [du, ad, h, ih]
  ·by_cases hm : k = m
   ·subst hm; simp [du, ad, hk]
   ·simp [du, ad, hk, hm, ih]
theorem lC (n : Nat) : ∀ l : ah, ad n (du n l) = none
 | [] => rfl
 | (k, o) :: r => by
  have ih := lC n r
  by_cases hk : k = n
  ·simp [du, hk, ih]
  ·simp [du, ad, hk, ih]
def gT (κ : CV → CV) : SO → SO
 | .box cs => .box (cs.map κ)
 | .arr ts l => .arr ts l
 | .mp kk k l => .mp kk k l
theorem cZ (κ : CV → CV) (n : Nat) : ∀ l : ah, ad n (az κ l) = (ad n l).map (gT κ)
 | [] => rfl
 | (m, .box cs) :: r => by
  have ih := cZ κ n r
  by_cases h : m = n <;> simp [az, ad, h, gT, ih]
 | (m, .arr ts l) :: r => by
  have ih := cZ κ n r
  by_cases h : m = n <;> simp [az, ad, h, gT, ih]
 | (m, .mp kk k l) :: r => by
  have ih := cZ κ n r
  by_cases h : m = n <;> simp [az, ad, h, gT, ih]
theorem cu {n m : Nat} (o : SO) (h : n ≠ m) : ∀ l : ah, ad m (c8 n o l) = ad m l
 | [] => rfl
 | (k, p) :: r => by
  have ih := cu o h r
  by_cases hk : k = n
  ·subst hk; simp [c8, ad, h, ih]
  ·by_cases hm : k = m
   ·subst hm; simp [c8, ad, hk]
   ·simp [c8, ad, hk, hm, ih]
theorem fH {n : Nat} (o : SO) : ∀ {l : ah}, (ad n l).isSome = true → ad n (c8 n o l) = some o
 | [], h => by simp [ad] at h
 | (k, p) :: r, h => by
  by_cases hk : k = n
  ·simp [c8, ad, hk]
  ·simp only [ad, hk, if_false] at h
   simp [c8, ad, hk, fH o h]
theorem rQ {O O' : ah} {x : CV} (h : ∀ n, x = .own n → (match ad n O with | some (.arr ts l) => some (ts.len, l.length) | _ => none) = (match ad n O' with | some (.arr ts l) => some (ts.len, l.length) | _ => none)) : x.av O = x.av O' := by
 cases x with
 | own n =>
  have := h n rfl
  simp only [CV.av]
  revert this
  cases ad n O with
  | none =>
   cases ad n O' with
   | none => intro _; rfl
   | some o' => cases o' <;> simp
  | some o =>
   cases o with
   | box _ =>
    cases ad n O' with
    | none => intro _; rfl
    | some o' => cases o' <;> simp
   | mp _ _ _ =>
    cases ad n O' with
    | none => intro _; rfl
    | some o' => cases o' <;> simp
   | arr ts l =>
    cases ad n O' with
    | none => simp
    | some o' =>
     cases o' with
     | box _ => simp
     | mp _ _ _ => simp
     | arr ts' l' => simp only [Option.some.injEq, Prod.mk.injEq]; rintro ⟨h1, h2⟩; rw [h1, h2]
 | _ => rfl
theorem re (l : List AV) : l.map (fB id) = l := by
 have : fB id = id := by
  funext x
  cases x with
  | cI l =>
   have hv : hH id = id := by
    funext x
    cases x with
    | agg l => simp [hH]
    | _ => rfl
   simp [fB, hv]
  | agg l => simp [fB, hH]
  | _ => rfl
 rw [this, List.map_id]
theorem oU : ∀ l : List (Nat × Obj), iu id l = l
 | [] => rfl
 | (n, .box cs) :: r => by simp [iu, oU r]
 | (n, .arr sz l) :: r => by simp [iu, oU r]
 | (n, .mp _ _ _) :: r => by simp [iu, oU r]
theorem CJ {N d : Nat} {s s' : SS} (h : cR d s = some s') : wV (s.st N) (s'.st N) ∧ ad d s'.objs = none := by
 unfold cR at h
 split at h
 ·rename_i hn
  simp only [Option.some.injEq] at h; subst h
  have key : ∀ x : CV, rU (id (x.av s.objs)) ((aw d x).av (az (aw d) s.objs)) := by
   intro x
   cases x with
   | own m =>
    simp only [aw]
    split
    ·exact .any _
    ·simp only [CV.av, cZ, id]
     cases ad m s.objs with
     | none => exact .bh _
     | some o => cases o <;> exact .bh _
   | cw m sz off len => simp only [aw]; split <;> first | exact .any _ | exact .bh _
   | ref m sz i off => simp only [aw]; split <;> first | exact .any _ | exact .bh _
   | cm f ns => simp only [aw]; split <;> first | exact .any _ | exact .bh _
   | _ => exact .bh _
  refine ⟨mg ?_ ?_, by simp [cZ, hn]⟩
  ·have := xA (φ := id) (κ := aw d) (by rfl) key N s.env
   rw [re] at this
   exact this
  ·have := kC (φ := id) (κ := aw d) key s.objs
   rw [oU] at this
   exact this
 ·cases h
theorem Gl {ns : List (Nat × Nat)} {n : Nat} : ((ns.map (·.1)).contains n = true) = (n ∈ ns.map (·.1)) := by simp
theorem N6 {n : Nat} {ts : cf} {l : List ts.T} {O : ah} (h : ad n O = some (.arr ts l)) (x : CV) :
  BQ n ts.len (l.map ts.cF) (x.av O) = (jP n ts l x).av (az (jP n ts l) (du n O)) := by
 cases x with
 | own m =>
  simp only [jP]
  split
  ·rename_i e; subst e
   simp only [CV.av, h, BQ, if_true, List.length_map, Nat.zero_add]
   rw [if_pos ⟨trivial, Nat.le_refl _⟩]
   simp only [List.drop_zero, KV.av]
   rw [List.take_of_length_le (by simp)]
  ·rename_i hne
   simp only [CV.av, cZ, dX (Ne.symm hne)]
   cases ad m O with
   | none => rfl
   | some o =>
    cases o with
    | box _ => rfl
    | mp _ _ _ => rfl
    | arr us l' => simp [gT, BQ, hne]
 | cw m sz off len =>
  simp only [jP]
  split
  ·rename_i e; subst e
   simp only [CV.av, BQ, if_true, List.length_map]
   split <;> simp [*]
  ·rename_i hne; simp [CV.av, BQ, hne]
 | ref m sz i off =>
  simp only [jP]
  split
  ·rename_i e; subst e; simp [CV.av, BQ]
  ·rename_i hne; simp [CV.av, BQ, hne]
 | cm f ns =>
  simp only [jP, CV.av, BQ, Gl]
  split <;> rfl
 | k v => cases v <;> rfl
 | raw a => cases a <;> rfl
 | _ => rfl
theorem Lc {φ : AV → AV} {κ : CV → CV} {O O' : ah} (h : ∀ x : CV, φ (x.av O) = (κ x).av O') (x : SV) : fB φ (x.av O) = (dk κ x).av O' := by
 have hv : ∀ x : VV, hH φ (x.av O) = (eG κ x).av O' := by
  intro x
  cases x with
  | c x =>
   simp only [VV.av, eG, ← h x]
   cases hx : x.av O with
   | agg l => exact absurd hx (dx.1 l)
   | _ => rfl
  | g l =>
   simp only [VV.av, eG, hH, List.map_map]
   congr 1
   apply List.map_congr_left
   intro x _; exact h x
 cases x with
 | v x =>
  simp only [SV.av, dk, ← hv x]
  cases x with
  | c x =>
   cases hx : x.av O with
   | cI l => exact absurd hx (dx.2 l)
   | _ => simp only [VV.av, hx, fB]
  | g l => rfl
 | cI l =>
  simp only [SV.av, dk, fB, List.map_map]
  congr 1
  apply List.map_congr_left
  intro x _; exact hv x
theorem CI {N n : Nat} {s s' : SS} (h : db n s = some s') : freeze n (s.st N).env (s.st N).objs = some ((s'.st N).env, (s'.st N).objs) := by
 unfold db at h
 split at h
 ·rename_i ts l hl
  simp only [Option.some.injEq] at h; subst h
  have hlk : look n (s.st N).objs = some (.arr ts.len (l.map ts.cF)) := by
   show look n (ai s.objs s.objs) = _
   rw [bk, hl]; rfl
  simp only [freeze, hlk, Option.some.injEq, Prod.mk.injEq]
  have key := N6 hl
  constructor
  ·simp only [SS.st, List.map_map]
   apply List.map_congr_left
   intro i _
   simp only [Function.comp]
   rw [dw _ (by rfl)]
   exact Lc key _
  ·show iu _ (drop n (ai s.objs s.objs)) = ai _ _
   rw [← jD]
   generalize du n s.objs = O at key ⊢
   generalize hO' : az (jP n ts l) O = O' at key
   have : ∀ l' : ah, iu (BQ n ts.len (l.map ts.cF)) (ai s.objs l') = ai O' (az (jP n ts l) l') := by
    intro l'
    induction l' with
    | nil => rfl
    | cons p r ih =>
     obtain ⟨m, o⟩ := p
     cases o with
     | box cs =>
      simp only [ai, SO.av, iu, az, ih, List.map_map]
      congr 2
      congr 1
      apply List.map_congr_left
      intro x _; exact key x
     | arr us l'' => simp only [ai, SO.av, iu, az, ih]
     | mp kk k l'' => simp only [ai, SO.av, iu, az, ih]
   rw [this, hO']
 ·cases h
theorem mW {O : ah} : ∀ {l : List CV}, cg l = none → bm (l.map (CV.av O)) = none
 | [], _ => rfl
 | x :: r, h => by
  cases x with
  | own n => simp [cg] at h
  | cw n sz off len => simp [cg] at h
  | k v =>
   simp only [cg] at h
   have := mW (O := O) h
   cases v <;> simpa [CV.av, KV.av, bm] using this
  | raw a =>
   simp only [cg] at h
   have := mW (O := O) h
   cases a <;> simpa [CV.av, bm] using this
  | _ =>
   simp only [cg] at h
   have := mW (O := O) h
   simpa [CV.av, bm] using this
theorem y9 {O : ah} (x : SV) : bm (gA (x.av O)) = bm ((bw x).map (CV.av O)) := by
 cases x with
 | v x =>
  cases x with
  | c x =>
   simp only [SV.av, VV.av, bw, List.map_cons, List.map_nil]
   cases hx : x.av O with
   | agg l => exact absurd hx (dx.1 l)
   | _ => rfl
  | g l => rfl
 | cI l => rfl
end Go.Abs
namespace Go.Abs
open Go.RowKit
variable {O : ah} {s : SS} {xs : List Operand} {d : Nat}
def dr (s s' : SS) : Prop := ∀ t b, cr s.env t = SV.bool b → cr s'.env t = SV.bool b
theorem dr.bh (s : SS) : dr s s := fun _ _ h => h
theorem dr.trans {a b c : SS} (h : dr a b) (k : dr b c) : dr a c := fun t x hx => k t x (h t x hx)
theorem lx {κ : CV → CV} (hk : κ .any = .any) (h : ∀ v, κ (.k v) = .k v) : dr s ⟨cD κ s.env, O⟩ := fun t b hb => by
 show cr (cD κ s.env) t = _
 rw [dw κ hk, hb]
 simp [SV.bool, SV.kv, dk, eG, h]
theorem ub {N n : Nat} {s s' : SS} (h : db n s = some s') : wV (s.st N) (s'.st N) ∧ dr s s' := by
 refine ⟨?_, ?_⟩
 ·rintro w0 M0 D0 a w ⟨hd, D, hm, hE, hp⟩
  obtain ⟨D', h1, h2, h3⟩ := oM hm hE (CI (N := N) h)
  exact ⟨hd, D', h1, h2, h3 D0 hp⟩
 ·unfold db at h
  split at h
  ·simp only [Option.some.injEq] at h; subst h
   exact lx rfl fun v => rfl
  ·cases h
theorem rz {C : eN} : ∀ {f : Nat} {xs : List Operand} {s s' : SS}, dy C f xs s = some s' → wV (s.st C.N) (s'.st C.N) ∧ dr s s'
 | 0, xs, s, s', h => by simp only [dy, Option.some.injEq] at h; subst h; exact ⟨.bh _, .bh _⟩
 | f + 1, xs, s, s', h => by
  simp only [dy] at h
  split at h
  ·simp only [Option.some.injEq] at h; subst h; exact ⟨.bh _, .bh _⟩
  ·split at h
   ·rename_i r hr
    obtain ⟨h1, h2⟩ := ub (N := C.N) hr
    obtain ⟨h3, h4⟩ := rz h
    exact ⟨h1.trans h3, h2.trans h4⟩
   ·cases h
theorem lE {C : eN} (h : cg (xs.flatMap fun o => bw (aq C s o)) = none) : bm (xs.flatMap fun o => gA (ev (s.st C.N).env o)) = none := by
 have app : ∀ {a b : List AV}, bm a = none → bm b = none → bm (a ++ b) = none := by
  intro a b ha hb
  induction a with
  | nil => exact hb
  | cons x a ih => cases x <;> simp only [bm, reduceCtorEq] at ha <;> simp only [List.cons_append, bm] <;> exact ih ha
 have app2 : ∀ {a b : List CV}, cg (a ++ b) = none → cg a = none ∧ cg b = none := by
  intro a b hab
  induction a with
  | nil => exact ⟨rfl, hab⟩
  | cons x a ih => cases x <;> simp only [List.cons_append, cg, reduceCtorEq] at hab <;> simp only [cg] <;> exact ih hab
 induction xs with
 | nil => rfl
 | cons x xs ih =>
  simp only [List.flatMap_cons] at h ⊢
  obtain ⟨h1, h2⟩ := app2 h
  refine app ?_ (ih h2)
  rw [← bz, y9]
  exact mW h1
theorem v8 {C : eN} {s s' : SS} (h : ie C xs s = some s') : wV (s.st C.N) (s'.st C.N) ∧ dr s s' ∧ cg (xs.flatMap fun o => bw (aq C s' o)) = none := by
 unfold ie at h
 split at h
 ·rename_i s1 h1
  split at h
  ·rename_i hn
   simp only [Option.some.injEq] at h; subst h
   obtain ⟨h2, h3⟩ := rz h1
   exact ⟨h2, h3, hn⟩
  ·cases h
 ·cases h
def tA (d : Nat) (s : SS) : Prop := ad d s.objs = none ∧ ∃ E O, s = ⟨cD (aw d) E, az (aw d) O⟩
theorem gl {N d : Nat} {s s' : SS} (h : cR d s = some s') : wV (s.st N) (s'.st N) ∧ dr s s' ∧ tA d s' := by
 obtain ⟨h1, h2⟩ := CJ (N := N) h
 refine ⟨h1, ?_, h2, ?_⟩
 ·unfold cR at h
  split at h
  ·simp only [Option.some.injEq] at h; subst h
   exact lx rfl fun v => rfl
  ·cases h
 ·unfold cR at h
  split at h
  ·simp only [Option.some.injEq] at h; exact ⟨_, _, h.symm⟩
  ·cases h
theorem wF {C : eN} {s s' : SS} (h : jF C d xs s = some s') : wV (s.st C.N) (s'.st C.N) ∧ dr s s' ∧ tA d s' ∧ cg (xs.flatMap fun o => bw (aq C s' o)) = none := by
 unfold jF at h
 split at h
 ·rename_i s1 h1
  split at h
  ·rename_i s2 h2
   split at h
   ·rename_i hn
    simp only [Option.some.injEq] at h; subst h
    obtain ⟨a1, a2, _⟩ := v8 h1
    obtain ⟨b1, b2, b3⟩ := gl (N := C.N) h2
    exact ⟨a1.trans b1, a2.trans b2, b3, hn⟩
   ·cases h
  ·cases h
 ·cases h
theorem uq {o : SO} (x : CV) : (aw d x).av ((d, o) :: O) = (aw d x).av O := by
 refine rQ fun n hn => ?_
 have : d ≠ n := by
  rintro rfl
  cases x <;> simp only [aw] at hn <;> (try (split at hn <;> cases hn)) <;> (try cases hn)
  contradiction
 simp only [ad, this, if_false]
theorem J1 {κ : CV → CV} {O O' : ah} (h : ∀ x, (κ x).av O = (κ x).av O') (x : SV) : (dk κ x).av O = (dk κ x).av O' := by
 have hv : ∀ x : VV, (eG κ x).av O = (eG κ x).av O' := by
  intro x
  cases x with
  | c x => exact h x
  | g l =>
   simp only [eG, VV.av, List.map_map]
   congr 1
   apply List.map_congr_left
   intro x _; exact h x
 cases x with
 | v x => exact hv x
 | cI l =>
  simp only [dk, SV.av, List.map_map]
  congr 1
  apply List.map_congr_left
  intro x _; exact hv x
theorem iM {κ : CV → CV} {O O' : ah} (h : ∀ x, (κ x).av O = (κ x).av O') : ∀ l : ah, ai O (az κ l) = ai O' (az κ l)
 | [] => rfl
 | (n, .box cs) :: r => by
  simp only [az, ai, SO.av, iM h r, List.map_map]
  congr 3
  apply List.map_congr_left
  intro x _; exact h x
 | (n, .arr ts l) :: r => by simp only [az, ai, SO.av, iM h r]
 | (n, .mp _ _ _) :: r => by simp only [az, ai, SO.av, iM h r]
theorem JY {κ : CV → CV} (hk : κ .any = .any) {O O' : ah} (h : ∀ x, (κ x).av O = (κ x).av O') (N : Nat) (E : List (Nat × SV)) : (SS.st N ⟨cD κ E, O⟩).env = (SS.st N ⟨cD κ E, O'⟩).env := by
 simp only [SS.st]
 apply List.map_congr_left
 intro i _
 rw [dw κ hk]
 exact J1 h _
theorem nt {N d : Nat} (h : tA d s) (o : SO) : (SS.st N ⟨s.env, (d, o) :: s.objs⟩).env = (s.st N).env ∧ ai ((d, o) :: s.objs) s.objs = ai s.objs s.objs := by
 obtain ⟨_, E, O, rfl⟩ := h
 exact ⟨JY rfl (fun x => uq x) N E, iM (fun x => uq x) O⟩
theorem fi {N d : Nat} (h : ad d s.objs = none) : look d (s.st N).objs = none := by
 show look d (ai s.objs s.objs) = none
 rw [bk, h]; rfl
theorem jJ {N d : Nat} (h : tA d s) (o : SO) (x : SV) :
  (SS.put ⟨s.env, (d, o) :: s.objs⟩ (some d) x).st N = ⟨eW (s.st N).env (some d) (x.av ((d, o) :: s.objs)), (d, o.av ((d, o) :: s.objs)) :: (s.st N).objs⟩ := by
 rw [dt, (nt (N := N) h o).1]
 have : (SS.st N ⟨s.env, (d, o) :: s.objs⟩).objs = (d, o.av ((d, o) :: s.objs)) :: (s.st N).objs := by
  show ai ((d, o) :: s.objs) ((d, o) :: s.objs) = _
  simp only [ai, (nt (N := N) h o).2]; rfl
 rw [this]
def ov (P : Program) (N : Nat) (s : SS) (dst : Option Tmp) (o : Op) (f : SS) : Prop :=
 ∃ s1 r, wV (s.st N) (s1.st N) ∧ dr s s1 ∧ isFun o = false ∧ iU P (s1.st N).env (s1.st N).objs o = none ∧ CL P (s1.st N).env (s1.st N).objs dst o = some r ∧ wV ⟨eW r.env dst r.x, r.objs⟩ (f.st N)
theorem Kn (ts : cf) : qc (ts.zc.map (CV.av [])) (ts.cF ts.d) := by
 have : ∀ ts : cf, qc (ts.zc.map (CV.av [])) (ts.cF ts.d) := by
  intro ts
  induction ts using cf.rec (motive_1 := fun _ => True) with
  | int | bool | str => trivial
  | sl => trivial
  | nil => exact .bh _
  | cons t ts _ ih =>
   simp only [cf.zc, cf.cF, List.map_cons, cf.d]
   refine qc.append (a := [_]) (b := [_]) ⟨rfl, fun i y hy => ?_⟩ ih
   cases i with
   | zero =>
    simp only [List.getElem?_cons_zero, Option.some.injEq] at hy ⊢; subst hy
    refine ⟨_, rfl, ?_⟩
    cases t with
    | sl us => exact .inr (.inr ⟨rfl, _, rfl⟩)
    | _ => exact .bh _
   | succ i => simp at hy
 exact this ts
theorem EB {a b : List AV} (h : qc a b) (n : Nat) : Kv (List.replicate n a) (List.replicate n b) := by
 refine ⟨by simp, fun j cs hj => ?_⟩
 rw [List.getElem?_replicate] at hj ⊢
 split at hj
 ·rename_i hlt
  simp only [Option.some.injEq] at hj; subst hj
  exact ⟨a, by rw [if_pos hlt], h⟩
 ·cases hj
theorem toKVs_av : ∀ {ts : cf} {cs : List CV} {x : ts.T}, toKVs ts cs = some x → qc (cs.map (CV.av O)) (ts.cF x) ∧ cs.all iN = true ∧ cs.length = ts.len := by
 intro ts
 induction ts using cf.rec (motive_1 := fun _ => True) with
 | int | bool | str => trivial
 | sl => trivial
 | nil =>
  intro cs x h
  cases cs with
  | nil => exact ⟨.bh _, rfl, rfl⟩
  | cons c cs => simp [toKVs] at h
 | cons t ts _ ih =>
  intro cs x h
  cases cs with
  | nil => simp [toKVs] at h
  | cons c cs =>
   have one : ∀ a b, rU a b → qc [a] [b] := fun a b hab => ⟨rfl, fun i y hy => by
    cases i with
    | zero => simp only [List.getElem?_cons_zero, Option.some.injEq] at hy ⊢; subst hy; exact ⟨a, rfl, hab⟩
    | succ i => simp at hy⟩
   cases c with
   | k v =>
    simp only [toKVs] at h
    split at h
    ·rename_i a b h1 h2
     simp only [Option.some.injEq] at h; subst h
     obtain ⟨i1, i2, i3⟩ := ih h2
     have e := NA t v a h1
     subst e
     refine ⟨?_, by simp [iN, i2], by simp [cf.len, i3]⟩
     exact qc.append (one _ _ (by rw [show (CV.k (t.kv a)).av O = (t.kv a).av from rfl, ur]; exact .bh _)) i1
    ·cases h
   | gE =>
    cases t with
    | sl us =>
     simp only [toKVs] at h
     split at h
     ·rename_i b h2
      simp only [Option.some.injEq] at h; subst h
      obtain ⟨i1, i2, i3⟩ := ih h2
      refine ⟨?_, by simp [iN, i2], by simp [cf.len, i3]⟩
      exact qc.append (one _ _ (.inr (.inr ⟨rfl, _, rfl⟩))) i1
     ·cases h
    | _ => simp [toKVs] at h
   | _ => simp [toKVs] at h
theorem Dr {x : CV} (h : iN x = true) : dh (x.av O) = true := by
 cases x with
 | k v => cases v <;> rfl
 | cW c => cases c <;> rfl
 | _ => first | rfl | simp [iN] at h
theorem mA {l : List CV} (h : l.all iN = true) : (l.map (CV.av O)).all dh = true := by
 rw [List.all_map]
 rw [List.all_eq_true] at h ⊢
 intro x hx
 exact Dr (h x hx)
theorem toRows_av {ts : cf} : ∀ {xs : List SV} {rows : List ts.T}, toRows O ts xs = some rows → ∃ l, rowsOf ts.len (xs.map (SV.av O)) = some l ∧ Kv l (rows.map ts.cF)
 | [], rows, h => by simp only [toRows, Option.some.injEq] at h; subst h; exact ⟨[], rfl, .bh _⟩
 | x :: xs, rows, h => by
  simp only [toRows] at h
  split at h
  ·rename_i cs hcs
   split at h
   ·rename_i a b h1 h2
    simp only [Option.some.injEq] at h; subst h
    obtain ⟨l, hl, hle⟩ := toRows_av h2
    obtain ⟨i1, i2, i3⟩ := toKVs_av (O := O) h1
    refine ⟨cs.map (CV.av O) :: l, ?_, ?_⟩
    ·simp only [List.map_cons, rowsOf, kr hcs, hl]
     rw [if_pos ⟨by simp [i3], mA i2⟩]
    ·refine ⟨by simp [hle.1], fun j cs' hj => ?_⟩
     cases j with
     | zero => simp only [List.map_cons, List.getElem?_cons_zero, Option.some.injEq] at hj ⊢; subst hj; exact ⟨_, rfl, i1⟩
     | succ j => simp only [List.map_cons, List.getElem?_cons_succ] at hj ⊢; exact hle.2 j cs' hj
   ·cases h
  ·cases h
end Go.Abs
namespace Go.Abs
open Go.RowKit
variable {O : ah} {ts : cf} {n N : Nat} {objs : List (Nat × Obj)}
theorem AI {w0 w : World} {M0 : Nat → Prop} {D0 : Names} {a : Act} {env : List AV} {objs objs' : List (Nat × Obj)} (h : ∀ n, look n objs' = look n objs) (hs : Sat w0 M0 D0 ⟨env, objs⟩ a w) : Sat w0 M0 D0 ⟨env, objs'⟩ a w := by
 obtain ⟨hd, D, hm, he, hp⟩ := hs
 refine ⟨hd, D, ⟨fun n hn => ?_, fun n hn => ?_, fun n o d hl hn => ?_, hm.inj, hm.lt, hm.own, hm.grow, hm.os, hm.tape, hm.output, hm.bq⟩, he, fun n d hn => ⟨(hp n d hn).1, fun ht => ?_⟩⟩
 ·rw [h]; exact hm.lQ n hn
 ·rw [h] at hn; exact hm.small n hn
 ·rw [h] at hl; exact hm.rep n o d hl hn
 ·rw [h]; exact (hp n d hn).2 ht
theorem AJ {w0 w : World} {M0 : Nat → Prop} {D0 : Names} {a : Act} {env : List AV} {n sz k : Nat} {L : List (List AV)} (h : look n objs = some (.arr sz L)) (hs : Sat w0 M0 D0 ⟨env, objs⟩ a w) :
  Sat w0 M0 D0 ⟨env, js n (.arr sz (L.take k)) objs⟩ a w := by
 obtain ⟨hd, D, hm, he, hp⟩ := hs
 have hlk : ∀ m, look m (js n (.arr sz (L.take k)) objs) = if m = n then some (.arr sz (L.take k)) else look m objs := fun m => by
  by_cases e : m = n
  ·subst e; rw [if_pos rfl]; exact jh _ _ (by rw [h]; rfl)
  ·rw [if_neg e]; exact dY _ (Ne.symm e) _
 refine ⟨hd, D, ⟨fun m hn => ?_, fun m hn => ?_, fun m o d hl hn => ?_, hm.inj, hm.lt, hm.own, hm.grow, hm.os, hm.tape, hm.output, hm.bq⟩, he, fun m d hn => ⟨(hp m d hn).1, fun ht => ?_⟩⟩
 ·simp only [hlk]
  split
  ·rename_i e; subst e
   have := hm.lQ m hn
   simp only at this
   rw [this, h]; rfl
  ·exact hm.lQ m hn
 ·simp only [hlk] at hn
  split at hn
  ·rename_i e; subst e; exact hm.small m (by simp only; rw [h]; rfl)
  ·exact hm.small m hn
 ·simp only [hlk] at hl
  split at hl
  ·rename_i e; subst e
   cases hl
   have hr := hm.rep m _ d h hn
   cases d with
   | none =>
    have hr : L = [] := hr
    show L.take k = []
    rw [hr]; simp
   | some b =>
    obtain ⟨vs, T, fz, h1, h2, h3, h4, h5, h6⟩ := hr
    have hle : (L.take k).length ≤ L.length := by rw [List.length_take]; omega
    have hget : ∀ (j : Nat) cs, (L.take k)[j]? = some cs → L[j]? = some cs := fun j cs hj => by
     rw [List.getElem?_take] at hj
     split at hj
     ·exact hj
     ·cases hj
    exact ⟨vs, T, fz, h1, h2, Nat.le_trans hle h3, Nat.le_trans (Nat.mul_le_mul_right _ hle) h4, fun j cs hj => h5 j cs (hget j cs hj), fun j cs i x hj hi => h6 j cs i x (hget j cs hj) hi⟩
  ·exact hm.rep m o d hl hn
 ·have := (hp m d hn).2 ht
  simp only [hlk]
  split
  ·rename_i e; subst e
   obtain ⟨cs, hcs⟩ := this
   simp only at hcs
   rw [h] at hcs; cases hcs
  ·exact this
theorem eI (κ : CV → CV) (m : Nat) : ∀ O : ah, ad m (az κ O) = (ad m O).map fun | .box cs => .box (cs.map κ) | .arr ts l => .arr ts l | .mp kk k l => .mp kk k l
 | [] => rfl
 | (n, .box cs) :: r => by
  by_cases h : n = m <;> simp [az, ad, h, eI κ m r]
 | (n, .arr ts l) :: r => by
  by_cases h : n = m <;> simp [az, ad, h, eI κ m r]
 | (n, .mp kk k l) :: r => by
  by_cases h : n = m <;> simp [az, ad, h, eI κ m r]
def Gp (s s' : St) : Prop := ∀ w0 M0 D0 a w, Sat w0 M0 D0 s a w → Sat w0 M0 D0 s' a w
theorem Gp.yN {pins : List Nat} {s s' : St} (h : Gp s s') : lY pins s s' := fun w0 M0 D0 a w _ hs => h w0 M0 D0 a w hs
structure Trim (n : Nat) (ts : cf) (l l' : List ts.T) (O O3 : ah) : Prop where
 at_ : ad n O = some (.arr ts l)
 Tt : ad n O3 = some (.arr ts l')
 arr : ∀ m, m ≠ n → (CV.own m).av O3 = (CV.own m).av O
theorem Trim.cell {l l' : List ts.T} {O O3 : ah} (h : Trim n ts l l' O O3) (x : CV) : (ey n ts.len (eE l) x).av O3 = x.av O := by
 cases x with
 | own m =>
  simp only [ey]
  split
  ·rename_i e; subst e
   simp [CV.av, h.at_, eE]
  ·rename_i e; exact h.arr m e
 | _ => rfl
theorem Trim.vv {l l' : List ts.T} {O O3 : ah} (h : Trim n ts l l' O O3) (x : VV) : (eG (ey n ts.len (eE l)) x).av O3 = x.av O := by
 cases x with
 | c x => exact h.cell x
 | g l =>
  simp only [eG, VV.av, List.map_map]
  congr 1
  apply List.map_congr_left
  intro x _; exact h.cell x
theorem Trim.sv {l l' : List ts.T} {O O3 : ah} (h : Trim n ts l l' O O3) (x : SV) : (dk (ey n ts.len (eE l)) x).av O3 = x.av O := by
 cases x with
 | v x => exact h.vv x
 | cI l =>
  simp only [dk, SV.av, List.map_map]
  congr 1
  apply List.map_congr_left
  intro x _; exact h.vv x
theorem Trim.os {l l' : List ts.T} {O O3 : ah} (h : Trim n ts l l' O O3) : ∀ r : ah, ai O3 (az (ey n ts.len (eE l)) r) = ai O r
 | [] => rfl
 | (m, .box cs) :: r => by
  simp only [az, ai, SO.av, h.os r, List.map_map]
  congr 3
  apply List.map_congr_left
  intro x _; exact h.cell x
 | (m, .arr us k) :: r => by simp only [az, ai, SO.av, h.os r]
 | (m, .mp _ _ _) :: r => by simp only [az, ai, SO.av, h.os r]
theorem oE {O O' : ah} {m : Nat} (h : ∀ ts l, ad m O' = some (.arr ts l) ↔ ad m O = some (.arr ts l)) : (CV.own m).av O' = (CV.own m).av O := by
 simp only [CV.av]
 cases h1 : ad m O with
 | none =>
  cases h2 : ad m O' with
  | none => rfl
  | some o => cases o with
   | box cs => rfl
   | mp _ _ _ => rfl
   | arr ts l => rw [(h ts l).1 h2] at h1; cases h1
 | some o => cases o with
  | box cs =>
   cases h2 : ad m O' with
   | none => rfl
   | some o => cases o with
    | box cs => rfl
    | mp _ _ _ => rfl
    | arr ts l => rw [(h ts l).1 h2] at h1; cases h1
  | mp _ _ _ =>
   cases h2 : ad m O' with
   | none => rfl
   | some o => cases o with
    | box cs => rfl
    | mp _ _ _ => rfl
    | arr ts l => rw [(h ts l).1 h2] at h1; cases h1
  | arr ts l => rw [(h ts l).2 h1]
theorem HF {s : SS} {n i off k : Nat} {l : List ts.T} (hn : ad n s.objs = some (.arr ts l)) (ho : off = 0) (hk : k ≤ l.length) (hx : s.get N i = .v (.c (.cw n ts.len off k))) :
  Gp (s.st N) ((SS.put ⟨cD (ey n ts.len (eE l)) s.env, c8 n (.arr ts (lA l 0 k)) (az (ey n ts.len (eE l)) s.objs)⟩ (some i) (.v (.c (.own n)))).st N) := by
 intro w0 M0 D0 a w hs
 subst ho
 generalize hκ : ey n ts.len (eE l) = κ
 have hκa : κ .any = .any := by rw [← hκ]; rfl
 have hO1 : ad n (az κ s.objs) = some (.arr ts l) := by rw [eI, hn]; rfl
 have T : Trim n ts l (lA l 0 k) s.objs (c8 n (.arr ts (lA l 0 k)) (az κ s.objs)) := by
  refine ⟨hn, fH _ (by rw [hO1]; rfl), fun m hm => oE fun us l2 => ?_⟩
  rw [cu _ (Ne.symm hm), eI]
  cases ad m s.objs with
  | none => simp
  | some o => cases o <;> simp
 have h1 := AJ (k := k) (n := n) (sz := ts.len) (L := l.map ts.cF) (by show look n (ai s.objs s.objs) = _; rw [bk, hn]; rfl) hs
 have e1 : (SS.put ⟨cD κ s.env, c8 n (.arr ts (lA l 0 k)) (az κ s.objs)⟩ (some i) (.v (.c (.own n)))).st N = ⟨(s.st N).env, js n (.arr ts.len ((l.map ts.cF).take k)) (s.st N).objs⟩ := by
  simp only [SS.st, SS.put]
  congr 1
  ·apply List.map_congr_left
   intro j hj
   simp only [cr]
   split
   ·rename_i e; subst e
    have hj : i < N := by simpa using hj
    have hx' : cr s.env i = .v (.c (.cw n ts.len 0 k)) := by
     simp only [SS.get, hj, if_true] at hx; exact hx
    rw [hx']
    simp only [SV.av, VV.av, CV.av, T.Tt]
    congr 1
    simp [lA]; omega
   ·rw [dw κ hκa, ← hκ]
    have := T.sv (cr s.env j)
    rw [← hκ] at this
    exact this
  ·rw [jj]
   have := T.os s.objs
   rw [hκ] at this
   rw [this]
   congr 1
   simp [SO.av, lA, List.map_take]
 rw [e1]
 exact h1
theorem J8 {s : SS} {n b i off k : Nat} {l : List ts.T} {cs : List CV} (hb : ad b s.objs = some (.box cs)) (hn : ad n s.objs = some (.arr ts l)) (ho : off = 0) (hk : k ≤ l.length)
  (hx : cs.getD i .any = .cw n ts.len off k) :
  Gp (s.st N) ((setCell b i (.own n) ⟨cD (ey n ts.len (eE l)) s.env, c8 n (.arr ts (lA l 0 k)) (az (ey n ts.len (eE l)) s.objs)⟩).st N) := by
 intro w0 M0 D0 a w hs
 subst ho
 have hbn : b ≠ n := fun e => by subst e; rw [hb] at hn; cases hn
 generalize hκ : ey n ts.len (eE l) = κ
 have hκa : κ .any = .any := by rw [← hκ]; rfl
 have hO1 : ad n (az κ s.objs) = some (.arr ts l) := by rw [eI, hn]; rfl
 have hb2 : ad b (c8 n (.arr ts (lA l 0 k)) (az κ s.objs)) = some (.box (cs.map κ)) := by
  rw [cu _ (Ne.symm hbn), eI, hb]; rfl
 generalize hO3 : c8 b (.box ((cs.map κ).set i (.own n))) (c8 n (.arr ts (lA l 0 k)) (az κ s.objs)) = O3
 have T : Trim n ts l (lA l 0 k) s.objs O3 := by
  subst hO3
  refine ⟨hn, ?_, fun m hm => oE fun us l2 => ?_⟩
  ·rw [cu _ hbn]; exact fH _ (by rw [hO1]; rfl)
  ·by_cases hmb : m = b
   ·subst hmb
    rw [fH _ (by rw [hb2]; rfl), hb]; simp
   ·rw [cu _ (Ne.symm hmb), cu _ (Ne.symm hm), eI]
    cases ad m s.objs with
    | none => simp
    | some o => cases o <;> simp
 have h1 := AJ (k := k) (n := n) (sz := ts.len) (L := l.map ts.cF) (by show look n (ai s.objs s.objs) = _; rw [bk, hn]; rfl) hs
 have e0 : setCell b i (.own n) ⟨cD κ s.env, c8 n (.arr ts (lA l 0 k)) (az κ s.objs)⟩ = ⟨cD κ s.env, O3⟩ := by
  simp only [setCell, hb2, ← hO3]
 rw [e0]
 have e1 : (SS.st N ⟨cD κ s.env, O3⟩).env = (s.st N).env := by
  simp only [SS.st]
  apply List.map_congr_left
  intro j hj
  rw [dw κ hκa, ← hκ]
  exact T.sv (cr s.env j)
 refine AI (objs := js n (.arr ts.len ((l.map ts.cF).take k)) (s.st N).objs) (fun m => ?_) (by have e2 := e1; simp only [SS.st] at e2 h1 ⊢; rw [e2]; exact h1)
 have hlo : look n (s.st N).objs = some (.arr ts.len (l.map ts.cF)) := by show look n (ai s.objs s.objs) = _; rw [bk, hn]; rfl
 show look m (ai O3 O3) = _
 have hlk : look m (js n (.arr ts.len ((l.map ts.cF).take k)) (s.st N).objs) = if m = n then some (.arr ts.len ((l.map ts.cF).take k)) else look m (s.st N).objs := by
  by_cases e : m = n
  ·subst e; rw [if_pos rfl]; exact jh _ _ (by rw [hlo]; rfl)
  ·rw [if_neg e]; exact dY _ (Ne.symm e) _
 rw [hlk, bk]
 by_cases hmn : m = n
 ·subst hmn
  rw [if_pos rfl, T.Tt]
  simp [SO.av, lA, List.map_take]
 ·rw [if_neg hmn]
  show _ = look m (ai s.objs s.objs)
  rw [bk]
  by_cases hmb : m = b
  ·subst hmb
   rw [hb, ← hO3, fH _ (by rw [hb2]; rfl)]
   rw [hO3]
   simp only [Option.map_some, SO.av, Option.some.injEq, Obj.box.injEq]
   refine List.ext_getElem? fun j => ?_
   simp only [List.getElem?_map, List.getElem?_set, List.length_map]
   by_cases hji : i = j
   ·subst hji
    rw [if_pos rfl]
    by_cases hlt : i < cs.length
    ·rw [if_pos hlt]
     rw [List.getD_eq_getElem?_getD] at hx
     rw [List.getElem?_eq_getElem hlt] at hx ⊢
     simp only [Option.getD_some] at hx
     simp only [Option.map_some, hx, CV.av, T.Tt]
     congr 2
     simp [lA]; omega
    ·rw [if_neg hlt, List.getElem?_eq_none (by omega)]; rfl
   ·rw [if_neg hji]
    cases hc : cs[j]? with
    | none => rfl
    | some x =>
     simp only [Option.map_some]
     rw [← hκ]; exact congrArg some (T.cell x)
  ·rw [← hO3, cu _ (Ne.symm hmb), cu _ (Ne.symm hmn), eI, hO3]
   cases ad m s.objs with
   | none => rfl
   | some o => cases o with
    | arr us k => rfl
    | mp _ _ _ => rfl
    | box ds =>
     simp only [Option.map_some, SO.av, Option.some.injEq, Obj.box.injEq, List.map_map]
     apply List.map_congr_left
     intro x _
     rw [← hκ]; exact T.cell x
theorem Gp.bh (s : St) : Gp s s := fun _ _ _ _ _ h => h
theorem Gp.trans {s s' s'' : St} (h : Gp s s') (h' : Gp s' s'') : Gp s s'' := fun w0 M0 D0 a w hs => h' w0 M0 D0 a w (h w0 M0 D0 a w hs)
theorem lY.trans {pins : List Nat} {s s' s'' : St} (h : lY pins s s') (h' : lY pins s' s'') : lY pins s s'' := fun w0 M0 D0 a w hp hs => h' w0 M0 D0 a w hp (h w0 M0 D0 a w hp hs)
theorem rC {R : Type} {s : SS} {x : CV} {put : Nat → SS → SS} {K : SS → Option R} {r : R} (h : p6 s x put K = some r)
  (hp : ∀ n off k ts l, x = .cw n ts.len off k → ad n s.objs = some (.arr ts l) → off = 0 → k ≤ l.length →
   Gp (s.st N) ((put n ⟨cD (ey n ts.len (eE l)) s.env, c8 n (.arr ts (lA l 0 k)) (az (ey n ts.len (eE l)) s.objs)⟩).st N) ∧
   dr s (put n ⟨cD (ey n ts.len (eE l)) s.env, c8 n (.arr ts (lA l 0 k)) (az (ey n ts.len (eE l)) s.objs)⟩)) :
  ∃ s', K s' = some r ∧ Gp (s.st N) (s'.st N) ∧ dr s s' := by
 unfold p6 at h
 split at h
 ·rename_i n sz off k
  split at h
  ·rename_i ts l hl
   split at h
   ·rename_i hsz; subst hsz
    obtain ⟨hc, hk⟩ := fI h
    have h1 : off = 0 := by have := hc.1; simpa [Tb] using this
    have h2 : k ≤ l.length := by have := hc.2.1; simp only [IV, eE] at this; exact of_decide_eq_true this
    exact ⟨_, hk, (hp n off k ts l rfl hl h1 h2).1, (hp n off k ts l rfl hl h1 h2).2⟩
   ·exact ⟨s, h, .bh _, .bh _⟩
  ·exact ⟨s, h, .bh _, .bh _⟩
 ·exact ⟨s, h, .bh _, .bh _⟩
theorem CY {s : SS} {κ : CV → CV} {i : Nat} {x y : CV} (hk : κ .any = .any) (h : ∀ v, κ (.k v) = .k v) (hx : s.get N i = .v (.c x)) (hxb : ∀ v, x ≠ .k v) (hxa : x ≠ .any) :
  dr s (SS.put ⟨cD κ s.env, O⟩ (some i) (.v (.c y))) := fun t b ht => by
 have h1 : cr (cD κ s.env) t = SV.bool b := lx (O := O) hk h t b ht
 show cr ((i, _) :: _) t = _
 simp only [cr]
 split
 ·rename_i e; subst e
  have hx' : cr s.env i = .v (.c x) := by
   simp only [SS.get] at hx
   split at hx
   ·exact hx
   ·exact absurd hx (fun e => hxa (by cases e; rfl))
  rw [hx'] at ht
  cases ht
  exact absurd rfl (hxb _)
 ·exact h1
theorem CX {s : SS} {κ : CV → CV} {b i : Nat} {y : CV} (hk : κ .any = .any) (h : ∀ v, κ (.k v) = .k v) : dr s (setCell b i y ⟨cD κ s.env, O⟩) := fun t c ht => by
 have h1 : cr (cD κ s.env) t = SV.bool c := lx (O := O) hk h t c ht
 unfold setCell
 split
 ·exact h1
 ·exact h1
theorem eV {R : Type} {K : SS → Option R} {r : R} : ∀ (l : List (Nat × Nat)) {s : SS}, iF N l s K = some r → ∃ s', K s' = some r ∧ Gp (s.st N) (s'.st N) ∧ dr s s'
 | [], s, h => ⟨s, h, .bh _, .bh _⟩
 | (b, i) :: l, s, h => by
  unfold iF at h
  split at h
  ·split at h
   ·rename_i x hx
    obtain ⟨s1, h1, h2, h2k⟩ := rC (N := N) h fun n off k ts l' e hl ho hk => by
     subst e
     exact ⟨HF hl ho hk hx, CY rfl (fun _ => rfl) hx (fun _ e => by cases e) (fun e => by cases e)⟩
    obtain ⟨s2, h3, h4, h5⟩ := eV l h1
    exact ⟨s2, h3, h2.trans h4, h2k.trans h5⟩
   ·exact eV l h
  ·split at h
   ·rename_i cs hb
    obtain ⟨s1, h1, h2, h2k⟩ := rC (N := N) h fun n off k ts l' e hl ho hk => ⟨J8 hb hl ho hk e, CX rfl fun _ => rfl⟩
    obtain ⟨s2, h3, h4, h5⟩ := eV l h1
    exact ⟨s2, h3, h2.trans h4, h2k.trans h5⟩
   ·exact eV l h
end Go.Abs
namespace Go.Abs
open Go.RowKit
variable {dst : Option Tmp} {c : List Bool} {P : Program} {T : TypeId} {C : eN} {s s' : SS} {v : SV} {O : ah}
theorem KD {d : Nat} {o : SO} {x : CV} (hd : ad d O = none) (ho : (∃ cs, o = .box cs) ∨ x ≠ .own d) : x.av ((d, o) :: O) = x.av O := by
 refine rQ fun n hn => ?_
 subst hn
 by_cases h : d = n
 ·subst h
  rcases ho with ⟨cs, rfl⟩ | ho
  ·simp [ad, hd]
  ·exact absurd rfl ho
 ·simp only [ad, h, if_false]
theorem wV.of_eq {a b : St} (h : a = b) : wV a b := h ▸ .bh a
theorem Rg {x : Operand}
  (h : sH C s dst (.box T x) = some (c, v, s')) : ov P C.N s dst (.box T x) (s'.put dst v) := by
 cases dst with
 | none => simp [sH] at h
 | some d =>
  simp only [sH] at h
  split at h
  ·rename_i hd
   split at h
   ·rename_i s1 h1
    split at h
    ·rename_i cs hcs
     simp only [Option.some.injEq, Prod.mk.injEq] at h; obtain ⟨_, rfl, rfl⟩ := h
     obtain ⟨a1, a2, a3⟩ := gl (N := C.N) h1
     refine ⟨s1, ⟨.ref d cs.length 0 0, (s1.st C.N).env, (d, .box (cs.map (CV.av s1.objs))) :: (s1.st C.N).objs⟩, a1, a2, rfl, rfl, ?_, ?_⟩
     ·have hc : cellsOf (ev (s1.st C.N).env x) = some (cs.map (CV.av s1.objs)) := by rw [← bz]; exact kr hcs
      simp only [CL, hd, if_true, KW, fi a3.1, hc, List.length_map]
     ·refine .of_eq ?_
      rw [jJ a3]
      have : (SO.box cs).av ((d, .box cs) :: s1.objs) = .box (cs.map (CV.av s1.objs)) := by
       simp only [SO.av]
       congr 1
       apply List.map_congr_left
       intro y _
       exact KD a3.1 (.inl ⟨_, rfl⟩)
      rw [this]; rfl
    ·cases h
   ·cases h
  ·cases h
theorem KX (hG : Good P C.G)
  (h : sH C s dst (.alloc T) = some (c, v, s')) : ov P C.N s dst (.alloc T) (s'.put dst v) := by
 cases dst with
 | none => simp [sH] at h
 | some d =>
  simp only [sH] at h
  split at h
  ·rename_i hd
   split at h
   ·rename_i s1 h1
    obtain ⟨a1, a2, a3⟩ := gl (N := C.N) h1
    have box1 : ∀ (cs : List CV) (z : List AV) (D : TD), gQ C.G T = some D → zeroCells P T = some z → cN P T = none → (∀ O, cs.map (CV.av O) = z) → v = .v (.c (.ref d cs.length 0 0)) → s' = ⟨s1.env, (d, .box cs) :: s1.objs⟩ →
      ov P C.N s (some d) (.alloc T) (s'.put (some d) v) := by
     rintro cs z D hD hz ha hcs rfl rfl
     refine ⟨s1, ⟨.ref d z.length 0 0, (s1.st C.N).env, (d, .box z) :: (s1.st C.N).objs⟩, a1, a2, rfl, rfl, ?_, ?_⟩
     ·simp only [CL, hd, if_true, uf, fi a3.1, hz, ha]
     ·refine .of_eq ?_
      rw [jJ a3]
      simp only [SO.av, hcs]
      have : z.length = cs.length := by rw [← hcs [], List.length_map]
      rw [this]; rfl
    split at h
    ·rename_i n ts e
     simp only [Option.some.injEq, Prod.mk.injEq] at h; obtain ⟨_, rfl, rfl⟩ := h
     obtain ⟨g1, g2, g3, z, g4, g5, g6⟩ := hG T _ e
     refine ⟨s1, ⟨.ref d ts.len 0 0, (s1.st C.N).env, (d, .arr ts.len (chunk ts.len n z)) :: (s1.st C.N).objs⟩, a1, a2, rfl, rfl, ?_, ?_⟩
     ·simp only [CL, hd, if_true, uf, fi a3.1, g4, g1]
      rw [if_pos ⟨g5, g3⟩]
     ·rw [jJ a3]
      refine mg (zC.bh _) ⟨rfl, ⟨rfl, ?_⟩, lB.bh _⟩
      rw [g6]
      have := EB (Kn ts) n
      simpa only [zB, List.map_replicate] using this
    ·rename_i ts fs eq e
     simp only [Option.some.injEq, Prod.mk.injEq] at h; obtain ⟨_, rfl, rfl⟩ := h
     obtain ⟨_, _, _, g1, g2, _⟩ := hG T _ e
     exact box1 ts.zc _ _ e g1 g2 (fun O => Km ts O []) (by rw [vD]) rfl
    ·rename_i k e
     simp only [Option.some.injEq, Prod.mk.injEq] at h; obtain ⟨_, rfl, rfl⟩ := h
     obtain ⟨_, _, g1, g2⟩ := hG T _ e
     exact box1 [.k (.int k 0)] _ _ e g1 g2 (fun O => rfl) rfl rfl
    ·rename_i e
     simp only [Option.some.injEq, Prod.mk.injEq] at h; obtain ⟨_, rfl, rfl⟩ := h
     obtain ⟨_, _, g1, g2⟩ := hG T _ e
     exact box1 [.k (.bool false)] _ _ e g1 g2 (fun O => rfl) rfl rfl
    ·rename_i e
     simp only [Option.some.injEq, Prod.mk.injEq] at h; obtain ⟨_, rfl, rfl⟩ := h
     obtain ⟨_, _, g1, g2⟩ := hG T _ e
     exact box1 [.k (.str [])] _ _ e g1 g2 (fun O => rfl) rfl rfl
    ·rename_i ts b e
     simp only [Option.some.injEq, Prod.mk.injEq] at h; obtain ⟨_, rfl, rfl⟩ := h
     obtain ⟨_, _, _, _, g1, g2, _⟩ := hG T _ e
     exact box1 [.gE] _ _ e g1 g2 (fun O => rfl) rfl rfl
    ·rename_i c e
     simp only [Option.some.injEq, Prod.mk.injEq] at h; obtain ⟨_, rfl, rfl⟩ := h
     obtain ⟨_, _, g1, g2⟩ := hG T _ e
     exact box1 [.cW c] _ _ e g1 g2 (fun O => rfl) rfl rfl
    ·cases h
   ·cases h
  ·cases h
theorem n9 {d : Nat} {ts : cf} {l : List ts.T} : (SV.v (.c (.own d))).av ((d, .arr ts l) :: O) = .cw d ts.len 0 l.length := by
 simp [SV.av, VV.av, CV.av, ad]
theorem xr (hG : Good P C.G) {len : Nat} {parts : Array (Nat × Operand)}
  (h : sH C s dst (.buildSlice T len parts) = some (c, v, s')) : ov P C.N s dst (.buildSlice T len parts) (s'.put dst v) := by
 cases dst with
 | none => simp [sH] at h
 | some d =>
  simp only [sH] at h
  split at h
  ·rename_i hd
   split at h
   ·rename_i s1 ts b h1 e
    obtain ⟨a1, a2, a3, a4⟩ := wF h1
    split at h
    ·rename_i rows hr
     split at h
     ·rename_i hc
      simp only [Option.some.injEq, Prod.mk.injEq] at h; obtain ⟨_, rfl, rfl⟩ := h
      obtain ⟨g1, g2, g3, _⟩ := hG T _ e
      obtain ⟨l, hl, hle⟩ := toRows_av hr
      have hl' : rowsOf ts.len ((parts.toList.map (·.2)).map (ev (s1.st C.N).env)) = some l := by
       rw [← hl]
       have : (SV.av s1.objs) ∘ (aq C s1) = ev (s1.st C.N).env := funext fun o => bz C s1 o
       rw [List.map_map (g := SV.av s1.objs), this]
      have hlen : rows.length = len := by
       have h1 := congrArg List.length hc.1
       simp only [List.length_map, List.length_range] at h1
       have h2 := hle.1
       simp only [List.length_map] at h2
       have : ∀ (xs : List AV) (l : List (List AV)), rowsOf ts.len xs = some l → l.length = xs.length := by
        intro xs
        induction xs with
        | nil => intro l h; simp [rowsOf] at h; subst h; rfl
        | cons x xs ih =>
         intro l h
         simp only [rowsOf] at h
         split at h
         ·rename_i cs l' h3 h4
          split at h
          ·simp only [Option.some.injEq] at h; subst h; simp [ih l' h4]
          ·cases h
         ·cases h
       have h3 := this _ _ hl
       simp only [List.length_map] at h3
       omega
      refine ⟨s1, ⟨.cw d ts.len 0 len, (s1.st C.N).env, (d, .arr ts.len l) :: (s1.st C.N).objs⟩, a1, a2, rfl, rfl, ?_, ?_⟩
      ·have hs := AK (objs := (s1.st C.N).objs) (lE a4)
       simp only [CL, hd, if_true, jA, hs, fi a3.1, g1, g3, hl']
       rw [if_pos hc]
      ·rw [jJ a3, n9, hlen]
       exact mg (zC.bh _) ⟨rfl, ⟨rfl, hle⟩, lB.bh _⟩
     ·cases h
    ·cases h
   ·cases h
  ·cases h
theorem zu (hG : Good P C.G) {l m : Operand}
  (h : sH C s dst (.makeSlice T l m) = some (c, v, s')) (hc : gy c) : ov P C.N s dst (.makeSlice T l m) (s'.put dst v) := by
 cases dst with
 | none => simp [sH] at h
 | some d =>
  simp only [sH] at h
  split at h
  ·rename_i hd
   split at h
   ·rename_i s1 h1
    split at h
    case h_2 => cases h
    rename_i ts b n k e hn hk
    obtain ⟨a1, a2, a3⟩ := gl (N := C.N) h1
    simp only [Option.some.injEq, Prod.mk.injEq] at h; obtain ⟨rfl, rfl, rfl⟩ := h
    obtain ⟨g1, g2, g3, _⟩ := hG T _ e
    obtain ⟨c1, c2, c3, c4, _⟩ := hc
    have c1 : 0 ≤ n := of_decide_eq_true c1
    have c2 : n ≤ k := of_decide_eq_true c2
    have c3 : k ≤ cj := of_decide_eq_true c3
    have c4 : (b : Int) * k ≤ cj := of_decide_eq_true c4
    obtain ⟨kn, en⟩ := kX (C := C) (s := s1) (o := l) hn
    obtain ⟨kk, ek⟩ := kX (C := C) (s := s1) (o := m) hk
    obtain ⟨eid, g2a, g2b⟩ := Option.bind_eq_some_iff.1 g2
    have g3b : zeroCells P eid = some (ts.zc.map (CV.av [])) := by simpa [g2a] using g3
    refine ⟨s1, ⟨.cw d ts.len 0 n.toNat, (s1.st C.N).env, (d, .arr ts.len (List.replicate n.toNat (ts.zc.map (CV.av [])))) :: (s1.st C.N).objs⟩, a1, a2, rfl, rfl, ?_, ?_⟩
    ·simp only [CL, hd, if_true, En, fi a3.1, g1, g2a, en, ek, idx, g3b, g2b]
     rw [if_pos ⟨by rw [List.length_map, vD], c1, c2, c3, c4⟩]
    ·rw [jJ a3, n9]
     have e1 : (zB (iA n) ts.d).length = n.toNat := by simp [zB, iA]
     rw [e1]
     refine mg (zC.bh _) ⟨rfl, ⟨rfl, ?_⟩, lB.bh _⟩
     have := EB (Kn ts) n.toNat
     simpa only [zB, iA, List.map_replicate] using this
   ·cases h
  ·cases h
theorem vP {n : Nat} (h : bf P T = some n) : iE P T = false := by
 unfold bf at h
 unfold iE
 split at h
 ·rename_i e hu; simp [hu]
 ·cases h
theorem KY (hG : Good P C.G) {S T : TypeId} {x : Operand}
  (h : sH C s dst (.convert S T x) = some (c, v, s')) (hc : gy c) : ov P C.N s dst (.convert S T x) (s'.put dst v) := by
 cases dst with
 | none => simp [sH] at h
 | some d =>
  simp only [sH] at h
  split at h
  ·rename_i hd
   split at h
   ·rename_i s1 h1
    split at h
    case h_2 => cases h
    rename_i b e hx
    obtain ⟨a1, a2, a3⟩ := gl (N := C.N) h1
    split at h
    ·rename_i hb
     simp only [Option.some.injEq, Prod.mk.injEq] at h; obtain ⟨rfl, rfl, rfl⟩ := h
     have c1 : b.length ≤ cj := of_decide_eq_true hc.1
     unfold xw at hb
     split at hb
     ·rename_i ts bb e2
      have hts := cf.beq_eq _ _ hb
      subst hts
      obtain ⟨g1, _, _, _, _, _, g7⟩ := hG T _ e2
      have ex := qk (C := C) (s := s1) (o := x) hx
      refine ⟨s1, ⟨.cw d 1 0 b.length, (s1.st C.N).env, (d, .arr 1 (bytesOf b)) :: (s1.st C.N).objs⟩, a1, a2, rfl, ?_, ?_, ?_⟩
      ·simp only [iU, ex, KV.av, No, vP g1, Bool.and_false, Bool.false_eq_true, if_false]
      ·simp only [CL, hd, if_true, xq, fi a3.1, ex, KV.av]
       rw [if_pos ⟨(hG S _ e).1, g7 hb, c1⟩]
      ·rw [jJ a3, n9]
       refine .of_eq ?_
       have e1 : (ofBytes b).length = b.length := by unfold ofBytes; exact List.length_map _
       rw [e1]
       have : (SO.arr fw (ofBytes b)).av ((d, .arr fw (ofBytes b)) :: s1.objs) = .arr 1 (bytesOf b) := by
        simp only [SO.av, tI]; rfl
       rw [this]; rfl
     ·cases hb
    ·cases h
   ·cases h
  ·cases h
theorem tG {n : Nat} {o o' : SO} (ho : ad n O = some o) (h : (∃ cs ds, o = .box cs ∧ o' = .box ds) ∨ ∃ ts l l', o = .arr ts l ∧ o' = .arr ts l' ∧ l.length = l'.length) (x : CV) : x.av (c8 n o' O) = x.av O := by
 refine rQ fun m _ => ?_
 by_cases hm : n = m
 ·subst hm
  rw [fH o' (by rw [ho]; rfl), ho]
  rcases h with ⟨cs, ds, rfl, rfl⟩ | ⟨ts, l, l', rfl, rfl, hl⟩
  ·rfl
  ·simp [hl]
 ·rw [cu o' hm]
theorem JZ {N n : Nat} {o o' : SO} (ho : ad n s.objs = some o) (h : (∃ cs ds, o = .box cs ∧ o' = .box ds) ∨ ∃ ts l l', o = .arr ts l ∧ o' = .arr ts l' ∧ l.length = l'.length) :
  SS.st N ⟨s.env, c8 n o' s.objs⟩ = ⟨(s.st N).env, js n (o'.av s.objs) (s.st N).objs⟩ := by
 have key := tG ho h
 have kv : ∀ x : VV, x.av (c8 n o' s.objs) = x.av s.objs := by
  intro x
  cases x with
  | c x => exact key x
  | g l =>
   simp only [VV.av]
   congr 1
   apply List.map_congr_left
   intro x _; exact key x
 have ks : ∀ x : SV, x.av (c8 n o' s.objs) = x.av s.objs := by
  intro x
  cases x with
  | v x => exact kv x
  | cI l =>
   simp only [SV.av]
   congr 1
   apply List.map_congr_left
   intro x _; exact kv x
 have ko : ∀ x : SO, x.av (c8 n o' s.objs) = x.av s.objs := by
  intro x
  cases x with
  | box cs =>
   simp only [SO.av]
   congr 1
   apply List.map_congr_left
   intro x _; exact key x
  | arr ts l => rfl
  | mp _ _ _ => rfl
 have kos : ∀ l : ah, ai (c8 n o' s.objs) l = ai s.objs l := by
  intro l
  induction l with
  | nil => rfl
  | cons p r ih => obtain ⟨m, o⟩ := p; simp only [ai, ih, ko]
 simp only [SS.st]
 rw [kos, jj]
 congr 1
 apply List.map_congr_left
 intro i _
 exact ks _
theorem K6 {l m : List (List AV)} (h : Kv l m) (i : Nat) {a b : List AV} (hab : qc a b) : Kv (l.set i a) (m.set i b) := by
 refine ⟨by simp [h.1], fun j cs hj => ?_⟩
 rw [List.getElem?_set] at hj ⊢
 split at hj
 ·rename_i e
  subst e
  split at hj
  ·rename_i hlt
   simp only [Option.some.injEq] at hj; subst hj
   exact ⟨a, by rw [if_pos rfl, if_pos (by rw [h.1]; exact hlt)], hab⟩
  ·cases hj
 ·rename_i hne
  rw [if_neg hne]
  exact h.2 j cs hj
theorem ux {n : Nat} {o o' : Obj} (h : GV o o') : ∀ l : List (Nat × Obj), lB (js n o l) (js n o' l)
 | [] => trivial
 | (m, p) :: r => by
  by_cases hm : m = n
  ·simp only [js, hm, if_true]; exact ⟨rfl, h, ux h r⟩
  ·simp only [js, hm, if_false]; exact ⟨rfl, GV.bh p, ux h r⟩
theorem KZ (hG : Good P C.G) {x y : Operand}
  (h : sH C s dst (.store T x y) = some (c, v, s')) (hc : gy c) : ov P C.N s dst (.store T x y) (s'.put dst v) := by
 cases dst with
 | some d => simp [sH] at h
 | none =>
  simp only [sH] at h
  split at h
  ·rename_i n sz i off D ex eD
   have hct := TD.rW (hG T _ eD)
   split at h
   ·rename_i cs hl
    split at h
    ·rename_i us hus
     split at h
     ·rename_i hcond
      simp only [Option.some.injEq, Prod.mk.injEq] at h; obtain ⟨_, rfl, rfl⟩ := h
      have hy : cellsOf (ev (s.st C.N).env y) = some (us.map (CV.av s.objs)) := by rw [← bz]; exact kr hus
      have hlk : look n (s.st C.N).objs = some (.box (cs.map (CV.av s.objs))) := by
       show look n (ai s.objs s.objs) = _
       rw [bk, hl]; rfl
      refine ⟨s, ⟨.gO, (s.st C.N).env, js n (.box (over (cs.map (CV.av s.objs)) off (us.map (CV.av s.objs)))) (s.st C.N).objs⟩, .bh _, .bh _, rfl, rfl, ?_, ?_⟩
      ·simp only [CL, ug, fO ex, CV.av, hlk, hct, hy, List.length_map]
       rw [if_pos ⟨trivial, hcond.1, by rw [← hcond.1]; exact hcond.2⟩]
      ·refine .of_eq ?_
       simp only [SS.put, eW]
       rw [JZ hl (.inl ⟨_, _, rfl, rfl⟩)]
       simp only [SO.av, zO, over, List.map_append, List.map_take, List.map_drop, List.length_map]
     ·cases h
    ·cases h
   ·rename_i ts0 l0 hl0
    split at h
    ·rename_i s1 h1
     obtain ⟨a1, a2, a3⟩ := v8 h1
     split at h
     ·rename_i ts l us n' sz' i' off' hl hus ex1
      split at h
      ·rename_i hcond
       obtain ⟨c1, c2, c3, c4, c5, c6, c7⟩ := hcond
       subst c5; subst c6; subst c7
       split at h
       ·rename_i row hrow
        simp only [Option.some.injEq, Prod.mk.injEq] at h; obtain ⟨rfl, rfl, rfl⟩ := h
        have hi : i' < l.length := of_decide_eq_true hc.1
        have hy : cellsOf (ev (s1.st C.N).env y) = some (us.map (CV.av s1.objs)) := by rw [← bz]; exact kr hus
        have hlk : look n' (s1.st C.N).objs = some (.arr ts.len (l.map ts.cF)) := by
         show look n' (ai s1.objs s1.objs) = _
         rw [bk, hl]; rfl
        have hrowlen : ((l.map ts.cF).getD i' []).length = ts.len := by
         rw [jz ts.cF l i' ts.d [] hi, fX]
        refine ⟨s1, ⟨.gO, (s1.st C.N).env, js n' (.arr sz' ((l.map ts.cF).set i' (over ((l.map ts.cF).getD i' []) off' (us.map (CV.av s1.objs))))) (s1.st C.N).objs⟩, a1, a2, rfl, rfl, ?_, ?_⟩
        ·have hs := AK (xs := [y]) (objs := (s1.st C.N).objs) (lE a3)
         simp only [CL, ug, fO ex1, CV.av, hlk, hs, hct, hy, List.length_map, hrowlen]
         rw [if_pos ⟨c1, hi, c2, by rw [← c2]; exact c3, mA c4, trivial, trivial, trivial, trivial⟩]
        ·simp only [SS.put, eW]
         rw [JZ hl (.inr ⟨_, _, _, rfl, rfl, by simp [Og]⟩)]
         refine mg (zC.bh _) (ux ?_ _)
         refine ⟨c1, ?_⟩
         have := K6 (Kv.bh (l.map ts.cF)) i' (a := over ((l.map ts.cF).getD i' []) off' (us.map (CV.av s1.objs))) (b := ts.cF row) ?_
         ·simpa only [Og, List.map_set] using this
         ·have hk := (toKVs_av (O := s1.objs) hrow).1
          have e : (zO ((ts.qZ (IG l i' ts.d)).map CV.k) off' us).map (CV.av s1.objs) = over ((l.map ts.cF).getD i' []) off' (us.map (CV.av s1.objs)) := by
           rw [jz ts.cF l i' ts.d [] hi]
           simp only [zO, over, List.map_append, List.map_take, List.map_drop, List.length_map, ly, IG]
          rw [← e]; exact hk
       ·cases h
      ·cases h
     ·cases h
    ·cases h
   ·cases h
  ·cases h
theorem IE {m d : Nat} {o : SO} (hd : ad d (du m O) = none) (x : CV) :
  rU (kill m (x.av O)) ((aw d (aw m x)).av ((d, o) :: az (aw d) (az (aw m) (du m O)))) := by
 have own : ∀ k, k ≠ m → k ≠ d → (CV.own k).av ((d, o) :: az (aw d) (az (aw m) (du m O))) = (CV.own k).av O := by
  intro k h1 h2
  simp only [CV.av, ad, Ne.symm h2, if_false, cZ, dX (Ne.symm h1)]
  cases ad k O with
  | none => rfl
  | some o => cases o <;> rfl
 have killAv : ∀ k, k ≠ m → kill m ((CV.own k).av O) = (CV.own k).av O := by
  intro k h
  simp only [CV.av]
  split <;> simp [kill, h]
 cases x with
 | own k =>
  by_cases h1 : k = m
  ·subst h1; simp only [aw, if_true]; exact .any _
  ·by_cases h2 : k = d
   ·subst h2; simp only [aw, h1, if_false, if_true]; exact .any _
   ·simp only [aw, h1, h2, if_false]
    rw [own k h1 h2, killAv k h1]; exact .bh _
 | cw k sz off len =>
  by_cases h1 : k = m
  ·subst h1; simp only [aw, if_true]; exact .any _
  ·by_cases h2 : k = d
   ·subst h2; simp only [aw, h1, if_false, if_true]; exact .any _
   ·simp only [aw, h1, h2, if_false, CV.av, kill]; exact .bh _
 | ref k sz i off =>
  by_cases h1 : k = m
  ·subst h1; simp only [aw, if_true]; exact .any _
  ·by_cases h2 : k = d
   ·subst h2; simp only [aw, h1, if_false, if_true]; exact .any _
   ·simp only [aw, h1, h2, if_false, CV.av, kill]; exact .bh _
 | cm f ns =>
  by_cases h1 : (ns.map (·.1)).contains m = true
  ·rw [show aw m (.cm f ns) = .any from if_pos h1]; exact .any _
  ·rw [show aw m (.cm f ns) = .cm f ns from if_neg h1]
   by_cases h2 : (ns.map (·.1)).contains d = true
   ·rw [show aw d (.cm f ns) = .any from if_pos h2]; exact .any _
   ·rw [show aw d (.cm f ns) = .cm f ns from if_neg h2]
    have h3 : m ∉ ns.map (·.1) := by rw [← Gl]; exact h1
    simp only [CV.av, kill, if_neg h3]; exact .bh _
 | k v => cases v <;> exact .bh _
 | raw a => cases a <;> exact .bh _
 | _ => exact .bh _
theorem zF (κ κ' : CV → CV) (hk : κ .any = .any) (hk' : κ' .any = .any) (E : List (Nat × SV)) (i : Nat) : cr (cD κ (cD κ' E)) i = cr (cD (fun x => κ (κ' x)) E) i := by
 rw [dw κ hk, dw κ' hk', dw (fun x => κ (κ' x)) (by simp [hk, hk'])]
 cases cr E i with
 | v x => cases x <;> simp [dk, eG]
 | cI l =>
  simp only [dk, List.map_map]
  congr 1
  apply List.map_congr_left
  intro x _
  cases x <;> simp [eG]
theorem iv (κ κ' : CV → CV) : ∀ l : ah, az κ (az κ' l) = az (fun x => κ (κ' x)) l
 | [] => rfl
 | (n, .box cs) :: r => by simp [az, iv κ κ' r]
 | (n, .arr ts l) :: r => by simp [az, iv κ κ' r]
 | (n, .mp _ _ _) :: r => by simp [az, iv κ κ' r]
theorem Iu (hG : Good P C.G) {args : Array Operand} {argTypes : Array TypeId}
  (h : sH C s dst (.call { callee := .builtin .append, args, argTypes }) = some (c, v, s')) (hc : gy c) : ov P C.N s dst (.call { callee := .builtin .append, args, argTypes }) (s'.put dst v) := by
 cases dst with
 | none => simp [sH] at h
 | some d =>
  simp only [sH] at h
  split at h
  case isFalse => cases h
  rename_i hd
  split at h
  case h_2 => cases h
  rename_i x y T T2 ha ht
  split at h
  case h_2 => cases h
  rename_i ts by_ e
  obtain ⟨g1, g2, g3, _⟩ := hG T _ e
  split at h
  case h_2 => cases h
  rename_i c0 rows hrows
  have hz : (ts.zc.map (CV.av [])).length = ts.len := by rw [List.length_map, vD]
  have src : ∀ s1 : SS, gy c0 → (s1 = s ∨ ∃ d, cR d s = some s1) → True := fun _ _ _ => trivial
  have hsrc : gy c0 → nr P (s.st C.N).objs T2 ts.len (ev (s.st C.N).env y) = some (rows.map ts.cF) := by
   intro hc0
   unfold rP at hrows
   split at hrows
   ·rename_i b hy
    split at hrows
    ·rename_i e2
     split at hrows
     ·rename_i hb
      simp only [Option.some.injEq, Prod.mk.injEq] at hrows; obtain ⟨rfl, rfl⟩ := hrows
      have hts := cf.beq_eq _ _ hb
      subst hts
      have hev : ev (s.st C.N).env y = .str b := by rw [← bz, hy]; rfl
      rw [hev]
      simp only [nr, (hG T2 _ e2).1]
      rw [if_pos ⟨trivial, rfl⟩]
      exact congrArg some (tI b).symm
     ·cases hrows
    ·cases hrows
   ·rename_i hns
    split at hrows
    ·rename_i hsl
     have hview := ru hrows hc0
     rw [bz] at hview
     have hse : (bf P T2).isSome = true := by
      unfold ff at hsl
      split at hsl
      ·rename_i us bb e2; rw [(hG T2 _ e2).1]; rfl
      ·cases hsl
     cases hx : ev (s.st C.N).env y with
     | str b => rw [hx] at hview; simp [eM] at hview
     | _ =>
      rw [hx] at hview
      simp only [nr, hse, if_true]
      exact hview
    ·cases hrows
  split at h
  ·rename_i hx
   split at h
   case h_2 => cases h
   rename_i s1 h1
   simp only [Option.some.injEq, Prod.mk.injEq] at h; obtain ⟨rfl, rfl, rfl⟩ := h
   obtain ⟨hc0, hc1⟩ := lZ hc
   have c1 : rows.length ≤ cj := of_decide_eq_true hc1.1
   have c2 : rows.length * by_ ≤ cj := of_decide_eq_true hc1.2.1
   obtain ⟨a1, a2, a3⟩ := gl (N := C.N) h1
   have hev : ev (s.st C.N).env x = .gE := by rw [← bz, hx]; rfl
   have hn : ad d s.objs = none := by
    unfold cR at h1
    split at h1
    ·assumption
    ·cases h1
   refine ⟨s, ⟨.cw d ts.len 0 rows.length, (s.st C.N).env, (d, .arr ts.len (rows.map ts.cF)) :: (s.st C.N).objs⟩, .bh _, .bh _, rfl, rfl, ?_, ?_⟩
   ·simp only [CL, hd, if_true, ha, ht, hAppend, g1, g2, g3, hsrc hc0, hev]
    rw [if_pos ⟨fi hn, by simpa using c1, by simpa using c2, hz⟩, List.length_map]
   ·rw [jJ a3, n9]
    have hcov : zC (s.st C.N).env (s1.st C.N).env ∧ lB (s.st C.N).objs (s1.st C.N).objs := by
     unfold cR at h1
     split at h1
     ·simp only [Option.some.injEq] at h1; subst h1
      have key : ∀ x : CV, rU (id (x.av s.objs)) ((aw d x).av (az (aw d) s.objs)) := by
       intro x
       cases x with
       | own m =>
        simp only [aw]
        split
        ·exact .any _
        ·simp only [CV.av, cZ, id]
         cases ad m s.objs with
         | none => exact .bh _
         | some o => cases o <;> exact .bh _
       | cw m sz off len => simp only [aw]; split <;> first | exact .any _ | exact .bh _
       | ref m sz i off => simp only [aw]; split <;> first | exact .any _ | exact .bh _
       | cm f ns => simp only [aw]; split <;> first | exact .any _ | exact .bh _
       | _ => exact .bh _
      constructor
      ·have := xA (φ := id) (κ := aw d) (by rfl) key C.N s.env
       rw [re] at this
       exact this
      ·have := kC (φ := id) (κ := aw d) key s.objs
       rw [oU] at this
       exact this
     ·cases h1
    refine mg ?_ ⟨rfl, GV.bh _, hcov.2⟩
    refine ⟨by simp [eW, jq], fun i z hz => ?_⟩
    simp only [eW, List.getElem?_set, jq] at hz ⊢
    split at hz
    ·rename_i hdi
     rw [if_pos hdi]
     split at hz
     ·rename_i hlt
      simp only [Option.some.injEq] at hz; subst hz
      exact ⟨_, by rw [if_pos hlt], wv.bh _⟩
     ·cases hz
    ·rename_i hdi
     rw [if_neg hdi]
     exact hcov.1.2 i z hz
  ·rename_i m hx
   split at h
   case h_2 => cases h
   rename_i us l hl
   split at h
   case isFalse => cases h
   rename_i hb
   split at h
   case h_2 => cases h
   rename_i s1 h1
   simp only [Option.some.injEq, Prod.mk.injEq] at h; obtain ⟨rfl, rfl, rfl⟩ := h
   have hts := cf.beq_eq _ _ hb
   subst hts
   obtain ⟨hc0, hc1⟩ := lZ hc
   have c1 : l.length + rows.length ≤ cj := of_decide_eq_true hc1.1
   have c2 : (l.length + rows.length) * by_ ≤ cj := of_decide_eq_true hc1.2.1
   have hev : ev (s.st C.N).env x = .cw m us.len 0 l.length := by rw [← bz, hx]; simp [SV.av, VV.av, CV.av, hl]
   have hlk : look m (s.st C.N).objs = some (.arr us.len (l.map us.cF)) := by
    show look m (ai s.objs s.objs) = _
    rw [bk, hl]; rfl
   unfold cR at h1
   split at h1
   case h_2 => cases h1
   rename_i hn
   simp only [Option.some.injEq] at h1; subst h1
   have hn' : ad d (du m s.objs) = none := by
    simp only [cZ] at hn
    cases hq : ad d (du m s.objs) with
    | none => rfl
    | some o => simp [hq] at hn
   have hdr : look d (drop m (s.st C.N).objs) = none := by
    show look d (drop m (ai s.objs s.objs)) = none
    rw [← jD, bk, hn']; rfl
   refine ⟨s, ⟨.cw d us.len 0 (l.length + rows.length), (s.st C.N).env.map (fB (kill m)), (d, .arr us.len (l.map us.cF ++ rows.map us.cF)) :: iu (kill m) (drop m (s.st C.N).objs)⟩, .bh _, .bh _, rfl, rfl, ?_, ?_⟩
   ·simp only [CL, hd, if_true, ha, ht, hAppend, g1, g2, g3, hsrc hc0, hev, hlk, List.length_map]
    rw [if_pos ⟨trivial, trivial, trivial, hdr, c1, c2, by rw [vD]⟩]
   ·have key := IE (O := s.objs) (m := m) (d := d) (o := .arr us (rH l rows)) hn'
    have kE := xA (φ := kill m) (κ := fun x => aw d (aw m x)) (O := s.objs) (O' := (d, .arr us (rH l rows)) :: az (aw d) (az (aw m) (du m s.objs))) rfl key C.N s.env
    have kO := kC (φ := kill m) (κ := fun x => aw d (aw m x)) (O := s.objs) (O' := (d, .arr us (rH l rows)) :: az (aw d) (az (aw m) (du m s.objs))) key (du m s.objs)
    rw [dt]
    refine mg ?_ ?_
    ·have e1 : (SV.v (.c (.own d))).av ((d, .arr us (rH l rows)) :: az (aw d) (az (aw m) (du m s.objs))) = .cw d us.len 0 (l.length + rows.length) := by
      rw [n9]; simp [rH]
     show zC (eW _ (some d) _) (eW _ (some d) _)
     rw [e1]
     refine ⟨by simp [eW, jq], fun i z hz => ?_⟩
     simp only [eW, List.getElem?_set, jq, List.length_map] at hz ⊢
     split at hz
     ·rename_i hdi
      rw [if_pos hdi]
      split at hz
      ·rename_i hlt
       simp only [Option.some.injEq] at hz; subst hz
       exact ⟨_, by rw [if_pos hlt], wv.bh _⟩
      ·cases hz
     ·rename_i hdi
      rw [if_neg hdi]
      refine kE.2 i z ?_
      rw [← hz]
      simp only [SS.st, List.getElem?_map]
      cases (List.range C.N)[i]? with
      | none => rfl
      | some j => simp only [Option.map_some, zF (aw d) (aw m) rfl rfl]
    ·have e2 : drop m (s.st C.N).objs = ai s.objs (du m s.objs) := (jD _ _ _).symm
     show lB ((d, Obj.arr us.len (l.map us.cF ++ rows.map us.cF)) :: iu (kill m) (drop m (s.st C.N).objs))
      ((d, (SO.arr us (rH l rows)).av ((d, .arr us (rH l rows)) :: az (aw d) (az (aw m) (du m s.objs)))) :: ai ((d, .arr us (rH l rows)) :: az (aw d) (az (aw m) (du m s.objs))) (az (aw d) (az (aw m) (du m s.objs))))
     refine ⟨rfl, ⟨rfl, ?_⟩, ?_⟩
     ·simp only [rH, List.map_append]; exact Kv.bh _
     ·rw [e2]
      rw [← iv (aw d) (aw m) (du m s.objs)] at kO
      exact kO
  ·cases h
theorem AF (hG : Good P C.G) {o : Op}
  (h : sH C s dst o = some (c, v, s')) (hc : gy c) : ov P C.N s dst o (s'.put dst v) := by
 cases o with
 | box T x => exact Rg h
 | alloc T => exact KX hG h
 | buildSlice T len parts => exact xr hG h
 | makeSlice T l m => exact zu hG h hc
 | convert S T x => exact KY hG h hc
 | store T x y => exact KZ hG h hc
 | call cl =>
  obtain ⟨callee, args, tys⟩ := cl
  cases callee with
  | builtin b =>
   cases b with
   | append => exact Iu hG h hc
   | _ => cases dst <;> simp [sH] at h
  | _ => cases dst <;> simp [sH] at h
 | _ => cases dst <;> simp [sH] at h
end Go.Abs
namespace Go.Abs
open Go.RowKit
variable {os : List (Nat × Obj)} {D : Names}
theorem Oq {w0 w : World} {M0 : Nat → Prop} {os os' : List (Nat × Obj)} (ho : lB os os') (hm : Mem w0 M0 os D w) : Mem w0 M0 os' D w where
 lQ := fun n hn => by rw [hm.lQ n hn, (fG ho).1]
 small := fun n hn => hm.small n (by rw [(fG ho).1]; exact hn)
 rep := fun n o' d ho' hD => by
  obtain ⟨o, h1, h2⟩ := (fG ho).2 o' ho'
  exact EA h2 (hm.rep n o d h1 hD)
 inj := hm.inj
 lt := hm.lt
 own := hm.own
 grow := hm.grow
 os := hm.os
 tape := hm.tape
 output := hm.output
 bq := hm.bq
theorem qN {P : Program} {f : FuncId} {args args' : List AV} {os os' : List (Nat × Obj)} {r : CR} (h : fQ P f args' os' r) (ha : zC args args') (ho : lB os os') : fQ P f args os r := by
 intro w D vs hm hr
 refine h w D vs (Oq ho hm) ⟨by rw [hr.1, ha.1], fun i y hy => ?_⟩
 obtain ⟨x, hx, hxy⟩ := ha.2 i y hy
 exact zD hxy (hr.2 i x hx)
structure Perm where
 f : Nat → Nat
 g : Nat → Nat
 fg : ∀ n, f (g n) = n
 gf : ∀ n, g (f n) = n
 J5 : ∀ n, top ≤ n → f n = n
 Tc : f rn = rn
theorem Perm.Ra (π : Perm) {n : Nat} (h : top ≤ n) : π.g n = n := by have := π.gf n; rw [π.J5 n h] at this; exact this
theorem Perm.S5 (π : Perm) : π.g rn = rn := by have := π.gf rn; rw [π.Tc] at this; exact this
theorem Perm.Xt (π : Perm) {n : Nat} (h : n < top) : π.f n < top := by
 rcases Nat.lt_or_ge (π.f n) top with h1 | h1
 ·exact h1
 ·have := π.gf n
  rw [π.Ra h1] at this
  omega
theorem Perm.X6 (π : Perm) {n : Nat} (h : n < top) : π.g n < top := by
 rcases Nat.lt_or_ge (π.g n) top with h1 | h1
 ·exact h1
 ·have := π.fg n
  rw [π.J5 _ h1] at this
  omega
def Perm.S9 : Perm := ⟨id, id, fun _ => rfl, fun _ => rfl, fun _ _ => rfl, rfl⟩
def mO (a b n : Nat) : Nat := if n = a then b else if n = b then a else n
theorem rB (a b n : Nat) : mO a b (mO a b n) = n := by
 unfold mO
 by_cases h1 : n = a
 ·subst h1
  by_cases h2 : b = n <;> simp [h2]
 ·by_cases h2 : n = b
  ·subst h2; simp [h1]
  ·simp [h1, h2]
def Perm.swap (a b : Nat) (ha : a < top) (hb : b < top) (ha' : a ≠ rn) (hb' : b ≠ rn) : Perm :=
 ⟨mO a b, mO a b, rB a b, rB a b, fun n hn => by unfold mO; rw [if_neg (by omega), if_neg (by omega)], by unfold mO; rw [if_neg (Ne.symm ha'), if_neg (Ne.symm hb')]⟩
def Perm.comp (π ρ : Perm) : Perm :=
 ⟨fun n => π.f (ρ.f n), fun n => ρ.g (π.g n), fun n => by simp [π.fg, ρ.fg], fun n => by simp [π.gf, ρ.gf], fun n hn => by rw [ρ.J5 n hn, π.J5 n hn], by rw [ρ.Tc, π.Tc]⟩
def gh (h : Nat → Nat) : AV → AV
 | .cw n sz off len => .cw (h n) sz off len
 | .ref n sz i off => .ref (h n) sz i off
 | .cm f ns => .cm f (ns.map h)
 | x => x
def mB (h : Nat → Nat) : List (Nat × Obj) → List (Nat × Obj)
 | [] => []
 | (n, o) :: r => (h n, gF (gh h) o) :: mB h r
theorem wy (π : Perm) (n : Nat) : ∀ l, look (π.g n) (mB π.g l) = (look n l).map (gF (gh π.g))
 | [] => rfl
 | (m, o) :: r => by
  have ih := wy π n r
  by_cases h : m = n
  ·subst h; simp [mB, look]
  ·have : π.g m ≠ π.g n := fun e => h (by have := congrArg π.f e; simpa [π.fg] using this)
   simp [mB, look, h, this, ih]
theorem nZ (π : Perm) (n : Nat) (l : List (Nat × Obj)) : look n (mB π.g l) = (look (π.f n) l).map (gF (gh π.g)) := by
 have := wy π (π.f n) l
 rwa [π.gf] at this
def Names.yS (D : Names) (π : Perm) : Names := fun n => D (π.f n)
theorem EU (D : Names) (π : Perm) : (D.yS π).M = D.M := by
 funext b
 apply propext
 constructor
 ·rintro ⟨n, h⟩; exact ⟨π.f n, h⟩
 ·rintro ⟨n, h⟩; exact ⟨π.g n, by show D (π.f (π.g n)) = _; rw [π.fg]; exact h⟩
theorem Nz (D : Names) (π : Perm) : (D.yS π).N = D.N := by
 funext b
 apply propext
 constructor
 ·rintro ⟨n, hn, h⟩; exact ⟨π.f n, π.Xt hn, h⟩
 ·rintro ⟨n, hn, h⟩; exact ⟨π.g n, π.X6 hn, by show D (π.f (π.g n)) = _; rw [π.fg]; exact h⟩
theorem zU {w : World} (π : Perm) {x : AV} {v : Value} (h : Cell w D x v) : Cell w (D.yS π) (gh π.g x) v := by
 cases x with
 | cw n sz off len =>
  rcases h with ⟨h1, h2⟩ | ⟨b, cap, N, h1, h2⟩
  ·exact .inl ⟨by show (D (π.f (π.g n))).isSome = true; rw [π.fg]; exact h1, h2⟩
  ·exact .inr ⟨b, cap, N, by show D (π.f (π.g n)) = _; rw [π.fg]; exact h1, h2⟩
 | ref n sz i off => obtain ⟨b, h1, h2⟩ := h; exact ⟨b, by show D (π.f (π.g n)) = _; rw [π.fg]; exact h1, h2⟩
 | cm f ns =>
  obtain ⟨bs, h1, h2, h3⟩ := h
  refine ⟨bs, by rw [h1, List.length_map], fun i n b hn hb => ?_, h3⟩
  rw [List.getElem?_map] at hn
  obtain ⟨m, hm, rfl⟩ := Option.map_eq_some_iff.1 hn
  show D (π.f (π.g m)) = _
  rw [π.fg]; exact h2 i m b hm hb
 | _ => simp only [Cell, gh] at h ⊢; rw [EU]; exact h
theorem wH (w : World) (D : Names) (π : Perm) : Carry w w D (D.yS π) (gh π.g) := ⟨fun _ _ h => zU π h⟩
theorem Lv {w : World} (π : Perm) {o : Obj} {d : Option Nat} (h : dm w D o d) : dm w (D.yS π) (gF (gh π.g) o) d := by
 cases o with
 | box cs =>
  cases d with
  | none => exact h.elim
  | some b =>
   obtain ⟨vs, T, h1, h2, h3⟩ := h
   refine ⟨vs, T, h1, by simp [h2], fun i x hx => ?_⟩
   rw [List.getElem?_map] at hx
   obtain ⟨y, hy, rfl⟩ := Option.map_eq_some_iff.1 hx
   exact ⟨zU π (h3 i y hy).1, (h3 i y hy).2⟩
 | arr sz l =>
  cases d with
  | none => exact h
  | some b =>
   obtain ⟨vs, T, fz, h1, h2, h3, h4, h5, h6⟩ := h
   exact ⟨vs, T, fz, h1, h2, h3, h4, h5, fun j cs i x hj hx => by rw [EU]; exact h6 j cs i x hj hx⟩
 | mp kk k l =>
  cases d with
  | none => exact h.elim
  | some b => exact h
theorem EV {w0 w : World} {M0 : Nat → Prop} {objs : List (Nat × Obj)} (π : Perm) (hm : Mem w0 M0 objs D w) : Mem w0 M0 (mB π.g objs) (D.yS π) w where
 lQ := fun n hn => by
  rw [nZ]
  show (D (π.f n)).isSome = _
  rw [hm.lQ _ (π.Xt hn)]
  cases look (π.f n) objs <;> rfl
 small := fun n hn => by
  rw [nZ] at hn
  have h1 : (look (π.f n) objs).isSome = true := by revert hn; cases look (π.f n) objs <;> simp
  have h2 := hm.small _ h1
  rcases Nat.lt_or_ge n top with h | h
  ·exact h
  ·rw [π.J5 n h] at h2; omega
 rep := fun n o d ho hD => by
  rw [nZ] at ho
  obtain ⟨o', ho', rfl⟩ := Option.map_eq_some_iff.1 ho
  exact Lv π (hm.rep _ o' d ho' hD)
 inj := fun n m b h1 h2 => by
  have := hm.inj _ _ b h1 h2
  have := congrArg π.g this
  simpa [π.gf] using this
 lt := fun b hb => hm.lt b (by rw [← EU D π]; exact hb)
 own := fun b hb => hm.own b (by rw [← Nz D π]; exact hb)
 grow := hm.grow
 os := hm.os
 tape := hm.tape
 output := hm.output
 bq := by rw [EU]; exact hm.bq
def CR.yS (π : Perm) (r : CR) : CR := ⟨fB (gh π.g) r.x, mB π.g r.os, r.new.map (gF (gh π.g))⟩
theorem CR.Jg (π : Perm) (r : CR) : (r.yS π).objs = mB π.g r.objs := by
 obtain ⟨x, os, new⟩ := r
 cases new with
 | none => rfl
 | some o => simp [CR.yS, CR.objs, mB, π.S5]
theorem xc {P : Program} {f : FuncId} {args : List AV} {r : CR} (π : Perm) (h : fQ P f args os r) : fQ P f (args.map (fB (gh π.g))) (mB π.g os) (r.yS π) := by
 let ρ : Perm := ⟨π.g, π.f, π.gf, π.fg, fun n hn => π.Ra hn, π.S5⟩
 have hρ : ∀ D : Names, (D.yS ρ).yS π = D := fun D => by funext n; show D (π.g (π.f n)) = D n; rw [π.gf]
 have hC : ∀ x, gh ρ.g (gh π.g x) = x := by
  intro x
  cases x with
  | cw n sz off len => show AV.cw (π.f (π.g n)) sz off len = _; rw [π.fg]
  | ref n sz i off => show AV.ref (π.f (π.g n)) sz i off = _; rw [π.fg]
  | cm f ns =>
   show AV.cm f ((ns.map π.g).map π.f) = _
   rw [List.map_map, show (π.f ∘ π.g) = id from funext π.fg, List.map_id]
  | _ => rfl
 have hO : ∀ l, mB ρ.g (mB π.g l) = l := by
  intro l
  induction l with
  | nil => rfl
  | cons p l ih =>
   obtain ⟨n, o⟩ := p
   simp only [mB, ih]
   have e1 : ρ.g (π.g n) = n := π.fg n
   rw [e1]
   cases o with
   | box cs =>
    have : (gh ρ.g) ∘ (gh π.g) = id := funext hC
    simp [gF, this]
   | arr sz l => rfl
   | mp _ _ _ => rfl
 have hS : ∀ x, fB (gh ρ.g) (fB (gh π.g) x) = x := by
  have hid : (gh ρ.g) ∘ (gh π.g) = id := funext hC
  have hV : ∀ x, hH (gh ρ.g) (hH (gh π.g) x) = x := by
   intro x
   cases x with
   | agg l => simp [hH, hid]
   | cw n sz off len => exact hC (.cw n sz off len)
   | ref n sz i off => exact hC (.ref n sz i off)
   | cm f ns => exact hC (.cm f ns)
   | _ => rfl
  intro x
  cases x with
  | cI l =>
   have : (hH (gh ρ.g)) ∘ (hH (gh π.g)) = id := funext hV
   simp [fB, this]
  | agg l => exact hV (.agg l)
  | cw n sz off len => exact hC (.cw n sz off len)
  | ref n sz i off => exact hC (.ref n sz i off)
  | cm f ns => exact hC (.cm f ns)
  | _ => rfl
 intro w D vs hm hr
 have hm' := EV ρ hm
 rw [hO] at hm'
 have hr' : mS w (D.yS ρ) args vs := by
  refine ⟨by simpa using hr.1, fun i x hx => ?_⟩
  have := hr.2 i (fB (gh π.g) x) (by rw [List.getElem?_map, hx]; rfl)
  have := (wH w D ρ).slot this
  rwa [hS] at this
 have hN : (D.yS ρ).N = D.N := Nz D ρ
 refine (h w (D.yS ρ) vs (by rw [hN]; exact hm') hr').mono fun e w' hp => ?_
 obtain ⟨v, D', he, h1, h2, h3⟩ := hp
 refine ⟨v, D'.yS π, he, ?_, ?_, fun n d hn => ?_⟩
 ·rw [CR.Jg]
  rw [hN] at h1
  exact EV π h1
 ·exact (wH w' D' π).slot h2
 ·refine h3 (π.f n) d ?_
  show D (π.g (π.f n)) = some d
  rw [π.gf]; exact hn
theorem EP : ∀ (cs ns : List Nat), cs.length = ns.length → cs.Nodup → ns.Nodup → (∀ n ∈ cs, n < top ∧ n ≠ rn) → (∀ n ∈ ns, n < top ∧ n ≠ rn) → ∃ π : Perm, cs.map π.g = ns
 | [], [], _, _, _, _, _ => ⟨Perm.S9, rfl⟩
 | c :: cs, n :: ns, hl, hc, hn, hct, hnt => by
  simp only [List.nodup_cons] at hc hn
  obtain ⟨π, hπ⟩ := EP cs ns (by simpa using hl) hc.2 hn.2 (fun m hm => hct m (List.mem_cons_of_mem _ hm)) (fun m hm => hnt m (List.mem_cons_of_mem _ hm))
  have h1 : π.g c < top := π.X6 (hct c (List.mem_cons_self ..)).1
  have h2 : π.g c ≠ rn := fun e => (hct c (List.mem_cons_self ..)).2 (by have := congrArg π.f e; rwa [π.fg, π.Tc] at this)
  obtain ⟨h3, h4⟩ := hnt n (List.mem_cons_self ..)
  refine ⟨π.comp (Perm.swap (π.g c) n h1 h3 h2 h4), ?_⟩
  have e : ∀ m, (π.comp (Perm.swap (π.g c) n h1 h3 h2 h4)).g m = mO (π.g c) n (π.g m) := fun m => rfl
  simp only [List.map_cons, e]
  have hh : mO (π.g c) n (π.g c) = n := by simp [mO]
  rw [hh]
  congr 1
  rw [← hπ]
  apply List.map_congr_left
  intro m hm
  rw [e]
  unfold mO
  rw [if_neg (fun e => hc.1 (by have := congrArg π.f e; rw [π.fg, π.fg] at this; rwa [← this])), if_neg (fun e => hn.1 (by rw [← hπ, ← e]; exact List.mem_map_of_mem hm))]
 | [], _ :: _, h, _, _, _, _ => by simp at h
 | _ :: _, [], h, _, _, _, _ => by simp at h
def CT.av : (c : CT) → c.T → AV
 | .ty t, x => t.av x
 | .ag ts, x => .agg (ts.cF x)
def cP (ν : Nat → Nat) : (l : List AT) → Nat → eF l → List AV
 | [], _, _ => []
 | .v c :: l, i, x => c.av x.1 :: cP ν l (i + 1) x.2
 | .bx ts :: l, i, x => .ref (ν i) ts.len 0 0 :: cP ν l (i + 1) x.2
def lH (ν : Nat → Nat) : (l : List AT) → Nat → eF l → List (Nat × Obj)
 | [], _, _ => []
 | .v _ :: l, i, x => lH ν l (i + 1) x.2
 | .bx ts :: l, i, x => (ν i, .box (ts.cF x.1)) :: lH ν l (i + 1) x.2
def er (ν : Nat → Nat) : (l : List AT) → Nat → kG (fp l) → List (Nat × Obj)
 | [], _, _ => []
 | .v _ :: l, i, x => er ν l (i + 1) x
 | .bx ts :: l, i, x => (ν i, .box (ts.cF x.1)) :: er ν l (i + 1) x.2
def cQ : (l : List CT) → jc l → List AV
 | [], _ => []
 | c :: l, x => c.av x.1 :: cQ l x.2
def RT.av : (r : RT) → r.T → AV
 | .v c, x => c.av x
 | .cI l, x => .cI (cQ l x)
 | .own ts, x => .cw rn ts.len 0 x.length
 | .box ts, _ => .ref rn ts.len 0 0
 | .unit, _ => .cI []
def RT.new : (r : RT) → r.T → Option Obj
 | .own ts, x => some (.arr ts.len (x.map ts.cF))
 | .box ts, x => some (.box (ts.cF x))
 | _, _ => none
def jd (ν : Nat → Nat) (g : ee) (r : g.R) : CR := ⟨g.ret.av r.1, er ν g.args 0 r.2, g.ret.new r.1⟩
def canon (i : Nat) : Nat := 900000 + i
def TC (P : Program) (f : FuncId) (e : Entry) : Prop := ∀ x r, e.F x = some r → fQ P f (cP canon e.sig.args 0 x) (lH canon e.sig.args 0 x) (jd canon e.sig r)
def gv (P : Program) (FT : List (Nat × Entry)) : Prop := ∀ f e, P7 FT f = some e → au P f = true ∧ TC P f e
theorem EW (h : Nat → Nat) : ∀ (t : Ty) (x : t.T), gh h (t.av x) = t.av x
 | .int _, _ => rfl
 | .bool, _ => rfl
 | .str, _ => rfl
 | .sl _, _ => rfl
theorem o6 (h : Nat → Nat) : ∀ (ts : cf) (x : ts.T), (ts.cF x).map (gh h) = ts.cF x
 | .nil, _ => rfl
 | .cons t ts, x => by simp only [cf.cF, List.map_cons, EW, o6 h ts]
theorem IP (φ : AV → AV) (t : Ty) (x : t.T) : fB φ (t.av x) = φ (t.av x) := by cases t <;> rfl
theorem xO (h : Nat → Nat) (c : CT) (x : c.T) : fB (gh h) (c.av x) = c.av x ∧ hH (gh h) (c.av x) = c.av x := by
 cases c with
 | ty t => exact ⟨by show fB _ (t.av x) = _; rw [IP, EW]; rfl, by cases t <;> rfl⟩
 | ag ts => simp [CT.av, fB, hH, o6]
theorem uX (π : Perm) (ν : Nat → Nat) : ∀ (l : List AT) (i : Nat) (x : eF l), (cP ν l i x).map (fB (gh π.g)) = cP (fun i => π.g (ν i)) l i x
 | [], _, _ => rfl
 | .v c :: l, i, x => by simp only [cP, List.map_cons, (xO _ c x.1).1, uX π ν l]
 | .bx ts :: l, i, x => by simp only [cP, List.map_cons, uX π ν l]; rfl
theorem DA (π : Perm) (ν : Nat → Nat) : ∀ (l : List AT) (i : Nat) (x : eF l), mB π.g (lH ν l i x) = lH (fun i => π.g (ν i)) l i x
 | [], _, _ => rfl
 | .v c :: l, i, x => by simp only [lH, DA π ν l]
 | .bx ts :: l, i, x => by simp only [lH, mB, DA π ν l, gF, o6]
theorem uY (π : Perm) (ν : Nat → Nat) : ∀ (l : List AT) (i : Nat) (x : kG (fp l)), mB π.g (er ν l i x) = er (fun i => π.g (ν i)) l i x
 | [], _, _ => rfl
 | .v c :: l, i, x => uY π ν l (i + 1) x
 | .bx ts :: l, i, x => by simp only [er, mB, uY π ν l, gF, o6]
theorem wI (π : Perm) : ∀ (l : List CT) (x : jc l), (cQ l x).map (hH (gh π.g)) = cQ l x
 | [], _ => rfl
 | c :: l, x => by simp only [cQ, List.map_cons, (xO _ c x.1).2, wI π l]
theorem OF (π : Perm) (ν : Nat → Nat) (g : ee) (r : g.R) : (jd ν g r).yS π = jd (fun i => π.g (ν i)) g r := by
 obtain ⟨args, ret⟩ := g
 simp only [CR.yS, jd, uY]
 congr 1
 ·cases ret with
  | v c => exact (xO _ c _).1
  | cI l => simp only [RT.av, fB, wI]
  | own ts => simp only [RT.av, fB, hH, gh, π.S5]
  | box ts => simp only [RT.av, fB, hH, gh, π.S5]
  | unit => rfl
 ·cases ret with
  | box ts => simp [RT.new, gF, o6]
  | _ => rfl
end Go.Abs
namespace Go.Abs
open Go.RowKit
open Classical in
noncomputable def one (f : FuncId) (as : List AV) (os : List (Nat × Obj)) (r : CR) : Table := fun f' as' os' => if f' = f ∧ as' = as ∧ os' = os then some r else none
theorem xF (f : FuncId) (as : List AV) (os : List (Nat × Obj)) (r : CR) : one f as os r f as os = some r := by unfold one; rw [if_pos ⟨rfl, rfl, rfl⟩]
theorem qB {P : Program} {f : FuncId} {as : List AV} {os : List (Nat × Obj)} {r : CR} (hf : au P f = true) (hc : fQ P f as os r) : Sound P (one f as os r) := by
 intro f' as' os' r' h
 unfold one at h
 split at h
 ·rename_i e
  obtain ⟨rfl, rfl, rfl⟩ := e
  simp only [Option.some.injEq] at h; subst h
  exact ⟨hf, hc⟩
 ·cases h
theorem toT_le {O : ah} {t : Ty} {x : CV} {a : t.T} (h : toT O t x = some a) (hn : ∀ n, x ≠ .own n) : rU (x.av O) (t.av a) := by
 cases x with
 | k v =>
  simp only [toT] at h
  have := NA t v a h
  subst this
  show rU (t.kv a).av _
  rw [ur]; exact .bh _
 | gE =>
  cases t with
  | sl ts =>
   simp only [toT, Option.some.injEq] at h; subst h
   exact .inr (.inr ⟨rfl, _, rfl⟩)
  | _ => simp [toT] at h
 | own n => exact absurd rfl (hn n)
 | _ => cases t <;> simp [toT] at h
theorem toT_own {O : ah} {t : Ty} {n : Nat} {a : t.T} (h : toT O t (.own n) = some a) : ∃ ts l, ad n O = some (.arr ts l) ∧ t.av a = .sl ts.len (l.map ts.cF) := by
 cases t with
 | sl ts =>
  simp only [toT] at h
  split at h
  ·rename_i us l hl
   split at h
   ·rename_i hb
    have e := cf.beq_eq us ts hb
    subst e
    simp only [Option.some.injEq] at h; subst h
    exact ⟨_, _, hl, rfl⟩
   ·cases h
  ·cases h
 | _ => simp [toT] at h
theorem toT_cases {O : ah} {t : Ty} {x : CV} {a : t.T} (h : toT O t x = some a) : (∃ n, x = .own n) ∨ ((∀ n, x ≠ .own n) ∧ nK (x.av O) = true ∧ iN x = true) := by
 cases x with
 | own n => exact .inl ⟨n, rfl⟩
 | k v => exact .inr ⟨by simp, by cases v <;> rfl, rfl⟩
 | gE => exact .inr ⟨by simp, rfl, rfl⟩
 | _ => cases t <;> simp [toT] at h
theorem GW {O : ah} {t : Ty} {x : CV} {a : t.T} (h : toT O t x = some a) : ∃ y, mu (ai O O) (x.av O) = some y ∧ rU y (t.av a) ∧ nK y = true := by
 rcases toT_cases h with ⟨n, rfl⟩ | ⟨hn, hnf, _⟩
 ·obtain ⟨ts, l, hl, e⟩ := toT_own h
  refine ⟨.sl ts.len (l.map ts.cF), ?_, ?_, rfl⟩
  ·have hv : eM (ai O O) ts.len (.cw n ts.len 0 l.length) = some (l.map ts.cF) := by
    have e2 : List.take l.length (List.map ts.cF l) = List.map ts.cF l := List.take_of_length_le (by simp)
    simp [eM, bk, hl, SO.av, e2]
   simp only [CV.av, hl, mu, hv, Option.map_some]
  ·rw [e]; exact .bh _
 ·refine ⟨x.av O, ?_, toT_le h hn, hnf⟩
  cases hx : x.av O with
  | cw => rw [hx] at hnf; simp [nK] at hnf
  | _ => rfl
theorem uA {O : ah} : ∀ {ts : cf} {l : List CV} {x : ts.T}, toTs O ts l = some x → ∃ ys, (l.map (CV.av O)).mapM (mu (ai O O)) = some ys ∧ qc ys (ts.cF x) ∧ ys.all nK = true
 | .nil, [], _, _ => ⟨[], rfl, qc.bh _, rfl⟩
 | .nil, _ :: _, _, h => by simp [toTs] at h
 | .cons _ _, [], _, h => by simp [toTs] at h
 | .cons t ts, c :: l, x, h => by
  simp only [toTs] at h
  split at h
  case h_2 => cases h
  rename_i a b h1 h2
  cases h
  obtain ⟨y, g1, g2, g3⟩ := GW h1
  obtain ⟨ys, k1, k2, k3⟩ := uA h2
  refine ⟨y :: ys, by simp [List.mapM_cons, g1, k1], ?_, by simp [g3, k3]⟩
  exact qc.append (a := [y]) (b := [t.av a]) ⟨rfl, fun i z hz => by
   cases i with
   | zero => simp at hz; subst hz; exact ⟨y, rfl, g2⟩
   | succ i => simp at hz⟩ k2
theorem rp {O : ah} : ∀ {ts : cf} {l : List CV} {x : ts.T}, toTs O ts l = some x → cg l = none → qc (l.map (CV.av O)) (ts.cF x) ∧ (l.map (CV.av O)).all nK = true
 | .nil, [], _, _, _ => ⟨qc.bh _, rfl⟩
 | .nil, _ :: _, _, h, _ => by simp [toTs] at h
 | .cons _ _, [], _, h, _ => by simp [toTs] at h
 | .cons t ts, c :: l, x, h, hf => by
  simp only [toTs] at h
  split at h
  case h_2 => cases h
  rename_i a b h1 h2
  cases h
  have hno : ∀ n, c ≠ .own n := by intro n e; subst e; simp [cg] at hf
  have hf2 : cg l = none := by
   cases c <;> first | exact hf | (simp [cg] at hf; done)
  obtain ⟨k1, k2⟩ := rp h2 hf2
  rcases toT_cases h1 with ⟨n, e⟩ | ⟨hn, hnf, _⟩
  ·exact absurd e (hno n)
  ·refine ⟨qc.append (a := [c.av O]) (b := [t.av a]) ⟨rfl, fun i z hz => by
    cases i with
    | zero => simp at hz; subst hz; exact ⟨c.av O, rfl, toT_le h1 hn⟩
    | succ i => simp at hz⟩ k1, by simp only [List.map_cons, List.all_cons, hnf, k2, Bool.and_self]⟩
theorem IM {O : ah} {c : CT} {x : SV} {a : c.T} (h : toCT O c x = some a) : ∃ y, rI (ai O O) (x.av O) = some y ∧ wv y (c.av a) ∧ nf y = true := by
 unfold toCT at h
 split at h
 ·rename_i t x
  rcases toT_cases h with ⟨n, rfl⟩ | ⟨hn, hnf, _⟩
  ·obtain ⟨ts, l, hl, e⟩ := toT_own h
   refine ⟨.sl ts.len (l.map ts.cF), ?_, ?_, rfl⟩
   ·have hv : eM (ai O O) ts.len (.cw n ts.len 0 l.length) = some (l.map ts.cF) := by
     have e2 : List.take l.length (List.map ts.cF l) = List.map ts.cF l := List.take_of_length_le (by simp)
     simp [eM, bk, hl, SO.av, e2]
    simp only [SV.av, VV.av, CV.av, hl, rI, mu, hv, Option.map_some]
   ·show wv _ (t.av a)
    rw [e]; exact .bh _
  ·have hle := toT_le h hn
   have key : ∀ y : AV, (∀ l, y ≠ .agg l) → (∀ l, y ≠ .cI l) → nK y = true → rI (ai O O) y = some y ∧ nf y = true := by
    intro y h1 h2 h3
    cases y with
    | agg l => exact absurd rfl (h1 l)
    | cI l => exact absurd rfl (h2 l)
    | cw => simp [nK] at h3
    | ref => simp [nK] at h3
    | cm => simp [nK] at h3
    | _ => exact ⟨rfl, rfl⟩
   obtain ⟨k1, k2⟩ := key (x.av O) (dx.1) (dx.2) hnf
   refine ⟨_, k1, ?_, k2⟩
   show wv (x.av O) (t.av a)
   cases hx : x.av O with
   | agg l => exact absurd hx (dx.1 l)
   | cI l => exact absurd hx (dx.2 l)
   | _ => rw [hx] at hle; exact hle
 ·rename_i ts l
  obtain ⟨ys, h1, h2, h3⟩ := uA h
  refine ⟨.agg ys, ?_, .inr ⟨_, rfl, h2⟩, h3⟩
  simp only [SV.av, VV.av, rI, h1, Option.map_some]
 ·cases h
def rK : List AT → Bool
 | [] => true
 | .v _ :: l => rK l
 | .bx _ :: _ => false
theorem rV : ∀ {l : List AT}, (fp l).isEmpty = true → rK l = true
 | [], _ => rfl
 | .v _ :: l, h => rV (l := l) h
 | .bx _ :: l, h => by simp [fp] at h
theorem uw {x y : AV} {l m : List AV} (h : wv x y) (k : zC l m) : zC (x :: l) (y :: m) := by
 refine ⟨by simp [k.1], fun i z hz => ?_⟩
 cases i with
 | zero => simp only [List.getElem?_cons_zero, Option.some.injEq] at hz ⊢; subst hz; exact ⟨x, rfl, h⟩
 | succ i => simp only [List.getElem?_cons_succ] at hz ⊢; exact k.2 i z hz
theorem wx {O : ah} {ν : Nat → Nat} : ∀ {l : List AT} {xs : List SV} {i : Nat} {a : eF l}, rK l = true → toArgs O l xs = some a →
  ∃ ys, (xs.map (SV.av O)).mapM (rI (ai O O)) = some ys ∧ zC ys (cP ν l i a) ∧ ys.all nf = true
 | [], [], i, a, _, _ => ⟨[], rfl, zC.bh _, rfl⟩
 | [], _ :: _, i, a, _, h => by simp [toArgs] at h
 | _ :: _, [], i, a, _, h => by simp [toArgs] at h
 | .bx _ :: _, _ :: _, i, a, hb, h => by simp [rK] at hb
 | .v c :: l, x :: xs, i, a, hb, h => by
  simp only [toArgs] at h
  split at h
  ·rename_i p q h1 h2
   simp only [Option.some.injEq] at h; subst h
   obtain ⟨ys, k1, k2, k3⟩ := wx (l := l) (ν := ν) (i := i + 1) hb h2
   obtain ⟨y, g1, g2, g3⟩ := IM (c := c) h1
   refine ⟨y :: ys, ?_, uw g2 k2, by simp [g3, k3]⟩
   simp only [List.map_cons, List.mapM_cons, g1, k1]
   rfl
  ·cases h
def fR : List AT → Nat → List Nat
 | [], _ => []
 | .bx _ :: l, i => i :: fR l (i + 1)
 | .v _ :: l, i => fR l (i + 1)
theorem tZ {a b : List CV} (hab : cg (a ++ b) = none) : cg a = none ∧ cg b = none := by
 induction a with
 | nil => exact ⟨rfl, hab⟩
 | cons x a ih => cases x <;> simp only [List.cons_append, cg, reduceCtorEq] at hab <;> simp only [cg] <;> exact ih hab
theorem qs {O : ah} {ν : Nat → Nat} : ∀ {l : List AT} {xs : List SV} {i : Nat} {a : eF l}, toArgs O l xs = some a → cg (xs.flatMap bw) = none → (fR l i).map ν = bp l xs →
  zC (xs.map (SV.av O)) (cP ν l i a) ∧ (xs.map (SV.av O)).all l9 = true ∧ fD (xs.map (SV.av O)) = bp l xs ∧ (∀ n ∈ bp l xs, ∃ cs, ad n O = some (.box cs) ∧ cs.all iN = true) ∧
   lB (eB (bp l xs) (ai O O)) (lH ν l i a)
 | [], [], i, a, _, _, _ => ⟨zC.bh _, rfl, rfl, by simp [bp], trivial⟩
 | [], _ :: _, i, a, h, _, _ => by simp [toArgs] at h
 | _ :: _, [], i, a, h, _, _ => by simp [toArgs] at h
 | .v c :: l, x :: xs, i, a, h, hf, hν => by
  simp only [toArgs] at h
  split at h
  ·rename_i p q h1 h2
   simp only [Option.some.injEq] at h; subst h
   simp only [List.flatMap_cons] at hf
   obtain ⟨f1, f2⟩ := tZ hf
   obtain ⟨k1, k2, k3, k4, k5⟩ := qs (l := l) (ν := ν) (i := i + 1) h2 f2 hν
   have hx : wv (x.av O) (c.av p) ∧ l9 (x.av O) = true ∧ fD [x.av O] = [] := by
    have h1 : toCT O c x = some p := h1
    cases c with
    | ty t =>
     cases x with
     | cI l => simp [toCT] at h1
     | v x =>
      cases x with
      | g l => simp [toCT] at h1
      | c y =>
       simp only [toCT] at h1
       have hno : ∀ n, y ≠ .own n := by
        intro n e; subst e; simp [bw, cg] at f1
       rcases toT_cases h1 with ⟨n, e⟩ | ⟨hn, hnf, _⟩
       ·exact absurd e (hno n)
       ·have hle := toT_le h1 hn
        show wv (y.av O) (t.av p) ∧ l9 (y.av O) = true ∧ fD [y.av O] = []
        cases hxa : y.av O with
        | agg l => exact absurd hxa (dx.1 l)
        | cI l => exact absurd hxa (dx.2 l)
        | cw => rw [hxa] at hnf; simp [nK] at hnf
        | ref => rw [hxa] at hnf; simp [nK] at hnf
        | cm => rw [hxa] at hnf; simp [nK] at hnf
        | _ =>
         rw [hxa] at hle
         exact ⟨hle, rfl, rfl⟩
    | ag ts =>
     cases x with
     | cI l => simp [toCT] at h1
     | v x =>
      cases x with
      | c y => simp [toCT] at h1
      | g l' =>
       simp only [toCT] at h1
       obtain ⟨g1, hnf⟩ := rp (O := O) h1 (by simpa [bw] using f1)
       exact ⟨.inr ⟨_, rfl, g1⟩, hnf, rfl⟩
   refine ⟨uw hx.1 k1, by simp only [List.map_cons, List.all_cons, hx.2.1, k2, Bool.and_self], ?_, k4, k5⟩
   have e1 : fD ((x :: xs).map (SV.av O)) = fD [x.av O] ++ fD (xs.map (SV.av O)) := by
    simp only [fD, List.map_cons, ← List.filterMap_append, List.singleton_append]
   rw [e1, hx.2.2, k3]; rfl
  ·cases h
 | .bx ts :: l, x :: xs, i, a, h, hf, hν => by
  simp only [toArgs] at h
  split at h
  ·rename_i p q h1 h2
   simp only [Option.some.injEq] at h; subst h
   simp only [List.flatMap_cons] at hf
   obtain ⟨f1, f2⟩ := tZ hf
   have hxx : ∃ n sz, x = .v (.c (.ref n sz 0 0)) := by
    cases x with
    | cI l => simp [toAT] at h1
    | v x =>
     cases x with
     | g l => simp [toAT] at h1
     | c y =>
      cases y with
      | ref n sz i off =>
       cases i with
       | succ i => simp [toAT] at h1
       | zero =>
        cases off with
        | succ off => simp [toAT] at h1
        | zero => exact ⟨n, sz, rfl⟩
      | _ => simp [toAT] at h1
   obtain ⟨n, sz, rfl⟩ := hxx
   ·simp only [toAT] at h1
    split at h1
    case isFalse => cases h1
    rename_i hsz
    split at h1
    case h_2 => cases h1
    rename_i cs hcs
    simp only [fR, List.map_cons, bp, List.cons.injEq] at hν
    obtain ⟨hνi, hν⟩ := hν
    obtain ⟨k1, k2, k3, k4, k5⟩ := qs (l := l) (ν := ν) (i := i + 1) h2 f2 hν
    obtain ⟨g1, g2, _⟩ := toKVs_av (O := O) h1
    refine ⟨uw ?_ k1, ?_, ?_, ?_, ?_⟩
    ·show wv (AV.ref n sz 0 0) (.ref (ν i) _ 0 0)
     rw [hνi, hsz]; exact .bh _
    ·have : l9 ((SV.v (.c (.ref n sz 0 0))).av O) = true := rfl
     simp only [List.map_cons, List.all_cons, this, k2, Bool.and_self]
    ·have e1 : fD ((SV.v (.c (.ref n sz 0 0)) :: xs).map (SV.av O)) = n :: fD (xs.map (SV.av O)) := rfl
     rw [e1, k3]; rfl
    ·intro m hm
     simp only [bp, List.mem_cons] at hm
     rcases hm with rfl | hm
     ·exact ⟨cs, hcs, g2⟩
     ·exact k4 m hm
    ·have e2 : eB (bp (.bx ts :: l) (SV.v (.c (.ref n sz 0 0)) :: xs)) (ai O O) = (n, .box (cs.map (CV.av O))) :: eB (bp l xs) (ai O O) := by
      simp only [bp, eB, List.filterMap_cons, bk, hcs, Option.map_some, SO.av]
     rw [e2]
     exact ⟨hνi.symm, g1, k5⟩
  ·cases h
theorem nU {O : ah} (c : CT) (x : c.T) : (c.sv x).av O = c.av x := by
 cases c with
 | ty t => exact ur t x
 | ag ts => simp only [CT.sv, SV.av, VV.av, CT.av, ly]
theorem NW {O : ah} (c : CT) (x : c.T) : (c.vv x).av O = c.av x := by
 cases c with
 | ty t => exact ur t x
 | ag ts => simp only [CT.vv, VV.av, CT.av, ly]
theorem yM {O : ah} : ∀ (l : List CT) (x : jc l), (Tl l x).map (VV.av O) = cQ l x
 | [], _ => rfl
 | c :: l, x => by simp only [Tl, cQ, List.map_cons, NW, yM l]
theorem mG : ∀ {l : List AT} {xs : List SV} {o : kG (fp l)} {O : ah}, rK l = true → ay l xs o O = O
 | [], xs, o, O, _ => by cases xs <;> rfl
 | .v _ :: l, [], o, O, h => rfl
 | .v _ :: l, _ :: xs, o, O, h => mG (l := l) h
 | .bx _ :: _, _, _, _, h => by simp [rK] at h
theorem zq : ∀ (t : Ty) (x : t.T), S4 t = true → cy (t.av x) = true
 | .int _, _, _ => rfl
 | .bool, _, _ => rfl
 | .str, _, _ => rfl
 | .sl _, _, h => by simp [S4] at h
theorem wi : ∀ (ts : cf) (x : ts.T), KS ts = true → (ts.cF x).all cy = true
 | .nil, _, _ => rfl
 | .cons t ts, x, h => by
  simp only [KS, Bool.and_eq_true] at h
  simp only [cf.cF, List.all_cons, zq t _ h.1, wi ts _ h.2, Bool.and_self]
theorem zp (c : CT) (x : c.T) (h : S3 c = true) : (match c.av x with | .agg l => l.all cy | y => cy y) = true ∧ (∀ l, c.av x ≠ .cI l) := by
 cases c with
 | ty t =>
  have := zq t x h
  refine ⟨?_, ?_⟩
  ·show (match t.av x with | .agg l => l.all cy | y => cy y) = true
   cases hx : t.av x with
   | agg l => rw [hx] at this; simp [cy] at this
   | _ => rw [hx] at this; exact this
  ·intro l e
   have e : t.av x = .cI l := e
   rw [e] at this; simp [cy] at this
 | ag ts => exact ⟨wi ts x h, by simp [CT.av]⟩
theorem ue (r : RT) (x : r.T) (h : CK r = true) : ground (r.av x) = true ∧ r.new x = none ∧ (∀ d, rename d (r.av x) = r.av x) ∧ nf (r.av x) = true := by
 have key : ∀ y : AV, ground y = true → (∀ d, rename d y = y) ∧ nf y = true := by
  intro y hy
  have gn : ∀ l : List AV, l.all cy = true → l.all nK = true := fun l hl => by
   rw [List.all_eq_true] at hl ⊢
   intro z hz
   have := hl z hz
   cases z <;> simp_all [cy, nK]
  cases y with
  | cw => simp [ground, cy] at hy
  | ref => simp [ground, cy] at hy
  | agg l => exact ⟨fun _ => rfl, gn l hy⟩
  | cI l =>
   refine ⟨fun _ => rfl, ?_⟩
   simp only [ground, nf] at hy ⊢
   rw [List.all_eq_true] at hy ⊢
   intro z hz
   have := hy z hz
   cases z with
   | agg l => exact gn l this
   | _ => simp_all [cy, IX, nK]
  | _ => first | exact ⟨fun _ => rfl, rfl⟩ | simp [ground, cy] at hy
 cases r with
 | v c =>
  obtain ⟨h1, h2⟩ := zp c x h
  have hg : ground (c.av x) = true := by
   cases hx : c.av x with
   | cI l => exact absurd hx (h2 l)
   | _ => rw [hx] at h1; exact h1
  exact ⟨hg, rfl, key _ hg⟩
 | cI l =>
  have hg : ground (.cI (cQ l x)) = true := by
   simp only [CK] at h
   simp only [ground]
   have : ∀ (l : List CT) (x : jc l), l.all S3 = true → (cQ l x).all (fun x => match x with | .agg l => l.all cy | x => cy x) = true := by
    intro l
    induction l with
    | nil => intro _ _; rfl
    | cons c l ih =>
     intro x h
     simp only [List.all_cons, Bool.and_eq_true] at h
     simp only [cQ, List.all_cons, Bool.and_eq_true]
     exact ⟨(zp c x.1 h.1).1, ih x.2 h.2⟩
   exact this l x h
  exact ⟨hg, rfl, key _ hg⟩
 | _ => simp [CK] at h
end Go.Abs
