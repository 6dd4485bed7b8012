/- The reading operations: soundness. -/
import Derived.Test.YtplngcjkghnkcaaExD
namespace Go.Abs
open Go.RowKit

theorem asC_eq {x : SV} {c : CV} (h : asC x = some c) : x = .v (.c c) := by
  unfold asC at h; split at h
  · simp only [Option.some.injEq] at h; subst h; rfl
  · cases h
theorem asK_eq {x : SV} {k : KV} (h : asK x = some k) : x = .v (.c (.k k)) := by
  unfold asK at h; split at h
  · simp only [Option.some.injEq] at h; subst h; rfl
  · cases h
theorem asI_eq {x : SV} {n : Int} (h : asI x = some n) : ∃ k, x = .v (.c (.k (.int k n))) := by
  unfold asI at h; split at h
  · simp only [Option.some.injEq] at h; subst h; exact ⟨_, rfl⟩
  · cases h
theorem asC_ev {C : Cfg} {s : SS} {o : Operand} {c : CV} (h : asC (sev C s o) = some c) : ev (s.st C.N).env o = c.av s.objs := by
  rw [← sev_av, asC_eq h]; rfl
theorem asK_ev {C : Cfg} {s : SS} {o : Operand} {k : KV} (h : asK (sev C s o) = some k) : ev (s.st C.N).env o = k.av := by
  rw [← sev_av, asK_eq h]; rfl
theorem asI_ev {C : Cfg} {s : SS} {o : Operand} {n : Int} (h : asI (sev C s o) = some n) : ∃ k, ev (s.st C.N).env o = .int k n := by
  obtain ⟨k, e⟩ := asI_eq h
  exact ⟨k, by rw [← sev_av, e]; rfl⟩

theorem getD_map_lt {α β : Type} (f : α → β) (l : List α) (n : Nat) (d : α) (e : β) (h : n < l.length) : (l.map f).getD n e = f (l.getD n d) := by
  simp [List.getD, h]

theorem lAt_av {ts : Tys} {l : List ts.T} {n : Int} (h0 : 0 ≤ n) (h1 : n < l.length) : (l.map ts.avs).getD n.toNat [] = ts.avs (lAt ts.d l n) := by
  unfold lAt
  exact getD_map_lt _ _ _ _ _ (by omega)

theorem ldC_av {D : Bool × Nat} {cs : List CV} {x : VV} {O : SObjs} (h : ldC D cs = some x) : ldCells D.1 D.2 (cs.map (CV.av O)) = some (x.av O) := by
  unfold ldC at h
  unfold ldCells
  split at h
  · rename_i hg
    split at h
    · rename_i hn
      simp only [Option.some.injEq] at h; subst h
      simp [hg, hn, VV.av]
    · cases h
  · rename_i hg
    cases cs with
    | nil => simp at h
    | cons c cs =>
      simp only [List.head?_cons, Option.map_some, Option.some.injEq] at h; subst h
      simp [hg, VV.av]

theorem sCells_av {O : SObjs} {n sz i off : Nat} {c : List Bool} {cs : List CV} (h : sCells O n sz i off = some (c, cs)) (hc : allT c) : cellsAt (objsAV O O) n sz i off = some (cs.map (CV.av O)) := by
  unfold sCells at h
  split at h
  · rename_i cs' hl
    split at h
    · simp only [Option.some.injEq, Prod.mk.injEq] at h; obtain ⟨_, rfl⟩ := h
      simp [cellsAt, lookS_av, hl, SO.av]
    · cases h
  · rename_i ts l hl
    split at h
    · rename_i hsz
      simp only [Option.some.injEq, Prod.mk.injEq] at h; obtain ⟨rfl, rfl⟩ := h
      have h0 : i + 1 ≤ l.length := of_decide_eq_true hc.1
      simp only [cellsAt, lookS_av, hl, Option.map_some, SO.av, List.length_map]
      rw [if_pos ⟨hsz, h0⟩]
      simp only [lGet, List.map_drop, kvs_cav]
      congr 2
      exact getD_map_lt _ _ _ _ _ h0
    · cases h
  · cases h

theorem plainNC_av {O : SObjs} {x : CV} (h : plainNC O x = true) : plainN (x.av O) = true := by
  cases x with
  | k v => cases v <;> rfl
  | own n =>
    simp only [plainNC] at h
    split at h
    · rename_i ts l e
      simp [CV.av, e, plainN]
    · cases h
  | _ => first | rfl | simp [plainNC] at h
theorem not_agg {O : SObjs} {x : CV} : (∀ l, x.av O ≠ .agg l) ∧ ∀ l, x.av O ≠ .tup l := by
  cases x with
  | k v => cases v <;> simp [CV.av, KV.av]
  | own n => simp only [CV.av]; split <;> simp
  | raw a => simp only [CV.av]; split <;> simp
  | _ => simp [CV.av]
theorem cellsOf_c {O : SObjs} {x : CV} (h : plainN (x.av O) = true) : cellsOf (x.av O) = some [x.av O] := by
  unfold cellsOf
  split
  · rename_i l e; exact ((not_agg (O := O) (x := x)).1 l e).elim
  · rw [if_pos h]
theorem cellsS_av {O : SObjs} {x : SV} {cs : List CV} (h : cellsS O x = some cs) : cellsOf (x.av O) = some (cs.map (CV.av O)) := by
  unfold cellsS at h
  split at h
  · simp only [Option.some.injEq] at h; subst h; rfl
  · split at h
    · rename_i hp
      simp only [Option.some.injEq] at h; subst h
      exact cellsOf_c (plainNC_av hp)
    · cases h
  · cases h

theorem sFill_av {O : SObjs} {pl : List (Nat × Bool × Nat)} : ∀ {parts : List (Nat × SV)} {cells r : List CV}, sFill O pl cells parts = some r →
    fillA (pl.map fun f => (f.1, f.2.2)) (cells.map (CV.av O)) (parts.map fun p => (p.1, p.2.av O)) = some (r.map (CV.av O))
  | [], cells, r, h => by simp only [sFill, Option.some.injEq] at h; subst h; rfl
  | (i, x) :: rest, cells, r, h => by
    simp only [sFill] at h
    split at h
    · rename_i off g n cs hp hcs
      split at h
      · rename_i hc
        have ih := sFill_av (parts := rest) h
        simp only [List.map_cons, fillA, List.getElem?_map, hp, Option.map_some, cellsS_av hcs, List.length_map]
        rw [if_pos hc]
        simpa only [List.map_append, List.map_take, List.map_drop] using ih
      · cases h
    · cases h

theorem iLen_eq {α : Type} (l : List α) : iLen l = (l.length : Int) := rfl

theorem slen_sound {P : Program} {G : List (Nat × TD)} (hG : Good P G) {O : SObjs} {T : TypeId} {x : SV} {n : Int} (h : slen O (lkT G T) x = some n) : lenOf P T (x.av O) = some (.int .i64 n) := by
  have hsl : isSliceTD (lkT G T) = true → (sliceElem P T).isSome = true := by
    intro hi
    unfold isSliceTD at hi
    split at hi
    · rename_i ts b e
      rw [(hG T _ e).1]; rfl
    · cases hi
  unfold slen at h
  split at h
  · split at h
    · rename_i e
      simp only [Option.some.injEq] at h; subst h
      simp only [SV.av, VV.av, CV.av, KV.av, lenOf, (hG T _ e).1, if_true]; rfl
    · cases h
  · split at h
    · rename_i hi
      simp only [Option.some.injEq] at h; subst h
      simp only [SV.av, VV.av, CV.av, KV.av, lenOf, hsl hi, if_true, List.length_map]; rfl
    · cases h
  · split at h
    · rename_i hi
      simp only [Option.some.injEq] at h; subst h
      simp only [SV.av, VV.av, CV.av, lenOf, hsl hi, if_true]
    · cases h
  · split at h
    · rename_i ts l hl
      split at h
      · rename_i hi
        simp only [Option.some.injEq] at h; subst h
        simp only [SV.av, VV.av, CV.av, hl, lenOf, hsl hi, if_true]; rfl
      · cases h
    · cases h
  · split at h
    · rename_i hi
      simp only [Option.some.injEq] at h; subst h
      simp only [SV.av, VV.av, CV.av, lenOf, hsl hi, if_true]; rfl
    · cases h
  · cases h

theorem sbnd_av {C : Cfg} {s : SS} {d n : Int} {o : Option Operand} (h : sbnd C s d o = some n) : bnd (s.st C.N).env d o = some n := by
  cases o with
  | none => exact h
  | some o =>
    simp only [sbnd] at h
    obtain ⟨k, e⟩ := asI_ev h
    simp only [bnd, e, idx]

theorem inCut_if {α : Type} {l h : Int} {len : Nat} {x y : α} (hh : allT [inCut l h len]) : (if 0 ≤ l ∧ l ≤ h ∧ h ≤ (len : Int) then x else y) = x := if_pos (inCut_spec hh.1)

theorem sslc_sound {P : Program} {C : Cfg} (hG : Good P C.G) {s : SS} {T : TypeId} {x : SV} {lo hi : Option Operand} {c : List Bool} {y : CV} (h : sslc C s T x lo hi = some (c, y)) (hc : allT c) :
    slc P T (s.st C.N).objs (s.st C.N).env (x.av s.objs) lo hi = some (y.av s.objs) := by
  unfold sslc at h
  split at h
  · rename_i b
    split at h
    · rename_i l h' e1 e2 e3
      simp only [Option.some.injEq, Prod.mk.injEq] at h; obtain ⟨rfl, rfl⟩ := h
      simp only [SV.av, VV.av, CV.av, KV.av, slc, (hG T _ e1).1, if_true, sbnd_av e2]
      rw [show bnd (s.st C.N).env (b.length : Int) hi = some h' from sbnd_av e3]
      exact inCut_if hc
    · cases h
  · rename_i us b
    split at h
    · rename_i ts bb l h' e1 e2 e3
      split at h
      · rename_i hlen
        simp only [Option.some.injEq, Prod.mk.injEq] at h; obtain ⟨rfl, rfl⟩ := h
        have hse : sliceElem P T = some us.len := by rw [hlen]; exact (hG T _ e1).1
        simp only [SV.av, VV.av, CV.av, KV.av, slc, hse, if_true, sbnd_av e2, List.length_map]
        rw [show bnd (s.st C.N).env (b.length : Int) hi = some h' from sbnd_av e3]
        simp only [cutL, List.map_take, List.map_drop]
        exact inCut_if hc
      · cases h
    · cases h
  · split at h
    · rename_i ts bb l h' e1 e2 e3
      simp only [Option.some.injEq, Prod.mk.injEq] at h; obtain ⟨rfl, rfl⟩ := h
      have hse : (sliceElem P T).isSome = true := by rw [(hG T _ e1).1]; rfl
      simp only [SV.av, VV.av, CV.av, slc, hse, if_true, sbnd_av e2, sbnd_av e3]
      exact inCut_if hc
    · cases h
  · rename_i n
    split at h
    · rename_i us b hl
      split at h
      · rename_i ts bb l h' e1 e2 e3
        split at h
        · rename_i hlen
          simp only [Option.some.injEq, Prod.mk.injEq] at h; obtain ⟨rfl, rfl⟩ := h
          have hse : sliceElem P T = some us.len := by rw [hlen]; exact (hG T _ e1).1
          simp only [SV.av, VV.av, CV.av, hl, slc, hse, if_true, sbnd_av e2]
          rw [show bnd (s.st C.N).env (b.length : Int) hi = some h' from sbnd_av e3]
          simp only [Nat.zero_add]
          exact inCut_if hc
        · cases h
      · cases h
    · cases h
  · rename_i n sz off len
    split at h
    · rename_i ts bb l h' e1 e2 e3
      split at h
      · rename_i hlen
        simp only [Option.some.injEq, Prod.mk.injEq] at h; obtain ⟨rfl, rfl⟩ := h
        have hse : sliceElem P T = some sz := by rw [hlen]; exact (hG T _ e1).1
        simp only [SV.av, VV.av, CV.av, slc, hse, if_true, sbnd_av e2]
        rw [show bnd (s.st C.N).env (len : Int) hi = some h' from sbnd_av e3]
        exact inCut_if hc
      · cases h
    · cases h
  · rename_i n sz
    split at h
    · rename_i us b len ts hl e1
      split at h
      · rename_i hlen
        simp only [Option.some.injEq, Prod.mk.injEq] at h; obtain ⟨rfl, rfl⟩ := h
        have hn : b.length = len := of_decide_eq_true hc.1
        have hae := (hG T _ e1).1
        have hlk : look n (s.st C.N).objs = some (.arr us.len (b.map us.avs)) := by
          show look n (objsAV s.objs s.objs) = _
          rw [lookS_av, hl]; rfl
        simp only [SV.av, VV.av, CV.av, slc, hae, hlk, List.length_map, hl]
        rw [if_pos ⟨hlen.2, by rw [hlen.2, hlen.1], hn⟩]
        simp only [bnd]
        rw [if_pos ⟨by omega, by omega, by omega⟩]
        simp [hlen.1, hlen.2, hn]
      · cases h
    · cases h
  · cases h

theorem sR_sound {P : Program} {C : Cfg} (hG : Good P C.G) {s : SS} {op : Op} {c : List Bool} {x : SV} (h : sR C s op = some (c, x)) (hc : allT c) :
    rOp P (s.st C.N).env (s.st C.N).objs op = some (x.av s.objs) := by
  have hob : (s.st C.N).objs = objsAV s.objs s.objs := rfl
  unfold sR at h
  split at h
  · simp only [Option.some.injEq, Prod.mk.injEq] at h; obtain ⟨_, rfl⟩ := h
    simp only [rOp, sev_av]
  · simp only [Option.some.injEq, Prod.mk.injEq] at h; obtain ⟨_, rfl⟩ := h
    simp only [rOp, sev_av]
  · -- fieldAddr
    rename_i T x' k
    split at h
    · rename_i cs ts fs eq e1 e2
      split at h
      · rename_i o g n e3
        simp only [Option.some.injEq, Prod.mk.injEq] at h; obtain ⟨_, rfl⟩ := h
        simp only [rOp, asC_ev e1, CV.av, (hG T _ e2).2.1 k _ e3, SV.av, VV.av, List.map_drop]
      · cases h
    · rename_i n sz i off ts fs eq e1 e2
      split at h
      · rename_i o g n' e3
        simp only [Option.some.injEq, Prod.mk.injEq] at h; obtain ⟨_, rfl⟩ := h
        simp only [rOp, asC_ev e1, CV.av, (hG T _ e2).2.1 k _ e3, SV.av, VV.av]
      · cases h
    · cases h
  · -- field
    rename_i T x' k
    split at h
    · rename_i cs ts fs eq e1 e2
      have hev : ev (s.st C.N).env x' = .agg (cs.map (CV.av s.objs)) := by rw [← sev_av, e1]; rfl
      split at h
      · rename_i o n e3
        split at h
        · rename_i hle
          simp only [Option.some.injEq, Prod.mk.injEq] at h; obtain ⟨_, rfl⟩ := h
          simp only [rOp, hev, (hG T _ e2).2.1 k _ e3, List.length_map, SV.av, VV.av, List.map_take, List.map_drop]
          rw [if_pos hle]
        · cases h
      · rename_i o n e3
        cases hx : cs[o]? with
        | none => simp [hx] at h
        | some y =>
          simp only [hx, Option.map_some, Option.some.injEq, Prod.mk.injEq] at h; obtain ⟨_, rfl⟩ := h
          simp only [rOp, hev, (hG T _ e2).2.1 k _ e3, List.getElem?_map, hx, Option.map_some, SV.av, VV.av]
      · cases h
    · cases h
  · -- indexAddr
    rename_i T x' i
    split at h
    · rename_i n us l ts b e0 e1 e2
      obtain ⟨ki, hi⟩ := asI_ev e0
      split at h
      · rename_i hlen
        simp only [Option.some.injEq, Prod.mk.injEq] at h; obtain ⟨rfl, rfl⟩ := h
        have hr := inR_spec hc.1
        have hse : sliceElem P T = some us.len := by rw [hlen]; exact (hG T _ e2).1
        simp only [rOp, hi, asC_ev e1, CV.av, KV.av, SV.av, VV.av, List.length_map]
        rw [if_pos ⟨hr.1, hr.2, hse⟩, lAt_av hr.1 hr.2, kvs_av]
      · cases h
    · rename_i n m ts b e0 e1 e2
      obtain ⟨ki, hi⟩ := asI_ev e0
      split at h
      · rename_i us l hl
        split at h
        · rename_i hlen
          simp only [Option.some.injEq, Prod.mk.injEq] at h; obtain ⟨rfl, rfl⟩ := h
          have hr := inR_spec hc.1
          have hse : sliceElem P T = some us.len := by rw [hlen]; exact (hG T _ e2).1
          simp only [rOp, hi, asC_ev e1, CV.av, hl, SV.av, VV.av]
          rw [if_pos ⟨hr.1, hr.2, hse⟩, Nat.zero_add]; rfl
        · cases h
      · cases h
    · rename_i n m sz off len ts b e0 e1 e2
      obtain ⟨ki, hi⟩ := asI_ev e0
      split at h
      · rename_i hlen
        simp only [Option.some.injEq, Prod.mk.injEq] at h; obtain ⟨rfl, rfl⟩ := h
        have hr := inR_spec hc.1
        have hse : sliceElem P T = some sz := by rw [hlen]; exact (hG T _ e2).1
        simp only [rOp, hi, asC_ev e1, CV.av, SV.av, VV.av]
        rw [if_pos ⟨hr.1, hr.2, hse⟩]; rfl
      · cases h
    · rename_i n m sz len ts e0 e1 e2
      obtain ⟨ki, hi⟩ := asI_ev e0
      split at h
      · rename_i hlen
        simp only [Option.some.injEq, Prod.mk.injEq] at h; obtain ⟨rfl, rfl⟩ := h
        have hr := inR_spec hc.1
        simp only [rOp, hi, asC_ev e1, CV.av, (hG T _ e2).1, SV.av, VV.av]
        rw [if_pos ⟨hlen, hr.1, hr.2⟩]; rfl
      · cases h
    · cases h
  · -- index
    rename_i T x' i
    split at h
    · rename_i n b e0 e1 e2
      obtain ⟨ki, hi⟩ := asI_ev e0
      simp only [Option.some.injEq, Prod.mk.injEq] at h; obtain ⟨rfl, rfl⟩ := h
      have hr := inR_spec hc.1
      simp only [rOp, hi, asK_ev e1, KV.av]
      rw [if_pos ⟨(hG T _ e2).1, hr.1, hr.2⟩]; rfl
    · cases h
  · -- load
    rename_i T x'
    split at h
    · rename_i cs D e1 e2
      cases hx : ldC D.cell (cs.map CV.k) with
      | none => simp [hx] at h
      | some y =>
        simp only [hx, Option.map_some, Option.some.injEq, Prod.mk.injEq] at h; obtain ⟨_, rfl⟩ := h
        have := ldC_av (O := s.objs) hx
        rw [ck_av] at this
        simp only [rOp, asC_ev e1, CV.av, TD.ok_cell (hG T _ e2), this, SV.av]
    · rename_i n sz i off D e1 e2
      split at h
      · rename_i c' cs hcs
        cases hx : ldC D.cell cs with
        | none => simp [hx] at h
        | some y =>
          simp only [hx, Option.map_some, Option.some.injEq, Prod.mk.injEq] at h; obtain ⟨rfl, rfl⟩ := h
          simp only [rOp, asC_ev e1, CV.av, TD.ok_cell (hG T _ e2), hob, sCells_av hcs hc, Option.bind_some, ldC_av hx, SV.av]
      · cases h
    · cases h
  · -- nilCheck
    rename_i x'
    split at h
    · rename_i cs e1
      simp only [Option.some.injEq, Prod.mk.injEq] at h; obtain ⟨_, rfl⟩ := h
      simp only [rOp, asC_ev e1, CV.av, SV.av, VV.av]
    · rename_i n sz i off e1
      simp only [Option.some.injEq, Prod.mk.injEq] at h; obtain ⟨_, rfl⟩ := h
      simp only [rOp, asC_ev e1, CV.av, SV.av, VV.av]
    · cases h
  · -- binOp
    rename_i op T x' y' T2
    cases hb : sbop C.G T op (sev C s x') (sev C s y') with
    | none => simp [hb] at h
    | some r =>
      obtain ⟨c', v⟩ := r
      simp only [hb, Option.map_some, Option.some.injEq, Prod.mk.injEq] at h; obtain ⟨rfl, rfl⟩ := h
      have := sbop_sound hG (O := s.objs) hb hc
      rw [sev_av, sev_av] at this
      simp only [rOp, this]; rfl
  · -- unOp
    rename_i op T x'
    split at h
    · rename_i k e1
      cases hb : suop op k with
      | none => simp [hb] at h
      | some r =>
        simp only [hb, Option.map_some, Option.some.injEq, Prod.mk.injEq] at h; obtain ⟨_, rfl⟩ := h
        simp only [rOp, asK_ev e1, suop_sound hb]; rfl
    · cases h
  · -- convert
    rename_i S T x'
    split at h
    · rename_i k n D k' e0 e1 e2
      have hev : ev (s.st C.N).env x' = .int k n := by rw [← sev_av, e0]; rfl
      simp only [Option.some.injEq, Prod.mk.injEq] at h; obtain ⟨_, rfl⟩ := h
      simp only [rOp, hev, cvt, TD.ok_und (hG S _ e1), if_true, (hG T _ e2).1, Option.map_some]; rfl
    · rename_i b D e0 e1 e2
      have hev : ev (s.st C.N).env x' = .str b := by rw [← sev_av, e0]; rfl
      simp only [Option.some.injEq, Prod.mk.injEq] at h; obtain ⟨_, rfl⟩ := h
      simp only [rOp, hev, cvt, TD.ok_und (hG S _ e1), (hG T _ e2).1, Bool.and_self, if_true]; rfl
    · rename_i ts b e1 e2 hn
      split at h
      · rename_i hts
        cases hv : sView s.objs byteTs (sev C s x') with
        | none => simp [hv] at h
        | some r =>
          obtain ⟨c', l⟩ := r
          simp only [hv, Option.map_some, Option.some.injEq, Prod.mk.injEq] at h; obtain ⟨rfl, rfl⟩ := h
          have hview := sView_sound hv hc
          rw [sev_av] at hview
          have hb : byteSl P S = true := (hG S _ e1).2.2.2.2.2.2 hts
          have key : cvt P S T (s.st C.N).objs (ev (s.st C.N).env x') = ((viewSl (s.st C.N).objs 1 (ev (s.st C.N).env x')).bind decB).map .str := by
            cases hx : ev (s.st C.N).env x' with
            | int k n => rw [hx] at hview; simp [viewSl] at hview
            | str k => rw [hx] at hview; simp [viewSl] at hview
            | _ => simp only [cvt, hb, (hG T _ e2).1, Bool.and_self, if_true]
          simp only [rOp, key]
          rw [show viewSl (s.st C.N).objs 1 (ev (s.st C.N).env x') = some (l.map byteTs.avs) from hview]
          simp only [Option.bind_some, decB_bytes, Option.map_some]; rfl
      · cases h
    · cases h
  · -- slice
    rename_i T x' lo hi
    cases hb : sslc C s T (sev C s x') lo hi with
    | none => simp [hb] at h
    | some r =>
      obtain ⟨c', y⟩ := r
      simp only [hb, Option.map_some, Option.some.injEq, Prod.mk.injEq] at h; obtain ⟨rfl, rfl⟩ := h
      have := sslc_sound hG hb hc
      rw [sev_av] at this
      simp only [rOp, this]; rfl
  · -- extract
    rename_i t i
    split at h
    · rename_i l e0
      have hev : ev (s.st C.N).env t = .tup (l.map (VV.av s.objs)) := by rw [← sev_av, e0]; rfl
      cases hx : l[i]? with
      | none => simp [hx] at h
      | some y =>
        simp only [hx, Option.map_some, Option.some.injEq, Prod.mk.injEq] at h; obtain ⟨_, rfl⟩ := h
        simp only [rOp, hev, List.getElem?_map, hx, Option.map_some]; rfl
    · cases h
  · -- build
    rename_i T parts
    split at h
    · rename_i ts fs eq e1
      cases hf : sFill s.objs fs ts.zc (parts.toList.map fun p => (p.1, sev C s p.2)) with
      | none => simp [hf] at h
      | some cs =>
        simp only [hf, Option.map_some, Option.some.injEq, Prod.mk.injEq] at h; obtain ⟨_, rfl⟩ := h
        have := sFill_av hf
        obtain ⟨_, _, hp, hz, _⟩ := hG T _ e1
        simp only [rOp, bld, hp, hz]
        have e : (parts.toList.map fun p => (p.1, ev (s.st C.N).env p.2)) = (parts.toList.map fun p => (p.1, sev C s p.2)).map fun p => (p.1, p.2.av s.objs) := by
          rw [List.map_map]
          apply List.map_congr_left
          intro p _
          simp only [Function.comp, sev_av]
        rw [e, zc_av ts [] s.objs, this]; rfl
    · cases h
  · -- len
    rename_i args argTypes
    split at h
    · rename_i x' T ha ht
      cases hl : slen s.objs (lkT C.G T) (sev C s x') with
      | none => simp [hl] at h
      | some n =>
        simp only [hl, Option.map_some, Option.some.injEq, Prod.mk.injEq] at h; obtain ⟨_, rfl⟩ := h
        have := slen_sound hG hl
        rw [sev_av] at this
        simp only [rOp, ha, ht, this]; rfl
    · cases h
  · cases h
end Go.Abs
