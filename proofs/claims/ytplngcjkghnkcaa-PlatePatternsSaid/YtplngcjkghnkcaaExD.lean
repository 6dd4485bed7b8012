/- What the typed symbolic states stand for: first laws. -/
import Derived.Test.YtplngcjkghnkcaaExC
namespace Go.Abs
open Go.RowKit

theorem lookS_av (O : SObjs) (n : Nat) : ∀ O' : SObjs, look n (objsAV O O') = (lookS n O').map (SO.av O)
  | [] => rfl
  | (m, o) :: r => by
    have ih := lookS_av O n r
    by_cases h : m = n <;> simp [objsAV, look, lookS, h, ih]

theorem st_get (N : Nat) (s : SS) (t : Nat) : (s.st N).env.getD t .any = (s.get N t).av s.objs := by
  unfold SS.get SS.st
  by_cases h : t < N
  · simp [h, List.getD]
  · simp [h, List.getD, List.getElem?_eq_none, SV.any, SV.av, VV.av, CV.av]

theorem st_len (N : Nat) (s : SS) : (s.st N).env.length = N := by simp [SS.st]

theorem ofCS_av (O : SObjs) (v : Value) : (ofCS v).av O = ofC v := by
  unfold ofCS ofC
  split
  · rfl
  · rfl
  · rename_i s
    by_cases h : s.size ≤ lim <;> simp [h, CV.av, KV.av]
  · rfl
  · rename_i h1 h2 h3 h4
    split
    · exact (h1 _ _ rfl).elim
    · exact (h2 _ rfl).elim
    · exact (h3 _ rfl).elim
    · exact (h4 rfl).elim
    · rfl
theorem ofVS_av (O : SObjs) (v : Value) : (ofVS v).av O = ofV v := by
  unfold ofVS ofV
  split
  · rename_i cs
    by_cases h : (cs.toList.all (·.oneCell')) = true
    · simp only [h, if_true, SV.av, VV.av, List.map_map]
      have : (CV.av O ∘ ofCS) = ofC := funext fun x => ofCS_av O x
      rw [this]
    · simp only [h, Bool.false_eq_true, if_false]; rfl
  · simp only [SV.av, VV.av, ofCS_av]

theorem sev_av (C : Cfg) (s : SS) (o : Operand) : (sev C s o).av s.objs = ev (s.st C.N).env o := by
  cases o with
  | tmp t => simp only [sev, ev, st_get]
  | const v => simp only [sev, ev, ofVS_av]
  | _ => rfl

theorem put_st (N : Nat) (s : SS) (dst : Option Tmp) (x : SV) : (s.put dst x).st N = ⟨putA (s.st N).env dst (x.av s.objs), (s.st N).objs⟩ := by
  cases dst with
  | none => rfl
  | some d =>
    simp only [SS.put, SS.st, putA]
    congr 1
    apply List.ext_getElem?
    intro i
    simp only [List.getElem?_map, List.getElem?_set, List.length_map, List.length_range, List.getElem?_range']
    by_cases hi : i < N
    · by_cases hd : d = i
      · subst hd; simp [lkE, hi]
      · simp [lkE, hd, hi]
    · simp [hi, List.getElem?_eq_none]
      intro h1; omega

/-! constants -/
theorem kv_av : ∀ (t : Ty) (x : t.T), (t.kv x).av = t.av x
  | .int _, _ => rfl
  | .bool, _ => rfl
  | .str, _ => rfl
  | .sl _, _ => rfl
theorem kvs_av : ∀ (ts : Tys) (x : ts.T), (ts.kvs x).map KV.av = ts.avs x
  | .nil, _ => rfl
  | .cons t ts, x => by simp only [Tys.kvs, Tys.avs, List.map_cons, kv_av, kvs_av ts]
theorem kvs_len : ∀ (ts : Tys) (x : ts.T), (ts.kvs x).length = ts.len
  | .nil, _ => rfl
  | .cons t ts, x => by simp only [Tys.kvs, Tys.len, List.length_cons, kvs_len ts]
theorem avs_len (ts : Tys) (x : ts.T) : (ts.avs x).length = ts.len := by rw [← kvs_av, List.length_map, kvs_len]
theorem ck_av (O : SObjs) (l : List KV) : (l.map CV.k).map (CV.av O) = l.map KV.av := by
  rw [List.map_map]; rfl
theorem kvs_cav (O : SObjs) (ts : Tys) (x : ts.T) : ((ts.kvs x).map CV.k).map (CV.av O) = ts.avs x := by rw [ck_av, kvs_av]

theorem to_kv : ∀ (t : Ty) (v : KV) (x : t.T), v.to t = some x → v = t.kv x
  | .int k, .int k' n, x, h => by
    simp only [KV.to] at h
    split at h
    · rename_i e; subst e; simp only [Option.some.injEq] at h; subst h; rfl
    · cases h
  | .bool, .bool b, x, h => by simp only [KV.to, Option.some.injEq] at h; subst h; rfl
  | .str, .str s, x, h => by simp only [KV.to, Option.some.injEq] at h; subst h; rfl
  | .sl ts, .sl us l, x, h => by
    simp only [KV.to] at h
    split at h
    · rename_i hb
      have e := Tys.beq_eq us ts hb
      subst e
      simp only [Option.some.injEq] at h; subst h; rfl
    · cases h
  | .int _, .bool _, x, h => by simp [KV.to] at h
  | .int _, .str _, x, h => by simp [KV.to] at h
  | .int _, .sl _ _, x, h => by simp [KV.to] at h
  | .bool, .int _ _, x, h => by simp [KV.to] at h
  | .bool, .str _, x, h => by simp [KV.to] at h
  | .bool, .sl _ _, x, h => by simp [KV.to] at h
  | .str, .int _ _, x, h => by simp [KV.to] at h
  | .str, .bool _, x, h => by simp [KV.to] at h
  | .str, .sl _ _, x, h => by simp [KV.to] at h
  | .sl _, .int _ _, x, h => by simp [KV.to] at h
  | .sl _, .bool _, x, h => by simp [KV.to] at h
  | .sl _, .str _, x, h => by simp [KV.to] at h

/-! conditions -/
def allT : List Bool → Prop
  | [] => True
  | b :: l => b = true ∧ allT l
theorem need_some {α : Type} {r : α} : ∀ {l : List Bool} {m : Option α}, need l m = some r → allT l ∧ m = some r
  | [], m, h => ⟨trivial, h⟩
  | c :: l, m, h => by
    simp only [need, br] at h
    split at h
    · rename_i hc
      obtain ⟨h1, h2⟩ := need_some h
      exact ⟨⟨hc, h1⟩, h2⟩
    · cases h
theorem allT_append : ∀ {a b : List Bool}, allT (a ++ b) → allT a ∧ allT b
  | [], b, h => ⟨trivial, h⟩
  | x :: a, b, h => by
    obtain ⟨h1, h2⟩ := allT_append (a := a) h.2
    exact ⟨⟨h.1, h1⟩, h2⟩

theorem inR_spec {n : Int} {len : Nat} (h : inR n len = true) : 0 ≤ n ∧ n < len := by simpa [inR] using h
theorem inCut_spec {l h : Int} {len : Nat} (hh : inCut l h len = true) : 0 ≤ l ∧ l ≤ h ∧ h ≤ len := by simpa [inCut] using hh

/-! integers, strings -/
theorem sib_sound {op : BinOp} {k : IntKind} {a b : Int} {c : List Bool} {v : KV} (h : sib op k a b = some (c, v)) (hc : allT c) : ibin op k a b = some v.av := by
  cases op <;> simp only [sib, Option.some.injEq, Prod.mk.injEq] at h <;> obtain ⟨rfl, rfl⟩ := h <;> simp only [ibin, KV.av, iWrap, iAdd, iSub, iMul, iQuo, iRem, iAnd, iOr, iXor, iAndNot, iShl, iShr, bEq, bNe, bLt, bLe]
  · have h0 : b ≠ 0 := by simpa [allT, bNe] using hc
    rw [if_neg h0]
  · have h0 : b ≠ 0 := by simpa [allT, bNe] using hc
    rw [if_neg h0]
  · have h0 : 0 ≤ b := by simpa [allT, bLe] using hc
    rw [if_neg (by omega)]
  · have h0 : 0 ≤ b := by simpa [allT, bLe] using hc
    rw [if_neg (by omega)]
theorem ssb_sound {op : BinOp} {a b : List UInt8} {c : List Bool} {v : KV} (h : ssb op a b = some (c, v)) (hc : allT c) : sbin op a b = some v.av := by
  cases op <;> simp only [ssb, Option.some.injEq, Prod.mk.injEq, reduceCtorEq] at h <;> obtain ⟨rfl, rfl⟩ := h <;> simp only [sbin, KV.av, sIs, bNot, bOr, lApp]
  have h0 : a.length + b.length ≤ lim := of_decide_eq_true hc.1
  rw [if_pos h0]

/-! the program's types -/
def tyKs : List TypeDesc → Tys → Bool
  | [], .nil => true
  | .int k :: l, .cons (.int k') ts => decide (k = k') && tyKs l ts
  | .bool :: l, .cons .bool ts => tyKs l ts
  | .string :: l, .cons .str ts => tyKs l ts
  | _, _ => false
def eqOk (P : Program) (T : TypeId) (ts : Tys) : Bool := (match P.underlying T with | some (.struct _) => true | _ => false) && !(P.eqGuardType P.depth T) && (match eqPlan P 20 T with | some ks => tyKs ks ts | none => false)
def TD.ok (P : Program) (T : TypeId) : TD → Prop
  | .int k => intTy P T = some k ∧ cellTy P T = some (false, 1) ∧ zeroCells P T = some [.int k 0] ∧ arrElem P T = none
  | .bool => boolTy P T = true ∧ cellTy P T = some (false, 1) ∧ zeroCells P T = some [.bool false] ∧ arrElem P T = none
  | .str => strTy P T = true ∧ cellTy P T = some (false, 1) ∧ zeroCells P T = some [.str []] ∧ arrElem P T = none
  | .slice ts b => sliceElem P T = some ts.len ∧ (elemId P T).bind (sizeB P) = some b ∧ (elemId P T).bind (zeroCells P) = some (ts.zc.map (CV.av [])) ∧ cellTy P T = some (false, 1) ∧
      zeroCells P T = some [.nsl] ∧ arrElem P T = none ∧ (ts.beq byteTs = true → byteSl P T = true)
  | .struct ts fs eq => cellTy P T = some (true, ts.len) ∧ (∀ k r, fs[k]? = some r → fieldOf P T k = some r) ∧ places P T = some (fs.map fun f => (f.1, f.2.2)) ∧ zeroCells P T = some (ts.zc.map (CV.av [])) ∧
      arrElem P T = none ∧ (eq = true → eqOk P T ts = true)
  | .arr n ts => arrElem P T = some (n, ts.len) ∧ cellTy P T = some (true, n * ts.len) ∧ n ≤ lim ∧ ∃ z, zeroCells P T = some z ∧ n * ts.len = z.length ∧ chunk ts.len n z = List.replicate n (ts.zc.map (CV.av []))
def Good (P : Program) (G : List (Nat × TD)) : Prop := ∀ T d, lkT G T = some d → d.ok P T

theorem TD.ok_und {P : Program} {T : TypeId} {d : TD} (h : d.ok P T) : (P.underlying T).isSome = true := by
  have key : ∀ r, cellTy P T = some r → (P.underlying T).isSome = true := by
    intro r h
    unfold cellTy at h
    cases hu : P.underlying T with
    | none => simp [hu] at h
    | some _ => rfl
  cases d with
  | int k => exact key _ h.2.1
  | bool => exact key _ h.2.1
  | str => exact key _ h.2.1
  | slice ts b => exact key _ h.2.2.2.1
  | struct ts fs eq => exact key _ h.1
  | arr n ts => exact key _ h.2.1
theorem TD.ok_cell {P : Program} {T : TypeId} {d : TD} (h : d.ok P T) : cellTy P T = some d.cell := by
  cases d with
  | int k => exact h.2.1
  | bool => exact h.2.1
  | str => exact h.2.1
  | slice ts b => exact h.2.2.2.1
  | struct ts fs eq => exact h.1
  | arr n ts => exact h.2.1

theorem zc_av : ∀ (ts : Tys) (O O' : SObjs), ts.zc.map (CV.av O) = ts.zc.map (CV.av O')
  | .nil, _, _ => rfl
  | .cons t ts, O, O' => by
    simp only [Tys.zc, List.map_cons, zc_av ts O O']
    cases t <;> rfl
theorem zc_len : ∀ ts : Tys, ts.zc.length = ts.len
  | .nil => rfl
  | .cons _ ts => by simp only [Tys.zc, Tys.len, List.length_cons, zc_len ts]

theorem seqL_sound {O : SObjs} : ∀ {ks : List TypeDesc} {ts : Tys} {a b : List CV} {r : Bool}, tyKs ks ts = true → seqL ts a b = some r → eqL ks (a.map (CV.av O)) (b.map (CV.av O)) = some r := by
  intro ks
  induction ks with
  | nil =>
    intro ts a b r hk h
    cases ts with
    | nil =>
      cases a <;> cases b <;> simp [seqL] at h
      subst h; rfl
    | cons t ts => simp [tyKs] at hk
  | cons d ks ih =>
    intro ts a b r hk h
    cases ts with
    | nil => cases d <;> simp [tyKs] at hk
    | cons t ts =>
      unfold seqL at h
      split at h
      · rename_i e; cases e
      · rename_i k ts' k1 a xs k2 b ys e
        cases e
        split at h
        · rename_i hkk
          obtain ⟨rfl, rfl⟩ := hkk
          split at h
          · rename_i q hq
            simp only [Option.some.injEq] at h; subst h
            cases d <;> simp only [tyKs, Bool.and_eq_true, decide_eq_true_eq, Bool.false_eq_true] at hk
            obtain ⟨rfl, hk⟩ := hk
            simp only [List.map_cons, CV.av, KV.av, eqL, eqT, if_true, ih hk hq]
            rfl
          · cases h
        · cases h
      · rename_i ts' a xs b ys e
        cases e
        split at h
        · rename_i q hq
          simp only [Option.some.injEq] at h; subst h
          cases d <;> simp only [tyKs, Bool.false_eq_true] at hk
          simp only [List.map_cons, CV.av, KV.av, eqL, eqT, ih hk hq]
          rfl
        · cases h
      · rename_i ts' a xs b ys e
        cases e
        split at h
        · rename_i q hq
          simp only [Option.some.injEq] at h; subst h
          cases d <;> simp only [tyKs, Bool.false_eq_true] at hk
          simp only [List.map_cons, CV.av, KV.av, eqL, eqT, ih hk hq]
          rfl
        · cases h
      · cases h

theorem sbop_sound {P : Program} {G : List (Nat × TD)} (hG : Good P G) {O : SObjs} {T : TypeId} {op : BinOp} {x y : SV} {c : List Bool} {v : KV} (h : sbop G T op x y = some (c, v)) (hc : allT c) :
    bop P T op (x.av O) (y.av O) = some v.av := by
  unfold sbop at h
  split at h
  · rename_i a b
    split at h
    · rename_i k a k' b
      simp only [SV.av, VV.av, CV.av, KV.av, bop]
      split at h
      · rename_i hk
        rw [if_pos hk]
        exact sib_sound h hc
      · cases h
    · rename_i a b
      simp only [SV.av, VV.av, CV.av, KV.av, bop]
      exact ssb_sound h hc
    · rename_i a b
      simp only [SV.av, VV.av, CV.av, KV.av, bop]
      split at h
      · rename_i e1
        have := hG T _ e1
        simp only [Option.some.injEq, Prod.mk.injEq] at h; obtain ⟨_, rfl⟩ := h
        rw [if_pos this.1]; rfl
      · rename_i e1
        have := hG T _ e1
        simp only [Option.some.injEq, Prod.mk.injEq] at h; obtain ⟨_, rfl⟩ := h
        rw [if_pos this.1]; rfl
      · cases h
    · cases h
  · rename_i a b
    simp only [SV.av, VV.av, bop]
    have key : ∀ ts fs r, lkT G T = some (.struct ts fs true) → seqL ts a b = some r → eqAgg P T (a.map (CV.av O)) (b.map (CV.av O)) = some r := by
      intro ts fs r e hr
      have hq := (hG T _ e).2.2.2.2.2 rfl
      unfold eqOk at hq
      simp only [Bool.and_eq_true, Bool.not_eq_true'] at hq
      obtain ⟨⟨h1, h2⟩, h3⟩ := hq
      unfold eqAgg
      split at h1
      · rename_i fs' hu
        simp only [hu, h2, if_true]
        split at h3
        · rename_i ks hks
          simp only [hks]
          exact seqL_sound h3 hr
        · cases h3
      · cases h1
    split at h
    · rename_i ts fs e1
      cases hs : seqL ts a b with
      | none => simp [hs] at h
      | some r =>
        simp only [hs, Option.map_some, Option.some.injEq, Prod.mk.injEq] at h
        obtain ⟨_, rfl⟩ := h
        simp only [key ts fs r e1 hs, Option.map_some, KV.av]
    · rename_i ts fs e1
      cases hs : seqL ts a b with
      | none => simp [hs] at h
      | some r =>
        simp only [hs, Option.map_some, Option.some.injEq, Prod.mk.injEq] at h
        obtain ⟨_, rfl⟩ := h
        simp only [key ts fs r e1 hs, Option.map_some, KV.av, bNot]
    · cases h
  · cases h

theorem suop_sound {op : UnOp} {x v : KV} (h : suop op x = some v) : uop op x.av = some v.av := by
  unfold suop at h
  split at h
  · simp only [Option.some.injEq] at h; subst h; rfl
  · simp only [Option.some.injEq] at h; subst h; rfl
  · simp only [Option.some.injEq] at h; subst h; rfl
  · cases h

theorem cast_avs {us ts : Tys} (h : us = ts) (l : List us.T) : ((h ▸ l : List ts.T)).map ts.avs = l.map us.avs := by subst h; rfl
theorem cast_len {us ts : Tys} (h : us = ts) (l : List us.T) : ((h ▸ l : List ts.T)).length = l.length := by subst h; rfl

theorem sView_sound {O : SObjs} {ts : Tys} {x : SV} {c : List Bool} {l : List ts.T} (h : sView O ts x = some (c, l)) (hc : allT c) : viewSl (objsAV O O) ts.len (x.av O) = some (l.map ts.avs) := by
  unfold sView at h
  split at h
  · simp only [Option.some.injEq, Prod.mk.injEq] at h; obtain ⟨_, rfl⟩ := h; rfl
  · rename_i us l'
    split at h
    · rename_i hb
      simp only [Option.some.injEq, Prod.mk.injEq] at h; obtain ⟨_, rfl⟩ := h
      have e := Tys.beq_eq us ts hb
      subst e
      simp [SV.av, VV.av, CV.av, KV.av, viewSl]
    · cases h
  · rename_i n
    split at h
    · rename_i us l' hl
      split at h
      · rename_i hb
        simp only [Option.some.injEq, Prod.mk.injEq] at h; obtain ⟨_, rfl⟩ := h
        have e := Tys.beq_eq us ts hb
        subst e
        have e2 : List.take l'.length (List.map us.avs l') = List.map us.avs l' := List.take_of_length_le (by simp)
        simp [SV.av, VV.av, CV.av, hl, viewSl, lookS_av, SO.av, e2]
      · cases h
    · cases h
  · rename_i n sz off len
    split at h
    · rename_i us l' hl
      split at h
      · rename_i hb
        split at h
        · rename_i hsz
          simp only [Option.some.injEq, Prod.mk.injEq] at h; obtain ⟨rfl, rfl⟩ := h
          have e := Tys.beq_eq us ts hb
          subst e; subst hsz
          have h0 : off + len ≤ l'.length := of_decide_eq_true hc.1
          simp [SV.av, VV.av, CV.av, viewSl, lookS_av, hl, SO.av, h0, lSub]
        · cases h
      · cases h
    · cases h
  · cases h

theorem decB_bytes : ∀ l : List byteTs.T, decB (l.map byteTs.avs) = some (toBytes l)
  | [] => rfl
  | x :: l => by
    have ih := decB_bytes l
    show (decB (l.map byteTs.avs)).map (UInt8.ofNat (x.1 : Int).toNat :: ·) = _
    rw [ih]; rfl
theorem bytes_av : ∀ s : List UInt8, (ofBytes s).map byteTs.avs = bytesOf s
  | [] => rfl
  | b :: s => congrArg (List.cons [AV.int .u8 (b.toNat : Int)]) (bytes_av s)
end Go.Abs
