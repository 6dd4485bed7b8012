/- The making and changing operations: soundness, 2. -/
import Derived.Test.YtplngcjkghnkcaaExG
namespace Go.Abs
open Go.RowKit

theorem av_cons {d : Nat} {o : SO} {O : SObjs} {x : CV} (hd : lookS d O = none) (ho : (∃ cs, o = .box cs) ∨ x ≠ .own d) : x.av ((d, o) :: O) = x.av O := by
  refine av_objs fun n hn => ?_
  subst hn
  by_cases h : d = n
  · subst h
    rcases ho with ⟨cs, rfl⟩ | ho
    · simp [lookS, hd]
    · exact absurd rfl ho
  · simp only [lookS, h, if_false]
theorem Cov.of_eq {a b : St} (h : a = b) : Cov a b := h ▸ .rfl' a

theorem h_box {P : Program} {C : Cfg} {s : SS} {T : TypeId} {x : Operand} {dst : Option Tmp} {c : List Bool} {v : SV} {s' : SS}
    (h : sH C s dst (.box T x) = some (c, v, s')) : HDone P C.N s dst (.box T x) (s'.put dst v) := by
  cases dst with
  | none => simp [sH] at h
  | some d =>
    simp only [sH] at h
    split at h
    · rename_i hd
      split at h
      · rename_i s1 h1
        split at h
        · rename_i cs hcs
          simp only [Option.some.injEq, Prod.mk.injEq] at h; obtain ⟨_, rfl, rfl⟩ := h
          obtain ⟨a1, a2, a3⟩ := freshS_no (N := C.N) h1
          refine ⟨s1, ⟨.ref d cs.length 0 0, (s1.st C.N).env, (d, .box (cs.map (CV.av s1.objs))) :: (s1.st C.N).objs⟩, a1, a2, rfl, rfl, ?_, ?_⟩
          · have hc : cellsOf (ev (s1.st C.N).env x) = some (cs.map (CV.av s1.objs)) := by rw [← sev_av]; exact cellsS_av hcs
            simp only [hOp, hd, if_true, hBox, look_none a3.1, hc, List.length_map]
          · refine .of_eq ?_
            rw [st_made a3]
            have : (SO.box cs).av ((d, .box cs) :: s1.objs) = .box (cs.map (CV.av s1.objs)) := by
              simp only [SO.av]
              congr 1
              apply List.map_congr_left
              intro y _
              exact av_cons a3.1 (.inl ⟨_, rfl⟩)
            rw [this]; rfl
        · cases h
      · cases h
    · cases h

theorem h_alloc {P : Program} {C : Cfg} (hG : Good P C.G) {s : SS} {T : TypeId} {dst : Option Tmp} {c : List Bool} {v : SV} {s' : SS}
    (h : sH C s dst (.alloc T) = some (c, v, s')) : HDone P C.N s dst (.alloc T) (s'.put dst v) := by
  cases dst with
  | none => simp [sH] at h
  | some d =>
    simp only [sH] at h
    split at h
    · rename_i hd
      split at h
      · rename_i s1 h1
        obtain ⟨a1, a2, a3⟩ := freshS_no (N := C.N) h1
        have box1 : ∀ (cs : List CV) (z : List AV) (D : TD), lkT C.G T = some D → zeroCells P T = some z → arrElem P T = none → (∀ O, cs.map (CV.av O) = z) → v = .v (.c (.ref d cs.length 0 0)) → s' = ⟨s1.env, (d, .box cs) :: s1.objs⟩ →
            HDone P C.N s (some d) (.alloc T) (s'.put (some d) v) := by
          rintro cs z D hD hz ha hcs rfl rfl
          refine ⟨s1, ⟨.ref d z.length 0 0, (s1.st C.N).env, (d, .box z) :: (s1.st C.N).objs⟩, a1, a2, rfl, rfl, ?_, ?_⟩
          · simp only [hOp, hd, if_true, hAlloc, look_none a3.1, hz, ha]
          · refine .of_eq ?_
            rw [st_made a3]
            simp only [SO.av, hcs]
            have : z.length = cs.length := by rw [← hcs [], List.length_map]
            rw [this]; rfl
        split at h
        · rename_i n ts e
          simp only [Option.some.injEq, Prod.mk.injEq] at h; obtain ⟨_, rfl, rfl⟩ := h
          obtain ⟨g1, g2, g3, z, g4, g5, g6⟩ := hG T _ e
          refine ⟨s1, ⟨.ref d ts.len 0 0, (s1.st C.N).env, (d, .arr ts.len (chunk ts.len n z)) :: (s1.st C.N).objs⟩, a1, a2, rfl, rfl, ?_, ?_⟩
          · simp only [hOp, hd, if_true, hAlloc, look_none a3.1, g4, g1]
            rw [if_pos ⟨g5, g3⟩]
          · rw [st_made a3]
            refine cov_le (leE.rfl' _) ⟨rfl, ⟨rfl, ?_⟩, leOs.rfl' _⟩
            rw [g6]
            have := leR_rep (zc_leL ts) n
            simpa only [lRep, List.map_replicate] using this
        · rename_i ts fs eq e
          simp only [Option.some.injEq, Prod.mk.injEq] at h; obtain ⟨_, rfl, rfl⟩ := h
          obtain ⟨_, _, _, g1, g2, _⟩ := hG T _ e
          exact box1 ts.zc _ _ e g1 g2 (fun O => zc_av ts O []) (by rw [zc_len]) rfl
        · rename_i k e
          simp only [Option.some.injEq, Prod.mk.injEq] at h; obtain ⟨_, rfl, rfl⟩ := h
          obtain ⟨_, _, g1, g2⟩ := hG T _ e
          exact box1 [.k (.int k 0)] _ _ e g1 g2 (fun O => rfl) rfl rfl
        · rename_i e
          simp only [Option.some.injEq, Prod.mk.injEq] at h; obtain ⟨_, rfl, rfl⟩ := h
          obtain ⟨_, _, g1, g2⟩ := hG T _ e
          exact box1 [.k (.bool false)] _ _ e g1 g2 (fun O => rfl) rfl rfl
        · rename_i e
          simp only [Option.some.injEq, Prod.mk.injEq] at h; obtain ⟨_, rfl, rfl⟩ := h
          obtain ⟨_, _, g1, g2⟩ := hG T _ e
          exact box1 [.k (.str [])] _ _ e g1 g2 (fun O => rfl) rfl rfl
        · rename_i ts b e
          simp only [Option.some.injEq, Prod.mk.injEq] at h; obtain ⟨_, rfl, rfl⟩ := h
          obtain ⟨_, _, _, _, g1, g2, _⟩ := hG T _ e
          exact box1 [.nsl] _ _ e g1 g2 (fun O => rfl) rfl rfl
        · cases h
      · cases h
    · cases h

theorem own_av {d : Nat} {ts : Tys} {l : List ts.T} {O : SObjs} : (SV.v (.c (.own d))).av ((d, .arr ts l) :: O) = .msl d ts.len 0 l.length := by
  simp [SV.av, VV.av, CV.av, lookS]

theorem h_buildSlice {P : Program} {C : Cfg} (hG : Good P C.G) {s : SS} {T : TypeId} {len : Nat} {parts : Array (Nat × Operand)} {dst : Option Tmp} {c : List Bool} {v : SV} {s' : SS}
    (h : sH C s dst (.buildSlice T len parts) = some (c, v, s')) : HDone P C.N s dst (.buildSlice T len parts) (s'.put dst v) := by
  cases dst with
  | none => simp [sH] at h
  | some d =>
    simp only [sH] at h
    split at h
    · rename_i hd
      split at h
      · rename_i s1 ts b h1 e
        obtain ⟨a1, a2, a3, a4⟩ := prepS_cov h1
        split at h
        · rename_i rows hr
          split at h
          · rename_i hc
            simp only [Option.some.injEq, Prod.mk.injEq] at h; obtain ⟨_, rfl, rfl⟩ := h
            obtain ⟨g1, g2, g3, _⟩ := hG T _ e
            obtain ⟨l, hl, hle⟩ := toRows_av hr
            have hl' : rowsOf ts.len ((parts.toList.map (·.2)).map (ev (s1.st C.N).env)) = some l := by
              rw [← hl]
              have : (SV.av s1.objs) ∘ (sev C s1) = ev (s1.st C.N).env := funext fun o => sev_av C s1 o
              rw [List.map_map (g := SV.av s1.objs), this]
            have hlen : rows.length = len := by
              have h1 := congrArg List.length hc.1
              simp only [List.length_map, List.length_range] at h1
              have h2 := hle.1
              simp only [List.length_map] at h2
              have : ∀ (xs : List AV) (l : List (List AV)), rowsOf ts.len xs = some l → l.length = xs.length := by
                intro xs
                induction xs with
                | nil => intro l h; simp [rowsOf] at h; subst h; rfl
                | cons x xs ih =>
                  intro l h
                  simp only [rowsOf] at h
                  split at h
                  · rename_i cs l' h3 h4
                    split at h
                    · simp only [Option.some.injEq] at h; subst h; simp [ih l' h4]
                    · cases h
                  · cases h
              have h3 := this _ _ hl
              simp only [List.length_map] at h3
              omega
            refine ⟨s1, ⟨.msl d ts.len 0 len, (s1.st C.N).env, (d, .arr ts.len l) :: (s1.st C.N).objs⟩, a1, a2, rfl, rfl, ?_, ?_⟩
            · have hs := settle_8 (objs := (s1.st C.N).objs) (names_none a4)
              simp only [hOp, hd, if_true, hBuildSlice, hs, look_none a3.1, g1, g3, hl']
              rw [if_pos hc]
            · rw [st_made a3, own_av, hlen]
              exact cov_le (leE.rfl' _) ⟨rfl, ⟨rfl, hle⟩, leOs.rfl' _⟩
          · cases h
        · cases h
      · cases h
    · cases h

theorem h_makeSlice {P : Program} {C : Cfg} (hG : Good P C.G) {s : SS} {T : TypeId} {l m : Operand} {dst : Option Tmp} {c : List Bool} {v : SV} {s' : SS}
    (h : sH C s dst (.makeSlice T l m) = some (c, v, s')) (hc : allT c) : HDone P C.N s dst (.makeSlice T l m) (s'.put dst v) := by
  cases dst with
  | none => simp [sH] at h
  | some d =>
    simp only [sH] at h
    split at h
    · rename_i hd
      split at h
      · rename_i s1 h1
        split at h
        case h_2 => cases h
        rename_i ts b n k e hn hk
        obtain ⟨a1, a2, a3⟩ := freshS_no (N := C.N) h1
        simp only [Option.some.injEq, Prod.mk.injEq] at h; obtain ⟨rfl, rfl, rfl⟩ := h
        obtain ⟨g1, g2, g3, _⟩ := hG T _ e
        obtain ⟨c1, c2, c3, c4, _⟩ := hc
        have c1 : 0 ≤ n := of_decide_eq_true c1
        have c2 : n ≤ k := of_decide_eq_true c2
        have c3 : k ≤ lim := of_decide_eq_true c3
        have c4 : (b : Int) * k ≤ lim := of_decide_eq_true c4
        obtain ⟨kn, en⟩ := asI_ev (C := C) (s := s1) (o := l) hn
        obtain ⟨kk, ek⟩ := asI_ev (C := C) (s := s1) (o := m) hk
        obtain ⟨eid, g2a, g2b⟩ := Option.bind_eq_some_iff.1 g2
        have g3b : zeroCells P eid = some (ts.zc.map (CV.av [])) := by simpa [g2a] using g3
        refine ⟨s1, ⟨.msl d ts.len 0 n.toNat, (s1.st C.N).env, (d, .arr ts.len (List.replicate n.toNat (ts.zc.map (CV.av [])))) :: (s1.st C.N).objs⟩, a1, a2, rfl, rfl, ?_, ?_⟩
        · simp only [hOp, hd, if_true, hMake, look_none a3.1, g1, g2a, en, ek, idx, g3b, g2b]
          rw [if_pos ⟨by rw [List.length_map, zc_len], c1, c2, c3, c4⟩]
        · rw [st_made a3, own_av]
          have e1 : (lRep (nInt n) ts.d).length = n.toNat := by simp [lRep, nInt]
          rw [e1]
          refine cov_le (leE.rfl' _) ⟨rfl, ⟨rfl, ?_⟩, leOs.rfl' _⟩
          have := leR_rep (zc_leL ts) n.toNat
          simpa only [lRep, nInt, List.map_replicate] using this
      · cases h
    · cases h

theorem slice_not_str {P : Program} {T : TypeId} {n : Nat} (h : sliceElem P T = some n) : strTy P T = false := by
  unfold sliceElem at h
  unfold strTy
  split at h
  · rename_i e hu; simp [hu]
  · cases h

theorem h_bytes {P : Program} {C : Cfg} (hG : Good P C.G) {s : SS} {S T : TypeId} {x : Operand} {dst : Option Tmp} {c : List Bool} {v : SV} {s' : SS}
    (h : sH C s dst (.convert S T x) = some (c, v, s')) (hc : allT c) : HDone P C.N s dst (.convert S T x) (s'.put dst v) := by
  cases dst with
  | none => simp [sH] at h
  | some d =>
    simp only [sH] at h
    split at h
    · rename_i hd
      split at h
      · rename_i s1 h1
        split at h
        case h_2 => cases h
        rename_i b e hx
        obtain ⟨a1, a2, a3⟩ := freshS_no (N := C.N) h1
        split at h
        · rename_i hb
          simp only [Option.some.injEq, Prod.mk.injEq] at h; obtain ⟨rfl, rfl, rfl⟩ := h
          have c1 : b.length ≤ lim := of_decide_eq_true hc.1
          unfold isBytes at hb
          split at hb
          · rename_i ts bb e2
            have hts := Tys.beq_eq _ _ hb
            subst hts
            obtain ⟨g1, _, _, _, _, _, g7⟩ := hG T _ e2
            have ex := asK_ev (C := C) (s := s1) (o := x) hx
            refine ⟨s1, ⟨.msl d 1 0 b.length, (s1.st C.N).env, (d, .arr 1 (bytesOf b)) :: (s1.st C.N).objs⟩, a1, a2, rfl, ?_, ?_, ?_⟩
            · simp only [rOp, ex, KV.av, cvt, slice_not_str g1, Bool.and_false, Bool.false_eq_true, if_false]
            · simp only [hOp, hd, if_true, hBytes, look_none a3.1, ex, KV.av]
              rw [if_pos ⟨(hG S _ e).1, g7 hb, c1⟩]
            · rw [st_made a3, own_av]
              refine .of_eq ?_
              have e1 : (ofBytes b).length = b.length := by unfold ofBytes; exact List.length_map _
              rw [e1]
              have : (SO.arr byteTs (ofBytes b)).av ((d, .arr byteTs (ofBytes b)) :: s1.objs) = .arr 1 (bytesOf b) := by
                simp only [SO.av, bytes_av]; rfl
              rw [this]; rfl
          · cases hb
        · cases h
      · cases h
    · cases h

theorem av_upd_len {n : Nat} {o o' : SO} {O : SObjs} (ho : lookS n O = some o) (h : (∃ cs ds, o = .box cs ∧ o' = .box ds) ∨ ∃ ts l l', o = .arr ts l ∧ o' = .arr ts l' ∧ l.length = l'.length) (x : CV) : x.av (updS n o' O) = x.av O := by
  refine av_objs fun m _ => ?_
  by_cases hm : n = m
  · subst hm
    rw [lookS_upd o' (by rw [ho]; rfl), ho]
    rcases h with ⟨cs, ds, rfl, rfl⟩ | ⟨ts, l, l', rfl, rfl, hl⟩
    · rfl
    · simp [hl]
  · rw [lookS_upd_ne o' hm]
theorem st_upd {N n : Nat} {s : SS} {o o' : SO} (ho : lookS n s.objs = some o) (h : (∃ cs ds, o = .box cs ∧ o' = .box ds) ∨ ∃ ts l l', o = .arr ts l ∧ o' = .arr ts l' ∧ l.length = l'.length) :
    SS.st N ⟨s.env, updS n o' s.objs⟩ = ⟨(s.st N).env, upd n (o'.av s.objs) (s.st N).objs⟩ := by
  have key := av_upd_len ho h
  have kv : ∀ x : VV, x.av (updS n o' s.objs) = x.av s.objs := by
    intro x
    cases x with
    | c x => exact key x
    | g l =>
      simp only [VV.av]
      congr 1
      apply List.map_congr_left
      intro x _; exact key x
  have ks : ∀ x : SV, x.av (updS n o' s.objs) = x.av s.objs := by
    intro x
    cases x with
    | v x => exact kv x
    | tup l =>
      simp only [SV.av]
      congr 1
      apply List.map_congr_left
      intro x _; exact kv x
  have ko : ∀ x : SO, x.av (updS n o' s.objs) = x.av s.objs := by
    intro x
    cases x with
    | box cs =>
      simp only [SO.av]
      congr 1
      apply List.map_congr_left
      intro x _; exact key x
    | arr ts l => rfl
  have kos : ∀ l : SObjs, objsAV (updS n o' s.objs) l = objsAV s.objs l := by
    intro l
    induction l with
    | nil => rfl
    | cons p r ih => obtain ⟨m, o⟩ := p; simp only [objsAV, ih, ko]
  simp only [SS.st]
  rw [kos, objsAV_upd]
  congr 1
  apply List.map_congr_left
  intro i _
  exact ks _

theorem leR_set {l m : List (List AV)} (h : leR l m) (i : Nat) {a b : List AV} (hab : leL a b) : leR (l.set i a) (m.set i b) := by
  refine ⟨by simp [h.1], fun j cs hj => ?_⟩
  rw [List.getElem?_set] at hj ⊢
  split at hj
  · rename_i e
    subst e
    split at hj
    · rename_i hlt
      simp only [Option.some.injEq] at hj; subst hj
      exact ⟨a, by rw [if_pos rfl, if_pos (by rw [h.1]; exact hlt)], hab⟩
    · cases hj
  · rename_i hne
    rw [if_neg hne]
    exact h.2 j cs hj
theorem leOs_upd {n : Nat} {o o' : Obj} (h : leO o o') : ∀ l : List (Nat × Obj), leOs (upd n o l) (upd n o' l)
  | [] => trivial
  | (m, p) :: r => by
    by_cases hm : m = n
    · simp only [upd, hm, if_true]; exact ⟨rfl, h, leOs_upd h r⟩
    · simp only [upd, hm, if_false]; exact ⟨rfl, leO.rfl' p, leOs_upd h r⟩

theorem h_store {P : Program} {C : Cfg} (hG : Good P C.G) {s : SS} {T : TypeId} {x y : Operand} {dst : Option Tmp} {c : List Bool} {v : SV} {s' : SS}
    (h : sH C s dst (.store T x y) = some (c, v, s')) (hc : allT c) : HDone P C.N s dst (.store T x y) (s'.put dst v) := by
  cases dst with
  | some d => simp [sH] at h
  | none =>
    simp only [sH] at h
    split at h
    · rename_i n sz i off D ex eD
      have hct := TD.ok_cell (hG T _ eD)
      split at h
      · rename_i cs hl
        split at h
        · rename_i us hus
          split at h
          · rename_i hcond
            simp only [Option.some.injEq, Prod.mk.injEq] at h; obtain ⟨_, rfl, rfl⟩ := h
            have hy : cellsOf (ev (s.st C.N).env y) = some (us.map (CV.av s.objs)) := by rw [← sev_av]; exact cellsS_av hus
            have hlk : look n (s.st C.N).objs = some (.box (cs.map (CV.av s.objs))) := by
              show look n (objsAV s.objs s.objs) = _
              rw [lookS_av, hl]; rfl
            refine ⟨s, ⟨.und, (s.st C.N).env, upd n (.box (over (cs.map (CV.av s.objs)) off (us.map (CV.av s.objs)))) (s.st C.N).objs⟩, .rfl' _, .rfl' _, rfl, rfl, ?_, ?_⟩
            · simp only [hOp, hStore, asC_ev ex, CV.av, hlk, hct, hy, List.length_map]
              rw [if_pos ⟨trivial, hcond.1, by rw [← hcond.1]; exact hcond.2⟩]
            · refine .of_eq ?_
              simp only [SS.put, putA]
              rw [st_upd hl (.inl ⟨_, _, rfl, rfl⟩)]
              simp only [SO.av, overC, over, List.map_append, List.map_take, List.map_drop, List.length_map]
          · cases h
        · cases h
      · rename_i ts0 l0 hl0
        split at h
        · rename_i s1 h1
          obtain ⟨a1, a2, a3⟩ := calmS_cov h1
          split at h
          · rename_i ts l us n' sz' i' off' hl hus ex1
            split at h
            · rename_i hcond
              obtain ⟨c1, c2, c3, c4, c5, c6, c7⟩ := hcond
              subst c5; subst c6; subst c7
              split at h
              · rename_i row hrow
                simp only [Option.some.injEq, Prod.mk.injEq] at h; obtain ⟨rfl, rfl, rfl⟩ := h
                have hi : i' < l.length := of_decide_eq_true hc.1
                have hy : cellsOf (ev (s1.st C.N).env y) = some (us.map (CV.av s1.objs)) := by rw [← sev_av]; exact cellsS_av hus
                have hlk : look n' (s1.st C.N).objs = some (.arr ts.len (l.map ts.avs)) := by
                  show look n' (objsAV s1.objs s1.objs) = _
                  rw [lookS_av, hl]; rfl
                have hrowlen : ((l.map ts.avs).getD i' []).length = ts.len := by
                  rw [getD_map_lt ts.avs l i' ts.d [] hi, avs_len]
                refine ⟨s1, ⟨.und, (s1.st C.N).env, upd n' (.arr sz' ((l.map ts.avs).set i' (over ((l.map ts.avs).getD i' []) off' (us.map (CV.av s1.objs))))) (s1.st C.N).objs⟩, a1, a2, rfl, rfl, ?_, ?_⟩
                · have hs := settle_8 (xs := [y]) (objs := (s1.st C.N).objs) (names_none a3)
                  simp only [hOp, hStore, asC_ev ex1, CV.av, hlk, hs, hct, hy, List.length_map, hrowlen]
                  rw [if_pos ⟨c1, hi, c2, by rw [← c2]; exact c3, plainCC_all c4, trivial, trivial, trivial, trivial⟩]
                · simp only [SS.put, putA]
                  rw [st_upd hl (.inr ⟨_, _, _, rfl, rfl, by simp [lSet]⟩)]
                  refine cov_le (leE.rfl' _) (leOs_upd ?_ _)
                  refine ⟨c1, ?_⟩
                  have := leR_set (leR.rfl' (l.map ts.avs)) i' (a := over ((l.map ts.avs).getD i' []) off' (us.map (CV.av s1.objs))) (b := ts.avs row) ?_
                  · simpa only [lSet, List.map_set] using this
                  · have hk := (toKVs_av (O := s1.objs) hrow).1
                    have e : (overC ((ts.kvs (lGet l i' ts.d)).map CV.k) off' us).map (CV.av s1.objs) = over ((l.map ts.avs).getD i' []) off' (us.map (CV.av s1.objs)) := by
                      rw [getD_map_lt ts.avs l i' ts.d [] hi]
                      simp only [overC, over, List.map_append, List.map_take, List.map_drop, List.length_map, kvs_cav, lGet]
                    rw [← e]; exact hk
              · cases h
            · cases h
          · cases h
        · cases h
      · cases h
    · cases h

theorem kill2_av {O : SObjs} {m d : Nat} {o : SO} (hd : lookS d (dropS m O) = none) (x : CV) :
    leC (kill m (x.av O)) ((killC d (killC m x)).av ((d, o) :: mapOC (killC d) (mapOC (killC m) (dropS m O)))) := by
  have own : ∀ k, k ≠ m → k ≠ d → (CV.own k).av ((d, o) :: mapOC (killC d) (mapOC (killC m) (dropS m O))) = (CV.own k).av O := by
    intro k h1 h2
    simp only [CV.av, lookS, Ne.symm h2, if_false, lookS_map, lookS_drop_ne (Ne.symm h1)]
    cases lookS k O with
    | none => rfl
    | some o => cases o <;> rfl
  have killAv : ∀ k, k ≠ m → kill m ((CV.own k).av O) = (CV.own k).av O := by
    intro k h
    simp only [CV.av]
    split <;> simp [kill, h]
  cases x with
  | own k =>
    by_cases h1 : k = m
    · subst h1; simp only [killC, if_true]; exact .any _
    · by_cases h2 : k = d
      · subst h2; simp only [killC, h1, if_false, if_true]; exact .any _
      · simp only [killC, h1, h2, if_false]
        rw [own k h1 h2, killAv k h1]; exact .rfl' _
  | msl k sz off len =>
    by_cases h1 : k = m
    · subst h1; simp only [killC, if_true]; exact .any _
    · by_cases h2 : k = d
      · subst h2; simp only [killC, h1, if_false, if_true]; exact .any _
      · simp only [killC, h1, h2, if_false, CV.av, kill]; exact .rfl' _
  | ref k sz i off =>
    by_cases h1 : k = m
    · subst h1; simp only [killC, if_true]; exact .any _
    · by_cases h2 : k = d
      · subst h2; simp only [killC, h1, if_false, if_true]; exact .any _
      · simp only [killC, h1, h2, if_false, CV.av, kill]; exact .rfl' _
  | k v => cases v <;> exact .rfl' _
  | raw a => cases a <;> exact .rfl' _
  | _ => exact .rfl' _
theorem mapEC_mapEC (κ κ' : CV → CV) (hk : κ .any = .any) (hk' : κ' .any = .any) (E : List (Nat × SV)) (i : Nat) : lkE (mapEC κ (mapEC κ' E)) i = lkE (mapEC (fun x => κ (κ' x)) E) i := by
  rw [lkE_map κ hk, lkE_map κ' hk', lkE_map (fun x => κ (κ' x)) (by simp [hk, hk'])]
  cases lkE E i with
  | v x => cases x <;> simp [mapSC, mapVC]
  | tup l =>
    simp only [mapSC, List.map_map]
    congr 1
    apply List.map_congr_left
    intro x _
    cases x <;> simp [mapVC]
theorem mapOC_mapOC (κ κ' : CV → CV) : ∀ l : SObjs, mapOC κ (mapOC κ' l) = mapOC (fun x => κ (κ' x)) l
  | [] => rfl
  | (n, .box cs) :: r => by simp [mapOC, mapOC_mapOC κ κ' r]
  | (n, .arr ts l) :: r => by simp [mapOC, mapOC_mapOC κ κ' r]

theorem h_append {P : Program} {C : Cfg} (hG : Good P C.G) {s : SS} {args : Array Operand} {argTypes : Array TypeId} {dst : Option Tmp} {c : List Bool} {v : SV} {s' : SS}
    (h : sH C s dst (.call { callee := .builtin .append, args, argTypes }) = some (c, v, s')) (hc : allT c) : HDone P C.N s dst (.call { callee := .builtin .append, args, argTypes }) (s'.put dst v) := by
  cases dst with
  | none => simp [sH] at h
  | some d =>
    simp only [sH] at h
    split at h
    case isFalse => cases h
    rename_i hd
    split at h
    case h_2 => cases h
    rename_i x y T T2 ha ht
    split at h
    case h_2 => cases h
    rename_i ts by_ e
    obtain ⟨g1, g2, g3, _⟩ := hG T _ e
    split at h
    case h_2 => cases h
    rename_i c0 rows hrows
    have hz : (ts.zc.map (CV.av [])).length = ts.len := by rw [List.length_map, zc_len]
    -- the source
    have src : ∀ s1 : SS, allT c0 → (s1 = s ∨ ∃ d, freshS d s = some s1) → True := fun _ _ _ => trivial
    have hsrc : allT c0 → srcRows P (s.st C.N).objs T2 ts.len (ev (s.st C.N).env y) = some (rows.map ts.avs) := by
      intro hc0
      split at hrows
      · rename_i b hy
        split at hrows
        · rename_i e2
          split at hrows
          · rename_i hb
            simp only [Option.some.injEq, Prod.mk.injEq] at hrows; obtain ⟨rfl, rfl⟩ := hrows
            have hts := Tys.beq_eq _ _ hb
            subst hts
            have hev : ev (s.st C.N).env y = .str b := by rw [← sev_av, hy]; rfl
            rw [hev]
            simp only [srcRows, (hG T2 _ e2).1]
            rw [if_pos ⟨trivial, rfl⟩]
            exact congrArg some (bytes_av b).symm
          · cases hrows
        · cases hrows
      · rename_i hns
        split at hrows
        · rename_i hsl
          have hview := sView_sound hrows hc0
          rw [sev_av] at hview
          have hse : (sliceElem P T2).isSome = true := by
            unfold isSliceTD at hsl
            split at hsl
            · rename_i us bb e2; rw [(hG T2 _ e2).1]; rfl
            · cases hsl
          cases hx : ev (s.st C.N).env y with
          | str b => rw [hx] at hview; simp [viewSl] at hview
          | _ =>
            rw [hx] at hview
            simp only [srcRows, hse, if_true]
            exact hview
        · cases hrows
    split at h
    · rename_i hx
      split at h
      case h_2 => cases h
      rename_i s1 h1
      simp only [Option.some.injEq, Prod.mk.injEq] at h; obtain ⟨rfl, rfl, rfl⟩ := h
      obtain ⟨hc0, hc1⟩ := allT_append hc
      have c1 : rows.length ≤ lim := of_decide_eq_true hc1.1
      have c2 : rows.length * by_ ≤ lim := of_decide_eq_true hc1.2.1
      obtain ⟨a1, a2, a3⟩ := freshS_no (N := C.N) h1
      have hev : ev (s.st C.N).env x = .nsl := by rw [← sev_av, hx]; rfl
      -- on the state before: the name is fresh there, too
      have hn : lookS d s.objs = none := by
        unfold freshS at h1
        split at h1
        · assumption
        · cases h1
      refine ⟨s, ⟨.msl d ts.len 0 rows.length, (s.st C.N).env, (d, .arr ts.len (rows.map ts.avs)) :: (s.st C.N).objs⟩, .rfl' _, .rfl' _, rfl, rfl, ?_, ?_⟩
      · simp only [hOp, hd, if_true, ha, ht, hAppend, g1, g2, g3, hsrc hc0, hev]
        rw [if_pos ⟨look_none hn, by simpa using c1, by simpa using c2, hz⟩, List.length_map]
      · rw [st_made a3, own_av]
        have hcov : leE (s.st C.N).env (s1.st C.N).env ∧ leOs (s.st C.N).objs (s1.st C.N).objs := by
          unfold freshS at h1
          split at h1
          · simp only [Option.some.injEq] at h1; subst h1
            have key : ∀ x : CV, leC (id (x.av s.objs)) ((killC d x).av (mapOC (killC d) s.objs)) := by
              intro x
              cases x with
              | own m =>
                simp only [killC]
                split
                · exact .any _
                · simp only [CV.av, lookS_map, id]
                  cases lookS m s.objs with
                  | none => exact .rfl' _
                  | some o => cases o <;> exact .rfl' _
              | msl m sz off len => simp only [killC]; split <;> first | exact .any _ | exact .rfl' _
              | ref m sz i off => simp only [killC]; split <;> first | exact .any _ | exact .rfl' _
              | _ => exact .rfl' _
            constructor
            · have := leE_map (φ := id) (κ := killC d) (by rfl) key C.N s.env
              rw [map_id_mapS] at this
              exact this
            · have := leOs_map (φ := id) (κ := killC d) key s.objs
              rw [mapO_id] at this
              exact this
          · cases h1
        refine cov_le ?_ ⟨rfl, leO.rfl' _, hcov.2⟩
        refine ⟨by simp [putA, st_len], fun i z hz => ?_⟩
        simp only [putA, List.getElem?_set, st_len] at hz ⊢
        split at hz
        · rename_i hdi
          rw [if_pos hdi]
          split at hz
          · rename_i hlt
            simp only [Option.some.injEq] at hz; subst hz
            exact ⟨_, by rw [if_pos hlt], leS.rfl' _⟩
          · cases hz
        · rename_i hdi
          rw [if_neg hdi]
          exact hcov.1.2 i z hz
    · rename_i m hx
      split at h
      case h_2 => cases h
      rename_i us l hl
      split at h
      case isFalse => cases h
      rename_i hb
      split at h
      case h_2 => cases h
      rename_i s1 h1
      simp only [Option.some.injEq, Prod.mk.injEq] at h; obtain ⟨rfl, rfl, rfl⟩ := h
      have hts := Tys.beq_eq _ _ hb
      subst hts
      obtain ⟨hc0, hc1⟩ := allT_append hc
      have c1 : l.length + rows.length ≤ lim := of_decide_eq_true hc1.1
      have c2 : (l.length + rows.length) * by_ ≤ lim := of_decide_eq_true hc1.2.1
      have hev : ev (s.st C.N).env x = .msl m us.len 0 l.length := by rw [← sev_av, hx]; simp [SV.av, VV.av, CV.av, hl]
      have hlk : look m (s.st C.N).objs = some (.arr us.len (l.map us.avs)) := by
        show look m (objsAV s.objs s.objs) = _
        rw [lookS_av, hl]; rfl
      unfold freshS at h1
      split at h1
      case h_2 => cases h1
      rename_i hn
      simp only [Option.some.injEq] at h1; subst h1
      have hn' : lookS d (dropS m s.objs) = none := by
        simp only [lookS_map] at hn
        cases hq : lookS d (dropS m s.objs) with
        | none => rfl
        | some o => simp [hq] at hn
      have hdr : look d (drop m (s.st C.N).objs) = none := by
        show look d (drop m (objsAV s.objs s.objs)) = none
        rw [← objsAV_drop, lookS_av, hn']; rfl
      refine ⟨s, ⟨.msl d us.len 0 (l.length + rows.length), (s.st C.N).env.map (mapS (kill m)), (d, .arr us.len (l.map us.avs ++ rows.map us.avs)) :: mapO (kill m) (drop m (s.st C.N).objs)⟩, .rfl' _, .rfl' _, rfl, rfl, ?_, ?_⟩
      · simp only [hOp, hd, if_true, ha, ht, hAppend, g1, g2, g3, hsrc hc0, hev, hlk, List.length_map]
        rw [if_pos ⟨trivial, trivial, trivial, hdr, c1, c2, by rw [zc_len]⟩]
      · have key := kill2_av (O := s.objs) (m := m) (d := d) (o := .arr us (lApp l rows)) hn'
        have kE := leE_map (φ := kill m) (κ := fun x => killC d (killC m x)) (O := s.objs) (O' := (d, .arr us (lApp l rows)) :: mapOC (killC d) (mapOC (killC m) (dropS m s.objs))) rfl key C.N s.env
        have kO := leOs_map (φ := kill m) (κ := fun x => killC d (killC m x)) (O := s.objs) (O' := (d, .arr us (lApp l rows)) :: mapOC (killC d) (mapOC (killC m) (dropS m s.objs))) key (dropS m s.objs)
        rw [put_st]
        refine cov_le ?_ ?_
        · have e1 : (SV.v (.c (.own d))).av ((d, .arr us (lApp l rows)) :: mapOC (killC d) (mapOC (killC m) (dropS m s.objs))) = .msl d us.len 0 (l.length + rows.length) := by
            rw [own_av]; simp [lApp]
          show leE (putA _ (some d) _) (putA _ (some d) _)
          rw [e1]
          refine ⟨by simp [putA, st_len], fun i z hz => ?_⟩
          simp only [putA, List.getElem?_set, st_len, List.length_map] at hz ⊢
          split at hz
          · rename_i hdi
            rw [if_pos hdi]
            split at hz
            · rename_i hlt
              simp only [Option.some.injEq] at hz; subst hz
              exact ⟨_, by rw [if_pos hlt], leS.rfl' _⟩
            · cases hz
          · rename_i hdi
            rw [if_neg hdi]
            refine kE.2 i z ?_
            rw [← hz]
            simp only [SS.st, List.getElem?_map]
            cases (List.range C.N)[i]? with
            | none => rfl
            | some j => simp only [Option.map_some, mapEC_mapEC (killC d) (killC m) rfl rfl]
        · have e2 : drop m (s.st C.N).objs = objsAV s.objs (dropS m s.objs) := (objsAV_drop _ _ _).symm
          show leOs ((d, Obj.arr us.len (l.map us.avs ++ rows.map us.avs)) :: mapO (kill m) (drop m (s.st C.N).objs))
            ((d, (SO.arr us (lApp l rows)).av ((d, .arr us (lApp l rows)) :: mapOC (killC d) (mapOC (killC m) (dropS m s.objs)))) :: objsAV ((d, .arr us (lApp l rows)) :: mapOC (killC d) (mapOC (killC m) (dropS m s.objs))) (mapOC (killC d) (mapOC (killC m) (dropS m s.objs))))
          refine ⟨rfl, ⟨rfl, ?_⟩, ?_⟩
          · simp only [lApp, List.map_append]; exact leR.rfl' _
          · rw [e2]
            rw [← mapOC_mapOC (killC d) (killC m) (dropS m s.objs)] at kO
            exact kO
    · cases h

theorem sH_sound {P : Program} {C : Cfg} (hG : Good P C.G) {s : SS} {o : Op} {dst : Option Tmp} {c : List Bool} {v : SV} {s' : SS}
    (h : sH C s dst o = some (c, v, s')) (hc : allT c) : HDone P C.N s dst o (s'.put dst v) := by
  cases o with
  | box T x => exact h_box h
  | alloc T => exact h_alloc hG h
  | buildSlice T len parts => exact h_buildSlice hG h
  | makeSlice T l m => exact h_makeSlice hG h hc
  | convert S T x => exact h_bytes hG h hc
  | store T x y => exact h_store hG h hc
  | call cl =>
    obtain ⟨callee, args, tys⟩ := cl
    cases callee with
    | builtin b =>
      cases b with
      | append => exact h_append hG h hc
      | _ => cases dst <;> simp [sH] at h
    | _ => cases dst <;> simp [sH] at h
  | _ => cases dst <;> simp [sH] at h
end Go.Abs
