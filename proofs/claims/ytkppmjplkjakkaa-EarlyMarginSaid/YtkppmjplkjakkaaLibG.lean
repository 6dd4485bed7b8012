/- The walks' library, part G: what a region of the program does in an abstract state, and its soundness. -/
import Derived.ProofKit
import Derived.Carry
import Derived.OpenVars
import Derived.Test.YtkppmjplkjakkaaLibF
/- The bridge: what a statement's arguments are, typed; a law's statement out of its typed contract. -/
namespace Go.Abs
open Go.RowKit Go.ChangeShapes Go.WideShapes

/-! what is well formed -/
mutual
def Ty.wf : (t : Ty) → t.T → Prop
  | .int k, n => (Lit.int k n).wf = true
  | .bool, _ => True
  | .str, s => s.length ≤ lim
  | .sl ts, l => l.length ≤ lim ∧ ∀ x ∈ l, ts.wf x
def Tys.wf : (ts : Tys) → ts.T → Prop
  | .nil, _ => True
  | .cons t ts, x => t.wf x.1 ∧ ts.wf x.2
end
def CT.wf : (c : CT) → c.T → Prop
  | .ty t, x => t.wf x
  | .ag ts, x => ts.wf x
def argsWf : (l : List AT) → argsT l → Prop
  | [], _ => True
  | .v c :: l, x => c.wf x.1 ∧ argsWf l x.2
  | .bx ts :: l, x => ts.wf x.1 ∧ argsWf l x.2

/-! splitting a row of types -/
def takeTs : Nat → Tys → Tys
  | 0, _ => .nil
  | _ + 1, .nil => .nil
  | n + 1, .cons t ts => .cons t (takeTs n ts)
def dropTs : Nat → Tys → Tys
  | 0, ts => ts
  | _ + 1, .nil => .nil
  | n + 1, .cons _ ts => dropTs n ts
def joinTs : (n : Nat) → (ts : Tys) → (takeTs n ts).T → (dropTs n ts).T → ts.T
  | 0, _, _, b => b
  | _ + 1, .nil, _, _ => ()
  | n + 1, .cons _ ts, a, b => (a.1, joinTs n ts a.2 b)
theorem joinTs_av : ∀ (n : Nat) (ts : Tys) (a : (takeTs n ts).T) (b : (dropTs n ts).T), ts.avs (joinTs n ts a b) = (takeTs n ts).avs a ++ (dropTs n ts).avs b
  | 0, _, _, _ => rfl
  | _ + 1, .nil, _, _ => rfl
  | n + 1, .cons t ts, a, b => by
    show t.av a.1 :: ts.avs (joinTs n ts a.2 b) = t.av a.1 :: ((takeTs n ts).avs a.2 ++ (dropTs n ts).avs b)
    rw [joinTs_av n ts a.2 b]
theorem joinTs_wf : ∀ (n : Nat) (ts : Tys) (a : (takeTs n ts).T) (b : (dropTs n ts).T), (takeTs n ts).wf a → (dropTs n ts).wf b → ts.wf (joinTs n ts a b)
  | 0, _, _, _, _, h => h
  | _ + 1, .nil, _, _, _, _ => trivial
  | n + 1, .cons _ ts, a, b, h1, h2 => ⟨h1.1, joinTs_wf n ts a.2 b h1.2 h2⟩

/-- A type of the program and the types of its cells. -/
def fitF (P : Program) (fit : TypeId → Tys → Bool) : List Field → Nat → Tys → Bool
  | [], _, ts => ts.beq .nil
  | f :: fs, off, ts => decide (f.offset = off) && (decide ((takeTs (P.cellsOf f.type) ts).len = P.cellsOf f.type) && (fit f.type (takeTs (P.cellsOf f.type) ts) && fitF P fit fs (off + P.cellsOf f.type) (dropTs (P.cellsOf f.type) ts)))
def fitB (P : Program) : Nat → TypeId → Tys → Bool
  | 0, _, _ => false
  | n + 1, T, ts => match P.underlying T with
    | some (.int k) => ts.beq (.cons (.int k) .nil)
    | some .bool => ts.beq (.cons .bool .nil)
    | some .string => ts.beq (.cons .str .nil)
    | some (.slice e) => match ts with
      | .cons (.sl us) .nil => fitB P n e us && (decide (P.cellsOf e = us.len) && (decide (0 < us.len) && decide (0 < P.bytesOf e)))
      | _ => false
    | some (.struct fs) => decide (P.cellsOf T = ts.len) && fitF P (fitB P n) fs.toList 0 ts
    | _ => false

/-- cells that stand for data -/
def Stands (W : World) (xs : List AV) (cs : List Value) : Prop := cs.length = xs.length ∧ ∀ (i : Nat) (a : AV), xs[i]? = some a → Imm W (fun _ => False) a (cs.getD i undef) ∧ (cs.getD i undef).oneCell' = true
theorem Stands.append {W : World} {a b : List AV} {cs ds : List Value} (h : Stands W a cs) (k : Stands W b ds) : Stands W (a ++ b) (cs ++ ds) := by
  refine ⟨by simp [h.1, k.1], fun i x hx => ?_⟩
  by_cases hi : i < a.length
  · rw [List.getElem?_append_left hi] at hx
    have : (cs ++ ds).getD i undef = cs.getD i undef := by simp [List.getD, List.getElem?_append_left (show i < cs.length by rw [h.1]; exact hi)]
    rw [this]; exact h.2 i x hx
  · rw [List.getElem?_append_right (by omega)] at hx
    have : (cs ++ ds).getD i undef = ds.getD (i - a.length) undef := by simp [List.getD, List.getElem?_append_right (show cs.length ≤ i by rw [h.1]; omega), h.1]
    rw [this]; exact k.2 _ x hx
theorem stands_one {W : World} {x : AV} {v : Value} (h : Imm W (fun _ => False) x v) (h1 : v.oneCell' = true) : Stands W [x] [v] := by
  refine ⟨rfl, fun i a ha => ?_⟩
  cases i with
  | zero => simp only [List.getElem?_cons_zero, Option.some.injEq] at ha; subst ha; exact ⟨h, h1⟩
  | succ i => simp at ha

theorem list_of {α : Type} {Q : Nat → α → Prop} : ∀ (n : Nat), (∀ i, i < n → ∃ y, Q i y) → ∃ l : List α, l.length = n ∧ ∀ (i : Nat) (y : α), l[i]? = some y → Q i y
  | 0, _ => ⟨[], rfl, by simp⟩
  | n + 1, h => by
    obtain ⟨l, h1, h2⟩ := list_of n (fun i hi => h i (by omega))
    obtain ⟨y, hy⟩ := h n (by omega)
    refine ⟨l ++ [y], by simp [h1], fun i z hz => ?_⟩
    rw [List.getElem?_append] at hz
    split at hz
    · exact h2 i z hz
    · rename_i hi
      have : i - l.length = 0 := by
        rcases Nat.eq_zero_or_pos (i - l.length) with h | h
        · exact h
        · rw [List.getElem?_eq_none (by simp; omega)] at hz; cases hz
      rw [this] at hz
      simp only [List.getElem?_cons_zero, Option.some.injEq] at hz; subst hz
      have : i = n := by omega
      subst this; exact hy

theorem weights_mem {H : Type} {P : Program} {e : TypeId} : ∀ {l : List (DataW H)} {d : DataW H} {x : Nat}, d ∈ l → x ∈ d.weights P e → x ∈ DataW.weightsAll P e l
  | [], d, x, h, _ => by simp at h
  | a :: l, d, x, h, hx => by
    rw [DataW.weightsAll]
    rcases List.mem_cons.1 h with rfl | h
    · exact List.mem_append.2 (.inl hx)
    · exact List.mem_append.2 (.inr (weights_mem h hx))

theorem reach_lim {n : Nat} (h : n ≤ reachBytes) : n ≤ lim := by
  have : reachBytes ≤ lim := by decide
  omega

section
variable {H : Type} {enc : TypeId × Value → H} {P : Program} {W : World}

theorem open_fields {n : Nat} (ih : ∀ (T : TypeId) (ts : Tys) (fuel : Nat) (cs : List Value) (d : DataW H) (ps : List MemPlace), fitB P n T ts = true → DataW.trod enc P W 0 (fun _ => true) true fuel T cs = some (d, ps) → (∀ x ∈ d.weights P T, x ≤ reachBytes) →
      ∃ y : ts.T, ts.wf y ∧ Stands W (ts.avs y) cs) (fuel : Nat) (all : List Value) :
    ∀ (fs : List Field) (off : Nat) (ts : Tys) (xs : List (DataW H × List MemPlace)), fitF P (fitB P n) fs off ts = true → xs.length = fs.length → off + ts.len = all.length →
      (∀ (i : Nat) (f : Field), fs[i]? = some f → DataW.trod enc P W 0 (fun _ => true) true fuel f.type ((all.drop f.offset).take (P.cellsOf f.type)) = xs[i]?) →
      (∀ x ∈ DataW.weightsEach P (fs.map (·.type)) (xs.map (·.1)), x ≤ reachBytes) → ∃ y : ts.T, ts.wf y ∧ Stands W (ts.avs y) (all.drop off)
  | [], off, ts, xs, h, hl, hall, hx, hw => by
    have := Tys.beq_eq _ _ h
    subst this
    refine ⟨(), trivial, ?_⟩
    have : all.drop off = [] := List.drop_eq_nil_of_le (by simp [Tys.len] at hall; omega)
    rw [this]
    exact ⟨rfl, fun i a ha => by simp [Tys.avs] at ha⟩
  | f :: fs, off, ts, [], h, hl, hall, hx, hw => by simp at hl
  | f :: fs, off, ts, x :: xs, h, hl, hall, hx, hw => by
    simp only [fitF, Bool.and_eq_true, decide_eq_true_eq] at h
    obtain ⟨h1, h2, h3, h4⟩ := h
    obtain ⟨d, ps⟩ := x
    have hx0 := hx 0 f (by simp)
    simp only [List.getElem?_cons_zero] at hx0
    have hwe : DataW.weightsEach P ((f :: fs).map (·.type)) (((d, ps) :: xs).map (·.1)) = d.weights P f.type ++ DataW.weightsEach P (fs.map (·.type)) (xs.map (·.1)) := by
      simp only [List.map_cons]; rw [DataW.weightsEach]
    rw [hwe] at hw
    obtain ⟨a, ha1, ha2⟩ := ih f.type _ fuel _ d ps h3 hx0 (fun x hx => hw x (List.mem_append.2 (.inl hx)))
    have hlen : ∀ (n : Nat) (ts : Tys), (takeTs n ts).len + (dropTs n ts).len = ts.len := by
      intro n
      induction n with
      | zero => intro ts; simp [takeTs, dropTs, Tys.len]
      | succ n ih => intro ts; cases ts with
        | nil => simp [takeTs, dropTs, Tys.len]
        | cons t ts => simp only [takeTs, dropTs, Tys.len]; have := ih ts; omega
    have hl2 := hlen (P.cellsOf f.type) ts
    obtain ⟨b, hb1, hb2⟩ := open_fields ih fuel all fs (off + P.cellsOf f.type) (dropTs (P.cellsOf f.type) ts) xs h4 (by simpa using hl) (by omega) (fun i g hg => by simpa using hx (i + 1) g (by simpa using hg)) (fun x hx => hw x (List.mem_append.2 (.inr hx)))
    refine ⟨joinTs _ ts a b, joinTs_wf _ ts a b ha1 hb1, ?_⟩
    rw [joinTs_av]
    have hsplit : all.drop off = (all.drop off).take (P.cellsOf f.type) ++ all.drop (off + P.cellsOf f.type) := by
      rw [← List.drop_drop, List.take_append_drop]
    rw [hsplit]
    rw [h1] at ha2
    exact ha2.append hb2

theorem open_ts : ∀ (n : Nat) (T : TypeId) (ts : Tys) (fuel : Nat) (cs : List Value) (d : DataW H) (ps : List MemPlace), fitB P n T ts = true → DataW.trod enc P W 0 (fun _ => true) true fuel T cs = some (d, ps) → (∀ x ∈ d.weights P T, x ≤ reachBytes) →
    ∃ y : ts.T, ts.wf y ∧ Stands W (ts.avs y) cs
  | 0, _, _, _, _, _, _, h, _, _ => by simp [fitB] at h
  | n + 1, T, ts, fuel, cs, d, ps, h, ht, hw => by
    unfold fitB at h
    split at h
    · rename_i k hu
      have := Tys.beq_eq _ _ h
      subst this
      obtain ⟨m, rfl, _, hwf⟩ := DataW.trod_int hu ht
      exact ⟨((m : Int), ()), ⟨hwf, trivial⟩, stands_one (.int k m) rfl⟩
    · rename_i hu
      have := Tys.beq_eq _ _ h
      subst this
      obtain ⟨b, rfl, _⟩ := DataW.trod_bool hu ht
      exact ⟨(b, ()), ⟨trivial, trivial⟩, stands_one (.bool b) rfl⟩
    · rename_i hu
      have := Tys.beq_eq _ _ h
      subst this
      obtain ⟨s, rfl, e, _⟩ := DataW.trod_string hu ht
      simp only [Prod.mk.injEq] at e
      rw [e.1] at hw
      have hl : s.data.toList.length ≤ lim := reach_lim (hw _ (by rw [DataW.weights]; exact List.mem_cons_self ..))
      refine ⟨((s.data.toList : List UInt8), ()), ⟨hl, trivial⟩, stands_one ?_ rfl⟩
      have := Imm.str (w := W) (M := fun _ => False) s.data.toList hl
      have e : (⟨s.data.toList.toArray⟩ : ByteArray) = s := by cases s; simp
      rw [e] at this
      exact this
    · rename_i e hu
      split at h
      · rename_i us
        simp only [Bool.and_eq_true, decide_eq_true_eq] at h
        obtain ⟨h1, h2, h3, h4⟩ := h
        rcases DataW.trod_slice hu ht with ⟨rfl, _⟩ | ⟨a, len, cap, elems, rest, m, _, rfl, hx, _, hlc, _, hlen, hel, _, _⟩
        · exact ⟨(([] : List us.T), ()), ⟨⟨by simp [lim], by simp⟩, trivial⟩, stands_one (.slnil us.len none 0) rfl⟩
        · simp only [Prod.mk.injEq] at hx
          obtain ⟨rfl, _⟩ := hx
          rw [DataW.weights, hu] at hw
          have hle : len ≤ lim := by
            have h5 := hw _ (List.mem_cons_self ..)
            simp only [List.length_map] at h5
            have h6 : len ≤ (elems.length + rest.length) * P.bytesOf e := by
              rw [hlen]
              exact Nat.le_trans (Nat.le_add_right _ _) (Nat.le_mul_of_pos_right _ h4)
            exact reach_lim (by omega)
          -- the elements
          have hone : ∀ i, i < len → ∃ y : us.T, us.wf y ∧ ∃ c : List Value, Stands W (us.avs y) c ∧ ∀ j, j < us.len → W.cell? ((a.add (i * us.len)).add j) = c[j]? := by
            intro i hi
            have h5 := hel i hi
            rw [List.getElem?_eq_getElem (by omega), h2] at h5
            obtain ⟨c, hc1, hc2⟩ := Option.bind_eq_some_iff.1 h5
            obtain ⟨_, g1, g2⟩ := World.cells?_some hc1
            have hm : (elems[i]'(by omega)).1 ∈ elems.map (·.1) := List.mem_map_of_mem (List.getElem_mem _)
            obtain ⟨y, y1, y2⟩ := open_ts n e us m c (elems[i]'(by omega)).1 (elems[i]'(by omega)).2 h1 hc2 (fun x hx => hw x (List.mem_cons_of_mem _ (List.mem_append.2 (.inl (weights_mem hm hx)))))
            exact ⟨y, y1, c, y2, g2⟩
          obtain ⟨l, hl1, hl2⟩ := list_of len hone
          refine ⟨((l : List us.T), ()), ⟨⟨by rw [hl1]; exact hle, fun x hx => ?_⟩, trivial⟩, stands_one ?_ rfl⟩
          · obtain ⟨i, hi, rfl⟩ := List.getElem_of_mem hx
            exact (hl2 i _ (List.getElem?_eq_getElem hi)).1
          · show Imm W _ (.sl us.len (l.map us.avs)) _
            cases len with
            | zero =>
              have : l = [] := List.length_eq_zero_iff.1 hl1
              subst this
              exact .slnil us.len (some a) cap
            | succ len =>
              obtain ⟨y0, c0, hy0, hs0, hc0⟩ : ∃ y c, l[0]? = some y ∧ Stands W (us.avs y) c ∧ ∀ j, j < us.len → W.cell? ((a.add (0 * us.len)).add j) = c[j]? := by
                obtain ⟨y, hy⟩ : ∃ y, l[0]? = some y := ⟨l[0]'(by omega), List.getElem?_eq_getElem (by omega)⟩
                obtain ⟨_, c, k1, k2⟩ := hl2 0 y hy
                exact ⟨y, c, hy, k1, k2⟩
              have hlen0 : c0.length = us.len := by rw [hs0.1, avs_len]
              have hcell0 : W.cell? a = some (c0[0]'(by omega)) := by
                have := hc0 0 h3
                rw [List.getElem?_eq_getElem (by omega)] at this
                simpa [Addr.add] using this
              obtain ⟨b, off, spot⟩ := a
              have hspot : spot = none := World.cell?_spot hcell0
              subst hspot
              have hb : b < W.heap.size := by
                unfold World.cell? at hcell0
                cases hh : W.heap[b]? with
                | none => simp [hh] at hcell0
                | some o => exact (Array.getElem?_eq_some_iff.1 hh).1
              have hadd : ∀ k j, ((⟨b, off, none⟩ : Addr).add k).add j = ⟨b, off + (k + j), none⟩ := by
                intro k j
                rw [addr_add, addr_add, Nat.add_assoc]
              have hlm : (l.map us.avs).length = len + 1 := by rw [List.length_map, hl1]
              rw [← hlm]
              have key : ∀ (j : Nat) (cs : List AV), (l.map us.avs)[j]? = some cs → ∃ y c, us.avs y = cs ∧ Stands W (us.avs y) c ∧ ∀ i, i < us.len → W.cell? ⟨b, off + (j * us.len + i), none⟩ = c[i]? := by
                intro j cs hj
                rw [List.getElem?_map] at hj
                obtain ⟨y, hy, rfl⟩ := Option.map_eq_some_iff.1 hj
                obtain ⟨_, c, k1, k2⟩ := hl2 j y hy
                exact ⟨y, c, rfl, k1, fun i hi => by rw [← hadd]; exact k2 i hi⟩
              refine Imm.sl us.len (l.map us.avs) b off cap (fun j i => (W.cell? ⟨b, off + (j * us.len + i), none⟩).getD undef) hb (fun h => h) (by rw [hlm]; exact hlc) (by rw [hlm]; exact hle) ?_ ?_ ?_ ?_
              · intro j cs hj
                obtain ⟨y, c, rfl, k1, k2⟩ := key j cs hj
                exact avs_len us y
              · intro j cs i x hj hi
                obtain ⟨y, c, rfl, k1, k2⟩ := key j cs hj
                have hi' : i < us.len := by
                  rcases Nat.lt_or_ge i us.len with h | h
                  · exact h
                  · rw [List.getElem?_eq_none (by rw [avs_len]; exact h)] at hi; cases hi
                have hc := k2 i hi'
                rw [List.getElem?_eq_getElem (show i < c.length by rw [k1.1, avs_len]; exact hi')] at hc
                rw [hc]; rfl
              · intro j cs i x hj hi
                obtain ⟨y, c, rfl, k1, k2⟩ := key j cs hj
                have hi' : i < us.len := by
                  rcases Nat.lt_or_ge i us.len with h | h
                  · exact h
                  · rw [List.getElem?_eq_none (by rw [avs_len]; exact h)] at hi; cases hi
                have := (k1.2 i x hi).2
                rw [k2 i hi']
                exact this
              · intro j cs i x hj hi
                obtain ⟨y, c, rfl, k1, k2⟩ := key j cs hj
                have hi' : i < us.len := by
                  rcases Nat.lt_or_ge i us.len with h | h
                  · exact h
                  · rw [List.getElem?_eq_none (by rw [avs_len]; exact h)] at hi; cases hi
                have := (k1.2 i x hi).1
                rw [k2 i hi']
                exact this
      · cases h
    · rename_i fs hu
      simp only [Bool.and_eq_true, decide_eq_true_eq] at h
      obtain ⟨h1, h2⟩ := h
      obtain ⟨xs, m, _, hx, hcl, hxl, hf⟩ := DataW.trod_struct hu ht
      simp only [Prod.mk.injEq] at hx
      obtain ⟨rfl, _⟩ := hx
      rw [DataW.weights, hu] at hw
      have := open_fields (open_ts n) m cs fs.toList 0 ts xs h2 (by simpa using hxl) (by rw [hcl]; omega) (fun i f hi => hf i f (by simpa using hi)) hw
      simpa using this
    · cases h

/-- A parameter's type and the type of the component. -/
def fitC (P : Program) (T : TypeId) : CT → Bool
  | .ty t => fitB P 20 T (.cons t .nil) && (match P.underlying T with | some (.int _) | some .bool | some .string | some (.slice _) => true | _ => false)
  | .ag ts => fitB P 20 T ts && (match P.underlying T with | some (.struct _) => true | _ => false)
def fitArgs (P : Program) : List TypeId → List CT → Bool
  | [], [] => true
  | T :: Ts, c :: cs => fitC P T c && fitArgs P Ts cs
  | _, _ => false
theorem imm_slot {x : AV} {v : Value} (h : Imm W (fun _ => False) x v) : Slot W (fun _ => none) x v :=
  Imm.slot (D := fun _ => none) (h.mono (Grow.refl W _).toKeep fun b _ hb => by obtain ⟨n, hn⟩ := hb; cases hn)
theorem open_ct {c : CT} {T : TypeId} {v : Value} {d : DataW H} {ps : List MemPlace} {b0 : Nat} (hf : fitC P T c = true) (hv : Value.okWide P W .any b0 T v) (ht : DataW.Trod enc P W 0 (fun _ => true) true T v d ps) (hw : ∀ x ∈ d.weights P T, x ≤ reachBytes) :
    ∃ y : c.T, c.wf y ∧ Slot W (fun _ => none) (c.av y) v := by
  obtain ⟨fuel, ht⟩ := ht
  cases c with
  | ty t =>
    simp only [fitC, Bool.and_eq_true] at hf
    obtain ⟨y, y1, y2⟩ := open_ts 20 T _ fuel _ d ps hf.1 ht hw
    have hone : v.cells = #[v] := by
      have h2 := hf.2
      split at h2
      · rename_i k hu; obtain ⟨n, rfl⟩ := okWide_int hu hv; rfl
      · rename_i hu; obtain ⟨n, rfl⟩ := okWide_bool hu hv; rfl
      · rename_i hu; obtain ⟨n, rfl⟩ := okWide_string hu hv; rfl
      · rename_i e hu; obtain ⟨a, l, c, rfl⟩ := okWide_slice hu hv; rfl
      · cases h2
    rw [hone] at y2
    have := (y2.2 0 (t.av y.1) rfl).1
    exact ⟨y.1, y1.1, imm_slot this⟩
  | ag ts =>
    simp only [fitC, Bool.and_eq_true] at hf
    obtain ⟨y, y1, y2⟩ := open_ts 20 T _ fuel _ d ps hf.1 ht hw
    have hagg : ∃ cs, v = .agg cs := by
      have h2 := hf.2
      split at h2
      · rename_i fs hu; obtain ⟨cs, rfl, _⟩ := okWide_struct hu hv; exact ⟨cs, rfl⟩
      · cases h2
    obtain ⟨cs, rfl⟩ := hagg
    refine ⟨y, y1, cs.toList, by simp, y2.1, fun i x hx => ?_⟩
    obtain ⟨k1, k2⟩ := y2.2 i x hx
    exact ⟨Imm.cell (D := fun _ => none) (k1.mono (Grow.refl W _).toKeep fun b _ hb => by obtain ⟨n, hn⟩ := hb; cases hn), k2⟩
end

theorem open_args {H : Type} {enc : TypeId × Value → H} {P : Program} {W : World} {b0 : Nat} : ∀ {Ts : List TypeId} {cts : List CT} {vs : List Value} {ds : List (DataW H)} {ps : List MemPlace}, fitArgs P Ts cts = true →
    (∀ (j : Nat) t v, Ts[j]? = some t → vs[j]? = some v → Value.okWide P W .any b0 t v) → DataW.TrodAll enc P W 0 (fun _ => true) true Ts vs ds ps → (∀ x ∈ DataW.weightsEach P Ts ds, x ≤ reachBytes) →
    ∃ x : argsT (cts.map AT.v), argsWf _ x ∧ (∀ ν i, ArgsRep W (fun _ => none) (argsAV ν (cts.map AT.v) i x) vs) ∧ ds.length = cts.length
  | [], [], vs, ds, ps, _, _, h, _ => by
    cases vs with
    | nil => cases ds with
      | nil => exact ⟨(), trivial, fun _ _ => ⟨rfl, fun i x hx => by cases hx⟩, rfl⟩
      | cons d ds => exact h.elim
    | cons v vs => exact h.elim
  | [], _ :: _, vs, ds, ps, h, _, _, _ => by simp [fitArgs] at h
  | _ :: _, [], vs, ds, ps, h, _, _, _ => by simp [fitArgs] at h
  | T :: Ts, c :: cts, vs, ds, ps, h, hv, ht, hw => by
    simp only [fitArgs, Bool.and_eq_true] at h
    cases vs with
    | nil => exact ht.elim
    | cons v vs =>
      cases ds with
      | nil => exact ht.elim
      | cons d ds =>
        obtain ⟨p, q, h1, h2, _⟩ := ht
        rw [DataW.weightsEach] at hw
        obtain ⟨y, y1, y2⟩ := open_ct h.1 (hv 0 T v rfl rfl) h1 (fun x hx => hw x (List.mem_append.2 (.inl hx)))
        obtain ⟨x, x1, x2, x3⟩ := open_args (cts := cts) h.2 (fun j t v ht hv' => hv (j + 1) t v (by simpa using ht) (by simpa using hv')) h2 (fun x hx => hw x (List.mem_append.2 (.inr hx)))
        refine ⟨(y, x), ⟨y1, x1⟩, fun ν i => ⟨?_, fun j a ha => ?_⟩, by simp [x3]⟩
        · show (v :: vs).length = (c.av y :: argsAV ν (cts.map AT.v) (i + 1) x).length
          simp only [List.length_cons, (x2 ν (i + 1)).1]
        · have ha : (c.av y :: argsAV ν (cts.map AT.v) (i + 1) x)[j]? = some a := ha
          cases j with
          | zero => simp only [List.getElem?_cons_zero, Option.some.injEq] at ha; subst ha; simpa using y2
          | succ j => simpa using (x2 ν (i + 1)).2 j a (by simpa using ha)

theorem trod_args {H : Type} {enc : TypeId × Value → H} {P : Program} {W W' : World} (hl : laidOutB P = true) (hb : Below W.heap.size W W') : ∀ {Ts : List TypeId} {vs : List Value} {ds : List (DataW H)} {ps : List MemPlace}, (Ts.all fun t => P.readableRec t && decide (t < P.types.size)) = true →
    DataW.TrodAll enc P W 0 (fun _ => true) true Ts vs ds ps → (∀ x ∈ ps, x.block < W.heap.size) → DataW.TrodAll enc P W' 0 (fun b => decide (b < W.heap.size)) true Ts vs ds ps
  | [], vs, ds, ps, _, h, _ => by
    cases vs with
    | nil => cases ds with
      | nil => exact h
      | cons d ds => exact h.elim
    | cons v vs => exact h.elim
  | T :: Ts, vs, ds, ps, hr, h, hlt => by
    simp only [List.all_cons, Bool.and_eq_true, decide_eq_true_eq] at hr
    cases vs with
    | nil => exact h.elim
    | cons v vs =>
      cases ds with
      | nil => exact h.elim
      | cons d ds =>
        obtain ⟨p, q, h1, h2, rfl⟩ := h
        exact ⟨p, q, Below.trod hl hr.1.1 hr.1.2 h1 hb (fun x hx => hlt x (List.mem_append.2 (.inl hx))), trod_args hl hb (by simpa using hr.2) h2 (fun x hx => hlt x (List.mem_append.2 (.inr hx))), rfl⟩

/-- A LAW: from its typed contract to what its row says of one machine. -/
theorem law_lifted {H : Type} {enc : TypeId × Value → H} {C : Checked} {os : Os} {f : FuncId} {fn : Func} {s : ChangeSpec} {cts : List CT} {F : argsT (cts.map AT.v) → Option (Sig.R ⟨cts.map AT.v, .v (.ty .bool)⟩)} {tb : TypeId}
    (own : ownKnob C.prog.godebug = none) (started : os.Started) (noInit : C.prog.inits.idxOf? f = none) (hfn : C.prog.funcs[f]? = some fn)
    (witness : ∃ (w : World) (tape : Tape) (i : Input), w.os = os ∧ (w.forCall tape i).Shaped C.prog ∧ i.vars = [] ∧ Input.okWide C.prog (w.forCall tape i) .any w.heap.size f i ∧
      s.pre6 enc C.prog fn [] false (w.forCall tape i).memory i.args ∧ Assume.holds {} C.prog (lone (Frame.enter C.prog f i.args .normal) [] (w.forCall tape i)))
    (hvars : s.vars = []) (hspec : ∀ ds : List (DataW H), ds.length = cts.length → s.fn H ds = ⟨[.lit (.bool true)], ds, []⟩) (hres : fn.resultTypes = #[tb]) (htb : C.prog.underlying tb = some .bool)
    (hfit : fitArgs C.prog fn.params.toList cts = true) (hread : (fn.params.toList.all fun t => C.prog.readableRec t && decide (t < C.prog.types.size)) = true) (hlaid : laidOutB C.prog = true)
    (hTC : TC C.prog f ⟨⟨cts.map AT.v, .v (.ty .bool)⟩, F⟩) (hF : ∀ x, argsWf _ x → ∃ o, F x = some (true, o)) :
    ReturnsInHanded {} C os f .any (s.pre6 enc C.prog fn [] false) (s.post enc C.prog fn false true false false) := by
  refine returnsInHanded_of_calls own started noInit witness ?_
  intro w tape i _ _ _ hok hpre _
  obtain ⟨_, _, _, fn', hfn', _, _, _, _, hval⟩ := hok
  have e : fn' = fn := Option.some.inj (hfn'.symm.trans hfn)
  subst e
  obtain ⟨_, _, ds, gs, before, hw, hsz⟩ := hpre
  have hw : DataW.Whole enc C.prog fn'.params.toList s.vars false _ _ ds gs before := hw
  have hW := DataW.Whole.of_heap (w' := w.forCall tape i) (by rfl) hw
  generalize w.forCall tape i = W at *
  generalize i.args = args at *
  generalize w.heap.size = b0 at *
  obtain ⟨p, q, hA, hV, hpq, hfz, hnd⟩ := hW
  have hlt : ∀ x ∈ before, x.block < W.heap.size := DataW.Whole.lt ⟨p, q, hA, hV, hpq, hfz, hnd⟩
  have hW : DataW.Whole enc C.prog fn'.params.toList s.vars false W args.toList ds gs before := ⟨p, q, hA, hV, hpq, hfz, hnd⟩
  rw [hvars] at hV
  obtain ⟨hgs, hq⟩ : gs = [] ∧ q = [] := by
    cases gs with
    | nil => exact ⟨rfl, hV⟩
    | cons g gs => exact hV.elim
  subst hgs; subst hq
  have hsz2 : ∀ x ∈ DataW.weightsEach C.prog fn'.params.toList ds, x ≤ reachBytes := by
    have hvt : s.plain.varTypes C.prog = [] := by
      have : s.plain.vars = [] := hvars
      simp [DataSpec.varTypes, this]
    have h2 : (DataW.weightsEach C.prog (fn'.params.toList ++ s.plain.varTypes C.prog) (ds ++ [])).all (· ≤ reachBytes) = true := hsz
    rw [hvt, List.append_nil, List.append_nil] at h2
    rw [List.all_eq_true] at h2
    intro x hx
    simpa using h2 x hx
  obtain ⟨x, x1, x2, x3⟩ := open_args (b0 := b0) hfit (fun j t v ht hv => hval j t v (by simpa using ht) (by simpa using hv)) hA hsz2
  obtain ⟨o, ho⟩ := hF x x1
  have hc := hTC x (true, o) ho
  have hno : noBx (cts.map AT.v) = true := by
    have : ∀ cts : List CT, noBx (cts.map AT.v) = true := by
      intro cts
      induction cts with
      | nil => rfl
      | cons c cts ih => exact ih
    exact this cts
  have hcalls := hc W (fun _ => none) args.toList (by rw [osAV_no hno]; exact mem_none W) (x2 canon 0)
  rw [Array.toArray_toList] at hcalls
  refine hcalls.mono fun e W' hp => ?_
  obtain ⟨v, D', rfl, hm', hs, _⟩ := hp
  have hv : v = .bool true := slot_bool hs
  subst hv
  have hb : Below W.heap.size W W' := below_of_grow (hm'.grow.weaken fun b _ hb => by obtain ⟨n, _, hn⟩ := hb; cases hn) hm'.os hm'.tape hm'.output
  refine ChangeSpec.post_blind ?_
  have hrl : (Value.bool true).resultList fn'.resultTypes.size = [.bool true] := by rw [hres]; rfl
  refine ⟨ds, [], before, [], p, [], hW, ?_, ?_, ?_, hb.frame _, fun h => by cases h⟩
  · rw [List.append_nil, hspec ds x3, hrl, hres]
    exact trodAll_mk1 (shut_bool htb true)
  · rw [List.append_nil, hspec ds x3]
    refine trod_args hlaid hb hread hA (fun y hy => hlt y ?_)
    rw [hpq]; exact List.mem_append.2 (.inl hy)
  · rw [List.append_nil, hspec ds x3, hvars]
    exact rfl
end Go.Abs

/- Checks that compute: the types of a program are what a table says of them. -/
namespace Go.Abs

def avB : AV → AV → Bool
  | .int k n, .int k' n' => decide (k = k') && decide (n = n')
  | .bool a, .bool b => a == b
  | .str a, .str b => a.isEmpty && b.isEmpty
  | .nsl, .nsl => true
  | _, _ => false
theorem avB_eq : ∀ {a b : AV}, avB a b = true → a = b := by
  intro a b h
  cases a <;> cases b <;> simp [avB] at h ⊢
  all_goals first | exact h | skip
  obtain ⟨h1, h2⟩ := h
  rw [h1, h2]
def avsB : List AV → List AV → Bool
  | [], [] => true
  | a :: l, b :: m => avB a b && avsB l m
  | _, _ => false
theorem avsB_eq : ∀ {a b : List AV}, avsB a b = true → a = b
  | [], [], _ => rfl
  | a :: l, b :: m, h => by
    simp only [avsB, Bool.and_eq_true] at h
    rw [avB_eq h.1, avsB_eq h.2]
  | [], _ :: _, h => by simp [avsB] at h
  | _ :: _, [], h => by simp [avsB] at h
def oavsB : Option (List AV) → List AV → Bool
  | some a, b => avsB a b
  | none, _ => false
theorem oavsB_eq : ∀ {a : Option (List AV)} {b : List AV}, oavsB a b = true → a = some b
  | some a, b, h => by rw [avsB_eq h]
  | none, _, h => by simp [oavsB] at h
def avssB : List (List AV) → List (List AV) → Bool
  | [], [] => true
  | a :: l, b :: m => avsB a b && avssB l m
  | _, _ => false
theorem avssB_eq : ∀ {a b : List (List AV)}, avssB a b = true → a = b
  | [], [], _ => rfl
  | a :: l, b :: m, h => by
    simp only [avssB, Bool.and_eq_true] at h
    rw [avsB_eq h.1, avssB_eq h.2]
  | [], _ :: _, h => by simp [avssB] at h
  | _ :: _, [], h => by simp [avssB] at h

def nlZ : Option (List AV) → KC → Bool
  | some [.cst (.pointer none)], .nilP => true
  | some [.cst .nilFunc], .nilF => true
  | some [.cst .nilIface], .nilI => true
  | _, _ => false
theorem nlZ_eq {z : Option (List AV)} {c : KC} (h : nlZ z c = true) : z = some [.cst c.val] := by
  unfold nlZ at h
  split at h <;> first | rfl | cases h
def TD.okB (P : Program) (T : TypeId) : TD → Bool
  | .nl c => nlOk P T c && (decide (cellTy P T = some (false, 1)) && (nlZ (zeroCells P T) c && decide (arrElem P T = none)))
  | .int k => decide (intTy P T = some k) && (decide (cellTy P T = some (false, 1)) && (oavsB (zeroCells P T) [.int k 0] && decide (arrElem P T = none)))
  | .bool => boolTy P T && (decide (cellTy P T = some (false, 1)) && (oavsB (zeroCells P T) [.bool false] && decide (arrElem P T = none)))
  | .str => strTy P T && (decide (cellTy P T = some (false, 1)) && (oavsB (zeroCells P T) [.str []] && decide (arrElem P T = none)))
  | .slice ts b => decide (sliceElem P T = some ts.len) && (decide ((elemId P T).bind (sizeB P) = some b) && (oavsB ((elemId P T).bind (zeroCells P)) (ts.zc.map (CV.av [])) && (decide (cellTy P T = some (false, 1)) &&
      (oavsB (zeroCells P T) [.nsl] && (decide (arrElem P T = none) && (!(ts.beq byteTs) || byteSl P T))))))
  | .struct ts fs eq => decide (cellTy P T = some (true, ts.len)) && ((List.range fs.length).all (fun k => decide (fieldOf P T k = fs[k]?)) && (decide (places P T = some (fs.map fun f => (f.1, f.2.2))) && (oavsB (zeroCells P T) (ts.zc.map (CV.av [])) &&
      (decide (arrElem P T = none) && (!eq || eqOk P T ts)))))
  | .arr n ts => decide (arrElem P T = some (n, ts.len)) && (decide (cellTy P T = some (true, n * ts.len)) && (decide (n ≤ lim) && (match zeroCells P T with
      | some z => decide (n * ts.len = z.length) && avssB (chunk ts.len n z) (List.replicate n (ts.zc.map (CV.av [])))
      | none => false)))
theorem TD.ok_of {P : Program} {T : TypeId} {d : TD} (h : d.okB P T = true) : d.ok P T := by
  cases d with
  | nl c =>
    simp only [TD.okB, Bool.and_eq_true, decide_eq_true_eq] at h
    exact ⟨h.1, h.2.1, nlZ_eq h.2.2.1, h.2.2.2⟩
  | int k =>
    simp only [TD.okB, Bool.and_eq_true, decide_eq_true_eq] at h
    exact ⟨h.1, h.2.1, oavsB_eq h.2.2.1, h.2.2.2⟩
  | bool =>
    simp only [TD.okB, Bool.and_eq_true, decide_eq_true_eq] at h
    exact ⟨h.1, h.2.1, oavsB_eq h.2.2.1, h.2.2.2⟩
  | str =>
    simp only [TD.okB, Bool.and_eq_true, decide_eq_true_eq] at h
    exact ⟨h.1, h.2.1, oavsB_eq h.2.2.1, h.2.2.2⟩
  | slice ts b =>
    simp only [TD.okB, Bool.and_eq_true, decide_eq_true_eq, Bool.or_eq_true, Bool.not_eq_true'] at h
    refine ⟨h.1, h.2.1, oavsB_eq h.2.2.1, h.2.2.2.1, oavsB_eq h.2.2.2.2.1, h.2.2.2.2.2.1, fun e => ?_⟩
    rcases h.2.2.2.2.2.2 with k | k
    · rw [k] at e; cases e
    · exact k
  | struct ts fs eq =>
    simp only [TD.okB, Bool.and_eq_true, decide_eq_true_eq, Bool.or_eq_true, Bool.not_eq_true', List.all_eq_true, List.mem_range] at h
    refine ⟨h.1, fun k r hk => ?_, h.2.2.1, oavsB_eq h.2.2.2.1, h.2.2.2.2.1, fun e => ?_⟩
    · rw [h.2.1 k (List.getElem?_eq_some_iff.1 hk).1, hk]
    · rcases h.2.2.2.2.2 with k | k
      · rw [k] at e; cases e
      · exact k
  | arr n ts =>
    simp only [TD.okB, Bool.and_eq_true, decide_eq_true_eq] at h
    obtain ⟨h1, h2, h3, h4⟩ := h
    split at h4
    · rename_i z hz
      simp only [Bool.and_eq_true, decide_eq_true_eq] at h4
      exact ⟨h1, h2, h3, z, hz, h4.1, avssB_eq h4.2⟩
    · cases h4

def goodB (P : Program) (G : List (Nat × TD)) : Bool := G.all fun x => x.2.okB P x.1
theorem lkT_mem : ∀ {G : List (Nat × TD)} {T : Nat} {d : TD}, lkT G T = some d → (T, d) ∈ G := by
  intro G T d h
  induction G with
  | nil => simp [lkT] at h
  | cons a G ih =>
    obtain ⟨n, e⟩ := a
    unfold lkT at h
    split at h
    · simp_all
    · exact List.mem_cons_of_mem _ (ih h)
theorem good_of {P : Program} {G : List (Nat × TD)} (h : goodB P G = true) : Good P G := by
  intro T d hd
  exact TD.ok_of ((List.all_eq_true.1 h) _ (lkT_mem hd))
end Go.Abs

