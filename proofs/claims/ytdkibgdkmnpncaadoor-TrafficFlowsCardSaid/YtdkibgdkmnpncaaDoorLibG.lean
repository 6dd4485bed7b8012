/- The walks' library, part G: what a region of the program does in an abstract state, and its soundness. -/
import Derived.ProofKit
import Derived.Carry
import Derived.OpenVars
import Derived.Test.YtdkibgdkmnpncaaDoorLibF
namespace Go.Abs
open Go.RowKit
theorem l5 {a b : List Nat} (h : BX a b = true) {x : Nat} (hx : x ∈ a) : x ∉ b := by
 unfold BX at h
 rw [List.all_eq_true] at h
 have := h x hx
 simp only [Bool.not_eq_true'] at this
 intro hm
 have h2 : b.contains x = true := by simpa using hm
 rw [this] at h2; cases h2
theorem qU {N : Nat} {s : SS} : ∀ {l : List (Nat × cp)} {i : Nat} {c : CT} {k : Nat}, (i, .d c) ∈ l → s.get N i = .v (.c (.own k)) → k ∈ fF N s l
 | [], i, c, k, h, _ => by simp at h
 | (j, p) :: l, i, c, k, h, hg => by
  rcases List.mem_cons.1 h with e | h
  ·cases e
   simp only [fF, hg]; exact List.mem_cons_self ..
  ·have := qU h hg
   cases p with
   | d c' => simp only [fF]; split <;> simp [this]
   | _ => simp only [fF]; exact this
theorem uM : ∀ {l : List CV} {k : Nat}, CV.own k ∈ l → k ∈ xJ l
 | [], _, h => by simp at h
 | x :: l, k, h => by
  rcases List.mem_cons.1 h with e | h
  ·subst e; exact List.mem_cons_self ..
  ·have := uM h
   cases x with
   | own m => exact List.mem_cons_of_mem _ this
   | _ => exact this
theorem oN {N : Nat} {s : SS} : ∀ {l : List (Nat × cp)} {i : Nat} {c : CT} {xs : List CV} {k : Nat}, (i, .d c) ∈ l → s.get N i = .v (.g xs) → CV.own k ∈ xs → k ∈ fF N s l
 | [], i, c, xs, k, h, _, _ => by simp at h
 | (j, p) :: l, i, c, xs, k, h, hg, hx => by
  rcases List.mem_cons.1 h with e | h
  ·cases e
   simp only [fF, hg]; exact List.mem_append.2 (.inl (uM hx))
  ·have := oN h hg hx
   cases p with
   | d c' => simp only [fF]; split <;> simp [this]
   | _ => simp only [fF]; exact this
theorem qV {μ : eZ} {O : ah} : ∀ {l : List (Nat × eO)} {n k : Nat} {cs : List PC} {xs : List CV} {m : Nat}, (n, .box cs) ∈ l → jt μ n = some (some k) → ad k O = some (.box xs) → m ∈ fq cs xs → m ∈ iI μ O l
 | [], n, k, cs, xs, m, h, _, _, _ => by simp at h
 | (j, p) :: l, n, k, cs, xs, m, h, h1, h2, h3 => by
  rcases List.mem_cons.1 h with e | h
  ·cases e
   simp only [iI, h1, h2, List.mem_append]; exact .inl h3
  ·have := qV h h1 h2 h3
   cases p with
   | arr ts => exact this
   | mp _ _ => exact this
   | box cs' =>
    simp only [iI]
    split
    ·split
     ·exact List.mem_append.2 (.inr this)
     ·exact this
    ·exact this
def kD (μ : eZ) (O' : ah) (D : Names) : Names := fun n =>
 if n < top then (match ad n O' with
  | some _ => (match jt μ n with | some (some k) => D k | some none => some none | none => none)
  | none => none)
 else D n
section
variable {N : Nat} {pins : List Nat} {p : Plan} {s : SS} {z : p.T} {w0 w : World} {M0 : Nat → Prop} {D : Names} {μ : eZ}
theorem uG {O' : ah} {b : Nat} (h : (kD μ O' D).M b) : ∃ n, D n = some (some b) ∧ (n ∈ kJ μ ∨ top ≤ n) := by
 obtain ⟨n, hn⟩ := h
 unfold kD at hn
 split at hn
 ·split at hn
  ·split at hn
   ·rename_i k hk; exact ⟨k, hn, .inl (oZ hk)⟩
   ·simp at hn
   ·cases hn
  ·cases hn
 ·exact ⟨n, hn, .inr (by omega)⟩
theorem lF {O' : ah} {n : Nat} (hn : n < top) {so : SO} (h : ad n O' = some so) : kD μ O' D n = (match jt μ n with | some (some k) => D k | some none => some none | none => none) := by
 simp only [kD, hn, if_true, h]
theorem tL (hm : Mem w0 M0 (ai s.objs s.objs) D w) {O' : ah} {t : Ty} {x : CV} {a : t.T} (h : toT s.objs t x = some a) (hf : ∀ k, x = .own k → k ∉ kJ μ) {v : Value} (hv : Cell w D (x.av s.objs) v) :
  Cell w (kD μ O' D) (t.av a) v := by
 have low : ∀ b, b < w.heap.size → (kD μ O' D).M b → D.M b := fun b _ hb => by obtain ⟨n, h1, _⟩ := uG hb; exact ⟨n, h1⟩
 rcases toT_cases h with ⟨n, rfl⟩ | ⟨hn, hnf, _⟩
 ·obtain ⟨ts, l, hl, e⟩ := toT_own h
  rw [e]
  have hlk : look n (ai s.objs s.objs) = some (.arr ts.len (l.map ts.cF)) := by rw [bk, hl]; rfl
  have hav : (CV.own n).av s.objs = .cw n ts.len 0 l.length := by simp [CV.av, hl]
  rw [hav] at hv
  have hview : eM (ai s.objs s.objs) ts.len (.cw n ts.len 0 l.length) = some (l.map ts.cF) := by
   have e2 : List.take l.length (List.map ts.cF l) = List.map ts.cF l := List.take_of_length_le (by simp)
   simp [eM, hlk, e2]
  have hrep := fM hm hview hv.slot
  refine np (D := D) hrep (fun b o k cap hv2 hne hM => ?_) low
  obtain ⟨m, h1, h2⟩ := uG hM
  have hDn : D n = some (some b) := by
   rcases hv with ⟨_, h3, h4⟩ | ⟨b', cap', N', h3, h4, _⟩
   ·have : l = [] := List.length_eq_zero_iff.1 h3
    subst this
    exact absurd rfl hne
   ·rw [h4] at hv2
    have : b' = b := by injection hv2 with e1 e2 e3; injection e1 with e1; injection e1
    rw [← this]; exact h3
  have hnm := hm.inj m n b h1 hDn
  subst hnm
  rcases h2 with h2 | h2
  ·exact hf m rfl h2
  ·have := hm.small m (by rw [hlk]; rfl)
   omega
 ·have hle := toT_le h hn
  have hv' : cU w D.M (x.av s.objs) v := by
   cases hx : x.av s.objs with
   | cw => rw [hx] at hnf; simp [nK] at hnf
   | ref => rw [hx] at hnf; simp [nK] at hnf
   | cm => rw [hx] at hnf; simp [nK] at hnf
   | _ => rw [hx] at hv; exact hv
  have := (Ey hle hv').mono (cB.refl w _).toKeep low
  exact this.cell
theorem K0 {O' : ah} : ∀ b, b < w.heap.size → (kD μ O' D).M b → D.M b := fun b _ hb => by obtain ⟨n, h1, _⟩ := uG hb; exact ⟨n, h1⟩
theorem toTs_len {O : ah} : ∀ {ts : cf} {cs : List CV} {x : ts.T}, toTs O ts cs = some x → cs.length = ts.len
 | .nil, [], _, _ => rfl
 | .nil, _ :: _, _, h => by simp [toTs] at h
 | .cons _ _, [], _, h => by simp [toTs] at h
 | .cons t ts, y :: ys, x, h => by
  simp only [toTs] at h
  split at h
  ·rename_i h2; rw [List.length_cons, toTs_len h2]; rfl
  ·cases h
theorem tM (hm : Mem w0 M0 (ai s.objs s.objs) D w) {O' : ah} : ∀ {ts : cf} {cs : List CV} {x : ts.T}, toTs s.objs ts cs = some x → (∀ k, CV.own k ∈ cs → k ∉ kJ μ) → ∀ (vs : List Value), vs.length = cs.length →
  (∀ (i : Nat) (y : AV), (cs.map (CV.av s.objs))[i]? = some y → Cell w D y (vs.getD i undef) ∧ (vs.getD i undef).oneCell' = true) →
  (∀ (i : Nat) (y : AV), (ts.cF x)[i]? = some y → Cell w (kD μ O' D) y (vs.getD i undef) ∧ (vs.getD i undef).oneCell' = true)
 | .nil, [], _, _, _ => fun _ _ _ i y hy => by simp [cf.cF] at hy
 | .nil, _ :: _, _, h, _ => by simp [toTs] at h
 | .cons _ _, [], _, h, _ => by simp [toTs] at h
 | .cons t ts, c :: cs, x, h, hf => by
  simp only [toTs] at h
  split at h
  case h_2 => cases h
  rename_i a b h1 h2
  cases h
  intro vs hl hc i y hy
  match vs, hl with
  | v :: vs, hl =>
   cases i with
   | zero =>
    simp only [cf.cF, List.getElem?_cons_zero, Option.some.injEq] at hy
    subst hy
    obtain ⟨g1, g2⟩ := hc 0 _ rfl
    exact ⟨tL hm h1 (fun k hk => hf k (by rw [hk]; exact List.mem_cons_self ..)) g1, g2⟩
   | succ i =>
    have := tM (O' := O') hm h2 (fun k hk => hf k (List.mem_cons_of_mem _ hk)) vs (by simpa using hl) (fun i y hi => by simpa using hc (i + 1) y (by simpa using hi)) i y (by simpa [cf.cF] using hy)
    simpa using this
theorem H6 {O : ah} {t : Ty} {cs : List PC} {x : CV} {xs : List CV} {y : (ij (.d t :: cs)).T} (h : ny O (.d t :: cs) (x :: xs) = some y) : ∃ a b, toT O t x = some a ∧ ny O cs xs = some b ∧ y = (a, b) := by
 have h : (match toT O t x, ny O cs xs with
  | some a, some b => some (a, b)
  | _, _ => none : Option (t.T × (ij cs).T)) = some y := h
 split at h
 ·rename_i a b h1 h2
  exact ⟨a, b, h1, h2, (Option.some.inj h).symm⟩
 ·cases h
theorem ku {O : ah} : ∀ {cs : List PC} {xs : List CV} {y : (ij cs).T}, ny O cs xs = some y → xs.length = (iH cs y).length
 | [], [], y, _ => rfl
 | [], _ :: _, y, h => by cases (show (none : Option (ij []).T) = some y from h)
 | .d t :: cs, [], y, h => by cases (show (none : Option (ij (.d t :: cs)).T) = some y from h)
 | .own m :: cs, [], y, h => by cases (show (none : Option (ij (.own m :: cs)).T) = some y from h)
 | .cW m :: cs, [], y, h => by cases (show (none : Option (ij (.cW m :: cs)).T) = some y from h)
 | .ref m n :: cs, [], y, h => by cases (show (none : Option (ij (.ref m n :: cs)).T) = some y from h)
 | .cm m n :: cs, [], y, h => by cases (show (none : Option (ij (.cm m n :: cs)).T) = some y from h)
 | .d t :: cs, x :: xs, y, h => by
  obtain ⟨a, b, h1, h2, rfl⟩ := H6 h
  exact congrArg (· + 1) (ku h2)
 | .own m :: cs, x :: xs, y, h => by
  exact congrArg (· + 1) (ku (y := y) (cs := cs) h)
 | .cW m :: cs, x :: xs, y, h => by
  exact congrArg (· + 1) (ku (y := y) (cs := cs) h)
 | .ref m n :: cs, x :: xs, y, h => by
  exact congrArg (· + 1) (ku (y := y) (cs := cs) h)
 | .cm m n :: cs, x :: xs, y, h => by
  exact congrArg (· + 1) (ku (y := y) (cs := cs) h)
theorem zP (_hm : Mem w0 M0 (ai s.objs s.objs) D w) {O' : ah} (hO : ∀ n so, ad n O' = some so → n < top ∧ ∃ l, lW μ s.objs n l so) {m : Nat} {v : Value}
  (h : (∃ k, jt μ m = some (some k) ∧ Cell w D ((CV.own k).av s.objs) v) ∨ (jt μ m = some none ∧ v = .slice none 0 0)) :
  Cell w (kD μ O' D) ((CV.own m).av O') v := by
 simp only [CV.av]
 split
 ·rename_i ts x hx
  obtain ⟨hmt, l, hob⟩ := hO m _ hx
  have hN := lF (μ := μ) (D := D) hmt hx
  rcases hob with ⟨k, hk, hlk⟩ | ⟨hk, rfl⟩
  ·rcases h with ⟨k', hk', hv⟩ | ⟨hk', _⟩
   ·rw [hk] at hk'; cases hk'
    simp only [CV.av, hlk] at hv
    rcases hv with ⟨h1, h2⟩ | ⟨b, cap, N', h1, h2⟩
    ·exact .inl ⟨by rw [hN, hk]; exact h1, h2⟩
    ·exact .inr ⟨b, cap, N', by rw [hN, hk]; exact h1, h2⟩
   ·rw [hk] at hk'; cases hk'
  ·rcases h with ⟨k', hk', _⟩ | ⟨_, hv⟩
   ·rw [hk] at hk'; cases hk'
   ·exact .inl ⟨by rw [hN, hk]; rfl, rfl, none, hv⟩
 ·exact iJ _ _ _
theorem zT {O' : ah} (hO : ∀ n so, ad n O' = some so → n < top ∧ ∃ l, lW μ s.objs n l so) {m k sz : Nat} {v : Value} (hk : jt μ m = some (some k)) (hob : ∃ so, ad m O' = some so)
  (h : Cell w D ((CV.ref k sz 0 0).av s.objs) v) : Cell w (kD μ O' D) ((CV.ref m sz 0 0).av O') v := by
 obtain ⟨so, hso⟩ := hob
 obtain ⟨b, h3, h4⟩ := h
 refine ⟨b, ?_, h4⟩
 rw [lF (hO m so hso).1 hso, hk]
 exact h3
theorem v9 {O' : ah} (hO : ∀ n so, ad n O' = some so → n < top ∧ ∃ l, lW μ s.objs n l so) : ∀ {ns ms : List (Nat × Nat)}, nE μ ns ms → (∀ n ∈ ns.map (·.1), ∃ so, ad n O' = some so) →
  ns.length = ms.length ∧ ∀ (i n : Nat) (d : Option (Option Nat)), (ns.map (·.1))[i]? = some n → (∀ m, (ms.map (·.1))[i]? = some m → D m = d) → kD μ O' D n = d
 | [], [], _, _ => ⟨rfl, fun i n d h => by simp at h⟩
 | (n, sz) :: ns, (k, sz') :: ms, ⟨h1, h2, h3⟩, hob => by
  obtain ⟨g1, g2⟩ := v9 hO h3 (fun n hn => hob n (by simp only [List.map_cons, List.mem_cons]; exact .inr hn))
  refine ⟨by simp [g1], fun i m d hi hd => ?_⟩
  cases i with
  | zero =>
   simp only [List.map_cons, List.getElem?_cons_zero, Option.some.injEq] at hi hd
   subst hi
   obtain ⟨so, hso⟩ := hob n (by simp)
   rw [lF (hO n so hso).1 hso, h2]
   exact hd k rfl
  | succ i =>
   simp only [List.map_cons, List.getElem?_cons_succ] at hi hd
   exact g2 i m d hi hd
 | [], _ :: _, h, _ => h.elim
 | (_, _) :: _, [], h, _ => h.elim
theorem BM {O' : ah} (hO : ∀ n so, ad n O' = some so → n < top ∧ ∃ l, lW μ s.objs n l so) {f : Option FuncId × TypeId} {ns ms : List (Nat × Nat)} {v : Value} (hk : nE μ ns ms) (hob : ∀ n ∈ ns.map (·.1), ∃ so, ad n O' = some so)
  (h : Cell w D ((CV.cm f ms).av s.objs) v) : Cell w (kD μ O' D) ((CV.cm f ns).av O') v := by
 obtain ⟨g1, g2⟩ := v9 (D := D) hO hk hob
 obtain ⟨bs, h1, h2, h3⟩ := h
 refine ⟨bs, by rw [h1]; simp [g1], fun i n b hn hb => ?_, h3⟩
 refine g2 i n _ hn fun m hm => ?_
 exact h2 i m b hm hb
theorem iS (hm : Mem w0 M0 (ai s.objs s.objs) D w) {O' : ah} (hO : ∀ n so, ad n O' = some so → n < top ∧ ∃ l, lW μ s.objs n l so)
  (hob : ∀ n, fA n p.objs = true → ∃ so, ad n O' = some so) :
  ∀ {cs : List PC} {xs : List CV} {y : (ij cs).T} {vs : List Value}, ia p.objs cs = true → ny s.objs cs xs = some y → dj μ cs xs → (∀ m ∈ fq cs xs, m ∉ kJ μ) → vs.length = xs.length →
  (∀ (i : Nat) (a : AV), (xs.map (CV.av s.objs))[i]? = some a → Cell w D a (vs.getD i undef) ∧ (vs.getD i undef).oneCell' = true) →
  (∀ (i : Nat) (a : AV), ((iH cs y).map (CV.av O'))[i]? = some a → Cell w (kD μ O' D) a (vs.getD i undef) ∧ (vs.getD i undef).oneCell' = true)
 | [], [], y, vs, _, _, _, _, _, _ => by intro i a h; cases (show (none : Option AV) = some a by rw [← h]; rfl)
 | .d t :: cs, x :: xs, y, [], _, _, _, _, hl, _ => by simp at hl
 | .d t :: cs, x :: xs, y, v :: vs, hk0, h, hc, hf, hl, hv => by
  obtain ⟨a, b, h1, h2, rfl⟩ := H6 h
  ·cases hc with
   | d hc =>
    have hf' : ∀ m ∈ fq cs xs, m ∉ kJ μ := fun m hmem => hf m (by cases x <;> simp only [fq, List.mem_cons, hmem, or_true])
    intro i c hi
    cases i with
    | zero =>
     simp only [iH, List.map_cons, List.getElem?_cons_zero, Option.some.injEq] at hi; subst hi
     obtain ⟨g1, g2⟩ := hv 0 (x.av s.objs) (by rw [List.map_cons, List.getElem?_cons_zero])
     refine ⟨?_, g2⟩
     have := tL (μ := μ) (O' := O') hm h1 (fun k e => by subst e; exact hf k (by simp [fq])) g1
     show Cell w _ (t.kv a).av _
     rw [ur]; exact this
    | succ i =>
     simp only [iH, List.map_cons, List.getElem?_cons_succ] at hi
     have := iS hm hO hob (cs := cs) (vs := vs) hk0 h2 hc hf' (by simpa using hl) (fun i a ha => by simpa using hv (i + 1) a (by simpa using ha)) i c hi
     simpa using this
 | .own m :: cs, x :: xs, y, [], _, _, _, _, hl, _ => by simp at hl
 | .own m :: cs, x :: xs, y, v :: vs, hk0, h, hc, hf, hl, hv => by
  have h : ny s.objs cs xs = some y := h
  have hx : ((∃ k, jt μ m = some (some k) ∧ Cell w D ((CV.own k).av s.objs) v) ∨ (jt μ m = some none ∧ v = .slice none 0 0)) ∧ dj μ cs xs ∧ ∀ m ∈ fq cs xs, m ∉ kJ μ := by
   cases hc with
   | own hk hc => exact ⟨.inl ⟨_, hk, by simpa using (hv 0 _ (by rw [List.map_cons, List.getElem?_cons_zero])).1⟩, hc, fun m hmem => hf m (by simp [fq, hmem])⟩
   | gE hk hc =>
    refine ⟨.inr ⟨hk, ?_⟩, hc, fun m hmem => hf m (by simp [fq, hmem])⟩
    have := (hv 0 .gE (by simp [CV.av])).1
    simp only [Cell, List.getD_cons_zero] at this
    cases this; rfl
  intro i c hi
  cases i with
  | zero =>
   simp only [iH, List.map_cons, List.getElem?_cons_zero, Option.some.injEq] at hi; subst hi
   exact ⟨zP hm hO hx.1, (hv 0 (x.av s.objs) (by simp)).2⟩
  | succ i =>
   simp only [iH, List.map_cons, List.getElem?_cons_succ] at hi
   have := iS hm hO hob (cs := cs) (xs := xs) (y := y) (vs := vs) hk0 h hx.2.1 hx.2.2 (by simpa using hl) (fun i a ha => by simpa using hv (i + 1) a (by simpa using ha)) i c hi
   simpa using this
 | .cW m :: cs, x :: xs, y, [], _, _, _, _, hl, _ => by simp at hl
 | .cW m :: cs, x :: xs, y, v :: vs, hk0, h, hc, hf, hl, hv => by
  have h : ny s.objs cs xs = some y := h
  cases hc with
  | cW hc =>
   intro i c hi
   cases i with
   | zero =>
    simp only [iH, List.map_cons, List.getElem?_cons_zero, Option.some.injEq] at hi; subst hi
    obtain ⟨g1, g2⟩ := hv 0 ((CV.cW m).av s.objs) (by simp)
    refine ⟨?_, g2⟩
    simp only [CV.av, Cell, List.getD_cons_zero] at g1 ⊢
    cases g1; exact .cW _
   | succ i =>
    simp only [iH, List.map_cons, List.getElem?_cons_succ] at hi
    have := iS hm hO hob (cs := cs) (xs := xs) (y := y) (vs := vs) hk0 h hc (fun m hmem => hf m (by simp [fq, hmem])) (by simpa using hl) (fun i a ha => by simpa using hv (i + 1) a (by simpa using ha)) i c hi
    simpa using this
 | .ref m n :: cs, x :: xs, y, [], _, _, _, _, hl, _ => by simp at hl
 | .ref m n :: cs, x :: xs, y, v :: vs, hk0, h, hc, hf, hl, hv => by
  have h : ny s.objs cs xs = some y := h
  have hk1 : fA m p.objs = true ∧ ia p.objs cs = true := by simpa [ia] using hk0
  cases hc with
  | ref hk hc =>
   intro i c hi
   cases i with
   | zero =>
    simp only [iH, List.map_cons, List.getElem?_cons_zero, Option.some.injEq] at hi; subst hi
    obtain ⟨g1, g2⟩ := hv 0 _ (by rw [List.map_cons, List.getElem?_cons_zero])
    exact ⟨zT (s := s) hO hk (hob m hk1.1) g1, g2⟩
   | succ i =>
    simp only [iH, List.map_cons, List.getElem?_cons_succ] at hi
    have := iS hm hO hob (cs := cs) (xs := xs) (y := y) (vs := vs) hk1.2 h hc (fun m hmem => hf m (by simp [fq, hmem])) (by simpa using hl) (fun i a ha => by simpa using hv (i + 1) a (by simpa using ha)) i c hi
    simpa using this
 | .cm f ns :: cs, x :: xs, y, [], _, _, _, _, hl, _ => by simp at hl
 | .cm f ns :: cs, x :: xs, y, v :: vs, hk0, h, hc, hf, hl, hv => by
  have h : ny s.objs cs xs = some y := h
  have hk1 : (∀ n ∈ ns.map (·.1), fA n p.objs = true) ∧ ia p.objs cs = true := by
   have hk0 : ((ns.all fun q => fA q.1 p.objs) && ia p.objs cs) = true := hk0
   rw [Bool.and_eq_true, List.all_eq_true] at hk0
   refine ⟨fun n hn => ?_, hk0.2⟩
   obtain ⟨q, hq, rfl⟩ := List.mem_map.1 hn
   exact hk0.1 q hq
  cases hc with
  | cm hk hc =>
   intro i c hi
   cases i with
   | zero =>
    simp only [iH, List.map_cons, List.getElem?_cons_zero, Option.some.injEq] at hi; subst hi
    obtain ⟨g1, g2⟩ := hv 0 _ (by rw [List.map_cons, List.getElem?_cons_zero])
    exact ⟨BM (s := s) hO hk (fun n hn => hob n (hk1.1 n hn)) g1, g2⟩
   | succ i =>
    simp only [iH, List.map_cons, List.getElem?_cons_succ] at hi
    have := iS hm hO hob (cs := cs) (xs := xs) (y := y) (vs := vs) hk1.2 h hc (fun m hmem => hf m (by simp [fq, hmem])) (by simpa using hl) (fun i a ha => by simpa using hv (i + 1) a (by simpa using ha)) i c hi
    simpa using this
 | [], _ :: _, y, vs, _, h, _, _, _, _ => by cases (show (none : Option (ij []).T) = some y from h)
 | .d t :: cs, [], y, vs, _, h, _, _, _, _ => by cases (show (none : Option (ij (.d t :: cs)).T) = some y from h)
 | .own m :: cs, [], y, vs, _, h, _, _, _, _ => by cases (show (none : Option (ij (.own m :: cs)).T) = some y from h)
 | .cW m :: cs, [], y, vs, _, h, _, _, _, _ => by cases (show (none : Option (ij (.cW m :: cs)).T) = some y from h)
 | .ref m n :: cs, [], y, vs, _, h, _, _, _, _ => by cases (show (none : Option (ij (.ref m n :: cs)).T) = some y from h)
 | .cm f ns :: cs, [], y, vs, _, h, _, _, _, _ => by cases (show (none : Option (ij (.cm f ns :: cs)).T) = some y from h)
end
theorem fZ {N : Nat} {pins : List Nat} {p : Plan} {s : SS} {z : p.T} (h : p.dec N pins s = some z) : lY pins (s.st N) ((p.enc z).st N) := by
 unfold Plan.dec at h
 split at h
 ·cases h
 rename_i μ1 h1
 split at h
 ·cases h
 rename_i μ h2
 split at h
 case isFalse => cases h
 rename_i hcond
 obtain ⟨hok, hnd, hap⟩ := hcond
 obtain ⟨hE1, hE2⟩ := gV h
 have hO0 := kx hE1
 obtain ⟨m1, m2⟩ := nJ h1
 obtain ⟨m4, m5⟩ := iL h2
 unfold Plan.YI at hok
 simp only [Bool.and_eq_true] at hok
 obtain ⟨ok1, ok2, ok6, ok3⟩ := hok
 have ok4 := pZ ok2
 have ok7 := jE ok6
 have hnd := my hnd
 rintro w0 M0 D0 a w hp ⟨hdf, D, hm, he, hpin⟩
 have hm : Mem w0 M0 (ai s.objs s.objs) D w := hm
 generalize hO' : fT p.objs (kL p.slots z) = O' at *
 have hO : ∀ n so, ad n O' = some so → n < top ∧ ∃ l, lW μ s.objs n l so := fun n so hl => by
  rw [← hO'] at hl
  exact ⟨CG ok1 n so hl, _, hO0 n so (by rw [← hO']; exact qx hl)⟩
 have hO2 : ∀ n so, ad n O' = some so → lW μ s.objs n p.objs so := fun n so hl => hO0 n so (qx hl)
 have hob : ∀ n, fA n p.objs = true → ∃ so, ad n O' = some so := fun n hn => by
  have := qY (kL p.slots z) hn
  rw [hO'] at this
  exact Option.isSome_iff_exists.1 this
 have htop : ∀ k, (ad k s.objs).isSome = true → k < top := fun k hk => hm.small k (by rw [bk]; revert hk; cases ad k s.objs <;> simp)
 have hDk : ∀ k, (ad k s.objs).isSome = true → (D k).isSome = true := fun k hk => by
  rw [hm.lQ k (htop k hk), bk]; revert hk; cases ad k s.objs <;> simp
 have hkO : ∀ n so k, ad n O' = some so → jt μ n = some (some k) → (ad k s.objs).isSome = true := by
  intro n so k hl hk
  have := hO2 n so hl
  cases so with
  | arr ts x =>
   rcases this with ⟨k', hk', hl'⟩ | ⟨hk', _⟩
   ·rw [hk] at hk'; cases hk'; rw [hl']; rfl
   ·rw [hk] at hk'; cases hk'
  | mp kk v x =>
   obtain ⟨k', hk', hl'⟩ := this
   rw [hk] at hk'; cases hk'; rw [hl']; rfl
  | box ys =>
   obtain ⟨cs, xs, k', y, _, hk', hl', _⟩ := this
   rw [hk] at hk'; cases hk'; rw [hl']; rfl
 have hst : ((p.enc z).st N).objs = ai O' O' := by
  show ai (p.enc z).objs (p.enc z).objs = _
  simp only [Plan.enc, hO']
 refine ⟨hdf, kD μ O' D, ?_, ?_, ?_⟩
 ·rw [hst]
  refine ⟨fun n hn => ?_, fun n hn => ?_, fun n o' d ho' hD => ?_, fun n m b e1 e2 => ?_, fun b hb => ?_, fun b hb => ?_, hm.grow, hm.os, hm.tape, hm.output, hm.bq.mono (cB.refl w _).toKeep fun b _ hb => by obtain ⟨n, h1, _⟩ := uG hb; exact ⟨n, h1⟩⟩
  ·rw [bk]
   cases hl : ad n O' with
   | none => simp [kD, hn, hl]
   | some so =>
    rw [lF hn hl]
    have := hO2 n so hl
    cases so with
    | arr ts x =>
     rcases this with ⟨k, hk, hl'⟩ | ⟨hk, _⟩
     ·simp only [hk]; rw [hDk k (by rw [hl']; rfl)]; rfl
     ·simp only [hk]; rfl
    | mp kk v x =>
     obtain ⟨k, hk, hl'⟩ := this
     simp only [hk]; rw [hDk k (by rw [hl']; rfl)]; rfl
    | box ys =>
     obtain ⟨cs, xs, k, y, _, hk, hl', _⟩ := this
     simp only [hk]; rw [hDk k (by rw [hl']; rfl)]; rfl
  ·rw [bk] at hn
   cases hl : ad n O' with
   | none => rw [hl] at hn; simp at hn
   | some so => exact (hO n so hl).1
  ·rw [bk] at ho'
   cases hl : ad n O' with
   | none => rw [hl] at ho'; simp at ho'
   | some so =>
    rw [hl] at ho'
    simp only [Option.map_some, Option.some.injEq] at ho'; subst ho'
    have hnt := (hO n so hl).1
    rw [lF hnt hl] at hD
    have := hO2 n so hl
    cases so with
    | arr ts x =>
     rcases this with ⟨k, hk, hl'⟩ | ⟨hk, rfl⟩
     ·simp only [hk] at hD
      have hr := hm.rep k (.arr ts.len (x.map ts.cF)) d (by rw [bk, hl']; rfl) hD
      exact oC hr K0
     ·simp only [hk, Option.some.injEq] at hD; subst hD
      rfl
    | mp kk v x =>
     obtain ⟨k, hk, hl'⟩ := this
     simp only [hk] at hD
     have hr := hm.rep k (.mp kk v x) d (by rw [bk, hl']; rfl) hD
     cases d with
     | none => exact hr.elim
     | some b => exact hr
    | box ys =>
     obtain ⟨cs, xs, k, y, rfl, hk, hl', hdec, hmem⟩ := this
     simp only [hk] at hD
     have hr := hm.rep k (.box (xs.map (CV.av s.objs))) d (by rw [bk, hl']; rfl) hD
     obtain ⟨k2, xs2, hk2, hl2, hcells⟩ := m5 n cs hmem
     rw [hk] at hk2; cases hk2
     rw [hl'] at hl2; cases hl2
     cases d with
     | none => exact hr.elim
     | some b =>
      obtain ⟨vs, T, g1, g2, g3⟩ := hr
      have hlen : vs.length = xs.length := by rw [g2, List.length_map]
      refine ⟨vs, T, g1, by rw [hlen, List.length_map]; exact ku hdec, ?_⟩
      exact iS hm hO hob (ok7 n cs hmem) hdec hcells (fun m hmf => l5 hap (List.mem_append.2 (.inr (qV hmem hk hl' hmf)))) hlen g3
  ·
   have key : ∀ n, kD μ O' D n = some (some b) → (n < top ∧ ∃ k, jt μ n = some (some k) ∧ D k = some (some b) ∧ k < top) ∨ (top ≤ n ∧ D n = some (some b)) := by
    intro n hn
    rcases Nat.lt_or_ge n top with hlt | hge
    ·refine .inl ⟨hlt, ?_⟩
     simp only [kD, hlt, if_true] at hn
     split at hn
     ·rename_i so hl
      split at hn
      ·rename_i k hk; exact ⟨k, hk, hn, htop k (hkO n so k hl hk)⟩
      ·simp at hn
      ·cases hn
     ·cases hn
    ·refine .inr ⟨hge, ?_⟩
     simpa [kD, Nat.not_lt.2 hge] using hn
   rcases key n e1 with ⟨_, k1, q1, q2, q3⟩ | ⟨q1, q2⟩
   ·rcases key m e2 with ⟨_, k2, r1, r2, r3⟩ | ⟨r1, r2⟩
    ·have := hm.inj k1 k2 b q2 r2
     subst this
     exact zS hnd q1 r1
    ·have := hm.inj k1 m b q2 r2; omega
   ·rcases key m e2 with ⟨_, k2, r1, r2, r3⟩ | ⟨r1, r2⟩
    ·have := hm.inj n k2 b q2 r2; omega
    ·exact hm.inj n m b q2 r2
  ·obtain ⟨n, h1, _⟩ := uG hb; exact hm.lt b ⟨n, h1⟩
  ·obtain ⟨n, hn, h1⟩ := hb
   simp only [kD, hn, if_true] at h1
   split at h1
   ·rename_i so hl
    split at h1
    ·rename_i k hk; exact hm.own b ⟨k, htop k (hkO n so k hl hk), h1⟩
    ·simp at h1
    ·cases h1
   ·cases h1
 ·
  refine ⟨by rw [jq, he.1, jq], fun i y hy => ?_⟩
  simp only [SS.st, List.getElem?_map] at hy
  obtain ⟨j, hj, rfl⟩ := Option.map_eq_some_iff.1 hy
  have hji : j = i ∧ i < N := by
   by_cases hi : i < N
   ·rw [List.getElem?_range hi] at hj
    simp only [Option.some.injEq] at hj
    exact ⟨hj.symm, hi⟩
   ·rw [List.getElem?_eq_none (by simpa using hi)] at hj; cases hj
  obtain ⟨rfl, hi⟩ := hji
  have hold : Slot w D ((s.get N j).av s.objs) (a.tmps.getD j undef) := by
   refine he.2 j _ ?_
   simp only [SS.st, List.getElem?_map, List.getElem?_range hi, Option.map_some, SS.get, hi, if_true]
  show Slot w _ ((cr (ju p.slots z) j).av (fT p.objs (kL p.slots z))) _
  rw [hO']
  rcases EH (E := ju p.slots z) (n := j) with e | hmem
  ·rw [e]; exact jn _ _ _
  ·rcases hE2 j _ hmem with ⟨c, x, e1, e2, e3⟩ | ⟨q, e2, e1⟩ | ⟨m, sz, k, sz', off, len, e1, e2, e3⟩
   ·rw [e1, nU]
    have hfz : ∀ k, s.get N j = .v (.c (.own k)) → k ∉ kJ μ := fun k hk => l5 hap (List.mem_append.2 (.inl (qU e3 hk)))
    have hfg : ∀ xs k, s.get N j = .v (.g xs) → CV.own k ∈ xs → k ∉ kJ μ := fun xs k hk hx => l5 hap (List.mem_append.2 (.inl (oN e3 hk hx)))
    generalize s.get N j = g at *
    cases c with
    | ty t =>
     cases g with
     | cI l => simp [toCT] at e2
     | v y =>
      cases y with
      | g l => simp [toCT] at e2
      | c y =>
       have e2 : toT s.objs t y = some x := e2
       have hcell : Cell w D (y.av s.objs) (a.tmps.getD j undef) := by
        simp only [SV.av, VV.av] at hold
        cases hy : y.av s.objs with
        | agg l => exact absurd hy (dx.1 l)
        | cI l => exact absurd hy (dx.2 l)
        | _ => rw [hy] at hold; exact hold
       exact (tL hm e2 (fun k hk => hfz k (by rw [hk])) hcell).slot
    | ag ts =>
     cases g with
     | cI l => simp [toCT] at e2
     | v y =>
      cases y with
      | c y => simp [toCT] at e2
      | g l =>
       have e2 : toTs s.objs ts l = some x := e2
       obtain ⟨vs, g1, g2, g3⟩ := hold
       refine ⟨vs, g1, ?_, ?_⟩
       ·rw [g2, List.length_map, toTs_len e2, fX]
       ·exact tM hm e2 (fun k hk => hfg l k rfl hk) _ (by rw [g2, List.length_map]) g3
   ·have hsl := (m2 j q e2).mono m4
    have hnames := ok4 j q e2
    cases q with
    | d c => cases e1
    | own m =>
     simp only [Ic, Option.some.injEq] at e1
     rw [← e1]
     refine Cell.slot (zP hm hO ?_)
     rcases hsl with ⟨k, hk, hk2⟩ | ⟨hk, hk2⟩
     ·refine .inl ⟨k, hk2, ?_⟩
      rw [hk] at hold
      simp only [SV.av, VV.av] at hold
      cases hy : (CV.own k).av s.objs with
      | agg l => exact absurd hy (dx.1 l)
      | cI l => exact absurd hy (dx.2 l)
      | _ => rw [hy] at hold; exact hold
     ·refine .inr ⟨hk2, ?_⟩
      rw [hk] at hold
      exact kT hold
    | ref m sz =>
     simp only [Ic, Option.some.injEq] at e1
     rw [← e1]
     obtain ⟨k, hk, hk2⟩ := hsl
     rw [hk] at hold
     exact zT (s := s) (w := w) hO hk2 (hob m (hnames m (by simp [Lk]))) hold
    | cW c =>
     simp only [Ic, Option.some.injEq] at e1
     rw [← e1]
     have hk : s.get N j = .v (.c (.cW c)) := hsl
     rw [hk] at hold
     have hold : Slot w D (.cW c.val) (a.tmps.getD j undef) := hold
     simp only [Slot, cM, Cell] at hold
     generalize a.tmps.getD j undef = u at hold
     cases hold
     exact (cU.cW _).slot
    | cm f ns =>
     simp only [Ic, Option.some.injEq] at e1
     rw [← e1]
     obtain ⟨ms, hk, hk2⟩ := hsl
     rw [hk] at hold
     exact BM (s := s) (w := w) hO hk2 (fun n hn => hob n (hnames n hn)) hold
    | cw m sz => cases e1
   ·obtain ⟨k2, off2, len2, hk, hk2⟩ := (m2 j _ e1).mono m4
    rw [e2] at hk; cases hk
    rw [e2] at hold
    rw [e3]
    obtain ⟨so, hso⟩ := hob m (ok4 j _ e1 m (by simp [Lk]))
    have hN := lF (μ := μ) (D := D) (hO m so hso).1 hso
    rw [hk2] at hN
    rcases hold with ⟨h3, h4⟩ | ⟨b, cap, N', h3, h4⟩
    ·exact .inl ⟨by rw [hN]; exact h3, h4⟩
    ·exact .inr ⟨b, cap, N', by rw [hN]; exact h3, h4⟩
 ·intro n d hn
  obtain ⟨q1, q2⟩ := hpin n d hn
  rcases Nat.lt_or_ge n top with hlt | hge
  ·have hnp := hp n hlt (by rw [hn]; rfl)
   rw [List.all_eq_true] at ok3
   obtain ⟨cs, hcs⟩ := jB (kL p.slots z) (ok3 n hnp)
   rw [hO'] at hcs
   refine ⟨?_, fun _ => ?_⟩
   ·rw [lF hlt hcs, m4 _ _ (m1 _ _ (rm hnp))]
    exact q1
   ·rw [hst, bk, hcs]
    exact ⟨_, rfl⟩
  ·refine ⟨?_, fun h => by omega⟩
   simp only [kD, Nat.not_lt.2 hge, if_false]; exact q1
end Go.Abs
namespace Go.Abs
open Go.RowKit
variable {FT : List (Nat × Entry)}
def vV {R : Type} (N : Nat) (k : Exit → SS → Option R) (r : R) (e : Exit) (s : St) : Prop := ∃ f : SS, s = f.st N ∧ k e f = some r
theorem BW {P : Program} {C : eN} (hG : Good P C.G) {R : Type} {ops : Array Oper} {d : Tmp} {T : TypeId} {ty : TypeId} {pos : String} {aft : Array Edge} {s : SS} {K : SS → Option R} {r : R}
  (h : AB C FT false ops.toList [⟨some d, .alloc T, ty, pos, aft, none⟩] s K = some r) :
  ∃ f' : SS, K f' = some r ∧ (zeroCells P T).isSome = true ∧
   ∀ w0 M0 D0 a w, Sat w0 M0 D0 (s.st C.N) a w → wpList P ops (fun e a' w' => e = .normal ∧ Sat w0 M0 D0 (f'.st C.N) a' w') [⟨some d, .alloc T, ty, pos, aft, none⟩] a w := by
 simp only [AB, lS, BY, iP, sR, Bool.false_eq_true, if_false] at h
 split at h
 ·rename_i c x s' hr
  obtain ⟨hc, hK⟩ := fI h
  have hz : (zeroCells P T).isSome = true := by
   simp only [sH] at hr
   split at hr
   case isFalse => cases hr
   split at hr
   case h_2 => cases hr
   split at hr
   ·rename_i e; obtain ⟨_, _, _, z, g, _⟩ := hG T _ e; rw [g]; rfl
   ·rename_i e; obtain ⟨_, _, _, g, _⟩ := hG T _ e; rw [g]; rfl
   ·rename_i e; obtain ⟨_, _, g, _⟩ := hG T _ e; rw [g]; rfl
   ·rename_i e; obtain ⟨_, _, g, _⟩ := hG T _ e; rw [g]; rfl
   ·rename_i e; obtain ⟨_, _, g, _⟩ := hG T _ e; rw [g]; rfl
   ·rename_i e; obtain ⟨_, _, _, _, g, _⟩ := hG T _ e; rw [g]; rfl
   ·rename_i e; obtain ⟨_, _, g, _⟩ := hG T _ e; rw [g]; rfl
   ·cases hr
  obtain ⟨s1, r1, b1, b2, b3, b4, b5, b6⟩ := AF hG hr hc
  refine ⟨_, hK, hz, fun w0 M0 D0 a w hs => ?_⟩
  exact hZ (o := ⟨some d, .alloc T, ty, pos, aft, none⟩) jQ (NC (lj rfl) b3 b4 b5) (b1 _ _ _ _ _ hs) fun a' w' hs' => ⟨rfl, b6 _ _ _ _ _ hs'⟩
 ·cases h
theorem dq {P : Program} {C : eN} (hG : Good P C.G) (hM : oy P C.M) (hFT : gv P FT) (hm : P.follows .mixedOrders = true) {pins : List Nat} {R : Type} {J : JT R} (hJ : PV P pins J) (k : Nat) (tp : Bool) :
  ∀ (c : Code) (h : HT) {s : SS} {kt : Exit → SS → Option R} {r : R}, uK (mL k c) h = true → exec C FT pins J (mL k c) h s kt = some r → vY P k tp pins c (vV C.N kt r) (s.st C.N)
 | .skip, h, s, kt, r, _, he => Kl ⟨s, rfl, by simpa [exec, mL] using he⟩
 | .exit id, h, s, kt, r, _, he => Kj ⟨s, rfl, by simpa [exec, mL] using he⟩
 | .ret, h, s, kt, r, _, he => Nh ⟨s, rfl, by simpa [exec, mL] using he⟩
 | .region id ops draw, h, s, kt, r, hok, he => by
  simp only [mL] at hok he
  simp only [exec] at he
  simp only [uK] at hok
  split at he
  case h_2 => cases he
  rename_i m L hh
  rw [hh] at hok
  simp only [Bool.and_eq_true] at hok
  obtain ⟨hsel, hnd, hok⟩ := hok
  refine D6 hm hsel hnd (R := fun s' => vV C.N kt r .normal s') ?_ (fun _ h => h)
  generalize hops : kR k ops = sops at *
  have hsops : sops.toList.toArray = sops := Array.toArray_toList ..
  have tail : ∀ (l : List Oper) {s1 : SS}, mE J L C FT sops.toList l s1 (kt .normal) = some r → tE P pins sops (fun s' => vV C.N kt r .normal s') l (s1.st C.N) :=
   fun l s1 h w0 M0 D0 a w hp hs => xT hG hM hFT hJ hp l h hs fun s' a' w' h1 h2 => ⟨rfl, _, ⟨s', rfl, h1⟩, h2⟩
  split at he
  ·exact RX hnd (tail _ he)
  ·obtain ⟨s', h1, h2⟩ := AE hG hFT sops.toList he
   exact RV hok h1 ⟨s', rfl, h2⟩
  ·rename_i n
   obtain ⟨s', h1, h2⟩ := AE hG hFT _ he
   have := OE (pins := pins) (Q := fun s' => vV C.N kt r .normal s') (l := sops.toList) n (by rw [hsops]; exact hok) (by rw [hsops]; exact h1) (by rw [hsops]; exact tail _ h2)
   rwa [hsops] at this
  ·rename_i n
   obtain ⟨s', h1, h2⟩ := AE hG hFT _ he
   have hok : NY sops n = true := hok
   unfold NY at hok
   cases hdr : sops.toList.drop n with
   | nil => rw [hdr] at hok; cases hok
   | cons o tl =>
    rw [hdr] at hok h2
    simp only at hok h2
    obtain ⟨dst, op, ty, pos, aft, guard⟩ := o
    simp only at hok
    split at hok
    case h_2 => cases hok
    rename_i T d
    simp only [Bool.and_eq_true] at hok
    obtain ⟨f', g1, g2, g3⟩ := BW (P := P) hG h2
    have g1 : mE J L C FT sops.toList tl f' (kt .normal) = some r := g1
    have hlen : (sops.toList.take n).length = n := by
     rw [List.length_take]
     have : (sops.toList.drop n).length = tl.length + 1 := by rw [hdr]; rfl
     rw [List.length_drop] at this
     omega
    have hops1 : sops.toList.take n ++ ⟨some d, .alloc T, ty, pos, aft, none⟩ :: tl = sops.toList := by rw [← hdr, List.take_append_drop]
    have hops2 : (sops.toList.take n ++ ⟨some d, .alloc T, ty, pos, aft, none⟩ :: tl).toArray = sops := by rw [hops1, Array.toArray_toList]
    have := OD (pins := pins) (Q := fun s' => vV C.N kt r .normal s') (s := s.st C.N) (s1 := s'.st C.N) (s2' := f'.st C.N) (hd := sops.toList.take n) (tl := tl) (d := d) (T := T) (ty := ty) (pos := pos) (aft := aft)
     (by rw [hops2, hlen]; exact hok.1) (by rw [hops2, hlen]; exact hok.2) g2 (by rw [hops2]; exact h1)
     (fun w0 M0 D0 a w hs => by
      rw [hops2]
      refine g3 w0 M0 D0 a w ?_
      rw [dt]; exact hs)
     (by rw [hops2]; exact tail tl g1)
    rwa [hops2] at this
  ·rename_i n ord
   simp only [Bool.and_eq_true] at hok
   exact RW (pins := pins) (Q := fun s' => vV C.N kt r .normal s') hG hFT (fun s' h => tail _ h) hok.1 hok.2 he
  ·cases he
 | .seq x y, h, s, kt, r, hok, he => by
  simp only [mL] at hok he
  cases h with
  | n a b =>
   simp only [uK, Bool.and_eq_true] at hok
   have he : exec C FT pins J (mL k x) a s (fun e s' => match e with
    | .normal => exec C FT pins J (mL k y) b s' kt
    | e => kt e s') = some r := he
   refine Gm ((dq hG hM hFT hm hJ k tp x a hok.1 he).mono fun e s' hp => ?_)
   obtain ⟨f, rfl, hk⟩ := hp
   cases e with
   | normal => exact dq hG hM hFT hm hJ k tp y b hok.2 hk
   | _ => exact ⟨f, rfl, hk⟩
  | j p a b =>
   simp only [uK, Bool.and_eq_true] at hok
   have he : exec C FT pins J (mL k x) a s (fun e s' => match e with
    | .normal => iF C.N p.wR s' fun s' => match p.dec C.N pins s' with
     | some z => exec C FT pins J (mL k y) b (p.enc z) kt
     | none => none
    | e => kt e s') = some r := he
   refine Gm ((dq hG hM hFT hm hJ k tp x a hok.1 he).mono fun e s' hp => ?_)
   obtain ⟨f, rfl, hk⟩ := hp
   cases e with
   | normal =>
    simp only at hk
    obtain ⟨f', hk, hw, _⟩ := eV _ hk
    split at hk
    ·rename_i z hz
     exact vC (hw.yN.trans (fZ hz)) (dq hG hM hFT hm hJ k tp y b hok.2 hk)
    ·cases hk
   | _ => exact ⟨f, rfl, hk⟩
  | _ => simp [exec] at he
 | .cond c x y, h, s, kt, r, hok, he => by
  simp only [mL] at hok he
  cases h with
  | n a b =>
   simp only [uK, Bool.and_eq_true] at hok
   simp only [exec] at he
   split at he
   ·rename_i t ht
    simp only [br] at he
    refine Ki (t := t) (qk ht) (fun h1 => ?_) (fun h1 => ?_)
    ·rw [if_pos h1] at he
     exact dq hG hM hFT hm hJ k tp x a hok.1 he
    ·rw [if_neg (by rw [h1]; decide)] at he
     exact dq hG hM hFT hm hJ k tp y b hok.2 he
   ·cases he
  | _ => simp [exec] at he
 | .block id x, h, s, kt, r, hok, he => by
  simp only [mL] at hok he
  cases h with
  | u a =>
   have he : exec C FT pins J (mL k x) a s (fun e s' => match e with
    | .exit i => if i = id then kt .normal s' else kt (.exit i) s'
    | e => kt e s') = some r := he
   refine HI ((dq hG hM hFT hm hJ k tp x a hok he).mono fun e s' hp => ?_)
   obtain ⟨f, rfl, hk⟩ := hp
   cases e with
   | exit i =>
    simp only at hk
    simp only [CB]
    split at hk
    ·rename_i e; rw [if_pos e]; exact ⟨f, rfl, hk⟩
    ·rename_i e; rw [if_neg e]; exact ⟨f, rfl, hk⟩
   | _ => exact ⟨f, rfl, hk⟩
  | _ => simp [exec] at he
 | .loop x, h, s, kt, r, hok, he => by
  simp only [mL] at hok he
  cases h with
  | l p a =>
   simp only [exec] at he
   obtain ⟨s2, he, hw2, _⟩ := eV _ he
   split at he
   ·rename_i z hz
    generalize hF : (fun (rec : p.T → Option R) (z : p.T) => exec C FT pins J (mL k x) a (p.enc z) fun e s' => match e with
     | .normal => iF C.N p.wR s' fun s' => match p.dec C.N pins s' with
      | some z' => rec z'
      | none => none
     | e => kt e s') = F at he
    refine Kk (I := fun n st => ∃ z, lY pins st ((p.enc z).st C.N) ∧ iter n F z = some r) (n := C.fuel) ⟨z, hw2.yN.trans (fZ hz), he⟩ ?_
    rintro n st ⟨z, hw, hi⟩
    cases n with
    | zero => simp [iter] at hi
    | succ n =>
     simp only [iter] at hi
     rw [← hF] at hi
     refine vC hw ((dq hG hM hFT hm hJ k tp x a hok hi).mono fun e s' hp => ?_)
     obtain ⟨f, rfl, hk⟩ := hp
     cases e with
     | normal =>
      simp only at hk
      obtain ⟨f', hk, hw3, _⟩ := eV _ hk
      split at hk
      ·rename_i z' hz'
       rw [hF] at hk
       exact ⟨n, Nat.lt_succ_self _, z', hw3.yN.trans (fZ hz'), hk⟩
      ·cases hk
     | _ => exact ⟨f, rfl, hk⟩
   ·cases he
  | _ => simp [exec] at he
 | .rangeFunc .., h, s, kt, r, _, he => by cases h <;> simp [exec, mL] at he
 | .scope .., h, s, kt, r, _, he => by cases h <;> simp [exec, mL] at he
 | .label .., h, s, kt, r, _, he => by cases h <;> simp [exec, mL] at he
 | .goto .., h, s, kt, r, _, he => by cases h <;> simp [exec, mL] at he
 | .refuse .., h, s, kt, r, _, he => by cases h <;> simp [exec, mL] at he
end Go.Abs
namespace Go.Abs
open Go.RowKit
variable {P : Program} {FT : List (Nat × Entry)} {IT : List (Nat × yO)}
theorem Jh {C : eN} (hG : Good P C.G) {s : SS} {r : ResultVar} {x : SV} (h : EX C s r = some x) : Hc P (s.st C.N) r = some (x.av s.objs) := by
 cases r with
 | tmp t =>
  simp only [EX, Option.some.injEq] at h; subst h
  simp only [Hc, ← zt, vt]
 | cell b T =>
  simp only [EX] at h
  split at h
  ·rename_i n sz i off D e1 e2
   split at h
   ·rename_i cs hcs
    obtain ⟨y, hy, rfl⟩ := Option.map_eq_some_iff.1 h
    have hev : gt (s.st C.N).env b = .ref n sz i off := by rw [← zt, vt, qi e1]; rfl
    have := qD hcs trivial
    simp only [Hc, hev, TD.rW (hG T _ e2)]
    rw [show (s.st C.N).objs = ai s.objs s.objs from rfl, this]
    exact xz hy
   ·cases h
  ·cases h
theorem xP {C : eN} (hG : Good P C.G) {s : SS} : ∀ {l : List ResultVar} {i : Nat} {xs : List (Nat × SV)}, zW C s l i = some xs → DB P (s.st C.N) l = some (xs.map fun p => p.2.av s.objs) ∧ xs.length = l.length ∧ (∀ j, j < xs.length → cr xs (i + j) = ((xs[j]?).map (·.2)).getD .any) ∧ (∀ k, k < i → cr xs k = .any ∧ ∀ E, cr (xs ++ E) k = cr E k) ∧
   (∀ j, j < xs.length → ∀ E, cr (xs ++ E) (i + j) = cr xs (i + j))
 | [], i, xs, h => by simp only [zW, Option.some.injEq] at h; subst h; simp [DB, cr]
 | r :: l, i, xs, h => by
  simp only [zW] at h
  split at h
  ·rename_i x ys h1 h2
   simp only [Option.some.injEq] at h; subst h
   obtain ⟨k1, k2, k3, k4, k5⟩ := xP hG h2
   refine ⟨by simp only [DB, Jh hG h1, k1, List.map_cons], by simp [k2], fun j hj => ?_, fun k hk => ?_, fun j hj E => ?_⟩
   ·cases j with
    | zero => simp [cr]
    | succ j =>
     have e : i ≠ i + (j + 1) := by omega
     simp only [cr, e, if_false, List.getElem?_cons_succ]
     rw [show i + (j + 1) = i + 1 + j by omega]
     exact k3 j (by simpa using hj)
   ·have e : i ≠ k := by omega
    obtain ⟨g1, g2⟩ := k4 k (by omega)
    exact ⟨by simp [cr, e, g1], fun E => by simp [cr, e, g2]⟩
   ·cases j with
    | zero => simp [cr]
    | succ j =>
     have e : i ≠ i + (j + 1) := by omega
     simp only [List.cons_append, cr, e, if_false]
     rw [show i + (j + 1) = i + 1 + j by omega]
     exact k5 j (by simpa using hj) E
  ·cases h
theorem vZ : ∀ (xs : List SV) (i : Nat) (E : List (Nat × SV)) (j : Nat), cr (yX i xs ++ E) j = if i ≤ j ∧ j < i + xs.length then (xs[j - i]?).getD .any else cr E j
 | [], i, E, j => by
  rw [if_neg (by rw [List.length_nil]; omega)]; rfl
 | x :: l, i, E, j => by
  have ih := vZ l (i + 1) E j
  simp only [yX, List.cons_append, cr, List.length_cons]
  by_cases h : i = j
  ·subst h
   rw [if_pos rfl, if_pos (by omega)]
   simp
  ·rw [if_neg h, ih]
   by_cases h2 : i + 1 ≤ j ∧ j < i + 1 + l.length
   ·rw [if_pos h2, if_pos (by omega)]
    have : j - i = (j - (i + 1)) + 1 := by omega
    rw [this, List.getElem?_cons_succ]
   ·rw [if_neg h2, if_neg (by omega)]
theorem qE (N : Nat) : ∀ (E : List (Nat × SV)) (j : Nat), cr (mP N E) j = if j < N then cr E j else .any
 | [], j => by simp [mP, cr]
 | (n, x) :: r, j => by
  have ih := qE N r j
  simp only [mP]
  split
  ·rename_i h
   have h : N ≤ n := Nat.le_of_ble_eq_true h
   rw [ih]
   by_cases hj : j < N
   ·rw [if_pos hj, if_pos hj]
    have : n ≠ j := by omega
    simp only [cr, this, if_false]
   ·rw [if_neg hj, if_neg hj]
  ·rename_i h
   have h : n < N := by
    rcases Nat.lt_or_ge n N with h' | h'
    ·exact h'
    ·exact absurd (Nat.ble_eq_true_of_le h') h
   by_cases e : n = j
   ·subst e; simp [cr, h]
   ·simp only [cr, e, if_false, ih]
theorem Jm (g : Array Value) (a : Act) (r : ResultVar) : kQ (ext g a).tmps (Pg g.size r) = kQ a.tmps r := by
 have h : ∀ t, (g ++ a.tmps).getD (g.size + t) undef = a.tmps.getD t undef := by
  intro t
  have h : ¬ g.size + t < g.size := by omega
  simp [Array.getD_eq_getD_getElem?, Array.getElem?_append, h]
 cases r <;> simp only [kQ, Pg, ext, gX, h]
theorem wT : ∀ {l : List (Nat × SV)} {r : List VV}, BI l = some r → l.map (·.2) = r.map SV.v
 | [], r, h => by simp only [BI, Option.some.injEq] at h; subst h; rfl
 | (n, x) :: l, r, h => by
  cases x with
  | cI m => simp [BI] at h
  | v x =>
   simp only [BI] at h
   split at h
   ·rename_i m hm
    simp only [Option.some.injEq] at h; subst h
    simp only [List.map_cons, wT hm]
   ·cases h
theorem Dq {w : World} {D : Names} {O : ah} {rs : List (Nat × SV)} {x : SV} (h : G8 rs = some x) {vs : List Value} (hl : vs.length = (rs.map fun p => p.2.av O).length)
  (hs : ∀ (i : Nat) (y : AV), (rs.map fun p => p.2.av O)[i]? = some y → Slot w D y (vs.getD i undef)) : Slot w D (x.av O) (if h : vs.toArray.size = 1 then vs.toArray[0] else .tuple vs.toArray) := by
 have tupc : ∀ r, BI rs = some r → rs.length ≠ 1 → Slot w D ((SV.cI r).av O) (if h : vs.toArray.size = 1 then vs.toArray[0] else .tuple vs.toArray) := by
  intro r hr hne
  have e := wT hr
  have e2 : (rs.map fun p => p.2.av O) = r.map (VV.av O) := by
   have := congrArg (List.map (SV.av O)) e
   rw [List.map_map, List.map_map] at this
   exact this
  have hvl : vs.length = rs.length := by rw [hl, List.length_map]
  rw [dif_neg (by simp; omega)]
  refine ⟨vs, rfl, by rw [hl, e2], fun i y hy => ?_⟩
  have h1 := hs i y (by rw [e2]; exact hy)
  rw [List.getElem?_map] at hy
  obtain ⟨z, hz, rfl⟩ := Option.map_eq_some_iff.1 hy
  cases z with
  | g l => exact h1
  | c z =>
   simp only [VV.av] at h1 ⊢
   cases hz2 : z.av O with
   | cI l => exact absurd hz2 (dx.2 l)
   | _ => rw [hz2] at h1; exact h1
 cases rs with
 | nil =>
  simp only [G8, BI, Option.some.injEq] at h; subst h
  exact tupc [] rfl (by simp)
 | cons p rs =>
  obtain ⟨n, y⟩ := p
  cases rs with
  | nil =>
   simp only [G8, Option.some.injEq] at h; subst h
   have h1 : vs.length = 1 := by rw [hl]; rfl
   rw [dif_pos (by simpa using h1)]
   have : vs.toArray[0]'(by simp; omega) = vs.getD 0 undef := by
    simp [List.getD, List.getElem?_eq_getElem (show 0 < vs.length by omega)]
   rw [this]
   exact hs 0 _ rfl
  | cons q l =>
   simp only [G8] at h
   split at h
   ·rename_i r hr
    simp only [Option.some.injEq] at h; subst h
    exact tupc r hr (by simp)
   ·cases h
def ow (P : Program) (IT : List (Nat × yO)) : Prop := ∀ f i, Ta IT f = some i → au P f = true ∧ ∃ fn, P.funcs[f]? = some fn ∧ fn.body = some i.code ∧ fn.results.toList = i.rv ∧ fn.ntmps = i.n
theorem Oa (hFT : gv P FT) (hmx : P.follows .mixedOrders = true) (hIT : ow P IT) {pins : List Nat} {R : Type} {J : JT R} (hJ : PV P pins J) :
  PV P pins (N9 IT fun C c h s k => exec C FT pins J c h s k) := by
 intro C f xs gap ht s K r hG hM h
 unfold N9 at h
 split at h
 ·cases h
 rename_i i hi
 obtain ⟨hfo, fn, hf, hb, hrv, hn⟩ := hIT f i hi
 refine ⟨hfo, ?_⟩
 split at h
 ·cases h
 rename_i hc
 simp only [Bool.and_eq_true] at hc
 have hle : xs.length ≤ i.n := Nat.le_of_ble_eq_true hc.1
 generalize hk : C.N + gap = k at h hc
 have hx := dq (C := { G := C.G, N := k + i.n, fuel := C.fuel, M := C.M }) hG hM hFT hmx hJ k true i.code ht hc.2 h
 intro w0 M0 D0 D a w vs hp hm he hpin hvs
 refine (callsIn_wide (n := 0)).1 (callsIn_of_wp_marks hf hb trivial ?_)
 have haN : a.tmps.size = C.N := by rw [he.1, jq]
 let g : Array Value := a.tmps ++ Array.replicate gap undef
 have hg : g.size = k := by simp [g, haN, hk]
 let a2 : Act := { tmps := vs.toArray ++ Array.replicate (fn.ntmps - vs.toArray.size) undef, defers := [] }
 have ha2 : a2.tmps.size = i.n := by simp [a2, hn, hvs.1]; omega
 have hsat : Sat w0 M0 D0 (SS.st (k + i.n) ⟨yX k xs ++ mP C.N s.env, s.objs⟩) (ext g a2) w := by
  refine ⟨rfl, D, hm, ⟨by simp [ext, gX, jq, hg, ha2], fun j y hy => ?_⟩, hpin⟩
  simp only [SS.st, List.getElem?_map] at hy
  obtain ⟨j', hj, rfl⟩ := Option.map_eq_some_iff.1 hy
  have hji : j' = j ∧ j < k + i.n := by
   by_cases hi : j < k + i.n
   ·rw [List.getElem?_range hi] at hj
    simp only [Option.some.injEq] at hj
    exact ⟨hj.symm, hi⟩
   ·rw [List.getElem?_eq_none (by simpa using hi)] at hj; cases hj
  obtain ⟨rfl, hjlt⟩ := hji
  rw [vZ, qE]
  by_cases h1 : k ≤ j' ∧ j' < k + xs.length
  ·rw [if_pos h1]
   have hlt : j' - k < xs.length := by omega
   rw [List.getElem?_eq_getElem hlt]
   have h2 := hvs.2 (j' - k) _ (List.getElem?_eq_getElem hlt)
   have e : (ext g a2).tmps.getD j' undef = vs.getD (j' - k) undef := by
    have c2 : j' - k < vs.toArray.size := by rw [List.size_toArray, hvs.1]; exact hlt
    have c3 : (g ++ a2.tmps)[j']? = vs[j' - k]? := by
     rw [Array.getElem?_append_right (by omega), hg]
     show (vs.toArray ++ Array.replicate (fn.ntmps - vs.toArray.size) undef)[j' - k]? = _
     rw [Array.getElem?_append_left c2, List.getElem?_toArray]
    simp only [ext, gX, Array.getD_eq_getD_getElem?, c3, List.getD]
   rw [e]; exact h2
  ·rw [if_neg h1]
   by_cases h2 : j' < C.N
   ·rw [if_pos h2]
    have e : (ext g a2).tmps.getD j' undef = a.tmps.getD j' undef := by
     have c1 : j' < g.size := by rw [hg]; omega
     have c2 : j' < a.tmps.size := by rw [haN]; exact h2
     have c3 : (g ++ a2.tmps)[j']? = a.tmps[j']? := by
      rw [Array.getElem?_append_left c1]
      show (a.tmps ++ Array.replicate gap undef)[j']? = _
      rw [Array.getElem?_append_left c2]
     simp only [ext, gX, Array.getD_eq_getD_getElem?, c3]
    rw [e]
    exact he.2 j' _ (by simp only [SS.st, List.getElem?_map, List.getElem?_range h2, Option.map_some])
   ·rw [if_neg h2]
    exact jn _ _ _
 refine Code.wpIn_mono ?_ (hx none g w0 M0 D0 a2 w (fun _ => rfl) hg hp (.nil rfl) hsat)
 rintro e a' w2 ⟨hdx, s', ⟨fs, rfl, hfin⟩, hsat1⟩
 have hfin2 : (e = .normal ∨ e = .ret) ∧ ∃ rs x, zW { G := C.G, N := k + i.n, fuel := C.fuel, M := C.M } fs (i.rv.map (Pg k)) 0 = some rs ∧ G8 rs = some x ∧ K x ⟨mP C.N fs.env, fs.objs⟩ = some r := by
  dsimp only at hfin
  split at hfin
  ·refine ⟨.inl rfl, ?_⟩
   split at hfin
   ·rename_i rs hrs
    split at hfin
    ·rename_i x hx; exact ⟨rs, x, hrs, hx, hfin⟩
    ·cases hfin
   ·cases hfin
  ·refine ⟨.inr rfl, ?_⟩
   split at hfin
   ·rename_i rs hrs
    split at hfin
    ·rename_i x hx; exact ⟨rs, x, hrs, hx, hfin⟩
    ·cases hfin
   ·cases hfin
  ·cases hfin
 obtain ⟨hexit, rs, x, hrs, hone, hK⟩ := hfin2
 suffices post : ∀ w', Sat w0 M0 D0 (SS.st (k + i.n) fs) (ext g a') w' → ∃ v, (results fn a'.tmps).run P w' = .ok v w' ∧ (∃ v' x s' D', Ending.returned v = .returned v' ∧ K x s' = some r ∧ Mem w0 M0 (s'.st C.N).objs D' w' ∧ ax w' D' (s'.st C.N).env a.tmps ∧ qf D0 D' (s'.st C.N).objs ∧ Slot w' D' (x.av s'.objs) v') by
  have hl := uz (P := P) (fn := fn) (tmps := a'.tmps) (R := fun e w' => ∃ v x s' D', e = .returned v ∧ K x s' = some r ∧ Mem w0 M0 (s'.st C.N).objs D' w' ∧ ax w' D' (s'.st C.N).env a.tmps ∧ qf D0 D' (s'.st C.N).objs ∧ Slot w' D' (x.av s'.objs) v) hdx hsat1 post
  rcases hexit with rfl | rfl
  ·exact hl
  ·exact hl
 rintro w' ⟨hd, D1, hm1, he1, hpin1⟩
 obtain ⟨q1, q2, _⟩ := xP (C := { G := C.G, N := k + i.n, fuel := C.fuel, M := C.M }) hG hrs
 obtain ⟨vs', k1, k2, k3⟩ := u1 hm1 he1 (i.rv.map (Pg k)) _ q1
 have hmapM : (i.rv.mapM (kQ a'.tmps)).run P w' = .ok vs' w' := by
  have e : (i.rv.map (Pg k)).mapM (kQ (ext g a').tmps) = i.rv.mapM (kQ a'.tmps) := by
   rw [List.mapM_map]
   congr 1
   funext r
   show kQ (ext g a').tmps (Pg k r) = _
   rw [← hg]; exact Jm g a' r
  rw [← e]; exact k3
 have hres : (results fn a'.tmps).run P w' = .ok (if h : vs'.toArray.size = 1 then vs'.toArray[0] else .tuple vs'.toArray) w' := by
  have k4 : ∀ F : ResultVar → Sem Value, (∀ r, F r = kQ a'.tmps r) → (List.mapM F fn.results.toList).run P w' = .ok vs' w' := fun F hF => by rw [funext hF, hrv]; exact hmapM
  unfold results
  rw [Array.mapM_eq_mapM_toList]
  simp only [Sem.run_bind, Sem.run_map, Sem.run_pure]
  refine (congrArg (fun r => (Result.andThen (Result.andThen r fun (l : List Value) w => .ok l.toArray w) fun vs w => .ok (if h : vs.size = 1 then vs[0] else .tuple vs) w)) (k4 _ fun r => by cases r <;> rfl)).trans ?_
  simp only [Result.andThen_ok]
 have hslot := Dq (w := w') (D := D1) (O := fs.objs) hone k1 k2
 have henv : ax w' D1 (SS.st C.N ⟨mP C.N fs.env, fs.objs⟩).env a.tmps := by
  refine ⟨by rw [haN, jq], fun j y hy => ?_⟩
  simp only [SS.st, List.getElem?_map] at hy
  obtain ⟨j', hj, rfl⟩ := Option.map_eq_some_iff.1 hy
  have hji : j' = j ∧ j < C.N := by
   by_cases hi : j < C.N
   ·rw [List.getElem?_range hi] at hj
    simp only [Option.some.injEq] at hj
    exact ⟨hj.symm, hi⟩
   ·rw [List.getElem?_eq_none (by simpa using hi)] at hj; cases hj
  obtain ⟨rfl, hjlt⟩ := hji
  rw [qE, if_pos hjlt]
  have h1 := he1.2 j' ((cr fs.env j').av fs.objs) (by simp only [SS.st, List.getElem?_map, List.getElem?_range (show j' < k + i.n by omega), Option.map_some])
  have e : (ext g a').tmps.getD j' undef = a.tmps.getD j' undef := by
   have c1 : j' < g.size := by rw [hg]; omega
   have c2 : j' < a.tmps.size := by rw [haN]; exact hjlt
   have c3 : (g ++ a'.tmps)[j']? = a.tmps[j']? := by
    rw [Array.getElem?_append_left c1]
    show (a.tmps ++ Array.replicate gap undef)[j']? = _
    rw [Array.getElem?_append_left c2]
   simp only [ext, gX, Array.getD_eq_getD_getElem?, c3]
  rw [e] at h1
  exact h1
 exact ⟨_, hres, _, x, ⟨mP C.N fs.env, fs.objs⟩, D1, rfl, hK, hm1, henv, hpin1, hslot⟩
theorem xj (hFT : gv P FT) (hmx : P.follows .mixedOrders = true) (hIT : ow P IT) {pins : List Nat} {R : Type} : ∀ d, PV P pins (Ii (R := R) FT pins IT d)
 | 0 => fun _ _ _ _ _ _ _ _ _ _ h => by cases h
 | d + 1 => Oa hFT hmx hIT (xj hFT hmx hIT d)
end Go.Abs
namespace Go.Abs
open Go.RowKit
theorem l8 {O : ah} : ∀ (l : List AT) (i : Nat) (x : eF l) (j : Nat), (cr (l7 l i x) (i + j)).av O = (cP canon l i x).getD j .any ∧ (∀ k, k < i → cr (l7 l i x) k = .any)
 | [], i, x, j => by simp [l7, cr, cP, SV.any, SV.av, VV.av, CV.av]
 | .v c :: l, i, x, j => by
  obtain ⟨_, h2⟩ := l8 (O := O) l (i + 1) x.2 0
  refine ⟨?_, fun k hk => ?_⟩
  ·cases j with
   | zero => simp [l7, cr, cP, nU]
   | succ j =>
    have h1 := (l8 (O := O) l (i + 1) x.2 j).1
    have e : i ≠ i + (j + 1) := by omega
    simp only [l7, cr, e, if_false, cP, List.getD_cons_succ]
    rw [show i + (j + 1) = i + 1 + j by omega]; exact h1
  ·have e : i ≠ k := by omega
   simp only [l7, cr, e, if_false]
   exact h2 k (by omega)
 | .bx ts :: l, i, x, j => by
  obtain ⟨_, h2⟩ := l8 (O := O) l (i + 1) x.2 0
  refine ⟨?_, fun k hk => ?_⟩
  ·cases j with
   | zero => simp [l7, cr, cP, SV.av, VV.av, CV.av, canon]
   | succ j =>
    have h1 := (l8 (O := O) l (i + 1) x.2 j).1
    have e : i ≠ i + (j + 1) := by omega
    simp only [l7, cr, e, if_false, cP, List.getD_cons_succ]
    rw [show i + (j + 1) = i + 1 + j by omega]; exact h1
  ·have e : i ≠ k := by omega
   simp only [l7, cr, e, if_false]
   exact h2 k (by omega)
theorem wZ {O : ah} : ∀ (l : List AT) (i : Nat) (x : eF l), ai O (qh l i x) = lH canon l i x
 | [], _, _ => rfl
 | .v c :: l, i, x => wZ l (i + 1) x.2
 | .bx ts :: l, i, x => by
  simp only [qh, ai, lH, SO.av, ly, wZ l (i + 1) x.2]; rfl
theorem uL : ∀ (l : List AT) (i : Nat) (x : eF l), (lH canon l i x).map (·.1) = iB l i
 | [], _, _ => rfl
 | .v c :: l, i, x => uL l (i + 1) x.2
 | .bx ts :: l, i, x => by
  simp only [lH, List.map_cons, iB, uL l (i + 1) x.2]; rfl
theorem nP {ν : Nat → Nat} : ∀ (l : List AT) (i : Nat) (x : eF l), (cP ν l i x).length = l.length
 | [], _, _ => rfl
 | .v c :: l, i, x => by simp only [cP, List.length_cons, nP l]
 | .bx ts :: l, i, x => by simp only [cP, List.length_cons, nP l]
theorem xH : ∀ (l : List AT) (i : Nat) (x : eF l), fE (lH canon l i x) = true
 | [], _, _ => rfl
 | .v c :: l, i, x => xH l (i + 1) x.2
 | .bx ts :: l, i, x => by
  simp only [lH, fE, (kH ts x.1).1, xH l (i + 1) x.2, Bool.and_self]
theorem GC (g : ee) (N : Nat) (hN : g.args.length ≤ N) (x : eF g.args) :
  wV ⟨cP canon g.args 0 x ++ List.replicate (N - (cP canon g.args 0 x).length) .gO, lH canon g.args 0 x⟩ (SS.st N ⟨l7 g.args 0 x, qh g.args 0 x⟩) := by
 have hl := nP (ν := canon) g.args 0 x
 refine mg ⟨?_, fun i y hy => ?_⟩ ?_
 ·simp only [SS.st, List.length_append, List.length_replicate, List.length_map, List.length_range, hl]; omega
 ·simp only [SS.st, List.getElem?_map] at hy
  obtain ⟨j, hj, rfl⟩ := Option.map_eq_some_iff.1 hy
  have hji : j = i ∧ i < N := by
   by_cases hi : i < N
   ·rw [List.getElem?_range hi] at hj
    simp only [Option.some.injEq] at hj
    exact ⟨hj.symm, hi⟩
   ·rw [List.getElem?_eq_none (by simpa using hi)] at hj; cases hj
  obtain ⟨rfl, hi⟩ := hji
  have h1 := (l8 (O := qh g.args 0 x) g.args 0 x j).1
  rw [Nat.zero_add] at h1
  by_cases hlt : j < g.args.length
  ·refine ⟨(cP canon g.args 0 x).getD j .any, ?_, ?_⟩
   ·rw [List.getElem?_append_left (by rw [hl]; exact hlt), List.getD, List.getElem?_eq_getElem (by rw [hl]; exact hlt)]; rfl
   ·show wv _ ((cr (l7 g.args 0 x) j).av (qh g.args 0 x))
    rw [h1]; exact .bh _
  ·refine ⟨.gO, ?_, ?_⟩
   ·rw [List.getElem?_append_right (by rw [hl]; omega), List.getElem?_replicate, if_pos (by rw [hl]; omega)]
   ·show wv _ ((cr (l7 g.args 0 x) j).av (qh g.args 0 x))
    rw [h1]
    have : (cP canon g.args 0 x).getD j .any = .any := by
     rw [List.getD, List.getElem?_eq_none (by rw [hl]; omega)]; rfl
    rw [this]; exact .any _
 ·show lB _ (ai (qh g.args 0 x) (qh g.args 0 x))
  rw [wZ]; exact lB.bh _
def Kx (g : ee) (rv : List ResultVar) : Bool := match g.ret with
 | .cI l => decide (l.length = rv.length) && decide (l.length ≠ 1)
 | .unit => decide (rv.length = 0)
 | _ => decide (rv.length = 1)
theorem ot {O : ah} : ∀ (ts : cf) (x : (ij (nL ts)).T), (iH (nL ts) x).map (CV.av O) = ts.cF (nv ts x)
 | .nil, _ => rfl
 | .cons t ts, x => by
  have ih := ot (O := O) ts x.2
  show ((CV.k (t.kv x.1)).av O) :: (iH (nL ts) x.2).map (CV.av O) = t.av x.1 :: ts.cF (nv ts x.2)
  rw [ih]
  congr 1
  exact ur t x.1
theorem fC {O : ah} : ∀ (l : List AT) (i : Nat) (x : mz (gS l i)), ai O (fT (gS l i) x) = er canon l i (eS l i x)
 | [], _, _ => rfl
 | .v c :: l, i, x => fC l (i + 1) x
 | .bx ts :: l, i, x => by
  have ih := fC (O := O) l (i + 1) x.2
  show (900000 + i, Obj.box ((iH (nL ts) x.1).map (CV.av O))) :: ai O (fT (gS l (i + 1)) x.2) = (canon i, .box (ts.cF (nv ts x.1))) :: er canon l (i + 1) (eS l (i + 1) x.2)
  rw [ih, ot]; rfl
theorem p7 {R : Type} : ∀ (l : List CT) (i : Nat) (z : hP R (vS l i)), kL (vS l i) z = (jK l i z).2 ∧ (∀ k, k < i → cr (ju (vS l i) z) k = .any) ∧
  ∀ (O : ah) j, j < l.length → (cr (ju (vS l i) z) (i + j)).av O = (cQ l (jK l i z).1).getD j .any
 | [], i, z => ⟨rfl, fun _ _ => rfl, fun _ j h => by simp at h⟩
 | c :: l, i, z => by
  obtain ⟨h1, h2, h3⟩ := p7 l (i + 1) z.2
  refine ⟨h1, fun k hk => ?_, fun O j hj => ?_⟩
  ·have e : i ≠ k := by omega
   show cr ((i, c.sv z.1) :: ju (vS l (i + 1)) z.2) k = _
   simp only [cr, e, if_false]
   exact h2 k (by omega)
  ·cases j with
   | zero =>
    show (cr ((i, c.sv z.1) :: ju (vS l (i + 1)) z.2) (i + 0)).av O = (c.av z.1 :: _).getD 0 .any
    simp only [Nat.add_zero, cr, if_true, List.getD_cons_zero]
    exact nU c z.1
   | succ j =>
    have e : i ≠ i + (j + 1) := by omega
    show (cr ((i, c.sv z.1) :: ju (vS l (i + 1)) z.2) (i + (j + 1))).av O = (c.av z.1 :: cQ l (jK l (i + 1) z.2).1).getD (j + 1) .any
    simp only [cr, e, if_false, List.getD_cons_succ]
    rw [show i + (j + 1) = i + 1 + j by omega]
    exact h3 O j (by simpa using hj)
theorem mf : ∀ (l : List CT) (x : jc l), (cQ l x).length = l.length
 | [], _ => rfl
 | c :: l, x => by simp only [cQ, List.length_cons, mf l]
theorem qJ : ∀ (l : List CT) (x : jc l) (i : Nat) (y : AV), (cQ l x)[i]? = some y → ∀ m, y ≠ .cI m
 | [], x, i, y, h => by simp [cQ] at h
 | c :: l, x, i, y, h => by
  cases i with
  | zero =>
   simp only [cQ, List.getElem?_cons_zero, Option.some.injEq] at h; subst h
   intro m
   cases c with
   | ty t => show t.av x.1 ≠ _; cases t <;> simp [Ty.av]
   | ag ts => simp [CT.av]
  | succ i => exact qJ l x.2 i y (by simpa [cQ] using h)
theorem Jj {g : ee} {N : Nat} {rv : List ResultVar} (hok : Kx g rv = true) (z : (cd g N).T) {w w' : World} {D D' : Names} {vs : List Value} (hlen : vs.length = rv.length)
  (hm : Mem w D.N (ai ((cd g N).enc z).objs ((cd g N).enc z).objs) D' w')
  (hs : ∀ j, j < vs.length → Slot w' D' ((cr ((cd g N).enc z).env (N + j)).av ((cd g N).enc z).objs) (vs.getD j undef)) :
  Mem w D.N (jd canon g (fK N g z)).objs D' w' ∧ Slot w' D' (jd canon g (fK N g z)).x (if h : vs.toArray.size = 1 then vs.toArray[0] else .tuple vs.toArray) := by
 obtain ⟨args, ret⟩ := g
 have one : ∀ (x : AV), vs.length = 1 → Slot w' D' x (vs.getD 0 undef) → Slot w' D' x (if h : vs.toArray.size = 1 then vs.toArray[0] else .tuple vs.toArray) := by
  intro x h1 hx
  rw [dif_pos (by simpa using h1)]
  have : vs.toArray[0]'(by simp; omega) = vs.getD 0 undef := by
   simp [List.getD, List.getElem?_eq_getElem (show 0 < vs.length by omega)]
  rw [this]; exact hx
 cases ret with
 | v c =>
  simp only [Kx, decide_eq_true_eq] at hok
  refine ⟨?_, ?_⟩
  ·have e : ai ((cd ⟨args, .v c⟩ N).enc z).objs ((cd ⟨args, .v c⟩ N).enc z).objs = (jd canon ⟨args, .v c⟩ (fK N ⟨args, .v c⟩ z)).objs := fC args 0 z.2
   rw [← e]; exact hm
  ·refine one _ (by omega) ?_
   have h0 := hs 0 (by omega)
   have e : (cr ((cd ⟨args, .v c⟩ N).enc z).env (N + 0)) = c.sv z.1 := by
    show cr [(N, c.sv z.1)] (N + 0) = _
    simp [cr]
   rw [e, nU] at h0
   exact h0
 | cI l =>
  simp only [Kx, Bool.and_eq_true, decide_eq_true_eq] at hok
  obtain ⟨t1, t2, t3⟩ := p7 l N z
  refine ⟨?_, ?_⟩
  ·have key : ∀ b : mz (gS args 0), ai (fT (gS args 0) b) (fT (gS args 0) b) = er canon args 0 (eS args 0 b) := fun b => fC args 0 b
   have e : ai ((cd ⟨args, .cI l⟩ N).enc z).objs ((cd ⟨args, .cI l⟩ N).enc z).objs = (jd canon ⟨args, .cI l⟩ (fK N ⟨args, .cI l⟩ z)).objs :=
    (key _).trans (congrArg (fun b => er canon args 0 (eS args 0 b)) t1)
   rw [← e]; exact hm
  ·rw [dif_neg (by simp; omega)]
   refine ⟨vs, rfl, ?_, fun i y hy => ?_⟩
   ·show vs.length = (cQ l _).length
    rw [mf]; omega
   ·have hy : (cQ l (jK l N z).1)[i]? = some y := hy
    have hi : i < l.length := by
     rcases Nat.lt_or_ge i l.length with h | h
     ·exact h
     ·rw [List.getElem?_eq_none (by rw [mf]; exact h)] at hy; cases hy
    have h0 := hs i (by omega)
    have e : (cr ((cd ⟨args, .cI l⟩ N).enc z).env (N + i)).av ((cd ⟨args, .cI l⟩ N).enc z).objs = y := by
     have := t3 ((cd ⟨args, .cI l⟩ N).enc z).objs i hi
     rw [List.getD, hy] at this
     exact this
    rw [e] at h0
    cases y with
    | cI m => exact absurd rfl (qJ l _ i _ hy m)
    | _ => exact h0
 | own ts =>
  simp only [Kx, decide_eq_true_eq] at hok
  have eo : ((cd ⟨args, .own ts⟩ N).enc z).objs = (rn, .arr ts z.1) :: fT (gS args 0) z.2 := rfl
  refine ⟨?_, ?_⟩
  ·have e : ai ((cd ⟨args, .own ts⟩ N).enc z).objs ((cd ⟨args, .own ts⟩ N).enc z).objs = (jd canon ⟨args, .own ts⟩ (fK N ⟨args, .own ts⟩ z)).objs := by
    rw [eo]
    show (rn, _) :: ai _ (fT (gS args 0) z.2) = (rn, _) :: er canon args 0 (eS args 0 z.2)
    rw [fC]; rfl
   rw [← e]; exact hm
  ·refine one _ (by omega) ?_
   have h0 := hs 0 (by omega)
   have e : (cr ((cd ⟨args, .own ts⟩ N).enc z).env (N + 0)).av ((cd ⟨args, .own ts⟩ N).enc z).objs = .cw rn ts.len 0 z.1.length := by
    have e1 : cr ((cd ⟨args, .own ts⟩ N).enc z).env (N + 0) = .v (.c (.own rn)) := by
     show cr [(N, SV.v (.c (.own rn)))] (N + 0) = _
     simp [cr]
    rw [e1, eo, n9]
   rw [e] at h0
   exact h0
 | box ts =>
  simp only [Kx, decide_eq_true_eq] at hok
  have eo : ((cd ⟨args, .box ts⟩ N).enc z).objs = (rn, .box (iH (nL ts) z.1)) :: fT (gS args 0) z.2 := rfl
  refine ⟨?_, ?_⟩
  ·have e : ai ((cd ⟨args, .box ts⟩ N).enc z).objs ((cd ⟨args, .box ts⟩ N).enc z).objs = (jd canon ⟨args, .box ts⟩ (fK N ⟨args, .box ts⟩ z)).objs := by
    rw [eo]
    show (rn, Obj.box ((iH (nL ts) z.1).map (CV.av _))) :: ai _ (fT (gS args 0) z.2) = (rn, _) :: er canon args 0 (eS args 0 z.2)
    rw [fC, ot]; rfl
   rw [← e]; exact hm
  ·refine one _ (by omega) ?_
   have h0 := hs 0 (by omega)
   have e : (cr ((cd ⟨args, .box ts⟩ N).enc z).env (N + 0)).av ((cd ⟨args, .box ts⟩ N).enc z).objs = .ref rn ts.len 0 0 := by
    have e1 : cr ((cd ⟨args, .box ts⟩ N).enc z).env (N + 0) = .v (.c (.ref rn ts.len 0 0)) := by
     show cr [(N, SV.v (.c (.ref rn ts.len 0 0)))] (N + 0) = _
     simp [cr]
    rw [e1]; rfl
   rw [e] at h0
   exact h0
 | unit =>
  simp only [Kx, decide_eq_true_eq] at hok
  refine ⟨?_, ?_⟩
  ·have e : ai ((cd ⟨args, .unit⟩ N).enc z).objs ((cd ⟨args, .unit⟩ N).enc z).objs = (jd canon ⟨args, .unit⟩ (fK N ⟨args, .unit⟩ z)).objs := fC args 0 z
   rw [← e]; exact hm
  ·rw [dif_neg (by simp; omega)]
   exact ⟨vs, rfl, by rw [hlen, hok]; rfl, fun i y hy => by cases (show (none : Option AV) = some y by rw [← hy]; rfl)⟩
def D7 (P : Program) (fn : Func) (g : ee) (r : g.R) (w : World) (D : Names) : Exit → Act → World → Prop :=
 bodyPostM Fence.wide 0 P fn (fun e w' => ∃ v D', e = .returned v ∧ Mem w D.N (jd canon g r).objs D' w' ∧ Slot w' D' (jd canon g r).x v ∧ ∀ n d, D n = some d → D' n = some d)
theorem tW {P : Program} {G : List (Nat × TD)} {M : qe} (hG : Good P G) {fn : Func} {g : ee} {N : Nat} {rv : List ResultVar} {fuel : Nat} {r : g.R} (hr : fn.results.toList = rv) (hokR : Kx g rv = true)
  {w w1 : World} {D : Names} {a1 : Act} {e : Exit} {fs : SS} (hpins : ja (iB g.args 0) D) (hdx : lU w.heap.size a1 w1) (hfin : GH ⟨G, N, fuel, M⟩ g rv e fs = some r) (hsatE1 : Sat w D.N D (fs.st N) (ext #[] a1) w1) :
  D7 P fn g r w D e a1 w1 := by
 have hexit : e = .normal ∨ e = .ret := by
  cases e <;> simp [GH] at hfin <;> simp
 have hex : ∃ xs z, zW ⟨G, N, fuel, M⟩ fs rv N = some xs ∧ (cd g N).dec (N + rv.length) (iB g.args 0) ⟨xs ++ fs.env, fs.objs⟩ = some z ∧ fK N g z = r := by
  rcases hexit with rfl | rfl
  ·unfold GH at hfin
   split at hfin
   ·split at hfin
    ·rename_i xs hxs
     split at hfin
     ·rename_i z hz
      exact ⟨xs, z, hxs, hz, Option.some.inj hfin⟩
     ·cases hfin
    ·cases hfin
   ·split at hfin
    ·rename_i xs hxs
     split at hfin
     ·rename_i z hz
      exact ⟨xs, z, hxs, hz, Option.some.inj hfin⟩
     ·cases hfin
    ·cases hfin
   ·rename_i h1 h2
    exfalso
    first | exact h1 rfl | exact h2 rfl
  ·unfold GH at hfin
   split at hfin
   ·split at hfin
    ·rename_i xs hxs
     split at hfin
     ·rename_i z hz
      exact ⟨xs, z, hxs, hz, Option.some.inj hfin⟩
     ·cases hfin
    ·cases hfin
   ·split at hfin
    ·rename_i xs hxs
     split at hfin
     ·rename_i z hz
      exact ⟨xs, z, hxs, hz, Option.some.inj hfin⟩
     ·cases hfin
    ·cases hfin
   ·rename_i h1 h2
    exfalso
    first | exact h1 rfl | exact h2 rfl
 obtain ⟨xs, z, hxs, hz, rfl⟩ := hex
 suffices post : ∀ w', Sat w D.N D (fs.st N) (ext #[] a1) w' → ∃ v, (results fn a1.tmps).run P w' = .ok v w' ∧ (∃ v' D', Ending.returned v = .returned v' ∧ Mem w D.N (jd canon g (fK N g z)).objs D' w' ∧ Slot w' D' (jd canon g (fK N g z)).x v' ∧ ∀ n d, D n = some d → D' n = some d) by
  have hl := uz (P := P) (fn := fn) (tmps := a1.tmps) (R := fun e w' => ∃ v D', e = .returned v ∧ Mem w D.N (jd canon g (fK N g z)).objs D' w' ∧ Slot w' D' (jd canon g (fK N g z)).x v ∧ ∀ n d, D n = some d → D' n = some d) hdx hsatE1 post
  rcases hexit with rfl | rfl
  ·exact hl
  ·exact hl
 intro w' hsatE
 obtain ⟨hd, D1, hm1, he1, hpin1⟩ := hsatE
 generalize ha' : ext #[] a1 = a' at hd he1
 have hta : a'.tmps = a1.tmps := by subst ha'; simp [ext, gX]
 rw [← hta]
 obtain ⟨q1, q2, q3, q4, q5⟩ := xP hG hxs
 obtain ⟨vs', k1, k2, k3⟩ := u1 hm1 he1 rv _ q1
 have hlen : vs'.length = rv.length := by rw [k1, List.length_map, q2]
 have he1l : a'.tmps.size = N := by rw [he1.1]; exact jq N fs
 have hsat3 : Sat w D.N D (SS.st (N + rv.length) ⟨xs ++ fs.env, fs.objs⟩) { a' with tmps := a'.tmps ++ vs'.toArray } w' := by
  refine ⟨hd, D1, hm1, ⟨by simp [he1l, jq, hlen], fun i y hy => ?_⟩, hpin1⟩
  simp only [SS.st, List.getElem?_map] at hy
  obtain ⟨j, hj, rfl⟩ := Option.map_eq_some_iff.1 hy
  have hji : j = i ∧ i < N + rv.length := by
   by_cases hi : i < N + rv.length
   ·rw [List.getElem?_range hi] at hj
    simp only [Option.some.injEq] at hj
    exact ⟨hj.symm, hi⟩
   ·rw [List.getElem?_eq_none (by simpa using hi)] at hj; cases hj
  obtain ⟨rfl, hi⟩ := hji
  by_cases hjN : j < N
  ·rw [(q4 j hjN).2]
   have hlt : j < a'.tmps.size := by rw [he1l]; exact hjN
   have := he1.2 j ((cr fs.env j).av fs.objs) (by simp only [SS.st, List.getElem?_map, List.getElem?_range hjN, Option.map_some])
   simpa [Array.getD_eq_getD_getElem?, Array.getElem?_append, hlt] using this
  ·have hjlt : j - N < xs.length := by rw [q2]; omega
   have e1 := q5 (j - N) hjlt fs.env
   have e2 := q3 (j - N) hjlt
   rw [show N + (j - N) = j by omega] at e1 e2
   rw [e1, e2]
   have hge : ¬ j < a'.tmps.size := by rw [he1l]; exact hjN
   have hx : xs[j - N]? = some (xs[j - N]'hjlt) := List.getElem?_eq_getElem hjlt
   have := k2 (j - N) ((xs[j - N]'hjlt).2.av fs.objs) (by rw [List.getElem?_map, hx]; rfl)
   rw [hx]
   simpa [Array.getD_eq_getD_getElem?, Array.getElem?_append, hge, hjN, List.getD, he1l] using this
 obtain ⟨_, D2, g1, g2, g3⟩ := fZ hz w D.N D _ w' hpins hsat3
 have hslots : ∀ j, j < vs'.length → Slot w' D2 ((cr ((cd g N).enc z).env (N + j)).av ((cd g N).enc z).objs) (vs'.getD j undef) := by
  intro j hj
  have hj' : N + j < N + rv.length := by omega
  have := g2.2 (N + j) ((cr ((cd g N).enc z).env (N + j)).av ((cd g N).enc z).objs) (by simp only [SS.st, List.getElem?_map, List.getElem?_range hj', Option.map_some])
  have hge : ¬ N + j < a'.tmps.size := by rw [he1l]; omega
  have hge2 : ¬ N + j < N := by omega
  simpa [Array.getD_eq_getD_getElem?, Array.getElem?_append, hge, hge2, List.getD, he1l] using this
 obtain ⟨r1, r2⟩ := Jj hokR z (w := w) (w' := w') (D := D) (D' := D2) hlen g1 hslots
 have hres : (results fn a'.tmps).run P w' = .ok (if h : vs'.toArray.size = 1 then vs'.toArray[0] else .tuple vs'.toArray) w' := by
  have k4 : ∀ F : ResultVar → Sem Value, (∀ r, F r = kQ a'.tmps r) → (List.mapM F fn.results.toList).run P w' = .ok vs' w' := fun F hF => by rw [funext hF, hr]; exact k3
  unfold results
  rw [Array.mapM_eq_mapM_toList]
  simp only [Sem.run_bind, Sem.run_map, Sem.run_pure]
  refine (congrArg (fun r => (Result.andThen (Result.andThen r fun (l : List Value) w => .ok l.toArray w) fun vs w => .ok (if h : vs.size = 1 then vs[0] else .tuple vs) w)) (k4 _ fun r => by cases r <;> rfl)).trans ?_
  simp only [Result.andThen_ok]
 exact ⟨_, hres, _, D2, rfl, r1, r2, fun n d h => (g3 n d h).1⟩
theorem qO {P : Program} {f : FuncId} {fn : Func} {g : ee} {N : Nat} {c : Code} {x : eF g.args} {r : g.R}
  (hf : P.funcs[f]? = some fn) (hb : fn.body = some c) (hn : fn.ntmps = N) (hN : g.args.length ≤ N)
  (H : ∀ (w : World) (D : Names) (a : Act), ja (iB g.args 0) D → lU w.heap.size a w → Sat w D.N D (SS.st N ⟨l7 g.args 0 x, qh g.args 0 x⟩) (ext #[] a) w → c.wpIn (FR none) 0 P (D7 P fn g r w D) a w) :
  fQ P f (cP canon g.args 0 x) (lH canon g.args 0 x) (jd canon g r) := by
 intro w D vs hmem hargs
 refine (callsIn_wide (n := 0)).1 (callsIn_of_wp_marks hf hb trivial ?_)
 have hpins : ∀ n, n < top → (D n).isSome = true → n ∈ iB g.args 0 := by
  intro n hK hn
  rw [hmem.lQ n hK] at hn
  obtain ⟨o, ho⟩ := Option.isSome_iff_exists.1 hn
  rw [← uL g.args 0 x]
  exact oS ho
 have hsat : Sat w D.N D ⟨cP canon g.args 0 x ++ List.replicate (fn.ntmps - (cP canon g.args 0 x).length) .gO, lH canon g.args 0 x⟩ { tmps := vs.toArray ++ Array.replicate (fn.ntmps - vs.toArray.size) undef, defers := [] } w := by
  refine ⟨rfl, D, hmem, ⟨by simp [hargs.1], fun i x hx => ?_⟩, fun n d hn => ⟨hn, fun hK => ?_⟩⟩
  ·rw [List.getElem?_append] at hx
   split at hx
   ·rename_i hi
    have hlt : i < vs.length := by rw [hargs.1]; exact hi
    have := hargs.2 i x hx
    simpa [Array.getD_eq_getD_getElem?, Array.getElem?_append, hlt, List.getD] using this
   ·rename_i hi
    rw [List.getElem?_replicate] at hx
    split at hx
    ·rename_i hi2
     simp only [Option.some.injEq] at hx; subst hx
     have h1 : ¬ i < vs.length := by rw [hargs.1]; exact hi
     have h2 : i - vs.length < fn.ntmps - vs.length := by rw [hargs.1]; exact hi2
     have : (vs.toArray ++ Array.replicate (fn.ntmps - vs.toArray.size) undef).getD i undef = undef := by
      simp [Array.getD_eq_getD_getElem?, Array.getElem?_append, h1, h2]
     simp only [this]
     simp only [Slot, cM, Cell]; exact .gO
    ·cases hx
  ·have hs := hmem.lQ n hK
   rw [hn] at hs
   obtain ⟨o, ho⟩ := Option.isSome_iff_exists.1 hs.symm
   obtain ⟨cs, rfl, _⟩ := gz (xH g.args 0 x) ho
   exact ⟨cs, ho⟩
 rw [hn] at hsat
 have hsat2 := GC g N hN x _ _ _ _ _ hsat
 rw [hn]
 exact H w D _ hpins (.nil rfl) (by rw [ext_nil rfl]; exact hsat2)
theorem vH {P : Program} {G : List (Nat × TD)} {FT : List (Nat × Entry)} {M : qe} {IT : List (Nat × yO)} {dep : Nat} (hG : Good P G) (hM : oy P M) (hIT : ow P IT) (hFT : gv P FT) (hm : P.follows .mixedOrders = true) {f : FuncId} {fn : Func} {g : ee} {N : Nat} {rv : List ResultVar} {c : Code} {h : HT} {fuel : Nat} {x : eF g.args} {r : g.R}
  (hf : P.funcs[f]? = some fn) (hb : fn.body = some c) (hr : fn.results.toList = rv) (hn : fn.ntmps = N) (hN : g.args.length ≤ N) (hok : uK c h = true) (hokR : Kx g rv = true) (hcall : call G M FT IT dep g N rv c h fuel x = some r) :
  fQ P f (cP canon g.args 0 x) (lH canon g.args 0 x) (jd canon g r) := by
 refine qO hf hb hn hN fun w D a hpins hd hsat => ?_
 have hawp := dq (C := ⟨G, N, fuel, M⟩) hG hM hFT hm (pins := iB g.args 0) (xj hFT hm hIT dep) 0 true c h (by rw [fc]; exact hok) (by rw [fc]; exact hcall)
 refine Code.wpIn_mono ?_ (hawp none #[] w D.N D a w (fun _ => rfl) rfl hpins hd hsat)
 rintro e a1 w1 ⟨hdx, s', ⟨fs, rfl, hfin⟩, hsatE1⟩
 exact tW hG hr hokR hpins hdx hfin hsatE1
theorem vw {P : Program} {G : List (Nat × TD)} {FT : List (Nat × Entry)} {M : qe} {IT : List (Nat × yO)} {dep : Nat} (hG : Good P G) (hM : oy P M) (hIT : ow P IT) (hFT : gv P FT) (hm : P.follows .mixedOrders = true) {f : FuncId} {fn : Func} {e : Entry} {N : Nat} {rv : List ResultVar} {c : Code} {h : HT}
  (hf : P.funcs[f]? = some fn) (hb : fn.body = some c) (hr : fn.results.toList = rv) (hn : fn.ntmps = N) (hN : e.sig.args.length ≤ N) (hok : uK c h = true) (hokR : Kx e.sig rv = true)
  (hF : ∀ x r, e.F x = some r → ∃ fuel, call G M FT IT dep e.sig N rv c h fuel x = some r) : TC P f e := fun x r hx => by
 obtain ⟨fuel, hc⟩ := hF x r hx
 exact vH hG hM hIT hFT hm hf hb hr hn hN hok hokR hc
theorem af {P : Program} : gv P [] := fun _ _ h => by cases h
theorem ab {P : Program} {f : FuncId} {e : Entry} {FT : List (Nat × Entry)} (hf : au P f = true) (he : TC P f e) (h : gv P FT) : gv P ((f, e) :: FT) := by
 intro g e' hg
 simp only [P7] at hg
 split at hg
 ·rename_i hfg
  subst hfg
  simp only [Option.some.injEq] at hg; subst hg
  exact ⟨hf, he⟩
 ·exact h g e' hg
theorem ic {P : Program} : ow P [] := fun _ _ h => by cases h
theorem dZ {P : Program} {f : FuncId} {i : yO} {IT : List (Nat × yO)} {fn : Func} (hf : au P f = true) (h1 : P.funcs[f]? = some fn) (h2 : fn.body = some i.code) (h3 : fn.results.toList = i.rv) (h4 : fn.ntmps = i.n) (h : ow P IT) : ow P ((f, i) :: IT) := by
 intro g j hg
 simp only [Ta] at hg
 split at hg
 ·rename_i hfg
  subst hfg
  simp only [Option.some.injEq] at hg; subst hg
  exact ⟨hf, fn, h1, h2, h3, h4⟩
 ·exact h g j hg
theorem gw {P : Program} : oy P [] := fun _ _ _ _ h => by cases h
end Go.Abs
namespace Go.Abs
open Go.RowKit Go.ChangeShapes Go.WideShapes
variable {W : World}
mutual
def Ty.wf : (t : Ty) → t.T → Prop
 | .int k, n => (Lit.int k n).wf = true
 | .bool, _ => True
 | .str, s => s.length ≤ cj
 | .sl ts, l => l.length ≤ cj ∧ ∀ x ∈ l, ts.wf x
def cf.wf : (ts : cf) → ts.T → Prop
 | .nil, _ => True
 | .cons t ts, x => t.wf x.1 ∧ ts.wf x.2
end
def CT.wf : (c : CT) → c.T → Prop
 | .ty t, x => t.wf x
 | .ag ts, x => ts.wf x
def w5 : (l : List AT) → eF l → Prop
 | [], _ => True
 | .v c :: l, x => c.wf x.1 ∧ w5 l x.2
 | .bx ts :: l, x => ts.wf x.1 ∧ w5 l x.2
def hU : Nat → cf → cf
 | 0, _ => .nil
 | _ + 1, .nil => .nil
 | n + 1, .cons t ts => .cons t (hU n ts)
def gW : Nat → cf → cf
 | 0, ts => ts
 | _ + 1, .nil => .nil
 | n + 1, .cons _ ts => gW n ts
def uo : (n : Nat) → (ts : cf) → (hU n ts).T → (gW n ts).T → ts.T
 | 0, _, _, b => b
 | _ + 1, .nil, _, _ => ()
 | n + 1, .cons _ ts, a, b => (a.1, uo n ts a.2 b)
theorem wq : ∀ (n : Nat) (ts : cf) (a : (hU n ts).T) (b : (gW n ts).T), ts.cF (uo n ts a b) = (hU n ts).cF a ++ (gW n ts).cF b
 | 0, _, _, _ => rfl
 | _ + 1, .nil, _, _ => rfl
 | n + 1, .cons t ts, a, b => by
  show t.av a.1 :: ts.cF (uo n ts a.2 b) = t.av a.1 :: ((hU n ts).cF a.2 ++ (gW n ts).cF b)
  rw [wq n ts a.2 b]
theorem wu : ∀ (n : Nat) (ts : cf) (a : (hU n ts).T) (b : (gW n ts).T), (hU n ts).wf a → (gW n ts).wf b → ts.wf (uo n ts a b)
 | 0, _, _, _, _, h => h
 | _ + 1, .nil, _, _, _, _ => trivial
 | n + 1, .cons _ ts, a, b, h1, h2 => ⟨h1.1, wu n ts a.2 b h1.2 h2⟩
def KN (P : Program) (fit : TypeId → cf → Bool) : List Field → Nat → cf → Bool
 | [], _, ts => ts.beq .nil
 | f :: fs, off, ts => decide (f.offset = off) && (decide ((hU (P.cellsOf f.type) ts).len = P.cellsOf f.type) && (fit f.type (hU (P.cellsOf f.type) ts) && KN P fit fs (off + P.cellsOf f.type) (gW (P.cellsOf f.type) ts)))
def xm (P : Program) : Nat → TypeId → cf → Bool
 | 0, _, _ => false
 | n + 1, T, ts => match P.underlying T with
  | some (.int k) => ts.beq (.cons (.int k) .nil)
  | some .bool => ts.beq (.cons .bool .nil)
  | some .string => ts.beq (.cons .str .nil)
  | some (.slice e) => match ts with
   | .cons (.sl us) .nil => xm P n e us && (decide (P.cellsOf e = us.len) && (decide (0 < us.len) && decide (0 < P.bytesOf e)))
   | _ => false
  | some (.struct fs) => decide (P.cellsOf T = ts.len) && KN P (xm P n) fs.toList 0 ts
  | _ => false
def jb (W : World) (xs : List AV) (cs : List Value) : Prop := cs.length = xs.length ∧ ∀ (i : Nat) (a : AV), xs[i]? = some a → cU W (fun _ => False) a (cs.getD i undef) ∧ (cs.getD i undef).oneCell' = true
theorem jb.append {a b : List AV} {cs ds : List Value} (h : jb W a cs) (k : jb W b ds) : jb W (a ++ b) (cs ++ ds) := by
 refine ⟨by simp [h.1, k.1], fun i x hx => ?_⟩
 by_cases hi : i < a.length
 ·rw [List.getElem?_append_left hi] at hx
  have : (cs ++ ds).getD i undef = cs.getD i undef := by simp [List.getD, List.getElem?_append_left (show i < cs.length by rw [h.1]; exact hi)]
  rw [this]; exact h.2 i x hx
 ·rw [List.getElem?_append_right (by omega)] at hx
  have : (cs ++ ds).getD i undef = ds.getD (i - a.length) undef := by simp [List.getD, List.getElem?_append_right (show cs.length ≤ i by rw [h.1]; omega), h.1]
  rw [this]; exact k.2 _ x hx
theorem jr {x : AV} {v : Value} (h : cU W (fun _ => False) x v) (h1 : v.oneCell' = true) : jb W [x] [v] := by
 refine ⟨rfl, fun i a ha => ?_⟩
 cases i with
 | zero => simp only [List.getElem?_cons_zero, Option.some.injEq] at ha; subst ha; exact ⟨h, h1⟩
 | succ i => simp at ha
theorem EG {α : Type} {Q : Nat → α → Prop} : ∀ (n : Nat), (∀ i, i < n → ∃ y, Q i y) → ∃ l : List α, l.length = n ∧ ∀ (i : Nat) (y : α), l[i]? = some y → Q i y
 | 0, _ => ⟨[], rfl, by simp⟩
 | n + 1, h => by
  obtain ⟨l, h1, h2⟩ := EG n (fun i hi => h i (by omega))
  obtain ⟨y, hy⟩ := h n (by omega)
  refine ⟨l ++ [y], by simp [h1], fun i z hz => ?_⟩
  rw [List.getElem?_append] at hz
  split at hz
  ·exact h2 i z hz
  ·rename_i hi
   have : i - l.length = 0 := by
    rcases Nat.eq_zero_or_pos (i - l.length) with h | h
    ·exact h
    ·rw [List.getElem?_eq_none (by simp; omega)] at hz; cases hz
   rw [this] at hz
   simp only [List.getElem?_cons_zero, Option.some.injEq] at hz; subst hz
   have : i = n := by omega
   subst this; exact hy
theorem rD {H : Type} {P : Program} {e : TypeId} : ∀ {l : List (DataW H)} {d : DataW H} {x : Nat}, d ∈ l → x ∈ d.weights P e → x ∈ DataW.weightsAll P e l
 | [], d, x, h, _ => by simp at h
 | a :: l, d, x, h, hx => by
  rw [DataW.weightsAll]
  rcases List.mem_cons.1 h with rfl | h
  ·exact List.mem_append.2 (.inl hx)
  ·exact List.mem_append.2 (.inr (rD h hx))
theorem wG {n : Nat} (h : n ≤ reachBytes) : n ≤ cj := by
 have : reachBytes ≤ cj := by decide
 omega
section
variable {H : Type} {enc : TypeId × Value → H} {P : Program} {W : World}
theorem rk {n : Nat} (ih : ∀ (T : TypeId) (ts : cf) (fuel : Nat) (cs : List Value) (d : DataW H) (ps : List MemPlace), xm P n T ts = true → DataW.trod enc P W 0 (fun _ => true) true fuel T cs = some (d, ps) → (∀ x ∈ d.weights P T, x ≤ reachBytes) →
   ∃ y : ts.T, ts.wf y ∧ jb W (ts.cF y) cs) (fuel : Nat) (all : List Value) :
  ∀ (fs : List Field) (off : Nat) (ts : cf) (xs : List (DataW H × List MemPlace)), KN P (xm P n) fs off ts = true → xs.length = fs.length → off + ts.len = all.length →
   (∀ (i : Nat) (f : Field), fs[i]? = some f → DataW.trod enc P W 0 (fun _ => true) true fuel f.type ((all.drop f.offset).take (P.cellsOf f.type)) = xs[i]?) →
   (∀ x ∈ DataW.weightsEach P (fs.map (·.type)) (xs.map (·.1)), x ≤ reachBytes) → ∃ y : ts.T, ts.wf y ∧ jb W (ts.cF y) (all.drop off)
 | [], off, ts, xs, h, hl, hall, hx, hw => by
  have := cf.beq_eq _ _ h
  subst this
  refine ⟨(), trivial, ?_⟩
  have : all.drop off = [] := List.drop_eq_nil_of_le (by simp [cf.len] at hall; omega)
  rw [this]
  exact ⟨rfl, fun i a ha => by simp [cf.cF] at ha⟩
 | f :: fs, off, ts, [], h, hl, hall, hx, hw => by simp at hl
 | f :: fs, off, ts, x :: xs, h, hl, hall, hx, hw => by
  simp only [KN, Bool.and_eq_true, decide_eq_true_eq] at h
  obtain ⟨h1, h2, h3, h4⟩ := h
  obtain ⟨d, ps⟩ := x
  have hx0 := hx 0 f (by simp)
  simp only [List.getElem?_cons_zero] at hx0
  have hwe : DataW.weightsEach P ((f :: fs).map (·.type)) (((d, ps) :: xs).map (·.1)) = d.weights P f.type ++ DataW.weightsEach P (fs.map (·.type)) (xs.map (·.1)) := by
   simp only [List.map_cons]; rw [DataW.weightsEach]
  rw [hwe] at hw
  obtain ⟨a, ha1, ha2⟩ := ih f.type _ fuel _ d ps h3 hx0 (fun x hx => hw x (List.mem_append.2 (.inl hx)))
  have hlen : ∀ (n : Nat) (ts : cf), (hU n ts).len + (gW n ts).len = ts.len := by
   intro n
   induction n with
   | zero => intro ts; simp [hU, gW, cf.len]
   | succ n ih => intro ts; cases ts with
    | nil => simp [hU, gW, cf.len]
    | cons t ts => simp only [hU, gW, cf.len]; have := ih ts; omega
  have hl2 := hlen (P.cellsOf f.type) ts
  obtain ⟨b, hb1, hb2⟩ := rk ih fuel all fs (off + P.cellsOf f.type) (gW (P.cellsOf f.type) ts) xs h4 (by simpa using hl) (by omega) (fun i g hg => by simpa using hx (i + 1) g (by simpa using hg)) (fun x hx => hw x (List.mem_append.2 (.inr hx)))
  refine ⟨uo _ ts a b, wu _ ts a b ha1 hb1, ?_⟩
  rw [wq]
  have hsplit : all.drop off = (all.drop off).take (P.cellsOf f.type) ++ all.drop (off + P.cellsOf f.type) := by
   rw [← List.drop_drop, List.take_append_drop]
  rw [hsplit]
  rw [h1] at ha2
  exact ha2.append hb2
theorem rX : ∀ (n : Nat) (T : TypeId) (ts : cf) (fuel : Nat) (cs : List Value) (d : DataW H) (ps : List MemPlace), xm P n T ts = true → DataW.trod enc P W 0 (fun _ => true) true fuel T cs = some (d, ps) → (∀ x ∈ d.weights P T, x ≤ reachBytes) →
  ∃ y : ts.T, ts.wf y ∧ jb W (ts.cF y) cs
 | 0, _, _, _, _, _, _, h, _, _ => by simp [xm] at h
 | n + 1, T, ts, fuel, cs, d, ps, h, ht, hw => by
  unfold xm at h
  split at h
  ·rename_i k hu
   have := cf.beq_eq _ _ h
   subst this
   obtain ⟨m, rfl, _, hwf⟩ := DataW.trod_int hu ht
   exact ⟨((m : Int), ()), ⟨hwf, trivial⟩, jr (.int k m) rfl⟩
  ·rename_i hu
   have := cf.beq_eq _ _ h
   subst this
   obtain ⟨b, rfl, _⟩ := DataW.trod_bool hu ht
   exact ⟨(b, ()), ⟨trivial, trivial⟩, jr (.bool b) rfl⟩
  ·rename_i hu
   have := cf.beq_eq _ _ h
   subst this
   obtain ⟨s, rfl, e, _⟩ := DataW.trod_string hu ht
   simp only [Prod.mk.injEq] at e
   rw [e.1] at hw
   have hl : s.data.toList.length ≤ cj := wG (hw _ (by rw [DataW.weights]; exact List.mem_cons_self ..))
   refine ⟨((s.data.toList : List UInt8), ()), ⟨hl, trivial⟩, jr ?_ rfl⟩
   have := cU.str (w := W) (M := fun _ => False) s.data.toList hl
   have e : (⟨s.data.toList.toArray⟩ : ByteArray) = s := by cases s; simp
   rw [e] at this
   exact this
  ·rename_i e hu
   split at h
   ·rename_i us
    simp only [Bool.and_eq_true, decide_eq_true_eq] at h
    obtain ⟨h1, h2, h3, h4⟩ := h
    rcases DataW.trod_slice hu ht with ⟨rfl, _⟩ | ⟨a, len, cap, elems, rest, m, _, rfl, hx, _, hlc, _, hlen, hel, _, _⟩
    ·exact ⟨(([] : List us.T), ()), ⟨⟨by simp [cj], by simp⟩, trivial⟩, jr (.slnil us.len none 0) rfl⟩
    ·simp only [Prod.mk.injEq] at hx
     obtain ⟨rfl, _⟩ := hx
     rw [DataW.weights, hu] at hw
     have hle : len ≤ cj := by
      have h5 := hw _ (List.mem_cons_self ..)
      simp only [List.length_map] at h5
      have h6 : len ≤ (elems.length + rest.length) * P.bytesOf e := by
       rw [hlen]
       exact Nat.le_trans (Nat.le_add_right _ _) (Nat.le_mul_of_pos_right _ h4)
      exact wG (by omega)
     have hone : ∀ i, i < len → ∃ y : us.T, us.wf y ∧ ∃ c : List Value, jb W (us.cF y) c ∧ ∀ j, j < us.len → W.cell? ((a.add (i * us.len)).add j) = c[j]? := by
      intro i hi
      have h5 := hel i hi
      rw [List.getElem?_eq_getElem (by omega), h2] at h5
      obtain ⟨c, hc1, hc2⟩ := Option.bind_eq_some_iff.1 h5
      obtain ⟨_, g1, g2⟩ := World.cells?_some hc1
      have hm : (elems[i]'(by omega)).1 ∈ elems.map (·.1) := List.mem_map_of_mem (List.getElem_mem _)
      obtain ⟨y, y1, y2⟩ := rX n e us m c (elems[i]'(by omega)).1 (elems[i]'(by omega)).2 h1 hc2 (fun x hx => hw x (List.mem_cons_of_mem _ (List.mem_append.2 (.inl (rD hm hx)))))
      exact ⟨y, y1, c, y2, g2⟩
     obtain ⟨l, hl1, hl2⟩ := EG len hone
     refine ⟨((l : List us.T), ()), ⟨⟨by rw [hl1]; exact hle, fun x hx => ?_⟩, trivial⟩, jr ?_ rfl⟩
     ·obtain ⟨i, hi, rfl⟩ := List.getElem_of_mem hx
      exact (hl2 i _ (List.getElem?_eq_getElem hi)).1
     ·show cU W _ (.sl us.len (l.map us.cF)) _
      cases len with
      | zero =>
       have : l = [] := List.length_eq_zero_iff.1 hl1
       subst this
       exact .slnil us.len (some a) cap
      | succ len =>
       obtain ⟨y0, c0, hy0, hs0, hc0⟩ : ∃ y c, l[0]? = some y ∧ jb W (us.cF y) c ∧ ∀ j, j < us.len → W.cell? ((a.add (0 * us.len)).add j) = c[j]? := by
        obtain ⟨y, hy⟩ : ∃ y, l[0]? = some y := ⟨l[0]'(by omega), List.getElem?_eq_getElem (by omega)⟩
        obtain ⟨_, c, k1, k2⟩ := hl2 0 y hy
        exact ⟨y, c, hy, k1, k2⟩
       have hlen0 : c0.length = us.len := by rw [hs0.1, fX]
       have hcell0 : W.cell? a = some (c0[0]'(by omega)) := by
        have := hc0 0 h3
        rw [List.getElem?_eq_getElem (by omega)] at this
        simpa [Addr.add] using this
       obtain ⟨b, off, spot⟩ := a
       have hspot : spot = none := World.cell?_spot hcell0
       subst hspot
       have hb : b < W.heap.size := by
        unfold World.cell? at hcell0
        cases hh : W.heap[b]? with
        | none => simp [hh] at hcell0
        | some o => exact (Array.getElem?_eq_some_iff.1 hh).1
       have hadd : ∀ k j, ((⟨b, off, none⟩ : Addr).add k).add j = ⟨b, off + (k + j), none⟩ := by
        intro k j
        rw [cX, cX, Nat.add_assoc]
       have hlm : (l.map us.cF).length = len + 1 := by rw [List.length_map, hl1]
       rw [← hlm]
       have key : ∀ (j : Nat) (cs : List AV), (l.map us.cF)[j]? = some cs → ∃ y c, us.cF y = cs ∧ jb W (us.cF y) c ∧ ∀ i, i < us.len → W.cell? ⟨b, off + (j * us.len + i), none⟩ = c[i]? := by
        intro j cs hj
        rw [List.getElem?_map] at hj
        obtain ⟨y, hy, rfl⟩ := Option.map_eq_some_iff.1 hj
        obtain ⟨_, c, k1, k2⟩ := hl2 j y hy
        exact ⟨y, c, rfl, k1, fun i hi => by rw [← hadd]; exact k2 i hi⟩
       refine cU.sl us.len (l.map us.cF) b off cap (fun j i => (W.cell? ⟨b, off + (j * us.len + i), none⟩).getD undef) hb (fun h => h) (by rw [hlm]; exact hlc) (by rw [hlm]; exact hle) ?_ ?_ ?_ ?_
       ·intro j cs hj
        obtain ⟨y, c, rfl, k1, k2⟩ := key j cs hj
        exact fX us y
       ·intro j cs i x hj hi
        obtain ⟨y, c, rfl, k1, k2⟩ := key j cs hj
        have hi' : i < us.len := by
         rcases Nat.lt_or_ge i us.len with h | h
         ·exact h
         ·rw [List.getElem?_eq_none (by rw [fX]; exact h)] at hi; cases hi
        have hc := k2 i hi'
        rw [List.getElem?_eq_getElem (show i < c.length by rw [k1.1, fX]; exact hi')] at hc
        rw [hc]; rfl
       ·intro j cs i x hj hi
        obtain ⟨y, c, rfl, k1, k2⟩ := key j cs hj
        have hi' : i < us.len := by
         rcases Nat.lt_or_ge i us.len with h | h
         ·exact h
         ·rw [List.getElem?_eq_none (by rw [fX]; exact h)] at hi; cases hi
        have := (k1.2 i x hi).2
        rw [k2 i hi']
        exact this
       ·intro j cs i x hj hi
        obtain ⟨y, c, rfl, k1, k2⟩ := key j cs hj
        have hi' : i < us.len := by
         rcases Nat.lt_or_ge i us.len with h | h
         ·exact h
         ·rw [List.getElem?_eq_none (by rw [fX]; exact h)] at hi; cases hi
        have := (k1.2 i x hi).1
        rw [k2 i hi']
        exact this
   ·cases h
  ·rename_i fs hu
   simp only [Bool.and_eq_true, decide_eq_true_eq] at h
   obtain ⟨h1, h2⟩ := h
   obtain ⟨xs, m, _, hx, hcl, hxl, hf⟩ := DataW.trod_struct hu ht
   simp only [Prod.mk.injEq] at hx
   obtain ⟨rfl, _⟩ := hx
   rw [DataW.weights, hu] at hw
   have := rk (rX n) m cs fs.toList 0 ts xs h2 (by simpa using hxl) (by rw [hcl]; omega) (fun i f hi => hf i f (by simpa using hi)) hw
   simpa using this
  ·cases h
def KM (P : Program) (T : TypeId) : CT → Bool
 | .ty t => xm P 20 T (.cons t .nil) && (match P.underlying T with | some (.int _) | some .bool | some .string | some (.slice _) => true | _ => false)
 | .ag ts => xm P 20 T ts && (match P.underlying T with | some (.struct _) => true | _ => false)
def mX (P : Program) : List TypeId → List CT → Bool
 | [], [] => true
 | T :: Ts, c :: cs => KM P T c && mX P Ts cs
 | _, _ => false
theorem Iy {x : AV} {v : Value} (h : cU W (fun _ => False) x v) : Slot W (fun _ => none) x v :=
 cU.slot (D := fun _ => none) (h.mono (cB.refl W _).toKeep fun b _ hb => by obtain ⟨n, hn⟩ := hb; cases hn)
theorem Ln {c : CT} {T : TypeId} {v : Value} {d : DataW H} {ps : List MemPlace} {b0 : Nat} (hf : KM P T c = true) (hv : Value.okWide P W .any b0 T v) (ht : DataW.Trod enc P W 0 (fun _ => true) true T v d ps) (hw : ∀ x ∈ d.weights P T, x ≤ reachBytes) :
  ∃ y : c.T, c.wf y ∧ Slot W (fun _ => none) (c.av y) v := by
 obtain ⟨fuel, ht⟩ := ht
 cases c with
 | ty t =>
  simp only [KM, Bool.and_eq_true] at hf
  obtain ⟨y, y1, y2⟩ := rX 20 T _ fuel _ d ps hf.1 ht hw
  have hone : v.cells = #[v] := by
   have h2 := hf.2
   split at h2
   ·rename_i k hu; obtain ⟨n, rfl⟩ := okWide_int hu hv; rfl
   ·rename_i hu; obtain ⟨n, rfl⟩ := okWide_bool hu hv; rfl
   ·rename_i hu; obtain ⟨n, rfl⟩ := okWide_string hu hv; rfl
   ·rename_i e hu; obtain ⟨a, l, c, rfl⟩ := okWide_slice hu hv; rfl
   ·cases h2
  rw [hone] at y2
  have := (y2.2 0 (t.av y.1) rfl).1
  exact ⟨y.1, y1.1, Iy this⟩
 | ag ts =>
  simp only [KM, Bool.and_eq_true] at hf
  obtain ⟨y, y1, y2⟩ := rX 20 T _ fuel _ d ps hf.1 ht hw
  have hagg : ∃ cs, v = .agg cs := by
   have h2 := hf.2
   split at h2
   ·rename_i fs hu; obtain ⟨cs, rfl, _⟩ := okWide_struct hu hv; exact ⟨cs, rfl⟩
   ·cases h2
  obtain ⟨cs, rfl⟩ := hagg
  refine ⟨y, y1, cs.toList, by simp, y2.1, fun i x hx => ?_⟩
  obtain ⟨k1, k2⟩ := y2.2 i x hx
  exact ⟨cU.cell (D := fun _ => none) (k1.mono (cB.refl W _).toKeep fun b _ hb => by obtain ⟨n, hn⟩ := hb; cases hn), k2⟩
end
theorem wD {H : Type} {enc : TypeId × Value → H} {P : Program} {b0 : Nat} : ∀ {Ts : List TypeId} {cts : List CT} {vs : List Value} {ds : List (DataW H)} {ps : List MemPlace}, mX P Ts cts = true →
  (∀ (j : Nat) t v, Ts[j]? = some t → vs[j]? = some v → Value.okWide P W .any b0 t v) → DataW.TrodAll enc P W 0 (fun _ => true) true Ts vs ds ps → (∀ x ∈ DataW.weightsEach P Ts ds, x ≤ reachBytes) →
  ∃ x : eF (cts.map AT.v), w5 _ x ∧ (∀ ν i, mS W (fun _ => none) (cP ν (cts.map AT.v) i x) vs) ∧ ds.length = cts.length
 | [], [], vs, ds, ps, _, _, h, _ => by
  cases vs with
  | nil => cases ds with
   | nil => exact ⟨(), trivial, fun _ _ => ⟨rfl, fun i x hx => by cases hx⟩, rfl⟩
   | cons d ds => exact h.elim
  | cons v vs => exact h.elim
 | [], _ :: _, vs, ds, ps, h, _, _, _ => by simp [mX] at h
 | _ :: _, [], vs, ds, ps, h, _, _, _ => by simp [mX] at h
 | T :: Ts, c :: cts, vs, ds, ps, h, hv, ht, hw => by
  simp only [mX, Bool.and_eq_true] at h
  cases vs with
  | nil => exact ht.elim
  | cons v vs =>
   cases ds with
   | nil => exact ht.elim
   | cons d ds =>
    obtain ⟨p, q, h1, h2, _⟩ := ht
    rw [DataW.weightsEach] at hw
    obtain ⟨y, y1, y2⟩ := Ln h.1 (hv 0 T v rfl rfl) h1 (fun x hx => hw x (List.mem_append.2 (.inl hx)))
    obtain ⟨x, x1, x2, x3⟩ := wD (cts := cts) h.2 (fun j t v ht hv' => hv (j + 1) t v (by simpa using ht) (by simpa using hv')) h2 (fun x hx => hw x (List.mem_append.2 (.inr hx)))
    refine ⟨(y, x), ⟨y1, x1⟩, fun ν i => ⟨?_, fun j a ha => ?_⟩, by simp [x3]⟩
    ·show (v :: vs).length = (c.av y :: cP ν (cts.map AT.v) (i + 1) x).length
     simp only [List.length_cons, (x2 ν (i + 1)).1]
    ·have ha : (c.av y :: cP ν (cts.map AT.v) (i + 1) x)[j]? = some a := ha
     cases j with
     | zero => simp only [List.getElem?_cons_zero, Option.some.injEq] at ha; subst ha; simpa using y2
     | succ j => simpa using (x2 ν (i + 1)).2 j a (by simpa using ha)
theorem wS {H : Type} {enc : TypeId × Value → H} {P : Program} {W W' : World} (hl : laidOutB P = true) (hb : Below W.heap.size W W') : ∀ {Ts : List TypeId} {vs : List Value} {ds : List (DataW H)} {ps : List MemPlace}, (Ts.all fun t => P.readableRec t && decide (t < P.types.size)) = true →
  DataW.TrodAll enc P W 0 (fun _ => true) true Ts vs ds ps → (∀ x ∈ ps, x.block < W.heap.size) → DataW.TrodAll enc P W' 0 (fun b => decide (b < W.heap.size)) true Ts vs ds ps
 | [], vs, ds, ps, _, h, _ => by
  cases vs with
  | nil => cases ds with
   | nil => exact h
   | cons d ds => exact h.elim
  | cons v vs => exact h.elim
 | T :: Ts, vs, ds, ps, hr, h, hlt => by
  simp only [List.all_cons, Bool.and_eq_true, decide_eq_true_eq] at hr
  cases vs with
  | nil => exact h.elim
  | cons v vs =>
   cases ds with
   | nil => exact h.elim
   | cons d ds =>
    obtain ⟨p, q, h1, h2, rfl⟩ := h
    exact ⟨p, q, Below.trod hl hr.1.1 hr.1.2 h1 hb (fun x hx => hlt x (List.mem_append.2 (.inl hx))), wS hl hb (by simpa using hr.2) h2 (fun x hx => hlt x (List.mem_append.2 (.inr hx))), rfl⟩
theorem GU {H : Type} {enc : TypeId × Value → H} {C : Checked} {f : FuncId} {fn : Func} {s : ChangeSpec} {cts : List CT} {F : eF (cts.map AT.v) → Option (ee.R ⟨cts.map AT.v, .v (.ty .bool)⟩)} {tb : TypeId}
  (hvars : s.vars = []) (hspec : ∀ ds : List (DataW H), ds.length = cts.length → s.fn H ds = ⟨[.lit (.bool true)], ds, []⟩) (hres : fn.resultTypes = #[tb]) (htb : C.prog.underlying tb = some .bool)
  (hfit : mX C.prog fn.params.toList cts = true) (hread : (fn.params.toList.all fun t => C.prog.readableRec t && decide (t < C.prog.types.size)) = true) (hlaid : laidOutB C.prog = true)
  (hTC : TC C.prog f ⟨⟨cts.map AT.v, .v (.ty .bool)⟩, F⟩) (hF : ∀ x, w5 _ x → ∃ o, F x = some (true, o))
  {W : World} {b0 : Nat} {args : Array Value} {ds gs : List (DataW H)} {before : List MemPlace} (hglob : cO W (Names.M fun _ => none))
  (hval : ∀ (j : Nat) t v, fn.params[j]? = some t → args[j]? = some v → Value.okWide C.prog W .any b0 t v)
  (hW : DataW.Whole enc C.prog fn.params.toList s.vars false W args.toList ds gs before)
  (hsz : (DataW.weightsEach C.prog (fn.params.toList ++ s.plain.varTypes C.prog) (ds ++ gs)).all (· ≤ reachBytes) = true) :
  Calls C.prog f args W fun e W' => ∃ v, e = .returned v ∧ s.post enc C.prog fn false true false false W args v W' := by
 obtain ⟨p, q, hA, hV, hpq, hfz, hnd⟩ := hW
 have hlt : ∀ x ∈ before, x.block < W.heap.size := DataW.Whole.lt ⟨p, q, hA, hV, hpq, hfz, hnd⟩
 have hW : DataW.Whole enc C.prog fn.params.toList s.vars false W args.toList ds gs before := ⟨p, q, hA, hV, hpq, hfz, hnd⟩
 rw [hvars] at hV
 obtain ⟨hgs, hq⟩ : gs = [] ∧ q = [] := by
  cases gs with
  | nil => exact ⟨rfl, hV⟩
  | cons g gs => exact hV.elim
 subst hgs; subst hq
 have hsz2 : ∀ x ∈ DataW.weightsEach C.prog fn.params.toList ds, x ≤ reachBytes := by
  have hvt : s.plain.varTypes C.prog = [] := by
   have : s.plain.vars = [] := hvars
   simp [DataSpec.varTypes, this]
  rw [hvt, List.append_nil, List.append_nil] at hsz
  rw [List.all_eq_true] at hsz
  intro x hx
  simpa using hsz x hx
 obtain ⟨x, x1, x2, x3⟩ := wD (b0 := b0) hfit (fun j t v ht hv => hval j t v (by simpa using ht) (by simpa using hv)) hA hsz2
 obtain ⟨o, ho⟩ := hF x x1
 have hc := hTC x (true, o) ho
 have hno : rK (cts.map AT.v) = true := by
  have : ∀ cts : List CT, rK (cts.map AT.v) = true := by
   intro cts
   induction cts with
   | nil => rfl
   | cons c cts ih => exact ih
  exact this cts
 have hcalls := hc W (fun _ => none) args.toList (by rw [xG hno]; exact ji W hglob) (x2 canon 0)
 rw [Array.toArray_toList] at hcalls
 refine hcalls.mono fun e W' hp => ?_
 obtain ⟨v, D', rfl, hm', hs, _⟩ := hp
 have hv : v = .bool true := fL hs
 subst hv
 have hb : Below W.heap.size W W' := nG (hm'.grow.weaken fun b _ hb => by obtain ⟨n, _, hn⟩ := hb; cases hn) hm'.os hm'.tape hm'.output
 refine ⟨_, rfl, ?_⟩
 have hrl : (Value.bool true).resultList fn.resultTypes.size = [.bool true] := by rw [hres]; rfl
 refine ⟨ds, [], before, [], p, [], hW, ?_, ?_, ?_, hb.frame _, fun h => by cases h⟩
 ·rw [List.append_nil, hspec ds x3, hrl, hres]
  exact trodAll_mk1 (shut_bool htb true)
 ·rw [List.append_nil, hspec ds x3]
  refine wS hlaid hb hread hA (fun y hy => hlt y ?_)
  rw [hpq]; exact List.mem_append.2 (.inl hy)
 ·rw [List.append_nil, hspec ds x3, hvars]
  exact rfl
end Go.Abs
namespace Go.Abs
def Tu : AV → AV → Bool
 | .int k n, .int k' n' => decide (k = k') && decide (n = n')
 | .bool a, .bool b => a == b
 | .str a, .str b => a.isEmpty && b.isEmpty
 | .gE, .gE => true
 | _, _ => false
theorem NR : ∀ {a b : AV}, Tu a b = true → a = b := by
 intro a b h
 cases a <;> cases b <;> simp [Tu] at h ⊢
 all_goals first | exact h | skip
 obtain ⟨h1, h2⟩ := h
 rw [h1, h2]
def BZ : List AV → List AV → Bool
 | [], [] => true
 | a :: l, b :: m => Tu a b && BZ l m
 | _, _ => false
theorem w9 : ∀ {a b : List AV}, BZ a b = true → a = b
 | [], [], _ => rfl
 | a :: l, b :: m, h => by
  simp only [BZ, Bool.and_eq_true] at h
  rw [NR h.1, w9 h.2]
 | [], _ :: _, h => by simp [BZ] at h
 | _ :: _, [], h => by simp [BZ] at h
def rj : Option (List AV) → List AV → Bool
 | some a, b => BZ a b
 | none, _ => false
theorem kF : ∀ {a : Option (List AV)} {b : List AV}, rj a b = true → a = some b
 | some a, b, h => by rw [w9 h]
 | none, _, h => by simp [rj] at h
def v3 : List (List AV) → List (List AV) → Bool
 | [], [] => true
 | a :: l, b :: m => BZ a b && v3 l m
 | _, _ => false
theorem yZ : ∀ {a b : List (List AV)}, v3 a b = true → a = b
 | [], [], _ => rfl
 | a :: l, b :: m, h => by
  simp only [v3, Bool.and_eq_true] at h
  rw [w9 h.1, yZ h.2]
 | [], _ :: _, h => by simp [v3] at h
 | _ :: _, [], h => by simp [v3] at h
def VI : Option (List AV) → KC → Bool
 | some [.cW (.pointer none)], .rJ => true
 | some [.cW .nilFunc], .xD => true
 | some [.cW .nilIface], .qy => true
 | _, _ => false
theorem Ow {z : Option (List AV)} {c : KC} (h : VI z c = true) : z = some [.cW c.val] := by
 unfold VI at h
 split at h <;> first | rfl | cases h
def TD.okB (P : Program) (T : TypeId) : TD → Bool
 | .map kk k => n5 P T kk k && decide (cJ P T = some (false, 1))
 | .nl c => Li P T c && (decide (cJ P T = some (false, 1)) && (VI (zeroCells P T) c && decide (cN P T = none)))
 | .int k => decide (wo P T = some k) && (decide (cJ P T = some (false, 1)) && (rj (zeroCells P T) [.int k 0] && decide (cN P T = none)))
 | .bool => ql P T && (decide (cJ P T = some (false, 1)) && (rj (zeroCells P T) [.bool false] && decide (cN P T = none)))
 | .str => iE P T && (decide (cJ P T = some (false, 1)) && (rj (zeroCells P T) [.str []] && decide (cN P T = none)))
 | .slice ts b => decide (bf P T = some ts.len) && (decide ((jN P T).bind (wM P) = some b) && (rj ((jN P T).bind (zeroCells P)) (ts.zc.map (CV.av [])) && (decide (cJ P T = some (false, 1)) &&
   (rj (zeroCells P T) [.gE] && (decide (cN P T = none) && (!(ts.beq fw) || mc P T))))))
 | .struct ts fs eq => decide (cJ P T = some (true, ts.len)) && ((List.range fs.length).all (fun k => decide (jy P T k = fs[k]?)) && (decide (places P T = some (fs.map fun f => (f.1, f.2.2))) && (rj (zeroCells P T) (ts.zc.map (CV.av [])) &&
   (decide (cN P T = none) && (!eq || N1 P T ts)))))
 | .arr n ts => decide (cN P T = some (n, ts.len)) && (decide (cJ P T = some (true, n * ts.len)) && (decide (n ≤ cj) && (match zeroCells P T with
   | some z => decide (n * ts.len = z.length) && v3 (chunk ts.len n z) (List.replicate n (ts.zc.map (CV.av [])))
   | none => false)))
theorem TD.RI {P : Program} {T : TypeId} {d : TD} (h : d.okB P T = true) : d.ok P T := by
 cases d with
 | map kk k =>
  simp only [TD.okB, Bool.and_eq_true, decide_eq_true_eq] at h
  exact h
 | nl c =>
  simp only [TD.okB, Bool.and_eq_true, decide_eq_true_eq] at h
  exact ⟨h.1, h.2.1, Ow h.2.2.1, h.2.2.2⟩
 | int k =>
  simp only [TD.okB, Bool.and_eq_true, decide_eq_true_eq] at h
  exact ⟨h.1, h.2.1, kF h.2.2.1, h.2.2.2⟩
 | bool =>
  simp only [TD.okB, Bool.and_eq_true, decide_eq_true_eq] at h
  exact ⟨h.1, h.2.1, kF h.2.2.1, h.2.2.2⟩
 | str =>
  simp only [TD.okB, Bool.and_eq_true, decide_eq_true_eq] at h
  exact ⟨h.1, h.2.1, kF h.2.2.1, h.2.2.2⟩
 | slice ts b =>
  simp only [TD.okB, Bool.and_eq_true, decide_eq_true_eq, Bool.or_eq_true, Bool.not_eq_true'] at h
  refine ⟨h.1, h.2.1, kF h.2.2.1, h.2.2.2.1, kF h.2.2.2.2.1, h.2.2.2.2.2.1, fun e => ?_⟩
  rcases h.2.2.2.2.2.2 with k | k
  ·rw [k] at e; cases e
  ·exact k
 | struct ts fs eq =>
  simp only [TD.okB, Bool.and_eq_true, decide_eq_true_eq, Bool.or_eq_true, Bool.not_eq_true', List.all_eq_true, List.mem_range] at h
  refine ⟨h.1, fun k r hk => ?_, h.2.2.1, kF h.2.2.2.1, h.2.2.2.2.1, fun e => ?_⟩
  ·rw [h.2.1 k (List.getElem?_eq_some_iff.1 hk).1, hk]
  ·rcases h.2.2.2.2.2 with k | k
   ·rw [k] at e; cases e
   ·exact k
 | arr n ts =>
  simp only [TD.okB, Bool.and_eq_true, decide_eq_true_eq] at h
  obtain ⟨h1, h2, h3, h4⟩ := h
  split at h4
  ·rename_i z hz
   simp only [Bool.and_eq_true, decide_eq_true_eq] at h4
   exact ⟨h1, h2, h3, z, hz, h4.1, yZ h4.2⟩
  ·cases h4
def Q8 (P : Program) (G : List (Nat × TD)) : Bool := G.all fun x => x.2.okB P x.1
theorem La : ∀ {G : List (Nat × TD)} {T : Nat} {d : TD}, gQ G T = some d → (T, d) ∈ G := by
 intro G T d h
 induction G with
 | nil => simp [gQ] at h
 | cons a G ih =>
  obtain ⟨n, e⟩ := a
  unfold gQ at h
  split at h
  ·simp_all
  ·exact List.mem_cons_of_mem _ (ih h)
theorem KU {P : Program} {G : List (Nat × TD)} (h : Q8 P G = true) : Good P G := by
 intro T d hd
 exact TD.RI ((List.all_eq_true.1 h) _ (La hd))
end Go.Abs
