/- Checks that compute: the types of a program are what a table says of them. -/
import Derived.Test.YtplngcjkghnkcaaExS
namespace Go.Abs

def avB : AV → AV → Bool
  | .int k n, .int k' n' => decide (k = k') && decide (n = n')
  | .bool a, .bool b => a == b
  | .str a, .str b => a.isEmpty && b.isEmpty
  | .nsl, .nsl => true
  | _, _ => false
theorem avB_eq : ∀ {a b : AV}, avB a b = true → a = b := by
  intro a b h
  cases a <;> cases b <;> simp [avB] at h ⊢
  all_goals first | exact h | skip
  obtain ⟨h1, h2⟩ := h
  rw [h1, h2]
def avsB : List AV → List AV → Bool
  | [], [] => true
  | a :: l, b :: m => avB a b && avsB l m
  | _, _ => false
theorem avsB_eq : ∀ {a b : List AV}, avsB a b = true → a = b
  | [], [], _ => rfl
  | a :: l, b :: m, h => by
    simp only [avsB, Bool.and_eq_true] at h
    rw [avB_eq h.1, avsB_eq h.2]
  | [], _ :: _, h => by simp [avsB] at h
  | _ :: _, [], h => by simp [avsB] at h
def oavsB : Option (List AV) → List AV → Bool
  | some a, b => avsB a b
  | none, _ => false
theorem oavsB_eq : ∀ {a : Option (List AV)} {b : List AV}, oavsB a b = true → a = some b
  | some a, b, h => by rw [avsB_eq h]
  | none, _, h => by simp [oavsB] at h
def avssB : List (List AV) → List (List AV) → Bool
  | [], [] => true
  | a :: l, b :: m => avsB a b && avssB l m
  | _, _ => false
theorem avssB_eq : ∀ {a b : List (List AV)}, avssB a b = true → a = b
  | [], [], _ => rfl
  | a :: l, b :: m, h => by
    simp only [avssB, Bool.and_eq_true] at h
    rw [avsB_eq h.1, avssB_eq h.2]
  | [], _ :: _, h => by simp [avssB] at h
  | _ :: _, [], h => by simp [avssB] at h

def TD.okB (P : Program) (T : TypeId) : TD → Bool
  | .int k => decide (intTy P T = some k) && (decide (cellTy P T = some (false, 1)) && (oavsB (zeroCells P T) [.int k 0] && decide (arrElem P T = none)))
  | .bool => boolTy P T && (decide (cellTy P T = some (false, 1)) && (oavsB (zeroCells P T) [.bool false] && decide (arrElem P T = none)))
  | .str => strTy P T && (decide (cellTy P T = some (false, 1)) && (oavsB (zeroCells P T) [.str []] && decide (arrElem P T = none)))
  | .slice ts b => decide (sliceElem P T = some ts.len) && (decide ((elemId P T).bind (sizeB P) = some b) && (oavsB ((elemId P T).bind (zeroCells P)) (ts.zc.map (CV.av [])) && (decide (cellTy P T = some (false, 1)) &&
      (oavsB (zeroCells P T) [.nsl] && (decide (arrElem P T = none) && (!(ts.beq byteTs) || byteSl P T))))))
  | .struct ts fs eq => decide (cellTy P T = some (true, ts.len)) && ((List.range fs.length).all (fun k => decide (fieldOf P T k = fs[k]?)) && (decide (places P T = some (fs.map fun f => (f.1, f.2.2))) && (oavsB (zeroCells P T) (ts.zc.map (CV.av [])) &&
      (decide (arrElem P T = none) && (!eq || eqOk P T ts)))))
  | .arr n ts => decide (arrElem P T = some (n, ts.len)) && (decide (cellTy P T = some (true, n * ts.len)) && (decide (n ≤ lim) && (match zeroCells P T with
      | some z => decide (n * ts.len = z.length) && avssB (chunk ts.len n z) (List.replicate n (ts.zc.map (CV.av [])))
      | none => false)))
theorem TD.ok_of {P : Program} {T : TypeId} {d : TD} (h : d.okB P T = true) : d.ok P T := by
  cases d with
  | int k =>
    simp only [TD.okB, Bool.and_eq_true, decide_eq_true_eq] at h
    exact ⟨h.1, h.2.1, oavsB_eq h.2.2.1, h.2.2.2⟩
  | bool =>
    simp only [TD.okB, Bool.and_eq_true, decide_eq_true_eq] at h
    exact ⟨h.1, h.2.1, oavsB_eq h.2.2.1, h.2.2.2⟩
  | str =>
    simp only [TD.okB, Bool.and_eq_true, decide_eq_true_eq] at h
    exact ⟨h.1, h.2.1, oavsB_eq h.2.2.1, h.2.2.2⟩
  | slice ts b =>
    simp only [TD.okB, Bool.and_eq_true, decide_eq_true_eq, Bool.or_eq_true, Bool.not_eq_true'] at h
    refine ⟨h.1, h.2.1, oavsB_eq h.2.2.1, h.2.2.2.1, oavsB_eq h.2.2.2.2.1, h.2.2.2.2.2.1, fun e => ?_⟩
    rcases h.2.2.2.2.2.2 with k | k
    · rw [k] at e; cases e
    · exact k
  | struct ts fs eq =>
    simp only [TD.okB, Bool.and_eq_true, decide_eq_true_eq, Bool.or_eq_true, Bool.not_eq_true', List.all_eq_true, List.mem_range] at h
    refine ⟨h.1, fun k r hk => ?_, h.2.2.1, oavsB_eq h.2.2.2.1, h.2.2.2.2.1, fun e => ?_⟩
    · rw [h.2.1 k (List.getElem?_eq_some_iff.1 hk).1, hk]
    · rcases h.2.2.2.2.2 with k | k
      · rw [k] at e; cases e
      · exact k
  | arr n ts =>
    simp only [TD.okB, Bool.and_eq_true, decide_eq_true_eq] at h
    obtain ⟨h1, h2, h3, h4⟩ := h
    split at h4
    · rename_i z hz
      simp only [Bool.and_eq_true, decide_eq_true_eq] at h4
      exact ⟨h1, h2, h3, z, hz, h4.1, avssB_eq h4.2⟩
    · cases h4

def goodB (P : Program) (G : List (Nat × TD)) : Bool := G.all fun x => x.2.okB P x.1
theorem lkT_mem : ∀ {G : List (Nat × TD)} {T : Nat} {d : TD}, lkT G T = some d → (T, d) ∈ G := by
  intro G T d h
  induction G with
  | nil => simp [lkT] at h
  | cons a G ih =>
    obtain ⟨n, e⟩ := a
    unfold lkT at h
    split at h
    · simp_all
    · exact List.mem_cons_of_mem _ (ih h)
theorem good_of {P : Program} {G : List (Nat × TD)} (h : goodB P G = true) : Good P G := by
  intro T d hd
  exact TD.ok_of ((List.all_eq_true.1 h) _ (lkT_mem hd))
end Go.Abs
