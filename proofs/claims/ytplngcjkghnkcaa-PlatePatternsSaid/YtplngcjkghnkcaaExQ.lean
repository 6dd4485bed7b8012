/- The executor: soundness. -/
import Derived.Test.YtplngcjkghnkcaaExP
import Derived.Test.YtplngcjkghnkcaaExMd
namespace Go.Abs
open Go.RowKit

/-- The hints on regions that draw their order hold. -/
def daOk (ops : Array Oper) (n : Nat) : Bool := match ops.toList.drop n with
  | o :: _ => (match o.op, o.dst, o.guard with
    | .alloc _, some d, none => Region.lexTailB .any ops (n + 1) && aloneB ops (n + 1) n d
    | _, _, _ => false)
  | [] => false
def okC : Code → HT → Bool
  | .region _ ops draw, .r m => match draw, m with
    | true, .q => Region.lexB .any ops
    | true, .qt n => Region.lexTailB .any ops n
    | true, .da n => daOk ops n
    | true, .m n _ => Region.lexTailB .any ops n && mB ops n
    | _, _ => true
  | .seq x y, .n a b => okC x a && okC y b
  | .seq x y, .j _ a b => okC x a && okC y b
  | .cond _ x y, .n a b => okC x a && okC y b
  | .block _ x, .u a => okC x a
  | .loop x, .l _ a => okC x a
  | _, _ => true

/-- What the continuation asks. -/
def PostK {R : Type} (N : Nat) (k : Exit → SS → Option R) (r : R) (e : Exit) (s : St) : Prop := ∃ f : SS, s = f.st N ∧ k e f = some r

theorem alloc_step {P : Program} {C : Cfg} {FT : List (Nat × Entry)} (hG : Good P C.G) {R : Type} {ops : Array Oper} {d : Tmp} {T : TypeId} {ty : TypeId} {pos : String} {aft : Array Edge} {l : List Oper} {s : SS} {K : SS → Option R} {r : R}
    (h : sGo C FT false ops.toList (⟨some d, .alloc T, ty, pos, aft, none⟩ :: l) s K = some r) :
    ∃ f' : SS, sGo C FT false ops.toList l f' K = some r ∧ (zeroCells P T).isSome = true ∧
      ∀ w0 M0 D0 a w, Sat w0 M0 D0 (s.st C.N) a w → wpList P ops (fun e a' w' => e = .normal ∧ Sat w0 M0 D0 (f'.st C.N) a' w') [⟨some d, .alloc T, ty, pos, aft, none⟩] a w := by
  simp only [sGo, sOp, sR, Bool.false_eq_true, if_false] at h
  split at h
  · rename_i c x s' hr
    obtain ⟨hc, hK⟩ := need_some h
    have hz : (zeroCells P T).isSome = true := by
      simp only [sH] at hr
      split at hr
      case isFalse => cases hr
      split at hr
      case h_2 => cases hr
      split at hr
      · rename_i e; obtain ⟨_, _, _, z, g, _⟩ := hG T _ e; rw [g]; rfl
      · rename_i e; obtain ⟨_, _, _, g, _⟩ := hG T _ e; rw [g]; rfl
      · rename_i e; obtain ⟨_, _, g, _⟩ := hG T _ e; rw [g]; rfl
      · rename_i e; obtain ⟨_, _, g, _⟩ := hG T _ e; rw [g]; rfl
      · rename_i e; obtain ⟨_, _, g, _⟩ := hG T _ e; rw [g]; rfl
      · rename_i e; obtain ⟨_, _, _, _, g, _⟩ := hG T _ e; rw [g]; rfl
      · cases hr
    obtain ⟨s1, r1, b1, b2, b3, b4, b5, b6⟩ := sH_sound hG hr hc
    refine ⟨_, hK, hz, fun w0 M0 D0 a w hs => ?_⟩
    exact xOp_sound (o := ⟨some d, .alloc T, ty, pos, aft, none⟩) noT_ok (xOp_h (guard_none rfl) b3 b4 b5) (b1 _ _ _ _ _ hs) fun a' w' hs' => ⟨rfl, b6 _ _ _ _ _ hs'⟩
  · cases h

theorem exec_sound {P : Program} {C : Cfg} {FT : List (Nat × Entry)} (hG : Good P C.G) (hFT : FTok P FT) (hm : P.follows .mixedOrders = true) {pins : List Nat} {R : Type} :
    ∀ (c : Code) (h : HT) {s : SS} {k : Exit → SS → Option R} {r : R}, okC c h = true → exec C FT pins c h s k = some r → AWP P pins c (PostK C.N k r) (s.st C.N)
  | .skip, h, s, k, r, _, he => awp_skip ⟨s, rfl, by simpa [exec] using he⟩
  | .exit id, h, s, k, r, _, he => awp_exit ⟨s, rfl, by simpa [exec] using he⟩
  | .ret, h, s, k, r, _, he => awp_ret ⟨s, rfl, by simpa [exec] using he⟩
  | .region id ops draw, h, s, k, r, hok, he => by
    cases h with
    | r m =>
      cases draw with
      | false =>
        cases m with
        | x =>
          have he : sGo C FT false ops.toList ops.toList s (k .normal) = some r := he
          exact awp_x fun w0 M0 D0 a w hs => sGo_wp hG hFT ops.toList he hs fun s' a' w' h1 h2 => ⟨_, ⟨s', rfl, h1⟩, h2⟩
        | _ => simp [exec] at he
      | true =>
        cases m with
        | q =>
          have he : sGo C FT true ops.toList ops.toList s (k .normal) = some r := he
          obtain ⟨s', h1, h2⟩ := sGo_q hG hFT ops.toList he
          exact awp_q hm hok h1 ⟨s', rfl, h2⟩
        | qt n =>
          have he : sGo C FT true ops.toList (ops.toList.take n) s (fun s => sGo C FT false ops.toList (ops.toList.drop n) s (k .normal)) = some r := he
          obtain ⟨s', h1, h2⟩ := sGo_q hG hFT _ he
          have hops : ops.toList.toArray = ops := Array.toArray_toList ..
          have := awp_qt (pins := pins) (Q := PostK C.N k r) hm (id := id) (l := ops.toList) n (by rw [hops]; exact hok) (by rw [hops]; exact h1)
            (fun w0 M0 D0 a w hs => by
              rw [hops]
              exact sGo_wp hG hFT _ h2 hs fun s' a' w' h1 h2 => ⟨_, ⟨s', rfl, h1⟩, h2⟩)
          rwa [hops] at this
        | m n U =>
          have he : sGoM C FT U ops.toList (ops.toList.take n) s (fun s => sGo C FT false ops.toList (ops.toList.drop n) s (k .normal)) = some r := he
          have hok : (Region.lexTailB .any ops n && mB ops n) = true := hok
          rw [Bool.and_eq_true] at hok
          obtain ⟨s', h1, h2⟩ := sGoM_steps (P := P) hG hFT _ he
          have hops : ops.toList.toArray = ops := Array.toArray_toList ..
          have := awp_m (pins := pins) (Q := PostK C.N k r) hm (id := id) (l := ops.toList) n (by rw [hops]; exact hok.1) (by rw [hops]; exact hok.2) (by rw [hops]; exact h1)
            (fun w0 M0 D0 a w hs => by
              rw [hops]
              exact sGo_wp hG hFT _ h2 hs fun s' a' w' h1 h2 => ⟨_, ⟨s', rfl, h1⟩, h2⟩)
          rwa [hops] at this
        | da n =>
          have he : sGo C FT true ops.toList (ops.toList.take n) s (fun s => match ops.toList.drop n with
            | o :: tl => sGo C FT false ops.toList (o :: tl) (s.put o.dst .und) (k .normal)
            | [] => none) = some r := he
          obtain ⟨s', h1, h2⟩ := sGo_q hG hFT _ he
          have hok : daOk ops n = true := hok
          unfold daOk at hok
          cases hdr : ops.toList.drop n with
          | nil => rw [hdr] at hok; cases hok
          | cons o tl =>
            rw [hdr] at hok h2
            simp only at hok h2
            obtain ⟨dst, op, ty, pos, aft, guard⟩ := o
            simp only at hok
            split at hok
            case h_2 => cases hok
            rename_i T d
            simp only [Bool.and_eq_true] at hok
            obtain ⟨f', g1, g2, g3⟩ := alloc_step (P := P) hG h2
            have hlen : (ops.toList.take n).length = n := by
              rw [List.length_take]
              have : (ops.toList.drop n).length = tl.length + 1 := by rw [hdr]; rfl
              rw [List.length_drop] at this
              omega
            have hops : ops.toList.take n ++ ⟨some d, .alloc T, ty, pos, aft, none⟩ :: tl = ops.toList := by rw [← hdr, List.take_append_drop]
            have hops2 : (ops.toList.take n ++ ⟨some d, .alloc T, ty, pos, aft, none⟩ :: tl).toArray = ops := by rw [hops, Array.toArray_toList]
            have := awp_da (pins := pins) (Q := PostK C.N k r) (s := s.st C.N) (s1 := s'.st C.N) (s2' := f'.st C.N) hm (id := id) (hd := ops.toList.take n) (tl := tl) (d := d) (T := T) (ty := ty) (pos := pos) (aft := aft)
              (by rw [hops2, hlen]; exact hok.1) (by rw [hops2, hlen]; exact hok.2) g2 (by rw [hops2]; exact h1)
              (fun w0 M0 D0 a w hs => by
                rw [hops2]
                refine g3 w0 M0 D0 a w ?_
                rw [put_st]; exact hs)
              (fun w0 M0 D0 a w hs => by
                rw [hops2]
                exact sGo_wp hG hFT tl g1 hs fun s' a' w' h1 h2 => ⟨_, ⟨s', rfl, h1⟩, h2⟩)
            rwa [hops2] at this
        | x => simp [exec] at he
    | _ => simp [exec] at he
  | .seq x y, h, s, k, r, hok, he => by
    cases h with
    | n a b =>
      simp only [okC, Bool.and_eq_true] at hok
      have he : exec C FT pins x a s (fun e s' => match e with
        | .normal => exec C FT pins y b s' k
        | e => k e s') = some r := he
      refine awp_seq ((exec_sound hG hFT hm x a hok.1 he).mono fun e s' hp => ?_)
      obtain ⟨f, rfl, hk⟩ := hp
      cases e with
      | normal => exact exec_sound hG hFT hm y b hok.2 hk
      | _ => exact ⟨f, rfl, hk⟩
    | j p a b =>
      simp only [okC, Bool.and_eq_true] at hok
      have he : exec C FT pins x a s (fun e s' => match e with
        | .normal => match p.dec C.N pins s' with
          | some z => exec C FT pins y b (p.enc z) k
          | none => none
        | e => k e s') = some r := he
      refine awp_seq ((exec_sound hG hFT hm x a hok.1 he).mono fun e s' hp => ?_)
      obtain ⟨f, rfl, hk⟩ := hp
      cases e with
      | normal =>
        simp only at hk
        split at hk
        · rename_i z hz
          exact awp_weaken (dec_weaker hz) (exec_sound hG hFT hm y b hok.2 hk)
        · cases hk
      | _ => exact ⟨f, rfl, hk⟩
    | _ => simp [exec] at he
  | .cond c x y, h, s, k, r, hok, he => by
    cases h with
    | n a b =>
      simp only [okC, Bool.and_eq_true] at hok
      simp only [exec] at he
      split at he
      · rename_i t ht
        simp only [br] at he
        refine awp_cond (t := t) (asK_ev ht) (fun h1 => ?_) (fun h1 => ?_)
        · rw [if_pos h1] at he
          exact exec_sound hG hFT hm x a hok.1 he
        · rw [if_neg (by rw [h1]; decide)] at he
          exact exec_sound hG hFT hm y b hok.2 he
      · cases he
    | _ => simp [exec] at he
  | .block id x, h, s, k, r, hok, he => by
    cases h with
    | u a =>
      have he : exec C FT pins x a s (fun e s' => match e with
        | .exit i => if i = id then k .normal s' else k (.exit i) s'
        | e => k e s') = some r := he
      refine awp_block ((exec_sound hG hFT hm x a hok he).mono fun e s' hp => ?_)
      obtain ⟨f, rfl, hk⟩ := hp
      cases e with
      | exit i =>
        simp only at hk
        simp only [blockQ]
        split at hk
        · rename_i e; rw [if_pos e]; exact ⟨f, rfl, hk⟩
        · rename_i e; rw [if_neg e]; exact ⟨f, rfl, hk⟩
      | _ => exact ⟨f, rfl, hk⟩
    | _ => simp [exec] at he
  | .loop x, h, s, k, r, hok, he => by
    cases h with
    | l p a =>
      simp only [exec] at he
      split at he
      · rename_i z hz
        generalize hF : (fun (rec : p.T → Option R) (z : p.T) => exec C FT pins x a (p.enc z) fun e s' => match e with
          | .normal => match p.dec C.N pins s' with
            | some z' => rec z'
            | none => none
          | e => k e s') = F at he
        refine awp_loop (I := fun n st => ∃ z, Weaker pins st ((p.enc z).st C.N) ∧ iter n F z = some r) (n := C.fuel) ⟨z, dec_weaker hz, he⟩ ?_
        rintro n st ⟨z, hw, hi⟩
        cases n with
        | zero => simp [iter] at hi
        | succ n =>
          simp only [iter] at hi
          rw [← hF] at hi
          refine awp_weaken hw ((exec_sound hG hFT hm x a hok hi).mono fun e s' hp => ?_)
          obtain ⟨f, rfl, hk⟩ := hp
          cases e with
          | normal =>
            simp only at hk
            split at hk
            · rename_i z' hz'
              rw [hF] at hk
              exact ⟨n, Nat.lt_succ_self _, z', dec_weaker hz', hk⟩
            · cases hk
          | _ => exact ⟨f, rfl, hk⟩
      · cases he
    | _ => simp [exec] at he
  | .rangeFunc .., h, s, k, r, _, he => by cases h <;> simp [exec] at he
  | .scope .., h, s, k, r, _, he => by cases h <;> simp [exec] at he
  | .label .., h, s, k, r, _, he => by cases h <;> simp [exec] at he
  | .goto .., h, s, k, r, _, he => by cases h <;> simp [exec] at he
  | .refuse .., h, s, k, r, _, he => by cases h <;> simp [exec] at he
end Go.Abs
