/- telegram.text: what it returns. -/
import Derived.Test.YtodandhnddjfpaaDoorTb
namespace Go.Proofs
set_option linter.unusedVariables false
open Go.Shelf Go.RowKit Go.Lib
namespace Y3
set_option maxHeartbeats 4000000 in
set_option maxRecDepth 100000 in
theorem textC (w : World) (k c : ByteArray) (a : Option Addr) (cap : Nat) (es : List (ByteArray × List ByteArray)) (hel : ∀ (j : Nat) e, es[j]? = some e → ElAt w a j e) (hcap : es.length ≤ cap)
    (hlen : (textB k c es).length ≤ 140737488355328) :
    Calls Tryd.prog 25 #[.agg #[.string k, .string c, .slice a es.length cap]] w fun e w' => e = .returned (.string ⟨(textB k c es).toArray⟩) ∧ Below w.heap.size w w' := by
  have hb : k.size + 1 ≤ (headB k c).length ∧ (c ≠ ByteArray.empty → k.size + 1 + (c.size + 1) = (headB k c).length) := by
    unfold headB
    split
    · rename_i h; exact ⟨by simp, fun h' => absurd h h'⟩
    · exact ⟨by simp, fun _ => by simp; omega⟩
  have hk : k.size + (headB k c).length + 4 ≤ 140737488355328 := by
    have h := hlen
    simp only [textB, bodyB, List.length_append, List.length_cons, List.length_nil, Array.length_toList, ByteArray.size_data] at h
    omega
  obtain ⟨hb1, hb2⟩ := hb
  have hes : es.length ≤ 140737488355328 := by
    have h := hlen
    have h' := count_le es
    simp only [textB, bodyB, List.length_append] at h
    omega
  have Hel := Any.hidJ hel
  have Hlen := Any.hidJ hlen
  clear hel hlen
  have hc : c.size ≤ 140737488355328 := by
    by_cases h : c = ByteArray.empty
    · subst h; decide
    · have := hb2 h; omega
  go_enter Tryd.func25, Tryd.ntmps25
  go_wp2_with fail
  all_goals try omega
  refine (write (w.heap.size + 1) (w.heap.size + 1) [] _ _ ?hb1 ?hl1 ?hs1).mono ?_
  case hb1 => have := Lib.fresh_isBuilder 67 5 (w.alloc (Obj.cells #[Value.string k, Value.string c, Value.slice a es.length cap] 24)); simpa [Bd, Lib.byteCells] using this
  case hl1 => simp [show (⟨#[10]⟩ : ByteArray).size = 1 from rfl]; omega
  case hs1 => simp
  rintro e w1 ⟨rfl, h1, hw1⟩
  have F1 := Any.hidJ ((Fr.start w k c (Value.slice a es.length cap) _).step hw1)
  rw [List.nil_append, toList_append] at h1
  have H1 := Any.hidJ h1
  clear h1 hw1
  have c0 := F1.out.c0
  have c1 := F1.out.c1
  have c2 := F1.out.c2
  by_cases hce : c = ByteArray.empty
  case' neg =>
    have hem : c.toList.isEmpty = false := by rw [← decide_eq_emptyBytes]; simpa using hce
    go_wp2_with fail
    all_goals try omega
    refine (write (w.heap.size + 1) (w.heap.size + 1) _ _ w1 H1.out ?hl2 F1.out.size).mono ?_
    case hl2 => have := hb2 hce; simp [show (⟨#[10]⟩ : ByteArray).size = 1 from rfl]; omega
    rintro e w2 ⟨rfl, h2, hw2⟩
    rw [toList_append, show (k.data.toList ++ [10]) ++ (c.data.toList ++ [10]) = headB k c by rw [headB, if_neg hce]] at h2
    have F := Any.hidJ (F1.out.step hw2)
    have H := Any.hidJ h2
    clear h2 hw2 c0 c1 c2 H1 F1
    have c0 := F.out.c0
    have c1 := F.out.c1
    have c2 := F.out.c2
    clear hce
    go_wp2_with fail
  case' pos =>
    have hem : c.toList.isEmpty = true := by rw [← decide_eq_emptyBytes]; simpa using hce
    rw [show k.data.toList ++ [10] = headB k c by rw [headB, if_pos hce]] at H1
    have F := F1
    have H := H1
    clear H1 F1 hce
    go_wp2_with fail
  all_goals (
    clear c0 c1 c2
    go_loopw [20] (fun i wr => ∃ j : Nat, j ≤ es.length ∧ i = .int .i64 j ∧ Hid (Bd (w.heap.size + 1) (w.heap.size + 1) (headB k c ++ ((es.take j).map elemB).flatten) wr) ∧ Hid (Fr w k c (Value.slice a es.length cap) wr)) (fun i _ => es.length - (Go.RowKit.intOf i).toNat)
    case atStart => exact ⟨0, Nat.zero_le _, rfl, by simpa using H, F⟩
    case round =>
      obtain ⟨j, hj, rfl, HB, HF⟩ := hrel
      clear H F
      by_cases hjn : j < es.length
      · obtain ⟨e, he⟩ : ∃ e, es[j]? = some e := ⟨es[j], List.getElem?_eq_getElem hjn⟩
        obtain ⟨b, off, pa, pcap, ha, hb, hk0, hp0, hpc, hps⟩ := Hel.out j e he
        subst ha
        have hk1 : wr.cell? ⟨b, off + j * 2, none⟩ = some (.string e.1) := by rw [HF.out.below.cell (p := ⟨b, off + j * 2, none⟩) hb]; exact hk0
        have hp1 : wr.cell? ⟨b, off + j * 2 + 1, none⟩ = some (.slice pa e.2.length pcap) := by rw [HF.out.below.cell (p := ⟨b, off + j * 2 + 1, none⟩) hb]; exact hp0
        have Hps := Any.hidJ hps
        clear hk0 hp0 hps
        have HS : Hid (St w k c (Value.slice (some ⟨b, off, none⟩) es.length cap) (headB k c ++ ((es.take j).map elemB).flatten) (wr.alloc (Obj.cells #[Value.string e.1, Value.slice pa e.2.length pcap] 34))) := St.alloc ⟨HB.out, HF.out⟩ _
        have hA : (wr.alloc (Obj.cells #[Value.string e.1, Value.slice pa e.2.length pcap] 34)).cell? ⟨wr.heap.size, 0, none⟩ = some (.string e.1) := by rw [Lib.cell_of_heap (heap_alloc_new wr _)]; rfl
        have hB : (wr.alloc (Obj.cells #[Value.string e.1, Value.slice pa e.2.length pcap] 34)).cell? ⟨wr.heap.size, 1, none⟩ = some (.slice pa e.2.length pcap) := by rw [Lib.cell_of_heap (heap_alloc_new wr _)]; rfl
        have hsum : (headB k c ++ ((es.take j).map elemB).flatten).length + (elemB e).length ≤ 140737488355328 := by
          have h1 := Hlen.out
          have h2 : es = es.take j ++ e :: es.drop (j + 1) := by
            obtain ⟨hlt, rfl⟩ := List.getElem?_eq_some_iff.1 he
            rw [List.getElem_cons_drop, List.take_append_drop]
          simp only [textB, bodyB, List.length_append] at h1
          rw [h2] at h1
          simp only [List.map_append, List.map_cons, List.flatten_append, List.flatten_cons, List.length_append] at h1
          rw [List.length_append]
          omega
        have hj1 : (Lib.join (e.2.map (·.data.toList)) [47]).length + e.1.size + 3 ≤ 140737488355328 := by rw [← elemB_length]; omega
        have hj2 : e.2.length ≤ 140737488355328 := by have := parts_le (e.2.map (·.data.toList)); rw [List.length_map] at this; omega
        have hstep : headB k c ++ ((es.take (j + 1)).map elemB).flatten = headB k c ++ ((es.take j).map elemB).flatten ++ elemB e := by
          rw [List.take_add_one, he]; simp
        have Hsum := Any.hidJ hsum
        have Hstep := Any.hidJ hstep
        clear hsum hstep
        go_wp2_with fail
        apply round8 (es := es) (j := j) (e := e) Hps hpc (by omega) hj2 Hsum Hstep HS hA hB (by simp) _ ?_ _ _ _ (fun e w' => e = Ending.returned (Value.string ⟨(textB k c es).toArray⟩) ∧ Below w.heap.size w w') _ ?_ _ ?_ ?_
        any_goals exact rfl
        intro x24 x25 x26 x27 x28 x29 x30 x31 x32 x33 w' HS'
        clear hA hB
        go_wp2
        exact ⟨⟨j + 1, by omega, by go_num, HS'.out.bd, HS'.out.fr⟩, by simp [Go.RowKit.intOf]; omega⟩
      · have hje : j = es.length := by omega
        subst hje
        have c0 := HF.out.c0
        rw [List.take_length] at HB
        have HS : Hid (St w k c (Value.slice a es.length cap) (bodyB k c es) wr) := ⟨HB.out, HF.out⟩
        have hl : (bodyB k c es).length + ((⟨#[69, 78, 68]⟩ ++ k : ByteArray) ++ ⟨#[10]⟩).size ≤ 140737488355328 := by
          have h := Hlen.out
          simp only [textB, List.length_append, List.length_cons, List.length_nil, Array.length_toList, ByteArray.size_data] at h
          simp [show (⟨#[69, 78, 68]⟩ : ByteArray).size = 3 from rfl, show (⟨#[10]⟩ : ByteArray).size = 1 from rfl]
          omega
        have Hl := Any.hidJ hl
        clear hl
        go_wp2_with fail
        refine (writeS HS _ Hl.out).mono ?_
        rintro e' w3 ⟨rfl, HS3⟩
        rw [show bodyB k c es ++ ((⟨#[69, 78, 68]⟩ ++ k : ByteArray) ++ ⟨#[10]⟩).data.toList = textB k c es by simp [textB]] at HS3
        go_wp2_with fail
        refine (strg _ _ _ w3 HS3.out.bd HS3.out.fr.size).mono ?_
        rintro e' w4 ⟨rfl, hw4⟩
        have Hw4 := Any.hidJ (HS3.out.fr.below.trans (hw4.mono (Nat.le_succ _)))
        clear hw4
        go_wp2
        go_ret
        exact ⟨rfl, Hw4.out⟩
    )
end Y3
end Go.Proofs
