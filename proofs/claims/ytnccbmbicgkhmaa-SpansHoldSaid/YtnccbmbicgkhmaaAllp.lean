/- All rows of a range: how many, which characters. -/
import Derived.Test.YtnccbmbicgkhmaaRowl
import Derived.Test.YtnccbmbicgkhmaaAll
namespace Go.Proofs.Ytnccbmbicgkhmaa

theorem part_few {lo hi x y : Int} {m : Nat} (hc : ∀ a b, a ≤ b → x ≤ a → b ≤ y → Cls a b ∧ (rowsP a b).length ≤ m) : (part lo hi x y).length ≤ m := by
  unfold part
  split
  · exact (hc _ _ ‹_› (by omega) (by omega)).2
  · simp
theorem all_len (lo hi : Int) : (allP lo hi).length ≤ 20 := by
  have s1 : ∀ a : Int, a ≤ 127 → szC a ≤ 1 := fun a h => by unfold szC; rw [if_pos (by omega)]; omega
  have s2 : ∀ a : Int, a ≤ 2047 → szC a ≤ 2 := fun a h => by have := sz_cls (lo := a); omega
  have s3 : ∀ a : Int, a ≤ 65535 → szC a ≤ 3 := fun a h => by have := sz_cls (lo := a); omega
  unfold allP
  have l0 : 0 ≤ max lo 0 := by omega
  have h0 : min hi 1114111 ≤ 1114111 := by omega
  generalize max lo 0 = a at *
  generalize min hi 1114111 = b at *
  have p0 := part_few (lo := a) (hi := b) (x := 0) (y := 127) (m := 1) (fun u v h h1 h2 => by
    have k : Cls u v := by unfold Cls; omega
    have := few1 h k
    exact ⟨k, by have := s1 u (by omega); omega⟩)
  have p1 := part_few (lo := a) (hi := b) (x := 128) (y := 2047) (m := 3) (fun u v h h1 h2 => by
    have k : Cls u v := by unfold Cls; omega
    have := few1 h k
    exact ⟨k, by have := s2 u (by omega); omega⟩)
  have p2 := part_few (lo := a) (hi := b) (x := 2048) (y := 55295) (m := 5) (fun u v h h1 h2 => by
    have k : Cls u v := by unfold Cls; omega
    have := few1 h k
    exact ⟨k, by have := s3 u (by omega); omega⟩)
  have p3 := part_few (lo := a) (hi := b) (x := 57344) (y := 65535) (m := 5) (fun u v h h1 h2 => by
    have k : Cls u v := by unfold Cls; omega
    have := few1 h k
    exact ⟨k, by have := s3 u (by omega); omega⟩)
  have p4 : (part a b 65536 1114111).length ≤ 7 := part_few (fun u v h h1 h2 => by
    have k : Cls u v := by unfold Cls; omega
    exact ⟨k, (few1 h k).1⟩)
  have key : (part a b 0 127).length = 0 ∨ (part a b 2048 55295).length = 0 ∨ (part a b 128 2047).length ≤ 1 := by
    by_cases c1 : max a 0 ≤ min b 127
    · by_cases c2 : max a 2048 ≤ min b 55295
      · refine .inr (.inr ?_)
        unfold part
        rw [if_pos (by omega), show max a 128 = 128 by omega, show min b 2047 = 2047 by omega]
        have : (rowsP 128 2047).length = 1 := few_leaf (by decide)
        omega
      · refine .inr (.inl ?_)
        unfold part
        rw [if_neg c2]
        rfl
    · refine .inl ?_
      unfold part
      rw [if_neg c1]
      rfl
  unfold upto
  simp only [List.take_succ_cons, List.take_zero, List.flatten_cons, List.flatten_nil, List.length_append, List.length_nil]
  omega
theorem part_ok {lo hi x y : Int} (hc : ∀ a b, x ≤ a → b ≤ y → Cls a b) : ∀ r ∈ part lo hi x y, rowOk r := by
  unfold part
  split
  · exact rows_ok ‹_› (hc _ _ (by omega) (by omega))
  · intro r hr; simp at hr
theorem all_ok (lo hi : Int) : ∀ r ∈ allP lo hi, rowOk r := by
  unfold allP upto
  intro r hr
  simp only [List.take_succ_cons, List.take_zero, List.flatten_cons, List.flatten_nil, List.mem_append, List.not_mem_nil, or_false] at hr
  rcases hr with h | h | h | h | h
  · exact part_ok (fun a b _ _ => by unfold Cls; omega) r h
  · exact part_ok (fun a b _ _ => by unfold Cls; omega) r h
  · exact part_ok (fun a b _ _ => by unfold Cls; omega) r h
  · exact part_ok (fun a b _ _ => by unfold Cls; omega) r h
  · exact part_ok (fun a b _ _ => by unfold Cls; omega) r h
def span (lo hi x y : Int) : Int := if max lo x ≤ min hi y then min hi y - max lo x + 1 else 0
theorem part_count {lo hi x y : Int} (hc : ∀ a b, x ≤ a → b ≤ y → Cls a b) : sumC (part lo hi x y) = span lo hi x y := by
  unfold part span
  split
  · exact rows_count ‹_› (hc _ _ (by omega) (by omega))
  · rfl
def charsC (lo hi : Int) : Int := span lo hi 0 55295 + span lo hi 57344 1114111
theorem span_join (lo hi x m y : Int) (h1 : x ≤ m + 1) (h2 : m ≤ y) : span lo hi x m + span lo hi (m + 1) y = span lo hi x y := by
  unfold span
  repeat' split
  all_goals omega
theorem span_clip (lo hi x y : Int) (h1 : 0 ≤ x) (h2 : y ≤ 1114111) : span (max lo 0) (min hi 1114111) x y = span lo hi x y := by
  unfold span
  rw [show max (max lo 0) x = max lo x by omega, show min (min hi 1114111) y = min hi y by omega]
theorem all_count (lo hi : Int) : sumC (allP lo hi) = charsC lo hi := by
  unfold allP upto
  simp only [List.take_succ_cons, List.take_zero, List.flatten_cons, List.flatten_nil, sumC_append]
  rw [part_count (fun a b _ _ => by unfold Cls; omega), part_count (fun a b _ _ => by unfold Cls; omega), part_count (fun a b _ _ => by unfold Cls; omega), part_count (fun a b _ _ => by unfold Cls; omega), part_count (fun a b _ _ => by unfold Cls; omega)]
  have e : sumC [] = 0 := rfl
  rw [e, span_clip _ _ _ _ (by omega) (by omega), span_clip _ _ _ _ (by omega) (by omega), span_clip _ _ _ _ (by omega) (by omega), span_clip _ _ _ _ (by omega) (by omega), span_clip _ _ _ _ (by omega) (by omega)]
  have j1 := span_join lo hi 0 127 2047 (by omega) (by omega)
  have j2 := span_join lo hi 0 2047 55295 (by omega) (by omega)
  have j3 := span_join lo hi 57344 65535 1114111 (by omega) (by omega)
  simp only [Int.reduceAdd] at j1 j2 j3
  unfold charsC
  omega
theorem part_holds {lo hi x y c : Int} (hc : ∀ a b, x ≤ a → b ≤ y → Cls a b) : holdsR (part lo hi x y) (encC c) = inB (max lo x) (min hi y) c := by
  unfold part
  split
  · exact rows_holds ‹_› (hc _ _ (by omega) (by omega))
  · unfold inB holdsR
    rw [if_neg (by omega)]
    rfl
theorem all_holds (lo hi c : Int) (hw : wholeB c = true) : holdsR (allP lo hi) (encC c) = inB lo hi c := by
  have := whole_of hw
  unfold allP upto
  simp only [List.take_succ_cons, List.take_zero, List.flatten_cons, List.flatten_nil, holdsR_append]
  rw [part_holds (fun a b _ _ => by unfold Cls; omega), part_holds (fun a b _ _ => by unfold Cls; omega), part_holds (fun a b _ _ => by unfold Cls; omega), part_holds (fun a b _ _ => by unfold Cls; omega), part_holds (fun a b _ _ => by unfold Cls; omega)]
  have e : holdsR [] (encC c) = 0 := rfl
  rw [e]
  unfold inB
  by_cases h : lo ≤ c ∧ c ≤ hi
  · rw [if_pos h]
    repeat' split
    all_goals omega
  · rw [if_neg h, if_neg (by omega), if_neg (by omega), if_neg (by omega), if_neg (by omega), if_neg (by omega)]
    rfl
end Go.Proofs.Ytnccbmbicgkhmaa
