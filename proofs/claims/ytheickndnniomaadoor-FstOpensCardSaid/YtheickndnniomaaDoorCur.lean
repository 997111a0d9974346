/- Package tuple: the cursor: At, Num, Count, Rest. -/
import Derived.Test.YtheickndnniomaaDoorNumw
namespace Go.Proofs.YtheickndnniomaaDoor
open Go.RowKit

/-- A cursor before these bytes. -/
def CurAt (W : World) (b : Nat) (t : List UInt8) : Prop := W.heap[b]? = some (.cells #[.string ⟨t.toArray⟩] 92 (0, 0))
theorem run_from (t : List UInt8) (k : Nat) (h : k ≤ t.length) (w : World) : (Instr.slice 9 (.string ⟨t.toArray⟩) (some (.int .i64 (k : Nat))) none none).run Tryd.prog w = .ok (.string ⟨(t.drop k).toArray⟩) w := by
  have hz : (⟨t.toArray⟩ : ByteArray).size = t.length := by show t.toArray.size = _; simp
  have e : (⟨t.toArray⟩ : ByteArray).extract k t.length = ⟨(t.drop k).toArray⟩ := by
    apply ByteArray.ext
    apply Array.ext'
    simp [ByteArray.data_extract, List.take_of_length_le]
  have hb : ((k : Nat) : Int) ≤ ((t.length : Nat) : Int) := by omega
  have hc : (0 : Int) ≤ (k : Nat) := by omega
  simp [Instr.slice, run_underlying Tryd.underlying9, Instr.sliceBounds, run_sliceBound, hz, hb, e]
set_option maxRecDepth 100000 in
theorem at_any (w : World) (t : List UInt8) : Calls Tryd.prog 34 #[.string ⟨t.toArray⟩] w fun e w' => e = .returned (.pointer (some ⟨w.heap.size, 0, none⟩)) ∧ CurAt w' w.heap.size t ∧ Below w.heap.size w w' := by
  go_enter Tryd.func34, Tryd.ntmps34
  go_wp2_with fail
  go_ret
  exact ⟨rfl, heap_alloc_new w _, bnew (brefl w) _⟩
set_option maxRecDepth 100000 in
theorem rest_any (w : World) (b : Nat) (t : List UInt8) (h : CurAt w b t) : Calls Tryd.prog 37 #[.pointer (some ⟨b, 0, none⟩)] w fun e w' => e = .returned (.string ⟨t.toArray⟩) ∧ w' = w := by
  have c0 := cell_of_row w b 0 _ _ (0, 0) h
  simp at c0
  clear h
  go_enter Tryd.func37, Tryd.ntmps37
  go_wp2_with fail
  go_ret
  exact ⟨rfl, rfl⟩
/-- What Num answers, and what is left. -/
def readNum (t : List UInt8) : Int × Int × List UInt8 := if (numR t).2.2 = 0 then ((numR t).1, 0, t.drop (numR t).2.1.toNat) else (0, (numR t).2.2, t)
theorem numR_k (t : List UInt8) (h : (numR t).2.2 = 0) : ∃ k : Nat, (numR t).2.1 = (k : Int) ∧ 1 ≤ k ∧ k ≤ t.length := by
  unfold numR at h ⊢
  by_cases hne : t = []
  · rw [if_pos hne] at h
    cases h
  have hlen : 0 < t.length := List.length_pos_iff.2 hne
  rw [if_neg hne] at h ⊢
  simp only at h ⊢
  by_cases h1 : 16 ≤ byteN t 0 ∧ byteN t 0 < 240
  · rw [if_pos h1]
    exact ⟨1, rfl, Nat.le_refl _, hlen⟩
  rw [if_neg h1] at h ⊢
  by_cases h2 : byteN t 0 < 8 ∨ 247 < byteN t 0
  · rw [if_pos h2] at h
    cases h
  rw [if_neg h2] at h ⊢
  have hK : 1 ≤ (if byteN t 0 < 16 then 16 - byteN t 0 else byteN t 0 - 239) := by split <;> omega
  generalize (if byteN t 0 < 16 then 16 - byteN t 0 else byteN t 0 - 239) = K at *
  by_cases h3 : t.length ≤ K
  · rw [if_pos h3] at h
    cases h
  rw [if_neg h3] at h ⊢
  generalize decide (byteN t 0 < 16) = fl at *
  by_cases h4 : 1 < K ∧ flipN fl (byteN t 1) = 0
  · rw [if_pos h4] at h
    cases h
  rw [if_neg h4] at h ⊢
  by_cases h5 : accN fl t K ≤ 9223372036854775695
  · rw [if_pos h5]
    by_cases h6 : byteN t 0 < 16
    · rw [if_pos h6]
      exact ⟨K + 1, (Int.natCast_add K 1).symm, by omega, by omega⟩
    · rw [if_neg h6]
      exact ⟨K + 1, (Int.natCast_add K 1).symm, by omega, by omega⟩
  · rw [if_neg h5] at h
    cases h
theorem cur_set {W : World} {b : Nat} {t u : List UInt8} (h : CurAt W b t) : CurAt (W.setCell ⟨b, 0, none⟩ (.string ⟨u.toArray⟩)) b u := by
  unfold CurAt at h ⊢
  simp [World.setCell, Array.getElem?_modify, h]
theorem cur_below {W W' : World} {b : Nat} {t : List UInt8} (h : CurAt W b t) (hb : Below W.heap.size W W') : CurAt W' b t := (hb.block b (Array.getElem?_eq_some_iff.1 h).1).trans h
theorem set_grown' (w : World) (b : Nat) (u : Value) : w.grownBy (w.setCell ⟨b, 0, none⟩ u) (some b) :=
  ⟨rfl, rfl, rfl, by simp [World.setCell], fun k _ hk => Below.heap_setCell _ _ _ k (fun e => hk (by rw [e]))⟩
theorem below_grown {w w' : World} (h : Below w.heap.size w w') (r : Option Nat) : w.grownBy w' r := ⟨h.os, h.tape, h.output, h.size, fun k hk _ => h.block k hk⟩
set_option maxRecDepth 100000 in
set_option maxHeartbeats 4000000 in
theorem num_any (w : World) (b : Nat) (t : List UInt8) (h : CurAt w b t) (ht : t.length ≤ 1125899906842624) : Calls Tryd.prog 45 #[.pointer (some ⟨b, 0, none⟩)] w fun e w' => e = .returned (.tuple #[.int .i64 (readNum t).1, .int .i64 (readNum t).2.1]) ∧ CurAt w' b (readNum t).2.2 ∧ w.grownBy w' (some b) := by
  have c0 := cell_of_row w b 0 _ _ (0, 0) h
  simp at c0
  have HN := Lib.hid (number_any w t ht)
  have H := Lib.hid h
  have hkk := numR_k t
  by_cases he : (numR t).2.2 = 0
  · obtain ⟨k, hk, k1, k2⟩ := hkk he
    have HR : Hid (readNum t = ((numR t).1, 0, t.drop k)) := by
      show _ = _
      unfold readNum
      rw [if_pos he, hk]
      rfl
    rw [HR.out]
    rw [he, hk] at HN
    generalize (numR t).1 = n at *
    have hcut := run_from t k k2
    clear hkk h he hk HR
    go_enter Tryd.func45, Tryd.ntmps45
    go_wp2_with fail
    refine HN.out.mono ?_
    rintro e w1 ⟨rfl, hb1⟩
    have H1 := Lib.hid (cur_below H.out hb1)
    have c1 := cell_of_row w1 b 0 _ _ (0, 0) H1.out
    have f1 : w1.frozen? ⟨b, 0, none⟩ = false := by
      have := H1.out
      unfold CurAt at this
      simp [World.frozen?, this]
    simp at c1
    have HB := Lib.hid hb1
    clear hb1
    go_wp2_with fail
    go_ret2
    exact ⟨rfl, cur_set H1.out, (below_grown HB.out (some b)).trans (set_grown' _ _ _)⟩
  · have HR : Hid (readNum t = (0, (numR t).2.2, t)) := by
      show _ = _
      unfold readNum
      rw [if_neg he]
    rw [HR.out]
    generalize (numR t).2.2 = e at *
    generalize (numR t).2.1 = k at *
    generalize (numR t).1 = n at *
    have q1 : (e != 0) = true := by simpa using he
    clear hkk h he HR
    go_enter Tryd.func45, Tryd.ntmps45
    go_wp2_with fail
    refine HN.out.mono ?_
    rintro e w1 ⟨rfl, hb1⟩
    go_wp2_with fail
    go_ret2
    exact ⟨rfl, cur_below H.out hb1, below_grown hb1 _⟩
/-- What Count answers, and what is left. -/
def readCnt (t : List UInt8) : Int × Int × List UInt8 := if (readNum t).2.1 = 0 ∧ (readNum t).1 < 0 then (0, 3, t) else readNum t
set_option maxRecDepth 100000 in
set_option maxHeartbeats 4000000 in
theorem count_any (w : World) (b : Nat) (t : List UInt8) (h : CurAt w b t) (ht : t.length ≤ 1125899906842624) : Calls Tryd.prog 35 #[.pointer (some ⟨b, 0, none⟩)] w fun e w' => e = .returned (.tuple #[.int .i64 (readCnt t).1, .int .i64 (readCnt t).2.1]) ∧ CurAt w' b (readCnt t).2.2 ∧ w.grownBy w' (some b) := by
  have c0 := cell_of_row w b 0 _ _ (0, 0) h
  simp at c0
  have HN := Lib.hid (num_any w b t h ht)
  by_cases hc : (readNum t).2.1 = 0 ∧ (readNum t).1 < 0
  · have HR : readCnt t = (0, 3, t) := if_pos hc
    rw [HR]
    obtain ⟨he, hn⟩ := hc
    rw [he] at HN
    generalize (readNum t).2.2 = u at *
    generalize (readNum t).1 = n at *
    have q2 : decide (n < 0) = true := by simpa using hn
    clear h HR he hn
    go_enter Tryd.func35, Tryd.ntmps35
    go_wp2_with fail
    refine HN.out.mono ?_
    rintro e w1 ⟨rfl, h1, hg1⟩
    have H1 := Lib.hid h1
    have HG := Lib.hid hg1
    have c1 := cell_of_row w1 b 0 _ _ (0, 0) h1
    have f1 : w1.frozen? ⟨b, 0, none⟩ = false := by
      have := h1
      unfold CurAt at this
      simp [World.frozen?, this]
    simp at c1
    clear h1 hg1
    go_wp2_with fail
    go_ret2
    exact ⟨rfl, cur_set H1.out, HG.out.trans (set_grown' _ _ _)⟩
  · have HR : readCnt t = readNum t := if_neg hc
    rw [HR]
    generalize (readNum t).2.2 = u at *
    generalize (readNum t).2.1 = e at *
    generalize (readNum t).1 = n at *
    have hcase : (e == 0) = false ∨ ((e == 0) = true ∧ decide (n < 0) = false) := by
      by_cases h0 : e = 0
      · exact .inr ⟨by simpa using h0, by simp; omega⟩
      · exact .inl (by simpa using h0)
    clear h HR hc
    rcases hcase with q1 | ⟨q1, q2⟩
    all_goals
      go_enter Tryd.func35, Tryd.ntmps35
      go_wp2_with fail
      refine HN.out.mono ?_
      rintro e' w1 ⟨rfl, h1, hg1⟩
      go_wp2_with fail
      go_ret2
      exact ⟨rfl, h1, hg1⟩
end Go.Proofs.YtheickndnniomaaDoor
